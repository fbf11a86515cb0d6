/- One plain sentence: contracts and plain laws that the claim rests on. Conditions: those that each states. -/
import Derived.Orders
import Derived.Laws.World
import Derived.KernelRfl
import Derived.Laws.Strings
import Derived.Tactics
import Derived.Scope
import Derived.Below
import Derived.Laws.AppendOwn
import Derived.Laws.BytesArg
import Derived.Test.YtjblfcfdeaagpaaGreatDoorProg
import Derived.Lib.DecodeN
import Derived.Lib.RuneBytes
import Derived.Lib.Index
set_option linter.all false
set_option linter.unusedSimpArgs false
set_option linter.unusedVariables false
set_option linter.unusedSectionVars false
set_option maxRecDepth 100000
abbrev _root_.bA := @Option.some.injEq
abbrev _root_.fW := @List.map_cons
abbrev _root_.aL := @if_neg
abbrev _root_.aB := @List.length_cons
abbrev _root_.aA := @List.setIfInBounds_toArray
abbrev _root_.cO := @List.length_take
abbrev _root_.lV := @List.length_set
abbrev _root_.wV := @List.getElem?_take
abbrev _root_.jG := @List.getElem?_drop
abbrev _root_.bJ := @Nat.add_zero
abbrev _root_.cV := @ne_eq
abbrev _root_.cP := @not_true_eq_false
abbrev _root_.qY := @if_false
abbrev _root_.aN := @cond_false
abbrev _root_.aO := @cond_true
abbrev _root_.zM := @Array.all_eq_true_iff_forall_mem
abbrev _root_.aG := @List.getElem?_eq_getElem
abbrev _root_.eW := @List.getElem?_eq_none
abbrev _root_.aH := @Option.map_some
abbrev _root_.zJ := @Nat.add_comm
abbrev _root_.kT := @Nat.eq_of_beq_eq_true
abbrev _root_.lR := @Nat.le_of_ble_eq_true
abbrev _root_.aU := @if_pos
abbrev _root_.bC := @List.mem_cons
abbrev _root_.bN := @List.getElem?_toArray
abbrev _root_.oM := @Nat.lt_or_ge
abbrev _root_.kW := @Array.getD_eq_getD_getElem?
abbrev _root_.Cj := @Array.getElem?_setIfInBounds
abbrev _root_.kG := @Ne.symm
abbrev _root_.bU := @Bool.and_eq_true
abbrev _root_.iD := @List.all_eq_true
abbrev _root_.nJ := @List.mem_range
abbrev _root_.mU := @List.any_eq_true
abbrev _root_.gK := @Bool.or_eq_true
abbrev _root_.iK := @beq_iff_eq
abbrev _root_.fN := @decide_eq_true_eq
abbrev _root_.mJ := @Bool.not_eq_true'
abbrev _root_.cD := @List.mem_append_left
abbrev _root_.bZ := @List.mem_filterMap
abbrev _root_.bP := @List.mem_append_right
abbrev _root_.aD := @List.mem_cons_of_mem
abbrev _root_.gS := @Prod.mk.injEq
abbrev _root_.aW := @List.mem_cons_self
abbrev _root_.bG := @List.getElem?_cons_zero
abbrev _root_.aZ := @Nat.le_refl
abbrev _root_.bI := @List.mem_of_getElem?
abbrev _root_.nW := @List.mem_filter
abbrev _root_.aE := @List.size_toArray
abbrev _root_.gE := @List.mem_map
abbrev _root_.bX := @List.mem_singleton
abbrev _root_.dK := @List.nodup_cons
abbrev _root_.qH := @if_true
abbrev _root_.mV := @Bool.false_eq_true
abbrev _root_.dR := @Nat.le_trans
abbrev _root_.iC := @List.cons_append
abbrev _root_.bR := @List.getD_eq_getElem?_getD
abbrev _root_.dD := @Nat.lt_of_lt_of_le
abbrev _root_.dS := @Bool.true_and
abbrev _root_.iO := @Iff.rfl
abbrev _root_.gH := @Array.getElem?_eq_some_iff
abbrev _root_.fB := @Nat.mul_le_mul_right
abbrev _root_.aV := @Int.toNat_natCast
abbrev _root_.bS := @List.getElem?_eq_some_iff
abbrev _root_.cW := @List.eq_nil_of_length_eq_zero
abbrev _root_.aI := @Nat.zero_add
abbrev _root_.fX := @List.append_nil
abbrev _root_.fO := @List.getElem?_map
abbrev _root_.iA := @List.nodup_append
abbrev _root_.nX := @Bool.eq_iff_iff
abbrev _root_.gP := @List.cons.injEq
abbrev _root_.cU := @decide_false
abbrev _root_.cN := @Option.isSome_some
abbrev _root_.kV := @List.map_nil
abbrev _root_.bK := @List.mem_append
abbrev _root_.Bh := @Nat.lt_succ_self
abbrev _root_.qB := @List.mem_or_eq_of_mem_set
abbrev _root_.aK := @List.length_nil
abbrev _root_.iH := @List.take_of_length_le
abbrev _root_.jT := @List.take_add_one
abbrev _root_.sH := @List.getElem?_set_self
abbrev _root_.iI := @List.drop_of_length_le
abbrev _root_.mM := @Nat.add_mul
abbrev _root_.dJ := @true_and
abbrev _root_.fM := @and_true
abbrev _root_.dY := @Bool.and_true
abbrev _root_.dO := @Bool.and_false
abbrev _root_.dM := @Bool.false_and
abbrev _root_.fF := @Bool.or_true
abbrev _root_.eH := @Bool.or_false
abbrev _root_.dX := @Bool.true_or
abbrev _root_.dC := @Bool.false_or
abbrev _root_.dH := @Bool.not_true
abbrev _root_.cH := @Bool.not_false
abbrev _root_.bF := @List.getElem?_cons_succ
abbrev _root_.aM := @List.set_cons_zero
abbrev _root_.aQ := @List.set_cons_succ
abbrev _root_.aC := @List.getD_cons_zero
abbrev _root_.bO := @List.getD_cons_succ
abbrev _root_.pJ := @UInt8.toNat_lt
abbrev _root_.jO := @Prod.ext
abbrev _root_.eB := @List.drop_eq_getElem_cons
abbrev _root_.gL := @List.flatMap_cons
abbrev _root_.aP := @List.length_append
abbrev _root_.fQ := @List.getElem?_append_left
abbrev _root_.Ef := @Nat.zero_mul
abbrev _root_.fU := @List.getElem?_append_right
abbrev _root_.BJ := @List.drop_append_of_le_length
abbrev _root_.BI := @List.take_append_of_le_length
abbrev _root_.aX := @List.length_drop
abbrev _root_.eL := @List.drop_succ_cons
abbrev _root_.eZ := @List.drop_zero
abbrev _root_.kP := @List.drop_drop
abbrev _root_.tP := @List.getElem?_of_mem
abbrev _root_.kH := @List.count_append
abbrev _root_.zK := @List.flatten_cons
abbrev _root_.wR := @List.count_cons
abbrev _root_.wW := @List.count_eq_zero
abbrev _root_.fP := @List.length_map
abbrev _root_.rV := @Nat.le_succ
abbrev _root_.Eo := @List.isPrefixOf_iff_prefix
abbrev _root_.dU := @Nat.zero_le
abbrev _root_.wY := @Int.eq_ofNat_of_zero_le
abbrev _root_.iG := @List.length_pos_iff
abbrev _root_.mN := @Int.le_refl
abbrev _root_.fE := @List.append_assoc
abbrev _root_.mT := @List.perm_middle
abbrev _root_.vI := @Nat.add_le_add_left
abbrev _root_.gB := @List.nil_append
abbrev _root_.gU := @List.drop_length
abbrev _root_.CH := @List.perm_iff_count
abbrev _root_.oI := @List.take_succ_cons
abbrev _root_.bW := @decide_eq_true
abbrev _root_.bH := @decide_eq_false
abbrev _root_.mL := @UInt8.toNat_inj
abbrev _root_.aF := @exists_eq_left'
abbrev _root_.cG := @Nat.lt_add_one
abbrev _root_.aY := @Nat.zero_lt_succ
abbrev _root_.dF := @decide_true
abbrev _root_.dZ := @List.take_length
abbrev _root_.Bm := @Int.lt_irrefl
abbrev _root_.zI := @Option.map_eq_some_iff
abbrev _root_.El := @UInt8.toNat_ofNat'
abbrev _root_.uJ := @List.map_map
abbrev _root_.cA := @List.not_mem_nil
abbrev _root_.gG := @or_false
abbrev _root_.qI := @UInt8.ofNat_toNat
abbrev _root_.mI := @List.nodup_nil
abbrev _root_.Ep := @List.Perm.refl
abbrev _root_.pM := @List.take_append_drop
abbrev _root_.qZ := @List.append_cancel_left
abbrev _root_.sI := @List.drop_eq_nil_of_le
abbrev _root_.Bi := @List.getElem_mem
abbrev _root_.gT := @List.getElem?_take_of_lt
abbrev _root_.gM := @List.filterMap_cons
abbrev _root_.qN := @List.Sublist.append_left
abbrev _root_.uK := @List.sublist_append_right
abbrev _root_.Bj := @List.flatMap_nil
abbrev _root_.zL := @List.any_eq_false
abbrev _root_.sG := @List.pairwise_cons
abbrev _root_.cX := @not_false_eq_true
abbrev _root_.lI := @Classical.byContradiction
abbrev _root_.eK := @of_decide_eq_true
abbrev _root_.lW := @List.filterMap_nil
abbrev _root_.Ci := @List.length_zip
abbrev _root_.wM := @List.all_cons
abbrev _root_.Ei := @List.all_nil
namespace Go.Eng
section
open Go
variable{w:World}{K:Value->World->Prop}{cs:List Value}{G:Nat->Prop}{T:TypeId}{i:Nat}{n:Nat}{v:Value}{w':World}{P:Program}{c:UInt8}{S:Nat->Prop}
abbrev Fr:=Nat->Value
def upd(f:Fr)(d:Option Nat)(v:Value):Fr:=
 match d with
 |none=>f
 |some d=>λj=>bif Nat.beq j d then v else f j
def ev(f:Fr):Operand->Value
 |.tmp t=>f t
 |.const v=>v
 |.global g=>.pointer (some ⟨g,0,none⟩)
 |.func g=>.func (.func g) #[] #[]
def evl(f:Fr)(a:Array Operand):List Value:=a.toList.map (ev f)
def ofL(l:List UInt8):ByteArray:=⟨l.toArray⟩
theorem jD(l:List UInt8):(ofL l).data.toList=l:=by simp[ofL]
theorem jV(l:List UInt8):(ofL l).size=l.length:=by simp[ofL,ByteArray.size]
theorem Rk{a b:List UInt8}:ofL a=ofL b↔a=b:=by
 constructor
 ·intro h;have:=congrArg (λs=>s.data.toList) h;simpa[ofL]using this
 ·rintro rfl;rfl
class HX where
 X:List PanicEntry->World->Prop
@[reducible] def noX:HX:=⟨λ_ _=>False⟩
def Er[HX](K:Value->World->Prop):Ending->World->Prop
 |.returned v,w=>K v w
 |.panicked c,w=>HX.X c w
 |.outgrown,_=>False
theorem Er.mono[HX]{K':Value->World->Prop}(hk:∀v w,K v w->K' v w){e:Ending}(h:Er K e w):Er K' e w:=by
 cases e with
 |returned v=>exact hk _ _ h
 |panicked c=>exact h
 |outgrown=>exact h.elim
def Res[HX](P:Program)(K:Value->World->Prop):Result Next->Prop
 |.ok (.value v) w=>K v w
 |.ok .skip w=>K undef w
 |.ok (.enter g args) w=>Calls P g args w (Er K)
 |.ok (.row r args) w=>Rows P r args w K
 |.halt (.panic v) w=>HX.X [{v,recovered:=false}] w
 |_=>False
theorem Res.upon[HX]{o:Oper}{a:Act}{next:Act->World->Prop}{Q:Exit->Act->World->Prop}
  (hk:∀v w,K v w->next (a.put o.dst v) w)(hx:∀c w,HX.X c w->Q (.panic c) a w){r:Result Next}(h:Res P K r):o.upon P a next Q r:=by
 cases r with
 |ok n w=>
  cases n<;>simp only[Res]at h<;>simp only[Oper.upon]<;>first
   |exact hk _ _ h
   |exact h.elim
   |exact h.mono λ_ _ he=>hk _ _ he
   |(refine h.mono λe w' he=>?_
     cases e with
     |returned v=>exact hk _ _ he
     |panicked c=>exact hx _ _ he
     |outgrown=>exact he.elim)
 |halt x w=>
  cases x<;>simp only[Res]at h<;>simp only[Oper.upon]<;>first
   |exact h.elim
   |exact hx _ _ h
theorem Res.mono[HX]{K':Value->World->Prop}(hk:∀v w,K v w->K' v w){r:Result Next}(h:Res P K r):Res P K' r:=by
 cases r with
 |ok n w=>
  cases n<;>simp only[Res]at h⊢<;>first
   |exact hk _ _ h
   |exact h.elim
   |exact h.mono λ_ _ he=>hk _ _ he
   |exact h.mono λe w' he=>he.mono hk
 |halt x w=>
  cases x<;>simp only[Res]at h⊢<;>first
   |exact h.elim
   |exact h
def nG(c:Bool)(A:Prop):Prop:=bif c then A else False
theorem nG.out{c:Bool}{A:Prop}(h:nG c A):c=true/\A:=by
 cases c with
 |true=>exact⟨rfl,h⟩
 |false=>exact h.elim
def cZ(c a b:Value)(K:Value->Prop):Prop:=match c with|.bool t=>K (bif t then a else b)|_=>False
def eC(v:Value)(K:Value->Prop):Prop:=
 match v with
 |.pointer (some _)=>K v
 |.func (.func _) _ _=>K v
 |.iface _ _=>K v
 |_=>False
def aS(op:BinOp)(x y:Value)(K:Value->Prop):Prop:=
 match x,y with
 |.int k a,.int k' b=>
  match op with
  |.shl=>0<=b/\K (.int k (k.wrap (a*2^min b.toNat k.bits)))
  |.shr=>0<=b/\K (.int k (a.fdiv (2^min b.toNat k.bits)))
  |.add=>k=k'/\K (.int k (k.wrap (a+b)))
  |.sub=>k=k'/\K (.int k (k.wrap (a-b)))
  |.mul=>k=k'/\K (.int k (k.wrap (a*b)))
  |.quo=>k=k'/\b≠0/\K (.int k (k.wrap (a.tdiv b)))
  |.rem=>k=k'/\b≠0/\K (.int k (a.tmod b))
  |.and=>k=k'/\K (.int k (k.wrap (BitVec.ofInt k.bits a&&&BitVec.ofInt k.bits b).toNat))
  |.or=>k=k'/\K (.int k (k.wrap (BitVec.ofInt k.bits a|||BitVec.ofInt k.bits b).toNat))
  |.xor=>k=k'/\K (.int k (k.wrap (BitVec.ofInt k.bits a^^^BitVec.ofInt k.bits b).toNat))
  |.andNot=>k=k'/\K (.int k (k.wrap (BitVec.ofInt k.bits a&&&~~~BitVec.ofInt k.bits b).toNat))
  |.eql=>k=k'/\K (.bool (decide (a=b)))
  |.neq=>k=k'/\K (.bool (decide (a≠b)))
  |.lss=>k=k'/\K (.bool (decide (a<b)))
  |.leq=>k=k'/\K (.bool (decide (a<=b)))
  |.gtr=>k=k'/\K (.bool (decide (b<a)))
  |.geq=>k=k'/\K (.bool (decide (b<=a)))
 |.string a,.string b=>
  match op with
  |.add=>((a.size+b.size:Nat):Int)<=IntKind.i64.max/\K (.string (a++b))
  |.eql=>K (.bool (decide (a.data.toList=b.data.toList)))
  |.neq=>K (.bool (decide (a.data.toList≠b.data.toList)))
  |.lss=>K (.bool (Op.bytesLess a.data.toList b.data.toList))
  |.leq=>K (.bool (Op.bytesLess a.data.toList b.data.toList||decide (a.data.toList=b.data.toList)))
  |.gtr=>K (.bool (!(Op.bytesLess a.data.toList b.data.toList||decide (a.data.toList=b.data.toList))))
  |.geq=>K (.bool (!Op.bytesLess a.data.toList b.data.toList))
  |_=>False
 |_,_=>False
inductive EqK|bool|ptr|slice|map|func
def EqK.of:TypeDesc->Option EqK
 |.bool=>some .bool
 |.pointer _=>some .ptr
 |.slice _=>some .slice
 |.map _ _=>some .map
 |.func _ _ _=>some .func
 |_=>none
def eqW(k:EqK)(n:Bool)(x y:Value)(K:Value->Prop):Prop:=
 match k,x,y with
 |.bool,.bool a,.bool b=>K (.bool (n^^(a==b)))
 |.ptr,.pointer none,.pointer b=>K (.bool (n^^b.isNone))
 |.ptr,.pointer (some _),.pointer none=>K (.bool n)
 |.slice,.slice none _ _,.slice b _ _=>K (.bool (n^^b.isNone))
 |.slice,.slice (some _) _ _,.slice none _ _=>K (.bool n)
 |.map,.map none,.map b=>K (.bool (n^^b.isNone))
 |.map,.map (some _),.map none=>K (.bool n)
 |.func,.nilFunc,.nilFunc=>K (.bool (!n))
 |.func,.nilFunc,.func _ _ _=>K (.bool n)
 |.func,.func _ _ _,.nilFunc=>K (.bool n)
 |_,_,_=>False
def unW(op:UnOp)(x:Value)(K:Value->Prop):Prop:=
 match op,x with
 |.not,.bool b=>K (.bool (!b))
 |.neg,.int k n=>K (.int k (k.wrap (0-n)))
 |.xor,.int k n=>K (.int k (k.wrap (BitVec.ofInt k.bits (if k.signed then-1 else k.max)^^^BitVec.ofInt k.bits n).toNat))
 |_,_=>False
def wT(k:IntKind)(x:Value)(K:Value->Prop):Prop:=match x with|.int _ n=>K (.int k (k.wrap n))|_=>False
def Ma(x:Value)(K:Value->Prop):Prop:=match x with|.int _ n=>K (.string (Utf8.encode n))|.string s=>K (.string s)|_=>False
def nS(agg:Bool)(off size:Nat)(x:Value)(K:Value->Prop):Prop:=
 match x with
 |.agg cs=>bif agg then K (.agg (cs.extract off (off+size)))else(∃c,cs[off]?=some c/\K c)
 |_=>False
def aR(off:Nat)(x:Value)(K:Value->Prop):Prop:=
 match x with
 |.pointer (some a)=>K (.pointer (some (a.add off)))
 |_=>False
def fK(len:Option Nat)(size:Nat)(x i:Value)(K:Value->Prop):Prop:=
 match len,x,i with
 |none,.slice (some a) n _,.int _ i=>0<=i/\i<n/\K (.pointer (some (a.add (i.toNat*size))))
 |some n,.pointer (some a),.int _ i=>0<=i/\i<n/\K (.pointer (some (a.add (i.toNat*size))))
 |_,_,_=>False
def nU(x i:Value)(K:Value->Prop):Prop:=
 match x,i with
 |.string s,.int _ i=>0<=i/\∃b,s.data.toList[i.toNat]?=some b/\K (.int .u8 b.toNat)
 |_,_=>False
def YM(len:Nat)(agg:Bool)(size:Nat)(x i:Value)(K:Value->Prop):Prop:=
 match i with
 |.int _ i=>0<=i/\i<len/\nS agg (i.toNat*size) size x K
 |_=>False
def bdW(x:Option Value)(dflt:Nat)(lim:Nat)(K:Nat->Prop):Prop:=
 match x with
 |none=>K dflt
 |some (.int _ i)=>0<=i/\i<=lim/\K i.toNat
 |some _=>False
def pF(x:Value)(lo hi:Option Value)(K:Value->Prop):Prop:=
 match x with
 |.string s=>bdW hi s.size s.size λh=>bdW lo 0 h λl=>K (.string (ofL ((s.data.toList.take h).drop l)))
 |_=>False
def MO(size:Nat)(x:Value)(lo hi mx:Option Value)(K:Value->Prop):Prop:=
 match x with
 |.slice a len cap=>bdW mx cap cap λm=>(bdW hi len m λh=>bdW lo 0 h λl=>
   K (.slice (if m=l then a else a.map (·.add (l*size))) (h-l) (m-l)))
 |_=>False
def Yv(n size:Nat)(x:Value)(lo hi mx:Option Value)(K:Value->Prop):Prop:=
 match x with
 |.pointer (some a)=>bdW mx n n λm=>(bdW hi n m λh=>bdW lo 0 h λl=>
   K (.slice (some (if m=l then a else a.add (l*size))) (h-l) (m-l)))
 |_=>False
def jQ(i:Nat)(x:Value)(K:Value->Prop):Prop:=match x with|.tuple vs=>(match vs[i]? with|some v=>K v|none=>False)|_=>False
def jS(cells:List Value):List (Nat×Nat×Value)->(List Value->Prop)->Prop
 |[],K=>K cells
 |(off,size,v)::r,K=>v.cells.size=size/\off+size<=cells.length/\jS (cells.take off++(v.cells.toList++cells.drop (off+size))) r K
def kA(x:Value)(K:Value->Prop):Prop:=match x with|.string s=>K (.int .i64 s.size)|_=>False
def fI(x:Value)(K:Value->Prop):Prop:=match x with|.slice _ n _=>K (.int .i64 n)|_=>False
def YZ(x:Value)(K:Value->Prop):Prop:=match x with|.slice _ _ n=>K (.int .i64 n)|_=>False
def LB(x y:Value)(K:Value->Prop):Prop:=match x,y with|.int k a,.int _ b=>K (.int k (if b<a then b else a))|_,_=>False
def UF(x y z:Value)(K:Value->Prop):Prop:=match x,y,z with|.int k a,.int _ b,.int _ c=>K (.int k (if c<(if b<a then b else a)then c else(if b<a then b else a)))|_,_,_=>False
def Wz(x y:Value)(K:Value->Prop):Prop:=match x,y with|.int k a,.int _ b=>K (.int k (if a<b then b else a))|_,_=>False
def bV(w:World)(a:Addr):Nat->Nat->Option (List Value)
 |_,0=>some []
 |i,n+1=>match w.cell? (a.add i)with|some v=>(bV w a (i+1) n).map (v::·)|none=>none
def ldW(agg:Bool)(n:Nat)(x:Value)(w:World)(K:Value->Prop):Prop:=
 match x with
 |.pointer (some a)=>bif agg then(∃l,bV w a 0 n=some l/\K (.agg l.toArray))else(∃v,w.cell? a=some v/\K v)
 |_=>False
def pV(P:Program)(s:Sem Value)(w:World)(K:Value->Prop):Prop:=∃v,s.run P w=.ok v w/\K v
def fY(P:Program)(s:Sem Value)(w:World)(K:Value->World->Prop):Prop:=match s.run P w with|.ok v w'=>K v w'|_=>False
def CQ(P:Program)(s:Sem Unit)(w:World)(K:World->Prop):Prop:=match s.run P w with|.ok _ w'=>K w'|_=>False
def Vm[HX](P:Program)(s:Sem Next)(w:World)(K:Value->World->Prop):Prop:=Res P K (s.run P w)
def dA(T:TypeId)(zero:List Value)(w:World)(K:Value->World->Prop):Prop:=
 K (.pointer (some ⟨w.heap.size,0,none⟩)) (w.alloc (.cells zero.toArray T))
def jF(T:TypeId)(v:Value)(w:World)(K:Value->World->Prop):Prop:=
 K (.pointer (some ⟨w.heap.size,0,none⟩)) (w.alloc (.cells v.cells T))
def gO(T:TypeId)(len:Nat)(zero:List Value)(parts:List (Nat×Nat×Value))(w:World)(K:Value->World->Prop):Prop:=
 jS zero parts λcs=>K (.slice (some ⟨w.heap.size,0,none⟩) len len) (w.alloc (.cells cs.toArray T))
def jM:Value->Bool
 |.agg _|.tuple _=>false
 |_=>true
def lS(a:Addr):List Value->Nat->World->(World->Prop)->Prop
 |[],_,w,K=>K w
 |v::r,i,w,K=>jM v=true/\(w.cell? (a.add i)).isSome=true/\w.frozen? (a.add i)=false/\lS a r (i+1) (w.setCell (a.add i) v) K
def stW(n:Nat)(x v:Value)(w:World)(K:World->Prop):Prop:=
 match x with
 |.pointer (some a)=>v.cells.size=n/\lS a v.cells.toList 0 w K
 |_=>False
def UQ[HX](P:Program)(g:FuncId)(args:List Value)(w:World)(K:Value->World->Prop):Prop:=
 Calls P g args.toArray w (Er K)
def Lu[HX](x:Value)(w:World):Prop:=match x with|.iface T v=>HX.X [{v:=.iface T v,recovered:=false}] w|_=>False
def aJ[HX](P:Program)(g:FuncId)(args:List Value)(w:World)(K:Value->World->Prop):Prop:=
 Res P K ((callFunc g args.toArray).run P w)
def nV[HX](P:Program)(v:Value)(args:List Value)(w:World)(K:Value->World->Prop):Prop:=
 Vm P (do let d<-Deferred.ofValue v args.toArray;invoke d.target d.args) w K
def WQ:TypeDesc->Bool
 |.struct _|.array _ _=>true
 |_=>false
def uG(P:Program)(T:TypeId):Bool:=match P.underlying T with|some d=>WQ d|none=>false
def mC(P:Program)(T:TypeId):Nat:=match P.info? T with|some i=>i.size|none=>0
def Es(P:Program)(T:TypeId):Option Value:=match P.info? T with|some i=>i.zero|none=>none
def tS(places:Nat->Option (Nat×Nat))(f:Fr):List (Nat×Operand)->Option (List (Nat×Nat×Value))
 |[]=>some []
 |(i,x)::r=>match places i,tS places f r with
  |some (off,size),some l=>some ((off,size,ev f x)::l)
  |_,_=>none
def IR(P:Program)(fs:Array Field)(i:Nat):Option (Nat×Nat):=match fs[i]? with|some g=>some (g.offset,mC P g.type)|none=>none
def JH(P:Program)(T:TypeId)(f:Fr)(parts:List (Nat×Operand))(K:Value->Prop):Prop:=
 match P.underlying T,Es P T with
 |some (.struct fs),some z=>
  (match tS (IR P fs) f parts with
   |some l=>nG (fs.all (λg=>(P.info? g.type).isSome)) (jS z.cells.toList l λcs=>K (.agg cs.toArray))
   |none=>False)
 |some (.array _ e),some z=>
  (match tS (λi=>some (i*mC P e,mC P e)) f parts with
   |some l=>nG (P.info? e).isSome (jS z.cells.toList l λcs=>K (.agg cs.toArray))
   |none=>False)
 |_,_=>False
def YW(P:Program)(op:BinOp)(T:TypeId)(x y:Value)(K:Value->Prop):Prop:=
 match op,(match P.underlying T with|some d=>EqK.of d|none=>none)with
 |.eql,some k=>eqW k false x y K
 |.neq,some k=>eqW k true x y K
 |_,_=>aS op x y K
def UN(P:Program)(s d:TypeId)(x:Value)(K:Value->Prop):Prop:=
 match P.underlying s,P.underlying d with
 |some (.int _),some (.int k)=>wT k x K
 |some (.int _),some .string=>Ma x K
 |some .string,some .string=>Ma x K
 |_,_=>False
def Du(P:Program)(T:TypeId)(x i:Value)(K:Value->Prop):Prop:=
 match P.underlying T with
 |some (.slice e)=>nG (P.info? e).isSome (fK none (mC P e) x i K)
 |some (.array n e)=>nG (P.info? e).isSome (fK (some n) (mC P e) x i K)
 |_=>False
def NS(P:Program)(T:TypeId)(x i:Value)(K:Value->Prop):Prop:=
 match P.underlying T with
 |some .string=>nU x i K
 |some (.array n e)=>nG (P.underlying e).isSome (YM n (uG P e) (mC P e) x i K)
 |_=>False
def IN(P:Program)(T:TypeId)(x:Value)(lo hi mx:Option Value)(K:Value->Prop):Prop:=
 match P.underlying T with
 |some .string=>nG (!mx.isSome) (pF x lo hi K)
 |some (.slice e)=>nG (!mx.isSome||hi.isSome) (nG (P.info? e).isSome (MO (mC P e) x lo hi mx K))
 |some (.array n e)=>nG (!mx.isSome||hi.isSome) (nG (P.info? e).isSome (Yv n (mC P e) x lo hi mx K))
 |_=>False
def EK(P:Program)(b:Builtin)(argTypes:Array TypeId)(args:List Value)(K:Value->Prop):Prop:=
 match b,args with
 |.len,[x]=>(match argTypes[0]? with
   |some T=>(match P.underlying T with
    |some .string=>kA x K
    |some (.slice _)=>fI x K
    |some (.array n _)=>K (.int .i64 n)
    |_=>False)
   |none=>False)
 |.cap,[x]=>(match argTypes[0]? with
   |some T=>(match P.underlying T with
    |some (.slice _)=>YZ x K
    |_=>False)
   |none=>False)
 |.min,[x,y]=>LB x y K
 |.min,[x,y,z]=>UF x y z K
 |.max,[x,y]=>Wz x y K
 |_,_=>False
def Kc(P:Program)(f:Fr)(op:Op)(K:Value->Prop):Prop:=
 match op with
 |.move x|.assign x=>K (ev f x)
 |.pick c a b=>cZ (ev f c) (ev f a) (ev f b) K
 |.nilCheck x=>eC (ev f x) K
 |.binOp op T x y _=>YW P op T (ev f x) (ev f y) K
 |.unOp op _ x=>unW op (ev f x) K
 |.convert s d x=>UN P s d (ev f x) K
 |.makeInterface T x=>(match P.underlying T with|some (.interface _)=>False|none=>False|_=>K (.iface T (ev f x)))
 |.makeFunc fn first cap=>K (.func fn (evl f first).toArray (evl f cap).toArray)
 |.field T x i=>(match P.underlying T with
   |some (.struct fs)=>(match fs[i]? with|some g=>nG (P.underlying g.type).isSome (nS (uG P g.type) g.offset (mC P g.type) (ev f x) K)|none=>False)
   |_=>False)
 |.fieldAddr T x i=>(match P.underlying T with
   |some (.struct fs)=>(match fs[i]? with|some g=>nG (!(Nat.beq (mC P g.type) 0)) (aR g.offset (ev f x) K)|none=>False)
   |_=>False)
 |.indexAddr T x i=>Du P T (ev f x) (ev f i) K
 |.index T x i=>NS P T (ev f x) (ev f i) K
 |.slice T x lo hi mx=>IN P T (ev f x) (lo.map (ev f)) (hi.map (ev f)) (mx.map (ev f)) K
 |.extract t i=>jQ i (ev f t) K
 |.build T parts=>JH P T f parts.toList K
 |.call {callee:=.builtin b,args,argTypes}=>EK P b argTypes (evl f args) K
 |_=>False
def oP(P:Program):Op->Bool
 |.move _|.assign _|.pick ..|.nilCheck _|.unOp ..|.makeInterface ..|.makeFunc ..|.field ..|.fieldAddr ..|.indexAddr ..|.index ..|.slice ..
 |.extract ..|.build ..=>true
 |.binOp op T _ _ _=>(match op with
  |.eql|.neq=>(match P.underlying T with|some (.interface _)|some (.struct _)|some (.array _ _)|some (.chan _ _)|none=>false|_=>true)
  |_=>true)
 |.convert s d _=>(match P.underlying s,P.underlying d with|some (.int _),some (.int _)|some (.int _),some .string|some .string,some .string=>true|_,_=>false)
 |.call {callee:=.builtin b,argTypes,..}=>(match b with
  |.min|.max|.cap=>true
  |.len=>(match argTypes[0]? with|some T=>(match P.underlying T with|some (.map _ _)|none=>false|_=>true)|none=>false)
  |_=>false)
 |_=>false
def wL(P:Program)(s:Sem Value)(K:Value->Prop):Prop:=∃v,K v/\∀w,s.run P w=.ok v w
theorem run_bind{α β:Type}(P:Program)(s:Sem α)(k:α->Sem β)(w:World):
  (s>>=k).run P w=match s.run P w with|.ok a w'=>(k a).run P w'|.halt h w'=>.halt h w':=by
 show(Sem.bind s k).run P w=_;induction s generalizing w with
 |pure a=>simp[Sem.bind,Sem.run]
 |load m a c ih=>simp only[Sem.bind,Sem.run];(repeat' split)<;>simp_all
 |store m a v c ih=>
  cases v<;>simp only[Sem.bind,Sem.run]<;>((repeat' split)<;>simp_all)
 |new o c ih=>simp[Sem.bind,Sem.run,ih]
 |shape r c ih=>simp[Sem.bind,Sem.run,ih]
 |freeze a n c ih=>simp[Sem.bind,Sem.run,ih]
 |frozen a c ih=>simp[Sem.bind,Sem.run,ih]
 |getObj r c ih=>simp only[Sem.bind,Sem.run];(repeat' split)<;>simp_all
 |setObj r o c ih=>simp only[Sem.bind,Sem.run];(repeat' split)<;>simp_all
 |choose q c ih=>simp only[Sem.bind,Sem.run];(repeat' split)<;>simp_all
 |sys c k' ih=>simp[Sem.bind,Sem.run,ih]
 |program c ih=>simp[Sem.bind,Sem.run,ih]
 |mark m c ih=>simp[Sem.bind,Sem.run,ih]
 |halt h=>simp[Sem.bind,Sem.run]
theorem run_pure{α:Type}(P:Program)(a:α)(w:World):(pure a:Sem α).run P w=.ok a w:=rfl
theorem cI{d:TypeDesc}(h:P.underlying T=some d)(w:World):(underlying T).run P w=.ok d w:=by
 simp[underlying,run_bind,program,Sem.run,h,run_pure]
theorem zO{i:TypeInfo}(h:P.info? T=some i)(w:World):(typeInfo T).run P w=.ok i w:=by
 simp[typeInfo,run_bind,program,Sem.run,h,run_pure]
theorem jJ(h:(P.info? T).isSome=true)(w:World):(sizeOf T).run P w=.ok (mC P T) w:=by
 cases hi:P.info? T with
 |none=>rw[hi]at h;cases h
 |some i=>simp[sizeOf,run_bind,zO hi,run_pure,mC,hi]
theorem sJ(h:(P.underlying T).isSome=true):(P.info? T).isSome=true:=by
 unfold Program.underlying at h;cases hi:P.info? T with
 |none=>simp[hi]at h
 |some i=>rfl
theorem vW(h:(P.underlying T).isSome=true)(w:World):(isAgg T).run P w=.ok (uG P T) w:=by
 cases hi:P.underlying T with
 |none=>rw[hi]at h;cases h
 |some d=>
  simp only[isAgg,run_bind,cI hi,uG,hi];cases d<;>rfl
theorem yI{z:Value}(h:Es P T=some z)(w:World):(zeroValue T).run P w=.ok z w:=by
 unfold Es at h;cases hi:P.info? T with
 |none=>simp[hi]at h
 |some i=>
  simp only[hi]at h;simp[zeroValue,run_bind,zO hi,h,run_pure]
theorem HA{off:Nat}{x:Value}{K:Value->Prop}(hT:(P.underlying T).isSome=true)(h:nS (uG P T) off (mC P T) x K):
  ∃cs,x=.agg cs/\wL P (part T cs off) K:=by
 cases x with
 |agg cs=>
  refine⟨cs,rfl,?_⟩;simp only[nS]at h;cases ha:uG P T with
  |true=>
   rw[ha]at h;exact⟨_,h,λw=>by simp[part,run_bind,vW hT,ha,jJ (sJ hT),run_pure]⟩
  |false=>
   rw[ha]at h;obtain⟨c,hc,hk⟩:=h;exact⟨c,hk,λw=>by simp[part,run_bind,vW hT,ha,hc,run_pure]⟩
 |_=>exact h.elim
theorem GO{x:Option Value}{dflt lim:Nat}{K:Nat->Prop}(h:bdW x dflt lim K):
  ∃n,K n/\((x=none/\n=dflt)\/∃v,x=some v/\∀(code:BoundsCode) (w:World),(Instr.sliceBound v lim code).run P w=.ok n w):=by
 cases x with
 |none=>exact⟨dflt,h,.inl ⟨rfl,rfl⟩⟩
 |some v=>
  cases v<;>simp only[bdW]at h
  case int k i=>
   obtain⟨h0,h1,hk⟩:=h;exact⟨_,hk,.inr ⟨_,rfl,λcode w=>by simp[Instr.sliceBound,asIntOf,run_bind,run_pure,h0,h1]⟩⟩
theorem Al{isSlice:Bool}{len cap:Nat}{lo hi mx:Option Value}{K:Nat->Nat->Nat->Prop}(hm:mx.isSome=true->hi.isSome=true)
  (h:bdW mx cap cap λm=>bdW hi len m λh=>bdW lo 0 h λl=>K l h m):
  ∃l h m,K l h m/\∀w,(Instr.sliceBounds isSlice len cap lo hi mx).run P w=.ok (l,h,m) w:=by
 obtain⟨m,h1,hm1⟩:=GO (P:=P) h;obtain⟨hh,h2,hh1⟩:=GO (P:=P) h1;obtain⟨l,h3,hl1⟩:=GO (P:=P) h2;refine⟨l,hh,m,h3,λw=>?_⟩;rcases hm1 with⟨rfl,rfl⟩|⟨vm,rfl,rm⟩<;>rcases hh1 with⟨rfl,rfl⟩|⟨vh,rfl,rh⟩<;>rcases hl1 with⟨rfl,rfl⟩|⟨vl,rfl,rl⟩<;>
  first
   |(simp at hm;done)
   |simp[Instr.sliceBounds,run_bind,run_pure, *]
theorem yN{place:Nat->Option (Nat×Nat)}{f:Fr}{K:List Value->Prop}:∀(parts:List (Nat×Operand)) (l:List (Nat×Nat×Value)) (cells:List Value),
  tS place f parts=some l->jS cells l K->∃cs,K cs/\Instr.fill place cells.toArray (parts.map λp=>(p.1,ev f p.2))=some cs.toArray
 |[],l,cells,hp,h=>by
  simp only[tS,bA]at hp
  subst hp
  exact⟨cells,h,rfl⟩
 |(i,x)::r,l,cells,hp,h=>by
  simp only[tS]at hp
  cases hpl:place i with
  |none=>simp[hpl]at hp
  |some os=>
   obtain⟨off,size⟩:=os
   cases hr:tS place f r with
   |none=>simp[hpl,hr]at hp
   |some l'=>
    simp only[hpl,hr,bA]at hp
    subst hp
    obtain⟨h1,h2,h3⟩:=h
    obtain⟨cs,hk,hf⟩:=yN r l' _ hr h3
    refine⟨cs,hk,?_⟩
    simp only[fW,Instr.fill,hpl]
    rw[aL (by simp[h1];omega)]
    rw[<-hf]
    congr 1
    have key:∀(vs:List Value) (k:Nat) (cs:List Value),off+k+vs.length<=cs.length->
      (vs.zipIdx k).foldl (λ(a:Array Value) (p:Value×Nat)=>a.setIfInBounds (off+p.2) p.1) cs.toArray=(cs.take (off+k)++(vs++cs.drop (off+k+vs.length))).toArray:=by
     intro vs;induction vs with
     |nil=>intro k cs _;simp
     |cons v vs ih=>
      intro k cs hle;simp only[aB]at hle;simp only[List.zipIdx_cons,List.foldl_cons];rw[aA,ih (k+1) _ (by simp;omega)];congr 1;apply List.ext_getElem?;intro j;simp only[List.getElem?_append,cO,lV,wV,List.getElem?_set,jG,aB,List.getElem?_cons]
      (repeat' split)<;>first
        |rfl
        |omega
        |(simp_all;done)
        |(congr 1;omega)
        |(rename_i h1 h2 h3;simp at h1;omega)
    have hk:=key (ev f x).cells.toList 0 cells (by simp;omega);simp only[bJ]at hk;rw[<-h1];simp only[Array.length_toList]at hk;rw[<-hk,<-Array.foldl_toList];simp
def nO(P:Program)(s:Sem Next)(K:Value->Prop):Prop:=∃v,K v/\∀w,s.run P w=.ok (.value v) w
theorem nO.of1{s:Sem Value}{K:Value->Prop}(h:wL P s K):nO P (do pure (.value (<-s))) K:=by
 obtain⟨v,hk,hr⟩:=h;exact⟨v,hk,λw=>by rw[run_bind,hr];rfl⟩
theorem CE{α:Type}[BEq α][LawfulBEq α][DecidableEq α](a b:α):(a==b)=decide (a=b):=by
 by_cases h:a=b<;>simp[h]
theorem Mp{op:BinOp}{x y:Operand}{f:Fr}{K:Value->Prop}(h:aS op (ev f x) (ev f y) K):
  wL P (do eqGuard op T x y (ev f x) (ev f y);binOp op T (ev f x) (ev f y)) K:=by
 generalize ev f x=a at*
 generalize ev f y=b at*
 cases a<;>cases b<;>simp only[aS]at h<;>first|exact h.elim|skip
 case int.int k a k' b=>
  have hg:∀w,(eqGuard op T x y (.int k a) (.int k' b)).run P w=.ok () w:=λw=>by cases op<;>simp[eqGuard,run_pure]
  cases op<;>simp only at h
  case shl=>exact⟨_,h.2,λw=>by rw[run_bind,hg];simp[binOp,Op.shift,run_pure,Int.not_lt.2 h.1]⟩
  case shr=>exact⟨_,h.2,λw=>by rw[run_bind,hg];simp[binOp,Op.shift,run_pure,Int.not_lt.2 h.1]⟩
  case quo=>obtain⟨rfl,hb,hk⟩:=h;exact⟨_,hk,λw=>by rw[run_bind,hg];simp[binOp,Op.intDiv,run_pure,hb]⟩
  case rem=>obtain⟨rfl,hb,hk⟩:=h;exact⟨_,hk,λw=>by rw[run_bind,hg];simp[binOp,Op.intDiv,run_pure,hb]⟩
  case add=>obtain⟨rfl,hk⟩:=h;exact⟨_,hk,λw=>by rw[run_bind,hg];simp[binOp,Op.intArith,run_pure]⟩
  case sub=>obtain⟨rfl,hk⟩:=h;exact⟨_,hk,λw=>by rw[run_bind,hg];simp[binOp,Op.intArith,run_pure]⟩
  case mul=>obtain⟨rfl,hk⟩:=h;exact⟨_,hk,λw=>by rw[run_bind,hg];simp[binOp,Op.intArith,run_pure]⟩
  case and=>obtain⟨rfl,hk⟩:=h;exact⟨_,hk,λw=>by rw[run_bind,hg];simp only[binOp,Op.intBits,cV,cP,qY];rfl⟩
  case or=>obtain⟨rfl,hk⟩:=h;exact⟨_,hk,λw=>by rw[run_bind,hg];simp only[binOp,Op.intBits,cV,cP,qY];rfl⟩
  case xor=>obtain⟨rfl,hk⟩:=h;exact⟨_,hk,λw=>by rw[run_bind,hg];simp only[binOp,Op.intBits,cV,cP,qY];rfl⟩
  case andNot=>obtain⟨rfl,hk⟩:=h;exact⟨_,hk,λw=>by rw[run_bind,hg];simp only[binOp,Op.intBits,cV,cP,qY];rfl⟩
  case eql=>obtain⟨rfl,hk⟩:=h;exact⟨_,hk,λw=>by rw[run_bind,hg];simp[binOp,Op.intCmp,run_pure,CE]⟩
  case neq=>obtain⟨rfl,hk⟩:=h;exact⟨_,hk,λw=>by rw[run_bind,hg];simp[binOp,Op.intCmp,run_pure,bne,CE]⟩
  case lss=>obtain⟨rfl,hk⟩:=h;exact⟨_,hk,λw=>by rw[run_bind,hg];simp[binOp,Op.intCmp,run_pure]⟩
  case leq=>obtain⟨rfl,hk⟩:=h;exact⟨_,hk,λw=>by rw[run_bind,hg];simp[binOp,Op.intCmp,run_pure]⟩
  case gtr=>obtain⟨rfl,hk⟩:=h;exact⟨_,hk,λw=>by rw[run_bind,hg];simp[binOp,Op.intCmp,run_pure]⟩
  case geq=>obtain⟨rfl,hk⟩:=h;exact⟨_,hk,λw=>by rw[run_bind,hg];simp[binOp,Op.intCmp,run_pure]⟩
 case string.string a b=>
  have hg:∀w,(eqGuard op T x y (.string a) (.string b)).run P w=.ok () w:=λw=>by cases op<;>simp[eqGuard,run_pure]
  have he:(a.toList==b.toList)=decide (a.data.toList=b.data.toList):=by rw[ByteArray.toList_eq,ByteArray.toList_eq,CE]
  have hl:Op.bytesLess a.toList b.toList=Op.bytesLess a.data.toList b.data.toList:=by rw[ByteArray.toList_eq,ByteArray.toList_eq]
  cases op<;>simp only at h<;>first|exact h.elim|skip
  case add=>exact⟨_,h.2,λw=>by rw[run_bind,hg];simp only[binOp,Op.stringOp];rw[aL (by have:=h.1;omega)];rfl⟩
  case eql=>exact⟨_,h,λw=>by rw[run_bind,hg];simp only[binOp,Op.stringOp];rw[he];rfl⟩
  case neq=>exact⟨_,h,λw=>by rw[run_bind,hg];simp only[binOp,Op.stringOp];rw[he];simp[run_pure]⟩
  case lss=>exact⟨_,h,λw=>by rw[run_bind,hg];simp only[binOp,Op.stringOp];rw[hl];rfl⟩
  case leq=>exact⟨_,h,λw=>by rw[run_bind,hg];simp only[binOp,Op.stringOp];rw[he,hl];rfl⟩
  case gtr=>exact⟨_,h,λw=>by rw[run_bind,hg];simp only[binOp,Op.stringOp];rw[he,hl];rfl⟩
  case geq=>exact⟨_,h,λw=>by rw[run_bind,hg];simp only[binOp,Op.stringOp];rw[hl];rfl⟩
theorem LW{op:BinOp}{x y:Operand}{k:EqK}{n:Bool}{a b:Value}{K:Value->Prop}(h:eqW k n a b K)(w:World):
  (eqGuard op T x y a b).run P w=.ok () w:=by
 cases op<;>simp only[eqGuard]<;>first|rfl|(cases a<;>cases b<;>first|rfl|(cases k<;>exact h.elim))
theorem Yk{x y:Operand}{f:Fr}{d:TypeDesc}{k:EqK}{n:Bool}{K:Value->Prop}(hd:P.underlying T=some d)(hk:EqK.of d=some k)
  (h:eqW k n (ev f x) (ev f y) K):
  wL P (do eqGuard (bif n then .neq else .eql) T x y (ev f x) (ev f y);binOp (bif n then .neq else .eql) T (ev f x) (ev f y)) K:=by
 have hg:=λw=>LW (P:=P) (op:=(bif n then .neq else .eql)) (T:=T) (x:=x) (y:=y) h w;generalize ev f x=a at*
 generalize ev f y=b at*
 have key:∀(a b:Value) (r:Bool),(∀m w,(Op.equalIn (m+1) T a b).run P w=.ok r w)->
   (binOp .eql T a b=(do pure (.bool (<-Op.equal T a b))))->(binOp .neq T a b=(do pure (.bool (!(<-Op.equal T a b)))))->K (.bool (n^^r))->(∀w,(eqGuard (bif n then .neq else .eql) T x y a b).run P w=.ok () w)->
   wL P (do eqGuard (bif n then .neq else .eql) T x y a b;binOp (bif n then .neq else .eql) T a b) K:=by
  intro a b r h0 h1 h2 hK hg;have he:∀w,(Op.equal T a b).run P w=.ok r w:=λw=>h0 9999 w;refine⟨_,hK,λw=>?_⟩;rw[run_bind,hg];cases n
  ·simp only[aN,h1,run_bind,he,run_pure,Bool.false_bne]
  ·simp only[aO,h2,run_bind,he,run_pure,Bool.true_bne]
 have hu:=λw=>cI hd w;cases d<;>simp only[EqK.of,reduceCtorEq,bA]at hk<;>subst hk<;>unfold eqW at h<;>split at h<;>first
  |exact h.elim
  |(rename_i he _ _;cases he;done)
  |(rename_i he;cases he;done)
  |exact key _ _ _ (λm w=>by simp only[Op.equalIn,run_bind,hu];exact run_pure _ _ _) rfl rfl h hg
  |exact key _ _ true (λm w=>by simp[Op.equalIn,run_bind,hu,run_pure]) rfl rfl (by simpa using h) hg
  |exact key _ _ false (λm w=>by simp[Op.equalIn,run_bind,hu,run_pure]) rfl rfl (by simpa using h) hg
  |(rename_i he1 he2 he3;cases he1;done)
  |(simp_all;done)
theorem wF(f:Fr)(a:Array Operand):a.map (ev f)=(evl f a).toArray:=by apply Array.ext';simp[evl]
theorem Hi{fn:Fn}{a b:Array Value}:(Instr.makeFunc fn a b).run P w=.ok (.func fn a b) w:=rfl
theorem Me{f:Fr}{parts:Array (Nat×Operand)}{K:Value->Prop}(h:JH P T f parts.toList K):
  wL P (Instr.build T (parts.map λ(i,x)=>(i,ev f x))) K:=by
 unfold JH at h;have hparts:(parts.map λ(i,x)=>(i,ev f x)).toList=parts.toList.map λp=>(p.1,ev f p.2):=by simp
 split at h
 ·rename_i fs z hd hz;split at h
  ·rename_i l hl
   replace h:=nG.out h
   obtain⟨hall,hp⟩:=h;obtain⟨cs,hk,hf⟩:=yN _ _ _ hl hp;refine⟨_,hk,λw=>?_⟩;have hmap:∀w,(fs.mapM λg=>do pure (g.offset,<-sizeOf g.type):Sem (Array (Nat×Nat))).run P w=.ok (fs.map λg=>(g.offset,mC P g.type)) w:=by
    intro w;have:∀(l:List Field),(∀g∈l,(P.info? g.type).isSome=true)->∀w,(l.mapM λg=>do pure (g.offset,<-sizeOf g.type):Sem (List (Nat×Nat))).run P w=.ok (l.map λg=>(g.offset,mC P g.type)) w:=by
     intro l;induction l with
     |nil=>intro _ w;rfl
     |cons g l ih=>
      intro hg w;rw[List.mapM_cons];simp only[run_bind,jJ (hg g (by simp)),run_pure,ih (λx hx=>hg x (by simp[hx])),fW]
    have hfs:=this fs.toList (λg hg=>zM.1 hall g (by simpa using hg)) w;rw[Array.mapM_eq_mapM_toList,<-bind_pure_comp,run_bind,hfs];show Result.ok _ _=_;congr 1;apply Array.ext';simp
   simp only[Instr.build,run_bind,yI hz,cI hd,hmap];rw[hparts];have hpl:(λ(i:Nat)=>(fs.map λ(g:Field)=>(g.offset,mC P g.type))[i]?)=IR P fs:=by
    funext i;rw[Array.getElem?_map];unfold IR;cases fs[i]?<;>rfl
   rw[hpl];simp only[Array.toArray_toList]at hf;rw[hf];rfl
  ·exact h.elim
 ·rename_i n e z hd hz;split at h
  ·rename_i l hl
   replace h:=nG.out h
   obtain⟨hall,hp⟩:=h;obtain⟨cs,hk,hf⟩:=yN _ _ _ hl hp;refine⟨_,hk,λw=>?_⟩;simp only[Instr.build,run_bind,yI hz,cI hd,jJ hall];rw[hparts];simp only[Array.toArray_toList]at hf;rw[hf];rfl
  ·exact h.elim
 ·exact h.elim
theorem HZ(s:ByteArray)(l h:Nat):s.extract l h=ofL ((s.data.toList.take h).drop l):=by
 apply ByteArray.ext;apply Array.ext';simp[ofL,ByteArray.extract,ByteArray.copySlice,List.drop_take]
theorem Lf{x:Value}{lo hi mx:Option Value}{K:Value->Prop}(h:IN P T x lo hi mx K):
  wL P (Instr.sliceAt T x lo hi mx) K:=by
 unfold IN at h;split at h
 ·rename_i hd
  replace h:=nG.out h
  obtain⟨hm,h⟩:=h;cases mx with
  |some _=>cases hm
  |none=>
   cases x<;>simp only[pF]at h<;>try exact h.elim
   rename_i s;have h':bdW (none:Option Value) s.size s.size λm=>bdW hi s.size m λh=>bdW lo 0 h λl=>(λl h (_:Nat)=>K (.string (ofL ((s.data.toList.take h).drop l)))) l h m:=h;obtain⟨l,hh,m,hk,hr⟩:=Al (P:=P) (isSlice:=false) (by simp) h';refine⟨_,hk,λw=>?_⟩;simp only[Instr.sliceAt,run_bind,cI hd,Instr.slice];simp[hr,run_bind,cI hd,run_pure];apply HZ
 ·rename_i e hd
  replace h:=nG.out h
  obtain⟨hm,h⟩:=h
  replace h:=nG.out h
  obtain⟨he,h⟩:=h
  replace hm:mx.isSome=true->hi.isSome=true:=λhx=>by rw[hx]at hm;simpa using hm
  cases x<;>simp only[MO]at h<;>try exact h.elim
  rename_i a len cap;obtain⟨l,hh,m,hk,hr⟩:=Al (P:=P) (isSlice:=true) (K:=λl h m=>K (.slice (if m=l then a else a.map (·.add (l*mC P e))) (h-l) (m-l))) hm h;refine⟨_,hk,λw=>?_⟩;simp only[Instr.sliceAt,run_bind,cI hd,Instr.slice];simp[hr,run_bind,cI hd,run_pure,jJ he]
 ·rename_i n e hd
  replace h:=nG.out h
  obtain⟨hm,h⟩:=h
  replace h:=nG.out h
  obtain⟨he,h⟩:=h
  replace hm:mx.isSome=true->hi.isSome=true:=λhx=>by rw[hx]at hm;simpa using hm
  cases x<;>simp only[Yv]at h<;>try exact h.elim
  rename_i a;cases a with
  |none=>exact h.elim
  |some a=>
   obtain⟨l,hh,m,hk,hr⟩:=Al (P:=P) (isSlice:=false) (K:=λl h m=>K (.slice (some (if m=l then a else a.add (l*mC P e))) (h-l) (m-l))) hm h;refine⟨_,hk,λw=>?_⟩;simp[Instr.sliceAt,Instr.sureAddr,run_bind,cI hd,hr,run_pure,jJ he]
 ·exact h.elim
theorem CW{f:Fr}{o:Oper}{K:Value->Prop}(h:Kc P f o.op K):nO P (execOp (ev f) o) K:=by
 obtain⟨dst,op,type,pos,after,guard⟩:=o;cases op<;>simp only[Kc]at h<;>try exact h.elim
 case move x=>exact⟨_,h,λw=>rfl⟩
 case assign x=>exact⟨_,h,λw=>rfl⟩
 case pick c a b=>
  simp only[execOp];generalize ev f c=cv at*
  cases cv<;>simp only[cZ]at h<;>try exact h.elim
  rename_i t;exact⟨_,h,λw=>by cases t<;>rfl⟩
 case nilCheck x=>
  simp only[execOp];generalize ev f x=v at*
  cases v<;>simp only[eC]at h<;>try exact h.elim
  case pointer a=>cases a<;>first|exact h.elim|exact⟨_,h,λw=>rfl⟩
  case func fn _ _=>cases fn<;>first|exact h.elim|exact⟨_,h,λw=>rfl⟩
  case iface=>exact⟨_,h,λw=>rfl⟩
 case binOp op T x y yT=>
  simp only[execOp];refine nO.of1 ?_;unfold YW at h;cases hd:P.underlying T with
  |none=>
   rw[hd]at h;exact Mp (by cases op<;>exact h)
  |some d=>
   rw[hd]at h;cases hk:EqK.of d with
   |none=>simp only[hk]at h;exact Mp (by cases op<;>exact h)
   |some k=>
    simp only[hk]at h;cases op<;>first
     |exact Yk (n:=false) hd hk h
     |exact Yk (n:=true) hd hk h
     |exact Mp h
 case unOp op T x=>
  simp only[execOp];refine nO.of1 ?_;generalize ev f x=v at*
  cases op<;>cases v<;>simp only[unW]at h<;>first
   |exact h.elim
   |exact⟨_,h,λw=>rfl⟩
 case convert s d x=>
  simp only[execOp];refine nO.of1 ?_;unfold UN at h;generalize ev f x=v at*
  split at h
  ·rename_i k1 k2 hs hd;cases v<;>simp only[wT]at h<;>try exact h.elim
   exact⟨_,h,λw=>by simp[convert,run_bind,cI hs,cI hd,Conv.intToInt,run_pure]⟩
  ·rename_i k1 hs hd;cases v<;>simp only[Ma]at h<;>try exact h.elim
   ·exact⟨_,h,λw=>by simp[convert,run_bind,cI hs,cI hd,Conv.intToString,run_pure]⟩
   ·exact⟨_,h,λw=>by simp[convert,run_bind,cI hs,cI hd,run_pure]⟩
  ·rename_i hs hd;cases v<;>simp only[Ma]at h<;>try exact h.elim
   ·exact⟨_,h,λw=>by simp[convert,run_bind,cI hs,cI hd,Conv.intToString,run_pure]⟩
   ·exact⟨_,h,λw=>by simp[convert,run_bind,cI hs,cI hd,run_pure]⟩
  ·exact h.elim
 case makeInterface T x=>
  simp only[execOp];refine nO.of1 ?_;cases hd:P.underlying T with
  |none=>rw[hd]at h;exact h.elim
  |some d=>
   rw[hd]at h;cases d<;>first
    |exact h.elim
    |exact⟨_,h,λw=>by simp[Instr.makeInterface,run_bind,cI hd,run_pure]⟩
 case makeFunc fn first cap=>
  simp only[execOp];refine nO.of1 ⟨_,h,λw=>by rw[Hi,wF,wF]⟩
 case field T x i=>
  simp only[execOp];refine nO.of1 ?_;split at h
  ·rename_i fs hd;split at h
   ·rename_i g hg
    replace h:=nG.out h
    obtain⟨h1,h2⟩:=h;obtain⟨cs,hx,v,hk,hr⟩:=HA h1 h2;exact⟨v,hk,λw=>by simp[Instr.field,run_bind,cI hd,hg,hx,asAgg,run_pure,hr]⟩
   ·exact h.elim
  ·exact h.elim
 case fieldAddr T x i=>
  simp only[execOp];refine nO.of1 ?_;split at h
  ·rename_i fs hd;split at h
   ·rename_i g hg
    replace h:=nG.out h
    obtain⟨h1,h2⟩:=h
    replace h1:mC P g.type≠0:=λhz=>by rw[hz]at h1;simp at h1
    generalize ev f x=v at*
    cases v<;>simp only[aR]at h2<;>try exact h2.elim
    rename_i a;cases a with
    |none=>exact h2.elim
    |some a=>
     have hinfo:(P.info? g.type).isSome=true:=by
      unfold mC at h1;cases hi:P.info? g.type with
      |none=>rw[hi]at h1;exact absurd rfl h1
      |some i=>rfl
     exact⟨_,h2,λw=>by simp[Instr.fieldAt,run_bind,cI hd,hg,Instr.sureAddr,run_pure,fieldPlace,jJ hinfo,h1]⟩
   ·exact h.elim
  ·exact h.elim
 case indexAddr T x i=>
  simp only[execOp];refine nO.of1 ?_;unfold Du at h;generalize ev f x=v at*
  generalize ev f i=iv at*
  split at h
  ·rename_i e hd
   replace h:=nG.out h
   obtain⟨he,h⟩:=h;unfold fK at h;split at h
   ·rename_i a n cap k j _;obtain⟨h0,h1,hk⟩:=h;exact⟨_,hk,λw=>by simp[Instr.indexAt,asIntOf,run_bind,cI hd,run_pure,h0,h1,jJ he]⟩
   ·rename_i heq;cases heq
   ·exact h.elim
  ·rename_i n e hd
   replace h:=nG.out h
   obtain⟨he,h⟩:=h;unfold fK at h;split at h
   ·rename_i heq;cases heq
   ·rename_i n' a k j heq;cases heq;obtain⟨h0,h1,hk⟩:=h;exact⟨_,hk,λw=>by simp[Instr.indexAt,asIntOf,run_bind,cI hd,run_pure,h0,h1,Instr.sureAddr,jJ he]⟩
   ·exact h.elim
  ·exact h.elim
 case index T x i=>
  simp only[execOp];refine nO.of1 ?_;unfold NS at h;generalize ev f x=v at*
  generalize ev f i=iv at*
  split at h
  ·rename_i hd;unfold nU at h;split at h
   ·rename_i s k j;obtain⟨h0,b,hb,hk⟩:=h;have hb':s[j.toNat]?=some b:=by
     rw[<-hb];show(if h:j.toNat<s.size then some s[j.toNat]else none)=_;by_cases hlt:j.toNat<s.size
     ·rw[dif_pos hlt,aG (by simpa using hlt)];rfl
     ·rw[dif_neg hlt,eW (by simpa using hlt)]
    exact⟨_,hk,λw=>by simp[Instr.index,asIntOf,run_bind,cI hd,run_pure,h0,hb']⟩
   ·exact h.elim
  ·rename_i n e hd
   replace h:=nG.out h
   obtain⟨he,h⟩:=h;cases iv<;>simp only[YM]at h<;>try exact h.elim
   rename_i k j;obtain⟨h0,h1,hp⟩:=h;obtain⟨cs,hx,u,hk,hr⟩:=HA (P:=P) he hp;exact⟨u,hk,λw=>by simp[Instr.index,asIntOf,run_bind,cI hd,run_pure,hx,h0,h1,jJ (sJ he),hr]⟩
  ·exact h.elim
 case slice T x lo hi mx=>
  simp only[execOp];exact nO.of1 (Lf h)
 case extract t i=>
  simp only[execOp];refine nO.of1 ?_;generalize ev f t=v at*
  cases v<;>simp only[jQ]at h<;>try exact h.elim
  split at h
  ·rename_i v hv;exact⟨_,h,λw=>by simp[Instr.extract,hv,run_pure]⟩
  ·exact h.elim
 case build T parts=>
  simp only[execOp];exact nO.of1 (Me h)
 case call c=>
  obtain⟨callee,args,argTypes⟩:=c;cases callee<;>simp only at h<;>try exact h.elim
  rename_i b;have hargs:args.map (ev f)=(evl f args).toArray:=by rw[wF]
  simp only[execOp,resolve,hargs];generalize evl f args=az at*
  unfold EK at h;split at h
  ·rename_i x;split at h
   ·rename_i T hT;split at h
    ·rename_i hd;unfold kA at h;split at h
     ·exact⟨_,h,λw=>by simp[run_bind,run_pure,invoke,builtin,Builtin.len_,hT,cI hd,goInt]⟩
     ·exact h.elim
    ·rename_i e hd;unfold fI at h;split at h
     ·exact⟨_,h,λw=>by simp[run_bind,run_pure,invoke,builtin,Builtin.len_,hT,cI hd,goInt]⟩
     ·exact h.elim
    ·rename_i n e hd;exact⟨_,h,λw=>by simp[run_bind,run_pure,invoke,builtin,Builtin.len_,hT,cI hd,goInt]⟩
    ·exact h.elim
   ·exact h.elim
  ·rename_i x;split at h
   ·rename_i T hT;split at h
    ·rename_i e hd;unfold YZ at h;split at h
     ·exact⟨_,h,λw=>by simp[run_bind,run_pure,invoke,builtin,Builtin.cap_,hT,cI hd,goInt]⟩
     ·exact h.elim
    ·exact h.elim
   ·exact h.elim
  ·rename_i x y;unfold LB at h;split at h
   ·exact⟨_,h,λw=>by simp[run_bind,run_pure,invoke,builtin,Builtin.min_,Builtin.min2]⟩
   ·exact h.elim
  ·rename_i x y z;unfold UF at h;split at h
   ·exact⟨_,h,λw=>by simp[run_bind,run_pure,invoke,builtin,Builtin.min_,Builtin.min2]⟩
   ·exact h.elim
  ·rename_i x y;unfold Wz at h;split at h
   ·exact⟨_,h,λw=>by simp[run_bind,run_pure,invoke,builtin,Builtin.max_,Builtin.max2]⟩
   ·exact h.elim
  ·exact h.elim
def isC:Operand->Bool
 |.const _=>true
 |_=>false
def wN(c:Bool):Operand:=bif c then .const undef else .tmp 0
def eqQ(P:Program)(op:BinOp)(T:TypeId)(cx cy:Bool)(a b:Value)(w:World)(K:Value->Prop):Prop:=
 pV P (do eqGuard op T (wN cx) (wN cy) a b;binOp op T a b) w K
def CU(P:Program)(f:Fr)(o:Oper)(w:World)(K:Value->Prop):Prop:=
 match o.op with
 |.load T a=>nG (P.underlying T).isSome (ldW (uG P T) (mC P T) (ev f a) w K)
 |.lookup T x i ok=>pV P (Instr.lookup T (ev f x) (ev f i) ok) w K
 |.binOp op T x y _=>eqQ P op T (isC x) (isC y) (ev f x) (ev f y) w K
 |.convert s d x=>pV P (convert s d (ev f x)) w K
 |.typeAssert x xT aT ok=>pV P (Instr.typeAssert (ev f x) xT aT ok) w K
 |.entry it=>pV P (Instr.entry (ev f it)) w K
 |.call {callee:=.builtin b,args,argTypes}=>(match b with
   |.len=>pV P (Builtin.len_ argTypes o.type (evl f args).toArray) w K
   |_=>False)
 |_=>False
def isRead(P:Program):Op->Bool
 |.load ..|.lookup ..|.binOp ..|.typeAssert ..|.entry ..=>true
 |.convert s d _=>(match P.underlying s,P.underlying d with|some (.slice _),some .string=>true|_,_=>false)
 |.call {callee:=.builtin b,..}=>(match b with|.len=>true|_=>false)
 |_=>false
def qO(n:Nat)(z:List Value):List Value:=match n with|0=>[]|n+1=>z++qO n z
def Cc(P:Program)(T:TypeId)(len:Nat)(f:Fr)(parts:List (Nat×Operand))(w:World)(K:Value->World->Prop):Prop:=
 match P.underlying T with
 |some (.slice e)=>(match Es P e,tS (λi=>some (i*mC P e,mC P e)) f parts with
   |some z,some l=>nG (P.info? e).isSome (nG (Nat.beq z.cells.size (mC P e)) (nG (Nat.ble (len*mC P e) 1000) (gO e len (qO len z.cells.toList) l w K)))
   |_,_=>False)
 |_=>False
def WW[HX](P:Program)(f:Fr)(o:Oper)(w:World)(K:Value->World->Prop):Prop:=
 match o.op with
 |.alloc T=>(match Es P T with|some z=>dA T z.cells.toList w K|none=>False)
 |.box T x=>jF T (ev f x) w K
 |.buildSlice T n parts=>Cc P T n f parts.toList w K
 |.store T a x=>nG (P.info? T).isSome (stW (mC P T) (ev f a) (ev f x) w (K undef))
 |.mapUpdate T m k x|.insert T m k x=>CQ P (Instr.mapUpdate T (ev f m) (ev f k) (ev f x)) w (K undef)
 |.makeMap T r=>fY P (Instr.makeMap T (r.map (ev f))) w K
 |.makeSlice T l c=>fY P (Instr.makeSlice T (ev f l) (ev f c)) w K
 |.range T x=>fY P (Instr.range T (ev f x)) w K
 |.next it s=>fY P (Instr.next (ev f it) s o.type) w K
 |.convert s d x=>fY P (convert s d (ev f x)) w K
 |.call {callee:=.value x,args,..}=>(match x with
   |.func g=>aJ P g (evl f args) w K
   |_=>nV P (ev f x) (evl f args) w K)
 |.call {callee:=.invoke r m,args,..}=>Vm P (callMethod (ev f r) m (evl f args).toArray) w K
 |.panic x=>Lu (ev f x) w
 |.call {callee:=.builtin b,args,argTypes}=>(match b with
   |.append=>fY P (Builtin.append_ argTypes o.type (evl f args).toArray) w K
   |.copy=>fY P (Builtin.copy_ argTypes o.type (evl f args).toArray) w K
   |.delete=>fY P (Builtin.delete_ argTypes o.type (evl f args).toArray) w K
   |.clear=>fY P (Builtin.clear_ argTypes o.type (evl f args).toArray) w K
   |.panic=>Lu ((evl f args).getD 0 undef) w
   |_=>False)
 |_=>False
def GP[HX](P:Program)(f:Fr)(o:Oper)(w:World)(K:Value->World->Prop):Prop:=
 match oP P o.op with
 |true=>Kc P f o.op (λv=>K v w)
 |false=>(match isRead P o.op with
  |true=>CU P f o w (λv=>K v w)
  |false=>WW P f o w K)
theorem EH{a:Addr}(h:w.cell? a=some v):(load a).run P w=.ok v w:=by
 simp[load,Sem.run,h]
theorem tV{P:Program}{a:Addr}{w:World}:∀(n i:Nat) (l:List Value) (acc:Array Value),bV w a i n=some l->
  (loadCellsFrom a i n acc).run P w=.ok (acc++l.toArray) w
 |0,i,l,acc,h=>by
  simp only[bV,bA]at h
  subst h
  simp[loadCellsFrom,run_pure]
 |n+1,i,l,acc,h=>by
  simp only[bV]at h
  cases hc:w.cell? (a.add i)with
  |none=>simp[hc]at h
  |some v=>
   cases hr:bV w a (i+1) n with
   |none=>simp[hc,hr]at h
   |some l'=>
    simp only[hc,hr,aH,bA]at h
    subst h
    simp only[loadCellsFrom,run_bind,EH hc,tV n (i+1) l' _ hr]
    simp
theorem NK{x:Value}{K:Value->Prop}(hT:(P.underlying T).isSome=true)(h:ldW (uG P T) (mC P T) x w K):
  ∃v,K v/\(Instr.loadAt T x).run P w=.ok v w:=by
 cases x<;>simp only[ldW]at h<;>try exact h.elim
 rename_i a;cases a with
 |none=>exact h.elim
 |some a=>
  simp only at h;cases ha:uG P T with
  |true=>
   rw[ha]at h;obtain⟨l,hl,hk⟩:=h;refine⟨_,hk,?_⟩;simp[Instr.loadAt,Instr.sureAddr,loadVar,run_bind,run_pure,vW hT,ha,jJ (sJ hT),loadCells,tV _ _ _ _ hl]
  |false=>
   rw[ha]at h;obtain⟨v,hv,hk⟩:=h;refine⟨_,hk,?_⟩;simp[Instr.loadAt,Instr.sureAddr,loadVar,run_bind,run_pure,vW hT,ha]
   first|exact EH hv|(rw[hv])
theorem Ek(op:BinOp)(T:TypeId)(x y:Operand)(a b:Value):eqGuard op T (wN (isC x)) (wN (isC y)) a b=eqGuard op T x y a b:=by
 cases x<;>cases y<;>rfl
theorem zX{f:Fr}{o:Oper}{K:Value->Prop}(h:CU P f o w K):
  ∃v,K v/\(execOp (ev f) o).run P w=.ok (.value v) w:=by
 have key:∀(s:Sem Value),(∃v,K v/\s.run P w=.ok v w)->∃v,K v/\(do pure (.value (<-s)):Sem Next).run P w=.ok (.value v) w:=by
  rintro s ⟨v,hk,hr⟩;exact⟨v,hk,by rw[run_bind,hr];rfl⟩
 have key2:∀(s:Sem Value),pV P s w K->∃v,K v/\s.run P w=.ok v w:=λs ⟨v,hr,hk⟩=>⟨v,hk,hr⟩;obtain⟨dst,op,type,pos,after,guard⟩:=o;cases op<;>simp only[CU]at h<;>try exact h.elim
 case load T a=>simp only[execOp];exact key _ (NK (nG.out h).1 (nG.out h).2)
 case lookup T x i ok=>simp only[execOp];exact key _ (key2 _ h)
 case binOp op T x y yT=>
  simp only[execOp];refine key _ (key2 _ ?_);unfold eqQ at h;rw[Ek]at h;exact h
 case convert s d x=>simp only[execOp];exact key _ (key2 _ h)
 case typeAssert x xT aT ok=>simp only[execOp];exact key _ (key2 _ h)
 case entry it=>simp only[execOp];exact key _ (key2 _ h)
 case call c=>
  obtain⟨callee,args,argTypes⟩:=c;cases callee<;>simp only at h<;>try exact h.elim
  rename_i b;cases b<;>simp only at h<;>try exact h.elim
  simp only[execOp,resolve,wF];obtain⟨v,hk,hr⟩:=key2 _ h;exact⟨v,hk,by simp[run_bind,run_pure,invoke,builtin,hr]⟩
theorem xE{P:Program}{a:Addr}{K:World->Prop}:∀(l:List Value) (i:Nat) (w:World),lS a l i w K->∃w',K w'/\(storeCells a l i).run P w=.ok () w'
 |[],i,w,h=>⟨w,h,rfl⟩
 |v::r,i,w,h=>by
  obtain⟨h1,h2,h3,h4⟩:=h
  obtain⟨w',hk,hr⟩:=xE (P:=P) r (i+1) _ h4
  refine⟨w',hk,?_⟩
  obtain⟨old,ho⟩:=Option.isSome_iff_exists.1 h2
  have hs:(store (a.add i) v).run P w=.ok () (w.setCell (a.add i) v):=by
   cases v<;>first
    |(simp[jM]at h1;done)
    |(simp[store,Sem.run,ho,h3];done)
  simp only[storeCells,run_bind,hs,hr]
theorem Ve{x:Value}{K:World->Prop}(hT:(P.info? T).isSome=true)(h:stW (mC P T) x v w K):
  ∃w',K w'/\(Instr.storeAt T x v).run P w=.ok () w':=by
 cases x<;>simp only[stW]at h<;>try exact h.elim
 rename_i a;cases a with
 |none=>exact h.elim
 |some a=>
  obtain⟨h1,h2⟩:=h;obtain⟨w',hk,hr⟩:=xE (P:=P) _ _ _ h2;refine⟨w',hk,?_⟩;simp[Instr.storeAt,Instr.sureAddr,storeVar,run_bind,run_pure,jJ hT,h1,hr]
theorem Ej{z:Array Value}{size:Nat}(hz:z.size=size):∀len,((Array.range (len*size)).map (z[· %z.size]!))=(qO len z.toList).toArray:=by
 subst hz;have hlen:∀len,(qO len z.toList).length=len*z.size:=by
  intro len;induction len with
  |zero=>simp[qO]
  |succ n ih=>simp[qO,ih,Nat.succ_mul,zJ]
 intro len;apply Array.ext (by simp[hlen]);intro i h1 h2;simp only[Array.getElem_map,Array.getElem_range,List.getElem_toArray];simp at h1;have:∀(len i:Nat) (h:i<(qO len z.toList).length),(qO len z.toList)[i]=z[i%z.size]!:=by
  intro len;induction len with
  |zero=>intro i h;simp[qO]at h
  |succ n ih=>
   intro i h;have hpos:0<z.size:=by
    rcases Nat.eq_zero_or_pos z.size with h0|h0
    ·rw[hlen,h0]at h;simp at h
    ·exact h0
   simp only[qO,List.getElem_append];split
   ·rename_i hi;have hi':i<z.size:=by simpa using hi
    rw[Nat.mod_eq_of_lt hi',getElem!_pos z i hi'];simp
   ·rename_i hi;have hi':z.size<=i:=by simpa using hi
    rw[ih];simp only[Array.length_toList];congr 1;rw[Nat.mod_eq_sub_mod hi']
 rw[this]
theorem LY[HX]{f:Fr}{o:Oper}(h:WW P f o w K):Res P K ((execOp (ev f) o).run P w):=by
 have keyV:∀(s:Sem Value),fY P s w K->Res P K ((do pure (.value (<-s)):Sem Next).run P w):=by
  intro s hs;unfold fY at hs;rw[run_bind];cases hr:s.run P w with
  |ok v w'=>rw[hr]at hs;exact hs
  |halt x w'=>rw[hr]at hs;exact hs.elim
 have keyU:∀(s:Sem Unit),CQ P s w (K undef)->Res P K ((do s;pure .skip:Sem Next).run P w):=by
  intro s hs;unfold CQ at hs;rw[run_bind];cases hr:s.run P w with
  |ok v w'=>rw[hr]at hs;exact hs
  |halt x w'=>rw[hr]at hs;exact hs.elim
 have keyP:∀(x:Value),Lu x w->Res P K ((do pure (.value (<-Instr.panic x)):Sem Next).run P w):=by
  intro x hs;unfold Lu at hs;split at hs
  ·exact hs
  ·exact hs.elim
 obtain⟨dst,op,type,pos,after,guard⟩:=o;cases op<;>simp only[WW]at h<;>try exact h.elim
 case alloc T=>
  cases hz:Es P T with
  |none=>rw[hz]at h;exact h.elim
  |some z=>
   rw[hz]at h;simp only[execOp];have hr:(Instr.alloc T true (.tuple #[])).run P w=.ok (.pointer (some ⟨w.heap.size,0,none⟩)) (w.alloc (.cells z.cells T)):=by
    simp[Instr.alloc,run_bind,yI hz,newVar,newRow,newObj,Sem.run,run_pure]
   rw[run_bind,hr];exact h
 case box T x=>
  simp only[execOp];have hr:(Instr.box T (ev f x)).run P w=.ok (.pointer (some ⟨w.heap.size,0,none⟩)) (w.alloc (.cells (ev f x).cells T)):=by
   simp[Instr.box,run_bind,newVar,newRow,newObj,Sem.run,run_pure]
  rw[run_bind,hr];exact h
 case buildSlice T n parts=>
  simp only[execOp];unfold Cc at h;split at h
  ·rename_i e hd;split at h
   ·rename_i z l hz hl
    replace h:=nG.out h
    obtain⟨h1,h⟩:=h
    replace h:=nG.out h
    obtain⟨h2,h⟩:=h
    replace h:=nG.out h
    obtain⟨h3,h4⟩:=h
    replace h2:=kT h2
    replace h3:=lR h3
    unfold gO at h4;obtain⟨cs,hk,hf⟩:=yN _ _ _ hl h4;have hparts:(parts.map λ(i,x)=>(i,ev f x)).toList=parts.toList.map λp=>(p.1,ev f p.2):=by simp
    have hr:(Instr.buildSlice T n (parts.map λ(i,x)=>(i,ev f x))).run P w=.ok (.slice (some ⟨w.heap.size,0,none⟩) n n) (w.alloc (.cells cs.toArray e)):=by
     simp only[Instr.buildSlice,run_bind,cI hd,jJ h1];rw[aL (by omega)];have hcells:=Ej (z:=z.cells) h2 n;by_cases h0:n*mC P e=0
     ·rw[aU h0];simp only[run_bind,run_pure];have hc:((Array.range (n*mC P e)).map ((#[]:Array Value)[· %(#[]:Array Value).size]!))=(qO n z.cells.toList).toArray:=by
       rw[<-hcells,h0];simp[show Array.range 0=#[]from rfl]
      rw[hc,hparts,hf];simp[run_bind,newRow,newObj,Sem.run,run_pure]
     ·rw[aL h0];simp only[run_bind,run_pure,yI hz];rw[hcells,hparts,hf];simp[run_bind,newRow,newObj,Sem.run,run_pure]
    rw[run_bind,hr];exact hk
   ·exact h.elim
  ·exact h.elim
 case store T a x=>
  simp only[execOp];obtain⟨w',hk,hr⟩:=Ve (nG.out h).1 (nG.out h).2;rw[run_bind,hr];exact hk
 case mapUpdate T m k x=>simp only[execOp];exact keyU _ h
 case insert T m k x=>simp only[execOp];exact keyU _ h
 case makeMap T r=>simp only[execOp];exact keyV _ h
 case makeSlice T l c=>simp only[execOp];exact keyV _ h
 case range T x=>simp only[execOp];exact keyV _ h
 case next it s=>simp only[execOp];exact keyV _ h
 case panic x=>
  simp only[execOp];exact keyP _ h
 case convert s d x=>simp only[execOp];exact keyV _ h
 case call c=>
  obtain⟨callee,args,argTypes⟩:=c;cases callee with
  |value x=>
   simp only[execOp,resolve,wF];cases x<;>simp only at h
   case func g=>
    unfold aJ at h;have:(do let d<-(Deferred.ofValue (ev f (.func g)) (evl f args).toArray);invoke d.target d.args:Sem Next)=callFunc g (evl f args).toArray:=by
     show callFunc g (#[]++(evl f args).toArray++#[])=_;simp
    rw[this];exact h
   all_goals exact h
  |invoke r m=>
   simp only at h;simp only[execOp,resolve,wF];have:(do let d<-(pure {target:=.fn (.method m) #[],args:=#[ev f r]++(evl f args).toArray}:Sem Deferred);invoke d.target d.args:Sem Next)=callMethod (ev f r) m (evl f args).toArray:=by
    show invoke (.fn (.method m) #[]) (#[ev f r]++(evl f args).toArray)=_;simp[invoke]
   rw[this];exact h
  |builtin b=>
   simp only[execOp,resolve,wF];cases b<;>simp only at h<;>first
    |exact h.elim
    |exact keyV _ h
    |(have e:(evl f args).getD 0 undef=(evl f args).toArray.getD 0 .nilIface:=by
       cases hl:evl f args with
       |nil=>rw[hl]at h;exact h.elim
       |cons a r=>rfl
      rw[e]at h;exact keyP _ h)
theorem FW[HX]{f:Fr}{o:Oper}(h:GP P f o w K):Res P K ((execOp (ev f) o).run P w):=by
 unfold GP at h;cases hp:oP P o.op with
 |true=>
  rw[hp]at h;simp only at h;obtain⟨v,hk,hr⟩:=CW (o:=o) h;rw[hr];exact hk
 |false=>
  rw[hp]at h;simp only at h;cases hq:isRead P o.op with
  |true=>
   rw[hq]at h;simp only at h;obtain⟨v,hk,hr⟩:=zX (o:=o) h;rw[hr];exact hk
  |false=>
   rw[hq]at h;exact LY h
def qG:List Nat->Nat->Bool
 |[],_=>false
 |x::r,i=>bif Nat.beq x i then true else qG r i
theorem lO{l:List Nat}:qG l i=true↔i∈l:=by
 induction l with
 |nil=>simp[qG]
 |cons x r ih=>
  simp only[qG,bC];cases h:Nat.beq x i with
  |true=>simp[kT h]
  |false=>
   have:¬i=x:=λe=>by subst e;simp at h
   simp[this,ih]
def isB(v:Value)(want:Bool):Bool:=match v with|.bool b=>b==want|_=>false
def sC(ops:List Oper)(g:Nat):Option Nat:=match ops[g]? with|some o=>o.dst|none=>none
def yv(ops:List Oper)(f:Fr)(g:Nat)(want:Bool):Bool:=match sC ops g with|some d=>isB (f d) want|none=>false
def mS(ops:List Oper)(f:Fr)(o:Oper):Bool:=match o.guard with|none=>true|some (g,want)=>yv ops f g want
def Ag(n:Nat)(D:List Deferred)(f:Fr)(a:Act):Prop:=a.defers=D/\a.tmps.size=n/\∀t,a.tmps.getD t undef=f t
theorem UJ{f:Fr}{a:Act}{x:Operand}(h:∀t,x=.tmp t->a.tmps.getD t undef=f t):a.eval x=ev f x:=by
 cases x<;>first|rfl|exact h _ rfl
theorem xW{D:List Deferred}{f:Fr}{a:Act}(h:Ag n D f a):a.eval=ev f:=funext λ_=>UJ λt _=>h.2.2 t
theorem Et{ops:List Oper}{f:Fr}{a:Act}{o:Oper}(h:∀g want d,o.guard=some (g,want)->sC ops g=some d->a.tmps.getD d undef=f d):
  Region.wanted o (yielded ops.toArray a.tmps)=mS ops f o:=by
 unfold Region.wanted mS;cases hg:o.guard with
 |none=>rfl
 |some gw=>
  obtain⟨g,want⟩:=gw;have hy:yielded ops.toArray a.tmps g=match sC ops g with|some d=>(match f d with|.bool b=>some b|_=>none)|none=>none:=by
   unfold yielded;have h':=h g want;unfold sC at*
   simp only[bN];cases hx:ops[g]? with
   |none=>rfl
   |some o'=>
    rw[hx]at h';cases hd:o'.dst with
    |none=>simp[hd]
    |some d=>
     have hfd:=h' d hg hd;simp only[Option.bind_some,hd];rw[<-hfd];rcases oM d a.tmps.size with hlt|hge
     ·have e1:a.tmps[d]?=some a.tmps[d]:=by simp[hlt]
      have e2:a.tmps.getD d undef=a.tmps[d]:=by simp[hlt]
      rw[e1,e2];generalize a.tmps[d]=x;cases x<;>rfl
     ·simp[Array.getElem?_eq_none hge,undef,Array.getD,Nat.not_lt.2 hge]
  simp only[yv,hy];cases hd:sC ops g with
  |none=>simp
  |some d=>simp only[isB];cases f d<;>simp
theorem CV(a:Act)(d:Option Nat)(v:Value):(a.put d v).tmps.size=a.tmps.size:=by cases d<;>simp[Act.put]
theorem put_defers(a:Act)(d:Option Nat)(v:Value):(a.put d v).defers=a.defers:=by cases d<;>rfl
theorem Gm(a:Act)(d:Nat)(v:Value)(t:Nat)(hd:d<a.tmps.size):(a.put (some d) v).tmps.getD t undef=if t=d then v else a.tmps.getD t undef:=by
 simp only[Act.put,kW,Cj];by_cases h:t=d
 ·subst h;simp[hd]
 ·rw[aL h,aL (kG h)]
theorem pS(f:Fr)(d:Nat)(v:Value)(t:Nat):upd f (some d) v t=if t=d then v else f t:=by
 simp only[upd];by_cases h:t=d
 ·subst h;simp
 ·have:Nat.beq t d=false:=by
   cases hb:Nat.beq t d with
   |false=>rfl
   |true=>exact absurd (kT hb) h
  simp[this,h]
theorem Ag.put{D:List Deferred}{f:Fr}{a:Act}{d:Option Nat}(h:Ag n D f a)(hd:∀t,d=some t->t<n)(v:Value):Ag n D (upd f d v) (a.put d v):=by
 refine⟨by rw[put_defers];exact h.1,by rw[CV];exact h.2.1,λt=>?_⟩;cases d with
 |none=>exact h.2.2 t
 |some d=>rw[Gm _ _ _ _ (by rw[h.2.1];exact hd d rfl),pS,h.2.2]
structure DE where
 fl:List Nat
 anc:List (List Nat)
def kM(o:Oper):List Nat:=(o.after.toList.filter (Region.binds .any)).map (·.on)
def allIn(done:List Nat):List Nat->Bool
 |[]=>true
 |x::r=>bif qG done x then allIn done r else false
theorem zF{done l:List Nat}:allIn done l=true↔∀x∈l,x∈done:=by
 induction l with
 |nil=>simp[allIn]
 |cons x r ih=>
  simp only[allIn,bC,forall_eq_or_imp];cases h:qG done x with
  |true=>simp[lO.1 h,ih]
  |false=>
   have:x∉done:=λe=>by simp[lO.2 e]at h
   simp[this]
def tI(ops:List Oper)(done:List Nat):List Nat->Option (Nat×Oper)
 |[]=>none
 |i::r=>bif qG done i then tI ops done r else
   (match ops[i]? with
    |some o=>bif allIn done (kM o)then some (i,o)else tI ops done r
    |none=>tI ops done r)
def BD(ops:List Oper)(fl done:List Nat):Nat->List Oper->List (Nat×Oper)
 |_,[]=>[]
 |i,o::r=>bif (bif qG done i then false else(bif qG fl i then false else allIn done (kM o)))then(i,o)::BD ops fl done (i+1) r else BD ops fl done (i+1) r
def SD(P:Program)(f:Fr)(o:Oper)(w:World)(K:Value->Prop):Prop:=
 match oP P o.op with
 |true=>Kc P f o.op K
 |false=>CU P f o w K
def GqW(c:Bool)(A:(Value->Prop)->Prop)(B:Value->Prop):Prop:=∃v,(c=true->A (λx=>x=v))/\(c=false->v=undef)/\B v
def GeW(c:Bool)(w:World)(A:(Value->World->Prop)->Prop)(B:Value->World->Prop):Prop:=(c=true->A B)/\(c=false->B undef w)
def qfW(P:Program)(ops:List Oper)(f:Fr)(o:Oper)(w:World)(K:Value->Prop):Prop:=
 match o.guard with
 |none=>SD P f o w K
 |some (g,want)=>GqW (yv ops f g want) (SD P f o w) K
def geW[HX](P:Program)(ops:List Oper)(f:Fr)(o:Oper)(w:World)(K:Value->World->Prop):Prop:=
 match o.guard with
 |none=>GP P f o w K
 |some (g,want)=>GeW (yv ops f g want) w (GP P f o w) K
def wO(P:Program)(ops:List Oper)(f:Fr)(w:World)(rest:Prop):List Nat->Prop
 |[]=>rest
 |i::r=>match ops[i]? with
  |some o=>(match o.dst with
   |some d=>(match oP P o.op with
    |true=>wO P ops f w rest r
    |false=>
     ((match o.guard with
       |none=>CU P f o w (λx=>x=f d)
       |some (g,want)=>yv ops f g want=true->CU P f o w (λx=>x=f d))/\wO P ops f w rest r))
   |none=>wO P ops f w rest r)
  |none=>wO P ops f w rest r
def xM(l:List Nat):List Nat->List Nat
 |[]=>[]
 |x::r=>bif qG l x then xM l r else x::xM l r
theorem EY{l r:List Nat}{x:Nat}(h:x∈r)(hl:x∉l):x∈xM l r:=by
 induction r with
 |nil=>cases h
 |cons y r ih=>
  simp only[xM];rcases bC.1 h with rfl|h
  ·have:qG l x=false:=by
    cases hm:qG l x with
    |false=>rfl
    |true=>exact absurd (lO.1 hm) hl
   simp[this]
  ·cases hm:qG l y with
   |true=>exact ih h
   |false=>simp[ih h]
def Yt:Prop:=∀(_:HX) (P:Program) (ops:List Oper) (f:Fr) (o:Oper) (w:World) (K:Value->World->Prop),geW P ops f o w K->True
def Oi(p:Nat×Oper->Prop):List (Nat×Oper)->Prop
 |[]=>Yt
 |[x]=>p x
 |x::y::r=>p x/\Oi p (y::r)
theorem FB{p:Nat×Oper->Prop}:∀{l:List (Nat×Oper)} {x},Oi p l->x∈l->p x
 |[],_,_,h=>by cases h
 |[y],x,h,hx=>by simp at hx;subst hx;exact h
 |y::z::r,x,h,hx=>by
  rcases bC.1 hx with rfl|hx
  ·exact h.1
  ·exact FB h.2 hx
def uZ[HX](P:Program)(ops:List Oper)(e:DE):Nat->List Nat->List Nat->Fr->World->(Fr->World->Prop)->Prop
 |0,_,_,_,_,_=>False
 |n+1,done,pend,f,w,K=>
  match tI ops done e.fl with
  |some (i,o)=>qfW P ops f o w λv=>uZ P ops e n (i::done) (i::pend) (upd f o.dst v) w K
  |none=>match BD ops e.fl done 0 ops with
   |[]=>K f w
   |x::r=>Oi (λio=>geW P ops f io.2 w λv w'=>
     wO P ops (upd f io.2.dst v) w' (uZ P ops e n (io.1::done) (xM (e.anc.getD io.1 []) pend) (upd f io.2.dst v) w' K) (xM (e.anc.getD io.1 []) pend)) (x::r)
def pP(ops:List Oper)(o:Oper):List Nat:=
 (o.op.operands.toList.filterMap λ|.tmp t=>some t|_=>none)++(match o.guard with|some (g,_)=>(sC ops g).toList|none=>[])
def EX(o:Oper):Bool:=match o.op with|.select ..=>false|_=>true
def UP(P:Program)(ops:List Oper)(e:DE)(i:Nat):Bool:=
 match ops[i]? with
 |some o=>(oP P o.op||isRead P o.op)&&
  (match o.dst with
   |some d=>(List.range ops.length).all λk=>match ops[k]? with
     |some ok=>(k==i||ok.dst !=some d)&&(!(qG (pP ops ok) d)||qG (e.anc.getD k []) i)&&
       (match ok.dst with
        |some dk=> !(qG (pP ops o) dk)||qG (e.anc.getD i []) k||(!(qG e.fl k)&&qG (e.anc.getD k []) i)
        |none=>true)
     |none=>true
   |none=>false)
 |none=>false
def UO(n:Nat)(ops:List Oper)(e:DE)(k:Nat):Bool:=
 match ops[k]? with
 |some o=>(match o.dst with|some d=>decide (d<n)|none=>true)&&EX o&&(kM o).all (λx=>decide (x<k))&&
   (e.anc.getD k []).all (λx=>(kM o).any λy=>x==y||qG (e.anc.getD y []) x)
 |none=>true
def rU(P:Program)(n:Nat)(ops:List Oper)(e:DE):Bool:=
 e.fl.all (UP P ops e)&&(List.range ops.length).all (UO n ops e)
section
variable{P:Program}{n:Nat}{ops:List Oper}{e:DE}
theorem sM(h:rU P n ops e=true){k:Nat}{o:Oper}(hk:ops[k]?=some o):
  (∀d,o.dst=some d->d<n)/\EX o=true/\(∀x∈kM o,x<k)/\∀x∈e.anc.getD k [],∃y∈kM o,x=y\/x∈e.anc.getD y []:=by
 simp only[rU,bU,iD]at h;have hlt:k<ops.length:=by
  rcases oM k ops.length with h'|h'
  ·exact h'
  ·rw[eW h']at hk;cases hk
 have:=h.2 k (nJ.2 hlt);simp only[UO,hk,bU,iD,mU,gK,iK,fN]at this;obtain⟨⟨⟨h1,h2⟩,h3⟩,h4⟩:=this;refine⟨λd hd=>by simpa[hd]using h1,h2,h3,λx hx=>?_⟩;obtain⟨y,hy,hxy⟩:=h4 x hx;exact⟨y,hy,hxy.imp id lO.1⟩
theorem DI(h:rU P n ops e=true)(hi:i∈e.fl):∃o d,ops[i]?=some o/\o.dst=some d/\(oP P o.op=true\/isRead P o.op=true)/\
  ∀k ok,ops[k]?=some ok->(k≠i->ok.dst≠some d)/\(d∈pP ops ok->i∈e.anc.getD k [])/\
   ∀dk,ok.dst=some dk->dk∈pP ops o->k∈e.anc.getD i []\/(k∉e.fl/\i∈e.anc.getD k []):=by
 simp only[rU,bU,iD]at h;have h1:=h.1 i hi;unfold UP at h1;cases ho:ops[i]? with
 |none=>simp[ho]at h1
 |some o=>
  simp only[ho]at h1;cases hd:o.dst with
  |none=>simp[hd]at h1
  |some d=>
   simp only[hd,bU,gK,iD]at h1;refine⟨o,d,rfl,hd,h1.1,λk ok hk=>?_⟩;have hlt:k<ops.length:=by
    rcases oM k ops.length with h'|h'
    ·exact h'
    ·rw[eW h']at hk;cases hk
   have h2:=h1.2 k (nJ.2 hlt);simp only[hk,bU,gK,iK,bne_iff_ne,mJ]at h2;obtain⟨⟨h3,h4⟩,h5⟩:=h2;refine⟨λhne=>h3.resolve_left hne,λhm=>?_,λdk hdk hm=>?_⟩
   ·rcases h4 with h4|h4
    ·rw[lO.2 hm]at h4;cases h4
    ·exact lO.1 h4
   ·simp only[hdk,bU,gK,mJ]at h5;rcases h5 with(h5|h5)|⟨h5,h6⟩
    ·rw[lO.2 hm]at h5;cases h5
    ·exact .inl (lO.1 h5)
    ·exact .inr ⟨(λhk'=>by rw[lO.2 hk']at h5;cases h5),lO.1 h6⟩
theorem Ea(h:rU P n ops e=true){done:List Nat}(hc:∀k∈done,∀o,ops[k]?=some o->∀x∈kM o,x∈done):
  ∀(k:Nat) (o:Oper),ops[k]?=some o->(∀x∈kM o,x∈done)->∀x∈e.anc.getD k [],x∈done:=by
 intro k;induction k using Nat.strongRecOn with
 |_ k ih=>
  intro o ho hd x hx;obtain⟨_,_,h3,h4⟩:=sM h ho;obtain⟨y,hy,hxy⟩:=h4 x hx;rcases hxy with rfl|hxy
  ·exact hd x hy
  ·have hyd:=hd y hy;cases hoy:ops[y]? with
   |none=>
    rw[List.getElem?_eq_none_iff]at hoy;have hk:k<ops.length:=by
     rcases oM k ops.length with h'|h'
     ·exact h'
     ·rw[eW h']at ho;cases ho
    have:=h3 y hy;omega
   |some oy=>exact ih y (h3 y hy) oy hoy (λz hz=>hc y hyd oy hoy z hz) x hxy
end
section
variable{P:Program}{n:Nat}{D:List Deferred}{ops:List Oper}{e:DE}
def YY(P:Program)(ops:List Oper)(f:Fr)(o:Oper)(d:Nat)(w:World):Prop:=
 (mS ops f o=true/\(execOp (ev f) o).run P w=.ok (.value (f d)) w)\/(mS ops f o=false/\f d=undef)
structure Inv(R:Fr->Prop)(P:Program)(n:Nat)(D:List Deferred)(ops:List Oper)(e:DE)(listed:Array Bool)(a:Act)(done pend:List Nat)(f:Fr)(w:World):Prop where
 fr:R f
 defers:a.defers=D
 size:a.tmps.size=n
 lsize:listed.size=ops.length
 l1:∀i:Nat,listed.getD i false=true->i∈done
 l2:∀i∈done,i<ops.length/\(listed.getD i false=false->i∈e.fl/\i∈pend)
 l3:∀t,(∀i∈done,listed.getD i false=false->sC ops i≠some t)->a.tmps.getD t undef=f t
 l4:∀i∈done,listed.getD i false=false->∀o d,ops[i]?=some o->o.dst=some d->YY P ops f o d w/\(oP P o.op=true->∀w',YY P ops f o d w')
 l5:∀i∈done,∀o,ops[i]?=some o->∀x∈kM o,x∈done
 l6:∀i:Nat,listed.getD i false=true->∀o,ops[i]?=some o->∀x∈kM o,listed.getD x false=true
theorem Dj{o:Oper}{t:Nat}(h:Operand.tmp t∈o.op.operands.toList):t∈pP ops o:=by
 unfold pP;exact cD _ (bZ.2 ⟨.tmp t,h,rfl⟩)
theorem BU{o:Oper}{g:Nat}{want:Bool}{d:Nat}(hg:o.guard=some (g,want))(hd:sC ops g=some d):d∈pP ops o:=by
 unfold pP;refine bP _ ?_;simp[hg,hd]
theorem Jf{o:Oper}(h:EX o=true):∀cs b,o.op≠.select cs b:=by
 intro cs b he;simp[EX,he]at h
theorem BC{o:Oper}(hs:EX o=true){ρ ρ':Operand->Value}(h:∀x∈o.op.operands.toList,ρ x=ρ' x):execOp ρ o=execOp ρ' o:=
 execOp_congr o (Jf hs) (λx hx=>h x (by simpa using hx))
theorem KC{f f':Fr}{x:Operand}(h:∀t,x=.tmp t->f t=f' t):ev f x=ev f' x:=by
 cases x<;>first|rfl|exact h _ rfl
theorem vJ{f f':Fr}{o:Oper}(h:∀t∈pP ops o,f t=f' t):mS ops f o=mS ops f' o:=by
 unfold mS;cases hg:o.guard with
 |none=>rfl
 |some gw=>
  obtain⟨g,want⟩:=gw;simp only[yv];cases hd:sC ops g with
  |none=>rfl
  |some d=>simp only[h d (BU hg hd)]
theorem YY.same{f f':Fr}{o:Oper}{d:Nat}(hs:EX o=true)(h:∀t∈pP ops o,f t=f' t)(hd:f d=f' d)(hy:YY P ops f o d w):YY P ops f' o d w:=by
 unfold YY at*
 rw[<-vJ h,<-hd];rw[<-BC hs (ρ:=ev f) (ρ':=ev f') (λx hx=>KC λt ht=>h t (Dj (ht▸hx)))];exact hy
theorem Nb{f:Fr}{o:Oper}{K:Value->Prop}(hp:oP P o.op=true\/isRead P o.op=true)(h:qfW P ops f o w K):
  ∃v,K v/\((mS ops f o=true/\(execOp (ev f) o).run P w=.ok (.value v) w/\(oP P o.op=true->∀w',(execOp (ev f) o).run P w'=.ok (.value v) w'))\/(mS ops f o=false/\v=undef)):=by
 have key:∀K:Value->Prop,SD P f o w K->∃v,K v/\(execOp (ev f) o).run P w=.ok (.value v) w/\(oP P o.op=true->∀w',(execOp (ev f) o).run P w'=.ok (.value v) w'):=by
  intro K h;unfold SD at h;cases hp':oP P o.op with
  |true=>
   rw[hp']at h;obtain⟨v,hk,hr⟩:=CW (o:=o) h;exact⟨v,hk,hr w,λ_=>hr⟩
  |false=>
   rw[hp']at h;obtain⟨v,hk,hr⟩:=zX (o:=o) h;exact⟨v,hk,hr,λhh=>by cases hh⟩
 unfold qfW at h;unfold mS;cases hg:o.guard with
 |none=>
  simp only[hg]at h;obtain⟨v,hk,h1,h2⟩:=key K h;exact⟨v,hk,.inl ⟨rfl,h1,h2⟩⟩
 |some gw=>
  obtain⟨g,want⟩:=gw;simp only[hg]at h;obtain⟨v,ht,hf,hk⟩:=h;cases hc:yv ops f g want with
  |true=>
   obtain⟨v',rfl,h1,h2⟩:=key _ (ht hc);exact⟨v',hk,.inl ⟨hc,h1,h2⟩⟩
  |false=>exact⟨v,hk,.inr ⟨hc,hf hc⟩⟩
theorem xN{done:List Nat}:∀{l:List Nat} {i:Nat} {o:Oper},tI ops done l=some (i,o)->i∈l/\i∉done/\ops[i]?=some o/\∀x∈kM o,x∈done
 |[],_,_,h=>by cases h
 |j::l,i,o,h=>by
  simp only[tI]at h
  cases hm:qG done j with
  |true=>rw[hm]at h;obtain⟨h1,h2⟩:=xN (l:=l) h;exact⟨aD _ h1,h2⟩
  |false=>
   rw[hm]at h
   simp only[aN]at h
   have rec_:tI ops done l=some (i,o)->i∈j::l/\i∉done/\ops[i]?=some o/\∀x∈kM o,x∈done:=λh=>by
    obtain⟨h1,h2⟩:=xN (l:=l) h
    exact⟨aD _ h1,h2⟩
   cases ho:ops[j]? with
   |none=>rw[ho]at h;exact rec_ h
   |some o'=>
    rw[ho]at h
    simp only at h
    cases hall:allIn done (kM o')with
    |true=>
     rw[hall]at h
     simp only[aO,bA,gS]at h
     obtain⟨rfl,rfl⟩:=h
     exact⟨aW,(λhd=>by rw[lO.2 hd]at hm;cases hm),ho,zF.1 hall⟩
    |false=>rw[hall]at h;exact rec_ h
theorem tU{done:List Nat}:∀{l:List Nat},tI ops done l=none->∀i∈l,i∉done->∀o,ops[i]?=some o->¬∀x∈kM o,x∈done
 |[],_,_,hi,_,_,_,_=>by cases hi
 |j::l,h,i,hi,hd,o,ho,hall=>by
  simp only[tI]at h
  cases hm:qG done j with
  |true=>
   rw[hm]at h
   rcases bC.1 hi with rfl|hi
   ·exact hd (lO.1 hm)
   ·exact tU (l:=l) h i hi hd o ho hall
  |false=>
   rw[hm]at h
   simp only[aN]at h
   rcases bC.1 hi with rfl|hi
   ·rw[ho]at h
    simp[zF.2 hall]at h
   ·cases ho':ops[j]? with
    |none=>rw[ho']at h;exact tU (l:=l) h i hi hd o ho hall
    |some o'=>
     rw[ho']at h
     simp only at h
     cases hall':allIn done (kM o')with
     |true=>rw[hall']at h;cases h
     |false=>rw[hall']at h;exact tU (l:=l) h i hi hd o ho hall
theorem HK{fl done:List Nat}:∀(l:List Oper) (k i:Nat) (o:Oper),l[i]?=some o->k+i∉done->k+i∉fl->(∀x∈kM o,x∈done)->(k+i,o)∈BD ops fl done k l
 |[],_,i,o,h,_,_,_=>by simp at h
 |p::l,k,0,o,h,h1,h2,h3=>by
  simp only[bG,bA]at h
  subst h
  have e1:qG done k=false:=by
   cases hm:qG done k with
   |false=>rfl
   |true=>exact absurd (lO.1 hm) h1
  have e2:qG fl k=false:=by
   cases hm:qG fl k with
   |false=>rfl
   |true=>exact absurd (lO.1 hm) h2
  simp[BD,e1,e2,zF.2 h3]
 |p::l,k,i+1,o,h,h1,h2,h3=>by
  have h':l[i]?=some o:=by simpa using h
  have:=HK (fl:=fl) (done:=done) l (k+1) i o h' (by rwa[show k+1+i=k+(i+1)by omega]) (by rwa[show k+1+i=k+(i+1)by omega]) h3;rw[show k+1+i=k+(i+1)by omega]at this;simp only[BD];generalize (bif qG done k then false else bif qG fl k then false else allIn done (kM p))=b;cases b
  ·exact this
  ·exact aD _ this
theorem If{fl done:List Nat}:∀(l:List Oper) (k:Nat) (io:Nat×Oper),io∈BD ops fl done k l->k<=io.1/\l[io.1-k]?=some io.2/\io.1∉done/\io.1∉fl/\∀x∈kM io.2,x∈done
 |[],_,_,h=>by cases h
 |p::l,k,io,h=>by
  simp only[BD]at h
  have tail:io∈BD ops fl done (k+1) l->k<=io.1/\(p::l)[io.1-k]?=some io.2/\io.1∉done/\io.1∉fl/\∀x∈kM io.2,x∈done:=by
   intro h;obtain⟨h1,h2,h3⟩:=If l (k+1) io h;refine⟨by omega,?_,h3⟩;rw[show io.1-k=(io.1-(k+1))+1 by omega];simpa using h2
  cases hm:qG done k with
  |true=>rw[hm]at h;exact tail h
  |false=>
   cases hf:qG fl k with
   |true=>rw[hm,hf]at h;exact tail h
   |false=>
    cases ha:allIn done (kM p)with
    |false=>rw[hm,hf,ha]at h;exact tail h
    |true=>
     rw[hm,hf,ha]at h;simp only[aN,aO]at h;rcases bC.1 h with rfl|h
     ·refine⟨aZ _,by simp,(λhd=>by rw[lO.2 hd]at hm;cases hm),(λhd=>by rw[lO.2 hd]at hf;cases hf),zF.1 ha⟩
     ·exact tail h
theorem uM{f:Fr}{w:World}{R:Prop}:∀{l:List Nat},wO P ops f w R l->R
 |[],h=>h
 |i::l,h=>by
  unfold wO at h
  split at h
  ·split at h
   ·cases hp:oP P _<;>rw[hp]at h
    ·exact uM (l:=l) h.2
    ·exact uM (l:=l) h
   ·exact uM (l:=l) h
  ·exact uM (l:=l) h
theorem xG{f:Fr}{w:World}{R:Prop}:∀{l:List Nat},wO P ops f w R l->∀i∈l,∀o d,ops[i]?=some o->o.dst=some d->oP P o.op=false->mS ops f o=true->
  CU P f o w (λx=>x=f d)
 |[],_,_,hi,_,_,_,_,_,_=>by cases hi
 |j::l,h,i,hi,o,d,ho,hd,hp,hw=>by
  rcases bC.1 hi with rfl|hi
  ·unfold wO at h
   simp only[ho,hd,hp]at h
   unfold mS at hw
   cases hg:o.guard with
   |none=>simp only[hg]at h;exact h.1
   |some gw=>
    obtain⟨g,want⟩:=gw
    simp only[hg]at h hw
    exact h.1 hw
  ·unfold wO at h
   split at h
   ·split at h
    ·cases hp':oP P _<;>rw[hp']at h
     ·exact xG (l:=l) h.2 i hi o d ho hd hp hw
     ·exact xG (l:=l) h i hi o d ho hd hp hw
    ·exact xG (l:=l) h i hi o d ho hd hp hw
   ·exact xG (l:=l) h i hi o d ho hd hp hw
end
section
variable{R:Fr->Prop}{P:Program}{n:Nat}{D:List Deferred}{ops:List Oper}{e:DE}
theorem tH:∀(N:Nat) (l:List Nat),l.Nodup->(∀i∈l,i<N)->l.length<=N
 |0,[],_,_=>aZ _
 |0,x::_,_,h=>by have:=h x aW;omega
 |N+1,l,hnd,h=>by
  have h1:(l.erase N).length<=N:=tH N (l.erase N) (hnd.erase N) λi hi=>by
   have h2:=h i (List.mem_of_mem_erase hi)
   have h3:i≠N:=λe=>by subst e;exact(List.Nodup.not_mem_erase hnd) hi
   omega
  have h4:=List.length_erase (a:=N) (l:=l)
  split at h4<;>omega
theorem lt_of_some{k:Nat}{o:Oper}(h:ops[k]?=some o):k<ops.length:=by
 rcases oM k ops.length with h'|h'
 ·exact h'
 ·rw[eW h']at h;cases h
theorem wH{k:Nat}{o:Oper}(h:ops[k]?=some o):sC ops k=o.dst:=by simp[sC,h]
theorem Inv.float(hR:∀f o v,o∈ops->R f->R (upd f o.dst v))(hc:rU P n ops e=true){listed:Array Bool}{a:Act}{done pend:List Nat}{f:Fr}(I:Inv R P n D ops e listed a done pend f w){o:Oper}(hi:i∈e.fl)(hd:i∉done)(ho:ops[i]?=some o)(hb:∀x∈kM o,x∈done)
  (hv:(mS ops f o=true/\(execOp (ev f) o).run P w=.ok (.value v) w/\(oP P o.op=true->∀w',(execOp (ev f) o).run P w'=.ok (.value v) w'))\/(mS ops f o=false/\v=undef)):
  Inv R P n D ops e listed a (i::done) (i::pend) (upd f o.dst v) w:=by
 obtain⟨o',d,ho',hdst,hkind,hall⟩:=DI hc hi;rw[ho]at ho';cases ho';have hself:d∉pP ops o:=λhm=>hd (Ea hc I.l5 i o ho hb i ((hall i o ho).2.1 hm));have hfd:∀t,t≠d->upd f o.dst v t=f t:=λt ht=>by rw[hdst,pS,aL ht]
 refine⟨hR _ _ _ (bI ho) I.fr,I.defers,I.size,I.lsize,λk hk=>aD _ (I.l1 k hk),?_,?_,?_,?_,I.l6⟩
 ·intro k hk;rcases bC.1 hk with rfl|hk
  ·exact⟨lt_of_some ho,λ_=>⟨hi,aW⟩⟩
  ·exact⟨(I.l2 k hk).1,λhl=>⟨((I.l2 k hk).2 hl).1,aD _ ((I.l2 k hk).2 hl).2⟩⟩
 ·intro t ht;have htd:t≠d:=λh=>by
   subst h;refine ht i aW ?_ (by rw[wH ho,hdst]);cases hl:listed.getD i false with
   |false=>rfl
   |true=>exact absurd (I.l1 i hl) hd
  rw[hfd t htd];exact I.l3 t λk hk hl=>ht k (aD _ hk) hl
 ·intro k hk hl ok dk hok hdk;rcases bC.1 hk with rfl|hk
  ·rw[ho]at hok;cases hok;rw[hdst]at hdk;cases hdk;have hsame:∀t∈pP ops o,f t=upd f o.dst v t:=λt ht=>(hfd t (λh=>hself (h▸ht))).symm;have hval:upd f o.dst v d=v:=by rw[hdst,pS,aU rfl]
   have hsel:=(sM hc ho).2.1;have hex:execOp (ev f) o=execOp (ev (upd f o.dst v)) o:=BC hsel (λx hx=>KC λt ht=>hsame t (Dj (ht▸hx)));rcases hv with⟨h1,h2,h3⟩|⟨h1,h2⟩
   ·rw[hex]at h2 h3;rw[vJ hsame]at h1;exact⟨.inl ⟨h1,by rw[hval];exact h2⟩,λhp w'=>.inl ⟨h1,by rw[hval];exact h3 hp w'⟩⟩
   ·rw[vJ hsame]at h1;exact⟨.inr ⟨h1,by rw[hval];exact h2⟩,λ_ _=>.inr ⟨h1,by rw[hval];exact h2⟩⟩
  ·have hki:k≠i:=λh=>hd (h▸hk);have hdl:d∉pP ops ok:=λhm=>hd (Ea hc I.l5 k ok hok (I.l5 k hk ok hok) i ((hall k ok hok).2.1 hm));have hdd:dk≠d:=λh=>(hall k ok hok).1 hki (by rw[hdk,h]);have hsel:=(sM hc hok).2.1;have h4:=I.l4 k hk hl ok dk hok hdk;have hsame:∀t∈pP ops ok,f t=upd f o.dst v t:=λt ht=>(hfd t (λh=>hdl (h▸ht))).symm;exact⟨h4.1.same hsel hsame (hfd dk hdd).symm,λhp w'=>(h4.2 hp w').same hsel hsame (hfd dk hdd).symm⟩
 ·intro k hk ok hok x hx;rcases bC.1 hk with rfl|hk
  ·rw[ho]at hok;cases hok;exact aD _ (hb x hx)
  ·exact aD _ (I.l5 k hk ok hok x hx)
theorem BE[HX](hR:∀f o v,o∈ops->R f->R (upd f o.dst v))(hc:rU P n ops e=true){K:Fr->World->Prop}{listed:Array Bool}{a:Act}{w:World}:∀(m:Nat) (done pend:List Nat) (f:Fr),
  Inv R P n D ops e listed a done pend f w->uZ P ops e m done pend f w K->
  ∃m' done' pend' f',Inv R P n D ops e listed a done' pend' f' w/\uZ P ops e (m'+1) done' pend' f' w K/\tI ops done' e.fl=none
 |0,_,_,_,_,h=>by cases h
 |m+1,done,pend,f,I,h=>by
  cases hn:tI ops done e.fl with
  |none=>exact⟨m,done,pend,f,I,h,hn⟩
  |some io=>
   obtain⟨i,o⟩:=io
   simp only[uZ,hn]at h
   obtain⟨h1,h2,h3,h4⟩:=xN hn
   obtain⟨o',d,ho',hdst,hkind,_⟩:=DI hc h1
   rw[h3]at ho'
   cases ho'
   obtain⟨v,hk,hv⟩:=Nb hkind h
   exact BE hR hc m _ _ _ (I.float hR hc h1 h2 h3 h4 hv) hk
theorem Ad{listed:Array Bool}(hsz:listed.size=ops.length):i∈Region.ready .any ops.toArray listed↔
  ∃o,ops[i]?=some o/\listed.getD i false=false/\∀x∈kM o,listed.getD x false=true:=by
 unfold Region.ready;simp only[nW,nJ,aE,bU,mJ,bN];constructor
 ·rintro⟨h1,h2,h3⟩;have ho:ops[i]?=some ops[i]:=aG h1;rw[ho]at h3;simp only[aH,Option.getD_some,zM,gK,mJ]at h3;refine⟨_,ho,?_,λx hx=>?_⟩
  ·simp only[kW]at h2⊢;have:i<listed.size:=by rw[hsz];exact h1
   simpa[this]using h2
  ·simp only[kM,gE,nW,Array.mem_toList_iff]at hx;obtain⟨ed,⟨hm,hb⟩,rfl⟩:=hx;rcases h3 ed hm with h3|h3
   ·rw[hb]at h3;cases h3
   ·exact h3
 ·rintro⟨o,ho,h2,h3⟩;have h1:=lt_of_some ho;refine⟨h1,?_,?_⟩
  ·simp only[kW]at h2⊢;have:i<listed.size:=by rw[hsz];exact h1
   simpa[this]using h2
  ·rw[ho];simp only[aH,Option.getD_some,zM,gK,mJ];intro ed hm;cases hb:Region.binds .any ed with
   |false=>exact .inl rfl
   |true=>exact .inr (h3 _ (by simp only[kM,gE,nW,Array.mem_toList_iff];exact⟨ed,⟨hm,hb⟩,rfl⟩))
theorem oU(listed:Array Bool)(i k:Nat)(hi:i<listed.size):(listed.setIfInBounds i true).getD k false=(if k=i then true else listed.getD k false):=by
 simp only[kW,Cj];by_cases h:k=i
 ·subst h;simp[hi]
 ·rw[aL h,aL (kG h)]
theorem JA[HX](hR:∀f o v,o∈ops->R f->R (upd f o.dst v))(hc:rU P n ops e=true){Q:Exit->Act->World->Prop}{K:Fr->World->Prop}
  (hQ:∀f a w,Ag n D f a->R f->K f w->Q .normal a w)(hX:∀c f a w,a.defers=D->R f->(∀t,(∀o∈ops,o.dst≠some t)->a.tmps.getD t undef=f t)->HX.X c w->Q (.panic c) a w):∀(m:Nat) (listed:Array Bool) (a:Act) (done pend:List Nat) (f:Fr) (w:World) (k:Nat),
  Inv R P n D ops e listed a done pend f w->uZ P ops e k done pend f w K->(∀l:List Nat,l.Nodup->(∀i∈l,i<ops.length/\listed.getD i false=false)->l.length<=m)->
  wpAny P .any ops.toArray Q m listed a w:=by
 have fin:∀(listed:Array Bool) (a:Act) (done pend:List Nat) (f:Fr) (w:World) (k:Nat),Inv R P n D ops e listed a done pend f w->uZ P ops e k done pend f w K->
   (∀i,i<ops.length->listed.getD i false=true)->Q .normal a w:=by
  intro listed a done pend f w k I h hall;obtain⟨k',done',pend',f',I',h',hn⟩:=BE hR hc k done pend f I h;simp only[uZ,hn]at h';have hag:Ag n D f' a:=⟨I'.defers,I'.size,λt=>I'.l3 t λi hi hl=>by
   have:=hall i (I'.l2 i hi).1;rw[this]at hl;cases hl⟩
  cases he:BD ops e.fl done' 0 ops with
  |nil=>rw[he]at h';exact hQ _ _ _ hag I'.fr h'
  |cons x r=>
   have hx:x∈BD ops e.fl done' 0 ops:=by rw[he];exact aW
   obtain⟨_,h2,h3,_⟩:=If ops 0 x hx;exact absurd (I'.l1 x.1 (hall x.1 (lt_of_some (by simpa using h2)))) h3
 have stop:∀(listed:Array Bool),listed.size=ops.length->Region.ready .any ops.toArray listed=[]->∀i,i<ops.length->listed.getD i false=true:=by
  intro listed hsz hr i;induction i using Nat.strongRecOn with
  |_ i ih=>
   intro hi;cases hl:listed.getD i false with
   |true=>rfl
   |false=>
    have ho:ops[i]?=some ops[i]:=aG hi;have:i∈Region.ready .any ops.toArray listed:=(Ad hsz).2 ⟨_,ho,hl,λx hx=>by
     have:=(sM hc ho).2.2.1 x hx;exact ih x this (by omega)⟩
    rw[hr]at this;cases this
 intro m;induction m with
 |zero=>
  intro listed a done pend f w k I h hcount;have hall:∀i,i<ops.length->listed.getD i false=true:=λi hi=>by
   cases hl:listed.getD i false with
   |true=>rfl
   |false=>have:=hcount [i] (by simp) (by intro j hj;rw[bX.1 hj];exact⟨hi,hl⟩);simp at this
  refine⟨?_,fin _ _ _ _ _ _ _ I h hall⟩;cases hr:Region.ready .any ops.toArray listed with
  |nil=>rfl
  |cons i r=>
   have:i∈Region.ready .any ops.toArray listed:=by rw[hr];exact aW
   obtain⟨o,ho,hl,_⟩:=(Ad I.lsize).1 this;rw[hall i (lt_of_some ho)]at hl;cases hl
 |succ m ih=>
  intro listed a done pend f w k I h hcount;refine⟨λhr=>fin _ _ _ _ _ _ _ I h (stop listed I.lsize hr),λi hi=>?_⟩;obtain⟨o,ho,hl,hb⟩:=(Ad I.lsize).1 hi;have hilt:=lt_of_some ho;have hils:i<listed.size:=by rw[I.lsize];exact hilt
  obtain⟨k',done',pend',f',I',h',hn⟩:=BE hR hc k done pend f I h;clear I h;have hagree:∀t∈pP ops o,a.tmps.getD t undef=f' t:=λt ht=>I'.l3 t λj hj hlj hdj=>by
   obtain⟨hjf,_⟩:=(I'.l2 j hj).2 hlj;obtain⟨oj,dj,hoj,hdst,_,hall⟩:=DI hc hjf;rw[wH hoj,hdst]at hdj;cases hdj;have hanc:=(hall i o ho).2.1 ht;have hlist:∀x∈e.anc.getD i [],listed.getD x false=true:=by
    have:=Ea hc (done:=(List.range ops.length).filter λx=>listed.getD x false) (λx hx ox hox y hy=>by
     simp only[nW,nJ]at hx⊢;exact⟨by have:=(sM hc hox).2.2.1 y hy;omega,I'.l6 x hx.2 ox hox y hy⟩) i o ho (λx hx=>by
     simp only[nW,nJ];exact⟨by have:=(sM hc ho).2.2.1 x hx;omega,hb x hx⟩)
    intro x hx;have:=this x hx;simp only[nW]at this;exact this.2
   rw[hlist j hanc]at hlj;cases hlj
  have hsel:=(sM hc ho).2.1;have hwant:Region.wanted o (yielded ops.toArray a.tmps)=mS ops f' o:=Et λg want d hg hd=>hagree d (BU hg hd);have hexec:execOp a.eval o=execOp (ev f') o:=BC hsel λx hx=>UJ λt ht=>hagree t (Dj (ht▸hx));have hcount':∀l:List Nat,l.Nodup->(∀j∈l,j<ops.length/\(listed.setIfInBounds i true).getD j false=false)->l.length<=m:=by
   intro l hnd hl';have hil:i∉l:=λhm=>by
    have:=(hl' i hm).2;rw[oU _ _ _ hils,aU rfl]at this;cases this
   have:=hcount (i::l) (dK.2 ⟨hil,hnd⟩) (λj hj=>by
    rcases bC.1 hj with rfl|hj
    ·exact⟨hilt,hl⟩
    ·have hne:j≠i:=λh=>hil (h▸hj);have:=hl' j hj;rw[oU _ _ _ hils,aL hne]at this;exact this)
   simpa using this
  have hl6:∀j:Nat,(listed.setIfInBounds i true).getD j false=true->∀oj,ops[j]?=some oj->∀x∈kM oj,(listed.setIfInBounds i true).getD x false=true:=by
   intro j hj oj hoj x hx;rw[oU _ _ _ hils];by_cases hxi:x=i
   ·rw[aU hxi]
   ·rw[aL hxi];rw[oU _ _ _ hils]at hj;by_cases hji:j=i
    ·subst hji;rw[ho]at hoj;cases hoj;exact hb x hx
    ·rw[aL hji]at hj;exact I'.l6 j hj oj hoj x hx
  by_cases hdone:i∈done'
  ·
   obtain⟨hif,_⟩:=(I'.l2 i hdone).2 hl;obtain⟨o',d,ho',hdst,_,hall⟩:=DI hc hif;rw[ho]at ho';cases ho';have hdn:=(sM hc ho).1 d hdst;have hI:Inv R P n D ops e (listed.setIfInBounds i true) (a.put o.dst (f' d)) done' pend' f' w:=by
    refine⟨I'.fr,by rw[put_defers];exact I'.defers,by rw[CV];exact I'.size,by simp[I'.lsize],?_,?_,?_,?_,I'.l5,hl6⟩
    ·intro j hj;rw[oU _ _ _ hils]at hj;by_cases hji:j=i
     ·subst hji;exact hdone
     ·rw[aL hji]at hj;exact I'.l1 j hj
    ·intro j hj;refine⟨(I'.l2 j hj).1,λhlj=>?_⟩;rw[oU _ _ _ hils]at hlj;by_cases hji:j=i
     ·rw[aU hji]at hlj;cases hlj
     ·rw[aL hji]at hlj;exact(I'.l2 j hj).2 hlj
    ·intro t ht;rw[hdst,Gm _ _ _ _ (by rw[I'.size];exact hdn)];by_cases htd:t=d
     ·rw[aU htd,htd]
     ·rw[aL htd];refine I'.l3 t λj hj hlj hdj=>?_;by_cases hji:j=i
      ·subst hji;rw[wH ho,hdst]at hdj;cases hdj;exact htd rfl
      ·exact ht j hj (by rw[oU _ _ _ hils,aL hji];exact hlj) hdj
    ·intro j hj hlj;rw[oU _ _ _ hils]at hlj;by_cases hji:j=i
     ·rw[aU hji]at hlj;cases hlj
     ·rw[aL hji]at hlj;exact I'.l4 j hj hlj
   have hnext:=ih _ _ done' pend' f' w (k'+1) hI h' hcount';have hy:=(I'.l4 i hdone hl o d ho hdst).1;unfold wpOp;simp only[bN,ho];rw[hwant];rcases hy with⟨h1,h2⟩|⟨h1,h2⟩
   ·rw[aU h1];refine .inl ?_;unfold Oper.wp;rw[hexec,h2];exact hnext
   ·rw[aL (by rw[h1];simp),<-h2];exact hnext
  ·
   have hbd:∀x∈kM o,x∈done':=λx hx=>I'.l1 x (hb x hx);have hnf:i∉e.fl:=λhf=>tU hn i hf hdone o ho hbd;have hmem:(i,o)∈BD ops e.fl done' 0 ops:=by
    have:=HK (ops:=ops) (fl:=e.fl) (done:=done') ops 0 i o ho (by simpa using hdone) (by simpa using hnf) hbd;simpa using this
   simp only[uZ,hn]at h';have hge:geW P ops f' o w λv w'=>wO P ops (upd f' o.dst v) w' (uZ P ops e k' (i::done') (xM (e.anc.getD i []) pend') (upd f' o.dst v) w' K) (xM (e.anc.getD i []) pend'):=by
    cases he:BD ops e.fl done' 0 ops with
    |nil=>rw[he]at hmem;cases hmem
    |cons x r=>
     rw[he]at h' hmem;exact FB h' hmem
   have hdn:=(sM hc ho).1;have hlanc:∀x∈e.anc.getD i [],listed.getD x false=true:=by
    have:=Ea hc (done:=(List.range ops.length).filter λx=>listed.getD x false) (λx hx ox hox y hy=>by
     simp only[nW,nJ]at hx⊢;exact⟨by have:=(sM hc hox).2.2.1 y hy;omega,I'.l6 x hx.2 ox hox y hy⟩) i o ho (λx hx=>by
     simp only[nW,nJ];exact⟨by have:=(sM hc ho).2.2.1 x hx;omega,hb x hx⟩)
    intro x hx;have:=this x hx;simp only[nW]at this;exact this.2
   have cont:∀v w',wO P ops (upd f' o.dst v) w' (uZ P ops e k' (i::done') (xM (e.anc.getD i []) pend') (upd f' o.dst v) w' K) (xM (e.anc.getD i []) pend')->
     wpAny P .any ops.toArray Q m (listed.setIfInBounds i true) (a.put o.dst v) w':=by
    intro v w' hst;refine ih _ _ (i::done') (xM (e.anc.getD i []) pend') (upd f' o.dst v) w' k' ?_ (uM hst) hcount';have hunl:∀j∈i::done',(listed.setIfInBounds i true).getD j false=false->j≠i/\j∈done'/\listed.getD j false=false:=by
     intro j hj hlj;rw[oU _ _ _ hils]at hlj;by_cases hji:j=i
     ·rw[aU hji]at hlj;cases hlj
     ·rw[aL hji]at hlj;exact⟨hji,(bC.1 hj).resolve_left hji,hlj⟩
    refine⟨hR _ _ _ (bI ho) I'.fr,by rw[put_defers];exact I'.defers,by rw[CV];exact I'.size,by simp[I'.lsize],?_,?_,?_,?_,?_,hl6⟩
    ·intro j hj;rw[oU _ _ _ hils]at hj;by_cases hji:j=i
     ·subst hji;exact aW
     ·rw[aL hji]at hj;exact aD _ (I'.l1 j hj)
    ·intro j hj;refine⟨?_,λhlj=>?_⟩
     ·rcases bC.1 hj with rfl|hj
      ·exact hilt
      ·exact(I'.l2 j hj).1
     ·obtain⟨hji,hjd,hlj'⟩:=hunl j hj hlj;obtain⟨h1,h2⟩:=(I'.l2 j hjd).2 hlj';exact⟨h1,EY h2 λhm=>by rw[hlanc j hm]at hlj';cases hlj'⟩
    ·intro t ht;have h3:∀(h:∀d,o.dst=some d->t≠d),a.tmps.getD t undef=f' t:=λh=>I'.l3 t λj hj hlj hdj=>by
      have hji:j≠i:=λh'=>hdone (h'▸hj);exact ht j (aD _ hj) (by rw[oU _ _ _ hils,aL hji];exact hlj) hdj
     cases hdst:o.dst with
     |none=>rw[hdst]at h3;exact h3 (λd hd=>by cases hd)
     |some d=>
      rw[Gm _ _ _ _ (by rw[I'.size];exact hdn d hdst),pS];by_cases htd:t=d
      ·rw[aU htd,aU htd]
      ·rw[aL htd,aL htd];exact h3 (λd' hd'=>by rw[hdst]at hd';cases hd';exact htd)
    ·intro j hj hlj oj dj hoj hdj;obtain⟨hji,hjd,hlj'⟩:=hunl j hj hlj;obtain⟨hjf,hjp⟩:=(I'.l2 j hjd).2 hlj';obtain⟨oj',dj',hoj',hdj',hkind,hall⟩:=DI hc hjf;rw[hoj]at hoj';cases hoj';rw[hdj]at hdj';cases hdj';have hselj:=(sM hc hoj).2.1;have hanc:j∉e.anc.getD i []:=λhm=>by rw[hlanc j hm]at hlj';cases hlj'
     have hfree:∀t,(t∈pP ops oj\/t=dj)->f' t=upd f' o.dst v t:=by
      intro t ht;cases hdst:o.dst with
      |none=>rfl
      |some d=>
       rw[pS];by_cases htd:t=d
       ·exfalso;subst htd;rcases ht with ht|ht
        ·rcases(hall i o ho).2.2 t hdst ht with h1|⟨_,h1⟩
         ·exact hdone (Ea hc I'.l5 j oj hoj (I'.l5 j hjd oj hoj) i h1)
         ·exact hanc h1
        ·exact(hall i o ho).1 (kG hji) (by rw[hdst,ht])
       ·rw[aL htd]
     obtain⟨hy1,hy2⟩:=I'.l4 j hjd hlj' oj dj hoj hdj;have hpure:oP P oj.op=true->∀w',YY P ops (upd f' o.dst v) oj dj w':=λhp w'=>(hy2 hp w').same hselj (λt ht=>hfree t (.inl ht)) (hfree dj (.inr rfl));refine⟨?_,hpure⟩;cases hp:oP P oj.op with
     |true=>exact hpure hp w'
     |false=>
      cases hwj:mS ops (upd f' o.dst v) oj with
      |true=>
       have:=xG hst j (EY hjp hanc) oj dj hoj hdj hp hwj;obtain⟨x,rfl,hr⟩:=zX this;exact .inl ⟨hwj,hr⟩
      |false=>
       refine .inr ⟨hwj,?_⟩;have hw0:mS ops f' oj=false:=by rw[vJ (λt ht=>hfree t (.inl ht))];exact hwj
       rcases hy1 with⟨h1,_⟩|⟨_,h1⟩
       ·rw[hw0]at h1;cases h1
       ·rw[<-hfree dj (.inr rfl)];exact h1
    ·intro j hj oj hoj x hx;rcases bC.1 hj with rfl|hj
     ·rw[ho]at hoj;cases hoj;exact aD _ (hbd x hx)
     ·exact aD _ (I'.l5 j hj oj hoj x hx)
   unfold wpOp;simp only[bN,ho];rw[hwant];unfold geW at hge;unfold mS;have hxa:∀c w,HX.X c w->Q (.panic c) a w:=λc w hx=>hX c f' a w I'.defers I'.fr (λt ht=>I'.l3 t λj hj _ hdj=>by
    obtain⟨oj,hoj⟩:∃oj,ops[j]?=some oj:=⟨_,aG (I'.l2 j hj).1⟩;rw[wH hoj]at hdj;exact ht oj (bI hoj) hdj) hx
   have act:∀{K':Value->World->Prop},(∀v w',K' v w'->wpAny P .any ops.toArray Q m (listed.setIfInBounds i true) (a.put o.dst v) w')->GP P f' o w K'->
     o.wp P a w (wpAny P .any ops.toArray Q m (listed.setIfInBounds i true)) Q:=by
    intro K' hk ha;unfold Oper.wp;rw[hexec];exact(FW ha).upon hk hxa
   cases hg:o.guard with
   |none=>
    simp only[hg]at hge;exact .inl (act cont hge)
   |some gw=>
    obtain⟨g,want⟩:=gw;simp only[hg]at hge;obtain⟨h1,h2⟩:=hge;cases hcv:yv ops f' g want with
    |true=>simp only[hcv,qH];exact .inl (act cont (h1 hcv))
    |false=>simp only[hcv,mV,qY];exact cont _ _ (h2 hcv)
theorem Hn[HX]{id:Nat}(hR:∀f o v,o∈ops->R f->R (upd f o.dst v))(hm:P.follows .mixedOrders=true)(hc:rU P n ops e=true){Q:Exit->Act->World->Prop}{K:Fr->World->Prop}{f:Fr}{a:Act}{k:Nat}
  (hQ:∀f a w,Ag n D f a->R f->K f w->Q .normal a w)(hX:∀c f a w,a.defers=D->R f->(∀t,(∀o∈ops,o.dst≠some t)->a.tmps.getD t undef=f t)->HX.X c w->Q (.panic c) a w)(ha:Ag n D f a)(hf:R f)(h:uZ P ops e k [] [] f w.drew K):(Code.region id ops.toArray true).wp P Q a w:=by
 refine wp_region_any hm ?_;have hfalse:∀i:Nat,(Array.replicate ops.length false).getD i false=false:=λi=>by
  simp only[kW,Array.getElem?_replicate];split<;>rfl
 refine JA hR hc hQ hX _ _ a [] [] f _ k ⟨hf,ha.1,ha.2.1,by simp,?_,?_,?_,?_,?_,?_⟩ h ?_
 ·intro i hi;rw[show ops.toArray.size=ops.length from by simp,hfalse]at hi;cases hi
 ·intro i hi;cases hi
 ·intro t _;exact ha.2.2 t
 ·intro i hi;cases hi
 ·intro i hi;cases hi
 ·intro i hi;rw[show ops.toArray.size=ops.length from by simp,hfalse]at hi;cases hi
 ·intro l hnd hl;have:l.length<=ops.length:=by
   exact tH _ l hnd λi hi=>(hl i hi).1
  simpa using this
end
structure PE where
 C:List Nat
 V:List Nat
 lo:Nat
structure fD where
 js:List (Nat×PE)
 ds:List (Nat×DE)
def lk{α:Type}:List (Nat×α)->Nat->Option α
 |[],_=>none
 |(k,e)::r,i=>bif Nat.beq k i then some e else lk r i
def inS(V:List Nat)(lo t:Nat):Bool:=bif Nat.ble lo t then true else qG V t
def ovl:List Nat->Nat->List Value->Fr->Fr
 |[],_,_,f=>f
 |c::C,k,s,f=>λj=>bif Nat.beq j c then s.getD k undef else ovl C (k+1) s f j
def ovf(e:PE)(f:Fr)(s:List Value)(g:Fr):Fr:=ovl e.C 0 s (λj=>bif inS e.V e.lo j then g j else f j)
def dE(A:(List Value->World->Prop)->Prop)(B:List Value->Fr->World->Prop):Prop:=
 ∃J:List Value->World->Prop,A J/\∀s g w,J s w->B s g w
def GdW(c:Bool)(u:List Value)(w:World)(A:(List Value->World->Prop)->Prop)(B:List Value->Fr->World->Prop):Prop:=
 ∃J:List Value->World->Prop,(c=true->A J)/\(c=false->J u w)/\∀s g w',J s w'->B s g w'
def dL(s0:List Value)(w0:World)(B:List Value->Fr->World->(List Value->World->Prop)->Prop):Prop:=
 ∃(I:List Value->World->Prop) (μ:List Value->World->Nat),I s0 w0/\∀s g w,I s w->B s g w (λs' w'=>I s' w'/\μ s' w'<μ s w)
def bB(v:Value)(A B:Prop):Prop:=match v with|.bool t=>(t=true->A)/\(t=false->B)|_=>False
def gEq:Option (Nat×Bool)->Nat->Bool->Bool
 |some (g',w'),g,w=>bif Nat.beq g g' then w==w' else false
 |none,_,_=>false
def zS(g:Nat)(want:Bool):List Oper->List Oper
 |[]=>[]
 |o::r=>bif gEq o.guard g want then o::zS g want r else []
def Bq(g:Nat)(want:Bool):List Oper->List Oper
 |[]=>[]
 |o::r=>bif gEq o.guard g want then Bq g want r else o::r
def Ws[HX](P:Program):List Oper->Fr->World->(Fr->World->Prop)->Prop
 |[],f,w,K=>K f w
 |o::r,f,w,K=>GP P f o w λv w'=>Ws P r (upd f o.dst v) w' K
def CK:List Oper->Fr->Fr
 |[],f=>f
 |o::r,f=>CK r (upd f o.dst undef)
def NU(i k:Nat):Nat:=i*1000+k
def No[HX](P:Program)(pl:fD)(i:Nat)(ops:List Oper):Nat->List Oper->Fr->World->(Fr->World->Prop)->Prop
 |0,_,_,_,_=>False
 |_+1,[],f,w,K=>K f w
 |n+1,o::r,f,w,K=>
  match o.guard with
  |none=>GP P f o w λv w'=>No P pl i ops n r (upd f o.dst v) w' K
  |some (g,want)=>
   match lk pl.js (NU i (o::r).length)with
   |some e=>GdW (yv ops f g want) (e.C.map (CK (zS g want (o::r)) f)) w (λJ=>Ws P (zS g want (o::r)) f w λf' w'=>J (e.C.map f') w')
     λs h w'=>No P pl i ops n (Bq g want (o::r)) (ovf e f s h) w' K
   |none=>False
def tT:Code->Nat
 |.seq a b=>tT a+tT b+1
 |.cond _ a b=>tT a+tT b+1
 |.block _ b=>tT b+1
 |.loop b=>tT b+1
 |.scope b=>tT b+1
 |_=>1
def qM[HX](P:Program)(pl:fD):Code->Nat->Fr->World->(Fr->World->Prop)->(Nat->Fr->World->Prop)->(Fr->World->Prop)->Prop
 |.skip,_,f,w,kn,_,_=>kn f w
 |.label _,_,f,w,kn,_,_=>kn f w
 |.region _ ops draw,i,f,w,kn,_,_=>
  bif draw then(match lk pl.ds i with|some e=>uZ P ops.toList e (ops.toList.length+1) [] [] f w.drew kn|none=>False)
  else No P pl i ops.toList (ops.toList.length+1) ops.toList f w kn
 |.seq a b,i,f,w,kn,kx,kr=>
  match lk pl.js i with
  |none=>qM P pl a (i+1) f w (λf' w'=>qM P pl b (i+1+tT a) f' w' kn kx kr) kx kr
  |some e=>dE (λJ=>qM P pl a (i+1) f w (λf' w'=>J (e.C.map f') w') kx kr) λs g w'=>qM P pl b (i+1+tT a) (ovf e f s g) w' kn kx kr
 |.cond c a b,i,f,w,kn,kx,kr=>bB (ev f c) (qM P pl a (i+1) f w kn kx kr) (qM P pl b (i+1+tT a) f w kn kx kr)
 |.block id b,i,f,w,kn,kx,kr=>qM P pl b (i+1) f w kn (λj f' w'=>bif Nat.beq j id then kn f' w' else kx j f' w') kr
 |.loop b,i,f,w,_,kx,kr=>
  match lk pl.js i with
  |none=>False
  |some e=>dL (e.C.map f) w λs g w' again=>qM P pl b (i+1) (ovf e f s g) w' (λf' w''=>again (e.C.map f') w'') kx kr
 |.scope b,i,f,w,kn,kx,kr=>qM P pl b (i+1) f w kn kx kr
 |.exit id,_,f,w,_,kx,_=>kx id f w
 |.ret,_,f,w,_,_,kr=>kr f w
 |_,_,_,_,_,_,_=>False
def Iq(V:List Nat)(lo:Nat)(e:PE):Bool:=Nat.ble lo e.lo&&e.V.all (inS V lo)&&e.C.all (inS e.V e.lo)
def zV(V:List Nat)(lo:Nat)(o:Oper):Bool:=match o.dst with|some d=>inS V lo d|none=>true
def Ig(n:Nat)(o:Oper):Bool:=match o.dst with|some d=>Nat.blt d n|none=>true
def pG(pl:fD)(V:List Nat)(lo:Nat)(i:Nat)(ops:List Oper):List Oper->Bool
 |[]=>true
 |o::r=>(match o.guard with
  |none=>true
  |some (g,want)=>(match lk pl.js (NU i (o::r).length)with
   |some e=>Iq V lo e&&(zS g want (o::r)).all λx=>zV e.V e.lo x&&(match x.dst,sC ops g with|some d,some dg=> !(Nat.beq d dg)|_,_=>true)
   |none=>true))&&pG pl V lo i ops r
def chk(P:Program)(n:Nat)(pl:fD)(V:List Nat)(lo:Nat):Code->Nat->Bool
 |.region _ ops draw,i=>ops.toList.all (λo=>zV V lo o&&Ig n o)&&
  (bif draw then(match lk pl.ds i with|some e=>rU P n ops.toList e|none=>true)else pG pl V lo i ops.toList ops.toList)
 |.seq a b,i=>(match lk pl.js i with|none=>chk P n pl V lo a (i+1)|some e=>Iq V lo e&&chk P n pl e.V e.lo a (i+1))&&chk P n pl V lo b (i+1+tT a)
 |.cond _ a b,i=>chk P n pl V lo a (i+1)&&chk P n pl V lo b (i+1+tT a)
 |.block _ b,i=>chk P n pl V lo b (i+1)
 |.scope b,i=>chk P n pl V lo b (i+1)
 |.loop b,i=>(match lk pl.js i with|none=>true|some e=>Iq V lo e&&chk P n pl e.V e.lo b (i+1))
 |_,_=>true
def Same(V:List Nat)(lo:Nat)(f f':Fr):Prop:=∀t,inS V lo t=false->f' t=f t
theorem Same.refl(V:List Nat)(lo:Nat)(f:Fr):Same V lo f f:=λ_ _=>rfl
theorem Same.trans{V:List Nat}{lo:Nat}{f g h:Fr}(h1:Same V lo f g)(h2:Same V lo g h):Same V lo f h:=λt ht=>(h2 t ht).trans (h1 t ht)
theorem Ks{V:List Nat}{lo t:Nat}:inS V lo t=true↔lo<=t\/t∈V:=by
 unfold inS;cases h:Nat.ble lo t with
 |true=>simp[lR h]
 |false=>
  have:¬lo<=t:=λhle=>by rw[Nat.ble_eq_true_of_le hle]at h;cases h
  simp[this,lO]
theorem BF{V:List Nat}{lo:Nat}{e:PE}(h:Iq V lo e=true):(∀t,inS e.V e.lo t=true->inS V lo t=true)/\∀c∈e.C,inS e.V e.lo c=true:=by
 simp only[Iq,bU,iD]at h;refine⟨λt ht=>?_,h.2⟩;rcases Ks.1 ht with h1|h1
 ·exact Ks.2 (.inl (dR (lR h.1.1) h1))
 ·exact h.1.2 t h1
theorem Same.wider{V V':List Nat}{lo lo':Nat}{f f':Fr}(hs:∀t,inS V lo t=true->inS V' lo' t=true)(h:Same V lo f f'):Same V' lo' f f':=λt ht=>h t (by
 cases hi:inS V lo t with
 |false=>rfl
 |true=>rw[hs t hi]at ht;cases ht)
theorem Kf(f':Fr):∀(C:List Nat) (k:Nat) (s:List Value) (f:Fr) (t:Nat),(∀j,j<C.length->s.getD (k+j) undef=f' (C.getD j 0))->(t∉C->f t=f' t)->ovl C k s f t=f' t
 |[],_,_,_,_,_,h=>h (by simp)
 |c::C,k,s,f,t,hs,h=>by
  simp only[ovl]
  cases hb:Nat.beq t c with
  |true=>
   have:=hs 0 (by simp)
   simp only[aO]
   rw[kT hb]
   simpa using this
  |false=>
   simp only[aN]
   have hne:t≠c:=λe=>by subst e;simp at hb
   refine Kf f' C (k+1) s f t (λj hj=>?_) λhn=>h (by simp[hne,hn])
   have:=hs (j+1) (by simp;omega)
   rw[show k+1+j=k+(j+1)by omega,this]
   rfl
theorem AM{e:PE}{f f':Fr}(h:Same e.V e.lo f f'):ovf e f (e.C.map f') f'=f':=by
 funext t;refine Kf f' e.C 0 _ _ t (λj hj=>?_) λ_=>?_
 ·simp[hj]
 ·cases hi:inS e.V e.lo t with
  |true=>simp[hi]
  |false=>simp[hi,h t hi]
theorem Same.upd{V:List Nat}{lo:Nat}{f:Fr}{o:Oper}(h:zV V lo o=true)(v:Value):Same V lo f (upd f o.dst v):=by
 intro t ht;unfold zV at h;cases hd:o.dst with
 |none=>rfl
 |some d=>
  rw[hd]at h;rw[pS,aL];intro e;subst e;have h:inS V lo t=true:=h;rw[h]at ht;cases ht
theorem DG{o:Oper}(h:Ig n o=true):∀t,o.dst=some t->t<n:=by
 intro t ht;rw[Ig,ht]at h;exact lR h
theorem NY{x:Option (Nat×Bool)}{g:Nat}{w:Bool}(h:gEq x g w=true):x=some (g,w):=by
 cases x with
 |none=>cases h
 |some p=>
  obtain⟨g',w'⟩:=p;simp only[gEq]at h;cases hb:Nat.beq g g' with
  |false=>rw[hb]at h;cases h
  |true=>
   rw[hb]at h;simp only[aO,iK]at h;rw[kT hb,h]
theorem Fo(g:Nat)(want:Bool):∀l:List Oper,l=zS g want l++Bq g want l/\∀o∈zS g want l,o.guard=some (g,want)
 |[]=>⟨rfl,by simp[zS]⟩
 |o::r=>by
  simp only[zS,Bq]
  cases h:gEq o.guard g want with
  |false=>simp
  |true=>
   obtain⟨h1,h2⟩:=Fo g want r
   refine⟨by simp only[aO,iC];rw[<-h1],λx hx=>?_⟩
   simp only[aO,bC]at hx
   rcases hx with rfl|hx
   ·exact NY h
   ·exact h2 x hx
section
variable [HX]{P:Program}{n:Nat}{D:List Deferred}{ops:List Oper}{Q:Exit->Act->World->Prop}{V:List Nat}{lo:Nat}
def PX[HX](V:List Nat)(lo:Nat)(D:List Deferred)(Q:Exit->Act->World->Prop)(f:Fr):Prop:=
 ∀c a w,a.defers=D->(∀t,inS V lo t=false->a.tmps.getD t undef=f t)->HX.X c w->Q (.panic c) a w
theorem PX.same{f f':Fr}(h:PX V lo D Q f)(hs:Same V lo f f'):PX V lo D Q f':=λc a w hd ht hx=>h c a w hd (λt hn=>(ht t hn).trans (hs t hn)) hx
theorem PX.sub{V':List Nat}{lo':Nat}{f:Fr}(h:PX V lo D Q f)(hs:∀t,inS V' lo' t=true->inS V lo t=true):PX V' lo' D Q f:=λc a w hd ht hx=>h c a w hd (λt hn=>ht t (by
 cases hh:inS V' lo' t with
 |false=>rfl
 |true=>rw[hs t hh]at hn;cases hn)) hx
theorem PX.ag{f:Fr}{a:Act}(h:PX V lo D Q f)(hag:Ag n D f a):∀c w,HX.X c w->Q (.panic c) a w:=λc w hx=>h c a w hag.1 (λt _=>hag.2.2 t) hx
theorem Ap{f:Fr}{a:Act}{o:Oper}(h:Ag n D f a):Region.wanted o (yielded ops.toArray a.tmps)=mS ops f o:=Et λ_ _ d _ _=>h.2.2 d
theorem Gq{f:Fr}{a:Act}{o:Oper}{rest:List Oper}(hag:Ag n D f a)(hw:mS ops f o=true)(h:GP P f o w K)
  (hk:∀v w',K v w'->wpList P ops.toArray Q rest (a.put o.dst v) w')(hx:∀c w,HX.X c w->Q (.panic c) a w):wpList P ops.toArray Q (o::rest) a w:=by
 unfold wpList;rw[aU (by rw[Ap hag];exact hw)];refine .inl ?_;unfold Oper.wp;rw[xW hag];exact(FW h).upon hk hx
theorem Ri{f:Fr}{a:Act}{o:Oper}{rest:List Oper}(hag:Ag n D f a)(hw:mS ops f o=false)
  (hk:wpList P ops.toArray Q rest (a.put o.dst undef) w):wpList P ops.toArray Q (o::rest) a w:=by
 unfold wpList;rw[aL (by rw[Ap hag,hw];simp)];exact hk
theorem Mo{f:Fr}{g:Nat}{want:Bool}{o:Oper}(h:∀d dg,o.dst=some d->sC ops g=some dg->d≠dg):yv ops (upd f o.dst v) g want=yv ops f g want:=by
 unfold yv;cases hg:sC ops g with
 |none=>rfl
 |some dg=>
  cases hd:o.dst with
  |none=>rfl
  |some d=>simp only;rw[pS,aL (kG (h d dg hd hg))]
theorem CZ{g:Nat}{want:Bool}:∀(grp rest:List Oper) (f:Fr) (a:Act) (w:World) (K:Fr->World->Prop),(∀o∈grp,o.guard=some (g,want))->
  (∀o∈grp,zV V lo o=true/\(∀t,o.dst=some t->t<n)/\∀d dg,o.dst=some d->sC ops g=some dg->d≠dg)->Ag n D f a->yv ops f g want=true->Ws P grp f w K->
  (∀f' a' w',Ag n D f' a'->Same V lo f f'->K f' w'->wpList P ops.toArray Q rest a' w')->PX V lo D Q f->wpList P ops.toArray Q (grp++rest) a w
 |[],rest,f,a,w,K,_,_,hag,_,h,hk,_=>hk f a w hag (Same.refl _ _ _) h
 |o::grp,rest,f,a,w,K,hg,hd,hag,hy,h,hk,hX=>by
  obtain⟨h1,h2,h3⟩:=hd o aW
  refine Gq hag (by simp only[mS,hg o aW];exact hy) h (λv w' h'=>?_) (hX.ag hag)
  refine CZ grp rest (upd f o.dst v) (a.put o.dst v) w' K (λx hx=>hg x (aD _ hx)) (λx hx=>hd x (aD _ hx)) (hag.put h2 v) (by rw[Mo h3];exact hy) h' ?_ (hX.same (Same.upd h1 v))
  exactλf' a' w'' hag' hs hK=>hk f' a' w'' hag' (Same.trans (Same.upd h1 v) hs) hK
theorem Au{g:Nat}{want:Bool}:∀(grp rest:List Oper) (f:Fr) (a:Act) (w:World),(∀o∈grp,o.guard=some (g,want))->
  (∀o∈grp,zV V lo o=true/\(∀t,o.dst=some t->t<n)/\∀d dg,o.dst=some d->sC ops g=some dg->d≠dg)->Ag n D f a->yv ops f g want=false->
  (∀a',Ag n D (CK grp f) a'->Same V lo f (CK grp f)->wpList P ops.toArray Q rest a' w)->wpList P ops.toArray Q (grp++rest) a w
 |[],rest,f,a,w,_,_,hag,_,hk=>hk a hag (Same.refl _ _ _)
 |o::grp,rest,f,a,w,hg,hd,hag,hy,hk=>by
  obtain⟨h1,h2,h3⟩:=hd o aW
  refine Ri hag (by simp only[mS,hg o aW];exact hy) ?_
  refine Au grp rest (upd f o.dst undef) (a.put o.dst undef) w (λx hx=>hg x (aD _ hx)) (λx hx=>hd x (aD _ hx)) (hag.put h2 undef) (by rw[Mo h3];exact hy) ?_
  exactλa' hag' hs=>hk a' hag' (Same.trans (Same.upd h1 undef) hs)
theorem yB{pl:fD}{i:Nat}:∀(x y:List Oper),pG pl V lo i ops (x++y)=true->pG pl V lo i ops y=true
 |[],_,h=>h
 |o::x,y,h=>by
  simp only[iC,pG,bU]at h
  exact yB x y h.2
theorem vZ{pl:fD}{i:Nat}{K:Fr->World->Prop}:∀(m:Nat) (l:List Oper) (f:Fr) (a:Act) (w:World),(∀o∈l,zV V lo o=true/\Ig n o=true)->pG pl V lo i ops l=true->
  Ag n D f a->No P pl i ops m l f w K->(∀f' a' w',Ag n D f' a'->Same V lo f f'->K f' w'->Q .normal a' w')->PX V lo D Q f->wpList P ops.toArray Q l a w
 |0,_,_,_,_,_,_,_,h,_,_=>by cases h
 |m+1,[],f,a,w,_,_,hag,h,hQ,_=>hQ f a w hag (Same.refl _ _ _) h
 |m+1,o::r,f,a,w,hd,hc,hag,h,hQ,hX=>by
  unfold No at h
  cases hg:o.guard with
  |none=>
   simp only[hg]at h
   have hd0:=hd o aW
   refine Gq hag (by simp[mS,hg]) h (λv w' h'=>?_) (hX.ag hag)
   simp only[pG,bU]at hc
   refine vZ m r _ _ w' (λx hx=>hd x (aD _ hx)) hc.2 (hag.put (DG hd0.2) v) h' ?_ (hX.same (Same.upd hd0.1 v))
   exactλf' a' w'' hag' hs hK=>hQ f' a' w'' hag' (Same.trans (Same.upd hd0.1 v) hs) hK
  |some gw=>
   obtain⟨g,want⟩:=gw
   simp only[hg]at h
   cases he:lk pl.js (NU i (o::r).length)with
   |none=>simp only[he]at h
   |some e=>
    simp only[he]at h
    obtain⟨J,hT,hF,hB⟩:=h
    obtain⟨hsplit,hgs⟩:=Fo g want (o::r)
    have hc0:=hc
    simp only[pG,hg,he,bU,iD]at hc
    obtain⟨⟨hpe,hgrp⟩,hc2⟩:=hc
    obtain⟨hsub,hC⟩:=BF hpe
    have hgd:∀x∈zS g want (o::r),zV e.V e.lo x=true/\(∀t,x.dst=some t->t<n)/\∀d dg,x.dst=some d->sC ops g=some dg->d≠dg:=by
     intro x hx;have h1:=hgrp x hx;refine⟨h1.1,DG (hd x (by rw[hsplit];exact cD _ hx)).2,λd dg hxd hdg hne=>?_⟩;have h2:=h1.2;simp only[hxd,hdg,hne]at h2;simp at h2
    have hcr:pG pl V lo i ops (Bq g want (o::r))=true:=by
     rw[hsplit]at hc0;exact yB _ _ hc0
    have hdr:∀x∈Bq g want (o::r),zV V lo x=true/\Ig n x=true:=λx hx=>hd x (by rw[hsplit];exact bP _ hx);rw[hsplit];cases hy:yv ops f g want with
    |true=>
     refine CZ (V:=e.V) (lo:=e.lo) _ _ f a w _ hgs hgd hag hy (hT hy) (λf' a' w' hag' hs hJ=>?_) (hX.sub hsub);have h':=hB _ f' _ hJ;simp only[AM hs]at h';refine vZ m _ f' a' w' hdr hcr hag' h' ?_ (hX.same (Same.wider hsub hs));exactλf'' a'' w'' hag'' hs' hK=>hQ f'' a'' w'' hag'' (Same.trans (Same.wider hsub hs) hs') hK
    |false=>
     refine Au (V:=e.V) (lo:=e.lo) _ _ f a w hgs hgd hag hy λa' hag' hs=>?_;have h':=hB _ (CK (zS g want (o::r)) f) _ (hF hy);simp only[AM hs]at h';refine vZ m _ _ a' w hdr hcr hag' h' ?_ (hX.same (Same.wider hsub hs));exactλf'' a'' w'' hag'' hs' hK=>hQ f'' a'' w'' hag'' (Same.trans (Same.wider hsub hs) hs') hK
end
section
variable [HX]{P:Program}{n:Nat}{D:List Deferred}{pl:fD}
theorem tZ(hm:P.follows .mixedOrders=true):∀(c:Code) (V:List Nat) (lo i:Nat) (f:Fr) (a:Act) (w:World) (kn:Fr->World->Prop) (kx:Nat->Fr->World->Prop) (kr:Fr->World->Prop) (Q:Exit->Act->World->Prop),
  chk P n pl V lo c i=true->Ag n D f a->qM P pl c i f w kn kx kr->
  (∀f' a' w',Ag n D f' a'->Same V lo f f'->kn f' w'->Q .normal a' w')->(∀j f' a' w',Ag n D f' a'->Same V lo f f'->kx j f' w'->Q (.exit j) a' w')->
  (∀f' a' w',Ag n D f' a'->Same V lo f f'->kr f' w'->Q .ret a' w')->PX V lo D Q f->c.wp P Q a w:=by
 intro c;induction c with
 |skip=>intro V lo i f a w kn kx kr Q _ hag h hn _ _ _;exact wp_skip (hn f a w hag (Same.refl _ _ _) h)
 |label l=>intro V lo i f a w kn kx kr Q _ hag h hn _ _ _;exact wp_label (hn f a w hag (Same.refl _ _ _) h)
 |exit id=>intro V lo i f a w kn kx kr Q _ hag h _ hx _ _;exact wp_exit (hx id f a w hag (Same.refl _ _ _) h)
 |ret=>intro V lo i f a w kn kx kr Q _ hag h _ _ hr _;exact wp_ret (hr f a w hag (Same.refl _ _ _) h)
 |goto l=>intro V lo i f a w kn kx kr Q _ _ h _ _ _ _;exact h.elim
 |refuse l=>intro V lo i f a w kn kx kr Q _ _ h _ _ _ _;exact h.elim
 |scope b ih=>
  intro V lo i f a w kn kx kr Q hc hag h hn hx hr hX;simp only[chk]at hc;simp only[qM]at h;refine wp_scope_straight ?_;exact ih V lo _ f a w kn kx kr _ hc hag h hn hx hr hX
 |rangeFunc f' ps az b=>intro V lo i f a w kn kx kr Q _ _ h _ _ _ _;exact h.elim
 |region id ops draw=>
  intro V lo i f a w kn kx kr Q hc hag h hn _ _ hX;simp only[chk,bU,iD]at hc;simp only[qM]at h;cases draw with
  |false=>
   simp only[aN]at h hc;refine wp_region_list ?_;have:=vZ (ops:=ops.toList) (Q:=Q) (n:=n) (V:=V) (lo:=lo) _ _ f a w hc.1 hc.2 hag h hn hX;simpa using this
  |true=>
   simp only[aO]at h hc;cases he:lk pl.ds i with
   |none=>simp only[he]at h
   |some e=>
    simp only[he]at h hc;have:=Hn (R:=Same V lo f) (id:=id) (Q:=Q) (K:=kn) (λf' o v ho hs=>Same.trans hs (Same.upd (hc.1 o ho).1 v)) hm hc.2
     (λf' a' w' hag' hs hk=>hn f' a' w' hag' hs hk) (λc f' a' w' hd hs ht hx=>hX c a' w' hd (λt hn=>(ht t λo ho he=>by
       have:=(hc.1 o ho).1;simp only[zV,he]at this;rw[this]at hn;cases hn).trans (hs t hn)) hx) hag (Same.refl _ _ _) h
    simpa using this
 |seq x y ihx ihy=>
  intro V lo i f a w kn kx kr Q hc hag h hn hx hr hX;simp only[chk,bU]at hc;simp only[qM]at h;refine wp_seq ?_;cases he:lk pl.js i with
  |none=>
   simp only[he]at h hc;refine ihx V lo (i+1) f a w _ kx kr _ hc.1 hag h ?_ hx hr hX;intro f' a' w' hag' hs h';exact ihy V lo _ f' a' w' kn kx kr Q hc.2 hag' h' (λf'' a'' w'' hag'' hs' hk=>hn f'' a'' w'' hag'' (hs.trans hs') hk)
    (λj f'' a'' w'' hag'' hs' hk=>hx j f'' a'' w'' hag'' (hs.trans hs') hk) (λf'' a'' w'' hag'' hs' hk=>hr f'' a'' w'' hag'' (hs.trans hs') hk) (hX.same hs)
  |some e=>
   simp only[he,bU]at h hc;obtain⟨hsub,hC⟩:=BF hc.1.1;obtain⟨J,hA,hB⟩:=h;refine ihx e.V e.lo (i+1) f a w _ kx kr _ hc.1.2 hag hA ?_ (λj f' a' w' hag' hs hk=>hx j f' a' w' hag' (hs.wider hsub) hk) (λf' a' w' hag' hs hk=>hr f' a' w' hag' (hs.wider hsub) hk) (hX.sub hsub);intro f' a' w' hag' hs hJ;have h':=hB _ f' _ hJ;simp only[AM hs]at h';have hs0:=hs.wider hsub;exact ihy V lo _ f' a' w' kn kx kr Q hc.2 hag' h' (λf'' a'' w'' hag'' hs' hk=>hn f'' a'' w'' hag'' (hs0.trans hs') hk)
    (λj f'' a'' w'' hag'' hs' hk=>hx j f'' a'' w'' hag'' (hs0.trans hs') hk) (λf'' a'' w'' hag'' hs' hk=>hr f'' a'' w'' hag'' (hs0.trans hs') hk) (hX.same hs0)
 |cond c x y ihx ihy=>
  intro V lo i f a w kn kx kr Q hc hag h hn hx hr hX;simp only[chk,bU]at hc;simp only[qM]at h;have he:a.eval c=ev f c:=congrFun (xW hag) c;cases hv:ev f c<;>rw[hv]at h<;>simp only[bB]at h<;>try exact h.elim
  rename_i t;refine wp_cond_split (he.trans hv) (λht=>?_) (λht=>?_)
  ·exact ihx V lo _ f a w kn kx kr Q hc.1 hag (h.1 ht) hn hx hr hX
  ·exact ihy V lo _ f a w kn kx kr Q hc.2 hag (h.2 ht) hn hx hr hX
 |block id b ih=>
  intro V lo i f a w kn kx kr Q hc hag h hn hx hr hX;simp only[chk]at hc;simp only[qM]at h;refine wp_block ?_;refine ih V lo _ f a w kn _ kr _ hc hag h hn ?_ hr hX;intro j f' a' w' hag' hs hk;simp only[Exit.inBlock];cases hj:Nat.beq j id with
  |true=>
   rw[hj]at hk;rw[aU (kT hj)];exact hn f' a' w' hag' hs hk
  |false=>
   rw[hj]at hk;rw[aL (λe=>by subst e;simp at hj)];exact hx j f' a' w' hag' hs hk
 |loop b ih=>
  intro V lo i f a w kn kx kr Q hc hag h hn hx hr hX;simp only[chk]at hc;simp only[qM]at h;cases he:lk pl.js i with
  |none=>simp only[he]at h
  |some e=>
   simp only[he,bU]at h hc;obtain⟨hsub,hC⟩:=BF hc.1;obtain⟨I,μ,h0,hround⟩:=h;refine wp_loop (λa' w'=>∃f',Ag n D f' a'/\Same e.V e.lo f f'/\I (e.C.map f') w') (λa' w'=>μ (e.C.map λt=>a'.tmps.getD t undef) w') ⟨f,hag,Same.refl _ _ _,h0⟩ ?_;rintro a' w' ⟨f',hag',hs,hI⟩;have h':=hround _ f' _ hI;simp only[AM hs]at h';have hfun:(λt=>a'.tmps.getD t undef)=f':=funext hag'.2.2;refine ih e.V e.lo _ f' a' w' _ kx kr _ hc.2 hag' h' ?_ (λj f'' a'' w'' hag'' hs' hk=>hx j f'' a'' w'' hag'' ((hs.trans hs').wider hsub) hk)
    (λf'' a'' w'' hag'' hs' hk=>hr f'' a'' w'' hag'' ((hs.trans hs').wider hsub) hk) ((hX.sub hsub).same hs)
   intro f'' a'' w'' hag'' hs' hk;have hfun':(λt=>a''.tmps.getD t undef)=f'':=funext hag''.2.2;refine⟨⟨f'',hag'',hs.trans hs',hk.1⟩,?_⟩;rw[hfun,hfun'];exact hk.2
def Cg(P:Program):List ResultVar->Fr->World->(List Value->Prop)->Prop
 |[],_,_,K=>K []
 |.tmp t::r,f,w,K=>Cg P r f w λl=>K (f t::l)
 |.cell a T::r,f,w,K=>nG (P.underlying T).isSome (ldW (uG P T) (mC P T) (f a) w λv=>Cg P r f w λl=>K (v::l))
def one:List Value->Value
 |[v]=>v
 |l=>.tuple l.toArray
def Hl(tmps:Array Value):ResultVar->Sem Value
 |.tmp t=>pure (tmps.getD t undef)
 |.cell x t=>do loadVar t (<-asAddr (tmps.getD x undef))
theorem IU(fn:Func)(tmps:Array Value):results fn tmps=(do let vs<-fn.results.mapM (Hl tmps);pure (if h:vs.size=1 then vs[0]else .tuple vs)):=rfl
theorem Gk{f:Fr}{a:Act}{w:World}(hag:Ag n D f a):∀(l:List ResultVar) (K:List Value->Prop),Cg P l f w K->
  ∃vs,K vs/\(l.mapM (Hl a.tmps)).run P w=.ok vs w
 |[],K,h=>⟨[],h,rfl⟩
 |.tmp t::r,K,h=>by
  obtain⟨vs,hk,hr⟩:=Gk hag r _ h
  refine⟨_,hk,?_⟩
  rw[List.mapM_cons,run_bind]
  simp only[Hl,run_pure,run_bind,hr]
  rw[hag.2.2 t]
 |.cell x T::r,K,h=>by
  replace h:=nG.out h
  obtain⟨hT,h⟩:=h
  obtain⟨v,h',hl⟩:=NK hT h
  obtain⟨vs,hk,hr⟩:=Gk hag r _ h'
  refine⟨_,hk,?_⟩
  have hl':(Hl a.tmps (.cell x T)).run P w=.ok v w:=by
   show(do loadVar T (<-asAddr (a.tmps.getD x undef)):Sem Value).run P w=.ok v w;rw[hag.2.2 x];cases hv:f x<;>rw[hv]at h hl<;>simp only[ldW]at h<;>try exact h.elim
   rename_i p;cases p with
   |none=>exact h.elim
   |some p=>exact hl
  rw[List.mapM_cons,run_bind];simp only[hl',run_bind,hr,run_pure]
theorem tR{fn:Func}{f:Fr}{a:Act}{K:Value->Prop}(hag:Ag n D f a)(h:Cg P fn.results.toList f w λl=>K (one l)):
  ∃v,K v/\(results fn a.tmps).run P w=.ok v w:=by
 obtain⟨vs,hk,hr⟩:=Gk hag _ _ h;refine⟨_,hk,?_⟩;rw[IU,run_bind];have:(fn.results.mapM (Hl a.tmps)).run P w=.ok vs.toArray w:=by
  rw[Array.mapM_eq_mapM_toList,<-bind_pure_comp,run_bind,hr];rfl
 rw[this];simp only[run_pure];congr 1;cases vs with
 |nil=>rfl
 |cons v r=>cases r<;>rfl
def fr0(args:List Value):Fr:=λj=>args.getD j undef
def WT[HX](P:Program)(fn:Func)(pl:fD)(args:List Value)(w:World)(K:Value->World->Prop):Prop:=
 match fn.body with
 |some c=>qM P pl c 0 (fr0 args) w (λf w'=>Cg P fn.results.toList f w' λl=>K (one l) w') (λ_ _ _=>False) (λf w'=>Cg P fn.results.toList f w' λl=>K (one l) w')
 |none=>False
def JE(P:Program)(fn:Func)(pl:fD)(k:Nat):Bool:=
 match fn.body with
 |some c=>Nat.ble k fn.ntmps&&chk P fn.ntmps pl [] 0 c 0
 |none=>false
theorem Jx{g:FuncId}{fn:Func}{args:List Value}(hm:P.follows .mixedOrders=true)(hf:P.funcs[g]?=some fn)(hc:JE P fn pl args.length=true)
  (h:WT P fn pl args w K):UQ P g args w K:=by
 unfold WT at h;unfold JE at hc;cases hb:fn.body with
 |none=>rw[hb]at h;exact h.elim
 |some c=>
  rw[hb]at h hc;simp only[bU]at hc;unfold UQ;refine calls_of_wp hf hb ?_;have hle:args.length<=fn.ntmps:=lR hc.1;have hag:Ag fn.ntmps [] (fr0 args) {tmps:=args.toArray++Array.replicate (fn.ntmps-args.toArray.size) undef,defers:=[]}:=by
   refine⟨rfl,by simp;omega,λt=>?_⟩;simp only[kW,Array.getElem?_append,aE,bN,Array.getElem?_replicate,fr0,bR];split
   ·rfl
   ·rename_i hlt;rw[eW (by omega)];split<;>rfl
  have hend:∀(f':Fr) (a':Act) (w':World),Ag fn.ntmps [] f' a'->(Cg P fn.results.toList f' w' λl=>K (one l) w')->a'.defers=[]/\∃v,(results fn a'.tmps).run P w'=.ok v w'/\Er K (.returned v) w':=by
   intro f' a' w' hag' hk;obtain⟨v,hk',hr⟩:=tR (K:=λv=>K v w') hag' hk;exact⟨hag'.1,v,hr,hk'⟩
  exact tZ hm c [] 0 0 _ _ w _ _ _ _ hc.2 hag h (λf' a' w' hag' _ hk=>hend f' a' w' hag' hk) (λ_ _ _ _ _ _ hk=>hk.elim) (λf' a' w' hag' _ hk=>hend f' a' w' hag' hk) (λc a' w' hd _ hx=>⟨hd,hx⟩)
theorem tie(P:Program)(g:FuncId)(fn:Func)(pl:fD)(args:List Value)(w:World)(K:Value->World->Prop)(k:Nat)(X:Prop)(hk:args.length=k)(hm:P.follows .mixedOrders=true)(hf:P.funcs[g]?=some fn)
  (hc:JE P fn pl k=true)(he:WT P fn pl args w K=X)(hr:∀(az:Array Value) (w:World),(callFunc g az).run P w=.ok (.enter g az) w)(h:X):aJ P g args w K:=by
 unfold aJ;rw[hr];exact Jx hm hf (by rw[hk];exact hc) (by rw[he];exact h)
theorem callF_calls{g:FuncId}{args:List Value}(hr:(callFunc g args.toArray).run P w=.ok (.enter g args.toArray) w)(h:aJ P g args w K):
  Calls P g args.toArray w (Er K):=by
 unfold aJ at h;rw[hr]at h;exact h
end
def Ol(o:Option Obj)(i:Nat):Option Value:=match o with|some (.cells c _ _)=>c[i]?|_=>none
def frO(o:Option Obj)(i:Nat):Bool:=match o with|some (.cells _ _ (lo,hi))=>decide (lo<=i)&&decide (i<hi)|_=>false
def Vl(o:Option Obj)(i:Nat)(v:Value):Option Obj:=match o with|some (.cells c t f)=>some (.cells (c.setIfInBounds i v) t f)|o=>o
theorem bT(c:Array Value)(t:TypeId)(f:Nat×Nat)(i:Nat):Ol (some (.cells c t f)) i=c[i]?:=rfl
theorem gJ(c:Array Value)(t:TypeId)(i:Nat):frO (some (.cells c t (0,0))) i=false:=by simp[frO]
theorem fR(c:Array Value)(t:TypeId)(f:Nat×Nat)(i:Nat)(v:Value):Vl (some (.cells c t f)) i v=some (.cells (c.setIfInBounds i v) t f):=rfl
theorem cM(w:World)(b o:Nat):w.cell? ⟨b,o,none⟩=Ol w.heap[b]? o:=by
 unfold World.cell? Ol;cases w.heap[b]? with
 |none=>rfl
 |some x=>cases x<;>rfl
theorem fL(w:World)(b o:Nat):w.frozen? ⟨b,o,none⟩=frO w.heap[b]? o:=by
 unfold World.frozen? frO;cases w.heap[b]? with
 |none=>rfl
 |some x=>cases x<;>rfl
theorem oF(w:World)(b o:Nat)(v:Value):(w.setCell ⟨b,o,none⟩ v).heap[b]?=Vl w.heap[b]? o v:=by
 unfold World.setCell Vl;simp only[Array.getElem?_modify,qH];cases w.heap[b]? with
 |none=>rfl
 |some x=>cases x<;>simp
theorem xS(w:World)(b o k:Nat)(v:Value)(h:k≠b):(w.setCell ⟨b,o,none⟩ v).heap[k]?=w.heap[k]?:=by
 unfold World.setCell;simp only[Array.getElem?_modify];rw[aL (kG h)]
theorem dT(w:World)(a:Addr)(v:Value):(w.setCell a v).heap.size=w.heap.size:=by simp
theorem kF(w:World)(o:Obj)(k:Nat)(h:k=w.heap.size):(w.alloc o).heap[k]?=some o:=by subst h;show(w.heap.push o)[w.heap.size]?=_;simp
theorem BB(w:World)(o:Obj)(k:Nat)(h:k≠w.heap.size):(w.alloc o).heap[k]?=w.heap[k]?:=by
 show(w.heap.push o)[k]?=_;rw[Array.getElem?_push,aL h]
theorem size_alloc(w:World)(o:Obj):(w.alloc o).heap.size=w.heap.size+1:=by simp
theorem heap_drew(w:World)(k:Nat):w.drew.heap[k]?=w.heap[k]?:=rfl
theorem size_drew(w:World):w.drew.heap.size=w.heap.size:=rfl
theorem bL(b o n:Nat):(⟨b,o,none⟩:Addr).add n=⟨b,o+n,none⟩:=by
 unfold Addr.add;split
 ·rename_i h;subst h;rfl
 ·rfl
structure Chg(S:Nat->Prop)(w w':World):Prop where
 os:w'.os=w.os
 tape:w'.tape=w.tape
 output:w'.output=w.output
 size:w.heap.size<=w'.heap.size
 heap:∀k,k<w.heap.size->¬S k->w'.heap[k]?=w.heap[k]?
abbrev Ext:=Chg (λ_=>False)
theorem Chg.refl(S:Nat->Prop)(w:World):Chg S w w:=⟨rfl,rfl,rfl,aZ _,λ_ _ _=>rfl⟩
theorem Chg.trans{w1 w2:World}(h1:Chg S w w1)(h2:Chg S w1 w2):Chg S w w2:=
 ⟨h2.os.trans h1.os,h2.tape.trans h1.tape,h2.output.trans h1.output,dR h1.size h2.size,λk hk hs=>(h2.heap k (dD hk h1.size) hs).trans (h1.heap k hk hs)⟩
theorem Chg.mono{T:Nat->Prop}(h:Chg S w w')(hs:∀k,k<w.heap.size->S k->T k):Chg T w w':=
 ⟨h.os,h.tape,h.output,h.size,λk hk hn=>h.heap k hk λe=>hn (hs k hk e)⟩
theorem Chg.of_ext(h:Ext w w'):Chg S w w':=h.mono λ_ _ e=>e.elim
theorem Chg.drew(h:Chg S w w'):Chg S w w'.drew:=⟨h.os,h.tape,h.output,h.size,h.heap⟩
theorem Chg.alloc(h:Chg S w w')(o:Obj):Chg S w (w'.alloc o):=
 ⟨h.os,h.tape,h.output,by rw[size_alloc];exact Nat.le_succ_of_le h.size,λk hk hs=>by rw[BB _ _ _ (by have:=h.size;omega)];exact h.heap k hk hs⟩
theorem Chg.set(h:Chg S w w'){b o:Nat}(hb:S b\/w.heap.size<=b)(v:Value):Chg S w (w'.setCell ⟨b,o,none⟩ v):=
 ⟨h.os,h.tape,h.output,by rw[dT];exact h.size,λk hk hs=>by
  have hne:k≠b:=λe=>by
   subst e
   rcases hb with hb|hb
   ·exact hs hb
   ·omega
  rw[xS _ _ _ _ _ hne]
  exact h.heap k hk hs⟩
theorem Chg.then{T:Nat->Prop}{w1 w2:World}(h1:Chg S w w1)(h2:Chg T w1 w2)(hT:∀k,k<w.heap.size->T k->S k):Chg S w w2:=
 ⟨h2.os.trans h1.os,h2.tape.trans h1.tape,h2.output.trans h1.output,dR h1.size h2.size,λk hk hs=>(h2.heap k (dD hk h1.size) λe=>hs (hT k hk e)).trans (h1.heap k hk hs)⟩
theorem Chg.below(h:Ext w w'):RowKit.Below w.heap.size w w':=⟨h.os,h.tape,h.output,h.size,λk hk=>h.heap k hk id⟩
theorem Chg.of_below(h:RowKit.Below w.heap.size w w'):Ext w w':=⟨h.os,h.tape,h.output,h.size,λk hk _=>h.block k hk⟩
abbrev str(l:List UInt8):Value:=.string (ofL l)
abbrev i64(n:Int):Value:=.int .i64 n
theorem JU{a b:List UInt8}:str a=str b↔a=b:=by simp[str,Rk]
theorem gI{n:Int}(h1:-9223372036854775808<=n)(h2:n<9223372036854775808):IntKind.i64.wrap n=n:=by
 have e1:(2:Int)^64=18446744073709551616:=by decide
 have e2:(2:Int)^(64-1)=9223372036854775808:=by decide
 simp only[IntKind.wrap,IntKind.bits,IntKind.signed,dS,e1,e2];by_cases h:n%18446744073709551616>=9223372036854775808
 ·rw[aU (by simpa using h)];omega
 ·rw[aL (by simpa using h)];omega
theorem dG(A B:Prop):bB (.bool true) A B↔A:=by simp[bB]
theorem bQ(A B:Prop):bB (.bool false) A B↔B:=by simp[bB]
theorem bD(p:Prop)[Decidable p](A B:Prop):bB (.bool (decide p)) A B↔(p->A)/\(¬p->B):=by simp[bB]
theorem jC(s t:Bool)(K:Value->Prop):cZ (.bool s) (.bool true) (.bool t) K↔K (.bool (s||t)):=by cases s<;>exact iO
theorem gY(s t:Bool)(K:Value->Prop):cZ (.bool s) (.bool t) (.bool false) K↔K (.bool (s&&t)):=by cases s<;>exact iO
theorem iE(a b:Value)(K:Value->Prop):cZ (.bool true) a b K↔K a:=iO
theorem eX(a b:Value)(K:Value->Prop):cZ (.bool false) a b K↔K b:=iO
section forms
variable(k:IntKind)(a b:Int)(s t:ByteArray)(x y:Value)(ad:Addr)(w:World)(K:Value->Prop)(KE:Value->World->Prop)(KW:World->Prop)
theorem cJ:aS .add (.int k a) (.int k b) K↔K (.int k (k.wrap (a+b))):=by simp[aS]
theorem gR:aS .sub (.int k a) (.int k b) K↔K (.int k (k.wrap (a-b))):=by simp[aS]
theorem iN:aS .mul (.int k a) (.int k b) K↔K (.int k (k.wrap (a*b))):=by simp[aS]
theorem jB:aS .quo (.int k a) (.int k b) K↔b≠0/\K (.int k (k.wrap (a.tdiv b))):=by simp[aS]
theorem jA:aS .rem (.int k a) (.int k b) K↔b≠0/\K (.int k (a.tmod b)):=by simp[aS]
theorem cL:aS .eql (.int k a) (.int k b) K↔K (.bool (decide (a=b))):=by simp[aS]
theorem dQ:aS .neq (.int k a) (.int k b) K↔K (.bool (decide (a≠b))):=by simp[aS]
theorem dI:aS .lss (.int k a) (.int k b) K↔K (.bool (decide (a<b))):=by simp[aS]
theorem gN:aS .leq (.int k a) (.int k b) K↔K (.bool (decide (a<=b))):=by simp[aS]
theorem gD:aS .gtr (.int k a) (.int k b) K↔K (.bool (decide (b<a))):=by simp[aS]
theorem fS:aS .geq (.int k a) (.int k b) K↔K (.bool (decide (b<=a))):=by simp[aS]
theorem Sz:aS .and (.int k a) (.int k b) K↔K (.int k (k.wrap (BitVec.ofInt k.bits a&&&BitVec.ofInt k.bits b).toNat)):=by simp[aS]
theorem GN:aS .or (.int k a) (.int k b) K↔K (.int k (k.wrap (BitVec.ofInt k.bits a|||BitVec.ofInt k.bits b).toNat)):=by simp[aS]
theorem Rl(l m:List UInt8):ofL l++ofL m=ofL (l++m):=by
 apply ByteArray.ext;simp[ofL,ByteArray.data_append]
theorem fJ(l m:List UInt8):aS .add (.string (ofL l)) (.string (ofL m)) K↔((l.length+m.length:Nat):Int)<=IntKind.i64.max/\K (.string (ofL (l++m))):=by simp[aS,jV,Rl]
theorem eQ(l m:List UInt8):aS .eql (.string (ofL l)) (.string (ofL m)) K↔K (.bool (decide (l=m))):=by simp[aS,jD]
theorem gA(l m:List UInt8):aS .neq (.string (ofL l)) (.string (ofL m)) K↔K (.bool (decide (l≠m))):=by simp[aS,jD]
theorem iW(l m:List UInt8):aS .lss (.string (ofL l)) (.string (ofL m)) K↔K (.bool (Op.bytesLess l m)):=by simp[aS,jD]
theorem iY(l m:List UInt8):aS .gtr (.string (ofL l)) (.string (ofL m)) K↔K (.bool (!(Op.bytesLess l m||decide (l=m)))):=by simp[aS,jD]
theorem iZ(l m:List UInt8):aS .geq (.string (ofL l)) (.string (ofL m)) K↔K (.bool (!Op.bytesLess l m)):=by simp[aS,jD]
theorem iX(l m:List UInt8):aS .leq (.string (ofL l)) (.string (ofL m)) K↔K (.bool (Op.bytesLess l m||decide (l=m))):=by simp[aS,jD]
theorem dB:eC (.pointer (some ad)) K↔K (.pointer (some ad)):=iO
theorem bE(off:Nat):aR off (.pointer (some ad)) K↔K (.pointer (some (ad.add off))):=iO
theorem eD(n:Nat):ldW false n (.pointer (some ad)) w K↔∃v,w.cell? ad=some v/\K v:=iO
theorem xP(n:Nat):ldW true n (.pointer (some ad)) w K↔∃l,bV w ad 0 n=some l/\K (.agg l.toArray):=iO
theorem Vh:stW 1 (.pointer (some ad)) (.int k a) w KW↔(w.cell? (ad.add 0)).isSome=true/\w.frozen? (ad.add 0)=false/\KW (w.setCell (ad.add 0) (.int k a)):=by simp[stW,lS,Value.cells,jM]
theorem OX(c:Bool):stW 1 (.pointer (some ad)) (.bool c) w KW↔(w.cell? (ad.add 0)).isSome=true/\w.frozen? (ad.add 0)=false/\KW (w.setCell (ad.add 0) (.bool c)):=by simp[stW,lS,Value.cells,jM]
theorem Vd:stW 1 (.pointer (some ad)) (.string s) w KW↔(w.cell? (ad.add 0)).isSome=true/\w.frozen? (ad.add 0)=false/\KW (w.setCell (ad.add 0) (.string s)):=by simp[stW,lS,Value.cells,jM]
theorem MN(p:Option Addr)(n m:Nat):stW 1 (.pointer (some ad)) (.slice p n m) w KW↔(w.cell? (ad.add 0)).isSome=true/\w.frozen? (ad.add 0)=false/\KW (w.setCell (ad.add 0) (.slice p n m)):=by simp[stW,lS,Value.cells,jM]
theorem Vf(p:Option Addr):stW 1 (.pointer (some ad)) (.pointer p) w KW↔(w.cell? (ad.add 0)).isSome=true/\w.frozen? (ad.add 0)=false/\KW (w.setCell (ad.add 0) (.pointer p)):=by simp[stW,lS,Value.cells,jM]
theorem Vg(p:Option Nat):stW 1 (.pointer (some ad)) (.map p) w KW↔(w.cell? (ad.add 0)).isSome=true/\w.frozen? (ad.add 0)=false/\KW (w.setCell (ad.add 0) (.map p)):=by simp[stW,lS,Value.cells,jM]
theorem Gf(n:Nat)(l:List Value):stW n (.pointer (some ad)) (.agg l.toArray) w KW↔l.length=n/\lS ad l 0 w KW:=by simp[stW,Value.cells]
theorem OV(i:Nat):lS ad [] i w KW↔KW w:=iO
theorem MM(v:Value)(r:List Value)(i:Nat):lS ad (v::r) i w KW↔jM v=true/\(w.cell? (ad.add i)).isSome=true/\w.frozen? (ad.add i)=false/\lS ad r (i+1) (w.setCell (ad.add i) v) KW:=iO
theorem iT:jM (.int k a)=true:=rfl
theorem gW(c:Bool):jM (.bool c)=true:=rfl
theorem iQ:jM (.string s)=true:=rfl
theorem gC(p:Option Addr)(n m:Nat):jM (.slice p n m)=true:=rfl
theorem iR(p:Option Addr):jM (.pointer p)=true:=rfl
theorem iS(p:Option Nat):jM (.map p)=true:=rfl
theorem bY(i:Nat)(l:List Value):jQ i (.tuple l.toArray) K↔∃v,l[i]?=some v/\K v:=by
 simp only[jQ,bN];cases l[i]?<;>simp
theorem eY(size n c:Nat):fK none size (.slice (some ad) n c) (.int k a) K↔0<=a/\a<n/\K (.pointer (some (ad.add (a.toNat*size)))):=iO
theorem iV(m size:Nat):fK (some m) size (.pointer (some ad)) (.int k a) K↔0<=a/\a<m/\K (.pointer (some (ad.add (a.toNat*size)))):=iO
theorem iL(l:List UInt8):nU (.string (ofL l)) (.int k a) K↔0<=a/\∃c,l[a.toNat]?=some c/\K (.int .u8 c.toNat):=by simp[nU,jD]
theorem dV(l:List UInt8):kA (.string (ofL l)) K↔K (.int .i64 l.length):=by simp[kA,jV]
theorem gZ(p:Option Addr)(n c:Nat):fI (.slice p n c) K↔K (.int .i64 n):=iO
theorem fH(c:Bool):unW .not (.bool c) K↔K (.bool (!c)):=iO
theorem kD:unW .neg (.int k a) K↔K (.int k (k.wrap (0-a))):=iO
theorem gX(k':IntKind):wT k' (.int k a) K↔K (.int k' (k'.wrap a)):=iO
theorem iF:LB (.int k a) (.int k b) K↔K (.int k (if b<a then b else a)):=iO
theorem iU:Wz (.int k a) (.int k b) K↔K (.int k (if a<b then b else a)):=iO
theorem OB(T:TypeId)(z:List Value):dA T z w KE↔KE (.pointer (some ⟨w.heap.size,0,none⟩)) (w.alloc (.cells z.toArray T)):=iO
theorem Sx(T:TypeId)(l:List Value):jF T (.agg l.toArray) w KE↔KE (.pointer (some ⟨w.heap.size,0,none⟩)) (w.alloc (.cells l.toArray T)):=iO
theorem Sw(T:TypeId):jF T (.int k a) w KE↔KE (.pointer (some ⟨w.heap.size,0,none⟩)) (w.alloc (.cells #[(.int k a)] T)):=iO
theorem Ou(T:TypeId)(c:Bool):jF T (.bool c) w KE↔KE (.pointer (some ⟨w.heap.size,0,none⟩)) (w.alloc (.cells #[(.bool c)] T)):=iO
theorem Ss(T:TypeId):jF T (.string s) w KE↔KE (.pointer (some ⟨w.heap.size,0,none⟩)) (w.alloc (.cells #[(.string s)] T)):=iO
theorem Mg(T:TypeId)(p:Option Addr)(n m:Nat):jF T (.slice p n m) w KE↔KE (.pointer (some ⟨w.heap.size,0,none⟩)) (w.alloc (.cells #[(.slice p n m)] T)):=iO
theorem Su(T:TypeId)(p:Option Addr):jF T (.pointer p) w KE↔KE (.pointer (some ⟨w.heap.size,0,none⟩)) (w.alloc (.cells #[(.pointer p)] T)):=iO
theorem Sv(T:TypeId)(p:Option Nat):jF T (.map p) w KE↔KE (.pointer (some ⟨w.heap.size,0,none⟩)) (w.alloc (.cells #[(.map p)] T)):=iO
theorem fC(n m:Nat)(KN:Nat->Prop):bdW none n m KN↔KN n:=iO
theorem eR(n m:Nat)(KN:Nat->Prop):bdW (some (.int k a)) n m KN↔0<=a/\a<=m/\KN a.toNat:=iO
theorem fA(l:List UInt8)(lo hi:Option Value):pF (.string (ofL l)) lo hi K↔bdW hi l.length l.length λh=>bdW lo 0 h λm=>K (.string (ofL ((l.take h).drop m))):=by simp only[pF,jV,jD]
theorem kE(size:Nat)(p:Option Addr)(n c:Nat)(lo hi mx:Option Value):MO size (.slice p n c) lo hi mx K↔bdW mx c c λm=>(bdW hi n m λh=>bdW lo 0 h λl=>K (.slice (if m=l then p else p.map (·.add (l*size))) (h-l) (m-l))):=iO
theorem fT(c:Bool):isB (.bool c) true=c:=by cases c<;>rfl
theorem iB(c:Bool):isB (.bool c) false=!c:=by cases c<;>rfl
end forms
theorem GdW.go{c:Bool}{u:List Value}{A:(List Value->World->Prop)->Prop}{B:List Value->Fr->World->Prop}
  (h1:c=true->A (λs w'=>∀g,B s g w'))(h2:c=false->∀g,B u g w):GdW c u w A B:=
 ⟨λs w'=>∀g,B s g w',h1,λh=>h2 h,λs g _ h=>h g⟩
theorem GdW.t{u:List Value}{A:(List Value->World->Prop)->Prop}{B:List Value->Fr->World->Prop}(h:A (λs w'=>∀g,B s g w')):GdW true u w A B:=
 GdW.go (λ_=>h) (λe=>by cases e)
theorem GdW.f{u:List Value}{A:(List Value->World->Prop)->Prop}{B:List Value->Fr->World->Prop}(h:∀g,B u g w):GdW false u w A B:=
 GdW.go (λe=>by cases e) (λ_=>h)
theorem GdW.meet{c:Bool}{u:List Value}{A:(List Value->World->Prop)->Prop}{B:List Value->Fr->World->Prop}(s:List Value)
  (h1:c=true->A (λs' w'=>s'=s/\w'=w))(h2:c=false->u=s)(h3:∀g,B s g w):GdW c u w A B:=
 ⟨λs' w'=>s'=s/\w'=w,h1,λh=>⟨h2 h,rfl⟩,λs' g w' h=>by obtain⟨rfl,rfl⟩:=h;exact h3 g⟩
theorem dE.go{A:(List Value->World->Prop)->Prop}{B:List Value->Fr->World->Prop}(h:A (λs w'=>∀g,B s g w')):dE A B:=⟨_,h,λ_ g _ h=>h g⟩
theorem dE.cut{A:(List Value->World->Prop)->Prop}{B:List Value->Fr->World->Prop}(J:List Value->World->Prop)(h1:A J)(h2:∀s g w',J s w'->B s g w'):dE A B:=⟨J,h1,h2⟩
theorem dL.go{s0:List Value}{w0:World}{B:List Value->Fr->World->(List Value->World->Prop)->Prop}(I:List Value->World->Prop)(μ:List Value->World->Nat)
 (h0:I s0 w0)(h:∀s g w,I s w->B s g w (λs' w'=>I s' w'/\μ s' w'<μ s w)):dL s0 w0 B:=⟨I,μ,h0,h⟩
theorem yM(c:List Value)(i:Nat)(v:Value)(r:List (Nat×Nat×Value))(K:List Value->Prop)(h:v.cells=#[v]):jS c ((i,1,v)::r) K↔i<c.length/\jS (c.set i v) r K:=by
 simp only[jS,h];constructor
 ·rintro⟨_,h2,h3⟩;rw[List.set_eq_take_append_cons_drop,aU (by omega)];exact⟨by omega,by simpa using h3⟩
 ·rintro⟨h2,h3⟩;rw[List.set_eq_take_append_cons_drop,aU (by omega)]at h3;exact⟨rfl,by omega,by simpa using h3⟩
theorem dN(c:List Value)(K:List Value->Prop):jS c [] K↔K c:=iO
theorem iP(c:List Value)(i:Nat)(v:Option Nat)(r:List (Nat×Nat×Value))(K:List Value->Prop):jS c ((i,1,.map v)::r) K↔i<c.length/\jS (c.set i (.map v)) r K:=yM c i _ r K rfl
theorem dP(c:List Value)(i:Nat)(k:IntKind)(v:Int)(r:List (Nat×Nat×Value))(K:List Value->Prop):jS c ((i,1,.int k v)::r) K↔i<c.length/\jS (c.set i (.int k v)) r K:=yM c i _ r K rfl
theorem dW(c:List Value)(i:Nat)(v:ByteArray)(r:List (Nat×Nat×Value))(K:List Value->Prop):jS c ((i,1,.string v)::r) K↔i<c.length/\jS (c.set i (.string v)) r K:=yM c i _ r K rfl
theorem gV(c:List Value)(i:Nat)(v:Bool)(r:List (Nat×Nat×Value))(K:List Value->Prop):jS c ((i,1,.bool v)::r) K↔i<c.length/\jS (c.set i (.bool v)) r K:=yM c i _ r K rfl
theorem iJ(c:List Value)(i:Nat)(v:Option Addr)(r:List (Nat×Nat×Value))(K:List Value->Prop):jS c ((i,1,.pointer v)::r) K↔i<c.length/\jS (c.set i (.pointer v)) r K:=yM c i _ r K rfl
theorem eP(c:List Value)(i:Nat)(p:Option Addr)(n m:Nat)(r:List (Nat×Nat×Value))(K:List Value->Prop):jS c ((i,1,.slice p n m)::r) K↔i<c.length/\jS (c.set i (.slice p n m)) r K:=yM c i _ r K rfl
structure qW(P:Program)(t e:TypeId)(size bytes:Nat):Prop where
 und:P.underlying t=some (.slice e)
 info:(P.info? e).map (λi=>(i.zero.map (·.cells.size),i.size,i.bytes))=some (some size,size,bytes)
 pos:0<size
theorem qW.get{t e:TypeId}{size bytes:Nat}(h:qW P t e size bytes):∃i z,P.info? e=some i/\i.zero=some z/\i.size=size/\i.bytes=bytes/\z.cells.size=size:=by
 have hi:=h.info;cases hx:P.info? e with
 |none=>rw[hx]at hi;cases hi
 |some i=>
  rw[hx]at hi;simp only[aH,bA,gS]at hi;obtain⟨h1,h2,h3⟩:=hi;cases hz:i.zero with
  |none=>rw[hz]at h1;cases h1
  |some z=>
   rw[hz]at h1;exact⟨i,z,rfl,hz,h2,h3,by simpa using h1⟩
def SlAt(w:World)(T:TypeId)(v:Value)(n:Nat)(cs:List Value):Prop:=
 ∃p cap,v=.slice p n cap/\n<=cap/\(p=none->n=0/\cap=0)/\(cs≠[]->∃b off c fr,p=some ⟨b,off,none⟩/\w.heap[b]?=some (.cells c T fr)/\∀i,i<cs.length->c[off+i]?=cs[i]?)
theorem SlAt.nil(w:World)(T:TypeId):SlAt w T (.slice none 0 0) 0 []:=⟨none,0,rfl,aZ _,λ_=>⟨rfl,rfl⟩,λh=>absurd rfl h⟩
theorem SlAt.chg(h:SlAt w T v n cs)(hc:Chg S w w')
  (hS:∀k c fr,S k->w.heap[k]?≠some (.cells c T fr)):SlAt w' T v n cs:=by
 obtain⟨p,cap,hv,h1,h2,h3⟩:=h;refine⟨p,cap,hv,h1,h2,λhne=>?_⟩;obtain⟨b,off,c,fr,hp,hb,hcs⟩:=h3 hne;have hlt:b<w.heap.size:=(gH.1 hb).1;exact⟨b,off,c,fr,hp,by rw[hc.heap b hlt λe=>hS b c fr e hb];exact hb,hcs⟩
theorem SlAt.ext(h:SlAt w T v n cs)(hc:Ext w w'):SlAt w' T v n cs:=
 h.chg hc λ_ _ _ e=>e.elim
theorem SlAt.shape(h:SlAt w T v n cs):∃p cap,v=.slice p n cap/\n<=cap:=by
 obtain⟨p,cap,hv,h1,_⟩:=h;exact⟨p,cap,hv,h1⟩
theorem eO(h:SlAt w T v n cs)(K:Value->Prop):fI v K↔K (i64 n):=by
 obtain⟨p,cap,rfl,_⟩:=h.shape;exact iO
theorem Bz{size:Nat}{k:IntKind}{K:Value->Prop}(h:SlAt w T v n cs)(hl:cs.length=n*size)(hs:0<size)(hi:i<n)
  (hK:∀b o c fr,w.heap[b]?=some (.cells c T fr)->(∀j,j<size->c[o+j]?=cs[i*size+j]?)->K (.pointer (some ⟨b,o,none⟩))):fK none size v (.int k i) K:=by
 obtain⟨p,cap,rfl,h1,_,h3⟩:=h;have hlt:i*size+size<=n*size:=by rw[<-Nat.succ_mul];exact fB _ hi
 obtain⟨b,off,c,fr,rfl,hb,hcs⟩:=h3 (λe=>by rw[e]at hl;simp at hl;omega);refine⟨Int.natCast_nonneg _,by omega,?_⟩;rw[bL,aV];exact hK b _ c fr hb λj hj=>by rw[show off+i*size+j=off+(i*size+j)by omega];exact hcs _ (by omega)
theorem mR{k:IntKind}{x:Value}{K:Value->Prop}(h:SlAt w T v n cs)(hl:cs.length=n)(hi:cs[i]?=some x)(hK:K x):
  fK none 1 v (.int k i) λt=>ldW false 1 t w K:=by
 have hi':i<cs.length:=(bS.1 hi).1;refine Bz (size:=1) h (by omega) (by omega) (by omega) λb o c fr hb hc=>?_;refine⟨x,?_,hK⟩;rw[cM,hb,bT];have:=hc 0 (by omega);simpa[hi]using this
abbrev Own(w:World)(base:Nat)(e:TypeId)(size:Nat)(v:Value)(n:Nat)(xs:List Value):Prop:=w.ownsRow base e size v n xs
theorem Own.sl{base:Nat}{e:TypeId}{size:Nat}{xs:List Value}(h:Own w base e size v n xs):SlAt w e v n xs:=by
 obtain⟨hl,⟨rfl,rfl⟩|⟨g,cap,cur,rfl,_,hg,h1,_,h2,h3⟩⟩:=h
 ·have:xs=[]:=cW (by simpa using hl);subst this;exact SlAt.nil w e
 ·refine⟨_,_,rfl,h1,λh=>(by cases h),λ_=>⟨g,0,cur,(0,0),rfl,hg,λi hi=>?_⟩⟩;rw[<-h3,wV,aU (by omega),aI];simp
def En(w:World)(base:Nat)(e:TypeId)(k:Nat):Prop:=base<=k/\∃c,w.heap[k]?=some (.cells c e (0,0))
theorem Own.block{base:Nat}{e:TypeId}{size:Nat}{xs:List Value}(h:Own w base e size v n xs):∀k,v.ownBlock=some k->En w base e k:=by
 intro k hk;obtain⟨hl,⟨rfl,rfl⟩|⟨g,cap,cur,rfl,hb,hg,_⟩⟩:=h
 ·simp[Value.ownBlock]at hk
 ·simp[Value.ownBlock]at hk;subst hk;exact⟨hb,cur,hg⟩
theorem uE(h:jM v=true):v.oneCell'=true:=by cases v<;>first|rfl|(simp[jM]at h)
theorem Chg.of_grown{row:Option Nat}(h:w.grownBy w' row)(hS:∀k,row=some k->S k):Chg S w w':=
 ⟨h.os,h.tape,h.output,h.size,λk hk hn=>h.block k hk λe=>hn (hS k e.symm)⟩
theorem DZ{t e:TypeId}{size bytes:Nat}(hT:qW P t e size bytes){base:Nat}{x:Value}{m:Nat}{xs news:List Value}{ty:TypeId}
  (hown:Own w base e size v n xs)(hx:SlAt w T x m news)(hl:news.length=m*size)(h1:∀u∈news,jM u=true)(hlen:n+m<=4611686018427387904)(hb:(n+m)*bytes<=140737488355328)(hbase:base<=w.heap.size)
  (hK:∀v' w',Own w' base e size v' (n+m) (xs++news)->Chg (En w base e) w w'->(v'=.slice none 0 0↔v=.slice none 0 0/\m=0)->K v' w'):
  fY P (Builtin.append_ #[t,t] ty #[v,x]) w K:=by
 obtain⟨i,z,hi,hz,h2,h3,h4⟩:=hT.get;obtain⟨p,cap,rfl,hcap,hnil,hcells⟩:=hx;have hm:n+m<=maxLen:=by unfold maxLen;omega
 cases p with
 |none=>
  obtain⟨rfl,rfl⟩:=hnil rfl;have hn:news=[]:=cW (by simpa using hl);subst hn;have hr:(Builtin.append_ #[t,t] ty #[v,.slice none 0 0]).run P w=.ok v w:=by
   obtain⟨hl',⟨rfl,rfl⟩|⟨g,cap,cur,rfl,_,hg,h1,_,h2,h3⟩⟩:=hown
   ·simp[Builtin.append_,run_bind,cI hT.und,jJ (show(P.info? e).isSome=true by rw[hi];rfl),Builtin.lenOf,run_pure,Builtin.firstCells]
   ·simp[Builtin.append_,run_bind,cI hT.und,jJ (show(P.info? e).isSome=true by rw[hi];rfl),Builtin.lenOf,run_pure,Builtin.firstCells,h1,storeCells]
  unfold fY;rw[hr];simp only[bJ,fX]at hK;exact hK v w hown (Chg.refl _ _) (by simp)
 |some a=>
  have hcell:∀j u,news[j]?=some u->w.cell? (a.add j)=some u:=by
   intro j u hu;have hne:news≠[]:=λe=>by subst e;simp at hu
   obtain⟨b,off,c,fr,hp,hb',hcs⟩:=hcells hne;cases hp;rw[bL,cM,hb',bT,hcs j (bS.1 hu).1,hu]
  obtain⟨v',w',hr,hown',hg,hnil'⟩:=run_append_own (P:=P) w base t ty e i z size bytes hT.und hi hz h2 h3 h4 hT.pos v n xs hown a m cap news hl hcell (λu hu=>uE (h1 u hu)) hm hb hbase;unfold fY;rw[hr];exact hK v' w' hown' (Chg.of_grown hg hown.block) hnil'
theorem uB{t e:TypeId}{size bytes:Nat}(hT:qW P t e size bytes){base:Nat}{x:Value}{m:Nat}{xs news:List Value}{ty:TypeId}
  (hown:Own w base e size v n xs)(hx:SlAt w T x m news)(hl:news.length=m*size)(h1:∀u∈news,jM u=true)(hlen:n+m<=4611686018427387904)(hb:(n+m)*bytes<=140737488355328)(hbase:base<=w.heap.size)
  (hK:∀v' w',Own w' base e size v' (n+m) (xs++news)->Chg (λk=>v.ownBlock=some k) w w'->(v'=.slice none 0 0↔v=.slice none 0 0/\m=0)->K v' w'):
  fY P (Builtin.append_ #[t,t] ty #[v,x]) w K:=by
 obtain⟨i,z,hi,hz,h2,h3,h4⟩:=hT.get;obtain⟨p,cap,rfl,hcap,hnil,hcells⟩:=hx;have hm:n+m<=maxLen:=by unfold maxLen;omega
 cases p with
 |none=>
  obtain⟨rfl,rfl⟩:=hnil rfl;have hn:news=[]:=cW (by simpa using hl);subst hn;have hr:(Builtin.append_ #[t,t] ty #[v,.slice none 0 0]).run P w=.ok v w:=by
   obtain⟨hl',⟨rfl,rfl⟩|⟨g,cap,cur,rfl,_,hg,h1,_,h2,h3⟩⟩:=hown
   ·simp[Builtin.append_,run_bind,cI hT.und,jJ (show(P.info? e).isSome=true by rw[hi];rfl),Builtin.lenOf,run_pure,Builtin.firstCells]
   ·simp[Builtin.append_,run_bind,cI hT.und,jJ (show(P.info? e).isSome=true by rw[hi];rfl),Builtin.lenOf,run_pure,Builtin.firstCells,h1,storeCells]
  unfold fY;rw[hr];simp only[bJ,fX]at hK;exact hK v w hown (Chg.refl _ _) (by simp)
 |some a=>
  have hcell:∀j u,news[j]?=some u->w.cell? (a.add j)=some u:=by
   intro j u hu;have hne:news≠[]:=λe=>by subst e;simp at hu
   obtain⟨b,off,c,fr,hp,hb',hcs⟩:=hcells hne;cases hp;rw[bL,cM,hb',bT,hcs j (bS.1 hu).1,hu]
  obtain⟨v',w',hr,hown',hg,hnil'⟩:=run_append_own (P:=P) w base t ty e i z size bytes hT.und hi hz h2 h3 h4 hT.pos v n xs hown a m cap news hl hcell (λu hu=>uE (h1 u hu)) hm hb hbase;unfold fY;rw[hr];exact hK v' w' hown' (Chg.of_grown hg λk e=>e) hnil'
theorem AK{base:Nat}{e:TypeId}{size:Nat}(hb:base<=w.heap.size)(hl:cs.length=n*size)(hn:n<=4611686018427387904):Own (w.alloc (.cells cs.toArray e)) base e size (.slice (some ⟨w.heap.size,0,none⟩) n n) n cs:=
 ⟨hl,.inr ⟨w.heap.size,n,cs.toArray,rfl,hb,kF _ _ _ rfl,aZ _,by unfold maxLen;omega,by simpa using hl,by simp[<-hl]⟩⟩
theorem Own.chg{base:Nat}{e:TypeId}{size:Nat}{xs:List Value}(h:Own w base e size v n xs)(hc:Chg S w w')(hS:∀k,En w base e k->¬S k):Own w' base e size v n xs:=by
 obtain⟨hl,hn|⟨g,cap,cur,hv,hb,hg,r⟩⟩:=h
 ·exact⟨hl,.inl hn⟩
 ·exact⟨hl,.inr ⟨g,cap,cur,hv,hb,by rw[hc.heap g (gH.1 hg).1 (hS g ⟨hb,cur,hg⟩)];exact hg,r⟩⟩
theorem Own.ext{base:Nat}{e:TypeId}{size:Nat}{xs:List Value}(h:Own w base e size v n xs)(hc:Ext w w'):Own w' base e size v n xs:=h.chg hc λ_ _ e=>e
theorem Own.base{base base':Nat}{e:TypeId}{size:Nat}{xs:List Value}(h:Own w base e size v n xs)(hb:base'<=base):Own w base' e size v n xs:=by
 obtain⟨hl,hn|⟨g,cap,cur,hv,hg,r⟩⟩:=h
 ·exact⟨hl,.inl hn⟩
 ·exact⟨hl,.inr ⟨g,cap,cur,hv,dR hb hg,r⟩⟩
def u8s(l:List UInt8):List Value:=l.map λb=>.int .u8 b.toNat
theorem vN(l:List UInt8):(u8s l).length=l.length:=by simp[u8s]
theorem Cn(l:List UInt8)(i:Nat):(u8s l)[i]?=(l[i]?).map λb=>.int .u8 b.toNat:=by simp[u8s]
theorem Gc(a b:List UInt8):u8s (a++b)=u8s a++u8s b:=by simp[u8s]
theorem OR(l:List UInt8):∀u∈u8s l,jM u=true:=by intro u hu;simp[u8s]at hu;obtain⟨b,_,rfl⟩:=hu;rfl
abbrev Byt(w:World)(T:TypeId)(v:Value)(l:List UInt8):Prop:=SlAt w T v l.length (u8s l)
theorem JD{src dst e:TypeId}(hs:P.underlying src=some (.slice e))(he:P.underlying e=some (.int .u8))(hd:P.underlying dst=some .string){l:List UInt8}{K:Value->Prop}
  (h:Byt w T v l):pV P (convert src dst v) w K↔K (str l):=by
 have hr:(convert src dst v).run P w=.ok (str l) w:=by
  obtain⟨p,cap,rfl,hcap,hnil,hcells⟩:=h;cases p with
  |none=>
   obtain⟨h0,_⟩:=hnil rfl;have:l=[]:=cW h0;subst this;rw[run_convert_bytes_nil (P:=P) w src e hs he _ _ dst hd];rfl
  |some a=>
   cases l with
   |nil=>
    rw[run_convert_bytes_string w src dst e _ _ cap hs he hd];have hl:(loadCells a 0).run P w=.ok (([]:List Int).map (Value.int .u8)).toArray w:=rfl;have:=run_bytesToString w a 0 cap [] hl;exact this
   |cons x l=>
    obtain⟨b,off,c,fr,hp,hb,hcs⟩:=hcells (by simp[u8s]);cases hp;have:=run_convert_bytes_arg (P:=P) w src e hs he b off (x::l).length cap ((x::l).map λb=>(b.toNat:Int)) (by simp) (λi hi=>by
     rw[cM,hb,bT,hcs i (by rw[vN];exact hi),Cn,aG hi];rw[bR,fO,aG hi];rfl) dst hd
    rw[this];simp[str,ofL,strOfNums,Function.comp_def]
 constructor
 ·rintro⟨u,hu,hk⟩;rw[hr]at hu;cases hu;exact hk
 ·exactλhk=>⟨_,hr,hk⟩
abbrev Str:=List UInt8
def lF:List (Str×Value)->Str->Option Value
 |[],_=>none
 |(k,v)::r,x=>if k=x then some v else lF r x
def zH:List (Str×Value)->Str->Value->List (Str×Value)
 |[],x,v=>[(x,v)]
 |(k,u)::r,x,v=>if k=x then(x,v)::r else(k,u)::zH r x v
def wK:List (Str×Value)->Str->List (Str×Value)
 |[],_=>[]
 |(k,u)::r,x=>if k=x then r else(k,u)::wK r x
theorem Ec{A:List (Str×Value)}{x:Str}:lF A x=none↔x∉A.map (·.1):=by
 induction A with
 |nil=>simp[lF]
 |cons p r ih=>
  obtain⟨k,v⟩:=p;simp only[lF];by_cases h:k=x
  ·simp[h]
  ·simp only[aL h,ih,fW,bC];constructor
   ·exactλh1 h2=>h2.elim (λe=>h e.symm) h1
   ·exactλh1 h2=>h1 (.inr h2)
theorem FU{A:List (Str×Value)}{x:Str}:(zH A x v).map (·.1)=if x∈A.map (·.1)then A.map (·.1)else A.map (·.1)++[x]:=by
 induction A with
 |nil=>simp[zH]
 |cons p r ih=>
  obtain⟨k,u⟩:=p;simp only[zH];by_cases h:k=x
  ·simp[h]
  ·rw[aL h,fW,ih];simp only[fW,bC,kG h,false_or];split<;>simp
theorem DY{A:List (Str×Value)}{x:Str}(h:(A.map (·.1)).Nodup):((zH A x v).map (·.1)).Nodup:=by
 rw[FU];split
 ·exact h
 ·rename_i hx;exact iA.2 ⟨h,by simp,λa ha b hb=>by simp at hb;subst hb;exactλe=>hx (e▸ha)⟩
theorem OC{A:List (Str×Value)}{x:Str}:List.Sublist (wK A x) A:=by
 induction A with
 |nil=>exact List.Sublist.refl _
 |cons p r ih=>
  obtain⟨k,u⟩:=p;simp only[wK];split
  ·exact List.sublist_cons_self _ _
  ·exact ih.cons_cons _
theorem Ee{A:List (Str×Value)}{x:Str}(h:(A.map (·.1)).Nodup):((wK A x).map (·.1)).Nodup:=(OC.map _).nodup h
def MapAt(w:World)(m:Nat)(A:List (Str×Value)):Prop:=
 ∃es clock,w.heap[m]?=some (.map es clock)/\es.toList.map (λe=>(e.key,e.val))=A.map (λp=>(str p.1,p.2))/\(A.map (·.1)).Nodup/\(es.toList.map (·.born)).Nodup/\∀e∈es.toList,e.born<clock
theorem MapAt.nodup{m:Nat}{A:List (Str×Value)}(h:MapAt w m A):(A.map (·.1)).Nodup:=h.choose_spec.choose_spec.2.2.1
theorem MapAt.lt{m:Nat}{A:List (Str×Value)}(h:MapAt w m A):m<w.heap.size:=by
 obtain⟨es,clock,hb,_⟩:=h;exact(gH.1 hb).1
theorem MapAt.ne{m b:Nat}{A:List (Str×Value)}{c:Array Value}{fr:Nat×Nat}(h:MapAt w m A)(hb:w.heap[b]?=some (.cells c T fr)):m≠b:=by
 obtain⟨es,clock,hm,_⟩:=h;intro e;subst e;rw[hm]at hb;cases hb
theorem MapAt.chg{m:Nat}{A:List (Str×Value)}(h:MapAt w m A)(hc:Chg S w w')(hS:¬S m):MapAt w' m A:=by
 have hl:=h.lt;obtain⟨es,clock,hb,r⟩:=h;exact⟨es,clock,by rw[hc.heap m hl hS];exact hb,r⟩
theorem JW(a b:Str):(ofL a==ofL b)=decide (a=b):=by
 have h:(ofL a==ofL b)=((ofL a).data==(ofL b).data):=rfl;rw[h,nX];simp[ofL]
def vH:List (Str×Value)->Str->Nat->Option (Nat×Value)
 |[],_,_=>none
 |(k,v)::r,x,i=>if x=k then some (i,v)else vH r x (i+1)
theorem BY:∀(l:List MapEntry) (A:List (Str×Value)) (x:Str) (i:Nat),l.map (λe=>(e.key,e.val))=A.map (λp=>(str p.1,p.2))->Instr.findNow .string (str x) l i=some (vH A x i)
 |[],A,x,i,h=>by
  have:A=[]:=by simpa using h.symm
  subst this
  rfl
 |e::l,[],x,i,h=>by simp at h
 |e::l,(k,v)::A,x,i,h=>by
  simp only[fW,gP,gS]at h
  obtain⟨⟨hk,hv⟩,hr⟩:=h
  simp only[Instr.findNow,hk,Instr.sameNow,JW,vH,hv]
  by_cases hx:x=k
  ·simp[hx]
  ·simp only[hx,cU,qY]
   exact BY l A x (i+1) hr
theorem JK(A:List (Str×Value))(x:Str)(i:Nat):(vH A x i).map (·.2)=lF A x:=by
 induction A generalizing i with
 |nil=>rfl
 |cons p r ih=>
  obtain⟨k,v⟩:=p;simp only[vH,lF];by_cases h:x=k
  ·simp[h]
  ·rw[aL h,aL (kG h),ih]
theorem Ed:∀(A:List (Str×Value)) (x:Str) (i j:Nat) (v:Value),vH A x i=some (j,v)->∃k,j=i+k/\A[k]?=some (x,v)/\∀u,zH A x u=A.set k (x,u)/\wK A x=A.eraseIdx k
 |[],_,_,_,_,h=>by cases h
 |(k,u)::r,x,i,j,v,h=>by
  simp only[vH]at h
  by_cases hx:x=k
  ·rw[aU hx]at h
   cases h
   subst hx
   exact⟨0,rfl,rfl,λu=>⟨by simp[zH],by simp[wK]⟩⟩
  ·rw[aL hx]at h
   obtain⟨k',h1,h2,h3⟩:=Ed r x (i+1) j v h
   exact⟨k'+1,by omega,by simpa using h2,λu=>⟨by simp[zH,kG hx,(h3 u).1],by simp[wK,kG hx,(h3 u).2]⟩⟩
theorem yR{α β:Type}(f:α->β):∀(l:List α) (j:Nat),(l.map f).eraseIdx j=(l.eraseIdx j).map f
 |[],_=>rfl
 |_::_,0=>rfl
 |a::l,j+1=>by simp[yR f l j]
theorem An:∀(A:List (Str×Value)) (x:Str) (i:Nat),vH A x i=none->∀u,zH A x u=A++[(x,u)]/\wK A x=A
 |[],_,_,_,_=>⟨rfl,rfl⟩
 |(k,u)::r,x,i,h,u'=>by
  simp only[vH]at h
  by_cases hx:x=k
  ·rw[aU hx]at h;cases h
  ·rw[aL hx]at h
   obtain⟨h1,h2⟩:=An r x (i+1) h u'
   exact⟨by simp[zH,kG hx,h1],by simp[wK,kG hx,h2]⟩
section
variable{P:Program}{T kt et:TypeId}{w:World}{m:Nat}{A:List (Str×Value)}
theorem run_checkKey(hk:P.underlying kt=some .string)(e:Bool)(s:ByteArray)(w:World):(Instr.checkKey e 10000 kt (.string s)).run P w=.ok () w:=by
 show(Instr.checkKey e (9999+1) kt (.string s)).run P w=.ok () w;unfold Instr.checkKey;simp[run_bind,cI hk,run_pure]
theorem run_findKey(hk:P.underlying kt=some .string)(x:Str)(es:List MapEntry)(h:es.map (λe=>(e.key,e.val))=A.map (λp=>(str p.1,p.2)))(w:World):(Instr.findKey kt (str x) es).run P w=.ok (vH A x 0) w:=by
 simp only[Instr.findKey,run_bind,cI hk];rw[BY es A x 0 h];rfl
theorem Fa(hT:P.underlying T=some (.map kt et))(hk:P.underlying kt=some .string){z:Value}(hz:∀w,(zeroValue et).run P w=.ok z w){x:Str}{ok:Bool}{K:Value->Prop}(h:MapAt w m A):
  pV P (Instr.lookup T (.map (some m)) (str x) ok) w K↔K (bif ok then .tuple #[(lF A x).getD z,.bool (lF A x).isSome]else(lF A x).getD z):=by
 obtain⟨es,clock,hb,he,_⟩:=h;have hr:(Instr.lookup T (.map (some m)) (str x) ok).run P w=.ok (bif ok then .tuple #[(lF A x).getD z,.bool (lF A x).isSome]else(lF A x).getD z) w:=by
  have hg:(getObj m).run P w=.ok (.map es clock) w:=by simp[getObj,Sem.run,hb]
  simp only[Instr.lookup,run_bind,cI hT,hg,run_pure,run_checkKey hk,run_findKey (A:=A) hk x _ he];rw[<-JK A x 0];cases hf:vH A x 0 with
  |none=>simp only[run_bind,hz,run_pure,Option.map_none,Option.getD_none,Option.isSome_none];cases ok<;>rfl
  |some p=>obtain⟨i,v⟩:=p;simp only[run_pure,aH,Option.getD_some,cN];cases ok<;>rfl
 constructor
 ·rintro⟨u,hu,hK⟩;rw[hr]at hu;cases hu;exact hK
 ·exactλhK=>⟨_,hr,hK⟩
theorem WG(hT:P.underlying T=some (.map kt et)){ty:TypeId}{K:Value->Prop}(h:MapAt w m A):pV P (Builtin.len_ #[T] ty #[.map (some m)]) w K↔K (i64 A.length):=by
 obtain⟨es,clock,hb,he,_⟩:=h;have hlen:es.size=A.length:=by simpa using congrArg List.length he
 have hr:(Builtin.len_ #[T] ty #[.map (some m)]).run P w=.ok (i64 A.length) w:=by
  have hg:(getObj m).run P w=.ok (.map es clock) w:=by simp[getObj,Sem.run,hb]
  simp[Builtin.len_,run_bind,cI hT,hg,run_pure,goInt,hlen]
 constructor
 ·rintro⟨u,hu,hK⟩;rw[hr]at hu;cases hu;exact hK
 ·exactλhK=>⟨_,hr,hK⟩
theorem tF{m:Nat}{o:Obj}:Chg (· =m) w {w with heap:=w.heap.setIfInBounds m o}:=
 ⟨rfl,rfl,rfl,by simp,λk hk hne=>by simp[Cj,kG hne]⟩
theorem Eu(hT:P.underlying T=some (.map kt et))(hk:P.underlying kt=some .string){x:Str}{K:World->Prop}(h:MapAt w m A)
  (hK:∀w',MapAt w' m (zH A x v)->Chg (· =m) w w'->K w'):CQ P (Instr.mapUpdate T (.map (some m)) (str x) v) w K:=by
 have hn:=h.nodup;have hlt:=h.lt;obtain⟨es,clock,hb,he,_,hbn,hcl⟩:=h;have hg:(getObj m).run P w=.ok (.map es clock) w:=by simp[getObj,Sem.run,hb]
 have hset:∀o:Obj,(setObj m o).run P w=.ok () {w with heap:=w.heap.setIfInBounds m o}:=λo=>by simp[setObj,Sem.run,hb]
 have hlen:es.toList.length=A.length:=by simpa using congrArg List.length he
 unfold CQ;simp only[Instr.mapUpdate,run_bind,cI hT,hg,run_checkKey hk,run_findKey (A:=A) hk x _ he];cases hf:vH A x 0 with
 |none=>
  simp only[hset];refine hK _ ⟨es.push {key:=str x,val:=v,born:=clock},clock+1,by simp[hlt],?_,DY hn,?_,?_⟩ tF
  ·rw[(An A x 0 hf v).1];simp[he]
  ·simp only[Array.toList_push,List.map_append,fW,kV];exact iA.2 ⟨hbn,by simp,λa ha b hb'=>by
    simp at hb';subst hb';obtain⟨e,he',rfl⟩:=gE.1 ha;have:=hcl e he';omega⟩
  ·intro e he';simp only[Array.toList_push,bK,bX]at he';rcases he' with he'|rfl
   ·have:=hcl e he';omega
   ·exact Bh _
 |some p=>
  obtain⟨j,u⟩:=p;obtain⟨k,hjk,hAk,hput⟩:=Ed A x 0 j u hf;have hjk:j=k:=by omega
  subst hjk;have hjl:j<es.toList.length:=by rw[hlen];exact(bS.1 hAk).1
  have hjs:j<es.size:=by simpa using hjl
  have hkey:es[j].key=str x:=by
   have h1:=congrArg (λl=>l[j]?) he;simp only[fO,hAk,aH]at h1;have h2:es.toList[j]?=some es[j]:=by simp[hjs]
   rw[h2]at h1;simp only[aH,bA,gS]at h1;exact h1.1
  have hkeep:(Instr.keyThatStays (((es[j]?).map (·.key)).getD (str x)) (str x)).run P w=.ok (str x) w:=by
   have:((es[j]?).map (·.key)).getD (str x)=str x:=by simp[hjs,hkey]
   rw[this];have hsame:Instr.sameBits 10000 (str x) (str x)=true:=by
    have:(ofL x==ofL x)=true:=by rw[JW];simp
    simpa[Instr.sameBits,str]using this
   simp[Instr.keyThatStays,hsame,run_pure]
  simp only[run_bind,hkeep,hset];have hmod:(es.modify j λe=>{e with key:=str x,val:=v}).toList=es.toList.set j {es[j]with key:=str x,val:=v}:=by
   rw[Array.toList_modify,List.modify_eq_set];simp[hjs]
  refine hK _ ⟨es.modify j λe=>{e with key:=str x,val:=v},clock,by simp[hlt],?_,DY hn,?_,?_⟩ tF
  ·rw[hmod,(hput v).1,List.map_set,List.map_set,he]
  ·rw[hmod,List.map_set];have:(es.toList.map (·.born)).set j es[j].born=es.toList.map (·.born):=by
    apply List.ext_getElem?;intro i;rw[List.getElem?_set];split
    ·rename_i hij;subst hij;simp[hjs]
    ·rfl
   simp only[this];exact hbn
  ·intro e he';rw[hmod]at he';rcases qB he' with h1|rfl
   ·exact hcl e h1
   ·exact hcl es[j] (by simp)
theorem LZ(hT:P.underlying T=some (.map kt et))(hk:P.underlying kt=some .string){x:Str}{ts:Array TypeId}{ty:TypeId}(h:MapAt w m A)(hts:ts[0]?=some T)
  (hK:∀w',MapAt w' m (wK A x)->Chg (· =m) w w'->K (.tuple #[]) w'):fY P (Builtin.delete_ ts ty #[.map (some m),str x]) w K:=by
 have hn:=h.nodup;have hlt:=h.lt;obtain⟨es,clock,hb,he,_,hbn,hcl⟩:=h;have hg:(getObj m).run P w=.ok (.map es clock) w:=by simp[getObj,Sem.run,hb]
 have hset:∀o:Obj,(setObj m o).run P w=.ok () {w with heap:=w.heap.setIfInBounds m o}:=λo=>by simp[setObj,Sem.run,hb]
 have hlen:es.toList.length=A.length:=by simpa using congrArg List.length he
 unfold fY;have hargs:((#[.map (some m),str x]:Array Value)[0]?,(#[.map (some m),str x]:Array Value)[1]?)=(some (.map (some m)),some (str x)):=rfl;simp only[Builtin.delete_,hts,show(#[.map (some m),str x]:Array Value)[0]?=some (.map (some m))from rfl,show(#[.map (some m),str x]:Array Value)[1]?=some (str x)from rfl,run_bind,cI hT,hg,run_checkKey hk,run_findKey (A:=A) hk x _ he];cases hf:vH A x 0 with
 |none=>
  simp only[run_bind,hset,run_pure];refine hK {w with heap:=w.heap.setIfInBounds m (.map es clock)} ⟨es,clock,by simp[hlt],?_,Ee hn,hbn,hcl⟩ tF;rw[(An A x 0 hf (.nilIface)).2,he]
 |some p=>
  obtain⟨j,u⟩:=p;obtain⟨k,hjk,hAk,hput⟩:=Ed A x 0 j u hf;have hjk:j=k:=by omega
  subst hjk;have hjl:j<es.toList.length:=by rw[hlen];exact(bS.1 hAk).1
  have hjs:j<es.size:=by simpa using hjl
  simp only[run_bind,hset,run_pure];have her:(es.eraseIdxIfInBounds j).toList=es.toList.eraseIdx j:=by simp[Array.eraseIdxIfInBounds,hjs]
  refine hK {w with heap:=w.heap.setIfInBounds m (.map (es.eraseIdxIfInBounds j) clock)} ⟨es.eraseIdxIfInBounds j,clock,by simp[hlt],?_,Ee hn,?_,?_⟩ tF
  ·rw[her,(hput .nilIface).2,<-yR,<-yR,he]
  ·rw[her,<-yR];exact(List.eraseIdx_sublist _ _).nodup hbn
  ·intro e he';rw[her]at he';exact hcl e ((List.eraseIdx_sublist _ _).subset he')
theorem Ae(hK:MapAt (w.alloc (.map #[] 0)) w.heap.size []->K (.map (some w.heap.size)) (w.alloc (.map #[] 0))):fY P (Instr.makeMap T none) w K:=by
 unfold fY;have hr:(Instr.makeMap T none).run P w=.ok (.map (some w.heap.size)) (w.alloc (.map #[] 0)):=by
  simp[Instr.makeMap,run_bind,newObj,Sem.run,run_pure]
 rw[hr];exact hK ⟨#[],0,kF _ _ _ rfl,by simp,by simp,by simp,by simp⟩
end
theorem Chg.at{k:Nat}{o:Obj}(hc:Chg S w w')(h:w.heap[k]?=some o)(hS:¬S k):w'.heap[k]?=some o:=by
 rw[hc.heap k (gH.1 h).1 hS];exact h
theorem Chg.new{w1 w2:World}{a:Nat}(h1:Ext w w1)(hc:Chg (λk=>k=a) w1 w2)(ha:w.heap.size<=a):Ext w w2:=h1.then hc λk hk e=>by omega
theorem mB{k:Nat}{o:Obj}(h:w.heap[k]?=some o):k<w.heap.size:=(gH.1 h).1
theorem cK{z:List Value}(h:∀a w',a=w.heap.size->w'.heap.size=w.heap.size+1->w'.heap[a]?=some (.cells z.toArray T (0,0))->Ext w w'->K (.pointer (some ⟨a,0,none⟩)) w'):dA T z w K:=
 h _ _ rfl (by simp) (kF _ _ _ rfl) (Chg.alloc (Chg.refl _ _) _)
theorem fZ{z:List Value}(h:∀a w',a=w.heap.size->w'.heap.size=w.heap.size+1->w'.heap[a]?=some (.cells z.toArray T (0,0))->Ext w w'->K (.pointer (some ⟨a,0,none⟩)) w'):jF T (.agg z.toArray) w K:=
 h _ _ rfl (by simp) (kF _ _ _ rfl) (Chg.alloc (Chg.refl _ _) _)
theorem row_new(h:∀a w',a=w.heap.size->w'.heap.size=w.heap.size+1->w'.heap[a]?=some (.cells cs.toArray T (0,0))->Ext w w'->w'=w.alloc (.cells cs.toArray T)->K (.slice (some ⟨a,0,none⟩) n n) w'):
  K (.slice (some ⟨w.heap.size,0,none⟩) n n) (w.alloc (.cells cs.toArray T)):=
 h _ _ rfl (by simp) (kF _ _ _ rfl) (Chg.alloc (Chg.refl _ _) _) rfl
theorem kQ{a off:Nat}{cs:Array Value}{K:World->Prop}(hb:w.heap[a]?=some (.cells cs T (0,0)))(h1:jM v=true)(hoff:off<cs.size)
  (hK:∀w',w'.heap.size=w.heap.size->w'.heap[a]?=some (.cells (cs.setIfInBounds off v) T (0,0))->Chg (λk=>k=a) w w'->K w'):stW 1 (.pointer (some ⟨a,off,none⟩)) v w K:=by
 have hc:v.cells.toList=[v]:=by cases v<;>first|rfl|(simp[jM]at h1)
 have hc2:v.cells=#[v]:=by cases v<;>first|rfl|(simp[jM]at h1)
 have hz:(⟨a,off,none⟩:Addr).add 0=⟨a,off,none⟩:=rfl;simp only[stW,hc2];refine⟨rfl,?_⟩;simp only[lS,hz];refine⟨h1,?_,?_,?_⟩
 ·rw[cM,hb,bT];simp[hoff]
 ·rw[fL,hb,gJ]
 ·refine hK _ (by simp) ?_ (Chg.set (S:=λk=>k=a) (Chg.refl _ _) (.inl rfl) _);rw[oF,hb,fR]
theorem Vi{a:Nat}{K:World->Prop}:∀(l:List Value) (i:Nat) (cs:List Value),w.heap[a]?=some (.cells cs.toArray T (0,0))->cs.length=i+l.length->(∀v∈l,jM v=true)->
  (∀w',w'.heap.size=w.heap.size->w'.heap[a]?=some (.cells (cs.take i++l).toArray T (0,0))->Chg (λk=>k=a) w w'->K w')->lS ⟨a,0,none⟩ l i w K:=by
 intro l;induction l generalizing w with
 |nil=>
  intro i cs hb hl _ hK;refine hK w rfl ?_ (Chg.refl _ _);simp only[aK,bJ]at hl;rw[iH (by omega),fX];exact hb
 |cons v r ih=>
  intro i cs hb hl h1 hK;have hadd:(⟨a,0,none⟩:Addr).add i=⟨a,i,none⟩:=by rw[bL];simp
  simp only[aB]at hl;simp only[lS,hadd];refine⟨h1 v aW,?_,?_,?_⟩
  ·rw[cM,hb,bT];simp;omega
  ·rw[fL,hb,gJ]
  ·have hb':(w.setCell ⟨a,i,none⟩ v).heap[a]?=some (.cells (cs.set i v).toArray T (0,0)):=by
    rw[oF,hb,fR];simp
   refine ih (i+1) (cs.set i v) hb' (by rw[lV];omega) (λu hu=>h1 u (aD _ hu)) λw' hz hb2 hc=>?_;refine hK w' (by rw[hz];simp) ?_ ((Chg.set (S:=λk=>k=a) (Chg.refl _ _) (.inl rfl) _).trans hc);rw[hb2];have:(cs.set i v).take (i+1)++r=cs.take i++v::r:=by
    rw[jT,sH (by omega),List.take_set_of_le (by omega)];simp
   rw[this]
theorem cY{a:Nat}{l:List Value}{K:World->Prop}(hb:w.heap[a]?=some (.cells cs.toArray T (0,0)))(hl:l.length=n)(hc:cs.length=n)(h1:l.all jM=true)
  (hK:∀w',w'.heap.size=w.heap.size->w'.heap[a]?=some (.cells l.toArray T (0,0))->Chg (λk=>k=a) w w'->K w'):stW n (.pointer (some ⟨a,0,none⟩)) (.agg l.toArray) w K:=by
 rw[Gf];refine⟨hl,?_⟩;refine Vi l 0 cs hb (by omega) (λv hv=>iD.1 h1 v hv) λw' hz hb' hc'=>hK w' hz ?_ hc';simpa using hb'
theorem DK{a:Nat}{w:World}{T:TypeId}{cs:List Value}{fr:Nat×Nat}(hb:w.heap[a]?=some (.cells cs.toArray T fr)):∀(n i:Nat),i+n=cs.length->bV w ⟨a,0,none⟩ i n=some (cs.drop i)
 |0,i,h=>by simp only[bV];rw[iI (by omega)]
 |n+1,i,h=>by
  have hi:i<cs.length:=by omega
  simp only[bV,bL,cM,hb,bT,aI,bN,aG hi]
  rw[DK hb n (i+1) (by omega)]
  simp
theorem gF{a:Nat}{l:List Value}{fr:Nat×Nat}{K:Value->Prop}(hb:w.heap[a]?=some (.cells l.toArray T fr))(hn:l.length=n)(hK:K (.agg l.toArray)):ldW true n (.pointer (some ⟨a,0,none⟩)) w K:=by
 rw[xP];exact⟨l,by rw[DK hb n 0 (by omega)];rfl,hK⟩
theorem vX{a:Nat}{l:List Value}(hb:w.heap[a]?=some (.cells cs.toArray T (0,0)))(hl:l.length=n)(hc:cs.length=n)(h1:l.all jM=true)
  (hK:∀w',Chg (λk=>k=a) w w'->K (.agg l.toArray) w'):stW n (.pointer (some ⟨a,0,none⟩)) (.agg l.toArray) w λw5=>ldW true n (.pointer (some ⟨a,0,none⟩)) w5 λr6=>K r6 w5:=
 cY hb hl hc h1 λw' _ hb' hcw=>gF hb' hl (hK w' hcw)
end
section
open Go
variable{w:World}{K:Value->World->Prop}{cs:List Value}{G:Nat->Prop}{T:TypeId}{i:Nat}{n:Nat}{v:Value}{w':World}{P:Program}{c:UInt8}{S:Nat->Prop}
theorem jL{t e:TypeId}{size bytes:Nat}(hT:qW P t e size bytes){base:Nat}{x:Value}{m:Nat}{xs news:List Value}{ty:TypeId}
  (hown:Own w base e size v n xs)(hx:SlAt w T x m news)(hl:news.length=m*size)(h1:∀u∈news,jM u=true)(hlen:n+m<=4611686018427387904)(hb:(n+m)*bytes<=140737488355328)(hbase:base<=w.heap.size)
  (hK:∀v' w',Own w' base e size v' (n+m) (xs++news)->Chg (λk=>v.ownBlock=some k) w w'->(∀k,v'.ownBlock=some k->v.ownBlock=some k\/w.heap.size<=k)->K v' w'):
  fY P (Builtin.append_ #[t,t] ty #[v,x]) w K:=by
 obtain⟨i,z,hi,hz,h2,h3,h4⟩:=hT.get;have hsame:∀{K':Value->World->Prop},fY P (Builtin.append_ #[t,t] ty #[v,x]) w K'->∃v' w',(Builtin.append_ #[t,t] ty #[v,x]).run P w=.ok v' w'/\K' v' w':=by
  intro K' h;unfold fY at h;split at h
  ·rename_i v' w' hr;exact⟨v',w',hr,h⟩
  ·exact h.elim
 obtain⟨v1,w1,hr1,hO1,hc1,hn1⟩:=hsame (uB hT hown hx hl h1 hlen hb hbase λv' w' a b c=>(⟨a,b,c⟩:Own w' base e size v' (n+m) (xs++news)/\Chg (λk=>v.ownBlock=some k) w w'/\(v'=.slice none 0 0↔v=.slice none 0 0/\m=0)));unfold fY;rw[hr1];refine hK v1 w1 hO1 hc1 ?_;obtain⟨hl',⟨rfl,rfl⟩|⟨g,cap,cur,rfl,hbg,hg,hnc,hcm,hcs,htake⟩⟩:=hown
 ·have hnil:xs=[]:=cW (by simpa using hl');subst hnil;obtain⟨v2,w2,hr2,hO2⟩:=hsame (uB hT (base:=w.heap.size) (show Own w w.heap.size e size (.slice none 0 0) 0 []from⟨by simp,.inl ⟨rfl,rfl⟩⟩) hx hl h1 hlen hb (aZ _) λv' w' a _ _=>a);rw[hr1]at hr2;cases hr2;intro k hk;exact .inr (hO2.block k hk).1
 ·obtain⟨p,c,rfl,_,hpn,hcells⟩:=hx;cases p with
  |none=>
   obtain⟨rfl,rfl⟩:=hpn rfl;intro k hk;have hn:news=[]:=cW (by simpa using hl);subst hn;have hr:(Builtin.append_ #[t,t] ty #[.slice (some ⟨g,0,none⟩) n cap,.slice none 0 0]).run P w=.ok (.slice (some ⟨g,0,none⟩) n cap) w:=by
    simp[Builtin.append_,run_bind,cI hT.und,jJ (show(P.info? e).isSome=true by rw[hi];rfl),Builtin.lenOf,run_pure,Builtin.firstCells,hnc,storeCells]
   rw[hr1]at hr;cases hr;exact .inl hk
  |some a=>
   have hcell:∀j u,news[j]?=some u->w.cell? (a.add j)=some u:=by
    intro j u hu;have hne:news≠[]:=λe=>by subst e;simp at hu
    obtain⟨b,off,c',fr,hp,hb',hcs'⟩:=hcells hne;cases hp;rw[bL,cM,hb',bT,hcs' j (bS.1 hu).1,hu]
   subst h2;by_cases hroom:n+m<=cap
   ·have hfit:n*i.size+news.length<=cur.size:=by rw[hl,hcs,<-mM];exact fB _ hroom
    have hr:=run_append_room (P:=P) w t ty e i hT.und hi g n cap cur hg a m c news hl hcell (λu hu=>uE (h1 u hu)) hroom hfit;rw[hr1]at hr;cases hr;intro k hk;exact .inl (by simpa[Value.ownBlock]using hk)
   ·have holds:∀j u,xs[j]?=some u->w.cell? ((⟨g,0,none⟩:Addr).add j)=some u:=World.ownsRow.cells (base:=base) (e:=e) (size:=i.size) (v:=.slice (some ⟨g,0,none⟩) n cap) (n:=n) ⟨hl',.inr ⟨g,cap,cur,rfl,hbg,hg,hnc,hcm,hcs,htake⟩⟩ rfl;have hr:=run_append_grow (P:=P) w t ty e i z hT.und hi hz ⟨g,0,none⟩ n cap xs hl' holds a m c news hl hcell (by omega) (by omega) (growslice_fits (by omega) (by rw[h3];exact hb));rw[hr1]at hr;cases hr;intro k hk;right;simp[Value.ownBlock]at hk;omega
theorem nH(c:Bool)(u v:Value)(w:World)(B:List Value->Fr->World->Prop):GdW c [u] w (λJ=>J [v] w) B↔∀g,B [bif c then v else u] g w:=by
 constructor
 ·rintro⟨J,h1,h2,h3⟩ g;cases c with
  |true=>exact h3 _ g _ (h1 rfl)
  |false=>exact h3 _ g _ (h2 rfl)
 ·intro h;refine⟨λs w'=>s=[bif c then v else u]/\w'=w,λhc=>⟨by rw[hc];rfl,rfl⟩,λhc=>⟨by rw[hc];rfl,rfl⟩,?_⟩;rintro s g w' ⟨rfl,rfl⟩;exact h g
theorem Bl(g e f:Bool)(w:World)(B:List Value->Fr->World->Prop):
  GdW g [undef] w (λJ=>cZ (bif g then .bool e else undef) (bif (g&&e)then .bool f else undef) (.bool false) λt=>J [t] w) B↔∀h,B [bif g then .bool (e&&f)else undef] h w:=by
 cases g with
 |true=>
  rw[<-nH];cases e<;>exact iO
 |false=>
  constructor
  ·rintro⟨J,_,h2,h3⟩ h;exact h3 _ h _ (h2 rfl)
  ·intro h;exact GdW.f h
theorem Cd(g e f:Bool)(w:World)(B:List Value->Fr->World->Prop):
  GdW g [undef] w (λJ=>cZ (bif g then .bool e else undef) (.bool true) (bif (g&&!e)then .bool f else undef) λt=>J [t] w) B↔∀h,B [bif g then .bool (e||f)else undef] h w:=by
 cases g with
 |true=>
  rw[<-nH];cases e<;>exact iO
 |false=>
  constructor
  ·rintro⟨J,_,h2,h3⟩ h;exact h3 _ h _ (h2 rfl)
  ·intro h;exact GdW.f h
theorem fG(c e:Bool)(K:Value->Prop):cZ (.bool c) (bif c then .bool e else undef) (.bool false) K↔K (.bool (c&&e)):=by cases c<;>exact iO
theorem lG(c e:Bool)(K:Value->Prop):cZ (.bool c) (.bool true) (bif !c then .bool e else undef) K↔K (.bool (c||e)):=by cases c<;>exact iO
theorem HQ(c e:Bool):isB (bif c then .bool e else undef) true=(c&&e):=by cases c<;>cases e<;>rfl
theorem HR(c e:Bool):isB (bif c then .bool e else undef) false=(c&&!e):=by cases c<;>cases e<;>rfl
theorem GdW.look{c:Bool}{A:(List Value->World->Prop)->Prop}{B:List Value->Fr->World->Prop}(e:Bool)(h1:c=true->∀J:List Value->World->Prop,J [.bool e] w->A J)(h2:∀g,B [bif c then .bool e else undef] g w):GdW c [undef] w A B:=by
 refine⟨λs w'=>s=[bif c then .bool e else undef]/\w'=w,λhc=>h1 hc _ ⟨by rw[hc];rfl,rfl⟩,λhc=>⟨by rw[hc];rfl,rfl⟩,?_⟩;rintro s g w' ⟨rfl,rfl⟩;exact h2 g
theorem GdW.act{c:Bool}{A:(List Value->World->Prop)->Prop}{B:List Value->Fr->World->Prop}(e:Bool)(R:World->Prop)(h0:c=false->R w)(h1:c=true->∀J:List Value->World->Prop,(∀w',R w'->J [.bool e] w')->A J)(h2:∀g w',R w'->B [bif c then .bool e else undef] g w'):GdW c [undef] w A B:=by
 refine⟨λs w'=>s=[bif c then .bool e else undef]/\R w',λhc=>h1 hc _ λw' hR=>⟨by rw[hc];rfl,hR⟩,λhc=>⟨by rw[hc];rfl,h0 hc⟩,?_⟩;rintro s g w' ⟨rfl,hR⟩;exact h2 g w' hR
theorem FX(A:(Value->Prop)->Prop)(B:Value->Prop):GqW false A B↔B undef:=by
 constructor
 ·rintro⟨v,_,h,hb⟩;rw[<-h rfl];exact hb
 ·intro h;exact⟨undef,(λe=>by cases e),λ_=>rfl,h⟩
theorem KX(A:(Value->Prop)->Prop)(B:Value->Prop):GqW true A B↔∃v,A (λx=>x=v)/\B v:=by
 constructor
 ·rintro⟨v,h,_,hb⟩;exact⟨v,h rfl,hb⟩
 ·rintro⟨v,h,hb⟩;exact⟨v,λ_=>h,(λe=>by cases e),hb⟩
theorem Ce(u:List Value)(w:World)(A:(List Value->World->Prop)->Prop)(B:List Value->Fr->World->Prop):GdW false u w A B↔∀g,B u g w:=by
 constructor
 ·rintro⟨J,_,h2,h3⟩ g;exact h3 _ g _ (h2 rfl)
 ·intro h;exact GdW.f h
theorem HP(c:Bool):isB undef c=false:=rfl
theorem eJ(b:Bool)(A B:Prop):bB (.bool b) A B↔(b=true->A)/\(b=false->B):=iO
def Yl:=And.intro @dN<|And.intro @iP<|And.intro @dP<|And.intro @dW<|And.intro @gV<|And.intro @iJ<|And.intro @eP<|And.intro @cJ<|And.intro @gR<|And.intro @iN<|
 And.intro @jB<|And.intro @jA<|And.intro @cL<|And.intro @dQ<|And.intro @dI<|And.intro @gN<|And.intro @gD<|And.intro @fS<|And.intro @fJ<|And.intro @eQ<|And.intro @gA<|
 And.intro @iW<|And.intro @iY<|And.intro @iZ<|And.intro @iX<|And.intro @dB<|And.intro @bE<|And.intro @eD<|And.intro @iT<|And.intro @gW<|And.intro @iQ<|And.intro @gC<|
 And.intro @iR<|And.intro @iS<|And.intro @bY<|And.intro @eY<|And.intro @iV<|And.intro @iL<|And.intro @dV<|And.intro @gZ<|And.intro @fH<|And.intro @kD<|And.intro @gX<|
 And.intro @iF<|And.intro @iU<|And.intro @fC<|And.intro @eR<|And.intro @fA<|And.intro @iE<|And.intro @eX<|And.intro @dG @bQ
def Yp:=And.intro @HP<|And.intro @FX<|And.intro @KX<|And.intro @Ce<|And.intro @nH<|And.intro @Bl<|And.intro @Cd<|And.intro @fG<|And.intro @lG<|And.intro @HQ<|And.intro @HR<|And.intro @fT @iB
def Yo:=And.intro @bL<|And.intro @cM<|And.intro @bT<|And.intro @fL<|And.intro @gJ<|And.intro @heap_drew @size_drew
def Yn:=And.intro @dJ<|And.intro @fM<|And.intro @dY<|And.intro @dO<|And.intro @dS<|And.intro @dM<|And.intro @fF<|
 And.intro @eH<|And.intro @dX<|And.intro @dC<|And.intro @dH @cH
theorem wsv:type_of%Yl:=Yl
theorem wsg:type_of%Yp:=Yp
theorem wsh:type_of%Yo:=Yo
theorem wsl:type_of%Yn:=Yn
universe u
def Ym:=And.intro @bA.{u}<|And.intro @cN.{u}<|And.intro @bN.{u}<|And.intro @bG.{u}<|And.intro @bF.{u}<|And.intro @aB.{u}<|And.intro @aK.{u}<|And.intro @aM.{u}<|And.intro @aQ.{u}<|And.intro @aC.{u}<|And.intro @bO.{u}<|And.intro @aI @bJ
theorem kL:type_of%Ym.{u}:=Ym.{u}
end
end Go.Eng
namespace Go.Proofs.YtjblfcfdeaagpaaGreatDoor
section
open Go Go.Eng
variable{w:World}{K:Value->World->Prop}{cs:List Value}{G:Nat->Prop}{T:TypeId}{i:Nat}{n:Nat}{v:Value}{w':World}{P:Program}{c:UInt8}{S:Nat->Prop}
theorem mixed:Tryz.prog.follows .mixedOrders=true:=by kernel_rfl
end
end Go.Proofs.YtjblfcfdeaagpaaGreatDoor
namespace Go.Eng
section
open Go
inductive JV where
 |mk (k:Int) (b:Bool) (t:Str) (xs:List JV) (ks:List Str)
namespace JV
def k:JV->Int|.mk k _ _ _ _=>k
def b:JV->Bool|.mk _ b _ _ _=>b
def t:JV->Str|.mk _ _ t _ _=>t
def xs:JV->List JV|.mk _ _ _ xs _=>xs
def ks:JV->List Str|.mk _ _ _ _ ks=>ks
end JV
end
end Go.Eng
namespace Go.Num
section
open Go.Eng
variable{w:World}{K:Value->World->Prop}{cs:List Value}{G:Nat->Prop}{T:TypeId}{i:Nat}{n:Nat}{v:Value}{w':World}{P:Program}{c:UInt8}{S:Nat->Prop}
def isDig(c:UInt8):Bool:=decide (48<=c.toNat)&&decide (c.toNat<=57)
def dig(a:Str):Str:=match a with|[]=>[]|c::d=>if c=45 then d else c::d
def neg(a:Str):Bool:=a.head?==some 45
def goodN(a:Str):Bool:=decide (1<=(dig a).length)&&decide ((dig a).length<=100)&&(!((dig a).head?==some 48)||decide (a=[48]))&&(dig a).all isDig
def aAU(c:UInt8):Nat:=c.toNat-48
def dec(d:Str):Nat:=d.foldl (λn c=>n*10+aAU c) 0
def val:List Nat->Nat
 |[]=>0
 |x::r=>x+1000000000*val r
theorem IF{d:Str}(n:Nat)(h:d.all isDig=true):(d.take n).all isDig=true:=iD.2 λx hx=>iD.1 h x (List.mem_of_mem_take hx)
def num(a:Str):Int:=if neg a then-(dec (dig a):Int)else dec (dig a)
end
end Go.Num
namespace Go.Eng
section
open Go Go.Num
variable{w:World}{K:Value->World->Prop}{cs:List Value}{G:Nat->Prop}{T:TypeId}{i:Nat}{n:Nat}{v:Value}{w':World}{P:Program}{c:UInt8}{S:Nat->Prop}
theorem IF{α:Type}{p:α->Bool}{xs:List α}{x:α}(hi:xs[i]?=some x):(xs.take (i+1)).all p=((xs.take i).all p&&p x):=by
 rw[jT,hi];simp
theorem Xf{α:Type}{p:α->Bool}{xs:List α}{x:α}(hi:xs[i]?=some x)(h:p x=false):xs.all p=false:=by
 rw[List.all_eq_false];exact⟨x,bI hi,by simp[h]⟩
def insP:List (Str×JV)->Str->JV->List (Str×JV)
 |[],k,x=>[(k,x)]
 |(a,y)::r,k,x=>if Op.bytesLess k a then(k,x)::(a,y)::r else(a,y)::insP r k x
end
section
open Go
def lA(s:Str)(i:Nat):Int:=match s[i]? with|some b=>(b.toNat:Int)|none=>-1
def qL(s:Str)(i:Nat):Bool:=decide (128<=lA s i)&&decide (lA s i<192)
def kX(s:Str)(i:Nat):Nat:=
 let c:=lA s i
 if c<0 then 0 else if c<128 then 1
 else if 194<=c/\c<224/\qL s (i+1)=true then 2
 else if 224<=c/\c<240/\qL s (i+1)=true/\qL s (i+2)=true/\
  2048<=(c-224)*4096+(lA s (i+1)-128)*64+lA s (i+2)-128/\((c-224)*4096+(lA s (i+1)-128)*64+lA s (i+2)-128<55296\/57343<(c-224)*4096+(lA s (i+1)-128)*64+lA s (i+2)-128)then 3
 else if 240<=c/\c<245/\qL s (i+1)=true/\qL s (i+2)=true/\qL s (i+3)=true/\
  65536<=(c-240)*262144+(lA s (i+1)-128)*4096+(lA s (i+2)-128)*64+lA s (i+3)-128/\(c-240)*262144+(lA s (i+1)-128)*4096+(lA s (i+2)-128)*64+lA s (i+3)-128<=1114111 then 4
 else 0
def b8(n:Nat):UInt8:=UInt8.ofNat n
def wrM(n:Nat):Str:=
 if n<128 then [b8 n]else if n<2048 then [b8 (192+n/64),b8 (128+n%64)]
 else if n<65536 then [b8 (224+n/4096),b8 (128+n/64%64),b8 (128+n%64)]
 else [b8 (240+n/262144),b8 (128+n/4096%64),b8 (128+n/64%64),b8 (128+n%64)]
def aAQ(n:Nat):UInt8:=if n<10 then b8 (48+n)else b8 (87+n)
def aAS(c:UInt8):Str:=
 if c=34\/c=92 then [92,c]else if c=8 then [92,98]else if c=12 then [92,102]else if c=10 then [92,110]else if c=13 then [92,114]else if c=9 then [92,116]
 else if c<32 then [92,117,48,48,b8 (48+c.toNat/16),aAQ (c.toNat%16)]else [c]
def isDig(c:Int):Bool:=decide (48<=c)&&decide (c<=57)
def HT(c:Int):Int:=if 48<=c/\c<=57 then c-48 else if 97<=c/\c<=102 then c-87 else if 65<=c/\c<=70 then c-55 else-1
def WR(s:Str)(i:Nat):Int:=
 if i+6<=s.length/\lA s i=92/\lA s (i+1)=117/\0<=HT (lA s (i+2))/\0<=HT (lA s (i+3))/\0<=HT (lA s (i+4))/\0<=HT (lA s (i+5))then
  ((HT (lA s (i+2))*16+HT (lA s (i+3)))*16+HT (lA s (i+4)))*16+HT (lA s (i+5))else-1
def aAR(s:Str)(i:Nat):Option (Str×Nat):=
 let c:=lA s (i+1)
 if c=34 then some ([34],2)else if c=92 then some ([92],2)else if c=47 then some ([47],2)else if c=98 then some ([8],2)else if c=102 then some ([12],2)
 else if c=110 then some ([10],2)else if c=114 then some ([13],2)else if c=116 then some ([9],2)
 else
  let a:=WR s i
  let b:=WR s (i+6)
  if a<0\/56320<=a/\a<=57343 then none
  else if 55296<=a/\a<=56319 then(if b<56320\/57343<b then none else some (wrM (65536+(a-55296)*1024+b-56320).toNat,12))
  else some (wrM a.toNat,6)
end
section
open Go
variable{w:World}{K:Value->World->Prop}{cs:List Value}{G:Nat->Prop}{T:TypeId}{i:Nat}{n:Nat}{v:Value}{w':World}{P:Program}{c:UInt8}{S:Nat->Prop}
def bt(s:Str)(i:Nat):Nat:=(s.getD i 0).toNat
theorem Bb(s:Str)(i:Nat):bt s i<256:=pJ _
theorem pZ{s:Str}(h:i<s.length):lA s i=(bt s i:Int):=by
 unfold lA bt;rw[aG h,bR,aG h];rfl
theorem FL{s:Str}(h:s.length<=i):lA s i=-1:=by
 unfold lA;rw[eW h]
theorem get_bt(s:Str)(i:Nat):((ofL s).get! i).toNat=bt s i:=by
 unfold bt;congr 1;show(s.toArray)[i]! =s.getD i 0;rw[List.getElem!_toArray,List.getElem!_eq_getElem?_getD,bR];rfl
theorem KG(s:Str)(i:Nat):Utf8.decode (ofL s) i=Lib.decodeN (s.length-i) (bt s i) (bt s (i+1)) (bt s (i+2)) (bt s (i+3)):=by
 rw[Lib.decode_at,get_bt,get_bt,get_bt,get_bt,jV]
abbrev mor(L k b:Nat):Prop:=k<L/\128<=b/\b<192
abbrev c3(b0 b1 b2:Nat):Nat:=(b0-224)*4096+(b1-128)*64+(b2-128)
abbrev c4(b0 b1 b2 b3:Nat):Nat:=(b0-240)*262144+(b1-128)*4096+(b2-128)*64+(b3-128)
def Se(L b0 b1 b2 b3:Nat):Nat×Nat:=
 if b0<128 then(b0,1)
 else if 194<=b0/\b0<224/\mor L 1 b1 then((b0-192)*64+(b1-128),2)
 else if 224<=b0/\b0<240/\mor L 1 b1/\mor L 2 b2/\2048<=c3 b0 b1 b2/\(c3 b0 b1 b2<55296\/57343<c3 b0 b1 b2)then(c3 b0 b1 b2,3)
 else if 240<=b0/\b0<245/\mor L 1 b1/\mor L 2 b2/\mor L 3 b3/\65536<=c4 b0 b1 b2 b3/\c4 b0 b1 b2 b3<=1114111 then(c4 b0 b1 b2 b3,4)
 else(65533,1)
theorem Ii{L b0 b1 b2 b3:Nat}(h0:b0<256)(h1:b1<256)(h2:b2<256)(h3:b3<256):Lib.decodeN L b0 b1 b2 b3=Se L b0 b1 b2 b3:=by
 have m1:(1<L/\b1/64=2)↔mor L 1 b1:=by unfold mor;omega
 have m2:(2<L/\b2/64=2)↔mor L 2 b2:=by unfold mor;omega
 have m3:(3<L/\b3/64=2)↔mor L 3 b3:=by unfold mor;omega
 unfold Lib.decodeN Se;simp only[m1,m2,m3];by_cases a0:b0<128
 ·rw[aU a0,aU a0]
 rw[aL a0,aL a0];by_cases a1:b0<194
 ·rw[aL (show¬(194<=b0/\b0<224/\mor L 1 b1)fromλh=>by omega),aL (show¬(224<=b0/\b0<240/\_)fromλh=>by omega),aL (show¬(240<=b0/\b0<245/\_)fromλh=>by omega)];rw[aL (show¬(b0/16=14/\_)fromλh=>by omega),aL (show¬(b0/8=30/\_)fromλh=>by omega)];by_cases a2:b0/32=6/\mor L 1 b1
  ·rw[aU a2,aL (by omega)]
  ·rw[aL a2]
 by_cases a2:b0<224
 ·rw[aL (show¬(224<=b0/\b0<240/\_)fromλh=>by omega),aL (show¬(240<=b0/\b0<245/\_)fromλh=>by omega)];rw[aL (show¬(b0/16=14/\_)fromλh=>by omega),aL (show¬(b0/8=30/\_)fromλh=>by omega)];by_cases q:mor L 1 b1
  ·have q':=q;unfold mor at q';rw[aU ⟨by omega,q⟩,aU (by omega),aU ⟨by omega,a2,q⟩];apply jO
   ·show b0%32*64+b1%64=(b0-192)*64+(b1-128);omega
   ·rfl
  ·rw[aL (λh=>q h.2),aL (λh=>q h.2.2)]
 by_cases a3:b0<240
 ·rw[aL (show¬(194<=b0/\b0<224/\mor L 1 b1)fromλh=>by omega),aL (show¬(240<=b0/\b0<245/\_)fromλh=>by omega)];rw[aL (show¬(b0/32=6/\_)fromλh=>by omega),aL (show¬(b0/8=30/\_)fromλh=>by omega)];by_cases q:mor L 1 b1/\mor L 2 b2
  ·have q':=q;unfold mor at q';have e:b0%16*4096+b1%64*64+b2%64=c3 b0 b1 b2:=by unfold c3;omega
   have e2:c3 b0 b1 b2<=65535:=by unfold c3;omega
   rw[aU ⟨by omega,q.1,q.2⟩];simp only[e];by_cases r:2048<=c3 b0 b1 b2/\(c3 b0 b1 b2<55296\/57343<c3 b0 b1 b2)
   ·rw[aU ⟨r.1,by omega⟩,aU ⟨by omega,a3,q.1,q.2,r.1,r.2⟩]
   ·rw[aL (by omega),aL (λh=>r ⟨h.2.2.2.2.1,h.2.2.2.2.2⟩)]
  ·rw[aL (λh=>q ⟨h.2.1,h.2.2⟩),aL (λh=>q ⟨h.2.2.1,h.2.2.2.1⟩)]
 ·rw[aL (show¬(194<=b0/\b0<224/\mor L 1 b1)fromλh=>by omega),aL (show¬(224<=b0/\b0<240/\_)fromλh=>by omega)];rw[aL (show¬(b0/32=6/\_)fromλh=>by omega),aL (show¬(b0/16=14/\_)fromλh=>by omega)];by_cases q:mor L 1 b1/\mor L 2 b2/\mor L 3 b3
  ·have q':=q;unfold mor at q';by_cases a4:b0<248
   ·have e:b0%8*262144+b1%64*4096+b2%64*64+b3%64=c4 b0 b1 b2 b3:=by unfold c4;omega
    rw[aU ⟨by omega,q.1,q.2.1,q.2.2⟩];simp only[e];by_cases r:65536<=c4 b0 b1 b2 b3/\c4 b0 b1 b2 b3<=1114111
    ·rw[aU ⟨r.1,by omega⟩,aU ⟨by omega,by have:=r.2;unfold c4 at this;omega,q.1,q.2.1,q.2.2,r.1,r.2⟩]
    ·rw[aL (by omega),aL (λh=>r ⟨h.2.2.2.2.2.1,h.2.2.2.2.2.2⟩)]
   ·rw[aL (show¬(b0/8=30/\_)fromλh=>by omega),aL (show¬(240<=b0/\b0<245/\_)fromλh=>by omega)]
  ·rw[aL (λh=>q ⟨h.2.1,h.2.2.1,h.2.2.2⟩),aL (λh=>q ⟨h.2.2.1,h.2.2.2.1,h.2.2.2.2.1⟩)]
theorem LA{s:Str}{k:Nat}:qL s (i+k)=true↔mor (s.length-i) k (bt s (i+k)):=by
 unfold qL mor;rw[bU,decide_eq_true_iff,decide_eq_true_iff];rcases oM (i+k) s.length with h|h
 ·rw[pZ h];omega
 ·rw[FL h];omega
def Pd(L b0 b1 b2 b3:Nat):Nat:=
 if b0<128 then 1
 else if 194<=b0/\b0<224/\mor L 1 b1 then 2
 else if 224<=b0/\b0<240/\mor L 1 b1/\mor L 2 b2/\2048<=c3 b0 b1 b2/\(c3 b0 b1 b2<55296\/57343<c3 b0 b1 b2)then 3
 else if 240<=b0/\b0<245/\mor L 1 b1/\mor L 2 b2/\mor L 3 b3/\65536<=c4 b0 b1 b2 b3/\c4 b0 b1 b2 b3<=1114111 then 4
 else 0
set_option maxHeartbeats 4000000 in
theorem CS{s:Str}(h:i<s.length):kX s i=Pd (s.length-i) (bt s i) (bt s (i+1)) (bt s (i+2)) (bt s (i+3)):=by
 unfold kX Pd;simp only[LA,pZ h];by_cases h1:i+1<s.length
 ·by_cases h2:i+2<s.length
  ·by_cases h3:i+3<s.length
   ·simp only[pZ h1,pZ h2,pZ h3,mor,c3,c4]
    repeat' split
    all_goals first|rfl|(exfalso;omega)
   ·simp only[pZ h1,pZ h2,mor,c3,c4]
    repeat' split
    all_goals first|rfl|(exfalso;omega)
  ·simp only[pZ h1,mor,c3,c4]
   repeat' split
   all_goals first|rfl|(exfalso;omega)
 ·simp only[mor,c3,c4]
  repeat' split
  all_goals first|rfl|(exfalso;omega)
theorem UU(s:Str)(i:Nat)(h:i<s.length):UInt8.ofNat (bt s i)=s[i]:=by
 unfold bt;rw[bR,aG h];simp
theorem Ax{s:Str}(h:i<s.length):(s.drop i).take 1=[UInt8.ofNat (bt s i)]:=by
 rw[UU s i h,eB h];rfl
theorem sW{s:Str}(h:i<s.length):(s.drop i).take (n+1)=UInt8.ofNat (bt s i)::(s.drop (i+1)).take n:=by
 rw[UU s i h,eB h];rfl
set_option maxHeartbeats 4000000 in
theorem Hh{s:Str}(h:i<s.length)(h0:kX s i=0):Utf8.decode (ofL s) i=(65533,1):=by
 rw[KG,Ii (Bb _ _) (Bb _ _) (Bb _ _) (Bb _ _)];rw[CS h]at h0;unfold Pd at h0;unfold Se
 repeat' split at h0
 all_goals first|(exfalso;omega)|skip
 all_goals(repeat rw[aL (by assumption)])
structure OF(s:Str)(i n c:Nat):Prop where
 dec:Utf8.decode (ofL s) i=(c,n)
 fits:i+n<=s.length
 small:n<=4
 bytes:Lib.encodeRune c=(s.drop i).take n
 low:n=1->c=bt s i/\c<128
 high:2<=n->128<=c/\128<=bt s i
 top:c<=1114111
 val:c<55296\/57343<c
theorem yZ(l:List Int):(l.map λx=>x.toNat.toUInt8)=l.map λx=>UInt8.ofNat x.toNat:=rfl
set_option maxHeartbeats 8000000 in
theorem uP{s:Str}(h:i<s.length)(h0:kX s i≠0):∃c,OF s i (kX s i) c:=by
 have e:=KG s i;rw[Ii (Bb _ _) (Bb _ _) (Bb _ _) (Bb _ _)]at e;have hr:=CS h;have l0:=Bb s i;generalize hn:kX s i=n at*
 unfold Pd at hr;unfold Se at e;by_cases a1:bt s i<128
 ·rw[aU a1]at hr e;subst hr;refine⟨_,e,by omega,by omega,?_,λ_=>⟨rfl,a1⟩,λh=>by omega,by omega,by omega⟩;rw[Ax h,Lib.encodeRune,Lib.encodeRuneZ_one (by omega) (by omega)];simp
 rw[aL a1]at hr e;by_cases a2:194<=bt s i/\bt s i<224/\mor (s.length-i) 1 (bt s (i+1))
 ·rw[aU a2]at hr e;subst hr;obtain⟨a2,a3,a4,a5,a6⟩:=a2;refine⟨_,e,by omega,by omega,?_,λh=>by omega,λh=>by omega,by omega,by omega⟩;rw[sW h,Ax (by omega),Lib.encodeRune,Lib.encodeRuneZ_two (by omega) (by omega)];simp only[fW,kV,yZ];rw[show((192:Int)+(((bt s i-192)*64+(bt s (i+1)-128):Nat):Int)/64).toNat=bt s i by omega,show((128:Int)+(((bt s i-192)*64+(bt s (i+1)-128):Nat):Int)%64).toNat=bt s (i+1)by omega]
 rw[aL a2]at hr e;by_cases a3:224<=bt s i/\bt s i<240/\mor (s.length-i) 1 (bt s (i+1))/\mor (s.length-i) 2 (bt s (i+2))/\2048<=c3 (bt s i) (bt s (i+1)) (bt s (i+2))/\(c3 (bt s i) (bt s (i+1)) (bt s (i+2))<55296\/57343<c3 (bt s i) (bt s (i+1)) (bt s (i+2)))
 ·rw[aU a3]at hr e;subst hr;obtain⟨p1,p2,⟨p3,p4,p5⟩,⟨p6,p7,p8⟩,p9,p10⟩:=a3;have q3:c3 (bt s i) (bt s (i+1)) (bt s (i+2))=(bt s i-224)*4096+(bt s (i+1)-128)*64+(bt s (i+2)-128):=rfl;refine⟨_,e,by omega,by omega,?_,λh=>by omega,λh=>by omega,by omega,by omega⟩;rw[sW h,sW (by omega),Ax (by omega),Lib.encodeRune,Lib.encodeRuneZ_three (by omega)];simp only[fW,kV,yZ];rw[show((224:Int)+((c3 (bt s i) (bt s (i+1)) (bt s (i+2)):Nat):Int)/4096).toNat=bt s i by unfold c3;omega,show((128:Int)+((c3 (bt s i) (bt s (i+1)) (bt s (i+2)):Nat):Int)/64%64).toNat=bt s (i+1)by unfold c3;omega,show((128:Int)+((c3 (bt s i) (bt s (i+1)) (bt s (i+2)):Nat):Int)%64).toNat=bt s (i+2)by unfold c3;omega]
 rw[aL a3]at hr e;by_cases a4:240<=bt s i/\bt s i<245/\mor (s.length-i) 1 (bt s (i+1))/\mor (s.length-i) 2 (bt s (i+2))/\mor (s.length-i) 3 (bt s (i+3))/\65536<=c4 (bt s i) (bt s (i+1)) (bt s (i+2)) (bt s (i+3))/\c4 (bt s i) (bt s (i+1)) (bt s (i+2)) (bt s (i+3))<=1114111
 ·rw[aU a4]at hr e;subst hr;obtain⟨p1,p2,⟨p3,p4,p5⟩,⟨p6,p7,p8⟩,⟨p9,p10,p11⟩,p12,p13⟩:=a4;refine⟨_,e,by omega,by omega,?_,λh=>by omega,λh=>by omega,by omega,by omega⟩;rw[sW h,sW (by omega),sW (by omega),Ax (by omega),Lib.encodeRune,Lib.encodeRuneZ_four (by omega) (by omega)];simp only[fW,kV,yZ];rw[show((240:Int)+((c4 (bt s i) (bt s (i+1)) (bt s (i+2)) (bt s (i+3)):Nat):Int)/262144).toNat=bt s i by unfold c4;omega,show((128:Int)+((c4 (bt s i) (bt s (i+1)) (bt s (i+2)) (bt s (i+3)):Nat):Int)/4096%64).toNat=bt s (i+1)by unfold c4;omega,show((128:Int)+((c4 (bt s i) (bt s (i+1)) (bt s (i+2)) (bt s (i+3)):Nat):Int)/64%64).toNat=bt s (i+2)by unfold c4;omega,show((128:Int)+((c4 (bt s i) (bt s (i+1)) (bt s (i+2)) (bt s (i+3)):Nat):Int)%64).toNat=bt s (i+3)by unfold c4;omega]
 rw[aL a4]at hr;exact absurd hr h0
def xF(s:Str)(i:Nat):Nat:=max (kX s i) 1
theorem Og{s:Str}(h:i<s.length):(Utf8.decode (ofL s) i).2=xF s i:=by
 unfold xF;by_cases h0:kX s i=0
 ·rw[Hh h h0,h0];rfl
 ·obtain⟨c,hc⟩:=uP h h0;rw[hc.dec];show kX s i=max (kX s i) 1;omega
theorem Ld{s:Str}(h:i<s.length):i+xF s i<=s.length:=by
 unfold xF;by_cases h0:kX s i=0
 ·rw[h0];show i+1<=_;omega
 ·obtain⟨c,hc⟩:=uP h h0;have:=hc.fits;omega
theorem MK(s:Str)(i:Nat):1<=xF s i:=by unfold xF;omega
theorem rune_end{s:Str}(h:s.length<=i):kX s i=0:=by
 unfold kX;simp only[FL h];rfl
theorem UY(h:n<55296\/57343<n/\n<=1114111):Lib.encodeRune n=wrM n:=by
 unfold Lib.encodeRune wrM b8;by_cases h1:n<128
 ·rw[Lib.encodeRuneZ_one (by omega) (by omega),aU h1];simp
 rw[aL h1];by_cases h2:n<2048
 ·rw[Lib.encodeRuneZ_two (by omega) (by omega),aU h2];simp only[fW,kV,yZ];rw[show((192:Int)+(n:Int)/64).toNat=192+n/64 by omega,show((128:Int)+(n:Int)%64).toNat=128+n%64 by omega]
 rw[aL h2];by_cases h3:n<65536
 ·rw[Lib.encodeRuneZ_three (by omega),aU h3];simp only[fW,kV,yZ];rw[show((224:Int)+(n:Int)/4096).toNat=224+n/4096 by omega,show((128:Int)+(n:Int)/64%64).toNat=128+n/64%64 by omega,show((128:Int)+(n:Int)%64).toNat=128+n%64 by omega]
 ·rw[Lib.encodeRuneZ_four (by omega) (by omega),aL h3];simp only[fW,kV,yZ];rw[show((240:Int)+(n:Int)/262144).toNat=240+n/262144 by omega,show((128:Int)+(n:Int)/4096%64).toNat=128+n/4096%64 by omega,show((128:Int)+(n:Int)/64%64).toNat=128+n/64%64 by omega,show((128:Int)+(n:Int)%64).toNat=128+n%64 by omega]
end
end Go.Eng
namespace Go.Lex
section
open Go Go.Eng Go.Num
structure Tok where
 k:Int
 t:Str
 a:Int
deriving DecidableEq
def iM(c:UInt8):Bool:=(97<=c&&c<=122)||(65<=c&&c<=90)||c==95
def lK(c:UInt8):Bool:=48<=c&&c<=57
def jH(c:UInt8):Bool:=iM c||lK c||c==45
def gQ(p:UInt8->Bool):Str->Nat
 |[]=>0
 |c::r=>if p c then gQ p r+1 else 0
def qX(p s:Str):Bool:=p.isPrefixOf s
def jP:Nat->Str->Nat×Int
 |0,_=>(0,0)
 |_+1,[]=>(0,0)
 |n+1,c::r=>
  if c==32||c==9||c==13 then((jP n r).1+1,(jP n r).2)
  else if c==35||qX [47,47] (c::r)then
   let k:=gQ (λb=>b !=10) (c::r)
   ((jP n ((c::r).drop k)).1+k,(jP n ((c::r).drop k)).2)
  else if qX [47,42] (c::r)then
   let i:=Lib.index (r.drop 1) [42,47]
   if i<0 then(0,40)
   else((jP n ((c::r).drop (i.toNat+4))).1+(i.toNat+4),(jP n ((c::r).drop (i.toNat+4))).2)
  else(0,0)
def oY(k:Nat)(r:Nat×Int):Nat×Int:=if r.2=0 then(r.1+k,0)else(0,r.2)
def escOk(c:UInt8):Bool:=c==34||c==92||c==110||c==116||c==114||c==36
mutual
def qJ:Nat->Str->Nat->Nat×Int
 |0,_,_=>(0,40)
 |_+1,[],_=>(0,40)
 |n+1,c::r,d=>
  if c==34 then(1,0)
  else if c==10 then(0,40)
  else if c==92 then
   match r with
   |[]=>(0,40)
   |e::r'=>if escOk e then oY 2 (qJ n r' d)else(0,40)
  else if qX [36,123] (c::r)then
   if 24<d+1 then(0,7)
   else
    let i:=AT n (r.drop 1) (d+1)
    if i.2=0 then oY (i.1+2) (qJ n ((r.drop 1).drop i.1) d)else(0,i.2)
  else oY 1 (qJ n r d)
def AT:Nat->Str->Nat->Nat×Int
 |0,_,_=>(0,40)
 |_+1,[],_=>(0,40)
 |n+1,c::r,d=>
  if c==125 then(1,0)
  else if c==10 then(0,40)
  else if c==123 then
   if 24<d+1 then(0,7)
   else
    let i:=AT n r (d+1)
    if i.2=0 then oY (i.1+1) (AT n (r.drop i.1) d)else(0,i.2)
  else if c==34 then
   let i:=qJ n r d
   if i.2=0 then oY (i.1+1) (AT n (r.drop i.1) d)else(0,i.2)
  else oY 1 (AT n r d)
end
def lC:Str->Str
 |[]=>[]
 |c::r=>if c==92||c==34||c==36 then 92::c::lC r else if c==9 then 92::116::lC r else if c==13 then 92::114::lC r else c::lC r
def nD:Nat->Str->Str->Str×Nat×Int
 |0,_,_=>([],0,40)
 |n+1,name,s=>
  let k:=gQ (λb=>b !=10) s
  let line:=s.take k
  if line.drop (gQ (λb=>b==32||b==9) line)=name then([],k,0)
  else if s.length<=k then([],0,40)
  else
   let x:=nD n name (s.drop (k+1))
   if x.2.2=0 then(lC line++[92,110]++x.1,x.2.1+(k+1),0)else([],0,x.2.2)
def kI(s:Str):Str×Nat×Int:=
 let n:=if iM ((s.drop 2).headD 0)then gQ jH (s.drop 2)else 0
 if n=0 then([],0,40)
 else if(s.drop (2+n)).head?=some 10 then
  let x:=nD (s.length+1) ((s.drop 2).take n) (s.drop (2+n+1))
  if x.2.2=0 then(x.1,x.2.1+(2+n+1),0)else([],0,x.2.2)
 else([],0,40)
def vQ:List Str:=[[61,61],[33,61],[60,61],[62,61],[38,38],[124,124]]
def Bo:Str:=[123,125,91,93,40,41,61,43,45,42,47,37,60,62,33,63,58,44,46]
def rW(s:Str):Str:=
 if vQ.contains (s.take 2)then s.take 2 else if Bo.contains (s.headD 0)then s.take 1 else []
def oN(s:Str):Tok×Nat×Int:=
 let c:=s.headD 0
 if c==10 then(⟨5,[10],0⟩,1,0)
 else if iM c then
  let n:=gQ jH s
  (⟨1,s.take n,0⟩,n,if 32<n then 3 else 0)
 else if lK c then
  let n:=gQ lK s
  (⟨2,s.take n,0⟩,n,if(n<s.length&&iM ((s.drop n).headD 0))||(c==48&&1<n)then 40 else if goodN (s.take n)then 0 else 3)
 else if c==34 then
  let r:=qJ (s.length+1) (s.drop 1) 0
  if r.2=0 then(⟨3,(s.drop 1).take (r.1-1),0⟩,r.1+1,0)else(⟨0,[],0⟩,0,r.2)
 else if qX [60,60] s then
  let r:=kI s
  (⟨3,r.1,0⟩,r.2.1,r.2.2)
 else(⟨4,rW s,0⟩,(rW s).length,if(rW s).length=0 then 40 else 0)
def DW:Nat->Str->Nat->Option Nat
 |0,_,_=>none
 |n+1,s,i=>if s.length<=i then none else if kX s i=0 then some i else DW n s (i+xF s i)
inductive RS where
 |ok (l:List Tok)
 |bad (code at_:Int)
deriving DecidableEq
def nQ:Nat->Str->Nat->Nat->RS
 |0,_,_,_=>.bad 0 0
 |n+1,s,at_,cnt=>
  let k:=jP (s.length+1) s
  let r:=s.drop k.1
  if k.2≠0 then .bad k.2 (at_+k.1:Nat)
  else if r=[]then .ok [⟨0,[],(at_+k.1:Nat)⟩]
  else
   let o:=oN r
   if o.2.2≠0 then .bad o.2.2 (at_+k.1:Nat)
   else if cnt=4096 then .bad 3 (at_+k.1:Nat)
   else match nQ n (r.drop o.2.1) (at_+k.1+o.2.1) (cnt+1)with
    |.ok l=>.ok (⟨o.1.k,o.1.t,(at_+k.1:Nat)⟩::l)
    |x=>x
def nP(s:Str):RS:=
 if 16384<s.length then .bad 3 0
 else match DW (s.length+1) s 0 with
  |some i=>.bad 31 (i:Nat)
  |none=>nQ (s.length+1) s 0 0
end
end Go.Lex
namespace Go.Syn
section
open Go Go.Eng Go.Lex
structure Ex where
 k:Int
 t:Str
 args:List Nat
 keys:List Str
 a:Int
deriving DecidableEq
structure Atr where
 n:Str
 e:Nat
 a:Int
deriving DecidableEq
structure Blk where
 typ:Str
 labels:List Str
 attrs:List Atr
 blocks:List Nat
 a:Int
deriving DecidableEq
structure Fl where
 ex:List Ex
 bl:List Blk
 top:List Nat
deriving DecidableEq
structure PS where
 toks:List Tok
 i:Nat
 off:Int
 deep:Nat
 quiet:Bool
 ex:List Ex
 bl:List Blk
inductive R (α:Type) where
 |ok (x:α) (s:PS)
 |err (c a:Int)
def R.bind{α β:Type}(r:R α)(f:α->PS->R β):R β:=match r with
 |.ok x s=>f x s
 |.err c a=>.err c a
def kU:List Tok->Nat
 |[]=>0
 |t::r=>if t.k=5 then kU r+1 else 0
def bM(s:PS):PS:=if s.quiet=true then{s with i:=s.i+kU (s.toks.drop s.i)}else s
def nM(s:PS):Tok:=s.toks.getD s.i ⟨0,[],0⟩
def cur(s:PS):Tok:={nM (bM s)with a:=(nM (bM s)).a+s.off}
def step1(s:PS):PS:={s with i:=s.i+1}
def kY(s:PS):PS:=if(cur s).k≠0 then step1 (bM s)else bM s
def isS(s:PS)(w:Str):Bool:=decide ((cur s).k=4)&&decide ((cur s).t=w)
def cS(s:PS)(w:Str):Bool×PS:=if isS s w=true then(true,step1 (bM s))else(false,bM s)
def pK(s:PS)(w:Str):R Unit:=if isS s w=true then .ok () (step1 (bM s))else .err 50 (cur s).a
def nC(s:PS)(k:Int):R Tok:=if(cur s).k=k then .ok (cur s) (kY s)else .err 50 (cur s).a
def jE(s:PS):PS:={bM s with i:=(bM s).i+kU (s.toks.drop (bM s).i)}
def rX(s:PS)(e:Ex):R Nat:=.ok s.ex.length {s with ex:=s.ex++[e]}
def within{α:Type}(s:PS)(a:Int)(quiet:Bool)(f:PS->R α):R α:=
 if s.deep=24 then .err 7 a
 else(f {s with deep:=s.deep+1,quiet:=quiet}).bind λx s'=>.ok x {s' with deep:=s.deep,quiet:=s.quiet}
def jR:Str->Str
 |[]=>[]
 |[c]=>if c=92 then []else [c]
 |c::e::r=>if c=92 then(if e=110 then 10 else if e=116 then 9 else if e=114 then 13 else e)::jR r else c::jR (e::r)
mutual
def Be:Nat->Str->Int->Nat
 |0,_,_=>0
 |_+1,[],_=>0
 |n+1,c::r,d=>
  if c=123 then 1+Be n r (d+1)
  else if c=125 then(if d-1=0 then 1 else 1+Be n r (d-1))
  else if c=34 then(1+AG n r)+Be n (r.drop (AG n r)) d
  else 1+Be n r d
def AG:Nat->Str->Nat
 |0,_=>0
 |_+1,[]=>0
 |n+1,c::r=>
  if c=34 then 1
  else if c=92 then(match r with|[]=>1|_::r'=>2+AG n r')
  else if qX [36,123] (c::r)=true then(1+Be n r 0)+AG n (r.drop (Be n r 0))
  else 1+AG n r
end
def DN(s:Str):Nat:=Be (s.length+1) s 0
def insP:Str->Option (Nat×Nat)
 |[]=>none
 |[_]=>none
 |c::e::r=>
  if c=92 then(insP r).map λx=>(x.1+2,x.2+2)
  else if c=36/\e=123 then some (0,1+DN (e::r))
  else(insP (e::r)).map λx=>(x.1+1,x.2+1)
def qF(s:PS)(t:Tok):R Str:=if(insP t.t).isSome=true then .err 50 t.a else .ok (jR t.t) s
def pR(E:PS->R Nat)(s:PS)(t:Str)(a:Int):R Nat:=match nP t with
 |.bad c b=>.err c (a+b)
 |.ok l=>(E ⟨l,0,a,s.deep,false,s.ex,s.bl⟩).bind λx q=>(nC q 0).bind λ_ q'=>.ok x {s with ex:=q'.ex,bl:=q'.bl}
def oG(E:PS->R Nat):Nat->PS->Str->Int->List Nat->List Str->R (List Nat×List Str)
 |0,_,_,_,_,_=>.err 0 0
 |n+1,s,rest,a,us,ks=>
  if rest=[]then .ok (us,ks) s
  else match insP rest with
   |none=>.ok (us++[s.ex.length],ks++[[116]]) {s with ex:=s.ex++[⟨5,jR rest,[],[],a⟩]}
   |some (i,e)=>
    let s1:=if 0<i then{s with ex:=s.ex++[⟨5,jR (rest.take i),[],[],a⟩]}else s
    let as1:=if 0<i then us++[s.ex.length]else us
    let ks1:=if 0<i then ks++[[116]]else ks
    if i<e then
     (within s1 (a+i) false λq=>pR E q ((rest.drop (i+2)).take (e-1-(i+2))) (a+i+2)).bind λx s2=>oG E n s2 (rest.drop e) (a+e) (as1++[x]) (ks1++[[101]])
    else oG E n s1 (rest.drop e) (a+e) as1 ks1
def zN(E:PS->R Nat)(s:PS)(t:Tok):R Nat:=
 if(insP t.t).isSome=true then(oG E (t.t.length+1) s t.t (t.a+1) [] []).bind λx s'=>rX s' ⟨6,[],x.1,x.2,t.a⟩
 else rX s ⟨5,jR t.t,[],[],t.a⟩
def HO:Str:=[102,111,114]
def kIn:Str:=[105,110]
def rN(t:Str):Int:=if t=[110,117,108,108]then 1 else if t=[116,114,117,101]then 2 else if t=[102,97,108,115,101]then 3 else 9
def sF(E:PS->R Nat)(w:Str):Nat->PS->List Nat->R (List Nat)
 |0,_,_=>.err 0 0
 |n+1,s,out=>
  if(cS s w).1=true then .ok out (cS s w).2
  else if out=[]then(E (cS s w).2).bind λx s'=>sF E w n s' (out++[x])
  else(pK (cS s w).2 [44]).bind λ_ s1=>
   if(cS s1 w).1=true then .ok out (cS s1 w).2
   else(E (cS s1 w).2).bind λx s'=>sF E w n s' (out++[x])
def DX(E:PS->R Nat)(w:Str)(s:PS):R (List Nat):=sF E w (s.toks.length+1) s []
def zP(E:PS->R Nat)(s:PS)(a:Int):R Ex:=
 let s1:=step1 s
 if(cur s1).k≠1\/(cur s1).t≠HO then(DX E [93] (bM s1)).bind λus s'=>.ok ⟨7,[],us,[],a⟩ s'
 else(nC (step1 (bM s1)) 1).bind λt s2=>(nC s2 1).bind λu s3=>
  if u.t≠kIn then .err 50 u.a
  else(E s3).bind λx s4=>(pK s4 [58]).bind λ_ s5=>(E s5).bind λy s6=>(pK s6 [93]).bind λ_ s7=>.ok ⟨29,t.t,[x,y],[],a⟩ s7
def Ch(E:PS->R Nat)(a:Int):Nat->PS->List Nat->List Str->R Ex
 |0,_,_,_=>.err 0 0
 |n+1,s,us,ks=>
  if(cS s [125]).1=true then .ok ⟨8,[],us,ks,a⟩ (cS s [125]).2
  else
   let s1:=(cS s [125]).2
   let t:=cur s1
   let s2:=kY s1
   (if t.k=3 then qF s2 t else if t.k=1 then .ok t.t s2 else .err 50 t.a).bind λk s3=>
     if ks.contains k=true then .err 2 t.a
     else(pK s3 [61]).bind λ_ s4=>(E s4).bind λx s5=>
      if(cS s5 [44]).1=false/\(cur (cS s5 [44]).2).k≠5/\isS (bM (cS s5 [44]).2) [125]=false then .err 50 (cur (bM (cS s5 [44]).2)).a
      else Ch E a n (jE (if(cS s5 [44]).1=true then(cS s5 [44]).2 else bM (cS s5 [44]).2)) (us++[x]) (ks++[k])
def HD(E:PS->R Nat)(s:PS)(a:Int):R Ex:=Ch E a (s.toks.length+1) (jE (step1 s)) [] []
def yG(E:PS->R Nat)(s:PS):R Nat:=
 let t:=cur s
 let s1:=bM s
 if t.k=2 then rX (step1 s1) ⟨4,t.t,[],[],t.a⟩
 else if t.k=3 then zN E (step1 s1) t
 else if t.k=1/\t.t≠HO then
  if isS (step1 s1) [40]=true then
   (within (bM (step1 s1)) (cur (step1 s1)).a true λq=>DX E [41] (step1 q)).bind λus s2=>rX s2 ⟨12,t.t,us,[],t.a⟩
  else rX (bM (step1 s1)) ⟨rN t.t,if rN t.t=9 then t.t else [],[],[],t.a⟩
 else if isS s1 [40]=true then within s1 t.a true λq=>(E (step1 q)).bind λx q1=>(pK q1 [41]).bind λ_ q2=>.ok x q2
 else if isS s1 [91]=true then(within s1 t.a true λq=>zP E q t.a).bind λe s2=>rX s2 e
 else if isS s1 [123]=true then(within s1 t.a false λq=>HD E q t.a).bind λe s2=>rX s2 e
 else .err 50 t.a
def rC(E:PS->R Nat):Nat->PS->Nat->R Nat
 |0,_,_=>.err 0 0
 |n+1,s,x=>
  let t:=cur s
  let s1:=bM s
  if(cS s1 [46]).1=true then(nC (cS s1 [46]).2 1).bind λu s2=>(rX s2 ⟨10,u.t,[x],[],t.a⟩).bind λy s3=>rC E n s3 y
  else if isS s1 [91]=true then
   (within s1 t.a true λq=>
     if(cS (step1 q) [42]).1=true then(pK (cS (step1 q) [42]).2 [93]).bind λ_ q2=>.ok none q2
     else(E (cS (step1 q) [42]).2).bind λy q1=>(pK q1 [93]).bind λ_ q2=>.ok (some y) q2).bind λo s2=>
     match o with
     |some y=>(rX s2 ⟨11,[],[x,y],[],t.a⟩).bind λz s3=>rC E n s3 z
     |none=>(pK s2 [46]).bind λ_ s3=>(nC s3 1).bind λu s4=>(rX s4 ⟨30,u.t,[x],[],t.a⟩).bind λz s5=>rC E n s5 z
  else .ok x s1
def BN(E:PS->R Nat)(s:PS):R Nat:=(yG E s).bind λx s1=>rC E (s.toks.length+1) s1 x
def wP(E S:PS->R Nat)(s:PS):R Nat:=
 let t:=cur s
 let s1:=bM s
 if isS s1 [33]=true then(within s1 t.a s1.quiet λq=>S (step1 q)).bind λx s2=>rX s2 ⟨14,[],[x],[],t.a⟩
 else if isS s1 [45]=true then(within s1 t.a s1.quiet λq=>S (step1 q)).bind λx s2=>rX s2 ⟨13,[],[x],[],t.a⟩
 else BN E s1
def Fe(n:Nat)(w:Str):Int:=
 if n=0 then(if w=[124,124]then 27 else 0)
 else if n=1 then(if w=[38,38]then 26 else 0)
 else if n=2 then(if w=[61,61]then 20 else if w=[33,61]then 21 else 0)
 else if n=3 then(if w=[60]then 22 else if w=[62]then 23 else if w=[60,61]then 24 else if w=[62,61]then 25 else 0)
 else if n=4 then(if w=[43]then 15 else if w=[45]then 16 else 0)
 else if n=5 then(if w=[42]then 17 else if w=[47]then 18 else if w=[37]then 19 else 0)
 else 0
def rO(t:Tok)(n:Nat):Int:=if t.k=4 then Fe n t.t else 0
def wQ(J:PS->R Nat)(n:Nat):Nat->PS->Nat->R Nat
 |0,_,_=>.err 0 0
 |f+1,s,a=>
  let t:=cur s
  if rO t n=0 then .ok a (bM s)
  else(J (step1 (bM s))).bind λb s1=>(rX s1 ⟨rO t n,[],[a,b],[],t.a⟩).bind λx s2=>wQ J n f s2 x
def rZ(E S:PS->R Nat):Nat->PS->R Nat
 |0=>wP E S
 |m+1=>λs=>(rZ E S m s).bind λa s1=>wQ (rZ E S m) (5-m) (s.toks.length+1) s1 a
def zT(E S:PS->R Nat)(s:PS):R Nat:=(rZ E S 6 s).bind λa s1=>
 let t:=cur s1
 if(cS s1 [63]).1=true then
  (within (cS s1 [63]).2 t.a (cS s1 [63]).2.quiet λq=>(E q).bind λx q1=>(pK q1 [58]).bind λ_ q2=>(E q2).bind λy q3=>.ok (x,y) q3).bind λz s2=>rX s2 ⟨28,[],[a,z.1,z.2],[],t.a⟩
 else .ok a (cS s1 [63]).2
def dead:PS->R Nat:=λ_=>.err 0 0
def sB:Nat->(PS->R Nat)×(PS->R Nat)
 |0=>(zT dead dead,wP dead dead)
 |d+1=>(zT (sB d).1 (sB d).2,wP (sB d).1 (sB d).2)
def qR:Nat->PS->List Str->R (List Str)
 |0,_,_=>.err 0 0
 |n+1,s,ls=>
  if(cur s).k=3 then(qF (kY s) (cur s)).bind λl s1=>qR n s1 (ls++[l])
  else .ok ls (bM s)
def zR(E B:PS->R Nat)(s:PS)(us:List Atr)(bs:List Nat):R (List Atr×List Nat):=(nC s 1).bind λt s1=>
 if(cS s1 [61]).1=true then(E (cS s1 [61]).2).bind λx s2=>.ok (us++[⟨t.t,x,t.a⟩],bs) s2
 else(B {(cS s1 [61]).2 with i:=(cS s1 [61]).2.i-1}).bind λx s2=>.ok (us,bs++[x]) s2
def qT(E B:PS->R Nat):Nat->PS->List Atr->List Nat->R (List Atr×List Nat)
 |0,_,_,_=>.err 0 0
 |n+1,s,us,bs=>
  if(cS s [125]).1=true then .ok (us,bs) (cS s [125]).2
  else(zR E B (cS s [125]).2 us bs).bind λx s1=>
   if(cur s1).k≠5/\isS (bM s1) [125]=false then .err 50 (cur (bM s1)).a
   else qT E B n (jE (bM s1)) x.1 x.2
def uH(E B:PS->R Nat)(s:PS):R Nat:=(nC s 1).bind λt s1=>(qR (s.toks.length+1) s1 []).bind λls s2=>
 if isS s2 [123]=false then .err 50 (cur s2).a
 else(within (bM s2) (cur s2).a false λq=>qT E B (s.toks.length+1) (jE (step1 q)) [] []).bind λx s3=>
  .ok s3.bl.length {s3 with bl:=s3.bl++[⟨t.t,ls,x.1,x.2,t.a⟩]}
def yE:Nat->PS->R Nat
 |0=>uH dead dead
 |d+1=>uH (sB d).1 (yE d)
def zG:Nat->PS->List Nat->R (List Nat)
 |0,_,_=>.err 0 0
 |n+1,s,top=>
  if(cur s).k=0 then .ok top (bM s)
  else(yE 24 (bM s)).bind λx s1=>
   if(cur s1).k≠5/\(cur s1).k≠0 then .err 50 (cur (bM s1)).a
   else zG n (jE (bM s1)) (top++[x])
inductive PR where
 |ok (f:Fl)
 |bad (c a:Int)
deriving DecidableEq
def pO(s:Str):PR:=match nP s with
 |.bad c a=>.bad c a
 |.ok l=>match zG (l.length+1) (jE ⟨l,0,0,0,false,[],[]⟩) []with
  |.ok top s'=>.ok ⟨s'.ex,s'.bl,top⟩
  |.err c a=>.bad c a
end
end Go.Syn
namespace Go.Proofs.YtjblfcfdeaagpaaGreatDoor
section
open Go Go.Eng Go.RowKit Go.Syn Go.Lex
variable{w:World}{K:Value->World->Prop}{cs:List Value}{G:Nat->Prop}{T:TypeId}{i:Nat}{n:Nat}{v:Value}{w':World}{P:Program}{c:UInt8}{S:Nat->Prop}
abbrev TkT:TypeId:=95
abbrev ExT:TypeId:=35
abbrev AtT:TypeId:=40
abbrev BkT:TypeId:=38
abbrev FlT:TypeId:=28
abbrev PsT:TypeId:=92
abbrev jY:TypeId:=3
abbrev StT:TypeId:=9
theorem YT:qW Tryz.prog 24 ExT 5 80:=⟨by kernel_rfl,by kernel_rfl,by decide⟩
theorem YV:qW Tryz.prog 25 BkT 5 96:=⟨by kernel_rfl,by kernel_rfl,by decide⟩
theorem Ie:qW Tryz.prog 36 AtT 3 32:=⟨by kernel_rfl,by kernel_rfl,by decide⟩
theorem Aj:qW Tryz.prog 26 jY 1 8:=⟨by kernel_rfl,by kernel_rfl,by decide⟩
theorem Fy:qW Tryz.prog 33 StT 1 16:=⟨by kernel_rfl,by kernel_rfl,by decide⟩
theorem UM:qW Tryz.prog 86 TkT 3 32:=⟨by kernel_rfl,by kernel_rfl,by decide⟩
def ints(l:List Nat):List Value:=l.map λn=>i64 (n:Nat)
def strs(l:List Str):List Value:=l.map str
def kK(l:List Atr):List Value:=l.flatMap λa=>[str a.n,i64 (a.e:Nat),i64 a.a]
def toks(l:List Tok):List Value:=l.flatMap λt=>[i64 t.k,str t.t,i64 t.a]
theorem tL(l:List Nat):(ints l).length=l.length*1:=by simp[ints]
theorem tC(l:List Str):(strs l).length=l.length*1:=by simp[strs]
theorem Dp(a b:List Nat):ints (a++b)=ints a++ints b:=by simp[ints]
theorem Ay(a b:List Str):strs (a++b)=strs a++strs b:=by simp[strs]
theorem Bf(a b:List Atr):kK (a++b)=kK a++kK b:=by simp[kK]
theorem yX{α:Type}(f:α->List Value)(h:∀a,(f a).length=3):∀l:List α,(l.flatMap f).length=l.length*3
 |[]=>rfl
 |a::l=>by rw[gL,aP,h,yX f h l,aB];omega
theorem sE(l:List Atr):(kK l).length=l.length*3:=yX _ (λ_=>rfl) l
theorem CM(l:List Tok):(toks l).length=l.length*3:=yX _ (λ_=>rfl) l
theorem yY{α:Type}(f:α->List Value)(h:∀a,(f a).length=3):∀(l:List α) (i j:Nat) (x:α),l[i]?=some x->j<3->(l.flatMap f)[i*3+j]?=(f x)[j]?
 |[],i,_,_,hi,_=>by simp at hi
 |a::l,0,j,x,hi,hj=>by
  simp only[bG,bA]at hi
  subst hi
  rw[gL,fQ (by rw[h];omega),Ef,aI]
 |a::l,i+1,j,x,hi,hj=>by
  rw[bF]at hi
  rw[gL,fU (by rw[h];omega),h,show(i+1)*3+j-3=i*3+j by omega]
  exact yY f h l i j x hi hj
theorem GX{l:List Tok}{j:Nat}{t:Tok}(h:l[i]?=some t)(hj:j<3):(toks l)[i*3+j]?=[i64 t.k,str t.t,i64 t.a][j]?:=yY _ (λ_=>rfl) l i j t h hj
def kO{α:Type}(R:α->List Value->Prop)(n:Nat)(xs:List α)(c:List Value):Prop:=c.length=xs.length*n/\∀i x,xs[i]?=some x->R x ((c.drop (i*n)).take n)
theorem kO.nil{α:Type}(R:α->List Value->Prop)(n:Nat):kO R n [] []:=⟨by simp,λi x h=>by simp at h⟩
theorem kO.snoc{α:Type}{R:α->List Value->Prop}{xs:List α}{c d:List Value}{x:α}(h:kO R n xs c)(hd:R x d)(hl:d.length=n):kO R n (xs++[x]) (c++d):=by
 refine⟨by rw[aP,h.1,hl,aP,aB,aK,mM];omega,λi y hy=>?_⟩;by_cases hi:i<xs.length
 ·rw[fQ hi]at hy;have:=h.2 i y hy;have hm:i*n+n<=xs.length*n:=by rw[<-Nat.succ_mul];exact fB _ hi
  rw[BJ (by rw[h.1];omega),BI (by rw[aX,h.1];omega)];exact this
 ·rw[fU (by omega)]at hy;have h0:i-xs.length=0:=by
   by_cases h0:i-xs.length=0
   ·exact h0
   ·rw[eW (by simp;omega)]at hy;cases hy
  obtain rfl:i=xs.length:=by omega
  rw[h0]at hy;simp only[bG,bA]at hy;subst hy;rw[<-h.1,List.drop_left,iH (by omega)];exact hd
theorem kO.imp{α:Type}{R R':α->List Value->Prop}{xs:List α}{c:List Value}(h:kO R n xs c)(hi:∀x d,(∀v∈d,v∈c)->R x d->R' x d):kO R' n xs c:=
 ⟨h.1,λi x hx=>hi x _ (λv hv=>List.mem_of_mem_drop (List.mem_of_mem_take hv)) (h.2 i x hx)⟩
def ub(c:List Value):List Nat:=c.filterMap Value.ownBlock
theorem nL(a b:List Value):ub (a++b)=ub a++ub b:=List.filterMap_append
theorem eF{c:List Value}{k:Nat}(hv:v∈c)(hk:v.ownBlock=some k):k∈ub c:=bZ.2 ⟨v,hv,hk⟩
theorem jW{k:Nat}:k∈ub [v]↔v.ownBlock=some k:=by simp[ub]
structure Lay where
 vE:Value
 vB:Value
 vT:Value
 cE:List Value
 cB:List Value
def Lay.uses(M:Lay)(f:Nat):List Nat:=f::ub ([M.vE,M.vB,M.vT]++(M.cE++M.cB))
def ExR(w:World)(B:Nat)(e:Ex)(c:List Value):Prop:=
 ∃va vk,c=[i64 e.k,str e.t,va,vk,i64 e.a]/\Own w B jY 1 va e.args.length (ints e.args)/\Own w B StT 1 vk e.keys.length (strs e.keys)
def BkR(w:World)(B:Nat)(b:Blk)(c:List Value):Prop:=
 ∃vl va vb,c=[str b.typ,vl,va,vb,i64 b.a]/\Own w B StT 1 vl b.labels.length (strs b.labels)/\Own w B AtT 3 va b.attrs.length (kK b.attrs)/\Own w B jY 1 vb b.blocks.length (ints b.blocks)
theorem eG{B:Nat}{e:TypeId}{m:Nat}{xs:List Value}(h:Own w B e m v n xs)(hc:Chg S w w')(hS:∀k,v.ownBlock=some k->¬S k):Own w' B e m v n xs:=by
 obtain⟨hl,hn|⟨g,cap,cur,rfl,hb,hg,r⟩⟩:=h
 ·exact⟨hl,.inl hn⟩
 ·exact⟨hl,.inr ⟨g,cap,cur,rfl,hb,hc.at hg (hS g rfl),r⟩⟩
theorem kJ{B:Nat}{e:TypeId}{m:Nat}{xs:List Value}(h:Own w B e m v n xs){k:Nat}(hk:v.ownBlock=some k):k<w.heap.size/\B<=k:=by
 obtain⟨h1,c,h2⟩:=h.block k hk;exact⟨mB h2,h1⟩
theorem ExR.at_{B:Nat}{e:Ex}{c:List Value}(h:ExR w B e c)(hc:Chg S w w')(hS:∀k∈ub c,¬S k):ExR w' B e c:=by
 obtain⟨va,vk,rfl,h1,h2⟩:=h;exact⟨va,vk,rfl,eG h1 hc λk hk=>hS k (eF (v:=va) (by simp) hk),eG h2 hc λk hk=>hS k (eF (v:=vk) (by simp) hk)⟩
theorem BkR.at_{B:Nat}{e:Blk}{c:List Value}(h:BkR w B e c)(hc:Chg S w w')(hS:∀k∈ub c,¬S k):BkR w' B e c:=by
 obtain⟨vl,va,vb,rfl,h1,h2,h3⟩:=h;exact⟨vl,va,vb,rfl,eG h1 hc λk hk=>hS k (eF (v:=vl) (by simp) hk),eG h2 hc λk hk=>hS k (eF (v:=va) (by simp) hk),eG h3 hc λk hk=>hS k (eF (v:=vb) (by simp) hk)⟩
theorem CL{c d:List Value}(h:∀v∈d,v∈c):∀k∈ub d,k∈ub c:=by
 intro k hk;obtain⟨v,hv,hk⟩:=bZ.1 hk;exact eF (h v hv) hk
structure FR(w:World)(B f:Nat)(M:Lay)(ex:List Ex)(bl:List Blk)(top:List Nat):Prop where
 hf:w.heap[f]?=some (.cells [M.vE,M.vB,M.vT].toArray FlT (0,0))
 oE:Own w B ExT 5 M.vE ex.length M.cE
 oB:Own w B BkT 5 M.vB bl.length M.cB
 oT:Own w B jY 1 M.vT top.length (ints top)
 ee:kO (ExR w B) 5 ex M.cE
 bb:kO (BkR w B) 5 bl M.cB
 nd:(M.uses f).Nodup
 lt:∀k∈M.uses f,k<w.heap.size
 lo:∀k∈M.uses f,k=f\/B<=k
theorem FR.keep{B f:Nat}{M:Lay}{ex:List Ex}{bl:List Blk}{top:List Nat}(h:FR w B f M ex bl top)(hc:Chg S w w')(hS:∀k∈M.uses f,¬S k):FR w' B f M ex bl top:=by
 have hu:∀v∈[M.vE,M.vB,M.vT]++(M.cE++M.cB),∀k,v.ownBlock=some k->¬S k:=λv hv k hk=>hS k (aD _ (eF hv hk));refine⟨hc.at h.hf (hS f aW),eG h.oE hc (hu _ (by simp)),eG h.oB hc (hu _ (by simp)),eG h.oT hc (hu _ (by simp)),?_,?_,h.nd,λk hk=>dD (h.lt k hk) hc.size,h.lo⟩
 ·refine h.ee.imp λx d hd hx=>hx.at_ hc λk hk=>?_;exact hS k (aD _ (CL (λv hv=>by simp[hd v hv]) k hk))
 ·refine h.bb.imp λx d hd hx=>hx.at_ hc λk hk=>?_;exact hS k (aD _ (CL (λv hv=>by simp[hd v hv]) k hk))
abbrev Of(f:Nat):Nat->Prop:=λk=>k=f
abbrev One(b:Nat):Nat->Prop:=λk=>k=b
structure PR(w0 w:World)(p f:Nat)(M:Lay)(vt:Value)(s:PS)(top:List Nat):Prop where
 ch:Chg (Of f) w0 w
 fr:FR w w0.heap.size f M s.ex s.bl top
 ps:w.heap[p]?=some (.cells [vt,i64 (s.i:Nat),i64 s.off,.pointer (some ⟨f,0,none⟩),i64 (s.deep:Nat),.bool s.quiet].toArray PsT (0,0))
 tk:SlAt w TkT vt s.toks.length (toks s.toks)
 np:p∉M.uses f
 lo:w0.heap.size<=p
 nt:∀k,vt.ownBlock=some k->k∉M.uses f/\k≠p/\k<w.heap.size
section
variable{w0 w w' w1 w2:World}{p f b k:Nat}{M M' M1 M2:Lay}{vt:Value}{s:PS}{top:List Nat}
theorem PR.lt(h:PR w0 w p f M vt s top):p<w.heap.size:=mB h.ps
theorem PR.base(h:PR w0 w p f M vt s top):w0.heap.size<=w.heap.size:=h.ch.size
def Tn(p f:Nat)(M:Lay)(k:Nat):Prop:=k=p\/k=f\/M.vE.ownBlock=some k\/M.vB.ownBlock=some k
structure Eff(p f:Nat)(M M':Lay)(w w':World):Prop where
 chg:Chg (Tn p f M) w w'
 us:∀k∈M'.uses f,k∈M.uses f\/w.heap.size<=k
 hE:∀k,M'.vE.ownBlock=some k->M.vE.ownBlock=some k\/w.heap.size<=k
 hB:∀k,M'.vB.ownBlock=some k->M.vB.ownBlock=some k\/w.heap.size<=k
 hT:M'.vT=M.vT
theorem Eff.of(h:Chg (Tn p f M) w w'):Eff p f M M w w':=⟨h,λ_ h=>.inl h,λ_ h=>.inl h,λ_ h=>.inl h,rfl⟩
theorem Eff.refl(p f:Nat)(M:Lay)(w:World):Eff p f M M w w:=Eff.of (Chg.refl _ _)
theorem Eff.ext(h:Ext w w'):Eff p f M M w w':=Eff.of (Chg.of_ext h)
theorem Eff.trans(h:Eff p f M M1 w w1)(h':Eff p f M1 M2 w1 w2):Eff p f M M2 w w2:=by
 have hz:=h.chg.size;refine⟨h.chg.then h'.chg λk hk e=>?_,λk hk=>?_,λk hk=>?_,λk hk=>?_,h'.hT.trans h.hT⟩
 ·rcases e with e|e|e|e
  ·exact .inl e
  ·exact .inr (.inl e)
  ·exact .inr (.inr (.inl ((h.hE k e).resolve_right (by omega))))
  ·exact .inr (.inr (.inr ((h.hB k e).resolve_right (by omega))))
 ·exact(h'.us k hk).elim (h.us k) λe=>.inr (by omega)
 ·exact(h'.hE k hk).elim (h.hE k) λe=>.inr (by omega)
 ·exact(h'.hB k hk).elim (h.hB k) λe=>.inr (by omega)
theorem Eff.then(h:Eff p f M M1 w w1)(hc:Chg S w1 w2)(hS:∀k,k<w.heap.size->¬S k):Eff p f M M1 w w2:=⟨h.chg.then hc λk hk e=>(hS k hk e).elim,h.us,h.hE,h.hB,h.hT⟩
theorem Eff.x(h:Eff p f M M1 w w1)(hc:Ext w1 w2):Eff p f M M1 w w2:=h.then hc λ_ _ e=>e
theorem Eff.one(h:Eff p f M M1 w w1)(hc:Chg (One b) w1 w2)(hb:w.heap.size<=b):Eff p f M M1 w w2:=h.then hc λk hk e=>by have e:k=b:=e;omega
theorem Eff.anew{q:Nat}(hx:Ext w0 w)(h:Eff q f M M' w w')(hq:w0.heap.size<=q):Eff p f M M' w0 w':=by
 have hz:=hx.size;refine⟨(Chg.of_ext hx).then h.chg λk hk e=>?_,λk hk=>(h.us k hk).imp id (by omega),λk hk=>(h.hE k hk).imp id (by omega),λk hk=>(h.hB k hk).imp id (by omega),h.hT⟩;rcases e with e|e|e|e
 ·omega
 ·exact .inr (.inl e)
 ·exact .inr (.inr (.inl e))
 ·exact .inr (.inr (.inr e))
theorem IM(h:Tn p f M k):k=p\/k∈M.uses f:=by
 rcases h with h|h|h|h
 ·exact .inl h
 ·exact .inr (by subst h;exact aW)
 ·exact .inr (aD _ (eF (v:=M.vE) (by simp) h))
 ·exact .inr (aD _ (eF (v:=M.vB) (by simp) h))
def Off(w0 w:World)(p f:Nat)(M:Lay)(vt:Value)(k:Nat):Prop:=(w0.heap.size<=k/\k<w.heap.size)/\k≠p/\k∉M.uses f/\vt.ownBlock≠some k
theorem Off.no(h:Off w0 w p f M vt k):¬Tn p f M k:=λe=>(IM e).elim h.2.1 h.2.2.1
theorem Off.eff(h:Off w0 w p f M vt k)(he:Eff p f M M' w w'):Off w0 w' p f M' vt k:=
 ⟨⟨h.1.1,dD h.1.2 he.chg.size⟩,h.2.1,λe=>(he.us k e).elim h.2.2.1 λe=>by have:=h.1.2;omega,h.2.2.2⟩
theorem Off.up(h:Off w0 w p f M vt k)(hz:w.heap.size<=w'.heap.size):Off w0 w' p f M vt k:=⟨⟨h.1.1,dD h.1.2 hz⟩,h.2⟩
theorem PR.off_new(h:PR w0 w p f M vt s top)(hk:w.heap.size<=k)(hk':k<w'.heap.size):Off w0 w' p f M vt k:=
 ⟨⟨dR h.base hk,hk'⟩,λe=>by have:=h.lt;omega,λe=>by have:=h.fr.lt k e;omega,λe=>by have:=(h.nt k e).2.2;omega⟩
theorem Eff.at_{o:Obj}(he:Eff p f M M' w w')(hk:w.heap[k]?=some o)(h:Off w0 w p f M vt k):w'.heap[k]?=some o:=he.chg.at hk h.no
theorem Eff.own{B:Nat}{e:TypeId}{m:Nat}{xs:List Value}(he:Eff p f M M' w w')(h:Own w B e m v n xs)(ho:∀k,v.ownBlock=some k->Off w0 w p f M vt k):Own w' B e m v n xs:=eG h he.chg λk hk=>(ho k hk).no
theorem PR.keep(h:PR w0 w p f M vt s top)(hc:Chg S w w')(hb:∀k,k<w0.heap.size->¬S k)(hS:∀k∈M.uses f,¬S k)(hp:¬S p)(ht:∀k,vt.ownBlock=some k->¬S k):PR w0 w' p f M vt s top:=by
 refine⟨h.ch.then hc λk hk e=>(hb k hk e).elim,h.fr.keep hc hS,hc.at h.ps hp,?_,h.np,h.lo,λk hk=>⟨(h.nt k hk).1,(h.nt k hk).2.1,dD (h.nt k hk).2.2 hc.size⟩⟩;obtain⟨q,cap,hv,h1,h2,h3⟩:=h.tk;refine⟨q,cap,hv,h1,h2,λhne=>?_⟩;obtain⟨b,off,c,fr,hq,hb,hcs⟩:=h3 hne;exact⟨b,off,c,fr,hq,hc.at hb (ht b (by rw[hv,hq];rfl)),hcs⟩
theorem PR.ext(h:PR w0 w p f M vt s top)(hc:Ext w w'):PR w0 w' p f M vt s top:=h.keep hc (λ_ _ e=>e) (λ_ _ e=>e) (λe=>e) λ_ _ e=>e
theorem cQ(w:World):Ext w w.drew:=Chg.drew (Chg.refl _ _)
theorem PR.drew(h:PR w0 w p f M vt s top):PR w0 w.drew p f M vt s top:=h.ext (cQ w)
theorem PR.one{w3:World}(h:PR w0 w p f M vt s top)(hc:Chg (One b) w w')(ho:Off w0 w3 p f M vt b):PR w0 w' p f M vt s top:=
 h.keep hc (λk hk e=>by have e:k=b:=e;have:=ho.1.1;omega) (λk hk e=>ho.2.2.1 (by have e:k=b:=e;exact e▸hk)) (λe=>ho.2.1 e.symm) λk hk e=>ho.2.2.2 (by have e:k=b:=e;rw[hk,e])
theorem PR.ld{off:Nat}{K:Value->Prop}(h:PR w0 w p f M vt s top)(hv:[vt,i64 (s.i:Nat),i64 s.off,.pointer (some ⟨f,0,none⟩),i64 (s.deep:Nat),.bool s.quiet][off]?=some v)(hk:K v):
  eC (.pointer (some ⟨p,0,none⟩)) λt=>aR off t λt=>ldW false 1 t w K:=by
 rw[dB,bE,eD];refine⟨v,?_,hk⟩;rw[bL,cM,h.ps,bT,aI];simpa using hv
theorem PR.self{s':PS}(h:PR w0 w p f M vt s top)(hc:Chg (One p) w w')(hb:w'.heap[p]?=some (.cells [vt,i64 (s'.i:Nat),i64 s'.off,.pointer (some ⟨f,0,none⟩),i64 (s'.deep:Nat),.bool s'.quiet].toArray PsT (0,0)))
  (h1:s'.toks=s.toks)(h2:s'.ex=s.ex)(h3:s'.bl=s.bl):PR w0 w' p f M vt s' top:=by
 refine⟨h.ch.then hc λk hk e=>(by have e:k=p:=e;have:=h.lo;omega),by rw[h2,h3];exact h.fr.keep hc λk hk e=>h.np (by have e:k=p:=e;exact e▸hk),hb,?_,h.np,h.lo,λk hk=>⟨(h.nt k hk).1,(h.nt k hk).2.1,dD (h.nt k hk).2.2 hc.size⟩⟩;rw[h1];obtain⟨q,cap,hv,g1,g2,g3⟩:=h.tk;refine⟨q,cap,hv,g1,g2,λhne=>?_⟩;obtain⟨b,off,c,fr,hq,hb,hcs⟩:=g3 hne;exact⟨b,off,c,fr,hq,hc.at hb ((h.nt b (by rw[hv,hq];rfl)).2.1),hcs⟩
theorem DF(hc:Chg (One p) w w'):Eff p f M M w w':=Eff.of (hc.mono λk _ e=>.inl e)
theorem PR.st_i{K:World->Prop}(h:PR w0 w p f M vt s top)(hK:∀w',PR w0 w' p f M vt {s with i:=i} top->Eff p f M M w w'->w'.heap.size=w.heap.size->K w'):
  eC (.pointer (some ⟨p,0,none⟩)) λt=>aR 1 t λt=>stW 1 t (i64 (i:Nat)) w K:=by
 rw[dB,bE,bL,aI];refine kQ h.ps rfl (by simp) λw' hz hb hc=>hK w' (h.self hc (by rw[hb];simp) rfl rfl rfl) (DF hc) hz
theorem PR.st_deep{K:World->Prop}(h:PR w0 w p f M vt s top)(hK:∀w',PR w0 w' p f M vt {s with deep:=i} top->Eff p f M M w w'->w'.heap.size=w.heap.size->K w'):
  eC (.pointer (some ⟨p,0,none⟩)) λt=>aR 4 t λt=>stW 1 t (i64 (i:Nat)) w K:=by
 rw[dB,bE,bL,aI];refine kQ h.ps rfl (by simp) λw' hz hb hc=>hK w' (h.self hc (by rw[hb];simp) rfl rfl rfl) (DF hc) hz
theorem PR.st_quiet{q:Bool}{K:World->Prop}(h:PR w0 w p f M vt s top)(hK:∀w',PR w0 w' p f M vt {s with quiet:=q} top->Eff p f M M w w'->w'.heap.size=w.heap.size->K w'):
  eC (.pointer (some ⟨p,0,none⟩)) λt=>aR 5 t λt=>stW 1 t (.bool q) w K:=by
 rw[dB,bE,bL,aI];refine kQ h.ps rfl (by simp) λw' hz hb hc=>hK w' (h.self hc (by rw[hb];simp) rfl rfl rfl) (DF hc) hz
theorem PR.go{K:World->Prop}(h:PR w0 w p f M vt s top)(hi:s.i<=1000000)(hK:∀w',PR w0 w' p f M vt (step1 s) top->Eff p f M M w w'->w'.heap.size=w.heap.size->K w'):
  eC (.pointer (some ⟨p,0,none⟩)) λt=>aR 1 t λt=>ldW false 1 t w λt=>aS .add t (.int .i64 1) λt1=>eC (.pointer (some ⟨p,0,none⟩)) λt=>aR 1 t λt=>stW 1 t t1 w K:=by
 refine h.ld rfl ?_;rw[cJ,gI (by omega) (by omega)];exact h.st_i (i:=s.i+1) hK
def Loc(w0 w:World)(p f:Nat)(M:Lay)(vt:Value)(b:Nat)(T:TypeId)(cs:List Value):Prop:=w.heap[b]?=some (.cells cs.toArray T (0,0))/\Off w0 w p f M vt b
variable{T:TypeId}{cs:List Value}
theorem Loc.eff(h:Loc w0 w p f M vt b T cs)(he:Eff p f M M' w w'):Loc w0 w' p f M' vt b T cs:=⟨he.at_ h.1 h.2,h.2.eff he⟩
theorem Loc.ext(h:Loc w0 w p f M vt b T cs)(hx:Ext w w'):Loc w0 w' p f M vt b T cs:=h.eff (Eff.ext hx)
theorem Loc.drew(h:Loc w0 w p f M vt b T cs):Loc w0 w.drew p f M vt b T cs:=h.ext (cQ w)
theorem Loc.one{b':Nat}(h:Loc w0 w p f M vt b T cs)(hc:Chg (One b') w w')(hb:b≠b'):Loc w0 w' p f M vt b T cs:=⟨hc.at h.1 hb,h.2.up hc.size⟩
theorem Loc.lt(h:Loc w0 w p f M vt b T cs):b<w.heap.size:=h.2.1.2
theorem Loc.ld{off:Nat}{K:Value->Prop}(h:Loc w0 w p f M vt b T cs)(hv:cs[off]?=some v)(hk:K v):ldW false 1 (.pointer (some ⟨b,off,none⟩)) w K:=by
 rw[eD];refine⟨v,?_,hk⟩;rw[cM,h.1,bT];simpa using hv
theorem Loc.ldf{off:Nat}{K:Value->Prop}(h:Loc w0 w p f M vt b T cs)(hv:cs[off]?=some v)(hk:K v):aR off (.pointer (some ⟨b,0,none⟩)) λt=>ldW false 1 t w K:=by
 rw[bE,bL,aI];exact h.ld hv hk
theorem Loc.st{off:Nat}{K:World->Prop}(h:Loc w0 w p f M vt b T cs)(h1:jM v=true)(hoff:off<cs.length)
  (hK:∀w',Loc w0 w' p f M vt b T (cs.set off v)->Chg (One b) w w'->w'.heap.size=w.heap.size->K w'):stW 1 (.pointer (some ⟨b,off,none⟩)) v w K:=
 kQ h.1 h1 (by simpa using hoff) λw' hz hb hc=>hK w' ⟨by rw[hb];simp,h.2.up (by omega)⟩ hc hz
theorem PR.loc(h:PR w0 w p f M vt s top)(hz:w'.heap.size=w.heap.size+1){b:Nat}(hb:b=w.heap.size)(hc:w'.heap[b]?=some (.cells cs.toArray T (0,0))):Loc w0 w' p f M vt b T cs:=⟨hc,h.off_new (by omega) (by omega)⟩
end
end
end Go.Proofs.YtjblfcfdeaagpaaGreatDoor
namespace Go.Syn
section
open Go Go.Eng Go.Lex
variable{w:World}{K:Value->World->Prop}{cs:List Value}{G:Nat->Prop}{T:TypeId}{i:Nat}{n:Nat}{v:Value}{w':World}{P:Program}{c:UInt8}{S:Nat->Prop}
theorem mX{s:Str}(k:Nat)(h:s.length<=n):(s.drop k).length<=n:=by rw[aX];omega
theorem Kw:∀(N:Nat) (r:Str),r.length<=N->(∀m m' c,r.length<m->r.length<m'->Be m r c=Be m' r c)/\(∀m m',r.length<m->r.length<m'->AG m r=AG m' r):=by
 intro N;induction N with
 |zero=>
  intro r hr;have:r=[]:=cW (by omega);subst this;refine⟨λm m' c h h'=>?_,λm m' h h'=>?_⟩
  ·obtain⟨m,rfl⟩:∃k,m=k+1:=⟨m-1,by simp at h;omega⟩;obtain⟨m',rfl⟩:∃k,m'=k+1:=⟨m'-1,by simp at h';omega⟩;rfl
  ·obtain⟨m,rfl⟩:∃k,m=k+1:=⟨m-1,by simp at h;omega⟩;obtain⟨m',rfl⟩:∃k,m'=k+1:=⟨m'-1,by simp at h';omega⟩;rfl
 |succ N ih=>
  intro r hr;cases r with
  |nil=>exact⟨λm m' c h h'=>(ih [] (by simp)).1 m m' c h h',λm m' h h'=>(ih [] (by simp)).2 m m' h h'⟩
  |cons c r=>
   simp only[aB]at hr;have hr:r.length<=N:=by omega
   refine⟨λm m' d h h'=>?_,λm m' h h'=>?_⟩
   ·obtain⟨m,rfl⟩:∃k,m=k+1:=⟨m-1,by simp at h;omega⟩;obtain⟨m',rfl⟩:∃k,m'=k+1:=⟨m'-1,by simp at h';omega⟩;simp only[aB]at h h';have hb:=λd=>(ih r hr).1 m m' d (by omega) (by omega);have hq:=(ih r hr).2 m m' (by omega) (by omega);have hd:=λk d=>(ih (r.drop k) (mX k hr)).1 m m' d (by rw[aX];omega) (by rw[aX];omega);simp only[Be,hb,hq,hd]
   ·obtain⟨m,rfl⟩:∃k,m=k+1:=⟨m-1,by simp at h;omega⟩;obtain⟨m',rfl⟩:∃k,m'=k+1:=⟨m'-1,by simp at h';omega⟩;simp only[aB]at h h';have hb:=λd=>(ih r hr).1 m m' d (by omega) (by omega);have hq:=(ih r hr).2 m m' (by omega) (by omega);have hd:=λk=>(ih (r.drop k) (mX k hr)).2 m m' (by rw[aX];omega) (by rw[aX];omega);cases r with
    |nil=>simp only[AG,hb,hq,hd]
    |cons e r'=>
     have h2:=(ih r' (by simp at hr;omega)).2 m m' (by simp at h;omega) (by simp at h';omega);simp only[AG,hb,hd,hq,h2]
def qA(r:Str)(c:Int):Nat:=Be (r.length+1) r c
def sL(r:Str):Nat:=AG (r.length+1) r
theorem DO{m:Nat}{r:Str}{c:Int}(h:r.length<m):Be m r c=qA r c:=(Kw r.length r (aZ _)).1 _ _ _ h (Bh _)
theorem Gl{m:Nat}{r:Str}(h:r.length<m):AG m r=sL r:=(Kw r.length r (aZ _)).2 _ _ h (Bh _)
theorem wI{r:Str}(k:Nat){m:Nat}(h:r.length<m):(r.drop k).length<m:=by rw[aX];omega
theorem Ot(c:Int):qA [] c=0:=rfl
theorem pH(c:UInt8)(r:Str)(d:Int):qA (c::r) d=if c=123 then 1+qA r (d+1)else if c=125 then(if d-1=0 then 1 else 1+qA r (d-1))else if c=34 then(1+sL r)+qA (r.drop (sL r)) d else 1+qA r d:=by
 have h:r.length<(c::r).length:=by simp
 show Be ((c::r).length+1) (c::r) d=_;rw[Be,Gl h];rw[DO h,DO h,DO h,DO (wI _ h)]
theorem Na:sL []=0:=rfl
theorem Bs(c:UInt8)(r:Str):sL (c::r)=if c=34 then 1 else if c=92 then(match r with|[]=>1|_::r'=>2+sL r')else if qX [36,123] (c::r)=true then(1+qA r 0)+sL (r.drop (qA r 0))else 1+sL r:=by
 cases r with
 |nil=>rfl
 |cons e r'=>
  have h:(e::r').length<(c::e::r').length:=by simp
  have h2:r'.length<(c::e::r').length:=by simp;omega
  have hd:∀k,AG (c::e::r').length ((e::r').drop k)=sL ((e::r').drop k):=λk=>Gl (wI k h);show AG ((c::e::r').length+1) (c::e::r')=_;rw[AG.eq_def];simp only[Gl h,DO h,Gl h2,hd]
theorem Kv:∀(N:Nat) (r:Str),r.length<=N->(∀m m' d,r.length<m->r.length<m'->qJ m r d=qJ m' r d)/\(∀m m' d,r.length<m->r.length<m'->AT m r d=AT m' r d):=by
 intro N;induction N with
 |zero=>
  intro r hr;have:r=[]:=cW (by omega);subst this;refine⟨λm m' d h h'=>?_,λm m' d h h'=>?_⟩
  ·obtain⟨m,rfl⟩:∃k,m=k+1:=⟨m-1,by simp at h;omega⟩;obtain⟨m',rfl⟩:∃k,m'=k+1:=⟨m'-1,by simp at h';omega⟩;rfl
  ·obtain⟨m,rfl⟩:∃k,m=k+1:=⟨m-1,by simp at h;omega⟩;obtain⟨m',rfl⟩:∃k,m'=k+1:=⟨m'-1,by simp at h';omega⟩;rfl
 |succ N ih=>
  intro r hr;cases r with
  |nil=>exact⟨λm m' d h h'=>(ih [] (by simp)).1 m m' d h h',λm m' d h h'=>(ih [] (by simp)).2 m m' d h h'⟩
  |cons c r=>
   simp only[aB]at hr;have hr:r.length<=N:=by omega
   refine⟨λm m' d h h'=>?_,λm m' d h h'=>?_⟩
   ·obtain⟨m,rfl⟩:∃k,m=k+1:=⟨m-1,by simp at h;omega⟩;obtain⟨m',rfl⟩:∃k,m'=k+1:=⟨m'-1,by simp at h';omega⟩;simp only[aB]at h h';have ht:=λd=>(ih r hr).1 m m' d (by omega) (by omega);have hi:=λk d=>(ih (r.drop k) (mX k hr)).2 m m' d (by rw[aX];omega) (by rw[aX];omega);have hd:=λk j d=>(ih ((r.drop k).drop j) (mX j (mX k hr))).1 m m' d (by rw[aX,aX];omega) (by rw[aX,aX];omega);cases r with
    |nil=>simp only[qJ,ht,hi,hd]
    |cons e r'=>
     have h2:=λd=>(ih r' (by simp at hr;omega)).1 m m' d (by simp at h;omega) (by simp at h';omega);simp only[qJ,ht,hi,hd,h2]
   ·obtain⟨m,rfl⟩:∃k,m=k+1:=⟨m-1,by simp at h;omega⟩;obtain⟨m',rfl⟩:∃k,m'=k+1:=⟨m'-1,by simp at h';omega⟩;simp only[aB]at h h';have ht:=λd=>(ih r hr).1 m m' d (by omega) (by omega);have hi:=λd=>(ih r hr).2 m m' d (by omega) (by omega);have hd:=λk d=>(ih (r.drop k) (mX k hr)).2 m m' d (by rw[aX];omega) (by rw[aX];omega);simp only[AT,ht,hi,hd]
def jZ(r:Str)(d:Nat):Nat×Int:=qJ (r.length+1) r d
def mH(r:Str)(d:Nat):Nat×Int:=AT (r.length+1) r d
theorem sS{m:Nat}{r:Str}{d:Nat}(h:r.length<m):qJ m r d=jZ r d:=(Kv r.length r (aZ _)).1 _ _ _ h (Bh _)
theorem Js{m:Nat}{r:Str}{d:Nat}(h:r.length<m):AT m r d=mH r d:=(Kv r.length r (aZ _)).2 _ _ _ h (Bh _)
theorem rF(d:Nat):jZ [] d=(0,40):=rfl
theorem Dr(d:Nat):mH [] d=(0,40):=rfl
theorem rG(c:UInt8)(r:Str)(d:Nat):jZ (c::r) d=if c==34 then(1,0)else if c==10 then(0,40)else if c==92 then(match r with|[]=>(0,40)|e::r'=>if Lex.escOk e then oY 2 (jZ r' d)else(0,40))
  else if qX [36,123] (c::r)then(if 24<d+1 then(0,7)else if(mH (r.drop 1) (d+1)).2=0 then oY ((mH (r.drop 1) (d+1)).1+2) (jZ ((r.drop 1).drop (mH (r.drop 1) (d+1)).1) d)else(0,(mH (r.drop 1) (d+1)).2))else oY 1 (jZ r d):=by
 cases r with
 |nil=>rfl
 |cons e r'=>
  have h:(e::r').length<(c::e::r').length:=by simp
  have h2:r'.length<(c::e::r').length:=by simp;omega
  have hi:∀k d,AT (c::e::r').length ((e::r').drop k) d=mH ((e::r').drop k) d:=λk d=>Js (wI k h);have hd:∀k j d,qJ (c::e::r').length (((e::r').drop k).drop j) d=jZ (((e::r').drop k).drop j) d:=λk j d=>sS (wI j (wI k h));show qJ ((c::e::r').length+1) (c::e::r') d=_;rw[qJ.eq_def];simp only[sS h,sS h2,hi,hd]
theorem BA(c:UInt8)(r:Str)(d:Nat):mH (c::r) d=if c==125 then(1,0)else if c==10 then(0,40)else if c==123 then(if 24<d+1 then(0,7)else if(mH r (d+1)).2=0 then oY ((mH r (d+1)).1+1) (mH (r.drop (mH r (d+1)).1) d)else(0,(mH r (d+1)).2))
  else if c==34 then(if(jZ r d).2=0 then oY ((jZ r d).1+1) (mH (r.drop (jZ r d).1) d)else(0,(jZ r d).2))else oY 1 (mH r d):=by
 have h:r.length<(c::r).length:=by simp
 have hd:∀k d,AT (c::r).length (r.drop k) d=mH (r.drop k) d:=λk d=>Js (wI k h);show AT ((c::r).length+1) (c::r) d=_;rw[AT.eq_def];simp only[Js h,sS h,hd]
theorem oH{k:Nat}{r:Nat×Int}(h:oY k r=(n,0)):r=(n-k,0)/\k<=n:=by
 obtain⟨a,b⟩:=r;unfold oY at h;split at h
 ·rename_i e;simp only at e;subst e;injection h with h1 _
  subst h1;exact⟨by simp,by omega⟩
 ·rename_i e;injection h with _ h2
  exact absurd h2 e
theorem lT:∀(N:Nat) (r:Str),r.length<=N->
  (∀d k,jZ r d=(k,0)->sL r=k/\1<=k/\k<=r.length)/\
  (∀d k,mH r d=(k,0)->(1<=k/\k<=r.length)/\∀c:Int,1<=c->qA r c=if c=1 then k else k+qA (r.drop k) (c-1)):=by
 intro N;induction N with
 |zero=>
  intro r hr;have:r=[]:=cW (by omega);subst this;refine⟨λd k h=>?_,λd k h=>?_⟩
  ·rw[rF]at h;cases h
  ·rw[Dr]at h;cases h
 |succ N ih=>
  intro r hr;cases r with
  |nil=>exact ih [] (by simp)
  |cons c r=>
   simp only[aB]at hr;have hr:r.length<=N:=by omega
   refine⟨λd k h=>?_,λd k h=>?_⟩
   ·rw[rG]at h;rw[Bs];simp only[iK]at h;split at h
    ·rename_i e;rw[aU e];injection h with h1 _
     subst h1;simp
    rename_i e;rw[aL e];split at h
    ·cases h
    split at h
    ·rename_i e2;rw[aU e2];cases r with
     |nil=>cases h
     |cons x r'=>
      simp only at h⊢;split at h
      ·obtain⟨h1,h2⟩:=oH h;obtain⟨q1,q2,q3⟩:=(ih r' (by simp at hr;omega)).1 d _ h1;simp only[aB];omega
      ·cases h
    rename_i e2;rw[aL e2];split at h
    ·rename_i e3;rw[aU e3];split at h
     ·cases h
     split at h
     ·rename_i e4;obtain⟨h1,h2⟩:=oH h;cases r with
      |nil=>simp[qX]at e3
      |cons x r'=>
       have hx:x=123:=by
        simp[qX]at e3;exact e3.2.symm
       subst hx;simp only[eL,eZ]at h1 h2 e4;have hr':r'.length<=N:=by simp at hr;omega
       obtain⟨⟨b1,b2⟩,b3⟩:=(ih r' hr').2 (d+1) (mH r' (d+1)).1 (jO rfl e4);have hb:=b3 1 (by omega);rw[aU rfl]at hb;have hbx:qA (123::r') 0=1+(mH r' (d+1)).1:=by
        rw[pH,aU rfl];show 1+qA r' (0+1)=_;rw[show(0:Int)+1=1 from rfl,hb]
       rw[hbx];have hdr:(123::r').drop (1+(mH r' (d+1)).1)=r'.drop (mH r' (d+1)).1:=by rw[zJ];rfl
       rw[hdr];obtain⟨q1,q2,q3⟩:=(ih (r'.drop (mH r' (d+1)).1) (mX _ hr')).1 d _ h1;rw[aX]at q3;simp only[aB];omega
     ·rename_i e4;injection h with _ h2
      exact absurd h2 e4
    ·rename_i e3;rw[aL e3];obtain⟨h1,h2⟩:=oH h;obtain⟨q1,q2,q3⟩:=(ih r hr).1 d _ h1;simp only[aB];omega
   ·rw[BA]at h;simp only[iK]at h;split at h
    ·rename_i e;injection h with h1 _
     subst h1;refine⟨by simp,λcc hc=>?_⟩;rw[pH,aL (by rw[e];decide),aU e];by_cases h1:cc=1
     ·subst h1;simp
     ·rw[aL (by omega),aL h1];rfl
    rename_i e;split at h
    ·cases h
    rename_i e10;split at h
    ·rename_i e2;split at h
     ·cases h
     split at h
     ·rename_i e4;obtain⟨h1,h2⟩:=oH h;obtain⟨⟨b1,b2⟩,b3⟩:=(ih r hr).2 (d+1) (mH r (d+1)).1 (jO rfl e4);obtain⟨⟨f1,f2⟩,f3⟩:=(ih (r.drop (mH r (d+1)).1) (mX _ hr)).2 d _ h1;rw[aX]at f2;refine⟨by simp only[aB];omega,λcc hc=>?_⟩;rw[pH,aU e2,b3 (cc+1) (by omega),aL (by omega),show cc+1-1=cc from by omega,f3 cc hc];by_cases h1':cc=1
      ·rw[aU h1',aU h1'];omega
      ·rw[aL h1',aL h1',kP];have:(c::r).drop k=r.drop (k-1):=by
        obtain⟨j,rfl⟩:∃j,k=j+1:=⟨k-1,by omega⟩;rfl
       rw[this,show(mH r (d+1)).1+(k-((mH r (d+1)).1+1))=k-1 from by omega];omega
     ·rename_i e4;injection h with _ h2
      exact absurd h2 e4
    rename_i e2;split at h
    ·rename_i e3;split at h
     ·rename_i e4;obtain⟨h1,h2⟩:=oH h;obtain⟨q1,q2,q3⟩:=(ih r hr).1 d (jZ r d).1 (jO rfl e4);obtain⟨⟨f1,f2⟩,f3⟩:=(ih (r.drop (jZ r d).1) (mX _ hr)).2 d _ h1;rw[aX]at f2;refine⟨by simp only[aB];omega,λcc hc=>?_⟩;rw[pH,aL e2,aL e,aU e3,q1,f3 cc hc];by_cases h1':cc=1
      ·rw[aU h1',aU h1'];omega
      ·rw[aL h1',aL h1',kP];have:(c::r).drop k=r.drop (k-1):=by
        obtain⟨j,rfl⟩:∃j,k=j+1:=⟨k-1,by omega⟩;rfl
       rw[this,show(jZ r d).1+(k-((jZ r d).1+1))=k-1 from by omega];omega
     ·rename_i e4;injection h with _ h2
      exact absurd h2 e4
    ·rename_i e3;obtain⟨h1,h2⟩:=oH h;obtain⟨⟨f1,f2⟩,f3⟩:=(ih r hr).2 d _ h1;refine⟨by simp only[aB];omega,λcc hc=>?_⟩;rw[pH,aL e2,aL e,aL e3,f3 cc hc];by_cases h1':cc=1
     ·rw[aU h1',aU h1'];omega
     ·rw[aL h1',aL h1'];have:(c::r).drop k=r.drop (k-1):=by
       obtain⟨j,rfl⟩:∃j,k=j+1:=⟨k-1,by omega⟩;rfl
      rw[this];omega
structure eU(L:List (List Nat))(roots:List Nat):Prop where
 ahead:∀(i:Nat) (us:List Nat),L[i]?=some us->∀a∈us,a<i
 once:∀j,j<L.length->L.flatten.count j+roots.count j=1
 low:∀r∈roots,r<L.length
theorem eU.perm{L:List (List Nat)}{r r':List Nat}(h:eU L r)(hp:r.Perm r'):eU L r':=
 ⟨h.ahead,λj hj=>by rw[<-hp.count_eq];exact h.once j hj,λx hx=>h.low x (hp.mem_iff.2 hx)⟩
theorem eU.nil:eU [] []:=⟨λi us h=>by simp at h,λj hj=>by simp at hj,λr h=>by simp at h⟩
theorem eU.flat_lt{L:List (List Nat)}{r:List Nat}(h:eU L r):∀x∈L.flatten,x<L.length:=by
 intro x hx;obtain⟨us,has,hxa⟩:=List.mem_flatten.1 hx;obtain⟨i,hi⟩:=tP has;have h1:=h.ahead i us hi x hxa;have h2:=(bS.1 hi).1;omega
theorem eU.put{L:List (List Nat)}{us roots:List Nat}(h:eU L (us++roots)):eU (L++[us]) (L.length::roots):=by
 refine⟨λi bs hi=>?_,λj hj=>?_,λr hr=>?_⟩
 ·by_cases hl:i<L.length
  ·rw[fQ hl]at hi;exact h.ahead i bs hi
  ·rw[fU (by omega)]at hi;have:i-L.length=0:=by
    by_cases h0:i-L.length=0
    ·exact h0
    ·rw[eW (by simp;omega)]at hi;cases hi
   rw[this]at hi;simp only[bG,bA]at hi;subst hi;intro a ha;have:=h.low a (cD _ ha);omega
 ·rw[List.flatten_append,kH];simp only[zK,List.flatten_nil,fX,wR];by_cases hl:j<L.length
  ·have h1:=h.once j hl;rw[kH]at h1;have:(L.length==j)=false:=by simp;omega
   rw[this];simp only[mV,qY];omega
  ·have hj2:j=L.length:=by rw[aP,aB,aK]at hj;omega
   subst hj2;have e1:L.flatten.count L.length=0:=wW.2 λhm=>by have:=h.flat_lt _ hm;omega
   have e2:us.count L.length=0:=wW.2 λhm=>by have:=h.low _ (cD _ hm);omega
   have e3:roots.count L.length=0:=wW.2 λhm=>by have:=h.low _ (bP _ hm);omega
   rw[e1,e2,e3];simp
 ·rw[aP,aB,aK];rcases bC.1 hr with rfl|hr
  ·omega
  ·have:=h.low r (bP _ hr);omega
abbrev exL(ex:List Ex):List (List Nat):=ex.map (·.args)
theorem Dz{ex:List Ex}{e:Ex}{roots:List Nat}(h:eU (exL ex) (e.args++roots)):eU (exL (ex++[e])) (ex.length::roots):=by
 have:=h.put;rw[fP]at this;simpa[exL]using this
def Sat{α:Type}(r:R α)(P:α->PS->Prop)(Q:Int->Prop):Prop:=match r with
 |.ok x s=>P x s
 |.err _ a=>Q a
theorem Sat.bind{α β:Type}{r:R α}{f:α->PS->R β}{P:α->PS->Prop}{P':β->PS->Prop}{Q:Int->Prop}(h:Sat r P Q)(hf:∀x s,P x s->Sat (f x s) P' Q):Sat (r.bind f) P' Q:=by
 cases r with
 |ok x s=>exact hf x s h
 |err c a=>exact h
theorem Sat.mono{α:Type}{r:R α}{P P':α->PS->Prop}{Q:Int->Prop}(h:Sat r P Q)(hp:∀x s,P x s->P' x s):Sat r P' Q:=by
 cases r with
 |ok x s=>exact hp x s h
 |err c a=>exact h
def GR(N a:Int)(t:Str):Prop:=insP t=none\/a+t.length+2<=N
structure TG(N off:Int)(l:List Tok):Prop where
 ne:l≠[]
 pos:∀i t,l[i]?=some t->0<=t.a+off/\t.a+off<=N/\(t.k≠0->t.a+off<N)/\(t.k=3->GR N (t.a+off) t.t)/\(t.k=1->t.t≠[])/\(i+1=l.length->t.k=0)
structure WS(N:Int)(s:PS):Prop where
 tg:TG N s.off s.toks
 lt:s.i<s.toks.length
 pN:0<=N
structure Go1(N:Int)(s s':PS):Prop where
 toks:s'.toks=s.toks
 off:s'.off=s.off
 deep:s'.deep=s.deep
 quiet:s'.quiet=s.quiet
 le:s.i<=s'.i
 lt:s'.i<s'.toks.length
 exs:∀e∈s'.ex,e∈s.ex\/(0<=e.a/\e.a<N)
theorem Go1.trans{N:Int}{s s1 s2:PS}(h:Go1 N s s1)(h':Go1 N s1 s2):Go1 N s s2:=
 ⟨h'.toks.trans h.toks,h'.off.trans h.off,h'.deep.trans h.deep,h'.quiet.trans h.quiet,dR h.le h'.le,h'.lt,λe he=>(h'.exs e he).elim (h.exs e) .inr⟩
theorem Go1.refl{N:Int}{s:PS}(h:WS N s):Go1 N s s:=⟨rfl,rfl,rfl,rfl,aZ _,h.lt,λ_ he=>.inl he⟩
theorem Go1.ws{N:Int}{s s':PS}(h:Go1 N s s')(hs:WS N s):WS N s':=⟨by rw[h.toks,h.off];exact hs.tg,h.lt,hs.pN⟩
theorem xA{N:Int}{s:PS}(h:WS N s)(d:Nat)(q:Bool):WS N {s with deep:=d,quiet:=q}:=⟨h.tg,h.lt,h.pN⟩
theorem Dk:∀{l:List Tok},l≠[]->(∀t,l.getLast?=some t->t.k≠5)->kU l<l.length
 |[],h,_=>absurd rfl h
 |[t],_,h=>by
  have:=h t rfl
  simp[kU,this]
 |t::u::r,_,h=>by
  have ih:=Dk (l:=u::r) (by simp) (λx hx=>h x (by simpa using hx))
  simp only[kU,aB]at ih⊢
  split<;>omega
theorem TG.last{N off:Int}{l:List Tok}(h:TG N off l)(hi:i<l.length):kU (l.drop i)<l.length-i:=by
 have hne:l.drop i≠[]:=λe=>by have:=congrArg List.length e;rw[aX,aK]at this;omega
 have:=Dk hne λt ht=>by
  rw[List.getLast?_drop]at ht;rw[aL (by omega)]at ht;rw[List.getLast?_eq_getElem?]at ht;have:=(h.pos _ t ht).2.2.2.2.2 (by omega);omega
 rw[aX]at this;exact this
theorem jN{N:Int}{s:PS}(h:WS N s):Go1 N s (bM s):=by
 unfold bM;split
 ·have:=h.tg.last h.lt;exact⟨rfl,rfl,rfl,rfl,Nat.le_add_right _ _,(by show s.i+_<s.toks.length;have:=h.lt;omega),λ_ he=>.inl he⟩
 ·exact Go1.refl h
theorem xD{N:Int}{s:PS}(h:WS N s):s.toks[s.i]?=some (nM s):=by
 unfold nM;rw[bR,aG h.lt];rfl
theorem mA{N:Int}{s:PS}(h:WS N s):0<=(cur s).a/\(cur s).a<=N/\((cur s).k≠0->(cur s).a<N)/\((cur s).k=3->GR N (cur s).a (cur s).t)/\((cur s).k=1->(cur s).t≠[]):=by
 have hg:=jN h;have hn:=hg.ws h;have h1:=hn.tg.pos _ _ (xD hn);rw[hg.off]at h1;exact⟨h1.1,h1.2.1,h1.2.2.1,h1.2.2.2.1,h1.2.2.2.2.1⟩
theorem lY{N:Int}{s:PS}(h:WS N s)(hk:(cur s).k≠0):Go1 N s (step1 (bM s))/\s.i<(step1 (bM s)).i:=by
 have hg:=jN h;have hn:=hg.ws h;have h1:=(hn.tg.pos _ _ (xD hn)).2.2.2.2.2;have hlt:(bM s).i+1<(bM s).toks.length:=by
  have:=hn.lt;by_cases he:(bM s).i+1=(bM s).toks.length
  ·exact absurd (h1 he) hk
  ·omega
 exact⟨⟨hg.toks,hg.off,hg.deep,hg.quiet,dR hg.le (rV _),hlt,hg.exs⟩,Nat.lt_succ_of_le hg.le⟩
theorem Rm(s:PS)(h:∀k,s.quiet=true->k=kU (s.toks.drop s.i)->kU (s.toks.drop (s.i+k))=0):bM (bM s)=bM s:=by
 unfold bM;split
 ·rename_i hq;have:=h _ hq rfl;simp only[hq,qH,this,bJ]
 ·rfl
theorem AP:∀(l:List Tok),kU (l.drop (kU l))=0
 |[]=>rfl
 |t::r=>by
  simp only[kU]
  split
  ·exact AP r
  ·rename_i h
   simp[kU,h]
theorem kN(s:PS):bM (bM s)=bM s:=Rm s λk _ hk=>by rw[<-kP,hk];exact AP _
theorem mY(s:PS):cur (bM s)=cur s:=by
 unfold cur;rw[kN];have:(bM s).off=s.off:=by unfold bM;split<;>rfl
 rw[this]
abbrev Later(N:Int)(s:PS)(s':PS):Prop:=Go1 N s s'/\s.i<s'.i
abbrev InN(N:Int)(a:Int):Prop:=0<=a/\a<=N
theorem oK{s:PS}{w:Str}(h:isS s w=true):(cur s).k≠0:=by
 unfold isS at h;simp only[bU,fN]at h;rw[h.1];decide
theorem lX{N:Int}{s:PS}(h:WS N s)(w:Str):Go1 N s (cS s w).2/\((cS s w).1=true->s.i<(cS s w).2.i)/\(cS s w).2.ex=s.ex/\(cS s w).2.bl=s.bl:=by
 have e1:(bM s).ex=s.ex:=by unfold bM;split<;>rfl
 have e2:(bM s).bl=s.bl:=by unfold bM;split<;>rfl
 unfold cS;split
 ·rename_i hi;have:=lY h (oK hi);exact⟨this.1,λ_=>this.2,e1,e2⟩
 ·exact⟨jN h,(λe=>by cases e),e1,e2⟩
theorem jX(s:PS):(bM s).ex=s.ex/\(bM s).bl=s.bl:=by unfold bM;split<;>exact⟨rfl,rfl⟩
theorem mO{N:Int}{s:PS}(h:WS N s)(w:Str):Sat (pK s w) (λ_ s'=>Later N s s'/\s'.ex=s.ex/\s'.bl=s.bl) (InN N):=by
 unfold pK;split
 ·rename_i hi;exact⟨lY h (oK hi),jX s⟩
 ·have:=mA h;exact⟨this.1,this.2.1⟩
theorem sU{N:Int}{s:PS}(h:WS N s):Go1 N s (kY s)/\((cur s).k≠0->s.i<(kY s).i)/\(kY s).ex=s.ex/\(kY s).bl=s.bl:=by
 unfold kY;split
 ·rename_i hk;have:=lY h hk;exact⟨this.1,λ_=>this.2,jX s⟩
 ·rename_i hk;exact⟨jN h,λe=>absurd e hk,jX s⟩
theorem nT{N:Int}{s:PS}(h:WS N s)(k:Int)(hk0:k≠0):Sat (nC s k) (λt s'=>Later N s s'/\s'.ex=s.ex/\s'.bl=s.bl/\t=cur s/\t.k=k) (InN N):=by
 unfold nC;split
 ·rename_i hk;have:=sU h;exact⟨⟨this.1,this.2.1 (by omega)⟩,this.2.2.1,this.2.2.2,rfl,hk⟩
 ·have:=mA h;exact⟨this.1,this.2.1⟩
theorem mD{N:Int}{s:PS}(h:WS N s):Go1 N s (jE s)/\(jE s).ex=s.ex/\(jE s).bl=s.bl:=by
 have hg:=jN h;have hn:=hg.ws h;have h1:=hn.tg.last hn.lt;rw[hg.toks]at h1;have h2:=hn.lt;rw[hg.toks]at h2;refine⟨⟨hg.toks,hg.off,hg.deep,hg.quiet,?_,?_,hg.exs⟩,jX s⟩
 ·have:=hg.le;show s.i<=(bM s).i+_;omega
 ·show(bM s).i+_<(bM s).toks.length;rw[hg.toks];omega
def EOk(N:Int)(F:PS->R Nat):Prop:=∀s,WS N s->Sat (F s) (λx s'=>Later N s s'/\s'.bl=s.bl/\∀roots,eU (exL s.ex) roots->eU (exL s'.ex) (x::roots)) (InN N)
theorem AH{N:Int}{s:PS}(h:WS N s){e:Ex}(ha:0<=e.a/\e.a<N):Sat (rX s e) (λx s'=>Go1 N s s'/\s'.i=s.i/\s'.bl=s.bl/\∀roots,eU (exL s.ex) (e.args++roots)->eU (exL s'.ex) (x::roots)) (InN N):=
 ⟨⟨rfl,rfl,rfl,rfl,aZ _,h.lt,λx hx=>by
   rcases bK.1 hx with hx|hx
   ·exact .inl hx
   ·rw[bX]at hx
    subst hx
    exact .inr ha⟩,rfl,rfl,λ_ hf=>Dz hf⟩
theorem nK{N:Int}{s:PS}(h:WS N s){α:Type}{a:Int}(ha:InN N a){q:Bool}{f:PS->R α}{P:α->PS->Prop}(hf:WS N {s with deep:=s.deep+1,quiet:=q}->Sat (f {s with deep:=s.deep+1,quiet:=q}) P (InN N)):
  Sat (within s a q f) (λx s'=>∃s1,P x s1/\s'={s1 with deep:=s.deep,quiet:=s.quiet}) (InN N):=by
 unfold within;split
 ·exact ha
 ·exact(hf (xA h _ _)).bind λx s1 h1=>⟨s1,h1,rfl⟩
theorem Go1.back{N:Int}{s s1:PS}{d:Nat}{q:Bool}(h:Go1 N {s with deep:=d,quiet:=q} s1):Go1 N s {s1 with deep:=s.deep,quiet:=s.quiet}:=⟨h.toks,h.off,rfl,rfl,h.le,h.lt,h.exs⟩
theorem sK(p:UInt8->Bool):∀s:Str,gQ p s<=s.length
 |[]=>aZ _
 |c::r=>by
  have:=sK p r
  simp only[gQ,aB]
  split<;>omega
theorem GF:∀(s:Str) (i:Nat),Lib.index s [42,47]=(i:Int)->i+2<=s.length
 |[],i,h=>by
  unfold Lib.index at h
  simp at h
 |b::l,i,h=>by
  unfold Lib.index at h
  split at h
  ·rename_i hp
   have hi:i=0:=by omega
   subst hi
   cases l with
   |nil=>simp[List.isPrefixOf]at hp
   |cons c l=>simp
  ·split at h
   ·omega
   ·rename_i hq
    have h1:Lib.index l [42,47]≠-1:=by simpa using hq
    have hg:=Lib.index_ge l [42,47]
    have:=GF l (i-1) (by omega)
    simp only[aB]
    omega
theorem Gn{p s:Str}(h:qX p s=true):p.length<=s.length:=by
 unfold qX at h;exact(Eo.1 h).length_le
theorem vP:∀(n:Nat) (s:Str),(jP n s).1<=s.length
 |0,_=>dU _
 |_+1,[]=>dU _
 |n+1,c::r=>by
  simp only[jP]
  split
  ·have:=vP n r
   simp only[aB]
   omega
  split
  ·have h1:=vP n ((c::r).drop (gQ (λb=>b !=10) (c::r)))
   have h2:=sK (λb=>b !=10) (c::r)
   rw[aX]at h1
   simp only
   omega
  split
  ·rename_i hp
   split
   ·exact dU _
   ·rename_i hi
    obtain⟨i,hii⟩:=wY (by omega:0<=Lib.index (r.drop 1) [42,47])
    have h1:=GF _ _ hii
    have h2:=vP n ((c::r).drop ((Lib.index (r.drop 1) [42,47]).toNat+4))
    rw[hii]at h2⊢
    rw[aX]at h1 h2
    simp only[aB,aV]at h2⊢
    omega
  ·exact dU _
def noD:Str->Bool
 |[]=>true
 |[c]=>c !=92&&c !=36
 |c::e::r=>if c=92 then noD r else c !=36&&noD (e::r)
theorem Ct:∀(n:Nat) (t:Str),t.length<=n->noD t=true->insP t=none
 |_,[],_,_=>rfl
 |_,[_],_,_=>rfl
 |0,c::e::r,h,_=>by simp at h
 |n+1,c::e::r,h,hd=>by
  simp only[noD]at hd
  simp only[insP]
  simp only[aB]at h
  split
  ·rename_i hc
   rw[aU hc]at hd
   rw[Ct n r (by omega) hd]
   rfl
  ·rename_i hc
   rw[aL hc]at hd
   simp only[bU,bne_iff_ne,cV]at hd
   rw[aL (λe=>hd.1 e.1),Ct n (e::r) (by simp only[aB];omega) hd.2]
   rfl
theorem Dc{r:Str}(h1:c≠92)(h2:c≠36)(h:noD r=true):noD (c::r)=true:=by
 cases r with
 |nil=>simp[noD,h1,h2]
 |cons e r=>simp[noD,h1,h2,h]
theorem Cu{r:Str}(h:noD r=true):noD (92::c::r)=true:=by simp[noD,h]
theorem Cv:∀(n:Nat) (a b:Str),a.length<=n->noD a=true->noD b=true->noD (a++b)=true
 |_,[],b,_,_,hb=>hb
 |0,_::_,b,h,_,_=>by simp at h
 |_,[c],b,_,ha,hb=>by
  simp only[noD,bU,bne_iff_ne,cV]at ha
  exact Dc ha.1 ha.2 hb
 |n+1,c::e::r,b,h,ha,hb=>by
  simp only[noD]at ha
  simp only[aB]at h
  split at ha
  ·rename_i hc
   subst hc
   exact Cu (Cv n r b (by omega) ha hb)
  ·rename_i hc
   simp only[bU,bne_iff_ne,cV]at ha
   exact Dc hc ha.1 (Cv n (e::r) b (by simp only[aB];omega) ha.2 hb)
theorem HG:∀s:Str,noD (lC s)=true
 |[]=>rfl
 |c::r=>by
  have ih:=HG r
  simp only[lC]
  split
  ·exact Cu ih
  rename_i h1
  split
  ·exact Cu ih
  split
  ·exact Cu ih
  ·simp only[gK,iK,not_or]at h1
   exact Dc h1.1.1 h1.2 ih
theorem Ku:∀(n:Nat) (name s:Str) (t:Str) (k:Nat),nD n name s=(t,k,0)->k<=s.length/\noD t=true
 |0,_,_,_,_,h=>by simp[nD]at h
 |n+1,name,s,t,k,h=>by
  have hr:=sK (λb=>b !=10) s
  simp only[nD]at h
  split at h
  ·injection h with h1 h2
   injection h2 with h2 _
   subst h1 h2
   exact⟨hr,rfl⟩
  split at h
  ·cases h
  rename_i hlen
  split at h
  ·rename_i he
   injection h with h1 h2
   injection h2 with h2 _
   obtain⟨i1,i2⟩:=Ku n name (s.drop (gQ (λb=>b !=10) s+1)) (nD n name (s.drop (gQ (λb=>b !=10) s+1))).1 (nD n name (s.drop (gQ (λb=>b !=10) s+1))).2.1 (jO rfl (jO rfl he))
   rw[aX]at i1
   subst h1 h2
   refine⟨by omega,?_⟩
   refine Cv _ _ _ (aZ _) (Cv _ _ _ (aZ _) (HG _) rfl) i2
  ·rename_i he
   injection h with _ h2
   injection h2 with _ h2
   exact absurd h2 he
theorem RQ{s:Str}{m:Nat}(hm:(s.drop m).head?=some c):m<s.length:=by
 by_cases hl:m<s.length
 ·exact hl
 ·rw[iI (by omega)]at hm;cases hm
theorem Dv{s t:Str}{k:Nat}(h:kI s=(t,k,0)):1<=k/\k<=s.length/\noD t=true:=by
 unfold kI at h;simp only at h;generalize (if iM ((s.drop 2).headD 0)=true then gQ jH (s.drop 2)else 0)=n at h;split at h
 ·cases h
 split at h
 ·rename_i hh;have hlt:=RQ hh;generalize hH:nD (s.length+1) ((s.drop 2).take n) (s.drop (2+n+1))=x at h;obtain⟨x1,x2,x3⟩:=x;simp only at h;split at h
  ·rename_i he;subst he;injection h with h1 h2
   injection h2 with h2 _
   obtain⟨i1,i2⟩:=Ku _ _ _ _ _ hH;rw[aX]at i1;subst h1 h2;exact⟨by omega,by omega,i2⟩
  ·rename_i he;injection h with _ h2
   injection h2 with _ h2
   exact absurd h2 he
 ·cases h
theorem Gr{s:Str}{t:Tok}{k:Nat}(hs:s≠[])(h:oN s=(t,k,0)):1<=k/\k<=s.length/\t.k≠0/\t.a=0/\(t.k=1->t.t≠[])/\(t.k=3->insP t.t=none\/t.t.length+2<=k):=by
 obtain⟨c,r,rfl⟩:∃c r,s=c::r:=by
  cases s with
  |nil=>exact absurd rfl hs
  |cons c r=>exact⟨c,r,rfl⟩
 unfold oN at h;simp only[List.headD_cons]at h;split at h
 ·injection h with h1 h2
  injection h2 with h2 _
  subst h1 h2;simp
 split at h
 ·rename_i hl;injection h with h1 h2
  injection h2 with h2 h3
  have hp:1<=gQ jH (c::r):=by
   simp only[gQ];rw[aU (by unfold jH;rw[hl];rfl)];omega
  have:=sK jH (c::r);subst h1 h2;refine⟨hp,this,by simp,rfl,λ_=>?_,λe=>by simp at e⟩;intro e;have e:=congrArg List.length e;rw[cO,aK]at e;omega
 split at h
 ·rename_i hl;injection h with h1 h2
  injection h2 with h2 h3
  have hp:1<=gQ lK (c::r):=by
   simp only[gQ];rw[aU hl];omega
  have:=sK lK (c::r);subst h1 h2;exact⟨hp,this,by simp,rfl,λe=>by simp at e,λe=>by simp at e⟩
 split at h
 ·split at h
  ·rename_i he;injection h with h1 h2
   injection h2 with h2 _
   have hx:qJ ((c::r).length+1) ((c::r).drop 1) 0=jZ r 0:=sS (by simp;omega);rw[hx]at he h1 h2;obtain⟨_,q2,q3⟩:=(lT r.length r (aZ _)).1 0 (jZ r 0).1 (jO rfl he);subst h1 h2;refine⟨by omega,by simp only[aB];omega,by simp,rfl,λe=>by simp at e,λ_=>.inr ?_⟩;rw[cO];simp only[eL,eZ];omega
  ·rename_i he;injection h with _ h2
   injection h2 with _ h2
   exact absurd h2 he
 split at h
 ·injection h with h1 h2
  injection h2 with h2 h3
  obtain⟨i1,i2,i3⟩:=Dv (s:=c::r) (t:=(kI (c::r)).1) (k:=(kI (c::r)).2.1) (jO rfl (jO rfl h3));subst h1 h2;exact⟨i1,i2,by simp,rfl,λe=>by simp at e,λ_=>.inl (Ct _ _ (aZ _) i3)⟩
 ·injection h with h1 h2
  injection h2 with h2 h3
  subst h1 h2;split at h3
  ·cases h3
  rename_i hz;refine⟨by omega,?_,by simp,rfl,λe=>by simp at e,λe=>by simp at e⟩;unfold rW;split
  ·exact List.length_take_le' _ _
  ·split
   ·exact List.length_take_le' _ _
   ·simp
theorem He:∀(n:Nat) (s:Str) (a cnt:Nat) (l:List Tok),nQ n s a cnt=.ok l->TG ((a+s.length:Nat):Int) 0 l
 |0,_,_,_,_,h=>by simp[nQ]at h
 |n+1,s,a,cnt,l,h=>by
  have hk:=vP (s.length+1) s
  simp only[nQ]at h
  split at h
  ·cases h
  split at h
  ·rename_i hr
   injection h with h
   subst h
   have:s.length<=(jP (s.length+1) s).1:=by
    have:=congrArg List.length hr;rw[aX,aK]at this;omega
   refine⟨by simp,λi t ht=>?_⟩;have hi:i=0:=by
    by_cases h0:i=0
    ·exact h0
    ·rw[eW (by simp;omega)]at ht;cases ht
   subst hi;simp only[bG,bA]at ht;subst ht;refine⟨by simp only;omega,by simp only;omega,λe=>absurd rfl e,λe=>by simp at e,λe=>by simp at e,λ_=>rfl⟩
  rename_i hr;split at h
  ·cases h
  rename_i ho;split at h
  ·cases h
  have hlen:s.length-(jP (s.length+1) s).1=(s.drop (jP (s.length+1) s).1).length:=(aX ..).symm;obtain⟨o1,o2,o3,o4,o5,o6⟩:=Gr hr (jO rfl (jO rfl (Classical.not_not.1 ho)):oN (s.drop (jP (s.length+1) s).1)=((oN (s.drop (jP (s.length+1) s).1)).1,(oN (s.drop (jP (s.length+1) s).1)).2.1,0));split at h
  ·rename_i l' hl';injection h with h
   subst h;have ih:=He n _ _ _ _ hl';rw[aX]at ih;have eN:a+(jP (s.length+1) s).1+(oN (s.drop (jP (s.length+1) s).1)).2.1+((s.drop (jP (s.length+1) s).1).length-(oN (s.drop (jP (s.length+1) s).1)).2.1)=a+s.length:=by omega
   rw[eN]at ih;refine⟨by simp,λi t ht=>?_⟩;cases i with
   |zero=>
    simp only[bG,bA]at ht;subst ht;refine⟨by simp only;omega,by simp only;omega,λ_=>by simp only;omega,λe=>?_,λe=>o5 e,λe=>?_⟩
    ·rcases o6 e with h|h
     ·exact .inl h
     ·exact .inr (by simp only;omega)
    ·simp only[aB]at e;have:=ih.ne;exact absurd (cW (by omega)) this
   |succ i=>
    simp only[bF]at ht;have:=ih.pos i t ht;exact⟨this.1,this.2.1,this.2.2.1,this.2.2.2.1,this.2.2.2.2.1,λe=>this.2.2.2.2.2 (by simp only[aB]at e;omega)⟩
  ·rename_i hne;exact absurd h (hne l)
theorem EE:∀(n:Nat) (s:Str) (a cnt:Nat) (c b:Int),nQ n s a cnt=.bad c b->0<=b/\b<=((a+s.length:Nat):Int)
 |0,_,_,_,_,_,h=>by
  simp only[nQ]at h
  injection h with _ h
  subst h
  omega
 |n+1,s,a,cnt,c,b,h=>by
  have hk:=vP (s.length+1) s
  simp only[nQ]at h
  split at h
  ·injection h with _ h
   subst h
   omega
  split at h
  ·cases h
  rename_i hr
  split at h
  ·injection h with _ h
   subst h
   omega
  rename_i ho
  split at h
  ·injection h with _ h
   subst h
   omega
  obtain⟨o1,o2,_⟩:=Gr hr (jO rfl (jO rfl (Classical.not_not.1 ho)):oN (s.drop (jP (s.length+1) s).1)=((oN (s.drop (jP (s.length+1) s).1)).1,(oN (s.drop (jP (s.length+1) s).1)).2.1,0))
  rw[aX]at o2
  split at h
  ·cases h
  ·have ih:=EE n _ _ _ c b h
   rw[aX,aX]at ih
   omega
theorem KO:∀(n:Nat) (s:Str) (i j:Nat),DW n s i=some j->j<s.length
 |0,_,_,_,h=>by simp[DW]at h
 |n+1,s,i,j,h=>by
  simp only[DW]at h
  split at h
  ·cases h
  split at h
  ·injection h with h
   omega
  ·exact KO n s _ j h
theorem AA{s:Str}{l:List Tok}(h:nP s=.ok l){N off:Int}(h0:0<=off)(hN:off+s.length<=N):TG N off l:=by
 unfold nP at h;split at h
 ·cases h
 split at h
 ·cases h
 have:=He _ _ _ _ _ h;refine⟨this.ne,λi t ht=>?_⟩;obtain⟨h1,h2,h3,h4,h5,h6⟩:=this.pos i t ht;rw[aI]at h2 h3 h4;rw[Int.add_zero]at h1 h2 h3 h4;refine⟨by omega,by omega,λe=>by have:=h3 e;omega,λe=>?_,h5,h6⟩;rcases h4 e with h|h
 ·exact .inl h
 ·exact .inr (by omega)
theorem CR{s:Str}{c b:Int}(h:nP s=.bad c b):0<=b/\b<=(s.length:Nat):=by
 unfold nP at h;split at h
 ·injection h with _ h
  subst h;omega
 split at h
 ·rename_i i hi;injection h with _ h
  subst h;have:=KO _ _ _ _ hi;omega
 ·have:=EE _ _ _ _ _ _ h;rw[aI]at this;exact this
theorem UR:∀(N:Nat) (r:Str),r.length<=N->(∀c,qA r c<=r.length)/\sL r<=r.length:=by
 intro N;induction N with
 |zero=>
  intro r hr;have:r=[]:=cW (by omega);subst this;exact⟨λc=>aZ _,aZ _⟩
 |succ N ih=>
  intro r hr;cases r with
  |nil=>exact ih [] (by simp)
  |cons c r=>
   simp only[aB]at hr;have hr:r.length<=N:=by omega
   have h1:=ih r hr;refine⟨λd=>?_,?_⟩
   ·rw[pH];have h2:=(ih (r.drop (sL r)) (mX _ hr)).1 d;rw[aX]at h2;have h3:=h1.1 (d+1);have h4:=h1.1 (d-1);have h5:=h1.1 d;have h6:=h1.2;simp only[aB]
    (repeat' split)<;>omega
   ·rw[Bs];have h2:=(ih (r.drop (qA r 0)) (mX _ hr)).2;rw[aX]at h2;have h3:=h1.1 0;have h6:=h1.2;cases r with
    |nil=>
     simp only[aB,aK]at*
     (repeat' split)<;>omega
    |cons e r'=>
     have h7:=(ih r' (by simp only[aB]at hr;omega)).2;simp only[aB]at*
     (repeat' split)<;>omega
theorem GM(r:Str)(c:Int):qA r c<=r.length:=(UR r.length r (aZ _)).1 c
theorem AS:∀(n:Nat) (t:Str),t.length<=n->∀i e,insP t=some (i,e)->i+2<=t.length/\i+1<=e/\e<=t.length
 |_,[],_,i,e,h=>by simp[insP]at h
 |_,[_],_,i,e,h=>by simp[insP]at h
 |0,_::_::_,h,_,_,_=>by simp at h
 |n+1,c::x::r,hn,i,e,h=>by
  simp only[aB]at hn
  simp only[insP]at h
  split at h
  ·cases hr:insP r with
   |none=>rw[hr]at h;cases h
   |some y=>
    rw[hr]at h
    simp only[aH,bA,gS]at h
    obtain⟨rfl,rfl⟩:=h
    have:=AS n r (by omega) y.1 y.2 hr
    simp only[aB]
    omega
  split at h
  ·simp only[bA,gS]at h
   obtain⟨rfl,rfl⟩:=h
   have:=GM (x::r) 0
   have e1:DN (x::r)=qA (x::r) 0:=rfl
   rw[e1]
   simp only[aB]at this⊢
   omega
  ·cases hr:insP (x::r)with
   |none=>rw[hr]at h;cases h
   |some y=>
    rw[hr]at h
    simp only[aH,bA,gS]at h
    obtain⟨rfl,rfl⟩:=h
    have:=AS n (x::r) (by simp only[aB];omega) y.1 y.2 hr
    simp only[aB]at this⊢
    omega
section
variable{N:Int}{E S:PS->R Nat}
theorem Fg(hE:EOk N E){s:PS}(h:WS N s){t:Str}{a:Int}(h0:0<=a)(h1:a+t.length<=N):Sat (pR E s t a) (λx s'=>Go1 N s s'/\s'.bl=s.bl/\∀roots,eU (exL s.ex) roots->eU (exL s'.ex) (x::roots)) (InN N):=by
 unfold pR;split
 ·rename_i c b hs;have:=CR hs;exact⟨by omega,by omega⟩
 ·rename_i l hs;have htg:=AA hs h0 h1;have hw:WS N ⟨l,0,a,s.deep,false,s.ex,s.bl⟩:=⟨htg,iG.2 htg.ne,h.pN⟩;refine(hE _ hw).bind λx q ⟨⟨hg,_⟩,hb,hf⟩=>?_;have hq:=hg.ws hw;unfold nC;split
  ·refine⟨⟨rfl,rfl,rfl,rfl,aZ _,h.lt,λe he=>?_⟩,?_,λroots hr=>?_⟩
   ·have:e∈(kY q).ex:=he;rw[(sU hq).2.2.1]at this;exact hg.exs e this
   ·show(kY q).bl=s.bl;rw[(sU hq).2.2.2];exact hb
   ·show eU (exL (kY q).ex) _;rw[(sU hq).2.2.1];exact hf roots hr
  ·have:=mA hq;exact⟨this.1,this.2.1⟩
theorem EM{s:PS}(h:WS N s){t:Tok}(ht:InN N t.a):Sat (qF s t) (λ_ s'=>s'=s) (InN N):=by
 unfold qF;split
 ·exact ht
 ·rfl
theorem Bu(hE:EOk N E):∀(n:Nat) (s:PS) (rest:Str) (a:Int) (us:List Nat) (ks:List Str),WS N s->0<=a->a+rest.length+1<=N->
  Sat (oG E n s rest a us ks) (λx s'=>Go1 N s s'/\s'.bl=s.bl/\∀roots,eU (exL s.ex) (us++roots)->eU (exL s'.ex) (x.1++roots)) (InN N)
 |0,s,_,_,_,_,h,_,_=>⟨mN _,h.pN⟩
 |n+1,s,rest,a,us,ks,h,h0,h1=>by
  have one:∀(e:Ex),e.args=[]->0<=e.a->e.a<N->Go1 N s {s with ex:=s.ex++[e]}/\∀roots,eU (exL s.ex) (us++roots)->eU (exL (s.ex++[e])) ((us++[s.ex.length])++roots):=λe he h2 h3=>
   ⟨⟨rfl,rfl,rfl,rfl,aZ _,h.lt,λx hx=>by
     rcases bK.1 hx with hx|hx
     ·exact .inl hx
     ·rw[bX]at hx;subst hx;exact .inr ⟨h2,h3⟩⟩,
    λroots hf=>by
     have:=Dz (e:=e) (roots:=us++roots) (by rw[he];exact hf)
     refine this.perm ?_
     rw[fE]
     exact(mT).symm⟩
  simp only[oG]
  split
  ·exact⟨Go1.refl h,rfl,λ_ hf=>hf⟩
  split
  ·have:=one ⟨5,jR rest,[],[],a⟩ rfl h0 (by show a<N;omega)
   exact⟨this.1,rfl,this.2⟩
  ·rename_i i e hi
   obtain⟨i1,i2,i3⟩:=AS rest.length rest (aZ _) i e hi
   have hs1:∃s1 as1,s1=(if 0<i then{s with ex:=s.ex++[⟨5,jR (rest.take i),[],[],a⟩]}else s)/\as1=(if 0<i then us++[s.ex.length]else us)/\Go1 N s s1/\s1.bl=s.bl/\∀roots,eU (exL s.ex) (us++roots)->eU (exL s1.ex) (as1++roots):=by
    refine⟨_,_,rfl,rfl,?_⟩;split
    ·have:=one ⟨5,jR (rest.take i),[],[],a⟩ rfl h0 (by show a<N;omega);exact⟨this.1,rfl,this.2⟩
    ·exact⟨Go1.refl h,rfl,λ_ hf=>hf⟩
   obtain⟨s1,as1,e1,e2,g1,b1,f1⟩:=hs1;rw[<-e1,<-e2];have hw1:=g1.ws h;have hd:((rest.drop e).length:Int)=rest.length-e:=by rw[aX];omega
   split
   ·refine Sat.bind (nK hw1 (a:=a+i) ⟨by omega,by omega⟩ (P:=λx s'=>Go1 N {s1 with deep:=s1.deep+1,quiet:=false} s'/\s'.bl=s1.bl/\∀roots,eU (exL s1.ex) roots->eU (exL s'.ex) (x::roots)) λhw=>Fg hE hw (by omega) ?_) λx s2 ⟨q,⟨g2,b2,f2⟩,e3⟩=>?_
    ·rw[cO,aX];omega
    ·subst e3;have g2':=g2.back;refine Sat.mono (Bu hE n _ (rest.drop e) (a+e) (as1++[x]) _ ((g2').ws hw1) (by omega) (by rw[hd];omega)) λy s3 ⟨g3,b3,f3⟩=>⟨g1.trans (g2'.trans g3),b3.trans (b2.trans b1),λroots hf=>f3 roots ?_⟩;have:=f2 _ (f1 roots hf);refine this.perm ?_;rw[fE];exact(mT).symm
   ·refine Sat.mono (Bu hE n s1 (rest.drop e) (a+e) as1 _ hw1 (by omega) (by rw[hd];omega)) λy s3 ⟨g3,b3,f3⟩=>⟨g1.trans g3,b3.trans b1,λroots hf=>f3 roots (f1 roots hf)⟩
theorem ME(hE:EOk N E){s:PS}(h:WS N s){t:Tok}(ha:0<=t.a/\t.a<N)(ht:GR N t.a t.t):Sat (zN E s t) (λx s'=>Go1 N s s'/\s'.bl=s.bl/\∀roots,eU (exL s.ex) roots->eU (exL s'.ex) (x::roots)) (InN N):=by
 unfold zN;split
 ·rename_i hi;have ht:t.a+t.t.length+2<=N:=ht.resolve_left λe=>by rw[e]at hi;cases hi
  refine(Bu hE (t.t.length+1) s t.t (t.a+1) [] [] h (by omega) (by omega)).bind λx s1 ⟨g1,b1,f1⟩=>?_;refine(AH (g1.ws h) (e:=⟨6,[],x.1,x.2,t.a⟩) ha).mono λy s2 ⟨g2,_,b2,f2⟩=>⟨g1.trans g2,b2.trans b1,λroots hf=>f2 roots (f1 roots hf)⟩
 ·exact(AH h (e:=⟨5,jR t.t,[],[],t.a⟩) ha).mono λy s2 ⟨g2,_,b2,f2⟩=>⟨g2,b2,λroots hf=>f2 roots hf⟩
theorem IC(hE:EOk N E)(w:Str):∀(n:Nat) (s:PS) (out:List Nat),WS N s->
  Sat (sF E w n s out) (λx s'=>Later N s s'/\s'.bl=s.bl/\∀roots,eU (exL s.ex) (out++roots)->eU (exL s'.ex) (x++roots)) (InN N)
 |0,s,_,h=>⟨mN _,h.pN⟩
 |n+1,s,out,h=>by
  have step:∀{s1:PS},Go1 N s s1->s1.ex=s.ex->s1.bl=s.bl->Sat ((E s1).bind λx s'=>sF E w n s' (out++[x])) (λx s'=>Later N s s'/\s'.bl=s.bl/\∀roots,eU (exL s.ex) (out++roots)->eU (exL s'.ex) (x++roots)) (InN N):=λ{s1} g1 x1 b1=>by
   refine(hE s1 (g1.ws h)).bind λx s2 ⟨g2,b2,f2⟩=>?_
   refine Sat.mono (IC hE w n s2 (out++[x]) (g2.1.ws (g1.ws h))) λy s3 ⟨g3,b3,f3⟩=>⟨⟨g1.trans (g2.1.trans g3.1),by have:=g1.le;have:=g2.2;have:=g3.2;omega⟩,b3.trans (b2.trans b1),λroots hf=>f3 roots ?_⟩
   have:=f2 _ (by rw[x1];exact hf)
   refine this.perm ?_
   rw[fE]
   exact(mT).symm
  have t1:=lX h w
  simp only[sF]
  split
  ·rename_i ht
   exact⟨⟨t1.1,t1.2.1 ht⟩,t1.2.2.2,λroots hf=>by rw[t1.2.2.1];exact hf⟩
  split
  ·rename_i ho
   have:=step t1.1 t1.2.2.1 t1.2.2.2
   exact this
  ·refine(mO (t1.1.ws h) [44]).bind λ_ s1 ⟨g1,x1,b1⟩=>?_
   have g01:=t1.1.trans g1.1
   have t2:=lX (g01.ws h) w
   split
   ·rename_i ht
    exact⟨⟨g01.trans t2.1,by have:=t1.1.le;have:=g1.2;have:=t2.1.le;omega⟩,t2.2.2.2.trans (b1.trans t1.2.2.2),λroots hf=>by rw[t2.2.2.1,x1,t1.2.2.1];exact hf⟩
   ·exact step (g01.trans t2.1) (t2.2.2.1.trans (x1.trans t1.2.2.1)) (t2.2.2.2.trans (b1.trans t1.2.2.2))
theorem FS(hE:EOk N E)(w:Str){s:PS}(h:WS N s):Sat (DX E w s) (λx s'=>Later N s s'/\s'.bl=s.bl/\∀roots,eU (exL s.ex) roots->eU (exL s'.ex) (x++roots)) (InN N):=
 (IC hE w _ s [] h).mono λx s' ⟨g,b,f⟩=>⟨g,b,λroots hf=>f roots hf⟩
theorem NG(hE:EOk N E){s:PS}(h:WS N s)(hk:(cur s).k≠0)(hq:bM s=s){a:Int}(ha:0<=a/\a<N):Sat (zP E s a) (λe s'=>Later N s s'/\s'.bl=s.bl/\(0<=e.a/\e.a<N)/\∀roots,eU (exL s.ex) roots->eU (exL s'.ex) (e.args++roots)) (InN N):=by
 have hs:=lY h hk;rw[hq]at hs;have hw:=hs.1.ws h;have hn:=jN hw;have ex1:(bM (step1 s)).ex=s.ex:=(jX _).1;have bl1:(bM (step1 s)).bl=s.bl:=(jX _).2;unfold zP;simp only;split
 ·refine(FS hE [93] (hn.ws hw)).bind λus s1 ⟨g1,b1,f1⟩=>?_;exact⟨⟨hs.1.trans (hn.trans g1.1),by have:=hs.2;have:=hn.le;have:=g1.2;omega⟩,b1.trans bl1,ha,λroots hf=>f1 roots (by rw[ex1];exact hf)⟩
 ·rename_i hc;have hk1:(cur (step1 s)).k≠0:=λe=>hc (.inl (by rw[e];decide));have h2:=lY hw hk1;refine(nT (h2.1.ws hw) 1 (by decide)).bind λt s2 ⟨g2,x2,b2,_⟩=>?_;have hw2:=g2.1.ws (h2.1.ws hw);refine(nT hw2 1 (by decide)).bind λu s3 ⟨g3,x3,b3,hu,_⟩=>?_;have hw3:=g3.1.ws hw2;split
  ·have:=mA hw2;rw[hu];exact⟨this.1,this.2.1⟩
  refine(hE s3 hw3).bind λx s4 ⟨g4,b4,f4⟩=>?_;have hw4:=g4.1.ws hw3;refine(mO hw4 [58]).bind λ_ s5 ⟨g5,x5,b5⟩=>?_;have hw5:=g5.1.ws hw4;refine(hE s5 hw5).bind λy s6 ⟨g6,b6,f6⟩=>?_;have hw6:=g6.1.ws hw5;refine(mO hw6 [93]).bind λ_ s7 ⟨g7,x7,b7⟩=>?_;have e01:(step1 (bM (step1 s))).ex=s.ex:=ex1;have e02:(step1 (bM (step1 s))).bl=s.bl:=bl1;refine⟨⟨hs.1.trans (h2.1.trans (g2.1.trans (g3.1.trans (g4.1.trans (g5.1.trans (g6.1.trans g7.1)))))),by have:=hs.2;have:=h2.2;have:=g2.2;have:=g3.2;have:=g4.2;have:=g5.2;have:=g6.2;have:=g7.2;omega⟩,
   b7.trans (b6.trans (b5.trans (b4.trans (b3.trans (b2.trans e02))))),ha,λroots hf=>?_⟩
  rw[x7];have h1:=f4 roots (by rw[x3,x2,e01];exact hf);have h2:=f6 _ (by rw[x5];exact h1);exact h2.perm (List.Perm.swap _ _ _)
theorem Ki(hE:EOk N E){a:Int}(ha:0<=a/\a<N):∀(n:Nat) (s:PS) (us:List Nat) (ks:List Str),WS N s->
  Sat (Ch E a n s us ks) (λe s'=>Later N s s'/\s'.bl=s.bl/\(0<=e.a/\e.a<N)/\∀roots,eU (exL s.ex) (us++roots)->eU (exL s'.ex) (e.args++roots)) (InN N)
 |0,s,_,_,h=>⟨mN _,h.pN⟩
 |n+1,s,us,ks,h=>by
  have t1:=lX h [125]
  simp only[Ch]
  split
  ·rename_i ht
   exact⟨⟨t1.1,t1.2.1 ht⟩,t1.2.2.2,ha,λroots hf=>by rw[t1.2.2.1];exact hf⟩
  have hw1:=t1.1.ws h
  have n1:=sU hw1
  have hw2:=n1.1.ws hw1
  have hc:=mA hw1
  have hca:InN N (cur (cS s [125]).2).a:=⟨hc.1,hc.2.1⟩
  refine Sat.bind (P:=λ_ s3=>s3=kY (cS s [125]).2/\(cur (cS s [125]).2).k≠0) ?_ λk s3 ⟨e3,hk0⟩=>?_
  ·split
   ·rename_i hk
    exact(EM hw2 hca).mono λ_ s3 e=>⟨e,by rw[hk];decide⟩
   ·split
    ·rename_i hk
     exact⟨rfl,by rw[hk];decide⟩
    ·exact hca
  subst e3
  split
  ·exact hca
  refine(mO hw2 [61]).bind λ_ s4 ⟨g4,x4,b4⟩=>?_
  have hw4:=g4.1.ws hw2
  refine(hE s4 hw4).bind λx s5 ⟨g5,b5,f5⟩=>?_
  have hw5:=g5.1.ws hw4
  have t5:=lX hw5 [44]
  have hw6:=t5.1.ws hw5
  have n6:=jN hw6
  have g05:=t1.1.trans (n1.1.trans (g4.1.trans (g5.1.trans t5.1)))
  split
  ·have:=mA (n6.ws hw6)
   exact⟨this.1,this.2.1⟩
  have l6:∃s6,s6=(if(cS s5 [44]).1=true then(cS s5 [44]).2 else bM (cS s5 [44]).2)/\Go1 N (cS s5 [44]).2 s6/\s6.ex=(cS s5 [44]).2.ex/\s6.bl=(cS s5 [44]).2.bl:=by
   refine⟨_,rfl,?_⟩;split
   ·exact⟨Go1.refl hw6,rfl,rfl⟩
   ·exact⟨n6,(jX _).1,(jX _).2⟩
  obtain⟨s6,e6,g6,x6,b6⟩:=l6;rw[<-e6];have hw7:=g6.ws hw6;have l7:=mD hw7;refine Sat.mono (Ki hE ha n (jE s6) (us++[x]) (ks++[k]) (l7.1.ws hw7)) λe s8 ⟨g8,b8,ha8,f8⟩=>⟨⟨g05.trans (g6.trans (l7.1.trans g8.1)),by have:=g05.le;have:=g6.le;have:=l7.1.le;have:=g8.2;omega⟩,
   b8.trans (l7.2.2.trans (b6.trans (t5.2.2.2.trans (b5.trans (b4.trans (n1.2.2.2.trans t1.2.2.2)))))),ha8,λroots hf=>f8 roots ?_⟩
  rw[l7.2.1,x6,t5.2.2.1];have:=f5 (us++roots) (by rw[x4,n1.2.2.1,t1.2.2.1];exact hf);refine this.perm ?_;rw[fE];exact(mT).symm
end
theorem _root_.And.tr{N:Int}{s s1 s2:PS}(h:Later N s s1)(h':Later N s1 s2):Later N s s2:=⟨h.1.trans h'.1,Nat.lt_trans h.2 h'.2⟩
theorem Go1.tr{N:Int}{s s1 s2:PS}(h:Go1 N s s1)(h':Later N s1 s2):Later N s s2:=⟨h.trans h'.1,Nat.lt_of_le_of_lt h.le h'.2⟩
section
variable{N:Int}{E S:PS->R Nat}
theorem Hk{l:List Tok}{t:Tok}(h:l[i]?=some t)(hk:t.k≠5):kU (l.drop i)=0:=by
 have hlt:=(bS.1 h).1;rw[eB hlt];have:l[i]=t:=(bS.1 h).2;simp[kU,this,hk]
theorem Nr{N:Int}{s:PS}(h:WS N s)(hk:(nM s).k≠5):bM s=s:=by
 unfold bM;split
 ·rw[Hk (xD h) hk];rfl
 ·rfl
theorem qK{N:Int}{s:PS}(h:WS N s){w:Str}(hi:isS s w=true)(d:Nat)(q:Bool):bM {bM s with deep:=d,quiet:=q}={bM s with deep:=d,quiet:=q}/\(cur {bM s with deep:=d,quiet:=q}).k≠0/\(cur {bM s with deep:=d,quiet:=q}).a=(cur s).a:=by
 have hw:=(jN h).ws h;have hk:(nM (bM s)).k=4:=by
  unfold isS cur at hi;simp only[bU,fN]at hi;exact hi.1
 have e1:bM {bM s with deep:=d,quiet:=q}={bM s with deep:=d,quiet:=q}:=Nr (xA hw d q) (by show(nM (bM s)).k≠5;rw[hk];decide);have e2:(bM s).off=s.off:=by unfold bM;split<;>rfl
 refine⟨e1,?_,?_⟩
 ·unfold cur;rw[e1];show(nM (bM s)).k≠0;rw[hk];decide
 ·unfold cur;rw[e1];show(nM (bM s)).a+(bM s).off=(nM (bM s)).a+s.off;rw[e2]
abbrev Leaves(N:Int)(s:PS)(x:Nat)(s':PS):Prop:=Later N s s'/\s'.bl=s.bl/\∀roots,eU (exL s.ex) roots->eU (exL s'.ex) (x::roots)
theorem rI{s s1:PS}(h:WS N s)(hg:Later N s s1)(hb:s1.bl=s.bl){e:Ex}(ha:0<=e.a/\e.a<N)(hf:∀roots,eU (exL s.ex) roots->eU (exL s1.ex) (e.args++roots)):Sat (rX s1 e) (Leaves N s) (InN N):=
 (AH (hg.1.ws h) ha).mono λx s2 ⟨g2,i2,b2,f2⟩=>⟨⟨hg.1.trans g2,by have:=hg.2;rw[i2];exact this⟩,b2.trans hb,λroots hr=>f2 roots (hf roots hr)⟩
theorem IB(hE:EOk N E):EOk N (yG E):=by
 intro s h;have n1:=jN h;have hw1:=n1.ws h;have hc:=mA h;have x1:=jX s;unfold yG;simp only;split
 ·rename_i hk;have h2:=lY h (by rw[hk];decide);exact rI h h2 x1.2 (e:=⟨4,(cur s).t,[],[],(cur s).a⟩) ⟨hc.1,hc.2.2.1 (by rw[hk];decide)⟩ λroots hr=>by show eU (exL (bM s).ex) _;rw[x1.1];exact hr
 split
 ·rename_i hk;have h2:=lY h (by rw[hk];decide);refine(ME hE (h2.1.ws h) (t:=cur s) ⟨hc.1,hc.2.2.1 (by rw[hk];decide)⟩ (hc.2.2.2.1 hk)).mono λx s2 ⟨g2,b2,f2⟩=>⟨⟨h2.1.trans g2,by have:=h2.2;have:=g2.le;omega⟩,b2.trans x1.2,λroots hr=>f2 roots (by show eU (exL (bM s).ex) _;rw[x1.1];exact hr)⟩
 split
 ·rename_i hk;have hk0:(cur s).k≠0:=by rw[hk.1];decide
  have h2:=lY h hk0;have hw2:=h2.1.ws h;have n2:=jN hw2;have hw3:=n2.ws hw2;have hat:0<=(cur s).a/\(cur s).a<N:=⟨hc.1,hc.2.2.1 hk0⟩;split
  ·rename_i hi;have hc2:=mA hw2;refine Sat.bind (nK hw3 (a:=(cur (step1 (bM s))).a) (q:=true) ⟨hc2.1,hc2.2.1⟩ (P:=λus s'=>Later N {bM (step1 (bM s))with deep:=(bM (step1 (bM s))).deep+1,quiet:=true} s'/\s'.bl=s.bl/\∀roots,eU (exL s.ex) roots->eU (exL s'.ex) (us++roots)) λhw=>?_) λus s2 ⟨q,⟨g2,b2,f2⟩,e2⟩=>?_
   ·have hh:=qK hw2 hi ((bM (step1 (bM s))).deep+1) true;have h4:=lY hw hh.2.1;rw[hh.1]at h4;exact(FS hE [41] (h4.1.ws hw)).mono λus s' ⟨g,b,f⟩=>⟨h4.tr g,b.trans ((jX _).2.trans x1.2),λroots hr=>f roots (by show eU (exL (bM (step1 (bM s))).ex) _;rw[(jX _).1];show eU (exL (bM s).ex) _;rw[x1.1];exact hr)⟩
   ·subst e2;have g2':=g2.1.back;refine rI h ⟨h2.1.trans (n2.trans g2'),?_⟩ b2 (e:=⟨12,(cur s).t,us,[],(cur s).a⟩) hat f2;have:=h2.2;have:=n2.le;have:=g2'.le;omega
  ·exact rI h ⟨h2.1.trans n2,by have:=h2.2;have:=n2.le;omega⟩ ((jX _).2.trans x1.2) (e:=⟨rN (cur s).t,if rN (cur s).t=9 then(cur s).t else [],[],[],(cur s).a⟩) hat λroots hr=>by rw[(jX _).1];show eU (exL (bM s).ex) _;rw[x1.1];exact hr
 have hca:InN N (cur s).a:=⟨hc.1,hc.2.1⟩;have kZ:∀w,isS (bM s) w=isS s w:=λw=>by unfold isS;rw[mY]
 split
 ·rename_i hi;rw[kZ]at hi;refine(nK hw1 (a:=(cur s).a) (q:=true) hca (P:=λx s'=>Later N {bM s with deep:=(bM s).deep+1,quiet:=true} s'/\s'.bl=s.bl/\∀roots,eU (exL s.ex) roots->eU (exL s'.ex) (x::roots)) λhw=>?_).mono λx s2 ⟨q,⟨g2,b2,f2⟩,e2⟩=>?_
  ·have hh:=qK h hi ((bM s).deep+1) true;have h4:=lY hw hh.2.1;rw[hh.1]at h4;refine(hE _ (h4.1.ws hw)).bind λx q1 ⟨g1,b1,f1⟩=>?_;refine(mO (g1.1.ws (h4.1.ws hw)) [41]).bind λ_ q2 ⟨g2,e2,b2⟩=>?_;refine⟨h4.tr (g1.tr g2),b2.trans (b1.trans x1.2),λroots hr=>?_⟩;rw[e2];exact f1 roots (by show eU (exL (bM s).ex) _;rw[x1.1];exact hr)
  ·subst e2;have g2':=g2.1.back;exact⟨⟨n1.trans g2',by have:=n1.le;have:=g2.2;show s.i<q.i;simp only at this;omega⟩,b2,f2⟩
 split
 ·rename_i hi;rw[kZ]at hi;refine Sat.bind (nK hw1 (a:=(cur s).a) (q:=true) hca (P:=λ(e:Ex) s'=>Later N {bM s with deep:=(bM s).deep+1,quiet:=true} s'/\s'.bl=s.bl/\(0<=e.a/\e.a<N)/\∀roots,eU (exL s.ex) roots->eU (exL s'.ex) (e.args++roots)) λhw=>?_) λe s2 ⟨q,⟨g2,b2,a2,f2⟩,e2⟩=>?_
  ·have hh:=qK h hi ((bM s).deep+1) true;refine(NG hE hw hh.2.1 hh.1 ⟨hc.1,hc.2.2.1 (oK hi)⟩).mono λe s' ⟨g,b,a,f⟩=>⟨g,b.trans x1.2,a,λroots hr=>f roots (by show eU (exL (bM s).ex) _;rw[x1.1];exact hr)⟩
  ·subst e2;have g2':=g2.1.back;exact rI h ⟨n1.trans g2',by have:=n1.le;have:=g2.2;show s.i<q.i;simp only at this;omega⟩ b2 a2 f2
 split
 ·rename_i hi;rw[kZ]at hi;refine Sat.bind (nK hw1 (a:=(cur s).a) (q:=false) hca (P:=λ(e:Ex) s'=>Later N {bM s with deep:=(bM s).deep+1,quiet:=false} s'/\s'.bl=s.bl/\(0<=e.a/\e.a<N)/\∀roots,eU (exL s.ex) roots->eU (exL s'.ex) (e.args++roots)) λhw=>?_) λe s2 ⟨q,⟨g2,b2,a2,f2⟩,e2⟩=>?_
  ·have hh:=qK h hi ((bM s).deep+1) false;have h4:=lY hw hh.2.1;rw[hh.1]at h4;have l4:=mD (h4.1.ws hw);unfold HD;refine(Ki hE ⟨hc.1,hc.2.2.1 (oK hi)⟩ _ _ [] [] (l4.1.ws (h4.1.ws hw))).mono λe s' ⟨g,b,a,f⟩=>⟨h4.tr (Go1.tr l4.1 g),b.trans (l4.2.2.trans x1.2),a,λroots hr=>f roots (by rw[l4.2.1];show eU (exL (bM s).ex) _;rw[x1.1];exact hr)⟩
  ·subst e2;have g2':=g2.1.back;exact rI h ⟨n1.trans g2',by have:=n1.le;have:=g2.2;show s.i<q.i;simp only at this;omega⟩ b2 a2 f2
 ·exact hca
abbrev OI(N:Int)(s:PS)(x:Nat)(y:Nat)(s':PS):Prop:=Go1 N s s'/\s'.bl=s.bl/\∀roots,eU (exL s.ex) (x::roots)->eU (exL s'.ex) (y::roots)
theorem EL(hE:EOk N E):∀(n:Nat) (s:PS) (x:Nat),WS N s->Sat (rC E n s x) (OI N s x) (InN N)
 |0,s,_,h=>⟨mN _,h.pN⟩
 |n+1,s,x,h=>by
  have n1:=jN h
  have hw1:=n1.ws h
  have hc:=mA h
  have x1:=jX s
  have kZ:∀w,isS (bM s) w=isS s w:=λw=>by unfold isS;rw[mY]
  have hca:InN N (cur s).a:=⟨hc.1,hc.2.1⟩
  have more:∀{s2:PS} {e:Ex},Go1 N s s2->s2.bl=s.bl->0<=e.a/\e.a<N->(∀roots,eU (exL s.ex) (x::roots)->eU (exL s2.ex) (e.args++roots))->Sat ((rX s2 e).bind λy s3=>rC E n s3 y) (OI N s x) (InN N):=λ{s2 e} g2 b2 ha f2=>by
   refine(AH (g2.ws h) ha).bind λy s3 ⟨g3,_,b3,f3⟩=>?_
   exact(EL hE n s3 y (g3.ws (g2.ws h))).mono λz s4 ⟨g4,b4,f4⟩=>⟨g2.trans (g3.trans g4),b4.trans (b3.trans b2),λroots hr=>f4 roots (f3 roots (f2 roots hr))⟩
  simp only[rC]
  have t1:=lX hw1 [46]
  split
  ·rename_i ht
   have hk0:(cur s).k≠0:=by
    have:isS (bM s) [46]=true:=by
     unfold cS at ht;split at ht
     ·assumption
     ·cases ht
    rw[kZ]at this;exact oK this
   have hw2:=t1.1.ws hw1;refine(nT hw2 1 (by decide)).bind λu s2 ⟨g2,x2,b2,_⟩=>?_;exact more (e:=⟨10,u.t,[x],[],(cur s).a⟩) (n1.trans (t1.1.trans g2.1)) (b2.trans (t1.2.2.2.trans x1.2)) ⟨hc.1,hc.2.2.1 hk0⟩ λroots hr=>by rw[x2,t1.2.2.1,x1.1];exact hr
  split
  ·rename_i hi;rw[kZ]at hi;have hat:0<=(cur s).a/\(cur s).a<N:=⟨hc.1,hc.2.2.1 (oK hi)⟩;refine Sat.bind (nK hw1 (a:=(cur s).a) (q:=true) hca (P:=λ(o:Option Nat) s'=>Go1 N {bM s with deep:=(bM s).deep+1,quiet:=true} s'/\s'.bl=s.bl/\(o=none->s'.ex=s.ex)/\∀y,o=some y->∀roots,eU (exL s.ex) roots->eU (exL s'.ex) (y::roots)) λhw=>?_) λo s2 ⟨q,⟨g2,b2,f2,f2'⟩,e2⟩=>?_
   ·have hh:=qK h hi ((bM s).deep+1) true;have h4:=lY hw hh.2.1;rw[hh.1]at h4;have hw4:=h4.1.ws hw;have t4:=lX hw4 [42];have ex4:(step1 {bM s with deep:=(bM s).deep+1,quiet:=true}).ex=s.ex:=x1.1;have bl4:(step1 {bM s with deep:=(bM s).deep+1,quiet:=true}).bl=s.bl:=x1.2;split
    ·refine(mO (t4.1.ws hw4) [93]).bind λ_ q2 ⟨g5,x5,b5⟩=>?_;exact⟨h4.1.trans (t4.1.trans g5.1),b5.trans (t4.2.2.2.trans bl4),λ_=>x5.trans (t4.2.2.1.trans ex4),λy e=>by cases e⟩
    ·refine(hE _ (t4.1.ws hw4)).bind λy q1 ⟨g5,b5,f5⟩=>?_;refine(mO (g5.1.ws (t4.1.ws hw4)) [93]).bind λ_ q2 ⟨g6,x6,b6⟩=>?_;refine⟨h4.1.trans (t4.1.trans (g5.1.trans g6.1)),b6.trans (b5.trans (t4.2.2.2.trans bl4)),λe=>(by cases e),λz e roots hr=>?_⟩;injection e with e
     subst e;rw[x6];exact f5 roots (by rw[t4.2.2.1,ex4];exact hr)
   ·subst e2;have g2':=g2.back;have g02:=n1.trans g2';cases o with
    |some y=>
     simp only;refine more (e:=⟨11,[],[x,y],[],(cur s).a⟩) g02 b2 hat λroots hr=>?_;exact(f2' y rfl _ hr).perm (List.Perm.swap _ _ _)
    |none=>
     simp only;have hw2:=g02.ws h;refine(mO hw2 [46]).bind λ_ s3 ⟨g3,x3,b3⟩=>?_;refine(nT (g3.1.ws hw2) 1 (by decide)).bind λu s4 ⟨g4,x4,b4,_⟩=>?_;exact more (e:=⟨30,u.t,[x],[],(cur s).a⟩) (g02.trans (g3.1.trans g4.1)) (b4.trans (b3.trans b2)) hat λroots hr=>by rw[x4,x3];show eU (exL q.ex) _;rw[f2 rfl];exact hr
  ·exact⟨n1,x1.2,λroots hr=>by rw[x1.1];exact hr⟩
theorem Nf(hE:EOk N E):EOk N (BN E):=by
 intro s h;unfold BN;refine(IB hE s h).bind λx s1 ⟨g1,b1,f1⟩=>?_;exact(EL hE _ s1 x (g1.1.ws h)).mono λy s2 ⟨g2,b2,f2⟩=>⟨⟨g1.1.trans g2,by have:=g1.2;have:=g2.le;omega⟩,b2.trans b1,λroots hr=>f2 roots (f1 roots hr)⟩
theorem CO(hE:EOk N E)(hS:EOk N S):EOk N (wP E S):=by
 intro s h;have n1:=jN h;have hw1:=n1.ws h;have hc:=mA h;have x1:=jX s;have kZ:∀w,isS (bM s) w=isS s w:=λw=>by unfold isS;rw[mY]
 have hca:InN N (cur s).a:=⟨hc.1,hc.2.1⟩;have one:∀(w:Str) (k:Int),isS s w=true->Sat ((within (bM s) (cur s).a (bM s).quiet λq=>S (step1 q)).bind λx s2=>rX s2 ⟨k,[],[x],[],(cur s).a⟩) (Leaves N s) (InN N):=λw k hi=>by
  refine Sat.bind (nK hw1 (a:=(cur s).a) (q:=(bM s).quiet) hca (P:=λx s'=>Later N {bM s with deep:=(bM s).deep+1,quiet:=(bM s).quiet} s'/\s'.bl=s.bl/\∀roots,eU (exL s.ex) roots->eU (exL s'.ex) (x::roots)) λhw=>?_) λx s2 ⟨q,⟨g2,b2,f2⟩,e2⟩=>?_
  ·have hh:=qK h hi ((bM s).deep+1) (bM s).quiet;have h4:=lY hw hh.2.1;rw[hh.1]at h4;refine(hS _ (h4.1.ws hw)).mono λx q1 ⟨g1,b1,f1⟩=>⟨h4.tr g1,b1.trans x1.2,λroots hr=>f1 roots (by show eU (exL (bM s).ex) _;rw[x1.1];exact hr)⟩
  ·subst e2;have g2':=g2.1.back;exact rI h ⟨n1.trans g2',by have:=n1.le;have:=g2.2;show s.i<q.i;simp only at this;omega⟩ b2 (e:=⟨k,[],[x],[],(cur s).a⟩) ⟨hc.1,hc.2.2.1 (oK hi)⟩ f2
 unfold wP;simp only;split
 ·rename_i hi;rw[kZ]at hi;exact one [33] 14 hi
 split
 ·rename_i hi;rw[kZ]at hi;exact one [45] 13 hi
 ·exact(Nf hE (bM s) hw1).mono λx s2 ⟨g2,b2,f2⟩=>⟨⟨n1.trans g2.1,by have:=n1.le;have:=g2.2;omega⟩,b2.trans x1.2,λroots hr=>f2 roots (by rw[x1.1];exact hr)⟩
theorem Fc{J:PS->R Nat}(hJ:EOk N J)(k:Nat):∀(f:Nat) (s:PS) (x:Nat),WS N s->Sat (wQ J k f s x) (OI N s x) (InN N)
 |0,s,_,h=>⟨mN _,h.pN⟩
 |f+1,s,x,h=>by
  have n1:=jN h
  have x1:=jX s
  have hc:=mA h
  simp only[wQ]
  split
  ·exact⟨n1,x1.2,λroots hr=>by rw[x1.1];exact hr⟩
  ·rename_i hl
   have hk0:(cur s).k≠0:=λe=>hl (by unfold rO;rw[e];rfl)
   have h2:=lY h hk0
   refine(hJ _ (h2.1.ws h)).bind λb s1 ⟨g1,b1,f1⟩=>?_
   have g01:=h2.1.trans g1.1
   refine(AH (g01.ws h) (e:=⟨rO (cur s) k,[],[x,b],[],(cur s).a⟩) ⟨hc.1,hc.2.2.1 hk0⟩).bind λy s2 ⟨g2,_,b2,f2⟩=>?_
   refine(Fc hJ k f s2 y (g2.ws (g01.ws h))).mono λz s3 ⟨g3,b3,f3⟩=>⟨g01.trans (g2.trans g3),b3.trans (b2.trans (b1.trans x1.2)),λroots hr=>f3 roots (f2 roots ?_)⟩
   exact(f1 _ (by show eU (exL (bM s).ex) _;rw[x1.1];exact hr)).perm (List.Perm.swap _ _ _)
theorem uW(hE:EOk N E)(hS:EOk N S):∀m,EOk N (rZ E S m)
 |0=>CO hE hS
 |m+1=>λs h=>by
  simp only[rZ]
  refine(uW hE hS m s h).bind λa s1 ⟨g1,b1,f1⟩=>?_
  exact(Fc (uW hE hS m) (5-m) _ s1 a (g1.1.ws h)).mono λy s2 ⟨g2,b2,f2⟩=>⟨⟨g1.1.trans g2,by have:=g1.2;have:=g2.le;omega⟩,b2.trans b1,λroots hr=>f2 roots (f1 roots hr)⟩
theorem Ia(hE:EOk N E)(hS:EOk N S):EOk N (zT E S):=by
 intro s h;unfold zT;refine(uW hE hS 6 s h).bind λa s1 ⟨g1,b1,f1⟩=>?_;have hw1:=g1.1.ws h;have hc:=mA hw1;have t1:=lX hw1 [63];have hw2:=t1.1.ws hw1;simp only;split
 ·rename_i ht;have hk0:(cur s1).k≠0:=by
   have:isS s1 [63]=true:=by
    unfold cS at ht;split at ht
    ·assumption
    ·cases ht
   exact oK this
  refine Sat.bind (nK hw2 (a:=(cur s1).a) (q:=(cS s1 [63]).2.quiet) ⟨hc.1,hc.2.1⟩ (P:=λ(z:Nat×Nat) s'=>Go1 N {(cS s1 [63]).2 with deep:=(cS s1 [63]).2.deep+1,quiet:=(cS s1 [63]).2.quiet} s'/\s'.bl=s.bl/\∀roots,eU (exL s.ex) roots->eU (exL s'.ex) ([a,z.1,z.2]++roots)) λhw=>?_) λz s2 ⟨q,⟨g2,b2,f2⟩,e2⟩=>?_
  ·refine(hE _ hw).bind λx q1 ⟨g3,b3,f3⟩=>?_;have hw3:=g3.1.ws hw;refine(mO hw3 [58]).bind λ_ q2 ⟨g4,x4,b4⟩=>?_;have hw4:=g4.1.ws hw3;refine(hE _ hw4).bind λy q3 ⟨g5,b5,f5⟩=>?_;refine⟨g3.1.trans (g4.1.trans g5.1),b5.trans (b4.trans (b3.trans (t1.2.2.2.trans b1))),λroots hr=>?_⟩;have k1:=f3 _ (by show eU (exL (cS s1 [63]).2.ex) _;rw[t1.2.2.1];exact f1 roots hr);have k2:=f5 _ (by rw[x4];exact k1);refine k2.perm ?_;show(y::x::a::roots).Perm (a::x::y::roots);exact((List.Perm.swap x y _).trans ((List.Perm.swap a y _).cons x)).trans (List.Perm.swap a x _)
  ·subst e2;have g2':=g2.back;exact rI h ⟨g1.1.trans (t1.1.trans g2'),by have:=g1.2;have:=t1.1.le;have:=g2.le;show s.i<q.i;simp only at this;omega⟩ b2 (e:=⟨28,[],[a,z.1,z.2],[],(cur s1).a⟩) ⟨hc.1,hc.2.2.1 hk0⟩ f2
 ·exact⟨⟨g1.1.trans t1.1,by have:=g1.2;have:=t1.1.le;omega⟩,t1.2.2.2.trans b1,λroots hr=>by rw[t1.2.2.1];exact f1 roots hr⟩
end
theorem zB(N:Int):EOk N dead:=λ_ h=>⟨mN _,h.pN⟩
theorem tM(N:Int):∀d,EOk N (sB d).1/\EOk N (sB d).2
 |0=>⟨Ia (zB N) (zB N),CO (zB N) (zB N)⟩
 |d+1=>⟨Ia (tM N d).1 (tM N d).2,CO (tM N d).1 (tM N d).2⟩
def wt(t:Tok):Nat:=if t.k=0 then 0 else if t.k=3/\(insP t.t).isSome=true then t.t.length+2 else 1
def wts(l:List Tok):Nat:=(l.map wt).sum
def phi(s:PS):Nat:=s.ex.length+s.bl.length+wts (s.toks.drop s.i)
theorem Ao(t:Tok)(l:List Tok):wts (t::l)=wt t+wts l:=by simp[wts]
theorem sZ:∀(l:List Tok) (i:Nat),wts (l.drop i)<=wts l
 |[],i=>by simp
 |t::l,0=>aZ _
 |t::l,i+1=>by
  rw[eL,Ao]
  have:=sZ l i
  omega
theorem Hc:∀(n:Nat) (s:Str) (a cnt:Nat) (l:List Tok),nQ n s a cnt=.ok l->wts l<=s.length
 |0,_,_,_,_,h=>by simp[nQ]at h
 |n+1,s,a,cnt,l,h=>by
  have hk:=vP (s.length+1) s
  simp only[nQ]at h
  split at h
  ·cases h
  split at h
  ·injection h with h
   subst h
   rw[Ao]
   simp[wt,wts]
  rename_i hr
  split at h
  ·cases h
  rename_i ho
  split at h
  ·cases h
  have hlen:s.length-(jP (s.length+1) s).1=(s.drop (jP (s.length+1) s).1).length:=(aX ..).symm
  obtain⟨o1,o2,o3,o4,o5,o6⟩:=Gr hr (jO rfl (jO rfl (Classical.not_not.1 ho)):oN (s.drop (jP (s.length+1) s).1)=((oN (s.drop (jP (s.length+1) s).1)).1,(oN (s.drop (jP (s.length+1) s).1)).2.1,0))
  split at h
  ·rename_i l' hl'
   injection h with h
   subst h
   have ih:=Hc n _ _ _ _ hl'
   rw[aX]at ih
   rw[Ao]
   have:wt ⟨(oN (s.drop (jP (s.length+1) s).1)).1.k,(oN (s.drop (jP (s.length+1) s).1)).1.t,((a+(jP (s.length+1) s).1:Nat):Int)⟩<=(oN (s.drop (jP (s.length+1) s).1)).2.1:=by
    unfold wt;split
    ·omega
    split
    ·rename_i hx;rcases o6 hx.1 with h|h
     ·rw[h]at hx;simp at hx
     ·exact h
    ·omega
   omega
  ·rename_i hne;exact absurd h (hne l)
theorem Cq{s:Str}{l:List Tok}(h:nP s=.ok l):wts l<=s.length:=by
 unfold nP at h;split at h
 ·cases h
 split at h
 ·cases h
 exact Hc _ _ _ _ _ h
abbrev TT:Int->Prop:=λ_=>True
theorem mG(s:PS):phi (bM s)<=phi s:=by
 unfold bM;split
 ·unfold phi;simp only;have:=sZ (s.toks.drop s.i) (kU (s.toks.drop s.i));rw[kP]at this;omega
 ·exact aZ _
theorem AI{s:PS}(h:(nM s).k≠0):phi (step1 s)+wt (nM s)<=phi s:=by
 have hlt:s.i<s.toks.length:=by
  by_cases hl:s.i<s.toks.length
  ·exact hl
  ·unfold nM at h;rw[bR,eW (by omega)]at h;exact absurd rfl h
 unfold phi step1;simp only;rw[eB hlt,Ao];have:nM s=s.toks[s.i]:=by unfold nM;rw[bR,aG hlt];rfl
 rw[this];omega
theorem FZ{t:Tok}(h:t.k≠0):1<=wt t:=by unfold wt;rw[aL h];split<;>omega
theorem qQ{s:PS}(h:(cur s).k≠0):phi (step1 (bM s))+wt (nM (bM s))<=phi s/\phi (step1 (bM s))+1<=phi s:=by
 have h':(nM (bM s)).k≠0:=h;have h1:=AI h';have h2:=mG s;have h3:=FZ h';omega
theorem nA(s:PS)(w:Str):phi (cS s w).2<=phi s/\((cS s w).1=true->phi (cS s w).2+1<=phi s):=by
 unfold cS;split
 ·rename_i hi;have:=(qQ (oK hi)).2;exact⟨Nat.le_of_succ_le this,λ_=>this⟩
 ·exact⟨mG s,λe=>by cases e⟩
theorem mZ(s:PS)(w:Str):Sat (pK s w) (λ_ s'=>phi s'+1<=phi s) TT:=by
 unfold pK;split
 ·rename_i hi;exact(qQ (oK hi)).2
 ·trivial
theorem uR(s:PS):phi (kY s)<=phi s/\((cur s).k≠0->phi (kY s)+wt (nM (bM s))<=phi s/\phi (kY s)+1<=phi s):=by
 unfold kY;split
 ·rename_i hk;have:=qQ hk;exact⟨by omega,λ_=>this⟩
 ·rename_i hk;exact⟨mG s,λe=>absurd e hk⟩
theorem pX(s:PS)(k:Int):Sat (nC s k) (λ_ s'=>phi s'<=phi s/\(k≠0->phi s'+1<=phi s)) TT:=by
 unfold nC;split
 ·rename_i hk;have:=uR s;exact⟨this.1,λh=>(this.2 (by rw[hk];exact h)).2⟩
 ·trivial
theorem uS(s:PS):phi (jE s)<=phi s:=by
 have h:=mG s;unfold jE phi at*
 simp only at*
 have e:(bM s).toks=s.toks:=by unfold bM;split<;>rfl
 have:=sZ ((bM s).toks.drop (bM s).i) (kU (s.toks.drop (bM s).i));rw[kP]at this;omega
theorem mW(s:PS)(e:Ex):Sat (rX s e) (λ_ s'=>phi s'<=phi s+1) TT:=by
 show phi _<=_;unfold phi;simp only[aP,aB,aK];omega
theorem nN{α:Type}{s:PS}{a:Int}{q:Bool}{f:PS->R α}{P:α->Nat->Prop}(h:Sat (f {s with deep:=s.deep+1,quiet:=q}) (λx s'=>P x (phi s')) TT):Sat (within s a q f) (λx s'=>P x (phi s')) TT:=by
 unfold within;split
 ·trivial
 ·exact h.bind λx s' hx=>hx
def EZ(F:PS->R Nat):Prop:=∀s,Sat (F s) (λ_ s'=>phi s'<=phi s) TT
section
variable{E S:PS->R Nat}
theorem ES(hE:EZ E)(s:PS)(t:Str)(a:Int):Sat (pR E s t a) (λ_ s'=>phi s'<=phi s+t.length) TT:=by
 unfold pR;split
 ·trivial
 ·rename_i l hs;have hw:=Cq hs;refine(hE _).bind λx q hq=>?_;refine(pX q 0).bind λ_ q' hq'=>?_;have h1:phi q'<=s.ex.length+s.bl.length+wts l:=dR hq'.1 hq;show phi _<=_;unfold phi at h1⊢;simp only;omega
theorem EN(s:PS)(t:Tok):Sat (qF s t) (λ_ s'=>s'=s) TT:=by
 unfold qF;split
 ·trivial
 ·rfl
theorem Bt(hE:EZ E):∀(n:Nat) (s:PS) (rest:Str) (a:Int) (us:List Nat) (ks:List Str),Sat (oG E n s rest a us ks) (λ_ s'=>phi s'<=phi s+rest.length) TT
 |0,_,_,_,_,_=>trivial
 |n+1,s,rest,a,us,ks=>by
  have one:∀(e:Ex),phi {s with ex:=s.ex++[e]}<=phi s+1:=λe=>mW s e
  simp only[oG]
  split
  ·exact Nat.le_add_right _ _
  rename_i hne
  have hpos:1<=rest.length:=iG.2 hne
  split
  ·have:=one ⟨5,jR rest,[],[],a⟩
   show phi _<=_
   omega
  ·rename_i i e hi
   obtain⟨i1,i2,i3⟩:=AS rest.length rest (aZ _) i e hi
   have hs1:∃s1,s1=(if 0<i then{s with ex:=s.ex++[⟨5,jR (rest.take i),[],[],a⟩]}else s)/\phi s1<=phi s+i:=by
    refine⟨_,rfl,?_⟩;split
    ·have:=one ⟨5,jR (rest.take i),[],[],a⟩;omega
    ·omega
   obtain⟨s1,e1,g1⟩:=hs1;rw[<-e1];have hd:(rest.drop e).length=rest.length-e:=aX ..;split
   ·refine Sat.bind (nN (P:=λ_ n=>n<=phi s1+(e-1-(i+2))) ?_) λx s2 h2=>?_
    ·refine(ES hE _ _ _).mono λx s' h=>?_;refine dR h ?_;have:((rest.drop (i+2)).take (e-1-(i+2))).length<=e-1-(i+2):=List.length_take_le _ _;exact vI this _
    ·refine(Bt hE n s2 (rest.drop e) _ _ _).mono λy s3 h3=>?_;rw[hd]at h3;omega
   ·refine(Bt hE n s1 (rest.drop e) _ _ _).mono λy s3 h3=>?_;rw[hd]at h3;omega
theorem Ni(hE:EZ E)(s:PS)(t:Tok)(hk:t.k=3):Sat (zN E s t) (λ_ s'=>phi s'<=phi s+wt t) TT:=by
 unfold zN;split
 ·rename_i hi;have e:wt t=t.t.length+2:=by unfold wt;rw[aL (by omega),aU ⟨hk,hi⟩]
  refine(Bt hE _ s t.t _ _ _).bind λx s1 h1=>?_;refine(mW s1 _).mono λy s2 h2=>?_;omega
 ·rename_i hi;have e:wt t=1:=by unfold wt;rw[aL (by omega),aL (λh=>hi h.2)]
  rw[e];exact mW s _
theorem EU(hE:EZ E)(w:Str):∀(n:Nat) (s:PS) (out:List Nat),Sat (sF E w n s out) (λ_ s'=>phi s'<=phi s) TT
 |0,_,_=>trivial
 |n+1,s,out=>by
  have t1:=nA s w
  have step:∀{s1:PS},phi s1<=phi s->Sat ((E s1).bind λx s'=>sF E w n s' (out++[x])) (λ_ s'=>phi s'<=phi s) TT:=λ{s1} g1=>
   (hE s1).bind λx s2 g2=>(EU hE w n s2 (out++[x])).mono λy s3 g3=>by omega
  simp only[sF]
  split
  ·exact t1.1
  split
  ·rename_i ho
   have:=step t1.1
   exact this
  ·refine(mZ _ [44]).bind λ_ s1 g1=>?_
   have t2:=nA s1 w
   split
   ·show phi _<=_
    omega
   ·exact step (by omega)
theorem Hy(hE:EZ E)(w:Str)(s:PS):Sat (DX E w s) (λ_ s'=>phi s'<=phi s) TT:=EU hE w _ s []
theorem Nk(hE:EZ E){s:PS}(h:(cur s).k≠0)(hn:bM s=s)(a:Int):Sat (zP E s a) (λ_ s'=>phi s'+1<=phi s) TT:=by
 have h0:=(qQ h).2;rw[hn]at h0;have h1:=mG (step1 s);unfold zP;simp only;split
 ·refine(Hy hE [93] _).bind λus s1 g1=>?_;show phi s1+1<=_;omega
 ·rename_i hc;have hk1:(cur (step1 s)).k≠0:=λe=>hc (.inl (by rw[e];decide));have h2:=(qQ hk1).2;refine(pX _ 1).bind λt s2 g2=>(pX s2 1).bind λu s3 g3=>?_;split
  ·trivial
  refine(hE s3).bind λx s4 g4=>(mZ s4 _).bind λ_ s5 g5=>(hE s5).bind λy s6 g6=>(mZ s6 _).bind λ_ s7 g7=>?_;show phi s7+1<=_;omega
theorem Hu(hE:EZ E)(a:Int):∀(n:Nat) (s:PS) (us:List Nat) (ks:List Str),Sat (Ch E a n s us ks) (λ_ s'=>phi s'<=phi s) TT
 |0,_,_,_=>trivial
 |n+1,s,us,ks=>by
  have t1:=nA s [125]
  have n1:=uR (cS s [125]).2
  simp only[Ch]
  split
  ·exact t1.1
  refine Sat.bind (P:=λ_ s3=>s3=kY (cS s [125]).2) ?_ λk s3 e3=>?_
  ·split
   ·exact EN _ _
   ·split
    ·rfl
    ·trivial
  subst e3
  split
  ·trivial
  refine(mZ _ [61]).bind λ_ s4 g4=>(hE s4).bind λx s5 g5=>?_
  have t5:=nA s5 [44]
  have m5:=mG (cS s5 [44]).2
  split
  ·trivial
  have l6:phi (if(cS s5 [44]).1=true then(cS s5 [44]).2 else bM (cS s5 [44]).2)<=phi s5:=by split<;>omega
  generalize (if(cS s5 [44]).1=true then(cS s5 [44]).2 else bM (cS s5 [44]).2)=s6 at*
  have l7:=uS s6
  refine(Hu hE a n (jE s6) _ _).mono λe s8 g8=>?_
  omega
theorem Hw(hE:EZ E):EZ (yG E):=by
 intro s;have n1:=mG s;have kZ:∀w,isS (bM s) w=isS s w:=λw=>by unfold isS;rw[mY]
 unfold yG;simp only;split
 ·rename_i hk;have h2:=(qQ (s:=s) (by rw[hk];decide)).2;exact(mW _ _).mono λx s' g=>by omega
 split
 ·rename_i hk;have h2:=(qQ (s:=s) (by rw[hk];decide)).1;refine(Ni hE _ _ hk).mono λx s' g=>?_;have e:wt (cur s)=wt (nM (bM s)):=rfl;omega
 split
 ·rename_i hk;have h2:=(qQ (s:=s) (by rw[hk.1];decide)).2;have n2:=mG (step1 (bM s));split
  ·rename_i hi;refine Sat.bind (nN (P:=λ_ n=>n<=phi (bM (step1 (bM s)))) ?_) λus s2 g2=>?_
   ·refine(Hy hE [41] _).mono λx s' g=>dR g ?_;show phi (step1 _)<=_;exact vI (by have:=sZ ((bM (step1 (bM s))).toks.drop (bM (step1 (bM s))).i) 1;rw[kP]at this;exact this) _
   ·exact(mW s2 _).mono λx s' g=>by omega
  ·exact(mW _ _).mono λx s' g=>by omega
 have step1_le:∀(s:PS),phi (step1 s)<=phi s:=λs=>vI (by have:=sZ (s.toks.drop s.i) 1;rw[kP]at this;exact this) _;have ph:∀(s:PS) (d:Nat) (q:Bool),phi {s with deep:=d,quiet:=q}=phi s:=λ_ _ _=>rfl;split
 ·refine Sat.mono (nN (P:=λ_ n=>n<=phi (bM s)) ?_) λx s' g=>by omega
  refine(hE _).bind λx q1 g1=>(mZ q1 _).bind λ_ q2 g2=>?_;show phi q2<=_;have h1:=step1_le (bM s);have h2:phi q1<=phi (step1 (bM s)):=g1;omega
 split
 ·rename_i hi;rw[kZ]at hi;have hk:(nM (bM s)).k≠0:=oK hi;have h4:(nM (bM s)).k=4:=by
   unfold isS cur at hi;simp only[bU,fN]at hi;exact hi.1
  refine Sat.bind (nN (P:=λ_ n=>n+1<=phi (bM s)) ?_) λe s2 g2=>?_
  ·have hr:bM {bM s with deep:=(bM s).deep+1,quiet:=true}={bM s with deep:=(bM s).deep+1,quiet:=true}:=by
    have hlt:(bM s).i<(bM s).toks.length:=by
     by_cases hl:(bM s).i<(bM s).toks.length
     ·exact hl
     ·unfold nM at hk;rw[bR,eW (by omega)]at hk;exact absurd rfl hk
    have:kU ((bM s).toks.drop (bM s).i)=0:=by
     refine Hk (t:=nM (bM s)) ?_ (by omega);unfold nM;rw[bR,aG hlt];rfl
    unfold bM;simp only[qH];show({bM s with i:=(bM s).i+kU ((bM s).toks.drop (bM s).i),deep:=(bM s).deep+1,quiet:=true}:PS)=_;rw[this];rfl
   refine(Nk hE ?_ hr _).mono λe s' g=>g;unfold cur;rw[hr];exact hk
  ·exact(mW s2 _).mono λx s' g=>by omega
 split
 ·rename_i hi;rw[kZ]at hi;have hk:(nM (bM s)).k≠0:=oK hi;have h1:=AI hk;have h2:=FZ hk;refine Sat.bind (nN (P:=λ_ n=>n+1<=phi (bM s)) ?_) λe s2 g2=>?_
  ·unfold HD;refine(Hu hE _ _ _ [] []).mono λe s' g=>?_;have h3:=uS (step1 (⟨(bM s).toks,(bM s).i,(bM s).off,(bM s).deep+1,false,(bM s).ex,(bM s).bl⟩:PS));have h4:phi (step1 (⟨(bM s).toks,(bM s).i,(bM s).off,(bM s).deep+1,false,(bM s).ex,(bM s).bl⟩:PS))=phi (step1 (bM s)):=rfl;omega
  ·exact(mW s2 _).mono λx s' g=>by omega
 ·trivial
theorem yO(hE:EZ E):∀(n:Nat) (s:PS) (x:Nat),Sat (rC E n s x) (λ_ s'=>phi s'<=phi s) TT
 |0,_,_=>trivial
 |n+1,s,x=>by
  have n1:=mG s
  have t1:=nA (bM s) [46]
  have kZ:∀w,isS (bM s) w=isS s w:=λw=>by unfold isS;rw[mY]
  have step1_le:∀(s:PS),phi (step1 s)<=phi s:=λs=>vI (by have:=sZ (s.toks.drop s.i) 1;rw[kP]at this;exact this) _
  simp only[rC]
  split
  ·rename_i ht
   refine(pX _ 1).bind λu s2 g2=>(mW s2 _).bind λy s3 g3=>(yO hE n s3 y).mono λz s4 g4=>?_
   have:=t1.2 ht
   have:=g2.2 (by decide)
   omega
  split
  ·rename_i hi
   rw[kZ]at hi
   have hk:(nM (bM s)).k≠0:=oK hi
   have h1:=AI hk
   have h2:=FZ hk
   refine Sat.bind (nN (P:=λ_ n=>n+1<=phi (bM s)) ?_) λo s2 g2=>?_
   ·have h4:phi (step1 (⟨(bM s).toks,(bM s).i,(bM s).off,(bM s).deep+1,true,(bM s).ex,(bM s).bl⟩:PS))=phi (step1 (bM s)):=rfl
    have t5:=nA (step1 (⟨(bM s).toks,(bM s).i,(bM s).off,(bM s).deep+1,true,(bM s).ex,(bM s).bl⟩:PS)) [42]
    split
    ·refine(mZ _ _).bind λ_ q2 g=>?_
     show phi q2+1<=_
     omega
    ·refine(hE _).bind λy q1 g=>(mZ q1 _).bind λ_ q2 g'=>?_
     show phi q2+1<=_
     omega
   ·cases o with
    |some y=>
     simp only
     exact(mW s2 _).bind λz s3 g3=>(yO hE n s3 z).mono λz s4 g4=>by omega
    |none=>
     simp only
     exact(mZ s2 _).bind λ_ s3 g3=>(pX s3 1).bind λu s4 g4=>(mW s4 _).bind λz s5 g5=>(yO hE n s5 z).mono λz s6 g6=>by have:=g4.1;omega
  ·exact n1
theorem Nj(hE:EZ E):EZ (BN E):=λs=>by
 unfold BN
 exact(Hw hE s).bind λx s1 g1=>(yO hE _ s1 x).mono λy s2 g2=>by omega
theorem CX(hE:EZ E)(hS:EZ S):EZ (wP E S):=by
 intro s;have n1:=mG s;have kZ:∀w,isS (bM s) w=isS s w:=λw=>by unfold isS;rw[mY]
 have one:∀(w:Str) (k:Int),isS s w=true->Sat ((within (bM s) (cur s).a (bM s).quiet λq=>S (step1 q)).bind λx s2=>rX s2 ⟨k,[],[x],[],(cur s).a⟩) (λ_ s'=>phi s'<=phi s) TT:=λw k hi=>by
  have hk:(nM (bM s)).k≠0:=oK hi;have h1:=AI hk;have h2:=FZ hk;refine Sat.bind (nN (P:=λ_ n=>n+1<=phi (bM s)) ?_) λx s2 g2=>?_
  ·refine(hS _).mono λx s' g=>?_;have h4:phi (step1 (⟨(bM s).toks,(bM s).i,(bM s).off,(bM s).deep+1,(bM s).quiet,(bM s).ex,(bM s).bl⟩:PS))=phi (step1 (bM s)):=rfl;omega
  ·exact(mW s2 _).mono λy s3 g3=>by omega
 unfold wP;simp only;split
 ·rename_i hi;rw[kZ]at hi;exact one [33] 14 hi
 split
 ·rename_i hi;rw[kZ]at hi;exact one [45] 13 hi
 ·exact(Nj hE (bM s)).mono λx s2 g2=>by omega
theorem EO{J:PS->R Nat}(hJ:EZ J)(k:Nat):∀(f:Nat) (s:PS) (x:Nat),Sat (wQ J k f s x) (λ_ s'=>phi s'<=phi s) TT
 |0,_,_=>trivial
 |f+1,s,x=>by
  have n1:=mG s
  simp only[wQ]
  split
  ·exact n1
  ·rename_i hl
   have hk0:(cur s).k≠0:=λe=>hl (by unfold rO;rw[e];rfl)
   have h2:=(qQ hk0).2
   exact(hJ _).bind λb s1 g1=>(mW s1 _).bind λy s2 g2=>(EO hJ k f s2 y).mono λz s3 g3=>by omega
theorem uT(hE:EZ E)(hS:EZ S):∀m,EZ (rZ E S m)
 |0=>CX hE hS
 |m+1=>λs=>by
  simp only[rZ]
  exact(uT hE hS m s).bind λa s1 g1=>(EO (uT hE hS m) _ _ s1 a).mono λy s2 g2=>by omega
theorem Hv(hE:EZ E)(hS:EZ S):EZ (zT E S):=by
 intro s;unfold zT;refine(uT hE hS 6 s).bind λa s1 g1=>?_;have t1:=nA s1 [63];simp only;split
 ·rename_i ht;refine Sat.bind (nN (P:=λ_ n=>n<=phi (cS s1 [63]).2) ?_) λz s2 g2=>?_
  ·refine(hE _).bind λx q1 g3=>(mZ q1 _).bind λ_ q2 g4=>(hE q2).bind λy q3 g5=>?_;have h4:phi (⟨(cS s1 [63]).2.toks,(cS s1 [63]).2.i,(cS s1 [63]).2.off,(cS s1 [63]).2.deep+1,(cS s1 [63]).2.quiet,(cS s1 [63]).2.ex,(cS s1 [63]).2.bl⟩:PS)=phi (cS s1 [63]).2:=rfl;show phi q3<=_;omega
  ·exact(mW s2 _).mono λy s3 g3=>by have:=t1.2 ht;omega
 ·show phi _<=_;omega
end
theorem xY:EZ dead:=λ_=>trivial
theorem wE:∀d,EZ (sB d).1/\EZ (sB d).2
 |0=>⟨Hv xY xY,CX xY xY⟩
 |d+1=>⟨Hv (wE d).1 (wE d).2,CX (wE d).1 (wE d).2⟩
section
variable{E B:PS->R Nat}
theorem CY:∀(n:Nat) (s:PS) (ls:List Str),Sat (qR n s ls) (λ_ s'=>phi s'<=phi s) TT
 |0,_,_=>trivial
 |n+1,s,ls=>by
  have n1:=uR s
  simp only[qR]
  split
  ·exact(EN _ _).bind λl s1 e1=>by subst e1;exact(CY n _ (ls++[l])).mono λ_ s2 g=>by omega
  ·exact mG s
theorem IG(l:List Tok){j:Nat}(h:i<=j):wts (l.drop j)<=wts (l.drop i):=by
 have:=sZ (l.drop i) (j-i);rw[kP,show i+(j-i)=j by omega]at this;exact this
theorem HF(s:PS):s.i<=(bM s).i:=by unfold bM;split;exact Nat.le_add_right _ _;exact aZ _
theorem Nl(hE:EZ E)(hB:EZ B)(s:PS)(us:List Atr)(bs:List Nat):Sat (zR E B s us bs) (λ_ s'=>phi s'<=phi s) TT:=by
 unfold zR;refine Sat.bind (P:=λ_ s1=>s1=step1 (bM s)/\phi s1+1<=phi s) ?_ λt s1 ⟨e1,h1⟩=>?_
 ·unfold nC;split
  ·rename_i hk;have hk0:(cur s).k≠0:=by rw[hk];decide
   refine⟨by unfold kY;rw[aU hk0],((uR s).2 hk0).2⟩
  ·trivial
 have t1:=nA s1 [61];split
 ·exact(hE _).bind λx s2 h2=>by show phi s2<=_;omega
 ·rename_i ht;refine Sat.bind (hB _) λx s2 h2=>?_;show phi s2<=_;refine dR h2 ?_;have e2:(cS s1 [61]).2=bM s1:=by
   unfold cS at ht⊢;split
   ·rename_i hi;rw[aU hi]at ht;exact absurd rfl ht
   ·rfl
  rw[e2];have hi:s.i<=(bM s1).i-1:=by
   have h1:=HF s;have h2:=HF s1;have h3:s1.i=(bM s).i+1:=by rw[e1];rfl
   omega
  have x1:(bM s1).ex=s.ex:=(jX s1).1.trans (by rw[e1];exact(jX s).1);have x2:(bM s1).bl=s.bl:=(jX s1).2.trans (by rw[e1];exact(jX s).2);have x3:(bM s1).toks=s.toks:=by
   have h1:∀s:PS,(bM s).toks=s.toks:=λs=>by unfold bM;split<;>rfl
   rw[h1,e1];exact h1 s
  unfold phi;simp only;rw[x1,x2,x3];have:=IG s.toks hi;omega
theorem EP(hE:EZ E)(hB:EZ B):∀(n:Nat) (s:PS) (us:List Atr) (bs:List Nat),Sat (qT E B n s us bs) (λ_ s'=>phi s'<=phi s) TT
 |0,_,_,_=>trivial
 |n+1,s,us,bs=>by
  have t1:=nA s [125]
  simp only[qT]
  split
  ·exact t1.1
  refine(Nl hE hB _ us bs).bind λx s1 g1=>?_
  have m1:=mG s1
  split
  ·trivial
  have l1:=uS (bM s1)
  exact(EP hE hB n _ x.1 x.2).mono λy s2 g2=>by omega
theorem ET(hE:EZ E)(hB:EZ B):EZ (uH E B):=by
 intro s;unfold uH;refine(pX s 1).bind λt s1 g1=>(CY _ s1 []).bind λls s2 g2=>?_;have n2:=mG s2;split
 ·trivial
 refine Sat.bind (nN (P:=λ_ n=>n<=phi (bM s2)) ?_) λx s3 g3=>?_
 ·refine(EP hE hB _ _ [] []).mono λx s' g=>?_;have h3:=uS (step1 (⟨(bM s2).toks,(bM s2).i,(bM s2).off,(bM s2).deep+1,false,(bM s2).ex,(bM s2).bl⟩:PS));have h4:phi (step1 (⟨(bM s2).toks,(bM s2).i,(bM s2).off,(bM s2).deep+1,false,(bM s2).ex,(bM s2).bl⟩:PS))<=phi (bM s2):=vI (IG _ (rV _)) _;omega
 ·show phi _<=_;have h1:=g1.2 (by decide);have e:phi {s3 with bl:=s3.bl++[⟨t.t,ls,x.1,x.2,t.a⟩]}=phi s3+1:=by
   unfold phi;simp only[aP,aB,aK];omega
  have e':phi (⟨s3.toks,s3.i,s3.off,s3.deep,s3.quiet,s3.ex,s3.bl++[⟨t.t,ls,x.1,x.2,t.a⟩]⟩:PS)=phi s3+1:=e;omega
end
theorem Iz:∀d,EZ (yE d)
 |0=>ET xY xY
 |d+1=>ET (wE d).1 (Iz d)
theorem Wr(s:PS):s.ex.length<=phi s/\s.bl.length<=phi s:=by unfold phi;omega
end
end Go.Syn
