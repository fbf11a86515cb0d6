/- One plain sentence: contracts and plain laws that the claim rests on. Conditions: those that each states. -/
import Derived.Orders
import Derived.Laws.World
import Derived.KernelRfl
import Derived.Laws.Strings
import Derived.Tactics
import Derived.Scope
import Derived.Below
import Derived.Laws.AppendOwn
import Derived.Laws.BytesArg
import Derived.Test.YtjblfcfdeaagpaaGreatDoorProg
import Derived.Lib.DecodeN
import Derived.Lib.RuneBytes
import Derived.Lib.Index
import Derived.Recover
set_option linter.all false
set_option linter.unusedSimpArgs false
set_option linter.unusedVariables false
set_option linter.unusedSectionVars false
set_option maxRecDepth 100000
abbrev Str := List UInt8
def bB:=@Option.some.injEq
def cJ:=@List.map_cons
def aE:=@if_neg
def aA:=@List.length_cons
def aC:=@List.setIfInBounds_toArray
def Cp:=@List.ext_getElem?
def cG:=@List.length_take
def mB:=@List.length_set
def AO:=@List.getElem?_take
def iF:=@List.getElem?_drop
def bL:=@Nat.add_zero
def cY:=@ne_eq
def cV:=@not_true_eq_false
def vJ:=@if_false
def aR:=@cond_false
def aV:=@cond_true
def Cr:=@Array.all_eq_true_iff_forall_mem
def aH:=@List.getElem?_eq_getElem
def dY:=@List.getElem?_eq_none
def aK:=@Option.map_some
def sT:=@Nat.succ_mul
def nX:=@Nat.add_comm
def tZ:=@Nat.mod_eq_of_lt
def lR:=@Nat.eq_of_beq_eq_true
def mQ:=@Nat.le_of_ble_eq_true
def aO:=@if_pos
def aX:=@List.mem_cons
def bP:=@List.getElem?_toArray
def qZ:=@Nat.lt_or_ge
def lU:=@Array.getD_eq_getD_getElem?
def FH:=@Array.getElem?_setIfInBounds
def kY:=@Ne.symm
def bV:=@Bool.and_eq_true
def jB:=@List.all_eq_true
def gW:=@List.mem_range
def nL:=@List.any_eq_true
def gH:=@Bool.or_eq_true
def iU:=@beq_iff_eq
def fK:=@decide_eq_true_eq
def oF:=@Bool.not_eq_true'
def cH:=@List.mem_append_left
def cA:=@List.mem_filterMap
def bR:=@List.mem_append_right
def aF:=@List.mem_cons_of_mem
def gA:=@Prod.mk.injEq
def bC:=@List.mem_cons_self
def bG:=@List.getElem?_cons_zero
def aQ:=@Nat.le_refl
def bA:=@List.mem_of_getElem?
def qO:=@List.mem_filter
def aI:=@List.size_toArray
def tY:=@Option.getD_some
def fL:=@List.mem_map
def bO:=@List.mem_singleton
def dX:=@List.nodup_cons
def mE:=@if_true
def rV:=@Bool.false_eq_true
def dN:=@Nat.le_trans
def fS:=@List.cons_append
def aM:=@List.getD_eq_getElem?_getD
def dM:=@Nat.lt_of_lt_of_le
def eF:=@Bool.true_and
def iR:=@Iff.rfl
def fY:=@Array.getElem?_eq_some_iff
def dU:=@Nat.mul_le_mul_right
def bD:=@Int.toNat_natCast
def bJ:=@List.getElem?_eq_some_iff
def cW:=@List.eq_nil_of_length_eq_zero
def aN:=@Nat.zero_add
def dL:=@List.append_nil
def dV:=@List.getElem?_map
def iE:=@List.nodup_append
def qP:=@Bool.eq_iff_iff
def gC:=@List.cons.injEq
def dA:=@decide_false
def cU:=@Option.isSome_some
def kT:=@List.map_append
def kA:=@List.map_nil
def bM:=@List.mem_append
def rI:=@Nat.lt_succ_self
def sJ:=@List.mem_or_eq_of_mem_set
def aD:=@List.length_nil
def iD:=@List.take_of_length_le
def jA:=@List.take_add_one
def oD:=@List.getElem?_set_self
def iQ:=@List.drop_of_length_le
def oQ:=@Nat.add_mul
def dQ:=@true_and
def fQ:=@and_true
def eU:=@Bool.and_true
def eL:=@Bool.and_false
def eB:=@Bool.false_and
def fM:=@Bool.or_true
def eY:=@Bool.or_false
def eQ:=@Bool.true_or
def dK:=@Bool.false_or
def dT:=@Bool.not_true
def dG:=@Bool.not_false
def bI:=@List.getElem?_cons_succ
def aP:=@List.set_cons_zero
def aU:=@List.set_cons_succ
def aG:=@List.getD_cons_zero
def bQ:=@List.getD_cons_succ
def xP:=@List.mem_of_mem_take
def rT:=@UInt8.toNat_lt
def kG:=@Prod.ext
def eW:=@List.drop_eq_getElem_cons
def dC:=@List.flatMap_cons
def aB:=@List.length_append
def dR:=@List.getElem?_append_left
def HP:=@Nat.zero_mul
def dB:=@List.getElem?_append_right
def EW:=@List.drop_append_of_le_length
def ET:=@List.take_append_of_le_length
def aW:=@List.length_drop
def qB:=@List.drop_left
def dI:=@List.drop_succ_cons
def dZ:=@List.drop_zero
def jI:=@List.drop_drop
def yS:=@List.mem_flatten
def nK:=@List.getElem?_of_mem
def Ab:=@List.flatten_append
def lT:=@List.count_append
def iG:=@List.flatten_cons
def AM:=@List.count_cons
def AQ:=@List.count_eq_zero
def cK:=@List.length_map
def yR:=@Nat.le_add_right
def qA:=@Nat.le_succ
def HW:=@List.isPrefixOf_iff_prefix
def cZ:=@Nat.zero_le
def AS:=@Int.eq_ofNat_of_zero_le
def FG:=@List.headD_cons
def iO:=@List.length_pos_iff
def oU:=@Int.le_refl
def cD:=@List.append_assoc
def pI:=@List.perm_middle
def zZ:=@Nat.add_le_add_left
def rU:=@List.take_zero
def dS:=@List.nil_append
def iH:=@List.drop_length
def Aa:=@List.perm_iff_count
def oG:=@List.take_succ_cons
def bS:=@decide_eq_true
def cX:=@decide_eq_false
def mZ:=@UInt8.toNat_inj
def fP:=@of_decide_eq_true
def aJ:=@exists_eq_left'
def cM:=@Nat.lt_add_one
def aZ:=@Nat.zero_lt_succ
def dO:=@decide_true
def dP:=@List.take_length
def El:=@Int.lt_irrefl
def nW:=@Option.map_eq_some_iff
def vD:=@UInt8.toNat_ofNat'
def iP:=@List.map_map
def gS:=@List.map_congr_left
def bU:=@List.not_mem_nil
def fT:=@or_false
def sS:=@UInt8.ofNat_toNat
def nY:=@List.nodup_nil
def HY:=@List.Perm.refl
def EV:=@List.drop_eq_nil_iff
def rX:=@List.take_append_drop
def uA:=@List.take_left
def CN:=@Array.getElem?_setIfInBounds_ne
def lG:=@List.drop_eq_nil_of_le
def xQ:=@Bool.or_eq_false_iff
def gE:=@List.getElem_mem
def gB:=@List.getElem?_take_of_lt
def CQ:=@List.contains_iff_mem
def mI:=@List.prefix_refl
def lZ:=@List.prefix_append
def yQ:=@Nat.sub_self
def kI:=@Classical.byContradiction
def CS:=@Bool.and_eq_false_iff
def Ei:=@List.drop_append
def yV:=@List.flatMap_map
def tW:=@List.flatMap_append
def rM:=@List.ext_getElem
def nZ:=@List.length_range
def uB:=@List.getElem_map
def CR:=@Classical.choose_spec
def yX:=@List.getElem?_zip_eq_some
def uC:=@List.flatMap_nil
def Gm:=@List.replicate_succ
def yU:=@List.mem_flatMap
def CO:=@List.set_append_right
def EU:=@List.getElem?_set_ne
def EX:=@List.count_eq_zero_of_not_mem
def gT:=@List.filterMap_cons
def AI:=@List.Sublist.append_left
def yW:=@List.sublist_append_right
def Cq:=@List.any_eq_false
def vF:=@List.pairwise_cons
def dD:=@not_false_eq_true
def nD:=@List.filterMap_nil
def FF:=@List.length_zip
def Ek:=@List.all_cons
variable{w W:Go.World}{K:Go.Value->Go.World->Prop}{cs d D:List Go.Value}{G S:Nat->Prop}{T U:Go.TypeId}{i n m j p q r A:Nat}{v g:Go.Value}{P:Go.Program}{c:UInt8}{s y o B:Str}{u:List Nat}{a z:Int}{F:Go.Value->Prop}{H:Go.World->Prop}{E:Bool}{L:List Str}{α β:Type}{v0 v1 v2 v3 v4 v5:Go.Value}
namespace Go.Eng
section
open Go
abbrev Fr:=Nat->Value
def upd(f:Fr)(d:Option Nat)(v:Value):Fr:=
 match d with
 |none=>f
 |some d=>λj=>bif Nat.beq j d then v else f j
def ev(f:Fr):Operand->Value
 |.tmp t=>f t
 |.const v=>v
 |.global g=>.pointer (some ⟨g,0,none⟩)
 |.func g=>.func (.func g) #[] #[]
def evl(f:Fr)(a:Array Operand):List Value:=a.toList.map (ev f)
def ofL(l:List UInt8):ByteArray:=⟨l.toArray⟩
def iX(l:List UInt8):(ofL l).data.toList=l:=by simp[ofL]
def kD(l:List UInt8):(ofL l).size=l.length:=by simp[ofL,ByteArray.size]
def YO{a b:List UInt8}:ofL a=ofL b↔a=b:=by
 constructor
 .intro h;have:=congrArg (λs=>s.data.toList) h;simpa[ofL]using this
 .rintro rfl;rfl
class HX where
 X:List PanicEntry->World->Prop
@[reducible] def noX:HX:=⟨λ_ _=>False⟩
def HZ[HX](K:Value->World->Prop):Ending->World->Prop
 |.returned v,w=>K v w
 |.panicked c,w=>HX.X c w
 |.outgrown,_=>False
def HZ.mono[HX]{K':Value->World->Prop}(a:∀v w,K v w->K' v w){e:Ending}(h:HZ K e w):HZ K' e w:=by
 cases e with
 |returned v=>exact a _ _ h
 |panicked c=>exact h
 |outgrown=>exact h.elim
def Res[HX](P:Program)(K:Value->World->Prop):Result Next->Prop
 |.ok (.value v) w=>K v w
 |.ok .skip w=>K undef w
 |.ok (.enter g args) w=>Calls P g args w (HZ K)
 |.ok (.row r args) w=>Rows P r args w K
 |.halt (.panic v) w=>HX.X [{v,recovered:=false}] w
 |_=>False
def Res.upon[HX]{o:Oper}{a:Act}{next:Act->World->Prop}{Q:Exit->Act->World->Prop}
  (d:∀v w,K v w->next (a.put o.dst v) w)(f:∀c w,HX.X c w->Q (.panic c) a w){r:Result Next}(h:Res P K r):o.upon P a next Q r:=by
 cases r with
 |ok n w=>
  cases n<;>simp only[Res]at h<;>simp only[Oper.upon]<;>first
   |exact d _ _ h
   |exact h.elim
   |exact h.mono λ_ _ b=>d _ _ b
   |(refine h.mono λe W b=>?_
     cases e with
     |returned v=>exact d _ _ b
     |panicked c=>exact f _ _ b
     |outgrown=>exact b.elim)
 |halt x w=>
  cases x<;>simp only[Res]at h<;>simp only[Oper.upon]<;>first
   |exact h.elim
   |exact f _ _ h
def Res.mono[HX]{K':Value->World->Prop}(a:∀v w,K v w->K' v w){r:Result Next}(h:Res P K r):Res P K' r:=by
 cases r with
 |ok n w=>
  cases n<;>simp only[Res]at h⊢<;>first
   |exact a _ _ h
   |exact h.elim
   |exact h.mono λ_ _ b=>a _ _ b
   |exact h.mono λe W b=>b.mono a
 |halt x w=>
  cases x<;>simp only[Res]at h⊢<;>first
   |exact h.elim
   |exact h
def pY(c:Bool)(A:Prop):Prop:=bif c then A else False
def pY.out{c:Bool}{A:Prop}(h:pY c A):c=true/\A:=by
 cases c with
 |true=>exact⟨rfl,h⟩
 |false=>exact h.elim
def fN(c a b:Value)(K:Value->Prop):Prop:=match c with|.bool t=>K (bif t then a else b)|_=>False
def fA(v:Value)(K:Value->Prop):Prop:=
 match v with
 |.pointer (some _)=>K v
 |.func (.func _) _ _=>K v
 |.iface _ _=>K v
 |_=>False
def aS(op:BinOp)(x y:Value)(K:Value->Prop):Prop:=
 match x,y with
 |.int k a,.int k' b=>
  match op with
  |.shl=>0<=b/\K (.int k (k.wrap (a*2^min b.toNat k.bits)))
  |.shr=>0<=b/\K (.int k (a.fdiv (2^min b.toNat k.bits)))
  |.add=>k=k'/\K (.int k (k.wrap (a+b)))
  |.sub=>k=k'/\K (.int k (k.wrap (a-b)))
  |.mul=>k=k'/\K (.int k (k.wrap (a*b)))
  |.quo=>k=k'/\b≠0/\K (.int k (k.wrap (a.tdiv b)))
  |.rem=>k=k'/\b≠0/\K (.int k (a.tmod b))
  |.and=>k=k'/\K (.int k (k.wrap (BitVec.ofInt k.bits a&&&BitVec.ofInt k.bits b).toNat))
  |.or=>k=k'/\K (.int k (k.wrap (BitVec.ofInt k.bits a|||BitVec.ofInt k.bits b).toNat))
  |.xor=>k=k'/\K (.int k (k.wrap (BitVec.ofInt k.bits a^^^BitVec.ofInt k.bits b).toNat))
  |.andNot=>k=k'/\K (.int k (k.wrap (BitVec.ofInt k.bits a&&&~~~BitVec.ofInt k.bits b).toNat))
  |.eql=>k=k'/\K (.bool (decide (a=b)))
  |.neq=>k=k'/\K (.bool (decide (a≠b)))
  |.lss=>k=k'/\K (.bool (decide (a<b)))
  |.leq=>k=k'/\K (.bool (decide (a<=b)))
  |.gtr=>k=k'/\K (.bool (decide (b<a)))
  |.geq=>k=k'/\K (.bool (decide (b<=a)))
 |.string a,.string b=>
  match op with
  |.add=>((a.size+b.size:Nat):Int)<=IntKind.i64.max/\K (.string (a++b))
  |.eql=>K (.bool (decide (a.data.toList=b.data.toList)))
  |.neq=>K (.bool (decide (a.data.toList≠b.data.toList)))
  |.lss=>K (.bool (Op.bytesLess a.data.toList b.data.toList))
  |.leq=>K (.bool (Op.bytesLess a.data.toList b.data.toList||decide (a.data.toList=b.data.toList)))
  |.gtr=>K (.bool (!(Op.bytesLess a.data.toList b.data.toList||decide (a.data.toList=b.data.toList))))
  |.geq=>K (.bool (!Op.bytesLess a.data.toList b.data.toList))
  |_=>False
 |_,_=>False
inductive EqK|bool|ptr|slice|map|func
def EqK.of:TypeDesc->Option EqK
 |.bool=>some .bool
 |.pointer _=>some .ptr
 |.slice _=>some .slice
 |.map _ _=>some .map
 |.func _ _ _=>some .func
 |_=>none
def eqW(k:EqK)(n:Bool)(x y:Value)(K:Value->Prop):Prop:=
 match k,x,y with
 |.bool,.bool a,.bool b=>K (.bool (n^^(a==b)))
 |.ptr,.pointer none,.pointer b=>K (.bool (n^^b.isNone))
 |.ptr,.pointer (some _),.pointer none=>K (.bool n)
 |.slice,.slice none _ _,.slice b _ _=>K (.bool (n^^b.isNone))
 |.slice,.slice (some _) _ _,.slice none _ _=>K (.bool n)
 |.map,.map none,.map b=>K (.bool (n^^b.isNone))
 |.map,.map (some _),.map none=>K (.bool n)
 |.func,.nilFunc,.nilFunc=>K (.bool (!n))
 |.func,.nilFunc,.func _ _ _=>K (.bool n)
 |.func,.func _ _ _,.nilFunc=>K (.bool n)
 |_,_,_=>False
def unW(op:UnOp)(x:Value)(K:Value->Prop):Prop:=
 match op,x with
 |.not,.bool b=>K (.bool (!b))
 |.neg,.int k n=>K (.int k (k.wrap (0-n)))
 |.xor,.int k n=>K (.int k (k.wrap (BitVec.ofInt k.bits (if k.signed then-1 else k.max)^^^BitVec.ofInt k.bits n).toNat))
 |_,_=>False
def AE(k:IntKind)(x:Value)(K:Value->Prop):Prop:=match x with|.int _ n=>K (.int k (k.wrap n))|_=>False
def RU(x:Value)(K:Value->Prop):Prop:=match x with|.int _ n=>K (.string (Utf8.encode n))|.string s=>K (.string s)|_=>False
def qK(agg:Bool)(off size:Nat)(x:Value)(K:Value->Prop):Prop:=
 match x with
 |.agg cs=>bif agg then K (.agg (cs.extract off (off+size)))else(∃c,cs[off]?=some c/\K c)
 |_=>False
def bF(off:Nat)(x:Value)(K:Value->Prop):Prop:=
 match x with
 |.pointer (some a)=>K (.pointer (some (a.add off)))
 |_=>False
def fX(len:Option Nat)(size:Nat)(x i:Value)(K:Value->Prop):Prop:=
 match len,x,i with
 |none,.slice (some a) n _,.int _ i=>0<=i/\i<n/\K (.pointer (some (a.add (i.toNat*size))))
 |some n,.pointer (some a),.int _ i=>0<=i/\i<n/\K (.pointer (some (a.add (i.toNat*size))))
 |_,_,_=>False
def qM(x i:Value)(K:Value->Prop):Prop:=
 match x,i with
 |.string s,.int _ i=>0<=i/\∃b,s.data.toList[i.toNat]?=some b/\K (.int .u8 b.toNat)
 |_,_=>False
def UK(len:Nat)(agg:Bool)(size:Nat)(x i:Value)(K:Value->Prop):Prop:=
 match i with
 |.int _ i=>0<=i/\i<len/\qK agg (i.toNat*size) size x K
 |_=>False
def bdW(x:Option Value)(a:Nat)(lim:Nat)(K:Nat->Prop):Prop:=
 match x with
 |none=>K a
 |some (.int _ i)=>0<=i/\i<=lim/\K i.toNat
 |some _=>False
def rY(x:Value)(lo a:Option Value)(K:Value->Prop):Prop:=
 match x with
 |.string s=>bdW a s.size s.size λh=>bdW lo 0 h λl=>K (.string (ofL ((s.data.toList.take h).drop l)))
 |_=>False
def Ti(size:Nat)(x:Value)(lo c b:Option Value)(K:Value->Prop):Prop:=
 match x with
 |.slice a len cap=>bdW b cap cap λm=>(bdW c len m λh=>bdW lo 0 h λl=>
   K (.slice (if m=l then a else a.map (·.add (l*size))) (h-l) (m-l)))
 |_=>False
def aFm(n size:Nat)(x:Value)(lo c b:Option Value)(K:Value->Prop):Prop:=
 match x with
 |.pointer (some a)=>bdW b n n λm=>(bdW c n m λh=>bdW lo 0 h λl=>
   K (.slice (some (if m=l then a else a.add (l*size))) (h-l) (m-l)))
 |_=>False
def kH(i:Nat)(x:Value)(K:Value->Prop):Prop:=match x with|.tuple a=>(match a[i]? with|some v=>K v|none=>False)|_=>False
def kE(cells:List Value):List (Nat×Nat×Value)->(List Value->Prop)->Prop
 |[],K=>K cells
 |(off,size,v)::r,K=>v.cells.size=size/\off+size<=cells.length/\kE (cells.take off++(v.cells.toList++cells.drop (off+size))) r K
def kQ(x:Value)(K:Value->Prop):Prop:=match x with|.string s=>K (.int .i64 s.size)|_=>False
def iL(x:Value)(K:Value->Prop):Prop:=match x with|.slice _ n _=>K (.int .i64 n)|_=>False
def aFN(x:Value)(K:Value->Prop):Prop:=match x with|.slice _ _ n=>K (.int .i64 n)|_=>False
def YU(x y:Value)(K:Value->Prop):Prop:=match x,y with|.int k a,.int _ b=>K (.int k (if b<a then b else a))|_,_=>False
def aBM(x y z:Value)(K:Value->Prop):Prop:=match x,y,z with|.int k a,.int _ b,.int _ c=>K (.int k (if c<(if b<a then b else a)then c else(if b<a then b else a)))|_,_,_=>False
def aDK(x y:Value)(K:Value->Prop):Prop:=match x,y with|.int k a,.int _ b=>K (.int k (if a<b then b else a))|_,_=>False
def bZ(w:World)(a:Addr):Nat->Nat->Option (List Value)
 |_,0=>some []
 |i,n+1=>match w.cell? (a.add i)with|some v=>(bZ w a (i+1) n).map (v::·)|none=>none
def ldW(agg:Bool)(n:Nat)(x:Value)(w:World)(K:Value->Prop):Prop:=
 match x with
 |.pointer (some a)=>bif agg then(∃l,bZ w a 0 n=some l/\K (.agg l.toArray))else(∃v,w.cell? a=some v/\K v)
 |_=>False
def sF(P:Program)(s:Sem Value)(w:World)(K:Value->Prop):Prop:=∃v,s.run P w=.ok v w/\K v
def fV(P:Program)(s:Sem Value)(w:World)(K:Value->World->Prop):Prop:=match s.run P w with|.ok v w'=>K v w'|_=>False
def Gy(P:Program)(s:Sem Unit)(w:World)(K:World->Prop):Prop:=match s.run P w with|.ok _ w'=>K w'|_=>False
def aCp[HX](P:Program)(s:Sem Next)(w:World)(K:Value->World->Prop):Prop:=Res P K (s.run P w)
def eD(T:TypeId)(zero:List Value)(w:World)(K:Value->World->Prop):Prop:=
 K (.pointer (some ⟨w.heap.size,0,none⟩)) (w.alloc (.cells zero.toArray T))
def jZ(T:TypeId)(v:Value)(w:World)(K:Value->World->Prop):Prop:=
 K (.pointer (some ⟨w.heap.size,0,none⟩)) (w.alloc (.cells v.cells T))
def gP(T:TypeId)(len:Nat)(zero:List Value)(parts:List (Nat×Nat×Value))(w:World)(K:Value->World->Prop):Prop:=
 kE zero parts λcs=>K (.slice (some ⟨w.heap.size,0,none⟩) len len) (w.alloc (.cells cs.toArray T))
def kJ:Value->Bool
 |.agg _|.tuple _=>false
 |_=>true
def mR(a:Addr):List Value->Nat->World->(World->Prop)->Prop
 |[],_,w,K=>K w
 |v::r,i,w,K=>kJ v=true/\(w.cell? (a.add i)).isSome=true/\w.frozen? (a.add i)=false/\mR a r (i+1) (w.setCell (a.add i) v) K
def stW(n:Nat)(x v:Value)(w:World)(K:World->Prop):Prop:=
 match x with
 |.pointer (some a)=>v.cells.size=n/\mR a v.cells.toList 0 w K
 |_=>False
def aBX[HX](P:Program)(g:FuncId)(args:List Value)(w:World)(K:Value->World->Prop):Prop:=
 Calls P g args.toArray w (HZ K)
def QV[HX](x:Value)(w:World):Prop:=match x with|.iface T v=>HX.X [{v:=.iface T v,recovered:=false}] w|_=>False
def aL[HX](P:Program)(g:FuncId)(args:List Value)(w:World)(K:Value->World->Prop):Prop:=
 Res P K ((callFunc g args.toArray).run P w)
def qN[HX](P:Program)(v:Value)(args:List Value)(w:World)(K:Value->World->Prop):Prop:=
 aCp P (do let d<-Deferred.ofValue v args.toArray;invoke d.target d.args) w K
def aDX:TypeDesc->Bool
 |.struct _|.array _ _=>true
 |_=>false
def yN(P:Program)(T:TypeId):Bool:=match P.underlying T with|some d=>aDX d|none=>false
def nO(P:Program)(T:TypeId):Nat:=match P.info? T with|some i=>i.size|none=>0
def Ia(P:Program)(T:TypeId):Option Value:=match P.info? T with|some i=>i.zero|none=>none
def xZ(a:Nat->Option (Nat×Nat))(f:Fr):List (Nat×Operand)->Option (List (Nat×Nat×Value))
 |[]=>some []
 |(i,x)::r=>match a i,xZ a f r with
  |some (off,size),some l=>some ((off,size,ev f x)::l)
  |_,_=>none
def Ny(P:Program)(fs:Array Field)(i:Nat):Option (Nat×Nat):=match fs[i]? with|some g=>some (g.offset,nO P g.type)|none=>none
def OF(P:Program)(T:TypeId)(f:Fr)(parts:List (Nat×Operand))(K:Value->Prop):Prop:=
 match P.underlying T,Ia P T with
 |some (.struct fs),some z=>
  (match xZ (Ny P fs) f parts with
   |some l=>pY (fs.all (λg=>(P.info? g.type).isSome)) (kE z.cells.toList l λcs=>K (.agg cs.toArray))
   |none=>False)
 |some (.array _ e),some z=>
  (match xZ (λi=>some (i*nO P e,nO P e)) f parts with
   |some l=>pY (P.info? e).isSome (kE z.cells.toList l λcs=>K (.agg cs.toArray))
   |none=>False)
 |_,_=>False
def aFM(P:Program)(op:BinOp)(T:TypeId)(x y:Value)(K:Value->Prop):Prop:=
 match op,(match P.underlying T with|some d=>EqK.of d|none=>none)with
 |.eql,some k=>eqW k false x y K
 |.neq,some k=>eqW k true x y K
 |_,_=>aS op x y K
def aBU(P:Program)(s d:TypeId)(x:Value)(K:Value->Prop):Prop:=
 match P.underlying s,P.underlying d with
 |some (.int _),some (.int k)=>AE k x K
 |some (.int _),some .string=>RU x K
 |some .string,some .string=>RU x K
 |_,_=>False
def Hf(P:Program)(T:TypeId)(x i:Value)(K:Value->Prop):Prop:=
 match P.underlying T with
 |some (.slice e)=>pY (P.info? e).isSome (fX none (nO P e) x i K)
 |some (.array n e)=>pY (P.info? e).isSome (fX (some n) (nO P e) x i K)
 |_=>False
def UN(P:Program)(T:TypeId)(x i:Value)(K:Value->Prop):Prop:=
 match P.underlying T with
 |some .string=>qM x i K
 |some (.array n e)=>pY (P.underlying e).isSome (UK n (yN P e) (nO P e) x i K)
 |_=>False
def Nu(P:Program)(T:TypeId)(x:Value)(lo b a:Option Value)(K:Value->Prop):Prop:=
 match P.underlying T with
 |some .string=>pY (!a.isSome) (rY x lo b K)
 |some (.slice e)=>pY (!a.isSome||b.isSome) (pY (P.info? e).isSome (Ti (nO P e) x lo b a K))
 |some (.array n e)=>pY (!a.isSome||b.isSome) (pY (P.info? e).isSome (aFm n (nO P e) x lo b a K))
 |_=>False
def Iq(P:Program)(b:Builtin)(argTypes:Array TypeId)(args:List Value)(K:Value->Prop):Prop:=
 match b,args with
 |.len,[x]=>(match argTypes[0]? with
   |some T=>(match P.underlying T with
    |some .string=>kQ x K
    |some (.slice _)=>iL x K
    |some (.array n _)=>K (.int .i64 n)
    |_=>False)
   |none=>False)
 |.cap,[x]=>(match argTypes[0]? with
   |some T=>(match P.underlying T with
    |some (.slice _)=>aFN x K
    |_=>False)
   |none=>False)
 |.min,[x,y]=>YU x y K
 |.min,[x,y,z]=>aBM x y z K
 |.max,[x,y]=>aDK x y K
 |_,_=>False
def Ps(P:Program)(f:Fr)(op:Op)(K:Value->Prop):Prop:=
 match op with
 |.move x|.assign x=>K (ev f x)
 |.pick c a b=>fN (ev f c) (ev f a) (ev f b) K
 |.nilCheck x=>fA (ev f x) K
 |.binOp op T x y _=>aFM P op T (ev f x) (ev f y) K
 |.unOp op _ x=>unW op (ev f x) K
 |.convert s d x=>aBU P s d (ev f x) K
 |.makeInterface T x=>(match P.underlying T with|some (.interface _)=>False|none=>False|_=>K (.iface T (ev f x)))
 |.makeFunc fn first cap=>K (.func fn (evl f first).toArray (evl f cap).toArray)
 |.field T x i=>(match P.underlying T with
   |some (.struct fs)=>(match fs[i]? with|some g=>pY (P.underlying g.type).isSome (qK (yN P g.type) g.offset (nO P g.type) (ev f x) K)|none=>False)
   |_=>False)
 |.fieldAddr T x i=>(match P.underlying T with
   |some (.struct fs)=>(match fs[i]? with|some g=>pY (!(Nat.beq (nO P g.type) 0)) (bF g.offset (ev f x) K)|none=>False)
   |_=>False)
 |.indexAddr T x i=>Hf P T (ev f x) (ev f i) K
 |.index T x i=>UN P T (ev f x) (ev f i) K
 |.slice T x lo e mx=>Nu P T (ev f x) (lo.map (ev f)) (e.map (ev f)) (mx.map (ev f)) K
 |.extract t i=>kH i (ev f t) K
 |.build T parts=>OF P T f parts.toList K
 |.call {callee:=.builtin b,args,argTypes}=>Iq P b argTypes (evl f args) K
 |_=>False
def rC(P:Program):Op->Bool
 |.move _|.assign _|.pick ..|.nilCheck _|.unOp ..|.makeInterface ..|.makeFunc ..|.field ..|.fieldAddr ..|.indexAddr ..|.index ..|.slice ..
 |.extract ..|.build ..=>true
 |.binOp op T _ _ _=>(match op with
  |.eql|.neq=>(match P.underlying T with|some (.interface _)|some (.struct _)|some (.array _ _)|some (.chan _ _)|none=>false|_=>true)
  |_=>true)
 |.convert s d _=>(match P.underlying s,P.underlying d with|some (.int _),some (.int _)|some (.int _),some .string|some .string,some .string=>true|_,_=>false)
 |.call {callee:=.builtin b,argTypes,..}=>(match b with
  |.min|.max|.cap=>true
  |.len=>(match argTypes[0]? with|some T=>(match P.underlying T with|some (.map _ _)|none=>false|_=>true)|none=>false)
  |_=>false)
 |_=>false
def AH(P:Program)(s:Sem Value)(K:Value->Prop):Prop:=∃v,K v/\∀w,s.run P w=.ok v w
theorem run_bind(P:Program)(s:Sem α)(k:α->Sem β)(w:World):
  (s>>=k).run P w=match s.run P w with|.ok a W=>(k a).run P W|.halt h W=>.halt h W:=by
 show(Sem.bind s k).run P w=_;induction s generalizing w with
 |pure a=>simp[Sem.bind,Sem.run]
 |load m a c ih=>simp only[Sem.bind,Sem.run];(repeat' split)<;>simp_all
 |store m a v c ih=>
  cases v<;>simp only[Sem.bind,Sem.run]<;>((repeat' split)<;>simp_all)
 |new o c ih=>simp[Sem.bind,Sem.run,ih]
 |shape r c ih=>simp[Sem.bind,Sem.run,ih]
 |freeze a n c ih=>simp[Sem.bind,Sem.run,ih]
 |frozen a c ih=>simp[Sem.bind,Sem.run,ih]
 |getObj r c ih=>simp only[Sem.bind,Sem.run];(repeat' split)<;>simp_all
 |setObj r o c ih=>simp only[Sem.bind,Sem.run];(repeat' split)<;>simp_all
 |choose q c ih=>simp only[Sem.bind,Sem.run];(repeat' split)<;>simp_all
 |sys c k' ih=>simp[Sem.bind,Sem.run,ih]
 |program c ih=>simp[Sem.bind,Sem.run,ih]
 |mark m c ih=>simp[Sem.bind,Sem.run,ih]
 |halt h=>simp[Sem.bind,Sem.run]
def run_pure(P:Program)(a:α)(w:World):(pure a:Sem α).run P w=.ok a w:=rfl
def cL{d:TypeDesc}(h:P.underlying T=some d)(w:World):(underlying T).run P w=.ok d w:=by
 simp[underlying,run_bind,program,Sem.run,h,run_pure]
def Cs{i:TypeInfo}(h:P.info? T=some i)(w:World):(typeInfo T).run P w=.ok i w:=by
 simp[typeInfo,run_bind,program,Sem.run,h,run_pure]
def kC(h:(P.info? T).isSome=true)(w:World):(sizeOf T).run P w=.ok (nO P T) w:=by
 cases a:P.info? T with
 |none=>rw[a]at h;cases h
 |some i=>simp[sizeOf,run_bind,Cs a,run_pure,nO,a]
def vG(h:(P.underlying T).isSome=true):(P.info? T).isSome=true:=by
 unfold Program.underlying at h;cases a:P.info? T with
 |none=>simp[a]at h
 |some i=>rfl
def Ak(h:(P.underlying T).isSome=true)(w:World):(isAgg T).run P w=.ok (yN P T) w:=by
 cases a:P.underlying T with
 |none=>rw[a]at h;cases h
 |some d=>
  simp only[isAgg,run_bind,cL a,yN,a];cases d<;>rfl
def BH{z:Value}(h:Ia P T=some z)(w:World):(zeroValue T).run P w=.ok z w:=by
 unfold Ia at h;cases a:P.info? T with
 |none=>simp[a]at h
 |some i=>
  simp only[a]at h;simp[zeroValue,run_bind,Cs a,h,run_pure]
def LM{off:Nat}{x:Value}{K:Value->Prop}(b:(P.underlying T).isSome=true)(h:qK (yN P T) off (nO P T) x K):
  ∃cs,x=.agg cs/\AH P (part T cs off) K:=by
 cases x with
 |agg cs=>
  refine⟨cs,rfl,?_⟩;simp only[qK]at h;cases a:yN P T with
  |true=>
   rw[a]at h;exact⟨_,h,λw=>by simp[part,run_bind,Ak b,a,kC (vG b),run_pure]⟩
  |false=>
   rw[a]at h;obtain⟨c,e,d⟩:=h;exact⟨c,d,λw=>by simp[part,run_bind,Ak b,a,e,run_pure]⟩
 |_=>exact h.elim
def KL{x:Option Value}{K:Nat->Prop}(h:bdW x m j K):
  ∃n,K n/\((x=none/\n=m)\/∃v,x=some v/\∀(code:BoundsCode) (w:World),(Instr.sliceBound v j code).run P w=.ok n w):=by
 cases x with
 |none=>exact⟨m,h,.inl ⟨rfl,rfl⟩⟩
 |some v=>
  cases v<;>simp only[bdW]at h
  case int k i=>
   obtain⟨c,b,a⟩:=h;exact⟨_,a,.inr ⟨_,rfl,λcode w=>by simp[Instr.sliceBound,asIntOf,run_bind,run_pure,c,b]⟩⟩
def CK{isSlice:Bool}{len:Nat}{lo d a:Option Value}{K:Nat->Nat->Nat->Prop}(f:a.isSome=true->d.isSome=true)
  (h:bdW a i i λm=>bdW d len m λh=>bdW lo 0 h λl=>K l h m):
  ∃l h m,K l h m/\∀w,(Instr.sliceBounds isSlice len i lo d a).run P w=.ok (l,h,m) w:=by
 obtain⟨m,n,b⟩:=KL (P:=P) h;obtain⟨g,k,e⟩:=KL (P:=P) n;obtain⟨l,j,c⟩:=KL (P:=P) k;refine⟨l,g,m,j,λw=>?_⟩;rcases b with⟨rfl,rfl⟩|⟨o,rfl,q⟩<;>rcases e with⟨rfl,rfl⟩|⟨p,rfl,r⟩<;>rcases c with⟨rfl,rfl⟩|⟨vl,rfl,rl⟩<;>
  first
   |(simp at f;done)
   |simp[Instr.sliceBounds,run_bind,run_pure, *]
theorem BS{place:Nat->Option (Nat×Nat)}{f:Fr}{K:List Value->Prop}:∀(parts:List (Nat×Operand)) (l:List (Nat×Nat×Value)) (cells:List Value),
  xZ place f parts=some l->kE cells l K->∃cs,K cs/\Instr.fill place cells.toArray (parts.map λp=>(p.1,ev f p.2))=some cs.toArray
 |[],l,cells,c,h=>by
  simp only[xZ,bB]at c
  subst c
  exact⟨cells,h,rfl⟩
 |(i,x)::r,l,cells,c,h=>by
  simp only[xZ]at c
  cases b:place i with
  |none=>simp[b]at c
  |some os=>
   obtain⟨off,size⟩:=os
   cases m:xZ place f r with
   |none=>simp[b,m]at c
   |some l'=>
    simp only[b,m,bB]at c
    subst c
    obtain⟨g,s,o⟩:=h
    obtain⟨cs,e,q⟩:=BS r l' _ m o
    refine⟨cs,e,?_⟩
    simp only[cJ,Instr.fill,b]
    rw[aE (by simp[g];omega)]
    rw[<-q]
    congr 1
    have key:∀(d:List Value) (k:Nat) (cs:List Value),off+k+d.length<=cs.length->
      (d.zipIdx k).foldl (λ(a:Array Value) (p:Value×Nat)=>a.setIfInBounds (off+p.2) p.1) cs.toArray=(cs.take (off+k)++(d++cs.drop (off+k+d.length))).toArray:=by
     intro d;induction d with
     |nil=>intro k cs _;simp
     |cons v d ih=>
      intro k cs n;simp only[aA]at n;simp only[List.zipIdx_cons,List.foldl_cons];rw[aC,ih (k+1) _ (by simp;omega)];congr 1;apply Cp;intro j;simp only[List.getElem?_append,cG,mB,AO,List.getElem?_set,iF,aA,List.getElem?_cons]
      (repeat' split)<;>first
        |rfl
        |omega
        |(simp_all;done)
        |(congr 1;omega)
        |(rename_i g s o;simp at g;omega)
    have e:=key (ev f x).cells.toList 0 cells (by simp;omega);simp only[bL]at e;rw[<-g];simp only[Array.length_toList]at e;rw[<-e,<-Array.foldl_toList];simp
def qJ(P:Program)(s:Sem Next)(K:Value->Prop):Prop:=∃v,K v/\∀w,s.run P w=.ok (.value v) w
def qJ.of1{s:Sem Value}{K:Value->Prop}(h:AH P s K):qJ P (do pure (.value (<-s))) K:=by
 obtain⟨v,b,a⟩:=h;exact⟨v,b,λw=>by rw[run_bind,a];rfl⟩
def Gk[BEq α][LawfulBEq α][DecidableEq α](a b:α):(a==b)=decide (a=b):=by
 by_cases h:a=b<;>simp[h]
theorem Sv{op:BinOp}{x y:Operand}{f:Fr}{K:Value->Prop}(h:aS op (ev f x) (ev f y) K):
  AH P (do eqGuard op T x y (ev f x) (ev f y);binOp op T (ev f x) (ev f y)) K:=by
 generalize ev f x=a at*
 generalize ev f y=b at*
 cases a<;>cases b<;>simp only[aS]at h<;>first|exact h.elim|skip
 case int.int k a k' b=>
  have d:∀w,(eqGuard op T x y (.int k a) (.int k' b)).run P w=.ok () w:=λw=>by cases op<;>simp[eqGuard,run_pure]
  cases op<;>simp only at h
  case shl=>exact⟨_,h.2,λw=>by rw[run_bind,d];simp[binOp,Op.shift,run_pure,Int.not_lt.2 h.1]⟩
  case shr=>exact⟨_,h.2,λw=>by rw[run_bind,d];simp[binOp,Op.shift,run_pure,Int.not_lt.2 h.1]⟩
  case quo=>obtain⟨rfl,i,c⟩:=h;exact⟨_,c,λw=>by rw[run_bind,d];simp[binOp,Op.intDiv,run_pure,i]⟩
  case rem=>obtain⟨rfl,i,c⟩:=h;exact⟨_,c,λw=>by rw[run_bind,d];simp[binOp,Op.intDiv,run_pure,i]⟩
  case add=>obtain⟨rfl,c⟩:=h;exact⟨_,c,λw=>by rw[run_bind,d];simp[binOp,Op.intArith,run_pure]⟩
  case sub=>obtain⟨rfl,c⟩:=h;exact⟨_,c,λw=>by rw[run_bind,d];simp[binOp,Op.intArith,run_pure]⟩
  case mul=>obtain⟨rfl,c⟩:=h;exact⟨_,c,λw=>by rw[run_bind,d];simp[binOp,Op.intArith,run_pure]⟩
  case and=>obtain⟨rfl,c⟩:=h;exact⟨_,c,λw=>by rw[run_bind,d];simp only[binOp,Op.intBits,cY,cV,vJ];rfl⟩
  case or=>obtain⟨rfl,c⟩:=h;exact⟨_,c,λw=>by rw[run_bind,d];simp only[binOp,Op.intBits,cY,cV,vJ];rfl⟩
  case xor=>obtain⟨rfl,c⟩:=h;exact⟨_,c,λw=>by rw[run_bind,d];simp only[binOp,Op.intBits,cY,cV,vJ];rfl⟩
  case andNot=>obtain⟨rfl,c⟩:=h;exact⟨_,c,λw=>by rw[run_bind,d];simp only[binOp,Op.intBits,cY,cV,vJ];rfl⟩
  case eql=>obtain⟨rfl,c⟩:=h;exact⟨_,c,λw=>by rw[run_bind,d];simp[binOp,Op.intCmp,run_pure,Gk]⟩
  case neq=>obtain⟨rfl,c⟩:=h;exact⟨_,c,λw=>by rw[run_bind,d];simp[binOp,Op.intCmp,run_pure,bne,Gk]⟩
  case lss=>obtain⟨rfl,c⟩:=h;exact⟨_,c,λw=>by rw[run_bind,d];simp[binOp,Op.intCmp,run_pure]⟩
  case leq=>obtain⟨rfl,c⟩:=h;exact⟨_,c,λw=>by rw[run_bind,d];simp[binOp,Op.intCmp,run_pure]⟩
  case gtr=>obtain⟨rfl,c⟩:=h;exact⟨_,c,λw=>by rw[run_bind,d];simp[binOp,Op.intCmp,run_pure]⟩
  case geq=>obtain⟨rfl,c⟩:=h;exact⟨_,c,λw=>by rw[run_bind,d];simp[binOp,Op.intCmp,run_pure]⟩
 case string.string a b=>
  have d:∀w,(eqGuard op T x y (.string a) (.string b)).run P w=.ok () w:=λw=>by cases op<;>simp[eqGuard,run_pure]
  have g:(a.toList==b.toList)=decide (a.data.toList=b.data.toList):=by rw[ByteArray.toList_eq,ByteArray.toList_eq,Gk]
  have e:Op.bytesLess a.toList b.toList=Op.bytesLess a.data.toList b.data.toList:=by rw[ByteArray.toList_eq,ByteArray.toList_eq]
  cases op<;>simp only at h<;>first|exact h.elim|skip
  case add=>exact⟨_,h.2,λw=>by rw[run_bind,d];simp only[binOp,Op.stringOp];rw[aE (by have:=h.1;omega)];rfl⟩
  case eql=>exact⟨_,h,λw=>by rw[run_bind,d];simp only[binOp,Op.stringOp];rw[g];rfl⟩
  case neq=>exact⟨_,h,λw=>by rw[run_bind,d];simp only[binOp,Op.stringOp];rw[g];simp[run_pure]⟩
  case lss=>exact⟨_,h,λw=>by rw[run_bind,d];simp only[binOp,Op.stringOp];rw[e];rfl⟩
  case leq=>exact⟨_,h,λw=>by rw[run_bind,d];simp only[binOp,Op.stringOp];rw[g,e];rfl⟩
  case gtr=>exact⟨_,h,λw=>by rw[run_bind,d];simp only[binOp,Op.stringOp];rw[g,e];rfl⟩
  case geq=>exact⟨_,h,λw=>by rw[run_bind,d];simp only[binOp,Op.stringOp];rw[e];rfl⟩
def RJ{op:BinOp}{x y:Operand}{k:EqK}{n:Bool}{a b:Value}{K:Value->Prop}(h:eqW k n a b K)(w:World):
  (eqGuard op T x y a b).run P w=.ok () w:=by
 cases op<;>simp only[eqGuard]<;>first|rfl|(cases a<;>cases b<;>first|rfl|(cases k<;>exact h.elim))
theorem aFa{x y:Operand}{f:Fr}{d:TypeDesc}{k:EqK}{n:Bool}{K:Value->Prop}(p:P.underlying T=some d)(j:EqK.of d=some k)
  (h:eqW k n (ev f x) (ev f y) K):
  AH P (do eqGuard (bif n then .neq else .eql) T x y (ev f x) (ev f y);binOp (bif n then .neq else .eql) T (ev f x) (ev f y)) K:=by
 have e:=λw=>RJ (P:=P) (op:=(bif n then .neq else .eql)) (T:=T) (x:=x) (y:=y) h w;generalize ev f x=a at*
 generalize ev f y=b at*
 have key:∀(a b:Value) (r:Bool),(∀m w,(Op.equalIn (m+1) T a b).run P w=.ok r w)->
   (binOp .eql T a b=(do pure (.bool (<-Op.equal T a b))))->(binOp .neq T a b=(do pure (.bool (!(<-Op.equal T a b)))))->K (.bool (n^^r))->(∀w,(eqGuard (bif n then .neq else .eql) T x y a b).run P w=.ok () w)->
   AH P (do eqGuard (bif n then .neq else .eql) T x y a b;binOp (bif n then .neq else .eql) T a b) K:=by
  intro a b r u t s q e;have c:∀w,(Op.equal T a b).run P w=.ok r w:=λw=>u 9999 w;refine⟨_,q,λw=>?_⟩;rw[run_bind,e];cases n
  .simp only[aR,t,run_bind,c,run_pure,Bool.false_bne]
  .simp only[aV,s,run_bind,c,run_pure,Bool.true_bne]
 have g:=λw=>cL p w;cases d<;>simp only[EqK.of,reduceCtorEq,bB]at j<;>subst j<;>unfold eqW at h<;>split at h<;>first
  |exact h.elim
  |(rename_i c _ _;cases c;done)
  |(rename_i c;cases c;done)
  |exact key _ _ _ (λm w=>by simp only[Op.equalIn,run_bind,g];exact run_pure _ _ _) rfl rfl h e
  |exact key _ _ true (λm w=>by simp[Op.equalIn,run_bind,g,run_pure]) rfl rfl (by simpa using h) e
  |exact key _ _ false (λm w=>by simp[Op.equalIn,run_bind,g,run_pure]) rfl rfl (by simpa using h) e
  |(rename_i i o l;cases i;done)
  |(simp_all;done)
def AA(f:Fr)(a:Array Operand):a.map (ev f)=(evl f a).toArray:=by apply Array.ext';simp[evl]
def Lp{fn:Fn}{a b:Array Value}:(Instr.makeFunc fn a b).run P w=.ok (.func fn a b) w:=rfl
theorem Sa{f:Fr}{parts:Array (Nat×Operand)}{K:Value->Prop}(h:OF P T f parts.toList K):
  AH P (Instr.build T (parts.map λ(i,x)=>(i,ev f x))) K:=by
 unfold OF at h;have a:(parts.map λ(i,x)=>(i,ev f x)).toList=parts.toList.map λp=>(p.1,ev f p.2):=by simp
 split at h
 .rename_i fs z t k;split at h
  .rename_i l q
   replace h:=pY.out h
   obtain⟨b,o⟩:=h;obtain⟨cs,r,d⟩:=BS _ _ _ q o;refine⟨_,r,λw=>?_⟩;have c:∀w,(fs.mapM λg=>do pure (g.offset,<-sizeOf g.type):Sem (Array (Nat×Nat))).run P w=.ok (fs.map λg=>(g.offset,nO P g.type)) w:=by
    intro w;have:∀(l:List Field),(∀g∈l,(P.info? g.type).isSome=true)->∀w,(l.mapM λg=>do pure (g.offset,<-sizeOf g.type):Sem (List (Nat×Nat))).run P w=.ok (l.map λg=>(g.offset,nO P g.type)) w:=by
     intro l;induction l with
     |nil=>intro _ w;rfl
     |cons g l ih=>
      intro j w;rw[List.mapM_cons];simp only[run_bind,kC (j g (by simp)),run_pure,ih (λx u=>j x (by simp[u])),cJ]
    have s:=this fs.toList (λg j=>Cr.1 b g (by simpa using j)) w;rw[Array.mapM_eq_mapM_toList,<-bind_pure_comp,run_bind,s];show Result.ok _ _=_;congr 1;apply Array.ext';simp
   simp only[Instr.build,run_bind,BH k,cL t,c];rw[a];have m:(λ(i:Nat)=>(fs.map λ(g:Field)=>(g.offset,nO P g.type))[i]?)=Ny P fs:=by
    funext i;rw[Array.getElem?_map];unfold Ny;cases fs[i]?<;>rfl
   rw[m];simp only[Array.toArray_toList]at d;rw[d];rfl
  .exact h.elim
 .rename_i n e z t k;split at h
  .rename_i l q
   replace h:=pY.out h
   obtain⟨b,o⟩:=h;obtain⟨cs,r,d⟩:=BS _ _ _ q o;refine⟨_,r,λw=>?_⟩;simp only[Instr.build,run_bind,BH k,cL t,kC b];rw[a];simp only[Array.toArray_toList]at d;rw[d];rfl
  .exact h.elim
 .exact h.elim
def Mn(s:ByteArray)(l h:Nat):s.extract l h=ofL ((s.data.toList.take h).drop l):=by
 apply ByteArray.ext;apply Array.ext';simp[ofL,ByteArray.extract,ByteArray.copySlice,List.drop_take]
theorem QG{x:Value}{lo i d:Option Value}{K:Value->Prop}(h:Nu P T x lo i d K):
  AH P (Instr.sliceAt T x lo i d) K:=by
 unfold Nu at h;split at h
 .rename_i c
  replace h:=pY.out h
  obtain⟨b,h⟩:=h;cases d with
  |some _=>cases b
  |none=>
   cases x<;>simp only[rY]at h<;>try exact h.elim
   rename_i s;have p:bdW (none:Option Value) s.size s.size λm=>bdW i s.size m λh=>bdW lo 0 h λl=>(λl h (_:Nat)=>K (.string (ofL ((s.data.toList.take h).drop l)))) l h m:=h;obtain⟨l,o,m,g,f⟩:=CK (P:=P) (isSlice:=false) (by simp) p;refine⟨_,g,λw=>?_⟩;simp only[Instr.sliceAt,run_bind,cL c,Instr.slice];simp[f,run_bind,cL c,run_pure];apply Mn
 .rename_i e c
  replace h:=pY.out h
  obtain⟨b,h⟩:=h
  replace h:=pY.out h
  obtain⟨k,h⟩:=h
  replace b:d.isSome=true->i.isSome=true:=λj=>by rw[j]at b;simpa using b
  cases x<;>simp only[Ti]at h<;>try exact h.elim
  rename_i a len cap;obtain⟨l,o,m,g,f⟩:=CK (P:=P) (isSlice:=true) (K:=λl h m=>K (.slice (if m=l then a else a.map (·.add (l*nO P e))) (h-l) (m-l))) b h;refine⟨_,g,λw=>?_⟩;simp only[Instr.sliceAt,run_bind,cL c,Instr.slice];simp[f,run_bind,cL c,run_pure,kC k]
 .rename_i n e c
  replace h:=pY.out h
  obtain⟨b,h⟩:=h
  replace h:=pY.out h
  obtain⟨k,h⟩:=h
  replace b:d.isSome=true->i.isSome=true:=λj=>by rw[j]at b;simpa using b
  cases x<;>simp only[aFm]at h<;>try exact h.elim
  rename_i a;cases a with
  |none=>exact h.elim
  |some a=>
   obtain⟨l,o,m,g,f⟩:=CK (P:=P) (isSlice:=false) (K:=λl h m=>K (.slice (some (if m=l then a else a.add (l*nO P e))) (h-l) (m-l))) b h;refine⟨_,g,λw=>?_⟩;simp[Instr.sliceAt,Instr.sureAddr,run_bind,cL c,f,run_pure,kC k]
 .exact h.elim
theorem GE{f:Fr}{o:Oper}{K:Value->Prop}(h:Ps P f o.op K):qJ P (execOp (ev f) o) K:=by
 obtain⟨dst,op,type,pos,after,guard⟩:=o;cases op<;>simp only[Ps]at h<;>try exact h.elim
 case move x=>exact⟨_,h,λw=>rfl⟩
 case assign x=>exact⟨_,h,λw=>rfl⟩
 case pick c a b=>
  simp only[execOp];generalize ev f c=cv at*
  cases cv<;>simp only[fN]at h<;>try exact h.elim
  rename_i t;exact⟨_,h,λw=>by cases t<;>rfl⟩
 case nilCheck x=>
  simp only[execOp];generalize ev f x=v at*
  cases v<;>simp only[fA]at h<;>try exact h.elim
  case pointer a=>cases a<;>first|exact h.elim|exact⟨_,h,λw=>rfl⟩
  case func fn _ _=>cases fn<;>first|exact h.elim|exact⟨_,h,λw=>rfl⟩
  case iface=>exact⟨_,h,λw=>rfl⟩
 case binOp op T x y yT=>
  simp only[execOp];refine qJ.of1 ?_;unfold aFM at h;cases l:P.underlying T with
  |none=>
   rw[l]at h;exact Sv (by cases op<;>exact h)
  |some d=>
   rw[l]at h;cases p:EqK.of d with
   |none=>simp only[p]at h;exact Sv (by cases op<;>exact h)
   |some k=>
    simp only[p]at h;cases op<;>first
     |exact aFa (n:=false) l p h
     |exact aFa (n:=true) l p h
     |exact Sv h
 case unOp op T x=>
  simp only[execOp];refine qJ.of1 ?_;generalize ev f x=v at*
  cases op<;>cases v<;>simp only[unW]at h<;>first
   |exact h.elim
   |exact⟨_,h,λw=>rfl⟩
 case convert s d x=>
  simp only[execOp];refine qJ.of1 ?_;unfold aBU at h;generalize ev f x=v at*
  split at h
  .rename_i M k2 r l;cases v<;>simp only[AE]at h<;>try exact h.elim
   exact⟨_,h,λw=>by simp[convert,run_bind,cL r,cL l,Conv.intToInt,run_pure]⟩
  .rename_i M r l;cases v<;>simp only[RU]at h<;>try exact h.elim
   .exact⟨_,h,λw=>by simp[convert,run_bind,cL r,cL l,Conv.intToString,run_pure]⟩
   .exact⟨_,h,λw=>by simp[convert,run_bind,cL r,cL l,run_pure]⟩
  .rename_i r l;cases v<;>simp only[RU]at h<;>try exact h.elim
   .exact⟨_,h,λw=>by simp[convert,run_bind,cL r,cL l,Conv.intToString,run_pure]⟩
   .exact⟨_,h,λw=>by simp[convert,run_bind,cL r,cL l,run_pure]⟩
  .exact h.elim
 case makeInterface T x=>
  simp only[execOp];refine qJ.of1 ?_;cases l:P.underlying T with
  |none=>rw[l]at h;exact h.elim
  |some d=>
   rw[l]at h;cases d<;>first
    |exact h.elim
    |exact⟨_,h,λw=>by simp[Instr.makeInterface,run_bind,cL l,run_pure]⟩
 case makeFunc fn first cap=>
  simp only[execOp];refine qJ.of1 ⟨_,h,λw=>by rw[Lp,AA,AA]⟩
 case field T x i=>
  simp only[execOp];refine qJ.of1 ?_;split at h
  .rename_i fs l;split at h
   .rename_i g I
    replace h:=pY.out h
    obtain⟨m,E⟩:=h;obtain⟨cs,G,v,p,H⟩:=LM m E;exact⟨v,p,λw=>by simp[Instr.field,run_bind,cL l,I,G,asAgg,run_pure,H]⟩
   .exact h.elim
  .exact h.elim
 case fieldAddr T x i=>
  simp only[execOp];refine qJ.of1 ?_;split at h
  .rename_i fs l;split at h
   .rename_i g I
    replace h:=pY.out h
    obtain⟨m,E⟩:=h
    replace m:nO P g.type≠0:=λN=>by rw[N]at m;simp at m
    generalize ev f x=v at*
    cases v<;>simp only[bF]at E<;>try exact E.elim
    rename_i a;cases a with
    |none=>exact E.elim
    |some a=>
     have A:(P.info? g.type).isSome=true:=by
      unfold nO at m;cases L:P.info? g.type with
      |none=>rw[L]at m;exact absurd rfl m
      |some i=>rfl
     exact⟨_,E,λw=>by simp[Instr.fieldAt,run_bind,cL l,I,Instr.sureAddr,run_pure,fieldPlace,kC A,m]⟩
   .exact h.elim
  .exact h.elim
 case indexAddr T x i=>
  simp only[execOp];refine qJ.of1 ?_;unfold Hf at h;generalize ev f x=v at*
  generalize ev f i=iv at*
  split at h
  .rename_i e l
   replace h:=pY.out h
   obtain⟨D,h⟩:=h;unfold fX at h;split at h
   .rename_i a n cap k j _;obtain⟨C,m,p⟩:=h;exact⟨_,p,λw=>by simp[Instr.indexAt,asIntOf,run_bind,cL l,run_pure,C,m,kC D]⟩
   .rename_i heq;cases heq
   .exact h.elim
  .rename_i n e l
   replace h:=pY.out h
   obtain⟨D,h⟩:=h;unfold fX at h;split at h
   .rename_i heq;cases heq
   .rename_i n' a k j heq;cases heq;obtain⟨C,m,p⟩:=h;exact⟨_,p,λw=>by simp[Instr.indexAt,asIntOf,run_bind,cL l,run_pure,C,m,Instr.sureAddr,kC D]⟩
   .exact h.elim
  .exact h.elim
 case index T x i=>
  simp only[execOp];refine qJ.of1 ?_;unfold UN at h;generalize ev f x=v at*
  generalize ev f i=iv at*
  split at h
  .rename_i l;unfold qM at h;split at h
   .rename_i s k j;obtain⟨C,b,R,p⟩:=h;have J:s[j.toNat]?=some b:=by
     rw[<-R];show(if h:j.toNat<s.size then some s[j.toNat]else none)=_;by_cases q:j.toNat<s.size
     .rw[dif_pos q,aH (by simpa using q)];rfl
     .rw[dif_neg q,dY (by simpa using q)]
    exact⟨_,p,λw=>by simp[Instr.index,asIntOf,run_bind,cL l,run_pure,C,J]⟩
   .exact h.elim
  .rename_i n e l
   replace h:=pY.out h
   obtain⟨D,h⟩:=h;cases iv<;>simp only[UK]at h<;>try exact h.elim
   rename_i k j;obtain⟨C,m,Q⟩:=h;obtain⟨cs,G,u,p,H⟩:=LM (P:=P) D Q;exact⟨u,p,λw=>by simp[Instr.index,asIntOf,run_bind,cL l,run_pure,G,C,m,kC (vG D),H]⟩
  .exact h.elim
 case slice T x lo L mx=>
  simp only[execOp];exact qJ.of1 (QG h)
 case extract t i=>
  simp only[execOp];refine qJ.of1 ?_;generalize ev f t=v at*
  cases v<;>simp only[kH]at h<;>try exact h.elim
  split at h
  .rename_i v O;exact⟨_,h,λw=>by simp[Instr.extract,O,run_pure]⟩
  .exact h.elim
 case build T parts=>
  simp only[execOp];exact qJ.of1 (Sa h)
 case call c=>
  obtain⟨callee,args,argTypes⟩:=c;cases callee<;>simp only at h<;>try exact h.elim
  rename_i b;have B:args.map (ev f)=(evl f args).toArray:=by rw[AA]
  simp only[execOp,resolve,B];generalize evl f args=az at*
  unfold Iq at h;split at h
  .rename_i x;split at h
   .rename_i T F;split at h
    .rename_i l;unfold kQ at h;split at h
     .exact⟨_,h,λw=>by simp[run_bind,run_pure,invoke,builtin,Builtin.len_,F,cL l,goInt]⟩
     .exact h.elim
    .rename_i e l;unfold iL at h;split at h
     .exact⟨_,h,λw=>by simp[run_bind,run_pure,invoke,builtin,Builtin.len_,F,cL l,goInt]⟩
     .exact h.elim
    .rename_i n e l;exact⟨_,h,λw=>by simp[run_bind,run_pure,invoke,builtin,Builtin.len_,F,cL l,goInt]⟩
    .exact h.elim
   .exact h.elim
  .rename_i x;split at h
   .rename_i T F;split at h
    .rename_i e l;unfold aFN at h;split at h
     .exact⟨_,h,λw=>by simp[run_bind,run_pure,invoke,builtin,Builtin.cap_,F,cL l,goInt]⟩
     .exact h.elim
    .exact h.elim
   .exact h.elim
  .rename_i x y;unfold YU at h;split at h
   .exact⟨_,h,λw=>by simp[run_bind,run_pure,invoke,builtin,Builtin.min_,Builtin.min2]⟩
   .exact h.elim
  .rename_i x y z;unfold aBM at h;split at h
   .exact⟨_,h,λw=>by simp[run_bind,run_pure,invoke,builtin,Builtin.min_,Builtin.min2]⟩
   .exact h.elim
  .rename_i x y;unfold aDK at h;split at h
   .exact⟨_,h,λw=>by simp[run_bind,run_pure,invoke,builtin,Builtin.max_,Builtin.max2]⟩
   .exact h.elim
  .exact h.elim
def isC:Operand->Bool
 |.const _=>true
 |_=>false
def EY(c:Bool):Operand:=bif c then .const undef else .tmp 0
def eqQ(P:Program)(op:BinOp)(T:TypeId)(d c:Bool)(a b:Value)(w:World)(K:Value->Prop):Prop:=
 sF P (do eqGuard op T (EY d) (EY c) a b;binOp op T a b) w K
def GB(P:Program)(f:Fr)(o:Oper)(w:World)(K:Value->Prop):Prop:=
 match o.op with
 |.load T a=>pY (P.underlying T).isSome (ldW (yN P T) (nO P T) (ev f a) w K)
 |.lookup T x i ok=>sF P (Instr.lookup T (ev f x) (ev f i) ok) w K
 |.binOp op T x y _=>eqQ P op T (isC x) (isC y) (ev f x) (ev f y) w K
 |.convert s d x=>sF P (convert s d (ev f x)) w K
 |.typeAssert x xT aT ok=>sF P (Instr.typeAssert (ev f x) xT aT ok) w K
 |.entry it=>sF P (Instr.entry (ev f it)) w K
 |.call {callee:=.builtin b,args,argTypes}=>(match b with
   |.len=>sF P (Builtin.len_ argTypes o.type (evl f args).toArray) w K
   |_=>False)
 |_=>False
def isRead(P:Program):Op->Bool
 |.load ..|.lookup ..|.binOp ..|.typeAssert ..|.entry ..=>true
 |.convert s d _=>(match P.underlying s,P.underlying d with|some (.slice _),some .string=>true|_,_=>false)
 |.call {callee:=.builtin b,..}=>(match b with|.len=>true|_=>false)
 |_=>false
def tC(n:Nat)(z:List Value):List Value:=match n with|0=>[]|n+1=>z++tC n z
def Fy(P:Program)(T:TypeId)(len:Nat)(f:Fr)(parts:List (Nat×Operand))(w:World)(K:Value->World->Prop):Prop:=
 match P.underlying T with
 |some (.slice e)=>(match Ia P e,xZ (λi=>some (i*nO P e,nO P e)) f parts with
   |some z,some l=>pY (P.info? e).isSome (pY (Nat.beq z.cells.size (nO P e)) (pY (Nat.ble (len*nO P e) 1000) (gP e len (tC len z.cells.toList) l w K)))
   |_,_=>False)
 |_=>False
def aD5[HX](P:Program)(f:Fr)(o:Oper)(w:World)(K:Value->World->Prop):Prop:=
 match o.op with
 |.alloc T=>(match Ia P T with|some z=>eD T z.cells.toList w K|none=>False)
 |.box T x=>jZ T (ev f x) w K
 |.buildSlice T n parts=>Fy P T n f parts.toList w K
 |.store T a x=>pY (P.info? T).isSome (stW (nO P T) (ev f a) (ev f x) w (K undef))
 |.mapUpdate T m k x|.insert T m k x=>Gy P (Instr.mapUpdate T (ev f m) (ev f k) (ev f x)) w (K undef)
 |.makeMap T r=>fV P (Instr.makeMap T (r.map (ev f))) w K
 |.makeSlice T l c=>fV P (Instr.makeSlice T (ev f l) (ev f c)) w K
 |.range T x=>fV P (Instr.range T (ev f x)) w K
 |.next it s=>fV P (Instr.next (ev f it) s o.type) w K
 |.convert s d x=>fV P (convert s d (ev f x)) w K
 |.call {callee:=.value x,args,..}=>(match x with
   |.func g=>aL P g (evl f args) w K
   |_=>qN P (ev f x) (evl f args) w K)
 |.call {callee:=.invoke r m,args,..}=>aCp P (callMethod (ev f r) m (evl f args).toArray) w K
 |.panic x=>QV (ev f x) w
 |.call {callee:=.builtin b,args,argTypes}=>(match b with
   |.append=>fV P (Builtin.append_ argTypes o.type (evl f args).toArray) w K
   |.copy=>fV P (Builtin.copy_ argTypes o.type (evl f args).toArray) w K
   |.delete=>fV P (Builtin.delete_ argTypes o.type (evl f args).toArray) w K
   |.clear=>fV P (Builtin.clear_ argTypes o.type (evl f args).toArray) w K
   |.panic=>QV ((evl f args).getD 0 undef) w
   |_=>False)
 |_=>False
def KM[HX](P:Program)(f:Fr)(o:Oper)(w:World)(K:Value->World->Prop):Prop:=
 match rC P o.op with
 |true=>Ps P f o.op (λv=>K v w)
 |false=>(match isRead P o.op with
  |true=>GB P f o w (λv=>K v w)
  |false=>aD5 P f o w K)
def Ip{a:Addr}(h:w.cell? a=some v):(load a).run P w=.ok v w:=by
 simp[load,Sem.run,h]
def yC{P:Program}{a:Addr}{w:World}:∀(n i:Nat) (l:List Value) (b:Array Value),bZ w a i n=some l->
  (loadCellsFrom a i n b).run P w=.ok (b++l.toArray) w
 |0,i,l,b,h=>by
  simp only[bZ,bB]at h
  subst h
  simp[loadCellsFrom,run_pure]
 |n+1,i,l,b,h=>by
  simp only[bZ]at h
  cases c:w.cell? (a.add i)with
  |none=>simp[c]at h
  |some v=>
   cases d:bZ w a (i+1) n with
   |none=>simp[c,d]at h
   |some l'=>
    simp only[c,d,aK,bB]at h
    subst h
    simp only[loadCellsFrom,run_bind,Ip c,yC n (i+1) l' _ d]
    simp
def UC{x:Value}{K:Value->Prop}(d:(P.underlying T).isSome=true)(h:ldW (yN P T) (nO P T) x w K):
  ∃v,K v/\(Instr.loadAt T x).run P w=.ok v w:=by
 cases x<;>simp only[ldW]at h<;>try exact h.elim
 rename_i a;cases a with
 |none=>exact h.elim
 |some a=>
  simp only at h;cases b:yN P T with
  |true=>
   rw[b]at h;obtain⟨l,f,c⟩:=h;refine⟨_,c,?_⟩;simp[Instr.loadAt,Instr.sureAddr,loadVar,run_bind,run_pure,Ak d,b,kC (vG d),loadCells,yC _ _ _ _ f]
  |false=>
   rw[b]at h;obtain⟨v,e,c⟩:=h;refine⟨_,c,?_⟩;simp[Instr.loadAt,Instr.sureAddr,loadVar,run_bind,run_pure,Ak d,b]
   first|exact Ip e|(rw[e])
def HU(op:BinOp)(T:TypeId)(x y:Operand)(a b:Value):eqGuard op T (EY (isC x)) (EY (isC y)) a b=eqGuard op T x y a b:=by
 cases x<;>cases y<;>rfl
def CB{f:Fr}{o:Oper}{K:Value->Prop}(h:GB P f o w K):
  ∃v,K v/\(execOp (ev f) o).run P w=.ok (.value v) w:=by
 have key:∀(s:Sem Value),(∃v,K v/\s.run P w=.ok v w)->∃v,K v/\(do pure (.value (<-s)):Sem Next).run P w=.ok (.value v) w:=by
  rintro s ⟨v,j,g⟩;exact⟨v,j,by rw[run_bind,g];rfl⟩
 have e:∀(s:Sem Value),sF P s w K->∃v,K v/\s.run P w=.ok v w:=λs ⟨v,g,j⟩=>⟨v,j,g⟩;obtain⟨dst,op,type,pos,after,guard⟩:=o;cases op<;>simp only[GB]at h<;>try exact h.elim
 case load T a=>simp only[execOp];exact key _ (UC (pY.out h).1 (pY.out h).2)
 case lookup T x i ok=>simp only[execOp];exact key _ (e _ h)
 case binOp op T x y yT=>
  simp only[execOp];refine key _ (e _ ?_);unfold eqQ at h;rw[HU]at h;exact h
 case convert s d x=>simp only[execOp];exact key _ (e _ h)
 case typeAssert x xT aT ok=>simp only[execOp];exact key _ (e _ h)
 case entry it=>simp only[execOp];exact key _ (e _ h)
 case call c=>
  obtain⟨callee,args,argTypes⟩:=c;cases callee<;>simp only at h<;>try exact h.elim
  rename_i b;cases b<;>simp only at h<;>try exact h.elim
  simp only[execOp,resolve,AA];obtain⟨v,j,g⟩:=e _ h;exact⟨v,j,by simp[run_bind,run_pure,invoke,builtin,g]⟩
def Bb{P:Program}{a:Addr}{K:World->Prop}:∀(l:List Value) (i:Nat) (w:World),mR a l i w K->∃W,K W/\(storeCells a l i).run P w=.ok () W
 |[],i,w,h=>⟨w,h,rfl⟩
 |v::r,i,w,h=>by
  obtain⟨m,k,j,g⟩:=h
  obtain⟨W,f,d⟩:=Bb (P:=P) r (i+1) _ g
  refine⟨W,f,?_⟩
  obtain⟨b,e⟩:=Option.isSome_iff_exists.1 k
  have c:(store (a.add i) v).run P w=.ok () (w.setCell (a.add i) v):=by
   cases v<;>first
    |(simp[kJ]at m;done)
    |(simp[store,Sem.run,e,j];done)
  simp only[storeCells,run_bind,c,d]
def aCe{x:Value}{K:World->Prop}(d:(P.info? T).isSome=true)(h:stW (nO P T) x v w K):
  ∃W,K W/\(Instr.storeAt T x v).run P w=.ok () W:=by
 cases x<;>simp only[stW]at h<;>try exact h.elim
 rename_i a;cases a with
 |none=>exact h.elim
 |some a=>
  obtain⟨f,e⟩:=h;obtain⟨W,c,b⟩:=Bb (P:=P) _ _ _ e;refine⟨W,c,?_⟩;simp[Instr.storeAt,Instr.sureAddr,storeVar,run_bind,run_pure,kC d,f,b]
def HS{z:Array Value}{size:Nat}(f:z.size=size):∀len,((Array.range (len*size)).map (z[· %z.size]!))=(tC len z.toList).toArray:=by
 subst f;have b:∀len,(tC len z.toList).length=len*z.size:=by
  intro len;induction len with
  |zero=>simp[tC]
  |succ n ih=>simp[tC,ih,sT,nX]
 intro len;apply Array.ext (by simp[b]);intro i g j;simp only[Array.getElem_map,Array.getElem_range,List.getElem_toArray];simp at g;have:∀(len i:Nat) (h:i<(tC len z.toList).length),(tC len z.toList)[i]=z[i%z.size]!:=by
  intro len;induction len with
  |zero=>intro i h;simp[tC]at h
  |succ n ih=>
   intro i h;have e:0<z.size:=by
    rcases Nat.eq_zero_or_pos z.size with d|d
    .rw[b,d]at h;simp at h
    .exact d
   simp only[tC,List.getElem_append];split
   .rename_i c;have a:i<z.size:=by simpa using c
    rw[tZ a,getElem!_pos z i a];simp
   .rename_i c;have a:z.size<=i:=by simpa using c
    rw[ih];simp only[Array.length_toList];congr 1;rw[Nat.mod_eq_sub_mod a]
 rw[this]
theorem RO[HX]{f:Fr}{o:Oper}(h:aD5 P f o w K):Res P K ((execOp (ev f) o).run P w):=by
 have j:∀(s:Sem Value),fV P s w K->Res P K ((do pure (.value (<-s)):Sem Next).run P w):=by
  intro s q;unfold fV at q;rw[run_bind];cases y:s.run P w with
  |ok v W=>rw[y]at q;exact q
  |halt x W=>rw[y]at q;exact q.elim
 have A:∀(s:Sem Unit),Gy P s w (K undef)->Res P K ((do s;pure .skip:Sem Next).run P w):=by
  intro s q;unfold Gy at q;rw[run_bind];cases y:s.run P w with
  |ok v W=>rw[y]at q;exact q
  |halt x W=>rw[y]at q;exact q.elim
 have B:∀(x:Value),QV x w->Res P K ((do pure (.value (<-Instr.panic x)):Sem Next).run P w):=by
  intro x q;unfold QV at q;split at q
  .exact q
  .exact q.elim
 obtain⟨dst,op,type,pos,after,guard⟩:=o;cases op<;>simp only[aD5]at h<;>try exact h.elim
 case alloc T=>
  cases C:Ia P T with
  |none=>rw[C]at h;exact h.elim
  |some z=>
   rw[C]at h;simp only[execOp];have y:(Instr.alloc T true (.tuple #[])).run P w=.ok (.pointer (some ⟨w.heap.size,0,none⟩)) (w.alloc (.cells z.cells T)):=by
    simp[Instr.alloc,run_bind,BH C,newVar,newRow,newObj,Sem.run,run_pure]
   rw[run_bind,y];exact h
 case box T x=>
  simp only[execOp];have y:(Instr.box T (ev f x)).run P w=.ok (.pointer (some ⟨w.heap.size,0,none⟩)) (w.alloc (.cells (ev f x).cells T)):=by
   simp[Instr.box,run_bind,newVar,newRow,newObj,Sem.run,run_pure]
  rw[run_bind,y];exact h
 case buildSlice T n parts=>
  simp only[execOp];unfold Fy at h;split at h
  .rename_i e L;split at h
   .rename_i z l C D
    replace h:=pY.out h
    obtain⟨N,h⟩:=h
    replace h:=pY.out h
    obtain⟨F,h⟩:=h
    replace h:=pY.out h
    obtain⟨J,I⟩:=h
    replace F:=lR F
    replace J:=mQ J
    unfold gP at I;obtain⟨cs,E,H⟩:=BS _ _ _ D I;have t:(parts.map λ(i,x)=>(i,ev f x)).toList=parts.toList.map λp=>(p.1,ev f p.2):=by simp
    have y:(Instr.buildSlice T n (parts.map λ(i,x)=>(i,ev f x))).run P w=.ok (.slice (some ⟨w.heap.size,0,none⟩) n n) (w.alloc (.cells cs.toArray e)):=by
     simp only[Instr.buildSlice,run_bind,cL L,kC N];rw[aE (by omega)];have u:=HS (z:=z.cells) F n;by_cases G:n*nO P e=0
     .rw[aO G];simp only[run_bind,run_pure];have M:((Array.range (n*nO P e)).map ((#[]:Array Value)[· %(#[]:Array Value).size]!))=(tC n z.cells.toList).toArray:=by
       rw[<-u,G];simp[show Array.range 0=#[]from rfl]
      rw[M,t,H];simp[run_bind,newRow,newObj,Sem.run,run_pure]
     .rw[aE G];simp only[run_bind,run_pure,BH C];rw[u,t,H];simp[run_bind,newRow,newObj,Sem.run,run_pure]
    rw[run_bind,y];exact E
   .exact h.elim
  .exact h.elim
 case store T a x=>
  simp only[execOp];obtain⟨W,E,y⟩:=aCe (pY.out h).1 (pY.out h).2;rw[run_bind,y];exact E
 case mapUpdate T m k x=>simp only[execOp];exact A _ h
 case insert T m k x=>simp only[execOp];exact A _ h
 case makeMap T r=>simp only[execOp];exact j _ h
 case makeSlice T l c=>simp only[execOp];exact j _ h
 case range T x=>simp only[execOp];exact j _ h
 case next it s=>simp only[execOp];exact j _ h
 case panic x=>
  simp only[execOp];exact B _ h
 case convert s d x=>simp only[execOp];exact j _ h
 case call c=>
  obtain⟨callee,args,argTypes⟩:=c;cases callee with
  |value x=>
   simp only[execOp,resolve,AA];cases x<;>simp only at h
   case func g=>
    unfold aL at h;have:(do let d<-(Deferred.ofValue (ev f (.func g)) (evl f args).toArray);invoke d.target d.args:Sem Next)=callFunc g (evl f args).toArray:=by
     show callFunc g (#[]++(evl f args).toArray++#[])=_;simp
    rw[this];exact h
   all_goals exact h
  |invoke r m=>
   simp only at h;simp only[execOp,resolve,AA];have:(do let d<-(pure {target:=.fn (.method m) #[],args:=#[ev f r]++(evl f args).toArray}:Sem Deferred);invoke d.target d.args:Sem Next)=callMethod (ev f r) m (evl f args).toArray:=by
    show invoke (.fn (.method m) #[]) (#[ev f r]++(evl f args).toArray)=_;simp[invoke]
   rw[this];exact h
  |builtin b=>
   simp only[execOp,resolve,AA];cases b<;>simp only at h<;>first
    |exact h.elim
    |exact j _ h
    |(have e:(evl f args).getD 0 undef=(evl f args).toArray.getD 0 .nilIface:=by
       cases D:evl f args with
       |nil=>rw[D]at h;exact h.elim
       |cons a r=>rfl
      rw[e]at h;exact B _ h)
def Jv[HX]{f:Fr}{o:Oper}(h:KM P f o w K):Res P K ((execOp (ev f) o).run P w):=by
 unfold KM at h;cases d:rC P o.op with
 |true=>
  rw[d]at h;simp only at h;obtain⟨v,b,a⟩:=GE (o:=o) h;rw[a];exact b
 |false=>
  rw[d]at h;simp only at h;cases c:isRead P o.op with
  |true=>
   rw[c]at h;simp only at h;obtain⟨v,b,a⟩:=CB (o:=o) h;rw[a];exact b
  |false=>
   rw[c]at h;exact RO h
def sR:List Nat->Nat->Bool
 |[],_=>false
 |x::r,i=>bif Nat.beq x i then true else sR r i
def mO{l:List Nat}:sR l i=true↔i∈l:=by
 induction l with
 |nil=>simp[sR]
 |cons x r ih=>
  simp only[sR,aX];cases h:Nat.beq x i with
  |true=>simp[lR h]
  |false=>
   have:¬i=x:=λe=>by subst e;simp at h
   simp[this,ih]
def isB(v:Value)(want:Bool):Bool:=match v with|.bool b=>b==want|_=>false
def uY(ops:List Oper)(g:Nat):Option Nat:=match ops[g]? with|some o=>o.dst|none=>none
def yv(ops:List Oper)(f:Fr)(g:Nat)(want:Bool):Bool:=match uY ops g with|some d=>isB (f d) want|none=>false
def pG(ops:List Oper)(f:Fr)(o:Oper):Bool:=match o.guard with|none=>true|some (g,want)=>yv ops f g want
def Ag(n:Nat)(D:List Deferred)(f:Fr)(a:Act):Prop:=a.defers=D/\a.tmps.size=n/\∀t,a.tmps.getD t undef=f t
def aBS{f:Fr}{a:Act}{x:Operand}(h:∀t,x=.tmp t->a.tmps.getD t undef=f t):a.eval x=ev f x:=by
 cases x<;>first|rfl|exact h _ rfl
def Bw{D:List Deferred}{f:Fr}{a:Act}(h:Ag n D f a):a.eval=ev f:=funext λ_=>aBS λt _=>h.2.2 t
def Ib{ops:List Oper}{f:Fr}{a:Act}{o:Oper}(h:∀g want d,o.guard=some (g,want)->uY ops g=some d->a.tmps.getD d undef=f d):
  Region.wanted o (yielded ops.toArray a.tmps)=pG ops f o:=by
 unfold Region.wanted pG;cases n:o.guard with
 |none=>rfl
 |some gw=>
  obtain⟨g,want⟩:=gw;have l:yielded ops.toArray a.tmps g=match uY ops g with|some d=>(match f d with|.bool b=>some b|_=>none)|none=>none:=by
   unfold yielded;have k:=h g want;unfold uY at*
   simp only[bP];cases m:ops[g]? with
   |none=>rfl
   |some o'=>
    rw[m]at k;cases i:o'.dst with
    |none=>simp[i]
    |some d=>
     have j:=k d n i;simp only[Option.bind_some,i];rw[<-j];rcases qZ d a.tmps.size with c|e
     .have q:a.tmps[d]?=some a.tmps[d]:=by simp[c]
      have p:a.tmps.getD d undef=a.tmps[d]:=by simp[c]
      rw[q,p];generalize a.tmps[d]=x;cases x<;>rfl
     .simp[Array.getElem?_eq_none e,undef,Array.getD,Nat.not_lt.2 e]
  simp only[yv,l];cases i:uY ops g with
  |none=>simp
  |some d=>simp only[isB];cases f d<;>simp
def GD(a:Act)(d:Option Nat)(v:Value):(a.put d v).tmps.size=a.tmps.size:=by cases d<;>simp[Act.put]
def put_defers(a:Act)(d:Option Nat)(v:Value):(a.put d v).defers=a.defers:=by cases d<;>rfl
def JU(a:Act)(d:Nat)(v:Value)(t:Nat)(b:d<a.tmps.size):(a.put (some d) v).tmps.getD t undef=if t=d then v else a.tmps.getD t undef:=by
 simp only[Act.put,lU,FH];by_cases h:t=d
 .subst h;simp[b]
 .rw[aE h,aE (kY h)]
def sC(f:Fr)(d:Nat)(v:Value)(t:Nat):upd f (some d) v t=if t=d then v else f t:=by
 simp only[upd];by_cases h:t=d
 .subst h;simp
 .have:Nat.beq t d=false:=by
   cases a:Nat.beq t d with
   |false=>rfl
   |true=>exact absurd (lR a) h
  simp[this,h]
def Ag.put{D:List Deferred}{f:Fr}{a:Act}{d:Option Nat}(h:Ag n D f a)(b:∀t,d=some t->t<n)(v:Value):Ag n D (upd f d v) (a.put d v):=by
 refine⟨by rw[put_defers];exact h.1,by rw[GD];exact h.2.1,λt=>?_⟩;cases d with
 |none=>exact h.2.2 t
 |some d=>rw[JU _ _ _ _ (by rw[h.2.1];exact b d rfl),sC,h.2.2]
structure DE where
 fl:List Nat
 anc:List (List Nat)
def lF(o:Oper):List Nat:=(o.after.toList.filter (Region.binds .any)).map (·.on)
def allIn(done:List Nat):List Nat->Bool
 |[]=>true
 |x::r=>bif sR done x then allIn done r else false
def Cn{done l:List Nat}:allIn done l=true↔∀x∈l,x∈done:=by
 induction l with
 |nil=>simp[allIn]
 |cons x r ih=>
  simp only[allIn,aX,forall_eq_or_imp];cases h:sR done x with
  |true=>simp[mO.1 h,ih]
  |false=>
   have:x∉done:=λe=>by simp[mO.2 e]at h
   simp[this]
def xD(ops:List Oper)(done:List Nat):List Nat->Option (Nat×Oper)
 |[]=>none
 |i::r=>bif sR done i then xD ops done r else
   (match ops[i]? with
    |some o=>bif allIn done (lF o)then some (i,o)else xD ops done r
    |none=>xD ops done r)
def EK(ops:List Oper)(fl done:List Nat):Nat->List Oper->List (Nat×Oper)
 |_,[]=>[]
 |i,o::r=>bif (bif sR done i then false else(bif sR fl i then false else allIn done (lF o)))then(i,o)::EK ops fl done (i+1) r else EK ops fl done (i+1) r
def aAb(P:Program)(f:Fr)(o:Oper)(w:World)(K:Value->Prop):Prop:=
 match rC P o.op with
 |true=>Ps P f o.op K
 |false=>GB P f o w K
def GqW(c:Bool)(A:(Value->Prop)->Prop)(B:Value->Prop):Prop:=∃v,(c=true->A (λx=>x=v))/\(c=false->v=undef)/\B v
def GeW(c:Bool)(w:World)(A:(Value->World->Prop)->Prop)(B:Value->World->Prop):Prop:=(c=true->A B)/\(c=false->B undef w)
def qfW(P:Program)(ops:List Oper)(f:Fr)(o:Oper)(w:World)(K:Value->Prop):Prop:=
 match o.guard with
 |none=>aAb P f o w K
 |some (g,want)=>GqW (yv ops f g want) (aAb P f o w) K
def geW[HX](P:Program)(ops:List Oper)(f:Fr)(o:Oper)(w:World)(K:Value->World->Prop):Prop:=
 match o.guard with
 |none=>KM P f o w K
 |some (g,want)=>GeW (yv ops f g want) w (KM P f o w) K
def AJ(P:Program)(ops:List Oper)(f:Fr)(w:World)(rest:Prop):List Nat->Prop
 |[]=>rest
 |i::r=>match ops[i]? with
  |some o=>(match o.dst with
   |some d=>(match rC P o.op with
    |true=>AJ P ops f w rest r
    |false=>
     ((match o.guard with
       |none=>GB P f o w (λx=>x=f d)
       |some (g,want)=>yv ops f g want=true->GB P f o w (λx=>x=f d))/\AJ P ops f w rest r))
   |none=>AJ P ops f w rest r)
  |none=>AJ P ops f w rest r
def Bn(l:List Nat):List Nat->List Nat
 |[]=>[]
 |x::r=>bif sR l x then Bn l r else x::Bn l r
def IF{l r:List Nat}{x:Nat}(h:x∈r)(b:x∉l):x∈Bn l r:=by
 induction r with
 |nil=>cases h
 |cons y r ih=>
  simp only[Bn];rcases aX.1 h with rfl|h
  .have:sR l x=false:=by
    cases a:sR l x with
    |false=>rfl
    |true=>exact absurd (mO.1 a) b
   simp[this]
  .cases a:sR l y with
   |true=>exact ih h
   |false=>simp[ih h]
def aFk:Prop:=∀(_:HX) (P:Program) (ops:List Oper) (f:Fr) (o:Oper) (w:World) (K:Value->World->Prop),geW P ops f o w K->True
def Vn(p:Nat×Oper->Prop):List (Nat×Oper)->Prop
 |[]=>aFk
 |[x]=>p x
 |x::y::r=>p x/\Vn p (y::r)
def Jf{p:Nat×Oper->Prop}:∀{l:List (Nat×Oper)} {x},Vn p l->x∈l->p x
 |[],_,_,h=>by cases h
 |[y],x,h,a=>by simp at a;subst a;exact h
 |y::z::r,x,h,a=>by
  rcases aX.1 a with rfl|a
  .exact h.1
  .exact Jf h.2 a
def zP[HX](P:Program)(ops:List Oper)(e:DE):Nat->List Nat->List Nat->Fr->World->(Fr->World->Prop)->Prop
 |0,_,_,_,_,_=>False
 |n+1,done,pend,f,w,K=>
  match xD ops done e.fl with
  |some (i,o)=>qfW P ops f o w λv=>zP P ops e n (i::done) (i::pend) (upd f o.dst v) w K
  |none=>match EK ops e.fl done 0 ops with
   |[]=>K f w
   |x::r=>Vn (λio=>geW P ops f io.2 w λv w'=>
     AJ P ops (upd f io.2.dst v) w' (zP P ops e n (io.1::done) (Bn (e.anc.getD io.1 []) pend) (upd f io.2.dst v) w' K) (Bn (e.anc.getD io.1 []) pend)) (x::r)
def sB(ops:List Oper)(o:Oper):List Nat:=
 (o.op.operands.toList.filterMap λ|.tmp t=>some t|_=>none)++(match o.guard with|some (g,_)=>(uY ops g).toList|none=>[])
def ID(o:Oper):Bool:=match o.op with|.select ..=>false|_=>true
def aBW(P:Program)(ops:List Oper)(e:DE)(i:Nat):Bool:=
 match ops[i]? with
 |some o=>(rC P o.op||isRead P o.op)&&
  (match o.dst with
   |some d=>(List.range ops.length).all λk=>match ops[k]? with
     |some ok=>(k==i||ok.dst !=some d)&&(!(sR (sB ops ok) d)||sR (e.anc.getD k []) i)&&
       (match ok.dst with
        |some dk=> !(sR (sB ops o) dk)||sR (e.anc.getD i []) k||(!(sR e.fl k)&&sR (e.anc.getD k []) i)
        |none=>true)
     |none=>true
   |none=>false)
 |none=>false
def aBV(n:Nat)(ops:List Oper)(e:DE)(k:Nat):Bool:=
 match ops[k]? with
 |some o=>(match o.dst with|some d=>decide (d<n)|none=>true)&&ID o&&(lF o).all (λx=>decide (x<k))&&
   (e.anc.getD k []).all (λx=>(lF o).any λy=>x==y||sR (e.anc.getD y []) x)
 |none=>true
def uR(P:Program)(n:Nat)(ops:List Oper)(e:DE):Bool:=
 e.fl.all (aBW P ops e)&&(List.range ops.length).all (aBV n ops e)
section
variable{P:Program}{n:Nat}{ops:List Oper}{e:DE}
def vN(h:uR P n ops e=true){k:Nat}{o:Oper}(c:ops[k]?=some o):
  (∀d,o.dst=some d->d<n)/\ID o=true/\(∀x∈lF o,x<k)/\∀x∈e.anc.getD k [],∃y∈lF o,x=y\/x∈e.anc.getD y []:=by
 simp only[uR,bV,jB]at h;have b:k<ops.length:=by
  rcases qZ k ops.length with f|f
  .exact f
  .rw[dY f]at c;cases c
 have:=h.2 k (gW.2 b);simp only[aBV,c,bV,jB,nL,gH,iU,fK]at this;obtain⟨⟨⟨q,p⟩,m⟩,l⟩:=this;refine⟨λd j=>by simpa[j]using q,p,m,λx i=>?_⟩;obtain⟨y,g,a⟩:=l x i;exact⟨y,g,a.imp id mO.1⟩
def Hv(h:uR P n ops e=true)(v:i∈e.fl):∃o d,ops[i]?=some o/\o.dst=some d/\(rC P o.op=true\/isRead P o.op=true)/\
  ∀k ok,ops[k]?=some ok->(k≠i->ok.dst≠some d)/\(d∈sB ops ok->i∈e.anc.getD k [])/\
   ∀s,ok.dst=some s->s∈sB ops o->k∈e.anc.getD i []\/(k∉e.fl/\i∈e.anc.getD k []):=by
 simp only[uR,bV,jB]at h;have b:=h.1 i v;unfold aBW at b;cases t:ops[i]? with
 |none=>simp[t]at b
 |some o=>
  simp only[t]at b;cases q:o.dst with
  |none=>simp[q]at b
  |some d=>
   simp only[q,bV,gH,jB]at b;refine⟨o,d,rfl,q,b.1,λk ok m=>?_⟩;have j:k<ops.length:=by
    rcases qZ k ops.length with r|r
    .exact r
    .rw[dY r]at m;cases m
   have u:=b.2 k (gW.2 j);simp only[m,bV,gH,iU,bne_iff_ne,oF]at u;obtain⟨⟨x,c⟩,a⟩:=u;refine⟨λf=>x.resolve_left f,λg=>?_,λs p g=>?_⟩
   .rcases c with c|c
    .rw[mO.2 g]at c;cases c
    .exact mO.1 c
   .simp only[p,bV,gH,oF]at a;rcases a with(a|a)|⟨a,w⟩
    .rw[mO.2 g]at a;cases a
    .exact .inl (mO.1 a)
    .exact .inr ⟨(λl=>by rw[mO.2 l]at a;cases a),mO.1 w⟩
def HK(h:uR P n ops e=true){done:List Nat}(p:∀k∈done,∀o,ops[k]?=some o->∀x∈lF o,x∈done):
  ∀(k:Nat) (o:Oper),ops[k]?=some o->(∀x∈lF o,x∈done)->∀x∈e.anc.getD k [],x∈done:=by
 intro k;induction k using Nat.strongRecOn with
 |_ k ih=>
  intro o f i x m;obtain⟨_,_,j,q⟩:=vN h f;obtain⟨y,c,a⟩:=q x m;rcases a with rfl|a
  .exact i x c
  .have d:=i y c;cases b:ops[y]? with
   |none=>
    rw[List.getElem?_eq_none_iff]at b;have r:k<ops.length:=by
     rcases qZ k ops.length with g|g
     .exact g
     .rw[dY g]at f;cases f
    have:=j y c;omega
   |some oy=>exact ih y (j y c) oy b (λz l=>p y d oy b z l) x a
end
section
variable{P:Program}{n:Nat}{D:List Deferred}{ops:List Oper}{e:DE}
def YY(P:Program)(ops:List Oper)(f:Fr)(o:Oper)(d:Nat)(w:World):Prop:=
 (pG ops f o=true/\(execOp (ev f) o).run P w=.ok (.value (f d)) w)\/(pG ops f o=false/\f d=undef)
structure Inv(R:Fr->Prop)(P:Program)(n:Nat)(D:List Deferred)(ops:List Oper)(e:DE)(listed:Array Bool)(a:Act)(done pend:List Nat)(f:Fr)(w:World):Prop where
 fr:R f
 defers:a.defers=D
 size:a.tmps.size=n
 lsize:listed.size=ops.length
 l1:∀i:Nat,listed.getD i false=true->i∈done
 l2:∀i∈done,i<ops.length/\(listed.getD i false=false->i∈e.fl/\i∈pend)
 l3:∀t,(∀i∈done,listed.getD i false=false->uY ops i≠some t)->a.tmps.getD t undef=f t
 l4:∀i∈done,listed.getD i false=false->∀o d,ops[i]?=some o->o.dst=some d->YY P ops f o d w/\(rC P o.op=true->∀w',YY P ops f o d w')
 l5:∀i∈done,∀o,ops[i]?=some o->∀x∈lF o,x∈done
 l6:∀i:Nat,listed.getD i false=true->∀o,ops[i]?=some o->∀x∈lF o,listed.getD x false=true
def GR{o:Oper}{t:Nat}(h:Operand.tmp t∈o.op.operands.toList):t∈sB ops o:=by
 unfold sB;exact cH _ (cA.2 ⟨.tmp t,h,rfl⟩)
def Fh{o:Oper}{g:Nat}{d:Nat}(a:o.guard=some (g,E))(b:uY ops g=some d):d∈sB ops o:=by
 unfold sB;refine bR _ ?_;simp[a,b]
def NX{o:Oper}(h:ID o=true):∀cs b,o.op≠.select cs b:=by
 intro cs b a;simp[ID,a]at h
def EI{o:Oper}(b:ID o=true){ρ ρ':Operand->Value}(h:∀x∈o.op.operands.toList,ρ x=ρ' x):execOp ρ o=execOp ρ' o:=
 execOp_congr o (NX b) (λx a=>h x (by simpa using a))
def Qe{f a:Fr}{x:Operand}(h:∀t,x=.tmp t->f t=a t):ev f x=ev a x:=by
 cases x<;>first|rfl|exact h _ rfl
def Ac{f a:Fr}{o:Oper}(h:∀t∈sB ops o,f t=a t):pG ops f o=pG ops a o:=by
 unfold pG;cases b:o.guard with
 |none=>rfl
 |some gw=>
  obtain⟨g,want⟩:=gw;simp only[yv];cases c:uY ops g with
  |none=>rfl
  |some d=>simp only[h d (Fh b c)]
def YY.same{f a:Fr}{o:Oper}{d:Nat}(g:ID o=true)(h:∀t∈sB ops o,f t=a t)(i:f d=a d)(b:YY P ops f o d w):YY P ops a o d w:=by
 unfold YY at*
 rw[<-Ac h,<-i];rw[<-EI g (ρ:=ev f) (ρ':=ev a) (λx c=>Qe λt e=>h t (GR (e▸c)))];exact b
def Tz{f:Fr}{o:Oper}{K:Value->Prop}(p:rC P o.op=true\/isRead P o.op=true)(h:qfW P ops f o w K):
  ∃v,K v/\((pG ops f o=true/\(execOp (ev f) o).run P w=.ok (.value v) w/\(rC P o.op=true->∀W,(execOp (ev f) o).run P W=.ok (.value v) W))\/(pG ops f o=false/\v=undef)):=by
 have key:∀K:Value->Prop,aAb P f o w K->∃v,K v/\(execOp (ev f) o).run P w=.ok (.value v) w/\(rC P o.op=true->∀W,(execOp (ev f) o).run P W=.ok (.value v) W):=by
  intro K h;unfold aAb at h;cases b:rC P o.op with
  |true=>
   rw[b]at h;obtain⟨v,a,c⟩:=GE (o:=o) h;exact⟨v,a,c w,λ_=>c⟩
  |false=>
   rw[b]at h;obtain⟨v,a,c⟩:=CB (o:=o) h;exact⟨v,a,c,λm=>by cases m⟩
 unfold qfW at h;unfold pG;cases j:o.guard with
 |none=>
  simp only[j]at h;obtain⟨v,a,i,e⟩:=key K h;exact⟨v,a,.inl ⟨rfl,i,e⟩⟩
 |some gw=>
  obtain⟨g,want⟩:=gw;simp only[j]at h;obtain⟨v,l,n,a⟩:=h;cases d:yv ops f g want with
  |true=>
   obtain⟨k,rfl,i,e⟩:=key _ (l d);exact⟨k,a,.inl ⟨d,i,e⟩⟩
  |false=>exact⟨v,a,.inr ⟨d,n d⟩⟩
def Bo{done:List Nat}:∀{l:List Nat} {i:Nat} {o:Oper},xD ops done l=some (i,o)->i∈l/\i∉done/\ops[i]?=some o/\∀x∈lF o,x∈done
 |[],_,_,h=>by cases h
 |j::l,i,o,h=>by
  simp only[xD]at h
  cases b:sR done j with
  |true=>rw[b]at h;obtain⟨e,d⟩:=Bo (l:=l) h;exact⟨aF _ e,d⟩
  |false=>
   rw[b]at h
   simp only[aR]at h
   have rec_:xD ops done l=some (i,o)->i∈j::l/\i∉done/\ops[i]?=some o/\∀x∈lF o,x∈done:=λh=>by
    obtain⟨e,d⟩:=Bo (l:=l) h
    exact⟨aF _ e,d⟩
   cases c:ops[j]? with
   |none=>rw[c]at h;exact rec_ h
   |some o'=>
    rw[c]at h
    simp only at h
    cases a:allIn done (lF o')with
    |true=>
     rw[a]at h
     simp only[aV,bB,gA]at h
     obtain⟨rfl,rfl⟩:=h
     exact⟨bC,(λf=>by rw[mO.2 f]at b;cases b),c,Cn.1 a⟩
    |false=>rw[a]at h;exact rec_ h
def yB{done:List Nat}:∀{l:List Nat},xD ops done l=none->∀i∈l,i∉done->∀o,ops[i]?=some o->¬∀x∈lF o,x∈done
 |[],_,_,c,_,_,_,_=>by cases c
 |j::l,h,i,c,hd,o,e,a=>by
  simp only[xD]at h
  cases f:sR done j with
  |true=>
   rw[f]at h
   rcases aX.1 c with rfl|c
   .exact hd (mO.1 f)
   .exact yB (l:=l) h i c hd o e a
  |false=>
   rw[f]at h
   simp only[aR]at h
   rcases aX.1 c with rfl|c
   .rw[e]at h
    simp[Cn.2 a]at h
   .cases d:ops[j]? with
    |none=>rw[d]at h;exact yB (l:=l) h i c hd o e a
    |some o'=>
     rw[d]at h
     simp only at h
     cases b:allIn done (lF o')with
     |true=>rw[b]at h;cases h
     |false=>rw[b]at h;exact yB (l:=l) h i c hd o e a
def LW{fl done:List Nat}:∀(l:List Oper) (k i:Nat) (o:Oper),l[i]?=some o->k+i∉done->k+i∉fl->(∀x∈lF o,x∈done)->(k+i,o)∈EK ops fl done k l
 |[],_,i,o,h,_,_,_=>by simp at h
 |p::l,k,0,o,h,e,d,c=>by
  simp only[bG,bB]at h
  subst h
  have j:sR done k=false:=by
   cases a:sR done k with
   |false=>rfl
   |true=>exact absurd (mO.1 a) e
  have g:sR fl k=false:=by
   cases a:sR fl k with
   |false=>rfl
   |true=>exact absurd (mO.1 a) d
  simp[EK,j,g,Cn.2 c]
 |p::l,k,i+1,o,h,e,d,c=>by
  have f:l[i]?=some o:=by simpa using h
  have:=LW (fl:=fl) (done:=done) l (k+1) i o f (by rwa[show k+1+i=k+(i+1)by omega]) (by rwa[show k+1+i=k+(i+1)by omega]) c;rw[show k+1+i=k+(i+1)by omega]at this;simp only[EK];generalize (bif sR done k then false else bif sR fl k then false else allIn done (lF p))=b;cases b
  .exact this
  .exact aF _ this
def Mr{fl done:List Nat}:∀(l:List Oper) (k:Nat) (io:Nat×Oper),io∈EK ops fl done k l->k<=io.1/\l[io.1-k]?=some io.2/\io.1∉done/\io.1∉fl/\∀x∈lF io.2,x∈done
 |[],_,_,h=>by cases h
 |p::l,k,io,h=>by
  simp only[EK]at h
  have tail:io∈EK ops fl done (k+1) l->k<=io.1/\(p::l)[io.1-k]?=some io.2/\io.1∉done/\io.1∉fl/\∀x∈lF io.2,x∈done:=by
   intro h;obtain⟨g,f,e⟩:=Mr l (k+1) io h;refine⟨by omega,?_,e⟩;rw[show io.1-k=(io.1-(k+1))+1 by omega];simpa using f
  cases a:sR done k with
  |true=>rw[a]at h;exact tail h
  |false=>
   cases b:sR fl k with
   |true=>rw[a,b]at h;exact tail h
   |false=>
    cases d:allIn done (lF p)with
    |false=>rw[a,b,d]at h;exact tail h
    |true=>
     rw[a,b,d]at h;simp only[aR,aV]at h;rcases aX.1 h with rfl|h
     .refine⟨aQ _,by simp,(λc=>by rw[mO.2 c]at a;cases a),(λc=>by rw[mO.2 c]at b;cases b),Cn.1 d⟩
     .exact tail h
def zC{f:Fr}{w:World}{R:Prop}:∀{l:List Nat},AJ P ops f w R l->R
 |[],h=>h
 |i::l,h=>by
  unfold AJ at h
  split at h
  .split at h
   .cases a:rC P _<;>rw[a]at h
    .exact zC (l:=l) h.2
    .exact zC (l:=l) h
   .exact zC (l:=l) h
  .exact zC (l:=l) h
def Bc{f:Fr}{w:World}{R:Prop}:∀{l:List Nat},AJ P ops f w R l->∀i∈l,∀o d,ops[i]?=some o->o.dst=some d->rC P o.op=false->pG ops f o=true->
  GB P f o w (λx=>x=f d)
 |[],_,_,a,_,_,_,_,_,_=>by cases a
 |j::l,h,i,a,o,d,e,hd,c,b=>by
  rcases aX.1 a with rfl|a
  .unfold AJ at h
   simp only[e,hd,c]at h
   unfold pG at b
   cases m:o.guard with
   |none=>simp only[m]at h;exact h.1
   |some gw=>
    obtain⟨g,want⟩:=gw
    simp only[m]at h b
    exact h.1 b
  .unfold AJ at h
   split at h
   .split at h
    .cases k:rC P _<;>rw[k]at h
     .exact Bc (l:=l) h.2 i a o d e hd c b
     .exact Bc (l:=l) h i a o d e hd c b
    .exact Bc (l:=l) h i a o d e hd c b
   .exact Bc (l:=l) h i a o d e hd c b
end
section
variable{R:Fr->Prop}{P:Program}{n:Nat}{D:List Deferred}{ops:List Oper}{e:DE}
def xC:∀(N:Nat) (l:List Nat),l.Nodup->(∀i∈l,i<N)->l.length<=N
 |0,[],_,_=>aQ _
 |0,x::_,_,h=>by have:=h x bC;omega
 |N+1,l,b,h=>by
  have j:(l.erase N).length<=N:=xC N (l.erase N) (b.erase N) λi c=>by
   have g:=h i (List.mem_of_mem_erase c)
   have f:i≠N:=λe=>by subst e;exact(List.Nodup.not_mem_erase b) c
   omega
  have d:=List.length_erase (a:=N) (l:=l)
  split at d<;>omega
def lt_of_some{k:Nat}{o:Oper}(h:ops[k]?=some o):k<ops.length:=by
 rcases qZ k ops.length with a|a
 .exact a
 .rw[dY a]at h;cases h
def AC{k:Nat}{o:Oper}(h:ops[k]?=some o):uY ops k=o.dst:=by simp[uY,h]
theorem Inv.float(hR:∀f o v,o∈ops->R f->R (upd f o.dst v))(F:uR P n ops e=true){listed:Array Bool}{a:Act}{done:List Nat}{f:Fr}(I:Inv R P n D ops e listed a done u f w){o:Oper}(U:i∈e.fl)(J:i∉done)(s:ops[i]?=some o)(V:∀x∈lF o,x∈done)
  (Z:(pG ops f o=true/\(execOp (ev f) o).run P w=.ok (.value v) w/\(rC P o.op=true->∀W,(execOp (ev f) o).run P W=.ok (.value v) W))\/(pG ops f o=false/\v=undef)):
  Inv R P n D ops e listed a (i::done) (i::u) (upd f o.dst v) w:=by
 obtain⟨o',d,C,m,O,q⟩:=Hv F U;rw[s]at C;cases C;have A:d∉sB ops o:=λN=>J (HK F I.l5 i o s V i ((q i o s).2.1 N));have p:∀t,t≠d->upd f o.dst v t=f t:=λt r=>by rw[m,sC,aE r]
 refine⟨hR _ _ _ (bA s) I.fr,I.defers,I.size,I.lsize,λk g=>aF _ (I.l1 k g),?_,?_,?_,?_,I.l6⟩
 .intro k g;rcases aX.1 g with rfl|g
  .exact⟨lt_of_some s,λ_=>⟨U,bC⟩⟩
  .exact⟨(I.l2 k g).1,λz=>⟨((I.l2 k g).2 z).1,aF _ ((I.l2 k g).2 z).2⟩⟩
 .intro t r;have L:t≠d:=λh=>by
   subst h;refine r i bC ?_ (by rw[AC s,m]);cases z:listed.getD i false with
   |false=>rfl
   |true=>exact absurd (I.l1 i z) J
  rw[p t L];exact I.l3 t λk g z=>r k (aF _ g) z
 .intro k g z ok K c y;rcases aX.1 g with rfl|g
  .rw[s]at c;cases c;rw[m]at y;cases y;have b:∀t∈sB ops o,f t=upd f o.dst v t:=λt r=>(p t (λh=>A (h▸r))).symm;have j:upd f o.dst v d=v:=by rw[m,sC,aO rfl]
   have l:=(vN F s).2.1;have S:execOp (ev f) o=execOp (ev (upd f o.dst v)) o:=EI l (λx H=>Qe λt r=>b t (GR (r▸H)));rcases Z with⟨B,G,Y⟩|⟨B,G⟩
   .rw[S]at G Y;rw[Ac b]at B;exact⟨.inl ⟨B,by rw[j];exact G⟩,λM W=>.inl ⟨B,by rw[j];exact Y M W⟩⟩
   .rw[Ac b]at B;exact⟨.inr ⟨B,by rw[j];exact G⟩,λ_ _=>.inr ⟨B,by rw[j];exact G⟩⟩
  .have Q:k≠i:=λh=>J (h▸g);have T:d∉sB ops ok:=λN=>J (HK F I.l5 k ok c (I.l5 k g ok c) i ((q k ok c).2.1 N));have E:K≠d:=λh=>(q k ok c).1 Q (by rw[y,h]);have l:=(vN F c).2.1;have X:=I.l4 k g z ok K c y;have b:∀t∈sB ops ok,f t=upd f o.dst v t:=λt r=>(p t (λh=>T (h▸r))).symm;exact⟨X.1.same l b (p K E).symm,λM W=>(X.2 M W).same l b (p K E).symm⟩
 .intro k g ok c x H;rcases aX.1 g with rfl|g
  .rw[s]at c;cases c;exact aF _ (V x H)
  .exact aF _ (I.l5 k g ok c x H)
def EL[HX](q:∀f o v,o∈ops->R f->R (upd f o.dst v))(l:uR P n ops e=true){K:Fr->World->Prop}{listed:Array Bool}{a:Act}{w:World}:∀(m:Nat) (done pend:List Nat) (f:Fr),
  Inv R P n D ops e listed a done pend f w->zP P ops e m done pend f w K->
  ∃m' b c t,Inv R P n D ops e listed a b c t w/\zP P ops e (m'+1) b c t w K/\xD ops b e.fl=none
 |0,_,_,_,_,h=>by cases h
 |m+1,done,pend,f,I,h=>by
  cases k:xD ops done e.fl with
  |none=>exact⟨m,done,pend,f,I,h,k⟩
  |some io=>
   obtain⟨i,o⟩:=io
   simp only[zP,k]at h
   obtain⟨s,z,r,y⟩:=Bo k
   obtain⟨A,d,j,p,g,_⟩:=Hv l s
   rw[r]at j
   cases j
   obtain⟨v,x,u⟩:=Tz g h
   exact EL q l m _ _ _ (I.float q l s z r y u) x
def CF{listed:Array Bool}(b:listed.size=ops.length):i∈Region.ready .any ops.toArray listed↔
  ∃o,ops[i]?=some o/\listed.getD i false=false/\∀x∈lF o,listed.getD x false=true:=by
 unfold Region.ready;simp only[qO,gW,aI,bV,oF,bP];constructor
 .rintro⟨e,d,a⟩;have c:ops[i]?=some ops[i]:=aH e;rw[c]at a;simp only[aK,tY,Cr,gH,oF]at a;refine⟨_,c,?_,λx j=>?_⟩
  .simp only[lU]at d⊢;have:i<listed.size:=by rw[b];exact e
   simpa[this]using d
  .simp only[lF,fL,qO,Array.mem_toList_iff]at j;obtain⟨f,⟨g,h⟩,rfl⟩:=j;rcases a f g with a|a
   .rw[h]at a;cases a
   .exact a
 .rintro⟨o,c,d,a⟩;have e:=lt_of_some c;refine⟨e,?_,?_⟩
  .simp only[lU]at d⊢;have:i<listed.size:=by rw[b];exact e
   simpa[this]using d
  .rw[c];simp only[aK,tY,Cr,gH,oF];intro f g;cases h:Region.binds .any f with
   |false=>exact .inl rfl
   |true=>exact .inr (a _ (by simp only[lF,fL,qO,Array.mem_toList_iff];exact⟨f,⟨g,h⟩,rfl⟩))
def rE(listed:Array Bool)(i k:Nat)(a:i<listed.size):(listed.setIfInBounds i true).getD k false=(if k=i then true else listed.getD k false):=by
 simp only[lU,FH];by_cases h:k=i
 .subst h;simp[a]
 .rw[aE h,aE (kY h)]
theorem OA[HX](hR:∀f o v,o∈ops->R f->R (upd f o.dst v))(Y:uR P n ops e=true){Q:Exit->Act->World->Prop}{K:Fr->World->Prop}
  (hQ:∀f a w,Ag n D f a->R f->K f w->Q .normal a w)(hX:∀c f a w,a.defers=D->R f->(∀t,(∀o∈ops,o.dst≠some t)->a.tmps.getD t undef=f t)->HX.X c w->Q (.panic c) a w):∀(m:Nat) (listed:Array Bool) (a:Act) (done pend:List Nat) (f:Fr) (w:World) (k:Nat),
  Inv R P n D ops e listed a done pend f w->zP P ops e k done pend f w K->(∀l:List Nat,l.Nodup->(∀i∈l,i<ops.length/\listed.getD i false=false)->l.length<=m)->
  wpAny P .any ops.toArray Q m listed a w:=by
 have fin:∀(listed:Array Bool) (a:Act) (done pend:List Nat) (f:Fr) (w:World) (k:Nat),Inv R P n D ops e listed a done pend f w->zP P ops e k done pend f w K->
   (∀i,i<ops.length->listed.getD i false=true)->Q .normal a w:=by
  intro listed a done pend f w k I h E;obtain⟨k',b,B,N,u,h',hn⟩:=EL hR Y k done pend f I h;simp only[zP,hn]at h';have za:Ag n D N a:=⟨u.defers,u.size,λt=>u.l3 t λi hi hl=>by
   have:=E i (u.l2 i hi).1;rw[this]at hl;cases hl⟩
  cases he:EK ops e.fl b 0 ops with
  |nil=>rw[he]at h';exact hQ _ _ _ za u.fr h'
  |cons x r=>
   have F:x∈EK ops e.fl b 0 ops:=by rw[he];exact bC
   obtain⟨_,h2,h3,_⟩:=Mr ops 0 x F;exact absurd (u.l1 x.1 (E x.1 (lt_of_some (by simpa using h2)))) h3
 have stop:∀(listed:Array Bool),listed.size=ops.length->Region.ready .any ops.toArray listed=[]->∀i,i<ops.length->listed.getD i false=true:=by
  intro listed yr hr i;induction i using Nat.strongRecOn with
  |_ i ih=>
   intro hi;cases hl:listed.getD i false with
   |true=>rfl
   |false=>
    have L:ops[i]?=some ops[i]:=aH hi;have:i∈Region.ready .any ops.toArray listed:=(CF yr).2 ⟨_,L,hl,λx F=>by
     have:=(vN Y L).2.2.1 x F;exact ih x this (by omega)⟩
    rw[hr]at this;cases this
 intro m;induction m with
 |zero=>
  intro listed a done pend f w k I h U;have E:∀i,i<ops.length->listed.getD i false=true:=λi hi=>by
   cases hl:listed.getD i false with
   |true=>rfl
   |false=>have:=U [i] (by simp) (by intro j s;rw[bO.1 s];exact⟨hi,hl⟩);simp at this
  refine⟨?_,fin _ _ _ _ _ _ _ I h E⟩;cases hr:Region.ready .any ops.toArray listed with
  |nil=>rfl
  |cons i r=>
   have:i∈Region.ready .any ops.toArray listed:=by rw[hr];exact bC
   obtain⟨o,L,hl,_⟩:=(CF I.lsize).1 this;rw[E i (lt_of_some L)]at hl;cases hl
 |succ m ih=>
  intro listed a done pend f w k I h U;refine⟨λhr=>fin _ _ _ _ _ _ _ I h (stop listed I.lsize hr),λi hi=>?_⟩;obtain⟨o,L,hl,hb⟩:=(CF I.lsize).1 hi;have xd:=lt_of_some L;have C:i<listed.size:=by rw[I.lsize];exact xd
  obtain⟨k',b,B,N,u,h',hn⟩:=EL hR Y k done pend f I h;clear I h;have hs:∀t∈sB ops o,a.tmps.getD t undef=N t:=λt S=>u.l3 t λj s p H=>by
   obtain⟨xs,_⟩:=(u.l2 j s).2 p;obtain⟨O,dj,A,z,_,E⟩:=Hv Y xs;rw[AC A,z]at H;cases H;have hq:=(E i o L).2.1 S;have xr:∀x∈e.anc.getD i [],listed.getD x false=true:=by
    have:=HK Y (done:=(List.range ops.length).filter λx=>listed.getD x false) (λx F ox hz y hy=>by
     simp only[qO,gW]at F⊢;exact⟨by have:=(vN Y hz).2.2.1 y hy;omega,u.l6 x F.2 ox hz y hy⟩) i o L (λx F=>by
     simp only[qO,gW];exact⟨by have:=(vN Y L).2.2.1 x F;omega,hb x F⟩)
    intro x F;have:=this x F;simp only[qO]at this;exact this.2
   rw[xr j hq]at p;cases p
  have ya:=(vN Y L).2.1;have hv:Region.wanted o (yielded ops.toArray a.tmps)=pG ops N o:=Ib λg want d hg hd=>hs d (Fh hg hd);have xf:execOp a.eval o=execOp (ev N) o:=EI ya λx F=>aBS λt S=>hs t (GR (S▸F));have V:∀l:List Nat,l.Nodup->(∀j∈l,j<ops.length/\(listed.setIfInBounds i true).getD j false=false)->l.length<=m:=by
   intro l yu ye;have yf:i∉l:=λhm=>by
    have:=(ye i hm).2;rw[rE _ _ _ C,aO rfl]at this;cases this
   have:=U (i::l) (dX.2 ⟨yf,yu⟩) (λj s=>by
    rcases aX.1 s with rfl|s
    .exact⟨xd,hl⟩
    .have yt:j≠i:=λh=>yf (h▸s);have:=ye j s;rw[rE _ _ _ C,aE yt]at this;exact this)
   simpa using this
  have yd:∀j:Nat,(listed.setIfInBounds i true).getD j false=true->∀O,ops[j]?=some O->∀x∈lF O,(listed.setIfInBounds i true).getD x false=true:=by
   intro j s O A x F;rw[rE _ _ _ C];by_cases xy:x=i
   .rw[aO xy]
   .rw[aE xy];rw[rE _ _ _ C]at s;by_cases q:j=i
    .subst q;rw[L]at A;cases A;exact hb x F
    .rw[aE q]at s;exact u.l6 j s O A x F
  by_cases G:i∈b
  ·
   obtain⟨yy,_⟩:=(u.l2 i G).2 hl;obtain⟨o',d,yb,z,_,E⟩:=Hv Y yy;rw[L]at yb;cases yb;have xu:=(vN Y L).1 d z;have hI:Inv R P n D ops e (listed.setIfInBounds i true) (a.put o.dst (N d)) b B N w:=by
    refine⟨u.fr,by rw[put_defers];exact u.defers,by rw[GD];exact u.size,by simp[u.lsize],?_,?_,?_,?_,u.l5,yd⟩
    .intro j s;rw[rE _ _ _ C]at s;by_cases q:j=i
     .subst q;exact G
     .rw[aE q]at s;exact u.l1 j s
    .intro j s;refine⟨(u.l2 j s).1,λp=>?_⟩;rw[rE _ _ _ C]at p;by_cases q:j=i
     .rw[aO q]at p;cases p
     .rw[aE q]at p;exact(u.l2 j s).2 p
    .intro t S;rw[z,JU _ _ _ _ (by rw[u.size];exact xu)];by_cases J:t=d
     .rw[aO J,J]
     .rw[aE J];refine u.l3 t λj s p H=>?_;by_cases q:j=i
      .subst q;rw[AC L,z]at H;cases H;exact J rfl
      .exact S j s (by rw[rE _ _ _ C,aE q];exact p) H
    .intro j s p;rw[rE _ _ _ C]at p;by_cases q:j=i
     .rw[aO q]at p;cases p
     .rw[aE q]at p;exact u.l4 j s p
   have xa:=ih _ _ b B N w (k'+1) hI h' V;have hy:=(u.l4 i G hl o d L z).1;unfold wpOp;simp only[bP,L];rw[hv];rcases hy with⟨Z,h2⟩|⟨Z,h2⟩
   .rw[aO Z];refine .inl ?_;unfold Oper.wp;rw[xf,h2];exact xa
   .rw[aE (by rw[Z];simp),<-h2];exact xa
  ·
   have xv:∀x∈lF o,x∈b:=λx F=>u.l1 x (hb x F);have ys:i∉e.fl:=λhf=>yB hn i hf G o L xv;have hh:(i,o)∈EK ops e.fl b 0 ops:=by
    have:=LW (ops:=ops) (fl:=e.fl) (done:=b) ops 0 i o L (by simpa using G) (by simpa using ys) xv;simpa using this
   simp only[zP,hn]at h';have xe:geW P ops N o w λv W=>AJ P ops (upd N o.dst v) W (zP P ops e k' (i::b) (Bn (e.anc.getD i []) B) (upd N o.dst v) W K) (Bn (e.anc.getD i []) B):=by
    cases he:EK ops e.fl b 0 ops with
    |nil=>rw[he]at hh;cases hh
    |cons x r=>
     rw[he]at h' hh;exact Jf h' hh
   have xu:=(vN Y L).1;have xb:∀x∈e.anc.getD i [],listed.getD x false=true:=by
    have:=HK Y (done:=(List.range ops.length).filter λx=>listed.getD x false) (λx F ox hz y hy=>by
     simp only[qO,gW]at F⊢;exact⟨by have:=(vN Y hz).2.2.1 y hy;omega,u.l6 x F.2 ox hz y hy⟩) i o L (λx F=>by
     simp only[qO,gW];exact⟨by have:=(vN Y L).2.2.1 x F;omega,hb x F⟩)
    intro x F;have:=this x F;simp only[qO]at this;exact this.2
   have xg:∀v W,AJ P ops (upd N o.dst v) W (zP P ops e k' (i::b) (Bn (e.anc.getD i []) B) (upd N o.dst v) W K) (Bn (e.anc.getD i []) B)->
     wpAny P .any ops.toArray Q m (listed.setIfInBounds i true) (a.put o.dst v) W:=by
    intro v W xz;refine ih _ _ (i::b) (Bn (e.anc.getD i []) B) (upd N o.dst v) W k' ?_ (zC xz) V;have xl:∀j∈i::b,(listed.setIfInBounds i true).getD j false=false->j≠i/\j∈b/\listed.getD j false=false:=by
     intro j s p;rw[rE _ _ _ C]at p;by_cases q:j=i
     .rw[aO q]at p;cases p
     .rw[aE q]at p;exact⟨q,(aX.1 s).resolve_left q,p⟩
    refine⟨hR _ _ _ (bA L) u.fr,by rw[put_defers];exact u.defers,by rw[GD];exact u.size,by simp[u.lsize],?_,?_,?_,?_,?_,yd⟩
    .intro j s;rw[rE _ _ _ C]at s;by_cases q:j=i
     .subst q;exact bC
     .rw[aE q]at s;exact aF _ (u.l1 j s)
    .intro j s;refine⟨?_,λp=>?_⟩
     .rcases aX.1 s with rfl|s
      .exact xd
      .exact(u.l2 j s).1
     .obtain⟨q,xc,M⟩:=xl j s p;obtain⟨Z,h2⟩:=(u.l2 j xc).2 M;exact⟨Z,IF h2 λhm=>by rw[xb j hm]at M;cases M⟩
    .intro t S;have h3:∀(h:∀d,o.dst=some d->t≠d),a.tmps.getD t undef=N t:=λh=>u.l3 t λj s p H=>by
      have q:j≠i:=λh'=>G (h'▸s);exact S j (aF _ s) (by rw[rE _ _ _ C,aE q];exact p) H
     cases z:o.dst with
     |none=>rw[z]at h3;exact h3 (λd hd=>by cases hd)
     |some d=>
      rw[JU _ _ _ _ (by rw[u.size];exact xu d z),sC];by_cases J:t=d
      .rw[aO J,aO J]
      .rw[aE J,aE J];exact h3 (λd' yh=>by rw[z]at yh;cases yh;exact J)
    .intro j s p O dj A H;obtain⟨q,xc,M⟩:=xl j s p;obtain⟨xs,yx⟩:=(u.l2 j xc).2 M;obtain⟨zd,zk,xm,xn,yw,E⟩:=Hv Y xs;rw[A]at xm;cases xm;rw[H]at xn;cases xn;have xp:=(vN Y A).2.1;have hq:j∉e.anc.getD i []:=λhm=>by rw[xb j hm]at M;cases M
     have T:∀t,(t∈sB ops O\/t=dj)->N t=upd N o.dst v t:=by
      intro t S;cases z:o.dst with
      |none=>rfl
      |some d=>
       rw[sC];by_cases J:t=d
       .exfalso;subst J;rcases S with S|S
        .rcases(E i o L).2.2 t z S with Z|⟨_,Z⟩
         .exact G (HK Y u.l5 j O A (u.l5 j xc O A) i Z)
         .exact hq Z
        .exact(E i o L).1 (kY q) (by rw[z,S])
       .rw[aE J]
     obtain⟨yo,yn⟩:=u.l4 j xc M O dj A H;have hw:rC P O.op=true->∀W,YY P ops (upd N o.dst v) O dj W:=λhp W=>(yn hp W).same xp (λt S=>T t (.inl S)) (T dj (.inr rfl));refine⟨?_,hw⟩;cases hp:rC P O.op with
     |true=>exact hw hp W
     |false=>
      cases xi:pG ops (upd N o.dst v) O with
      |true=>
       have:=Bc xz j (IF yx hq) O dj A H hp xi;obtain⟨x,rfl,hr⟩:=CB this;exact .inl ⟨xi,hr⟩
      |false=>
       refine .inr ⟨xi,?_⟩;have yq:pG ops N O=false:=by rw[Ac (λt S=>T t (.inl S))];exact xi
       rcases yo with⟨Z,_⟩|⟨_,Z⟩
       .rw[yq]at Z;cases Z
       .rw[<-T dj (.inr rfl)];exact Z
    .intro j s O A x F;rcases aX.1 s with rfl|s
     .rw[L]at A;cases A;exact aF _ (xv x F)
     .exact aF _ (u.l5 j s O A x F)
   unfold wpOp;simp only[bP,L];rw[hv];unfold geW at xe;unfold pG;have yp:∀c w,HX.X c w->Q (.panic c) a w:=λc w F=>hX c N a w u.defers u.fr (λt S=>u.l3 t λj s _ H=>by
    obtain⟨O,A⟩:∃O,ops[j]?=some O:=⟨_,aH (u.l2 j s).1⟩;rw[AC A]at H;exact S O (bA A) H) F
   have act:∀{K':Value->World->Prop},(∀v W,K' v W->wpAny P .any ops.toArray Q m (listed.setIfInBounds i true) (a.put o.dst v) W)->KM P N o w K'->
     o.wp P a w (wpAny P .any ops.toArray Q m (listed.setIfInBounds i true)) Q:=by
    intro K' hk ha;unfold Oper.wp;rw[xf];exact(Jv ha).upon hk yp
   cases hg:o.guard with
   |none=>
    simp only[hg]at xe;exact .inl (act xg xe)
   |some gw=>
    obtain⟨g,want⟩:=gw;simp only[hg]at xe;obtain⟨Z,h2⟩:=xe;cases xj:yv ops N g want with
    |true=>simp only[xj,mE];exact .inl (act xg (Z xj))
    |false=>simp only[xj,rV,vJ];exact xg _ _ (h2 xj)
def Lv[HX]{id:Nat}(u:∀f o v,o∈ops->R f->R (upd f o.dst v))(m:P.follows .mixedOrders=true)(r:uR P n ops e=true){Q:Exit->Act->World->Prop}{K:Fr->World->Prop}{f:Fr}{a:Act}{k:Nat}
  (x:∀f a w,Ag n D f a->R f->K f w->Q .normal a w)(s:∀c f a w,a.defers=D->R f->(∀t,(∀o∈ops,o.dst≠some t)->a.tmps.getD t undef=f t)->HX.X c w->Q (.panic c) a w)(j:Ag n D f a)(q:R f)(h:zP P ops e k [] [] f w.drew K):(Code.region id ops.toArray true).wp P Q a w:=by
 refine wp_region_any m ?_;have b:∀i:Nat,(Array.replicate ops.length false).getD i false=false:=λi=>by
  simp only[lU,Array.getElem?_replicate];split<;>rfl
 refine OA u r x s _ _ a [] [] f _ k ⟨q,j.1,j.2.1,by simp,?_,?_,?_,?_,?_,?_⟩ h ?_
 .intro i d;rw[show ops.toArray.size=ops.length from by simp,b]at d;cases d
 .intro i d;cases d
 .intro t _;exact j.2.2 t
 .intro i d;cases d
 .intro i d;cases d
 .intro i d;rw[show ops.toArray.size=ops.length from by simp,b]at d;cases d
 .intro l g p;have:l.length<=ops.length:=by
   exact xC _ l g λi d=>(p i d).1
  simpa using this
end
structure PE where
 C:List Nat
 V:List Nat
 lo:Nat
structure fG where
 js:List (Nat×PE)
 ds:List (Nat×DE)
def lk{α:Type}:List (Nat×α)->Nat->Option α
 |[],_=>none
 |(k,e)::r,i=>bif Nat.beq k i then some e else lk r i
def inS(V:List Nat)(lo t:Nat):Bool:=bif Nat.ble lo t then true else sR V t
def ovl:List Nat->Nat->List Value->Fr->Fr
 |[],_,_,f=>f
 |c::C,k,s,f=>λj=>bif Nat.beq j c then s.getD k undef else ovl C (k+1) s f j
def ovf(e:PE)(f:Fr)(s:List Value)(g:Fr):Fr:=ovl e.C 0 s (λj=>bif inS e.V e.lo j then g j else f j)
def dE(A:(List Value->World->Prop)->Prop)(B:List Value->Fr->World->Prop):Prop:=
 ∃J:List Value->World->Prop,A J/\∀s g w,J s w->B s g w
def GdW(c:Bool)(u:List Value)(w:World)(A:(List Value->World->Prop)->Prop)(B:List Value->Fr->World->Prop):Prop:=
 ∃J:List Value->World->Prop,(c=true->A J)/\(c=false->J u w)/\∀s g w',J s w'->B s g w'
def eK(a:List Value)(w0:World)(B:List Value->Fr->World->(List Value->World->Prop)->Prop):Prop:=
 ∃(I:List Value->World->Prop) (μ:List Value->World->Nat),I a w0/\∀s g w,I s w->B s g w (λs' w'=>I s' w'/\μ s' w'<μ s w)
def bE(v:Value)(A B:Prop):Prop:=match v with|.bool t=>(t=true->A)/\(t=false->B)|_=>False
def gEq:Option (Nat×Bool)->Nat->Bool->Bool
 |some (g',w'),g,w=>bif Nat.beq g g' then w==w' else false
 |none,_,_=>false
def Cv(g:Nat)(want:Bool):List Oper->List Oper
 |[]=>[]
 |o::r=>bif gEq o.guard g want then o::Cv g want r else []
def Es(g:Nat)(want:Bool):List Oper->List Oper
 |[]=>[]
 |o::r=>bif gEq o.guard g want then Es g want r else o::r
def aDB[HX](P:Program):List Oper->Fr->World->(Fr->World->Prop)->Prop
 |[],f,w,K=>K f w
 |o::r,f,w,K=>KM P f o w λv w'=>aDB P r (upd f o.dst v) w' K
def Gr:List Oper->Fr->Fr
 |[],f=>f
 |o::r,f=>Gr r (upd f o.dst undef)
def UU(i k:Nat):Nat:=i*1000+k
def Ua[HX](P:Program)(pl:fG)(i:Nat)(ops:List Oper):Nat->List Oper->Fr->World->(Fr->World->Prop)->Prop
 |0,_,_,_,_=>False
 |_+1,[],f,w,K=>K f w
 |n+1,o::r,f,w,K=>
  match o.guard with
  |none=>KM P f o w λv w'=>Ua P pl i ops n r (upd f o.dst v) w' K
  |some (g,want)=>
   match lk pl.js (UU i (o::r).length)with
   |some e=>GdW (yv ops f g want) (e.C.map (Gr (Cv g want (o::r)) f)) w (λJ=>aDB P (Cv g want (o::r)) f w λa w'=>J (e.C.map a) w')
     λs h w'=>Ua P pl i ops n (Es g want (o::r)) (ovf e f s h) w' K
   |none=>False
def yA:Code->Nat
 |.seq a b=>yA a+yA b+1
 |.cond _ a b=>yA a+yA b+1
 |.block _ b=>yA b+1
 |.loop b=>yA b+1
 |.scope b=>yA b+1
 |_=>1
def sY[HX](P:Program)(pl:fG):Code->Nat->Fr->World->(Fr->World->Prop)->(Nat->Fr->World->Prop)->(Fr->World->Prop)->Prop
 |.skip,_,f,w,kn,_,_=>kn f w
 |.label _,_,f,w,kn,_,_=>kn f w
 |.region _ ops draw,i,f,w,kn,_,_=>
  bif draw then(match lk pl.ds i with|some e=>zP P ops.toList e (ops.toList.length+1) [] [] f w.drew kn|none=>False)
  else Ua P pl i ops.toList (ops.toList.length+1) ops.toList f w kn
 |.seq a b,i,f,w,kn,kx,kr=>
  match lk pl.js i with
  |none=>sY P pl a (i+1) f w (λd w'=>sY P pl b (i+1+yA a) d w' kn kx kr) kx kr
  |some e=>dE (λJ=>sY P pl a (i+1) f w (λd w'=>J (e.C.map d) w') kx kr) λs g w'=>sY P pl b (i+1+yA a) (ovf e f s g) w' kn kx kr
 |.cond c a b,i,f,w,kn,kx,kr=>bE (ev f c) (sY P pl a (i+1) f w kn kx kr) (sY P pl b (i+1+yA a) f w kn kx kr)
 |.block id b,i,f,w,kn,kx,kr=>sY P pl b (i+1) f w kn (λj d w'=>bif Nat.beq j id then kn d w' else kx j d w') kr
 |.loop b,i,f,w,_,kx,kr=>
  match lk pl.js i with
  |none=>False
  |some e=>eK (e.C.map f) w λs g w' again=>sY P pl b (i+1) (ovf e f s g) w' (λd h=>again (e.C.map d) h) kx kr
 |.scope b,i,f,w,kn,kx,kr=>sY P pl b (i+1) f w kn kx kr
 |.exit id,_,f,w,_,kx,_=>kx id f w
 |.ret,_,f,w,_,_,kr=>kr f w
 |_,_,_,_,_,_,_=>False
def MH(V:List Nat)(lo:Nat)(e:PE):Bool:=Nat.ble lo e.lo&&e.V.all (inS V lo)&&e.C.all (inS e.V e.lo)
def Cw(V:List Nat)(lo:Nat)(o:Oper):Bool:=match o.dst with|some d=>inS V lo d|none=>true
def Ms(n:Nat)(o:Oper):Bool:=match o.dst with|some d=>Nat.blt d n|none=>true
def rS(pl:fG)(V:List Nat)(lo:Nat)(i:Nat)(ops:List Oper):List Oper->Bool
 |[]=>true
 |o::r=>(match o.guard with
  |none=>true
  |some (g,want)=>(match lk pl.js (UU i (o::r).length)with
   |some e=>MH V lo e&&(Cv g want (o::r)).all λx=>Cw e.V e.lo x&&(match x.dst,uY ops g with|some d,some dg=> !(Nat.beq d dg)|_,_=>true)
   |none=>true))&&rS pl V lo i ops r
def chk(P:Program)(n:Nat)(pl:fG)(V:List Nat)(lo:Nat):Code->Nat->Bool
 |.region _ ops draw,i=>ops.toList.all (λo=>Cw V lo o&&Ms n o)&&
  (bif draw then(match lk pl.ds i with|some e=>uR P n ops.toList e|none=>true)else rS pl V lo i ops.toList ops.toList)
 |.seq a b,i=>(match lk pl.js i with|none=>chk P n pl V lo a (i+1)|some e=>MH V lo e&&chk P n pl e.V e.lo a (i+1))&&chk P n pl V lo b (i+1+yA a)
 |.cond _ a b,i=>chk P n pl V lo a (i+1)&&chk P n pl V lo b (i+1+yA a)
 |.block _ b,i=>chk P n pl V lo b (i+1)
 |.scope b,i=>chk P n pl V lo b (i+1)
 |.loop b,i=>(match lk pl.js i with|none=>true|some e=>MH V lo e&&chk P n pl e.V e.lo b (i+1))
 |_,_=>true
def Same(V:List Nat)(lo:Nat)(f a:Fr):Prop:=∀t,inS V lo t=false->a t=f t
def Same.refl(V:List Nat)(lo:Nat)(f:Fr):Same V lo f f:=λ_ _=>rfl
def Same.trans{V:List Nat}{lo:Nat}{f g h:Fr}(c:Same V lo f g)(b:Same V lo g h):Same V lo f h:=λt a=>(b t a).trans (c t a)
def PU{V:List Nat}{lo t:Nat}:inS V lo t=true↔lo<=t\/t∈V:=by
 unfold inS;cases h:Nat.ble lo t with
 |true=>simp[mQ h]
 |false=>
  have:¬lo<=t:=λa=>by rw[Nat.ble_eq_true_of_le a]at h;cases h
  simp[this,mO]
def EM{V:List Nat}{lo:Nat}{e:PE}(h:MH V lo e=true):(∀t,inS e.V e.lo t=true->inS V lo t=true)/\∀c∈e.C,inS e.V e.lo c=true:=by
 simp only[MH,bV,jB]at h;refine⟨λt b=>?_,h.2⟩;rcases PU.1 b with a|a
 .exact PU.2 (.inl (dN (mQ h.1.1) a))
 .exact h.1.2 t a
def Same.wider{V:List Nat}{lo:Nat}{f b:Fr}(c:∀t,inS V lo t=true->inS u i t=true)(h:Same V lo f b):Same u i f b:=λt a=>h t (by
 cases d:inS V lo t with
 |false=>rfl
 |true=>rw[c t d]at a;cases a)
def Px(a:Fr):∀(C:List Nat) (k:Nat) (s:List Value) (f:Fr) (t:Nat),(∀j,j<C.length->s.getD (k+j) undef=a (C.getD j 0))->(t∉C->f t=a t)->ovl C k s f t=a t
 |[],_,_,_,_,_,h=>h (by simp)
 |c::C,k,s,f,t,d,h=>by
  simp only[ovl]
  cases g:Nat.beq t c with
  |true=>
   have:=d 0 (by simp)
   simp only[aV]
   rw[lR g]
   simpa using this
  |false=>
   simp only[aR]
   have b:t≠c:=λe=>by subst e;simp at g
   refine Px a C (k+1) s f t (λj l=>?_) λi=>h (by simp[b,i])
   have:=d (j+1) (by simp;omega)
   rw[show k+1+j=k+(j+1)by omega,this]
   rfl
def Du{e:PE}{f a:Fr}(h:Same e.V e.lo f a):ovf e f (e.C.map a) a=a:=by
 funext t;refine Px a e.C 0 _ _ t (λj c=>?_) λ_=>?_
 .simp[c]
 .cases b:inS e.V e.lo t with
  |true=>simp[b]
  |false=>simp[b,h t b]
def Same.upd{V:List Nat}{lo:Nat}{f:Fr}{o:Oper}(h:Cw V lo o=true)(v:Value):Same V lo f (upd f o.dst v):=by
 intro t a;unfold Cw at h;cases b:o.dst with
 |none=>rfl
 |some d=>
  rw[b]at h;rw[sC,aE];intro e;subst e;have h:inS V lo t=true:=h;rw[h]at a;cases a
def Hs{o:Oper}(h:Ms n o=true):∀t,o.dst=some t->t<n:=by
 intro t a;rw[Ms,a]at h;exact mQ h
def UZ{x:Option (Nat×Bool)}{g:Nat}{w:Bool}(h:gEq x g w=true):x=some (g,w):=by
 cases x with
 |none=>cases h
 |some p=>
  obtain⟨b,W⟩:=p;simp only[gEq]at h;cases a:Nat.beq g b with
  |false=>rw[a]at h;cases h
  |true=>
   rw[a]at h;simp only[aV,iU]at h;rw[lR a,h]
def IW(g:Nat)(want:Bool):∀l:List Oper,l=Cv g want l++Es g want l/\∀o∈Cv g want l,o.guard=some (g,want)
 |[]=>⟨rfl,by simp[Cv]⟩
 |o::r=>by
  simp only[Cv,Es]
  cases h:gEq o.guard g want with
  |false=>simp
  |true=>
   obtain⟨c,b⟩:=IW g want r
   refine⟨by simp only[aV,fS];rw[<-c],λx a=>?_⟩
   simp only[aV,aX]at a
   rcases a with rfl|a
   .exact UZ h
   .exact b x a
section
variable [HX]{P:Program}{n:Nat}{D:List Deferred}{ops:List Oper}{Q:Exit->Act->World->Prop}{V:List Nat}{lo:Nat}
def PX[HX](V:List Nat)(lo:Nat)(D:List Deferred)(Q:Exit->Act->World->Prop)(f:Fr):Prop:=
 ∀c a w,a.defers=D->(∀t,inS V lo t=false->a.tmps.getD t undef=f t)->HX.X c w->Q (.panic c) a w
def PX.same{f d:Fr}(h:PX V lo D Q f)(i:Same V lo f d):PX V lo D Q d:=λc a w j g e=>h c a w j (λt b=>(g t b).trans (i t b)) e
def PX.sub{f:Fr}(h:PX V lo D Q f)(g:∀t,inS u i t=true->inS V lo t=true):PX u i D Q f:=λc a w k e d=>h c a w k (λt b=>e t (by
 cases j:inS u i t with
 |false=>rfl
 |true=>rw[g t j]at b;cases b)) d
def PX.ag{f:Fr}{a:Act}(h:PX V lo D Q f)(b:Ag n D f a):∀c w,HX.X c w->Q (.panic c) a w:=λc w d=>h c a w b.1 (λt _=>b.2.2 t) d
def CV{f:Fr}{a:Act}{o:Oper}(h:Ag n D f a):Region.wanted o (yielded ops.toArray a.tmps)=pG ops f o:=Ib λ_ _ d _ _=>h.2.2 d
def Kb{f:Fr}{a:Act}{o:Oper}{rest:List Oper}(b:Ag n D f a)(e:pG ops f o=true)(h:KM P f o w K)
  (g:∀v W,K v W->wpList P ops.toArray Q rest (a.put o.dst v) W)(d:∀c w,HX.X c w->Q (.panic c) a w):wpList P ops.toArray Q (o::rest) a w:=by
 unfold wpList;rw[aO (by rw[CV b];exact e)];refine .inl ?_;unfold Oper.wp;rw[Bw b];exact(Jv h).upon g d
def YL{f:Fr}{a:Act}{o:Oper}{rest:List Oper}(b:Ag n D f a)(c:pG ops f o=false)
  (d:wpList P ops.toArray Q rest (a.put o.dst undef) w):wpList P ops.toArray Q (o::rest) a w:=by
 unfold wpList;rw[aE (by rw[CV b,c];simp)];exact d
def Su{f:Fr}{g:Nat}{o:Oper}(h:∀d dg,o.dst=some d->uY ops g=some dg->d≠dg):yv ops (upd f o.dst v) g E=yv ops f g E:=by
 unfold yv;cases a:uY ops g with
 |none=>rfl
 |some dg=>
  cases b:o.dst with
  |none=>rfl
  |some d=>simp only;rw[sC,aE (kY (h d dg b a))]
def GI{g:Nat}{want:Bool}:∀(b rest:List Oper) (f:Fr) (a:Act) (w:World) (K:Fr->World->Prop),(∀o∈b,o.guard=some (g,want))->
  (∀o∈b,Cw V lo o=true/\(∀t,o.dst=some t->t<n)/\∀d dg,o.dst=some d->uY ops g=some dg->d≠dg)->Ag n D f a->yv ops f g want=true->aDB P b f w K->
  (∀i j W,Ag n D i j->Same V lo f i->K i W->wpList P ops.toArray Q rest j W)->PX V lo D Q f->wpList P ops.toArray Q (b++rest) a w
 |[],rest,f,a,w,K,_,_,c,_,h,m,_=>m f a w c (Same.refl _ _ _) h
 |o::b,rest,f,a,w,K,q,hd,c,p,h,m,r=>by
  obtain⟨s,A,z⟩:=hd o bC
  refine Kb c (by simp only[pG,q o bC];exact p) h (λv W B=>?_) (r.ag c)
  refine GI b rest (upd f o.dst v) (a.put o.dst v) W K (λx l=>q x (aF _ l)) (λx l=>hd x (aF _ l)) (c.put A v) (by rw[Su z];exact p) B ?_ (r.same (Same.upd s v))
  exactλi j k e u y=>m i j k e (Same.trans (Same.upd s v) u) y
def CY{g:Nat}{want:Bool}:∀(b rest:List Oper) (f:Fr) (a:Act) (w:World),(∀o∈b,o.guard=some (g,want))->
  (∀o∈b,Cw V lo o=true/\(∀t,o.dst=some t->t<n)/\∀d dg,o.dst=some d->uY ops g=some dg->d≠dg)->Ag n D f a->yv ops f g want=false->
  (∀h,Ag n D (Gr b f) h->Same V lo f (Gr b f)->wpList P ops.toArray Q rest h w)->wpList P ops.toArray Q (b++rest) a w
 |[],rest,f,a,w,_,_,c,_,j=>j a c (Same.refl _ _ _)
 |o::b,rest,f,a,w,l,hd,c,k,j=>by
  obtain⟨r,q,p⟩:=hd o bC
  refine YL c (by simp only[pG,l o bC];exact k) ?_
  refine CY b rest (upd f o.dst undef) (a.put o.dst undef) w (λx i=>l x (aF _ i)) (λx i=>hd x (aF _ i)) (c.put q undef) (by rw[Su p];exact k) ?_
  exactλh e m=>j h e (Same.trans (Same.upd r undef) m)
def BD{pl:fG}{i:Nat}:∀(x y:List Oper),rS pl V lo i ops (x++y)=true->rS pl V lo i ops y=true
 |[],_,h=>h
 |o::x,y,h=>by
  simp only[fS,rS,bV]at h
  exact BD x y h.2
theorem Aq{pl:fG}{i:Nat}{K:Fr->World->Prop}:∀(m:Nat) (l:List Oper) (f:Fr) (a:Act) (w:World),(∀o∈l,Cw V lo o=true/\Ms n o=true)->rS pl V lo i ops l=true->
  Ag n D f a->Ua P pl i ops m l f w K->(∀u y W,Ag n D u y->Same V lo f u->K u W->Q .normal y W)->PX V lo D Q f->wpList P ops.toArray Q l a w
 |0,_,_,_,_,_,_,_,h,_,_=>by cases h
 |m+1,[],f,a,w,_,_,p,h,S,_=>S f a w p (Same.refl _ _ _) h
 |m+1,o::r,f,a,w,hd,O,p,h,S,R=>by
  unfold Ua at h
  cases X:o.guard with
  |none=>
   simp only[X]at h
   have A:=hd o bC
   refine Kb p (by simp[pG,X]) h (λv W B=>?_) (R.ag p)
   simp only[rS,bV]at O
   refine Aq m r _ _ W (λx F=>hd x (aF _ F)) O.2 (p.put (Hs A.2) v) B ?_ (R.same (Same.upd A.1 v))
   exactλu y q j s T=>S u y q j (Same.trans (Same.upd A.1 v) s) T
  |some gw=>
   obtain⟨g,want⟩:=gw
   simp only[X]at h
   cases he:lk pl.js (UU i (o::r).length)with
   |none=>simp only[he]at h
   |some e=>
    simp only[he]at h
    obtain⟨J,hT,hF,hB⟩:=h
    obtain⟨b,G⟩:=IW g want (o::r)
    have N:=O
    simp only[rS,X,he,bV,jB]at O
    obtain⟨⟨Z,H⟩,hk⟩:=O
    obtain⟨c,hC⟩:=EM Z
    have I:∀x∈Cv g want (o::r),Cw e.V e.lo x=true/\(∀t,x.dst=some t->t<n)/\∀d dg,x.dst=some d->uY ops g=some dg->d≠dg:=by
     intro x F;have h1:=H x F;refine⟨h1.1,Hs (hd x (by rw[b];exact cH _ F)).2,λd dg Y hf ha=>?_⟩;have h2:=h1.2;simp only[Y,hf,ha]at h2;simp at h2
    have M:rS pl V lo i ops (Es g want (o::r))=true:=by
     rw[b]at N;exact BD _ _ N
    have L:∀x∈Es g want (o::r),Cw V lo x=true/\Ms n x=true:=λx F=>hd x (by rw[b];exact bR _ F);rw[b];cases U:yv ops f g want with
    |true=>
     refine GI (V:=e.V) (lo:=e.lo) _ _ f a w _ G I p U (hT U) (λu y W j s hJ=>?_) (R.sub c);have B:=hB _ u _ hJ;simp only[Du s]at B;refine Aq m _ u y W L M j B ?_ (R.same (Same.wider c s));exactλC E q k z T=>S C E q k (Same.trans (Same.wider c s) z) T
    |false=>
     refine CY (V:=e.V) (lo:=e.lo) _ _ f a w G I p U λy j s=>?_;have B:=hB _ (Gr (Cv g want (o::r)) f) _ (hF U);simp only[Du s]at B;refine Aq m _ _ y w L M j B ?_ (R.same (Same.wider c s));exactλC E q k z T=>S C E q k (Same.trans (Same.wider c s) z) T
end
section
variable [HX]{P:Program}{n:Nat}{D:List Deferred}{pl:fG}
theorem yH(hm:P.follows .mixedOrders=true):∀(c:Code) (V:List Nat) (lo i:Nat) (f:Fr) (a:Act) (w:World) (H:Fr->World->Prop) (G:Nat->Fr->World->Prop) (F:Fr->World->Prop) (Q:Exit->Act->World->Prop),
  chk P n pl V lo c i=true->Ag n D f a->sY P pl c i f w H G F->
  (∀p z W,Ag n D p z->Same V lo f p->H p W->Q .normal z W)->(∀j p z W,Ag n D p z->Same V lo f p->G j p W->Q (.exit j) z W)->
  (∀p z W,Ag n D p z->Same V lo f p->F p W->Q .ret z W)->PX V lo D Q f->c.wp P Q a w:=by
 intro c;induction c with
 |skip=>intro V lo i f a w H G F Q _ k h L _ _ _;exact wp_skip (L f a w k (Same.refl _ _ _) h)
 |label l=>intro V lo i f a w H G F Q _ k h L _ _ _;exact wp_label (L f a w k (Same.refl _ _ _) h)
 |exit id=>intro V lo i f a w H G F Q _ k h _ M _ _;exact wp_exit (M id f a w k (Same.refl _ _ _) h)
 |ret=>intro V lo i f a w H G F Q _ k h _ _ O _;exact wp_ret (O f a w k (Same.refl _ _ _) h)
 |goto l=>intro V lo i f a w H G F Q _ _ h _ _ _ _;exact h.elim
 |refuse l=>intro V lo i f a w H G F Q _ _ h _ _ _ _;exact h.elim
 |scope b ih=>
  intro V lo i f a w H G F Q u k h L M O N;simp only[chk]at u;simp only[sY]at h;refine wp_scope_straight ?_;exact ih V lo _ f a w H G F _ u k h L M O N
 |rangeFunc p ps az b=>intro V lo i f a w H G F Q _ _ h _ _ _ _;exact h.elim
 |region id ops draw=>
  intro V lo i f a w H G F Q u k h L _ _ N;simp only[chk,bV,jB]at u;simp only[sY]at h;cases draw with
  |false=>
   simp only[aR]at h u;refine wp_region_list ?_;have:=Aq (ops:=ops.toList) (Q:=Q) (n:=n) (V:=V) (lo:=lo) _ _ f a w u.1 u.2 k h L N;simpa using this
  |true=>
   simp only[aV]at h u;cases S:lk pl.ds i with
   |none=>simp only[S]at h
   |some e=>
    simp only[S]at h u;have:=Lv (R:=Same V lo f) (id:=id) (Q:=Q) (K:=H) (λp o v ho E=>Same.trans E (Same.upd (u.1 o ho).1 v)) hm u.2
     (λp z W g E A=>L p z W g E A) (λc p z W hd E Z M=>N c z W hd (λt L=>(Z t λo ho S=>by
       have:=(u.1 o ho).1;simp only[Cw,S]at this;rw[this]at L;cases L).trans (E t L)) M) k (Same.refl _ _ _) h
    simpa using this
 |seq x y ihx ihy=>
  intro V lo i f a w H G F Q u k h L M O N;simp only[chk,bV]at u;simp only[sY]at h;refine wp_seq ?_;cases S:lk pl.js i with
  |none=>
   simp only[S]at h u;refine ihx V lo (i+1) f a w _ G F _ u.1 k h ?_ M O N;intro p z W g E Y;exact ihy V lo _ p z W H G F Q u.2 g Y (λm r s d q A=>L m r s d (E.trans q) A)
    (λj m r s d q A=>M j m r s d (E.trans q) A) (λm r s d q A=>O m r s d (E.trans q) A) (N.same E)
  |some e=>
   simp only[S,bV]at h u;obtain⟨B,hC⟩:=EM u.1.1;obtain⟨J,hA,hB⟩:=h;refine ihx e.V e.lo (i+1) f a w _ G F _ u.1.2 k hA ?_ (λj p z W g E A=>M j p z W g (E.wider B) A) (λp z W g E A=>O p z W g (E.wider B) A) (N.sub B);intro p z W g E hJ;have Y:=hB _ p _ hJ;simp only[Du E]at Y;have T:=E.wider B;exact ihy V lo _ p z W H G F Q u.2 g Y (λm r s d q A=>L m r s d (T.trans q) A)
    (λj m r s d q A=>M j m r s d (T.trans q) A) (λm r s d q A=>O m r s d (T.trans q) A) (N.same T)
 |cond c x y ihx ihy=>
  intro V lo i f a w H G F Q u k h L M O N;simp only[chk,bV]at u;simp only[sY]at h;have S:a.eval c=ev f c:=congrFun (Bw k) c;cases hv:ev f c<;>rw[hv]at h<;>simp only[bE]at h<;>try exact h.elim
  rename_i t;refine wp_cond_split (S.trans hv) (λZ=>?_) (λZ=>?_)
  .exact ihx V lo _ f a w H G F Q u.1 k (h.1 Z) L M O N
  .exact ihy V lo _ f a w H G F Q u.2 k (h.2 Z) L M O N
 |block id b ih=>
  intro V lo i f a w H G F Q u k h L M O N;simp only[chk]at u;simp only[sY]at h;refine wp_block ?_;refine ih V lo _ f a w H _ F _ u k h L ?_ O N;intro j p z W g E A;simp only[Exit.inBlock];cases hj:Nat.beq j id with
  |true=>
   rw[hj]at A;rw[aO (lR hj)];exact L p z W g E A
  |false=>
   rw[hj]at A;rw[aE (λe=>by subst e;simp at hj)];exact M j p z W g E A
 |loop b ih=>
  intro V lo i f a w H G F Q u k h L M O N;simp only[chk]at u;simp only[sY]at h;cases S:lk pl.js i with
  |none=>simp only[S]at h
  |some e=>
   simp only[S,bV]at h u;obtain⟨B,hC⟩:=EM u.1;obtain⟨I,μ,h0,U⟩:=h;refine wp_loop (λz W=>∃p,Ag n D p z/\Same e.V e.lo f p/\I (e.C.map p) W) (λz W=>μ (e.C.map λt=>z.tmps.getD t undef) W) ⟨f,k,Same.refl _ _ _,h0⟩ ?_;rintro z W ⟨p,g,E,hI⟩;have Y:=U _ p _ hI;simp only[Du E]at Y;have ha:(λt=>z.tmps.getD t undef)=p:=funext g.2.2;refine ih e.V e.lo _ p z W _ G F _ u.2 g Y ?_ (λj m r s d q A=>M j m r s d ((E.trans q).wider B) A)
    (λm r s d q A=>O m r s d ((E.trans q).wider B) A) ((N.sub B).same E)
   intro m r s d q A;have X:(λt=>r.tmps.getD t undef)=m:=funext d.2.2;refine⟨⟨m,d,E.trans q,A.1⟩,?_⟩;rw[ha,X];exact A.2
def FD(P:Program):List ResultVar->Fr->World->(List Value->Prop)->Prop
 |[],_,_,K=>K []
 |.tmp t::r,f,w,K=>FD P r f w λl=>K (f t::l)
 |.cell a T::r,f,w,K=>pY (P.underlying T).isSome (ldW (yN P T) (nO P T) (f a) w λv=>FD P r f w λl=>K (v::l))
def one:List Value->Value
 |[v]=>v
 |l=>.tuple l.toArray
def Lu(tmps:Array Value):ResultVar->Sem Value
 |.tmp t=>pure (tmps.getD t undef)
 |.cell x t=>do loadVar t (<-asAddr (tmps.getD x undef))
def ND(fn:Func)(tmps:Array Value):results fn tmps=(do let a<-fn.results.mapM (Lu tmps);pure (if h:a.size=1 then a[0]else .tuple a)):=rfl
def JI{f:Fr}{a:Act}{w:World}(b:Ag n D f a):∀(l:List ResultVar) (K:List Value->Prop),FD P l f w K->
  ∃c,K c/\(l.mapM (Lu a.tmps)).run P w=.ok c w
 |[],K,h=>⟨[],h,rfl⟩
 |.tmp t::r,K,h=>by
  obtain⟨c,g,d⟩:=JI b r _ h
  refine⟨_,g,?_⟩
  rw[List.mapM_cons,run_bind]
  simp only[Lu,run_pure,run_bind,d]
  rw[b.2.2 t]
 |.cell x T::r,K,h=>by
  replace h:=pY.out h
  obtain⟨k,h⟩:=h
  obtain⟨v,m,i⟩:=UC k h
  obtain⟨c,g,d⟩:=JI b r _ m
  refine⟨_,g,?_⟩
  have e:(Lu a.tmps (.cell x T)).run P w=.ok v w:=by
   show(do loadVar T (<-asAddr (a.tmps.getD x undef)):Sem Value).run P w=.ok v w;rw[b.2.2 x];cases j:f x<;>rw[j]at h i<;>simp only[ldW]at h<;>try exact h.elim
   rename_i p;cases p with
   |none=>exact h.elim
   |some p=>exact i
  rw[List.mapM_cons,run_bind];simp only[e,run_bind,d,run_pure]
def xV{fn:Func}{f:Fr}{a:Act}{K:Value->Prop}(b:Ag n D f a)(h:FD P fn.results.toList f w λl=>K (one l)):
  ∃v,K v/\(results fn a.tmps).run P w=.ok v w:=by
 obtain⟨c,e,d⟩:=JI b _ _ h;refine⟨_,e,?_⟩;rw[ND,run_bind];have:(fn.results.mapM (Lu a.tmps)).run P w=.ok c.toArray w:=by
  rw[Array.mapM_eq_mapM_toList,<-bind_pure_comp,run_bind,d];rfl
 rw[this];simp only[run_pure];congr 1;cases c with
 |nil=>rfl
 |cons v r=>cases r<;>rfl
def fr0(args:List Value):Fr:=λj=>args.getD j undef
def aD0[HX](P:Program)(fn:Func)(pl:fG)(args:List Value)(w:World)(K:Value->World->Prop):Prop:=
 match fn.body with
 |some c=>sY P pl c 0 (fr0 args) w (λf w'=>FD P fn.results.toList f w' λl=>K (one l) w') (λ_ _ _=>False) (λf w'=>FD P fn.results.toList f w' λl=>K (one l) w')
 |none=>False
def OC(P:Program)(fn:Func)(pl:fG)(k:Nat):Bool:=
 match fn.body with
 |some c=>Nat.ble k fn.ntmps&&chk P fn.ntmps pl [] 0 c 0
 |none=>false
def Ov{g:FuncId}{fn:Func}{args:List Value}(p:P.follows .mixedOrders=true)(s:P.funcs[g]?=some fn)(i:OC P fn pl args.length=true)
  (h:aD0 P fn pl args w K):aBX P g args w K:=by
 unfold aD0 at h;unfold OC at i;cases k:fn.body with
 |none=>rw[k]at h;exact h.elim
 |some c=>
  rw[k]at h i;simp only[bV]at i;unfold aBX;refine calls_of_wp s k ?_;have r:args.length<=fn.ntmps:=mQ i.1;have m:Ag fn.ntmps [] (fr0 args) {tmps:=args.toArray++Array.replicate (fn.ntmps-args.toArray.size) undef,defers:=[]}:=by
   refine⟨rfl,by simp;omega,λt=>?_⟩;simp only[lU,Array.getElem?_append,aI,bP,Array.getElem?_replicate,fr0,aM];split
   .rfl
   .rename_i q;rw[dY (by omega)];split<;>rfl
  have d:∀(f:Fr) (b:Act) (W:World),Ag fn.ntmps [] f b->(FD P fn.results.toList f W λl=>K (one l) W)->b.defers=[]/\∃v,(results fn b.tmps).run P W=.ok v W/\HZ K (.returned v) W:=by
   intro f b W a e;obtain⟨v,j,o⟩:=xV (K:=λv=>K v W) a e;exact⟨a.1,v,o,j⟩
  exact yH p c [] 0 0 _ _ w _ _ _ _ i.2 m h (λf b W a _ e=>d f b W a e) (λ_ _ _ _ _ _ e=>e.elim) (λf b W a _ e=>d f b W a e) (λc b W u _ n=>⟨u,n⟩)
def tie(P:Program)(g:FuncId)(fn:Func)(pl:fG)(args:List Value)(w:World)(K:Value->World->Prop)(k:Nat)(X:Prop)(d:args.length=k)(c:P.follows .mixedOrders=true)(e:P.funcs[g]?=some fn)
  (i:OC P fn pl k=true)(f:aD0 P fn pl args w K=X)(b:∀(a:Array Value) (w:World),(callFunc g a).run P w=.ok (.enter g a) w)(h:X):aL P g args w K:=by
 unfold aL;rw[b];exact Ov c e (by rw[d];exact i) (by rw[f];exact h)
def callF_calls{g:FuncId}{args:List Value}(a:(callFunc g args.toArray).run P w=.ok (.enter g args.toArray) w)(h:aL P g args w K):
  Calls P g args.toArray w (HZ K):=by
 unfold aL at h;rw[a]at h;exact h
end
def Vp(o:Option Obj)(i:Nat):Option Value:=match o with|some (.cells c _ _)=>c[i]?|_=>none
def frO(o:Option Obj)(i:Nat):Bool:=match o with|some (.cells _ _ (lo,a))=>decide (lo<=i)&&decide (i<a)|_=>false
def aCo(o:Option Obj)(i:Nat)(v:Value):Option Obj:=match o with|some (.cells c t f)=>some (.cells (c.setIfInBounds i v) t f)|o=>o
def bT(c:Array Value)(t:TypeId)(f:Nat×Nat)(i:Nat):Vp (some (.cells c t f)) i=c[i]?:=rfl
def gO(c:Array Value)(t:TypeId)(i:Nat):frO (some (.cells c t (0,0))) i=false:=by simp[frO]
def fW(c:Array Value)(t:TypeId)(f:Nat×Nat)(i:Nat)(v:Value):aCo (some (.cells c t f)) i v=some (.cells (c.setIfInBounds i v) t f):=rfl
def cS(w:World)(b o:Nat):w.cell? ⟨b,o,none⟩=Vp w.heap[b]? o:=by
 unfold World.cell? Vp;cases w.heap[b]? with
 |none=>rfl
 |some x=>cases x<;>rfl
def fU(w:World)(b o:Nat):w.frozen? ⟨b,o,none⟩=frO w.heap[b]? o:=by
 unfold World.frozen? frO;cases w.heap[b]? with
 |none=>rfl
 |some x=>cases x<;>rfl
def qR(w:World)(b o:Nat)(v:Value):(w.setCell ⟨b,o,none⟩ v).heap[b]?=aCo w.heap[b]? o v:=by
 unfold World.setCell aCo;simp only[Array.getElem?_modify,mE];cases w.heap[b]? with
 |none=>rfl
 |some x=>cases x<;>simp
def Bu(w:World)(b o k:Nat)(v:Value)(h:k≠b):(w.setCell ⟨b,o,none⟩ v).heap[k]?=w.heap[k]?:=by
 unfold World.setCell;simp only[Array.getElem?_modify];rw[aE (kY h)]
def eH(w:World)(a:Addr)(v:Value):(w.setCell a v).heap.size=w.heap.size:=by simp
def kV(w:World)(o:Obj)(k:Nat)(h:k=w.heap.size):(w.alloc o).heap[k]?=some o:=by subst h;show(w.heap.push o)[w.heap.size]?=_;simp
def EE(w:World)(o:Obj)(k:Nat)(h:k≠w.heap.size):(w.alloc o).heap[k]?=w.heap[k]?:=by
 show(w.heap.push o)[k]?=_;rw[Array.getElem?_push,aE h]
def size_alloc(w:World)(o:Obj):(w.alloc o).heap.size=w.heap.size+1:=by simp
def heap_drew(w:World)(k:Nat):w.drew.heap[k]?=w.heap[k]?:=rfl
def size_drew(w:World):w.drew.heap.size=w.heap.size:=rfl
def bN(b o n:Nat):(⟨b,o,none⟩:Addr).add n=⟨b,o+n,none⟩:=by
 unfold Addr.add;split
 .rename_i h;subst h;rfl
 .rfl
structure Chg(S:Nat->Prop)(w w':World):Prop where
 os:w'.os=w.os
 tape:w'.tape=w.tape
 output:w'.output=w.output
 size:w.heap.size<=w'.heap.size
 heap:∀k,k<w.heap.size->¬S k->w'.heap[k]?=w.heap[k]?
abbrev Ext:=Chg (λ_=>False)
def Chg.refl(S:Nat->Prop)(w:World):Chg S w w:=⟨rfl,rfl,rfl,aQ _,λ_ _ _=>rfl⟩
def Chg.trans{w1 w2:World}(a:Chg S w w1)(b:Chg S w1 w2):Chg S w w2:=
 ⟨b.os.trans a.os,b.tape.trans a.tape,b.output.trans a.output,dN a.size b.size,λk d c=>(b.heap k (dM d a.size) c).trans (a.heap k d c)⟩
def Chg.mono{T:Nat->Prop}(h:Chg S w W)(b:∀k,k<w.heap.size->S k->T k):Chg T w W:=
 ⟨h.os,h.tape,h.output,h.size,λk a c=>h.heap k a λe=>c (b k a e)⟩
def Chg.of_ext(h:Ext w W):Chg S w W:=h.mono λ_ _ e=>e.elim
def Chg.drew(h:Chg S w W):Chg S w W.drew:=⟨h.os,h.tape,h.output,h.size,h.heap⟩
def Chg.alloc(h:Chg S w W)(o:Obj):Chg S w (W.alloc o):=
 ⟨h.os,h.tape,h.output,by rw[size_alloc];exact Nat.le_succ_of_le h.size,λk b a=>by rw[EE _ _ _ (by have:=h.size;omega)];exact h.heap k b a⟩
def Chg.set(h:Chg S w W){b o:Nat}(a:S b\/w.heap.size<=b)(v:Value):Chg S w (W.setCell ⟨b,o,none⟩ v):=
 ⟨h.os,h.tape,h.output,by rw[eH];exact h.size,λk f d=>by
  have c:k≠b:=λe=>by
   subst e
   rcases a with a|a
   .exact d a
   .omega
  rw[Bu _ _ _ _ _ c]
  exact h.heap k f d⟩
def Chg.then{T:Nat->Prop}{w1 w2:World}(a:Chg S w w1)(b:Chg T w1 w2)(f:∀k,k<w.heap.size->T k->S k):Chg S w w2:=
 ⟨b.os.trans a.os,b.tape.trans a.tape,b.output.trans a.output,dN a.size b.size,λk c d=>(b.heap k (dM c a.size) λe=>d (f k c e)).trans (a.heap k c d)⟩
def Chg.below(h:Ext w W):RowKit.Below w.heap.size w W:=⟨h.os,h.tape,h.output,h.size,λk a=>h.heap k a id⟩
def Chg.of_below(h:RowKit.Below w.heap.size w W):Ext w W:=⟨h.os,h.tape,h.output,h.size,λk a _=>h.block k a⟩
abbrev str(l:List UInt8):Value:=.string (ofL l)
abbrev i64(n:Int):Value:=.int .i64 n
def OZ{a b:List UInt8}:str a=str b↔a=b:=by simp[str,YO]
def fZ{n:Int}(d:-9223372036854775808<=n)(c:n<9223372036854775808):IntKind.i64.wrap n=n:=by
 have b:(2:Int)^64=18446744073709551616:=by decide
 have a:(2:Int)^(64-1)=9223372036854775808:=by decide
 simp only[IntKind.wrap,IntKind.bits,IntKind.signed,eF,b,a];by_cases h:n%18446744073709551616>=9223372036854775808
 .rw[aO (by simpa using h)];omega
 .rw[aE (by simpa using h)];omega
def dF(A B:Prop):bE (.bool true) A B↔A:=by simp[bE]
def cI(A B:Prop):bE (.bool false) A B↔B:=by simp[bE]
def aY(p:Prop)[Decidable p](A B:Prop):bE (.bool (decide p)) A B↔(p->A)/\(¬p->B):=by simp[bE]
def jW(s t:Bool)(K:Value->Prop):fN (.bool s) (.bool true) (.bool t) K↔K (.bool (s||t)):=by cases s<;>exact iR
def iK(s t:Bool)(K:Value->Prop):fN (.bool s) (.bool t) (.bool false) K↔K (.bool (s&&t)):=by cases s<;>exact iR
def iZ(a b:Value)(K:Value->Prop):fN (.bool true) a b K↔K a:=iR
def iN(a b:Value)(K:Value->Prop):fN (.bool false) a b K↔K b:=iR
section forms
variable(k:IntKind)(a b:Int)(s t:ByteArray)(x y:Value)(ad:Addr)(w:World)(K:Value->Prop)(KE:Value->World->Prop)(KW:World->Prop)
def cP:aS .add (.int k a) (.int k b) K↔K (.int k (k.wrap (a+b))):=by simp[aS]
def gR:aS .sub (.int k a) (.int k b) K↔K (.int k (k.wrap (a-b))):=by simp[aS]
def jH:aS .mul (.int k a) (.int k b) K↔K (.int k (k.wrap (a*b))):=by simp[aS]
def jG:aS .quo (.int k a) (.int k b) K↔b≠0/\K (.int k (k.wrap (a.tdiv b))):=by simp[aS]
def jF:aS .rem (.int k a) (.int k b) K↔b≠0/\K (.int k (a.tmod b)):=by simp[aS]
def bW:aS .eql (.int k a) (.int k b) K↔K (.bool (decide (a=b))):=by simp[aS]
def fR:aS .neq (.int k a) (.int k b) K↔K (.bool (decide (a≠b))):=by simp[aS]
def eC:aS .lss (.int k a) (.int k b) K↔K (.bool (decide (a<b))):=by simp[aS]
def iC:aS .leq (.int k a) (.int k b) K↔K (.bool (decide (a<=b))):=by simp[aS]
def gG:aS .gtr (.int k a) (.int k b) K↔K (.bool (decide (b<a))):=by simp[aS]
def gN:aS .geq (.int k a) (.int k b) K↔K (.bool (decide (b<=a))):=by simp[aS]
def ZV:aS .and (.int k a) (.int k b) K↔K (.int k (k.wrap (BitVec.ofInt k.bits a&&&BitVec.ofInt k.bits b).toNat)):=by simp[aS]
def KJ:aS .or (.int k a) (.int k b) K↔K (.int k (k.wrap (BitVec.ofInt k.bits a|||BitVec.ofInt k.bits b).toNat)):=by simp[aS]
def YP(l m:List UInt8):ofL l++ofL m=ofL (l++m):=by
 apply ByteArray.ext;simp[ofL,ByteArray.data_append]
def bY(l m:List UInt8):aS .add (.string (ofL l)) (.string (ofL m)) K↔((l.length+m.length:Nat):Int)<=IntKind.i64.max/\K (.string (ofL (l++m))):=by simp[aS,kD,YP]
def fE(l m:List UInt8):aS .eql (.string (ofL l)) (.string (ofL m)) K↔K (.bool (decide (l=m))):=by simp[aS,iX]
def iB(l m:List UInt8):aS .neq (.string (ofL l)) (.string (ofL m)) K↔K (.bool (decide (l≠m))):=by simp[aS,iX]
def jQ(l m:List UInt8):aS .lss (.string (ofL l)) (.string (ofL m)) K↔K (.bool (Op.bytesLess l m)):=by simp[aS,iX]
def jS(l m:List UInt8):aS .gtr (.string (ofL l)) (.string (ofL m)) K↔K (.bool (!(Op.bytesLess l m||decide (l=m)))):=by simp[aS,iX]
def jT(l m:List UInt8):aS .geq (.string (ofL l)) (.string (ofL m)) K↔K (.bool (!Op.bytesLess l m)):=by simp[aS,iX]
def jR(l m:List UInt8):aS .leq (.string (ofL l)) (.string (ofL m)) K↔K (.bool (Op.bytesLess l m||decide (l=m))):=by simp[aS,iX]
def dJ:fA (.pointer (some ad)) K↔K (.pointer (some ad)):=iR
def bH(off:Nat):bF off (.pointer (some ad)) K↔K (.pointer (some (ad.add off))):=iR
def fB(n:Nat):ldW false n (.pointer (some ad)) w K↔∃v,w.cell? ad=some v/\K v:=iR
def Au(n:Nat):ldW true n (.pointer (some ad)) w K↔∃l,bZ w ad 0 n=some l/\K (.agg l.toArray):=iR
def aCh:stW 1 (.pointer (some ad)) (.int k a) w KW↔(w.cell? (ad.add 0)).isSome=true/\w.frozen? (ad.add 0)=false/\KW (w.setCell (ad.add 0) (.int k a)):=by simp[stW,mR,Value.cells,kJ]
def Ws(c:Bool):stW 1 (.pointer (some ad)) (.bool c) w KW↔(w.cell? (ad.add 0)).isSome=true/\w.frozen? (ad.add 0)=false/\KW (w.setCell (ad.add 0) (.bool c)):=by simp[stW,mR,Value.cells,kJ]
def aCd:stW 1 (.pointer (some ad)) (.string s) w KW↔(w.cell? (ad.add 0)).isSome=true/\w.frozen? (ad.add 0)=false/\KW (w.setCell (ad.add 0) (.string s)):=by simp[stW,mR,Value.cells,kJ]
def Tg(p:Option Addr)(n m:Nat):stW 1 (.pointer (some ad)) (.slice p n m) w KW↔(w.cell? (ad.add 0)).isSome=true/\w.frozen? (ad.add 0)=false/\KW (w.setCell (ad.add 0) (.slice p n m)):=by simp[stW,mR,Value.cells,kJ]
def aCf(p:Option Addr):stW 1 (.pointer (some ad)) (.pointer p) w KW↔(w.cell? (ad.add 0)).isSome=true/\w.frozen? (ad.add 0)=false/\KW (w.setCell (ad.add 0) (.pointer p)):=by simp[stW,mR,Value.cells,kJ]
def aCg(p:Option Nat):stW 1 (.pointer (some ad)) (.map p) w KW↔(w.cell? (ad.add 0)).isSome=true/\w.frozen? (ad.add 0)=false/\KW (w.setCell (ad.add 0) (.map p)):=by simp[stW,mR,Value.cells,kJ]
def JC(n:Nat)(l:List Value):stW n (.pointer (some ad)) (.agg l.toArray) w KW↔l.length=n/\mR ad l 0 w KW:=by simp[stW,Value.cells]
def Wq(i:Nat):mR ad [] i w KW↔KW w:=iR
def Tf(v:Value)(r:List Value)(i:Nat):mR ad (v::r) i w KW↔kJ v=true/\(w.cell? (ad.add i)).isSome=true/\w.frozen? (ad.add i)=false/\mR ad r (i+1) (w.setCell (ad.add i) v) KW:=iR
def jN:kJ (.int k a)=true:=rfl
def iJ(c:Bool):kJ (.bool c)=true:=rfl
def jK:kJ (.string s)=true:=rfl
def gI(p:Option Addr)(n m:Nat):kJ (.slice p n m)=true:=rfl
def jL(p:Option Addr):kJ (.pointer p)=true:=rfl
def jM(p:Option Nat):kJ (.map p)=true:=rfl
def bX(i:Nat)(l:List Value):kH i (.tuple l.toArray) K↔∃v,l[i]?=some v/\K v:=by
 simp only[kH,bP];cases l[i]?<;>simp
def fI(size n c:Nat):fX none size (.slice (some ad) n c) (.int k a) K↔0<=a/\a<n/\K (.pointer (some (ad.add (a.toNat*size)))):=iR
def jP(m size:Nat):fX (some m) size (.pointer (some ad)) (.int k a) K↔0<=a/\a<m/\K (.pointer (some (ad.add (a.toNat*size)))):=iR
def jE(l:List UInt8):qM (.string (ofL l)) (.int k a) K↔0<=a/\∃c,l[a.toNat]?=some c/\K (.int .u8 c.toNat):=by simp[qM,iX]
def eR(l:List UInt8):kQ (.string (ofL l)) K↔K (.int .i64 l.length):=by simp[kQ,kD]
def iT(p:Option Addr)(n c:Nat):iL (.slice p n c) K↔K (.int .i64 n):=iR
def gK(c:Bool):unW .not (.bool c) K↔K (.bool (!c)):=iR
def kS:unW .neg (.int k a) K↔K (.int k (k.wrap (0-a))):=iR
def iA(b:IntKind):AE b (.int k a) K↔K (.int b (b.wrap a)):=iR
def jD:YU (.int k a) (.int k b) K↔K (.int k (if b<a then b else a)):=iR
def jO:aDK (.int k a) (.int k b) K↔K (.int k (if a<b then b else a)):=iR
def VL(T:TypeId)(z:List Value):eD T z w KE↔KE (.pointer (some ⟨w.heap.size,0,none⟩)) (w.alloc (.cells z.toArray T)):=iR
def ZS(T:TypeId)(l:List Value):jZ T (.agg l.toArray) w KE↔KE (.pointer (some ⟨w.heap.size,0,none⟩)) (w.alloc (.cells l.toArray T)):=iR
def ZR(T:TypeId):jZ T (.int k a) w KE↔KE (.pointer (some ⟨w.heap.size,0,none⟩)) (w.alloc (.cells #[(.int k a)] T)):=iR
def Vz(T:TypeId)(c:Bool):jZ T (.bool c) w KE↔KE (.pointer (some ⟨w.heap.size,0,none⟩)) (w.alloc (.cells #[(.bool c)] T)):=iR
def ZO(T:TypeId):jZ T (.string s) w KE↔KE (.pointer (some ⟨w.heap.size,0,none⟩)) (w.alloc (.cells #[(.string s)] T)):=iR
def Sb(T:TypeId)(p:Option Addr)(n m:Nat):jZ T (.slice p n m) w KE↔KE (.pointer (some ⟨w.heap.size,0,none⟩)) (w.alloc (.cells #[(.slice p n m)] T)):=iR
def ZP(T:TypeId)(p:Option Addr):jZ T (.pointer p) w KE↔KE (.pointer (some ⟨w.heap.size,0,none⟩)) (w.alloc (.cells #[(.pointer p)] T)):=iR
def ZQ(T:TypeId)(p:Option Nat):jZ T (.map p) w KE↔KE (.pointer (some ⟨w.heap.size,0,none⟩)) (w.alloc (.cells #[(.map p)] T)):=iR
def fJ(n m:Nat)(a:Nat->Prop):bdW none n m a↔a n:=iR
def fF(n m:Nat)(b:Nat->Prop):bdW (some (.int k a)) n m b↔0<=a/\a<=m/\b a.toNat:=iR
def fH(l:List UInt8)(lo a:Option Value):rY (.string (ofL l)) lo a K↔bdW a l.length l.length λh=>bdW lo 0 h λm=>K (.string (ofL ((l.take h).drop m))):=by simp only[rY,kD,iX]
def kU(size:Nat)(p:Option Addr)(n c:Nat)(lo b a:Option Value):Ti size (.slice p n c) lo b a K↔bdW a c c λm=>(bdW b n m λh=>bdW lo 0 h λl=>K (.slice (if m=l then p else p.map (·.add (l*size))) (h-l) (m-l))):=iR
def gX(c:Bool):isB (.bool c) true=c:=by cases c<;>rfl
def jV(c:Bool):isB (.bool c) false=!c:=by cases c<;>rfl
end forms
def GdW.go{c:Bool}{u:List Value}{A:(List Value->World->Prop)->Prop}{B:List Value->Fr->World->Prop}
  (b:c=true->A (λs W=>∀g,B s g W))(a:c=false->∀g,B u g w):GdW c u w A B:=
 ⟨λs W=>∀g,B s g W,b,λh=>a h,λs g _ h=>h g⟩
def GdW.t{u:List Value}{w:World}{A:(List Value->World->Prop)->Prop}{B:List Value->Fr->World->Prop}(h:A (λs W=>∀g,B s g W)):GdW true u w A B:=
 GdW.go (λ_=>h) (λe=>by cases e)
def GdW.f{u:List Value}{A:(List Value->World->Prop)->Prop}{B:List Value->Fr->World->Prop}(h:∀g,B u g w):GdW false u w A B:=
 GdW.go (λe=>by cases e) (λ_=>h)
def GdW.meet{c:Bool}{u:List Value}{A:(List Value->World->Prop)->Prop}{B:List Value->Fr->World->Prop}(s:List Value)
  (d:c=true->A (λs' W=>s'=s/\W=w))(b:c=false->u=s)(a:∀g,B s g w):GdW c u w A B:=
 ⟨λs' W=>s'=s/\W=w,d,λh=>⟨b h,rfl⟩,λs' g W h=>by obtain⟨rfl,rfl⟩:=h;exact a g⟩
def dE.go{A:(List Value->World->Prop)->Prop}{B:List Value->Fr->World->Prop}(h:A (λs W=>∀g,B s g W)):dE A B:=⟨_,h,λ_ g _ h=>h g⟩
def dE.cut{A:(List Value->World->Prop)->Prop}{B:List Value->Fr->World->Prop}(J:List Value->World->Prop)(b:A J)(a:∀s g W,J s W->B s g W):dE A B:=⟨J,b,a⟩
def eK.go{w0:World}{B:List Value->Fr->World->(List Value->World->Prop)->Prop}(I:List Value->World->Prop)(μ:List Value->World->Nat)
 (a:I cs w0)(h:∀s g w,I s w->B s g w (λs' W=>I s' W/\μ s' W<μ s w)):eK cs w0 B:=⟨I,μ,a,h⟩
def BR(c:List Value)(i:Nat)(v:Value)(r:List (Nat×Nat×Value))(K:List Value->Prop)(h:v.cells=#[v]):kE c ((i,1,v)::r) K↔i<c.length/\kE (c.set i v) r K:=by
 simp only[kE,h];constructor
 .rintro⟨_,b,a⟩;rw[List.set_eq_take_append_cons_drop,aO (by omega)];exact⟨by omega,by simpa using a⟩
 .rintro⟨b,a⟩;rw[List.set_eq_take_append_cons_drop,aO (by omega)]at a;exact⟨rfl,by omega,by simpa using a⟩
def dW(c:List Value)(K:List Value->Prop):kE c [] K↔K c:=iR
def jJ(c:List Value)(i:Nat)(v:Option Nat)(r:List (Nat×Nat×Value))(K:List Value->Prop):kE c ((i,1,.map v)::r) K↔i<c.length/\kE (c.set i (.map v)) r K:=BR c i _ r K rfl
def eG(c:List Value)(i:Nat)(k:IntKind)(v:Int)(r:List (Nat×Nat×Value))(K:List Value->Prop):kE c ((i,1,.int k v)::r) K↔i<c.length/\kE (c.set i (.int k v)) r K:=BR c i _ r K rfl
def eP(c:List Value)(i:Nat)(v:ByteArray)(r:List (Nat×Nat×Value))(K:List Value->Prop):kE c ((i,1,.string v)::r) K↔i<c.length/\kE (c.set i (.string v)) r K:=BR c i _ r K rfl
def iI(c:List Value)(i:Nat)(v:Bool)(r:List (Nat×Nat×Value))(K:List Value->Prop):kE c ((i,1,.bool v)::r) K↔i<c.length/\kE (c.set i (.bool v)) r K:=BR c i _ r K rfl
def iS(c:List Value)(i:Nat)(v:Option Addr)(r:List (Nat×Nat×Value))(K:List Value->Prop):kE c ((i,1,.pointer v)::r) K↔i<c.length/\kE (c.set i (.pointer v)) r K:=BR c i _ r K rfl
def fD(c:List Value)(i:Nat)(p:Option Addr)(n m:Nat)(r:List (Nat×Nat×Value))(K:List Value->Prop):kE c ((i,1,.slice p n m)::r) K↔i<c.length/\kE (c.set i (.slice p n m)) r K:=BR c i _ r K rfl
structure tV(P:Program)(t e:TypeId)(size bytes:Nat):Prop where
 und:P.underlying t=some (.slice e)
 info:(P.info? e).map (λi=>(i.zero.map (·.cells.size),i.size,i.bytes))=some (some size,size,bytes)
 pos:0<size
def tV.get{t e:TypeId}{size:Nat}(h:tV P t e size n):∃i z,P.info? e=some i/\i.zero=some z/\i.size=size/\i.bytes=n/\z.cells.size=size:=by
 have a:=h.info;cases d:P.info? e with
 |none=>rw[d]at a;cases a
 |some i=>
  rw[d]at a;simp only[aK,bB,gA]at a;obtain⟨b,g,f⟩:=a;cases c:i.zero with
  |none=>rw[c]at b;cases b
  |some z=>
   rw[c]at b;exact⟨i,z,rfl,c,g,f,by simpa using b⟩
def SlAt(w:World)(T:TypeId)(v:Value)(n:Nat)(cs:List Value):Prop:=
 ∃p cap,v=.slice p n cap/\n<=cap/\(p=none->n=0/\cap=0)/\(cs≠[]->∃b off c fr,p=some ⟨b,off,none⟩/\w.heap[b]?=some (.cells c T fr)/\∀i,i<cs.length->c[off+i]?=cs[i]?)
def SlAt.nil(w:World)(T:TypeId):SlAt w T (.slice none 0 0) 0 []:=⟨none,0,rfl,aQ _,λ_=>⟨rfl,rfl⟩,λh=>absurd rfl h⟩
def SlAt.chg(h:SlAt w T v n cs)(l:Chg S w W)
  (m:∀k c fr,S k->w.heap[k]?≠some (.cells c T fr)):SlAt W T v n cs:=by
 obtain⟨p,cap,i,r,q,o⟩:=h;refine⟨p,cap,i,r,q,λa=>?_⟩;obtain⟨b,off,c,fr,j,g,f⟩:=o a;have d:b<w.heap.size:=(fY.1 g).1;exact⟨b,off,c,fr,j,by rw[l.heap b d λe=>m b c fr e g];exact g,f⟩
def SlAt.ext(h:SlAt w T v n cs)(a:Ext w W):SlAt W T v n cs:=
 h.chg a λ_ _ _ e=>e.elim
def SlAt.shape(h:SlAt w T v n cs):∃p cap,v=.slice p n cap/\n<=cap:=by
 obtain⟨p,cap,a,b,_⟩:=h;exact⟨p,cap,a,b⟩
def gQ(h:SlAt w T v n cs)(K:Value->Prop):iL v K↔K (i64 n):=by
 obtain⟨p,cap,rfl,_⟩:=h.shape;exact iR
def ED{size:Nat}{k:IntKind}{K:Value->Prop}(h:SlAt w T v n cs)(d:cs.length=n*size)(r:0<size)(g:i<n)
  (m:∀b o c fr,w.heap[b]?=some (.cells c T fr)->(∀j,j<size->c[o+j]?=cs[i*size+j]?)->K (.pointer (some ⟨b,o,none⟩))):fX none size v (.int k i) K:=by
 obtain⟨p,cap,rfl,t,_,q⟩:=h;have f:i*size+size<=n*size:=by rw[<-sT];exact dU _ g
 obtain⟨b,off,c,fr,rfl,l,a⟩:=q (λe=>by rw[e]at d;simp at d;omega);refine⟨Int.natCast_nonneg _,by omega,?_⟩;rw[bN,bD];exact m b _ c fr l λj s=>by rw[show off+i*size+j=off+(i*size+j)by omega];exact a _ (by omega)
def mC{k:IntKind}{x:Value}{K:Value->Prop}(h:SlAt w T v n cs)(j:cs.length=n)(a:cs[i]?=some x)(g:K x):
  fX none 1 v (.int k i) λt=>ldW false 1 t w K:=by
 have d:i<cs.length:=(bJ.1 a).1;refine ED (size:=1) h (by omega) (by omega) (by omega) λb o c fr f e=>?_;refine⟨x,?_,g⟩;rw[cS,f,bT];have:=e 0 (by omega);simpa[a]using this
abbrev Own(w:World)(base:Nat)(e:TypeId)(size:Nat)(v:Value)(n:Nat)(xs:List Value):Prop:=w.ownsRow base e size v n xs
def Own.sl{base:Nat}{e:TypeId}{size:Nat}{xs:List Value}(h:Own w base e size v n xs):SlAt w e v n xs:=by
 obtain⟨a,⟨rfl,rfl⟩|⟨g,cap,cur,rfl,_,b,d,_,j,c⟩⟩:=h
 .have:xs=[]:=cW (by simpa using a);subst this;exact SlAt.nil w e
 .refine⟨_,_,rfl,d,λh=>(by cases h),λ_=>⟨g,0,cur,(0,0),rfl,b,λi f=>?_⟩⟩;rw[<-c,AO,aO (by omega),aN];simp
def HV(w:World)(base:Nat)(e:TypeId)(k:Nat):Prop:=base<=k/\∃c,w.heap[k]?=some (.cells c e (0,0))
def Own.block{base:Nat}{e:TypeId}{size:Nat}{xs:List Value}(h:Own w base e size v n xs):∀k,v.ownBlock=some k->HV w base e k:=by
 intro k a;obtain⟨d,⟨rfl,rfl⟩|⟨g,cap,cur,rfl,c,b,_⟩⟩:=h
 .simp[Value.ownBlock]at a
 .simp[Value.ownBlock]at a;subst a;exact⟨c,cur,b⟩
def yM(h:kJ v=true):v.oneCell'=true:=by cases v<;>first|rfl|(simp[kJ]at h)
def Chg.of_grown{row:Option Nat}(h:w.grownBy W row)(c:∀k,row=some k->S k):Chg S w W:=
 ⟨h.os,h.tape,h.output,h.size,λk b a=>h.block k b λe=>a (c k e.symm)⟩
theorem HJ{t e:TypeId}{size:Nat}(y:tV P t e size q){base:Nat}{x:Value}{xs:List Value}
  (d:Own w base e size v n xs)(Q:SlAt w T x m cs)(I:cs.length=m*size)(G:∀u∈cs,kJ u=true)(H:n+m<=4611686018427387904)(Y:(n+m)*q<=140737488355328)(o:base<=w.heap.size)
  (F:∀v' W,Own W base e size v' (n+m) (xs++cs)->Chg (HV w base e) w W->(v'=.slice none 0 0↔v=.slice none 0 0/\m=0)->K v' W):
  fV P (Builtin.append_ #[t,t] U #[v,x]) w K:=by
 obtain⟨i,z,C,O,N,M,Z⟩:=y.get;obtain⟨p,cap,rfl,L,s,f⟩:=Q;have V:n+m<=maxLen:=by unfold maxLen;omega
 cases p with
 |none=>
  obtain⟨rfl,rfl⟩:=s rfl;have S:cs=[]:=cW (by simpa using I);subst S;have A:(Builtin.append_ #[t,t] U #[v,.slice none 0 0]).run P w=.ok v w:=by
   obtain⟨X,⟨rfl,rfl⟩|⟨g,cap,cur,rfl,_,J,G,_,N,M⟩⟩:=d
   .simp[Builtin.append_,run_bind,cL y.und,kC (show(P.info? e).isSome=true by rw[C];rfl),Builtin.lenOf,run_pure,Builtin.firstCells]
   .simp[Builtin.append_,run_bind,cL y.und,kC (show(P.info? e).isSome=true by rw[C];rfl),Builtin.lenOf,run_pure,Builtin.firstCells,G,storeCells]
  unfold fV;rw[A];simp only[bL,dL]at F;exact F v w d (Chg.refl _ _) (by simp)
 |some a=>
  have l:∀j u,cs[j]?=some u->w.cell? (a.add j)=some u:=by
   intro j u r;have B:cs≠[]:=λe=>by subst e;simp at r
   obtain⟨b,off,c,fr,R,E,D⟩:=f B;cases R;rw[bN,cS,E,bT,D j (bJ.1 r).1,r]
  obtain⟨v',W,A,h,J,k⟩:=run_append_own (P:=P) w base t U e i z size q y.und C O N M Z y.pos v n xs d a m cap cs I l (λu r=>yM (G u r)) V Y o;unfold fV;rw[A];exact F v' W h (Chg.of_grown J d.block) k
theorem yK{t e:TypeId}{size:Nat}(A:tV P t e size q){base:Nat}{x:Value}{xs:List Value}
  (d:Own w base e size v n xs)(R:SlAt w T x m cs)(J:cs.length=m*size)(H:∀u∈cs,kJ u=true)(I:n+m<=4611686018427387904)(Z:(n+m)*q<=140737488355328)(r:base<=w.heap.size)
  (G:∀v' W,Own W base e size v' (n+m) (xs++cs)->Chg (λk=>v.ownBlock=some k) w W->(v'=.slice none 0 0↔v=.slice none 0 0/\m=0)->K v' W):
  fV P (Builtin.append_ #[t,t] U #[v,x]) w K:=by
 obtain⟨i,z,D,Q,O,N,h4⟩:=A.get;obtain⟨p,cap,rfl,M,y,f⟩:=R;have X:n+m<=maxLen:=by unfold maxLen;omega
 cases p with
 |none=>
  obtain⟨rfl,rfl⟩:=y rfl;have V:cs=[]:=cW (by simpa using J);subst V;have B:(Builtin.append_ #[t,t] U #[v,.slice none 0 0]).run P w=.ok v w:=by
   obtain⟨Y,⟨rfl,rfl⟩|⟨g,cap,cur,rfl,_,L,H,_,O,N⟩⟩:=d
   .simp[Builtin.append_,run_bind,cL A.und,kC (show(P.info? e).isSome=true by rw[D];rfl),Builtin.lenOf,run_pure,Builtin.firstCells]
   .simp[Builtin.append_,run_bind,cL A.und,kC (show(P.info? e).isSome=true by rw[D];rfl),Builtin.lenOf,run_pure,Builtin.firstCells,H,storeCells]
  unfold fV;rw[B];simp only[bL,dL]at G;exact G v w d (Chg.refl _ _) (by simp)
 |some a=>
  have o:∀j u,cs[j]?=some u->w.cell? (a.add j)=some u:=by
   intro j u s;have C:cs≠[]:=λe=>by subst e;simp at s
   obtain⟨b,off,c,fr,S,F,E⟩:=f C;cases S;rw[bN,cS,F,bT,E j (bJ.1 s).1,s]
  obtain⟨v',W,B,h,L,l⟩:=run_append_own (P:=P) w base t U e i z size q A.und D Q O N h4 A.pos v n xs d a m cap cs J o (λu s=>yM (H u s)) X Z r;unfold fV;rw[B];exact G v' W h (Chg.of_grown L λk e=>e) l
def Ds{base:Nat}{e:TypeId}{size:Nat}(b:base<=w.heap.size)(a:cs.length=n*size)(c:n<=4611686018427387904):Own (w.alloc (.cells cs.toArray e)) base e size (.slice (some ⟨w.heap.size,0,none⟩) n n) n cs:=
 ⟨a,.inr ⟨w.heap.size,n,cs.toArray,rfl,b,kV _ _ _ rfl,aQ _,by unfold maxLen;omega,by simpa using a,by simp[<-a]⟩⟩
def Own.chg{base:Nat}{e:TypeId}{size:Nat}{xs:List Value}(h:Own w base e size v n xs)(i:Chg S w W)(j:∀k,HV w base e k->¬S k):Own W base e size v n xs:=by
 obtain⟨b,f|⟨g,cap,cur,d,c,a,r⟩⟩:=h
 .exact⟨b,.inl f⟩
 .exact⟨b,.inr ⟨g,cap,cur,d,c,by rw[i.heap g (fY.1 a).1 (j g ⟨c,cur,a⟩)];exact a,r⟩⟩
def Own.ext{base:Nat}{e:TypeId}{size:Nat}{xs:List Value}(h:Own w base e size v n xs)(a:Ext w W):Own W base e size v n xs:=h.chg a λ_ _ e=>e
def Own.base{base:Nat}{e:TypeId}{size:Nat}{xs:List Value}(h:Own w base e size v n xs)(f:i<=base):Own w i e size v n xs:=by
 obtain⟨a,c|⟨g,cap,cur,b,d,r⟩⟩:=h
 .exact⟨a,.inl c⟩
 .exact⟨a,.inr ⟨g,cap,cur,b,dN f d,r⟩⟩
def u8s(l:List UInt8):List Value:=l.map λb=>.int .u8 b.toNat
def Ae(l:List UInt8):(u8s l).length=l.length:=by simp[u8s]
def FJ(l:List UInt8)(i:Nat):(u8s l)[i]?=(l[i]?).map λb=>.int .u8 b.toNat:=by simp[u8s]
def JA(a b:List UInt8):u8s (a++b)=u8s a++u8s b:=by simp[u8s]
def Wj(l:List UInt8):∀u∈u8s l,kJ u=true:=by intro u a;simp[u8s]at a;obtain⟨b,_,rfl⟩:=a;rfl
abbrev Byt(w:World)(T:TypeId)(v:Value)(l:List UInt8):Prop:=SlAt w T v l.length (u8s l)
def Hu{dst e:TypeId}(g:P.underlying U=some (.slice e))(m:P.underlying e=some (.int .u8))(n:P.underlying dst=some .string){l:List UInt8}{K:Value->Prop}
  (h:Byt w T v l):sF P (convert U dst v) w K↔K (str l):=by
 have r:(convert U dst v).run P w=.ok (str l) w:=by
  obtain⟨p,cap,rfl,s,f,d⟩:=h;cases p with
  |none=>
   obtain⟨A,_⟩:=f rfl;have:l=[]:=cW A;subst this;rw[run_convert_bytes_nil (P:=P) w U e g m _ _ dst n];rfl
  |some a=>
   cases l with
   |nil=>
    rw[run_convert_bytes_string w U dst e _ _ cap g m n];have y:(loadCells a 0).run P w=.ok (([]:List Int).map (Value.int .u8)).toArray w:=rfl;have:=run_bytesToString w a 0 cap [] y;exact this
   |cons x l=>
    obtain⟨b,off,c,fr,t,z,o⟩:=d (by simp[u8s]);cases t;have:=run_convert_bytes_arg (P:=P) w U e g m b off (x::l).length cap ((x::l).map λb=>(b.toNat:Int)) (by simp) (λi k=>by
     rw[cS,z,bT,o i (by rw[Ae];exact k),FJ,aH k];rw[aM,dV,aH k];rfl) dst n
    rw[this];simp[str,ofL,strOfNums,Function.comp_def]
 constructor
 .rintro⟨u,q,j⟩;rw[r]at q;cases q;exact j
 .exactλj=>⟨_,r,j⟩
def mH:List (Str×Value)->Str->Option Value
 |[],_=>none
 |(k,v)::r,x=>if k=x then some v else mH r x
def Co:List (Str×Value)->Str->Value->List (Str×Value)
 |[],x,v=>[(x,v)]
 |(k,u)::r,x,v=>if k=x then(x,v)::r else(k,u)::Co r x v
def AG:List (Str×Value)->Str->List (Str×Value)
 |[],_=>[]
 |(k,u)::r,x=>if k=x then r else(k,u)::AG r x
def HM{A:List (Str×Value)}{x:Str}:mH A x=none↔x∉A.map (·.1):=by
 induction A with
 |nil=>simp[mH]
 |cons p r ih=>
  obtain⟨k,v⟩:=p;simp only[mH];by_cases h:k=x
  .simp[h]
  .simp only[aE h,ih,cJ,aX];constructor
   .exactλb a=>a.elim (λe=>h e.symm) b
   .exactλb a=>b (.inr a)
def Ju{A:List (Str×Value)}{x:Str}:(Co A x v).map (·.1)=if x∈A.map (·.1)then A.map (·.1)else A.map (·.1)++[x]:=by
 induction A with
 |nil=>simp[Co]
 |cons p r ih=>
  obtain⟨k,u⟩:=p;simp only[Co];by_cases h:k=x
  .simp[h]
  .rw[aE h,cJ,ih];simp only[cJ,aX,kY h,false_or];split<;>simp
def HI{A:List (Str×Value)}{x:Str}(h:(A.map (·.1)).Nodup):((Co A x v).map (·.1)).Nodup:=by
 rw[Ju];split
 .exact h
 .rename_i d;exact iE.2 ⟨h,by simp,λa f b c=>by simp at c;subst c;exactλe=>d (e▸f)⟩
def VO{A:List (Str×Value)}{x:Str}:List.Sublist (AG A x) A:=by
 induction A with
 |nil=>exact List.Sublist.refl _
 |cons p r ih=>
  obtain⟨k,u⟩:=p;simp only[AG];split
  .exact List.sublist_cons_self _ _
  .exact ih.cons_cons _
def HO{A:List (Str×Value)}{x:Str}(h:(A.map (·.1)).Nodup):((AG A x).map (·.1)).Nodup:=(VO.map _).nodup h
def MapAt(w:World)(m:Nat)(A:List (Str×Value)):Prop:=
 ∃es clock,w.heap[m]?=some (.map es clock)/\es.toList.map (λe=>(e.key,e.val))=A.map (λp=>(str p.1,p.2))/\(A.map (·.1)).Nodup/\(es.toList.map (·.born)).Nodup/\∀e∈es.toList,e.born<clock
def MapAt.nodup{A:List (Str×Value)}(h:MapAt w m A):(A.map (·.1)).Nodup:=h.choose_spec.choose_spec.2.2.1
def MapAt.lt{A:List (Str×Value)}(h:MapAt w m A):m<w.heap.size:=by
 obtain⟨es,clock,a,_⟩:=h;exact(fY.1 a).1
def MapAt.ne{b:Nat}{A:List (Str×Value)}{c:Array Value}{fr:Nat×Nat}(h:MapAt w m A)(a:w.heap[b]?=some (.cells c T fr)):m≠b:=by
 obtain⟨es,clock,d,_⟩:=h;intro e;subst e;rw[d]at a;cases a
def MapAt.chg{A:List (Str×Value)}(h:MapAt w m A)(b:Chg S w W)(d:¬S m):MapAt W m A:=by
 have a:=h.lt;obtain⟨es,clock,c,r⟩:=h;exact⟨es,clock,by rw[b.heap m a d];exact c,r⟩
def Pb(a b:Str):(ofL a==ofL b)=decide (a=b):=by
 have h:(ofL a==ofL b)=((ofL a).data==(ofL b).data):=rfl;rw[h,qP];simp[ofL]
def zY:List (Str×Value)->Str->Nat->Option (Nat×Value)
 |[],_,_=>none
 |(k,v)::r,x,i=>if x=k then some (i,v)else zY r x (i+1)
def Fp:∀(l:List MapEntry) (A:List (Str×Value)) (x:Str) (i:Nat),l.map (λe=>(e.key,e.val))=A.map (λp=>(str p.1,p.2))->Instr.findNow .string (str x) l i=some (zY A x i)
 |[],A,x,i,h=>by
  have:A=[]:=by simpa using h.symm
  subst this
  rfl
 |e::l,[],x,i,h=>by simp at h
 |e::l,(k,v)::A,x,i,h=>by
  simp only[cJ,gC,gA]at h
  obtain⟨⟨d,b⟩,c⟩:=h
  simp only[Instr.findNow,d,Instr.sameNow,Pb,zY,b]
  by_cases a:x=k
  .simp[a]
  .simp only[a,dA,vJ]
   exact Fp l A x (i+1) c
def OL(A:List (Str×Value))(x:Str)(i:Nat):(zY A x i).map (·.2)=mH A x:=by
 induction A generalizing i with
 |nil=>rfl
 |cons p r ih=>
  obtain⟨k,v⟩:=p;simp only[zY,mH];by_cases h:x=k
  .simp[h]
  .rw[aE h,aE (kY h),ih]
def HN:∀(A:List (Str×Value)) (x:Str) (i j:Nat) (v:Value),zY A x i=some (j,v)->∃k,j=i+k/\A[k]?=some (x,v)/\∀u,Co A x u=A.set k (x,u)/\AG A x=A.eraseIdx k
 |[],_,_,_,_,h=>by cases h
 |(k,u)::r,x,i,j,v,h=>by
  simp only[zY]at h
  by_cases a:x=k
  .rw[aO a]at h
   cases h
   subst a
   exact⟨0,rfl,rfl,λu=>⟨by simp[Co],by simp[AG]⟩⟩
  .rw[aE a]at h
   obtain⟨c,e,d,b⟩:=HN r x (i+1) j v h
   exact⟨c+1,by omega,by simpa using d,λu=>⟨by simp[Co,kY a,(b u).1],by simp[AG,kY a,(b u).2]⟩⟩
def Ca{α β:Type}(f:α->β):∀(l:List α) (j:Nat),(l.map f).eraseIdx j=(l.eraseIdx j).map f
 |[],_=>rfl
 |_::_,0=>rfl
 |a::l,j+1=>by simp[Ca f l j]
def CM:∀(A:List (Str×Value)) (x:Str) (i:Nat),zY A x i=none->∀u,Co A x u=A++[(x,u)]/\AG A x=A
 |[],_,_,_,_=>⟨rfl,rfl⟩
 |(k,u)::r,x,i,h,u'=>by
  simp only[zY]at h
  by_cases a:x=k
  .rw[aO a]at h;cases h
  .rw[aE a]at h
   obtain⟨c,b⟩:=CM r x (i+1) h u'
   exact⟨by simp[Co,kY a,c],by simp[AG,kY a,b]⟩
section
variable{P:Program}{T kt et:TypeId}{w:World}{m:Nat}{A:List (Str×Value)}
def run_checkKey(a:P.underlying kt=some .string)(e:Bool)(s:ByteArray)(w:World):(Instr.checkKey e 10000 kt (.string s)).run P w=.ok () w:=by
 show(Instr.checkKey e (9999+1) kt (.string s)).run P w=.ok () w;unfold Instr.checkKey;simp[run_bind,cL a,run_pure]
def run_findKey(a:P.underlying kt=some .string)(x:Str)(es:List MapEntry)(h:es.map (λe=>(e.key,e.val))=A.map (λp=>(str p.1,p.2)))(w:World):(Instr.findKey kt (str x) es).run P w=.ok (zY A x 0) w:=by
 simp only[Instr.findKey,run_bind,cL a];rw[Fp es A x 0 h];rfl
def IG(k:P.underlying T=some (.map kt et))(d:P.underlying kt=some .string){z:Value}(e:∀w,(zeroValue et).run P w=.ok z w){x:Str}{K:Value->Prop}(h:MapAt w m A):
  sF P (Instr.lookup T (.map (some m)) (str x) E) w K↔K (bif E then .tuple #[(mH A x).getD z,.bool (mH A x).isSome]else(mH A x).getD z):=by
 obtain⟨es,clock,j,g,_⟩:=h;have c:(Instr.lookup T (.map (some m)) (str x) E).run P w=.ok (bif E then .tuple #[(mH A x).getD z,.bool (mH A x).isSome]else(mH A x).getD z) w:=by
  have f:(getObj m).run P w=.ok (.map es clock) w:=by simp[getObj,Sem.run,j]
  simp only[Instr.lookup,run_bind,cL k,f,run_pure,run_checkKey d,run_findKey (A:=A) d x _ g];rw[<-OL A x 0];cases l:zY A x 0 with
  |none=>simp only[run_bind,e,run_pure,Option.map_none,Option.getD_none,Option.isSome_none];cases E<;>rfl
  |some p=>obtain⟨i,v⟩:=p;simp only[run_pure,aK,tY,cU];cases E<;>rfl
 constructor
 .rintro⟨u,b,a⟩;rw[c]at b;cases b;exact a
 .exactλa=>⟨_,c,a⟩
def aDO(i:P.underlying T=some (.map kt et)){K:Value->Prop}(h:MapAt w m A):sF P (Builtin.len_ #[T] U #[.map (some m)]) w K↔K (i64 A.length):=by
 obtain⟨es,clock,g,f,_⟩:=h;have a:es.size=A.length:=by simpa using congrArg List.length f
 have d:(Builtin.len_ #[T] U #[.map (some m)]).run P w=.ok (i64 A.length) w:=by
  have e:(getObj m).run P w=.ok (.map es clock) w:=by simp[getObj,Sem.run,g]
  simp[Builtin.len_,run_bind,cL i,e,run_pure,goInt,a]
 constructor
 .rintro⟨u,c,b⟩;rw[d]at c;cases c;exact b
 .exactλb=>⟨_,d,b⟩
def wY{o:Obj}:Chg (· =m) w {w with heap:=w.heap.setIfInBounds m o}:=
 ⟨rfl,rfl,rfl,by simp,λk b a=>by simp[FH,kY a]⟩
theorem Ic(S:P.underlying T=some (.map kt et))(L:P.underlying kt=some .string){x:Str}{K:World->Prop}(h:MapAt w m A)
  (O:∀W,MapAt W m (Co A x v)->Chg (· =m) w W->K W):Gy P (Instr.mapUpdate T (.map (some m)) (str x) v) w K:=by
 have J:=h.nodup;have y:=h.lt;obtain⟨es,clock,N,D,_,E,g⟩:=h;have Q:(getObj m).run P w=.ok (.map es clock) w:=by simp[getObj,Sem.run,N]
 have n:∀o:Obj,(setObj m o).run P w=.ok () {w with heap:=w.heap.setIfInBounds m o}:=λo=>by simp[setObj,Sem.run,N]
 have z:es.toList.length=A.length:=by simpa using congrArg List.length D
 unfold Gy;simp only[Instr.mapUpdate,run_bind,cL S,Q,run_checkKey L,run_findKey (A:=A) L x _ D];cases M:zY A x 0 with
 |none=>
  simp only[n];refine O _ ⟨es.push {key:=str x,val:=v,born:=clock},clock+1,by simp[y],?_,HI J,?_,?_⟩ wY
  .rw[(CM A x 0 M v).1];simp[D]
  .simp only[Array.toList_push,kT,cJ,kA];exact iE.2 ⟨E,by simp,λa R b F=>by
    simp at F;subst F;obtain⟨e,c,rfl⟩:=fL.1 R;have:=g e c;omega⟩
  .intro e c;simp only[Array.toList_push,bM,bO]at c;rcases c with c|rfl
   .have:=g e c;omega
   .exact rI _
 |some p=>
  obtain⟨j,u⟩:=p;obtain⟨k,C,G,t⟩:=HN A x 0 j u M;have C:j=k:=by omega
  subst C;have H:j<es.toList.length:=by rw[z];exact(bJ.1 G).1
  have f:j<es.size:=by simpa using H
  have B:es[j].key=str x:=by
   have s:=congrArg (λl=>l[j]?) D;simp only[dV,G,aK]at s;have U:es.toList[j]?=some es[j]:=by simp[f]
   rw[U]at s;simp only[aK,bB,gA]at s;exact s.1
  have r:(Instr.keyThatStays (((es[j]?).map (·.key)).getD (str x)) (str x)).run P w=.ok (str x) w:=by
   have:((es[j]?).map (·.key)).getD (str x)=str x:=by simp[f,B]
   rw[this];have q:Instr.sameBits 10000 (str x) (str x)=true:=by
    have:(ofL x==ofL x)=true:=by rw[Pb];simp
    simpa[Instr.sameBits,str]using this
   simp[Instr.keyThatStays,q,run_pure]
  simp only[run_bind,r,n];have d:(es.modify j λe=>{e with key:=str x,val:=v}).toList=es.toList.set j {es[j]with key:=str x,val:=v}:=by
   rw[Array.toList_modify,List.modify_eq_set];simp[f]
  refine O _ ⟨es.modify j λe=>{e with key:=str x,val:=v},clock,by simp[y],?_,HI J,?_,?_⟩ wY
  .rw[d,(t v).1,List.map_set,List.map_set,D]
  .rw[d,List.map_set];have:(es.toList.map (·.born)).set j es[j].born=es.toList.map (·.born):=by
    apply Cp;intro i;rw[List.getElem?_set];split
    .rename_i I;subst I;simp[f]
    .rfl
   simp only[this];exact E
  .intro e c;rw[d]at c;rcases sJ c with s|rfl
   .exact g e s
   .exact g es[j] (by simp)
theorem RQ(G:P.underlying T=some (.map kt et))(B:P.underlying kt=some .string){x:Str}{ts:Array TypeId}(h:MapAt w m A)(r:ts[0]?=some T)
  (E:∀W,MapAt W m (AG A x)->Chg (· =m) w W->K (.tuple #[]) W):fV P (Builtin.delete_ ts U #[.map (some m),str x]) w K:=by
 have z:=h.nodup;have d:=h.lt;obtain⟨es,clock,D,q,_,n,l⟩:=h;have F:(getObj m).run P w=.ok (.map es clock) w:=by simp[getObj,Sem.run,D]
 have a:∀o:Obj,(setObj m o).run P w=.ok () {w with heap:=w.heap.setIfInBounds m o}:=λo=>by simp[setObj,Sem.run,D]
 have f:es.toList.length=A.length:=by simpa using congrArg List.length q
 unfold fV;have v:((#[.map (some m),str x]:Array Value)[0]?,(#[.map (some m),str x]:Array Value)[1]?)=(some (.map (some m)),some (str x)):=rfl;simp only[Builtin.delete_,r,show(#[.map (some m),str x]:Array Value)[0]?=some (.map (some m))from rfl,show(#[.map (some m),str x]:Array Value)[1]?=some (str x)from rfl,run_bind,cL G,F,run_checkKey B,run_findKey (A:=A) B x _ q];cases C:zY A x 0 with
 |none=>
  simp only[run_bind,a,run_pure];refine E {w with heap:=w.heap.setIfInBounds m (.map es clock)} ⟨es,clock,by simp[d],?_,HO z,n,l⟩ wY;rw[(CM A x 0 C (.nilIface)).2,q]
 |some p=>
  obtain⟨j,u⟩:=p;obtain⟨k,g,y,c⟩:=HN A x 0 j u C;have g:j=k:=by omega
  subst g;have t:j<es.toList.length:=by rw[f];exact(bJ.1 y).1
  have s:j<es.size:=by simpa using t
  simp only[run_bind,a,run_pure];have b:(es.eraseIdxIfInBounds j).toList=es.toList.eraseIdx j:=by simp[Array.eraseIdxIfInBounds,s]
  refine E {w with heap:=w.heap.setIfInBounds m (.map (es.eraseIdxIfInBounds j) clock)} ⟨es.eraseIdxIfInBounds j,clock,by simp[d],?_,HO z,?_,?_⟩ wY
  .rw[b,(c .nilIface).2,<-Ca,<-Ca,q]
  .rw[b,<-Ca];exact(List.eraseIdx_sublist _ _).nodup n
  .intro e i;rw[b]at i;exact l e ((List.eraseIdx_sublist _ _).subset i)
def CG(b:MapAt (w.alloc (.map #[] 0)) w.heap.size []->K (.map (some w.heap.size)) (w.alloc (.map #[] 0))):fV P (Instr.makeMap T none) w K:=by
 unfold fV;have a:(Instr.makeMap T none).run P w=.ok (.map (some w.heap.size)) (w.alloc (.map #[] 0)):=by
  simp[Instr.makeMap,run_bind,newObj,Sem.run,run_pure]
 rw[a];exact b ⟨#[],0,kV _ _ _ rfl,by simp,by simp,by simp,by simp⟩
end
def Chg.at{k:Nat}{o:Obj}(a:Chg S w W)(h:w.heap[k]?=some o)(b:¬S k):W.heap[k]?=some o:=by
 rw[a.heap k (fY.1 h).1 b];exact h
def Chg.new{w1 w2:World}{a:Nat}(c:Ext w w1)(b:Chg (λk=>k=a) w1 w2)(f:w.heap.size<=a):Ext w w2:=c.then b λk d e=>by omega
def pC{k:Nat}{o:Obj}(h:w.heap[k]?=some o):k<w.heap.size:=(fY.1 h).1
def cO{z:List Value}(h:∀a W,a=w.heap.size->W.heap.size=w.heap.size+1->W.heap[a]?=some (.cells z.toArray T (0,0))->Ext w W->K (.pointer (some ⟨a,0,none⟩)) W):eD T z w K:=
 h _ _ rfl (by simp) (kV _ _ _ rfl) (Chg.alloc (Chg.refl _ _) _)
def gF{z:List Value}(h:∀a W,a=w.heap.size->W.heap.size=w.heap.size+1->W.heap[a]?=some (.cells z.toArray T (0,0))->Ext w W->K (.pointer (some ⟨a,0,none⟩)) W):jZ T (.agg z.toArray) w K:=
 h _ _ rfl (by simp) (kV _ _ _ rfl) (Chg.alloc (Chg.refl _ _) _)
def row_new(h:∀a W,a=w.heap.size->W.heap.size=w.heap.size+1->W.heap[a]?=some (.cells cs.toArray T (0,0))->Ext w W->W=w.alloc (.cells cs.toArray T)->K (.slice (some ⟨a,0,none⟩) n n) W):
  K (.slice (some ⟨w.heap.size,0,none⟩) n n) (w.alloc (.cells cs.toArray T)):=
 h _ _ rfl (by simp) (kV _ _ _ rfl) (Chg.alloc (Chg.refl _ _) _) rfl
def lJ{a off:Nat}{cs:Array Value}{K:World->Prop}(d:w.heap[a]?=some (.cells cs T (0,0)))(e:kJ v=true)(b:off<cs.size)
  (g:∀W,W.heap.size=w.heap.size->W.heap[a]?=some (.cells (cs.setIfInBounds off v) T (0,0))->Chg (λk=>k=a) w W->K W):stW 1 (.pointer (some ⟨a,off,none⟩)) v w K:=by
 have h:v.cells.toList=[v]:=by cases v<;>first|rfl|(simp[kJ]at e)
 have c:v.cells=#[v]:=by cases v<;>first|rfl|(simp[kJ]at e)
 have f:(⟨a,off,none⟩:Addr).add 0=⟨a,off,none⟩:=rfl;simp only[stW,c];refine⟨rfl,?_⟩;simp only[mR,f];refine⟨e,?_,?_,?_⟩
 .rw[cS,d,bT];simp[b]
 .rw[fU,d,gO]
 .refine g _ (by simp) ?_ (Chg.set (S:=λk=>k=a) (Chg.refl _ _) (.inl rfl) _);rw[qR,d,fW]
def aCi{a:Nat}{K:World->Prop}:∀(l:List Value) (i:Nat) (cs:List Value),w.heap[a]?=some (.cells cs.toArray T (0,0))->cs.length=i+l.length->(∀v∈l,kJ v=true)->
  (∀W,W.heap.size=w.heap.size->W.heap[a]?=some (.cells (cs.take i++l).toArray T (0,0))->Chg (λk=>k=a) w W->K W)->mR ⟨a,0,none⟩ l i w K:=by
 intro l;induction l generalizing w with
 |nil=>
  intro i cs b d _ g;refine g w rfl ?_ (Chg.refl _ _);simp only[aD,bL]at d;rw[iD (by omega),dL];exact b
 |cons v r ih=>
  intro i cs b d h g;have c:(⟨a,0,none⟩:Addr).add i=⟨a,i,none⟩:=by rw[bN];simp
  simp only[aA]at d;simp only[mR,c];refine⟨h v bC,?_,?_,?_⟩
  .rw[cS,b,bT];simp;omega
  .rw[fU,b,gO]
  .have f:(w.setCell ⟨a,i,none⟩ v).heap[a]?=some (.cells (cs.set i v).toArray T (0,0)):=by
    rw[qR,b,fW];simp
   refine ih (i+1) (cs.set i v) f (by rw[mB];omega) (λu m=>h u (aF _ m)) λW j e n=>?_;refine g W (by rw[j];simp) ?_ ((Chg.set (S:=λk=>k=a) (Chg.refl _ _) (.inl rfl) _).trans n);rw[e];have:(cs.set i v).take (i+1)++r=cs.take i++v::r:=by
    rw[jA,oD (by omega),List.take_set_of_le (by omega)];simp
   rw[this]
def dH{a:Nat}{l:List Value}{K:World->Prop}(g:w.heap[a]?=some (.cells cs.toArray T (0,0)))(f:l.length=n)(j:cs.length=n)(i:l.all kJ=true)
  (h:∀W,W.heap.size=w.heap.size->W.heap[a]?=some (.cells l.toArray T (0,0))->Chg (λk=>k=a) w W->K W):stW n (.pointer (some ⟨a,0,none⟩)) (.agg l.toArray) w K:=by
 rw[JC];refine⟨f,?_⟩;refine aCi l 0 cs g (by omega) (λv e=>jB.1 i v e) λW d c b=>h W d ?_ b;simpa using c
def Hy{a:Nat}{w:World}{T:TypeId}{cs:List Value}{fr:Nat×Nat}(b:w.heap[a]?=some (.cells cs.toArray T fr)):∀(n i:Nat),i+n=cs.length->bZ w ⟨a,0,none⟩ i n=some (cs.drop i)
 |0,i,h=>by simp only[bZ];rw[iQ (by omega)]
 |n+1,i,h=>by
  have c:i<cs.length:=by omega
  simp only[bZ,bN,cS,b,bT,aN,bP,aH c]
  rw[Hy b n (i+1) (by omega)]
  simp
def gL{a:Nat}{l:List Value}{fr:Nat×Nat}{K:Value->Prop}(b:w.heap[a]?=some (.cells l.toArray T fr))(d:l.length=n)(c:K (.agg l.toArray)):ldW true n (.pointer (some ⟨a,0,none⟩)) w K:=by
 rw[Au];exact⟨l,by rw[Hy b n 0 (by omega)];rfl,c⟩
def Am{a:Nat}{l:List Value}(h:w.heap[a]?=some (.cells cs.toArray T (0,0)))(e:l.length=n)(g:cs.length=n)(j:l.all kJ=true)
  (i:∀W,Chg (λk=>k=a) w W->K (.agg l.toArray) W):stW n (.pointer (some ⟨a,0,none⟩)) (.agg l.toArray) w λd=>ldW true n (.pointer (some ⟨a,0,none⟩)) d λf=>K f d:=
 dH h e g j λW _ c b=>gL c e (i W b)
end
section
open Go
theorem iV{t e:TypeId}{size:Nat}(G:tV P t e size q){base:Nat}{x:Value}{xs:List Value}
  (y:Own w base e size v n xs)(Q:SlAt w T x m cs)(F:cs.length=m*size)(h1:∀u∈cs,kJ u=true)(A:n+m<=4611686018427387904)(hb:(n+m)*q<=140737488355328)(E:base<=w.heap.size)
  (hK:∀v' W,Own W base e size v' (n+m) (xs++cs)->Chg (λk=>v.ownBlock=some k) w W->(∀k,v'.ownBlock=some k->v.ownBlock=some k\/w.heap.size<=k)->K v' W):
  fV P (Builtin.append_ #[t,t] U #[v,x]) w K:=by
 obtain⟨i,z,V,hz,h2,h3,h4⟩:=G.get;have d:∀{K':Value->World->Prop},fV P (Builtin.append_ #[t,t] U #[v,x]) w K'->∃v' W,(Builtin.append_ #[t,t] U #[v,x]).run P w=.ok v' W/\K' v' W:=by
  intro K' h;unfold fV at h;split at h
  .rename_i v' W r;exact⟨v',W,r,h⟩
  .exact h.elim
 obtain⟨v1,w1,l,he,Y,ht⟩:=d (yK G y Q F h1 A hb E λv' W a b c=>(⟨a,b,c⟩:Own W base e size v' (n+m) (xs++cs)/\Chg (λk=>v.ownBlock=some k) w W/\(v'=.slice none 0 0↔v=.slice none 0 0/\m=0)));unfold fV;rw[l];refine hK v1 w1 he Y ?_;obtain⟨C,⟨rfl,rfl⟩|⟨g,cap,cur,rfl,Z,hg,L,X,O,B⟩⟩:=y
 .have J:xs=[]:=cW (by simpa using C);subst J;obtain⟨v2,w2,I,hd⟩:=d (yK G (base:=w.heap.size) (show Own w w.heap.size e size (.slice none 0 0) 0 []from⟨by simp,.inl ⟨rfl,rfl⟩⟩) Q F h1 A hb (aQ _) λv' W a _ _=>a);rw[l]at I;cases I;intro k D;exact .inr (hd.block k D).1
 .obtain⟨p,c,rfl,_,R,s⟩:=Q;cases p with
  |none=>
   obtain⟨rfl,rfl⟩:=R rfl;intro k D;have hn:cs=[]:=cW (by simpa using F);subst hn;have r:(Builtin.append_ #[t,t] U #[.slice (some ⟨g,0,none⟩) n cap,.slice none 0 0]).run P w=.ok (.slice (some ⟨g,0,none⟩) n cap) w:=by
    simp[Builtin.append_,run_bind,cL G.und,kC (show(P.info? e).isSome=true by rw[V];rfl),Builtin.lenOf,run_pure,Builtin.firstCells,L,storeCells]
   rw[l]at r;cases r;exact .inl D
  |some a=>
   have o:∀j u,cs[j]?=some u->w.cell? (a.add j)=some u:=by
    intro j u H;have S:cs≠[]:=λe=>by subst e;simp at H
    obtain⟨b,off,c',fr,hp,ha,N⟩:=s S;cases hp;rw[bN,cS,ha,bT,N j (bJ.1 H).1,H]
   subst h2;by_cases f:n+m<=cap
   .have M:n*i.size+cs.length<=cur.size:=by rw[F,O,<-oQ];exact dU _ f
    have r:=run_append_room (P:=P) w t U e i G.und V g n cap cur hg a m c cs F o (λu H=>yM (h1 u H)) f M;rw[l]at r;cases r;intro k D;exact .inl (by simpa[Value.ownBlock]using D)
   .have holds:∀j u,xs[j]?=some u->w.cell? ((⟨g,0,none⟩:Addr).add j)=some u:=World.ownsRow.cells (base:=base) (e:=e) (size:=i.size) (v:=.slice (some ⟨g,0,none⟩) n cap) (n:=n) ⟨C,.inr ⟨g,cap,cur,rfl,Z,hg,L,X,O,B⟩⟩ rfl;have r:=run_append_grow (P:=P) w t U e i z G.und V hz ⟨g,0,none⟩ n cap xs C holds a m c cs F o (by omega) (by omega) (growslice_fits (by omega) (by rw[h3];exact hb));rw[l]at r;cases r;intro k D;right;simp[Value.ownBlock]at D;omega
def rN(c:Bool)(u v:Value)(w:World)(B:List Value->Fr->World->Prop):GdW c [u] w (λJ=>J [v] w) B↔∀g,B [bif c then v else u] g w:=by
 constructor
 .rintro⟨J,e,d,b⟩ g;cases c with
  |true=>exact b _ g _ (e rfl)
  |false=>exact b _ g _ (d rfl)
 .intro h;refine⟨λs W=>s=[bif c then v else u]/\W=w,λa=>⟨by rw[a];rfl,rfl⟩,λa=>⟨by rw[a];rfl,rfl⟩,?_⟩;rintro s g W ⟨rfl,rfl⟩;exact h g
def Ej(g e f:Bool)(w:World)(B:List Value->Fr->World->Prop):
  GdW g [undef] w (λJ=>fN (bif g then .bool e else undef) (bif (g&&e)then .bool f else undef) (.bool false) λt=>J [t] w) B↔∀h,B [bif g then .bool (e&&f)else undef] h w:=by
 cases g with
 |true=>
  rw[<-rN];cases e<;>exact iR
 |false=>
  constructor
  .rintro⟨J,_,b,a⟩ h;exact a _ h _ (b rfl)
  .intro h;exact GdW.f h
def FA(g e f:Bool)(w:World)(B:List Value->Fr->World->Prop):
  GdW g [undef] w (λJ=>fN (bif g then .bool e else undef) (.bool true) (bif (g&&!e)then .bool f else undef) λt=>J [t] w) B↔∀h,B [bif g then .bool (e||f)else undef] h w:=by
 cases g with
 |true=>
  rw[<-rN];cases e<;>exact iR
 |false=>
  constructor
  .rintro⟨J,_,b,a⟩ h;exact a _ h _ (b rfl)
  .intro h;exact GdW.f h
def gM(c e:Bool)(K:Value->Prop):fN (.bool c) (bif c then .bool e else undef) (.bool false) K↔K (.bool (c&&e)):=by cases c<;>exact iR
def mJ(c e:Bool)(K:Value->Prop):fN (.bool c) (.bool true) (bif !c then .bool e else undef) K↔K (.bool (c||e)):=by cases c<;>exact iR
def Mc(c e:Bool):isB (bif c then .bool e else undef) true=(c&&e):=by cases c<;>cases e<;>rfl
def Me(c e:Bool):isB (bif c then .bool e else undef) false=(c&&!e):=by cases c<;>cases e<;>rfl
def GdW.look{c:Bool}{A:(List Value->World->Prop)->Prop}{B:List Value->Fr->World->Prop}(e:Bool)(d:c=true->∀J:List Value->World->Prop,J [.bool e] w->A J)(b:∀g,B [bif c then .bool e else undef] g w):GdW c [undef] w A B:=by
 refine⟨λs W=>s=[bif c then .bool e else undef]/\W=w,λa=>d a _ ⟨by rw[a];rfl,rfl⟩,λa=>⟨by rw[a];rfl,rfl⟩,?_⟩;rintro s g W ⟨rfl,rfl⟩;exact b g
def GdW.act{c:Bool}{A:(List Value->World->Prop)->Prop}{B:List Value->Fr->World->Prop}(e:Bool)(R:World->Prop)(h:c=false->R w)(f:c=true->∀J:List Value->World->Prop,(∀W,R W->J [.bool e] W)->A J)(d:∀g W,R W->B [bif c then .bool e else undef] g W):GdW c [undef] w A B:=by
 refine⟨λs W=>s=[bif c then .bool e else undef]/\R W,λa=>f a _ λW b=>⟨by rw[a];rfl,b⟩,λa=>⟨by rw[a];rfl,h a⟩,?_⟩;rintro s g W ⟨rfl,b⟩;exact d g W b
def Ng(A:(Value->Prop)->Prop)(B:Value->Prop):GqW false A B↔B undef:=by
 constructor
 .rintro⟨v,_,h,a⟩;rw[<-h rfl];exact a
 .intro h;exact⟨undef,(λe=>by cases e),λ_=>rfl,h⟩
def VZ(A:(Value->Prop)->Prop)(B:Value->Prop):GqW true A B↔∃v,A (λx=>x=v)/\B v:=by
 constructor
 .rintro⟨v,h,_,a⟩;exact⟨v,h rfl,a⟩
 .rintro⟨v,h,a⟩;exact⟨v,λ_=>h,(λe=>by cases e),a⟩
def FB(u:List Value)(w:World)(A:(List Value->World->Prop)->Prop)(B:List Value->Fr->World->Prop):GdW false u w A B↔∀g,B u g w:=by
 constructor
 .rintro⟨J,_,b,a⟩ g;exact a _ g _ (b rfl)
 .intro h;exact GdW.f h
def Mb(c:Bool):isB undef c=false:=rfl
def fC(b:Bool)(A B:Prop):bE (.bool b) A B↔(b=true->A)/\(b=false->B):=iR
def aFb:=And.intro @dW<|And.intro @jJ<|And.intro @eG<|And.intro @eP<|And.intro @iI<|And.intro @iS<|And.intro @fD<|And.intro @cP<|And.intro @gR<|And.intro @jH<|
 And.intro @jG<|And.intro @jF<|And.intro @bW<|And.intro @fR<|And.intro @eC<|And.intro @iC<|And.intro @gG<|And.intro @gN<|And.intro @bY<|And.intro @fE<|And.intro @iB<|
 And.intro @jQ<|And.intro @jS<|And.intro @jT<|And.intro @jR<|And.intro @dJ<|And.intro @bH<|And.intro @fB<|And.intro @jN<|And.intro @iJ<|And.intro @jK<|And.intro @gI<|
 And.intro @jL<|And.intro @jM<|And.intro @bX<|And.intro @fI<|And.intro @jP<|And.intro @jE<|And.intro @eR<|And.intro @iT<|And.intro @gK<|And.intro @kS<|And.intro @iA<|
 And.intro @jD<|And.intro @jO<|And.intro @fJ<|And.intro @fF<|And.intro @fH<|And.intro @iZ<|And.intro @iN<|And.intro @dF @cI
def aFf:=And.intro @Mb<|And.intro @Ng<|And.intro @VZ<|And.intro @FB<|And.intro @rN<|And.intro @Ej<|And.intro @FA<|And.intro @gM<|And.intro @mJ<|And.intro @Mc<|And.intro @Me<|And.intro @gX @jV
def aFe:=And.intro @bN<|And.intro @cS<|And.intro @bT<|And.intro @fU<|And.intro @gO<|And.intro @heap_drew @size_drew
def aFd:=And.intro @dQ<|And.intro @fQ<|And.intro @eU<|And.intro @eL<|And.intro @eF<|And.intro @eB<|And.intro @fM<|
 And.intro @eY<|And.intro @eQ<|And.intro @dK<|And.intro @dT @dG
def wsv:type_of%aFb:=aFb
def wsg:type_of%aFf:=aFf
def wsh:type_of%aFe:=aFe
def wsl:type_of%aFd:=aFd
universe u
def aFc:=And.intro @bB.{u}<|And.intro @cU.{u}<|And.intro @bP.{u}<|And.intro @bG.{u}<|And.intro @bI.{u}<|And.intro @aA.{u}<|And.intro @aD.{u}<|And.intro @aP.{u}<|And.intro @aU.{u}<|And.intro @aG.{u}<|And.intro @bQ.{u}<|And.intro @aN @bL
def lC:type_of%aFc.{u}:=aFc.{u}
end
end Go.Eng
namespace Go.Proofs.YtjblfcfdeaagpaaGreatDoor
section
open Go Go.Eng
def mixed:Tryz.prog.follows .mixedOrders=true:=by kernel_rfl
end
end Go.Proofs.YtjblfcfdeaagpaaGreatDoor
namespace Go.Eng
section
open Go
inductive JV where
 |mk (k:Int) (b:Bool) (t:Str) (xs:List JV) (ks:List Str)
namespace JV
def k:JV->Int|.mk k _ _ _ _=>k
def b:JV->Bool|.mk _ b _ _ _=>b
def t:JV->Str|.mk _ _ t _ _=>t
def xs:JV->List JV|.mk _ _ _ xs _=>xs
def ks:JV->List Str|.mk _ _ _ _ ks=>ks
def ind{p:JV->Prop}(h:∀k b t xs ks,(∀x∈xs,p x)->p (.mk k b t xs ks))(v:JV):p v:=
 JV.rec (motive_1:=p) (motive_2:=λl=>∀x∈l,p x) (λk b t xs ks d=>h k b t xs ks d) (by intro x c;cases c)
  (λx l c e y a=>by rcases aX.1 a with rfl|a;exact c;exact e y a) v
end JV
end
end Go.Eng
namespace Go.Num
section
open Go.Eng
def isDig(c:UInt8):Bool:=decide (48<=c.toNat)&&decide (c.toNat<=57)
def dig(a:Str):Str:=match a with|[]=>[]|c::d=>if c=45 then d else c::d
def neg(a:Str):Bool:=a.head?==some 45
def goodN(a:Str):Bool:=decide (1<=(dig a).length)&&decide ((dig a).length<=100)&&(!((dig a).head?==some 48)||decide (a=[48]))&&(dig a).all isDig
def aHm(c:UInt8):Nat:=c.toNat-48
def dec(d:Str):Nat:=d.foldl (λn c=>n*10+aHm c) 0
def val:List Nat->Nat
 |[]=>0
 |x::r=>x+1000000000*val r
def Nf{d:Str}(n:Nat)(h:d.all isDig=true):(d.take n).all isDig=true:=jB.2 λx a=>jB.1 h x (xP a)
def num(a:Str):Int:=if neg a then-(dec (dig a):Int)else dec (dig a)
end
end Go.Num
namespace Go.Eng
section
open Go Go.Num
def UF:List Str->Bool
 |[]=>true
 |[a]=>decide (a.length<=16384)
 |a::b::r=>decide (a.length<=16384)&&Op.bytesLess a b&&UF (b::r)
def aDZ(k:Int)(b:Bool)(t:Str)(n:Nat)(ks:List Str):Bool:=
 decide (0<=k)&&decide (k<=6)&&(!b||decide (k=2))&&(decide (t=[])||decide (k=3)||decide (k=4))&&(decide (n=0)||decide (5<=k))&&(decide (k=6)||decide (ks=[]))&&
  (!decide (k=3)||goodN t)&&(!decide (k=4)||decide (t.length<=16384))&&(!decide (k=6)||decide (ks.length=n))&&UF ks
mutual
def plainM:JV->Bool
 |.mk k b t xs ks=>aDZ k b t xs.length ks&&TM xs
def TM:List JV->Bool
 |[]=>true
 |x::xs=>plainM x&&TM xs
end
def Nf{p:α->Bool}{xs:List α}{x:α}(a:xs[i]?=some x):(xs.take (i+1)).all p=((xs.take i).all p&&p x):=by
 rw[jA,a];simp
def aEc{p:α->Bool}{xs:List α}{x:α}(a:xs[i]?=some x)(h:p x=false):xs.all p=false:=by
 rw[List.all_eq_false];exact⟨x,bA a,by simp[h]⟩
def insP:List (Str×JV)->Str->JV->List (Str×JV)
 |[],k,x=>[(k,x)]
 |(a,y)::r,k,x=>if Op.bytesLess k a then(k,x)::(a,y)::r else(a,y)::insP r k x
end
section
open Go
def lM(s:Str)(i:Nat):Int:=match s[i]? with|some b=>(b.toNat:Int)|none=>-1
def sW(s:Str)(i:Nat):Bool:=decide (128<=lM s i)&&decide (lM s i<192)
def lD(s:Str)(i:Nat):Nat:=
 let c:=lM s i
 if c<0 then 0 else if c<128 then 1
 else if 194<=c/\c<224/\sW s (i+1)=true then 2
 else if 224<=c/\c<240/\sW s (i+1)=true/\sW s (i+2)=true/\
  2048<=(c-224)*4096+(lM s (i+1)-128)*64+lM s (i+2)-128/\((c-224)*4096+(lM s (i+1)-128)*64+lM s (i+2)-128<55296\/57343<(c-224)*4096+(lM s (i+1)-128)*64+lM s (i+2)-128)then 3
 else if 240<=c/\c<245/\sW s (i+1)=true/\sW s (i+2)=true/\sW s (i+3)=true/\
  65536<=(c-240)*262144+(lM s (i+1)-128)*4096+(lM s (i+2)-128)*64+lM s (i+3)-128/\(c-240)*262144+(lM s (i+1)-128)*4096+(lM s (i+2)-128)*64+lM s (i+3)-128<=1114111 then 4
 else 0
def b8(n:Nat):UInt8:=UInt8.ofNat n
def wrM(n:Nat):Str:=
 if n<128 then [b8 n]else if n<2048 then [b8 (192+n/64),b8 (128+n%64)]
 else if n<65536 then [b8 (224+n/4096),b8 (128+n/64%64),b8 (128+n%64)]
 else [b8 (240+n/262144),b8 (128+n/4096%64),b8 (128+n/64%64),b8 (128+n%64)]
def aHj(n:Nat):UInt8:=if n<10 then b8 (48+n)else b8 (87+n)
def aHk(c:UInt8):Str:=
 if c=34\/c=92 then [92,c]else if c=8 then [92,98]else if c=12 then [92,102]else if c=10 then [92,110]else if c=13 then [92,114]else if c=9 then [92,116]
 else if c<32 then [92,117,48,48,b8 (48+c.toNat/16),aHj (c.toNat%16)]else [c]
inductive RR (α:Type) where
 |ok (v:α) (i:Nat) (count:Nat)
 |bad (code:Int) (i:Nat)
def isDig(c:Int):Bool:=decide (48<=c)&&decide (c<=57)
def Mh(c:Int):Int:=if 48<=c/\c<=57 then c-48 else if 97<=c/\c<=102 then c-87 else if 65<=c/\c<=70 then c-55 else-1
def aDY(s:Str)(i:Nat):Int:=
 if i+6<=s.length/\lM s i=92/\lM s (i+1)=117/\0<=Mh (lM s (i+2))/\0<=Mh (lM s (i+3))/\0<=Mh (lM s (i+4))/\0<=Mh (lM s (i+5))then
  ((Mh (lM s (i+2))*16+Mh (lM s (i+3)))*16+Mh (lM s (i+4)))*16+Mh (lM s (i+5))else-1
def aFE(s:Str)(i:Nat):Option (Str×Nat):=
 let c:=lM s (i+1)
 if c=34 then some ([34],2)else if c=92 then some ([92],2)else if c=47 then some ([47],2)else if c=98 then some ([8],2)else if c=102 then some ([12],2)
 else if c=110 then some ([10],2)else if c=114 then some ([13],2)else if c=116 then some ([9],2)
 else
  let a:=aDY s i
  let b:=aDY s (i+6)
  if a<0\/56320<=a/\a<=57343 then none
  else if 55296<=a/\a<=56319 then(if b<56320\/57343<b then none else some (wrM (65536+(a-55296)*1024+b-56320).toNat,12))
  else some (wrM a.toNat,6)
structure aB4 where
 json:Int
 long:Int
 deep:Int
 text:Int
 twice:Int
def NL(E:aB4)(s:Str)(start:Nat):Nat->Nat->Str->Nat->RR Str
 |0,i,_,_=>.bad E.json i
 |n+1,i,out,cnt=>
  if lM s i=34 then(if 16384<out.length then .bad E.long start else .ok out (i+1) cnt)
  else if lM s i<0 then .bad E.json s.length
  else if lM s i=92 then(match aFE s i with|none=>.bad E.json i|some (t,k)=>NL E s start n (i+k) (out++t) cnt)
  else if lM s i<32 then .bad E.json i
  else if lD s i=0 then .bad E.text i
  else NL E s start n (i+lD s i) (out++(s.drop i).take (lD s i)) cnt
def quotM(E:aB4)(s:Str)(i cnt:Nat):RR Str:=NL E s i (s.length+1) (i+1) [] cnt
def bt(s:Str)(i:Nat):Nat:=(s.getD i 0).toNat
def Eb(s:Str)(i:Nat):bt s i<256:=rT _
def rG(h:i<s.length):lM s i=(bt s i:Int):=by
 unfold lM bt;rw[aH h,aM,aH h];rfl
def Jm(h:s.length<=i):lM s i=-1:=by
 unfold lM;rw[dY h]
def get_bt(s:Str)(i:Nat):((ofL s).get! i).toNat=bt s i:=by
 unfold bt;congr 1;show(s.toArray)[i]! =s.getD i 0;rw[List.getElem!_toArray,List.getElem!_eq_getElem?_getD,aM];rfl
def Qg(s:Str)(i:Nat):Utf8.decode (ofL s) i=Lib.decodeN (s.length-i) (bt s i) (bt s (i+1)) (bt s (i+2)) (bt s (i+3)):=by
 rw[Lib.decode_at,get_bt,get_bt,get_bt,get_bt,kD]
abbrev mor(L k b:Nat):Prop:=k<L/\128<=b/\b<192
abbrev c3(b0 b1 b2:Nat):Nat:=(b0-224)*4096+(b1-128)*64+(b2-128)
abbrev c4(b0 b1 b2 b3:Nat):Nat:=(b0-240)*262144+(b1-128)*4096+(b2-128)*64+(b3-128)
def ZE(L a b b2 c:Nat):Nat×Nat:=
 if a<128 then(a,1)
 else if 194<=a/\a<224/\mor L 1 b then((a-192)*64+(b-128),2)
 else if 224<=a/\a<240/\mor L 1 b/\mor L 2 b2/\2048<=c3 a b b2/\(c3 a b b2<55296\/57343<c3 a b b2)then(c3 a b b2,3)
 else if 240<=a/\a<245/\mor L 1 b/\mor L 2 b2/\mor L 3 c/\65536<=c4 a b b2 c/\c4 a b b2 c<=1114111 then(c4 a b b2 c,4)
 else(65533,1)
theorem My{L:Nat}(f:i<256)(d:n<256)(c:m<256)(b:j<256):Lib.decodeN L i n m j=ZE L i n m j:=by
 have m1:(1<L/\n/64=2)↔mor L 1 n:=by unfold mor;omega
 have m2:(2<L/\m/64=2)↔mor L 2 m:=by unfold mor;omega
 have m3:(3<L/\j/64=2)↔mor L 3 j:=by unfold mor;omega
 unfold Lib.decodeN ZE;simp only[m1,m2,m3];by_cases a0:i<128
 .rw[aO a0,aO a0]
 rw[aE a0,aE a0];by_cases a1:i<194
 .rw[aE (show¬(194<=i/\i<224/\mor L 1 n)fromλh=>by omega),aE (show¬(224<=i/\i<240/\_)fromλh=>by omega),aE (show¬(240<=i/\i<245/\_)fromλh=>by omega)];rw[aE (show¬(i/16=14/\_)fromλh=>by omega),aE (show¬(i/8=30/\_)fromλh=>by omega)];by_cases a2:i/32=6/\mor L 1 n
  .rw[aO a2,aE (by omega)]
  .rw[aE a2]
 by_cases a2:i<224
 .rw[aE (show¬(224<=i/\i<240/\_)fromλh=>by omega),aE (show¬(240<=i/\i<245/\_)fromλh=>by omega)];rw[aE (show¬(i/16=14/\_)fromλh=>by omega),aE (show¬(i/8=30/\_)fromλh=>by omega)];by_cases q:mor L 1 n
  .have a:=q;unfold mor at a;rw[aO ⟨by omega,q⟩,aO (by omega),aO ⟨by omega,a2,q⟩];apply kG
   .show i%32*64+n%64=(i-192)*64+(n-128);omega
   .rfl
  .rw[aE (λh=>q h.2),aE (λh=>q h.2.2)]
 by_cases a3:i<240
 .rw[aE (show¬(194<=i/\i<224/\mor L 1 n)fromλh=>by omega),aE (show¬(240<=i/\i<245/\_)fromλh=>by omega)];rw[aE (show¬(i/32=6/\_)fromλh=>by omega),aE (show¬(i/8=30/\_)fromλh=>by omega)];by_cases q:mor L 1 n/\mor L 2 m
  .have a:=q;unfold mor at a;have e:i%16*4096+n%64*64+m%64=c3 i n m:=by unfold c3;omega
   have g:c3 i n m<=65535:=by unfold c3;omega
   rw[aO ⟨by omega,q.1,q.2⟩];simp only[e];by_cases r:2048<=c3 i n m/\(c3 i n m<55296\/57343<c3 i n m)
   .rw[aO ⟨r.1,by omega⟩,aO ⟨by omega,a3,q.1,q.2,r.1,r.2⟩]
   .rw[aE (by omega),aE (λh=>r ⟨h.2.2.2.2.1,h.2.2.2.2.2⟩)]
  .rw[aE (λh=>q ⟨h.2.1,h.2.2⟩),aE (λh=>q ⟨h.2.2.1,h.2.2.2.1⟩)]
 .rw[aE (show¬(194<=i/\i<224/\mor L 1 n)fromλh=>by omega),aE (show¬(224<=i/\i<240/\_)fromλh=>by omega)];rw[aE (show¬(i/32=6/\_)fromλh=>by omega),aE (show¬(i/16=14/\_)fromλh=>by omega)];by_cases q:mor L 1 n/\mor L 2 m/\mor L 3 j
  .have a:=q;unfold mor at a;by_cases a4:i<248
   .have e:i%8*262144+n%64*4096+m%64*64+j%64=c4 i n m j:=by unfold c4;omega
    rw[aO ⟨by omega,q.1,q.2.1,q.2.2⟩];simp only[e];by_cases r:65536<=c4 i n m j/\c4 i n m j<=1114111
    .rw[aO ⟨r.1,by omega⟩,aO ⟨by omega,by have:=r.2;unfold c4 at this;omega,q.1,q.2.1,q.2.2,r.1,r.2⟩]
    .rw[aE (by omega),aE (λh=>r ⟨h.2.2.2.2.2.1,h.2.2.2.2.2.2⟩)]
   .rw[aE (show¬(i/8=30/\_)fromλh=>by omega),aE (show¬(240<=i/\i<245/\_)fromλh=>by omega)]
  .rw[aE (λh=>q ⟨h.2.1,h.2.2.1,h.2.2.2⟩),aE (λh=>q ⟨h.2.2.1,h.2.2.2.1,h.2.2.2.2.1⟩)]
def Rh{k:Nat}:sW s (i+k)=true↔mor (s.length-i) k (bt s (i+k)):=by
 unfold sW mor;rw[bV,decide_eq_true_iff,decide_eq_true_iff];rcases qZ (i+k) s.length with h|h
 .rw[rG h];omega
 .rw[Jm h];omega
def WC(L a b b2 c:Nat):Nat:=
 if a<128 then 1
 else if 194<=a/\a<224/\mor L 1 b then 2
 else if 224<=a/\a<240/\mor L 1 b/\mor L 2 b2/\2048<=c3 a b b2/\(c3 a b b2<55296\/57343<c3 a b b2)then 3
 else if 240<=a/\a<245/\mor L 1 b/\mor L 2 b2/\mor L 3 c/\65536<=c4 a b b2 c/\c4 a b b2 c<=1114111 then 4
 else 0
set_option maxHeartbeats 4000000 in
def GA(h:i<s.length):lD s i=WC (s.length-i) (bt s i) (bt s (i+1)) (bt s (i+2)) (bt s (i+3)):=by
 unfold lD WC;simp only[Rh,rG h];by_cases a:i+1<s.length
 .by_cases b:i+2<s.length
  .by_cases c:i+3<s.length
   .simp only[rG a,rG b,rG c,mor,c3,c4]
    repeat' split
    all_goals first|rfl|(exfalso;omega)
   .simp only[rG a,rG b,mor,c3,c4]
    repeat' split
    all_goals first|rfl|(exfalso;omega)
  .simp only[rG a,mor,c3,c4]
   repeat' split
   all_goals first|rfl|(exfalso;omega)
 .simp only[mor,c3,c4]
  repeat' split
  all_goals first|rfl|(exfalso;omega)
def aB1(s:Str)(i:Nat)(h:i<s.length):UInt8.ofNat (bt s i)=s[i]:=by
 unfold bt;rw[aM,aH h];simp
def Da(h:i<s.length):(s.drop i).take 1=[UInt8.ofNat (bt s i)]:=by
 rw[aB1 s i h,eW h];rfl
def wJ(h:i<s.length):(s.drop i).take (n+1)=UInt8.ofNat (bt s i)::(s.drop (i+1)).take n:=by
 rw[aB1 s i h,eW h];rfl
set_option maxHeartbeats 4000000 in
def Lo(h:i<s.length)(a:lD s i=0):Utf8.decode (ofL s) i=(65533,1):=by
 rw[Qg,My (Eb _ _) (Eb _ _) (Eb _ _) (Eb _ _)];rw[GA h]at a;unfold WC at a;unfold ZE
 repeat' split at a
 all_goals first|(exfalso;omega)|skip
 all_goals(repeat rw[aE (by assumption)])
structure VT(s:Str)(i n c:Nat):Prop where
 dec:Utf8.decode (ofL s) i=(c,n)
 fits:i+n<=s.length
 small:n<=4
 bytes:Lib.encodeRune c=(s.drop i).take n
 low:n=1->c=bt s i/\c<128
 high:2<=n->128<=c/\128<=bt s i
 top:c<=1114111
 val:c<55296\/57343<c
def Ci(l:List Int):(l.map λx=>x.toNat.toUInt8)=l.map λx=>UInt8.ofNat x.toNat:=rfl
set_option maxHeartbeats 8000000 in
theorem wK(h:i<s.length)(u:lD s i≠0):∃c,VT s i (lD s i) c:=by
 have e:=Qg s i;rw[My (Eb _ _) (Eb _ _) (Eb _ _) (Eb _ _)]at e;have a:=GA h;have w:=Eb s i;generalize x:lD s i=n at*
 unfold WC at a;unfold ZE at e;by_cases a1:bt s i<128
 .rw[aO a1]at a e;subst a;refine⟨_,e,by omega,by omega,?_,λ_=>⟨rfl,a1⟩,λh=>by omega,by omega,by omega⟩;rw[Da h,Lib.encodeRune,Lib.encodeRuneZ_one (by omega) (by omega)];simp
 rw[aE a1]at a e;by_cases a2:194<=bt s i/\bt s i<224/\mor (s.length-i) 1 (bt s (i+1))
 .rw[aO a2]at a e;subst a;obtain⟨a2,a3,a4,a5,a6⟩:=a2;refine⟨_,e,by omega,by omega,?_,λh=>by omega,λh=>by omega,by omega,by omega⟩;rw[wJ h,Da (by omega),Lib.encodeRune,Lib.encodeRuneZ_two (by omega) (by omega)];simp only[cJ,kA,Ci];rw[show((192:Int)+(((bt s i-192)*64+(bt s (i+1)-128):Nat):Int)/64).toNat=bt s i by omega,show((128:Int)+(((bt s i-192)*64+(bt s (i+1)-128):Nat):Int)%64).toNat=bt s (i+1)by omega]
 rw[aE a2]at a e;by_cases a3:224<=bt s i/\bt s i<240/\mor (s.length-i) 1 (bt s (i+1))/\mor (s.length-i) 2 (bt s (i+2))/\2048<=c3 (bt s i) (bt s (i+1)) (bt s (i+2))/\(c3 (bt s i) (bt s (i+1)) (bt s (i+2))<55296\/57343<c3 (bt s i) (bt s (i+1)) (bt s (i+2)))
 .rw[aO a3]at a e;subst a;obtain⟨t,o,⟨m,l,k⟩,⟨j,g,f⟩,d,b⟩:=a3;have v:c3 (bt s i) (bt s (i+1)) (bt s (i+2))=(bt s i-224)*4096+(bt s (i+1)-128)*64+(bt s (i+2)-128):=rfl;refine⟨_,e,by omega,by omega,?_,λh=>by omega,λh=>by omega,by omega,by omega⟩;rw[wJ h,wJ (by omega),Da (by omega),Lib.encodeRune,Lib.encodeRuneZ_three (by omega)];simp only[cJ,kA,Ci];rw[show((224:Int)+((c3 (bt s i) (bt s (i+1)) (bt s (i+2)):Nat):Int)/4096).toNat=bt s i by unfold c3;omega,show((128:Int)+((c3 (bt s i) (bt s (i+1)) (bt s (i+2)):Nat):Int)/64%64).toNat=bt s (i+1)by unfold c3;omega,show((128:Int)+((c3 (bt s i) (bt s (i+1)) (bt s (i+2)):Nat):Int)%64).toNat=bt s (i+2)by unfold c3;omega]
 rw[aE a3]at a e;by_cases a4:240<=bt s i/\bt s i<245/\mor (s.length-i) 1 (bt s (i+1))/\mor (s.length-i) 2 (bt s (i+2))/\mor (s.length-i) 3 (bt s (i+3))/\65536<=c4 (bt s i) (bt s (i+1)) (bt s (i+2)) (bt s (i+3))/\c4 (bt s i) (bt s (i+1)) (bt s (i+2)) (bt s (i+3))<=1114111
 .rw[aO a4]at a e;subst a;obtain⟨t,o,⟨m,l,k⟩,⟨j,g,f⟩,⟨d,b,r⟩,q,p⟩:=a4;refine⟨_,e,by omega,by omega,?_,λh=>by omega,λh=>by omega,by omega,by omega⟩;rw[wJ h,wJ (by omega),wJ (by omega),Da (by omega),Lib.encodeRune,Lib.encodeRuneZ_four (by omega) (by omega)];simp only[cJ,kA,Ci];rw[show((240:Int)+((c4 (bt s i) (bt s (i+1)) (bt s (i+2)) (bt s (i+3)):Nat):Int)/262144).toNat=bt s i by unfold c4;omega,show((128:Int)+((c4 (bt s i) (bt s (i+1)) (bt s (i+2)) (bt s (i+3)):Nat):Int)/4096%64).toNat=bt s (i+1)by unfold c4;omega,show((128:Int)+((c4 (bt s i) (bt s (i+1)) (bt s (i+2)) (bt s (i+3)):Nat):Int)/64%64).toNat=bt s (i+2)by unfold c4;omega,show((128:Int)+((c4 (bt s i) (bt s (i+1)) (bt s (i+2)) (bt s (i+3)):Nat):Int)%64).toNat=bt s (i+3)by unfold c4;omega]
 rw[aE a4]at a;exact absurd a u
def zB(s:Str)(i:Nat):Nat:=max (lD s i) 1
def Vl(h:i<s.length):(Utf8.decode (ofL s) i).2=zB s i:=by
 unfold zB;by_cases a:lD s i=0
 .rw[Lo h a,a];rfl
 .obtain⟨c,b⟩:=wK h a;rw[b.dec];show lD s i=max (lD s i) 1;omega
def QC(h:i<s.length):i+zB s i<=s.length:=by
 unfold zB;by_cases a:lD s i=0
 .rw[a];show i+1<=_;omega
 .obtain⟨c,b⟩:=wK h a;have:=b.fits;omega
def Te(s:Str)(i:Nat):1<=zB s i:=by unfold zB;omega
def rune_end(h:s.length<=i):lD s i=0:=by
 unfold lD;simp only[Jm h];rfl
def Sy(h:n<55296\/57343<n/\n<=1114111):Lib.encodeRune n=wrM n:=by
 unfold Lib.encodeRune wrM b8;by_cases c:n<128
 .rw[Lib.encodeRuneZ_one (by omega) (by omega),aO c];simp
 rw[aE c];by_cases b:n<2048
 .rw[Lib.encodeRuneZ_two (by omega) (by omega),aO b];simp only[cJ,kA,Ci];rw[show((192:Int)+(n:Int)/64).toNat=192+n/64 by omega,show((128:Int)+(n:Int)%64).toNat=128+n%64 by omega]
 rw[aE b];by_cases a:n<65536
 .rw[Lib.encodeRuneZ_three (by omega),aO a];simp only[cJ,kA,Ci];rw[show((224:Int)+(n:Int)/4096).toNat=224+n/4096 by omega,show((128:Int)+(n:Int)/64%64).toNat=128+n/64%64 by omega,show((128:Int)+(n:Int)%64).toNat=128+n%64 by omega]
 .rw[Lib.encodeRuneZ_four (by omega) (by omega),aE a];simp only[cJ,kA,Ci];rw[show((240:Int)+(n:Int)/262144).toNat=240+n/262144 by omega,show((128:Int)+(n:Int)/4096%64).toNat=128+n/4096%64 by omega,show((128:Int)+(n:Int)/64%64).toNat=128+n/64%64 by omega,show((128:Int)+(n:Int)%64).toNat=128+n%64 by omega]
end
end Go.Eng
namespace Go.Lex
section
open Go Go.Eng Go.Num
structure Tok where
 k:Int
 t:Str
 a:Int
deriving DecidableEq
def gV(c:UInt8):Bool:=(97<=c&&c<=122)||(65<=c&&c<=90)||c==95
def jY(c:UInt8):Bool:=48<=c&&c<=57
def gY(c:UInt8):Bool:=gV c||jY c||c==45
def gD(p:UInt8->Bool):Str->Nat
 |[]=>0
 |c::r=>if p c then gD p r+1 else 0
def qF(p s:Str):Bool:=p.isPrefixOf s
def gU:Nat->Str->Nat×Int
 |0,_=>(0,0)
 |_+1,[]=>(0,0)
 |n+1,c::r=>
  if c==32||c==9||c==13 then((gU n r).1+1,(gU n r).2)
  else if c==35||qF [47,47] (c::r)then
   let k:=gD (λb=>b !=10) (c::r)
   ((gU n ((c::r).drop k)).1+k,(gU n ((c::r).drop k)).2)
  else if qF [47,42] (c::r)then
   let i:=Lib.index (r.drop 1) [42,47]
   if i<0 then(0,40)
   else((gU n ((c::r).drop (i.toNat+4))).1+(i.toNat+4),(gU n ((c::r).drop (i.toNat+4))).2)
  else(0,0)
def nJ(k:Nat)(r:Nat×Int):Nat×Int:=if r.2=0 then(r.1+k,0)else(0,r.2)
def escOk(c:UInt8):Bool:=c==34||c==92||c==110||c==116||c==114||c==36
mutual
def sD:Nat->Str->Nat->Nat×Int
 |0,_,_=>(0,40)
 |_+1,[],_=>(0,40)
 |n+1,c::r,d=>
  if c==34 then(1,0)
  else if c==10 then(0,40)
  else if c==92 then
   match r with
   |[]=>(0,40)
   |e::r'=>if escOk e then nJ 2 (sD n r' d)else(0,40)
  else if qF [36,123] (c::r)then
   if 24<d+1 then(0,7)
   else
    let i:=DN n (r.drop 1) (d+1)
    if i.2=0 then nJ (i.1+2) (sD n ((r.drop 1).drop i.1) d)else(0,i.2)
  else nJ 1 (sD n r d)
def DN:Nat->Str->Nat->Nat×Int
 |0,_,_=>(0,40)
 |_+1,[],_=>(0,40)
 |n+1,c::r,d=>
  if c==125 then(1,0)
  else if c==10 then(0,40)
  else if c==123 then
   if 24<d+1 then(0,7)
   else
    let i:=DN n r (d+1)
    if i.2=0 then nJ (i.1+1) (DN n (r.drop i.1) d)else(0,i.2)
  else if c==34 then
   let i:=sD n r d
   if i.2=0 then nJ (i.1+1) (DN n (r.drop i.1) d)else(0,i.2)
  else nJ 1 (DN n r d)
end
def mF:Str->Str
 |[]=>[]
 |c::r=>if c==92||c==34||c==36 then 92::c::mF r else if c==9 then 92::116::mF r else if c==13 then 92::114::mF r else c::mF r
def pU:Nat->Str->Str->Str×Nat×Int
 |0,_,_=>([],0,40)
 |n+1,name,s=>
  let k:=gD (λb=>b !=10) s
  let a:=s.take k
  if a.drop (gD (λb=>b==32||b==9) a)=name then([],k,0)
  else if s.length<=k then([],0,40)
  else
   let x:=pU n name (s.drop (k+1))
   if x.2.2=0 then(mF a++[92,110]++x.1,x.2.1+(k+1),0)else([],0,x.2.2)
def kZ(s:Str):Str×Nat×Int:=
 let n:=if gV ((s.drop 2).headD 0)then gD gY (s.drop 2)else 0
 if n=0 then([],0,40)
 else if(s.drop (2+n)).head?=some 10 then
  let x:=pU (s.length+1) ((s.drop 2).take n) (s.drop (2+n+1))
  if x.2.2=0 then(x.1,x.2.1+(2+n+1),0)else([],0,x.2.2)
 else([],0,40)
def wX:List Str:=[[61,61],[33,61],[60,61],[62,61],[38,38],[124,124]]
def En:Str:=[123,125,91,93,40,41,61,43,45,42,47,37,60,62,33,63,58,44,46]
def tF(s:Str):Str:=
 if wX.contains (s.take 2)then s.take 2 else if En.contains (s.headD 0)then s.take 1 else []
def mY(s:Str):Tok×Nat×Int:=
 let c:=s.headD 0
 if c==10 then(⟨5,[10],0⟩,1,0)
 else if gV c then
  let n:=gD gY s
  (⟨1,s.take n,0⟩,n,if 32<n then 3 else 0)
 else if jY c then
  let n:=gD jY s
  (⟨2,s.take n,0⟩,n,if(n<s.length&&gV ((s.drop n).headD 0))||(c==48&&1<n)then 40 else if goodN (s.take n)then 0 else 3)
 else if c==34 then
  let r:=sD (s.length+1) (s.drop 1) 0
  if r.2=0 then(⟨3,(s.drop 1).take (r.1-1),0⟩,r.1+1,0)else(⟨0,[],0⟩,0,r.2)
 else if qF [60,60] s then
  let r:=kZ s
  (⟨3,r.1,0⟩,r.2.1,r.2.2)
 else(⟨4,tF s,0⟩,(tF s).length,if(tF s).length=0 then 40 else 0)
def Ee:Nat->Str->Nat->Option Nat
 |0,_,_=>none
 |n+1,s,i=>if s.length<=i then none else if lD s i=0 then some i else Ee n s (i+zB s i)
inductive RS where
 |ok (l:List Tok)
 |bad (code at_:Int)
deriving DecidableEq
def nA:Nat->Str->Nat->Nat->RS
 |0,_,_,_=>.bad 0 0
 |n+1,s,at_,cnt=>
  let k:=gU (s.length+1) s
  let r:=s.drop k.1
  if k.2≠0 then .bad k.2 (at_+k.1:Nat)
  else if r=[]then .ok [⟨0,[],(at_+k.1:Nat)⟩]
  else
   let o:=mY r
   if o.2.2≠0 then .bad o.2.2 (at_+k.1:Nat)
   else if cnt=4096 then .bad 3 (at_+k.1:Nat)
   else match nA n (r.drop o.2.1) (at_+k.1+o.2.1) (cnt+1)with
    |.ok l=>.ok (⟨o.1.k,o.1.t,(at_+k.1:Nat)⟩::l)
    |x=>x
def mS(s:Str):RS:=
 if 16384<s.length then .bad 3 0
 else match Ee (s.length+1) s 0 with
  |some i=>.bad 31 (i:Nat)
  |none=>nA (s.length+1) s 0 0
end
end Go.Lex
namespace Go.Syn
section
open Go Go.Eng Go.Lex
structure Ex where
 k:Int
 t:Str
 args:List Nat
 keys:List Str
 a:Int
deriving DecidableEq
structure Atr where
 n:Str
 e:Nat
 a:Int
deriving DecidableEq
structure Blk where
 typ:Str
 labels:List Str
 attrs:List Atr
 blocks:List Nat
 a:Int
deriving DecidableEq
structure Fl where
 ex:List Ex
 bl:List Blk
 top:List Nat
deriving DecidableEq
structure PS where
 toks:List Tok
 i:Nat
 off:Int
 deep:Nat
 quiet:Bool
 ex:List Ex
 bl:List Blk
inductive R (α:Type) where
 |ok (x:α) (s:PS)
 |err (c a:Int)
def R.bind{α β:Type}(r:R α)(f:α->PS->R β):R β:=match r with
 |.ok x s=>f x s
 |.err c a=>.err c a
def kK:List Tok->Nat
 |[]=>0
 |t::r=>if t.k=5 then kK r+1 else 0
def bK(s:PS):PS:=if s.quiet=true then{s with i:=s.i+kK (s.toks.drop s.i)}else s
def pH(s:PS):Tok:=s.toks.getD s.i ⟨0,[],0⟩
def cur(s:PS):Tok:={pH (bK s)with a:=(pH (bK s)).a+s.off}
def step1(s:PS):PS:={s with i:=s.i+1}
def kP(s:PS):PS:=if(cur s).k≠0 then step1 (bK s)else bK s
def isS(s:PS)(w:Str):Bool:=decide ((cur s).k=4)&&decide ((cur s).t=w)
def cN(s:PS)(w:Str):Bool×PS:=if isS s w=true then(true,step1 (bK s))else(false,bK s)
def oX(s:PS)(w:Str):R Unit:=if isS s w=true then .ok () (step1 (bK s))else .err 50 (cur s).a
def mT(s:PS)(k:Int):R Tok:=if(cur s).k=k then .ok (cur s) (kP s)else .err 50 (cur s).a
def hY(s:PS):PS:={bK s with i:=(bK s).i+kK (s.toks.drop (bK s).i)}
def qS(s:PS)(e:Ex):R Nat:=.ok s.ex.length {s with ex:=s.ex++[e]}
def within{α:Type}(s:PS)(a:Int)(quiet:Bool)(f:PS->R α):R α:=
 if s.deep=24 then .err 7 a
 else(f {s with deep:=s.deep+1,quiet:=quiet}).bind λx s'=>.ok x {s' with deep:=s.deep,quiet:=s.quiet}
def iW:Str->Str
 |[]=>[]
 |[c]=>if c=92 then []else [c]
 |c::e::r=>if c=92 then(if e=110 then 10 else if e=116 then 9 else if e=114 then 13 else e)::iW r else c::iW (e::r)
mutual
def Ed:Nat->Str->Int->Nat
 |0,_,_=>0
 |_+1,[],_=>0
 |n+1,c::r,d=>
  if c=123 then 1+Ed n r (d+1)
  else if c=125 then(if d-1=0 then 1 else 1+Ed n r (d-1))
  else if c=34 then(1+Dm n r)+Ed n (r.drop (Dm n r)) d
  else 1+Ed n r d
def Dm:Nat->Str->Nat
 |0,_=>0
 |_+1,[]=>0
 |n+1,c::r=>
  if c=34 then 1
  else if c=92 then(match r with|[]=>1|_::r'=>2+Dm n r')
  else if qF [36,123] (c::r)=true then(1+Ed n r 0)+Dm n (r.drop (Ed n r 0))
  else 1+Dm n r
end
def EO(s:Str):Nat:=Ed (s.length+1) s 0
def insP:Str->Option (Nat×Nat)
 |[]=>none
 |[_]=>none
 |c::e::r=>
  if c=92 then(insP r).map λx=>(x.1+2,x.2+2)
  else if c=36/\e=123 then some (0,1+EO (e::r))
  else(insP (e::r)).map λx=>(x.1+1,x.2+1)
def qG(s:PS)(t:Tok):R Str:=if(insP t.t).isSome=true then .err 50 t.a else .ok (iW t.t) s
def pF(E:PS->R Nat)(s:PS)(t:Str)(a:Int):R Nat:=match mS t with
 |.bad c b=>.err c (a+b)
 |.ok l=>(E ⟨l,0,a,s.deep,false,s.ex,s.bl⟩).bind λx q=>(mT q 0).bind λ_ d=>.ok x {s with ex:=d.ex,bl:=d.bl}
def mK(E:PS->R Nat):Nat->PS->Str->Int->List Nat->List Str->R (List Nat×List Str)
 |0,_,_,_,_,_=>.err 0 0
 |n+1,s,rest,a,us,ks=>
  if rest=[]then .ok (us,ks) s
  else match insP rest with
   |none=>.ok (us++[s.ex.length],ks++[[116]]) {s with ex:=s.ex++[⟨5,iW rest,[],[],a⟩]}
   |some (i,e)=>
    let d:=if 0<i then{s with ex:=s.ex++[⟨5,iW (rest.take i),[],[],a⟩]}else s
    let c:=if 0<i then us++[s.ex.length]else us
    let b:=if 0<i then ks++[[116]]else ks
    if i<e then
     (within d (a+i) false λq=>pF E q ((rest.drop (i+2)).take (e-1-(i+2))) (a+i+2)).bind λx f=>mK E n f (rest.drop e) (a+e) (c++[x]) (b++[[101]])
    else mK E n d (rest.drop e) (a+e) c b
def wS(E:PS->R Nat)(s:PS)(t:Tok):R Nat:=
 if(insP t.t).isSome=true then(mK E (t.t.length+1) s t.t (t.a+1) [] []).bind λx s'=>qS s' ⟨6,[],x.1,x.2,t.a⟩
 else qS s ⟨5,iW t.t,[],[],t.a⟩
def tX:Str:=[102,111,114]
def kIn:Str:=[105,110]
def pS(t:Str):Int:=if t=[110,117,108,108]then 1 else if t=[116,114,117,101]then 2 else if t=[102,97,108,115,101]then 3 else 9
def qX(E:PS->R Nat)(w:Str):Nat->PS->List Nat->R (List Nat)
 |0,_,_=>.err 0 0
 |n+1,s,out=>
  if(cN s w).1=true then .ok out (cN s w).2
  else if out=[]then(E (cN s w).2).bind λx s'=>qX E w n s' (out++[x])
  else(oX (cN s w).2 [44]).bind λ_ a=>
   if(cN a w).1=true then .ok out (cN a w).2
   else(E (cN a w).2).bind λx s'=>qX E w n s' (out++[x])
def Cx(E:PS->R Nat)(w:Str)(s:PS):R (List Nat):=qX E w (s.toks.length+1) s []
def xE(E:PS->R Nat)(s:PS)(a:Int):R Ex:=
 let b:=step1 s
 if(cur b).k≠1\/(cur b).t≠tX then(Cx E [93] (bK b)).bind λus s'=>.ok ⟨7,[],us,[],a⟩ s'
 else(mT (step1 (bK b)) 1).bind λt h=>(mT h 1).bind λu g=>
  if u.t≠kIn then .err 50 u.a
  else(E g).bind λx f=>(oX f [58]).bind λ_ e=>(E e).bind λy d=>(oX d [93]).bind λ_ c=>.ok ⟨29,t.t,[x,y],[],a⟩ c
def Ar(E:PS->R Nat)(a:Int):Nat->PS->List Nat->List Str->R Ex
 |0,_,_,_=>.err 0 0
 |n+1,s,us,ks=>
  if(cN s [125]).1=true then .ok ⟨8,[],us,ks,a⟩ (cN s [125]).2
  else
   let d:=(cN s [125]).2
   let t:=cur d
   let c:=kP d
   (if t.k=3 then qG c t else if t.k=1 then .ok t.t c else .err 50 t.a).bind λk f=>
     if ks.contains k=true then .err 2 t.a
     else(oX f [61]).bind λ_ e=>(E e).bind λx b=>
      if(cN b [44]).1=false/\(cur (cN b [44]).2).k≠5/\isS (bK (cN b [44]).2) [125]=false then .err 50 (cur (bK (cN b [44]).2)).a
      else Ar E a n (hY (if(cN b [44]).1=true then(cN b [44]).2 else bK (cN b [44]).2)) (us++[x]) (ks++[k])
def GK(E:PS->R Nat)(s:PS)(a:Int):R Ex:=Ar E a (s.toks.length+1) (hY (step1 s)) [] []
def nC(E:PS->R Nat)(s:PS):R Nat:=
 let t:=cur s
 let b:=bK s
 if t.k=2 then qS (step1 b) ⟨4,t.t,[],[],t.a⟩
 else if t.k=3 then wS E (step1 b) t
 else if t.k=1/\t.t≠tX then
  if isS (step1 b) [40]=true then
   (within (bK (step1 b)) (cur (step1 b)).a true λq=>Cx E [41] (step1 q)).bind λus c=>qS c ⟨12,t.t,us,[],t.a⟩
  else qS (bK (step1 b)) ⟨pS t.t,if pS t.t=9 then t.t else [],[],[],t.a⟩
 else if isS b [40]=true then within b t.a true λq=>(E (step1 q)).bind λx f=>(oX f [41]).bind λ_ d=>.ok x d
 else if isS b [91]=true then(within b t.a true λq=>xE E q t.a).bind λe c=>qS c e
 else if isS b [123]=true then(within b t.a false λq=>GK E q t.a).bind λe c=>qS c e
 else .err 50 t.a
def nN(E:PS->R Nat):Nat->PS->Nat->R Nat
 |0,_,_=>.err 0 0
 |n+1,s,x=>
  let t:=cur s
  let c:=bK s
  if(cN c [46]).1=true then(mT (cN c [46]).2 1).bind λu d=>(qS d ⟨10,u.t,[x],[],t.a⟩).bind λy b=>nN E n b y
  else if isS c [91]=true then
   (within c t.a true λq=>
     if(cN (step1 q) [42]).1=true then(oX (cN (step1 q) [42]).2 [93]).bind λ_ e=>.ok none e
     else(E (cN (step1 q) [42]).2).bind λy h=>(oX h [93]).bind λ_ e=>.ok (some y) e).bind λo d=>
     match o with
     |some y=>(qS d ⟨11,[],[x,y],[],t.a⟩).bind λz b=>nN E n b z
     |none=>(oX d [46]).bind λ_ b=>(mT b 1).bind λu g=>(qS g ⟨30,u.t,[x],[],t.a⟩).bind λz f=>nN E n f z
  else .ok x c
def Ct(E:PS->R Nat)(s:PS):R Nat:=(nC E s).bind λx a=>nN E (s.toks.length+1) a x
def tE(E S:PS->R Nat)(s:PS):R Nat:=
 let t:=cur s
 let b:=bK s
 if isS b [33]=true then(within b t.a b.quiet λq=>S (step1 q)).bind λx c=>qS c ⟨14,[],[x],[],t.a⟩
 else if isS b [45]=true then(within b t.a b.quiet λq=>S (step1 q)).bind λx c=>qS c ⟨13,[],[x],[],t.a⟩
 else Ct E b
def zK(n:Nat)(w:Str):Int:=
 if n=0 then(if w=[124,124]then 27 else 0)
 else if n=1 then(if w=[38,38]then 26 else 0)
 else if n=2 then(if w=[61,61]then 20 else if w=[33,61]then 21 else 0)
 else if n=3 then(if w=[60]then 22 else if w=[62]then 23 else if w=[60,61]then 24 else if w=[62,61]then 25 else 0)
 else if n=4 then(if w=[43]then 15 else if w=[45]then 16 else 0)
 else if n=5 then(if w=[42]then 17 else if w=[47]then 18 else if w=[37]then 19 else 0)
 else 0
def qI(t:Tok)(n:Nat):Int:=if t.k=4 then zK n t.t else 0
def tR(J:PS->R Nat)(n:Nat):Nat->PS->Nat->R Nat
 |0,_,_=>.err 0 0
 |f+1,s,a=>
  let t:=cur s
  if qI t n=0 then .ok a (bK s)
  else(J (step1 (bK s))).bind λb d=>(qS d ⟨qI t n,[],[a,b],[],t.a⟩).bind λx c=>tR J n f c x
def mU(E S:PS->R Nat):Nat->PS->R Nat
 |0=>tE E S
 |m+1=>λs=>(mU E S m s).bind λa b=>tR (mU E S m) (5-m) (s.toks.length+1) b a
def yF(E S:PS->R Nat)(s:PS):R Nat:=(mU E S 6 s).bind λa b=>
 let t:=cur b
 if(cN b [63]).1=true then
  (within (cN b [63]).2 t.a (cN b [63]).2.quiet λq=>(E q).bind λx f=>(oX f [58]).bind λ_ e=>(E e).bind λy d=>.ok (x,y) d).bind λz c=>qS c ⟨28,[],[a,z.1,z.2],[],t.a⟩
 else .ok a (cN b [63]).2
def dead:PS->R Nat:=λ_=>.err 0 0
def mM:Nat->(PS->R Nat)×(PS->R Nat)
 |0=>(yF dead dead,tE dead dead)
 |d+1=>(yF (mM d).1 (mM d).2,tE (mM d).1 (mM d).2)
def pL:Nat->PS->List Str->R (List Str)
 |0,_,_=>.err 0 0
 |n+1,s,ls=>
  if(cur s).k=3 then(qG (kP s) (cur s)).bind λl a=>pL n a (ls++[l])
  else .ok ls (bK s)
def vX(E B:PS->R Nat)(s:PS)(us:List Atr)(bs:List Nat):R (List Atr×List Nat):=(mT s 1).bind λt b=>
 if(cN b [61]).1=true then(E (cN b [61]).2).bind λx c=>.ok (us++[⟨t.t,x,t.a⟩],bs) c
 else(B {(cN b [61]).2 with i:=(cN b [61]).2.i-1}).bind λx c=>.ok (us,bs++[x]) c
def pD(E B:PS->R Nat):Nat->PS->List Atr->List Nat->R (List Atr×List Nat)
 |0,_,_,_=>.err 0 0
 |n+1,s,us,bs=>
  if(cN s [125]).1=true then .ok (us,bs) (cN s [125]).2
  else(vX E B (cN s [125]).2 us bs).bind λx b=>
   if(cur b).k≠5/\isS (bK b) [125]=false then .err 50 (cur (bK b)).a
   else pD E B n (hY (bK b)) x.1 x.2
def tU(E B:PS->R Nat)(s:PS):R Nat:=(mT s 1).bind λt d=>(pL (s.toks.length+1) d []).bind λls b=>
 if isS b [123]=false then .err 50 (cur b).a
 else(within (bK b) (cur b).a false λq=>pD E B (s.toks.length+1) (hY (step1 q)) [] []).bind λx c=>
  .ok c.bl.length {c with bl:=c.bl++[⟨t.t,ls,x.1,x.2,t.a⟩]}
def uN:Nat->PS->R Nat
 |0=>tU dead dead
 |d+1=>tU (mM d).1 (uN d)
def wR:Nat->PS->List Nat->R (List Nat)
 |0,_,_=>.err 0 0
 |n+1,s,top=>
  if(cur s).k=0 then .ok top (bK s)
  else(uN 24 (bK s)).bind λx b=>
   if(cur b).k≠5/\(cur b).k≠0 then .err 50 (cur (bK b)).a
   else wR n (hY (bK b)) (top++[x])
inductive PR where
 |ok (f:Fl)
 |bad (c a:Int)
deriving DecidableEq
def lS(s:Str):PR:=match mS s with
 |.bad c a=>.bad c a
 |.ok l=>match wR (l.length+1) (hY ⟨l,0,0,0,false,[],[]⟩) []with
  |.ok top s'=>.ok ⟨s'.ex,s'.bl,top⟩
  |.err c a=>.bad c a
end
end Go.Syn
namespace Go.Proofs.YtjblfcfdeaagpaaGreatDoor
section
open Go Go.Eng Go.RowKit Go.Syn Go.Lex
abbrev TkT:TypeId:=95
abbrev ExT:TypeId:=35
abbrev AtT:TypeId:=40
abbrev BkT:TypeId:=38
abbrev FlT:TypeId:=28
abbrev PsT:TypeId:=92
abbrev mA:TypeId:=3
abbrev StT:TypeId:=9
def aFJ:tV Tryz.prog 24 ExT 5 80:=⟨by kernel_rfl,by kernel_rfl,by decide⟩
def aFL:tV Tryz.prog 25 BkT 5 96:=⟨by kernel_rfl,by kernel_rfl,by decide⟩
def Mq:tV Tryz.prog 36 AtT 3 32:=⟨by kernel_rfl,by kernel_rfl,by decide⟩
def EJ:tV Tryz.prog 26 mA 1 8:=⟨by kernel_rfl,by kernel_rfl,by decide⟩
def DY:tV Tryz.prog 33 StT 1 16:=⟨by kernel_rfl,by kernel_rfl,by decide⟩
def aBT:tV Tryz.prog 86 TkT 3 32:=⟨by kernel_rfl,by kernel_rfl,by decide⟩
def ints(l:List Nat):List Value:=l.map λn=>i64 (n:Nat)
def strs(l:List Str):List Value:=l.map str
def lP(l:List Atr):List Value:=l.flatMap λa=>[str a.n,i64 (a.e:Nat),i64 a.a]
def toks(l:List Tok):List Value:=l.flatMap λt=>[i64 t.k,str t.t,i64 t.a]
def xH(l:List Nat):(ints l).length=l.length*1:=by simp[ints]
def wU(l:List Str):(strs l).length=l.length*1:=by simp[strs]
def GZ(a b:List Nat):ints (a++b)=ints a++ints b:=by simp[ints]
def zA(a b:List Str):strs (a++b)=strs a++strs b:=by simp[strs]
def Eg(a b:List Atr):lP (a++b)=lP a++lP b:=by simp[lP]
def zN{α:Type}(f:α->List Value)(h:∀a,(f a).length=3):∀l:List α,(l.flatMap f).length=l.length*3
 |[]=>rfl
 |a::l=>by rw[dC,aB,h,zN f h l,aA];omega
def zW(l:List Atr):(lP l).length=l.length*3:=zN _ (λ_=>rfl) l
def Gt(l:List Tok):(toks l).length=l.length*3:=zN _ (λ_=>rfl) l
def Ch{α:Type}(f:α->List Value)(h:∀a,(f a).length=3):∀(l:List α) (i j:Nat) (x:α),l[i]?=some x->j<3->(l.flatMap f)[i*3+j]?=(f x)[j]?
 |[],i,_,_,b,_=>by simp at b
 |a::l,0,j,x,b,c=>by
  simp only[bG,bB]at b
  subst b
  rw[dC,dR (by rw[h];omega),HP,aN]
 |a::l,i+1,j,x,b,c=>by
  rw[bI]at b
  rw[dC,dB (by rw[h];omega),h,show(i+1)*3+j-3=i*3+j by omega]
  exact Ch f h l i j x b c
def KY{l:List Tok}{t:Tok}(h:l[i]?=some t)(b:j<3):(toks l)[i*3+j]?=[i64 t.k,str t.t,i64 t.a][j]?:=Ch _ (λ_=>rfl) l i j t h b
def lV{α:Type}(R:α->List Value->Prop)(n:Nat)(xs:List α)(c:List Value):Prop:=c.length=xs.length*n/\∀i x,xs[i]?=some x->R x ((c.drop (i*n)).take n)
def lV.nil(R:α->List Value->Prop)(n:Nat):lV R n [] []:=⟨by simp,λi x h=>by simp at h⟩
def lV.snoc{R:α->List Value->Prop}{xs:List α}{c:List Value}{x:α}(h:lV R n xs c)(g:R x d)(f:d.length=n):lV R n (xs++[x]) (c++d):=by
 refine⟨by rw[aB,h.1,f,aB,aA,aD,oQ];omega,λi y a=>?_⟩;by_cases e:i<xs.length
 .rw[dR e]at a;have:=h.2 i y a;have j:i*n+n<=xs.length*n:=by rw[<-sT];exact dU _ e
  rw[EW (by rw[h.1];omega),ET (by rw[aW,h.1];omega)];exact this
 .rw[dB (by omega)]at a;have b:i-xs.length=0:=by
   by_cases b:i-xs.length=0
   .exact b
   .rw[dY (by simp;omega)]at a;cases a
  obtain rfl:i=xs.length:=by omega
  rw[b]at a;simp only[bG,bB]at a;subst a;rw[<-h.1,qB,iD (by omega)];exact g
def lV.imp{R a:α->List Value->Prop}{xs:List α}{c:List Value}(h:lV R n xs c)(f:∀x d,(∀v∈d,v∈c)->R x d->a x d):lV a n xs c:=
 ⟨h.1,λi x b=>f x _ (λv e=>List.mem_of_mem_drop (xP e)) (h.2 i x b)⟩
def ub(c:List Value):List Nat:=c.filterMap Value.ownBlock
def qE(a b:List Value):ub (a++b)=ub a++ub b:=List.filterMap_append
def eZ{c:List Value}{k:Nat}(a:v∈c)(b:v.ownBlock=some k):k∈ub c:=cA.2 ⟨v,a,b⟩
def kM{k:Nat}:k∈ub [v]↔v.ownBlock=some k:=by simp[ub]
structure Lay where
 vE:Value
 vB:Value
 vT:Value
 cE:List Value
 cB:List Value
def Lay.uses(M:Lay)(f:Nat):List Nat:=f::ub ([M.vE,M.vB,M.vT]++(M.cE++M.cB))
def ExR(w:World)(B:Nat)(e:Ex)(c:List Value):Prop:=
 ∃va vk,c=[i64 e.k,str e.t,va,vk,i64 e.a]/\Own w B mA 1 va e.args.length (ints e.args)/\Own w B StT 1 vk e.keys.length (strs e.keys)
def BkR(w:World)(B:Nat)(b:Blk)(c:List Value):Prop:=
 ∃vl va vb,c=[str b.typ,vl,va,vb,i64 b.a]/\Own w B StT 1 vl b.labels.length (strs b.labels)/\Own w B AtT 3 va b.attrs.length (lP b.attrs)/\Own w B mA 1 vb b.blocks.length (ints b.blocks)
def eJ{B:Nat}{e:TypeId}{xs:List Value}(h:Own w B e m v n xs)(d:Chg S w W)(i:∀k,v.ownBlock=some k->¬S k):Own W B e m v n xs:=by
 obtain⟨a,b|⟨g,cap,cur,rfl,f,c,r⟩⟩:=h
 .exact⟨a,.inl b⟩
 .exact⟨a,.inr ⟨g,cap,cur,rfl,f,d.at c (i g rfl),r⟩⟩
def lK{B:Nat}{e:TypeId}{xs:List Value}(h:Own w B e m v n xs){k:Nat}(a:v.ownBlock=some k):k<w.heap.size/\B<=k:=by
 obtain⟨d,c,b⟩:=h.block k a;exact⟨pC b,d⟩
def ExR.at_{B:Nat}{e:Ex}{c:List Value}(h:ExR w B e c)(b:Chg S w W)(d:∀k∈ub c,¬S k):ExR W B e c:=by
 obtain⟨va,vk,rfl,g,f⟩:=h;exact⟨va,vk,rfl,eJ g b λk a=>d k (eZ (v:=va) (by simp) a),eJ f b λk a=>d k (eZ (v:=vk) (by simp) a)⟩
def BkR.at_{B:Nat}{e:Blk}{c:List Value}(h:BkR w B e c)(b:Chg S w W)(d:∀k∈ub c,¬S k):BkR W B e c:=by
 obtain⟨vl,va,vb,rfl,i,g,f⟩:=h;exact⟨vl,va,vb,rfl,eJ i b λk a=>d k (eZ (v:=vl) (by simp) a),eJ g b λk a=>d k (eZ (v:=va) (by simp) a),eJ f b λk a=>d k (eZ (v:=vb) (by simp) a)⟩
def Gs{c:List Value}(h:∀v∈d,v∈c):∀k∈ub d,k∈ub c:=by
 intro k a;obtain⟨v,b,a⟩:=cA.1 a;exact eZ (h v b) a
structure FR(w:World)(B f:Nat)(M:Lay)(ex:List Ex)(bl:List Blk)(top:List Nat):Prop where
 hf:w.heap[f]?=some (.cells [M.vE,M.vB,M.vT].toArray FlT (0,0))
 oE:Own w B ExT 5 M.vE ex.length M.cE
 oB:Own w B BkT 5 M.vB bl.length M.cB
 oT:Own w B mA 1 M.vT top.length (ints top)
 ee:lV (ExR w B) 5 ex M.cE
 bb:lV (BkR w B) 5 bl M.cB
 nd:(M.uses f).Nodup
 lt:∀k∈M.uses f,k<w.heap.size
 lo:∀k∈M.uses f,k=f\/B<=k
def FR.keep{B f:Nat}{M:Lay}{ex:List Ex}{bl:List Blk}(h:FR w B f M ex bl u)(b:Chg S w W)(e:∀k∈M.uses f,¬S k):FR W B f M ex bl u:=by
 have i:∀v∈[M.vE,M.vB,M.vT]++(M.cE++M.cB),∀k,v.ownBlock=some k->¬S k:=λv c k a=>e k (aF _ (eZ c a));refine⟨b.at h.hf (e f bC),eJ h.oE b (i _ (by simp)),eJ h.oB b (i _ (by simp)),eJ h.oT b (i _ (by simp)),?_,?_,h.nd,λk a=>dM (h.lt k a) b.size,h.lo⟩
 .refine h.ee.imp λx d j g=>g.at_ b λk a=>?_;exact e k (aF _ (Gs (λv c=>by simp[j v c]) k a))
 .refine h.bb.imp λx d j g=>g.at_ b λk a=>?_;exact e k (aF _ (Gs (λv c=>by simp[j v c]) k a))
abbrev Of(f:Nat):Nat->Prop:=λk=>k=f
abbrev One(b:Nat):Nat->Prop:=λk=>k=b
structure PR(w0 w:World)(p f:Nat)(M:Lay)(vt:Value)(s:PS)(top:List Nat):Prop where
 ch:Chg (Of f) w0 w
 fr:FR w w0.heap.size f M s.ex s.bl top
 ps:w.heap[p]?=some (.cells [vt,i64 (s.i:Nat),i64 s.off,.pointer (some ⟨f,0,none⟩),i64 (s.deep:Nat),.bool s.quiet].toArray PsT (0,0))
 tk:SlAt w TkT vt s.toks.length (toks s.toks)
 np:p∉M.uses f
 lo:w0.heap.size<=p
 nt:∀k,vt.ownBlock=some k->k∉M.uses f/\k≠p/\k<w.heap.size
section
variable{w0 w w' w1 w2:World}{p f b k:Nat}{M M' M1 M2:Lay}{vt:Value}{s:PS}{top:List Nat}
def PR.lt(h:PR w0 w p f M vt s top):p<w.heap.size:=pC h.ps
def PR.base(h:PR w0 w p f M vt s top):w0.heap.size<=w.heap.size:=h.ch.size
def Tn(p f:Nat)(M:Lay)(k:Nat):Prop:=k=p\/k=f\/M.vE.ownBlock=some k\/M.vB.ownBlock=some k
structure Eff(p f:Nat)(M M':Lay)(w w':World):Prop where
 chg:Chg (Tn p f M) w w'
 us:∀k∈M'.uses f,k∈M.uses f\/w.heap.size<=k
 hE:∀k,M'.vE.ownBlock=some k->M.vE.ownBlock=some k\/w.heap.size<=k
 hB:∀k,M'.vB.ownBlock=some k->M.vB.ownBlock=some k\/w.heap.size<=k
 hT:M'.vT=M.vT
def Eff.of(h:Chg (Tn p f M) w W):Eff p f M M w W:=⟨h,λ_ h=>.inl h,λ_ h=>.inl h,λ_ h=>.inl h,rfl⟩
def Eff.refl(p f:Nat)(M:Lay)(w:World):Eff p f M M w w:=Eff.of (Chg.refl _ _)
def Eff.ext(h:Ext w W):Eff p f M M w W:=Eff.of (Chg.of_ext h)
def Eff.trans(h:Eff p f M M1 w w1)(b:Eff p f M1 M2 w1 w2):Eff p f M M2 w w2:=by
 have c:=h.chg.size;refine⟨h.chg.then b.chg λk a e=>?_,λk a=>?_,λk a=>?_,λk a=>?_,b.hT.trans h.hT⟩
 .rcases e with e|e|e|e
  .exact .inl e
  .exact .inr (.inl e)
  .exact .inr (.inr (.inl ((h.hE k e).resolve_right (by omega))))
  .exact .inr (.inr (.inr ((h.hB k e).resolve_right (by omega))))
 .exact(b.us k a).elim (h.us k) λe=>.inr (by omega)
 .exact(b.hE k a).elim (h.hE k) λe=>.inr (by omega)
 .exact(b.hB k a).elim (h.hB k) λe=>.inr (by omega)
def Eff.then(h:Eff p f M M1 w w1)(b:Chg S w1 w2)(c:∀k,k<w.heap.size->¬S k):Eff p f M M1 w w2:=⟨h.chg.then b λk a e=>(c k a e).elim,h.us,h.hE,h.hB,h.hT⟩
def Eff.x(h:Eff p f M M1 w w1)(a:Ext w1 w2):Eff p f M M1 w w2:=h.then a λ_ _ e=>e
def Eff.one(h:Eff p f M M1 w w1)(a:Chg (One b) w1 w2)(d:w.heap.size<=b):Eff p f M M1 w w2:=h.then a λk c e=>by have e:k=b:=e;omega
def Eff.anew(b:Ext w0 w)(h:Eff q f M M' w W)(d:w0.heap.size<=q):Eff p f M M' w0 W:=by
 have c:=b.size;refine⟨(Chg.of_ext b).then h.chg λk a e=>?_,λk a=>(h.us k a).imp id (by omega),λk a=>(h.hE k a).imp id (by omega),λk a=>(h.hB k a).imp id (by omega),h.hT⟩;rcases e with e|e|e|e
 .omega
 .exact .inr (.inl e)
 .exact .inr (.inr (.inl e))
 .exact .inr (.inr (.inr e))
def Nq(h:Tn p f M k):k=p\/k∈M.uses f:=by
 rcases h with h|h|h|h
 .exact .inl h
 .exact .inr (by subst h;exact bC)
 .exact .inr (aF _ (eZ (v:=M.vE) (by simp) h))
 .exact .inr (aF _ (eZ (v:=M.vB) (by simp) h))
def Off(w0 w:World)(p f:Nat)(M:Lay)(vt:Value)(k:Nat):Prop:=(w0.heap.size<=k/\k<w.heap.size)/\k≠p/\k∉M.uses f/\vt.ownBlock≠some k
def Off.no(h:Off w0 w p f M vt k):¬Tn p f M k:=λe=>(Nq e).elim h.2.1 h.2.2.1
def Off.eff(h:Off w0 w p f M vt k)(a:Eff p f M M' w W):Off w0 W p f M' vt k:=
 ⟨⟨h.1.1,dM h.1.2 a.chg.size⟩,h.2.1,λe=>(a.us k e).elim h.2.2.1 λe=>by have:=h.1.2;omega,h.2.2.2⟩
def Off.up(h:Off w0 w p f M vt k)(a:w.heap.size<=W.heap.size):Off w0 W p f M vt k:=⟨⟨h.1.1,dM h.1.2 a⟩,h.2⟩
def PR.off_new(h:PR w0 w p f M vt s top)(b:w.heap.size<=k)(a:k<W.heap.size):Off w0 W p f M vt k:=
 ⟨⟨dN h.base b,a⟩,λe=>by have:=h.lt;omega,λe=>by have:=h.fr.lt k e;omega,λe=>by have:=(h.nt k e).2.2;omega⟩
def Eff.at_{o:Obj}(b:Eff p f M M' w W)(a:w.heap[k]?=some o)(h:Off w0 w p f M vt k):W.heap[k]?=some o:=b.chg.at a h.no
def Eff.own{B:Nat}{e:TypeId}{xs:List Value}(c:Eff p f M M' w W)(h:Own w B e m v n xs)(a:∀k,v.ownBlock=some k->Off w0 w p f M vt k):Own W B e m v n xs:=eJ h c.chg λk b=>(a k b).no
def PR.keep(h:PR w0 w p f M vt s top)(d:Chg S w W)(j:∀k,k<w0.heap.size->¬S k)(r:∀k∈M.uses f,¬S k)(o:¬S p)(n:∀k,vt.ownBlock=some k->¬S k):PR w0 W p f M vt s top:=by
 refine⟨h.ch.then d λk a e=>(j k a e).elim,h.fr.keep d r,d.at h.ps o,?_,h.np,h.lo,λk a=>⟨(h.nt k a).1,(h.nt k a).2.1,dM (h.nt k a).2.2 d.size⟩⟩;obtain⟨q,cap,l,v,u,t⟩:=h.tk;refine⟨q,cap,l,v,u,λg=>?_⟩;obtain⟨b,off,c,fr,m,j,i⟩:=t g;exact⟨b,off,c,fr,m,d.at j (n b (by rw[l,m];rfl)),i⟩
def PR.ext(h:PR w0 w p f M vt s top)(a:Ext w W):PR w0 W p f M vt s top:=h.keep a (λ_ _ e=>e) (λ_ _ e=>e) (λe=>e) λ_ _ e=>e
def cQ(w:World):Ext w w.drew:=Chg.drew (Chg.refl _ _)
def PR.drew(h:PR w0 w p f M vt s top):PR w0 w.drew p f M vt s top:=h.ext (cQ w)
def PR.one{d:World}(h:PR w0 w p f M vt s top)(g:Chg (One b) w W)(a:Off w0 d p f M vt b):PR w0 W p f M vt s top:=
 h.keep g (λk c e=>by have e:k=b:=e;have:=a.1.1;omega) (λk c e=>a.2.2.1 (by have e:k=b:=e;exact e▸c)) (λe=>a.2.1 e.symm) λk c e=>a.2.2.2 (by have e:k=b:=e;rw[c,e])
def PR.ld{off:Nat}{K:Value->Prop}(h:PR w0 w p f M vt s top)(a:[vt,i64 (s.i:Nat),i64 s.off,.pointer (some ⟨f,0,none⟩),i64 (s.deep:Nat),.bool s.quiet][off]?=some v)(b:K v):
  fA (.pointer (some ⟨p,0,none⟩)) λt=>bF off t λt=>ldW false 1 t w K:=by
 rw[dJ,bH,fB];refine⟨v,?_,b⟩;rw[bN,cS,h.ps,bT,aN];simpa using a
def PR.self{s':PS}(h:PR w0 w p f M vt s top)(d:Chg (One p) w W)(l:W.heap[p]?=some (.cells [vt,i64 (s'.i:Nat),i64 s'.off,.pointer (some ⟨f,0,none⟩),i64 (s'.deep:Nat),.bool s'.quiet].toArray PsT (0,0)))
  (t:s'.toks=s.toks)(r:s'.ex=s.ex)(o:s'.bl=s.bl):PR w0 W p f M vt s' top:=by
 refine⟨h.ch.then d λk a e=>(by have e:k=p:=e;have:=h.lo;omega),by rw[r,o];exact h.fr.keep d λk a e=>h.np (by have e:k=p:=e;exact e▸a),l,?_,h.np,h.lo,λk a=>⟨(h.nt k a).1,(h.nt k a).2.1,dM (h.nt k a).2.2 d.size⟩⟩;rw[t];obtain⟨q,cap,m,g1,g2,g3⟩:=h.tk;refine⟨q,cap,m,g1,g2,λg=>?_⟩;obtain⟨b,off,c,fr,n,l,j⟩:=g3 g;exact⟨b,off,c,fr,n,d.at l ((h.nt b (by rw[m,n];rfl)).2.1),j⟩
def Hr(a:Chg (One p) w W):Eff p f M M w W:=Eff.of (a.mono λk _ e=>.inl e)
def PR.st_i{K:World->Prop}(h:PR w0 w p f M vt s top)(d:∀W,PR w0 W p f M vt {s with i:=i} top->Eff p f M M w W->W.heap.size=w.heap.size->K W):
  fA (.pointer (some ⟨p,0,none⟩)) λt=>bF 1 t λt=>stW 1 t (i64 (i:Nat)) w K:=by
 rw[dJ,bH,bN,aN];refine lJ h.ps rfl (by simp) λW b c a=>d W (h.self a (by rw[c];simp) rfl rfl rfl) (Hr a) b
def PR.st_deep{K:World->Prop}(h:PR w0 w p f M vt s top)(d:∀W,PR w0 W p f M vt {s with deep:=i} top->Eff p f M M w W->W.heap.size=w.heap.size->K W):
  fA (.pointer (some ⟨p,0,none⟩)) λt=>bF 4 t λt=>stW 1 t (i64 (i:Nat)) w K:=by
 rw[dJ,bH,bN,aN];refine lJ h.ps rfl (by simp) λW b c a=>d W (h.self a (by rw[c];simp) rfl rfl rfl) (Hr a) b
def PR.st_quiet{q:Bool}{K:World->Prop}(h:PR w0 w p f M vt s top)(d:∀W,PR w0 W p f M vt {s with quiet:=q} top->Eff p f M M w W->W.heap.size=w.heap.size->K W):
  fA (.pointer (some ⟨p,0,none⟩)) λt=>bF 5 t λt=>stW 1 t (.bool q) w K:=by
 rw[dJ,bH,bN,aN];refine lJ h.ps rfl (by simp) λW b c a=>d W (h.self a (by rw[c];simp) rfl rfl rfl) (Hr a) b
def PR.go{K:World->Prop}(h:PR w0 w p f M vt s top)(b:s.i<=1000000)(a:∀W,PR w0 W p f M vt (step1 s) top->Eff p f M M w W->W.heap.size=w.heap.size->K W):
  fA (.pointer (some ⟨p,0,none⟩)) λt=>bF 1 t λt=>ldW false 1 t w λt=>aS .add t (.int .i64 1) λt1=>fA (.pointer (some ⟨p,0,none⟩)) λt=>bF 1 t λt=>stW 1 t t1 w K:=by
 refine h.ld rfl ?_;rw[cP,fZ (by omega) (by omega)];exact h.st_i (i:=s.i+1) a
def Loc(w0 w:World)(p f:Nat)(M:Lay)(vt:Value)(b:Nat)(T:TypeId)(cs:List Value):Prop:=w.heap[b]?=some (.cells cs.toArray T (0,0))/\Off w0 w p f M vt b
variable{T:TypeId}{cs:List Value}
def Loc.eff(h:Loc w0 w p f M vt b T cs)(a:Eff p f M M' w W):Loc w0 W p f M' vt b T cs:=⟨a.at_ h.1 h.2,h.2.eff a⟩
def Loc.ext(h:Loc w0 w p f M vt b T cs)(a:Ext w W):Loc w0 W p f M vt b T cs:=h.eff (Eff.ext a)
def Loc.drew(h:Loc w0 w p f M vt b T cs):Loc w0 w.drew p f M vt b T cs:=h.ext (cQ w)
def Loc.one(h:Loc w0 w p f M vt b T cs)(a:Chg (One i) w W)(c:b≠i):Loc w0 W p f M vt b T cs:=⟨a.at h.1 c,h.2.up a.size⟩
def Loc.lt(h:Loc w0 w p f M vt b T cs):b<w.heap.size:=h.2.1.2
def Loc.ld{off:Nat}{K:Value->Prop}(h:Loc w0 w p f M vt b T cs)(a:cs[off]?=some v)(c:K v):ldW false 1 (.pointer (some ⟨b,off,none⟩)) w K:=by
 rw[fB];refine⟨v,?_,c⟩;rw[cS,h.1,bT];simpa using a
def Loc.ldf{off:Nat}{K:Value->Prop}(h:Loc w0 w p f M vt b T cs)(a:cs[off]?=some v)(c:K v):bF off (.pointer (some ⟨b,0,none⟩)) λt=>ldW false 1 t w K:=by
 rw[bH,bN,aN];exact h.ld a c
def Loc.st{off:Nat}{K:World->Prop}(h:Loc w0 w p f M vt b T cs)(i:kJ v=true)(a:off<cs.length)
  (g:∀W,Loc w0 W p f M vt b T (cs.set off v)->Chg (One b) w W->W.heap.size=w.heap.size->K W):stW 1 (.pointer (some ⟨b,off,none⟩)) v w K:=
 lJ h.1 i (by simpa using a) λW c e d=>g W ⟨by rw[e];simp,h.2.up (by omega)⟩ d c
def PR.loc(h:PR w0 w p f M vt s top)(c:W.heap.size=w.heap.size+1){b:Nat}(d:b=w.heap.size)(a:W.heap[b]?=some (.cells cs.toArray T (0,0))):Loc w0 W p f M vt b T cs:=⟨a,h.off_new (by omega) (by omega)⟩
end
end
end Go.Proofs.YtjblfcfdeaagpaaGreatDoor
namespace Go.Syn
section
open Go Go.Eng Go.Lex
def pM(k:Nat)(h:s.length<=n):(s.drop k).length<=n:=by rw[aW];omega
theorem Qa:∀(N:Nat) (r:Str),r.length<=N->(∀m m' c,r.length<m->r.length<m'->Ed m r c=Ed m' r c)/\(∀m m',r.length<m->r.length<m'->Dm m r=Dm m' r):=by
 intro N;induction N with
 |zero=>
  intro r b;have:r=[]:=cW (by omega);subst this;refine⟨λm m' c h a=>?_,λm m' h a=>?_⟩
  .obtain⟨m,rfl⟩:∃k,m=k+1:=⟨m-1,by simp at h;omega⟩;obtain⟨m',rfl⟩:∃k,m'=k+1:=⟨m'-1,by simp at a;omega⟩;rfl
  .obtain⟨m,rfl⟩:∃k,m=k+1:=⟨m-1,by simp at h;omega⟩;obtain⟨m',rfl⟩:∃k,m'=k+1:=⟨m'-1,by simp at a;omega⟩;rfl
 |succ N ih=>
  intro r b;cases r with
  |nil=>exact⟨λm m' c h a=>(ih [] (by simp)).1 m m' c h a,λm m' h a=>(ih [] (by simp)).2 m m' h a⟩
  |cons c r=>
   simp only[aA]at b;have b:r.length<=N:=by omega
   refine⟨λm m' d h a=>?_,λm m' h a=>?_⟩
   .obtain⟨m,rfl⟩:∃k,m=k+1:=⟨m-1,by simp at h;omega⟩;obtain⟨m',rfl⟩:∃k,m'=k+1:=⟨m'-1,by simp at a;omega⟩;simp only[aA]at h a;have i:=λd=>(ih r b).1 m m' d (by omega) (by omega);have f:=(ih r b).2 m m' (by omega) (by omega);have g:=λk d=>(ih (r.drop k) (pM k b)).1 m m' d (by rw[aW];omega) (by rw[aW];omega);simp only[Ed,i,f,g]
   .obtain⟨m,rfl⟩:∃k,m=k+1:=⟨m-1,by simp at h;omega⟩;obtain⟨m',rfl⟩:∃k,m'=k+1:=⟨m'-1,by simp at a;omega⟩;simp only[aA]at h a;have i:=λd=>(ih r b).1 m m' d (by omega) (by omega);have f:=(ih r b).2 m m' (by omega) (by omega);have g:=λk=>(ih (r.drop k) (pM k b)).2 m m' (by rw[aW];omega) (by rw[aW];omega);cases r with
    |nil=>simp only[Dm,i,f,g]
    |cons e r'=>
     have j:=(ih r' (by simp at b;omega)).2 m m' (by simp at h;omega) (by simp at a;omega);simp only[Dm,i,g,f,j]
def qY(r:Str)(c:Int):Nat:=Ed (r.length+1) r c
def tB(r:Str):Nat:=Dm (r.length+1) r
def HA{r:Str}{c:Int}(h:r.length<m):Ed m r c=qY r c:=(Qa r.length r (aQ _)).1 _ _ _ h (rI _)
def JK{r:Str}(h:r.length<m):Dm m r=tB r:=(Qa r.length r (aQ _)).2 _ _ h (rI _)
def AD{r:Str}(k:Nat)(h:r.length<m):(r.drop k).length<m:=by rw[aW];omega
def Vw(c:Int):qY [] c=0:=rfl
def mL(c:UInt8)(r:Str)(d:Int):qY (c::r) d=if c=123 then 1+qY r (d+1)else if c=125 then(if d-1=0 then 1 else 1+qY r (d-1))else if c=34 then(1+tB r)+qY (r.drop (tB r)) d else 1+qY r d:=by
 have h:r.length<(c::r).length:=by simp
 show Ed ((c::r).length+1) (c::r) d=_;rw[Ed,JK h];rw[HA h,HA h,HA h,HA (AD _ h)]
def Ty:tB []=0:=rfl
def uJ(c:UInt8)(r:Str):tB (c::r)=if c=34 then 1 else if c=92 then(match r with|[]=>1|_::r'=>2+tB r')else if qF [36,123] (c::r)=true then(1+qY r 0)+tB (r.drop (qY r 0))else 1+tB r:=by
 cases r with
 |nil=>rfl
 |cons e r'=>
  have h:(e::r').length<(c::e::r').length:=by simp
  have b:r'.length<(c::e::r').length:=by simp;omega
  have a:∀k,Dm (c::e::r').length ((e::r').drop k)=tB ((e::r').drop k):=λk=>JK (AD k h);show Dm ((c::e::r').length+1) (c::e::r')=_;rw[Dm.eq_def];simp only[JK h,HA h,JK b,a]
theorem PZ:∀(N:Nat) (r:Str),r.length<=N->(∀m m' d,r.length<m->r.length<m'->sD m r d=sD m' r d)/\(∀m m' d,r.length<m->r.length<m'->DN m r d=DN m' r d):=by
 intro N;induction N with
 |zero=>
  intro r b;have:r=[]:=cW (by omega);subst this;refine⟨λm m' d h a=>?_,λm m' d h a=>?_⟩
  .obtain⟨m,rfl⟩:∃k,m=k+1:=⟨m-1,by simp at h;omega⟩;obtain⟨m',rfl⟩:∃k,m'=k+1:=⟨m'-1,by simp at a;omega⟩;rfl
  .obtain⟨m,rfl⟩:∃k,m=k+1:=⟨m-1,by simp at h;omega⟩;obtain⟨m',rfl⟩:∃k,m'=k+1:=⟨m'-1,by simp at a;omega⟩;rfl
 |succ N ih=>
  intro r b;cases r with
  |nil=>exact⟨λm m' d h a=>(ih [] (by simp)).1 m m' d h a,λm m' d h a=>(ih [] (by simp)).2 m m' d h a⟩
  |cons c r=>
   simp only[aA]at b;have b:r.length<=N:=by omega
   refine⟨λm m' d h a=>?_,λm m' d h a=>?_⟩
   .obtain⟨m,rfl⟩:∃k,m=k+1:=⟨m-1,by simp at h;omega⟩;obtain⟨m',rfl⟩:∃k,m'=k+1:=⟨m'-1,by simp at a;omega⟩;simp only[aA]at h a;have f:=λd=>(ih r b).1 m m' d (by omega) (by omega);have g:=λk d=>(ih (r.drop k) (pM k b)).2 m m' d (by rw[aW];omega) (by rw[aW];omega);have i:=λk j d=>(ih ((r.drop k).drop j) (pM j (pM k b))).1 m m' d (by rw[aW,aW];omega) (by rw[aW,aW];omega);cases r with
    |nil=>simp only[sD,f,g,i]
    |cons e r'=>
     have l:=λd=>(ih r' (by simp at b;omega)).1 m m' d (by simp at h;omega) (by simp at a;omega);simp only[sD,f,g,i,l]
   .obtain⟨m,rfl⟩:∃k,m=k+1:=⟨m-1,by simp at h;omega⟩;obtain⟨m',rfl⟩:∃k,m'=k+1:=⟨m'-1,by simp at a;omega⟩;simp only[aA]at h a;have f:=λd=>(ih r b).1 m m' d (by omega) (by omega);have g:=λd=>(ih r b).2 m m' d (by omega) (by omega);have i:=λk d=>(ih (r.drop k) (pM k b)).2 m m' d (by rw[aW];omega) (by rw[aW];omega);simp only[DN,f,g,i]
def jC(r:Str)(d:Nat):Nat×Int:=sD (r.length+1) r d
def mP(r:Str)(d:Nat):Nat×Int:=DN (r.length+1) r d
def uQ{r:Str}{d:Nat}(h:r.length<m):sD m r d=jC r d:=(PZ r.length r (aQ _)).1 _ _ _ h (rI _)
def On{r:Str}{d:Nat}(h:r.length<m):DN m r d=mP r d:=(PZ r.length r (aQ _)).2 _ _ _ h (rI _)
def uF(d:Nat):jC [] d=(0,40):=rfl
def Hb(d:Nat):mP [] d=(0,40):=rfl
def mX(c:UInt8)(r:Str)(d:Nat):jC (c::r) d=if c==34 then(1,0)else if c==10 then(0,40)else if c==92 then(match r with|[]=>(0,40)|e::r'=>if Lex.escOk e then nJ 2 (jC r' d)else(0,40))
  else if qF [36,123] (c::r)then(if 24<d+1 then(0,7)else if(mP (r.drop 1) (d+1)).2=0 then nJ ((mP (r.drop 1) (d+1)).1+2) (jC ((r.drop 1).drop (mP (r.drop 1) (d+1)).1) d)else(0,(mP (r.drop 1) (d+1)).2))else nJ 1 (jC r d):=by
 cases r with
 |nil=>rfl
 |cons e r'=>
  have h:(e::r').length<(c::e::r').length:=by simp
  have f:r'.length<(c::e::r').length:=by simp;omega
  have a:∀k d,DN (c::e::r').length ((e::r').drop k) d=mP ((e::r').drop k) d:=λk d=>On (AD k h);have b:∀k j d,sD (c::e::r').length (((e::r').drop k).drop j) d=jC (((e::r').drop k).drop j) d:=λk j d=>uQ (AD j (AD k h));show sD ((c::e::r').length+1) (c::e::r') d=_;rw[sD.eq_def];simp only[uQ h,uQ f,a,b]
def sX(c:UInt8)(r:Str)(d:Nat):mP (c::r) d=if c==125 then(1,0)else if c==10 then(0,40)else if c==123 then(if 24<d+1 then(0,7)else if(mP r (d+1)).2=0 then nJ ((mP r (d+1)).1+1) (mP (r.drop (mP r (d+1)).1) d)else(0,(mP r (d+1)).2))
  else if c==34 then(if(jC r d).2=0 then nJ ((jC r d).1+1) (mP (r.drop (jC r d).1) d)else(0,(jC r d).2))else nJ 1 (mP r d):=by
 have h:r.length<(c::r).length:=by simp
 have a:∀k d,DN (c::r).length (r.drop k) d=mP (r.drop k) d:=λk d=>On (AD k h);show DN ((c::r).length+1) (c::r) d=_;rw[DN.eq_def];simp only[On h,uQ h,a]
def qU{k:Nat}{r:Nat×Int}(h:nJ k r=(n,0)):r=(n-k,0)/\k<=n:=by
 obtain⟨a,b⟩:=r;unfold nJ at h;split at h
 .rename_i e;simp only at e;subst e;injection h with d _
  subst d;exact⟨by simp,by omega⟩
 .rename_i e;injection h with _ c
  exact absurd c e
theorem mV:∀(N:Nat) (r:Str),r.length<=N->
  (∀d k,jC r d=(k,0)->tB r=k/\1<=k/\k<=r.length)/\
  (∀d k,mP r d=(k,0)->(1<=k/\k<=r.length)/\∀c:Int,1<=c->qY r c=if c=1 then k else k+qY (r.drop k) (c-1)):=by
 intro N;induction N with
 |zero=>
  intro r i;have:r=[]:=cW (by omega);subst this;refine⟨λd k h=>?_,λd k h=>?_⟩
  .rw[uF]at h;cases h
  .rw[Hb]at h;cases h
 |succ N ih=>
  intro r i;cases r with
  |nil=>exact ih [] (by simp)
  |cons c r=>
   simp only[aA]at i;have i:r.length<=N:=by omega
   refine⟨λd k h=>?_,λd k h=>?_⟩
   .rw[mX]at h;rw[uJ];simp only[iU]at h;split at h
    .rename_i e;rw[aO e];injection h with b _
     subst b;simp
    rename_i e;rw[aE e];split at h
    .cases h
    split at h
    .rename_i m;rw[aO m];cases r with
     |nil=>cases h
     |cons x r'=>
      simp only at h⊢;split at h
      .obtain⟨b,f⟩:=qU h;obtain⟨q,s,p⟩:=(ih r' (by simp at i;omega)).1 d _ b;simp only[aA];omega
      .cases h
    rename_i m;rw[aE m];split at h
    .rename_i l;rw[aO l];split at h
     .cases h
     split at h
     .rename_i g;obtain⟨b,f⟩:=qU h;cases r with
      |nil=>simp[qF]at l
      |cons x r'=>
       have y:x=123:=by
        simp[qF]at l;exact l.2.symm
       subst y;simp only[dI,dZ]at b f g;have o:r'.length<=N:=by simp at i;omega
       obtain⟨⟨A,b2⟩,v⟩:=(ih r' o).2 (d+1) (mP r' (d+1)).1 (kG rfl g);have w:=v 1 (by omega);rw[aO rfl]at w;have u:qY (123::r') 0=1+(mP r' (d+1)).1:=by
        rw[mL,aO rfl];show 1+qY r' (0+1)=_;rw[show(0:Int)+1=1 from rfl,w]
       rw[u];have t:(123::r').drop (1+(mP r' (d+1)).1)=r'.drop (mP r' (d+1)).1:=by rw[nX];rfl
       rw[t];obtain⟨q,s,p⟩:=(ih (r'.drop (mP r' (d+1)).1) (pM _ o)).1 d _ b;rw[aW]at p;simp only[aA];omega
     .rename_i g;injection h with _ f
      exact absurd f g
    .rename_i l;rw[aE l];obtain⟨b,f⟩:=qU h;obtain⟨q,s,p⟩:=(ih r i).1 d _ b;simp only[aA];omega
   .rw[sX]at h;simp only[iU]at h;split at h
    .rename_i e;injection h with b _
     subst b;refine⟨by simp,λcc n=>?_⟩;rw[mL,aE (by rw[e];decide),aO e];by_cases b:cc=1
     .subst b;simp
     .rw[aE (by omega),aE b];rfl
    rename_i e;split at h
    .cases h
    rename_i z;split at h
    .rename_i m;split at h
     .cases h
     split at h
     .rename_i g;obtain⟨b,f⟩:=qU h;obtain⟨⟨A,b2⟩,v⟩:=(ih r i).2 (d+1) (mP r (d+1)).1 (kG rfl g);obtain⟨⟨f1,f2⟩,f3⟩:=(ih (r.drop (mP r (d+1)).1) (pM _ i)).2 d _ b;rw[aW]at f2;refine⟨by simp only[aA];omega,λcc n=>?_⟩;rw[mL,aO m,v (cc+1) (by omega),aE (by omega),show cc+1-1=cc from by omega,f3 cc n];by_cases a:cc=1
      .rw[aO a,aO a];omega
      .rw[aE a,aE a,jI];have:(c::r).drop k=r.drop (k-1):=by
        obtain⟨j,rfl⟩:∃j,k=j+1:=⟨k-1,by omega⟩;rfl
       rw[this,show(mP r (d+1)).1+(k-((mP r (d+1)).1+1))=k-1 from by omega];omega
     .rename_i g;injection h with _ f
      exact absurd f g
    rename_i m;split at h
    .rename_i l;split at h
     .rename_i g;obtain⟨b,f⟩:=qU h;obtain⟨q,s,p⟩:=(ih r i).1 d (jC r d).1 (kG rfl g);obtain⟨⟨f1,f2⟩,f3⟩:=(ih (r.drop (jC r d).1) (pM _ i)).2 d _ b;rw[aW]at f2;refine⟨by simp only[aA];omega,λcc n=>?_⟩;rw[mL,aE m,aE e,aO l,q,f3 cc n];by_cases a:cc=1
      .rw[aO a,aO a];omega
      .rw[aE a,aE a,jI];have:(c::r).drop k=r.drop (k-1):=by
        obtain⟨j,rfl⟩:∃j,k=j+1:=⟨k-1,by omega⟩;rfl
       rw[this,show(jC r d).1+(k-((jC r d).1+1))=k-1 from by omega];omega
     .rename_i g;injection h with _ f
      exact absurd f g
    .rename_i l;obtain⟨b,f⟩:=qU h;obtain⟨⟨f1,f2⟩,f3⟩:=(ih r i).2 d _ b;refine⟨by simp only[aA];omega,λcc n=>?_⟩;rw[mL,aE m,aE e,aE l,f3 cc n];by_cases a:cc=1
     .rw[aO a,aO a];omega
     .rw[aE a,aE a];have:(c::r).drop k=r.drop (k-1):=by
       obtain⟨j,rfl⟩:∃j,k=j+1:=⟨k-1,by omega⟩;rfl
      rw[this];omega
structure eX(L:List (List Nat))(roots:List Nat):Prop where
 ahead:∀(i:Nat) (us:List Nat),L[i]?=some us->∀a∈us,a<i
 once:∀j,j<L.length->L.flatten.count j+roots.count j=1
 low:∀r∈roots,r<L.length
def eX.perm{L:List (List Nat)}{r r':List Nat}(h:eX L r)(a:r.Perm r'):eX L r':=
 ⟨h.ahead,λj c=>by rw[<-a.count_eq];exact h.once j c,λx b=>h.low x (a.mem_iff.2 b)⟩
def eX.nil:eX [] []:=⟨λi us h=>by simp at h,λj a=>by simp at a,λr h=>by simp at h⟩
def eX.flat_lt{L:List (List Nat)}{r:List Nat}(h:eX L r):∀x∈L.flatten,x<L.length:=by
 intro x d;obtain⟨us,b,a⟩:=yS.1 d;obtain⟨i,c⟩:=nK b;have f:=h.ahead i us c x a;have e:=(bJ.1 c).1;omega
def eX.put{L:List (List Nat)}{roots:List Nat}(h:eX L (u++roots)):eX (L++[u]) (L.length::roots):=by
 refine⟨λi bs b=>?_,λj g=>?_,λr d=>?_⟩
 .by_cases e:i<L.length
  .rw[dR e]at b;exact h.ahead i bs b
  .rw[dB (by omega)]at b;have:i-L.length=0:=by
    by_cases m:i-L.length=0
    .exact m
    .rw[dY (by simp;omega)]at b;cases b
   rw[this]at b;simp only[bG,bB]at b;subst b;intro a k;have:=h.low a (cH _ k);omega
 .rw[Ab,lT];simp only[iG,List.flatten_nil,dL,AM];by_cases e:j<L.length
  .have l:=h.once j e;rw[lT]at l;have:(L.length==j)=false:=by simp;omega
   rw[this];simp only[rV,vJ];omega
  .have f:j=L.length:=by rw[aB,aA,aD]at g;omega
   subst f;have p:L.flatten.count L.length=0:=AQ.2 λc=>by have:=h.flat_lt _ c;omega
   have o:u.count L.length=0:=AQ.2 λc=>by have:=h.low _ (cH _ c);omega
   have n:roots.count L.length=0:=AQ.2 λc=>by have:=h.low _ (bR _ c);omega
   rw[p,o,n];simp
 .rw[aB,aA,aD];rcases aX.1 d with rfl|d
  .omega
  .have:=h.low r (bR _ d);omega
abbrev exL(ex:List Ex):List (List Nat):=ex.map (·.args)
def Hm{ex:List Ex}{e:Ex}{roots:List Nat}(h:eX (exL ex) (e.args++roots)):eX (exL (ex++[e])) (ex.length::roots):=by
 have:=h.put;rw[cK]at this;simpa[exL]using this
def Sat{α:Type}(r:R α)(P:α->PS->Prop)(Q:Int->Prop):Prop:=match r with
 |.ok x s=>P x s
 |.err _ a=>Q a
def Sat.bind{r:R α}{f:α->PS->R β}{P:α->PS->Prop}{b:β->PS->Prop}{Q:Int->Prop}(h:Sat r P Q)(d:∀x s,P x s->Sat (f x s) b Q):Sat (r.bind f) b Q:=by
 cases r with
 |ok x s=>exact d x s h
 |err c a=>exact h
def Sat.mono{r:R α}{P b:α->PS->Prop}{Q:Int->Prop}(h:Sat r P Q)(d:∀x s,P x s->b x s):Sat r b Q:=by
 cases r with
 |ok x s=>exact d x s h
 |err c a=>exact h
def KP(N a:Int)(t:Str):Prop:=insP t=none\/a+t.length+2<=N
structure TG(N off:Int)(l:List Tok):Prop where
 ne:l≠[]
 pos:∀i t,l[i]?=some t->0<=t.a+off/\t.a+off<=N/\(t.k≠0->t.a+off<N)/\(t.k=3->KP N (t.a+off) t.t)/\(t.k=1->t.t≠[])/\(i+1=l.length->t.k=0)
structure WS(N:Int)(s:PS):Prop where
 tg:TG N s.off s.toks
 lt:s.i<s.toks.length
 pN:0<=N
structure Go1(N:Int)(s s':PS):Prop where
 toks:s'.toks=s.toks
 off:s'.off=s.off
 deep:s'.deep=s.deep
 quiet:s'.quiet=s.quiet
 le:s.i<=s'.i
 lt:s'.i<s'.toks.length
 exs:∀e∈s'.ex,e∈s.ex\/(0<=e.a/\e.a<N)
def Go1.trans{N:Int}{s s1 b:PS}(h:Go1 N s s1)(a:Go1 N s1 b):Go1 N s b:=
 ⟨a.toks.trans h.toks,a.off.trans h.off,a.deep.trans h.deep,a.quiet.trans h.quiet,dN h.le a.le,a.lt,λe c=>(a.exs e c).elim (h.exs e) .inr⟩
def Go1.refl{N:Int}{s:PS}(h:WS N s):Go1 N s s:=⟨rfl,rfl,rfl,rfl,aQ _,h.lt,λ_ a=>.inl a⟩
def Go1.ws{N:Int}{s s':PS}(h:Go1 N s s')(a:WS N s):WS N s':=⟨by rw[h.toks,h.off];exact a.tg,h.lt,a.pN⟩
def AV{N:Int}{s:PS}(h:WS N s)(d:Nat)(q:Bool):WS N {s with deep:=d,quiet:=q}:=⟨h.tg,h.lt,h.pN⟩
def GU:∀{l:List Tok},l≠[]->(∀t,l.getLast?=some t->t.k≠5)->kK l<l.length
 |[],h,_=>absurd rfl h
 |[t],_,h=>by
  have:=h t rfl
  simp[kK,this]
 |t::u::r,_,h=>by
  have a:=GU (l:=u::r) (by simp) (λx b=>h x (by simpa using b))
  simp only[kK,aA]at a⊢
  split<;>omega
def TG.last{N off:Int}{l:List Tok}(h:TG N off l)(c:i<l.length):kK (l.drop i)<l.length-i:=by
 have b:l.drop i≠[]:=λe=>by have:=congrArg List.length e;rw[aW,aD]at this;omega
 have:=GU b λt a=>by
  rw[List.getLast?_drop]at a;rw[aE (by omega)]at a;rw[List.getLast?_eq_getElem?]at a;have:=(h.pos _ t a).2.2.2.2.2 (by omega);omega
 rw[aW]at this;exact this
def kF{N:Int}{s:PS}(h:WS N s):Go1 N s (bK s):=by
 unfold bK;split
 .have:=h.tg.last h.lt;exact⟨rfl,rfl,rfl,rfl,yR _ _,(by show s.i+_<s.toks.length;have:=h.lt;omega),λ_ a=>.inl a⟩
 .exact Go1.refl h
def AZ{N:Int}{s:PS}(h:WS N s):s.toks[s.i]?=some (pH s):=by
 unfold pH;rw[aM,aH h.lt];rfl
def nI{N:Int}{s:PS}(h:WS N s):0<=(cur s).a/\(cur s).a<=N/\((cur s).k≠0->(cur s).a<N)/\((cur s).k=3->KP N (cur s).a (cur s).t)/\((cur s).k=1->(cur s).t≠[]):=by
 have d:=kF h;have c:=d.ws h;have b:=c.tg.pos _ _ (AZ c);rw[d.off]at b;exact⟨b.1,b.2.1,b.2.2.1,b.2.2.2.1,b.2.2.2.2.1⟩
def nH{N:Int}{s:PS}(h:WS N s)(d:(cur s).k≠0):Go1 N s (step1 (bK s))/\s.i<(step1 (bK s)).i:=by
 have a:=kF h;have b:=a.ws h;have f:=(b.tg.pos _ _ (AZ b)).2.2.2.2.2;have c:(bK s).i+1<(bK s).toks.length:=by
  have:=b.lt;by_cases e:(bK s).i+1=(bK s).toks.length
  .exact absurd (f e) d
  .omega
 exact⟨⟨a.toks,a.off,a.deep,a.quiet,dN a.le (qA _),c,a.exs⟩,Nat.lt_succ_of_le a.le⟩
def YQ(s:PS)(h:∀k,s.quiet=true->k=kK (s.toks.drop s.i)->kK (s.toks.drop (s.i+k))=0):bK (bK s)=bK s:=by
 unfold bK;split
 .rename_i a;have:=h _ a rfl;simp only[a,mE,this,bL]
 .rfl
def DD:∀(l:List Tok),kK (l.drop (kK l))=0
 |[]=>rfl
 |t::r=>by
  simp only[kK]
  split
  .exact DD r
  .rename_i h
   simp[kK,h]
def lI(s:PS):bK (bK s)=bK s:=YQ s λk _ a=>by rw[<-jI,a];exact DD _
def pO(s:PS):cur (bK s)=cur s:=by
 unfold cur;rw[lI];have:(bK s).off=s.off:=by unfold bK;split<;>rfl
 rw[this]
abbrev Later(N:Int)(s:PS)(s':PS):Prop:=Go1 N s s'/\s.i<s'.i
abbrev InN(N:Int)(a:Int):Prop:=0<=a/\a<=N
def qW{s:PS}{w:Str}(h:isS s w=true):(cur s).k≠0:=by
 unfold isS at h;simp only[bV,fK]at h;rw[h.1];decide
def nG{N:Int}{s:PS}(h:WS N s)(w:Str):Go1 N s (cN s w).2/\((cN s w).1=true->s.i<(cN s w).2.i)/\(cN s w).2.ex=s.ex/\(cN s w).2.bl=s.bl:=by
 have b:(bK s).ex=s.ex:=by unfold bK;split<;>rfl
 have a:(bK s).bl=s.bl:=by unfold bK;split<;>rfl
 unfold cN;split
 .rename_i c;have:=nH h (qW c);exact⟨this.1,λ_=>this.2,b,a⟩
 .exact⟨kF h,(λe=>by cases e),b,a⟩
def kO(s:PS):(bK s).ex=s.ex/\(bK s).bl=s.bl:=by unfold bK;split<;>exact⟨rfl,rfl⟩
def oW{N:Int}{s:PS}(h:WS N s)(w:Str):Sat (oX s w) (λ_ s'=>Later N s s'/\s'.ex=s.ex/\s'.bl=s.bl) (InN N):=by
 unfold oX;split
 .rename_i a;exact⟨nH h (qW a),kO s⟩
 .have:=nI h;exact⟨this.1,this.2.1⟩
def wH{N:Int}{s:PS}(h:WS N s):Go1 N s (kP s)/\((cur s).k≠0->s.i<(kP s).i)/\(kP s).ex=s.ex/\(kP s).bl=s.bl:=by
 unfold kP;split
 .rename_i a;have:=nH h a;exact⟨this.1,λ_=>this.2,kO s⟩
 .rename_i a;exact⟨kF h,λe=>absurd e a,kO s⟩
def qL{N:Int}{s:PS}(h:WS N s)(k:Int)(a:k≠0):Sat (mT s k) (λt s'=>Later N s s'/\s'.ex=s.ex/\s'.bl=s.bl/\t=cur s/\t.k=k) (InN N):=by
 unfold mT;split
 .rename_i b;have:=wH h;exact⟨⟨this.1,this.2.1 (by omega)⟩,this.2.2.1,this.2.2.2,rfl,b⟩
 .have:=nI h;exact⟨this.1,this.2.1⟩
def nS{N:Int}{s:PS}(h:WS N s):Go1 N s (hY s)/\(hY s).ex=s.ex/\(hY s).bl=s.bl:=by
 have a:=kF h;have b:=a.ws h;have d:=b.tg.last b.lt;rw[a.toks]at d;have c:=b.lt;rw[a.toks]at c;refine⟨⟨a.toks,a.off,a.deep,a.quiet,?_,?_,a.exs⟩,kO s⟩
 .have:=a.le;show s.i<=(bK s).i+_;omega
 .show(bK s).i+_<(bK s).toks.length;rw[a.toks];omega
def EOk(N:Int)(F:PS->R Nat):Prop:=∀s,WS N s->Sat (F s) (λx s'=>Later N s s'/\s'.bl=s.bl/\∀roots,eX (exL s.ex) roots->eX (exL s'.ex) (x::roots)) (InN N)
def Dp{N:Int}{s:PS}(h:WS N s){e:Ex}(d:0<=e.a/\e.a<N):Sat (qS s e) (λx s'=>Go1 N s s'/\s'.i=s.i/\s'.bl=s.bl/\∀roots,eX (exL s.ex) (e.args++roots)->eX (exL s'.ex) (x::roots)) (InN N):=
 ⟨⟨rfl,rfl,rfl,rfl,aQ _,h.lt,λx b=>by
   rcases bM.1 b with b|b
   .exact .inl b
   .rw[bO]at b
    subst b
    exact .inr d⟩,rfl,rfl,λ_ c=>Hm c⟩
def qD{N:Int}{s:PS}(h:WS N s)(d:InN N a){q:Bool}{f:PS->R α}{P:α->PS->Prop}(c:WS N {s with deep:=s.deep+1,quiet:=q}->Sat (f {s with deep:=s.deep+1,quiet:=q}) P (InN N)):
  Sat (within s a q f) (λx s'=>∃b,P x b/\s'={b with deep:=s.deep,quiet:=s.quiet}) (InN N):=by
 unfold within;split
 .exact d
 .exact(c (AV h _ _)).bind λx b e=>⟨b,e,rfl⟩
def Go1.back{N:Int}{s s1:PS}{d:Nat}{q:Bool}(h:Go1 N {s with deep:=d,quiet:=q} s1):Go1 N s {s1 with deep:=s.deep,quiet:=s.quiet}:=⟨h.toks,h.off,rfl,rfl,h.le,h.lt,h.exs⟩
def vH(p:UInt8->Bool):∀s:Str,gD p s<=s.length
 |[]=>aQ _
 |c::r=>by
  have:=vH p r
  simp only[gD,aA]
  split<;>omega
def Ku:∀(s:Str) (i:Nat),Lib.index s [42,47]=(i:Int)->i+2<=s.length
 |[],i,h=>by
  unfold Lib.index at h
  simp at h
 |b::l,i,h=>by
  unfold Lib.index at h
  split at h
  .rename_i d
   have e:i=0:=by omega
   subst e
   cases l with
   |nil=>simp[List.isPrefixOf]at d
   |cons c l=>simp
  .split at h
   .omega
   .rename_i a
    have g:Lib.index l [42,47]≠-1:=by simpa using a
    have f:=Lib.index_ge l [42,47]
    have:=Ku l (i-1) (by omega)
    simp only[aA]
    omega
def JW{p:Str}(h:qF p s=true):p.length<=s.length:=by
 unfold qF at h;exact(HW.1 h).length_le
def Ai:∀(n:Nat) (s:Str),(gU n s).1<=s.length
 |0,_=>cZ _
 |_+1,[]=>cZ _
 |n+1,c::r=>by
  simp only[gU]
  split
  .have:=Ai n r
   simp only[aA]
   omega
  split
  .have e:=Ai n ((c::r).drop (gD (λb=>b !=10) (c::r)))
   have d:=vH (λb=>b !=10) (c::r)
   rw[aW]at e
   simp only
   omega
  split
  .rename_i f
   split
   .exact cZ _
   .rename_i g
    obtain⟨i,a⟩:=AS (by omega:0<=Lib.index (r.drop 1) [42,47])
    have e:=Ku _ _ a
    have d:=Ai n ((c::r).drop ((Lib.index (r.drop 1) [42,47]).toNat+4))
    rw[a]at d⊢
    rw[aW]at e d
    simp only[aA,bD]at d⊢
    omega
  .exact cZ _
def noD:Str->Bool
 |[]=>true
 |[c]=>c !=92&&c !=36
 |c::e::r=>if c=92 then noD r else c !=36&&noD (e::r)
def FU:∀(n:Nat) (t:Str),t.length<=n->noD t=true->insP t=none
 |_,[],_,_=>rfl
 |_,[_],_,_=>rfl
 |0,c::e::r,h,_=>by simp at h
 |n+1,c::e::r,h,hd=>by
  simp only[noD]at hd
  simp only[insP]
  simp only[aA]at h
  split
  .rename_i a
   rw[aO a]at hd
   rw[FU n r (by omega) hd]
   rfl
  .rename_i a
   rw[aE a]at hd
   simp only[bV,bne_iff_ne,cY]at hd
   rw[aE (λe=>hd.1 e.1),FU n (e::r) (by simp only[aA];omega) hd.2]
   rfl
def GM{r:Str}(b:c≠92)(a:c≠36)(h:noD r=true):noD (c::r)=true:=by
 cases r with
 |nil=>simp[noD,b,a]
 |cons e r=>simp[noD,b,a,h]
def FW{r:Str}(h:noD r=true):noD (92::c::r)=true:=by simp[noD,h]
def FX:∀(n:Nat) (a b:Str),a.length<=n->noD a=true->noD b=true->noD (a++b)=true
 |_,[],b,_,_,f=>f
 |0,_::_,b,h,_,_=>by simp at h
 |_,[c],b,_,d,f=>by
  simp only[noD,bV,bne_iff_ne,cY]at d
  exact GM d.1 d.2 f
 |n+1,c::e::r,b,h,d,f=>by
  simp only[noD]at d
  simp only[aA]at h
  split at d
  .rename_i g
   subst g
   exact FW (FX n r b (by omega) d f)
  .rename_i g
   simp only[bV,bne_iff_ne,cY]at d
   exact GM g d.1 (FX n (e::r) b (by simp only[aA];omega) d.2 f)
def LS:∀s:Str,noD (mF s)=true
 |[]=>rfl
 |c::r=>by
  have a:=LS r
  simp only[mF]
  split
  .exact FW a
  rename_i b
  split
  .exact FW a
  split
  .exact FW a
  .simp only[gH,iU,not_or]at b
   exact GM b.1.1 b.2 a
def PW:∀(n:Nat) (name s:Str) (t:Str) (k:Nat),pU n name s=(t,k,0)->k<=s.length/\noD t=true
 |0,_,_,_,_,h=>by simp[pU]at h
 |n+1,name,s,t,k,h=>by
  have f:=vH (λb=>b !=10) s
  simp only[pU]at h
  split at h
  .injection h with d a
   injection a with a _
   subst d a
   exact⟨f,rfl⟩
  split at h
  .cases h
  rename_i e
  split at h
  .rename_i c
   injection h with d a
   injection a with a _
   obtain⟨i1,i2⟩:=PW n name (s.drop (gD (λb=>b !=10) s+1)) (pU n name (s.drop (gD (λb=>b !=10) s+1))).1 (pU n name (s.drop (gD (λb=>b !=10) s+1))).2.1 (kG rfl (kG rfl c))
   rw[aW]at i1
   subst d a
   refine⟨by omega,?_⟩
   refine FX _ _ _ (aQ _) (FX _ _ _ (aQ _) (LS _) rfl) i2
  .rename_i c
   injection h with _ a
   injection a with _ a
   exact absurd a c
def Zt(a:(s.drop m).head?=some c):m<s.length:=by
 by_cases b:m<s.length
 .exact b
 .rw[iQ (by omega)]at a;cases a
def Hg{t:Str}{k:Nat}(h:kZ s=(t,k,0)):1<=k/\k<=s.length/\noD t=true:=by
 unfold kZ at h;simp only at h;generalize (if gV ((s.drop 2).headD 0)=true then gD gY (s.drop 2)else 0)=n at h;split at h
 .cases h
 split at h
 .rename_i d;have c:=Zt d;generalize e:pU (s.length+1) ((s.drop 2).take n) (s.drop (2+n+1))=x at h;obtain⟨j,i,g⟩:=x;simp only at h;split at h
  .rename_i b;subst b;injection h with f a
   injection a with a _
   obtain⟨i1,i2⟩:=PW _ _ _ _ _ e;rw[aW]at i1;subst f a;exact⟨by omega,by omega,i2⟩
  .rename_i b;injection h with _ a
   injection a with _ a
   exact absurd a b
 .cases h
theorem Kd{s:Str}{t:Tok}{k:Nat}(m:s≠[])(h:mY s=(t,k,0)):1<=k/\k<=s.length/\t.k≠0/\t.a=0/\(t.k=1->t.t≠[])/\(t.k=3->insP t.t=none\/t.t.length+2<=k):=by
 obtain⟨c,r,rfl⟩:∃c r,s=c::r:=by
  cases s with
  |nil=>exact absurd rfl m
  |cons c r=>exact⟨c,r,rfl⟩
 unfold mY at h;simp only[FG]at h;split at h
 .injection h with d b
  injection b with b _
  subst d b;simp
 split at h
 .rename_i j;injection h with d b
  injection b with b f
  have i:1<=gD gY (c::r):=by
   simp only[gD];rw[aO (by unfold gY;rw[j];rfl)];omega
  have:=vH gY (c::r);subst d b;refine⟨i,this,by simp,rfl,λ_=>?_,λe=>by simp at e⟩;intro e;have e:=congrArg List.length e;rw[cG,aD]at e;omega
 split at h
 .rename_i j;injection h with d b
  injection b with b f
  have i:1<=gD jY (c::r):=by
   simp only[gD];rw[aO j];omega
  have:=vH jY (c::r);subst d b;exact⟨i,this,by simp,rfl,λe=>by simp at e,λe=>by simp at e⟩
 split at h
 .split at h
  .rename_i g;injection h with d b
   injection b with b _
   have l:sD ((c::r).length+1) ((c::r).drop 1) 0=jC r 0:=uQ (by simp;omega);rw[l]at g d b;obtain⟨_,o,n⟩:=(mV r.length r (aQ _)).1 0 (jC r 0).1 (kG rfl g);subst d b;refine⟨by omega,by simp only[aA];omega,by simp,rfl,λe=>by simp at e,λ_=>.inr ?_⟩;rw[cG];simp only[dI,dZ];omega
  .rename_i g;injection h with _ b
   injection b with _ b
   exact absurd b g
 split at h
 .injection h with d b
  injection b with b f
  obtain⟨i1,i2,i3⟩:=Hg (s:=c::r) (t:=(kZ (c::r)).1) (k:=(kZ (c::r)).2.1) (kG rfl (kG rfl f));subst d b;exact⟨i1,i2,by simp,rfl,λe=>by simp at e,λ_=>.inl (FU _ _ (aQ _) i3)⟩
 .injection h with d b
  injection b with b f
  subst d b;split at f
  .cases f
  rename_i p;refine⟨by omega,?_,by simp,rfl,λe=>by simp at e,λe=>by simp at e⟩;unfold tF;split
  .exact List.length_take_le' _ _
  .split
   .exact List.length_take_le' _ _
   .simp
theorem Ll:∀(n:Nat) (s:Str) (a cnt:Nat) (l:List Tok),nA n s a cnt=.ok l->TG ((a+s.length:Nat):Int) 0 l
 |0,_,_,_,_,h=>by simp[nA]at h
 |n+1,s,a,cnt,l,h=>by
  have z:=Ai (s.length+1) s
  simp only[nA]at h
  split at h
  .cases h
  split at h
  .rename_i d
   injection h with h
   subst h
   have:s.length<=(gU (s.length+1) s).1:=by
    have:=congrArg List.length d;rw[aW,aD]at this;omega
   refine⟨by simp,λi t b=>?_⟩;have p:i=0:=by
    by_cases q:i=0
    .exact q
    .rw[dY (by simp;omega)]at b;cases b
   subst p;simp only[bG,bB]at b;subst b;refine⟨by simp only;omega,by simp only;omega,λe=>absurd rfl e,λe=>by simp at e,λe=>by simp at e,λ_=>rfl⟩
  rename_i d;split at h
  .cases h
  rename_i o;split at h
  .cases h
  have j:s.length-(gU (s.length+1) s).1=(s.drop (gU (s.length+1) s).1).length:=(aW ..).symm;obtain⟨x,w,v,u,m,k⟩:=Kd d (kG rfl (kG rfl (Classical.not_not.1 o)):mY (s.drop (gU (s.length+1) s).1)=((mY (s.drop (gU (s.length+1) s).1)).1,(mY (s.drop (gU (s.length+1) s).1)).2.1,0));split at h
  .rename_i y g;injection h with h
   subst h;have c:=Ll n _ _ _ _ g;rw[aW]at c;have r:a+(gU (s.length+1) s).1+(mY (s.drop (gU (s.length+1) s).1)).2.1+((s.drop (gU (s.length+1) s).1).length-(mY (s.drop (gU (s.length+1) s).1)).2.1)=a+s.length:=by omega
   rw[r]at c;refine⟨by simp,λi t b=>?_⟩;cases i with
   |zero=>
    simp only[bG,bB]at b;subst b;refine⟨by simp only;omega,by simp only;omega,λ_=>by simp only;omega,λe=>?_,λe=>m e,λe=>?_⟩
    .rcases k e with h|h
     .exact .inl h
     .exact .inr (by simp only;omega)
    .simp only[aA]at e;have:=c.ne;exact absurd (cW (by omega)) this
   |succ i=>
    simp only[bI]at b;have:=c.pos i t b;exact⟨this.1,this.2.1,this.2.2.1,this.2.2.2.1,this.2.2.2.2.1,λe=>this.2.2.2.2.2 (by simp only[aA]at e;omega)⟩
  .rename_i f;exact absurd h (f l)
def Il:∀(n:Nat) (s:Str) (a cnt:Nat) (c b:Int),nA n s a cnt=.bad c b->0<=b/\b<=((a+s.length:Nat):Int)
 |0,_,_,_,_,_,h=>by
  simp only[nA]at h
  injection h with _ h
  subst h
  omega
 |n+1,s,a,cnt,c,b,h=>by
  have j:=Ai (s.length+1) s
  simp only[nA]at h
  split at h
  .injection h with _ h
   subst h
   omega
  split at h
  .cases h
  rename_i f
  split at h
  .injection h with _ h
   subst h
   omega
  rename_i g
  split at h
  .injection h with _ h
   subst h
   omega
  obtain⟨i,d,_⟩:=Kd f (kG rfl (kG rfl (Classical.not_not.1 g)):mY (s.drop (gU (s.length+1) s).1)=((mY (s.drop (gU (s.length+1) s).1)).1,(mY (s.drop (gU (s.length+1) s).1)).2.1,0))
  rw[aW]at d
  split at h
  .cases h
  .have e:=Il n _ _ _ c b h
   rw[aW,aW]at e
   omega
def Qm:∀(n:Nat) (s:Str) (i j:Nat),Ee n s i=some j->j<s.length
 |0,_,_,_,h=>by simp[Ee]at h
 |n+1,s,i,j,h=>by
  simp only[Ee]at h
  split at h
  .cases h
  split at h
  .injection h with h
   omega
  .exact Qm n s _ j h
def Di{l:List Tok}(h:mS s=.ok l){N off:Int}(m:0<=off)(k:off+s.length<=N):TG N off l:=by
 unfold mS at h;split at h
 .cases h
 split at h
 .cases h
 have:=Ll _ _ _ _ _ h;refine⟨this.ne,λi t d=>?_⟩;obtain⟨j,c,b,a,g,f⟩:=this.pos i t d;rw[aN]at c b a;rw[Int.add_zero]at j c b a;refine⟨by omega,by omega,λe=>by have:=b e;omega,λe=>?_,g,f⟩;rcases a e with h|h
 .exact .inl h
 .exact .inr (by omega)
def Gz{c b:Int}(h:mS s=.bad c b):0<=b/\b<=(s.length:Nat):=by
 unfold mS at h;split at h
 .injection h with _ h
  subst h;omega
 split at h
 .rename_i i a;injection h with _ h
  subst h;have:=Qm _ _ _ _ a;omega
 .have:=Il _ _ _ _ _ _ h;rw[aN]at this;exact this
def aBY:∀(N:Nat) (r:Str),r.length<=N->(∀c,qY r c<=r.length)/\tB r<=r.length:=by
 intro N;induction N with
 |zero=>
  intro r a;have:r=[]:=cW (by omega);subst this;exact⟨λc=>aQ _,aQ _⟩
 |succ N ih=>
  intro r a;cases r with
  |nil=>exact ih [] (by simp)
  |cons c r=>
   simp only[aA]at a;have a:r.length<=N:=by omega
   have b:=ih r a;refine⟨λd=>?_,?_⟩
   .rw[mL];have f:=(ih (r.drop (tB r)) (pM _ a)).1 d;rw[aW]at f;have h:=b.1 (d+1);have k:=b.1 (d-1);have j:=b.1 d;have g:=b.2;simp only[aA]
    (repeat' split)<;>omega
   .rw[uJ];have f:=(ih (r.drop (qY r 0)) (pM _ a)).2;rw[aW]at f;have h:=b.1 0;have g:=b.2;cases r with
    |nil=>
     simp only[aA,aD]at*
     (repeat' split)<;>omega
    |cons e r'=>
     have i:=(ih r' (by simp only[aA]at a;omega)).2;simp only[aA]at*
     (repeat' split)<;>omega
def KI(r:Str)(c:Int):qY r c<=r.length:=(aBY r.length r (aQ _)).1 c
def DK:∀(n:Nat) (t:Str),t.length<=n->∀i e,insP t=some (i,e)->i+2<=t.length/\i+1<=e/\e<=t.length
 |_,[],_,i,e,h=>by simp[insP]at h
 |_,[_],_,i,e,h=>by simp[insP]at h
 |0,_::_::_,h,_,_,_=>by simp at h
 |n+1,c::x::r,b,i,e,h=>by
  simp only[aA]at b
  simp only[insP]at h
  split at h
  .cases a:insP r with
   |none=>rw[a]at h;cases h
   |some y=>
    rw[a]at h
    simp only[aK,bB,gA]at h
    obtain⟨rfl,rfl⟩:=h
    have:=DK n r (by omega) y.1 y.2 a
    simp only[aA]
    omega
  split at h
  .simp only[bB,gA]at h
   obtain⟨rfl,rfl⟩:=h
   have:=KI (x::r) 0
   have d:EO (x::r)=qY (x::r) 0:=rfl
   rw[d]
   simp only[aA]at this⊢
   omega
  .cases a:insP (x::r)with
   |none=>rw[a]at h;cases h
   |some y=>
    rw[a]at h
    simp only[aK,bB,gA]at h
    obtain⟨rfl,rfl⟩:=h
    have:=DK n (x::r) (by simp only[aA];omega) y.1 y.2 a
    simp only[aA]at this⊢
    omega
section
variable{N:Int}{E S:PS->R Nat}
def IR(p:EOk N E){s:PS}(h:WS N s){t:Str}(u:0<=a)(r:a+t.length<=N):Sat (pF E s t a) (λx s'=>Go1 N s s'/\s'.bl=s.bl/\∀roots,eX (exL s.ex) roots->eX (exL s'.ex) (x::roots)) (InN N):=by
 unfold pF;split
 .rename_i c b g;have:=Gz g;exact⟨by omega,by omega⟩
 .rename_i l g;have d:=Di g u r;have i:WS N ⟨l,0,a,s.deep,false,s.ex,s.bl⟩:=⟨d,iO.2 d.ne,h.pN⟩;refine(p _ i).bind λx q ⟨⟨j,_⟩,o,m⟩=>?_;have f:=j.ws i;unfold mT;split
  .refine⟨⟨rfl,rfl,rfl,rfl,aQ _,h.lt,λe n=>?_⟩,?_,λroots k=>?_⟩
   .have:e∈(kP q).ex:=n;rw[(wH f).2.2.1]at this;exact j.exs e this
   .show(kP q).bl=s.bl;rw[(wH f).2.2.2];exact o
   .show eX (exL (kP q).ex) _;rw[(wH f).2.2.1];exact m roots k
  .have:=nI f;exact⟨this.1,this.2.1⟩
def Is{s:PS}(h:WS N s){t:Tok}(b:InN N t.a):Sat (qG s t) (λ_ s'=>s'=s) (InN N):=by
 unfold qG;split
 .exact b
 .rfl
theorem Ey(l:EOk N E):∀(n:Nat) (s:PS) (rest:Str) (a:Int) (us:List Nat) (ks:List Str),WS N s->0<=a->a+rest.length+1<=N->
  Sat (mK E n s rest a us ks) (λx s'=>Go1 N s s'/\s'.bl=s.bl/\∀roots,eX (exL s.ex) (us++roots)->eX (exL s'.ex) (x.1++roots)) (InN N)
 |0,s,_,_,_,_,h,_,_=>⟨oU _,h.pN⟩
 |n+1,s,rest,a,us,ks,h,p,G=>by
  have one:∀(e:Ex),e.args=[]->0<=e.a->e.a<N->Go1 N s {s with ex:=s.ex++[e]}/\∀roots,eX (exL s.ex) (us++roots)->eX (exL (s.ex++[e])) ((us++[s.ex.length])++roots):=λe w A z=>
   ⟨⟨rfl,rfl,rfl,rfl,aQ _,h.lt,λx g=>by
     rcases bM.1 g with g|g
     .exact .inl g
     .rw[bO]at g;subst g;exact .inr ⟨A,z⟩⟩,
    λroots d=>by
     have:=Hm (e:=e) (roots:=us++roots) (by rw[w];exact d)
     refine this.perm ?_
     rw[cD]
     exact(pI).symm⟩
  simp only[mK]
  split
  .exact⟨Go1.refl h,rfl,λ_ d=>d⟩
  split
  .have:=one ⟨5,iW rest,[],[],a⟩ rfl p (by show a<N;omega)
   exact⟨this.1,rfl,this.2⟩
  .rename_i i e v
   obtain⟨i1,i2,i3⟩:=DK rest.length rest (aQ _) i e v
   have k:∃c b,c=(if 0<i then{s with ex:=s.ex++[⟨5,iW (rest.take i),[],[],a⟩]}else s)/\b=(if 0<i then us++[s.ex.length]else us)/\Go1 N s c/\c.bl=s.bl/\∀roots,eX (exL s.ex) (us++roots)->eX (exL c.ex) (b++roots):=by
    refine⟨_,_,rfl,rfl,?_⟩;split
    .have:=one ⟨5,iW (rest.take i),[],[],a⟩ rfl p (by show a<N;omega);exact⟨this.1,rfl,this.2⟩
    .exact⟨Go1.refl h,rfl,λ_ d=>d⟩
   obtain⟨c,b,D,C,g1,r,f1⟩:=k;rw[<-D,<-C];have f:=g1.ws h;have o:((rest.drop e).length:Int)=rest.length-e:=by rw[aW];omega
   split
   .refine Sat.bind (qD f (a:=a+i) ⟨by omega,by omega⟩ (P:=λx s'=>Go1 N {c with deep:=c.deep+1,quiet:=false} s'/\s'.bl=c.bl/\∀roots,eX (exL c.ex) roots->eX (exL s'.ex) (x::roots)) λu=>IR l u (by omega) ?_) λx F ⟨q,⟨g2,b2,f2⟩,B⟩=>?_
    .rw[cG,aW];omega
    .subst B;have j:=g2.back;refine Sat.mono (Ey l n _ (rest.drop e) (a+e) (b++[x]) _ ((j).ws f) (by omega) (by rw[o];omega)) λy t ⟨g3,m,f3⟩=>⟨g1.trans (j.trans g3),m.trans (b2.trans r),λroots d=>f3 roots ?_⟩;have:=f2 _ (f1 roots d);refine this.perm ?_;rw[cD];exact(pI).symm
   .refine Sat.mono (Ey l n c (rest.drop e) (a+e) b _ f (by omega) (by rw[o];omega)) λy t ⟨g3,m,f3⟩=>⟨g1.trans g3,m.trans r,λroots d=>f3 roots (f1 roots d)⟩
def SV(i:EOk N E){s:PS}(h:WS N s){t:Tok}(f:0<=t.a/\t.a<N)(c:KP N t.a t.t):Sat (wS E s t) (λx s'=>Go1 N s s'/\s'.bl=s.bl/\∀roots,eX (exL s.ex) roots->eX (exL s'.ex) (x::roots)) (InN N):=by
 unfold wS;split
 .rename_i d;have c:t.a+t.t.length+2<=N:=c.resolve_left λe=>by rw[e]at d;cases d
  refine(Ey i (t.t.length+1) s t.t (t.a+1) [] [] h (by omega) (by omega)).bind λx k ⟨g1,j,f1⟩=>?_;refine(Dp (g1.ws h) (e:=⟨6,[],x.1,x.2,t.a⟩) f).mono λy g ⟨g2,_,b2,f2⟩=>⟨g1.trans g2,b2.trans j,λroots b=>f2 roots (f1 roots b)⟩
 .exact(Dp h (e:=⟨5,iW t.t,[],[],t.a⟩) f).mono λy g ⟨g2,_,b2,f2⟩=>⟨g2,b2,λroots b=>f2 roots b⟩
theorem Na(g:EOk N E)(w:Str):∀(n:Nat) (s:PS) (out:List Nat),WS N s->
  Sat (qX E w n s out) (λx s'=>Later N s s'/\s'.bl=s.bl/\∀roots,eX (exL s.ex) (out++roots)->eX (exL s'.ex) (x++roots)) (InN N)
 |0,s,_,h=>⟨oU _,h.pN⟩
 |n+1,s,out,h=>by
  have step:∀{a:PS},Go1 N s a->a.ex=s.ex->a.bl=s.bl->Sat ((E a).bind λx s'=>qX E w n s' (out++[x])) (λx s'=>Later N s s'/\s'.bl=s.bl/\∀roots,eX (exL s.ex) (out++roots)->eX (exL s'.ex) (x++roots)) (InN N):=λ{a} g1 d e=>by
   refine(g a (g1.ws h)).bind λx i ⟨g2,b2,f2⟩=>?_
   refine Sat.mono (Na g w n i (out++[x]) (g2.1.ws (g1.ws h))) λy k ⟨g3,j,f3⟩=>⟨⟨g1.trans (g2.1.trans g3.1),by have:=g1.le;have:=g2.2;have:=g3.2;omega⟩,j.trans (b2.trans e),λroots c=>f3 roots ?_⟩
   have:=f2 _ (by rw[d];exact c)
   refine this.perm ?_
   rw[cD]
   exact(pI).symm
  have t1:=nG h w
  simp only[qX]
  split
  .rename_i f
   exact⟨⟨t1.1,t1.2.1 f⟩,t1.2.2.2,λroots c=>by rw[t1.2.2.1];exact c⟩
  split
  .rename_i l
   have:=step t1.1 t1.2.2.1 t1.2.2.2
   exact this
  .refine(oW (t1.1.ws h) [44]).bind λ_ a ⟨g1,d,e⟩=>?_
   have b:=t1.1.trans g1.1
   have t2:=nG (b.ws h) w
   split
   .rename_i f
    exact⟨⟨b.trans t2.1,by have:=t1.1.le;have:=g1.2;have:=t2.1.le;omega⟩,t2.2.2.2.trans (e.trans t1.2.2.2),λroots c=>by rw[t2.2.2.1,d,t1.2.2.1];exact c⟩
   .exact step (b.trans t2.1) (t2.2.2.1.trans (d.trans t1.2.2.1)) (t2.2.2.2.trans (e.trans t1.2.2.2))
def Jt(c:EOk N E)(w:Str){s:PS}(h:WS N s):Sat (Cx E w s) (λx s'=>Later N s s'/\s'.bl=s.bl/\∀roots,eX (exL s.ex) roots->eX (exL s'.ex) (x++roots)) (InN N):=
 (Na c w _ s [] h).mono λx s' ⟨g,b,f⟩=>⟨g,b,λroots a=>f roots a⟩
theorem Uw(q:EOk N E){s:PS}(h:WS N s)(I:(cur s).k≠0)(H:bK s=s)(w:0<=a/\a<N):Sat (xE E s a) (λe s'=>Later N s s'/\s'.bl=s.bl/\(0<=e.a/\e.a<N)/\∀roots,eX (exL s.ex) roots->eX (exL s'.ex) (e.args++roots)) (InN N):=by
 have c:=nH h I;rw[H]at c;have j:=c.1.ws h;have n:=kF j;have ex1:(bK (step1 s)).ex=s.ex:=(kO _).1;have l:(bK (step1 s)).bl=s.bl:=(kO _).2;unfold xE;simp only;split
 .refine(Jt q [93] (n.ws j)).bind λus T ⟨g1,O,f1⟩=>?_;exact⟨⟨c.1.trans (n.trans g1.1),by have:=c.2;have:=n.le;have:=g1.2;omega⟩,O.trans l,w,λroots p=>f1 roots (by rw[ex1];exact p)⟩
 .rename_i J;have o:(cur (step1 s)).k≠0:=λe=>J (.inl (by rw[e];decide));have d:=nH j o;refine(qL (d.1.ws j) 1 (by decide)).bind λt S ⟨g2,C,b2,_⟩=>?_;have b:=g2.1.ws (d.1.ws j);refine(qL b 1 (by decide)).bind λu F ⟨g3,B,M,G,_⟩=>?_;have i:=g3.1.ws b;split
  .have:=nI b;rw[G];exact⟨this.1,this.2.1⟩
  refine(q F i).bind λx R ⟨g4,b4,f4⟩=>?_;have g:=g4.1.ws i;refine(oW g [58]).bind λ_ D ⟨g5,A,b5⟩=>?_;have f:=g5.1.ws g;refine(q D f).bind λy Q ⟨g6,L,f6⟩=>?_;have m:=g6.1.ws f;refine(oW m [93]).bind λ_ P ⟨g7,z,b7⟩=>?_;have v:(step1 (bK (step1 s))).ex=s.ex:=ex1;have r:(step1 (bK (step1 s))).bl=s.bl:=l;refine⟨⟨c.1.trans (d.1.trans (g2.1.trans (g3.1.trans (g4.1.trans (g5.1.trans (g6.1.trans g7.1)))))),by have:=c.2;have:=d.2;have:=g2.2;have:=g3.2;have:=g4.2;have:=g5.2;have:=g6.2;have:=g7.2;omega⟩,
   b7.trans (L.trans (b5.trans (b4.trans (M.trans (b2.trans r))))),w,λroots p=>?_⟩
  rw[z];have K:=f4 roots (by rw[B,C,v];exact p);have d:=f6 _ (by rw[A];exact K);exact d.perm (List.Perm.swap _ _ _)
theorem PC(y:EOk N E){a:Int}(w:0<=a/\a<N):∀(n:Nat) (s:PS) (us:List Nat) (ks:List Str),WS N s->
  Sat (Ar E a n s us ks) (λe s'=>Later N s s'/\s'.bl=s.bl/\(0<=e.a/\e.a<N)/\∀roots,eX (exL s.ex) (us++roots)->eX (exL s'.ex) (e.args++roots)) (InN N)
 |0,s,_,_,h=>⟨oU _,h.pN⟩
 |n+1,s,us,ks,h=>by
  have t1:=nG h [125]
  simp only[Ar]
  split
  .rename_i C
   exact⟨⟨t1.1,t1.2.1 C⟩,t1.2.2.2,w,λroots t=>by rw[t1.2.2.1];exact t⟩
  have d:=t1.1.ws h
  have p:=wH d
  have c:=p.1.ws d
  have v:=nI d
  have f:InN N (cur (cN s [125]).2).a:=⟨v.1,v.2.1⟩
  refine Sat.bind (P:=λ_ q=>q=kP (cN s [125]).2/\(cur (cN s [125]).2).k≠0) ?_ λk q ⟨G,D⟩=>?_
  .split
   .rename_i r
    exact(Is c f).mono λ_ q e=>⟨e,by rw[r];decide⟩
   .split
    .rename_i r
     exact⟨rfl,by rw[r];decide⟩
    .exact f
  subst G
  split
  .exact f
  refine(oW c [61]).bind λ_ B ⟨g4,A,b4⟩=>?_
  have m:=g4.1.ws c
  refine(y B m).bind λx i ⟨g5,b5,f5⟩=>?_
  have l:=g5.1.ws m
  have t5:=nG l [44]
  have b:=t5.1.ws l
  have n6:=kF b
  have o:=t1.1.trans (p.1.trans (g4.1.trans (g5.1.trans t5.1)))
  split
  .have:=nI (n6.ws b)
   exact⟨this.1,this.2.1⟩
  have l6:∃g,g=(if(cN i [44]).1=true then(cN i [44]).2 else bK (cN i [44]).2)/\Go1 N (cN i [44]).2 g/\g.ex=(cN i [44]).2.ex/\g.bl=(cN i [44]).2.bl:=by
   refine⟨_,rfl,?_⟩;split
   .exact⟨Go1.refl b,rfl,rfl⟩
   .exact⟨n6,(kO _).1,(kO _).2⟩
  obtain⟨g,F,g6,z,H⟩:=l6;rw[<-F];have j:=g6.ws b;have l7:=nS j;refine Sat.mono (PC y w n (hY g) (us++[x]) (ks++[k]) (l7.1.ws j)) λe I ⟨g8,b8,u,f8⟩=>⟨⟨o.trans (g6.trans (l7.1.trans g8.1)),by have:=o.le;have:=g6.le;have:=l7.1.le;have:=g8.2;omega⟩,
   b8.trans (l7.2.2.trans (H.trans (t5.2.2.2.trans (b5.trans (b4.trans (p.2.2.2.trans t1.2.2.2)))))),u,λroots t=>f8 roots ?_⟩
  rw[l7.2.1,z,t5.2.2.1];have:=f5 (us++roots) (by rw[A,p.2.2.1,t1.2.2.1];exact t);refine this.perm ?_;rw[cD];exact(pI).symm
end
def _root_.And.tr{N:Int}{s s1 a:PS}(h:Later N s s1)(b:Later N s1 a):Later N s a:=⟨h.1.trans b.1,Nat.lt_trans h.2 b.2⟩
def Go1.tr{N:Int}{s s1 a:PS}(h:Go1 N s s1)(b:Later N s1 a):Later N s a:=⟨h.trans b.1,Nat.lt_of_le_of_lt h.le b.2⟩
section
variable{N:Int}{E S:PS->R Nat}
def Lt{l:List Tok}{t:Tok}(h:l[i]?=some t)(b:t.k≠5):kK (l.drop i)=0:=by
 have a:=(bJ.1 h).1;rw[eW a];have:l[i]=t:=(bJ.1 h).2;simp[kK,this,b]
def Uf{N:Int}{s:PS}(h:WS N s)(a:(pH s).k≠5):bK s=s:=by
 unfold bK;split
 .rw[Lt (AZ h) a];rfl
 .rfl
def sU{N:Int}{s:PS}(h:WS N s){w:Str}(b:isS s w=true)(d:Nat)(q:Bool):bK {bK s with deep:=d,quiet:=q}={bK s with deep:=d,quiet:=q}/\(cur {bK s with deep:=d,quiet:=q}).k≠0/\(cur {bK s with deep:=d,quiet:=q}).a=(cur s).a:=by
 have f:=(kF h).ws h;have e:(pH (bK s)).k=4:=by
  unfold isS cur at b;simp only[bV,fK]at b;exact b.1
 have c:bK {bK s with deep:=d,quiet:=q}={bK s with deep:=d,quiet:=q}:=Uf (AV f d q) (by show(pH (bK s)).k≠5;rw[e];decide);have g:(bK s).off=s.off:=by unfold bK;split<;>rfl
 refine⟨c,?_,?_⟩
 .unfold cur;rw[c];show(pH (bK s)).k≠0;rw[e];decide
 .unfold cur;rw[c];show(pH (bK s)).a+(bK s).off=(pH (bK s)).a+s.off;rw[g]
abbrev Leaves(N:Int)(s:PS)(x:Nat)(s':PS):Prop:=Later N s s'/\s'.bl=s.bl/\∀roots,eX (exL s.ex) roots->eX (exL s'.ex) (x::roots)
def uK{s s1:PS}(h:WS N s)(b:Later N s s1)(f:s1.bl=s.bl){e:Ex}(g:0<=e.a/\e.a<N)(d:∀roots,eX (exL s.ex) roots->eX (exL s1.ex) (e.args++roots)):Sat (qS s1 e) (Leaves N s) (InN N):=
 (Dp (b.1.ws h) g).mono λx i ⟨g2,i2,b2,f2⟩=>⟨⟨b.1.trans g2,by have:=b.2;rw[i2];exact this⟩,b2.trans f,λroots c=>f2 roots (d roots c)⟩
theorem MY(H:EOk N E):EOk N (nC E):=by
 intro s h;have A:=kF h;have B:=A.ws h;have l:=nI h;have d:=kO s;unfold nC;simp only;split
 .rename_i z;have r:=nH h (by rw[z];decide);exact uK h r d.2 (e:=⟨4,(cur s).t,[],[],(cur s).a⟩) ⟨l.1,l.2.2.1 (by rw[z];decide)⟩ λroots j=>by show eX (exL (bK s).ex) _;rw[d.1];exact j
 split
 .rename_i z;have r:=nH h (by rw[z];decide);refine(SV H (r.1.ws h) (t:=cur s) ⟨l.1,l.2.2.1 (by rw[z];decide)⟩ (l.2.2.2.1 z)).mono λx I ⟨g2,b2,f2⟩=>⟨⟨r.1.trans g2,by have:=r.2;have:=g2.le;omega⟩,b2.trans d.2,λroots j=>f2 roots (by show eX (exL (bK s).ex) _;rw[d.1];exact j)⟩
 split
 .rename_i z;have D:(cur s).k≠0:=by rw[z.1];decide
  have r:=nH h D;have u:=r.1.ws h;have C:=kF u;have J:=C.ws u;have G:0<=(cur s).a/\(cur s).a<N:=⟨l.1,l.2.2.1 D⟩;split
  .rename_i o;have F:=nI u;refine Sat.bind (qD J (a:=(cur (step1 (bK s))).a) (q:=true) ⟨F.1,F.2.1⟩ (P:=λus s'=>Later N {bK (step1 (bK s))with deep:=(bK (step1 (bK s))).deep+1,quiet:=true} s'/\s'.bl=s.bl/\∀roots,eX (exL s.ex) roots->eX (exL s'.ex) (us++roots)) λn=>?_) λus I ⟨q,⟨g2,b2,f2⟩,y⟩=>?_
   .have p:=sU u o ((bK (step1 (bK s))).deep+1) true;have m:=nH n p.2.1;rw[p.1]at m;exact(Jt H [41] (m.1.ws n)).mono λus s' ⟨g,b,f⟩=>⟨m.tr g,b.trans ((kO _).2.trans d.2),λroots j=>f roots (by show eX (exL (bK (step1 (bK s))).ex) _;rw[(kO _).1];show eX (exL (bK s).ex) _;rw[d.1];exact j)⟩
   .subst y;have c:=g2.1.back;refine uK h ⟨r.1.trans (C.trans c),?_⟩ b2 (e:=⟨12,(cur s).t,us,[],(cur s).a⟩) G f2;have:=r.2;have:=C.le;have:=c.le;omega
  .exact uK h ⟨r.1.trans C,by have:=r.2;have:=C.le;omega⟩ ((kO _).2.trans d.2) (e:=⟨pS (cur s).t,if pS (cur s).t=9 then(cur s).t else [],[],[],(cur s).a⟩) G λroots j=>by rw[(kO _).1];show eX (exL (bK s).ex) _;rw[d.1];exact j
 have v:InN N (cur s).a:=⟨l.1,l.2.1⟩;have lW:∀w,isS (bK s) w=isS s w:=λw=>by unfold isS;rw[pO]
 split
 .rename_i o;rw[lW]at o;refine(qD B (a:=(cur s).a) (q:=true) v (P:=λx s'=>Later N {bK s with deep:=(bK s).deep+1,quiet:=true} s'/\s'.bl=s.bl/\∀roots,eX (exL s.ex) roots->eX (exL s'.ex) (x::roots)) λn=>?_).mono λx I ⟨q,⟨g2,b2,f2⟩,y⟩=>?_
  .have p:=sU h o ((bK s).deep+1) true;have m:=nH n p.2.1;rw[p.1]at m;refine(H _ (m.1.ws n)).bind λx M ⟨g1,K,f1⟩=>?_;refine(oW (g1.1.ws (m.1.ws n)) [41]).bind λ_ L ⟨g2,y,b2⟩=>?_;refine⟨m.tr (g1.tr g2),b2.trans (K.trans d.2),λroots j=>?_⟩;rw[y];exact f1 roots (by show eX (exL (bK s).ex) _;rw[d.1];exact j)
  .subst y;have c:=g2.1.back;exact⟨⟨A.trans c,by have:=A.le;have:=g2.2;show s.i<q.i;simp only at this;omega⟩,b2,f2⟩
 split
 .rename_i o;rw[lW]at o;refine Sat.bind (qD B (a:=(cur s).a) (q:=true) v (P:=λ(e:Ex) s'=>Later N {bK s with deep:=(bK s).deep+1,quiet:=true} s'/\s'.bl=s.bl/\(0<=e.a/\e.a<N)/\∀roots,eX (exL s.ex) roots->eX (exL s'.ex) (e.args++roots)) λn=>?_) λe I ⟨q,⟨g2,b2,a2,f2⟩,y⟩=>?_
  .have p:=sU h o ((bK s).deep+1) true;refine(Uw H n p.2.1 p.1 ⟨l.1,l.2.2.1 (qW o)⟩).mono λe s' ⟨g,b,a,f⟩=>⟨g,b.trans d.2,a,λroots j=>f roots (by show eX (exL (bK s).ex) _;rw[d.1];exact j)⟩
  .subst y;have c:=g2.1.back;exact uK h ⟨A.trans c,by have:=A.le;have:=g2.2;show s.i<q.i;simp only at this;omega⟩ b2 a2 f2
 split
 .rename_i o;rw[lW]at o;refine Sat.bind (qD B (a:=(cur s).a) (q:=false) v (P:=λ(e:Ex) s'=>Later N {bK s with deep:=(bK s).deep+1,quiet:=false} s'/\s'.bl=s.bl/\(0<=e.a/\e.a<N)/\∀roots,eX (exL s.ex) roots->eX (exL s'.ex) (e.args++roots)) λn=>?_) λe I ⟨q,⟨g2,b2,a2,f2⟩,y⟩=>?_
  .have p:=sU h o ((bK s).deep+1) false;have m:=nH n p.2.1;rw[p.1]at m;have l4:=nS (m.1.ws n);unfold GK;refine(PC H ⟨l.1,l.2.2.1 (qW o)⟩ _ _ [] [] (l4.1.ws (m.1.ws n))).mono λe s' ⟨g,b,a,f⟩=>⟨m.tr (Go1.tr l4.1 g),b.trans (l4.2.2.trans d.2),a,λroots j=>f roots (by rw[l4.2.1];show eX (exL (bK s).ex) _;rw[d.1];exact j)⟩
  .subst y;have c:=g2.1.back;exact uK h ⟨A.trans c,by have:=A.le;have:=g2.2;show s.i<q.i;simp only at this;omega⟩ b2 a2 f2
 .exact v
abbrev VY(N:Int)(s:PS)(x:Nat)(y:Nat)(s':PS):Prop:=Go1 N s s'/\s'.bl=s.bl/\∀roots,eX (exL s.ex) (x::roots)->eX (exL s'.ex) (y::roots)
theorem Ir(M:EOk N E):∀(n:Nat) (s:PS) (x:Nat),WS N s->Sat (nN E n s x) (VY N s x) (InN N)
 |0,s,_,h=>⟨oU _,h.pN⟩
 |n+1,s,x,h=>by
  have A:=kF h
  have g:=A.ws h
  have l:=nI h
  have j:=kO s
  have lW:∀w,isS (bK s) w=isS s w:=λw=>by unfold isS;rw[pO]
  have G:InN N (cur s).a:=⟨l.1,l.2.1⟩
  have more:∀{f:PS} {e:Ex},Go1 N s f->f.bl=s.bl->0<=e.a/\e.a<N->(∀roots,eX (exL s.ex) (x::roots)->eX (exL f.ex) (e.args++roots))->Sat ((qS f e).bind λy v=>nN E n v y) (VY N s x) (InN N):=λ{f e} g2 b2 W f2=>by
   refine(Dp (g2.ws h) W).bind λy v ⟨g3,_,J,f3⟩=>?_
   exact(Ir M n v y (g3.ws (g2.ws h))).mono λz U ⟨g4,b4,f4⟩=>⟨g2.trans (g3.trans g4),b4.trans (J.trans b2),λroots b=>f4 roots (f3 roots (f2 roots b))⟩
  simp only[nN]
  have t1:=nG g [46]
  split
  .rename_i C
   have D:(cur s).k≠0:=by
    have:isS (bK s) [46]=true:=by
     unfold cN at C;split at C
     .assumption
     .cases C
    rw[lW]at this;exact qW this
   have d:=t1.1.ws g;refine(qL d 1 (by decide)).bind λu f ⟨g2,T,b2,_⟩=>?_;exact more (e:=⟨10,u.t,[x],[],(cur s).a⟩) (A.trans (t1.1.trans g2.1)) (b2.trans (t1.2.2.2.trans j.2)) ⟨l.1,l.2.2.1 D⟩ λroots b=>by rw[T,t1.2.2.1,j.1];exact b
  split
  .rename_i F;rw[lW]at F;have m:0<=(cur s).a/\(cur s).a<N:=⟨l.1,l.2.2.1 (qW F)⟩;refine Sat.bind (qD g (a:=(cur s).a) (q:=true) G (P:=λ(o:Option Nat) s'=>Go1 N {bK s with deep:=(bK s).deep+1,quiet:=true} s'/\s'.bl=s.bl/\(o=none->s'.ex=s.ex)/\∀y,o=some y->∀roots,eX (exL s.ex) roots->eX (exL s'.ex) (y::roots)) λK=>?_) λo f ⟨q,⟨g2,b2,f2,I⟩,X⟩=>?_
   .have L:=sU h F ((bK s).deep+1) true;have B:=nH K L.2.1;rw[L.1]at B;have c:=B.1.ws K;have t4:=nG c [42];have p:(step1 {bK s with deep:=(bK s).deep+1,quiet:=true}).ex=s.ex:=j.1;have r:(step1 {bK s with deep:=(bK s).deep+1,quiet:=true}).bl=s.bl:=j.2;split
    .refine(oW (t4.1.ws c) [93]).bind λ_ V ⟨g5,Q,b5⟩=>?_;exact⟨B.1.trans (t4.1.trans g5.1),b5.trans (t4.2.2.2.trans r),λ_=>Q.trans (t4.2.2.1.trans p),λy e=>by cases e⟩
    .refine(M _ (t4.1.ws c)).bind λy Z ⟨g5,b5,f5⟩=>?_;refine(oW (g5.1.ws (t4.1.ws c)) [93]).bind λ_ V ⟨g6,O,Y⟩=>?_;refine⟨B.1.trans (t4.1.trans (g5.1.trans g6.1)),Y.trans (b5.trans (t4.2.2.2.trans r)),λe=>(by cases e),λz e roots b=>?_⟩;injection e with e
     subst e;rw[O];exact f5 roots (by rw[t4.2.2.1,p];exact b)
   .subst X;have H:=g2.back;have i:=A.trans H;cases o with
    |some y=>
     simp only;refine more (e:=⟨11,[],[x,y],[],(cur s).a⟩) i b2 m λroots b=>?_;exact(I y rfl _ b).perm (List.Perm.swap _ _ _)
    |none=>
     simp only;have d:=i.ws h;refine(oW d [46]).bind λ_ v ⟨g3,S,J⟩=>?_;refine(qL (g3.1.ws d) 1 (by decide)).bind λu U ⟨g4,R,b4,_⟩=>?_;exact more (e:=⟨30,u.t,[x],[],(cur s).a⟩) (i.trans (g3.1.trans g4.1)) (b4.trans (J.trans b2)) m λroots b=>by rw[R,S];show eX (exL q.ex) _;rw[f2 rfl];exact b
  .exact⟨A,j.2,λroots b=>by rw[j.1];exact b⟩
def TI(a:EOk N E):EOk N (Ct E):=by
 intro s h;unfold Ct;refine(MY a s h).bind λx b ⟨g1,d,f1⟩=>?_;exact(Ir a _ b x (g1.1.ws h)).mono λy e ⟨g2,b2,f2⟩=>⟨⟨g1.1.trans g2,by have:=g1.2;have:=g2.le;omega⟩,b2.trans d,λroots c=>f2 roots (f1 roots c)⟩
theorem Gw(u:EOk N E)(t:EOk N S):EOk N (tE E S):=by
 intro s h;have c:=kF h;have d:=c.ws h;have g:=nI h;have f:=kO s;have lW:∀w,isS (bK s) w=isS s w:=λw=>by unfold isS;rw[pO]
 have m:InN N (cur s).a:=⟨g.1,g.2.1⟩;have one:∀(w:Str) (k:Int),isS s w=true->Sat ((within (bK s) (cur s).a (bK s).quiet λq=>S (step1 q)).bind λx j=>qS j ⟨k,[],[x],[],(cur s).a⟩) (Leaves N s) (InN N):=λw k b=>by
  refine Sat.bind (qD d (a:=(cur s).a) (q:=(bK s).quiet) m (P:=λx s'=>Later N {bK s with deep:=(bK s).deep+1,quiet:=(bK s).quiet} s'/\s'.bl=s.bl/\∀roots,eX (exL s.ex) roots->eX (exL s'.ex) (x::roots)) λp=>?_) λx j ⟨q,⟨g2,b2,f2⟩,v⟩=>?_
  .have r:=sU h b ((bK s).deep+1) (bK s).quiet;have n:=nH p r.2.1;rw[r.1]at n;refine(t _ (n.1.ws p)).mono λx z ⟨g1,y,f1⟩=>⟨n.tr g1,y.trans f.2,λroots l=>f1 roots (by show eX (exL (bK s).ex) _;rw[f.1];exact l)⟩
  .subst v;have o:=g2.1.back;exact uK h ⟨c.trans o,by have:=c.le;have:=g2.2;show s.i<q.i;simp only at this;omega⟩ b2 (e:=⟨k,[],[x],[],(cur s).a⟩) ⟨g.1,g.2.2.1 (qW b)⟩ f2
 unfold tE;simp only;split
 .rename_i b;rw[lW]at b;exact one [33] 14 b
 split
 .rename_i b;rw[lW]at b;exact one [45] 13 b
 .exact(TI u (bK s) d).mono λx j ⟨g2,b2,f2⟩=>⟨⟨c.trans g2.1,by have:=c.le;have:=g2.2;omega⟩,b2.trans f.2,λroots l=>f2 roots (by rw[f.1];exact l)⟩
def IK{J:PS->R Nat}(l:EOk N J)(k:Nat):∀(f:Nat) (s:PS) (x:Nat),WS N s->Sat (tR J k f s x) (VY N s x) (InN N)
 |0,s,_,h=>⟨oU _,h.pN⟩
 |f+1,s,x,h=>by
  have o:=kF h
  have g:=kO s
  have j:=nI h
  simp only[tR]
  split
  .exact⟨o,g.2,λroots i=>by rw[g.1];exact i⟩
  .rename_i p
   have d:(cur s).k≠0:=λe=>p (by unfold qI;rw[e];rfl)
   have m:=nH h d
   refine(l _ (m.1.ws h)).bind λb u ⟨g1,r,f1⟩=>?_
   have c:=m.1.trans g1.1
   refine(Dp (c.ws h) (e:=⟨qI (cur s) k,[],[x,b],[],(cur s).a⟩) ⟨j.1,j.2.2.1 d⟩).bind λy n ⟨g2,_,b2,f2⟩=>?_
   refine(IK l k f n y (g2.ws (c.ws h))).mono λz t ⟨g3,q,f3⟩=>⟨c.trans (g2.trans g3),q.trans (b2.trans (r.trans g.2)),λroots i=>f3 roots (f2 roots ?_)⟩
   exact(f1 _ (by show eX (exL (bK s).ex) _;rw[g.1];exact i)).perm (List.Perm.swap _ _ _)
def zJ(c:EOk N E)(b:EOk N S):∀m,EOk N (mU E S m)
 |0=>Gw c b
 |m+1=>λs h=>by
  simp only[mU]
  refine(zJ c b m s h).bind λa d ⟨g1,f,f1⟩=>?_
  exact(IK (zJ c b m) (5-m) _ d a (g1.1.ws h)).mono λy g ⟨g2,b2,f2⟩=>⟨⟨g1.1.trans g2,by have:=g1.2;have:=g2.le;omega⟩,b2.trans f,λroots e=>f2 roots (f1 roots e)⟩
theorem Mo(o:EOk N E)(w:EOk N S):EOk N (yF E S):=by
 intro s h;unfold yF;refine(zJ o w 6 s h).bind λa b ⟨g1,t,f1⟩=>?_;have c:=g1.1.ws h;have f:=nI c;have t1:=nG c [63];have j:=t1.1.ws c;simp only;split
 .rename_i l;have n:(cur b).k≠0:=by
   have:isS b [63]=true:=by
    unfold cN at l;split at l
    .assumption
    .cases l
   exact qW this
  refine Sat.bind (qD j (a:=(cur b).a) (q:=(cN b [63]).2.quiet) ⟨f.1,f.2.1⟩ (P:=λ(z:Nat×Nat) s'=>Go1 N {(cN b [63]).2 with deep:=(cN b [63]).2.deep+1,quiet:=(cN b [63]).2.quiet} s'/\s'.bl=s.bl/\∀roots,eX (exL s.ex) roots->eX (exL s'.ex) ([a,z.1,z.2]++roots)) λr=>?_) λz C ⟨q,⟨g2,b2,f2⟩,A⟩=>?_
  .refine(o _ r).bind λx G ⟨g3,B,f3⟩=>?_;have d:=g3.1.ws r;refine(oW d [58]).bind λ_ F ⟨g4,u,b4⟩=>?_;have g:=g4.1.ws d;refine(o _ g).bind λy D ⟨g5,b5,f5⟩=>?_;refine⟨g3.1.trans (g4.1.trans g5.1),b5.trans (b4.trans (B.trans (t1.2.2.2.trans t))),λroots m=>?_⟩;have v:=f3 _ (by show eX (exL (cN b [63]).2.ex) _;rw[t1.2.2.1];exact f1 roots m);have k2:=f5 _ (by rw[u];exact v);refine k2.perm ?_;show(y::x::a::roots).Perm (a::x::y::roots);exact((List.Perm.swap x y _).trans ((List.Perm.swap a y _).cons x)).trans (List.Perm.swap a x _)
  .subst A;have p:=g2.back;exact uK h ⟨g1.1.trans (t1.1.trans p),by have:=g1.2;have:=t1.1.le;have:=g2.le;show s.i<q.i;simp only at this;omega⟩ b2 (e:=⟨28,[],[a,z.1,z.2],[],(cur b).a⟩) ⟨f.1,f.2.2.1 n⟩ f2
 .exact⟨⟨g1.1.trans t1.1,by have:=g1.2;have:=t1.1.le;omega⟩,t1.2.2.2.trans t,λroots m=>by rw[t1.2.2.1];exact f1 roots m⟩
end
def Ck(N:Int):EOk N dead:=λ_ h=>⟨oU _,h.pN⟩
def xI(N:Int):∀d,EOk N (mM d).1/\EOk N (mM d).2
 |0=>⟨Mo (Ck N) (Ck N),Gw (Ck N) (Ck N)⟩
 |d+1=>⟨Mo (xI N d).1 (xI N d).2,Gw (xI N d).1 (xI N d).2⟩
def wt(t:Tok):Nat:=if t.k=0 then 0 else if t.k=3/\(insP t.t).isSome=true then t.t.length+2 else 1
def wts(l:List Tok):Nat:=(l.map wt).sum
def phi(s:PS):Nat:=s.ex.length+s.bl.length+wts (s.toks.drop s.i)
def CU(t:Tok)(l:List Tok):wts (t::l)=wt t+wts l:=by simp[wts]
def wO:∀(l:List Tok) (i:Nat),wts (l.drop i)<=wts l
 |[],i=>by simp
 |t::l,0=>aQ _
 |t::l,i+1=>by
  rw[dI,CU]
  have:=wO l i
  omega
def Lj:∀(n:Nat) (s:Str) (a cnt:Nat) (l:List Tok),nA n s a cnt=.ok l->wts l<=s.length
 |0,_,_,_,_,h=>by simp[nA]at h
 |n+1,s,a,cnt,l,h=>by
  have v:=Ai (s.length+1) s
  simp only[nA]at h
  split at h
  .cases h
  split at h
  .injection h with h
   subst h
   rw[CU]
   simp[wt,wts]
  rename_i i
  split at h
  .cases h
  rename_i j
  split at h
  .cases h
  have e:s.length-(gU (s.length+1) s).1=(s.drop (gU (s.length+1) s).1).length:=(aW ..).symm
  obtain⟨r,q,p,o,m,f⟩:=Kd i (kG rfl (kG rfl (Classical.not_not.1 j)):mY (s.drop (gU (s.length+1) s).1)=((mY (s.drop (gU (s.length+1) s).1)).1,(mY (s.drop (gU (s.length+1) s).1)).2.1,0))
  split at h
  .rename_i u d
   injection h with h
   subst h
   have g:=Lj n _ _ _ _ d
   rw[aW]at g
   rw[CU]
   have:wt ⟨(mY (s.drop (gU (s.length+1) s).1)).1.k,(mY (s.drop (gU (s.length+1) s).1)).1.t,((a+(gU (s.length+1) s).1:Nat):Int)⟩<=(mY (s.drop (gU (s.length+1) s).1)).2.1:=by
    unfold wt;split
    .omega
    split
    .rename_i b;rcases f b.1 with h|h
     .rw[h]at b;simp at b
     .exact h
    .omega
   omega
  .rename_i c;exact absurd h (c l)
def FM{l:List Tok}(h:mS s=.ok l):wts l<=s.length:=by
 unfold mS at h;split at h
 .cases h
 split at h
 .cases h
 exact Lj _ _ _ _ _ h
abbrev TT:Int->Prop:=λ_=>True
def nV(s:PS):phi (bK s)<=phi s:=by
 unfold bK;split
 .unfold phi;simp only;have:=wO (s.toks.drop s.i) (kK (s.toks.drop s.i));rw[jI]at this;omega
 .exact aQ _
def Dr{s:PS}(h:(pH s).k≠0):phi (step1 s)+wt (pH s)<=phi s:=by
 have a:s.i<s.toks.length:=by
  by_cases b:s.i<s.toks.length
  .exact b
  .unfold pH at h;rw[aM,dY (by omega)]at h;exact absurd rfl h
 unfold phi step1;simp only;rw[eW a,CU];have:pH s=s.toks[s.i]:=by unfold pH;rw[aM,aH a];rfl
 rw[this];omega
def Jx{t:Tok}(h:t.k≠0):1<=wt t:=by unfold wt;rw[aE h];split<;>omega
def tL{s:PS}(h:(cur s).k≠0):phi (step1 (bK s))+wt (pH (bK s))<=phi s/\phi (step1 (bK s))+1<=phi s:=by
 have a:(pH (bK s)).k≠0:=h;have d:=Dr a;have c:=nV s;have b:=Jx a;omega
def pR(s:PS)(w:Str):phi (cN s w).2<=phi s/\((cN s w).1=true->phi (cN s w).2+1<=phi s):=by
 unfold cN;split
 .rename_i a;have:=(tL (qW a)).2;exact⟨Nat.le_of_succ_le this,λ_=>this⟩
 .exact⟨nV s,λe=>by cases e⟩
def pQ(s:PS)(w:Str):Sat (oX s w) (λ_ s'=>phi s'+1<=phi s) TT:=by
 unfold oX;split
 .rename_i a;exact(tL (qW a)).2
 .trivial
def zF(s:PS):phi (kP s)<=phi s/\((cur s).k≠0->phi (kP s)+wt (pH (bK s))<=phi s/\phi (kP s)+1<=phi s):=by
 unfold kP;split
 .rename_i a;have:=tL a;exact⟨by omega,λ_=>this⟩
 .rename_i a;exact⟨nV s,λe=>absurd e a⟩
def sI(s:PS)(k:Int):Sat (mT s k) (λ_ s'=>phi s'<=phi s/\(k≠0->phi s'+1<=phi s)) TT:=by
 unfold mT;split
 .rename_i a;have:=zF s;exact⟨this.1,λh=>(this.2 (by rw[a];exact h)).2⟩
 .trivial
def zG(s:PS):phi (hY s)<=phi s:=by
 have h:=nV s;unfold hY phi at*
 simp only at*
 have e:(bK s).toks=s.toks:=by unfold bK;split<;>rfl
 have:=wO ((bK s).toks.drop (bK s).i) (kK (s.toks.drop (bK s).i));rw[jI]at this;omega
def pJ(s:PS)(e:Ex):Sat (qS s e) (λ_ s'=>phi s'<=phi s+1) TT:=by
 show phi _<=_;unfold phi;simp only[aB,aA,aD];omega
def qH{s:PS}{q:Bool}{f:PS->R α}{P:α->Nat->Prop}(h:Sat (f {s with deep:=s.deep+1,quiet:=q}) (λx s'=>P x (phi s')) TT):Sat (within s a q f) (λx s'=>P x (phi s')) TT:=by
 unfold within;split
 .trivial
 .exact h.bind λx s' b=>b
def EZ(F:PS->R Nat):Prop:=∀s,Sat (F s) (λ_ s'=>phi s'<=phi s) TT
section
variable{E S:PS->R Nat}
def Ix(f:EZ E)(s:PS)(t:Str)(a:Int):Sat (pF E s t a) (λ_ s'=>phi s'<=phi s+t.length) TT:=by
 unfold pF;split
 .trivial
 .rename_i l d;have h:=FM d;refine(f _).bind λx q e=>?_;refine(sI q 0).bind λ_ c b=>?_;have g:phi c<=s.ex.length+s.bl.length+wts l:=dN b.1 e;show phi _<=_;unfold phi at g⊢;simp only;omega
def Iu(s:PS)(t:Tok):Sat (qG s t) (λ_ s'=>s'=s) TT:=by
 unfold qG;split
 .trivial
 .rfl
def Ev(f:EZ E):∀(n:Nat) (s:PS) (rest:Str) (a:Int) (us:List Nat) (ks:List Str),Sat (mK E n s rest a us ks) (λ_ s'=>phi s'<=phi s+rest.length) TT
 |0,_,_,_,_,_=>trivial
 |n+1,s,rest,a,us,ks=>by
  have one:∀(e:Ex),phi {s with ex:=s.ex++[e]}<=phi s+1:=λe=>pJ s e
  simp only[mK]
  split
  .exact yR _ _
  rename_i d
  have j:1<=rest.length:=iO.2 d
  split
  .have:=one ⟨5,iW rest,[],[],a⟩
   show phi _<=_
   omega
  .rename_i i e o
   obtain⟨i1,i2,i3⟩:=DK rest.length rest (aQ _) i e o
   have c:∃b,b=(if 0<i then{s with ex:=s.ex++[⟨5,iW (rest.take i),[],[],a⟩]}else s)/\phi b<=phi s+i:=by
    refine⟨_,rfl,?_⟩;split
    .have:=one ⟨5,iW (rest.take i),[],[],a⟩;omega
    .omega
   obtain⟨b,p,g1⟩:=c;rw[<-p];have k:(rest.drop e).length=rest.length-e:=aW ..;split
   .refine Sat.bind (qH (P:=λ_ n=>n<=phi b+(e-1-(i+2))) ?_) λx m q=>?_
    .refine(Ix f _ _ _).mono λx s' h=>?_;refine dN h ?_;have:((rest.drop (i+2)).take (e-1-(i+2))).length<=e-1-(i+2):=List.length_take_le _ _;exact zZ this _
    .refine(Ev f n m (rest.drop e) _ _ _).mono λy l g=>?_;rw[k]at g;omega
   .refine(Ev f n b (rest.drop e) _ _ _).mono λy l g=>?_;rw[k]at g;omega
def TN(d:EZ E)(s:PS)(t:Tok)(c:t.k=3):Sat (wS E s t) (λ_ s'=>phi s'<=phi s+wt t) TT:=by
 unfold wS;split
 .rename_i a;have e:wt t=t.t.length+2:=by unfold wt;rw[aE (by omega),aO ⟨c,a⟩]
  refine(Ev d _ s t.t _ _ _).bind λx b i=>?_;refine(pJ b _).mono λy f g=>?_;omega
 .rename_i a;have e:wt t=1:=by unfold wt;rw[aE (by omega),aE (λh=>a h.2)]
  rw[e];exact pJ s _
def Iz(b:EZ E)(w:Str):∀(n:Nat) (s:PS) (out:List Nat),Sat (qX E w n s out) (λ_ s'=>phi s'<=phi s) TT
 |0,_,_=>trivial
 |n+1,s,out=>by
  have t1:=pR s w
  have step:∀{a:PS},phi a<=phi s->Sat ((E a).bind λx s'=>qX E w n s' (out++[x])) (λ_ s'=>phi s'<=phi s) TT:=λ{a} g1=>
   (b a).bind λx c g2=>(Iz b w n c (out++[x])).mono λy d g3=>by omega
  simp only[qX]
  split
  .exact t1.1
  split
  .rename_i e
   have:=step t1.1
   exact this
  .refine(pQ _ [44]).bind λ_ a g1=>?_
   have t2:=pR a w
   split
   .show phi _<=_
    omega
   .exact step (by omega)
def LJ(a:EZ E)(w:Str)(s:PS):Sat (Cx E w s) (λ_ s'=>phi s'<=phi s) TT:=Iz a w _ s []
def TP(c:EZ E){s:PS}(h:(cur s).k≠0)(n:bK s=s)(a:Int):Sat (xE E s a) (λ_ s'=>phi s'+1<=phi s) TT:=by
 have p:=(tL h).2;rw[n]at p;have r:=nV (step1 s);unfold xE;simp only;split
 .refine(LJ c [93] _).bind λus m g1=>?_;show phi m+1<=_;omega
 .rename_i o;have b:(cur (step1 s)).k≠0:=λe=>o (.inl (by rw[e];decide));have q:=(tL b).2;refine(sI _ 1).bind λt l g2=>(sI l 1).bind λu j g3=>?_;split
  .trivial
  refine(c j).bind λx i g4=>(pQ i _).bind λ_ g g5=>(c g).bind λy f g6=>(pQ f _).bind λ_ d g7=>?_;show phi d+1<=_;omega
def LG(d:EZ E)(a:Int):∀(n:Nat) (s:PS) (us:List Nat) (ks:List Str),Sat (Ar E a n s us ks) (λ_ s'=>phi s'<=phi s) TT
 |0,_,_,_=>trivial
 |n+1,s,us,ks=>by
  have t1:=pR s [125]
  have i:=zF (cN s [125]).2
  simp only[Ar]
  split
  .exact t1.1
  refine Sat.bind (P:=λ_ c=>c=kP (cN s [125]).2) ?_ λk c g=>?_
  .split
   .exact Iu _ _
   .split
    .rfl
    .trivial
  subst g
  split
  .trivial
  refine(pQ _ [61]).bind λ_ f g4=>(d f).bind λx b g5=>?_
  have t5:=pR b [44]
  have m5:=nV (cN b [44]).2
  split
  .trivial
  have l6:phi (if(cN b [44]).1=true then(cN b [44]).2 else bK (cN b [44]).2)<=phi b:=by split<;>omega
  generalize (if(cN b [44]).1=true then(cN b [44]).2 else bK (cN b [44]).2)=s6 at*
  have l7:=zG s6
  refine(LG d a n (hY s6) _ _).mono λe h g8=>?_
  omega
theorem LI(f:EZ E):EZ (nC E):=by
 intro s;have z:=nV s;have lW:∀w,isS (bK s) w=isS s w:=λw=>by unfold isS;rw[pO]
 unfold nC;simp only;split
 .rename_i a;have h:=(tL (s:=s) (by rw[a];decide)).2;exact(pJ _ _).mono λx s' g=>by omega
 split
 .rename_i a;have h:=(tL (s:=s) (by rw[a];decide)).1;refine(TN f _ _ a).mono λx s' g=>?_;have e:wt (cur s)=wt (pH (bK s)):=rfl;omega
 split
 .rename_i a;have h:=(tL (s:=s) (by rw[a.1];decide)).2;have y:=nV (step1 (bK s));split
  .rename_i b;refine Sat.bind (qH (P:=λ_ n=>n<=phi (bK (step1 (bK s)))) ?_) λus c g2=>?_
   .refine(LJ f [41] _).mono λx s' g=>dN g ?_;show phi (step1 _)<=_;exact zZ (by have:=wO ((bK (step1 (bK s))).toks.drop (bK (step1 (bK s))).i) 1;rw[jI]at this;exact this) _
   .exact(pJ c _).mono λx s' g=>by omega
  .exact(pJ _ _).mono λx s' g=>by omega
 have step1_le:∀(s:PS),phi (step1 s)<=phi s:=λs=>zZ (by have:=wO (s.toks.drop s.i) 1;rw[jI]at this;exact this) _;have v:∀(s:PS) (d:Nat) (q:Bool),phi {s with deep:=d,quiet:=q}=phi s:=λ_ _ _=>rfl;split
 .refine Sat.mono (qH (P:=λ_ n=>n<=phi (bK s)) ?_) λx s' g=>by omega
  refine(f _).bind λx l g1=>(pQ l _).bind λ_ o g2=>?_;show phi o<=_;have u:=step1_le (bK s);have h:phi l<=phi (step1 (bK s)):=g1;omega
 split
 .rename_i b;rw[lW]at b;have a:(pH (bK s)).k≠0:=qW b;have r:(pH (bK s)).k=4:=by
   unfold isS cur at b;simp only[bV,fK]at b;exact b.1
  refine Sat.bind (qH (P:=λ_ n=>n+1<=phi (bK s)) ?_) λe c g2=>?_
  .have m:bK {bK s with deep:=(bK s).deep+1,quiet:=true}={bK s with deep:=(bK s).deep+1,quiet:=true}:=by
    have j:(bK s).i<(bK s).toks.length:=by
     by_cases p:(bK s).i<(bK s).toks.length
     .exact p
     .unfold pH at a;rw[aM,dY (by omega)]at a;exact absurd rfl a
    have:kK ((bK s).toks.drop (bK s).i)=0:=by
     refine Lt (t:=pH (bK s)) ?_ (by omega);unfold pH;rw[aM,aH j];rfl
    unfold bK;simp only[mE];show({bK s with i:=(bK s).i+kK ((bK s).toks.drop (bK s).i),deep:=(bK s).deep+1,quiet:=true}:PS)=_;rw[this];rfl
   refine(TP f ?_ m _).mono λe s' g=>g;unfold cur;rw[m];exact a
  .exact(pJ c _).mono λx s' g=>by omega
 split
 .rename_i b;rw[lW]at b;have a:(pH (bK s)).k≠0:=qW b;have u:=Dr a;have h:=Jx a;refine Sat.bind (qH (P:=λ_ n=>n+1<=phi (bK s)) ?_) λe c g2=>?_
  .unfold GK;refine(LG f _ _ _ [] []).mono λe s' g=>?_;have A:=zG (step1 (⟨(bK s).toks,(bK s).i,(bK s).off,(bK s).deep+1,false,(bK s).ex,(bK s).bl⟩:PS));have r:phi (step1 (⟨(bK s).toks,(bK s).i,(bK s).off,(bK s).deep+1,false,(bK s).ex,(bK s).bl⟩:PS))=phi (step1 (bK s)):=rfl;omega
  .exact(pJ c _).mono λx s' g=>by omega
 .trivial
theorem BW(c:EZ E):∀(n:Nat) (s:PS) (x:Nat),Sat (nN E n s x) (λ_ s'=>phi s'<=phi s) TT
 |0,_,_=>trivial
 |n+1,s,x=>by
  have m:=nV s
  have t1:=pR (bK s) [46]
  have lW:∀w,isS (bK s) w=isS s w:=λw=>by unfold isS;rw[pO]
  have step1_le:∀(s:PS),phi (step1 s)<=phi s:=λs=>zZ (by have:=wO (s.toks.drop s.i) 1;rw[jI]at this;exact this) _
  simp only[nN]
  split
  .rename_i p
   refine(sI _ 1).bind λu b g2=>(pJ b _).bind λy a g3=>(BW c n a y).mono λz d g4=>?_
   have:=t1.2 p
   have:=g2.2 (by decide)
   omega
  split
  .rename_i h
   rw[lW]at h
   have f:(pH (bK s)).k≠0:=qW h
   have v:=Dr f
   have t:=Jx f
   refine Sat.bind (qH (P:=λ_ n=>n+1<=phi (bK s)) ?_) λo b g2=>?_
   .have r:phi (step1 (⟨(bK s).toks,(bK s).i,(bK s).off,(bK s).deep+1,true,(bK s).ex,(bK s).bl⟩:PS))=phi (step1 (bK s)):=rfl
    have t5:=pR (step1 (⟨(bK s).toks,(bK s).i,(bK s).off,(bK s).deep+1,true,(bK s).ex,(bK s).bl⟩:PS)) [42]
    split
    .refine(pQ _ _).bind λ_ e g=>?_
     show phi e+1<=_
     omega
    .refine(c _).bind λy l g=>(pQ l _).bind λ_ e A=>?_
     show phi e+1<=_
     omega
   .cases o with
    |some y=>
     simp only
     exact(pJ b _).bind λz a g3=>(BW c n a z).mono λz d g4=>by omega
    |none=>
     simp only
     exact(pQ b _).bind λ_ a g3=>(sI a 1).bind λu d g4=>(pJ d _).bind λz j g5=>(BW c n j z).mono λz q g6=>by have:=g4.1;omega
  .exact m
def TO(a:EZ E):EZ (Ct E):=λs=>by
 unfold Ct
 exact(LI a s).bind λx b g1=>(BW a _ b x).mono λy c g2=>by omega
def GF(f:EZ E)(e:EZ S):EZ (tE E S):=by
 intro s;have j:=nV s;have lW:∀w,isS (bK s) w=isS s w:=λw=>by unfold isS;rw[pO]
 have one:∀(w:Str) (k:Int),isS s w=true->Sat ((within (bK s) (cur s).a (bK s).quiet λq=>S (step1 q)).bind λx c=>qS c ⟨k,[],[x],[],(cur s).a⟩) (λ_ s'=>phi s'<=phi s) TT:=λw k b=>by
  have d:(pH (bK s)).k≠0:=qW b;have o:=Dr d;have m:=Jx d;refine Sat.bind (qH (P:=λ_ n=>n+1<=phi (bK s)) ?_) λx c g2=>?_
  .refine(e _).mono λx s' g=>?_;have l:phi (step1 (⟨(bK s).toks,(bK s).i,(bK s).off,(bK s).deep+1,(bK s).quiet,(bK s).ex,(bK s).bl⟩:PS))=phi (step1 (bK s)):=rfl;omega
  .exact(pJ c _).mono λy h g3=>by omega
 unfold tE;simp only;split
 .rename_i b;rw[lW]at b;exact one [33] 14 b
 split
 .rename_i b;rw[lW]at b;exact one [45] 13 b
 .exact(TO f (bK s)).mono λx c g2=>by omega
def Iv{J:PS->R Nat}(c:EZ J)(k:Nat):∀(f:Nat) (s:PS) (x:Nat),Sat (tR J k f s x) (λ_ s'=>phi s'<=phi s) TT
 |0,_,_=>trivial
 |f+1,s,x=>by
  have h:=nV s
  simp only[tR]
  split
  .exact h
  .rename_i i
   have a:(cur s).k≠0:=λe=>i (by unfold qI;rw[e];rfl)
   have l:=(tL a).2
   exact(c _).bind λb g g1=>(pJ g _).bind λy d g2=>(Iv c k f d y).mono λz j g3=>by omega
def zH(c:EZ E)(b:EZ S):∀m,EZ (mU E S m)
 |0=>GF c b
 |m+1=>λs=>by
  simp only[mU]
  exact(zH c b m s).bind λa d g1=>(Iv (zH c b m) _ _ d a).mono λy e g2=>by omega
def LH(c:EZ E)(j:EZ S):EZ (yF E S):=by
 intro s;unfold yF;refine(zH c j 6 s).bind λa b g1=>?_;have t1:=pR b [63];simp only;split
 .rename_i h;refine Sat.bind (qH (P:=λ_ n=>n<=phi (cN b [63]).2) ?_) λz d g2=>?_
  .refine(c _).bind λx g g3=>(pQ g _).bind λ_ f g4=>(c f).bind λy e g5=>?_;have l:phi (⟨(cN b [63]).2.toks,(cN b [63]).2.i,(cN b [63]).2.off,(cN b [63]).2.deep+1,(cN b [63]).2.quiet,(cN b [63]).2.ex,(cN b [63]).2.bl⟩:PS)=phi (cN b [63]).2:=rfl;show phi e<=_;omega
  .exact(pJ d _).mono λy k g3=>by have:=t1.2 h;omega
 .show phi _<=_;omega
end
def Bz:EZ dead:=λ_=>trivial
def Az:∀d,EZ (mM d).1/\EZ (mM d).2
 |0=>⟨LH Bz Bz,GF Bz Bz⟩
 |d+1=>⟨LH (Az d).1 (Az d).2,GF (Az d).1 (Az d).2⟩
section
variable{E B:PS->R Nat}
def GG:∀(n:Nat) (s:PS) (ls:List Str),Sat (pL n s ls) (λ_ s'=>phi s'<=phi s) TT
 |0,_,_=>trivial
 |n+1,s,ls=>by
  have d:=zF s
  simp only[pL]
  split
  .exact(Iu _ _).bind λl c a=>by subst a;exact(GG n _ (ls++[l])).mono λ_ b g=>by omega
  .exact nV s
def Ni(l:List Tok)(h:i<=j):wts (l.drop j)<=wts (l.drop i):=by
 have:=wO (l.drop i) (j-i);rw[jI,show i+(j-i)=j by omega]at this;exact this
def LQ(s:PS):s.i<=(bK s).i:=by unfold bK;split;exact yR _ _;exact aQ _
def TU(o:EZ E)(p:EZ B)(s:PS)(us:List Atr)(bs:List Nat):Sat (vX E B s us bs) (λ_ s'=>phi s'<=phi s) TT:=by
 unfold vX;refine Sat.bind (P:=λ_ a=>a=step1 (bK s)/\phi a+1<=phi s) ?_ λt a ⟨d,c⟩=>?_
 .unfold mT;split
  .rename_i n;have b:(cur s).k≠0:=by rw[n];decide
   refine⟨by unfold kP;rw[aO b],((zF s).2 b).2⟩
  .trivial
 have t1:=pR a [61];split
 .exact(o _).bind λx e h=>by show phi e<=_;omega
 .rename_i f;refine Sat.bind (p _) λx e h=>?_;show phi e<=_;refine dN h ?_;have q:(cN a [61]).2=bK a:=by
   unfold cN at f⊢;split
   .rename_i g;rw[aO g]at f;exact absurd rfl f
   .rfl
  rw[q];have g:s.i<=(bK a).i-1:=by
   have c:=LQ s;have h:=LQ a;have r:a.i=(bK s).i+1:=by rw[d];rfl
   omega
  have m:(bK a).ex=s.ex:=(kO a).1.trans (by rw[d];exact(kO s).1);have l:(bK a).bl=s.bl:=(kO a).2.trans (by rw[d];exact(kO s).2);have j:(bK a).toks=s.toks:=by
   have c:∀s:PS,(bK s).toks=s.toks:=λs=>by unfold bK;split<;>rfl
   rw[c,d];exact c s
  unfold phi;simp only;rw[m,l,j];have:=Ni s.toks g;omega
def Iw(b:EZ E)(c:EZ B):∀(n:Nat) (s:PS) (us:List Atr) (bs:List Nat),Sat (pD E B n s us bs) (λ_ s'=>phi s'<=phi s) TT
 |0,_,_,_=>trivial
 |n+1,s,us,bs=>by
  have t1:=pR s [125]
  simp only[pD]
  split
  .exact t1.1
  refine(TU b c _ us bs).bind λx a g1=>?_
  have m1:=nV a
  split
  .trivial
  have l1:=zG (bK a)
  exact(Iw b c n _ x.1 x.2).mono λy d g2=>by omega
def Iy(f:EZ E)(h:EZ B):EZ (tU E B):=by
 intro s;unfold tU;refine(sI s 1).bind λt d g1=>(GG _ d []).bind λls b g2=>?_;have j:=nV b;split
 .trivial
 refine Sat.bind (qH (P:=λ_ n=>n<=phi (bK b)) ?_) λx c g3=>?_
 .refine(Iw f h _ _ [] []).mono λx s' g=>?_;have l:=zG (step1 (⟨(bK b).toks,(bK b).i,(bK b).off,(bK b).deep+1,false,(bK b).ex,(bK b).bl⟩:PS));have k:phi (step1 (⟨(bK b).toks,(bK b).i,(bK b).off,(bK b).deep+1,false,(bK b).ex,(bK b).bl⟩:PS))<=phi (bK b):=zZ (Ni _ (qA _)) _;omega
 .show phi _<=_;have m:=g1.2 (by decide);have e:phi {c with bl:=c.bl++[⟨t.t,ls,x.1,x.2,t.a⟩]}=phi c+1:=by
   unfold phi;simp only[aB,aA,aD];omega
  have o:phi (⟨c.toks,c.i,c.off,c.deep,c.quiet,c.ex,c.bl++[⟨t.t,ls,x.1,x.2,t.a⟩]⟩:PS)=phi c+1:=e;omega
end
def MV:∀d,EZ (uN d)
 |0=>Iy Bz Bz
 |d+1=>Iy (Az d).1 (MV d)
def aDw(s:PS):s.ex.length<=phi s/\s.bl.length<=phi s:=by unfold phi;omega
end
end Go.Syn
namespace Go.Eng
section
open Go
section
variable{P:Program}
def AR(P:Program)(g:FuncId)(caps:List Value)(u:FrameMode)(w:World)(K:World->Prop):Prop:=
 CallsD P g caps.toArray u w λe a w'=>(∃v,e=.returned v)/\settle a=.returning/\K w'
def Mx:List Oper->Option (Nat×FuncId×List Operand)
 |[o1,o2]=>
  match o1.guard,o2.guard,o1.dst,o1.op,o2.dst,o2.op with
  |none,none,some t,.makeFunc (.func g) first caps,none,.defer c=>
   match first.toList,c.callee,c.args.toList with
   |[],.value (.tmp t'),[]=>bif Nat.beq t t' then some (t,g,caps.toList)else none
   |_,_,_=>none
  |_,_,_,_,_,_=>none
 |_=>none
def QO(P:Program)(fn:Func)(R:Ending->World->Prop)(f:Fr)(w:World):Prop:=FD P fn.results.toList f w λl=>R (.returned (one l)) w
def ME(P:Program)(pl:fG)(fn:Func)(R:Ending->World->Prop):Nat->Code->Nat->Fr->World->Prop
 |0,.seq (.region _ ops _) b,i,f,w=>
  match Mx ops.toList with
  |some (t,g,caps)=>
   @sY ⟨λch w'=>AR P g (caps.map (ev f)) (.panicking ch) w' λc=>QO P fn R f c⟩ P pl b (i+2) (upd f (some t) (.func (.func g) #[] (caps.map (ev f)).toArray)) w
    (λd w'=>AR P g (caps.map (ev f)) .returning w' λc=>QO P fn R d c) (λ_ _ _=>False) (λd w'=>AR P g (caps.map (ev f)) .returning w' λc=>QO P fn R d c)
  |none=>False
 |k+1,.seq a b,i,f,w=>@sY ⟨λch w'=>R (.panicked ch) w'⟩ P pl a (i+1) f w (λd w'=>ME P pl fn R k b (i+1+yA a) d w') (λ_ _ _=>False) (λd w'=>QO P fn R d w')
 |_,_,_,_,_=>False
def aFp(lo t:Nat):ResultVar->Bool
 |.tmp x=>Nat.blt x lo&&!(Nat.beq x t)
 |.cell x _=>Nat.blt x lo&&!(Nat.beq x t)
def MI(P:Program)(fn:Func)(pl:fG)(lo gd:Nat):Nat->Code->Nat->Bool
 |0,.seq (.region _ ops draw) b,i=> !draw&&(lk pl.js i).isNone&&
  (match Mx ops.toList with
  |some (t,g,_)=>Nat.blt t fn.ntmps&&Nat.beq g gd&&fn.results.toList.all (aFp lo t)&&chk P fn.ntmps pl [] lo b (i+2)
  |none=>false)
 |k+1,.seq a b,i=>(lk pl.js i).isNone&&chk P fn.ntmps pl [] 0 a (i+1)&&MI P fn pl lo gd k b (i+1+yA a)
 |_,_,_=>false
def UD{x:Value}{K K':Value->Prop}(d:∀v,K v->K' v)(h:ldW E n x w K):ldW E n x w K':=by
 cases x with
 |pointer a=>
  cases a with
  |none=>exact h
  |some a=>
   cases E with
   |true=>obtain⟨l,c,b⟩:=h;exact⟨l,c,d _ b⟩
   |false=>obtain⟨l,c,b⟩:=h;exact⟨l,c,d _ b⟩
 |_=>exact h
def Et{f b:Fr}{w:World}:∀{l:List ResultVar} {K:List Value->Prop},(∀t,(∃r∈l,r=.tmp t\/∃T,r=.cell t T)->f t=b t)->FD P l f w K->FD P l b w K
 |[],_,_,h=>h
 |r::l,K,h,a=>by
  have c:∀t,(∃r∈l,r=.tmp t\/∃T,r=.cell t T)->f t=b t:=λt ⟨r',g,e⟩=>h t ⟨r',aF _ g,e⟩
  cases r with
  |tmp t=>simp only[FD]at a⊢;rw[<-h t ⟨_,bC,.inl rfl⟩];exact Et c a
  |cell t T=>
   simp only[FD]at a⊢
   rw[<-h t ⟨_,bC,.inr ⟨T,rfl⟩⟩]
   obtain⟨j,i⟩:=pY.out a
   rw[j]
   exact UD (λv d=>Et c d) i
def By{fn:Func}{R:Ending->World->Prop}{g:FuncId}{caps:List Value}{u:FrameMode}{f:Fr}{a:Act}(o:∀(j:Array Value) (w:World),(callFunc g j).run P w=.ok (.enter g j) w)(m:u≠.run)
  (q:∀t,(∃r∈fn.results.toList,r=.tmp t\/∃T,r=.cell t T)->f t=a.tmps.getD t undef)(h:AR P g caps u w λb=>QO P fn R f b):
  Leaves P fn a.tmps R [{target:=.fn (.func g) caps.toArray,args:=#[]}] u w:=by
 refine leaves_cons (f:=g) (args:=caps.toArray) m ?_ (h.mono ?_)
 .have:=o (#[]++caps.toArray) w;rw[show(#[]++caps.toArray:Array Value)=caps.toArray from by simp]at this;show(callFunc g (#[]++caps.toArray)).run P w=_;rw[show(#[]++caps.toArray:Array Value)=caps.toArray from by simp];exact this
 .rintro e l W ⟨⟨v,rfl⟩,n,p⟩;show Leaves P fn a.tmps R [] (settle l) W;rw[n];have i:Ag a.tmps.size a.defers (λt=>a.tmps.getD t undef) a:=⟨rfl,rfl,λ_=>rfl⟩;letI:=noX;obtain⟨k,d,c⟩:=xV (fn:=fn) (K:=λv=>R (.returned v) W) i (Et q p);exact⟨k,c,d⟩
def OB{l:List Oper}{t:Nat}{g:FuncId}{caps:List Operand}(h:Mx l=some (t,g,caps)):∃b a first e c,l=[b,a]/\b.guard=none/\a.guard=none/\b.dst=some t/\b.op=.makeFunc (.func g) first e/\first=#[]/\e.toList=caps/\a.dst=none/\a.op=.defer c/\c.callee=.value (.tmp t)/\c.args=#[]:=by
 unfold Mx at h;split at h
 .rename_i b a;split at h
  .rename_i i u first e c s r q p o n
   split at h
   .rename_i d m k j;cases f:Nat.beq i d with
    |false=>rw[f]at h;cases h
    |true=>
     rw[f]at h;simp only[aV,bB,gA]at h;obtain⟨rfl,rfl,rfl⟩:=h;have:i=d:=lR f;subst this;exact⟨b,a,first,e,c,rfl,s,r,q,p,by simpa using m,rfl,o,n,k,by simpa using j⟩
   .cases h
  .cases h
 .cases h
theorem MD(hm:P.follows .mixedOrders=true){pl:fG}{fn:Func}{R:Ending->World->Prop}{lo:Nat}(V:∀(ar:Array Value) (w:World),(callFunc n ar).run P w=.ok (.enter n ar) w):
  ∀(k:Nat) (c:Code) (i:Nat) (f:Fr) (a:Act) (w:World),MI P fn pl lo n k c i=true->Ag fn.ntmps [] f a->ME P pl fn R k c i f w->c.wp P (bodyPostD P fn R) a w:=by
 intro k;induction k with
 |zero=>
  intro c i f a w p q h;cases c with
  |seq x b=>
   cases x with
   |region id ops draw=>
    simp only[ME]at h;simp only[MI,bV,oF]at p;obtain⟨⟨Z,hl⟩,p⟩:=p;cases B:Mx ops.toList with
    |none=>simp only[B]at h
    |some x=>
     obtain⟨t,g,hn⟩:=x;simp only[B,bV]at h p;obtain⟨⟨⟨S,hg⟩,D⟩,H⟩:=p;obtain rfl:g=n:=lR hg;obtain⟨N,I,first,l,cl,E,g1,g2,d1,p1,rfl,rfl,d2,p2,ha,he⟩:=OB B;subst Z;refine wp_seq (wp_region_list ?_);have A:ops=[N,I].toArray:=by rw[<-E]
     subst A;have Q:t<fn.ntmps:=by simpa using S
     have hv:(l.toList.map (ev f)).toArray=l.map a.eval:=by
      rw[Bw q];apply Array.ext';simp
     show wpList P [N,I].toArray _ [N,I] a w;letI:=noX;refine Kb (K:=λv W=>v=.func (.func g) #[] (l.toList.map (ev f)).toArray/\W=w) q (by simp[pG,g1]) ?_ ?_ (λ_ _ h=>h.elim)
     .unfold KM;rw[p1];exact⟨rfl,rfl⟩
     .rintro v W ⟨rfl,rfl⟩;have m:=q.put (d:=some t) (λx C=>by cases C;exact Q) (.func (.func g) #[] (l.toList.map (ev f)).toArray);rw[d1];unfold wpList;rw[aO (by rw[CV m];simp[pG,g2])];refine .inl ?_;unfold Oper.wp;have G:(execOp (a.put (some t) (.func (.func g) #[] (l.toList.map (ev f)).toArray)).eval I).run P W=.ok (.defer {target:=.fn (.func g) (l.toList.map (ev f)).toArray,args:=#[]}) W:=by
       rw[Bw m];unfold execOp;rw[p2];have e:ev (upd f (some t) (.func (.func g) #[] (l.toList.map (ev f)).toArray)) (.tmp t)=.func (.func g) #[] (l.toList.map (ev f)).toArray:=by
        simp[ev,sC]
       simp[resolve,ha,he,Deferred.ofValue,run_bind,run_pure,e]
      rw[G,Oper.upon_defer,d2];clear G;have u:Ag fn.ntmps [{target:=.fn (.func g) (l.toList.map (ev f)).toArray,args:=#[]}] (upd f (some t) (.func (.func g) #[] (l.toList.map (ev f)).toArray)) ({(a.put (some t) (.func (.func g) #[] (l.toList.map (ev f)).toArray))with defers:={target:=.fn (.func g) (l.toList.map (ev f)).toArray,args:=#[]}::(a.put (some t) (.func (.func g) #[] (l.toList.map (ev f)).toArray)).defers}.put none undef):=by
       refine⟨?_,m.2.1,m.2.2⟩;show _::(a.put _ _).defers=_;rw[m.1]
      generalize ({(a.put (some t) (.func (.func g) #[] (l.toList.map (ev f)).toArray))with defers:={target:=.fn (.func g) (l.toList.map (ev f)).toArray,args:=#[]}::(a.put (some t) (.func (.func g) #[] (l.toList.map (ev f)).toArray)).defers}.put none undef)=a2 at u⊢;show b.wp P (bodyPostD P fn R) a2 W;refine@yH ⟨λch W=>AR P g (l.toList.map (ev f)) (.panicking ch) W λM=>QO P fn R f M⟩ P fn.ntmps [{target:=.fn (.func g) (l.toList.map (ev f)).toArray,args:=#[]}] pl hm b [] lo (i+2) _ a2 W _ _ _ _ H u h (λL o W j _ s=>?_) (λ_ _ _ _ _ _ s=>s.elim) (λL o W j _ s=>?_) (λch o W B S C=>?_)
      .show Leaves P fn o.tmps R o.defers .returning W;rw[j.1];exact By V (by simp) (λt _=>(j.2.2 t).symm) s
      .show Leaves P fn o.tmps R o.defers .returning W;rw[j.1];exact By V (by simp) (λt _=>(j.2.2 t).symm) s
      .show Leaves P fn o.tmps R o.defers (.panicking ch) W;rw[B];refine By (f:=f) V (by simp) (λx O=>?_) C;have F:x<lo/\x≠t:=by
        obtain⟨r,U,z⟩:=O;have:=jB.1 D r U;have J:(Nat.blt x lo&&!(Nat.beq x t))=true:=by
         rcases z with rfl|⟨T,rfl⟩
         .exact this
         .exact this
        simp only[bV,oF]at J;refine⟨by simpa using J.1,λe=>?_⟩;rw[e]at J;have h3:=J.2;rw[Nat.beq_refl]at h3;cases h3
       have X:Nat.ble lo x=false:=by
        cases hb:Nat.ble lo x with
        |false=>rfl
        |true=>exact absurd (dM F.1 (mQ hb)) (Nat.lt_irrefl _)
       rw[S x (by unfold inS;rw[X];rfl)];simp[sC,F.2]
   |_=>simp[MI]at p
  |_=>simp[MI]at p
 |succ k ih=>
  intro c i f a w p q h;cases c with
  |seq x y=>
   simp only[ME]at h;simp only[MI,bV]at p;obtain⟨⟨hl,hh⟩,hf⟩:=p;refine wp_seq ?_;letI:HX:=⟨λch W=>R (.panicked ch) W⟩;refine yH hm x [] 0 (i+1) f a w _ _ _ _ hh q h (λL o W j _ h'=>ih y _ L o W hf j h') (λ_ _ _ _ _ _ s=>s.elim) (λL o W j _ s=>?_) (λch o W B _ C=>?_)
   .show Leaves P fn o.tmps R o.defers .returning W;rw[j.1];obtain⟨v',Y,z⟩:=xV (fn:=fn) (K:=λv=>R (.returned v) W) j s;exact⟨v',z,Y⟩
   .show Leaves P fn o.tmps R o.defers (.panicking ch) W;rw[B];exact C
  |_=>simp[MI]at p
def Va(P:Program)(fn:Func)(pl:fG)(k:Nat)(args:List Value)(w:World)(R:Ending->World->Prop):Prop:=
 match fn.body with
 |some c=>ME P pl fn R k c 0 (fr0 args) w
 |none=>False
def Ea(P:Program)(fn:Func)(pl:fG)(lo gd k a:Nat):Bool:=
 match fn.body with
 |some c=>Nat.ble a fn.ntmps&&MI P fn pl lo gd k c 0
 |none=>false
def Mp{nt:Nat}{args:List Value}(b:args.length<=nt):Ag nt [] (fr0 args) {tmps:=args.toArray++Array.replicate (nt-args.toArray.size) undef,defers:=[]}:=by
 refine⟨rfl,by simp;omega,λt=>?_⟩;simp only[lU,Array.getElem?_append,aI,bP,Array.getElem?_replicate,fr0,aM];split
 .rfl
 .rename_i a;rw[dY (by omega)];split<;>rfl
def Ow{g:FuncId}{fn:Func}{pl:fG}{args:List Value}{R:Ending->World->Prop}{lo k:Nat}(f:P.follows .mixedOrders=true)(j:P.funcs[g]?=some fn)(e:∀(d:Array Value) (w:World),(callFunc i d).run P w=.ok (.enter i d) w)
  (a:Ea P fn pl lo i k args.length=true)(h:Va P fn pl k args w R):Calls P g args.toArray w R:=by
 unfold Va at h;unfold Ea at a;cases b:fn.body with
 |none=>rw[b]at h;exact h.elim
 |some c=>
  rw[b]at h a;simp only[bV]at a;exact calls_of_wp_defers j b (MD f e k c 0 _ _ w a.2 (Mp (mQ a.1)) h)
def aFj[HX](P:Program)(g:FuncId)(fn:Func)(pl:fG)(args:List Value)(w:World)(K:Value->World->Prop)(lo gd k b:Nat)(X:Prop)(i:args.length=b)(f:P.follows .mixedOrders=true)(j:P.funcs[g]?=some fn)
  (m:Ea P fn pl lo gd k b=true)(l:Va P fn pl k args w (HZ K)=X)(e:∀(c:Array Value) (w:World),(callFunc g c).run P w=.ok (.enter g c) w)(a:∀(d:Array Value) (w:World),(callFunc gd d).run P w=.ok (.enter gd d) w)(h:X):aL P g args w K:=by
 unfold aL;rw[e];exact Ow f j a (by rw[i];exact m) (by rw[l];exact h)
end
end
end Go.Eng
