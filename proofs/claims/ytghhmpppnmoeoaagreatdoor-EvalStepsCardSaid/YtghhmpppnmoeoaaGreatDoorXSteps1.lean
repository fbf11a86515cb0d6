/- One plain sentence: contracts and plain laws that the claim rests on. Conditions: those that each states. -/
import Derived.Orders
import Derived.Laws.World
import Derived.KernelRfl
import Derived.Laws.Strings
import Derived.Tactics
import Derived.Scope
import Derived.Below
import Derived.Laws.AppendOwn
import Derived.Laws.BytesArg
import Derived.Test.YtghhmpppnmoeoaaGreatDoorProg
import Derived.Recover
set_option linter.all false
set_option linter.unusedSimpArgs false
set_option linter.unusedVariables false
set_option linter.unusedSectionVars false
set_option maxRecDepth 100000
abbrev _root_.bD := @Option.some.injEq
abbrev _root_.dT := @List.map_cons
abbrev _root_.aD := @if_neg
abbrev _root_.aA := @List.length_cons
abbrev _root_.cI := @List.length_take
abbrev _root_.fA := @Nat.add_zero
abbrev _root_.bT := @ne_eq
abbrev _root_.xZ := @not_true_eq_false
abbrev _root_.nG := @if_false
abbrev _root_.aN := @cond_false
abbrev _root_.aO := @cond_true
abbrev _root_.AC := @Array.ext'
abbrev _root_.yG := @Array.all_eq_true_iff_forall_mem
abbrev _root_.Es := @List.drop_take
abbrev _root_.gZ := @Option.map_some
abbrev _root_.pP := @Nat.add_comm
abbrev _root_.mG := @Nat.eq_zero_or_pos
abbrev _root_.jX := @Nat.mod_eq_of_lt
abbrev _root_.gL := @Nat.eq_of_beq_eq_true
abbrev _root_.iK := @Nat.le_of_ble_eq_true
abbrev _root_.aH := @if_pos
abbrev _root_.bW := @List.mem_cons
abbrev _root_.dK := @Nat.lt_or_ge
abbrev _root_.gO := @Array.getD_eq_getD_getElem?
abbrev _root_.tS := @Ne.symm
abbrev _root_.aJ := @Bool.and_eq_true
abbrev _root_.bN := @List.all_eq_true
abbrev _root_.mH := @List.mem_range
abbrev _root_.cM := @Bool.or_eq_true
abbrev _root_.fI := @beq_iff_eq
abbrev _root_.bB := @decide_eq_true_eq
abbrev _root_.dO := @Bool.not_eq_true'
abbrev _root_.eF := @List.mem_append_left
abbrev _root_.gA := @List.mem_filterMap
abbrev _root_.cR := @List.mem_append_right
abbrev _root_.aS := @List.mem_cons_of_mem
abbrev _root_.fJ := @Prod.mk.injEq
abbrev _root_.bC := @List.mem_cons_self
abbrev _root_.aU := @Nat.le_refl
abbrev _root_.bK := @List.mem_of_getElem?
abbrev _root_.lA := @List.mem_filter
abbrev _root_.nJ := @List.size_toArray
abbrev _root_.Az := @Option.getD_some
abbrev _root_.kH := @List.mem_map
abbrev _root_.bR := @List.mem_singleton
abbrev _root_.iS := @List.nodup_cons
abbrev _root_.gU := @if_true
abbrev _root_.iX := @Bool.false_eq_true
abbrev _root_.cH := @Nat.le_trans
abbrev _root_.dG := @List.cons_append
abbrev _root_.cL := @Nat.lt_of_lt_of_le
abbrev _root_.iA := @Bool.true_and
abbrev _root_.iD := @Iff.rfl
abbrev _root_.fX := @Nat.mul_le_mul_right
abbrev _root_.aV := @Int.toNat_natCast
abbrev _root_.bI := @List.eq_nil_of_length_eq_zero
abbrev _root_.aX := @Nat.zero_add
abbrev _root_.eA := @List.append_nil
abbrev _root_.lD := @Bool.eq_iff_iff
abbrev _root_.eJ := @List.cons.injEq
abbrev _root_.aI := @decide_false
abbrev _root_.aL := @List.length_nil
abbrev _root_.fB := @List.take_of_length_le
abbrev _root_.eP := @List.take_add_one
abbrev _root_.eO := @List.drop_of_length_le
abbrev _root_.eY := @List.not_mem_nil
abbrev _root_.sH := @or_false
abbrev _root_.bE := @List.length_append
abbrev _root_.yA := @Nat.zero_mul
abbrev _root_.nI := @Nat.pow_succ
abbrev _root_.lP := @Nat.add_mul
abbrev _root_.kG := @Nat.mul_comm
abbrev _root_.fK := @List.all_cons
abbrev _root_.Bt := @Nat.pow_pos
abbrev _root_.iR := @UInt8.toNat_inj
abbrev _root_.jC := @Nat.pow_le_pow_right
abbrev _root_.dF := @List.length_pos_iff
abbrev _root_.qL := @List.take_append_drop
abbrev _root_.aP := @List.length_drop
abbrev _root_.sL := @Nat.mul_add
abbrev _root_.jQ := @Nat.mul_le_mul_left
abbrev _root_.dH := @true_and
abbrev _root_.lI := @and_true
abbrev _root_.kI := @Bool.and_true
abbrev _root_.yF := @Bool.true_or
abbrev _root_.lQ := @Bool.false_or
abbrev _root_.jO := @Bool.not_true
abbrev _root_.kK := @Bool.not_false
abbrev _root_.aW := @List.set_cons_zero
abbrev _root_.aZ := @List.set_cons_succ
abbrev _root_.aF := @List.getD_cons_zero
abbrev _root_.cW := @List.getD_cons_succ
abbrev _root_.fW := @Nat.zero_le
abbrev _root_.aE := @exists_eq_left'
abbrev _root_.aG := @Nat.lt_add_one
abbrev _root_.aB := @Nat.zero_lt_succ
abbrev _root_.aK := @decide_true
abbrev _root_.bZ := @decide_eq_false
abbrev _root_.gJ := @Int.lt_irrefl
abbrev _root_.bM := @List.take_length
abbrev _root_.bF := @decide_eq_true
abbrev _root_.vU := @decide_not
abbrev _root_.nM := @Int.le_refl
abbrev _root_.Ep := @Nat.add_sub_cancel
abbrev _root_.nC := @Nat.min_eq_left
abbrev _root_.dS := @List.drop_eq_nil_iff
abbrev _root_.sM := @Int.tmod_eq_emod_of_nonneg
abbrev _root_.cD := @List.drop_eq_getElem_cons
abbrev _root_.fO := @Option.some.inj
abbrev _root_.dQ := @List.drop_length
abbrev _root_.nN := @Decidable.not_not
abbrev _root_.eQ := @List.nil_append
abbrev _root_.fD := @List.append_assoc
abbrev _root_.nL := @List.any_eq_false
abbrev _root_.AB := @List.getElem_mem
abbrev _root_.gV := @List.drop_drop
abbrev _root_.sK := @UInt8.toNat_lt
abbrev _root_.eZ := @Prod.ext
abbrev _root_.nK := @List.map_nil
abbrev _root_.Bv := @List.drop_append_of_le_length
abbrev _root_.zJ := @List.length_singleton
abbrev _root_.iW := @UInt8.toNat_ofNat'
abbrev _root_.lC := @List.length_map
abbrev _root_.eK := @Classical.byContradiction
abbrev _root_.jE := @Bool.or_eq_false_iff
abbrev _root_.yE := @Classical.not_not
abbrev _root_.yB := @Nat.mul_le_mul
abbrev _root_.pY := @List.map_append
abbrev _root_.Cz := @List.replicate_succ
abbrev _root_.Cg := @List.all_append
abbrev _root_.yC := @List.flatMap_cons
abbrev _root_.Bu := @List.take_append_of_le_length
abbrev _root_.dP := @Nat.lt_succ_self
abbrev _root_.cS := @List.drop_succ_cons
abbrev _root_.cV := @List.drop_zero
abbrev _root_.kU := @List.count_append
abbrev _root_.Cf := @List.count_cons
abbrev _root_.eH := @List.mem_append
abbrev _root_.Er := @List.isPrefixOf_iff_prefix
abbrev _root_.oP := @List.perm_middle
abbrev _root_.Eo := @Nat.lt_of_le_of_lt
abbrev _root_.uN := @Nat.add_le_add_left
abbrev _root_.fC := @List.nodup_append
abbrev _root_.CB := @List.perm_iff_count
abbrev _root_.Cy := @List.take_succ_cons
abbrev _root_.qX := @UInt8.ofNat_toNat
abbrev _root_.Bz := @Array.replicate_succ
abbrev _root_.By := @Array.replicate_zero
abbrev _root_.CC := @List.append_toArray
abbrev _root_.Bw := @Array.size_replicate
namespace Go.Eng
section
open Go
variable{w:World}{K:Value->World->Prop}{cs:List Value}{G:Nat->Prop}{T:TypeId}{i:Nat}{n:Nat}{v:Value}{w':World}{P:Program}{c:UInt8}{S:Nat->Prop}
abbrev Fr:=Nat->Value
def upd(f:Fr)(d:Option Nat)(v:Value):Fr:=
 match d with
 |none=>f
 |some d=>λj=>bif Nat.beq j d then v else f j
def ev(f:Fr):Operand->Value
 |.tmp t=>f t
 |.const v=>v
 |.global g=>.pointer (some ⟨g,0,none⟩)
 |.func g=>.func (.func g) #[] #[]
def evl(f:Fr)(a:Array Operand):List Value:=a.toList.map (ev f)
def ofL(l:List UInt8):ByteArray:=⟨l.toArray⟩
theorem eG(l:List UInt8):(ofL l).data.toList=l:=by simp[ofL]
theorem eV(l:List UInt8):(ofL l).size=l.length:=by simp[ofL,ByteArray.size]
theorem Lm{a b:List UInt8}:ofL a=ofL b↔a=b:=by
 constructor
 ·intro h;have:=congrArg (λs=>s.data.toList) h;simpa[ofL]using this
 ·rintro rfl;rfl
class HX where
 X:List PanicEntry->World->Prop
@[reducible] def noX:HX:=⟨λ_ _=>False⟩
def Et[HX](K:Value->World->Prop):Ending->World->Prop
 |.returned v,w=>K v w
 |.panicked c,w=>HX.X c w
 |.outgrown,_=>False
theorem Et.mono[HX]{K':Value->World->Prop}(hk:∀v w,K v w->K' v w){e:Ending}(h:Et K e w):Et K' e w:=by
 cases e with
 |returned v=>exact hk _ _ h
 |panicked c=>exact h
 |outgrown=>exact h.elim
def Res[HX](P:Program)(K:Value->World->Prop):Result Next->Prop
 |.ok (.value v) w=>K v w
 |.ok .skip w=>K undef w
 |.ok (.enter g args) w=>Calls P g args w (Et K)
 |.ok (.row r args) w=>Rows P r args w K
 |.halt (.panic v) w=>HX.X [{v,recovered:=false}] w
 |_=>False
theorem Res.upon[HX]{o:Oper}{a:Act}{next:Act->World->Prop}{Q:Exit->Act->World->Prop}
  (hk:∀v w,K v w->next (a.put o.dst v) w)(hx:∀c w,HX.X c w->Q (.panic c) a w){r:Result Next}(h:Res P K r):o.upon P a next Q r:=by
 cases r with
 |ok n w=>
  cases n<;>simp only[Res]at h<;>simp only[Oper.upon]<;>first
   |exact hk _ _ h
   |exact h.elim
   |exact h.mono λ_ _ he=>hk _ _ he
   |(refine h.mono λe w' he=>?_
     cases e with
     |returned v=>exact hk _ _ he
     |panicked c=>exact hx _ _ he
     |outgrown=>exact he.elim)
 |halt x w=>
  cases x<;>simp only[Res]at h<;>simp only[Oper.upon]<;>first
   |exact h.elim
   |exact hx _ _ h
theorem Res.mono[HX]{K':Value->World->Prop}(hk:∀v w,K v w->K' v w){r:Result Next}(h:Res P K r):Res P K' r:=by
 cases r with
 |ok n w=>
  cases n<;>simp only[Res]at h⊢<;>first
   |exact hk _ _ h
   |exact h.elim
   |exact h.mono λ_ _ he=>hk _ _ he
   |exact h.mono λe w' he=>he.mono hk
 |halt x w=>
  cases x<;>simp only[Res]at h⊢<;>first
   |exact h.elim
   |exact h
def kF(c:Bool)(A:Prop):Prop:=bif c then A else False
theorem kF.out{c:Bool}{A:Prop}(h:kF c A):c=true/\A:=by
 cases c with
 |true=>exact⟨rfl,h⟩
 |false=>exact h.elim
def cP(c a b:Value)(K:Value->Prop):Prop:=match c with|.bool t=>K (bif t then a else b)|_=>False
def dJ(v:Value)(K:Value->Prop):Prop:=
 match v with
 |.pointer (some _)=>K v
 |.func (.func _) _ _=>K v
 |.iface _ _=>K v
 |_=>False
def aQ(op:BinOp)(x y:Value)(K:Value->Prop):Prop:=
 match x,y with
 |.int k a,.int k' b=>
  match op with
  |.shl=>0<=b/\K (.int k (k.wrap (a*2^min b.toNat k.bits)))
  |.shr=>0<=b/\K (.int k (a.fdiv (2^min b.toNat k.bits)))
  |.add=>k=k'/\K (.int k (k.wrap (a+b)))
  |.sub=>k=k'/\K (.int k (k.wrap (a-b)))
  |.mul=>k=k'/\K (.int k (k.wrap (a*b)))
  |.quo=>k=k'/\b≠0/\K (.int k (k.wrap (a.tdiv b)))
  |.rem=>k=k'/\b≠0/\K (.int k (a.tmod b))
  |.and=>k=k'/\K (.int k (k.wrap (BitVec.ofInt k.bits a&&&BitVec.ofInt k.bits b).toNat))
  |.or=>k=k'/\K (.int k (k.wrap (BitVec.ofInt k.bits a|||BitVec.ofInt k.bits b).toNat))
  |.xor=>k=k'/\K (.int k (k.wrap (BitVec.ofInt k.bits a^^^BitVec.ofInt k.bits b).toNat))
  |.andNot=>k=k'/\K (.int k (k.wrap (BitVec.ofInt k.bits a&&&~~~BitVec.ofInt k.bits b).toNat))
  |.eql=>k=k'/\K (.bool (decide (a=b)))
  |.neq=>k=k'/\K (.bool (decide (a≠b)))
  |.lss=>k=k'/\K (.bool (decide (a<b)))
  |.leq=>k=k'/\K (.bool (decide (a<=b)))
  |.gtr=>k=k'/\K (.bool (decide (b<a)))
  |.geq=>k=k'/\K (.bool (decide (b<=a)))
 |.string a,.string b=>
  match op with
  |.add=>((a.size+b.size:Nat):Int)<=IntKind.i64.max/\K (.string (a++b))
  |.eql=>K (.bool (decide (a.data.toList=b.data.toList)))
  |.neq=>K (.bool (decide (a.data.toList≠b.data.toList)))
  |.lss=>K (.bool (Op.bytesLess a.data.toList b.data.toList))
  |.leq=>K (.bool (Op.bytesLess a.data.toList b.data.toList||decide (a.data.toList=b.data.toList)))
  |.gtr=>K (.bool (!(Op.bytesLess a.data.toList b.data.toList||decide (a.data.toList=b.data.toList))))
  |.geq=>K (.bool (!Op.bytesLess a.data.toList b.data.toList))
  |_=>False
 |_,_=>False
inductive EqK|bool|ptr|slice|map|func
def EqK.of:TypeDesc->Option EqK
 |.bool=>some .bool
 |.pointer _=>some .ptr
 |.slice _=>some .slice
 |.map _ _=>some .map
 |.func _ _ _=>some .func
 |_=>none
def eqW(k:EqK)(n:Bool)(x y:Value)(K:Value->Prop):Prop:=
 match k,x,y with
 |.bool,.bool a,.bool b=>K (.bool (n^^(a==b)))
 |.ptr,.pointer none,.pointer b=>K (.bool (n^^b.isNone))
 |.ptr,.pointer (some _),.pointer none=>K (.bool n)
 |.slice,.slice none _ _,.slice b _ _=>K (.bool (n^^b.isNone))
 |.slice,.slice (some _) _ _,.slice none _ _=>K (.bool n)
 |.map,.map none,.map b=>K (.bool (n^^b.isNone))
 |.map,.map (some _),.map none=>K (.bool n)
 |.func,.nilFunc,.nilFunc=>K (.bool (!n))
 |.func,.nilFunc,.func _ _ _=>K (.bool n)
 |.func,.func _ _ _,.nilFunc=>K (.bool n)
 |_,_,_=>False
def unW(op:UnOp)(x:Value)(K:Value->Prop):Prop:=
 match op,x with
 |.not,.bool b=>K (.bool (!b))
 |.neg,.int k n=>K (.int k (k.wrap (0-n)))
 |.xor,.int k n=>K (.int k (k.wrap (BitVec.ofInt k.bits (if k.signed then-1 else k.max)^^^BitVec.ofInt k.bits n).toNat))
 |_,_=>False
def rX(k:IntKind)(x:Value)(K:Value->Prop):Prop:=match x with|.int _ n=>K (.int k (k.wrap n))|_=>False
def Ur(x:Value)(K:Value->Prop):Prop:=match x with|.int _ n=>K (.string (Utf8.encode n))|.string s=>K (.string s)|_=>False
def kW(agg:Bool)(off size:Nat)(x:Value)(K:Value->Prop):Prop:=
 match x with
 |.agg cs=>bif agg then K (.agg (cs.extract off (off+size)))else(∃c,cs[off]?=some c/\K c)
 |_=>False
def aY(off:Nat)(x:Value)(K:Value->Prop):Prop:=
 match x with
 |.pointer (some a)=>K (.pointer (some (a.add off)))
 |_=>False
def dV(len:Option Nat)(size:Nat)(x i:Value)(K:Value->Prop):Prop:=
 match len,x,i with
 |none,.slice (some a) n _,.int _ i=>0<=i/\i<n/\K (.pointer (some (a.add (i.toNat*size))))
 |some n,.pointer (some a),.int _ i=>0<=i/\i<n/\K (.pointer (some (a.add (i.toNat*size))))
 |_,_,_=>False
def oO(x i:Value)(K:Value->Prop):Prop:=
 match x,i with
 |.string s,.int _ i=>0<=i/\∃b,s.data.toList[i.toNat]?=some b/\K (.int .u8 b.toNat)
 |_,_=>False
def aBd(len:Nat)(agg:Bool)(size:Nat)(x i:Value)(K:Value->Prop):Prop:=
 match i with
 |.int _ i=>0<=i/\i<len/\kW agg (i.toNat*size) size x K
 |_=>False
def bdW(x:Option Value)(dflt:Nat)(lim:Nat)(K:Nat->Prop):Prop:=
 match x with
 |none=>K dflt
 |some (.int _ i)=>0<=i/\i<=lim/\K i.toNat
 |some _=>False
def lN(x:Value)(lo hi:Option Value)(K:Value->Prop):Prop:=
 match x with
 |.string s=>bdW hi s.size s.size λh=>bdW lo 0 h λl=>K (.string (ofL ((s.data.toList.take h).drop l)))
 |_=>False
def Oi(size:Nat)(x:Value)(lo hi mx:Option Value)(K:Value->Prop):Prop:=
 match x with
 |.slice a len cap=>bdW mx cap cap λm=>(bdW hi len m λh=>bdW lo 0 h λl=>
   K (.slice (if m=l then a else a.map (·.add (l*size))) (h-l) (m-l)))
 |_=>False
def Mv(n size:Nat)(x:Value)(lo hi mx:Option Value)(K:Value->Prop):Prop:=
 match x with
 |.pointer (some a)=>bdW mx n n λm=>(bdW hi n m λh=>bdW lo 0 h λl=>
   K (.slice (some (if m=l then a else a.add (l*size))) (h-l) (m-l)))
 |_=>False
def dE(i:Nat)(x:Value)(K:Value->Prop):Prop:=match x with|.tuple vs=>(match vs[i]? with|some v=>K v|none=>False)|_=>False
def dD(cells:List Value):List (Nat×Nat×Value)->(List Value->Prop)->Prop
 |[],K=>K cells
 |(off,size,v)::r,K=>v.cells.size=size/\off+size<=cells.length/\dD (cells.take off++(v.cells.toList++cells.drop (off+size))) r K
def gW(x:Value)(K:Value->Prop):Prop:=match x with|.string s=>K (.int .i64 s.size)|_=>False
def dC(x:Value)(K:Value->Prop):Prop:=match x with|.slice _ n _=>K (.int .i64 n)|_=>False
def aBu(x:Value)(K:Value->Prop):Prop:=match x with|.slice _ _ n=>K (.int .i64 n)|_=>False
def TI(x y:Value)(K:Value->Prop):Prop:=match x,y with|.int k a,.int _ b=>K (.int k (if b<a then b else a))|_,_=>False
def WO(x y z:Value)(K:Value->Prop):Prop:=match x,y,z with|.int k a,.int _ b,.int _ c=>K (.int k (if c<(if b<a then b else a)then c else(if b<a then b else a)))|_,_,_=>False
def Pe(x y:Value)(K:Value->Prop):Prop:=match x,y with|.int k a,.int _ b=>K (.int k (if a<b then b else a))|_,_=>False
def jN(w:World)(a:Addr):Nat->Nat->Option (List Value)
 |_,0=>some []
 |i,n+1=>match w.cell? (a.add i)with|some v=>(jN w a (i+1) n).map (v::·)|none=>none
def ldW(agg:Bool)(n:Nat)(x:Value)(w:World)(K:Value->Prop):Prop:=
 match x with
 |.pointer (some a)=>bif agg then(∃l,jN w a 0 n=some l/\K (.agg l.toArray))else(∃v,w.cell? a=some v/\K v)
 |_=>False
def mS(P:Program)(s:Sem Value)(w:World)(K:Value->Prop):Prop:=∃v,s.run P w=.ok v w/\K v
def dY(P:Program)(s:Sem Value)(w:World)(K:Value->World->Prop):Prop:=match s.run P w with|.ok v w'=>K v w'|_=>False
def mR(P:Program)(s:Sem Unit)(w:World)(K:World->Prop):Prop:=match s.run P w with|.ok _ w'=>K w'|_=>False
def Oq[HX](P:Program)(s:Sem Next)(w:World)(K:Value->World->Prop):Prop:=Res P K (s.run P w)
def bO(T:TypeId)(zero:List Value)(w:World)(K:Value->World->Prop):Prop:=
 K (.pointer (some ⟨w.heap.size,0,none⟩)) (w.alloc (.cells zero.toArray T))
def eL(T:TypeId)(v:Value)(w:World)(K:Value->World->Prop):Prop:=
 K (.pointer (some ⟨w.heap.size,0,none⟩)) (w.alloc (.cells v.cells T))
def dN(T:TypeId)(len:Nat)(zero:List Value)(parts:List (Nat×Nat×Value))(w:World)(K:Value->World->Prop):Prop:=
 dD zero parts λcs=>K (.slice (some ⟨w.heap.size,0,none⟩) len len) (w.alloc (.cells cs.toArray T))
def gH:Value->Bool
 |.agg _|.tuple _=>false
 |_=>true
def uQ(a:Addr):List Value->Nat->World->(World->Prop)->Prop
 |[],_,w,K=>K w
 |v::r,i,w,K=>gH v=true/\(w.cell? (a.add i)).isSome=true/\w.frozen? (a.add i)=false/\uQ a r (i+1) (w.setCell (a.add i) v) K
def stW(n:Nat)(x v:Value)(w:World)(K:World->Prop):Prop:=
 match x with
 |.pointer (some a)=>v.cells.size=n/\uQ a v.cells.toList 0 w K
 |_=>False
def Xb[HX](P:Program)(g:FuncId)(args:List Value)(w:World)(K:Value->World->Prop):Prop:=
 Calls P g args.toArray w (Et K)
def MK[HX](x:Value)(w:World):Prop:=match x with|.iface T v=>HX.X [{v:=.iface T v,recovered:=false}] w|_=>False
def aC[HX](P:Program)(g:FuncId)(args:List Value)(w:World)(K:Value->World->Prop):Prop:=
 Res P K ((callFunc g args.toArray).run P w)
def nU[HX](P:Program)(v:Value)(args:List Value)(w:World)(K:Value->World->Prop):Prop:=
 Oq P (do let d<-Deferred.ofValue v args.toArray;invoke d.target d.args) w K
def YU:TypeDesc->Bool
 |.struct _|.array _ _=>true
 |_=>false
def tP(P:Program)(T:TypeId):Bool:=match P.underlying T with|some d=>YU d|none=>false
def jH(P:Program)(T:TypeId):Nat:=match P.info? T with|some i=>i.size|none=>0
def BA(P:Program)(T:TypeId):Option Value:=match P.info? T with|some i=>i.zero|none=>none
def sW(places:Nat->Option (Nat×Nat))(f:Fr):List (Nat×Operand)->Option (List (Nat×Nat×Value))
 |[]=>some []
 |(i,x)::r=>match places i,sW places f r with
  |some (off,size),some l=>some ((off,size,ev f x)::l)
  |_,_=>none
def JL(P:Program)(fs:Array Field)(i:Nat):Option (Nat×Nat):=match fs[i]? with|some g=>some (g.offset,jH P g.type)|none=>none
def KO(P:Program)(T:TypeId)(f:Fr)(parts:List (Nat×Operand))(K:Value->Prop):Prop:=
 match P.underlying T,BA P T with
 |some (.struct fs),some z=>
  (match sW (JL P fs) f parts with
   |some l=>kF (fs.all (λg=>(P.info? g.type).isSome)) (dD z.cells.toList l λcs=>K (.agg cs.toArray))
   |none=>False)
 |some (.array _ e),some z=>
  (match sW (λi=>some (i*jH P e,jH P e)) f parts with
   |some l=>kF (P.info? e).isSome (dD z.cells.toList l λcs=>K (.agg cs.toArray))
   |none=>False)
 |_,_=>False
def aBs(P:Program)(op:BinOp)(T:TypeId)(x y:Value)(K:Value->Prop):Prop:=
 match op,(match P.underlying T with|some d=>EqK.of d|none=>none)with
 |.eql,some k=>eqW k false x y K
 |.neq,some k=>eqW k true x y K
 |_,_=>aQ op x y K
def WX(P:Program)(s d:TypeId)(x:Value)(K:Value->Prop):Prop:=
 match P.underlying s,P.underlying d with
 |some (.int _),some (.int k)=>rX k x K
 |some (.int _),some .string=>Ur x K
 |some .string,some .string=>Ur x K
 |_,_=>False
def Dv(P:Program)(T:TypeId)(x i:Value)(K:Value->Prop):Prop:=
 match P.underlying T with
 |some (.slice e)=>kF (P.info? e).isSome (dV none (jH P e) x i K)
 |some (.array n e)=>kF (P.info? e).isSome (dV (some n) (jH P e) x i K)
 |_=>False
def PC(P:Program)(T:TypeId)(x i:Value)(K:Value->Prop):Prop:=
 match P.underlying T with
 |some .string=>oO x i K
 |some (.array n e)=>kF (P.underlying e).isSome (aBd n (tP P e) (jH P e) x i K)
 |_=>False
def JG(P:Program)(T:TypeId)(x:Value)(lo hi mx:Option Value)(K:Value->Prop):Prop:=
 match P.underlying T with
 |some .string=>kF (!mx.isSome) (lN x lo hi K)
 |some (.slice e)=>kF (!mx.isSome||hi.isSome) (kF (P.info? e).isSome (Oi (jH P e) x lo hi mx K))
 |some (.array n e)=>kF (!mx.isSome||hi.isSome) (kF (P.info? e).isSome (Mv n (jH P e) x lo hi mx K))
 |_=>False
def EU(P:Program)(b:Builtin)(argTypes:Array TypeId)(args:List Value)(K:Value->Prop):Prop:=
 match b,args with
 |.len,[x]=>(match argTypes[0]? with
   |some T=>(match P.underlying T with
    |some .string=>gW x K
    |some (.slice _)=>dC x K
    |some (.array n _)=>K (.int .i64 n)
    |_=>False)
   |none=>False)
 |.cap,[x]=>(match argTypes[0]? with
   |some T=>(match P.underlying T with
    |some (.slice _)=>aBu x K
    |_=>False)
   |none=>False)
 |.min,[x,y]=>TI x y K
 |.min,[x,y,z]=>WO x y z K
 |.max,[x,y]=>Pe x y K
 |_,_=>False
def Lg(P:Program)(f:Fr)(op:Op)(K:Value->Prop):Prop:=
 match op with
 |.move x|.assign x=>K (ev f x)
 |.pick c a b=>cP (ev f c) (ev f a) (ev f b) K
 |.nilCheck x=>dJ (ev f x) K
 |.binOp op T x y _=>aBs P op T (ev f x) (ev f y) K
 |.unOp op _ x=>unW op (ev f x) K
 |.convert s d x=>WX P s d (ev f x) K
 |.makeInterface T x=>(match P.underlying T with|some (.interface _)=>False|none=>False|_=>K (.iface T (ev f x)))
 |.makeFunc fn first cap=>K (.func fn (evl f first).toArray (evl f cap).toArray)
 |.field T x i=>(match P.underlying T with
   |some (.struct fs)=>(match fs[i]? with|some g=>kF (P.underlying g.type).isSome (kW (tP P g.type) g.offset (jH P g.type) (ev f x) K)|none=>False)
   |_=>False)
 |.fieldAddr T x i=>(match P.underlying T with
   |some (.struct fs)=>(match fs[i]? with|some g=>kF (!(Nat.beq (jH P g.type) 0)) (aY g.offset (ev f x) K)|none=>False)
   |_=>False)
 |.indexAddr T x i=>Dv P T (ev f x) (ev f i) K
 |.index T x i=>PC P T (ev f x) (ev f i) K
 |.slice T x lo hi mx=>JG P T (ev f x) (lo.map (ev f)) (hi.map (ev f)) (mx.map (ev f)) K
 |.extract t i=>dE i (ev f t) K
 |.build T parts=>KO P T f parts.toList K
 |.call {callee:=.builtin b,args,argTypes}=>EU P b argTypes (evl f args) K
 |_=>False
def lW(P:Program):Op->Bool
 |.move _|.assign _|.pick ..|.nilCheck _|.unOp ..|.makeInterface ..|.makeFunc ..|.field ..|.fieldAddr ..|.indexAddr ..|.index ..|.slice ..
 |.extract ..|.build ..=>true
 |.binOp op T _ _ _=>(match op with
  |.eql|.neq=>(match P.underlying T with|some (.interface _)|some (.struct _)|some (.array _ _)|some (.chan _ _)|none=>false|_=>true)
  |_=>true)
 |.convert s d _=>(match P.underlying s,P.underlying d with|some (.int _),some (.int _)|some (.int _),some .string|some .string,some .string=>true|_,_=>false)
 |.call {callee:=.builtin b,argTypes,..}=>(match b with
  |.min|.max|.cap=>true
  |.len=>(match argTypes[0]? with|some T=>(match P.underlying T with|some (.map _ _)|none=>false|_=>true)|none=>false)
  |_=>false)
 |_=>false
def vL(P:Program)(s:Sem Value)(K:Value->Prop):Prop:=∃v,K v/\∀w,s.run P w=.ok v w
theorem run_bind{α β:Type}(P:Program)(s:Sem α)(k:α->Sem β)(w:World):
  (s>>=k).run P w=match s.run P w with|.ok a w'=>(k a).run P w'|.halt h w'=>.halt h w':=by
 show(Sem.bind s k).run P w=_;induction s generalizing w with
 |pure a=>simp[Sem.bind,Sem.run]
 |load m a c ih=>simp only[Sem.bind,Sem.run];(repeat' split)<;>simp_all
 |store m a v c ih=>
  cases v<;>simp only[Sem.bind,Sem.run]<;>((repeat' split)<;>simp_all)
 |new o c ih=>simp[Sem.bind,Sem.run,ih]
 |shape r c ih=>simp[Sem.bind,Sem.run,ih]
 |freeze a n c ih=>simp[Sem.bind,Sem.run,ih]
 |frozen a c ih=>simp[Sem.bind,Sem.run,ih]
 |getObj r c ih=>simp only[Sem.bind,Sem.run];(repeat' split)<;>simp_all
 |setObj r o c ih=>simp only[Sem.bind,Sem.run];(repeat' split)<;>simp_all
 |choose q c ih=>simp only[Sem.bind,Sem.run];(repeat' split)<;>simp_all
 |sys c k' ih=>simp[Sem.bind,Sem.run,ih]
 |program c ih=>simp[Sem.bind,Sem.run,ih]
 |mark m c ih=>simp[Sem.bind,Sem.run,ih]
 |halt h=>simp[Sem.bind,Sem.run]
theorem run_pure{α:Type}(P:Program)(a:α)(w:World):(pure a:Sem α).run P w=.ok a w:=rfl
theorem bH{d:TypeDesc}(h:P.underlying T=some d)(w:World):(underlying T).run P w=.ok d w:=by
 simp[underlying,run_bind,program,Sem.run,h,run_pure]
theorem yJ{i:TypeInfo}(h:P.info? T=some i)(w:World):(typeInfo T).run P w=.ok i w:=by
 simp[typeInfo,run_bind,program,Sem.run,h,run_pure]
theorem fM(h:(P.info? T).isSome=true)(w:World):(sizeOf T).run P w=.ok (jH P T) w:=by
 cases hi:P.info? T with
 |none=>rw[hi]at h;cases h
 |some i=>simp[sizeOf,run_bind,yJ hi,run_pure,jH,hi]
theorem pQ(h:(P.underlying T).isSome=true):(P.info? T).isSome=true:=by
 unfold Program.underlying at h;cases hi:P.info? T with
 |none=>simp[hi]at h
 |some i=>rfl
theorem uT(h:(P.underlying T).isSome=true)(w:World):(isAgg T).run P w=.ok (tP P T) w:=by
 cases hi:P.underlying T with
 |none=>rw[hi]at h;cases h
 |some d=>
  simp only[isAgg,run_bind,bH hi,tP,hi];cases d<;>rfl
theorem qM{z:Value}(h:BA P T=some z)(w:World):(zeroValue T).run P w=.ok z w:=by
 unfold BA at h;cases hi:P.info? T with
 |none=>simp[hi]at h
 |some i=>
  simp only[hi]at h;simp[zeroValue,run_bind,yJ hi,h,run_pure]
theorem HS{off:Nat}{x:Value}{K:Value->Prop}(hT:(P.underlying T).isSome=true)(h:kW (tP P T) off (jH P T) x K):
  ∃cs,x=.agg cs/\vL P (part T cs off) K:=by
 cases x with
 |agg cs=>
  refine⟨cs,rfl,?_⟩;simp only[kW]at h;cases ha:tP P T with
  |true=>
   rw[ha]at h;exact⟨_,h,λw=>by simp[part,run_bind,uT hT,ha,fM (pQ hT),run_pure]⟩
  |false=>
   rw[ha]at h;obtain⟨c,hc,hk⟩:=h;exact⟨c,hk,λw=>by simp[part,run_bind,uT hT,ha,hc,run_pure]⟩
 |_=>exact h.elim
theorem Hb{x:Option Value}{dflt lim:Nat}{K:Nat->Prop}(h:bdW x dflt lim K):
  ∃n,K n/\((x=none/\n=dflt)\/∃v,x=some v/\∀(code:BoundsCode) (w:World),(Instr.sliceBound v lim code).run P w=.ok n w):=by
 cases x with
 |none=>exact⟨dflt,h,.inl ⟨rfl,rfl⟩⟩
 |some v=>
  cases v<;>simp only[bdW]at h
  case int k i=>
   obtain⟨h0,h1,hk⟩:=h;exact⟨_,hk,.inr ⟨_,rfl,λcode w=>by simp[Instr.sliceBound,asIntOf,run_bind,run_pure,h0,h1]⟩⟩
theorem zH{isSlice:Bool}{len cap:Nat}{lo hi mx:Option Value}{K:Nat->Nat->Nat->Prop}(hm:mx.isSome=true->hi.isSome=true)
  (h:bdW mx cap cap λm=>bdW hi len m λh=>bdW lo 0 h λl=>K l h m):
  ∃l h m,K l h m/\∀w,(Instr.sliceBounds isSlice len cap lo hi mx).run P w=.ok (l,h,m) w:=by
 obtain⟨m,h1,hm1⟩:=Hb (P:=P) h;obtain⟨hh,h2,hh1⟩:=Hb (P:=P) h1;obtain⟨l,h3,hl1⟩:=Hb (P:=P) h2;refine⟨l,hh,m,h3,λw=>?_⟩;rcases hm1 with⟨rfl,rfl⟩|⟨vm,rfl,rm⟩<;>rcases hh1 with⟨rfl,rfl⟩|⟨vh,rfl,rh⟩<;>rcases hl1 with⟨rfl,rfl⟩|⟨vl,rfl,rl⟩<;>
  first
   |(simp at hm;done)
   |simp[Instr.sliceBounds,run_bind,run_pure, *]
theorem xH{place:Nat->Option (Nat×Nat)}{f:Fr}{K:List Value->Prop}:∀(parts:List (Nat×Operand)) (l:List (Nat×Nat×Value)) (cells:List Value),
  sW place f parts=some l->dD cells l K->∃cs,K cs/\Instr.fill place cells.toArray (parts.map λp=>(p.1,ev f p.2))=some cs.toArray
 |[],l,cells,hp,h=>by
  simp only[sW,bD]at hp
  subst hp
  exact⟨cells,h,rfl⟩
 |(i,x)::r,l,cells,hp,h=>by
  simp only[sW]at hp
  cases hpl:place i with
  |none=>simp[hpl]at hp
  |some os=>
   obtain⟨off,size⟩:=os
   cases hr:sW place f r with
   |none=>simp[hpl,hr]at hp
   |some l'=>
    simp only[hpl,hr,bD]at hp
    subst hp
    obtain⟨h1,h2,h3⟩:=h
    obtain⟨cs,hk,hf⟩:=xH r l' _ hr h3
    refine⟨cs,hk,?_⟩
    simp only[dT,Instr.fill,hpl]
    rw[aD (by simp[h1];omega)]
    rw[<-hf]
    congr 1
    have key:∀(vs:List Value) (k:Nat) (cs:List Value),off+k+vs.length<=cs.length->
      (vs.zipIdx k).foldl (λ(a:Array Value) (p:Value×Nat)=>a.setIfInBounds (off+p.2) p.1) cs.toArray=(cs.take (off+k)++(vs++cs.drop (off+k+vs.length))).toArray:=by
     intro vs;induction vs with
     |nil=>intro k cs _;simp
     |cons v vs ih=>
      intro k cs hle;simp only[aA]at hle;simp only[List.zipIdx_cons,List.foldl_cons];rw[List.setIfInBounds_toArray,ih (k+1) _ (by simp;omega)];congr 1;apply List.ext_getElem?;intro j;simp only[List.getElem?_append,cI,List.length_set,List.getElem?_take,List.getElem?_set,List.getElem?_drop,aA,List.getElem?_cons]
      (repeat' split)<;>first
        |rfl
        |omega
        |(simp_all;done)
        |(congr 1;omega)
        |(rename_i h1 h2 h3;simp at h1;omega)
    have hk:=key (ev f x).cells.toList 0 cells (by simp;omega);simp only[fA]at hk;rw[<-h1];simp only[Array.length_toList]at hk;rw[<-hk,<-Array.foldl_toList];simp
def kT(P:Program)(s:Sem Next)(K:Value->Prop):Prop:=∃v,K v/\∀w,s.run P w=.ok (.value v) w
theorem kT.of1{s:Sem Value}{K:Value->Prop}(h:vL P s K):kT P (do pure (.value (<-s))) K:=by
 obtain⟨v,hk,hr⟩:=h;exact⟨v,hk,λw=>by rw[run_bind,hr];rfl⟩
theorem Ha{α:Type}[BEq α][LawfulBEq α][DecidableEq α](a b:α):(a==b)=decide (a=b):=by
 by_cases h:a=b<;>simp[h]
theorem NJ{op:BinOp}{x y:Operand}{f:Fr}{K:Value->Prop}(h:aQ op (ev f x) (ev f y) K):
  vL P (do eqGuard op T x y (ev f x) (ev f y);binOp op T (ev f x) (ev f y)) K:=by
 generalize ev f x=a at*
 generalize ev f y=b at*
 cases a<;>cases b<;>simp only[aQ]at h<;>first|exact h.elim|skip
 case int.int k a k' b=>
  have hg:∀w,(eqGuard op T x y (.int k a) (.int k' b)).run P w=.ok () w:=λw=>by cases op<;>simp[eqGuard,run_pure]
  cases op<;>simp only at h
  case shl=>exact⟨_,h.2,λw=>by rw[run_bind,hg];simp[binOp,Op.shift,run_pure,Int.not_lt.2 h.1]⟩
  case shr=>exact⟨_,h.2,λw=>by rw[run_bind,hg];simp[binOp,Op.shift,run_pure,Int.not_lt.2 h.1]⟩
  case quo=>obtain⟨rfl,hb,hk⟩:=h;exact⟨_,hk,λw=>by rw[run_bind,hg];simp[binOp,Op.intDiv,run_pure,hb]⟩
  case rem=>obtain⟨rfl,hb,hk⟩:=h;exact⟨_,hk,λw=>by rw[run_bind,hg];simp[binOp,Op.intDiv,run_pure,hb]⟩
  case add=>obtain⟨rfl,hk⟩:=h;exact⟨_,hk,λw=>by rw[run_bind,hg];simp[binOp,Op.intArith,run_pure]⟩
  case sub=>obtain⟨rfl,hk⟩:=h;exact⟨_,hk,λw=>by rw[run_bind,hg];simp[binOp,Op.intArith,run_pure]⟩
  case mul=>obtain⟨rfl,hk⟩:=h;exact⟨_,hk,λw=>by rw[run_bind,hg];simp[binOp,Op.intArith,run_pure]⟩
  case and=>obtain⟨rfl,hk⟩:=h;exact⟨_,hk,λw=>by rw[run_bind,hg];simp only[binOp,Op.intBits,bT,xZ,nG];rfl⟩
  case or=>obtain⟨rfl,hk⟩:=h;exact⟨_,hk,λw=>by rw[run_bind,hg];simp only[binOp,Op.intBits,bT,xZ,nG];rfl⟩
  case xor=>obtain⟨rfl,hk⟩:=h;exact⟨_,hk,λw=>by rw[run_bind,hg];simp only[binOp,Op.intBits,bT,xZ,nG];rfl⟩
  case andNot=>obtain⟨rfl,hk⟩:=h;exact⟨_,hk,λw=>by rw[run_bind,hg];simp only[binOp,Op.intBits,bT,xZ,nG];rfl⟩
  case eql=>obtain⟨rfl,hk⟩:=h;exact⟨_,hk,λw=>by rw[run_bind,hg];simp[binOp,Op.intCmp,run_pure,Ha]⟩
  case neq=>obtain⟨rfl,hk⟩:=h;exact⟨_,hk,λw=>by rw[run_bind,hg];simp[binOp,Op.intCmp,run_pure,bne,Ha]⟩
  case lss=>obtain⟨rfl,hk⟩:=h;exact⟨_,hk,λw=>by rw[run_bind,hg];simp[binOp,Op.intCmp,run_pure]⟩
  case leq=>obtain⟨rfl,hk⟩:=h;exact⟨_,hk,λw=>by rw[run_bind,hg];simp[binOp,Op.intCmp,run_pure]⟩
  case gtr=>obtain⟨rfl,hk⟩:=h;exact⟨_,hk,λw=>by rw[run_bind,hg];simp[binOp,Op.intCmp,run_pure]⟩
  case geq=>obtain⟨rfl,hk⟩:=h;exact⟨_,hk,λw=>by rw[run_bind,hg];simp[binOp,Op.intCmp,run_pure]⟩
 case string.string a b=>
  have hg:∀w,(eqGuard op T x y (.string a) (.string b)).run P w=.ok () w:=λw=>by cases op<;>simp[eqGuard,run_pure]
  have he:(a.toList==b.toList)=decide (a.data.toList=b.data.toList):=by rw[ByteArray.toList_eq,ByteArray.toList_eq,Ha]
  have hl:Op.bytesLess a.toList b.toList=Op.bytesLess a.data.toList b.data.toList:=by rw[ByteArray.toList_eq,ByteArray.toList_eq]
  cases op<;>simp only at h<;>first|exact h.elim|skip
  case add=>exact⟨_,h.2,λw=>by rw[run_bind,hg];simp only[binOp,Op.stringOp];rw[aD (by have:=h.1;omega)];rfl⟩
  case eql=>exact⟨_,h,λw=>by rw[run_bind,hg];simp only[binOp,Op.stringOp];rw[he];rfl⟩
  case neq=>exact⟨_,h,λw=>by rw[run_bind,hg];simp only[binOp,Op.stringOp];rw[he];simp[run_pure]⟩
  case lss=>exact⟨_,h,λw=>by rw[run_bind,hg];simp only[binOp,Op.stringOp];rw[hl];rfl⟩
  case leq=>exact⟨_,h,λw=>by rw[run_bind,hg];simp only[binOp,Op.stringOp];rw[he,hl];rfl⟩
  case gtr=>exact⟨_,h,λw=>by rw[run_bind,hg];simp only[binOp,Op.stringOp];rw[he,hl];rfl⟩
  case geq=>exact⟨_,h,λw=>by rw[run_bind,hg];simp only[binOp,Op.stringOp];rw[hl];rfl⟩
theorem Ns{op:BinOp}{x y:Operand}{k:EqK}{n:Bool}{a b:Value}{K:Value->Prop}(h:eqW k n a b K)(w:World):
  (eqGuard op T x y a b).run P w=.ok () w:=by
 cases op<;>simp only[eqGuard]<;>first|rfl|(cases a<;>cases b<;>first|rfl|(cases k<;>exact h.elim))
theorem aAJ{x y:Operand}{f:Fr}{d:TypeDesc}{k:EqK}{n:Bool}{K:Value->Prop}(hd:P.underlying T=some d)(hk:EqK.of d=some k)
  (h:eqW k n (ev f x) (ev f y) K):
  vL P (do eqGuard (bif n then .neq else .eql) T x y (ev f x) (ev f y);binOp (bif n then .neq else .eql) T (ev f x) (ev f y)) K:=by
 have hg:=λw=>Ns (P:=P) (op:=(bif n then .neq else .eql)) (T:=T) (x:=x) (y:=y) h w;generalize ev f x=a at*
 generalize ev f y=b at*
 have key:∀(a b:Value) (r:Bool),(∀m w,(Op.equalIn (m+1) T a b).run P w=.ok r w)->
   (binOp .eql T a b=(do pure (.bool (<-Op.equal T a b))))->(binOp .neq T a b=(do pure (.bool (!(<-Op.equal T a b)))))->K (.bool (n^^r))->(∀w,(eqGuard (bif n then .neq else .eql) T x y a b).run P w=.ok () w)->
   vL P (do eqGuard (bif n then .neq else .eql) T x y a b;binOp (bif n then .neq else .eql) T a b) K:=by
  intro a b r h0 h1 h2 hK hg;have he:∀w,(Op.equal T a b).run P w=.ok r w:=λw=>h0 9999 w;refine⟨_,hK,λw=>?_⟩;rw[run_bind,hg];cases n
  ·simp only[aN,h1,run_bind,he,run_pure,Bool.false_bne]
  ·simp only[aO,h2,run_bind,he,run_pure,Bool.true_bne]
 have hu:=λw=>bH hd w;cases d<;>simp only[EqK.of,reduceCtorEq,bD]at hk<;>subst hk<;>unfold eqW at h<;>split at h<;>first
  |exact h.elim
  |(rename_i he _ _;cases he;done)
  |(rename_i he;cases he;done)
  |exact key _ _ _ (λm w=>by simp only[Op.equalIn,run_bind,hu];exact run_pure _ _ _) rfl rfl h hg
  |exact key _ _ true (λm w=>by simp[Op.equalIn,run_bind,hu,run_pure]) rfl rfl (by simpa using h) hg
  |exact key _ _ false (λm w=>by simp[Op.equalIn,run_bind,hu,run_pure]) rfl rfl (by simpa using h) hg
  |(rename_i he1 he2 he3;cases he1;done)
  |(simp_all;done)
theorem vG(f:Fr)(a:Array Operand):a.map (ev f)=(evl f a).toArray:=by apply AC;simp[evl]
theorem Hz{fn:Fn}{a b:Array Value}:(Instr.makeFunc fn a b).run P w=.ok (.func fn a b) w:=rfl
theorem ND{f:Fr}{parts:Array (Nat×Operand)}{K:Value->Prop}(h:KO P T f parts.toList K):
  vL P (Instr.build T (parts.map λ(i,x)=>(i,ev f x))) K:=by
 unfold KO at h;have hparts:(parts.map λ(i,x)=>(i,ev f x)).toList=parts.toList.map λp=>(p.1,ev f p.2):=by simp
 split at h
 ·rename_i fs z hd hz;split at h
  ·rename_i l hl
   replace h:=kF.out h
   obtain⟨hall,hp⟩:=h;obtain⟨cs,hk,hf⟩:=xH _ _ _ hl hp;refine⟨_,hk,λw=>?_⟩;have hmap:∀w,(fs.mapM λg=>do pure (g.offset,<-sizeOf g.type):Sem (Array (Nat×Nat))).run P w=.ok (fs.map λg=>(g.offset,jH P g.type)) w:=by
    intro w;have:∀(l:List Field),(∀g∈l,(P.info? g.type).isSome=true)->∀w,(l.mapM λg=>do pure (g.offset,<-sizeOf g.type):Sem (List (Nat×Nat))).run P w=.ok (l.map λg=>(g.offset,jH P g.type)) w:=by
     intro l;induction l with
     |nil=>intro _ w;rfl
     |cons g l ih=>
      intro hg w;rw[List.mapM_cons];simp only[run_bind,fM (hg g (by simp)),run_pure,ih (λx hx=>hg x (by simp[hx])),dT]
    have hfs:=this fs.toList (λg hg=>yG.1 hall g (by simpa using hg)) w;rw[Array.mapM_eq_mapM_toList,<-bind_pure_comp,run_bind,hfs];show Result.ok _ _=_;congr 1;apply AC;simp
   simp only[Instr.build,run_bind,qM hz,bH hd,hmap];rw[hparts];have hpl:(λ(i:Nat)=>(fs.map λ(g:Field)=>(g.offset,jH P g.type))[i]?)=JL P fs:=by
    funext i;rw[Array.getElem?_map];unfold JL;cases fs[i]?<;>rfl
   rw[hpl];simp only[Array.toArray_toList]at hf;rw[hf];rfl
  ·exact h.elim
 ·rename_i n e z hd hz;split at h
  ·rename_i l hl
   replace h:=kF.out h
   obtain⟨hall,hp⟩:=h;obtain⟨cs,hk,hf⟩:=xH _ _ _ hl hp;refine⟨_,hk,λw=>?_⟩;simp only[Instr.build,run_bind,qM hz,bH hd,fM hall];rw[hparts];simp only[Array.toArray_toList]at hf;rw[hf];rfl
  ·exact h.elim
 ·exact h.elim
theorem IE(s:ByteArray)(l h:Nat):s.extract l h=ofL ((s.data.toList.take h).drop l):=by
 apply ByteArray.ext;apply AC;simp[ofL,ByteArray.extract,ByteArray.copySlice,Es]
theorem Mu{x:Value}{lo hi mx:Option Value}{K:Value->Prop}(h:JG P T x lo hi mx K):
  vL P (Instr.sliceAt T x lo hi mx) K:=by
 unfold JG at h;split at h
 ·rename_i hd
  replace h:=kF.out h
  obtain⟨hm,h⟩:=h;cases mx with
  |some _=>cases hm
  |none=>
   cases x<;>simp only[lN]at h<;>try exact h.elim
   rename_i s;have h':bdW (none:Option Value) s.size s.size λm=>bdW hi s.size m λh=>bdW lo 0 h λl=>(λl h (_:Nat)=>K (.string (ofL ((s.data.toList.take h).drop l)))) l h m:=h;obtain⟨l,hh,m,hk,hr⟩:=zH (P:=P) (isSlice:=false) (by simp) h';refine⟨_,hk,λw=>?_⟩;simp only[Instr.sliceAt,run_bind,bH hd,Instr.slice];simp[hr,run_bind,bH hd,run_pure];apply IE
 ·rename_i e hd
  replace h:=kF.out h
  obtain⟨hm,h⟩:=h
  replace h:=kF.out h
  obtain⟨he,h⟩:=h
  replace hm:mx.isSome=true->hi.isSome=true:=λhx=>by rw[hx]at hm;simpa using hm
  cases x<;>simp only[Oi]at h<;>try exact h.elim
  rename_i a len cap;obtain⟨l,hh,m,hk,hr⟩:=zH (P:=P) (isSlice:=true) (K:=λl h m=>K (.slice (if m=l then a else a.map (·.add (l*jH P e))) (h-l) (m-l))) hm h;refine⟨_,hk,λw=>?_⟩;simp only[Instr.sliceAt,run_bind,bH hd,Instr.slice];simp[hr,run_bind,bH hd,run_pure,fM he]
 ·rename_i n e hd
  replace h:=kF.out h
  obtain⟨hm,h⟩:=h
  replace h:=kF.out h
  obtain⟨he,h⟩:=h
  replace hm:mx.isSome=true->hi.isSome=true:=λhx=>by rw[hx]at hm;simpa using hm
  cases x<;>simp only[Mv]at h<;>try exact h.elim
  rename_i a;cases a with
  |none=>exact h.elim
  |some a=>
   obtain⟨l,hh,m,hk,hr⟩:=zH (P:=P) (isSlice:=false) (K:=λl h m=>K (.slice (some (if m=l then a else a.add (l*jH P e))) (h-l) (m-l))) hm h;refine⟨_,hk,λw=>?_⟩;simp[Instr.sliceAt,Instr.sureAddr,run_bind,bH hd,hr,run_pure,fM he]
 ·exact h.elim
theorem CW{f:Fr}{o:Oper}{K:Value->Prop}(h:Lg P f o.op K):kT P (execOp (ev f) o) K:=by
 obtain⟨dst,op,type,pos,after,guard⟩:=o;cases op<;>simp only[Lg]at h<;>try exact h.elim
 case move x=>exact⟨_,h,λw=>rfl⟩
 case assign x=>exact⟨_,h,λw=>rfl⟩
 case pick c a b=>
  simp only[execOp];generalize ev f c=cv at*
  cases cv<;>simp only[cP]at h<;>try exact h.elim
  rename_i t;exact⟨_,h,λw=>by cases t<;>rfl⟩
 case nilCheck x=>
  simp only[execOp];generalize ev f x=v at*
  cases v<;>simp only[dJ]at h<;>try exact h.elim
  case pointer a=>cases a<;>first|exact h.elim|exact⟨_,h,λw=>rfl⟩
  case func fn _ _=>cases fn<;>first|exact h.elim|exact⟨_,h,λw=>rfl⟩
  case iface=>exact⟨_,h,λw=>rfl⟩
 case binOp op T x y yT=>
  simp only[execOp];refine kT.of1 ?_;unfold aBs at h;cases hd:P.underlying T with
  |none=>
   rw[hd]at h;exact NJ (by cases op<;>exact h)
  |some d=>
   rw[hd]at h;cases hk:EqK.of d with
   |none=>simp only[hk]at h;exact NJ (by cases op<;>exact h)
   |some k=>
    simp only[hk]at h;cases op<;>first
     |exact aAJ (n:=false) hd hk h
     |exact aAJ (n:=true) hd hk h
     |exact NJ h
 case unOp op T x=>
  simp only[execOp];refine kT.of1 ?_;generalize ev f x=v at*
  cases op<;>cases v<;>simp only[unW]at h<;>first
   |exact h.elim
   |exact⟨_,h,λw=>rfl⟩
 case convert s d x=>
  simp only[execOp];refine kT.of1 ?_;unfold WX at h;generalize ev f x=v at*
  split at h
  ·rename_i k1 k2 hs hd;cases v<;>simp only[rX]at h<;>try exact h.elim
   exact⟨_,h,λw=>by simp[convert,run_bind,bH hs,bH hd,Conv.intToInt,run_pure]⟩
  ·rename_i k1 hs hd;cases v<;>simp only[Ur]at h<;>try exact h.elim
   ·exact⟨_,h,λw=>by simp[convert,run_bind,bH hs,bH hd,Conv.intToString,run_pure]⟩
   ·exact⟨_,h,λw=>by simp[convert,run_bind,bH hs,bH hd,run_pure]⟩
  ·rename_i hs hd;cases v<;>simp only[Ur]at h<;>try exact h.elim
   ·exact⟨_,h,λw=>by simp[convert,run_bind,bH hs,bH hd,Conv.intToString,run_pure]⟩
   ·exact⟨_,h,λw=>by simp[convert,run_bind,bH hs,bH hd,run_pure]⟩
  ·exact h.elim
 case makeInterface T x=>
  simp only[execOp];refine kT.of1 ?_;cases hd:P.underlying T with
  |none=>rw[hd]at h;exact h.elim
  |some d=>
   rw[hd]at h;cases d<;>first
    |exact h.elim
    |exact⟨_,h,λw=>by simp[Instr.makeInterface,run_bind,bH hd,run_pure]⟩
 case makeFunc fn first cap=>
  simp only[execOp];refine kT.of1 ⟨_,h,λw=>by rw[Hz,vG,vG]⟩
 case field T x i=>
  simp only[execOp];refine kT.of1 ?_;split at h
  ·rename_i fs hd;split at h
   ·rename_i g hg
    replace h:=kF.out h
    obtain⟨h1,h2⟩:=h;obtain⟨cs,hx,v,hk,hr⟩:=HS h1 h2;exact⟨v,hk,λw=>by simp[Instr.field,run_bind,bH hd,hg,hx,asAgg,run_pure,hr]⟩
   ·exact h.elim
  ·exact h.elim
 case fieldAddr T x i=>
  simp only[execOp];refine kT.of1 ?_;split at h
  ·rename_i fs hd;split at h
   ·rename_i g hg
    replace h:=kF.out h
    obtain⟨h1,h2⟩:=h
    replace h1:jH P g.type≠0:=λhz=>by rw[hz]at h1;simp at h1
    generalize ev f x=v at*
    cases v<;>simp only[aY]at h2<;>try exact h2.elim
    rename_i a;cases a with
    |none=>exact h2.elim
    |some a=>
     have hinfo:(P.info? g.type).isSome=true:=by
      unfold jH at h1;cases hi:P.info? g.type with
      |none=>rw[hi]at h1;exact absurd rfl h1
      |some i=>rfl
     exact⟨_,h2,λw=>by simp[Instr.fieldAt,run_bind,bH hd,hg,Instr.sureAddr,run_pure,fieldPlace,fM hinfo,h1]⟩
   ·exact h.elim
  ·exact h.elim
 case indexAddr T x i=>
  simp only[execOp];refine kT.of1 ?_;unfold Dv at h;generalize ev f x=v at*
  generalize ev f i=iv at*
  split at h
  ·rename_i e hd
   replace h:=kF.out h
   obtain⟨he,h⟩:=h;unfold dV at h;split at h
   ·rename_i a n cap k j _;obtain⟨h0,h1,hk⟩:=h;exact⟨_,hk,λw=>by simp[Instr.indexAt,asIntOf,run_bind,bH hd,run_pure,h0,h1,fM he]⟩
   ·rename_i heq;cases heq
   ·exact h.elim
  ·rename_i n e hd
   replace h:=kF.out h
   obtain⟨he,h⟩:=h;unfold dV at h;split at h
   ·rename_i heq;cases heq
   ·rename_i n' a k j heq;cases heq;obtain⟨h0,h1,hk⟩:=h;exact⟨_,hk,λw=>by simp[Instr.indexAt,asIntOf,run_bind,bH hd,run_pure,h0,h1,Instr.sureAddr,fM he]⟩
   ·exact h.elim
  ·exact h.elim
 case index T x i=>
  simp only[execOp];refine kT.of1 ?_;unfold PC at h;generalize ev f x=v at*
  generalize ev f i=iv at*
  split at h
  ·rename_i hd;unfold oO at h;split at h
   ·rename_i s k j;obtain⟨h0,b,hb,hk⟩:=h;have hb':s[j.toNat]?=some b:=by
     rw[<-hb];show(if h:j.toNat<s.size then some s[j.toNat]else none)=_;by_cases hlt:j.toNat<s.size
     ·rw[dif_pos hlt,List.getElem?_eq_getElem (by simpa using hlt)];rfl
     ·rw[dif_neg hlt,List.getElem?_eq_none (by simpa using hlt)]
    exact⟨_,hk,λw=>by simp[Instr.index,asIntOf,run_bind,bH hd,run_pure,h0,hb']⟩
   ·exact h.elim
  ·rename_i n e hd
   replace h:=kF.out h
   obtain⟨he,h⟩:=h;cases iv<;>simp only[aBd]at h<;>try exact h.elim
   rename_i k j;obtain⟨h0,h1,hp⟩:=h;obtain⟨cs,hx,u,hk,hr⟩:=HS (P:=P) he hp;exact⟨u,hk,λw=>by simp[Instr.index,asIntOf,run_bind,bH hd,run_pure,hx,h0,h1,fM (pQ he),hr]⟩
  ·exact h.elim
 case slice T x lo hi mx=>
  simp only[execOp];exact kT.of1 (Mu h)
 case extract t i=>
  simp only[execOp];refine kT.of1 ?_;generalize ev f t=v at*
  cases v<;>simp only[dE]at h<;>try exact h.elim
  split at h
  ·rename_i v hv;exact⟨_,h,λw=>by simp[Instr.extract,hv,run_pure]⟩
  ·exact h.elim
 case build T parts=>
  simp only[execOp];exact kT.of1 (ND h)
 case call c=>
  obtain⟨callee,args,argTypes⟩:=c;cases callee<;>simp only at h<;>try exact h.elim
  rename_i b;have hargs:args.map (ev f)=(evl f args).toArray:=by rw[vG]
  simp only[execOp,resolve,hargs];generalize evl f args=az at*
  unfold EU at h;split at h
  ·rename_i x;split at h
   ·rename_i T hT;split at h
    ·rename_i hd;unfold gW at h;split at h
     ·exact⟨_,h,λw=>by simp[run_bind,run_pure,invoke,builtin,Builtin.len_,hT,bH hd,goInt]⟩
     ·exact h.elim
    ·rename_i e hd;unfold dC at h;split at h
     ·exact⟨_,h,λw=>by simp[run_bind,run_pure,invoke,builtin,Builtin.len_,hT,bH hd,goInt]⟩
     ·exact h.elim
    ·rename_i n e hd;exact⟨_,h,λw=>by simp[run_bind,run_pure,invoke,builtin,Builtin.len_,hT,bH hd,goInt]⟩
    ·exact h.elim
   ·exact h.elim
  ·rename_i x;split at h
   ·rename_i T hT;split at h
    ·rename_i e hd;unfold aBu at h;split at h
     ·exact⟨_,h,λw=>by simp[run_bind,run_pure,invoke,builtin,Builtin.cap_,hT,bH hd,goInt]⟩
     ·exact h.elim
    ·exact h.elim
   ·exact h.elim
  ·rename_i x y;unfold TI at h;split at h
   ·exact⟨_,h,λw=>by simp[run_bind,run_pure,invoke,builtin,Builtin.min_,Builtin.min2]⟩
   ·exact h.elim
  ·rename_i x y z;unfold WO at h;split at h
   ·exact⟨_,h,λw=>by simp[run_bind,run_pure,invoke,builtin,Builtin.min_,Builtin.min2]⟩
   ·exact h.elim
  ·rename_i x y;unfold Pe at h;split at h
   ·exact⟨_,h,λw=>by simp[run_bind,run_pure,invoke,builtin,Builtin.max_,Builtin.max2]⟩
   ·exact h.elim
  ·exact h.elim
def isC:Operand->Bool
 |.const _=>true
 |_=>false
def qA(c:Bool):Operand:=bif c then .const undef else .tmp 0
def eqQ(P:Program)(op:BinOp)(T:TypeId)(cx cy:Bool)(a b:Value)(w:World)(K:Value->Prop):Prop:=
 mS P (do eqGuard op T (qA cx) (qA cy) a b;binOp op T a b) w K
def CU(P:Program)(f:Fr)(o:Oper)(w:World)(K:Value->Prop):Prop:=
 match o.op with
 |.load T a=>kF (P.underlying T).isSome (ldW (tP P T) (jH P T) (ev f a) w K)
 |.lookup T x i ok=>mS P (Instr.lookup T (ev f x) (ev f i) ok) w K
 |.binOp op T x y _=>eqQ P op T (isC x) (isC y) (ev f x) (ev f y) w K
 |.convert s d x=>mS P (convert s d (ev f x)) w K
 |.typeAssert x xT aT ok=>mS P (Instr.typeAssert (ev f x) xT aT ok) w K
 |.entry it=>mS P (Instr.entry (ev f it)) w K
 |.call {callee:=.builtin b,args,argTypes}=>(match b with
   |.len=>mS P (Builtin.len_ argTypes o.type (evl f args).toArray) w K
   |_=>False)
 |_=>False
def isRead(P:Program):Op->Bool
 |.load ..|.lookup ..|.binOp ..|.typeAssert ..|.entry ..=>true
 |.convert s d _=>(match P.underlying s,P.underlying d with|some (.slice _),some .string=>true|_,_=>false)
 |.call {callee:=.builtin b,..}=>(match b with|.len=>true|_=>false)
 |_=>false
def nY(n:Nat)(z:List Value):List Value:=match n with|0=>[]|n+1=>z++nY n z
def BX(P:Program)(T:TypeId)(len:Nat)(f:Fr)(parts:List (Nat×Operand))(w:World)(K:Value->World->Prop):Prop:=
 match P.underlying T with
 |some (.slice e)=>(match BA P e,sW (λi=>some (i*jH P e,jH P e)) f parts with
   |some z,some l=>kF (P.info? e).isSome (kF (Nat.beq z.cells.size (jH P e)) (kF (Nat.ble (len*jH P e) 1000) (dN e len (nY len z.cells.toList) l w K)))
   |_,_=>False)
 |_=>False
def Zg[HX](P:Program)(f:Fr)(o:Oper)(w:World)(K:Value->World->Prop):Prop:=
 match o.op with
 |.alloc T=>(match BA P T with|some z=>bO T z.cells.toList w K|none=>False)
 |.box T x=>eL T (ev f x) w K
 |.buildSlice T n parts=>BX P T n f parts.toList w K
 |.store T a x=>kF (P.info? T).isSome (stW (jH P T) (ev f a) (ev f x) w (K undef))
 |.mapUpdate T m k x|.insert T m k x=>mR P (Instr.mapUpdate T (ev f m) (ev f k) (ev f x)) w (K undef)
 |.makeMap T r=>dY P (Instr.makeMap T (r.map (ev f))) w K
 |.makeSlice T l c=>dY P (Instr.makeSlice T (ev f l) (ev f c)) w K
 |.range T x=>dY P (Instr.range T (ev f x)) w K
 |.next it s=>dY P (Instr.next (ev f it) s o.type) w K
 |.convert s d x=>dY P (convert s d (ev f x)) w K
 |.call {callee:=.value x,args,..}=>(match x with
   |.func g=>aC P g (evl f args) w K
   |_=>nU P (ev f x) (evl f args) w K)
 |.call {callee:=.invoke r m,args,..}=>Oq P (callMethod (ev f r) m (evl f args).toArray) w K
 |.panic x=>MK (ev f x) w
 |.call {callee:=.builtin b,args,argTypes}=>(match b with
   |.append=>dY P (Builtin.append_ argTypes o.type (evl f args).toArray) w K
   |.copy=>dY P (Builtin.copy_ argTypes o.type (evl f args).toArray) w K
   |.delete=>dY P (Builtin.delete_ argTypes o.type (evl f args).toArray) w K
   |.clear=>dY P (Builtin.clear_ argTypes o.type (evl f args).toArray) w K
   |.panic=>MK ((evl f args).getD 0 undef) w
   |_=>False)
 |_=>False
def Hc[HX](P:Program)(f:Fr)(o:Oper)(w:World)(K:Value->World->Prop):Prop:=
 match lW P o.op with
 |true=>Lg P f o.op (λv=>K v w)
 |false=>(match isRead P o.op with
  |true=>CU P f o w (λv=>K v w)
  |false=>Zg P f o w K)
theorem EN{a:Addr}(h:w.cell? a=some v):(load a).run P w=.ok v w:=by
 simp[load,Sem.run,h]
theorem tA{P:Program}{a:Addr}{w:World}:∀(n i:Nat) (l:List Value) (acc:Array Value),jN w a i n=some l->
  (loadCellsFrom a i n acc).run P w=.ok (acc++l.toArray) w
 |0,i,l,acc,h=>by
  simp only[jN,bD]at h
  subst h
  simp[loadCellsFrom,run_pure]
 |n+1,i,l,acc,h=>by
  simp only[jN]at h
  cases hc:w.cell? (a.add i)with
  |none=>simp[hc]at h
  |some v=>
   cases hr:jN w a (i+1) n with
   |none=>simp[hc,hr]at h
   |some l'=>
    simp only[hc,hr,gZ,bD]at h
    subst h
    simp only[loadCellsFrom,run_bind,EN hc,tA n (i+1) l' _ hr]
    simp
theorem Po{x:Value}{K:Value->Prop}(hT:(P.underlying T).isSome=true)(h:ldW (tP P T) (jH P T) x w K):
  ∃v,K v/\(Instr.loadAt T x).run P w=.ok v w:=by
 cases x<;>simp only[ldW]at h<;>try exact h.elim
 rename_i a;cases a with
 |none=>exact h.elim
 |some a=>
  simp only at h;cases ha:tP P T with
  |true=>
   rw[ha]at h;obtain⟨l,hl,hk⟩:=h;refine⟨_,hk,?_⟩;simp[Instr.loadAt,Instr.sureAddr,loadVar,run_bind,run_pure,uT hT,ha,fM (pQ hT),loadCells,tA _ _ _ _ hl]
  |false=>
   rw[ha]at h;obtain⟨v,hv,hk⟩:=h;refine⟨_,hk,?_⟩;simp[Instr.loadAt,Instr.sureAddr,loadVar,run_bind,run_pure,uT hT,ha]
   first|exact EN hv|(rw[hv])
theorem Eh(op:BinOp)(T:TypeId)(x y:Operand)(a b:Value):eqGuard op T (qA (isC x)) (qA (isC y)) a b=eqGuard op T x y a b:=by
 cases x<;>cases y<;>rfl
theorem yV{f:Fr}{o:Oper}{K:Value->Prop}(h:CU P f o w K):
  ∃v,K v/\(execOp (ev f) o).run P w=.ok (.value v) w:=by
 have key:∀(s:Sem Value),(∃v,K v/\s.run P w=.ok v w)->∃v,K v/\(do pure (.value (<-s)):Sem Next).run P w=.ok (.value v) w:=by
  rintro s ⟨v,hk,hr⟩;exact⟨v,hk,by rw[run_bind,hr];rfl⟩
 have key2:∀(s:Sem Value),mS P s w K->∃v,K v/\s.run P w=.ok v w:=λs ⟨v,hr,hk⟩=>⟨v,hk,hr⟩;obtain⟨dst,op,type,pos,after,guard⟩:=o;cases op<;>simp only[CU]at h<;>try exact h.elim
 case load T a=>simp only[execOp];exact key _ (Po (kF.out h).1 (kF.out h).2)
 case lookup T x i ok=>simp only[execOp];exact key _ (key2 _ h)
 case binOp op T x y yT=>
  simp only[execOp];refine key _ (key2 _ ?_);unfold eqQ at h;rw[Eh]at h;exact h
 case convert s d x=>simp only[execOp];exact key _ (key2 _ h)
 case typeAssert x xT aT ok=>simp only[execOp];exact key _ (key2 _ h)
 case entry it=>simp only[execOp];exact key _ (key2 _ h)
 case call c=>
  obtain⟨callee,args,argTypes⟩:=c;cases callee<;>simp only at h<;>try exact h.elim
  rename_i b;cases b<;>simp only at h<;>try exact h.elim
  simp only[execOp,resolve,vG];obtain⟨v,hk,hr⟩:=key2 _ h;exact⟨v,hk,by simp[run_bind,run_pure,invoke,builtin,hr]⟩
theorem wB{P:Program}{a:Addr}{K:World->Prop}:∀(l:List Value) (i:Nat) (w:World),uQ a l i w K->∃w',K w'/\(storeCells a l i).run P w=.ok () w'
 |[],i,w,h=>⟨w,h,rfl⟩
 |v::r,i,w,h=>by
  obtain⟨h1,h2,h3,h4⟩:=h
  obtain⟨w',hk,hr⟩:=wB (P:=P) r (i+1) _ h4
  refine⟨w',hk,?_⟩
  obtain⟨old,ho⟩:=Option.isSome_iff_exists.1 h2
  have hs:(store (a.add i) v).run P w=.ok () (w.setCell (a.add i) v):=by
   cases v<;>first
    |(simp[gH]at h1;done)
    |(simp[store,Sem.run,ho,h3];done)
  simp only[storeCells,run_bind,hs,hr]
theorem Xp{x:Value}{K:World->Prop}(hT:(P.info? T).isSome=true)(h:stW (jH P T) x v w K):
  ∃w',K w'/\(Instr.storeAt T x v).run P w=.ok () w':=by
 cases x<;>simp only[stW]at h<;>try exact h.elim
 rename_i a;cases a with
 |none=>exact h.elim
 |some a=>
  obtain⟨h1,h2⟩:=h;obtain⟨w',hk,hr⟩:=wB (P:=P) _ _ _ h2;refine⟨w',hk,?_⟩;simp[Instr.storeAt,Instr.sureAddr,storeVar,run_bind,run_pure,fM hT,h1,hr]
theorem Ec{z:Array Value}{size:Nat}(hz:z.size=size):∀len,((Array.range (len*size)).map (z[· %z.size]!))=(nY len z.toList).toArray:=by
 subst hz;have hlen:∀len,(nY len z.toList).length=len*z.size:=by
  intro len;induction len with
  |zero=>simp[nY]
  |succ n ih=>simp[nY,ih,Nat.succ_mul,pP]
 intro len;apply Array.ext (by simp[hlen]);intro i h1 h2;simp only[Array.getElem_map,Array.getElem_range,List.getElem_toArray];simp at h1;have:∀(len i:Nat) (h:i<(nY len z.toList).length),(nY len z.toList)[i]=z[i%z.size]!:=by
  intro len;induction len with
  |zero=>intro i h;simp[nY]at h
  |succ n ih=>
   intro i h;have hpos:0<z.size:=by
    rcases mG z.size with h0|h0
    ·rw[hlen,h0]at h;simp at h
    ·exact h0
   simp only[nY,List.getElem_append];split
   ·rename_i hi;have hi':i<z.size:=by simpa using hi
    rw[jX hi',getElem!_pos z i hi'];simp
   ·rename_i hi;have hi':z.size<=i:=by simpa using hi
    rw[ih];simp only[Array.length_toList];congr 1;rw[Nat.mod_eq_sub_mod hi']
 rw[this]
theorem Nt[HX]{f:Fr}{o:Oper}(h:Zg P f o w K):Res P K ((execOp (ev f) o).run P w):=by
 have keyV:∀(s:Sem Value),dY P s w K->Res P K ((do pure (.value (<-s)):Sem Next).run P w):=by
  intro s hs;unfold dY at hs;rw[run_bind];cases hr:s.run P w with
  |ok v w'=>rw[hr]at hs;exact hs
  |halt x w'=>rw[hr]at hs;exact hs.elim
 have keyU:∀(s:Sem Unit),mR P s w (K undef)->Res P K ((do s;pure .skip:Sem Next).run P w):=by
  intro s hs;unfold mR at hs;rw[run_bind];cases hr:s.run P w with
  |ok v w'=>rw[hr]at hs;exact hs
  |halt x w'=>rw[hr]at hs;exact hs.elim
 have keyP:∀(x:Value),MK x w->Res P K ((do pure (.value (<-Instr.panic x)):Sem Next).run P w):=by
  intro x hs;unfold MK at hs;split at hs
  ·exact hs
  ·exact hs.elim
 obtain⟨dst,op,type,pos,after,guard⟩:=o;cases op<;>simp only[Zg]at h<;>try exact h.elim
 case alloc T=>
  cases hz:BA P T with
  |none=>rw[hz]at h;exact h.elim
  |some z=>
   rw[hz]at h;simp only[execOp];have hr:(Instr.alloc T true (.tuple #[])).run P w=.ok (.pointer (some ⟨w.heap.size,0,none⟩)) (w.alloc (.cells z.cells T)):=by
    simp[Instr.alloc,run_bind,qM hz,newVar,newRow,newObj,Sem.run,run_pure]
   rw[run_bind,hr];exact h
 case box T x=>
  simp only[execOp];have hr:(Instr.box T (ev f x)).run P w=.ok (.pointer (some ⟨w.heap.size,0,none⟩)) (w.alloc (.cells (ev f x).cells T)):=by
   simp[Instr.box,run_bind,newVar,newRow,newObj,Sem.run,run_pure]
  rw[run_bind,hr];exact h
 case buildSlice T n parts=>
  simp only[execOp];unfold BX at h;split at h
  ·rename_i e hd;split at h
   ·rename_i z l hz hl
    replace h:=kF.out h
    obtain⟨h1,h⟩:=h
    replace h:=kF.out h
    obtain⟨h2,h⟩:=h
    replace h:=kF.out h
    obtain⟨h3,h4⟩:=h
    replace h2:=gL h2
    replace h3:=iK h3
    unfold dN at h4;obtain⟨cs,hk,hf⟩:=xH _ _ _ hl h4;have hparts:(parts.map λ(i,x)=>(i,ev f x)).toList=parts.toList.map λp=>(p.1,ev f p.2):=by simp
    have hr:(Instr.buildSlice T n (parts.map λ(i,x)=>(i,ev f x))).run P w=.ok (.slice (some ⟨w.heap.size,0,none⟩) n n) (w.alloc (.cells cs.toArray e)):=by
     simp only[Instr.buildSlice,run_bind,bH hd,fM h1];rw[aD (by omega)];have hcells:=Ec (z:=z.cells) h2 n;by_cases h0:n*jH P e=0
     ·rw[aH h0];simp only[run_bind,run_pure];have hc:((Array.range (n*jH P e)).map ((#[]:Array Value)[· %(#[]:Array Value).size]!))=(nY n z.cells.toList).toArray:=by
       rw[<-hcells,h0];simp[show Array.range 0=#[]from rfl]
      rw[hc,hparts,hf];simp[run_bind,newRow,newObj,Sem.run,run_pure]
     ·rw[aD h0];simp only[run_bind,run_pure,qM hz];rw[hcells,hparts,hf];simp[run_bind,newRow,newObj,Sem.run,run_pure]
    rw[run_bind,hr];exact hk
   ·exact h.elim
  ·exact h.elim
 case store T a x=>
  simp only[execOp];obtain⟨w',hk,hr⟩:=Xp (kF.out h).1 (kF.out h).2;rw[run_bind,hr];exact hk
 case mapUpdate T m k x=>simp only[execOp];exact keyU _ h
 case insert T m k x=>simp only[execOp];exact keyU _ h
 case makeMap T r=>simp only[execOp];exact keyV _ h
 case makeSlice T l c=>simp only[execOp];exact keyV _ h
 case range T x=>simp only[execOp];exact keyV _ h
 case next it s=>simp only[execOp];exact keyV _ h
 case panic x=>
  simp only[execOp];exact keyP _ h
 case convert s d x=>simp only[execOp];exact keyV _ h
 case call c=>
  obtain⟨callee,args,argTypes⟩:=c;cases callee with
  |value x=>
   simp only[execOp,resolve,vG];cases x<;>simp only at h
   case func g=>
    unfold aC at h;have:(do let d<-(Deferred.ofValue (ev f (.func g)) (evl f args).toArray);invoke d.target d.args:Sem Next)=callFunc g (evl f args).toArray:=by
     show callFunc g (#[]++(evl f args).toArray++#[])=_;simp
    rw[this];exact h
   all_goals exact h
  |invoke r m=>
   simp only at h;simp only[execOp,resolve,vG];have:(do let d<-(pure {target:=.fn (.method m) #[],args:=#[ev f r]++(evl f args).toArray}:Sem Deferred);invoke d.target d.args:Sem Next)=callMethod (ev f r) m (evl f args).toArray:=by
    show invoke (.fn (.method m) #[]) (#[ev f r]++(evl f args).toArray)=_;simp[invoke]
   rw[this];exact h
  |builtin b=>
   simp only[execOp,resolve,vG];cases b<;>simp only at h<;>first
    |exact h.elim
    |exact keyV _ h
    |(have e:(evl f args).getD 0 undef=(evl f args).toArray.getD 0 .nilIface:=by
       cases hl:evl f args with
       |nil=>rw[hl]at h;exact h.elim
       |cons a r=>rfl
      rw[e]at h;exact keyP _ h)
theorem Ga[HX]{f:Fr}{o:Oper}(h:Hc P f o w K):Res P K ((execOp (ev f) o).run P w):=by
 unfold Hc at h;cases hp:lW P o.op with
 |true=>
  rw[hp]at h;simp only at h;obtain⟨v,hk,hr⟩:=CW (o:=o) h;rw[hr];exact hk
 |false=>
  rw[hp]at h;simp only at h;cases hq:isRead P o.op with
  |true=>
   rw[hq]at h;simp only at h;obtain⟨v,hk,hr⟩:=yV (o:=o) h;rw[hr];exact hk
  |false=>
   rw[hq]at h;exact Nt h
def nD:List Nat->Nat->Bool
 |[],_=>false
 |x::r,i=>bif Nat.beq x i then true else nD r i
theorem iI{l:List Nat}:nD l i=true↔i∈l:=by
 induction l with
 |nil=>simp[nD]
 |cons x r ih=>
  simp only[nD,bW];cases h:Nat.beq x i with
  |true=>simp[gL h]
  |false=>
   have:¬i=x:=λe=>by subst e;simp at h
   simp[this,ih]
def isB(v:Value)(want:Bool):Bool:=match v with|.bool b=>b==want|_=>false
def pL(ops:List Oper)(g:Nat):Option Nat:=match ops[g]? with|some o=>o.dst|none=>none
def yv(ops:List Oper)(f:Fr)(g:Nat)(want:Bool):Bool:=match pL ops g with|some d=>isB (f d) want|none=>false
def jW(ops:List Oper)(f:Fr)(o:Oper):Bool:=match o.guard with|none=>true|some (g,want)=>yv ops f g want
def Ag(n:Nat)(D:List Deferred)(f:Fr)(a:Act):Prop:=a.defers=D/\a.tmps.size=n/\∀t,a.tmps.getD t undef=f t
theorem WT{f:Fr}{a:Act}{x:Operand}(h:∀t,x=.tmp t->a.tmps.getD t undef=f t):a.eval x=ev f x:=by
 cases x<;>first|rfl|exact h _ rfl
theorem wR{D:List Deferred}{f:Fr}{a:Act}(h:Ag n D f a):a.eval=ev f:=funext λ_=>WT λt _=>h.2.2 t
theorem Eu{ops:List Oper}{f:Fr}{a:Act}{o:Oper}(h:∀g want d,o.guard=some (g,want)->pL ops g=some d->a.tmps.getD d undef=f d):
  Region.wanted o (yielded ops.toArray a.tmps)=jW ops f o:=by
 unfold Region.wanted jW;cases hg:o.guard with
 |none=>rfl
 |some gw=>
  obtain⟨g,want⟩:=gw;have hy:yielded ops.toArray a.tmps g=match pL ops g with|some d=>(match f d with|.bool b=>some b|_=>none)|none=>none:=by
   unfold yielded;have h':=h g want;unfold pL at*
   simp only[List.getElem?_toArray];cases hx:ops[g]? with
   |none=>rfl
   |some o'=>
    rw[hx]at h';cases hd:o'.dst with
    |none=>simp[hd]
    |some d=>
     have hfd:=h' d hg hd;simp only[Option.bind_some,hd];rw[<-hfd];rcases dK d a.tmps.size with hlt|hge
     ·have e1:a.tmps[d]?=some a.tmps[d]:=by simp[hlt]
      have e2:a.tmps.getD d undef=a.tmps[d]:=by simp[hlt]
      rw[e1,e2];generalize a.tmps[d]=x;cases x<;>rfl
     ·simp[Array.getElem?_eq_none hge,undef,Array.getD,Nat.not_lt.2 hge]
  simp only[yv,hy];cases hd:pL ops g with
  |none=>simp
  |some d=>simp only[isB];cases f d<;>simp
theorem CV(a:Act)(d:Option Nat)(v:Value):(a.put d v).tmps.size=a.tmps.size:=by cases d<;>simp[Act.put]
theorem put_defers(a:Act)(d:Option Nat)(v:Value):(a.put d v).defers=a.defers:=by cases d<;>rfl
theorem Gy(a:Act)(d:Nat)(v:Value)(t:Nat)(hd:d<a.tmps.size):(a.put (some d) v).tmps.getD t undef=if t=d then v else a.tmps.getD t undef:=by
 simp only[Act.put,gO,Array.getElem?_setIfInBounds];by_cases h:t=d
 ·subst h;simp[hd]
 ·rw[aD h,aD (tS h)]
theorem mQ(f:Fr)(d:Nat)(v:Value)(t:Nat):upd f (some d) v t=if t=d then v else f t:=by
 simp only[upd];by_cases h:t=d
 ·subst h;simp
 ·have:Nat.beq t d=false:=by
   cases hb:Nat.beq t d with
   |false=>rfl
   |true=>exact absurd (gL hb) h
  simp[this,h]
theorem Ag.put{D:List Deferred}{f:Fr}{a:Act}{d:Option Nat}(h:Ag n D f a)(hd:∀t,d=some t->t<n)(v:Value):Ag n D (upd f d v) (a.put d v):=by
 refine⟨by rw[put_defers];exact h.1,by rw[CV];exact h.2.1,λt=>?_⟩;cases d with
 |none=>exact h.2.2 t
 |some d=>rw[Gy _ _ _ _ (by rw[h.2.1];exact hd d rfl),mQ,h.2.2]
structure DE where
 fl:List Nat
 anc:List (List Nat)
def fZ(o:Oper):List Nat:=(o.after.toList.filter (Region.binds .any)).map (·.on)
def allIn(done:List Nat):List Nat->Bool
 |[]=>true
 |x::r=>bif nD done x then allIn done r else false
theorem xY{done l:List Nat}:allIn done l=true↔∀x∈l,x∈done:=by
 induction l with
 |nil=>simp[allIn]
 |cons x r ih=>
  simp only[allIn,bW,forall_eq_or_imp];cases h:nD done x with
  |true=>simp[iI.1 h,ih]
  |false=>
   have:x∉done:=λe=>by simp[iI.2 e]at h
   simp[this]
def rI(ops:List Oper)(done:List Nat):List Nat->Option (Nat×Oper)
 |[]=>none
 |i::r=>bif nD done i then rI ops done r else
   (match ops[i]? with
    |some o=>bif allIn done (fZ o)then some (i,o)else rI ops done r
    |none=>rI ops done r)
def Bg(ops:List Oper)(fl done:List Nat):Nat->List Oper->List (Nat×Oper)
 |_,[]=>[]
 |i,o::r=>bif (bif nD done i then false else(bif nD fl i then false else allIn done (fZ o)))then(i,o)::Bg ops fl done (i+1) r else Bg ops fl done (i+1) r
def UG(P:Program)(f:Fr)(o:Oper)(w:World)(K:Value->Prop):Prop:=
 match lW P o.op with
 |true=>Lg P f o.op K
 |false=>CU P f o w K
def GqW(c:Bool)(A:(Value->Prop)->Prop)(B:Value->Prop):Prop:=∃v,(c=true->A (λx=>x=v))/\(c=false->v=undef)/\B v
def GeW(c:Bool)(w:World)(A:(Value->World->Prop)->Prop)(B:Value->World->Prop):Prop:=(c=true->A B)/\(c=false->B undef w)
def qfW(P:Program)(ops:List Oper)(f:Fr)(o:Oper)(w:World)(K:Value->Prop):Prop:=
 match o.guard with
 |none=>UG P f o w K
 |some (g,want)=>GqW (yv ops f g want) (UG P f o w) K
def geW[HX](P:Program)(ops:List Oper)(f:Fr)(o:Oper)(w:World)(K:Value->World->Prop):Prop:=
 match o.guard with
 |none=>Hc P f o w K
 |some (g,want)=>GeW (yv ops f g want) w (Hc P f o w) K
def vO(P:Program)(ops:List Oper)(f:Fr)(w:World)(rest:Prop):List Nat->Prop
 |[]=>rest
 |i::r=>match ops[i]? with
  |some o=>(match o.dst with
   |some d=>(match lW P o.op with
    |true=>vO P ops f w rest r
    |false=>
     ((match o.guard with
       |none=>CU P f o w (λx=>x=f d)
       |some (g,want)=>yv ops f g want=true->CU P f o w (λx=>x=f d))/\vO P ops f w rest r))
   |none=>vO P ops f w rest r)
  |none=>vO P ops f w rest r
def wJ(l:List Nat):List Nat->List Nat
 |[]=>[]
 |x::r=>bif nD l x then wJ l r else x::wJ l r
theorem Fo{l r:List Nat}{x:Nat}(h:x∈r)(hl:x∉l):x∈wJ l r:=by
 induction r with
 |nil=>cases h
 |cons y r ih=>
  simp only[wJ];rcases bW.1 h with rfl|h
  ·have:nD l x=false:=by
    cases hm:nD l x with
    |false=>rfl
    |true=>exact absurd (iI.1 hm) hl
   simp[this]
  ·cases hm:nD l y with
   |true=>exact ih h
   |false=>simp[ih h]
def aAS:Prop:=∀(_:HX) (P:Program) (ops:List Oper) (f:Fr) (o:Oper) (w:World) (K:Value->World->Prop),geW P ops f o w K->True
def Qh(p:Nat×Oper->Prop):List (Nat×Oper)->Prop
 |[]=>aAS
 |[x]=>p x
 |x::y::r=>p x/\Qh p (y::r)
theorem FL{p:Nat×Oper->Prop}:∀{l:List (Nat×Oper)} {x},Qh p l->x∈l->p x
 |[],_,_,h=>by cases h
 |[y],x,h,hx=>by simp at hx;subst hx;exact h
 |y::z::r,x,h,hx=>by
  rcases bW.1 hx with rfl|hx
  ·exact h.1
  ·exact FL h.2 hx
def uL[HX](P:Program)(ops:List Oper)(e:DE):Nat->List Nat->List Nat->Fr->World->(Fr->World->Prop)->Prop
 |0,_,_,_,_,_=>False
 |n+1,done,pend,f,w,K=>
  match rI ops done e.fl with
  |some (i,o)=>qfW P ops f o w λv=>uL P ops e n (i::done) (i::pend) (upd f o.dst v) w K
  |none=>match Bg ops e.fl done 0 ops with
   |[]=>K f w
   |x::r=>Qh (λio=>geW P ops f io.2 w λv w'=>
     vO P ops (upd f io.2.dst v) w' (uL P ops e n (io.1::done) (wJ (e.anc.getD io.1 []) pend) (upd f io.2.dst v) w' K) (wJ (e.anc.getD io.1 []) pend)) (x::r)
def mM(ops:List Oper)(o:Oper):List Nat:=
 (o.op.operands.toList.filterMap λ|.tmp t=>some t|_=>none)++(match o.guard with|some (g,_)=>(pL ops g).toList|none=>[])
def Fi(o:Oper):Bool:=match o.op with|.select ..=>false|_=>true
def Xa(P:Program)(ops:List Oper)(e:DE)(i:Nat):Bool:=
 match ops[i]? with
 |some o=>(lW P o.op||isRead P o.op)&&
  (match o.dst with
   |some d=>(List.range ops.length).all λk=>match ops[k]? with
     |some ok=>(k==i||ok.dst !=some d)&&(!(nD (mM ops ok) d)||nD (e.anc.getD k []) i)&&
       (match ok.dst with
        |some dk=> !(nD (mM ops o) dk)||nD (e.anc.getD i []) k||(!(nD e.fl k)&&nD (e.anc.getD k []) i)
        |none=>true)
     |none=>true
   |none=>false)
 |none=>false
def WZ(n:Nat)(ops:List Oper)(e:DE)(k:Nat):Bool:=
 match ops[k]? with
 |some o=>(match o.dst with|some d=>decide (d<n)|none=>true)&&Fi o&&(fZ o).all (λx=>decide (x<k))&&
   (e.anc.getD k []).all (λx=>(fZ o).any λy=>x==y||nD (e.anc.getD y []) x)
 |none=>true
def pH(P:Program)(n:Nat)(ops:List Oper)(e:DE):Bool:=
 e.fl.all (Xa P ops e)&&(List.range ops.length).all (WZ n ops e)
section
variable{P:Program}{n:Nat}{ops:List Oper}{e:DE}
theorem pW(h:pH P n ops e=true){k:Nat}{o:Oper}(hk:ops[k]?=some o):
  (∀d,o.dst=some d->d<n)/\Fi o=true/\(∀x∈fZ o,x<k)/\∀x∈e.anc.getD k [],∃y∈fZ o,x=y\/x∈e.anc.getD y []:=by
 simp only[pH,aJ,bN]at h;have hlt:k<ops.length:=by
  rcases dK k ops.length with h'|h'
  ·exact h'
  ·rw[List.getElem?_eq_none h']at hk;cases hk
 have:=h.2 k (mH.2 hlt);simp only[WZ,hk,aJ,bN,List.any_eq_true,cM,fI,bB]at this;obtain⟨⟨⟨h1,h2⟩,h3⟩,h4⟩:=this;refine⟨λd hd=>by simpa[hd]using h1,h2,h3,λx hx=>?_⟩;obtain⟨y,hy,hxy⟩:=h4 x hx;exact⟨y,hy,hxy.imp id iI.1⟩
theorem DW(h:pH P n ops e=true)(hi:i∈e.fl):∃o d,ops[i]?=some o/\o.dst=some d/\(lW P o.op=true\/isRead P o.op=true)/\
  ∀k ok,ops[k]?=some ok->(k≠i->ok.dst≠some d)/\(d∈mM ops ok->i∈e.anc.getD k [])/\
   ∀dk,ok.dst=some dk->dk∈mM ops o->k∈e.anc.getD i []\/(k∉e.fl/\i∈e.anc.getD k []):=by
 simp only[pH,aJ,bN]at h;have h1:=h.1 i hi;unfold Xa at h1;cases ho:ops[i]? with
 |none=>simp[ho]at h1
 |some o=>
  simp only[ho]at h1;cases hd:o.dst with
  |none=>simp[hd]at h1
  |some d=>
   simp only[hd,aJ,cM,bN]at h1;refine⟨o,d,rfl,hd,h1.1,λk ok hk=>?_⟩;have hlt:k<ops.length:=by
    rcases dK k ops.length with h'|h'
    ·exact h'
    ·rw[List.getElem?_eq_none h']at hk;cases hk
   have h2:=h1.2 k (mH.2 hlt);simp only[hk,aJ,cM,fI,bne_iff_ne,dO]at h2;obtain⟨⟨h3,h4⟩,h5⟩:=h2;refine⟨λhne=>h3.resolve_left hne,λhm=>?_,λdk hdk hm=>?_⟩
   ·rcases h4 with h4|h4
    ·rw[iI.2 hm]at h4;cases h4
    ·exact iI.1 h4
   ·simp only[hdk,aJ,cM,dO]at h5;rcases h5 with(h5|h5)|⟨h5,h6⟩
    ·rw[iI.2 hm]at h5;cases h5
    ·exact .inl (iI.1 h5)
    ·exact .inr ⟨(λhk'=>by rw[iI.2 hk']at h5;cases h5),iI.1 h6⟩
theorem Ea(h:pH P n ops e=true){done:List Nat}(hc:∀k∈done,∀o,ops[k]?=some o->∀x∈fZ o,x∈done):
  ∀(k:Nat) (o:Oper),ops[k]?=some o->(∀x∈fZ o,x∈done)->∀x∈e.anc.getD k [],x∈done:=by
 intro k;induction k using Nat.strongRecOn with
 |_ k ih=>
  intro o ho hd x hx;obtain⟨_,_,h3,h4⟩:=pW h ho;obtain⟨y,hy,hxy⟩:=h4 x hx;rcases hxy with rfl|hxy
  ·exact hd x hy
  ·have hyd:=hd y hy;cases hoy:ops[y]? with
   |none=>
    rw[List.getElem?_eq_none_iff]at hoy;have hk:k<ops.length:=by
     rcases dK k ops.length with h'|h'
     ·exact h'
     ·rw[List.getElem?_eq_none h']at ho;cases ho
    have:=h3 y hy;omega
   |some oy=>exact ih y (h3 y hy) oy hoy (λz hz=>hc y hyd oy hoy z hz) x hxy
end
section
variable{P:Program}{n:Nat}{D:List Deferred}{ops:List Oper}{e:DE}
def YY(P:Program)(ops:List Oper)(f:Fr)(o:Oper)(d:Nat)(w:World):Prop:=
 (jW ops f o=true/\(execOp (ev f) o).run P w=.ok (.value (f d)) w)\/(jW ops f o=false/\f d=undef)
structure Inv(R:Fr->Prop)(P:Program)(n:Nat)(D:List Deferred)(ops:List Oper)(e:DE)(listed:Array Bool)(a:Act)(done pend:List Nat)(f:Fr)(w:World):Prop where
 fr:R f
 defers:a.defers=D
 size:a.tmps.size=n
 lsize:listed.size=ops.length
 l1:∀i:Nat,listed.getD i false=true->i∈done
 l2:∀i∈done,i<ops.length/\(listed.getD i false=false->i∈e.fl/\i∈pend)
 l3:∀t,(∀i∈done,listed.getD i false=false->pL ops i≠some t)->a.tmps.getD t undef=f t
 l4:∀i∈done,listed.getD i false=false->∀o d,ops[i]?=some o->o.dst=some d->YY P ops f o d w/\(lW P o.op=true->∀w',YY P ops f o d w')
 l5:∀i∈done,∀o,ops[i]?=some o->∀x∈fZ o,x∈done
 l6:∀i:Nat,listed.getD i false=true->∀o,ops[i]?=some o->∀x∈fZ o,listed.getD x false=true
theorem Di{o:Oper}{t:Nat}(h:Operand.tmp t∈o.op.operands.toList):t∈mM ops o:=by
 unfold mM;exact eF _ (gA.2 ⟨.tmp t,h,rfl⟩)
theorem BF{o:Oper}{g:Nat}{want:Bool}{d:Nat}(hg:o.guard=some (g,want))(hd:pL ops g=some d):d∈mM ops o:=by
 unfold mM;refine cR _ ?_;simp[hg,hd]
theorem JY{o:Oper}(h:Fi o=true):∀cs b,o.op≠.select cs b:=by
 intro cs b he;simp[Fi,he]at h
theorem Bc{o:Oper}(hs:Fi o=true){ρ ρ':Operand->Value}(h:∀x∈o.op.operands.toList,ρ x=ρ' x):execOp ρ o=execOp ρ' o:=
 execOp_congr o (JY hs) (λx hx=>h x (by simpa using hx))
theorem LO{f f':Fr}{x:Operand}(h:∀t,x=.tmp t->f t=f' t):ev f x=ev f' x:=by
 cases x<;>first|rfl|exact h _ rfl
theorem uO{f f':Fr}{o:Oper}(h:∀t∈mM ops o,f t=f' t):jW ops f o=jW ops f' o:=by
 unfold jW;cases hg:o.guard with
 |none=>rfl
 |some gw=>
  obtain⟨g,want⟩:=gw;simp only[yv];cases hd:pL ops g with
  |none=>rfl
  |some d=>simp only[h d (BF hg hd)]
theorem YY.same{f f':Fr}{o:Oper}{d:Nat}(hs:Fi o=true)(h:∀t∈mM ops o,f t=f' t)(hd:f d=f' d)(hy:YY P ops f o d w):YY P ops f' o d w:=by
 unfold YY at*
 rw[<-uO h,<-hd];rw[<-Bc hs (ρ:=ev f) (ρ':=ev f') (λx hx=>LO λt ht=>h t (Di (ht▸hx)))];exact hy
theorem OF{f:Fr}{o:Oper}{K:Value->Prop}(hp:lW P o.op=true\/isRead P o.op=true)(h:qfW P ops f o w K):
  ∃v,K v/\((jW ops f o=true/\(execOp (ev f) o).run P w=.ok (.value v) w/\(lW P o.op=true->∀w',(execOp (ev f) o).run P w'=.ok (.value v) w'))\/(jW ops f o=false/\v=undef)):=by
 have key:∀K:Value->Prop,UG P f o w K->∃v,K v/\(execOp (ev f) o).run P w=.ok (.value v) w/\(lW P o.op=true->∀w',(execOp (ev f) o).run P w'=.ok (.value v) w'):=by
  intro K h;unfold UG at h;cases hp':lW P o.op with
  |true=>
   rw[hp']at h;obtain⟨v,hk,hr⟩:=CW (o:=o) h;exact⟨v,hk,hr w,λ_=>hr⟩
  |false=>
   rw[hp']at h;obtain⟨v,hk,hr⟩:=yV (o:=o) h;exact⟨v,hk,hr,λhh=>by cases hh⟩
 unfold qfW at h;unfold jW;cases hg:o.guard with
 |none=>
  simp only[hg]at h;obtain⟨v,hk,h1,h2⟩:=key K h;exact⟨v,hk,.inl ⟨rfl,h1,h2⟩⟩
 |some gw=>
  obtain⟨g,want⟩:=gw;simp only[hg]at h;obtain⟨v,ht,hf,hk⟩:=h;cases hc:yv ops f g want with
  |true=>
   obtain⟨v',rfl,h1,h2⟩:=key _ (ht hc);exact⟨v',hk,.inl ⟨hc,h1,h2⟩⟩
  |false=>exact⟨v,hk,.inr ⟨hc,hf hc⟩⟩
theorem wK{done:List Nat}:∀{l:List Nat} {i:Nat} {o:Oper},rI ops done l=some (i,o)->i∈l/\i∉done/\ops[i]?=some o/\∀x∈fZ o,x∈done
 |[],_,_,h=>by cases h
 |j::l,i,o,h=>by
  simp only[rI]at h
  cases hm:nD done j with
  |true=>rw[hm]at h;obtain⟨h1,h2⟩:=wK (l:=l) h;exact⟨aS _ h1,h2⟩
  |false=>
   rw[hm]at h
   simp only[aN]at h
   have rec_:rI ops done l=some (i,o)->i∈j::l/\i∉done/\ops[i]?=some o/\∀x∈fZ o,x∈done:=λh=>by
    obtain⟨h1,h2⟩:=wK (l:=l) h
    exact⟨aS _ h1,h2⟩
   cases ho:ops[j]? with
   |none=>rw[ho]at h;exact rec_ h
   |some o'=>
    rw[ho]at h
    simp only at h
    cases hall:allIn done (fZ o')with
    |true=>
     rw[hall]at h
     simp only[aO,bD,fJ]at h
     obtain⟨rfl,rfl⟩:=h
     exact⟨bC,(λhd=>by rw[iI.2 hd]at hm;cases hm),ho,xY.1 hall⟩
    |false=>rw[hall]at h;exact rec_ h
theorem sY{done:List Nat}:∀{l:List Nat},rI ops done l=none->∀i∈l,i∉done->∀o,ops[i]?=some o->¬∀x∈fZ o,x∈done
 |[],_,_,hi,_,_,_,_=>by cases hi
 |j::l,h,i,hi,hd,o,ho,hall=>by
  simp only[rI]at h
  cases hm:nD done j with
  |true=>
   rw[hm]at h
   rcases bW.1 hi with rfl|hi
   ·exact hd (iI.1 hm)
   ·exact sY (l:=l) h i hi hd o ho hall
  |false=>
   rw[hm]at h
   simp only[aN]at h
   rcases bW.1 hi with rfl|hi
   ·rw[ho]at h
    simp[xY.2 hall]at h
   ·cases ho':ops[j]? with
    |none=>rw[ho']at h;exact sY (l:=l) h i hi hd o ho hall
    |some o'=>
     rw[ho']at h
     simp only at h
     cases hall':allIn done (fZ o')with
     |true=>rw[hall']at h;cases h
     |false=>rw[hall']at h;exact sY (l:=l) h i hi hd o ho hall
theorem Ih{fl done:List Nat}:∀(l:List Oper) (k i:Nat) (o:Oper),l[i]?=some o->k+i∉done->k+i∉fl->(∀x∈fZ o,x∈done)->(k+i,o)∈Bg ops fl done k l
 |[],_,i,o,h,_,_,_=>by simp at h
 |p::l,k,0,o,h,h1,h2,h3=>by
  simp only[List.getElem?_cons_zero,bD]at h
  subst h
  have e1:nD done k=false:=by
   cases hm:nD done k with
   |false=>rfl
   |true=>exact absurd (iI.1 hm) h1
  have e2:nD fl k=false:=by
   cases hm:nD fl k with
   |false=>rfl
   |true=>exact absurd (iI.1 hm) h2
  simp[Bg,e1,e2,xY.2 h3]
 |p::l,k,i+1,o,h,h1,h2,h3=>by
  have h':l[i]?=some o:=by simpa using h
  have:=Ih (fl:=fl) (done:=done) l (k+1) i o h' (by rwa[show k+1+i=k+(i+1)by omega]) (by rwa[show k+1+i=k+(i+1)by omega]) h3;rw[show k+1+i=k+(i+1)by omega]at this;simp only[Bg];generalize (bif nD done k then false else bif nD fl k then false else allIn done (fZ p))=b;cases b
  ·exact this
  ·exact aS _ this
theorem IM{fl done:List Nat}:∀(l:List Oper) (k:Nat) (io:Nat×Oper),io∈Bg ops fl done k l->k<=io.1/\l[io.1-k]?=some io.2/\io.1∉done/\io.1∉fl/\∀x∈fZ io.2,x∈done
 |[],_,_,h=>by cases h
 |p::l,k,io,h=>by
  simp only[Bg]at h
  have tail:io∈Bg ops fl done (k+1) l->k<=io.1/\(p::l)[io.1-k]?=some io.2/\io.1∉done/\io.1∉fl/\∀x∈fZ io.2,x∈done:=by
   intro h;obtain⟨h1,h2,h3⟩:=IM l (k+1) io h;refine⟨by omega,?_,h3⟩;rw[show io.1-k=(io.1-(k+1))+1 by omega];simpa using h2
  cases hm:nD done k with
  |true=>rw[hm]at h;exact tail h
  |false=>
   cases hf:nD fl k with
   |true=>rw[hm,hf]at h;exact tail h
   |false=>
    cases ha:allIn done (fZ p)with
    |false=>rw[hm,hf,ha]at h;exact tail h
    |true=>
     rw[hm,hf,ha]at h;simp only[aN,aO]at h;rcases bW.1 h with rfl|h
     ·refine⟨aU _,by simp,(λhd=>by rw[iI.2 hd]at hm;cases hm),(λhd=>by rw[iI.2 hd]at hf;cases hf),xY.1 ha⟩
     ·exact tail h
theorem tX{f:Fr}{w:World}{R:Prop}:∀{l:List Nat},vO P ops f w R l->R
 |[],h=>h
 |i::l,h=>by
  unfold vO at h
  split at h
  ·split at h
   ·cases hp:lW P _<;>rw[hp]at h
    ·exact tX (l:=l) h.2
    ·exact tX (l:=l) h
   ·exact tX (l:=l) h
  ·exact tX (l:=l) h
theorem wD{f:Fr}{w:World}{R:Prop}:∀{l:List Nat},vO P ops f w R l->∀i∈l,∀o d,ops[i]?=some o->o.dst=some d->lW P o.op=false->jW ops f o=true->
  CU P f o w (λx=>x=f d)
 |[],_,_,hi,_,_,_,_,_,_=>by cases hi
 |j::l,h,i,hi,o,d,ho,hd,hp,hw=>by
  rcases bW.1 hi with rfl|hi
  ·unfold vO at h
   simp only[ho,hd,hp]at h
   unfold jW at hw
   cases hg:o.guard with
   |none=>simp only[hg]at h;exact h.1
   |some gw=>
    obtain⟨g,want⟩:=gw
    simp only[hg]at h hw
    exact h.1 hw
  ·unfold vO at h
   split at h
   ·split at h
    ·cases hp':lW P _<;>rw[hp']at h
     ·exact wD (l:=l) h.2 i hi o d ho hd hp hw
     ·exact wD (l:=l) h i hi o d ho hd hp hw
    ·exact wD (l:=l) h i hi o d ho hd hp hw
   ·exact wD (l:=l) h i hi o d ho hd hp hw
end
section
variable{R:Fr->Prop}{P:Program}{n:Nat}{D:List Deferred}{ops:List Oper}{e:DE}
theorem HZ:∀(N:Nat) (l:List Nat),l.Nodup->(∀i∈l,i<N)->l.length<=N
 |0,[],_,_=>aU _
 |0,x::_,_,h=>by have:=h x bC;omega
 |N+1,l,hnd,h=>by
  have h1:(l.erase N).length<=N:=HZ N (l.erase N) (hnd.erase N) λi hi=>by
   have h2:=h i (List.mem_of_mem_erase hi)
   have h3:i≠N:=λe=>by subst e;exact(List.Nodup.not_mem_erase hnd) hi
   omega
  have h4:=List.length_erase (a:=N) (l:=l)
  split at h4<;>omega
theorem lt_of_some{k:Nat}{o:Oper}(h:ops[k]?=some o):k<ops.length:=by
 rcases dK k ops.length with h'|h'
 ·exact h'
 ·rw[List.getElem?_eq_none h']at h;cases h
theorem vH{k:Nat}{o:Oper}(h:ops[k]?=some o):pL ops k=o.dst:=by simp[pL,h]
theorem Inv.float(hR:∀f o v,o∈ops->R f->R (upd f o.dst v))(hc:pH P n ops e=true){listed:Array Bool}{a:Act}{done pend:List Nat}{f:Fr}(I:Inv R P n D ops e listed a done pend f w){o:Oper}(hi:i∈e.fl)(hd:i∉done)(ho:ops[i]?=some o)(hb:∀x∈fZ o,x∈done)
  (hv:(jW ops f o=true/\(execOp (ev f) o).run P w=.ok (.value v) w/\(lW P o.op=true->∀w',(execOp (ev f) o).run P w'=.ok (.value v) w'))\/(jW ops f o=false/\v=undef)):
  Inv R P n D ops e listed a (i::done) (i::pend) (upd f o.dst v) w:=by
 obtain⟨o',d,ho',hdst,hkind,hall⟩:=DW hc hi;rw[ho]at ho';cases ho';have hself:d∉mM ops o:=λhm=>hd (Ea hc I.l5 i o ho hb i ((hall i o ho).2.1 hm));have hfd:∀t,t≠d->upd f o.dst v t=f t:=λt ht=>by rw[hdst,mQ,aD ht]
 refine⟨hR _ _ _ (bK ho) I.fr,I.defers,I.size,I.lsize,λk hk=>aS _ (I.l1 k hk),?_,?_,?_,?_,I.l6⟩
 ·intro k hk;rcases bW.1 hk with rfl|hk
  ·exact⟨lt_of_some ho,λ_=>⟨hi,bC⟩⟩
  ·exact⟨(I.l2 k hk).1,λhl=>⟨((I.l2 k hk).2 hl).1,aS _ ((I.l2 k hk).2 hl).2⟩⟩
 ·intro t ht;have htd:t≠d:=λh=>by
   subst h;refine ht i bC ?_ (by rw[vH ho,hdst]);cases hl:listed.getD i false with
   |false=>rfl
   |true=>exact absurd (I.l1 i hl) hd
  rw[hfd t htd];exact I.l3 t λk hk hl=>ht k (aS _ hk) hl
 ·intro k hk hl ok dk hok hdk;rcases bW.1 hk with rfl|hk
  ·rw[ho]at hok;cases hok;rw[hdst]at hdk;cases hdk;have hsame:∀t∈mM ops o,f t=upd f o.dst v t:=λt ht=>(hfd t (λh=>hself (h▸ht))).symm;have hval:upd f o.dst v d=v:=by rw[hdst,mQ,aH rfl]
   have hsel:=(pW hc ho).2.1;have hex:execOp (ev f) o=execOp (ev (upd f o.dst v)) o:=Bc hsel (λx hx=>LO λt ht=>hsame t (Di (ht▸hx)));rcases hv with⟨h1,h2,h3⟩|⟨h1,h2⟩
   ·rw[hex]at h2 h3;rw[uO hsame]at h1;exact⟨.inl ⟨h1,by rw[hval];exact h2⟩,λhp w'=>.inl ⟨h1,by rw[hval];exact h3 hp w'⟩⟩
   ·rw[uO hsame]at h1;exact⟨.inr ⟨h1,by rw[hval];exact h2⟩,λ_ _=>.inr ⟨h1,by rw[hval];exact h2⟩⟩
  ·have hki:k≠i:=λh=>hd (h▸hk);have hdl:d∉mM ops ok:=λhm=>hd (Ea hc I.l5 k ok hok (I.l5 k hk ok hok) i ((hall k ok hok).2.1 hm));have hdd:dk≠d:=λh=>(hall k ok hok).1 hki (by rw[hdk,h]);have hsel:=(pW hc hok).2.1;have h4:=I.l4 k hk hl ok dk hok hdk;have hsame:∀t∈mM ops ok,f t=upd f o.dst v t:=λt ht=>(hfd t (λh=>hdl (h▸ht))).symm;exact⟨h4.1.same hsel hsame (hfd dk hdd).symm,λhp w'=>(h4.2 hp w').same hsel hsame (hfd dk hdd).symm⟩
 ·intro k hk ok hok x hx;rcases bW.1 hk with rfl|hk
  ·rw[ho]at hok;cases hok;exact aS _ (hb x hx)
  ·exact aS _ (I.l5 k hk ok hok x hx)
theorem Bh[HX](hR:∀f o v,o∈ops->R f->R (upd f o.dst v))(hc:pH P n ops e=true){K:Fr->World->Prop}{listed:Array Bool}{a:Act}{w:World}:∀(m:Nat) (done pend:List Nat) (f:Fr),
  Inv R P n D ops e listed a done pend f w->uL P ops e m done pend f w K->
  ∃m' done' pend' f',Inv R P n D ops e listed a done' pend' f' w/\uL P ops e (m'+1) done' pend' f' w K/\rI ops done' e.fl=none
 |0,_,_,_,_,h=>by cases h
 |m+1,done,pend,f,I,h=>by
  cases hn:rI ops done e.fl with
  |none=>exact⟨m,done,pend,f,I,h,hn⟩
  |some io=>
   obtain⟨i,o⟩:=io
   simp only[uL,hn]at h
   obtain⟨h1,h2,h3,h4⟩:=wK hn
   obtain⟨o',d,ho',hdst,hkind,_⟩:=DW hc h1
   rw[h3]at ho'
   cases ho'
   obtain⟨v,hk,hv⟩:=OF hkind h
   exact Bh hR hc m _ _ _ (I.float hR hc h1 h2 h3 h4 hv) hk
theorem yZ{listed:Array Bool}(hsz:listed.size=ops.length):i∈Region.ready .any ops.toArray listed↔
  ∃o,ops[i]?=some o/\listed.getD i false=false/\∀x∈fZ o,listed.getD x false=true:=by
 unfold Region.ready;simp only[lA,mH,nJ,aJ,dO,List.getElem?_toArray];constructor
 ·rintro⟨h1,h2,h3⟩;have ho:ops[i]?=some ops[i]:=List.getElem?_eq_getElem h1;rw[ho]at h3;simp only[gZ,Az,yG,cM,dO]at h3;refine⟨_,ho,?_,λx hx=>?_⟩
  ·simp only[gO]at h2⊢;have:i<listed.size:=by rw[hsz];exact h1
   simpa[this]using h2
  ·simp only[fZ,kH,lA,Array.mem_toList_iff]at hx;obtain⟨ed,⟨hm,hb⟩,rfl⟩:=hx;rcases h3 ed hm with h3|h3
   ·rw[hb]at h3;cases h3
   ·exact h3
 ·rintro⟨o,ho,h2,h3⟩;have h1:=lt_of_some ho;refine⟨h1,?_,?_⟩
  ·simp only[gO]at h2⊢;have:i<listed.size:=by rw[hsz];exact h1
   simpa[this]using h2
  ·rw[ho];simp only[gZ,Az,yG,cM,dO];intro ed hm;cases hb:Region.binds .any ed with
   |false=>exact .inl rfl
   |true=>exact .inr (h3 _ (by simp only[fZ,kH,lA,Array.mem_toList_iff];exact⟨ed,⟨hm,hb⟩,rfl⟩))
theorem lZ(listed:Array Bool)(i k:Nat)(hi:i<listed.size):(listed.setIfInBounds i true).getD k false=(if k=i then true else listed.getD k false):=by
 simp only[gO,Array.getElem?_setIfInBounds];by_cases h:k=i
 ·subst h;simp[hi]
 ·rw[aD h,aD (tS h)]
theorem KD[HX](hR:∀f o v,o∈ops->R f->R (upd f o.dst v))(hc:pH P n ops e=true){Q:Exit->Act->World->Prop}{K:Fr->World->Prop}
  (hQ:∀f a w,Ag n D f a->R f->K f w->Q .normal a w)(hX:∀c f a w,a.defers=D->R f->(∀t,(∀o∈ops,o.dst≠some t)->a.tmps.getD t undef=f t)->HX.X c w->Q (.panic c) a w):∀(m:Nat) (listed:Array Bool) (a:Act) (done pend:List Nat) (f:Fr) (w:World) (k:Nat),
  Inv R P n D ops e listed a done pend f w->uL P ops e k done pend f w K->(∀l:List Nat,l.Nodup->(∀i∈l,i<ops.length/\listed.getD i false=false)->l.length<=m)->
  wpAny P .any ops.toArray Q m listed a w:=by
 have fin:∀(listed:Array Bool) (a:Act) (done pend:List Nat) (f:Fr) (w:World) (k:Nat),Inv R P n D ops e listed a done pend f w->uL P ops e k done pend f w K->
   (∀i,i<ops.length->listed.getD i false=true)->Q .normal a w:=by
  intro listed a done pend f w k I h hall;obtain⟨k',done',pend',f',I',h',hn⟩:=Bh hR hc k done pend f I h;simp only[uL,hn]at h';have hag:Ag n D f' a:=⟨I'.defers,I'.size,λt=>I'.l3 t λi hi hl=>by
   have:=hall i (I'.l2 i hi).1;rw[this]at hl;cases hl⟩
  cases he:Bg ops e.fl done' 0 ops with
  |nil=>rw[he]at h';exact hQ _ _ _ hag I'.fr h'
  |cons x r=>
   have hx:x∈Bg ops e.fl done' 0 ops:=by rw[he];exact bC
   obtain⟨_,h2,h3,_⟩:=IM ops 0 x hx;exact absurd (I'.l1 x.1 (hall x.1 (lt_of_some (by simpa using h2)))) h3
 have stop:∀(listed:Array Bool),listed.size=ops.length->Region.ready .any ops.toArray listed=[]->∀i,i<ops.length->listed.getD i false=true:=by
  intro listed hsz hr i;induction i using Nat.strongRecOn with
  |_ i ih=>
   intro hi;cases hl:listed.getD i false with
   |true=>rfl
   |false=>
    have ho:ops[i]?=some ops[i]:=List.getElem?_eq_getElem hi;have:i∈Region.ready .any ops.toArray listed:=(yZ hsz).2 ⟨_,ho,hl,λx hx=>by
     have:=(pW hc ho).2.2.1 x hx;exact ih x this (by omega)⟩
    rw[hr]at this;cases this
 intro m;induction m with
 |zero=>
  intro listed a done pend f w k I h hcount;have hall:∀i,i<ops.length->listed.getD i false=true:=λi hi=>by
   cases hl:listed.getD i false with
   |true=>rfl
   |false=>have:=hcount [i] (by simp) (by intro j hj;rw[bR.1 hj];exact⟨hi,hl⟩);simp at this
  refine⟨?_,fin _ _ _ _ _ _ _ I h hall⟩;cases hr:Region.ready .any ops.toArray listed with
  |nil=>rfl
  |cons i r=>
   have:i∈Region.ready .any ops.toArray listed:=by rw[hr];exact bC
   obtain⟨o,ho,hl,_⟩:=(yZ I.lsize).1 this;rw[hall i (lt_of_some ho)]at hl;cases hl
 |succ m ih=>
  intro listed a done pend f w k I h hcount;refine⟨λhr=>fin _ _ _ _ _ _ _ I h (stop listed I.lsize hr),λi hi=>?_⟩;obtain⟨o,ho,hl,hb⟩:=(yZ I.lsize).1 hi;have hilt:=lt_of_some ho;have hils:i<listed.size:=by rw[I.lsize];exact hilt
  obtain⟨k',done',pend',f',I',h',hn⟩:=Bh hR hc k done pend f I h;clear I h;have hagree:∀t∈mM ops o,a.tmps.getD t undef=f' t:=λt ht=>I'.l3 t λj hj hlj hdj=>by
   obtain⟨hjf,_⟩:=(I'.l2 j hj).2 hlj;obtain⟨oj,dj,hoj,hdst,_,hall⟩:=DW hc hjf;rw[vH hoj,hdst]at hdj;cases hdj;have hanc:=(hall i o ho).2.1 ht;have hlist:∀x∈e.anc.getD i [],listed.getD x false=true:=by
    have:=Ea hc (done:=(List.range ops.length).filter λx=>listed.getD x false) (λx hx ox hox y hy=>by
     simp only[lA,mH]at hx⊢;exact⟨by have:=(pW hc hox).2.2.1 y hy;omega,I'.l6 x hx.2 ox hox y hy⟩) i o ho (λx hx=>by
     simp only[lA,mH];exact⟨by have:=(pW hc ho).2.2.1 x hx;omega,hb x hx⟩)
    intro x hx;have:=this x hx;simp only[lA]at this;exact this.2
   rw[hlist j hanc]at hlj;cases hlj
  have hsel:=(pW hc ho).2.1;have hwant:Region.wanted o (yielded ops.toArray a.tmps)=jW ops f' o:=Eu λg want d hg hd=>hagree d (BF hg hd);have hexec:execOp a.eval o=execOp (ev f') o:=Bc hsel λx hx=>WT λt ht=>hagree t (Di (ht▸hx));have hcount':∀l:List Nat,l.Nodup->(∀j∈l,j<ops.length/\(listed.setIfInBounds i true).getD j false=false)->l.length<=m:=by
   intro l hnd hl';have hil:i∉l:=λhm=>by
    have:=(hl' i hm).2;rw[lZ _ _ _ hils,aH rfl]at this;cases this
   have:=hcount (i::l) (iS.2 ⟨hil,hnd⟩) (λj hj=>by
    rcases bW.1 hj with rfl|hj
    ·exact⟨hilt,hl⟩
    ·have hne:j≠i:=λh=>hil (h▸hj);have:=hl' j hj;rw[lZ _ _ _ hils,aD hne]at this;exact this)
   simpa using this
  have hl6:∀j:Nat,(listed.setIfInBounds i true).getD j false=true->∀oj,ops[j]?=some oj->∀x∈fZ oj,(listed.setIfInBounds i true).getD x false=true:=by
   intro j hj oj hoj x hx;rw[lZ _ _ _ hils];by_cases hxi:x=i
   ·rw[aH hxi]
   ·rw[aD hxi];rw[lZ _ _ _ hils]at hj;by_cases hji:j=i
    ·subst hji;rw[ho]at hoj;cases hoj;exact hb x hx
    ·rw[aD hji]at hj;exact I'.l6 j hj oj hoj x hx
  by_cases hdone:i∈done'
  ·
   obtain⟨hif,_⟩:=(I'.l2 i hdone).2 hl;obtain⟨o',d,ho',hdst,_,hall⟩:=DW hc hif;rw[ho]at ho';cases ho';have hdn:=(pW hc ho).1 d hdst;have hI:Inv R P n D ops e (listed.setIfInBounds i true) (a.put o.dst (f' d)) done' pend' f' w:=by
    refine⟨I'.fr,by rw[put_defers];exact I'.defers,by rw[CV];exact I'.size,by simp[I'.lsize],?_,?_,?_,?_,I'.l5,hl6⟩
    ·intro j hj;rw[lZ _ _ _ hils]at hj;by_cases hji:j=i
     ·subst hji;exact hdone
     ·rw[aD hji]at hj;exact I'.l1 j hj
    ·intro j hj;refine⟨(I'.l2 j hj).1,λhlj=>?_⟩;rw[lZ _ _ _ hils]at hlj;by_cases hji:j=i
     ·rw[aH hji]at hlj;cases hlj
     ·rw[aD hji]at hlj;exact(I'.l2 j hj).2 hlj
    ·intro t ht;rw[hdst,Gy _ _ _ _ (by rw[I'.size];exact hdn)];by_cases htd:t=d
     ·rw[aH htd,htd]
     ·rw[aD htd];refine I'.l3 t λj hj hlj hdj=>?_;by_cases hji:j=i
      ·subst hji;rw[vH ho,hdst]at hdj;cases hdj;exact htd rfl
      ·exact ht j hj (by rw[lZ _ _ _ hils,aD hji];exact hlj) hdj
    ·intro j hj hlj;rw[lZ _ _ _ hils]at hlj;by_cases hji:j=i
     ·rw[aH hji]at hlj;cases hlj
     ·rw[aD hji]at hlj;exact I'.l4 j hj hlj
   have hnext:=ih _ _ done' pend' f' w (k'+1) hI h' hcount';have hy:=(I'.l4 i hdone hl o d ho hdst).1;unfold wpOp;simp only[List.getElem?_toArray,ho];rw[hwant];rcases hy with⟨h1,h2⟩|⟨h1,h2⟩
   ·rw[aH h1];refine .inl ?_;unfold Oper.wp;rw[hexec,h2];exact hnext
   ·rw[aD (by rw[h1];simp),<-h2];exact hnext
  ·
   have hbd:∀x∈fZ o,x∈done':=λx hx=>I'.l1 x (hb x hx);have hnf:i∉e.fl:=λhf=>sY hn i hf hdone o ho hbd;have hmem:(i,o)∈Bg ops e.fl done' 0 ops:=by
    have:=Ih (ops:=ops) (fl:=e.fl) (done:=done') ops 0 i o ho (by simpa using hdone) (by simpa using hnf) hbd;simpa using this
   simp only[uL,hn]at h';have hge:geW P ops f' o w λv w'=>vO P ops (upd f' o.dst v) w' (uL P ops e k' (i::done') (wJ (e.anc.getD i []) pend') (upd f' o.dst v) w' K) (wJ (e.anc.getD i []) pend'):=by
    cases he:Bg ops e.fl done' 0 ops with
    |nil=>rw[he]at hmem;cases hmem
    |cons x r=>
     rw[he]at h' hmem;exact FL h' hmem
   have hdn:=(pW hc ho).1;have hlanc:∀x∈e.anc.getD i [],listed.getD x false=true:=by
    have:=Ea hc (done:=(List.range ops.length).filter λx=>listed.getD x false) (λx hx ox hox y hy=>by
     simp only[lA,mH]at hx⊢;exact⟨by have:=(pW hc hox).2.2.1 y hy;omega,I'.l6 x hx.2 ox hox y hy⟩) i o ho (λx hx=>by
     simp only[lA,mH];exact⟨by have:=(pW hc ho).2.2.1 x hx;omega,hb x hx⟩)
    intro x hx;have:=this x hx;simp only[lA]at this;exact this.2
   have cont:∀v w',vO P ops (upd f' o.dst v) w' (uL P ops e k' (i::done') (wJ (e.anc.getD i []) pend') (upd f' o.dst v) w' K) (wJ (e.anc.getD i []) pend')->
     wpAny P .any ops.toArray Q m (listed.setIfInBounds i true) (a.put o.dst v) w':=by
    intro v w' hst;refine ih _ _ (i::done') (wJ (e.anc.getD i []) pend') (upd f' o.dst v) w' k' ?_ (tX hst) hcount';have hunl:∀j∈i::done',(listed.setIfInBounds i true).getD j false=false->j≠i/\j∈done'/\listed.getD j false=false:=by
     intro j hj hlj;rw[lZ _ _ _ hils]at hlj;by_cases hji:j=i
     ·rw[aH hji]at hlj;cases hlj
     ·rw[aD hji]at hlj;exact⟨hji,(bW.1 hj).resolve_left hji,hlj⟩
    refine⟨hR _ _ _ (bK ho) I'.fr,by rw[put_defers];exact I'.defers,by rw[CV];exact I'.size,by simp[I'.lsize],?_,?_,?_,?_,?_,hl6⟩
    ·intro j hj;rw[lZ _ _ _ hils]at hj;by_cases hji:j=i
     ·subst hji;exact bC
     ·rw[aD hji]at hj;exact aS _ (I'.l1 j hj)
    ·intro j hj;refine⟨?_,λhlj=>?_⟩
     ·rcases bW.1 hj with rfl|hj
      ·exact hilt
      ·exact(I'.l2 j hj).1
     ·obtain⟨hji,hjd,hlj'⟩:=hunl j hj hlj;obtain⟨h1,h2⟩:=(I'.l2 j hjd).2 hlj';exact⟨h1,Fo h2 λhm=>by rw[hlanc j hm]at hlj';cases hlj'⟩
    ·intro t ht;have h3:∀(h:∀d,o.dst=some d->t≠d),a.tmps.getD t undef=f' t:=λh=>I'.l3 t λj hj hlj hdj=>by
      have hji:j≠i:=λh'=>hdone (h'▸hj);exact ht j (aS _ hj) (by rw[lZ _ _ _ hils,aD hji];exact hlj) hdj
     cases hdst:o.dst with
     |none=>rw[hdst]at h3;exact h3 (λd hd=>by cases hd)
     |some d=>
      rw[Gy _ _ _ _ (by rw[I'.size];exact hdn d hdst),mQ];by_cases htd:t=d
      ·rw[aH htd,aH htd]
      ·rw[aD htd,aD htd];exact h3 (λd' hd'=>by rw[hdst]at hd';cases hd';exact htd)
    ·intro j hj hlj oj dj hoj hdj;obtain⟨hji,hjd,hlj'⟩:=hunl j hj hlj;obtain⟨hjf,hjp⟩:=(I'.l2 j hjd).2 hlj';obtain⟨oj',dj',hoj',hdj',hkind,hall⟩:=DW hc hjf;rw[hoj]at hoj';cases hoj';rw[hdj]at hdj';cases hdj';have hselj:=(pW hc hoj).2.1;have hanc:j∉e.anc.getD i []:=λhm=>by rw[hlanc j hm]at hlj';cases hlj'
     have hfree:∀t,(t∈mM ops oj\/t=dj)->f' t=upd f' o.dst v t:=by
      intro t ht;cases hdst:o.dst with
      |none=>rfl
      |some d=>
       rw[mQ];by_cases htd:t=d
       ·exfalso;subst htd;rcases ht with ht|ht
        ·rcases(hall i o ho).2.2 t hdst ht with h1|⟨_,h1⟩
         ·exact hdone (Ea hc I'.l5 j oj hoj (I'.l5 j hjd oj hoj) i h1)
         ·exact hanc h1
        ·exact(hall i o ho).1 (tS hji) (by rw[hdst,ht])
       ·rw[aD htd]
     obtain⟨hy1,hy2⟩:=I'.l4 j hjd hlj' oj dj hoj hdj;have hpure:lW P oj.op=true->∀w',YY P ops (upd f' o.dst v) oj dj w':=λhp w'=>(hy2 hp w').same hselj (λt ht=>hfree t (.inl ht)) (hfree dj (.inr rfl));refine⟨?_,hpure⟩;cases hp:lW P oj.op with
     |true=>exact hpure hp w'
     |false=>
      cases hwj:jW ops (upd f' o.dst v) oj with
      |true=>
       have:=wD hst j (Fo hjp hanc) oj dj hoj hdj hp hwj;obtain⟨x,rfl,hr⟩:=yV this;exact .inl ⟨hwj,hr⟩
      |false=>
       refine .inr ⟨hwj,?_⟩;have hw0:jW ops f' oj=false:=by rw[uO (λt ht=>hfree t (.inl ht))];exact hwj
       rcases hy1 with⟨h1,_⟩|⟨_,h1⟩
       ·rw[hw0]at h1;cases h1
       ·rw[<-hfree dj (.inr rfl)];exact h1
    ·intro j hj oj hoj x hx;rcases bW.1 hj with rfl|hj
     ·rw[ho]at hoj;cases hoj;exact aS _ (hbd x hx)
     ·exact aS _ (I'.l5 j hj oj hoj x hx)
   unfold wpOp;simp only[List.getElem?_toArray,ho];rw[hwant];unfold geW at hge;unfold jW;have hxa:∀c w,HX.X c w->Q (.panic c) a w:=λc w hx=>hX c f' a w I'.defers I'.fr (λt ht=>I'.l3 t λj hj _ hdj=>by
    obtain⟨oj,hoj⟩:∃oj,ops[j]?=some oj:=⟨_,List.getElem?_eq_getElem (I'.l2 j hj).1⟩;rw[vH hoj]at hdj;exact ht oj (bK hoj) hdj) hx
   have act:∀{K':Value->World->Prop},(∀v w',K' v w'->wpAny P .any ops.toArray Q m (listed.setIfInBounds i true) (a.put o.dst v) w')->Hc P f' o w K'->
     o.wp P a w (wpAny P .any ops.toArray Q m (listed.setIfInBounds i true)) Q:=by
    intro K' hk ha;unfold Oper.wp;rw[hexec];exact(Ga ha).upon hk hxa
   cases hg:o.guard with
   |none=>
    simp only[hg]at hge;exact .inl (act cont hge)
   |some gw=>
    obtain⟨g,want⟩:=gw;simp only[hg]at hge;obtain⟨h1,h2⟩:=hge;cases hcv:yv ops f' g want with
    |true=>simp only[hcv,gU];exact .inl (act cont (h1 hcv))
    |false=>simp only[hcv,iX,nG];exact cont _ _ (h2 hcv)
theorem HG[HX]{id:Nat}(hR:∀f o v,o∈ops->R f->R (upd f o.dst v))(hm:P.follows .mixedOrders=true)(hc:pH P n ops e=true){Q:Exit->Act->World->Prop}{K:Fr->World->Prop}{f:Fr}{a:Act}{k:Nat}
  (hQ:∀f a w,Ag n D f a->R f->K f w->Q .normal a w)(hX:∀c f a w,a.defers=D->R f->(∀t,(∀o∈ops,o.dst≠some t)->a.tmps.getD t undef=f t)->HX.X c w->Q (.panic c) a w)(ha:Ag n D f a)(hf:R f)(h:uL P ops e k [] [] f w.drew K):(Code.region id ops.toArray true).wp P Q a w:=by
 refine wp_region_any hm ?_;have hfalse:∀i:Nat,(Array.replicate ops.length false).getD i false=false:=λi=>by
  simp only[gO,Array.getElem?_replicate];split<;>rfl
 refine KD hR hc hQ hX _ _ a [] [] f _ k ⟨hf,ha.1,ha.2.1,by simp,?_,?_,?_,?_,?_,?_⟩ h ?_
 ·intro i hi;rw[show ops.toArray.size=ops.length from by simp,hfalse]at hi;cases hi
 ·intro i hi;cases hi
 ·intro t _;exact ha.2.2 t
 ·intro i hi;cases hi
 ·intro i hi;cases hi
 ·intro i hi;rw[show ops.toArray.size=ops.length from by simp,hfalse]at hi;cases hi
 ·intro l hnd hl;have:l.length<=ops.length:=by
   exact HZ _ l hnd λi hi=>(hl i hi).1
  simpa using this
end
structure PE where
 C:List Nat
 V:List Nat
 lo:Nat
structure cJ where
 js:List (Nat×PE)
 ds:List (Nat×DE)
def lk{α:Type}:List (Nat×α)->Nat->Option α
 |[],_=>none
 |(k,e)::r,i=>bif Nat.beq k i then some e else lk r i
def inS(V:List Nat)(lo t:Nat):Bool:=bif Nat.ble lo t then true else nD V t
def ovl:List Nat->Nat->List Value->Fr->Fr
 |[],_,_,f=>f
 |c::C,k,s,f=>λj=>bif Nat.beq j c then s.getD k undef else ovl C (k+1) s f j
def ovf(e:PE)(f:Fr)(s:List Value)(g:Fr):Fr:=ovl e.C 0 s (λj=>bif inS e.V e.lo j then g j else f j)
def bU(A:(List Value->World->Prop)->Prop)(B:List Value->Fr->World->Prop):Prop:=
 ∃J:List Value->World->Prop,A J/\∀s g w,J s w->B s g w
def GdW(c:Bool)(u:List Value)(w:World)(A:(List Value->World->Prop)->Prop)(B:List Value->Fr->World->Prop):Prop:=
 ∃J:List Value->World->Prop,(c=true->A J)/\(c=false->J u w)/\∀s g w',J s w'->B s g w'
def cZ(s0:List Value)(w0:World)(B:List Value->Fr->World->(List Value->World->Prop)->Prop):Prop:=
 ∃(I:List Value->World->Prop) (μ:List Value->World->Nat),I s0 w0/\∀s g w,I s w->B s g w (λs' w'=>I s' w'/\μ s' w'<μ s w)
def aR(v:Value)(A B:Prop):Prop:=match v with|.bool t=>(t=true->A)/\(t=false->B)|_=>False
def gEq:Option (Nat×Bool)->Nat->Bool->Bool
 |some (g',w'),g,w=>bif Nat.beq g g' then w==w' else false
 |none,_,_=>false
def yM(g:Nat)(want:Bool):List Oper->List Oper
 |[]=>[]
 |o::r=>bif gEq o.guard g want then o::yM g want r else []
def AJ(g:Nat)(want:Bool):List Oper->List Oper
 |[]=>[]
 |o::r=>bif gEq o.guard g want then AJ g want r else o::r
def YJ[HX](P:Program):List Oper->Fr->World->(Fr->World->Prop)->Prop
 |[],f,w,K=>K f w
 |o::r,f,w,K=>Hc P f o w λv w'=>YJ P r (upd f o.dst v) w' K
def CE:List Oper->Fr->Fr
 |[],f=>f
 |o::r,f=>CE r (upd f o.dst undef)
def PF(i k:Nat):Nat:=i*1000+k
def OR[HX](P:Program)(pl:cJ)(i:Nat)(ops:List Oper):Nat->List Oper->Fr->World->(Fr->World->Prop)->Prop
 |0,_,_,_,_=>False
 |_+1,[],f,w,K=>K f w
 |n+1,o::r,f,w,K=>
  match o.guard with
  |none=>Hc P f o w λv w'=>OR P pl i ops n r (upd f o.dst v) w' K
  |some (g,want)=>
   match lk pl.js (PF i (o::r).length)with
   |some e=>GdW (yv ops f g want) (e.C.map (CE (yM g want (o::r)) f)) w (λJ=>YJ P (yM g want (o::r)) f w λf' w'=>J (e.C.map f') w')
     λs h w'=>OR P pl i ops n (AJ g want (o::r)) (ovf e f s h) w' K
   |none=>False
def sX:Code->Nat
 |.seq a b=>sX a+sX b+1
 |.cond _ a b=>sX a+sX b+1
 |.block _ b=>sX b+1
 |.loop b=>sX b+1
 |.scope b=>sX b+1
 |_=>1
def nT[HX](P:Program)(pl:cJ):Code->Nat->Fr->World->(Fr->World->Prop)->(Nat->Fr->World->Prop)->(Fr->World->Prop)->Prop
 |.skip,_,f,w,kn,_,_=>kn f w
 |.label _,_,f,w,kn,_,_=>kn f w
 |.region _ ops draw,i,f,w,kn,_,_=>
  bif draw then(match lk pl.ds i with|some e=>uL P ops.toList e (ops.toList.length+1) [] [] f w.drew kn|none=>False)
  else OR P pl i ops.toList (ops.toList.length+1) ops.toList f w kn
 |.seq a b,i,f,w,kn,kx,kr=>
  match lk pl.js i with
  |none=>nT P pl a (i+1) f w (λf' w'=>nT P pl b (i+1+sX a) f' w' kn kx kr) kx kr
  |some e=>bU (λJ=>nT P pl a (i+1) f w (λf' w'=>J (e.C.map f') w') kx kr) λs g w'=>nT P pl b (i+1+sX a) (ovf e f s g) w' kn kx kr
 |.cond c a b,i,f,w,kn,kx,kr=>aR (ev f c) (nT P pl a (i+1) f w kn kx kr) (nT P pl b (i+1+sX a) f w kn kx kr)
 |.block id b,i,f,w,kn,kx,kr=>nT P pl b (i+1) f w kn (λj f' w'=>bif Nat.beq j id then kn f' w' else kx j f' w') kr
 |.loop b,i,f,w,_,kx,kr=>
  match lk pl.js i with
  |none=>False
  |some e=>cZ (e.C.map f) w λs g w' again=>nT P pl b (i+1) (ovf e f s g) w' (λf' w''=>again (e.C.map f') w'') kx kr
 |.scope b,i,f,w,kn,kx,kr=>nT P pl b (i+1) f w kn kx kr
 |.exit id,_,f,w,_,kx,_=>kx id f w
 |.ret,_,f,w,_,_,kr=>kr f w
 |_,_,_,_,_,_,_=>False
def IZ(V:List Nat)(lo:Nat)(e:PE):Bool:=Nat.ble lo e.lo&&e.V.all (inS V lo)&&e.C.all (inS e.V e.lo)
def yN(V:List Nat)(lo:Nat)(o:Oper):Bool:=match o.dst with|some d=>inS V lo d|none=>true
def IN(n:Nat)(o:Oper):Bool:=match o.dst with|some d=>Nat.blt d n|none=>true
def mF(pl:cJ)(V:List Nat)(lo:Nat)(i:Nat)(ops:List Oper):List Oper->Bool
 |[]=>true
 |o::r=>(match o.guard with
  |none=>true
  |some (g,want)=>(match lk pl.js (PF i (o::r).length)with
   |some e=>IZ V lo e&&(yM g want (o::r)).all λx=>yN e.V e.lo x&&(match x.dst,pL ops g with|some d,some dg=> !(Nat.beq d dg)|_,_=>true)
   |none=>true))&&mF pl V lo i ops r
def chk(P:Program)(n:Nat)(pl:cJ)(V:List Nat)(lo:Nat):Code->Nat->Bool
 |.region _ ops draw,i=>ops.toList.all (λo=>yN V lo o&&IN n o)&&
  (bif draw then(match lk pl.ds i with|some e=>pH P n ops.toList e|none=>true)else mF pl V lo i ops.toList ops.toList)
 |.seq a b,i=>(match lk pl.js i with|none=>chk P n pl V lo a (i+1)|some e=>IZ V lo e&&chk P n pl e.V e.lo a (i+1))&&chk P n pl V lo b (i+1+sX a)
 |.cond _ a b,i=>chk P n pl V lo a (i+1)&&chk P n pl V lo b (i+1+sX a)
 |.block _ b,i=>chk P n pl V lo b (i+1)
 |.scope b,i=>chk P n pl V lo b (i+1)
 |.loop b,i=>(match lk pl.js i with|none=>true|some e=>IZ V lo e&&chk P n pl e.V e.lo b (i+1))
 |_,_=>true
def Same(V:List Nat)(lo:Nat)(f f':Fr):Prop:=∀t,inS V lo t=false->f' t=f t
theorem Same.refl(V:List Nat)(lo:Nat)(f:Fr):Same V lo f f:=λ_ _=>rfl
theorem Same.trans{V:List Nat}{lo:Nat}{f g h:Fr}(h1:Same V lo f g)(h2:Same V lo g h):Same V lo f h:=λt ht=>(h2 t ht).trans (h1 t ht)
theorem Lz{V:List Nat}{lo t:Nat}:inS V lo t=true↔lo<=t\/t∈V:=by
 unfold inS;cases h:Nat.ble lo t with
 |true=>simp[iK h]
 |false=>
  have:¬lo<=t:=λhle=>by rw[Nat.ble_eq_true_of_le hle]at h;cases h
  simp[this,iI]
theorem Bn{V:List Nat}{lo:Nat}{e:PE}(h:IZ V lo e=true):(∀t,inS e.V e.lo t=true->inS V lo t=true)/\∀c∈e.C,inS e.V e.lo c=true:=by
 simp only[IZ,aJ,bN]at h;refine⟨λt ht=>?_,h.2⟩;rcases Lz.1 ht with h1|h1
 ·exact Lz.2 (.inl (cH (iK h.1.1) h1))
 ·exact h.1.2 t h1
theorem Same.wider{V V':List Nat}{lo lo':Nat}{f f':Fr}(hs:∀t,inS V lo t=true->inS V' lo' t=true)(h:Same V lo f f'):Same V' lo' f f':=λt ht=>h t (by
 cases hi:inS V lo t with
 |false=>rfl
 |true=>rw[hs t hi]at ht;cases ht)
theorem Ll(f':Fr):∀(C:List Nat) (k:Nat) (s:List Value) (f:Fr) (t:Nat),(∀j,j<C.length->s.getD (k+j) undef=f' (C.getD j 0))->(t∉C->f t=f' t)->ovl C k s f t=f' t
 |[],_,_,_,_,_,h=>h (by simp)
 |c::C,k,s,f,t,hs,h=>by
  simp only[ovl]
  cases hb:Nat.beq t c with
  |true=>
   have:=hs 0 (by simp)
   simp only[aO]
   rw[gL hb]
   simpa using this
  |false=>
   simp only[aN]
   have hne:t≠c:=λe=>by subst e;simp at hb
   refine Ll f' C (k+1) s f t (λj hj=>?_) λhn=>h (by simp[hne,hn])
   have:=hs (j+1) (by simp;omega)
   rw[show k+1+j=k+(j+1)by omega,this]
   rfl
theorem Ab{e:PE}{f f':Fr}(h:Same e.V e.lo f f'):ovf e f (e.C.map f') f'=f':=by
 funext t;refine Ll f' e.C 0 _ _ t (λj hj=>?_) λ_=>?_
 ·simp[hj]
 ·cases hi:inS e.V e.lo t with
  |true=>simp[hi]
  |false=>simp[hi,h t hi]
theorem Same.upd{V:List Nat}{lo:Nat}{f:Fr}{o:Oper}(h:yN V lo o=true)(v:Value):Same V lo f (upd f o.dst v):=by
 intro t ht;unfold yN at h;cases hd:o.dst with
 |none=>rfl
 |some d=>
  rw[hd]at h;rw[mQ,aD];intro e;subst e;have h:inS V lo t=true:=h;rw[h]at ht;cases ht
theorem DN{o:Oper}(h:IN n o=true):∀t,o.dst=some t->t<n:=by
 intro t ht;rw[IN,ht]at h;exact iK h
theorem PL{x:Option (Nat×Bool)}{g:Nat}{w:Bool}(h:gEq x g w=true):x=some (g,w):=by
 cases x with
 |none=>cases h
 |some p=>
  obtain⟨g',w'⟩:=p;simp only[gEq]at h;cases hb:Nat.beq g g' with
  |false=>rw[hb]at h;cases h
  |true=>
   rw[hb]at h;simp only[aO,fI]at h;rw[gL hb,h]
theorem Fx(g:Nat)(want:Bool):∀l:List Oper,l=yM g want l++AJ g want l/\∀o∈yM g want l,o.guard=some (g,want)
 |[]=>⟨rfl,by simp[yM]⟩
 |o::r=>by
  simp only[yM,AJ]
  cases h:gEq o.guard g want with
  |false=>simp
  |true=>
   obtain⟨h1,h2⟩:=Fx g want r
   refine⟨by simp only[aO,dG];rw[<-h1],λx hx=>?_⟩
   simp only[aO,bW]at hx
   rcases hx with rfl|hx
   ·exact PL h
   ·exact h2 x hx
section
variable [HX]{P:Program}{n:Nat}{D:List Deferred}{ops:List Oper}{Q:Exit->Act->World->Prop}{V:List Nat}{lo:Nat}
def PX[HX](V:List Nat)(lo:Nat)(D:List Deferred)(Q:Exit->Act->World->Prop)(f:Fr):Prop:=
 ∀c a w,a.defers=D->(∀t,inS V lo t=false->a.tmps.getD t undef=f t)->HX.X c w->Q (.panic c) a w
theorem PX.same{f f':Fr}(h:PX V lo D Q f)(hs:Same V lo f f'):PX V lo D Q f':=λc a w hd ht hx=>h c a w hd (λt hn=>(ht t hn).trans (hs t hn)) hx
theorem PX.sub{V':List Nat}{lo':Nat}{f:Fr}(h:PX V lo D Q f)(hs:∀t,inS V' lo' t=true->inS V lo t=true):PX V' lo' D Q f:=λc a w hd ht hx=>h c a w hd (λt hn=>ht t (by
 cases hh:inS V' lo' t with
 |false=>rfl
 |true=>rw[hs t hh]at hn;cases hn)) hx
theorem PX.ag{f:Fr}{a:Act}(h:PX V lo D Q f)(hag:Ag n D f a):∀c w,HX.X c w->Q (.panic c) a w:=λc w hx=>h c a w hag.1 (λt _=>hag.2.2 t) hx
theorem zL{f:Fr}{a:Act}{o:Oper}(h:Ag n D f a):Region.wanted o (yielded ops.toArray a.tmps)=jW ops f o:=Eu λ_ _ d _ _=>h.2.2 d
theorem GB{f:Fr}{a:Act}{o:Oper}{rest:List Oper}(hag:Ag n D f a)(hw:jW ops f o=true)(h:Hc P f o w K)
  (hk:∀v w',K v w'->wpList P ops.toArray Q rest (a.put o.dst v) w')(hx:∀c w,HX.X c w->Q (.panic c) a w):wpList P ops.toArray Q (o::rest) a w:=by
 unfold wpList;rw[aH (by rw[zL hag];exact hw)];refine .inl ?_;unfold Oper.wp;rw[wR hag];exact(Ga h).upon hk hx
theorem Tt{f:Fr}{a:Act}{o:Oper}{rest:List Oper}(hag:Ag n D f a)(hw:jW ops f o=false)
  (hk:wpList P ops.toArray Q rest (a.put o.dst undef) w):wpList P ops.toArray Q (o::rest) a w:=by
 unfold wpList;rw[aD (by rw[zL hag,hw];simp)];exact hk
theorem NI{f:Fr}{g:Nat}{want:Bool}{o:Oper}(h:∀d dg,o.dst=some d->pL ops g=some dg->d≠dg):yv ops (upd f o.dst v) g want=yv ops f g want:=by
 unfold yv;cases hg:pL ops g with
 |none=>rfl
 |some dg=>
  cases hd:o.dst with
  |none=>rfl
  |some d=>simp only;rw[mQ,aD (tS (h d dg hd hg))]
theorem Da{g:Nat}{want:Bool}:∀(grp rest:List Oper) (f:Fr) (a:Act) (w:World) (K:Fr->World->Prop),(∀o∈grp,o.guard=some (g,want))->
  (∀o∈grp,yN V lo o=true/\(∀t,o.dst=some t->t<n)/\∀d dg,o.dst=some d->pL ops g=some dg->d≠dg)->Ag n D f a->yv ops f g want=true->YJ P grp f w K->
  (∀f' a' w',Ag n D f' a'->Same V lo f f'->K f' w'->wpList P ops.toArray Q rest a' w')->PX V lo D Q f->wpList P ops.toArray Q (grp++rest) a w
 |[],rest,f,a,w,K,_,_,hag,_,h,hk,_=>hk f a w hag (Same.refl _ _ _) h
 |o::grp,rest,f,a,w,K,hg,hd,hag,hy,h,hk,hX=>by
  obtain⟨h1,h2,h3⟩:=hd o bC
  refine GB hag (by simp only[jW,hg o bC];exact hy) h (λv w' h'=>?_) (hX.ag hag)
  refine Da grp rest (upd f o.dst v) (a.put o.dst v) w' K (λx hx=>hg x (aS _ hx)) (λx hx=>hd x (aS _ hx)) (hag.put h2 v) (by rw[NI h3];exact hy) h' ?_ (hX.same (Same.upd h1 v))
  exactλf' a' w'' hag' hs hK=>hk f' a' w'' hag' (Same.trans (Same.upd h1 v) hs) hK
theorem zO{g:Nat}{want:Bool}:∀(grp rest:List Oper) (f:Fr) (a:Act) (w:World),(∀o∈grp,o.guard=some (g,want))->
  (∀o∈grp,yN V lo o=true/\(∀t,o.dst=some t->t<n)/\∀d dg,o.dst=some d->pL ops g=some dg->d≠dg)->Ag n D f a->yv ops f g want=false->
  (∀a',Ag n D (CE grp f) a'->Same V lo f (CE grp f)->wpList P ops.toArray Q rest a' w)->wpList P ops.toArray Q (grp++rest) a w
 |[],rest,f,a,w,_,_,hag,_,hk=>hk a hag (Same.refl _ _ _)
 |o::grp,rest,f,a,w,hg,hd,hag,hy,hk=>by
  obtain⟨h1,h2,h3⟩:=hd o bC
  refine Tt hag (by simp only[jW,hg o bC];exact hy) ?_
  refine zO grp rest (upd f o.dst undef) (a.put o.dst undef) w (λx hx=>hg x (aS _ hx)) (λx hx=>hd x (aS _ hx)) (hag.put h2 undef) (by rw[NI h3];exact hy) ?_
  exactλa' hag' hs=>hk a' hag' (Same.trans (Same.upd h1 undef) hs)
theorem wW{pl:cJ}{i:Nat}:∀(x y:List Oper),mF pl V lo i ops (x++y)=true->mF pl V lo i ops y=true
 |[],_,h=>h
 |o::x,y,h=>by
  simp only[dG,mF,aJ]at h
  exact wW x y h.2
theorem uX{pl:cJ}{i:Nat}{K:Fr->World->Prop}:∀(m:Nat) (l:List Oper) (f:Fr) (a:Act) (w:World),(∀o∈l,yN V lo o=true/\IN n o=true)->mF pl V lo i ops l=true->
  Ag n D f a->OR P pl i ops m l f w K->(∀f' a' w',Ag n D f' a'->Same V lo f f'->K f' w'->Q .normal a' w')->PX V lo D Q f->wpList P ops.toArray Q l a w
 |0,_,_,_,_,_,_,_,h,_,_=>by cases h
 |m+1,[],f,a,w,_,_,hag,h,hQ,_=>hQ f a w hag (Same.refl _ _ _) h
 |m+1,o::r,f,a,w,hd,hc,hag,h,hQ,hX=>by
  unfold OR at h
  cases hg:o.guard with
  |none=>
   simp only[hg]at h
   have hd0:=hd o bC
   refine GB hag (by simp[jW,hg]) h (λv w' h'=>?_) (hX.ag hag)
   simp only[mF,aJ]at hc
   refine uX m r _ _ w' (λx hx=>hd x (aS _ hx)) hc.2 (hag.put (DN hd0.2) v) h' ?_ (hX.same (Same.upd hd0.1 v))
   exactλf' a' w'' hag' hs hK=>hQ f' a' w'' hag' (Same.trans (Same.upd hd0.1 v) hs) hK
  |some gw=>
   obtain⟨g,want⟩:=gw
   simp only[hg]at h
   cases he:lk pl.js (PF i (o::r).length)with
   |none=>simp only[he]at h
   |some e=>
    simp only[he]at h
    obtain⟨J,hT,hF,hB⟩:=h
    obtain⟨hsplit,hgs⟩:=Fx g want (o::r)
    have hc0:=hc
    simp only[mF,hg,he,aJ,bN]at hc
    obtain⟨⟨hpe,hgrp⟩,hc2⟩:=hc
    obtain⟨hsub,hC⟩:=Bn hpe
    have hgd:∀x∈yM g want (o::r),yN e.V e.lo x=true/\(∀t,x.dst=some t->t<n)/\∀d dg,x.dst=some d->pL ops g=some dg->d≠dg:=by
     intro x hx;have h1:=hgrp x hx;refine⟨h1.1,DN (hd x (by rw[hsplit];exact eF _ hx)).2,λd dg hxd hdg hne=>?_⟩;have h2:=h1.2;simp only[hxd,hdg,hne]at h2;simp at h2
    have hcr:mF pl V lo i ops (AJ g want (o::r))=true:=by
     rw[hsplit]at hc0;exact wW _ _ hc0
    have hdr:∀x∈AJ g want (o::r),yN V lo x=true/\IN n x=true:=λx hx=>hd x (by rw[hsplit];exact cR _ hx);rw[hsplit];cases hy:yv ops f g want with
    |true=>
     refine Da (V:=e.V) (lo:=e.lo) _ _ f a w _ hgs hgd hag hy (hT hy) (λf' a' w' hag' hs hJ=>?_) (hX.sub hsub);have h':=hB _ f' _ hJ;simp only[Ab hs]at h';refine uX m _ f' a' w' hdr hcr hag' h' ?_ (hX.same (Same.wider hsub hs));exactλf'' a'' w'' hag'' hs' hK=>hQ f'' a'' w'' hag'' (Same.trans (Same.wider hsub hs) hs') hK
    |false=>
     refine zO (V:=e.V) (lo:=e.lo) _ _ f a w hgs hgd hag hy λa' hag' hs=>?_;have h':=hB _ (CE (yM g want (o::r)) f) _ (hF hy);simp only[Ab hs]at h';refine uX m _ _ a' w hdr hcr hag' h' ?_ (hX.same (Same.wider hsub hs));exactλf'' a'' w'' hag'' hs' hK=>hQ f'' a'' w'' hag'' (Same.trans (Same.wider hsub hs) hs') hK
end
section
variable [HX]{P:Program}{n:Nat}{D:List Deferred}{pl:cJ}
theorem tG(hm:P.follows .mixedOrders=true):∀(c:Code) (V:List Nat) (lo i:Nat) (f:Fr) (a:Act) (w:World) (kn:Fr->World->Prop) (kx:Nat->Fr->World->Prop) (kr:Fr->World->Prop) (Q:Exit->Act->World->Prop),
  chk P n pl V lo c i=true->Ag n D f a->nT P pl c i f w kn kx kr->
  (∀f' a' w',Ag n D f' a'->Same V lo f f'->kn f' w'->Q .normal a' w')->(∀j f' a' w',Ag n D f' a'->Same V lo f f'->kx j f' w'->Q (.exit j) a' w')->
  (∀f' a' w',Ag n D f' a'->Same V lo f f'->kr f' w'->Q .ret a' w')->PX V lo D Q f->c.wp P Q a w:=by
 intro c;induction c with
 |skip=>intro V lo i f a w kn kx kr Q _ hag h hn _ _ _;exact wp_skip (hn f a w hag (Same.refl _ _ _) h)
 |label l=>intro V lo i f a w kn kx kr Q _ hag h hn _ _ _;exact wp_label (hn f a w hag (Same.refl _ _ _) h)
 |exit id=>intro V lo i f a w kn kx kr Q _ hag h _ hx _ _;exact wp_exit (hx id f a w hag (Same.refl _ _ _) h)
 |ret=>intro V lo i f a w kn kx kr Q _ hag h _ _ hr _;exact wp_ret (hr f a w hag (Same.refl _ _ _) h)
 |goto l=>intro V lo i f a w kn kx kr Q _ _ h _ _ _ _;exact h.elim
 |refuse l=>intro V lo i f a w kn kx kr Q _ _ h _ _ _ _;exact h.elim
 |scope b ih=>
  intro V lo i f a w kn kx kr Q hc hag h hn hx hr hX;simp only[chk]at hc;simp only[nT]at h;refine wp_scope_straight ?_;exact ih V lo _ f a w kn kx kr _ hc hag h hn hx hr hX
 |rangeFunc f' ps az b=>intro V lo i f a w kn kx kr Q _ _ h _ _ _ _;exact h.elim
 |region id ops draw=>
  intro V lo i f a w kn kx kr Q hc hag h hn _ _ hX;simp only[chk,aJ,bN]at hc;simp only[nT]at h;cases draw with
  |false=>
   simp only[aN]at h hc;refine wp_region_list ?_;have:=uX (ops:=ops.toList) (Q:=Q) (n:=n) (V:=V) (lo:=lo) _ _ f a w hc.1 hc.2 hag h hn hX;simpa using this
  |true=>
   simp only[aO]at h hc;cases he:lk pl.ds i with
   |none=>simp only[he]at h
   |some e=>
    simp only[he]at h hc;have:=HG (R:=Same V lo f) (id:=id) (Q:=Q) (K:=kn) (λf' o v ho hs=>Same.trans hs (Same.upd (hc.1 o ho).1 v)) hm hc.2
     (λf' a' w' hag' hs hk=>hn f' a' w' hag' hs hk) (λc f' a' w' hd hs ht hx=>hX c a' w' hd (λt hn=>(ht t λo ho he=>by
       have:=(hc.1 o ho).1;simp only[yN,he]at this;rw[this]at hn;cases hn).trans (hs t hn)) hx) hag (Same.refl _ _ _) h
    simpa using this
 |seq x y ihx ihy=>
  intro V lo i f a w kn kx kr Q hc hag h hn hx hr hX;simp only[chk,aJ]at hc;simp only[nT]at h;refine wp_seq ?_;cases he:lk pl.js i with
  |none=>
   simp only[he]at h hc;refine ihx V lo (i+1) f a w _ kx kr _ hc.1 hag h ?_ hx hr hX;intro f' a' w' hag' hs h';exact ihy V lo _ f' a' w' kn kx kr Q hc.2 hag' h' (λf'' a'' w'' hag'' hs' hk=>hn f'' a'' w'' hag'' (hs.trans hs') hk)
    (λj f'' a'' w'' hag'' hs' hk=>hx j f'' a'' w'' hag'' (hs.trans hs') hk) (λf'' a'' w'' hag'' hs' hk=>hr f'' a'' w'' hag'' (hs.trans hs') hk) (hX.same hs)
  |some e=>
   simp only[he,aJ]at h hc;obtain⟨hsub,hC⟩:=Bn hc.1.1;obtain⟨J,hA,hB⟩:=h;refine ihx e.V e.lo (i+1) f a w _ kx kr _ hc.1.2 hag hA ?_ (λj f' a' w' hag' hs hk=>hx j f' a' w' hag' (hs.wider hsub) hk) (λf' a' w' hag' hs hk=>hr f' a' w' hag' (hs.wider hsub) hk) (hX.sub hsub);intro f' a' w' hag' hs hJ;have h':=hB _ f' _ hJ;simp only[Ab hs]at h';have hs0:=hs.wider hsub;exact ihy V lo _ f' a' w' kn kx kr Q hc.2 hag' h' (λf'' a'' w'' hag'' hs' hk=>hn f'' a'' w'' hag'' (hs0.trans hs') hk)
    (λj f'' a'' w'' hag'' hs' hk=>hx j f'' a'' w'' hag'' (hs0.trans hs') hk) (λf'' a'' w'' hag'' hs' hk=>hr f'' a'' w'' hag'' (hs0.trans hs') hk) (hX.same hs0)
 |cond c x y ihx ihy=>
  intro V lo i f a w kn kx kr Q hc hag h hn hx hr hX;simp only[chk,aJ]at hc;simp only[nT]at h;have he:a.eval c=ev f c:=congrFun (wR hag) c;cases hv:ev f c<;>rw[hv]at h<;>simp only[aR]at h<;>try exact h.elim
  rename_i t;refine wp_cond_split (he.trans hv) (λht=>?_) (λht=>?_)
  ·exact ihx V lo _ f a w kn kx kr Q hc.1 hag (h.1 ht) hn hx hr hX
  ·exact ihy V lo _ f a w kn kx kr Q hc.2 hag (h.2 ht) hn hx hr hX
 |block id b ih=>
  intro V lo i f a w kn kx kr Q hc hag h hn hx hr hX;simp only[chk]at hc;simp only[nT]at h;refine wp_block ?_;refine ih V lo _ f a w kn _ kr _ hc hag h hn ?_ hr hX;intro j f' a' w' hag' hs hk;simp only[Exit.inBlock];cases hj:Nat.beq j id with
  |true=>
   rw[hj]at hk;rw[aH (gL hj)];exact hn f' a' w' hag' hs hk
  |false=>
   rw[hj]at hk;rw[aD (λe=>by subst e;simp at hj)];exact hx j f' a' w' hag' hs hk
 |loop b ih=>
  intro V lo i f a w kn kx kr Q hc hag h hn hx hr hX;simp only[chk]at hc;simp only[nT]at h;cases he:lk pl.js i with
  |none=>simp only[he]at h
  |some e=>
   simp only[he,aJ]at h hc;obtain⟨hsub,hC⟩:=Bn hc.1;obtain⟨I,μ,h0,hround⟩:=h;refine wp_loop (λa' w'=>∃f',Ag n D f' a'/\Same e.V e.lo f f'/\I (e.C.map f') w') (λa' w'=>μ (e.C.map λt=>a'.tmps.getD t undef) w') ⟨f,hag,Same.refl _ _ _,h0⟩ ?_;rintro a' w' ⟨f',hag',hs,hI⟩;have h':=hround _ f' _ hI;simp only[Ab hs]at h';have hfun:(λt=>a'.tmps.getD t undef)=f':=funext hag'.2.2;refine ih e.V e.lo _ f' a' w' _ kx kr _ hc.2 hag' h' ?_ (λj f'' a'' w'' hag'' hs' hk=>hx j f'' a'' w'' hag'' ((hs.trans hs').wider hsub) hk)
    (λf'' a'' w'' hag'' hs' hk=>hr f'' a'' w'' hag'' ((hs.trans hs').wider hsub) hk) ((hX.sub hsub).same hs)
   intro f'' a'' w'' hag'' hs' hk;have hfun':(λt=>a''.tmps.getD t undef)=f'':=funext hag''.2.2;refine⟨⟨f'',hag'',hs.trans hs',hk.1⟩,?_⟩;rw[hfun,hfun'];exact hk.2
def Ca(P:Program):List ResultVar->Fr->World->(List Value->Prop)->Prop
 |[],_,_,K=>K []
 |.tmp t::r,f,w,K=>Ca P r f w λl=>K (f t::l)
 |.cell a T::r,f,w,K=>kF (P.underlying T).isSome (ldW (tP P T) (jH P T) (f a) w λv=>Ca P r f w λl=>K (v::l))
def one:List Value->Value
 |[v]=>v
 |l=>.tuple l.toArray
def HE(tmps:Array Value):ResultVar->Sem Value
 |.tmp t=>pure (tmps.getD t undef)
 |.cell x t=>do loadVar t (<-asAddr (tmps.getD x undef))
theorem JN(fn:Func)(tmps:Array Value):results fn tmps=(do let vs<-fn.results.mapM (HE tmps);pure (if h:vs.size=1 then vs[0]else .tuple vs)):=rfl
theorem Gu{f:Fr}{a:Act}{w:World}(hag:Ag n D f a):∀(l:List ResultVar) (K:List Value->Prop),Ca P l f w K->
  ∃vs,K vs/\(l.mapM (HE a.tmps)).run P w=.ok vs w
 |[],K,h=>⟨[],h,rfl⟩
 |.tmp t::r,K,h=>by
  obtain⟨vs,hk,hr⟩:=Gu hag r _ h
  refine⟨_,hk,?_⟩
  rw[List.mapM_cons,run_bind]
  simp only[HE,run_pure,run_bind,hr]
  rw[hag.2.2 t]
 |.cell x T::r,K,h=>by
  replace h:=kF.out h
  obtain⟨hT,h⟩:=h
  obtain⟨v,h',hl⟩:=Po hT h
  obtain⟨vs,hk,hr⟩:=Gu hag r _ h'
  refine⟨_,hk,?_⟩
  have hl':(HE a.tmps (.cell x T)).run P w=.ok v w:=by
   show(do loadVar T (<-asAddr (a.tmps.getD x undef)):Sem Value).run P w=.ok v w;rw[hag.2.2 x];cases hv:f x<;>rw[hv]at h hl<;>simp only[ldW]at h<;>try exact h.elim
   rename_i p;cases p with
   |none=>exact h.elim
   |some p=>exact hl
  rw[List.mapM_cons,run_bind];simp only[hl',run_bind,hr,run_pure]
theorem sU{fn:Func}{f:Fr}{a:Act}{K:Value->Prop}(hag:Ag n D f a)(h:Ca P fn.results.toList f w λl=>K (one l)):
  ∃v,K v/\(results fn a.tmps).run P w=.ok v w:=by
 obtain⟨vs,hk,hr⟩:=Gu hag _ _ h;refine⟨_,hk,?_⟩;rw[JN,run_bind];have:(fn.results.mapM (HE a.tmps)).run P w=.ok vs.toArray w:=by
  rw[Array.mapM_eq_mapM_toList,<-bind_pure_comp,run_bind,hr];rfl
 rw[this];simp only[run_pure];congr 1;cases vs with
 |nil=>rfl
 |cons v r=>cases r<;>rfl
def fr0(args:List Value):Fr:=λj=>args.getD j undef
def YZ[HX](P:Program)(fn:Func)(pl:cJ)(args:List Value)(w:World)(K:Value->World->Prop):Prop:=
 match fn.body with
 |some c=>nT P pl c 0 (fr0 args) w (λf w'=>Ca P fn.results.toList f w' λl=>K (one l) w') (λ_ _ _=>False) (λf w'=>Ca P fn.results.toList f w' λl=>K (one l) w')
 |none=>False
def KM(P:Program)(fn:Func)(pl:cJ)(k:Nat):Bool:=
 match fn.body with
 |some c=>Nat.ble k fn.ntmps&&chk P fn.ntmps pl [] 0 c 0
 |none=>false
theorem Ku{g:FuncId}{fn:Func}{args:List Value}(hm:P.follows .mixedOrders=true)(hf:P.funcs[g]?=some fn)(hc:KM P fn pl args.length=true)
  (h:YZ P fn pl args w K):Xb P g args w K:=by
 unfold YZ at h;unfold KM at hc;cases hb:fn.body with
 |none=>rw[hb]at h;exact h.elim
 |some c=>
  rw[hb]at h hc;simp only[aJ]at hc;unfold Xb;refine calls_of_wp hf hb ?_;have hle:args.length<=fn.ntmps:=iK hc.1;have hag:Ag fn.ntmps [] (fr0 args) {tmps:=args.toArray++Array.replicate (fn.ntmps-args.toArray.size) undef,defers:=[]}:=by
   refine⟨rfl,by simp;omega,λt=>?_⟩;simp only[gO,Array.getElem?_append,nJ,List.getElem?_toArray,Array.getElem?_replicate,fr0,List.getD_eq_getElem?_getD];split
   ·rfl
   ·rename_i hlt;rw[List.getElem?_eq_none (by omega)];split<;>rfl
  have hend:∀(f':Fr) (a':Act) (w':World),Ag fn.ntmps [] f' a'->(Ca P fn.results.toList f' w' λl=>K (one l) w')->a'.defers=[]/\∃v,(results fn a'.tmps).run P w'=.ok v w'/\Et K (.returned v) w':=by
   intro f' a' w' hag' hk;obtain⟨v,hk',hr⟩:=sU (K:=λv=>K v w') hag' hk;exact⟨hag'.1,v,hr,hk'⟩
  exact tG hm c [] 0 0 _ _ w _ _ _ _ hc.2 hag h (λf' a' w' hag' _ hk=>hend f' a' w' hag' hk) (λ_ _ _ _ _ _ hk=>hk.elim) (λf' a' w' hag' _ hk=>hend f' a' w' hag' hk) (λc a' w' hd _ hx=>⟨hd,hx⟩)
theorem tie(P:Program)(g:FuncId)(fn:Func)(pl:cJ)(args:List Value)(w:World)(K:Value->World->Prop)(k:Nat)(X:Prop)(hk:args.length=k)(hm:P.follows .mixedOrders=true)(hf:P.funcs[g]?=some fn)
  (hc:KM P fn pl k=true)(he:YZ P fn pl args w K=X)(hr:∀(az:Array Value) (w:World),(callFunc g az).run P w=.ok (.enter g az) w)(h:X):aC P g args w K:=by
 unfold aC;rw[hr];exact Ku hm hf (by rw[hk];exact hc) (by rw[he];exact h)
theorem callF_calls{g:FuncId}{args:List Value}(hr:(callFunc g args.toArray).run P w=.ok (.enter g args.toArray) w)(h:aC P g args w K):
  Calls P g args.toArray w (Et K):=by
 unfold aC at h;rw[hr]at h;exact h
end
def LZ(o:Option Obj)(i:Nat):Option Value:=match o with|some (.cells c _ _)=>c[i]?|_=>none
def frO(o:Option Obj)(i:Nat):Bool:=match o with|some (.cells _ _ (lo,hi))=>decide (lo<=i)&&decide (i<hi)|_=>false
def Xw(o:Option Obj)(i:Nat)(v:Value):Option Obj:=match o with|some (.cells c t f)=>some (.cells (c.setIfInBounds i v) t f)|o=>o
theorem cN(c:Array Value)(t:TypeId)(f:Nat×Nat)(i:Nat):LZ (some (.cells c t f)) i=c[i]?:=rfl
theorem DD(c:Array Value)(t:TypeId)(i:Nat):frO (some (.cells c t (0,0))) i=false:=by simp[frO]
theorem EI(c:Array Value)(t:TypeId)(f:Nat×Nat)(i:Nat)(v:Value):Xw (some (.cells c t f)) i v=some (.cells (c.setIfInBounds i v) t f):=rfl
theorem cC(w:World)(b o:Nat):w.cell? ⟨b,o,none⟩=LZ w.heap[b]? o:=by
 unfold World.cell? LZ;cases w.heap[b]? with
 |none=>rfl
 |some x=>cases x<;>rfl
theorem xR(w:World)(b o:Nat):w.frozen? ⟨b,o,none⟩=frO w.heap[b]? o:=by
 unfold World.frozen? frO;cases w.heap[b]? with
 |none=>rfl
 |some x=>cases x<;>rfl
theorem tQ(w:World)(b o:Nat)(v:Value):(w.setCell ⟨b,o,none⟩ v).heap[b]?=Xw w.heap[b]? o v:=by
 unfold World.setCell Xw;simp only[Array.getElem?_modify,gU];cases w.heap[b]? with
 |none=>rfl
 |some x=>cases x<;>simp
theorem Dy(w:World)(b o k:Nat)(v:Value)(h:k≠b):(w.setCell ⟨b,o,none⟩ v).heap[k]?=w.heap[k]?:=by
 unfold World.setCell;simp only[Array.getElem?_modify];rw[aD (tS h)]
theorem qZ(w:World)(a:Addr)(v:Value):(w.setCell a v).heap.size=w.heap.size:=by simp
theorem gD(w:World)(o:Obj)(k:Nat)(h:k=w.heap.size):(w.alloc o).heap[k]?=some o:=by subst h;show(w.heap.push o)[w.heap.size]?=_;simp
theorem xQ(w:World)(o:Obj)(k:Nat)(h:k≠w.heap.size):(w.alloc o).heap[k]?=w.heap[k]?:=by
 show(w.heap.push o)[k]?=_;rw[Array.getElem?_push,aD h]
theorem size_alloc(w:World)(o:Obj):(w.alloc o).heap.size=w.heap.size+1:=by simp
theorem heap_drew(w:World)(k:Nat):w.drew.heap[k]?=w.heap[k]?:=rfl
theorem size_drew(w:World):w.drew.heap.size=w.heap.size:=rfl
theorem bY(b o n:Nat):(⟨b,o,none⟩:Addr).add n=⟨b,o+n,none⟩:=by
 unfold Addr.add;split
 ·rename_i h;subst h;rfl
 ·rfl
structure Chg(S:Nat->Prop)(w w':World):Prop where
 os:w'.os=w.os
 tape:w'.tape=w.tape
 output:w'.output=w.output
 size:w.heap.size<=w'.heap.size
 heap:∀k,k<w.heap.size->¬S k->w'.heap[k]?=w.heap[k]?
abbrev Ext:=Chg (λ_=>False)
theorem Chg.refl(S:Nat->Prop)(w:World):Chg S w w:=⟨rfl,rfl,rfl,aU _,λ_ _ _=>rfl⟩
theorem Chg.trans{w1 w2:World}(h1:Chg S w w1)(h2:Chg S w1 w2):Chg S w w2:=
 ⟨h2.os.trans h1.os,h2.tape.trans h1.tape,h2.output.trans h1.output,cH h1.size h2.size,λk hk hs=>(h2.heap k (cL hk h1.size) hs).trans (h1.heap k hk hs)⟩
theorem Chg.mono{T:Nat->Prop}(h:Chg S w w')(hs:∀k,k<w.heap.size->S k->T k):Chg T w w':=
 ⟨h.os,h.tape,h.output,h.size,λk hk hn=>h.heap k hk λe=>hn (hs k hk e)⟩
theorem Chg.of_ext(h:Ext w w'):Chg S w w':=h.mono λ_ _ e=>e.elim
theorem Chg.drew(h:Chg S w w'):Chg S w w'.drew:=⟨h.os,h.tape,h.output,h.size,h.heap⟩
theorem Chg.alloc(h:Chg S w w')(o:Obj):Chg S w (w'.alloc o):=
 ⟨h.os,h.tape,h.output,by rw[size_alloc];exact Nat.le_succ_of_le h.size,λk hk hs=>by rw[xQ _ _ _ (by have:=h.size;omega)];exact h.heap k hk hs⟩
theorem Chg.set(h:Chg S w w'){b o:Nat}(hb:S b\/w.heap.size<=b)(v:Value):Chg S w (w'.setCell ⟨b,o,none⟩ v):=
 ⟨h.os,h.tape,h.output,by rw[qZ];exact h.size,λk hk hs=>by
  have hne:k≠b:=λe=>by
   subst e
   rcases hb with hb|hb
   ·exact hs hb
   ·omega
  rw[Dy _ _ _ _ _ hne]
  exact h.heap k hk hs⟩
theorem Chg.then{T:Nat->Prop}{w1 w2:World}(h1:Chg S w w1)(h2:Chg T w1 w2)(hT:∀k,k<w.heap.size->T k->S k):Chg S w w2:=
 ⟨h2.os.trans h1.os,h2.tape.trans h1.tape,h2.output.trans h1.output,cH h1.size h2.size,λk hk hs=>(h2.heap k (cL hk h1.size) λe=>hs (hT k hk e)).trans (h1.heap k hk hs)⟩
theorem Chg.below(h:Ext w w'):RowKit.Below w.heap.size w w':=⟨h.os,h.tape,h.output,h.size,λk hk=>h.heap k hk id⟩
theorem Chg.of_below(h:RowKit.Below w.heap.size w w'):Ext w w':=⟨h.os,h.tape,h.output,h.size,λk hk _=>h.block k hk⟩
abbrev str(l:List UInt8):Value:=.string (ofL l)
abbrev i64(n:Int):Value:=.int .i64 n
theorem cK{n:Int}(h1:-9223372036854775808<=n)(h2:n<9223372036854775808):IntKind.i64.wrap n=n:=by
 have e1:(2:Int)^64=18446744073709551616:=by decide
 have e2:(2:Int)^(64-1)=9223372036854775808:=by decide
 simp only[IntKind.wrap,IntKind.bits,IntKind.signed,iA,e1,e2];by_cases h:n%18446744073709551616>=9223372036854775808
 ·rw[aH (by simpa using h)];omega
 ·rw[aD (by simpa using h)];omega
theorem dR(A B:Prop):aR (.bool true) A B↔A:=by simp[aR]
theorem cX(A B:Prop):aR (.bool false) A B↔B:=by simp[aR]
theorem aM(p:Prop)[Decidable p](A B:Prop):aR (.bool (decide p)) A B↔(p->A)/\(¬p->B):=by simp[aR]
theorem lS(a b:Value)(K:Value->Prop):cP (.bool true) a b K↔K a:=iD
theorem rH(a b:Value)(K:Value->Prop):cP (.bool false) a b K↔K b:=iD
section forms
variable(k:IntKind)(a b:Int)(s t:ByteArray)(x y:Value)(ad:Addr)(w:World)(K:Value->Prop)(KE:Value->World->Prop)(KW:World->Prop)
theorem cA:aQ .add (.int k a) (.int k b) K↔K (.int k (k.wrap (a+b))):=by simp[aQ]
theorem nB:aQ .sub (.int k a) (.int k b) K↔K (.int k (k.wrap (a-b))):=by simp[aQ]
theorem Cx:aQ .mul (.int k a) (.int k b) K↔K (.int k (k.wrap (a*b))):=by simp[aQ]
theorem GY:aQ .quo (.int k a) (.int k b) K↔b≠0/\K (.int k (k.wrap (a.tdiv b))):=by simp[aQ]
theorem Cw:aQ .rem (.int k a) (.int k b) K↔b≠0/\K (.int k (a.tmod b)):=by simp[aQ]
theorem bL:aQ .eql (.int k a) (.int k b) K↔K (.bool (decide (a=b))):=by simp[aQ]
theorem fL:aQ .neq (.int k a) (.int k b) K↔K (.bool (decide (a≠b))):=by simp[aQ]
theorem dW:aQ .lss (.int k a) (.int k b) K↔K (.bool (decide (a<b))):=by simp[aQ]
theorem qK:aQ .leq (.int k a) (.int k b) K↔K (.bool (decide (a<=b))):=by simp[aQ]
theorem kS:aQ .gtr (.int k a) (.int k b) K↔K (.bool (decide (b<a))):=by simp[aQ]
theorem lM:aQ .geq (.int k a) (.int k b) K↔K (.bool (decide (b<=a))):=by simp[aQ]
theorem UC:aQ .shr (.int k a) (.int k b) K↔0<=b/\K (.int k (a.fdiv (2^min b.toNat k.bits))):=by simp[aQ]
theorem UE:aQ .and (.int k a) (.int k b) K↔K (.int k (k.wrap (BitVec.ofInt k.bits a&&&BitVec.ofInt k.bits b).toNat)):=by simp[aQ]
theorem GZ:aQ .or (.int k a) (.int k b) K↔K (.int k (k.wrap (BitVec.ofInt k.bits a|||BitVec.ofInt k.bits b).toNat)):=by simp[aQ]
theorem GD(l m:List UInt8):ofL l++ofL m=ofL (l++m):=by
 apply ByteArray.ext;simp[ofL,ByteArray.data_append]
theorem sA(l m:List UInt8):aQ .add (.string (ofL l)) (.string (ofL m)) K↔((l.length+m.length:Nat):Int)<=IntKind.i64.max/\K (.string (ofL (l++m))):=by simp[aQ,eV,GD]
theorem qJ(l m:List UInt8):aQ .eql (.string (ofL l)) (.string (ofL m)) K↔K (.bool (decide (l=m))):=by simp[aQ,eG]
theorem tH(l m:List UInt8):aQ .neq (.string (ofL l)) (.string (ofL m)) K↔K (.bool (decide (l≠m))):=by simp[aQ,eG]
theorem UA(l m:List UInt8):aQ .lss (.string (ofL l)) (.string (ofL m)) K↔K (.bool (Op.bytesLess l m)):=by simp[aQ,eG]
theorem UD(l m:List UInt8):aQ .gtr (.string (ofL l)) (.string (ofL m)) K↔K (.bool (!(Op.bytesLess l m||decide (l=m)))):=by simp[aQ,eG]
theorem Md(l m:List UInt8):aQ .geq (.string (ofL l)) (.string (ofL m)) K↔K (.bool (!Op.bytesLess l m)):=by simp[aQ,eG]
theorem UB(l m:List UInt8):aQ .leq (.string (ofL l)) (.string (ofL m)) K↔K (.bool (Op.bytesLess l m||decide (l=m))):=by simp[aQ,eG]
theorem dI:dJ (.pointer (some ad)) K↔K (.pointer (some ad)):=iD
theorem bP(off:Nat):aY off (.pointer (some ad)) K↔K (.pointer (some (ad.add off))):=iD
theorem dM(n:Nat):ldW false n (.pointer (some ad)) w K↔∃v,w.cell? ad=some v/\K v:=iD
theorem Do(n:Nat):ldW true n (.pointer (some ad)) w K↔∃l,jN w ad 0 n=some l/\K (.agg l.toArray):=iD
theorem Xr(n:Nat)(l:List Value):stW n (.pointer (some ad)) (.agg l.toArray) w KW↔l.length=n/\uQ ad l 0 w KW:=by simp[stW,Value.cells]
theorem Ty:gH (.int k a)=true:=rfl
theorem OS(c:Bool):gH (.bool c)=true:=rfl
theorem Tv:gH (.string s)=true:=rfl
theorem MM(p:Option Addr)(n m:Nat):gH (.slice p n m)=true:=rfl
theorem Tw(p:Option Addr):gH (.pointer p)=true:=rfl
theorem Tx(p:Option Nat):gH (.map p)=true:=rfl
theorem bJ(i:Nat)(l:List Value):dE i (.tuple l.toArray) K↔∃v,l[i]?=some v/\K v:=by
 simp only[dE,List.getElem?_toArray];cases l[i]?<;>simp
theorem qU(size n c:Nat):dV none size (.slice (some ad) n c) (.int k a) K↔0<=a/\a<n/\K (.pointer (some (ad.add (a.toNat*size)))):=iD
theorem TV(m size:Nat):dV (some m) size (.pointer (some ad)) (.int k a) K↔0<=a/\a<m/\K (.pointer (some (ad.add (a.toNat*size)))):=iD
theorem GJ(l:List UInt8):oO (.string (ofL l)) (.int k a) K↔0<=a/\∃c,l[a.toNat]?=some c/\K (.int .u8 c.toNat):=by simp[oO,eG]
theorem fH(l:List UInt8):gW (.string (ofL l)) K↔K (.int .i64 l.length):=by simp[gW,eV]
theorem Cr(p:Option Addr)(n c:Nat):dC (.slice p n c) K↔K (.int .i64 n):=iD
theorem eD(c:Bool):unW .not (.bool c) K↔K (.bool (!c)):=iD
theorem NO:unW .neg (.int k a) K↔K (.int k (k.wrap (0-a))):=iD
theorem mE(k':IntKind):rX k' (.int k a) K↔K (.int k' (k'.wrap a)):=iD
theorem TH:TI (.int k a) (.int k b) K↔K (.int k (if b<a then b else a)):=iD
theorem TJ:Pe (.int k a) (.int k b) K↔K (.int k (if a<b then b else a)):=iD
theorem Qx(T:TypeId)(z:List Value):bO T z w KE↔KE (.pointer (some ⟨w.heap.size,0,none⟩)) (w.alloc (.cells z.toArray T)):=iD
theorem fT(n m:Nat)(KN:Nat->Prop):bdW none n m KN↔KN n:=iD
theorem eM(n m:Nat)(KN:Nat->Prop):bdW (some (.int k a)) n m KN↔0<=a/\a<=m/\KN a.toNat:=iD
theorem fG(l:List UInt8)(lo hi:Option Value):lN (.string (ofL l)) lo hi K↔bdW hi l.length l.length λh=>bdW lo 0 h λm=>K (.string (ofL ((l.take h).drop m))):=by simp only[lN,eV,eG]
theorem Xs(size:Nat)(p:Option Addr)(n c:Nat)(lo hi mx:Option Value):Oi size (.slice p n c) lo hi mx K↔bdW mx c c λm=>(bdW hi n m λh=>bdW lo 0 h λl=>K (.slice (if m=l then p else p.map (·.add (l*size))) (h-l) (m-l))):=iD
theorem gX(c:Bool):isB (.bool c) true=c:=by cases c<;>rfl
theorem kL(c:Bool):isB (.bool c) false=!c:=by cases c<;>rfl
end forms
theorem GdW.go{c:Bool}{u:List Value}{A:(List Value->World->Prop)->Prop}{B:List Value->Fr->World->Prop}
  (h1:c=true->A (λs w'=>∀g,B s g w'))(h2:c=false->∀g,B u g w):GdW c u w A B:=
 ⟨λs w'=>∀g,B s g w',h1,λh=>h2 h,λs g _ h=>h g⟩
theorem GdW.t{u:List Value}{A:(List Value->World->Prop)->Prop}{B:List Value->Fr->World->Prop}(h:A (λs w'=>∀g,B s g w')):GdW true u w A B:=
 GdW.go (λ_=>h) (λe=>by cases e)
theorem GdW.f{u:List Value}{A:(List Value->World->Prop)->Prop}{B:List Value->Fr->World->Prop}(h:∀g,B u g w):GdW false u w A B:=
 GdW.go (λe=>by cases e) (λ_=>h)
theorem bU.go{A:(List Value->World->Prop)->Prop}{B:List Value->Fr->World->Prop}(h:A (λs w'=>∀g,B s g w')):bU A B:=⟨_,h,λ_ g _ h=>h g⟩
theorem bU.cut{A:(List Value->World->Prop)->Prop}{B:List Value->Fr->World->Prop}(J:List Value->World->Prop)(h1:A J)(h2:∀s g w',J s w'->B s g w'):bU A B:=⟨J,h1,h2⟩
theorem cZ.go{s0:List Value}{w0:World}{B:List Value->Fr->World->(List Value->World->Prop)->Prop}(I:List Value->World->Prop)(μ:List Value->World->Nat)
 (h0:I s0 w0)(h:∀s g w,I s w->B s g w (λs' w'=>I s' w'/\μ s' w'<μ s w)):cZ s0 w0 B:=⟨I,μ,h0,h⟩
theorem sV(c:List Value)(i:Nat)(v:Value)(r:List (Nat×Nat×Value))(K:List Value->Prop)(h:v.cells=#[v]):dD c ((i,1,v)::r) K↔i<c.length/\dD (c.set i v) r K:=by
 simp only[dD,h];constructor
 ·rintro⟨_,h2,h3⟩;rw[List.set_eq_take_append_cons_drop,aH (by omega)];exact⟨by omega,by simpa using h3⟩
 ·rintro⟨h2,h3⟩;rw[List.set_eq_take_append_cons_drop,aH (by omega)]at h3;exact⟨rfl,by omega,by simpa using h3⟩
theorem cU(c:List Value)(K:List Value->Prop):dD c [] K↔K c:=iD
theorem Rk(c:List Value)(i:Nat)(v:Option Nat)(r:List (Nat×Nat×Value))(K:List Value->Prop):dD c ((i,1,.map v)::r) K↔i<c.length/\dD (c.set i (.map v)) r K:=sV c i _ r K rfl
theorem dA(c:List Value)(i:Nat)(k:IntKind)(v:Int)(r:List (Nat×Nat×Value))(K:List Value->Prop):dD c ((i,1,.int k v)::r) K↔i<c.length/\dD (c.set i (.int k v)) r K:=sV c i _ r K rfl
theorem dZ(c:List Value)(i:Nat)(v:ByteArray)(r:List (Nat×Nat×Value))(K:List Value->Prop):dD c ((i,1,.string v)::r) K↔i<c.length/\dD (c.set i (.string v)) r K:=sV c i _ r K rfl
theorem wI(c:List Value)(i:Nat)(v:Bool)(r:List (Nat×Nat×Value))(K:List Value->Prop):dD c ((i,1,.bool v)::r) K↔i<c.length/\dD (c.set i (.bool v)) r K:=sV c i _ r K rfl
theorem Gx(c:List Value)(i:Nat)(v:Option Addr)(r:List (Nat×Nat×Value))(K:List Value->Prop):dD c ((i,1,.pointer v)::r) K↔i<c.length/\dD (c.set i (.pointer v)) r K:=sV c i _ r K rfl
theorem gB(c:List Value)(i:Nat)(p:Option Addr)(n m:Nat)(r:List (Nat×Nat×Value))(K:List Value->Prop):dD c ((i,1,.slice p n m)::r) K↔i<c.length/\dD (c.set i (.slice p n m)) r K:=sV c i _ r K rfl
structure sF(P:Program)(t e:TypeId)(size bytes:Nat):Prop where
 und:P.underlying t=some (.slice e)
 info:(P.info? e).map (λi=>(i.zero.map (·.cells.size),i.size,i.bytes))=some (some size,size,bytes)
 pos:0<size
theorem sF.get{t e:TypeId}{size bytes:Nat}(h:sF P t e size bytes):∃i z,P.info? e=some i/\i.zero=some z/\i.size=size/\i.bytes=bytes/\z.cells.size=size:=by
 have hi:=h.info;cases hx:P.info? e with
 |none=>rw[hx]at hi;cases hi
 |some i=>
  rw[hx]at hi;simp only[gZ,bD,fJ]at hi;obtain⟨h1,h2,h3⟩:=hi;cases hz:i.zero with
  |none=>rw[hz]at h1;cases h1
  |some z=>
   rw[hz]at h1;exact⟨i,z,rfl,hz,h2,h3,by simpa using h1⟩
def SlAt(w:World)(T:TypeId)(v:Value)(n:Nat)(cs:List Value):Prop:=
 ∃p cap,v=.slice p n cap/\n<=cap/\(p=none->n=0/\cap=0)/\(cs≠[]->∃b off c fr,p=some ⟨b,off,none⟩/\w.heap[b]?=some (.cells c T fr)/\∀i,i<cs.length->c[off+i]?=cs[i]?)
theorem SlAt.nil(w:World)(T:TypeId):SlAt w T (.slice none 0 0) 0 []:=⟨none,0,rfl,aU _,λ_=>⟨rfl,rfl⟩,λh=>absurd rfl h⟩
theorem SlAt.chg(h:SlAt w T v n cs)(hc:Chg S w w')
  (hS:∀k c fr,S k->w.heap[k]?≠some (.cells c T fr)):SlAt w' T v n cs:=by
 obtain⟨p,cap,hv,h1,h2,h3⟩:=h;refine⟨p,cap,hv,h1,h2,λhne=>?_⟩;obtain⟨b,off,c,fr,hp,hb,hcs⟩:=h3 hne;have hlt:b<w.heap.size:=(Array.getElem?_eq_some_iff.1 hb).1;exact⟨b,off,c,fr,hp,by rw[hc.heap b hlt λe=>hS b c fr e hb];exact hb,hcs⟩
theorem SlAt.ext(h:SlAt w T v n cs)(hc:Ext w w'):SlAt w' T v n cs:=
 h.chg hc λ_ _ _ e=>e.elim
theorem SlAt.shape(h:SlAt w T v n cs):∃p cap,v=.slice p n cap/\n<=cap:=by
 obtain⟨p,cap,hv,h1,_⟩:=h;exact⟨p,cap,hv,h1⟩
theorem fR(h:SlAt w T v n cs)(K:Value->Prop):dC v K↔K (i64 n):=by
 obtain⟨p,cap,rfl,_⟩:=h.shape;exact iD
theorem tO{size:Nat}{k:IntKind}{K:Value->Prop}(h:SlAt w T v n cs)(hl:cs.length=n*size)(hs:0<size)(hi:i<n)
  (hK:∀b o c fr,w.heap[b]?=some (.cells c T fr)->(∀j,j<size->c[o+j]?=cs[i*size+j]?)->K (.pointer (some ⟨b,o,none⟩))):dV none size v (.int k i) K:=by
 obtain⟨p,cap,rfl,h1,_,h3⟩:=h;have hlt:i*size+size<=n*size:=by rw[<-Nat.succ_mul];exact fX _ hi
 obtain⟨b,off,c,fr,rfl,hb,hcs⟩:=h3 (λe=>by rw[e]at hl;simp at hl;omega);refine⟨Int.natCast_nonneg _,by omega,?_⟩;rw[bY,aV];exact hK b _ c fr hb λj hj=>by rw[show off+i*size+j=off+(i*size+j)by omega];exact hcs _ (by omega)
theorem rO{k:IntKind}{x:Value}{K:Value->Prop}(h:SlAt w T v n cs)(hl:cs.length=n)(hi:cs[i]?=some x)(hK:K x):
  dV none 1 v (.int k i) λt=>ldW false 1 t w K:=by
 have hi':i<cs.length:=(List.getElem?_eq_some_iff.1 hi).1;refine tO (size:=1) h (by omega) (by omega) (by omega) λb o c fr hb hc=>?_;refine⟨x,?_,hK⟩;rw[cC,hb,cN];have:=hc 0 (by omega);simpa[hi]using this
abbrev Own(w:World)(base:Nat)(e:TypeId)(size:Nat)(v:Value)(n:Nat)(xs:List Value):Prop:=w.ownsRow base e size v n xs
theorem Own.sl{base:Nat}{e:TypeId}{size:Nat}{xs:List Value}(h:Own w base e size v n xs):SlAt w e v n xs:=by
 obtain⟨hl,⟨rfl,rfl⟩|⟨g,cap,cur,rfl,_,hg,h1,_,h2,h3⟩⟩:=h
 ·have:xs=[]:=bI (by simpa using hl);subst this;exact SlAt.nil w e
 ·refine⟨_,_,rfl,h1,λh=>(by cases h),λ_=>⟨g,0,cur,(0,0),rfl,hg,λi hi=>?_⟩⟩;rw[<-h3,List.getElem?_take,aH (by omega),aX];simp
def NH(w:World)(base:Nat)(e:TypeId)(k:Nat):Prop:=base<=k/\∃c,w.heap[k]?=some (.cells c e (0,0))
theorem Own.block{base:Nat}{e:TypeId}{size:Nat}{xs:List Value}(h:Own w base e size v n xs):∀k,v.ownBlock=some k->NH w base e k:=by
 intro k hk;obtain⟨hl,⟨rfl,rfl⟩|⟨g,cap,cur,rfl,hb,hg,_⟩⟩:=h
 ·simp[Value.ownBlock]at hk
 ·simp[Value.ownBlock]at hk;subst hk;exact⟨hb,cur,hg⟩
theorem yL(h:gH v=true):v.oneCell'=true:=by cases v<;>first|rfl|(simp[gH]at h)
theorem Chg.of_grown{row:Option Nat}(h:w.grownBy w' row)(hS:∀k,row=some k->S k):Chg S w w':=
 ⟨h.os,h.tape,h.output,h.size,λk hk hn=>h.block k hk λe=>hn (hS k e.symm)⟩
theorem kM{t e:TypeId}{size bytes:Nat}(hT:sF P t e size bytes){base:Nat}{x:Value}{m:Nat}{xs news:List Value}{ty:TypeId}
  (hown:Own w base e size v n xs)(hx:SlAt w T x m news)(hl:news.length=m*size)(h1:∀u∈news,gH u=true)(hlen:n+m<=4611686018427387904)(hb:(n+m)*bytes<=140737488355328)(hbase:base<=w.heap.size)
  (hK:∀v' w',Own w' base e size v' (n+m) (xs++news)->Chg (λk=>v.ownBlock=some k) w w'->(v'=.slice none 0 0↔v=.slice none 0 0/\m=0)->K v' w'):
  dY P (Builtin.append_ #[t,t] ty #[v,x]) w K:=by
 obtain⟨i,z,hi,hz,h2,h3,h4⟩:=hT.get;obtain⟨p,cap,rfl,hcap,hnil,hcells⟩:=hx;have hm:n+m<=maxLen:=by unfold maxLen;omega
 cases p with
 |none=>
  obtain⟨rfl,rfl⟩:=hnil rfl;have hn:news=[]:=bI (by simpa using hl);subst hn;have hr:(Builtin.append_ #[t,t] ty #[v,.slice none 0 0]).run P w=.ok v w:=by
   obtain⟨hl',⟨rfl,rfl⟩|⟨g,cap,cur,rfl,_,hg,h1,_,h2,h3⟩⟩:=hown
   ·simp[Builtin.append_,run_bind,bH hT.und,fM (show(P.info? e).isSome=true by rw[hi];rfl),Builtin.lenOf,run_pure,Builtin.firstCells]
   ·simp[Builtin.append_,run_bind,bH hT.und,fM (show(P.info? e).isSome=true by rw[hi];rfl),Builtin.lenOf,run_pure,Builtin.firstCells,h1,storeCells]
  unfold dY;rw[hr];simp only[fA,eA]at hK;exact hK v w hown (Chg.refl _ _) (by simp)
 |some a=>
  have hcell:∀j u,news[j]?=some u->w.cell? (a.add j)=some u:=by
   intro j u hu;have hne:news≠[]:=λe=>by subst e;simp at hu
   obtain⟨b,off,c,fr,hp,hb',hcs⟩:=hcells hne;cases hp;rw[bY,cC,hb',cN,hcs j (List.getElem?_eq_some_iff.1 hu).1,hu]
  obtain⟨v',w',hr,hown',hg,hnil'⟩:=run_append_own (P:=P) w base t ty e i z size bytes hT.und hi hz h2 h3 h4 hT.pos v n xs hown a m cap news hl hcell (λu hu=>yL (h1 u hu)) hm hb hbase;unfold dY;rw[hr];exact hK v' w' hown' (Chg.of_grown hg λk e=>e) hnil'
theorem xL{base:Nat}{e:TypeId}{size:Nat}(hb:base<=w.heap.size)(hl:cs.length=n*size)(hn:n<=4611686018427387904):Own (w.alloc (.cells cs.toArray e)) base e size (.slice (some ⟨w.heap.size,0,none⟩) n n) n cs:=
 ⟨hl,.inr ⟨w.heap.size,n,cs.toArray,rfl,hb,gD _ _ _ rfl,aU _,by unfold maxLen;omega,by simpa using hl,by simp[<-hl]⟩⟩
theorem Own.chg{base:Nat}{e:TypeId}{size:Nat}{xs:List Value}(h:Own w base e size v n xs)(hc:Chg S w w')(hS:∀k,NH w base e k->¬S k):Own w' base e size v n xs:=by
 obtain⟨hl,hn|⟨g,cap,cur,hv,hb,hg,r⟩⟩:=h
 ·exact⟨hl,.inl hn⟩
 ·exact⟨hl,.inr ⟨g,cap,cur,hv,hb,by rw[hc.heap g (Array.getElem?_eq_some_iff.1 hg).1 (hS g ⟨hb,cur,hg⟩)];exact hg,r⟩⟩
theorem Own.ext{base:Nat}{e:TypeId}{size:Nat}{xs:List Value}(h:Own w base e size v n xs)(hc:Ext w w'):Own w' base e size v n xs:=h.chg hc λ_ _ e=>e
theorem Own.base{base base':Nat}{e:TypeId}{size:Nat}{xs:List Value}(h:Own w base e size v n xs)(hb:base'<=base):Own w base' e size v n xs:=by
 obtain⟨hl,hn|⟨g,cap,cur,hv,hg,r⟩⟩:=h
 ·exact⟨hl,.inl hn⟩
 ·exact⟨hl,.inr ⟨g,cap,cur,hv,cH hb hg,r⟩⟩
def u8s(l:List UInt8):List Value:=l.map λb=>.int .u8 b.toNat
theorem oS(l:List UInt8):(u8s l).length=l.length:=by simp[u8s]
theorem Cj(l:List UInt8)(i:Nat):(u8s l)[i]?=(l[i]?).map λb=>.int .u8 b.toNat:=by simp[u8s]
theorem Ck(a b:List UInt8):u8s (a++b)=u8s a++u8s b:=by simp[u8s]
abbrev Byt(w:World)(T:TypeId)(v:Value)(l:List UInt8):Prop:=SlAt w T v l.length (u8s l)
theorem DU{src dst e:TypeId}(hs:P.underlying src=some (.slice e))(he:P.underlying e=some (.int .u8))(hd:P.underlying dst=some .string){l:List UInt8}{K:Value->Prop}
  (h:Byt w T v l):mS P (convert src dst v) w K↔K (str l):=by
 have hr:(convert src dst v).run P w=.ok (str l) w:=by
  obtain⟨p,cap,rfl,hcap,hnil,hcells⟩:=h;cases p with
  |none=>
   obtain⟨h0,_⟩:=hnil rfl;have:l=[]:=bI h0;subst this;rw[run_convert_bytes_nil (P:=P) w src e hs he _ _ dst hd];rfl
  |some a=>
   cases l with
   |nil=>
    rw[run_convert_bytes_string w src dst e _ _ cap hs he hd];have hl:(loadCells a 0).run P w=.ok (([]:List Int).map (Value.int .u8)).toArray w:=rfl;have:=run_bytesToString w a 0 cap [] hl;exact this
   |cons x l=>
    obtain⟨b,off,c,fr,hp,hb,hcs⟩:=hcells (by simp[u8s]);cases hp;have:=run_convert_bytes_arg (P:=P) w src e hs he b off (x::l).length cap ((x::l).map λb=>(b.toNat:Int)) (by simp) (λi hi=>by
     rw[cC,hb,cN,hcs i (by rw[oS];exact hi),Cj,List.getElem?_eq_getElem hi];rw[List.getD_eq_getElem?_getD,List.getElem?_map,List.getElem?_eq_getElem hi];rfl) dst hd
    rw[this];simp[str,ofL,strOfNums,Function.comp_def]
 constructor
 ·rintro⟨u,hu,hk⟩;rw[hr]at hu;cases hu;exact hk
 ·exactλhk=>⟨_,hr,hk⟩
abbrev Str:=List UInt8
theorem QW(a b:Str):(ofL a==ofL b)=decide (a=b):=by
 have h:(ofL a==ofL b)=((ofL a).data==(ofL b).data):=rfl;rw[h,lD];simp[ofL]
def Mi:List (Str×Value)->Str->Nat->Option (Nat×Value)
 |[],_,_=>none
 |(k,v)::r,x,i=>if x=k then some (i,v)else Mi r x (i+1)
theorem BP:∀(l:List MapEntry) (A:List (Str×Value)) (x:Str) (i:Nat),l.map (λe=>(e.key,e.val))=A.map (λp=>(str p.1,p.2))->Instr.findNow .string (str x) l i=some (Mi A x i)
 |[],A,x,i,h=>by
  have:A=[]:=by simpa using h.symm
  subst this
  rfl
 |e::l,[],x,i,h=>by simp at h
 |e::l,(k,v)::A,x,i,h=>by
  simp only[dT,eJ,fJ]at h
  obtain⟨⟨hk,hv⟩,hr⟩:=h
  simp only[Instr.findNow,hk,Instr.sameNow,QW,Mi,hv]
  by_cases hx:x=k
  ·simp[hx]
  ·simp only[hx,aI,nG]
   exact BP l A x (i+1) hr
section
variable{P:Program}{T kt et:TypeId}{w:World}{m:Nat}{A:List (Str×Value)}
theorem run_checkKey(hk:P.underlying kt=some .string)(e:Bool)(s:ByteArray)(w:World):(Instr.checkKey e 10000 kt (.string s)).run P w=.ok () w:=by
 show(Instr.checkKey e (9999+1) kt (.string s)).run P w=.ok () w;unfold Instr.checkKey;simp[run_bind,bH hk,run_pure]
theorem run_findKey(hk:P.underlying kt=some .string)(x:Str)(es:List MapEntry)(h:es.map (λe=>(e.key,e.val))=A.map (λp=>(str p.1,p.2)))(w:World):(Instr.findKey kt (str x) es).run P w=.ok (Mi A x 0) w:=by
 simp only[Instr.findKey,run_bind,bH hk];rw[BP es A x 0 h];rfl
end
theorem Chg.at{k:Nat}{o:Obj}(hc:Chg S w w')(h:w.heap[k]?=some o)(hS:¬S k):w'.heap[k]?=some o:=by
 rw[hc.heap k (Array.getElem?_eq_some_iff.1 h).1 hS];exact h
theorem Chg.new{w1 w2:World}{a:Nat}(h1:Ext w w1)(hc:Chg (λk=>k=a) w1 w2)(ha:w.heap.size<=a):Ext w w2:=h1.then hc λk hk e=>by omega
theorem eW{k:Nat}{o:Obj}(h:w.heap[k]?=some o):k<w.heap.size:=(Array.getElem?_eq_some_iff.1 h).1
theorem bG{z:List Value}(h:∀a w',a=w.heap.size->w'.heap.size=w.heap.size+1->w'.heap[a]?=some (.cells z.toArray T (0,0))->Ext w w'->K (.pointer (some ⟨a,0,none⟩)) w'):bO T z w K:=
 h _ _ rfl (by simp) (gD _ _ _ rfl) (Chg.alloc (Chg.refl _ _) _)
theorem fS{z:List Value}(h:∀a w',a=w.heap.size->w'.heap.size=w.heap.size+1->w'.heap[a]?=some (.cells z.toArray T (0,0))->Ext w w'->K (.pointer (some ⟨a,0,none⟩)) w'):eL T (.agg z.toArray) w K:=
 h _ _ rfl (by simp) (gD _ _ _ rfl) (Chg.alloc (Chg.refl _ _) _)
theorem row_new(h:∀a w',a=w.heap.size->w'.heap.size=w.heap.size+1->w'.heap[a]?=some (.cells cs.toArray T (0,0))->Ext w w'->w'=w.alloc (.cells cs.toArray T)->K (.slice (some ⟨a,0,none⟩) n n) w'):
  K (.slice (some ⟨w.heap.size,0,none⟩) n n) (w.alloc (.cells cs.toArray T)):=
 h _ _ rfl (by simp) (gD _ _ _ rfl) (Chg.alloc (Chg.refl _ _) _) rfl
theorem iT{a off:Nat}{cs:Array Value}{K:World->Prop}(hb:w.heap[a]?=some (.cells cs T (0,0)))(h1:gH v=true)(hoff:off<cs.size)
  (hK:∀w',w'.heap.size=w.heap.size->w'.heap[a]?=some (.cells (cs.setIfInBounds off v) T (0,0))->Chg (λk=>k=a) w w'->K w'):stW 1 (.pointer (some ⟨a,off,none⟩)) v w K:=by
 have hc:v.cells.toList=[v]:=by cases v<;>first|rfl|(simp[gH]at h1)
 have hc2:v.cells=#[v]:=by cases v<;>first|rfl|(simp[gH]at h1)
 have hz:(⟨a,off,none⟩:Addr).add 0=⟨a,off,none⟩:=rfl;simp only[stW,hc2];refine⟨rfl,?_⟩;simp only[uQ,hz];refine⟨h1,?_,?_,?_⟩
 ·rw[cC,hb,cN];simp[hoff]
 ·rw[xR,hb,DD]
 ·refine hK _ (by simp) ?_ (Chg.set (S:=λk=>k=a) (Chg.refl _ _) (.inl rfl) _);rw[tQ,hb,EI]
theorem Xq{a:Nat}{K:World->Prop}:∀(l:List Value) (i:Nat) (cs:List Value),w.heap[a]?=some (.cells cs.toArray T (0,0))->cs.length=i+l.length->(∀v∈l,gH v=true)->
  (∀w',w'.heap.size=w.heap.size->w'.heap[a]?=some (.cells (cs.take i++l).toArray T (0,0))->Chg (λk=>k=a) w w'->K w')->uQ ⟨a,0,none⟩ l i w K:=by
 intro l;induction l generalizing w with
 |nil=>
  intro i cs hb hl _ hK;refine hK w rfl ?_ (Chg.refl _ _);simp only[aL,fA]at hl;rw[fB (by omega),eA];exact hb
 |cons v r ih=>
  intro i cs hb hl h1 hK;have hadd:(⟨a,0,none⟩:Addr).add i=⟨a,i,none⟩:=by rw[bY];simp
  simp only[aA]at hl;simp only[uQ,hadd];refine⟨h1 v bC,?_,?_,?_⟩
  ·rw[cC,hb,cN];simp;omega
  ·rw[xR,hb,DD]
  ·have hb':(w.setCell ⟨a,i,none⟩ v).heap[a]?=some (.cells (cs.set i v).toArray T (0,0)):=by
    rw[tQ,hb,EI];simp
   refine ih (i+1) (cs.set i v) hb' (by rw[List.length_set];omega) (λu hu=>h1 u (aS _ hu)) λw' hz hb2 hc=>?_;refine hK w' (by rw[hz];simp) ?_ ((Chg.set (S:=λk=>k=a) (Chg.refl _ _) (.inl rfl) _).trans hc);rw[hb2];have:(cs.set i v).take (i+1)++r=cs.take i++v::r:=by
    rw[eP,List.getElem?_set_self (by omega),List.take_set_of_le (by omega)];simp
   rw[this]
theorem cG{a:Nat}{l:List Value}{K:World->Prop}(hb:w.heap[a]?=some (.cells cs.toArray T (0,0)))(hl:l.length=n)(hc:cs.length=n)(h1:l.all gH=true)
  (hK:∀w',w'.heap.size=w.heap.size->w'.heap[a]?=some (.cells l.toArray T (0,0))->Chg (λk=>k=a) w w'->K w'):stW n (.pointer (some ⟨a,0,none⟩)) (.agg l.toArray) w K:=by
 rw[Xr];refine⟨hl,?_⟩;refine Xq l 0 cs hb (by omega) (λv hv=>bN.1 h1 v hv) λw' hz hb' hc'=>hK w' hz ?_ hc';simpa using hb'
theorem DX{a:Nat}{w:World}{T:TypeId}{cs:List Value}{fr:Nat×Nat}(hb:w.heap[a]?=some (.cells cs.toArray T fr)):∀(n i:Nat),i+n=cs.length->jN w ⟨a,0,none⟩ i n=some (cs.drop i)
 |0,i,h=>by simp only[jN];rw[eO (by omega)]
 |n+1,i,h=>by
  have hi:i<cs.length:=by omega
  simp only[jN,bY,cC,hb,cN,aX,List.getElem?_toArray,List.getElem?_eq_getElem hi]
  rw[DX hb n (i+1) (by omega)]
  simp
theorem bX{a:Nat}{l:List Value}{fr:Nat×Nat}{K:Value->Prop}(hb:w.heap[a]?=some (.cells l.toArray T fr))(hn:l.length=n)(hK:K (.agg l.toArray)):ldW true n (.pointer (some ⟨a,0,none⟩)) w K:=by
 rw[Do];exact⟨l,by rw[DX hb n 0 (by omega)];rfl,hK⟩
theorem jA{a:Nat}{l:List Value}(hb:w.heap[a]?=some (.cells cs.toArray T (0,0)))(hl:l.length=n)(hc:cs.length=n)(h1:l.all gH=true)
  (hK:∀w',Chg (λk=>k=a) w w'->K (.agg l.toArray) w'):stW n (.pointer (some ⟨a,0,none⟩)) (.agg l.toArray) w λw5=>ldW true n (.pointer (some ⟨a,0,none⟩)) w5 λr6=>K r6 w5:=
 cG hb hl hc h1 λw' _ hb' hcw=>bX hb' hl (hK w' hcw)
inductive JV where
 |mk (k:Int) (b:Bool) (t:Str) (xs:List JV) (ks:List Str)
namespace JV
def k:JV->Int|.mk k _ _ _ _=>k
def b:JV->Bool|.mk _ b _ _ _=>b
def t:JV->Str|.mk _ _ t _ _=>t
def xs:JV->List JV|.mk _ _ _ xs _=>xs
def ks:JV->List Str|.mk _ _ _ _ ks=>ks
theorem eta(v:JV):v=.mk v.k v.b v.t v.xs v.ks:=by cases v;rfl
theorem ind{p:JV->Prop}(h:∀k b t xs ks,(∀x∈xs,p x)->p (.mk k b t xs ks))(v:JV):p v:=
 JV.rec (motive_1:=p) (motive_2:=λl=>∀x∈l,p x) (λk b t xs ks ih=>h k b t xs ks ih) (by intro x hx;cases hx)
  (λx l hx hl y hy=>by rcases bW.1 hy with rfl|hy;exact hx;exact hl y hy) v
def null:JV:=.mk 0 false [] [] []
end JV
def Fits(n:Nat)(ks:List Str)(t:Str):Prop:=n<=9223372036854775807/\ks.length<=9223372036854775807/\t.length<=9223372036854775807/\∀s∈ks,s.length<=9223372036854775807
mutual
def fV(w:World):JV->List Value->Prop
 |.mk k b t xs ks,cs=>∃sv kv T1 T2 L,cs=[i64 k,.bool b,str t,sv,kv]/\SlAt w T1 sv xs.length L/\gI w xs L/\SlAt w T2 kv ks.length (ks.map str)/\Fits xs.length ks t
def gI(w:World):List JV->List Value->Prop
 |[],L=>L=[]
 |x::xs,L=>∃c r,L=c++r/\fV w x c/\gI w xs r
end
theorem fV.out{v:JV}(h:fV w v cs):∃sv kv T1 T2 L,cs=[i64 v.k,.bool v.b,str v.t,sv,kv]/\SlAt w T1 sv v.xs.length L/\gI w v.xs L/\SlAt w T2 kv v.ks.length (v.ks.map str)/\Fits v.xs.length v.ks v.t:=by
 cases v with
 |mk k b t xs ks=>simpa only[fV,JV.k,JV.b,JV.t,JV.xs,JV.ks]using h
theorem fV.mk{v:JV}{sv kv:Value}{T1 T2:TypeId}{L:List Value}(h1:SlAt w T1 sv v.xs.length L)(h2:gI w v.xs L)(h3:SlAt w T2 kv v.ks.length (v.ks.map str))(h4:Fits v.xs.length v.ks v.t):fV w v [i64 v.k,.bool v.b,str v.t,sv,kv]:=by
 cases v with
 |mk k b t xs ks=>simp only[fV];exact⟨sv,kv,T1,T2,L,rfl,h1,h2,h3,h4⟩
theorem fV.len{v:JV}(h:fV w v cs):cs.length=5:=by
 obtain⟨sv,kv,T1,T2,L,rfl,_⟩:=h.out;rfl
theorem fV.one{v:JV}(h:fV w v cs):∀u∈cs,gH u=true:=by
 obtain⟨sv,kv,T1,T2,L,rfl,h1,_,h3,_⟩:=h.out;obtain⟨p,c,rfl,_⟩:=h1.shape;obtain⟨p',c',rfl,_⟩:=h3.shape;intro u hu;simp only[bW,eY,sH]at hu;rcases hu with rfl|rfl|rfl|rfl|rfl<;>rfl
theorem fV.all_one{v:JV}(h:fV w v cs):cs.all gH=true:=bN.2 h.one
theorem gI.len{w:World}:∀{xs:List JV} {L:List Value},gI w xs L->L.length=xs.length*5
 |[],L,h=>by simp only[gI]at h;subst h;rfl
 |x::xs,L,h=>by
  simp only[gI]at h
  obtain⟨c,r,rfl,hc,hr⟩:=h
  rw[bE,hc.len,gI.len hr,aA];omega
theorem gI.get{w:World}:∀{xs:List JV} {L:List Value} {i:Nat} {x:JV},gI w xs L->xs[i]?=some x->∃cs,fV w x cs/\∀j,j<5->L[i*5+j]?=cs[j]?
 |[],_,_,_,_,h=>by simp at h
 |y::xs,L,0,x,h,hx=>by
  simp only[List.getElem?_cons_zero,bD]at hx
  subst hx
  simp only[gI]at h
  obtain⟨c,r,rfl,hc,hr⟩:=h
  refine⟨c,hc,λj hj=>?_⟩
  rw[yA,aX,List.getElem?_append_left (by rw[hc.len];exact hj)]
 |y::xs,L,i+1,x,h,hx=>by
  simp only[List.getElem?_cons_succ]at hx
  simp only[gI]at h
  obtain⟨c,r,rfl,hc,hr⟩:=h
  obtain⟨cs,h1,h2⟩:=gI.get hr hx
  refine⟨cs,h1,λj hj=>?_⟩
  rw[List.getElem?_append_right (by rw[hc.len];omega),hc.len,<-h2 j hj]
  congr 1;omega
theorem gI.one'{x:JV}(h:fV w x cs):gI w [x] cs:=by
 simp only[gI];exact⟨cs,[],by simp,h,rfl⟩
mutual
theorem fV.ext{w w':World}(hx:Ext w w'):∀{v:JV} {cs:List Value},fV w v cs->fV w' v cs
 |.mk k b t xs ks,cs,h=>by
  simp only[fV]at h⊢
  obtain⟨sv,kv,T1,T2,L,rfl,h1,h2,h3,h4⟩:=h
  exact⟨sv,kv,T1,T2,L,rfl,h1.ext hx,gI.ext hx h2,h3.ext hx,h4⟩
theorem gI.ext{w w':World}(hx:Ext w w'):∀{xs:List JV} {L:List Value},gI w xs L->gI w' xs L
 |[],L,h=>by simp only[gI]at h⊢;exact h
 |x::xs,L,h=>by
  simp only[gI]at h⊢
  obtain⟨c,r,rfl,hc,hr⟩:=h
  exact⟨c,r,rfl,fV.ext hx hc,gI.ext hx hr⟩
end
theorem Lt{sv:Value}{xs:List JV}{L:List Value}{k:IntKind}{x:JV}{K:Value->Prop}(h:SlAt w T sv xs.length L)(hr:gI w xs L)(hi:xs[i]?=some x)
  (hK:∀b o c fr cs,w.heap[b]?=some (.cells c T fr)->fV w x cs->(∀j,j<5->c[o+j]?=cs[j]?)->K (.pointer (some ⟨b,o,none⟩))):dV none 5 sv (.int k i) K:=by
 obtain⟨cs,hc,hg⟩:=hr.get hi;refine tO (size:=5) h hr.len (by omega) (List.getElem?_eq_some_iff.1 hi).1 λb o c fr hb hcc=>?_;exact hK b o c fr cs hb hc λj hj=>(hcc j hj).trans (hg j hj)
theorem Af{b o:Nat}{c:Array Value}{fr:Nat×Nat}{K:Value->Prop}(hb:w.heap[b]?=some (.cells c T fr))(hn:cs.length=n)(hc:∀j,j<n->c[o+j]?=cs[j]?)(hK:K (.agg cs.toArray)):
  ldW true n (.pointer (some ⟨b,o,none⟩)) w K:=by
 rw[Do];refine⟨cs,?_,hK⟩;have key:∀(m i:Nat),i+m=n->jN w ⟨b,o,none⟩ i m=some (cs.drop i):=by
  intro m;induction m with
  |zero=>intro i h;simp only[jN];rw[eO (by omega)]
  |succ m ih=>
   intro i h;have hi:i<cs.length:=by omega
   simp only[jN,bY,cC,hb,cN,hc i (by omega),List.getElem?_eq_getElem hi];rw[ih (i+1) (by omega)];simp
 simpa using key n 0 (by omega)
theorem GK{sv:Value}{xs:List JV}{L:List Value}{k:IntKind}{x:JV}{K:Value->Prop}(h:SlAt w T sv xs.length L)(hr:gI w xs L)(hi:xs[i]?=some x)
  (hK:∀cs,fV w x cs->K (.agg cs.toArray)):dV none 5 sv (.int k i) λp=>ldW true 5 p w K:=
 Lt h hr hi λ_ _ _ _ cs hb hc hg=>Af hb hc.len hg (hK cs hc)
theorem pG{kv:Value}{ks:List Str}{k:IntKind}{x:Str}{K:Value->Prop}(h:SlAt w T kv ks.length (ks.map str))(hi:ks[i]?=some x)(hK:K (str x)):dV none 1 kv (.int k i) λp=>ldW false 1 p w K:=
 rO h (by simp) (by simp[hi]) hK
end
end Go.Eng
namespace Go.Num
section
open Go.Eng
variable{w:World}{K:Value->World->Prop}{cs:List Value}{G:Nat->Prop}{T:TypeId}{i:Nat}{n:Nat}{v:Value}{w':World}{P:Program}{c:UInt8}{S:Nat->Prop}
def isDig(c:UInt8):Bool:=decide (48<=c.toNat)&&decide (c.toNat<=57)
def dig(a:Str):Str:=match a with|[]=>[]|c::d=>if c=45 then d else c::d
def neg(a:Str):Bool:=a.head?==some 45
def goodN(a:Str):Bool:=decide (1<=(dig a).length)&&decide ((dig a).length<=100)&&(!((dig a).head?==some 48)||decide (a=[48]))&&(dig a).all isDig
def dval(c:UInt8):Nat:=c.toNat-48
def dec(d:Str):Nat:=d.foldl (λn c=>n*10+dval c) 0
theorem Zh(d:Str)(n:Nat):d.foldl (λn c=>n*10+dval c) n=n*10^d.length+dec d:=by
 unfold dec;induction d generalizing n with
 |nil=>simp
 |cons c d ih=>
  simp only[List.foldl_cons,aA];rw[ih,ih (0*10+dval c),nI,yA,aX,lP,<-Nat.add_assoc];congr 2;rw[Nat.mul_assoc,kG 10]
theorem vJ(a b:Str):dec (a++b)=dec a*10^b.length+dec b:=by
 unfold dec;rw[List.foldl_append,Zh];rfl
theorem dec_cons(c:UInt8)(d:Str):dec (c::d)=dval c*10^d.length+dec d:=by
 have:=vJ [c] d;simpa[dec]using this
theorem GT(h:isDig c=true):dval c<10:=by
 simp only[isDig,aJ,bB]at h;unfold dval;omega
theorem Bi{d:Str}(h:d.all isDig=true):dec d<10^d.length:=by
 induction d with
 |nil=>simp[dec]
 |cons c d ih=>
  simp only[fK,aJ]at h;have h1:=ih h.2;have h2:=GT h.1;rw[dec_cons,aA,nI,kG (10^_) 10];have:dval c*10^d.length+10^d.length<=10*10^d.length:=by rw[<-Nat.succ_mul];exact fX _ h2
  omega
theorem IT{a b:Str}(ha:a.all isDig=true)(hb:b.all isDig=true)(hl:a.length=b.length)(h:dec a=dec b):a=b:=by
 induction a generalizing b with
 |nil=>cases b with
  |nil=>rfl
  |cons _ _=>simp at hl
 |cons c a ih=>
  cases b with
  |nil=>simp at hl
  |cons e b=>
   simp only[fK,aJ]at ha hb;simp only[aA,Nat.add_right_cancel_iff]at hl;rw[dec_cons,dec_cons,hl]at h;have h1:=Bi ha.2;have h2:=Bi hb.2;rw[hl]at h1;have hp:0<10^b.length:=Bt (by omega);have e1:(dval c*10^b.length+dec a)/10^b.length=dval c:=by
    rw[pP,Nat.add_mul_div_right _ _ hp,Nat.div_eq_of_lt h1,aX]
   have e2:(dval e*10^b.length+dec b)/10^b.length=dval e:=by
    rw[pP,Nat.add_mul_div_right _ _ hp,Nat.div_eq_of_lt h2,aX]
   have hc:dval c=dval e:=by rw[<-e1,<-e2,h]
   have hr:dec a=dec b:=by rw[hc]at h;omega
   have hce:c=e:=by
    have h3:=ha.1;have h4:=hb.1;simp only[isDig,aJ,bB]at h3 h4;unfold dval at hc;exact iR.1 (by omega)
   rw[hce,ih ha.2 hb.2 hl hr]
theorem KG{d:Str}(hc:isDig c=true)(h0:c≠48):10^d.length<=dec (c::d):=by
 rw[dec_cons];have:1<=dval c:=by
  simp only[isDig,aJ,bB]at hc;unfold dval;have:c.toNat≠48:=λe=>h0 (iR.1 e);omega
 have:=fX (10^d.length) this;omega
theorem LU{a b:Str}(ha:a.all isDig=true)(hb:b.all isDig=true)(ha0:a.head?=some 48->a=[48])(hb0:b.head?=some 48->b=[48])(h1:a≠[])(h2:b≠[])(h:dec a=dec b):a=b:=by
 have key:∀{a b:Str},a.all isDig=true->b.all isDig=true->(b.head?=some 48->b=[48])->a≠[]->b≠[]->dec a=dec b->b.length<=a.length:=by
  intro a b ha hb hb0 h1 h2 h;cases b with
  |nil=>simp
  |cons c d=>
   by_cases hc:c=48
   ·have:=hb0 (by simp[hc]);rw[this];cases a with
    |nil=>exact absurd rfl h1
    |cons _ _=>simp
   ·simp only[fK,aJ]at hb;have h3:=KG (d:=d) hb.1 hc;have h4:=Bi ha;rw[h]at h4;have:d.length<a.length:=by
     rcases dK d.length a.length with h5|h5
     ·exact h5
     ·have:=jC (n:=10) (by omega) h5;omega
    simp;omega
 exact IT ha hb (Nat.le_antisymm (key hb ha ha0 h2 h1 h.symm) (key ha hb hb0 h1 h2 h)) h
def val:List Nat->Nat
 |[]=>0
 |x::r=>x+1000000000*val r
def Lim(l:List Nat):Prop:=∀x∈l,x<1000000000
def kX(d:Str):List Nat:=if h:d=[]then []else dec (d.drop (d.length-9))::kX (d.take (d.length-9))
 termination_by d.length
 decreasing_by
  have:0<d.length:=dF.2 h
  simp only[cI];omega
theorem AV:kX []=[]:=by rw[kX];simp
theorem Dl{d:Str}(h:d≠[]):kX d=dec (d.drop (d.length-9))::kX (d.take (d.length-9)):=by rw[kX,dif_neg h]
theorem uM{d:Str}(n:Nat)(h:d.all isDig=true):(d.take n).all isDig=true:=bN.2 λx hx=>bN.1 h x (List.mem_of_mem_take hx)
theorem Jn{d:Str}(n:Nat)(h:d.all isDig=true):(d.drop n).all isDig=true:=bN.2 λx hx=>bN.1 h x (List.mem_of_mem_drop hx)
theorem aBm{d:Str}(h:d.all isDig=true)(hl:d.length<=9):dec d<1000000000:=by
 have h1:=Bi h;have:=jC (n:=10) (by omega) hl;omega
theorem qT:∀(n:Nat) (d:Str),d.length<=n->d.all isDig=true->val (kX d)=dec d/\Lim (kX d)
 |n,[],_,_=>by rw[AV];exact⟨rfl,λx hx=>by cases hx⟩
 |0,_::_,h,_=>by simp at h
 |n+1,c::d,hn,h=>by
  rw[Dl (by simp)]
  generalize hD:c::d=D at*
  have hpos:0<D.length:=by rw[<-hD];simp
  obtain⟨h1,h2⟩:=qT n (D.take (D.length-9)) (by rw[cI];omega) (uM _ h)
  refine⟨?_,λx hx=>?_⟩
  ·simp only[val,h1]
   have hs:D=D.take (D.length-9)++D.drop (D.length-9):=(qL _ _).symm
   conv=>rhs;rw[hs,vJ]
   rcases dK D.length 9 with h9|h9
   ·have:D.length-9=0:=by omega
    rw[this];simp[dec]
   ·rw[aP,show D.length-(D.length-9)=9 by omega]
    rw[pP,kG 1000000000]
  ·rcases bW.1 hx with rfl|hx
   ·exact aBm (Jn _ h) (by rw[aP];omega)
   ·exact h2 x hx
def gP(l:List Nat):List Nat:=if h:l=[]then []else if l.getLast h=0 then gP l.dropLast else l
 termination_by l.length
 decreasing_by
  have:0<l.length:=dF.2 h
  simp only[List.length_dropLast];omega
theorem qO:gP []=[]:=by rw[gP];simp
theorem oU(l:List Nat):gP (l++[0])=gP l:=by rw[gP];simp
theorem tW{l:List Nat}{x:Nat}(h:x≠0):gP (l++[x])=l++[x]:=by rw[gP];simp[h]
def Top(l:List Nat):Prop:=∀h:l≠[],l.getLast h≠0
theorem Gl(a b:List Nat):val (a++b)=val a+1000000000^a.length*val b:=by
 induction a with
 |nil=>simp[val]
 |cons x a ih=>simp only[dG,val,ih,aA,nI];rw[sL,<-Nat.add_assoc,<-Nat.mul_assoc,kG 1000000000 (1000000000^_)]
theorem wE{p:List Nat->Prop}(h0:p [])(h1:∀l x,p l->p (l++[x]))(l:List Nat):p l:=by
 have:∀n (l:List Nat),l.length=n->p l:=by
  intro n;induction n with
  |zero=>intro l hl;rw[bI hl];exact h0
  |succ n ih=>
   intro l hl;have hne:l≠[]:=λe=>by subst e;simp at hl
   rw[<-List.dropLast_concat_getLast hne];exact h1 _ _ (ih _ (by simp[hl]))
 exact this _ l rfl
theorem lR(l:List Nat):val (gP l)=val l/\Top (gP l)/\(Lim l->Lim (gP l)):=by
 induction l using wE with
 |h0=>rw[qO];exact⟨rfl,λh=>absurd rfl h,id⟩
 |h1 l x ih=>
  by_cases h:x=0
  ·subst h;rw[oU];refine⟨by rw[ih.1,Gl];simp[val],ih.2.1,λhl=>ih.2.2 λy hy=>hl y (eF _ hy)⟩
  ·rw[tW h];exact⟨rfl,λ_=>by simpa using h,id⟩
theorem Gj{l:List Nat}(h:Lim l):val l<1000000000^l.length:=by
 induction l with
 |nil=>simp[val]
 |cons x l ih=>
  have h1:=ih λy hy=>h y (aS _ hy);have h2:=h x bC;simp only[val,aA,nI];have:1000000000*val l+1000000000<=1000000000*1000000000^l.length:=by rw[<-Nat.mul_succ];exact jQ _ h1
  rw[kG (1000000000^_)];omega
theorem Gm{l:List Nat}(ht:Top l)(hne:l≠[]):1000000000^(l.length-1)<=val l:=by
 have h1:=ht hne;have h2:=List.dropLast_concat_getLast hne;rw[<-h2,Gl];simp only[bE,List.length_dropLast,aA,aL,val,Nat.mul_zero,fA];have:1000000000^(l.length-1)*1<=1000000000^(l.length-1)*l.getLast hne:=jQ _ (by omega);rw[show l.length-1+1-1=l.length-1 by omega];omega
theorem CG{l:List Nat}(ht:Top l):val l=0↔l=[]:=by
 constructor
 ·intro h;rcases Classical.em (l=[])with e|e
  ·exact e
  ·have:=Gm ht e;have hp:0<1000000000^(l.length-1):=Bt (by omega);omega
 ·rintro rfl;rfl
def iB:List Nat->List Nat->Nat->List Nat
 |[],[],c=>[c]
 |a::x,[],c=>(c+a)%1000000000::iB x [] ((c+a)/1000000000)
 |[],b::y,c=>(c+b)%1000000000::iB [] y ((c+b)/1000000000)
 |a::x,b::y,c=>(c+a+b)%1000000000::iB x y ((c+a+b)/1000000000)
theorem xI:∀(x y:List Nat) (c:Nat),val (iB x y c)=val x+val y+c
 |[],[],c=>by simp[iB,val]
 |a::x,[],c=>by
  have:=xI x [] ((c+a)/1000000000)
  simp only[iB,val,this]
  have:=Nat.mod_add_div (c+a) 1000000000
  rw[sL,sL];omega
 |[],b::y,c=>by
  have:=xI [] y ((c+b)/1000000000)
  simp only[iB,val,this]
  have:=Nat.mod_add_div (c+b) 1000000000
  rw[sL,sL];omega
 |a::x,b::y,c=>by
  have:=xI x y ((c+a+b)/1000000000)
  simp only[iB,val,this]
  have:=Nat.mod_add_div (c+a+b) 1000000000
  rw[sL,sL];omega
theorem uE:∀(x y:List Nat) (c:Nat),Lim x->Lim y->c<=1->Lim (iB x y c)
 |[],[],c,_,_,hc=>by intro u hu;simp only[iB,bR]at hu;subst hu;omega
 |a::x,[],c,hx,hy,hc=>by
  have ha:=hx a bC
  have:=uE x [] ((c+a)/1000000000) (λu hu=>hx u (aS _ hu)) hy (by omega)
  intro u hu
  simp only[iB]at hu
  rcases bW.1 hu with rfl|hu
  ·exact Nat.mod_lt _ (by omega)
  ·exact this u hu
 |[],b::y,c,hx,hy,hc=>by
  have ha:=hy b bC
  have:=uE [] y ((c+b)/1000000000) hx (λu hu=>hy u (aS _ hu)) (by omega)
  intro u hu
  simp only[iB]at hu
  rcases bW.1 hu with rfl|hu
  ·exact Nat.mod_lt _ (by omega)
  ·exact this u hu
 |a::x,b::y,c,hx,hy,hc=>by
  have ha:=hx a bC
  have hb:=hy b bC
  have:=uE x y ((c+a+b)/1000000000) (λu hu=>hx u (aS _ hu)) (λu hu=>hy u (aS _ hu)) (by omega)
  intro u hu
  simp only[iB]at hu
  rcases bW.1 hu with rfl|hu
  ·exact Nat.mod_lt _ (by omega)
  ·exact this u hu
def gG:List Nat->List Nat->Nat->List Nat
 |[],_,_=>[]
 |a::x,y,c=>
  let t:=c+y.headD 0
  if a<t then(a+1000000000-t)::gG x y.tail 1 else(a-t)::gG x y.tail 0
theorem NL(y:List Nat):val y=y.headD 0+1000000000*val y.tail:=by cases y<;>simp[val]
theorem rJ:∀(x y:List Nat) (c:Nat),Lim x->Lim y->c<=1->val y+c<=val x->y.length<=x.length->val (gG x y c)=val x-val y-c/\Lim (gG x y c)
 |[],y,c,_,_,_,h,_=>by simp[val]at h;simp[gG,val,Lim]
 |a::x,y,c,hx,hy,hc,h,hl=>by
  have ha:=hx a bC
  have hx':Lim x:=λu hu=>hx u (aS _ hu)
  have hy':Lim y.tail:=λu hu=>hy u (List.mem_of_mem_tail hu)
  have hb:y.headD 0<1000000000:=by cases y with
   |nil=>simp
   |cons b y=>exact hy b bC
  have hl':y.tail.length<=x.length:=by simp only[List.length_tail,aA]at hl⊢;omega
  rw[NL y]at h⊢
  simp only[val]at h⊢
  simp only[gG]
  by_cases hlt:a<c+y.headD 0
  ·rw[aH hlt]
   have h1:val y.tail+1<=val x:=by
    rcases dK (val y.tail) (val x)with h1|h1
    ·exact h1
    ·have:=jQ 1000000000 h1;omega
   obtain⟨h2,h3⟩:=rJ x y.tail 1 hx' hy' (by omega) h1 hl';refine⟨?_,λu hu=>?_⟩
   ·simp only[val,h2];have:1000000000*(val x-val y.tail-1)=1000000000*val x-1000000000*val y.tail-1000000000:=by rw[Nat.mul_sub,Nat.mul_sub,Nat.mul_one]
    rw[this];have:=jQ 1000000000 h1;rw[sL]at this;omega
   ·rcases bW.1 hu with rfl|hu
    ·omega
    ·exact h3 u hu
  ·rw[aD hlt];have h1:val y.tail+0<=val x:=by
    rcases dK (val x) (val y.tail)with h1|h1
    ·have:=jQ 1000000000 (Nat.succ_le_of_lt h1);rw[Nat.mul_succ]at this;omega
    ·omega
   obtain⟨h2,h3⟩:=rJ x y.tail 0 hx' hy' (by omega) h1 hl';refine⟨?_,λu hu=>?_⟩
   ·simp only[val,h2,Nat.sub_zero];rw[Nat.mul_sub];have:=jQ 1000000000 h1;rw[fA]at this;omega
   ·rcases bW.1 hu with rfl|hu
    ·omega
    ·exact h3 u hu
def sJ(a b:Nat):Int:=if a<b then-1 else if b<a then 1 else 0
theorem iF(a b:Nat):(a<b/\sJ a b=-1)\/(a=b/\sJ a b=0)\/(b<a/\sJ a b=1):=by
 unfold sJ;rcases Nat.lt_trichotomy a b with h|h|h
 ·exact .inl ⟨h,aH h⟩
 ·exact .inr (.inl ⟨h,by subst h;simp⟩)
 ·exact .inr (.inr ⟨h,by rw[aD (Nat.not_lt.2 (Nat.le_of_lt h)),aH h]⟩)
def sS:List (Nat×Nat)->Int
 |[]=>0
 |(a,b)::r=>if sJ a b≠0 then sJ a b else sS r
def Ho(x y:List Nat):Int:=if sJ x.length y.length≠0 then sJ x.length y.length else sS (x.zip y).reverse
theorem Mw(a b:List (Nat×Nat)):sS (a++b)=if sS a≠0 then sS a else sS b:=by
 induction a with
 |nil=>simp[sS]
 |cons p a ih=>
  obtain⟨u,v⟩:=p;simp only[dG,sS,ih];by_cases h:sJ u v≠0
  ·simp[h]
  ·simp[h]
theorem EF:∀(x y:List Nat),Lim x->Lim y->x.length=y.length->sS (x.zip y).reverse=sJ (val x) (val y)
 |[],[],_,_,_=>by simp[sS,sJ]
 |[],_::_,_,_,h=>by simp at h
 |_::_,[],_,_,h=>by simp at h
 |a::x,b::y,hx,hy,h=>by
  simp only[aA,Nat.add_right_cancel_iff]at h
  have ha:=hx a bC
  have hb:=hy b bC
  have ih:=EF x y (λu hu=>hx u (aS _ hu)) (λu hu=>hy u (aS _ hu)) h
  simp only[List.zip_cons_cons,List.reverse_cons,Mw,ih,sS,val]
  rcases iF (val x) (val y)with⟨h1,e1⟩|⟨h1,e1⟩|⟨h1,e1⟩
  ·have:=jQ 1000000000 (Nat.succ_le_of_lt h1)
   rcases iF (a+1000000000*val x) (b+1000000000*val y)with⟨h2,e2⟩|⟨h2,e2⟩|⟨h2,e2⟩
   ·rw[e1,e2];rfl
   ·omega
   ·omega
  ·rw[e1,h1]
   rcases iF a b with⟨h2,e2⟩|⟨h2,e2⟩|⟨h2,e2⟩
   ·rcases iF (a+1000000000*val y) (b+1000000000*val y)with⟨h3,e3⟩|⟨h3,e3⟩|⟨h3,e3⟩
    ·rw[e2,e3];rfl
    ·omega
    ·omega
   ·subst h2
    rcases iF (a+1000000000*val y) (a+1000000000*val y)with⟨h3,e3⟩|⟨h3,e3⟩|⟨h3,e3⟩
    ·omega
    ·rw[e2,e3];rfl
    ·omega
   ·rcases iF (a+1000000000*val y) (b+1000000000*val y)with⟨h3,e3⟩|⟨h3,e3⟩|⟨h3,e3⟩
    ·omega
    ·omega
    ·rw[e2,e3];rfl
  ·have:=jQ 1000000000 (Nat.succ_le_of_lt h1)
   rcases iF (a+1000000000*val x) (b+1000000000*val y)with⟨h2,e2⟩|⟨h2,e2⟩|⟨h2,e2⟩
   ·omega
   ·omega
   ·rw[e1,e2];rfl
theorem EG{x y:List Nat}(hx:Lim x)(hy:Lim y)(tx:Top x)(ty:Top y):Ho x y=sJ (val x) (val y):=by
 unfold Ho;have key:∀{x y:List Nat},Lim x->Top y->x.length<y.length->val x<val y:=by
  intro x y hx ty h;have hne:y≠[]:=λe=>by subst e;simp at h
  have h1:=Gm ty hne;have h2:=Gj hx;have h3:=jC (n:=1000000000) (by omega) (show x.length<=y.length-1 by omega);omega
 rcases iF x.length y.length with⟨h,e⟩|⟨h,e⟩|⟨h,e⟩
 ·have h2:=key hx ty h;rcases iF (val x) (val y)with⟨h3,e3⟩|⟨h3,e3⟩|⟨h3,e3⟩
  ·rw[e,e3];rfl
  ·omega
  ·omega
 ·rw[e,aD (by simp)];exact EF x y hx hy h
 ·have h2:=key hy tx h;rcases iF (val x) (val y)with⟨h3,e3⟩|⟨h3,e3⟩|⟨h3,e3⟩
  ·omega
  ·omega
  ·rw[e,e3];rfl
structure Big where
 below:Bool
 l:List Nat
def Big.trim(x:Big):Big:=⟨x.below&&!(gP x.l).isEmpty,gP x.l⟩
def Big.int(x:Big):Int:=if x.below then-(val x.l:Int)else val x.l
structure Big.Ok(x:Big):Prop where
 lim:Lim x.l
 top:Top x.l
 sign:x.l=[]->x.below=false
theorem xE{x:Big}(h:Lim x.l):x.trim.Ok:=⟨(lR x.l).2.2 h,(lR x.l).2.1,λe=>by simp only[Big.trim]at e⊢;simp[e]⟩
theorem tU(x:Big):x.trim.int=x.int:=by
 unfold Big.int Big.trim;have h:=(lR x.l).1;have h2:=CG (lR x.l).2.1;simp only[h];cases hb:x.below with
 |false=>simp
 |true=>
  cases he:gP x.l with
  |nil=>have:val x.l=0:=by rw[<-h,he];rfl
        simp[this]
  |cons _ _=>simp
def gR(a:Str):Big:=(⟨neg a,kX (dig a)⟩:Big).trim
def zQ(x:Big):Big:=(⟨!x.below,x.l⟩:Big).trim
def Ed(x y:Big):Big:=
 if x.below=y.below then(⟨x.below,iB x.l y.l 0⟩:Big).trim
 else if 0<=Ho x.l y.l then(⟨x.below,gG x.l y.l 0⟩:Big).trim
 else(⟨y.below,gG y.l x.l 0⟩:Big).trim
def wV(a b:Str):Int:=if goodN a&&goodN b then(let d:=Ed (gR a) (zQ (gR b));if d.l=[]then 0 else if d.below then-1 else 1)else 0
def num(a:Str):Int:=if neg a then-(dec (dig a):Int)else dec (dig a)
theorem Gk{x y:List Nat}(hx:Lim x)(ty:Top y)(h:val y<=val x):y.length<=x.length:=by
 rcases dK x.length y.length with hl|hl
 ·have hne:y≠[]:=λe=>by subst e;simp at hl
  have h1:=Gm ty hne;have h2:=Gj hx;have h3:=jC (n:=1000000000) (by omega) (show x.length<=y.length-1 by omega);omega
 ·exact hl
theorem Ob{x y:Big}(hx:x.Ok)(hy:y.Ok):(Ed x y).int=x.int+y.int/\(Ed x y).Ok:=by
 unfold Ed;have hs:=EG hx.lim hy.lim hx.top hy.top;by_cases h:x.below=y.below
 ·rw[aH h];refine⟨?_,xE (uE _ _ _ hx.lim hy.lim (by omega))⟩;rw[tU];unfold Big.int;rw[xI,<-h];cases x.below<;>simp;omega
 ·rw[aD h,hs];by_cases hc:val y.l<=val x.l
  ·have:0<=sJ (val x.l) (val y.l):=by unfold sJ;rw[aD (by omega)];split<;>omega
   rw[aH this];obtain⟨h1,h2⟩:=rJ x.l y.l 0 hx.lim hy.lim (by omega) (by omega) (Gk hx.lim hy.top hc);refine⟨?_,xE h2⟩;rw[tU];unfold Big.int;rw[h1];cases hxb:x.below<;>cases hyb:y.below<;>simp_all<;>omega
  ·have:¬0<=sJ (val x.l) (val y.l):=by unfold sJ;rw[aH (by omega)];omega
   rw[aD this];obtain⟨h1,h2⟩:=rJ y.l x.l 0 hy.lim hx.lim (by omega) (by omega) (Gk hy.lim hx.top (by omega));refine⟨?_,xE h2⟩;rw[tU];unfold Big.int;rw[h1];cases hxb:x.below<;>cases hyb:y.below<;>simp_all<;>omega
theorem iE{a:Str}(h:goodN a=true):1<=(dig a).length/\(dig a).length<=100/\((dig a).head?=some 48->a=[48])/\(dig a).all isDig=true:=by
 simp only[goodN,aJ,cM,bB,dO,beq_eq_false_iff_ne,bT]at h;obtain⟨⟨⟨h1,h2⟩,h3⟩,h4⟩:=h;exact⟨h1,h2,λe=>h3.resolve_left (λh=>h e),h4⟩
theorem ES{a:Str}(h:goodN a=true):(gR a).int=num a/\(gR a).Ok:=by
 obtain⟨_,_,_,h4⟩:=iE h;obtain⟨h5,h6⟩:=qT _ (dig a) (aU _) h4;refine⟨?_,xE h6⟩;unfold gR;rw[tU];unfold Big.int num;rw[h5]
theorem Mn{x:Big}(h:x.Ok):(zQ x).int=-x.int/\(zQ x).Ok:=by
 refine⟨?_,xE h.lim⟩;unfold zQ;rw[tU];unfold Big.int;cases x.below<;>simp
theorem Lo{a b:Str}(ha:goodN a=true)(hb:goodN b=true)(h:num a=num b):a=b:=by
 obtain⟨a1,_,a3,a4⟩:=iE ha;obtain⟨b1,_,b3,b4⟩:=iE hb;have hdig:∀{a:Str},neg a=true->a=45::dig a:=by
  intro a h;cases a with
  |nil=>simp[neg]at h
  |cons c d=>simp only[neg,List.head?_cons,fI,bD]at h;subst h;simp[dig]
 have hdig0:∀{a:Str},neg a=false->dig a=a:=by
  intro a h;cases a with
  |nil=>rfl
  |cons c d=>
   have:c≠45:=λe=>by subst e;simp[neg]at h
   simp[dig,this]
 have hn48:neg [48]=false:=by decide
 have hd48:dig [48]=[48]:=by decide
 have key:dec (dig a)=dec (dig b)->dig a=dig b:=LU a4 b4 (λe=>by rw[a3 e,hd48]) (λe=>by rw[b3 e,hd48]) (λe=>by rw[e]at a1;simp at a1) (λe=>by rw[e]at b1;simp at b1);have hpos:∀{a:Str},goodN a=true->neg a=true->0<dec (dig a):=by
  intro a ha hn;obtain⟨h1,_,h3,h4⟩:=iE ha;cases hd:dig a with
  |nil=>rw[hd]at h1;simp at h1
  |cons c d=>
   have hc:c≠48:=λe=>by
    have:=h3 (by rw[hd,e];rfl);rw[this,hn48]at hn;cases hn
   rw[hd]at h4;simp only[fK,aJ]at h4;have:=KG (d:=d) h4.1 hc;have hp:0<10^d.length:=Bt (by omega);omega
 unfold num at h;cases hna:neg a with
 |true=>
  cases hnb:neg b with
  |true=>
   rw[hna,hnb]at h;simp only[gU]at h;rw[hdig hna,hdig hnb,key (by omega)]
  |false=>
   rw[hna,hnb]at h;have:=hpos ha hna;simp at h;omega
 |false=>
  cases hnb:neg b with
  |true=>
   rw[hna,hnb]at h;have:=hpos hb hnb;simp at h;omega
  |false=>
   rw[hna,hnb]at h;simp only[iX,nG]at h;have:=key (by omega);rwa[hdig0 hna,hdig0 hnb]at this
end
end Go.Num
namespace Go.Eng
section
open Go Go.Num
variable{w:World}{K:Value->World->Prop}{cs:List Value}{G:Nat->Prop}{T:TypeId}{i:Nat}{n:Nat}{v:Value}{w':World}{P:Program}{c:UInt8}{S:Nat->Prop}
mutual
def iP:JV->Bool
 |.mk k _ _ xs _=> !decide (k=1)&&zA xs
def zA:List JV->Bool
 |[]=>true
 |x::xs=>iP x&&zA xs
end
mutual
def pJ:JV->Int
 |.mk _ _ _ xs _=>kO xs 1
def kO:List JV->Int->Int
 |[],n=>n
 |x::xs,n=>if n<=2000 then kO xs (IntKind.i64.wrap (n+pJ x))else n
end
mutual
def oL:JV->Nat->Bool
 |.mk _ _ _ xs _,m=>match m with|0=>false|m+1=>yO xs m
def yO:List JV->Nat->Bool
 |[],_=>true
 |x::xs,m=>oL x m&&yO xs m
end
def iQ:List Str->Bool
 |[]=>true
 |[a]=>decide (a.length<=16384)
 |a::b::r=>decide (a.length<=16384)&&Op.bytesLess a b&&iQ (b::r)
def mO(k:Int)(b:Bool)(t:Str)(n:Nat)(ks:List Str):Bool:=
 decide (0<=k)&&decide (k<=6)&&(!b||decide (k=2))&&(decide (t=[])||decide (k=3)||decide (k=4))&&(decide (n=0)||decide (5<=k))&&(decide (k=6)||decide (ks=[]))&&
  (!decide (k=3)||goodN t)&&(!decide (k=4)||decide (t.length<=16384))&&(!decide (k=6)||decide (ks.length=n))&&iQ ks
mutual
def oD:JV->Bool
 |.mk k b t xs ks=>mO k b t xs.length ks&&oF xs
def oF:List JV->Bool
 |[]=>true
 |x::xs=>oD x&&oF xs
end
def dL(v:JV):Bool:=decide (pJ v<=2000)&&oL v 24&&oD v
mutual
def BE:JV->JV->Bool
 |.mk k b t xs ks,.mk k' b' t' xs' ks'=>decide (k=k')&&decide (b=b')&&decide (t=t')&&decide (ks=ks')&&sT xs xs'
def sT:List JV->List JV->Bool
 |[],[]=>true
 |x::xs,y::ys=>BE x y&&sT xs ys
 |_,_=>false
end
mutual
theorem same_iff:∀(a b:JV),BE a b=true↔a=b
 |.mk k b t xs ks,.mk k' b' t' xs' ks'=>by
  have:=uC xs xs'
  simp only[BE,aJ,bB,this,JV.mk.injEq]
  constructor
  ·rintro⟨⟨⟨⟨h1,h2⟩,h3⟩,h4⟩,h5⟩;exact⟨h1,h2,h3,h5,h4⟩
  ·rintro⟨h1,h2,h3,h5,h4⟩;exact⟨⟨⟨⟨h1,h2⟩,h3⟩,h4⟩,h5⟩
theorem uC:∀(a b:List JV),sT a b=true↔a=b
 |[],[]=>by simp[sT]
 |[],_::_=>by simp[sT]
 |_::_,[]=>by simp[sT]
 |x::xs,y::ys=>by simp[sT,same_iff x y,uC xs ys]
end
theorem ME:∀{xs ys:List JV},xs.length≠ys.length->sT xs ys=false:=by
 intro xs ys h;cases hs:sT xs ys with
 |false=>rfl
 |true=>exact absurd (by rw[(uC _ _).1 hs]) h
def Cd(a b:Int):Int:=if a<b then-1 else if b<a then 1 else 0
def Ej(a b:Str):Int:=if Op.bytesLess a b then-1 else if a=b then 0 else 1
def AD(b:Bool):Int:=if b then 1 else 0
def orI(a b:Int):Int:=if a=0 then b else a
def yP:List Str->List Str->Int
 |[],[]=>0
 |[],_::_=>-1
 |_::_,[]=>1
 |a::r,b::s=>orI (Ej a b) (yP r s)
mutual
def KJ:JV->JV->Int
 |.mk k b t xs ks,v=>
  orI (Cd k v.k) (if k=2 then Cd (AD b) (AD v.b)
  else if k=3 then wV t v.t
  else if k=4 then Ej t v.t
  else orI (yP ks v.ks) (cmpL xs v.xs))
def cmpL:List JV->List JV->Int
 |[],[]=>0
 |[],_::_=>-1
 |_::_,[]=>1
 |x::xs,y::ys=>orI (KJ x y) (cmpL xs ys)
end
theorem Pm(a:Str):Op.bytesLess a a=false:=by
 induction a with
 |nil=>rfl
 |cons x a ih=>simp[Op.bytesLess,ih]
theorem lY{k:Int}{b:Bool}{t:Str}{ks:List Str}(h:mO k b t n ks=true):
  0<=k/\k<=6/\(b=true->k=2)/\(t≠[]->k=3\/k=4)/\(n≠0->5<=k)/\(ks≠[]->k=6)/\(k=3->goodN t=true)/\(k=4->t.length<=16384)/\(k=6->ks.length=n)/\iQ ks=true:=by
 simp only[mO,aJ,cM,bB,dO,decide_eq_false_iff_not]at h;obtain⟨⟨⟨⟨⟨⟨⟨⟨⟨h1,h2⟩,h3⟩,h4⟩,h5⟩,h6⟩,h7⟩,h8⟩,h9⟩,h10⟩:=h;refine⟨h1,h2,λe=>?_,λe=>?_,λe=>?_,λe=>?_,λe=>?_,λe=>?_,λe=>?_,h10⟩
 ·rcases h3 with h3|h3
  ·rw[e]at h3;cases h3
  ·exact h3
 ·rcases h4 with(h4|h4)|h4
  ·exact absurd h4 e
  ·exact .inl h4
  ·exact .inr h4
 ·exact h5.resolve_left e
 ·exact h6.resolve_right e
 ·exact h7.resolve_left λh=>h e
 ·exact h8.resolve_left λh=>h e
 ·exact h9.resolve_left λh=>h e
theorem JV.ind'{p:JV->Prop}(h:∀v,(∀x∈v.xs,p x)->p v)(v:JV):p v:=JV.ind (λk b t xs ks ih=>h (.mk k b t xs ks) ih) v
theorem AX(v:JV):iP v=(!decide (v.k=1)&&zA v.xs):=by cases v;rfl
theorem uA(v:JV):pJ v=kO v.xs 1:=by cases v;rfl
theorem rW(v:JV):oL v 0=false:=by cases v;rfl
theorem kR(v:JV)(m:Nat):oL v (m+1)=yO v.xs m:=by cases v;rfl
theorem lG(v:JV):oD v=(mO v.k v.b v.t v.xs.length v.ks&&oF v.xs):=by cases v;rfl
theorem Oy(a b:JV):BE a b=(decide (a.k=b.k)&&decide (a.b=b.b)&&decide (a.t=b.t)&&decide (a.ks=b.ks)&&sT a.xs b.xs):=by cases a;cases b;rfl
theorem Uv(a v:JV):KJ a v=orI (Cd a.k v.k) (if a.k=2 then Cd (AD a.b) (AD v.b)else if a.k=3 then wV a.t v.t else if a.k=4 then Ej a.t v.t else orI (yP a.ks v.ks) (cmpL a.xs v.xs)):=by cases a;rfl
theorem Dq(xs:List JV):zA xs=xs.all iP:=by
 induction xs with
 |nil=>rfl
 |cons x xs ih=>simp[zA,ih]
theorem mD(xs:List JV)(m:Nat):yO xs m=xs.all (oL · m):=by
 induction xs with
 |nil=>rfl
 |cons x xs ih=>simp[yO,ih]
theorem rG(xs:List JV):oF xs=xs.all oD:=by
 induction xs with
 |nil=>rfl
 |cons x xs ih=>simp[oF,ih]
theorem uM{α:Type}{p:α->Bool}{xs:List α}{x:α}(hi:xs[i]?=some x):(xs.take (i+1)).all p=((xs.take i).all p&&p x):=by
 rw[eP,hi];simp
theorem Zq{α:Type}{p:α->Bool}{xs:List α}{x:α}(hi:xs[i]?=some x)(h:p x=false):xs.all p=false:=by
 rw[List.all_eq_false];exact⟨x,bK hi,by simp[h]⟩
def wP:List Str->Str->Option Nat
 |[],_=>none
 |a::r,k=>if a=k then some 0 else(wP r k).map (· +1)
theorem xP{ks:List Str}{k:Str}(h:wP ks k=some i):ks[i]?=some k:=by
 induction ks generalizing i with
 |nil=>cases h
 |cons a r ih=>
  simp only[wP]at h;split at h
  ·rename_i e;cases h;simp[e]
  ·rw[Option.map_eq_some_iff]at h;obtain⟨j,hj,rfl⟩:=h;simpa using ih hj
theorem Nf{ks:List Str}{k:Str}:wP ks k=none↔k∉ks:=by
 induction ks with
 |nil=>simp[wP]
 |cons a r ih=>
  simp only[wP,bW,not_or];split
  ·rename_i e;simp[e]
  ·rename_i e;simp only[Option.map_eq_none_iff,ih];exact⟨λh=>⟨λe'=>e e'.symm,h⟩,λh=>h.2⟩
def Eg(v:JV)(k:Str):Option JV:=if v.k=6 then(match wP v.ks k with|some i=>v.xs[i]?|none=>none)else none
def aBl(l:List (Str×JV))(k:Str):List (Str×JV):=l.filter λp=> !decide (p.1=k)
def mkO(l:List (Str×JV)):JV:=.mk 6 false [] (l.map (·.2)) (l.map (·.1))
def insP:List (Str×JV)->Str->JV->List (Str×JV)
 |[],k,x=>[(k,x)]
 |(a,y)::r,k,x=>if Op.bytesLess k a then(k,x)::(a,y)::r else(a,y)::insP r k x
def Xy(v:JV)(k:Str)(x:JV):JV:=if v.k=6 then mkO (insP (aBl (v.ks.zip v.xs) k) k x)else mkO [(k,x)]
theorem QT{α:Type}[DecidableEq α]{a b:List α}{x y:α}(hx:a[i]?=some x)(hy:b[i]?=some y)(h:x≠y):a≠b:=by
 rintro rfl;rw[hx]at hy;cases hy;exact h rfl
theorem Lb{α:Type}{a b:List α}{x:α}(h:a.take i=b.take i)(hx:a[i]?=some x)(hy:b[i]?=some x):a.take (i+1)=b.take (i+1):=by
 rw[eP,eP,h,hx,hy]
theorem JK{xs ys:List JV}(hl:xs.length=ys.length){x y:JV}(hx:xs[i]?=some x)(hy:ys[i]?=some y)(h:BE x y=false):sT xs ys=false:=by
 cases hs:sT xs ys with
 |false=>rfl
 |true=>
  have:=(uC _ _).1 hs;subst this;rw[hx]at hy;cases hy;rw[(same_iff x x).2 rfl]at h;cases h
end
section
open Go
variable{w:World}{K:Value->World->Prop}{cs:List Value}{G:Nat->Prop}{T:TypeId}{i:Nat}{n:Nat}{v:Value}{w':World}{P:Program}{c:UInt8}{S:Nat->Prop}
theorem jG{t e:TypeId}{size bytes:Nat}(hT:sF P t e size bytes){base:Nat}{x:Value}{m:Nat}{xs news:List Value}{ty:TypeId}
  (hown:Own w base e size v n xs)(hx:SlAt w T x m news)(hl:news.length=m*size)(h1:∀u∈news,gH u=true)(hlen:n+m<=4611686018427387904)(hb:(n+m)*bytes<=140737488355328)(hbase:base<=w.heap.size)
  (hK:∀v' w',Own w' base e size v' (n+m) (xs++news)->Chg (λk=>v.ownBlock=some k) w w'->(∀k,v'.ownBlock=some k->v.ownBlock=some k\/w.heap.size<=k)->K v' w'):
  dY P (Builtin.append_ #[t,t] ty #[v,x]) w K:=by
 obtain⟨i,z,hi,hz,h2,h3,h4⟩:=hT.get;have hsame:∀{K':Value->World->Prop},dY P (Builtin.append_ #[t,t] ty #[v,x]) w K'->∃v' w',(Builtin.append_ #[t,t] ty #[v,x]).run P w=.ok v' w'/\K' v' w':=by
  intro K' h;unfold dY at h;split at h
  ·rename_i v' w' hr;exact⟨v',w',hr,h⟩
  ·exact h.elim
 obtain⟨v1,w1,hr1,hO1,hc1,hn1⟩:=hsame (kM hT hown hx hl h1 hlen hb hbase λv' w' a b c=>(⟨a,b,c⟩:Own w' base e size v' (n+m) (xs++news)/\Chg (λk=>v.ownBlock=some k) w w'/\(v'=.slice none 0 0↔v=.slice none 0 0/\m=0)));unfold dY;rw[hr1];refine hK v1 w1 hO1 hc1 ?_;obtain⟨hl',⟨rfl,rfl⟩|⟨g,cap,cur,rfl,hbg,hg,hnc,hcm,hcs,htake⟩⟩:=hown
 ·have hnil:xs=[]:=bI (by simpa using hl');subst hnil;obtain⟨v2,w2,hr2,hO2⟩:=hsame (kM hT (base:=w.heap.size) (show Own w w.heap.size e size (.slice none 0 0) 0 []from⟨by simp,.inl ⟨rfl,rfl⟩⟩) hx hl h1 hlen hb (aU _) λv' w' a _ _=>a);rw[hr1]at hr2;cases hr2;intro k hk;exact .inr (hO2.block k hk).1
 ·obtain⟨p,c,rfl,_,hpn,hcells⟩:=hx;cases p with
  |none=>
   obtain⟨rfl,rfl⟩:=hpn rfl;intro k hk;have hn:news=[]:=bI (by simpa using hl);subst hn;have hr:(Builtin.append_ #[t,t] ty #[.slice (some ⟨g,0,none⟩) n cap,.slice none 0 0]).run P w=.ok (.slice (some ⟨g,0,none⟩) n cap) w:=by
    simp[Builtin.append_,run_bind,bH hT.und,fM (show(P.info? e).isSome=true by rw[hi];rfl),Builtin.lenOf,run_pure,Builtin.firstCells,hnc,storeCells]
   rw[hr1]at hr;cases hr;exact .inl hk
  |some a=>
   have hcell:∀j u,news[j]?=some u->w.cell? (a.add j)=some u:=by
    intro j u hu;have hne:news≠[]:=λe=>by subst e;simp at hu
    obtain⟨b,off,c',fr,hp,hb',hcs'⟩:=hcells hne;cases hp;rw[bY,cC,hb',cN,hcs' j (List.getElem?_eq_some_iff.1 hu).1,hu]
   subst h2;by_cases hroom:n+m<=cap
   ·have hfit:n*i.size+news.length<=cur.size:=by rw[hl,hcs,<-lP];exact fX _ hroom
    have hr:=run_append_room (P:=P) w t ty e i hT.und hi g n cap cur hg a m c news hl hcell (λu hu=>yL (h1 u hu)) hroom hfit;rw[hr1]at hr;cases hr;intro k hk;exact .inl (by simpa[Value.ownBlock]using hk)
   ·have holds:∀j u,xs[j]?=some u->w.cell? ((⟨g,0,none⟩:Addr).add j)=some u:=World.ownsRow.cells (base:=base) (e:=e) (size:=i.size) (v:=.slice (some ⟨g,0,none⟩) n cap) (n:=n) ⟨hl',.inr ⟨g,cap,cur,rfl,hbg,hg,hnc,hcm,hcs,htake⟩⟩ rfl;have hr:=run_append_grow (P:=P) w t ty e i z hT.und hi hz ⟨g,0,none⟩ n cap xs hl' holds a m c news hl hcell (by omega) (by omega) (growslice_fits (by omega) (by rw[h3];exact hb));rw[hr1]at hr;cases hr;intro k hk;right;simp[Value.ownBlock]at hk;omega
theorem mY(c:Bool)(u v:Value)(w:World)(B:List Value->Fr->World->Prop):GdW c [u] w (λJ=>J [v] w) B↔∀g,B [bif c then v else u] g w:=by
 constructor
 ·rintro⟨J,h1,h2,h3⟩ g;cases c with
  |true=>exact h3 _ g _ (h1 rfl)
  |false=>exact h3 _ g _ (h2 rfl)
 ·intro h;refine⟨λs w'=>s=[bif c then v else u]/\w'=w,λhc=>⟨by rw[hc];rfl,rfl⟩,λhc=>⟨by rw[hc];rfl,rfl⟩,?_⟩;rintro s g w' ⟨rfl,rfl⟩;exact h g
theorem Hg(g e f:Bool)(w:World)(B:List Value->Fr->World->Prop):
  GdW g [undef] w (λJ=>cP (bif g then .bool e else undef) (bif (g&&e)then .bool f else undef) (.bool false) λt=>J [t] w) B↔∀h,B [bif g then .bool (e&&f)else undef] h w:=by
 cases g with
 |true=>
  rw[<-mY];cases e<;>exact iD
 |false=>
  constructor
  ·rintro⟨J,_,h2,h3⟩ h;exact h3 _ h _ (h2 rfl)
  ·intro h;exact GdW.f h
theorem Jr(g e f:Bool)(w:World)(B:List Value->Fr->World->Prop):
  GdW g [undef] w (λJ=>cP (bif g then .bool e else undef) (.bool true) (bif (g&&!e)then .bool f else undef) λt=>J [t] w) B↔∀h,B [bif g then .bool (e||f)else undef] h w:=by
 cases g with
 |true=>
  rw[<-mY];cases e<;>exact iD
 |false=>
  constructor
  ·rintro⟨J,_,h2,h3⟩ h;exact h3 _ h _ (h2 rfl)
  ·intro h;exact GdW.f h
theorem eU(c e:Bool)(K:Value->Prop):cP (.bool c) (bif c then .bool e else undef) (.bool false) K↔K (.bool (c&&e)):=by cases c<;>exact iD
theorem eR(c e:Bool)(K:Value->Prop):cP (.bool c) (.bool true) (bif !c then .bool e else undef) K↔K (.bool (c||e)):=by cases c<;>exact iD
theorem Pv(c e:Bool):isB (bif c then .bool e else undef) true=(c&&e):=by cases c<;>cases e<;>rfl
theorem Pw(c e:Bool):isB (bif c then .bool e else undef) false=(c&&!e):=by cases c<;>cases e<;>rfl
theorem GdW.look{c:Bool}{A:(List Value->World->Prop)->Prop}{B:List Value->Fr->World->Prop}(e:Bool)(h1:c=true->∀J:List Value->World->Prop,J [.bool e] w->A J)(h2:∀g,B [bif c then .bool e else undef] g w):GdW c [undef] w A B:=by
 refine⟨λs w'=>s=[bif c then .bool e else undef]/\w'=w,λhc=>h1 hc _ ⟨by rw[hc];rfl,rfl⟩,λhc=>⟨by rw[hc];rfl,rfl⟩,?_⟩;rintro s g w' ⟨rfl,rfl⟩;exact h2 g
theorem GdW.act{c:Bool}{A:(List Value->World->Prop)->Prop}{B:List Value->Fr->World->Prop}(e:Bool)(R:World->Prop)(h0:c=false->R w)(h1:c=true->∀J:List Value->World->Prop,(∀w',R w'->J [.bool e] w')->A J)(h2:∀g w',R w'->B [bif c then .bool e else undef] g w'):GdW c [undef] w A B:=by
 refine⟨λs w'=>s=[bif c then .bool e else undef]/\R w',λhc=>h1 hc _ λw' hR=>⟨by rw[hc];rfl,hR⟩,λhc=>⟨by rw[hc];rfl,h0 hc⟩,?_⟩;rintro s g w' ⟨rfl,hR⟩;exact h2 g w' hR
theorem Xf(A:(Value->Prop)->Prop)(B:Value->Prop):GqW false A B↔B undef:=by
 constructor
 ·rintro⟨v,_,h,hb⟩;rw[<-h rfl];exact hb
 ·intro h;exact⟨undef,(λe=>by cases e),λ_=>rfl,h⟩
theorem QC(A:(Value->Prop)->Prop)(B:Value->Prop):GqW true A B↔∃v,A (λx=>x=v)/\B v:=by
 constructor
 ·rintro⟨v,h,_,hb⟩;exact⟨v,h rfl,hb⟩
 ·rintro⟨v,h,hb⟩;exact⟨v,λ_=>h,(λe=>by cases e),hb⟩
theorem yQ(u:List Value)(w:World)(A:(List Value->World->Prop)->Prop)(B:List Value->Fr->World->Prop):GdW false u w A B↔∀g,B u g w:=by
 constructor
 ·rintro⟨J,_,h2,h3⟩ g;exact h3 _ g _ (h2 rfl)
 ·intro h;exact GdW.f h
theorem Pu(c:Bool):isB undef c=false:=rfl
theorem WU(a b:Bool)(K:Value->Prop):eqW .bool false (.bool a) (.bool b) K↔K (.bool (a==b)):=by simp[eqW]
theorem aBa(a b:Bool)(K:Value->Prop):eqW .bool true (.bool a) (.bool b) K↔K (.bool (!(a==b))):=by simp[eqW]
theorem bS(b:Bool)(A B:Prop):aR (.bool b) A B↔(b=true->A)/\(b=false->B):=iD
def aAK:=And.intro @cU<|And.intro @Rk<|And.intro @dA<|And.intro @dZ<|And.intro @wI<|And.intro @Gx<|And.intro @gB<|And.intro @cA<|And.intro @nB<|And.intro @Cx<|
 And.intro @GY<|And.intro @Cw<|And.intro @bL<|And.intro @fL<|And.intro @dW<|And.intro @qK<|And.intro @kS<|And.intro @lM<|And.intro @sA<|And.intro @qJ<|And.intro @tH<|
 And.intro @UA<|And.intro @UD<|And.intro @Md<|And.intro @UB<|And.intro @dI<|And.intro @bP<|And.intro @dM<|And.intro @Ty<|And.intro @OS<|And.intro @Tv<|And.intro @MM<|
 And.intro @Tw<|And.intro @Tx<|And.intro @bJ<|And.intro @qU<|And.intro @TV<|And.intro @GJ<|And.intro @fH<|And.intro @Cr<|And.intro @eD<|And.intro @NO<|And.intro @mE<|
 And.intro @TH<|And.intro @TJ<|And.intro @fT<|And.intro @eM<|And.intro @fG<|And.intro @lS<|And.intro @rH<|And.intro @dR @cX
def aAO:=And.intro @Pu<|And.intro @Xf<|And.intro @QC<|And.intro @yQ<|And.intro @mY<|And.intro @Hg<|And.intro @Jr<|And.intro @eU<|And.intro @eR<|And.intro @Pv<|And.intro @Pw<|And.intro @gX @kL
def aAN:=And.intro @bY<|And.intro @cC<|And.intro @cN<|And.intro @xR<|And.intro @DD<|And.intro @heap_drew @size_drew
def aAM:=And.intro @dH<|And.intro @lI<|And.intro @kI<|And.intro @Bool.and_false<|And.intro @iA<|And.intro @Bool.false_and<|And.intro @Bool.or_true<|
 And.intro @Bool.or_false<|And.intro @yF<|And.intro @lQ<|And.intro @jO @kK
theorem wsv:type_of%aAK:=aAK
theorem wsg:type_of%aAO:=aAO
theorem wsh:type_of%aAN:=aAN
theorem wsl:type_of%aAM:=aAM
universe u
def aAL:=And.intro @bD.{u}<|And.intro @Option.isSome_some.{u}<|And.intro @List.getElem?_toArray.{u}<|And.intro @List.getElem?_cons_zero.{u}<|And.intro @List.getElem?_cons_succ.{u}<|And.intro @aA.{u}<|And.intro @aL.{u}<|And.intro @aW.{u}<|And.intro @aZ.{u}<|And.intro @aF.{u}<|And.intro @cW.{u}<|And.intro @aX @fA
theorem fE:type_of%aAL.{u}:=aAL.{u}
end
end Go.Eng
namespace Go.Proofs.YtghhmpppnmoeoaaGreatDoor
section
open Go Go.Eng
variable{w:World}{K:Value->World->Prop}{cs:List Value}{G:Nat->Prop}{T:TypeId}{i:Nat}{n:Nat}{v:Value}{w':World}{P:Program}{c:UInt8}{S:Nat->Prop}
theorem mixed:Tryz.prog.follows .mixedOrders=true:=by kernel_rfl
end
end Go.Proofs.YtghhmpppnmoeoaaGreatDoor
namespace Go.Eng
section
open Go
variable{w:World}{K:Value->World->Prop}{cs:List Value}{G:Nat->Prop}{T:TypeId}{i:Nat}{n:Nat}{v:Value}{w':World}{P:Program}{c:UInt8}{S:Nat->Prop}
section
variable{P:Program}
def vV(P:Program)(g:FuncId)(caps:List Value)(u:FrameMode)(w:World)(K:World->Prop):Prop:=
 CallsD P g caps.toArray u w λe u' w'=>(∃v,e=.returned v)/\settle u'=.returning/\K w'
def IP:List Oper->Option (Nat×FuncId×List Operand)
 |[o1,o2]=>
  match o1.guard,o2.guard,o1.dst,o1.op,o2.dst,o2.op with
  |none,none,some t,.makeFunc (.func g) first caps,none,.defer c=>
   match first.toList,c.callee,c.args.toList with
   |[],.value (.tmp t'),[]=>bif Nat.beq t t' then some (t,g,caps.toList)else none
   |_,_,_=>none
  |_,_,_,_,_,_=>none
 |_=>none
def MH(P:Program)(fn:Func)(R:Ending->World->Prop)(f:Fr)(w:World):Prop:=Ca P fn.results.toList f w λl=>R (.returned (one l)) w
def IY(P:Program)(pl:cJ)(fn:Func)(R:Ending->World->Prop):Nat->Code->Nat->Fr->World->Prop
 |0,.seq (.region _ ops _) b,i,f,w=>
  match IP ops.toList with
  |some (t,g,caps)=>
   @nT ⟨λch w'=>vV P g (caps.map (ev f)) (.panicking ch) w' λw''=>MH P fn R f w''⟩ P pl b (i+2) (upd f (some t) (.func (.func g) #[] (caps.map (ev f)).toArray)) w
    (λf' w'=>vV P g (caps.map (ev f)) .returning w' λw''=>MH P fn R f' w'') (λ_ _ _=>False) (λf' w'=>vV P g (caps.map (ev f)) .returning w' λw''=>MH P fn R f' w'')
  |none=>False
 |k+1,.seq a b,i,f,w=>@nT ⟨λch w'=>R (.panicked ch) w'⟩ P pl a (i+1) f w (λf' w'=>IY P pl fn R k b (i+1+sX a) f' w') (λ_ _ _=>False) (λf' w'=>MH P fn R f' w')
 |_,_,_,_,_=>False
def aAV(lo t:Nat):ResultVar->Bool
 |.tmp x=>Nat.blt x lo&&!(Nat.beq x t)
 |.cell x _=>Nat.blt x lo&&!(Nat.beq x t)
def Ja(P:Program)(fn:Func)(pl:cJ)(lo gd:Nat):Nat->Code->Nat->Bool
 |0,.seq (.region _ ops draw) b,i=> !draw&&(lk pl.js i).isNone&&
  (match IP ops.toList with
  |some (t,g,_)=>Nat.blt t fn.ntmps&&Nat.beq g gd&&fn.results.toList.all (aAV lo t)&&chk P fn.ntmps pl [] lo b (i+2)
  |none=>false)
 |k+1,.seq a b,i=>(lk pl.js i).isNone&&chk P fn.ntmps pl [] 0 a (i+1)&&Ja P fn pl lo gd k b (i+1+sX a)
 |_,_,_=>false
theorem Pp{agg:Bool}{x:Value}{K K':Value->Prop}(hk:∀v,K v->K' v)(h:ldW agg n x w K):ldW agg n x w K':=by
 cases x with
 |pointer a=>
  cases a with
  |none=>exact h
  |some a=>
   cases agg with
   |true=>obtain⟨l,h1,h2⟩:=h;exact⟨l,h1,hk _ h2⟩
   |false=>obtain⟨l,h1,h2⟩:=h;exact⟨l,h1,hk _ h2⟩
 |_=>exact h
theorem AK{f f':Fr}{w:World}:∀{l:List ResultVar} {K:List Value->Prop},(∀t,(∃r∈l,r=.tmp t\/∃T,r=.cell t T)->f t=f' t)->Ca P l f w K->Ca P l f' w K
 |[],_,_,h=>h
 |r::l,K,h,hk=>by
  have hl:∀t,(∃r∈l,r=.tmp t\/∃T,r=.cell t T)->f t=f' t:=λt ⟨r',hr,e⟩=>h t ⟨r',aS _ hr,e⟩
  cases r with
  |tmp t=>simp only[Ca]at hk⊢;rw[<-h t ⟨_,bC,.inl rfl⟩];exact AK hl hk
  |cell t T=>
   simp only[Ca]at hk⊢
   rw[<-h t ⟨_,bC,.inr ⟨T,rfl⟩⟩]
   obtain⟨h1,h2⟩:=kF.out hk
   rw[h1]
   exact Pp (λv hv=>AK hl hv) h2
theorem wT{fn:Func}{R:Ending->World->Prop}{g:FuncId}{caps:List Value}{u:FrameMode}{f:Fr}{a:Act}(hr:∀(ar:Array Value) (w:World),(callFunc g ar).run P w=.ok (.enter g ar) w)(hu:u≠.run)
  (ha:∀t,(∃r∈fn.results.toList,r=.tmp t\/∃T,r=.cell t T)->f t=a.tmps.getD t undef)(h:vV P g caps u w λw''=>MH P fn R f w''):
  Leaves P fn a.tmps R [{target:=.fn (.func g) caps.toArray,args:=#[]}] u w:=by
 refine leaves_cons (f:=g) (args:=caps.toArray) hu ?_ (h.mono ?_)
 ·have:=hr (#[]++caps.toArray) w;rw[show(#[]++caps.toArray:Array Value)=caps.toArray from by simp]at this;show(callFunc g (#[]++caps.toArray)).run P w=_;rw[show(#[]++caps.toArray:Array Value)=caps.toArray from by simp];exact this
 ·rintro e u' w' ⟨⟨v,rfl⟩,hs,hk⟩;show Leaves P fn a.tmps R [] (settle u') w';rw[hs];have hag:Ag a.tmps.size a.defers (λt=>a.tmps.getD t undef) a:=⟨rfl,rfl,λ_=>rfl⟩;letI:=noX;obtain⟨v',hk',hr'⟩:=sU (fn:=fn) (K:=λv=>R (.returned v) w') hag (AK ha hk);exact⟨v',hr',hk'⟩
theorem KF{l:List Oper}{t:Nat}{g:FuncId}{caps:List Operand}(h:IP l=some (t,g,caps)):∃o1 o2 first cp c,l=[o1,o2]/\o1.guard=none/\o2.guard=none/\o1.dst=some t/\o1.op=.makeFunc (.func g) first cp/\first=#[]/\cp.toList=caps/\o2.dst=none/\o2.op=.defer c/\c.callee=.value (.tmp t)/\c.args=#[]:=by
 unfold IP at h;split at h
 ·rename_i o1 o2;split at h
  ·rename_i t' g' first cp c e1 e2 e3 e4 e5 e6
   split at h
   ·rename_i t'' h1 h2 h3;cases hb:Nat.beq t' t'' with
    |false=>rw[hb]at h;cases h
    |true=>
     rw[hb]at h;simp only[aO,bD,fJ]at h;obtain⟨rfl,rfl,rfl⟩:=h;have:t'=t'':=gL hb;subst this;exact⟨o1,o2,first,cp,c,rfl,e1,e2,e3,e4,by simpa using h1,rfl,e5,e6,h2,by simpa using h3⟩
   ·cases h
  ·cases h
 ·cases h
theorem IX(hm:P.follows .mixedOrders=true){pl:cJ}{fn:Func}{R:Ending->World->Prop}{lo gd:Nat}(hr:∀(ar:Array Value) (w:World),(callFunc gd ar).run P w=.ok (.enter gd ar) w):
  ∀(k:Nat) (c:Code) (i:Nat) (f:Fr) (a:Act) (w:World),Ja P fn pl lo gd k c i=true->Ag fn.ntmps [] f a->IY P pl fn R k c i f w->c.wp P (bodyPostD P fn R) a w:=by
 intro k;induction k with
 |zero=>
  intro c i f a w hc hag h;cases c with
  |seq x b=>
   cases x with
   |region id ops draw=>
    simp only[IY]at h;simp only[Ja,aJ,dO]at hc;obtain⟨⟨hdr,hl⟩,hc⟩:=hc;cases hd:IP ops.toList with
    |none=>simp only[hd]at h
    |some x=>
     obtain⟨t,g,caps⟩:=x;simp only[hd,aJ]at h hc;obtain⟨⟨⟨ht,hg⟩,hres⟩,hchk⟩:=hc;obtain rfl:g=gd:=gL hg;obtain⟨o1,o2,first,cp,cl,hops,g1,g2,d1,p1,rfl,rfl,d2,p2,hcl,hca⟩:=KF hd;subst hdr;refine wp_seq (wp_region_list ?_);have hops':ops=[o1,o2].toArray:=by rw[<-hops]
     subst hops';have htn:t<fn.ntmps:=by simpa using ht
     have hv:(cp.toList.map (ev f)).toArray=cp.map a.eval:=by
      rw[wR hag];apply AC;simp
     show wpList P [o1,o2].toArray _ [o1,o2] a w;letI:=noX;refine GB (K:=λv w'=>v=.func (.func g) #[] (cp.toList.map (ev f)).toArray/\w'=w) hag (by simp[jW,g1]) ?_ ?_ (λ_ _ h=>h.elim)
     ·unfold Hc;rw[p1];exact⟨rfl,rfl⟩
     ·rintro v w' ⟨rfl,rfl⟩;have hag1:=hag.put (d:=some t) (λx hx=>by cases hx;exact htn) (.func (.func g) #[] (cp.toList.map (ev f)).toArray);rw[d1];unfold wpList;rw[aH (by rw[zL hag1];simp[jW,g2])];refine .inl ?_;unfold Oper.wp;have hex:(execOp (a.put (some t) (.func (.func g) #[] (cp.toList.map (ev f)).toArray)).eval o2).run P w'=.ok (.defer {target:=.fn (.func g) (cp.toList.map (ev f)).toArray,args:=#[]}) w':=by
       rw[wR hag1];unfold execOp;rw[p2];have e:ev (upd f (some t) (.func (.func g) #[] (cp.toList.map (ev f)).toArray)) (.tmp t)=.func (.func g) #[] (cp.toList.map (ev f)).toArray:=by
        simp[ev,mQ]
       simp[resolve,hcl,hca,Deferred.ofValue,run_bind,run_pure,e]
      rw[hex,Oper.upon_defer,d2];clear hex;have hag2:Ag fn.ntmps [{target:=.fn (.func g) (cp.toList.map (ev f)).toArray,args:=#[]}] (upd f (some t) (.func (.func g) #[] (cp.toList.map (ev f)).toArray)) ({(a.put (some t) (.func (.func g) #[] (cp.toList.map (ev f)).toArray))with defers:={target:=.fn (.func g) (cp.toList.map (ev f)).toArray,args:=#[]}::(a.put (some t) (.func (.func g) #[] (cp.toList.map (ev f)).toArray)).defers}.put none undef):=by
       refine⟨?_,hag1.2.1,hag1.2.2⟩;show _::(a.put _ _).defers=_;rw[hag1.1]
      generalize ({(a.put (some t) (.func (.func g) #[] (cp.toList.map (ev f)).toArray))with defers:={target:=.fn (.func g) (cp.toList.map (ev f)).toArray,args:=#[]}::(a.put (some t) (.func (.func g) #[] (cp.toList.map (ev f)).toArray)).defers}.put none undef)=a2 at hag2⊢;show b.wp P (bodyPostD P fn R) a2 w';refine@tG ⟨λch w'=>vV P g (cp.toList.map (ev f)) (.panicking ch) w' λw''=>MH P fn R f w''⟩ P fn.ntmps [{target:=.fn (.func g) (cp.toList.map (ev f)).toArray,args:=#[]}] pl hm b [] lo (i+2) _ a2 w' _ _ _ _ hchk hag2 h (λf' a' w' hag' _ hk=>?_) (λ_ _ _ _ _ _ hk=>hk.elim) (λf' a' w' hag' _ hk=>?_) (λch a' w' hd ht hx=>?_)
      ·show Leaves P fn a'.tmps R a'.defers .returning w';rw[hag'.1];exact wT hr (by simp) (λt _=>(hag'.2.2 t).symm) hk
      ·show Leaves P fn a'.tmps R a'.defers .returning w';rw[hag'.1];exact wT hr (by simp) (λt _=>(hag'.2.2 t).symm) hk
      ·show Leaves P fn a'.tmps R a'.defers (.panicking ch) w';rw[hd];refine wT (f:=f) hr (by simp) (λx hx'=>?_) hx;have hin:x<lo/\x≠t:=by
        obtain⟨r,hrm,hr'⟩:=hx';have:=bN.1 hres r hrm;have h2:(Nat.blt x lo&&!(Nat.beq x t))=true:=by
         rcases hr' with rfl|⟨T,rfl⟩
         ·exact this
         ·exact this
        simp only[aJ,dO]at h2;refine⟨by simpa using h2.1,λe=>?_⟩;rw[e]at h2;have h3:=h2.2;rw[Nat.beq_refl]at h3;cases h3
       have hlt:Nat.ble lo x=false:=by
        cases hb:Nat.ble lo x with
        |false=>rfl
        |true=>exact absurd (cL hin.1 (iK hb)) (Nat.lt_irrefl _)
       rw[ht x (by unfold inS;rw[hlt];rfl)];simp[mQ,hin.2]
   |_=>simp[Ja]at hc
  |_=>simp[Ja]at hc
 |succ k ih=>
  intro c i f a w hc hag h;cases c with
  |seq x y=>
   simp only[IY]at h;simp only[Ja,aJ]at hc;obtain⟨⟨hl,hc1⟩,hc2⟩:=hc;refine wp_seq ?_;letI:HX:=⟨λch w'=>R (.panicked ch) w'⟩;refine tG hm x [] 0 (i+1) f a w _ _ _ _ hc1 hag h (λf' a' w' hag' _ h'=>ih y _ f' a' w' hc2 hag' h') (λ_ _ _ _ _ _ hk=>hk.elim) (λf' a' w' hag' _ hk=>?_) (λch a' w' hd _ hx=>?_)
   ·show Leaves P fn a'.tmps R a'.defers .returning w';rw[hag'.1];obtain⟨v',hk',hr'⟩:=sU (fn:=fn) (K:=λv=>R (.returned v) w') hag' hk;exact⟨v',hr',hk'⟩
   ·show Leaves P fn a'.tmps R a'.defers (.panicking ch) w';rw[hd];exact hx
  |_=>simp[Ja]at hc
def PN(P:Program)(fn:Func)(pl:cJ)(k:Nat)(args:List Value)(w:World)(R:Ending->World->Prop):Prop:=
 match fn.body with
 |some c=>IY P pl fn R k c 0 (fr0 args) w
 |none=>False
def As(P:Program)(fn:Func)(pl:cJ)(lo gd k na:Nat):Bool:=
 match fn.body with
 |some c=>Nat.ble na fn.ntmps&&Ja P fn pl lo gd k c 0
 |none=>false
theorem IL{nt:Nat}{args:List Value}(hle:args.length<=nt):Ag nt [] (fr0 args) {tmps:=args.toArray++Array.replicate (nt-args.toArray.size) undef,defers:=[]}:=by
 refine⟨rfl,by simp;omega,λt=>?_⟩;simp only[gO,Array.getElem?_append,nJ,List.getElem?_toArray,Array.getElem?_replicate,fr0,List.getD_eq_getElem?_getD];split
 ·rfl
 ·rename_i hlt;rw[List.getElem?_eq_none (by omega)];split<;>rfl
theorem Kv{g:FuncId}{fn:Func}{pl:cJ}{args:List Value}{R:Ending->World->Prop}{lo gd k:Nat}(hm:P.follows .mixedOrders=true)(hf:P.funcs[g]?=some fn)(hr:∀(ar:Array Value) (w:World),(callFunc gd ar).run P w=.ok (.enter gd ar) w)
  (hc:As P fn pl lo gd k args.length=true)(h:PN P fn pl k args w R):Calls P g args.toArray w R:=by
 unfold PN at h;unfold As at hc;cases hb:fn.body with
 |none=>rw[hb]at h;exact h.elim
 |some c=>
  rw[hb]at h hc;simp only[aJ]at hc;exact calls_of_wp_defers hf hb (IX hm hr k c 0 _ _ w hc.2 (IL (iK hc.1)) h)
theorem aAR[HX](P:Program)(g:FuncId)(fn:Func)(pl:cJ)(args:List Value)(w:World)(K:Value->World->Prop)(lo gd k na:Nat)(X:Prop)(hk:args.length=na)(hm:P.follows .mixedOrders=true)(hf:P.funcs[g]?=some fn)
  (hc:As P fn pl lo gd k na=true)(he:PN P fn pl k args w (Et K)=X)(hr:∀(az:Array Value) (w:World),(callFunc g az).run P w=.ok (.enter g az) w)(hrd:∀(ar:Array Value) (w:World),(callFunc gd ar).run P w=.ok (.enter gd ar) w)(h:X):aC P g args w K:=by
 unfold aC;rw[hr];exact Kv hm hf hrd (by rw[hk];exact hc) (by rw[he];exact h)
end
section
variable{P:Program}
def HH:List Oper->Option (Nat×Nat)
 |[o1,o2]=>
  match o1.guard,o2.guard,o1.dst,o1.op,o2.dst,o2.op with
  |none,none,some t,.call c,some t2,.assign (.tmp t')=>
   match c.callee,c.args.toList with
   |.builtin .recover,[]=>bif Nat.beq t t' then some (t,t2)else none
   |_,_=>none
  |_,_,_,_,_,_=>none
 |_=>none
theorem JP{l:List Oper}{t t2:Nat}(h:HH l=some (t,t2)):∃o1 o2 c,l=[o1,o2]/\o1.guard=none/\o2.guard=none/\o1.dst=some t/\o1.op=.call c/\o2.dst=some t2/\o2.op=.assign (.tmp t)/\c.callee=.builtin .recover/\c.args=#[]:=by
 unfold HH at h;split at h
 ·rename_i o1 o2;split at h
  ·rename_i t0 c t2' t' e1 e2 e3 e4 e5 e6;split at h
   ·rename_i h1 h2;cases hb:Nat.beq t0 t' with
    |false=>rw[hb]at h;cases h
    |true=>
     rw[hb]at h;simp only[aO,bD,fJ]at h;obtain⟨rfl,rfl⟩:=h;have:t0=t':=gL hb;subst this;exact⟨o1,o2,c,rfl,e1,e2,e3,e4,e5,e6,h1,by simpa using h2⟩
   ·cases h
  ·cases h
 ·cases h
def Ug(P:Program)(fn:Func)(pl:cJ)(args:List Value)(x:Value)(w:World)(K:World->Prop):Prop:=
 match fn.body with
 |some (.seq (.region _ ops _) b)=>
  match HH ops.toList with
  |some (t,t2)=>@nT noX P pl b 2 (upd (upd (fr0 args) (some t) x) (some t2) x) w (λ_ w'=>K w') (λ_ _ _=>False) (λ_ w'=>K w')
  |none=>False
 |_=>False
def Cv(P:Program)(fn:Func)(pl:cJ)(na:Nat):Bool:=
 match fn.body with
 |some (.seq (.region _ ops draw) b)=> !draw&&Nat.ble na fn.ntmps&&fn.results.toList.isEmpty&&
  (match HH ops.toList with
  |some (t,t2)=>Nat.blt t fn.ntmps&&Nat.blt t2 fn.ntmps&&chk P fn.ntmps pl [] 0 b 2
  |none=>false)
 |_=>false
inductive Finds:FrameMode->Value->Prop
 |idle:Finds .returning .nilIface
 |thrown (v:Value):Finds (.panicking [{v,recovered:=false}]) v
theorem DC{g:FuncId}{fn:Func}{pl:cJ}{args:List Value}{x:Value}{u:FrameMode}{K:World->Prop}(hm:P.follows .mixedOrders=true)(hf:P.funcs[g]?=some fn)(hc:Cv P fn pl args.length=true)
  (hu:Finds u x)(h:Ug P fn pl args x w K):vV P g args u w K:=by
 unfold Ug at h;unfold Cv at hc;split at h
 ·rename_i id ops draw b hb;rw[hb]at hc;simp only[aJ,dO]at hc;obtain⟨⟨⟨hd,hle⟩,hres⟩,hc⟩:=hc;subst hd;cases ho:HH ops.toList with
  |none=>simp only[ho]at h
  |some y=>
   obtain⟨t,t2⟩:=y;simp only[ho,aJ]at h hc;obtain⟨⟨ht,ht2⟩,hchk⟩:=hc;obtain⟨o1,o2,c,hops,g1,g2,d1,p1,d2,p2,hcl,hca⟩:=JP ho;have hops':ops=#[o1,o2]:=by
    apply AC;rw[hops]
   subst hops';letI:=noX;have hr0:∀tmps w,(results fn tmps).run P w=.ok (.tuple #[]) w:=by
    intro tmps w;have h1:fn.results.toList=[]:=by simpa using hres
    obtain⟨v,hv,hr⟩:=sU (P:=P) (fn:=fn) (n:=tmps.size) (D:=[]) (f:=λt=>tmps.getD t undef) (a:={tmps:=tmps,defers:=[]}) (w:=w) (K:=λv=>v=.tuple #[]) ⟨rfl,rfl,λ_=>rfl⟩ (by rw[h1];rfl);rw[hr,hv]
   have hag:=IL (nt:=fn.ntmps) (args:=args) (iK hle);have ht:t<fn.ntmps:=by simpa using ht
   have ht2:t2<fn.ntmps:=by simpa using ht2
   refine callsD_of_wpS hf hb λc₀ cs hmode=>?_;generalize ({tmps:=args.toArray++Array.replicate (fn.ntmps-args.toArray.size) undef,defers:=[]}:Act)=a0 at hag⊢;have hag1:=hag.put (d:=some t) (λy hy=>by cases hy;exact ht) x;have hag2:=hag1.put (d:=some t2) (λy hy=>by cases hy;exact ht2) x;have w1:Region.wanted o1 (yielded #[o1,o2] a0.tmps)=true:=by
    have:=zL (ops:=[o1,o2]) (o:=o1) hag;rw[show([o1,o2]:List Oper).toArray=#[o1,o2]from rfl]at this;rw[this];simp[jW,g1]
   have w2:Region.wanted o2 (yielded #[o1,o2] (a0.put (some t) x).tmps)=true:=by
    have:=zL (ops:=[o1,o2]) (o:=o2) hag1;rw[show([o1,o2]:List Oper).toArray=#[o1,o2]from rfl]at this;rw[this];simp[jW,g2]
   have e1:(execOp a0.eval o1).run P w=.ok .recover w:=by
    unfold execOp;rw[p1];simp[resolve,hcl,hca,invoke,builtin,run_bind,run_pure]
   have e2:(execOp (a0.put (some t) x).eval o2).run P w=.ok (.value x) w:=by
    rw[wR hag1];unfold execOp;rw[p2];have e:ev (upd (fr0 args) (some t) x) (.tmp t)=x:=by simp[ev,mQ]
    simp[run_pure,e]
   have rest:∀u':FrameMode,settle u'=.returning->b.wpS P (bodyPostS P fn c₀ cs λe u' w'=>(∃v,e=.returned v)/\settle u'=.returning/\K w') ((a0.put (some t) x).put (some t2) x) ({c₀ with mode:=u'}::cs) w:=by
    intro u' hs;refine wpS_of_wp ?_;refine@tG noX P fn.ntmps [] pl hm b [] 0 2 _ _ w _ _ _ _ hchk hag2 h (λf' a' w' hag' _ hk=>?_) (λ_ _ _ _ _ _ hk=>hk.elim) (λf' a' w' hag' _ hk=>?_) (λch a' w' hd ht hx=>hx.elim)
    ·exact⟨hag'.1,u',rfl,_,hr0 _ _,⟨_,rfl⟩,hs,hk⟩
    ·exact⟨hag'.1,u',rfl,_,hr0 _ _,⟨_,rfl⟩,hs,hk⟩
   refine wpS_seq (wpS_region ?_);show wpOpsS P #[o1,o2] _ [0,1] a0 (c₀::cs) w;have tail:∀c1:Frame,b.wpS P (bodyPostS P fn c₀ cs λe u' w'=>(∃v,e=.returned v)/\settle u'=.returning/\K w') ((a0.put (some t) x).put (some t2) x) (c1::cs) w->
     wpOpsS P #[o1,o2] (Exit.thenS (b.wpS P (bodyPostS P fn c₀ cs λe u' w'=>(∃v,e=.returned v)/\settle u'=.returning/\K w')) (bodyPostS P fn c₀ cs λe u' w'=>(∃v,e=.returned v)/\settle u'=.returning/\K w')) [1] (a0.put (some t) x) (c1::cs) w:=by
    intro c1 hb1;unfold wpOpsS;rw[show(#[o1,o2]:Array Oper)[1]?=some o2 from rfl];show ite (Region.wanted o2 (yielded #[o1,o2] (a0.put (some t) x).tmps)=true) _ _;rw[aH w2,e2];simp only[Oper.upon_value,d2];exact hb1
   unfold wpOpsS;rw[show(#[o1,o2]:Array Oper)[0]?=some o1 from rfl];show ite (Region.wanted o1 (yielded #[o1,o2] a0.tmps)=true) _ _;rw[aH w1,e1];cases hu with
   |idle=>
    have:recoverD (c₀::cs)=none:=by simp[recoverD,hmode]
    simp only[this,d1];have e:({c₀ with mode:=.returning}:Frame)=c₀:=by rw[<-hmode]
    have:=rest .returning rfl;rw[e]at this;exact tail c₀ this
   |thrown=>
    have:recoverD (c₀::cs)=some (x,{c₀ with mode:=.panicking [{v:=x,recovered:=true}]}::cs):=by simp[recoverD,hmode]
    simp only[this,d1];exact tail _ (rest (.panicking [{v:=x,recovered:=true}]) rfl)
 ·exact h.elim
end
end
end Go.Eng
namespace Go.Proofs.YtghhmpppnmoeoaaGreatDoor
section
open Go Go.Eng
variable{w:World}{K:Value->World->Prop}{cs:List Value}{G:Nat->Prop}{T:TypeId}{i:Nat}{n:Nat}{v:Value}{w':World}{P:Program}{c:UInt8}{S:Nat->Prop}{v0 v1 v2 v3 v4 v5:Value}
abbrev _root_.Q0:=Value->World->Prop
noncomputable abbrev _root_.P0:=Tryz.prog
abbrev _root_.sN:Value:=.slice none 0 0
abbrev _root_.zL0:List Value:=[(i64 0),(.bool false),(str []),sN,sN]
abbrev _root_.zL1:List Value:=[(i64 0),(str []),(i64 0)]
abbrev _root_.zL2:List Value:=[(.bool false),sN]
abbrev _root_.zL3:List Value:=[(i64 0)]
abbrev _root_.zL4:List Value:=[(i64 0),(str []),sN,sN,(i64 0)]
variable [HX]
def YA:cJ:={js:=[(60,⟨[9],[9],12⟩),(62004,⟨[73],[],71⟩),(54,⟨[9,11],[9],11⟩),(44005,⟨[51],[],48⟩),(36,⟨[6,7],[],1⟩),(25006,⟨[30],[],26⟩),(14,⟨[],[2,3,4,5],19⟩)],ds:=[]}
def W26(v0:Value)(w:World)(K:Q0):=gW v0 λt13=>aQ .gtr t13 (i64 16384) λt14=>aR t14 (dD [(i64 0),(str []),(i64 0)] [(0,1,(i64 3))] λc1=>eL 53 (.agg c1.toArray) w λt16 w2=>K (.tuple #[sN,t16]) w2) (dY P0 (Instr.range 9 v0) w λt18 w3=>cZ [] w3 λs4 _ w5 L4=>dY P0 (Instr.next t18 true 0) w5 λt19 w6=>dE 0 t19 λt20=>aR t20 (dE 1 t19 λt21=>dE 2 t19 λt22=>aQ .eql t22 (.int .i32 65533) λt24=>GdW (isB t24 true) [undef] w6 (λJ7=>lN v0 (some t21) none λt28=>aC P0 43 [t28,(str [239,191,189])] w6 λt29 w8=>unW .not t29 λt30=>J7 [t30] w8) λs7 _ w9=>cP t24 (s7.getD 0 undef) (.bool false) λt31=>aR t31 (dD [(i64 0),(str []),(i64 0)] [(0,1,(i64 31)),(2,1,t21)] λc10=>eL 53 (.agg c10.toArray) w9 λt34 w11=>K (.tuple #[sN,t34]) w11) (L4 [] w9)) (cZ [sN,(i64 0)] w6 λs12 _ w13 L12=>lN v0 (some (s12.getD 1 undef)) none λt38=>aC P0 44 [t38] w13 λt39 w14=>dE 0 t39 λt40=>dE 1 t39 λt41=>aQ .add (s12.getD 1 undef) t40 λt44=>aQ .eql t41 (i64 0) λt46=>GdW (isB t46 true) [undef] w14 (λJ15=>gW v0 λt50=>aQ .eql t44 t50 λt51=>J15 [t51] w14) λs15 _ w16=>cP t46 (s15.getD 0 undef) (.bool false) λt52=>aR t52 (dD [(i64 0),(str []),(i64 0)] [(2,1,t44)] λc17=>dN 73 1 [(i64 0),(str []),(i64 0)] [(0,3,(.agg c17.toArray))] w16 λt56 w18=>dY P0 (Builtin.append_ #[64,64] 64 #[(s12.getD 0 undef),t56]) w18 λt57 w19=>K (.tuple #[t57,(.pointer none)]) w19) (bO 73 zL1 w16 λt10 w20=>bU (λJ21=>aQ .eql t41 (i64 0) λt59=>aR t59 (lN v0 (some t44) none λt63=>aC P0 45 [t63] w20 λt64 w22=>dE 0 t64 λt65=>dE 1 t64 λt66=>dE 2 t64 λt67=>stW 3 t10 t65 w22 λw23=>J21 [t67,t66] w23) (J21 [t41,(i64 0)] w20)) λs21 _ w24=>bU (λJ25=>aQ .eql (s21.getD 0 undef) (i64 0) λt69=>GdW (isB t69 true) [undef] w24 (λJ26=>dC (s12.getD 0 undef) λt72=>aQ .eql t72 (i64 4096) λt73=>J26 [t73] w24) λs26 _ w27=>cP t69 (s26.getD 0 undef) (.bool false) λt74=>aR t74 (J25 [(i64 3)] w27) (J25 [(s21.getD 0 undef)] w27)) λs25 _ w28=>aQ .neq (s25.getD 0 undef) (i64 0) λt76=>aR t76 (dD [(i64 0),(str []),(i64 0)] [(0,1,(s25.getD 0 undef)),(2,1,t44)] λc29=>eL 53 (.agg c29.toArray) w28 λt80 w30=>K (.tuple #[sN,t80]) w30) (aY 2 t10 λt82=>stW 1 t82 t44 w28 λw31=>ldW true 3 t10 w31 λt84=>dN 73 1 [(i64 0),(str []),(i64 0)] [(0,3,t84)] w31 λt85 w32=>dY P0 (Builtin.append_ #[64,64] 64 #[(s12.getD 0 undef),t85]) w32 λt86 w33=>aQ .add t44 (s21.getD 1 undef) λt89=>L12 [t86,t89] w33))))
theorem aAr{K:Q0}(h:W26 v0 w K):aC P0 26 [v0] w K:=
 tie _ 26 Tryz.f26 YA _ w K 1 _ rfl mixed Tryz.func26 (by kernel_rfl) (by kernel_rfl) Tryz.call26 h
def Ys:cJ:={js:=[(21,⟨[23],[],6⟩),(6,⟨[4],[],1⟩)],ds:=[]}
def W44(v0:Value)(w:World)(K:Q0):=cZ [(i64 0)] w λs1 _ w2 L1=>gW v0 λt9=>aQ .lss (s1.getD 0 undef) t9 λt10=>aR t10 (lN v0 (some (s1.getD 0 undef)) none λt13=>oO v0 (s1.getD 0 undef) λt18=>aC P0 68 [(str [32,9,13]),t18] w2 λt19 w3=>aQ .geq t19 (i64 0) λt20=>aR t20 (aQ .add (s1.getD 0 undef) (i64 1) λt22=>L1 [t22] w3) (bU (λJ4=>oO v0 (s1.getD 0 undef) λt26=>aQ .eql t26 (.int .u8 35) λt27=>aR t27 (J4 [t27] w3) (aC P0 43 [t13,(str [47,47])] w3 λt29 w5=>J4 [t29] w5)) λs4 _ w6=>aR (s4.getD 0 undef) (aC P0 69 [t13,(.func (.func 70) #[] #[])] w6 λt32 w7=>aQ .add (s1.getD 0 undef) t32 λt33=>L1 [t33] w7) (aC P0 43 [t13,(str [47,42])] w6 λt36 w8=>aR t36 (lN t13 (some (i64 2)) none λt38=>aC P0 71 [t38,(str [42,47])] w8 λt39 w9=>aQ .lss t39 (i64 0) λt41=>aR t41 (K (.tuple #[(s1.getD 0 undef),(i64 40)]) w9) (aQ .add t39 (i64 4) λt45=>aQ .add (s1.getD 0 undef) t45 λt46=>L1 [t46] w9)) (K (.tuple #[(s1.getD 0 undef),(i64 0)]) w8)))) (K (.tuple #[(s1.getD 0 undef),(i64 0)]) w2)
theorem aAj{K:Q0}(h:W44 v0 w K):aC P0 44 [v0] w K:=
 tie _ 44 Tryz.f44 Ys _ w K 1 _ rfl mixed Tryz.func44 (by kernel_rfl) (by kernel_rfl) Tryz.call44 h
def Yr:cJ:={js:=[(8,⟨[6,7],[3,4],6⟩),(38,⟨[43],[],8⟩),(43004,⟨[58],[],57⟩),(40006,⟨[52],[],49⟩)],ds:=[]}
def W45(v0:Value)(w:World)(K:Q0):=bO 73 zL1 w λt2 w1=>bO 73 zL1 w1 λt5 w2=>bU (λJ3=>oO v0 (i64 0) λt10=>aQ .eql t10 (.int .u8 10) λt21=>aR t21 (dD [(i64 0),(str []),(i64 0)] [(0,1,(i64 5)),(1,1,(str [10]))] λc4=>stW 3 t2 (.agg c4.toArray) w2 λw5=>ldW true 3 t2 w5 λr6=>K (.tuple #[r6,(i64 1),(i64 0)]) w5) (aC P0 72 [t10] w2 λt25 w7=>aR t25 (aC P0 69 [v0,(.func (.func 73) #[] #[])] w7 λt27 w8=>lN v0 none (some t27) λt30=>dD [(i64 0),(str []),(i64 0)] [(0,1,(i64 1)),(1,1,t30)] λc9=>stW 3 t5 (.agg c9.toArray) w8 λw10=>aQ .gtr t27 (i64 32) λt33=>aR t33 (J3 [(i64 3),t27] w10) (J3 [(i64 0),t27] w10)) (aC P0 74 [t10] w7 λt36 w11=>aR t36 (aC P0 69 [v0,(.func (.func 74) #[] #[])] w11 λt38 w12=>lN v0 none (some t38) λt41=>dD [(i64 0),(str []),(i64 0)] [(0,1,(i64 2)),(1,1,t41)] λc13=>stW 3 t5 (.agg c13.toArray) w12 λw14=>bU (λJ15=>gW v0 λt46=>aQ .lss t38 t46 λt47=>GdW (isB t47 true) [undef] w14 (λJ16=>oO v0 t38 λt51=>aC P0 72 [t51] w14 λt52 w17=>J16 [t52] w17) λs16 _ w18=>cP t47 (s16.getD 0 undef) (.bool false) λt53=>aR t53 (J15 [t53] w18) (aQ .eql t10 (.int .u8 48) λt55=>GdW (isB t55 true) [undef] w18 (λJ19=>aQ .gtr t38 (i64 1) λt58=>J19 [t58] w18) λs19 _ w20=>cP t55 (s19.getD 0 undef) (.bool false) λt59=>J15 [t59] w20)) λs15 _ w21=>aR (s15.getD 0 undef) (J3 [(i64 40),t38] w21) (aY 1 t5 λt61=>ldW false 1 t61 w21 λt62=>aC P0 75 [t62] w21 λt63 w22=>unW .not t63 λt64=>aR t64 (J3 [(i64 3),t38] w22) (J3 [(i64 0),t38] w22))) (aQ .eql t10 (.int .u8 34) λt67=>aR t67 (aC P0 76 [v0,(i64 0)] w11 λt70 w23=>dE 0 t70 λt71=>dE 1 t70 λt72=>aQ .eql t72 (i64 0) λt74=>aR t74 (aQ .sub t71 (i64 1) λt77=>lN v0 (some (i64 1)) (some t77) λt78=>dD [(i64 0),(str []),(i64 0)] [(0,1,(i64 3)),(1,1,t78)] λc24=>stW 3 t5 (.agg c24.toArray) w23 λw25=>J3 [t72,t71] w25) (J3 [t72,t71] w23)) (aC P0 43 [v0,(str [60,60])] w11 λt82 w26=>aR t82 (aY 0 t5 λt83=>stW 1 t83 (i64 3) w26 λw27=>aC P0 77 [v0] w27 λt86 w28=>dE 0 t86 λt87=>dE 1 t86 λt88=>dE 2 t86 λt89=>aY 1 t5 λt90=>stW 1 t90 t87 w28 λw29=>J3 [t89,t88] w29) (aC P0 78 [v0] w26 λt12 w30=>dD [(i64 0),(str []),(i64 0)] [(0,1,(i64 4)),(1,1,t12)] λc31=>stW 3 t5 (.agg c31.toArray) w30 λw32=>aY 1 t5 λt14=>ldW false 1 t14 w32 λt15=>gW t15 λt16=>aQ .eql t16 (i64 0) λt18=>aR t18 (J3 [(i64 40),t16] w32) (J3 [(i64 0),t16] w32))))))) λs3 _ w33=>ldW true 3 t5 w33 λt91=>stW 3 t2 t91 w33 λw34=>ldW true 3 t2 w34 λr35=>K (.tuple #[r35,(s3.getD 1 undef),(s3.getD 0 undef)]) w34
theorem aAi{K:Q0}(h:W45 v0 w K):aC P0 45 [v0] w K:=
 tie _ 45 Tryz.f45 Yr _ w K 1 _ rfl mixed Tryz.func45 (by kernel_rfl) (by kernel_rfl) Tryz.call45 h
def Yb:cJ:={js:=[(6,⟨[8],[4,5],8⟩)],ds:=[]}
def W69(v0 v1:Value)(w:World)(K:Q0):=gW v0 λt7=>cZ [(i64 0)] w λs1 _ w2 L1=>aQ .lss (s1.getD 0 undef) t7 λt9=>aR t9 (oO v0 (s1.getD 0 undef) λt14=>nU P0 v1 [t14] w2 λt15 w3=>unW .not t15 λt16=>aR t16 (K (s1.getD 0 undef) w3) (aQ .add (s1.getD 0 undef) (i64 1) λt18=>L1 [t18] w3)) (gW v0 λt20=>K t20 w2)
theorem ZS{K:Q0}(h:W69 v0 v1 w K):aC P0 69 [v0,v1] w K:=
 tie _ 69 Tryz.f69 Yb _ w K 2 _ rfl mixed Tryz.func69 (by kernel_rfl) (by kernel_rfl) Tryz.call69 h
def Ya:cJ:={js:=[],ds:=[]}
def W70(v0:Value)(w:World)(K:Q0):=aQ .neq v0 (.int .u8 10) λt4=>K t4 w
theorem ZR{K:Q0}(h:W70 v0 w K):aC P0 70 [v0] w K:=
 tie _ 70 Tryz.f70 Ya _ w K 1 _ rfl mixed Tryz.func70 (by kernel_rfl) (by kernel_rfl) Tryz.call70 h
def XZ:cJ:={js:=[(3004,⟨[19],[],18⟩),(3007,⟨[15],[],10⟩),(3009,⟨[14],[],13⟩),(3012,⟨[12],[],10⟩),(3016,⟨[7],[],6⟩)],ds:=[]}
def W72(v0:Value)(w:World)(K:Q0):=aQ .geq v0 (.int .u8 97) λt4=>GdW (isB t4 true) [undef] w (λJ1=>aQ .leq v0 (.int .u8 122) λt7=>J1 [t7] w) λs1 _ w2=>cP t4 (s1.getD 0 undef) (.bool false) λt8=>GdW (isB t8 false) [undef] w2 (λJ3=>aQ .geq v0 (.int .u8 65) λt11=>J3 [t11] w2) λs3 _ w4=>GdW (isB (s3.getD 0 undef) true) [undef] w4 (λJ5=>aQ .leq v0 (.int .u8 90) λt14=>J5 [t14] w4) λs5 _ w6=>GdW (isB t8 false) [undef] w6 (λJ7=>cP (s3.getD 0 undef) (s5.getD 0 undef) (.bool false) λt15=>J7 [t15] w6) λs7 _ w8=>cP t8 (.bool true) (s7.getD 0 undef) λt16=>GdW (isB t16 false) [undef] w8 (λJ9=>aQ .eql v0 (.int .u8 95) λt19=>J9 [t19] w8) λs9 _ w10=>cP t16 (.bool true) (s9.getD 0 undef) λt20=>K t20 w10
theorem ZQ{K:Q0}(h:W72 v0 w K):aC P0 72 [v0] w K:=
 tie _ 72 Tryz.f72 XZ _ w K 1 _ rfl mixed Tryz.func72 (by kernel_rfl) (by kernel_rfl) Tryz.call72 h
def XY:cJ:={js:=[(3004,⟨[11],[],10⟩),(3008,⟨[7],[],6⟩)],ds:=[]}
def W73(v0:Value)(w:World)(K:Q0):=aC P0 72 [v0] w λt4 w1=>GdW (isB t4 false) [undef] w1 (λJ2=>aC P0 74 [v0] w1 λt7 w3=>J2 [t7] w3) λs2 _ w4=>cP t4 (.bool true) (s2.getD 0 undef) λt8=>GdW (isB t8 false) [undef] w4 (λJ5=>aQ .eql v0 (.int .u8 45) λt11=>J5 [t11] w4) λs5 _ w6=>cP t8 (.bool true) (s5.getD 0 undef) λt12=>K t12 w6
theorem ZP{K:Q0}(h:W73 v0 w K):aC P0 73 [v0] w K:=
 tie _ 73 Tryz.f73 XY _ w K 1 _ rfl mixed Tryz.func73 (by kernel_rfl) (by kernel_rfl) Tryz.call73 h
def XX:cJ:={js:=[(3004,⟨[7],[],6⟩)],ds:=[]}
def W74(v0:Value)(w:World)(K:Q0):=aQ .geq v0 (.int .u8 48) λt4=>GdW (isB t4 true) [undef] w (λJ1=>aQ .leq v0 (.int .u8 57) λt7=>J1 [t7] w) λs1 _ w2=>cP t4 (s1.getD 0 undef) (.bool false) λt8=>K t8 w2
theorem ZO{K:Q0}(h:W74 v0 w K):aC P0 74 [v0] w K:=
 tie _ 74 Tryz.f74 XX _ w K 1 _ rfl mixed Tryz.func74 (by kernel_rfl) (by kernel_rfl) Tryz.call74 h
def XV:cJ:={js:=[(32007,⟨[43],[],38⟩),(6,⟨[6],[],2⟩)],ds:=[]}
def W76(v0 v1:Value)(w:World)(K:Q0):=cZ [(i64 1)] w λs1 _ w2 L1=>gW v0 λt11=>aQ .lss (s1.getD 0 undef) t11 λt12=>aR t12 (oO v0 (s1.getD 0 undef) λt18=>aQ .eql t18 (.int .u8 34) λt19=>aR t19 (aQ .add (s1.getD 0 undef) (i64 1) λt21=>K (.tuple #[t21,(i64 0)]) w2) (oO v0 (s1.getD 0 undef) λt25=>aQ .eql t25 (.int .u8 10) λt26=>aR t26 (K (.tuple #[(i64 0),(i64 40)]) w2) (oO v0 (s1.getD 0 undef) λt30=>aQ .eql t30 (.int .u8 92) λt31=>aR t31 (aQ .add (s1.getD 0 undef) (i64 1) λt33=>gW v0 λt35=>aQ .geq t33 t35 λt36=>GdW (isB t36 false) [undef] w2 (λJ3=>aQ .add (s1.getD 0 undef) (i64 1) λt40=>oO v0 t40 λt41=>aC P0 68 [(str [34,92,110,116,114,36]),t41] w2 λt42 w4=>aQ .lss t42 (i64 0) λt43=>J3 [t43] w4) λs3 _ w5=>cP t36 (.bool true) (s3.getD 0 undef) λt44=>aR t44 (K (.tuple #[(i64 0),(i64 40)]) w5) (aQ .add (s1.getD 0 undef) (i64 2) λt46=>L1 [t46] w5)) (lN v0 (some (s1.getD 0 undef)) none λt50=>aC P0 43 [t50,(str [36,123])] w2 λt51 w6=>aR t51 (aQ .add (s1.getD 0 undef) (i64 1) λt55=>lN v0 (some t55) none λt56=>aQ .add v1 (i64 1) λt58=>aC P0 108 [t56,t58] w6 λt59 w7=>dE 0 t59 λt60=>dE 1 t59 λt61=>aQ .neq t61 (i64 0) λt63=>aR t63 (K (.tuple #[(i64 0),t61]) w7) (aQ .add t60 (i64 1) λt67=>aQ .add (s1.getD 0 undef) t67 λt68=>L1 [t68] w7)) (aQ .add (s1.getD 0 undef) (i64 1) λt14=>L1 [t14] w6))))) (K (.tuple #[(i64 0),(i64 40)]) w2)
theorem ZM{K:Q0}(h:W76 v0 v1 w K):aC P0 76 [v0,v1] w K:=
 tie _ 76 Tryz.f76 XV _ w K 2 _ rfl mixed Tryz.func76 (by kernel_rfl) (by kernel_rfl) Tryz.call76 h
def XU:cJ:={js:=[(61,⟨[13],[13],68⟩),(65,⟨[72],[],72⟩),(51,⟨[],[13],68⟩),(27,⟨[7],[2,3,4,7],9⟩),(16005,⟨[43],[],40⟩),(16011,⟨[37],[],34⟩),(4,⟨[5],[],1⟩),(6004,⟨[20],[],18⟩)],ds:=[]}
def W77(v0:Value)(w:World)(K:Q0):=bU (λJ1=>gW v0 λt15=>aQ .gtr t15 (i64 2) λt16=>GdW (isB t16 true) [undef] w (λJ2=>oO v0 (i64 2) λt19=>aC P0 72 [t19] w λt20 w3=>J2 [t20] w3) λs2 _ w4=>cP t16 (s2.getD 0 undef) (.bool false) λt21=>aR t21 (lN v0 (some (i64 2)) none λt23=>aC P0 69 [t23,(.func (.func 109) #[] #[])] w4 λt24 w5=>J1 [t24] w5) (J1 [(i64 0)] w4)) λs1 _ w6=>aQ .add (i64 2) (s1.getD 0 undef) λt27=>lN v0 (some (i64 2)) (some t27) λt28=>aQ .add (i64 2) (s1.getD 0 undef) λt30=>aQ .eql (s1.getD 0 undef) (i64 0) λt32=>GdW (isB t32 false) [undef] w6 (λJ7=>gW v0 λt36=>aQ .geq t30 t36 λt37=>J7 [t37] w6) λs7 _ w8=>cP t32 (.bool true) (s7.getD 0 undef) λt38=>GdW (isB t38 false) [undef] w8 (λJ9=>oO v0 t30 λt42=>aQ .neq t42 (.int .u8 10) λt43=>J9 [t43] w8) λs9 _ w10=>cP t38 (.bool true) (s9.getD 0 undef) λt44=>aR t44 (K (.tuple #[(str []),(i64 0),(i64 40)]) w10) (aQ .add t30 (i64 1) λt46=>bO 116 [(.pointer none),sN] w10 λt8 w11=>cZ [t46] w11 λs12 _ w13 L12=>lN v0 (some (s12.getD 0 undef)) none λt50=>aC P0 110 [t50,(str [10])] w13 λt51 w14=>dE 0 t51 λt52=>dE 1 t51 λt53=>dE 2 t51 λt54=>aC P0 111 [t52,(str [32,9])] w14 λt56 w15=>aQ .eql t56 t28 λt58=>aR t58 (aC P0 64 [t8] w15 λt59 w16=>gW t52 λt62=>aQ .add (s12.getD 0 undef) t62 λt63=>K (.tuple #[t59,t63,(i64 0)]) w16) (unW .not t54 λt65=>aR t65 (K (.tuple #[(str []),(i64 0),(i64 40)]) w15) (dY P0 (Instr.range 9 t52) w15 λt67 w17=>cZ [] w17 λs18 _ w19 L18=>dY P0 (Instr.next t67 true 0) w19 λt68 w20=>dE 0 t68 λt69=>aR t69 (dE 2 t68 λt70=>bU (λJ21=>bU (λJ22=>aQ .eql t70 (.int .i32 92) λt73=>aR t73 (J22 [t73] w20) (aQ .eql t70 (.int .i32 34) λt74=>aR t74 (J22 [t74] w20) (aQ .eql t70 (.int .i32 36) λt75=>J22 [t75] w20))) λs22 _ w23=>aR (s22.getD 0 undef) (aC P0 62 [t8,(.int .u8 92)] w23 λt76 w24=>J21 [t70] w24) (aQ .eql t70 (.int .i32 9) λt78=>aR t78 (aC P0 62 [t8,(.int .u8 92)] w23 λt79 w25=>J21 [(.int .i32 116)] w25) (aQ .eql t70 (.int .i32 13) λt81=>aR t81 (aC P0 62 [t8,(.int .u8 92)] w23 λt82 w26=>J21 [(.int .i32 114)] w26) (J21 [t70] w23)))) λs21 _ w27=>aC P0 63 [t8,(s21.getD 0 undef)] w27 λt84 w28=>L18 [] w28) (aC P0 66 [t8,(str [92,110])] w20 λt85 w29=>gW t52 λt88=>aQ .add t88 (i64 1) λt89=>aQ .add (s12.getD 0 undef) t89 λt90=>L12 [t90] w29))))
theorem ZL{K:Q0}(h:W77 v0 w K):aC P0 77 [v0] w K:=
 tie _ 77 Tryz.f77 XU _ w K 1 _ rfl mixed Tryz.func77 (by kernel_rfl) (by kernel_rfl) Tryz.call77 h
def XT:cJ:={js:=[(2,⟨[],[],1⟩),(9,⟨[8],[],1⟩)],ds:=[]}
def W78(v0:Value)(w:World)(K:Q0):=bU (λJ1=>gW v0 λt4=>aQ .gtr t4 (i64 1) λt5=>aR t5 (lN v0 none (some (i64 2)) λt7=>bU (λJ2=>aQ .eql t7 (str [61,61]) λt9=>aR t9 (J2 [t9] w) (aQ .eql t7 (str [33,61]) λt10=>aR t10 (J2 [t10] w) (aQ .eql t7 (str [60,61]) λt11=>aR t11 (J2 [t11] w) (aQ .eql t7 (str [62,61]) λt12=>aR t12 (J2 [t12] w) (aQ .eql t7 (str [38,38]) λt13=>aR t13 (J2 [t13] w) (aQ .eql t7 (str [124,124]) λt14=>J2 [t14] w)))))) λs2 _ w3=>aR (s2.getD 0 undef) (lN v0 none (some (i64 2)) λt16=>K t16 w3) (J1 [] w3)) (J1 [] w)) λs1 _ w4=>oO v0 (i64 0) λt18=>aC P0 68 [(str [123,125,91,93,40,41,61,43,45,42,47,37,60,62,33,63,58,44,46]),t18] w4 λt19 w5=>aQ .geq t19 (i64 0) λt20=>aR t20 (lN v0 none (some (i64 1)) λt22=>K t22 w5) (K (str []) w5)
theorem ZK{K:Q0}(h:W78 v0 w K):aC P0 78 [v0] w K:=
 tie _ 78 Tryz.f78 XT _ w K 1 _ rfl mixed Tryz.func78 (by kernel_rfl) (by kernel_rfl) Tryz.call78 h
def Tj:cJ:={js:=[(24,⟨[7,8],[4,5],7⟩),(14,⟨[6],[],2⟩)],ds:=[]}
def aCN(v0 v1:Value)(w:World)(K:Q0):=aQ .gtr v1 (i64 24) λt10=>aR t10 (K (.tuple #[(i64 0),(i64 7)]) w) (cZ [(i64 1)] w λs1 _ w2 L1=>gW v0 λt13=>aQ .lss (s1.getD 0 undef) t13 λt14=>aR t14 (bU (λJ3=>oO v0 (s1.getD 0 undef) λt17=>aQ .eql t17 (.int .u8 125) λt19=>aR t19 (aQ .add (s1.getD 0 undef) (i64 1) λt21=>K (.tuple #[t21,(i64 0)]) w2) (aQ .eql t17 (.int .u8 10) λt23=>aR t23 (K (.tuple #[(i64 0),(i64 40)]) w2) (aQ .eql t17 (.int .u8 123) λt25=>aR t25 (lN v0 (some (s1.getD 0 undef)) none λt29=>aQ .add v1 (i64 1) λt31=>aC P0 108 [t29,t31] w2 λt32 w4=>dE 0 t32 λt33=>dE 1 t32 λt34=>J3 [t33,t34] w4) (aQ .eql t17 (.int .u8 34) λt36=>aR t36 (lN v0 (some (s1.getD 0 undef)) none λt40=>aC P0 76 [t40,v1] w2 λt42 w5=>dE 0 t42 λt43=>dE 1 t42 λt44=>J3 [t43,t44] w5) (J3 [(i64 1),(i64 0)] w2))))) λs3 _ w6=>aQ .neq (s3.getD 1 undef) (i64 0) λt46=>aR t46 (K (.tuple #[(i64 0),(s3.getD 1 undef)]) w6) (aQ .add (s1.getD 0 undef) (s3.getD 0 undef) λt50=>L1 [t50] w6)) (K (.tuple #[(i64 0),(i64 40)]) w2))
theorem Wo{K:Q0}(h:aCN v0 v1 w K):aC P0 108 [v0,v1] w K:=
 tie _ 108 Tryz.f108 Tj _ w K 2 _ rfl mixed Tryz.func108 (by kernel_rfl) (by kernel_rfl) Tryz.call108 h
def Tg:cJ:={js:=[(3004,⟨[11],[],10⟩),(3008,⟨[7],[],6⟩)],ds:=[]}
def aCM(v0:Value)(w:World)(K:Q0):=aC P0 72 [v0] w λt4 w1=>GdW (isB t4 false) [undef] w1 (λJ2=>aC P0 74 [v0] w1 λt7 w3=>J2 [t7] w3) λs2 _ w4=>cP t4 (.bool true) (s2.getD 0 undef) λt8=>GdW (isB t8 false) [undef] w4 (λJ5=>aQ .eql v0 (.int .u8 45) λt11=>J5 [t11] w4) λs5 _ w6=>cP t8 (.bool true) (s5.getD 0 undef) λt12=>K t12 w6
theorem Wn{K:Q0}(h:aCM v0 w K):aC P0 109 [v0] w K:=
 tie _ 109 Tryz.f109 Tg _ w K 1 _ rfl mixed Tryz.func109 (by kernel_rfl) (by kernel_rfl) Tryz.call109 h
end
section
open Go Go.Eng
variable{w:World}{K:Q0}{cs:List Value}{G:Nat->Prop}{T:TypeId}{i:Nat}{n:Nat}{v:Value}{w':World}{P:Program}{c:UInt8}{S:Nat->Prop}{v0 v1 v2 v3 v4 v5:Value}
variable [HX]
def JU:cJ:={js:=[(30,⟨[],[],6⟩),(34003,⟨[40],[],39⟩),(20,⟨[],[],6⟩)],ds:=[(29,⟨[0,1,2,6],[[],[0],[],[2],[2,3],[0,1,2,3,4],[0,1,2,3,4,5],[0,1,2,3,4,5,6]]⟩),(9,⟨[0,1],[[],[],[0],[0,1,2]]⟩)]}
def W10(v0:Value)(w:World)(K:Q0):=
 bO 32 [sN,sN,sN] w λt2 w1=>
 bO 33 [(.pointer none)] w1 λt3 w2=>
 aC P0 26 [v0] w2 λt9 w3=>
 dE 0 t9 λt10=>
 dE 1 t9 λt11=>
 stW 1 t3 t11 w3 λw4=>
 ldW false 1 t3 w4 λt12=>
 eqW .ptr true t12 (.pointer none) λt13=>
 aR t13 (
 dD [sN,sN,sN] [] λc5=>
 ldW false 1 t3 w4.drew λt15=>
 stW 3 t2 (.agg c5.toArray) w4.drew λw6=>
 (ldW false 1 t3 w6 λx=>x=t15)/\
 stW 1 t3 t15 w6 λw7=>
 ldW true 3 t2 w7 λr8=>
 ldW false 1 t3 w7 λr9=>
 K (.tuple #[r8,r9]) w7) (
 letI:HX:=⟨λch x10=>vV P0 27 [t2,t3] (.panicking ch) x10 λw10=>
 ldW true 3 t2 w10 λr11=>
 ldW false 1 t3 w10 λr12=>
 K (.tuple #[r11,r12]) w10⟩
 dD [sN,(i64 0),(i64 0),(.pointer none),(i64 0),(.bool false)] [(0,1,t10),(3,1,t2)] λc13=>
 eL 70 (.agg c13.toArray) w4 λt19 w14=>
 aC P0 28 [t19] w14 λt21 w15=>
 cZ [] w15 λs16 _ w17 L16=>
 aC P0 29 [t19] w17 λt23 w18=>
 kW false 0 1 t23 λt24=>
 aQ .neq t24 (i64 0) λt25=>
 aR t25 (
 aY 2 t2 λt26=>
 ldW false 1 t26 w18.drew λt27=>
 aC P0 30 [t19] w18.drew λt29 w19=>
 (ldW false 1 t26 w19 λx=>x=t27)/\
 dN 3 1 [(i64 0)] [(0,1,t29)] w19 λt30 w20=>
 (ldW false 1 t26 w20 λx=>x=t27)/\
 dY P0 (Builtin.append_ #[30,30] 30 #[t27,t30]) w20 λt31 w21=>
 aY 2 t2 λt32=>
 stW 1 t32 t31 w21 λw22=>
 bU (λJ23=>
 aC P0 29 [t19] w22 λt34 w24=>
 kW false 0 1 t34 λt35=>
 aQ .neq t35 (i64 5) λt37=>
 GdW (isB t37 true) [undef] w24 (λJ25=>
 aQ .neq t35 (i64 0) λt40=>
 J25 [t40] w24)
 λs25 _ w26=>
 cP t37 (s25.getD 0 undef) (.bool false) λt41=>
 aR t41 (
 aC P0 29 [t19] w26 λt43 w27=>
 kW false 2 1 t43 λt44=>
 aC P0 31 [(i64 50),t44] w27 λt45 w28=>
 J23 [] w28) (
 J23 [] w26))
 λs23 _ w29=>
 aC P0 28 [t19] w29 λt47 w30=>
 L16 [] w30) (
 ldW true 3 t2 w18 λt48=>
 stW 3 t2 t48 w18 λw31=>
 stW 1 t3 (.pointer none) w31 λw32=>
 vV P0 27 [t2,t3] .returning w32 λw33=>
 ldW true 3 t2 w33 λr34=>
 ldW false 1 t3 w33 λr35=>
 K (.tuple #[r34,r35]) w33))
theorem aAD(v0:Value)(w:World)(K:Q0):PN P0 Tryz.f10 JU 3 [v0] w (Et K)=W10 v0 w K:=by kernel_rfl
theorem Wm:As P0 Tryz.f10 JU 4 27 3 1=true:=by kernel_rfl
theorem aAC{K:Q0}(h:W10 v0 w K):aC P0 10 [v0] w K:=
 aAR P0 10 Tryz.f10 JU [v0] w K 4 27 3 1 (W10 v0 w K) rfl mixed Tryz.func10 Wm (aAD v0 w K) Tryz.call10 Tryz.call27 h
def OK:cJ:={js:=[],ds:=[(5,⟨[0,1,2],[[],[],[1],[0],[0,1,2,3]]⟩)]}
def R27(v0 v1:Value)(x:Value)(w:World)(K:World->Prop):Prop:=
 letI:HX:=noX
 eqQ P0 .neq 20 false true x .nilIface w λt5=>
 aR t5 (
 dD [sN,sN,sN] [] λc1=>
 mS P0 (Instr.typeAssert x 20 33 false) w.drew λt8=>
 stW 3 v0 (.agg c1.toArray) w.drew λw2=>
 (mS P0 (Instr.typeAssert x 20 33 false) w2 λx=>x=t8)/\
 stW 1 v1 t8 w2 λw3=>
 K w3) (
 K w)
theorem aAF(v0 v1:Value)(x:Value)(w:World)(K:World->Prop):Ug P0 Tryz.f27 OK [v0,v1] x w K=R27 v0 v1 x w K:=by kernel_rfl
theorem Ww:Cv P0 Tryz.f27 OK 2=true:=by kernel_rfl
theorem QA{v0 v1:Value}{x:Value}{u:FrameMode}{K:World->Prop}(hu:Finds u x)(h:R27 v0 v1 x w K):vV P0 27 [v0,v1] u w K:=
 DC (args:=[v0,v1]) mixed Tryz.func27 Ww hu (by rw[aAF];exact h)
def Yz:cJ:={js:=[(1,⟨[],[],1⟩)],ds:=[]}
def W28(v0:Value)(w:World)(K:Q0):=cZ [] w λs1 _ w2 L1=>aC P0 29 [v0] w2 λt3 w3=>kW false 0 1 t3 λt4=>aQ .eql t4 (i64 5) λt5=>aR t5 (dJ v0 λt7=>aY 1 t7 λt8=>ldW false 1 t8 w3 λt9=>aQ .add t9 (i64 1) λt10=>dJ v0 λt11=>aY 1 t11 λt12=>stW 1 t12 t10 w3 λw4=>L1 [] w4) (K (.tuple #[]) w3)
theorem aAq{K:Q0}(h:W28 v0 w K):aC P0 28 [v0] w K:=
 tie _ 28 Tryz.f28 Yz _ w K 1 _ rfl mixed Tryz.func28 (by kernel_rfl) (by kernel_rfl) Tryz.call28 h
def Yy:cJ:={js:=[(4,⟨[],[],3⟩)],ds:=[(16,⟨[0,1,2,3,4,5,6,7],[[],[0],[],[2],[2,3],[2,3,4],[0,1,2,3,4,5],[0,1,2,3,4,5,6],[0,1,2,3,4,5,6,7]]⟩),(14,⟨[0,1,2,3,4,5,6,7,8,9],[[],[0],[0,1],[0,1,2],[],[4],[4,5],[4,5,6],[0,1,2,3,4,5,6,7],[0,1,2,3,4,5,6,7,8],[],[0,1,2,3,4,5,6,7,8,9,10]]⟩),(7,⟨[0,1,2,3,4,5,6,7,8,9,10,11,12,13,14,15,16,17],[[],[0],[0,1],[0,1,2],[0,1,2,3],[0,1,2,3,4],[0,1,2,3,4,5],[0,1,2,3,4,5,6],[0,1,2,3,4,5,6,7],[0,1,2,3,4],[0,1,2,3,4,9],[0,1,2,3,4,9,10],[0,1,2,3,4,9,10,11],[0,1,2,3,4,5,6,7,8,9,10,11,12],[0,1,2,3,4,5,6,7,8,9,10,11,12,13],[0,1,2,3,4,5,6,7,8,9,10,11,12,13,14],[0,1,2,3,4,5,6,7,8,9,10,11,12,13,14,15],[0,1,2,3,4,5,6,7,8,9,10,11,12,13,14,15,16]]⟩)]}
def W29(v0:Value)(w:World)(K:Q0):=bO 73 zL1 w λt2 w1=>cZ [] w1 λs2 _ w3 L2=>dJ v0 λt5=>aY 5 t5 λt6=>ldW false 1 t6 w3.drew λt7=>GqW (isB t7 true) (λk4=>k4 v0) λt9=>GqW (isB t7 true) (λk5=>dJ t9 k5) λt10=>GqW (isB t7 true) (λk6=>aY 0 t10 k6) λt11=>GqW (isB t7 true) (λk7=>ldW false 1 t11 w3.drew k7) λt12=>GqW (isB t7 true) (λk8=>k8 v0) λt13=>GqW (isB t7 true) (λk9=>dJ t13 k9) λt14=>GqW (isB t7 true) (λk10=>aY 1 t14 k10) λt15=>GqW (isB t7 true) (λk11=>ldW false 1 t15 w3.drew k11) λt16=>GqW (isB t7 true) (λk12=>dV none 3 t12 t16 k12) λt17=>GqW (isB t7 true) (λk13=>aY 0 t17 k13) λt18=>GqW (isB t7 true) (λk14=>ldW false 1 t18 w3.drew k14) λt19=>GqW (isB t7 true) (λk15=>aQ .eql t19 (i64 5) k15) λt20=>cP t7 t20 (.bool false) λt21=>aR t21 (dJ v0 λt23=>aY 1 t23 λt24=>ldW false 1 t24 w3.drew λt25=>aQ .add t25 (i64 1) λt26=>dJ v0 λt27=>aY 1 t27 λt28=>stW 1 t28 t26 w3.drew λw16=>L2 [] w16) (dJ v0 λt30=>aY 0 t30 λt31=>ldW false 1 t31 w3.drew.drew λt32=>dJ v0 λt34=>aY 1 t34 λt35=>ldW false 1 t35 w3.drew.drew λt36=>dV none 3 t32 t36 λt37=>ldW true 3 t37 w3.drew.drew λt38=>bO 73 zL1 w3.drew.drew λt3 w17=>(ldW true 3 t37 w17 λx=>x=t38)/\(ldW false 1 t35 w17 λx=>x=t36)/\(ldW false 1 t31 w17 λx=>x=t32)/\stW 3 t3 t38 w17 λw18=>aY 2 t3 λt39=>ldW false 1 t39 w18.drew λt40=>dJ v0 λt42=>aY 2 t42 λt43=>ldW false 1 t43 w18.drew λt44=>aQ .add t40 t44 λt45=>aY 2 t3 λt46=>stW 1 t46 t45 w18.drew λw19=>ldW true 3 t3 w19 λt47=>stW 3 t2 t47 w19 λw20=>ldW true 3 t2 w20 λr21=>K r21 w20)
theorem aAp{K:Q0}(h:W29 v0 w K):aC P0 29 [v0] w K:=
 tie _ 29 Tryz.f29 Yy _ w K 1 _ rfl mixed Tryz.func29 (by kernel_rfl) (by kernel_rfl) Tryz.call29 h
def Yx:cJ:={js:=[(19,⟨[],[],6⟩),(8,⟨[],[],5⟩)],ds:=[(28,⟨[0,1,2,3,4,5,6,7,8,9,10,11,14,15],[[],[0],[0,1],[0,1,2],[],[4],[4,5],[4,5,6],[4,5,6,7],[4,5,6,7,8],[4,5,6,7,8,9],[],[11],[4,5,6,7,8,9,10,11,12],[0,1,2,3,4,5,6,7,8,9,10,11,12,13],[0,1,2,3,4,5,6,7,8,9,10,11,12,13,14],[0,1,2,3,4,5,6,7,8,9,10,11,12,13,14,15]]⟩),(16,⟨[0,1,2,3,8],[[],[0],[],[],[3],[2,3,4],[2,3,4,5],[0,1,2,3,4,5,6],[0,1,2,3,4,5,6,7],[0,1,2,3,4,5,6,7,8]]⟩)]}
def W30(v0:Value)(w:World)(K:Q0):=eL 67 v0 w λt1 w1=>ldW false 1 t1 w1 λt6=>aC P0 46 [t6,(i64 1)] w1 λt7 w2=>bO 73 zL1 w2 λt3 w3=>stW 3 t3 t7 w3 λw4=>aY 1 t3 λt8=>ldW false 1 t8 w4 λt9=>aY 2 t3 λt10=>ldW false 1 t10 w4 λt11=>dD [(str []),sN,sN,sN,(i64 0)] [(0,1,t9),(4,1,t11)] λc5=>bO 86 [(str []),sN,sN,sN,(i64 0)] w4 λt4 w6=>stW 5 t4 (.agg c5.toArray) w6 λw7=>cZ [] w7 λs8 _ w9 L8=>ldW false 1 t1 w9 λt13=>aC P0 29 [t13] w9 λt14 w10=>kW false 0 1 t14 λt15=>aQ .eql t15 (i64 3) λt16=>aR t16 (aY 1 t4 λt17=>ldW false 1 t17 w10.drew λt18=>ldW false 1 t1 w10.drew λt19=>ldW false 1 t1 w10.drew λt20=>aC P0 48 [t20] w10.drew λt21 w11=>(ldW false 1 t1 w11 λx=>x=t19)/\(ldW false 1 t17 w11 λx=>x=t18)/\aC P0 47 [t19,t21] w11 λt22 w12=>(ldW false 1 t17 w12 λx=>x=t18)/\dN 9 1 [(str [])] [(0,1,t22)] w12 λt23 w13=>(ldW false 1 t17 w13 λx=>x=t18)/\dY P0 (Builtin.append_ #[24,24] 24 #[t18,t23]) w13 λt24 w14=>aY 1 t4 λt25=>stW 1 t25 t24 w14 λw15=>L8 [] w15) (ldW false 1 t1 w10 λt26=>aC P0 29 [t26] w10 λt27 w16=>bO 73 zL1 w16 λt5 w17=>stW 3 t5 t27 w17 λw18=>bU (λJ19=>ldW false 1 t1 w18 λt28=>dN 9 1 [(str [])] [(0,1,(str [123]))] w18 λt29 w20=>aC P0 49 [t28,t29] w20 λt30 w21=>unW .not t30 λt31=>aR t31 (aY 2 t5 λt32=>ldW false 1 t32 w21 λt33=>aC P0 31 [(i64 50),t33] w21 λt34 w22=>J19 [] w22) (J19 [] w21)) λs19 _ w23=>ldW false 1 t1 w23 λt35=>aY 2 t5 λt36=>ldW false 1 t36 w23 λt37=>aC P0 50 [t35,t37,(.bool false),(.func (.func 51) #[] #[t1,t4])] w23 λt39 w24=>ldW false 1 t1 w24.drew λt40=>dJ t40 λt41=>aY 3 t41 λt42=>ldW false 1 t42 w24.drew λt43=>ldW false 1 t1 w24.drew λt44=>dJ t44 λt45=>aY 3 t45 λt46=>ldW false 1 t46 w24.drew λt47=>dJ t47 λt48=>aY 1 t48 λt49=>ldW false 1 t49 w24.drew λt50=>ldW true 5 t4 w24.drew λt51=>dN 86 1 [(str []),sN,sN,sN,(i64 0)] [(0,5,t51)] w24.drew λt52 w25=>(ldW false 1 t49 w25 λx=>x=t50)/\(ldW false 1 t46 w25 λx=>x=t47)/\(ldW false 1 t1 w25 λx=>x=t44)/\(ldW false 1 t42 w25 λx=>x=t43)/\(ldW false 1 t1 w25 λx=>x=t40)/\dY P0 (Builtin.append_ #[29,29] 29 #[t50,t52]) w25 λt53 w26=>(ldW false 1 t42 w26 λx=>x=t43)/\(ldW false 1 t1 w26 λx=>x=t40)/\dJ t43 λt54=>aY 1 t54 λt55=>stW 1 t55 t53 w26 λw27=>ldW false 1 t1 w27 λt56=>dJ t56 λt57=>aY 3 t57 λt58=>ldW false 1 t58 w27 λt59=>dJ t59 λt60=>aY 1 t60 λt61=>ldW false 1 t61 w27 λt62=>dC t62 λt63=>aQ .sub t63 (i64 1) λt64=>K t64 w27)
theorem aAo{K:Q0}(h:W30 v0 w K):aC P0 30 [v0] w K:=
 tie _ 30 Tryz.f30 Yx _ w K 1 _ rfl mixed Tryz.func30 (by kernel_rfl) (by kernel_rfl) Tryz.call30 h
def Yw:cJ:={js:=[],ds:=[]}
def W31(v0 v1:Value)(w:World)(K:Q0):=dD [(i64 0),(str []),(i64 0)] [(0,1,v0),(2,1,v1)] λc1=>eL 53 (.agg c1.toArray) w λt7 w2=>MK (.iface 33 t7) w2
theorem aAn{K:Q0}(h:W31 v0 v1 w K):aC P0 31 [v0,v1] w K:=
 tie _ 31 Tryz.f31 Yw _ w K 2 _ rfl mixed Tryz.func31 (by kernel_rfl) (by kernel_rfl) Tryz.call31 h
def Yq:cJ:={js:=[(2,⟨[],[],5⟩)],ds:=[]}
def W46(v0 v1:Value)(w:World)(K:Q0):=bO 73 zL1 w λt4 w1=>bU (λJ2=>aC P0 29 [v0] w1 λt6 w3=>kW false 0 1 t6 λt7=>aQ .neq t7 v1 λt9=>aR t9 (aC P0 29 [v0] w3 λt11 w4=>kW false 2 1 t11 λt12=>aC P0 31 [(i64 50),t12] w4 λt13 w5=>J2 [] w5) (J2 [] w3)) λs2 _ w6=>aC P0 48 [v0] w6 λt15 w7=>stW 3 t4 t15 w7 λw8=>ldW true 3 t4 w8 λr9=>K r9 w8
theorem aAh{K:Q0}(h:W46 v0 v1 w K):aC P0 46 [v0,v1] w K:=
 tie _ 46 Tryz.f46 Yq _ w K 2 _ rfl mixed Tryz.func46 (by kernel_rfl) (by kernel_rfl) Tryz.call46 h
def Yp:cJ:={js:=[(2,⟨[],[],4⟩)],ds:=[]}
def W47(v0 v1:Value)(w:World)(K:Q0):=eL 73 v1 w λt3 w1=>bU (λJ2=>aY 1 t3 λt8=>ldW false 1 t8 w1 λt9=>aC P0 79 [t9] w1 λt10 w3=>dE 0 t10 λt11=>dE 1 t10 λt12=>aQ .geq t11 (i64 0) λt14=>aR t14 (aY 2 t3 λt15=>ldW false 1 t15 w3 λt16=>aC P0 31 [(i64 50),t16] w3 λt17 w4=>J2 [] w4) (J2 [] w3)) λs2 _ w5=>aY 1 t3 λt18=>ldW false 1 t18 w5 λt19=>aC P0 80 [t19] w5 λt20 w6=>K t20 w6
theorem aAg{K:Q0}(h:W47 v0 v1 w K):aC P0 47 [v0,v1] w K:=
 tie _ 47 Tryz.f47 Yp _ w K 2 _ rfl mixed Tryz.func47 (by kernel_rfl) (by kernel_rfl) Tryz.call47 h
def Yo:cJ:={js:=[(4,⟨[],[],4⟩)],ds:=[]}
def W48(v0:Value)(w:World)(K:Q0):=bO 73 zL1 w λt2 w1=>aC P0 29 [v0] w1 λt5 w2=>bO 73 zL1 w2 λt3 w3=>stW 3 t3 t5 w3 λw4=>bU (λJ5=>aY 0 t3 λt6=>ldW false 1 t6 w4 λt7=>aQ .neq t7 (i64 0) λt8=>aR t8 (dJ v0 λt10=>aY 1 t10 λt11=>ldW false 1 t11 w4 λt12=>aQ .add t12 (i64 1) λt13=>dJ v0 λt14=>aY 1 t14 λt15=>stW 1 t15 t13 w4 λw6=>J5 [] w6) (J5 [] w4)) λs5 _ w7=>ldW true 3 t3 w7 λt16=>stW 3 t2 t16 w7 λw8=>ldW true 3 t2 w8 λr9=>K r9 w8
theorem aAf{K:Q0}(h:W48 v0 w K):aC P0 48 [v0] w K:=
 tie _ 48 Tryz.f48 Yo _ w K 1 _ rfl mixed Tryz.func48 (by kernel_rfl) (by kernel_rfl) Tryz.call48 h
def Yn:cJ:={js:=[(5006,⟨[15],[],12⟩)],ds:=[]}
def W49(v0 v1:Value)(w:World)(K:Q0):=aC P0 29 [v0] w λt7 w1=>bO 73 zL1 w1 λt5 w2=>stW 3 t5 t7 w2 λw3=>aY 0 t5 λt8=>ldW false 1 t8 w3 λt9=>aQ .eql t9 (i64 4) λt10=>GdW (isB t10 true) [undef] w3 (λJ4=>aY 1 t5 λt13=>ldW false 1 t13 w3 λt14=>aC P0 81 [v1,t14] w3 λt15 w5=>J4 [t15] w5) λs4 _ w6=>cP t10 (s4.getD 0 undef) (.bool false) λt16=>K t16 w6
theorem aAe{K:Q0}(h:W49 v0 v1 w K):aC P0 49 [v0,v1] w K:=
 tie _ 49 Tryz.f49 Yn _ w K 2 _ rfl mixed Tryz.func49 (by kernel_rfl) (by kernel_rfl) Tryz.call49 h
def Ym:cJ:={js:=[(0,⟨[],[],4⟩)],ds:=[]}
def W50(v0 v1 v2 v3:Value)(w:World)(K:Q0):=bU (λJ1=>dJ v0 λt10=>aY 4 t10 λt11=>ldW false 1 t11 w λt12=>aQ .eql t12 (i64 24) λt13=>aR t13 (aC P0 31 [(i64 7),v1] w λt15 w2=>J1 [] w2) (J1 [] w)) λs1 _ w3=>dJ v0 λt17=>aY 5 t17 λt18=>ldW false 1 t18 w3 λt19=>dJ v0 λt21=>aY 4 t21 λt22=>ldW false 1 t22 w3 λt23=>aQ .add t23 (i64 1) λt24=>dJ v0 λt25=>aY 4 t25 λt26=>stW 1 t26 t24 w3 λw4=>dJ v0 λt29=>aY 5 t29 λt30=>stW 1 t30 v2 w4 λw5=>nU P0 v3 [] w5 λt32 w6=>dJ v0 λt34=>aY 4 t34 λt35=>ldW false 1 t35 w6 λt36=>aQ .sub t36 (i64 1) λt37=>dJ v0 λt38=>aY 4 t38 λt39=>stW 1 t39 t37 w6 λw7=>dJ v0 λt42=>aY 5 t42 λt43=>stW 1 t43 t19 w7 λw8=>K (.tuple #[]) w8
theorem aAd{K:Q0}(h:W50 v0 v1 v2 v3 w K):aC P0 50 [v0,v1,v2,v3] w K:=
 tie _ 50 Tryz.f50 Ym _ w K 4 _ rfl mixed Tryz.func50 (by kernel_rfl) (by kernel_rfl) Tryz.call50 h
def Yl:cJ:={js:=[(15,⟨[],[],2⟩),(17005,⟨[24],[],21⟩),(5,⟨[],[],2⟩)],ds:=[]}
def W51(v0 v1:Value)(w:World)(K:Q0):=ldW false 1 v0 w λt2=>dJ t2 λt3=>aY 1 t3 λt4=>ldW false 1 t4 w λt5=>aQ .add t5 (i64 1) λt6=>dJ t2 λt7=>aY 1 t7 λt8=>stW 1 t8 t6 w λw1=>ldW false 1 v0 w1 λt9=>aC P0 28 [t9] w1 λt10 w2=>cZ [] w2 λs3 _ w4 L3=>ldW false 1 v0 w4 λt11=>aC P0 52 [t11,(str [125])] w4 λt12 w5=>unW .not t12 λt13=>aR t13 (ldW false 1 v0 w5 λt14=>aC P0 53 [t14,v1] w5 λt15 w6=>bU (λJ7=>ldW false 1 v0 w6 λt16=>aC P0 29 [t16] w6 λt17 w8=>kW false 0 1 t17 λt18=>aQ .neq t18 (i64 5) λt19=>GdW (isB t19 true) [undef] w8 (λJ9=>ldW false 1 v0 w8 λt21=>dN 9 1 [(str [])] [(0,1,(str [125]))] w8 λt22 w10=>aC P0 49 [t21,t22] w10 λt23 w11=>unW .not t23 λt24=>J9 [t24] w11) λs9 _ w12=>cP t19 (s9.getD 0 undef) (.bool false) λt25=>aR t25 (ldW false 1 v0 w12 λt26=>aC P0 29 [t26] w12 λt27 w13=>kW false 2 1 t27 λt28=>aC P0 31 [(i64 50),t28] w13 λt29 w14=>J7 [] w14) (J7 [] w12)) λs7 _ w15=>ldW false 1 v0 w15 λt30=>aC P0 28 [t30] w15 λt31 w16=>L3 [] w16) (K (.tuple #[]) w5)
theorem aAc{K:Q0}(h:W51 v0 v1 w K):aC P0 51 [v0,v1] w K:=
 tie _ 51 Tryz.f51 Yl _ w K 2 _ rfl mixed Tryz.func51 (by kernel_rfl) (by kernel_rfl) Tryz.call51 h
def Yk:cJ:={js:=[],ds:=[]}
def W52(v0 v1:Value)(w:World)(K:Q0):=dN 9 1 [(str [])] [(0,1,v1)] w λt7 w1=>aC P0 49 [v0,t7] w1 λt8 w2=>unW .not t8 λt9=>aR t9 (K (.bool false) w2) (dJ v0 λt11=>aY 1 t11 λt12=>ldW false 1 t12 w2 λt13=>aQ .add t13 (i64 1) λt14=>dJ v0 λt15=>aY 1 t15 λt16=>stW 1 t16 t14 w2 λw3=>K (.bool true) w3)
theorem aAb{K:Q0}(h:W52 v0 v1 w K):aC P0 52 [v0,v1] w K:=
 tie _ 52 Tryz.f52 Yk _ w K 2 _ rfl mixed Tryz.func52 (by kernel_rfl) (by kernel_rfl) Tryz.call52 h
def Yj:cJ:={js:=[],ds:=[(12,⟨[0,1,2,3,4,5,9,10],[[],[],[1],[1,2],[1,2,3],[],[5],[5,6],[1,2,3,4,5,6,7],[0,1,2,3,4,5,6,7,8],[0,1,2,3,4,5,6,7,8,9],[0,1,2,3,4,5,6,7,8,9,10]]⟩),(7,⟨[0,1,2,3,4,5,6,7,9,10,11,14,15],[[],[],[1],[1,2],[1,2,3],[],[5],[],[7],[],[9],[5,6,7,8,9,10],[5,6,7,8,9,10,11],[1,2,3,4,5,6,7,8,9,10,11,12],[0,1,2,3,4,5,6,7,8,9,10,11,12,13],[0,1,2,3,4,5,6,7,8,9,10,11,12,13,14],[0,1,2,3,4,5,6,7,8,9,10,11,12,13,14,15]]⟩)]}
def W53(v0 v1:Value)(w:World)(K:Q0):=aC P0 46 [v0,(i64 1)] w λt6 w1=>bO 73 zL1 w1 λt4 w2=>stW 3 t4 t6 w2 λw3=>aC P0 52 [v0,(str [61])] w3 λt8 w4=>aR t8 (dJ v1 λt11=>aY 2 t11 λt12=>ldW false 1 t12 w4.drew λt13=>aY 1 t4 λt14=>ldW false 1 t14 w4.drew λt15=>aY 2 t4 λt18=>ldW false 1 t18 w4.drew λt19=>aC P0 82 [v0] w4.drew λt17 w5=>(ldW false 1 t18 w5 λx=>x=t19)/\(ldW false 1 t14 w5 λx=>x=t15)/\(ldW false 1 t12 w5 λx=>x=t13)/\dD [(str []),(i64 0),(i64 0)] [(0,1,t15),(1,1,t17),(2,1,t19)] λc6=>dN 88 1 [(str []),(i64 0),(i64 0)] [(0,3,(.agg c6.toArray))] w5 λt21 w7=>(ldW false 1 t12 w7 λx=>x=t13)/\dY P0 (Builtin.append_ #[84,84] 84 #[t13,t21]) w7 λt22 w8=>dJ v1 λt23=>aY 2 t23 λt24=>stW 1 t24 t22 w8 λw9=>K (.tuple #[]) w9) (dJ v0 λt26=>aY 1 t26 λt27=>ldW false 1 t27 w4 λt28=>aQ .sub t28 (i64 1) λt29=>dJ v0 λt30=>aY 1 t30 λt31=>stW 1 t31 t29 w4 λw10=>dJ v1 λt34=>aY 3 t34 λt35=>ldW false 1 t35 w10.drew λt36=>aC P0 30 [v0] w10.drew λt38 w11=>(ldW false 1 t35 w11 λx=>x=t36)/\dN 3 1 [(i64 0)] [(0,1,t38)] w11 λt39 w12=>(ldW false 1 t35 w12 λx=>x=t36)/\dY P0 (Builtin.append_ #[30,30] 30 #[t36,t39]) w12 λt40 w13=>dJ v1 λt41=>aY 3 t41 λt42=>stW 1 t42 t40 w13 λw14=>K (.tuple #[]) w14)
theorem aAa{K:Q0}(h:W53 v0 v1 w K):aC P0 53 [v0,v1] w K:=
 tie _ 53 Tryz.f53 Yj _ w K 2 _ rfl mixed Tryz.func53 (by kernel_rfl) (by kernel_rfl) Tryz.call53 h
def XS:cJ:={js:=[(13,⟨[4],[],1⟩),(6,⟨[4],[],1⟩)],ds:=[]}
def W79(v0:Value)(w:World)(K:Q0):=cZ [(i64 0)] w λs1 _ w2 L1=>gW v0 λt7=>aQ .lss (s1.getD 0 undef) t7 λt8=>aR t8 (bU (λJ3=>oO v0 (s1.getD 0 undef) λt13=>aQ .eql t13 (.int .u8 92) λt14=>aR t14 (aQ .add (s1.getD 0 undef) (i64 1) λt16=>J3 [t16] w2) (lN v0 (some (s1.getD 0 undef)) none λt19=>aC P0 43 [t19,(str [36,123])] w2 λt20 w4=>aR t20 (aQ .add (s1.getD 0 undef) (i64 1) λt23=>aQ .add (s1.getD 0 undef) (i64 1) λt26=>lN v0 (some t26) none λt27=>aC P0 112 [t27] w4 λt28 w5=>aQ .add t23 t28 λt29=>K (.tuple #[(s1.getD 0 undef),t29]) w5) (J3 [(s1.getD 0 undef)] w4))) λs3 _ w6=>aQ .add (s3.getD 0 undef) (i64 1) λt10=>L1 [t10] w6) (K (.tuple #[(.int .i64 (-1)),(i64 0)]) w2)
theorem ZJ{K:Q0}(h:W79 v0 w K):aC P0 79 [v0] w K:=
 tie _ 79 Tryz.f79 XS _ w K 1 _ rfl mixed Tryz.func79 (by kernel_rfl) (by kernel_rfl) Tryz.call79 h
def XR:cJ:={js:=[(19,⟨[4,5],[],4⟩),(8,⟨[4],[],4⟩)],ds:=[]}
def W80(v0:Value)(w:World)(K:Q0):=bO 116 [(.pointer none),sN] w λt3 w1=>cZ [(i64 0)] w1 λs2 _ w3 L2=>gW v0 λt8=>aQ .lss (s2.getD 0 undef) t8 λt9=>aR t9 (oO v0 (s2.getD 0 undef) λt14=>bU (λJ4=>aQ .eql t14 (.int .u8 92) λt16=>aR t16 (aQ .add (s2.getD 0 undef) (i64 1) λt18=>oO v0 t18 λt21=>aQ .eql t21 (.int .u8 110) λt24=>aR t24 (J4 [t18,(.int .u8 10)] w3) (aQ .eql t21 (.int .u8 116) λt26=>aR t26 (J4 [t18,(.int .u8 9)] w3) (aQ .eql t21 (.int .u8 114) λt28=>aR t28 (J4 [t18,(.int .u8 13)] w3) (J4 [t18,t21] w3)))) (J4 [(s2.getD 0 undef),t14] w3)) λs4 _ w5=>aC P0 62 [t3,(s4.getD 1 undef)] w5 λt30 w6=>aQ .add (s4.getD 0 undef) (i64 1) λt11=>L2 [t11] w6) (aC P0 64 [t3] w3 λt31 w7=>K t31 w7)
theorem ZI{K:Q0}(h:W80 v0 w K):aC P0 80 [v0] w K:=
 tie _ 80 Tryz.f80 XR _ w K 1 _ rfl mixed Tryz.func80 (by kernel_rfl) (by kernel_rfl) Tryz.call80 h
def XP:cJ:={js:=[],ds:=[(17,⟨[0,1,2,3,4,5,6,7],[[],[],[1],[],[3],[3,4],[3,4,5],[],[0,1,2,3,4,5,6,7]]⟩)]}
def W82(v0:Value)(w:World)(K:Q0):=eL 67 v0 w λt1 w1=>ldW false 1 t1 w1 λt6=>aC P0 114 [t6,(i64 0)] w1 λt7 w2=>ldW false 1 t1 w2 λt8=>aC P0 29 [t8] w2 λt9 w3=>bO 73 zL1 w3 λt4 w4=>stW 3 t4 t9 w4 λw5=>ldW false 1 t1 w5 λt10=>aC P0 52 [t10,(str [63])] w5 λt11 w6=>unW .not t11 λt12=>aR t12 (K t7 w6) (dN 3 3 [(i64 0),(i64 0),(i64 0)] [(0,1,t7),(1,1,(i64 0)),(2,1,(i64 0))] w6 λt15 w7=>bO 30 [sN] w7 λt5 w8=>stW 1 t5 t15 w8 λw9=>ldW false 1 t1 w9.drew λt16=>aY 2 t4 λt17=>ldW false 1 t17 w9.drew λt18=>ldW false 1 t1 w9.drew λt19=>dJ t19 λt20=>aY 5 t20 λt21=>ldW false 1 t21 w9.drew λt22=>aC P0 50 [t16,t18,t22,(.func (.func 115) #[] #[t1,t5])] w9.drew λt24 w10=>ldW false 1 t1 w10 λt25=>ldW false 1 t5 w10 λt26=>aY 2 t4 λt27=>ldW false 1 t27 w10 λt28=>dD [(i64 0),(str []),sN,sN,(i64 0)] [(0,1,(i64 28)),(2,1,t26),(4,1,t28)] λc11=>aC P0 117 [t25,(.agg c11.toArray)] w10 λt30 w12=>K t30 w12)
theorem ZG{K:Q0}(h:W82 v0 w K):aC P0 82 [v0] w K:=
 tie _ 82 Tryz.f82 XP _ w K 1 _ rfl mixed Tryz.func82 (by kernel_rfl) (by kernel_rfl) Tryz.call82 h
def Tf:cJ:={js:=[(15,⟨[3,4],[],1⟩),(8,⟨[3,4],[],1⟩)],ds:=[]}
def aCL(v0:Value)(w:World)(K:Q0):=cZ [(i64 0),(i64 0)] w λs1 _ w2 L1=>gW v0 λt7=>aQ .lss (s1.getD 1 undef) t7 λt8=>aR t8 (bU (λJ3=>oO v0 (s1.getD 1 undef) λt13=>aQ .eql t13 (.int .u8 123) λt15=>aR t15 (aQ .add (s1.getD 0 undef) (i64 1) λt17=>J3 [t17,(s1.getD 1 undef)] w2) (aQ .eql t13 (.int .u8 125) λt19=>aR t19 (aQ .sub (s1.getD 0 undef) (i64 1) λt21=>aQ .eql t21 (i64 0) λt23=>aR t23 (aQ .add (s1.getD 1 undef) (i64 1) λt25=>K t25 w2) (J3 [t21,(s1.getD 1 undef)] w2)) (aQ .eql t13 (.int .u8 34) λt27=>aR t27 (lN v0 (some (s1.getD 1 undef)) none λt31=>aC P0 150 [t31] w2 λt32 w4=>aQ .sub t32 (i64 1) λt33=>aQ .add (s1.getD 1 undef) t33 λt34=>J3 [(s1.getD 0 undef),t34] w4) (J3 [(s1.getD 0 undef),(s1.getD 1 undef)] w2)))) λs3 _ w5=>aQ .add (s3.getD 1 undef) (i64 1) λt10=>L1 [(s3.getD 0 undef),t10] w5) (gW v0 λt36=>K t36 w2)
theorem Wl{K:Q0}(h:aCL v0 w K):aC P0 112 [v0] w K:=
 tie _ 112 Tryz.f112 Tf _ w K 1 _ rfl mixed Tryz.func112 (by kernel_rfl) (by kernel_rfl) Tryz.call112 h
def Td:cJ:={js:=[(13,⟨[5],[],2⟩)],ds:=[]}
def aAB(v0 v1:Value)(w:World)(K:Q0):=aQ .eql v1 (i64 6) λt10=>aR t10 (aC P0 151 [v0] w λt12 w1=>K t12 w1) (aQ .add v1 (i64 1) λt15=>aC P0 114 [v0,t15] w λt16 w2=>cZ [t16] w2 λs3 _ w4 L3=>aC P0 29 [v0] w4 λt18 w5=>bO 73 zL1 w5 λt6 w6=>stW 3 t6 t18 w6 λw7=>ldW true 3 t6 w7 λt19=>aC P0 152 [t19,v1] w7 λt21 w8=>aQ .eql t21 (i64 0) λt23=>aR t23 (K (s3.getD 0 undef) w8) (dJ v0 λt26=>aY 1 t26 λt27=>ldW false 1 t27 w8 λt28=>aQ .add t28 (i64 1) λt29=>dJ v0 λt30=>aY 1 t30 λt31=>stW 1 t31 t29 w8 λw9=>aQ .add v1 (i64 1) λt34=>aC P0 114 [v0,t34] w9 λt35 w10=>dN 3 2 [(i64 0),(i64 0)] [(0,1,(s3.getD 0 undef)),(1,1,t35)] w10 λt40 w11=>aY 2 t6 λt41=>ldW false 1 t41 w11 λt42=>dD [(i64 0),(str []),sN,sN,(i64 0)] [(0,1,t21),(2,1,t40),(4,1,t42)] λc12=>aC P0 117 [v0,(.agg c12.toArray)] w11 λt44 w13=>L3 [t44] w13))
theorem Mj{K:Q0}(h:aAB v0 v1 w K):aC P0 114 [v0,v1] w K:=
 tie _ 114 Tryz.f114 Td _ w K 2 _ rfl mixed Tryz.func114 (by kernel_rfl) (by kernel_rfl) Tryz.call114 h
def Tc:cJ:={js:=[],ds:=[(4,⟨[0,1,3],[[],[],[1],[0,1,2],[0,1,2,3]]⟩),(1,⟨[0,1,3],[[],[],[1],[0,1,2],[0,1,2,3]]⟩)]}
def aCJ(v0 v1:Value)(w:World)(K:Q0):=ldW false 1 v1 w.drew λt2=>ldW false 1 v0 w.drew λt3=>aC P0 82 [t3] w.drew λt4 w1=>(ldW false 1 v1 w1 λx=>x=t2)/\dV none 1 t2 (i64 1) λt5=>stW 1 t5 t4 w1 λw2=>ldW false 1 v0 w2 λt6=>aC P0 116 [t6,(str [58])] w2 λt7 w3=>ldW false 1 v1 w3.drew λt8=>ldW false 1 v0 w3.drew λt9=>aC P0 82 [t9] w3.drew λt10 w4=>(ldW false 1 v1 w4 λx=>x=t8)/\dV none 1 t8 (i64 2) λt11=>stW 1 t11 t10 w4 λw5=>K (.tuple #[]) w5
theorem Wj{K:Q0}(h:aCJ v0 v1 w K):aC P0 115 [v0,v1] w K:=
 tie _ 115 Tryz.f115 Tc _ w K 2 _ rfl mixed Tryz.func115 (by kernel_rfl) (by kernel_rfl) Tryz.call115 h
def SZ:cJ:={js:=[],ds:=[]}
def aCI(v0 v1:Value)(w:World)(K:Q0):=aC P0 52 [v0,v1] w λt6 w1=>unW .not t6 λt7=>aR t7 (aC P0 29 [v0] w1 λt9 w2=>kW false 2 1 t9 λt10=>aC P0 31 [(i64 50),t10] w2 λt11 w3=>K (.tuple #[]) w3) (K (.tuple #[]) w1)
theorem Wi{K:Q0}(h:aCI v0 v1 w K):aC P0 116 [v0,v1] w K:=
 tie _ 116 Tryz.f116 SZ _ w K 2 _ rfl mixed Tryz.func116 (by kernel_rfl) (by kernel_rfl) Tryz.call116 h
def SY:cJ:={js:=[],ds:=[(3,⟨[0,1,2,3,4,5,6,7,8,9,10,11,14,15],[[],[0],[0,1],[0,1,2],[],[4],[4,5],[4,5,6],[4,5,6,7],[4,5,6,7,8],[4,5,6,7,8,9],[],[11],[4,5,6,7,8,9,10,11,12],[0,1,2,3,4,5,6,7,8,9,10,11,12,13],[0,1,2,3,4,5,6,7,8,9,10,11,12,13,14],[0,1,2,3,4,5,6,7,8,9,10,11,12,13,14,15]]⟩)]}
def aCH(v0 v1:Value)(w:World)(K:Q0):=eL 93 v1 w λt3 w1=>dJ v0 λt6=>aY 3 t6 λt7=>ldW false 1 t7 w1.drew λt8=>dJ v0 λt10=>aY 3 t10 λt11=>ldW false 1 t11 w1.drew λt12=>dJ t12 λt13=>aY 0 t13 λt14=>ldW false 1 t14 w1.drew λt15=>ldW true 5 t3 w1.drew λt16=>dN 93 1 [(i64 0),(str []),sN,sN,(i64 0)] [(0,5,t16)] w1.drew λt17 w2=>(ldW false 1 t14 w2 λx=>x=t15)/\(ldW false 1 t11 w2 λx=>x=t12)/\(ldW false 1 t7 w2 λx=>x=t8)/\dY P0 (Builtin.append_ #[28,28] 28 #[t15,t17]) w2 λt18 w3=>(ldW false 1 t7 w3 λx=>x=t8)/\dJ t8 λt19=>aY 0 t19 λt20=>stW 1 t20 t18 w3 λw4=>dJ v0 λt22=>aY 3 t22 λt23=>ldW false 1 t23 w4 λt24=>dJ t24 λt25=>aY 0 t25 λt26=>ldW false 1 t26 w4 λt27=>dC t27 λt28=>aQ .sub t28 (i64 1) λt29=>K t29 w4
theorem Wh{K:Q0}(h:aCH v0 v1 w K):aC P0 117 [v0,v1] w K:=
 tie _ 117 Tryz.f117 SY _ w K 2 _ rfl mixed Tryz.func117 (by kernel_rfl) (by kernel_rfl) Tryz.call117 h
def SA:cJ:={js:=[(13,⟨[3],[],1⟩),(6,⟨[3],[],1⟩)],ds:=[]}
def aCn(v0:Value)(w:World)(K:Q0):=cZ [(i64 1)] w λs1 _ w2 L1=>gW v0 λt6=>aQ .lss (s1.getD 0 undef) t6 λt7=>aR t7 (bU (λJ3=>oO v0 (s1.getD 0 undef) λt13=>aQ .eql t13 (.int .u8 34) λt14=>aR t14 (aQ .add (s1.getD 0 undef) (i64 1) λt16=>K t16 w2) (oO v0 (s1.getD 0 undef) λt20=>aQ .eql t20 (.int .u8 92) λt21=>aR t21 (aQ .add (s1.getD 0 undef) (i64 1) λt23=>J3 [t23] w2) (lN v0 (some (s1.getD 0 undef)) none λt27=>aC P0 43 [t27,(str [36,123])] w2 λt28 w4=>aR t28 (aQ .add (s1.getD 0 undef) (i64 1) λt32=>lN v0 (some t32) none λt33=>aC P0 112 [t33] w4 λt34 w5=>aQ .add (s1.getD 0 undef) t34 λt35=>J3 [t35] w5) (J3 [(s1.getD 0 undef)] w4)))) λs3 _ w6=>aQ .add (s3.getD 0 undef) (i64 1) λt9=>L1 [t9] w6) (gW v0 λt37=>K t37 w2)
theorem VJ{K:Q0}(h:aCn v0 w K):aC P0 150 [v0] w K:=
 tie _ 150 Tryz.f150 SA _ w K 1 _ rfl mixed Tryz.func150 (by kernel_rfl) (by kernel_rfl) Tryz.call150 h
def Sz:cJ:={js:=[(8,⟨[4],[],4⟩)],ds:=[(30,⟨[0,1,2,3,4,5,6,7],[[],[],[1],[],[3],[3,4],[3,4,5],[],[0,1,2,3,4,5,6,7]]⟩)]}
def aCm(v0:Value)(w:World)(K:Q0):=eL 67 v0 w λt1 w1=>ldW false 1 t1 w1 λt6=>aC P0 29 [t6] w1 λt7 w2=>bO 73 zL1 w2 λt3 w3=>stW 3 t3 t7 w3 λw4=>bU (λJ5=>ldW false 1 t1 w4 λt9=>dN 9 1 [(str [])] [(0,1,(str [33]))] w4 λt10 w6=>aC P0 49 [t9,t10] w6 λt11 w7=>aR t11 (J5 [(i64 14)] w7) (ldW false 1 t1 w7 λt13=>dN 9 1 [(str [])] [(0,1,(str [45]))] w7 λt14 w8=>aC P0 49 [t13,t14] w8 λt15 w9=>aR t15 (J5 [(i64 13)] w9) (ldW false 1 t1 w9 λt33=>aC P0 205 [t33] w9 λt34 w10=>K t34 w10))) λs5 _ w11=>bO 3 zL3 w11 λt5 w12=>stW 1 t5 (i64 0) w12 λw13=>ldW false 1 t1 w13.drew λt16=>aY 2 t3 λt17=>ldW false 1 t17 w13.drew λt18=>ldW false 1 t1 w13.drew λt19=>dJ t19 λt20=>aY 5 t20 λt21=>ldW false 1 t21 w13.drew λt22=>aC P0 50 [t16,t18,t22,(.func (.func 204) #[] #[t1,t5])] w13.drew λt24 w14=>ldW false 1 t1 w14 λt25=>ldW false 1 t5 w14 λt27=>dN 3 1 [(i64 0)] [(0,1,t27)] w14 λt28 w15=>aY 2 t3 λt29=>ldW false 1 t29 w15 λt30=>dD [(i64 0),(str []),sN,sN,(i64 0)] [(0,1,(s5.getD 0 undef)),(2,1,t28),(4,1,t30)] λc16=>aC P0 117 [t25,(.agg c16.toArray)] w15 λt32 w17=>K t32 w17
theorem VI{K:Q0}(h:aCm v0 w K):aC P0 151 [v0] w K:=
 tie _ 151 Tryz.f151 Sz _ w K 1 _ rfl mixed Tryz.func151 (by kernel_rfl) (by kernel_rfl) Tryz.call151 h
def Sy:cJ:={js:=[],ds:=[]}
def aCl(v0 v1:Value)(w:World)(K:Q0):=eL 73 v0 w λt2 w1=>aY 0 t2 λt5=>ldW false 1 t5 w1 λt6=>aQ .neq t6 (i64 4) λt7=>aR t7 (K (i64 0) w1) (aQ .mul v1 (i64 100) λt9=>dN 9 13 (List.replicate 13 (str [])) [(0,1,(str [124,124])),(1,1,(str [38,38])),(2,1,(str [61,61])),(3,1,(str [33,61])),(4,1,(str [60])),(5,1,(str [62])),(6,1,(str [60,61])),(7,1,(str [62,61])),(8,1,(str [43])),(9,1,(str [45])),(10,1,(str [42])),(11,1,(str [47])),(12,1,(str [37]))] w1 λt10 w2=>aY 1 t2 λt11=>ldW false 1 t11 w2 λt12=>aC P0 113 [t10,t12] w2 λt13 w3=>aQ .add t9 t13 λt14=>aQ .eql t14 (i64 0) λt16=>aR t16 (K (i64 27) w3) (aQ .eql t14 (i64 101) λt18=>aR t18 (K (i64 26) w3) (aQ .eql t14 (i64 202) λt20=>aR t20 (K (i64 20) w3) (aQ .eql t14 (i64 203) λt22=>aR t22 (K (i64 21) w3) (aQ .eql t14 (i64 304) λt24=>aR t24 (K (i64 22) w3) (aQ .eql t14 (i64 305) λt26=>aR t26 (K (i64 23) w3) (aQ .eql t14 (i64 306) λt28=>aR t28 (K (i64 24) w3) (aQ .eql t14 (i64 307) λt30=>aR t30 (K (i64 25) w3) (aQ .eql t14 (i64 408) λt32=>aR t32 (K (i64 15) w3) (aQ .eql t14 (i64 409) λt34=>aR t34 (K (i64 16) w3) (aQ .eql t14 (i64 510) λt36=>aR t36 (K (i64 17) w3) (aQ .eql t14 (i64 511) λt38=>aR t38 (K (i64 18) w3) (aQ .eql t14 (i64 512) λt40=>aR t40 (K (i64 19) w3) (K (i64 0) w3))))))))))))))
theorem VH{K:Q0}(h:aCl v0 v1 w K):aC P0 152 [v0,v1] w K:=
 tie _ 152 Tryz.f152 Sy _ w K 2 _ rfl mixed Tryz.func152 (by kernel_rfl) (by kernel_rfl) Tryz.call152 h
def RZ:cJ:={js:=[],ds:=[]}
def aB1(v0 v1:Value)(w:World)(K:Q0):=ldW false 1 v0 w λt2=>dJ t2 λt3=>aY 1 t3 λt4=>ldW false 1 t4 w λt5=>aQ .add t5 (i64 1) λt6=>dJ t2 λt7=>aY 1 t7 λt8=>stW 1 t8 t6 w λw1=>ldW false 1 v0 w1 λt9=>aC P0 151 [t9] w1 λt10 w2=>stW 1 v1 t10 w2 λw3=>K (.tuple #[]) w3
theorem Vm{K:Q0}(h:aB1 v0 v1 w K):aC P0 204 [v0,v1] w K:=
 tie _ 204 Tryz.f204 RZ _ w K 2 _ rfl mixed Tryz.func204 (by kernel_rfl) (by kernel_rfl) Tryz.call204 h
def RY:cJ:={js:=[(5,⟨[3],[],2⟩)],ds:=[(31,⟨[0,1,3,6,7,8],[[],[],[1],[1,2],[],[4],[],[6],[1,2,3,4,5,6,7],[0,1,2,3,4,5,6,7,8],[0,1,2,3,4,5,6,7,8,9]]⟩),(13,⟨[0,1,3,6,7,8],[[],[],[1],[1,2],[],[4],[],[6],[1,2,3,4,5,6,7],[0,1,2,3,4,5,6,7,8],[0,1,2,3,4,5,6,7,8,9]]⟩)]}
def aB0(v0:Value)(w:World)(K:Q0):=eL 67 v0 w λt1 w1=>ldW false 1 t1 w1 λt7=>aC P0 236 [t7] w1 λt8 w2=>cZ [t8] w2 λs3 _ w4 L3=>ldW false 1 t1 w4 λt9=>aC P0 29 [t9] w4 λt10 w5=>bO 73 zL1 w5 λt4 w6=>stW 3 t4 t10 w6 λw7=>ldW false 1 t1 w7 λt13=>aC P0 52 [t13,(str [46])] w7 λt14 w8=>aR t14 (ldW false 1 t1 w8.drew λt15=>ldW false 1 t1 w8.drew λt16=>aY 2 t4 λt21=>ldW false 1 t21 w8.drew λt22=>(aC P0 46 [t16,(i64 1)] w8.drew λt17 w9=>(ldW false 1 t21 w9 λx=>x=t22)/\(ldW false 1 t1 w9 λx=>x=t15)/\kW false 1 1 t17 λt18=>(ldW false 1 t21 w9 λx=>x=t22)/\(ldW false 1 t1 w9 λx=>x=t15)/\dN 3 1 [(i64 0)] [(0,1,(s3.getD 0 undef))] w9 λt20 w10=>(ldW false 1 t21 w10 λx=>x=t22)/\(ldW false 1 t1 w10 λx=>x=t15)/\dD [(i64 0),(str []),sN,sN,(i64 0)] [(0,1,(i64 10)),(1,1,t18),(2,1,t20),(4,1,t22)] λc11=>aC P0 117 [t15,(.agg c11.toArray)] w10 λt24 w12=>L3 [t24] w12)/\((ldW false 1 t21 w8.drew λx=>x=t22)/\(ldW false 1 t1 w8.drew λx=>x=t16)/\(ldW false 1 t1 w8.drew λx=>x=t15)/\(aC P0 46 [t16,(i64 1)] w8.drew λt17 w13=>(ldW false 1 t21 w13 λx=>x=t22)/\(ldW false 1 t1 w13 λx=>x=t15)/\kW false 1 1 t17 λt18=>dN 3 1 [(i64 0)] [(0,1,(s3.getD 0 undef))] w13 λt20 w14=>(ldW false 1 t21 w14 λx=>x=t22)/\(ldW false 1 t1 w14 λx=>x=t15)/\dD [(i64 0),(str []),sN,sN,(i64 0)] [(0,1,(i64 10)),(1,1,t18),(2,1,t20),(4,1,t22)] λc15=>aC P0 117 [t15,(.agg c15.toArray)] w14 λt24 w16=>L3 [t24] w16)/\(dN 3 1 [(i64 0)] [(0,1,(s3.getD 0 undef))] w8.drew λt20 w17=>(ldW false 1 t21 w17 λx=>x=t22)/\(ldW false 1 t1 w17 λx=>x=t16)/\(ldW false 1 t1 w17 λx=>x=t15)/\aC P0 46 [t16,(i64 1)] w17 λt17 w18=>(ldW false 1 t21 w18 λx=>x=t22)/\(ldW false 1 t1 w18 λx=>x=t15)/\kW false 1 1 t17 λt18=>dD [(i64 0),(str []),sN,sN,(i64 0)] [(0,1,(i64 10)),(1,1,t18),(2,1,t20),(4,1,t22)] λc19=>aC P0 117 [t15,(.agg c19.toArray)] w18 λt24 w20=>L3 [t24] w20))) (ldW false 1 t1 w8 λt26=>dN 9 1 [(str [])] [(0,1,(str [91]))] w8 λt27 w21=>aC P0 49 [t26,t27] w21 λt28 w22=>aR t28 (bO 3 zL3 w22 λt5 w23=>bO 4 [(.bool false)] w23 λt6 w24=>stW 1 t5 (i64 0) w24 λw25=>stW 1 t6 (.bool false) w25 λw26=>ldW false 1 t1 w26 λt29=>aY 2 t4 λt30=>ldW false 1 t30 w26 λt31=>aC P0 50 [t29,t31,(.bool true),(.func (.func 237) #[] #[t1,t6,t5])] w26 λt33 w27=>ldW false 1 t6 w27 λt34=>unW .not t34 λt35=>aR t35 (ldW false 1 t1 w27 λt36=>ldW false 1 t5 w27 λt38=>dN 3 2 [(i64 0),(i64 0)] [(0,1,(s3.getD 0 undef)),(1,1,t38)] w27 λt39 w28=>aY 2 t4 λt40=>ldW false 1 t40 w28 λt41=>dD [(i64 0),(str []),sN,sN,(i64 0)] [(0,1,(i64 11)),(2,1,t39),(4,1,t41)] λc29=>aC P0 117 [t36,(.agg c29.toArray)] w28 λt43 w30=>L3 [t43] w30) (ldW false 1 t1 w27 λt44=>aC P0 116 [t44,(str [46])] w27 λt45 w31=>ldW false 1 t1 w31.drew λt46=>ldW false 1 t1 w31.drew λt47=>aY 2 t4 λt52=>ldW false 1 t52 w31.drew λt53=>(aC P0 46 [t47,(i64 1)] w31.drew λt48 w32=>(ldW false 1 t52 w32 λx=>x=t53)/\(ldW false 1 t1 w32 λx=>x=t46)/\kW false 1 1 t48 λt49=>(ldW false 1 t52 w32 λx=>x=t53)/\(ldW false 1 t1 w32 λx=>x=t46)/\dN 3 1 [(i64 0)] [(0,1,(s3.getD 0 undef))] w32 λt51 w33=>(ldW false 1 t52 w33 λx=>x=t53)/\(ldW false 1 t1 w33 λx=>x=t46)/\dD [(i64 0),(str []),sN,sN,(i64 0)] [(0,1,(i64 30)),(1,1,t49),(2,1,t51),(4,1,t53)] λc34=>aC P0 117 [t46,(.agg c34.toArray)] w33 λt55 w35=>L3 [t55] w35)/\((ldW false 1 t52 w31.drew λx=>x=t53)/\(ldW false 1 t1 w31.drew λx=>x=t47)/\(ldW false 1 t1 w31.drew λx=>x=t46)/\(aC P0 46 [t47,(i64 1)] w31.drew λt48 w36=>(ldW false 1 t52 w36 λx=>x=t53)/\(ldW false 1 t1 w36 λx=>x=t46)/\kW false 1 1 t48 λt49=>dN 3 1 [(i64 0)] [(0,1,(s3.getD 0 undef))] w36 λt51 w37=>(ldW false 1 t52 w37 λx=>x=t53)/\(ldW false 1 t1 w37 λx=>x=t46)/\dD [(i64 0),(str []),sN,sN,(i64 0)] [(0,1,(i64 30)),(1,1,t49),(2,1,t51),(4,1,t53)] λc38=>aC P0 117 [t46,(.agg c38.toArray)] w37 λt55 w39=>L3 [t55] w39)/\(dN 3 1 [(i64 0)] [(0,1,(s3.getD 0 undef))] w31.drew λt51 w40=>(ldW false 1 t52 w40 λx=>x=t53)/\(ldW false 1 t1 w40 λx=>x=t47)/\(ldW false 1 t1 w40 λx=>x=t46)/\aC P0 46 [t47,(i64 1)] w40 λt48 w41=>(ldW false 1 t52 w41 λx=>x=t53)/\(ldW false 1 t1 w41 λx=>x=t46)/\kW false 1 1 t48 λt49=>dD [(i64 0),(str []),sN,sN,(i64 0)] [(0,1,(i64 30)),(1,1,t49),(2,1,t51),(4,1,t53)] λc42=>aC P0 117 [t46,(.agg c42.toArray)] w41 λt55 w43=>L3 [t55] w43)))) (K (s3.getD 0 undef) w22))
theorem Vl{K:Q0}(h:aB0 v0 w K):aC P0 205 [v0] w K:=
 tie _ 205 Tryz.f205 RY _ w K 1 _ rfl mixed Tryz.func205 (by kernel_rfl) (by kernel_rfl) Tryz.call205 h
def RG:cJ:={js:=[(6,⟨[],[2],5⟩),(23005,⟨[50],[],48⟩)],ds:=[(43,⟨[0,1,3,4],[[],[],[1],[1,2],[],[0,1,2,3,4]]⟩),(42,⟨[0,1,2,4],[[],[0],[],[2],[0,1,2,3],[0,1,2,3,4]]⟩),(13,⟨[0,1,2,4],[[],[0],[],[2],[0,1,2,3],[0,1,2,3,4]]⟩)]}
def aBR(v0:Value)(w:World)(K:Q0):=eL 67 v0 w λt1 w1=>ldW false 1 t1 w1 λt6=>aC P0 29 [t6] w1 λt7 w2=>bO 73 zL1 w2 λt3 w3=>stW 3 t3 t7 w3 λw4=>aY 2 t3 λt8=>ldW false 1 t8 w4 λt9=>dD [(i64 0),(str []),sN,sN,(i64 0)] [(4,1,t9)] λc5=>bO 93 zL4 w4 λt4 w6=>stW 5 t4 (.agg c5.toArray) w6 λw7=>bU (λJ8=>aY 0 t3 λt15=>ldW false 1 t15 w7 λt16=>aQ .eql t16 (i64 2) λt17=>aR t17 (ldW false 1 t1 w7 λt18=>dJ t18 λt19=>aY 1 t19 λt20=>ldW false 1 t20 w7 λt21=>aQ .add t21 (i64 1) λt22=>dJ t18 λt23=>aY 1 t23 λt24=>stW 1 t24 t22 w7 λw9=>aY 1 t3 λt25=>ldW false 1 t25 w9.drew λt26=>aY 0 t4 λt27=>stW 1 t27 (i64 4) w9.drew λw10=>(ldW false 1 t25 w10 λx=>x=t26)/\aY 1 t4 λt28=>stW 1 t28 t26 w10 λw11=>J8 [] w11) (aY 0 t3 λt30=>ldW false 1 t30 w7 λt31=>aQ .eql t31 (i64 3) λt32=>aR t32 (ldW false 1 t1 w7 λt33=>dJ t33 λt34=>aY 1 t34 λt35=>ldW false 1 t35 w7 λt36=>aQ .add t36 (i64 1) λt37=>dJ t33 λt38=>aY 1 t38 λt39=>stW 1 t39 t37 w7 λw12=>ldW false 1 t1 w12 λt40=>ldW true 3 t3 w12 λt41=>aC P0 258 [t40,t41] w12 λt42 w13=>K t42 w13) (aY 0 t3 λt44=>ldW false 1 t44 w7 λt45=>aQ .eql t45 (i64 1) λt46=>GdW (isB t46 true) [undef] w7 (λJ14=>aY 1 t3 λt48=>ldW false 1 t48 w7 λt49=>aQ .neq t49 (str [102,111,114]) λt50=>J14 [t50] w7) λs14 _ w15=>cP t46 (s14.getD 0 undef) (.bool false) λt51=>aR t51 (ldW false 1 t1 w15 λt52=>dJ t52 λt53=>aY 1 t53 λt54=>ldW false 1 t54 w15 λt55=>aQ .add t55 (i64 1) λt56=>dJ t52 λt57=>aY 1 t57 λt58=>stW 1 t58 t56 w15 λw16=>ldW false 1 t1 w16 λt59=>dN 9 1 [(str [])] [(0,1,(str [40]))] w16 λt60 w17=>aC P0 49 [t59,t60] w17 λt61 w18=>unW .not t61 λt62=>aR t62 (aY 1 t3 λt63=>ldW false 1 t63 w18 λt64=>aC P0 259 [t64] w18 λt65 w19=>aY 0 t4 λt66=>stW 1 t66 t65 w19 λw20=>aY 0 t4 λt67=>ldW false 1 t67 w20 λt68=>aQ .eql t68 (i64 9) λt69=>aR t69 (aY 1 t3 λt70=>ldW false 1 t70 w20 λt71=>aY 1 t4 λt72=>stW 1 t72 t71 w20 λw21=>J8 [] w21) (J8 [] w20)) (aY 1 t3 λt73=>ldW false 1 t73 w18.drew λt74=>aY 0 t4 λt75=>stW 1 t75 (i64 12) w18.drew λw22=>(ldW false 1 t73 w22 λx=>x=t74)/\aY 1 t4 λt76=>stW 1 t76 t74 w22 λw23=>ldW false 1 t1 w23.drew λt77=>ldW false 1 t1 w23.drew λt78=>aC P0 29 [t78] w23.drew λt79 w24=>(ldW false 1 t1 w24 λx=>x=t77)/\kW false 2 1 t79 λt80=>aC P0 50 [t77,t80,(.bool true),(.func (.func 260) #[] #[t1,t4])] w24 λt82 w25=>J8 [] w25)) (ldW false 1 t1 w15 λt84=>dN 9 1 [(str [])] [(0,1,(str [40]))] w15 λt85 w26=>aC P0 49 [t84,t85] w26 λt86 w27=>aR t86 (bO 3 zL3 w27 λt5 w28=>stW 1 t5 (i64 0) w28 λw29=>ldW false 1 t1 w29 λt87=>aY 2 t3 λt88=>ldW false 1 t88 w29 λt89=>aC P0 50 [t87,t89,(.bool true),(.func (.func 262) #[] #[t1,t5])] w29 λt91 w30=>ldW false 1 t5 w30 λt92=>K t92 w30) (ldW false 1 t1 w27 λt94=>dN 9 1 [(str [])] [(0,1,(str [91]))] w27 λt95 w31=>aC P0 49 [t94,t95] w31 λt96 w32=>aR t96 (ldW false 1 t1 w32 λt97=>aY 2 t3 λt98=>ldW false 1 t98 w32 λt99=>aC P0 50 [t97,t99,(.bool true),(.func (.func 263) #[] #[t1,t3,t4])] w32 λt101 w33=>J8 [] w33) (ldW false 1 t1 w32 λt103=>dN 9 1 [(str [])] [(0,1,(str [123]))] w32 λt104 w34=>aC P0 49 [t103,t104] w34 λt105 w35=>aR t105 (ldW false 1 t1 w35 λt106=>aY 2 t3 λt107=>ldW false 1 t107 w35 λt108=>aC P0 50 [t106,t108,(.bool false),(.func (.func 265) #[] #[t1,t3,t4])] w35 λt110 w36=>J8 [] w36) (aY 2 t3 λt11=>ldW false 1 t11 w35 λt12=>aC P0 31 [(i64 50),t12] w35 λt13 w37=>J8 [] w37))))))) λs8 _ w38=>ldW false 1 t1 w38 λt111=>ldW true 5 t4 w38 λt112=>aC P0 117 [t111,t112] w38 λt113 w39=>K t113 w39
theorem UY{K:Q0}(h:aBR v0 w K):aC P0 236 [v0] w K:=
 tie _ 236 Tryz.f236 RG _ w K 1 _ rfl mixed Tryz.func236 (by kernel_rfl) (by kernel_rfl) Tryz.call236 h
def RF:cJ:={js:=[(2,⟨[],[],1⟩)],ds:=[]}
def aBQ(v0 v1 v2:Value)(w:World)(K:Q0):=ldW false 1 v0 w λt3=>dJ t3 λt4=>aY 1 t4 λt5=>ldW false 1 t5 w λt6=>aQ .add t6 (i64 1) λt7=>dJ t3 λt8=>aY 1 t8 λt9=>stW 1 t9 t7 w λw1=>bU (λJ2=>ldW false 1 v0 w1 λt10=>aC P0 52 [t10,(str [42])] w1 λt11 w3=>stW 1 v1 t11 w3 λw4=>ldW false 1 v1 w4 λt12=>unW .not t12 λt13=>aR t13 (ldW false 1 v0 w4 λt14=>aC P0 82 [t14] w4 λt15 w5=>stW 1 v2 t15 w5 λw6=>J2 [] w6) (J2 [] w4)) λs2 _ w7=>ldW false 1 v0 w7 λt16=>aC P0 116 [t16,(str [93])] w7 λt17 w8=>K (.tuple #[]) w8
theorem UX{K:Q0}(h:aBQ v0 v1 v2 w K):aC P0 237 [v0,v1,v2] w K:=
 tie _ 237 Tryz.f237 RF _ w K 3 _ rfl mixed Tryz.func237 (by kernel_rfl) (by kernel_rfl) Tryz.call237 h
def Ry:cJ:={js:=[(42,⟨[],[],12⟩),(34,⟨[],[],12⟩),(28,⟨[],[],12⟩),(18,⟨[],[],10⟩),(14,⟨[8,9],[],8⟩)],ds:=[(50,⟨[0,1,2,3,4,5],[[],[],[0,1],[],[],[3,4],[0,1,2],[0,1,2,3,4,5,6]]⟩),(39,⟨[0,1,2,3,4,5,7,8,12],[[],[0],[],[],[],[3,4],[3,4,5],[],[3,4,5,6,7],[2,3,4,5,6,7,8],[2,3,4,5,6,7,8,9],[0,1,2,3,4,5,6,7,8,9,10],[0,1,2,3,4,5,6,7,8,9,10,11],[0,1,2,3,4,5,6,7,8,9,10,11,12]]⟩),(32,⟨[0,1,2,3],[[],[0],[],[2],[0,1],[0,1,2,3,4]]⟩),(15,⟨[0,1,2,3,4],[[],[0],[],[2],[2,3],[],[],[0,1,5,6],[0,1,2,3,4,5,6,7]]⟩),(9,⟨[0,1,2,4,5,6,8],[[],[],[1],[1,2],[],[4],[1,2,3,4,5],[0,1,2,3,4,5,6],[0,1,2,3,4,5,6,7]]⟩)]}
def aBM(v0 v1:Value)(w:World)(K:Q0):=eL 67 v0 w λt2 w1=>eL 73 v1 w1 λt3 w2=>aY 1 t3 λt13=>ldW false 1 t13 w2 λt14=>aC P0 79 [t14] w2 λt15 w3=>dE 0 t15 λt16=>dE 1 t15 λt17=>aQ .lss t16 (i64 0) λt19=>aR t19 (ldW false 1 t2 w3.drew λt20=>aY 1 t3 λt21=>ldW false 1 t21 w3.drew λt22=>aY 2 t3 λt24=>ldW false 1 t24 w3.drew λt25=>aC P0 80 [t22] w3.drew λt23 w4=>(ldW false 1 t24 w4 λx=>x=t25)/\(ldW false 1 t2 w4 λx=>x=t20)/\dD [(i64 0),(str []),sN,sN,(i64 0)] [(0,1,(i64 5)),(1,1,t23),(4,1,t25)] λc5=>aC P0 117 [t20,(.agg c5.toArray)] w4 λt27 w6=>K t27 w6) (aY 2 t3 λt28=>ldW false 1 t28 w3 λt29=>dD [(i64 0),(str []),sN,sN,(i64 0)] [(0,1,(i64 6)),(4,1,t29)] λc7=>bO 93 zL4 w3 λt7 w8=>stW 5 t7 (.agg c7.toArray) w8 λw9=>bU (λJ10=>aY 1 t3 λt31=>ldW false 1 t31 w9.drew λt32=>aY 2 t3 λt33=>ldW false 1 t33 w9.drew λt34=>aQ .add t34 (i64 1) λt35=>(bO 9 [(str [])] w9.drew λt8 w11=>(ldW false 1 t33 w11 λx=>x=t34)/\(ldW false 1 t31 w11 λx=>x=t32)/\bO 3 zL3 w11 λt9 w12=>(ldW false 1 t33 w12 λx=>x=t34)/\(ldW false 1 t31 w12 λx=>x=t32)/\stW 1 t8 t32 w12 λw13=>(ldW false 1 t33 w13 λx=>x=t34)/\stW 1 t9 t35 w13 λw14=>J10 [t8,t9] w14)/\(bO 3 zL3 w9.drew λt9 w15=>(ldW false 1 t33 w15 λx=>x=t34)/\(ldW false 1 t31 w15 λx=>x=t32)/\bO 9 [(str [])] w15 λt8 w16=>(ldW false 1 t33 w16 λx=>x=t34)/\(ldW false 1 t31 w16 λx=>x=t32)/\stW 1 t8 t32 w16 λw17=>(ldW false 1 t33 w17 λx=>x=t34)/\stW 1 t9 t35 w17 λw18=>J10 [t8,t9] w18)) λs10 _ w19=>cZ [] w19 λs20 _ w21 L20=>ldW false 1 (s10.getD 0 undef) w21 λt36=>aQ .neq t36 (str []) λt37=>aR t37 (ldW false 1 (s10.getD 0 undef) w21 λt39=>aC P0 79 [t39] w21 λt40 w22=>dE 0 t40 λt41=>dE 1 t40 λt42=>bO 3 zL3 w22 λt10 w23=>bO 3 zL3 w23 λt11 w24=>stW 1 t10 t41 w24 λw25=>stW 1 t11 t42 w25 λw26=>bU (λJ27=>ldW false 1 t10 w26 λt43=>aQ .lss t43 (i64 0) λt44=>aR t44 (ldW false 1 (s10.getD 0 undef) w26.drew λt45=>gW t45 λt46=>ldW false 1 (s10.getD 0 undef) w26.drew λt47=>gW t47 λt48=>stW 1 t10 t46 w26.drew λw28=>(ldW false 1 (s10.getD 0 undef) w28 λx=>x=t47)/\stW 1 t11 t48 w28 λw29=>J27 [] w29) (J27 [] w26)) λs27 _ w30=>bU (λJ31=>ldW false 1 t10 w30 λt49=>aQ .gtr t49 (i64 0) λt50=>aR t50 (aY 2 t7 λt51=>ldW false 1 t51 w30.drew λt52=>ldW false 1 t2 w30.drew λt53=>ldW false 1 (s10.getD 0 undef) w30.drew λt54=>ldW false 1 t10 w30.drew λt55=>lN t54 none (some t55) λt56=>ldW false 1 (s10.getD 1 undef) w30.drew λt58=>aC P0 80 [t56] w30.drew λt57 w32=>(ldW false 1 (s10.getD 1 undef) w32 λx=>x=t58)/\(ldW false 1 t2 w32 λx=>x=t53)/\(ldW false 1 t51 w32 λx=>x=t52)/\dD [(i64 0),(str []),sN,sN,(i64 0)] [(0,1,(i64 5)),(1,1,t57),(4,1,t58)] λc33=>aC P0 117 [t53,(.agg c33.toArray)] w32 λt60 w34=>(ldW false 1 t51 w34 λx=>x=t52)/\dN 3 1 [(i64 0)] [(0,1,t60)] w34 λt61 w35=>(ldW false 1 t51 w35 λx=>x=t52)/\dY P0 (Builtin.append_ #[30,30] 30 #[t52,t61]) w35 λt62 w36=>aY 2 t7 λt63=>stW 1 t63 t62 w36 λw37=>aY 3 t7 λt64=>ldW false 1 t64 w37 λt65=>dN 9 1 [(str [])] [(0,1,(str [116]))] w37 λt66 w38=>dY P0 (Builtin.append_ #[24,24] 24 #[t65,t66]) w38 λt67 w39=>aY 3 t7 λt68=>stW 1 t68 t67 w39 λw40=>J31 [] w40) (J31 [] w30)) λs31 _ w41=>bU (λJ42=>ldW false 1 t10 w41 λt69=>ldW false 1 t11 w41 λt70=>aQ .lss t69 t70 λt71=>aR t71 (ldW false 1 t2 w41 λt72=>ldW false 1 (s10.getD 1 undef) w41 λt73=>ldW false 1 t10 w41 λt74=>aQ .add t73 t74 λt75=>aC P0 50 [t72,t75,(.bool false),(.func (.func 278) #[] #[t7,t2,(s10.getD 0 undef),t10,t11,(s10.getD 1 undef)])] w41 λt77 w43=>aY 3 t7 λt78=>ldW false 1 t78 w43 λt79=>dN 9 1 [(str [])] [(0,1,(str [101]))] w43 λt80 w44=>dY P0 (Builtin.append_ #[24,24] 24 #[t79,t80]) w44 λt81 w45=>aY 3 t7 λt82=>stW 1 t82 t81 w45 λw46=>J42 [] w46) (J42 [] w41)) λs42 _ w47=>ldW false 1 (s10.getD 0 undef) w47.drew λt83=>ldW false 1 t11 w47.drew λt84=>lN t83 (some t84) none λt85=>ldW false 1 (s10.getD 1 undef) w47.drew λt86=>ldW false 1 t11 w47.drew λt87=>aQ .add t86 t87 λt88=>stW 1 (s10.getD 0 undef) t85 w47.drew λw48=>(ldW false 1 t11 w48 λx=>x=t87)/\(ldW false 1 (s10.getD 1 undef) w48 λx=>x=t86)/\stW 1 (s10.getD 1 undef) t88 w48 λw49=>L20 [] w49) (ldW false 1 t2 w21 λt89=>ldW true 5 t7 w21 λt90=>aC P0 117 [t89,t90] w21 λt91 w50=>K t91 w50))
theorem UR{K:Q0}(h:aBM v0 v1 w K):aC P0 258 [v0,v1] w K:=
 tie _ 258 Tryz.f258 Ry _ w K 2 _ rfl mixed Tryz.func258 (by kernel_rfl) (by kernel_rfl) Tryz.call258 h
def Rx:cJ:={js:=[],ds:=[]}
def aBL(v0:Value)(w:World)(K:Q0):=aQ .eql v0 (str [110,117,108,108]) λt5=>aR t5 (K (i64 1) w) (aQ .eql v0 (str [116,114,117,101]) λt7=>aR t7 (K (i64 2) w) (aQ .eql v0 (str [102,97,108,115,101]) λt9=>aR t9 (K (i64 3) w) (K (i64 9) w)))
theorem UQ{K:Q0}(h:aBL v0 w K):aC P0 259 [v0] w K:=
 tie _ 259 Tryz.f259 Rx _ w K 1 _ rfl mixed Tryz.func259 (by kernel_rfl) (by kernel_rfl) Tryz.call259 h
def Rw:cJ:={js:=[],ds:=[]}
def aBK(v0 v1:Value)(w:World)(K:Q0):=ldW false 1 v0 w λt2=>dJ t2 λt3=>aY 1 t3 λt4=>ldW false 1 t4 w λt5=>aQ .add t5 (i64 1) λt6=>dJ t2 λt7=>aY 1 t7 λt8=>stW 1 t8 t6 w λw1=>ldW false 1 v0 w1 λt9=>aC P0 261 [t9,(str [41])] w1 λt10 w2=>aY 2 v1 λt11=>stW 1 t11 t10 w2 λw3=>K (.tuple #[]) w3
theorem UP{K:Q0}(h:aBK v0 v1 w K):aC P0 260 [v0,v1] w K:=
 tie _ 260 Tryz.f260 Rw _ w K 2 _ rfl mixed Tryz.func260 (by kernel_rfl) (by kernel_rfl) Tryz.call260 h
def Rv:cJ:={js:=[(14,⟨[],[],6⟩),(6,⟨[5],[],2⟩)],ds:=[]}
def aBJ(v0 v1:Value)(w:World)(K:Q0):=cZ [sN] w λs1 _ w2 L1=>aC P0 52 [v0,v1] w2 λt8 w3=>unW .not t8 λt9=>aR t9 (bU (λJ4=>dC (s1.getD 0 undef) λt11=>aQ .gtr t11 (i64 0) λt12=>aR t12 (aC P0 116 [v0,(str [44])] w3 λt14 w5=>aC P0 52 [v0,v1] w5 λt17 w6=>aR t17 (K (s1.getD 0 undef) w6) (J4 [] w6)) (J4 [] w3)) λs4 _ w7=>aC P0 82 [v0] w7 λt20 w8=>dN 3 1 [(i64 0)] [(0,1,t20)] w8 λt21 w9=>dY P0 (Builtin.append_ #[30,30] 30 #[(s1.getD 0 undef),t21]) w9 λt22 w10=>L1 [t22] w10) (K (s1.getD 0 undef) w3)
theorem UO{K:Q0}(h:aBJ v0 v1 w K):aC P0 261 [v0,v1] w K:=
 tie _ 261 Tryz.f261 Rv _ w K 2 _ rfl mixed Tryz.func261 (by kernel_rfl) (by kernel_rfl) Tryz.call261 h
def Ru:cJ:={js:=[],ds:=[]}
def aBI(v0 v1:Value)(w:World)(K:Q0):=ldW false 1 v0 w λt2=>dJ t2 λt3=>aY 1 t3 λt4=>ldW false 1 t4 w λt5=>aQ .add t5 (i64 1) λt6=>dJ t2 λt7=>aY 1 t7 λt8=>stW 1 t8 t6 w λw1=>ldW false 1 v0 w1 λt9=>aC P0 82 [t9] w1 λt10 w2=>stW 1 v1 t10 w2 λw3=>ldW false 1 v0 w3 λt11=>aC P0 116 [t11,(str [41])] w3 λt12 w4=>K (.tuple #[]) w4
theorem UN{K:Q0}(h:aBI v0 v1 w K):aC P0 262 [v0,v1] w K:=
 tie _ 262 Tryz.f262 Ru _ w K 2 _ rfl mixed Tryz.func262 (by kernel_rfl) (by kernel_rfl) Tryz.call262 h
def Rt:cJ:={js:=[],ds:=[]}
def aBH(v0 v1 v2:Value)(w:World)(K:Q0):=ldW false 1 v0 w λt3=>ldW true 3 v1 w λt4=>aC P0 264 [t3,t4] w λt5 w1=>stW 5 v2 t5 w1 λw2=>K (.tuple #[]) w2
theorem UM{K:Q0}(h:aBH v0 v1 v2 w K):aC P0 263 [v0,v1,v2] w K:=
 tie _ 263 Tryz.f263 Rt _ w K 3 _ rfl mixed Tryz.func263 (by kernel_rfl) (by kernel_rfl) Tryz.call263 h
def Rs:cJ:={js:=[(18,⟨[],[],7⟩),(16,⟨[6],[],5⟩),(8004,⟨[23],[],21⟩)],ds:=[(31,⟨[0,1,2,6],[[],[0],[],[2],[2,3],[0,1,2,3,4],[0,1,2,3,4,5],[0,1,2,3,4,5,6]]⟩),(27,⟨[0,1,2,6],[[],[0],[],[2],[2,3],[0,1,2,3,4],[0,1,2,3,4,5],[0,1,2,3,4,5,6]]⟩),(17,⟨[0,2,3,4,5],[[],[0],[0,1],[],[3],[0,1,2,3,4],[],[0,1,2,3,4,5,6]]⟩),(11,⟨[0,2,3,4],[[],[0],[],[2],[0,1,2,3],[0,1,2,3,4]]⟩)]}
def aBG(v0 v1:Value)(w:World)(K:Q0):=eL 73 v1 w λt3 w1=>bO 93 zL4 w1 λt4 w2=>dJ v0 λt9=>aY 1 t9 λt10=>ldW false 1 t10 w2 λt11=>aQ .add t11 (i64 1) λt12=>dJ v0 λt13=>aY 1 t13 λt14=>stW 1 t14 t12 w2 λw3=>aC P0 29 [v0] w3 λt16 w4=>bO 73 zL1 w4 λt5 w5=>stW 3 t5 t16 w5 λw6=>aY 0 t5 λt17=>ldW false 1 t17 w6 λt18=>aQ .neq t18 (i64 1) λt19=>GdW (isB t19 false) [undef] w6 (λJ7=>aY 1 t5 λt21=>ldW false 1 t21 w6 λt22=>aQ .neq t22 (str [102,111,114]) λt23=>J7 [t23] w6) λs7 _ w8=>cP t19 (.bool true) (s7.getD 0 undef) λt24=>aR t24 (aY 2 t3 λt27=>ldW false 1 t27 w8.drew λt28=>aC P0 261 [v0,(str [93])] w8.drew λt26 w9=>(ldW false 1 t27 w9 λx=>x=t28)/\dD [(i64 0),(str []),sN,sN,(i64 0)] [(0,1,(i64 7)),(2,1,t26),(4,1,t28)] λc10=>stW 5 t4 (.agg c10.toArray) w9 λw11=>ldW true 5 t4 w11 λr12=>K r12 w11) (dJ v0 λt31=>aY 1 t31 λt32=>ldW false 1 t32 w8 λt33=>aQ .add t33 (i64 1) λt34=>dJ v0 λt35=>aY 1 t35 λt36=>stW 1 t36 t34 w8 λw13=>bU (λJ14=>aY 2 t3 λt40=>ldW false 1 t40 w13.drew λt41=>(aC P0 46 [v0,(i64 1)] w13.drew λt38 w15=>(ldW false 1 t40 w15 λx=>x=t41)/\kW false 1 1 t38 λt39=>dD [(i64 0),(str []),sN,sN,(i64 0)] [(0,1,(i64 29)),(1,1,t39),(4,1,t41)] λc16=>bO 93 zL4 w15 λt6 w17=>(ldW false 1 t40 w17 λx=>x=t41)/\stW 5 t6 (.agg c16.toArray) w17 λw18=>J14 [t6] w18)/\(bO 93 zL4 w13.drew λt6 w19=>(ldW false 1 t40 w19 λx=>x=t41)/\aC P0 46 [v0,(i64 1)] w19 λt38 w20=>(ldW false 1 t40 w20 λx=>x=t41)/\kW false 1 1 t38 λt39=>dD [(i64 0),(str []),sN,sN,(i64 0)] [(0,1,(i64 29)),(1,1,t39),(4,1,t41)] λc21=>stW 5 t6 (.agg c21.toArray) w20 λw22=>J14 [t6] w22)) λs14 _ w23=>bU (λJ24=>aC P0 46 [v0,(i64 1)] w23 λt44 w25=>bO 73 zL1 w25 λt7 w26=>stW 3 t7 t44 w26 λw27=>aY 1 t7 λt45=>ldW false 1 t45 w27 λt46=>aQ .neq t46 (str [105,110]) λt47=>aR t47 (aY 2 t7 λt48=>ldW false 1 t48 w27 λt49=>aC P0 31 [(i64 50),t49] w27 λt50 w28=>J24 [] w28) (J24 [] w27)) λs24 _ w29=>aY 2 (s14.getD 0 undef) λt51=>ldW false 1 t51 w29.drew λt52=>aC P0 82 [v0] w29.drew λt54 w30=>(ldW false 1 t51 w30 λx=>x=t52)/\dN 3 1 [(i64 0)] [(0,1,t54)] w30 λt55 w31=>(ldW false 1 t51 w31 λx=>x=t52)/\dY P0 (Builtin.append_ #[30,30] 30 #[t52,t55]) w31 λt56 w32=>aY 2 (s14.getD 0 undef) λt57=>stW 1 t57 t56 w32 λw33=>aC P0 116 [v0,(str [58])] w33 λt59 w34=>aY 2 (s14.getD 0 undef) λt60=>ldW false 1 t60 w34.drew λt61=>aC P0 82 [v0] w34.drew λt63 w35=>(ldW false 1 t60 w35 λx=>x=t61)/\dN 3 1 [(i64 0)] [(0,1,t63)] w35 λt64 w36=>(ldW false 1 t60 w36 λx=>x=t61)/\dY P0 (Builtin.append_ #[30,30] 30 #[t61,t64]) w36 λt65 w37=>aY 2 (s14.getD 0 undef) λt66=>stW 1 t66 t65 w37 λw38=>aC P0 116 [v0,(str [93])] w38 λt68 w39=>ldW true 5 (s14.getD 0 undef) w39 λt69=>stW 5 t4 t69 w39 λw40=>ldW true 5 t4 w40 λr41=>K r41 w40)
theorem UL{K:Q0}(h:aBG v0 v1 w K):aC P0 264 [v0,v1] w K:=
 tie _ 264 Tryz.f264 Rs _ w K 2 _ rfl mixed Tryz.func264 (by kernel_rfl) (by kernel_rfl) Tryz.call264 h
def Rr:cJ:={js:=[],ds:=[]}
def aBF(v0 v1 v2:Value)(w:World)(K:Q0):=ldW false 1 v0 w λt3=>ldW true 3 v1 w λt4=>aC P0 266 [t3,t4] w λt5 w1=>stW 5 v2 t5 w1 λw2=>K (.tuple #[]) w2
theorem UK{K:Q0}(h:aBF v0 v1 v2 w K):aC P0 265 [v0,v1,v2] w K:=
 tie _ 265 Tryz.f265 Rr _ w K 3 _ rfl mixed Tryz.func265 (by kernel_rfl) (by kernel_rfl) Tryz.call265 h
def Rq:cJ:={js:=[(43,⟨[],[],6⟩),(45005,⟨[74],[],71⟩),(45011,⟨[68],[],65⟩),(33,⟨[],[],7⟩),(20,⟨[],[],7⟩),(10,⟨[],[],6⟩)],ds:=[(42,⟨[0,1,2,3,6,7,8,12,14],[[],[0],[],[2],[2,3],[0,1,2,3,4],[],[6],[],[0,1,2,3,4,5,8],[0,1,2,3,4,5,8,9],[0,1,2,3,4,5,6,7,8,9,10],[0,1,2,3,4,5,6,7],[0,1,2,3,4,5,6,7,8,9,10,11,12],[0,1,2,3,4,5,6,7,8,9,10,11,12,13],[0,1,2,3,4,5,6,7,8,9,10,11,12,13,14]]⟩)]}
def aBE(v0 v1:Value)(w:World)(K:Q0):=eL 73 v1 w λt3 w1=>bO 93 zL4 w1 λt4 w2=>dJ v0 λt8=>aY 1 t8 λt9=>ldW false 1 t9 w2 λt10=>aQ .add t10 (i64 1) λt11=>dJ v0 λt12=>aY 1 t12 λt13=>stW 1 t13 t11 w2 λw3=>aY 2 t3 λt14=>ldW false 1 t14 w3 λt15=>dD [(i64 0),(str []),sN,sN,(i64 0)] [(0,1,(i64 8)),(4,1,t15)] λc4=>bO 93 zL4 w3 λt5 w5=>stW 5 t5 (.agg c4.toArray) w5 λw6=>aC P0 28 [v0] w6 λt18 w7=>cZ [] w7 λs8 _ w9 L8=>aC P0 52 [v0,(str [125])] w9 λt20 w10=>unW .not t20 λt21=>aR t21 (aC P0 48 [v0] w10 λt23 w11=>bO 73 zL1 w11 λt6 w12=>stW 3 t6 t23 w12 λw13=>bU (λJ14=>aY 0 t6 λt24=>ldW false 1 t24 w13 λt25=>aQ .eql t25 (i64 3) λt30=>aR t30 (ldW true 3 t6 w13 λt32=>aC P0 47 [v0,t32] w13 λt33 w15=>aY 1 t6 λt34=>stW 1 t34 t33 w15 λw16=>J14 [] w16) (aQ .eql t25 (i64 1) λt36=>aR t36 (J14 [] w13) (aY 2 t6 λt26=>ldW false 1 t26 w13 λt27=>aC P0 31 [(i64 50),t27] w13 λt28 w17=>J14 [] w17))) λs14 _ w18=>bU (λJ19=>aY 3 t5 λt37=>ldW false 1 t37 w18 λt38=>aY 1 t6 λt39=>ldW false 1 t39 w18 λt40=>aC P0 81 [t38,t40] w18 λt41 w20=>aR t41 (aY 2 t6 λt42=>ldW false 1 t42 w20 λt43=>aC P0 31 [(i64 2),t43] w20 λt44 w21=>J19 [] w21) (J19 [] w20)) λs19 _ w22=>aC P0 116 [v0,(str [61])] w22 λt46 w23=>aY 3 t5 λt47=>ldW false 1 t47 w23.drew λt48=>aY 1 t6 λt49=>ldW false 1 t49 w23.drew λt50=>aY 2 t5 λt53=>ldW false 1 t53 w23.drew λt54=>dN 9 1 [(str [])] [(0,1,t50)] w23.drew λt51 w24=>(ldW false 1 t53 w24 λx=>x=t54)/\(ldW false 1 t47 w24 λx=>x=t48)/\dY P0 (Builtin.append_ #[24,24] 24 #[t48,t51]) w24 λt52 w25=>(ldW false 1 t53 w25 λx=>x=t54)/\aY 3 t5 λt59=>aC P0 82 [v0] w25 λt56 w26=>(ldW false 1 t53 w26 λx=>x=t54)/\dN 3 1 [(i64 0)] [(0,1,t56)] w26 λt57 w27=>(ldW false 1 t53 w27 λx=>x=t54)/\dY P0 (Builtin.append_ #[30,30] 30 #[t54,t57]) w27 λt58 w28=>stW 1 t59 t52 w28 λw29=>aY 2 t5 λt60=>stW 1 t60 t58 w29 λw30=>bU (λJ31=>aC P0 52 [v0,(str [44])] w30 λt62 w32=>unW .not t62 λt63=>GdW (isB t63 true) [undef] w32 (λJ33=>aC P0 29 [v0] w32 λt66 w34=>kW false 0 1 t66 λt67=>aQ .neq t67 (i64 5) λt68=>J33 [t68] w34) λs33 _ w35=>cP t63 (s33.getD 0 undef) (.bool false) λt69=>GdW (isB t69 true) [undef] w35 (λJ36=>dN 9 1 [(str [])] [(0,1,(str [125]))] w35 λt72 w37=>aC P0 49 [v0,t72] w37 λt73 w38=>unW .not t73 λt74=>J36 [t74] w38) λs36 _ w39=>cP t69 (s36.getD 0 undef) (.bool false) λt75=>aR t75 (aC P0 29 [v0] w39 λt77 w40=>kW false 2 1 t77 λt78=>aC P0 31 [(i64 50),t78] w40 λt79 w41=>J31 [] w41) (J31 [] w39)) λs31 _ w42=>aC P0 28 [v0] w42 λt81 w43=>L8 [] w43) (ldW true 5 t5 w10 λt82=>stW 5 t4 t82 w10 λw44=>ldW true 5 t4 w44 λr45=>K r45 w44)
theorem UJ{K:Q0}(h:aBE v0 v1 w K):aC P0 266 [v0,v1] w K:=
 tie _ 266 Tryz.f266 Rq _ w K 2 _ rfl mixed Tryz.func266 (by kernel_rfl) (by kernel_rfl) Tryz.call266 h
def Rp:cJ:={js:=[],ds:=[(0,⟨[0,1,2,3,4,5,6,7,8,9,10,11,12,16],[[],[0],[],[],[],[4],[],[6],[3,4,5,6,7],[],[],[9,10],[9,10,11],[2,3,4,5,6,7,8,9,10,11,12],[2,3,4,5,6,7,8,9,10,11,12,13],[0,1,2,3,4,5,6,7,8,9,10,11,12,13,14],[0,1,2,3,4,5,6,7,8,9,10,11,12,13,14,15],[0,1,2,3,4,5,6,7,8,9,10,11,12,13,14,15,16]]⟩)]}
def aBD(v0 v1 v2 v3 v4 v5:Value)(w:World)(K:Q0):=aY 2 v0 λt6=>ldW false 1 t6 w.drew λt7=>ldW false 1 v1 w.drew λt8=>ldW false 1 v2 w.drew λt9=>ldW false 1 v3 w.drew λt10=>aQ .add t10 (i64 2) λt11=>ldW false 1 v4 w.drew λt12=>aQ .sub t12 (i64 1) λt13=>lN t9 (some t11) (some t13) λt14=>ldW false 1 v5 w.drew λt15=>ldW false 1 v3 w.drew λt16=>aQ .add t15 t16 λt17=>aQ .add t17 (i64 2) λt18=>aC P0 279 [t8,t14,t18] w.drew λt19 w1=>(ldW false 1 t6 w1 λx=>x=t7)/\dN 3 1 [(i64 0)] [(0,1,t19)] w1 λt20 w2=>(ldW false 1 t6 w2 λx=>x=t7)/\dY P0 (Builtin.append_ #[30,30] 30 #[t7,t20]) w2 λt21 w3=>aY 2 v0 λt22=>stW 1 t22 t21 w3 λw4=>K (.tuple #[]) w4
theorem UI{K:Q0}(h:aBD v0 v1 v2 v3 v4 v5 w K):aC P0 278 [v0,v1,v2,v3,v4,v5] w K:=
 tie _ 278 Tryz.f278 Rp _ w K 6 _ rfl mixed Tryz.func278 (by kernel_rfl) (by kernel_rfl) Tryz.call278 h
def Rm:cJ:={js:=[(4,⟨[],[],8⟩)],ds:=[(11,⟨[0,1,2,3,4,5,6,7,8,9,10,12],[[],[],[],[2],[2,3],[2,3,4],[],[6],[6,7],[6,7,8],[0,1,2,3,4,5,6,7,8,9],[0,1,2,3,4,5,6,7,8,9,10],[0,1,2,3,4,5,6,7,8,9,10,11]]⟩),(8,⟨[0,1,2,3,4,5,6,7,8,9],[[],[0],[0,1],[0,1,2],[],[],[5],[5,6],[5,6,7],[4,5,6,7,8],[0,1,2,3,4,5,6,7,8,9]]⟩)]}
def aBC(v0 v1 v2:Value)(w:World)(K:Q0):=aC P0 26 [v1] w λt13 w1=>dE 0 t13 λt14=>dE 1 t13 λt15=>bU (λJ2=>eqW .ptr true t15 (.pointer none) λt17=>aR t17 (dJ t15 λt19=>aY 0 t19 λt20=>ldW false 1 t20 w1.drew λt21=>dJ t15 λt24=>aY 2 t24 λt25=>ldW false 1 t25 w1.drew λt26=>aQ .add v2 t26 λt27=>aC P0 31 [t21,t27] w1.drew λt28 w3=>J2 [] w3) (J2 [] w1)) λs2 _ w4=>dJ v0 λt32=>aY 3 t32 λt33=>ldW false 1 t33 w4.drew λt34=>dJ v0 λt36=>aY 4 t36 λt37=>ldW false 1 t37 w4.drew λt38=>dD [sN,(i64 0),(i64 0),(.pointer none),(i64 0),(.bool false)] [(0,1,t14),(2,1,v2),(3,1,t34),(4,1,t38)] λc5=>eL 70 (.agg c5.toArray) w4.drew λt40 w6=>aC P0 82 [t40] w6 λt42 w7=>aC P0 46 [t40,(i64 0)] w7 λt44 w8=>K t42 w8
theorem UH{K:Q0}(h:aBC v0 v1 v2 w K):aC P0 279 [v0,v1,v2] w K:=
 tie _ 279 Tryz.f279 Rm _ w K 3 _ rfl mixed Tryz.func279 (by kernel_rfl) (by kernel_rfl) Tryz.call279 h
end
end Go.Proofs.YtghhmpppnmoeoaaGreatDoor
