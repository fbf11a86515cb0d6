/- One plain sentence: contracts and plain laws that the claim rests on. Conditions: those that each states. -/
import Derived.Orders
import Derived.Laws.World
import Derived.KernelRfl
import Derived.Laws.Strings
import Derived.Tactics
import Derived.Scope
import Derived.Below
import Derived.Laws.AppendOwn
import Derived.Laws.BytesArg
import Derived.Test.YtghhmpppnmoeoaaGreatDoorProg
import Derived.Recover
set_option linter.all false
set_option linter.unusedSimpArgs false
set_option linter.unusedVariables false
set_option linter.unusedSectionVars false
set_option maxRecDepth 100000
abbrev _root_.bF := @Option.some.injEq
abbrev _root_.dC := @List.map_cons
abbrev _root_.aE := @if_neg
abbrev _root_.aB := @List.length_cons
abbrev _root_.bS := @List.length_take
abbrev _root_.eU := @Nat.add_zero
abbrev _root_.DZ := @Array.length_toList
abbrev _root_.bP := @ne_eq
abbrev _root_.As := @not_true_eq_false
abbrev _root_.kL := @if_false
abbrev _root_.aK := @cond_false
abbrev _root_.aM := @cond_true
abbrev _root_.yG := @Array.ext'
abbrev _root_.Az := @Array.all_eq_true_iff_forall_mem
abbrev _root_.Gq := @List.drop_take
abbrev _root_.gK := @Option.map_some
abbrev _root_.FZ := @Nat.succ_mul
abbrev _root_.rH := @Nat.add_comm
abbrev _root_.nP := @Nat.eq_zero_or_pos
abbrev _root_.kY := @Nat.mod_eq_of_lt
abbrev _root_.iG := @Nat.eq_of_beq_eq_true
abbrev _root_.jH := @Nat.le_of_ble_eq_true
abbrev _root_.aJ := @if_pos
abbrev _root_.bM := @List.mem_cons
abbrev _root_.dR := @Nat.lt_or_ge
abbrev _root_.iM := @Array.getD_eq_getD_getElem?
abbrev _root_.tA := @Ne.symm
abbrev _root_.aL := @Bool.and_eq_true
abbrev _root_.bN := @List.all_eq_true
abbrev _root_.lR := @List.mem_range
abbrev _root_.cQ := @Bool.or_eq_true
abbrev _root_.fV := @beq_iff_eq
abbrev _root_.bD := @decide_eq_true_eq
abbrev _root_.dZ := @Bool.not_eq_true'
abbrev _root_.eZ := @List.mem_append_left
abbrev _root_.gT := @List.mem_filterMap
abbrev _root_.dB := @List.mem_append_right
abbrev _root_.aR := @List.mem_cons_of_mem
abbrev _root_.gE := @Prod.mk.injEq
abbrev _root_.bA := @List.mem_cons_self
abbrev _root_.aV := @Nat.le_refl
abbrev _root_.bG := @List.mem_of_getElem?
abbrev _root_.jQ := @List.mem_filter
abbrev _root_.kM := @List.size_toArray
abbrev _root_.dL := @List.mem_map
abbrev _root_.bK := @List.mem_singleton
abbrev _root_.jP := @List.nodup_cons
abbrev _root_.gF := @if_true
abbrev _root_.fF := @Bool.false_eq_true
abbrev _root_.cC := @Nat.le_trans
abbrev _root_.dD := @List.cons_append
abbrev _root_.cR := @Nat.lt_of_lt_of_le
abbrev _root_.iB := @Bool.true_and
abbrev _root_.gO := @Iff.rfl
abbrev _root_.dM := @Nat.mul_le_mul_right
abbrev _root_.aW := @Int.toNat_natCast
abbrev _root_.bC := @List.eq_nil_of_length_eq_zero
abbrev _root_.aX := @Nat.zero_add
abbrev _root_.eG := @List.append_nil
abbrev _root_.mK := @Bool.eq_iff_iff
abbrev _root_.dX := @List.cons.injEq
abbrev _root_.aH := @decide_false
abbrev _root_.aN := @List.length_nil
abbrev _root_.dW := @List.take_of_length_le
abbrev _root_.dG := @List.take_add_one
abbrev _root_.fH := @List.drop_of_length_le
abbrev _root_.eA := @List.not_mem_nil
abbrev _root_.mO := @or_false
abbrev _root_.aU := @List.length_append
abbrev _root_.dH := @List.mem_append
abbrev _root_.mZ := @Nat.zero_mul
abbrev _root_.oQ := @Nat.pow_succ
abbrev _root_.fG := @Nat.add_mul
abbrev _root_.lM := @Nat.mul_comm
abbrev _root_.eV := @List.all_cons
abbrev _root_.kO := @UInt8.toNat_inj
abbrev _root_.jW := @Nat.pow_le_pow_right
abbrev _root_.dQ := @List.length_pos_iff
abbrev _root_.oR := @List.mem_of_mem_take
abbrev _root_.CP := @List.mem_of_mem_drop
abbrev _root_.iH := @List.take_append_drop
abbrev _root_.aP := @List.length_drop
abbrev _root_.uF := @Nat.mul_add
abbrev _root_.kN := @Nat.mul_le_mul_left
abbrev _root_.Au := @Option.map_eq_some_iff
abbrev _root_.dV := @true_and
abbrev _root_.lP := @and_true
abbrev _root_.iC := @Bool.and_true
abbrev _root_.Ay := @Bool.false_and
abbrev _root_.Ax := @Bool.true_or
abbrev _root_.pJ := @Bool.false_or
abbrev _root_.iW := @Bool.not_true
abbrev _root_.iS := @Bool.not_false
abbrev _root_.aY := @List.set_cons_zero
abbrev _root_.bB := @List.set_cons_succ
abbrev _root_.aG := @List.getD_cons_zero
abbrev _root_.cS := @List.getD_cons_succ
abbrev _root_.fR := @Nat.zero_le
abbrev _root_.aD := @exists_eq_left'
abbrev _root_.aF := @Nat.lt_add_one
abbrev _root_.aA := @Nat.zero_lt_succ
abbrev _root_.aI := @decide_true
abbrev _root_.cH := @decide_eq_false
abbrev _root_.fJ := @Int.lt_irrefl
abbrev _root_.bR := @List.take_length
abbrev _root_.bH := @decide_eq_true
abbrev _root_.yD := @decide_not
abbrev _root_.cD := @List.length_map
abbrev _root_.Ga := @List.all_nil
abbrev _root_.fE := @List.map_append
abbrev _root_.rV := @List.length_zip
abbrev _root_.qC := @List.take_succ_cons
abbrev _root_.cU := @List.drop_succ_cons
abbrev _root_.cL := @List.drop_eq_getElem_cons
abbrev _root_.fN := @Option.some.inj
abbrev _root_.oV := @Int.le_refl
abbrev _root_.Gn := @Nat.add_sub_cancel
abbrev _root_.Aw := @List.take_take
abbrev _root_.kP := @Nat.min_eq_left
abbrev _root_.Av := @List.take_zero
abbrev _root_.eC := @List.drop_eq_nil_iff
abbrev _root_.uG := @Int.tmod_eq_emod_of_nonneg
abbrev _root_.eJ := @List.drop_length
abbrev _root_.oW := @Decidable.not_not
abbrev _root_.fO := @List.nil_append
abbrev _root_.fP := @List.append_assoc
abbrev _root_.oU := @List.any_eq_false
abbrev _root_.BZ := @List.getElem_mem
abbrev _root_.lQ := @Nat.mul_le_mul
abbrev _root_.gY := @List.drop_drop
abbrev _root_.qX := @List.take_append_of_le_length
abbrev _root_.uD := @UInt8.toNat_lt
abbrev _root_.fZ := @Prod.ext
abbrev _root_.oS := @List.map_nil
abbrev _root_.CQ := @List.drop_append_of_le_length
abbrev _root_.cZ := @List.drop_zero
abbrev _root_.Bb := @List.length_singleton
abbrev _root_.iL := @List.flatten_cons
abbrev _root_.jS := @UInt8.toNat_ofNat'
abbrev _root_.tB := @List.flatMap_cons
abbrev _root_.eL := @Classical.byContradiction
abbrev _root_.lS := @Bool.or_eq_false_iff
abbrev _root_.tC := @Classical.not_not
abbrev _root_.mS := @List.length_reverse
abbrev _root_.DW := @List.replicate_succ
abbrev _root_.Dy := @List.all_append
abbrev _root_.eO := @Nat.lt_succ_self
abbrev _root_.mD := @List.count_append
abbrev _root_.Dx := @List.count_cons
abbrev _root_.Gp := @List.isPrefixOf_iff_prefix
abbrev _root_.qG := @List.perm_middle
abbrev _root_.Gm := @Nat.lt_of_le_of_lt
abbrev _root_.wV := @Nat.add_le_add_left
abbrev _root_.fD := @List.nodup_append
abbrev _root_.DX := @List.perm_iff_count
abbrev _root_.sZ := @UInt8.ofNat_toNat
abbrev _root_.CU := @Array.replicate_succ
abbrev _root_.CS := @Array.replicate_zero
abbrev _root_.DY := @List.append_toArray
abbrev _root_.CR := @Array.size_replicate
namespace Go.Eng
section
open Go
variable{w:World}{K:Value->World->Prop}{cs:List Value}{G:Nat->Prop}{T:TypeId}{i:Nat}{n:Nat}{v:Value}{w':World}{P:Program}{c:UInt8}{S:Nat->Prop}
abbrev Fr:=Nat->Value
def upd(f:Fr)(d:Option Nat)(v:Value):Fr:=
 match d with
 |none=>f
 |some d=>λj=>bif Nat.beq j d then v else f j
def ev(f:Fr):Operand->Value
 |.tmp t=>f t
 |.const v=>v
 |.global g=>.pointer (some ⟨g,0,none⟩)
 |.func g=>.func (.func g) #[] #[]
def evl(f:Fr)(a:Array Operand):List Value:=a.toList.map (ev f)
def ofL(l:List UInt8):ByteArray:=⟨l.toArray⟩
theorem eM(l:List UInt8):(ofL l).data.toList=l:=by simp[ofL]
theorem fT(l:List UInt8):(ofL l).size=l.length:=by simp[ofL,ByteArray.size]
theorem NC{a b:List UInt8}:ofL a=ofL b↔a=b:=by
 constructor
 ·intro h;have:=congrArg (λs=>s.data.toList) h;simpa[ofL]using this
 ·rintro rfl;rfl
class HX where
 X:List PanicEntry->World->Prop
@[reducible] def noX:HX:=⟨λ_ _=>False⟩
def Gr[HX](K:Value->World->Prop):Ending->World->Prop
 |.returned v,w=>K v w
 |.panicked c,w=>HX.X c w
 |.outgrown,_=>False
theorem Gr.mono[HX]{K':Value->World->Prop}(j:∀v w,K v w->K' v w){e:Ending}(h:Gr K e w):Gr K' e w:=by
 cases e with
 |returned v=>exact j _ _ h
 |panicked c=>exact h
 |outgrown=>exact h.elim
def Res[HX](P:Program)(K:Value->World->Prop):Result Next->Prop
 |.ok (.value v) w=>K v w
 |.ok .skip w=>K undef w
 |.ok (.enter g args) w=>Calls P g args w (Gr K)
 |.ok (.row r args) w=>Rows P r args w K
 |.halt (.panic v) w=>HX.X [{v,recovered:=false}] w
 |_=>False
theorem Res.upon[HX]{o:Oper}{a:Act}{next:Act->World->Prop}{Q:Exit->Act->World->Prop}
  (I:∀v w,K v w->next (a.put o.dst v) w)(J:∀c w,HX.X c w->Q (.panic c) a w){r:Result Next}(h:Res P K r):o.upon P a next Q r:=by
 cases r with
 |ok n w=>
  cases n<;>simp only[Res]at h<;>simp only[Oper.upon]<;>first
   |exact I _ _ h
   |exact h.elim
   |exact h.mono λ_ _ j=>I _ _ j
   |(refine h.mono λe w' j=>?_
     cases e with
     |returned v=>exact I _ _ j
     |panicked c=>exact J _ _ j
     |outgrown=>exact j.elim)
 |halt x w=>
  cases x<;>simp only[Res]at h<;>simp only[Oper.upon]<;>first
   |exact h.elim
   |exact J _ _ h
theorem Res.mono[HX]{K':Value->World->Prop}(j:∀v w,K v w->K' v w){r:Result Next}(h:Res P K r):Res P K' r:=by
 cases r with
 |ok n w=>
  cases n<;>simp only[Res]at h⊢<;>first
   |exact j _ _ h
   |exact h.elim
   |exact h.mono λ_ _ o=>j _ _ o
   |exact h.mono λe w' o=>o.mono j
 |halt x w=>
  cases x<;>simp only[Res]at h⊢<;>first
   |exact h.elim
   |exact h
def lL(c:Bool)(A:Prop):Prop:=bif c then A else False
theorem lL.out{c:Bool}{A:Prop}(h:lL c A):c=true/\A:=by
 cases c with
 |true=>exact⟨rfl,h⟩
 |false=>exact h.elim
def cV(c a b:Value)(K:Value->Prop):Prop:=match c with|.bool t=>K (bif t then a else b)|_=>False
def eF(v:Value)(K:Value->Prop):Prop:=
 match v with
 |.pointer (some _)=>K v
 |.func (.func _) _ _=>K v
 |.iface _ _=>K v
 |_=>False
def aQ(op:BinOp)(x y:Value)(K:Value->Prop):Prop:=
 match x,y with
 |.int k a,.int k' b=>
  match op with
  |.shl=>0<=b/\K (.int k (k.wrap (a*2^min b.toNat k.bits)))
  |.shr=>0<=b/\K (.int k (a.fdiv (2^min b.toNat k.bits)))
  |.add=>k=k'/\K (.int k (k.wrap (a+b)))
  |.sub=>k=k'/\K (.int k (k.wrap (a-b)))
  |.mul=>k=k'/\K (.int k (k.wrap (a*b)))
  |.quo=>k=k'/\b≠0/\K (.int k (k.wrap (a.tdiv b)))
  |.rem=>k=k'/\b≠0/\K (.int k (a.tmod b))
  |.and=>k=k'/\K (.int k (k.wrap (BitVec.ofInt k.bits a&&&BitVec.ofInt k.bits b).toNat))
  |.or=>k=k'/\K (.int k (k.wrap (BitVec.ofInt k.bits a|||BitVec.ofInt k.bits b).toNat))
  |.xor=>k=k'/\K (.int k (k.wrap (BitVec.ofInt k.bits a^^^BitVec.ofInt k.bits b).toNat))
  |.andNot=>k=k'/\K (.int k (k.wrap (BitVec.ofInt k.bits a&&&~~~BitVec.ofInt k.bits b).toNat))
  |.eql=>k=k'/\K (.bool (decide (a=b)))
  |.neq=>k=k'/\K (.bool (decide (a≠b)))
  |.lss=>k=k'/\K (.bool (decide (a<b)))
  |.leq=>k=k'/\K (.bool (decide (a<=b)))
  |.gtr=>k=k'/\K (.bool (decide (b<a)))
  |.geq=>k=k'/\K (.bool (decide (b<=a)))
 |.string a,.string b=>
  match op with
  |.add=>((a.size+b.size:Nat):Int)<=IntKind.i64.max/\K (.string (a++b))
  |.eql=>K (.bool (decide (a.data.toList=b.data.toList)))
  |.neq=>K (.bool (decide (a.data.toList≠b.data.toList)))
  |.lss=>K (.bool (Op.bytesLess a.data.toList b.data.toList))
  |.leq=>K (.bool (Op.bytesLess a.data.toList b.data.toList||decide (a.data.toList=b.data.toList)))
  |.gtr=>K (.bool (!(Op.bytesLess a.data.toList b.data.toList||decide (a.data.toList=b.data.toList))))
  |.geq=>K (.bool (!Op.bytesLess a.data.toList b.data.toList))
  |_=>False
 |_,_=>False
inductive EqK|bool|ptr|slice|map|func
def EqK.of:TypeDesc->Option EqK
 |.bool=>some .bool
 |.pointer _=>some .ptr
 |.slice _=>some .slice
 |.map _ _=>some .map
 |.func _ _ _=>some .func
 |_=>none
def eqW(k:EqK)(n:Bool)(x y:Value)(K:Value->Prop):Prop:=
 match k,x,y with
 |.bool,.bool a,.bool b=>K (.bool (n^^(a==b)))
 |.ptr,.pointer none,.pointer b=>K (.bool (n^^b.isNone))
 |.ptr,.pointer (some _),.pointer none=>K (.bool n)
 |.slice,.slice none _ _,.slice b _ _=>K (.bool (n^^b.isNone))
 |.slice,.slice (some _) _ _,.slice none _ _=>K (.bool n)
 |.map,.map none,.map b=>K (.bool (n^^b.isNone))
 |.map,.map (some _),.map none=>K (.bool n)
 |.func,.nilFunc,.nilFunc=>K (.bool (!n))
 |.func,.nilFunc,.func _ _ _=>K (.bool n)
 |.func,.func _ _ _,.nilFunc=>K (.bool n)
 |_,_,_=>False
def unW(op:UnOp)(x:Value)(K:Value->Prop):Prop:=
 match op,x with
 |.not,.bool b=>K (.bool (!b))
 |.neg,.int k n=>K (.int k (k.wrap (0-n)))
 |.xor,.int k n=>K (.int k (k.wrap (BitVec.ofInt k.bits (if k.signed then-1 else k.max)^^^BitVec.ofInt k.bits n).toNat))
 |_,_=>False
def sK(k:IntKind)(x:Value)(K:Value->Prop):Prop:=match x with|.int _ n=>K (.int k (k.wrap n))|_=>False
def Xt(x:Value)(K:Value->Prop):Prop:=match x with|.int _ n=>K (.string (Utf8.encode n))|.string s=>K (.string s)|_=>False
def lT(agg:Bool)(off size:Nat)(x:Value)(K:Value->Prop):Prop:=
 match x with
 |.agg cs=>bif agg then K (.agg (cs.extract off (off+size)))else(∃c,cs[off]?=some c/\K c)
 |_=>False
def aZ(off:Nat)(x:Value)(K:Value->Prop):Prop:=
 match x with
 |.pointer (some a)=>K (.pointer (some (a.add off)))
 |_=>False
def dP(len:Option Nat)(size:Nat)(x i:Value)(K:Value->Prop):Prop:=
 match len,x,i with
 |none,.slice (some a) n _,.int _ i=>0<=i/\i<n/\K (.pointer (some (a.add (i.toNat*size))))
 |some n,.pointer (some a),.int _ i=>0<=i/\i<n/\K (.pointer (some (a.add (i.toNat*size))))
 |_,_,_=>False
def qE(x i:Value)(K:Value->Prop):Prop:=
 match x,i with
 |.string s,.int _ i=>0<=i/\∃b,s.data.toList[i.toNat]?=some b/\K (.int .u8 b.toNat)
 |_,_=>False
def aDY(len:Nat)(agg:Bool)(size:Nat)(x i:Value)(K:Value->Prop):Prop:=
 match i with
 |.int _ i=>0<=i/\i<len/\lT agg (i.toNat*size) size x K
 |_=>False
def bdW(x:Option Value)(dflt:Nat)(lim:Nat)(K:Nat->Prop):Prop:=
 match x with
 |none=>K dflt
 |some (.int _ i)=>0<=i/\i<=lim/\K i.toNat
 |some _=>False
def mY(x:Value)(lo hi:Option Value)(K:Value->Prop):Prop:=
 match x with
 |.string s=>bdW hi s.size s.size λh=>bdW lo 0 h λl=>K (.string (ofL ((s.data.toList.take h).drop l)))
 |_=>False
def kR(size:Nat)(x:Value)(lo hi mx:Option Value)(K:Value->Prop):Prop:=
 match x with
 |.slice a len cap=>bdW mx cap cap λm=>(bdW hi len m λh=>bdW lo 0 h λl=>
   K (.slice (if m=l then a else a.map (·.add (l*size))) (h-l) (m-l)))
 |_=>False
def ON(n size:Nat)(x:Value)(lo hi mx:Option Value)(K:Value->Prop):Prop:=
 match x with
 |.pointer (some a)=>bdW mx n n λm=>(bdW hi n m λh=>bdW lo 0 h λl=>
   K (.slice (some (if m=l then a else a.add (l*size))) (h-l) (m-l)))
 |_=>False
def dO(i:Nat)(x:Value)(K:Value->Prop):Prop:=match x with|.tuple vs=>(match vs[i]? with|some v=>K v|none=>False)|_=>False
def dJ(cells:List Value):List (Nat×Nat×Value)->(List Value->Prop)->Prop
 |[],K=>K cells
 |(off,size,v)::r,K=>v.cells.size=size/\off+size<=cells.length/\dJ (cells.take off++(v.cells.toList++cells.drop (off+size))) r K
def iT(x:Value)(K:Value->Prop):Prop:=match x with|.string s=>K (.int .i64 s.size)|_=>False
def dA(x:Value)(K:Value->Prop):Prop:=match x with|.slice _ n _=>K (.int .i64 n)|_=>False
def Qh(x:Value)(K:Value->Prop):Prop:=match x with|.slice _ _ n=>K (.int .i64 n)|_=>False
def WE(x y:Value)(K:Value->Prop):Prop:=match x,y with|.int k a,.int _ b=>K (.int k (if b<a then b else a))|_,_=>False
def ZR(x y z:Value)(K:Value->Prop):Prop:=match x,y,z with|.int k a,.int _ b,.int _ c=>K (.int k (if c<(if b<a then b else a)then c else(if b<a then b else a)))|_,_,_=>False
def RO(x y:Value)(K:Value->Prop):Prop:=match x,y with|.int k a,.int _ b=>K (.int k (if a<b then b else a))|_,_=>False
def kI(w:World)(a:Addr):Nat->Nat->Option (List Value)
 |_,0=>some []
 |i,n+1=>match w.cell? (a.add i)with|some v=>(kI w a (i+1) n).map (v::·)|none=>none
def ldW(agg:Bool)(n:Nat)(x:Value)(w:World)(K:Value->Prop):Prop:=
 match x with
 |.pointer (some a)=>bif agg then(∃l,kI w a 0 n=some l/\K (.agg l.toArray))else(∃v,w.cell? a=some v/\K v)
 |_=>False
def nZ(P:Program)(s:Sem Value)(w:World)(K:Value->Prop):Prop:=∃v,s.run P w=.ok v w/\K v
def dF(P:Program)(s:Sem Value)(w:World)(K:Value->World->Prop):Prop:=match s.run P w with|.ok v w'=>K v w'|_=>False
def nY(P:Program)(s:Sem Unit)(w:World)(K:World->Prop):Prop:=match s.run P w with|.ok _ w'=>K w'|_=>False
def QV[HX](P:Program)(s:Sem Next)(w:World)(K:Value->World->Prop):Prop:=Res P K (s.run P w)
def bQ(T:TypeId)(zero:List Value)(w:World)(K:Value->World->Prop):Prop:=
 K (.pointer (some ⟨w.heap.size,0,none⟩)) (w.alloc (.cells zero.toArray T))
def eW(T:TypeId)(v:Value)(w:World)(K:Value->World->Prop):Prop:=
 K (.pointer (some ⟨w.heap.size,0,none⟩)) (w.alloc (.cells v.cells T))
def dN(T:TypeId)(len:Nat)(zero:List Value)(parts:List (Nat×Nat×Value))(w:World)(K:Value->World->Prop):Prop:=
 dJ zero parts λcs=>K (.slice (some ⟨w.heap.size,0,none⟩) len len) (w.alloc (.cells cs.toArray T))
def fC:Value->Bool
 |.agg _|.tuple _=>false
 |_=>true
def sE(a:Addr):List Value->Nat->World->(World->Prop)->Prop
 |[],_,w,K=>K w
 |v::r,i,w,K=>fC v=true/\(w.cell? (a.add i)).isSome=true/\w.frozen? (a.add i)=false/\sE a r (i+1) (w.setCell (a.add i) v) K
def stW(n:Nat)(x v:Value)(w:World)(K:World->Prop):Prop:=
 match x with
 |.pointer (some a)=>v.cells.size=n/\sE a v.cells.toList 0 w K
 |_=>False
def aAc[HX](P:Program)(g:FuncId)(args:List Value)(w:World)(K:Value->World->Prop):Prop:=
 Calls P g args.toArray w (Gr K)
def Pd[HX](x:Value)(w:World):Prop:=match x with|.iface T v=>HX.X [{v:=.iface T v,recovered:=false}] w|_=>False
def aC[HX](P:Program)(g:FuncId)(args:List Value)(w:World)(K:Value->World->Prop):Prop:=
 Res P K ((callFunc g args.toArray).run P w)
def pG[HX](P:Program)(v:Value)(args:List Value)(w:World)(K:Value->World->Prop):Prop:=
 QV P (do let d<-Deferred.ofValue v args.toArray;invoke d.target d.args) w K
def aBQ:TypeDesc->Bool
 |.struct _|.array _ _=>true
 |_=>false
def vN(P:Program)(T:TypeId):Bool:=match P.underlying T with|some d=>aBQ d|none=>false
def jZ(P:Program)(T:TypeId):Nat:=match P.info? T with|some i=>i.size|none=>0
def CV(P:Program)(T:TypeId):Option Value:=match P.info? T with|some i=>i.zero|none=>none
def uQ(places:Nat->Option (Nat×Nat))(f:Fr):List (Nat×Operand)->Option (List (Nat×Nat×Value))
 |[]=>some []
 |(i,x)::r=>match places i,uQ places f r with
  |some (off,size),some l=>some ((off,size,ev f x)::l)
  |_,_=>none
def Me(P:Program)(fs:Array Field)(i:Nat):Option (Nat×Nat):=match fs[i]? with|some g=>some (g.offset,jZ P g.type)|none=>none
def Nf(P:Program)(T:TypeId)(f:Fr)(parts:List (Nat×Operand))(K:Value->Prop):Prop:=
 match P.underlying T,CV P T with
 |some (.struct fs),some z=>
  (match uQ (Me P fs) f parts with
   |some l=>lL (fs.all (λg=>(P.info? g.type).isSome)) (dJ z.cells.toList l λcs=>K (.agg cs.toArray))
   |none=>False)
 |some (.array _ e),some z=>
  (match uQ (λi=>some (i*jZ P e,jZ P e)) f parts with
   |some l=>lL (P.info? e).isSome (dJ z.cells.toList l λcs=>K (.agg cs.toArray))
   |none=>False)
 |_,_=>False
def aEb(P:Program)(op:BinOp)(T:TypeId)(x y:Value)(K:Value->Prop):Prop:=
 match op,(match P.underlying T with|some d=>EqK.of d|none=>none)with
 |.eql,some k=>eqW k false x y K
 |.neq,some k=>eqW k true x y K
 |_,_=>aQ op x y K
def ZY(P:Program)(s d:TypeId)(x:Value)(K:Value->Prop):Prop:=
 match P.underlying s,P.underlying d with
 |some (.int _),some (.int k)=>sK k x K
 |some (.int _),some .string=>Xt x K
 |some .string,some .string=>Xt x K
 |_,_=>False
def Fi(P:Program)(T:TypeId)(x i:Value)(K:Value->Prop):Prop:=
 match P.underlying T with
 |some (.slice e)=>lL (P.info? e).isSome (dP none (jZ P e) x i K)
 |some (.array n e)=>lL (P.info? e).isSome (dP (some n) (jZ P e) x i K)
 |_=>False
def Sx(P:Program)(T:TypeId)(x i:Value)(K:Value->Prop):Prop:=
 match P.underlying T with
 |some .string=>qE x i K
 |some (.array n e)=>lL (P.underlying e).isSome (aDY n (vN P e) (jZ P e) x i K)
 |_=>False
def LY(P:Program)(T:TypeId)(x:Value)(lo hi mx:Option Value)(K:Value->Prop):Prop:=
 match P.underlying T with
 |some .string=>lL (!mx.isSome) (mY x lo hi K)
 |some (.slice e)=>lL (!mx.isSome||hi.isSome) (lL (P.info? e).isSome (kR (jZ P e) x lo hi mx K))
 |some (.array n e)=>lL (!mx.isSome||hi.isSome) (lL (P.info? e).isSome (ON n (jZ P e) x lo hi mx K))
 |_=>False
def GN(P:Program)(b:Builtin)(argTypes:Array TypeId)(args:List Value)(K:Value->Prop):Prop:=
 match b,args with
 |.len,[x]=>(match argTypes[0]? with
   |some T=>(match P.underlying T with
    |some .string=>iT x K
    |some (.slice _)=>dA x K
    |some (.array n _)=>K (.int .i64 n)
    |_=>False)
   |none=>False)
 |.cap,[x]=>(match argTypes[0]? with
   |some T=>(match P.underlying T with
    |some (.slice _)=>Qh x K
    |_=>False)
   |none=>False)
 |.min,[x,y]=>WE x y K
 |.min,[x,y,z]=>ZR x y z K
 |.max,[x,y]=>RO x y K
 |_,_=>False
def Nx(P:Program)(f:Fr)(op:Op)(K:Value->Prop):Prop:=
 match op with
 |.move x|.assign x=>K (ev f x)
 |.pick c a b=>cV (ev f c) (ev f a) (ev f b) K
 |.nilCheck x=>eF (ev f x) K
 |.binOp op T x y _=>aEb P op T (ev f x) (ev f y) K
 |.unOp op _ x=>unW op (ev f x) K
 |.convert s d x=>ZY P s d (ev f x) K
 |.makeInterface T x=>(match P.underlying T with|some (.interface _)=>False|none=>False|_=>K (.iface T (ev f x)))
 |.makeFunc fn first cap=>K (.func fn (evl f first).toArray (evl f cap).toArray)
 |.field T x i=>(match P.underlying T with
   |some (.struct fs)=>(match fs[i]? with|some g=>lL (P.underlying g.type).isSome (lT (vN P g.type) g.offset (jZ P g.type) (ev f x) K)|none=>False)
   |_=>False)
 |.fieldAddr T x i=>(match P.underlying T with
   |some (.struct fs)=>(match fs[i]? with|some g=>lL (!(Nat.beq (jZ P g.type) 0)) (aZ g.offset (ev f x) K)|none=>False)
   |_=>False)
 |.indexAddr T x i=>Fi P T (ev f x) (ev f i) K
 |.index T x i=>Sx P T (ev f x) (ev f i) K
 |.slice T x lo hi mx=>LY P T (ev f x) (lo.map (ev f)) (hi.map (ev f)) (mx.map (ev f)) K
 |.extract t i=>dO i (ev f t) K
 |.build T parts=>Nf P T f parts.toList K
 |.call {callee:=.builtin b,args,argTypes}=>GN P b argTypes (evl f args) K
 |_=>False
def nH(P:Program):Op->Bool
 |.move _|.assign _|.pick ..|.nilCheck _|.unOp ..|.makeInterface ..|.makeFunc ..|.field ..|.fieldAddr ..|.indexAddr ..|.index ..|.slice ..
 |.extract ..|.build ..=>true
 |.binOp op T _ _ _=>(match op with
  |.eql|.neq=>(match P.underlying T with|some (.interface _)|some (.struct _)|some (.array _ _)|some (.chan _ _)|none=>false|_=>true)
  |_=>true)
 |.convert s d _=>(match P.underlying s,P.underlying d with|some (.int _),some (.int _)|some (.int _),some .string|some .string,some .string=>true|_,_=>false)
 |.call {callee:=.builtin b,argTypes,..}=>(match b with
  |.min|.max|.cap=>true
  |.len=>(match argTypes[0]? with|some T=>(match P.underlying T with|some (.map _ _)|none=>false|_=>true)|none=>false)
  |_=>false)
 |_=>false
def xS(P:Program)(s:Sem Value)(K:Value->Prop):Prop:=∃v,K v/\∀w,s.run P w=.ok v w
theorem run_bind{α β:Type}(P:Program)(s:Sem α)(k:α->Sem β)(w:World):
  (s>>=k).run P w=match s.run P w with|.ok a w'=>(k a).run P w'|.halt h w'=>.halt h w':=by
 show(Sem.bind s k).run P w=_;induction s generalizing w with
 |pure a=>simp[Sem.bind,Sem.run]
 |load m a c ih=>simp only[Sem.bind,Sem.run];(repeat' split)<;>simp_all
 |store m a v c ih=>
  cases v<;>simp only[Sem.bind,Sem.run]<;>((repeat' split)<;>simp_all)
 |new o c ih=>simp[Sem.bind,Sem.run,ih]
 |shape r c ih=>simp[Sem.bind,Sem.run,ih]
 |freeze a n c ih=>simp[Sem.bind,Sem.run,ih]
 |frozen a c ih=>simp[Sem.bind,Sem.run,ih]
 |getObj r c ih=>simp only[Sem.bind,Sem.run];(repeat' split)<;>simp_all
 |setObj r o c ih=>simp only[Sem.bind,Sem.run];(repeat' split)<;>simp_all
 |choose q c ih=>simp only[Sem.bind,Sem.run];(repeat' split)<;>simp_all
 |sys c k' ih=>simp[Sem.bind,Sem.run,ih]
 |program c ih=>simp[Sem.bind,Sem.run,ih]
 |mark m c ih=>simp[Sem.bind,Sem.run,ih]
 |halt h=>simp[Sem.bind,Sem.run]
theorem run_pure{α:Type}(P:Program)(a:α)(w:World):(pure a:Sem α).run P w=.ok a w:=rfl
theorem bJ{d:TypeDesc}(h:P.underlying T=some d)(w:World):(underlying T).run P w=.ok d w:=by
 simp[underlying,run_bind,program,Sem.run,h,run_pure]
theorem AD{i:TypeInfo}(h:P.info? T=some i)(w:World):(typeInfo T).run P w=.ok i w:=by
 simp[typeInfo,run_bind,program,Sem.run,h,run_pure]
theorem gG(h:(P.info? T).isSome=true)(w:World):(sizeOf T).run P w=.ok (jZ P T) w:=by
 cases hi:P.info? T with
 |none=>rw[hi]at h;cases h
 |some i=>simp[sizeOf,run_bind,AD hi,run_pure,jZ,hi]
theorem rJ(h:(P.underlying T).isSome=true):(P.info? T).isSome=true:=by
 unfold Program.underlying at h;cases hi:P.info? T with
 |none=>simp[hi]at h
 |some i=>rfl
theorem xC(h:(P.underlying T).isSome=true)(w:World):(isAgg T).run P w=.ok (vN P T) w:=by
 cases hi:P.underlying T with
 |none=>rw[hi]at h;cases h
 |some d=>
  simp only[isAgg,run_bind,bJ hi,vN,hi];cases d<;>rfl
theorem sM{z:Value}(h:CV P T=some z)(w:World):(zeroValue T).run P w=.ok z w:=by
 unfold CV at h;cases hi:P.info? T with
 |none=>simp[hi]at h
 |some i=>
  simp only[hi]at h;simp[zeroValue,run_bind,AD hi,h,run_pure]
theorem Kc{off:Nat}{x:Value}{K:Value->Prop}(hT:(P.underlying T).isSome=true)(h:lT (vN P T) off (jZ P T) x K):
  ∃cs,x=.agg cs/\xS P (part T cs off) K:=by
 cases x with
 |agg cs=>
  refine⟨cs,rfl,?_⟩;simp only[lT]at h;cases j:vN P T with
  |true=>
   rw[j]at h;exact⟨_,h,λw=>by simp[part,run_bind,xC hT,j,gG (rJ hT),run_pure]⟩
  |false=>
   rw[j]at h;obtain⟨c,I,o⟩:=h;exact⟨c,o,λw=>by simp[part,run_bind,xC hT,j,I,run_pure]⟩
 |_=>exact h.elim
theorem Je{x:Option Value}{dflt lim:Nat}{K:Nat->Prop}(h:bdW x dflt lim K):
  ∃n,K n/\((x=none/\n=dflt)\/∃v,x=some v/\∀(code:BoundsCode) (w:World),(Instr.sliceBound v lim code).run P w=.ok n w):=by
 cases x with
 |none=>exact⟨dflt,h,.inl ⟨rfl,rfl⟩⟩
 |some v=>
  cases v<;>simp only[bdW]at h
  case int k i=>
   obtain⟨h0,h1,j⟩:=h;exact⟨_,j,.inr ⟨_,rfl,λcode w=>by simp[Instr.sliceBound,asIntOf,run_bind,run_pure,h0,h1]⟩⟩
theorem AZ{isSlice:Bool}{len cap:Nat}{lo hi mx:Option Value}{K:Nat->Nat->Nat->Prop}(hm:mx.isSome=true->hi.isSome=true)
  (h:bdW mx cap cap λm=>bdW hi len m λh=>bdW lo 0 h λl=>K l h m):
  ∃l h m,K l h m/\∀w,(Instr.sliceBounds isSlice len cap lo hi mx).run P w=.ok (l,h,m) w:=by
 obtain⟨m,h1,j⟩:=Je (P:=P) h;obtain⟨J,h2,I⟩:=Je (P:=P) h1;obtain⟨l,U,o⟩:=Je (P:=P) h2;refine⟨l,J,m,U,λw=>?_⟩;rcases j with⟨rfl,rfl⟩|⟨vm,rfl,rm⟩<;>rcases I with⟨rfl,rfl⟩|⟨vh,rfl,rh⟩<;>rcases o with⟨rfl,rfl⟩|⟨vl,rfl,rl⟩<;>
  first
   |(simp at hm;done)
   |simp[Instr.sliceBounds,run_bind,run_pure, *]
theorem zW{place:Nat->Option (Nat×Nat)}{f:Fr}{K:List Value->Prop}:∀(parts:List (Nat×Operand)) (l:List (Nat×Nat×Value)) (cells:List Value),
  uQ place f parts=some l->dJ cells l K->∃cs,K cs/\Instr.fill place cells.toArray (parts.map λp=>(p.1,ev f p.2))=some cs.toArray
 |[],l,cells,hp,h=>by
  simp only[uQ,bF]at hp
  subst hp
  exact⟨cells,h,rfl⟩
 |(i,x)::r,l,cells,hp,h=>by
  simp only[uQ]at hp
  cases o:place i with
  |none=>simp[o]at hp
  |some os=>
   obtain⟨off,size⟩:=os
   cases J:uQ place f r with
   |none=>simp[o,J]at hp
   |some l'=>
    simp only[o,J,bF]at hp
    subst hp
    obtain⟨h1,h2,h3⟩:=h
    obtain⟨cs,I,hf⟩:=zW r l' _ J h3
    refine⟨cs,I,?_⟩
    simp only[dC,Instr.fill,o]
    rw[aE (by simp[h1];omega)]
    rw[<-hf]
    congr 1
    have key:∀(vs:List Value) (k:Nat) (cs:List Value),off+k+vs.length<=cs.length->
      (vs.zipIdx k).foldl (λ(a:Array Value) (p:Value×Nat)=>a.setIfInBounds (off+p.2) p.1) cs.toArray=(cs.take (off+k)++(vs++cs.drop (off+k+vs.length))).toArray:=by
     intro vs;induction vs with
     |nil=>intro k cs _;simp
     |cons v vs ih=>
      intro k cs U;simp only[aB]at U;simp only[List.zipIdx_cons,List.foldl_cons];rw[List.setIfInBounds_toArray,ih (k+1) _ (by simp;omega)];congr 1;apply List.ext_getElem?;intro j;simp only[List.getElem?_append,bS,List.length_set,List.getElem?_take,List.getElem?_set,List.getElem?_drop,aB,List.getElem?_cons]
      (repeat' split)<;>first
        |rfl
        |omega
        |(simp_all;done)
        |(congr 1;omega)
        |(rename_i h1 h2 h3;simp at h1;omega)
    have I:=key (ev f x).cells.toList 0 cells (by simp;omega);simp only[eU]at I;rw[<-h1];simp only[DZ]at I;rw[<-I,<-Array.foldl_toList];simp
def mC(P:Program)(s:Sem Next)(K:Value->Prop):Prop:=∃v,K v/\∀w,s.run P w=.ok (.value v) w
theorem mC.of1{s:Sem Value}{K:Value->Prop}(h:xS P s K):mC P (do pure (.value (<-s))) K:=by
 obtain⟨v,o,j⟩:=h;exact⟨v,o,λw=>by rw[run_bind,j];rfl⟩
theorem Jd{α:Type}[BEq α][LawfulBEq α][DecidableEq α](a b:α):(a==b)=decide (a=b):=by
 by_cases h:a=b<;>simp[h]
theorem Qs{op:BinOp}{x y:Operand}{f:Fr}{K:Value->Prop}(h:aQ op (ev f x) (ev f y) K):
  xS P (do eqGuard op T x y (ev f x) (ev f y);binOp op T (ev f x) (ev f y)) K:=by
 generalize ev f x=a at*
 generalize ev f y=b at*
 cases a<;>cases b<;>simp only[aQ]at h<;>first|exact h.elim|skip
 case int.int k a k' b=>
  have o:∀w,(eqGuard op T x y (.int k a) (.int k' b)).run P w=.ok () w:=λw=>by cases op<;>simp[eqGuard,run_pure]
  cases op<;>simp only at h
  case shl=>exact⟨_,h.2,λw=>by rw[run_bind,o];simp[binOp,Op.shift,run_pure,Int.not_lt.2 h.1]⟩
  case shr=>exact⟨_,h.2,λw=>by rw[run_bind,o];simp[binOp,Op.shift,run_pure,Int.not_lt.2 h.1]⟩
  case quo=>obtain⟨rfl,hb,j⟩:=h;exact⟨_,j,λw=>by rw[run_bind,o];simp[binOp,Op.intDiv,run_pure,hb]⟩
  case rem=>obtain⟨rfl,hb,j⟩:=h;exact⟨_,j,λw=>by rw[run_bind,o];simp[binOp,Op.intDiv,run_pure,hb]⟩
  case add=>obtain⟨rfl,j⟩:=h;exact⟨_,j,λw=>by rw[run_bind,o];simp[binOp,Op.intArith,run_pure]⟩
  case sub=>obtain⟨rfl,j⟩:=h;exact⟨_,j,λw=>by rw[run_bind,o];simp[binOp,Op.intArith,run_pure]⟩
  case mul=>obtain⟨rfl,j⟩:=h;exact⟨_,j,λw=>by rw[run_bind,o];simp[binOp,Op.intArith,run_pure]⟩
  case and=>obtain⟨rfl,j⟩:=h;exact⟨_,j,λw=>by rw[run_bind,o];simp only[binOp,Op.intBits,bP,As,kL];rfl⟩
  case or=>obtain⟨rfl,j⟩:=h;exact⟨_,j,λw=>by rw[run_bind,o];simp only[binOp,Op.intBits,bP,As,kL];rfl⟩
  case xor=>obtain⟨rfl,j⟩:=h;exact⟨_,j,λw=>by rw[run_bind,o];simp only[binOp,Op.intBits,bP,As,kL];rfl⟩
  case andNot=>obtain⟨rfl,j⟩:=h;exact⟨_,j,λw=>by rw[run_bind,o];simp only[binOp,Op.intBits,bP,As,kL];rfl⟩
  case eql=>obtain⟨rfl,j⟩:=h;exact⟨_,j,λw=>by rw[run_bind,o];simp[binOp,Op.intCmp,run_pure,Jd]⟩
  case neq=>obtain⟨rfl,j⟩:=h;exact⟨_,j,λw=>by rw[run_bind,o];simp[binOp,Op.intCmp,run_pure,bne,Jd]⟩
  case lss=>obtain⟨rfl,j⟩:=h;exact⟨_,j,λw=>by rw[run_bind,o];simp[binOp,Op.intCmp,run_pure]⟩
  case leq=>obtain⟨rfl,j⟩:=h;exact⟨_,j,λw=>by rw[run_bind,o];simp[binOp,Op.intCmp,run_pure]⟩
  case gtr=>obtain⟨rfl,j⟩:=h;exact⟨_,j,λw=>by rw[run_bind,o];simp[binOp,Op.intCmp,run_pure]⟩
  case geq=>obtain⟨rfl,j⟩:=h;exact⟨_,j,λw=>by rw[run_bind,o];simp[binOp,Op.intCmp,run_pure]⟩
 case string.string a b=>
  have o:∀w,(eqGuard op T x y (.string a) (.string b)).run P w=.ok () w:=λw=>by cases op<;>simp[eqGuard,run_pure]
  have I:(a.toList==b.toList)=decide (a.data.toList=b.data.toList):=by rw[ByteArray.toList_eq,ByteArray.toList_eq,Jd]
  have hl:Op.bytesLess a.toList b.toList=Op.bytesLess a.data.toList b.data.toList:=by rw[ByteArray.toList_eq,ByteArray.toList_eq]
  cases op<;>simp only at h<;>first|exact h.elim|skip
  case add=>exact⟨_,h.2,λw=>by rw[run_bind,o];simp only[binOp,Op.stringOp];rw[aE (by have:=h.1;omega)];rfl⟩
  case eql=>exact⟨_,h,λw=>by rw[run_bind,o];simp only[binOp,Op.stringOp];rw[I];rfl⟩
  case neq=>exact⟨_,h,λw=>by rw[run_bind,o];simp only[binOp,Op.stringOp];rw[I];simp[run_pure]⟩
  case lss=>exact⟨_,h,λw=>by rw[run_bind,o];simp only[binOp,Op.stringOp];rw[hl];rfl⟩
  case leq=>exact⟨_,h,λw=>by rw[run_bind,o];simp only[binOp,Op.stringOp];rw[I,hl];rfl⟩
  case gtr=>exact⟨_,h,λw=>by rw[run_bind,o];simp only[binOp,Op.stringOp];rw[I,hl];rfl⟩
  case geq=>exact⟨_,h,λw=>by rw[run_bind,o];simp only[binOp,Op.stringOp];rw[hl];rfl⟩
theorem PV{op:BinOp}{x y:Operand}{k:EqK}{n:Bool}{a b:Value}{K:Value->Prop}(h:eqW k n a b K)(w:World):
  (eqGuard op T x y a b).run P w=.ok () w:=by
 cases op<;>simp only[eqGuard]<;>first|rfl|(cases a<;>cases b<;>first|rfl|(cases k<;>exact h.elim))
theorem aDo{x y:Operand}{f:Fr}{d:TypeDesc}{k:EqK}{n:Bool}{K:Value->Prop}(hd:P.underlying T=some d)(U:EqK.of d=some k)
  (h:eqW k n (ev f x) (ev f y) K):
  xS P (do eqGuard (bif n then .neq else .eql) T x y (ev f x) (ev f y);binOp (bif n then .neq else .eql) T (ev f x) (ev f y)) K:=by
 have o:=λw=>PV (P:=P) (op:=(bif n then .neq else .eql)) (T:=T) (x:=x) (y:=y) h w;generalize ev f x=a at*
 generalize ev f y=b at*
 have key:∀(a b:Value) (r:Bool),(∀m w,(Op.equalIn (m+1) T a b).run P w=.ok r w)->
   (binOp .eql T a b=(do pure (.bool (<-Op.equal T a b))))->(binOp .neq T a b=(do pure (.bool (!(<-Op.equal T a b)))))->K (.bool (n^^r))->(∀w,(eqGuard (bif n then .neq else .eql) T x y a b).run P w=.ok () w)->
   xS P (do eqGuard (bif n then .neq else .eql) T x y a b;binOp (bif n then .neq else .eql) T a b) K:=by
  intro a b r h0 h1 h2 hK o;have j:∀w,(Op.equal T a b).run P w=.ok r w:=λw=>h0 9999 w;refine⟨_,hK,λw=>?_⟩;rw[run_bind,o];cases n
  ·simp only[aK,h1,run_bind,j,run_pure,Bool.false_bne]
  ·simp only[aM,h2,run_bind,j,run_pure,Bool.true_bne]
 have I:=λw=>bJ hd w;cases d<;>simp only[EqK.of,reduceCtorEq,bF]at U<;>subst U<;>unfold eqW at h<;>split at h<;>first
  |exact h.elim
  |(rename_i j _ _;cases j;done)
  |(rename_i j;cases j;done)
  |exact key _ _ _ (λm w=>by simp only[Op.equalIn,run_bind,I];exact run_pure _ _ _) rfl rfl h o
  |exact key _ _ true (λm w=>by simp[Op.equalIn,run_bind,I,run_pure]) rfl rfl (by simpa using h) o
  |exact key _ _ false (λm w=>by simp[Op.equalIn,run_bind,I,run_pure]) rfl rfl (by simpa using h) o
  |(rename_i J hh hc;cases J;done)
  |(simp_all;done)
theorem xN(f:Fr)(a:Array Operand):a.map (ev f)=(evl f a).toArray:=by apply yG;simp[evl]
theorem JH{fn:Fn}{a b:Array Value}:(Instr.makeFunc fn a b).run P w=.ok (.func fn a b) w:=rfl
theorem Qk{f:Fr}{parts:Array (Nat×Operand)}{K:Value->Prop}(h:Nf P T f parts.toList K):
  xS P (Instr.build T (parts.map λ(i,x)=>(i,ev f x))) K:=by
 unfold Nf at h;have hparts:(parts.map λ(i,x)=>(i,ev f x)).toList=parts.toList.map λp=>(p.1,ev f p.2):=by simp
 split at h
 ·rename_i fs z hd J;split at h
  ·rename_i l hl
   replace h:=lL.out h
   obtain⟨j,hp⟩:=h;obtain⟨cs,hk,hf⟩:=zW _ _ _ hl hp;refine⟨_,hk,λw=>?_⟩;have o:∀w,(fs.mapM λg=>do pure (g.offset,<-sizeOf g.type):Sem (Array (Nat×Nat))).run P w=.ok (fs.map λg=>(g.offset,jZ P g.type)) w:=by
    intro w;have:∀(l:List Field),(∀g∈l,(P.info? g.type).isSome=true)->∀w,(l.mapM λg=>do pure (g.offset,<-sizeOf g.type):Sem (List (Nat×Nat))).run P w=.ok (l.map λg=>(g.offset,jZ P g.type)) w:=by
     intro l;induction l with
     |nil=>intro _ w;rfl
     |cons g l ih=>
      intro I w;rw[List.mapM_cons];simp only[run_bind,gG (I g (by simp)),run_pure,ih (λx hx=>I x (by simp[hx])),dC]
    have hh:=this fs.toList (λg I=>Az.1 j g (by simpa using I)) w;rw[Array.mapM_eq_mapM_toList,<-bind_pure_comp,run_bind,hh];show Result.ok _ _=_;congr 1;apply yG;simp
   simp only[Instr.build,run_bind,sM J,bJ hd,o];rw[hparts];have U:(λ(i:Nat)=>(fs.map λ(g:Field)=>(g.offset,jZ P g.type))[i]?)=Me P fs:=by
    funext i;rw[Array.getElem?_map];unfold Me;cases fs[i]?<;>rfl
   rw[U];simp only[Array.toArray_toList]at hf;rw[hf];rfl
  ·exact h.elim
 ·rename_i n e z hd J;split at h
  ·rename_i l hl
   replace h:=lL.out h
   obtain⟨j,hp⟩:=h;obtain⟨cs,hk,hf⟩:=zW _ _ _ hl hp;refine⟨_,hk,λw=>?_⟩;simp only[Instr.build,run_bind,sM J,bJ hd,gG j];rw[hparts];simp only[Array.toArray_toList]at hf;rw[hf];rfl
  ·exact h.elim
 ·exact h.elim
theorem KO(s:ByteArray)(l h:Nat):s.extract l h=ofL ((s.data.toList.take h).drop l):=by
 apply ByteArray.ext;apply yG;simp[ofL,ByteArray.extract,ByteArray.copySlice,Gq]
theorem OM{x:Value}{lo hi mx:Option Value}{K:Value->Prop}(h:LY P T x lo hi mx K):
  xS P (Instr.sliceAt T x lo hi mx) K:=by
 unfold LY at h;split at h
 ·rename_i hd
  replace h:=lL.out h
  obtain⟨hm,h⟩:=h;cases mx with
  |some _=>cases hm
  |none=>
   cases x<;>simp only[mY]at h<;>try exact h.elim
   rename_i s;have h':bdW (none:Option Value) s.size s.size λm=>bdW hi s.size m λh=>bdW lo 0 h λl=>(λl h (_:Nat)=>K (.string (ofL ((s.data.toList.take h).drop l)))) l h m:=h;obtain⟨l,U,m,o,j⟩:=AZ (P:=P) (isSlice:=false) (by simp) h';refine⟨_,o,λw=>?_⟩;simp only[Instr.sliceAt,run_bind,bJ hd,Instr.slice];simp[j,run_bind,bJ hd,run_pure];apply KO
 ·rename_i e hd
  replace h:=lL.out h
  obtain⟨hm,h⟩:=h
  replace h:=lL.out h
  obtain⟨J,h⟩:=h
  replace hm:mx.isSome=true->hi.isSome=true:=λI=>by rw[I]at hm;simpa using hm
  cases x<;>simp only[kR]at h<;>try exact h.elim
  rename_i a len cap;obtain⟨l,U,m,o,j⟩:=AZ (P:=P) (isSlice:=true) (K:=λl h m=>K (.slice (if m=l then a else a.map (·.add (l*jZ P e))) (h-l) (m-l))) hm h;refine⟨_,o,λw=>?_⟩;simp only[Instr.sliceAt,run_bind,bJ hd,Instr.slice];simp[j,run_bind,bJ hd,run_pure,gG J]
 ·rename_i n e hd
  replace h:=lL.out h
  obtain⟨hm,h⟩:=h
  replace h:=lL.out h
  obtain⟨J,h⟩:=h
  replace hm:mx.isSome=true->hi.isSome=true:=λI=>by rw[I]at hm;simpa using hm
  cases x<;>simp only[ON]at h<;>try exact h.elim
  rename_i a;cases a with
  |none=>exact h.elim
  |some a=>
   obtain⟨l,U,m,o,j⟩:=AZ (P:=P) (isSlice:=false) (K:=λl h m=>K (.slice (some (if m=l then a else a.add (l*jZ P e))) (h-l) (m-l))) hm h;refine⟨_,o,λw=>?_⟩;simp[Instr.sliceAt,Instr.sureAddr,run_bind,bJ hd,j,run_pure,gG J]
 ·exact h.elim
theorem Ew{f:Fr}{o:Oper}{K:Value->Prop}(h:Nx P f o.op K):mC P (execOp (ev f) o) K:=by
 obtain⟨dst,op,type,pos,after,guard⟩:=o;cases op<;>simp only[Nx]at h<;>try exact h.elim
 case move x=>exact⟨_,h,λw=>rfl⟩
 case assign x=>exact⟨_,h,λw=>rfl⟩
 case pick c a b=>
  simp only[execOp];generalize ev f c=cv at*
  cases cv<;>simp only[cV]at h<;>try exact h.elim
  rename_i t;exact⟨_,h,λw=>by cases t<;>rfl⟩
 case nilCheck x=>
  simp only[execOp];generalize ev f x=v at*
  cases v<;>simp only[eF]at h<;>try exact h.elim
  case pointer a=>cases a<;>first|exact h.elim|exact⟨_,h,λw=>rfl⟩
  case func fn _ _=>cases fn<;>first|exact h.elim|exact⟨_,h,λw=>rfl⟩
  case iface=>exact⟨_,h,λw=>rfl⟩
 case binOp op T x y yT=>
  simp only[execOp];refine mC.of1 ?_;unfold aEb at h;cases hd:P.underlying T with
  |none=>
   rw[hd]at h;exact Qs (by cases op<;>exact h)
  |some d=>
   rw[hd]at h;cases I:EqK.of d with
   |none=>simp only[I]at h;exact Qs (by cases op<;>exact h)
   |some k=>
    simp only[I]at h;cases op<;>first
     |exact aDo (n:=false) hd I h
     |exact aDo (n:=true) hd I h
     |exact Qs h
 case unOp op T x=>
  simp only[execOp];refine mC.of1 ?_;generalize ev f x=v at*
  cases op<;>cases v<;>simp only[unW]at h<;>first
   |exact h.elim
   |exact⟨_,h,λw=>rfl⟩
 case convert s d x=>
  simp only[execOp];refine mC.of1 ?_;unfold ZY at h;generalize ev f x=v at*
  split at h
  ·rename_i k1 k2 U hd;cases v<;>simp only[sK]at h<;>try exact h.elim
   exact⟨_,h,λw=>by simp[convert,run_bind,bJ U,bJ hd,Conv.intToInt,run_pure]⟩
  ·rename_i k1 U hd;cases v<;>simp only[Xt]at h<;>try exact h.elim
   ·exact⟨_,h,λw=>by simp[convert,run_bind,bJ U,bJ hd,Conv.intToString,run_pure]⟩
   ·exact⟨_,h,λw=>by simp[convert,run_bind,bJ U,bJ hd,run_pure]⟩
  ·rename_i U hd;cases v<;>simp only[Xt]at h<;>try exact h.elim
   ·exact⟨_,h,λw=>by simp[convert,run_bind,bJ U,bJ hd,Conv.intToString,run_pure]⟩
   ·exact⟨_,h,λw=>by simp[convert,run_bind,bJ U,bJ hd,run_pure]⟩
  ·exact h.elim
 case makeInterface T x=>
  simp only[execOp];refine mC.of1 ?_;cases hd:P.underlying T with
  |none=>rw[hd]at h;exact h.elim
  |some d=>
   rw[hd]at h;cases d<;>first
    |exact h.elim
    |exact⟨_,h,λw=>by simp[Instr.makeInterface,run_bind,bJ hd,run_pure]⟩
 case makeFunc fn first cap=>
  simp only[execOp];refine mC.of1 ⟨_,h,λw=>by rw[JH,xN,xN]⟩
 case field T x i=>
  simp only[execOp];refine mC.of1 ?_;split at h
  ·rename_i fs hd;split at h
   ·rename_i g hg
    replace h:=lL.out h
    obtain⟨h1,h2⟩:=h;obtain⟨cs,hx,v,I,hr⟩:=Kc h1 h2;exact⟨v,I,λw=>by simp[Instr.field,run_bind,bJ hd,hg,hx,asAgg,run_pure,hr]⟩
   ·exact h.elim
  ·exact h.elim
 case fieldAddr T x i=>
  simp only[execOp];refine mC.of1 ?_;split at h
  ·rename_i fs hd;split at h
   ·rename_i g hg
    replace h:=lL.out h
    obtain⟨h1,h2⟩:=h
    replace h1:jZ P g.type≠0:=λhz=>by rw[hz]at h1;simp at h1
    generalize ev f x=v at*
    cases v<;>simp only[aZ]at h2<;>try exact h2.elim
    rename_i a;cases a with
    |none=>exact h2.elim
    |some a=>
     have hinfo:(P.info? g.type).isSome=true:=by
      unfold jZ at h1;cases hi:P.info? g.type with
      |none=>rw[hi]at h1;exact absurd rfl h1
      |some i=>rfl
     exact⟨_,h2,λw=>by simp[Instr.fieldAt,run_bind,bJ hd,hg,Instr.sureAddr,run_pure,fieldPlace,gG hinfo,h1]⟩
   ·exact h.elim
  ·exact h.elim
 case indexAddr T x i=>
  simp only[execOp];refine mC.of1 ?_;unfold Fi at h;generalize ev f x=v at*
  generalize ev f i=iv at*
  split at h
  ·rename_i e hd
   replace h:=lL.out h
   obtain⟨he,h⟩:=h;unfold dP at h;split at h
   ·rename_i a n cap k j _;obtain⟨h0,h1,I⟩:=h;exact⟨_,I,λw=>by simp[Instr.indexAt,asIntOf,run_bind,bJ hd,run_pure,h0,h1,gG he]⟩
   ·rename_i heq;cases heq
   ·exact h.elim
  ·rename_i n e hd
   replace h:=lL.out h
   obtain⟨he,h⟩:=h;unfold dP at h;split at h
   ·rename_i heq;cases heq
   ·rename_i n' a k j heq;cases heq;obtain⟨h0,h1,I⟩:=h;exact⟨_,I,λw=>by simp[Instr.indexAt,asIntOf,run_bind,bJ hd,run_pure,h0,h1,Instr.sureAddr,gG he]⟩
   ·exact h.elim
  ·exact h.elim
 case index T x i=>
  simp only[execOp];refine mC.of1 ?_;unfold Sx at h;generalize ev f x=v at*
  generalize ev f i=iv at*
  split at h
  ·rename_i hd;unfold qE at h;split at h
   ·rename_i s k j;obtain⟨h0,b,hb,I⟩:=h;have ht:s[j.toNat]?=some b:=by
     rw[<-hb];show(if h:j.toNat<s.size then some s[j.toNat]else none)=_;by_cases J:j.toNat<s.size
     ·rw[dif_pos J,List.getElem?_eq_getElem (by simpa using J)];rfl
     ·rw[dif_neg J,List.getElem?_eq_none (by simpa using J)]
    exact⟨_,I,λw=>by simp[Instr.index,asIntOf,run_bind,bJ hd,run_pure,h0,ht]⟩
   ·exact h.elim
  ·rename_i n e hd
   replace h:=lL.out h
   obtain⟨he,h⟩:=h;cases iv<;>simp only[aDY]at h<;>try exact h.elim
   rename_i k j;obtain⟨h0,h1,hp⟩:=h;obtain⟨cs,hx,u,I,hr⟩:=Kc (P:=P) he hp;exact⟨u,I,λw=>by simp[Instr.index,asIntOf,run_bind,bJ hd,run_pure,hx,h0,h1,gG (rJ he),hr]⟩
  ·exact h.elim
 case slice T x lo hi mx=>
  simp only[execOp];exact mC.of1 (OM h)
 case extract t i=>
  simp only[execOp];refine mC.of1 ?_;generalize ev f t=v at*
  cases v<;>simp only[dO]at h<;>try exact h.elim
  split at h
  ·rename_i v hv;exact⟨_,h,λw=>by simp[Instr.extract,hv,run_pure]⟩
  ·exact h.elim
 case build T parts=>
  simp only[execOp];exact mC.of1 (Qk h)
 case call c=>
  obtain⟨callee,args,argTypes⟩:=c;cases callee<;>simp only at h<;>try exact h.elim
  rename_i b;have hargs:args.map (ev f)=(evl f args).toArray:=by rw[xN]
  simp only[execOp,resolve,hargs];generalize evl f args=az at*
  unfold GN at h;split at h
  ·rename_i x;split at h
   ·rename_i T hT;split at h
    ·rename_i hd;unfold iT at h;split at h
     ·exact⟨_,h,λw=>by simp[run_bind,run_pure,invoke,builtin,Builtin.len_,hT,bJ hd,goInt]⟩
     ·exact h.elim
    ·rename_i e hd;unfold dA at h;split at h
     ·exact⟨_,h,λw=>by simp[run_bind,run_pure,invoke,builtin,Builtin.len_,hT,bJ hd,goInt]⟩
     ·exact h.elim
    ·rename_i n e hd;exact⟨_,h,λw=>by simp[run_bind,run_pure,invoke,builtin,Builtin.len_,hT,bJ hd,goInt]⟩
    ·exact h.elim
   ·exact h.elim
  ·rename_i x;split at h
   ·rename_i T hT;split at h
    ·rename_i e hd;unfold Qh at h;split at h
     ·exact⟨_,h,λw=>by simp[run_bind,run_pure,invoke,builtin,Builtin.cap_,hT,bJ hd,goInt]⟩
     ·exact h.elim
    ·exact h.elim
   ·exact h.elim
  ·rename_i x y;unfold WE at h;split at h
   ·exact⟨_,h,λw=>by simp[run_bind,run_pure,invoke,builtin,Builtin.min_,Builtin.min2]⟩
   ·exact h.elim
  ·rename_i x y z;unfold ZR at h;split at h
   ·exact⟨_,h,λw=>by simp[run_bind,run_pure,invoke,builtin,Builtin.min_,Builtin.min2]⟩
   ·exact h.elim
  ·rename_i x y;unfold RO at h;split at h
   ·exact⟨_,h,λw=>by simp[run_bind,run_pure,invoke,builtin,Builtin.max_,Builtin.max2]⟩
   ·exact h.elim
  ·exact h.elim
def isC:Operand->Bool
 |.const _=>true
 |_=>false
def rX(c:Bool):Operand:=bif c then .const undef else .tmp 0
def eqQ(P:Program)(op:BinOp)(T:TypeId)(cx cy:Bool)(a b:Value)(w:World)(K:Value->Prop):Prop:=
 nZ P (do eqGuard op T (rX cx) (rX cy) a b;binOp op T a b) w K
def Es(P:Program)(f:Fr)(o:Oper)(w:World)(K:Value->Prop):Prop:=
 match o.op with
 |.load T a=>lL (P.underlying T).isSome (ldW (vN P T) (jZ P T) (ev f a) w K)
 |.lookup T x i ok=>nZ P (Instr.lookup T (ev f x) (ev f i) ok) w K
 |.binOp op T x y _=>eqQ P op T (isC x) (isC y) (ev f x) (ev f y) w K
 |.convert s d x=>nZ P (convert s d (ev f x)) w K
 |.typeAssert x xT aT ok=>nZ P (Instr.typeAssert (ev f x) xT aT ok) w K
 |.entry it=>nZ P (Instr.entry (ev f it)) w K
 |.call {callee:=.builtin b,args,argTypes}=>(match b with
   |.len=>nZ P (Builtin.len_ argTypes o.type (evl f args).toArray) w K
   |_=>False)
 |_=>False
def isRead(P:Program):Op->Bool
 |.load ..|.lookup ..|.binOp ..|.typeAssert ..|.entry ..=>true
 |.convert s d _=>(match P.underlying s,P.underlying d with|some (.slice _),some .string=>true|_,_=>false)
 |.call {callee:=.builtin b,..}=>(match b with|.len=>true|_=>false)
 |_=>false
def pK(n:Nat)(z:List Value):List Value:=match n with|0=>[]|n+1=>z++pK n z
def Dq(P:Program)(T:TypeId)(len:Nat)(f:Fr)(parts:List (Nat×Operand))(w:World)(K:Value->World->Prop):Prop:=
 match P.underlying T with
 |some (.slice e)=>(match CV P e,uQ (λi=>some (i*jZ P e,jZ P e)) f parts with
   |some z,some l=>lL (P.info? e).isSome (lL (Nat.beq z.cells.size (jZ P e)) (lL (Nat.ble (len*jZ P e) 1000) (dN e len (pK len z.cells.toList) l w K)))
   |_,_=>False)
 |_=>False
def aB0[HX](P:Program)(f:Fr)(o:Oper)(w:World)(K:Value->World->Prop):Prop:=
 match o.op with
 |.alloc T=>(match CV P T with|some z=>bQ T z.cells.toList w K|none=>False)
 |.box T x=>eW T (ev f x) w K
 |.buildSlice T n parts=>Dq P T n f parts.toList w K
 |.store T a x=>lL (P.info? T).isSome (stW (jZ P T) (ev f a) (ev f x) w (K undef))
 |.mapUpdate T m k x|.insert T m k x=>nY P (Instr.mapUpdate T (ev f m) (ev f k) (ev f x)) w (K undef)
 |.makeMap T r=>dF P (Instr.makeMap T (r.map (ev f))) w K
 |.makeSlice T l c=>dF P (Instr.makeSlice T (ev f l) (ev f c)) w K
 |.range T x=>dF P (Instr.range T (ev f x)) w K
 |.next it s=>dF P (Instr.next (ev f it) s o.type) w K
 |.convert s d x=>dF P (convert s d (ev f x)) w K
 |.call {callee:=.value x,args,..}=>(match x with
   |.func g=>aC P g (evl f args) w K
   |_=>pG P (ev f x) (evl f args) w K)
 |.call {callee:=.invoke r m,args,..}=>QV P (callMethod (ev f r) m (evl f args).toArray) w K
 |.panic x=>Pd (ev f x) w
 |.call {callee:=.builtin b,args,argTypes}=>(match b with
   |.append=>dF P (Builtin.append_ argTypes o.type (evl f args).toArray) w K
   |.copy=>dF P (Builtin.copy_ argTypes o.type (evl f args).toArray) w K
   |.delete=>dF P (Builtin.delete_ argTypes o.type (evl f args).toArray) w K
   |.clear=>dF P (Builtin.clear_ argTypes o.type (evl f args).toArray) w K
   |.panic=>Pd ((evl f args).getD 0 undef) w
   |_=>False)
 |_=>False
def Jf[HX](P:Program)(f:Fr)(o:Oper)(w:World)(K:Value->World->Prop):Prop:=
 match nH P o.op with
 |true=>Nx P f o.op (λv=>K v w)
 |false=>(match isRead P o.op with
  |true=>Es P f o w (λv=>K v w)
  |false=>aB0 P f o w K)
theorem GL{a:Addr}(h:w.cell? a=some v):(load a).run P w=.ok v w:=by
 simp[load,Sem.run,h]
theorem uW{P:Program}{a:Addr}{w:World}:∀(n i:Nat) (l:List Value) (acc:Array Value),kI w a i n=some l->
  (loadCellsFrom a i n acc).run P w=.ok (acc++l.toArray) w
 |0,i,l,acc,h=>by
  simp only[kI,bF]at h
  subst h
  simp[loadCellsFrom,run_pure]
 |n+1,i,l,acc,h=>by
  simp only[kI]at h
  cases j:w.cell? (a.add i)with
  |none=>simp[j]at h
  |some v=>
   cases o:kI w a (i+1) n with
   |none=>simp[j,o]at h
   |some l'=>
    simp only[j,o,gK,bF]at h
    subst h
    simp only[loadCellsFrom,run_bind,GL j,uW n (i+1) l' _ o]
    simp
theorem Sb{x:Value}{K:Value->Prop}(hT:(P.underlying T).isSome=true)(h:ldW (vN P T) (jZ P T) x w K):
  ∃v,K v/\(Instr.loadAt T x).run P w=.ok v w:=by
 cases x<;>simp only[ldW]at h<;>try exact h.elim
 rename_i a;cases a with
 |none=>exact h.elim
 |some a=>
  simp only at h;cases j:vN P T with
  |true=>
   rw[j]at h;obtain⟨l,hl,o⟩:=h;refine⟨_,o,?_⟩;simp[Instr.loadAt,Instr.sureAddr,loadVar,run_bind,run_pure,xC hT,j,gG (rJ hT),loadCells,uW _ _ _ _ hl]
  |false=>
   rw[j]at h;obtain⟨v,I,o⟩:=h;refine⟨_,o,?_⟩;simp[Instr.loadAt,Instr.sureAddr,loadVar,run_bind,run_pure,xC hT,j]
   first|exact GL I|(rw[I])
theorem Gg(op:BinOp)(T:TypeId)(x y:Operand)(a b:Value):eqGuard op T (rX (isC x)) (rX (isC y)) a b=eqGuard op T x y a b:=by
 cases x<;>cases y<;>rfl
theorem AO{f:Fr}{o:Oper}{K:Value->Prop}(h:Es P f o w K):
  ∃v,K v/\(execOp (ev f) o).run P w=.ok (.value v) w:=by
 have key:∀(s:Sem Value),(∃v,K v/\s.run P w=.ok v w)->∃v,K v/\(do pure (.value (<-s)):Sem Next).run P w=.ok (.value v) w:=by
  rintro s ⟨v,I,j⟩;exact⟨v,I,by rw[run_bind,j];rfl⟩
 have key2:∀(s:Sem Value),nZ P s w K->∃v,K v/\s.run P w=.ok v w:=λs ⟨v,j,I⟩=>⟨v,I,j⟩;obtain⟨dst,op,type,pos,after,guard⟩:=o;cases op<;>simp only[Es]at h<;>try exact h.elim
 case load T a=>simp only[execOp];exact key _ (Sb (lL.out h).1 (lL.out h).2)
 case lookup T x i ok=>simp only[execOp];exact key _ (key2 _ h)
 case binOp op T x y yT=>
  simp only[execOp];refine key _ (key2 _ ?_);unfold eqQ at h;rw[Gg]at h;exact h
 case convert s d x=>simp only[execOp];exact key _ (key2 _ h)
 case typeAssert x xT aT ok=>simp only[execOp];exact key _ (key2 _ h)
 case entry it=>simp only[execOp];exact key _ (key2 _ h)
 case call c=>
  obtain⟨callee,args,argTypes⟩:=c;cases callee<;>simp only at h<;>try exact h.elim
  rename_i b;cases b<;>simp only at h<;>try exact h.elim
  simp only[execOp,resolve,xN];obtain⟨v,I,j⟩:=key2 _ h;exact⟨v,I,by simp[run_bind,run_pure,invoke,builtin,j]⟩
theorem yM{P:Program}{a:Addr}{K:World->Prop}:∀(l:List Value) (i:Nat) (w:World),sE a l i w K->∃w',K w'/\(storeCells a l i).run P w=.ok () w'
 |[],i,w,h=>⟨w,h,rfl⟩
 |v::r,i,w,h=>by
  obtain⟨h1,h2,h3,U⟩:=h
  obtain⟨w',J,o⟩:=yM (P:=P) r (i+1) _ U
  refine⟨w',J,?_⟩
  obtain⟨old,I⟩:=Option.isSome_iff_exists.1 h2
  have j:(store (a.add i) v).run P w=.ok () (w.setCell (a.add i) v):=by
   cases v<;>first
    |(simp[fC]at h1;done)
    |(simp[store,Sem.run,I,h3];done)
  simp only[storeCells,run_bind,j,o]
theorem aAp{x:Value}{K:World->Prop}(hT:(P.info? T).isSome=true)(h:stW (jZ P T) x v w K):
  ∃w',K w'/\(Instr.storeAt T x v).run P w=.ok () w':=by
 cases x<;>simp only[stW]at h<;>try exact h.elim
 rename_i a;cases a with
 |none=>exact h.elim
 |some a=>
  obtain⟨h1,I⟩:=h;obtain⟨w',o,j⟩:=yM (P:=P) _ _ _ I;refine⟨w',o,?_⟩;simp[Instr.storeAt,Instr.sureAddr,storeVar,run_bind,run_pure,gG hT,h1,j]
theorem Gc{z:Array Value}{size:Nat}(J:z.size=size):∀len,((Array.range (len*size)).map (z[· %z.size]!))=(pK len z.toList).toArray:=by
 subst J;have o:∀len,(pK len z.toList).length=len*z.size:=by
  intro len;induction len with
  |zero=>simp[pK]
  |succ n ih=>simp[pK,ih,FZ,rH]
 intro len;apply Array.ext (by simp[o]);intro i h1 U;simp only[Array.getElem_map,Array.getElem_range,List.getElem_toArray];simp at h1;have:∀(len i:Nat) (h:i<(pK len z.toList).length),(pK len z.toList)[i]=z[i%z.size]!:=by
  intro len;induction len with
  |zero=>intro i h;simp[pK]at h
  |succ n ih=>
   intro i h;have I:0<z.size:=by
    rcases nP z.size with h0|h0
    ·rw[o,h0]at h;simp at h
    ·exact h0
   simp only[pK,List.getElem_append];split
   ·rename_i hi;have j:i<z.size:=by simpa using hi
    rw[kY j,getElem!_pos z i j];simp
   ·rename_i hi;have j:z.size<=i:=by simpa using hi
    rw[ih];simp only[DZ];congr 1;rw[Nat.mod_eq_sub_mod j]
 rw[this]
theorem PW[HX]{f:Fr}{o:Oper}(h:aB0 P f o w K):Res P K ((execOp (ev f) o).run P w):=by
 have keyV:∀(s:Sem Value),dF P s w K->Res P K ((do pure (.value (<-s)):Sem Next).run P w):=by
  intro s j;unfold dF at j;rw[run_bind];cases I:s.run P w with
  |ok v w'=>rw[I]at j;exact j
  |halt x w'=>rw[I]at j;exact j.elim
 have keyU:∀(s:Sem Unit),nY P s w (K undef)->Res P K ((do s;pure .skip:Sem Next).run P w):=by
  intro s j;unfold nY at j;rw[run_bind];cases I:s.run P w with
  |ok v w'=>rw[I]at j;exact j
  |halt x w'=>rw[I]at j;exact j.elim
 have keyP:∀(x:Value),Pd x w->Res P K ((do pure (.value (<-Instr.panic x)):Sem Next).run P w):=by
  intro x j;unfold Pd at j;split at j
  ·exact j
  ·exact j.elim
 obtain⟨dst,op,type,pos,after,guard⟩:=o;cases op<;>simp only[aB0]at h<;>try exact h.elim
 case alloc T=>
  cases J:CV P T with
  |none=>rw[J]at h;exact h.elim
  |some z=>
   rw[J]at h;simp only[execOp];have I:(Instr.alloc T true (.tuple #[])).run P w=.ok (.pointer (some ⟨w.heap.size,0,none⟩)) (w.alloc (.cells z.cells T)):=by
    simp[Instr.alloc,run_bind,sM J,newVar,newRow,newObj,Sem.run,run_pure]
   rw[run_bind,I];exact h
 case box T x=>
  simp only[execOp];have I:(Instr.box T (ev f x)).run P w=.ok (.pointer (some ⟨w.heap.size,0,none⟩)) (w.alloc (.cells (ev f x).cells T)):=by
   simp[Instr.box,run_bind,newVar,newRow,newObj,Sem.run,run_pure]
  rw[run_bind,I];exact h
 case buildSlice T n parts=>
  simp only[execOp];unfold Dq at h;split at h
  ·rename_i e hd;split at h
   ·rename_i z l J hl
    replace h:=lL.out h
    obtain⟨h1,h⟩:=h
    replace h:=lL.out h
    obtain⟨h2,h⟩:=h
    replace h:=lL.out h
    obtain⟨h3,h4⟩:=h
    replace h2:=iG h2
    replace h3:=jH h3
    unfold dN at h4;obtain⟨cs,U,hf⟩:=zW _ _ _ hl h4;have hparts:(parts.map λ(i,x)=>(i,ev f x)).toList=parts.toList.map λp=>(p.1,ev f p.2):=by simp
    have I:(Instr.buildSlice T n (parts.map λ(i,x)=>(i,ev f x))).run P w=.ok (.slice (some ⟨w.heap.size,0,none⟩) n n) (w.alloc (.cells cs.toArray e)):=by
     simp only[Instr.buildSlice,run_bind,bJ hd,gG h1];rw[aE (by omega)];have hcells:=Gc (z:=z.cells) h2 n;by_cases h0:n*jZ P e=0
     ·rw[aJ h0];simp only[run_bind,run_pure];have hc:((Array.range (n*jZ P e)).map ((#[]:Array Value)[· %(#[]:Array Value).size]!))=(pK n z.cells.toList).toArray:=by
       rw[<-hcells,h0];simp[show Array.range 0=#[]from rfl]
      rw[hc,hparts,hf];simp[run_bind,newRow,newObj,Sem.run,run_pure]
     ·rw[aE h0];simp only[run_bind,run_pure,sM J];rw[hcells,hparts,hf];simp[run_bind,newRow,newObj,Sem.run,run_pure]
    rw[run_bind,I];exact U
   ·exact h.elim
  ·exact h.elim
 case store T a x=>
  simp only[execOp];obtain⟨w',U,I⟩:=aAp (lL.out h).1 (lL.out h).2;rw[run_bind,I];exact U
 case mapUpdate T m k x=>simp only[execOp];exact keyU _ h
 case insert T m k x=>simp only[execOp];exact keyU _ h
 case makeMap T r=>simp only[execOp];exact keyV _ h
 case makeSlice T l c=>simp only[execOp];exact keyV _ h
 case range T x=>simp only[execOp];exact keyV _ h
 case next it s=>simp only[execOp];exact keyV _ h
 case panic x=>
  simp only[execOp];exact keyP _ h
 case convert s d x=>simp only[execOp];exact keyV _ h
 case call c=>
  obtain⟨callee,args,argTypes⟩:=c;cases callee with
  |value x=>
   simp only[execOp,resolve,xN];cases x<;>simp only at h
   case func g=>
    unfold aC at h;have:(do let d<-(Deferred.ofValue (ev f (.func g)) (evl f args).toArray);invoke d.target d.args:Sem Next)=callFunc g (evl f args).toArray:=by
     show callFunc g (#[]++(evl f args).toArray++#[])=_;simp
    rw[this];exact h
   all_goals exact h
  |invoke r m=>
   simp only at h;simp only[execOp,resolve,xN];have:(do let d<-(pure {target:=.fn (.method m) #[],args:=#[ev f r]++(evl f args).toArray}:Sem Deferred);invoke d.target d.args:Sem Next)=callMethod (ev f r) m (evl f args).toArray:=by
    show invoke (.fn (.method m) #[]) (#[ev f r]++(evl f args).toArray)=_;simp[invoke]
   rw[this];exact h
  |builtin b=>
   simp only[execOp,resolve,xN];cases b<;>simp only at h<;>first
    |exact h.elim
    |exact keyV _ h
    |(have e:(evl f args).getD 0 undef=(evl f args).toArray.getD 0 .nilIface:=by
       cases hl:evl f args with
       |nil=>rw[hl]at h;exact h.elim
       |cons a r=>rfl
      rw[e]at h;exact keyP _ h)
theorem HV[HX]{f:Fr}{o:Oper}(h:Jf P f o w K):Res P K ((execOp (ev f) o).run P w):=by
 unfold Jf at h;cases hp:nH P o.op with
 |true=>
  rw[hp]at h;simp only at h;obtain⟨v,I,j⟩:=Ew (o:=o) h;rw[j];exact I
 |false=>
  rw[hp]at h;simp only at h;cases J:isRead P o.op with
  |true=>
   rw[J]at h;simp only at h;obtain⟨v,I,j⟩:=AO (o:=o) h;rw[j];exact I
  |false=>
   rw[J]at h;exact PW h
def oN:List Nat->Nat->Bool
 |[],_=>false
 |x::r,i=>bif Nat.beq x i then true else oN r i
theorem jF{l:List Nat}:oN l i=true↔i∈l:=by
 induction l with
 |nil=>simp[oN]
 |cons x r ih=>
  simp only[oN,bM];cases h:Nat.beq x i with
  |true=>simp[iG h]
  |false=>
   have:¬i=x:=λe=>by subst e;simp at h
   simp[this,ih]
def isB(v:Value)(want:Bool):Bool:=match v with|.bool b=>b==want|_=>false
def rF(ops:List Oper)(g:Nat):Option Nat:=match ops[g]? with|some o=>o.dst|none=>none
def yv(ops:List Oper)(f:Fr)(g:Nat)(want:Bool):Bool:=match rF ops g with|some d=>isB (f d) want|none=>false
def kX(ops:List Oper)(f:Fr)(o:Oper):Bool:=match o.guard with|none=>true|some (g,want)=>yv ops f g want
def Ag(n:Nat)(D:List Deferred)(f:Fr)(a:Act):Prop:=a.defers=D/\a.tmps.size=n/\∀t,a.tmps.getD t undef=f t
theorem ZU{f:Fr}{a:Act}{x:Operand}(h:∀t,x=.tmp t->a.tmps.getD t undef=f t):a.eval x=ev f x:=by
 cases x<;>first|rfl|exact h _ rfl
theorem zD{D:List Deferred}{f:Fr}{a:Act}(h:Ag n D f a):a.eval=ev f:=funext λ_=>ZU λt _=>h.2.2 t
theorem Gs{ops:List Oper}{f:Fr}{a:Act}{o:Oper}(h:∀g want d,o.guard=some (g,want)->rF ops g=some d->a.tmps.getD d undef=f d):
  Region.wanted o (yielded ops.toArray a.tmps)=kX ops f o:=by
 unfold Region.wanted kX;cases hg:o.guard with
 |none=>rfl
 |some gw=>
  obtain⟨g,want⟩:=gw;have hy:yielded ops.toArray a.tmps g=match rF ops g with|some d=>(match f d with|.bool b=>some b|_=>none)|none=>none:=by
   unfold yielded;have U:=h g want;unfold rF at*
   simp only[List.getElem?_toArray];cases hx:ops[g]? with
   |none=>rfl
   |some o'=>
    rw[hx]at U;cases hd:o'.dst with
    |none=>simp[hd]
    |some d=>
     have J:=U d hg hd;simp only[Option.bind_some,hd];rw[<-J];rcases dR d a.tmps.size with j|I
     ·have e1:a.tmps[d]?=some a.tmps[d]:=by simp[j]
      have e2:a.tmps.getD d undef=a.tmps[d]:=by simp[j]
      rw[e1,e2];generalize a.tmps[d]=x;cases x<;>rfl
     ·simp[Array.getElem?_eq_none I,undef,Array.getD,Nat.not_lt.2 I]
  simp only[yv,hy];cases hd:rF ops g with
  |none=>simp
  |some d=>simp only[isB];cases f d<;>simp
theorem Et(a:Act)(d:Option Nat)(v:Value):(a.put d v).tmps.size=a.tmps.size:=by cases d<;>simp[Act.put]
theorem put_defers(a:Act)(d:Option Nat)(v:Value):(a.put d v).defers=a.defers:=by cases d<;>rfl
theorem Iv(a:Act)(d:Nat)(v:Value)(t:Nat)(hd:d<a.tmps.size):(a.put (some d) v).tmps.getD t undef=if t=d then v else a.tmps.getD t undef:=by
 simp only[Act.put,iM,Array.getElem?_setIfInBounds];by_cases h:t=d
 ·subst h;simp[hd]
 ·rw[aE h,aE (tA h)]
theorem nX(f:Fr)(d:Nat)(v:Value)(t:Nat):upd f (some d) v t=if t=d then v else f t:=by
 simp only[upd];by_cases h:t=d
 ·subst h;simp
 ·have:Nat.beq t d=false:=by
   cases hb:Nat.beq t d with
   |false=>rfl
   |true=>exact absurd (iG hb) h
  simp[this,h]
theorem Ag.put{D:List Deferred}{f:Fr}{a:Act}{d:Option Nat}(h:Ag n D f a)(hd:∀t,d=some t->t<n)(v:Value):Ag n D (upd f d v) (a.put d v):=by
 refine⟨by rw[put_defers];exact h.1,by rw[Et];exact h.2.1,λt=>?_⟩;cases d with
 |none=>exact h.2.2 t
 |some d=>rw[Iv _ _ _ _ (by rw[h.2.1];exact hd d rfl),nX,h.2.2]
structure DE where
 fl:List Nat
 anc:List (List Nat)
def gS(o:Oper):List Nat:=(o.after.toList.filter (Region.binds .any)).map (·.on)
def allIn(done:List Nat):List Nat->Bool
 |[]=>true
 |x::r=>bif oN done x then allIn done r else false
theorem Ar{done l:List Nat}:allIn done l=true↔∀x∈l,x∈done:=by
 induction l with
 |nil=>simp[allIn]
 |cons x r ih=>
  simp only[allIn,bM,forall_eq_or_imp];cases h:oN done x with
  |true=>simp[jF.1 h,ih]
  |false=>
   have:x∉done:=λe=>by simp[jF.2 e]at h
   simp[this]
def tL(ops:List Oper)(done:List Nat):List Nat->Option (Nat×Oper)
 |[]=>none
 |i::r=>bif oN done i then tL ops done r else
   (match ops[i]? with
    |some o=>bif allIn done (gS o)then some (i,o)else tL ops done r
    |none=>tL ops done r)
def CC(ops:List Oper)(fl done:List Nat):Nat->List Oper->List (Nat×Oper)
 |_,[]=>[]
 |i,o::r=>bif (bif oN done i then false else(bif oN fl i then false else allIn done (gS o)))then(i,o)::CC ops fl done (i+1) r else CC ops fl done (i+1) r
def XG(P:Program)(f:Fr)(o:Oper)(w:World)(K:Value->Prop):Prop:=
 match nH P o.op with
 |true=>Nx P f o.op K
 |false=>Es P f o w K
def GqW(c:Bool)(A:(Value->Prop)->Prop)(B:Value->Prop):Prop:=∃v,(c=true->A (λx=>x=v))/\(c=false->v=undef)/\B v
def GeW(c:Bool)(w:World)(A:(Value->World->Prop)->Prop)(B:Value->World->Prop):Prop:=(c=true->A B)/\(c=false->B undef w)
def qfW(P:Program)(ops:List Oper)(f:Fr)(o:Oper)(w:World)(K:Value->Prop):Prop:=
 match o.guard with
 |none=>XG P f o w K
 |some (g,want)=>GqW (yv ops f g want) (XG P f o w) K
def geW[HX](P:Program)(ops:List Oper)(f:Fr)(o:Oper)(w:World)(K:Value->World->Prop):Prop:=
 match o.guard with
 |none=>Jf P f o w K
 |some (g,want)=>GeW (yv ops f g want) w (Jf P f o w) K
def xV(P:Program)(ops:List Oper)(f:Fr)(w:World)(rest:Prop):List Nat->Prop
 |[]=>rest
 |i::r=>match ops[i]? with
  |some o=>(match o.dst with
   |some d=>(match nH P o.op with
    |true=>xV P ops f w rest r
    |false=>
     ((match o.guard with
       |none=>Es P f o w (λx=>x=f d)
       |some (g,want)=>yv ops f g want=true->Es P f o w (λx=>x=f d))/\xV P ops f w rest r))
   |none=>xV P ops f w rest r)
  |none=>xV P ops f w rest r
def yU(l:List Nat):List Nat->List Nat
 |[]=>[]
 |x::r=>bif oN l x then yU l r else x::yU l r
theorem Hc{l r:List Nat}{x:Nat}(h:x∈r)(hl:x∉l):x∈yU l r:=by
 induction r with
 |nil=>cases h
 |cons y r ih=>
  simp only[yU];rcases bM.1 h with rfl|h
  ·have:oN l x=false:=by
    cases hm:oN l x with
    |false=>rfl
    |true=>exact absurd (jF.1 hm) hl
   simp[this]
  ·cases hm:oN l y with
   |true=>exact ih h
   |false=>simp[ih h]
def aDx:Prop:=∀(_:HX) (P:Program) (ops:List Oper) (f:Fr) (o:Oper) (w:World) (K:Value->World->Prop),geW P ops f o w K->True
def Tc(p:Nat×Oper->Prop):List (Nat×Oper)->Prop
 |[]=>aDx
 |[x]=>p x
 |x::y::r=>p x/\Tc p (y::r)
theorem HG{p:Nat×Oper->Prop}:∀{l:List (Nat×Oper)} {x},Tc p l->x∈l->p x
 |[],_,_,h=>by cases h
 |[y],x,h,j=>by simp at j;subst j;exact h
 |y::z::r,x,h,j=>by
  rcases bM.1 j with rfl|j
  ·exact h.1
  ·exact HG h.2 j
def wP[HX](P:Program)(ops:List Oper)(e:DE):Nat->List Nat->List Nat->Fr->World->(Fr->World->Prop)->Prop
 |0,_,_,_,_,_=>False
 |n+1,done,pend,f,w,K=>
  match tL ops done e.fl with
  |some (i,o)=>qfW P ops f o w λv=>wP P ops e n (i::done) (i::pend) (upd f o.dst v) w K
  |none=>match CC ops e.fl done 0 ops with
   |[]=>K f w
   |x::r=>Tc (λio=>geW P ops f io.2 w λv w'=>
     xV P ops (upd f io.2.dst v) w' (wP P ops e n (io.1::done) (yU (e.anc.getD io.1 []) pend) (upd f io.2.dst v) w' K) (yU (e.anc.getD io.1 []) pend)) (x::r)
def nW(ops:List Oper)(o:Oper):List Nat:=
 (o.op.operands.toList.filterMap λ|.tmp t=>some t|_=>none)++(match o.guard with|some (g,_)=>(rF ops g).toList|none=>[])
def Ha(o:Oper):Bool:=match o.op with|.select ..=>false|_=>true
def aAb(P:Program)(ops:List Oper)(e:DE)(i:Nat):Bool:=
 match ops[i]? with
 |some o=>(nH P o.op||isRead P o.op)&&
  (match o.dst with
   |some d=>(List.range ops.length).all λk=>match ops[k]? with
     |some ok=>(k==i||ok.dst !=some d)&&(!(oN (nW ops ok) d)||oN (e.anc.getD k []) i)&&
       (match ok.dst with
        |some dk=> !(oN (nW ops o) dk)||oN (e.anc.getD i []) k||(!(oN e.fl k)&&oN (e.anc.getD k []) i)
        |none=>true)
     |none=>true
   |none=>false)
 |none=>false
def aAa(n:Nat)(ops:List Oper)(e:DE)(k:Nat):Bool:=
 match ops[k]? with
 |some o=>(match o.dst with|some d=>decide (d<n)|none=>true)&&Ha o&&(gS o).all (λx=>decide (x<k))&&
   (e.anc.getD k []).all (λx=>(gS o).any λy=>x==y||oN (e.anc.getD y []) x)
 |none=>true
def qW(P:Program)(n:Nat)(ops:List Oper)(e:DE):Bool:=
 e.fl.all (aAb P ops e)&&(List.range ops.length).all (aAa n ops e)
section
variable{P:Program}{n:Nat}{ops:List Oper}{e:DE}
theorem rT(h:qW P n ops e=true){k:Nat}{o:Oper}(J:ops[k]?=some o):
  (∀d,o.dst=some d->d<n)/\Ha o=true/\(∀x∈gS o,x<k)/\∀x∈e.anc.getD k [],∃y∈gS o,x=y\/x∈e.anc.getD y []:=by
 simp only[qW,aL,bN]at h;have I:k<ops.length:=by
  rcases dR k ops.length with U|U
  ·exact U
  ·rw[List.getElem?_eq_none U]at J;cases J
 have:=h.2 k (lR.2 I);simp only[aAa,J,aL,bN,List.any_eq_true,cQ,fV,bD]at this;obtain⟨⟨⟨h1,h2⟩,h3⟩,h4⟩:=this;refine⟨λd hd=>by simpa[hd]using h1,h2,h3,λx hx=>?_⟩;obtain⟨y,hy,j⟩:=h4 x hx;exact⟨y,hy,j.imp id jF.1⟩
theorem FN(h:qW P n ops e=true)(hi:i∈e.fl):∃o d,ops[i]?=some o/\o.dst=some d/\(nH P o.op=true\/isRead P o.op=true)/\
  ∀k ok,ops[k]?=some ok->(k≠i->ok.dst≠some d)/\(d∈nW ops ok->i∈e.anc.getD k [])/\
   ∀dk,ok.dst=some dk->dk∈nW ops o->k∈e.anc.getD i []\/(k∉e.fl/\i∈e.anc.getD k []):=by
 simp only[qW,aL,bN]at h;have h1:=h.1 i hi;unfold aAb at h1;cases ho:ops[i]? with
 |none=>simp[ho]at h1
 |some o=>
  simp only[ho]at h1;cases hd:o.dst with
  |none=>simp[hd]at h1
  |some d=>
   simp only[hd,aL,cQ,bN]at h1;refine⟨o,d,rfl,hd,h1.1,λk ok hk=>?_⟩;have U:k<ops.length:=by
    rcases dR k ops.length with h'|h'
    ·exact h'
    ·rw[List.getElem?_eq_none h']at hk;cases hk
   have h2:=h1.2 k (lR.2 U);simp only[hk,aL,cQ,fV,bne_iff_ne,dZ]at h2;obtain⟨⟨h3,I⟩,j⟩:=h2;refine⟨λJ=>h3.resolve_left J,λhm=>?_,λdk hh hm=>?_⟩
   ·rcases I with I|I
    ·rw[jF.2 hm]at I;cases I
    ·exact jF.1 I
   ·simp only[hh,aL,cQ,dZ]at j;rcases j with(j|j)|⟨j,h6⟩
    ·rw[jF.2 hm]at j;cases j
    ·exact .inl (jF.1 j)
    ·exact .inr ⟨(λhc=>by rw[jF.2 hc]at j;cases j),jF.1 h6⟩
theorem FX(h:qW P n ops e=true){done:List Nat}(hc:∀k∈done,∀o,ops[k]?=some o->∀x∈gS o,x∈done):
  ∀(k:Nat) (o:Oper),ops[k]?=some o->(∀x∈gS o,x∈done)->∀x∈e.anc.getD k [],x∈done:=by
 intro k;induction k using Nat.strongRecOn with
 |_ k ih=>
  intro o ho hd x hx;obtain⟨_,_,h3,h4⟩:=rT h ho;obtain⟨y,J,j⟩:=h4 x hx;rcases j with rfl|j
  ·exact hd x J
  ·have U:=hd y J;cases I:ops[y]? with
   |none=>
    rw[List.getElem?_eq_none_iff]at I;have hk:k<ops.length:=by
     rcases dR k ops.length with h'|h'
     ·exact h'
     ·rw[List.getElem?_eq_none h']at ho;cases ho
    have:=h3 y J;omega
   |some oy=>exact ih y (h3 y J) oy I (λz hz=>hc y U oy I z hz) x j
end
section
variable{P:Program}{n:Nat}{D:List Deferred}{ops:List Oper}{e:DE}
def YY(P:Program)(ops:List Oper)(f:Fr)(o:Oper)(d:Nat)(w:World):Prop:=
 (kX ops f o=true/\(execOp (ev f) o).run P w=.ok (.value (f d)) w)\/(kX ops f o=false/\f d=undef)
structure Inv(R:Fr->Prop)(P:Program)(n:Nat)(D:List Deferred)(ops:List Oper)(e:DE)(listed:Array Bool)(a:Act)(done pend:List Nat)(f:Fr)(w:World):Prop where
 fr:R f
 defers:a.defers=D
 size:a.tmps.size=n
 lsize:listed.size=ops.length
 l1:∀i:Nat,listed.getD i false=true->i∈done
 l2:∀i∈done,i<ops.length/\(listed.getD i false=false->i∈e.fl/\i∈pend)
 l3:∀t,(∀i∈done,listed.getD i false=false->rF ops i≠some t)->a.tmps.getD t undef=f t
 l4:∀i∈done,listed.getD i false=false->∀o d,ops[i]?=some o->o.dst=some d->YY P ops f o d w/\(nH P o.op=true->∀w',YY P ops f o d w')
 l5:∀i∈done,∀o,ops[i]?=some o->∀x∈gS o,x∈done
 l6:∀i:Nat,listed.getD i false=true->∀o,ops[i]?=some o->∀x∈gS o,listed.getD x false=true
theorem EN{o:Oper}{t:Nat}(h:Operand.tmp t∈o.op.operands.toList):t∈nW ops o:=by
 unfold nW;exact eZ _ (gT.2 ⟨.tmp t,h,rfl⟩)
theorem Db{o:Oper}{g:Nat}{want:Bool}{d:Nat}(j:o.guard=some (g,want))(hd:rF ops g=some d):d∈nW ops o:=by
 unfold nW;refine dB _ ?_;simp[j,hd]
theorem Mr{o:Oper}(h:Ha o=true):∀cs b,o.op≠.select cs b:=by
 intro cs b j;simp[Ha,j]at h
theorem Cw{o:Oper}(I:Ha o=true){ρ ρ':Operand->Value}(h:∀x∈o.op.operands.toList,ρ x=ρ' x):execOp ρ o=execOp ρ' o:=
 execOp_congr o (Mr I) (λx j=>h x (by simpa using j))
theorem Oa{f f':Fr}{x:Operand}(h:∀t,x=.tmp t->f t=f' t):ev f x=ev f' x:=by
 cases x<;>first|rfl|exact h _ rfl
theorem wW{f f':Fr}{o:Oper}(h:∀t∈nW ops o,f t=f' t):kX ops f o=kX ops f' o:=by
 unfold kX;cases j:o.guard with
 |none=>rfl
 |some gw=>
  obtain⟨g,want⟩:=gw;simp only[yv];cases hd:rF ops g with
  |none=>rfl
  |some d=>simp only[h d (Db j hd)]
theorem YY.same{f f':Fr}{o:Oper}{d:Nat}(U:Ha o=true)(h:∀t∈nW ops o,f t=f' t)(hd:f d=f' d)(j:YY P ops f o d w):YY P ops f' o d w:=by
 unfold YY at*
 rw[<-wW h,<-hd];rw[<-Cw U (ρ:=ev f) (ρ':=ev f') (λx I=>Oa λt J=>h t (EN (J▸I)))];exact j
theorem Rj{f:Fr}{o:Oper}{K:Value->Prop}(hp:nH P o.op=true\/isRead P o.op=true)(h:qfW P ops f o w K):
  ∃v,K v/\((kX ops f o=true/\(execOp (ev f) o).run P w=.ok (.value v) w/\(nH P o.op=true->∀w',(execOp (ev f) o).run P w'=.ok (.value v) w'))\/(kX ops f o=false/\v=undef)):=by
 have key:∀K:Value->Prop,XG P f o w K->∃v,K v/\(execOp (ev f) o).run P w=.ok (.value v) w/\(nH P o.op=true->∀w',(execOp (ev f) o).run P w'=.ok (.value v) w'):=by
  intro K h;unfold XG at h;cases I:nH P o.op with
  |true=>
   rw[I]at h;obtain⟨v,j,J⟩:=Ew (o:=o) h;exact⟨v,j,J w,λ_=>J⟩
  |false=>
   rw[I]at h;obtain⟨v,j,J⟩:=AO (o:=o) h;exact⟨v,j,J,λhh=>by cases hh⟩
 unfold qfW at h;unfold kX;cases hg:o.guard with
 |none=>
  simp only[hg]at h;obtain⟨v,j,h1,h2⟩:=key K h;exact⟨v,j,.inl ⟨rfl,h1,h2⟩⟩
 |some gw=>
  obtain⟨g,want⟩:=gw;simp only[hg]at h;obtain⟨v,ht,hf,j⟩:=h;cases U:yv ops f g want with
  |true=>
   obtain⟨v',rfl,h1,h2⟩:=key _ (ht U);exact⟨v',j,.inl ⟨U,h1,h2⟩⟩
  |false=>exact⟨v,j,.inr ⟨U,hf U⟩⟩
theorem yV{done:List Nat}:∀{l:List Nat} {i:Nat} {o:Oper},tL ops done l=some (i,o)->i∈l/\i∉done/\ops[i]?=some o/\∀x∈gS o,x∈done
 |[],_,_,h=>by cases h
 |j::l,i,o,h=>by
  simp only[tL]at h
  cases hm:oN done j with
  |true=>rw[hm]at h;obtain⟨h1,U⟩:=yV (l:=l) h;exact⟨aR _ h1,U⟩
  |false=>
   rw[hm]at h
   simp only[aK]at h
   have rec_:tL ops done l=some (i,o)->i∈j::l/\i∉done/\ops[i]?=some o/\∀x∈gS o,x∈done:=λh=>by
    obtain⟨h1,U⟩:=yV (l:=l) h
    exact⟨aR _ h1,U⟩
   cases J:ops[j]? with
   |none=>rw[J]at h;exact rec_ h
   |some o'=>
    rw[J]at h
    simp only at h
    cases I:allIn done (gS o')with
    |true=>
     rw[I]at h
     simp only[aM,bF,gE]at h
     obtain⟨rfl,rfl⟩:=h
     exact⟨bA,(λhd=>by rw[jF.2 hd]at hm;cases hm),J,Ar.1 I⟩
    |false=>rw[I]at h;exact rec_ h
theorem uS{done:List Nat}:∀{l:List Nat},tL ops done l=none->∀i∈l,i∉done->∀o,ops[i]?=some o->¬∀x∈gS o,x∈done
 |[],_,_,hi,_,_,_,_=>by cases hi
 |j::l,h,i,hi,hd,o,ho,I=>by
  simp only[tL]at h
  cases hm:oN done j with
  |true=>
   rw[hm]at h
   rcases bM.1 hi with rfl|hi
   ·exact hd (jF.1 hm)
   ·exact uS (l:=l) h i hi hd o ho I
  |false=>
   rw[hm]at h
   simp only[aK]at h
   rcases bM.1 hi with rfl|hi
   ·rw[ho]at h
    simp[Ar.2 I]at h
   ·cases U:ops[j]? with
    |none=>rw[U]at h;exact uS (l:=l) h i hi hd o ho I
    |some o'=>
     rw[U]at h
     simp only at h
     cases J:allIn done (gS o')with
     |true=>rw[J]at h;cases h
     |false=>rw[J]at h;exact uS (l:=l) h i hi hd o ho I
theorem Km{fl done:List Nat}:∀(l:List Oper) (k i:Nat) (o:Oper),l[i]?=some o->k+i∉done->k+i∉fl->(∀x∈gS o,x∈done)->(k+i,o)∈CC ops fl done k l
 |[],_,i,o,h,_,_,_=>by simp at h
 |p::l,k,0,o,h,h1,I,j=>by
  simp only[List.getElem?_cons_zero,bF]at h
  subst h
  have e1:oN done k=false:=by
   cases hm:oN done k with
   |false=>rfl
   |true=>exact absurd (jF.1 hm) h1
  have e2:oN fl k=false:=by
   cases hm:oN fl k with
   |false=>rfl
   |true=>exact absurd (jF.1 hm) I
  simp[CC,e1,e2,Ar.2 j]
 |p::l,k,i+1,o,h,h1,I,j=>by
  have J:l[i]?=some o:=by simpa using h
  have:=Km (fl:=fl) (done:=done) l (k+1) i o J (by rwa[show k+1+i=k+(i+1)by omega]) (by rwa[show k+1+i=k+(i+1)by omega]) j;rw[show k+1+i=k+(i+1)by omega]at this;simp only[CC];generalize (bif oN done k then false else bif oN fl k then false else allIn done (gS p))=b;cases b
  ·exact this
  ·exact aR _ this
theorem KY{fl done:List Nat}:∀(l:List Oper) (k:Nat) (io:Nat×Oper),io∈CC ops fl done k l->k<=io.1/\l[io.1-k]?=some io.2/\io.1∉done/\io.1∉fl/\∀x∈gS io.2,x∈done
 |[],_,_,h=>by cases h
 |p::l,k,io,h=>by
  simp only[CC]at h
  have tail:io∈CC ops fl done (k+1) l->k<=io.1/\(p::l)[io.1-k]?=some io.2/\io.1∉done/\io.1∉fl/\∀x∈gS io.2,x∈done:=by
   intro h;obtain⟨h1,I,o⟩:=KY l (k+1) io h;refine⟨by omega,?_,o⟩;rw[show io.1-k=(io.1-(k+1))+1 by omega];simpa using I
  cases hm:oN done k with
  |true=>rw[hm]at h;exact tail h
  |false=>
   cases hf:oN fl k with
   |true=>rw[hm,hf]at h;exact tail h
   |false=>
    cases j:allIn done (gS p)with
    |false=>rw[hm,hf,j]at h;exact tail h
    |true=>
     rw[hm,hf,j]at h;simp only[aK,aM]at h;rcases bM.1 h with rfl|h
     ·refine⟨aV _,by simp,(λhd=>by rw[jF.2 hd]at hm;cases hm),(λhd=>by rw[jF.2 hd]at hf;cases hf),Ar.1 j⟩
     ·exact tail h
theorem vS{f:Fr}{w:World}{R:Prop}:∀{l:List Nat},xV P ops f w R l->R
 |[],h=>h
 |i::l,h=>by
  unfold xV at h
  split at h
  ·split at h
   ·cases hp:nH P _<;>rw[hp]at h
    ·exact vS (l:=l) h.2
    ·exact vS (l:=l) h
   ·exact vS (l:=l) h
  ·exact vS (l:=l) h
theorem yO{f:Fr}{w:World}{R:Prop}:∀{l:List Nat},xV P ops f w R l->∀i∈l,∀o d,ops[i]?=some o->o.dst=some d->nH P o.op=false->kX ops f o=true->
  Es P f o w (λx=>x=f d)
 |[],_,_,hi,_,_,_,_,_,_=>by cases hi
 |j::l,h,i,hi,o,d,J,hd,hp,I=>by
  rcases bM.1 hi with rfl|hi
  ·unfold xV at h
   simp only[J,hd,hp]at h
   unfold kX at I
   cases hg:o.guard with
   |none=>simp only[hg]at h;exact h.1
   |some gw=>
    obtain⟨g,want⟩:=gw
    simp only[hg]at h I
    exact h.1 I
  ·unfold xV at h
   split at h
   ·split at h
    ·cases U:nH P _<;>rw[U]at h
     ·exact yO (l:=l) h.2 i hi o d J hd hp I
     ·exact yO (l:=l) h i hi o d J hd hp I
    ·exact yO (l:=l) h i hi o d J hd hp I
   ·exact yO (l:=l) h i hi o d J hd hp I
end
section
variable{R:Fr->Prop}{P:Program}{n:Nat}{D:List Deferred}{ops:List Oper}{e:DE}
theorem Kh:∀(N:Nat) (l:List Nat),l.Nodup->(∀i∈l,i<N)->l.length<=N
 |0,[],_,_=>aV _
 |0,x::_,_,h=>by have:=h x bA;omega
 |N+1,l,j,h=>by
  have h1:(l.erase N).length<=N:=Kh N (l.erase N) (j.erase N) λi hi=>by
   have J:=h i (List.mem_of_mem_erase hi)
   have I:i≠N:=λe=>by subst e;exact(List.Nodup.not_mem_erase j) hi
   omega
  have o:=List.length_erase (a:=N) (l:=l)
  split at o<;>omega
theorem lt_of_some{k:Nat}{o:Oper}(h:ops[k]?=some o):k<ops.length:=by
 rcases dR k ops.length with j|j
 ·exact j
 ·rw[List.getElem?_eq_none j]at h;cases h
theorem xO{k:Nat}{o:Oper}(h:ops[k]?=some o):rF ops k=o.dst:=by simp[rF,h]
theorem Inv.float(hR:∀f o v,o∈ops->R f->R (upd f o.dst v))(hc:qW P n ops e=true){listed:Array Bool}{a:Act}{done pend:List Nat}{f:Fr}(I:Inv R P n D ops e listed a done pend f w){o:Oper}(hi:i∈e.fl)(hd:i∉done)(ho:ops[i]?=some o)(hb:∀x∈gS o,x∈done)
  (hv:(kX ops f o=true/\(execOp (ev f) o).run P w=.ok (.value v) w/\(nH P o.op=true->∀w',(execOp (ev f) o).run P w'=.ok (.value v) w'))\/(kX ops f o=false/\v=undef)):
  Inv R P n D ops e listed a (i::done) (i::pend) (upd f o.dst v) w:=by
 obtain⟨o',d,hz,hh,hkind,hq⟩:=FN hc hi;rw[ho]at hz;cases hz;have hself:d∉nW ops o:=λhm=>hd (FX hc I.l5 i o ho hb i ((hq i o ho).2.1 hm));have hj:∀t,t≠d->upd f o.dst v t=f t:=λt ht=>by rw[hh,nX,aE ht]
 refine⟨hR _ _ _ (bG ho) I.fr,I.defers,I.size,I.lsize,λk J=>aR _ (I.l1 k J),?_,?_,?_,?_,I.l6⟩
 ·intro k J;rcases bM.1 J with rfl|J
  ·exact⟨lt_of_some ho,λ_=>⟨hi,bA⟩⟩
  ·exact⟨(I.l2 k J).1,λhl=>⟨((I.l2 k J).2 hl).1,aR _ ((I.l2 k J).2 hl).2⟩⟩
 ·intro t ht;have xe:t≠d:=λh=>by
   subst h;refine ht i bA ?_ (by rw[xO ho,hh]);cases hl:listed.getD i false with
   |false=>rfl
   |true=>exact absurd (I.l1 i hl) hd
  rw[hj t xe];exact I.l3 t λk J hl=>ht k (aR _ J) hl
 ·intro k J hl ok dk j hy;rcases bM.1 J with rfl|J
  ·rw[ho]at j;cases j;rw[hh]at hy;cases hy;have hsame:∀t∈nW ops o,f t=upd f o.dst v t:=λt ht=>(hj t (λh=>hself (h▸ht))).symm;have U:upd f o.dst v d=v:=by rw[hh,nX,aJ rfl]
   have hg:=(rT hc ho).2.1;have xg:execOp (ev f) o=execOp (ev (upd f o.dst v)) o:=Cw hg (λx hx=>Oa λt ht=>hsame t (EN (ht▸hx)));rcases hv with⟨h1,h2,h3⟩|⟨h1,h2⟩
   ·rw[xg]at h2 h3;rw[wW hsame]at h1;exact⟨.inl ⟨h1,by rw[U];exact h2⟩,λhp w'=>.inl ⟨h1,by rw[U];exact h3 hp w'⟩⟩
   ·rw[wW hsame]at h1;exact⟨.inr ⟨h1,by rw[U];exact h2⟩,λ_ _=>.inr ⟨h1,by rw[U];exact h2⟩⟩
  ·have xf:k≠i:=λh=>hd (h▸J);have xh:d∉nW ops ok:=λhm=>hd (FX hc I.l5 k ok j (I.l5 k J ok j) i ((hq k ok j).2.1 hm));have xa:dk≠d:=λh=>(hq k ok j).1 xf (by rw[hy,h]);have hg:=(rT hc j).2.1;have h4:=I.l4 k J hl ok dk j hy;have hsame:∀t∈nW ops ok,f t=upd f o.dst v t:=λt ht=>(hj t (λh=>xh (h▸ht))).symm;exact⟨h4.1.same hg hsame (hj dk xa).symm,λhp w'=>(h4.2 hp w').same hg hsame (hj dk xa).symm⟩
 ·intro k J ok j x hx;rcases bM.1 J with rfl|J
  ·rw[ho]at j;cases j;exact aR _ (hb x hx)
  ·exact aR _ (I.l5 k J ok j x hx)
theorem CE[HX](hR:∀f o v,o∈ops->R f->R (upd f o.dst v))(J:qW P n ops e=true){K:Fr->World->Prop}{listed:Array Bool}{a:Act}{w:World}:∀(m:Nat) (done pend:List Nat) (f:Fr),
  Inv R P n D ops e listed a done pend f w->wP P ops e m done pend f w K->
  ∃m' done' pend' f',Inv R P n D ops e listed a done' pend' f' w/\wP P ops e (m'+1) done' pend' f' w K/\tL ops done' e.fl=none
 |0,_,_,_,_,h=>by cases h
 |m+1,done,pend,f,I,h=>by
  cases hn:tL ops done e.fl with
  |none=>exact⟨m,done,pend,f,I,h,hn⟩
  |some io=>
   obtain⟨i,o⟩:=io
   simp only[wP,hn]at h
   obtain⟨h1,h2,h3,h4⟩:=yV hn
   obtain⟨o',d,j,U,hkind,_⟩:=FN J h1
   rw[h3]at j
   cases j
   obtain⟨v,hk,hv⟩:=Rj hkind h
   exact CE hR J m _ _ _ (I.float hR J h1 h2 h3 h4 hv) hk
theorem AR{listed:Array Bool}(I:listed.size=ops.length):i∈Region.ready .any ops.toArray listed↔
  ∃o,ops[i]?=some o/\listed.getD i false=false/\∀x∈gS o,listed.getD x false=true:=by
 unfold Region.ready;simp only[jQ,lR,kM,aL,dZ,List.getElem?_toArray];constructor
 ·rintro⟨h1,U,j⟩;have J:ops[i]?=some ops[i]:=List.getElem?_eq_getElem h1;rw[J]at j;simp only[gK,Option.getD_some,Az,cQ,dZ]at j;refine⟨_,J,?_,λx hx=>?_⟩
  ·simp only[iM]at U⊢;have:i<listed.size:=by rw[I];exact h1
   simpa[this]using U
  ·simp only[gS,dL,jQ,Array.mem_toList_iff]at hx;obtain⟨ed,⟨hm,hb⟩,rfl⟩:=hx;rcases j ed hm with j|j
   ·rw[hb]at j;cases j
   ·exact j
 ·rintro⟨o,J,U,j⟩;have h1:=lt_of_some J;refine⟨h1,?_,?_⟩
  ·simp only[iM]at U⊢;have:i<listed.size:=by rw[I];exact h1
   simpa[this]using U
  ·rw[J];simp only[gK,Option.getD_some,Az,cQ,dZ];intro ed hm;cases hb:Region.binds .any ed with
   |false=>exact .inl rfl
   |true=>exact .inr (j _ (by simp only[gS,dL,jQ,Array.mem_toList_iff];exact⟨ed,⟨hm,hb⟩,rfl⟩))
theorem nJ(listed:Array Bool)(i k:Nat)(hi:i<listed.size):(listed.setIfInBounds i true).getD k false=(if k=i then true else listed.getD k false):=by
 simp only[iM,Array.getElem?_setIfInBounds];by_cases h:k=i
 ·subst h;simp[hi]
 ·rw[aE h,aE (tA h)]
theorem MV[HX](hR:∀f o v,o∈ops->R f->R (upd f o.dst v))(hc:qW P n ops e=true){Q:Exit->Act->World->Prop}{K:Fr->World->Prop}
  (hQ:∀f a w,Ag n D f a->R f->K f w->Q .normal a w)(hX:∀c f a w,a.defers=D->R f->(∀t,(∀o∈ops,o.dst≠some t)->a.tmps.getD t undef=f t)->HX.X c w->Q (.panic c) a w):∀(m:Nat) (listed:Array Bool) (a:Act) (done pend:List Nat) (f:Fr) (w:World) (k:Nat),
  Inv R P n D ops e listed a done pend f w->wP P ops e k done pend f w K->(∀l:List Nat,l.Nodup->(∀i∈l,i<ops.length/\listed.getD i false=false)->l.length<=m)->
  wpAny P .any ops.toArray Q m listed a w:=by
 have fin:∀(listed:Array Bool) (a:Act) (done pend:List Nat) (f:Fr) (w:World) (k:Nat),Inv R P n D ops e listed a done pend f w->wP P ops e k done pend f w K->
   (∀i,i<ops.length->listed.getD i false=true)->Q .normal a w:=by
  intro listed a done pend f w k I h hz;obtain⟨k',done',pend',f',I',h',hn⟩:=CE hR hc k done pend f I h;simp only[wP,hn]at h';have yw:Ag n D f' a:=⟨I'.defers,I'.size,λt=>I'.l3 t λi hi hl=>by
   have:=hz i (I'.l2 i hi).1;rw[this]at hl;cases hl⟩
  cases he:CC ops e.fl done' 0 ops with
  |nil=>rw[he]at h';exact hQ _ _ _ yw I'.fr h'
  |cons x r=>
   have hx:x∈CC ops e.fl done' 0 ops:=by rw[he];exact bA
   obtain⟨_,h2,h3,_⟩:=KY ops 0 x hx;exact absurd (I'.l1 x.1 (hz x.1 (lt_of_some (by simpa using h2)))) h3
 have stop:∀(listed:Array Bool),listed.size=ops.length->Region.ready .any ops.toArray listed=[]->∀i,i<ops.length->listed.getD i false=true:=by
  intro listed yp hr i;induction i using Nat.strongRecOn with
  |_ i ih=>
   intro hi;cases hl:listed.getD i false with
   |true=>rfl
   |false=>
    have ho:ops[i]?=some ops[i]:=List.getElem?_eq_getElem hi;have:i∈Region.ready .any ops.toArray listed:=(AR yp).2 ⟨_,ho,hl,λx hx=>by
     have:=(rT hc ho).2.2.1 x hx;exact ih x this (by omega)⟩
    rw[hr]at this;cases this
 intro m;induction m with
 |zero=>
  intro listed a done pend f w k I h hcount;have hz:∀i,i<ops.length->listed.getD i false=true:=λi hi=>by
   cases hl:listed.getD i false with
   |true=>rfl
   |false=>have:=hcount [i] (by simp) (by intro j hj;rw[bK.1 hj];exact⟨hi,hl⟩);simp at this
  refine⟨?_,fin _ _ _ _ _ _ _ I h hz⟩;cases hr:Region.ready .any ops.toArray listed with
  |nil=>rfl
  |cons i r=>
   have:i∈Region.ready .any ops.toArray listed:=by rw[hr];exact bA
   obtain⟨o,ho,hl,_⟩:=(AR I.lsize).1 this;rw[hz i (lt_of_some ho)]at hl;cases hl
 |succ m ih=>
  intro listed a done pend f w k I h hcount;refine⟨λhr=>fin _ _ _ _ _ _ _ I h (stop listed I.lsize hr),λi hi=>?_⟩;obtain⟨o,ho,hl,hb⟩:=(AR I.lsize).1 hi;have xl:=lt_of_some ho;have hv:i<listed.size:=by rw[I.lsize];exact xl
  obtain⟨k',done',pend',f',I',h',hn⟩:=CE hR hc k done pend f I h;clear I h;have hagree:∀t∈nW ops o,a.tmps.getD t undef=f' t:=λt ht=>I'.l3 t λj hj J xb=>by
   obtain⟨xx,_⟩:=(I'.l2 j hj).2 J;obtain⟨oj,dj,hs,hq,_,hz⟩:=FN hc xx;rw[xO hs,hq]at xb;cases xb;have xi:=(hz i o ho).2.1 ht;have hlist:∀x∈e.anc.getD i [],listed.getD x false=true:=by
    have:=FX hc (done:=(List.range ops.length).filter λx=>listed.getD x false) (λx hx ox xj y hy=>by
     simp only[jQ,lR]at hx⊢;exact⟨by have:=(rT hc xj).2.2.1 y hy;omega,I'.l6 x hx.2 ox xj y hy⟩) i o ho (λx hx=>by
     simp only[jQ,lR];exact⟨by have:=(rT hc ho).2.2.1 x hx;omega,hb x hx⟩)
    intro x hx;have:=this x hx;simp only[jQ]at this;exact this.2
   rw[hlist j xi]at J;cases J
  have yc:=(rT hc ho).2.1;have hwant:Region.wanted o (yielded ops.toArray a.tmps)=kX ops f' o:=Gs λg want d hg hd=>hagree d (Db hg hd);have hexec:execOp a.eval o=execOp (ev f') o:=Cw yc λx hx=>ZU λt ht=>hagree t (EN (ht▸hx));have hcount':∀l:List Nat,l.Nodup->(∀j∈l,j<ops.length/\(listed.setIfInBounds i true).getD j false=false)->l.length<=m:=by
   intro l ys yf;have yg:i∉l:=λhm=>by
    have:=(yf i hm).2;rw[nJ _ _ _ hv,aJ rfl]at this;cases this
   have:=hcount (i::l) (jP.2 ⟨yg,ys⟩) (λj hj=>by
    rcases bM.1 hj with rfl|hj
    ·exact⟨xl,hl⟩
    ·have yr:j≠i:=λh=>yg (h▸hj);have:=yf j hj;rw[nJ _ _ _ hv,aE yr]at this;exact this)
   simpa using this
  have ye:∀j:Nat,(listed.setIfInBounds i true).getD j false=true->∀oj,ops[j]?=some oj->∀x∈gS oj,(listed.setIfInBounds i true).getD x false=true:=by
   intro j hj oj hs x hx;rw[nJ _ _ _ hv];by_cases ya:x=i
   ·rw[aJ ya]
   ·rw[aE ya];rw[nJ _ _ _ hv]at hj;by_cases U:j=i
    ·subst U;rw[ho]at hs;cases hs;exact hb x hx
    ·rw[aE U]at hj;exact I'.l6 j hj oj hs x hx
  by_cases hdone:i∈done'
  ·
   obtain⟨yu,_⟩:=(I'.l2 i hdone).2 hl;obtain⟨o',d,yd,hq,_,hz⟩:=FN hc yu;rw[ho]at yd;cases yd;have xy:=(rT hc ho).1 d hq;have hI:Inv R P n D ops e (listed.setIfInBounds i true) (a.put o.dst (f' d)) done' pend' f' w:=by
    refine⟨I'.fr,by rw[put_defers];exact I'.defers,by rw[Et];exact I'.size,by simp[I'.lsize],?_,?_,?_,?_,I'.l5,ye⟩
    ·intro j hj;rw[nJ _ _ _ hv]at hj;by_cases U:j=i
     ·subst U;exact hdone
     ·rw[aE U]at hj;exact I'.l1 j hj
    ·intro j hj;refine⟨(I'.l2 j hj).1,λJ=>?_⟩;rw[nJ _ _ _ hv]at J;by_cases U:j=i
     ·rw[aJ U]at J;cases J
     ·rw[aE U]at J;exact(I'.l2 j hj).2 J
    ·intro t ht;rw[hq,Iv _ _ _ _ (by rw[I'.size];exact xy)];by_cases xc:t=d
     ·rw[aJ xc,xc]
     ·rw[aE xc];refine I'.l3 t λj hj J xb=>?_;by_cases U:j=i
      ·subst U;rw[xO ho,hq]at xb;cases xb;exact xc rfl
      ·exact ht j hj (by rw[nJ _ _ _ hv,aE U];exact J) xb
    ·intro j hj J;rw[nJ _ _ _ hv]at J;by_cases U:j=i
     ·rw[aJ U]at J;cases J
     ·rw[aE U]at J;exact I'.l4 j hj J
   have hnext:=ih _ _ done' pend' f' w (k'+1) hI h' hcount';have hy:=(I'.l4 i hdone hl o d ho hq).1;unfold wpOp;simp only[List.getElem?_toArray,ho];rw[hwant];rcases hy with⟨h1,h2⟩|⟨h1,h2⟩
   ·rw[aJ h1];refine .inl ?_;unfold Oper.wp;rw[hexec,h2];exact hnext
   ·rw[aE (by rw[h1];simp),<-h2];exact hnext
  ·
   have xz:∀x∈gS o,x∈done':=λx hx=>I'.l1 x (hb x hx);have yq:i∉e.fl:=λhf=>uS hn i hf hdone o ho xz;have xh:(i,o)∈CC ops e.fl done' 0 ops:=by
    have:=Km (ops:=ops) (fl:=e.fl) (done:=done') ops 0 i o ho (by simpa using hdone) (by simpa using yq) xz;simpa using this
   simp only[wP,hn]at h';have xm:geW P ops f' o w λv w'=>xV P ops (upd f' o.dst v) w' (wP P ops e k' (i::done') (yU (e.anc.getD i []) pend') (upd f' o.dst v) w' K) (yU (e.anc.getD i []) pend'):=by
    cases he:CC ops e.fl done' 0 ops with
    |nil=>rw[he]at xh;cases xh
    |cons x r=>
     rw[he]at h' xh;exact HG h' xh
   have xy:=(rT hc ho).1;have hlanc:∀x∈e.anc.getD i [],listed.getD x false=true:=by
    have:=FX hc (done:=(List.range ops.length).filter λx=>listed.getD x false) (λx hx ox xj y hy=>by
     simp only[jQ,lR]at hx⊢;exact⟨by have:=(rT hc xj).2.2.1 y hy;omega,I'.l6 x hx.2 ox xj y hy⟩) i o ho (λx hx=>by
     simp only[jQ,lR];exact⟨by have:=(rT hc ho).2.2.1 x hx;omega,hb x hx⟩)
    intro x hx;have:=this x hx;simp only[jQ]at this;exact this.2
   have cont:∀v w',xV P ops (upd f' o.dst v) w' (wP P ops e k' (i::done') (yU (e.anc.getD i []) pend') (upd f' o.dst v) w' K) (yU (e.anc.getD i []) pend')->
     wpAny P .any ops.toArray Q m (listed.setIfInBounds i true) (a.put o.dst v) w':=by
    intro v w' yb;refine ih _ _ (i::done') (yU (e.anc.getD i []) pend') (upd f' o.dst v) w' k' ?_ (vS yb) hcount';have xr:∀j∈i::done',(listed.setIfInBounds i true).getD j false=false->j≠i/\j∈done'/\listed.getD j false=false:=by
     intro j hj J;rw[nJ _ _ _ hv]at J;by_cases U:j=i
     ·rw[aJ U]at J;cases J
     ·rw[aE U]at J;exact⟨U,(bM.1 hj).resolve_left U,J⟩
    refine⟨hR _ _ _ (bG ho) I'.fr,by rw[put_defers];exact I'.defers,by rw[Et];exact I'.size,by simp[I'.lsize],?_,?_,?_,?_,?_,ye⟩
    ·intro j hj;rw[nJ _ _ _ hv]at hj;by_cases U:j=i
     ·subst U;exact bA
     ·rw[aE U]at hj;exact aR _ (I'.l1 j hj)
    ·intro j hj;refine⟨?_,λJ=>?_⟩
     ·rcases bM.1 hj with rfl|hj
      ·exact xl
      ·exact(I'.l2 j hj).1
     ·obtain⟨U,xk,xe⟩:=xr j hj J;obtain⟨h1,h2⟩:=(I'.l2 j xk).2 xe;exact⟨h1,Hc h2 λhm=>by rw[hlanc j hm]at xe;cases xe⟩
    ·intro t ht;have h3:∀(h:∀d,o.dst=some d->t≠d),a.tmps.getD t undef=f' t:=λh=>I'.l3 t λj hj J xb=>by
      have U:j≠i:=λh'=>hdone (h'▸hj);exact ht j (aR _ hj) (by rw[nJ _ _ _ hv,aE U];exact J) xb
     cases hq:o.dst with
     |none=>rw[hq]at h3;exact h3 (λd hd=>by cases hd)
     |some d=>
      rw[Iv _ _ _ _ (by rw[I'.size];exact xy d hq),nX];by_cases xc:t=d
      ·rw[aJ xc,aJ xc]
      ·rw[aE xc,aE xc];exact h3 (λd' yi=>by rw[hq]at yi;cases yi;exact xc)
    ·intro j hj J oj dj hs xb;obtain⟨U,xk,xe⟩:=xr j hj J;obtain⟨xx,yt⟩:=(I'.l2 j xk).2 xe;obtain⟨oj',dj',xt,xu,hkind,hz⟩:=FN hc xx;rw[hs]at xt;cases xt;rw[xb]at xu;cases xu;have hselj:=(rT hc hs).2.1;have xi:j∉e.anc.getD i []:=λhm=>by rw[hlanc j hm]at xe;cases xe
     have hfree:∀t,(t∈nW ops oj\/t=dj)->f' t=upd f' o.dst v t:=by
      intro t ht;cases hq:o.dst with
      |none=>rfl
      |some d=>
       rw[nX];by_cases xc:t=d
       ·exfalso;subst xc;rcases ht with ht|ht
        ·rcases(hz i o ho).2.2 t hq ht with h1|⟨_,h1⟩
         ·exact hdone (FX hc I'.l5 j oj hs (I'.l5 j xk oj hs) i h1)
         ·exact xi h1
        ·exact(hz i o ho).1 (tA U) (by rw[hq,ht])
       ·rw[aE xc]
     obtain⟨ym,yl⟩:=I'.l4 j xk xe oj dj hs xb;have hpure:nH P oj.op=true->∀w',YY P ops (upd f' o.dst v) oj dj w':=λhp w'=>(yl hp w').same hselj (λt ht=>hfree t (.inl ht)) (hfree dj (.inr rfl));refine⟨?_,hpure⟩;cases hp:nH P oj.op with
     |true=>exact hpure hp w'
     |false=>
      cases xo:kX ops (upd f' o.dst v) oj with
      |true=>
       have:=yO yb j (Hc yt xi) oj dj hs xb hp xo;obtain⟨x,rfl,hr⟩:=AO this;exact .inl ⟨xo,hr⟩
      |false=>
       refine .inr ⟨xo,?_⟩;have yo:kX ops f' oj=false:=by rw[wW (λt ht=>hfree t (.inl ht))];exact xo
       rcases ym with⟨h1,_⟩|⟨_,h1⟩
       ·rw[yo]at h1;cases h1
       ·rw[<-hfree dj (.inr rfl)];exact h1
    ·intro j hj oj hs x hx;rcases bM.1 hj with rfl|hj
     ·rw[ho]at hs;cases hs;exact aR _ (xz x hx)
     ·exact aR _ (I'.l5 j hj oj hs x hx)
   unfold wpOp;simp only[List.getElem?_toArray,ho];rw[hwant];unfold geW at xm;unfold kX;have yn:∀c w,HX.X c w->Q (.panic c) a w:=λc w hx=>hX c f' a w I'.defers I'.fr (λt ht=>I'.l3 t λj hj _ xb=>by
    obtain⟨oj,hs⟩:∃oj,ops[j]?=some oj:=⟨_,List.getElem?_eq_getElem (I'.l2 j hj).1⟩;rw[xO hs]at xb;exact ht oj (bG hs) xb) hx
   have act:∀{K':Value->World->Prop},(∀v w',K' v w'->wpAny P .any ops.toArray Q m (listed.setIfInBounds i true) (a.put o.dst v) w')->Jf P f' o w K'->
     o.wp P a w (wpAny P .any ops.toArray Q m (listed.setIfInBounds i true)) Q:=by
    intro K' hk ha;unfold Oper.wp;rw[hexec];exact(HV ha).upon hk yn
   cases hg:o.guard with
   |none=>
    simp only[hg]at xm;exact .inl (act cont xm)
   |some gw=>
    obtain⟨g,want⟩:=gw;simp only[hg]at xm;obtain⟨h1,h2⟩:=xm;cases xp:yv ops f' g want with
    |true=>simp only[xp,gF];exact .inl (act cont (h1 xp))
    |false=>simp only[xp,fF,kL];exact cont _ _ (h2 xp)
theorem JO[HX]{id:Nat}(hR:∀f o v,o∈ops->R f->R (upd f o.dst v))(hm:P.follows .mixedOrders=true)(J:qW P n ops e=true){Q:Exit->Act->World->Prop}{K:Fr->World->Prop}{f:Fr}{a:Act}{k:Nat}
  (hQ:∀f a w,Ag n D f a->R f->K f w->Q .normal a w)(U:∀c f a w,a.defers=D->R f->(∀t,(∀o∈ops,o.dst≠some t)->a.tmps.getD t undef=f t)->HX.X c w->Q (.panic c) a w)(I:Ag n D f a)(hf:R f)(h:wP P ops e k [] [] f w.drew K):(Code.region id ops.toArray true).wp P Q a w:=by
 refine wp_region_any hm ?_;have hfalse:∀i:Nat,(Array.replicate ops.length false).getD i false=false:=λi=>by
  simp only[iM,Array.getElem?_replicate];split<;>rfl
 refine MV hR J hQ U _ _ a [] [] f _ k ⟨hf,I.1,I.2.1,by simp,?_,?_,?_,?_,?_,?_⟩ h ?_
 ·intro i hi;rw[show ops.toArray.size=ops.length from by simp,hfalse]at hi;cases hi
 ·intro i hi;cases hi
 ·intro t _;exact I.2.2 t
 ·intro i hi;cases hi
 ·intro i hi;cases hi
 ·intro i hi;rw[show ops.toArray.size=ops.length from by simp,hfalse]at hi;cases hi
 ·intro l j hl;have:l.length<=ops.length:=by
   exact Kh _ l j λi hi=>(hl i hi).1
  simpa using this
end
structure PE where
 C:List Nat
 V:List Nat
 lo:Nat
structure cO where
 js:List (Nat×PE)
 ds:List (Nat×DE)
def lk{α:Type}:List (Nat×α)->Nat->Option α
 |[],_=>none
 |(k,e)::r,i=>bif Nat.beq k i then some e else lk r i
def inS(V:List Nat)(lo t:Nat):Bool:=bif Nat.ble lo t then true else oN V t
def ovl:List Nat->Nat->List Value->Fr->Fr
 |[],_,_,f=>f
 |c::C,k,s,f=>λj=>bif Nat.beq j c then s.getD k undef else ovl C (k+1) s f j
def ovf(e:PE)(f:Fr)(s:List Value)(g:Fr):Fr:=ovl e.C 0 s (λj=>bif inS e.V e.lo j then g j else f j)
def bU(A:(List Value->World->Prop)->Prop)(B:List Value->Fr->World->Prop):Prop:=
 ∃J:List Value->World->Prop,A J/\∀s g w,J s w->B s g w
def GdW(c:Bool)(u:List Value)(w:World)(A:(List Value->World->Prop)->Prop)(B:List Value->Fr->World->Prop):Prop:=
 ∃J:List Value->World->Prop,(c=true->A J)/\(c=false->J u w)/\∀s g w',J s w'->B s g w'
def cY(s0:List Value)(w0:World)(B:List Value->Fr->World->(List Value->World->Prop)->Prop):Prop:=
 ∃(I:List Value->World->Prop) (μ:List Value->World->Nat),I s0 w0/\∀s g w,I s w->B s g w (λs' w'=>I s' w'/\μ s' w'<μ s w)
def aS(v:Value)(A B:Prop):Prop:=match v with|.bool t=>(t=true->A)/\(t=false->B)|_=>False
def gEq:Option (Nat×Bool)->Nat->Bool->Bool
 |some (g',w'),g,w=>bif Nat.beq g g' then w==w' else false
 |none,_,_=>false
def AG(g:Nat)(want:Bool):List Oper->List Oper
 |[]=>[]
 |o::r=>bif gEq o.guard g want then o::AG g want r else []
def Cf(g:Nat)(want:Bool):List Oper->List Oper
 |[]=>[]
 |o::r=>bif gEq o.guard g want then Cf g want r else o::r
def aBE[HX](P:Program):List Oper->Fr->World->(Fr->World->Prop)->Prop
 |[],f,w,K=>K f w
 |o::r,f,w,K=>Jf P f o w λv w'=>aBE P r (upd f o.dst v) w' K
def Eb:List Oper->Fr->Fr
 |[],f=>f
 |o::r,f=>Eb r (upd f o.dst undef)
def Sz(i k:Nat):Nat:=i*1000+k
def Rx[HX](P:Program)(pl:cO)(i:Nat)(ops:List Oper):Nat->List Oper->Fr->World->(Fr->World->Prop)->Prop
 |0,_,_,_,_=>False
 |_+1,[],f,w,K=>K f w
 |n+1,o::r,f,w,K=>
  match o.guard with
  |none=>Jf P f o w λv w'=>Rx P pl i ops n r (upd f o.dst v) w' K
  |some (g,want)=>
   match lk pl.js (Sz i (o::r).length)with
   |some e=>GdW (yv ops f g want) (e.C.map (Eb (AG g want (o::r)) f)) w (λJ=>aBE P (AG g want (o::r)) f w λf' w'=>J (e.C.map f') w')
     λs h w'=>Rx P pl i ops n (Cf g want (o::r)) (ovf e f s h) w' K
   |none=>False
def uR:Code->Nat
 |.seq a b=>uR a+uR b+1
 |.cond _ a b=>uR a+uR b+1
 |.block _ b=>uR b+1
 |.loop b=>uR b+1
 |.scope b=>uR b+1
 |_=>1
def pF[HX](P:Program)(pl:cO):Code->Nat->Fr->World->(Fr->World->Prop)->(Nat->Fr->World->Prop)->(Fr->World->Prop)->Prop
 |.skip,_,f,w,kn,_,_=>kn f w
 |.label _,_,f,w,kn,_,_=>kn f w
 |.region _ ops draw,i,f,w,kn,_,_=>
  bif draw then(match lk pl.ds i with|some e=>wP P ops.toList e (ops.toList.length+1) [] [] f w.drew kn|none=>False)
  else Rx P pl i ops.toList (ops.toList.length+1) ops.toList f w kn
 |.seq a b,i,f,w,kn,kx,kr=>
  match lk pl.js i with
  |none=>pF P pl a (i+1) f w (λf' w'=>pF P pl b (i+1+uR a) f' w' kn kx kr) kx kr
  |some e=>bU (λJ=>pF P pl a (i+1) f w (λf' w'=>J (e.C.map f') w') kx kr) λs g w'=>pF P pl b (i+1+uR a) (ovf e f s g) w' kn kx kr
 |.cond c a b,i,f,w,kn,kx,kr=>aS (ev f c) (pF P pl a (i+1) f w kn kx kr) (pF P pl b (i+1+uR a) f w kn kx kr)
 |.block id b,i,f,w,kn,kx,kr=>pF P pl b (i+1) f w kn (λj f' w'=>bif Nat.beq j id then kn f' w' else kx j f' w') kr
 |.loop b,i,f,w,_,kx,kr=>
  match lk pl.js i with
  |none=>False
  |some e=>cY (e.C.map f) w λs g w' again=>pF P pl b (i+1) (ovf e f s g) w' (λf' w''=>again (e.C.map f') w'') kx kr
 |.scope b,i,f,w,kn,kx,kr=>pF P pl b (i+1) f w kn kx kr
 |.exit id,_,f,w,_,kx,_=>kx id f w
 |.ret,_,f,w,_,_,kr=>kr f w
 |_,_,_,_,_,_,_=>False
def Ll(V:List Nat)(lo:Nat)(e:PE):Bool:=Nat.ble lo e.lo&&e.V.all (inS V lo)&&e.C.all (inS e.V e.lo)
def AI(V:List Nat)(lo:Nat)(o:Oper):Bool:=match o.dst with|some d=>inS V lo d|none=>true
def KZ(n:Nat)(o:Oper):Bool:=match o.dst with|some d=>Nat.blt d n|none=>true
def nO(pl:cO)(V:List Nat)(lo:Nat)(i:Nat)(ops:List Oper):List Oper->Bool
 |[]=>true
 |o::r=>(match o.guard with
  |none=>true
  |some (g,want)=>(match lk pl.js (Sz i (o::r).length)with
   |some e=>Ll V lo e&&(AG g want (o::r)).all λx=>AI e.V e.lo x&&(match x.dst,rF ops g with|some d,some dg=> !(Nat.beq d dg)|_,_=>true)
   |none=>true))&&nO pl V lo i ops r
def chk(P:Program)(n:Nat)(pl:cO)(V:List Nat)(lo:Nat):Code->Nat->Bool
 |.region _ ops draw,i=>ops.toList.all (λo=>AI V lo o&&KZ n o)&&
  (bif draw then(match lk pl.ds i with|some e=>qW P n ops.toList e|none=>true)else nO pl V lo i ops.toList ops.toList)
 |.seq a b,i=>(match lk pl.js i with|none=>chk P n pl V lo a (i+1)|some e=>Ll V lo e&&chk P n pl e.V e.lo a (i+1))&&chk P n pl V lo b (i+1+uR a)
 |.cond _ a b,i=>chk P n pl V lo a (i+1)&&chk P n pl V lo b (i+1+uR a)
 |.block _ b,i=>chk P n pl V lo b (i+1)
 |.scope b,i=>chk P n pl V lo b (i+1)
 |.loop b,i=>(match lk pl.js i with|none=>true|some e=>Ll V lo e&&chk P n pl e.V e.lo b (i+1))
 |_,_=>true
def Same(V:List Nat)(lo:Nat)(f f':Fr):Prop:=∀t,inS V lo t=false->f' t=f t
theorem Same.refl(V:List Nat)(lo:Nat)(f:Fr):Same V lo f f:=λ_ _=>rfl
theorem Same.trans{V:List Nat}{lo:Nat}{f g h:Fr}(h1:Same V lo f g)(o:Same V lo g h):Same V lo f h:=λt j=>(o t j).trans (h1 t j)
theorem NN{V:List Nat}{lo t:Nat}:inS V lo t=true↔lo<=t\/t∈V:=by
 unfold inS;cases h:Nat.ble lo t with
 |true=>simp[jH h]
 |false=>
  have:¬lo<=t:=λj=>by rw[Nat.ble_eq_true_of_le j]at h;cases h
  simp[this,jF]
theorem CK{V:List Nat}{lo:Nat}{e:PE}(h:Ll V lo e=true):(∀t,inS e.V e.lo t=true->inS V lo t=true)/\∀c∈e.C,inS e.V e.lo c=true:=by
 simp only[Ll,aL,bN]at h;refine⟨λt j=>?_,h.2⟩;rcases NN.1 j with h1|h1
 ·exact NN.2 (.inl (cC (jH h.1.1) h1))
 ·exact h.1.2 t h1
theorem Same.wider{V V':List Nat}{lo lo':Nat}{f f':Fr}(o:∀t,inS V lo t=true->inS V' lo' t=true)(h:Same V lo f f'):Same V' lo' f f':=λt j=>h t (by
 cases hi:inS V lo t with
 |false=>rfl
 |true=>rw[o t hi]at j;cases j)
theorem NB(f':Fr):∀(C:List Nat) (k:Nat) (s:List Value) (f:Fr) (t:Nat),(∀j,j<C.length->s.getD (k+j) undef=f' (C.getD j 0))->(t∉C->f t=f' t)->ovl C k s f t=f' t
 |[],_,_,_,_,_,h=>h (by simp)
 |c::C,k,s,f,t,I,h=>by
  simp only[ovl]
  cases hb:Nat.beq t c with
  |true=>
   have:=I 0 (by simp)
   simp only[aM]
   rw[iG hb]
   simpa using this
  |false=>
   simp only[aK]
   have o:t≠c:=λe=>by subst e;simp at hb
   refine NB f' C (k+1) s f t (λj J=>?_) λhn=>h (by simp[o,hn])
   have:=I (j+1) (by simp;omega)
   rw[show k+1+j=k+(j+1)by omega,this]
   rfl
theorem Bw{e:PE}{f f':Fr}(h:Same e.V e.lo f f'):ovf e f (e.C.map f') f'=f':=by
 funext t;refine NB f' e.C 0 _ _ t (λj o=>?_) λ_=>?_
 ·simp[o]
 ·cases hi:inS e.V e.lo t with
  |true=>simp[hi]
  |false=>simp[hi,h t hi]
theorem Same.upd{V:List Nat}{lo:Nat}{f:Fr}{o:Oper}(h:AI V lo o=true)(v:Value):Same V lo f (upd f o.dst v):=by
 intro t j;unfold AI at h;cases hd:o.dst with
 |none=>rfl
 |some d=>
  rw[hd]at h;rw[nX,aE];intro e;subst e;have h:inS V lo t=true:=h;rw[h]at j;cases j
theorem FF{o:Oper}(h:KZ n o=true):∀t,o.dst=some t->t<n:=by
 intro t j;rw[KZ,j]at h;exact jH h
theorem SD{x:Option (Nat×Bool)}{g:Nat}{w:Bool}(h:gEq x g w=true):x=some (g,w):=by
 cases x with
 |none=>cases h
 |some p=>
  obtain⟨g',w'⟩:=p;simp only[gEq]at h;cases hb:Nat.beq g g' with
  |false=>rw[hb]at h;cases h
  |true=>
   rw[hb]at h;simp only[aM,fV]at h;rw[iG hb,h]
theorem Ho(g:Nat)(want:Bool):∀l:List Oper,l=AG g want l++Cf g want l/\∀o∈AG g want l,o.guard=some (g,want)
 |[]=>⟨rfl,by simp[AG]⟩
 |o::r=>by
  simp only[AG,Cf]
  cases h:gEq o.guard g want with
  |false=>simp
  |true=>
   obtain⟨h1,I⟩:=Ho g want r
   refine⟨by simp only[aM,dD];rw[<-h1],λx j=>?_⟩
   simp only[aM,bM]at j
   rcases j with rfl|j
   ·exact SD h
   ·exact I x j
section
variable [HX]{P:Program}{n:Nat}{D:List Deferred}{ops:List Oper}{Q:Exit->Act->World->Prop}{V:List Nat}{lo:Nat}
def PX[HX](V:List Nat)(lo:Nat)(D:List Deferred)(Q:Exit->Act->World->Prop)(f:Fr):Prop:=
 ∀c a w,a.defers=D->(∀t,inS V lo t=false->a.tmps.getD t undef=f t)->HX.X c w->Q (.panic c) a w
theorem PX.same{f f':Fr}(h:PX V lo D Q f)(I:Same V lo f f'):PX V lo D Q f':=λc a w hd o j=>h c a w hd (λt hn=>(o t hn).trans (I t hn)) j
theorem PX.sub{V':List Nat}{lo':Nat}{f:Fr}(h:PX V lo D Q f)(I:∀t,inS V' lo' t=true->inS V lo t=true):PX V' lo' D Q f:=λc a w hd o j=>h c a w hd (λt hn=>o t (by
 cases J:inS V' lo' t with
 |false=>rfl
 |true=>rw[I t J]at hn;cases hn)) j
theorem PX.ag{f:Fr}{a:Act}(h:PX V lo D Q f)(j:Ag n D f a):∀c w,HX.X c w->Q (.panic c) a w:=λc w o=>h c a w j.1 (λt _=>j.2.2 t) o
theorem Be{f:Fr}{a:Act}{o:Oper}(h:Ag n D f a):Region.wanted o (yielded ops.toArray a.tmps)=kX ops f o:=Gs λ_ _ d _ _=>h.2.2 d
theorem IA{f:Fr}{a:Act}{o:Oper}{rest:List Oper}(j:Ag n D f a)(J:kX ops f o=true)(h:Jf P f o w K)
  (U:∀v w',K v w'->wpList P ops.toArray Q rest (a.put o.dst v) w')(I:∀c w,HX.X c w->Q (.panic c) a w):wpList P ops.toArray Q (o::rest) a w:=by
 unfold wpList;rw[aJ (by rw[Be j];exact J)];refine .inl ?_;unfold Oper.wp;rw[zD j];exact(HV h).upon U I
theorem Wp{f:Fr}{a:Act}{o:Oper}{rest:List Oper}(j:Ag n D f a)(I:kX ops f o=false)
  (J:wpList P ops.toArray Q rest (a.put o.dst undef) w):wpList P ops.toArray Q (o::rest) a w:=by
 unfold wpList;rw[aE (by rw[Be j,I];simp)];exact J
theorem Qr{f:Fr}{g:Nat}{want:Bool}{o:Oper}(h:∀d dg,o.dst=some d->rF ops g=some dg->d≠dg):yv ops (upd f o.dst v) g want=yv ops f g want:=by
 unfold yv;cases j:rF ops g with
 |none=>rfl
 |some dg=>
  cases hd:o.dst with
  |none=>rfl
  |some d=>simp only;rw[nX,aE (tA (h d dg hd j))]
theorem ED{g:Nat}{want:Bool}:∀(grp rest:List Oper) (f:Fr) (a:Act) (w:World) (K:Fr->World->Prop),(∀o∈grp,o.guard=some (g,want))->
  (∀o∈grp,AI V lo o=true/\(∀t,o.dst=some t->t<n)/\∀d dg,o.dst=some d->rF ops g=some dg->d≠dg)->Ag n D f a->yv ops f g want=true->aBE P grp f w K->
  (∀f' a' w',Ag n D f' a'->Same V lo f f'->K f' w'->wpList P ops.toArray Q rest a' w')->PX V lo D Q f->wpList P ops.toArray Q (grp++rest) a w
 |[],rest,f,a,w,K,_,_,j,_,h,U,_=>U f a w j (Same.refl _ _ _) h
 |o::grp,rest,f,a,w,K,hg,hd,j,hy,h,U,hX=>by
  obtain⟨h1,h2,h3⟩:=hd o bA
  refine IA j (by simp only[kX,hg o bA];exact hy) h (λv w' h'=>?_) (hX.ag j)
  refine ED grp rest (upd f o.dst v) (a.put o.dst v) w' K (λx J=>hg x (aR _ J)) (λx J=>hd x (aR _ J)) (j.put h2 v) (by rw[Qr h3];exact hy) h' ?_ (hX.same (Same.upd h1 v))
  exactλf' a' w'' I hs hK=>U f' a' w'' I (Same.trans (Same.upd h1 v) hs) hK
theorem Bh{g:Nat}{want:Bool}:∀(grp rest:List Oper) (f:Fr) (a:Act) (w:World),(∀o∈grp,o.guard=some (g,want))->
  (∀o∈grp,AI V lo o=true/\(∀t,o.dst=some t->t<n)/\∀d dg,o.dst=some d->rF ops g=some dg->d≠dg)->Ag n D f a->yv ops f g want=false->
  (∀a',Ag n D (Eb grp f) a'->Same V lo f (Eb grp f)->wpList P ops.toArray Q rest a' w)->wpList P ops.toArray Q (grp++rest) a w
 |[],rest,f,a,w,_,_,j,_,U=>U a j (Same.refl _ _ _)
 |o::grp,rest,f,a,w,hg,hd,j,hy,U=>by
  obtain⟨h1,h2,h3⟩:=hd o bA
  refine Wp j (by simp only[kX,hg o bA];exact hy) ?_
  refine Bh grp rest (upd f o.dst undef) (a.put o.dst undef) w (λx J=>hg x (aR _ J)) (λx J=>hd x (aR _ J)) (j.put h2 undef) (by rw[Qr h3];exact hy) ?_
  exactλa' I hs=>U a' I (Same.trans (Same.upd h1 undef) hs)
theorem zJ{pl:cO}{i:Nat}:∀(x y:List Oper),nO pl V lo i ops (x++y)=true->nO pl V lo i ops y=true
 |[],_,h=>h
 |o::x,y,h=>by
  simp only[dD,nO,aL]at h
  exact zJ x y h.2
theorem xG{pl:cO}{i:Nat}{K:Fr->World->Prop}:∀(m:Nat) (l:List Oper) (f:Fr) (a:Act) (w:World),(∀o∈l,AI V lo o=true/\KZ n o=true)->nO pl V lo i ops l=true->
  Ag n D f a->Rx P pl i ops m l f w K->(∀f' a' w',Ag n D f' a'->Same V lo f f'->K f' w'->Q .normal a' w')->PX V lo D Q f->wpList P ops.toArray Q l a w
 |0,_,_,_,_,_,_,_,h,_,_=>by cases h
 |m+1,[],f,a,w,_,_,hh,h,hQ,_=>hQ f a w hh (Same.refl _ _ _) h
 |m+1,o::r,f,a,w,hd,hc,hh,h,hQ,hX=>by
  unfold Rx at h
  cases hg:o.guard with
  |none=>
   simp only[hg]at h
   have hk:=hd o bA
   refine IA hh (by simp[kX,hg]) h (λv w' h'=>?_) (hX.ag hh)
   simp only[nO,aL]at hc
   refine xG m r _ _ w' (λx hx=>hd x (aR _ hx)) hc.2 (hh.put (FF hk.2) v) h' ?_ (hX.same (Same.upd hk.1 v))
   exactλf' a' w'' I hs hK=>hQ f' a' w'' I (Same.trans (Same.upd hk.1 v) hs) hK
  |some gw=>
   obtain⟨g,want⟩:=gw
   simp only[hg]at h
   cases he:lk pl.js (Sz i (o::r).length)with
   |none=>simp only[he]at h
   |some e=>
    simp only[he]at h
    obtain⟨J,hT,hF,hB⟩:=h
    obtain⟨hsplit,hr⟩:=Ho g want (o::r)
    have xb:=hc
    simp only[nO,hg,he,aL,bN]at hc
    obtain⟨⟨xj,ht⟩,xo⟩:=hc
    obtain⟨j,hC⟩:=CK xj
    have hv:∀x∈AG g want (o::r),AI e.V e.lo x=true/\(∀t,x.dst=some t->t<n)/\∀d dg,x.dst=some d->rF ops g=some dg->d≠dg:=by
     intro x hx;have h1:=ht x hx;refine⟨h1.1,FF (hd x (by rw[hsplit];exact eZ _ hx)).2,λd dg xi xm xk=>?_⟩;have h2:=h1.2;simp only[xi,xm,xk]at h2;simp at h2
    have xa:nO pl V lo i ops (Cf g want (o::r))=true:=by
     rw[hsplit]at xb;exact zJ _ _ xb
    have hz:∀x∈Cf g want (o::r),AI V lo x=true/\KZ n x=true:=λx hx=>hd x (by rw[hsplit];exact dB _ hx);rw[hsplit];cases hy:yv ops f g want with
    |true=>
     refine ED (V:=e.V) (lo:=e.lo) _ _ f a w _ hr hv hh hy (hT hy) (λf' a' w' I hs hJ=>?_) (hX.sub j);have h':=hB _ f' _ hJ;simp only[Bw hs]at h';refine xG m _ f' a' w' hz xa I h' ?_ (hX.same (Same.wider j hs));exactλf'' a'' w'' U hj hK=>hQ f'' a'' w'' U (Same.trans (Same.wider j hs) hj) hK
    |false=>
     refine Bh (V:=e.V) (lo:=e.lo) _ _ f a w hr hv hh hy λa' I hs=>?_;have h':=hB _ (Eb (AG g want (o::r)) f) _ (hF hy);simp only[Bw hs]at h';refine xG m _ _ a' w hz xa I h' ?_ (hX.same (Same.wider j hs));exactλf'' a'' w'' U hj hK=>hQ f'' a'' w'' U (Same.trans (Same.wider j hs) hj) hK
end
section
variable [HX]{P:Program}{n:Nat}{D:List Deferred}{pl:cO}
theorem vF(hm:P.follows .mixedOrders=true):∀(c:Code) (V:List Nat) (lo i:Nat) (f:Fr) (a:Act) (w:World) (kn:Fr->World->Prop) (kx:Nat->Fr->World->Prop) (kr:Fr->World->Prop) (Q:Exit->Act->World->Prop),
  chk P n pl V lo c i=true->Ag n D f a->pF P pl c i f w kn kx kr->
  (∀f' a' w',Ag n D f' a'->Same V lo f f'->kn f' w'->Q .normal a' w')->(∀j f' a' w',Ag n D f' a'->Same V lo f f'->kx j f' w'->Q (.exit j) a' w')->
  (∀f' a' w',Ag n D f' a'->Same V lo f f'->kr f' w'->Q .ret a' w')->PX V lo D Q f->c.wp P Q a w:=by
 intro c;induction c with
 |skip=>intro V lo i f a w kn kx kr Q _ hh h hn _ _ _;exact wp_skip (hn f a w hh (Same.refl _ _ _) h)
 |label l=>intro V lo i f a w kn kx kr Q _ hh h hn _ _ _;exact wp_label (hn f a w hh (Same.refl _ _ _) h)
 |exit id=>intro V lo i f a w kn kx kr Q _ hh h _ hx _ _;exact wp_exit (hx id f a w hh (Same.refl _ _ _) h)
 |ret=>intro V lo i f a w kn kx kr Q _ hh h _ _ hr _;exact wp_ret (hr f a w hh (Same.refl _ _ _) h)
 |goto l=>intro V lo i f a w kn kx kr Q _ _ h _ _ _ _;exact h.elim
 |refuse l=>intro V lo i f a w kn kx kr Q _ _ h _ _ _ _;exact h.elim
 |scope b ih=>
  intro V lo i f a w kn kx kr Q hc hh h hn hx hr hX;simp only[chk]at hc;simp only[pF]at h;refine wp_scope_straight ?_;exact ih V lo _ f a w kn kx kr _ hc hh h hn hx hr hX
 |rangeFunc f' ps az b=>intro V lo i f a w kn kx kr Q _ _ h _ _ _ _;exact h.elim
 |region id ops draw=>
  intro V lo i f a w kn kx kr Q hc hh h hn _ _ hX;simp only[chk,aL,bN]at hc;simp only[pF]at h;cases draw with
  |false=>
   simp only[aK]at h hc;refine wp_region_list ?_;have:=xG (ops:=ops.toList) (Q:=Q) (n:=n) (V:=V) (lo:=lo) _ _ f a w hc.1 hc.2 hh h hn hX;simpa using this
  |true=>
   simp only[aM]at h hc;cases he:lk pl.ds i with
   |none=>simp only[he]at h
   |some e=>
    simp only[he]at h hc;have:=JO (R:=Same V lo f) (id:=id) (Q:=Q) (K:=kn) (λf' o v ho hs=>Same.trans hs (Same.upd (hc.1 o ho).1 v)) hm hc.2
     (λf' a' w' hg hs hk=>hn f' a' w' hg hs hk) (λc f' a' w' hd hs ht hx=>hX c a' w' hd (λt hn=>(ht t λo ho he=>by
       have:=(hc.1 o ho).1;simp only[AI,he]at this;rw[this]at hn;cases hn).trans (hs t hn)) hx) hh (Same.refl _ _ _) h
    simpa using this
 |seq x y ihx ihy=>
  intro V lo i f a w kn kx kr Q hc hh h hn hx hr hX;simp only[chk,aL]at hc;simp only[pF]at h;refine wp_seq ?_;cases he:lk pl.js i with
  |none=>
   simp only[he]at h hc;refine ihx V lo (i+1) f a w _ kx kr _ hc.1 hh h ?_ hx hr hX;intro f' a' w' hg hs h';exact ihy V lo _ f' a' w' kn kx kr Q hc.2 hg h' (λf'' a'' w'' U hi hk=>hn f'' a'' w'' U (hs.trans hi) hk)
    (λj f'' a'' w'' U hi hk=>hx j f'' a'' w'' U (hs.trans hi) hk) (λf'' a'' w'' U hi hk=>hr f'' a'' w'' U (hs.trans hi) hk) (hX.same hs)
  |some e=>
   simp only[he,aL]at h hc;obtain⟨hz,hC⟩:=CK hc.1.1;obtain⟨J,hA,hB⟩:=h;refine ihx e.V e.lo (i+1) f a w _ kx kr _ hc.1.2 hh hA ?_ (λj f' a' w' hg hs hk=>hx j f' a' w' hg (hs.wider hz) hk) (λf' a' w' hg hs hk=>hr f' a' w' hg (hs.wider hz) hk) (hX.sub hz);intro f' a' w' hg hs hJ;have h':=hB _ f' _ hJ;simp only[Bw hs]at h';have xf:=hs.wider hz;exact ihy V lo _ f' a' w' kn kx kr Q hc.2 hg h' (λf'' a'' w'' U hi hk=>hn f'' a'' w'' U (xf.trans hi) hk)
    (λj f'' a'' w'' U hi hk=>hx j f'' a'' w'' U (xf.trans hi) hk) (λf'' a'' w'' U hi hk=>hr f'' a'' w'' U (xf.trans hi) hk) (hX.same xf)
 |cond c x y ihx ihy=>
  intro V lo i f a w kn kx kr Q hc hh h hn hx hr hX;simp only[chk,aL]at hc;simp only[pF]at h;have he:a.eval c=ev f c:=congrFun (zD hh) c;cases hv:ev f c<;>rw[hv]at h<;>simp only[aS]at h<;>try exact h.elim
  rename_i t;refine wp_cond_split (he.trans hv) (λht=>?_) (λht=>?_)
  ·exact ihx V lo _ f a w kn kx kr Q hc.1 hh (h.1 ht) hn hx hr hX
  ·exact ihy V lo _ f a w kn kx kr Q hc.2 hh (h.2 ht) hn hx hr hX
 |block id b ih=>
  intro V lo i f a w kn kx kr Q hc hh h hn hx hr hX;simp only[chk]at hc;simp only[pF]at h;refine wp_block ?_;refine ih V lo _ f a w kn _ kr _ hc hh h hn ?_ hr hX;intro j f' a' w' hg hs hk;simp only[Exit.inBlock];cases hj:Nat.beq j id with
  |true=>
   rw[hj]at hk;rw[aJ (iG hj)];exact hn f' a' w' hg hs hk
  |false=>
   rw[hj]at hk;rw[aE (λe=>by subst e;simp at hj)];exact hx j f' a' w' hg hs hk
 |loop b ih=>
  intro V lo i f a w kn kx kr Q hc hh h hn hx hr hX;simp only[chk]at hc;simp only[pF]at h;cases he:lk pl.js i with
  |none=>simp only[he]at h
  |some e=>
   simp only[he,aL]at h hc;obtain⟨hz,hC⟩:=CK hc.1;obtain⟨I,μ,h0,hround⟩:=h;refine wp_loop (λa' w'=>∃f',Ag n D f' a'/\Same e.V e.lo f f'/\I (e.C.map f') w') (λa' w'=>μ (e.C.map λt=>a'.tmps.getD t undef) w') ⟨f,hh,Same.refl _ _ _,h0⟩ ?_;rintro a' w' ⟨f',hg,hs,hI⟩;have h':=hround _ f' _ hI;simp only[Bw hs]at h';have xj:(λt=>a'.tmps.getD t undef)=f':=funext hg.2.2;refine ih e.V e.lo _ f' a' w' _ kx kr _ hc.2 hg h' ?_ (λj f'' a'' w'' U hi hk=>hx j f'' a'' w'' U ((hs.trans hi).wider hz) hk)
    (λf'' a'' w'' U hi hk=>hr f'' a'' w'' U ((hs.trans hi).wider hz) hk) ((hX.sub hz).same hs)
   intro f'' a'' w'' U hi hk;have xg:(λt=>a''.tmps.getD t undef)=f'':=funext U.2.2;refine⟨⟨f'',U,hs.trans hi,hk.1⟩,?_⟩;rw[xj,xg];exact hk.2
def Ds(P:Program):List ResultVar->Fr->World->(List Value->Prop)->Prop
 |[],_,_,K=>K []
 |.tmp t::r,f,w,K=>Ds P r f w λl=>K (f t::l)
 |.cell a T::r,f,w,K=>lL (P.underlying T).isSome (ldW (vN P T) (jZ P T) (f a) w λv=>Ds P r f w λl=>K (v::l))
def one:List Value->Value
 |[v]=>v
 |l=>.tuple l.toArray
def JM(tmps:Array Value):ResultVar->Sem Value
 |.tmp t=>pure (tmps.getD t undef)
 |.cell x t=>do loadVar t (<-asAddr (tmps.getD x undef))
theorem Mh(fn:Func)(tmps:Array Value):results fn tmps=(do let vs<-fn.results.mapM (JM tmps);pure (if h:vs.size=1 then vs[0]else .tuple vs)):=rfl
theorem Ir{f:Fr}{a:Act}{w:World}(j:Ag n D f a):∀(l:List ResultVar) (K:List Value->Prop),Ds P l f w K->
  ∃vs,K vs/\(l.mapM (JM a.tmps)).run P w=.ok vs w
 |[],K,h=>⟨[],h,rfl⟩
 |.tmp t::r,K,h=>by
  obtain⟨vs,J,o⟩:=Ir j r _ h
  refine⟨_,J,?_⟩
  rw[List.mapM_cons,run_bind]
  simp only[JM,run_pure,run_bind,o]
  rw[j.2.2 t]
 |.cell x T::r,K,h=>by
  replace h:=lL.out h
  obtain⟨hT,h⟩:=h
  obtain⟨v,h',hl⟩:=Sb hT h
  obtain⟨vs,J,o⟩:=Ir j r _ h'
  refine⟨_,J,?_⟩
  have I:(JM a.tmps (.cell x T)).run P w=.ok v w:=by
   show(do loadVar T (<-asAddr (a.tmps.getD x undef)):Sem Value).run P w=.ok v w;rw[j.2.2 x];cases U:f x<;>rw[U]at h hl<;>simp only[ldW]at h<;>try exact h.elim
   rename_i p;cases p with
   |none=>exact h.elim
   |some p=>exact hl
  rw[List.mapM_cons,run_bind];simp only[I,run_bind,o,run_pure]
theorem uO{fn:Func}{f:Fr}{a:Act}{K:Value->Prop}(j:Ag n D f a)(h:Ds P fn.results.toList f w λl=>K (one l)):
  ∃v,K v/\(results fn a.tmps).run P w=.ok v w:=by
 obtain⟨vs,I,o⟩:=Ir j _ _ h;refine⟨_,I,?_⟩;rw[Mh,run_bind];have:(fn.results.mapM (JM a.tmps)).run P w=.ok vs.toArray w:=by
  rw[Array.mapM_eq_mapM_toList,<-bind_pure_comp,run_bind,o];rfl
 rw[this];simp only[run_pure];congr 1;cases vs with
 |nil=>rfl
 |cons v r=>cases r<;>rfl
def fr0(args:List Value):Fr:=λj=>args.getD j undef
def aBT[HX](P:Program)(fn:Func)(pl:cO)(args:List Value)(w:World)(K:Value->World->Prop):Prop:=
 match fn.body with
 |some c=>pF P pl c 0 (fr0 args) w (λf w'=>Ds P fn.results.toList f w' λl=>K (one l) w') (λ_ _ _=>False) (λf w'=>Ds P fn.results.toList f w' λl=>K (one l) w')
 |none=>False
def Nc(P:Program)(fn:Func)(pl:cO)(k:Nat):Bool:=
 match fn.body with
 |some c=>Nat.ble k fn.ntmps&&chk P fn.ntmps pl [] 0 c 0
 |none=>false
theorem MN{g:FuncId}{fn:Func}{args:List Value}(hm:P.follows .mixedOrders=true)(hf:P.funcs[g]?=some fn)(J:Nc P fn pl args.length=true)
  (h:aBT P fn pl args w K):aAc P g args w K:=by
 unfold aBT at h;unfold Nc at J;cases hb:fn.body with
 |none=>rw[hb]at h;exact h.elim
 |some c=>
  rw[hb]at h J;simp only[aL]at J;unfold aAc;refine calls_of_wp hf hb ?_;have ho:args.length<=fn.ntmps:=jH J.1;have hg:Ag fn.ntmps [] (fr0 args) {tmps:=args.toArray++Array.replicate (fn.ntmps-args.toArray.size) undef,defers:=[]}:=by
   refine⟨rfl,by simp;omega,λt=>?_⟩;simp only[iM,Array.getElem?_append,kM,List.getElem?_toArray,Array.getElem?_replicate,fr0,List.getD_eq_getElem?_getD];split
   ·rfl
   ·rename_i hj;rw[List.getElem?_eq_none (by omega)];split<;>rfl
  have o:∀(f':Fr) (a':Act) (w':World),Ag fn.ntmps [] f' a'->(Ds P fn.results.toList f' w' λl=>K (one l) w')->a'.defers=[]/\∃v,(results fn a'.tmps).run P w'=.ok v w'/\Gr K (.returned v) w':=by
   intro f' a' w' j I;obtain⟨v,U,hr⟩:=uO (K:=λv=>K v w') j I;exact⟨j.1,v,hr,U⟩
  exact vF hm c [] 0 0 _ _ w _ _ _ _ J.2 hg h (λf' a' w' j _ I=>o f' a' w' j I) (λ_ _ _ _ _ _ I=>I.elim) (λf' a' w' j _ I=>o f' a' w' j I) (λc a' w' hd _ hx=>⟨hd,hx⟩)
theorem tie(P:Program)(g:FuncId)(fn:Func)(pl:cO)(args:List Value)(w:World)(K:Value->World->Prop)(k:Nat)(X:Prop)(o:args.length=k)(hm:P.follows .mixedOrders=true)(hf:P.funcs[g]?=some fn)
  (J:Nc P fn pl k=true)(I:aBT P fn pl args w K=X)(j:∀(az:Array Value) (w:World),(callFunc g az).run P w=.ok (.enter g az) w)(h:X):aC P g args w K:=by
 unfold aC;rw[j];exact MN hm hf (by rw[o];exact J) (by rw[I];exact h)
theorem callF_calls{g:FuncId}{args:List Value}(j:(callFunc g args.toArray).run P w=.ok (.enter g args.toArray) w)(h:aC P g args w K):
  Calls P g args.toArray w (Gr K):=by
 unfold aC at h;rw[j]at h;exact h
end
def HL(o:Option Obj)(i:Nat):Option Value:=match o with|some (.cells c _ _)=>c[i]?|_=>none
def frO(o:Option Obj)(i:Nat):Bool:=match o with|some (.cells _ _ (lo,hi))=>decide (lo<=i)&&decide (i<hi)|_=>false
def aAu(o:Option Obj)(i:Nat)(v:Value):Option Obj:=match o with|some (.cells c t f)=>some (.cells (c.setIfInBounds i v) t f)|o=>o
theorem cJ(c:Array Value)(t:TypeId)(f:Nat×Nat)(i:Nat):HL (some (.cells c t f)) i=c[i]?:=rfl
theorem pX(c:Array Value)(t:TypeId)(i:Nat):frO (some (.cells c t (0,0))) i=false:=by simp[frO]
theorem zT(c:Array Value)(t:TypeId)(f:Nat×Nat)(i:Nat)(v:Value):aAu (some (.cells c t f)) i v=some (.cells (c.setIfInBounds i v) t f):=rfl
theorem cG(w:World)(b o:Nat):w.cell? ⟨b,o,none⟩=HL w.heap[b]? o:=by
 unfold World.cell? HL;cases w.heap[b]? with
 |none=>rfl
 |some x=>cases x<;>rfl
theorem mM(w:World)(b o:Nat):w.frozen? ⟨b,o,none⟩=frO w.heap[b]? o:=by
 unfold World.frozen? frO;cases w.heap[b]? with
 |none=>rfl
 |some x=>cases x<;>rfl
theorem oF(w:World)(b o:Nat)(v:Value):(w.setCell ⟨b,o,none⟩ v).heap[b]?=aAu w.heap[b]? o v:=by
 unfold World.setCell aAu;simp only[Array.getElem?_modify,gF];cases w.heap[b]? with
 |none=>rfl
 |some x=>cases x<;>simp
theorem Fp(w:World)(b o k:Nat)(v:Value)(h:k≠b):(w.setCell ⟨b,o,none⟩ v).heap[k]?=w.heap[k]?:=by
 unfold World.setCell;simp only[Array.getElem?_modify];rw[aE (tA h)]
theorem pO(w:World)(a:Addr)(v:Value):(w.setCell a v).heap.size=w.heap.size:=by simp
theorem gN(w:World)(o:Obj)(k:Nat)(h:k=w.heap.size):(w.alloc o).heap[k]?=some o:=by subst h;show(w.heap.push o)[w.heap.size]?=_;simp
theorem Aj(w:World)(o:Obj)(k:Nat)(h:k≠w.heap.size):(w.alloc o).heap[k]?=w.heap[k]?:=by
 show(w.heap.push o)[k]?=_;rw[Array.getElem?_push,aE h]
theorem size_alloc(w:World)(o:Obj):(w.alloc o).heap.size=w.heap.size+1:=by simp
theorem heap_drew(w:World)(k:Nat):w.drew.heap[k]?=w.heap[k]?:=rfl
theorem size_drew(w:World):w.drew.heap.size=w.heap.size:=rfl
theorem bW(b o n:Nat):(⟨b,o,none⟩:Addr).add n=⟨b,o+n,none⟩:=by
 unfold Addr.add;split
 ·rename_i h;subst h;rfl
 ·rfl
structure Chg(S:Nat->Prop)(w w':World):Prop where
 os:w'.os=w.os
 tape:w'.tape=w.tape
 output:w'.output=w.output
 size:w.heap.size<=w'.heap.size
 heap:∀k,k<w.heap.size->¬S k->w'.heap[k]?=w.heap[k]?
abbrev Ext:=Chg (λ_=>False)
theorem Chg.refl(S:Nat->Prop)(w:World):Chg S w w:=⟨rfl,rfl,rfl,aV _,λ_ _ _=>rfl⟩
theorem Chg.trans{w1 w2:World}(h1:Chg S w w1)(j:Chg S w1 w2):Chg S w w2:=
 ⟨j.os.trans h1.os,j.tape.trans h1.tape,j.output.trans h1.output,cC h1.size j.size,λk I o=>(j.heap k (cR I h1.size) o).trans (h1.heap k I o)⟩
theorem Chg.mono{T:Nat->Prop}(h:Chg S w w')(o:∀k,k<w.heap.size->S k->T k):Chg T w w':=
 ⟨h.os,h.tape,h.output,h.size,λk j hn=>h.heap k j λe=>hn (o k j e)⟩
theorem Chg.of_ext(h:Ext w w'):Chg S w w':=h.mono λ_ _ e=>e.elim
theorem Chg.drew(h:Chg S w w'):Chg S w w'.drew:=⟨h.os,h.tape,h.output,h.size,h.heap⟩
theorem Chg.alloc(h:Chg S w w')(o:Obj):Chg S w (w'.alloc o):=
 ⟨h.os,h.tape,h.output,by rw[size_alloc];exact Nat.le_succ_of_le h.size,λk I j=>by rw[Aj _ _ _ (by have:=h.size;omega)];exact h.heap k I j⟩
theorem Chg.set(h:Chg S w w'){b o:Nat}(hb:S b\/w.heap.size<=b)(v:Value):Chg S w (w'.setCell ⟨b,o,none⟩ v):=
 ⟨h.os,h.tape,h.output,by rw[pO];exact h.size,λk J I=>by
  have j:k≠b:=λe=>by
   subst e
   rcases hb with hb|hb
   ·exact I hb
   ·omega
  rw[Fp _ _ _ _ _ j]
  exact h.heap k J I⟩
theorem Chg.then{T:Nat->Prop}{w1 w2:World}(h1:Chg S w w1)(j:Chg T w1 w2)(hT:∀k,k<w.heap.size->T k->S k):Chg S w w2:=
 ⟨j.os.trans h1.os,j.tape.trans h1.tape,j.output.trans h1.output,cC h1.size j.size,λk o I=>(j.heap k (cR o h1.size) λe=>I (hT k o e)).trans (h1.heap k o I)⟩
theorem Chg.below(h:Ext w w'):RowKit.Below w.heap.size w w':=⟨h.os,h.tape,h.output,h.size,λk j=>h.heap k j id⟩
theorem Chg.of_below(h:RowKit.Below w.heap.size w w'):Ext w w':=⟨h.os,h.tape,h.output,h.size,λk j _=>h.block k j⟩
abbrev str(l:List UInt8):Value:=.string (ofL l)
abbrev i64(n:Int):Value:=.int .i64 n
theorem cN{n:Int}(h1:-9223372036854775808<=n)(j:n<9223372036854775808):IntKind.i64.wrap n=n:=by
 have e1:(2:Int)^64=18446744073709551616:=by decide
 have e2:(2:Int)^(64-1)=9223372036854775808:=by decide
 simp only[IntKind.wrap,IntKind.bits,IntKind.signed,iB,e1,e2];by_cases h:n%18446744073709551616>=9223372036854775808
 ·rw[aJ (by simpa using h)];omega
 ·rw[aE (by simpa using h)];omega
theorem dS(A B:Prop):aS (.bool true) A B↔A:=by simp[aS]
theorem cP(A B:Prop):aS (.bool false) A B↔B:=by simp[aS]
theorem aO(p:Prop)[Decidable p](A B:Prop):aS (.bool (decide p)) A B↔(p->A)/\(¬p->B):=by simp[aS]
theorem lH(a b:Value)(K:Value->Prop):cV (.bool true) a b K↔K a:=gO
theorem tK(a b:Value)(K:Value->Prop):cV (.bool false) a b K↔K b:=gO
section forms
variable(k:IntKind)(a b:Int)(s t:ByteArray)(x y:Value)(ad:Addr)(w:World)(K:Value->Prop)(KE:Value->World->Prop)(KW:World->Prop)
theorem cI:aQ .add (.int k a) (.int k b) K↔K (.int k (k.wrap (a+b))):=by simp[aQ]
theorem kW:aQ .sub (.int k a) (.int k b) K↔K (.int k (k.wrap (a-b))):=by simp[aQ]
theorem Jc:aQ .mul (.int k a) (.int k b) K↔K (.int k (k.wrap (a*b))):=by simp[aQ]
theorem Ja:aQ .quo (.int k a) (.int k b) K↔b≠0/\K (.int k (k.wrap (a.tdiv b))):=by simp[aQ]
theorem DV:aQ .rem (.int k a) (.int k b) K↔b≠0/\K (.int k (a.tmod b)):=by simp[aQ]
theorem bO:aQ .eql (.int k a) (.int k b) K↔K (.bool (decide (a=b))):=by simp[aQ]
theorem gD:aQ .neq (.int k a) (.int k b) K↔K (.bool (decide (a≠b))):=by simp[aQ]
theorem dU:aQ .lss (.int k a) (.int k b) K↔K (.bool (decide (a<b))):=by simp[aQ]
theorem vH:aQ .leq (.int k a) (.int k b) K↔K (.bool (decide (a<=b))):=by simp[aQ]
theorem mB:aQ .gtr (.int k a) (.int k b) K↔K (.bool (decide (b<a))):=by simp[aQ]
theorem mX:aQ .geq (.int k a) (.int k b) K↔K (.bool (decide (b<=a))):=by simp[aQ]
theorem XC:aQ .shr (.int k a) (.int k b) K↔0<=b/\K (.int k (a.fdiv (2^min b.toNat k.bits))):=by simp[aQ]
theorem XE:aQ .and (.int k a) (.int k b) K↔K (.int k (k.wrap (BitVec.ofInt k.bits a&&&BitVec.ofInt k.bits b).toNat)):=by simp[aQ]
theorem Jb:aQ .or (.int k a) (.int k b) K↔K (.int k (k.wrap (BitVec.ofInt k.bits a|||BitVec.ofInt k.bits b).toNat)):=by simp[aQ]
theorem IC(l m:List UInt8):ofL l++ofL m=ofL (l++m):=by
 apply ByteArray.ext;simp[ofL,ByteArray.data_append]
theorem qA(l m:List UInt8):aQ .add (.string (ofL l)) (.string (ofL m)) K↔((l.length+m.length:Nat):Int)<=IntKind.i64.max/\K (.string (ofL (l++m))):=by simp[aQ,fT,IC]
theorem sL(l m:List UInt8):aQ .eql (.string (ofL l)) (.string (ofL m)) K↔K (.bool (decide (l=m))):=by simp[aQ,eM]
theorem vG(l m:List UInt8):aQ .neq (.string (ofL l)) (.string (ofL m)) K↔K (.bool (decide (l≠m))):=by simp[aQ,eM]
theorem XA(l m:List UInt8):aQ .lss (.string (ofL l)) (.string (ofL m)) K↔K (.bool (Op.bytesLess l m)):=by simp[aQ,eM]
theorem XD(l m:List UInt8):aQ .gtr (.string (ofL l)) (.string (ofL m)) K↔K (.bool (!(Op.bytesLess l m||decide (l=m)))):=by simp[aQ,eM]
theorem Oo(l m:List UInt8):aQ .geq (.string (ofL l)) (.string (ofL m)) K↔K (.bool (!Op.bytesLess l m)):=by simp[aQ,eM]
theorem XB(l m:List UInt8):aQ .leq (.string (ofL l)) (.string (ofL m)) K↔K (.bool (Op.bytesLess l m||decide (l=m))):=by simp[aQ,eM]
theorem eD:eF (.pointer (some ad)) K↔K (.pointer (some ad)):=gO
theorem bT(off:Nat):aZ off (.pointer (some ad)) K↔K (.pointer (some (ad.add off))):=gO
theorem dY(n:Nat):ldW false n (.pointer (some ad)) w K↔∃v,w.cell? ad=some v/\K v:=gO
theorem EY(n:Nat):ldW true n (.pointer (some ad)) w K↔∃l,kI w ad 0 n=some l/\K (.agg l.toArray):=gO
theorem QN(n:Nat)(l:List Value):stW n (.pointer (some ad)) (.agg l.toArray) w KW↔l.length=n/\sE ad l 0 w KW:=by simp[stW,Value.cells]
theorem Wu:fC (.int k a)=true:=rfl
theorem Ry(c:Bool):fC (.bool c)=true:=rfl
theorem Wr:fC (.string s)=true:=rfl
theorem Pg(p:Option Addr)(n m:Nat):fC (.slice p n m)=true:=rfl
theorem Ws(p:Option Addr):fC (.pointer p)=true:=rfl
theorem Wt(p:Option Nat):fC (.map p)=true:=rfl
theorem bL(i:Nat)(l:List Value):dO i (.tuple l.toArray) K↔∃v,l[i]?=some v/\K v:=by
 simp only[dO,List.getElem?_toArray];cases l[i]?<;>simp
theorem qS(size n c:Nat):dP none size (.slice (some ad) n c) (.int k a) K↔0<=a/\a<n/\K (.pointer (some (ad.add (a.toNat*size)))):=gO
theorem WQ(m size:Nat):dP (some m) size (.pointer (some ad)) (.int k a) K↔0<=a/\a<m/\K (.pointer (some (ad.add (a.toNat*size)))):=gO
theorem IJ(l:List UInt8):qE (.string (ofL l)) (.int k a) K↔0<=a/\∃c,l[a.toNat]?=some c/\K (.int .u8 c.toNat):=by simp[qE,eM]
theorem gC(l:List UInt8):iT (.string (ofL l)) K↔K (.int .i64 l.length):=by simp[iT,fT]
theorem xJ(p:Option Addr)(n c:Nat):dA (.slice p n c) K↔K (.int .i64 n):=gO
theorem eP(c:Bool):unW .not (.bool c) K↔K (.bool (!c)):=gO
theorem Qx:unW .neg (.int k a) K↔K (.int k (k.wrap (0-a))):=gO
theorem mW(k':IntKind):sK k' (.int k a) K↔K (.int k' (k'.wrap a)):=gO
theorem WC:WE (.int k a) (.int k b) K↔K (.int k (if b<a then b else a)):=gO
theorem WG:RO (.int k a) (.int k b) K↔K (.int k (if a<b then b else a)):=gO
theorem Tz(T:TypeId)(z:List Value):bQ T z w KE↔KE (.pointer (some ⟨w.heap.size,0,none⟩)) (w.alloc (.cells z.toArray T)):=gO
theorem fM(n m:Nat)(KN:Nat->Prop):bdW none n m KN↔KN n:=gO
theorem eR(n m:Nat)(KN:Nat->Prop):bdW (some (.int k a)) n m KN↔0<=a/\a<=m/\KN a.toNat:=gO
theorem gB(l:List UInt8)(lo hi:Option Value):mY (.string (ofL l)) lo hi K↔bdW hi l.length l.length λh=>bdW lo 0 h λm=>K (.string (ofL ((l.take h).drop m))):=by simp only[mY,fT,eM]
theorem Ii(size:Nat)(p:Option Addr)(n c:Nat)(lo hi mx:Option Value):kR size (.slice p n c) lo hi mx K↔bdW mx c c λm=>(bdW hi n m λh=>bdW lo 0 h λl=>K (.slice (if m=l then p else p.map (·.add (l*size))) (h-l) (m-l))):=gO
theorem fQ(c:Bool):isB (.bool c) true=c:=by cases c<;>rfl
theorem mI(c:Bool):isB (.bool c) false=!c:=by cases c<;>rfl
end forms
theorem GdW.go{c:Bool}{u:List Value}{A:(List Value->World->Prop)->Prop}{B:List Value->Fr->World->Prop}
  (h1:c=true->A (λs w'=>∀g,B s g w'))(j:c=false->∀g,B u g w):GdW c u w A B:=
 ⟨λs w'=>∀g,B s g w',h1,λh=>j h,λs g _ h=>h g⟩
theorem GdW.t{u:List Value}{A:(List Value->World->Prop)->Prop}{B:List Value->Fr->World->Prop}(h:A (λs w'=>∀g,B s g w')):GdW true u w A B:=
 GdW.go (λ_=>h) (λe=>by cases e)
theorem GdW.f{u:List Value}{A:(List Value->World->Prop)->Prop}{B:List Value->Fr->World->Prop}(h:∀g,B u g w):GdW false u w A B:=
 GdW.go (λe=>by cases e) (λ_=>h)
theorem bU.go{A:(List Value->World->Prop)->Prop}{B:List Value->Fr->World->Prop}(h:A (λs w'=>∀g,B s g w')):bU A B:=⟨_,h,λ_ g _ h=>h g⟩
theorem bU.cut{A:(List Value->World->Prop)->Prop}{B:List Value->Fr->World->Prop}(J:List Value->World->Prop)(h1:A J)(j:∀s g w',J s w'->B s g w'):bU A B:=⟨J,h1,j⟩
theorem cY.go{s0:List Value}{w0:World}{B:List Value->Fr->World->(List Value->World->Prop)->Prop}(I:List Value->World->Prop)(μ:List Value->World->Nat)
 (h0:I s0 w0)(h:∀s g w,I s w->B s g w (λs' w'=>I s' w'/\μ s' w'<μ s w)):cY s0 w0 B:=⟨I,μ,h0,h⟩
theorem uP(c:List Value)(i:Nat)(v:Value)(r:List (Nat×Nat×Value))(K:List Value->Prop)(h:v.cells=#[v]):dJ c ((i,1,v)::r) K↔i<c.length/\dJ (c.set i v) r K:=by
 simp only[dJ,h];constructor
 ·rintro⟨_,o,j⟩;rw[List.set_eq_take_append_cons_drop,aJ (by omega)];exact⟨by omega,by simpa using j⟩
 ·rintro⟨o,j⟩;rw[List.set_eq_take_append_cons_drop,aJ (by omega)]at j;exact⟨rfl,by omega,by simpa using j⟩
theorem cW(c:List Value)(K:List Value->Prop):dJ c [] K↔K c:=gO
theorem Uv(c:List Value)(i:Nat)(v:Option Nat)(r:List (Nat×Nat×Value))(K:List Value->Prop):dJ c ((i,1,.map v)::r) K↔i<c.length/\dJ (c.set i (.map v)) r K:=uP c i _ r K rfl
theorem dI(c:List Value)(i:Nat)(k:IntKind)(v:Int)(r:List (Nat×Nat×Value))(K:List Value->Prop):dJ c ((i,1,.int k v)::r) K↔i<c.length/\dJ (c.set i (.int k v)) r K:=uP c i _ r K rfl
theorem eY(c:List Value)(i:Nat)(v:ByteArray)(r:List (Nat×Nat×Value))(K:List Value->Prop):dJ c ((i,1,.string v)::r) K↔i<c.length/\dJ (c.set i (.string v)) r K:=uP c i _ r K rfl
theorem wC(c:List Value)(i:Nat)(v:Bool)(r:List (Nat×Nat×Value))(K:List Value->Prop):dJ c ((i,1,.bool v)::r) K↔i<c.length/\dJ (c.set i (.bool v)) r K:=uP c i _ r K rfl
theorem Iu(c:List Value)(i:Nat)(v:Option Addr)(r:List (Nat×Nat×Value))(K:List Value->Prop):dJ c ((i,1,.pointer v)::r) K↔i<c.length/\dJ (c.set i (.pointer v)) r K:=uP c i _ r K rfl
theorem gU(c:List Value)(i:Nat)(p:Option Addr)(n m:Nat)(r:List (Nat×Nat×Value))(K:List Value->Prop):dJ c ((i,1,.slice p n m)::r) K↔i<c.length/\dJ (c.set i (.slice p n m)) r K:=uP c i _ r K rfl
structure rI(P:Program)(t e:TypeId)(size bytes:Nat):Prop where
 und:P.underlying t=some (.slice e)
 info:(P.info? e).map (λi=>(i.zero.map (·.cells.size),i.size,i.bytes))=some (some size,size,bytes)
 pos:0<size
theorem rI.get{t e:TypeId}{size bytes:Nat}(h:rI P t e size bytes):∃i z,P.info? e=some i/\i.zero=some z/\i.size=size/\i.bytes=bytes/\z.cells.size=size:=by
 have hi:=h.info;cases o:P.info? e with
 |none=>rw[o]at hi;cases hi
 |some i=>
  rw[o]at hi;simp only[gK,bF,gE]at hi;obtain⟨h1,J,I⟩:=hi;cases j:i.zero with
  |none=>rw[j]at h1;cases h1
  |some z=>
   rw[j]at h1;exact⟨i,z,rfl,j,J,I,by simpa using h1⟩
def SlAt(w:World)(T:TypeId)(v:Value)(n:Nat)(cs:List Value):Prop:=
 ∃p cap,v=.slice p n cap/\n<=cap/\(p=none->n=0/\cap=0)/\(cs≠[]->∃b off c fr,p=some ⟨b,off,none⟩/\w.heap[b]?=some (.cells c T fr)/\∀i,i<cs.length->c[off+i]?=cs[i]?)
theorem SlAt.nil(w:World)(T:TypeId):SlAt w T (.slice none 0 0) 0 []:=⟨none,0,rfl,aV _,λ_=>⟨rfl,rfl⟩,λh=>absurd rfl h⟩
theorem SlAt.chg(h:SlAt w T v n cs)(U:Chg S w w')
  (hS:∀k c fr,S k->w.heap[k]?≠some (.cells c T fr)):SlAt w' T v n cs:=by
 obtain⟨p,cap,J,h1,h2,h3⟩:=h;refine⟨p,cap,J,h1,h2,λj=>?_⟩;obtain⟨b,off,c,fr,hp,hb,I⟩:=h3 j;have o:b<w.heap.size:=(Array.getElem?_eq_some_iff.1 hb).1;exact⟨b,off,c,fr,hp,by rw[U.heap b o λe=>hS b c fr e hb];exact hb,I⟩
theorem SlAt.ext(h:SlAt w T v n cs)(j:Ext w w'):SlAt w' T v n cs:=
 h.chg j λ_ _ _ e=>e.elim
theorem SlAt.shape(h:SlAt w T v n cs):∃p cap,v=.slice p n cap/\n<=cap:=by
 obtain⟨p,cap,j,h1,_⟩:=h;exact⟨p,cap,j,h1⟩
theorem fL(h:SlAt w T v n cs)(K:Value->Prop):dA v K↔K (i64 n):=by
 obtain⟨p,cap,rfl,_⟩:=h.shape;exact gO
theorem rR{size:Nat}{k:IntKind}{K:Value->Prop}(h:SlAt w T v n cs)(hl:cs.length=n*size)(hs:0<size)(hi:i<n)
  (U:∀b o c fr,w.heap[b]?=some (.cells c T fr)->(∀j,j<size->c[o+j]?=cs[i*size+j]?)->K (.pointer (some ⟨b,o,none⟩))):dP none size v (.int k i) K:=by
 obtain⟨p,cap,rfl,h1,_,h3⟩:=h;have J:i*size+size<=n*size:=by rw[<-FZ];exact dM _ hi
 obtain⟨b,off,c,fr,rfl,hb,I⟩:=h3 (λe=>by rw[e]at hl;simp at hl;omega);refine⟨Int.natCast_nonneg _,by omega,?_⟩;rw[bW,aW];exact U b _ c fr hb λj hj=>by rw[show off+i*size+j=off+(i*size+j)by omega];exact I _ (by omega)
theorem rQ{k:IntKind}{x:Value}{K:Value->Prop}(h:SlAt w T v n cs)(hl:cs.length=n)(hi:cs[i]?=some x)(J:K x):
  dP none 1 v (.int k i) λt=>ldW false 1 t w K:=by
 have j:i<cs.length:=(List.getElem?_eq_some_iff.1 hi).1;refine rR (size:=1) h (by omega) (by omega) (by omega) λb o c fr hb I=>?_;refine⟨x,?_,J⟩;rw[cG,hb,cJ];have:=I 0 (by omega);simpa[hi]using this
abbrev Own(w:World)(base:Nat)(e:TypeId)(size:Nat)(v:Value)(n:Nat)(xs:List Value):Prop:=w.ownsRow base e size v n xs
theorem Own.sl{base:Nat}{e:TypeId}{size:Nat}{xs:List Value}(h:Own w base e size v n xs):SlAt w e v n xs:=by
 obtain⟨hl,⟨rfl,rfl⟩|⟨g,cap,cur,rfl,_,j,h1,_,I,o⟩⟩:=h
 ·have:xs=[]:=bC (by simpa using hl);subst this;exact SlAt.nil w e
 ·refine⟨_,_,rfl,h1,λh=>(by cases h),λ_=>⟨g,0,cur,(0,0),rfl,j,λi hi=>?_⟩⟩;rw[<-o,List.getElem?_take,aJ (by omega),aX];simp
def Qo(w:World)(base:Nat)(e:TypeId)(k:Nat):Prop:=base<=k/\∃c,w.heap[k]?=some (.cells c e (0,0))
theorem Own.block{base:Nat}{e:TypeId}{size:Nat}{xs:List Value}(h:Own w base e size v n xs):∀k,v.ownBlock=some k->Qo w base e k:=by
 intro k j;obtain⟨hl,⟨rfl,rfl⟩|⟨g,cap,cur,rfl,hb,o,_⟩⟩:=h
 ·simp[Value.ownBlock]at j
 ·simp[Value.ownBlock]at j;subst j;exact⟨hb,cur,o⟩
theorem vM(h:fC v=true):v.oneCell'=true:=by cases v<;>first|rfl|(simp[fC]at h)
theorem Chg.of_grown{row:Option Nat}(h:w.grownBy w' row)(o:∀k,row=some k->S k):Chg S w w':=
 ⟨h.os,h.tape,h.output,h.size,λk j hn=>h.block k j λe=>hn (o k e.symm)⟩
theorem jY{t e:TypeId}{size bytes:Nat}(hT:rI P t e size bytes){base:Nat}{x:Value}{m:Nat}{xs news:List Value}{ty:TypeId}
  (o:Own w base e size v n xs)(hx:SlAt w T x m news)(hl:news.length=m*size)(h1:∀u∈news,fC u=true)(hs:n+m<=4611686018427387904)(hb:(n+m)*bytes<=140737488355328)(hbase:base<=w.heap.size)
  (hK:∀v' w',Own w' base e size v' (n+m) (xs++news)->Chg (λk=>v.ownBlock=some k) w w'->(v'=.slice none 0 0↔v=.slice none 0 0/\m=0)->K v' w'):
  dF P (Builtin.append_ #[t,t] ty #[v,x]) w K:=by
 obtain⟨i,z,hi,hz,h2,h3,h4⟩:=hT.get;obtain⟨p,cap,rfl,hv,hc,hcells⟩:=hx;have hm:n+m<=maxLen:=by unfold maxLen;omega
 cases p with
 |none=>
  obtain⟨rfl,rfl⟩:=hc rfl;have hn:news=[]:=bC (by simpa using hl);subst hn;have hr:(Builtin.append_ #[t,t] ty #[v,.slice none 0 0]).run P w=.ok v w:=by
   obtain⟨xd,⟨rfl,rfl⟩|⟨g,cap,cur,rfl,_,hg,h1,_,h2,h3⟩⟩:=o
   ·simp[Builtin.append_,run_bind,bJ hT.und,gG (show(P.info? e).isSome=true by rw[hi];rfl),Builtin.lenOf,run_pure,Builtin.firstCells]
   ·simp[Builtin.append_,run_bind,bJ hT.und,gG (show(P.info? e).isSome=true by rw[hi];rfl),Builtin.lenOf,run_pure,Builtin.firstCells,h1,storeCells]
  unfold dF;rw[hr];simp only[eU,eG]at hK;exact hK v w o (Chg.refl _ _) (by simp)
 |some a=>
  have hcell:∀j u,news[j]?=some u->w.cell? (a.add j)=some u:=by
   intro j u U;have hj:news≠[]:=λe=>by subst e;simp at U
   obtain⟨b,off,c,fr,hp,ho,hk⟩:=hcells hj;cases hp;rw[bW,cG,ho,cJ,hk j (List.getElem?_eq_some_iff.1 U).1,U]
  obtain⟨v',w',hr,I,hg,J⟩:=run_append_own (P:=P) w base t ty e i z size bytes hT.und hi hz h2 h3 h4 hT.pos v n xs o a m cap news hl hcell (λu U=>vM (h1 u U)) hm hb hbase;unfold dF;rw[hr];exact hK v' w' I (Chg.of_grown hg λk e=>e) J
theorem xF{base:Nat}{e:TypeId}{size:Nat}(hb:base<=w.heap.size)(hl:cs.length=n*size)(hn:n<=4611686018427387904):Own (w.alloc (.cells cs.toArray e)) base e size (.slice (some ⟨w.heap.size,0,none⟩) n n) n cs:=
 ⟨hl,.inr ⟨w.heap.size,n,cs.toArray,rfl,hb,gN _ _ _ rfl,aV _,by unfold maxLen;omega,by simpa using hl,by simp[<-hl]⟩⟩
theorem Own.chg{base:Nat}{e:TypeId}{size:Nat}{xs:List Value}(h:Own w base e size v n xs)(I:Chg S w w')(J:∀k,Qo w base e k->¬S k):Own w' base e size v n xs:=by
 obtain⟨hl,hn|⟨g,cap,cur,o,hb,j,r⟩⟩:=h
 ·exact⟨hl,.inl hn⟩
 ·exact⟨hl,.inr ⟨g,cap,cur,o,hb,by rw[I.heap g (Array.getElem?_eq_some_iff.1 j).1 (J g ⟨hb,cur,j⟩)];exact j,r⟩⟩
theorem Own.ext{base:Nat}{e:TypeId}{size:Nat}{xs:List Value}(h:Own w base e size v n xs)(j:Ext w w'):Own w' base e size v n xs:=h.chg j λ_ _ e=>e
theorem Own.base{base base':Nat}{e:TypeId}{size:Nat}{xs:List Value}(h:Own w base e size v n xs)(hb:base'<=base):Own w base' e size v n xs:=by
 obtain⟨hl,hn|⟨g,cap,cur,j,o,r⟩⟩:=h
 ·exact⟨hl,.inl hn⟩
 ·exact⟨hl,.inr ⟨g,cap,cur,j,cC hb o,r⟩⟩
def u8s(l:List UInt8):List Value:=l.map λb=>.int .u8 b.toNat
theorem qJ(l:List UInt8):(u8s l).length=l.length:=by simp[u8s]
theorem DD(l:List UInt8)(i:Nat):(u8s l)[i]?=(l[i]?).map λb=>.int .u8 b.toNat:=by simp[u8s]
theorem DF(a b:List UInt8):u8s (a++b)=u8s a++u8s b:=by simp[u8s]
abbrev Byt(w:World)(T:TypeId)(v:Value)(l:List UInt8):Prop:=SlAt w T v l.length (u8s l)
theorem FH{src dst e:TypeId}(o:P.underlying src=some (.slice e))(J:P.underlying e=some (.int .u8))(hd:P.underlying dst=some .string){l:List UInt8}{K:Value->Prop}
  (h:Byt w T v l):nZ P (convert src dst v) w K↔K (str l):=by
 have hr:(convert src dst v).run P w=.ok (str l) w:=by
  obtain⟨p,cap,rfl,hh,j,hcells⟩:=h;cases p with
  |none=>
   obtain⟨h0,_⟩:=j rfl;have:l=[]:=bC h0;subst this;rw[run_convert_bytes_nil (P:=P) w src e o J _ _ dst hd];rfl
  |some a=>
   cases l with
   |nil=>
    rw[run_convert_bytes_string w src dst e _ _ cap o J hd];have hl:(loadCells a 0).run P w=.ok (([]:List Int).map (Value.int .u8)).toArray w:=rfl;have:=run_bytesToString w a 0 cap [] hl;exact this
   |cons x l=>
    obtain⟨b,off,c,fr,hp,hb,U⟩:=hcells (by simp[u8s]);cases hp;have:=run_convert_bytes_arg (P:=P) w src e o J b off (x::l).length cap ((x::l).map λb=>(b.toNat:Int)) (by simp) (λi hi=>by
     rw[cG,hb,cJ,U i (by rw[qJ];exact hi),DD,List.getElem?_eq_getElem hi];rw[List.getD_eq_getElem?_getD,List.getElem?_map,List.getElem?_eq_getElem hi];rfl) dst hd
    rw[this];simp[str,ofL,strOfNums,Function.comp_def]
 constructor
 ·rintro⟨u,hu,I⟩;rw[hr]at hu;cases hu;exact I
 ·exactλI=>⟨_,hr,I⟩
abbrev Str:=List UInt8
theorem Ud(a b:Str):(ofL a==ofL b)=decide (a=b):=by
 have h:(ofL a==ofL b)=((ofL a).data==(ofL b).data):=rfl;rw[h,mK];simp[ofL]
def Ox:List (Str×Value)->Str->Nat->Option (Nat×Value)
 |[],_,_=>none
 |(k,v)::r,x,i=>if x=k then some (i,v)else Ox r x (i+1)
theorem Dk:∀(l:List MapEntry) (A:List (Str×Value)) (x:Str) (i:Nat),l.map (λe=>(e.key,e.val))=A.map (λp=>(str p.1,p.2))->Instr.findNow .string (str x) l i=some (Ox A x i)
 |[],A,x,i,h=>by
  have:A=[]:=by simpa using h.symm
  subst this
  rfl
 |e::l,[],x,i,h=>by simp at h
 |e::l,(k,v)::A,x,i,h=>by
  simp only[dC,dX,gE]at h
  obtain⟨⟨J,o⟩,I⟩:=h
  simp only[Instr.findNow,J,Instr.sameNow,Ud,Ox,o]
  by_cases j:x=k
  ·simp[j]
  ·simp only[j,aH,kL]
   exact Dk l A x (i+1) I
section
variable{P:Program}{T kt et:TypeId}{w:World}{m:Nat}{A:List (Str×Value)}
theorem run_checkKey(j:P.underlying kt=some .string)(e:Bool)(s:ByteArray)(w:World):(Instr.checkKey e 10000 kt (.string s)).run P w=.ok () w:=by
 show(Instr.checkKey e (9999+1) kt (.string s)).run P w=.ok () w;unfold Instr.checkKey;simp[run_bind,bJ j,run_pure]
theorem run_findKey(j:P.underlying kt=some .string)(x:Str)(es:List MapEntry)(h:es.map (λe=>(e.key,e.val))=A.map (λp=>(str p.1,p.2)))(w:World):(Instr.findKey kt (str x) es).run P w=.ok (Ox A x 0) w:=by
 simp only[Instr.findKey,run_bind,bJ j];rw[Dk es A x 0 h];rfl
end
theorem Chg.at{k:Nat}{o:Obj}(j:Chg S w w')(h:w.heap[k]?=some o)(I:¬S k):w'.heap[k]?=some o:=by
 rw[j.heap k (Array.getElem?_eq_some_iff.1 h).1 I];exact h
theorem Chg.new{w1 w2:World}{a:Nat}(h1:Ext w w1)(j:Chg (λk=>k=a) w1 w2)(I:w.heap.size<=a):Ext w w2:=h1.then j λk o e=>by omega
theorem fA{k:Nat}{o:Obj}(h:w.heap[k]?=some o):k<w.heap.size:=(Array.getElem?_eq_some_iff.1 h).1
theorem bI{z:List Value}(h:∀a w',a=w.heap.size->w'.heap.size=w.heap.size+1->w'.heap[a]?=some (.cells z.toArray T (0,0))->Ext w w'->K (.pointer (some ⟨a,0,none⟩)) w'):bQ T z w K:=
 h _ _ rfl (by simp) (gN _ _ _ rfl) (Chg.alloc (Chg.refl _ _) _)
theorem fY{z:List Value}(h:∀a w',a=w.heap.size->w'.heap.size=w.heap.size+1->w'.heap[a]?=some (.cells z.toArray T (0,0))->Ext w w'->K (.pointer (some ⟨a,0,none⟩)) w'):eW T (.agg z.toArray) w K:=
 h _ _ rfl (by simp) (gN _ _ _ rfl) (Chg.alloc (Chg.refl _ _) _)
theorem row_new(h:∀a w',a=w.heap.size->w'.heap.size=w.heap.size+1->w'.heap[a]?=some (.cells cs.toArray T (0,0))->Ext w w'->w'=w.alloc (.cells cs.toArray T)->K (.slice (some ⟨a,0,none⟩) n n) w'):
  K (.slice (some ⟨w.heap.size,0,none⟩) n n) (w.alloc (.cells cs.toArray T)):=
 h _ _ rfl (by simp) (gN _ _ _ rfl) (Chg.alloc (Chg.refl _ _) _) rfl
theorem iO{a off:Nat}{cs:Array Value}{K:World->Prop}(hb:w.heap[a]?=some (.cells cs T (0,0)))(h1:fC v=true)(j:off<cs.size)
  (J:∀w',w'.heap.size=w.heap.size->w'.heap[a]?=some (.cells (cs.setIfInBounds off v) T (0,0))->Chg (λk=>k=a) w w'->K w'):stW 1 (.pointer (some ⟨a,off,none⟩)) v w K:=by
 have U:v.cells.toList=[v]:=by cases v<;>first|rfl|(simp[fC]at h1)
 have o:v.cells=#[v]:=by cases v<;>first|rfl|(simp[fC]at h1)
 have I:(⟨a,off,none⟩:Addr).add 0=⟨a,off,none⟩:=rfl;simp only[stW,o];refine⟨rfl,?_⟩;simp only[sE,I];refine⟨h1,?_,?_,?_⟩
 ·rw[cG,hb,cJ];simp[j]
 ·rw[mM,hb,pX]
 ·refine J _ (by simp) ?_ (Chg.set (S:=λk=>k=a) (Chg.refl _ _) (.inl rfl) _);rw[oF,hb,zT]
theorem aAq{a:Nat}{K:World->Prop}:∀(l:List Value) (i:Nat) (cs:List Value),w.heap[a]?=some (.cells cs.toArray T (0,0))->cs.length=i+l.length->(∀v∈l,fC v=true)->
  (∀w',w'.heap.size=w.heap.size->w'.heap[a]?=some (.cells (cs.take i++l).toArray T (0,0))->Chg (λk=>k=a) w w'->K w')->sE ⟨a,0,none⟩ l i w K:=by
 intro l;induction l generalizing w with
 |nil=>
  intro i cs hb hl _ J;refine J w rfl ?_ (Chg.refl _ _);simp only[aN,eU]at hl;rw[dW (by omega),eG];exact hb
 |cons v r ih=>
  intro i cs hb hl h1 J;have j:(⟨a,0,none⟩:Addr).add i=⟨a,i,none⟩:=by rw[bW];simp
  simp only[aB]at hl;simp only[sE,j];refine⟨h1 v bA,?_,?_,?_⟩
  ·rw[cG,hb,cJ];simp;omega
  ·rw[mM,hb,pX]
  ·have I:(w.setCell ⟨a,i,none⟩ v).heap[a]?=some (.cells (cs.set i v).toArray T (0,0)):=by
    rw[oF,hb,zT];simp
   refine ih (i+1) (cs.set i v) I (by rw[List.length_set];omega) (λu hu=>h1 u (aR _ hu)) λw' U o hc=>?_;refine J w' (by rw[U];simp) ?_ ((Chg.set (S:=λk=>k=a) (Chg.refl _ _) (.inl rfl) _).trans hc);rw[o];have:(cs.set i v).take (i+1)++r=cs.take i++v::r:=by
    rw[dG,List.getElem?_set_self (by omega),List.take_set_of_le (by omega)];simp
   rw[this]
theorem cK{a:Nat}{l:List Value}{K:World->Prop}(hb:w.heap[a]?=some (.cells cs.toArray T (0,0)))(hl:l.length=n)(hc:cs.length=n)(h1:l.all fC=true)
  (U:∀w',w'.heap.size=w.heap.size->w'.heap[a]?=some (.cells l.toArray T (0,0))->Chg (λk=>k=a) w w'->K w'):stW n (.pointer (some ⟨a,0,none⟩)) (.agg l.toArray) w K:=by
 rw[QN];refine⟨hl,?_⟩;refine aAq l 0 cs hb (by omega) (λv J=>bN.1 h1 v J) λw' I o j=>U w' I ?_ j;simpa using o
theorem FP{a:Nat}{w:World}{T:TypeId}{cs:List Value}{fr:Nat×Nat}(hb:w.heap[a]?=some (.cells cs.toArray T fr)):∀(n i:Nat),i+n=cs.length->kI w ⟨a,0,none⟩ i n=some (cs.drop i)
 |0,i,h=>by simp only[kI];rw[fH (by omega)]
 |n+1,i,h=>by
  have hi:i<cs.length:=by omega
  simp only[kI,bW,cG,hb,cJ,aX,List.getElem?_toArray,List.getElem?_eq_getElem hi]
  rw[FP hb n (i+1) (by omega)]
  simp
theorem bZ{a:Nat}{l:List Value}{fr:Nat×Nat}{K:Value->Prop}(hb:w.heap[a]?=some (.cells l.toArray T fr))(hn:l.length=n)(j:K (.agg l.toArray)):ldW true n (.pointer (some ⟨a,0,none⟩)) w K:=by
 rw[EY];exact⟨l,by rw[FP hb n 0 (by omega)];rfl,j⟩
theorem iI{a:Nat}{l:List Value}(hb:w.heap[a]?=some (.cells cs.toArray T (0,0)))(hl:l.length=n)(I:cs.length=n)(h1:l.all fC=true)
  (J:∀w',Chg (λk=>k=a) w w'->K (.agg l.toArray) w'):stW n (.pointer (some ⟨a,0,none⟩)) (.agg l.toArray) w λw5=>ldW true n (.pointer (some ⟨a,0,none⟩)) w5 λr6=>K r6 w5:=
 cK hb hl I h1 λw' _ o j=>bZ o hl (J w' j)
inductive JV where
 |mk (k:Int) (b:Bool) (t:Str) (xs:List JV) (ks:List Str)
namespace JV
def k:JV->Int|.mk k _ _ _ _=>k
def b:JV->Bool|.mk _ b _ _ _=>b
def t:JV->Str|.mk _ _ t _ _=>t
def xs:JV->List JV|.mk _ _ _ xs _=>xs
def ks:JV->List Str|.mk _ _ _ _ ks=>ks
theorem eta(v:JV):v=.mk v.k v.b v.t v.xs v.ks:=by cases v;rfl
theorem ind{p:JV->Prop}(h:∀k b t xs ks,(∀x∈xs,p x)->p (.mk k b t xs ks))(v:JV):p v:=
 JV.rec (motive_1:=p) (motive_2:=λl=>∀x∈l,p x) (λk b t xs ks ih=>h k b t xs ks ih) (by intro x o;cases o)
  (λx l o hl y j=>by rcases bM.1 j with rfl|j;exact o;exact hl y j) v
def null:JV:=.mk 0 false [] [] []
end JV
def Fits(n:Nat)(ks:List Str)(t:Str):Prop:=n<=9223372036854775807/\ks.length<=9223372036854775807/\t.length<=9223372036854775807/\∀s∈ks,s.length<=9223372036854775807
mutual
def eX(w:World):JV->List Value->Prop
 |.mk k b t xs ks,cs=>∃sv kv T1 T2 L,cs=[i64 k,.bool b,str t,sv,kv]/\SlAt w T1 sv xs.length L/\eK w xs L/\SlAt w T2 kv ks.length (ks.map str)/\Fits xs.length ks t
def eK(w:World):List JV->List Value->Prop
 |[],L=>L=[]
 |x::xs,L=>∃c r,L=c++r/\eX w x c/\eK w xs r
end
theorem eX.out{v:JV}(h:eX w v cs):∃sv kv T1 T2 L,cs=[i64 v.k,.bool v.b,str v.t,sv,kv]/\SlAt w T1 sv v.xs.length L/\eK w v.xs L/\SlAt w T2 kv v.ks.length (v.ks.map str)/\Fits v.xs.length v.ks v.t:=by
 cases v with
 |mk k b t xs ks=>simpa only[eX,JV.k,JV.b,JV.t,JV.xs,JV.ks]using h
theorem eX.mk{v:JV}{sv kv:Value}{T1 T2:TypeId}{L:List Value}(h1:SlAt w T1 sv v.xs.length L)(I:eK w v.xs L)(o:SlAt w T2 kv v.ks.length (v.ks.map str))(j:Fits v.xs.length v.ks v.t):eX w v [i64 v.k,.bool v.b,str v.t,sv,kv]:=by
 cases v with
 |mk k b t xs ks=>simp only[eX];exact⟨sv,kv,T1,T2,L,rfl,h1,I,o,j⟩
theorem eX.len{v:JV}(h:eX w v cs):cs.length=5:=by
 obtain⟨sv,kv,T1,T2,L,rfl,_⟩:=h.out;rfl
theorem eX.one{v:JV}(h:eX w v cs):∀u∈cs,fC u=true:=by
 obtain⟨sv,kv,T1,T2,L,rfl,h1,_,o,_⟩:=h.out;obtain⟨p,c,rfl,_⟩:=h1.shape;obtain⟨p',c',rfl,_⟩:=o.shape;intro u j;simp only[bM,eA,mO]at j;rcases j with rfl|rfl|rfl|rfl|rfl<;>rfl
theorem eX.all_one{v:JV}(h:eX w v cs):cs.all fC=true:=bN.2 h.one
theorem eK.len{w:World}:∀{xs:List JV} {L:List Value},eK w xs L->L.length=xs.length*5
 |[],L,h=>by simp only[eK]at h;subst h;rfl
 |x::xs,L,h=>by
  simp only[eK]at h
  obtain⟨c,r,rfl,o,j⟩:=h
  rw[aU,o.len,eK.len j,aB];omega
theorem eK.one{w:World}:∀{xs:List JV} {L:List Value},eK w xs L->∀u∈L,fC u=true
 |[],L,h=>by simp only[eK]at h;subst h;intro u j;cases j
 |x::xs,L,h=>by
  simp only[eK]at h
  obtain⟨c,r,rfl,I,o⟩:=h
  intro u j
  rcases dH.1 j with j|j
  ·exact I.one u j
  ·exact eK.one o u j
theorem eK.get{w:World}:∀{xs:List JV} {L:List Value} {i:Nat} {x:JV},eK w xs L->xs[i]?=some x->∃cs,eX w x cs/\∀j,j<5->L[i*5+j]?=cs[j]?
 |[],_,_,_,_,h=>by simp at h
 |y::xs,L,0,x,h,o=>by
  simp only[List.getElem?_cons_zero,bF]at o
  subst o
  simp only[eK]at h
  obtain⟨c,r,rfl,I,U⟩:=h
  refine⟨c,I,λj J=>?_⟩
  rw[mZ,aX,List.getElem?_append_left (by rw[I.len];exact J)]
 |y::xs,L,i+1,x,h,o=>by
  simp only[List.getElem?_cons_succ]at o
  simp only[eK]at h
  obtain⟨c,r,rfl,I,U⟩:=h
  obtain⟨cs,h1,h2⟩:=eK.get U o
  refine⟨cs,h1,λj J=>?_⟩
  rw[List.getElem?_append_right (by rw[I.len];omega),I.len,<-h2 j J]
  congr 1;omega
theorem eK.app{w:World}:∀{xs ys:List JV} {L M:List Value},eK w xs L->eK w ys M->eK w (xs++ys) (L++M)
 |[],ys,L,M,h,j=>by simp only[eK]at h;subst h;exact j
 |x::xs,ys,L,M,h,j=>by
  simp only[eK]at h
  obtain⟨c,r,rfl,I,o⟩:=h
  simp only[dD,eK]
  exact⟨c,r++M,by simp,I,eK.app o j⟩
theorem eK.one'{x:JV}(h:eX w x cs):eK w [x] cs:=by
 simp only[eK];exact⟨cs,[],by simp,h,rfl⟩
theorem eK.snoc{xs:List JV}{x:JV}{L:List Value}(h:eK w xs L)(j:eX w x cs):eK w (xs++[x]) (L++cs):=h.app (eK.one' j)
mutual
theorem eX.ext{w w':World}(hx:Ext w w'):∀{v:JV} {cs:List Value},eX w v cs->eX w' v cs
 |.mk k b t xs ks,cs,h=>by
  simp only[eX]at h⊢
  obtain⟨sv,kv,T1,T2,L,rfl,h1,h2,h3,h4⟩:=h
  exact⟨sv,kv,T1,T2,L,rfl,h1.ext hx,eK.ext hx h2,h3.ext hx,h4⟩
theorem eK.ext{w w':World}(hx:Ext w w'):∀{xs:List JV} {L:List Value},eK w xs L->eK w' xs L
 |[],L,h=>by simp only[eK]at h⊢;exact h
 |x::xs,L,h=>by
  simp only[eK]at h⊢
  obtain⟨c,r,rfl,hc,hr⟩:=h
  exact⟨c,r,rfl,eX.ext hx hc,eK.ext hx hr⟩
end
theorem NH{sv:Value}{xs:List JV}{L:List Value}{k:IntKind}{x:JV}{K:Value->Prop}(h:SlAt w T sv xs.length L)(J:eK w xs L)(hi:xs[i]?=some x)
  (hK:∀b o c fr cs,w.heap[b]?=some (.cells c T fr)->eX w x cs->(∀j,j<5->c[o+j]?=cs[j]?)->K (.pointer (some ⟨b,o,none⟩))):dP none 5 sv (.int k i) K:=by
 obtain⟨cs,hc,hg⟩:=J.get hi;refine rR (size:=5) h J.len (by omega) (List.getElem?_eq_some_iff.1 hi).1 λb o c fr hb I=>?_;exact hK b o c fr cs hb hc λj U=>(I j U).trans (hg j U)
theorem pS{b o:Nat}{c:Array Value}{fr:Nat×Nat}{K:Value->Prop}(hb:w.heap[b]?=some (.cells c T fr))(hn:cs.length=n)(I:∀j,j<n->c[o+j]?=cs[j]?)(J:K (.agg cs.toArray)):
  ldW true n (.pointer (some ⟨b,o,none⟩)) w K:=by
 rw[EY];refine⟨cs,?_,J⟩;have key:∀(m i:Nat),i+m=n->kI w ⟨b,o,none⟩ i m=some (cs.drop i):=by
  intro m;induction m with
  |zero=>intro i h;simp only[kI];rw[fH (by omega)]
  |succ m ih=>
   intro i h;have hi:i<cs.length:=by omega
   simp only[kI,bW,cG,hb,cJ,I i (by omega),List.getElem?_eq_getElem hi];rw[ih (i+1) (by omega)];simp
 simpa using key n 0 (by omega)
theorem IK{sv:Value}{xs:List JV}{L:List Value}{k:IntKind}{x:JV}{K:Value->Prop}(h:SlAt w T sv xs.length L)(o:eK w xs L)(hi:xs[i]?=some x)
  (J:∀cs,eX w x cs->K (.agg cs.toArray)):dP none 5 sv (.int k i) λp=>ldW true 5 p w K:=
 NH h o hi λ_ _ _ _ cs hb j I=>pS hb j.len I (J cs j)
theorem nM{kv:Value}{ks:List Str}{k:IntKind}{x:Str}{K:Value->Prop}(h:SlAt w T kv ks.length (ks.map str))(hi:ks[i]?=some x)(j:K (str x)):dP none 1 kv (.int k i) λp=>ldW false 1 p w K:=
 rQ h (by simp) (by simp[hi]) j
end
end Go.Eng
namespace Go.Num
section
open Go.Eng
variable{w:World}{K:Value->World->Prop}{cs:List Value}{G:Nat->Prop}{T:TypeId}{i:Nat}{n:Nat}{v:Value}{w':World}{P:Program}{c:UInt8}{S:Nat->Prop}
def isDig(c:UInt8):Bool:=decide (48<=c.toNat)&&decide (c.toNat<=57)
def dig(a:Str):Str:=match a with|[]=>[]|c::d=>if c=45 then d else c::d
def neg(a:Str):Bool:=a.head?==some 45
def goodN(a:Str):Bool:=decide (1<=(dig a).length)&&decide ((dig a).length<=100)&&(!((dig a).head?==some 48)||decide (a=[48]))&&(dig a).all isDig
def dval(c:UInt8):Nat:=c.toNat-48
def dec(d:Str):Nat:=d.foldl (λn c=>n*10+dval c) 0
theorem aB1(d:Str)(n:Nat):d.foldl (λn c=>n*10+dval c) n=n*10^d.length+dec d:=by
 unfold dec;induction d generalizing n with
 |nil=>simp
 |cons c d ih=>
  simp only[List.foldl_cons,aB];rw[ih,ih (0*10+dval c),oQ,mZ,aX,fG,<-Nat.add_assoc];congr 2;rw[Nat.mul_assoc,lM 10]
theorem xQ(a b:Str):dec (a++b)=dec a*10^b.length+dec b:=by
 unfold dec;rw[List.foldl_append,aB1];rfl
theorem wR(c:UInt8)(d:Str):dec (c::d)=dval c*10^d.length+dec d:=by
 have:=xQ [c] d;simpa[dec]using this
theorem IS(h:isDig c=true):dval c<10:=by
 simp only[isDig,aL,bD]at h;unfold dval;omega
theorem CG{d:Str}(h:d.all isDig=true):dec d<10^d.length:=by
 induction d with
 |nil=>simp[dec]
 |cons c d ih=>
  simp only[eV,aL]at h;have h1:=ih h.2;have j:=IS h.1;rw[wR,aB,oQ,lM (10^_) 10];have:dval c*10^d.length+10^d.length<=10*10^d.length:=by rw[<-FZ];exact dM _ j
  omega
theorem Lf{a b:Str}(j:a.all isDig=true)(hb:b.all isDig=true)(hl:a.length=b.length)(h:dec a=dec b):a=b:=by
 induction a generalizing b with
 |nil=>cases b with
  |nil=>rfl
  |cons _ _=>simp at hl
 |cons c a ih=>
  cases b with
  |nil=>simp at hl
  |cons e b=>
   simp only[eV,aL]at j hb;simp only[aB,Nat.add_right_cancel_iff]at hl;rw[wR,wR,hl]at h;have h1:=CG j.2;have h2:=CG hb.2;rw[hl]at h1;have hp:0<10^b.length:=Nat.pow_pos (by omega);have e1:(dval c*10^b.length+dec a)/10^b.length=dval c:=by
    rw[rH,Nat.add_mul_div_right _ _ hp,Nat.div_eq_of_lt h1,aX]
   have e2:(dval e*10^b.length+dec b)/10^b.length=dval e:=by
    rw[rH,Nat.add_mul_div_right _ _ hp,Nat.div_eq_of_lt h2,aX]
   have I:dval c=dval e:=by rw[<-e1,<-e2,h]
   have J:dec a=dec b:=by rw[I]at h;omega
   have o:c=e:=by
    have h3:=j.1;have U:=hb.1;simp only[isDig,aL,bD]at h3 U;unfold dval at I;exact kO.1 (by omega)
   rw[o,ih j.2 hb.2 hl J]
theorem MY{d:Str}(j:isDig c=true)(h0:c≠48):10^d.length<=dec (c::d):=by
 rw[wR];have:1<=dval c:=by
  simp only[isDig,aL,bD]at j;unfold dval;have:c.toNat≠48:=λe=>h0 (kO.1 e);omega
 have:=dM (10^d.length) this;omega
theorem Oe{a b:Str}(o:a.all isDig=true)(hb:b.all isDig=true)(I:a.head?=some 48->a=[48])(j:b.head?=some 48->b=[48])(h1:a≠[])(U:b≠[])(h:dec a=dec b):a=b:=by
 have key:∀{a b:Str},a.all isDig=true->b.all isDig=true->(b.head?=some 48->b=[48])->a≠[]->b≠[]->dec a=dec b->b.length<=a.length:=by
  intro a b o hb j h1 U h;cases b with
  |nil=>simp
  |cons c d=>
   by_cases hc:c=48
   ·have:=j (by simp[hc]);rw[this];cases a with
    |nil=>exact absurd rfl h1
    |cons _ _=>simp
   ·simp only[eV,aL]at hb;have h3:=MY (d:=d) hb.1 hc;have h4:=CG o;rw[h]at h4;have:d.length<a.length:=by
     rcases dR d.length a.length with J|J
     ·exact J
     ·have:=jW (n:=10) (by omega) J;omega
    simp;omega
 exact Lf o hb (Nat.le_antisymm (key hb o I U h1 h.symm) (key o hb j h1 U h)) h
def val:List Nat->Nat
 |[]=>0
 |x::r=>x+1000000000*val r
def Lim(l:List Nat):Prop:=∀x∈l,x<1000000000
def mF(d:Str):List Nat:=if h:d=[]then []else dec (d.drop (d.length-9))::mF (d.take (d.length-9))
 termination_by d.length
 decreasing_by
  have:0<d.length:=dQ.2 h
  simp only[bS];omega
theorem Cq:mF []=[]:=by rw[mF];simp
theorem ES{d:Str}(h:d≠[]):mF d=dec (d.drop (d.length-9))::mF (d.take (d.length-9)):=by rw[mF,dif_neg h]
theorem wU{d:Str}(n:Nat)(h:d.all isDig=true):(d.take n).all isDig=true:=bN.2 λx j=>bN.1 h x (oR j)
theorem LB{d:Str}(n:Nat)(h:d.all isDig=true):(d.drop n).all isDig=true:=bN.2 λx j=>bN.1 h x (CP j)
theorem aD5{d:Str}(h:d.all isDig=true)(hl:d.length<=9):dec d<1000000000:=by
 have h1:=CG h;have:=jW (n:=10) (by omega) hl;omega
theorem sW:∀(n:Nat) (d:Str),d.length<=n->d.all isDig=true->val (mF d)=dec d/\Lim (mF d)
 |n,[],_,_=>by rw[Cq];exact⟨rfl,λx j=>by cases j⟩
 |0,_::_,h,_=>by simp at h
 |n+1,c::d,hn,h=>by
  rw[ES (by simp)]
  generalize J:c::d=D at*
  have o:0<D.length:=by rw[<-J];simp
  obtain⟨h1,h2⟩:=sW n (D.take (D.length-9)) (by rw[bS];omega) (wU _ h)
  refine⟨?_,λx j=>?_⟩
  ·simp only[val,h1]
   have I:D=D.take (D.length-9)++D.drop (D.length-9):=(iH _ _).symm
   conv=>rhs;rw[I,xQ]
   rcases dR D.length 9 with U|U
   ·have:D.length-9=0:=by omega
    rw[this];simp[dec]
   ·rw[aP,show D.length-(D.length-9)=9 by omega]
    rw[rH,lM 1000000000]
  ·rcases bM.1 j with rfl|j
   ·exact aD5 (LB _ h) (by rw[aP];omega)
   ·exact h2 x j
def iN(l:List Nat):List Nat:=if h:l=[]then []else if l.getLast h=0 then iN l.dropLast else l
 termination_by l.length
 decreasing_by
  have:0<l.length:=dQ.2 h
  simp only[List.length_dropLast];omega
theorem sP:iN []=[]:=by rw[iN];simp
theorem qK(l:List Nat):iN (l++[0])=iN l:=by rw[iN];simp
theorem vR{l:List Nat}{x:Nat}(h:x≠0):iN (l++[x])=l++[x]:=by rw[iN];simp[h]
def Top(l:List Nat):Prop:=∀h:l≠[],l.getLast h≠0
theorem If(a b:List Nat):val (a++b)=val a+1000000000^a.length*val b:=by
 induction a with
 |nil=>simp[val]
 |cons x a ih=>simp only[dD,val,ih,aB,oQ];rw[uF,<-Nat.add_assoc,<-Nat.mul_assoc,lM 1000000000 (1000000000^_)]
theorem yP{p:List Nat->Prop}(h0:p [])(h1:∀l x,p l->p (l++[x]))(l:List Nat):p l:=by
 have:∀n (l:List Nat),l.length=n->p l:=by
  intro n;induction n with
  |zero=>intro l hl;rw[bC hl];exact h0
  |succ n ih=>
   intro l hl;have j:l≠[]:=λe=>by subst e;simp at hl
   rw[<-List.dropLast_concat_getLast j];exact h1 _ _ (ih _ (by simp[hl]))
 exact this _ l rfl
theorem nB(l:List Nat):val (iN l)=val l/\Top (iN l)/\(Lim l->Lim (iN l)):=by
 induction l using yP with
 |h0=>rw[sP];exact⟨rfl,λh=>absurd rfl h,id⟩
 |h1 l x ih=>
  by_cases h:x=0
  ·subst h;rw[qK];refine⟨by rw[ih.1,If];simp[val],ih.2.1,λhl=>ih.2.2 λy j=>hl y (eZ _ j)⟩
  ·rw[vR h];exact⟨rfl,λ_=>by simpa using h,id⟩
theorem Ic{l:List Nat}(h:Lim l):val l<1000000000^l.length:=by
 induction l with
 |nil=>simp[val]
 |cons x l ih=>
  have h1:=ih λy j=>h y (aR _ j);have o:=h x bA;simp only[val,aB,oQ];have:1000000000*val l+1000000000<=1000000000*1000000000^l.length:=by rw[<-Nat.mul_succ];exact kN _ h1
  rw[lM (1000000000^_)];omega
theorem Ig{l:List Nat}(o:Top l)(j:l≠[]):1000000000^(l.length-1)<=val l:=by
 have h1:=o j;have I:=List.dropLast_concat_getLast j;rw[<-I,If];simp only[aU,List.length_dropLast,aB,aN,val,Nat.mul_zero,eU];have:1000000000^(l.length-1)*1<=1000000000^(l.length-1)*l.getLast j:=kN _ (by omega);rw[show l.length-1+1-1=l.length-1 by omega];omega
theorem Bj{l:List Nat}(j:Top l):val l=0↔l=[]:=by
 constructor
 ·intro h;rcases Classical.em (l=[])with e|e
  ·exact e
  ·have:=Ig j e;have hp:0<1000000000^(l.length-1):=Nat.pow_pos (by omega);omega
 ·rintro rfl;rfl
def iY:List Nat->List Nat->Nat->List Nat
 |[],[],c=>[c]
 |a::x,[],c=>(c+a)%1000000000::iY x [] ((c+a)/1000000000)
 |[],b::y,c=>(c+b)%1000000000::iY [] y ((c+b)/1000000000)
 |a::x,b::y,c=>(c+a+b)%1000000000::iY x y ((c+a+b)/1000000000)
theorem zY:∀(x y:List Nat) (c:Nat),val (iY x y c)=val x+val y+c
 |[],[],c=>by simp[iY,val]
 |a::x,[],c=>by
  have:=zY x [] ((c+a)/1000000000)
  simp only[iY,val,this]
  have:=Nat.mod_add_div (c+a) 1000000000
  rw[uF,uF];omega
 |[],b::y,c=>by
  have:=zY [] y ((c+b)/1000000000)
  simp only[iY,val,this]
  have:=Nat.mod_add_div (c+b) 1000000000
  rw[uF,uF];omega
 |a::x,b::y,c=>by
  have:=zY x y ((c+a+b)/1000000000)
  simp only[iY,val,this]
  have:=Nat.mod_add_div (c+a+b) 1000000000
  rw[uF,uF];omega
theorem wD:∀(x y:List Nat) (c:Nat),Lim x->Lim y->c<=1->Lim (iY x y c)
 |[],[],c,_,_,J=>by intro u j;simp only[iY,bK]at j;subst j;omega
 |a::x,[],c,I,o,J=>by
  have U:=I a bA
  have:=wD x [] ((c+a)/1000000000) (λu j=>I u (aR _ j)) o (by omega)
  intro u j
  simp only[iY]at j
  rcases bM.1 j with rfl|j
  ·exact Nat.mod_lt _ (by omega)
  ·exact this u j
 |[],b::y,c,I,o,J=>by
  have U:=o b bA
  have:=wD [] y ((c+b)/1000000000) I (λu j=>o u (aR _ j)) (by omega)
  intro u j
  simp only[iY]at j
  rcases bM.1 j with rfl|j
  ·exact Nat.mod_lt _ (by omega)
  ·exact this u j
 |a::x,b::y,c,I,o,J=>by
  have U:=I a bA
  have hb:=o b bA
  have:=wD x y ((c+a+b)/1000000000) (λu j=>I u (aR _ j)) (λu j=>o u (aR _ j)) (by omega)
  intro u j
  simp only[iY]at j
  rcases bM.1 j with rfl|j
  ·exact Nat.mod_lt _ (by omega)
  ·exact this u j
def gX:List Nat->List Nat->Nat->List Nat
 |[],_,_=>[]
 |a::x,y,c=>
  let t:=c+y.headD 0
  if a<t then(a+1000000000-t)::gX x y.tail 1 else(a-t)::gX x y.tail 0
theorem Qu(y:List Nat):val y=y.headD 0+1000000000*val y.tail:=by cases y<;>simp[val]
theorem tM:∀(x y:List Nat) (c:Nat),Lim x->Lim y->c<=1->val y+c<=val x->y.length<=x.length->val (gX x y c)=val x-val y-c/\Lim (gX x y c)
 |[],y,c,_,_,_,h,_=>by simp[val]at h;simp[gX,val,Lim]
 |a::x,y,c,hx,hy,hc,h,hl=>by
  have ha:=hx a bA
  have I:Lim x:=λu j=>hx u (aR _ j)
  have o:Lim y.tail:=λu j=>hy u (List.mem_of_mem_tail j)
  have hb:y.headD 0<1000000000:=by cases y with
   |nil=>simp
   |cons b y=>exact hy b bA
  have U:y.tail.length<=x.length:=by simp only[List.length_tail,aB]at hl⊢;omega
  rw[Qu y]at h⊢
  simp only[val]at h⊢
  simp only[gX]
  by_cases J:a<c+y.headD 0
  ·rw[aJ J]
   have h1:val y.tail+1<=val x:=by
    rcases dR (val y.tail) (val x)with h1|h1
    ·exact h1
    ·have:=kN 1000000000 h1;omega
   obtain⟨h2,h3⟩:=tM x y.tail 1 I o (by omega) h1 U;refine⟨?_,λu j=>?_⟩
   ·simp only[val,h2];have:1000000000*(val x-val y.tail-1)=1000000000*val x-1000000000*val y.tail-1000000000:=by rw[Nat.mul_sub,Nat.mul_sub,Nat.mul_one]
    rw[this];have:=kN 1000000000 h1;rw[uF]at this;omega
   ·rcases bM.1 j with rfl|j
    ·omega
    ·exact h3 u j
  ·rw[aE J];have h1:val y.tail+0<=val x:=by
    rcases dR (val x) (val y.tail)with h1|h1
    ·have:=kN 1000000000 (Nat.succ_le_of_lt h1);rw[Nat.mul_succ]at this;omega
    ·omega
   obtain⟨h2,h3⟩:=tM x y.tail 0 I o (by omega) h1 U;refine⟨?_,λu j=>?_⟩
   ·simp only[val,h2,Nat.sub_zero];rw[Nat.mul_sub];have:=kN 1000000000 h1;rw[eU]at this;omega
   ·rcases bM.1 j with rfl|j
    ·omega
    ·exact h3 u j
def uC(a b:Nat):Int:=if a<b then-1 else if b<a then 1 else 0
theorem jC(a b:Nat):(a<b/\uC a b=-1)\/(a=b/\uC a b=0)\/(b<a/\uC a b=1):=by
 unfold uC;rcases Nat.lt_trichotomy a b with h|h|h
 ·exact .inl ⟨h,aJ h⟩
 ·exact .inr (.inl ⟨h,by subst h;simp⟩)
 ·exact .inr (.inr ⟨h,by rw[aE (Nat.not_lt.2 (Nat.le_of_lt h)),aJ h]⟩)
def uM:List (Nat×Nat)->Int
 |[]=>0
 |(a,b)::r=>if uC a b≠0 then uC a b else uM r
def Ju(x y:List Nat):Int:=if uC x.length y.length≠0 then uC x.length y.length else uM (x.zip y).reverse
theorem OO(a b:List (Nat×Nat)):uM (a++b)=if uM a≠0 then uM a else uM b:=by
 induction a with
 |nil=>simp[uM]
 |cons p a ih=>
  obtain⟨u,v⟩:=p;simp only[dD,uM,ih];by_cases h:uC u v≠0
  ·simp[h]
  ·simp[h]
theorem GB:∀(x y:List Nat),Lim x->Lim y->x.length=y.length->uM (x.zip y).reverse=uC (val x) (val y)
 |[],[],_,_,_=>by simp[uM,uC]
 |[],_::_,_,_,h=>by simp at h
 |_::_,[],_,_,h=>by simp at h
 |a::x,b::y,U,J,h=>by
  simp only[aB,Nat.add_right_cancel_iff]at h
  have ha:=U a bA
  have hb:=J b bA
  have ih:=GB x y (λu I=>U u (aR _ I)) (λu I=>J u (aR _ I)) h
  simp only[List.zip_cons_cons,List.reverse_cons,OO,ih,uM,val]
  rcases jC (val x) (val y)with⟨h1,e1⟩|⟨h1,e1⟩|⟨h1,e1⟩
  ·have:=kN 1000000000 (Nat.succ_le_of_lt h1)
   rcases jC (a+1000000000*val x) (b+1000000000*val y)with⟨j,e2⟩|⟨j,e2⟩|⟨j,e2⟩
   ·rw[e1,e2];rfl
   ·omega
   ·omega
  ·rw[e1,h1]
   rcases jC a b with⟨j,e2⟩|⟨j,e2⟩|⟨j,e2⟩
   ·rcases jC (a+1000000000*val y) (b+1000000000*val y)with⟨o,e3⟩|⟨o,e3⟩|⟨o,e3⟩
    ·rw[e2,e3];rfl
    ·omega
    ·omega
   ·subst j
    rcases jC (a+1000000000*val y) (a+1000000000*val y)with⟨o,e3⟩|⟨o,e3⟩|⟨o,e3⟩
    ·omega
    ·rw[e2,e3];rfl
    ·omega
   ·rcases jC (a+1000000000*val y) (b+1000000000*val y)with⟨o,e3⟩|⟨o,e3⟩|⟨o,e3⟩
    ·omega
    ·omega
    ·rw[e2,e3];rfl
  ·have:=kN 1000000000 (Nat.succ_le_of_lt h1)
   rcases jC (a+1000000000*val x) (b+1000000000*val y)with⟨j,e2⟩|⟨j,e2⟩|⟨j,e2⟩
   ·omega
   ·omega
   ·rw[e1,e2];rfl
theorem GC{x y:List Nat}(o:Lim x)(J:Lim y)(tx:Top x)(ty:Top y):Ju x y=uC (val x) (val y):=by
 unfold Ju;have key:∀{x y:List Nat},Lim x->Top y->x.length<y.length->val x<val y:=by
  intro x y o ty h;have I:y≠[]:=λe=>by subst e;simp at h
  have h1:=Ig ty I;have U:=Ic o;have j:=jW (n:=1000000000) (by omega) (show x.length<=y.length-1 by omega);omega
 rcases jC x.length y.length with⟨h,e⟩|⟨h,e⟩|⟨h,e⟩
 ·have U:=key o ty h;rcases jC (val x) (val y)with⟨j,e3⟩|⟨j,e3⟩|⟨j,e3⟩
  ·rw[e,e3];rfl
  ·omega
  ·omega
 ·rw[e,aE (by simp)];exact GB x y o J h
 ·have U:=key J tx h;rcases jC (val x) (val y)with⟨j,e3⟩|⟨j,e3⟩|⟨j,e3⟩
  ·omega
  ·omega
  ·rw[e,e3];rfl
structure Big where
 below:Bool
 l:List Nat
def Big.trim(x:Big):Big:=⟨x.below&&!(iN x.l).isEmpty,iN x.l⟩
def Big.int(x:Big):Int:=if x.below then-(val x.l:Int)else val x.l
structure Big.Ok(x:Big):Prop where
 lim:Lim x.l
 top:Top x.l
 sign:x.l=[]->x.below=false
theorem zR{x:Big}(h:Lim x.l):x.trim.Ok:=⟨(nB x.l).2.2 h,(nB x.l).2.1,λe=>by simp only[Big.trim]at e⊢;simp[e]⟩
theorem vQ(x:Big):x.trim.int=x.int:=by
 unfold Big.int Big.trim;have h:=(nB x.l).1;have o:=Bj (nB x.l).2.1;simp only[h];cases hb:x.below with
 |false=>simp
 |true=>
  cases j:iN x.l with
  |nil=>have:val x.l=0:=by rw[<-h,j];rfl
        simp[this]
  |cons _ _=>simp
def iE(a:Str):Big:=(⟨neg a,mF (dig a)⟩:Big).trim
def AB(x:Big):Big:=(⟨!x.below,x.l⟩:Big).trim
def Ej(x y:Big):Big:=
 if x.below=y.below then(⟨x.below,iY x.l y.l 0⟩:Big).trim
 else if 0<=Ju x.l y.l then(⟨x.below,gX x.l y.l 0⟩:Big).trim
 else(⟨y.below,gX y.l x.l 0⟩:Big).trim
def wT(a b:Str):Int:=if goodN a&&goodN b then(let d:=Ej (iE a) (AB (iE b));if d.l=[]then 0 else if d.below then-1 else 1)else 0
def num(a:Str):Int:=if neg a then-(dec (dig a):Int)else dec (dig a)
theorem Ie{x y:List Nat}(o:Lim x)(ty:Top y)(h:val y<=val x):y.length<=x.length:=by
 rcases dR x.length y.length with hl|hl
 ·have j:y≠[]:=λe=>by subst e;simp at hl
  have h1:=Ig ty j;have J:=Ic o;have I:=jW (n:=1000000000) (by omega) (show x.length<=y.length-1 by omega);omega
 ·exact hl
theorem Jq{x y:Big}(o:x.Ok)(j:y.Ok):(Ej x y).int=x.int+y.int/\(Ej x y).Ok:=by
 unfold Ej;have hs:=GC o.lim j.lim o.top j.top;by_cases h:x.below=y.below
 ·rw[aJ h];refine⟨?_,zR (wD _ _ _ o.lim j.lim (by omega))⟩;rw[vQ];unfold Big.int;rw[zY,<-h];cases x.below<;>simp;omega
 ·rw[aE h,hs];by_cases hc:val y.l<=val x.l
  ·have:0<=uC (val x.l) (val y.l):=by unfold uC;rw[aE (by omega)];split<;>omega
   rw[aJ this];obtain⟨h1,U⟩:=tM x.l y.l 0 o.lim j.lim (by omega) (by omega) (Ie o.lim j.top hc);refine⟨?_,zR U⟩;rw[vQ];unfold Big.int;rw[h1];cases J:x.below<;>cases I:y.below<;>simp_all<;>omega
  ·have:¬0<=uC (val x.l) (val y.l):=by unfold uC;rw[aJ (by omega)];omega
   rw[aE this];obtain⟨h1,U⟩:=tM y.l x.l 0 j.lim o.lim (by omega) (by omega) (Ie j.lim o.top (by omega));refine⟨?_,zR U⟩;rw[vQ];unfold Big.int;rw[h1];cases J:x.below<;>cases I:y.below<;>simp_all<;>omega
theorem jN{a:Str}(h:goodN a=true):1<=(dig a).length/\(dig a).length<=100/\((dig a).head?=some 48->a=[48])/\(dig a).all isDig=true:=by
 simp only[goodN,aL,cQ,bD,dZ,beq_eq_false_iff_ne,bP]at h;obtain⟨⟨⟨h1,I⟩,o⟩,j⟩:=h;exact⟨h1,I,λe=>o.resolve_left (λh=>h e),j⟩
theorem zV{a:Str}(h:goodN a=true):(iE a).int=num a/\(iE a).Ok:=by
 obtain⟨_,_,_,I⟩:=jN h;obtain⟨o,j⟩:=sW _ (dig a) (aV _) I;refine⟨?_,zR j⟩;unfold iE;rw[vQ];unfold Big.int num;rw[o]
theorem Gv{x:Big}(h:x.Ok):(AB x).int=-x.int/\(AB x).Ok:=by
 refine⟨?_,zR h.lim⟩;unfold AB;rw[vQ];unfold Big.int;cases x.below<;>simp
theorem Tg{a b:Str}(I:goodN a=true)(hb:goodN b=true):wT a b=if num a=num b then 0 else if num a<num b then-1 else 1:=by
 unfold wT;rw[I,hb];obtain⟨ra,oa⟩:=zV I;obtain⟨rb,ob⟩:=zV hb;obtain⟨rt,ot⟩:=Gv ob;obtain⟨rs,os⟩:=Jq oa ot;simp only[Bool.and_self,gF];generalize Ej (iE a) (AB (iE b))=d at*
 rw[ra,rt,rb]at rs;have o:=Bj os.top;unfold Big.int at rs;by_cases hd:d.l=[]
 ·rw[aJ hd];have:val d.l=0:=o.2 hd;rw[this]at rs;rw[aJ (by split at rs<;>omega)]
 ·rw[aE hd];have:val d.l≠0:=λe=>hd (o.1 e);cases j:d.below with
  |true=>rw[j]at rs;simp only[gF]at rs⊢;rw[aE (by omega),aJ (by omega)]
  |false=>rw[j]at rs;simp only[fF,kL]at rs⊢;rw[aE (by omega),aE (by omega)]
theorem ID{a b:Str}(ha:goodN a=true)(hb:goodN b=true)(h:num a=num b):a=b:=by
 obtain⟨a1,_,a3,a4⟩:=jN ha;obtain⟨b1,_,b3,b4⟩:=jN hb;have U:∀{a:Str},neg a=true->a=45::dig a:=by
  intro a h;cases a with
  |nil=>simp[neg]at h
  |cons c d=>simp only[neg,List.head?_cons,fV,bF]at h;subst h;simp[dig]
 have I:∀{a:Str},neg a=false->dig a=a:=by
  intro a h;cases a with
  |nil=>rfl
  |cons c d=>
   have:c≠45:=λe=>by subst e;simp[neg]at h
   simp[dig,this]
 have hh:neg [48]=false:=by decide
 have hg:dig [48]=[48]:=by decide
 have key:dec (dig a)=dec (dig b)->dig a=dig b:=Oe a4 b4 (λe=>by rw[a3 e,hg]) (λe=>by rw[b3 e,hg]) (λe=>by rw[e]at a1;simp at a1) (λe=>by rw[e]at b1;simp at b1);have J:∀{a:Str},goodN a=true->neg a=true->0<dec (dig a):=by
  intro a ha hn;obtain⟨h1,_,h3,h4⟩:=jN ha;cases hd:dig a with
  |nil=>rw[hd]at h1;simp at h1
  |cons c d=>
   have hc:c≠48:=λe=>by
    have:=h3 (by rw[hd,e];rfl);rw[this,hh]at hn;cases hn
   rw[hd]at h4;simp only[eV,aL]at h4;have:=MY (d:=d) h4.1 hc;have hp:0<10^d.length:=Nat.pow_pos (by omega);omega
 unfold num at h;cases o:neg a with
 |true=>
  cases j:neg b with
  |true=>
   rw[o,j]at h;simp only[gF]at h;rw[U o,U j,key (by omega)]
  |false=>
   rw[o,j]at h;have:=J ha o;simp at h;omega
 |false=>
  cases j:neg b with
  |true=>
   rw[o,j]at h;have:=J hb j;simp at h;omega
  |false=>
   rw[o,j]at h;simp only[fF,kL]at h;have:=key (by omega);rwa[I o,I j]at this
theorem Qg{a b:Str}(o:goodN a=true)(hb:goodN b=true):wT a b=0↔a=b:=by
 rw[Tg o hb];constructor
 ·intro h;by_cases j:num a=num b
  ·exact ID o hb j
  ·rw[aE j]at h;split at h<;>omega
 ·rintro rfl;simp
end
end Go.Num
namespace Go.Eng
section
open Go Go.Num
variable{w:World}{K:Value->World->Prop}{cs:List Value}{G:Nat->Prop}{T:TypeId}{i:Nat}{n:Nat}{v:Value}{w':World}{P:Program}{c:UInt8}{S:Nat->Prop}
mutual
def gJ:JV->Bool
 |.mk k _ _ xs _=> !decide (k=1)&&yY xs
def yY:List JV->Bool
 |[]=>true
 |x::xs=>gJ x&&yY xs
end
mutual
def qZ:JV->Int
 |.mk _ _ _ xs _=>lW xs 1
def lW:List JV->Int->Int
 |[],n=>n
 |x::xs,n=>if n<=2000 then lW xs (IntKind.i64.wrap (n+qZ x))else n
end
mutual
def kC:JV->Nat->Bool
 |.mk _ _ _ xs _,m=>match m with|0=>false|m+1=>AJ xs m
def AJ:List JV->Nat->Bool
 |[],_=>true
 |x::xs,m=>kC x m&&AJ xs m
end
def iX:List Str->Bool
 |[]=>true
 |[a]=>decide (a.length<=16384)
 |a::b::r=>decide (a.length<=16384)&&Op.bytesLess a b&&iX (b::r)
def lY(k:Int)(b:Bool)(t:Str)(n:Nat)(ks:List Str):Bool:=
 decide (0<=k)&&decide (k<=6)&&(!b||decide (k=2))&&(decide (t=[])||decide (k=3)||decide (k=4))&&(decide (n=0)||decide (5<=k))&&(decide (k=6)||decide (ks=[]))&&
  (!decide (k=3)||goodN t)&&(!decide (k=4)||decide (t.length<=16384))&&(!decide (k=6)||decide (ks.length=n))&&iX ks
mutual
def kA:JV->Bool
 |.mk k b t xs ks=>lY k b t xs.length ks&&lG xs
def lG:List JV->Bool
 |[]=>true
 |x::xs=>kA x&&lG xs
end
def dK(v:JV):Bool:=decide (qZ v<=2000)&&kC v 24&&kA v
mutual
def Da:JV->JV->Bool
 |.mk k b t xs ks,.mk k' b' t' xs' ks'=>decide (k=k')&&decide (b=b')&&decide (t=t')&&decide (ks=ks')&&uN xs xs'
def uN:List JV->List JV->Bool
 |[],[]=>true
 |x::xs,y::ys=>Da x y&&uN xs ys
 |_,_=>false
end
mutual
theorem same_iff:∀(a b:JV),Da a b=true↔a=b
 |.mk k b t xs ks,.mk k' b' t' xs' ks'=>by
  have:=vZ xs xs'
  simp only[Da,aL,bD,this,JV.mk.injEq]
  constructor
  ·rintro⟨⟨⟨⟨h1,h2⟩,h3⟩,h4⟩,h5⟩;exact⟨h1,h2,h3,h5,h4⟩
  ·rintro⟨h1,h2,h3,h5,h4⟩;exact⟨⟨⟨⟨h1,h2⟩,h3⟩,h4⟩,h5⟩
theorem vZ:∀(a b:List JV),uN a b=true↔a=b
 |[],[]=>by simp[uN]
 |[],_::_=>by simp[uN]
 |_::_,[]=>by simp[uN]
 |x::xs,y::ys=>by simp[uN,same_iff x y,vZ xs ys]
end
theorem OV:∀{xs ys:List JV},xs.length≠ys.length->uN xs ys=false:=by
 intro xs ys h;cases j:uN xs ys with
 |false=>rfl
 |true=>exact absurd (by rw[(vZ _ _).1 j]) h
def BQ(a b:Int):Int:=if a<b then-1 else if b<a then 1 else 0
def Dv(a b:Str):Int:=if Op.bytesLess a b then-1 else if a=b then 0 else 1
def wY(b:Bool):Int:=if b then 1 else 0
def orI(a b:Int):Int:=if a=0 then b else a
theorem By(a b:Int):orI a b=0↔a=0/\b=0:=by
 unfold orI;by_cases h:a=0
 ·rw[aJ h];simp[h]
 ·rw[aE h];simp[h]
def tU:List Str->List Str->Int
 |[],[]=>0
 |[],_::_=>-1
 |_::_,[]=>1
 |a::r,b::s=>orI (Dv a b) (tU r s)
mutual
def FL:JV->JV->Int
 |.mk k b t xs ks,v=>
  orI (BQ k v.k) (if k=2 then BQ (wY b) (wY v.b)
  else if k=3 then wT t v.t
  else if k=4 then Dv t v.t
  else orI (tU ks v.ks) (cmpL xs v.xs))
def cmpL:List JV->List JV->Int
 |[],[]=>0
 |[],_::_=>-1
 |_::_,[]=>1
 |x::xs,y::ys=>orI (FL x y) (cmpL xs ys)
end
theorem EW(a:Str):Op.bytesLess a a=false:=by
 induction a with
 |nil=>rfl
 |cons x a ih=>simp[Op.bytesLess,ih]
theorem HI(a b:Int):BQ a b=0↔a=b:=by
 unfold BQ;constructor
 ·intro h;split at h
  ·omega
  ·split at h<;>omega
 ·rintro rfl;simp
theorem HJ(a b:Str):Dv a b=0↔a=b:=by
 unfold Dv;constructor
 ·intro h;split at h
  ·omega
  ·split at h
   ·assumption
   ·omega
 ·rintro rfl;simp[EW]
theorem FM:∀(a b:List Str),tU a b=0↔a=b
 |[],[]=>by simp[tU]
 |[],_::_=>by simp[tU]
 |_::_,[]=>by simp[tU]
 |a::r,b::s=>by
  simp only[tU,By,dX,HJ,FM r s]
theorem OG{a b:Bool}:wY a=wY b↔a=b:=by cases a<;>cases b<;>simp[wY]
theorem kB{k:Int}{b:Bool}{t:Str}{ks:List Str}(h:lY k b t n ks=true):
  0<=k/\k<=6/\(b=true->k=2)/\(t≠[]->k=3\/k=4)/\(n≠0->5<=k)/\(ks≠[]->k=6)/\(k=3->goodN t=true)/\(k=4->t.length<=16384)/\(k=6->ks.length=n)/\iX ks=true:=by
 simp only[lY,aL,cQ,bD,dZ,decide_eq_false_iff_not]at h;obtain⟨⟨⟨⟨⟨⟨⟨⟨⟨h1,h2⟩,o⟩,j⟩,h5⟩,h6⟩,h7⟩,U⟩,J⟩,I⟩:=h;refine⟨h1,h2,λe=>?_,λe=>?_,λe=>?_,λe=>?_,λe=>?_,λe=>?_,λe=>?_,I⟩
 ·rcases o with o|o
  ·rw[e]at o;cases o
  ·exact o
 ·rcases j with(j|j)|j
  ·exact absurd j e
  ·exact .inl j
  ·exact .inr j
 ·exact h5.resolve_left e
 ·exact h6.resolve_right e
 ·exact h7.resolve_left λh=>h e
 ·exact U.resolve_left λh=>h e
 ·exact J.resolve_left λh=>h e
mutual
theorem Lk:∀(a b:JV),kA a=true->kA b=true->(FL a b=0↔a=b)
 |.mk k b t xs ks,.mk k' b' t' xs' ks',ha,hb=>by
  simp only[kA,aL]at ha hb
  have ih:=HH xs xs' ha.2 hb.2
  obtain⟨a1,a2,a3,a4,a5,a6,a7,a8,a9,_⟩:=kB ha.1
  obtain⟨b1,b2,b3,b4,b5,b6,b7,b8,b9,_⟩:=kB hb.1
  simp only[FL,JV.k,JV.b,JV.t,JV.ks,JV.xs,JV.mk.injEq]
  rw[By,HI]
  refine and_congr_right λhk=>?_
  subst hk
  have hnil:∀{xs:List JV},(xs.length≠0->5<=k)->¬5<=k->xs=[]:=λ{xs} h h5=>bC (Decidable.byContradiction λe=>h5 (h e))
  have hbf:∀{b:Bool},(b=true->k=2)->k≠2->b=false:=λ{b} h h2=>by cases b with|false=>rfl|true=>exact absurd (h rfl) h2
  have hks:∀{ks:List Str},(ks≠[]->k=6)->k≠6->ks=[]:=λ{ks} h h2=>Decidable.byContradiction λe=>h2 (h e)
  have hts:∀{t:Str},(t≠[]->k=3\/k=4)->¬(k=3\/k=4)->t=[]:=λ{t} h h2=>Decidable.byContradiction λe=>h2 (h e)
  by_cases h2:k=2
  ·rw[aJ h2,HI,OG,hnil a5 (by omega),hnil b5 (by omega),hks a6 (by omega),hks b6 (by omega),hts a4 (by omega),hts b4 (by omega)];simp
  ·rw[aE h2,hbf a3 h2,hbf b3 h2]
   by_cases h3:k=3
   ·rw[aJ h3,Qg (a7 h3) (b7 h3),hnil a5 (by omega),hnil b5 (by omega),hks a6 (by omega),hks b6 (by omega)];simp
   ·rw[aE h3]
    by_cases h4:k=4
    ·rw[aJ h4,HJ,hnil a5 (by omega),hnil b5 (by omega),hks a6 (by omega),hks b6 (by omega)];simp
    ·rw[aE h4,hts a4 (by omega),hts b4 (by omega),By,FM,ih]
     simp[and_comm]
theorem HH:∀(a b:List JV),lG a=true->lG b=true->(cmpL a b=0↔a=b)
 |[],[],_,_=>by simp[cmpL]
 |[],_::_,_,_=>by simp[cmpL]
 |_::_,[],_,_=>by simp[cmpL]
 |x::xs,y::ys,ha,hb=>by
  simp only[lG,aL]at ha hb
  have h1:=Lk x y ha.1 hb.1
  have h2:=HH xs ys ha.2 hb.2
  simp only[cmpL,By,dX,h1,h2]
end
theorem JV.ind'{p:JV->Prop}(h:∀v,(∀x∈v.xs,p x)->p v)(v:JV):p v:=JV.ind (λk b t xs ks ih=>h (.mk k b t xs ks) ih) v
theorem Af(v:JV):gJ v=(!decide (v.k=1)&&yY v.xs):=by cases v;rfl
theorem vW(v:JV):qZ v=lW v.xs 1:=by cases v;rfl
theorem oO(v:JV):kC v 0=false:=by cases v;rfl
theorem iA(v:JV)(m:Nat):kC v (m+1)=AJ v.xs m:=by cases v;rfl
theorem jJ(v:JV):kA v=(lY v.k v.b v.t v.xs.length v.ks&&lG v.xs):=by cases v;rfl
theorem Ra(a b:JV):Da a b=(decide (a.k=b.k)&&decide (a.b=b.b)&&decide (a.t=b.t)&&decide (a.ks=b.ks)&&uN a.xs b.xs):=by cases a;cases b;rfl
theorem Xw(a v:JV):FL a v=orI (BQ a.k v.k) (if a.k=2 then BQ (wY a.b) (wY v.b)else if a.k=3 then wT a.t v.t else if a.k=4 then Dv a.t v.t else orI (tU a.ks v.ks) (cmpL a.xs v.xs)):=by cases a;rfl
theorem AS(xs:List JV):yY xs=xs.all gJ:=by
 induction xs with
 |nil=>rfl
 |cons x xs ih=>simp[yY,ih]
theorem jB(xs:List JV)(m:Nat):AJ xs m=xs.all (kC · m):=by
 induction xs with
 |nil=>rfl
 |cons x xs ih=>simp[AJ,ih]
theorem nC(xs:List JV):lG xs=xs.all kA:=by
 induction xs with
 |nil=>rfl
 |cons x xs ih=>simp[lG,ih]
theorem wU{α:Type}{p:α->Bool}{xs:List α}{x:α}(hi:xs[i]?=some x):(xs.take (i+1)).all p=((xs.take i).all p&&p x):=by
 rw[dG,hi];simp
theorem aCa{α:Type}{p:α->Bool}{xs:List α}{x:α}(hi:xs[i]?=some x)(h:p x=false):xs.all p=false:=by
 rw[List.all_eq_false];exact⟨x,bG hi,by simp[h]⟩
def wL:List Str->Str->Option Nat
 |[],_=>none
 |a::r,k=>if a=k then some 0 else(wL r k).map (· +1)
theorem wK{ks:List Str}{k:Str}(h:wL ks k=some i):ks[i]?=some k:=by
 induction ks generalizing i with
 |nil=>cases h
 |cons a r ih=>
  simp only[wL]at h;split at h
  ·rename_i e;cases h;simp[e]
  ·rw[Au]at h;obtain⟨j,o,rfl⟩:=h;simpa using ih o
theorem Ai{ks:List Str}{k:Str}:wL ks k=none↔k∉ks:=by
 induction ks with
 |nil=>simp[wL]
 |cons a r ih=>
  simp only[wL,bM,not_or];split
  ·rename_i e;simp[e]
  ·rename_i e;simp only[Option.map_eq_none_iff,ih];exact⟨λh=>⟨λe'=>e e'.symm,h⟩,λh=>h.2⟩
def zC(v:JV)(k:Str):Option JV:=if v.k=6 then(match wL v.ks k with|some i=>v.xs[i]?|none=>none)else none
def oH(l:List (Str×JV))(k:Str):List (Str×JV):=l.filter λp=> !decide (p.1=k)
def mkO(l:List (Str×JV)):JV:=.mk 6 false [] (l.map (·.2)) (l.map (·.1))
def insP:List (Str×JV)->Str->JV->List (Str×JV)
 |[],k,x=>[(k,x)]
 |(a,y)::r,k,x=>if Op.bytesLess k a then(k,x)::(a,y)::r else(a,y)::insP r k x
def xD(v:JV)(k:Str)(x:JV):JV:=if v.k=6 then mkO (insP (oH (v.ks.zip v.xs) k) k x)else mkO [(k,x)]
theorem Ua{α:Type}[DecidableEq α]{a b:List α}{x y:α}(o:a[i]?=some x)(j:b[i]?=some y)(h:x≠y):a≠b:=by
 rintro rfl;rw[o]at j;cases j;exact h rfl
theorem Nq{α:Type}{a b:List α}{x:α}(h:a.take i=b.take i)(o:a[i]?=some x)(j:b[i]?=some x):a.take (i+1)=b.take (i+1):=by
 rw[dG,dG,h,o,j]
theorem Md{xs ys:List JV}(hl:xs.length=ys.length){x y:JV}(o:xs[i]?=some x)(j:ys[i]?=some y)(h:Da x y=false):uN xs ys=false:=by
 cases I:uN xs ys with
 |false=>rfl
 |true=>
  have:=(vZ _ _).1 I;subst this;rw[o]at j;cases j;rw[(same_iff x x).2 rfl]at h;cases h
end
section
open Go
variable{w:World}{K:Value->World->Prop}{cs:List Value}{G:Nat->Prop}{T:TypeId}{i:Nat}{n:Nat}{v:Value}{w':World}{P:Program}{c:UInt8}{S:Nat->Prop}
theorem iF{t e:TypeId}{size bytes:Nat}(hT:rI P t e size bytes){base:Nat}{x:Value}{m:Nat}{xs news:List Value}{ty:TypeId}
  (J:Own w base e size v n xs)(hx:SlAt w T x m news)(hl:news.length=m*size)(h1:∀u∈news,fC u=true)(U:n+m<=4611686018427387904)(hb:(n+m)*bytes<=140737488355328)(hbase:base<=w.heap.size)
  (hK:∀v' w',Own w' base e size v' (n+m) (xs++news)->Chg (λk=>v.ownBlock=some k) w w'->(∀k,v'.ownBlock=some k->v.ownBlock=some k\/w.heap.size<=k)->K v' w'):
  dF P (Builtin.append_ #[t,t] ty #[v,x]) w K:=by
 obtain⟨i,z,hi,hz,h2,h3,h4⟩:=hT.get;have hsame:∀{K':Value->World->Prop},dF P (Builtin.append_ #[t,t] ty #[v,x]) w K'->∃v' w',(Builtin.append_ #[t,t] ty #[v,x]).run P w=.ok v' w'/\K' v' w':=by
  intro K' h;unfold dF at h;split at h
  ·rename_i v' w' I;exact⟨v',w',I,h⟩
  ·exact h.elim
 obtain⟨v1,w1,o,xi,xe,xl⟩:=hsame (jY hT J hx hl h1 U hb hbase λv' w' a b c=>(⟨a,b,c⟩:Own w' base e size v' (n+m) (xs++news)/\Chg (λk=>v.ownBlock=some k) w w'/\(v'=.slice none 0 0↔v=.slice none 0 0/\m=0)));unfold dF;rw[o];refine hK v1 w1 xi xe ?_;obtain⟨hc,⟨rfl,rfl⟩|⟨g,cap,cur,rfl,xf,hg,hs,xd,hy,htake⟩⟩:=J
 ·have hq:xs=[]:=bC (by simpa using hc);subst hq;obtain⟨v2,w2,ho,xh⟩:=hsame (jY hT (base:=w.heap.size) (show Own w w.heap.size e size (.slice none 0 0) 0 []from⟨by simp,.inl ⟨rfl,rfl⟩⟩) hx hl h1 U hb (aV _) λv' w' a _ _=>a);rw[o]at ho;cases ho;intro k hk;exact .inr (xh.block k hk).1
 ·obtain⟨p,c,rfl,_,xb,hcells⟩:=hx;cases p with
  |none=>
   obtain⟨rfl,rfl⟩:=xb rfl;intro k hk;have hn:news=[]:=bC (by simpa using hl);subst hn;have I:(Builtin.append_ #[t,t] ty #[.slice (some ⟨g,0,none⟩) n cap,.slice none 0 0]).run P w=.ok (.slice (some ⟨g,0,none⟩) n cap) w:=by
    simp[Builtin.append_,run_bind,bJ hT.und,gG (show(P.info? e).isSome=true by rw[hi];rfl),Builtin.lenOf,run_pure,Builtin.firstCells,hs,storeCells]
   rw[o]at I;cases I;exact .inl hk
  |some a=>
   have hcell:∀j u,news[j]?=some u->w.cell? (a.add j)=some u:=by
    intro j u hu;have xc:news≠[]:=λe=>by subst e;simp at hu
    obtain⟨b,off,c',fr,hp,xg,hv⟩:=hcells xc;cases hp;rw[bW,cG,xg,cJ,hv j (List.getElem?_eq_some_iff.1 hu).1,hu]
   subst h2;by_cases hroom:n+m<=cap
   ·have ht:n*i.size+news.length<=cur.size:=by rw[hl,hy,<-fG];exact dM _ hroom
    have I:=run_append_room (P:=P) w t ty e i hT.und hi g n cap cur hg a m c news hl hcell (λu hu=>vM (h1 u hu)) hroom ht;rw[o]at I;cases I;intro k hk;exact .inl (by simpa[Value.ownBlock]using hk)
   ·have holds:∀j u,xs[j]?=some u->w.cell? ((⟨g,0,none⟩:Addr).add j)=some u:=World.ownsRow.cells (base:=base) (e:=e) (size:=i.size) (v:=.slice (some ⟨g,0,none⟩) n cap) (n:=n) ⟨hc,.inr ⟨g,cap,cur,rfl,xf,hg,hs,xd,hy,htake⟩⟩ rfl;have I:=run_append_grow (P:=P) w t ty e i z hT.und hi hz ⟨g,0,none⟩ n cap xs hc holds a m c news hl hcell (by omega) (by omega) (growslice_fits (by omega) (by rw[h3];exact hb));rw[o]at I;cases I;intro k hk;right;simp[Value.ownBlock]at hk;omega
theorem qB(c:Bool)(u v:Value)(w:World)(B:List Value->Fr->World->Prop):GdW c [u] w (λJ=>J [v] w) B↔∀g,B [bif c then v else u] g w:=by
 constructor
 ·rintro⟨J,h1,I,o⟩ g;cases c with
  |true=>exact o _ g _ (h1 rfl)
  |false=>exact o _ g _ (I rfl)
 ·intro h;refine⟨λs w'=>s=[bif c then v else u]/\w'=w,λj=>⟨by rw[j];rfl,rfl⟩,λj=>⟨by rw[j];rfl,rfl⟩,?_⟩;rintro s g w' ⟨rfl,rfl⟩;exact h g
theorem Jj(g e f:Bool)(w:World)(B:List Value->Fr->World->Prop):
  GdW g [undef] w (λJ=>cV (bif g then .bool e else undef) (bif (g&&e)then .bool f else undef) (.bool false) λt=>J [t] w) B↔∀h,B [bif g then .bool (e&&f)else undef] h w:=by
 cases g with
 |true=>
  rw[<-qB];cases e<;>exact gO
 |false=>
  constructor
  ·rintro⟨J,_,o,j⟩ h;exact j _ h _ (o rfl)
  ·intro h;exact GdW.f h
theorem LH(g e f:Bool)(w:World)(B:List Value->Fr->World->Prop):
  GdW g [undef] w (λJ=>cV (bif g then .bool e else undef) (.bool true) (bif (g&&!e)then .bool f else undef) λt=>J [t] w) B↔∀h,B [bif g then .bool (e||f)else undef] h w:=by
 cases g with
 |true=>
  rw[<-qB];cases e<;>exact gO
 |false=>
  constructor
  ·rintro⟨J,_,o,j⟩ h;exact j _ h _ (o rfl)
  ·intro h;exact GdW.f h
theorem fK(c e:Bool)(K:Value->Prop):cV (.bool c) (bif c then .bool e else undef) (.bool false) K↔K (.bool (c&&e)):=by cases c<;>exact gO
theorem fU(c e:Bool)(K:Value->Prop):cV (.bool c) (.bool true) (bif !c then .bool e else undef) K↔K (.bool (c||e)):=by cases c<;>exact gO
theorem Sn(c e:Bool):isB (bif c then .bool e else undef) true=(c&&e):=by cases c<;>cases e<;>rfl
theorem Sq(c e:Bool):isB (bif c then .bool e else undef) false=(c&&!e):=by cases c<;>cases e<;>rfl
theorem GdW.look{c:Bool}{A:(List Value->World->Prop)->Prop}{B:List Value->Fr->World->Prop}(e:Bool)(h1:c=true->∀J:List Value->World->Prop,J [.bool e] w->A J)(o:∀g,B [bif c then .bool e else undef] g w):GdW c [undef] w A B:=by
 refine⟨λs w'=>s=[bif c then .bool e else undef]/\w'=w,λj=>h1 j _ ⟨by rw[j];rfl,rfl⟩,λj=>⟨by rw[j];rfl,rfl⟩,?_⟩;rintro s g w' ⟨rfl,rfl⟩;exact o g
theorem GdW.act{c:Bool}{A:(List Value->World->Prop)->Prop}{B:List Value->Fr->World->Prop}(e:Bool)(R:World->Prop)(h0:c=false->R w)(h1:c=true->∀J:List Value->World->Prop,(∀w',R w'->J [.bool e] w')->A J)(I:∀g w',R w'->B [bif c then .bool e else undef] g w'):GdW c [undef] w A B:=by
 refine⟨λs w'=>s=[bif c then .bool e else undef]/\R w',λj=>h1 j _ λw' o=>⟨by rw[j];rfl,o⟩,λj=>⟨by rw[j];rfl,h0 j⟩,?_⟩;rintro s g w' ⟨rfl,o⟩;exact I g w' o
theorem aAg(A:(Value->Prop)->Prop)(B:Value->Prop):GqW false A B↔B undef:=by
 constructor
 ·rintro⟨v,_,h,hb⟩;rw[<-h rfl];exact hb
 ·intro h;exact⟨undef,(λe=>by cases e),λ_=>rfl,h⟩
theorem TI(A:(Value->Prop)->Prop)(B:Value->Prop):GqW true A B↔∃v,A (λx=>x=v)/\B v:=by
 constructor
 ·rintro⟨v,h,_,hb⟩;exact⟨v,h rfl,hb⟩
 ·rintro⟨v,h,hb⟩;exact⟨v,λ_=>h,(λe=>by cases e),hb⟩
theorem AL(u:List Value)(w:World)(A:(List Value->World->Prop)->Prop)(B:List Value->Fr->World->Prop):GdW false u w A B↔∀g,B u g w:=by
 constructor
 ·rintro⟨J,_,o,j⟩ g;exact j _ g _ (o rfl)
 ·intro h;exact GdW.f h
theorem Sm(c:Bool):isB undef c=false:=rfl
theorem ZV(a b:Bool)(K:Value->Prop):eqW .bool false (.bool a) (.bool b) K↔K (.bool (a==b)):=by simp[eqW]
theorem aDV(a b:Bool)(K:Value->Prop):eqW .bool true (.bool a) (.bool b) K↔K (.bool (!(a==b))):=by simp[eqW]
theorem bY(b:Bool)(A B:Prop):aS (.bool b) A B↔(b=true->A)/\(b=false->B):=gO
def aDp:=And.intro @cW<|And.intro @Uv<|And.intro @dI<|And.intro @eY<|And.intro @wC<|And.intro @Iu<|And.intro @gU<|And.intro @cI<|And.intro @kW<|And.intro @Jc<|
 And.intro @Ja<|And.intro @DV<|And.intro @bO<|And.intro @gD<|And.intro @dU<|And.intro @vH<|And.intro @mB<|And.intro @mX<|And.intro @qA<|And.intro @sL<|And.intro @vG<|
 And.intro @XA<|And.intro @XD<|And.intro @Oo<|And.intro @XB<|And.intro @eD<|And.intro @bT<|And.intro @dY<|And.intro @Wu<|And.intro @Ry<|And.intro @Wr<|And.intro @Pg<|
 And.intro @Ws<|And.intro @Wt<|And.intro @bL<|And.intro @qS<|And.intro @WQ<|And.intro @IJ<|And.intro @gC<|And.intro @xJ<|And.intro @eP<|And.intro @Qx<|And.intro @mW<|
 And.intro @WC<|And.intro @WG<|And.intro @fM<|And.intro @eR<|And.intro @gB<|And.intro @lH<|And.intro @tK<|And.intro @dS @cP
def aDt:=And.intro @Sm<|And.intro @aAg<|And.intro @TI<|And.intro @AL<|And.intro @qB<|And.intro @Jj<|And.intro @LH<|And.intro @fK<|And.intro @fU<|And.intro @Sn<|And.intro @Sq<|And.intro @fQ @mI
def aDs:=And.intro @bW<|And.intro @cG<|And.intro @cJ<|And.intro @mM<|And.intro @pX<|And.intro @heap_drew @size_drew
def aDr:=And.intro @dV<|And.intro @lP<|And.intro @iC<|And.intro @Bool.and_false<|And.intro @iB<|And.intro @Ay<|And.intro @Bool.or_true<|
 And.intro @Bool.or_false<|And.intro @Ax<|And.intro @pJ<|And.intro @iW @iS
theorem wsv:type_of%aDp:=aDp
theorem wsg:type_of%aDt:=aDt
theorem wsh:type_of%aDs:=aDs
theorem wsl:type_of%aDr:=aDr
universe u
def aDq:=And.intro @bF.{u}<|And.intro @Option.isSome_some.{u}<|And.intro @List.getElem?_toArray.{u}<|And.intro @List.getElem?_cons_zero.{u}<|And.intro @List.getElem?_cons_succ.{u}<|And.intro @aB.{u}<|And.intro @aN.{u}<|And.intro @aY.{u}<|And.intro @bB.{u}<|And.intro @aG.{u}<|And.intro @cS.{u}<|And.intro @aX @eU
theorem fB:type_of%aDq.{u}:=aDq.{u}
end
end Go.Eng
namespace Go.Proofs.YtghhmpppnmoeoaaGreatDoor
section
open Go Go.Eng
variable{w:World}{K:Value->World->Prop}{cs:List Value}{G:Nat->Prop}{T:TypeId}{i:Nat}{n:Nat}{v:Value}{w':World}{P:Program}{c:UInt8}{S:Nat->Prop}
theorem mixed:Tryz.prog.follows .mixedOrders=true:=by kernel_rfl
end
end Go.Proofs.YtghhmpppnmoeoaaGreatDoor
namespace Go.Eng
section
open Go
variable{w:World}{K:Value->World->Prop}{cs:List Value}{G:Nat->Prop}{T:TypeId}{i:Nat}{n:Nat}{v:Value}{w':World}{P:Program}{c:UInt8}{S:Nat->Prop}
section
variable{P:Program}
def yF(P:Program)(g:FuncId)(caps:List Value)(u:FrameMode)(w:World)(K:World->Prop):Prop:=
 CallsD P g caps.toArray u w λe u' w'=>(∃v,e=.returned v)/\settle u'=.returning/\K w'
def Lb:List Oper->Option (Nat×FuncId×List Operand)
 |[o1,o2]=>
  match o1.guard,o2.guard,o1.dst,o1.op,o2.dst,o2.op with
  |none,none,some t,.makeFunc (.func g) first caps,none,.defer c=>
   match first.toList,c.callee,c.args.toList with
   |[],.value (.tmp t'),[]=>bif Nat.beq t t' then some (t,g,caps.toList)else none
   |_,_,_=>none
  |_,_,_,_,_,_=>none
 |_=>none
def OY(P:Program)(fn:Func)(R:Ending->World->Prop)(f:Fr)(w:World):Prop:=Ds P fn.results.toList f w λl=>R (.returned (one l)) w
def Lj(P:Program)(pl:cO)(fn:Func)(R:Ending->World->Prop):Nat->Code->Nat->Fr->World->Prop
 |0,.seq (.region _ ops _) b,i,f,w=>
  match Lb ops.toList with
  |some (t,g,caps)=>
   @pF ⟨λch w'=>yF P g (caps.map (ev f)) (.panicking ch) w' λw''=>OY P fn R f w''⟩ P pl b (i+2) (upd f (some t) (.func (.func g) #[] (caps.map (ev f)).toArray)) w
    (λf' w'=>yF P g (caps.map (ev f)) .returning w' λw''=>OY P fn R f' w'') (λ_ _ _=>False) (λf' w'=>yF P g (caps.map (ev f)) .returning w' λw''=>OY P fn R f' w'')
  |none=>False
 |k+1,.seq a b,i,f,w=>@pF ⟨λch w'=>R (.panicked ch) w'⟩ P pl a (i+1) f w (λf' w'=>Lj P pl fn R k b (i+1+uR a) f' w') (λ_ _ _=>False) (λf' w'=>OY P fn R f' w')
 |_,_,_,_,_=>False
def aDA(lo t:Nat):ResultVar->Bool
 |.tmp x=>Nat.blt x lo&&!(Nat.beq x t)
 |.cell x _=>Nat.blt x lo&&!(Nat.beq x t)
def Lm(P:Program)(fn:Func)(pl:cO)(lo gd:Nat):Nat->Code->Nat->Bool
 |0,.seq (.region _ ops draw) b,i=> !draw&&(lk pl.js i).isNone&&
  (match Lb ops.toList with
  |some (t,g,_)=>Nat.blt t fn.ntmps&&Nat.beq g gd&&fn.results.toList.all (aDA lo t)&&chk P fn.ntmps pl [] lo b (i+2)
  |none=>false)
 |k+1,.seq a b,i=>(lk pl.js i).isNone&&chk P fn.ntmps pl [] 0 a (i+1)&&Lm P fn pl lo gd k b (i+1+uR a)
 |_,_,_=>false
theorem Sc{agg:Bool}{x:Value}{K K':Value->Prop}(o:∀v,K v->K' v)(h:ldW agg n x w K):ldW agg n x w K':=by
 cases x with
 |pointer a=>
  cases a with
  |none=>exact h
  |some a=>
   cases agg with
   |true=>obtain⟨l,h1,j⟩:=h;exact⟨l,h1,o _ j⟩
   |false=>obtain⟨l,h1,j⟩:=h;exact⟨l,h1,o _ j⟩
 |_=>exact h
theorem Cg{f f':Fr}{w:World}:∀{l:List ResultVar} {K:List Value->Prop},(∀t,(∃r∈l,r=.tmp t\/∃T,r=.cell t T)->f t=f' t)->Ds P l f w K->Ds P l f' w K
 |[],_,_,h=>h
 |r::l,K,h,j=>by
  have hl:∀t,(∃r∈l,r=.tmp t\/∃T,r=.cell t T)->f t=f' t:=λt ⟨r',I,e⟩=>h t ⟨r',aR _ I,e⟩
  cases r with
  |tmp t=>simp only[Ds]at j⊢;rw[<-h t ⟨_,bA,.inl rfl⟩];exact Cg hl j
  |cell t T=>
   simp only[Ds]at j⊢
   rw[<-h t ⟨_,bA,.inr ⟨T,rfl⟩⟩]
   obtain⟨h1,J⟩:=lL.out j
   rw[h1]
   exact Sc (λv o=>Cg hl o) J
theorem zG{fn:Func}{R:Ending->World->Prop}{g:FuncId}{caps:List Value}{u:FrameMode}{f:Fr}{a:Act}(hr:∀(ar:Array Value) (w:World),(callFunc g ar).run P w=.ok (.enter g ar) w)(J:u≠.run)
  (ha:∀t,(∃r∈fn.results.toList,r=.tmp t\/∃T,r=.cell t T)->f t=a.tmps.getD t undef)(h:yF P g caps u w λw''=>OY P fn R f w''):
  Leaves P fn a.tmps R [{target:=.fn (.func g) caps.toArray,args:=#[]}] u w:=by
 refine leaves_cons (f:=g) (args:=caps.toArray) J ?_ (h.mono ?_)
 ·have:=hr (#[]++caps.toArray) w;rw[show(#[]++caps.toArray:Array Value)=caps.toArray from by simp]at this;show(callFunc g (#[]++caps.toArray)).run P w=_;rw[show(#[]++caps.toArray:Array Value)=caps.toArray from by simp];exact this
 ·rintro e u' w' ⟨⟨v,rfl⟩,U,hk⟩;show Leaves P fn a.tmps R [] (settle u') w';rw[U];have I:Ag a.tmps.size a.defers (λt=>a.tmps.getD t undef) a:=⟨rfl,rfl,λ_=>rfl⟩;letI:=noX;obtain⟨v',o,j⟩:=uO (fn:=fn) (K:=λv=>R (.returned v) w') I (Cg ha hk);exact⟨v',j,o⟩
theorem MX{l:List Oper}{t:Nat}{g:FuncId}{caps:List Operand}(h:Lb l=some (t,g,caps)):∃o1 o2 first cp c,l=[o1,o2]/\o1.guard=none/\o2.guard=none/\o1.dst=some t/\o1.op=.makeFunc (.func g) first cp/\first=#[]/\cp.toList=caps/\o2.dst=none/\o2.op=.defer c/\c.callee=.value (.tmp t)/\c.args=#[]:=by
 unfold Lb at h;split at h
 ·rename_i o1 o2;split at h
  ·rename_i t' g' first cp c e1 e2 e3 e4 e5 e6
   split at h
   ·rename_i t'' h1 o j;cases hb:Nat.beq t' t'' with
    |false=>rw[hb]at h;cases h
    |true=>
     rw[hb]at h;simp only[aM,bF,gE]at h;obtain⟨rfl,rfl,rfl⟩:=h;have:t'=t'':=iG hb;subst this;exact⟨o1,o2,first,cp,c,rfl,e1,e2,e3,e4,by simpa using h1,rfl,e5,e6,o,by simpa using j⟩
   ·cases h
  ·cases h
 ·cases h
theorem Li(hm:P.follows .mixedOrders=true){pl:cO}{fn:Func}{R:Ending->World->Prop}{lo gd:Nat}(hr:∀(ar:Array Value) (w:World),(callFunc gd ar).run P w=.ok (.enter gd ar) w):
  ∀(k:Nat) (c:Code) (i:Nat) (f:Fr) (a:Act) (w:World),Lm P fn pl lo gd k c i=true->Ag fn.ntmps [] f a->Lj P pl fn R k c i f w->c.wp P (bodyPostD P fn R) a w:=by
 intro k;induction k with
 |zero=>
  intro c i f a w I J h;cases c with
  |seq x b=>
   cases x with
   |region id ops draw=>
    simp only[Lj]at h;simp only[Lm,aL,dZ]at I;obtain⟨⟨xj,hl⟩,I⟩:=I;cases hd:Lb ops.toList with
    |none=>simp only[hd]at h
    |some x=>
     obtain⟨t,g,caps⟩:=x;simp only[hd,aL]at h I;obtain⟨⟨⟨ht,hg⟩,hq⟩,xa⟩:=I;obtain rfl:g=gd:=iG hg;obtain⟨o1,o2,first,cp,cl,hs,g1,g2,d1,p1,rfl,rfl,d2,p2,xk,xl⟩:=MX hd;subst xj;refine wp_seq (wp_region_list ?_);have hj:ops=[o1,o2].toArray:=by rw[<-hs]
     subst hj;have xd:t<fn.ntmps:=by simpa using ht
     have hv:(cp.toList.map (ev f)).toArray=cp.map a.eval:=by
      rw[zD J];apply yG;simp
     show wpList P [o1,o2].toArray _ [o1,o2] a w;letI:=noX;refine IA (K:=λv w'=>v=.func (.func g) #[] (cp.toList.map (ev f)).toArray/\w'=w) J (by simp[kX,g1]) ?_ ?_ (λ_ _ h=>h.elim)
     ·unfold Jf;rw[p1];exact⟨rfl,rfl⟩
     ·rintro v w' ⟨rfl,rfl⟩;have o:=J.put (d:=some t) (λx hx=>by cases hx;exact xd) (.func (.func g) #[] (cp.toList.map (ev f)).toArray);rw[d1];unfold wpList;rw[aJ (by rw[Be o];simp[kX,g2])];refine .inl ?_;unfold Oper.wp;have hz:(execOp (a.put (some t) (.func (.func g) #[] (cp.toList.map (ev f)).toArray)).eval o2).run P w'=.ok (.defer {target:=.fn (.func g) (cp.toList.map (ev f)).toArray,args:=#[]}) w':=by
       rw[zD o];unfold execOp;rw[p2];have e:ev (upd f (some t) (.func (.func g) #[] (cp.toList.map (ev f)).toArray)) (.tmp t)=.func (.func g) #[] (cp.toList.map (ev f)).toArray:=by
        simp[ev,nX]
       simp[resolve,xk,xl,Deferred.ofValue,run_bind,run_pure,e]
      rw[hz,Oper.upon_defer,d2];clear hz;have hh:Ag fn.ntmps [{target:=.fn (.func g) (cp.toList.map (ev f)).toArray,args:=#[]}] (upd f (some t) (.func (.func g) #[] (cp.toList.map (ev f)).toArray)) ({(a.put (some t) (.func (.func g) #[] (cp.toList.map (ev f)).toArray))with defers:={target:=.fn (.func g) (cp.toList.map (ev f)).toArray,args:=#[]}::(a.put (some t) (.func (.func g) #[] (cp.toList.map (ev f)).toArray)).defers}.put none undef):=by
       refine⟨?_,o.2.1,o.2.2⟩;show _::(a.put _ _).defers=_;rw[o.1]
      generalize ({(a.put (some t) (.func (.func g) #[] (cp.toList.map (ev f)).toArray))with defers:={target:=.fn (.func g) (cp.toList.map (ev f)).toArray,args:=#[]}::(a.put (some t) (.func (.func g) #[] (cp.toList.map (ev f)).toArray)).defers}.put none undef)=a2 at hh⊢;show b.wp P (bodyPostD P fn R) a2 w';refine@vF ⟨λch w'=>yF P g (cp.toList.map (ev f)) (.panicking ch) w' λw''=>OY P fn R f w''⟩ P fn.ntmps [{target:=.fn (.func g) (cp.toList.map (ev f)).toArray,args:=#[]}] pl hm b [] lo (i+2) _ a2 w' _ _ _ _ xa hh h (λf' a' w' j _ U=>?_) (λ_ _ _ _ _ _ U=>U.elim) (λf' a' w' j _ U=>?_) (λch a' w' hd ht hx=>?_)
      ·show Leaves P fn a'.tmps R a'.defers .returning w';rw[j.1];exact zG hr (by simp) (λt _=>(j.2.2 t).symm) U
      ·show Leaves P fn a'.tmps R a'.defers .returning w';rw[j.1];exact zG hr (by simp) (λt _=>(j.2.2 t).symm) U
      ·show Leaves P fn a'.tmps R a'.defers (.panicking ch) w';rw[hd];refine zG (f:=f) hr (by simp) (λx xc=>?_) hx;have hy:x<lo/\x≠t:=by
        obtain⟨r,xf,hi⟩:=xc;have:=bN.1 hq r xf;have h2:(Nat.blt x lo&&!(Nat.beq x t))=true:=by
         rcases hi with rfl|⟨T,rfl⟩
         ·exact this
         ·exact this
        simp only[aL,dZ]at h2;refine⟨by simpa using h2.1,λe=>?_⟩;rw[e]at h2;have h3:=h2.2;rw[Nat.beq_refl]at h3;cases h3
       have xh:Nat.ble lo x=false:=by
        cases hb:Nat.ble lo x with
        |false=>rfl
        |true=>exact absurd (cR hy.1 (jH hb)) (Nat.lt_irrefl _)
       rw[ht x (by unfold inS;rw[xh];rfl)];simp[nX,hy.2]
   |_=>simp[Lm]at I
  |_=>simp[Lm]at I
 |succ k ih=>
  intro c i f a w I J h;cases c with
  |seq x y=>
   simp only[Lj]at h;simp only[Lm,aL]at I;obtain⟨⟨hl,xn⟩,xm⟩:=I;refine wp_seq ?_;letI:HX:=⟨λch w'=>R (.panicked ch) w'⟩;refine vF hm x [] 0 (i+1) f a w _ _ _ _ xn J h (λf' a' w' j _ h'=>ih y _ f' a' w' xm j h') (λ_ _ _ _ _ _ U=>U.elim) (λf' a' w' j _ U=>?_) (λch a' w' hd _ hx=>?_)
   ·show Leaves P fn a'.tmps R a'.defers .returning w';rw[j.1];obtain⟨v',xi,hi⟩:=uO (fn:=fn) (K:=λv=>R (.returned v) w') j U;exact⟨v',hi,xi⟩
   ·show Leaves P fn a'.tmps R a'.defers (.panicking ch) w';rw[hd];exact hx
  |_=>simp[Lm]at I
def SE(P:Program)(fn:Func)(pl:cO)(k:Nat)(args:List Value)(w:World)(R:Ending->World->Prop):Prop:=
 match fn.body with
 |some c=>Lj P pl fn R k c 0 (fr0 args) w
 |none=>False
def BR(P:Program)(fn:Func)(pl:cO)(lo gd k na:Nat):Bool:=
 match fn.body with
 |some c=>Nat.ble na fn.ntmps&&Lm P fn pl lo gd k c 0
 |none=>false
theorem KX{nt:Nat}{args:List Value}(o:args.length<=nt):Ag nt [] (fr0 args) {tmps:=args.toArray++Array.replicate (nt-args.toArray.size) undef,defers:=[]}:=by
 refine⟨rfl,by simp;omega,λt=>?_⟩;simp only[iM,Array.getElem?_append,kM,List.getElem?_toArray,Array.getElem?_replicate,fr0,List.getD_eq_getElem?_getD];split
 ·rfl
 ·rename_i j;rw[List.getElem?_eq_none (by omega)];split<;>rfl
theorem MO{g:FuncId}{fn:Func}{pl:cO}{args:List Value}{R:Ending->World->Prop}{lo gd k:Nat}(hm:P.follows .mixedOrders=true)(hf:P.funcs[g]?=some fn)(o:∀(ar:Array Value) (w:World),(callFunc gd ar).run P w=.ok (.enter gd ar) w)
  (j:BR P fn pl lo gd k args.length=true)(h:SE P fn pl k args w R):Calls P g args.toArray w R:=by
 unfold SE at h;unfold BR at j;cases hb:fn.body with
 |none=>rw[hb]at h;exact h.elim
 |some c=>
  rw[hb]at h j;simp only[aL]at j;exact calls_of_wp_defers hf hb (Li hm o k c 0 _ _ w j.2 (KX (jH j.1)) h)
theorem aDw[HX](P:Program)(g:FuncId)(fn:Func)(pl:cO)(args:List Value)(w:World)(K:Value->World->Prop)(lo gd k na:Nat)(X:Prop)(I:args.length=na)(hm:P.follows .mixedOrders=true)(hf:P.funcs[g]?=some fn)
  (U:BR P fn pl lo gd k na=true)(J:SE P fn pl k args w (Gr K)=X)(o:∀(az:Array Value) (w:World),(callFunc g az).run P w=.ok (.enter g az) w)(j:∀(ar:Array Value) (w:World),(callFunc gd ar).run P w=.ok (.enter gd ar) w)(h:X):aC P g args w K:=by
 unfold aC;rw[o];exact MO hm hf j (by rw[I];exact U) (by rw[J];exact h)
end
section
variable{P:Program}
def JP:List Oper->Option (Nat×Nat)
 |[o1,o2]=>
  match o1.guard,o2.guard,o1.dst,o1.op,o2.dst,o2.op with
  |none,none,some t,.call c,some t2,.assign (.tmp t')=>
   match c.callee,c.args.toList with
   |.builtin .recover,[]=>bif Nat.beq t t' then some (t,t2)else none
   |_,_=>none
  |_,_,_,_,_,_=>none
 |_=>none
theorem Mj{l:List Oper}{t t2:Nat}(h:JP l=some (t,t2)):∃o1 o2 c,l=[o1,o2]/\o1.guard=none/\o2.guard=none/\o1.dst=some t/\o1.op=.call c/\o2.dst=some t2/\o2.op=.assign (.tmp t)/\c.callee=.builtin .recover/\c.args=#[]:=by
 unfold JP at h;split at h
 ·rename_i o1 o2;split at h
  ·rename_i t0 c t2' t' e1 e2 e3 e4 e5 e6;split at h
   ·rename_i h1 j;cases hb:Nat.beq t0 t' with
    |false=>rw[hb]at h;cases h
    |true=>
     rw[hb]at h;simp only[aM,bF,gE]at h;obtain⟨rfl,rfl⟩:=h;have:t0=t':=iG hb;subst this;exact⟨o1,o2,c,rfl,e1,e2,e3,e4,e5,e6,h1,by simpa using j⟩
   ·cases h
  ·cases h
 ·cases h
def Xf(P:Program)(fn:Func)(pl:cO)(args:List Value)(x:Value)(w:World)(K:World->Prop):Prop:=
 match fn.body with
 |some (.seq (.region _ ops _) b)=>
  match JP ops.toList with
  |some (t,t2)=>@pF noX P pl b 2 (upd (upd (fr0 args) (some t) x) (some t2) x) w (λ_ w'=>K w') (λ_ _ _=>False) (λ_ w'=>K w')
  |none=>False
 |_=>False
def DU(P:Program)(fn:Func)(pl:cO)(na:Nat):Bool:=
 match fn.body with
 |some (.seq (.region _ ops draw) b)=> !draw&&Nat.ble na fn.ntmps&&fn.results.toList.isEmpty&&
  (match JP ops.toList with
  |some (t,t2)=>Nat.blt t fn.ntmps&&Nat.blt t2 fn.ntmps&&chk P fn.ntmps pl [] 0 b 2
  |none=>false)
 |_=>false
inductive Finds:FrameMode->Value->Prop
 |idle:Finds .returning .nilIface
 |thrown (v:Value):Finds (.panicking [{v,recovered:=false}]) v
theorem Fv{g:FuncId}{fn:Func}{pl:cO}{args:List Value}{x:Value}{u:FrameMode}{K:World->Prop}(hm:P.follows .mixedOrders=true)(hf:P.funcs[g]?=some fn)(hc:DU P fn pl args.length=true)
  (hu:Finds u x)(h:Xf P fn pl args x w K):yF P g args u w K:=by
 unfold Xf at h;unfold DU at hc;split at h
 ·rename_i id ops draw b hb;rw[hb]at hc;simp only[aL,dZ]at hc;obtain⟨⟨⟨hd,xf⟩,hi⟩,hc⟩:=hc;subst hd;cases ho:JP ops.toList with
  |none=>simp only[ho]at h
  |some y=>
   obtain⟨t,t2⟩:=y;simp only[ho,aL]at h hc;obtain⟨⟨ht,J⟩,xa⟩:=hc;obtain⟨o1,o2,c,hq,g1,g2,d1,p1,d2,p2,xg,xh⟩:=Mj ho;have U:ops=#[o1,o2]:=by
    apply yG;rw[hq]
   subst U;letI:=noX;have hj:∀tmps w,(results fn tmps).run P w=.ok (.tuple #[]) w:=by
    intro tmps w;have h1:fn.results.toList=[]:=by simpa using hi
    obtain⟨v,hv,hr⟩:=uO (P:=P) (fn:=fn) (n:=tmps.size) (D:=[]) (f:=λt=>tmps.getD t undef) (a:={tmps:=tmps,defers:=[]}) (w:=w) (K:=λv=>v=.tuple #[]) ⟨rfl,rfl,λ_=>rfl⟩ (by rw[h1];rfl);rw[hr,hv]
   have hh:=KX (nt:=fn.ntmps) (args:=args) (jH xf);have ht:t<fn.ntmps:=by simpa using ht
   have J:t2<fn.ntmps:=by simpa using J
   refine callsD_of_wpS hf hb λc₀ cs hmode=>?_;generalize ({tmps:=args.toArray++Array.replicate (fn.ntmps-args.toArray.size) undef,defers:=[]}:Act)=a0 at hh⊢;have j:=hh.put (d:=some t) (λy hy=>by cases hy;exact ht) x;have xb:=j.put (d:=some t2) (λy hy=>by cases hy;exact J) x;have w1:Region.wanted o1 (yielded #[o1,o2] a0.tmps)=true:=by
    have:=Be (ops:=[o1,o2]) (o:=o1) hh;rw[show([o1,o2]:List Oper).toArray=#[o1,o2]from rfl]at this;rw[this];simp[kX,g1]
   have w2:Region.wanted o2 (yielded #[o1,o2] (a0.put (some t) x).tmps)=true:=by
    have:=Be (ops:=[o1,o2]) (o:=o2) j;rw[show([o1,o2]:List Oper).toArray=#[o1,o2]from rfl]at this;rw[this];simp[kX,g2]
   have e1:(execOp a0.eval o1).run P w=.ok .recover w:=by
    unfold execOp;rw[p1];simp[resolve,xg,xh,invoke,builtin,run_bind,run_pure]
   have e2:(execOp (a0.put (some t) x).eval o2).run P w=.ok (.value x) w:=by
    rw[zD j];unfold execOp;rw[p2];have e:ev (upd (fr0 args) (some t) x) (.tmp t)=x:=by simp[ev,nX]
    simp[run_pure,e]
   have rest:∀u':FrameMode,settle u'=.returning->b.wpS P (bodyPostS P fn c₀ cs λe u' w'=>(∃v,e=.returned v)/\settle u'=.returning/\K w') ((a0.put (some t) x).put (some t2) x) ({c₀ with mode:=u'}::cs) w:=by
    intro u' hs;refine wpS_of_wp ?_;refine@vF noX P fn.ntmps [] pl hm b [] 0 2 _ _ w _ _ _ _ xa xb h (λf' a' w' I _ hk=>?_) (λ_ _ _ _ _ _ hk=>hk.elim) (λf' a' w' I _ hk=>?_) (λch a' w' hd ht hx=>hx.elim)
    ·exact⟨I.1,u',rfl,_,hj _ _,⟨_,rfl⟩,hs,hk⟩
    ·exact⟨I.1,u',rfl,_,hj _ _,⟨_,rfl⟩,hs,hk⟩
   refine wpS_seq (wpS_region ?_);show wpOpsS P #[o1,o2] _ [0,1] a0 (c₀::cs) w;have tail:∀c1:Frame,b.wpS P (bodyPostS P fn c₀ cs λe u' w'=>(∃v,e=.returned v)/\settle u'=.returning/\K w') ((a0.put (some t) x).put (some t2) x) (c1::cs) w->
     wpOpsS P #[o1,o2] (Exit.thenS (b.wpS P (bodyPostS P fn c₀ cs λe u' w'=>(∃v,e=.returned v)/\settle u'=.returning/\K w')) (bodyPostS P fn c₀ cs λe u' w'=>(∃v,e=.returned v)/\settle u'=.returning/\K w')) [1] (a0.put (some t) x) (c1::cs) w:=by
    intro c1 xi;unfold wpOpsS;rw[show(#[o1,o2]:Array Oper)[1]?=some o2 from rfl];show ite (Region.wanted o2 (yielded #[o1,o2] (a0.put (some t) x).tmps)=true) _ _;rw[aJ w2,e2];simp only[Oper.upon_value,d2];exact xi
   unfold wpOpsS;rw[show(#[o1,o2]:Array Oper)[0]?=some o1 from rfl];show ite (Region.wanted o1 (yielded #[o1,o2] a0.tmps)=true) _ _;rw[aJ w1,e1];cases hu with
   |idle=>
    have:recoverD (c₀::cs)=none:=by simp[recoverD,hmode]
    simp only[this,d1];have e:({c₀ with mode:=.returning}:Frame)=c₀:=by rw[<-hmode]
    have:=rest .returning rfl;rw[e]at this;exact tail c₀ this
   |thrown=>
    have:recoverD (c₀::cs)=some (x,{c₀ with mode:=.panicking [{v:=x,recovered:=true}]}::cs):=by simp[recoverD,hmode]
    simp only[this,d1];exact tail _ (rest (.panicking [{v:=x,recovered:=true}]) rfl)
 ·exact h.elim
end
end
end Go.Eng
namespace Go.Proofs.YtghhmpppnmoeoaaGreatDoor
section
open Go Go.Eng
variable{w:World}{K:Value->World->Prop}{cs:List Value}{G:Nat->Prop}{T:TypeId}{i:Nat}{n:Nat}{v:Value}{w':World}{P:Program}{c:UInt8}{S:Nat->Prop}{v0 v1 v2 v3 v4 v5:Value}
abbrev _root_.Q0:=Value->World->Prop
noncomputable abbrev _root_.P0:=Tryz.prog
abbrev _root_.sN:Value:=.slice none 0 0
abbrev _root_.zL0:List Value:=[(i64 0),(.bool false),(str []),sN,sN]
abbrev _root_.zL1:List Value:=[(i64 0),(str []),(i64 0)]
abbrev _root_.zL2:List Value:=[(.bool false),sN]
abbrev _root_.zL3:List Value:=[(i64 0)]
abbrev _root_.zL4:List Value:=[(i64 0),(str []),sN,sN,(i64 0)]
variable [HX]
def aBt:cO:={js:=[(60,⟨[9],[9],12⟩),(62004,⟨[73],[],71⟩),(54,⟨[9,11],[9],11⟩),(44005,⟨[51],[],48⟩),(36,⟨[6,7],[],1⟩),(25006,⟨[30],[],26⟩),(14,⟨[],[2,3,4,5],19⟩)],ds:=[]}
def W26(v0:Value)(w:World)(K:Q0):=iT v0 λt13=>aQ .gtr t13 (i64 16384) λt14=>aS t14 (dJ [(i64 0),(str []),(i64 0)] [(0,1,(i64 3))] λc1=>eW 53 (.agg c1.toArray) w λt16 w2=>K (.tuple #[sN,t16]) w2) (dF P0 (Instr.range 9 v0) w λt18 w3=>cY [] w3 λs4 _ w5 L4=>dF P0 (Instr.next t18 true 0) w5 λt19 w6=>dO 0 t19 λt20=>aS t20 (dO 1 t19 λt21=>dO 2 t19 λt22=>aQ .eql t22 (.int .i32 65533) λt24=>GdW (isB t24 true) [undef] w6 (λJ7=>mY v0 (some t21) none λt28=>aC P0 43 [t28,(str [239,191,189])] w6 λt29 w8=>unW .not t29 λt30=>J7 [t30] w8) λs7 _ w9=>cV t24 (s7.getD 0 undef) (.bool false) λt31=>aS t31 (dJ [(i64 0),(str []),(i64 0)] [(0,1,(i64 31)),(2,1,t21)] λc10=>eW 53 (.agg c10.toArray) w9 λt34 w11=>K (.tuple #[sN,t34]) w11) (L4 [] w9)) (cY [sN,(i64 0)] w6 λs12 _ w13 L12=>mY v0 (some (s12.getD 1 undef)) none λt38=>aC P0 44 [t38] w13 λt39 w14=>dO 0 t39 λt40=>dO 1 t39 λt41=>aQ .add (s12.getD 1 undef) t40 λt44=>aQ .eql t41 (i64 0) λt46=>GdW (isB t46 true) [undef] w14 (λJ15=>iT v0 λt50=>aQ .eql t44 t50 λt51=>J15 [t51] w14) λs15 _ w16=>cV t46 (s15.getD 0 undef) (.bool false) λt52=>aS t52 (dJ [(i64 0),(str []),(i64 0)] [(2,1,t44)] λc17=>dN 73 1 [(i64 0),(str []),(i64 0)] [(0,3,(.agg c17.toArray))] w16 λt56 w18=>dF P0 (Builtin.append_ #[64,64] 64 #[(s12.getD 0 undef),t56]) w18 λt57 w19=>K (.tuple #[t57,(.pointer none)]) w19) (bQ 73 zL1 w16 λt10 w20=>bU (λJ21=>aQ .eql t41 (i64 0) λt59=>aS t59 (mY v0 (some t44) none λt63=>aC P0 45 [t63] w20 λt64 w22=>dO 0 t64 λt65=>dO 1 t64 λt66=>dO 2 t64 λt67=>stW 3 t10 t65 w22 λw23=>J21 [t67,t66] w23) (J21 [t41,(i64 0)] w20)) λs21 _ w24=>bU (λJ25=>aQ .eql (s21.getD 0 undef) (i64 0) λt69=>GdW (isB t69 true) [undef] w24 (λJ26=>dA (s12.getD 0 undef) λt72=>aQ .eql t72 (i64 4096) λt73=>J26 [t73] w24) λs26 _ w27=>cV t69 (s26.getD 0 undef) (.bool false) λt74=>aS t74 (J25 [(i64 3)] w27) (J25 [(s21.getD 0 undef)] w27)) λs25 _ w28=>aQ .neq (s25.getD 0 undef) (i64 0) λt76=>aS t76 (dJ [(i64 0),(str []),(i64 0)] [(0,1,(s25.getD 0 undef)),(2,1,t44)] λc29=>eW 53 (.agg c29.toArray) w28 λt80 w30=>K (.tuple #[sN,t80]) w30) (aZ 2 t10 λt82=>stW 1 t82 t44 w28 λw31=>ldW true 3 t10 w31 λt84=>dN 73 1 [(i64 0),(str []),(i64 0)] [(0,3,t84)] w31 λt85 w32=>dF P0 (Builtin.append_ #[64,64] 64 #[(s12.getD 0 undef),t85]) w32 λt86 w33=>aQ .add t44 (s21.getD 1 undef) λt89=>L12 [t86,t89] w33))))
theorem aC2{K:Q0}(h:W26 v0 w K):aC P0 26 [v0] w K:=
 tie _ 26 Tryz.f26 aBt _ w K 1 _ rfl mixed Tryz.func26 (by kernel_rfl) (by kernel_rfl) Tryz.call26 h
def aBk:cO:={js:=[(21,⟨[23],[],6⟩),(6,⟨[4],[],1⟩)],ds:=[]}
def W44(v0:Value)(w:World)(K:Q0):=cY [(i64 0)] w λs1 _ w2 L1=>iT v0 λt9=>aQ .lss (s1.getD 0 undef) t9 λt10=>aS t10 (mY v0 (some (s1.getD 0 undef)) none λt13=>qE v0 (s1.getD 0 undef) λt18=>aC P0 68 [(str [32,9,13]),t18] w2 λt19 w3=>aQ .geq t19 (i64 0) λt20=>aS t20 (aQ .add (s1.getD 0 undef) (i64 1) λt22=>L1 [t22] w3) (bU (λJ4=>qE v0 (s1.getD 0 undef) λt26=>aQ .eql t26 (.int .u8 35) λt27=>aS t27 (J4 [t27] w3) (aC P0 43 [t13,(str [47,47])] w3 λt29 w5=>J4 [t29] w5)) λs4 _ w6=>aS (s4.getD 0 undef) (aC P0 69 [t13,(.func (.func 70) #[] #[])] w6 λt32 w7=>aQ .add (s1.getD 0 undef) t32 λt33=>L1 [t33] w7) (aC P0 43 [t13,(str [47,42])] w6 λt36 w8=>aS t36 (mY t13 (some (i64 2)) none λt38=>aC P0 71 [t38,(str [42,47])] w8 λt39 w9=>aQ .lss t39 (i64 0) λt41=>aS t41 (K (.tuple #[(s1.getD 0 undef),(i64 40)]) w9) (aQ .add t39 (i64 4) λt45=>aQ .add (s1.getD 0 undef) t45 λt46=>L1 [t46] w9)) (K (.tuple #[(s1.getD 0 undef),(i64 0)]) w8)))) (K (.tuple #[(s1.getD 0 undef),(i64 0)]) w2)
theorem aCT{K:Q0}(h:W44 v0 w K):aC P0 44 [v0] w K:=
 tie _ 44 Tryz.f44 aBk _ w K 1 _ rfl mixed Tryz.func44 (by kernel_rfl) (by kernel_rfl) Tryz.call44 h
def aBj:cO:={js:=[(8,⟨[6,7],[3,4],6⟩),(38,⟨[43],[],8⟩),(43004,⟨[58],[],57⟩),(40006,⟨[52],[],49⟩)],ds:=[]}
def W45(v0:Value)(w:World)(K:Q0):=bQ 73 zL1 w λt2 w1=>bQ 73 zL1 w1 λt5 w2=>bU (λJ3=>qE v0 (i64 0) λt10=>aQ .eql t10 (.int .u8 10) λt21=>aS t21 (dJ [(i64 0),(str []),(i64 0)] [(0,1,(i64 5)),(1,1,(str [10]))] λc4=>stW 3 t2 (.agg c4.toArray) w2 λw5=>ldW true 3 t2 w5 λr6=>K (.tuple #[r6,(i64 1),(i64 0)]) w5) (aC P0 72 [t10] w2 λt25 w7=>aS t25 (aC P0 69 [v0,(.func (.func 73) #[] #[])] w7 λt27 w8=>mY v0 none (some t27) λt30=>dJ [(i64 0),(str []),(i64 0)] [(0,1,(i64 1)),(1,1,t30)] λc9=>stW 3 t5 (.agg c9.toArray) w8 λw10=>aQ .gtr t27 (i64 32) λt33=>aS t33 (J3 [(i64 3),t27] w10) (J3 [(i64 0),t27] w10)) (aC P0 74 [t10] w7 λt36 w11=>aS t36 (aC P0 69 [v0,(.func (.func 74) #[] #[])] w11 λt38 w12=>mY v0 none (some t38) λt41=>dJ [(i64 0),(str []),(i64 0)] [(0,1,(i64 2)),(1,1,t41)] λc13=>stW 3 t5 (.agg c13.toArray) w12 λw14=>bU (λJ15=>iT v0 λt46=>aQ .lss t38 t46 λt47=>GdW (isB t47 true) [undef] w14 (λJ16=>qE v0 t38 λt51=>aC P0 72 [t51] w14 λt52 w17=>J16 [t52] w17) λs16 _ w18=>cV t47 (s16.getD 0 undef) (.bool false) λt53=>aS t53 (J15 [t53] w18) (aQ .eql t10 (.int .u8 48) λt55=>GdW (isB t55 true) [undef] w18 (λJ19=>aQ .gtr t38 (i64 1) λt58=>J19 [t58] w18) λs19 _ w20=>cV t55 (s19.getD 0 undef) (.bool false) λt59=>J15 [t59] w20)) λs15 _ w21=>aS (s15.getD 0 undef) (J3 [(i64 40),t38] w21) (aZ 1 t5 λt61=>ldW false 1 t61 w21 λt62=>aC P0 75 [t62] w21 λt63 w22=>unW .not t63 λt64=>aS t64 (J3 [(i64 3),t38] w22) (J3 [(i64 0),t38] w22))) (aQ .eql t10 (.int .u8 34) λt67=>aS t67 (aC P0 76 [v0,(i64 0)] w11 λt70 w23=>dO 0 t70 λt71=>dO 1 t70 λt72=>aQ .eql t72 (i64 0) λt74=>aS t74 (aQ .sub t71 (i64 1) λt77=>mY v0 (some (i64 1)) (some t77) λt78=>dJ [(i64 0),(str []),(i64 0)] [(0,1,(i64 3)),(1,1,t78)] λc24=>stW 3 t5 (.agg c24.toArray) w23 λw25=>J3 [t72,t71] w25) (J3 [t72,t71] w23)) (aC P0 43 [v0,(str [60,60])] w11 λt82 w26=>aS t82 (aZ 0 t5 λt83=>stW 1 t83 (i64 3) w26 λw27=>aC P0 77 [v0] w27 λt86 w28=>dO 0 t86 λt87=>dO 1 t86 λt88=>dO 2 t86 λt89=>aZ 1 t5 λt90=>stW 1 t90 t87 w28 λw29=>J3 [t89,t88] w29) (aC P0 78 [v0] w26 λt12 w30=>dJ [(i64 0),(str []),(i64 0)] [(0,1,(i64 4)),(1,1,t12)] λc31=>stW 3 t5 (.agg c31.toArray) w30 λw32=>aZ 1 t5 λt14=>ldW false 1 t14 w32 λt15=>iT t15 λt16=>aQ .eql t16 (i64 0) λt18=>aS t18 (J3 [(i64 40),t16] w32) (J3 [(i64 0),t16] w32))))))) λs3 _ w33=>ldW true 3 t5 w33 λt91=>stW 3 t2 t91 w33 λw34=>ldW true 3 t2 w34 λr35=>K (.tuple #[r35,(s3.getD 1 undef),(s3.getD 0 undef)]) w34
theorem aCS{K:Q0}(h:W45 v0 w K):aC P0 45 [v0] w K:=
 tie _ 45 Tryz.f45 aBj _ w K 1 _ rfl mixed Tryz.func45 (by kernel_rfl) (by kernel_rfl) Tryz.call45 h
def aA3:cO:={js:=[(6,⟨[8],[4,5],8⟩)],ds:=[]}
def W69(v0 v1:Value)(w:World)(K:Q0):=iT v0 λt7=>cY [(i64 0)] w λs1 _ w2 L1=>aQ .lss (s1.getD 0 undef) t7 λt9=>aS t9 (qE v0 (s1.getD 0 undef) λt14=>pG P0 v1 [t14] w2 λt15 w3=>unW .not t15 λt16=>aS t16 (K (s1.getD 0 undef) w3) (aQ .add (s1.getD 0 undef) (i64 1) λt18=>L1 [t18] w3)) (iT v0 λt20=>K t20 w2)
theorem aCC{K:Q0}(h:W69 v0 v1 w K):aC P0 69 [v0,v1] w K:=
 tie _ 69 Tryz.f69 aA3 _ w K 2 _ rfl mixed Tryz.func69 (by kernel_rfl) (by kernel_rfl) Tryz.call69 h
def aA2:cO:={js:=[],ds:=[]}
def W70(v0:Value)(w:World)(K:Q0):=aQ .neq v0 (.int .u8 10) λt4=>K t4 w
theorem aCB{K:Q0}(h:W70 v0 w K):aC P0 70 [v0] w K:=
 tie _ 70 Tryz.f70 aA2 _ w K 1 _ rfl mixed Tryz.func70 (by kernel_rfl) (by kernel_rfl) Tryz.call70 h
def aA1:cO:={js:=[(3004,⟨[19],[],18⟩),(3007,⟨[15],[],10⟩),(3009,⟨[14],[],13⟩),(3012,⟨[12],[],10⟩),(3016,⟨[7],[],6⟩)],ds:=[]}
def W72(v0:Value)(w:World)(K:Q0):=aQ .geq v0 (.int .u8 97) λt4=>GdW (isB t4 true) [undef] w (λJ1=>aQ .leq v0 (.int .u8 122) λt7=>J1 [t7] w) λs1 _ w2=>cV t4 (s1.getD 0 undef) (.bool false) λt8=>GdW (isB t8 false) [undef] w2 (λJ3=>aQ .geq v0 (.int .u8 65) λt11=>J3 [t11] w2) λs3 _ w4=>GdW (isB (s3.getD 0 undef) true) [undef] w4 (λJ5=>aQ .leq v0 (.int .u8 90) λt14=>J5 [t14] w4) λs5 _ w6=>GdW (isB t8 false) [undef] w6 (λJ7=>cV (s3.getD 0 undef) (s5.getD 0 undef) (.bool false) λt15=>J7 [t15] w6) λs7 _ w8=>cV t8 (.bool true) (s7.getD 0 undef) λt16=>GdW (isB t16 false) [undef] w8 (λJ9=>aQ .eql v0 (.int .u8 95) λt19=>J9 [t19] w8) λs9 _ w10=>cV t16 (.bool true) (s9.getD 0 undef) λt20=>K t20 w10
theorem aCA{K:Q0}(h:W72 v0 w K):aC P0 72 [v0] w K:=
 tie _ 72 Tryz.f72 aA1 _ w K 1 _ rfl mixed Tryz.func72 (by kernel_rfl) (by kernel_rfl) Tryz.call72 h
def aA0:cO:={js:=[(3004,⟨[11],[],10⟩),(3008,⟨[7],[],6⟩)],ds:=[]}
def W73(v0:Value)(w:World)(K:Q0):=aC P0 72 [v0] w λt4 w1=>GdW (isB t4 false) [undef] w1 (λJ2=>aC P0 74 [v0] w1 λt7 w3=>J2 [t7] w3) λs2 _ w4=>cV t4 (.bool true) (s2.getD 0 undef) λt8=>GdW (isB t8 false) [undef] w4 (λJ5=>aQ .eql v0 (.int .u8 45) λt11=>J5 [t11] w4) λs5 _ w6=>cV t8 (.bool true) (s5.getD 0 undef) λt12=>K t12 w6
theorem aCz{K:Q0}(h:W73 v0 w K):aC P0 73 [v0] w K:=
 tie _ 73 Tryz.f73 aA0 _ w K 1 _ rfl mixed Tryz.func73 (by kernel_rfl) (by kernel_rfl) Tryz.call73 h
def aAZ:cO:={js:=[(3004,⟨[7],[],6⟩)],ds:=[]}
def W74(v0:Value)(w:World)(K:Q0):=aQ .geq v0 (.int .u8 48) λt4=>GdW (isB t4 true) [undef] w (λJ1=>aQ .leq v0 (.int .u8 57) λt7=>J1 [t7] w) λs1 _ w2=>cV t4 (s1.getD 0 undef) (.bool false) λt8=>K t8 w2
theorem aCy{K:Q0}(h:W74 v0 w K):aC P0 74 [v0] w K:=
 tie _ 74 Tryz.f74 aAZ _ w K 1 _ rfl mixed Tryz.func74 (by kernel_rfl) (by kernel_rfl) Tryz.call74 h
def aAX:cO:={js:=[(32007,⟨[43],[],38⟩),(6,⟨[6],[],2⟩)],ds:=[]}
def W76(v0 v1:Value)(w:World)(K:Q0):=cY [(i64 1)] w λs1 _ w2 L1=>iT v0 λt11=>aQ .lss (s1.getD 0 undef) t11 λt12=>aS t12 (qE v0 (s1.getD 0 undef) λt18=>aQ .eql t18 (.int .u8 34) λt19=>aS t19 (aQ .add (s1.getD 0 undef) (i64 1) λt21=>K (.tuple #[t21,(i64 0)]) w2) (qE v0 (s1.getD 0 undef) λt25=>aQ .eql t25 (.int .u8 10) λt26=>aS t26 (K (.tuple #[(i64 0),(i64 40)]) w2) (qE v0 (s1.getD 0 undef) λt30=>aQ .eql t30 (.int .u8 92) λt31=>aS t31 (aQ .add (s1.getD 0 undef) (i64 1) λt33=>iT v0 λt35=>aQ .geq t33 t35 λt36=>GdW (isB t36 false) [undef] w2 (λJ3=>aQ .add (s1.getD 0 undef) (i64 1) λt40=>qE v0 t40 λt41=>aC P0 68 [(str [34,92,110,116,114,36]),t41] w2 λt42 w4=>aQ .lss t42 (i64 0) λt43=>J3 [t43] w4) λs3 _ w5=>cV t36 (.bool true) (s3.getD 0 undef) λt44=>aS t44 (K (.tuple #[(i64 0),(i64 40)]) w5) (aQ .add (s1.getD 0 undef) (i64 2) λt46=>L1 [t46] w5)) (mY v0 (some (s1.getD 0 undef)) none λt50=>aC P0 43 [t50,(str [36,123])] w2 λt51 w6=>aS t51 (aQ .add (s1.getD 0 undef) (i64 1) λt55=>mY v0 (some t55) none λt56=>aQ .add v1 (i64 1) λt58=>aC P0 108 [t56,t58] w6 λt59 w7=>dO 0 t59 λt60=>dO 1 t59 λt61=>aQ .neq t61 (i64 0) λt63=>aS t63 (K (.tuple #[(i64 0),t61]) w7) (aQ .add t60 (i64 1) λt67=>aQ .add (s1.getD 0 undef) t67 λt68=>L1 [t68] w7)) (aQ .add (s1.getD 0 undef) (i64 1) λt14=>L1 [t14] w6))))) (K (.tuple #[(i64 0),(i64 40)]) w2)
theorem aCw{K:Q0}(h:W76 v0 v1 w K):aC P0 76 [v0,v1] w K:=
 tie _ 76 Tryz.f76 aAX _ w K 2 _ rfl mixed Tryz.func76 (by kernel_rfl) (by kernel_rfl) Tryz.call76 h
def aAW:cO:={js:=[(61,⟨[13],[13],68⟩),(65,⟨[72],[],72⟩),(51,⟨[],[13],68⟩),(27,⟨[7],[2,3,4,7],9⟩),(16005,⟨[43],[],40⟩),(16011,⟨[37],[],34⟩),(4,⟨[5],[],1⟩),(6004,⟨[20],[],18⟩)],ds:=[]}
def W77(v0:Value)(w:World)(K:Q0):=bU (λJ1=>iT v0 λt15=>aQ .gtr t15 (i64 2) λt16=>GdW (isB t16 true) [undef] w (λJ2=>qE v0 (i64 2) λt19=>aC P0 72 [t19] w λt20 w3=>J2 [t20] w3) λs2 _ w4=>cV t16 (s2.getD 0 undef) (.bool false) λt21=>aS t21 (mY v0 (some (i64 2)) none λt23=>aC P0 69 [t23,(.func (.func 109) #[] #[])] w4 λt24 w5=>J1 [t24] w5) (J1 [(i64 0)] w4)) λs1 _ w6=>aQ .add (i64 2) (s1.getD 0 undef) λt27=>mY v0 (some (i64 2)) (some t27) λt28=>aQ .add (i64 2) (s1.getD 0 undef) λt30=>aQ .eql (s1.getD 0 undef) (i64 0) λt32=>GdW (isB t32 false) [undef] w6 (λJ7=>iT v0 λt36=>aQ .geq t30 t36 λt37=>J7 [t37] w6) λs7 _ w8=>cV t32 (.bool true) (s7.getD 0 undef) λt38=>GdW (isB t38 false) [undef] w8 (λJ9=>qE v0 t30 λt42=>aQ .neq t42 (.int .u8 10) λt43=>J9 [t43] w8) λs9 _ w10=>cV t38 (.bool true) (s9.getD 0 undef) λt44=>aS t44 (K (.tuple #[(str []),(i64 0),(i64 40)]) w10) (aQ .add t30 (i64 1) λt46=>bQ 116 [(.pointer none),sN] w10 λt8 w11=>cY [t46] w11 λs12 _ w13 L12=>mY v0 (some (s12.getD 0 undef)) none λt50=>aC P0 110 [t50,(str [10])] w13 λt51 w14=>dO 0 t51 λt52=>dO 1 t51 λt53=>dO 2 t51 λt54=>aC P0 111 [t52,(str [32,9])] w14 λt56 w15=>aQ .eql t56 t28 λt58=>aS t58 (aC P0 64 [t8] w15 λt59 w16=>iT t52 λt62=>aQ .add (s12.getD 0 undef) t62 λt63=>K (.tuple #[t59,t63,(i64 0)]) w16) (unW .not t54 λt65=>aS t65 (K (.tuple #[(str []),(i64 0),(i64 40)]) w15) (dF P0 (Instr.range 9 t52) w15 λt67 w17=>cY [] w17 λs18 _ w19 L18=>dF P0 (Instr.next t67 true 0) w19 λt68 w20=>dO 0 t68 λt69=>aS t69 (dO 2 t68 λt70=>bU (λJ21=>bU (λJ22=>aQ .eql t70 (.int .i32 92) λt73=>aS t73 (J22 [t73] w20) (aQ .eql t70 (.int .i32 34) λt74=>aS t74 (J22 [t74] w20) (aQ .eql t70 (.int .i32 36) λt75=>J22 [t75] w20))) λs22 _ w23=>aS (s22.getD 0 undef) (aC P0 62 [t8,(.int .u8 92)] w23 λt76 w24=>J21 [t70] w24) (aQ .eql t70 (.int .i32 9) λt78=>aS t78 (aC P0 62 [t8,(.int .u8 92)] w23 λt79 w25=>J21 [(.int .i32 116)] w25) (aQ .eql t70 (.int .i32 13) λt81=>aS t81 (aC P0 62 [t8,(.int .u8 92)] w23 λt82 w26=>J21 [(.int .i32 114)] w26) (J21 [t70] w23)))) λs21 _ w27=>aC P0 63 [t8,(s21.getD 0 undef)] w27 λt84 w28=>L18 [] w28) (aC P0 66 [t8,(str [92,110])] w20 λt85 w29=>iT t52 λt88=>aQ .add t88 (i64 1) λt89=>aQ .add (s12.getD 0 undef) t89 λt90=>L12 [t90] w29))))
theorem aCv{K:Q0}(h:W77 v0 w K):aC P0 77 [v0] w K:=
 tie _ 77 Tryz.f77 aAW _ w K 1 _ rfl mixed Tryz.func77 (by kernel_rfl) (by kernel_rfl) Tryz.call77 h
def aAV:cO:={js:=[(2,⟨[],[],1⟩),(9,⟨[8],[],1⟩)],ds:=[]}
def W78(v0:Value)(w:World)(K:Q0):=bU (λJ1=>iT v0 λt4=>aQ .gtr t4 (i64 1) λt5=>aS t5 (mY v0 none (some (i64 2)) λt7=>bU (λJ2=>aQ .eql t7 (str [61,61]) λt9=>aS t9 (J2 [t9] w) (aQ .eql t7 (str [33,61]) λt10=>aS t10 (J2 [t10] w) (aQ .eql t7 (str [60,61]) λt11=>aS t11 (J2 [t11] w) (aQ .eql t7 (str [62,61]) λt12=>aS t12 (J2 [t12] w) (aQ .eql t7 (str [38,38]) λt13=>aS t13 (J2 [t13] w) (aQ .eql t7 (str [124,124]) λt14=>J2 [t14] w)))))) λs2 _ w3=>aS (s2.getD 0 undef) (mY v0 none (some (i64 2)) λt16=>K t16 w3) (J1 [] w3)) (J1 [] w)) λs1 _ w4=>qE v0 (i64 0) λt18=>aC P0 68 [(str [123,125,91,93,40,41,61,43,45,42,47,37,60,62,33,63,58,44,46]),t18] w4 λt19 w5=>aQ .geq t19 (i64 0) λt20=>aS t20 (mY v0 none (some (i64 1)) λt22=>K t22 w5) (K (str []) w5)
theorem aCu{K:Q0}(h:W78 v0 w K):aC P0 78 [v0] w K:=
 tie _ 78 Tryz.f78 aAV _ w K 1 _ rfl mixed Tryz.func78 (by kernel_rfl) (by kernel_rfl) Tryz.call78 h
def Wi:cO:={js:=[(24,⟨[7,8],[4,5],7⟩),(14,⟨[6],[],2⟩)],ds:=[]}
def aFw(v0 v1:Value)(w:World)(K:Q0):=aQ .gtr v1 (i64 24) λt10=>aS t10 (K (.tuple #[(i64 0),(i64 7)]) w) (cY [(i64 1)] w λs1 _ w2 L1=>iT v0 λt13=>aQ .lss (s1.getD 0 undef) t13 λt14=>aS t14 (bU (λJ3=>qE v0 (s1.getD 0 undef) λt17=>aQ .eql t17 (.int .u8 125) λt19=>aS t19 (aQ .add (s1.getD 0 undef) (i64 1) λt21=>K (.tuple #[t21,(i64 0)]) w2) (aQ .eql t17 (.int .u8 10) λt23=>aS t23 (K (.tuple #[(i64 0),(i64 40)]) w2) (aQ .eql t17 (.int .u8 123) λt25=>aS t25 (mY v0 (some (s1.getD 0 undef)) none λt29=>aQ .add v1 (i64 1) λt31=>aC P0 108 [t29,t31] w2 λt32 w4=>dO 0 t32 λt33=>dO 1 t32 λt34=>J3 [t33,t34] w4) (aQ .eql t17 (.int .u8 34) λt36=>aS t36 (mY v0 (some (s1.getD 0 undef)) none λt40=>aC P0 76 [t40,v1] w2 λt42 w5=>dO 0 t42 λt43=>dO 1 t42 λt44=>J3 [t43,t44] w5) (J3 [(i64 1),(i64 0)] w2))))) λs3 _ w6=>aQ .neq (s3.getD 1 undef) (i64 0) λt46=>aS t46 (K (.tuple #[(i64 0),(s3.getD 1 undef)]) w6) (aQ .add (s1.getD 0 undef) (s3.getD 0 undef) λt50=>L1 [t50] w6)) (K (.tuple #[(i64 0),(i64 40)]) w2))
theorem Zq{K:Q0}(h:aFw v0 v1 w K):aC P0 108 [v0,v1] w K:=
 tie _ 108 Tryz.f108 Wi _ w K 2 _ rfl mixed Tryz.func108 (by kernel_rfl) (by kernel_rfl) Tryz.call108 h
def Wh:cO:={js:=[(3004,⟨[11],[],10⟩),(3008,⟨[7],[],6⟩)],ds:=[]}
def aFv(v0:Value)(w:World)(K:Q0):=aC P0 72 [v0] w λt4 w1=>GdW (isB t4 false) [undef] w1 (λJ2=>aC P0 74 [v0] w1 λt7 w3=>J2 [t7] w3) λs2 _ w4=>cV t4 (.bool true) (s2.getD 0 undef) λt8=>GdW (isB t8 false) [undef] w4 (λJ5=>aQ .eql v0 (.int .u8 45) λt11=>J5 [t11] w4) λs5 _ w6=>cV t8 (.bool true) (s5.getD 0 undef) λt12=>K t12 w6
theorem Zp{K:Q0}(h:aFv v0 w K):aC P0 109 [v0] w K:=
 tie _ 109 Tryz.f109 Wh _ w K 1 _ rfl mixed Tryz.func109 (by kernel_rfl) (by kernel_rfl) Tryz.call109 h
end
section
open Go Go.Eng
variable{w:World}{K:Q0}{cs:List Value}{G:Nat->Prop}{T:TypeId}{i:Nat}{n:Nat}{v:Value}{w':World}{P:Program}{c:UInt8}{S:Nat->Prop}{v0 v1 v2 v3 v4 v5:Value}
variable [HX]
def Mn:cO:={js:=[(30,⟨[],[],6⟩),(34003,⟨[40],[],39⟩),(20,⟨[],[],6⟩)],ds:=[(29,⟨[0,1,2,6],[[],[0],[],[2],[2,3],[0,1,2,3,4],[0,1,2,3,4,5],[0,1,2,3,4,5,6]]⟩),(9,⟨[0,1],[[],[],[0],[0,1,2]]⟩)]}
def W10(v0:Value)(w:World)(K:Q0):=
 bQ 32 [sN,sN,sN] w λt2 w1=>
 bQ 33 [(.pointer none)] w1 λt3 w2=>
 aC P0 26 [v0] w2 λt9 w3=>
 dO 0 t9 λt10=>
 dO 1 t9 λt11=>
 stW 1 t3 t11 w3 λw4=>
 ldW false 1 t3 w4 λt12=>
 eqW .ptr true t12 (.pointer none) λt13=>
 aS t13 (
 dJ [sN,sN,sN] [] λc5=>
 ldW false 1 t3 w4.drew λt15=>
 stW 3 t2 (.agg c5.toArray) w4.drew λw6=>
 (ldW false 1 t3 w6 λx=>x=t15)/\
 stW 1 t3 t15 w6 λw7=>
 ldW true 3 t2 w7 λr8=>
 ldW false 1 t3 w7 λr9=>
 K (.tuple #[r8,r9]) w7) (
 letI:HX:=⟨λch x10=>yF P0 27 [t2,t3] (.panicking ch) x10 λw10=>
 ldW true 3 t2 w10 λr11=>
 ldW false 1 t3 w10 λr12=>
 K (.tuple #[r11,r12]) w10⟩
 dJ [sN,(i64 0),(i64 0),(.pointer none),(i64 0),(.bool false)] [(0,1,t10),(3,1,t2)] λc13=>
 eW 70 (.agg c13.toArray) w4 λt19 w14=>
 aC P0 28 [t19] w14 λt21 w15=>
 cY [] w15 λs16 _ w17 L16=>
 aC P0 29 [t19] w17 λt23 w18=>
 lT false 0 1 t23 λt24=>
 aQ .neq t24 (i64 0) λt25=>
 aS t25 (
 aZ 2 t2 λt26=>
 ldW false 1 t26 w18.drew λt27=>
 aC P0 30 [t19] w18.drew λt29 w19=>
 (ldW false 1 t26 w19 λx=>x=t27)/\
 dN 3 1 [(i64 0)] [(0,1,t29)] w19 λt30 w20=>
 (ldW false 1 t26 w20 λx=>x=t27)/\
 dF P0 (Builtin.append_ #[30,30] 30 #[t27,t30]) w20 λt31 w21=>
 aZ 2 t2 λt32=>
 stW 1 t32 t31 w21 λw22=>
 bU (λJ23=>
 aC P0 29 [t19] w22 λt34 w24=>
 lT false 0 1 t34 λt35=>
 aQ .neq t35 (i64 5) λt37=>
 GdW (isB t37 true) [undef] w24 (λJ25=>
 aQ .neq t35 (i64 0) λt40=>
 J25 [t40] w24)
 λs25 _ w26=>
 cV t37 (s25.getD 0 undef) (.bool false) λt41=>
 aS t41 (
 aC P0 29 [t19] w26 λt43 w27=>
 lT false 2 1 t43 λt44=>
 aC P0 31 [(i64 50),t44] w27 λt45 w28=>
 J23 [] w28) (
 J23 [] w26))
 λs23 _ w29=>
 aC P0 28 [t19] w29 λt47 w30=>
 L16 [] w30) (
 ldW true 3 t2 w18 λt48=>
 stW 3 t2 t48 w18 λw31=>
 stW 1 t3 (.pointer none) w31 λw32=>
 yF P0 27 [t2,t3] .returning w32 λw33=>
 ldW true 3 t2 w33 λr34=>
 ldW false 1 t3 w33 λr35=>
 K (.tuple #[r34,r35]) w33))
theorem aDi(v0:Value)(w:World)(K:Q0):SE P0 Tryz.f10 Mn 3 [v0] w (Gr K)=W10 v0 w K:=by kernel_rfl
theorem Zo:BR P0 Tryz.f10 Mn 4 27 3 1=true:=by kernel_rfl
theorem aDh{K:Q0}(h:W10 v0 w K):aC P0 10 [v0] w K:=
 aDw P0 10 Tryz.f10 Mn [v0] w K 4 27 3 1 (W10 v0 w K) rfl mixed Tryz.func10 Zo (aDi v0 w K) Tryz.call10 Tryz.call27 h
def Rr:cO:={js:=[],ds:=[(5,⟨[0,1,2],[[],[],[1],[0],[0,1,2,3]]⟩)]}
def R27(v0 v1:Value)(x:Value)(w:World)(K:World->Prop):Prop:=
 letI:HX:=noX
 eqQ P0 .neq 20 false true x .nilIface w λt5=>
 aS t5 (
 dJ [sN,sN,sN] [] λc1=>
 nZ P0 (Instr.typeAssert x 20 33 false) w.drew λt8=>
 stW 3 v0 (.agg c1.toArray) w.drew λw2=>
 (nZ P0 (Instr.typeAssert x 20 33 false) w2 λx=>x=t8)/\
 stW 1 v1 t8 w2 λw3=>
 K w3) (
 K w)
theorem aDk(v0 v1:Value)(x:Value)(w:World)(K:World->Prop):Xf P0 Tryz.f27 Rr [v0,v1] x w K=R27 v0 v1 x w K:=by kernel_rfl
theorem Zx:DU P0 Tryz.f27 Rr 2=true:=by kernel_rfl
theorem TF{v0 v1:Value}{x:Value}{u:FrameMode}{K:World->Prop}(j:Finds u x)(h:R27 v0 v1 x w K):yF P0 27 [v0,v1] u w K:=
 Fv (args:=[v0,v1]) mixed Tryz.func27 Zx j (by rw[aDk];exact h)
def aBs:cO:={js:=[(1,⟨[],[],1⟩)],ds:=[]}
def W28(v0:Value)(w:World)(K:Q0):=cY [] w λs1 _ w2 L1=>aC P0 29 [v0] w2 λt3 w3=>lT false 0 1 t3 λt4=>aQ .eql t4 (i64 5) λt5=>aS t5 (eF v0 λt7=>aZ 1 t7 λt8=>ldW false 1 t8 w3 λt9=>aQ .add t9 (i64 1) λt10=>eF v0 λt11=>aZ 1 t11 λt12=>stW 1 t12 t10 w3 λw4=>L1 [] w4) (K (.tuple #[]) w3)
theorem aC1{K:Q0}(h:W28 v0 w K):aC P0 28 [v0] w K:=
 tie _ 28 Tryz.f28 aBs _ w K 1 _ rfl mixed Tryz.func28 (by kernel_rfl) (by kernel_rfl) Tryz.call28 h
def aBr:cO:={js:=[(4,⟨[],[],3⟩)],ds:=[(16,⟨[0,1,2,3,4,5,6,7],[[],[0],[],[2],[2,3],[2,3,4],[0,1,2,3,4,5],[0,1,2,3,4,5,6],[0,1,2,3,4,5,6,7]]⟩),(14,⟨[0,1,2,3,4,5,6,7,8,9],[[],[0],[0,1],[0,1,2],[],[4],[4,5],[4,5,6],[0,1,2,3,4,5,6,7],[0,1,2,3,4,5,6,7,8],[],[0,1,2,3,4,5,6,7,8,9,10]]⟩),(7,⟨[0,1,2,3,4,5,6,7,8,9,10,11,12,13,14,15,16,17],[[],[0],[0,1],[0,1,2],[0,1,2,3],[0,1,2,3,4],[0,1,2,3,4,5],[0,1,2,3,4,5,6],[0,1,2,3,4,5,6,7],[0,1,2,3,4],[0,1,2,3,4,9],[0,1,2,3,4,9,10],[0,1,2,3,4,9,10,11],[0,1,2,3,4,5,6,7,8,9,10,11,12],[0,1,2,3,4,5,6,7,8,9,10,11,12,13],[0,1,2,3,4,5,6,7,8,9,10,11,12,13,14],[0,1,2,3,4,5,6,7,8,9,10,11,12,13,14,15],[0,1,2,3,4,5,6,7,8,9,10,11,12,13,14,15,16]]⟩)]}
def W29(v0:Value)(w:World)(K:Q0):=bQ 73 zL1 w λt2 w1=>cY [] w1 λs2 _ w3 L2=>eF v0 λt5=>aZ 5 t5 λt6=>ldW false 1 t6 w3.drew λt7=>GqW (isB t7 true) (λk4=>k4 v0) λt9=>GqW (isB t7 true) (λk5=>eF t9 k5) λt10=>GqW (isB t7 true) (λk6=>aZ 0 t10 k6) λt11=>GqW (isB t7 true) (λk7=>ldW false 1 t11 w3.drew k7) λt12=>GqW (isB t7 true) (λk8=>k8 v0) λt13=>GqW (isB t7 true) (λk9=>eF t13 k9) λt14=>GqW (isB t7 true) (λk10=>aZ 1 t14 k10) λt15=>GqW (isB t7 true) (λk11=>ldW false 1 t15 w3.drew k11) λt16=>GqW (isB t7 true) (λk12=>dP none 3 t12 t16 k12) λt17=>GqW (isB t7 true) (λk13=>aZ 0 t17 k13) λt18=>GqW (isB t7 true) (λk14=>ldW false 1 t18 w3.drew k14) λt19=>GqW (isB t7 true) (λk15=>aQ .eql t19 (i64 5) k15) λt20=>cV t7 t20 (.bool false) λt21=>aS t21 (eF v0 λt23=>aZ 1 t23 λt24=>ldW false 1 t24 w3.drew λt25=>aQ .add t25 (i64 1) λt26=>eF v0 λt27=>aZ 1 t27 λt28=>stW 1 t28 t26 w3.drew λw16=>L2 [] w16) (eF v0 λt30=>aZ 0 t30 λt31=>ldW false 1 t31 w3.drew.drew λt32=>eF v0 λt34=>aZ 1 t34 λt35=>ldW false 1 t35 w3.drew.drew λt36=>dP none 3 t32 t36 λt37=>ldW true 3 t37 w3.drew.drew λt38=>bQ 73 zL1 w3.drew.drew λt3 w17=>(ldW true 3 t37 w17 λx=>x=t38)/\(ldW false 1 t35 w17 λx=>x=t36)/\(ldW false 1 t31 w17 λx=>x=t32)/\stW 3 t3 t38 w17 λw18=>aZ 2 t3 λt39=>ldW false 1 t39 w18.drew λt40=>eF v0 λt42=>aZ 2 t42 λt43=>ldW false 1 t43 w18.drew λt44=>aQ .add t40 t44 λt45=>aZ 2 t3 λt46=>stW 1 t46 t45 w18.drew λw19=>ldW true 3 t3 w19 λt47=>stW 3 t2 t47 w19 λw20=>ldW true 3 t2 w20 λr21=>K r21 w20)
theorem aC0{K:Q0}(h:W29 v0 w K):aC P0 29 [v0] w K:=
 tie _ 29 Tryz.f29 aBr _ w K 1 _ rfl mixed Tryz.func29 (by kernel_rfl) (by kernel_rfl) Tryz.call29 h
def aBq:cO:={js:=[(19,⟨[],[],6⟩),(8,⟨[],[],5⟩)],ds:=[(28,⟨[0,1,2,3,4,5,6,7,8,9,10,11,14,15],[[],[0],[0,1],[0,1,2],[],[4],[4,5],[4,5,6],[4,5,6,7],[4,5,6,7,8],[4,5,6,7,8,9],[],[11],[4,5,6,7,8,9,10,11,12],[0,1,2,3,4,5,6,7,8,9,10,11,12,13],[0,1,2,3,4,5,6,7,8,9,10,11,12,13,14],[0,1,2,3,4,5,6,7,8,9,10,11,12,13,14,15]]⟩),(16,⟨[0,1,2,3,8],[[],[0],[],[],[3],[2,3,4],[2,3,4,5],[0,1,2,3,4,5,6],[0,1,2,3,4,5,6,7],[0,1,2,3,4,5,6,7,8]]⟩)]}
def W30(v0:Value)(w:World)(K:Q0):=eW 67 v0 w λt1 w1=>ldW false 1 t1 w1 λt6=>aC P0 46 [t6,(i64 1)] w1 λt7 w2=>bQ 73 zL1 w2 λt3 w3=>stW 3 t3 t7 w3 λw4=>aZ 1 t3 λt8=>ldW false 1 t8 w4 λt9=>aZ 2 t3 λt10=>ldW false 1 t10 w4 λt11=>dJ [(str []),sN,sN,sN,(i64 0)] [(0,1,t9),(4,1,t11)] λc5=>bQ 86 [(str []),sN,sN,sN,(i64 0)] w4 λt4 w6=>stW 5 t4 (.agg c5.toArray) w6 λw7=>cY [] w7 λs8 _ w9 L8=>ldW false 1 t1 w9 λt13=>aC P0 29 [t13] w9 λt14 w10=>lT false 0 1 t14 λt15=>aQ .eql t15 (i64 3) λt16=>aS t16 (aZ 1 t4 λt17=>ldW false 1 t17 w10.drew λt18=>ldW false 1 t1 w10.drew λt19=>ldW false 1 t1 w10.drew λt20=>aC P0 48 [t20] w10.drew λt21 w11=>(ldW false 1 t1 w11 λx=>x=t19)/\(ldW false 1 t17 w11 λx=>x=t18)/\aC P0 47 [t19,t21] w11 λt22 w12=>(ldW false 1 t17 w12 λx=>x=t18)/\dN 9 1 [(str [])] [(0,1,t22)] w12 λt23 w13=>(ldW false 1 t17 w13 λx=>x=t18)/\dF P0 (Builtin.append_ #[24,24] 24 #[t18,t23]) w13 λt24 w14=>aZ 1 t4 λt25=>stW 1 t25 t24 w14 λw15=>L8 [] w15) (ldW false 1 t1 w10 λt26=>aC P0 29 [t26] w10 λt27 w16=>bQ 73 zL1 w16 λt5 w17=>stW 3 t5 t27 w17 λw18=>bU (λJ19=>ldW false 1 t1 w18 λt28=>dN 9 1 [(str [])] [(0,1,(str [123]))] w18 λt29 w20=>aC P0 49 [t28,t29] w20 λt30 w21=>unW .not t30 λt31=>aS t31 (aZ 2 t5 λt32=>ldW false 1 t32 w21 λt33=>aC P0 31 [(i64 50),t33] w21 λt34 w22=>J19 [] w22) (J19 [] w21)) λs19 _ w23=>ldW false 1 t1 w23 λt35=>aZ 2 t5 λt36=>ldW false 1 t36 w23 λt37=>aC P0 50 [t35,t37,(.bool false),(.func (.func 51) #[] #[t1,t4])] w23 λt39 w24=>ldW false 1 t1 w24.drew λt40=>eF t40 λt41=>aZ 3 t41 λt42=>ldW false 1 t42 w24.drew λt43=>ldW false 1 t1 w24.drew λt44=>eF t44 λt45=>aZ 3 t45 λt46=>ldW false 1 t46 w24.drew λt47=>eF t47 λt48=>aZ 1 t48 λt49=>ldW false 1 t49 w24.drew λt50=>ldW true 5 t4 w24.drew λt51=>dN 86 1 [(str []),sN,sN,sN,(i64 0)] [(0,5,t51)] w24.drew λt52 w25=>(ldW false 1 t49 w25 λx=>x=t50)/\(ldW false 1 t46 w25 λx=>x=t47)/\(ldW false 1 t1 w25 λx=>x=t44)/\(ldW false 1 t42 w25 λx=>x=t43)/\(ldW false 1 t1 w25 λx=>x=t40)/\dF P0 (Builtin.append_ #[29,29] 29 #[t50,t52]) w25 λt53 w26=>(ldW false 1 t42 w26 λx=>x=t43)/\(ldW false 1 t1 w26 λx=>x=t40)/\eF t43 λt54=>aZ 1 t54 λt55=>stW 1 t55 t53 w26 λw27=>ldW false 1 t1 w27 λt56=>eF t56 λt57=>aZ 3 t57 λt58=>ldW false 1 t58 w27 λt59=>eF t59 λt60=>aZ 1 t60 λt61=>ldW false 1 t61 w27 λt62=>dA t62 λt63=>aQ .sub t63 (i64 1) λt64=>K t64 w27)
theorem aCZ{K:Q0}(h:W30 v0 w K):aC P0 30 [v0] w K:=
 tie _ 30 Tryz.f30 aBq _ w K 1 _ rfl mixed Tryz.func30 (by kernel_rfl) (by kernel_rfl) Tryz.call30 h
def aBp:cO:={js:=[],ds:=[]}
def W31(v0 v1:Value)(w:World)(K:Q0):=dJ [(i64 0),(str []),(i64 0)] [(0,1,v0),(2,1,v1)] λc1=>eW 53 (.agg c1.toArray) w λt7 w2=>Pd (.iface 33 t7) w2
theorem aCY{K:Q0}(h:W31 v0 v1 w K):aC P0 31 [v0,v1] w K:=
 tie _ 31 Tryz.f31 aBp _ w K 2 _ rfl mixed Tryz.func31 (by kernel_rfl) (by kernel_rfl) Tryz.call31 h
def aBi:cO:={js:=[(2,⟨[],[],5⟩)],ds:=[]}
def W46(v0 v1:Value)(w:World)(K:Q0):=bQ 73 zL1 w λt4 w1=>bU (λJ2=>aC P0 29 [v0] w1 λt6 w3=>lT false 0 1 t6 λt7=>aQ .neq t7 v1 λt9=>aS t9 (aC P0 29 [v0] w3 λt11 w4=>lT false 2 1 t11 λt12=>aC P0 31 [(i64 50),t12] w4 λt13 w5=>J2 [] w5) (J2 [] w3)) λs2 _ w6=>aC P0 48 [v0] w6 λt15 w7=>stW 3 t4 t15 w7 λw8=>ldW true 3 t4 w8 λr9=>K r9 w8
theorem aCR{K:Q0}(h:W46 v0 v1 w K):aC P0 46 [v0,v1] w K:=
 tie _ 46 Tryz.f46 aBi _ w K 2 _ rfl mixed Tryz.func46 (by kernel_rfl) (by kernel_rfl) Tryz.call46 h
def aBh:cO:={js:=[(2,⟨[],[],4⟩)],ds:=[]}
def W47(v0 v1:Value)(w:World)(K:Q0):=eW 73 v1 w λt3 w1=>bU (λJ2=>aZ 1 t3 λt8=>ldW false 1 t8 w1 λt9=>aC P0 79 [t9] w1 λt10 w3=>dO 0 t10 λt11=>dO 1 t10 λt12=>aQ .geq t11 (i64 0) λt14=>aS t14 (aZ 2 t3 λt15=>ldW false 1 t15 w3 λt16=>aC P0 31 [(i64 50),t16] w3 λt17 w4=>J2 [] w4) (J2 [] w3)) λs2 _ w5=>aZ 1 t3 λt18=>ldW false 1 t18 w5 λt19=>aC P0 80 [t19] w5 λt20 w6=>K t20 w6
theorem aCQ{K:Q0}(h:W47 v0 v1 w K):aC P0 47 [v0,v1] w K:=
 tie _ 47 Tryz.f47 aBh _ w K 2 _ rfl mixed Tryz.func47 (by kernel_rfl) (by kernel_rfl) Tryz.call47 h
def aBg:cO:={js:=[(4,⟨[],[],4⟩)],ds:=[]}
def W48(v0:Value)(w:World)(K:Q0):=bQ 73 zL1 w λt2 w1=>aC P0 29 [v0] w1 λt5 w2=>bQ 73 zL1 w2 λt3 w3=>stW 3 t3 t5 w3 λw4=>bU (λJ5=>aZ 0 t3 λt6=>ldW false 1 t6 w4 λt7=>aQ .neq t7 (i64 0) λt8=>aS t8 (eF v0 λt10=>aZ 1 t10 λt11=>ldW false 1 t11 w4 λt12=>aQ .add t12 (i64 1) λt13=>eF v0 λt14=>aZ 1 t14 λt15=>stW 1 t15 t13 w4 λw6=>J5 [] w6) (J5 [] w4)) λs5 _ w7=>ldW true 3 t3 w7 λt16=>stW 3 t2 t16 w7 λw8=>ldW true 3 t2 w8 λr9=>K r9 w8
theorem aCP{K:Q0}(h:W48 v0 w K):aC P0 48 [v0] w K:=
 tie _ 48 Tryz.f48 aBg _ w K 1 _ rfl mixed Tryz.func48 (by kernel_rfl) (by kernel_rfl) Tryz.call48 h
def aBf:cO:={js:=[(5006,⟨[15],[],12⟩)],ds:=[]}
def W49(v0 v1:Value)(w:World)(K:Q0):=aC P0 29 [v0] w λt7 w1=>bQ 73 zL1 w1 λt5 w2=>stW 3 t5 t7 w2 λw3=>aZ 0 t5 λt8=>ldW false 1 t8 w3 λt9=>aQ .eql t9 (i64 4) λt10=>GdW (isB t10 true) [undef] w3 (λJ4=>aZ 1 t5 λt13=>ldW false 1 t13 w3 λt14=>aC P0 81 [v1,t14] w3 λt15 w5=>J4 [t15] w5) λs4 _ w6=>cV t10 (s4.getD 0 undef) (.bool false) λt16=>K t16 w6
theorem aCO{K:Q0}(h:W49 v0 v1 w K):aC P0 49 [v0,v1] w K:=
 tie _ 49 Tryz.f49 aBf _ w K 2 _ rfl mixed Tryz.func49 (by kernel_rfl) (by kernel_rfl) Tryz.call49 h
def aBe:cO:={js:=[(0,⟨[],[],4⟩)],ds:=[]}
def W50(v0 v1 v2 v3:Value)(w:World)(K:Q0):=bU (λJ1=>eF v0 λt10=>aZ 4 t10 λt11=>ldW false 1 t11 w λt12=>aQ .eql t12 (i64 24) λt13=>aS t13 (aC P0 31 [(i64 7),v1] w λt15 w2=>J1 [] w2) (J1 [] w)) λs1 _ w3=>eF v0 λt17=>aZ 5 t17 λt18=>ldW false 1 t18 w3 λt19=>eF v0 λt21=>aZ 4 t21 λt22=>ldW false 1 t22 w3 λt23=>aQ .add t23 (i64 1) λt24=>eF v0 λt25=>aZ 4 t25 λt26=>stW 1 t26 t24 w3 λw4=>eF v0 λt29=>aZ 5 t29 λt30=>stW 1 t30 v2 w4 λw5=>pG P0 v3 [] w5 λt32 w6=>eF v0 λt34=>aZ 4 t34 λt35=>ldW false 1 t35 w6 λt36=>aQ .sub t36 (i64 1) λt37=>eF v0 λt38=>aZ 4 t38 λt39=>stW 1 t39 t37 w6 λw7=>eF v0 λt42=>aZ 5 t42 λt43=>stW 1 t43 t19 w7 λw8=>K (.tuple #[]) w8
theorem aCN{K:Q0}(h:W50 v0 v1 v2 v3 w K):aC P0 50 [v0,v1,v2,v3] w K:=
 tie _ 50 Tryz.f50 aBe _ w K 4 _ rfl mixed Tryz.func50 (by kernel_rfl) (by kernel_rfl) Tryz.call50 h
def aBd:cO:={js:=[(15,⟨[],[],2⟩),(17005,⟨[24],[],21⟩),(5,⟨[],[],2⟩)],ds:=[]}
def W51(v0 v1:Value)(w:World)(K:Q0):=ldW false 1 v0 w λt2=>eF t2 λt3=>aZ 1 t3 λt4=>ldW false 1 t4 w λt5=>aQ .add t5 (i64 1) λt6=>eF t2 λt7=>aZ 1 t7 λt8=>stW 1 t8 t6 w λw1=>ldW false 1 v0 w1 λt9=>aC P0 28 [t9] w1 λt10 w2=>cY [] w2 λs3 _ w4 L3=>ldW false 1 v0 w4 λt11=>aC P0 52 [t11,(str [125])] w4 λt12 w5=>unW .not t12 λt13=>aS t13 (ldW false 1 v0 w5 λt14=>aC P0 53 [t14,v1] w5 λt15 w6=>bU (λJ7=>ldW false 1 v0 w6 λt16=>aC P0 29 [t16] w6 λt17 w8=>lT false 0 1 t17 λt18=>aQ .neq t18 (i64 5) λt19=>GdW (isB t19 true) [undef] w8 (λJ9=>ldW false 1 v0 w8 λt21=>dN 9 1 [(str [])] [(0,1,(str [125]))] w8 λt22 w10=>aC P0 49 [t21,t22] w10 λt23 w11=>unW .not t23 λt24=>J9 [t24] w11) λs9 _ w12=>cV t19 (s9.getD 0 undef) (.bool false) λt25=>aS t25 (ldW false 1 v0 w12 λt26=>aC P0 29 [t26] w12 λt27 w13=>lT false 2 1 t27 λt28=>aC P0 31 [(i64 50),t28] w13 λt29 w14=>J7 [] w14) (J7 [] w12)) λs7 _ w15=>ldW false 1 v0 w15 λt30=>aC P0 28 [t30] w15 λt31 w16=>L3 [] w16) (K (.tuple #[]) w5)
theorem aCM{K:Q0}(h:W51 v0 v1 w K):aC P0 51 [v0,v1] w K:=
 tie _ 51 Tryz.f51 aBd _ w K 2 _ rfl mixed Tryz.func51 (by kernel_rfl) (by kernel_rfl) Tryz.call51 h
def aBc:cO:={js:=[],ds:=[]}
def W52(v0 v1:Value)(w:World)(K:Q0):=dN 9 1 [(str [])] [(0,1,v1)] w λt7 w1=>aC P0 49 [v0,t7] w1 λt8 w2=>unW .not t8 λt9=>aS t9 (K (.bool false) w2) (eF v0 λt11=>aZ 1 t11 λt12=>ldW false 1 t12 w2 λt13=>aQ .add t13 (i64 1) λt14=>eF v0 λt15=>aZ 1 t15 λt16=>stW 1 t16 t14 w2 λw3=>K (.bool true) w3)
theorem aCL{K:Q0}(h:W52 v0 v1 w K):aC P0 52 [v0,v1] w K:=
 tie _ 52 Tryz.f52 aBc _ w K 2 _ rfl mixed Tryz.func52 (by kernel_rfl) (by kernel_rfl) Tryz.call52 h
def aBb:cO:={js:=[],ds:=[(12,⟨[0,1,2,3,4,5,9,10],[[],[],[1],[1,2],[1,2,3],[],[5],[5,6],[1,2,3,4,5,6,7],[0,1,2,3,4,5,6,7,8],[0,1,2,3,4,5,6,7,8,9],[0,1,2,3,4,5,6,7,8,9,10]]⟩),(7,⟨[0,1,2,3,4,5,6,7,9,10,11,14,15],[[],[],[1],[1,2],[1,2,3],[],[5],[],[7],[],[9],[5,6,7,8,9,10],[5,6,7,8,9,10,11],[1,2,3,4,5,6,7,8,9,10,11,12],[0,1,2,3,4,5,6,7,8,9,10,11,12,13],[0,1,2,3,4,5,6,7,8,9,10,11,12,13,14],[0,1,2,3,4,5,6,7,8,9,10,11,12,13,14,15]]⟩)]}
def W53(v0 v1:Value)(w:World)(K:Q0):=aC P0 46 [v0,(i64 1)] w λt6 w1=>bQ 73 zL1 w1 λt4 w2=>stW 3 t4 t6 w2 λw3=>aC P0 52 [v0,(str [61])] w3 λt8 w4=>aS t8 (eF v1 λt11=>aZ 2 t11 λt12=>ldW false 1 t12 w4.drew λt13=>aZ 1 t4 λt14=>ldW false 1 t14 w4.drew λt15=>aZ 2 t4 λt18=>ldW false 1 t18 w4.drew λt19=>aC P0 82 [v0] w4.drew λt17 w5=>(ldW false 1 t18 w5 λx=>x=t19)/\(ldW false 1 t14 w5 λx=>x=t15)/\(ldW false 1 t12 w5 λx=>x=t13)/\dJ [(str []),(i64 0),(i64 0)] [(0,1,t15),(1,1,t17),(2,1,t19)] λc6=>dN 88 1 [(str []),(i64 0),(i64 0)] [(0,3,(.agg c6.toArray))] w5 λt21 w7=>(ldW false 1 t12 w7 λx=>x=t13)/\dF P0 (Builtin.append_ #[84,84] 84 #[t13,t21]) w7 λt22 w8=>eF v1 λt23=>aZ 2 t23 λt24=>stW 1 t24 t22 w8 λw9=>K (.tuple #[]) w9) (eF v0 λt26=>aZ 1 t26 λt27=>ldW false 1 t27 w4 λt28=>aQ .sub t28 (i64 1) λt29=>eF v0 λt30=>aZ 1 t30 λt31=>stW 1 t31 t29 w4 λw10=>eF v1 λt34=>aZ 3 t34 λt35=>ldW false 1 t35 w10.drew λt36=>aC P0 30 [v0] w10.drew λt38 w11=>(ldW false 1 t35 w11 λx=>x=t36)/\dN 3 1 [(i64 0)] [(0,1,t38)] w11 λt39 w12=>(ldW false 1 t35 w12 λx=>x=t36)/\dF P0 (Builtin.append_ #[30,30] 30 #[t36,t39]) w12 λt40 w13=>eF v1 λt41=>aZ 3 t41 λt42=>stW 1 t42 t40 w13 λw14=>K (.tuple #[]) w14)
theorem aCK{K:Q0}(h:W53 v0 v1 w K):aC P0 53 [v0,v1] w K:=
 tie _ 53 Tryz.f53 aBb _ w K 2 _ rfl mixed Tryz.func53 (by kernel_rfl) (by kernel_rfl) Tryz.call53 h
def aAU:cO:={js:=[(13,⟨[4],[],1⟩),(6,⟨[4],[],1⟩)],ds:=[]}
def W79(v0:Value)(w:World)(K:Q0):=cY [(i64 0)] w λs1 _ w2 L1=>iT v0 λt7=>aQ .lss (s1.getD 0 undef) t7 λt8=>aS t8 (bU (λJ3=>qE v0 (s1.getD 0 undef) λt13=>aQ .eql t13 (.int .u8 92) λt14=>aS t14 (aQ .add (s1.getD 0 undef) (i64 1) λt16=>J3 [t16] w2) (mY v0 (some (s1.getD 0 undef)) none λt19=>aC P0 43 [t19,(str [36,123])] w2 λt20 w4=>aS t20 (aQ .add (s1.getD 0 undef) (i64 1) λt23=>aQ .add (s1.getD 0 undef) (i64 1) λt26=>mY v0 (some t26) none λt27=>aC P0 112 [t27] w4 λt28 w5=>aQ .add t23 t28 λt29=>K (.tuple #[(s1.getD 0 undef),t29]) w5) (J3 [(s1.getD 0 undef)] w4))) λs3 _ w6=>aQ .add (s3.getD 0 undef) (i64 1) λt10=>L1 [t10] w6) (K (.tuple #[(.int .i64 (-1)),(i64 0)]) w2)
theorem aCt{K:Q0}(h:W79 v0 w K):aC P0 79 [v0] w K:=
 tie _ 79 Tryz.f79 aAU _ w K 1 _ rfl mixed Tryz.func79 (by kernel_rfl) (by kernel_rfl) Tryz.call79 h
def aAT:cO:={js:=[(19,⟨[4,5],[],4⟩),(8,⟨[4],[],4⟩)],ds:=[]}
def W80(v0:Value)(w:World)(K:Q0):=bQ 116 [(.pointer none),sN] w λt3 w1=>cY [(i64 0)] w1 λs2 _ w3 L2=>iT v0 λt8=>aQ .lss (s2.getD 0 undef) t8 λt9=>aS t9 (qE v0 (s2.getD 0 undef) λt14=>bU (λJ4=>aQ .eql t14 (.int .u8 92) λt16=>aS t16 (aQ .add (s2.getD 0 undef) (i64 1) λt18=>qE v0 t18 λt21=>aQ .eql t21 (.int .u8 110) λt24=>aS t24 (J4 [t18,(.int .u8 10)] w3) (aQ .eql t21 (.int .u8 116) λt26=>aS t26 (J4 [t18,(.int .u8 9)] w3) (aQ .eql t21 (.int .u8 114) λt28=>aS t28 (J4 [t18,(.int .u8 13)] w3) (J4 [t18,t21] w3)))) (J4 [(s2.getD 0 undef),t14] w3)) λs4 _ w5=>aC P0 62 [t3,(s4.getD 1 undef)] w5 λt30 w6=>aQ .add (s4.getD 0 undef) (i64 1) λt11=>L2 [t11] w6) (aC P0 64 [t3] w3 λt31 w7=>K t31 w7)
theorem aCs{K:Q0}(h:W80 v0 w K):aC P0 80 [v0] w K:=
 tie _ 80 Tryz.f80 aAT _ w K 1 _ rfl mixed Tryz.func80 (by kernel_rfl) (by kernel_rfl) Tryz.call80 h
def aAR:cO:={js:=[],ds:=[(17,⟨[0,1,2,3,4,5,6,7],[[],[],[1],[],[3],[3,4],[3,4,5],[],[0,1,2,3,4,5,6,7]]⟩)]}
def W82(v0:Value)(w:World)(K:Q0):=eW 67 v0 w λt1 w1=>ldW false 1 t1 w1 λt6=>aC P0 114 [t6,(i64 0)] w1 λt7 w2=>ldW false 1 t1 w2 λt8=>aC P0 29 [t8] w2 λt9 w3=>bQ 73 zL1 w3 λt4 w4=>stW 3 t4 t9 w4 λw5=>ldW false 1 t1 w5 λt10=>aC P0 52 [t10,(str [63])] w5 λt11 w6=>unW .not t11 λt12=>aS t12 (K t7 w6) (dN 3 3 [(i64 0),(i64 0),(i64 0)] [(0,1,t7),(1,1,(i64 0)),(2,1,(i64 0))] w6 λt15 w7=>bQ 30 [sN] w7 λt5 w8=>stW 1 t5 t15 w8 λw9=>ldW false 1 t1 w9.drew λt16=>aZ 2 t4 λt17=>ldW false 1 t17 w9.drew λt18=>ldW false 1 t1 w9.drew λt19=>eF t19 λt20=>aZ 5 t20 λt21=>ldW false 1 t21 w9.drew λt22=>aC P0 50 [t16,t18,t22,(.func (.func 115) #[] #[t1,t5])] w9.drew λt24 w10=>ldW false 1 t1 w10 λt25=>ldW false 1 t5 w10 λt26=>aZ 2 t4 λt27=>ldW false 1 t27 w10 λt28=>dJ [(i64 0),(str []),sN,sN,(i64 0)] [(0,1,(i64 28)),(2,1,t26),(4,1,t28)] λc11=>aC P0 117 [t25,(.agg c11.toArray)] w10 λt30 w12=>K t30 w12)
theorem aCq{K:Q0}(h:W82 v0 w K):aC P0 82 [v0] w K:=
 tie _ 82 Tryz.f82 aAR _ w K 1 _ rfl mixed Tryz.func82 (by kernel_rfl) (by kernel_rfl) Tryz.call82 h
def Wg:cO:={js:=[(15,⟨[3,4],[],1⟩),(8,⟨[3,4],[],1⟩)],ds:=[]}
def aFu(v0:Value)(w:World)(K:Q0):=cY [(i64 0),(i64 0)] w λs1 _ w2 L1=>iT v0 λt7=>aQ .lss (s1.getD 1 undef) t7 λt8=>aS t8 (bU (λJ3=>qE v0 (s1.getD 1 undef) λt13=>aQ .eql t13 (.int .u8 123) λt15=>aS t15 (aQ .add (s1.getD 0 undef) (i64 1) λt17=>J3 [t17,(s1.getD 1 undef)] w2) (aQ .eql t13 (.int .u8 125) λt19=>aS t19 (aQ .sub (s1.getD 0 undef) (i64 1) λt21=>aQ .eql t21 (i64 0) λt23=>aS t23 (aQ .add (s1.getD 1 undef) (i64 1) λt25=>K t25 w2) (J3 [t21,(s1.getD 1 undef)] w2)) (aQ .eql t13 (.int .u8 34) λt27=>aS t27 (mY v0 (some (s1.getD 1 undef)) none λt31=>aC P0 150 [t31] w2 λt32 w4=>aQ .sub t32 (i64 1) λt33=>aQ .add (s1.getD 1 undef) t33 λt34=>J3 [(s1.getD 0 undef),t34] w4) (J3 [(s1.getD 0 undef),(s1.getD 1 undef)] w2)))) λs3 _ w5=>aQ .add (s3.getD 1 undef) (i64 1) λt10=>L1 [(s3.getD 0 undef),t10] w5) (iT v0 λt36=>K t36 w2)
theorem Zn{K:Q0}(h:aFu v0 w K):aC P0 112 [v0] w K:=
 tie _ 112 Tryz.f112 Wg _ w K 1 _ rfl mixed Tryz.func112 (by kernel_rfl) (by kernel_rfl) Tryz.call112 h
def Wd:cO:={js:=[(13,⟨[5],[],2⟩)],ds:=[]}
def aDg(v0 v1:Value)(w:World)(K:Q0):=aQ .eql v1 (i64 6) λt10=>aS t10 (aC P0 151 [v0] w λt12 w1=>K t12 w1) (aQ .add v1 (i64 1) λt15=>aC P0 114 [v0,t15] w λt16 w2=>cY [t16] w2 λs3 _ w4 L3=>aC P0 29 [v0] w4 λt18 w5=>bQ 73 zL1 w5 λt6 w6=>stW 3 t6 t18 w6 λw7=>ldW true 3 t6 w7 λt19=>aC P0 152 [t19,v1] w7 λt21 w8=>aQ .eql t21 (i64 0) λt23=>aS t23 (K (s3.getD 0 undef) w8) (eF v0 λt26=>aZ 1 t26 λt27=>ldW false 1 t27 w8 λt28=>aQ .add t28 (i64 1) λt29=>eF v0 λt30=>aZ 1 t30 λt31=>stW 1 t31 t29 w8 λw9=>aQ .add v1 (i64 1) λt34=>aC P0 114 [v0,t34] w9 λt35 w10=>dN 3 2 [(i64 0),(i64 0)] [(0,1,(s3.getD 0 undef)),(1,1,t35)] w10 λt40 w11=>aZ 2 t6 λt41=>ldW false 1 t41 w11 λt42=>dJ [(i64 0),(str []),sN,sN,(i64 0)] [(0,1,t21),(2,1,t40),(4,1,t42)] λc12=>aC P0 117 [v0,(.agg c12.toArray)] w11 λt44 w13=>L3 [t44] w13))
theorem OA{K:Q0}(h:aDg v0 v1 w K):aC P0 114 [v0,v1] w K:=
 tie _ 114 Tryz.f114 Wd _ w K 2 _ rfl mixed Tryz.func114 (by kernel_rfl) (by kernel_rfl) Tryz.call114 h
def Wc:cO:={js:=[],ds:=[(4,⟨[0,1,3],[[],[],[1],[0,1,2],[0,1,2,3]]⟩),(1,⟨[0,1,3],[[],[],[1],[0,1,2],[0,1,2,3]]⟩)]}
def aFs(v0 v1:Value)(w:World)(K:Q0):=ldW false 1 v1 w.drew λt2=>ldW false 1 v0 w.drew λt3=>aC P0 82 [t3] w.drew λt4 w1=>(ldW false 1 v1 w1 λx=>x=t2)/\dP none 1 t2 (i64 1) λt5=>stW 1 t5 t4 w1 λw2=>ldW false 1 v0 w2 λt6=>aC P0 116 [t6,(str [58])] w2 λt7 w3=>ldW false 1 v1 w3.drew λt8=>ldW false 1 v0 w3.drew λt9=>aC P0 82 [t9] w3.drew λt10 w4=>(ldW false 1 v1 w4 λx=>x=t8)/\dP none 1 t8 (i64 2) λt11=>stW 1 t11 t10 w4 λw5=>K (.tuple #[]) w5
theorem Zl{K:Q0}(h:aFs v0 v1 w K):aC P0 115 [v0,v1] w K:=
 tie _ 115 Tryz.f115 Wc _ w K 2 _ rfl mixed Tryz.func115 (by kernel_rfl) (by kernel_rfl) Tryz.call115 h
def Wb:cO:={js:=[],ds:=[]}
def aFr(v0 v1:Value)(w:World)(K:Q0):=aC P0 52 [v0,v1] w λt6 w1=>unW .not t6 λt7=>aS t7 (aC P0 29 [v0] w1 λt9 w2=>lT false 2 1 t9 λt10=>aC P0 31 [(i64 50),t10] w2 λt11 w3=>K (.tuple #[]) w3) (K (.tuple #[]) w1)
theorem Zk{K:Q0}(h:aFr v0 v1 w K):aC P0 116 [v0,v1] w K:=
 tie _ 116 Tryz.f116 Wb _ w K 2 _ rfl mixed Tryz.func116 (by kernel_rfl) (by kernel_rfl) Tryz.call116 h
def Wa:cO:={js:=[],ds:=[(3,⟨[0,1,2,3,4,5,6,7,8,9,10,11,14,15],[[],[0],[0,1],[0,1,2],[],[4],[4,5],[4,5,6],[4,5,6,7],[4,5,6,7,8],[4,5,6,7,8,9],[],[11],[4,5,6,7,8,9,10,11,12],[0,1,2,3,4,5,6,7,8,9,10,11,12,13],[0,1,2,3,4,5,6,7,8,9,10,11,12,13,14],[0,1,2,3,4,5,6,7,8,9,10,11,12,13,14,15]]⟩)]}
def aFq(v0 v1:Value)(w:World)(K:Q0):=eW 93 v1 w λt3 w1=>eF v0 λt6=>aZ 3 t6 λt7=>ldW false 1 t7 w1.drew λt8=>eF v0 λt10=>aZ 3 t10 λt11=>ldW false 1 t11 w1.drew λt12=>eF t12 λt13=>aZ 0 t13 λt14=>ldW false 1 t14 w1.drew λt15=>ldW true 5 t3 w1.drew λt16=>dN 93 1 [(i64 0),(str []),sN,sN,(i64 0)] [(0,5,t16)] w1.drew λt17 w2=>(ldW false 1 t14 w2 λx=>x=t15)/\(ldW false 1 t11 w2 λx=>x=t12)/\(ldW false 1 t7 w2 λx=>x=t8)/\dF P0 (Builtin.append_ #[28,28] 28 #[t15,t17]) w2 λt18 w3=>(ldW false 1 t7 w3 λx=>x=t8)/\eF t8 λt19=>aZ 0 t19 λt20=>stW 1 t20 t18 w3 λw4=>eF v0 λt22=>aZ 3 t22 λt23=>ldW false 1 t23 w4 λt24=>eF t24 λt25=>aZ 0 t25 λt26=>ldW false 1 t26 w4 λt27=>dA t27 λt28=>aQ .sub t28 (i64 1) λt29=>K t29 w4
theorem Zj{K:Q0}(h:aFq v0 v1 w K):aC P0 117 [v0,v1] w K:=
 tie _ 117 Tryz.f117 Wa _ w K 2 _ rfl mixed Tryz.func117 (by kernel_rfl) (by kernel_rfl) Tryz.call117 h
def VD:cO:={js:=[(13,⟨[3],[],1⟩),(6,⟨[3],[],1⟩)],ds:=[]}
def aE7(v0:Value)(w:World)(K:Q0):=cY [(i64 1)] w λs1 _ w2 L1=>iT v0 λt6=>aQ .lss (s1.getD 0 undef) t6 λt7=>aS t7 (bU (λJ3=>qE v0 (s1.getD 0 undef) λt13=>aQ .eql t13 (.int .u8 34) λt14=>aS t14 (aQ .add (s1.getD 0 undef) (i64 1) λt16=>K t16 w2) (qE v0 (s1.getD 0 undef) λt20=>aQ .eql t20 (.int .u8 92) λt21=>aS t21 (aQ .add (s1.getD 0 undef) (i64 1) λt23=>J3 [t23] w2) (mY v0 (some (s1.getD 0 undef)) none λt27=>aC P0 43 [t27,(str [36,123])] w2 λt28 w4=>aS t28 (aQ .add (s1.getD 0 undef) (i64 1) λt32=>mY v0 (some t32) none λt33=>aC P0 112 [t33] w4 λt34 w5=>aQ .add (s1.getD 0 undef) t34 λt35=>J3 [t35] w5) (J3 [(s1.getD 0 undef)] w4)))) λs3 _ w6=>aQ .add (s3.getD 0 undef) (i64 1) λt9=>L1 [t9] w6) (iT v0 λt37=>K t37 w2)
theorem YN{K:Q0}(h:aE7 v0 w K):aC P0 150 [v0] w K:=
 tie _ 150 Tryz.f150 VD _ w K 1 _ rfl mixed Tryz.func150 (by kernel_rfl) (by kernel_rfl) Tryz.call150 h
def VC:cO:={js:=[(8,⟨[4],[],4⟩)],ds:=[(30,⟨[0,1,2,3,4,5,6,7],[[],[],[1],[],[3],[3,4],[3,4,5],[],[0,1,2,3,4,5,6,7]]⟩)]}
def aE6(v0:Value)(w:World)(K:Q0):=eW 67 v0 w λt1 w1=>ldW false 1 t1 w1 λt6=>aC P0 29 [t6] w1 λt7 w2=>bQ 73 zL1 w2 λt3 w3=>stW 3 t3 t7 w3 λw4=>bU (λJ5=>ldW false 1 t1 w4 λt9=>dN 9 1 [(str [])] [(0,1,(str [33]))] w4 λt10 w6=>aC P0 49 [t9,t10] w6 λt11 w7=>aS t11 (J5 [(i64 14)] w7) (ldW false 1 t1 w7 λt13=>dN 9 1 [(str [])] [(0,1,(str [45]))] w7 λt14 w8=>aC P0 49 [t13,t14] w8 λt15 w9=>aS t15 (J5 [(i64 13)] w9) (ldW false 1 t1 w9 λt33=>aC P0 205 [t33] w9 λt34 w10=>K t34 w10))) λs5 _ w11=>bQ 3 zL3 w11 λt5 w12=>stW 1 t5 (i64 0) w12 λw13=>ldW false 1 t1 w13.drew λt16=>aZ 2 t3 λt17=>ldW false 1 t17 w13.drew λt18=>ldW false 1 t1 w13.drew λt19=>eF t19 λt20=>aZ 5 t20 λt21=>ldW false 1 t21 w13.drew λt22=>aC P0 50 [t16,t18,t22,(.func (.func 204) #[] #[t1,t5])] w13.drew λt24 w14=>ldW false 1 t1 w14 λt25=>ldW false 1 t5 w14 λt27=>dN 3 1 [(i64 0)] [(0,1,t27)] w14 λt28 w15=>aZ 2 t3 λt29=>ldW false 1 t29 w15 λt30=>dJ [(i64 0),(str []),sN,sN,(i64 0)] [(0,1,(s5.getD 0 undef)),(2,1,t28),(4,1,t30)] λc16=>aC P0 117 [t25,(.agg c16.toArray)] w15 λt32 w17=>K t32 w17
theorem YM{K:Q0}(h:aE6 v0 w K):aC P0 151 [v0] w K:=
 tie _ 151 Tryz.f151 VC _ w K 1 _ rfl mixed Tryz.func151 (by kernel_rfl) (by kernel_rfl) Tryz.call151 h
def VB:cO:={js:=[],ds:=[]}
def aE5(v0 v1:Value)(w:World)(K:Q0):=eW 73 v0 w λt2 w1=>aZ 0 t2 λt5=>ldW false 1 t5 w1 λt6=>aQ .neq t6 (i64 4) λt7=>aS t7 (K (i64 0) w1) (aQ .mul v1 (i64 100) λt9=>dN 9 13 (List.replicate 13 (str [])) [(0,1,(str [124,124])),(1,1,(str [38,38])),(2,1,(str [61,61])),(3,1,(str [33,61])),(4,1,(str [60])),(5,1,(str [62])),(6,1,(str [60,61])),(7,1,(str [62,61])),(8,1,(str [43])),(9,1,(str [45])),(10,1,(str [42])),(11,1,(str [47])),(12,1,(str [37]))] w1 λt10 w2=>aZ 1 t2 λt11=>ldW false 1 t11 w2 λt12=>aC P0 113 [t10,t12] w2 λt13 w3=>aQ .add t9 t13 λt14=>aQ .eql t14 (i64 0) λt16=>aS t16 (K (i64 27) w3) (aQ .eql t14 (i64 101) λt18=>aS t18 (K (i64 26) w3) (aQ .eql t14 (i64 202) λt20=>aS t20 (K (i64 20) w3) (aQ .eql t14 (i64 203) λt22=>aS t22 (K (i64 21) w3) (aQ .eql t14 (i64 304) λt24=>aS t24 (K (i64 22) w3) (aQ .eql t14 (i64 305) λt26=>aS t26 (K (i64 23) w3) (aQ .eql t14 (i64 306) λt28=>aS t28 (K (i64 24) w3) (aQ .eql t14 (i64 307) λt30=>aS t30 (K (i64 25) w3) (aQ .eql t14 (i64 408) λt32=>aS t32 (K (i64 15) w3) (aQ .eql t14 (i64 409) λt34=>aS t34 (K (i64 16) w3) (aQ .eql t14 (i64 510) λt36=>aS t36 (K (i64 17) w3) (aQ .eql t14 (i64 511) λt38=>aS t38 (K (i64 18) w3) (aQ .eql t14 (i64 512) λt40=>aS t40 (K (i64 19) w3) (K (i64 0) w3))))))))))))))
theorem YL{K:Q0}(h:aE5 v0 v1 w K):aC P0 152 [v0,v1] w K:=
 tie _ 152 Tryz.f152 VB _ w K 2 _ rfl mixed Tryz.func152 (by kernel_rfl) (by kernel_rfl) Tryz.call152 h
def Vd:cO:={js:=[],ds:=[]}
def aEK(v0 v1:Value)(w:World)(K:Q0):=ldW false 1 v0 w λt2=>eF t2 λt3=>aZ 1 t3 λt4=>ldW false 1 t4 w λt5=>aQ .add t5 (i64 1) λt6=>eF t2 λt7=>aZ 1 t7 λt8=>stW 1 t8 t6 w λw1=>ldW false 1 v0 w1 λt9=>aC P0 151 [t9] w1 λt10 w2=>stW 1 v1 t10 w2 λw3=>K (.tuple #[]) w3
theorem Yn{K:Q0}(h:aEK v0 v1 w K):aC P0 204 [v0,v1] w K:=
 tie _ 204 Tryz.f204 Vd _ w K 2 _ rfl mixed Tryz.func204 (by kernel_rfl) (by kernel_rfl) Tryz.call204 h
def Vb:cO:={js:=[(5,⟨[3],[],2⟩)],ds:=[(31,⟨[0,1,3,6,7,8],[[],[],[1],[1,2],[],[4],[],[6],[1,2,3,4,5,6,7],[0,1,2,3,4,5,6,7,8],[0,1,2,3,4,5,6,7,8,9]]⟩),(13,⟨[0,1,3,6,7,8],[[],[],[1],[1,2],[],[4],[],[6],[1,2,3,4,5,6,7],[0,1,2,3,4,5,6,7,8],[0,1,2,3,4,5,6,7,8,9]]⟩)]}
def aEJ(v0:Value)(w:World)(K:Q0):=eW 67 v0 w λt1 w1=>ldW false 1 t1 w1 λt7=>aC P0 236 [t7] w1 λt8 w2=>cY [t8] w2 λs3 _ w4 L3=>ldW false 1 t1 w4 λt9=>aC P0 29 [t9] w4 λt10 w5=>bQ 73 zL1 w5 λt4 w6=>stW 3 t4 t10 w6 λw7=>ldW false 1 t1 w7 λt13=>aC P0 52 [t13,(str [46])] w7 λt14 w8=>aS t14 (ldW false 1 t1 w8.drew λt15=>ldW false 1 t1 w8.drew λt16=>aZ 2 t4 λt21=>ldW false 1 t21 w8.drew λt22=>(aC P0 46 [t16,(i64 1)] w8.drew λt17 w9=>(ldW false 1 t21 w9 λx=>x=t22)/\(ldW false 1 t1 w9 λx=>x=t15)/\lT false 1 1 t17 λt18=>(ldW false 1 t21 w9 λx=>x=t22)/\(ldW false 1 t1 w9 λx=>x=t15)/\dN 3 1 [(i64 0)] [(0,1,(s3.getD 0 undef))] w9 λt20 w10=>(ldW false 1 t21 w10 λx=>x=t22)/\(ldW false 1 t1 w10 λx=>x=t15)/\dJ [(i64 0),(str []),sN,sN,(i64 0)] [(0,1,(i64 10)),(1,1,t18),(2,1,t20),(4,1,t22)] λc11=>aC P0 117 [t15,(.agg c11.toArray)] w10 λt24 w12=>L3 [t24] w12)/\((ldW false 1 t21 w8.drew λx=>x=t22)/\(ldW false 1 t1 w8.drew λx=>x=t16)/\(ldW false 1 t1 w8.drew λx=>x=t15)/\(aC P0 46 [t16,(i64 1)] w8.drew λt17 w13=>(ldW false 1 t21 w13 λx=>x=t22)/\(ldW false 1 t1 w13 λx=>x=t15)/\lT false 1 1 t17 λt18=>dN 3 1 [(i64 0)] [(0,1,(s3.getD 0 undef))] w13 λt20 w14=>(ldW false 1 t21 w14 λx=>x=t22)/\(ldW false 1 t1 w14 λx=>x=t15)/\dJ [(i64 0),(str []),sN,sN,(i64 0)] [(0,1,(i64 10)),(1,1,t18),(2,1,t20),(4,1,t22)] λc15=>aC P0 117 [t15,(.agg c15.toArray)] w14 λt24 w16=>L3 [t24] w16)/\(dN 3 1 [(i64 0)] [(0,1,(s3.getD 0 undef))] w8.drew λt20 w17=>(ldW false 1 t21 w17 λx=>x=t22)/\(ldW false 1 t1 w17 λx=>x=t16)/\(ldW false 1 t1 w17 λx=>x=t15)/\aC P0 46 [t16,(i64 1)] w17 λt17 w18=>(ldW false 1 t21 w18 λx=>x=t22)/\(ldW false 1 t1 w18 λx=>x=t15)/\lT false 1 1 t17 λt18=>dJ [(i64 0),(str []),sN,sN,(i64 0)] [(0,1,(i64 10)),(1,1,t18),(2,1,t20),(4,1,t22)] λc19=>aC P0 117 [t15,(.agg c19.toArray)] w18 λt24 w20=>L3 [t24] w20))) (ldW false 1 t1 w8 λt26=>dN 9 1 [(str [])] [(0,1,(str [91]))] w8 λt27 w21=>aC P0 49 [t26,t27] w21 λt28 w22=>aS t28 (bQ 3 zL3 w22 λt5 w23=>bQ 4 [(.bool false)] w23 λt6 w24=>stW 1 t5 (i64 0) w24 λw25=>stW 1 t6 (.bool false) w25 λw26=>ldW false 1 t1 w26 λt29=>aZ 2 t4 λt30=>ldW false 1 t30 w26 λt31=>aC P0 50 [t29,t31,(.bool true),(.func (.func 237) #[] #[t1,t6,t5])] w26 λt33 w27=>ldW false 1 t6 w27 λt34=>unW .not t34 λt35=>aS t35 (ldW false 1 t1 w27 λt36=>ldW false 1 t5 w27 λt38=>dN 3 2 [(i64 0),(i64 0)] [(0,1,(s3.getD 0 undef)),(1,1,t38)] w27 λt39 w28=>aZ 2 t4 λt40=>ldW false 1 t40 w28 λt41=>dJ [(i64 0),(str []),sN,sN,(i64 0)] [(0,1,(i64 11)),(2,1,t39),(4,1,t41)] λc29=>aC P0 117 [t36,(.agg c29.toArray)] w28 λt43 w30=>L3 [t43] w30) (ldW false 1 t1 w27 λt44=>aC P0 116 [t44,(str [46])] w27 λt45 w31=>ldW false 1 t1 w31.drew λt46=>ldW false 1 t1 w31.drew λt47=>aZ 2 t4 λt52=>ldW false 1 t52 w31.drew λt53=>(aC P0 46 [t47,(i64 1)] w31.drew λt48 w32=>(ldW false 1 t52 w32 λx=>x=t53)/\(ldW false 1 t1 w32 λx=>x=t46)/\lT false 1 1 t48 λt49=>(ldW false 1 t52 w32 λx=>x=t53)/\(ldW false 1 t1 w32 λx=>x=t46)/\dN 3 1 [(i64 0)] [(0,1,(s3.getD 0 undef))] w32 λt51 w33=>(ldW false 1 t52 w33 λx=>x=t53)/\(ldW false 1 t1 w33 λx=>x=t46)/\dJ [(i64 0),(str []),sN,sN,(i64 0)] [(0,1,(i64 30)),(1,1,t49),(2,1,t51),(4,1,t53)] λc34=>aC P0 117 [t46,(.agg c34.toArray)] w33 λt55 w35=>L3 [t55] w35)/\((ldW false 1 t52 w31.drew λx=>x=t53)/\(ldW false 1 t1 w31.drew λx=>x=t47)/\(ldW false 1 t1 w31.drew λx=>x=t46)/\(aC P0 46 [t47,(i64 1)] w31.drew λt48 w36=>(ldW false 1 t52 w36 λx=>x=t53)/\(ldW false 1 t1 w36 λx=>x=t46)/\lT false 1 1 t48 λt49=>dN 3 1 [(i64 0)] [(0,1,(s3.getD 0 undef))] w36 λt51 w37=>(ldW false 1 t52 w37 λx=>x=t53)/\(ldW false 1 t1 w37 λx=>x=t46)/\dJ [(i64 0),(str []),sN,sN,(i64 0)] [(0,1,(i64 30)),(1,1,t49),(2,1,t51),(4,1,t53)] λc38=>aC P0 117 [t46,(.agg c38.toArray)] w37 λt55 w39=>L3 [t55] w39)/\(dN 3 1 [(i64 0)] [(0,1,(s3.getD 0 undef))] w31.drew λt51 w40=>(ldW false 1 t52 w40 λx=>x=t53)/\(ldW false 1 t1 w40 λx=>x=t47)/\(ldW false 1 t1 w40 λx=>x=t46)/\aC P0 46 [t47,(i64 1)] w40 λt48 w41=>(ldW false 1 t52 w41 λx=>x=t53)/\(ldW false 1 t1 w41 λx=>x=t46)/\lT false 1 1 t48 λt49=>dJ [(i64 0),(str []),sN,sN,(i64 0)] [(0,1,(i64 30)),(1,1,t49),(2,1,t51),(4,1,t53)] λc42=>aC P0 117 [t46,(.agg c42.toArray)] w41 λt55 w43=>L3 [t55] w43)))) (K (s3.getD 0 undef) w22))
theorem Ym{K:Q0}(h:aEJ v0 w K):aC P0 205 [v0] w K:=
 tie _ 205 Tryz.f205 Vb _ w K 1 _ rfl mixed Tryz.func205 (by kernel_rfl) (by kernel_rfl) Tryz.call205 h
def UO:cO:={js:=[(6,⟨[],[2],5⟩),(23005,⟨[50],[],48⟩)],ds:=[(43,⟨[0,1,3,4],[[],[],[1],[1,2],[],[0,1,2,3,4]]⟩),(42,⟨[0,1,2,4],[[],[0],[],[2],[0,1,2,3],[0,1,2,3,4]]⟩),(13,⟨[0,1,2,4],[[],[0],[],[2],[0,1,2,3],[0,1,2,3,4]]⟩)]}
def aEz(v0:Value)(w:World)(K:Q0):=eW 67 v0 w λt1 w1=>ldW false 1 t1 w1 λt6=>aC P0 29 [t6] w1 λt7 w2=>bQ 73 zL1 w2 λt3 w3=>stW 3 t3 t7 w3 λw4=>aZ 2 t3 λt8=>ldW false 1 t8 w4 λt9=>dJ [(i64 0),(str []),sN,sN,(i64 0)] [(4,1,t9)] λc5=>bQ 93 zL4 w4 λt4 w6=>stW 5 t4 (.agg c5.toArray) w6 λw7=>bU (λJ8=>aZ 0 t3 λt15=>ldW false 1 t15 w7 λt16=>aQ .eql t16 (i64 2) λt17=>aS t17 (ldW false 1 t1 w7 λt18=>eF t18 λt19=>aZ 1 t19 λt20=>ldW false 1 t20 w7 λt21=>aQ .add t21 (i64 1) λt22=>eF t18 λt23=>aZ 1 t23 λt24=>stW 1 t24 t22 w7 λw9=>aZ 1 t3 λt25=>ldW false 1 t25 w9.drew λt26=>aZ 0 t4 λt27=>stW 1 t27 (i64 4) w9.drew λw10=>(ldW false 1 t25 w10 λx=>x=t26)/\aZ 1 t4 λt28=>stW 1 t28 t26 w10 λw11=>J8 [] w11) (aZ 0 t3 λt30=>ldW false 1 t30 w7 λt31=>aQ .eql t31 (i64 3) λt32=>aS t32 (ldW false 1 t1 w7 λt33=>eF t33 λt34=>aZ 1 t34 λt35=>ldW false 1 t35 w7 λt36=>aQ .add t36 (i64 1) λt37=>eF t33 λt38=>aZ 1 t38 λt39=>stW 1 t39 t37 w7 λw12=>ldW false 1 t1 w12 λt40=>ldW true 3 t3 w12 λt41=>aC P0 258 [t40,t41] w12 λt42 w13=>K t42 w13) (aZ 0 t3 λt44=>ldW false 1 t44 w7 λt45=>aQ .eql t45 (i64 1) λt46=>GdW (isB t46 true) [undef] w7 (λJ14=>aZ 1 t3 λt48=>ldW false 1 t48 w7 λt49=>aQ .neq t49 (str [102,111,114]) λt50=>J14 [t50] w7) λs14 _ w15=>cV t46 (s14.getD 0 undef) (.bool false) λt51=>aS t51 (ldW false 1 t1 w15 λt52=>eF t52 λt53=>aZ 1 t53 λt54=>ldW false 1 t54 w15 λt55=>aQ .add t55 (i64 1) λt56=>eF t52 λt57=>aZ 1 t57 λt58=>stW 1 t58 t56 w15 λw16=>ldW false 1 t1 w16 λt59=>dN 9 1 [(str [])] [(0,1,(str [40]))] w16 λt60 w17=>aC P0 49 [t59,t60] w17 λt61 w18=>unW .not t61 λt62=>aS t62 (aZ 1 t3 λt63=>ldW false 1 t63 w18 λt64=>aC P0 259 [t64] w18 λt65 w19=>aZ 0 t4 λt66=>stW 1 t66 t65 w19 λw20=>aZ 0 t4 λt67=>ldW false 1 t67 w20 λt68=>aQ .eql t68 (i64 9) λt69=>aS t69 (aZ 1 t3 λt70=>ldW false 1 t70 w20 λt71=>aZ 1 t4 λt72=>stW 1 t72 t71 w20 λw21=>J8 [] w21) (J8 [] w20)) (aZ 1 t3 λt73=>ldW false 1 t73 w18.drew λt74=>aZ 0 t4 λt75=>stW 1 t75 (i64 12) w18.drew λw22=>(ldW false 1 t73 w22 λx=>x=t74)/\aZ 1 t4 λt76=>stW 1 t76 t74 w22 λw23=>ldW false 1 t1 w23.drew λt77=>ldW false 1 t1 w23.drew λt78=>aC P0 29 [t78] w23.drew λt79 w24=>(ldW false 1 t1 w24 λx=>x=t77)/\lT false 2 1 t79 λt80=>aC P0 50 [t77,t80,(.bool true),(.func (.func 260) #[] #[t1,t4])] w24 λt82 w25=>J8 [] w25)) (ldW false 1 t1 w15 λt84=>dN 9 1 [(str [])] [(0,1,(str [40]))] w15 λt85 w26=>aC P0 49 [t84,t85] w26 λt86 w27=>aS t86 (bQ 3 zL3 w27 λt5 w28=>stW 1 t5 (i64 0) w28 λw29=>ldW false 1 t1 w29 λt87=>aZ 2 t3 λt88=>ldW false 1 t88 w29 λt89=>aC P0 50 [t87,t89,(.bool true),(.func (.func 262) #[] #[t1,t5])] w29 λt91 w30=>ldW false 1 t5 w30 λt92=>K t92 w30) (ldW false 1 t1 w27 λt94=>dN 9 1 [(str [])] [(0,1,(str [91]))] w27 λt95 w31=>aC P0 49 [t94,t95] w31 λt96 w32=>aS t96 (ldW false 1 t1 w32 λt97=>aZ 2 t3 λt98=>ldW false 1 t98 w32 λt99=>aC P0 50 [t97,t99,(.bool true),(.func (.func 263) #[] #[t1,t3,t4])] w32 λt101 w33=>J8 [] w33) (ldW false 1 t1 w32 λt103=>dN 9 1 [(str [])] [(0,1,(str [123]))] w32 λt104 w34=>aC P0 49 [t103,t104] w34 λt105 w35=>aS t105 (ldW false 1 t1 w35 λt106=>aZ 2 t3 λt107=>ldW false 1 t107 w35 λt108=>aC P0 50 [t106,t108,(.bool false),(.func (.func 265) #[] #[t1,t3,t4])] w35 λt110 w36=>J8 [] w36) (aZ 2 t3 λt11=>ldW false 1 t11 w35 λt12=>aC P0 31 [(i64 50),t12] w35 λt13 w37=>J8 [] w37))))))) λs8 _ w38=>ldW false 1 t1 w38 λt111=>ldW true 5 t4 w38 λt112=>aC P0 117 [t111,t112] w38 λt113 w39=>K t113 w39
theorem XZ{K:Q0}(h:aEz v0 w K):aC P0 236 [v0] w K:=
 tie _ 236 Tryz.f236 UO _ w K 1 _ rfl mixed Tryz.func236 (by kernel_rfl) (by kernel_rfl) Tryz.call236 h
def UN:cO:={js:=[(2,⟨[],[],1⟩)],ds:=[]}
def aEy(v0 v1 v2:Value)(w:World)(K:Q0):=ldW false 1 v0 w λt3=>eF t3 λt4=>aZ 1 t4 λt5=>ldW false 1 t5 w λt6=>aQ .add t6 (i64 1) λt7=>eF t3 λt8=>aZ 1 t8 λt9=>stW 1 t9 t7 w λw1=>bU (λJ2=>ldW false 1 v0 w1 λt10=>aC P0 52 [t10,(str [42])] w1 λt11 w3=>stW 1 v1 t11 w3 λw4=>ldW false 1 v1 w4 λt12=>unW .not t12 λt13=>aS t13 (ldW false 1 v0 w4 λt14=>aC P0 82 [t14] w4 λt15 w5=>stW 1 v2 t15 w5 λw6=>J2 [] w6) (J2 [] w4)) λs2 _ w7=>ldW false 1 v0 w7 λt16=>aC P0 116 [t16,(str [93])] w7 λt17 w8=>K (.tuple #[]) w8
theorem XY{K:Q0}(h:aEy v0 v1 v2 w K):aC P0 237 [v0,v1,v2] w K:=
 tie _ 237 Tryz.f237 UN _ w K 3 _ rfl mixed Tryz.func237 (by kernel_rfl) (by kernel_rfl) Tryz.call237 h
def UH:cO:={js:=[(42,⟨[],[],12⟩),(34,⟨[],[],12⟩),(28,⟨[],[],12⟩),(18,⟨[],[],10⟩),(14,⟨[8,9],[],8⟩)],ds:=[(50,⟨[0,1,2,3,4,5],[[],[],[0,1],[],[],[3,4],[0,1,2],[0,1,2,3,4,5,6]]⟩),(39,⟨[0,1,2,3,4,5,7,8,12],[[],[0],[],[],[],[3,4],[3,4,5],[],[3,4,5,6,7],[2,3,4,5,6,7,8],[2,3,4,5,6,7,8,9],[0,1,2,3,4,5,6,7,8,9,10],[0,1,2,3,4,5,6,7,8,9,10,11],[0,1,2,3,4,5,6,7,8,9,10,11,12]]⟩),(32,⟨[0,1,2,3],[[],[0],[],[2],[0,1],[0,1,2,3,4]]⟩),(15,⟨[0,1,2,3,4],[[],[0],[],[2],[2,3],[],[],[0,1,5,6],[0,1,2,3,4,5,6,7]]⟩),(9,⟨[0,1,2,4,5,6,8],[[],[],[1],[1,2],[],[4],[1,2,3,4,5],[0,1,2,3,4,5,6],[0,1,2,3,4,5,6,7]]⟩)]}
def aEu(v0 v1:Value)(w:World)(K:Q0):=eW 67 v0 w λt2 w1=>eW 73 v1 w1 λt3 w2=>aZ 1 t3 λt13=>ldW false 1 t13 w2 λt14=>aC P0 79 [t14] w2 λt15 w3=>dO 0 t15 λt16=>dO 1 t15 λt17=>aQ .lss t16 (i64 0) λt19=>aS t19 (ldW false 1 t2 w3.drew λt20=>aZ 1 t3 λt21=>ldW false 1 t21 w3.drew λt22=>aZ 2 t3 λt24=>ldW false 1 t24 w3.drew λt25=>aC P0 80 [t22] w3.drew λt23 w4=>(ldW false 1 t24 w4 λx=>x=t25)/\(ldW false 1 t2 w4 λx=>x=t20)/\dJ [(i64 0),(str []),sN,sN,(i64 0)] [(0,1,(i64 5)),(1,1,t23),(4,1,t25)] λc5=>aC P0 117 [t20,(.agg c5.toArray)] w4 λt27 w6=>K t27 w6) (aZ 2 t3 λt28=>ldW false 1 t28 w3 λt29=>dJ [(i64 0),(str []),sN,sN,(i64 0)] [(0,1,(i64 6)),(4,1,t29)] λc7=>bQ 93 zL4 w3 λt7 w8=>stW 5 t7 (.agg c7.toArray) w8 λw9=>bU (λJ10=>aZ 1 t3 λt31=>ldW false 1 t31 w9.drew λt32=>aZ 2 t3 λt33=>ldW false 1 t33 w9.drew λt34=>aQ .add t34 (i64 1) λt35=>(bQ 9 [(str [])] w9.drew λt8 w11=>(ldW false 1 t33 w11 λx=>x=t34)/\(ldW false 1 t31 w11 λx=>x=t32)/\bQ 3 zL3 w11 λt9 w12=>(ldW false 1 t33 w12 λx=>x=t34)/\(ldW false 1 t31 w12 λx=>x=t32)/\stW 1 t8 t32 w12 λw13=>(ldW false 1 t33 w13 λx=>x=t34)/\stW 1 t9 t35 w13 λw14=>J10 [t8,t9] w14)/\(bQ 3 zL3 w9.drew λt9 w15=>(ldW false 1 t33 w15 λx=>x=t34)/\(ldW false 1 t31 w15 λx=>x=t32)/\bQ 9 [(str [])] w15 λt8 w16=>(ldW false 1 t33 w16 λx=>x=t34)/\(ldW false 1 t31 w16 λx=>x=t32)/\stW 1 t8 t32 w16 λw17=>(ldW false 1 t33 w17 λx=>x=t34)/\stW 1 t9 t35 w17 λw18=>J10 [t8,t9] w18)) λs10 _ w19=>cY [] w19 λs20 _ w21 L20=>ldW false 1 (s10.getD 0 undef) w21 λt36=>aQ .neq t36 (str []) λt37=>aS t37 (ldW false 1 (s10.getD 0 undef) w21 λt39=>aC P0 79 [t39] w21 λt40 w22=>dO 0 t40 λt41=>dO 1 t40 λt42=>bQ 3 zL3 w22 λt10 w23=>bQ 3 zL3 w23 λt11 w24=>stW 1 t10 t41 w24 λw25=>stW 1 t11 t42 w25 λw26=>bU (λJ27=>ldW false 1 t10 w26 λt43=>aQ .lss t43 (i64 0) λt44=>aS t44 (ldW false 1 (s10.getD 0 undef) w26.drew λt45=>iT t45 λt46=>ldW false 1 (s10.getD 0 undef) w26.drew λt47=>iT t47 λt48=>stW 1 t10 t46 w26.drew λw28=>(ldW false 1 (s10.getD 0 undef) w28 λx=>x=t47)/\stW 1 t11 t48 w28 λw29=>J27 [] w29) (J27 [] w26)) λs27 _ w30=>bU (λJ31=>ldW false 1 t10 w30 λt49=>aQ .gtr t49 (i64 0) λt50=>aS t50 (aZ 2 t7 λt51=>ldW false 1 t51 w30.drew λt52=>ldW false 1 t2 w30.drew λt53=>ldW false 1 (s10.getD 0 undef) w30.drew λt54=>ldW false 1 t10 w30.drew λt55=>mY t54 none (some t55) λt56=>ldW false 1 (s10.getD 1 undef) w30.drew λt58=>aC P0 80 [t56] w30.drew λt57 w32=>(ldW false 1 (s10.getD 1 undef) w32 λx=>x=t58)/\(ldW false 1 t2 w32 λx=>x=t53)/\(ldW false 1 t51 w32 λx=>x=t52)/\dJ [(i64 0),(str []),sN,sN,(i64 0)] [(0,1,(i64 5)),(1,1,t57),(4,1,t58)] λc33=>aC P0 117 [t53,(.agg c33.toArray)] w32 λt60 w34=>(ldW false 1 t51 w34 λx=>x=t52)/\dN 3 1 [(i64 0)] [(0,1,t60)] w34 λt61 w35=>(ldW false 1 t51 w35 λx=>x=t52)/\dF P0 (Builtin.append_ #[30,30] 30 #[t52,t61]) w35 λt62 w36=>aZ 2 t7 λt63=>stW 1 t63 t62 w36 λw37=>aZ 3 t7 λt64=>ldW false 1 t64 w37 λt65=>dN 9 1 [(str [])] [(0,1,(str [116]))] w37 λt66 w38=>dF P0 (Builtin.append_ #[24,24] 24 #[t65,t66]) w38 λt67 w39=>aZ 3 t7 λt68=>stW 1 t68 t67 w39 λw40=>J31 [] w40) (J31 [] w30)) λs31 _ w41=>bU (λJ42=>ldW false 1 t10 w41 λt69=>ldW false 1 t11 w41 λt70=>aQ .lss t69 t70 λt71=>aS t71 (ldW false 1 t2 w41 λt72=>ldW false 1 (s10.getD 1 undef) w41 λt73=>ldW false 1 t10 w41 λt74=>aQ .add t73 t74 λt75=>aC P0 50 [t72,t75,(.bool false),(.func (.func 278) #[] #[t7,t2,(s10.getD 0 undef),t10,t11,(s10.getD 1 undef)])] w41 λt77 w43=>aZ 3 t7 λt78=>ldW false 1 t78 w43 λt79=>dN 9 1 [(str [])] [(0,1,(str [101]))] w43 λt80 w44=>dF P0 (Builtin.append_ #[24,24] 24 #[t79,t80]) w44 λt81 w45=>aZ 3 t7 λt82=>stW 1 t82 t81 w45 λw46=>J42 [] w46) (J42 [] w41)) λs42 _ w47=>ldW false 1 (s10.getD 0 undef) w47.drew λt83=>ldW false 1 t11 w47.drew λt84=>mY t83 (some t84) none λt85=>ldW false 1 (s10.getD 1 undef) w47.drew λt86=>ldW false 1 t11 w47.drew λt87=>aQ .add t86 t87 λt88=>stW 1 (s10.getD 0 undef) t85 w47.drew λw48=>(ldW false 1 t11 w48 λx=>x=t87)/\(ldW false 1 (s10.getD 1 undef) w48 λx=>x=t86)/\stW 1 (s10.getD 1 undef) t88 w48 λw49=>L20 [] w49) (ldW false 1 t2 w21 λt89=>ldW true 5 t7 w21 λt90=>aC P0 117 [t89,t90] w21 λt91 w50=>K t91 w50))
theorem XS{K:Q0}(h:aEu v0 v1 w K):aC P0 258 [v0,v1] w K:=
 tie _ 258 Tryz.f258 UH _ w K 2 _ rfl mixed Tryz.func258 (by kernel_rfl) (by kernel_rfl) Tryz.call258 h
def UG:cO:={js:=[],ds:=[]}
def aEt(v0:Value)(w:World)(K:Q0):=aQ .eql v0 (str [110,117,108,108]) λt5=>aS t5 (K (i64 1) w) (aQ .eql v0 (str [116,114,117,101]) λt7=>aS t7 (K (i64 2) w) (aQ .eql v0 (str [102,97,108,115,101]) λt9=>aS t9 (K (i64 3) w) (K (i64 9) w)))
theorem XR{K:Q0}(h:aEt v0 w K):aC P0 259 [v0] w K:=
 tie _ 259 Tryz.f259 UG _ w K 1 _ rfl mixed Tryz.func259 (by kernel_rfl) (by kernel_rfl) Tryz.call259 h
def UF:cO:={js:=[],ds:=[]}
def aEs(v0 v1:Value)(w:World)(K:Q0):=ldW false 1 v0 w λt2=>eF t2 λt3=>aZ 1 t3 λt4=>ldW false 1 t4 w λt5=>aQ .add t5 (i64 1) λt6=>eF t2 λt7=>aZ 1 t7 λt8=>stW 1 t8 t6 w λw1=>ldW false 1 v0 w1 λt9=>aC P0 261 [t9,(str [41])] w1 λt10 w2=>aZ 2 v1 λt11=>stW 1 t11 t10 w2 λw3=>K (.tuple #[]) w3
theorem XQ{K:Q0}(h:aEs v0 v1 w K):aC P0 260 [v0,v1] w K:=
 tie _ 260 Tryz.f260 UF _ w K 2 _ rfl mixed Tryz.func260 (by kernel_rfl) (by kernel_rfl) Tryz.call260 h
def UE:cO:={js:=[(14,⟨[],[],6⟩),(6,⟨[5],[],2⟩)],ds:=[]}
def aEr(v0 v1:Value)(w:World)(K:Q0):=cY [sN] w λs1 _ w2 L1=>aC P0 52 [v0,v1] w2 λt8 w3=>unW .not t8 λt9=>aS t9 (bU (λJ4=>dA (s1.getD 0 undef) λt11=>aQ .gtr t11 (i64 0) λt12=>aS t12 (aC P0 116 [v0,(str [44])] w3 λt14 w5=>aC P0 52 [v0,v1] w5 λt17 w6=>aS t17 (K (s1.getD 0 undef) w6) (J4 [] w6)) (J4 [] w3)) λs4 _ w7=>aC P0 82 [v0] w7 λt20 w8=>dN 3 1 [(i64 0)] [(0,1,t20)] w8 λt21 w9=>dF P0 (Builtin.append_ #[30,30] 30 #[(s1.getD 0 undef),t21]) w9 λt22 w10=>L1 [t22] w10) (K (s1.getD 0 undef) w3)
theorem XP{K:Q0}(h:aEr v0 v1 w K):aC P0 261 [v0,v1] w K:=
 tie _ 261 Tryz.f261 UE _ w K 2 _ rfl mixed Tryz.func261 (by kernel_rfl) (by kernel_rfl) Tryz.call261 h
def UD:cO:={js:=[],ds:=[]}
def aEq(v0 v1:Value)(w:World)(K:Q0):=ldW false 1 v0 w λt2=>eF t2 λt3=>aZ 1 t3 λt4=>ldW false 1 t4 w λt5=>aQ .add t5 (i64 1) λt6=>eF t2 λt7=>aZ 1 t7 λt8=>stW 1 t8 t6 w λw1=>ldW false 1 v0 w1 λt9=>aC P0 82 [t9] w1 λt10 w2=>stW 1 v1 t10 w2 λw3=>ldW false 1 v0 w3 λt11=>aC P0 116 [t11,(str [41])] w3 λt12 w4=>K (.tuple #[]) w4
theorem XO{K:Q0}(h:aEq v0 v1 w K):aC P0 262 [v0,v1] w K:=
 tie _ 262 Tryz.f262 UD _ w K 2 _ rfl mixed Tryz.func262 (by kernel_rfl) (by kernel_rfl) Tryz.call262 h
def UC:cO:={js:=[],ds:=[]}
def aEp(v0 v1 v2:Value)(w:World)(K:Q0):=ldW false 1 v0 w λt3=>ldW true 3 v1 w λt4=>aC P0 264 [t3,t4] w λt5 w1=>stW 5 v2 t5 w1 λw2=>K (.tuple #[]) w2
theorem XN{K:Q0}(h:aEp v0 v1 v2 w K):aC P0 263 [v0,v1,v2] w K:=
 tie _ 263 Tryz.f263 UC _ w K 3 _ rfl mixed Tryz.func263 (by kernel_rfl) (by kernel_rfl) Tryz.call263 h
def UB:cO:={js:=[(18,⟨[],[],7⟩),(16,⟨[6],[],5⟩),(8004,⟨[23],[],21⟩)],ds:=[(31,⟨[0,1,2,6],[[],[0],[],[2],[2,3],[0,1,2,3,4],[0,1,2,3,4,5],[0,1,2,3,4,5,6]]⟩),(27,⟨[0,1,2,6],[[],[0],[],[2],[2,3],[0,1,2,3,4],[0,1,2,3,4,5],[0,1,2,3,4,5,6]]⟩),(17,⟨[0,2,3,4,5],[[],[0],[0,1],[],[3],[0,1,2,3,4],[],[0,1,2,3,4,5,6]]⟩),(11,⟨[0,2,3,4],[[],[0],[],[2],[0,1,2,3],[0,1,2,3,4]]⟩)]}
def aEo(v0 v1:Value)(w:World)(K:Q0):=eW 73 v1 w λt3 w1=>bQ 93 zL4 w1 λt4 w2=>eF v0 λt9=>aZ 1 t9 λt10=>ldW false 1 t10 w2 λt11=>aQ .add t11 (i64 1) λt12=>eF v0 λt13=>aZ 1 t13 λt14=>stW 1 t14 t12 w2 λw3=>aC P0 29 [v0] w3 λt16 w4=>bQ 73 zL1 w4 λt5 w5=>stW 3 t5 t16 w5 λw6=>aZ 0 t5 λt17=>ldW false 1 t17 w6 λt18=>aQ .neq t18 (i64 1) λt19=>GdW (isB t19 false) [undef] w6 (λJ7=>aZ 1 t5 λt21=>ldW false 1 t21 w6 λt22=>aQ .neq t22 (str [102,111,114]) λt23=>J7 [t23] w6) λs7 _ w8=>cV t19 (.bool true) (s7.getD 0 undef) λt24=>aS t24 (aZ 2 t3 λt27=>ldW false 1 t27 w8.drew λt28=>aC P0 261 [v0,(str [93])] w8.drew λt26 w9=>(ldW false 1 t27 w9 λx=>x=t28)/\dJ [(i64 0),(str []),sN,sN,(i64 0)] [(0,1,(i64 7)),(2,1,t26),(4,1,t28)] λc10=>stW 5 t4 (.agg c10.toArray) w9 λw11=>ldW true 5 t4 w11 λr12=>K r12 w11) (eF v0 λt31=>aZ 1 t31 λt32=>ldW false 1 t32 w8 λt33=>aQ .add t33 (i64 1) λt34=>eF v0 λt35=>aZ 1 t35 λt36=>stW 1 t36 t34 w8 λw13=>bU (λJ14=>aZ 2 t3 λt40=>ldW false 1 t40 w13.drew λt41=>(aC P0 46 [v0,(i64 1)] w13.drew λt38 w15=>(ldW false 1 t40 w15 λx=>x=t41)/\lT false 1 1 t38 λt39=>dJ [(i64 0),(str []),sN,sN,(i64 0)] [(0,1,(i64 29)),(1,1,t39),(4,1,t41)] λc16=>bQ 93 zL4 w15 λt6 w17=>(ldW false 1 t40 w17 λx=>x=t41)/\stW 5 t6 (.agg c16.toArray) w17 λw18=>J14 [t6] w18)/\(bQ 93 zL4 w13.drew λt6 w19=>(ldW false 1 t40 w19 λx=>x=t41)/\aC P0 46 [v0,(i64 1)] w19 λt38 w20=>(ldW false 1 t40 w20 λx=>x=t41)/\lT false 1 1 t38 λt39=>dJ [(i64 0),(str []),sN,sN,(i64 0)] [(0,1,(i64 29)),(1,1,t39),(4,1,t41)] λc21=>stW 5 t6 (.agg c21.toArray) w20 λw22=>J14 [t6] w22)) λs14 _ w23=>bU (λJ24=>aC P0 46 [v0,(i64 1)] w23 λt44 w25=>bQ 73 zL1 w25 λt7 w26=>stW 3 t7 t44 w26 λw27=>aZ 1 t7 λt45=>ldW false 1 t45 w27 λt46=>aQ .neq t46 (str [105,110]) λt47=>aS t47 (aZ 2 t7 λt48=>ldW false 1 t48 w27 λt49=>aC P0 31 [(i64 50),t49] w27 λt50 w28=>J24 [] w28) (J24 [] w27)) λs24 _ w29=>aZ 2 (s14.getD 0 undef) λt51=>ldW false 1 t51 w29.drew λt52=>aC P0 82 [v0] w29.drew λt54 w30=>(ldW false 1 t51 w30 λx=>x=t52)/\dN 3 1 [(i64 0)] [(0,1,t54)] w30 λt55 w31=>(ldW false 1 t51 w31 λx=>x=t52)/\dF P0 (Builtin.append_ #[30,30] 30 #[t52,t55]) w31 λt56 w32=>aZ 2 (s14.getD 0 undef) λt57=>stW 1 t57 t56 w32 λw33=>aC P0 116 [v0,(str [58])] w33 λt59 w34=>aZ 2 (s14.getD 0 undef) λt60=>ldW false 1 t60 w34.drew λt61=>aC P0 82 [v0] w34.drew λt63 w35=>(ldW false 1 t60 w35 λx=>x=t61)/\dN 3 1 [(i64 0)] [(0,1,t63)] w35 λt64 w36=>(ldW false 1 t60 w36 λx=>x=t61)/\dF P0 (Builtin.append_ #[30,30] 30 #[t61,t64]) w36 λt65 w37=>aZ 2 (s14.getD 0 undef) λt66=>stW 1 t66 t65 w37 λw38=>aC P0 116 [v0,(str [93])] w38 λt68 w39=>ldW true 5 (s14.getD 0 undef) w39 λt69=>stW 5 t4 t69 w39 λw40=>ldW true 5 t4 w40 λr41=>K r41 w40)
theorem XM{K:Q0}(h:aEo v0 v1 w K):aC P0 264 [v0,v1] w K:=
 tie _ 264 Tryz.f264 UB _ w K 2 _ rfl mixed Tryz.func264 (by kernel_rfl) (by kernel_rfl) Tryz.call264 h
def UA:cO:={js:=[],ds:=[]}
def aEn(v0 v1 v2:Value)(w:World)(K:Q0):=ldW false 1 v0 w λt3=>ldW true 3 v1 w λt4=>aC P0 266 [t3,t4] w λt5 w1=>stW 5 v2 t5 w1 λw2=>K (.tuple #[]) w2
theorem XL{K:Q0}(h:aEn v0 v1 v2 w K):aC P0 265 [v0,v1,v2] w K:=
 tie _ 265 Tryz.f265 UA _ w K 3 _ rfl mixed Tryz.func265 (by kernel_rfl) (by kernel_rfl) Tryz.call265 h
def Uz:cO:={js:=[(43,⟨[],[],6⟩),(45005,⟨[74],[],71⟩),(45011,⟨[68],[],65⟩),(33,⟨[],[],7⟩),(20,⟨[],[],7⟩),(10,⟨[],[],6⟩)],ds:=[(42,⟨[0,1,2,3,6,7,8,12,14],[[],[0],[],[2],[2,3],[0,1,2,3,4],[],[6],[],[0,1,2,3,4,5,8],[0,1,2,3,4,5,8,9],[0,1,2,3,4,5,6,7,8,9,10],[0,1,2,3,4,5,6,7],[0,1,2,3,4,5,6,7,8,9,10,11,12],[0,1,2,3,4,5,6,7,8,9,10,11,12,13],[0,1,2,3,4,5,6,7,8,9,10,11,12,13,14]]⟩)]}
def aEm(v0 v1:Value)(w:World)(K:Q0):=eW 73 v1 w λt3 w1=>bQ 93 zL4 w1 λt4 w2=>eF v0 λt8=>aZ 1 t8 λt9=>ldW false 1 t9 w2 λt10=>aQ .add t10 (i64 1) λt11=>eF v0 λt12=>aZ 1 t12 λt13=>stW 1 t13 t11 w2 λw3=>aZ 2 t3 λt14=>ldW false 1 t14 w3 λt15=>dJ [(i64 0),(str []),sN,sN,(i64 0)] [(0,1,(i64 8)),(4,1,t15)] λc4=>bQ 93 zL4 w3 λt5 w5=>stW 5 t5 (.agg c4.toArray) w5 λw6=>aC P0 28 [v0] w6 λt18 w7=>cY [] w7 λs8 _ w9 L8=>aC P0 52 [v0,(str [125])] w9 λt20 w10=>unW .not t20 λt21=>aS t21 (aC P0 48 [v0] w10 λt23 w11=>bQ 73 zL1 w11 λt6 w12=>stW 3 t6 t23 w12 λw13=>bU (λJ14=>aZ 0 t6 λt24=>ldW false 1 t24 w13 λt25=>aQ .eql t25 (i64 3) λt30=>aS t30 (ldW true 3 t6 w13 λt32=>aC P0 47 [v0,t32] w13 λt33 w15=>aZ 1 t6 λt34=>stW 1 t34 t33 w15 λw16=>J14 [] w16) (aQ .eql t25 (i64 1) λt36=>aS t36 (J14 [] w13) (aZ 2 t6 λt26=>ldW false 1 t26 w13 λt27=>aC P0 31 [(i64 50),t27] w13 λt28 w17=>J14 [] w17))) λs14 _ w18=>bU (λJ19=>aZ 3 t5 λt37=>ldW false 1 t37 w18 λt38=>aZ 1 t6 λt39=>ldW false 1 t39 w18 λt40=>aC P0 81 [t38,t40] w18 λt41 w20=>aS t41 (aZ 2 t6 λt42=>ldW false 1 t42 w20 λt43=>aC P0 31 [(i64 2),t43] w20 λt44 w21=>J19 [] w21) (J19 [] w20)) λs19 _ w22=>aC P0 116 [v0,(str [61])] w22 λt46 w23=>aZ 3 t5 λt47=>ldW false 1 t47 w23.drew λt48=>aZ 1 t6 λt49=>ldW false 1 t49 w23.drew λt50=>aZ 2 t5 λt53=>ldW false 1 t53 w23.drew λt54=>dN 9 1 [(str [])] [(0,1,t50)] w23.drew λt51 w24=>(ldW false 1 t53 w24 λx=>x=t54)/\(ldW false 1 t47 w24 λx=>x=t48)/\dF P0 (Builtin.append_ #[24,24] 24 #[t48,t51]) w24 λt52 w25=>(ldW false 1 t53 w25 λx=>x=t54)/\aZ 3 t5 λt59=>aC P0 82 [v0] w25 λt56 w26=>(ldW false 1 t53 w26 λx=>x=t54)/\dN 3 1 [(i64 0)] [(0,1,t56)] w26 λt57 w27=>(ldW false 1 t53 w27 λx=>x=t54)/\dF P0 (Builtin.append_ #[30,30] 30 #[t54,t57]) w27 λt58 w28=>stW 1 t59 t52 w28 λw29=>aZ 2 t5 λt60=>stW 1 t60 t58 w29 λw30=>bU (λJ31=>aC P0 52 [v0,(str [44])] w30 λt62 w32=>unW .not t62 λt63=>GdW (isB t63 true) [undef] w32 (λJ33=>aC P0 29 [v0] w32 λt66 w34=>lT false 0 1 t66 λt67=>aQ .neq t67 (i64 5) λt68=>J33 [t68] w34) λs33 _ w35=>cV t63 (s33.getD 0 undef) (.bool false) λt69=>GdW (isB t69 true) [undef] w35 (λJ36=>dN 9 1 [(str [])] [(0,1,(str [125]))] w35 λt72 w37=>aC P0 49 [v0,t72] w37 λt73 w38=>unW .not t73 λt74=>J36 [t74] w38) λs36 _ w39=>cV t69 (s36.getD 0 undef) (.bool false) λt75=>aS t75 (aC P0 29 [v0] w39 λt77 w40=>lT false 2 1 t77 λt78=>aC P0 31 [(i64 50),t78] w40 λt79 w41=>J31 [] w41) (J31 [] w39)) λs31 _ w42=>aC P0 28 [v0] w42 λt81 w43=>L8 [] w43) (ldW true 5 t5 w10 λt82=>stW 5 t4 t82 w10 λw44=>ldW true 5 t4 w44 λr45=>K r45 w44)
theorem XK{K:Q0}(h:aEm v0 v1 w K):aC P0 266 [v0,v1] w K:=
 tie _ 266 Tryz.f266 Uz _ w K 2 _ rfl mixed Tryz.func266 (by kernel_rfl) (by kernel_rfl) Tryz.call266 h
def Uy:cO:={js:=[],ds:=[(0,⟨[0,1,2,3,4,5,6,7,8,9,10,11,12,16],[[],[0],[],[],[],[4],[],[6],[3,4,5,6,7],[],[],[9,10],[9,10,11],[2,3,4,5,6,7,8,9,10,11,12],[2,3,4,5,6,7,8,9,10,11,12,13],[0,1,2,3,4,5,6,7,8,9,10,11,12,13,14],[0,1,2,3,4,5,6,7,8,9,10,11,12,13,14,15],[0,1,2,3,4,5,6,7,8,9,10,11,12,13,14,15,16]]⟩)]}
def aEl(v0 v1 v2 v3 v4 v5:Value)(w:World)(K:Q0):=aZ 2 v0 λt6=>ldW false 1 t6 w.drew λt7=>ldW false 1 v1 w.drew λt8=>ldW false 1 v2 w.drew λt9=>ldW false 1 v3 w.drew λt10=>aQ .add t10 (i64 2) λt11=>ldW false 1 v4 w.drew λt12=>aQ .sub t12 (i64 1) λt13=>mY t9 (some t11) (some t13) λt14=>ldW false 1 v5 w.drew λt15=>ldW false 1 v3 w.drew λt16=>aQ .add t15 t16 λt17=>aQ .add t17 (i64 2) λt18=>aC P0 279 [t8,t14,t18] w.drew λt19 w1=>(ldW false 1 t6 w1 λx=>x=t7)/\dN 3 1 [(i64 0)] [(0,1,t19)] w1 λt20 w2=>(ldW false 1 t6 w2 λx=>x=t7)/\dF P0 (Builtin.append_ #[30,30] 30 #[t7,t20]) w2 λt21 w3=>aZ 2 v0 λt22=>stW 1 t22 t21 w3 λw4=>K (.tuple #[]) w4
theorem XJ{K:Q0}(h:aEl v0 v1 v2 v3 v4 v5 w K):aC P0 278 [v0,v1,v2,v3,v4,v5] w K:=
 tie _ 278 Tryz.f278 Uy _ w K 6 _ rfl mixed Tryz.func278 (by kernel_rfl) (by kernel_rfl) Tryz.call278 h
def Ux:cO:={js:=[(4,⟨[],[],8⟩)],ds:=[(11,⟨[0,1,2,3,4,5,6,7,8,9,10,12],[[],[],[],[2],[2,3],[2,3,4],[],[6],[6,7],[6,7,8],[0,1,2,3,4,5,6,7,8,9],[0,1,2,3,4,5,6,7,8,9,10],[0,1,2,3,4,5,6,7,8,9,10,11]]⟩),(8,⟨[0,1,2,3,4,5,6,7,8,9],[[],[0],[0,1],[0,1,2],[],[],[5],[5,6],[5,6,7],[4,5,6,7,8],[0,1,2,3,4,5,6,7,8,9]]⟩)]}
def aEk(v0 v1 v2:Value)(w:World)(K:Q0):=aC P0 26 [v1] w λt13 w1=>dO 0 t13 λt14=>dO 1 t13 λt15=>bU (λJ2=>eqW .ptr true t15 (.pointer none) λt17=>aS t17 (eF t15 λt19=>aZ 0 t19 λt20=>ldW false 1 t20 w1.drew λt21=>eF t15 λt24=>aZ 2 t24 λt25=>ldW false 1 t25 w1.drew λt26=>aQ .add v2 t26 λt27=>aC P0 31 [t21,t27] w1.drew λt28 w3=>J2 [] w3) (J2 [] w1)) λs2 _ w4=>eF v0 λt32=>aZ 3 t32 λt33=>ldW false 1 t33 w4.drew λt34=>eF v0 λt36=>aZ 4 t36 λt37=>ldW false 1 t37 w4.drew λt38=>dJ [sN,(i64 0),(i64 0),(.pointer none),(i64 0),(.bool false)] [(0,1,t14),(2,1,v2),(3,1,t34),(4,1,t38)] λc5=>eW 70 (.agg c5.toArray) w4.drew λt40 w6=>aC P0 82 [t40] w6 λt42 w7=>aC P0 46 [t40,(i64 0)] w7 λt44 w8=>K t42 w8
theorem XI{K:Q0}(h:aEk v0 v1 v2 w K):aC P0 279 [v0,v1,v2] w K:=
 tie _ 279 Tryz.f279 Ux _ w K 3 _ rfl mixed Tryz.func279 (by kernel_rfl) (by kernel_rfl) Tryz.call279 h
end
end Go.Proofs.YtghhmpppnmoeoaaGreatDoor
