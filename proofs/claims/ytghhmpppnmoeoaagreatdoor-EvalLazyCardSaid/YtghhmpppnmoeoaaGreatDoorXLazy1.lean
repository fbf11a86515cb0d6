/- One plain sentence: contracts and plain laws that the claim rests on. Conditions: those that each states. -/
import Derived.Orders
import Derived.Laws.World
import Derived.KernelRfl
import Derived.Laws.Strings
import Derived.Tactics
import Derived.Scope
import Derived.Below
import Derived.Laws.AppendOwn
import Derived.Laws.BytesArg
import Derived.Test.YtghhmpppnmoeoaaGreatDoorProg
import Derived.Recover
set_option linter.all false
set_option linter.unusedSimpArgs false
set_option linter.unusedVariables false
set_option linter.unusedSectionVars false
set_option maxRecDepth 100000
abbrev _root_.bE := @Option.some.injEq
abbrev _root_.dG := @List.map_cons
abbrev _root_.aE := @if_neg
abbrev _root_.aB := @List.length_cons
abbrev _root_.bU := @List.length_take
abbrev _root_.rC := @List.length_set
abbrev _root_.eS := @Nat.add_zero
abbrev _root_.CW := @Array.length_toList
abbrev _root_.bL := @ne_eq
abbrev _root_.rY := @not_true_eq_false
abbrev _root_.kH := @if_false
abbrev _root_.aK := @cond_false
abbrev _root_.aN := @cond_true
abbrev _root_.xE := @Array.ext'
abbrev _root_.zT := @Array.all_eq_true_iff_forall_mem
abbrev _root_.gF := @Option.map_some
abbrev _root_.EA := @Nat.succ_mul
abbrev _root_.uQ := @Nat.add_comm
abbrev _root_.nB := @Nat.eq_zero_or_pos
abbrev _root_.gV := @Nat.mod_eq_of_lt
abbrev _root_.gY := @Nat.eq_of_beq_eq_true
abbrev _root_.iZ := @Nat.le_of_ble_eq_true
abbrev _root_.aJ := @if_pos
abbrev _root_.bQ := @List.mem_cons
abbrev _root_.dO := @Nat.lt_or_ge
abbrev _root_.iB := @Array.getD_eq_getD_getElem?
abbrev _root_.uP := @Ne.symm
abbrev _root_.aL := @Bool.and_eq_true
abbrev _root_.bW := @List.all_eq_true
abbrev _root_.tG := @List.mem_range
abbrev _root_.cM := @Bool.or_eq_true
abbrev _root_.fO := @beq_iff_eq
abbrev _root_.bA := @decide_eq_true_eq
abbrev _root_.dQ := @Bool.not_eq_true'
abbrev _root_.eP := @List.mem_append_left
abbrev _root_.gN := @List.mem_filterMap
abbrev _root_.cW := @List.mem_append_right
abbrev _root_.aU := @List.mem_cons_of_mem
abbrev _root_.fZ := @Prod.mk.injEq
abbrev _root_.bD := @List.mem_cons_self
abbrev _root_.aS := @Nat.le_refl
abbrev _root_.bJ := @List.mem_of_getElem?
abbrev _root_.jG := @List.mem_filter
abbrev _root_.jX := @List.size_toArray
abbrev _root_.kT := @List.mem_map
abbrev _root_.bP := @List.mem_singleton
abbrev _root_.jF := @List.nodup_cons
abbrev _root_.gM := @if_true
abbrev _root_.fH := @Bool.false_eq_true
abbrev _root_.cI := @Nat.le_trans
abbrev _root_.dA := @List.cons_append
abbrev _root_.cO := @Nat.lt_of_lt_of_le
abbrev _root_.iO := @Bool.true_and
abbrev _root_.gU := @Iff.rfl
abbrev _root_.eD := @Nat.mul_le_mul_right
abbrev _root_.aW := @Int.toNat_natCast
abbrev _root_.bG := @List.eq_nil_of_length_eq_zero
abbrev _root_.aV := @Nat.zero_add
abbrev _root_.dV := @List.append_nil
abbrev _root_.lR := @Bool.eq_iff_iff
abbrev _root_.eF := @List.cons.injEq
abbrev _root_.aH := @decide_false
abbrev _root_.aM := @List.length_nil
abbrev _root_.dZ := @List.take_of_length_le
abbrev _root_.dH := @List.take_add_one
abbrev _root_.fB := @List.drop_of_length_le
abbrev _root_.fD := @List.not_mem_nil
abbrev _root_.qV := @or_false
abbrev _root_.aX := @List.length_append
abbrev _root_.dC := @List.mem_append
abbrev _root_.qO := @Nat.zero_mul
abbrev _root_.qP := @Nat.pow_succ
abbrev _root_.gB := @Nat.add_mul
abbrev _root_.mE := @Nat.mul_comm
abbrev _root_.gJ := @List.all_cons
abbrev _root_.jZ := @UInt8.toNat_inj
abbrev _root_.jM := @Nat.pow_le_pow_right
abbrev _root_.dP := @List.length_pos_iff
abbrev _root_.tH := @List.mem_of_mem_take
abbrev _root_.BX := @List.mem_of_mem_drop
abbrev _root_.kI := @List.take_append_drop
abbrev _root_.aQ := @List.length_drop
abbrev _root_.tF := @Nat.mul_add
abbrev _root_.jY := @Nat.mul_le_mul_left
abbrev _root_.BW := @Nat.mul_one
abbrev _root_.dM := @true_and
abbrev _root_.kX := @and_true
abbrev _root_.kV := @Bool.and_true
abbrev _root_.zS := @Bool.false_and
abbrev _root_.zR := @Bool.true_or
abbrev _root_.mF := @Bool.false_or
abbrev _root_.kU := @Bool.not_true
abbrev _root_.iL := @Bool.not_false
abbrev _root_.aY := @List.set_cons_zero
abbrev _root_.bB := @List.set_cons_succ
abbrev _root_.aG := @List.getD_cons_zero
abbrev _root_.dE := @List.getD_cons_succ
abbrev _root_.gA := @Nat.zero_le
abbrev _root_.aD := @exists_eq_left'
abbrev _root_.aF := @Nat.lt_add_one
abbrev _root_.aA := @Nat.zero_lt_succ
abbrev _root_.aI := @decide_true
abbrev _root_.cP := @decide_eq_false
abbrev _root_.fM := @Int.lt_irrefl
abbrev _root_.bO := @List.take_length
abbrev _root_.bI := @decide_eq_true
abbrev _root_.xC := @decide_not
abbrev _root_.dL := @List.length_map
abbrev _root_.fR := @List.map_append
abbrev _root_.qZ := @List.length_zip
abbrev _root_.pG := @List.take_succ_cons
abbrev _root_.cQ := @List.drop_succ_cons
abbrev _root_.cA := @List.drop_eq_getElem_cons
abbrev _root_.fE := @Option.some.inj
abbrev _root_.oF := @Int.le_refl
abbrev _root_.EN := @Nat.add_sub_cancel
abbrev _root_.zO := @List.take_take
abbrev _root_.kA := @Nat.min_eq_left
abbrev _root_.EO := @List.take_zero
abbrev _root_.dS := @List.drop_eq_nil_iff
abbrev _root_.tI := @Int.tmod_eq_emod_of_nonneg
abbrev _root_.dR := @List.drop_length
abbrev _root_.oG := @Decidable.not_not
abbrev _root_.fF := @List.nil_append
abbrev _root_.eV := @List.append_assoc
abbrev _root_.zQ := @List.any_eq_false
abbrev _root_.uR := @List.getElem_mem
abbrev _root_.tE := @Nat.mul_le_mul
abbrev _root_.gT := @List.drop_drop
abbrev _root_.qE := @List.take_append_of_le_length
abbrev _root_.pJ := @UInt8.toNat_lt
abbrev _root_.fU := @Prod.ext
abbrev _root_.oD := @List.map_nil
abbrev _root_.BY := @List.drop_append_of_le_length
abbrev _root_.cV := @List.drop_zero
abbrev _root_.tJ := @Array.size_replicate
abbrev _root_.iK := @UInt8.toNat_ofNat'
abbrev _root_.fP := @Classical.byContradiction
abbrev _root_.kY := @Bool.or_eq_false_iff
abbrev _root_.sD := @Classical.not_not
abbrev _root_.CS := @List.replicate_succ
abbrev _root_.CE := @List.all_append
abbrev _root_.zP := @List.flatMap_cons
abbrev _root_.eA := @Nat.lt_succ_self
abbrev _root_.lI := @List.count_append
abbrev _root_.CC := @List.count_cons
abbrev _root_.EP := @List.isPrefixOf_iff_prefix
abbrev _root_.pK := @List.perm_middle
abbrev _root_.EM := @Nat.lt_of_le_of_lt
abbrev _root_.wA := @Nat.add_le_add_left
abbrev _root_.eU := @List.nodup_append
abbrev _root_.CU := @List.perm_iff_count
abbrev _root_.sC := @UInt8.ofNat_toNat
abbrev _root_.Ca := @Array.replicate_succ
abbrev _root_.BZ := @Array.replicate_zero
abbrev _root_.CV := @List.append_toArray
namespace Go.Eng
section
open Go
variable{w:World}{K:Value->World->Prop}{cs:List Value}{G:Nat->Prop}{T:TypeId}{i:Nat}{n:Nat}{v:Value}{w':World}{P:Program}{c:UInt8}{S:Nat->Prop}
abbrev Fr:=Nat->Value
def upd(f:Fr)(d:Option Nat)(v:Value):Fr:=
 match d with
 |none=>f
 |some d=>λj=>bif Nat.beq j d then v else f j
def ev(f:Fr):Operand->Value
 |.tmp t=>f t
 |.const v=>v
 |.global g=>.pointer (some ⟨g,0,none⟩)
 |.func g=>.func (.func g) #[] #[]
def evl(f:Fr)(a:Array Operand):List Value:=a.toList.map (ev f)
def ofL(l:List UInt8):ByteArray:=⟨l.toArray⟩
theorem eO(l:List UInt8):(ofL l).data.toList=l:=by simp[ofL]
theorem fL(l:List UInt8):(ofL l).size=l.length:=by simp[ofL,ByteArray.size]
theorem Mm{a b:List UInt8}:ofL a=ofL b↔a=b:=by
 constructor
 ·intro h;have:=congrArg (λs=>s.data.toList) h;simpa[ofL]using this
 ·rintro rfl;rfl
class HX where
 X:List PanicEntry->World->Prop
@[reducible] def noX:HX:=⟨λ_ _=>False⟩
def ES[HX](K:Value->World->Prop):Ending->World->Prop
 |.returned v,w=>K v w
 |.panicked c,w=>HX.X c w
 |.outgrown,_=>False
theorem ES.mono[HX]{K':Value->World->Prop}(hk:∀v w,K v w->K' v w){e:Ending}(h:ES K e w):ES K' e w:=by
 cases e with
 |returned v=>exact hk _ _ h
 |panicked c=>exact h
 |outgrown=>exact h.elim
def Res[HX](P:Program)(K:Value->World->Prop):Result Next->Prop
 |.ok (.value v) w=>K v w
 |.ok .skip w=>K undef w
 |.ok (.enter g args) w=>Calls P g args w (ES K)
 |.ok (.row r args) w=>Rows P r args w K
 |.halt (.panic v) w=>HX.X [{v,recovered:=false}] w
 |_=>False
theorem Res.upon[HX]{o:Oper}{a:Act}{next:Act->World->Prop}{Q:Exit->Act->World->Prop}
  (hk:∀v w,K v w->next (a.put o.dst v) w)(hx:∀c w,HX.X c w->Q (.panic c) a w){r:Result Next}(h:Res P K r):o.upon P a next Q r:=by
 cases r with
 |ok n w=>
  cases n<;>simp only[Res]at h<;>simp only[Oper.upon]<;>first
   |exact hk _ _ h
   |exact h.elim
   |exact h.mono λ_ _ he=>hk _ _ he
   |(refine h.mono λe w' he=>?_
     cases e with
     |returned v=>exact hk _ _ he
     |panicked c=>exact hx _ _ he
     |outgrown=>exact he.elim)
 |halt x w=>
  cases x<;>simp only[Res]at h<;>simp only[Oper.upon]<;>first
   |exact h.elim
   |exact hx _ _ h
theorem Res.mono[HX]{K':Value->World->Prop}(hk:∀v w,K v w->K' v w){r:Result Next}(h:Res P K r):Res P K' r:=by
 cases r with
 |ok n w=>
  cases n<;>simp only[Res]at h⊢<;>first
   |exact hk _ _ h
   |exact h.elim
   |exact h.mono λ_ _ he=>hk _ _ he
   |exact h.mono λe w' he=>he.mono hk
 |halt x w=>
  cases x<;>simp only[Res]at h⊢<;>first
   |exact h.elim
   |exact h
def kS(c:Bool)(A:Prop):Prop:=bif c then A else False
theorem kS.out{c:Bool}{A:Prop}(h:kS c A):c=true/\A:=by
 cases c with
 |true=>exact⟨rfl,h⟩
 |false=>exact h.elim
def cR(c a b:Value)(K:Value->Prop):Prop:=match c with|.bool t=>K (bif t then a else b)|_=>False
def dU(v:Value)(K:Value->Prop):Prop:=
 match v with
 |.pointer (some _)=>K v
 |.func (.func _) _ _=>K v
 |.iface _ _=>K v
 |_=>False
def aP(op:BinOp)(x y:Value)(K:Value->Prop):Prop:=
 match x,y with
 |.int k a,.int k' b=>
  match op with
  |.shl=>0<=b/\K (.int k (k.wrap (a*2^min b.toNat k.bits)))
  |.shr=>0<=b/\K (.int k (a.fdiv (2^min b.toNat k.bits)))
  |.add=>k=k'/\K (.int k (k.wrap (a+b)))
  |.sub=>k=k'/\K (.int k (k.wrap (a-b)))
  |.mul=>k=k'/\K (.int k (k.wrap (a*b)))
  |.quo=>k=k'/\b≠0/\K (.int k (k.wrap (a.tdiv b)))
  |.rem=>k=k'/\b≠0/\K (.int k (a.tmod b))
  |.and=>k=k'/\K (.int k (k.wrap (BitVec.ofInt k.bits a&&&BitVec.ofInt k.bits b).toNat))
  |.or=>k=k'/\K (.int k (k.wrap (BitVec.ofInt k.bits a|||BitVec.ofInt k.bits b).toNat))
  |.xor=>k=k'/\K (.int k (k.wrap (BitVec.ofInt k.bits a^^^BitVec.ofInt k.bits b).toNat))
  |.andNot=>k=k'/\K (.int k (k.wrap (BitVec.ofInt k.bits a&&&~~~BitVec.ofInt k.bits b).toNat))
  |.eql=>k=k'/\K (.bool (decide (a=b)))
  |.neq=>k=k'/\K (.bool (decide (a≠b)))
  |.lss=>k=k'/\K (.bool (decide (a<b)))
  |.leq=>k=k'/\K (.bool (decide (a<=b)))
  |.gtr=>k=k'/\K (.bool (decide (b<a)))
  |.geq=>k=k'/\K (.bool (decide (b<=a)))
 |.string a,.string b=>
  match op with
  |.add=>((a.size+b.size:Nat):Int)<=IntKind.i64.max/\K (.string (a++b))
  |.eql=>K (.bool (decide (a.data.toList=b.data.toList)))
  |.neq=>K (.bool (decide (a.data.toList≠b.data.toList)))
  |.lss=>K (.bool (Op.bytesLess a.data.toList b.data.toList))
  |.leq=>K (.bool (Op.bytesLess a.data.toList b.data.toList||decide (a.data.toList=b.data.toList)))
  |.gtr=>K (.bool (!(Op.bytesLess a.data.toList b.data.toList||decide (a.data.toList=b.data.toList))))
  |.geq=>K (.bool (!Op.bytesLess a.data.toList b.data.toList))
  |_=>False
 |_,_=>False
inductive EqK|bool|ptr|slice|map|func
def EqK.of:TypeDesc->Option EqK
 |.bool=>some .bool
 |.pointer _=>some .ptr
 |.slice _=>some .slice
 |.map _ _=>some .map
 |.func _ _ _=>some .func
 |_=>none
def eqW(k:EqK)(n:Bool)(x y:Value)(K:Value->Prop):Prop:=
 match k,x,y with
 |.bool,.bool a,.bool b=>K (.bool (n^^(a==b)))
 |.ptr,.pointer none,.pointer b=>K (.bool (n^^b.isNone))
 |.ptr,.pointer (some _),.pointer none=>K (.bool n)
 |.slice,.slice none _ _,.slice b _ _=>K (.bool (n^^b.isNone))
 |.slice,.slice (some _) _ _,.slice none _ _=>K (.bool n)
 |.map,.map none,.map b=>K (.bool (n^^b.isNone))
 |.map,.map (some _),.map none=>K (.bool n)
 |.func,.nilFunc,.nilFunc=>K (.bool (!n))
 |.func,.nilFunc,.func _ _ _=>K (.bool n)
 |.func,.func _ _ _,.nilFunc=>K (.bool n)
 |_,_,_=>False
def unW(op:UnOp)(x:Value)(K:Value->Prop):Prop:=
 match op,x with
 |.not,.bool b=>K (.bool (!b))
 |.neg,.int k n=>K (.int k (k.wrap (0-n)))
 |.xor,.int k n=>K (.int k (k.wrap (BitVec.ofInt k.bits (if k.signed then-1 else k.max)^^^BitVec.ofInt k.bits n).toNat))
 |_,_=>False
def sX(k:IntKind)(x:Value)(K:Value->Prop):Prop:=match x with|.int _ n=>K (.int k (k.wrap n))|_=>False
def VG(x:Value)(K:Value->Prop):Prop:=match x with|.int _ n=>K (.string (Utf8.encode n))|.string s=>K (.string s)|_=>False
def lL(agg:Bool)(off size:Nat)(x:Value)(K:Value->Prop):Prop:=
 match x with
 |.agg cs=>bif agg then K (.agg (cs.extract off (off+size)))else(∃c,cs[off]?=some c/\K c)
 |_=>False
def aZ(off:Nat)(x:Value)(K:Value->Prop):Prop:=
 match x with
 |.pointer (some a)=>K (.pointer (some (a.add off)))
 |_=>False
def dN(len:Option Nat)(size:Nat)(x i:Value)(K:Value->Prop):Prop:=
 match len,x,i with
 |none,.slice (some a) n _,.int _ i=>0<=i/\i<n/\K (.pointer (some (a.add (i.toNat*size))))
 |some n,.pointer (some a),.int _ i=>0<=i/\i<n/\K (.pointer (some (a.add (i.toNat*size))))
 |_,_,_=>False
def pI(x i:Value)(K:Value->Prop):Prop:=
 match x,i with
 |.string s,.int _ i=>0<=i/\∃b,s.data.toList[i.toNat]?=some b/\K (.int .u8 b.toNat)
 |_,_=>False
def Vf(len:Nat)(agg:Bool)(size:Nat)(x i:Value)(K:Value->Prop):Prop:=
 match i with
 |.int _ i=>0<=i/\i<len/\lL agg (i.toNat*size) size x K
 |_=>False
def bdW(x:Option Value)(dflt:Nat)(lim:Nat)(K:Nat->Prop):Prop:=
 match x with
 |none=>K dflt
 |some (.int _ i)=>0<=i/\i<=lim/\K i.toNat
 |some _=>False
def mW(x:Value)(lo hi:Option Value)(K:Value->Prop):Prop:=
 match x with
 |.string s=>bdW hi s.size s.size λh=>bdW lo 0 h λl=>K (.string (ofL ((s.data.toList.take h).drop l)))
 |_=>False
def kC(size:Nat)(x:Value)(lo hi mx:Option Value)(K:Value->Prop):Prop:=
 match x with
 |.slice a len cap=>bdW mx cap cap λm=>(bdW hi len m λh=>bdW lo 0 h λl=>
   K (.slice (if m=l then a else a.map (·.add (l*size))) (h-l) (m-l)))
 |_=>False
def Nr(n size:Nat)(x:Value)(lo hi mx:Option Value)(K:Value->Prop):Prop:=
 match x with
 |.pointer (some a)=>bdW mx n n λm=>(bdW hi n m λh=>bdW lo 0 h λl=>
   K (.slice (some (if m=l then a else a.add (l*size))) (h-l) (m-l)))
 |_=>False
def dK(i:Nat)(x:Value)(K:Value->Prop):Prop:=match x with|.tuple vs=>(match vs[i]? with|some v=>K v|none=>False)|_=>False
def dI(cells:List Value):List (Nat×Nat×Value)->(List Value->Prop)->Prop
 |[],K=>K cells
 |(off,size,v)::r,K=>v.cells.size=size/\off+size<=cells.length/\dI (cells.take off++(v.cells.toList++cells.drop (off+size))) r K
def iM(x:Value)(K:Value->Prop):Prop:=match x with|.string s=>K (.int .i64 s.size)|_=>False
def cY(x:Value)(K:Value->Prop):Prop:=match x with|.slice _ n _=>K (.int .i64 n)|_=>False
def Ox(x:Value)(K:Value->Prop):Prop:=match x with|.slice _ _ n=>K (.int .i64 n)|_=>False
def UV(x y:Value)(K:Value->Prop):Prop:=match x,y with|.int k a,.int _ b=>K (.int k (if b<a then b else a))|_,_=>False
def Yi(x y z:Value)(K:Value->Prop):Prop:=match x,y,z with|.int k a,.int _ b,.int _ c=>K (.int k (if c<(if b<a then b else a)then c else(if b<a then b else a)))|_,_,_=>False
def Qi(x y:Value)(K:Value->Prop):Prop:=match x,y with|.int k a,.int _ b=>K (.int k (if a<b then b else a))|_,_=>False
def jV(w:World)(a:Addr):Nat->Nat->Option (List Value)
 |_,0=>some []
 |i,n+1=>match w.cell? (a.add i)with|some v=>(jV w a (i+1) n).map (v::·)|none=>none
def ldW(agg:Bool)(n:Nat)(x:Value)(w:World)(K:Value->Prop):Prop:=
 match x with
 |.pointer (some a)=>bif agg then(∃l,jV w a 0 n=some l/\K (.agg l.toArray))else(∃v,w.cell? a=some v/\K v)
 |_=>False
def nH(P:Program)(s:Sem Value)(w:World)(K:Value->Prop):Prop:=∃v,s.run P w=.ok v w/\K v
def dF(P:Program)(s:Sem Value)(w:World)(K:Value->World->Prop):Prop:=match s.run P w with|.ok v w'=>K v w'|_=>False
def nN(P:Program)(s:Sem Unit)(w:World)(K:World->Prop):Prop:=match s.run P w with|.ok _ w'=>K w'|_=>False
def Pm[HX](P:Program)(s:Sem Next)(w:World)(K:Value->World->Prop):Prop:=Res P K (s.run P w)
def bN(T:TypeId)(zero:List Value)(w:World)(K:Value->World->Prop):Prop:=
 K (.pointer (some ⟨w.heap.size,0,none⟩)) (w.alloc (.cells zero.toArray T))
def eL(T:TypeId)(v:Value)(w:World)(K:Value->World->Prop):Prop:=
 K (.pointer (some ⟨w.heap.size,0,none⟩)) (w.alloc (.cells v.cells T))
def dJ(T:TypeId)(len:Nat)(zero:List Value)(parts:List (Nat×Nat×Value))(w:World)(K:Value->World->Prop):Prop:=
 dI zero parts λcs=>K (.slice (some ⟨w.heap.size,0,none⟩) len len) (w.alloc (.cells cs.toArray T))
def fG:Value->Bool
 |.agg _|.tuple _=>false
 |_=>true
def tO(a:Addr):List Value->Nat->World->(World->Prop)->Prop
 |[],_,w,K=>K w
 |v::r,i,w,K=>fG v=true/\(w.cell? (a.add i)).isSome=true/\w.frozen? (a.add i)=false/\tO a r (i+1) (w.setCell (a.add i) v) K
def stW(n:Nat)(x v:Value)(w:World)(K:World->Prop):Prop:=
 match x with
 |.pointer (some a)=>v.cells.size=n/\tO a v.cells.toList 0 w K
 |_=>False
def Yt[HX](P:Program)(g:FuncId)(args:List Value)(w:World)(K:Value->World->Prop):Prop:=
 Calls P g args.toArray w (ES K)
def ND[HX](x:Value)(w:World):Prop:=match x with|.iface T v=>HX.X [{v:=.iface T v,recovered:=false}] w|_=>False
def aC[HX](P:Program)(g:FuncId)(args:List Value)(w:World)(K:Value->World->Prop):Prop:=
 Res P K ((callFunc g args.toArray).run P w)
def oN[HX](P:Program)(v:Value)(args:List Value)(w:World)(K:Value->World->Prop):Prop:=
 Pm P (do let d<-Deferred.ofValue v args.toArray;invoke d.target d.args) w K
def aAV:TypeDesc->Bool
 |.struct _|.array _ _=>true
 |_=>false
def uN(P:Program)(T:TypeId):Bool:=match P.underlying T with|some d=>aAV d|none=>false
def jP(P:Program)(T:TypeId):Nat:=match P.info? T with|some i=>i.size|none=>0
def Cb(P:Program)(T:TypeId):Option Value:=match P.info? T with|some i=>i.zero|none=>none
def tT(places:Nat->Option (Nat×Nat))(f:Fr):List (Nat×Operand)->Option (List (Nat×Nat×Value))
 |[]=>some []
 |(i,x)::r=>match places i,tT places f r with
  |some (off,size),some l=>some ((off,size,ev f x)::l)
  |_,_=>none
def KM(P:Program)(fs:Array Field)(i:Nat):Option (Nat×Nat):=match fs[i]? with|some g=>some (g.offset,jP P g.type)|none=>none
def LR(P:Program)(T:TypeId)(f:Fr)(parts:List (Nat×Operand))(K:Value->Prop):Prop:=
 match P.underlying T,Cb P T with
 |some (.struct fs),some z=>
  (match tT (KM P fs) f parts with
   |some l=>kS (fs.all (λg=>(P.info? g.type).isSome)) (dI z.cells.toList l λcs=>K (.agg cs.toArray))
   |none=>False)
 |some (.array _ e),some z=>
  (match tT (λi=>some (i*jP P e,jP P e)) f parts with
   |some l=>kS (P.info? e).isSome (dI z.cells.toList l λcs=>K (.agg cs.toArray))
   |none=>False)
 |_,_=>False
def aDf(P:Program)(op:BinOp)(T:TypeId)(x y:Value)(K:Value->Prop):Prop:=
 match op,(match P.underlying T with|some d=>EqK.of d|none=>none)with
 |.eql,some k=>eqW k false x y K
 |.neq,some k=>eqW k true x y K
 |_,_=>aP op x y K
def Yp(P:Program)(s d:TypeId)(x:Value)(K:Value->Prop):Prop:=
 match P.underlying s,P.underlying d with
 |some (.int _),some (.int k)=>sX k x K
 |some (.int _),some .string=>VG x K
 |some .string,some .string=>VG x K
 |_,_=>False
def DW(P:Program)(T:TypeId)(x i:Value)(K:Value->Prop):Prop:=
 match P.underlying T with
 |some (.slice e)=>kS (P.info? e).isSome (dN none (jP P e) x i K)
 |some (.array n e)=>kS (P.info? e).isSome (dN (some n) (jP P e) x i K)
 |_=>False
def QT(P:Program)(T:TypeId)(x i:Value)(K:Value->Prop):Prop:=
 match P.underlying T with
 |some .string=>pI x i K
 |some (.array n e)=>kS (P.underlying e).isSome (Vf n (uN P e) (jP P e) x i K)
 |_=>False
def KG(P:Program)(T:TypeId)(x:Value)(lo hi mx:Option Value)(K:Value->Prop):Prop:=
 match P.underlying T with
 |some .string=>kS (!mx.isSome) (mW x lo hi K)
 |some (.slice e)=>kS (!mx.isSome||hi.isSome) (kS (P.info? e).isSome (kC (jP P e) x lo hi mx K))
 |some (.array n e)=>kS (!mx.isSome||hi.isSome) (kS (P.info? e).isSome (Nr n (jP P e) x lo hi mx K))
 |_=>False
def Ft(P:Program)(b:Builtin)(argTypes:Array TypeId)(args:List Value)(K:Value->Prop):Prop:=
 match b,args with
 |.len,[x]=>(match argTypes[0]? with
   |some T=>(match P.underlying T with
    |some .string=>iM x K
    |some (.slice _)=>cY x K
    |some (.array n _)=>K (.int .i64 n)
    |_=>False)
   |none=>False)
 |.cap,[x]=>(match argTypes[0]? with
   |some T=>(match P.underlying T with
    |some (.slice _)=>Ox x K
    |_=>False)
   |none=>False)
 |.min,[x,y]=>UV x y K
 |.min,[x,y,z]=>Yi x y z K
 |.max,[x,y]=>Qi x y K
 |_,_=>False
def Mi(P:Program)(f:Fr)(op:Op)(K:Value->Prop):Prop:=
 match op with
 |.move x|.assign x=>K (ev f x)
 |.pick c a b=>cR (ev f c) (ev f a) (ev f b) K
 |.nilCheck x=>dU (ev f x) K
 |.binOp op T x y _=>aDf P op T (ev f x) (ev f y) K
 |.unOp op _ x=>unW op (ev f x) K
 |.convert s d x=>Yp P s d (ev f x) K
 |.makeInterface T x=>(match P.underlying T with|some (.interface _)=>False|none=>False|_=>K (.iface T (ev f x)))
 |.makeFunc fn first cap=>K (.func fn (evl f first).toArray (evl f cap).toArray)
 |.field T x i=>(match P.underlying T with
   |some (.struct fs)=>(match fs[i]? with|some g=>kS (P.underlying g.type).isSome (lL (uN P g.type) g.offset (jP P g.type) (ev f x) K)|none=>False)
   |_=>False)
 |.fieldAddr T x i=>(match P.underlying T with
   |some (.struct fs)=>(match fs[i]? with|some g=>kS (!(Nat.beq (jP P g.type) 0)) (aZ g.offset (ev f x) K)|none=>False)
   |_=>False)
 |.indexAddr T x i=>DW P T (ev f x) (ev f i) K
 |.index T x i=>QT P T (ev f x) (ev f i) K
 |.slice T x lo hi mx=>KG P T (ev f x) (lo.map (ev f)) (hi.map (ev f)) (mx.map (ev f)) K
 |.extract t i=>dK i (ev f t) K
 |.build T parts=>LR P T f parts.toList K
 |.call {callee:=.builtin b,args,argTypes}=>Ft P b argTypes (evl f args) K
 |_=>False
def mM(P:Program):Op->Bool
 |.move _|.assign _|.pick ..|.nilCheck _|.unOp ..|.makeInterface ..|.makeFunc ..|.field ..|.fieldAddr ..|.indexAddr ..|.index ..|.slice ..
 |.extract ..|.build ..=>true
 |.binOp op T _ _ _=>(match op with
  |.eql|.neq=>(match P.underlying T with|some (.interface _)|some (.struct _)|some (.array _ _)|some (.chan _ _)|none=>false|_=>true)
  |_=>true)
 |.convert s d _=>(match P.underlying s,P.underlying d with|some (.int _),some (.int _)|some (.int _),some .string|some .string,some .string=>true|_,_=>false)
 |.call {callee:=.builtin b,argTypes,..}=>(match b with
  |.min|.max|.cap=>true
  |.len=>(match argTypes[0]? with|some T=>(match P.underlying T with|some (.map _ _)|none=>false|_=>true)|none=>false)
  |_=>false)
 |_=>false
def wU(P:Program)(s:Sem Value)(K:Value->Prop):Prop:=∃v,K v/\∀w,s.run P w=.ok v w
theorem run_bind{α β:Type}(P:Program)(s:Sem α)(k:α->Sem β)(w:World):
  (s>>=k).run P w=match s.run P w with|.ok a w'=>(k a).run P w'|.halt h w'=>.halt h w':=by
 show(Sem.bind s k).run P w=_;induction s generalizing w with
 |pure a=>simp[Sem.bind,Sem.run]
 |load m a c ih=>simp only[Sem.bind,Sem.run];(repeat' split)<;>simp_all
 |store m a v c ih=>
  cases v<;>simp only[Sem.bind,Sem.run]<;>((repeat' split)<;>simp_all)
 |new o c ih=>simp[Sem.bind,Sem.run,ih]
 |shape r c ih=>simp[Sem.bind,Sem.run,ih]
 |freeze a n c ih=>simp[Sem.bind,Sem.run,ih]
 |frozen a c ih=>simp[Sem.bind,Sem.run,ih]
 |getObj r c ih=>simp only[Sem.bind,Sem.run];(repeat' split)<;>simp_all
 |setObj r o c ih=>simp only[Sem.bind,Sem.run];(repeat' split)<;>simp_all
 |choose q c ih=>simp only[Sem.bind,Sem.run];(repeat' split)<;>simp_all
 |sys c k' ih=>simp[Sem.bind,Sem.run,ih]
 |program c ih=>simp[Sem.bind,Sem.run,ih]
 |mark m c ih=>simp[Sem.bind,Sem.run,ih]
 |halt h=>simp[Sem.bind,Sem.run]
theorem run_pure{α:Type}(P:Program)(a:α)(w:World):(pure a:Sem α).run P w=.ok a w:=rfl
theorem bH{d:TypeDesc}(h:P.underlying T=some d)(w:World):(underlying T).run P w=.ok d w:=by
 simp[underlying,run_bind,program,Sem.run,h,run_pure]
theorem zW{i:TypeInfo}(h:P.info? T=some i)(w:World):(typeInfo T).run P w=.ok i w:=by
 simp[typeInfo,run_bind,program,Sem.run,h,run_pure]
theorem gC(h:(P.info? T).isSome=true)(w:World):(sizeOf T).run P w=.ok (jP P T) w:=by
 cases hi:P.info? T with
 |none=>rw[hi]at h;cases h
 |some i=>simp[sizeOf,run_bind,zW hi,run_pure,jP,hi]
theorem qR(h:(P.underlying T).isSome=true):(P.info? T).isSome=true:=by
 unfold Program.underlying at h;cases hi:P.info? T with
 |none=>simp[hi]at h
 |some i=>rfl
theorem wF(h:(P.underlying T).isSome=true)(w:World):(isAgg T).run P w=.ok (uN P T) w:=by
 cases hi:P.underlying T with
 |none=>rw[hi]at h;cases h
 |some d=>
  simp only[isAgg,run_bind,bH hi,uN,hi];cases d<;>rfl
theorem rS{z:Value}(h:Cb P T=some z)(w:World):(zeroValue T).run P w=.ok z w:=by
 unfold Cb at h;cases hi:P.info? T with
 |none=>simp[hi]at h
 |some i=>
  simp only[hi]at h;simp[zeroValue,run_bind,zW hi,h,run_pure]
theorem IR{off:Nat}{x:Value}{K:Value->Prop}(hT:(P.underlying T).isSome=true)(h:lL (uN P T) off (jP P T) x K):
  ∃cs,x=.agg cs/\wU P (part T cs off) K:=by
 cases x with
 |agg cs=>
  refine⟨cs,rfl,?_⟩;simp only[lL]at h;cases ha:uN P T with
  |true=>
   rw[ha]at h;exact⟨_,h,λw=>by simp[part,run_bind,wF hT,ha,gC (qR hT),run_pure]⟩
  |false=>
   rw[ha]at h;obtain⟨c,hc,hk⟩:=h;exact⟨c,hk,λw=>by simp[part,run_bind,wF hT,ha,hc,run_pure]⟩
 |_=>exact h.elim
theorem HU{x:Option Value}{dflt lim:Nat}{K:Nat->Prop}(h:bdW x dflt lim K):
  ∃n,K n/\((x=none/\n=dflt)\/∃v,x=some v/\∀(code:BoundsCode) (w:World),(Instr.sliceBound v lim code).run P w=.ok n w):=by
 cases x with
 |none=>exact⟨dflt,h,.inl ⟨rfl,rfl⟩⟩
 |some v=>
  cases v<;>simp only[bdW]at h
  case int k i=>
   obtain⟨h0,h1,hk⟩:=h;exact⟨_,hk,.inr ⟨_,rfl,λcode w=>by simp[Instr.sliceBound,asIntOf,run_bind,run_pure,h0,h1]⟩⟩
theorem Au{isSlice:Bool}{len cap:Nat}{lo hi mx:Option Value}{K:Nat->Nat->Nat->Prop}(hm:mx.isSome=true->hi.isSome=true)
  (h:bdW mx cap cap λm=>bdW hi len m λh=>bdW lo 0 h λl=>K l h m):
  ∃l h m,K l h m/\∀w,(Instr.sliceBounds isSlice len cap lo hi mx).run P w=.ok (l,h,m) w:=by
 obtain⟨m,h1,hm1⟩:=HU (P:=P) h;obtain⟨hh,h2,hh1⟩:=HU (P:=P) h1;obtain⟨l,h3,hl1⟩:=HU (P:=P) h2;refine⟨l,hh,m,h3,λw=>?_⟩;rcases hm1 with⟨rfl,rfl⟩|⟨vm,rfl,rm⟩<;>rcases hh1 with⟨rfl,rfl⟩|⟨vh,rfl,rh⟩<;>rcases hl1 with⟨rfl,rfl⟩|⟨vl,rfl,rl⟩<;>
  first
   |(simp at hm;done)
   |simp[Instr.sliceBounds,run_bind,run_pure, *]
theorem yS{place:Nat->Option (Nat×Nat)}{f:Fr}{K:List Value->Prop}:∀(parts:List (Nat×Operand)) (l:List (Nat×Nat×Value)) (cells:List Value),
  tT place f parts=some l->dI cells l K->∃cs,K cs/\Instr.fill place cells.toArray (parts.map λp=>(p.1,ev f p.2))=some cs.toArray
 |[],l,cells,hp,h=>by
  simp only[tT,bE]at hp
  subst hp
  exact⟨cells,h,rfl⟩
 |(i,x)::r,l,cells,hp,h=>by
  simp only[tT]at hp
  cases hpl:place i with
  |none=>simp[hpl]at hp
  |some os=>
   obtain⟨off,size⟩:=os
   cases hr:tT place f r with
   |none=>simp[hpl,hr]at hp
   |some l'=>
    simp only[hpl,hr,bE]at hp
    subst hp
    obtain⟨h1,h2,h3⟩:=h
    obtain⟨cs,hk,hf⟩:=yS r l' _ hr h3
    refine⟨cs,hk,?_⟩
    simp only[dG,Instr.fill,hpl]
    rw[aE (by simp[h1];omega)]
    rw[<-hf]
    congr 1
    have key:∀(vs:List Value) (k:Nat) (cs:List Value),off+k+vs.length<=cs.length->
      (vs.zipIdx k).foldl (λ(a:Array Value) (p:Value×Nat)=>a.setIfInBounds (off+p.2) p.1) cs.toArray=(cs.take (off+k)++(vs++cs.drop (off+k+vs.length))).toArray:=by
     intro vs;induction vs with
     |nil=>intro k cs _;simp
     |cons v vs ih=>
      intro k cs hle;simp only[aB]at hle;simp only[List.zipIdx_cons,List.foldl_cons];rw[List.setIfInBounds_toArray,ih (k+1) _ (by simp;omega)];congr 1;apply List.ext_getElem?;intro j;simp only[List.getElem?_append,bU,rC,List.getElem?_take,List.getElem?_set,List.getElem?_drop,aB,List.getElem?_cons]
      (repeat' split)<;>first
        |rfl
        |omega
        |(simp_all;done)
        |(congr 1;omega)
        |(rename_i h1 h2 h3;simp at h1;omega)
    have hk:=key (ev f x).cells.toList 0 cells (by simp;omega);simp only[eS]at hk;rw[<-h1];simp only[CW]at hk;rw[<-hk,<-Array.foldl_toList];simp
def lG(P:Program)(s:Sem Next)(K:Value->Prop):Prop:=∃v,K v/\∀w,s.run P w=.ok (.value v) w
theorem lG.of1{s:Sem Value}{K:Value->Prop}(h:wU P s K):lG P (do pure (.value (<-s))) K:=by
 obtain⟨v,hk,hr⟩:=h;exact⟨v,hk,λw=>by rw[run_bind,hr];rfl⟩
theorem HT{α:Type}[BEq α][LawfulBEq α][DecidableEq α](a b:α):(a==b)=decide (a=b):=by
 by_cases h:a=b<;>simp[h]
theorem OG{op:BinOp}{x y:Operand}{f:Fr}{K:Value->Prop}(h:aP op (ev f x) (ev f y) K):
  wU P (do eqGuard op T x y (ev f x) (ev f y);binOp op T (ev f x) (ev f y)) K:=by
 generalize ev f x=a at*
 generalize ev f y=b at*
 cases a<;>cases b<;>simp only[aP]at h<;>first|exact h.elim|skip
 case int.int k a k' b=>
  have hg:∀w,(eqGuard op T x y (.int k a) (.int k' b)).run P w=.ok () w:=λw=>by cases op<;>simp[eqGuard,run_pure]
  cases op<;>simp only at h
  case shl=>exact⟨_,h.2,λw=>by rw[run_bind,hg];simp[binOp,Op.shift,run_pure,Int.not_lt.2 h.1]⟩
  case shr=>exact⟨_,h.2,λw=>by rw[run_bind,hg];simp[binOp,Op.shift,run_pure,Int.not_lt.2 h.1]⟩
  case quo=>obtain⟨rfl,hb,hk⟩:=h;exact⟨_,hk,λw=>by rw[run_bind,hg];simp[binOp,Op.intDiv,run_pure,hb]⟩
  case rem=>obtain⟨rfl,hb,hk⟩:=h;exact⟨_,hk,λw=>by rw[run_bind,hg];simp[binOp,Op.intDiv,run_pure,hb]⟩
  case add=>obtain⟨rfl,hk⟩:=h;exact⟨_,hk,λw=>by rw[run_bind,hg];simp[binOp,Op.intArith,run_pure]⟩
  case sub=>obtain⟨rfl,hk⟩:=h;exact⟨_,hk,λw=>by rw[run_bind,hg];simp[binOp,Op.intArith,run_pure]⟩
  case mul=>obtain⟨rfl,hk⟩:=h;exact⟨_,hk,λw=>by rw[run_bind,hg];simp[binOp,Op.intArith,run_pure]⟩
  case and=>obtain⟨rfl,hk⟩:=h;exact⟨_,hk,λw=>by rw[run_bind,hg];simp only[binOp,Op.intBits,bL,rY,kH];rfl⟩
  case or=>obtain⟨rfl,hk⟩:=h;exact⟨_,hk,λw=>by rw[run_bind,hg];simp only[binOp,Op.intBits,bL,rY,kH];rfl⟩
  case xor=>obtain⟨rfl,hk⟩:=h;exact⟨_,hk,λw=>by rw[run_bind,hg];simp only[binOp,Op.intBits,bL,rY,kH];rfl⟩
  case andNot=>obtain⟨rfl,hk⟩:=h;exact⟨_,hk,λw=>by rw[run_bind,hg];simp only[binOp,Op.intBits,bL,rY,kH];rfl⟩
  case eql=>obtain⟨rfl,hk⟩:=h;exact⟨_,hk,λw=>by rw[run_bind,hg];simp[binOp,Op.intCmp,run_pure,HT]⟩
  case neq=>obtain⟨rfl,hk⟩:=h;exact⟨_,hk,λw=>by rw[run_bind,hg];simp[binOp,Op.intCmp,run_pure,bne,HT]⟩
  case lss=>obtain⟨rfl,hk⟩:=h;exact⟨_,hk,λw=>by rw[run_bind,hg];simp[binOp,Op.intCmp,run_pure]⟩
  case leq=>obtain⟨rfl,hk⟩:=h;exact⟨_,hk,λw=>by rw[run_bind,hg];simp[binOp,Op.intCmp,run_pure]⟩
  case gtr=>obtain⟨rfl,hk⟩:=h;exact⟨_,hk,λw=>by rw[run_bind,hg];simp[binOp,Op.intCmp,run_pure]⟩
  case geq=>obtain⟨rfl,hk⟩:=h;exact⟨_,hk,λw=>by rw[run_bind,hg];simp[binOp,Op.intCmp,run_pure]⟩
 case string.string a b=>
  have hg:∀w,(eqGuard op T x y (.string a) (.string b)).run P w=.ok () w:=λw=>by cases op<;>simp[eqGuard,run_pure]
  have he:(a.toList==b.toList)=decide (a.data.toList=b.data.toList):=by rw[ByteArray.toList_eq,ByteArray.toList_eq,HT]
  have hl:Op.bytesLess a.toList b.toList=Op.bytesLess a.data.toList b.data.toList:=by rw[ByteArray.toList_eq,ByteArray.toList_eq]
  cases op<;>simp only at h<;>first|exact h.elim|skip
  case add=>exact⟨_,h.2,λw=>by rw[run_bind,hg];simp only[binOp,Op.stringOp];rw[aE (by have:=h.1;omega)];rfl⟩
  case eql=>exact⟨_,h,λw=>by rw[run_bind,hg];simp only[binOp,Op.stringOp];rw[he];rfl⟩
  case neq=>exact⟨_,h,λw=>by rw[run_bind,hg];simp only[binOp,Op.stringOp];rw[he];simp[run_pure]⟩
  case lss=>exact⟨_,h,λw=>by rw[run_bind,hg];simp only[binOp,Op.stringOp];rw[hl];rfl⟩
  case leq=>exact⟨_,h,λw=>by rw[run_bind,hg];simp only[binOp,Op.stringOp];rw[he,hl];rfl⟩
  case gtr=>exact⟨_,h,λw=>by rw[run_bind,hg];simp only[binOp,Op.stringOp];rw[he,hl];rfl⟩
  case geq=>exact⟨_,h,λw=>by rw[run_bind,hg];simp only[binOp,Op.stringOp];rw[hl];rfl⟩
theorem Om{op:BinOp}{x y:Operand}{k:EqK}{n:Bool}{a b:Value}{K:Value->Prop}(h:eqW k n a b K)(w:World):
  (eqGuard op T x y a b).run P w=.ok () w:=by
 cases op<;>simp only[eqGuard]<;>first|rfl|(cases a<;>cases b<;>first|rfl|(cases k<;>exact h.elim))
theorem aCu{x y:Operand}{f:Fr}{d:TypeDesc}{k:EqK}{n:Bool}{K:Value->Prop}(hd:P.underlying T=some d)(hk:EqK.of d=some k)
  (h:eqW k n (ev f x) (ev f y) K):
  wU P (do eqGuard (bif n then .neq else .eql) T x y (ev f x) (ev f y);binOp (bif n then .neq else .eql) T (ev f x) (ev f y)) K:=by
 have hg:=λw=>Om (P:=P) (op:=(bif n then .neq else .eql)) (T:=T) (x:=x) (y:=y) h w;generalize ev f x=a at*
 generalize ev f y=b at*
 have key:∀(a b:Value) (r:Bool),(∀m w,(Op.equalIn (m+1) T a b).run P w=.ok r w)->
   (binOp .eql T a b=(do pure (.bool (<-Op.equal T a b))))->(binOp .neq T a b=(do pure (.bool (!(<-Op.equal T a b)))))->K (.bool (n^^r))->(∀w,(eqGuard (bif n then .neq else .eql) T x y a b).run P w=.ok () w)->
   wU P (do eqGuard (bif n then .neq else .eql) T x y a b;binOp (bif n then .neq else .eql) T a b) K:=by
  intro a b r h0 h1 h2 hK hg;have he:∀w,(Op.equal T a b).run P w=.ok r w:=λw=>h0 9999 w;refine⟨_,hK,λw=>?_⟩;rw[run_bind,hg];cases n
  ·simp only[aK,h1,run_bind,he,run_pure,Bool.false_bne]
  ·simp only[aN,h2,run_bind,he,run_pure,Bool.true_bne]
 have hu:=λw=>bH hd w;cases d<;>simp only[EqK.of,reduceCtorEq,bE]at hk<;>subst hk<;>unfold eqW at h<;>split at h<;>first
  |exact h.elim
  |(rename_i he _ _;cases he;done)
  |(rename_i he;cases he;done)
  |exact key _ _ _ (λm w=>by simp only[Op.equalIn,run_bind,hu];exact run_pure _ _ _) rfl rfl h hg
  |exact key _ _ true (λm w=>by simp[Op.equalIn,run_bind,hu,run_pure]) rfl rfl (by simpa using h) hg
  |exact key _ _ false (λm w=>by simp[Op.equalIn,run_bind,hu,run_pure]) rfl rfl (by simpa using h) hg
  |(rename_i he1 he2 he3;cases he1;done)
  |(simp_all;done)
theorem wO(f:Fr)(a:Array Operand):a.map (ev f)=(evl f a).toArray:=by apply xE;simp[evl]
theorem Iy{fn:Fn}{a b:Array Value}:(Instr.makeFunc fn a b).run P w=.ok (.func fn a b) w:=rfl
theorem Oz{f:Fr}{parts:Array (Nat×Operand)}{K:Value->Prop}(h:LR P T f parts.toList K):
  wU P (Instr.build T (parts.map λ(i,x)=>(i,ev f x))) K:=by
 unfold LR at h;have hparts:(parts.map λ(i,x)=>(i,ev f x)).toList=parts.toList.map λp=>(p.1,ev f p.2):=by simp
 split at h
 ·rename_i fs z hd hz;split at h
  ·rename_i l hl
   replace h:=kS.out h
   obtain⟨hall,hp⟩:=h;obtain⟨cs,hk,hf⟩:=yS _ _ _ hl hp;refine⟨_,hk,λw=>?_⟩;have hmap:∀w,(fs.mapM λg=>do pure (g.offset,<-sizeOf g.type):Sem (Array (Nat×Nat))).run P w=.ok (fs.map λg=>(g.offset,jP P g.type)) w:=by
    intro w;have:∀(l:List Field),(∀g∈l,(P.info? g.type).isSome=true)->∀w,(l.mapM λg=>do pure (g.offset,<-sizeOf g.type):Sem (List (Nat×Nat))).run P w=.ok (l.map λg=>(g.offset,jP P g.type)) w:=by
     intro l;induction l with
     |nil=>intro _ w;rfl
     |cons g l ih=>
      intro hg w;rw[List.mapM_cons];simp only[run_bind,gC (hg g (by simp)),run_pure,ih (λx hx=>hg x (by simp[hx])),dG]
    have hfs:=this fs.toList (λg hg=>zT.1 hall g (by simpa using hg)) w;rw[Array.mapM_eq_mapM_toList,<-bind_pure_comp,run_bind,hfs];show Result.ok _ _=_;congr 1;apply xE;simp
   simp only[Instr.build,run_bind,rS hz,bH hd,hmap];rw[hparts];have hpl:(λ(i:Nat)=>(fs.map λ(g:Field)=>(g.offset,jP P g.type))[i]?)=KM P fs:=by
    funext i;rw[Array.getElem?_map];unfold KM;cases fs[i]?<;>rfl
   rw[hpl];simp only[Array.toArray_toList]at hf;rw[hf];rfl
  ·exact h.elim
 ·rename_i n e z hd hz;split at h
  ·rename_i l hl
   replace h:=kS.out h
   obtain⟨hall,hp⟩:=h;obtain⟨cs,hk,hf⟩:=yS _ _ _ hl hp;refine⟨_,hk,λw=>?_⟩;simp only[Instr.build,run_bind,rS hz,bH hd,gC hall];rw[hparts];simp only[Array.toArray_toList]at hf;rw[hf];rfl
  ·exact h.elim
 ·exact h.elim
theorem JD(s:ByteArray)(l h:Nat):s.extract l h=ofL ((s.data.toList.take h).drop l):=by
 apply ByteArray.ext;apply xE;simp[ofL,ByteArray.extract,ByteArray.copySlice,List.drop_take]
theorem Nq{x:Value}{lo hi mx:Option Value}{K:Value->Prop}(h:KG P T x lo hi mx K):
  wU P (Instr.sliceAt T x lo hi mx) K:=by
 unfold KG at h;split at h
 ·rename_i hd
  replace h:=kS.out h
  obtain⟨hm,h⟩:=h;cases mx with
  |some _=>cases hm
  |none=>
   cases x<;>simp only[mW]at h<;>try exact h.elim
   rename_i s;have h':bdW (none:Option Value) s.size s.size λm=>bdW hi s.size m λh=>bdW lo 0 h λl=>(λl h (_:Nat)=>K (.string (ofL ((s.data.toList.take h).drop l)))) l h m:=h;obtain⟨l,hh,m,hk,hr⟩:=Au (P:=P) (isSlice:=false) (by simp) h';refine⟨_,hk,λw=>?_⟩;simp only[Instr.sliceAt,run_bind,bH hd,Instr.slice];simp[hr,run_bind,bH hd,run_pure];apply JD
 ·rename_i e hd
  replace h:=kS.out h
  obtain⟨hm,h⟩:=h
  replace h:=kS.out h
  obtain⟨he,h⟩:=h
  replace hm:mx.isSome=true->hi.isSome=true:=λhx=>by rw[hx]at hm;simpa using hm
  cases x<;>simp only[kC]at h<;>try exact h.elim
  rename_i a len cap;obtain⟨l,hh,m,hk,hr⟩:=Au (P:=P) (isSlice:=true) (K:=λl h m=>K (.slice (if m=l then a else a.map (·.add (l*jP P e))) (h-l) (m-l))) hm h;refine⟨_,hk,λw=>?_⟩;simp only[Instr.sliceAt,run_bind,bH hd,Instr.slice];simp[hr,run_bind,bH hd,run_pure,gC he]
 ·rename_i n e hd
  replace h:=kS.out h
  obtain⟨hm,h⟩:=h
  replace h:=kS.out h
  obtain⟨he,h⟩:=h
  replace hm:mx.isSome=true->hi.isSome=true:=λhx=>by rw[hx]at hm;simpa using hm
  cases x<;>simp only[Nr]at h<;>try exact h.elim
  rename_i a;cases a with
  |none=>exact h.elim
  |some a=>
   obtain⟨l,hh,m,hk,hr⟩:=Au (P:=P) (isSlice:=false) (K:=λl h m=>K (.slice (some (if m=l then a else a.add (l*jP P e))) (h-l) (m-l))) hm h;refine⟨_,hk,λw=>?_⟩;simp[Instr.sliceAt,Instr.sureAddr,run_bind,bH hd,hr,run_pure,gC he]
 ·exact h.elim
theorem Dp{f:Fr}{o:Oper}{K:Value->Prop}(h:Mi P f o.op K):lG P (execOp (ev f) o) K:=by
 obtain⟨dst,op,type,pos,after,guard⟩:=o;cases op<;>simp only[Mi]at h<;>try exact h.elim
 case move x=>exact⟨_,h,λw=>rfl⟩
 case assign x=>exact⟨_,h,λw=>rfl⟩
 case pick c a b=>
  simp only[execOp];generalize ev f c=cv at*
  cases cv<;>simp only[cR]at h<;>try exact h.elim
  rename_i t;exact⟨_,h,λw=>by cases t<;>rfl⟩
 case nilCheck x=>
  simp only[execOp];generalize ev f x=v at*
  cases v<;>simp only[dU]at h<;>try exact h.elim
  case pointer a=>cases a<;>first|exact h.elim|exact⟨_,h,λw=>rfl⟩
  case func fn _ _=>cases fn<;>first|exact h.elim|exact⟨_,h,λw=>rfl⟩
  case iface=>exact⟨_,h,λw=>rfl⟩
 case binOp op T x y yT=>
  simp only[execOp];refine lG.of1 ?_;unfold aDf at h;cases hd:P.underlying T with
  |none=>
   rw[hd]at h;exact OG (by cases op<;>exact h)
  |some d=>
   rw[hd]at h;cases hk:EqK.of d with
   |none=>simp only[hk]at h;exact OG (by cases op<;>exact h)
   |some k=>
    simp only[hk]at h;cases op<;>first
     |exact aCu (n:=false) hd hk h
     |exact aCu (n:=true) hd hk h
     |exact OG h
 case unOp op T x=>
  simp only[execOp];refine lG.of1 ?_;generalize ev f x=v at*
  cases op<;>cases v<;>simp only[unW]at h<;>first
   |exact h.elim
   |exact⟨_,h,λw=>rfl⟩
 case convert s d x=>
  simp only[execOp];refine lG.of1 ?_;unfold Yp at h;generalize ev f x=v at*
  split at h
  ·rename_i k1 k2 hs hd;cases v<;>simp only[sX]at h<;>try exact h.elim
   exact⟨_,h,λw=>by simp[convert,run_bind,bH hs,bH hd,Conv.intToInt,run_pure]⟩
  ·rename_i k1 hs hd;cases v<;>simp only[VG]at h<;>try exact h.elim
   ·exact⟨_,h,λw=>by simp[convert,run_bind,bH hs,bH hd,Conv.intToString,run_pure]⟩
   ·exact⟨_,h,λw=>by simp[convert,run_bind,bH hs,bH hd,run_pure]⟩
  ·rename_i hs hd;cases v<;>simp only[VG]at h<;>try exact h.elim
   ·exact⟨_,h,λw=>by simp[convert,run_bind,bH hs,bH hd,Conv.intToString,run_pure]⟩
   ·exact⟨_,h,λw=>by simp[convert,run_bind,bH hs,bH hd,run_pure]⟩
  ·exact h.elim
 case makeInterface T x=>
  simp only[execOp];refine lG.of1 ?_;cases hd:P.underlying T with
  |none=>rw[hd]at h;exact h.elim
  |some d=>
   rw[hd]at h;cases d<;>first
    |exact h.elim
    |exact⟨_,h,λw=>by simp[Instr.makeInterface,run_bind,bH hd,run_pure]⟩
 case makeFunc fn first cap=>
  simp only[execOp];refine lG.of1 ⟨_,h,λw=>by rw[Iy,wO,wO]⟩
 case field T x i=>
  simp only[execOp];refine lG.of1 ?_;split at h
  ·rename_i fs hd;split at h
   ·rename_i g hg
    replace h:=kS.out h
    obtain⟨h1,h2⟩:=h;obtain⟨cs,hx,v,hk,hr⟩:=IR h1 h2;exact⟨v,hk,λw=>by simp[Instr.field,run_bind,bH hd,hg,hx,asAgg,run_pure,hr]⟩
   ·exact h.elim
  ·exact h.elim
 case fieldAddr T x i=>
  simp only[execOp];refine lG.of1 ?_;split at h
  ·rename_i fs hd;split at h
   ·rename_i g hg
    replace h:=kS.out h
    obtain⟨h1,h2⟩:=h
    replace h1:jP P g.type≠0:=λhz=>by rw[hz]at h1;simp at h1
    generalize ev f x=v at*
    cases v<;>simp only[aZ]at h2<;>try exact h2.elim
    rename_i a;cases a with
    |none=>exact h2.elim
    |some a=>
     have hinfo:(P.info? g.type).isSome=true:=by
      unfold jP at h1;cases hi:P.info? g.type with
      |none=>rw[hi]at h1;exact absurd rfl h1
      |some i=>rfl
     exact⟨_,h2,λw=>by simp[Instr.fieldAt,run_bind,bH hd,hg,Instr.sureAddr,run_pure,fieldPlace,gC hinfo,h1]⟩
   ·exact h.elim
  ·exact h.elim
 case indexAddr T x i=>
  simp only[execOp];refine lG.of1 ?_;unfold DW at h;generalize ev f x=v at*
  generalize ev f i=iv at*
  split at h
  ·rename_i e hd
   replace h:=kS.out h
   obtain⟨he,h⟩:=h;unfold dN at h;split at h
   ·rename_i a n cap k j _;obtain⟨h0,h1,hk⟩:=h;exact⟨_,hk,λw=>by simp[Instr.indexAt,asIntOf,run_bind,bH hd,run_pure,h0,h1,gC he]⟩
   ·rename_i heq;cases heq
   ·exact h.elim
  ·rename_i n e hd
   replace h:=kS.out h
   obtain⟨he,h⟩:=h;unfold dN at h;split at h
   ·rename_i heq;cases heq
   ·rename_i n' a k j heq;cases heq;obtain⟨h0,h1,hk⟩:=h;exact⟨_,hk,λw=>by simp[Instr.indexAt,asIntOf,run_bind,bH hd,run_pure,h0,h1,Instr.sureAddr,gC he]⟩
   ·exact h.elim
  ·exact h.elim
 case index T x i=>
  simp only[execOp];refine lG.of1 ?_;unfold QT at h;generalize ev f x=v at*
  generalize ev f i=iv at*
  split at h
  ·rename_i hd;unfold pI at h;split at h
   ·rename_i s k j;obtain⟨h0,b,hb,hk⟩:=h;have hb':s[j.toNat]?=some b:=by
     rw[<-hb];show(if h:j.toNat<s.size then some s[j.toNat]else none)=_;by_cases hlt:j.toNat<s.size
     ·rw[dif_pos hlt,List.getElem?_eq_getElem (by simpa using hlt)];rfl
     ·rw[dif_neg hlt,List.getElem?_eq_none (by simpa using hlt)]
    exact⟨_,hk,λw=>by simp[Instr.index,asIntOf,run_bind,bH hd,run_pure,h0,hb']⟩
   ·exact h.elim
  ·rename_i n e hd
   replace h:=kS.out h
   obtain⟨he,h⟩:=h;cases iv<;>simp only[Vf]at h<;>try exact h.elim
   rename_i k j;obtain⟨h0,h1,hp⟩:=h;obtain⟨cs,hx,u,hk,hr⟩:=IR (P:=P) he hp;exact⟨u,hk,λw=>by simp[Instr.index,asIntOf,run_bind,bH hd,run_pure,hx,h0,h1,gC (qR he),hr]⟩
  ·exact h.elim
 case slice T x lo hi mx=>
  simp only[execOp];exact lG.of1 (Nq h)
 case extract t i=>
  simp only[execOp];refine lG.of1 ?_;generalize ev f t=v at*
  cases v<;>simp only[dK]at h<;>try exact h.elim
  split at h
  ·rename_i v hv;exact⟨_,h,λw=>by simp[Instr.extract,hv,run_pure]⟩
  ·exact h.elim
 case build T parts=>
  simp only[execOp];exact lG.of1 (Oz h)
 case call c=>
  obtain⟨callee,args,argTypes⟩:=c;cases callee<;>simp only at h<;>try exact h.elim
  rename_i b;have hargs:args.map (ev f)=(evl f args).toArray:=by rw[wO]
  simp only[execOp,resolve,hargs];generalize evl f args=az at*
  unfold Ft at h;split at h
  ·rename_i x;split at h
   ·rename_i T hT;split at h
    ·rename_i hd;unfold iM at h;split at h
     ·exact⟨_,h,λw=>by simp[run_bind,run_pure,invoke,builtin,Builtin.len_,hT,bH hd,goInt]⟩
     ·exact h.elim
    ·rename_i e hd;unfold cY at h;split at h
     ·exact⟨_,h,λw=>by simp[run_bind,run_pure,invoke,builtin,Builtin.len_,hT,bH hd,goInt]⟩
     ·exact h.elim
    ·rename_i n e hd;exact⟨_,h,λw=>by simp[run_bind,run_pure,invoke,builtin,Builtin.len_,hT,bH hd,goInt]⟩
    ·exact h.elim
   ·exact h.elim
  ·rename_i x;split at h
   ·rename_i T hT;split at h
    ·rename_i e hd;unfold Ox at h;split at h
     ·exact⟨_,h,λw=>by simp[run_bind,run_pure,invoke,builtin,Builtin.cap_,hT,bH hd,goInt]⟩
     ·exact h.elim
    ·exact h.elim
   ·exact h.elim
  ·rename_i x y;unfold UV at h;split at h
   ·exact⟨_,h,λw=>by simp[run_bind,run_pure,invoke,builtin,Builtin.min_,Builtin.min2]⟩
   ·exact h.elim
  ·rename_i x y z;unfold Yi at h;split at h
   ·exact⟨_,h,λw=>by simp[run_bind,run_pure,invoke,builtin,Builtin.min_,Builtin.min2]⟩
   ·exact h.elim
  ·rename_i x y;unfold Qi at h;split at h
   ·exact⟨_,h,λw=>by simp[run_bind,run_pure,invoke,builtin,Builtin.max_,Builtin.max2]⟩
   ·exact h.elim
  ·exact h.elim
def isC:Operand->Bool
 |.const _=>true
 |_=>false
def rE(c:Bool):Operand:=bif c then .const undef else .tmp 0
def eqQ(P:Program)(op:BinOp)(T:TypeId)(cx cy:Bool)(a b:Value)(w:World)(K:Value->Prop):Prop:=
 nH P (do eqGuard op T (rE cx) (rE cy) a b;binOp op T a b) w K
def Dm(P:Program)(f:Fr)(o:Oper)(w:World)(K:Value->Prop):Prop:=
 match o.op with
 |.load T a=>kS (P.underlying T).isSome (ldW (uN P T) (jP P T) (ev f a) w K)
 |.lookup T x i ok=>nH P (Instr.lookup T (ev f x) (ev f i) ok) w K
 |.binOp op T x y _=>eqQ P op T (isC x) (isC y) (ev f x) (ev f y) w K
 |.convert s d x=>nH P (convert s d (ev f x)) w K
 |.typeAssert x xT aT ok=>nH P (Instr.typeAssert (ev f x) xT aT ok) w K
 |.entry it=>nH P (Instr.entry (ev f it)) w K
 |.call {callee:=.builtin b,args,argTypes}=>(match b with
   |.len=>nH P (Builtin.len_ argTypes o.type (evl f args).toArray) w K
   |_=>False)
 |_=>False
def isRead(P:Program):Op->Bool
 |.load ..|.lookup ..|.binOp ..|.typeAssert ..|.entry ..=>true
 |.convert s d _=>(match P.underlying s,P.underlying d with|some (.slice _),some .string=>true|_,_=>false)
 |.call {callee:=.builtin b,..}=>(match b with|.len=>true|_=>false)
 |_=>false
def oQ(n:Nat)(z:List Value):List Value:=match n with|0=>[]|n+1=>z++oQ n z
def Cu(P:Program)(T:TypeId)(len:Nat)(f:Fr)(parts:List (Nat×Operand))(w:World)(K:Value->World->Prop):Prop:=
 match P.underlying T with
 |some (.slice e)=>(match Cb P e,tT (λi=>some (i*jP P e,jP P e)) f parts with
   |some z,some l=>kS (P.info? e).isSome (kS (Nat.beq z.cells.size (jP P e)) (kS (Nat.ble (len*jP P e) 1000) (dJ e len (oQ len z.cells.toList) l w K)))
   |_,_=>False)
 |_=>False
def aA5[HX](P:Program)(f:Fr)(o:Oper)(w:World)(K:Value->World->Prop):Prop:=
 match o.op with
 |.alloc T=>(match Cb P T with|some z=>bN T z.cells.toList w K|none=>False)
 |.box T x=>eL T (ev f x) w K
 |.buildSlice T n parts=>Cu P T n f parts.toList w K
 |.store T a x=>kS (P.info? T).isSome (stW (jP P T) (ev f a) (ev f x) w (K undef))
 |.mapUpdate T m k x|.insert T m k x=>nN P (Instr.mapUpdate T (ev f m) (ev f k) (ev f x)) w (K undef)
 |.makeMap T r=>dF P (Instr.makeMap T (r.map (ev f))) w K
 |.makeSlice T l c=>dF P (Instr.makeSlice T (ev f l) (ev f c)) w K
 |.range T x=>dF P (Instr.range T (ev f x)) w K
 |.next it s=>dF P (Instr.next (ev f it) s o.type) w K
 |.convert s d x=>dF P (convert s d (ev f x)) w K
 |.call {callee:=.value x,args,..}=>(match x with
   |.func g=>aC P g (evl f args) w K
   |_=>oN P (ev f x) (evl f args) w K)
 |.call {callee:=.invoke r m,args,..}=>Pm P (callMethod (ev f r) m (evl f args).toArray) w K
 |.panic x=>ND (ev f x) w
 |.call {callee:=.builtin b,args,argTypes}=>(match b with
   |.append=>dF P (Builtin.append_ argTypes o.type (evl f args).toArray) w K
   |.copy=>dF P (Builtin.copy_ argTypes o.type (evl f args).toArray) w K
   |.delete=>dF P (Builtin.delete_ argTypes o.type (evl f args).toArray) w K
   |.clear=>dF P (Builtin.clear_ argTypes o.type (evl f args).toArray) w K
   |.panic=>ND ((evl f args).getD 0 undef) w
   |_=>False)
 |_=>False
def HV[HX](P:Program)(f:Fr)(o:Oper)(w:World)(K:Value->World->Prop):Prop:=
 match mM P o.op with
 |true=>Mi P f o.op (λv=>K v w)
 |false=>(match isRead P o.op with
  |true=>Dm P f o w (λv=>K v w)
  |false=>aA5 P f o w K)
theorem Fp{a:Addr}(h:w.cell? a=some v):(load a).run P w=.ok v w:=by
 simp[load,Sem.run,h]
theorem tZ{P:Program}{a:Addr}{w:World}:∀(n i:Nat) (l:List Value) (acc:Array Value),jV w a i n=some l->
  (loadCellsFrom a i n acc).run P w=.ok (acc++l.toArray) w
 |0,i,l,acc,h=>by
  simp only[jV,bE]at h
  subst h
  simp[loadCellsFrom,run_pure]
 |n+1,i,l,acc,h=>by
  simp only[jV]at h
  cases hc:w.cell? (a.add i)with
  |none=>simp[hc]at h
  |some v=>
   cases hr:jV w a (i+1) n with
   |none=>simp[hc,hr]at h
   |some l'=>
    simp only[hc,hr,gF,bE]at h
    subst h
    simp only[loadCellsFrom,run_bind,Fp hc,tZ n (i+1) l' _ hr]
    simp
theorem QG{x:Value}{K:Value->Prop}(hT:(P.underlying T).isSome=true)(h:ldW (uN P T) (jP P T) x w K):
  ∃v,K v/\(Instr.loadAt T x).run P w=.ok v w:=by
 cases x<;>simp only[ldW]at h<;>try exact h.elim
 rename_i a;cases a with
 |none=>exact h.elim
 |some a=>
  simp only at h;cases ha:uN P T with
  |true=>
   rw[ha]at h;obtain⟨l,hl,hk⟩:=h;refine⟨_,hk,?_⟩;simp[Instr.loadAt,Instr.sureAddr,loadVar,run_bind,run_pure,wF hT,ha,gC (qR hT),loadCells,tZ _ _ _ _ hl]
  |false=>
   rw[ha]at h;obtain⟨v,hv,hk⟩:=h;refine⟨_,hk,?_⟩;simp[Instr.loadAt,Instr.sureAddr,loadVar,run_bind,run_pure,wF hT,ha]
   first|exact Fp hv|(rw[hv])
theorem EG(op:BinOp)(T:TypeId)(x y:Operand)(a b:Value):eqGuard op T (rE (isC x)) (rE (isC y)) a b=eqGuard op T x y a b:=by
 cases x<;>cases y<;>rfl
theorem Ah{f:Fr}{o:Oper}{K:Value->Prop}(h:Dm P f o w K):
  ∃v,K v/\(execOp (ev f) o).run P w=.ok (.value v) w:=by
 have key:∀(s:Sem Value),(∃v,K v/\s.run P w=.ok v w)->∃v,K v/\(do pure (.value (<-s)):Sem Next).run P w=.ok (.value v) w:=by
  rintro s ⟨v,hk,hr⟩;exact⟨v,hk,by rw[run_bind,hr];rfl⟩
 have key2:∀(s:Sem Value),nH P s w K->∃v,K v/\s.run P w=.ok v w:=λs ⟨v,hr,hk⟩=>⟨v,hk,hr⟩;obtain⟨dst,op,type,pos,after,guard⟩:=o;cases op<;>simp only[Dm]at h<;>try exact h.elim
 case load T a=>simp only[execOp];exact key _ (QG (kS.out h).1 (kS.out h).2)
 case lookup T x i ok=>simp only[execOp];exact key _ (key2 _ h)
 case binOp op T x y yT=>
  simp only[execOp];refine key _ (key2 _ ?_);unfold eqQ at h;rw[EG]at h;exact h
 case convert s d x=>simp only[execOp];exact key _ (key2 _ h)
 case typeAssert x xT aT ok=>simp only[execOp];exact key _ (key2 _ h)
 case entry it=>simp only[execOp];exact key _ (key2 _ h)
 case call c=>
  obtain⟨callee,args,argTypes⟩:=c;cases callee<;>simp only at h<;>try exact h.elim
  rename_i b;cases b<;>simp only at h<;>try exact h.elim
  simp only[execOp,resolve,wO];obtain⟨v,hk,hr⟩:=key2 _ h;exact⟨v,hk,by simp[run_bind,run_pure,invoke,builtin,hr]⟩
theorem xK{P:Program}{a:Addr}{K:World->Prop}:∀(l:List Value) (i:Nat) (w:World),tO a l i w K->∃w',K w'/\(storeCells a l i).run P w=.ok () w'
 |[],i,w,h=>⟨w,h,rfl⟩
 |v::r,i,w,h=>by
  obtain⟨h1,h2,h3,h4⟩:=h
  obtain⟨w',hk,hr⟩:=xK (P:=P) r (i+1) _ h4
  refine⟨w',hk,?_⟩
  obtain⟨old,ho⟩:=Option.isSome_iff_exists.1 h2
  have hs:(store (a.add i) v).run P w=.ok () (w.setCell (a.add i) v):=by
   cases v<;>first
    |(simp[fG]at h1;done)
    |(simp[store,Sem.run,ho,h3];done)
  simp only[storeCells,run_bind,hs,hr]
theorem YV{x:Value}{K:World->Prop}(hT:(P.info? T).isSome=true)(h:stW (jP P T) x v w K):
  ∃w',K w'/\(Instr.storeAt T x v).run P w=.ok () w':=by
 cases x<;>simp only[stW]at h<;>try exact h.elim
 rename_i a;cases a with
 |none=>exact h.elim
 |some a=>
  obtain⟨h1,h2⟩:=h;obtain⟨w',hk,hr⟩:=xK (P:=P) _ _ _ h2;refine⟨w',hk,?_⟩;simp[Instr.storeAt,Instr.sureAddr,storeVar,run_bind,run_pure,gC hT,h1,hr]
theorem EB{z:Array Value}{size:Nat}(hz:z.size=size):∀len,((Array.range (len*size)).map (z[· %z.size]!))=(oQ len z.toList).toArray:=by
 subst hz;have hlen:∀len,(oQ len z.toList).length=len*z.size:=by
  intro len;induction len with
  |zero=>simp[oQ]
  |succ n ih=>simp[oQ,ih,EA,uQ]
 intro len;apply Array.ext (by simp[hlen]);intro i h1 h2;simp only[Array.getElem_map,Array.getElem_range,List.getElem_toArray];simp at h1;have:∀(len i:Nat) (h:i<(oQ len z.toList).length),(oQ len z.toList)[i]=z[i%z.size]!:=by
  intro len;induction len with
  |zero=>intro i h;simp[oQ]at h
  |succ n ih=>
   intro i h;have hpos:0<z.size:=by
    rcases nB z.size with h0|h0
    ·rw[hlen,h0]at h;simp at h
    ·exact h0
   simp only[oQ,List.getElem_append];split
   ·rename_i hi;have hi':i<z.size:=by simpa using hi
    rw[gV hi',getElem!_pos z i hi'];simp
   ·rename_i hi;have hi':z.size<=i:=by simpa using hi
    rw[ih];simp only[CW];congr 1;rw[Nat.mod_eq_sub_mod hi']
 rw[this]
theorem On[HX]{f:Fr}{o:Oper}(h:aA5 P f o w K):Res P K ((execOp (ev f) o).run P w):=by
 have keyV:∀(s:Sem Value),dF P s w K->Res P K ((do pure (.value (<-s)):Sem Next).run P w):=by
  intro s hs;unfold dF at hs;rw[run_bind];cases hr:s.run P w with
  |ok v w'=>rw[hr]at hs;exact hs
  |halt x w'=>rw[hr]at hs;exact hs.elim
 have keyU:∀(s:Sem Unit),nN P s w (K undef)->Res P K ((do s;pure .skip:Sem Next).run P w):=by
  intro s hs;unfold nN at hs;rw[run_bind];cases hr:s.run P w with
  |ok v w'=>rw[hr]at hs;exact hs
  |halt x w'=>rw[hr]at hs;exact hs.elim
 have keyP:∀(x:Value),ND x w->Res P K ((do pure (.value (<-Instr.panic x)):Sem Next).run P w):=by
  intro x hs;unfold ND at hs;split at hs
  ·exact hs
  ·exact hs.elim
 obtain⟨dst,op,type,pos,after,guard⟩:=o;cases op<;>simp only[aA5]at h<;>try exact h.elim
 case alloc T=>
  cases hz:Cb P T with
  |none=>rw[hz]at h;exact h.elim
  |some z=>
   rw[hz]at h;simp only[execOp];have hr:(Instr.alloc T true (.tuple #[])).run P w=.ok (.pointer (some ⟨w.heap.size,0,none⟩)) (w.alloc (.cells z.cells T)):=by
    simp[Instr.alloc,run_bind,rS hz,newVar,newRow,newObj,Sem.run,run_pure]
   rw[run_bind,hr];exact h
 case box T x=>
  simp only[execOp];have hr:(Instr.box T (ev f x)).run P w=.ok (.pointer (some ⟨w.heap.size,0,none⟩)) (w.alloc (.cells (ev f x).cells T)):=by
   simp[Instr.box,run_bind,newVar,newRow,newObj,Sem.run,run_pure]
  rw[run_bind,hr];exact h
 case buildSlice T n parts=>
  simp only[execOp];unfold Cu at h;split at h
  ·rename_i e hd;split at h
   ·rename_i z l hz hl
    replace h:=kS.out h
    obtain⟨h1,h⟩:=h
    replace h:=kS.out h
    obtain⟨h2,h⟩:=h
    replace h:=kS.out h
    obtain⟨h3,h4⟩:=h
    replace h2:=gY h2
    replace h3:=iZ h3
    unfold dJ at h4;obtain⟨cs,hk,hf⟩:=yS _ _ _ hl h4;have hparts:(parts.map λ(i,x)=>(i,ev f x)).toList=parts.toList.map λp=>(p.1,ev f p.2):=by simp
    have hr:(Instr.buildSlice T n (parts.map λ(i,x)=>(i,ev f x))).run P w=.ok (.slice (some ⟨w.heap.size,0,none⟩) n n) (w.alloc (.cells cs.toArray e)):=by
     simp only[Instr.buildSlice,run_bind,bH hd,gC h1];rw[aE (by omega)];have hcells:=EB (z:=z.cells) h2 n;by_cases h0:n*jP P e=0
     ·rw[aJ h0];simp only[run_bind,run_pure];have hc:((Array.range (n*jP P e)).map ((#[]:Array Value)[· %(#[]:Array Value).size]!))=(oQ n z.cells.toList).toArray:=by
       rw[<-hcells,h0];simp[show Array.range 0=#[]from rfl]
      rw[hc,hparts,hf];simp[run_bind,newRow,newObj,Sem.run,run_pure]
     ·rw[aE h0];simp only[run_bind,run_pure,rS hz];rw[hcells,hparts,hf];simp[run_bind,newRow,newObj,Sem.run,run_pure]
    rw[run_bind,hr];exact hk
   ·exact h.elim
  ·exact h.elim
 case store T a x=>
  simp only[execOp];obtain⟨w',hk,hr⟩:=YV (kS.out h).1 (kS.out h).2;rw[run_bind,hr];exact hk
 case mapUpdate T m k x=>simp only[execOp];exact keyU _ h
 case insert T m k x=>simp only[execOp];exact keyU _ h
 case makeMap T r=>simp only[execOp];exact keyV _ h
 case makeSlice T l c=>simp only[execOp];exact keyV _ h
 case range T x=>simp only[execOp];exact keyV _ h
 case next it s=>simp only[execOp];exact keyV _ h
 case panic x=>
  simp only[execOp];exact keyP _ h
 case convert s d x=>simp only[execOp];exact keyV _ h
 case call c=>
  obtain⟨callee,args,argTypes⟩:=c;cases callee with
  |value x=>
   simp only[execOp,resolve,wO];cases x<;>simp only at h
   case func g=>
    unfold aC at h;have:(do let d<-(Deferred.ofValue (ev f (.func g)) (evl f args).toArray);invoke d.target d.args:Sem Next)=callFunc g (evl f args).toArray:=by
     show callFunc g (#[]++(evl f args).toArray++#[])=_;simp
    rw[this];exact h
   all_goals exact h
  |invoke r m=>
   simp only at h;simp only[execOp,resolve,wO];have:(do let d<-(pure {target:=.fn (.method m) #[],args:=#[ev f r]++(evl f args).toArray}:Sem Deferred);invoke d.target d.args:Sem Next)=callMethod (ev f r) m (evl f args).toArray:=by
    show invoke (.fn (.method m) #[]) (#[ev f r]++(evl f args).toArray)=_;simp[invoke]
   rw[this];exact h
  |builtin b=>
   simp only[execOp,resolve,wO];cases b<;>simp only at h<;>first
    |exact h.elim
    |exact keyV _ h
    |(have e:(evl f args).getD 0 undef=(evl f args).toArray.getD 0 .nilIface:=by
       cases hl:evl f args with
       |nil=>rw[hl]at h;exact h.elim
       |cons a r=>rfl
      rw[e]at h;exact keyP _ h)
theorem Gz[HX]{f:Fr}{o:Oper}(h:HV P f o w K):Res P K ((execOp (ev f) o).run P w):=by
 unfold HV at h;cases hp:mM P o.op with
 |true=>
  rw[hp]at h;simp only at h;obtain⟨v,hk,hr⟩:=Dp (o:=o) h;rw[hr];exact hk
 |false=>
  rw[hp]at h;simp only at h;cases hq:isRead P o.op with
  |true=>
   rw[hq]at h;simp only at h;obtain⟨v,hk,hr⟩:=Ah (o:=o) h;rw[hr];exact hk
  |false=>
   rw[hq]at h;exact On h
def nZ:List Nat->Nat->Bool
 |[],_=>false
 |x::r,i=>bif Nat.beq x i then true else nZ r i
theorem iX{l:List Nat}:nZ l i=true↔i∈l:=by
 induction l with
 |nil=>simp[nZ]
 |cons x r ih=>
  simp only[nZ,bQ];cases h:Nat.beq x i with
  |true=>simp[gY h]
  |false=>
   have:¬i=x:=λe=>by subst e;simp at h
   simp[this,ih]
def isB(v:Value)(want:Bool):Bool:=match v with|.bool b=>b==want|_=>false
def qL(ops:List Oper)(g:Nat):Option Nat:=match ops[g]? with|some o=>o.dst|none=>none
def yv(ops:List Oper)(f:Fr)(g:Nat)(want:Bool):Bool:=match qL ops g with|some d=>isB (f d) want|none=>false
def kJ(ops:List Oper)(f:Fr)(o:Oper):Bool:=match o.guard with|none=>true|some (g,want)=>yv ops f g want
def Ag(n:Nat)(D:List Deferred)(f:Fr)(a:Act):Prop:=a.defers=D/\a.tmps.size=n/\∀t,a.tmps.getD t undef=f t
theorem Yl{f:Fr}{a:Act}{x:Operand}(h:∀t,x=.tmp t->a.tmps.getD t undef=f t):a.eval x=ev f x:=by
 cases x<;>first|rfl|exact h _ rfl
theorem xZ{D:List Deferred}{f:Fr}{a:Act}(h:Ag n D f a):a.eval=ev f:=funext λ_=>Yl λt _=>h.2.2 t
theorem EU{ops:List Oper}{f:Fr}{a:Act}{o:Oper}(h:∀g want d,o.guard=some (g,want)->qL ops g=some d->a.tmps.getD d undef=f d):
  Region.wanted o (yielded ops.toArray a.tmps)=kJ ops f o:=by
 unfold Region.wanted kJ;cases hg:o.guard with
 |none=>rfl
 |some gw=>
  obtain⟨g,want⟩:=gw;have hy:yielded ops.toArray a.tmps g=match qL ops g with|some d=>(match f d with|.bool b=>some b|_=>none)|none=>none:=by
   unfold yielded;have h':=h g want;unfold qL at*
   simp only[List.getElem?_toArray];cases hx:ops[g]? with
   |none=>rfl
   |some o'=>
    rw[hx]at h';cases hd:o'.dst with
    |none=>simp[hd]
    |some d=>
     have hfd:=h' d hg hd;simp only[Option.bind_some,hd];rw[<-hfd];rcases dO d a.tmps.size with hlt|hge
     ·have e1:a.tmps[d]?=some a.tmps[d]:=by simp[hlt]
      have e2:a.tmps.getD d undef=a.tmps[d]:=by simp[hlt]
      rw[e1,e2];generalize a.tmps[d]=x;cases x<;>rfl
     ·simp[Array.getElem?_eq_none hge,undef,Array.getD,Nat.not_lt.2 hge]
  simp only[yv,hy];cases hd:qL ops g with
  |none=>simp
  |some d=>simp only[isB];cases f d<;>simp
theorem Dn(a:Act)(d:Option Nat)(v:Value):(a.put d v).tmps.size=a.tmps.size:=by cases d<;>simp[Act.put]
theorem put_defers(a:Act)(d:Option Nat)(v:Value):(a.put d v).defers=a.defers:=by cases d<;>rfl
theorem GY(a:Act)(d:Nat)(v:Value)(t:Nat)(hd:d<a.tmps.size):(a.put (some d) v).tmps.getD t undef=if t=d then v else a.tmps.getD t undef:=by
 simp only[Act.put,iB,Array.getElem?_setIfInBounds];by_cases h:t=d
 ·subst h;simp[hd]
 ·rw[aE h,aE (uP h)]
theorem nM(f:Fr)(d:Nat)(v:Value)(t:Nat):upd f (some d) v t=if t=d then v else f t:=by
 simp only[upd];by_cases h:t=d
 ·subst h;simp
 ·have:Nat.beq t d=false:=by
   cases hb:Nat.beq t d with
   |false=>rfl
   |true=>exact absurd (gY hb) h
  simp[this,h]
theorem Ag.put{D:List Deferred}{f:Fr}{a:Act}{d:Option Nat}(h:Ag n D f a)(hd:∀t,d=some t->t<n)(v:Value):Ag n D (upd f d v) (a.put d v):=by
 refine⟨by rw[put_defers];exact h.1,by rw[Dn];exact h.2.1,λt=>?_⟩;cases d with
 |none=>exact h.2.2 t
 |some d=>rw[GY _ _ _ _ (by rw[h.2.1];exact hd d rfl),nM,h.2.2]
structure DE where
 fl:List Nat
 anc:List (List Nat)
def gL(o:Oper):List Nat:=(o.after.toList.filter (Region.binds .any)).map (·.on)
def allIn(done:List Nat):List Nat->Bool
 |[]=>true
 |x::r=>bif nZ done x then allIn done r else false
theorem zN{done l:List Nat}:allIn done l=true↔∀x∈l,x∈done:=by
 induction l with
 |nil=>simp[allIn]
 |cons x r ih=>
  simp only[allIn,bQ,forall_eq_or_imp];cases h:nZ done x with
  |true=>simp[iX.1 h,ih]
  |false=>
   have:x∉done:=λe=>by simp[iX.2 e]at h
   simp[this]
def sM(ops:List Oper)(done:List Nat):List Nat->Option (Nat×Oper)
 |[]=>none
 |i::r=>bif nZ done i then sM ops done r else
   (match ops[i]? with
    |some o=>bif allIn done (gL o)then some (i,o)else sM ops done r
    |none=>sM ops done r)
def BK(ops:List Oper)(fl done:List Nat):Nat->List Oper->List (Nat×Oper)
 |_,[]=>[]
 |i,o::r=>bif (bif nZ done i then false else(bif nZ fl i then false else allIn done (gL o)))then(i,o)::BK ops fl done (i+1) r else BK ops fl done (i+1) r
def VY(P:Program)(f:Fr)(o:Oper)(w:World)(K:Value->Prop):Prop:=
 match mM P o.op with
 |true=>Mi P f o.op K
 |false=>Dm P f o w K
def GqW(c:Bool)(A:(Value->Prop)->Prop)(B:Value->Prop):Prop:=∃v,(c=true->A (λx=>x=v))/\(c=false->v=undef)/\B v
def GeW(c:Bool)(w:World)(A:(Value->World->Prop)->Prop)(B:Value->World->Prop):Prop:=(c=true->A B)/\(c=false->B undef w)
def qfW(P:Program)(ops:List Oper)(f:Fr)(o:Oper)(w:World)(K:Value->Prop):Prop:=
 match o.guard with
 |none=>VY P f o w K
 |some (g,want)=>GqW (yv ops f g want) (VY P f o w) K
def geW[HX](P:Program)(ops:List Oper)(f:Fr)(o:Oper)(w:World)(K:Value->World->Prop):Prop:=
 match o.guard with
 |none=>HV P f o w K
 |some (g,want)=>GeW (yv ops f g want) w (HV P f o w) K
def wX(P:Program)(ops:List Oper)(f:Fr)(w:World)(rest:Prop):List Nat->Prop
 |[]=>rest
 |i::r=>match ops[i]? with
  |some o=>(match o.dst with
   |some d=>(match mM P o.op with
    |true=>wX P ops f w rest r
    |false=>
     ((match o.guard with
       |none=>Dm P f o w (λx=>x=f d)
       |some (g,want)=>yv ops f g want=true->Dm P f o w (λx=>x=f d))/\wX P ops f w rest r))
   |none=>wX P ops f w rest r)
  |none=>wX P ops f w rest r
def xQ(l:List Nat):List Nat->List Nat
 |[]=>[]
 |x::r=>bif nZ l x then xQ l r else x::xQ l r
theorem FG{l r:List Nat}{x:Nat}(h:x∈r)(hl:x∉l):x∈xQ l r:=by
 induction r with
 |nil=>cases h
 |cons y r ih=>
  simp only[xQ];rcases bQ.1 h with rfl|h
  ·have:nZ l x=false:=by
    cases hm:nZ l x with
    |false=>rfl
    |true=>exact absurd (iX.1 hm) hl
   simp[this]
  ·cases hm:nZ l y with
   |true=>exact ih h
   |false=>simp[ih h]
def aCD:Prop:=∀(_:HX) (P:Program) (ops:List Oper) (f:Fr) (o:Oper) (w:World) (K:Value->World->Prop),geW P ops f o w K->True
def Rw(p:Nat×Oper->Prop):List (Nat×Oper)->Prop
 |[]=>aCD
 |[x]=>p x
 |x::y::r=>p x/\Rw p (y::r)
theorem Gm{p:Nat×Oper->Prop}:∀{l:List (Nat×Oper)} {x},Rw p l->x∈l->p x
 |[],_,_,h=>by cases h
 |[y],x,h,hx=>by simp at hx;subst hx;exact h
 |y::z::r,x,h,hx=>by
  rcases bQ.1 hx with rfl|hx
  ·exact h.1
  ·exact Gm h.2 hx
def vX[HX](P:Program)(ops:List Oper)(e:DE):Nat->List Nat->List Nat->Fr->World->(Fr->World->Prop)->Prop
 |0,_,_,_,_,_=>False
 |n+1,done,pend,f,w,K=>
  match sM ops done e.fl with
  |some (i,o)=>qfW P ops f o w λv=>vX P ops e n (i::done) (i::pend) (upd f o.dst v) w K
  |none=>match BK ops e.fl done 0 ops with
   |[]=>K f w
   |x::r=>Rw (λio=>geW P ops f io.2 w λv w'=>
     wX P ops (upd f io.2.dst v) w' (vX P ops e n (io.1::done) (xQ (e.anc.getD io.1 []) pend) (upd f io.2.dst v) w' K) (xQ (e.anc.getD io.1 []) pend)) (x::r)
def nJ(ops:List Oper)(o:Oper):List Nat:=
 (o.op.operands.toList.filterMap λ|.tmp t=>some t|_=>none)++(match o.guard with|some (g,_)=>(qL ops g).toList|none=>[])
def FE(o:Oper):Bool:=match o.op with|.select ..=>false|_=>true
def Ys(P:Program)(ops:List Oper)(e:DE)(i:Nat):Bool:=
 match ops[i]? with
 |some o=>(mM P o.op||isRead P o.op)&&
  (match o.dst with
   |some d=>(List.range ops.length).all λk=>match ops[k]? with
     |some ok=>(k==i||ok.dst !=some d)&&(!(nZ (nJ ops ok) d)||nZ (e.anc.getD k []) i)&&
       (match ok.dst with
        |some dk=> !(nZ (nJ ops o) dk)||nZ (e.anc.getD i []) k||(!(nZ e.fl k)&&nZ (e.anc.getD k []) i)
        |none=>true)
     |none=>true
   |none=>false)
 |none=>false
def Yr(n:Nat)(ops:List Oper)(e:DE)(k:Nat):Bool:=
 match ops[k]? with
 |some o=>(match o.dst with|some d=>decide (d<n)|none=>true)&&FE o&&(gL o).all (λx=>decide (x<k))&&
   (e.anc.getD k []).all (λx=>(gL o).any λy=>x==y||nZ (e.anc.getD y []) x)
 |none=>true
def qD(P:Program)(n:Nat)(ops:List Oper)(e:DE):Bool:=
 e.fl.all (Ys P ops e)&&(List.range ops.length).all (Yr n ops e)
section
variable{P:Program}{n:Nat}{ops:List Oper}{e:DE}
theorem qY(h:qD P n ops e=true){k:Nat}{o:Oper}(hk:ops[k]?=some o):
  (∀d,o.dst=some d->d<n)/\FE o=true/\(∀x∈gL o,x<k)/\∀x∈e.anc.getD k [],∃y∈gL o,x=y\/x∈e.anc.getD y []:=by
 simp only[qD,aL,bW]at h;have hlt:k<ops.length:=by
  rcases dO k ops.length with h'|h'
  ·exact h'
  ·rw[List.getElem?_eq_none h']at hk;cases hk
 have:=h.2 k (tG.2 hlt);simp only[Yr,hk,aL,bW,List.any_eq_true,cM,fO,bA]at this;obtain⟨⟨⟨h1,h2⟩,h3⟩,h4⟩:=this;refine⟨λd hd=>by simpa[hd]using h1,h2,h3,λx hx=>?_⟩;obtain⟨y,hy,hxy⟩:=h4 x hx;exact⟨y,hy,hxy.imp id iX.1⟩
theorem Eo(h:qD P n ops e=true)(hi:i∈e.fl):∃o d,ops[i]?=some o/\o.dst=some d/\(mM P o.op=true\/isRead P o.op=true)/\
  ∀k ok,ops[k]?=some ok->(k≠i->ok.dst≠some d)/\(d∈nJ ops ok->i∈e.anc.getD k [])/\
   ∀dk,ok.dst=some dk->dk∈nJ ops o->k∈e.anc.getD i []\/(k∉e.fl/\i∈e.anc.getD k []):=by
 simp only[qD,aL,bW]at h;have h1:=h.1 i hi;unfold Ys at h1;cases ho:ops[i]? with
 |none=>simp[ho]at h1
 |some o=>
  simp only[ho]at h1;cases hd:o.dst with
  |none=>simp[hd]at h1
  |some d=>
   simp only[hd,aL,cM,bW]at h1;refine⟨o,d,rfl,hd,h1.1,λk ok hk=>?_⟩;have hlt:k<ops.length:=by
    rcases dO k ops.length with h'|h'
    ·exact h'
    ·rw[List.getElem?_eq_none h']at hk;cases hk
   have h2:=h1.2 k (tG.2 hlt);simp only[hk,aL,cM,fO,bne_iff_ne,dQ]at h2;obtain⟨⟨h3,h4⟩,h5⟩:=h2;refine⟨λhne=>h3.resolve_left hne,λhm=>?_,λdk hdk hm=>?_⟩
   ·rcases h4 with h4|h4
    ·rw[iX.2 hm]at h4;cases h4
    ·exact iX.1 h4
   ·simp only[hdk,aL,cM,dQ]at h5;rcases h5 with(h5|h5)|⟨h5,h6⟩
    ·rw[iX.2 hm]at h5;cases h5
    ·exact .inl (iX.1 h5)
    ·exact .inr ⟨(λhk'=>by rw[iX.2 hk']at h5;cases h5),iX.1 h6⟩
theorem Ew(h:qD P n ops e=true){done:List Nat}(hc:∀k∈done,∀o,ops[k]?=some o->∀x∈gL o,x∈done):
  ∀(k:Nat) (o:Oper),ops[k]?=some o->(∀x∈gL o,x∈done)->∀x∈e.anc.getD k [],x∈done:=by
 intro k;induction k using Nat.strongRecOn with
 |_ k ih=>
  intro o ho hd x hx;obtain⟨_,_,h3,h4⟩:=qY h ho;obtain⟨y,hy,hxy⟩:=h4 x hx;rcases hxy with rfl|hxy
  ·exact hd x hy
  ·have hyd:=hd y hy;cases hoy:ops[y]? with
   |none=>
    rw[List.getElem?_eq_none_iff]at hoy;have hk:k<ops.length:=by
     rcases dO k ops.length with h'|h'
     ·exact h'
     ·rw[List.getElem?_eq_none h']at ho;cases ho
    have:=h3 y hy;omega
   |some oy=>exact ih y (h3 y hy) oy hoy (λz hz=>hc y hyd oy hoy z hz) x hxy
end
section
variable{P:Program}{n:Nat}{D:List Deferred}{ops:List Oper}{e:DE}
def YY(P:Program)(ops:List Oper)(f:Fr)(o:Oper)(d:Nat)(w:World):Prop:=
 (kJ ops f o=true/\(execOp (ev f) o).run P w=.ok (.value (f d)) w)\/(kJ ops f o=false/\f d=undef)
structure Inv(R:Fr->Prop)(P:Program)(n:Nat)(D:List Deferred)(ops:List Oper)(e:DE)(listed:Array Bool)(a:Act)(done pend:List Nat)(f:Fr)(w:World):Prop where
 fr:R f
 defers:a.defers=D
 size:a.tmps.size=n
 lsize:listed.size=ops.length
 l1:∀i:Nat,listed.getD i false=true->i∈done
 l2:∀i∈done,i<ops.length/\(listed.getD i false=false->i∈e.fl/\i∈pend)
 l3:∀t,(∀i∈done,listed.getD i false=false->qL ops i≠some t)->a.tmps.getD t undef=f t
 l4:∀i∈done,listed.getD i false=false->∀o d,ops[i]?=some o->o.dst=some d->YY P ops f o d w/\(mM P o.op=true->∀w',YY P ops f o d w')
 l5:∀i∈done,∀o,ops[i]?=some o->∀x∈gL o,x∈done
 l6:∀i:Nat,listed.getD i false=true->∀o,ops[i]?=some o->∀x∈gL o,listed.getD x false=true
theorem DC{o:Oper}{t:Nat}(h:Operand.tmp t∈o.op.operands.toList):t∈nJ ops o:=by
 unfold nJ;exact eP _ (gN.2 ⟨.tmp t,h,rfl⟩)
theorem Cg{o:Oper}{g:Nat}{want:Bool}{d:Nat}(hg:o.guard=some (g,want))(hd:qL ops g=some d):d∈nJ ops o:=by
 unfold nJ;refine cW _ ?_;simp[hg,hd]
theorem Lc{o:Oper}(h:FE o=true):∀cs b,o.op≠.select cs b:=by
 intro cs b he;simp[FE,he]at h
theorem BH{o:Oper}(hs:FE o=true){ρ ρ':Operand->Value}(h:∀x∈o.op.operands.toList,ρ x=ρ' x):execOp ρ o=execOp ρ' o:=
 execOp_congr o (Lc hs) (λx hx=>h x (by simpa using hx))
theorem MK{f f':Fr}{x:Operand}(h:∀t,x=.tmp t->f t=f' t):ev f x=ev f' x:=by
 cases x<;>first|rfl|exact h _ rfl
theorem wB{f f':Fr}{o:Oper}(h:∀t∈nJ ops o,f t=f' t):kJ ops f o=kJ ops f' o:=by
 unfold kJ;cases hg:o.guard with
 |none=>rfl
 |some gw=>
  obtain⟨g,want⟩:=gw;simp only[yv];cases hd:qL ops g with
  |none=>rfl
  |some d=>simp only[h d (Cg hg hd)]
theorem YY.same{f f':Fr}{o:Oper}{d:Nat}(hs:FE o=true)(h:∀t∈nJ ops o,f t=f' t)(hd:f d=f' d)(hy:YY P ops f o d w):YY P ops f' o d w:=by
 unfold YY at*
 rw[<-wB h,<-hd];rw[<-BH hs (ρ:=ev f) (ρ':=ev f') (λx hx=>MK λt ht=>h t (DC (ht▸hx)))];exact hy
theorem PD{f:Fr}{o:Oper}{K:Value->Prop}(hp:mM P o.op=true\/isRead P o.op=true)(h:qfW P ops f o w K):
  ∃v,K v/\((kJ ops f o=true/\(execOp (ev f) o).run P w=.ok (.value v) w/\(mM P o.op=true->∀w',(execOp (ev f) o).run P w'=.ok (.value v) w'))\/(kJ ops f o=false/\v=undef)):=by
 have key:∀K:Value->Prop,VY P f o w K->∃v,K v/\(execOp (ev f) o).run P w=.ok (.value v) w/\(mM P o.op=true->∀w',(execOp (ev f) o).run P w'=.ok (.value v) w'):=by
  intro K h;unfold VY at h;cases hp':mM P o.op with
  |true=>
   rw[hp']at h;obtain⟨v,hk,hr⟩:=Dp (o:=o) h;exact⟨v,hk,hr w,λ_=>hr⟩
  |false=>
   rw[hp']at h;obtain⟨v,hk,hr⟩:=Ah (o:=o) h;exact⟨v,hk,hr,λhh=>by cases hh⟩
 unfold qfW at h;unfold kJ;cases hg:o.guard with
 |none=>
  simp only[hg]at h;obtain⟨v,hk,h1,h2⟩:=key K h;exact⟨v,hk,.inl ⟨rfl,h1,h2⟩⟩
 |some gw=>
  obtain⟨g,want⟩:=gw;simp only[hg]at h;obtain⟨v,ht,hf,hk⟩:=h;cases hc:yv ops f g want with
  |true=>
   obtain⟨v',rfl,h1,h2⟩:=key _ (ht hc);exact⟨v',hk,.inl ⟨hc,h1,h2⟩⟩
  |false=>exact⟨v,hk,.inr ⟨hc,hf hc⟩⟩
theorem xR{done:List Nat}:∀{l:List Nat} {i:Nat} {o:Oper},sM ops done l=some (i,o)->i∈l/\i∉done/\ops[i]?=some o/\∀x∈gL o,x∈done
 |[],_,_,h=>by cases h
 |j::l,i,o,h=>by
  simp only[sM]at h
  cases hm:nZ done j with
  |true=>rw[hm]at h;obtain⟨h1,h2⟩:=xR (l:=l) h;exact⟨aU _ h1,h2⟩
  |false=>
   rw[hm]at h
   simp only[aK]at h
   have rec_:sM ops done l=some (i,o)->i∈j::l/\i∉done/\ops[i]?=some o/\∀x∈gL o,x∈done:=λh=>by
    obtain⟨h1,h2⟩:=xR (l:=l) h
    exact⟨aU _ h1,h2⟩
   cases ho:ops[j]? with
   |none=>rw[ho]at h;exact rec_ h
   |some o'=>
    rw[ho]at h
    simp only at h
    cases hall:allIn done (gL o')with
    |true=>
     rw[hall]at h
     simp only[aN,bE,fZ]at h
     obtain⟨rfl,rfl⟩:=h
     exact⟨bD,(λhd=>by rw[iX.2 hd]at hm;cases hm),ho,zN.1 hall⟩
    |false=>rw[hall]at h;exact rec_ h
theorem tW{done:List Nat}:∀{l:List Nat},sM ops done l=none->∀i∈l,i∉done->∀o,ops[i]?=some o->¬∀x∈gL o,x∈done
 |[],_,_,hi,_,_,_,_=>by cases hi
 |j::l,h,i,hi,hd,o,ho,hall=>by
  simp only[sM]at h
  cases hm:nZ done j with
  |true=>
   rw[hm]at h
   rcases bQ.1 hi with rfl|hi
   ·exact hd (iX.1 hm)
   ·exact tW (l:=l) h i hi hd o ho hall
  |false=>
   rw[hm]at h
   simp only[aK]at h
   rcases bQ.1 hi with rfl|hi
   ·rw[ho]at h
    simp[zN.2 hall]at h
   ·cases ho':ops[j]? with
    |none=>rw[ho']at h;exact tW (l:=l) h i hi hd o ho hall
    |some o'=>
     rw[ho']at h
     simp only at h
     cases hall':allIn done (gL o')with
     |true=>rw[hall']at h;cases h
     |false=>rw[hall']at h;exact tW (l:=l) h i hi hd o ho hall
theorem Jd{fl done:List Nat}:∀(l:List Oper) (k i:Nat) (o:Oper),l[i]?=some o->k+i∉done->k+i∉fl->(∀x∈gL o,x∈done)->(k+i,o)∈BK ops fl done k l
 |[],_,i,o,h,_,_,_=>by simp at h
 |p::l,k,0,o,h,h1,h2,h3=>by
  simp only[List.getElem?_cons_zero,bE]at h
  subst h
  have e1:nZ done k=false:=by
   cases hm:nZ done k with
   |false=>rfl
   |true=>exact absurd (iX.1 hm) h1
  have e2:nZ fl k=false:=by
   cases hm:nZ fl k with
   |false=>rfl
   |true=>exact absurd (iX.1 hm) h2
  simp[BK,e1,e2,zN.2 h3]
 |p::l,k,i+1,o,h,h1,h2,h3=>by
  have h':l[i]?=some o:=by simpa using h
  have:=Jd (fl:=fl) (done:=done) l (k+1) i o h' (by rwa[show k+1+i=k+(i+1)by omega]) (by rwa[show k+1+i=k+(i+1)by omega]) h3;rw[show k+1+i=k+(i+1)by omega]at this;simp only[BK];generalize (bif nZ done k then false else bif nZ fl k then false else allIn done (gL p))=b;cases b
  ·exact this
  ·exact aU _ this
theorem JL{fl done:List Nat}:∀(l:List Oper) (k:Nat) (io:Nat×Oper),io∈BK ops fl done k l->k<=io.1/\l[io.1-k]?=some io.2/\io.1∉done/\io.1∉fl/\∀x∈gL io.2,x∈done
 |[],_,_,h=>by cases h
 |p::l,k,io,h=>by
  simp only[BK]at h
  have tail:io∈BK ops fl done (k+1) l->k<=io.1/\(p::l)[io.1-k]?=some io.2/\io.1∉done/\io.1∉fl/\∀x∈gL io.2,x∈done:=by
   intro h;obtain⟨h1,h2,h3⟩:=JL l (k+1) io h;refine⟨by omega,?_,h3⟩;rw[show io.1-k=(io.1-(k+1))+1 by omega];simpa using h2
  cases hm:nZ done k with
  |true=>rw[hm]at h;exact tail h
  |false=>
   cases hf:nZ fl k with
   |true=>rw[hm,hf]at h;exact tail h
   |false=>
    cases ha:allIn done (gL p)with
    |false=>rw[hm,hf,ha]at h;exact tail h
    |true=>
     rw[hm,hf,ha]at h;simp only[aK,aN]at h;rcases bQ.1 h with rfl|h
     ·refine⟨aS _,by simp,(λhd=>by rw[iX.2 hd]at hm;cases hm),(λhd=>by rw[iX.2 hd]at hf;cases hf),zN.1 ha⟩
     ·exact tail h
theorem uZ{f:Fr}{w:World}{R:Prop}:∀{l:List Nat},wX P ops f w R l->R
 |[],h=>h
 |i::l,h=>by
  unfold wX at h
  split at h
  ·split at h
   ·cases hp:mM P _<;>rw[hp]at h
    ·exact uZ (l:=l) h.2
    ·exact uZ (l:=l) h
   ·exact uZ (l:=l) h
  ·exact uZ (l:=l) h
theorem xL{f:Fr}{w:World}{R:Prop}:∀{l:List Nat},wX P ops f w R l->∀i∈l,∀o d,ops[i]?=some o->o.dst=some d->mM P o.op=false->kJ ops f o=true->
  Dm P f o w (λx=>x=f d)
 |[],_,_,hi,_,_,_,_,_,_=>by cases hi
 |j::l,h,i,hi,o,d,ho,hd,hp,hw=>by
  rcases bQ.1 hi with rfl|hi
  ·unfold wX at h
   simp only[ho,hd,hp]at h
   unfold kJ at hw
   cases hg:o.guard with
   |none=>simp only[hg]at h;exact h.1
   |some gw=>
    obtain⟨g,want⟩:=gw
    simp only[hg]at h hw
    exact h.1 hw
  ·unfold wX at h
   split at h
   ·split at h
    ·cases hp':mM P _<;>rw[hp']at h
     ·exact xL (l:=l) h.2 i hi o d ho hd hp hw
     ·exact xL (l:=l) h i hi o d ho hd hp hw
    ·exact xL (l:=l) h i hi o d ho hd hp hw
   ·exact xL (l:=l) h i hi o d ho hd hp hw
end
section
variable{R:Fr->Prop}{P:Program}{n:Nat}{D:List Deferred}{ops:List Oper}{e:DE}
theorem IX:∀(N:Nat) (l:List Nat),l.Nodup->(∀i∈l,i<N)->l.length<=N
 |0,[],_,_=>aS _
 |0,x::_,_,h=>by have:=h x bD;omega
 |N+1,l,hnd,h=>by
  have h1:(l.erase N).length<=N:=IX N (l.erase N) (hnd.erase N) λi hi=>by
   have h2:=h i (List.mem_of_mem_erase hi)
   have h3:i≠N:=λe=>by subst e;exact(List.Nodup.not_mem_erase hnd) hi
   omega
  have h4:=List.length_erase (a:=N) (l:=l)
  split at h4<;>omega
theorem lt_of_some{k:Nat}{o:Oper}(h:ops[k]?=some o):k<ops.length:=by
 rcases dO k ops.length with h'|h'
 ·exact h'
 ·rw[List.getElem?_eq_none h']at h;cases h
theorem wP{k:Nat}{o:Oper}(h:ops[k]?=some o):qL ops k=o.dst:=by simp[qL,h]
theorem Inv.float(hR:∀f o v,o∈ops->R f->R (upd f o.dst v))(hc:qD P n ops e=true){listed:Array Bool}{a:Act}{done pend:List Nat}{f:Fr}(I:Inv R P n D ops e listed a done pend f w){o:Oper}(hi:i∈e.fl)(hd:i∉done)(ho:ops[i]?=some o)(hb:∀x∈gL o,x∈done)
  (hv:(kJ ops f o=true/\(execOp (ev f) o).run P w=.ok (.value v) w/\(mM P o.op=true->∀w',(execOp (ev f) o).run P w'=.ok (.value v) w'))\/(kJ ops f o=false/\v=undef)):
  Inv R P n D ops e listed a (i::done) (i::pend) (upd f o.dst v) w:=by
 obtain⟨o',d,ho',hdst,hkind,hall⟩:=Eo hc hi;rw[ho]at ho';cases ho';have hself:d∉nJ ops o:=λhm=>hd (Ew hc I.l5 i o ho hb i ((hall i o ho).2.1 hm));have hfd:∀t,t≠d->upd f o.dst v t=f t:=λt ht=>by rw[hdst,nM,aE ht]
 refine⟨hR _ _ _ (bJ ho) I.fr,I.defers,I.size,I.lsize,λk hk=>aU _ (I.l1 k hk),?_,?_,?_,?_,I.l6⟩
 ·intro k hk;rcases bQ.1 hk with rfl|hk
  ·exact⟨lt_of_some ho,λ_=>⟨hi,bD⟩⟩
  ·exact⟨(I.l2 k hk).1,λhl=>⟨((I.l2 k hk).2 hl).1,aU _ ((I.l2 k hk).2 hl).2⟩⟩
 ·intro t ht;have htd:t≠d:=λh=>by
   subst h;refine ht i bD ?_ (by rw[wP ho,hdst]);cases hl:listed.getD i false with
   |false=>rfl
   |true=>exact absurd (I.l1 i hl) hd
  rw[hfd t htd];exact I.l3 t λk hk hl=>ht k (aU _ hk) hl
 ·intro k hk hl ok dk hok hdk;rcases bQ.1 hk with rfl|hk
  ·rw[ho]at hok;cases hok;rw[hdst]at hdk;cases hdk;have hsame:∀t∈nJ ops o,f t=upd f o.dst v t:=λt ht=>(hfd t (λh=>hself (h▸ht))).symm;have hval:upd f o.dst v d=v:=by rw[hdst,nM,aJ rfl]
   have hsel:=(qY hc ho).2.1;have hex:execOp (ev f) o=execOp (ev (upd f o.dst v)) o:=BH hsel (λx hx=>MK λt ht=>hsame t (DC (ht▸hx)));rcases hv with⟨h1,h2,h3⟩|⟨h1,h2⟩
   ·rw[hex]at h2 h3;rw[wB hsame]at h1;exact⟨.inl ⟨h1,by rw[hval];exact h2⟩,λhp w'=>.inl ⟨h1,by rw[hval];exact h3 hp w'⟩⟩
   ·rw[wB hsame]at h1;exact⟨.inr ⟨h1,by rw[hval];exact h2⟩,λ_ _=>.inr ⟨h1,by rw[hval];exact h2⟩⟩
  ·have hki:k≠i:=λh=>hd (h▸hk);have hdl:d∉nJ ops ok:=λhm=>hd (Ew hc I.l5 k ok hok (I.l5 k hk ok hok) i ((hall k ok hok).2.1 hm));have hdd:dk≠d:=λh=>(hall k ok hok).1 hki (by rw[hdk,h]);have hsel:=(qY hc hok).2.1;have h4:=I.l4 k hk hl ok dk hok hdk;have hsame:∀t∈nJ ops ok,f t=upd f o.dst v t:=λt ht=>(hfd t (λh=>hdl (h▸ht))).symm;exact⟨h4.1.same hsel hsame (hfd dk hdd).symm,λhp w'=>(h4.2 hp w').same hsel hsame (hfd dk hdd).symm⟩
 ·intro k hk ok hok x hx;rcases bQ.1 hk with rfl|hk
  ·rw[ho]at hok;cases hok;exact aU _ (hb x hx)
  ·exact aU _ (I.l5 k hk ok hok x hx)
theorem BM[HX](hR:∀f o v,o∈ops->R f->R (upd f o.dst v))(hc:qD P n ops e=true){K:Fr->World->Prop}{listed:Array Bool}{a:Act}{w:World}:∀(m:Nat) (done pend:List Nat) (f:Fr),
  Inv R P n D ops e listed a done pend f w->vX P ops e m done pend f w K->
  ∃m' done' pend' f',Inv R P n D ops e listed a done' pend' f' w/\vX P ops e (m'+1) done' pend' f' w K/\sM ops done' e.fl=none
 |0,_,_,_,_,h=>by cases h
 |m+1,done,pend,f,I,h=>by
  cases hn:sM ops done e.fl with
  |none=>exact⟨m,done,pend,f,I,h,hn⟩
  |some io=>
   obtain⟨i,o⟩:=io
   simp only[vX,hn]at h
   obtain⟨h1,h2,h3,h4⟩:=xR hn
   obtain⟨o',d,ho',hdst,hkind,_⟩:=Eo hc h1
   rw[h3]at ho'
   cases ho'
   obtain⟨v,hk,hv⟩:=PD hkind h
   exact BM hR hc m _ _ _ (I.float hR hc h1 h2 h3 h4 hv) hk
theorem Ak{listed:Array Bool}(hsz:listed.size=ops.length):i∈Region.ready .any ops.toArray listed↔
  ∃o,ops[i]?=some o/\listed.getD i false=false/\∀x∈gL o,listed.getD x false=true:=by
 unfold Region.ready;simp only[jG,tG,jX,aL,dQ,List.getElem?_toArray];constructor
 ·rintro⟨h1,h2,h3⟩;have ho:ops[i]?=some ops[i]:=List.getElem?_eq_getElem h1;rw[ho]at h3;simp only[gF,Option.getD_some,zT,cM,dQ]at h3;refine⟨_,ho,?_,λx hx=>?_⟩
  ·simp only[iB]at h2⊢;have:i<listed.size:=by rw[hsz];exact h1
   simpa[this]using h2
  ·simp only[gL,kT,jG,Array.mem_toList_iff]at hx;obtain⟨ed,⟨hm,hb⟩,rfl⟩:=hx;rcases h3 ed hm with h3|h3
   ·rw[hb]at h3;cases h3
   ·exact h3
 ·rintro⟨o,ho,h2,h3⟩;have h1:=lt_of_some ho;refine⟨h1,?_,?_⟩
  ·simp only[iB]at h2⊢;have:i<listed.size:=by rw[hsz];exact h1
   simpa[this]using h2
  ·rw[ho];simp only[gF,Option.getD_some,zT,cM,dQ];intro ed hm;cases hb:Region.binds .any ed with
   |false=>exact .inl rfl
   |true=>exact .inr (h3 _ (by simp only[gL,kT,jG,Array.mem_toList_iff];exact⟨ed,⟨hm,hb⟩,rfl⟩))
theorem mQ(listed:Array Bool)(i k:Nat)(hi:i<listed.size):(listed.setIfInBounds i true).getD k false=(if k=i then true else listed.getD k false):=by
 simp only[iB,Array.getElem?_setIfInBounds];by_cases h:k=i
 ·subst h;simp[hi]
 ·rw[aE h,aE (uP h)]
theorem LJ[HX](hR:∀f o v,o∈ops->R f->R (upd f o.dst v))(hc:qD P n ops e=true){Q:Exit->Act->World->Prop}{K:Fr->World->Prop}
  (hQ:∀f a w,Ag n D f a->R f->K f w->Q .normal a w)(hX:∀c f a w,a.defers=D->R f->(∀t,(∀o∈ops,o.dst≠some t)->a.tmps.getD t undef=f t)->HX.X c w->Q (.panic c) a w):∀(m:Nat) (listed:Array Bool) (a:Act) (done pend:List Nat) (f:Fr) (w:World) (k:Nat),
  Inv R P n D ops e listed a done pend f w->vX P ops e k done pend f w K->(∀l:List Nat,l.Nodup->(∀i∈l,i<ops.length/\listed.getD i false=false)->l.length<=m)->
  wpAny P .any ops.toArray Q m listed a w:=by
 have fin:∀(listed:Array Bool) (a:Act) (done pend:List Nat) (f:Fr) (w:World) (k:Nat),Inv R P n D ops e listed a done pend f w->vX P ops e k done pend f w K->
   (∀i,i<ops.length->listed.getD i false=true)->Q .normal a w:=by
  intro listed a done pend f w k I h hall;obtain⟨k',done',pend',f',I',h',hn⟩:=BM hR hc k done pend f I h;simp only[vX,hn]at h';have hag:Ag n D f' a:=⟨I'.defers,I'.size,λt=>I'.l3 t λi hi hl=>by
   have:=hall i (I'.l2 i hi).1;rw[this]at hl;cases hl⟩
  cases he:BK ops e.fl done' 0 ops with
  |nil=>rw[he]at h';exact hQ _ _ _ hag I'.fr h'
  |cons x r=>
   have hx:x∈BK ops e.fl done' 0 ops:=by rw[he];exact bD
   obtain⟨_,h2,h3,_⟩:=JL ops 0 x hx;exact absurd (I'.l1 x.1 (hall x.1 (lt_of_some (by simpa using h2)))) h3
 have stop:∀(listed:Array Bool),listed.size=ops.length->Region.ready .any ops.toArray listed=[]->∀i,i<ops.length->listed.getD i false=true:=by
  intro listed hsz hr i;induction i using Nat.strongRecOn with
  |_ i ih=>
   intro hi;cases hl:listed.getD i false with
   |true=>rfl
   |false=>
    have ho:ops[i]?=some ops[i]:=List.getElem?_eq_getElem hi;have:i∈Region.ready .any ops.toArray listed:=(Ak hsz).2 ⟨_,ho,hl,λx hx=>by
     have:=(qY hc ho).2.2.1 x hx;exact ih x this (by omega)⟩
    rw[hr]at this;cases this
 intro m;induction m with
 |zero=>
  intro listed a done pend f w k I h hcount;have hall:∀i,i<ops.length->listed.getD i false=true:=λi hi=>by
   cases hl:listed.getD i false with
   |true=>rfl
   |false=>have:=hcount [i] (by simp) (by intro j hj;rw[bP.1 hj];exact⟨hi,hl⟩);simp at this
  refine⟨?_,fin _ _ _ _ _ _ _ I h hall⟩;cases hr:Region.ready .any ops.toArray listed with
  |nil=>rfl
  |cons i r=>
   have:i∈Region.ready .any ops.toArray listed:=by rw[hr];exact bD
   obtain⟨o,ho,hl,_⟩:=(Ak I.lsize).1 this;rw[hall i (lt_of_some ho)]at hl;cases hl
 |succ m ih=>
  intro listed a done pend f w k I h hcount;refine⟨λhr=>fin _ _ _ _ _ _ _ I h (stop listed I.lsize hr),λi hi=>?_⟩;obtain⟨o,ho,hl,hb⟩:=(Ak I.lsize).1 hi;have hilt:=lt_of_some ho;have hils:i<listed.size:=by rw[I.lsize];exact hilt
  obtain⟨k',done',pend',f',I',h',hn⟩:=BM hR hc k done pend f I h;clear I h;have hagree:∀t∈nJ ops o,a.tmps.getD t undef=f' t:=λt ht=>I'.l3 t λj hj hlj hdj=>by
   obtain⟨hjf,_⟩:=(I'.l2 j hj).2 hlj;obtain⟨oj,dj,hoj,hdst,_,hall⟩:=Eo hc hjf;rw[wP hoj,hdst]at hdj;cases hdj;have hanc:=(hall i o ho).2.1 ht;have hlist:∀x∈e.anc.getD i [],listed.getD x false=true:=by
    have:=Ew hc (done:=(List.range ops.length).filter λx=>listed.getD x false) (λx hx ox hox y hy=>by
     simp only[jG,tG]at hx⊢;exact⟨by have:=(qY hc hox).2.2.1 y hy;omega,I'.l6 x hx.2 ox hox y hy⟩) i o ho (λx hx=>by
     simp only[jG,tG];exact⟨by have:=(qY hc ho).2.2.1 x hx;omega,hb x hx⟩)
    intro x hx;have:=this x hx;simp only[jG]at this;exact this.2
   rw[hlist j hanc]at hlj;cases hlj
  have hsel:=(qY hc ho).2.1;have hwant:Region.wanted o (yielded ops.toArray a.tmps)=kJ ops f' o:=EU λg want d hg hd=>hagree d (Cg hg hd);have hexec:execOp a.eval o=execOp (ev f') o:=BH hsel λx hx=>Yl λt ht=>hagree t (DC (ht▸hx));have hcount':∀l:List Nat,l.Nodup->(∀j∈l,j<ops.length/\(listed.setIfInBounds i true).getD j false=false)->l.length<=m:=by
   intro l hnd hl';have hil:i∉l:=λhm=>by
    have:=(hl' i hm).2;rw[mQ _ _ _ hils,aJ rfl]at this;cases this
   have:=hcount (i::l) (jF.2 ⟨hil,hnd⟩) (λj hj=>by
    rcases bQ.1 hj with rfl|hj
    ·exact⟨hilt,hl⟩
    ·have hne:j≠i:=λh=>hil (h▸hj);have:=hl' j hj;rw[mQ _ _ _ hils,aE hne]at this;exact this)
   simpa using this
  have hl6:∀j:Nat,(listed.setIfInBounds i true).getD j false=true->∀oj,ops[j]?=some oj->∀x∈gL oj,(listed.setIfInBounds i true).getD x false=true:=by
   intro j hj oj hoj x hx;rw[mQ _ _ _ hils];by_cases hxi:x=i
   ·rw[aJ hxi]
   ·rw[aE hxi];rw[mQ _ _ _ hils]at hj;by_cases hji:j=i
    ·subst hji;rw[ho]at hoj;cases hoj;exact hb x hx
    ·rw[aE hji]at hj;exact I'.l6 j hj oj hoj x hx
  by_cases hdone:i∈done'
  ·
   obtain⟨hif,_⟩:=(I'.l2 i hdone).2 hl;obtain⟨o',d,ho',hdst,_,hall⟩:=Eo hc hif;rw[ho]at ho';cases ho';have hdn:=(qY hc ho).1 d hdst;have hI:Inv R P n D ops e (listed.setIfInBounds i true) (a.put o.dst (f' d)) done' pend' f' w:=by
    refine⟨I'.fr,by rw[put_defers];exact I'.defers,by rw[Dn];exact I'.size,by simp[I'.lsize],?_,?_,?_,?_,I'.l5,hl6⟩
    ·intro j hj;rw[mQ _ _ _ hils]at hj;by_cases hji:j=i
     ·subst hji;exact hdone
     ·rw[aE hji]at hj;exact I'.l1 j hj
    ·intro j hj;refine⟨(I'.l2 j hj).1,λhlj=>?_⟩;rw[mQ _ _ _ hils]at hlj;by_cases hji:j=i
     ·rw[aJ hji]at hlj;cases hlj
     ·rw[aE hji]at hlj;exact(I'.l2 j hj).2 hlj
    ·intro t ht;rw[hdst,GY _ _ _ _ (by rw[I'.size];exact hdn)];by_cases htd:t=d
     ·rw[aJ htd,htd]
     ·rw[aE htd];refine I'.l3 t λj hj hlj hdj=>?_;by_cases hji:j=i
      ·subst hji;rw[wP ho,hdst]at hdj;cases hdj;exact htd rfl
      ·exact ht j hj (by rw[mQ _ _ _ hils,aE hji];exact hlj) hdj
    ·intro j hj hlj;rw[mQ _ _ _ hils]at hlj;by_cases hji:j=i
     ·rw[aJ hji]at hlj;cases hlj
     ·rw[aE hji]at hlj;exact I'.l4 j hj hlj
   have hnext:=ih _ _ done' pend' f' w (k'+1) hI h' hcount';have hy:=(I'.l4 i hdone hl o d ho hdst).1;unfold wpOp;simp only[List.getElem?_toArray,ho];rw[hwant];rcases hy with⟨h1,h2⟩|⟨h1,h2⟩
   ·rw[aJ h1];refine .inl ?_;unfold Oper.wp;rw[hexec,h2];exact hnext
   ·rw[aE (by rw[h1];simp),<-h2];exact hnext
  ·
   have hbd:∀x∈gL o,x∈done':=λx hx=>I'.l1 x (hb x hx);have hnf:i∉e.fl:=λhf=>tW hn i hf hdone o ho hbd;have hmem:(i,o)∈BK ops e.fl done' 0 ops:=by
    have:=Jd (ops:=ops) (fl:=e.fl) (done:=done') ops 0 i o ho (by simpa using hdone) (by simpa using hnf) hbd;simpa using this
   simp only[vX,hn]at h';have hge:geW P ops f' o w λv w'=>wX P ops (upd f' o.dst v) w' (vX P ops e k' (i::done') (xQ (e.anc.getD i []) pend') (upd f' o.dst v) w' K) (xQ (e.anc.getD i []) pend'):=by
    cases he:BK ops e.fl done' 0 ops with
    |nil=>rw[he]at hmem;cases hmem
    |cons x r=>
     rw[he]at h' hmem;exact Gm h' hmem
   have hdn:=(qY hc ho).1;have hlanc:∀x∈e.anc.getD i [],listed.getD x false=true:=by
    have:=Ew hc (done:=(List.range ops.length).filter λx=>listed.getD x false) (λx hx ox hox y hy=>by
     simp only[jG,tG]at hx⊢;exact⟨by have:=(qY hc hox).2.2.1 y hy;omega,I'.l6 x hx.2 ox hox y hy⟩) i o ho (λx hx=>by
     simp only[jG,tG];exact⟨by have:=(qY hc ho).2.2.1 x hx;omega,hb x hx⟩)
    intro x hx;have:=this x hx;simp only[jG]at this;exact this.2
   have cont:∀v w',wX P ops (upd f' o.dst v) w' (vX P ops e k' (i::done') (xQ (e.anc.getD i []) pend') (upd f' o.dst v) w' K) (xQ (e.anc.getD i []) pend')->
     wpAny P .any ops.toArray Q m (listed.setIfInBounds i true) (a.put o.dst v) w':=by
    intro v w' hst;refine ih _ _ (i::done') (xQ (e.anc.getD i []) pend') (upd f' o.dst v) w' k' ?_ (uZ hst) hcount';have hunl:∀j∈i::done',(listed.setIfInBounds i true).getD j false=false->j≠i/\j∈done'/\listed.getD j false=false:=by
     intro j hj hlj;rw[mQ _ _ _ hils]at hlj;by_cases hji:j=i
     ·rw[aJ hji]at hlj;cases hlj
     ·rw[aE hji]at hlj;exact⟨hji,(bQ.1 hj).resolve_left hji,hlj⟩
    refine⟨hR _ _ _ (bJ ho) I'.fr,by rw[put_defers];exact I'.defers,by rw[Dn];exact I'.size,by simp[I'.lsize],?_,?_,?_,?_,?_,hl6⟩
    ·intro j hj;rw[mQ _ _ _ hils]at hj;by_cases hji:j=i
     ·subst hji;exact bD
     ·rw[aE hji]at hj;exact aU _ (I'.l1 j hj)
    ·intro j hj;refine⟨?_,λhlj=>?_⟩
     ·rcases bQ.1 hj with rfl|hj
      ·exact hilt
      ·exact(I'.l2 j hj).1
     ·obtain⟨hji,hjd,hlj'⟩:=hunl j hj hlj;obtain⟨h1,h2⟩:=(I'.l2 j hjd).2 hlj';exact⟨h1,FG h2 λhm=>by rw[hlanc j hm]at hlj';cases hlj'⟩
    ·intro t ht;have h3:∀(h:∀d,o.dst=some d->t≠d),a.tmps.getD t undef=f' t:=λh=>I'.l3 t λj hj hlj hdj=>by
      have hji:j≠i:=λh'=>hdone (h'▸hj);exact ht j (aU _ hj) (by rw[mQ _ _ _ hils,aE hji];exact hlj) hdj
     cases hdst:o.dst with
     |none=>rw[hdst]at h3;exact h3 (λd hd=>by cases hd)
     |some d=>
      rw[GY _ _ _ _ (by rw[I'.size];exact hdn d hdst),nM];by_cases htd:t=d
      ·rw[aJ htd,aJ htd]
      ·rw[aE htd,aE htd];exact h3 (λd' hd'=>by rw[hdst]at hd';cases hd';exact htd)
    ·intro j hj hlj oj dj hoj hdj;obtain⟨hji,hjd,hlj'⟩:=hunl j hj hlj;obtain⟨hjf,hjp⟩:=(I'.l2 j hjd).2 hlj';obtain⟨oj',dj',hoj',hdj',hkind,hall⟩:=Eo hc hjf;rw[hoj]at hoj';cases hoj';rw[hdj]at hdj';cases hdj';have hselj:=(qY hc hoj).2.1;have hanc:j∉e.anc.getD i []:=λhm=>by rw[hlanc j hm]at hlj';cases hlj'
     have hfree:∀t,(t∈nJ ops oj\/t=dj)->f' t=upd f' o.dst v t:=by
      intro t ht;cases hdst:o.dst with
      |none=>rfl
      |some d=>
       rw[nM];by_cases htd:t=d
       ·exfalso;subst htd;rcases ht with ht|ht
        ·rcases(hall i o ho).2.2 t hdst ht with h1|⟨_,h1⟩
         ·exact hdone (Ew hc I'.l5 j oj hoj (I'.l5 j hjd oj hoj) i h1)
         ·exact hanc h1
        ·exact(hall i o ho).1 (uP hji) (by rw[hdst,ht])
       ·rw[aE htd]
     obtain⟨hy1,hy2⟩:=I'.l4 j hjd hlj' oj dj hoj hdj;have hpure:mM P oj.op=true->∀w',YY P ops (upd f' o.dst v) oj dj w':=λhp w'=>(hy2 hp w').same hselj (λt ht=>hfree t (.inl ht)) (hfree dj (.inr rfl));refine⟨?_,hpure⟩;cases hp:mM P oj.op with
     |true=>exact hpure hp w'
     |false=>
      cases hwj:kJ ops (upd f' o.dst v) oj with
      |true=>
       have:=xL hst j (FG hjp hanc) oj dj hoj hdj hp hwj;obtain⟨x,rfl,hr⟩:=Ah this;exact .inl ⟨hwj,hr⟩
      |false=>
       refine .inr ⟨hwj,?_⟩;have hw0:kJ ops f' oj=false:=by rw[wB (λt ht=>hfree t (.inl ht))];exact hwj
       rcases hy1 with⟨h1,_⟩|⟨_,h1⟩
       ·rw[hw0]at h1;cases h1
       ·rw[<-hfree dj (.inr rfl)];exact h1
    ·intro j hj oj hoj x hx;rcases bQ.1 hj with rfl|hj
     ·rw[ho]at hoj;cases hoj;exact aU _ (hbd x hx)
     ·exact aU _ (I'.l5 j hj oj hoj x hx)
   unfold wpOp;simp only[List.getElem?_toArray,ho];rw[hwant];unfold geW at hge;unfold kJ;have hxa:∀c w,HX.X c w->Q (.panic c) a w:=λc w hx=>hX c f' a w I'.defers I'.fr (λt ht=>I'.l3 t λj hj _ hdj=>by
    obtain⟨oj,hoj⟩:∃oj,ops[j]?=some oj:=⟨_,List.getElem?_eq_getElem (I'.l2 j hj).1⟩;rw[wP hoj]at hdj;exact ht oj (bJ hoj) hdj) hx
   have act:∀{K':Value->World->Prop},(∀v w',K' v w'->wpAny P .any ops.toArray Q m (listed.setIfInBounds i true) (a.put o.dst v) w')->HV P f' o w K'->
     o.wp P a w (wpAny P .any ops.toArray Q m (listed.setIfInBounds i true)) Q:=by
    intro K' hk ha;unfold Oper.wp;rw[hexec];exact(Gz ha).upon hk hxa
   cases hg:o.guard with
   |none=>
    simp only[hg]at hge;exact .inl (act cont hge)
   |some gw=>
    obtain⟨g,want⟩:=gw;simp only[hg]at hge;obtain⟨h1,h2⟩:=hge;cases hcv:yv ops f' g want with
    |true=>simp only[hcv,gM];exact .inl (act cont (h1 hcv))
    |false=>simp only[hcv,fH,kH];exact cont _ _ (h2 hcv)
theorem IF[HX]{id:Nat}(hR:∀f o v,o∈ops->R f->R (upd f o.dst v))(hm:P.follows .mixedOrders=true)(hc:qD P n ops e=true){Q:Exit->Act->World->Prop}{K:Fr->World->Prop}{f:Fr}{a:Act}{k:Nat}
  (hQ:∀f a w,Ag n D f a->R f->K f w->Q .normal a w)(hX:∀c f a w,a.defers=D->R f->(∀t,(∀o∈ops,o.dst≠some t)->a.tmps.getD t undef=f t)->HX.X c w->Q (.panic c) a w)(ha:Ag n D f a)(hf:R f)(h:vX P ops e k [] [] f w.drew K):(Code.region id ops.toArray true).wp P Q a w:=by
 refine wp_region_any hm ?_;have hfalse:∀i:Nat,(Array.replicate ops.length false).getD i false=false:=λi=>by
  simp only[iB,Array.getElem?_replicate];split<;>rfl
 refine LJ hR hc hQ hX _ _ a [] [] f _ k ⟨hf,ha.1,ha.2.1,by simp,?_,?_,?_,?_,?_,?_⟩ h ?_
 ·intro i hi;rw[show ops.toArray.size=ops.length from by simp,hfalse]at hi;cases hi
 ·intro i hi;cases hi
 ·intro t _;exact ha.2.2 t
 ·intro i hi;cases hi
 ·intro i hi;cases hi
 ·intro i hi;rw[show ops.toArray.size=ops.length from by simp,hfalse]at hi;cases hi
 ·intro l hnd hl;have:l.length<=ops.length:=by
   exact IX _ l hnd λi hi=>(hl i hi).1
  simpa using this
end
structure PE where
 C:List Nat
 V:List Nat
 lo:Nat
structure cK where
 js:List (Nat×PE)
 ds:List (Nat×DE)
def lk{α:Type}:List (Nat×α)->Nat->Option α
 |[],_=>none
 |(k,e)::r,i=>bif Nat.beq k i then some e else lk r i
def inS(V:List Nat)(lo t:Nat):Bool:=bif Nat.ble lo t then true else nZ V t
def ovl:List Nat->Nat->List Value->Fr->Fr
 |[],_,_,f=>f
 |c::C,k,s,f=>λj=>bif Nat.beq j c then s.getD k undef else ovl C (k+1) s f j
def ovf(e:PE)(f:Fr)(s:List Value)(g:Fr):Fr:=ovl e.C 0 s (λj=>bif inS e.V e.lo j then g j else f j)
def bS(A:(List Value->World->Prop)->Prop)(B:List Value->Fr->World->Prop):Prop:=
 ∃J:List Value->World->Prop,A J/\∀s g w,J s w->B s g w
def GdW(c:Bool)(u:List Value)(w:World)(A:(List Value->World->Prop)->Prop)(B:List Value->Fr->World->Prop):Prop:=
 ∃J:List Value->World->Prop,(c=true->A J)/\(c=false->J u w)/\∀s g w',J s w'->B s g w'
def cZ(s0:List Value)(w0:World)(B:List Value->Fr->World->(List Value->World->Prop)->Prop):Prop:=
 ∃(I:List Value->World->Prop) (μ:List Value->World->Nat),I s0 w0/\∀s g w,I s w->B s g w (λs' w'=>I s' w'/\μ s' w'<μ s w)
def aR(v:Value)(A B:Prop):Prop:=match v with|.bool t=>(t=true->A)/\(t=false->B)|_=>False
def gEq:Option (Nat×Bool)->Nat->Bool->Bool
 |some (g',w'),g,w=>bif Nat.beq g g' then w==w' else false
 |none,_,_=>false
def zY(g:Nat)(want:Bool):List Oper->List Oper
 |[]=>[]
 |o::r=>bif gEq o.guard g want then o::zY g want r else []
def Bo(g:Nat)(want:Bool):List Oper->List Oper
 |[]=>[]
 |o::r=>bif gEq o.guard g want then Bo g want r else o::r
def aAK[HX](P:Program):List Oper->Fr->World->(Fr->World->Prop)->Prop
 |[],f,w,K=>K f w
 |o::r,f,w,K=>HV P f o w λv w'=>aAK P r (upd f o.dst v) w' K
def CX:List Oper->Fr->Fr
 |[],f=>f
 |o::r,f=>CX r (upd f o.dst undef)
def QV(i k:Nat):Nat:=i*1000+k
def PV[HX](P:Program)(pl:cK)(i:Nat)(ops:List Oper):Nat->List Oper->Fr->World->(Fr->World->Prop)->Prop
 |0,_,_,_,_=>False
 |_+1,[],f,w,K=>K f w
 |n+1,o::r,f,w,K=>
  match o.guard with
  |none=>HV P f o w λv w'=>PV P pl i ops n r (upd f o.dst v) w' K
  |some (g,want)=>
   match lk pl.js (QV i (o::r).length)with
   |some e=>GdW (yv ops f g want) (e.C.map (CX (zY g want (o::r)) f)) w (λJ=>aAK P (zY g want (o::r)) f w λf' w'=>J (e.C.map f') w')
     λs h w'=>PV P pl i ops n (Bo g want (o::r)) (ovf e f s h) w' K
   |none=>False
def tU:Code->Nat
 |.seq a b=>tU a+tU b+1
 |.cond _ a b=>tU a+tU b+1
 |.block _ b=>tU b+1
 |.loop b=>tU b+1
 |.scope b=>tU b+1
 |_=>1
def oM[HX](P:Program)(pl:cK):Code->Nat->Fr->World->(Fr->World->Prop)->(Nat->Fr->World->Prop)->(Fr->World->Prop)->Prop
 |.skip,_,f,w,kn,_,_=>kn f w
 |.label _,_,f,w,kn,_,_=>kn f w
 |.region _ ops draw,i,f,w,kn,_,_=>
  bif draw then(match lk pl.ds i with|some e=>vX P ops.toList e (ops.toList.length+1) [] [] f w.drew kn|none=>False)
  else PV P pl i ops.toList (ops.toList.length+1) ops.toList f w kn
 |.seq a b,i,f,w,kn,kx,kr=>
  match lk pl.js i with
  |none=>oM P pl a (i+1) f w (λf' w'=>oM P pl b (i+1+tU a) f' w' kn kx kr) kx kr
  |some e=>bS (λJ=>oM P pl a (i+1) f w (λf' w'=>J (e.C.map f') w') kx kr) λs g w'=>oM P pl b (i+1+tU a) (ovf e f s g) w' kn kx kr
 |.cond c a b,i,f,w,kn,kx,kr=>aR (ev f c) (oM P pl a (i+1) f w kn kx kr) (oM P pl b (i+1+tU a) f w kn kx kr)
 |.block id b,i,f,w,kn,kx,kr=>oM P pl b (i+1) f w kn (λj f' w'=>bif Nat.beq j id then kn f' w' else kx j f' w') kr
 |.loop b,i,f,w,_,kx,kr=>
  match lk pl.js i with
  |none=>False
  |some e=>cZ (e.C.map f) w λs g w' again=>oM P pl b (i+1) (ovf e f s g) w' (λf' w''=>again (e.C.map f') w'') kx kr
 |.scope b,i,f,w,kn,kx,kr=>oM P pl b (i+1) f w kn kx kr
 |.exit id,_,f,w,_,kx,_=>kx id f w
 |.ret,_,f,w,_,_,kr=>kr f w
 |_,_,_,_,_,_,_=>False
def JX(V:List Nat)(lo:Nat)(e:PE):Bool:=Nat.ble lo e.lo&&e.V.all (inS V lo)&&e.C.all (inS e.V e.lo)
def Aa(V:List Nat)(lo:Nat)(o:Oper):Bool:=match o.dst with|some d=>inS V lo d|none=>true
def JM(n:Nat)(o:Oper):Bool:=match o.dst with|some d=>Nat.blt d n|none=>true
def nA(pl:cK)(V:List Nat)(lo:Nat)(i:Nat)(ops:List Oper):List Oper->Bool
 |[]=>true
 |o::r=>(match o.guard with
  |none=>true
  |some (g,want)=>(match lk pl.js (QV i (o::r).length)with
   |some e=>JX V lo e&&(zY g want (o::r)).all λx=>Aa e.V e.lo x&&(match x.dst,qL ops g with|some d,some dg=> !(Nat.beq d dg)|_,_=>true)
   |none=>true))&&nA pl V lo i ops r
def chk(P:Program)(n:Nat)(pl:cK)(V:List Nat)(lo:Nat):Code->Nat->Bool
 |.region _ ops draw,i=>ops.toList.all (λo=>Aa V lo o&&JM n o)&&
  (bif draw then(match lk pl.ds i with|some e=>qD P n ops.toList e|none=>true)else nA pl V lo i ops.toList ops.toList)
 |.seq a b,i=>(match lk pl.js i with|none=>chk P n pl V lo a (i+1)|some e=>JX V lo e&&chk P n pl e.V e.lo a (i+1))&&chk P n pl V lo b (i+1+tU a)
 |.cond _ a b,i=>chk P n pl V lo a (i+1)&&chk P n pl V lo b (i+1+tU a)
 |.block _ b,i=>chk P n pl V lo b (i+1)
 |.scope b,i=>chk P n pl V lo b (i+1)
 |.loop b,i=>(match lk pl.js i with|none=>true|some e=>JX V lo e&&chk P n pl e.V e.lo b (i+1))
 |_,_=>true
def Same(V:List Nat)(lo:Nat)(f f':Fr):Prop:=∀t,inS V lo t=false->f' t=f t
theorem Same.refl(V:List Nat)(lo:Nat)(f:Fr):Same V lo f f:=λ_ _=>rfl
theorem Same.trans{V:List Nat}{lo:Nat}{f g h:Fr}(h1:Same V lo f g)(h2:Same V lo g h):Same V lo f h:=λt ht=>(h2 t ht).trans (h1 t ht)
theorem Mx{V:List Nat}{lo t:Nat}:inS V lo t=true↔lo<=t\/t∈V:=by
 unfold inS;cases h:Nat.ble lo t with
 |true=>simp[iZ h]
 |false=>
  have:¬lo<=t:=λhle=>by rw[Nat.ble_eq_true_of_le hle]at h;cases h
  simp[this,iX]
theorem BR{V:List Nat}{lo:Nat}{e:PE}(h:JX V lo e=true):(∀t,inS e.V e.lo t=true->inS V lo t=true)/\∀c∈e.C,inS e.V e.lo c=true:=by
 simp only[JX,aL,bW]at h;refine⟨λt ht=>?_,h.2⟩;rcases Mx.1 ht with h1|h1
 ·exact Mx.2 (.inl (cI (iZ h.1.1) h1))
 ·exact h.1.2 t h1
theorem Same.wider{V V':List Nat}{lo lo':Nat}{f f':Fr}(hs:∀t,inS V lo t=true->inS V' lo' t=true)(h:Same V lo f f'):Same V' lo' f f':=λt ht=>h t (by
 cases hi:inS V lo t with
 |false=>rfl
 |true=>rw[hs t hi]at ht;cases ht)
theorem Ml(f':Fr):∀(C:List Nat) (k:Nat) (s:List Value) (f:Fr) (t:Nat),(∀j,j<C.length->s.getD (k+j) undef=f' (C.getD j 0))->(t∉C->f t=f' t)->ovl C k s f t=f' t
 |[],_,_,_,_,_,h=>h (by simp)
 |c::C,k,s,f,t,hs,h=>by
  simp only[ovl]
  cases hb:Nat.beq t c with
  |true=>
   have:=hs 0 (by simp)
   simp only[aN]
   rw[gY hb]
   simpa using this
  |false=>
   simp only[aK]
   have hne:t≠c:=λe=>by subst e;simp at hb
   refine Ml f' C (k+1) s f t (λj hj=>?_) λhn=>h (by simp[hne,hn])
   have:=hs (j+1) (by simp;omega)
   rw[show k+1+j=k+(j+1)by omega,this]
   rfl
theorem AL{e:PE}{f f':Fr}(h:Same e.V e.lo f f'):ovf e f (e.C.map f') f'=f':=by
 funext t;refine Ml f' e.C 0 _ _ t (λj hj=>?_) λ_=>?_
 ·simp[hj]
 ·cases hi:inS e.V e.lo t with
  |true=>simp[hi]
  |false=>simp[hi,h t hi]
theorem Same.upd{V:List Nat}{lo:Nat}{f:Fr}{o:Oper}(h:Aa V lo o=true)(v:Value):Same V lo f (upd f o.dst v):=by
 intro t ht;unfold Aa at h;cases hd:o.dst with
 |none=>rfl
 |some d=>
  rw[hd]at h;rw[nM,aE];intro e;subst e;have h:inS V lo t=true:=h;rw[h]at ht;cases ht
theorem El{o:Oper}(h:JM n o=true):∀t,o.dst=some t->t<n:=by
 intro t ht;rw[JM,ht]at h;exact iZ h
theorem Ra{x:Option (Nat×Bool)}{g:Nat}{w:Bool}(h:gEq x g w=true):x=some (g,w):=by
 cases x with
 |none=>cases h
 |some p=>
  obtain⟨g',w'⟩:=p;simp only[gEq]at h;cases hb:Nat.beq g g' with
  |false=>rw[hb]at h;cases h
  |true=>
   rw[hb]at h;simp only[aN,fO]at h;rw[gY hb,h]
theorem FU(g:Nat)(want:Bool):∀l:List Oper,l=zY g want l++Bo g want l/\∀o∈zY g want l,o.guard=some (g,want)
 |[]=>⟨rfl,by simp[zY]⟩
 |o::r=>by
  simp only[zY,Bo]
  cases h:gEq o.guard g want with
  |false=>simp
  |true=>
   obtain⟨h1,h2⟩:=FU g want r
   refine⟨by simp only[aN,dA];rw[<-h1],λx hx=>?_⟩
   simp only[aN,bQ]at hx
   rcases hx with rfl|hx
   ·exact Ra h
   ·exact h2 x hx
section
variable [HX]{P:Program}{n:Nat}{D:List Deferred}{ops:List Oper}{Q:Exit->Act->World->Prop}{V:List Nat}{lo:Nat}
def PX[HX](V:List Nat)(lo:Nat)(D:List Deferred)(Q:Exit->Act->World->Prop)(f:Fr):Prop:=
 ∀c a w,a.defers=D->(∀t,inS V lo t=false->a.tmps.getD t undef=f t)->HX.X c w->Q (.panic c) a w
theorem PX.same{f f':Fr}(h:PX V lo D Q f)(hs:Same V lo f f'):PX V lo D Q f':=λc a w hd ht hx=>h c a w hd (λt hn=>(ht t hn).trans (hs t hn)) hx
theorem PX.sub{V':List Nat}{lo':Nat}{f:Fr}(h:PX V lo D Q f)(hs:∀t,inS V' lo' t=true->inS V lo t=true):PX V' lo' D Q f:=λc a w hd ht hx=>h c a w hd (λt hn=>ht t (by
 cases hh:inS V' lo' t with
 |false=>rfl
 |true=>rw[hs t hh]at hn;cases hn)) hx
theorem PX.ag{f:Fr}{a:Act}(h:PX V lo D Q f)(hag:Ag n D f a):∀c w,HX.X c w->Q (.panic c) a w:=λc w hx=>h c a w hag.1 (λt _=>hag.2.2 t) hx
theorem Ay{f:Fr}{a:Act}{o:Oper}(h:Ag n D f a):Region.wanted o (yielded ops.toArray a.tmps)=kJ ops f o:=EU λ_ _ d _ _=>h.2.2 d
theorem Hb{f:Fr}{a:Act}{o:Oper}{rest:List Oper}(hag:Ag n D f a)(hw:kJ ops f o=true)(h:HV P f o w K)
  (hk:∀v w',K v w'->wpList P ops.toArray Q rest (a.put o.dst v) w')(hx:∀c w,HX.X c w->Q (.panic c) a w):wpList P ops.toArray Q (o::rest) a w:=by
 unfold wpList;rw[aJ (by rw[Ay hag];exact hw)];refine .inl ?_;unfold Oper.wp;rw[xZ hag];exact(Gz h).upon hk hx
theorem UI{f:Fr}{a:Act}{o:Oper}{rest:List Oper}(hag:Ag n D f a)(hw:kJ ops f o=false)
  (hk:wpList P ops.toArray Q rest (a.put o.dst undef) w):wpList P ops.toArray Q (o::rest) a w:=by
 unfold wpList;rw[aE (by rw[Ay hag,hw];simp)];exact hk
theorem OF{f:Fr}{g:Nat}{want:Bool}{o:Oper}(h:∀d dg,o.dst=some d->qL ops g=some dg->d≠dg):yv ops (upd f o.dst v) g want=yv ops f g want:=by
 unfold yv;cases hg:qL ops g with
 |none=>rfl
 |some dg=>
  cases hd:o.dst with
  |none=>rfl
  |some d=>simp only;rw[nM,aE (uP (h d dg hd hg))]
theorem Dt{g:Nat}{want:Bool}:∀(grp rest:List Oper) (f:Fr) (a:Act) (w:World) (K:Fr->World->Prop),(∀o∈grp,o.guard=some (g,want))->
  (∀o∈grp,Aa V lo o=true/\(∀t,o.dst=some t->t<n)/\∀d dg,o.dst=some d->qL ops g=some dg->d≠dg)->Ag n D f a->yv ops f g want=true->aAK P grp f w K->
  (∀f' a' w',Ag n D f' a'->Same V lo f f'->K f' w'->wpList P ops.toArray Q rest a' w')->PX V lo D Q f->wpList P ops.toArray Q (grp++rest) a w
 |[],rest,f,a,w,K,_,_,hag,_,h,hk,_=>hk f a w hag (Same.refl _ _ _) h
 |o::grp,rest,f,a,w,K,hg,hd,hag,hy,h,hk,hX=>by
  obtain⟨h1,h2,h3⟩:=hd o bD
  refine Hb hag (by simp only[kJ,hg o bD];exact hy) h (λv w' h'=>?_) (hX.ag hag)
  refine Dt grp rest (upd f o.dst v) (a.put o.dst v) w' K (λx hx=>hg x (aU _ hx)) (λx hx=>hd x (aU _ hx)) (hag.put h2 v) (by rw[OF h3];exact hy) h' ?_ (hX.same (Same.upd h1 v))
  exactλf' a' w'' hag' hs hK=>hk f' a' w'' hag' (Same.trans (Same.upd h1 v) hs) hK
theorem AB{g:Nat}{want:Bool}:∀(grp rest:List Oper) (f:Fr) (a:Act) (w:World),(∀o∈grp,o.guard=some (g,want))->
  (∀o∈grp,Aa V lo o=true/\(∀t,o.dst=some t->t<n)/\∀d dg,o.dst=some d->qL ops g=some dg->d≠dg)->Ag n D f a->yv ops f g want=false->
  (∀a',Ag n D (CX grp f) a'->Same V lo f (CX grp f)->wpList P ops.toArray Q rest a' w)->wpList P ops.toArray Q (grp++rest) a w
 |[],rest,f,a,w,_,_,hag,_,hk=>hk a hag (Same.refl _ _ _)
 |o::grp,rest,f,a,w,hg,hd,hag,hy,hk=>by
  obtain⟨h1,h2,h3⟩:=hd o bD
  refine UI hag (by simp only[kJ,hg o bD];exact hy) ?_
  refine AB grp rest (upd f o.dst undef) (a.put o.dst undef) w (λx hx=>hg x (aU _ hx)) (λx hx=>hd x (aU _ hx)) (hag.put h2 undef) (by rw[OF h3];exact hy) ?_
  exactλa' hag' hs=>hk a' hag' (Same.trans (Same.upd h1 undef) hs)
theorem yG{pl:cK}{i:Nat}:∀(x y:List Oper),nA pl V lo i ops (x++y)=true->nA pl V lo i ops y=true
 |[],_,h=>h
 |o::x,y,h=>by
  simp only[dA,nA,aL]at h
  exact yG x y h.2
theorem wK{pl:cK}{i:Nat}{K:Fr->World->Prop}:∀(m:Nat) (l:List Oper) (f:Fr) (a:Act) (w:World),(∀o∈l,Aa V lo o=true/\JM n o=true)->nA pl V lo i ops l=true->
  Ag n D f a->PV P pl i ops m l f w K->(∀f' a' w',Ag n D f' a'->Same V lo f f'->K f' w'->Q .normal a' w')->PX V lo D Q f->wpList P ops.toArray Q l a w
 |0,_,_,_,_,_,_,_,h,_,_=>by cases h
 |m+1,[],f,a,w,_,_,hag,h,hQ,_=>hQ f a w hag (Same.refl _ _ _) h
 |m+1,o::r,f,a,w,hd,hc,hag,h,hQ,hX=>by
  unfold PV at h
  cases hg:o.guard with
  |none=>
   simp only[hg]at h
   have hd0:=hd o bD
   refine Hb hag (by simp[kJ,hg]) h (λv w' h'=>?_) (hX.ag hag)
   simp only[nA,aL]at hc
   refine wK m r _ _ w' (λx hx=>hd x (aU _ hx)) hc.2 (hag.put (El hd0.2) v) h' ?_ (hX.same (Same.upd hd0.1 v))
   exactλf' a' w'' hag' hs hK=>hQ f' a' w'' hag' (Same.trans (Same.upd hd0.1 v) hs) hK
  |some gw=>
   obtain⟨g,want⟩:=gw
   simp only[hg]at h
   cases he:lk pl.js (QV i (o::r).length)with
   |none=>simp only[he]at h
   |some e=>
    simp only[he]at h
    obtain⟨J,hT,hF,hB⟩:=h
    obtain⟨hsplit,hgs⟩:=FU g want (o::r)
    have hc0:=hc
    simp only[nA,hg,he,aL,bW]at hc
    obtain⟨⟨hpe,hgrp⟩,hc2⟩:=hc
    obtain⟨hsub,hC⟩:=BR hpe
    have hgd:∀x∈zY g want (o::r),Aa e.V e.lo x=true/\(∀t,x.dst=some t->t<n)/\∀d dg,x.dst=some d->qL ops g=some dg->d≠dg:=by
     intro x hx;have h1:=hgrp x hx;refine⟨h1.1,El (hd x (by rw[hsplit];exact eP _ hx)).2,λd dg hxd hdg hne=>?_⟩;have h2:=h1.2;simp only[hxd,hdg,hne]at h2;simp at h2
    have hcr:nA pl V lo i ops (Bo g want (o::r))=true:=by
     rw[hsplit]at hc0;exact yG _ _ hc0
    have hdr:∀x∈Bo g want (o::r),Aa V lo x=true/\JM n x=true:=λx hx=>hd x (by rw[hsplit];exact cW _ hx);rw[hsplit];cases hy:yv ops f g want with
    |true=>
     refine Dt (V:=e.V) (lo:=e.lo) _ _ f a w _ hgs hgd hag hy (hT hy) (λf' a' w' hag' hs hJ=>?_) (hX.sub hsub);have h':=hB _ f' _ hJ;simp only[AL hs]at h';refine wK m _ f' a' w' hdr hcr hag' h' ?_ (hX.same (Same.wider hsub hs));exactλf'' a'' w'' hag'' hs' hK=>hQ f'' a'' w'' hag'' (Same.trans (Same.wider hsub hs) hs') hK
    |false=>
     refine AB (V:=e.V) (lo:=e.lo) _ _ f a w hgs hgd hag hy λa' hag' hs=>?_;have h':=hB _ (CX (zY g want (o::r)) f) _ (hF hy);simp only[AL hs]at h';refine wK m _ _ a' w hdr hcr hag' h' ?_ (hX.same (Same.wider hsub hs));exactλf'' a'' w'' hag'' hs' hK=>hQ f'' a'' w'' hag'' (Same.trans (Same.wider hsub hs) hs') hK
end
section
variable [HX]{P:Program}{n:Nat}{D:List Deferred}{pl:cK}
theorem uE(hm:P.follows .mixedOrders=true):∀(c:Code) (V:List Nat) (lo i:Nat) (f:Fr) (a:Act) (w:World) (kn:Fr->World->Prop) (kx:Nat->Fr->World->Prop) (kr:Fr->World->Prop) (Q:Exit->Act->World->Prop),
  chk P n pl V lo c i=true->Ag n D f a->oM P pl c i f w kn kx kr->
  (∀f' a' w',Ag n D f' a'->Same V lo f f'->kn f' w'->Q .normal a' w')->(∀j f' a' w',Ag n D f' a'->Same V lo f f'->kx j f' w'->Q (.exit j) a' w')->
  (∀f' a' w',Ag n D f' a'->Same V lo f f'->kr f' w'->Q .ret a' w')->PX V lo D Q f->c.wp P Q a w:=by
 intro c;induction c with
 |skip=>intro V lo i f a w kn kx kr Q _ hag h hn _ _ _;exact wp_skip (hn f a w hag (Same.refl _ _ _) h)
 |label l=>intro V lo i f a w kn kx kr Q _ hag h hn _ _ _;exact wp_label (hn f a w hag (Same.refl _ _ _) h)
 |exit id=>intro V lo i f a w kn kx kr Q _ hag h _ hx _ _;exact wp_exit (hx id f a w hag (Same.refl _ _ _) h)
 |ret=>intro V lo i f a w kn kx kr Q _ hag h _ _ hr _;exact wp_ret (hr f a w hag (Same.refl _ _ _) h)
 |goto l=>intro V lo i f a w kn kx kr Q _ _ h _ _ _ _;exact h.elim
 |refuse l=>intro V lo i f a w kn kx kr Q _ _ h _ _ _ _;exact h.elim
 |scope b ih=>
  intro V lo i f a w kn kx kr Q hc hag h hn hx hr hX;simp only[chk]at hc;simp only[oM]at h;refine wp_scope_straight ?_;exact ih V lo _ f a w kn kx kr _ hc hag h hn hx hr hX
 |rangeFunc f' ps az b=>intro V lo i f a w kn kx kr Q _ _ h _ _ _ _;exact h.elim
 |region id ops draw=>
  intro V lo i f a w kn kx kr Q hc hag h hn _ _ hX;simp only[chk,aL,bW]at hc;simp only[oM]at h;cases draw with
  |false=>
   simp only[aK]at h hc;refine wp_region_list ?_;have:=wK (ops:=ops.toList) (Q:=Q) (n:=n) (V:=V) (lo:=lo) _ _ f a w hc.1 hc.2 hag h hn hX;simpa using this
  |true=>
   simp only[aN]at h hc;cases he:lk pl.ds i with
   |none=>simp only[he]at h
   |some e=>
    simp only[he]at h hc;have:=IF (R:=Same V lo f) (id:=id) (Q:=Q) (K:=kn) (λf' o v ho hs=>Same.trans hs (Same.upd (hc.1 o ho).1 v)) hm hc.2
     (λf' a' w' hag' hs hk=>hn f' a' w' hag' hs hk) (λc f' a' w' hd hs ht hx=>hX c a' w' hd (λt hn=>(ht t λo ho he=>by
       have:=(hc.1 o ho).1;simp only[Aa,he]at this;rw[this]at hn;cases hn).trans (hs t hn)) hx) hag (Same.refl _ _ _) h
    simpa using this
 |seq x y ihx ihy=>
  intro V lo i f a w kn kx kr Q hc hag h hn hx hr hX;simp only[chk,aL]at hc;simp only[oM]at h;refine wp_seq ?_;cases he:lk pl.js i with
  |none=>
   simp only[he]at h hc;refine ihx V lo (i+1) f a w _ kx kr _ hc.1 hag h ?_ hx hr hX;intro f' a' w' hag' hs h';exact ihy V lo _ f' a' w' kn kx kr Q hc.2 hag' h' (λf'' a'' w'' hag'' hs' hk=>hn f'' a'' w'' hag'' (hs.trans hs') hk)
    (λj f'' a'' w'' hag'' hs' hk=>hx j f'' a'' w'' hag'' (hs.trans hs') hk) (λf'' a'' w'' hag'' hs' hk=>hr f'' a'' w'' hag'' (hs.trans hs') hk) (hX.same hs)
  |some e=>
   simp only[he,aL]at h hc;obtain⟨hsub,hC⟩:=BR hc.1.1;obtain⟨J,hA,hB⟩:=h;refine ihx e.V e.lo (i+1) f a w _ kx kr _ hc.1.2 hag hA ?_ (λj f' a' w' hag' hs hk=>hx j f' a' w' hag' (hs.wider hsub) hk) (λf' a' w' hag' hs hk=>hr f' a' w' hag' (hs.wider hsub) hk) (hX.sub hsub);intro f' a' w' hag' hs hJ;have h':=hB _ f' _ hJ;simp only[AL hs]at h';have hs0:=hs.wider hsub;exact ihy V lo _ f' a' w' kn kx kr Q hc.2 hag' h' (λf'' a'' w'' hag'' hs' hk=>hn f'' a'' w'' hag'' (hs0.trans hs') hk)
    (λj f'' a'' w'' hag'' hs' hk=>hx j f'' a'' w'' hag'' (hs0.trans hs') hk) (λf'' a'' w'' hag'' hs' hk=>hr f'' a'' w'' hag'' (hs0.trans hs') hk) (hX.same hs0)
 |cond c x y ihx ihy=>
  intro V lo i f a w kn kx kr Q hc hag h hn hx hr hX;simp only[chk,aL]at hc;simp only[oM]at h;have he:a.eval c=ev f c:=congrFun (xZ hag) c;cases hv:ev f c<;>rw[hv]at h<;>simp only[aR]at h<;>try exact h.elim
  rename_i t;refine wp_cond_split (he.trans hv) (λht=>?_) (λht=>?_)
  ·exact ihx V lo _ f a w kn kx kr Q hc.1 hag (h.1 ht) hn hx hr hX
  ·exact ihy V lo _ f a w kn kx kr Q hc.2 hag (h.2 ht) hn hx hr hX
 |block id b ih=>
  intro V lo i f a w kn kx kr Q hc hag h hn hx hr hX;simp only[chk]at hc;simp only[oM]at h;refine wp_block ?_;refine ih V lo _ f a w kn _ kr _ hc hag h hn ?_ hr hX;intro j f' a' w' hag' hs hk;simp only[Exit.inBlock];cases hj:Nat.beq j id with
  |true=>
   rw[hj]at hk;rw[aJ (gY hj)];exact hn f' a' w' hag' hs hk
  |false=>
   rw[hj]at hk;rw[aE (λe=>by subst e;simp at hj)];exact hx j f' a' w' hag' hs hk
 |loop b ih=>
  intro V lo i f a w kn kx kr Q hc hag h hn hx hr hX;simp only[chk]at hc;simp only[oM]at h;cases he:lk pl.js i with
  |none=>simp only[he]at h
  |some e=>
   simp only[he,aL]at h hc;obtain⟨hsub,hC⟩:=BR hc.1;obtain⟨I,μ,h0,hround⟩:=h;refine wp_loop (λa' w'=>∃f',Ag n D f' a'/\Same e.V e.lo f f'/\I (e.C.map f') w') (λa' w'=>μ (e.C.map λt=>a'.tmps.getD t undef) w') ⟨f,hag,Same.refl _ _ _,h0⟩ ?_;rintro a' w' ⟨f',hag',hs,hI⟩;have h':=hround _ f' _ hI;simp only[AL hs]at h';have hfun:(λt=>a'.tmps.getD t undef)=f':=funext hag'.2.2;refine ih e.V e.lo _ f' a' w' _ kx kr _ hc.2 hag' h' ?_ (λj f'' a'' w'' hag'' hs' hk=>hx j f'' a'' w'' hag'' ((hs.trans hs').wider hsub) hk)
    (λf'' a'' w'' hag'' hs' hk=>hr f'' a'' w'' hag'' ((hs.trans hs').wider hsub) hk) ((hX.sub hsub).same hs)
   intro f'' a'' w'' hag'' hs' hk;have hfun':(λt=>a''.tmps.getD t undef)=f'':=funext hag''.2.2;refine⟨⟨f'',hag'',hs.trans hs',hk.1⟩,?_⟩;rw[hfun,hfun'];exact hk.2
def Cw(P:Program):List ResultVar->Fr->World->(List Value->Prop)->Prop
 |[],_,_,K=>K []
 |.tmp t::r,f,w,K=>Cw P r f w λl=>K (f t::l)
 |.cell a T::r,f,w,K=>kS (P.underlying T).isSome (ldW (uN P T) (jP P T) (f a) w λv=>Cw P r f w λl=>K (v::l))
def one:List Value->Value
 |[v]=>v
 |l=>.tuple l.toArray
def ID(tmps:Array Value):ResultVar->Sem Value
 |.tmp t=>pure (tmps.getD t undef)
 |.cell x t=>do loadVar t (<-asAddr (tmps.getD x undef))
theorem KQ(fn:Func)(tmps:Array Value):results fn tmps=(do let vs<-fn.results.mapM (ID tmps);pure (if h:vs.size=1 then vs[0]else .tuple vs)):=rfl
theorem GU{f:Fr}{a:Act}{w:World}(hag:Ag n D f a):∀(l:List ResultVar) (K:List Value->Prop),Cw P l f w K->
  ∃vs,K vs/\(l.mapM (ID a.tmps)).run P w=.ok vs w
 |[],K,h=>⟨[],h,rfl⟩
 |.tmp t::r,K,h=>by
  obtain⟨vs,hk,hr⟩:=GU hag r _ h
  refine⟨_,hk,?_⟩
  rw[List.mapM_cons,run_bind]
  simp only[ID,run_pure,run_bind,hr]
  rw[hag.2.2 t]
 |.cell x T::r,K,h=>by
  replace h:=kS.out h
  obtain⟨hT,h⟩:=h
  obtain⟨v,h',hl⟩:=QG hT h
  obtain⟨vs,hk,hr⟩:=GU hag r _ h'
  refine⟨_,hk,?_⟩
  have hl':(ID a.tmps (.cell x T)).run P w=.ok v w:=by
   show(do loadVar T (<-asAddr (a.tmps.getD x undef)):Sem Value).run P w=.ok v w;rw[hag.2.2 x];cases hv:f x<;>rw[hv]at h hl<;>simp only[ldW]at h<;>try exact h.elim
   rename_i p;cases p with
   |none=>exact h.elim
   |some p=>exact hl
  rw[List.mapM_cons,run_bind];simp only[hl',run_bind,hr,run_pure]
theorem tR{fn:Func}{f:Fr}{a:Act}{K:Value->Prop}(hag:Ag n D f a)(h:Cw P fn.results.toList f w λl=>K (one l)):
  ∃v,K v/\(results fn a.tmps).run P w=.ok v w:=by
 obtain⟨vs,hk,hr⟩:=GU hag _ _ h;refine⟨_,hk,?_⟩;rw[KQ,run_bind];have:(fn.results.mapM (ID a.tmps)).run P w=.ok vs.toArray w:=by
  rw[Array.mapM_eq_mapM_toList,<-bind_pure_comp,run_bind,hr];rfl
 rw[this];simp only[run_pure];congr 1;cases vs with
 |nil=>rfl
 |cons v r=>cases r<;>rfl
def fr0(args:List Value):Fr:=λj=>args.getD j undef
def aAY[HX](P:Program)(fn:Func)(pl:cK)(args:List Value)(w:World)(K:Value->World->Prop):Prop:=
 match fn.body with
 |some c=>oM P pl c 0 (fr0 args) w (λf w'=>Cw P fn.results.toList f w' λl=>K (one l) w') (λ_ _ _=>False) (λf w'=>Cw P fn.results.toList f w' λl=>K (one l) w')
 |none=>False
def LQ(P:Program)(fn:Func)(pl:cK)(k:Nat):Bool:=
 match fn.body with
 |some c=>Nat.ble k fn.ntmps&&chk P fn.ntmps pl [] 0 c 0
 |none=>false
theorem Lz{g:FuncId}{fn:Func}{args:List Value}(hm:P.follows .mixedOrders=true)(hf:P.funcs[g]?=some fn)(hc:LQ P fn pl args.length=true)
  (h:aAY P fn pl args w K):Yt P g args w K:=by
 unfold aAY at h;unfold LQ at hc;cases hb:fn.body with
 |none=>rw[hb]at h;exact h.elim
 |some c=>
  rw[hb]at h hc;simp only[aL]at hc;unfold Yt;refine calls_of_wp hf hb ?_;have hle:args.length<=fn.ntmps:=iZ hc.1;have hag:Ag fn.ntmps [] (fr0 args) {tmps:=args.toArray++Array.replicate (fn.ntmps-args.toArray.size) undef,defers:=[]}:=by
   refine⟨rfl,by simp;omega,λt=>?_⟩;simp only[iB,Array.getElem?_append,jX,List.getElem?_toArray,Array.getElem?_replicate,fr0,List.getD_eq_getElem?_getD];split
   ·rfl
   ·rename_i hlt;rw[List.getElem?_eq_none (by omega)];split<;>rfl
  have hend:∀(f':Fr) (a':Act) (w':World),Ag fn.ntmps [] f' a'->(Cw P fn.results.toList f' w' λl=>K (one l) w')->a'.defers=[]/\∃v,(results fn a'.tmps).run P w'=.ok v w'/\ES K (.returned v) w':=by
   intro f' a' w' hag' hk;obtain⟨v,hk',hr⟩:=tR (K:=λv=>K v w') hag' hk;exact⟨hag'.1,v,hr,hk'⟩
  exact uE hm c [] 0 0 _ _ w _ _ _ _ hc.2 hag h (λf' a' w' hag' _ hk=>hend f' a' w' hag' hk) (λ_ _ _ _ _ _ hk=>hk.elim) (λf' a' w' hag' _ hk=>hend f' a' w' hag' hk) (λc a' w' hd _ hx=>⟨hd,hx⟩)
theorem tie(P:Program)(g:FuncId)(fn:Func)(pl:cK)(args:List Value)(w:World)(K:Value->World->Prop)(k:Nat)(X:Prop)(hk:args.length=k)(hm:P.follows .mixedOrders=true)(hf:P.funcs[g]?=some fn)
  (hc:LQ P fn pl k=true)(he:aAY P fn pl args w K=X)(hr:∀(az:Array Value) (w:World),(callFunc g az).run P w=.ok (.enter g az) w)(h:X):aC P g args w K:=by
 unfold aC;rw[hr];exact Lz hm hf (by rw[hk];exact hc) (by rw[he];exact h)
theorem callF_calls{g:FuncId}{args:List Value}(hr:(callFunc g args.toArray).run P w=.ok (.enter g args.toArray) w)(h:aC P g args w K):
  Calls P g args.toArray w (ES K):=by
 unfold aC at h;rw[hr]at h;exact h
end
def Gq(o:Option Obj)(i:Nat):Option Value:=match o with|some (.cells c _ _)=>c[i]?|_=>none
def frO(o:Option Obj)(i:Nat):Bool:=match o with|some (.cells _ _ (lo,hi))=>decide (lo<=i)&&decide (i<hi)|_=>false
def Zc(o:Option Obj)(i:Nat)(v:Value):Option Obj:=match o with|some (.cells c t f)=>some (.cells (c.setIfInBounds i v) t f)|o=>o
theorem cH(c:Array Value)(t:TypeId)(f:Nat×Nat)(i:Nat):Gq (some (.cells c t f)) i=c[i]?:=rfl
theorem Rc(c:Array Value)(t:TypeId)(lo hi:Nat)(i:Nat):frO (some (.cells c t (lo,hi))) i=(decide (lo<=i)&&decide (i<hi)):=rfl
theorem qI(c:Array Value)(t:TypeId)(i:Nat):frO (some (.cells c t (0,0))) i=false:=by simp[frO]
theorem yR(c:Array Value)(t:TypeId)(f:Nat×Nat)(i:Nat)(v:Value):Zc (some (.cells c t f)) i v=some (.cells (c.setIfInBounds i v) t f):=rfl
theorem cD(w:World)(b o:Nat):w.cell? ⟨b,o,none⟩=Gq w.heap[b]? o:=by
 unfold World.cell? Gq;cases w.heap[b]? with
 |none=>rfl
 |some x=>cases x<;>rfl
theorem lU(w:World)(b o:Nat):w.frozen? ⟨b,o,none⟩=frO w.heap[b]? o:=by
 unfold World.frozen? frO;cases w.heap[b]? with
 |none=>rfl
 |some x=>cases x<;>rfl
theorem nR(w:World)(b o:Nat)(v:Value):(w.setCell ⟨b,o,none⟩ v).heap[b]?=Zc w.heap[b]? o v:=by
 unfold World.setCell Zc;simp only[Array.getElem?_modify,gM];cases w.heap[b]? with
 |none=>rfl
 |some x=>cases x<;>simp
theorem DZ(w:World)(b o k:Nat)(v:Value)(h:k≠b):(w.setCell ⟨b,o,none⟩ v).heap[k]?=w.heap[k]?:=by
 unfold World.setCell;simp only[Array.getElem?_modify];rw[aE (uP h)]
theorem sF(w:World)(a:Addr)(v:Value):(w.setCell a v).heap.size=w.heap.size:=by simp
theorem gQ(w:World)(o:Obj)(k:Nat)(h:k=w.heap.size):(w.alloc o).heap[k]?=some o:=by subst h;show(w.heap.push o)[w.heap.size]?=_;simp
theorem zF(w:World)(o:Obj)(k:Nat)(h:k≠w.heap.size):(w.alloc o).heap[k]?=w.heap[k]?:=by
 show(w.heap.push o)[k]?=_;rw[Array.getElem?_push,aE h]
theorem size_alloc(w:World)(o:Obj):(w.alloc o).heap.size=w.heap.size+1:=by simp
theorem heap_drew(w:World)(k:Nat):w.drew.heap[k]?=w.heap[k]?:=rfl
theorem size_drew(w:World):w.drew.heap.size=w.heap.size:=rfl
theorem bZ(b o n:Nat):(⟨b,o,none⟩:Addr).add n=⟨b,o+n,none⟩:=by
 unfold Addr.add;split
 ·rename_i h;subst h;rfl
 ·rfl
structure Chg(S:Nat->Prop)(w w':World):Prop where
 os:w'.os=w.os
 tape:w'.tape=w.tape
 output:w'.output=w.output
 size:w.heap.size<=w'.heap.size
 heap:∀k,k<w.heap.size->¬S k->w'.heap[k]?=w.heap[k]?
abbrev Ext:=Chg (λ_=>False)
theorem Chg.refl(S:Nat->Prop)(w:World):Chg S w w:=⟨rfl,rfl,rfl,aS _,λ_ _ _=>rfl⟩
theorem Chg.trans{w1 w2:World}(h1:Chg S w w1)(h2:Chg S w1 w2):Chg S w w2:=
 ⟨h2.os.trans h1.os,h2.tape.trans h1.tape,h2.output.trans h1.output,cI h1.size h2.size,λk hk hs=>(h2.heap k (cO hk h1.size) hs).trans (h1.heap k hk hs)⟩
theorem Chg.mono{T:Nat->Prop}(h:Chg S w w')(hs:∀k,k<w.heap.size->S k->T k):Chg T w w':=
 ⟨h.os,h.tape,h.output,h.size,λk hk hn=>h.heap k hk λe=>hn (hs k hk e)⟩
theorem Chg.of_ext(h:Ext w w'):Chg S w w':=h.mono λ_ _ e=>e.elim
theorem Chg.drew(h:Chg S w w'):Chg S w w'.drew:=⟨h.os,h.tape,h.output,h.size,h.heap⟩
theorem Chg.alloc(h:Chg S w w')(o:Obj):Chg S w (w'.alloc o):=
 ⟨h.os,h.tape,h.output,by rw[size_alloc];exact Nat.le_succ_of_le h.size,λk hk hs=>by rw[zF _ _ _ (by have:=h.size;omega)];exact h.heap k hk hs⟩
theorem Chg.set(h:Chg S w w'){b o:Nat}(hb:S b\/w.heap.size<=b)(v:Value):Chg S w (w'.setCell ⟨b,o,none⟩ v):=
 ⟨h.os,h.tape,h.output,by rw[sF];exact h.size,λk hk hs=>by
  have hne:k≠b:=λe=>by
   subst e
   rcases hb with hb|hb
   ·exact hs hb
   ·omega
  rw[DZ _ _ _ _ _ hne]
  exact h.heap k hk hs⟩
theorem Chg.then{T:Nat->Prop}{w1 w2:World}(h1:Chg S w w1)(h2:Chg T w1 w2)(hT:∀k,k<w.heap.size->T k->S k):Chg S w w2:=
 ⟨h2.os.trans h1.os,h2.tape.trans h1.tape,h2.output.trans h1.output,cI h1.size h2.size,λk hk hs=>(h2.heap k (cO hk h1.size) λe=>hs (hT k hk e)).trans (h1.heap k hk hs)⟩
theorem Chg.below(h:Ext w w'):RowKit.Below w.heap.size w w':=⟨h.os,h.tape,h.output,h.size,λk hk=>h.heap k hk id⟩
theorem Chg.of_below(h:RowKit.Below w.heap.size w w'):Ext w w':=⟨h.os,h.tape,h.output,h.size,λk hk _=>h.block k hk⟩
abbrev str(l:List UInt8):Value:=.string (ofL l)
abbrev i64(n:Int):Value:=.int .i64 n
theorem cN{n:Int}(h1:-9223372036854775808<=n)(h2:n<9223372036854775808):IntKind.i64.wrap n=n:=by
 have e1:(2:Int)^64=18446744073709551616:=by decide
 have e2:(2:Int)^(64-1)=9223372036854775808:=by decide
 simp only[IntKind.wrap,IntKind.bits,IntKind.signed,iO,e1,e2];by_cases h:n%18446744073709551616>=9223372036854775808
 ·rw[aJ (by simpa using h)];omega
 ·rw[aE (by simpa using h)];omega
theorem dY(A B:Prop):aR (.bool true) A B↔A:=by simp[aR]
theorem cX(A B:Prop):aR (.bool false) A B↔B:=by simp[aR]
theorem aO(p:Prop)[Decidable p](A B:Prop):aR (.bool (decide p)) A B↔(p->A)/\(¬p->B):=by simp[aR]
theorem mJ(a b:Value)(K:Value->Prop):cR (.bool true) a b K↔K a:=gU
theorem sL(a b:Value)(K:Value->Prop):cR (.bool false) a b K↔K b:=gU
section forms
variable(k:IntKind)(a b:Int)(s t:ByteArray)(x y:Value)(ad:Addr)(w:World)(K:Value->Prop)(KE:Value->World->Prop)(KW:World->Prop)
theorem cC:aP .add (.int k a) (.int k b) K↔K (.int k (k.wrap (a+b))):=by simp[aP]
theorem mB:aP .sub (.int k a) (.int k b) K↔K (.int k (k.wrap (a-b))):=by simp[aP]
theorem HS:aP .mul (.int k a) (.int k b) K↔K (.int k (k.wrap (a*b))):=by simp[aP]
theorem HQ:aP .quo (.int k a) (.int k b) K↔b≠0/\K (.int k (k.wrap (a.tdiv b))):=by simp[aP]
theorem CR:aP .rem (.int k a) (.int k b) K↔b≠0/\K (.int k (a.tmod b)):=by simp[aP]
theorem bM:aP .eql (.int k a) (.int k b) K↔K (.bool (decide (a=b))):=by simp[aP]
theorem fT:aP .neq (.int k a) (.int k b) K↔K (.bool (decide (a≠b))):=by simp[aP]
theorem eC:aP .lss (.int k a) (.int k b) K↔K (.bool (decide (a<b))):=by simp[aP]
theorem uF:aP .leq (.int k a) (.int k b) K↔K (.bool (decide (a<=b))):=by simp[aP]
theorem mC:aP .gtr (.int k a) (.int k b) K↔K (.bool (decide (b<a))):=by simp[aP]
theorem lF:aP .geq (.int k a) (.int k b) K↔K (.bool (decide (b<=a))):=by simp[aP]
theorem VU:aP .shr (.int k a) (.int k b) K↔0<=b/\K (.int k (a.fdiv (2^min b.toNat k.bits))):=by simp[aP]
theorem VW:aP .and (.int k a) (.int k b) K↔K (.int k (k.wrap (BitVec.ofInt k.bits a&&&BitVec.ofInt k.bits b).toNat)):=by simp[aP]
theorem HR:aP .or (.int k a) (.int k b) K↔K (.int k (k.wrap (BitVec.ofInt k.bits a|||BitVec.ofInt k.bits b).toNat)):=by simp[aP]
theorem Hd(l m:List UInt8):ofL l++ofL m=ofL (l++m):=by
 apply ByteArray.ext;simp[ofL,ByteArray.data_append]
theorem pF(l m:List UInt8):aP .add (.string (ofL l)) (.string (ofL m)) K↔((l.length+m.length:Nat):Int)<=IntKind.i64.max/\K (.string (ofL (l++m))):=by simp[aP,fL,Hd]
theorem rR(l m:List UInt8):aP .eql (.string (ofL l)) (.string (ofL m)) K↔K (.bool (decide (l=m))):=by simp[aP,eO]
theorem wT(l m:List UInt8):aP .neq (.string (ofL l)) (.string (ofL m)) K↔K (.bool (decide (l≠m))):=by simp[aP,eO]
theorem VR(l m:List UInt8):aP .lss (.string (ofL l)) (.string (ofL m)) K↔K (.bool (Op.bytesLess l m)):=by simp[aP,eO]
theorem VV(l m:List UInt8):aP .gtr (.string (ofL l)) (.string (ofL m)) K↔K (.bool (!(Op.bytesLess l m||decide (l=m)))):=by simp[aP,eO]
theorem MW(l m:List UInt8):aP .geq (.string (ofL l)) (.string (ofL m)) K↔K (.bool (!Op.bytesLess l m)):=by simp[aP,eO]
theorem VS(l m:List UInt8):aP .leq (.string (ofL l)) (.string (ofL m)) K↔K (.bool (Op.bytesLess l m||decide (l=m))):=by simp[aP,eO]
theorem dW:dU (.pointer (some ad)) K↔K (.pointer (some ad)):=gU
theorem bR(off:Nat):aZ off (.pointer (some ad)) K↔K (.pointer (some (ad.add off))):=gU
theorem dX(n:Nat):ldW false n (.pointer (some ad)) w K↔∃v,w.cell? ad=some v/\K v:=gU
theorem DK(n:Nat):ldW true n (.pointer (some ad)) w K↔∃l,jV w ad 0 n=some l/\K (.agg l.toArray):=gU
theorem YX(n:Nat)(l:List Value):stW n (.pointer (some ad)) (.agg l.toArray) w KW↔l.length=n/\tO ad l 0 w KW:=by simp[stW,Value.cells]
theorem UN:fG (.int k a)=true:=rfl
theorem PW(c:Bool):fG (.bool c)=true:=rfl
theorem UK:fG (.string s)=true:=rfl
theorem NG(p:Option Addr)(n m:Nat):fG (.slice p n m)=true:=rfl
theorem UL(p:Option Addr):fG (.pointer p)=true:=rfl
theorem UM(p:Option Nat):fG (.map p)=true:=rfl
theorem bK(i:Nat)(l:List Value):dK i (.tuple l.toArray) K↔∃v,l[i]?=some v/\K v:=by
 simp only[dK,List.getElem?_toArray];cases l[i]?<;>simp
theorem pY(size n c:Nat):dN none size (.slice (some ad) n c) (.int k a) K↔0<=a/\a<n/\K (.pointer (some (ad.add (a.toNat*size)))):=gU
theorem Vh(m size:Nat):dN (some m) size (.pointer (some ad)) (.int k a) K↔0<=a/\a<m/\K (.pointer (some (ad.add (a.toNat*size)))):=gU
theorem Hk(l:List UInt8):pI (.string (ofL l)) (.int k a) K↔0<=a/\∃c,l[a.toNat]?=some c/\K (.int .u8 c.toNat):=by simp[pI,eO]
theorem fX(l:List UInt8):iM (.string (ofL l)) K↔K (.int .i64 l.length):=by simp[iM,fL]
theorem zD(p:Option Addr)(n c:Nat):cY (.slice p n c) K↔K (.int .i64 n):=gU
theorem eM(c:Bool):unW .not (.bool c) K↔K (.bool (!c)):=gU
theorem OL:unW .neg (.int k a) K↔K (.int k (k.wrap (0-a))):=gU
theorem mZ(k':IntKind):sX k' (.int k a) K↔K (.int k' (k'.wrap a)):=gU
theorem UU:UV (.int k a) (.int k b) K↔K (.int k (if b<a then b else a)):=gU
theorem UW:Qi (.int k a) (.int k b) K↔K (.int k (if a<b then b else a)):=gU
theorem RL(T:TypeId)(z:List Value):bN T z w KE↔KE (.pointer (some ⟨w.heap.size,0,none⟩)) (w.alloc (.cells z.toArray T)):=gU
theorem fI(n m:Nat)(KN:Nat->Prop):bdW none n m KN↔KN n:=gU
theorem eX(n m:Nat)(KN:Nat->Prop):bdW (some (.int k a)) n m KN↔0<=a/\a<=m/\KN a.toNat:=gU
theorem gH(l:List UInt8)(lo hi:Option Value):mW (.string (ofL l)) lo hi K↔bdW hi l.length l.length λh=>bdW lo 0 h λm=>K (.string (ofL ((l.take h).drop m))):=by simp only[mW,fL,eO]
theorem GL(size:Nat)(p:Option Addr)(n c:Nat)(lo hi mx:Option Value):kC size (.slice p n c) lo hi mx K↔bdW mx c c λm=>(bdW hi n m λh=>bdW lo 0 h λl=>K (.slice (if m=l then p else p.map (·.add (l*size))) (h-l) (m-l))):=gU
theorem iD(c:Bool):isB (.bool c) true=c:=by cases c<;>rfl
theorem lP(c:Bool):isB (.bool c) false=!c:=by cases c<;>rfl
end forms
theorem GdW.go{c:Bool}{u:List Value}{A:(List Value->World->Prop)->Prop}{B:List Value->Fr->World->Prop}
  (h1:c=true->A (λs w'=>∀g,B s g w'))(h2:c=false->∀g,B u g w):GdW c u w A B:=
 ⟨λs w'=>∀g,B s g w',h1,λh=>h2 h,λs g _ h=>h g⟩
theorem GdW.t{u:List Value}{A:(List Value->World->Prop)->Prop}{B:List Value->Fr->World->Prop}(h:A (λs w'=>∀g,B s g w')):GdW true u w A B:=
 GdW.go (λ_=>h) (λe=>by cases e)
theorem GdW.f{u:List Value}{A:(List Value->World->Prop)->Prop}{B:List Value->Fr->World->Prop}(h:∀g,B u g w):GdW false u w A B:=
 GdW.go (λe=>by cases e) (λ_=>h)
theorem bS.go{A:(List Value->World->Prop)->Prop}{B:List Value->Fr->World->Prop}(h:A (λs w'=>∀g,B s g w')):bS A B:=⟨_,h,λ_ g _ h=>h g⟩
theorem bS.cut{A:(List Value->World->Prop)->Prop}{B:List Value->Fr->World->Prop}(J:List Value->World->Prop)(h1:A J)(h2:∀s g w',J s w'->B s g w'):bS A B:=⟨J,h1,h2⟩
theorem cZ.go{s0:List Value}{w0:World}{B:List Value->Fr->World->(List Value->World->Prop)->Prop}(I:List Value->World->Prop)(μ:List Value->World->Nat)
 (h0:I s0 w0)(h:∀s g w,I s w->B s g w (λs' w'=>I s' w'/\μ s' w'<μ s w)):cZ s0 w0 B:=⟨I,μ,h0,h⟩
theorem tS(c:List Value)(i:Nat)(v:Value)(r:List (Nat×Nat×Value))(K:List Value->Prop)(h:v.cells=#[v]):dI c ((i,1,v)::r) K↔i<c.length/\dI (c.set i v) r K:=by
 simp only[dI,h];constructor
 ·rintro⟨_,h2,h3⟩;rw[List.set_eq_take_append_cons_drop,aJ (by omega)];exact⟨by omega,by simpa using h3⟩
 ·rintro⟨h2,h3⟩;rw[List.set_eq_take_append_cons_drop,aJ (by omega)]at h3;exact⟨rfl,by omega,by simpa using h3⟩
theorem cU(c:List Value)(K:List Value->Prop):dI c [] K↔K c:=gU
theorem SJ(c:List Value)(i:Nat)(v:Option Nat)(r:List (Nat×Nat×Value))(K:List Value->Prop):dI c ((i,1,.map v)::r) K↔i<c.length/\dI (c.set i (.map v)) r K:=tS c i _ r K rfl
theorem dD(c:List Value)(i:Nat)(k:IntKind)(v:Int)(r:List (Nat×Nat×Value))(K:List Value->Prop):dI c ((i,1,.int k v)::r) K↔i<c.length/\dI (c.set i (.int k v)) r K:=tS c i _ r K rfl
theorem eJ(c:List Value)(i:Nat)(v:ByteArray)(r:List (Nat×Nat×Value))(K:List Value->Prop):dI c ((i,1,.string v)::r) K↔i<c.length/\dI (c.set i (.string v)) r K:=tS c i _ r K rfl
theorem vI(c:List Value)(i:Nat)(v:Bool)(r:List (Nat×Nat×Value))(K:List Value->Prop):dI c ((i,1,.bool v)::r) K↔i<c.length/\dI (c.set i (.bool v)) r K:=tS c i _ r K rfl
theorem GX(c:List Value)(i:Nat)(v:Option Addr)(r:List (Nat×Nat×Value))(K:List Value->Prop):dI c ((i,1,.pointer v)::r) K↔i<c.length/\dI (c.set i (.pointer v)) r K:=tS c i _ r K rfl
theorem gO(c:List Value)(i:Nat)(p:Option Addr)(n m:Nat)(r:List (Nat×Nat×Value))(K:List Value->Prop):dI c ((i,1,.slice p n m)::r) K↔i<c.length/\dI (c.set i (.slice p n m)) r K:=tS c i _ r K rfl
structure qQ(P:Program)(t e:TypeId)(size bytes:Nat):Prop where
 und:P.underlying t=some (.slice e)
 info:(P.info? e).map (λi=>(i.zero.map (·.cells.size),i.size,i.bytes))=some (some size,size,bytes)
 pos:0<size
theorem qQ.get{t e:TypeId}{size bytes:Nat}(h:qQ P t e size bytes):∃i z,P.info? e=some i/\i.zero=some z/\i.size=size/\i.bytes=bytes/\z.cells.size=size:=by
 have hi:=h.info;cases hx:P.info? e with
 |none=>rw[hx]at hi;cases hi
 |some i=>
  rw[hx]at hi;simp only[gF,bE,fZ]at hi;obtain⟨h1,h2,h3⟩:=hi;cases hz:i.zero with
  |none=>rw[hz]at h1;cases h1
  |some z=>
   rw[hz]at h1;exact⟨i,z,rfl,hz,h2,h3,by simpa using h1⟩
def SlAt(w:World)(T:TypeId)(v:Value)(n:Nat)(cs:List Value):Prop:=
 ∃p cap,v=.slice p n cap/\n<=cap/\(p=none->n=0/\cap=0)/\(cs≠[]->∃b off c fr,p=some ⟨b,off,none⟩/\w.heap[b]?=some (.cells c T fr)/\∀i,i<cs.length->c[off+i]?=cs[i]?)
theorem SlAt.nil(w:World)(T:TypeId):SlAt w T (.slice none 0 0) 0 []:=⟨none,0,rfl,aS _,λ_=>⟨rfl,rfl⟩,λh=>absurd rfl h⟩
theorem SlAt.chg(h:SlAt w T v n cs)(hc:Chg S w w')
  (hS:∀k c fr,S k->w.heap[k]?≠some (.cells c T fr)):SlAt w' T v n cs:=by
 obtain⟨p,cap,hv,h1,h2,h3⟩:=h;refine⟨p,cap,hv,h1,h2,λhne=>?_⟩;obtain⟨b,off,c,fr,hp,hb,hcs⟩:=h3 hne;have hlt:b<w.heap.size:=(Array.getElem?_eq_some_iff.1 hb).1;exact⟨b,off,c,fr,hp,by rw[hc.heap b hlt λe=>hS b c fr e hb];exact hb,hcs⟩
theorem SlAt.ext(h:SlAt w T v n cs)(hc:Ext w w'):SlAt w' T v n cs:=
 h.chg hc λ_ _ _ e=>e.elim
theorem SlAt.shape(h:SlAt w T v n cs):∃p cap,v=.slice p n cap/\n<=cap:=by
 obtain⟨p,cap,hv,h1,_⟩:=h;exact⟨p,cap,hv,h1⟩
theorem fY(h:SlAt w T v n cs)(K:Value->Prop):cY v K↔K (i64 n):=by
 obtain⟨p,cap,rfl,_⟩:=h.shape;exact gU
theorem qW{size:Nat}{k:IntKind}{K:Value->Prop}(h:SlAt w T v n cs)(hl:cs.length=n*size)(hs:0<size)(hi:i<n)
  (hK:∀b o c fr,w.heap[b]?=some (.cells c T fr)->(∀j,j<size->c[o+j]?=cs[i*size+j]?)->K (.pointer (some ⟨b,o,none⟩))):dN none size v (.int k i) K:=by
 obtain⟨p,cap,rfl,h1,_,h3⟩:=h;have hlt:i*size+size<=n*size:=by rw[<-EA];exact eD _ hi
 obtain⟨b,off,c,fr,rfl,hb,hcs⟩:=h3 (λe=>by rw[e]at hl;simp at hl;omega);refine⟨Int.natCast_nonneg _,by omega,?_⟩;rw[bZ,aW];exact hK b _ c fr hb λj hj=>by rw[show off+i*size+j=off+(i*size+j)by omega];exact hcs _ (by omega)
theorem pZ{k:IntKind}{x:Value}{K:Value->Prop}(h:SlAt w T v n cs)(hl:cs.length=n)(hi:cs[i]?=some x)(hK:K x):
  dN none 1 v (.int k i) λt=>ldW false 1 t w K:=by
 have hi':i<cs.length:=(List.getElem?_eq_some_iff.1 hi).1;refine qW (size:=1) h (by omega) (by omega) (by omega) λb o c fr hb hc=>?_;refine⟨x,?_,hK⟩;rw[cD,hb,cH];have:=hc 0 (by omega);simpa[hi]using this
abbrev Own(w:World)(base:Nat)(e:TypeId)(size:Nat)(v:Value)(n:Nat)(xs:List Value):Prop:=w.ownsRow base e size v n xs
theorem Own.sl{base:Nat}{e:TypeId}{size:Nat}{xs:List Value}(h:Own w base e size v n xs):SlAt w e v n xs:=by
 obtain⟨hl,⟨rfl,rfl⟩|⟨g,cap,cur,rfl,_,hg,h1,_,h2,h3⟩⟩:=h
 ·have:xs=[]:=bG (by simpa using hl);subst this;exact SlAt.nil w e
 ·refine⟨_,_,rfl,h1,λh=>(by cases h),λ_=>⟨g,0,cur,(0,0),rfl,hg,λi hi=>?_⟩⟩;rw[<-h3,List.getElem?_take,aJ (by omega),aV];simp
def OD(w:World)(base:Nat)(e:TypeId)(k:Nat):Prop:=base<=k/\∃c,w.heap[k]?=some (.cells c e (0,0))
theorem Own.block{base:Nat}{e:TypeId}{size:Nat}{xs:List Value}(h:Own w base e size v n xs):∀k,v.ownBlock=some k->OD w base e k:=by
 intro k hk;obtain⟨hl,⟨rfl,rfl⟩|⟨g,cap,cur,rfl,hb,hg,_⟩⟩:=h
 ·simp[Value.ownBlock]at hk
 ·simp[Value.ownBlock]at hk;subst hk;exact⟨hb,cur,hg⟩
theorem uM(h:fG v=true):v.oneCell'=true:=by cases v<;>first|rfl|(simp[fG]at h)
theorem Chg.of_grown{row:Option Nat}(h:w.grownBy w' row)(hS:∀k,row=some k->S k):Chg S w w':=
 ⟨h.os,h.tape,h.output,h.size,λk hk hn=>h.block k hk λe=>hn (hS k e.symm)⟩
theorem kZ{t e:TypeId}{size bytes:Nat}(hT:qQ P t e size bytes){base:Nat}{x:Value}{m:Nat}{xs news:List Value}{ty:TypeId}
  (hown:Own w base e size v n xs)(hx:SlAt w T x m news)(hl:news.length=m*size)(h1:∀u∈news,fG u=true)(hlen:n+m<=4611686018427387904)(hb:(n+m)*bytes<=140737488355328)(hbase:base<=w.heap.size)
  (hK:∀v' w',Own w' base e size v' (n+m) (xs++news)->Chg (λk=>v.ownBlock=some k) w w'->(v'=.slice none 0 0↔v=.slice none 0 0/\m=0)->K v' w'):
  dF P (Builtin.append_ #[t,t] ty #[v,x]) w K:=by
 obtain⟨i,z,hi,hz,h2,h3,h4⟩:=hT.get;obtain⟨p,cap,rfl,hcap,hnil,hcells⟩:=hx;have hm:n+m<=maxLen:=by unfold maxLen;omega
 cases p with
 |none=>
  obtain⟨rfl,rfl⟩:=hnil rfl;have hn:news=[]:=bG (by simpa using hl);subst hn;have hr:(Builtin.append_ #[t,t] ty #[v,.slice none 0 0]).run P w=.ok v w:=by
   obtain⟨hl',⟨rfl,rfl⟩|⟨g,cap,cur,rfl,_,hg,h1,_,h2,h3⟩⟩:=hown
   ·simp[Builtin.append_,run_bind,bH hT.und,gC (show(P.info? e).isSome=true by rw[hi];rfl),Builtin.lenOf,run_pure,Builtin.firstCells]
   ·simp[Builtin.append_,run_bind,bH hT.und,gC (show(P.info? e).isSome=true by rw[hi];rfl),Builtin.lenOf,run_pure,Builtin.firstCells,h1,storeCells]
  unfold dF;rw[hr];simp only[eS,dV]at hK;exact hK v w hown (Chg.refl _ _) (by simp)
 |some a=>
  have hcell:∀j u,news[j]?=some u->w.cell? (a.add j)=some u:=by
   intro j u hu;have hne:news≠[]:=λe=>by subst e;simp at hu
   obtain⟨b,off,c,fr,hp,hb',hcs⟩:=hcells hne;cases hp;rw[bZ,cD,hb',cH,hcs j (List.getElem?_eq_some_iff.1 hu).1,hu]
  obtain⟨v',w',hr,hown',hg,hnil'⟩:=run_append_own (P:=P) w base t ty e i z size bytes hT.und hi hz h2 h3 h4 hT.pos v n xs hown a m cap news hl hcell (λu hu=>uM (h1 u hu)) hm hb hbase;unfold dF;rw[hr];exact hK v' w' hown' (Chg.of_grown hg λk e=>e) hnil'
theorem yY{base:Nat}{e:TypeId}{size:Nat}(hb:base<=w.heap.size)(hl:cs.length=n*size)(hn:n<=4611686018427387904):Own (w.alloc (.cells cs.toArray e)) base e size (.slice (some ⟨w.heap.size,0,none⟩) n n) n cs:=
 ⟨hl,.inr ⟨w.heap.size,n,cs.toArray,rfl,hb,gQ _ _ _ rfl,aS _,by unfold maxLen;omega,by simpa using hl,by simp[<-hl]⟩⟩
theorem Own.chg{base:Nat}{e:TypeId}{size:Nat}{xs:List Value}(h:Own w base e size v n xs)(hc:Chg S w w')(hS:∀k,OD w base e k->¬S k):Own w' base e size v n xs:=by
 obtain⟨hl,hn|⟨g,cap,cur,hv,hb,hg,r⟩⟩:=h
 ·exact⟨hl,.inl hn⟩
 ·exact⟨hl,.inr ⟨g,cap,cur,hv,hb,by rw[hc.heap g (Array.getElem?_eq_some_iff.1 hg).1 (hS g ⟨hb,cur,hg⟩)];exact hg,r⟩⟩
theorem Own.ext{base:Nat}{e:TypeId}{size:Nat}{xs:List Value}(h:Own w base e size v n xs)(hc:Ext w w'):Own w' base e size v n xs:=h.chg hc λ_ _ e=>e
theorem Own.base{base base':Nat}{e:TypeId}{size:Nat}{xs:List Value}(h:Own w base e size v n xs)(hb:base'<=base):Own w base' e size v n xs:=by
 obtain⟨hl,hn|⟨g,cap,cur,hv,hg,r⟩⟩:=h
 ·exact⟨hl,.inl hn⟩
 ·exact⟨hl,.inr ⟨g,cap,cur,hv,cI hb hg,r⟩⟩
def u8s(l:List UInt8):List Value:=l.map λb=>.int .u8 b.toNat
theorem mH(l:List UInt8):(u8s l).length=l.length:=by simp[u8s]
theorem yN(l:List UInt8)(i:Nat):(u8s l)[i]?=(l[i]?).map λb=>.int .u8 b.toNat:=by simp[u8s]
theorem CH(a b:List UInt8):u8s (a++b)=u8s a++u8s b:=by simp[u8s]
abbrev Byt(w:World)(T:TypeId)(v:Value)(l:List UInt8):Prop:=SlAt w T v l.length (u8s l)
theorem Ar{src dst e:TypeId}(hs:P.underlying src=some (.slice e))(he:P.underlying e=some (.int .u8))(hd:P.underlying dst=some .string){l:List UInt8}{K:Value->Prop}
  (h:Byt w T v l):nH P (convert src dst v) w K↔K (str l):=by
 have hr:(convert src dst v).run P w=.ok (str l) w:=by
  obtain⟨p,cap,rfl,hcap,hnil,hcells⟩:=h;cases p with
  |none=>
   obtain⟨h0,_⟩:=hnil rfl;have:l=[]:=bG h0;subst this;rw[run_convert_bytes_nil (P:=P) w src e hs he _ _ dst hd];rfl
  |some a=>
   cases l with
   |nil=>
    rw[run_convert_bytes_string w src dst e _ _ cap hs he hd];have hl:(loadCells a 0).run P w=.ok (([]:List Int).map (Value.int .u8)).toArray w:=rfl;have:=run_bytesToString w a 0 cap [] hl;exact this
   |cons x l=>
    obtain⟨b,off,c,fr,hp,hb,hcs⟩:=hcells (by simp[u8s]);cases hp;have:=run_convert_bytes_arg (P:=P) w src e hs he b off (x::l).length cap ((x::l).map λb=>(b.toNat:Int)) (by simp) (λi hi=>by
     rw[cD,hb,cH,hcs i (by rw[mH];exact hi),yN,List.getElem?_eq_getElem hi];rw[List.getD_eq_getElem?_getD,List.getElem?_map,List.getElem?_eq_getElem hi];rfl) dst hd
    rw[this];simp[str,ofL,strOfNums,Function.comp_def]
 constructor
 ·rintro⟨u,hu,hk⟩;rw[hr]at hu;cases hu;exact hk
 ·exactλhk=>⟨_,hr,hk⟩
abbrev Str:=List UInt8
theorem Sy(a b:Str):(ofL a==ofL b)=decide (a=b):=by
 have h:(ofL a==ofL b)=((ofL a).data==(ofL b).data):=rfl;rw[h,lR];simp[ofL]
def Nb:List (Str×Value)->Str->Nat->Option (Nat×Value)
 |[],_,_=>none
 |(k,v)::r,x,i=>if x=k then some (i,v)else Nb r x (i+1)
theorem Co:∀(l:List MapEntry) (A:List (Str×Value)) (x:Str) (i:Nat),l.map (λe=>(e.key,e.val))=A.map (λp=>(str p.1,p.2))->Instr.findNow .string (str x) l i=some (Nb A x i)
 |[],A,x,i,h=>by
  have:A=[]:=by simpa using h.symm
  subst this
  rfl
 |e::l,[],x,i,h=>by simp at h
 |e::l,(k,v)::A,x,i,h=>by
  simp only[dG,eF,fZ]at h
  obtain⟨⟨hk,hv⟩,hr⟩:=h
  simp only[Instr.findNow,hk,Instr.sameNow,Sy,Nb,hv]
  by_cases hx:x=k
  ·simp[hx]
  ·simp only[hx,aH,kH]
   exact Co l A x (i+1) hr
section
variable{P:Program}{T kt et:TypeId}{w:World}{m:Nat}{A:List (Str×Value)}
theorem run_checkKey(hk:P.underlying kt=some .string)(e:Bool)(s:ByteArray)(w:World):(Instr.checkKey e 10000 kt (.string s)).run P w=.ok () w:=by
 show(Instr.checkKey e (9999+1) kt (.string s)).run P w=.ok () w;unfold Instr.checkKey;simp[run_bind,bH hk,run_pure]
theorem run_findKey(hk:P.underlying kt=some .string)(x:Str)(es:List MapEntry)(h:es.map (λe=>(e.key,e.val))=A.map (λp=>(str p.1,p.2)))(w:World):(Instr.findKey kt (str x) es).run P w=.ok (Nb A x 0) w:=by
 simp only[Instr.findKey,run_bind,bH hk];rw[Co es A x 0 h];rfl
end
theorem Chg.at{k:Nat}{o:Obj}(hc:Chg S w w')(h:w.heap[k]?=some o)(hS:¬S k):w'.heap[k]?=some o:=by
 rw[hc.heap k (Array.getElem?_eq_some_iff.1 h).1 hS];exact h
theorem Chg.new{w1 w2:World}{a:Nat}(h1:Ext w w1)(hc:Chg (λk=>k=a) w1 w2)(ha:w.heap.size<=a):Ext w w2:=h1.then hc λk hk e=>by omega
theorem fJ{k:Nat}{o:Obj}(h:w.heap[k]?=some o):k<w.heap.size:=(Array.getElem?_eq_some_iff.1 h).1
theorem bF{z:List Value}(h:∀a w',a=w.heap.size->w'.heap.size=w.heap.size+1->w'.heap[a]?=some (.cells z.toArray T (0,0))->Ext w w'->K (.pointer (some ⟨a,0,none⟩)) w'):bN T z w K:=
 h _ _ rfl (by simp) (gQ _ _ _ rfl) (Chg.alloc (Chg.refl _ _) _)
theorem fS{z:List Value}(h:∀a w',a=w.heap.size->w'.heap.size=w.heap.size+1->w'.heap[a]?=some (.cells z.toArray T (0,0))->Ext w w'->K (.pointer (some ⟨a,0,none⟩)) w'):eL T (.agg z.toArray) w K:=
 h _ _ rfl (by simp) (gQ _ _ _ rfl) (Chg.alloc (Chg.refl _ _) _)
theorem row_new(h:∀a w',a=w.heap.size->w'.heap.size=w.heap.size+1->w'.heap[a]?=some (.cells cs.toArray T (0,0))->Ext w w'->w'=w.alloc (.cells cs.toArray T)->K (.slice (some ⟨a,0,none⟩) n n) w'):
  K (.slice (some ⟨w.heap.size,0,none⟩) n n) (w.alloc (.cells cs.toArray T)):=
 h _ _ rfl (by simp) (gQ _ _ _ rfl) (Chg.alloc (Chg.refl _ _) _) rfl
theorem iU{a off:Nat}{cs:Array Value}{K:World->Prop}(hb:w.heap[a]?=some (.cells cs T (0,0)))(h1:fG v=true)(hoff:off<cs.size)
  (hK:∀w',w'.heap.size=w.heap.size->w'.heap[a]?=some (.cells (cs.setIfInBounds off v) T (0,0))->Chg (λk=>k=a) w w'->K w'):stW 1 (.pointer (some ⟨a,off,none⟩)) v w K:=by
 have hc:v.cells.toList=[v]:=by cases v<;>first|rfl|(simp[fG]at h1)
 have hc2:v.cells=#[v]:=by cases v<;>first|rfl|(simp[fG]at h1)
 have hz:(⟨a,off,none⟩:Addr).add 0=⟨a,off,none⟩:=rfl;simp only[stW,hc2];refine⟨rfl,?_⟩;simp only[tO,hz];refine⟨h1,?_,?_,?_⟩
 ·rw[cD,hb,cH];simp[hoff]
 ·rw[lU,hb,qI]
 ·refine hK _ (by simp) ?_ (Chg.set (S:=λk=>k=a) (Chg.refl _ _) (.inl rfl) _);rw[nR,hb,yR]
theorem YW{a:Nat}{K:World->Prop}:∀(l:List Value) (i:Nat) (cs:List Value),w.heap[a]?=some (.cells cs.toArray T (0,0))->cs.length=i+l.length->(∀v∈l,fG v=true)->
  (∀w',w'.heap.size=w.heap.size->w'.heap[a]?=some (.cells (cs.take i++l).toArray T (0,0))->Chg (λk=>k=a) w w'->K w')->tO ⟨a,0,none⟩ l i w K:=by
 intro l;induction l generalizing w with
 |nil=>
  intro i cs hb hl _ hK;refine hK w rfl ?_ (Chg.refl _ _);simp only[aM,eS]at hl;rw[dZ (by omega),dV];exact hb
 |cons v r ih=>
  intro i cs hb hl h1 hK;have hadd:(⟨a,0,none⟩:Addr).add i=⟨a,i,none⟩:=by rw[bZ];simp
  simp only[aB]at hl;simp only[tO,hadd];refine⟨h1 v bD,?_,?_,?_⟩
  ·rw[cD,hb,cH];simp;omega
  ·rw[lU,hb,qI]
  ·have hb':(w.setCell ⟨a,i,none⟩ v).heap[a]?=some (.cells (cs.set i v).toArray T (0,0)):=by
    rw[nR,hb,yR];simp
   refine ih (i+1) (cs.set i v) hb' (by rw[rC];omega) (λu hu=>h1 u (aU _ hu)) λw' hz hb2 hc=>?_;refine hK w' (by rw[hz];simp) ?_ ((Chg.set (S:=λk=>k=a) (Chg.refl _ _) (.inl rfl) _).trans hc);rw[hb2];have:(cs.set i v).take (i+1)++r=cs.take i++v::r:=by
    rw[dH,List.getElem?_set_self (by omega),List.take_set_of_le (by omega)];simp
   rw[this]
theorem cG{a:Nat}{l:List Value}{K:World->Prop}(hb:w.heap[a]?=some (.cells cs.toArray T (0,0)))(hl:l.length=n)(hc:cs.length=n)(h1:l.all fG=true)
  (hK:∀w',w'.heap.size=w.heap.size->w'.heap[a]?=some (.cells l.toArray T (0,0))->Chg (λk=>k=a) w w'->K w'):stW n (.pointer (some ⟨a,0,none⟩)) (.agg l.toArray) w K:=by
 rw[YX];refine⟨hl,?_⟩;refine YW l 0 cs hb (by omega) (λv hv=>bW.1 h1 v hv) λw' hz hb' hc'=>hK w' hz ?_ hc';simpa using hb'
theorem Ep{a:Nat}{w:World}{T:TypeId}{cs:List Value}{fr:Nat×Nat}(hb:w.heap[a]?=some (.cells cs.toArray T fr)):∀(n i:Nat),i+n=cs.length->jV w ⟨a,0,none⟩ i n=some (cs.drop i)
 |0,i,h=>by simp only[jV];rw[fB (by omega)]
 |n+1,i,h=>by
  have hi:i<cs.length:=by omega
  simp only[jV,bZ,cD,hb,cH,aV,List.getElem?_toArray,List.getElem?_eq_getElem hi]
  rw[Ep hb n (i+1) (by omega)]
  simp
theorem bY{a:Nat}{l:List Value}{fr:Nat×Nat}{K:Value->Prop}(hb:w.heap[a]?=some (.cells l.toArray T fr))(hn:l.length=n)(hK:K (.agg l.toArray)):ldW true n (.pointer (some ⟨a,0,none⟩)) w K:=by
 rw[DK];exact⟨l,by rw[Ep hb n 0 (by omega)];rfl,hK⟩
theorem iP{a:Nat}{l:List Value}(hb:w.heap[a]?=some (.cells cs.toArray T (0,0)))(hl:l.length=n)(hc:cs.length=n)(h1:l.all fG=true)
  (hK:∀w',Chg (λk=>k=a) w w'->K (.agg l.toArray) w'):stW n (.pointer (some ⟨a,0,none⟩)) (.agg l.toArray) w λw5=>ldW true n (.pointer (some ⟨a,0,none⟩)) w5 λr6=>K r6 w5:=
 cG hb hl hc h1 λw' _ hb' hcw=>bY hb' hl (hK w' hcw)
inductive JV where
 |mk (k:Int) (b:Bool) (t:Str) (xs:List JV) (ks:List Str)
namespace JV
def k:JV->Int|.mk k _ _ _ _=>k
def b:JV->Bool|.mk _ b _ _ _=>b
def t:JV->Str|.mk _ _ t _ _=>t
def xs:JV->List JV|.mk _ _ _ xs _=>xs
def ks:JV->List Str|.mk _ _ _ _ ks=>ks
theorem eta(v:JV):v=.mk v.k v.b v.t v.xs v.ks:=by cases v;rfl
theorem ind{p:JV->Prop}(h:∀k b t xs ks,(∀x∈xs,p x)->p (.mk k b t xs ks))(v:JV):p v:=
 JV.rec (motive_1:=p) (motive_2:=λl=>∀x∈l,p x) (λk b t xs ks ih=>h k b t xs ks ih) (by intro x hx;cases hx)
  (λx l hx hl y hy=>by rcases bQ.1 hy with rfl|hy;exact hx;exact hl y hy) v
def null:JV:=.mk 0 false [] [] []
end JV
def Fits(n:Nat)(ks:List Str)(t:Str):Prop:=n<=9223372036854775807/\ks.length<=9223372036854775807/\t.length<=9223372036854775807/\∀s∈ks,s.length<=9223372036854775807
mutual
def eR(w:World):JV->List Value->Prop
 |.mk k b t xs ks,cs=>∃sv kv T1 T2 L,cs=[i64 k,.bool b,str t,sv,kv]/\SlAt w T1 sv xs.length L/\eH w xs L/\SlAt w T2 kv ks.length (ks.map str)/\Fits xs.length ks t
def eH(w:World):List JV->List Value->Prop
 |[],L=>L=[]
 |x::xs,L=>∃c r,L=c++r/\eR w x c/\eH w xs r
end
theorem eR.out{v:JV}(h:eR w v cs):∃sv kv T1 T2 L,cs=[i64 v.k,.bool v.b,str v.t,sv,kv]/\SlAt w T1 sv v.xs.length L/\eH w v.xs L/\SlAt w T2 kv v.ks.length (v.ks.map str)/\Fits v.xs.length v.ks v.t:=by
 cases v with
 |mk k b t xs ks=>simpa only[eR,JV.k,JV.b,JV.t,JV.xs,JV.ks]using h
theorem eR.mk{v:JV}{sv kv:Value}{T1 T2:TypeId}{L:List Value}(h1:SlAt w T1 sv v.xs.length L)(h2:eH w v.xs L)(h3:SlAt w T2 kv v.ks.length (v.ks.map str))(h4:Fits v.xs.length v.ks v.t):eR w v [i64 v.k,.bool v.b,str v.t,sv,kv]:=by
 cases v with
 |mk k b t xs ks=>simp only[eR];exact⟨sv,kv,T1,T2,L,rfl,h1,h2,h3,h4⟩
theorem eR.len{v:JV}(h:eR w v cs):cs.length=5:=by
 obtain⟨sv,kv,T1,T2,L,rfl,_⟩:=h.out;rfl
theorem eR.one{v:JV}(h:eR w v cs):∀u∈cs,fG u=true:=by
 obtain⟨sv,kv,T1,T2,L,rfl,h1,_,h3,_⟩:=h.out;obtain⟨p,c,rfl,_⟩:=h1.shape;obtain⟨p',c',rfl,_⟩:=h3.shape;intro u hu;simp only[bQ,fD,qV]at hu;rcases hu with rfl|rfl|rfl|rfl|rfl<;>rfl
theorem eR.all_one{v:JV}(h:eR w v cs):cs.all fG=true:=bW.2 h.one
theorem eH.len{w:World}:∀{xs:List JV} {L:List Value},eH w xs L->L.length=xs.length*5
 |[],L,h=>by simp only[eH]at h;subst h;rfl
 |x::xs,L,h=>by
  simp only[eH]at h
  obtain⟨c,r,rfl,hc,hr⟩:=h
  rw[aX,hc.len,eH.len hr,aB];omega
theorem eH.one{w:World}:∀{xs:List JV} {L:List Value},eH w xs L->∀u∈L,fG u=true
 |[],L,h=>by simp only[eH]at h;subst h;intro u hu;cases hu
 |x::xs,L,h=>by
  simp only[eH]at h
  obtain⟨c,r,rfl,hc,hr⟩:=h
  intro u hu
  rcases dC.1 hu with hu|hu
  ·exact hc.one u hu
  ·exact eH.one hr u hu
theorem eH.get{w:World}:∀{xs:List JV} {L:List Value} {i:Nat} {x:JV},eH w xs L->xs[i]?=some x->∃cs,eR w x cs/\∀j,j<5->L[i*5+j]?=cs[j]?
 |[],_,_,_,_,h=>by simp at h
 |y::xs,L,0,x,h,hx=>by
  simp only[List.getElem?_cons_zero,bE]at hx
  subst hx
  simp only[eH]at h
  obtain⟨c,r,rfl,hc,hr⟩:=h
  refine⟨c,hc,λj hj=>?_⟩
  rw[qO,aV,List.getElem?_append_left (by rw[hc.len];exact hj)]
 |y::xs,L,i+1,x,h,hx=>by
  simp only[List.getElem?_cons_succ]at hx
  simp only[eH]at h
  obtain⟨c,r,rfl,hc,hr⟩:=h
  obtain⟨cs,h1,h2⟩:=eH.get hr hx
  refine⟨cs,h1,λj hj=>?_⟩
  rw[List.getElem?_append_right (by rw[hc.len];omega),hc.len,<-h2 j hj]
  congr 1;omega
theorem eH.app{w:World}:∀{xs ys:List JV} {L M:List Value},eH w xs L->eH w ys M->eH w (xs++ys) (L++M)
 |[],ys,L,M,h,h'=>by simp only[eH]at h;subst h;exact h'
 |x::xs,ys,L,M,h,h'=>by
  simp only[eH]at h
  obtain⟨c,r,rfl,hc,hr⟩:=h
  simp only[dA,eH]
  exact⟨c,r++M,by simp,hc,eH.app hr h'⟩
theorem eH.one'{x:JV}(h:eR w x cs):eH w [x] cs:=by
 simp only[eH];exact⟨cs,[],by simp,h,rfl⟩
theorem eH.snoc{xs:List JV}{x:JV}{L:List Value}(h:eH w xs L)(hx:eR w x cs):eH w (xs++[x]) (L++cs):=h.app (eH.one' hx)
mutual
theorem eR.ext{w w':World}(hx:Ext w w'):∀{v:JV} {cs:List Value},eR w v cs->eR w' v cs
 |.mk k b t xs ks,cs,h=>by
  simp only[eR]at h⊢
  obtain⟨sv,kv,T1,T2,L,rfl,h1,h2,h3,h4⟩:=h
  exact⟨sv,kv,T1,T2,L,rfl,h1.ext hx,eH.ext hx h2,h3.ext hx,h4⟩
theorem eH.ext{w w':World}(hx:Ext w w'):∀{xs:List JV} {L:List Value},eH w xs L->eH w' xs L
 |[],L,h=>by simp only[eH]at h⊢;exact h
 |x::xs,L,h=>by
  simp only[eH]at h⊢
  obtain⟨c,r,rfl,hc,hr⟩:=h
  exact⟨c,r,rfl,eR.ext hx hc,eH.ext hx hr⟩
end
theorem Mq{sv:Value}{xs:List JV}{L:List Value}{k:IntKind}{x:JV}{K:Value->Prop}(h:SlAt w T sv xs.length L)(hr:eH w xs L)(hi:xs[i]?=some x)
  (hK:∀b o c fr cs,w.heap[b]?=some (.cells c T fr)->eR w x cs->(∀j,j<5->c[o+j]?=cs[j]?)->K (.pointer (some ⟨b,o,none⟩))):dN none 5 sv (.int k i) K:=by
 obtain⟨cs,hc,hg⟩:=hr.get hi;refine qW (size:=5) h hr.len (by omega) (List.getElem?_eq_some_iff.1 hi).1 λb o c fr hb hcc=>?_;exact hK b o c fr cs hb hc λj hj=>(hcc j hj).trans (hg j hj)
theorem vO{b o:Nat}{c:Array Value}{fr:Nat×Nat}{K:Value->Prop}(hb:w.heap[b]?=some (.cells c T fr))(hn:cs.length=n)(hc:∀j,j<n->c[o+j]?=cs[j]?)(hK:K (.agg cs.toArray)):
  ldW true n (.pointer (some ⟨b,o,none⟩)) w K:=by
 rw[DK];refine⟨cs,?_,hK⟩;have key:∀(m i:Nat),i+m=n->jV w ⟨b,o,none⟩ i m=some (cs.drop i):=by
  intro m;induction m with
  |zero=>intro i h;simp only[jV];rw[fB (by omega)]
  |succ m ih=>
   intro i h;have hi:i<cs.length:=by omega
   simp only[jV,bZ,cD,hb,cH,hc i (by omega),List.getElem?_eq_getElem hi];rw[ih (i+1) (by omega)];simp
 simpa using key n 0 (by omega)
theorem Hl{sv:Value}{xs:List JV}{L:List Value}{k:IntKind}{x:JV}{K:Value->Prop}(h:SlAt w T sv xs.length L)(hr:eH w xs L)(hi:xs[i]?=some x)
  (hK:∀cs,eR w x cs->K (.agg cs.toArray)):dN none 5 sv (.int k i) λp=>ldW true 5 p w K:=
 Mq h hr hi λ_ _ _ _ cs hb hc hg=>vO hb hc.len hg (hK cs hc)
theorem mU{kv:Value}{ks:List Str}{k:IntKind}{x:Str}{K:Value->Prop}(h:SlAt w T kv ks.length (ks.map str))(hi:ks[i]?=some x)(hK:K (str x)):dN none 1 kv (.int k i) λp=>ldW false 1 p w K:=
 pZ h (by simp) (by simp[hi]) hK
end
end Go.Eng
namespace Go.Num
section
open Go.Eng
variable{w:World}{K:Value->World->Prop}{cs:List Value}{G:Nat->Prop}{T:TypeId}{i:Nat}{n:Nat}{v:Value}{w':World}{P:Program}{c:UInt8}{S:Nat->Prop}
def isDig(c:UInt8):Bool:=decide (48<=c.toNat)&&decide (c.toNat<=57)
def dig(a:Str):Str:=match a with|[]=>[]|c::d=>if c=45 then d else c::d
def neg(a:Str):Bool:=a.head?==some 45
def goodN(a:Str):Bool:=decide (1<=(dig a).length)&&decide ((dig a).length<=100)&&(!((dig a).head?==some 48)||decide (a=[48]))&&(dig a).all isDig
def dval(c:UInt8):Nat:=c.toNat-48
def dec(d:Str):Nat:=d.foldl (λn c=>n*10+dval c) 0
theorem aA6(d:Str)(n:Nat):d.foldl (λn c=>n*10+dval c) n=n*10^d.length+dec d:=by
 unfold dec;induction d generalizing n with
 |nil=>simp
 |cons c d ih=>
  simp only[List.foldl_cons,aB];rw[ih,ih (0*10+dval c),qP,qO,aV,gB,<-Nat.add_assoc];congr 2;rw[Nat.mul_assoc,mE 10]
theorem wR(a b:Str):dec (a++b)=dec a*10^b.length+dec b:=by
 unfold dec;rw[List.foldl_append,aA6];rfl
theorem vY(c:UInt8)(d:Str):dec (c::d)=dval c*10^d.length+dec d:=by
 have:=wR [c] d;simpa[dec]using this
theorem HK(h:isDig c=true):dval c<10:=by
 simp only[isDig,aL,bA]at h;unfold dval;omega
theorem BN{d:Str}(h:d.all isDig=true):dec d<10^d.length:=by
 induction d with
 |nil=>simp[dec]
 |cons c d ih=>
  simp only[gJ,aL]at h;have h1:=ih h.2;have h2:=HK h.1;rw[vY,aB,qP,mE (10^_) 10];have:dval c*10^d.length+10^d.length<=10*10^d.length:=by rw[<-EA];exact eD _ h2
  omega
theorem JQ{a b:Str}(ha:a.all isDig=true)(hb:b.all isDig=true)(hl:a.length=b.length)(h:dec a=dec b):a=b:=by
 induction a generalizing b with
 |nil=>cases b with
  |nil=>rfl
  |cons _ _=>simp at hl
 |cons c a ih=>
  cases b with
  |nil=>simp at hl
  |cons e b=>
   simp only[gJ,aL]at ha hb;simp only[aB,Nat.add_right_cancel_iff]at hl;rw[vY,vY,hl]at h;have h1:=BN ha.2;have h2:=BN hb.2;rw[hl]at h1;have hp:0<10^b.length:=Nat.pow_pos (by omega);have e1:(dval c*10^b.length+dec a)/10^b.length=dval c:=by
    rw[uQ,Nat.add_mul_div_right _ _ hp,Nat.div_eq_of_lt h1,aV]
   have e2:(dval e*10^b.length+dec b)/10^b.length=dval e:=by
    rw[uQ,Nat.add_mul_div_right _ _ hp,Nat.div_eq_of_lt h2,aV]
   have hc:dval c=dval e:=by rw[<-e1,<-e2,h]
   have hr:dec a=dec b:=by rw[hc]at h;omega
   have hce:c=e:=by
    have h3:=ha.1;have h4:=hb.1;simp only[isDig,aL,bA]at h3 h4;unfold dval at hc;exact jZ.1 (by omega)
   rw[hce,ih ha.2 hb.2 hl hr]
theorem LL{d:Str}(hc:isDig c=true)(h0:c≠48):10^d.length<=dec (c::d):=by
 rw[vY];have:1<=dval c:=by
  simp only[isDig,aL,bA]at hc;unfold dval;have:c.toNat≠48:=λe=>h0 (jZ.1 e);omega
 have:=eD (10^d.length) this;omega
theorem MO{a b:Str}(ha:a.all isDig=true)(hb:b.all isDig=true)(ha0:a.head?=some 48->a=[48])(hb0:b.head?=some 48->b=[48])(h1:a≠[])(h2:b≠[])(h:dec a=dec b):a=b:=by
 have key:∀{a b:Str},a.all isDig=true->b.all isDig=true->(b.head?=some 48->b=[48])->a≠[]->b≠[]->dec a=dec b->b.length<=a.length:=by
  intro a b ha hb hb0 h1 h2 h;cases b with
  |nil=>simp
  |cons c d=>
   by_cases hc:c=48
   ·have:=hb0 (by simp[hc]);rw[this];cases a with
    |nil=>exact absurd rfl h1
    |cons _ _=>simp
   ·simp only[gJ,aL]at hb;have h3:=LL (d:=d) hb.1 hc;have h4:=BN ha;rw[h]at h4;have:d.length<a.length:=by
     rcases dO d.length a.length with h5|h5
     ·exact h5
     ·have:=jM (n:=10) (by omega) h5;omega
    simp;omega
 exact JQ ha hb (Nat.le_antisymm (key hb ha ha0 h2 h1 h.symm) (key ha hb hb0 h1 h2 h)) h
def val:List Nat->Nat
 |[]=>0
 |x::r=>x+1000000000*val r
def Lim(l:List Nat):Prop:=∀x∈l,x<1000000000
def lM(d:Str):List Nat:=if h:d=[]then []else dec (d.drop (d.length-9))::lM (d.take (d.length-9))
 termination_by d.length
 decreasing_by
  have:0<d.length:=dP.2 h
  simp only[bU];omega
theorem BB:lM []=[]:=by rw[lM];simp
theorem DF{d:Str}(h:d≠[]):lM d=dec (d.drop (d.length-9))::lM (d.take (d.length-9)):=by rw[lM,dif_neg h]
theorem vZ{d:Str}(n:Nat)(h:d.all isDig=true):(d.take n).all isDig=true:=bW.2 λx hx=>bW.1 h x (tH hx)
theorem Kk{d:Str}(n:Nat)(h:d.all isDig=true):(d.drop n).all isDig=true:=bW.2 λx hx=>bW.1 h x (BX hx)
theorem aC8{d:Str}(h:d.all isDig=true)(hl:d.length<=9):dec d<1000000000:=by
 have h1:=BN h;have:=jM (n:=10) (by omega) hl;omega
theorem sA:∀(n:Nat) (d:Str),d.length<=n->d.all isDig=true->val (lM d)=dec d/\Lim (lM d)
 |n,[],_,_=>by rw[BB];exact⟨rfl,λx hx=>by cases hx⟩
 |0,_::_,h,_=>by simp at h
 |n+1,c::d,hn,h=>by
  rw[DF (by simp)]
  generalize hD:c::d=D at*
  have hpos:0<D.length:=by rw[<-hD];simp
  obtain⟨h1,h2⟩:=sA n (D.take (D.length-9)) (by rw[bU];omega) (vZ _ h)
  refine⟨?_,λx hx=>?_⟩
  ·simp only[val,h1]
   have hs:D=D.take (D.length-9)++D.drop (D.length-9):=(kI _ _).symm
   conv=>rhs;rw[hs,wR]
   rcases dO D.length 9 with h9|h9
   ·have:D.length-9=0:=by omega
    rw[this];simp[dec]
   ·rw[aQ,show D.length-(D.length-9)=9 by omega]
    rw[uQ,mE 1000000000]
  ·rcases bQ.1 hx with rfl|hx
   ·exact aC8 (Kk _ h) (by rw[aQ];omega)
   ·exact h2 x hx
def iC(l:List Nat):List Nat:=if h:l=[]then []else if l.getLast h=0 then iC l.dropLast else l
 termination_by l.length
 decreasing_by
  have:0<l.length:=dP.2 h
  simp only[List.length_dropLast];omega
theorem rU:iC []=[]:=by rw[iC];simp
theorem pM(l:List Nat):iC (l++[0])=iC l:=by rw[iC];simp
theorem uX{l:List Nat}{x:Nat}(h:x≠0):iC (l++[x])=l++[x]:=by rw[iC];simp[h]
def Top(l:List Nat):Prop:=∀h:l≠[],l.getLast h≠0
theorem GJ(a b:List Nat):val (a++b)=val a+1000000000^a.length*val b:=by
 induction a with
 |nil=>simp[val]
 |cons x a ih=>simp only[dA,val,ih,aB,qP];rw[tF,<-Nat.add_assoc,<-Nat.mul_assoc,mE 1000000000 (1000000000^_)]
theorem xM{p:List Nat->Prop}(h0:p [])(h1:∀l x,p l->p (l++[x]))(l:List Nat):p l:=by
 have:∀n (l:List Nat),l.length=n->p l:=by
  intro n;induction n with
  |zero=>intro l hl;rw[bG hl];exact h0
  |succ n ih=>
   intro l hl;have hne:l≠[]:=λe=>by subst e;simp at hl
   rw[<-List.dropLast_concat_getLast hne];exact h1 _ _ (ih _ (by simp[hl]))
 exact this _ l rfl
theorem mI(l:List Nat):val (iC l)=val l/\Top (iC l)/\(Lim l->Lim (iC l)):=by
 induction l using xM with
 |h0=>rw[rU];exact⟨rfl,λh=>absurd rfl h,id⟩
 |h1 l x ih=>
  by_cases h:x=0
  ·subst h;rw[pM];refine⟨by rw[ih.1,GJ];simp[val],ih.2.1,λhl=>ih.2.2 λy hy=>hl y (eP _ hy)⟩
  ·rw[uX h];exact⟨rfl,λ_=>by simpa using h,id⟩
theorem GH{l:List Nat}(h:Lim l):val l<1000000000^l.length:=by
 induction l with
 |nil=>simp[val]
 |cons x l ih=>
  have h1:=ih λy hy=>h y (aU _ hy);have h2:=h x bD;simp only[val,aB,qP];have:1000000000*val l+1000000000<=1000000000*1000000000^l.length:=by rw[<-Nat.mul_succ];exact jY _ h1
  rw[mE (1000000000^_)];omega
theorem GK{l:List Nat}(ht:Top l)(hne:l≠[]):1000000000^(l.length-1)<=val l:=by
 have h1:=ht hne;have h2:=List.dropLast_concat_getLast hne;rw[<-h2,GJ];simp only[aX,List.length_dropLast,aB,aM,val,Nat.mul_zero,eS];have:1000000000^(l.length-1)*1<=1000000000^(l.length-1)*l.getLast hne:=jY _ (by omega);rw[show l.length-1+1-1=l.length-1 by omega];omega
theorem CZ{l:List Nat}(ht:Top l):val l=0↔l=[]:=by
 constructor
 ·intro h;rcases Classical.em (l=[])with e|e
  ·exact e
  ·have:=GK ht e;have hp:0<1000000000^(l.length-1):=Nat.pow_pos (by omega);omega
 ·rintro rfl;rfl
def iQ:List Nat->List Nat->Nat->List Nat
 |[],[],c=>[c]
 |a::x,[],c=>(c+a)%1000000000::iQ x [] ((c+a)/1000000000)
 |[],b::y,c=>(c+b)%1000000000::iQ [] y ((c+b)/1000000000)
 |a::x,b::y,c=>(c+a+b)%1000000000::iQ x y ((c+a+b)/1000000000)
theorem yV:∀(x y:List Nat) (c:Nat),val (iQ x y c)=val x+val y+c
 |[],[],c=>by simp[iQ,val]
 |a::x,[],c=>by
  have:=yV x [] ((c+a)/1000000000)
  simp only[iQ,val,this]
  have:=Nat.mod_add_div (c+a) 1000000000
  rw[tF,tF];omega
 |[],b::y,c=>by
  have:=yV [] y ((c+b)/1000000000)
  simp only[iQ,val,this]
  have:=Nat.mod_add_div (c+b) 1000000000
  rw[tF,tF];omega
 |a::x,b::y,c=>by
  have:=yV x y ((c+a+b)/1000000000)
  simp only[iQ,val,this]
  have:=Nat.mod_add_div (c+a+b) 1000000000
  rw[tF,tF];omega
theorem vJ:∀(x y:List Nat) (c:Nat),Lim x->Lim y->c<=1->Lim (iQ x y c)
 |[],[],c,_,_,hc=>by intro u hu;simp only[iQ,bP]at hu;subst hu;omega
 |a::x,[],c,hx,hy,hc=>by
  have ha:=hx a bD
  have:=vJ x [] ((c+a)/1000000000) (λu hu=>hx u (aU _ hu)) hy (by omega)
  intro u hu
  simp only[iQ]at hu
  rcases bQ.1 hu with rfl|hu
  ·exact Nat.mod_lt _ (by omega)
  ·exact this u hu
 |[],b::y,c,hx,hy,hc=>by
  have ha:=hy b bD
  have:=vJ [] y ((c+b)/1000000000) hx (λu hu=>hy u (aU _ hu)) (by omega)
  intro u hu
  simp only[iQ]at hu
  rcases bQ.1 hu with rfl|hu
  ·exact Nat.mod_lt _ (by omega)
  ·exact this u hu
 |a::x,b::y,c,hx,hy,hc=>by
  have ha:=hx a bD
  have hb:=hy b bD
  have:=vJ x y ((c+a+b)/1000000000) (λu hu=>hx u (aU _ hu)) (λu hu=>hy u (aU _ hu)) (by omega)
  intro u hu
  simp only[iQ]at hu
  rcases bQ.1 hu with rfl|hu
  ·exact Nat.mod_lt _ (by omega)
  ·exact this u hu
def gS:List Nat->List Nat->Nat->List Nat
 |[],_,_=>[]
 |a::x,y,c=>
  let t:=c+y.headD 0
  if a<t then(a+1000000000-t)::gS x y.tail 1 else(a-t)::gS x y.tail 0
theorem OI(y:List Nat):val y=y.headD 0+1000000000*val y.tail:=by cases y<;>simp[val]
theorem sO:∀(x y:List Nat) (c:Nat),Lim x->Lim y->c<=1->val y+c<=val x->y.length<=x.length->val (gS x y c)=val x-val y-c/\Lim (gS x y c)
 |[],y,c,_,_,_,h,_=>by simp[val]at h;simp[gS,val,Lim]
 |a::x,y,c,hx,hy,hc,h,hl=>by
  have ha:=hx a bD
  have hx':Lim x:=λu hu=>hx u (aU _ hu)
  have hy':Lim y.tail:=λu hu=>hy u (List.mem_of_mem_tail hu)
  have hb:y.headD 0<1000000000:=by cases y with
   |nil=>simp
   |cons b y=>exact hy b bD
  have hl':y.tail.length<=x.length:=by simp only[List.length_tail,aB]at hl⊢;omega
  rw[OI y]at h⊢
  simp only[val]at h⊢
  simp only[gS]
  by_cases hlt:a<c+y.headD 0
  ·rw[aJ hlt]
   have h1:val y.tail+1<=val x:=by
    rcases dO (val y.tail) (val x)with h1|h1
    ·exact h1
    ·have:=jY 1000000000 h1;omega
   obtain⟨h2,h3⟩:=sO x y.tail 1 hx' hy' (by omega) h1 hl';refine⟨?_,λu hu=>?_⟩
   ·simp only[val,h2];have:1000000000*(val x-val y.tail-1)=1000000000*val x-1000000000*val y.tail-1000000000:=by rw[Nat.mul_sub,Nat.mul_sub,BW]
    rw[this];have:=jY 1000000000 h1;rw[tF]at this;omega
   ·rcases bQ.1 hu with rfl|hu
    ·omega
    ·exact h3 u hu
  ·rw[aE hlt];have h1:val y.tail+0<=val x:=by
    rcases dO (val x) (val y.tail)with h1|h1
    ·have:=jY 1000000000 (Nat.succ_le_of_lt h1);rw[Nat.mul_succ]at this;omega
    ·omega
   obtain⟨h2,h3⟩:=sO x y.tail 0 hx' hy' (by omega) h1 hl';refine⟨?_,λu hu=>?_⟩
   ·simp only[val,h2,Nat.sub_zero];rw[Nat.mul_sub];have:=jY 1000000000 h1;rw[eS]at this;omega
   ·rcases bQ.1 hu with rfl|hu
    ·omega
    ·exact h3 u hu
def tD(a b:Nat):Int:=if a<b then-1 else if b<a then 1 else 0
theorem iS(a b:Nat):(a<b/\tD a b=-1)\/(a=b/\tD a b=0)\/(b<a/\tD a b=1):=by
 unfold tD;rcases Nat.lt_trichotomy a b with h|h|h
 ·exact .inl ⟨h,aJ h⟩
 ·exact .inr (.inl ⟨h,by subst h;simp⟩)
 ·exact .inr (.inr ⟨h,by rw[aE (Nat.not_lt.2 (Nat.le_of_lt h)),aJ h]⟩)
def tP:List (Nat×Nat)->Int
 |[]=>0
 |(a,b)::r=>if tD a b≠0 then tD a b else tP r
def Im(x y:List Nat):Int:=if tD x.length y.length≠0 then tD x.length y.length else tP (x.zip y).reverse
theorem Ns(a b:List (Nat×Nat)):tP (a++b)=if tP a≠0 then tP a else tP b:=by
 induction a with
 |nil=>simp[tP]
 |cons p a ih=>
  obtain⟨u,v⟩:=p;simp only[dA,tP,ih];by_cases h:tD u v≠0
  ·simp[h]
  ·simp[h]
theorem Fc:∀(x y:List Nat),Lim x->Lim y->x.length=y.length->tP (x.zip y).reverse=tD (val x) (val y)
 |[],[],_,_,_=>by simp[tP,tD]
 |[],_::_,_,_,h=>by simp at h
 |_::_,[],_,_,h=>by simp at h
 |a::x,b::y,hx,hy,h=>by
  simp only[aB,Nat.add_right_cancel_iff]at h
  have ha:=hx a bD
  have hb:=hy b bD
  have ih:=Fc x y (λu hu=>hx u (aU _ hu)) (λu hu=>hy u (aU _ hu)) h
  simp only[List.zip_cons_cons,List.reverse_cons,Ns,ih,tP,val]
  rcases iS (val x) (val y)with⟨h1,e1⟩|⟨h1,e1⟩|⟨h1,e1⟩
  ·have:=jY 1000000000 (Nat.succ_le_of_lt h1)
   rcases iS (a+1000000000*val x) (b+1000000000*val y)with⟨h2,e2⟩|⟨h2,e2⟩|⟨h2,e2⟩
   ·rw[e1,e2];rfl
   ·omega
   ·omega
  ·rw[e1,h1]
   rcases iS a b with⟨h2,e2⟩|⟨h2,e2⟩|⟨h2,e2⟩
   ·rcases iS (a+1000000000*val y) (b+1000000000*val y)with⟨h3,e3⟩|⟨h3,e3⟩|⟨h3,e3⟩
    ·rw[e2,e3];rfl
    ·omega
    ·omega
   ·subst h2
    rcases iS (a+1000000000*val y) (a+1000000000*val y)with⟨h3,e3⟩|⟨h3,e3⟩|⟨h3,e3⟩
    ·omega
    ·rw[e2,e3];rfl
    ·omega
   ·rcases iS (a+1000000000*val y) (b+1000000000*val y)with⟨h3,e3⟩|⟨h3,e3⟩|⟨h3,e3⟩
    ·omega
    ·omega
    ·rw[e2,e3];rfl
  ·have:=jY 1000000000 (Nat.succ_le_of_lt h1)
   rcases iS (a+1000000000*val x) (b+1000000000*val y)with⟨h2,e2⟩|⟨h2,e2⟩|⟨h2,e2⟩
   ·omega
   ·omega
   ·rw[e1,e2];rfl
theorem Fe{x y:List Nat}(hx:Lim x)(hy:Lim y)(tx:Top x)(ty:Top y):Im x y=tD (val x) (val y):=by
 unfold Im;have key:∀{x y:List Nat},Lim x->Top y->x.length<y.length->val x<val y:=by
  intro x y hx ty h;have hne:y≠[]:=λe=>by subst e;simp at h
  have h1:=GK ty hne;have h2:=GH hx;have h3:=jM (n:=1000000000) (by omega) (show x.length<=y.length-1 by omega);omega
 rcases iS x.length y.length with⟨h,e⟩|⟨h,e⟩|⟨h,e⟩
 ·have h2:=key hx ty h;rcases iS (val x) (val y)with⟨h3,e3⟩|⟨h3,e3⟩|⟨h3,e3⟩
  ·rw[e,e3];rfl
  ·omega
  ·omega
 ·rw[e,aE (by simp)];exact Fc x y hx hy h
 ·have h2:=key hy tx h;rcases iS (val x) (val y)with⟨h3,e3⟩|⟨h3,e3⟩|⟨h3,e3⟩
  ·omega
  ·omega
  ·rw[e,e3];rfl
structure Big where
 below:Bool
 l:List Nat
def Big.trim(x:Big):Big:=⟨x.below&&!(iC x.l).isEmpty,iC x.l⟩
def Big.int(x:Big):Int:=if x.below then-(val x.l:Int)else val x.l
structure Big.Ok(x:Big):Prop where
 lim:Lim x.l
 top:Top x.l
 sign:x.l=[]->x.below=false
theorem yP{x:Big}(h:Lim x.l):x.trim.Ok:=⟨(mI x.l).2.2 h,(mI x.l).2.1,λe=>by simp only[Big.trim]at e⊢;simp[e]⟩
theorem uW(x:Big):x.trim.int=x.int:=by
 unfold Big.int Big.trim;have h:=(mI x.l).1;have h2:=CZ (mI x.l).2.1;simp only[h];cases hb:x.below with
 |false=>simp
 |true=>
  cases he:iC x.l with
  |nil=>have:val x.l=0:=by rw[<-h,he];rfl
        simp[this]
  |cons _ _=>simp
def iG(a:Str):Big:=(⟨neg a,lM (dig a)⟩:Big).trim
def AD(x:Big):Big:=(⟨!x.below,x.l⟩:Big).trim
def ED(x y:Big):Big:=
 if x.below=y.below then(⟨x.below,iQ x.l y.l 0⟩:Big).trim
 else if 0<=Im x.l y.l then(⟨x.below,gS x.l y.l 0⟩:Big).trim
 else(⟨y.below,gS y.l x.l 0⟩:Big).trim
def yF(a b:Str):Int:=if goodN a&&goodN b then(let d:=ED (iG a) (AD (iG b));if d.l=[]then 0 else if d.below then-1 else 1)else 0
def num(a:Str):Int:=if neg a then-(dec (dig a):Int)else dec (dig a)
theorem GI{x y:List Nat}(hx:Lim x)(ty:Top y)(h:val y<=val x):y.length<=x.length:=by
 rcases dO x.length y.length with hl|hl
 ·have hne:y≠[]:=λe=>by subst e;simp at hl
  have h1:=GK ty hne;have h2:=GH hx;have h3:=jM (n:=1000000000) (by omega) (show x.length<=y.length-1 by omega);omega
 ·exact hl
theorem OX{x y:Big}(hx:x.Ok)(hy:y.Ok):(ED x y).int=x.int+y.int/\(ED x y).Ok:=by
 unfold ED;have hs:=Fe hx.lim hy.lim hx.top hy.top;by_cases h:x.below=y.below
 ·rw[aJ h];refine⟨?_,yP (vJ _ _ _ hx.lim hy.lim (by omega))⟩;rw[uW];unfold Big.int;rw[yV,<-h];cases x.below<;>simp;omega
 ·rw[aE h,hs];by_cases hc:val y.l<=val x.l
  ·have:0<=tD (val x.l) (val y.l):=by unfold tD;rw[aE (by omega)];split<;>omega
   rw[aJ this];obtain⟨h1,h2⟩:=sO x.l y.l 0 hx.lim hy.lim (by omega) (by omega) (GI hx.lim hy.top hc);refine⟨?_,yP h2⟩;rw[uW];unfold Big.int;rw[h1];cases hxb:x.below<;>cases hyb:y.below<;>simp_all<;>omega
  ·have:¬0<=tD (val x.l) (val y.l):=by unfold tD;rw[aJ (by omega)];omega
   rw[aE this];obtain⟨h1,h2⟩:=sO y.l x.l 0 hy.lim hx.lim (by omega) (by omega) (GI hy.lim hx.top (by omega));refine⟨?_,yP h2⟩;rw[uW];unfold Big.int;rw[h1];cases hxb:x.below<;>cases hyb:y.below<;>simp_all<;>omega
theorem jD{a:Str}(h:goodN a=true):1<=(dig a).length/\(dig a).length<=100/\((dig a).head?=some 48->a=[48])/\(dig a).all isDig=true:=by
 simp only[goodN,aL,cM,bA,dQ,beq_eq_false_iff_ne,bL]at h;obtain⟨⟨⟨h1,h2⟩,h3⟩,h4⟩:=h;exact⟨h1,h2,λe=>h3.resolve_left (λh=>h e),h4⟩
theorem Fs{a:Str}(h:goodN a=true):(iG a).int=num a/\(iG a).Ok:=by
 obtain⟨_,_,_,h4⟩:=jD h;obtain⟨h5,h6⟩:=sA _ (dig a) (aS _) h4;refine⟨?_,yP h6⟩;unfold iG;rw[uW];unfold Big.int num;rw[h5]
theorem Nj{x:Big}(h:x.Ok):(AD x).int=-x.int/\(AD x).Ok:=by
 refine⟨?_,yP h.lim⟩;unfold AD;rw[uW];unfold Big.int;cases x.below<;>simp
theorem Mo{a b:Str}(ha:goodN a=true)(hb:goodN b=true)(h:num a=num b):a=b:=by
 obtain⟨a1,_,a3,a4⟩:=jD ha;obtain⟨b1,_,b3,b4⟩:=jD hb;have hdig:∀{a:Str},neg a=true->a=45::dig a:=by
  intro a h;cases a with
  |nil=>simp[neg]at h
  |cons c d=>simp only[neg,List.head?_cons,fO,bE]at h;subst h;simp[dig]
 have hdig0:∀{a:Str},neg a=false->dig a=a:=by
  intro a h;cases a with
  |nil=>rfl
  |cons c d=>
   have:c≠45:=λe=>by subst e;simp[neg]at h
   simp[dig,this]
 have hn48:neg [48]=false:=by decide
 have hd48:dig [48]=[48]:=by decide
 have key:dec (dig a)=dec (dig b)->dig a=dig b:=MO a4 b4 (λe=>by rw[a3 e,hd48]) (λe=>by rw[b3 e,hd48]) (λe=>by rw[e]at a1;simp at a1) (λe=>by rw[e]at b1;simp at b1);have hpos:∀{a:Str},goodN a=true->neg a=true->0<dec (dig a):=by
  intro a ha hn;obtain⟨h1,_,h3,h4⟩:=jD ha;cases hd:dig a with
  |nil=>rw[hd]at h1;simp at h1
  |cons c d=>
   have hc:c≠48:=λe=>by
    have:=h3 (by rw[hd,e];rfl);rw[this,hn48]at hn;cases hn
   rw[hd]at h4;simp only[gJ,aL]at h4;have:=LL (d:=d) h4.1 hc;have hp:0<10^d.length:=Nat.pow_pos (by omega);omega
 unfold num at h;cases hna:neg a with
 |true=>
  cases hnb:neg b with
  |true=>
   rw[hna,hnb]at h;simp only[gM]at h;rw[hdig hna,hdig hnb,key (by omega)]
  |false=>
   rw[hna,hnb]at h;have:=hpos ha hna;simp at h;omega
 |false=>
  cases hnb:neg b with
  |true=>
   rw[hna,hnb]at h;have:=hpos hb hnb;simp at h;omega
  |false=>
   rw[hna,hnb]at h;simp only[fH,kH]at h;have:=key (by omega);rwa[hdig0 hna,hdig0 hnb]at this
end
end Go.Num
namespace Go.Eng
section
open Go Go.Num
variable{w:World}{K:Value->World->Prop}{cs:List Value}{G:Nat->Prop}{T:TypeId}{i:Nat}{n:Nat}{v:Value}{w':World}{P:Program}{c:UInt8}{S:Nat->Prop}
mutual
def oY:JV->Bool
 |.mk k _ _ xs _=> !decide (k=1)&&Am xs
def Am:List JV->Bool
 |[]=>true
 |x::xs=>oY x&&Am xs
end
mutual
def qG:JV->Int
 |.mk _ _ _ xs _=>lC xs 1
def lC:List JV->Int->Int
 |[],n=>n
 |x::xs,n=>if n<=2000 then lC xs (IntKind.i64.wrap (n+qG x))else n
end
mutual
def qM:JV->Nat->Bool
 |.mk _ _ _ xs _,m=>match m with|0=>false|m+1=>Ab xs m
def Ab:List JV->Nat->Bool
 |[],_=>true
 |x::xs,m=>qM x m&&Ab xs m
end
def jK:List Str->Bool
 |[]=>true
 |[a]=>decide (a.length<=16384)
 |a::b::r=>decide (a.length<=16384)&&Op.bytesLess a b&&jK (b::r)
def oA(k:Int)(b:Bool)(t:Str)(n:Nat)(ks:List Str):Bool:=
 decide (0<=k)&&decide (k<=6)&&(!b||decide (k=2))&&(decide (t=[])||decide (k=3)||decide (k=4))&&(decide (n=0)||decide (5<=k))&&(decide (k=6)||decide (ks=[]))&&
  (!decide (k=3)||goodN t)&&(!decide (k=4)||decide (t.length<=16384))&&(!decide (k=6)||decide (ks.length=n))&&jK ks
mutual
def sK:JV->Bool
 |.mk k b t xs ks=>oA k b t xs.length ks&&pU xs
def pU:List JV->Bool
 |[]=>true
 |x::xs=>sK x&&pU xs
end
def fA(v:JV):Bool:=decide (qG v<=2000)&&qM v 24&&sK v
mutual
def Ce:JV->JV->Bool
 |.mk k b t xs ks,.mk k' b' t' xs' ks'=>decide (k=k')&&decide (b=b')&&decide (t=t')&&decide (ks=ks')&&tQ xs xs'
def tQ:List JV->List JV->Bool
 |[],[]=>true
 |x::xs,y::ys=>Ce x y&&tQ xs ys
 |_,_=>false
end
mutual
theorem same_iff:∀(a b:JV),Ce a b=true↔a=b
 |.mk k b t xs ks,.mk k' b' t' xs' ks'=>by
  have:=vG xs xs'
  simp only[Ce,aL,bA,this,JV.mk.injEq]
  constructor
  ·rintro⟨⟨⟨⟨h1,h2⟩,h3⟩,h4⟩,h5⟩;exact⟨h1,h2,h3,h5,h4⟩
  ·rintro⟨h1,h2,h3,h5,h4⟩;exact⟨⟨⟨⟨h1,h2⟩,h3⟩,h4⟩,h5⟩
theorem vG:∀(a b:List JV),tQ a b=true↔a=b
 |[],[]=>by simp[tQ]
 |[],_::_=>by simp[tQ]
 |_::_,[]=>by simp[tQ]
 |x::xs,y::ys=>by simp[tQ,same_iff x y,vG xs ys]
end
theorem Nz:∀{xs ys:List JV},xs.length≠ys.length->tQ xs ys=false:=by
 intro xs ys h;cases hs:tQ xs ys with
 |false=>rfl
 |true=>exact absurd (by rw[(vG _ _).1 hs]) h
def Cz(a b:Int):Int:=if a<b then-1 else if b<a then 1 else 0
def EH(a b:Str):Int:=if Op.bytesLess a b then-1 else if a=b then 0 else 1
def Bh(b:Bool):Int:=if b then 1 else 0
def orI(a b:Int):Int:=if a=0 then b else a
def Ac:List Str->List Str->Int
 |[],[]=>0
 |[],_::_=>-1
 |_::_,[]=>1
 |a::r,b::s=>orI (EH a b) (Ac r s)
mutual
def LO:JV->JV->Int
 |.mk k b t xs ks,v=>
  orI (Cz k v.k) (if k=2 then Cz (Bh b) (Bh v.b)
  else if k=3 then yF t v.t
  else if k=4 then EH t v.t
  else orI (Ac ks v.ks) (cmpL xs v.xs))
def cmpL:List JV->List JV->Int
 |[],[]=>0
 |[],_::_=>-1
 |_::_,[]=>1
 |x::xs,y::ys=>orI (LO x y) (cmpL xs ys)
end
theorem Ji(a:Str):Op.bytesLess a a=false:=by
 induction a with
 |nil=>rfl
 |cons x a ih=>simp[Op.bytesLess,ih]
theorem mP{k:Int}{b:Bool}{t:Str}{ks:List Str}(h:oA k b t n ks=true):
  0<=k/\k<=6/\(b=true->k=2)/\(t≠[]->k=3\/k=4)/\(n≠0->5<=k)/\(ks≠[]->k=6)/\(k=3->goodN t=true)/\(k=4->t.length<=16384)/\(k=6->ks.length=n)/\jK ks=true:=by
 simp only[oA,aL,cM,bA,dQ,decide_eq_false_iff_not]at h;obtain⟨⟨⟨⟨⟨⟨⟨⟨⟨h1,h2⟩,h3⟩,h4⟩,h5⟩,h6⟩,h7⟩,h8⟩,h9⟩,h10⟩:=h;refine⟨h1,h2,λe=>?_,λe=>?_,λe=>?_,λe=>?_,λe=>?_,λe=>?_,λe=>?_,h10⟩
 ·rcases h3 with h3|h3
  ·rw[e]at h3;cases h3
  ·exact h3
 ·rcases h4 with(h4|h4)|h4
  ·exact absurd h4 e
  ·exact .inl h4
  ·exact .inr h4
 ·exact h5.resolve_left e
 ·exact h6.resolve_right e
 ·exact h7.resolve_left λh=>h e
 ·exact h8.resolve_left λh=>h e
 ·exact h9.resolve_left λh=>h e
theorem JV.ind'{p:JV->Prop}(h:∀v,(∀x∈v.xs,p x)->p v)(v:JV):p v:=JV.ind (λk b t xs ks ih=>h (.mk k b t xs ks) ih) v
theorem NR(v:JV):oY v=(!decide (v.k=1)&&Am v.xs):=by cases v;rfl
theorem vD(v:JV):qG v=lC v.xs 1:=by cases v;rfl
theorem sW(v:JV):qM v 0=false:=by cases v;rfl
theorem oC(v:JV)(m:Nat):qM v (m+1)=Ab v.xs m:=by cases v;rfl
theorem mX(v:JV):sK v=(oA v.k v.b v.t v.xs.length v.ks&&pU v.xs):=by cases v;rfl
theorem Pr(a b:JV):Ce a b=(decide (a.k=b.k)&&decide (a.b=b.b)&&decide (a.t=b.t)&&decide (a.ks=b.ks)&&tQ a.xs b.xs):=by cases a;cases b;rfl
theorem VL(a v:JV):LO a v=orI (Cz a.k v.k) (if a.k=2 then Cz (Bh a.b) (Bh v.b)else if a.k=3 then yF a.t v.t else if a.k=4 then EH a.t v.t else orI (Ac a.ks v.ks) (cmpL a.xs v.xs)):=by cases a;rfl
theorem Ll(xs:List JV):Am xs=xs.all oY:=by
 induction xs with
 |nil=>rfl
 |cons x xs ih=>simp[Am,ih]
theorem oL(xs:List JV)(m:Nat):Ab xs m=xs.all (qM · m):=by
 induction xs with
 |nil=>rfl
 |cons x xs ih=>simp[Ab,ih]
theorem wH(xs:List JV):pU xs=xs.all sK:=by
 induction xs with
 |nil=>rfl
 |cons x xs ih=>simp[pU,ih]
theorem vZ{α:Type}{p:α->Bool}{xs:List α}{x:α}(hi:xs[i]?=some x):(xs.take (i+1)).all p=((xs.take i).all p&&p x):=by
 rw[dH,hi];simp
theorem aBg{α:Type}{p:α->Bool}{xs:List α}{x:α}(hi:xs[i]?=some x)(h:p x=false):xs.all p=false:=by
 rw[List.all_eq_false];exact⟨x,bJ hi,by simp[h]⟩
def vR:List Str->Str->Option Nat
 |[],_=>none
 |a::r,k=>if a=k then some 0 else(vR r k).map (· +1)
theorem vQ{ks:List Str}{k:Str}(h:vR ks k=some i):ks[i]?=some k:=by
 induction ks generalizing i with
 |nil=>cases h
 |cons a r ih=>
  simp only[vR]at h;split at h
  ·rename_i e;cases h;simp[e]
  ·rw[Option.map_eq_some_iff]at h;obtain⟨j,hj,rfl⟩:=h;simpa using ih hj
theorem zE{ks:List Str}{k:Str}:vR ks k=none↔k∉ks:=by
 induction ks with
 |nil=>simp[vR]
 |cons a r ih=>
  simp only[vR,bQ,not_or];split
  ·rename_i e;simp[e]
  ·rename_i e;simp only[Option.map_eq_none_iff,ih];exact⟨λh=>⟨λe'=>e e'.symm,h⟩,λh=>h.2⟩
def xX(v:JV)(k:Str):Option JV:=if v.k=6 then(match vR v.ks k with|some i=>v.xs[i]?|none=>none)else none
def nT(l:List (Str×JV))(k:Str):List (Str×JV):=l.filter λp=> !decide (p.1=k)
def mkO(l:List (Str×JV)):JV:=.mk 6 false [] (l.map (·.2)) (l.map (·.1))
def insP:List (Str×JV)->Str->JV->List (Str×JV)
 |[],k,x=>[(k,x)]
 |(a,y)::r,k,x=>if Op.bytesLess k a then(k,x)::(a,y)::r else(a,y)::insP r k x
def wG(v:JV)(k:Str)(x:JV):JV:=if v.k=6 then mkO (insP (nT (v.ks.zip v.xs) k) k x)else mkO [(k,x)]
theorem Sv{α:Type}[DecidableEq α]{a b:List α}{x y:α}(hx:a[i]?=some x)(hy:b[i]?=some y)(h:x≠y):a≠b:=by
 rintro rfl;rw[hx]at hy;cases hy;exact h rfl
theorem Mc{α:Type}{a b:List α}{x:α}(h:a.take i=b.take i)(hx:a[i]?=some x)(hy:b[i]?=some x):a.take (i+1)=b.take (i+1):=by
 rw[dH,dH,h,hx,hy]
theorem KL{xs ys:List JV}(hl:xs.length=ys.length){x y:JV}(hx:xs[i]?=some x)(hy:ys[i]?=some y)(h:Ce x y=false):tQ xs ys=false:=by
 cases hs:tQ xs ys with
 |false=>rfl
 |true=>
  have:=(vG _ _).1 hs;subst this;rw[hx]at hy;cases hy;rw[(same_iff x x).2 rfl]at h;cases h
end
section
open Go
variable{w:World}{K:Value->World->Prop}{cs:List Value}{G:Nat->Prop}{T:TypeId}{i:Nat}{n:Nat}{v:Value}{w':World}{P:Program}{c:UInt8}{S:Nat->Prop}
theorem jO{t e:TypeId}{size bytes:Nat}(hT:qQ P t e size bytes){base:Nat}{x:Value}{m:Nat}{xs news:List Value}{ty:TypeId}
  (hown:Own w base e size v n xs)(hx:SlAt w T x m news)(hl:news.length=m*size)(h1:∀u∈news,fG u=true)(hlen:n+m<=4611686018427387904)(hb:(n+m)*bytes<=140737488355328)(hbase:base<=w.heap.size)
  (hK:∀v' w',Own w' base e size v' (n+m) (xs++news)->Chg (λk=>v.ownBlock=some k) w w'->(∀k,v'.ownBlock=some k->v.ownBlock=some k\/w.heap.size<=k)->K v' w'):
  dF P (Builtin.append_ #[t,t] ty #[v,x]) w K:=by
 obtain⟨i,z,hi,hz,h2,h3,h4⟩:=hT.get;have hsame:∀{K':Value->World->Prop},dF P (Builtin.append_ #[t,t] ty #[v,x]) w K'->∃v' w',(Builtin.append_ #[t,t] ty #[v,x]).run P w=.ok v' w'/\K' v' w':=by
  intro K' h;unfold dF at h;split at h
  ·rename_i v' w' hr;exact⟨v',w',hr,h⟩
  ·exact h.elim
 obtain⟨v1,w1,hr1,hO1,hc1,hn1⟩:=hsame (kZ hT hown hx hl h1 hlen hb hbase λv' w' a b c=>(⟨a,b,c⟩:Own w' base e size v' (n+m) (xs++news)/\Chg (λk=>v.ownBlock=some k) w w'/\(v'=.slice none 0 0↔v=.slice none 0 0/\m=0)));unfold dF;rw[hr1];refine hK v1 w1 hO1 hc1 ?_;obtain⟨hl',⟨rfl,rfl⟩|⟨g,cap,cur,rfl,hbg,hg,hnc,hcm,hcs,htake⟩⟩:=hown
 ·have hnil:xs=[]:=bG (by simpa using hl');subst hnil;obtain⟨v2,w2,hr2,hO2⟩:=hsame (kZ hT (base:=w.heap.size) (show Own w w.heap.size e size (.slice none 0 0) 0 []from⟨by simp,.inl ⟨rfl,rfl⟩⟩) hx hl h1 hlen hb (aS _) λv' w' a _ _=>a);rw[hr1]at hr2;cases hr2;intro k hk;exact .inr (hO2.block k hk).1
 ·obtain⟨p,c,rfl,_,hpn,hcells⟩:=hx;cases p with
  |none=>
   obtain⟨rfl,rfl⟩:=hpn rfl;intro k hk;have hn:news=[]:=bG (by simpa using hl);subst hn;have hr:(Builtin.append_ #[t,t] ty #[.slice (some ⟨g,0,none⟩) n cap,.slice none 0 0]).run P w=.ok (.slice (some ⟨g,0,none⟩) n cap) w:=by
    simp[Builtin.append_,run_bind,bH hT.und,gC (show(P.info? e).isSome=true by rw[hi];rfl),Builtin.lenOf,run_pure,Builtin.firstCells,hnc,storeCells]
   rw[hr1]at hr;cases hr;exact .inl hk
  |some a=>
   have hcell:∀j u,news[j]?=some u->w.cell? (a.add j)=some u:=by
    intro j u hu;have hne:news≠[]:=λe=>by subst e;simp at hu
    obtain⟨b,off,c',fr,hp,hb',hcs'⟩:=hcells hne;cases hp;rw[bZ,cD,hb',cH,hcs' j (List.getElem?_eq_some_iff.1 hu).1,hu]
   subst h2;by_cases hroom:n+m<=cap
   ·have hfit:n*i.size+news.length<=cur.size:=by rw[hl,hcs,<-gB];exact eD _ hroom
    have hr:=run_append_room (P:=P) w t ty e i hT.und hi g n cap cur hg a m c news hl hcell (λu hu=>uM (h1 u hu)) hroom hfit;rw[hr1]at hr;cases hr;intro k hk;exact .inl (by simpa[Value.ownBlock]using hk)
   ·have holds:∀j u,xs[j]?=some u->w.cell? ((⟨g,0,none⟩:Addr).add j)=some u:=World.ownsRow.cells (base:=base) (e:=e) (size:=i.size) (v:=.slice (some ⟨g,0,none⟩) n cap) (n:=n) ⟨hl',.inr ⟨g,cap,cur,rfl,hbg,hg,hnc,hcm,hcs,htake⟩⟩ rfl;have hr:=run_append_grow (P:=P) w t ty e i z hT.und hi hz ⟨g,0,none⟩ n cap xs hl' holds a m c news hl hcell (by omega) (by omega) (growslice_fits (by omega) (by rw[h3];exact hb));rw[hr1]at hr;cases hr;intro k hk;right;simp[Value.ownBlock]at hk;omega
theorem nX(c:Bool)(u v:Value)(w:World)(B:List Value->Fr->World->Prop):GdW c [u] w (λJ=>J [v] w) B↔∀g,B [bif c then v else u] g w:=by
 constructor
 ·rintro⟨J,h1,h2,h3⟩ g;cases c with
  |true=>exact h3 _ g _ (h1 rfl)
  |false=>exact h3 _ g _ (h2 rfl)
 ·intro h;refine⟨λs w'=>s=[bif c then v else u]/\w'=w,λhc=>⟨by rw[hc];rfl,rfl⟩,λhc=>⟨by rw[hc];rfl,rfl⟩,?_⟩;rintro s g w' ⟨rfl,rfl⟩;exact h g
theorem Ib(g e f:Bool)(w:World)(B:List Value->Fr->World->Prop):
  GdW g [undef] w (λJ=>cR (bif g then .bool e else undef) (bif (g&&e)then .bool f else undef) (.bool false) λt=>J [t] w) B↔∀h,B [bif g then .bool (e&&f)else undef] h w:=by
 cases g with
 |true=>
  rw[<-nX];cases e<;>exact gU
 |false=>
  constructor
  ·rintro⟨J,_,h2,h3⟩ h;exact h3 _ h _ (h2 rfl)
  ·intro h;exact GdW.f h
theorem Kq(g e f:Bool)(w:World)(B:List Value->Fr->World->Prop):
  GdW g [undef] w (λJ=>cR (bif g then .bool e else undef) (.bool true) (bif (g&&!e)then .bool f else undef) λt=>J [t] w) B↔∀h,B [bif g then .bool (e||f)else undef] h w:=by
 cases g with
 |true=>
  rw[<-nX];cases e<;>exact gU
 |false=>
  constructor
  ·rintro⟨J,_,h2,h3⟩ h;exact h3 _ h _ (h2 rfl)
  ·intro h;exact GdW.f h
theorem fC(c e:Bool)(K:Value->Prop):cR (.bool c) (bif c then .bool e else undef) (.bool false) K↔K (.bool (c&&e)):=by cases c<;>exact gU
theorem fN(c e:Bool)(K:Value->Prop):cR (.bool c) (.bool true) (bif !c then .bool e else undef) K↔K (.bool (c||e)):=by cases c<;>exact gU
theorem QO(c e:Bool):isB (bif c then .bool e else undef) true=(c&&e):=by cases c<;>cases e<;>rfl
theorem QP(c e:Bool):isB (bif c then .bool e else undef) false=(c&&!e):=by cases c<;>cases e<;>rfl
theorem GdW.look{c:Bool}{A:(List Value->World->Prop)->Prop}{B:List Value->Fr->World->Prop}(e:Bool)(h1:c=true->∀J:List Value->World->Prop,J [.bool e] w->A J)(h2:∀g,B [bif c then .bool e else undef] g w):GdW c [undef] w A B:=by
 refine⟨λs w'=>s=[bif c then .bool e else undef]/\w'=w,λhc=>h1 hc _ ⟨by rw[hc];rfl,rfl⟩,λhc=>⟨by rw[hc];rfl,rfl⟩,?_⟩;rintro s g w' ⟨rfl,rfl⟩;exact h2 g
theorem GdW.act{c:Bool}{A:(List Value->World->Prop)->Prop}{B:List Value->Fr->World->Prop}(e:Bool)(R:World->Prop)(h0:c=false->R w)(h1:c=true->∀J:List Value->World->Prop,(∀w',R w'->J [.bool e] w')->A J)(h2:∀g w',R w'->B [bif c then .bool e else undef] g w'):GdW c [undef] w A B:=by
 refine⟨λs w'=>s=[bif c then .bool e else undef]/\R w',λhc=>h1 hc _ λw' hR=>⟨by rw[hc];rfl,hR⟩,λhc=>⟨by rw[hc];rfl,h0 hc⟩,?_⟩;rintro s g w' ⟨rfl,hR⟩;exact h2 g w' hR
theorem Yx(A:(Value->Prop)->Prop)(B:Value->Prop):GqW false A B↔B undef:=by
 constructor
 ·rintro⟨v,_,h,hb⟩;rw[<-h rfl];exact hb
 ·intro h;exact⟨undef,(λe=>by cases e),λ_=>rfl,h⟩
theorem Sa(A:(Value->Prop)->Prop)(B:Value->Prop):GqW true A B↔∃v,A (λx=>x=v)/\B v:=by
 constructor
 ·rintro⟨v,h,_,hb⟩;exact⟨v,h rfl,hb⟩
 ·rintro⟨v,h,hb⟩;exact⟨v,λ_=>h,(λe=>by cases e),hb⟩
theorem Ad(u:List Value)(w:World)(A:(List Value->World->Prop)->Prop)(B:List Value->Fr->World->Prop):GdW false u w A B↔∀g,B u g w:=by
 constructor
 ·rintro⟨J,_,h2,h3⟩ g;exact h3 _ g _ (h2 rfl)
 ·intro h;exact GdW.f h
theorem QN(c:Bool):isB undef c=false:=rfl
theorem Ym(a b:Bool)(K:Value->Prop):eqW .bool false (.bool a) (.bool b) K↔K (.bool (a==b)):=by simp[eqW]
theorem aCV(a b:Bool)(K:Value->Prop):eqW .bool true (.bool a) (.bool b) K↔K (.bool (!(a==b))):=by simp[eqW]
theorem bT(b:Bool)(A B:Prop):aR (.bool b) A B↔(b=true->A)/\(b=false->B):=gU
def aCv:=And.intro @cU<|And.intro @SJ<|And.intro @dD<|And.intro @eJ<|And.intro @vI<|And.intro @GX<|And.intro @gO<|And.intro @cC<|And.intro @mB<|And.intro @HS<|
 And.intro @HQ<|And.intro @CR<|And.intro @bM<|And.intro @fT<|And.intro @eC<|And.intro @uF<|And.intro @mC<|And.intro @lF<|And.intro @pF<|And.intro @rR<|And.intro @wT<|
 And.intro @VR<|And.intro @VV<|And.intro @MW<|And.intro @VS<|And.intro @dW<|And.intro @bR<|And.intro @dX<|And.intro @UN<|And.intro @PW<|And.intro @UK<|And.intro @NG<|
 And.intro @UL<|And.intro @UM<|And.intro @bK<|And.intro @pY<|And.intro @Vh<|And.intro @Hk<|And.intro @fX<|And.intro @zD<|And.intro @eM<|And.intro @OL<|And.intro @mZ<|
 And.intro @UU<|And.intro @UW<|And.intro @fI<|And.intro @eX<|And.intro @gH<|And.intro @mJ<|And.intro @sL<|And.intro @dY @cX
def aCz:=And.intro @QN<|And.intro @Yx<|And.intro @Sa<|And.intro @Ad<|And.intro @nX<|And.intro @Ib<|And.intro @Kq<|And.intro @fC<|And.intro @fN<|And.intro @QO<|And.intro @QP<|And.intro @iD @lP
def aCy:=And.intro @bZ<|And.intro @cD<|And.intro @cH<|And.intro @lU<|And.intro @qI<|And.intro @heap_drew @size_drew
def aCx:=And.intro @dM<|And.intro @kX<|And.intro @kV<|And.intro @Bool.and_false<|And.intro @iO<|And.intro @zS<|And.intro @Bool.or_true<|
 And.intro @Bool.or_false<|And.intro @zR<|And.intro @mF<|And.intro @kU @iL
theorem wsv:type_of%aCv:=aCv
theorem wsg:type_of%aCz:=aCz
theorem wsh:type_of%aCy:=aCy
theorem wsl:type_of%aCx:=aCx
universe u
def aCw:=And.intro @bE.{u}<|And.intro @Option.isSome_some.{u}<|And.intro @List.getElem?_toArray.{u}<|And.intro @List.getElem?_cons_zero.{u}<|And.intro @List.getElem?_cons_succ.{u}<|And.intro @aB.{u}<|And.intro @aM.{u}<|And.intro @aY.{u}<|And.intro @bB.{u}<|And.intro @aG.{u}<|And.intro @dE.{u}<|And.intro @aV @eS
theorem eZ:type_of%aCw.{u}:=aCw.{u}
end
end Go.Eng
namespace Go.Proofs.YtghhmpppnmoeoaaGreatDoor
section
open Go Go.Eng
variable{w:World}{K:Value->World->Prop}{cs:List Value}{G:Nat->Prop}{T:TypeId}{i:Nat}{n:Nat}{v:Value}{w':World}{P:Program}{c:UInt8}{S:Nat->Prop}
theorem mixed:Tryz.prog.follows .mixedOrders=true:=by kernel_rfl
end
end Go.Proofs.YtghhmpppnmoeoaaGreatDoor
namespace Go.Eng
section
open Go
variable{w:World}{K:Value->World->Prop}{cs:List Value}{G:Nat->Prop}{T:TypeId}{i:Nat}{n:Nat}{v:Value}{w':World}{P:Program}{c:UInt8}{S:Nat->Prop}
section
variable{P:Program}
def xD(P:Program)(g:FuncId)(caps:List Value)(u:FrameMode)(w:World)(K:World->Prop):Prop:=
 CallsD P g caps.toArray u w λe u' w'=>(∃v,e=.returned v)/\settle u'=.returning/\K w'
def JO:List Oper->Option (Nat×FuncId×List Operand)
 |[o1,o2]=>
  match o1.guard,o2.guard,o1.dst,o1.op,o2.dst,o2.op with
  |none,none,some t,.makeFunc (.func g) first caps,none,.defer c=>
   match first.toList,c.callee,c.args.toList with
   |[],.value (.tmp t'),[]=>bif Nat.beq t t' then some (t,g,caps.toList)else none
   |_,_,_=>none
  |_,_,_,_,_,_=>none
 |_=>none
def NB(P:Program)(fn:Func)(R:Ending->World->Prop)(f:Fr)(w:World):Prop:=Cw P fn.results.toList f w λl=>R (.returned (one l)) w
def JW(P:Program)(pl:cK)(fn:Func)(R:Ending->World->Prop):Nat->Code->Nat->Fr->World->Prop
 |0,.seq (.region _ ops _) b,i,f,w=>
  match JO ops.toList with
  |some (t,g,caps)=>
   @oM ⟨λch w'=>xD P g (caps.map (ev f)) (.panicking ch) w' λw''=>NB P fn R f w''⟩ P pl b (i+2) (upd f (some t) (.func (.func g) #[] (caps.map (ev f)).toArray)) w
    (λf' w'=>xD P g (caps.map (ev f)) .returning w' λw''=>NB P fn R f' w'') (λ_ _ _=>False) (λf' w'=>xD P g (caps.map (ev f)) .returning w' λw''=>NB P fn R f' w'')
  |none=>False
 |k+1,.seq a b,i,f,w=>@oM ⟨λch w'=>R (.panicked ch) w'⟩ P pl a (i+1) f w (λf' w'=>JW P pl fn R k b (i+1+tU a) f' w') (λ_ _ _=>False) (λf' w'=>NB P fn R f' w')
 |_,_,_,_,_=>False
def aCG(lo t:Nat):ResultVar->Bool
 |.tmp x=>Nat.blt x lo&&!(Nat.beq x t)
 |.cell x _=>Nat.blt x lo&&!(Nat.beq x t)
def JY(P:Program)(fn:Func)(pl:cK)(lo gd:Nat):Nat->Code->Nat->Bool
 |0,.seq (.region _ ops draw) b,i=> !draw&&(lk pl.js i).isNone&&
  (match JO ops.toList with
  |some (t,g,_)=>Nat.blt t fn.ntmps&&Nat.beq g gd&&fn.results.toList.all (aCG lo t)&&chk P fn.ntmps pl [] lo b (i+2)
  |none=>false)
 |k+1,.seq a b,i=>(lk pl.js i).isNone&&chk P fn.ntmps pl [] 0 a (i+1)&&JY P fn pl lo gd k b (i+1+tU a)
 |_,_,_=>false
theorem QH{agg:Bool}{x:Value}{K K':Value->Prop}(hk:∀v,K v->K' v)(h:ldW agg n x w K):ldW agg n x w K':=by
 cases x with
 |pointer a=>
  cases a with
  |none=>exact h
  |some a=>
   cases agg with
   |true=>obtain⟨l,h1,h2⟩:=h;exact⟨l,h1,hk _ h2⟩
   |false=>obtain⟨l,h1,h2⟩:=h;exact⟨l,h1,hk _ h2⟩
 |_=>exact h
theorem Bp{f f':Fr}{w:World}:∀{l:List ResultVar} {K:List Value->Prop},(∀t,(∃r∈l,r=.tmp t\/∃T,r=.cell t T)->f t=f' t)->Cw P l f w K->Cw P l f' w K
 |[],_,_,h=>h
 |r::l,K,h,hk=>by
  have hl:∀t,(∃r∈l,r=.tmp t\/∃T,r=.cell t T)->f t=f' t:=λt ⟨r',hr,e⟩=>h t ⟨r',aU _ hr,e⟩
  cases r with
  |tmp t=>simp only[Cw]at hk⊢;rw[<-h t ⟨_,bD,.inl rfl⟩];exact Bp hl hk
  |cell t T=>
   simp only[Cw]at hk⊢
   rw[<-h t ⟨_,bD,.inr ⟨T,rfl⟩⟩]
   obtain⟨h1,h2⟩:=kS.out hk
   rw[h1]
   exact QH (λv hv=>Bp hl hv) h2
theorem yB{fn:Func}{R:Ending->World->Prop}{g:FuncId}{caps:List Value}{u:FrameMode}{f:Fr}{a:Act}(hr:∀(ar:Array Value) (w:World),(callFunc g ar).run P w=.ok (.enter g ar) w)(hu:u≠.run)
  (ha:∀t,(∃r∈fn.results.toList,r=.tmp t\/∃T,r=.cell t T)->f t=a.tmps.getD t undef)(h:xD P g caps u w λw''=>NB P fn R f w''):
  Leaves P fn a.tmps R [{target:=.fn (.func g) caps.toArray,args:=#[]}] u w:=by
 refine leaves_cons (f:=g) (args:=caps.toArray) hu ?_ (h.mono ?_)
 ·have:=hr (#[]++caps.toArray) w;rw[show(#[]++caps.toArray:Array Value)=caps.toArray from by simp]at this;show(callFunc g (#[]++caps.toArray)).run P w=_;rw[show(#[]++caps.toArray:Array Value)=caps.toArray from by simp];exact this
 ·rintro e u' w' ⟨⟨v,rfl⟩,hs,hk⟩;show Leaves P fn a.tmps R [] (settle u') w';rw[hs];have hag:Ag a.tmps.size a.defers (λt=>a.tmps.getD t undef) a:=⟨rfl,rfl,λ_=>rfl⟩;letI:=noX;obtain⟨v',hk',hr'⟩:=tR (fn:=fn) (K:=λv=>R (.returned v) w') hag (Bp ha hk);exact⟨v',hr',hk'⟩
theorem LK{l:List Oper}{t:Nat}{g:FuncId}{caps:List Operand}(h:JO l=some (t,g,caps)):∃o1 o2 first cp c,l=[o1,o2]/\o1.guard=none/\o2.guard=none/\o1.dst=some t/\o1.op=.makeFunc (.func g) first cp/\first=#[]/\cp.toList=caps/\o2.dst=none/\o2.op=.defer c/\c.callee=.value (.tmp t)/\c.args=#[]:=by
 unfold JO at h;split at h
 ·rename_i o1 o2;split at h
  ·rename_i t' g' first cp c e1 e2 e3 e4 e5 e6
   split at h
   ·rename_i t'' h1 h2 h3;cases hb:Nat.beq t' t'' with
    |false=>rw[hb]at h;cases h
    |true=>
     rw[hb]at h;simp only[aN,bE,fZ]at h;obtain⟨rfl,rfl,rfl⟩:=h;have:t'=t'':=gY hb;subst this;exact⟨o1,o2,first,cp,c,rfl,e1,e2,e3,e4,by simpa using h1,rfl,e5,e6,h2,by simpa using h3⟩
   ·cases h
  ·cases h
 ·cases h
theorem JU(hm:P.follows .mixedOrders=true){pl:cK}{fn:Func}{R:Ending->World->Prop}{lo gd:Nat}(hr:∀(ar:Array Value) (w:World),(callFunc gd ar).run P w=.ok (.enter gd ar) w):
  ∀(k:Nat) (c:Code) (i:Nat) (f:Fr) (a:Act) (w:World),JY P fn pl lo gd k c i=true->Ag fn.ntmps [] f a->JW P pl fn R k c i f w->c.wp P (bodyPostD P fn R) a w:=by
 intro k;induction k with
 |zero=>
  intro c i f a w hc hag h;cases c with
  |seq x b=>
   cases x with
   |region id ops draw=>
    simp only[JW]at h;simp only[JY,aL,dQ]at hc;obtain⟨⟨hdr,hl⟩,hc⟩:=hc;cases hd:JO ops.toList with
    |none=>simp only[hd]at h
    |some x=>
     obtain⟨t,g,caps⟩:=x;simp only[hd,aL]at h hc;obtain⟨⟨⟨ht,hg⟩,hres⟩,hchk⟩:=hc;obtain rfl:g=gd:=gY hg;obtain⟨o1,o2,first,cp,cl,hops,g1,g2,d1,p1,rfl,rfl,d2,p2,hcl,hca⟩:=LK hd;subst hdr;refine wp_seq (wp_region_list ?_);have hops':ops=[o1,o2].toArray:=by rw[<-hops]
     subst hops';have htn:t<fn.ntmps:=by simpa using ht
     have hv:(cp.toList.map (ev f)).toArray=cp.map a.eval:=by
      rw[xZ hag];apply xE;simp
     show wpList P [o1,o2].toArray _ [o1,o2] a w;letI:=noX;refine Hb (K:=λv w'=>v=.func (.func g) #[] (cp.toList.map (ev f)).toArray/\w'=w) hag (by simp[kJ,g1]) ?_ ?_ (λ_ _ h=>h.elim)
     ·unfold HV;rw[p1];exact⟨rfl,rfl⟩
     ·rintro v w' ⟨rfl,rfl⟩;have hag1:=hag.put (d:=some t) (λx hx=>by cases hx;exact htn) (.func (.func g) #[] (cp.toList.map (ev f)).toArray);rw[d1];unfold wpList;rw[aJ (by rw[Ay hag1];simp[kJ,g2])];refine .inl ?_;unfold Oper.wp;have hex:(execOp (a.put (some t) (.func (.func g) #[] (cp.toList.map (ev f)).toArray)).eval o2).run P w'=.ok (.defer {target:=.fn (.func g) (cp.toList.map (ev f)).toArray,args:=#[]}) w':=by
       rw[xZ hag1];unfold execOp;rw[p2];have e:ev (upd f (some t) (.func (.func g) #[] (cp.toList.map (ev f)).toArray)) (.tmp t)=.func (.func g) #[] (cp.toList.map (ev f)).toArray:=by
        simp[ev,nM]
       simp[resolve,hcl,hca,Deferred.ofValue,run_bind,run_pure,e]
      rw[hex,Oper.upon_defer,d2];clear hex;have hag2:Ag fn.ntmps [{target:=.fn (.func g) (cp.toList.map (ev f)).toArray,args:=#[]}] (upd f (some t) (.func (.func g) #[] (cp.toList.map (ev f)).toArray)) ({(a.put (some t) (.func (.func g) #[] (cp.toList.map (ev f)).toArray))with defers:={target:=.fn (.func g) (cp.toList.map (ev f)).toArray,args:=#[]}::(a.put (some t) (.func (.func g) #[] (cp.toList.map (ev f)).toArray)).defers}.put none undef):=by
       refine⟨?_,hag1.2.1,hag1.2.2⟩;show _::(a.put _ _).defers=_;rw[hag1.1]
      generalize ({(a.put (some t) (.func (.func g) #[] (cp.toList.map (ev f)).toArray))with defers:={target:=.fn (.func g) (cp.toList.map (ev f)).toArray,args:=#[]}::(a.put (some t) (.func (.func g) #[] (cp.toList.map (ev f)).toArray)).defers}.put none undef)=a2 at hag2⊢;show b.wp P (bodyPostD P fn R) a2 w';refine@uE ⟨λch w'=>xD P g (cp.toList.map (ev f)) (.panicking ch) w' λw''=>NB P fn R f w''⟩ P fn.ntmps [{target:=.fn (.func g) (cp.toList.map (ev f)).toArray,args:=#[]}] pl hm b [] lo (i+2) _ a2 w' _ _ _ _ hchk hag2 h (λf' a' w' hag' _ hk=>?_) (λ_ _ _ _ _ _ hk=>hk.elim) (λf' a' w' hag' _ hk=>?_) (λch a' w' hd ht hx=>?_)
      ·show Leaves P fn a'.tmps R a'.defers .returning w';rw[hag'.1];exact yB hr (by simp) (λt _=>(hag'.2.2 t).symm) hk
      ·show Leaves P fn a'.tmps R a'.defers .returning w';rw[hag'.1];exact yB hr (by simp) (λt _=>(hag'.2.2 t).symm) hk
      ·show Leaves P fn a'.tmps R a'.defers (.panicking ch) w';rw[hd];refine yB (f:=f) hr (by simp) (λx hx'=>?_) hx;have hin:x<lo/\x≠t:=by
        obtain⟨r,hrm,hr'⟩:=hx';have:=bW.1 hres r hrm;have h2:(Nat.blt x lo&&!(Nat.beq x t))=true:=by
         rcases hr' with rfl|⟨T,rfl⟩
         ·exact this
         ·exact this
        simp only[aL,dQ]at h2;refine⟨by simpa using h2.1,λe=>?_⟩;rw[e]at h2;have h3:=h2.2;rw[Nat.beq_refl]at h3;cases h3
       have hlt:Nat.ble lo x=false:=by
        cases hb:Nat.ble lo x with
        |false=>rfl
        |true=>exact absurd (cO hin.1 (iZ hb)) (Nat.lt_irrefl _)
       rw[ht x (by unfold inS;rw[hlt];rfl)];simp[nM,hin.2]
   |_=>simp[JY]at hc
  |_=>simp[JY]at hc
 |succ k ih=>
  intro c i f a w hc hag h;cases c with
  |seq x y=>
   simp only[JW]at h;simp only[JY,aL]at hc;obtain⟨⟨hl,hc1⟩,hc2⟩:=hc;refine wp_seq ?_;letI:HX:=⟨λch w'=>R (.panicked ch) w'⟩;refine uE hm x [] 0 (i+1) f a w _ _ _ _ hc1 hag h (λf' a' w' hag' _ h'=>ih y _ f' a' w' hc2 hag' h') (λ_ _ _ _ _ _ hk=>hk.elim) (λf' a' w' hag' _ hk=>?_) (λch a' w' hd _ hx=>?_)
   ·show Leaves P fn a'.tmps R a'.defers .returning w';rw[hag'.1];obtain⟨v',hk',hr'⟩:=tR (fn:=fn) (K:=λv=>R (.returned v) w') hag' hk;exact⟨v',hr',hk'⟩
   ·show Leaves P fn a'.tmps R a'.defers (.panicking ch) w';rw[hd];exact hx
  |_=>simp[JY]at hc
def Rb(P:Program)(fn:Func)(pl:cK)(k:Nat)(args:List Value)(w:World)(R:Ending->World->Prop):Prop:=
 match fn.body with
 |some c=>JW P pl fn R k c 0 (fr0 args) w
 |none=>False
def AY(P:Program)(fn:Func)(pl:cK)(lo gd k na:Nat):Bool:=
 match fn.body with
 |some c=>Nat.ble na fn.ntmps&&JY P fn pl lo gd k c 0
 |none=>false
theorem JK{nt:Nat}{args:List Value}(hle:args.length<=nt):Ag nt [] (fr0 args) {tmps:=args.toArray++Array.replicate (nt-args.toArray.size) undef,defers:=[]}:=by
 refine⟨rfl,by simp;omega,λt=>?_⟩;simp only[iB,Array.getElem?_append,jX,List.getElem?_toArray,Array.getElem?_replicate,fr0,List.getD_eq_getElem?_getD];split
 ·rfl
 ·rename_i hlt;rw[List.getElem?_eq_none (by omega)];split<;>rfl
theorem LA{g:FuncId}{fn:Func}{pl:cK}{args:List Value}{R:Ending->World->Prop}{lo gd k:Nat}(hm:P.follows .mixedOrders=true)(hf:P.funcs[g]?=some fn)(hr:∀(ar:Array Value) (w:World),(callFunc gd ar).run P w=.ok (.enter gd ar) w)
  (hc:AY P fn pl lo gd k args.length=true)(h:Rb P fn pl k args w R):Calls P g args.toArray w R:=by
 unfold Rb at h;unfold AY at hc;cases hb:fn.body with
 |none=>rw[hb]at h;exact h.elim
 |some c=>
  rw[hb]at h hc;simp only[aL]at hc;exact calls_of_wp_defers hf hb (JU hm hr k c 0 _ _ w hc.2 (JK (iZ hc.1)) h)
theorem aCC[HX](P:Program)(g:FuncId)(fn:Func)(pl:cK)(args:List Value)(w:World)(K:Value->World->Prop)(lo gd k na:Nat)(X:Prop)(hk:args.length=na)(hm:P.follows .mixedOrders=true)(hf:P.funcs[g]?=some fn)
  (hc:AY P fn pl lo gd k na=true)(he:Rb P fn pl k args w (ES K)=X)(hr:∀(az:Array Value) (w:World),(callFunc g az).run P w=.ok (.enter g az) w)(hrd:∀(ar:Array Value) (w:World),(callFunc gd ar).run P w=.ok (.enter gd ar) w)(h:X):aC P g args w K:=by
 unfold aC;rw[hr];exact LA hm hf hrd (by rw[hk];exact hc) (by rw[he];exact h)
end
section
variable{P:Program}
def IG:List Oper->Option (Nat×Nat)
 |[o1,o2]=>
  match o1.guard,o2.guard,o1.dst,o1.op,o2.dst,o2.op with
  |none,none,some t,.call c,some t2,.assign (.tmp t')=>
   match c.callee,c.args.toList with
   |.builtin .recover,[]=>bif Nat.beq t t' then some (t,t2)else none
   |_,_=>none
  |_,_,_,_,_,_=>none
 |_=>none
theorem KS{l:List Oper}{t t2:Nat}(h:IG l=some (t,t2)):∃o1 o2 c,l=[o1,o2]/\o1.guard=none/\o2.guard=none/\o1.dst=some t/\o1.op=.call c/\o2.dst=some t2/\o2.op=.assign (.tmp t)/\c.callee=.builtin .recover/\c.args=#[]:=by
 unfold IG at h;split at h
 ·rename_i o1 o2;split at h
  ·rename_i t0 c t2' t' e1 e2 e3 e4 e5 e6;split at h
   ·rename_i h1 h2;cases hb:Nat.beq t0 t' with
    |false=>rw[hb]at h;cases h
    |true=>
     rw[hb]at h;simp only[aN,bE,fZ]at h;obtain⟨rfl,rfl⟩:=h;have:t0=t':=gY hb;subst this;exact⟨o1,o2,c,rfl,e1,e2,e3,e4,e5,e6,h1,by simpa using h2⟩
   ·cases h
  ·cases h
 ·cases h
def Vt(P:Program)(fn:Func)(pl:cK)(args:List Value)(x:Value)(w:World)(K:World->Prop):Prop:=
 match fn.body with
 |some (.seq (.region _ ops _) b)=>
  match IG ops.toList with
  |some (t,t2)=>@oM noX P pl b 2 (upd (upd (fr0 args) (some t) x) (some t2) x) w (λ_ w'=>K w') (λ_ _ _=>False) (λ_ w'=>K w')
  |none=>False
 |_=>False
def CP(P:Program)(fn:Func)(pl:cK)(na:Nat):Bool:=
 match fn.body with
 |some (.seq (.region _ ops draw) b)=> !draw&&Nat.ble na fn.ntmps&&fn.results.toList.isEmpty&&
  (match IG ops.toList with
  |some (t,t2)=>Nat.blt t fn.ntmps&&Nat.blt t2 fn.ntmps&&chk P fn.ntmps pl [] 0 b 2
  |none=>false)
 |_=>false
inductive Finds:FrameMode->Value->Prop
 |idle:Finds .returning .nilIface
 |thrown (v:Value):Finds (.panicking [{v,recovered:=false}]) v
theorem Ee{g:FuncId}{fn:Func}{pl:cK}{args:List Value}{x:Value}{u:FrameMode}{K:World->Prop}(hm:P.follows .mixedOrders=true)(hf:P.funcs[g]?=some fn)(hc:CP P fn pl args.length=true)
  (hu:Finds u x)(h:Vt P fn pl args x w K):xD P g args u w K:=by
 unfold Vt at h;unfold CP at hc;split at h
 ·rename_i id ops draw b hb;rw[hb]at hc;simp only[aL,dQ]at hc;obtain⟨⟨⟨hd,hle⟩,hres⟩,hc⟩:=hc;subst hd;cases ho:IG ops.toList with
  |none=>simp only[ho]at h
  |some y=>
   obtain⟨t,t2⟩:=y;simp only[ho,aL]at h hc;obtain⟨⟨ht,ht2⟩,hchk⟩:=hc;obtain⟨o1,o2,c,hops,g1,g2,d1,p1,d2,p2,hcl,hca⟩:=KS ho;have hops':ops=#[o1,o2]:=by
    apply xE;rw[hops]
   subst hops';letI:=noX;have hr0:∀tmps w,(results fn tmps).run P w=.ok (.tuple #[]) w:=by
    intro tmps w;have h1:fn.results.toList=[]:=by simpa using hres
    obtain⟨v,hv,hr⟩:=tR (P:=P) (fn:=fn) (n:=tmps.size) (D:=[]) (f:=λt=>tmps.getD t undef) (a:={tmps:=tmps,defers:=[]}) (w:=w) (K:=λv=>v=.tuple #[]) ⟨rfl,rfl,λ_=>rfl⟩ (by rw[h1];rfl);rw[hr,hv]
   have hag:=JK (nt:=fn.ntmps) (args:=args) (iZ hle);have ht:t<fn.ntmps:=by simpa using ht
   have ht2:t2<fn.ntmps:=by simpa using ht2
   refine callsD_of_wpS hf hb λc₀ cs hmode=>?_;generalize ({tmps:=args.toArray++Array.replicate (fn.ntmps-args.toArray.size) undef,defers:=[]}:Act)=a0 at hag⊢;have hag1:=hag.put (d:=some t) (λy hy=>by cases hy;exact ht) x;have hag2:=hag1.put (d:=some t2) (λy hy=>by cases hy;exact ht2) x;have w1:Region.wanted o1 (yielded #[o1,o2] a0.tmps)=true:=by
    have:=Ay (ops:=[o1,o2]) (o:=o1) hag;rw[show([o1,o2]:List Oper).toArray=#[o1,o2]from rfl]at this;rw[this];simp[kJ,g1]
   have w2:Region.wanted o2 (yielded #[o1,o2] (a0.put (some t) x).tmps)=true:=by
    have:=Ay (ops:=[o1,o2]) (o:=o2) hag1;rw[show([o1,o2]:List Oper).toArray=#[o1,o2]from rfl]at this;rw[this];simp[kJ,g2]
   have e1:(execOp a0.eval o1).run P w=.ok .recover w:=by
    unfold execOp;rw[p1];simp[resolve,hcl,hca,invoke,builtin,run_bind,run_pure]
   have e2:(execOp (a0.put (some t) x).eval o2).run P w=.ok (.value x) w:=by
    rw[xZ hag1];unfold execOp;rw[p2];have e:ev (upd (fr0 args) (some t) x) (.tmp t)=x:=by simp[ev,nM]
    simp[run_pure,e]
   have rest:∀u':FrameMode,settle u'=.returning->b.wpS P (bodyPostS P fn c₀ cs λe u' w'=>(∃v,e=.returned v)/\settle u'=.returning/\K w') ((a0.put (some t) x).put (some t2) x) ({c₀ with mode:=u'}::cs) w:=by
    intro u' hs;refine wpS_of_wp ?_;refine@uE noX P fn.ntmps [] pl hm b [] 0 2 _ _ w _ _ _ _ hchk hag2 h (λf' a' w' hag' _ hk=>?_) (λ_ _ _ _ _ _ hk=>hk.elim) (λf' a' w' hag' _ hk=>?_) (λch a' w' hd ht hx=>hx.elim)
    ·exact⟨hag'.1,u',rfl,_,hr0 _ _,⟨_,rfl⟩,hs,hk⟩
    ·exact⟨hag'.1,u',rfl,_,hr0 _ _,⟨_,rfl⟩,hs,hk⟩
   refine wpS_seq (wpS_region ?_);show wpOpsS P #[o1,o2] _ [0,1] a0 (c₀::cs) w;have tail:∀c1:Frame,b.wpS P (bodyPostS P fn c₀ cs λe u' w'=>(∃v,e=.returned v)/\settle u'=.returning/\K w') ((a0.put (some t) x).put (some t2) x) (c1::cs) w->
     wpOpsS P #[o1,o2] (Exit.thenS (b.wpS P (bodyPostS P fn c₀ cs λe u' w'=>(∃v,e=.returned v)/\settle u'=.returning/\K w')) (bodyPostS P fn c₀ cs λe u' w'=>(∃v,e=.returned v)/\settle u'=.returning/\K w')) [1] (a0.put (some t) x) (c1::cs) w:=by
    intro c1 hb1;unfold wpOpsS;rw[show(#[o1,o2]:Array Oper)[1]?=some o2 from rfl];show ite (Region.wanted o2 (yielded #[o1,o2] (a0.put (some t) x).tmps)=true) _ _;rw[aJ w2,e2];simp only[Oper.upon_value,d2];exact hb1
   unfold wpOpsS;rw[show(#[o1,o2]:Array Oper)[0]?=some o1 from rfl];show ite (Region.wanted o1 (yielded #[o1,o2] a0.tmps)=true) _ _;rw[aJ w1,e1];cases hu with
   |idle=>
    have:recoverD (c₀::cs)=none:=by simp[recoverD,hmode]
    simp only[this,d1];have e:({c₀ with mode:=.returning}:Frame)=c₀:=by rw[<-hmode]
    have:=rest .returning rfl;rw[e]at this;exact tail c₀ this
   |thrown=>
    have:recoverD (c₀::cs)=some (x,{c₀ with mode:=.panicking [{v:=x,recovered:=true}]}::cs):=by simp[recoverD,hmode]
    simp only[this,d1];exact tail _ (rest (.panicking [{v:=x,recovered:=true}]) rfl)
 ·exact h.elim
end
end
end Go.Eng
namespace Go.Proofs.YtghhmpppnmoeoaaGreatDoor
section
open Go Go.Eng
variable{w:World}{K:Value->World->Prop}{cs:List Value}{G:Nat->Prop}{T:TypeId}{i:Nat}{n:Nat}{v:Value}{w':World}{P:Program}{c:UInt8}{S:Nat->Prop}{v0 v1 v2 v3 v4 v5:Value}
abbrev _root_.Q0:=Value->World->Prop
noncomputable abbrev _root_.P0:=Tryz.prog
abbrev _root_.sN:Value:=.slice none 0 0
abbrev _root_.zL0:List Value:=[(i64 0),(.bool false),(str []),sN,sN]
abbrev _root_.zL1:List Value:=[(i64 0),(str []),(i64 0)]
abbrev _root_.zL2:List Value:=[(.bool false),sN]
abbrev _root_.zL3:List Value:=[(i64 0)]
abbrev _root_.zL4:List Value:=[(i64 0),(str []),sN,sN,(i64 0)]
variable [HX]
def aAz:cK:={js:=[(60,⟨[9],[9],12⟩),(62004,⟨[73],[],71⟩),(54,⟨[9,11],[9],11⟩),(44005,⟨[51],[],48⟩),(36,⟨[6,7],[],1⟩),(25006,⟨[30],[],26⟩),(14,⟨[],[2,3,4,5],19⟩)],ds:=[]}
def W26(v0:Value)(w:World)(K:Q0):=iM v0 λt13=>aP .gtr t13 (i64 16384) λt14=>aR t14 (dI [(i64 0),(str []),(i64 0)] [(0,1,(i64 3))] λc1=>eL 53 (.agg c1.toArray) w λt16 w2=>K (.tuple #[sN,t16]) w2) (dF P0 (Instr.range 9 v0) w λt18 w3=>cZ [] w3 λs4 _ w5 L4=>dF P0 (Instr.next t18 true 0) w5 λt19 w6=>dK 0 t19 λt20=>aR t20 (dK 1 t19 λt21=>dK 2 t19 λt22=>aP .eql t22 (.int .i32 65533) λt24=>GdW (isB t24 true) [undef] w6 (λJ7=>mW v0 (some t21) none λt28=>aC P0 43 [t28,(str [239,191,189])] w6 λt29 w8=>unW .not t29 λt30=>J7 [t30] w8) λs7 _ w9=>cR t24 (s7.getD 0 undef) (.bool false) λt31=>aR t31 (dI [(i64 0),(str []),(i64 0)] [(0,1,(i64 31)),(2,1,t21)] λc10=>eL 53 (.agg c10.toArray) w9 λt34 w11=>K (.tuple #[sN,t34]) w11) (L4 [] w9)) (cZ [sN,(i64 0)] w6 λs12 _ w13 L12=>mW v0 (some (s12.getD 1 undef)) none λt38=>aC P0 44 [t38] w13 λt39 w14=>dK 0 t39 λt40=>dK 1 t39 λt41=>aP .add (s12.getD 1 undef) t40 λt44=>aP .eql t41 (i64 0) λt46=>GdW (isB t46 true) [undef] w14 (λJ15=>iM v0 λt50=>aP .eql t44 t50 λt51=>J15 [t51] w14) λs15 _ w16=>cR t46 (s15.getD 0 undef) (.bool false) λt52=>aR t52 (dI [(i64 0),(str []),(i64 0)] [(2,1,t44)] λc17=>dJ 73 1 [(i64 0),(str []),(i64 0)] [(0,3,(.agg c17.toArray))] w16 λt56 w18=>dF P0 (Builtin.append_ #[64,64] 64 #[(s12.getD 0 undef),t56]) w18 λt57 w19=>K (.tuple #[t57,(.pointer none)]) w19) (bN 73 zL1 w16 λt10 w20=>bS (λJ21=>aP .eql t41 (i64 0) λt59=>aR t59 (mW v0 (some t44) none λt63=>aC P0 45 [t63] w20 λt64 w22=>dK 0 t64 λt65=>dK 1 t64 λt66=>dK 2 t64 λt67=>stW 3 t10 t65 w22 λw23=>J21 [t67,t66] w23) (J21 [t41,(i64 0)] w20)) λs21 _ w24=>bS (λJ25=>aP .eql (s21.getD 0 undef) (i64 0) λt69=>GdW (isB t69 true) [undef] w24 (λJ26=>cY (s12.getD 0 undef) λt72=>aP .eql t72 (i64 4096) λt73=>J26 [t73] w24) λs26 _ w27=>cR t69 (s26.getD 0 undef) (.bool false) λt74=>aR t74 (J25 [(i64 3)] w27) (J25 [(s21.getD 0 undef)] w27)) λs25 _ w28=>aP .neq (s25.getD 0 undef) (i64 0) λt76=>aR t76 (dI [(i64 0),(str []),(i64 0)] [(0,1,(s25.getD 0 undef)),(2,1,t44)] λc29=>eL 53 (.agg c29.toArray) w28 λt80 w30=>K (.tuple #[sN,t80]) w30) (aZ 2 t10 λt82=>stW 1 t82 t44 w28 λw31=>ldW true 3 t10 w31 λt84=>dJ 73 1 [(i64 0),(str []),(i64 0)] [(0,3,t84)] w31 λt85 w32=>dF P0 (Builtin.append_ #[64,64] 64 #[(s12.getD 0 undef),t85]) w32 λt86 w33=>aP .add t44 (s21.getD 1 undef) λt89=>L12 [t86,t89] w33))))
theorem aCa{K:Q0}(h:W26 v0 w K):aC P0 26 [v0] w K:=
 tie _ 26 Tryz.f26 aAz _ w K 1 _ rfl mixed Tryz.func26 (by kernel_rfl) (by kernel_rfl) Tryz.call26 h
def aAq:cK:={js:=[(21,⟨[23],[],6⟩),(6,⟨[4],[],1⟩)],ds:=[]}
def W44(v0:Value)(w:World)(K:Q0):=cZ [(i64 0)] w λs1 _ w2 L1=>iM v0 λt9=>aP .lss (s1.getD 0 undef) t9 λt10=>aR t10 (mW v0 (some (s1.getD 0 undef)) none λt13=>pI v0 (s1.getD 0 undef) λt18=>aC P0 68 [(str [32,9,13]),t18] w2 λt19 w3=>aP .geq t19 (i64 0) λt20=>aR t20 (aP .add (s1.getD 0 undef) (i64 1) λt22=>L1 [t22] w3) (bS (λJ4=>pI v0 (s1.getD 0 undef) λt26=>aP .eql t26 (.int .u8 35) λt27=>aR t27 (J4 [t27] w3) (aC P0 43 [t13,(str [47,47])] w3 λt29 w5=>J4 [t29] w5)) λs4 _ w6=>aR (s4.getD 0 undef) (aC P0 69 [t13,(.func (.func 70) #[] #[])] w6 λt32 w7=>aP .add (s1.getD 0 undef) t32 λt33=>L1 [t33] w7) (aC P0 43 [t13,(str [47,42])] w6 λt36 w8=>aR t36 (mW t13 (some (i64 2)) none λt38=>aC P0 71 [t38,(str [42,47])] w8 λt39 w9=>aP .lss t39 (i64 0) λt41=>aR t41 (K (.tuple #[(s1.getD 0 undef),(i64 40)]) w9) (aP .add t39 (i64 4) λt45=>aP .add (s1.getD 0 undef) t45 λt46=>L1 [t46] w9)) (K (.tuple #[(s1.getD 0 undef),(i64 0)]) w8)))) (K (.tuple #[(s1.getD 0 undef),(i64 0)]) w2)
theorem aB1{K:Q0}(h:W44 v0 w K):aC P0 44 [v0] w K:=
 tie _ 44 Tryz.f44 aAq _ w K 1 _ rfl mixed Tryz.func44 (by kernel_rfl) (by kernel_rfl) Tryz.call44 h
def aAp:cK:={js:=[(8,⟨[6,7],[3,4],6⟩),(38,⟨[43],[],8⟩),(43004,⟨[58],[],57⟩),(40006,⟨[52],[],49⟩)],ds:=[]}
def W45(v0:Value)(w:World)(K:Q0):=bN 73 zL1 w λt2 w1=>bN 73 zL1 w1 λt5 w2=>bS (λJ3=>pI v0 (i64 0) λt10=>aP .eql t10 (.int .u8 10) λt21=>aR t21 (dI [(i64 0),(str []),(i64 0)] [(0,1,(i64 5)),(1,1,(str [10]))] λc4=>stW 3 t2 (.agg c4.toArray) w2 λw5=>ldW true 3 t2 w5 λr6=>K (.tuple #[r6,(i64 1),(i64 0)]) w5) (aC P0 72 [t10] w2 λt25 w7=>aR t25 (aC P0 69 [v0,(.func (.func 73) #[] #[])] w7 λt27 w8=>mW v0 none (some t27) λt30=>dI [(i64 0),(str []),(i64 0)] [(0,1,(i64 1)),(1,1,t30)] λc9=>stW 3 t5 (.agg c9.toArray) w8 λw10=>aP .gtr t27 (i64 32) λt33=>aR t33 (J3 [(i64 3),t27] w10) (J3 [(i64 0),t27] w10)) (aC P0 74 [t10] w7 λt36 w11=>aR t36 (aC P0 69 [v0,(.func (.func 74) #[] #[])] w11 λt38 w12=>mW v0 none (some t38) λt41=>dI [(i64 0),(str []),(i64 0)] [(0,1,(i64 2)),(1,1,t41)] λc13=>stW 3 t5 (.agg c13.toArray) w12 λw14=>bS (λJ15=>iM v0 λt46=>aP .lss t38 t46 λt47=>GdW (isB t47 true) [undef] w14 (λJ16=>pI v0 t38 λt51=>aC P0 72 [t51] w14 λt52 w17=>J16 [t52] w17) λs16 _ w18=>cR t47 (s16.getD 0 undef) (.bool false) λt53=>aR t53 (J15 [t53] w18) (aP .eql t10 (.int .u8 48) λt55=>GdW (isB t55 true) [undef] w18 (λJ19=>aP .gtr t38 (i64 1) λt58=>J19 [t58] w18) λs19 _ w20=>cR t55 (s19.getD 0 undef) (.bool false) λt59=>J15 [t59] w20)) λs15 _ w21=>aR (s15.getD 0 undef) (J3 [(i64 40),t38] w21) (aZ 1 t5 λt61=>ldW false 1 t61 w21 λt62=>aC P0 75 [t62] w21 λt63 w22=>unW .not t63 λt64=>aR t64 (J3 [(i64 3),t38] w22) (J3 [(i64 0),t38] w22))) (aP .eql t10 (.int .u8 34) λt67=>aR t67 (aC P0 76 [v0,(i64 0)] w11 λt70 w23=>dK 0 t70 λt71=>dK 1 t70 λt72=>aP .eql t72 (i64 0) λt74=>aR t74 (aP .sub t71 (i64 1) λt77=>mW v0 (some (i64 1)) (some t77) λt78=>dI [(i64 0),(str []),(i64 0)] [(0,1,(i64 3)),(1,1,t78)] λc24=>stW 3 t5 (.agg c24.toArray) w23 λw25=>J3 [t72,t71] w25) (J3 [t72,t71] w23)) (aC P0 43 [v0,(str [60,60])] w11 λt82 w26=>aR t82 (aZ 0 t5 λt83=>stW 1 t83 (i64 3) w26 λw27=>aC P0 77 [v0] w27 λt86 w28=>dK 0 t86 λt87=>dK 1 t86 λt88=>dK 2 t86 λt89=>aZ 1 t5 λt90=>stW 1 t90 t87 w28 λw29=>J3 [t89,t88] w29) (aC P0 78 [v0] w26 λt12 w30=>dI [(i64 0),(str []),(i64 0)] [(0,1,(i64 4)),(1,1,t12)] λc31=>stW 3 t5 (.agg c31.toArray) w30 λw32=>aZ 1 t5 λt14=>ldW false 1 t14 w32 λt15=>iM t15 λt16=>aP .eql t16 (i64 0) λt18=>aR t18 (J3 [(i64 40),t16] w32) (J3 [(i64 0),t16] w32))))))) λs3 _ w33=>ldW true 3 t5 w33 λt91=>stW 3 t2 t91 w33 λw34=>ldW true 3 t2 w34 λr35=>K (.tuple #[r35,(s3.getD 1 undef),(s3.getD 0 undef)]) w34
theorem aB0{K:Q0}(h:W45 v0 w K):aC P0 45 [v0] w K:=
 tie _ 45 Tryz.f45 aAp _ w K 1 _ rfl mixed Tryz.func45 (by kernel_rfl) (by kernel_rfl) Tryz.call45 h
def ZY:cK:={js:=[(6,⟨[8],[4,5],8⟩)],ds:=[]}
def W69(v0 v1:Value)(w:World)(K:Q0):=iM v0 λt7=>cZ [(i64 0)] w λs1 _ w2 L1=>aP .lss (s1.getD 0 undef) t7 λt9=>aR t9 (pI v0 (s1.getD 0 undef) λt14=>oN P0 v1 [t14] w2 λt15 w3=>unW .not t15 λt16=>aR t16 (K (s1.getD 0 undef) w3) (aP .add (s1.getD 0 undef) (i64 1) λt18=>L1 [t18] w3)) (iM v0 λt20=>K t20 w2)
theorem aBJ{K:Q0}(h:W69 v0 v1 w K):aC P0 69 [v0,v1] w K:=
 tie _ 69 Tryz.f69 ZY _ w K 2 _ rfl mixed Tryz.func69 (by kernel_rfl) (by kernel_rfl) Tryz.call69 h
def ZX:cK:={js:=[],ds:=[]}
def W70(v0:Value)(w:World)(K:Q0):=aP .neq v0 (.int .u8 10) λt4=>K t4 w
theorem aBI{K:Q0}(h:W70 v0 w K):aC P0 70 [v0] w K:=
 tie _ 70 Tryz.f70 ZX _ w K 1 _ rfl mixed Tryz.func70 (by kernel_rfl) (by kernel_rfl) Tryz.call70 h
def ZW:cK:={js:=[(3004,⟨[19],[],18⟩),(3007,⟨[15],[],10⟩),(3009,⟨[14],[],13⟩),(3012,⟨[12],[],10⟩),(3016,⟨[7],[],6⟩)],ds:=[]}
def W72(v0:Value)(w:World)(K:Q0):=aP .geq v0 (.int .u8 97) λt4=>GdW (isB t4 true) [undef] w (λJ1=>aP .leq v0 (.int .u8 122) λt7=>J1 [t7] w) λs1 _ w2=>cR t4 (s1.getD 0 undef) (.bool false) λt8=>GdW (isB t8 false) [undef] w2 (λJ3=>aP .geq v0 (.int .u8 65) λt11=>J3 [t11] w2) λs3 _ w4=>GdW (isB (s3.getD 0 undef) true) [undef] w4 (λJ5=>aP .leq v0 (.int .u8 90) λt14=>J5 [t14] w4) λs5 _ w6=>GdW (isB t8 false) [undef] w6 (λJ7=>cR (s3.getD 0 undef) (s5.getD 0 undef) (.bool false) λt15=>J7 [t15] w6) λs7 _ w8=>cR t8 (.bool true) (s7.getD 0 undef) λt16=>GdW (isB t16 false) [undef] w8 (λJ9=>aP .eql v0 (.int .u8 95) λt19=>J9 [t19] w8) λs9 _ w10=>cR t16 (.bool true) (s9.getD 0 undef) λt20=>K t20 w10
theorem aBH{K:Q0}(h:W72 v0 w K):aC P0 72 [v0] w K:=
 tie _ 72 Tryz.f72 ZW _ w K 1 _ rfl mixed Tryz.func72 (by kernel_rfl) (by kernel_rfl) Tryz.call72 h
def ZV:cK:={js:=[(3004,⟨[11],[],10⟩),(3008,⟨[7],[],6⟩)],ds:=[]}
def W73(v0:Value)(w:World)(K:Q0):=aC P0 72 [v0] w λt4 w1=>GdW (isB t4 false) [undef] w1 (λJ2=>aC P0 74 [v0] w1 λt7 w3=>J2 [t7] w3) λs2 _ w4=>cR t4 (.bool true) (s2.getD 0 undef) λt8=>GdW (isB t8 false) [undef] w4 (λJ5=>aP .eql v0 (.int .u8 45) λt11=>J5 [t11] w4) λs5 _ w6=>cR t8 (.bool true) (s5.getD 0 undef) λt12=>K t12 w6
theorem aBG{K:Q0}(h:W73 v0 w K):aC P0 73 [v0] w K:=
 tie _ 73 Tryz.f73 ZV _ w K 1 _ rfl mixed Tryz.func73 (by kernel_rfl) (by kernel_rfl) Tryz.call73 h
def ZU:cK:={js:=[(3004,⟨[7],[],6⟩)],ds:=[]}
def W74(v0:Value)(w:World)(K:Q0):=aP .geq v0 (.int .u8 48) λt4=>GdW (isB t4 true) [undef] w (λJ1=>aP .leq v0 (.int .u8 57) λt7=>J1 [t7] w) λs1 _ w2=>cR t4 (s1.getD 0 undef) (.bool false) λt8=>K t8 w2
theorem aBF{K:Q0}(h:W74 v0 w K):aC P0 74 [v0] w K:=
 tie _ 74 Tryz.f74 ZU _ w K 1 _ rfl mixed Tryz.func74 (by kernel_rfl) (by kernel_rfl) Tryz.call74 h
def ZS:cK:={js:=[(32007,⟨[43],[],38⟩),(6,⟨[6],[],2⟩)],ds:=[]}
def W76(v0 v1:Value)(w:World)(K:Q0):=cZ [(i64 1)] w λs1 _ w2 L1=>iM v0 λt11=>aP .lss (s1.getD 0 undef) t11 λt12=>aR t12 (pI v0 (s1.getD 0 undef) λt18=>aP .eql t18 (.int .u8 34) λt19=>aR t19 (aP .add (s1.getD 0 undef) (i64 1) λt21=>K (.tuple #[t21,(i64 0)]) w2) (pI v0 (s1.getD 0 undef) λt25=>aP .eql t25 (.int .u8 10) λt26=>aR t26 (K (.tuple #[(i64 0),(i64 40)]) w2) (pI v0 (s1.getD 0 undef) λt30=>aP .eql t30 (.int .u8 92) λt31=>aR t31 (aP .add (s1.getD 0 undef) (i64 1) λt33=>iM v0 λt35=>aP .geq t33 t35 λt36=>GdW (isB t36 false) [undef] w2 (λJ3=>aP .add (s1.getD 0 undef) (i64 1) λt40=>pI v0 t40 λt41=>aC P0 68 [(str [34,92,110,116,114,36]),t41] w2 λt42 w4=>aP .lss t42 (i64 0) λt43=>J3 [t43] w4) λs3 _ w5=>cR t36 (.bool true) (s3.getD 0 undef) λt44=>aR t44 (K (.tuple #[(i64 0),(i64 40)]) w5) (aP .add (s1.getD 0 undef) (i64 2) λt46=>L1 [t46] w5)) (mW v0 (some (s1.getD 0 undef)) none λt50=>aC P0 43 [t50,(str [36,123])] w2 λt51 w6=>aR t51 (aP .add (s1.getD 0 undef) (i64 1) λt55=>mW v0 (some t55) none λt56=>aP .add v1 (i64 1) λt58=>aC P0 108 [t56,t58] w6 λt59 w7=>dK 0 t59 λt60=>dK 1 t59 λt61=>aP .neq t61 (i64 0) λt63=>aR t63 (K (.tuple #[(i64 0),t61]) w7) (aP .add t60 (i64 1) λt67=>aP .add (s1.getD 0 undef) t67 λt68=>L1 [t68] w7)) (aP .add (s1.getD 0 undef) (i64 1) λt14=>L1 [t14] w6))))) (K (.tuple #[(i64 0),(i64 40)]) w2)
theorem aBD{K:Q0}(h:W76 v0 v1 w K):aC P0 76 [v0,v1] w K:=
 tie _ 76 Tryz.f76 ZS _ w K 2 _ rfl mixed Tryz.func76 (by kernel_rfl) (by kernel_rfl) Tryz.call76 h
def ZR:cK:={js:=[(61,⟨[13],[13],68⟩),(65,⟨[72],[],72⟩),(51,⟨[],[13],68⟩),(27,⟨[7],[2,3,4,7],9⟩),(16005,⟨[43],[],40⟩),(16011,⟨[37],[],34⟩),(4,⟨[5],[],1⟩),(6004,⟨[20],[],18⟩)],ds:=[]}
def W77(v0:Value)(w:World)(K:Q0):=bS (λJ1=>iM v0 λt15=>aP .gtr t15 (i64 2) λt16=>GdW (isB t16 true) [undef] w (λJ2=>pI v0 (i64 2) λt19=>aC P0 72 [t19] w λt20 w3=>J2 [t20] w3) λs2 _ w4=>cR t16 (s2.getD 0 undef) (.bool false) λt21=>aR t21 (mW v0 (some (i64 2)) none λt23=>aC P0 69 [t23,(.func (.func 109) #[] #[])] w4 λt24 w5=>J1 [t24] w5) (J1 [(i64 0)] w4)) λs1 _ w6=>aP .add (i64 2) (s1.getD 0 undef) λt27=>mW v0 (some (i64 2)) (some t27) λt28=>aP .add (i64 2) (s1.getD 0 undef) λt30=>aP .eql (s1.getD 0 undef) (i64 0) λt32=>GdW (isB t32 false) [undef] w6 (λJ7=>iM v0 λt36=>aP .geq t30 t36 λt37=>J7 [t37] w6) λs7 _ w8=>cR t32 (.bool true) (s7.getD 0 undef) λt38=>GdW (isB t38 false) [undef] w8 (λJ9=>pI v0 t30 λt42=>aP .neq t42 (.int .u8 10) λt43=>J9 [t43] w8) λs9 _ w10=>cR t38 (.bool true) (s9.getD 0 undef) λt44=>aR t44 (K (.tuple #[(str []),(i64 0),(i64 40)]) w10) (aP .add t30 (i64 1) λt46=>bN 116 [(.pointer none),sN] w10 λt8 w11=>cZ [t46] w11 λs12 _ w13 L12=>mW v0 (some (s12.getD 0 undef)) none λt50=>aC P0 110 [t50,(str [10])] w13 λt51 w14=>dK 0 t51 λt52=>dK 1 t51 λt53=>dK 2 t51 λt54=>aC P0 111 [t52,(str [32,9])] w14 λt56 w15=>aP .eql t56 t28 λt58=>aR t58 (aC P0 64 [t8] w15 λt59 w16=>iM t52 λt62=>aP .add (s12.getD 0 undef) t62 λt63=>K (.tuple #[t59,t63,(i64 0)]) w16) (unW .not t54 λt65=>aR t65 (K (.tuple #[(str []),(i64 0),(i64 40)]) w15) (dF P0 (Instr.range 9 t52) w15 λt67 w17=>cZ [] w17 λs18 _ w19 L18=>dF P0 (Instr.next t67 true 0) w19 λt68 w20=>dK 0 t68 λt69=>aR t69 (dK 2 t68 λt70=>bS (λJ21=>bS (λJ22=>aP .eql t70 (.int .i32 92) λt73=>aR t73 (J22 [t73] w20) (aP .eql t70 (.int .i32 34) λt74=>aR t74 (J22 [t74] w20) (aP .eql t70 (.int .i32 36) λt75=>J22 [t75] w20))) λs22 _ w23=>aR (s22.getD 0 undef) (aC P0 62 [t8,(.int .u8 92)] w23 λt76 w24=>J21 [t70] w24) (aP .eql t70 (.int .i32 9) λt78=>aR t78 (aC P0 62 [t8,(.int .u8 92)] w23 λt79 w25=>J21 [(.int .i32 116)] w25) (aP .eql t70 (.int .i32 13) λt81=>aR t81 (aC P0 62 [t8,(.int .u8 92)] w23 λt82 w26=>J21 [(.int .i32 114)] w26) (J21 [t70] w23)))) λs21 _ w27=>aC P0 63 [t8,(s21.getD 0 undef)] w27 λt84 w28=>L18 [] w28) (aC P0 66 [t8,(str [92,110])] w20 λt85 w29=>iM t52 λt88=>aP .add t88 (i64 1) λt89=>aP .add (s12.getD 0 undef) t89 λt90=>L12 [t90] w29))))
theorem aBC{K:Q0}(h:W77 v0 w K):aC P0 77 [v0] w K:=
 tie _ 77 Tryz.f77 ZR _ w K 1 _ rfl mixed Tryz.func77 (by kernel_rfl) (by kernel_rfl) Tryz.call77 h
def ZQ:cK:={js:=[(2,⟨[],[],1⟩),(9,⟨[8],[],1⟩)],ds:=[]}
def W78(v0:Value)(w:World)(K:Q0):=bS (λJ1=>iM v0 λt4=>aP .gtr t4 (i64 1) λt5=>aR t5 (mW v0 none (some (i64 2)) λt7=>bS (λJ2=>aP .eql t7 (str [61,61]) λt9=>aR t9 (J2 [t9] w) (aP .eql t7 (str [33,61]) λt10=>aR t10 (J2 [t10] w) (aP .eql t7 (str [60,61]) λt11=>aR t11 (J2 [t11] w) (aP .eql t7 (str [62,61]) λt12=>aR t12 (J2 [t12] w) (aP .eql t7 (str [38,38]) λt13=>aR t13 (J2 [t13] w) (aP .eql t7 (str [124,124]) λt14=>J2 [t14] w)))))) λs2 _ w3=>aR (s2.getD 0 undef) (mW v0 none (some (i64 2)) λt16=>K t16 w3) (J1 [] w3)) (J1 [] w)) λs1 _ w4=>pI v0 (i64 0) λt18=>aC P0 68 [(str [123,125,91,93,40,41,61,43,45,42,47,37,60,62,33,63,58,44,46]),t18] w4 λt19 w5=>aP .geq t19 (i64 0) λt20=>aR t20 (mW v0 none (some (i64 1)) λt22=>K t22 w5) (K (str []) w5)
theorem aBB{K:Q0}(h:W78 v0 w K):aC P0 78 [v0] w K:=
 tie _ 78 Tryz.f78 ZQ _ w K 1 _ rfl mixed Tryz.func78 (by kernel_rfl) (by kernel_rfl) Tryz.call78 h
def UB:cK:={js:=[(24,⟨[7,8],[4,5],7⟩),(14,⟨[6],[],2⟩)],ds:=[]}
def aEw(v0 v1:Value)(w:World)(K:Q0):=aP .gtr v1 (i64 24) λt10=>aR t10 (K (.tuple #[(i64 0),(i64 7)]) w) (cZ [(i64 1)] w λs1 _ w2 L1=>iM v0 λt13=>aP .lss (s1.getD 0 undef) t13 λt14=>aR t14 (bS (λJ3=>pI v0 (s1.getD 0 undef) λt17=>aP .eql t17 (.int .u8 125) λt19=>aR t19 (aP .add (s1.getD 0 undef) (i64 1) λt21=>K (.tuple #[t21,(i64 0)]) w2) (aP .eql t17 (.int .u8 10) λt23=>aR t23 (K (.tuple #[(i64 0),(i64 40)]) w2) (aP .eql t17 (.int .u8 123) λt25=>aR t25 (mW v0 (some (s1.getD 0 undef)) none λt29=>aP .add v1 (i64 1) λt31=>aC P0 108 [t29,t31] w2 λt32 w4=>dK 0 t32 λt33=>dK 1 t32 λt34=>J3 [t33,t34] w4) (aP .eql t17 (.int .u8 34) λt36=>aR t36 (mW v0 (some (s1.getD 0 undef)) none λt40=>aC P0 76 [t40,v1] w2 λt42 w5=>dK 0 t42 λt43=>dK 1 t42 λt44=>J3 [t43,t44] w5) (J3 [(i64 1),(i64 0)] w2))))) λs3 _ w6=>aP .neq (s3.getD 1 undef) (i64 0) λt46=>aR t46 (K (.tuple #[(i64 0),(s3.getD 1 undef)]) w6) (aP .add (s1.getD 0 undef) (s3.getD 0 undef) λt50=>L1 [t50] w6)) (K (.tuple #[(i64 0),(i64 40)]) w2))
theorem XK{K:Q0}(h:aEw v0 v1 w K):aC P0 108 [v0,v1] w K:=
 tie _ 108 Tryz.f108 UB _ w K 2 _ rfl mixed Tryz.func108 (by kernel_rfl) (by kernel_rfl) Tryz.call108 h
def UA:cK:={js:=[(3004,⟨[11],[],10⟩),(3008,⟨[7],[],6⟩)],ds:=[]}
def aEv(v0:Value)(w:World)(K:Q0):=aC P0 72 [v0] w λt4 w1=>GdW (isB t4 false) [undef] w1 (λJ2=>aC P0 74 [v0] w1 λt7 w3=>J2 [t7] w3) λs2 _ w4=>cR t4 (.bool true) (s2.getD 0 undef) λt8=>GdW (isB t8 false) [undef] w4 (λJ5=>aP .eql v0 (.int .u8 45) λt11=>J5 [t11] w4) λs5 _ w6=>cR t8 (.bool true) (s5.getD 0 undef) λt12=>K t12 w6
theorem XJ{K:Q0}(h:aEv v0 w K):aC P0 109 [v0] w K:=
 tie _ 109 Tryz.f109 UA _ w K 1 _ rfl mixed Tryz.func109 (by kernel_rfl) (by kernel_rfl) Tryz.call109 h
end
section
open Go Go.Eng
variable{w:World}{K:Q0}{cs:List Value}{G:Nat->Prop}{T:TypeId}{i:Nat}{n:Nat}{v:Value}{w':World}{P:Program}{c:UInt8}{S:Nat->Prop}{v0 v1 v2 v3 v4 v5:Value}
variable [HX]
def KY:cK:={js:=[(30,⟨[],[],6⟩),(34003,⟨[40],[],39⟩),(20,⟨[],[],6⟩)],ds:=[(29,⟨[0,1,2,6],[[],[0],[],[2],[2,3],[0,1,2,3,4],[0,1,2,3,4,5],[0,1,2,3,4,5,6]]⟩),(9,⟨[0,1],[[],[],[0],[0,1,2]]⟩)]}
def W10(v0:Value)(w:World)(K:Q0):=
 bN 32 [sN,sN,sN] w λt2 w1=>
 bN 33 [(.pointer none)] w1 λt3 w2=>
 aC P0 26 [v0] w2 λt9 w3=>
 dK 0 t9 λt10=>
 dK 1 t9 λt11=>
 stW 1 t3 t11 w3 λw4=>
 ldW false 1 t3 w4 λt12=>
 eqW .ptr true t12 (.pointer none) λt13=>
 aR t13 (
 dI [sN,sN,sN] [] λc5=>
 ldW false 1 t3 w4.drew λt15=>
 stW 3 t2 (.agg c5.toArray) w4.drew λw6=>
 (ldW false 1 t3 w6 λx=>x=t15)/\
 stW 1 t3 t15 w6 λw7=>
 ldW true 3 t2 w7 λr8=>
 ldW false 1 t3 w7 λr9=>
 K (.tuple #[r8,r9]) w7) (
 letI:HX:=⟨λch x10=>xD P0 27 [t2,t3] (.panicking ch) x10 λw10=>
 ldW true 3 t2 w10 λr11=>
 ldW false 1 t3 w10 λr12=>
 K (.tuple #[r11,r12]) w10⟩
 dI [sN,(i64 0),(i64 0),(.pointer none),(i64 0),(.bool false)] [(0,1,t10),(3,1,t2)] λc13=>
 eL 70 (.agg c13.toArray) w4 λt19 w14=>
 aC P0 28 [t19] w14 λt21 w15=>
 cZ [] w15 λs16 _ w17 L16=>
 aC P0 29 [t19] w17 λt23 w18=>
 lL false 0 1 t23 λt24=>
 aP .neq t24 (i64 0) λt25=>
 aR t25 (
 aZ 2 t2 λt26=>
 ldW false 1 t26 w18.drew λt27=>
 aC P0 30 [t19] w18.drew λt29 w19=>
 (ldW false 1 t26 w19 λx=>x=t27)/\
 dJ 3 1 [(i64 0)] [(0,1,t29)] w19 λt30 w20=>
 (ldW false 1 t26 w20 λx=>x=t27)/\
 dF P0 (Builtin.append_ #[30,30] 30 #[t27,t30]) w20 λt31 w21=>
 aZ 2 t2 λt32=>
 stW 1 t32 t31 w21 λw22=>
 bS (λJ23=>
 aC P0 29 [t19] w22 λt34 w24=>
 lL false 0 1 t34 λt35=>
 aP .neq t35 (i64 5) λt37=>
 GdW (isB t37 true) [undef] w24 (λJ25=>
 aP .neq t35 (i64 0) λt40=>
 J25 [t40] w24)
 λs25 _ w26=>
 cR t37 (s25.getD 0 undef) (.bool false) λt41=>
 aR t41 (
 aC P0 29 [t19] w26 λt43 w27=>
 lL false 2 1 t43 λt44=>
 aC P0 31 [(i64 50),t44] w27 λt45 w28=>
 J23 [] w28) (
 J23 [] w26))
 λs23 _ w29=>
 aC P0 28 [t19] w29 λt47 w30=>
 L16 [] w30) (
 ldW true 3 t2 w18 λt48=>
 stW 3 t2 t48 w18 λw31=>
 stW 1 t3 (.pointer none) w31 λw32=>
 xD P0 27 [t2,t3] .returning w32 λw33=>
 ldW true 3 t2 w33 λr34=>
 ldW false 1 t3 w33 λr35=>
 K (.tuple #[r34,r35]) w33))
theorem aCo(v0:Value)(w:World)(K:Q0):Rb P0 Tryz.f10 KY 3 [v0] w (ES K)=W10 v0 w K:=by kernel_rfl
theorem XI:AY P0 Tryz.f10 KY 4 27 3 1=true:=by kernel_rfl
theorem aCn{K:Q0}(h:W10 v0 w K):aC P0 10 [v0] w K:=
 aCC P0 10 Tryz.f10 KY [v0] w K 4 27 3 1 (W10 v0 w K) rfl mixed Tryz.func10 XI (aCo v0 w K) Tryz.call10 Tryz.call27 h
def PL:cK:={js:=[],ds:=[(5,⟨[0,1,2],[[],[],[1],[0],[0,1,2,3]]⟩)]}
def R27(v0 v1:Value)(x:Value)(w:World)(K:World->Prop):Prop:=
 letI:HX:=noX
 eqQ P0 .neq 20 false true x .nilIface w λt5=>
 aR t5 (
 dI [sN,sN,sN] [] λc1=>
 nH P0 (Instr.typeAssert x 20 33 false) w.drew λt8=>
 stW 3 v0 (.agg c1.toArray) w.drew λw2=>
 (nH P0 (Instr.typeAssert x 20 33 false) w2 λx=>x=t8)/\
 stW 1 v1 t8 w2 λw3=>
 K w3) (
 K w)
theorem aCq(v0 v1:Value)(x:Value)(w:World)(K:World->Prop):Vt P0 Tryz.f27 PL [v0,v1] x w K=R27 v0 v1 x w K:=by kernel_rfl
theorem XQ:CP P0 Tryz.f27 PL 2=true:=by kernel_rfl
theorem RX{v0 v1:Value}{x:Value}{u:FrameMode}{K:World->Prop}(hu:Finds u x)(h:R27 v0 v1 x w K):xD P0 27 [v0,v1] u w K:=
 Ee (args:=[v0,v1]) mixed Tryz.func27 XQ hu (by rw[aCq];exact h)
def aAy:cK:={js:=[(1,⟨[],[],1⟩)],ds:=[]}
def W28(v0:Value)(w:World)(K:Q0):=cZ [] w λs1 _ w2 L1=>aC P0 29 [v0] w2 λt3 w3=>lL false 0 1 t3 λt4=>aP .eql t4 (i64 5) λt5=>aR t5 (dU v0 λt7=>aZ 1 t7 λt8=>ldW false 1 t8 w3 λt9=>aP .add t9 (i64 1) λt10=>dU v0 λt11=>aZ 1 t11 λt12=>stW 1 t12 t10 w3 λw4=>L1 [] w4) (K (.tuple #[]) w3)
theorem aB9{K:Q0}(h:W28 v0 w K):aC P0 28 [v0] w K:=
 tie _ 28 Tryz.f28 aAy _ w K 1 _ rfl mixed Tryz.func28 (by kernel_rfl) (by kernel_rfl) Tryz.call28 h
def aAx:cK:={js:=[(4,⟨[],[],3⟩)],ds:=[(16,⟨[0,1,2,3,4,5,6,7],[[],[0],[],[2],[2,3],[2,3,4],[0,1,2,3,4,5],[0,1,2,3,4,5,6],[0,1,2,3,4,5,6,7]]⟩),(14,⟨[0,1,2,3,4,5,6,7,8,9],[[],[0],[0,1],[0,1,2],[],[4],[4,5],[4,5,6],[0,1,2,3,4,5,6,7],[0,1,2,3,4,5,6,7,8],[],[0,1,2,3,4,5,6,7,8,9,10]]⟩),(7,⟨[0,1,2,3,4,5,6,7,8,9,10,11,12,13,14,15,16,17],[[],[0],[0,1],[0,1,2],[0,1,2,3],[0,1,2,3,4],[0,1,2,3,4,5],[0,1,2,3,4,5,6],[0,1,2,3,4,5,6,7],[0,1,2,3,4],[0,1,2,3,4,9],[0,1,2,3,4,9,10],[0,1,2,3,4,9,10,11],[0,1,2,3,4,5,6,7,8,9,10,11,12],[0,1,2,3,4,5,6,7,8,9,10,11,12,13],[0,1,2,3,4,5,6,7,8,9,10,11,12,13,14],[0,1,2,3,4,5,6,7,8,9,10,11,12,13,14,15],[0,1,2,3,4,5,6,7,8,9,10,11,12,13,14,15,16]]⟩)]}
def W29(v0:Value)(w:World)(K:Q0):=bN 73 zL1 w λt2 w1=>cZ [] w1 λs2 _ w3 L2=>dU v0 λt5=>aZ 5 t5 λt6=>ldW false 1 t6 w3.drew λt7=>GqW (isB t7 true) (λk4=>k4 v0) λt9=>GqW (isB t7 true) (λk5=>dU t9 k5) λt10=>GqW (isB t7 true) (λk6=>aZ 0 t10 k6) λt11=>GqW (isB t7 true) (λk7=>ldW false 1 t11 w3.drew k7) λt12=>GqW (isB t7 true) (λk8=>k8 v0) λt13=>GqW (isB t7 true) (λk9=>dU t13 k9) λt14=>GqW (isB t7 true) (λk10=>aZ 1 t14 k10) λt15=>GqW (isB t7 true) (λk11=>ldW false 1 t15 w3.drew k11) λt16=>GqW (isB t7 true) (λk12=>dN none 3 t12 t16 k12) λt17=>GqW (isB t7 true) (λk13=>aZ 0 t17 k13) λt18=>GqW (isB t7 true) (λk14=>ldW false 1 t18 w3.drew k14) λt19=>GqW (isB t7 true) (λk15=>aP .eql t19 (i64 5) k15) λt20=>cR t7 t20 (.bool false) λt21=>aR t21 (dU v0 λt23=>aZ 1 t23 λt24=>ldW false 1 t24 w3.drew λt25=>aP .add t25 (i64 1) λt26=>dU v0 λt27=>aZ 1 t27 λt28=>stW 1 t28 t26 w3.drew λw16=>L2 [] w16) (dU v0 λt30=>aZ 0 t30 λt31=>ldW false 1 t31 w3.drew.drew λt32=>dU v0 λt34=>aZ 1 t34 λt35=>ldW false 1 t35 w3.drew.drew λt36=>dN none 3 t32 t36 λt37=>ldW true 3 t37 w3.drew.drew λt38=>bN 73 zL1 w3.drew.drew λt3 w17=>(ldW true 3 t37 w17 λx=>x=t38)/\(ldW false 1 t35 w17 λx=>x=t36)/\(ldW false 1 t31 w17 λx=>x=t32)/\stW 3 t3 t38 w17 λw18=>aZ 2 t3 λt39=>ldW false 1 t39 w18.drew λt40=>dU v0 λt42=>aZ 2 t42 λt43=>ldW false 1 t43 w18.drew λt44=>aP .add t40 t44 λt45=>aZ 2 t3 λt46=>stW 1 t46 t45 w18.drew λw19=>ldW true 3 t3 w19 λt47=>stW 3 t2 t47 w19 λw20=>ldW true 3 t2 w20 λr21=>K r21 w20)
theorem aB8{K:Q0}(h:W29 v0 w K):aC P0 29 [v0] w K:=
 tie _ 29 Tryz.f29 aAx _ w K 1 _ rfl mixed Tryz.func29 (by kernel_rfl) (by kernel_rfl) Tryz.call29 h
def aAw:cK:={js:=[(19,⟨[],[],6⟩),(8,⟨[],[],5⟩)],ds:=[(28,⟨[0,1,2,3,4,5,6,7,8,9,10,11,14,15],[[],[0],[0,1],[0,1,2],[],[4],[4,5],[4,5,6],[4,5,6,7],[4,5,6,7,8],[4,5,6,7,8,9],[],[11],[4,5,6,7,8,9,10,11,12],[0,1,2,3,4,5,6,7,8,9,10,11,12,13],[0,1,2,3,4,5,6,7,8,9,10,11,12,13,14],[0,1,2,3,4,5,6,7,8,9,10,11,12,13,14,15]]⟩),(16,⟨[0,1,2,3,8],[[],[0],[],[],[3],[2,3,4],[2,3,4,5],[0,1,2,3,4,5,6],[0,1,2,3,4,5,6,7],[0,1,2,3,4,5,6,7,8]]⟩)]}
def W30(v0:Value)(w:World)(K:Q0):=eL 67 v0 w λt1 w1=>ldW false 1 t1 w1 λt6=>aC P0 46 [t6,(i64 1)] w1 λt7 w2=>bN 73 zL1 w2 λt3 w3=>stW 3 t3 t7 w3 λw4=>aZ 1 t3 λt8=>ldW false 1 t8 w4 λt9=>aZ 2 t3 λt10=>ldW false 1 t10 w4 λt11=>dI [(str []),sN,sN,sN,(i64 0)] [(0,1,t9),(4,1,t11)] λc5=>bN 86 [(str []),sN,sN,sN,(i64 0)] w4 λt4 w6=>stW 5 t4 (.agg c5.toArray) w6 λw7=>cZ [] w7 λs8 _ w9 L8=>ldW false 1 t1 w9 λt13=>aC P0 29 [t13] w9 λt14 w10=>lL false 0 1 t14 λt15=>aP .eql t15 (i64 3) λt16=>aR t16 (aZ 1 t4 λt17=>ldW false 1 t17 w10.drew λt18=>ldW false 1 t1 w10.drew λt19=>ldW false 1 t1 w10.drew λt20=>aC P0 48 [t20] w10.drew λt21 w11=>(ldW false 1 t1 w11 λx=>x=t19)/\(ldW false 1 t17 w11 λx=>x=t18)/\aC P0 47 [t19,t21] w11 λt22 w12=>(ldW false 1 t17 w12 λx=>x=t18)/\dJ 9 1 [(str [])] [(0,1,t22)] w12 λt23 w13=>(ldW false 1 t17 w13 λx=>x=t18)/\dF P0 (Builtin.append_ #[24,24] 24 #[t18,t23]) w13 λt24 w14=>aZ 1 t4 λt25=>stW 1 t25 t24 w14 λw15=>L8 [] w15) (ldW false 1 t1 w10 λt26=>aC P0 29 [t26] w10 λt27 w16=>bN 73 zL1 w16 λt5 w17=>stW 3 t5 t27 w17 λw18=>bS (λJ19=>ldW false 1 t1 w18 λt28=>dJ 9 1 [(str [])] [(0,1,(str [123]))] w18 λt29 w20=>aC P0 49 [t28,t29] w20 λt30 w21=>unW .not t30 λt31=>aR t31 (aZ 2 t5 λt32=>ldW false 1 t32 w21 λt33=>aC P0 31 [(i64 50),t33] w21 λt34 w22=>J19 [] w22) (J19 [] w21)) λs19 _ w23=>ldW false 1 t1 w23 λt35=>aZ 2 t5 λt36=>ldW false 1 t36 w23 λt37=>aC P0 50 [t35,t37,(.bool false),(.func (.func 51) #[] #[t1,t4])] w23 λt39 w24=>ldW false 1 t1 w24.drew λt40=>dU t40 λt41=>aZ 3 t41 λt42=>ldW false 1 t42 w24.drew λt43=>ldW false 1 t1 w24.drew λt44=>dU t44 λt45=>aZ 3 t45 λt46=>ldW false 1 t46 w24.drew λt47=>dU t47 λt48=>aZ 1 t48 λt49=>ldW false 1 t49 w24.drew λt50=>ldW true 5 t4 w24.drew λt51=>dJ 86 1 [(str []),sN,sN,sN,(i64 0)] [(0,5,t51)] w24.drew λt52 w25=>(ldW false 1 t49 w25 λx=>x=t50)/\(ldW false 1 t46 w25 λx=>x=t47)/\(ldW false 1 t1 w25 λx=>x=t44)/\(ldW false 1 t42 w25 λx=>x=t43)/\(ldW false 1 t1 w25 λx=>x=t40)/\dF P0 (Builtin.append_ #[29,29] 29 #[t50,t52]) w25 λt53 w26=>(ldW false 1 t42 w26 λx=>x=t43)/\(ldW false 1 t1 w26 λx=>x=t40)/\dU t43 λt54=>aZ 1 t54 λt55=>stW 1 t55 t53 w26 λw27=>ldW false 1 t1 w27 λt56=>dU t56 λt57=>aZ 3 t57 λt58=>ldW false 1 t58 w27 λt59=>dU t59 λt60=>aZ 1 t60 λt61=>ldW false 1 t61 w27 λt62=>cY t62 λt63=>aP .sub t63 (i64 1) λt64=>K t64 w27)
theorem aB7{K:Q0}(h:W30 v0 w K):aC P0 30 [v0] w K:=
 tie _ 30 Tryz.f30 aAw _ w K 1 _ rfl mixed Tryz.func30 (by kernel_rfl) (by kernel_rfl) Tryz.call30 h
def aAv:cK:={js:=[],ds:=[]}
def W31(v0 v1:Value)(w:World)(K:Q0):=dI [(i64 0),(str []),(i64 0)] [(0,1,v0),(2,1,v1)] λc1=>eL 53 (.agg c1.toArray) w λt7 w2=>ND (.iface 33 t7) w2
theorem aB6{K:Q0}(h:W31 v0 v1 w K):aC P0 31 [v0,v1] w K:=
 tie _ 31 Tryz.f31 aAv _ w K 2 _ rfl mixed Tryz.func31 (by kernel_rfl) (by kernel_rfl) Tryz.call31 h
def aAo:cK:={js:=[(2,⟨[],[],5⟩)],ds:=[]}
def W46(v0 v1:Value)(w:World)(K:Q0):=bN 73 zL1 w λt4 w1=>bS (λJ2=>aC P0 29 [v0] w1 λt6 w3=>lL false 0 1 t6 λt7=>aP .neq t7 v1 λt9=>aR t9 (aC P0 29 [v0] w3 λt11 w4=>lL false 2 1 t11 λt12=>aC P0 31 [(i64 50),t12] w4 λt13 w5=>J2 [] w5) (J2 [] w3)) λs2 _ w6=>aC P0 48 [v0] w6 λt15 w7=>stW 3 t4 t15 w7 λw8=>ldW true 3 t4 w8 λr9=>K r9 w8
theorem aBZ{K:Q0}(h:W46 v0 v1 w K):aC P0 46 [v0,v1] w K:=
 tie _ 46 Tryz.f46 aAo _ w K 2 _ rfl mixed Tryz.func46 (by kernel_rfl) (by kernel_rfl) Tryz.call46 h
def aAn:cK:={js:=[(2,⟨[],[],4⟩)],ds:=[]}
def W47(v0 v1:Value)(w:World)(K:Q0):=eL 73 v1 w λt3 w1=>bS (λJ2=>aZ 1 t3 λt8=>ldW false 1 t8 w1 λt9=>aC P0 79 [t9] w1 λt10 w3=>dK 0 t10 λt11=>dK 1 t10 λt12=>aP .geq t11 (i64 0) λt14=>aR t14 (aZ 2 t3 λt15=>ldW false 1 t15 w3 λt16=>aC P0 31 [(i64 50),t16] w3 λt17 w4=>J2 [] w4) (J2 [] w3)) λs2 _ w5=>aZ 1 t3 λt18=>ldW false 1 t18 w5 λt19=>aC P0 80 [t19] w5 λt20 w6=>K t20 w6
theorem aBY{K:Q0}(h:W47 v0 v1 w K):aC P0 47 [v0,v1] w K:=
 tie _ 47 Tryz.f47 aAn _ w K 2 _ rfl mixed Tryz.func47 (by kernel_rfl) (by kernel_rfl) Tryz.call47 h
def aAm:cK:={js:=[(4,⟨[],[],4⟩)],ds:=[]}
def W48(v0:Value)(w:World)(K:Q0):=bN 73 zL1 w λt2 w1=>aC P0 29 [v0] w1 λt5 w2=>bN 73 zL1 w2 λt3 w3=>stW 3 t3 t5 w3 λw4=>bS (λJ5=>aZ 0 t3 λt6=>ldW false 1 t6 w4 λt7=>aP .neq t7 (i64 0) λt8=>aR t8 (dU v0 λt10=>aZ 1 t10 λt11=>ldW false 1 t11 w4 λt12=>aP .add t12 (i64 1) λt13=>dU v0 λt14=>aZ 1 t14 λt15=>stW 1 t15 t13 w4 λw6=>J5 [] w6) (J5 [] w4)) λs5 _ w7=>ldW true 3 t3 w7 λt16=>stW 3 t2 t16 w7 λw8=>ldW true 3 t2 w8 λr9=>K r9 w8
theorem aBX{K:Q0}(h:W48 v0 w K):aC P0 48 [v0] w K:=
 tie _ 48 Tryz.f48 aAm _ w K 1 _ rfl mixed Tryz.func48 (by kernel_rfl) (by kernel_rfl) Tryz.call48 h
def aAl:cK:={js:=[(5006,⟨[15],[],12⟩)],ds:=[]}
def W49(v0 v1:Value)(w:World)(K:Q0):=aC P0 29 [v0] w λt7 w1=>bN 73 zL1 w1 λt5 w2=>stW 3 t5 t7 w2 λw3=>aZ 0 t5 λt8=>ldW false 1 t8 w3 λt9=>aP .eql t9 (i64 4) λt10=>GdW (isB t10 true) [undef] w3 (λJ4=>aZ 1 t5 λt13=>ldW false 1 t13 w3 λt14=>aC P0 81 [v1,t14] w3 λt15 w5=>J4 [t15] w5) λs4 _ w6=>cR t10 (s4.getD 0 undef) (.bool false) λt16=>K t16 w6
theorem aBW{K:Q0}(h:W49 v0 v1 w K):aC P0 49 [v0,v1] w K:=
 tie _ 49 Tryz.f49 aAl _ w K 2 _ rfl mixed Tryz.func49 (by kernel_rfl) (by kernel_rfl) Tryz.call49 h
def aAk:cK:={js:=[(0,⟨[],[],4⟩)],ds:=[]}
def W50(v0 v1 v2 v3:Value)(w:World)(K:Q0):=bS (λJ1=>dU v0 λt10=>aZ 4 t10 λt11=>ldW false 1 t11 w λt12=>aP .eql t12 (i64 24) λt13=>aR t13 (aC P0 31 [(i64 7),v1] w λt15 w2=>J1 [] w2) (J1 [] w)) λs1 _ w3=>dU v0 λt17=>aZ 5 t17 λt18=>ldW false 1 t18 w3 λt19=>dU v0 λt21=>aZ 4 t21 λt22=>ldW false 1 t22 w3 λt23=>aP .add t23 (i64 1) λt24=>dU v0 λt25=>aZ 4 t25 λt26=>stW 1 t26 t24 w3 λw4=>dU v0 λt29=>aZ 5 t29 λt30=>stW 1 t30 v2 w4 λw5=>oN P0 v3 [] w5 λt32 w6=>dU v0 λt34=>aZ 4 t34 λt35=>ldW false 1 t35 w6 λt36=>aP .sub t36 (i64 1) λt37=>dU v0 λt38=>aZ 4 t38 λt39=>stW 1 t39 t37 w6 λw7=>dU v0 λt42=>aZ 5 t42 λt43=>stW 1 t43 t19 w7 λw8=>K (.tuple #[]) w8
theorem aBV{K:Q0}(h:W50 v0 v1 v2 v3 w K):aC P0 50 [v0,v1,v2,v3] w K:=
 tie _ 50 Tryz.f50 aAk _ w K 4 _ rfl mixed Tryz.func50 (by kernel_rfl) (by kernel_rfl) Tryz.call50 h
def aAj:cK:={js:=[(15,⟨[],[],2⟩),(17005,⟨[24],[],21⟩),(5,⟨[],[],2⟩)],ds:=[]}
def W51(v0 v1:Value)(w:World)(K:Q0):=ldW false 1 v0 w λt2=>dU t2 λt3=>aZ 1 t3 λt4=>ldW false 1 t4 w λt5=>aP .add t5 (i64 1) λt6=>dU t2 λt7=>aZ 1 t7 λt8=>stW 1 t8 t6 w λw1=>ldW false 1 v0 w1 λt9=>aC P0 28 [t9] w1 λt10 w2=>cZ [] w2 λs3 _ w4 L3=>ldW false 1 v0 w4 λt11=>aC P0 52 [t11,(str [125])] w4 λt12 w5=>unW .not t12 λt13=>aR t13 (ldW false 1 v0 w5 λt14=>aC P0 53 [t14,v1] w5 λt15 w6=>bS (λJ7=>ldW false 1 v0 w6 λt16=>aC P0 29 [t16] w6 λt17 w8=>lL false 0 1 t17 λt18=>aP .neq t18 (i64 5) λt19=>GdW (isB t19 true) [undef] w8 (λJ9=>ldW false 1 v0 w8 λt21=>dJ 9 1 [(str [])] [(0,1,(str [125]))] w8 λt22 w10=>aC P0 49 [t21,t22] w10 λt23 w11=>unW .not t23 λt24=>J9 [t24] w11) λs9 _ w12=>cR t19 (s9.getD 0 undef) (.bool false) λt25=>aR t25 (ldW false 1 v0 w12 λt26=>aC P0 29 [t26] w12 λt27 w13=>lL false 2 1 t27 λt28=>aC P0 31 [(i64 50),t28] w13 λt29 w14=>J7 [] w14) (J7 [] w12)) λs7 _ w15=>ldW false 1 v0 w15 λt30=>aC P0 28 [t30] w15 λt31 w16=>L3 [] w16) (K (.tuple #[]) w5)
theorem aBU{K:Q0}(h:W51 v0 v1 w K):aC P0 51 [v0,v1] w K:=
 tie _ 51 Tryz.f51 aAj _ w K 2 _ rfl mixed Tryz.func51 (by kernel_rfl) (by kernel_rfl) Tryz.call51 h
def aAi:cK:={js:=[],ds:=[]}
def W52(v0 v1:Value)(w:World)(K:Q0):=dJ 9 1 [(str [])] [(0,1,v1)] w λt7 w1=>aC P0 49 [v0,t7] w1 λt8 w2=>unW .not t8 λt9=>aR t9 (K (.bool false) w2) (dU v0 λt11=>aZ 1 t11 λt12=>ldW false 1 t12 w2 λt13=>aP .add t13 (i64 1) λt14=>dU v0 λt15=>aZ 1 t15 λt16=>stW 1 t16 t14 w2 λw3=>K (.bool true) w3)
theorem aBT{K:Q0}(h:W52 v0 v1 w K):aC P0 52 [v0,v1] w K:=
 tie _ 52 Tryz.f52 aAi _ w K 2 _ rfl mixed Tryz.func52 (by kernel_rfl) (by kernel_rfl) Tryz.call52 h
def aAh:cK:={js:=[],ds:=[(12,⟨[0,1,2,3,4,5,9,10],[[],[],[1],[1,2],[1,2,3],[],[5],[5,6],[1,2,3,4,5,6,7],[0,1,2,3,4,5,6,7,8],[0,1,2,3,4,5,6,7,8,9],[0,1,2,3,4,5,6,7,8,9,10]]⟩),(7,⟨[0,1,2,3,4,5,6,7,9,10,11,14,15],[[],[],[1],[1,2],[1,2,3],[],[5],[],[7],[],[9],[5,6,7,8,9,10],[5,6,7,8,9,10,11],[1,2,3,4,5,6,7,8,9,10,11,12],[0,1,2,3,4,5,6,7,8,9,10,11,12,13],[0,1,2,3,4,5,6,7,8,9,10,11,12,13,14],[0,1,2,3,4,5,6,7,8,9,10,11,12,13,14,15]]⟩)]}
def W53(v0 v1:Value)(w:World)(K:Q0):=aC P0 46 [v0,(i64 1)] w λt6 w1=>bN 73 zL1 w1 λt4 w2=>stW 3 t4 t6 w2 λw3=>aC P0 52 [v0,(str [61])] w3 λt8 w4=>aR t8 (dU v1 λt11=>aZ 2 t11 λt12=>ldW false 1 t12 w4.drew λt13=>aZ 1 t4 λt14=>ldW false 1 t14 w4.drew λt15=>aZ 2 t4 λt18=>ldW false 1 t18 w4.drew λt19=>aC P0 82 [v0] w4.drew λt17 w5=>(ldW false 1 t18 w5 λx=>x=t19)/\(ldW false 1 t14 w5 λx=>x=t15)/\(ldW false 1 t12 w5 λx=>x=t13)/\dI [(str []),(i64 0),(i64 0)] [(0,1,t15),(1,1,t17),(2,1,t19)] λc6=>dJ 88 1 [(str []),(i64 0),(i64 0)] [(0,3,(.agg c6.toArray))] w5 λt21 w7=>(ldW false 1 t12 w7 λx=>x=t13)/\dF P0 (Builtin.append_ #[84,84] 84 #[t13,t21]) w7 λt22 w8=>dU v1 λt23=>aZ 2 t23 λt24=>stW 1 t24 t22 w8 λw9=>K (.tuple #[]) w9) (dU v0 λt26=>aZ 1 t26 λt27=>ldW false 1 t27 w4 λt28=>aP .sub t28 (i64 1) λt29=>dU v0 λt30=>aZ 1 t30 λt31=>stW 1 t31 t29 w4 λw10=>dU v1 λt34=>aZ 3 t34 λt35=>ldW false 1 t35 w10.drew λt36=>aC P0 30 [v0] w10.drew λt38 w11=>(ldW false 1 t35 w11 λx=>x=t36)/\dJ 3 1 [(i64 0)] [(0,1,t38)] w11 λt39 w12=>(ldW false 1 t35 w12 λx=>x=t36)/\dF P0 (Builtin.append_ #[30,30] 30 #[t36,t39]) w12 λt40 w13=>dU v1 λt41=>aZ 3 t41 λt42=>stW 1 t42 t40 w13 λw14=>K (.tuple #[]) w14)
theorem aBS{K:Q0}(h:W53 v0 v1 w K):aC P0 53 [v0,v1] w K:=
 tie _ 53 Tryz.f53 aAh _ w K 2 _ rfl mixed Tryz.func53 (by kernel_rfl) (by kernel_rfl) Tryz.call53 h
def ZP:cK:={js:=[(13,⟨[4],[],1⟩),(6,⟨[4],[],1⟩)],ds:=[]}
def W79(v0:Value)(w:World)(K:Q0):=cZ [(i64 0)] w λs1 _ w2 L1=>iM v0 λt7=>aP .lss (s1.getD 0 undef) t7 λt8=>aR t8 (bS (λJ3=>pI v0 (s1.getD 0 undef) λt13=>aP .eql t13 (.int .u8 92) λt14=>aR t14 (aP .add (s1.getD 0 undef) (i64 1) λt16=>J3 [t16] w2) (mW v0 (some (s1.getD 0 undef)) none λt19=>aC P0 43 [t19,(str [36,123])] w2 λt20 w4=>aR t20 (aP .add (s1.getD 0 undef) (i64 1) λt23=>aP .add (s1.getD 0 undef) (i64 1) λt26=>mW v0 (some t26) none λt27=>aC P0 112 [t27] w4 λt28 w5=>aP .add t23 t28 λt29=>K (.tuple #[(s1.getD 0 undef),t29]) w5) (J3 [(s1.getD 0 undef)] w4))) λs3 _ w6=>aP .add (s3.getD 0 undef) (i64 1) λt10=>L1 [t10] w6) (K (.tuple #[(.int .i64 (-1)),(i64 0)]) w2)
theorem aBA{K:Q0}(h:W79 v0 w K):aC P0 79 [v0] w K:=
 tie _ 79 Tryz.f79 ZP _ w K 1 _ rfl mixed Tryz.func79 (by kernel_rfl) (by kernel_rfl) Tryz.call79 h
def ZO:cK:={js:=[(19,⟨[4,5],[],4⟩),(8,⟨[4],[],4⟩)],ds:=[]}
def W80(v0:Value)(w:World)(K:Q0):=bN 116 [(.pointer none),sN] w λt3 w1=>cZ [(i64 0)] w1 λs2 _ w3 L2=>iM v0 λt8=>aP .lss (s2.getD 0 undef) t8 λt9=>aR t9 (pI v0 (s2.getD 0 undef) λt14=>bS (λJ4=>aP .eql t14 (.int .u8 92) λt16=>aR t16 (aP .add (s2.getD 0 undef) (i64 1) λt18=>pI v0 t18 λt21=>aP .eql t21 (.int .u8 110) λt24=>aR t24 (J4 [t18,(.int .u8 10)] w3) (aP .eql t21 (.int .u8 116) λt26=>aR t26 (J4 [t18,(.int .u8 9)] w3) (aP .eql t21 (.int .u8 114) λt28=>aR t28 (J4 [t18,(.int .u8 13)] w3) (J4 [t18,t21] w3)))) (J4 [(s2.getD 0 undef),t14] w3)) λs4 _ w5=>aC P0 62 [t3,(s4.getD 1 undef)] w5 λt30 w6=>aP .add (s4.getD 0 undef) (i64 1) λt11=>L2 [t11] w6) (aC P0 64 [t3] w3 λt31 w7=>K t31 w7)
theorem aBz{K:Q0}(h:W80 v0 w K):aC P0 80 [v0] w K:=
 tie _ 80 Tryz.f80 ZO _ w K 1 _ rfl mixed Tryz.func80 (by kernel_rfl) (by kernel_rfl) Tryz.call80 h
def ZM:cK:={js:=[],ds:=[(17,⟨[0,1,2,3,4,5,6,7],[[],[],[1],[],[3],[3,4],[3,4,5],[],[0,1,2,3,4,5,6,7]]⟩)]}
def W82(v0:Value)(w:World)(K:Q0):=eL 67 v0 w λt1 w1=>ldW false 1 t1 w1 λt6=>aC P0 114 [t6,(i64 0)] w1 λt7 w2=>ldW false 1 t1 w2 λt8=>aC P0 29 [t8] w2 λt9 w3=>bN 73 zL1 w3 λt4 w4=>stW 3 t4 t9 w4 λw5=>ldW false 1 t1 w5 λt10=>aC P0 52 [t10,(str [63])] w5 λt11 w6=>unW .not t11 λt12=>aR t12 (K t7 w6) (dJ 3 3 [(i64 0),(i64 0),(i64 0)] [(0,1,t7),(1,1,(i64 0)),(2,1,(i64 0))] w6 λt15 w7=>bN 30 [sN] w7 λt5 w8=>stW 1 t5 t15 w8 λw9=>ldW false 1 t1 w9.drew λt16=>aZ 2 t4 λt17=>ldW false 1 t17 w9.drew λt18=>ldW false 1 t1 w9.drew λt19=>dU t19 λt20=>aZ 5 t20 λt21=>ldW false 1 t21 w9.drew λt22=>aC P0 50 [t16,t18,t22,(.func (.func 115) #[] #[t1,t5])] w9.drew λt24 w10=>ldW false 1 t1 w10 λt25=>ldW false 1 t5 w10 λt26=>aZ 2 t4 λt27=>ldW false 1 t27 w10 λt28=>dI [(i64 0),(str []),sN,sN,(i64 0)] [(0,1,(i64 28)),(2,1,t26),(4,1,t28)] λc11=>aC P0 117 [t25,(.agg c11.toArray)] w10 λt30 w12=>K t30 w12)
theorem aBx{K:Q0}(h:W82 v0 w K):aC P0 82 [v0] w K:=
 tie _ 82 Tryz.f82 ZM _ w K 1 _ rfl mixed Tryz.func82 (by kernel_rfl) (by kernel_rfl) Tryz.call82 h
def Uz:cK:={js:=[(15,⟨[3,4],[],1⟩),(8,⟨[3,4],[],1⟩)],ds:=[]}
def aEu(v0:Value)(w:World)(K:Q0):=cZ [(i64 0),(i64 0)] w λs1 _ w2 L1=>iM v0 λt7=>aP .lss (s1.getD 1 undef) t7 λt8=>aR t8 (bS (λJ3=>pI v0 (s1.getD 1 undef) λt13=>aP .eql t13 (.int .u8 123) λt15=>aR t15 (aP .add (s1.getD 0 undef) (i64 1) λt17=>J3 [t17,(s1.getD 1 undef)] w2) (aP .eql t13 (.int .u8 125) λt19=>aR t19 (aP .sub (s1.getD 0 undef) (i64 1) λt21=>aP .eql t21 (i64 0) λt23=>aR t23 (aP .add (s1.getD 1 undef) (i64 1) λt25=>K t25 w2) (J3 [t21,(s1.getD 1 undef)] w2)) (aP .eql t13 (.int .u8 34) λt27=>aR t27 (mW v0 (some (s1.getD 1 undef)) none λt31=>aC P0 150 [t31] w2 λt32 w4=>aP .sub t32 (i64 1) λt33=>aP .add (s1.getD 1 undef) t33 λt34=>J3 [(s1.getD 0 undef),t34] w4) (J3 [(s1.getD 0 undef),(s1.getD 1 undef)] w2)))) λs3 _ w5=>aP .add (s3.getD 1 undef) (i64 1) λt10=>L1 [(s3.getD 0 undef),t10] w5) (iM v0 λt36=>K t36 w2)
theorem XH{K:Q0}(h:aEu v0 w K):aC P0 112 [v0] w K:=
 tie _ 112 Tryz.f112 Uz _ w K 1 _ rfl mixed Tryz.func112 (by kernel_rfl) (by kernel_rfl) Tryz.call112 h
def Ux:cK:={js:=[(13,⟨[5],[],2⟩)],ds:=[]}
def aCm(v0 v1:Value)(w:World)(K:Q0):=aP .eql v1 (i64 6) λt10=>aR t10 (aC P0 151 [v0] w λt12 w1=>K t12 w1) (aP .add v1 (i64 1) λt15=>aC P0 114 [v0,t15] w λt16 w2=>cZ [t16] w2 λs3 _ w4 L3=>aC P0 29 [v0] w4 λt18 w5=>bN 73 zL1 w5 λt6 w6=>stW 3 t6 t18 w6 λw7=>ldW true 3 t6 w7 λt19=>aC P0 152 [t19,v1] w7 λt21 w8=>aP .eql t21 (i64 0) λt23=>aR t23 (K (s3.getD 0 undef) w8) (dU v0 λt26=>aZ 1 t26 λt27=>ldW false 1 t27 w8 λt28=>aP .add t28 (i64 1) λt29=>dU v0 λt30=>aZ 1 t30 λt31=>stW 1 t31 t29 w8 λw9=>aP .add v1 (i64 1) λt34=>aC P0 114 [v0,t34] w9 λt35 w10=>dJ 3 2 [(i64 0),(i64 0)] [(0,1,(s3.getD 0 undef)),(1,1,t35)] w10 λt40 w11=>aZ 2 t6 λt41=>ldW false 1 t41 w11 λt42=>dI [(i64 0),(str []),sN,sN,(i64 0)] [(0,1,t21),(2,1,t40),(4,1,t42)] λc12=>aC P0 117 [v0,(.agg c12.toArray)] w11 λt44 w13=>L3 [t44] w13))
theorem Nc{K:Q0}(h:aCm v0 v1 w K):aC P0 114 [v0,v1] w K:=
 tie _ 114 Tryz.f114 Ux _ w K 2 _ rfl mixed Tryz.func114 (by kernel_rfl) (by kernel_rfl) Tryz.call114 h
def Uw:cK:={js:=[],ds:=[(4,⟨[0,1,3],[[],[],[1],[0,1,2],[0,1,2,3]]⟩),(1,⟨[0,1,3],[[],[],[1],[0,1,2],[0,1,2,3]]⟩)]}
def aEs(v0 v1:Value)(w:World)(K:Q0):=ldW false 1 v1 w.drew λt2=>ldW false 1 v0 w.drew λt3=>aC P0 82 [t3] w.drew λt4 w1=>(ldW false 1 v1 w1 λx=>x=t2)/\dN none 1 t2 (i64 1) λt5=>stW 1 t5 t4 w1 λw2=>ldW false 1 v0 w2 λt6=>aC P0 116 [t6,(str [58])] w2 λt7 w3=>ldW false 1 v1 w3.drew λt8=>ldW false 1 v0 w3.drew λt9=>aC P0 82 [t9] w3.drew λt10 w4=>(ldW false 1 v1 w4 λx=>x=t8)/\dN none 1 t8 (i64 2) λt11=>stW 1 t11 t10 w4 λw5=>K (.tuple #[]) w5
theorem XF{K:Q0}(h:aEs v0 v1 w K):aC P0 115 [v0,v1] w K:=
 tie _ 115 Tryz.f115 Uw _ w K 2 _ rfl mixed Tryz.func115 (by kernel_rfl) (by kernel_rfl) Tryz.call115 h
def Uv:cK:={js:=[],ds:=[]}
def aEr(v0 v1:Value)(w:World)(K:Q0):=aC P0 52 [v0,v1] w λt6 w1=>unW .not t6 λt7=>aR t7 (aC P0 29 [v0] w1 λt9 w2=>lL false 2 1 t9 λt10=>aC P0 31 [(i64 50),t10] w2 λt11 w3=>K (.tuple #[]) w3) (K (.tuple #[]) w1)
theorem XE{K:Q0}(h:aEr v0 v1 w K):aC P0 116 [v0,v1] w K:=
 tie _ 116 Tryz.f116 Uv _ w K 2 _ rfl mixed Tryz.func116 (by kernel_rfl) (by kernel_rfl) Tryz.call116 h
def Uu:cK:={js:=[],ds:=[(3,⟨[0,1,2,3,4,5,6,7,8,9,10,11,14,15],[[],[0],[0,1],[0,1,2],[],[4],[4,5],[4,5,6],[4,5,6,7],[4,5,6,7,8],[4,5,6,7,8,9],[],[11],[4,5,6,7,8,9,10,11,12],[0,1,2,3,4,5,6,7,8,9,10,11,12,13],[0,1,2,3,4,5,6,7,8,9,10,11,12,13,14],[0,1,2,3,4,5,6,7,8,9,10,11,12,13,14,15]]⟩)]}
def aEq(v0 v1:Value)(w:World)(K:Q0):=eL 93 v1 w λt3 w1=>dU v0 λt6=>aZ 3 t6 λt7=>ldW false 1 t7 w1.drew λt8=>dU v0 λt10=>aZ 3 t10 λt11=>ldW false 1 t11 w1.drew λt12=>dU t12 λt13=>aZ 0 t13 λt14=>ldW false 1 t14 w1.drew λt15=>ldW true 5 t3 w1.drew λt16=>dJ 93 1 [(i64 0),(str []),sN,sN,(i64 0)] [(0,5,t16)] w1.drew λt17 w2=>(ldW false 1 t14 w2 λx=>x=t15)/\(ldW false 1 t11 w2 λx=>x=t12)/\(ldW false 1 t7 w2 λx=>x=t8)/\dF P0 (Builtin.append_ #[28,28] 28 #[t15,t17]) w2 λt18 w3=>(ldW false 1 t7 w3 λx=>x=t8)/\dU t8 λt19=>aZ 0 t19 λt20=>stW 1 t20 t18 w3 λw4=>dU v0 λt22=>aZ 3 t22 λt23=>ldW false 1 t23 w4 λt24=>dU t24 λt25=>aZ 0 t25 λt26=>ldW false 1 t26 w4 λt27=>cY t27 λt28=>aP .sub t28 (i64 1) λt29=>K t29 w4
theorem XD{K:Q0}(h:aEq v0 v1 w K):aC P0 117 [v0,v1] w K:=
 tie _ 117 Tryz.f117 Uu _ w K 2 _ rfl mixed Tryz.func117 (by kernel_rfl) (by kernel_rfl) Tryz.call117 h
def TY:cK:={js:=[(13,⟨[3],[],1⟩),(6,⟨[3],[],1⟩)],ds:=[]}
def aD5(v0:Value)(w:World)(K:Q0):=cZ [(i64 1)] w λs1 _ w2 L1=>iM v0 λt6=>aP .lss (s1.getD 0 undef) t6 λt7=>aR t7 (bS (λJ3=>pI v0 (s1.getD 0 undef) λt13=>aP .eql t13 (.int .u8 34) λt14=>aR t14 (aP .add (s1.getD 0 undef) (i64 1) λt16=>K t16 w2) (pI v0 (s1.getD 0 undef) λt20=>aP .eql t20 (.int .u8 92) λt21=>aR t21 (aP .add (s1.getD 0 undef) (i64 1) λt23=>J3 [t23] w2) (mW v0 (some (s1.getD 0 undef)) none λt27=>aC P0 43 [t27,(str [36,123])] w2 λt28 w4=>aR t28 (aP .add (s1.getD 0 undef) (i64 1) λt32=>mW v0 (some t32) none λt33=>aC P0 112 [t33] w4 λt34 w5=>aP .add (s1.getD 0 undef) t34 λt35=>J3 [t35] w5) (J3 [(s1.getD 0 undef)] w4)))) λs3 _ w6=>aP .add (s3.getD 0 undef) (i64 1) λt9=>L1 [t9] w6) (iM v0 λt37=>K t37 w2)
theorem Xg{K:Q0}(h:aD5 v0 w K):aC P0 150 [v0] w K:=
 tie _ 150 Tryz.f150 TY _ w K 1 _ rfl mixed Tryz.func150 (by kernel_rfl) (by kernel_rfl) Tryz.call150 h
def TX:cK:={js:=[(8,⟨[4],[],4⟩)],ds:=[(30,⟨[0,1,2,3,4,5,6,7],[[],[],[1],[],[3],[3,4],[3,4,5],[],[0,1,2,3,4,5,6,7]]⟩)]}
def aD4(v0:Value)(w:World)(K:Q0):=eL 67 v0 w λt1 w1=>ldW false 1 t1 w1 λt6=>aC P0 29 [t6] w1 λt7 w2=>bN 73 zL1 w2 λt3 w3=>stW 3 t3 t7 w3 λw4=>bS (λJ5=>ldW false 1 t1 w4 λt9=>dJ 9 1 [(str [])] [(0,1,(str [33]))] w4 λt10 w6=>aC P0 49 [t9,t10] w6 λt11 w7=>aR t11 (J5 [(i64 14)] w7) (ldW false 1 t1 w7 λt13=>dJ 9 1 [(str [])] [(0,1,(str [45]))] w7 λt14 w8=>aC P0 49 [t13,t14] w8 λt15 w9=>aR t15 (J5 [(i64 13)] w9) (ldW false 1 t1 w9 λt33=>aC P0 205 [t33] w9 λt34 w10=>K t34 w10))) λs5 _ w11=>bN 3 zL3 w11 λt5 w12=>stW 1 t5 (i64 0) w12 λw13=>ldW false 1 t1 w13.drew λt16=>aZ 2 t3 λt17=>ldW false 1 t17 w13.drew λt18=>ldW false 1 t1 w13.drew λt19=>dU t19 λt20=>aZ 5 t20 λt21=>ldW false 1 t21 w13.drew λt22=>aC P0 50 [t16,t18,t22,(.func (.func 204) #[] #[t1,t5])] w13.drew λt24 w14=>ldW false 1 t1 w14 λt25=>ldW false 1 t5 w14 λt27=>dJ 3 1 [(i64 0)] [(0,1,t27)] w14 λt28 w15=>aZ 2 t3 λt29=>ldW false 1 t29 w15 λt30=>dI [(i64 0),(str []),sN,sN,(i64 0)] [(0,1,(s5.getD 0 undef)),(2,1,t28),(4,1,t30)] λc16=>aC P0 117 [t25,(.agg c16.toArray)] w15 λt32 w17=>K t32 w17
theorem Xf{K:Q0}(h:aD4 v0 w K):aC P0 151 [v0] w K:=
 tie _ 151 Tryz.f151 TX _ w K 1 _ rfl mixed Tryz.func151 (by kernel_rfl) (by kernel_rfl) Tryz.call151 h
def TW:cK:={js:=[],ds:=[]}
def aD3(v0 v1:Value)(w:World)(K:Q0):=eL 73 v0 w λt2 w1=>aZ 0 t2 λt5=>ldW false 1 t5 w1 λt6=>aP .neq t6 (i64 4) λt7=>aR t7 (K (i64 0) w1) (aP .mul v1 (i64 100) λt9=>dJ 9 13 (List.replicate 13 (str [])) [(0,1,(str [124,124])),(1,1,(str [38,38])),(2,1,(str [61,61])),(3,1,(str [33,61])),(4,1,(str [60])),(5,1,(str [62])),(6,1,(str [60,61])),(7,1,(str [62,61])),(8,1,(str [43])),(9,1,(str [45])),(10,1,(str [42])),(11,1,(str [47])),(12,1,(str [37]))] w1 λt10 w2=>aZ 1 t2 λt11=>ldW false 1 t11 w2 λt12=>aC P0 113 [t10,t12] w2 λt13 w3=>aP .add t9 t13 λt14=>aP .eql t14 (i64 0) λt16=>aR t16 (K (i64 27) w3) (aP .eql t14 (i64 101) λt18=>aR t18 (K (i64 26) w3) (aP .eql t14 (i64 202) λt20=>aR t20 (K (i64 20) w3) (aP .eql t14 (i64 203) λt22=>aR t22 (K (i64 21) w3) (aP .eql t14 (i64 304) λt24=>aR t24 (K (i64 22) w3) (aP .eql t14 (i64 305) λt26=>aR t26 (K (i64 23) w3) (aP .eql t14 (i64 306) λt28=>aR t28 (K (i64 24) w3) (aP .eql t14 (i64 307) λt30=>aR t30 (K (i64 25) w3) (aP .eql t14 (i64 408) λt32=>aR t32 (K (i64 15) w3) (aP .eql t14 (i64 409) λt34=>aR t34 (K (i64 16) w3) (aP .eql t14 (i64 510) λt36=>aR t36 (K (i64 17) w3) (aP .eql t14 (i64 511) λt38=>aR t38 (K (i64 18) w3) (aP .eql t14 (i64 512) λt40=>aR t40 (K (i64 19) w3) (K (i64 0) w3))))))))))))))
theorem Xe{K:Q0}(h:aD3 v0 v1 w K):aC P0 152 [v0,v1] w K:=
 tie _ 152 Tryz.f152 TW _ w K 2 _ rfl mixed Tryz.func152 (by kernel_rfl) (by kernel_rfl) Tryz.call152 h
def Tv:cK:={js:=[],ds:=[]}
def aDJ(v0 v1:Value)(w:World)(K:Q0):=ldW false 1 v0 w λt2=>dU t2 λt3=>aZ 1 t3 λt4=>ldW false 1 t4 w λt5=>aP .add t5 (i64 1) λt6=>dU t2 λt7=>aZ 1 t7 λt8=>stW 1 t8 t6 w λw1=>ldW false 1 v0 w1 λt9=>aC P0 151 [t9] w1 λt10 w2=>stW 1 v1 t10 w2 λw3=>K (.tuple #[]) w3
theorem WE{K:Q0}(h:aDJ v0 v1 w K):aC P0 204 [v0,v1] w K:=
 tie _ 204 Tryz.f204 Tv _ w K 2 _ rfl mixed Tryz.func204 (by kernel_rfl) (by kernel_rfl) Tryz.call204 h
def Tu:cK:={js:=[(5,⟨[3],[],2⟩)],ds:=[(31,⟨[0,1,3,6,7,8],[[],[],[1],[1,2],[],[4],[],[6],[1,2,3,4,5,6,7],[0,1,2,3,4,5,6,7,8],[0,1,2,3,4,5,6,7,8,9]]⟩),(13,⟨[0,1,3,6,7,8],[[],[],[1],[1,2],[],[4],[],[6],[1,2,3,4,5,6,7],[0,1,2,3,4,5,6,7,8],[0,1,2,3,4,5,6,7,8,9]]⟩)]}
def aDI(v0:Value)(w:World)(K:Q0):=eL 67 v0 w λt1 w1=>ldW false 1 t1 w1 λt7=>aC P0 236 [t7] w1 λt8 w2=>cZ [t8] w2 λs3 _ w4 L3=>ldW false 1 t1 w4 λt9=>aC P0 29 [t9] w4 λt10 w5=>bN 73 zL1 w5 λt4 w6=>stW 3 t4 t10 w6 λw7=>ldW false 1 t1 w7 λt13=>aC P0 52 [t13,(str [46])] w7 λt14 w8=>aR t14 (ldW false 1 t1 w8.drew λt15=>ldW false 1 t1 w8.drew λt16=>aZ 2 t4 λt21=>ldW false 1 t21 w8.drew λt22=>(aC P0 46 [t16,(i64 1)] w8.drew λt17 w9=>(ldW false 1 t21 w9 λx=>x=t22)/\(ldW false 1 t1 w9 λx=>x=t15)/\lL false 1 1 t17 λt18=>(ldW false 1 t21 w9 λx=>x=t22)/\(ldW false 1 t1 w9 λx=>x=t15)/\dJ 3 1 [(i64 0)] [(0,1,(s3.getD 0 undef))] w9 λt20 w10=>(ldW false 1 t21 w10 λx=>x=t22)/\(ldW false 1 t1 w10 λx=>x=t15)/\dI [(i64 0),(str []),sN,sN,(i64 0)] [(0,1,(i64 10)),(1,1,t18),(2,1,t20),(4,1,t22)] λc11=>aC P0 117 [t15,(.agg c11.toArray)] w10 λt24 w12=>L3 [t24] w12)/\((ldW false 1 t21 w8.drew λx=>x=t22)/\(ldW false 1 t1 w8.drew λx=>x=t16)/\(ldW false 1 t1 w8.drew λx=>x=t15)/\(aC P0 46 [t16,(i64 1)] w8.drew λt17 w13=>(ldW false 1 t21 w13 λx=>x=t22)/\(ldW false 1 t1 w13 λx=>x=t15)/\lL false 1 1 t17 λt18=>dJ 3 1 [(i64 0)] [(0,1,(s3.getD 0 undef))] w13 λt20 w14=>(ldW false 1 t21 w14 λx=>x=t22)/\(ldW false 1 t1 w14 λx=>x=t15)/\dI [(i64 0),(str []),sN,sN,(i64 0)] [(0,1,(i64 10)),(1,1,t18),(2,1,t20),(4,1,t22)] λc15=>aC P0 117 [t15,(.agg c15.toArray)] w14 λt24 w16=>L3 [t24] w16)/\(dJ 3 1 [(i64 0)] [(0,1,(s3.getD 0 undef))] w8.drew λt20 w17=>(ldW false 1 t21 w17 λx=>x=t22)/\(ldW false 1 t1 w17 λx=>x=t16)/\(ldW false 1 t1 w17 λx=>x=t15)/\aC P0 46 [t16,(i64 1)] w17 λt17 w18=>(ldW false 1 t21 w18 λx=>x=t22)/\(ldW false 1 t1 w18 λx=>x=t15)/\lL false 1 1 t17 λt18=>dI [(i64 0),(str []),sN,sN,(i64 0)] [(0,1,(i64 10)),(1,1,t18),(2,1,t20),(4,1,t22)] λc19=>aC P0 117 [t15,(.agg c19.toArray)] w18 λt24 w20=>L3 [t24] w20))) (ldW false 1 t1 w8 λt26=>dJ 9 1 [(str [])] [(0,1,(str [91]))] w8 λt27 w21=>aC P0 49 [t26,t27] w21 λt28 w22=>aR t28 (bN 3 zL3 w22 λt5 w23=>bN 4 [(.bool false)] w23 λt6 w24=>stW 1 t5 (i64 0) w24 λw25=>stW 1 t6 (.bool false) w25 λw26=>ldW false 1 t1 w26 λt29=>aZ 2 t4 λt30=>ldW false 1 t30 w26 λt31=>aC P0 50 [t29,t31,(.bool true),(.func (.func 237) #[] #[t1,t6,t5])] w26 λt33 w27=>ldW false 1 t6 w27 λt34=>unW .not t34 λt35=>aR t35 (ldW false 1 t1 w27 λt36=>ldW false 1 t5 w27 λt38=>dJ 3 2 [(i64 0),(i64 0)] [(0,1,(s3.getD 0 undef)),(1,1,t38)] w27 λt39 w28=>aZ 2 t4 λt40=>ldW false 1 t40 w28 λt41=>dI [(i64 0),(str []),sN,sN,(i64 0)] [(0,1,(i64 11)),(2,1,t39),(4,1,t41)] λc29=>aC P0 117 [t36,(.agg c29.toArray)] w28 λt43 w30=>L3 [t43] w30) (ldW false 1 t1 w27 λt44=>aC P0 116 [t44,(str [46])] w27 λt45 w31=>ldW false 1 t1 w31.drew λt46=>ldW false 1 t1 w31.drew λt47=>aZ 2 t4 λt52=>ldW false 1 t52 w31.drew λt53=>(aC P0 46 [t47,(i64 1)] w31.drew λt48 w32=>(ldW false 1 t52 w32 λx=>x=t53)/\(ldW false 1 t1 w32 λx=>x=t46)/\lL false 1 1 t48 λt49=>(ldW false 1 t52 w32 λx=>x=t53)/\(ldW false 1 t1 w32 λx=>x=t46)/\dJ 3 1 [(i64 0)] [(0,1,(s3.getD 0 undef))] w32 λt51 w33=>(ldW false 1 t52 w33 λx=>x=t53)/\(ldW false 1 t1 w33 λx=>x=t46)/\dI [(i64 0),(str []),sN,sN,(i64 0)] [(0,1,(i64 30)),(1,1,t49),(2,1,t51),(4,1,t53)] λc34=>aC P0 117 [t46,(.agg c34.toArray)] w33 λt55 w35=>L3 [t55] w35)/\((ldW false 1 t52 w31.drew λx=>x=t53)/\(ldW false 1 t1 w31.drew λx=>x=t47)/\(ldW false 1 t1 w31.drew λx=>x=t46)/\(aC P0 46 [t47,(i64 1)] w31.drew λt48 w36=>(ldW false 1 t52 w36 λx=>x=t53)/\(ldW false 1 t1 w36 λx=>x=t46)/\lL false 1 1 t48 λt49=>dJ 3 1 [(i64 0)] [(0,1,(s3.getD 0 undef))] w36 λt51 w37=>(ldW false 1 t52 w37 λx=>x=t53)/\(ldW false 1 t1 w37 λx=>x=t46)/\dI [(i64 0),(str []),sN,sN,(i64 0)] [(0,1,(i64 30)),(1,1,t49),(2,1,t51),(4,1,t53)] λc38=>aC P0 117 [t46,(.agg c38.toArray)] w37 λt55 w39=>L3 [t55] w39)/\(dJ 3 1 [(i64 0)] [(0,1,(s3.getD 0 undef))] w31.drew λt51 w40=>(ldW false 1 t52 w40 λx=>x=t53)/\(ldW false 1 t1 w40 λx=>x=t47)/\(ldW false 1 t1 w40 λx=>x=t46)/\aC P0 46 [t47,(i64 1)] w40 λt48 w41=>(ldW false 1 t52 w41 λx=>x=t53)/\(ldW false 1 t1 w41 λx=>x=t46)/\lL false 1 1 t48 λt49=>dI [(i64 0),(str []),sN,sN,(i64 0)] [(0,1,(i64 30)),(1,1,t49),(2,1,t51),(4,1,t53)] λc42=>aC P0 117 [t46,(.agg c42.toArray)] w41 λt55 w43=>L3 [t55] w43)))) (K (s3.getD 0 undef) w22))
theorem WC{K:Q0}(h:aDI v0 w K):aC P0 205 [v0] w K:=
 tie _ 205 Tryz.f205 Tu _ w K 1 _ rfl mixed Tryz.func205 (by kernel_rfl) (by kernel_rfl) Tryz.call205 h
def Tg:cK:={js:=[(6,⟨[],[2],5⟩),(23005,⟨[50],[],48⟩)],ds:=[(43,⟨[0,1,3,4],[[],[],[1],[1,2],[],[0,1,2,3,4]]⟩),(42,⟨[0,1,2,4],[[],[0],[],[2],[0,1,2,3],[0,1,2,3,4]]⟩),(13,⟨[0,1,2,4],[[],[0],[],[2],[0,1,2,3],[0,1,2,3,4]]⟩)]}
def aDB(v0:Value)(w:World)(K:Q0):=eL 67 v0 w λt1 w1=>ldW false 1 t1 w1 λt6=>aC P0 29 [t6] w1 λt7 w2=>bN 73 zL1 w2 λt3 w3=>stW 3 t3 t7 w3 λw4=>aZ 2 t3 λt8=>ldW false 1 t8 w4 λt9=>dI [(i64 0),(str []),sN,sN,(i64 0)] [(4,1,t9)] λc5=>bN 93 zL4 w4 λt4 w6=>stW 5 t4 (.agg c5.toArray) w6 λw7=>bS (λJ8=>aZ 0 t3 λt15=>ldW false 1 t15 w7 λt16=>aP .eql t16 (i64 2) λt17=>aR t17 (ldW false 1 t1 w7 λt18=>dU t18 λt19=>aZ 1 t19 λt20=>ldW false 1 t20 w7 λt21=>aP .add t21 (i64 1) λt22=>dU t18 λt23=>aZ 1 t23 λt24=>stW 1 t24 t22 w7 λw9=>aZ 1 t3 λt25=>ldW false 1 t25 w9.drew λt26=>aZ 0 t4 λt27=>stW 1 t27 (i64 4) w9.drew λw10=>(ldW false 1 t25 w10 λx=>x=t26)/\aZ 1 t4 λt28=>stW 1 t28 t26 w10 λw11=>J8 [] w11) (aZ 0 t3 λt30=>ldW false 1 t30 w7 λt31=>aP .eql t31 (i64 3) λt32=>aR t32 (ldW false 1 t1 w7 λt33=>dU t33 λt34=>aZ 1 t34 λt35=>ldW false 1 t35 w7 λt36=>aP .add t36 (i64 1) λt37=>dU t33 λt38=>aZ 1 t38 λt39=>stW 1 t39 t37 w7 λw12=>ldW false 1 t1 w12 λt40=>ldW true 3 t3 w12 λt41=>aC P0 258 [t40,t41] w12 λt42 w13=>K t42 w13) (aZ 0 t3 λt44=>ldW false 1 t44 w7 λt45=>aP .eql t45 (i64 1) λt46=>GdW (isB t46 true) [undef] w7 (λJ14=>aZ 1 t3 λt48=>ldW false 1 t48 w7 λt49=>aP .neq t49 (str [102,111,114]) λt50=>J14 [t50] w7) λs14 _ w15=>cR t46 (s14.getD 0 undef) (.bool false) λt51=>aR t51 (ldW false 1 t1 w15 λt52=>dU t52 λt53=>aZ 1 t53 λt54=>ldW false 1 t54 w15 λt55=>aP .add t55 (i64 1) λt56=>dU t52 λt57=>aZ 1 t57 λt58=>stW 1 t58 t56 w15 λw16=>ldW false 1 t1 w16 λt59=>dJ 9 1 [(str [])] [(0,1,(str [40]))] w16 λt60 w17=>aC P0 49 [t59,t60] w17 λt61 w18=>unW .not t61 λt62=>aR t62 (aZ 1 t3 λt63=>ldW false 1 t63 w18 λt64=>aC P0 259 [t64] w18 λt65 w19=>aZ 0 t4 λt66=>stW 1 t66 t65 w19 λw20=>aZ 0 t4 λt67=>ldW false 1 t67 w20 λt68=>aP .eql t68 (i64 9) λt69=>aR t69 (aZ 1 t3 λt70=>ldW false 1 t70 w20 λt71=>aZ 1 t4 λt72=>stW 1 t72 t71 w20 λw21=>J8 [] w21) (J8 [] w20)) (aZ 1 t3 λt73=>ldW false 1 t73 w18.drew λt74=>aZ 0 t4 λt75=>stW 1 t75 (i64 12) w18.drew λw22=>(ldW false 1 t73 w22 λx=>x=t74)/\aZ 1 t4 λt76=>stW 1 t76 t74 w22 λw23=>ldW false 1 t1 w23.drew λt77=>ldW false 1 t1 w23.drew λt78=>aC P0 29 [t78] w23.drew λt79 w24=>(ldW false 1 t1 w24 λx=>x=t77)/\lL false 2 1 t79 λt80=>aC P0 50 [t77,t80,(.bool true),(.func (.func 260) #[] #[t1,t4])] w24 λt82 w25=>J8 [] w25)) (ldW false 1 t1 w15 λt84=>dJ 9 1 [(str [])] [(0,1,(str [40]))] w15 λt85 w26=>aC P0 49 [t84,t85] w26 λt86 w27=>aR t86 (bN 3 zL3 w27 λt5 w28=>stW 1 t5 (i64 0) w28 λw29=>ldW false 1 t1 w29 λt87=>aZ 2 t3 λt88=>ldW false 1 t88 w29 λt89=>aC P0 50 [t87,t89,(.bool true),(.func (.func 262) #[] #[t1,t5])] w29 λt91 w30=>ldW false 1 t5 w30 λt92=>K t92 w30) (ldW false 1 t1 w27 λt94=>dJ 9 1 [(str [])] [(0,1,(str [91]))] w27 λt95 w31=>aC P0 49 [t94,t95] w31 λt96 w32=>aR t96 (ldW false 1 t1 w32 λt97=>aZ 2 t3 λt98=>ldW false 1 t98 w32 λt99=>aC P0 50 [t97,t99,(.bool true),(.func (.func 263) #[] #[t1,t3,t4])] w32 λt101 w33=>J8 [] w33) (ldW false 1 t1 w32 λt103=>dJ 9 1 [(str [])] [(0,1,(str [123]))] w32 λt104 w34=>aC P0 49 [t103,t104] w34 λt105 w35=>aR t105 (ldW false 1 t1 w35 λt106=>aZ 2 t3 λt107=>ldW false 1 t107 w35 λt108=>aC P0 50 [t106,t108,(.bool false),(.func (.func 265) #[] #[t1,t3,t4])] w35 λt110 w36=>J8 [] w36) (aZ 2 t3 λt11=>ldW false 1 t11 w35 λt12=>aC P0 31 [(i64 50),t12] w35 λt13 w37=>J8 [] w37))))))) λs8 _ w38=>ldW false 1 t1 w38 λt111=>ldW true 5 t4 w38 λt112=>aC P0 117 [t111,t112] w38 λt113 w39=>K t113 w39
theorem Ws{K:Q0}(h:aDB v0 w K):aC P0 236 [v0] w K:=
 tie _ 236 Tryz.f236 Tg _ w K 1 _ rfl mixed Tryz.func236 (by kernel_rfl) (by kernel_rfl) Tryz.call236 h
def Tf:cK:={js:=[(2,⟨[],[],1⟩)],ds:=[]}
def aDA(v0 v1 v2:Value)(w:World)(K:Q0):=ldW false 1 v0 w λt3=>dU t3 λt4=>aZ 1 t4 λt5=>ldW false 1 t5 w λt6=>aP .add t6 (i64 1) λt7=>dU t3 λt8=>aZ 1 t8 λt9=>stW 1 t9 t7 w λw1=>bS (λJ2=>ldW false 1 v0 w1 λt10=>aC P0 52 [t10,(str [42])] w1 λt11 w3=>stW 1 v1 t11 w3 λw4=>ldW false 1 v1 w4 λt12=>unW .not t12 λt13=>aR t13 (ldW false 1 v0 w4 λt14=>aC P0 82 [t14] w4 λt15 w5=>stW 1 v2 t15 w5 λw6=>J2 [] w6) (J2 [] w4)) λs2 _ w7=>ldW false 1 v0 w7 λt16=>aC P0 116 [t16,(str [93])] w7 λt17 w8=>K (.tuple #[]) w8
theorem Wr{K:Q0}(h:aDA v0 v1 v2 w K):aC P0 237 [v0,v1,v2] w K:=
 tie _ 237 Tryz.f237 Tf _ w K 3 _ rfl mixed Tryz.func237 (by kernel_rfl) (by kernel_rfl) Tryz.call237 h
def SY:cK:={js:=[(42,⟨[],[],12⟩),(34,⟨[],[],12⟩),(28,⟨[],[],12⟩),(18,⟨[],[],10⟩),(14,⟨[8,9],[],8⟩)],ds:=[(50,⟨[0,1,2,3,4,5],[[],[],[0,1],[],[],[3,4],[0,1,2],[0,1,2,3,4,5,6]]⟩),(39,⟨[0,1,2,3,4,5,7,8,12],[[],[0],[],[],[],[3,4],[3,4,5],[],[3,4,5,6,7],[2,3,4,5,6,7,8],[2,3,4,5,6,7,8,9],[0,1,2,3,4,5,6,7,8,9,10],[0,1,2,3,4,5,6,7,8,9,10,11],[0,1,2,3,4,5,6,7,8,9,10,11,12]]⟩),(32,⟨[0,1,2,3],[[],[0],[],[2],[0,1],[0,1,2,3,4]]⟩),(15,⟨[0,1,2,3,4],[[],[0],[],[2],[2,3],[],[],[0,1,5,6],[0,1,2,3,4,5,6,7]]⟩),(9,⟨[0,1,2,4,5,6,8],[[],[],[1],[1,2],[],[4],[1,2,3,4,5],[0,1,2,3,4,5,6],[0,1,2,3,4,5,6,7]]⟩)]}
def aDx(v0 v1:Value)(w:World)(K:Q0):=eL 67 v0 w λt2 w1=>eL 73 v1 w1 λt3 w2=>aZ 1 t3 λt13=>ldW false 1 t13 w2 λt14=>aC P0 79 [t14] w2 λt15 w3=>dK 0 t15 λt16=>dK 1 t15 λt17=>aP .lss t16 (i64 0) λt19=>aR t19 (ldW false 1 t2 w3.drew λt20=>aZ 1 t3 λt21=>ldW false 1 t21 w3.drew λt22=>aZ 2 t3 λt24=>ldW false 1 t24 w3.drew λt25=>aC P0 80 [t22] w3.drew λt23 w4=>(ldW false 1 t24 w4 λx=>x=t25)/\(ldW false 1 t2 w4 λx=>x=t20)/\dI [(i64 0),(str []),sN,sN,(i64 0)] [(0,1,(i64 5)),(1,1,t23),(4,1,t25)] λc5=>aC P0 117 [t20,(.agg c5.toArray)] w4 λt27 w6=>K t27 w6) (aZ 2 t3 λt28=>ldW false 1 t28 w3 λt29=>dI [(i64 0),(str []),sN,sN,(i64 0)] [(0,1,(i64 6)),(4,1,t29)] λc7=>bN 93 zL4 w3 λt7 w8=>stW 5 t7 (.agg c7.toArray) w8 λw9=>bS (λJ10=>aZ 1 t3 λt31=>ldW false 1 t31 w9.drew λt32=>aZ 2 t3 λt33=>ldW false 1 t33 w9.drew λt34=>aP .add t34 (i64 1) λt35=>(bN 9 [(str [])] w9.drew λt8 w11=>(ldW false 1 t33 w11 λx=>x=t34)/\(ldW false 1 t31 w11 λx=>x=t32)/\bN 3 zL3 w11 λt9 w12=>(ldW false 1 t33 w12 λx=>x=t34)/\(ldW false 1 t31 w12 λx=>x=t32)/\stW 1 t8 t32 w12 λw13=>(ldW false 1 t33 w13 λx=>x=t34)/\stW 1 t9 t35 w13 λw14=>J10 [t8,t9] w14)/\(bN 3 zL3 w9.drew λt9 w15=>(ldW false 1 t33 w15 λx=>x=t34)/\(ldW false 1 t31 w15 λx=>x=t32)/\bN 9 [(str [])] w15 λt8 w16=>(ldW false 1 t33 w16 λx=>x=t34)/\(ldW false 1 t31 w16 λx=>x=t32)/\stW 1 t8 t32 w16 λw17=>(ldW false 1 t33 w17 λx=>x=t34)/\stW 1 t9 t35 w17 λw18=>J10 [t8,t9] w18)) λs10 _ w19=>cZ [] w19 λs20 _ w21 L20=>ldW false 1 (s10.getD 0 undef) w21 λt36=>aP .neq t36 (str []) λt37=>aR t37 (ldW false 1 (s10.getD 0 undef) w21 λt39=>aC P0 79 [t39] w21 λt40 w22=>dK 0 t40 λt41=>dK 1 t40 λt42=>bN 3 zL3 w22 λt10 w23=>bN 3 zL3 w23 λt11 w24=>stW 1 t10 t41 w24 λw25=>stW 1 t11 t42 w25 λw26=>bS (λJ27=>ldW false 1 t10 w26 λt43=>aP .lss t43 (i64 0) λt44=>aR t44 (ldW false 1 (s10.getD 0 undef) w26.drew λt45=>iM t45 λt46=>ldW false 1 (s10.getD 0 undef) w26.drew λt47=>iM t47 λt48=>stW 1 t10 t46 w26.drew λw28=>(ldW false 1 (s10.getD 0 undef) w28 λx=>x=t47)/\stW 1 t11 t48 w28 λw29=>J27 [] w29) (J27 [] w26)) λs27 _ w30=>bS (λJ31=>ldW false 1 t10 w30 λt49=>aP .gtr t49 (i64 0) λt50=>aR t50 (aZ 2 t7 λt51=>ldW false 1 t51 w30.drew λt52=>ldW false 1 t2 w30.drew λt53=>ldW false 1 (s10.getD 0 undef) w30.drew λt54=>ldW false 1 t10 w30.drew λt55=>mW t54 none (some t55) λt56=>ldW false 1 (s10.getD 1 undef) w30.drew λt58=>aC P0 80 [t56] w30.drew λt57 w32=>(ldW false 1 (s10.getD 1 undef) w32 λx=>x=t58)/\(ldW false 1 t2 w32 λx=>x=t53)/\(ldW false 1 t51 w32 λx=>x=t52)/\dI [(i64 0),(str []),sN,sN,(i64 0)] [(0,1,(i64 5)),(1,1,t57),(4,1,t58)] λc33=>aC P0 117 [t53,(.agg c33.toArray)] w32 λt60 w34=>(ldW false 1 t51 w34 λx=>x=t52)/\dJ 3 1 [(i64 0)] [(0,1,t60)] w34 λt61 w35=>(ldW false 1 t51 w35 λx=>x=t52)/\dF P0 (Builtin.append_ #[30,30] 30 #[t52,t61]) w35 λt62 w36=>aZ 2 t7 λt63=>stW 1 t63 t62 w36 λw37=>aZ 3 t7 λt64=>ldW false 1 t64 w37 λt65=>dJ 9 1 [(str [])] [(0,1,(str [116]))] w37 λt66 w38=>dF P0 (Builtin.append_ #[24,24] 24 #[t65,t66]) w38 λt67 w39=>aZ 3 t7 λt68=>stW 1 t68 t67 w39 λw40=>J31 [] w40) (J31 [] w30)) λs31 _ w41=>bS (λJ42=>ldW false 1 t10 w41 λt69=>ldW false 1 t11 w41 λt70=>aP .lss t69 t70 λt71=>aR t71 (ldW false 1 t2 w41 λt72=>ldW false 1 (s10.getD 1 undef) w41 λt73=>ldW false 1 t10 w41 λt74=>aP .add t73 t74 λt75=>aC P0 50 [t72,t75,(.bool false),(.func (.func 278) #[] #[t7,t2,(s10.getD 0 undef),t10,t11,(s10.getD 1 undef)])] w41 λt77 w43=>aZ 3 t7 λt78=>ldW false 1 t78 w43 λt79=>dJ 9 1 [(str [])] [(0,1,(str [101]))] w43 λt80 w44=>dF P0 (Builtin.append_ #[24,24] 24 #[t79,t80]) w44 λt81 w45=>aZ 3 t7 λt82=>stW 1 t82 t81 w45 λw46=>J42 [] w46) (J42 [] w41)) λs42 _ w47=>ldW false 1 (s10.getD 0 undef) w47.drew λt83=>ldW false 1 t11 w47.drew λt84=>mW t83 (some t84) none λt85=>ldW false 1 (s10.getD 1 undef) w47.drew λt86=>ldW false 1 t11 w47.drew λt87=>aP .add t86 t87 λt88=>stW 1 (s10.getD 0 undef) t85 w47.drew λw48=>(ldW false 1 t11 w48 λx=>x=t87)/\(ldW false 1 (s10.getD 1 undef) w48 λx=>x=t86)/\stW 1 (s10.getD 1 undef) t88 w48 λw49=>L20 [] w49) (ldW false 1 t2 w21 λt89=>ldW true 5 t7 w21 λt90=>aC P0 117 [t89,t90] w21 λt91 w50=>K t91 w50))
theorem Wm{K:Q0}(h:aDx v0 v1 w K):aC P0 258 [v0,v1] w K:=
 tie _ 258 Tryz.f258 SY _ w K 2 _ rfl mixed Tryz.func258 (by kernel_rfl) (by kernel_rfl) Tryz.call258 h
def SX:cK:={js:=[],ds:=[]}
def aDw(v0:Value)(w:World)(K:Q0):=aP .eql v0 (str [110,117,108,108]) λt5=>aR t5 (K (i64 1) w) (aP .eql v0 (str [116,114,117,101]) λt7=>aR t7 (K (i64 2) w) (aP .eql v0 (str [102,97,108,115,101]) λt9=>aR t9 (K (i64 3) w) (K (i64 9) w)))
theorem Wl{K:Q0}(h:aDw v0 w K):aC P0 259 [v0] w K:=
 tie _ 259 Tryz.f259 SX _ w K 1 _ rfl mixed Tryz.func259 (by kernel_rfl) (by kernel_rfl) Tryz.call259 h
def SV:cK:={js:=[],ds:=[]}
def aDv(v0 v1:Value)(w:World)(K:Q0):=ldW false 1 v0 w λt2=>dU t2 λt3=>aZ 1 t3 λt4=>ldW false 1 t4 w λt5=>aP .add t5 (i64 1) λt6=>dU t2 λt7=>aZ 1 t7 λt8=>stW 1 t8 t6 w λw1=>ldW false 1 v0 w1 λt9=>aC P0 261 [t9,(str [41])] w1 λt10 w2=>aZ 2 v1 λt11=>stW 1 t11 t10 w2 λw3=>K (.tuple #[]) w3
theorem Wk{K:Q0}(h:aDv v0 v1 w K):aC P0 260 [v0,v1] w K:=
 tie _ 260 Tryz.f260 SV _ w K 2 _ rfl mixed Tryz.func260 (by kernel_rfl) (by kernel_rfl) Tryz.call260 h
def SU:cK:={js:=[(14,⟨[],[],6⟩),(6,⟨[5],[],2⟩)],ds:=[]}
def aDu(v0 v1:Value)(w:World)(K:Q0):=cZ [sN] w λs1 _ w2 L1=>aC P0 52 [v0,v1] w2 λt8 w3=>unW .not t8 λt9=>aR t9 (bS (λJ4=>cY (s1.getD 0 undef) λt11=>aP .gtr t11 (i64 0) λt12=>aR t12 (aC P0 116 [v0,(str [44])] w3 λt14 w5=>aC P0 52 [v0,v1] w5 λt17 w6=>aR t17 (K (s1.getD 0 undef) w6) (J4 [] w6)) (J4 [] w3)) λs4 _ w7=>aC P0 82 [v0] w7 λt20 w8=>dJ 3 1 [(i64 0)] [(0,1,t20)] w8 λt21 w9=>dF P0 (Builtin.append_ #[30,30] 30 #[(s1.getD 0 undef),t21]) w9 λt22 w10=>L1 [t22] w10) (K (s1.getD 0 undef) w3)
theorem Wj{K:Q0}(h:aDu v0 v1 w K):aC P0 261 [v0,v1] w K:=
 tie _ 261 Tryz.f261 SU _ w K 2 _ rfl mixed Tryz.func261 (by kernel_rfl) (by kernel_rfl) Tryz.call261 h
def SS:cK:={js:=[],ds:=[]}
def aDt(v0 v1:Value)(w:World)(K:Q0):=ldW false 1 v0 w λt2=>dU t2 λt3=>aZ 1 t3 λt4=>ldW false 1 t4 w λt5=>aP .add t5 (i64 1) λt6=>dU t2 λt7=>aZ 1 t7 λt8=>stW 1 t8 t6 w λw1=>ldW false 1 v0 w1 λt9=>aC P0 82 [t9] w1 λt10 w2=>stW 1 v1 t10 w2 λw3=>ldW false 1 v0 w3 λt11=>aC P0 116 [t11,(str [41])] w3 λt12 w4=>K (.tuple #[]) w4
theorem Wi{K:Q0}(h:aDt v0 v1 w K):aC P0 262 [v0,v1] w K:=
 tie _ 262 Tryz.f262 SS _ w K 2 _ rfl mixed Tryz.func262 (by kernel_rfl) (by kernel_rfl) Tryz.call262 h
def SR:cK:={js:=[],ds:=[]}
def aDs(v0 v1 v2:Value)(w:World)(K:Q0):=ldW false 1 v0 w λt3=>ldW true 3 v1 w λt4=>aC P0 264 [t3,t4] w λt5 w1=>stW 5 v2 t5 w1 λw2=>K (.tuple #[]) w2
theorem Wh{K:Q0}(h:aDs v0 v1 v2 w K):aC P0 263 [v0,v1,v2] w K:=
 tie _ 263 Tryz.f263 SR _ w K 3 _ rfl mixed Tryz.func263 (by kernel_rfl) (by kernel_rfl) Tryz.call263 h
def SQ:cK:={js:=[(18,⟨[],[],7⟩),(16,⟨[6],[],5⟩),(8004,⟨[23],[],21⟩)],ds:=[(31,⟨[0,1,2,6],[[],[0],[],[2],[2,3],[0,1,2,3,4],[0,1,2,3,4,5],[0,1,2,3,4,5,6]]⟩),(27,⟨[0,1,2,6],[[],[0],[],[2],[2,3],[0,1,2,3,4],[0,1,2,3,4,5],[0,1,2,3,4,5,6]]⟩),(17,⟨[0,2,3,4,5],[[],[0],[0,1],[],[3],[0,1,2,3,4],[],[0,1,2,3,4,5,6]]⟩),(11,⟨[0,2,3,4],[[],[0],[],[2],[0,1,2,3],[0,1,2,3,4]]⟩)]}
def aDr(v0 v1:Value)(w:World)(K:Q0):=eL 73 v1 w λt3 w1=>bN 93 zL4 w1 λt4 w2=>dU v0 λt9=>aZ 1 t9 λt10=>ldW false 1 t10 w2 λt11=>aP .add t11 (i64 1) λt12=>dU v0 λt13=>aZ 1 t13 λt14=>stW 1 t14 t12 w2 λw3=>aC P0 29 [v0] w3 λt16 w4=>bN 73 zL1 w4 λt5 w5=>stW 3 t5 t16 w5 λw6=>aZ 0 t5 λt17=>ldW false 1 t17 w6 λt18=>aP .neq t18 (i64 1) λt19=>GdW (isB t19 false) [undef] w6 (λJ7=>aZ 1 t5 λt21=>ldW false 1 t21 w6 λt22=>aP .neq t22 (str [102,111,114]) λt23=>J7 [t23] w6) λs7 _ w8=>cR t19 (.bool true) (s7.getD 0 undef) λt24=>aR t24 (aZ 2 t3 λt27=>ldW false 1 t27 w8.drew λt28=>aC P0 261 [v0,(str [93])] w8.drew λt26 w9=>(ldW false 1 t27 w9 λx=>x=t28)/\dI [(i64 0),(str []),sN,sN,(i64 0)] [(0,1,(i64 7)),(2,1,t26),(4,1,t28)] λc10=>stW 5 t4 (.agg c10.toArray) w9 λw11=>ldW true 5 t4 w11 λr12=>K r12 w11) (dU v0 λt31=>aZ 1 t31 λt32=>ldW false 1 t32 w8 λt33=>aP .add t33 (i64 1) λt34=>dU v0 λt35=>aZ 1 t35 λt36=>stW 1 t36 t34 w8 λw13=>bS (λJ14=>aZ 2 t3 λt40=>ldW false 1 t40 w13.drew λt41=>(aC P0 46 [v0,(i64 1)] w13.drew λt38 w15=>(ldW false 1 t40 w15 λx=>x=t41)/\lL false 1 1 t38 λt39=>dI [(i64 0),(str []),sN,sN,(i64 0)] [(0,1,(i64 29)),(1,1,t39),(4,1,t41)] λc16=>bN 93 zL4 w15 λt6 w17=>(ldW false 1 t40 w17 λx=>x=t41)/\stW 5 t6 (.agg c16.toArray) w17 λw18=>J14 [t6] w18)/\(bN 93 zL4 w13.drew λt6 w19=>(ldW false 1 t40 w19 λx=>x=t41)/\aC P0 46 [v0,(i64 1)] w19 λt38 w20=>(ldW false 1 t40 w20 λx=>x=t41)/\lL false 1 1 t38 λt39=>dI [(i64 0),(str []),sN,sN,(i64 0)] [(0,1,(i64 29)),(1,1,t39),(4,1,t41)] λc21=>stW 5 t6 (.agg c21.toArray) w20 λw22=>J14 [t6] w22)) λs14 _ w23=>bS (λJ24=>aC P0 46 [v0,(i64 1)] w23 λt44 w25=>bN 73 zL1 w25 λt7 w26=>stW 3 t7 t44 w26 λw27=>aZ 1 t7 λt45=>ldW false 1 t45 w27 λt46=>aP .neq t46 (str [105,110]) λt47=>aR t47 (aZ 2 t7 λt48=>ldW false 1 t48 w27 λt49=>aC P0 31 [(i64 50),t49] w27 λt50 w28=>J24 [] w28) (J24 [] w27)) λs24 _ w29=>aZ 2 (s14.getD 0 undef) λt51=>ldW false 1 t51 w29.drew λt52=>aC P0 82 [v0] w29.drew λt54 w30=>(ldW false 1 t51 w30 λx=>x=t52)/\dJ 3 1 [(i64 0)] [(0,1,t54)] w30 λt55 w31=>(ldW false 1 t51 w31 λx=>x=t52)/\dF P0 (Builtin.append_ #[30,30] 30 #[t52,t55]) w31 λt56 w32=>aZ 2 (s14.getD 0 undef) λt57=>stW 1 t57 t56 w32 λw33=>aC P0 116 [v0,(str [58])] w33 λt59 w34=>aZ 2 (s14.getD 0 undef) λt60=>ldW false 1 t60 w34.drew λt61=>aC P0 82 [v0] w34.drew λt63 w35=>(ldW false 1 t60 w35 λx=>x=t61)/\dJ 3 1 [(i64 0)] [(0,1,t63)] w35 λt64 w36=>(ldW false 1 t60 w36 λx=>x=t61)/\dF P0 (Builtin.append_ #[30,30] 30 #[t61,t64]) w36 λt65 w37=>aZ 2 (s14.getD 0 undef) λt66=>stW 1 t66 t65 w37 λw38=>aC P0 116 [v0,(str [93])] w38 λt68 w39=>ldW true 5 (s14.getD 0 undef) w39 λt69=>stW 5 t4 t69 w39 λw40=>ldW true 5 t4 w40 λr41=>K r41 w40)
theorem Wg{K:Q0}(h:aDr v0 v1 w K):aC P0 264 [v0,v1] w K:=
 tie _ 264 Tryz.f264 SQ _ w K 2 _ rfl mixed Tryz.func264 (by kernel_rfl) (by kernel_rfl) Tryz.call264 h
def SP:cK:={js:=[],ds:=[]}
def aDq(v0 v1 v2:Value)(w:World)(K:Q0):=ldW false 1 v0 w λt3=>ldW true 3 v1 w λt4=>aC P0 266 [t3,t4] w λt5 w1=>stW 5 v2 t5 w1 λw2=>K (.tuple #[]) w2
theorem We{K:Q0}(h:aDq v0 v1 v2 w K):aC P0 265 [v0,v1,v2] w K:=
 tie _ 265 Tryz.f265 SP _ w K 3 _ rfl mixed Tryz.func265 (by kernel_rfl) (by kernel_rfl) Tryz.call265 h
def SO:cK:={js:=[(43,⟨[],[],6⟩),(45005,⟨[74],[],71⟩),(45011,⟨[68],[],65⟩),(33,⟨[],[],7⟩),(20,⟨[],[],7⟩),(10,⟨[],[],6⟩)],ds:=[(42,⟨[0,1,2,3,6,7,8,12,14],[[],[0],[],[2],[2,3],[0,1,2,3,4],[],[6],[],[0,1,2,3,4,5,8],[0,1,2,3,4,5,8,9],[0,1,2,3,4,5,6,7,8,9,10],[0,1,2,3,4,5,6,7],[0,1,2,3,4,5,6,7,8,9,10,11,12],[0,1,2,3,4,5,6,7,8,9,10,11,12,13],[0,1,2,3,4,5,6,7,8,9,10,11,12,13,14]]⟩)]}
def aDp(v0 v1:Value)(w:World)(K:Q0):=eL 73 v1 w λt3 w1=>bN 93 zL4 w1 λt4 w2=>dU v0 λt8=>aZ 1 t8 λt9=>ldW false 1 t9 w2 λt10=>aP .add t10 (i64 1) λt11=>dU v0 λt12=>aZ 1 t12 λt13=>stW 1 t13 t11 w2 λw3=>aZ 2 t3 λt14=>ldW false 1 t14 w3 λt15=>dI [(i64 0),(str []),sN,sN,(i64 0)] [(0,1,(i64 8)),(4,1,t15)] λc4=>bN 93 zL4 w3 λt5 w5=>stW 5 t5 (.agg c4.toArray) w5 λw6=>aC P0 28 [v0] w6 λt18 w7=>cZ [] w7 λs8 _ w9 L8=>aC P0 52 [v0,(str [125])] w9 λt20 w10=>unW .not t20 λt21=>aR t21 (aC P0 48 [v0] w10 λt23 w11=>bN 73 zL1 w11 λt6 w12=>stW 3 t6 t23 w12 λw13=>bS (λJ14=>aZ 0 t6 λt24=>ldW false 1 t24 w13 λt25=>aP .eql t25 (i64 3) λt30=>aR t30 (ldW true 3 t6 w13 λt32=>aC P0 47 [v0,t32] w13 λt33 w15=>aZ 1 t6 λt34=>stW 1 t34 t33 w15 λw16=>J14 [] w16) (aP .eql t25 (i64 1) λt36=>aR t36 (J14 [] w13) (aZ 2 t6 λt26=>ldW false 1 t26 w13 λt27=>aC P0 31 [(i64 50),t27] w13 λt28 w17=>J14 [] w17))) λs14 _ w18=>bS (λJ19=>aZ 3 t5 λt37=>ldW false 1 t37 w18 λt38=>aZ 1 t6 λt39=>ldW false 1 t39 w18 λt40=>aC P0 81 [t38,t40] w18 λt41 w20=>aR t41 (aZ 2 t6 λt42=>ldW false 1 t42 w20 λt43=>aC P0 31 [(i64 2),t43] w20 λt44 w21=>J19 [] w21) (J19 [] w20)) λs19 _ w22=>aC P0 116 [v0,(str [61])] w22 λt46 w23=>aZ 3 t5 λt47=>ldW false 1 t47 w23.drew λt48=>aZ 1 t6 λt49=>ldW false 1 t49 w23.drew λt50=>aZ 2 t5 λt53=>ldW false 1 t53 w23.drew λt54=>dJ 9 1 [(str [])] [(0,1,t50)] w23.drew λt51 w24=>(ldW false 1 t53 w24 λx=>x=t54)/\(ldW false 1 t47 w24 λx=>x=t48)/\dF P0 (Builtin.append_ #[24,24] 24 #[t48,t51]) w24 λt52 w25=>(ldW false 1 t53 w25 λx=>x=t54)/\aZ 3 t5 λt59=>aC P0 82 [v0] w25 λt56 w26=>(ldW false 1 t53 w26 λx=>x=t54)/\dJ 3 1 [(i64 0)] [(0,1,t56)] w26 λt57 w27=>(ldW false 1 t53 w27 λx=>x=t54)/\dF P0 (Builtin.append_ #[30,30] 30 #[t54,t57]) w27 λt58 w28=>stW 1 t59 t52 w28 λw29=>aZ 2 t5 λt60=>stW 1 t60 t58 w29 λw30=>bS (λJ31=>aC P0 52 [v0,(str [44])] w30 λt62 w32=>unW .not t62 λt63=>GdW (isB t63 true) [undef] w32 (λJ33=>aC P0 29 [v0] w32 λt66 w34=>lL false 0 1 t66 λt67=>aP .neq t67 (i64 5) λt68=>J33 [t68] w34) λs33 _ w35=>cR t63 (s33.getD 0 undef) (.bool false) λt69=>GdW (isB t69 true) [undef] w35 (λJ36=>dJ 9 1 [(str [])] [(0,1,(str [125]))] w35 λt72 w37=>aC P0 49 [v0,t72] w37 λt73 w38=>unW .not t73 λt74=>J36 [t74] w38) λs36 _ w39=>cR t69 (s36.getD 0 undef) (.bool false) λt75=>aR t75 (aC P0 29 [v0] w39 λt77 w40=>lL false 2 1 t77 λt78=>aC P0 31 [(i64 50),t78] w40 λt79 w41=>J31 [] w41) (J31 [] w39)) λs31 _ w42=>aC P0 28 [v0] w42 λt81 w43=>L8 [] w43) (ldW true 5 t5 w10 λt82=>stW 5 t4 t82 w10 λw44=>ldW true 5 t4 w44 λr45=>K r45 w44)
theorem Wd{K:Q0}(h:aDp v0 v1 w K):aC P0 266 [v0,v1] w K:=
 tie _ 266 Tryz.f266 SO _ w K 2 _ rfl mixed Tryz.func266 (by kernel_rfl) (by kernel_rfl) Tryz.call266 h
def SN:cK:={js:=[],ds:=[(0,⟨[0,1,2,3,4,5,6,7,8,9,10,11,12,16],[[],[0],[],[],[],[4],[],[6],[3,4,5,6,7],[],[],[9,10],[9,10,11],[2,3,4,5,6,7,8,9,10,11,12],[2,3,4,5,6,7,8,9,10,11,12,13],[0,1,2,3,4,5,6,7,8,9,10,11,12,13,14],[0,1,2,3,4,5,6,7,8,9,10,11,12,13,14,15],[0,1,2,3,4,5,6,7,8,9,10,11,12,13,14,15,16]]⟩)]}
def aDo(v0 v1 v2 v3 v4 v5:Value)(w:World)(K:Q0):=aZ 2 v0 λt6=>ldW false 1 t6 w.drew λt7=>ldW false 1 v1 w.drew λt8=>ldW false 1 v2 w.drew λt9=>ldW false 1 v3 w.drew λt10=>aP .add t10 (i64 2) λt11=>ldW false 1 v4 w.drew λt12=>aP .sub t12 (i64 1) λt13=>mW t9 (some t11) (some t13) λt14=>ldW false 1 v5 w.drew λt15=>ldW false 1 v3 w.drew λt16=>aP .add t15 t16 λt17=>aP .add t17 (i64 2) λt18=>aC P0 279 [t8,t14,t18] w.drew λt19 w1=>(ldW false 1 t6 w1 λx=>x=t7)/\dJ 3 1 [(i64 0)] [(0,1,t19)] w1 λt20 w2=>(ldW false 1 t6 w2 λx=>x=t7)/\dF P0 (Builtin.append_ #[30,30] 30 #[t7,t20]) w2 λt21 w3=>aZ 2 v0 λt22=>stW 1 t22 t21 w3 λw4=>K (.tuple #[]) w4
theorem Wc{K:Q0}(h:aDo v0 v1 v2 v3 v4 v5 w K):aC P0 278 [v0,v1,v2,v3,v4,v5] w K:=
 tie _ 278 Tryz.f278 SN _ w K 6 _ rfl mixed Tryz.func278 (by kernel_rfl) (by kernel_rfl) Tryz.call278 h
def SL:cK:={js:=[(4,⟨[],[],8⟩)],ds:=[(11,⟨[0,1,2,3,4,5,6,7,8,9,10,12],[[],[],[],[2],[2,3],[2,3,4],[],[6],[6,7],[6,7,8],[0,1,2,3,4,5,6,7,8,9],[0,1,2,3,4,5,6,7,8,9,10],[0,1,2,3,4,5,6,7,8,9,10,11]]⟩),(8,⟨[0,1,2,3,4,5,6,7,8,9],[[],[0],[0,1],[0,1,2],[],[],[5],[5,6],[5,6,7],[4,5,6,7,8],[0,1,2,3,4,5,6,7,8,9]]⟩)]}
def aDn(v0 v1 v2:Value)(w:World)(K:Q0):=aC P0 26 [v1] w λt13 w1=>dK 0 t13 λt14=>dK 1 t13 λt15=>bS (λJ2=>eqW .ptr true t15 (.pointer none) λt17=>aR t17 (dU t15 λt19=>aZ 0 t19 λt20=>ldW false 1 t20 w1.drew λt21=>dU t15 λt24=>aZ 2 t24 λt25=>ldW false 1 t25 w1.drew λt26=>aP .add v2 t26 λt27=>aC P0 31 [t21,t27] w1.drew λt28 w3=>J2 [] w3) (J2 [] w1)) λs2 _ w4=>dU v0 λt32=>aZ 3 t32 λt33=>ldW false 1 t33 w4.drew λt34=>dU v0 λt36=>aZ 4 t36 λt37=>ldW false 1 t37 w4.drew λt38=>dI [sN,(i64 0),(i64 0),(.pointer none),(i64 0),(.bool false)] [(0,1,t14),(2,1,v2),(3,1,t34),(4,1,t38)] λc5=>eL 70 (.agg c5.toArray) w4.drew λt40 w6=>aC P0 82 [t40] w6 λt42 w7=>aC P0 46 [t40,(i64 0)] w7 λt44 w8=>K t42 w8
theorem Wb{K:Q0}(h:aDn v0 v1 v2 w K):aC P0 279 [v0,v1,v2] w K:=
 tie _ 279 Tryz.f279 SL _ w K 3 _ rfl mixed Tryz.func279 (by kernel_rfl) (by kernel_rfl) Tryz.call279 h
end
end Go.Proofs.YtghhmpppnmoeoaaGreatDoor
