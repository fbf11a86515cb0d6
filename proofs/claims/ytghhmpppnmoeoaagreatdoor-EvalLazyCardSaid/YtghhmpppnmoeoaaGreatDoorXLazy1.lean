/- One plain sentence: weakest preconditions, contracts and plain laws that the claim rests on, text behind text. Conditions: those that each states. -/
import Derived.Orders
import Derived.Laws.World
import Derived.KernelRfl
import Derived.Laws.Strings
import Derived.Tactics
import Derived.Scope
import Derived.Below
import Derived.Laws.AppendOwn
import Derived.Laws.BytesArg
import Derived.Test.YtghhmpppnmoeoaaGreatDoorProg
import Derived.Recover
set_option linter.all false
set_option linter.unusedSimpArgs false
set_option linter.unusedVariables false
set_option linter.unusedSectionVars false
set_option maxRecDepth 100000
namespace Go.Eng
section
open Go
variable{w:World}{K:Value->World->Prop}{cs:List Value}{G:Nat->Prop}{T:TypeId}{i:Nat}{n:Nat}{v:Value}{w':World}{P:Program}{c:UInt8}{S:Nat->Prop}
abbrev Fr:=Nat->Value
def upd(f:Fr)(d:Option Nat)(v:Value):Fr:=
 match d with
 |none=>f
 |some d=>λj=>bif Nat.beq j d then v else f j
def ev(f:Fr):Operand->Value
 |.tmp t=>f t
 |.const v=>v
 |.global g=>.pointer (some ⟨g,0,none⟩)
 |.func g=>.func (.func g) #[] #[]
def Am(f:Fr)(a:Array Operand):List Value:=a.toList.map (ev f)
def aL(l:List UInt8):ByteArray:=⟨l.toArray⟩
theorem cK(l:List UInt8):(aL l).data.toList=l:=by simp[aL]
theorem dC(l:List UInt8):(aL l).size=l.length:=by simp[aL,ByteArray.size]
theorem JZ{a b:List UInt8}:aL a=aL b↔a=b:=by
 constructor
 ·intro h;have:=congrArg (λs=>s.data.toList) h;simpa[aL]using this
 ·rintro rfl;rfl
class HX where
 X:List PanicEntry->World->Prop
@[reducible] def noX:HX:=⟨λ_ _=>False⟩
def Cp[HX](K:Value->World->Prop):Ending->World->Prop
 |.returned v,w=>K v w
 |.panicked c,w=>HX.X c w
 |.outgrown,_=>False
theorem Cp.mono[HX]{K':Value->World->Prop}(hk:∀v w,K v w->K' v w){e:Ending}(h:Cp K e w):Cp K' e w:=by
 cases e with
 |returned v=>exact hk _ _ h
 |panicked c=>exact h
 |outgrown=>exact h.elim
def HY[HX](P:Program)(K:Value->World->Prop):Result Next->Prop
 |.ok (.value v) w=>K v w
 |.ok .skip w=>K undef w
 |.ok (.enter g args) w=>Calls P g args w (Cp K)
 |.ok (.row r args) w=>Rows P r args w K
 |.halt (.panic v) w=>HX.X [{v,recovered:=false}] w
 |_=>False
theorem HY.upon[HX]{o:Oper}{a:Act}{next:Act->World->Prop}{Q:Exit->Act->World->Prop}
  (hk:∀v w,K v w->next (a.put o.dst v) w)(hx:∀c w,HX.X c w->Q (.panic c) a w){r:Result Next}(h:HY P K r):o.upon P a next Q r:=by
 cases r with
 |ok n w=>
  cases n<;>simp only[HY]at h<;>simp only[Oper.upon]<;>first
   |exact hk _ _ h
   |exact h.elim
   |exact h.mono λ_ _ he=>hk _ _ he
   |(refine h.mono λe w' he=>?_
     cases e with
     |returned v=>exact hk _ _ he
     |panicked c=>exact hx _ _ he
     |outgrown=>exact he.elim)
 |halt x w=>
  cases x<;>simp only[HY]at h<;>simp only[Oper.upon]<;>first
   |exact h.elim
   |exact hx _ _ h
theorem HY.mono[HX]{K':Value->World->Prop}(hk:∀v w,K v w->K' v w){r:Result Next}(h:HY P K r):HY P K' r:=by
 cases r with
 |ok n w=>
  cases n<;>simp only[HY]at h⊢<;>first
   |exact hk _ _ h
   |exact h.elim
   |exact h.mono λ_ _ he=>hk _ _ he
   |exact h.mono λe w' he=>he.mono hk
 |halt x w=>
  cases x<;>simp only[HY]at h⊢<;>first
   |exact h.elim
   |exact h
def gL(c:Bool)(A:Prop):Prop:=bif c then A else False
theorem gL.out{c:Bool}{A:Prop}(h:gL c A):c=true/\A:=by
 cases c with
 |true=>exact⟨rfl,h⟩
 |false=>exact h.elim
def bG(c a b:Value)(K:Value->Prop):Prop:=match c with|.bool t=>K (bif t then a else b)|_=>False
def bW(v:Value)(K:Value->Prop):Prop:=
 match v with
 |.pointer (some _)=>K v
 |.func (.func _) _ _=>K v
 |.iface _ _=>K v
 |_=>False
def aC(op:BinOp)(x y:Value)(K:Value->Prop):Prop:=
 match x,y with
 |.int k a,.int k' b=>
  match op with
  |.shl=>0<=b/\K (.int k (k.wrap (a*2^min b.toNat k.bits)))
  |.shr=>0<=b/\K (.int k (a.fdiv (2^min b.toNat k.bits)))
  |.add=>k=k'/\K (.int k (k.wrap (a+b)))
  |.sub=>k=k'/\K (.int k (k.wrap (a-b)))
  |.mul=>k=k'/\K (.int k (k.wrap (a*b)))
  |.quo=>k=k'/\b≠0/\K (.int k (k.wrap (a.tdiv b)))
  |.rem=>k=k'/\b≠0/\K (.int k (a.tmod b))
  |.and=>k=k'/\K (.int k (k.wrap (BitVec.ofInt k.bits a&&&BitVec.ofInt k.bits b).toNat))
  |.or=>k=k'/\K (.int k (k.wrap (BitVec.ofInt k.bits a|||BitVec.ofInt k.bits b).toNat))
  |.xor=>k=k'/\K (.int k (k.wrap (BitVec.ofInt k.bits a^^^BitVec.ofInt k.bits b).toNat))
  |.andNot=>k=k'/\K (.int k (k.wrap (BitVec.ofInt k.bits a&&&~~~BitVec.ofInt k.bits b).toNat))
  |.eql=>k=k'/\K (.bool (decide (a=b)))
  |.neq=>k=k'/\K (.bool (decide (a≠b)))
  |.lss=>k=k'/\K (.bool (decide (a<b)))
  |.leq=>k=k'/\K (.bool (decide (a<=b)))
  |.gtr=>k=k'/\K (.bool (decide (b<a)))
  |.geq=>k=k'/\K (.bool (decide (b<=a)))
 |.string a,.string b=>
  match op with
  |.add=>((a.size+b.size:Nat):Int)<=IntKind.i64.max/\K (.string (a++b))
  |.eql=>K (.bool (decide (a.data.toList=b.data.toList)))
  |.neq=>K (.bool (decide (a.data.toList≠b.data.toList)))
  |.lss=>K (.bool (Op.bytesLess a.data.toList b.data.toList))
  |.leq=>K (.bool (Op.bytesLess a.data.toList b.data.toList||decide (a.data.toList=b.data.toList)))
  |.gtr=>K (.bool (!(Op.bytesLess a.data.toList b.data.toList||decide (a.data.toList=b.data.toList))))
  |.geq=>K (.bool (!Op.bytesLess a.data.toList b.data.toList))
  |_=>False
 |_,_=>False
inductive VQ|bool|ptr|slice|map|func
def VQ.of:TypeDesc->Option VQ
 |.bool=>some .bool
 |.pointer _=>some .ptr
 |.slice _=>some .slice
 |.map _ _=>some .map
 |.func _ _ _=>some .func
 |_=>none
def tR(k:VQ)(n:Bool)(x y:Value)(K:Value->Prop):Prop:=
 match k,x,y with
 |.bool,.bool a,.bool b=>K (.bool (n^^(a==b)))
 |.ptr,.pointer none,.pointer b=>K (.bool (n^^b.isNone))
 |.ptr,.pointer (some _),.pointer none=>K (.bool n)
 |.slice,.slice none _ _,.slice b _ _=>K (.bool (n^^b.isNone))
 |.slice,.slice (some _) _ _,.slice none _ _=>K (.bool n)
 |.map,.map none,.map b=>K (.bool (n^^b.isNone))
 |.map,.map (some _),.map none=>K (.bool n)
 |.func,.nilFunc,.nilFunc=>K (.bool (!n))
 |.func,.nilFunc,.func _ _ _=>K (.bool n)
 |.func,.func _ _ _,.nilFunc=>K (.bool n)
 |_,_,_=>False
def gU(op:UnOp)(x:Value)(K:Value->Prop):Prop:=
 match op,x with
 |.not,.bool b=>K (.bool (!b))
 |.neg,.int k n=>K (.int k (k.wrap (0-n)))
 |.xor,.int k n=>K (.int k (k.wrap (BitVec.ofInt k.bits (if k.signed then-1 else k.max)^^^BitVec.ofInt k.bits n).toNat))
 |_,_=>False
def oO(k:IntKind)(x:Value)(K:Value->Prop):Prop:=match x with|.int _ n=>K (.int k (k.wrap n))|_=>False
def TB(x:Value)(K:Value->Prop):Prop:=match x with|.int _ n=>K (.string (Utf8.encode n))|.string s=>K (.string s)|_=>False
def gX(agg:Bool)(off size:Nat)(x:Value)(K:Value->Prop):Prop:=
 match x with
 |.agg cs=>bif agg then K (.agg (cs.extract off (off+size)))else(∃c,cs[off]?=some c/\K c)
 |_=>False
def aF(off:Nat)(x:Value)(K:Value->Prop):Prop:=
 match x with
 |.pointer (some a)=>K (.pointer (some (a.add off)))
 |_=>False
def bU(len:Option Nat)(size:Nat)(x i:Value)(K:Value->Prop):Prop:=
 match len,x,i with
 |none,.slice (some a) n _,.int _ i=>0<=i/\i<n/\K (.pointer (some (a.add (i.toNat*size))))
 |some n,.pointer (some a),.int _ i=>0<=i/\i<n/\K (.pointer (some (a.add (i.toNat*size))))
 |_,_,_=>False
def lJ(x i:Value)(K:Value->Prop):Prop:=
 match x,i with
 |.string s,.int _ i=>0<=i/\∃b,s.data.toList[i.toNat]?=some b/\K (.int .u8 b.toNat)
 |_,_=>False
def SS(len:Nat)(agg:Bool)(size:Nat)(x i:Value)(K:Value->Prop):Prop:=
 match i with
 |.int _ i=>0<=i/\i<len/\gX agg (i.toNat*size) size x K
 |_=>False
def BX(x:Option Value)(dflt:Nat)(lim:Nat)(K:Nat->Prop):Prop:=
 match x with
 |none=>K dflt
 |some (.int _ i)=>0<=i/\i<=lim/\K i.toNat
 |some _=>False
def jG(x:Value)(lo hi:Option Value)(K:Value->Prop):Prop:=
 match x with
 |.string s=>BX hi s.size s.size λh=>BX lo 0 h λl=>K (.string (aL ((s.data.toList.take h).drop l)))
 |_=>False
def fX(size:Nat)(x:Value)(lo hi mx:Option Value)(K:Value->Prop):Prop:=
 match x with
 |.slice a len cap=>BX mx cap cap λm=>(BX hi len m λh=>BX lo 0 h λl=>
   K (.slice (if m=l then a else a.map (·.add (l*size))) (h-l) (m-l)))
 |_=>False
def Lj(n size:Nat)(x:Value)(lo hi mx:Option Value)(K:Value->Prop):Prop:=
 match x with
 |.pointer (some a)=>BX mx n n λm=>(BX hi n m λh=>BX lo 0 h λl=>
   K (.slice (some (if m=l then a else a.add (l*size))) (h-l) (m-l)))
 |_=>False
def bS(i:Nat)(x:Value)(K:Value->Prop):Prop:=match x with|.tuple vs=>(match vs[i]? with|some v=>K v|none=>False)|_=>False
def bQ(cells:List Value):List (Nat×Nat×Value)->(List Value->Prop)->Prop
 |[],K=>K cells
 |(off,size,v)::r,K=>v.cells.size=size/\off+size<=cells.length/\bQ (cells.take off++(v.cells.toList++cells.drop (off+size))) r K
def eQ(x:Value)(K:Value->Prop):Prop:=match x with|.string s=>K (.int .i64 s.size)|_=>False
def bK(x:Value)(K:Value->Prop):Prop:=match x with|.slice _ n _=>K (.int .i64 n)|_=>False
def Ml(x:Value)(K:Value->Prop):Prop:=match x with|.slice _ _ n=>K (.int .i64 n)|_=>False
def SI(x y:Value)(K:Value->Prop):Prop:=match x,y with|.int k a,.int _ b=>K (.int k (if b<a then b else a))|_,_=>False
def Wi(x y z:Value)(K:Value->Prop):Prop:=match x,y,z with|.int k a,.int _ b,.int _ c=>K (.int k (if c<(if b<a then b else a)then c else(if b<a then b else a)))|_,_,_=>False
def NU(x y:Value)(K:Value->Prop):Prop:=match x,y with|.int k a,.int _ b=>K (.int k (if a<b then b else a))|_,_=>False
def fU(w:World)(a:Addr):Nat->Nat->Option (List Value)
 |_,0=>some []
 |i,n+1=>match w.cell? (a.add i)with|some v=>(fU w a (i+1) n).map (v::·)|none=>none
def aE(agg:Bool)(n:Nat)(x:Value)(w:World)(K:Value->Prop):Prop:=
 match x with
 |.pointer (some a)=>bif agg then(∃l,fU w a 0 n=some l/\K (.agg l.toArray))else(∃v,w.cell? a=some v/\K v)
 |_=>False
def jP(P:Program)(s:Sem Value)(w:World)(K:Value->Prop):Prop:=∃v,s.run P w=.ok v w/\K v
def bP(P:Program)(s:Sem Value)(w:World)(K:Value->World->Prop):Prop:=match s.run P w with|.ok v w'=>K v w'|_=>False
def jV(P:Program)(s:Sem Unit)(w:World)(K:World->Prop):Prop:=match s.run P w with|.ok _ w'=>K w'|_=>False
def Nf[HX](P:Program)(s:Sem Next)(w:World)(K:Value->World->Prop):Prop:=HY P K (s.run P w)
def aN(T:TypeId)(zero:List Value)(w:World)(K:Value->World->Prop):Prop:=
 K (.pointer (some ⟨w.heap.size,0,none⟩)) (w.alloc (.cells zero.toArray T))
def cI(T:TypeId)(v:Value)(w:World)(K:Value->World->Prop):Prop:=
 K (.pointer (some ⟨w.heap.size,0,none⟩)) (w.alloc (.cells v.cells T))
def bR(T:TypeId)(len:Nat)(zero:List Value)(parts:List (Nat×Nat×Value))(w:World)(K:Value->World->Prop):Prop:=
 bQ zero parts λcs=>K (.slice (some ⟨w.heap.size,0,none⟩) len len) (w.alloc (.cells cs.toArray T))
def cY:Value->Bool
 |.agg _|.tuple _=>false
 |_=>true
def pA(a:Addr):List Value->Nat->World->(World->Prop)->Prop
 |[],_,w,K=>K w
 |v::r,i,w,K=>cY v=true/\(w.cell? (a.add i)).isSome=true/\w.frozen? (a.add i)=false/\pA a r (i+1) (w.setCell (a.add i) v) K
def bF(n:Nat)(x v:Value)(w:World)(K:World->Prop):Prop:=
 match x with
 |.pointer (some a)=>v.cells.size=n/\pA a v.cells.toList 0 w K
 |_=>False
def Wu[HX](P:Program)(g:FuncId)(args:List Value)(w:World)(K:Value->World->Prop):Prop:=
 Calls P g args.toArray w (Cp K)
def Lw[HX](x:Value)(w:World):Prop:=match x with|.iface T v=>HX.X [{v:=.iface T v,recovered:=false}] w|_=>False
def aA[HX](P:Program)(g:FuncId)(args:List Value)(w:World)(K:Value->World->Prop):Prop:=
 HY P K ((callFunc g args.toArray).run P w)
def kP[HX](P:Program)(v:Value)(args:List Value)(w:World)(K:Value->World->Prop):Prop:=
 Nf P (do let d<-Deferred.ofValue v args.toArray;invoke d.target d.args) w K
def Za:TypeDesc->Bool
 |.struct _|.array _ _=>true
 |_=>false
def qE(P:Program)(T:TypeId):Bool:=match P.underlying T with|some d=>Za d|none=>false
def fO(P:Program)(T:TypeId):Nat:=match P.info? T with|some i=>i.size|none=>0
def zL(P:Program)(T:TypeId):Option Value:=match P.info? T with|some i=>i.zero|none=>none
def pH(places:Nat->Option (Nat×Nat))(f:Fr):List (Nat×Operand)->Option (List (Nat×Nat×Value))
 |[]=>some []
 |(i,x)::r=>match places i,pH places f r with
  |some (off,size),some l=>some ((off,size,ev f x)::l)
  |_,_=>none
def IA(P:Program)(fs:Array Field)(i:Nat):Option (Nat×Nat):=match fs[i]? with|some g=>some (g.offset,fO P g.type)|none=>none
def JB(P:Program)(T:TypeId)(f:Fr)(parts:List (Nat×Operand))(K:Value->Prop):Prop:=
 match P.underlying T,zL P T with
 |some (.struct fs),some z=>
  (match pH (IA P fs) f parts with
   |some l=>gL (fs.all (λg=>(P.info? g.type).isSome)) (bQ z.cells.toList l λcs=>K (.agg cs.toArray))
   |none=>False)
 |some (.array _ e),some z=>
  (match pH (λi=>some (i*fO P e,fO P e)) f parts with
   |some l=>gL (P.info? e).isSome (bQ z.cells.toList l λcs=>K (.agg cs.toArray))
   |none=>False)
 |_,_=>False
def aBN(P:Program)(op:BinOp)(T:TypeId)(x y:Value)(K:Value->Prop):Prop:=
 match op,(match P.underlying T with|some d=>VQ.of d|none=>none)with
 |.eql,some k=>tR k false x y K
 |.neq,some k=>tR k true x y K
 |_,_=>aC op x y K
def Wq(P:Program)(s d:TypeId)(x:Value)(K:Value->Prop):Prop:=
 match P.underlying s,P.underlying d with
 |some (.int _),some (.int k)=>oO k x K
 |some (.int _),some .string=>TB x K
 |some .string,some .string=>TB x K
 |_,_=>False
def By(P:Program)(T:TypeId)(x i:Value)(K:Value->Prop):Prop:=
 match P.underlying T with
 |some (.slice e)=>gL (P.info? e).isSome (bU none (fO P e) x i K)
 |some (.array n e)=>gL (P.info? e).isSome (bU (some n) (fO P e) x i K)
 |_=>False
def OJ(P:Program)(T:TypeId)(x i:Value)(K:Value->Prop):Prop:=
 match P.underlying T with
 |some .string=>lJ x i K
 |some (.array n e)=>gL (P.underlying e).isSome (SS n (qE P e) (fO P e) x i K)
 |_=>False
def Iu(P:Program)(T:TypeId)(x:Value)(lo hi mx:Option Value)(K:Value->Prop):Prop:=
 match P.underlying T with
 |some .string=>gL (!mx.isSome) (jG x lo hi K)
 |some (.slice e)=>gL (!mx.isSome||hi.isSome) (gL (P.info? e).isSome (fX (fO P e) x lo hi mx K))
 |some (.array n e)=>gL (!mx.isSome||hi.isSome) (gL (P.info? e).isSome (Lj n (fO P e) x lo hi mx K))
 |_=>False
def CK(P:Program)(b:Builtin)(argTypes:Array TypeId)(args:List Value)(K:Value->Prop):Prop:=
 match b,args with
 |.len,[x]=>(match argTypes[0]? with
   |some T=>(match P.underlying T with
    |some .string=>eQ x K
    |some (.slice _)=>bK x K
    |some (.array n _)=>K (.int .i64 n)
    |_=>False)
   |none=>False)
 |.cap,[x]=>(match argTypes[0]? with
   |some T=>(match P.underlying T with
    |some (.slice _)=>Ml x K
    |_=>False)
   |none=>False)
 |.min,[x,y]=>SI x y K
 |.min,[x,y,z]=>Wi x y z K
 |.max,[x,y]=>NU x y K
 |_,_=>False
def JU(P:Program)(f:Fr)(op:Op)(K:Value->Prop):Prop:=
 match op with
 |.move x|.assign x=>K (ev f x)
 |.pick c a b=>bG (ev f c) (ev f a) (ev f b) K
 |.nilCheck x=>bW (ev f x) K
 |.binOp op T x y _=>aBN P op T (ev f x) (ev f y) K
 |.unOp op _ x=>gU op (ev f x) K
 |.convert s d x=>Wq P s d (ev f x) K
 |.makeInterface T x=>(match P.underlying T with|some (.interface _)=>False|none=>False|_=>K (.iface T (ev f x)))
 |.makeFunc fn first cap=>K (.func fn (Am f first).toArray (Am f cap).toArray)
 |.field T x i=>(match P.underlying T with
   |some (.struct fs)=>(match fs[i]? with|some g=>gL (P.underlying g.type).isSome (gX (qE P g.type) g.offset (fO P g.type) (ev f x) K)|none=>False)
   |_=>False)
 |.fieldAddr T x i=>(match P.underlying T with
   |some (.struct fs)=>(match fs[i]? with|some g=>gL (!(Nat.beq (fO P g.type) 0)) (aF g.offset (ev f x) K)|none=>False)
   |_=>False)
 |.indexAddr T x i=>By P T (ev f x) (ev f i) K
 |.index T x i=>OJ P T (ev f x) (ev f i) K
 |.slice T x lo hi mx=>Iu P T (ev f x) (lo.map (ev f)) (hi.map (ev f)) (mx.map (ev f)) K
 |.extract t i=>bS i (ev f t) K
 |.build T parts=>JB P T f parts.toList K
 |.call {callee:=.builtin b,args,argTypes}=>CK P b argTypes (Am f args) K
 |_=>False
def iW(P:Program):Op->Bool
 |.move _|.assign _|.pick ..|.nilCheck _|.unOp ..|.makeInterface ..|.makeFunc ..|.field ..|.fieldAddr ..|.indexAddr ..|.index ..|.slice ..
 |.extract ..|.build ..=>true
 |.binOp op T _ _ _=>(match op with
  |.eql|.neq=>(match P.underlying T with|some (.interface _)|some (.struct _)|some (.array _ _)|some (.chan _ _)|none=>false|_=>true)
  |_=>true)
 |.convert s d _=>(match P.underlying s,P.underlying d with|some (.int _),some (.int _)|some (.int _),some .string|some .string,some .string=>true|_,_=>false)
 |.call {callee:=.builtin b,argTypes,..}=>(match b with
  |.min|.max|.cap=>true
  |.len=>(match argTypes[0]? with|some T=>(match P.underlying T with|some (.map _ _)|none=>false|_=>true)|none=>false)
  |_=>false)
 |_=>false
def sK(P:Program)(s:Sem Value)(K:Value->Prop):Prop:=∃v,K v/\∀w,s.run P w=.ok v w
theorem run_bind{α β:Type}(P:Program)(s:Sem α)(k:α->Sem β)(w:World):
  (s>>=k).run P w=match s.run P w with|.ok a w'=>(k a).run P w'|.halt h w'=>.halt h w':=by
 show(Sem.bind s k).run P w=_;induction s generalizing w with
 |pure a=>simp[Sem.bind,Sem.run]
 |load m a c ih=>simp only[Sem.bind,Sem.run];(repeat' split)<;>simp_all
 |store m a v c ih=>
  cases v<;>simp only[Sem.bind,Sem.run]<;>((repeat' split)<;>simp_all)
 |new o c ih=>simp[Sem.bind,Sem.run,ih]
 |shape r c ih=>simp[Sem.bind,Sem.run,ih]
 |freeze a n c ih=>simp[Sem.bind,Sem.run,ih]
 |frozen a c ih=>simp[Sem.bind,Sem.run,ih]
 |getObj r c ih=>simp only[Sem.bind,Sem.run];(repeat' split)<;>simp_all
 |setObj r o c ih=>simp only[Sem.bind,Sem.run];(repeat' split)<;>simp_all
 |choose q c ih=>simp only[Sem.bind,Sem.run];(repeat' split)<;>simp_all
 |sys c k' ih=>simp[Sem.bind,Sem.run,ih]
 |program c ih=>simp[Sem.bind,Sem.run,ih]
 |mark m c ih=>simp[Sem.bind,Sem.run,ih]
 |halt h=>simp[Sem.bind,Sem.run]
theorem run_pure{α:Type}(P:Program)(a:α)(w:World):(pure a:Sem α).run P w=.ok a w:=rfl
theorem aJ{d:TypeDesc}(h:P.underlying T=some d)(w:World):(underlying T).run P w=.ok d w:=by
 simp[underlying,run_bind,program,Sem.run,h,run_pure]
theorem vM{i:TypeInfo}(h:P.info? T=some i)(w:World):(typeInfo T).run P w=.ok i w:=by
 simp[typeInfo,run_bind,program,Sem.run,h,run_pure]
theorem dL(h:(P.info? T).isSome=true)(w:World):(sizeOf T).run P w=.ok (fO P T) w:=by
 cases hi:P.info? T with
 |none=>rw[hi]at h;cases h
 |some i=>simp[sizeOf,run_bind,vM hi,run_pure,fO,hi]
theorem mN(h:(P.underlying T).isSome=true):(P.info? T).isSome=true:=by
 unfold Program.underlying at h;cases hi:P.info? T with
 |none=>simp[hi]at h
 |some i=>rfl
theorem rU(h:(P.underlying T).isSome=true)(w:World):(isAgg T).run P w=.ok (qE P T) w:=by
 cases hi:P.underlying T with
 |none=>rw[hi]at h;cases h
 |some d=>
  simp only[isAgg,run_bind,aJ hi,qE,hi];cases d<;>rfl
theorem nL{z:Value}(h:zL P T=some z)(w:World):(zeroValue T).run P w=.ok z w:=by
 unfold zL at h;cases hi:P.info? T with
 |none=>simp[hi]at h
 |some i=>
  simp only[hi]at h;simp[zeroValue,run_bind,vM hi,h,run_pure]
theorem GB{off:Nat}{x:Value}{K:Value->Prop}(hT:(P.underlying T).isSome=true)(h:gX (qE P T) off (fO P T) x K):
  ∃cs,x=.agg cs/\sK P (part T cs off) K:=by
 cases x with
 |agg cs=>
  refine⟨cs,rfl,?_⟩;simp only[gX]at h;cases ha:qE P T with
  |true=>
   rw[ha]at h;exact⟨_,h,λw=>by simp[part,run_bind,rU hT,ha,dL (mN hT),run_pure]⟩
  |false=>
   rw[ha]at h;obtain⟨c,hc,hk⟩:=h;exact⟨c,hk,λw=>by simp[part,run_bind,rU hT,ha,hc,run_pure]⟩
 |_=>exact h.elim
theorem FA{x:Option Value}{dflt lim:Nat}{K:Nat->Prop}(h:BX x dflt lim K):
  ∃n,K n/\((x=none/\n=dflt)\/∃v,x=some v/\∀(code:BoundsCode) (w:World),(Instr.sliceBound v lim code).run P w=.ok n w):=by
 cases x with
 |none=>exact⟨dflt,h,.inl ⟨rfl,rfl⟩⟩
 |some v=>
  cases v<;>simp only[BX]at h
  case int k i=>
   obtain⟨h0,h1,hk⟩:=h;exact⟨_,hk,.inr ⟨_,rfl,λcode w=>by simp[Instr.sliceBound,asIntOf,run_bind,run_pure,h0,h1]⟩⟩
theorem wJ{isSlice:Bool}{len cap:Nat}{lo hi mx:Option Value}{K:Nat->Nat->Nat->Prop}(hm:mx.isSome=true->hi.isSome=true)
  (h:BX mx cap cap λm=>BX hi len m λh=>BX lo 0 h λl=>K l h m):
  ∃l h m,K l h m/\∀w,(Instr.sliceBounds isSlice len cap lo hi mx).run P w=.ok (l,h,m) w:=by
 obtain⟨m,h1,hm1⟩:=FA (P:=P) h;obtain⟨hh,h2,hh1⟩:=FA (P:=P) h1;obtain⟨l,h3,hl1⟩:=FA (P:=P) h2;refine⟨l,hh,m,h3,λw=>?_⟩;rcases hm1 with⟨rfl,rfl⟩|⟨vm,rfl,rm⟩<;>rcases hh1 with⟨rfl,rfl⟩|⟨vh,rfl,rh⟩<;>rcases hl1 with⟨rfl,rfl⟩|⟨vl,rfl,rl⟩<;>
  first
   |(simp at hm;done)
   |simp[Instr.sliceBounds,run_bind,run_pure, *]
theorem uK{place:Nat->Option (Nat×Nat)}{f:Fr}{K:List Value->Prop}:∀(parts:List (Nat×Operand)) (l:List (Nat×Nat×Value)) (cells:List Value),
  pH place f parts=some l->bQ cells l K->∃cs,K cs/\Instr.fill place cells.toArray (parts.map λp=>(p.1,ev f p.2))=some cs.toArray
 |[],l,cells,hp,h=>by
  simp only[pH,Option.some.injEq]at hp
  subst hp
  exact⟨cells,h,rfl⟩
 |(i,x)::r,l,cells,hp,h=>by
  simp only[pH]at hp
  cases hpl:place i with
  |none=>simp[hpl]at hp
  |some os=>
   obtain⟨off,size⟩:=os
   cases hr:pH place f r with
   |none=>simp[hpl,hr]at hp
   |some l'=>
    simp only[hpl,hr,Option.some.injEq]at hp
    subst hp
    obtain⟨h1,h2,h3⟩:=h
    obtain⟨cs,hk,hf⟩:=uK r l' _ hr h3
    refine⟨cs,hk,?_⟩
    simp only[List.map_cons,Instr.fill,hpl]
    rw[if_neg (by simp[h1];omega)]
    rw[<-hf]
    congr 1
    have key:∀(vs:List Value) (k:Nat) (cs:List Value),off+k+vs.length<=cs.length->
      (vs.zipIdx k).foldl (λ(a:Array Value) (p:Value×Nat)=>a.setIfInBounds (off+p.2) p.1) cs.toArray=(cs.take (off+k)++(vs++cs.drop (off+k+vs.length))).toArray:=by
     intro vs;induction vs with
     |nil=>intro k cs _;simp
     |cons v vs ih=>
      intro k cs hle;simp only[List.length_cons]at hle;simp only[List.zipIdx_cons,List.foldl_cons];rw[List.setIfInBounds_toArray,ih (k+1) _ (by simp;omega)];congr 1;apply List.ext_getElem?;intro j;simp only[List.getElem?_append,List.length_take,List.length_set,List.getElem?_take,List.getElem?_set,List.getElem?_drop,List.length_cons,List.getElem?_cons]
      (repeat' split)<;>first
        |rfl
        |omega
        |(simp_all;done)
        |(congr 1;omega)
        |(rename_i h1 h2 h3;simp at h1;omega)
    have hk:=key (ev f x).cells.toList 0 cells (by simp;omega);simp only[Nat.add_zero]at hk;rw[<-h1];simp only[Array.length_toList]at hk;rw[<-hk,<-Array.foldl_toList];simp
def gS(P:Program)(s:Sem Next)(K:Value->Prop):Prop:=∃v,K v/\∀w,s.run P w=.ok (.value v) w
theorem gS.of1{s:Sem Value}{K:Value->Prop}(h:sK P s K):gS P (do pure (.value (<-s))) K:=by
 obtain⟨v,hk,hr⟩:=h;exact⟨v,hk,λw=>by rw[run_bind,hr];rfl⟩
theorem Fz{α:Type}[BEq α][LawfulBEq α][DecidableEq α](a b:α):(a==b)=decide (a=b):=by
 by_cases h:a=b<;>simp[h]
theorem My{op:BinOp}{x y:Operand}{f:Fr}{K:Value->Prop}(h:aC op (ev f x) (ev f y) K):
  sK P (do eqGuard op T x y (ev f x) (ev f y);binOp op T (ev f x) (ev f y)) K:=by
 generalize ev f x=a at*
 generalize ev f y=b at*
 cases a<;>cases b<;>simp only[aC]at h<;>first|exact h.elim|skip
 case int.int k a k' b=>
  have hg:∀w,(eqGuard op T x y (.int k a) (.int k' b)).run P w=.ok () w:=λw=>by cases op<;>simp[eqGuard,run_pure]
  cases op<;>simp only at h
  case shl=>exact⟨_,h.2,λw=>by rw[run_bind,hg];simp[binOp,Op.shift,run_pure,Int.not_lt.2 h.1]⟩
  case shr=>exact⟨_,h.2,λw=>by rw[run_bind,hg];simp[binOp,Op.shift,run_pure,Int.not_lt.2 h.1]⟩
  case quo=>obtain⟨rfl,hb,hk⟩:=h;exact⟨_,hk,λw=>by rw[run_bind,hg];simp[binOp,Op.intDiv,run_pure,hb]⟩
  case rem=>obtain⟨rfl,hb,hk⟩:=h;exact⟨_,hk,λw=>by rw[run_bind,hg];simp[binOp,Op.intDiv,run_pure,hb]⟩
  case add=>obtain⟨rfl,hk⟩:=h;exact⟨_,hk,λw=>by rw[run_bind,hg];simp[binOp,Op.intArith,run_pure]⟩
  case sub=>obtain⟨rfl,hk⟩:=h;exact⟨_,hk,λw=>by rw[run_bind,hg];simp[binOp,Op.intArith,run_pure]⟩
  case mul=>obtain⟨rfl,hk⟩:=h;exact⟨_,hk,λw=>by rw[run_bind,hg];simp[binOp,Op.intArith,run_pure]⟩
  case and=>obtain⟨rfl,hk⟩:=h;exact⟨_,hk,λw=>by rw[run_bind,hg];simp only[binOp,Op.intBits,ne_eq,not_true_eq_false,if_false];rfl⟩
  case or=>obtain⟨rfl,hk⟩:=h;exact⟨_,hk,λw=>by rw[run_bind,hg];simp only[binOp,Op.intBits,ne_eq,not_true_eq_false,if_false];rfl⟩
  case xor=>obtain⟨rfl,hk⟩:=h;exact⟨_,hk,λw=>by rw[run_bind,hg];simp only[binOp,Op.intBits,ne_eq,not_true_eq_false,if_false];rfl⟩
  case andNot=>obtain⟨rfl,hk⟩:=h;exact⟨_,hk,λw=>by rw[run_bind,hg];simp only[binOp,Op.intBits,ne_eq,not_true_eq_false,if_false];rfl⟩
  case eql=>obtain⟨rfl,hk⟩:=h;exact⟨_,hk,λw=>by rw[run_bind,hg];simp[binOp,Op.intCmp,run_pure,Fz]⟩
  case neq=>obtain⟨rfl,hk⟩:=h;exact⟨_,hk,λw=>by rw[run_bind,hg];simp[binOp,Op.intCmp,run_pure,bne,Fz]⟩
  case lss=>obtain⟨rfl,hk⟩:=h;exact⟨_,hk,λw=>by rw[run_bind,hg];simp[binOp,Op.intCmp,run_pure]⟩
  case leq=>obtain⟨rfl,hk⟩:=h;exact⟨_,hk,λw=>by rw[run_bind,hg];simp[binOp,Op.intCmp,run_pure]⟩
  case gtr=>obtain⟨rfl,hk⟩:=h;exact⟨_,hk,λw=>by rw[run_bind,hg];simp[binOp,Op.intCmp,run_pure]⟩
  case geq=>obtain⟨rfl,hk⟩:=h;exact⟨_,hk,λw=>by rw[run_bind,hg];simp[binOp,Op.intCmp,run_pure]⟩
 case string.string a b=>
  have hg:∀w,(eqGuard op T x y (.string a) (.string b)).run P w=.ok () w:=λw=>by cases op<;>simp[eqGuard,run_pure]
  have he:(a.toList==b.toList)=decide (a.data.toList=b.data.toList):=by rw[ByteArray.toList_eq,ByteArray.toList_eq,Fz]
  have hl:Op.bytesLess a.toList b.toList=Op.bytesLess a.data.toList b.data.toList:=by rw[ByteArray.toList_eq,ByteArray.toList_eq]
  cases op<;>simp only at h<;>first|exact h.elim|skip
  case add=>exact⟨_,h.2,λw=>by rw[run_bind,hg];simp only[binOp,Op.stringOp];rw[if_neg (by have:=h.1;omega)];rfl⟩
  case eql=>exact⟨_,h,λw=>by rw[run_bind,hg];simp only[binOp,Op.stringOp];rw[he];rfl⟩
  case neq=>exact⟨_,h,λw=>by rw[run_bind,hg];simp only[binOp,Op.stringOp];rw[he];simp[run_pure]⟩
  case lss=>exact⟨_,h,λw=>by rw[run_bind,hg];simp only[binOp,Op.stringOp];rw[hl];rfl⟩
  case leq=>exact⟨_,h,λw=>by rw[run_bind,hg];simp only[binOp,Op.stringOp];rw[he,hl];rfl⟩
  case gtr=>exact⟨_,h,λw=>by rw[run_bind,hg];simp only[binOp,Op.stringOp];rw[he,hl];rfl⟩
  case geq=>exact⟨_,h,λw=>by rw[run_bind,hg];simp only[binOp,Op.stringOp];rw[hl];rfl⟩
theorem Md{op:BinOp}{x y:Operand}{k:VQ}{n:Bool}{a b:Value}{K:Value->Prop}(h:tR k n a b K)(w:World):
  (eqGuard op T x y a b).run P w=.ok () w:=by
 cases op<;>simp only[eqGuard]<;>first|rfl|(cases a<;>cases b<;>first|rfl|(cases k<;>exact h.elim))
theorem aAY{x y:Operand}{f:Fr}{d:TypeDesc}{k:VQ}{n:Bool}{K:Value->Prop}(hd:P.underlying T=some d)(hk:VQ.of d=some k)
  (h:tR k n (ev f x) (ev f y) K):
  sK P (do eqGuard (bif n then .neq else .eql) T x y (ev f x) (ev f y);binOp (bif n then .neq else .eql) T (ev f x) (ev f y)) K:=by
 have hg:=λw=>Md (P:=P) (op:=(bif n then .neq else .eql)) (T:=T) (x:=x) (y:=y) h w;generalize ev f x=a at*
 generalize ev f y=b at*
 have key:∀(a b:Value) (r:Bool),(∀m w,(Op.equalIn (m+1) T a b).run P w=.ok r w)->
   (binOp .eql T a b=(do pure (.bool (<-Op.equal T a b))))->(binOp .neq T a b=(do pure (.bool (!(<-Op.equal T a b)))))->K (.bool (n^^r))->(∀w,(eqGuard (bif n then .neq else .eql) T x y a b).run P w=.ok () w)->
   sK P (do eqGuard (bif n then .neq else .eql) T x y a b;binOp (bif n then .neq else .eql) T a b) K:=by
  intro a b r h0 h1 h2 hK hg;have he:∀w,(Op.equal T a b).run P w=.ok r w:=λw=>h0 9999 w;refine⟨_,hK,λw=>?_⟩;rw[run_bind,hg];cases n
  ·simp only[cond_false,h1,run_bind,he,run_pure,Bool.false_bne]
  ·simp only[cond_true,h2,run_bind,he,run_pure,Bool.true_bne]
 have hu:=λw=>aJ hd w;cases d<;>simp only[VQ.of,reduceCtorEq,Option.some.injEq]at hk<;>subst hk<;>unfold tR at h<;>split at h<;>first
  |exact h.elim
  |(rename_i he _ _;cases he;done)
  |(rename_i he;cases he;done)
  |exact key _ _ _ (λm w=>by simp only[Op.equalIn,run_bind,hu];exact run_pure _ _ _) rfl rfl h hg
  |exact key _ _ true (λm w=>by simp[Op.equalIn,run_bind,hu,run_pure]) rfl rfl (by simpa using h) hg
  |exact key _ _ false (λm w=>by simp[Op.equalIn,run_bind,hu,run_pure]) rfl rfl (by simpa using h) hg
  |(rename_i he1 he2 he3;cases he1;done)
  |(simp_all;done)
theorem sE(f:Fr)(a:Array Operand):a.map (ev f)=(Am f a).toArray:=by apply Array.ext';simp[Am]
theorem Gi{fn:Fn}{a b:Array Value}:(Instr.makeFunc fn a b).run P w=.ok (.func fn a b) w:=rfl
theorem Mn{f:Fr}{parts:Array (Nat×Operand)}{K:Value->Prop}(h:JB P T f parts.toList K):
  sK P (Instr.build T (parts.map λ(i,x)=>(i,ev f x))) K:=by
 unfold JB at h;have hparts:(parts.map λ(i,x)=>(i,ev f x)).toList=parts.toList.map λp=>(p.1,ev f p.2):=by simp
 split at h
 ·rename_i fs z hd hz;split at h
  ·rename_i l hl
   replace h:=gL.out h
   obtain⟨hall,hp⟩:=h;obtain⟨cs,hk,hf⟩:=uK _ _ _ hl hp;refine⟨_,hk,λw=>?_⟩;have hmap:∀w,(fs.mapM λg=>do pure (g.offset,<-sizeOf g.type):Sem (Array (Nat×Nat))).run P w=.ok (fs.map λg=>(g.offset,fO P g.type)) w:=by
    intro w;have:∀(l:List Field),(∀g∈l,(P.info? g.type).isSome=true)->∀w,(l.mapM λg=>do pure (g.offset,<-sizeOf g.type):Sem (List (Nat×Nat))).run P w=.ok (l.map λg=>(g.offset,fO P g.type)) w:=by
     intro l;induction l with
     |nil=>intro _ w;rfl
     |cons g l ih=>
      intro hg w;rw[List.mapM_cons];simp only[run_bind,dL (hg g (by simp)),run_pure,ih (λx hx=>hg x (by simp[hx])),List.map_cons]
    have hfs:=this fs.toList (λg hg=>Array.all_eq_true_iff_forall_mem.1 hall g (by simpa using hg)) w;rw[Array.mapM_eq_mapM_toList,<-bind_pure_comp,run_bind,hfs];show Result.ok _ _=_;congr 1;apply Array.ext';simp
   simp only[Instr.build,run_bind,nL hz,aJ hd,hmap];rw[hparts];have hpl:(λ(i:Nat)=>(fs.map λ(g:Field)=>(g.offset,fO P g.type))[i]?)=IA P fs:=by
    funext i;rw[Array.getElem?_map];unfold IA;cases fs[i]?<;>rfl
   rw[hpl];simp only[Array.toArray_toList]at hf;rw[hf];rfl
  ·exact h.elim
 ·rename_i n e z hd hz;split at h
  ·rename_i l hl
   replace h:=gL.out h
   obtain⟨hall,hp⟩:=h;obtain⟨cs,hk,hf⟩:=uK _ _ _ hl hp;refine⟨_,hk,λw=>?_⟩;simp only[Instr.build,run_bind,nL hz,aJ hd,dL hall];rw[hparts];simp only[Array.toArray_toList]at hf;rw[hf];rfl
  ·exact h.elim
 ·exact h.elim
theorem Hm(s:ByteArray)(l h:Nat):s.extract l h=aL ((s.data.toList.take h).drop l):=by
 apply ByteArray.ext;apply Array.ext';simp[aL,ByteArray.extract,ByteArray.copySlice,List.drop_take]
theorem Li{x:Value}{lo hi mx:Option Value}{K:Value->Prop}(h:Iu P T x lo hi mx K):
  sK P (Instr.sliceAt T x lo hi mx) K:=by
 unfold Iu at h;split at h
 ·rename_i hd
  replace h:=gL.out h
  obtain⟨hm,h⟩:=h;cases mx with
  |some _=>cases hm
  |none=>
   cases x<;>simp only[jG]at h<;>try exact h.elim
   rename_i s;have h':BX (none:Option Value) s.size s.size λm=>BX hi s.size m λh=>BX lo 0 h λl=>(λl h (_:Nat)=>K (.string (aL ((s.data.toList.take h).drop l)))) l h m:=h;obtain⟨l,hh,m,hk,hr⟩:=wJ (P:=P) (isSlice:=false) (by simp) h';refine⟨_,hk,λw=>?_⟩;simp only[Instr.sliceAt,run_bind,aJ hd,Instr.slice];simp[hr,run_bind,aJ hd,run_pure];apply Hm
 ·rename_i e hd
  replace h:=gL.out h
  obtain⟨hm,h⟩:=h
  replace h:=gL.out h
  obtain⟨he,h⟩:=h
  replace hm:mx.isSome=true->hi.isSome=true:=λhx=>by rw[hx]at hm;simpa using hm
  cases x<;>simp only[fX]at h<;>try exact h.elim
  rename_i a len cap;obtain⟨l,hh,m,hk,hr⟩:=wJ (P:=P) (isSlice:=true) (K:=λl h m=>K (.slice (if m=l then a else a.map (·.add (l*fO P e))) (h-l) (m-l))) hm h;refine⟨_,hk,λw=>?_⟩;simp only[Instr.sliceAt,run_bind,aJ hd,Instr.slice];simp[hr,run_bind,aJ hd,run_pure,dL he]
 ·rename_i n e hd
  replace h:=gL.out h
  obtain⟨hm,h⟩:=h
  replace h:=gL.out h
  obtain⟨he,h⟩:=h
  replace hm:mx.isSome=true->hi.isSome=true:=λhx=>by rw[hx]at hm;simpa using hm
  cases x<;>simp only[Lj]at h<;>try exact h.elim
  rename_i a;cases a with
  |none=>exact h.elim
  |some a=>
   obtain⟨l,hh,m,hk,hr⟩:=wJ (P:=P) (isSlice:=false) (K:=λl h m=>K (.slice (some (if m=l then a else a.add (l*fO P e))) (h-l) (m-l))) hm h;refine⟨_,hk,λw=>?_⟩;simp[Instr.sliceAt,Instr.sureAddr,run_bind,aJ hd,hr,run_pure,dL he]
 ·exact h.elim
theorem AV{f:Fr}{o:Oper}{K:Value->Prop}(h:JU P f o.op K):gS P (execOp (ev f) o) K:=by
 obtain⟨dst,op,type,pos,after,guard⟩:=o;cases op<;>simp only[JU]at h<;>try exact h.elim
 case move x=>exact⟨_,h,λw=>rfl⟩
 case assign x=>exact⟨_,h,λw=>rfl⟩
 case pick c a b=>
  simp only[execOp];generalize ev f c=cv at*
  cases cv<;>simp only[bG]at h<;>try exact h.elim
  rename_i t;exact⟨_,h,λw=>by cases t<;>rfl⟩
 case nilCheck x=>
  simp only[execOp];generalize ev f x=v at*
  cases v<;>simp only[bW]at h<;>try exact h.elim
  case pointer a=>cases a<;>first|exact h.elim|exact⟨_,h,λw=>rfl⟩
  case func fn _ _=>cases fn<;>first|exact h.elim|exact⟨_,h,λw=>rfl⟩
  case iface=>exact⟨_,h,λw=>rfl⟩
 case binOp op T x y yT=>
  simp only[execOp];refine gS.of1 ?_;unfold aBN at h;cases hd:P.underlying T with
  |none=>
   rw[hd]at h;exact My (by cases op<;>exact h)
  |some d=>
   rw[hd]at h;cases hk:VQ.of d with
   |none=>simp only[hk]at h;exact My (by cases op<;>exact h)
   |some k=>
    simp only[hk]at h;cases op<;>first
     |exact aAY (n:=false) hd hk h
     |exact aAY (n:=true) hd hk h
     |exact My h
 case unOp op T x=>
  simp only[execOp];refine gS.of1 ?_;generalize ev f x=v at*
  cases op<;>cases v<;>simp only[gU]at h<;>first
   |exact h.elim
   |exact⟨_,h,λw=>rfl⟩
 case convert s d x=>
  simp only[execOp];refine gS.of1 ?_;unfold Wq at h;generalize ev f x=v at*
  split at h
  ·rename_i k1 k2 hs hd;cases v<;>simp only[oO]at h<;>try exact h.elim
   exact⟨_,h,λw=>by simp[convert,run_bind,aJ hs,aJ hd,Conv.intToInt,run_pure]⟩
  ·rename_i k1 hs hd;cases v<;>simp only[TB]at h<;>try exact h.elim
   ·exact⟨_,h,λw=>by simp[convert,run_bind,aJ hs,aJ hd,Conv.intToString,run_pure]⟩
   ·exact⟨_,h,λw=>by simp[convert,run_bind,aJ hs,aJ hd,run_pure]⟩
  ·rename_i hs hd;cases v<;>simp only[TB]at h<;>try exact h.elim
   ·exact⟨_,h,λw=>by simp[convert,run_bind,aJ hs,aJ hd,Conv.intToString,run_pure]⟩
   ·exact⟨_,h,λw=>by simp[convert,run_bind,aJ hs,aJ hd,run_pure]⟩
  ·exact h.elim
 case makeInterface T x=>
  simp only[execOp];refine gS.of1 ?_;cases hd:P.underlying T with
  |none=>rw[hd]at h;exact h.elim
  |some d=>
   rw[hd]at h;cases d<;>first
    |exact h.elim
    |exact⟨_,h,λw=>by simp[Instr.makeInterface,run_bind,aJ hd,run_pure]⟩
 case makeFunc fn first cap=>
  simp only[execOp];refine gS.of1 ⟨_,h,λw=>by rw[Gi,sE,sE]⟩
 case field T x i=>
  simp only[execOp];refine gS.of1 ?_;split at h
  ·rename_i fs hd;split at h
   ·rename_i g hg
    replace h:=gL.out h
    obtain⟨h1,h2⟩:=h;obtain⟨cs,hx,v,hk,hr⟩:=GB h1 h2;exact⟨v,hk,λw=>by simp[Instr.field,run_bind,aJ hd,hg,hx,asAgg,run_pure,hr]⟩
   ·exact h.elim
  ·exact h.elim
 case fieldAddr T x i=>
  simp only[execOp];refine gS.of1 ?_;split at h
  ·rename_i fs hd;split at h
   ·rename_i g hg
    replace h:=gL.out h
    obtain⟨h1,h2⟩:=h
    replace h1:fO P g.type≠0:=λhz=>by rw[hz]at h1;simp at h1
    generalize ev f x=v at*
    cases v<;>simp only[aF]at h2<;>try exact h2.elim
    rename_i a;cases a with
    |none=>exact h2.elim
    |some a=>
     have hinfo:(P.info? g.type).isSome=true:=by
      unfold fO at h1;cases hi:P.info? g.type with
      |none=>rw[hi]at h1;exact absurd rfl h1
      |some i=>rfl
     exact⟨_,h2,λw=>by simp[Instr.fieldAt,run_bind,aJ hd,hg,Instr.sureAddr,run_pure,fieldPlace,dL hinfo,h1]⟩
   ·exact h.elim
  ·exact h.elim
 case indexAddr T x i=>
  simp only[execOp];refine gS.of1 ?_;unfold By at h;generalize ev f x=v at*
  generalize ev f i=iv at*
  split at h
  ·rename_i e hd
   replace h:=gL.out h
   obtain⟨he,h⟩:=h;unfold bU at h;split at h
   ·rename_i a n cap k j _;obtain⟨h0,h1,hk⟩:=h;exact⟨_,hk,λw=>by simp[Instr.indexAt,asIntOf,run_bind,aJ hd,run_pure,h0,h1,dL he]⟩
   ·rename_i heq;cases heq
   ·exact h.elim
  ·rename_i n e hd
   replace h:=gL.out h
   obtain⟨he,h⟩:=h;unfold bU at h;split at h
   ·rename_i heq;cases heq
   ·rename_i n' a k j heq;cases heq;obtain⟨h0,h1,hk⟩:=h;exact⟨_,hk,λw=>by simp[Instr.indexAt,asIntOf,run_bind,aJ hd,run_pure,h0,h1,Instr.sureAddr,dL he]⟩
   ·exact h.elim
  ·exact h.elim
 case index T x i=>
  simp only[execOp];refine gS.of1 ?_;unfold OJ at h;generalize ev f x=v at*
  generalize ev f i=iv at*
  split at h
  ·rename_i hd;unfold lJ at h;split at h
   ·rename_i s k j;obtain⟨h0,b,hb,hk⟩:=h;have hb':s[j.toNat]?=some b:=by
     rw[<-hb];show(if h:j.toNat<s.size then some s[j.toNat]else none)=_;by_cases hlt:j.toNat<s.size
     ·rw[dif_pos hlt,List.getElem?_eq_getElem (by simpa using hlt)];rfl
     ·rw[dif_neg hlt,List.getElem?_eq_none (by simpa using hlt)]
    exact⟨_,hk,λw=>by simp[Instr.index,asIntOf,run_bind,aJ hd,run_pure,h0,hb']⟩
   ·exact h.elim
  ·rename_i n e hd
   replace h:=gL.out h
   obtain⟨he,h⟩:=h;cases iv<;>simp only[SS]at h<;>try exact h.elim
   rename_i k j;obtain⟨h0,h1,hp⟩:=h;obtain⟨cs,hx,u,hk,hr⟩:=GB (P:=P) he hp;exact⟨u,hk,λw=>by simp[Instr.index,asIntOf,run_bind,aJ hd,run_pure,hx,h0,h1,dL (mN he),hr]⟩
  ·exact h.elim
 case slice T x lo hi mx=>
  simp only[execOp];exact gS.of1 (Li h)
 case extract t i=>
  simp only[execOp];refine gS.of1 ?_;generalize ev f t=v at*
  cases v<;>simp only[bS]at h<;>try exact h.elim
  split at h
  ·rename_i v hv;exact⟨_,h,λw=>by simp[Instr.extract,hv,run_pure]⟩
  ·exact h.elim
 case build T parts=>
  simp only[execOp];exact gS.of1 (Mn h)
 case call c=>
  obtain⟨callee,args,argTypes⟩:=c;cases callee<;>simp only at h<;>try exact h.elim
  rename_i b;have hargs:args.map (ev f)=(Am f args).toArray:=by rw[sE]
  simp only[execOp,resolve,hargs];generalize Am f args=az at*
  unfold CK at h;split at h
  ·rename_i x;split at h
   ·rename_i T hT;split at h
    ·rename_i hd;unfold eQ at h;split at h
     ·exact⟨_,h,λw=>by simp[run_bind,run_pure,invoke,builtin,Builtin.len_,hT,aJ hd,goInt]⟩
     ·exact h.elim
    ·rename_i e hd;unfold bK at h;split at h
     ·exact⟨_,h,λw=>by simp[run_bind,run_pure,invoke,builtin,Builtin.len_,hT,aJ hd,goInt]⟩
     ·exact h.elim
    ·rename_i n e hd;exact⟨_,h,λw=>by simp[run_bind,run_pure,invoke,builtin,Builtin.len_,hT,aJ hd,goInt]⟩
    ·exact h.elim
   ·exact h.elim
  ·rename_i x;split at h
   ·rename_i T hT;split at h
    ·rename_i e hd;unfold Ml at h;split at h
     ·exact⟨_,h,λw=>by simp[run_bind,run_pure,invoke,builtin,Builtin.cap_,hT,aJ hd,goInt]⟩
     ·exact h.elim
    ·exact h.elim
   ·exact h.elim
  ·rename_i x y;unfold SI at h;split at h
   ·exact⟨_,h,λw=>by simp[run_bind,run_pure,invoke,builtin,Builtin.min_,Builtin.min2]⟩
   ·exact h.elim
  ·rename_i x y z;unfold Wi at h;split at h
   ·exact⟨_,h,λw=>by simp[run_bind,run_pure,invoke,builtin,Builtin.min_,Builtin.min2]⟩
   ·exact h.elim
  ·rename_i x y;unfold NU at h;split at h
   ·exact⟨_,h,λw=>by simp[run_bind,run_pure,invoke,builtin,Builtin.max_,Builtin.max2]⟩
   ·exact h.elim
  ·exact h.elim
def isC:Operand->Bool
 |.const _=>true
 |_=>false
def mX(c:Bool):Operand:=bif c then .const undef else .tmp 0
def FK(P:Program)(op:BinOp)(T:TypeId)(cx cy:Bool)(a b:Value)(w:World)(K:Value->Prop):Prop:=
 jP P (do eqGuard op T (mX cx) (mX cy) a b;binOp op T a b) w K
def AS(P:Program)(f:Fr)(o:Oper)(w:World)(K:Value->Prop):Prop:=
 match o.op with
 |.load T a=>gL (P.underlying T).isSome (aE (qE P T) (fO P T) (ev f a) w K)
 |.lookup T x i ok=>jP P (Instr.lookup T (ev f x) (ev f i) ok) w K
 |.binOp op T x y _=>FK P op T (isC x) (isC y) (ev f x) (ev f y) w K
 |.convert s d x=>jP P (convert s d (ev f x)) w K
 |.typeAssert x xT aT ok=>jP P (Instr.typeAssert (ev f x) xT aT ok) w K
 |.entry it=>jP P (Instr.entry (ev f it)) w K
 |.call {callee:=.builtin b,args,argTypes}=>(match b with
   |.len=>jP P (Builtin.len_ argTypes o.type (Am f args).toArray) w K
   |_=>False)
 |_=>False
def isRead(P:Program):Op->Bool
 |.load ..|.lookup ..|.binOp ..|.typeAssert ..|.entry ..=>true
 |.convert s d _=>(match P.underlying s,P.underlying d with|some (.slice _),some .string=>true|_,_=>false)
 |.call {callee:=.builtin b,..}=>(match b with|.len=>true|_=>false)
 |_=>false
def kT(n:Nat)(z:List Value):List Value:=match n with|0=>[]|n+1=>z++kT n z
def Af(P:Program)(T:TypeId)(len:Nat)(f:Fr)(parts:List (Nat×Operand))(w:World)(K:Value->World->Prop):Prop:=
 match P.underlying T with
 |some (.slice e)=>(match zL P e,pH (λi=>some (i*fO P e,fO P e)) f parts with
   |some z,some l=>gL (P.info? e).isSome (gL (Nat.beq z.cells.size (fO P e)) (gL (Nat.ble (len*fO P e) 1000) (bR e len (kT len z.cells.toList) l w K)))
   |_,_=>False)
 |_=>False
def Zk[HX](P:Program)(f:Fr)(o:Oper)(w:World)(K:Value->World->Prop):Prop:=
 match o.op with
 |.alloc T=>(match zL P T with|some z=>aN T z.cells.toList w K|none=>False)
 |.box T x=>cI T (ev f x) w K
 |.buildSlice T n parts=>Af P T n f parts.toList w K
 |.store T a x=>gL (P.info? T).isSome (bF (fO P T) (ev f a) (ev f x) w (K undef))
 |.mapUpdate T m k x|.insert T m k x=>jV P (Instr.mapUpdate T (ev f m) (ev f k) (ev f x)) w (K undef)
 |.makeMap T r=>bP P (Instr.makeMap T (r.map (ev f))) w K
 |.makeSlice T l c=>bP P (Instr.makeSlice T (ev f l) (ev f c)) w K
 |.range T x=>bP P (Instr.range T (ev f x)) w K
 |.next it s=>bP P (Instr.next (ev f it) s o.type) w K
 |.convert s d x=>bP P (convert s d (ev f x)) w K
 |.call {callee:=.value x,args,..}=>(match x with
   |.func g=>aA P g (Am f args) w K
   |_=>kP P (ev f x) (Am f args) w K)
 |.call {callee:=.invoke r m,args,..}=>Nf P (callMethod (ev f r) m (Am f args).toArray) w K
 |.panic x=>Lw (ev f x) w
 |.call {callee:=.builtin b,args,argTypes}=>(match b with
   |.append=>bP P (Builtin.append_ argTypes o.type (Am f args).toArray) w K
   |.copy=>bP P (Builtin.copy_ argTypes o.type (Am f args).toArray) w K
   |.delete=>bP P (Builtin.delete_ argTypes o.type (Am f args).toArray) w K
   |.clear=>bP P (Builtin.clear_ argTypes o.type (Am f args).toArray) w K
   |.panic=>Lw ((Am f args).getD 0 undef) w
   |_=>False)
 |_=>False
def FB[HX](P:Program)(f:Fr)(o:Oper)(w:World)(K:Value->World->Prop):Prop:=
 match iW P o.op with
 |true=>JU P f o.op (λv=>K v w)
 |false=>(match isRead P o.op with
  |true=>AS P f o w (λv=>K v w)
  |false=>Zk P f o w K)
theorem CH{a:Addr}(h:w.cell? a=some v):(load a).run P w=.ok v w:=by
 simp[load,Sem.run,h]
theorem pM{P:Program}{a:Addr}{w:World}:∀(n i:Nat) (l:List Value) (acc:Array Value),fU w a i n=some l->
  (loadCellsFrom a i n acc).run P w=.ok (acc++l.toArray) w
 |0,i,l,acc,h=>by
  simp only[fU,Option.some.injEq]at h
  subst h
  simp[loadCellsFrom,run_pure]
 |n+1,i,l,acc,h=>by
  simp only[fU]at h
  cases hc:w.cell? (a.add i)with
  |none=>simp[hc]at h
  |some v=>
   cases hr:fU w a (i+1) n with
   |none=>simp[hc,hr]at h
   |some l'=>
    simp only[hc,hr,Option.map_some,Option.some.injEq]at h
    subst h
    simp only[loadCellsFrom,run_bind,CH hc,pM n (i+1) l' _ hr]
    simp
theorem Ow{x:Value}{K:Value->Prop}(hT:(P.underlying T).isSome=true)(h:aE (qE P T) (fO P T) x w K):
  ∃v,K v/\(Instr.loadAt T x).run P w=.ok v w:=by
 cases x<;>simp only[aE]at h<;>try exact h.elim
 rename_i a;cases a with
 |none=>exact h.elim
 |some a=>
  simp only at h;cases ha:qE P T with
  |true=>
   rw[ha]at h;obtain⟨l,hl,hk⟩:=h;refine⟨_,hk,?_⟩;simp[Instr.loadAt,Instr.sureAddr,loadVar,run_bind,run_pure,rU hT,ha,dL (mN hT),loadCells,pM _ _ _ _ hl]
  |false=>
   rw[ha]at h;obtain⟨v,hv,hk⟩:=h;refine⟨_,hk,?_⟩;simp[Instr.loadAt,Instr.sureAddr,loadVar,run_bind,run_pure,rU hT,ha]
   first|exact CH hv|(rw[hv])
theorem Ci(op:BinOp)(T:TypeId)(x y:Operand)(a b:Value):eqGuard op T (mX (isC x)) (mX (isC y)) a b=eqGuard op T x y a b:=by
 cases x<;>cases y<;>rfl
theorem vX{f:Fr}{o:Oper}{K:Value->Prop}(h:AS P f o w K):
  ∃v,K v/\(execOp (ev f) o).run P w=.ok (.value v) w:=by
 have key:∀(s:Sem Value),(∃v,K v/\s.run P w=.ok v w)->∃v,K v/\(do pure (.value (<-s)):Sem Next).run P w=.ok (.value v) w:=by
  rintro s ⟨v,hk,hr⟩;exact⟨v,hk,by rw[run_bind,hr];rfl⟩
 have key2:∀(s:Sem Value),jP P s w K->∃v,K v/\s.run P w=.ok v w:=λs ⟨v,hr,hk⟩=>⟨v,hk,hr⟩;obtain⟨dst,op,type,pos,after,guard⟩:=o;cases op<;>simp only[AS]at h<;>try exact h.elim
 case load T a=>simp only[execOp];exact key _ (Ow (gL.out h).1 (gL.out h).2)
 case lookup T x i ok=>simp only[execOp];exact key _ (key2 _ h)
 case binOp op T x y yT=>
  simp only[execOp];refine key _ (key2 _ ?_);unfold FK at h;rw[Ci]at h;exact h
 case convert s d x=>simp only[execOp];exact key _ (key2 _ h)
 case typeAssert x xT aT ok=>simp only[execOp];exact key _ (key2 _ h)
 case entry it=>simp only[execOp];exact key _ (key2 _ h)
 case call c=>
  obtain⟨callee,args,argTypes⟩:=c;cases callee<;>simp only at h<;>try exact h.elim
  rename_i b;cases b<;>simp only at h<;>try exact h.elim
  simp only[execOp,resolve,sE];obtain⟨v,hk,hr⟩:=key2 _ h;exact⟨v,hk,by simp[run_bind,run_pure,invoke,builtin,hr]⟩
theorem tC{P:Program}{a:Addr}{K:World->Prop}:∀(l:List Value) (i:Nat) (w:World),pA a l i w K->∃w',K w'/\(storeCells a l i).run P w=.ok () w'
 |[],i,w,h=>⟨w,h,rfl⟩
 |v::r,i,w,h=>by
  obtain⟨h1,h2,h3,h4⟩:=h
  obtain⟨w',hk,hr⟩:=tC (P:=P) r (i+1) _ h4
  refine⟨w',hk,?_⟩
  obtain⟨old,ho⟩:=Option.isSome_iff_exists.1 h2
  have hs:(store (a.add i) v).run P w=.ok () (w.setCell (a.add i) v):=by
   cases v<;>first
    |(simp[cY]at h1;done)
    |(simp[store,Sem.run,ho,h3];done)
  simp only[storeCells,run_bind,hs,hr]
theorem WZ{x:Value}{K:World->Prop}(hT:(P.info? T).isSome=true)(h:bF (fO P T) x v w K):
  ∃w',K w'/\(Instr.storeAt T x v).run P w=.ok () w':=by
 cases x<;>simp only[bF]at h<;>try exact h.elim
 rename_i a;cases a with
 |none=>exact h.elim
 |some a=>
  obtain⟨h1,h2⟩:=h;obtain⟨w',hk,hr⟩:=tC (P:=P) _ _ _ h2;refine⟨w',hk,?_⟩;simp[Instr.storeAt,Instr.sureAddr,storeVar,run_bind,run_pure,dL hT,h1,hr]
theorem Ce{z:Array Value}{size:Nat}(hz:z.size=size):∀len,((Array.range (len*size)).map (z[· %z.size]!))=(kT len z.toList).toArray:=by
 subst hz;have hlen:∀len,(kT len z.toList).length=len*z.size:=by
  intro len;induction len with
  |zero=>simp[kT]
  |succ n ih=>simp[kT,ih,Nat.succ_mul,Nat.add_comm]
 intro len;apply Array.ext (by simp[hlen]);intro i h1 h2;simp only[Array.getElem_map,Array.getElem_range,List.getElem_toArray];simp at h1;have:∀(len i:Nat) (h:i<(kT len z.toList).length),(kT len z.toList)[i]=z[i%z.size]!:=by
  intro len;induction len with
  |zero=>intro i h;simp[kT]at h
  |succ n ih=>
   intro i h;have hpos:0<z.size:=by
    rcases Nat.eq_zero_or_pos z.size with h0|h0
    ·rw[hlen,h0]at h;simp at h
    ·exact h0
   simp only[kT,List.getElem_append];split
   ·rename_i hi;have hi':i<z.size:=by simpa using hi
    rw[Nat.mod_eq_of_lt hi',getElem!_pos z i hi'];simp
   ·rename_i hi;have hi':z.size<=i:=by simpa using hi
    rw[ih];simp only[Array.length_toList];congr 1;rw[Nat.mod_eq_sub_mod hi']
 rw[this]
theorem Me[HX]{f:Fr}{o:Oper}(h:Zk P f o w K):HY P K ((execOp (ev f) o).run P w):=by
 have keyV:∀(s:Sem Value),bP P s w K->HY P K ((do pure (.value (<-s)):Sem Next).run P w):=by
  intro s hs;unfold bP at hs;rw[run_bind];cases hr:s.run P w with
  |ok v w'=>rw[hr]at hs;exact hs
  |halt x w'=>rw[hr]at hs;exact hs.elim
 have keyU:∀(s:Sem Unit),jV P s w (K undef)->HY P K ((do s;pure .skip:Sem Next).run P w):=by
  intro s hs;unfold jV at hs;rw[run_bind];cases hr:s.run P w with
  |ok v w'=>rw[hr]at hs;exact hs
  |halt x w'=>rw[hr]at hs;exact hs.elim
 have keyP:∀(x:Value),Lw x w->HY P K ((do pure (.value (<-Instr.panic x)):Sem Next).run P w):=by
  intro x hs;unfold Lw at hs;split at hs
  ·exact hs
  ·exact hs.elim
 obtain⟨dst,op,type,pos,after,guard⟩:=o;cases op<;>simp only[Zk]at h<;>try exact h.elim
 case alloc T=>
  cases hz:zL P T with
  |none=>rw[hz]at h;exact h.elim
  |some z=>
   rw[hz]at h;simp only[execOp];have hr:(Instr.alloc T true (.tuple #[])).run P w=.ok (.pointer (some ⟨w.heap.size,0,none⟩)) (w.alloc (.cells z.cells T)):=by
    simp[Instr.alloc,run_bind,nL hz,newVar,newRow,newObj,Sem.run,run_pure]
   rw[run_bind,hr];exact h
 case box T x=>
  simp only[execOp];have hr:(Instr.box T (ev f x)).run P w=.ok (.pointer (some ⟨w.heap.size,0,none⟩)) (w.alloc (.cells (ev f x).cells T)):=by
   simp[Instr.box,run_bind,newVar,newRow,newObj,Sem.run,run_pure]
  rw[run_bind,hr];exact h
 case buildSlice T n parts=>
  simp only[execOp];unfold Af at h;split at h
  ·rename_i e hd;split at h
   ·rename_i z l hz hl
    replace h:=gL.out h
    obtain⟨h1,h⟩:=h
    replace h:=gL.out h
    obtain⟨h2,h⟩:=h
    replace h:=gL.out h
    obtain⟨h3,h4⟩:=h
    replace h2:=Nat.eq_of_beq_eq_true h2
    replace h3:=Nat.le_of_ble_eq_true h3
    unfold bR at h4;obtain⟨cs,hk,hf⟩:=uK _ _ _ hl h4;have hparts:(parts.map λ(i,x)=>(i,ev f x)).toList=parts.toList.map λp=>(p.1,ev f p.2):=by simp
    have hr:(Instr.buildSlice T n (parts.map λ(i,x)=>(i,ev f x))).run P w=.ok (.slice (some ⟨w.heap.size,0,none⟩) n n) (w.alloc (.cells cs.toArray e)):=by
     simp only[Instr.buildSlice,run_bind,aJ hd,dL h1];rw[if_neg (by omega)];have hcells:=Ce (z:=z.cells) h2 n;by_cases h0:n*fO P e=0
     ·rw[if_pos h0];simp only[run_bind,run_pure];have hc:((Array.range (n*fO P e)).map ((#[]:Array Value)[· %(#[]:Array Value).size]!))=(kT n z.cells.toList).toArray:=by
       rw[<-hcells,h0];simp[show Array.range 0=#[]from rfl]
      rw[hc,hparts,hf];simp[run_bind,newRow,newObj,Sem.run,run_pure]
     ·rw[if_neg h0];simp only[run_bind,run_pure,nL hz];rw[hcells,hparts,hf];simp[run_bind,newRow,newObj,Sem.run,run_pure]
    rw[run_bind,hr];exact hk
   ·exact h.elim
  ·exact h.elim
 case store T a x=>
  simp only[execOp];obtain⟨w',hk,hr⟩:=WZ (gL.out h).1 (gL.out h).2;rw[run_bind,hr];exact hk
 case mapUpdate T m k x=>simp only[execOp];exact keyU _ h
 case insert T m k x=>simp only[execOp];exact keyU _ h
 case makeMap T r=>simp only[execOp];exact keyV _ h
 case makeSlice T l c=>simp only[execOp];exact keyV _ h
 case range T x=>simp only[execOp];exact keyV _ h
 case next it s=>simp only[execOp];exact keyV _ h
 case panic x=>
  simp only[execOp];exact keyP _ h
 case convert s d x=>simp only[execOp];exact keyV _ h
 case call c=>
  obtain⟨callee,args,argTypes⟩:=c;cases callee with
  |value x=>
   simp only[execOp,resolve,sE];cases x<;>simp only at h
   case func g=>
    unfold aA at h;have:(do let d<-(Deferred.ofValue (ev f (.func g)) (Am f args).toArray);invoke d.target d.args:Sem Next)=callFunc g (Am f args).toArray:=by
     show callFunc g (#[]++(Am f args).toArray++#[])=_;simp
    rw[this];exact h
   all_goals exact h
  |invoke r m=>
   simp only at h;simp only[execOp,resolve,sE];have:(do let d<-(pure {target:=.fn (.method m) #[],args:=#[ev f r]++(Am f args).toArray}:Sem Deferred);invoke d.target d.args:Sem Next)=callMethod (ev f r) m (Am f args).toArray:=by
    show invoke (.fn (.method m) #[]) (#[ev f r]++(Am f args).toArray)=_;simp[invoke]
   rw[this];exact h
  |builtin b=>
   simp only[execOp,resolve,sE];cases b<;>simp only at h<;>first
    |exact h.elim
    |exact keyV _ h
    |(have e:(Am f args).getD 0 undef=(Am f args).toArray.getD 0 .nilIface:=by
       cases hl:Am f args with
       |nil=>rw[hl]at h;exact h.elim
       |cons a r=>rfl
      rw[e]at h;exact keyP _ h)
theorem DU[HX]{f:Fr}{o:Oper}(h:FB P f o w K):HY P K ((execOp (ev f) o).run P w):=by
 unfold FB at h;cases hp:iW P o.op with
 |true=>
  rw[hp]at h;simp only at h;obtain⟨v,hk,hr⟩:=AV (o:=o) h;rw[hr];exact hk
 |false=>
  rw[hp]at h;simp only at h;cases hq:isRead P o.op with
  |true=>
   rw[hq]at h;simp only at h;obtain⟨v,hk,hr⟩:=vX (o:=o) h;rw[hr];exact hk
  |false=>
   rw[hq]at h;exact Me h
def kG:List Nat->Nat->Bool
 |[],_=>false
 |x::r,i=>bif Nat.beq x i then true else kG r i
theorem fA{l:List Nat}:kG l i=true↔i∈l:=by
 induction l with
 |nil=>simp[kG]
 |cons x r ih=>
  simp only[kG,List.mem_cons];cases h:Nat.beq x i with
  |true=>simp[Nat.eq_of_beq_eq_true h]
  |false=>
   have:¬i=x:=λe=>by subst e;simp at h
   simp[this,ih]
def eD(v:Value)(want:Bool):Bool:=match v with|.bool b=>b==want|_=>false
def mJ(ops:List Oper)(g:Nat):Option Nat:=match ops[g]? with|some o=>o.dst|none=>none
def yv(ops:List Oper)(f:Fr)(g:Nat)(want:Bool):Bool:=match mJ ops g with|some d=>eD (f d) want|none=>false
def gC(ops:List Oper)(f:Fr)(o:Oper):Bool:=match o.guard with|none=>true|some (g,want)=>yv ops f g want
def Ag(n:Nat)(D:List Deferred)(f:Fr)(a:Act):Prop:=a.defers=D/\a.tmps.size=n/\∀t,a.tmps.getD t undef=f t
theorem Wm{f:Fr}{a:Act}{x:Operand}(h:∀t,x=.tmp t->a.tmps.getD t undef=f t):a.eval x=ev f x:=by
 cases x<;>first|rfl|exact h _ rfl
theorem tQ{D:List Deferred}{f:Fr}{a:Act}(h:Ag n D f a):a.eval=ev f:=funext λ_=>Wm λt _=>h.2.2 t
theorem Cq{ops:List Oper}{f:Fr}{a:Act}{o:Oper}(h:∀g want d,o.guard=some (g,want)->mJ ops g=some d->a.tmps.getD d undef=f d):
  Region.wanted o (yielded ops.toArray a.tmps)=gC ops f o:=by
 unfold Region.wanted gC;cases hg:o.guard with
 |none=>rfl
 |some gw=>
  obtain⟨g,want⟩:=gw;have hy:yielded ops.toArray a.tmps g=match mJ ops g with|some d=>(match f d with|.bool b=>some b|_=>none)|none=>none:=by
   unfold yielded;have h':=h g want;unfold mJ at*
   simp only[List.getElem?_toArray];cases hx:ops[g]? with
   |none=>rfl
   |some o'=>
    rw[hx]at h';cases hd:o'.dst with
    |none=>simp[hd]
    |some d=>
     have hfd:=h' d hg hd;simp only[Option.bind_some,hd];rw[<-hfd];rcases Nat.lt_or_ge d a.tmps.size with hlt|hge
     ·have e1:a.tmps[d]?=some a.tmps[d]:=by simp[hlt]
      have e2:a.tmps.getD d undef=a.tmps[d]:=by simp[hlt]
      rw[e1,e2];generalize a.tmps[d]=x;cases x<;>rfl
     ·simp[Array.getElem?_eq_none hge,undef,Array.getD,Nat.not_lt.2 hge]
  simp only[yv,hy];cases hd:mJ ops g with
  |none=>simp
  |some d=>simp only[eD];cases f d<;>simp
theorem AT(a:Act)(d:Option Nat)(v:Value):(a.put d v).tmps.size=a.tmps.size:=by cases d<;>simp[Act.put]
theorem put_defers(a:Act)(d:Option Nat)(v:Value):(a.put d v).defers=a.defers:=by cases d<;>rfl
theorem Eu(a:Act)(d:Nat)(v:Value)(t:Nat)(hd:d<a.tmps.size):(a.put (some d) v).tmps.getD t undef=if t=d then v else a.tmps.getD t undef:=by
 simp only[Act.put,Array.getD_eq_getD_getElem?,Array.getElem?_setIfInBounds];by_cases h:t=d
 ·subst h;simp[hd]
 ·rw[if_neg h,if_neg (Ne.symm h)]
theorem jU(f:Fr)(d:Nat)(v:Value)(t:Nat):upd f (some d) v t=if t=d then v else f t:=by
 simp only[upd];by_cases h:t=d
 ·subst h;simp
 ·have:Nat.beq t d=false:=by
   cases hb:Nat.beq t d with
   |false=>rfl
   |true=>exact absurd (Nat.eq_of_beq_eq_true hb) h
  simp[this,h]
theorem Ag.put{D:List Deferred}{f:Fr}{a:Act}{d:Option Nat}(h:Ag n D f a)(hd:∀t,d=some t->t<n)(v:Value):Ag n D (upd f d v) (a.put d v):=by
 refine⟨by rw[put_defers];exact h.1,by rw[AT];exact h.2.1,λt=>?_⟩;cases d with
 |none=>exact h.2.2 t
 |some d=>rw[Eu _ _ _ _ (by rw[h.2.1];exact hd d rfl),jU,h.2.2]
structure DE where
 fl:List Nat
 anc:List (List Nat)
def dS(o:Oper):List Nat:=(o.after.toList.filter (Region.binds .any)).map (·.on)
def allIn(done:List Nat):List Nat->Bool
 |[]=>true
 |x::r=>bif kG done x then allIn done r else false
theorem vH{done l:List Nat}:allIn done l=true↔∀x∈l,x∈done:=by
 induction l with
 |nil=>simp[allIn]
 |cons x r ih=>
  simp only[allIn,List.mem_cons,forall_eq_or_imp];cases h:kG done x with
  |true=>simp[fA.1 h,ih]
  |false=>
   have:x∉done:=λe=>by simp[fA.2 e]at h
   simp[this]
def oF(ops:List Oper)(done:List Nat):List Nat->Option (Nat×Oper)
 |[]=>none
 |i::r=>bif kG done i then oF ops done r else
   (match ops[i]? with
    |some o=>bif allIn done (dS o)then some (i,o)else oF ops done r
    |none=>oF ops done r)
def yZ(ops:List Oper)(fl done:List Nat):Nat->List Oper->List (Nat×Oper)
 |_,[]=>[]
 |i,o::r=>bif (bif kG done i then false else(bif kG fl i then false else allIn done (dS o)))then(i,o)::yZ ops fl done (i+1) r else yZ ops fl done (i+1) r
def TW(P:Program)(f:Fr)(o:Oper)(w:World)(K:Value->Prop):Prop:=
 match iW P o.op with
 |true=>JU P f o.op K
 |false=>AS P f o w K
def Cd(c:Bool)(A:(Value->Prop)->Prop)(B:Value->Prop):Prop:=∃v,(c=true->A (λx=>x=v))/\(c=false->v=undef)/\B v
def GeW(c:Bool)(w:World)(A:(Value->World->Prop)->Prop)(B:Value->World->Prop):Prop:=(c=true->A B)/\(c=false->B undef w)
def qfW(P:Program)(ops:List Oper)(f:Fr)(o:Oper)(w:World)(K:Value->Prop):Prop:=
 match o.guard with
 |none=>TW P f o w K
 |some (g,want)=>Cd (yv ops f g want) (TW P f o w) K
def geW[HX](P:Program)(ops:List Oper)(f:Fr)(o:Oper)(w:World)(K:Value->World->Prop):Prop:=
 match o.guard with
 |none=>FB P f o w K
 |some (g,want)=>GeW (yv ops f g want) w (FB P f o w) K
def sN(P:Program)(ops:List Oper)(f:Fr)(w:World)(rest:Prop):List Nat->Prop
 |[]=>rest
 |i::r=>match ops[i]? with
  |some o=>(match o.dst with
   |some d=>(match iW P o.op with
    |true=>sN P ops f w rest r
    |false=>
     ((match o.guard with
       |none=>AS P f o w (λx=>x=f d)
       |some (g,want)=>yv ops f g want=true->AS P f o w (λx=>x=f d))/\sN P ops f w rest r))
   |none=>sN P ops f w rest r)
  |none=>sN P ops f w rest r
def tI(l:List Nat):List Nat->List Nat
 |[]=>[]
 |x::r=>bif kG l x then tI l r else x::tI l r
theorem CY{l r:List Nat}{x:Nat}(h:x∈r)(hl:x∉l):x∈tI l r:=by
 induction r with
 |nil=>cases h
 |cons y r ih=>
  simp only[tI];rcases List.mem_cons.1 h with rfl|h
  ·have:kG l x=false:=by
    cases hm:kG l x with
    |false=>rfl
    |true=>exact absurd (fA.1 hm) hl
   simp[this]
  ·cases hm:kG l y with
   |true=>exact ih h
   |false=>simp[ih h]
def aA7:Prop:=∀(_:HX) (P:Program) (ops:List Oper) (f:Fr) (o:Oper) (w:World) (K:Value->World->Prop),geW P ops f o w K->True
def Pk(p:Nat×Oper->Prop):List (Nat×Oper)->Prop
 |[]=>aA7
 |[x]=>p x
 |x::y::r=>p x/\Pk p (y::r)
theorem DC{p:Nat×Oper->Prop}:∀{l:List (Nat×Oper)} {x},Pk p l->x∈l->p x
 |[],_,_,h=>by cases h
 |[y],x,h,hx=>by simp at hx;subst hx;exact h
 |y::z::r,x,h,hx=>by
  rcases List.mem_cons.1 hx with rfl|hx
  ·exact h.1
  ·exact DC h.2 hx
def rN[HX](P:Program)(ops:List Oper)(e:DE):Nat->List Nat->List Nat->Fr->World->(Fr->World->Prop)->Prop
 |0,_,_,_,_,_=>False
 |n+1,done,pend,f,w,K=>
  match oF ops done e.fl with
  |some (i,o)=>qfW P ops f o w λv=>rN P ops e n (i::done) (i::pend) (upd f o.dst v) w K
  |none=>match yZ ops e.fl done 0 ops with
   |[]=>K f w
   |x::r=>Pk (λio=>geW P ops f io.2 w λv w'=>
     sN P ops (upd f io.2.dst v) w' (rN P ops e n (io.1::done) (tI (e.anc.getD io.1 []) pend) (upd f io.2.dst v) w' K) (tI (e.anc.getD io.1 []) pend)) (x::r)
def jR(ops:List Oper)(o:Oper):List Nat:=
 (o.op.operands.toList.filterMap λ|.tmp t=>some t|_=>none)++(match o.guard with|some (g,_)=>(mJ ops g).toList|none=>[])
def CW(o:Oper):Bool:=match o.op with|.select ..=>false|_=>true
def Wt(P:Program)(ops:List Oper)(e:DE)(i:Nat):Bool:=
 match ops[i]? with
 |some o=>(iW P o.op||isRead P o.op)&&
  (match o.dst with
   |some d=>(List.range ops.length).all λk=>match ops[k]? with
     |some ok=>(k==i||ok.dst !=some d)&&(!(kG (jR ops ok) d)||kG (e.anc.getD k []) i)&&
       (match ok.dst with
        |some dk=> !(kG (jR ops o) dk)||kG (e.anc.getD i []) k||(!(kG e.fl k)&&kG (e.anc.getD k []) i)
        |none=>true)
     |none=>true
   |none=>false)
 |none=>false
def Ws(n:Nat)(ops:List Oper)(e:DE)(k:Nat):Bool:=
 match ops[k]? with
 |some o=>(match o.dst with|some d=>decide (d<n)|none=>true)&&CW o&&(dS o).all (λx=>decide (x<k))&&
   (e.anc.getD k []).all (λx=>(dS o).any λy=>x==y||kG (e.anc.getD y []) x)
 |none=>true
def mB(P:Program)(n:Nat)(ops:List Oper)(e:DE):Bool:=
 e.fl.all (Wt P ops e)&&(List.range ops.length).all (Ws n ops e)
section
variable{P:Program}{n:Nat}{ops:List Oper}{e:DE}
theorem mT(h:mB P n ops e=true){k:Nat}{o:Oper}(hk:ops[k]?=some o):
  (∀d,o.dst=some d->d<n)/\CW o=true/\(∀x∈dS o,x<k)/\∀x∈e.anc.getD k [],∃y∈dS o,x=y\/x∈e.anc.getD y []:=by
 simp only[mB,Bool.and_eq_true,List.all_eq_true]at h;have hlt:k<ops.length:=by
  rcases Nat.lt_or_ge k ops.length with h'|h'
  ·exact h'
  ·rw[List.getElem?_eq_none h']at hk;cases hk
 have:=h.2 k (List.mem_range.2 hlt);simp only[Ws,hk,Bool.and_eq_true,List.all_eq_true,List.any_eq_true,Bool.or_eq_true,beq_iff_eq,decide_eq_true_eq]at this;obtain⟨⟨⟨h1,h2⟩,h3⟩,h4⟩:=this;refine⟨λd hd=>by simpa[hd]using h1,h2,h3,λx hx=>?_⟩;obtain⟨y,hy,hxy⟩:=h4 x hx;exact⟨y,hy,hxy.imp id fA.1⟩
theorem BR(h:mB P n ops e=true)(hi:i∈e.fl):∃o d,ops[i]?=some o/\o.dst=some d/\(iW P o.op=true\/isRead P o.op=true)/\
  ∀k ok,ops[k]?=some ok->(k≠i->ok.dst≠some d)/\(d∈jR ops ok->i∈e.anc.getD k [])/\
   ∀dk,ok.dst=some dk->dk∈jR ops o->k∈e.anc.getD i []\/(k∉e.fl/\i∈e.anc.getD k []):=by
 simp only[mB,Bool.and_eq_true,List.all_eq_true]at h;have h1:=h.1 i hi;unfold Wt at h1;cases ho:ops[i]? with
 |none=>simp[ho]at h1
 |some o=>
  simp only[ho]at h1;cases hd:o.dst with
  |none=>simp[hd]at h1
  |some d=>
   simp only[hd,Bool.and_eq_true,Bool.or_eq_true,List.all_eq_true]at h1;refine⟨o,d,rfl,hd,h1.1,λk ok hk=>?_⟩;have hlt:k<ops.length:=by
    rcases Nat.lt_or_ge k ops.length with h'|h'
    ·exact h'
    ·rw[List.getElem?_eq_none h']at hk;cases hk
   have h2:=h1.2 k (List.mem_range.2 hlt);simp only[hk,Bool.and_eq_true,Bool.or_eq_true,beq_iff_eq,bne_iff_ne,Bool.not_eq_true']at h2;obtain⟨⟨h3,h4⟩,h5⟩:=h2;refine⟨λhne=>h3.resolve_left hne,λhm=>?_,λdk hdk hm=>?_⟩
   ·rcases h4 with h4|h4
    ·rw[fA.2 hm]at h4;cases h4
    ·exact fA.1 h4
   ·simp only[hdk,Bool.and_eq_true,Bool.or_eq_true,Bool.not_eq_true']at h5;rcases h5 with(h5|h5)|⟨h5,h6⟩
    ·rw[fA.2 hm]at h5;cases h5
    ·exact .inl (fA.1 h5)
    ·exact .inr ⟨(λhk'=>by rw[fA.2 hk']at h5;cases h5),fA.1 h6⟩
theorem BZ(h:mB P n ops e=true){done:List Nat}(hc:∀k∈done,∀o,ops[k]?=some o->∀x∈dS o,x∈done):
  ∀(k:Nat) (o:Oper),ops[k]?=some o->(∀x∈dS o,x∈done)->∀x∈e.anc.getD k [],x∈done:=by
 intro k;induction k using Nat.strongRecOn with
 |_ k ih=>
  intro o ho hd x hx;obtain⟨_,_,h3,h4⟩:=mT h ho;obtain⟨y,hy,hxy⟩:=h4 x hx;rcases hxy with rfl|hxy
  ·exact hd x hy
  ·have hyd:=hd y hy;cases hoy:ops[y]? with
   |none=>
    rw[List.getElem?_eq_none_iff]at hoy;have hk:k<ops.length:=by
     rcases Nat.lt_or_ge k ops.length with h'|h'
     ·exact h'
     ·rw[List.getElem?_eq_none h']at ho;cases ho
    have:=h3 y hy;omega
   |some oy=>exact ih y (h3 y hy) oy hoy (λz hz=>hc y hyd oy hoy z hz) x hxy
end
section
variable{P:Program}{n:Nat}{D:List Deferred}{ops:List Oper}{e:DE}
def YY(P:Program)(ops:List Oper)(f:Fr)(o:Oper)(d:Nat)(w:World):Prop:=
 (gC ops f o=true/\(execOp (ev f) o).run P w=.ok (.value (f d)) w)\/(gC ops f o=false/\f d=undef)
structure Inv(R:Fr->Prop)(P:Program)(n:Nat)(D:List Deferred)(ops:List Oper)(e:DE)(listed:Array Bool)(a:Act)(done pend:List Nat)(f:Fr)(w:World):Prop where
 fr:R f
 defers:a.defers=D
 size:a.tmps.size=n
 lsize:listed.size=ops.length
 l1:∀i:Nat,listed.getD i false=true->i∈done
 l2:∀i∈done,i<ops.length/\(listed.getD i false=false->i∈e.fl/\i∈pend)
 l3:∀t,(∀i∈done,listed.getD i false=false->mJ ops i≠some t)->a.tmps.getD t undef=f t
 l4:∀i∈done,listed.getD i false=false->∀o d,ops[i]?=some o->o.dst=some d->YY P ops f o d w/\(iW P o.op=true->∀w',YY P ops f o d w')
 l5:∀i∈done,∀o,ops[i]?=some o->∀x∈dS o,x∈done
 l6:∀i:Nat,listed.getD i false=true->∀o,ops[i]?=some o->∀x∈dS o,listed.getD x false=true
theorem Bi{o:Oper}{t:Nat}(h:Operand.tmp t∈o.op.operands.toList):t∈jR ops o:=by
 unfold jR;exact List.mem_append_left _ (List.mem_filterMap.2 ⟨.tmp t,h,rfl⟩)
theorem zR{o:Oper}{g:Nat}{want:Bool}{d:Nat}(hg:o.guard=some (g,want))(hd:mJ ops g=some d):d∈jR ops o:=by
 unfold jR;refine List.mem_append_right _ ?_;simp[hg,hd]
theorem IM{o:Oper}(h:CW o=true):∀cs b,o.op≠.select cs b:=by
 intro cs b he;simp[CW,he]at h
theorem yW{o:Oper}(hs:CW o=true){ρ ρ':Operand->Value}(h:∀x∈o.op.operands.toList,ρ x=ρ' x):execOp ρ o=execOp ρ' o:=
 execOp_congr o (IM hs) (λx hx=>h x (by simpa using hx))
theorem KA{f f':Fr}{x:Operand}(h:∀t,x=.tmp t->f t=f' t):ev f x=ev f' x:=by
 cases x<;>first|rfl|exact h _ rfl
theorem rQ{f f':Fr}{o:Oper}(h:∀t∈jR ops o,f t=f' t):gC ops f o=gC ops f' o:=by
 unfold gC;cases hg:o.guard with
 |none=>rfl
 |some gw=>
  obtain⟨g,want⟩:=gw;simp only[yv];cases hd:mJ ops g with
  |none=>rfl
  |some d=>simp only[h d (zR hg hd)]
theorem YY.same{f f':Fr}{o:Oper}{d:Nat}(hs:CW o=true)(h:∀t∈jR ops o,f t=f' t)(hd:f d=f' d)(hy:YY P ops f o d w):YY P ops f' o d w:=by
 unfold YY at*
 rw[<-rQ h,<-hd];rw[<-yW hs (ρ:=ev f) (ρ':=ev f') (λx hx=>KA λt ht=>h t (Bi (ht▸hx)))];exact hy
theorem Nu{f:Fr}{o:Oper}{K:Value->Prop}(hp:iW P o.op=true\/isRead P o.op=true)(h:qfW P ops f o w K):
  ∃v,K v/\((gC ops f o=true/\(execOp (ev f) o).run P w=.ok (.value v) w/\(iW P o.op=true->∀w',(execOp (ev f) o).run P w'=.ok (.value v) w'))\/(gC ops f o=false/\v=undef)):=by
 have key:∀K:Value->Prop,TW P f o w K->∃v,K v/\(execOp (ev f) o).run P w=.ok (.value v) w/\(iW P o.op=true->∀w',(execOp (ev f) o).run P w'=.ok (.value v) w'):=by
  intro K h;unfold TW at h;cases hp':iW P o.op with
  |true=>
   rw[hp']at h;obtain⟨v,hk,hr⟩:=AV (o:=o) h;exact⟨v,hk,hr w,λ_=>hr⟩
  |false=>
   rw[hp']at h;obtain⟨v,hk,hr⟩:=vX (o:=o) h;exact⟨v,hk,hr,λhh=>by cases hh⟩
 unfold qfW at h;unfold gC;cases hg:o.guard with
 |none=>
  simp only[hg]at h;obtain⟨v,hk,h1,h2⟩:=key K h;exact⟨v,hk,.inl ⟨rfl,h1,h2⟩⟩
 |some gw=>
  obtain⟨g,want⟩:=gw;simp only[hg]at h;obtain⟨v,ht,hf,hk⟩:=h;cases hc:yv ops f g want with
  |true=>
   obtain⟨v',rfl,h1,h2⟩:=key _ (ht hc);exact⟨v',hk,.inl ⟨hc,h1,h2⟩⟩
  |false=>exact⟨v,hk,.inr ⟨hc,hf hc⟩⟩
theorem tJ{done:List Nat}:∀{l:List Nat} {i:Nat} {o:Oper},oF ops done l=some (i,o)->i∈l/\i∉done/\ops[i]?=some o/\∀x∈dS o,x∈done
 |[],_,_,h=>by cases h
 |j::l,i,o,h=>by
  simp only[oF]at h
  cases hm:kG done j with
  |true=>rw[hm]at h;obtain⟨h1,h2⟩:=tJ (l:=l) h;exact⟨List.mem_cons_of_mem _ h1,h2⟩
  |false=>
   rw[hm]at h
   simp only[cond_false]at h
   have rec_:oF ops done l=some (i,o)->i∈j::l/\i∉done/\ops[i]?=some o/\∀x∈dS o,x∈done:=λh=>by
    obtain⟨h1,h2⟩:=tJ (l:=l) h
    exact⟨List.mem_cons_of_mem _ h1,h2⟩
   cases ho:ops[j]? with
   |none=>rw[ho]at h;exact rec_ h
   |some o'=>
    rw[ho]at h
    simp only at h
    cases hall:allIn done (dS o')with
    |true=>
     rw[hall]at h
     simp only[cond_true,Option.some.injEq,Prod.mk.injEq]at h
     obtain⟨rfl,rfl⟩:=h
     exact⟨List.mem_cons_self,(λhd=>by rw[fA.2 hd]at hm;cases hm),ho,vH.1 hall⟩
    |false=>rw[hall]at h;exact rec_ h
theorem pJ{done:List Nat}:∀{l:List Nat},oF ops done l=none->∀i∈l,i∉done->∀o,ops[i]?=some o->¬∀x∈dS o,x∈done
 |[],_,_,hi,_,_,_,_=>by cases hi
 |j::l,h,i,hi,hd,o,ho,hall=>by
  simp only[oF]at h
  cases hm:kG done j with
  |true=>
   rw[hm]at h
   rcases List.mem_cons.1 hi with rfl|hi
   ·exact hd (fA.1 hm)
   ·exact pJ (l:=l) h i hi hd o ho hall
  |false=>
   rw[hm]at h
   simp only[cond_false]at h
   rcases List.mem_cons.1 hi with rfl|hi
   ·rw[ho]at h
    simp[vH.2 hall]at h
   ·cases ho':ops[j]? with
    |none=>rw[ho']at h;exact pJ (l:=l) h i hi hd o ho hall
    |some o'=>
     rw[ho']at h
     simp only at h
     cases hall':allIn done (dS o')with
     |true=>rw[hall']at h;cases h
     |false=>rw[hall']at h;exact pJ (l:=l) h i hi hd o ho hall
theorem GM{fl done:List Nat}:∀(l:List Oper) (k i:Nat) (o:Oper),l[i]?=some o->k+i∉done->k+i∉fl->(∀x∈dS o,x∈done)->(k+i,o)∈yZ ops fl done k l
 |[],_,i,o,h,_,_,_=>by simp at h
 |p::l,k,0,o,h,h1,h2,h3=>by
  simp only[List.getElem?_cons_zero,Option.some.injEq]at h
  subst h
  have e1:kG done k=false:=by
   cases hm:kG done k with
   |false=>rfl
   |true=>exact absurd (fA.1 hm) h1
  have e2:kG fl k=false:=by
   cases hm:kG fl k with
   |false=>rfl
   |true=>exact absurd (fA.1 hm) h2
  simp[yZ,e1,e2,vH.2 h3]
 |p::l,k,i+1,o,h,h1,h2,h3=>by
  have h':l[i]?=some o:=by simpa using h
  have:=GM (fl:=fl) (done:=done) l (k+1) i o h' (by rwa[show k+1+i=k+(i+1)by omega]) (by rwa[show k+1+i=k+(i+1)by omega]) h3;rw[show k+1+i=k+(i+1)by omega]at this;simp only[yZ];generalize (bif kG done k then false else bif kG fl k then false else allIn done (dS p))=b;cases b
  ·exact this
  ·exact List.mem_cons_of_mem _ this
theorem Hu{fl done:List Nat}:∀(l:List Oper) (k:Nat) (io:Nat×Oper),io∈yZ ops fl done k l->k<=io.1/\l[io.1-k]?=some io.2/\io.1∉done/\io.1∉fl/\∀x∈dS io.2,x∈done
 |[],_,_,h=>by cases h
 |p::l,k,io,h=>by
  simp only[yZ]at h
  have tail:io∈yZ ops fl done (k+1) l->k<=io.1/\(p::l)[io.1-k]?=some io.2/\io.1∉done/\io.1∉fl/\∀x∈dS io.2,x∈done:=by
   intro h;obtain⟨h1,h2,h3⟩:=Hu l (k+1) io h;refine⟨by omega,?_,h3⟩;rw[show io.1-k=(io.1-(k+1))+1 by omega];simpa using h2
  cases hm:kG done k with
  |true=>rw[hm]at h;exact tail h
  |false=>
   cases hf:kG fl k with
   |true=>rw[hm,hf]at h;exact tail h
   |false=>
    cases ha:allIn done (dS p)with
    |false=>rw[hm,hf,ha]at h;exact tail h
    |true=>
     rw[hm,hf,ha]at h;simp only[cond_false,cond_true]at h;rcases List.mem_cons.1 h with rfl|h
     ·refine⟨Nat.le_refl _,by simp,(λhd=>by rw[fA.2 hd]at hm;cases hm),(λhd=>by rw[fA.2 hd]at hf;cases hf),vH.1 ha⟩
     ·exact tail h
theorem qP{f:Fr}{w:World}{R:Prop}:∀{l:List Nat},sN P ops f w R l->R
 |[],h=>h
 |i::l,h=>by
  unfold sN at h
  split at h
  ·split at h
   ·cases hp:iW P _<;>rw[hp]at h
    ·exact qP (l:=l) h.2
    ·exact qP (l:=l) h
   ·exact qP (l:=l) h
  ·exact qP (l:=l) h
theorem tD{f:Fr}{w:World}{R:Prop}:∀{l:List Nat},sN P ops f w R l->∀i∈l,∀o d,ops[i]?=some o->o.dst=some d->iW P o.op=false->gC ops f o=true->
  AS P f o w (λx=>x=f d)
 |[],_,_,hi,_,_,_,_,_,_=>by cases hi
 |j::l,h,i,hi,o,d,ho,hd,hp,hw=>by
  rcases List.mem_cons.1 hi with rfl|hi
  ·unfold sN at h
   simp only[ho,hd,hp]at h
   unfold gC at hw
   cases hg:o.guard with
   |none=>simp only[hg]at h;exact h.1
   |some gw=>
    obtain⟨g,want⟩:=gw
    simp only[hg]at h hw
    exact h.1 hw
  ·unfold sN at h
   split at h
   ·split at h
    ·cases hp':iW P _<;>rw[hp']at h
     ·exact tD (l:=l) h.2 i hi o d ho hd hp hw
     ·exact tD (l:=l) h i hi o d ho hd hp hw
    ·exact tD (l:=l) h i hi o d ho hd hp hw
   ·exact tD (l:=l) h i hi o d ho hd hp hw
end
section
variable{R:Fr->Prop}{P:Program}{n:Nat}{D:List Deferred}{ops:List Oper}{e:DE}
theorem GG:∀(N:Nat) (l:List Nat),l.Nodup->(∀i∈l,i<N)->l.length<=N
 |0,[],_,_=>Nat.le_refl _
 |0,x::_,_,h=>by have:=h x List.mem_cons_self;omega
 |N+1,l,hnd,h=>by
  have h1:(l.erase N).length<=N:=GG N (l.erase N) (hnd.erase N) λi hi=>by
   have h2:=h i (List.mem_of_mem_erase hi)
   have h3:i≠N:=λe=>by subst e;exact(List.Nodup.not_mem_erase hnd) hi
   omega
  have h4:=List.length_erase (a:=N) (l:=l)
  split at h4<;>omega
theorem lt_of_some{k:Nat}{o:Oper}(h:ops[k]?=some o):k<ops.length:=by
 rcases Nat.lt_or_ge k ops.length with h'|h'
 ·exact h'
 ·rw[List.getElem?_eq_none h']at h;cases h
theorem sF{k:Nat}{o:Oper}(h:ops[k]?=some o):mJ ops k=o.dst:=by simp[mJ,h]
theorem Inv.float(hR:∀f o v,o∈ops->R f->R (upd f o.dst v))(hc:mB P n ops e=true){listed:Array Bool}{a:Act}{done pend:List Nat}{f:Fr}(I:Inv R P n D ops e listed a done pend f w){o:Oper}(hi:i∈e.fl)(hd:i∉done)(ho:ops[i]?=some o)(hb:∀x∈dS o,x∈done)
  (hv:(gC ops f o=true/\(execOp (ev f) o).run P w=.ok (.value v) w/\(iW P o.op=true->∀w',(execOp (ev f) o).run P w'=.ok (.value v) w'))\/(gC ops f o=false/\v=undef)):
  Inv R P n D ops e listed a (i::done) (i::pend) (upd f o.dst v) w:=by
 obtain⟨o',d,ho',hdst,hkind,hall⟩:=BR hc hi;rw[ho]at ho';cases ho';have hself:d∉jR ops o:=λhm=>hd (BZ hc I.l5 i o ho hb i ((hall i o ho).2.1 hm));have hfd:∀t,t≠d->upd f o.dst v t=f t:=λt ht=>by rw[hdst,jU,if_neg ht]
 refine⟨hR _ _ _ (List.mem_of_getElem? ho) I.fr,I.defers,I.size,I.lsize,λk hk=>List.mem_cons_of_mem _ (I.l1 k hk),?_,?_,?_,?_,I.l6⟩
 ·intro k hk;rcases List.mem_cons.1 hk with rfl|hk
  ·exact⟨lt_of_some ho,λ_=>⟨hi,List.mem_cons_self⟩⟩
  ·exact⟨(I.l2 k hk).1,λhl=>⟨((I.l2 k hk).2 hl).1,List.mem_cons_of_mem _ ((I.l2 k hk).2 hl).2⟩⟩
 ·intro t ht;have htd:t≠d:=λh=>by
   subst h;refine ht i List.mem_cons_self ?_ (by rw[sF ho,hdst]);cases hl:listed.getD i false with
   |false=>rfl
   |true=>exact absurd (I.l1 i hl) hd
  rw[hfd t htd];exact I.l3 t λk hk hl=>ht k (List.mem_cons_of_mem _ hk) hl
 ·intro k hk hl ok dk hok hdk;rcases List.mem_cons.1 hk with rfl|hk
  ·rw[ho]at hok;cases hok;rw[hdst]at hdk;cases hdk;have hsame:∀t∈jR ops o,f t=upd f o.dst v t:=λt ht=>(hfd t (λh=>hself (h▸ht))).symm;have hval:upd f o.dst v d=v:=by rw[hdst,jU,if_pos rfl]
   have hsel:=(mT hc ho).2.1;have hex:execOp (ev f) o=execOp (ev (upd f o.dst v)) o:=yW hsel (λx hx=>KA λt ht=>hsame t (Bi (ht▸hx)));rcases hv with⟨h1,h2,h3⟩|⟨h1,h2⟩
   ·rw[hex]at h2 h3;rw[rQ hsame]at h1;exact⟨.inl ⟨h1,by rw[hval];exact h2⟩,λhp w'=>.inl ⟨h1,by rw[hval];exact h3 hp w'⟩⟩
   ·rw[rQ hsame]at h1;exact⟨.inr ⟨h1,by rw[hval];exact h2⟩,λ_ _=>.inr ⟨h1,by rw[hval];exact h2⟩⟩
  ·have hki:k≠i:=λh=>hd (h▸hk);have hdl:d∉jR ops ok:=λhm=>hd (BZ hc I.l5 k ok hok (I.l5 k hk ok hok) i ((hall k ok hok).2.1 hm));have hdd:dk≠d:=λh=>(hall k ok hok).1 hki (by rw[hdk,h]);have hsel:=(mT hc hok).2.1;have h4:=I.l4 k hk hl ok dk hok hdk;have hsame:∀t∈jR ops ok,f t=upd f o.dst v t:=λt ht=>(hfd t (λh=>hdl (h▸ht))).symm;exact⟨h4.1.same hsel hsame (hfd dk hdd).symm,λhp w'=>(h4.2 hp w').same hsel hsame (hfd dk hdd).symm⟩
 ·intro k hk ok hok x hx;rcases List.mem_cons.1 hk with rfl|hk
  ·rw[ho]at hok;cases hok;exact List.mem_cons_of_mem _ (hb x hx)
  ·exact List.mem_cons_of_mem _ (I.l5 k hk ok hok x hx)
theorem zA[HX](hR:∀f o v,o∈ops->R f->R (upd f o.dst v))(hc:mB P n ops e=true){K:Fr->World->Prop}{listed:Array Bool}{a:Act}{w:World}:∀(m:Nat) (done pend:List Nat) (f:Fr),
  Inv R P n D ops e listed a done pend f w->rN P ops e m done pend f w K->
  ∃m' done' pend' f',Inv R P n D ops e listed a done' pend' f' w/\rN P ops e (m'+1) done' pend' f' w K/\oF ops done' e.fl=none
 |0,_,_,_,_,h=>by cases h
 |m+1,done,pend,f,I,h=>by
  cases hn:oF ops done e.fl with
  |none=>exact⟨m,done,pend,f,I,h,hn⟩
  |some io=>
   obtain⟨i,o⟩:=io
   simp only[rN,hn]at h
   obtain⟨h1,h2,h3,h4⟩:=tJ hn
   obtain⟨o',d,ho',hdst,hkind,_⟩:=BR hc h1
   rw[h3]at ho'
   cases ho'
   obtain⟨v,hk,hv⟩:=Nu hkind h
   exact zA hR hc m _ _ _ (I.float hR hc h1 h2 h3 h4 hv) hk
theorem wA{listed:Array Bool}(hsz:listed.size=ops.length):i∈Region.ready .any ops.toArray listed↔
  ∃o,ops[i]?=some o/\listed.getD i false=false/\∀x∈dS o,listed.getD x false=true:=by
 unfold Region.ready;simp only[List.mem_filter,List.mem_range,List.size_toArray,Bool.and_eq_true,Bool.not_eq_true',List.getElem?_toArray];constructor
 ·rintro⟨h1,h2,h3⟩;have ho:ops[i]?=some ops[i]:=List.getElem?_eq_getElem h1;rw[ho]at h3;simp only[Option.map_some,Option.getD_some,Array.all_eq_true_iff_forall_mem,Bool.or_eq_true,Bool.not_eq_true']at h3;refine⟨_,ho,?_,λx hx=>?_⟩
  ·simp only[Array.getD_eq_getD_getElem?]at h2⊢;have:i<listed.size:=by rw[hsz];exact h1
   simpa[this]using h2
  ·simp only[dS,List.mem_map,List.mem_filter,Array.mem_toList_iff]at hx;obtain⟨ed,⟨hm,hb⟩,rfl⟩:=hx;rcases h3 ed hm with h3|h3
   ·rw[hb]at h3;cases h3
   ·exact h3
 ·rintro⟨o,ho,h2,h3⟩;have h1:=lt_of_some ho;refine⟨h1,?_,?_⟩
  ·simp only[Array.getD_eq_getD_getElem?]at h2⊢;have:i<listed.size:=by rw[hsz];exact h1
   simpa[this]using h2
  ·rw[ho];simp only[Option.map_some,Option.getD_some,Array.all_eq_true_iff_forall_mem,Bool.or_eq_true,Bool.not_eq_true'];intro ed hm;cases hb:Region.binds .any ed with
   |false=>exact .inl rfl
   |true=>exact .inr (h3 _ (by simp only[dS,List.mem_map,List.mem_filter,Array.mem_toList_iff];exact⟨ed,⟨hm,hb⟩,rfl⟩))
theorem jA(listed:Array Bool)(i k:Nat)(hi:i<listed.size):(listed.setIfInBounds i true).getD k false=(if k=i then true else listed.getD k false):=by
 simp only[Array.getD_eq_getD_getElem?,Array.getElem?_setIfInBounds];by_cases h:k=i
 ·subst h;simp[hi]
 ·rw[if_neg h,if_neg (Ne.symm h)]
theorem Js[HX](hR:∀f o v,o∈ops->R f->R (upd f o.dst v))(hc:mB P n ops e=true){Q:Exit->Act->World->Prop}{K:Fr->World->Prop}
  (hQ:∀f a w,Ag n D f a->R f->K f w->Q .normal a w)(hX:∀c f a w,a.defers=D->R f->(∀t,(∀o∈ops,o.dst≠some t)->a.tmps.getD t undef=f t)->HX.X c w->Q (.panic c) a w):∀(m:Nat) (listed:Array Bool) (a:Act) (done pend:List Nat) (f:Fr) (w:World) (k:Nat),
  Inv R P n D ops e listed a done pend f w->rN P ops e k done pend f w K->(∀l:List Nat,l.Nodup->(∀i∈l,i<ops.length/\listed.getD i false=false)->l.length<=m)->
  wpAny P .any ops.toArray Q m listed a w:=by
 have fin:∀(listed:Array Bool) (a:Act) (done pend:List Nat) (f:Fr) (w:World) (k:Nat),Inv R P n D ops e listed a done pend f w->rN P ops e k done pend f w K->
   (∀i,i<ops.length->listed.getD i false=true)->Q .normal a w:=by
  intro listed a done pend f w k I h hall;obtain⟨k',done',pend',f',I',h',hn⟩:=zA hR hc k done pend f I h;simp only[rN,hn]at h';have hag:Ag n D f' a:=⟨I'.defers,I'.size,λt=>I'.l3 t λi hi hl=>by
   have:=hall i (I'.l2 i hi).1;rw[this]at hl;cases hl⟩
  cases he:yZ ops e.fl done' 0 ops with
  |nil=>rw[he]at h';exact hQ _ _ _ hag I'.fr h'
  |cons x r=>
   have hx:x∈yZ ops e.fl done' 0 ops:=by rw[he];exact List.mem_cons_self
   obtain⟨_,h2,h3,_⟩:=Hu ops 0 x hx;exact absurd (I'.l1 x.1 (hall x.1 (lt_of_some (by simpa using h2)))) h3
 have stop:∀(listed:Array Bool),listed.size=ops.length->Region.ready .any ops.toArray listed=[]->∀i,i<ops.length->listed.getD i false=true:=by
  intro listed hsz hr i;induction i using Nat.strongRecOn with
  |_ i ih=>
   intro hi;cases hl:listed.getD i false with
   |true=>rfl
   |false=>
    have ho:ops[i]?=some ops[i]:=List.getElem?_eq_getElem hi;have:i∈Region.ready .any ops.toArray listed:=(wA hsz).2 ⟨_,ho,hl,λx hx=>by
     have:=(mT hc ho).2.2.1 x hx;exact ih x this (by omega)⟩
    rw[hr]at this;cases this
 intro m;induction m with
 |zero=>
  intro listed a done pend f w k I h hcount;have hall:∀i,i<ops.length->listed.getD i false=true:=λi hi=>by
   cases hl:listed.getD i false with
   |true=>rfl
   |false=>have:=hcount [i] (by simp) (by intro j hj;rw[List.mem_singleton.1 hj];exact⟨hi,hl⟩);simp at this
  refine⟨?_,fin _ _ _ _ _ _ _ I h hall⟩;cases hr:Region.ready .any ops.toArray listed with
  |nil=>rfl
  |cons i r=>
   have:i∈Region.ready .any ops.toArray listed:=by rw[hr];exact List.mem_cons_self
   obtain⟨o,ho,hl,_⟩:=(wA I.lsize).1 this;rw[hall i (lt_of_some ho)]at hl;cases hl
 |succ m ih=>
  intro listed a done pend f w k I h hcount;refine⟨λhr=>fin _ _ _ _ _ _ _ I h (stop listed I.lsize hr),λi hi=>?_⟩;obtain⟨o,ho,hl,hb⟩:=(wA I.lsize).1 hi;have hilt:=lt_of_some ho;have hils:i<listed.size:=by rw[I.lsize];exact hilt
  obtain⟨k',done',pend',f',I',h',hn⟩:=zA hR hc k done pend f I h;clear I h;have hagree:∀t∈jR ops o,a.tmps.getD t undef=f' t:=λt ht=>I'.l3 t λj hj hlj hdj=>by
   obtain⟨hjf,_⟩:=(I'.l2 j hj).2 hlj;obtain⟨oj,dj,hoj,hdst,_,hall⟩:=BR hc hjf;rw[sF hoj,hdst]at hdj;cases hdj;have hanc:=(hall i o ho).2.1 ht;have hlist:∀x∈e.anc.getD i [],listed.getD x false=true:=by
    have:=BZ hc (done:=(List.range ops.length).filter λx=>listed.getD x false) (λx hx ox hox y hy=>by
     simp only[List.mem_filter,List.mem_range]at hx⊢;exact⟨by have:=(mT hc hox).2.2.1 y hy;omega,I'.l6 x hx.2 ox hox y hy⟩) i o ho (λx hx=>by
     simp only[List.mem_filter,List.mem_range];exact⟨by have:=(mT hc ho).2.2.1 x hx;omega,hb x hx⟩)
    intro x hx;have:=this x hx;simp only[List.mem_filter]at this;exact this.2
   rw[hlist j hanc]at hlj;cases hlj
  have hsel:=(mT hc ho).2.1;have hwant:Region.wanted o (yielded ops.toArray a.tmps)=gC ops f' o:=Cq λg want d hg hd=>hagree d (zR hg hd);have hexec:execOp a.eval o=execOp (ev f') o:=yW hsel λx hx=>Wm λt ht=>hagree t (Bi (ht▸hx));have hcount':∀l:List Nat,l.Nodup->(∀j∈l,j<ops.length/\(listed.setIfInBounds i true).getD j false=false)->l.length<=m:=by
   intro l hnd hl';have hil:i∉l:=λhm=>by
    have:=(hl' i hm).2;rw[jA _ _ _ hils,if_pos rfl]at this;cases this
   have:=hcount (i::l) (List.nodup_cons.2 ⟨hil,hnd⟩) (λj hj=>by
    rcases List.mem_cons.1 hj with rfl|hj
    ·exact⟨hilt,hl⟩
    ·have hne:j≠i:=λh=>hil (h▸hj);have:=hl' j hj;rw[jA _ _ _ hils,if_neg hne]at this;exact this)
   simpa using this
  have hl6:∀j:Nat,(listed.setIfInBounds i true).getD j false=true->∀oj,ops[j]?=some oj->∀x∈dS oj,(listed.setIfInBounds i true).getD x false=true:=by
   intro j hj oj hoj x hx;rw[jA _ _ _ hils];by_cases hxi:x=i
   ·rw[if_pos hxi]
   ·rw[if_neg hxi];rw[jA _ _ _ hils]at hj;by_cases hji:j=i
    ·subst hji;rw[ho]at hoj;cases hoj;exact hb x hx
    ·rw[if_neg hji]at hj;exact I'.l6 j hj oj hoj x hx
  by_cases hdone:i∈done'
  ·
   obtain⟨hif,_⟩:=(I'.l2 i hdone).2 hl;obtain⟨o',d,ho',hdst,_,hall⟩:=BR hc hif;rw[ho]at ho';cases ho';have hdn:=(mT hc ho).1 d hdst;have hI:Inv R P n D ops e (listed.setIfInBounds i true) (a.put o.dst (f' d)) done' pend' f' w:=by
    refine⟨I'.fr,by rw[put_defers];exact I'.defers,by rw[AT];exact I'.size,by simp[I'.lsize],?_,?_,?_,?_,I'.l5,hl6⟩
    ·intro j hj;rw[jA _ _ _ hils]at hj;by_cases hji:j=i
     ·subst hji;exact hdone
     ·rw[if_neg hji]at hj;exact I'.l1 j hj
    ·intro j hj;refine⟨(I'.l2 j hj).1,λhlj=>?_⟩;rw[jA _ _ _ hils]at hlj;by_cases hji:j=i
     ·rw[if_pos hji]at hlj;cases hlj
     ·rw[if_neg hji]at hlj;exact(I'.l2 j hj).2 hlj
    ·intro t ht;rw[hdst,Eu _ _ _ _ (by rw[I'.size];exact hdn)];by_cases htd:t=d
     ·rw[if_pos htd,htd]
     ·rw[if_neg htd];refine I'.l3 t λj hj hlj hdj=>?_;by_cases hji:j=i
      ·subst hji;rw[sF ho,hdst]at hdj;cases hdj;exact htd rfl
      ·exact ht j hj (by rw[jA _ _ _ hils,if_neg hji];exact hlj) hdj
    ·intro j hj hlj;rw[jA _ _ _ hils]at hlj;by_cases hji:j=i
     ·rw[if_pos hji]at hlj;cases hlj
     ·rw[if_neg hji]at hlj;exact I'.l4 j hj hlj
   have hnext:=ih _ _ done' pend' f' w (k'+1) hI h' hcount';have hy:=(I'.l4 i hdone hl o d ho hdst).1;unfold wpOp;simp only[List.getElem?_toArray,ho];rw[hwant];rcases hy with⟨h1,h2⟩|⟨h1,h2⟩
   ·rw[if_pos h1];refine .inl ?_;unfold Oper.wp;rw[hexec,h2];exact hnext
   ·rw[if_neg (by rw[h1];simp),<-h2];exact hnext
  ·
   have hbd:∀x∈dS o,x∈done':=λx hx=>I'.l1 x (hb x hx);have hnf:i∉e.fl:=λhf=>pJ hn i hf hdone o ho hbd;have hmem:(i,o)∈yZ ops e.fl done' 0 ops:=by
    have:=GM (ops:=ops) (fl:=e.fl) (done:=done') ops 0 i o ho (by simpa using hdone) (by simpa using hnf) hbd;simpa using this
   simp only[rN,hn]at h';have hge:geW P ops f' o w λv w'=>sN P ops (upd f' o.dst v) w' (rN P ops e k' (i::done') (tI (e.anc.getD i []) pend') (upd f' o.dst v) w' K) (tI (e.anc.getD i []) pend'):=by
    cases he:yZ ops e.fl done' 0 ops with
    |nil=>rw[he]at hmem;cases hmem
    |cons x r=>
     rw[he]at h' hmem;exact DC h' hmem
   have hdn:=(mT hc ho).1;have hlanc:∀x∈e.anc.getD i [],listed.getD x false=true:=by
    have:=BZ hc (done:=(List.range ops.length).filter λx=>listed.getD x false) (λx hx ox hox y hy=>by
     simp only[List.mem_filter,List.mem_range]at hx⊢;exact⟨by have:=(mT hc hox).2.2.1 y hy;omega,I'.l6 x hx.2 ox hox y hy⟩) i o ho (λx hx=>by
     simp only[List.mem_filter,List.mem_range];exact⟨by have:=(mT hc ho).2.2.1 x hx;omega,hb x hx⟩)
    intro x hx;have:=this x hx;simp only[List.mem_filter]at this;exact this.2
   have cont:∀v w',sN P ops (upd f' o.dst v) w' (rN P ops e k' (i::done') (tI (e.anc.getD i []) pend') (upd f' o.dst v) w' K) (tI (e.anc.getD i []) pend')->
     wpAny P .any ops.toArray Q m (listed.setIfInBounds i true) (a.put o.dst v) w':=by
    intro v w' hst;refine ih _ _ (i::done') (tI (e.anc.getD i []) pend') (upd f' o.dst v) w' k' ?_ (qP hst) hcount';have hunl:∀j∈i::done',(listed.setIfInBounds i true).getD j false=false->j≠i/\j∈done'/\listed.getD j false=false:=by
     intro j hj hlj;rw[jA _ _ _ hils]at hlj;by_cases hji:j=i
     ·rw[if_pos hji]at hlj;cases hlj
     ·rw[if_neg hji]at hlj;exact⟨hji,(List.mem_cons.1 hj).resolve_left hji,hlj⟩
    refine⟨hR _ _ _ (List.mem_of_getElem? ho) I'.fr,by rw[put_defers];exact I'.defers,by rw[AT];exact I'.size,by simp[I'.lsize],?_,?_,?_,?_,?_,hl6⟩
    ·intro j hj;rw[jA _ _ _ hils]at hj;by_cases hji:j=i
     ·subst hji;exact List.mem_cons_self
     ·rw[if_neg hji]at hj;exact List.mem_cons_of_mem _ (I'.l1 j hj)
    ·intro j hj;refine⟨?_,λhlj=>?_⟩
     ·rcases List.mem_cons.1 hj with rfl|hj
      ·exact hilt
      ·exact(I'.l2 j hj).1
     ·obtain⟨hji,hjd,hlj'⟩:=hunl j hj hlj;obtain⟨h1,h2⟩:=(I'.l2 j hjd).2 hlj';exact⟨h1,CY h2 λhm=>by rw[hlanc j hm]at hlj';cases hlj'⟩
    ·intro t ht;have h3:∀(h:∀d,o.dst=some d->t≠d),a.tmps.getD t undef=f' t:=λh=>I'.l3 t λj hj hlj hdj=>by
      have hji:j≠i:=λh'=>hdone (h'▸hj);exact ht j (List.mem_cons_of_mem _ hj) (by rw[jA _ _ _ hils,if_neg hji];exact hlj) hdj
     cases hdst:o.dst with
     |none=>rw[hdst]at h3;exact h3 (λd hd=>by cases hd)
     |some d=>
      rw[Eu _ _ _ _ (by rw[I'.size];exact hdn d hdst),jU];by_cases htd:t=d
      ·rw[if_pos htd,if_pos htd]
      ·rw[if_neg htd,if_neg htd];exact h3 (λd' hd'=>by rw[hdst]at hd';cases hd';exact htd)
    ·intro j hj hlj oj dj hoj hdj;obtain⟨hji,hjd,hlj'⟩:=hunl j hj hlj;obtain⟨hjf,hjp⟩:=(I'.l2 j hjd).2 hlj';obtain⟨oj',dj',hoj',hdj',hkind,hall⟩:=BR hc hjf;rw[hoj]at hoj';cases hoj';rw[hdj]at hdj';cases hdj';have hselj:=(mT hc hoj).2.1;have hanc:j∉e.anc.getD i []:=λhm=>by rw[hlanc j hm]at hlj';cases hlj'
     have hfree:∀t,(t∈jR ops oj\/t=dj)->f' t=upd f' o.dst v t:=by
      intro t ht;cases hdst:o.dst with
      |none=>rfl
      |some d=>
       rw[jU];by_cases htd:t=d
       ·exfalso;subst htd;rcases ht with ht|ht
        ·rcases(hall i o ho).2.2 t hdst ht with h1|⟨_,h1⟩
         ·exact hdone (BZ hc I'.l5 j oj hoj (I'.l5 j hjd oj hoj) i h1)
         ·exact hanc h1
        ·exact(hall i o ho).1 (Ne.symm hji) (by rw[hdst,ht])
       ·rw[if_neg htd]
     obtain⟨hy1,hy2⟩:=I'.l4 j hjd hlj' oj dj hoj hdj;have hpure:iW P oj.op=true->∀w',YY P ops (upd f' o.dst v) oj dj w':=λhp w'=>(hy2 hp w').same hselj (λt ht=>hfree t (.inl ht)) (hfree dj (.inr rfl));refine⟨?_,hpure⟩;cases hp:iW P oj.op with
     |true=>exact hpure hp w'
     |false=>
      cases hwj:gC ops (upd f' o.dst v) oj with
      |true=>
       have:=tD hst j (CY hjp hanc) oj dj hoj hdj hp hwj;obtain⟨x,rfl,hr⟩:=vX this;exact .inl ⟨hwj,hr⟩
      |false=>
       refine .inr ⟨hwj,?_⟩;have hw0:gC ops f' oj=false:=by rw[rQ (λt ht=>hfree t (.inl ht))];exact hwj
       rcases hy1 with⟨h1,_⟩|⟨_,h1⟩
       ·rw[hw0]at h1;cases h1
       ·rw[<-hfree dj (.inr rfl)];exact h1
    ·intro j hj oj hoj x hx;rcases List.mem_cons.1 hj with rfl|hj
     ·rw[ho]at hoj;cases hoj;exact List.mem_cons_of_mem _ (hbd x hx)
     ·exact List.mem_cons_of_mem _ (I'.l5 j hj oj hoj x hx)
   unfold wpOp;simp only[List.getElem?_toArray,ho];rw[hwant];unfold geW at hge;unfold gC;have hxa:∀c w,HX.X c w->Q (.panic c) a w:=λc w hx=>hX c f' a w I'.defers I'.fr (λt ht=>I'.l3 t λj hj _ hdj=>by
    obtain⟨oj,hoj⟩:∃oj,ops[j]?=some oj:=⟨_,List.getElem?_eq_getElem (I'.l2 j hj).1⟩;rw[sF hoj]at hdj;exact ht oj (List.mem_of_getElem? hoj) hdj) hx
   have act:∀{K':Value->World->Prop},(∀v w',K' v w'->wpAny P .any ops.toArray Q m (listed.setIfInBounds i true) (a.put o.dst v) w')->FB P f' o w K'->
     o.wp P a w (wpAny P .any ops.toArray Q m (listed.setIfInBounds i true)) Q:=by
    intro K' hk ha;unfold Oper.wp;rw[hexec];exact(DU ha).upon hk hxa
   cases hg:o.guard with
   |none=>
    simp only[hg]at hge;exact .inl (act cont hge)
   |some gw=>
    obtain⟨g,want⟩:=gw;simp only[hg]at hge;obtain⟨h1,h2⟩:=hge;cases hcv:yv ops f' g want with
    |true=>simp only[hcv,if_true];exact .inl (act cont (h1 hcv))
    |false=>simp only[hcv,Bool.false_eq_true,if_false];exact cont _ _ (h2 hcv)
theorem Gq[HX]{id:Nat}(hR:∀f o v,o∈ops->R f->R (upd f o.dst v))(hm:P.follows .mixedOrders=true)(hc:mB P n ops e=true){Q:Exit->Act->World->Prop}{K:Fr->World->Prop}{f:Fr}{a:Act}{k:Nat}
  (hQ:∀f a w,Ag n D f a->R f->K f w->Q .normal a w)(hX:∀c f a w,a.defers=D->R f->(∀t,(∀o∈ops,o.dst≠some t)->a.tmps.getD t undef=f t)->HX.X c w->Q (.panic c) a w)(ha:Ag n D f a)(hf:R f)(h:rN P ops e k [] [] f w.drew K):(Code.region id ops.toArray true).wp P Q a w:=by
 refine wp_region_any hm ?_;have hfalse:∀i:Nat,(Array.replicate ops.length false).getD i false=false:=λi=>by
  simp only[Array.getD_eq_getD_getElem?,Array.getElem?_replicate];split<;>rfl
 refine Js hR hc hQ hX _ _ a [] [] f _ k ⟨hf,ha.1,ha.2.1,by simp,?_,?_,?_,?_,?_,?_⟩ h ?_
 ·intro i hi;rw[show ops.toArray.size=ops.length from by simp,hfalse]at hi;cases hi
 ·intro i hi;cases hi
 ·intro t _;exact ha.2.2 t
 ·intro i hi;cases hi
 ·intro i hi;cases hi
 ·intro i hi;rw[show ops.toArray.size=ops.length from by simp,hfalse]at hi;cases hi
 ·intro l hnd hl;have:l.length<=ops.length:=by
   exact GG _ l hnd λi hi=>(hl i hi).1
  simpa using this
end
structure PE where
 C:List Nat
 V:List Nat
 lo:Nat
structure bC where
 js:List (Nat×PE)
 ds:List (Nat×DE)
def lk{α:Type}:List (Nat×α)->Nat->Option α
 |[],_=>none
 |(k,e)::r,i=>bif Nat.beq k i then some e else lk r i
def Dh(V:List Nat)(lo t:Nat):Bool:=bif Nat.ble lo t then true else kG V t
def ovl:List Nat->Nat->List Value->Fr->Fr
 |[],_,_,f=>f
 |c::C,k,s,f=>λj=>bif Nat.beq j c then s.getD k undef else ovl C (k+1) s f j
def ovf(e:PE)(f:Fr)(s:List Value)(g:Fr):Fr:=ovl e.C 0 s (λj=>bif Dh e.V e.lo j then g j else f j)
def aP(A:(List Value->World->Prop)->Prop)(B:List Value->Fr->World->Prop):Prop:=
 ∃J:List Value->World->Prop,A J/\∀s g w,J s w->B s g w
def cX(c:Bool)(u:List Value)(w:World)(A:(List Value->World->Prop)->Prop)(B:List Value->Fr->World->Prop):Prop:=
 ∃J:List Value->World->Prop,(c=true->A J)/\(c=false->J u w)/\∀s g w',J s w'->B s g w'
def bL(s0:List Value)(w0:World)(B:List Value->Fr->World->(List Value->World->Prop)->Prop):Prop:=
 ∃(I:List Value->World->Prop) (μ:List Value->World->Nat),I s0 w0/\∀s g w,I s w->B s g w (λs' w'=>I s' w'/\μ s' w'<μ s w)
def aD(v:Value)(A B:Prop):Prop:=match v with|.bool t=>(t=true->A)/\(t=false->B)|_=>False
def gEq:Option (Nat×Bool)->Nat->Bool->Bool
 |some (g',w'),g,w=>bif Nat.beq g g' then w==w' else false
 |none,_,_=>false
def vO(g:Nat)(want:Bool):List Oper->List Oper
 |[]=>[]
 |o::r=>bif gEq o.guard g want then o::vO g want r else []
def yE(g:Nat)(want:Bool):List Oper->List Oper
 |[]=>[]
 |o::r=>bif gEq o.guard g want then yE g want r else o::r
def YN[HX](P:Program):List Oper->Fr->World->(Fr->World->Prop)->Prop
 |[],f,w,K=>K f w
 |o::r,f,w,K=>FB P f o w λv w'=>YN P r (upd f o.dst v) w' K
def AE:List Oper->Fr->Fr
 |[],f=>f
 |o::r,f=>AE r (upd f o.dst undef)
def OL(i k:Nat):Nat:=i*1000+k
def NI[HX](P:Program)(pl:bC)(i:Nat)(ops:List Oper):Nat->List Oper->Fr->World->(Fr->World->Prop)->Prop
 |0,_,_,_,_=>False
 |_+1,[],f,w,K=>K f w
 |n+1,o::r,f,w,K=>
  match o.guard with
  |none=>FB P f o w λv w'=>NI P pl i ops n r (upd f o.dst v) w' K
  |some (g,want)=>
   match lk pl.js (OL i (o::r).length)with
   |some e=>cX (yv ops f g want) (e.C.map (AE (vO g want (o::r)) f)) w (λJ=>YN P (vO g want (o::r)) f w λf' w'=>J (e.C.map f') w')
     λs h w'=>NI P pl i ops n (yE g want (o::r)) (ovf e f s h) w' K
   |none=>False
def pI:Code->Nat
 |.seq a b=>pI a+pI b+1
 |.cond _ a b=>pI a+pI b+1
 |.block _ b=>pI b+1
 |.loop b=>pI b+1
 |.scope b=>pI b+1
 |_=>1
def kO[HX](P:Program)(pl:bC):Code->Nat->Fr->World->(Fr->World->Prop)->(Nat->Fr->World->Prop)->(Fr->World->Prop)->Prop
 |.skip,_,f,w,kn,_,_=>kn f w
 |.label _,_,f,w,kn,_,_=>kn f w
 |.region _ ops draw,i,f,w,kn,_,_=>
  bif draw then(match lk pl.ds i with|some e=>rN P ops.toList e (ops.toList.length+1) [] [] f w.drew kn|none=>False)
  else NI P pl i ops.toList (ops.toList.length+1) ops.toList f w kn
 |.seq a b,i,f,w,kn,kx,kr=>
  match lk pl.js i with
  |none=>kO P pl a (i+1) f w (λf' w'=>kO P pl b (i+1+pI a) f' w' kn kx kr) kx kr
  |some e=>aP (λJ=>kO P pl a (i+1) f w (λf' w'=>J (e.C.map f') w') kx kr) λs g w'=>kO P pl b (i+1+pI a) (ovf e f s g) w' kn kx kr
 |.cond c a b,i,f,w,kn,kx,kr=>aD (ev f c) (kO P pl a (i+1) f w kn kx kr) (kO P pl b (i+1+pI a) f w kn kx kr)
 |.block id b,i,f,w,kn,kx,kr=>kO P pl b (i+1) f w kn (λj f' w'=>bif Nat.beq j id then kn f' w' else kx j f' w') kr
 |.loop b,i,f,w,_,kx,kr=>
  match lk pl.js i with
  |none=>False
  |some e=>bL (e.C.map f) w λs g w' again=>kO P pl b (i+1) (ovf e f s g) w' (λf' w''=>again (e.C.map f') w'') kx kr
 |.scope b,i,f,w,kn,kx,kr=>kO P pl b (i+1) f w kn kx kr
 |.exit id,_,f,w,_,kx,_=>kx id f w
 |.ret,_,f,w,_,_,kr=>kr f w
 |_,_,_,_,_,_,_=>False
def HG(V:List Nat)(lo:Nat)(e:PE):Bool:=Nat.ble lo e.lo&&e.V.all (Dh V lo)&&e.C.all (Dh e.V e.lo)
def vQ(V:List Nat)(lo:Nat)(o:Oper):Bool:=match o.dst with|some d=>Dh V lo d|none=>true
def Hv(n:Nat)(o:Oper):Bool:=match o.dst with|some d=>Nat.blt d n|none=>true
def jK(pl:bC)(V:List Nat)(lo:Nat)(i:Nat)(ops:List Oper):List Oper->Bool
 |[]=>true
 |o::r=>(match o.guard with
  |none=>true
  |some (g,want)=>(match lk pl.js (OL i (o::r).length)with
   |some e=>HG V lo e&&(vO g want (o::r)).all λx=>vQ e.V e.lo x&&(match x.dst,mJ ops g with|some d,some dg=> !(Nat.beq d dg)|_,_=>true)
   |none=>true))&&jK pl V lo i ops r
def Ck(P:Program)(n:Nat)(pl:bC)(V:List Nat)(lo:Nat):Code->Nat->Bool
 |.region _ ops draw,i=>ops.toList.all (λo=>vQ V lo o&&Hv n o)&&
  (bif draw then(match lk pl.ds i with|some e=>mB P n ops.toList e|none=>true)else jK pl V lo i ops.toList ops.toList)
 |.seq a b,i=>(match lk pl.js i with|none=>Ck P n pl V lo a (i+1)|some e=>HG V lo e&&Ck P n pl e.V e.lo a (i+1))&&Ck P n pl V lo b (i+1+pI a)
 |.cond _ a b,i=>Ck P n pl V lo a (i+1)&&Ck P n pl V lo b (i+1+pI a)
 |.block _ b,i=>Ck P n pl V lo b (i+1)
 |.scope b,i=>Ck P n pl V lo b (i+1)
 |.loop b,i=>(match lk pl.js i with|none=>true|some e=>HG V lo e&&Ck P n pl e.V e.lo b (i+1))
 |_,_=>true
def Same(V:List Nat)(lo:Nat)(f f':Fr):Prop:=∀t,Dh V lo t=false->f' t=f t
theorem Same.refl(V:List Nat)(lo:Nat)(f:Fr):Same V lo f f:=λ_ _=>rfl
theorem Same.trans{V:List Nat}{lo:Nat}{f g h:Fr}(h1:Same V lo f g)(h2:Same V lo g h):Same V lo f h:=λt ht=>(h2 t ht).trans (h1 t ht)
theorem Kk{V:List Nat}{lo t:Nat}:Dh V lo t=true↔lo<=t\/t∈V:=by
 unfold Dh;cases h:Nat.ble lo t with
 |true=>simp[Nat.le_of_ble_eq_true h]
 |false=>
  have:¬lo<=t:=λhle=>by rw[Nat.ble_eq_true_of_le hle]at h;cases h
  simp[this,fA]
theorem zF{V:List Nat}{lo:Nat}{e:PE}(h:HG V lo e=true):(∀t,Dh e.V e.lo t=true->Dh V lo t=true)/\∀c∈e.C,Dh e.V e.lo c=true:=by
 simp only[HG,Bool.and_eq_true,List.all_eq_true]at h;refine⟨λt ht=>?_,h.2⟩;rcases Kk.1 ht with h1|h1
 ·exact Kk.2 (.inl (Nat.le_trans (Nat.le_of_ble_eq_true h.1.1) h1))
 ·exact h.1.2 t h1
theorem Same.wider{V V':List Nat}{lo lo':Nat}{f f':Fr}(hs:∀t,Dh V lo t=true->Dh V' lo' t=true)(h:Same V lo f f'):Same V' lo' f f':=λt ht=>h t (by
 cases hi:Dh V lo t with
 |false=>rfl
 |true=>rw[hs t hi]at ht;cases ht)
theorem JY(f':Fr):∀(C:List Nat) (k:Nat) (s:List Value) (f:Fr) (t:Nat),(∀j,j<C.length->s.getD (k+j) undef=f' (C.getD j 0))->(t∉C->f t=f' t)->ovl C k s f t=f' t
 |[],_,_,_,_,_,h=>h (by simp)
 |c::C,k,s,f,t,hs,h=>by
  simp only[ovl]
  cases hb:Nat.beq t c with
  |true=>
   have:=hs 0 (by simp)
   simp only[cond_true]
   rw[Nat.eq_of_beq_eq_true hb]
   simpa using this
  |false=>
   simp only[cond_false]
   have hne:t≠c:=λe=>by subst e;simp at hb
   refine JY f' C (k+1) s f t (λj hj=>?_) λhn=>h (by simp[hne,hn])
   have:=hs (j+1) (by simp;omega)
   rw[show k+1+j=k+(j+1)by omega,this]
   rfl
theorem xC{e:PE}{f f':Fr}(h:Same e.V e.lo f f'):ovf e f (e.C.map f') f'=f':=by
 funext t;refine JY f' e.C 0 _ _ t (λj hj=>?_) λ_=>?_
 ·simp[hj]
 ·cases hi:Dh e.V e.lo t with
  |true=>simp[hi]
  |false=>simp[hi,h t hi]
theorem Same.upd{V:List Nat}{lo:Nat}{f:Fr}{o:Oper}(h:vQ V lo o=true)(v:Value):Same V lo f (upd f o.dst v):=by
 intro t ht;unfold vQ at h;cases hd:o.dst with
 |none=>rfl
 |some d=>
  rw[hd]at h;rw[jU,if_neg];intro e;subst e;have h:Dh V lo t=true:=h;rw[h]at ht;cases ht
theorem BO{o:Oper}(h:Hv n o=true):∀t,o.dst=some t->t<n:=by
 intro t ht;rw[Hv,ht]at h;exact Nat.le_of_ble_eq_true h
theorem OQ{x:Option (Nat×Bool)}{g:Nat}{w:Bool}(h:gEq x g w=true):x=some (g,w):=by
 cases x with
 |none=>cases h
 |some p=>
  obtain⟨g',w'⟩:=p;simp only[gEq]at h;cases hb:Nat.beq g g' with
  |false=>rw[hb]at h;cases h
  |true=>
   rw[hb]at h;simp only[cond_true,beq_iff_eq]at h;rw[Nat.eq_of_beq_eq_true hb,h]
theorem Dk(g:Nat)(want:Bool):∀l:List Oper,l=vO g want l++yE g want l/\∀o∈vO g want l,o.guard=some (g,want)
 |[]=>⟨rfl,by simp[vO]⟩
 |o::r=>by
  simp only[vO,yE]
  cases h:gEq o.guard g want with
  |false=>simp
  |true=>
   obtain⟨h1,h2⟩:=Dk g want r
   refine⟨by simp only[cond_true,List.cons_append];rw[<-h1],λx hx=>?_⟩
   simp only[cond_true,List.mem_cons]at hx
   rcases hx with rfl|hx
   ·exact OQ h
   ·exact h2 x hx
section
variable [HX]{P:Program}{n:Nat}{D:List Deferred}{ops:List Oper}{Q:Exit->Act->World->Prop}{V:List Nat}{lo:Nat}
def PX[HX](V:List Nat)(lo:Nat)(D:List Deferred)(Q:Exit->Act->World->Prop)(f:Fr):Prop:=
 ∀c a w,a.defers=D->(∀t,Dh V lo t=false->a.tmps.getD t undef=f t)->HX.X c w->Q (.panic c) a w
theorem PX.same{f f':Fr}(h:PX V lo D Q f)(hs:Same V lo f f'):PX V lo D Q f':=λc a w hd ht hx=>h c a w hd (λt hn=>(ht t hn).trans (hs t hn)) hx
theorem PX.sub{V':List Nat}{lo':Nat}{f:Fr}(h:PX V lo D Q f)(hs:∀t,Dh V' lo' t=true->Dh V lo t=true):PX V' lo' D Q f:=λc a w hd ht hx=>h c a w hd (λt hn=>ht t (by
 cases hh:Dh V' lo' t with
 |false=>rfl
 |true=>rw[hs t hh]at hn;cases hn)) hx
theorem PX.ag{f:Fr}{a:Act}(h:PX V lo D Q f)(hag:Ag n D f a):∀c w,HX.X c w->Q (.panic c) a w:=λc w hx=>h c a w hag.1 (λt _=>hag.2.2 t) hx
theorem wO{f:Fr}{a:Act}{o:Oper}(h:Ag n D f a):Region.wanted o (yielded ops.toArray a.tmps)=gC ops f o:=Cq λ_ _ d _ _=>h.2.2 d
theorem Ez{f:Fr}{a:Act}{o:Oper}{rest:List Oper}(hag:Ag n D f a)(hw:gC ops f o=true)(h:FB P f o w K)
  (hk:∀v w',K v w'->wpList P ops.toArray Q rest (a.put o.dst v) w')(hx:∀c w,HX.X c w->Q (.panic c) a w):wpList P ops.toArray Q (o::rest) a w:=by
 unfold wpList;rw[if_pos (by rw[wO hag];exact hw)];refine .inl ?_;unfold Oper.wp;rw[tQ hag];exact(DU h).upon hk hx
theorem Sv{f:Fr}{a:Act}{o:Oper}{rest:List Oper}(hag:Ag n D f a)(hw:gC ops f o=false)
  (hk:wpList P ops.toArray Q rest (a.put o.dst undef) w):wpList P ops.toArray Q (o::rest) a w:=by
 unfold wpList;rw[if_neg (by rw[wO hag,hw];simp)];exact hk
theorem Mx{f:Fr}{g:Nat}{want:Bool}{o:Oper}(h:∀d dg,o.dst=some d->mJ ops g=some dg->d≠dg):yv ops (upd f o.dst v) g want=yv ops f g want:=by
 unfold yv;cases hg:mJ ops g with
 |none=>rfl
 |some dg=>
  cases hd:o.dst with
  |none=>rfl
  |some d=>simp only;rw[jU,if_neg (Ne.symm (h d dg hd hg))]
theorem AZ{g:Nat}{want:Bool}:∀(grp rest:List Oper) (f:Fr) (a:Act) (w:World) (K:Fr->World->Prop),(∀o∈grp,o.guard=some (g,want))->
  (∀o∈grp,vQ V lo o=true/\(∀t,o.dst=some t->t<n)/\∀d dg,o.dst=some d->mJ ops g=some dg->d≠dg)->Ag n D f a->yv ops f g want=true->YN P grp f w K->
  (∀f' a' w',Ag n D f' a'->Same V lo f f'->K f' w'->wpList P ops.toArray Q rest a' w')->PX V lo D Q f->wpList P ops.toArray Q (grp++rest) a w
 |[],rest,f,a,w,K,_,_,hag,_,h,hk,_=>hk f a w hag (Same.refl _ _ _) h
 |o::grp,rest,f,a,w,K,hg,hd,hag,hy,h,hk,hX=>by
  obtain⟨h1,h2,h3⟩:=hd o List.mem_cons_self
  refine Ez hag (by simp only[gC,hg o List.mem_cons_self];exact hy) h (λv w' h'=>?_) (hX.ag hag)
  refine AZ grp rest (upd f o.dst v) (a.put o.dst v) w' K (λx hx=>hg x (List.mem_cons_of_mem _ hx)) (λx hx=>hd x (List.mem_cons_of_mem _ hx)) (hag.put h2 v) (by rw[Mx h3];exact hy) h' ?_ (hX.same (Same.upd h1 v))
  exactλf' a' w'' hag' hs hK=>hk f' a' w'' hag' (Same.trans (Same.upd h1 v) hs) hK
theorem wS{g:Nat}{want:Bool}:∀(grp rest:List Oper) (f:Fr) (a:Act) (w:World),(∀o∈grp,o.guard=some (g,want))->
  (∀o∈grp,vQ V lo o=true/\(∀t,o.dst=some t->t<n)/\∀d dg,o.dst=some d->mJ ops g=some dg->d≠dg)->Ag n D f a->yv ops f g want=false->
  (∀a',Ag n D (AE grp f) a'->Same V lo f (AE grp f)->wpList P ops.toArray Q rest a' w)->wpList P ops.toArray Q (grp++rest) a w
 |[],rest,f,a,w,_,_,hag,_,hk=>hk a hag (Same.refl _ _ _)
 |o::grp,rest,f,a,w,hg,hd,hag,hy,hk=>by
  obtain⟨h1,h2,h3⟩:=hd o List.mem_cons_self
  refine Sv hag (by simp only[gC,hg o List.mem_cons_self];exact hy) ?_
  refine wS grp rest (upd f o.dst undef) (a.put o.dst undef) w (λx hx=>hg x (List.mem_cons_of_mem _ hx)) (λx hx=>hd x (List.mem_cons_of_mem _ hx)) (hag.put h2 undef) (by rw[Mx h3];exact hy) ?_
  exactλa' hag' hs=>hk a' hag' (Same.trans (Same.upd h1 undef) hs)
theorem tZ{pl:bC}{i:Nat}:∀(x y:List Oper),jK pl V lo i ops (x++y)=true->jK pl V lo i ops y=true
 |[],_,h=>h
 |o::x,y,h=>by
  simp only[List.cons_append,jK,Bool.and_eq_true]at h
  exact tZ x y h.2
theorem rZ{pl:bC}{i:Nat}{K:Fr->World->Prop}:∀(m:Nat) (l:List Oper) (f:Fr) (a:Act) (w:World),(∀o∈l,vQ V lo o=true/\Hv n o=true)->jK pl V lo i ops l=true->
  Ag n D f a->NI P pl i ops m l f w K->(∀f' a' w',Ag n D f' a'->Same V lo f f'->K f' w'->Q .normal a' w')->PX V lo D Q f->wpList P ops.toArray Q l a w
 |0,_,_,_,_,_,_,_,h,_,_=>by cases h
 |m+1,[],f,a,w,_,_,hag,h,hQ,_=>hQ f a w hag (Same.refl _ _ _) h
 |m+1,o::r,f,a,w,hd,hc,hag,h,hQ,hX=>by
  unfold NI at h
  cases hg:o.guard with
  |none=>
   simp only[hg]at h
   have hd0:=hd o List.mem_cons_self
   refine Ez hag (by simp[gC,hg]) h (λv w' h'=>?_) (hX.ag hag)
   simp only[jK,Bool.and_eq_true]at hc
   refine rZ m r _ _ w' (λx hx=>hd x (List.mem_cons_of_mem _ hx)) hc.2 (hag.put (BO hd0.2) v) h' ?_ (hX.same (Same.upd hd0.1 v))
   exactλf' a' w'' hag' hs hK=>hQ f' a' w'' hag' (Same.trans (Same.upd hd0.1 v) hs) hK
  |some gw=>
   obtain⟨g,want⟩:=gw
   simp only[hg]at h
   cases he:lk pl.js (OL i (o::r).length)with
   |none=>simp only[he]at h
   |some e=>
    simp only[he]at h
    obtain⟨J,hT,hF,hB⟩:=h
    obtain⟨hsplit,hgs⟩:=Dk g want (o::r)
    have hc0:=hc
    simp only[jK,hg,he,Bool.and_eq_true,List.all_eq_true]at hc
    obtain⟨⟨hpe,hgrp⟩,hc2⟩:=hc
    obtain⟨hsub,hC⟩:=zF hpe
    have hgd:∀x∈vO g want (o::r),vQ e.V e.lo x=true/\(∀t,x.dst=some t->t<n)/\∀d dg,x.dst=some d->mJ ops g=some dg->d≠dg:=by
     intro x hx;have h1:=hgrp x hx;refine⟨h1.1,BO (hd x (by rw[hsplit];exact List.mem_append_left _ hx)).2,λd dg hxd hdg hne=>?_⟩;have h2:=h1.2;simp only[hxd,hdg,hne]at h2;simp at h2
    have hcr:jK pl V lo i ops (yE g want (o::r))=true:=by
     rw[hsplit]at hc0;exact tZ _ _ hc0
    have hdr:∀x∈yE g want (o::r),vQ V lo x=true/\Hv n x=true:=λx hx=>hd x (by rw[hsplit];exact List.mem_append_right _ hx);rw[hsplit];cases hy:yv ops f g want with
    |true=>
     refine AZ (V:=e.V) (lo:=e.lo) _ _ f a w _ hgs hgd hag hy (hT hy) (λf' a' w' hag' hs hJ=>?_) (hX.sub hsub);have h':=hB _ f' _ hJ;simp only[xC hs]at h';refine rZ m _ f' a' w' hdr hcr hag' h' ?_ (hX.same (Same.wider hsub hs));exactλf'' a'' w'' hag'' hs' hK=>hQ f'' a'' w'' hag'' (Same.trans (Same.wider hsub hs) hs') hK
    |false=>
     refine wS (V:=e.V) (lo:=e.lo) _ _ f a w hgs hgd hag hy λa' hag' hs=>?_;have h':=hB _ (AE (vO g want (o::r)) f) _ (hF hy);simp only[xC hs]at h';refine rZ m _ _ a' w hdr hcr hag' h' ?_ (hX.same (Same.wider hsub hs));exactλf'' a'' w'' hag'' hs' hK=>hQ f'' a'' w'' hag'' (Same.trans (Same.wider hsub hs) hs') hK
end
section
variable [HX]{P:Program}{n:Nat}{D:List Deferred}{pl:bC}
theorem pS(hm:P.follows .mixedOrders=true):∀(c:Code) (V:List Nat) (lo i:Nat) (f:Fr) (a:Act) (w:World) (kn:Fr->World->Prop) (kx:Nat->Fr->World->Prop) (kr:Fr->World->Prop) (Q:Exit->Act->World->Prop),
  Ck P n pl V lo c i=true->Ag n D f a->kO P pl c i f w kn kx kr->
  (∀f' a' w',Ag n D f' a'->Same V lo f f'->kn f' w'->Q .normal a' w')->(∀j f' a' w',Ag n D f' a'->Same V lo f f'->kx j f' w'->Q (.exit j) a' w')->
  (∀f' a' w',Ag n D f' a'->Same V lo f f'->kr f' w'->Q .ret a' w')->PX V lo D Q f->c.wp P Q a w:=by
 intro c;induction c with
 |skip=>intro V lo i f a w kn kx kr Q _ hag h hn _ _ _;exact wp_skip (hn f a w hag (Same.refl _ _ _) h)
 |label l=>intro V lo i f a w kn kx kr Q _ hag h hn _ _ _;exact wp_label (hn f a w hag (Same.refl _ _ _) h)
 |exit id=>intro V lo i f a w kn kx kr Q _ hag h _ hx _ _;exact wp_exit (hx id f a w hag (Same.refl _ _ _) h)
 |ret=>intro V lo i f a w kn kx kr Q _ hag h _ _ hr _;exact wp_ret (hr f a w hag (Same.refl _ _ _) h)
 |goto l=>intro V lo i f a w kn kx kr Q _ _ h _ _ _ _;exact h.elim
 |refuse l=>intro V lo i f a w kn kx kr Q _ _ h _ _ _ _;exact h.elim
 |scope b ih=>
  intro V lo i f a w kn kx kr Q hc hag h hn hx hr hX;simp only[Ck]at hc;simp only[kO]at h;refine wp_scope_straight ?_;exact ih V lo _ f a w kn kx kr _ hc hag h hn hx hr hX
 |rangeFunc f' ps az b=>intro V lo i f a w kn kx kr Q _ _ h _ _ _ _;exact h.elim
 |region id ops draw=>
  intro V lo i f a w kn kx kr Q hc hag h hn _ _ hX;simp only[Ck,Bool.and_eq_true,List.all_eq_true]at hc;simp only[kO]at h;cases draw with
  |false=>
   simp only[cond_false]at h hc;refine wp_region_list ?_;have:=rZ (ops:=ops.toList) (Q:=Q) (n:=n) (V:=V) (lo:=lo) _ _ f a w hc.1 hc.2 hag h hn hX;simpa using this
  |true=>
   simp only[cond_true]at h hc;cases he:lk pl.ds i with
   |none=>simp only[he]at h
   |some e=>
    simp only[he]at h hc;have:=Gq (R:=Same V lo f) (id:=id) (Q:=Q) (K:=kn) (λf' o v ho hs=>Same.trans hs (Same.upd (hc.1 o ho).1 v)) hm hc.2
     (λf' a' w' hag' hs hk=>hn f' a' w' hag' hs hk) (λc f' a' w' hd hs ht hx=>hX c a' w' hd (λt hn=>(ht t λo ho he=>by
       have:=(hc.1 o ho).1;simp only[vQ,he]at this;rw[this]at hn;cases hn).trans (hs t hn)) hx) hag (Same.refl _ _ _) h
    simpa using this
 |seq x y ihx ihy=>
  intro V lo i f a w kn kx kr Q hc hag h hn hx hr hX;simp only[Ck,Bool.and_eq_true]at hc;simp only[kO]at h;refine wp_seq ?_;cases he:lk pl.js i with
  |none=>
   simp only[he]at h hc;refine ihx V lo (i+1) f a w _ kx kr _ hc.1 hag h ?_ hx hr hX;intro f' a' w' hag' hs h';exact ihy V lo _ f' a' w' kn kx kr Q hc.2 hag' h' (λf'' a'' w'' hag'' hs' hk=>hn f'' a'' w'' hag'' (hs.trans hs') hk)
    (λj f'' a'' w'' hag'' hs' hk=>hx j f'' a'' w'' hag'' (hs.trans hs') hk) (λf'' a'' w'' hag'' hs' hk=>hr f'' a'' w'' hag'' (hs.trans hs') hk) (hX.same hs)
  |some e=>
   simp only[he,Bool.and_eq_true]at h hc;obtain⟨hsub,hC⟩:=zF hc.1.1;obtain⟨J,hA,hB⟩:=h;refine ihx e.V e.lo (i+1) f a w _ kx kr _ hc.1.2 hag hA ?_ (λj f' a' w' hag' hs hk=>hx j f' a' w' hag' (hs.wider hsub) hk) (λf' a' w' hag' hs hk=>hr f' a' w' hag' (hs.wider hsub) hk) (hX.sub hsub);intro f' a' w' hag' hs hJ;have h':=hB _ f' _ hJ;simp only[xC hs]at h';have hs0:=hs.wider hsub;exact ihy V lo _ f' a' w' kn kx kr Q hc.2 hag' h' (λf'' a'' w'' hag'' hs' hk=>hn f'' a'' w'' hag'' (hs0.trans hs') hk)
    (λj f'' a'' w'' hag'' hs' hk=>hx j f'' a'' w'' hag'' (hs0.trans hs') hk) (λf'' a'' w'' hag'' hs' hk=>hr f'' a'' w'' hag'' (hs0.trans hs') hk) (hX.same hs0)
 |cond c x y ihx ihy=>
  intro V lo i f a w kn kx kr Q hc hag h hn hx hr hX;simp only[Ck,Bool.and_eq_true]at hc;simp only[kO]at h;have he:a.eval c=ev f c:=congrFun (tQ hag) c;cases hv:ev f c<;>rw[hv]at h<;>simp only[aD]at h<;>try exact h.elim
  rename_i t;refine wp_cond_split (he.trans hv) (λht=>?_) (λht=>?_)
  ·exact ihx V lo _ f a w kn kx kr Q hc.1 hag (h.1 ht) hn hx hr hX
  ·exact ihy V lo _ f a w kn kx kr Q hc.2 hag (h.2 ht) hn hx hr hX
 |block id b ih=>
  intro V lo i f a w kn kx kr Q hc hag h hn hx hr hX;simp only[Ck]at hc;simp only[kO]at h;refine wp_block ?_;refine ih V lo _ f a w kn _ kr _ hc hag h hn ?_ hr hX;intro j f' a' w' hag' hs hk;simp only[Exit.inBlock];cases hj:Nat.beq j id with
  |true=>
   rw[hj]at hk;rw[if_pos (Nat.eq_of_beq_eq_true hj)];exact hn f' a' w' hag' hs hk
  |false=>
   rw[hj]at hk;rw[if_neg (λe=>by subst e;simp at hj)];exact hx j f' a' w' hag' hs hk
 |loop b ih=>
  intro V lo i f a w kn kx kr Q hc hag h hn hx hr hX;simp only[Ck]at hc;simp only[kO]at h;cases he:lk pl.js i with
  |none=>simp only[he]at h
  |some e=>
   simp only[he,Bool.and_eq_true]at h hc;obtain⟨hsub,hC⟩:=zF hc.1;obtain⟨I,μ,h0,hround⟩:=h;refine wp_loop (λa' w'=>∃f',Ag n D f' a'/\Same e.V e.lo f f'/\I (e.C.map f') w') (λa' w'=>μ (e.C.map λt=>a'.tmps.getD t undef) w') ⟨f,hag,Same.refl _ _ _,h0⟩ ?_;rintro a' w' ⟨f',hag',hs,hI⟩;have h':=hround _ f' _ hI;simp only[xC hs]at h';have hfun:(λt=>a'.tmps.getD t undef)=f':=funext hag'.2.2;refine ih e.V e.lo _ f' a' w' _ kx kr _ hc.2 hag' h' ?_ (λj f'' a'' w'' hag'' hs' hk=>hx j f'' a'' w'' hag'' ((hs.trans hs').wider hsub) hk)
    (λf'' a'' w'' hag'' hs' hk=>hr f'' a'' w'' hag'' ((hs.trans hs').wider hsub) hk) ((hX.sub hsub).same hs)
   intro f'' a'' w'' hag'' hs' hk;have hfun':(λt=>a''.tmps.getD t undef)=f'':=funext hag''.2.2;refine⟨⟨f'',hag'',hs.trans hs',hk.1⟩,?_⟩;rw[hfun,hfun'];exact hk.2
def Ak(P:Program):List ResultVar->Fr->World->(List Value->Prop)->Prop
 |[],_,_,K=>K []
 |.tmp t::r,f,w,K=>Ak P r f w λl=>K (f t::l)
 |.cell a T::r,f,w,K=>gL (P.underlying T).isSome (aE (qE P T) (fO P T) (f a) w λv=>Ak P r f w λl=>K (v::l))
def one:List Value->Value
 |[v]=>v
 |l=>.tuple l.toArray
def Gn(tmps:Array Value):ResultVar->Sem Value
 |.tmp t=>pure (tmps.getD t undef)
 |.cell x t=>do loadVar t (<-asAddr (tmps.getD x undef))
theorem ID(fn:Func)(tmps:Array Value):results fn tmps=(do let vs<-fn.results.mapM (Gn tmps);pure (if h:vs.size=1 then vs[0]else .tuple vs)):=rfl
theorem Eq{f:Fr}{a:Act}{w:World}(hag:Ag n D f a):∀(l:List ResultVar) (K:List Value->Prop),Ak P l f w K->
  ∃vs,K vs/\(l.mapM (Gn a.tmps)).run P w=.ok vs w
 |[],K,h=>⟨[],h,rfl⟩
 |.tmp t::r,K,h=>by
  obtain⟨vs,hk,hr⟩:=Eq hag r _ h
  refine⟨_,hk,?_⟩
  rw[List.mapM_cons,run_bind]
  simp only[Gn,run_pure,run_bind,hr]
  rw[hag.2.2 t]
 |.cell x T::r,K,h=>by
  replace h:=gL.out h
  obtain⟨hT,h⟩:=h
  obtain⟨v,h',hl⟩:=Ow hT h
  obtain⟨vs,hk,hr⟩:=Eq hag r _ h'
  refine⟨_,hk,?_⟩
  have hl':(Gn a.tmps (.cell x T)).run P w=.ok v w:=by
   show(do loadVar T (<-asAddr (a.tmps.getD x undef)):Sem Value).run P w=.ok v w;rw[hag.2.2 x];cases hv:f x<;>rw[hv]at h hl<;>simp only[aE]at h<;>try exact h.elim
   rename_i p;cases p with
   |none=>exact h.elim
   |some p=>exact hl
  rw[List.mapM_cons,run_bind];simp only[hl',run_bind,hr,run_pure]
theorem pF{fn:Func}{f:Fr}{a:Act}{K:Value->Prop}(hag:Ag n D f a)(h:Ak P fn.results.toList f w λl=>K (one l)):
  ∃v,K v/\(results fn a.tmps).run P w=.ok v w:=by
 obtain⟨vs,hk,hr⟩:=Eq hag _ _ h;refine⟨_,hk,?_⟩;rw[ID,run_bind];have:(fn.results.mapM (Gn a.tmps)).run P w=.ok vs.toArray w:=by
  rw[Array.mapM_eq_mapM_toList,<-bind_pure_comp,run_bind,hr];rfl
 rw[this];simp only[run_pure];congr 1;cases vs with
 |nil=>rfl
 |cons v r=>cases r<;>rfl
def Wl(args:List Value):Fr:=λj=>args.getD j undef
def Zd[HX](P:Program)(fn:Func)(pl:bC)(args:List Value)(w:World)(K:Value->World->Prop):Prop:=
 match fn.body with
 |some c=>kO P pl c 0 (Wl args) w (λf w'=>Ak P fn.results.toList f w' λl=>K (one l) w') (λ_ _ _=>False) (λf w'=>Ak P fn.results.toList f w' λl=>K (one l) w')
 |none=>False
def JA(P:Program)(fn:Func)(pl:bC)(k:Nat):Bool:=
 match fn.body with
 |some c=>Nat.ble k fn.ntmps&&Ck P fn.ntmps pl [] 0 c 0
 |none=>false
theorem Ji{g:FuncId}{fn:Func}{args:List Value}(hm:P.follows .mixedOrders=true)(hf:P.funcs[g]?=some fn)(hc:JA P fn pl args.length=true)
  (h:Zd P fn pl args w K):Wu P g args w K:=by
 unfold Zd at h;unfold JA at hc;cases hb:fn.body with
 |none=>rw[hb]at h;exact h.elim
 |some c=>
  rw[hb]at h hc;simp only[Bool.and_eq_true]at hc;unfold Wu;refine calls_of_wp hf hb ?_;have hle:args.length<=fn.ntmps:=Nat.le_of_ble_eq_true hc.1;have hag:Ag fn.ntmps [] (Wl args) {tmps:=args.toArray++Array.replicate (fn.ntmps-args.toArray.size) undef,defers:=[]}:=by
   refine⟨rfl,by simp;omega,λt=>?_⟩;simp only[Array.getD_eq_getD_getElem?,Array.getElem?_append,List.size_toArray,List.getElem?_toArray,Array.getElem?_replicate,Wl,List.getD_eq_getElem?_getD];split
   ·rfl
   ·rename_i hlt;rw[List.getElem?_eq_none (by omega)];split<;>rfl
  have hend:∀(f':Fr) (a':Act) (w':World),Ag fn.ntmps [] f' a'->(Ak P fn.results.toList f' w' λl=>K (one l) w')->a'.defers=[]/\∃v,(results fn a'.tmps).run P w'=.ok v w'/\Cp K (.returned v) w':=by
   intro f' a' w' hag' hk;obtain⟨v,hk',hr⟩:=pF (K:=λv=>K v w') hag' hk;exact⟨hag'.1,v,hr,hk'⟩
  exact pS hm c [] 0 0 _ _ w _ _ _ _ hc.2 hag h (λf' a' w' hag' _ hk=>hend f' a' w' hag' hk) (λ_ _ _ _ _ _ hk=>hk.elim) (λf' a' w' hag' _ hk=>hend f' a' w' hag' hk) (λc a' w' hd _ hx=>⟨hd,hx⟩)
theorem tie(P:Program)(g:FuncId)(fn:Func)(pl:bC)(args:List Value)(w:World)(K:Value->World->Prop)(k:Nat)(X:Prop)(hk:args.length=k)(hm:P.follows .mixedOrders=true)(hf:P.funcs[g]?=some fn)
  (hc:JA P fn pl k=true)(he:Zd P fn pl args w K=X)(hr:∀(az:Array Value) (w:World),(callFunc g az).run P w=.ok (.enter g az) w)(h:X):aA P g args w K:=by
 unfold aA;rw[hr];exact Ji hm hf (by rw[hk];exact hc) (by rw[he];exact h)
theorem callF_calls{g:FuncId}{args:List Value}(hr:(callFunc g args.toArray).run P w=.ok (.enter g args.toArray) w)(h:aA P g args w K):
  Calls P g args.toArray w (Cp K):=by
 unfold aA at h;rw[hr]at h;exact h
end
def DF(o:Option Obj)(i:Nat):Option Value:=match o with|some (.cells c _ _)=>c[i]?|_=>none
def frO(o:Option Obj)(i:Nat):Bool:=match o with|some (.cells _ _ (lo,hi))=>decide (lo<=i)&&decide (i<hi)|_=>false
def Xf(o:Option Obj)(i:Nat)(v:Value):Option Obj:=match o with|some (.cells c t f)=>some (.cells (c.setIfInBounds i v) t f)|o=>o
theorem aZ(c:Array Value)(t:TypeId)(f:Nat×Nat)(i:Nat):DF (some (.cells c t f)) i=c[i]?:=rfl
theorem OS(c:Array Value)(t:TypeId)(lo hi:Nat)(i:Nat):frO (some (.cells c t (lo,hi))) i=(decide (lo<=i)&&decide (i<hi)):=rfl
theorem mG(c:Array Value)(t:TypeId)(i:Nat):frO (some (.cells c t (0,0))) i=false:=by simp[frO]
theorem uJ(c:Array Value)(t:TypeId)(f:Nat×Nat)(i:Nat)(v:Value):Xf (some (.cells c t f)) i v=some (.cells (c.setIfInBounds i v) t f):=rfl
theorem aX(w:World)(b o:Nat):w.cell? ⟨b,o,none⟩=DF w.heap[b]? o:=by
 unfold World.cell? DF;cases w.heap[b]? with
 |none=>rfl
 |some x=>cases x<;>rfl
theorem iG(w:World)(b o:Nat):w.frozen? ⟨b,o,none⟩=frO w.heap[b]? o:=by
 unfold World.frozen? frO;cases w.heap[b]? with
 |none=>rfl
 |some x=>cases x<;>rfl
theorem jZ(w:World)(b o:Nat)(v:Value):(w.setCell ⟨b,o,none⟩ v).heap[b]?=Xf w.heap[b]? o v:=by
 unfold World.setCell Xf;simp only[Array.getElem?_modify,if_true];cases w.heap[b]? with
 |none=>rfl
 |some x=>cases x<;>simp
theorem BB(w:World)(b o k:Nat)(v:Value)(h:k≠b):(w.setCell ⟨b,o,none⟩ v).heap[k]?=w.heap[k]?:=by
 unfold World.setCell;simp only[Array.getElem?_modify];rw[if_neg (Ne.symm h)]
theorem nW(w:World)(a:Addr)(v:Value):(w.setCell a v).heap.size=w.heap.size:=by simp
theorem dW(w:World)(o:Obj)(k:Nat)(h:k=w.heap.size):(w.alloc o).heap[k]?=some o:=by subst h;show(w.heap.push o)[w.heap.size]?=_;simp
theorem uX(w:World)(o:Obj)(k:Nat)(h:k≠w.heap.size):(w.alloc o).heap[k]?=w.heap[k]?:=by
 show(w.heap.push o)[k]?=_;rw[Array.getElem?_push,if_neg h]
theorem size_alloc(w:World)(o:Obj):(w.alloc o).heap.size=w.heap.size+1:=by simp
theorem heap_drew(w:World)(k:Nat):w.drew.heap[k]?=w.heap[k]?:=rfl
theorem size_drew(w:World):w.drew.heap.size=w.heap.size:=rfl
theorem aV(b o n:Nat):(⟨b,o,none⟩:Addr).add n=⟨b,o+n,none⟩:=by
 unfold Addr.add;split
 ·rename_i h;subst h;rfl
 ·rfl
structure aS(S:Nat->Prop)(w w':World):Prop where
 os:w'.os=w.os
 tape:w'.tape=w.tape
 output:w'.output=w.output
 size:w.heap.size<=w'.heap.size
 heap:∀k,k<w.heap.size->¬S k->w'.heap[k]?=w.heap[k]?
abbrev bA:=aS (λ_=>False)
theorem aS.refl(S:Nat->Prop)(w:World):aS S w w:=⟨rfl,rfl,rfl,Nat.le_refl _,λ_ _ _=>rfl⟩
theorem aS.trans{w1 w2:World}(h1:aS S w w1)(h2:aS S w1 w2):aS S w w2:=
 ⟨h2.os.trans h1.os,h2.tape.trans h1.tape,h2.output.trans h1.output,Nat.le_trans h1.size h2.size,λk hk hs=>(h2.heap k (Nat.lt_of_lt_of_le hk h1.size) hs).trans (h1.heap k hk hs)⟩
theorem aS.mono{T:Nat->Prop}(h:aS S w w')(hs:∀k,k<w.heap.size->S k->T k):aS T w w':=
 ⟨h.os,h.tape,h.output,h.size,λk hk hn=>h.heap k hk λe=>hn (hs k hk e)⟩
theorem aS.of_ext(h:bA w w'):aS S w w':=h.mono λ_ _ e=>e.elim
theorem aS.drew(h:aS S w w'):aS S w w'.drew:=⟨h.os,h.tape,h.output,h.size,h.heap⟩
theorem aS.alloc(h:aS S w w')(o:Obj):aS S w (w'.alloc o):=
 ⟨h.os,h.tape,h.output,by rw[size_alloc];exact Nat.le_succ_of_le h.size,λk hk hs=>by rw[uX _ _ _ (by have:=h.size;omega)];exact h.heap k hk hs⟩
theorem aS.set(h:aS S w w'){b o:Nat}(hb:S b\/w.heap.size<=b)(v:Value):aS S w (w'.setCell ⟨b,o,none⟩ v):=
 ⟨h.os,h.tape,h.output,by rw[nW];exact h.size,λk hk hs=>by
  have hne:k≠b:=λe=>by
   subst e
   rcases hb with hb|hb
   ·exact hs hb
   ·omega
  rw[BB _ _ _ _ _ hne]
  exact h.heap k hk hs⟩
theorem aS.then{T:Nat->Prop}{w1 w2:World}(h1:aS S w w1)(h2:aS T w1 w2)(hT:∀k,k<w.heap.size->T k->S k):aS S w w2:=
 ⟨h2.os.trans h1.os,h2.tape.trans h1.tape,h2.output.trans h1.output,Nat.le_trans h1.size h2.size,λk hk hs=>(h2.heap k (Nat.lt_of_lt_of_le hk h1.size) λe=>hs (hT k hk e)).trans (h1.heap k hk hs)⟩
theorem aS.below(h:bA w w'):RowKit.Below w.heap.size w w':=⟨h.os,h.tape,h.output,h.size,λk hk=>h.heap k hk id⟩
theorem aS.of_below(h:RowKit.Below w.heap.size w w'):bA w w':=⟨h.os,h.tape,h.output,h.size,λk hk _=>h.block k hk⟩
abbrev str(l:List UInt8):Value:=.string (aL l)
abbrev i64(n:Int):Value:=.int .i64 n
theorem bD{n:Int}(h1:-9223372036854775808<=n)(h2:n<9223372036854775808):IntKind.i64.wrap n=n:=by
 have e1:(2:Int)^64=18446744073709551616:=by decide
 have e2:(2:Int)^(64-1)=9223372036854775808:=by decide
 simp only[IntKind.wrap,IntKind.bits,IntKind.signed,Bool.true_and,e1,e2];by_cases h:n%18446744073709551616>=9223372036854775808
 ·rw[if_pos (by simpa using h)];omega
 ·rw[if_neg (by simpa using h)];omega
theorem bZ(A B:Prop):aD (.bool true) A B↔A:=by simp[aD]
theorem bJ(A B:Prop):aD (.bool false) A B↔B:=by simp[aD]
theorem aB(p:Prop)[Decidable p](A B:Prop):aD (.bool (decide p)) A B↔(p->A)/\(¬p->B):=by simp[aD]
theorem iS(a b:Value)(K:Value->Prop):bG (.bool true) a b K↔K a:=Iff.rfl
theorem oD(a b:Value)(K:Value->Prop):bG (.bool false) a b K↔K b:=Iff.rfl
section forms
variable(k:IntKind)(a b:Int)(s t:ByteArray)(x y:Value)(ad:Addr)(w:World)(K:Value->Prop)(KE:Value->World->Prop)(KW:World->Prop)
theorem aW:aC .add (.int k a) (.int k b) K↔K (.int k (k.wrap (a+b))):=by simp[aC]
theorem iM:aC .sub (.int k a) (.int k b) K↔K (.int k (k.wrap (a-b))):=by simp[aC]
theorem Fy:aC .mul (.int k a) (.int k b) K↔K (.int k (k.wrap (a*b))):=by simp[aC]
theorem Fw:aC .quo (.int k a) (.int k b) K↔b≠0/\K (.int k (k.wrap (a.tdiv b))):=by simp[aC]
theorem AD:aC .rem (.int k a) (.int k b) K↔b≠0/\K (.int k (a.tmod b)):=by simp[aC]
theorem aM:aC .eql (.int k a) (.int k b) K↔K (.bool (decide (a=b))):=by simp[aC]
theorem dG:aC .neq (.int k a) (.int k b) K↔K (.bool (decide (a≠b))):=by simp[aC]
theorem cA:aC .lss (.int k a) (.int k b) K↔K (.bool (decide (a<b))):=by simp[aC]
theorem pU:aC .leq (.int k a) (.int k b) K↔K (.bool (decide (a<=b))):=by simp[aC]
theorem iN:aC .gtr (.int k a) (.int k b) K↔K (.bool (decide (b<a))):=by simp[aC]
theorem gR:aC .geq (.int k a) (.int k b) K↔K (.bool (decide (b<=a))):=by simp[aC]
theorem TQ:aC .shr (.int k a) (.int k b) K↔0<=b/\K (.int k (a.fdiv (2^min b.toNat k.bits))):=by simp[aC]
theorem TU:aC .and (.int k a) (.int k b) K↔K (.int k (k.wrap (BitVec.ofInt k.bits a&&&BitVec.ofInt k.bits b).toNat)):=by simp[aC]
theorem Fx:aC .or (.int k a) (.int k b) K↔K (.int k (k.wrap (BitVec.ofInt k.bits a|||BitVec.ofInt k.bits b).toNat)):=by simp[aC]
theorem EB(l m:List UInt8):aL l++aL m=aL (l++m):=by
 apply ByteArray.ext;simp[aL,ByteArray.data_append]
theorem lH(l m:List UInt8):aC .add (.string (aL l)) (.string (aL m)) K↔((l.length+m.length:Nat):Int)<=IntKind.i64.max/\K (.string (aL (l++m))):=by simp[aC,dC,EB]
theorem nK(l m:List UInt8):aC .eql (.string (aL l)) (.string (aL m)) K↔K (.bool (decide (l=m))):=by simp[aC,cK]
theorem sJ(l m:List UInt8):aC .neq (.string (aL l)) (.string (aL m)) K↔K (.bool (decide (l≠m))):=by simp[aC,cK]
theorem TO(l m:List UInt8):aC .lss (.string (aL l)) (.string (aL m)) K↔K (.bool (Op.bytesLess l m)):=by simp[aC,cK]
theorem TR(l m:List UInt8):aC .gtr (.string (aL l)) (.string (aL m)) K↔K (.bool (!(Op.bytesLess l m||decide (l=m)))):=by simp[aC,cK]
theorem KO(l m:List UInt8):aC .geq (.string (aL l)) (.string (aL m)) K↔K (.bool (!Op.bytesLess l m)):=by simp[aC,cK]
theorem TP(l m:List UInt8):aC .leq (.string (aL l)) (.string (aL m)) K↔K (.bool (Op.bytesLess l m||decide (l=m))):=by simp[aC,cK]
theorem bX:bW (.pointer (some ad)) K↔K (.pointer (some ad)):=Iff.rfl
theorem aO(off:Nat):aF off (.pointer (some ad)) K↔K (.pointer (some (ad.add off))):=Iff.rfl
theorem bY(n:Nat):aE false n (.pointer (some ad)) w K↔∃v,w.cell? ad=some v/\K v:=Iff.rfl
theorem Bp(n:Nat):aE true n (.pointer (some ad)) w K↔∃l,fU w ad 0 n=some l/\K (.agg l.toArray):=Iff.rfl
theorem Xb(n:Nat)(l:List Value):bF n (.pointer (some ad)) (.agg l.toArray) w KW↔l.length=n/\pA ad l 0 w KW:=by simp[bF,Value.cells]
theorem SA:cY (.int k a)=true:=rfl
theorem NJ(c:Bool):cY (.bool c)=true:=rfl
theorem Sx:cY (.string s)=true:=rfl
theorem Ly(p:Option Addr)(n m:Nat):cY (.slice p n m)=true:=rfl
theorem Sy(p:Option Addr):cY (.pointer p)=true:=rfl
theorem Sz(p:Option Nat):cY (.map p)=true:=rfl
theorem aK(i:Nat)(l:List Value):bS i (.tuple l.toArray) K↔∃v,l[i]?=some v/\K v:=by
 simp only[bS,List.getElem?_toArray];cases l[i]?<;>simp
theorem lU(size n c:Nat):bU none size (.slice (some ad) n c) (.int k a) K↔0<=a/\a<n/\K (.pointer (some (ad.add (a.toNat*size)))):=Iff.rfl
theorem SV(m size:Nat):bU (some m) size (.pointer (some ad)) (.int k a) K↔0<=a/\a<m/\K (.pointer (some (ad.add (a.toNat*size)))):=Iff.rfl
theorem EI(l:List UInt8):lJ (.string (aL l)) (.int k a) K↔0<=a/\∃c,l[a.toNat]?=some c/\K (.int .u8 c.toNat):=by simp[lJ,cK]
theorem dI(l:List UInt8):eQ (.string (aL l)) K↔K (.int .i64 l.length):=by simp[eQ,dC]
theorem uU(p:Option Addr)(n c:Nat):bK (.slice p n c) K↔K (.int .i64 n):=Iff.rfl
theorem cJ(c:Bool):gU .not (.bool c) K↔K (.bool (!c)):=Iff.rfl
theorem MD:gU .neg (.int k a) K↔K (.int k (k.wrap (0-a))):=Iff.rfl
theorem jJ(k':IntKind):oO k' (.int k a) K↔K (.int k' (k'.wrap a)):=Iff.rfl
theorem SH:SI (.int k a) (.int k b) K↔K (.int k (if b<a then b else a)):=Iff.rfl
theorem SJ:NU (.int k a) (.int k b) K↔K (.int k (if a<b then b else a)):=Iff.rfl
theorem Px(T:TypeId)(z:List Value):aN T z w KE↔KE (.pointer (some ⟨w.heap.size,0,none⟩)) (w.alloc (.cells z.toArray T)):=Iff.rfl
theorem cZ(n m:Nat)(KN:Nat->Prop):BX none n m KN↔KN n:=Iff.rfl
theorem cO(n m:Nat)(KN:Nat->Prop):BX (some (.int k a)) n m KN↔0<=a/\a<=m/\KN a.toNat:=Iff.rfl
theorem dP(l:List UInt8)(lo hi:Option Value):jG (.string (aL l)) lo hi K↔BX hi l.length l.length λh=>BX lo 0 h λm=>K (.string (aL ((l.take h).drop m))):=by simp only[jG,dC,cK]
theorem Ei(size:Nat)(p:Option Addr)(n c:Nat)(lo hi mx:Option Value):fX size (.slice p n c) lo hi mx K↔BX mx c c λm=>(BX hi n m λh=>BX lo 0 h λl=>K (.slice (if m=l then p else p.map (·.add (l*size))) (h-l) (m-l))):=Iff.rfl
theorem eH(c:Bool):eD (.bool c) true=c:=by cases c<;>rfl
theorem iB(c:Bool):eD (.bool c) false=!c:=by cases c<;>rfl
end forms
theorem cX.go{c:Bool}{u:List Value}{A:(List Value->World->Prop)->Prop}{B:List Value->Fr->World->Prop}
  (h1:c=true->A (λs w'=>∀g,B s g w'))(h2:c=false->∀g,B u g w):cX c u w A B:=
 ⟨λs w'=>∀g,B s g w',h1,λh=>h2 h,λs g _ h=>h g⟩
theorem cX.t{u:List Value}{A:(List Value->World->Prop)->Prop}{B:List Value->Fr->World->Prop}(h:A (λs w'=>∀g,B s g w')):cX true u w A B:=
 cX.go (λ_=>h) (λe=>by cases e)
theorem cX.f{u:List Value}{A:(List Value->World->Prop)->Prop}{B:List Value->Fr->World->Prop}(h:∀g,B u g w):cX false u w A B:=
 cX.go (λe=>by cases e) (λ_=>h)
theorem aP.go{A:(List Value->World->Prop)->Prop}{B:List Value->Fr->World->Prop}(h:A (λs w'=>∀g,B s g w')):aP A B:=⟨_,h,λ_ g _ h=>h g⟩
theorem aP.cut{A:(List Value->World->Prop)->Prop}{B:List Value->Fr->World->Prop}(J:List Value->World->Prop)(h1:A J)(h2:∀s g w',J s w'->B s g w'):aP A B:=⟨J,h1,h2⟩
theorem bL.go{s0:List Value}{w0:World}{B:List Value->Fr->World->(List Value->World->Prop)->Prop}(I:List Value->World->Prop)(μ:List Value->World->Nat)
 (h0:I s0 w0)(h:∀s g w,I s w->B s g w (λs' w'=>I s' w'/\μ s' w'<μ s w)):bL s0 w0 B:=⟨I,μ,h0,h⟩
theorem pG(c:List Value)(i:Nat)(v:Value)(r:List (Nat×Nat×Value))(K:List Value->Prop)(h:v.cells=#[v]):bQ c ((i,1,v)::r) K↔i<c.length/\bQ (c.set i v) r K:=by
 simp only[bQ,h];constructor
 ·rintro⟨_,h2,h3⟩;rw[List.set_eq_take_append_cons_drop,if_pos (by omega)];exact⟨by omega,by simpa using h3⟩
 ·rintro⟨h2,h3⟩;rw[List.set_eq_take_append_cons_drop,if_pos (by omega)]at h3;exact⟨rfl,by omega,by simpa using h3⟩
theorem bI(c:List Value)(K:List Value->Prop):bQ c [] K↔K c:=Iff.rfl
theorem Qv(c:List Value)(i:Nat)(v:Option Nat)(r:List (Nat×Nat×Value))(K:List Value->Prop):bQ c ((i,1,.map v)::r) K↔i<c.length/\bQ (c.set i (.map v)) r K:=pG c i _ r K rfl
theorem bN(c:List Value)(i:Nat)(k:IntKind)(v:Int)(r:List (Nat×Nat×Value))(K:List Value->Prop):bQ c ((i,1,.int k v)::r) K↔i<c.length/\bQ (c.set i (.int k v)) r K:=pG c i _ r K rfl
theorem cG(c:List Value)(i:Nat)(v:ByteArray)(r:List (Nat×Nat×Value))(K:List Value->Prop):bQ c ((i,1,.string v)::r) K↔i<c.length/\bQ (c.set i (.string v)) r K:=pG c i _ r K rfl
theorem qW(c:List Value)(i:Nat)(v:Bool)(r:List (Nat×Nat×Value))(K:List Value->Prop):bQ c ((i,1,.bool v)::r) K↔i<c.length/\bQ (c.set i (.bool v)) r K:=pG c i _ r K rfl
theorem Et(c:List Value)(i:Nat)(v:Option Addr)(r:List (Nat×Nat×Value))(K:List Value->Prop):bQ c ((i,1,.pointer v)::r) K↔i<c.length/\bQ (c.set i (.pointer v)) r K:=pG c i _ r K rfl
theorem dU(c:List Value)(i:Nat)(p:Option Addr)(n m:Nat)(r:List (Nat×Nat×Value))(K:List Value->Prop):bQ c ((i,1,.slice p n m)::r) K↔i<c.length/\bQ (c.set i (.slice p n m)) r K:=pG c i _ r K rfl
structure mM(P:Program)(t e:TypeId)(size bytes:Nat):Prop where
 und:P.underlying t=some (.slice e)
 info:(P.info? e).map (λi=>(i.zero.map (·.cells.size),i.size,i.bytes))=some (some size,size,bytes)
 pos:0<size
theorem mM.get{t e:TypeId}{size bytes:Nat}(h:mM P t e size bytes):∃i z,P.info? e=some i/\i.zero=some z/\i.size=size/\i.bytes=bytes/\z.cells.size=size:=by
 have hi:=h.info;cases hx:P.info? e with
 |none=>rw[hx]at hi;cases hi
 |some i=>
  rw[hx]at hi;simp only[Option.map_some,Option.some.injEq,Prod.mk.injEq]at hi;obtain⟨h1,h2,h3⟩:=hi;cases hz:i.zero with
  |none=>rw[hz]at h1;cases h1
  |some z=>
   rw[hz]at h1;exact⟨i,z,rfl,hz,h2,h3,by simpa using h1⟩
def SlAt(w:World)(T:TypeId)(v:Value)(n:Nat)(cs:List Value):Prop:=
 ∃p cap,v=.slice p n cap/\n<=cap/\(p=none->n=0/\cap=0)/\(cs≠[]->∃b off c fr,p=some ⟨b,off,none⟩/\w.heap[b]?=some (.cells c T fr)/\∀i,i<cs.length->c[off+i]?=cs[i]?)
theorem SlAt.nil(w:World)(T:TypeId):SlAt w T (.slice none 0 0) 0 []:=⟨none,0,rfl,Nat.le_refl _,λ_=>⟨rfl,rfl⟩,λh=>absurd rfl h⟩
theorem SlAt.chg(h:SlAt w T v n cs)(hc:aS S w w')
  (hS:∀k c fr,S k->w.heap[k]?≠some (.cells c T fr)):SlAt w' T v n cs:=by
 obtain⟨p,cap,hv,h1,h2,h3⟩:=h;refine⟨p,cap,hv,h1,h2,λhne=>?_⟩;obtain⟨b,off,c,fr,hp,hb,hcs⟩:=h3 hne;have hlt:b<w.heap.size:=(Array.getElem?_eq_some_iff.1 hb).1;exact⟨b,off,c,fr,hp,by rw[hc.heap b hlt λe=>hS b c fr e hb];exact hb,hcs⟩
theorem SlAt.ext(h:SlAt w T v n cs)(hc:bA w w'):SlAt w' T v n cs:=
 h.chg hc λ_ _ _ e=>e.elim
theorem SlAt.shape(h:SlAt w T v n cs):∃p cap,v=.slice p n cap/\n<=cap:=by
 obtain⟨p,cap,hv,h1,_⟩:=h;exact⟨p,cap,hv,h1⟩
theorem dJ(h:SlAt w T v n cs)(K:Value->Prop):bK v K↔K (i64 n):=by
 obtain⟨p,cap,rfl,_⟩:=h.shape;exact Iff.rfl
theorem mR{size:Nat}{k:IntKind}{K:Value->Prop}(h:SlAt w T v n cs)(hl:cs.length=n*size)(hs:0<size)(hi:i<n)
  (hK:∀b o c fr,w.heap[b]?=some (.cells c T fr)->(∀j,j<size->c[o+j]?=cs[i*size+j]?)->K (.pointer (some ⟨b,o,none⟩))):bU none size v (.int k i) K:=by
 obtain⟨p,cap,rfl,h1,_,h3⟩:=h;have hlt:i*size+size<=n*size:=by rw[<-Nat.succ_mul];exact Nat.mul_le_mul_right _ hi
 obtain⟨b,off,c,fr,rfl,hb,hcs⟩:=h3 (λe=>by rw[e]at hl;simp at hl;omega);refine⟨Int.natCast_nonneg _,by omega,?_⟩;rw[aV,Int.toNat_natCast];exact hK b _ c fr hb λj hj=>by rw[show off+i*size+j=off+(i*size+j)by omega];exact hcs _ (by omega)
theorem lW{k:IntKind}{x:Value}{K:Value->Prop}(h:SlAt w T v n cs)(hl:cs.length=n)(hi:cs[i]?=some x)(hK:K x):
  bU none 1 v (.int k i) λt=>aE false 1 t w K:=by
 have hi':i<cs.length:=(List.getElem?_eq_some_iff.1 hi).1;refine mR (size:=1) h (by omega) (by omega) (by omega) λb o c fr hb hc=>?_;refine⟨x,?_,hK⟩;rw[aX,hb,aZ];have:=hc 0 (by omega);simpa[hi]using this
abbrev Own(w:World)(base:Nat)(e:TypeId)(size:Nat)(v:Value)(n:Nat)(xs:List Value):Prop:=w.ownsRow base e size v n xs
theorem Own.sl{base:Nat}{e:TypeId}{size:Nat}{xs:List Value}(h:Own w base e size v n xs):SlAt w e v n xs:=by
 obtain⟨hl,⟨rfl,rfl⟩|⟨g,cap,bO,rfl,_,hg,h1,_,h2,h3⟩⟩:=h
 ·have:xs=[]:=List.eq_nil_of_length_eq_zero (by simpa using hl);subst this;exact SlAt.nil w e
 ·refine⟨_,_,rfl,h1,λh=>(by cases h),λ_=>⟨g,0,bO,(0,0),rfl,hg,λi hi=>?_⟩⟩;rw[<-h3,List.getElem?_take,if_pos (by omega),Nat.zero_add];simp
def Mr(w:World)(base:Nat)(e:TypeId)(k:Nat):Prop:=base<=k/\∃c,w.heap[k]?=some (.cells c e (0,0))
theorem Own.block{base:Nat}{e:TypeId}{size:Nat}{xs:List Value}(h:Own w base e size v n xs):∀k,v.ownBlock=some k->Mr w base e k:=by
 intro k hk;obtain⟨hl,⟨rfl,rfl⟩|⟨g,cap,bO,rfl,hb,hg,_⟩⟩:=h
 ·simp[Value.ownBlock]at hk
 ·simp[Value.ownBlock]at hk;subst hk;exact⟨hb,bO,hg⟩
theorem qC(h:cY v=true):v.oneCell'=true:=by cases v<;>first|rfl|(simp[cY]at h)
theorem aS.of_grown{row:Option Nat}(h:w.grownBy w' row)(hS:∀k,row=some k->S k):aS S w w':=
 ⟨h.os,h.tape,h.output,h.size,λk hk hn=>h.block k hk λe=>hn (hS k e.symm)⟩
theorem gN{t e:TypeId}{size bytes:Nat}(hT:mM P t e size bytes){base:Nat}{x:Value}{m:Nat}{xs news:List Value}{ty:TypeId}
  (hown:Own w base e size v n xs)(hx:SlAt w T x m news)(hl:news.length=m*size)(h1:∀u∈news,cY u=true)(hlen:n+m<=4611686018427387904)(hb:(n+m)*bytes<=140737488355328)(hbase:base<=w.heap.size)
  (hK:∀v' w',Own w' base e size v' (n+m) (xs++news)->aS (λk=>v.ownBlock=some k) w w'->(v'=.slice none 0 0↔v=.slice none 0 0/\m=0)->K v' w'):
  bP P (Builtin.append_ #[t,t] ty #[v,x]) w K:=by
 obtain⟨i,z,hi,hz,h2,h3,h4⟩:=hT.get;obtain⟨p,cap,rfl,hcap,hnil,hcells⟩:=hx;have hm:n+m<=maxLen:=by unfold maxLen;omega
 cases p with
 |none=>
  obtain⟨rfl,rfl⟩:=hnil rfl;have hn:news=[]:=List.eq_nil_of_length_eq_zero (by simpa using hl);subst hn;have hr:(Builtin.append_ #[t,t] ty #[v,.slice none 0 0]).run P w=.ok v w:=by
   obtain⟨hl',⟨rfl,rfl⟩|⟨g,cap,bO,rfl,_,hg,h1,_,h2,h3⟩⟩:=hown
   ·simp[Builtin.append_,run_bind,aJ hT.und,dL (show(P.info? e).isSome=true by rw[hi];rfl),Builtin.lenOf,run_pure,Builtin.firstCells]
   ·simp[Builtin.append_,run_bind,aJ hT.und,dL (show(P.info? e).isSome=true by rw[hi];rfl),Builtin.lenOf,run_pure,Builtin.firstCells,h1,storeCells]
  unfold bP;rw[hr];simp only[Nat.add_zero,List.append_nil]at hK;exact hK v w hown (aS.refl _ _) (by simp)
 |some a=>
  have hcell:∀j u,news[j]?=some u->w.cell? (a.add j)=some u:=by
   intro j u hu;have hne:news≠[]:=λe=>by subst e;simp at hu
   obtain⟨b,off,c,fr,hp,hb',hcs⟩:=hcells hne;cases hp;rw[aV,aX,hb',aZ,hcs j (List.getElem?_eq_some_iff.1 hu).1,hu]
  obtain⟨v',w',hr,hown',hg,hnil'⟩:=run_append_own (P:=P) w base t ty e i z size bytes hT.und hi hz h2 h3 h4 hT.pos v n xs hown a m cap news hl hcell (λu hu=>qC (h1 u hu)) hm hb hbase;unfold bP;rw[hr];exact hK v' w' hown' (aS.of_grown hg λk e=>e) hnil'
theorem uP{base:Nat}{e:TypeId}{size:Nat}(hb:base<=w.heap.size)(hl:cs.length=n*size)(hn:n<=4611686018427387904):Own (w.alloc (.cells cs.toArray e)) base e size (.slice (some ⟨w.heap.size,0,none⟩) n n) n cs:=
 ⟨hl,.inr ⟨w.heap.size,n,cs.toArray,rfl,hb,dW _ _ _ rfl,Nat.le_refl _,by unfold maxLen;omega,by simpa using hl,by simp[<-hl]⟩⟩
theorem Own.chg{base:Nat}{e:TypeId}{size:Nat}{xs:List Value}(h:Own w base e size v n xs)(hc:aS S w w')(hS:∀k,Mr w base e k->¬S k):Own w' base e size v n xs:=by
 obtain⟨hl,hn|⟨g,cap,bO,hv,hb,hg,r⟩⟩:=h
 ·exact⟨hl,.inl hn⟩
 ·exact⟨hl,.inr ⟨g,cap,bO,hv,hb,by rw[hc.heap g (Array.getElem?_eq_some_iff.1 hg).1 (hS g ⟨hb,bO,hg⟩)];exact hg,r⟩⟩
theorem Own.ext{base:Nat}{e:TypeId}{size:Nat}{xs:List Value}(h:Own w base e size v n xs)(hc:bA w w'):Own w' base e size v n xs:=h.chg hc λ_ _ e=>e
theorem Own.base{base base':Nat}{e:TypeId}{size:Nat}{xs:List Value}(h:Own w base e size v n xs)(hb:base'<=base):Own w base' e size v n xs:=by
 obtain⟨hl,hn|⟨g,cap,bO,hv,hg,r⟩⟩:=h
 ·exact⟨hl,.inl hn⟩
 ·exact⟨hl,.inr ⟨g,cap,bO,hv,Nat.le_trans hb hg,r⟩⟩
def pY(l:List UInt8):List Value:=l.map λb=>.int .u8 b.toNat
theorem iQ(l:List UInt8):(pY l).length=l.length:=by simp[pY]
theorem uF(l:List UInt8)(i:Nat):(pY l)[i]?=(l[i]?).map λb=>.int .u8 b.toNat:=by simp[pY]
theorem As(a b:List UInt8):pY (a++b)=pY a++pY b:=by simp[pY]
abbrev Byt(w:World)(T:TypeId)(v:Value)(l:List UInt8):Prop:=SlAt w T v l.length (pY l)
theorem wH{src dst e:TypeId}(hs:P.underlying src=some (.slice e))(he:P.underlying e=some (.int .u8))(hd:P.underlying dst=some .string){l:List UInt8}{K:Value->Prop}
  (h:Byt w T v l):jP P (convert src dst v) w K↔K (str l):=by
 have hr:(convert src dst v).run P w=.ok (str l) w:=by
  obtain⟨p,cap,rfl,hcap,hnil,hcells⟩:=h;cases p with
  |none=>
   obtain⟨h0,_⟩:=hnil rfl;have:l=[]:=List.eq_nil_of_length_eq_zero h0;subst this;rw[run_convert_bytes_nil (P:=P) w src e hs he _ _ dst hd];rfl
  |some a=>
   cases l with
   |nil=>
    rw[run_convert_bytes_string w src dst e _ _ cap hs he hd];have hl:(loadCells a 0).run P w=.ok (([]:List Int).map (Value.int .u8)).toArray w:=rfl;have:=run_bytesToString w a 0 cap [] hl;exact this
   |cons x l=>
    obtain⟨b,off,c,fr,hp,hb,hcs⟩:=hcells (by simp[pY]);cases hp;have:=run_convert_bytes_arg (P:=P) w src e hs he b off (x::l).length cap ((x::l).map λb=>(b.toNat:Int)) (by simp) (λi hi=>by
     rw[aX,hb,aZ,hcs i (by rw[iQ];exact hi),uF,List.getElem?_eq_getElem hi];rw[List.getD_eq_getElem?_getD,List.getElem?_map,List.getElem?_eq_getElem hi];rfl) dst hd
    rw[this];simp[str,aL,strOfNums,Function.comp_def]
 constructor
 ·rintro⟨u,hu,hk⟩;rw[hr]at hu;cases hu;exact hk
 ·exactλhk=>⟨_,hr,hk⟩
abbrev aH:=List UInt8
theorem Qk(a b:aH):(aL a==aL b)=decide (a=b):=by
 have h:(aL a==aL b)=((aL a).data==(aL b).data):=rfl;rw[h,Bool.eq_iff_iff];simp[aL]
def KU:List (aH×Value)->aH->Nat->Option (Nat×Value)
 |[],_,_=>none
 |(k,v)::r,x,i=>if x=k then some (i,v)else KU r x (i+1)
theorem zZ:∀(l:List MapEntry) (A:List (aH×Value)) (x:aH) (i:Nat),l.map (λe=>(e.key,e.val))=A.map (λp=>(str p.1,p.2))->Instr.findNow .string (str x) l i=some (KU A x i)
 |[],A,x,i,h=>by
  have:A=[]:=by simpa using h.symm
  subst this
  rfl
 |e::l,[],x,i,h=>by simp at h
 |e::l,(k,v)::A,x,i,h=>by
  simp only[List.map_cons,List.cons.injEq,Prod.mk.injEq]at h
  obtain⟨⟨hk,hv⟩,hr⟩:=h
  simp only[Instr.findNow,hk,Instr.sameNow,Qk,KU,hv]
  by_cases hx:x=k
  ·simp[hx]
  ·simp only[hx,decide_false,if_false]
   exact zZ l A x (i+1) hr
section
variable{P:Program}{T kt et:TypeId}{w:World}{m:Nat}{A:List (aH×Value)}
theorem run_checkKey(hk:P.underlying kt=some .string)(e:Bool)(s:ByteArray)(w:World):(Instr.checkKey e 10000 kt (.string s)).run P w=.ok () w:=by
 show(Instr.checkKey e (9999+1) kt (.string s)).run P w=.ok () w;unfold Instr.checkKey;simp[run_bind,aJ hk,run_pure]
theorem run_findKey(hk:P.underlying kt=some .string)(x:aH)(es:List MapEntry)(h:es.map (λe=>(e.key,e.val))=A.map (λp=>(str p.1,p.2)))(w:World):(Instr.findKey kt (str x) es).run P w=.ok (KU A x 0) w:=by
 simp only[Instr.findKey,run_bind,aJ hk];rw[zZ es A x 0 h];rfl
end
theorem aS.at{k:Nat}{o:Obj}(hc:aS S w w')(h:w.heap[k]?=some o)(hS:¬S k):w'.heap[k]?=some o:=by
 rw[hc.heap k (Array.getElem?_eq_some_iff.1 h).1 hS];exact h
theorem aS.new{w1 w2:World}{a:Nat}(h1:bA w w1)(hc:aS (λk=>k=a) w1 w2)(ha:w.heap.size<=a):bA w w2:=h1.then hc λk hk e=>by omega
theorem dA{k:Nat}{o:Obj}(h:w.heap[k]?=some o):k<w.heap.size:=(Array.getElem?_eq_some_iff.1 h).1
theorem aI{z:List Value}(h:∀a w',a=w.heap.size->w'.heap.size=w.heap.size+1->w'.heap[a]?=some (.cells z.toArray T (0,0))->bA w w'->K (.pointer (some ⟨a,0,none⟩)) w'):aN T z w K:=
 h _ _ rfl (by simp) (dW _ _ _ rfl) (aS.alloc (aS.refl _ _) _)
theorem dF{z:List Value}(h:∀a w',a=w.heap.size->w'.heap.size=w.heap.size+1->w'.heap[a]?=some (.cells z.toArray T (0,0))->bA w w'->K (.pointer (some ⟨a,0,none⟩)) w'):cI T (.agg z.toArray) w K:=
 h _ _ rfl (by simp) (dW _ _ _ rfl) (aS.alloc (aS.refl _ _) _)
theorem row_new(h:∀a w',a=w.heap.size->w'.heap.size=w.heap.size+1->w'.heap[a]?=some (.cells cs.toArray T (0,0))->bA w w'->w'=w.alloc (.cells cs.toArray T)->K (.slice (some ⟨a,0,none⟩) n n) w'):
  K (.slice (some ⟨w.heap.size,0,none⟩) n n) (w.alloc (.cells cs.toArray T)):=
 h _ _ rfl (by simp) (dW _ _ _ rfl) (aS.alloc (aS.refl _ _) _) rfl
theorem eY{a off:Nat}{cs:Array Value}{K:World->Prop}(hb:w.heap[a]?=some (.cells cs T (0,0)))(h1:cY v=true)(hoff:off<cs.size)
  (hK:∀w',w'.heap.size=w.heap.size->w'.heap[a]?=some (.cells (cs.setIfInBounds off v) T (0,0))->aS (λk=>k=a) w w'->K w'):bF 1 (.pointer (some ⟨a,off,none⟩)) v w K:=by
 have hc:v.cells.toList=[v]:=by cases v<;>first|rfl|(simp[cY]at h1)
 have hc2:v.cells=#[v]:=by cases v<;>first|rfl|(simp[cY]at h1)
 have hz:(⟨a,off,none⟩:Addr).add 0=⟨a,off,none⟩:=rfl;simp only[bF,hc2];refine⟨rfl,?_⟩;simp only[pA,hz];refine⟨h1,?_,?_,?_⟩
 ·rw[aX,hb,aZ];simp[hoff]
 ·rw[iG,hb,mG]
 ·refine hK _ (by simp) ?_ (aS.set (S:=λk=>k=a) (aS.refl _ _) (.inl rfl) _);rw[jZ,hb,uJ]
theorem Xa{a:Nat}{K:World->Prop}:∀(l:List Value) (i:Nat) (cs:List Value),w.heap[a]?=some (.cells cs.toArray T (0,0))->cs.length=i+l.length->(∀v∈l,cY v=true)->
  (∀w',w'.heap.size=w.heap.size->w'.heap[a]?=some (.cells (cs.take i++l).toArray T (0,0))->aS (λk=>k=a) w w'->K w')->pA ⟨a,0,none⟩ l i w K:=by
 intro l;induction l generalizing w with
 |nil=>
  intro i cs hb hl _ hK;refine hK w rfl ?_ (aS.refl _ _);simp only[List.length_nil,Nat.add_zero]at hl;rw[List.take_of_length_le (by omega),List.append_nil];exact hb
 |cons v r ih=>
  intro i cs hb hl h1 hK;have hadd:(⟨a,0,none⟩:Addr).add i=⟨a,i,none⟩:=by rw[aV];simp
  simp only[List.length_cons]at hl;simp only[pA,hadd];refine⟨h1 v List.mem_cons_self,?_,?_,?_⟩
  ·rw[aX,hb,aZ];simp;omega
  ·rw[iG,hb,mG]
  ·have hb':(w.setCell ⟨a,i,none⟩ v).heap[a]?=some (.cells (cs.set i v).toArray T (0,0)):=by
    rw[jZ,hb,uJ];simp
   refine ih (i+1) (cs.set i v) hb' (by rw[List.length_set];omega) (λu hu=>h1 u (List.mem_cons_of_mem _ hu)) λw' hz hb2 hc=>?_;refine hK w' (by rw[hz];simp) ?_ ((aS.set (S:=λk=>k=a) (aS.refl _ _) (.inl rfl) _).trans hc);rw[hb2];have:(cs.set i v).take (i+1)++r=cs.take i++v::r:=by
    rw[List.take_add_one,List.getElem?_set_self (by omega),List.take_set_of_le (by omega)];simp
   rw[this]
theorem aY{a:Nat}{l:List Value}{K:World->Prop}(hb:w.heap[a]?=some (.cells cs.toArray T (0,0)))(hl:l.length=n)(hc:cs.length=n)(h1:l.all cY=true)
  (hK:∀w',w'.heap.size=w.heap.size->w'.heap[a]?=some (.cells l.toArray T (0,0))->aS (λk=>k=a) w w'->K w'):bF n (.pointer (some ⟨a,0,none⟩)) (.agg l.toArray) w K:=by
 rw[Xb];refine⟨hl,?_⟩;refine Xa l 0 cs hb (by omega) (λv hv=>List.all_eq_true.1 h1 v hv) λw' hz hb' hc'=>hK w' hz ?_ hc';simpa using hb'
theorem BS{a:Nat}{w:World}{T:TypeId}{cs:List Value}{fr:Nat×Nat}(hb:w.heap[a]?=some (.cells cs.toArray T fr)):∀(n i:Nat),i+n=cs.length->fU w ⟨a,0,none⟩ i n=some (cs.drop i)
 |0,i,h=>by simp only[fU];rw[List.drop_of_length_le (by omega)]
 |n+1,i,h=>by
  have hi:i<cs.length:=by omega
  simp only[fU,aV,aX,hb,aZ,Nat.zero_add,List.getElem?_toArray,List.getElem?_eq_getElem hi]
  rw[BS hb n (i+1) (by omega)]
  simp
theorem aU{a:Nat}{l:List Value}{fr:Nat×Nat}{K:Value->Prop}(hb:w.heap[a]?=some (.cells l.toArray T fr))(hn:l.length=n)(hK:K (.agg l.toArray)):aE true n (.pointer (some ⟨a,0,none⟩)) w K:=by
 rw[Bp];exact⟨l,by rw[BS hb n 0 (by omega)];rfl,hK⟩
theorem eS{a:Nat}{l:List Value}(hb:w.heap[a]?=some (.cells cs.toArray T (0,0)))(hl:l.length=n)(hc:cs.length=n)(h1:l.all cY=true)
  (hK:∀w',aS (λk=>k=a) w w'->K (.agg l.toArray) w'):bF n (.pointer (some ⟨a,0,none⟩)) (.agg l.toArray) w λw5=>aE true n (.pointer (some ⟨a,0,none⟩)) w5 λr6=>K r6 w5:=
 aY hb hl hc h1 λw' _ hb' hcw=>aU hb' hl (hK w' hcw)
inductive JV where
 |mk (k:Int) (b:Bool) (t:aH) (xs:List JV) (ks:List aH)
namespace JV
def k:JV->Int|.mk k _ _ _ _=>k
def b:JV->Bool|.mk _ b _ _ _=>b
def t:JV->aH|.mk _ _ t _ _=>t
def xs:JV->List JV|.mk _ _ _ xs _=>xs
def ks:JV->List aH|.mk _ _ _ _ ks=>ks
theorem eta(v:JV):v=.mk v.k v.b v.t v.xs v.ks:=by cases v;rfl
theorem ind{p:JV->Prop}(h:∀k b t xs ks,(∀x∈xs,p x)->p (.mk k b t xs ks))(v:JV):p v:=
 JV.rec (motive_1:=p) (motive_2:=λl=>∀x∈l,p x) (λk b t xs ks ih=>h k b t xs ks ih) (by intro x hx;cases hx)
  (λx l hx hl y hy=>by rcases List.mem_cons.1 hy with rfl|hy;exact hx;exact hl y hy) v
def null:JV:=.mk 0 false [] [] []
end JV
def Fits(n:Nat)(ks:List aH)(t:aH):Prop:=n<=9223372036854775807/\ks.length<=9223372036854775807/\t.length<=9223372036854775807/\∀s∈ks,s.length<=9223372036854775807
mutual
def cM(w:World):JV->List Value->Prop
 |.mk k b t xs ks,cs=>∃sv kv T1 T2 L,cs=[i64 k,.bool b,str t,sv,kv]/\SlAt w T1 sv xs.length L/\cD w xs L/\SlAt w T2 kv ks.length (ks.map str)/\Fits xs.length ks t
def cD(w:World):List JV->List Value->Prop
 |[],L=>L=[]
 |x::xs,L=>∃c r,L=c++r/\cM w x c/\cD w xs r
end
theorem cM.out{v:JV}(h:cM w v cs):∃sv kv T1 T2 L,cs=[i64 v.k,.bool v.b,str v.t,sv,kv]/\SlAt w T1 sv v.xs.length L/\cD w v.xs L/\SlAt w T2 kv v.ks.length (v.ks.map str)/\Fits v.xs.length v.ks v.t:=by
 cases v with
 |mk k b t xs ks=>simpa only[cM,JV.k,JV.b,JV.t,JV.xs,JV.ks]using h
theorem cM.mk{v:JV}{sv kv:Value}{T1 T2:TypeId}{L:List Value}(h1:SlAt w T1 sv v.xs.length L)(h2:cD w v.xs L)(h3:SlAt w T2 kv v.ks.length (v.ks.map str))(h4:Fits v.xs.length v.ks v.t):cM w v [i64 v.k,.bool v.b,str v.t,sv,kv]:=by
 cases v with
 |mk k b t xs ks=>simp only[cM];exact⟨sv,kv,T1,T2,L,rfl,h1,h2,h3,h4⟩
theorem cM.len{v:JV}(h:cM w v cs):cs.length=5:=by
 obtain⟨sv,kv,T1,T2,L,rfl,_⟩:=h.out;rfl
theorem cM.one{v:JV}(h:cM w v cs):∀u∈cs,cY u=true:=by
 obtain⟨sv,kv,T1,T2,L,rfl,h1,_,h3,_⟩:=h.out;obtain⟨p,c,rfl,_⟩:=h1.shape;obtain⟨p',c',rfl,_⟩:=h3.shape;intro u hu;simp only[List.mem_cons,List.not_mem_nil,or_false]at hu;rcases hu with rfl|rfl|rfl|rfl|rfl<;>rfl
theorem cM.all_one{v:JV}(h:cM w v cs):cs.all cY=true:=List.all_eq_true.2 h.one
theorem cD.len{w:World}:∀{xs:List JV} {L:List Value},cD w xs L->L.length=xs.length*5
 |[],L,h=>by simp only[cD]at h;subst h;rfl
 |x::xs,L,h=>by
  simp only[cD]at h
  obtain⟨c,r,rfl,hc,hr⟩:=h
  rw[List.length_append,hc.len,cD.len hr,List.length_cons];omega
theorem cD.one{w:World}:∀{xs:List JV} {L:List Value},cD w xs L->∀u∈L,cY u=true
 |[],L,h=>by simp only[cD]at h;subst h;intro u hu;cases hu
 |x::xs,L,h=>by
  simp only[cD]at h
  obtain⟨c,r,rfl,hc,hr⟩:=h
  intro u hu
  rcases List.mem_append.1 hu with hu|hu
  ·exact hc.one u hu
  ·exact cD.one hr u hu
theorem cD.get{w:World}:∀{xs:List JV} {L:List Value} {i:Nat} {x:JV},cD w xs L->xs[i]?=some x->∃cs,cM w x cs/\∀j,j<5->L[i*5+j]?=cs[j]?
 |[],_,_,_,_,h=>by simp at h
 |y::xs,L,0,x,h,hx=>by
  simp only[List.getElem?_cons_zero,Option.some.injEq]at hx
  subst hx
  simp only[cD]at h
  obtain⟨c,r,rfl,hc,hr⟩:=h
  refine⟨c,hc,λj hj=>?_⟩
  rw[Nat.zero_mul,Nat.zero_add,List.getElem?_append_left (by rw[hc.len];exact hj)]
 |y::xs,L,i+1,x,h,hx=>by
  simp only[List.getElem?_cons_succ]at hx
  simp only[cD]at h
  obtain⟨c,r,rfl,hc,hr⟩:=h
  obtain⟨cs,h1,h2⟩:=cD.get hr hx
  refine⟨cs,h1,λj hj=>?_⟩
  rw[List.getElem?_append_right (by rw[hc.len];omega),hc.len,<-h2 j hj]
  congr 1;omega
theorem cD.app{w:World}:∀{xs ys:List JV} {L M:List Value},cD w xs L->cD w ys M->cD w (xs++ys) (L++M)
 |[],ys,L,M,h,h'=>by simp only[cD]at h;subst h;exact h'
 |x::xs,ys,L,M,h,h'=>by
  simp only[cD]at h
  obtain⟨c,r,rfl,hc,hr⟩:=h
  simp only[List.cons_append,cD]
  exact⟨c,r++M,by simp,hc,cD.app hr h'⟩
theorem cD.one'{x:JV}(h:cM w x cs):cD w [x] cs:=by
 simp only[cD];exact⟨cs,[],by simp,h,rfl⟩
theorem cD.snoc{xs:List JV}{x:JV}{L:List Value}(h:cD w xs L)(hx:cM w x cs):cD w (xs++[x]) (L++cs):=h.app (cD.one' hx)
mutual
theorem cM.ext{w w':World}(hx:bA w w'):∀{v:JV} {cs:List Value},cM w v cs->cM w' v cs
 |.mk k b t xs ks,cs,h=>by
  simp only[cM]at h⊢
  obtain⟨sv,kv,T1,T2,L,rfl,h1,h2,h3,h4⟩:=h
  exact⟨sv,kv,T1,T2,L,rfl,h1.ext hx,cD.ext hx h2,h3.ext hx,h4⟩
theorem cD.ext{w w':World}(hx:bA w w'):∀{xs:List JV} {L:List Value},cD w xs L->cD w' xs L
 |[],L,h=>by simp only[cD]at h⊢;exact h
 |x::xs,L,h=>by
  simp only[cD]at h⊢
  obtain⟨c,r,rfl,hc,hr⟩:=h
  exact⟨c,r,rfl,cM.ext hx hc,cD.ext hx hr⟩
end
theorem Kd{sv:Value}{xs:List JV}{L:List Value}{k:IntKind}{x:JV}{K:Value->Prop}(h:SlAt w T sv xs.length L)(hr:cD w xs L)(hi:xs[i]?=some x)
  (hK:∀b o c fr cs,w.heap[b]?=some (.cells c T fr)->cM w x cs->(∀j,j<5->c[o+j]?=cs[j]?)->K (.pointer (some ⟨b,o,none⟩))):bU none 5 sv (.int k i) K:=by
 obtain⟨cs,hc,hg⟩:=hr.get hi;refine mR (size:=5) h hr.len (by omega) (List.getElem?_eq_some_iff.1 hi).1 λb o c fr hb hcc=>?_;exact hK b o c fr cs hb hc λj hj=>(hcc j hj).trans (hg j hj)
theorem rE{b o:Nat}{c:Array Value}{fr:Nat×Nat}{K:Value->Prop}(hb:w.heap[b]?=some (.cells c T fr))(hn:cs.length=n)(hc:∀j,j<n->c[o+j]?=cs[j]?)(hK:K (.agg cs.toArray)):
  aE true n (.pointer (some ⟨b,o,none⟩)) w K:=by
 rw[Bp];refine⟨cs,?_,hK⟩;have key:∀(m i:Nat),i+m=n->fU w ⟨b,o,none⟩ i m=some (cs.drop i):=by
  intro m;induction m with
  |zero=>intro i h;simp only[fU];rw[List.drop_of_length_le (by omega)]
  |succ m ih=>
   intro i h;have hi:i<cs.length:=by omega
   simp only[fU,aV,aX,hb,aZ,hc i (by omega),List.getElem?_eq_getElem hi];rw[ih (i+1) (by omega)];simp
 simpa using key n 0 (by omega)
theorem EJ{sv:Value}{xs:List JV}{L:List Value}{k:IntKind}{x:JV}{K:Value->Prop}(h:SlAt w T sv xs.length L)(hr:cD w xs L)(hi:xs[i]?=some x)
  (hK:∀cs,cM w x cs->K (.agg cs.toArray)):bU none 5 sv (.int k i) λp=>aE true 5 p w K:=
 Kd h hr hi λ_ _ _ _ cs hb hc hg=>rE hb hc.len hg (hK cs hc)
theorem jE{kv:Value}{ks:List aH}{k:IntKind}{x:aH}{K:Value->Prop}(h:SlAt w T kv ks.length (ks.map str))(hi:ks[i]?=some x)(hK:K (str x)):bU none 1 kv (.int k i) λp=>aE false 1 p w K:=
 lW h (by simp) (by simp[hi]) hK
end
end Go.Eng
namespace Go.Num
section
open Go.Eng
variable{w:World}{K:Value->World->Prop}{cs:List Value}{G:Nat->Prop}{T:TypeId}{i:Nat}{n:Nat}{v:Value}{w':World}{P:Program}{c:UInt8}{S:Nat->Prop}
def isDig(c:UInt8):Bool:=decide (48<=c.toNat)&&decide (c.toNat<=57)
def dig(a:aH):aH:=match a with|[]=>[]|c::d=>if c=45 then d else c::d
def neg(a:aH):Bool:=a.head?==some 45
def goodN(a:aH):Bool:=decide (1<=(dig a).length)&&decide ((dig a).length<=100)&&(!((dig a).head?==some 48)||decide (a=[48]))&&(dig a).all isDig
def dval(c:UInt8):Nat:=c.toNat-48
def dec(d:aH):Nat:=d.foldl (λn c=>n*10+dval c) 0
theorem Zl(d:aH)(n:Nat):d.foldl (λn c=>n*10+dval c) n=n*10^d.length+dec d:=by
 unfold dec;induction d generalizing n with
 |nil=>simp
 |cons c d ih=>
  simp only[List.foldl_cons,List.length_cons];rw[ih,ih (0*10+dval c),Nat.pow_succ,Nat.zero_mul,Nat.zero_add,Nat.add_mul,<-Nat.add_assoc];congr 2;rw[Nat.mul_assoc,Nat.mul_comm 10]
theorem sH(a b:aH):dec (a++b)=dec a*10^b.length+dec b:=by
 unfold dec;rw[List.foldl_append,Zl];rfl
theorem rO(c:UInt8)(d:aH):dec (c::d)=dval c*10^d.length+dec d:=by
 have:=sH [c] d;simpa[dec]using this
theorem Fp(h:isDig c=true):dval c<10:=by
 simp only[isDig,Bool.and_eq_true,decide_eq_true_eq]at h;unfold dval;omega
theorem zB{d:aH}(h:d.all isDig=true):dec d<10^d.length:=by
 induction d with
 |nil=>simp[dec]
 |cons c d ih=>
  simp only[List.all_cons,Bool.and_eq_true]at h;have h1:=ih h.2;have h2:=Fp h.1;rw[rO,List.length_cons,Nat.pow_succ,Nat.mul_comm (10^_) 10];have:dval c*10^d.length+10^d.length<=10*10^d.length:=by rw[<-Nat.succ_mul];exact Nat.mul_le_mul_right _ h2
  omega
theorem HA{a b:aH}(ha:a.all isDig=true)(hb:b.all isDig=true)(hl:a.length=b.length)(h:dec a=dec b):a=b:=by
 induction a generalizing b with
 |nil=>cases b with
  |nil=>rfl
  |cons _ _=>simp at hl
 |cons c a ih=>
  cases b with
  |nil=>simp at hl
  |cons e b=>
   simp only[List.all_cons,Bool.and_eq_true]at ha hb;simp only[List.length_cons,Nat.add_right_cancel_iff]at hl;rw[rO,rO,hl]at h;have h1:=zB ha.2;have h2:=zB hb.2;rw[hl]at h1;have hp:0<10^b.length:=Nat.pow_pos (by omega);have e1:(dval c*10^b.length+dec a)/10^b.length=dval c:=by
    rw[Nat.add_comm,Nat.add_mul_div_right _ _ hp,Nat.div_eq_of_lt h1,Nat.zero_add]
   have e2:(dval e*10^b.length+dec b)/10^b.length=dval e:=by
    rw[Nat.add_comm,Nat.add_mul_div_right _ _ hp,Nat.div_eq_of_lt h2,Nat.zero_add]
   have hc:dval c=dval e:=by rw[<-e1,<-e2,h]
   have hr:dec a=dec b:=by rw[hc]at h;omega
   have hce:c=e:=by
    have h3:=ha.1;have h4:=hb.1;simp only[isDig,Bool.and_eq_true,decide_eq_true_eq]at h3 h4;unfold dval at hc;exact UInt8.toNat_inj.1 (by omega)
   rw[hce,ih ha.2 hb.2 hl hr]
theorem Ju{d:aH}(hc:isDig c=true)(h0:c≠48):10^d.length<=dec (c::d):=by
 rw[rO];have:1<=dval c:=by
  simp only[isDig,Bool.and_eq_true,decide_eq_true_eq]at hc;unfold dval;have:c.toNat≠48:=λe=>h0 (UInt8.toNat_inj.1 e);omega
 have:=Nat.mul_le_mul_right (10^d.length) this;omega
theorem KF{a b:aH}(ha:a.all isDig=true)(hb:b.all isDig=true)(ha0:a.head?=some 48->a=[48])(hb0:b.head?=some 48->b=[48])(h1:a≠[])(h2:b≠[])(h:dec a=dec b):a=b:=by
 have key:∀{a b:aH},a.all isDig=true->b.all isDig=true->(b.head?=some 48->b=[48])->a≠[]->b≠[]->dec a=dec b->b.length<=a.length:=by
  intro a b ha hb hb0 h1 h2 h;cases b with
  |nil=>simp
  |cons c d=>
   by_cases hc:c=48
   ·have:=hb0 (by simp[hc]);rw[this];cases a with
    |nil=>exact absurd rfl h1
    |cons _ _=>simp
   ·simp only[List.all_cons,Bool.and_eq_true]at hb;have h3:=Ju (d:=d) hb.1 hc;have h4:=zB ha;rw[h]at h4;have:d.length<a.length:=by
     rcases Nat.lt_or_ge d.length a.length with h5|h5
     ·exact h5
     ·have:=Nat.pow_le_pow_right (n:=10) (by omega) h5;omega
    simp;omega
 exact HA ha hb (Nat.le_antisymm (key hb ha ha0 h2 h1 h.symm) (key ha hb hb0 h1 h2 h)) h
def val:List Nat->Nat
 |[]=>0
 |x::r=>x+1000000000*val r
def mU(l:List Nat):Prop:=∀x∈l,x<1000000000
def gY(d:aH):List Nat:=if h:d=[]then []else dec (d.drop (d.length-9))::gY (d.take (d.length-9))
 termination_by d.length
 decreasing_by
  have:0<d.length:=List.length_pos_iff.2 h
  simp only[List.length_take];omega
theorem yP:gY []=[]:=by rw[gY];simp
theorem Bl{d:aH}(h:d≠[]):gY d=dec (d.drop (d.length-9))::gY (d.take (d.length-9)):=by rw[gY,dif_neg h]
theorem rP{d:aH}(n:Nat)(h:d.all isDig=true):(d.take n).all isDig=true:=List.all_eq_true.2 λx hx=>List.all_eq_true.1 h x (List.mem_of_mem_take hx)
theorem HT{d:aH}(n:Nat)(h:d.all isDig=true):(d.drop n).all isDig=true:=List.all_eq_true.2 λx hx=>List.all_eq_true.1 h x (List.mem_of_mem_drop hx)
theorem aBH{d:aH}(h:d.all isDig=true)(hl:d.length<=9):dec d<1000000000:=by
 have h1:=zB h;have:=Nat.pow_le_pow_right (n:=10) (by omega) hl;omega
theorem nS:∀(n:Nat) (d:aH),d.length<=n->d.all isDig=true->val (gY d)=dec d/\mU (gY d)
 |n,[],_,_=>by rw[yP];exact⟨rfl,λx hx=>by cases hx⟩
 |0,_::_,h,_=>by simp at h
 |n+1,c::d,hn,h=>by
  rw[Bl (by simp)]
  generalize hD:c::d=D at*
  have hpos:0<D.length:=by rw[<-hD];simp
  obtain⟨h1,h2⟩:=nS n (D.take (D.length-9)) (by rw[List.length_take];omega) (rP _ h)
  refine⟨?_,λx hx=>?_⟩
  ·simp only[val,h1]
   have hs:D=D.take (D.length-9)++D.drop (D.length-9):=(List.take_append_drop _ _).symm
   conv=>rhs;rw[hs,sH]
   rcases Nat.lt_or_ge D.length 9 with h9|h9
   ·have:D.length-9=0:=by omega
    rw[this];simp[dec]
   ·rw[List.length_drop,show D.length-(D.length-9)=9 by omega]
    rw[Nat.add_comm,Nat.mul_comm 1000000000]
  ·rcases List.mem_cons.1 hx with rfl|hx
   ·exact aBH (HT _ h) (by rw[List.length_drop];omega)
   ·exact h2 x hx
def eG(l:List Nat):List Nat:=if h:l=[]then []else if l.getLast h=0 then eG l.dropLast else l
 termination_by l.length
 decreasing_by
  have:0<l.length:=List.length_pos_iff.2 h
  simp only[List.length_dropLast];omega
theorem nN:eG []=[]:=by rw[eG];simp
theorem lL(l:List Nat):eG (l++[0])=eG l:=by rw[eG];simp
theorem qN{l:List Nat}{x:Nat}(h:x≠0):eG (l++[x])=l++[x]:=by rw[eG];simp[h]
def PN(l:List Nat):Prop:=∀h:l≠[],l.getLast h≠0
theorem Eg(a b:List Nat):val (a++b)=val a+1000000000^a.length*val b:=by
 induction a with
 |nil=>simp[val]
 |cons x a ih=>simp only[List.cons_append,val,ih,List.length_cons,Nat.pow_succ];rw[Nat.mul_add,<-Nat.add_assoc,<-Nat.mul_assoc,Nat.mul_comm 1000000000 (1000000000^_)]
theorem tE{p:List Nat->Prop}(h0:p [])(h1:∀l x,p l->p (l++[x]))(l:List Nat):p l:=by
 have:∀n (l:List Nat),l.length=n->p l:=by
  intro n;induction n with
  |zero=>intro l hl;rw[List.eq_nil_of_length_eq_zero hl];exact h0
  |succ n ih=>
   intro l hl;have hne:l≠[]:=λe=>by subst e;simp at hl
   rw[<-List.dropLast_concat_getLast hne];exact h1 _ _ (ih _ (by simp[hl]))
 exact this _ l rfl
theorem iR(l:List Nat):val (eG l)=val l/\PN (eG l)/\(mU l->mU (eG l)):=by
 induction l using tE with
 |h0=>rw[nN];exact⟨rfl,λh=>absurd rfl h,id⟩
 |h1 l x ih=>
  by_cases h:x=0
  ·subst h;rw[lL];refine⟨by rw[ih.1,Eg];simp[val],ih.2.1,λhl=>ih.2.2 λy hy=>hl y (List.mem_append_left _ hy)⟩
  ·rw[qN h];exact⟨rfl,λ_=>by simpa using h,id⟩
theorem Ee{l:List Nat}(h:mU l):val l<1000000000^l.length:=by
 induction l with
 |nil=>simp[val]
 |cons x l ih=>
  have h1:=ih λy hy=>h y (List.mem_cons_of_mem _ hy);have h2:=h x List.mem_cons_self;simp only[val,List.length_cons,Nat.pow_succ];have:1000000000*val l+1000000000<=1000000000*1000000000^l.length:=by rw[<-Nat.mul_succ];exact Nat.mul_le_mul_left _ h1
  rw[Nat.mul_comm (1000000000^_)];omega
theorem Eh{l:List Nat}(ht:PN l)(hne:l≠[]):1000000000^(l.length-1)<=val l:=by
 have h1:=ht hne;have h2:=List.dropLast_concat_getLast hne;rw[<-h2,Eg];simp only[List.length_append,List.length_dropLast,List.length_cons,List.length_nil,val,Nat.mul_zero,Nat.add_zero];have:1000000000^(l.length-1)*1<=1000000000^(l.length-1)*l.getLast hne:=Nat.mul_le_mul_left _ (by omega);rw[show l.length-1+1-1=l.length-1 by omega];omega
theorem AG{l:List Nat}(ht:PN l):val l=0↔l=[]:=by
 constructor
 ·intro h;rcases Classical.em (l=[])with e|e
  ·exact e
  ·have:=Eh ht e;have hp:0<1000000000^(l.length-1):=Nat.pow_pos (by omega);omega
 ·rintro rfl;rfl
def eU:List Nat->List Nat->Nat->List Nat
 |[],[],c=>[c]
 |a::x,[],c=>(c+a)%1000000000::eU x [] ((c+a)/1000000000)
 |[],b::y,c=>(c+b)%1000000000::eU [] y ((c+b)/1000000000)
 |a::x,b::y,c=>(c+a+b)%1000000000::eU x y ((c+a+b)/1000000000)
theorem uM:∀(x y:List Nat) (c:Nat),val (eU x y c)=val x+val y+c
 |[],[],c=>by simp[eU,val]
 |a::x,[],c=>by
  have:=uM x [] ((c+a)/1000000000)
  simp only[eU,val,this]
  have:=Nat.mod_add_div (c+a) 1000000000
  rw[Nat.mul_add,Nat.mul_add];omega
 |[],b::y,c=>by
  have:=uM [] y ((c+b)/1000000000)
  simp only[eU,val,this]
  have:=Nat.mod_add_div (c+b) 1000000000
  rw[Nat.mul_add,Nat.mul_add];omega
 |a::x,b::y,c=>by
  have:=uM x y ((c+a+b)/1000000000)
  simp only[eU,val,this]
  have:=Nat.mod_add_div (c+a+b) 1000000000
  rw[Nat.mul_add,Nat.mul_add];omega
theorem qX:∀(x y:List Nat) (c:Nat),mU x->mU y->c<=1->mU (eU x y c)
 |[],[],c,_,_,hc=>by intro u hu;simp only[eU,List.mem_singleton]at hu;subst hu;omega
 |a::x,[],c,hx,hy,hc=>by
  have ha:=hx a List.mem_cons_self
  have:=qX x [] ((c+a)/1000000000) (λu hu=>hx u (List.mem_cons_of_mem _ hu)) hy (by omega)
  intro u hu
  simp only[eU]at hu
  rcases List.mem_cons.1 hu with rfl|hu
  ·exact Nat.mod_lt _ (by omega)
  ·exact this u hu
 |[],b::y,c,hx,hy,hc=>by
  have ha:=hy b List.mem_cons_self
  have:=qX [] y ((c+b)/1000000000) hx (λu hu=>hy u (List.mem_cons_of_mem _ hu)) (by omega)
  intro u hu
  simp only[eU]at hu
  rcases List.mem_cons.1 hu with rfl|hu
  ·exact Nat.mod_lt _ (by omega)
  ·exact this u hu
 |a::x,b::y,c,hx,hy,hc=>by
  have ha:=hx a List.mem_cons_self
  have hb:=hy b List.mem_cons_self
  have:=qX x y ((c+a+b)/1000000000) (λu hu=>hx u (List.mem_cons_of_mem _ hu)) (λu hu=>hy u (List.mem_cons_of_mem _ hu)) (by omega)
  intro u hu
  simp only[eU]at hu
  rcases List.mem_cons.1 hu with rfl|hu
  ·exact Nat.mod_lt _ (by omega)
  ·exact this u hu
def dY:List Nat->List Nat->Nat->List Nat
 |[],_,_=>[]
 |a::x,y,c=>
  let t:=c+y.headD 0
  if a<t then(a+1000000000-t)::dY x y.tail 1 else(a-t)::dY x y.tail 0
theorem MA(y:List Nat):val y=y.headD 0+1000000000*val y.tail:=by cases y<;>simp[val]
theorem oG:∀(x y:List Nat) (c:Nat),mU x->mU y->c<=1->val y+c<=val x->y.length<=x.length->val (dY x y c)=val x-val y-c/\mU (dY x y c)
 |[],y,c,_,_,_,h,_=>by simp[val]at h;simp[dY,val,mU]
 |a::x,y,c,hx,hy,hc,h,hl=>by
  have ha:=hx a List.mem_cons_self
  have hx':mU x:=λu hu=>hx u (List.mem_cons_of_mem _ hu)
  have hy':mU y.tail:=λu hu=>hy u (List.mem_of_mem_tail hu)
  have hb:y.headD 0<1000000000:=by cases y with
   |nil=>simp
   |cons b y=>exact hy b List.mem_cons_self
  have hl':y.tail.length<=x.length:=by simp only[List.length_tail,List.length_cons]at hl⊢;omega
  rw[MA y]at h⊢
  simp only[val]at h⊢
  simp only[dY]
  by_cases hlt:a<c+y.headD 0
  ·rw[if_pos hlt]
   have h1:val y.tail+1<=val x:=by
    rcases Nat.lt_or_ge (val y.tail) (val x)with h1|h1
    ·exact h1
    ·have:=Nat.mul_le_mul_left 1000000000 h1;omega
   obtain⟨h2,h3⟩:=oG x y.tail 1 hx' hy' (by omega) h1 hl';refine⟨?_,λu hu=>?_⟩
   ·simp only[val,h2];have:1000000000*(val x-val y.tail-1)=1000000000*val x-1000000000*val y.tail-1000000000:=by rw[Nat.mul_sub,Nat.mul_sub,Nat.mul_one]
    rw[this];have:=Nat.mul_le_mul_left 1000000000 h1;rw[Nat.mul_add]at this;omega
   ·rcases List.mem_cons.1 hu with rfl|hu
    ·omega
    ·exact h3 u hu
  ·rw[if_neg hlt];have h1:val y.tail+0<=val x:=by
    rcases Nat.lt_or_ge (val x) (val y.tail)with h1|h1
    ·have:=Nat.mul_le_mul_left 1000000000 (Nat.succ_le_of_lt h1);rw[Nat.mul_succ]at this;omega
    ·omega
   obtain⟨h2,h3⟩:=oG x y.tail 0 hx' hy' (by omega) h1 hl';refine⟨?_,λu hu=>?_⟩
   ·simp only[val,h2,Nat.sub_zero];rw[Nat.mul_sub];have:=Nat.mul_le_mul_left 1000000000 h1;rw[Nat.add_zero]at this;omega
   ·rcases List.mem_cons.1 hu with rfl|hu
    ·omega
    ·exact h3 u hu
def oV(a b:Nat):Int:=if a<b then-1 else if b<a then 1 else 0
theorem eW(a b:Nat):(a<b/\oV a b=-1)\/(a=b/\oV a b=0)\/(b<a/\oV a b=1):=by
 unfold oV;rcases Nat.lt_trichotomy a b with h|h|h
 ·exact .inl ⟨h,if_pos h⟩
 ·exact .inr (.inl ⟨h,by subst h;simp⟩)
 ·exact .inr (.inr ⟨h,by rw[if_neg (Nat.not_lt.2 (Nat.le_of_lt h)),if_pos h]⟩)
def pC:List (Nat×Nat)->Int
 |[]=>0
 |(a,b)::r=>if oV a b≠0 then oV a b else pC r
def FX(x y:List Nat):Int:=if oV x.length y.length≠0 then oV x.length y.length else pC (x.zip y).reverse
theorem Lk(a b:List (Nat×Nat)):pC (a++b)=if pC a≠0 then pC a else pC b:=by
 induction a with
 |nil=>simp[pC]
 |cons p a ih=>
  obtain⟨u,v⟩:=p;simp only[List.cons_append,pC,ih];by_cases h:oV u v≠0
  ·simp[h]
  ·simp[h]
theorem Cx:∀(x y:List Nat),mU x->mU y->x.length=y.length->pC (x.zip y).reverse=oV (val x) (val y)
 |[],[],_,_,_=>by simp[pC,oV]
 |[],_::_,_,_,h=>by simp at h
 |_::_,[],_,_,h=>by simp at h
 |a::x,b::y,hx,hy,h=>by
  simp only[List.length_cons,Nat.add_right_cancel_iff]at h
  have ha:=hx a List.mem_cons_self
  have hb:=hy b List.mem_cons_self
  have ih:=Cx x y (λu hu=>hx u (List.mem_cons_of_mem _ hu)) (λu hu=>hy u (List.mem_cons_of_mem _ hu)) h
  simp only[List.zip_cons_cons,List.reverse_cons,Lk,ih,pC,val]
  rcases eW (val x) (val y)with⟨h1,e1⟩|⟨h1,e1⟩|⟨h1,e1⟩
  ·have:=Nat.mul_le_mul_left 1000000000 (Nat.succ_le_of_lt h1)
   rcases eW (a+1000000000*val x) (b+1000000000*val y)with⟨h2,e2⟩|⟨h2,e2⟩|⟨h2,e2⟩
   ·rw[e1,e2];rfl
   ·omega
   ·omega
  ·rw[e1,h1]
   rcases eW a b with⟨h2,e2⟩|⟨h2,e2⟩|⟨h2,e2⟩
   ·rcases eW (a+1000000000*val y) (b+1000000000*val y)with⟨h3,e3⟩|⟨h3,e3⟩|⟨h3,e3⟩
    ·rw[e2,e3];rfl
    ·omega
    ·omega
   ·subst h2
    rcases eW (a+1000000000*val y) (a+1000000000*val y)with⟨h3,e3⟩|⟨h3,e3⟩|⟨h3,e3⟩
    ·omega
    ·rw[e2,e3];rfl
    ·omega
   ·rcases eW (a+1000000000*val y) (b+1000000000*val y)with⟨h3,e3⟩|⟨h3,e3⟩|⟨h3,e3⟩
    ·omega
    ·omega
    ·rw[e2,e3];rfl
  ·have:=Nat.mul_le_mul_left 1000000000 (Nat.succ_le_of_lt h1)
   rcases eW (a+1000000000*val x) (b+1000000000*val y)with⟨h2,e2⟩|⟨h2,e2⟩|⟨h2,e2⟩
   ·omega
   ·omega
   ·rw[e1,e2];rfl
theorem Cy{x y:List Nat}(hx:mU x)(hy:mU y)(tx:PN x)(ty:PN y):FX x y=oV (val x) (val y):=by
 unfold FX;have key:∀{x y:List Nat},mU x->PN y->x.length<y.length->val x<val y:=by
  intro x y hx ty h;have hne:y≠[]:=λe=>by subst e;simp at h
  have h1:=Eh ty hne;have h2:=Ee hx;have h3:=Nat.pow_le_pow_right (n:=1000000000) (by omega) (show x.length<=y.length-1 by omega);omega
 rcases eW x.length y.length with⟨h,e⟩|⟨h,e⟩|⟨h,e⟩
 ·have h2:=key hx ty h;rcases eW (val x) (val y)with⟨h3,e3⟩|⟨h3,e3⟩|⟨h3,e3⟩
  ·rw[e,e3];rfl
  ·omega
  ·omega
 ·rw[e,if_neg (by simp)];exact Cx x y hx hy h
 ·have h2:=key hy tx h;rcases eW (val x) (val y)with⟨h3,e3⟩|⟨h3,e3⟩|⟨h3,e3⟩
  ·omega
  ·omega
  ·rw[e,e3];rfl
structure Big where
 below:Bool
 l:List Nat
def Big.trim(x:Big):Big:=⟨x.below&&!(eG x.l).isEmpty,eG x.l⟩
def Big.int(x:Big):Int:=if x.below then-(val x.l:Int)else val x.l
structure Big.Ok(x:Big):Prop where
 lim:mU x.l
 top:PN x.l
 sign:x.l=[]->x.below=false
theorem uH{x:Big}(h:mU x.l):x.trim.Ok:=⟨(iR x.l).2.2 h,(iR x.l).2.1,λe=>by simp only[Big.trim]at e⊢;simp[e]⟩
theorem qM(x:Big):x.trim.int=x.int:=by
 unfold Big.int Big.trim;have h:=(iR x.l).1;have h2:=AG (iR x.l).2.1;simp only[h];cases hb:x.below with
 |false=>simp
 |true=>
  cases he:eG x.l with
  |nil=>have:val x.l=0:=by rw[<-h,he];rfl
        simp[this]
  |cons _ _=>simp
def eL(a:aH):Big:=(⟨neg a,gY (dig a)⟩:Big).trim
def wU(x:Big):Big:=(⟨!x.below,x.l⟩:Big).trim
def Cf(x y:Big):Big:=
 if x.below=y.below then(⟨x.below,eU x.l y.l 0⟩:Big).trim
 else if 0<=FX x.l y.l then(⟨x.below,dY x.l y.l 0⟩:Big).trim
 else(⟨y.below,dY y.l x.l 0⟩:Big).trim
def tY(a b:aH):Int:=if goodN a&&goodN b then(let d:=Cf (eL a) (wU (eL b));if d.l=[]then 0 else if d.below then-1 else 1)else 0
def num(a:aH):Int:=if neg a then-(dec (dig a):Int)else dec (dig a)
theorem Ef{x y:List Nat}(hx:mU x)(ty:PN y)(h:val y<=val x):y.length<=x.length:=by
 rcases Nat.lt_or_ge x.length y.length with hl|hl
 ·have hne:y≠[]:=λe=>by subst e;simp at hl
  have h1:=Eh ty hne;have h2:=Ee hx;have h3:=Nat.pow_le_pow_right (n:=1000000000) (by omega) (show x.length<=y.length-1 by omega);omega
 ·exact hl
theorem MP{x y:Big}(hx:x.Ok)(hy:y.Ok):(Cf x y).int=x.int+y.int/\(Cf x y).Ok:=by
 unfold Cf;have hs:=Cy hx.lim hy.lim hx.top hy.top;by_cases h:x.below=y.below
 ·rw[if_pos h];refine⟨?_,uH (qX _ _ _ hx.lim hy.lim (by omega))⟩;rw[qM];unfold Big.int;rw[uM,<-h];cases x.below<;>simp;omega
 ·rw[if_neg h,hs];by_cases hc:val y.l<=val x.l
  ·have:0<=oV (val x.l) (val y.l):=by unfold oV;rw[if_neg (by omega)];split<;>omega
   rw[if_pos this];obtain⟨h1,h2⟩:=oG x.l y.l 0 hx.lim hy.lim (by omega) (by omega) (Ef hx.lim hy.top hc);refine⟨?_,uH h2⟩;rw[qM];unfold Big.int;rw[h1];cases hxb:x.below<;>cases hyb:y.below<;>simp_all<;>omega
  ·have:¬0<=oV (val x.l) (val y.l):=by unfold oV;rw[if_pos (by omega)];omega
   rw[if_neg this];obtain⟨h1,h2⟩:=oG y.l x.l 0 hy.lim hx.lim (by omega) (by omega) (Ef hy.lim hx.top (by omega));refine⟨?_,uH h2⟩;rw[qM];unfold Big.int;rw[h1];cases hxb:x.below<;>cases hyb:y.below<;>simp_all<;>omega
theorem fF{a:aH}(h:goodN a=true):1<=(dig a).length/\(dig a).length<=100/\((dig a).head?=some 48->a=[48])/\(dig a).all isDig=true:=by
 simp only[goodN,Bool.and_eq_true,Bool.or_eq_true,decide_eq_true_eq,Bool.not_eq_true',beq_eq_false_iff_ne,ne_eq]at h;obtain⟨⟨⟨h1,h2⟩,h3⟩,h4⟩:=h;exact⟨h1,h2,λe=>h3.resolve_left (λh=>h e),h4⟩
theorem CJ{a:aH}(h:goodN a=true):(eL a).int=num a/\(eL a).Ok:=by
 obtain⟨_,_,_,h4⟩:=fF h;obtain⟨h5,h6⟩:=nS _ (dig a) (Nat.le_refl _) h4;refine⟨?_,uH h6⟩;unfold eL;rw[qM];unfold Big.int num;rw[h5]
theorem Lb{x:Big}(h:x.Ok):(wU x).int=-x.int/\(wU x).Ok:=by
 refine⟨?_,uH h.lim⟩;unfold wU;rw[qM];unfold Big.int;cases x.below<;>simp
theorem Kb{a b:aH}(ha:goodN a=true)(hb:goodN b=true)(h:num a=num b):a=b:=by
 obtain⟨a1,_,a3,a4⟩:=fF ha;obtain⟨b1,_,b3,b4⟩:=fF hb;have hdig:∀{a:aH},neg a=true->a=45::dig a:=by
  intro a h;cases a with
  |nil=>simp[neg]at h
  |cons c d=>simp only[neg,List.head?_cons,beq_iff_eq,Option.some.injEq]at h;subst h;simp[dig]
 have hdig0:∀{a:aH},neg a=false->dig a=a:=by
  intro a h;cases a with
  |nil=>rfl
  |cons c d=>
   have:c≠45:=λe=>by subst e;simp[neg]at h
   simp[dig,this]
 have hn48:neg [48]=false:=by decide
 have hd48:dig [48]=[48]:=by decide
 have key:dec (dig a)=dec (dig b)->dig a=dig b:=KF a4 b4 (λe=>by rw[a3 e,hd48]) (λe=>by rw[b3 e,hd48]) (λe=>by rw[e]at a1;simp at a1) (λe=>by rw[e]at b1;simp at b1);have hpos:∀{a:aH},goodN a=true->neg a=true->0<dec (dig a):=by
  intro a ha hn;obtain⟨h1,_,h3,h4⟩:=fF ha;cases hd:dig a with
  |nil=>rw[hd]at h1;simp at h1
  |cons c d=>
   have hc:c≠48:=λe=>by
    have:=h3 (by rw[hd,e];rfl);rw[this,hn48]at hn;cases hn
   rw[hd]at h4;simp only[List.all_cons,Bool.and_eq_true]at h4;have:=Ju (d:=d) h4.1 hc;have hp:0<10^d.length:=Nat.pow_pos (by omega);omega
 unfold num at h;cases hna:neg a with
 |true=>
  cases hnb:neg b with
  |true=>
   rw[hna,hnb]at h;simp only[if_true]at h;rw[hdig hna,hdig hnb,key (by omega)]
  |false=>
   rw[hna,hnb]at h;have:=hpos ha hna;simp at h;omega
 |false=>
  cases hnb:neg b with
  |true=>
   rw[hna,hnb]at h;have:=hpos hb hnb;simp at h;omega
  |false=>
   rw[hna,hnb]at h;simp only[Bool.false_eq_true,if_false]at h;have:=key (by omega);rwa[hdig0 hna,hdig0 hnb]at this
end
end Go.Num
namespace Go.Eng
section
open Go Go.Num
variable{w:World}{K:Value->World->Prop}{cs:List Value}{G:Nat->Prop}{T:TypeId}{i:Nat}{n:Nat}{v:Value}{w':World}{P:Program}{c:UInt8}{S:Nat->Prop}
mutual
def lA:JV->Bool
 |.mk k _ _ xs _=> !decide (k=1)&&wC xs
def wC:List JV->Bool
 |[]=>true
 |x::xs=>lA x&&wC xs
end
mutual
def mD:JV->Int
 |.mk _ _ _ xs _=>gP xs 1
def gP:List JV->Int->Int
 |[],n=>n
 |x::xs,n=>if n<=2000 then gP xs (IntKind.i64.wrap (n+mD x))else n
end
mutual
def mK:JV->Nat->Bool
 |.mk _ _ _ xs _,m=>match m with|0=>false|m+1=>vR xs m
def vR:List JV->Nat->Bool
 |[],_=>true
 |x::xs,m=>mK x m&&vR xs m
end
def fK:List aH->Bool
 |[]=>true
 |[a]=>decide (a.length<=16384)
 |a::b::r=>decide (a.length<=16384)&&Op.bytesLess a b&&fK (b::r)
def kH(k:Int)(b:Bool)(t:aH)(n:Nat)(ks:List aH):Bool:=
 decide (0<=k)&&decide (k<=6)&&(!b||decide (k=2))&&(decide (t=[])||decide (k=3)||decide (k=4))&&(decide (n=0)||decide (5<=k))&&(decide (k=6)||decide (ks=[]))&&
  (!decide (k=3)||goodN t)&&(!decide (k=4)||decide (t.length<=16384))&&(!decide (k=6)||decide (ks.length=n))&&fK ks
mutual
def oC:JV->Bool
 |.mk k b t xs ks=>kH k b t xs.length ks&&lQ xs
def lQ:List JV->Bool
 |[]=>true
 |x::xs=>oC x&&lQ xs
end
def cU(v:JV):Bool:=decide (mD v<=2000)&&mK v 24&&oC v
mutual
def zO:JV->JV->Bool
 |.mk k b t xs ks,.mk k' b' t' xs' ks'=>decide (k=k')&&decide (b=b')&&decide (t=t')&&decide (ks=ks')&&pD xs xs'
def pD:List JV->List JV->Bool
 |[],[]=>true
 |x::xs,y::ys=>zO x y&&pD xs ys
 |_,_=>false
end
mutual
theorem same_iff:∀(a b:JV),zO a b=true↔a=b
 |.mk k b t xs ks,.mk k' b' t' xs' ks'=>by
  have:=qU xs xs'
  simp only[zO,Bool.and_eq_true,decide_eq_true_eq,this,JV.mk.injEq]
  constructor
  ·rintro⟨⟨⟨⟨h1,h2⟩,h3⟩,h4⟩,h5⟩;exact⟨h1,h2,h3,h5,h4⟩
  ·rintro⟨h1,h2,h3,h5,h4⟩;exact⟨⟨⟨⟨h1,h2⟩,h3⟩,h4⟩,h5⟩
theorem qU:∀(a b:List JV),pD a b=true↔a=b
 |[],[]=>by simp[pD]
 |[],_::_=>by simp[pD]
 |_::_,[]=>by simp[pD]
 |x::xs,y::ys=>by simp[pD,same_iff x y,qU xs ys]
end
theorem Ls:∀{xs ys:List JV},xs.length≠ys.length->pD xs ys=false:=by
 intro xs ys h;cases hs:pD xs ys with
 |false=>rfl
 |true=>exact absurd (by rw[(qU _ _).1 hs]) h
def Ao(a b:Int):Int:=if a<b then-1 else if b<a then 1 else 0
def Cj(a b:aH):Int:=if Op.bytesLess a b then-1 else if a=b then 0 else 1
def xY(b:Bool):Int:=if b then 1 else 0
def NH(a b:Int):Int:=if a=0 then b else a
def vS:List aH->List aH->Int
 |[],[]=>0
 |[],_::_=>-1
 |_::_,[]=>1
 |a::r,b::s=>NH (Cj a b) (vS r s)
mutual
def Jy:JV->JV->Int
 |.mk k b t xs ks,v=>
  NH (Ao k v.k) (if k=2 then Ao (xY b) (xY v.b)
  else if k=3 then tY t v.t
  else if k=4 then Cj t v.t
  else NH (vS ks v.ks) (cmpL xs v.xs))
def cmpL:List JV->List JV->Int
 |[],[]=>0
 |[],_::_=>-1
 |_::_,[]=>1
 |x::xs,y::ys=>NH (Jy x y) (cmpL xs ys)
end
theorem GR(a:aH):Op.bytesLess a a=false:=by
 induction a with
 |nil=>rfl
 |cons x a ih=>simp[Op.bytesLess,ih]
theorem iZ{k:Int}{b:Bool}{t:aH}{ks:List aH}(h:kH k b t n ks=true):
  0<=k/\k<=6/\(b=true->k=2)/\(t≠[]->k=3\/k=4)/\(n≠0->5<=k)/\(ks≠[]->k=6)/\(k=3->goodN t=true)/\(k=4->t.length<=16384)/\(k=6->ks.length=n)/\fK ks=true:=by
 simp only[kH,Bool.and_eq_true,Bool.or_eq_true,decide_eq_true_eq,Bool.not_eq_true',decide_eq_false_iff_not]at h;obtain⟨⟨⟨⟨⟨⟨⟨⟨⟨h1,h2⟩,h3⟩,h4⟩,h5⟩,h6⟩,h7⟩,h8⟩,h9⟩,h10⟩:=h;refine⟨h1,h2,λe=>?_,λe=>?_,λe=>?_,λe=>?_,λe=>?_,λe=>?_,λe=>?_,h10⟩
 ·rcases h3 with h3|h3
  ·rw[e]at h3;cases h3
  ·exact h3
 ·rcases h4 with(h4|h4)|h4
  ·exact absurd h4 e
  ·exact .inl h4
  ·exact .inr h4
 ·exact h5.resolve_left e
 ·exact h6.resolve_right e
 ·exact h7.resolve_left λh=>h e
 ·exact h8.resolve_left λh=>h e
 ·exact h9.resolve_left λh=>h e
theorem JV.ind'{p:JV->Prop}(h:∀v,(∀x∈v.xs,p x)->p v)(v:JV):p v:=JV.ind (λk b t xs ks ih=>h (.mk k b t xs ks) ih) v
theorem LJ(v:JV):lA v=(!decide (v.k=1)&&wC v.xs):=by cases v;rfl
theorem qS(v:JV):mD v=gP v.xs 1:=by cases v;rfl
theorem oN(v:JV):mK v 0=false:=by cases v;rfl
theorem kI(v:JV)(m:Nat):mK v (m+1)=vR v.xs m:=by cases v;rfl
theorem jH(v:JV):oC v=(kH v.k v.b v.t v.xs.length v.ks&&lQ v.xs):=by cases v;rfl
theorem Nk(a b:JV):zO a b=(decide (a.k=b.k)&&decide (a.b=b.b)&&decide (a.t=b.t)&&decide (a.ks=b.ks)&&pD a.xs b.xs):=by cases a;cases b;rfl
theorem TH(a v:JV):Jy a v=NH (Ao a.k v.k) (if a.k=2 then Ao (xY a.b) (xY v.b)else if a.k=3 then tY a.t v.t else if a.k=4 then Cj a.t v.t else NH (vS a.ks v.ks) (cmpL a.xs v.xs)):=by cases a;rfl
theorem IV(xs:List JV):wC xs=xs.all lA:=by
 induction xs with
 |nil=>rfl
 |cons x xs ih=>simp[wC,ih]
theorem kN(xs:List JV)(m:Nat):vR xs m=xs.all (mK · m):=by
 induction xs with
 |nil=>rfl
 |cons x xs ih=>simp[vR,ih]
theorem rW(xs:List JV):lQ xs=xs.all oC:=by
 induction xs with
 |nil=>rfl
 |cons x xs ih=>simp[lQ,ih]
theorem rP{α:Type}{p:α->Bool}{xs:List α}{x:α}(hi:xs[i]?=some x):(xs.take (i+1)).all p=((xs.take i).all p&&p x):=by
 rw[List.take_add_one,hi];simp
theorem Zv{α:Type}{p:α->Bool}{xs:List α}{x:α}(hi:xs[i]?=some x)(h:p x=false):xs.all p=false:=by
 rw[List.all_eq_false];exact⟨x,List.mem_of_getElem? hi,by simp[h]⟩
def rH:List aH->aH->Option Nat
 |[],_=>none
 |a::r,k=>if a=k then some 0 else(rH r k).map (· +1)
theorem rG{ks:List aH}{k:aH}(h:rH ks k=some i):ks[i]?=some k:=by
 induction ks generalizing i with
 |nil=>cases h
 |cons a r ih=>
  simp only[rH]at h;split at h
  ·rename_i e;cases h;simp[e]
  ·rw[Option.map_eq_some_iff]at h;obtain⟨j,hj,rfl⟩:=h;simpa using ih hj
theorem uW{ks:List aH}{k:aH}:rH ks k=none↔k∉ks:=by
 induction ks with
 |nil=>simp[rH]
 |cons a r ih=>
  simp only[rH,List.mem_cons,not_or];split
  ·rename_i e;simp[e]
  ·rename_i e;simp only[Option.map_eq_none_iff,ih];exact⟨λh=>⟨λe'=>e e'.symm,h⟩,λh=>h.2⟩
def tO(v:JV)(k:aH):Option JV:=if v.k=6 then(match rH v.ks k with|some i=>v.xs[i]?|none=>none)else none
def kB(l:List (aH×JV))(k:aH):List (aH×JV):=l.filter λp=> !decide (p.1=k)
def mA(l:List (aH×JV)):JV:=.mk 6 false [] (l.map (·.2)) (l.map (·.1))
def insP:List (aH×JV)->aH->JV->List (aH×JV)
 |[],k,x=>[(k,x)]
 |(a,y)::r,k,x=>if Op.bytesLess k a then(k,x)::(a,y)::r else(a,y)::insP r k x
def rV(v:JV)(k:aH)(x:JV):JV:=if v.k=6 then mA (insP (kB (v.ks.zip v.xs) k) k x)else mA [(k,x)]
theorem Qh{α:Type}[DecidableEq α]{a b:List α}{x y:α}(hx:a[i]?=some x)(hy:b[i]?=some y)(h:x≠y):a≠b:=by
 rintro rfl;rw[hx]at hy;cases hy;exact h rfl
theorem JN{α:Type}{a b:List α}{x:α}(h:a.take i=b.take i)(hx:a[i]?=some x)(hy:b[i]?=some x):a.take (i+1)=b.take (i+1):=by
 rw[List.take_add_one,List.take_add_one,h,hx,hy]
theorem Iz{xs ys:List JV}(hl:xs.length=ys.length){x y:JV}(hx:xs[i]?=some x)(hy:ys[i]?=some y)(h:zO x y=false):pD xs ys=false:=by
 cases hs:pD xs ys with
 |false=>rfl
 |true=>
  have:=(qU _ _).1 hs;subst this;rw[hx]at hy;cases hy;rw[(same_iff x x).2 rfl]at h;cases h
end
section
open Go
variable{w:World}{K:Value->World->Prop}{cs:List Value}{G:Nat->Prop}{T:TypeId}{i:Nat}{n:Nat}{v:Value}{w':World}{P:Program}{c:UInt8}{S:Nat->Prop}
theorem fN{t e:TypeId}{size bytes:Nat}(hT:mM P t e size bytes){base:Nat}{x:Value}{m:Nat}{xs news:List Value}{ty:TypeId}
  (hown:Own w base e size v n xs)(hx:SlAt w T x m news)(hl:news.length=m*size)(h1:∀u∈news,cY u=true)(hlen:n+m<=4611686018427387904)(hb:(n+m)*bytes<=140737488355328)(hbase:base<=w.heap.size)
  (hK:∀v' w',Own w' base e size v' (n+m) (xs++news)->aS (λk=>v.ownBlock=some k) w w'->(∀k,v'.ownBlock=some k->v.ownBlock=some k\/w.heap.size<=k)->K v' w'):
  bP P (Builtin.append_ #[t,t] ty #[v,x]) w K:=by
 obtain⟨i,z,hi,hz,h2,h3,h4⟩:=hT.get;have hsame:∀{K':Value->World->Prop},bP P (Builtin.append_ #[t,t] ty #[v,x]) w K'->∃v' w',(Builtin.append_ #[t,t] ty #[v,x]).run P w=.ok v' w'/\K' v' w':=by
  intro K' h;unfold bP at h;split at h
  ·rename_i v' w' hr;exact⟨v',w',hr,h⟩
  ·exact h.elim
 obtain⟨v1,w1,hr1,hO1,hc1,hn1⟩:=hsame (gN hT hown hx hl h1 hlen hb hbase λv' w' a b c=>(⟨a,b,c⟩:Own w' base e size v' (n+m) (xs++news)/\aS (λk=>v.ownBlock=some k) w w'/\(v'=.slice none 0 0↔v=.slice none 0 0/\m=0)));unfold bP;rw[hr1];refine hK v1 w1 hO1 hc1 ?_;obtain⟨hl',⟨rfl,rfl⟩|⟨g,cap,bO,rfl,hbg,hg,hnc,hcm,hcs,htake⟩⟩:=hown
 ·have hnil:xs=[]:=List.eq_nil_of_length_eq_zero (by simpa using hl');subst hnil;obtain⟨v2,w2,hr2,hO2⟩:=hsame (gN hT (base:=w.heap.size) (show Own w w.heap.size e size (.slice none 0 0) 0 []from⟨by simp,.inl ⟨rfl,rfl⟩⟩) hx hl h1 hlen hb (Nat.le_refl _) λv' w' a _ _=>a);rw[hr1]at hr2;cases hr2;intro k hk;exact .inr (hO2.block k hk).1
 ·obtain⟨p,c,rfl,_,hpn,hcells⟩:=hx;cases p with
  |none=>
   obtain⟨rfl,rfl⟩:=hpn rfl;intro k hk;have hn:news=[]:=List.eq_nil_of_length_eq_zero (by simpa using hl);subst hn;have hr:(Builtin.append_ #[t,t] ty #[.slice (some ⟨g,0,none⟩) n cap,.slice none 0 0]).run P w=.ok (.slice (some ⟨g,0,none⟩) n cap) w:=by
    simp[Builtin.append_,run_bind,aJ hT.und,dL (show(P.info? e).isSome=true by rw[hi];rfl),Builtin.lenOf,run_pure,Builtin.firstCells,hnc,storeCells]
   rw[hr1]at hr;cases hr;exact .inl hk
  |some a=>
   have hcell:∀j u,news[j]?=some u->w.cell? (a.add j)=some u:=by
    intro j u hu;have hne:news≠[]:=λe=>by subst e;simp at hu
    obtain⟨b,off,c',fr,hp,hb',hcs'⟩:=hcells hne;cases hp;rw[aV,aX,hb',aZ,hcs' j (List.getElem?_eq_some_iff.1 hu).1,hu]
   subst h2;by_cases hroom:n+m<=cap
   ·have hfit:n*i.size+news.length<=bO.size:=by rw[hl,hcs,<-Nat.add_mul];exact Nat.mul_le_mul_right _ hroom
    have hr:=run_append_room (P:=P) w t ty e i hT.und hi g n cap bO hg a m c news hl hcell (λu hu=>qC (h1 u hu)) hroom hfit;rw[hr1]at hr;cases hr;intro k hk;exact .inl (by simpa[Value.ownBlock]using hk)
   ·have holds:∀j u,xs[j]?=some u->w.cell? ((⟨g,0,none⟩:Addr).add j)=some u:=World.ownsRow.cells (base:=base) (e:=e) (size:=i.size) (v:=.slice (some ⟨g,0,none⟩) n cap) (n:=n) ⟨hl',.inr ⟨g,cap,bO,rfl,hbg,hg,hnc,hcm,hcs,htake⟩⟩ rfl;have hr:=run_append_grow (P:=P) w t ty e i z hT.und hi hz ⟨g,0,none⟩ n cap xs hl' holds a m c news hl hcell (by omega) (by omega) (growslice_fits (by omega) (by rw[h3];exact hb));rw[hr1]at hr;cases hr;intro k hk;right;simp[Value.ownBlock]at hk;omega
theorem kE(c:Bool)(u v:Value)(w:World)(B:List Value->Fr->World->Prop):cX c [u] w (λJ=>J [v] w) B↔∀g,B [bif c then v else u] g w:=by
 constructor
 ·rintro⟨J,h1,h2,h3⟩ g;cases c with
  |true=>exact h3 _ g _ (h1 rfl)
  |false=>exact h3 _ g _ (h2 rfl)
 ·intro h;refine⟨λs w'=>s=[bif c then v else u]/\w'=w,λhc=>⟨by rw[hc];rfl,rfl⟩,λhc=>⟨by rw[hc];rfl,rfl⟩,?_⟩;rintro s g w' ⟨rfl,rfl⟩;exact h g
theorem FG(g e f:Bool)(w:World)(B:List Value->Fr->World->Prop):
  cX g [undef] w (λJ=>bG (bif g then .bool e else undef) (bif (g&&e)then .bool f else undef) (.bool false) λt=>J [t] w) B↔∀h,B [bif g then .bool (e&&f)else undef] h w:=by
 cases g with
 |true=>
  rw[<-kE];cases e<;>exact Iff.rfl
 |false=>
  constructor
  ·rintro⟨J,_,h2,h3⟩ h;exact h3 _ h _ (h2 rfl)
  ·intro h;exact cX.f h
theorem Ic(g e f:Bool)(w:World)(B:List Value->Fr->World->Prop):
  cX g [undef] w (λJ=>bG (bif g then .bool e else undef) (.bool true) (bif (g&&!e)then .bool f else undef) λt=>J [t] w) B↔∀h,B [bif g then .bool (e||f)else undef] h w:=by
 cases g with
 |true=>
  rw[<-kE];cases e<;>exact Iff.rfl
 |false=>
  constructor
  ·rintro⟨J,_,h2,h3⟩ h;exact h3 _ h _ (h2 rfl)
  ·intro h;exact cX.f h
theorem cW(c e:Bool)(K:Value->Prop):bG (.bool c) (bif c then .bool e else undef) (.bool false) K↔K (.bool (c&&e)):=by cases c<;>exact Iff.rfl
theorem dD(c e:Bool)(K:Value->Prop):bG (.bool c) (.bool true) (bif !c then .bool e else undef) K↔K (.bool (c||e)):=by cases c<;>exact Iff.rfl
theorem OE(c e:Bool):eD (bif c then .bool e else undef) true=(c&&e):=by cases c<;>cases e<;>rfl
theorem OF(c e:Bool):eD (bif c then .bool e else undef) false=(c&&!e):=by cases c<;>cases e<;>rfl
theorem cX.look{c:Bool}{A:(List Value->World->Prop)->Prop}{B:List Value->Fr->World->Prop}(e:Bool)(h1:c=true->∀J:List Value->World->Prop,J [.bool e] w->A J)(h2:∀g,B [bif c then .bool e else undef] g w):cX c [undef] w A B:=by
 refine⟨λs w'=>s=[bif c then .bool e else undef]/\w'=w,λhc=>h1 hc _ ⟨by rw[hc];rfl,rfl⟩,λhc=>⟨by rw[hc];rfl,rfl⟩,?_⟩;rintro s g w' ⟨rfl,rfl⟩;exact h2 g
theorem cX.act{c:Bool}{A:(List Value->World->Prop)->Prop}{B:List Value->Fr->World->Prop}(e:Bool)(R:World->Prop)(h0:c=false->R w)(h1:c=true->∀J:List Value->World->Prop,(∀w',R w'->J [.bool e] w')->A J)(h2:∀g w',R w'->B [bif c then .bool e else undef] g w'):cX c [undef] w A B:=by
 refine⟨λs w'=>s=[bif c then .bool e else undef]/\R w',λhc=>h1 hc _ λw' hR=>⟨by rw[hc];rfl,hR⟩,λhc=>⟨by rw[hc];rfl,h0 hc⟩,?_⟩;rintro s g w' ⟨rfl,hR⟩;exact h2 g w' hR
theorem Wy(A:(Value->Prop)->Prop)(B:Value->Prop):Cd false A B↔B undef:=by
 constructor
 ·rintro⟨v,_,h,hb⟩;rw[<-h rfl];exact hb
 ·intro h;exact⟨undef,(λe=>by cases e),λ_=>rfl,h⟩
theorem PK(A:(Value->Prop)->Prop)(B:Value->Prop):Cd true A B↔∃v,A (λx=>x=v)/\B v:=by
 constructor
 ·rintro⟨v,h,_,hb⟩;exact⟨v,h rfl,hb⟩
 ·rintro⟨v,h,hb⟩;exact⟨v,λ_=>h,(λe=>by cases e),hb⟩
theorem vU(u:List Value)(w:World)(A:(List Value->World->Prop)->Prop)(B:List Value->Fr->World->Prop):cX false u w A B↔∀g,B u g w:=by
 constructor
 ·rintro⟨J,_,h2,h3⟩ g;exact h3 _ g _ (h2 rfl)
 ·intro h;exact cX.f h
theorem OD(c:Bool):eD undef c=false:=rfl
theorem Wn(a b:Bool)(K:Value->Prop):tR .bool false (.bool a) (.bool b) K↔K (.bool (a==b)):=by simp[tR]
theorem aBr(a b:Bool)(K:Value->Prop):tR .bool true (.bool a) (.bool b) K↔K (.bool (!(a==b))):=by simp[tR]
theorem aQ(b:Bool)(A B:Prop):aD (.bool b) A B↔(b=true->A)/\(b=false->B):=Iff.rfl
def aAZ:=And.intro @bI<|And.intro @Qv<|And.intro @bN<|And.intro @cG<|And.intro @qW<|And.intro @Et<|And.intro @dU<|And.intro @aW<|And.intro @iM<|And.intro @Fy<|
 And.intro @Fw<|And.intro @AD<|And.intro @aM<|And.intro @dG<|And.intro @cA<|And.intro @pU<|And.intro @iN<|And.intro @gR<|And.intro @lH<|And.intro @nK<|And.intro @sJ<|
 And.intro @TO<|And.intro @TR<|And.intro @KO<|And.intro @TP<|And.intro @bX<|And.intro @aO<|And.intro @bY<|And.intro @SA<|And.intro @NJ<|And.intro @Sx<|And.intro @Ly<|
 And.intro @Sy<|And.intro @Sz<|And.intro @aK<|And.intro @lU<|And.intro @SV<|And.intro @EI<|And.intro @dI<|And.intro @uU<|And.intro @cJ<|And.intro @MD<|And.intro @jJ<|
 And.intro @SH<|And.intro @SJ<|And.intro @cZ<|And.intro @cO<|And.intro @dP<|And.intro @iS<|And.intro @oD<|And.intro @bZ @bJ
def aA3:=And.intro @OD<|And.intro @Wy<|And.intro @PK<|And.intro @vU<|And.intro @kE<|And.intro @FG<|And.intro @Ic<|And.intro @cW<|And.intro @dD<|And.intro @OE<|And.intro @OF<|And.intro @eH @iB
def aA2:=And.intro @aV<|And.intro @aX<|And.intro @aZ<|And.intro @iG<|And.intro @mG<|And.intro @heap_drew @size_drew
def aA1:=And.intro @true_and<|And.intro @and_true<|And.intro @Bool.and_true<|And.intro @Bool.and_false<|And.intro @Bool.true_and<|And.intro @Bool.false_and<|And.intro @Bool.or_true<|
 And.intro @Bool.or_false<|And.intro @Bool.true_or<|And.intro @Bool.false_or<|And.intro @Bool.not_true @Bool.not_false
theorem cP:type_of%aAZ:=aAZ
theorem cS:type_of%aA3:=aA3
theorem bT:type_of%aA2:=aA2
theorem cR:type_of%aA1:=aA1
universe u
def aA0:=And.intro @Option.some.injEq.{u}<|And.intro @Option.isSome_some.{u}<|And.intro @List.getElem?_toArray.{u}<|And.intro @List.getElem?_cons_zero.{u}<|And.intro @List.getElem?_cons_succ.{u}<|And.intro @List.length_cons.{u}<|And.intro @List.length_nil.{u}<|And.intro @List.set_cons_zero.{u}<|And.intro @List.set_cons_succ.{u}<|And.intro @List.getD_cons_zero.{u}<|And.intro @List.getD_cons_succ.{u}<|And.intro @Nat.zero_add @Nat.add_zero
theorem cQ:type_of%aA0.{u}:=aA0.{u}
end
end Go.Eng
namespace Go.Proofs.YtghhmpppnmoeoaaGreatDoor
section
open Go Go.Eng
variable{w:World}{K:Value->World->Prop}{cs:List Value}{G:Nat->Prop}{T:TypeId}{i:Nat}{n:Nat}{v:Value}{w':World}{P:Program}{c:UInt8}{S:Nat->Prop}
theorem mixed:Tryz.prog.follows .mixedOrders=true:=by kernel_rfl
end
end Go.Proofs.YtghhmpppnmoeoaaGreatDoor
namespace Go.Eng
section
open Go
variable{w:World}{K:Value->World->Prop}{cs:List Value}{G:Nat->Prop}{T:TypeId}{i:Nat}{n:Nat}{v:Value}{w':World}{P:Program}{c:UInt8}{S:Nat->Prop}
section
variable{P:Program}
def sU(P:Program)(g:FuncId)(caps:List Value)(u:FrameMode)(w:World)(K:World->Prop):Prop:=
 CallsD P g caps.toArray u w λe u' w'=>(∃v,e=.returned v)/\settle u'=.returning/\K w'
def Hy:List Oper->Option (Nat×FuncId×List Operand)
 |[o1,o2]=>
  match o1.guard,o2.guard,o1.dst,o1.op,o2.dst,o2.op with
  |none,none,some t,.makeFunc (.func g) first caps,none,.defer c=>
   match first.toList,c.callee,c.args.toList with
   |[],.value (.tmp t'),[]=>bif Nat.beq t t' then some (t,g,caps.toList)else none
   |_,_,_=>none
  |_,_,_,_,_,_=>none
 |_=>none
def Lu(P:Program)(fn:Func)(R:Ending->World->Prop)(f:Fr)(w:World):Prop:=Ak P fn.results.toList f w λl=>R (.returned (one l)) w
def HF(P:Program)(pl:bC)(fn:Func)(R:Ending->World->Prop):Nat->Code->Nat->Fr->World->Prop
 |0,.seq (.region _ ops _) b,i,f,w=>
  match Hy ops.toList with
  |some (t,g,caps)=>
   @kO ⟨λch w'=>sU P g (caps.map (ev f)) (.panicking ch) w' λw''=>Lu P fn R f w''⟩ P pl b (i+2) (upd f (some t) (.func (.func g) #[] (caps.map (ev f)).toArray)) w
    (λf' w'=>sU P g (caps.map (ev f)) .returning w' λw''=>Lu P fn R f' w'') (λ_ _ _=>False) (λf' w'=>sU P g (caps.map (ev f)) .returning w' λw''=>Lu P fn R f' w'')
  |none=>False
 |k+1,.seq a b,i,f,w=>@kO ⟨λch w'=>R (.panicked ch) w'⟩ P pl a (i+1) f w (λf' w'=>HF P pl fn R k b (i+1+pI a) f' w') (λ_ _ _=>False) (λf' w'=>Lu P fn R f' w')
 |_,_,_,_,_=>False
def aBa(lo t:Nat):ResultVar->Bool
 |.tmp x=>Nat.blt x lo&&!(Nat.beq x t)
 |.cell x _=>Nat.blt x lo&&!(Nat.beq x t)
def HH(P:Program)(fn:Func)(pl:bC)(lo gd:Nat):Nat->Code->Nat->Bool
 |0,.seq (.region _ ops draw) b,i=> !draw&&(lk pl.js i).isNone&&
  (match Hy ops.toList with
  |some (t,g,_)=>Nat.blt t fn.ntmps&&Nat.beq g gd&&fn.results.toList.all (aBa lo t)&&Ck P fn.ntmps pl [] lo b (i+2)
  |none=>false)
 |k+1,.seq a b,i=>(lk pl.js i).isNone&&Ck P fn.ntmps pl [] 0 a (i+1)&&HH P fn pl lo gd k b (i+1+pI a)
 |_,_,_=>false
theorem Ox{agg:Bool}{x:Value}{K K':Value->Prop}(hk:∀v,K v->K' v)(h:aE agg n x w K):aE agg n x w K':=by
 cases x with
 |pointer a=>
  cases a with
  |none=>exact h
  |some a=>
   cases agg with
   |true=>obtain⟨l,h1,h2⟩:=h;exact⟨l,h1,hk _ h2⟩
   |false=>obtain⟨l,h1,h2⟩:=h;exact⟨l,h1,hk _ h2⟩
 |_=>exact h
theorem yF{f f':Fr}{w:World}:∀{l:List ResultVar} {K:List Value->Prop},(∀t,(∃r∈l,r=.tmp t\/∃T,r=.cell t T)->f t=f' t)->Ak P l f w K->Ak P l f' w K
 |[],_,_,h=>h
 |r::l,K,h,hk=>by
  have hl:∀t,(∃r∈l,r=.tmp t\/∃T,r=.cell t T)->f t=f' t:=λt ⟨r',hr,e⟩=>h t ⟨r',List.mem_cons_of_mem _ hr,e⟩
  cases r with
  |tmp t=>simp only[Ak]at hk⊢;rw[<-h t ⟨_,List.mem_cons_self,.inl rfl⟩];exact yF hl hk
  |cell t T=>
   simp only[Ak]at hk⊢
   rw[<-h t ⟨_,List.mem_cons_self,.inr ⟨T,rfl⟩⟩]
   obtain⟨h1,h2⟩:=gL.out hk
   rw[h1]
   exact Ox (λv hv=>yF hl hv) h2
theorem tT{fn:Func}{R:Ending->World->Prop}{g:FuncId}{caps:List Value}{u:FrameMode}{f:Fr}{a:Act}(hr:∀(ar:Array Value) (w:World),(callFunc g ar).run P w=.ok (.enter g ar) w)(hu:u≠.run)
  (ha:∀t,(∃r∈fn.results.toList,r=.tmp t\/∃T,r=.cell t T)->f t=a.tmps.getD t undef)(h:sU P g caps u w λw''=>Lu P fn R f w''):
  Leaves P fn a.tmps R [{target:=.fn (.func g) caps.toArray,args:=#[]}] u w:=by
 refine leaves_cons (f:=g) (args:=caps.toArray) hu ?_ (h.mono ?_)
 ·have:=hr (#[]++caps.toArray) w;rw[show(#[]++caps.toArray:Array Value)=caps.toArray from by simp]at this;show(callFunc g (#[]++caps.toArray)).run P w=_;rw[show(#[]++caps.toArray:Array Value)=caps.toArray from by simp];exact this
 ·rintro e u' w' ⟨⟨v,rfl⟩,hs,hk⟩;show Leaves P fn a.tmps R [] (settle u') w';rw[hs];have hag:Ag a.tmps.size a.defers (λt=>a.tmps.getD t undef) a:=⟨rfl,rfl,λ_=>rfl⟩;letI:=noX;obtain⟨v',hk',hr'⟩:=pF (fn:=fn) (K:=λv=>R (.returned v) w') hag (yF ha hk);exact⟨v',hr',hk'⟩
theorem Jt{l:List Oper}{t:Nat}{g:FuncId}{caps:List Operand}(h:Hy l=some (t,g,caps)):∃o1 o2 first cp c,l=[o1,o2]/\o1.guard=none/\o2.guard=none/\o1.dst=some t/\o1.op=.makeFunc (.func g) first cp/\first=#[]/\cp.toList=caps/\o2.dst=none/\o2.op=.defer c/\c.callee=.value (.tmp t)/\c.args=#[]:=by
 unfold Hy at h;split at h
 ·rename_i o1 o2;split at h
  ·rename_i t' g' first cp c e1 e2 e3 e4 e5 e6
   split at h
   ·rename_i t'' h1 h2 h3;cases hb:Nat.beq t' t'' with
    |false=>rw[hb]at h;cases h
    |true=>
     rw[hb]at h;simp only[cond_true,Option.some.injEq,Prod.mk.injEq]at h;obtain⟨rfl,rfl,rfl⟩:=h;have:t'=t'':=Nat.eq_of_beq_eq_true hb;subst this;exact⟨o1,o2,first,cp,c,rfl,e1,e2,e3,e4,by simpa using h1,rfl,e5,e6,h2,by simpa using h3⟩
   ·cases h
  ·cases h
 ·cases h
theorem HE(hm:P.follows .mixedOrders=true){pl:bC}{fn:Func}{R:Ending->World->Prop}{lo gd:Nat}(hr:∀(ar:Array Value) (w:World),(callFunc gd ar).run P w=.ok (.enter gd ar) w):
  ∀(k:Nat) (c:Code) (i:Nat) (f:Fr) (a:Act) (w:World),HH P fn pl lo gd k c i=true->Ag fn.ntmps [] f a->HF P pl fn R k c i f w->c.wp P (bodyPostD P fn R) a w:=by
 intro k;induction k with
 |zero=>
  intro c i f a w hc hag h;cases c with
  |seq x b=>
   cases x with
   |region id ops draw=>
    simp only[HF]at h;simp only[HH,Bool.and_eq_true,Bool.not_eq_true']at hc;obtain⟨⟨hdr,hl⟩,hc⟩:=hc;cases hd:Hy ops.toList with
    |none=>simp only[hd]at h
    |some x=>
     obtain⟨t,g,caps⟩:=x;simp only[hd,Bool.and_eq_true]at h hc;obtain⟨⟨⟨ht,hg⟩,hres⟩,hchk⟩:=hc;obtain rfl:g=gd:=Nat.eq_of_beq_eq_true hg;obtain⟨o1,o2,first,cp,cl,hops,g1,g2,d1,p1,rfl,rfl,d2,p2,hcl,hca⟩:=Jt hd;subst hdr;refine wp_seq (wp_region_list ?_);have hops':ops=[o1,o2].toArray:=by rw[<-hops]
     subst hops';have htn:t<fn.ntmps:=by simpa using ht
     have hv:(cp.toList.map (ev f)).toArray=cp.map a.eval:=by
      rw[tQ hag];apply Array.ext';simp
     show wpList P [o1,o2].toArray _ [o1,o2] a w;letI:=noX;refine Ez (K:=λv w'=>v=.func (.func g) #[] (cp.toList.map (ev f)).toArray/\w'=w) hag (by simp[gC,g1]) ?_ ?_ (λ_ _ h=>h.elim)
     ·unfold FB;rw[p1];exact⟨rfl,rfl⟩
     ·rintro v w' ⟨rfl,rfl⟩;have hag1:=hag.put (d:=some t) (λx hx=>by cases hx;exact htn) (.func (.func g) #[] (cp.toList.map (ev f)).toArray);rw[d1];unfold wpList;rw[if_pos (by rw[wO hag1];simp[gC,g2])];refine .inl ?_;unfold Oper.wp;have hex:(execOp (a.put (some t) (.func (.func g) #[] (cp.toList.map (ev f)).toArray)).eval o2).run P w'=.ok (.defer {target:=.fn (.func g) (cp.toList.map (ev f)).toArray,args:=#[]}) w':=by
       rw[tQ hag1];unfold execOp;rw[p2];have e:ev (upd f (some t) (.func (.func g) #[] (cp.toList.map (ev f)).toArray)) (.tmp t)=.func (.func g) #[] (cp.toList.map (ev f)).toArray:=by
        simp[ev,jU]
       simp[resolve,hcl,hca,Deferred.ofValue,run_bind,run_pure,e]
      rw[hex,Oper.upon_defer,d2];clear hex;have hag2:Ag fn.ntmps [{target:=.fn (.func g) (cp.toList.map (ev f)).toArray,args:=#[]}] (upd f (some t) (.func (.func g) #[] (cp.toList.map (ev f)).toArray)) ({(a.put (some t) (.func (.func g) #[] (cp.toList.map (ev f)).toArray))with defers:={target:=.fn (.func g) (cp.toList.map (ev f)).toArray,args:=#[]}::(a.put (some t) (.func (.func g) #[] (cp.toList.map (ev f)).toArray)).defers}.put none undef):=by
       refine⟨?_,hag1.2.1,hag1.2.2⟩;show _::(a.put _ _).defers=_;rw[hag1.1]
      generalize ({(a.put (some t) (.func (.func g) #[] (cp.toList.map (ev f)).toArray))with defers:={target:=.fn (.func g) (cp.toList.map (ev f)).toArray,args:=#[]}::(a.put (some t) (.func (.func g) #[] (cp.toList.map (ev f)).toArray)).defers}.put none undef)=a2 at hag2⊢;show b.wp P (bodyPostD P fn R) a2 w';refine@pS ⟨λch w'=>sU P g (cp.toList.map (ev f)) (.panicking ch) w' λw''=>Lu P fn R f w''⟩ P fn.ntmps [{target:=.fn (.func g) (cp.toList.map (ev f)).toArray,args:=#[]}] pl hm b [] lo (i+2) _ a2 w' _ _ _ _ hchk hag2 h (λf' a' w' hag' _ hk=>?_) (λ_ _ _ _ _ _ hk=>hk.elim) (λf' a' w' hag' _ hk=>?_) (λch a' w' hd ht hx=>?_)
      ·show Leaves P fn a'.tmps R a'.defers .returning w';rw[hag'.1];exact tT hr (by simp) (λt _=>(hag'.2.2 t).symm) hk
      ·show Leaves P fn a'.tmps R a'.defers .returning w';rw[hag'.1];exact tT hr (by simp) (λt _=>(hag'.2.2 t).symm) hk
      ·show Leaves P fn a'.tmps R a'.defers (.panicking ch) w';rw[hd];refine tT (f:=f) hr (by simp) (λx hx'=>?_) hx;have hin:x<lo/\x≠t:=by
        obtain⟨r,hrm,hr'⟩:=hx';have:=List.all_eq_true.1 hres r hrm;have h2:(Nat.blt x lo&&!(Nat.beq x t))=true:=by
         rcases hr' with rfl|⟨T,rfl⟩
         ·exact this
         ·exact this
        simp only[Bool.and_eq_true,Bool.not_eq_true']at h2;refine⟨by simpa using h2.1,λe=>?_⟩;rw[e]at h2;have h3:=h2.2;rw[Nat.beq_refl]at h3;cases h3
       have hlt:Nat.ble lo x=false:=by
        cases hb:Nat.ble lo x with
        |false=>rfl
        |true=>exact absurd (Nat.lt_of_lt_of_le hin.1 (Nat.le_of_ble_eq_true hb)) (Nat.lt_irrefl _)
       rw[ht x (by unfold Dh;rw[hlt];rfl)];simp[jU,hin.2]
   |_=>simp[HH]at hc
  |_=>simp[HH]at hc
 |succ k ih=>
  intro c i f a w hc hag h;cases c with
  |seq x y=>
   simp only[HF]at h;simp only[HH,Bool.and_eq_true]at hc;obtain⟨⟨hl,hc1⟩,hc2⟩:=hc;refine wp_seq ?_;letI:HX:=⟨λch w'=>R (.panicked ch) w'⟩;refine pS hm x [] 0 (i+1) f a w _ _ _ _ hc1 hag h (λf' a' w' hag' _ h'=>ih y _ f' a' w' hc2 hag' h') (λ_ _ _ _ _ _ hk=>hk.elim) (λf' a' w' hag' _ hk=>?_) (λch a' w' hd _ hx=>?_)
   ·show Leaves P fn a'.tmps R a'.defers .returning w';rw[hag'.1];obtain⟨v',hk',hr'⟩:=pF (fn:=fn) (K:=λv=>R (.returned v) w') hag' hk;exact⟨v',hr',hk'⟩
   ·show Leaves P fn a'.tmps R a'.defers (.panicking ch) w';rw[hd];exact hx
  |_=>simp[HH]at hc
def OR(P:Program)(fn:Func)(pl:bC)(k:Nat)(args:List Value)(w:World)(R:Ending->World->Prop):Prop:=
 match fn.body with
 |some c=>HF P pl fn R k c 0 (Wl args) w
 |none=>False
def xO(P:Program)(fn:Func)(pl:bC)(lo gd k na:Nat):Bool:=
 match fn.body with
 |some c=>Nat.ble na fn.ntmps&&HH P fn pl lo gd k c 0
 |none=>false
theorem Ht{nt:Nat}{args:List Value}(hle:args.length<=nt):Ag nt [] (Wl args) {tmps:=args.toArray++Array.replicate (nt-args.toArray.size) undef,defers:=[]}:=by
 refine⟨rfl,by simp;omega,λt=>?_⟩;simp only[Array.getD_eq_getD_getElem?,Array.getElem?_append,List.size_toArray,List.getElem?_toArray,Array.getElem?_replicate,Wl,List.getD_eq_getElem?_getD];split
 ·rfl
 ·rename_i hlt;rw[List.getElem?_eq_none (by omega)];split<;>rfl
theorem Jj{g:FuncId}{fn:Func}{pl:bC}{args:List Value}{R:Ending->World->Prop}{lo gd k:Nat}(hm:P.follows .mixedOrders=true)(hf:P.funcs[g]?=some fn)(hr:∀(ar:Array Value) (w:World),(callFunc gd ar).run P w=.ok (.enter gd ar) w)
  (hc:xO P fn pl lo gd k args.length=true)(h:OR P fn pl k args w R):Calls P g args.toArray w R:=by
 unfold OR at h;unfold xO at hc;cases hb:fn.body with
 |none=>rw[hb]at h;exact h.elim
 |some c=>
  rw[hb]at h hc;simp only[Bool.and_eq_true]at hc;exact calls_of_wp_defers hf hb (HE hm hr k c 0 _ _ w hc.2 (Ht (Nat.le_of_ble_eq_true hc.1)) h)
theorem aA6[HX](P:Program)(g:FuncId)(fn:Func)(pl:bC)(args:List Value)(w:World)(K:Value->World->Prop)(lo gd k na:Nat)(X:Prop)(hk:args.length=na)(hm:P.follows .mixedOrders=true)(hf:P.funcs[g]?=some fn)
  (hc:xO P fn pl lo gd k na=true)(he:OR P fn pl k args w (Cp K)=X)(hr:∀(az:Array Value) (w:World),(callFunc g az).run P w=.ok (.enter g az) w)(hrd:∀(ar:Array Value) (w:World),(callFunc gd ar).run P w=.ok (.enter gd ar) w)(h:X):aA P g args w K:=by
 unfold aA;rw[hr];exact Jj hm hf hrd (by rw[hk];exact hc) (by rw[he];exact h)
end
section
variable{P:Program}
def Gr:List Oper->Option (Nat×Nat)
 |[o1,o2]=>
  match o1.guard,o2.guard,o1.dst,o1.op,o2.dst,o2.op with
  |none,none,some t,.call c,some t2,.assign (.tmp t')=>
   match c.callee,c.args.toList with
   |.builtin .recover,[]=>bif Nat.beq t t' then some (t,t2)else none
   |_,_=>none
  |_,_,_,_,_,_=>none
 |_=>none
theorem IF{l:List Oper}{t t2:Nat}(h:Gr l=some (t,t2)):∃o1 o2 c,l=[o1,o2]/\o1.guard=none/\o2.guard=none/\o1.dst=some t/\o1.op=.call c/\o2.dst=some t2/\o2.op=.assign (.tmp t)/\c.callee=.builtin .recover/\c.args=#[]:=by
 unfold Gr at h;split at h
 ·rename_i o1 o2;split at h
  ·rename_i t0 c t2' t' e1 e2 e3 e4 e5 e6;split at h
   ·rename_i h1 h2;cases hb:Nat.beq t0 t' with
    |false=>rw[hb]at h;cases h
    |true=>
     rw[hb]at h;simp only[cond_true,Option.some.injEq,Prod.mk.injEq]at h;obtain⟨rfl,rfl⟩:=h;have:t0=t':=Nat.eq_of_beq_eq_true hb;subst this;exact⟨o1,o2,c,rfl,e1,e2,e3,e4,e5,e6,h1,by simpa using h2⟩
   ·cases h
  ·cases h
 ·cases h
def To(P:Program)(fn:Func)(pl:bC)(args:List Value)(x:Value)(w:World)(K:World->Prop):Prop:=
 match fn.body with
 |some (.seq (.region _ ops _) b)=>
  match Gr ops.toList with
  |some (t,t2)=>@kO noX P pl b 2 (upd (upd (Wl args) (some t) x) (some t2) x) w (λ_ w'=>K w') (λ_ _ _=>False) (λ_ w'=>K w')
  |none=>False
 |_=>False
def AB(P:Program)(fn:Func)(pl:bC)(na:Nat):Bool:=
 match fn.body with
 |some (.seq (.region _ ops draw) b)=> !draw&&Nat.ble na fn.ntmps&&fn.results.toList.isEmpty&&
  (match Gr ops.toList with
  |some (t,t2)=>Nat.blt t fn.ntmps&&Nat.blt t2 fn.ntmps&&Ck P fn.ntmps pl [] 0 b 2
  |none=>false)
 |_=>false
inductive Finds:FrameMode->Value->Prop
 |idle:Finds .returning .nilIface
 |thrown (v:Value):Finds (.panicking [{v,recovered:=false}]) v
theorem BG{g:FuncId}{fn:Func}{pl:bC}{args:List Value}{x:Value}{u:FrameMode}{K:World->Prop}(hm:P.follows .mixedOrders=true)(hf:P.funcs[g]?=some fn)(hc:AB P fn pl args.length=true)
  (hu:Finds u x)(h:To P fn pl args x w K):sU P g args u w K:=by
 unfold To at h;unfold AB at hc;split at h
 ·rename_i id ops draw b hb;rw[hb]at hc;simp only[Bool.and_eq_true,Bool.not_eq_true']at hc;obtain⟨⟨⟨hd,hle⟩,hres⟩,hc⟩:=hc;subst hd;cases ho:Gr ops.toList with
  |none=>simp only[ho]at h
  |some y=>
   obtain⟨t,t2⟩:=y;simp only[ho,Bool.and_eq_true]at h hc;obtain⟨⟨ht,ht2⟩,hchk⟩:=hc;obtain⟨o1,o2,c,hops,g1,g2,d1,p1,d2,p2,hcl,hca⟩:=IF ho;have hops':ops=#[o1,o2]:=by
    apply Array.ext';rw[hops]
   subst hops';letI:=noX;have hr0:∀tmps w,(results fn tmps).run P w=.ok (.tuple #[]) w:=by
    intro tmps w;have h1:fn.results.toList=[]:=by simpa using hres
    obtain⟨v,hv,hr⟩:=pF (P:=P) (fn:=fn) (n:=tmps.size) (D:=[]) (f:=λt=>tmps.getD t undef) (a:={tmps:=tmps,defers:=[]}) (w:=w) (K:=λv=>v=.tuple #[]) ⟨rfl,rfl,λ_=>rfl⟩ (by rw[h1];rfl);rw[hr,hv]
   have hag:=Ht (nt:=fn.ntmps) (args:=args) (Nat.le_of_ble_eq_true hle);have ht:t<fn.ntmps:=by simpa using ht
   have ht2:t2<fn.ntmps:=by simpa using ht2
   refine callsD_of_wpS hf hb λc₀ cs hmode=>?_;generalize ({tmps:=args.toArray++Array.replicate (fn.ntmps-args.toArray.size) undef,defers:=[]}:Act)=a0 at hag⊢;have hag1:=hag.put (d:=some t) (λy hy=>by cases hy;exact ht) x;have hag2:=hag1.put (d:=some t2) (λy hy=>by cases hy;exact ht2) x;have w1:Region.wanted o1 (yielded #[o1,o2] a0.tmps)=true:=by
    have:=wO (ops:=[o1,o2]) (o:=o1) hag;rw[show([o1,o2]:List Oper).toArray=#[o1,o2]from rfl]at this;rw[this];simp[gC,g1]
   have w2:Region.wanted o2 (yielded #[o1,o2] (a0.put (some t) x).tmps)=true:=by
    have:=wO (ops:=[o1,o2]) (o:=o2) hag1;rw[show([o1,o2]:List Oper).toArray=#[o1,o2]from rfl]at this;rw[this];simp[gC,g2]
   have e1:(execOp a0.eval o1).run P w=.ok .recover w:=by
    unfold execOp;rw[p1];simp[resolve,hcl,hca,invoke,builtin,run_bind,run_pure]
   have e2:(execOp (a0.put (some t) x).eval o2).run P w=.ok (.value x) w:=by
    rw[tQ hag1];unfold execOp;rw[p2];have e:ev (upd (Wl args) (some t) x) (.tmp t)=x:=by simp[ev,jU]
    simp[run_pure,e]
   have rest:∀u':FrameMode,settle u'=.returning->b.wpS P (bodyPostS P fn c₀ cs λe u' w'=>(∃v,e=.returned v)/\settle u'=.returning/\K w') ((a0.put (some t) x).put (some t2) x) ({c₀ with mode:=u'}::cs) w:=by
    intro u' hs;refine wpS_of_wp ?_;refine@pS noX P fn.ntmps [] pl hm b [] 0 2 _ _ w _ _ _ _ hchk hag2 h (λf' a' w' hag' _ hk=>?_) (λ_ _ _ _ _ _ hk=>hk.elim) (λf' a' w' hag' _ hk=>?_) (λch a' w' hd ht hx=>hx.elim)
    ·exact⟨hag'.1,u',rfl,_,hr0 _ _,⟨_,rfl⟩,hs,hk⟩
    ·exact⟨hag'.1,u',rfl,_,hr0 _ _,⟨_,rfl⟩,hs,hk⟩
   refine wpS_seq (wpS_region ?_);show wpOpsS P #[o1,o2] _ [0,1] a0 (c₀::cs) w;have tail:∀c1:Frame,b.wpS P (bodyPostS P fn c₀ cs λe u' w'=>(∃v,e=.returned v)/\settle u'=.returning/\K w') ((a0.put (some t) x).put (some t2) x) (c1::cs) w->
     wpOpsS P #[o1,o2] (Exit.thenS (b.wpS P (bodyPostS P fn c₀ cs λe u' w'=>(∃v,e=.returned v)/\settle u'=.returning/\K w')) (bodyPostS P fn c₀ cs λe u' w'=>(∃v,e=.returned v)/\settle u'=.returning/\K w')) [1] (a0.put (some t) x) (c1::cs) w:=by
    intro c1 hb1;unfold wpOpsS;rw[show(#[o1,o2]:Array Oper)[1]?=some o2 from rfl];show ite (Region.wanted o2 (yielded #[o1,o2] (a0.put (some t) x).tmps)=true) _ _;rw[if_pos w2,e2];simp only[Oper.upon_value,d2];exact hb1
   unfold wpOpsS;rw[show(#[o1,o2]:Array Oper)[0]?=some o1 from rfl];show ite (Region.wanted o1 (yielded #[o1,o2] a0.tmps)=true) _ _;rw[if_pos w1,e1];cases hu with
   |idle=>
    have:recoverD (c₀::cs)=none:=by simp[recoverD,hmode]
    simp only[this,d1];have e:({c₀ with mode:=.returning}:Frame)=c₀:=by rw[<-hmode]
    have:=rest .returning rfl;rw[e]at this;exact tail c₀ this
   |thrown=>
    have:recoverD (c₀::cs)=some (x,{c₀ with mode:=.panicking [{v:=x,recovered:=true}]}::cs):=by simp[recoverD,hmode]
    simp only[this,d1];exact tail _ (rest (.panicking [{v:=x,recovered:=true}]) rfl)
 ·exact h.elim
end
end
end Go.Eng
namespace Go.Proofs.YtghhmpppnmoeoaaGreatDoor
section
open Go Go.Eng
variable{w:World}{K:Value->World->Prop}{cs:List Value}{G:Nat->Prop}{T:TypeId}{i:Nat}{n:Nat}{v:Value}{w':World}{P:Program}{c:UInt8}{S:Nat->Prop}{v0 v1 v2 v3 v4 v5:Value}
abbrev _root_.Q0:=Value->World->Prop
noncomputable abbrev _root_.P0:=Tryz.prog
abbrev _root_.sN:Value:=.slice none 0 0
abbrev _root_.zL0:List Value:=[(i64 0),(.bool false),(str []),sN,sN]
abbrev _root_.zL1:List Value:=[(i64 0),(str []),(i64 0)]
abbrev _root_.zL2:List Value:=[(.bool false),sN]
abbrev _root_.zL3:List Value:=[(i64 0)]
abbrev _root_.zL4:List Value:=[(i64 0),(str []),sN,sN,(i64 0)]
variable [HX]
def YC:bC:={js:=[(60,⟨[9],[9],12⟩),(62004,⟨[73],[],71⟩),(54,⟨[9,11],[9],11⟩),(44005,⟨[51],[],48⟩),(36,⟨[6,7],[],1⟩),(25006,⟨[30],[],26⟩),(14,⟨[],[2,3,4,5],19⟩)],ds:=[]}
def W26(v0:Value)(w:World)(K:Q0):=eQ v0 λt13=>aC .gtr t13 (i64 16384) λt14=>aD t14 (bQ [(i64 0),(str []),(i64 0)] [(0,1,(i64 3))] λc1=>cI 53 (.agg c1.toArray) w λt16 w2=>K (.tuple #[sN,t16]) w2) (bP P0 (Instr.range 9 v0) w λt18 w3=>bL [] w3 λs4 _ w5 L4=>bP P0 (Instr.next t18 true 0) w5 λt19 w6=>bS 0 t19 λt20=>aD t20 (bS 1 t19 λt21=>bS 2 t19 λt22=>aC .eql t22 (.int .i32 65533) λt24=>cX (eD t24 true) [undef] w6 (λJ7=>jG v0 (some t21) none λt28=>aA P0 43 [t28,(str [239,191,189])] w6 λt29 w8=>gU .not t29 λt30=>J7 [t30] w8) λs7 _ w9=>bG t24 (s7.getD 0 undef) (.bool false) λt31=>aD t31 (bQ [(i64 0),(str []),(i64 0)] [(0,1,(i64 31)),(2,1,t21)] λc10=>cI 53 (.agg c10.toArray) w9 λt34 w11=>K (.tuple #[sN,t34]) w11) (L4 [] w9)) (bL [sN,(i64 0)] w6 λs12 _ w13 L12=>jG v0 (some (s12.getD 1 undef)) none λt38=>aA P0 44 [t38] w13 λt39 w14=>bS 0 t39 λt40=>bS 1 t39 λt41=>aC .add (s12.getD 1 undef) t40 λt44=>aC .eql t41 (i64 0) λt46=>cX (eD t46 true) [undef] w14 (λJ15=>eQ v0 λt50=>aC .eql t44 t50 λt51=>J15 [t51] w14) λs15 _ w16=>bG t46 (s15.getD 0 undef) (.bool false) λt52=>aD t52 (bQ [(i64 0),(str []),(i64 0)] [(2,1,t44)] λc17=>bR 73 1 [(i64 0),(str []),(i64 0)] [(0,3,(.agg c17.toArray))] w16 λt56 w18=>bP P0 (Builtin.append_ #[64,64] 64 #[(s12.getD 0 undef),t56]) w18 λt57 w19=>K (.tuple #[t57,(.pointer none)]) w19) (aN 73 zL1 w16 λt10 w20=>aP (λJ21=>aC .eql t41 (i64 0) λt59=>aD t59 (jG v0 (some t44) none λt63=>aA P0 45 [t63] w20 λt64 w22=>bS 0 t64 λt65=>bS 1 t64 λt66=>bS 2 t64 λt67=>bF 3 t10 t65 w22 λw23=>J21 [t67,t66] w23) (J21 [t41,(i64 0)] w20)) λs21 _ w24=>aP (λJ25=>aC .eql (s21.getD 0 undef) (i64 0) λt69=>cX (eD t69 true) [undef] w24 (λJ26=>bK (s12.getD 0 undef) λt72=>aC .eql t72 (i64 4096) λt73=>J26 [t73] w24) λs26 _ w27=>bG t69 (s26.getD 0 undef) (.bool false) λt74=>aD t74 (J25 [(i64 3)] w27) (J25 [(s21.getD 0 undef)] w27)) λs25 _ w28=>aC .neq (s25.getD 0 undef) (i64 0) λt76=>aD t76 (bQ [(i64 0),(str []),(i64 0)] [(0,1,(s25.getD 0 undef)),(2,1,t44)] λc29=>cI 53 (.agg c29.toArray) w28 λt80 w30=>K (.tuple #[sN,t80]) w30) (aF 2 t10 λt82=>bF 1 t82 t44 w28 λw31=>aE true 3 t10 w31 λt84=>bR 73 1 [(i64 0),(str []),(i64 0)] [(0,3,t84)] w31 λt85 w32=>bP P0 (Builtin.append_ #[64,64] 64 #[(s12.getD 0 undef),t85]) w32 λt86 w33=>aC .add t44 (s21.getD 1 undef) λt89=>L12 [t86,t89] w33))))
theorem aAz{K:Q0}(h:W26 v0 w K):aA P0 26 [v0] w K:=
 tie _ 26 Tryz.f26 YC _ w K 1 _ rfl mixed Tryz.func26 (by kernel_rfl) (by kernel_rfl) Tryz.call26 h
def Yt:bC:={js:=[(21,⟨[23],[],6⟩),(6,⟨[4],[],1⟩)],ds:=[]}
def W44(v0:Value)(w:World)(K:Q0):=bL [(i64 0)] w λs1 _ w2 L1=>eQ v0 λt9=>aC .lss (s1.getD 0 undef) t9 λt10=>aD t10 (jG v0 (some (s1.getD 0 undef)) none λt13=>lJ v0 (s1.getD 0 undef) λt18=>aA P0 68 [(str [32,9,13]),t18] w2 λt19 w3=>aC .geq t19 (i64 0) λt20=>aD t20 (aC .add (s1.getD 0 undef) (i64 1) λt22=>L1 [t22] w3) (aP (λJ4=>lJ v0 (s1.getD 0 undef) λt26=>aC .eql t26 (.int .u8 35) λt27=>aD t27 (J4 [t27] w3) (aA P0 43 [t13,(str [47,47])] w3 λt29 w5=>J4 [t29] w5)) λs4 _ w6=>aD (s4.getD 0 undef) (aA P0 69 [t13,(.func (.func 70) #[] #[])] w6 λt32 w7=>aC .add (s1.getD 0 undef) t32 λt33=>L1 [t33] w7) (aA P0 43 [t13,(str [47,42])] w6 λt36 w8=>aD t36 (jG t13 (some (i64 2)) none λt38=>aA P0 71 [t38,(str [42,47])] w8 λt39 w9=>aC .lss t39 (i64 0) λt41=>aD t41 (K (.tuple #[(s1.getD 0 undef),(i64 40)]) w9) (aC .add t39 (i64 4) λt45=>aC .add (s1.getD 0 undef) t45 λt46=>L1 [t46] w9)) (K (.tuple #[(s1.getD 0 undef),(i64 0)]) w8)))) (K (.tuple #[(s1.getD 0 undef),(i64 0)]) w2)
theorem aAq{K:Q0}(h:W44 v0 w K):aA P0 44 [v0] w K:=
 tie _ 44 Tryz.f44 Yt _ w K 1 _ rfl mixed Tryz.func44 (by kernel_rfl) (by kernel_rfl) Tryz.call44 h
def Ys:bC:={js:=[(8,⟨[6,7],[3,4],6⟩),(38,⟨[43],[],8⟩),(43004,⟨[58],[],57⟩),(40006,⟨[52],[],49⟩)],ds:=[]}
def W45(v0:Value)(w:World)(K:Q0):=aN 73 zL1 w λt2 w1=>aN 73 zL1 w1 λt5 w2=>aP (λJ3=>lJ v0 (i64 0) λt10=>aC .eql t10 (.int .u8 10) λt21=>aD t21 (bQ [(i64 0),(str []),(i64 0)] [(0,1,(i64 5)),(1,1,(str [10]))] λc4=>bF 3 t2 (.agg c4.toArray) w2 λw5=>aE true 3 t2 w5 λr6=>K (.tuple #[r6,(i64 1),(i64 0)]) w5) (aA P0 72 [t10] w2 λt25 w7=>aD t25 (aA P0 69 [v0,(.func (.func 73) #[] #[])] w7 λt27 w8=>jG v0 none (some t27) λt30=>bQ [(i64 0),(str []),(i64 0)] [(0,1,(i64 1)),(1,1,t30)] λc9=>bF 3 t5 (.agg c9.toArray) w8 λw10=>aC .gtr t27 (i64 32) λt33=>aD t33 (J3 [(i64 3),t27] w10) (J3 [(i64 0),t27] w10)) (aA P0 74 [t10] w7 λt36 w11=>aD t36 (aA P0 69 [v0,(.func (.func 74) #[] #[])] w11 λt38 w12=>jG v0 none (some t38) λt41=>bQ [(i64 0),(str []),(i64 0)] [(0,1,(i64 2)),(1,1,t41)] λc13=>bF 3 t5 (.agg c13.toArray) w12 λw14=>aP (λJ15=>eQ v0 λt46=>aC .lss t38 t46 λt47=>cX (eD t47 true) [undef] w14 (λJ16=>lJ v0 t38 λt51=>aA P0 72 [t51] w14 λt52 w17=>J16 [t52] w17) λs16 _ w18=>bG t47 (s16.getD 0 undef) (.bool false) λt53=>aD t53 (J15 [t53] w18) (aC .eql t10 (.int .u8 48) λt55=>cX (eD t55 true) [undef] w18 (λJ19=>aC .gtr t38 (i64 1) λt58=>J19 [t58] w18) λs19 _ w20=>bG t55 (s19.getD 0 undef) (.bool false) λt59=>J15 [t59] w20)) λs15 _ w21=>aD (s15.getD 0 undef) (J3 [(i64 40),t38] w21) (aF 1 t5 λt61=>aE false 1 t61 w21 λt62=>aA P0 75 [t62] w21 λt63 w22=>gU .not t63 λt64=>aD t64 (J3 [(i64 3),t38] w22) (J3 [(i64 0),t38] w22))) (aC .eql t10 (.int .u8 34) λt67=>aD t67 (aA P0 76 [v0,(i64 0)] w11 λt70 w23=>bS 0 t70 λt71=>bS 1 t70 λt72=>aC .eql t72 (i64 0) λt74=>aD t74 (aC .sub t71 (i64 1) λt77=>jG v0 (some (i64 1)) (some t77) λt78=>bQ [(i64 0),(str []),(i64 0)] [(0,1,(i64 3)),(1,1,t78)] λc24=>bF 3 t5 (.agg c24.toArray) w23 λw25=>J3 [t72,t71] w25) (J3 [t72,t71] w23)) (aA P0 43 [v0,(str [60,60])] w11 λt82 w26=>aD t82 (aF 0 t5 λt83=>bF 1 t83 (i64 3) w26 λw27=>aA P0 77 [v0] w27 λt86 w28=>bS 0 t86 λt87=>bS 1 t86 λt88=>bS 2 t86 λt89=>aF 1 t5 λt90=>bF 1 t90 t87 w28 λw29=>J3 [t89,t88] w29) (aA P0 78 [v0] w26 λt12 w30=>bQ [(i64 0),(str []),(i64 0)] [(0,1,(i64 4)),(1,1,t12)] λc31=>bF 3 t5 (.agg c31.toArray) w30 λw32=>aF 1 t5 λt14=>aE false 1 t14 w32 λt15=>eQ t15 λt16=>aC .eql t16 (i64 0) λt18=>aD t18 (J3 [(i64 40),t16] w32) (J3 [(i64 0),t16] w32))))))) λs3 _ w33=>aE true 3 t5 w33 λt91=>bF 3 t2 t91 w33 λw34=>aE true 3 t2 w34 λr35=>K (.tuple #[r35,(s3.getD 1 undef),(s3.getD 0 undef)]) w34
theorem aAp{K:Q0}(h:W45 v0 w K):aA P0 45 [v0] w K:=
 tie _ 45 Tryz.f45 Ys _ w K 1 _ rfl mixed Tryz.func45 (by kernel_rfl) (by kernel_rfl) Tryz.call45 h
def Yb:bC:={js:=[(6,⟨[8],[4,5],8⟩)],ds:=[]}
def W69(v0 v1:Value)(w:World)(K:Q0):=eQ v0 λt7=>bL [(i64 0)] w λs1 _ w2 L1=>aC .lss (s1.getD 0 undef) t7 λt9=>aD t9 (lJ v0 (s1.getD 0 undef) λt14=>kP P0 v1 [t14] w2 λt15 w3=>gU .not t15 λt16=>aD t16 (K (s1.getD 0 undef) w3) (aC .add (s1.getD 0 undef) (i64 1) λt18=>L1 [t18] w3)) (eQ v0 λt20=>K t20 w2)
theorem ZY{K:Q0}(h:W69 v0 v1 w K):aA P0 69 [v0,v1] w K:=
 tie _ 69 Tryz.f69 Yb _ w K 2 _ rfl mixed Tryz.func69 (by kernel_rfl) (by kernel_rfl) Tryz.call69 h
def Ya:bC:={js:=[],ds:=[]}
def W70(v0:Value)(w:World)(K:Q0):=aC .neq v0 (.int .u8 10) λt4=>K t4 w
theorem ZX{K:Q0}(h:W70 v0 w K):aA P0 70 [v0] w K:=
 tie _ 70 Tryz.f70 Ya _ w K 1 _ rfl mixed Tryz.func70 (by kernel_rfl) (by kernel_rfl) Tryz.call70 h
def XZ:bC:={js:=[(3004,⟨[19],[],18⟩),(3007,⟨[15],[],10⟩),(3009,⟨[14],[],13⟩),(3012,⟨[12],[],10⟩),(3016,⟨[7],[],6⟩)],ds:=[]}
def W72(v0:Value)(w:World)(K:Q0):=aC .geq v0 (.int .u8 97) λt4=>cX (eD t4 true) [undef] w (λJ1=>aC .leq v0 (.int .u8 122) λt7=>J1 [t7] w) λs1 _ w2=>bG t4 (s1.getD 0 undef) (.bool false) λt8=>cX (eD t8 false) [undef] w2 (λJ3=>aC .geq v0 (.int .u8 65) λt11=>J3 [t11] w2) λs3 _ w4=>cX (eD (s3.getD 0 undef) true) [undef] w4 (λJ5=>aC .leq v0 (.int .u8 90) λt14=>J5 [t14] w4) λs5 _ w6=>cX (eD t8 false) [undef] w6 (λJ7=>bG (s3.getD 0 undef) (s5.getD 0 undef) (.bool false) λt15=>J7 [t15] w6) λs7 _ w8=>bG t8 (.bool true) (s7.getD 0 undef) λt16=>cX (eD t16 false) [undef] w8 (λJ9=>aC .eql v0 (.int .u8 95) λt19=>J9 [t19] w8) λs9 _ w10=>bG t16 (.bool true) (s9.getD 0 undef) λt20=>K t20 w10
theorem ZW{K:Q0}(h:W72 v0 w K):aA P0 72 [v0] w K:=
 tie _ 72 Tryz.f72 XZ _ w K 1 _ rfl mixed Tryz.func72 (by kernel_rfl) (by kernel_rfl) Tryz.call72 h
def XY:bC:={js:=[(3004,⟨[11],[],10⟩),(3008,⟨[7],[],6⟩)],ds:=[]}
def W73(v0:Value)(w:World)(K:Q0):=aA P0 72 [v0] w λt4 w1=>cX (eD t4 false) [undef] w1 (λJ2=>aA P0 74 [v0] w1 λt7 w3=>J2 [t7] w3) λs2 _ w4=>bG t4 (.bool true) (s2.getD 0 undef) λt8=>cX (eD t8 false) [undef] w4 (λJ5=>aC .eql v0 (.int .u8 45) λt11=>J5 [t11] w4) λs5 _ w6=>bG t8 (.bool true) (s5.getD 0 undef) λt12=>K t12 w6
theorem ZV{K:Q0}(h:W73 v0 w K):aA P0 73 [v0] w K:=
 tie _ 73 Tryz.f73 XY _ w K 1 _ rfl mixed Tryz.func73 (by kernel_rfl) (by kernel_rfl) Tryz.call73 h
def XX:bC:={js:=[(3004,⟨[7],[],6⟩)],ds:=[]}
def W74(v0:Value)(w:World)(K:Q0):=aC .geq v0 (.int .u8 48) λt4=>cX (eD t4 true) [undef] w (λJ1=>aC .leq v0 (.int .u8 57) λt7=>J1 [t7] w) λs1 _ w2=>bG t4 (s1.getD 0 undef) (.bool false) λt8=>K t8 w2
theorem ZU{K:Q0}(h:W74 v0 w K):aA P0 74 [v0] w K:=
 tie _ 74 Tryz.f74 XX _ w K 1 _ rfl mixed Tryz.func74 (by kernel_rfl) (by kernel_rfl) Tryz.call74 h
def XV:bC:={js:=[(32007,⟨[43],[],38⟩),(6,⟨[6],[],2⟩)],ds:=[]}
def W76(v0 v1:Value)(w:World)(K:Q0):=bL [(i64 1)] w λs1 _ w2 L1=>eQ v0 λt11=>aC .lss (s1.getD 0 undef) t11 λt12=>aD t12 (lJ v0 (s1.getD 0 undef) λt18=>aC .eql t18 (.int .u8 34) λt19=>aD t19 (aC .add (s1.getD 0 undef) (i64 1) λt21=>K (.tuple #[t21,(i64 0)]) w2) (lJ v0 (s1.getD 0 undef) λt25=>aC .eql t25 (.int .u8 10) λt26=>aD t26 (K (.tuple #[(i64 0),(i64 40)]) w2) (lJ v0 (s1.getD 0 undef) λt30=>aC .eql t30 (.int .u8 92) λt31=>aD t31 (aC .add (s1.getD 0 undef) (i64 1) λt33=>eQ v0 λt35=>aC .geq t33 t35 λt36=>cX (eD t36 false) [undef] w2 (λJ3=>aC .add (s1.getD 0 undef) (i64 1) λt40=>lJ v0 t40 λt41=>aA P0 68 [(str [34,92,110,116,114,36]),t41] w2 λt42 w4=>aC .lss t42 (i64 0) λt43=>J3 [t43] w4) λs3 _ w5=>bG t36 (.bool true) (s3.getD 0 undef) λt44=>aD t44 (K (.tuple #[(i64 0),(i64 40)]) w5) (aC .add (s1.getD 0 undef) (i64 2) λt46=>L1 [t46] w5)) (jG v0 (some (s1.getD 0 undef)) none λt50=>aA P0 43 [t50,(str [36,123])] w2 λt51 w6=>aD t51 (aC .add (s1.getD 0 undef) (i64 1) λt55=>jG v0 (some t55) none λt56=>aC .add v1 (i64 1) λt58=>aA P0 108 [t56,t58] w6 λt59 w7=>bS 0 t59 λt60=>bS 1 t59 λt61=>aC .neq t61 (i64 0) λt63=>aD t63 (K (.tuple #[(i64 0),t61]) w7) (aC .add t60 (i64 1) λt67=>aC .add (s1.getD 0 undef) t67 λt68=>L1 [t68] w7)) (aC .add (s1.getD 0 undef) (i64 1) λt14=>L1 [t14] w6))))) (K (.tuple #[(i64 0),(i64 40)]) w2)
theorem ZS{K:Q0}(h:W76 v0 v1 w K):aA P0 76 [v0,v1] w K:=
 tie _ 76 Tryz.f76 XV _ w K 2 _ rfl mixed Tryz.func76 (by kernel_rfl) (by kernel_rfl) Tryz.call76 h
def XU:bC:={js:=[(61,⟨[13],[13],68⟩),(65,⟨[72],[],72⟩),(51,⟨[],[13],68⟩),(27,⟨[7],[2,3,4,7],9⟩),(16005,⟨[43],[],40⟩),(16011,⟨[37],[],34⟩),(4,⟨[5],[],1⟩),(6004,⟨[20],[],18⟩)],ds:=[]}
def W77(v0:Value)(w:World)(K:Q0):=aP (λJ1=>eQ v0 λt15=>aC .gtr t15 (i64 2) λt16=>cX (eD t16 true) [undef] w (λJ2=>lJ v0 (i64 2) λt19=>aA P0 72 [t19] w λt20 w3=>J2 [t20] w3) λs2 _ w4=>bG t16 (s2.getD 0 undef) (.bool false) λt21=>aD t21 (jG v0 (some (i64 2)) none λt23=>aA P0 69 [t23,(.func (.func 109) #[] #[])] w4 λt24 w5=>J1 [t24] w5) (J1 [(i64 0)] w4)) λs1 _ w6=>aC .add (i64 2) (s1.getD 0 undef) λt27=>jG v0 (some (i64 2)) (some t27) λt28=>aC .add (i64 2) (s1.getD 0 undef) λt30=>aC .eql (s1.getD 0 undef) (i64 0) λt32=>cX (eD t32 false) [undef] w6 (λJ7=>eQ v0 λt36=>aC .geq t30 t36 λt37=>J7 [t37] w6) λs7 _ w8=>bG t32 (.bool true) (s7.getD 0 undef) λt38=>cX (eD t38 false) [undef] w8 (λJ9=>lJ v0 t30 λt42=>aC .neq t42 (.int .u8 10) λt43=>J9 [t43] w8) λs9 _ w10=>bG t38 (.bool true) (s9.getD 0 undef) λt44=>aD t44 (K (.tuple #[(str []),(i64 0),(i64 40)]) w10) (aC .add t30 (i64 1) λt46=>aN 116 [(.pointer none),sN] w10 λt8 w11=>bL [t46] w11 λs12 _ w13 L12=>jG v0 (some (s12.getD 0 undef)) none λt50=>aA P0 110 [t50,(str [10])] w13 λt51 w14=>bS 0 t51 λt52=>bS 1 t51 λt53=>bS 2 t51 λt54=>aA P0 111 [t52,(str [32,9])] w14 λt56 w15=>aC .eql t56 t28 λt58=>aD t58 (aA P0 64 [t8] w15 λt59 w16=>eQ t52 λt62=>aC .add (s12.getD 0 undef) t62 λt63=>K (.tuple #[t59,t63,(i64 0)]) w16) (gU .not t54 λt65=>aD t65 (K (.tuple #[(str []),(i64 0),(i64 40)]) w15) (bP P0 (Instr.range 9 t52) w15 λt67 w17=>bL [] w17 λs18 _ w19 L18=>bP P0 (Instr.next t67 true 0) w19 λt68 w20=>bS 0 t68 λt69=>aD t69 (bS 2 t68 λt70=>aP (λJ21=>aP (λJ22=>aC .eql t70 (.int .i32 92) λt73=>aD t73 (J22 [t73] w20) (aC .eql t70 (.int .i32 34) λt74=>aD t74 (J22 [t74] w20) (aC .eql t70 (.int .i32 36) λt75=>J22 [t75] w20))) λs22 _ w23=>aD (s22.getD 0 undef) (aA P0 62 [t8,(.int .u8 92)] w23 λt76 w24=>J21 [t70] w24) (aC .eql t70 (.int .i32 9) λt78=>aD t78 (aA P0 62 [t8,(.int .u8 92)] w23 λt79 w25=>J21 [(.int .i32 116)] w25) (aC .eql t70 (.int .i32 13) λt81=>aD t81 (aA P0 62 [t8,(.int .u8 92)] w23 λt82 w26=>J21 [(.int .i32 114)] w26) (J21 [t70] w23)))) λs21 _ w27=>aA P0 63 [t8,(s21.getD 0 undef)] w27 λt84 w28=>L18 [] w28) (aA P0 66 [t8,(str [92,110])] w20 λt85 w29=>eQ t52 λt88=>aC .add t88 (i64 1) λt89=>aC .add (s12.getD 0 undef) t89 λt90=>L12 [t90] w29))))
theorem ZR{K:Q0}(h:W77 v0 w K):aA P0 77 [v0] w K:=
 tie _ 77 Tryz.f77 XU _ w K 1 _ rfl mixed Tryz.func77 (by kernel_rfl) (by kernel_rfl) Tryz.call77 h
def XT:bC:={js:=[(2,⟨[],[],1⟩),(9,⟨[8],[],1⟩)],ds:=[]}
def W78(v0:Value)(w:World)(K:Q0):=aP (λJ1=>eQ v0 λt4=>aC .gtr t4 (i64 1) λt5=>aD t5 (jG v0 none (some (i64 2)) λt7=>aP (λJ2=>aC .eql t7 (str [61,61]) λt9=>aD t9 (J2 [t9] w) (aC .eql t7 (str [33,61]) λt10=>aD t10 (J2 [t10] w) (aC .eql t7 (str [60,61]) λt11=>aD t11 (J2 [t11] w) (aC .eql t7 (str [62,61]) λt12=>aD t12 (J2 [t12] w) (aC .eql t7 (str [38,38]) λt13=>aD t13 (J2 [t13] w) (aC .eql t7 (str [124,124]) λt14=>J2 [t14] w)))))) λs2 _ w3=>aD (s2.getD 0 undef) (jG v0 none (some (i64 2)) λt16=>K t16 w3) (J1 [] w3)) (J1 [] w)) λs1 _ w4=>lJ v0 (i64 0) λt18=>aA P0 68 [(str [123,125,91,93,40,41,61,43,45,42,47,37,60,62,33,63,58,44,46]),t18] w4 λt19 w5=>aC .geq t19 (i64 0) λt20=>aD t20 (jG v0 none (some (i64 1)) λt22=>K t22 w5) (K (str []) w5)
theorem ZQ{K:Q0}(h:W78 v0 w K):aA P0 78 [v0] w K:=
 tie _ 78 Tryz.f78 XT _ w K 1 _ rfl mixed Tryz.func78 (by kernel_rfl) (by kernel_rfl) Tryz.call78 h
def Sl:bC:={js:=[(24,⟨[7,8],[4,5],7⟩),(14,⟨[6],[],2⟩)],ds:=[]}
def aC4(v0 v1:Value)(w:World)(K:Q0):=aC .gtr v1 (i64 24) λt10=>aD t10 (K (.tuple #[(i64 0),(i64 7)]) w) (bL [(i64 1)] w λs1 _ w2 L1=>eQ v0 λt13=>aC .lss (s1.getD 0 undef) t13 λt14=>aD t14 (aP (λJ3=>lJ v0 (s1.getD 0 undef) λt17=>aC .eql t17 (.int .u8 125) λt19=>aD t19 (aC .add (s1.getD 0 undef) (i64 1) λt21=>K (.tuple #[t21,(i64 0)]) w2) (aC .eql t17 (.int .u8 10) λt23=>aD t23 (K (.tuple #[(i64 0),(i64 40)]) w2) (aC .eql t17 (.int .u8 123) λt25=>aD t25 (jG v0 (some (s1.getD 0 undef)) none λt29=>aC .add v1 (i64 1) λt31=>aA P0 108 [t29,t31] w2 λt32 w4=>bS 0 t32 λt33=>bS 1 t32 λt34=>J3 [t33,t34] w4) (aC .eql t17 (.int .u8 34) λt36=>aD t36 (jG v0 (some (s1.getD 0 undef)) none λt40=>aA P0 76 [t40,v1] w2 λt42 w5=>bS 0 t42 λt43=>bS 1 t42 λt44=>J3 [t43,t44] w5) (J3 [(i64 1),(i64 0)] w2))))) λs3 _ w6=>aC .neq (s3.getD 1 undef) (i64 0) λt46=>aD t46 (K (.tuple #[(i64 0),(s3.getD 1 undef)]) w6) (aC .add (s1.getD 0 undef) (s3.getD 0 undef) λt50=>L1 [t50] w6)) (K (.tuple #[(i64 0),(i64 40)]) w2))
theorem VD{K:Q0}(h:aC4 v0 v1 w K):aA P0 108 [v0,v1] w K:=
 tie _ 108 Tryz.f108 Sl _ w K 2 _ rfl mixed Tryz.func108 (by kernel_rfl) (by kernel_rfl) Tryz.call108 h
def Sk:bC:={js:=[(3004,⟨[11],[],10⟩),(3008,⟨[7],[],6⟩)],ds:=[]}
def aC3(v0:Value)(w:World)(K:Q0):=aA P0 72 [v0] w λt4 w1=>cX (eD t4 false) [undef] w1 (λJ2=>aA P0 74 [v0] w1 λt7 w3=>J2 [t7] w3) λs2 _ w4=>bG t4 (.bool true) (s2.getD 0 undef) λt8=>cX (eD t8 false) [undef] w4 (λJ5=>aC .eql v0 (.int .u8 45) λt11=>J5 [t11] w4) λs5 _ w6=>bG t8 (.bool true) (s5.getD 0 undef) λt12=>K t12 w6
theorem VC{K:Q0}(h:aC3 v0 w K):aA P0 109 [v0] w K:=
 tie _ 109 Tryz.f109 Sk _ w K 1 _ rfl mixed Tryz.func109 (by kernel_rfl) (by kernel_rfl) Tryz.call109 h
end
section
open Go Go.Eng
variable{w:World}{K:Q0}{cs:List Value}{G:Nat->Prop}{T:TypeId}{i:Nat}{n:Nat}{v:Value}{w':World}{P:Program}{c:UInt8}{S:Nat->Prop}{v0 v1 v2 v3 v4 v5:Value}
variable [HX]
def IJ:bC:={js:=[(30,⟨[],[],6⟩),(34003,⟨[40],[],39⟩),(20,⟨[],[],6⟩)],ds:=[(29,⟨[0,1,2,6],[[],[0],[],[2],[2,3],[0,1,2,3,4],[0,1,2,3,4,5],[0,1,2,3,4,5,6]]⟩),(9,⟨[0,1],[[],[],[0],[0,1,2]]⟩)]}
def W10(v0:Value)(w:World)(K:Q0):=
 aN 32 [sN,sN,sN] w λt2 w1=>
 aN 33 [(.pointer none)] w1 λt3 w2=>
 aA P0 26 [v0] w2 λt9 w3=>
 bS 0 t9 λt10=>
 bS 1 t9 λt11=>
 bF 1 t3 t11 w3 λw4=>
 aE false 1 t3 w4 λt12=>
 tR .ptr true t12 (.pointer none) λt13=>
 aD t13 (
 bQ [sN,sN,sN] [] λc5=>
 aE false 1 t3 w4.drew λt15=>
 bF 3 t2 (.agg c5.toArray) w4.drew λw6=>
 (aE false 1 t3 w6 λx=>x=t15)/\
 bF 1 t3 t15 w6 λw7=>
 aE true 3 t2 w7 λr8=>
 aE false 1 t3 w7 λr9=>
 K (.tuple #[r8,r9]) w7) (
 letI:HX:=⟨λch x10=>sU P0 27 [t2,t3] (.panicking ch) x10 λw10=>
 aE true 3 t2 w10 λr11=>
 aE false 1 t3 w10 λr12=>
 K (.tuple #[r11,r12]) w10⟩
 bQ [sN,(i64 0),(i64 0),(.pointer none),(i64 0),(.bool false)] [(0,1,t10),(3,1,t2)] λc13=>
 cI 70 (.agg c13.toArray) w4 λt19 w14=>
 aA P0 28 [t19] w14 λt21 w15=>
 bL [] w15 λs16 _ w17 L16=>
 aA P0 29 [t19] w17 λt23 w18=>
 gX false 0 1 t23 λt24=>
 aC .neq t24 (i64 0) λt25=>
 aD t25 (
 aF 2 t2 λt26=>
 aE false 1 t26 w18.drew λt27=>
 aA P0 30 [t19] w18.drew λt29 w19=>
 (aE false 1 t26 w19 λx=>x=t27)/\
 bR 3 1 [(i64 0)] [(0,1,t29)] w19 λt30 w20=>
 (aE false 1 t26 w20 λx=>x=t27)/\
 bP P0 (Builtin.append_ #[30,30] 30 #[t27,t30]) w20 λt31 w21=>
 aF 2 t2 λt32=>
 bF 1 t32 t31 w21 λw22=>
 aP (λJ23=>
 aA P0 29 [t19] w22 λt34 w24=>
 gX false 0 1 t34 λt35=>
 aC .neq t35 (i64 5) λt37=>
 cX (eD t37 true) [undef] w24 (λJ25=>
 aC .neq t35 (i64 0) λt40=>
 J25 [t40] w24)
 λs25 _ w26=>
 bG t37 (s25.getD 0 undef) (.bool false) λt41=>
 aD t41 (
 aA P0 29 [t19] w26 λt43 w27=>
 gX false 2 1 t43 λt44=>
 aA P0 31 [(i64 50),t44] w27 λt45 w28=>
 J23 [] w28) (
 J23 [] w26))
 λs23 _ w29=>
 aA P0 28 [t19] w29 λt47 w30=>
 L16 [] w30) (
 aE true 3 t2 w18 λt48=>
 bF 3 t2 t48 w18 λw31=>
 bF 1 t3 (.pointer none) w31 λw32=>
 sU P0 27 [t2,t3] .returning w32 λw33=>
 aE true 3 t2 w33 λr34=>
 aE false 1 t3 w33 λr35=>
 K (.tuple #[r34,r35]) w33))
theorem aAN(v0:Value)(w:World)(K:Q0):OR P0 Tryz.f10 IJ 3 [v0] w (Cp K)=W10 v0 w K:=by kernel_rfl
theorem VB:xO P0 Tryz.f10 IJ 4 27 3 1=true:=by kernel_rfl
theorem aAM{K:Q0}(h:W10 v0 w K):aA P0 10 [v0] w K:=
 aA6 P0 10 Tryz.f10 IJ [v0] w K 4 27 3 1 (W10 v0 w K) rfl mixed Tryz.func10 VB (aAN v0 w K) Tryz.call10 Tryz.call27 h
def NA:bC:={js:=[],ds:=[(5,⟨[0,1,2],[[],[],[1],[0],[0,1,2,3]]⟩)]}
def R27(v0 v1:Value)(x:Value)(w:World)(K:World->Prop):Prop:=
 letI:HX:=noX
 FK P0 .neq 20 false true x .nilIface w λt5=>
 aD t5 (
 bQ [sN,sN,sN] [] λc1=>
 jP P0 (Instr.typeAssert x 20 33 false) w.drew λt8=>
 bF 3 v0 (.agg c1.toArray) w.drew λw2=>
 (jP P0 (Instr.typeAssert x 20 33 false) w2 λx=>x=t8)/\
 bF 1 v1 t8 w2 λw3=>
 K w3) (
 K w)
theorem aAP(v0 v1:Value)(x:Value)(w:World)(K:World->Prop):To P0 Tryz.f27 NA [v0,v1] x w K=R27 v0 v1 x w K:=by kernel_rfl
theorem VK:AB P0 Tryz.f27 NA 2=true:=by kernel_rfl
theorem PG{v0 v1:Value}{x:Value}{u:FrameMode}{K:World->Prop}(hu:Finds u x)(h:R27 v0 v1 x w K):sU P0 27 [v0,v1] u w K:=
 BG (args:=[v0,v1]) mixed Tryz.func27 VK hu (by rw[aAP];exact h)
def YB:bC:={js:=[(1,⟨[],[],1⟩)],ds:=[]}
def W28(v0:Value)(w:World)(K:Q0):=bL [] w λs1 _ w2 L1=>aA P0 29 [v0] w2 λt3 w3=>gX false 0 1 t3 λt4=>aC .eql t4 (i64 5) λt5=>aD t5 (bW v0 λt7=>aF 1 t7 λt8=>aE false 1 t8 w3 λt9=>aC .add t9 (i64 1) λt10=>bW v0 λt11=>aF 1 t11 λt12=>bF 1 t12 t10 w3 λw4=>L1 [] w4) (K (.tuple #[]) w3)
theorem aAy{K:Q0}(h:W28 v0 w K):aA P0 28 [v0] w K:=
 tie _ 28 Tryz.f28 YB _ w K 1 _ rfl mixed Tryz.func28 (by kernel_rfl) (by kernel_rfl) Tryz.call28 h
def YA:bC:={js:=[(4,⟨[],[],3⟩)],ds:=[(16,⟨[0,1,2,3,4,5,6,7],[[],[0],[],[2],[2,3],[2,3,4],[0,1,2,3,4,5],[0,1,2,3,4,5,6],[0,1,2,3,4,5,6,7]]⟩),(14,⟨[0,1,2,3,4,5,6,7,8,9],[[],[0],[0,1],[0,1,2],[],[4],[4,5],[4,5,6],[0,1,2,3,4,5,6,7],[0,1,2,3,4,5,6,7,8],[],[0,1,2,3,4,5,6,7,8,9,10]]⟩),(7,⟨[0,1,2,3,4,5,6,7,8,9,10,11,12,13,14,15,16,17],[[],[0],[0,1],[0,1,2],[0,1,2,3],[0,1,2,3,4],[0,1,2,3,4,5],[0,1,2,3,4,5,6],[0,1,2,3,4,5,6,7],[0,1,2,3,4],[0,1,2,3,4,9],[0,1,2,3,4,9,10],[0,1,2,3,4,9,10,11],[0,1,2,3,4,5,6,7,8,9,10,11,12],[0,1,2,3,4,5,6,7,8,9,10,11,12,13],[0,1,2,3,4,5,6,7,8,9,10,11,12,13,14],[0,1,2,3,4,5,6,7,8,9,10,11,12,13,14,15],[0,1,2,3,4,5,6,7,8,9,10,11,12,13,14,15,16]]⟩)]}
def W29(v0:Value)(w:World)(K:Q0):=aN 73 zL1 w λt2 w1=>bL [] w1 λs2 _ w3 L2=>bW v0 λt5=>aF 5 t5 λt6=>aE false 1 t6 w3.drew λt7=>Cd (eD t7 true) (λk4=>k4 v0) λt9=>Cd (eD t7 true) (λk5=>bW t9 k5) λt10=>Cd (eD t7 true) (λk6=>aF 0 t10 k6) λt11=>Cd (eD t7 true) (λk7=>aE false 1 t11 w3.drew k7) λt12=>Cd (eD t7 true) (λk8=>k8 v0) λt13=>Cd (eD t7 true) (λk9=>bW t13 k9) λt14=>Cd (eD t7 true) (λk10=>aF 1 t14 k10) λt15=>Cd (eD t7 true) (λk11=>aE false 1 t15 w3.drew k11) λt16=>Cd (eD t7 true) (λk12=>bU none 3 t12 t16 k12) λt17=>Cd (eD t7 true) (λk13=>aF 0 t17 k13) λt18=>Cd (eD t7 true) (λk14=>aE false 1 t18 w3.drew k14) λt19=>Cd (eD t7 true) (λk15=>aC .eql t19 (i64 5) k15) λt20=>bG t7 t20 (.bool false) λt21=>aD t21 (bW v0 λt23=>aF 1 t23 λt24=>aE false 1 t24 w3.drew λt25=>aC .add t25 (i64 1) λt26=>bW v0 λt27=>aF 1 t27 λt28=>bF 1 t28 t26 w3.drew λw16=>L2 [] w16) (bW v0 λt30=>aF 0 t30 λt31=>aE false 1 t31 w3.drew.drew λt32=>bW v0 λt34=>aF 1 t34 λt35=>aE false 1 t35 w3.drew.drew λt36=>bU none 3 t32 t36 λt37=>aE true 3 t37 w3.drew.drew λt38=>aN 73 zL1 w3.drew.drew λt3 w17=>(aE true 3 t37 w17 λx=>x=t38)/\(aE false 1 t35 w17 λx=>x=t36)/\(aE false 1 t31 w17 λx=>x=t32)/\bF 3 t3 t38 w17 λw18=>aF 2 t3 λt39=>aE false 1 t39 w18.drew λt40=>bW v0 λt42=>aF 2 t42 λt43=>aE false 1 t43 w18.drew λt44=>aC .add t40 t44 λt45=>aF 2 t3 λt46=>bF 1 t46 t45 w18.drew λw19=>aE true 3 t3 w19 λt47=>bF 3 t2 t47 w19 λw20=>aE true 3 t2 w20 λr21=>K r21 w20)
theorem aAx{K:Q0}(h:W29 v0 w K):aA P0 29 [v0] w K:=
 tie _ 29 Tryz.f29 YA _ w K 1 _ rfl mixed Tryz.func29 (by kernel_rfl) (by kernel_rfl) Tryz.call29 h
def Yz:bC:={js:=[(19,⟨[],[],6⟩),(8,⟨[],[],5⟩)],ds:=[(28,⟨[0,1,2,3,4,5,6,7,8,9,10,11,14,15],[[],[0],[0,1],[0,1,2],[],[4],[4,5],[4,5,6],[4,5,6,7],[4,5,6,7,8],[4,5,6,7,8,9],[],[11],[4,5,6,7,8,9,10,11,12],[0,1,2,3,4,5,6,7,8,9,10,11,12,13],[0,1,2,3,4,5,6,7,8,9,10,11,12,13,14],[0,1,2,3,4,5,6,7,8,9,10,11,12,13,14,15]]⟩),(16,⟨[0,1,2,3,8],[[],[0],[],[],[3],[2,3,4],[2,3,4,5],[0,1,2,3,4,5,6],[0,1,2,3,4,5,6,7],[0,1,2,3,4,5,6,7,8]]⟩)]}
def W30(v0:Value)(w:World)(K:Q0):=cI 67 v0 w λt1 w1=>aE false 1 t1 w1 λt6=>aA P0 46 [t6,(i64 1)] w1 λt7 w2=>aN 73 zL1 w2 λt3 w3=>bF 3 t3 t7 w3 λw4=>aF 1 t3 λt8=>aE false 1 t8 w4 λt9=>aF 2 t3 λt10=>aE false 1 t10 w4 λt11=>bQ [(str []),sN,sN,sN,(i64 0)] [(0,1,t9),(4,1,t11)] λc5=>aN 86 [(str []),sN,sN,sN,(i64 0)] w4 λt4 w6=>bF 5 t4 (.agg c5.toArray) w6 λw7=>bL [] w7 λs8 _ w9 L8=>aE false 1 t1 w9 λt13=>aA P0 29 [t13] w9 λt14 w10=>gX false 0 1 t14 λt15=>aC .eql t15 (i64 3) λt16=>aD t16 (aF 1 t4 λt17=>aE false 1 t17 w10.drew λt18=>aE false 1 t1 w10.drew λt19=>aE false 1 t1 w10.drew λt20=>aA P0 48 [t20] w10.drew λt21 w11=>(aE false 1 t1 w11 λx=>x=t19)/\(aE false 1 t17 w11 λx=>x=t18)/\aA P0 47 [t19,t21] w11 λt22 w12=>(aE false 1 t17 w12 λx=>x=t18)/\bR 9 1 [(str [])] [(0,1,t22)] w12 λt23 w13=>(aE false 1 t17 w13 λx=>x=t18)/\bP P0 (Builtin.append_ #[24,24] 24 #[t18,t23]) w13 λt24 w14=>aF 1 t4 λt25=>bF 1 t25 t24 w14 λw15=>L8 [] w15) (aE false 1 t1 w10 λt26=>aA P0 29 [t26] w10 λt27 w16=>aN 73 zL1 w16 λt5 w17=>bF 3 t5 t27 w17 λw18=>aP (λJ19=>aE false 1 t1 w18 λt28=>bR 9 1 [(str [])] [(0,1,(str [123]))] w18 λt29 w20=>aA P0 49 [t28,t29] w20 λt30 w21=>gU .not t30 λt31=>aD t31 (aF 2 t5 λt32=>aE false 1 t32 w21 λt33=>aA P0 31 [(i64 50),t33] w21 λt34 w22=>J19 [] w22) (J19 [] w21)) λs19 _ w23=>aE false 1 t1 w23 λt35=>aF 2 t5 λt36=>aE false 1 t36 w23 λt37=>aA P0 50 [t35,t37,(.bool false),(.func (.func 51) #[] #[t1,t4])] w23 λt39 w24=>aE false 1 t1 w24.drew λt40=>bW t40 λt41=>aF 3 t41 λt42=>aE false 1 t42 w24.drew λt43=>aE false 1 t1 w24.drew λt44=>bW t44 λt45=>aF 3 t45 λt46=>aE false 1 t46 w24.drew λt47=>bW t47 λt48=>aF 1 t48 λt49=>aE false 1 t49 w24.drew λt50=>aE true 5 t4 w24.drew λt51=>bR 86 1 [(str []),sN,sN,sN,(i64 0)] [(0,5,t51)] w24.drew λt52 w25=>(aE false 1 t49 w25 λx=>x=t50)/\(aE false 1 t46 w25 λx=>x=t47)/\(aE false 1 t1 w25 λx=>x=t44)/\(aE false 1 t42 w25 λx=>x=t43)/\(aE false 1 t1 w25 λx=>x=t40)/\bP P0 (Builtin.append_ #[29,29] 29 #[t50,t52]) w25 λt53 w26=>(aE false 1 t42 w26 λx=>x=t43)/\(aE false 1 t1 w26 λx=>x=t40)/\bW t43 λt54=>aF 1 t54 λt55=>bF 1 t55 t53 w26 λw27=>aE false 1 t1 w27 λt56=>bW t56 λt57=>aF 3 t57 λt58=>aE false 1 t58 w27 λt59=>bW t59 λt60=>aF 1 t60 λt61=>aE false 1 t61 w27 λt62=>bK t62 λt63=>aC .sub t63 (i64 1) λt64=>K t64 w27)
theorem aAw{K:Q0}(h:W30 v0 w K):aA P0 30 [v0] w K:=
 tie _ 30 Tryz.f30 Yz _ w K 1 _ rfl mixed Tryz.func30 (by kernel_rfl) (by kernel_rfl) Tryz.call30 h
def Yy:bC:={js:=[],ds:=[]}
def W31(v0 v1:Value)(w:World)(K:Q0):=bQ [(i64 0),(str []),(i64 0)] [(0,1,v0),(2,1,v1)] λc1=>cI 53 (.agg c1.toArray) w λt7 w2=>Lw (.iface 33 t7) w2
theorem aAv{K:Q0}(h:W31 v0 v1 w K):aA P0 31 [v0,v1] w K:=
 tie _ 31 Tryz.f31 Yy _ w K 2 _ rfl mixed Tryz.func31 (by kernel_rfl) (by kernel_rfl) Tryz.call31 h
def Yr:bC:={js:=[(2,⟨[],[],5⟩)],ds:=[]}
def W46(v0 v1:Value)(w:World)(K:Q0):=aN 73 zL1 w λt4 w1=>aP (λJ2=>aA P0 29 [v0] w1 λt6 w3=>gX false 0 1 t6 λt7=>aC .neq t7 v1 λt9=>aD t9 (aA P0 29 [v0] w3 λt11 w4=>gX false 2 1 t11 λt12=>aA P0 31 [(i64 50),t12] w4 λt13 w5=>J2 [] w5) (J2 [] w3)) λs2 _ w6=>aA P0 48 [v0] w6 λt15 w7=>bF 3 t4 t15 w7 λw8=>aE true 3 t4 w8 λr9=>K r9 w8
theorem aAo{K:Q0}(h:W46 v0 v1 w K):aA P0 46 [v0,v1] w K:=
 tie _ 46 Tryz.f46 Yr _ w K 2 _ rfl mixed Tryz.func46 (by kernel_rfl) (by kernel_rfl) Tryz.call46 h
def Yq:bC:={js:=[(2,⟨[],[],4⟩)],ds:=[]}
def W47(v0 v1:Value)(w:World)(K:Q0):=cI 73 v1 w λt3 w1=>aP (λJ2=>aF 1 t3 λt8=>aE false 1 t8 w1 λt9=>aA P0 79 [t9] w1 λt10 w3=>bS 0 t10 λt11=>bS 1 t10 λt12=>aC .geq t11 (i64 0) λt14=>aD t14 (aF 2 t3 λt15=>aE false 1 t15 w3 λt16=>aA P0 31 [(i64 50),t16] w3 λt17 w4=>J2 [] w4) (J2 [] w3)) λs2 _ w5=>aF 1 t3 λt18=>aE false 1 t18 w5 λt19=>aA P0 80 [t19] w5 λt20 w6=>K t20 w6
theorem aAn{K:Q0}(h:W47 v0 v1 w K):aA P0 47 [v0,v1] w K:=
 tie _ 47 Tryz.f47 Yq _ w K 2 _ rfl mixed Tryz.func47 (by kernel_rfl) (by kernel_rfl) Tryz.call47 h
def Yp:bC:={js:=[(4,⟨[],[],4⟩)],ds:=[]}
def W48(v0:Value)(w:World)(K:Q0):=aN 73 zL1 w λt2 w1=>aA P0 29 [v0] w1 λt5 w2=>aN 73 zL1 w2 λt3 w3=>bF 3 t3 t5 w3 λw4=>aP (λJ5=>aF 0 t3 λt6=>aE false 1 t6 w4 λt7=>aC .neq t7 (i64 0) λt8=>aD t8 (bW v0 λt10=>aF 1 t10 λt11=>aE false 1 t11 w4 λt12=>aC .add t12 (i64 1) λt13=>bW v0 λt14=>aF 1 t14 λt15=>bF 1 t15 t13 w4 λw6=>J5 [] w6) (J5 [] w4)) λs5 _ w7=>aE true 3 t3 w7 λt16=>bF 3 t2 t16 w7 λw8=>aE true 3 t2 w8 λr9=>K r9 w8
theorem aAm{K:Q0}(h:W48 v0 w K):aA P0 48 [v0] w K:=
 tie _ 48 Tryz.f48 Yp _ w K 1 _ rfl mixed Tryz.func48 (by kernel_rfl) (by kernel_rfl) Tryz.call48 h
def Yo:bC:={js:=[(5006,⟨[15],[],12⟩)],ds:=[]}
def W49(v0 v1:Value)(w:World)(K:Q0):=aA P0 29 [v0] w λt7 w1=>aN 73 zL1 w1 λt5 w2=>bF 3 t5 t7 w2 λw3=>aF 0 t5 λt8=>aE false 1 t8 w3 λt9=>aC .eql t9 (i64 4) λt10=>cX (eD t10 true) [undef] w3 (λJ4=>aF 1 t5 λt13=>aE false 1 t13 w3 λt14=>aA P0 81 [v1,t14] w3 λt15 w5=>J4 [t15] w5) λs4 _ w6=>bG t10 (s4.getD 0 undef) (.bool false) λt16=>K t16 w6
theorem aAl{K:Q0}(h:W49 v0 v1 w K):aA P0 49 [v0,v1] w K:=
 tie _ 49 Tryz.f49 Yo _ w K 2 _ rfl mixed Tryz.func49 (by kernel_rfl) (by kernel_rfl) Tryz.call49 h
def Yn:bC:={js:=[(0,⟨[],[],4⟩)],ds:=[]}
def W50(v0 v1 v2 v3:Value)(w:World)(K:Q0):=aP (λJ1=>bW v0 λt10=>aF 4 t10 λt11=>aE false 1 t11 w λt12=>aC .eql t12 (i64 24) λt13=>aD t13 (aA P0 31 [(i64 7),v1] w λt15 w2=>J1 [] w2) (J1 [] w)) λs1 _ w3=>bW v0 λt17=>aF 5 t17 λt18=>aE false 1 t18 w3 λt19=>bW v0 λt21=>aF 4 t21 λt22=>aE false 1 t22 w3 λt23=>aC .add t23 (i64 1) λt24=>bW v0 λt25=>aF 4 t25 λt26=>bF 1 t26 t24 w3 λw4=>bW v0 λt29=>aF 5 t29 λt30=>bF 1 t30 v2 w4 λw5=>kP P0 v3 [] w5 λt32 w6=>bW v0 λt34=>aF 4 t34 λt35=>aE false 1 t35 w6 λt36=>aC .sub t36 (i64 1) λt37=>bW v0 λt38=>aF 4 t38 λt39=>bF 1 t39 t37 w6 λw7=>bW v0 λt42=>aF 5 t42 λt43=>bF 1 t43 t19 w7 λw8=>K (.tuple #[]) w8
theorem aAk{K:Q0}(h:W50 v0 v1 v2 v3 w K):aA P0 50 [v0,v1,v2,v3] w K:=
 tie _ 50 Tryz.f50 Yn _ w K 4 _ rfl mixed Tryz.func50 (by kernel_rfl) (by kernel_rfl) Tryz.call50 h
def Ym:bC:={js:=[(15,⟨[],[],2⟩),(17005,⟨[24],[],21⟩),(5,⟨[],[],2⟩)],ds:=[]}
def W51(v0 v1:Value)(w:World)(K:Q0):=aE false 1 v0 w λt2=>bW t2 λt3=>aF 1 t3 λt4=>aE false 1 t4 w λt5=>aC .add t5 (i64 1) λt6=>bW t2 λt7=>aF 1 t7 λt8=>bF 1 t8 t6 w λw1=>aE false 1 v0 w1 λt9=>aA P0 28 [t9] w1 λt10 w2=>bL [] w2 λs3 _ w4 L3=>aE false 1 v0 w4 λt11=>aA P0 52 [t11,(str [125])] w4 λt12 w5=>gU .not t12 λt13=>aD t13 (aE false 1 v0 w5 λt14=>aA P0 53 [t14,v1] w5 λt15 w6=>aP (λJ7=>aE false 1 v0 w6 λt16=>aA P0 29 [t16] w6 λt17 w8=>gX false 0 1 t17 λt18=>aC .neq t18 (i64 5) λt19=>cX (eD t19 true) [undef] w8 (λJ9=>aE false 1 v0 w8 λt21=>bR 9 1 [(str [])] [(0,1,(str [125]))] w8 λt22 w10=>aA P0 49 [t21,t22] w10 λt23 w11=>gU .not t23 λt24=>J9 [t24] w11) λs9 _ w12=>bG t19 (s9.getD 0 undef) (.bool false) λt25=>aD t25 (aE false 1 v0 w12 λt26=>aA P0 29 [t26] w12 λt27 w13=>gX false 2 1 t27 λt28=>aA P0 31 [(i64 50),t28] w13 λt29 w14=>J7 [] w14) (J7 [] w12)) λs7 _ w15=>aE false 1 v0 w15 λt30=>aA P0 28 [t30] w15 λt31 w16=>L3 [] w16) (K (.tuple #[]) w5)
theorem aAj{K:Q0}(h:W51 v0 v1 w K):aA P0 51 [v0,v1] w K:=
 tie _ 51 Tryz.f51 Ym _ w K 2 _ rfl mixed Tryz.func51 (by kernel_rfl) (by kernel_rfl) Tryz.call51 h
def Yl:bC:={js:=[],ds:=[]}
def W52(v0 v1:Value)(w:World)(K:Q0):=bR 9 1 [(str [])] [(0,1,v1)] w λt7 w1=>aA P0 49 [v0,t7] w1 λt8 w2=>gU .not t8 λt9=>aD t9 (K (.bool false) w2) (bW v0 λt11=>aF 1 t11 λt12=>aE false 1 t12 w2 λt13=>aC .add t13 (i64 1) λt14=>bW v0 λt15=>aF 1 t15 λt16=>bF 1 t16 t14 w2 λw3=>K (.bool true) w3)
theorem aAi{K:Q0}(h:W52 v0 v1 w K):aA P0 52 [v0,v1] w K:=
 tie _ 52 Tryz.f52 Yl _ w K 2 _ rfl mixed Tryz.func52 (by kernel_rfl) (by kernel_rfl) Tryz.call52 h
def Yk:bC:={js:=[],ds:=[(12,⟨[0,1,2,3,4,5,9,10],[[],[],[1],[1,2],[1,2,3],[],[5],[5,6],[1,2,3,4,5,6,7],[0,1,2,3,4,5,6,7,8],[0,1,2,3,4,5,6,7,8,9],[0,1,2,3,4,5,6,7,8,9,10]]⟩),(7,⟨[0,1,2,3,4,5,6,7,9,10,11,14,15],[[],[],[1],[1,2],[1,2,3],[],[5],[],[7],[],[9],[5,6,7,8,9,10],[5,6,7,8,9,10,11],[1,2,3,4,5,6,7,8,9,10,11,12],[0,1,2,3,4,5,6,7,8,9,10,11,12,13],[0,1,2,3,4,5,6,7,8,9,10,11,12,13,14],[0,1,2,3,4,5,6,7,8,9,10,11,12,13,14,15]]⟩)]}
def W53(v0 v1:Value)(w:World)(K:Q0):=aA P0 46 [v0,(i64 1)] w λt6 w1=>aN 73 zL1 w1 λt4 w2=>bF 3 t4 t6 w2 λw3=>aA P0 52 [v0,(str [61])] w3 λt8 w4=>aD t8 (bW v1 λt11=>aF 2 t11 λt12=>aE false 1 t12 w4.drew λt13=>aF 1 t4 λt14=>aE false 1 t14 w4.drew λt15=>aF 2 t4 λt18=>aE false 1 t18 w4.drew λt19=>aA P0 82 [v0] w4.drew λt17 w5=>(aE false 1 t18 w5 λx=>x=t19)/\(aE false 1 t14 w5 λx=>x=t15)/\(aE false 1 t12 w5 λx=>x=t13)/\bQ [(str []),(i64 0),(i64 0)] [(0,1,t15),(1,1,t17),(2,1,t19)] λc6=>bR 88 1 [(str []),(i64 0),(i64 0)] [(0,3,(.agg c6.toArray))] w5 λt21 w7=>(aE false 1 t12 w7 λx=>x=t13)/\bP P0 (Builtin.append_ #[84,84] 84 #[t13,t21]) w7 λt22 w8=>bW v1 λt23=>aF 2 t23 λt24=>bF 1 t24 t22 w8 λw9=>K (.tuple #[]) w9) (bW v0 λt26=>aF 1 t26 λt27=>aE false 1 t27 w4 λt28=>aC .sub t28 (i64 1) λt29=>bW v0 λt30=>aF 1 t30 λt31=>bF 1 t31 t29 w4 λw10=>bW v1 λt34=>aF 3 t34 λt35=>aE false 1 t35 w10.drew λt36=>aA P0 30 [v0] w10.drew λt38 w11=>(aE false 1 t35 w11 λx=>x=t36)/\bR 3 1 [(i64 0)] [(0,1,t38)] w11 λt39 w12=>(aE false 1 t35 w12 λx=>x=t36)/\bP P0 (Builtin.append_ #[30,30] 30 #[t36,t39]) w12 λt40 w13=>bW v1 λt41=>aF 3 t41 λt42=>bF 1 t42 t40 w13 λw14=>K (.tuple #[]) w14)
theorem aAh{K:Q0}(h:W53 v0 v1 w K):aA P0 53 [v0,v1] w K:=
 tie _ 53 Tryz.f53 Yk _ w K 2 _ rfl mixed Tryz.func53 (by kernel_rfl) (by kernel_rfl) Tryz.call53 h
def XS:bC:={js:=[(13,⟨[4],[],1⟩),(6,⟨[4],[],1⟩)],ds:=[]}
def W79(v0:Value)(w:World)(K:Q0):=bL [(i64 0)] w λs1 _ w2 L1=>eQ v0 λt7=>aC .lss (s1.getD 0 undef) t7 λt8=>aD t8 (aP (λJ3=>lJ v0 (s1.getD 0 undef) λt13=>aC .eql t13 (.int .u8 92) λt14=>aD t14 (aC .add (s1.getD 0 undef) (i64 1) λt16=>J3 [t16] w2) (jG v0 (some (s1.getD 0 undef)) none λt19=>aA P0 43 [t19,(str [36,123])] w2 λt20 w4=>aD t20 (aC .add (s1.getD 0 undef) (i64 1) λt23=>aC .add (s1.getD 0 undef) (i64 1) λt26=>jG v0 (some t26) none λt27=>aA P0 112 [t27] w4 λt28 w5=>aC .add t23 t28 λt29=>K (.tuple #[(s1.getD 0 undef),t29]) w5) (J3 [(s1.getD 0 undef)] w4))) λs3 _ w6=>aC .add (s3.getD 0 undef) (i64 1) λt10=>L1 [t10] w6) (K (.tuple #[(.int .i64 (-1)),(i64 0)]) w2)
theorem ZP{K:Q0}(h:W79 v0 w K):aA P0 79 [v0] w K:=
 tie _ 79 Tryz.f79 XS _ w K 1 _ rfl mixed Tryz.func79 (by kernel_rfl) (by kernel_rfl) Tryz.call79 h
def XR:bC:={js:=[(19,⟨[4,5],[],4⟩),(8,⟨[4],[],4⟩)],ds:=[]}
def W80(v0:Value)(w:World)(K:Q0):=aN 116 [(.pointer none),sN] w λt3 w1=>bL [(i64 0)] w1 λs2 _ w3 L2=>eQ v0 λt8=>aC .lss (s2.getD 0 undef) t8 λt9=>aD t9 (lJ v0 (s2.getD 0 undef) λt14=>aP (λJ4=>aC .eql t14 (.int .u8 92) λt16=>aD t16 (aC .add (s2.getD 0 undef) (i64 1) λt18=>lJ v0 t18 λt21=>aC .eql t21 (.int .u8 110) λt24=>aD t24 (J4 [t18,(.int .u8 10)] w3) (aC .eql t21 (.int .u8 116) λt26=>aD t26 (J4 [t18,(.int .u8 9)] w3) (aC .eql t21 (.int .u8 114) λt28=>aD t28 (J4 [t18,(.int .u8 13)] w3) (J4 [t18,t21] w3)))) (J4 [(s2.getD 0 undef),t14] w3)) λs4 _ w5=>aA P0 62 [t3,(s4.getD 1 undef)] w5 λt30 w6=>aC .add (s4.getD 0 undef) (i64 1) λt11=>L2 [t11] w6) (aA P0 64 [t3] w3 λt31 w7=>K t31 w7)
theorem ZO{K:Q0}(h:W80 v0 w K):aA P0 80 [v0] w K:=
 tie _ 80 Tryz.f80 XR _ w K 1 _ rfl mixed Tryz.func80 (by kernel_rfl) (by kernel_rfl) Tryz.call80 h
def XP:bC:={js:=[],ds:=[(17,⟨[0,1,2,3,4,5,6,7],[[],[],[1],[],[3],[3,4],[3,4,5],[],[0,1,2,3,4,5,6,7]]⟩)]}
def W82(v0:Value)(w:World)(K:Q0):=cI 67 v0 w λt1 w1=>aE false 1 t1 w1 λt6=>aA P0 114 [t6,(i64 0)] w1 λt7 w2=>aE false 1 t1 w2 λt8=>aA P0 29 [t8] w2 λt9 w3=>aN 73 zL1 w3 λt4 w4=>bF 3 t4 t9 w4 λw5=>aE false 1 t1 w5 λt10=>aA P0 52 [t10,(str [63])] w5 λt11 w6=>gU .not t11 λt12=>aD t12 (K t7 w6) (bR 3 3 [(i64 0),(i64 0),(i64 0)] [(0,1,t7),(1,1,(i64 0)),(2,1,(i64 0))] w6 λt15 w7=>aN 30 [sN] w7 λt5 w8=>bF 1 t5 t15 w8 λw9=>aE false 1 t1 w9.drew λt16=>aF 2 t4 λt17=>aE false 1 t17 w9.drew λt18=>aE false 1 t1 w9.drew λt19=>bW t19 λt20=>aF 5 t20 λt21=>aE false 1 t21 w9.drew λt22=>aA P0 50 [t16,t18,t22,(.func (.func 115) #[] #[t1,t5])] w9.drew λt24 w10=>aE false 1 t1 w10 λt25=>aE false 1 t5 w10 λt26=>aF 2 t4 λt27=>aE false 1 t27 w10 λt28=>bQ [(i64 0),(str []),sN,sN,(i64 0)] [(0,1,(i64 28)),(2,1,t26),(4,1,t28)] λc11=>aA P0 117 [t25,(.agg c11.toArray)] w10 λt30 w12=>K t30 w12)
theorem ZM{K:Q0}(h:W82 v0 w K):aA P0 82 [v0] w K:=
 tie _ 82 Tryz.f82 XP _ w K 1 _ rfl mixed Tryz.func82 (by kernel_rfl) (by kernel_rfl) Tryz.call82 h
def Sj:bC:={js:=[(15,⟨[3,4],[],1⟩),(8,⟨[3,4],[],1⟩)],ds:=[]}
def aC2(v0:Value)(w:World)(K:Q0):=bL [(i64 0),(i64 0)] w λs1 _ w2 L1=>eQ v0 λt7=>aC .lss (s1.getD 1 undef) t7 λt8=>aD t8 (aP (λJ3=>lJ v0 (s1.getD 1 undef) λt13=>aC .eql t13 (.int .u8 123) λt15=>aD t15 (aC .add (s1.getD 0 undef) (i64 1) λt17=>J3 [t17,(s1.getD 1 undef)] w2) (aC .eql t13 (.int .u8 125) λt19=>aD t19 (aC .sub (s1.getD 0 undef) (i64 1) λt21=>aC .eql t21 (i64 0) λt23=>aD t23 (aC .add (s1.getD 1 undef) (i64 1) λt25=>K t25 w2) (J3 [t21,(s1.getD 1 undef)] w2)) (aC .eql t13 (.int .u8 34) λt27=>aD t27 (jG v0 (some (s1.getD 1 undef)) none λt31=>aA P0 150 [t31] w2 λt32 w4=>aC .sub t32 (i64 1) λt33=>aC .add (s1.getD 1 undef) t33 λt34=>J3 [(s1.getD 0 undef),t34] w4) (J3 [(s1.getD 0 undef),(s1.getD 1 undef)] w2)))) λs3 _ w5=>aC .add (s3.getD 1 undef) (i64 1) λt10=>L1 [(s3.getD 0 undef),t10] w5) (eQ v0 λt36=>K t36 w2)
theorem VA{K:Q0}(h:aC2 v0 w K):aA P0 112 [v0] w K:=
 tie _ 112 Tryz.f112 Sj _ w K 1 _ rfl mixed Tryz.func112 (by kernel_rfl) (by kernel_rfl) Tryz.call112 h
def Sg:bC:={js:=[(13,⟨[5],[],2⟩)],ds:=[]}
def aAL(v0 v1:Value)(w:World)(K:Q0):=aC .eql v1 (i64 6) λt10=>aD t10 (aA P0 151 [v0] w λt12 w1=>K t12 w1) (aC .add v1 (i64 1) λt15=>aA P0 114 [v0,t15] w λt16 w2=>bL [t16] w2 λs3 _ w4 L3=>aA P0 29 [v0] w4 λt18 w5=>aN 73 zL1 w5 λt6 w6=>bF 3 t6 t18 w6 λw7=>aE true 3 t6 w7 λt19=>aA P0 152 [t19,v1] w7 λt21 w8=>aC .eql t21 (i64 0) λt23=>aD t23 (K (s3.getD 0 undef) w8) (bW v0 λt26=>aF 1 t26 λt27=>aE false 1 t27 w8 λt28=>aC .add t28 (i64 1) λt29=>bW v0 λt30=>aF 1 t30 λt31=>bF 1 t31 t29 w8 λw9=>aC .add v1 (i64 1) λt34=>aA P0 114 [v0,t34] w9 λt35 w10=>bR 3 2 [(i64 0),(i64 0)] [(0,1,(s3.getD 0 undef)),(1,1,t35)] w10 λt40 w11=>aF 2 t6 λt41=>aE false 1 t41 w11 λt42=>bQ [(i64 0),(str []),sN,sN,(i64 0)] [(0,1,t21),(2,1,t40),(4,1,t42)] λc12=>aA P0 117 [v0,(.agg c12.toArray)] w11 λt44 w13=>L3 [t44] w13))
theorem KV{K:Q0}(h:aAL v0 v1 w K):aA P0 114 [v0,v1] w K:=
 tie _ 114 Tryz.f114 Sg _ w K 2 _ rfl mixed Tryz.func114 (by kernel_rfl) (by kernel_rfl) Tryz.call114 h
def Sf:bC:={js:=[],ds:=[(4,⟨[0,1,3],[[],[],[1],[0,1,2],[0,1,2,3]]⟩),(1,⟨[0,1,3],[[],[],[1],[0,1,2],[0,1,2,3]]⟩)]}
def aC0(v0 v1:Value)(w:World)(K:Q0):=aE false 1 v1 w.drew λt2=>aE false 1 v0 w.drew λt3=>aA P0 82 [t3] w.drew λt4 w1=>(aE false 1 v1 w1 λx=>x=t2)/\bU none 1 t2 (i64 1) λt5=>bF 1 t5 t4 w1 λw2=>aE false 1 v0 w2 λt6=>aA P0 116 [t6,(str [58])] w2 λt7 w3=>aE false 1 v1 w3.drew λt8=>aE false 1 v0 w3.drew λt9=>aA P0 82 [t9] w3.drew λt10 w4=>(aE false 1 v1 w4 λx=>x=t8)/\bU none 1 t8 (i64 2) λt11=>bF 1 t11 t10 w4 λw5=>K (.tuple #[]) w5
theorem Vy{K:Q0}(h:aC0 v0 v1 w K):aA P0 115 [v0,v1] w K:=
 tie _ 115 Tryz.f115 Sf _ w K 2 _ rfl mixed Tryz.func115 (by kernel_rfl) (by kernel_rfl) Tryz.call115 h
def Se:bC:={js:=[],ds:=[]}
def aCZ(v0 v1:Value)(w:World)(K:Q0):=aA P0 52 [v0,v1] w λt6 w1=>gU .not t6 λt7=>aD t7 (aA P0 29 [v0] w1 λt9 w2=>gX false 2 1 t9 λt10=>aA P0 31 [(i64 50),t10] w2 λt11 w3=>K (.tuple #[]) w3) (K (.tuple #[]) w1)
theorem Vx{K:Q0}(h:aCZ v0 v1 w K):aA P0 116 [v0,v1] w K:=
 tie _ 116 Tryz.f116 Se _ w K 2 _ rfl mixed Tryz.func116 (by kernel_rfl) (by kernel_rfl) Tryz.call116 h
def Sd:bC:={js:=[],ds:=[(3,⟨[0,1,2,3,4,5,6,7,8,9,10,11,14,15],[[],[0],[0,1],[0,1,2],[],[4],[4,5],[4,5,6],[4,5,6,7],[4,5,6,7,8],[4,5,6,7,8,9],[],[11],[4,5,6,7,8,9,10,11,12],[0,1,2,3,4,5,6,7,8,9,10,11,12,13],[0,1,2,3,4,5,6,7,8,9,10,11,12,13,14],[0,1,2,3,4,5,6,7,8,9,10,11,12,13,14,15]]⟩)]}
def aCY(v0 v1:Value)(w:World)(K:Q0):=cI 93 v1 w λt3 w1=>bW v0 λt6=>aF 3 t6 λt7=>aE false 1 t7 w1.drew λt8=>bW v0 λt10=>aF 3 t10 λt11=>aE false 1 t11 w1.drew λt12=>bW t12 λt13=>aF 0 t13 λt14=>aE false 1 t14 w1.drew λt15=>aE true 5 t3 w1.drew λt16=>bR 93 1 [(i64 0),(str []),sN,sN,(i64 0)] [(0,5,t16)] w1.drew λt17 w2=>(aE false 1 t14 w2 λx=>x=t15)/\(aE false 1 t11 w2 λx=>x=t12)/\(aE false 1 t7 w2 λx=>x=t8)/\bP P0 (Builtin.append_ #[28,28] 28 #[t15,t17]) w2 λt18 w3=>(aE false 1 t7 w3 λx=>x=t8)/\bW t8 λt19=>aF 0 t19 λt20=>bF 1 t20 t18 w3 λw4=>bW v0 λt22=>aF 3 t22 λt23=>aE false 1 t23 w4 λt24=>bW t24 λt25=>aF 0 t25 λt26=>aE false 1 t26 w4 λt27=>bK t27 λt28=>aC .sub t28 (i64 1) λt29=>K t29 w4
theorem Vw{K:Q0}(h:aCY v0 v1 w K):aA P0 117 [v0,v1] w K:=
 tie _ 117 Tryz.f117 Sd _ w K 2 _ rfl mixed Tryz.func117 (by kernel_rfl) (by kernel_rfl) Tryz.call117 h
def RB:bC:={js:=[(13,⟨[3],[],1⟩),(6,⟨[3],[],1⟩)],ds:=[]}
def aCD(v0:Value)(w:World)(K:Q0):=bL [(i64 1)] w λs1 _ w2 L1=>eQ v0 λt6=>aC .lss (s1.getD 0 undef) t6 λt7=>aD t7 (aP (λJ3=>lJ v0 (s1.getD 0 undef) λt13=>aC .eql t13 (.int .u8 34) λt14=>aD t14 (aC .add (s1.getD 0 undef) (i64 1) λt16=>K t16 w2) (lJ v0 (s1.getD 0 undef) λt20=>aC .eql t20 (.int .u8 92) λt21=>aD t21 (aC .add (s1.getD 0 undef) (i64 1) λt23=>J3 [t23] w2) (jG v0 (some (s1.getD 0 undef)) none λt27=>aA P0 43 [t27,(str [36,123])] w2 λt28 w4=>aD t28 (aC .add (s1.getD 0 undef) (i64 1) λt32=>jG v0 (some t32) none λt33=>aA P0 112 [t33] w4 λt34 w5=>aC .add (s1.getD 0 undef) t34 λt35=>J3 [t35] w5) (J3 [(s1.getD 0 undef)] w4)))) λs3 _ w6=>aC .add (s3.getD 0 undef) (i64 1) λt9=>L1 [t9] w6) (eQ v0 λt37=>K t37 w2)
theorem UY{K:Q0}(h:aCD v0 w K):aA P0 150 [v0] w K:=
 tie _ 150 Tryz.f150 RB _ w K 1 _ rfl mixed Tryz.func150 (by kernel_rfl) (by kernel_rfl) Tryz.call150 h
def RA:bC:={js:=[(8,⟨[4],[],4⟩)],ds:=[(30,⟨[0,1,2,3,4,5,6,7],[[],[],[1],[],[3],[3,4],[3,4,5],[],[0,1,2,3,4,5,6,7]]⟩)]}
def aCC(v0:Value)(w:World)(K:Q0):=cI 67 v0 w λt1 w1=>aE false 1 t1 w1 λt6=>aA P0 29 [t6] w1 λt7 w2=>aN 73 zL1 w2 λt3 w3=>bF 3 t3 t7 w3 λw4=>aP (λJ5=>aE false 1 t1 w4 λt9=>bR 9 1 [(str [])] [(0,1,(str [33]))] w4 λt10 w6=>aA P0 49 [t9,t10] w6 λt11 w7=>aD t11 (J5 [(i64 14)] w7) (aE false 1 t1 w7 λt13=>bR 9 1 [(str [])] [(0,1,(str [45]))] w7 λt14 w8=>aA P0 49 [t13,t14] w8 λt15 w9=>aD t15 (J5 [(i64 13)] w9) (aE false 1 t1 w9 λt33=>aA P0 205 [t33] w9 λt34 w10=>K t34 w10))) λs5 _ w11=>aN 3 zL3 w11 λt5 w12=>bF 1 t5 (i64 0) w12 λw13=>aE false 1 t1 w13.drew λt16=>aF 2 t3 λt17=>aE false 1 t17 w13.drew λt18=>aE false 1 t1 w13.drew λt19=>bW t19 λt20=>aF 5 t20 λt21=>aE false 1 t21 w13.drew λt22=>aA P0 50 [t16,t18,t22,(.func (.func 204) #[] #[t1,t5])] w13.drew λt24 w14=>aE false 1 t1 w14 λt25=>aE false 1 t5 w14 λt27=>bR 3 1 [(i64 0)] [(0,1,t27)] w14 λt28 w15=>aF 2 t3 λt29=>aE false 1 t29 w15 λt30=>bQ [(i64 0),(str []),sN,sN,(i64 0)] [(0,1,(s5.getD 0 undef)),(2,1,t28),(4,1,t30)] λc16=>aA P0 117 [t25,(.agg c16.toArray)] w15 λt32 w17=>K t32 w17
theorem UX{K:Q0}(h:aCC v0 w K):aA P0 151 [v0] w K:=
 tie _ 151 Tryz.f151 RA _ w K 1 _ rfl mixed Tryz.func151 (by kernel_rfl) (by kernel_rfl) Tryz.call151 h
def Rz:bC:={js:=[],ds:=[]}
def aCB(v0 v1:Value)(w:World)(K:Q0):=cI 73 v0 w λt2 w1=>aF 0 t2 λt5=>aE false 1 t5 w1 λt6=>aC .neq t6 (i64 4) λt7=>aD t7 (K (i64 0) w1) (aC .mul v1 (i64 100) λt9=>bR 9 13 (List.replicate 13 (str [])) [(0,1,(str [124,124])),(1,1,(str [38,38])),(2,1,(str [61,61])),(3,1,(str [33,61])),(4,1,(str [60])),(5,1,(str [62])),(6,1,(str [60,61])),(7,1,(str [62,61])),(8,1,(str [43])),(9,1,(str [45])),(10,1,(str [42])),(11,1,(str [47])),(12,1,(str [37]))] w1 λt10 w2=>aF 1 t2 λt11=>aE false 1 t11 w2 λt12=>aA P0 113 [t10,t12] w2 λt13 w3=>aC .add t9 t13 λt14=>aC .eql t14 (i64 0) λt16=>aD t16 (K (i64 27) w3) (aC .eql t14 (i64 101) λt18=>aD t18 (K (i64 26) w3) (aC .eql t14 (i64 202) λt20=>aD t20 (K (i64 20) w3) (aC .eql t14 (i64 203) λt22=>aD t22 (K (i64 21) w3) (aC .eql t14 (i64 304) λt24=>aD t24 (K (i64 22) w3) (aC .eql t14 (i64 305) λt26=>aD t26 (K (i64 23) w3) (aC .eql t14 (i64 306) λt28=>aD t28 (K (i64 24) w3) (aC .eql t14 (i64 307) λt30=>aD t30 (K (i64 25) w3) (aC .eql t14 (i64 408) λt32=>aD t32 (K (i64 15) w3) (aC .eql t14 (i64 409) λt34=>aD t34 (K (i64 16) w3) (aC .eql t14 (i64 510) λt36=>aD t36 (K (i64 17) w3) (aC .eql t14 (i64 511) λt38=>aD t38 (K (i64 18) w3) (aC .eql t14 (i64 512) λt40=>aD t40 (K (i64 19) w3) (K (i64 0) w3))))))))))))))
theorem UW{K:Q0}(h:aCB v0 v1 w K):aA P0 152 [v0,v1] w K:=
 tie _ 152 Tryz.f152 Rz _ w K 2 _ rfl mixed Tryz.func152 (by kernel_rfl) (by kernel_rfl) Tryz.call152 h
def QY:bC:={js:=[],ds:=[]}
def aCh(v0 v1:Value)(w:World)(K:Q0):=aE false 1 v0 w λt2=>bW t2 λt3=>aF 1 t3 λt4=>aE false 1 t4 w λt5=>aC .add t5 (i64 1) λt6=>bW t2 λt7=>aF 1 t7 λt8=>bF 1 t8 t6 w λw1=>aE false 1 v0 w1 λt9=>aA P0 151 [t9] w1 λt10 w2=>bF 1 v1 t10 w2 λw3=>K (.tuple #[]) w3
theorem Uz{K:Q0}(h:aCh v0 v1 w K):aA P0 204 [v0,v1] w K:=
 tie _ 204 Tryz.f204 QY _ w K 2 _ rfl mixed Tryz.func204 (by kernel_rfl) (by kernel_rfl) Tryz.call204 h
def QX:bC:={js:=[(5,⟨[3],[],2⟩)],ds:=[(31,⟨[0,1,3,6,7,8],[[],[],[1],[1,2],[],[4],[],[6],[1,2,3,4,5,6,7],[0,1,2,3,4,5,6,7,8],[0,1,2,3,4,5,6,7,8,9]]⟩),(13,⟨[0,1,3,6,7,8],[[],[],[1],[1,2],[],[4],[],[6],[1,2,3,4,5,6,7],[0,1,2,3,4,5,6,7,8],[0,1,2,3,4,5,6,7,8,9]]⟩)]}
def aCg(v0:Value)(w:World)(K:Q0):=cI 67 v0 w λt1 w1=>aE false 1 t1 w1 λt7=>aA P0 236 [t7] w1 λt8 w2=>bL [t8] w2 λs3 _ w4 L3=>aE false 1 t1 w4 λt9=>aA P0 29 [t9] w4 λt10 w5=>aN 73 zL1 w5 λt4 w6=>bF 3 t4 t10 w6 λw7=>aE false 1 t1 w7 λt13=>aA P0 52 [t13,(str [46])] w7 λt14 w8=>aD t14 (aE false 1 t1 w8.drew λt15=>aE false 1 t1 w8.drew λt16=>aF 2 t4 λt21=>aE false 1 t21 w8.drew λt22=>(aA P0 46 [t16,(i64 1)] w8.drew λt17 w9=>(aE false 1 t21 w9 λx=>x=t22)/\(aE false 1 t1 w9 λx=>x=t15)/\gX false 1 1 t17 λt18=>(aE false 1 t21 w9 λx=>x=t22)/\(aE false 1 t1 w9 λx=>x=t15)/\bR 3 1 [(i64 0)] [(0,1,(s3.getD 0 undef))] w9 λt20 w10=>(aE false 1 t21 w10 λx=>x=t22)/\(aE false 1 t1 w10 λx=>x=t15)/\bQ [(i64 0),(str []),sN,sN,(i64 0)] [(0,1,(i64 10)),(1,1,t18),(2,1,t20),(4,1,t22)] λc11=>aA P0 117 [t15,(.agg c11.toArray)] w10 λt24 w12=>L3 [t24] w12)/\((aE false 1 t21 w8.drew λx=>x=t22)/\(aE false 1 t1 w8.drew λx=>x=t16)/\(aE false 1 t1 w8.drew λx=>x=t15)/\(aA P0 46 [t16,(i64 1)] w8.drew λt17 w13=>(aE false 1 t21 w13 λx=>x=t22)/\(aE false 1 t1 w13 λx=>x=t15)/\gX false 1 1 t17 λt18=>bR 3 1 [(i64 0)] [(0,1,(s3.getD 0 undef))] w13 λt20 w14=>(aE false 1 t21 w14 λx=>x=t22)/\(aE false 1 t1 w14 λx=>x=t15)/\bQ [(i64 0),(str []),sN,sN,(i64 0)] [(0,1,(i64 10)),(1,1,t18),(2,1,t20),(4,1,t22)] λc15=>aA P0 117 [t15,(.agg c15.toArray)] w14 λt24 w16=>L3 [t24] w16)/\(bR 3 1 [(i64 0)] [(0,1,(s3.getD 0 undef))] w8.drew λt20 w17=>(aE false 1 t21 w17 λx=>x=t22)/\(aE false 1 t1 w17 λx=>x=t16)/\(aE false 1 t1 w17 λx=>x=t15)/\aA P0 46 [t16,(i64 1)] w17 λt17 w18=>(aE false 1 t21 w18 λx=>x=t22)/\(aE false 1 t1 w18 λx=>x=t15)/\gX false 1 1 t17 λt18=>bQ [(i64 0),(str []),sN,sN,(i64 0)] [(0,1,(i64 10)),(1,1,t18),(2,1,t20),(4,1,t22)] λc19=>aA P0 117 [t15,(.agg c19.toArray)] w18 λt24 w20=>L3 [t24] w20))) (aE false 1 t1 w8 λt26=>bR 9 1 [(str [])] [(0,1,(str [91]))] w8 λt27 w21=>aA P0 49 [t26,t27] w21 λt28 w22=>aD t28 (aN 3 zL3 w22 λt5 w23=>aN 4 [(.bool false)] w23 λt6 w24=>bF 1 t5 (i64 0) w24 λw25=>bF 1 t6 (.bool false) w25 λw26=>aE false 1 t1 w26 λt29=>aF 2 t4 λt30=>aE false 1 t30 w26 λt31=>aA P0 50 [t29,t31,(.bool true),(.func (.func 237) #[] #[t1,t6,t5])] w26 λt33 w27=>aE false 1 t6 w27 λt34=>gU .not t34 λt35=>aD t35 (aE false 1 t1 w27 λt36=>aE false 1 t5 w27 λt38=>bR 3 2 [(i64 0),(i64 0)] [(0,1,(s3.getD 0 undef)),(1,1,t38)] w27 λt39 w28=>aF 2 t4 λt40=>aE false 1 t40 w28 λt41=>bQ [(i64 0),(str []),sN,sN,(i64 0)] [(0,1,(i64 11)),(2,1,t39),(4,1,t41)] λc29=>aA P0 117 [t36,(.agg c29.toArray)] w28 λt43 w30=>L3 [t43] w30) (aE false 1 t1 w27 λt44=>aA P0 116 [t44,(str [46])] w27 λt45 w31=>aE false 1 t1 w31.drew λt46=>aE false 1 t1 w31.drew λt47=>aF 2 t4 λt52=>aE false 1 t52 w31.drew λt53=>(aA P0 46 [t47,(i64 1)] w31.drew λt48 w32=>(aE false 1 t52 w32 λx=>x=t53)/\(aE false 1 t1 w32 λx=>x=t46)/\gX false 1 1 t48 λt49=>(aE false 1 t52 w32 λx=>x=t53)/\(aE false 1 t1 w32 λx=>x=t46)/\bR 3 1 [(i64 0)] [(0,1,(s3.getD 0 undef))] w32 λt51 w33=>(aE false 1 t52 w33 λx=>x=t53)/\(aE false 1 t1 w33 λx=>x=t46)/\bQ [(i64 0),(str []),sN,sN,(i64 0)] [(0,1,(i64 30)),(1,1,t49),(2,1,t51),(4,1,t53)] λc34=>aA P0 117 [t46,(.agg c34.toArray)] w33 λt55 w35=>L3 [t55] w35)/\((aE false 1 t52 w31.drew λx=>x=t53)/\(aE false 1 t1 w31.drew λx=>x=t47)/\(aE false 1 t1 w31.drew λx=>x=t46)/\(aA P0 46 [t47,(i64 1)] w31.drew λt48 w36=>(aE false 1 t52 w36 λx=>x=t53)/\(aE false 1 t1 w36 λx=>x=t46)/\gX false 1 1 t48 λt49=>bR 3 1 [(i64 0)] [(0,1,(s3.getD 0 undef))] w36 λt51 w37=>(aE false 1 t52 w37 λx=>x=t53)/\(aE false 1 t1 w37 λx=>x=t46)/\bQ [(i64 0),(str []),sN,sN,(i64 0)] [(0,1,(i64 30)),(1,1,t49),(2,1,t51),(4,1,t53)] λc38=>aA P0 117 [t46,(.agg c38.toArray)] w37 λt55 w39=>L3 [t55] w39)/\(bR 3 1 [(i64 0)] [(0,1,(s3.getD 0 undef))] w31.drew λt51 w40=>(aE false 1 t52 w40 λx=>x=t53)/\(aE false 1 t1 w40 λx=>x=t47)/\(aE false 1 t1 w40 λx=>x=t46)/\aA P0 46 [t47,(i64 1)] w40 λt48 w41=>(aE false 1 t52 w41 λx=>x=t53)/\(aE false 1 t1 w41 λx=>x=t46)/\gX false 1 1 t48 λt49=>bQ [(i64 0),(str []),sN,sN,(i64 0)] [(0,1,(i64 30)),(1,1,t49),(2,1,t51),(4,1,t53)] λc42=>aA P0 117 [t46,(.agg c42.toArray)] w41 λt55 w43=>L3 [t55] w43)))) (K (s3.getD 0 undef) w22))
theorem Uy{K:Q0}(h:aCg v0 w K):aA P0 205 [v0] w K:=
 tie _ 205 Tryz.f205 QX _ w K 1 _ rfl mixed Tryz.func205 (by kernel_rfl) (by kernel_rfl) Tryz.call205 h
def QN:bC:={js:=[(6,⟨[],[2],5⟩),(23005,⟨[50],[],48⟩)],ds:=[(43,⟨[0,1,3,4],[[],[],[1],[1,2],[],[0,1,2,3,4]]⟩),(42,⟨[0,1,2,4],[[],[0],[],[2],[0,1,2,3],[0,1,2,3,4]]⟩),(13,⟨[0,1,2,4],[[],[0],[],[2],[0,1,2,3],[0,1,2,3,4]]⟩)]}
def aB9(v0:Value)(w:World)(K:Q0):=cI 67 v0 w λt1 w1=>aE false 1 t1 w1 λt6=>aA P0 29 [t6] w1 λt7 w2=>aN 73 zL1 w2 λt3 w3=>bF 3 t3 t7 w3 λw4=>aF 2 t3 λt8=>aE false 1 t8 w4 λt9=>bQ [(i64 0),(str []),sN,sN,(i64 0)] [(4,1,t9)] λc5=>aN 93 zL4 w4 λt4 w6=>bF 5 t4 (.agg c5.toArray) w6 λw7=>aP (λJ8=>aF 0 t3 λt15=>aE false 1 t15 w7 λt16=>aC .eql t16 (i64 2) λt17=>aD t17 (aE false 1 t1 w7 λt18=>bW t18 λt19=>aF 1 t19 λt20=>aE false 1 t20 w7 λt21=>aC .add t21 (i64 1) λt22=>bW t18 λt23=>aF 1 t23 λt24=>bF 1 t24 t22 w7 λw9=>aF 1 t3 λt25=>aE false 1 t25 w9.drew λt26=>aF 0 t4 λt27=>bF 1 t27 (i64 4) w9.drew λw10=>(aE false 1 t25 w10 λx=>x=t26)/\aF 1 t4 λt28=>bF 1 t28 t26 w10 λw11=>J8 [] w11) (aF 0 t3 λt30=>aE false 1 t30 w7 λt31=>aC .eql t31 (i64 3) λt32=>aD t32 (aE false 1 t1 w7 λt33=>bW t33 λt34=>aF 1 t34 λt35=>aE false 1 t35 w7 λt36=>aC .add t36 (i64 1) λt37=>bW t33 λt38=>aF 1 t38 λt39=>bF 1 t39 t37 w7 λw12=>aE false 1 t1 w12 λt40=>aE true 3 t3 w12 λt41=>aA P0 258 [t40,t41] w12 λt42 w13=>K t42 w13) (aF 0 t3 λt44=>aE false 1 t44 w7 λt45=>aC .eql t45 (i64 1) λt46=>cX (eD t46 true) [undef] w7 (λJ14=>aF 1 t3 λt48=>aE false 1 t48 w7 λt49=>aC .neq t49 (str [102,111,114]) λt50=>J14 [t50] w7) λs14 _ w15=>bG t46 (s14.getD 0 undef) (.bool false) λt51=>aD t51 (aE false 1 t1 w15 λt52=>bW t52 λt53=>aF 1 t53 λt54=>aE false 1 t54 w15 λt55=>aC .add t55 (i64 1) λt56=>bW t52 λt57=>aF 1 t57 λt58=>bF 1 t58 t56 w15 λw16=>aE false 1 t1 w16 λt59=>bR 9 1 [(str [])] [(0,1,(str [40]))] w16 λt60 w17=>aA P0 49 [t59,t60] w17 λt61 w18=>gU .not t61 λt62=>aD t62 (aF 1 t3 λt63=>aE false 1 t63 w18 λt64=>aA P0 259 [t64] w18 λt65 w19=>aF 0 t4 λt66=>bF 1 t66 t65 w19 λw20=>aF 0 t4 λt67=>aE false 1 t67 w20 λt68=>aC .eql t68 (i64 9) λt69=>aD t69 (aF 1 t3 λt70=>aE false 1 t70 w20 λt71=>aF 1 t4 λt72=>bF 1 t72 t71 w20 λw21=>J8 [] w21) (J8 [] w20)) (aF 1 t3 λt73=>aE false 1 t73 w18.drew λt74=>aF 0 t4 λt75=>bF 1 t75 (i64 12) w18.drew λw22=>(aE false 1 t73 w22 λx=>x=t74)/\aF 1 t4 λt76=>bF 1 t76 t74 w22 λw23=>aE false 1 t1 w23.drew λt77=>aE false 1 t1 w23.drew λt78=>aA P0 29 [t78] w23.drew λt79 w24=>(aE false 1 t1 w24 λx=>x=t77)/\gX false 2 1 t79 λt80=>aA P0 50 [t77,t80,(.bool true),(.func (.func 260) #[] #[t1,t4])] w24 λt82 w25=>J8 [] w25)) (aE false 1 t1 w15 λt84=>bR 9 1 [(str [])] [(0,1,(str [40]))] w15 λt85 w26=>aA P0 49 [t84,t85] w26 λt86 w27=>aD t86 (aN 3 zL3 w27 λt5 w28=>bF 1 t5 (i64 0) w28 λw29=>aE false 1 t1 w29 λt87=>aF 2 t3 λt88=>aE false 1 t88 w29 λt89=>aA P0 50 [t87,t89,(.bool true),(.func (.func 262) #[] #[t1,t5])] w29 λt91 w30=>aE false 1 t5 w30 λt92=>K t92 w30) (aE false 1 t1 w27 λt94=>bR 9 1 [(str [])] [(0,1,(str [91]))] w27 λt95 w31=>aA P0 49 [t94,t95] w31 λt96 w32=>aD t96 (aE false 1 t1 w32 λt97=>aF 2 t3 λt98=>aE false 1 t98 w32 λt99=>aA P0 50 [t97,t99,(.bool true),(.func (.func 263) #[] #[t1,t3,t4])] w32 λt101 w33=>J8 [] w33) (aE false 1 t1 w32 λt103=>bR 9 1 [(str [])] [(0,1,(str [123]))] w32 λt104 w34=>aA P0 49 [t103,t104] w34 λt105 w35=>aD t105 (aE false 1 t1 w35 λt106=>aF 2 t3 λt107=>aE false 1 t107 w35 λt108=>aA P0 50 [t106,t108,(.bool false),(.func (.func 265) #[] #[t1,t3,t4])] w35 λt110 w36=>J8 [] w36) (aF 2 t3 λt11=>aE false 1 t11 w35 λt12=>aA P0 31 [(i64 50),t12] w35 λt13 w37=>J8 [] w37))))))) λs8 _ w38=>aE false 1 t1 w38 λt111=>aE true 5 t4 w38 λt112=>aA P0 117 [t111,t112] w38 λt113 w39=>K t113 w39
theorem Uo{K:Q0}(h:aB9 v0 w K):aA P0 236 [v0] w K:=
 tie _ 236 Tryz.f236 QN _ w K 1 _ rfl mixed Tryz.func236 (by kernel_rfl) (by kernel_rfl) Tryz.call236 h
def QM:bC:={js:=[(2,⟨[],[],1⟩)],ds:=[]}
def aB8(v0 v1 v2:Value)(w:World)(K:Q0):=aE false 1 v0 w λt3=>bW t3 λt4=>aF 1 t4 λt5=>aE false 1 t5 w λt6=>aC .add t6 (i64 1) λt7=>bW t3 λt8=>aF 1 t8 λt9=>bF 1 t9 t7 w λw1=>aP (λJ2=>aE false 1 v0 w1 λt10=>aA P0 52 [t10,(str [42])] w1 λt11 w3=>bF 1 v1 t11 w3 λw4=>aE false 1 v1 w4 λt12=>gU .not t12 λt13=>aD t13 (aE false 1 v0 w4 λt14=>aA P0 82 [t14] w4 λt15 w5=>bF 1 v2 t15 w5 λw6=>J2 [] w6) (J2 [] w4)) λs2 _ w7=>aE false 1 v0 w7 λt16=>aA P0 116 [t16,(str [93])] w7 λt17 w8=>K (.tuple #[]) w8
theorem Un{K:Q0}(h:aB8 v0 v1 v2 w K):aA P0 237 [v0,v1,v2] w K:=
 tie _ 237 Tryz.f237 QM _ w K 3 _ rfl mixed Tryz.func237 (by kernel_rfl) (by kernel_rfl) Tryz.call237 h
def QH:bC:={js:=[(42,⟨[],[],12⟩),(34,⟨[],[],12⟩),(28,⟨[],[],12⟩),(18,⟨[],[],10⟩),(14,⟨[8,9],[],8⟩)],ds:=[(50,⟨[0,1,2,3,4,5],[[],[],[0,1],[],[],[3,4],[0,1,2],[0,1,2,3,4,5,6]]⟩),(39,⟨[0,1,2,3,4,5,7,8,12],[[],[0],[],[],[],[3,4],[3,4,5],[],[3,4,5,6,7],[2,3,4,5,6,7,8],[2,3,4,5,6,7,8,9],[0,1,2,3,4,5,6,7,8,9,10],[0,1,2,3,4,5,6,7,8,9,10,11],[0,1,2,3,4,5,6,7,8,9,10,11,12]]⟩),(32,⟨[0,1,2,3],[[],[0],[],[2],[0,1],[0,1,2,3,4]]⟩),(15,⟨[0,1,2,3,4],[[],[0],[],[2],[2,3],[],[],[0,1,5,6],[0,1,2,3,4,5,6,7]]⟩),(9,⟨[0,1,2,4,5,6,8],[[],[],[1],[1,2],[],[4],[1,2,3,4,5],[0,1,2,3,4,5,6],[0,1,2,3,4,5,6,7]]⟩)]}
def aB5(v0 v1:Value)(w:World)(K:Q0):=cI 67 v0 w λt2 w1=>cI 73 v1 w1 λt3 w2=>aF 1 t3 λt13=>aE false 1 t13 w2 λt14=>aA P0 79 [t14] w2 λt15 w3=>bS 0 t15 λt16=>bS 1 t15 λt17=>aC .lss t16 (i64 0) λt19=>aD t19 (aE false 1 t2 w3.drew λt20=>aF 1 t3 λt21=>aE false 1 t21 w3.drew λt22=>aF 2 t3 λt24=>aE false 1 t24 w3.drew λt25=>aA P0 80 [t22] w3.drew λt23 w4=>(aE false 1 t24 w4 λx=>x=t25)/\(aE false 1 t2 w4 λx=>x=t20)/\bQ [(i64 0),(str []),sN,sN,(i64 0)] [(0,1,(i64 5)),(1,1,t23),(4,1,t25)] λc5=>aA P0 117 [t20,(.agg c5.toArray)] w4 λt27 w6=>K t27 w6) (aF 2 t3 λt28=>aE false 1 t28 w3 λt29=>bQ [(i64 0),(str []),sN,sN,(i64 0)] [(0,1,(i64 6)),(4,1,t29)] λc7=>aN 93 zL4 w3 λt7 w8=>bF 5 t7 (.agg c7.toArray) w8 λw9=>aP (λJ10=>aF 1 t3 λt31=>aE false 1 t31 w9.drew λt32=>aF 2 t3 λt33=>aE false 1 t33 w9.drew λt34=>aC .add t34 (i64 1) λt35=>(aN 9 [(str [])] w9.drew λt8 w11=>(aE false 1 t33 w11 λx=>x=t34)/\(aE false 1 t31 w11 λx=>x=t32)/\aN 3 zL3 w11 λt9 w12=>(aE false 1 t33 w12 λx=>x=t34)/\(aE false 1 t31 w12 λx=>x=t32)/\bF 1 t8 t32 w12 λw13=>(aE false 1 t33 w13 λx=>x=t34)/\bF 1 t9 t35 w13 λw14=>J10 [t8,t9] w14)/\(aN 3 zL3 w9.drew λt9 w15=>(aE false 1 t33 w15 λx=>x=t34)/\(aE false 1 t31 w15 λx=>x=t32)/\aN 9 [(str [])] w15 λt8 w16=>(aE false 1 t33 w16 λx=>x=t34)/\(aE false 1 t31 w16 λx=>x=t32)/\bF 1 t8 t32 w16 λw17=>(aE false 1 t33 w17 λx=>x=t34)/\bF 1 t9 t35 w17 λw18=>J10 [t8,t9] w18)) λs10 _ w19=>bL [] w19 λs20 _ w21 L20=>aE false 1 (s10.getD 0 undef) w21 λt36=>aC .neq t36 (str []) λt37=>aD t37 (aE false 1 (s10.getD 0 undef) w21 λt39=>aA P0 79 [t39] w21 λt40 w22=>bS 0 t40 λt41=>bS 1 t40 λt42=>aN 3 zL3 w22 λt10 w23=>aN 3 zL3 w23 λt11 w24=>bF 1 t10 t41 w24 λw25=>bF 1 t11 t42 w25 λw26=>aP (λJ27=>aE false 1 t10 w26 λt43=>aC .lss t43 (i64 0) λt44=>aD t44 (aE false 1 (s10.getD 0 undef) w26.drew λt45=>eQ t45 λt46=>aE false 1 (s10.getD 0 undef) w26.drew λt47=>eQ t47 λt48=>bF 1 t10 t46 w26.drew λw28=>(aE false 1 (s10.getD 0 undef) w28 λx=>x=t47)/\bF 1 t11 t48 w28 λw29=>J27 [] w29) (J27 [] w26)) λs27 _ w30=>aP (λJ31=>aE false 1 t10 w30 λt49=>aC .gtr t49 (i64 0) λt50=>aD t50 (aF 2 t7 λt51=>aE false 1 t51 w30.drew λt52=>aE false 1 t2 w30.drew λt53=>aE false 1 (s10.getD 0 undef) w30.drew λt54=>aE false 1 t10 w30.drew λt55=>jG t54 none (some t55) λt56=>aE false 1 (s10.getD 1 undef) w30.drew λt58=>aA P0 80 [t56] w30.drew λt57 w32=>(aE false 1 (s10.getD 1 undef) w32 λx=>x=t58)/\(aE false 1 t2 w32 λx=>x=t53)/\(aE false 1 t51 w32 λx=>x=t52)/\bQ [(i64 0),(str []),sN,sN,(i64 0)] [(0,1,(i64 5)),(1,1,t57),(4,1,t58)] λc33=>aA P0 117 [t53,(.agg c33.toArray)] w32 λt60 w34=>(aE false 1 t51 w34 λx=>x=t52)/\bR 3 1 [(i64 0)] [(0,1,t60)] w34 λt61 w35=>(aE false 1 t51 w35 λx=>x=t52)/\bP P0 (Builtin.append_ #[30,30] 30 #[t52,t61]) w35 λt62 w36=>aF 2 t7 λt63=>bF 1 t63 t62 w36 λw37=>aF 3 t7 λt64=>aE false 1 t64 w37 λt65=>bR 9 1 [(str [])] [(0,1,(str [116]))] w37 λt66 w38=>bP P0 (Builtin.append_ #[24,24] 24 #[t65,t66]) w38 λt67 w39=>aF 3 t7 λt68=>bF 1 t68 t67 w39 λw40=>J31 [] w40) (J31 [] w30)) λs31 _ w41=>aP (λJ42=>aE false 1 t10 w41 λt69=>aE false 1 t11 w41 λt70=>aC .lss t69 t70 λt71=>aD t71 (aE false 1 t2 w41 λt72=>aE false 1 (s10.getD 1 undef) w41 λt73=>aE false 1 t10 w41 λt74=>aC .add t73 t74 λt75=>aA P0 50 [t72,t75,(.bool false),(.func (.func 278) #[] #[t7,t2,(s10.getD 0 undef),t10,t11,(s10.getD 1 undef)])] w41 λt77 w43=>aF 3 t7 λt78=>aE false 1 t78 w43 λt79=>bR 9 1 [(str [])] [(0,1,(str [101]))] w43 λt80 w44=>bP P0 (Builtin.append_ #[24,24] 24 #[t79,t80]) w44 λt81 w45=>aF 3 t7 λt82=>bF 1 t82 t81 w45 λw46=>J42 [] w46) (J42 [] w41)) λs42 _ w47=>aE false 1 (s10.getD 0 undef) w47.drew λt83=>aE false 1 t11 w47.drew λt84=>jG t83 (some t84) none λt85=>aE false 1 (s10.getD 1 undef) w47.drew λt86=>aE false 1 t11 w47.drew λt87=>aC .add t86 t87 λt88=>bF 1 (s10.getD 0 undef) t85 w47.drew λw48=>(aE false 1 t11 w48 λx=>x=t87)/\(aE false 1 (s10.getD 1 undef) w48 λx=>x=t86)/\bF 1 (s10.getD 1 undef) t88 w48 λw49=>L20 [] w49) (aE false 1 t2 w21 λt89=>aE true 5 t7 w21 λt90=>aA P0 117 [t89,t90] w21 λt91 w50=>K t91 w50))
theorem Ui{K:Q0}(h:aB5 v0 v1 w K):aA P0 258 [v0,v1] w K:=
 tie _ 258 Tryz.f258 QH _ w K 2 _ rfl mixed Tryz.func258 (by kernel_rfl) (by kernel_rfl) Tryz.call258 h
def QG:bC:={js:=[],ds:=[]}
def aB4(v0:Value)(w:World)(K:Q0):=aC .eql v0 (str [110,117,108,108]) λt5=>aD t5 (K (i64 1) w) (aC .eql v0 (str [116,114,117,101]) λt7=>aD t7 (K (i64 2) w) (aC .eql v0 (str [102,97,108,115,101]) λt9=>aD t9 (K (i64 3) w) (K (i64 9) w)))
theorem Uh{K:Q0}(h:aB4 v0 w K):aA P0 259 [v0] w K:=
 tie _ 259 Tryz.f259 QG _ w K 1 _ rfl mixed Tryz.func259 (by kernel_rfl) (by kernel_rfl) Tryz.call259 h
def QF:bC:={js:=[],ds:=[]}
def aB3(v0 v1:Value)(w:World)(K:Q0):=aE false 1 v0 w λt2=>bW t2 λt3=>aF 1 t3 λt4=>aE false 1 t4 w λt5=>aC .add t5 (i64 1) λt6=>bW t2 λt7=>aF 1 t7 λt8=>bF 1 t8 t6 w λw1=>aE false 1 v0 w1 λt9=>aA P0 261 [t9,(str [41])] w1 λt10 w2=>aF 2 v1 λt11=>bF 1 t11 t10 w2 λw3=>K (.tuple #[]) w3
theorem Ug{K:Q0}(h:aB3 v0 v1 w K):aA P0 260 [v0,v1] w K:=
 tie _ 260 Tryz.f260 QF _ w K 2 _ rfl mixed Tryz.func260 (by kernel_rfl) (by kernel_rfl) Tryz.call260 h
def QE:bC:={js:=[(14,⟨[],[],6⟩),(6,⟨[5],[],2⟩)],ds:=[]}
def aB2(v0 v1:Value)(w:World)(K:Q0):=bL [sN] w λs1 _ w2 L1=>aA P0 52 [v0,v1] w2 λt8 w3=>gU .not t8 λt9=>aD t9 (aP (λJ4=>bK (s1.getD 0 undef) λt11=>aC .gtr t11 (i64 0) λt12=>aD t12 (aA P0 116 [v0,(str [44])] w3 λt14 w5=>aA P0 52 [v0,v1] w5 λt17 w6=>aD t17 (K (s1.getD 0 undef) w6) (J4 [] w6)) (J4 [] w3)) λs4 _ w7=>aA P0 82 [v0] w7 λt20 w8=>bR 3 1 [(i64 0)] [(0,1,t20)] w8 λt21 w9=>bP P0 (Builtin.append_ #[30,30] 30 #[(s1.getD 0 undef),t21]) w9 λt22 w10=>L1 [t22] w10) (K (s1.getD 0 undef) w3)
theorem Uf{K:Q0}(h:aB2 v0 v1 w K):aA P0 261 [v0,v1] w K:=
 tie _ 261 Tryz.f261 QE _ w K 2 _ rfl mixed Tryz.func261 (by kernel_rfl) (by kernel_rfl) Tryz.call261 h
def QD:bC:={js:=[],ds:=[]}
def aB1(v0 v1:Value)(w:World)(K:Q0):=aE false 1 v0 w λt2=>bW t2 λt3=>aF 1 t3 λt4=>aE false 1 t4 w λt5=>aC .add t5 (i64 1) λt6=>bW t2 λt7=>aF 1 t7 λt8=>bF 1 t8 t6 w λw1=>aE false 1 v0 w1 λt9=>aA P0 82 [t9] w1 λt10 w2=>bF 1 v1 t10 w2 λw3=>aE false 1 v0 w3 λt11=>aA P0 116 [t11,(str [41])] w3 λt12 w4=>K (.tuple #[]) w4
theorem Ue{K:Q0}(h:aB1 v0 v1 w K):aA P0 262 [v0,v1] w K:=
 tie _ 262 Tryz.f262 QD _ w K 2 _ rfl mixed Tryz.func262 (by kernel_rfl) (by kernel_rfl) Tryz.call262 h
def QC:bC:={js:=[],ds:=[]}
def aB0(v0 v1 v2:Value)(w:World)(K:Q0):=aE false 1 v0 w λt3=>aE true 3 v1 w λt4=>aA P0 264 [t3,t4] w λt5 w1=>bF 5 v2 t5 w1 λw2=>K (.tuple #[]) w2
theorem Ud{K:Q0}(h:aB0 v0 v1 v2 w K):aA P0 263 [v0,v1,v2] w K:=
 tie _ 263 Tryz.f263 QC _ w K 3 _ rfl mixed Tryz.func263 (by kernel_rfl) (by kernel_rfl) Tryz.call263 h
def QB:bC:={js:=[(18,⟨[],[],7⟩),(16,⟨[6],[],5⟩),(8004,⟨[23],[],21⟩)],ds:=[(31,⟨[0,1,2,6],[[],[0],[],[2],[2,3],[0,1,2,3,4],[0,1,2,3,4,5],[0,1,2,3,4,5,6]]⟩),(27,⟨[0,1,2,6],[[],[0],[],[2],[2,3],[0,1,2,3,4],[0,1,2,3,4,5],[0,1,2,3,4,5,6]]⟩),(17,⟨[0,2,3,4,5],[[],[0],[0,1],[],[3],[0,1,2,3,4],[],[0,1,2,3,4,5,6]]⟩),(11,⟨[0,2,3,4],[[],[0],[],[2],[0,1,2,3],[0,1,2,3,4]]⟩)]}
def aBZ(v0 v1:Value)(w:World)(K:Q0):=cI 73 v1 w λt3 w1=>aN 93 zL4 w1 λt4 w2=>bW v0 λt9=>aF 1 t9 λt10=>aE false 1 t10 w2 λt11=>aC .add t11 (i64 1) λt12=>bW v0 λt13=>aF 1 t13 λt14=>bF 1 t14 t12 w2 λw3=>aA P0 29 [v0] w3 λt16 w4=>aN 73 zL1 w4 λt5 w5=>bF 3 t5 t16 w5 λw6=>aF 0 t5 λt17=>aE false 1 t17 w6 λt18=>aC .neq t18 (i64 1) λt19=>cX (eD t19 false) [undef] w6 (λJ7=>aF 1 t5 λt21=>aE false 1 t21 w6 λt22=>aC .neq t22 (str [102,111,114]) λt23=>J7 [t23] w6) λs7 _ w8=>bG t19 (.bool true) (s7.getD 0 undef) λt24=>aD t24 (aF 2 t3 λt27=>aE false 1 t27 w8.drew λt28=>aA P0 261 [v0,(str [93])] w8.drew λt26 w9=>(aE false 1 t27 w9 λx=>x=t28)/\bQ [(i64 0),(str []),sN,sN,(i64 0)] [(0,1,(i64 7)),(2,1,t26),(4,1,t28)] λc10=>bF 5 t4 (.agg c10.toArray) w9 λw11=>aE true 5 t4 w11 λr12=>K r12 w11) (bW v0 λt31=>aF 1 t31 λt32=>aE false 1 t32 w8 λt33=>aC .add t33 (i64 1) λt34=>bW v0 λt35=>aF 1 t35 λt36=>bF 1 t36 t34 w8 λw13=>aP (λJ14=>aF 2 t3 λt40=>aE false 1 t40 w13.drew λt41=>(aA P0 46 [v0,(i64 1)] w13.drew λt38 w15=>(aE false 1 t40 w15 λx=>x=t41)/\gX false 1 1 t38 λt39=>bQ [(i64 0),(str []),sN,sN,(i64 0)] [(0,1,(i64 29)),(1,1,t39),(4,1,t41)] λc16=>aN 93 zL4 w15 λt6 w17=>(aE false 1 t40 w17 λx=>x=t41)/\bF 5 t6 (.agg c16.toArray) w17 λw18=>J14 [t6] w18)/\(aN 93 zL4 w13.drew λt6 w19=>(aE false 1 t40 w19 λx=>x=t41)/\aA P0 46 [v0,(i64 1)] w19 λt38 w20=>(aE false 1 t40 w20 λx=>x=t41)/\gX false 1 1 t38 λt39=>bQ [(i64 0),(str []),sN,sN,(i64 0)] [(0,1,(i64 29)),(1,1,t39),(4,1,t41)] λc21=>bF 5 t6 (.agg c21.toArray) w20 λw22=>J14 [t6] w22)) λs14 _ w23=>aP (λJ24=>aA P0 46 [v0,(i64 1)] w23 λt44 w25=>aN 73 zL1 w25 λt7 w26=>bF 3 t7 t44 w26 λw27=>aF 1 t7 λt45=>aE false 1 t45 w27 λt46=>aC .neq t46 (str [105,110]) λt47=>aD t47 (aF 2 t7 λt48=>aE false 1 t48 w27 λt49=>aA P0 31 [(i64 50),t49] w27 λt50 w28=>J24 [] w28) (J24 [] w27)) λs24 _ w29=>aF 2 (s14.getD 0 undef) λt51=>aE false 1 t51 w29.drew λt52=>aA P0 82 [v0] w29.drew λt54 w30=>(aE false 1 t51 w30 λx=>x=t52)/\bR 3 1 [(i64 0)] [(0,1,t54)] w30 λt55 w31=>(aE false 1 t51 w31 λx=>x=t52)/\bP P0 (Builtin.append_ #[30,30] 30 #[t52,t55]) w31 λt56 w32=>aF 2 (s14.getD 0 undef) λt57=>bF 1 t57 t56 w32 λw33=>aA P0 116 [v0,(str [58])] w33 λt59 w34=>aF 2 (s14.getD 0 undef) λt60=>aE false 1 t60 w34.drew λt61=>aA P0 82 [v0] w34.drew λt63 w35=>(aE false 1 t60 w35 λx=>x=t61)/\bR 3 1 [(i64 0)] [(0,1,t63)] w35 λt64 w36=>(aE false 1 t60 w36 λx=>x=t61)/\bP P0 (Builtin.append_ #[30,30] 30 #[t61,t64]) w36 λt65 w37=>aF 2 (s14.getD 0 undef) λt66=>bF 1 t66 t65 w37 λw38=>aA P0 116 [v0,(str [93])] w38 λt68 w39=>aE true 5 (s14.getD 0 undef) w39 λt69=>bF 5 t4 t69 w39 λw40=>aE true 5 t4 w40 λr41=>K r41 w40)
theorem Uc{K:Q0}(h:aBZ v0 v1 w K):aA P0 264 [v0,v1] w K:=
 tie _ 264 Tryz.f264 QB _ w K 2 _ rfl mixed Tryz.func264 (by kernel_rfl) (by kernel_rfl) Tryz.call264 h
def QA:bC:={js:=[],ds:=[]}
def aBY(v0 v1 v2:Value)(w:World)(K:Q0):=aE false 1 v0 w λt3=>aE true 3 v1 w λt4=>aA P0 266 [t3,t4] w λt5 w1=>bF 5 v2 t5 w1 λw2=>K (.tuple #[]) w2
theorem Ub{K:Q0}(h:aBY v0 v1 v2 w K):aA P0 265 [v0,v1,v2] w K:=
 tie _ 265 Tryz.f265 QA _ w K 3 _ rfl mixed Tryz.func265 (by kernel_rfl) (by kernel_rfl) Tryz.call265 h
def Qz:bC:={js:=[(43,⟨[],[],6⟩),(45005,⟨[74],[],71⟩),(45011,⟨[68],[],65⟩),(33,⟨[],[],7⟩),(20,⟨[],[],7⟩),(10,⟨[],[],6⟩)],ds:=[(42,⟨[0,1,2,3,6,7,8,12,14],[[],[0],[],[2],[2,3],[0,1,2,3,4],[],[6],[],[0,1,2,3,4,5,8],[0,1,2,3,4,5,8,9],[0,1,2,3,4,5,6,7,8,9,10],[0,1,2,3,4,5,6,7],[0,1,2,3,4,5,6,7,8,9,10,11,12],[0,1,2,3,4,5,6,7,8,9,10,11,12,13],[0,1,2,3,4,5,6,7,8,9,10,11,12,13,14]]⟩)]}
def aBX(v0 v1:Value)(w:World)(K:Q0):=cI 73 v1 w λt3 w1=>aN 93 zL4 w1 λt4 w2=>bW v0 λt8=>aF 1 t8 λt9=>aE false 1 t9 w2 λt10=>aC .add t10 (i64 1) λt11=>bW v0 λt12=>aF 1 t12 λt13=>bF 1 t13 t11 w2 λw3=>aF 2 t3 λt14=>aE false 1 t14 w3 λt15=>bQ [(i64 0),(str []),sN,sN,(i64 0)] [(0,1,(i64 8)),(4,1,t15)] λc4=>aN 93 zL4 w3 λt5 w5=>bF 5 t5 (.agg c4.toArray) w5 λw6=>aA P0 28 [v0] w6 λt18 w7=>bL [] w7 λs8 _ w9 L8=>aA P0 52 [v0,(str [125])] w9 λt20 w10=>gU .not t20 λt21=>aD t21 (aA P0 48 [v0] w10 λt23 w11=>aN 73 zL1 w11 λt6 w12=>bF 3 t6 t23 w12 λw13=>aP (λJ14=>aF 0 t6 λt24=>aE false 1 t24 w13 λt25=>aC .eql t25 (i64 3) λt30=>aD t30 (aE true 3 t6 w13 λt32=>aA P0 47 [v0,t32] w13 λt33 w15=>aF 1 t6 λt34=>bF 1 t34 t33 w15 λw16=>J14 [] w16) (aC .eql t25 (i64 1) λt36=>aD t36 (J14 [] w13) (aF 2 t6 λt26=>aE false 1 t26 w13 λt27=>aA P0 31 [(i64 50),t27] w13 λt28 w17=>J14 [] w17))) λs14 _ w18=>aP (λJ19=>aF 3 t5 λt37=>aE false 1 t37 w18 λt38=>aF 1 t6 λt39=>aE false 1 t39 w18 λt40=>aA P0 81 [t38,t40] w18 λt41 w20=>aD t41 (aF 2 t6 λt42=>aE false 1 t42 w20 λt43=>aA P0 31 [(i64 2),t43] w20 λt44 w21=>J19 [] w21) (J19 [] w20)) λs19 _ w22=>aA P0 116 [v0,(str [61])] w22 λt46 w23=>aF 3 t5 λt47=>aE false 1 t47 w23.drew λt48=>aF 1 t6 λt49=>aE false 1 t49 w23.drew λt50=>aF 2 t5 λt53=>aE false 1 t53 w23.drew λt54=>bR 9 1 [(str [])] [(0,1,t50)] w23.drew λt51 w24=>(aE false 1 t53 w24 λx=>x=t54)/\(aE false 1 t47 w24 λx=>x=t48)/\bP P0 (Builtin.append_ #[24,24] 24 #[t48,t51]) w24 λt52 w25=>(aE false 1 t53 w25 λx=>x=t54)/\aF 3 t5 λt59=>aA P0 82 [v0] w25 λt56 w26=>(aE false 1 t53 w26 λx=>x=t54)/\bR 3 1 [(i64 0)] [(0,1,t56)] w26 λt57 w27=>(aE false 1 t53 w27 λx=>x=t54)/\bP P0 (Builtin.append_ #[30,30] 30 #[t54,t57]) w27 λt58 w28=>bF 1 t59 t52 w28 λw29=>aF 2 t5 λt60=>bF 1 t60 t58 w29 λw30=>aP (λJ31=>aA P0 52 [v0,(str [44])] w30 λt62 w32=>gU .not t62 λt63=>cX (eD t63 true) [undef] w32 (λJ33=>aA P0 29 [v0] w32 λt66 w34=>gX false 0 1 t66 λt67=>aC .neq t67 (i64 5) λt68=>J33 [t68] w34) λs33 _ w35=>bG t63 (s33.getD 0 undef) (.bool false) λt69=>cX (eD t69 true) [undef] w35 (λJ36=>bR 9 1 [(str [])] [(0,1,(str [125]))] w35 λt72 w37=>aA P0 49 [v0,t72] w37 λt73 w38=>gU .not t73 λt74=>J36 [t74] w38) λs36 _ w39=>bG t69 (s36.getD 0 undef) (.bool false) λt75=>aD t75 (aA P0 29 [v0] w39 λt77 w40=>gX false 2 1 t77 λt78=>aA P0 31 [(i64 50),t78] w40 λt79 w41=>J31 [] w41) (J31 [] w39)) λs31 _ w42=>aA P0 28 [v0] w42 λt81 w43=>L8 [] w43) (aE true 5 t5 w10 λt82=>bF 5 t4 t82 w10 λw44=>aE true 5 t4 w44 λr45=>K r45 w44)
theorem Ua{K:Q0}(h:aBX v0 v1 w K):aA P0 266 [v0,v1] w K:=
 tie _ 266 Tryz.f266 Qz _ w K 2 _ rfl mixed Tryz.func266 (by kernel_rfl) (by kernel_rfl) Tryz.call266 h
def Qy:bC:={js:=[],ds:=[(0,⟨[0,1,2,3,4,5,6,7,8,9,10,11,12,16],[[],[0],[],[],[],[4],[],[6],[3,4,5,6,7],[],[],[9,10],[9,10,11],[2,3,4,5,6,7,8,9,10,11,12],[2,3,4,5,6,7,8,9,10,11,12,13],[0,1,2,3,4,5,6,7,8,9,10,11,12,13,14],[0,1,2,3,4,5,6,7,8,9,10,11,12,13,14,15],[0,1,2,3,4,5,6,7,8,9,10,11,12,13,14,15,16]]⟩)]}
def aBW(v0 v1 v2 v3 v4 v5:Value)(w:World)(K:Q0):=aF 2 v0 λt6=>aE false 1 t6 w.drew λt7=>aE false 1 v1 w.drew λt8=>aE false 1 v2 w.drew λt9=>aE false 1 v3 w.drew λt10=>aC .add t10 (i64 2) λt11=>aE false 1 v4 w.drew λt12=>aC .sub t12 (i64 1) λt13=>jG t9 (some t11) (some t13) λt14=>aE false 1 v5 w.drew λt15=>aE false 1 v3 w.drew λt16=>aC .add t15 t16 λt17=>aC .add t17 (i64 2) λt18=>aA P0 279 [t8,t14,t18] w.drew λt19 w1=>(aE false 1 t6 w1 λx=>x=t7)/\bR 3 1 [(i64 0)] [(0,1,t19)] w1 λt20 w2=>(aE false 1 t6 w2 λx=>x=t7)/\bP P0 (Builtin.append_ #[30,30] 30 #[t7,t20]) w2 λt21 w3=>aF 2 v0 λt22=>bF 1 t22 t21 w3 λw4=>K (.tuple #[]) w4
theorem TZ{K:Q0}(h:aBW v0 v1 v2 v3 v4 v5 w K):aA P0 278 [v0,v1,v2,v3,v4,v5] w K:=
 tie _ 278 Tryz.f278 Qy _ w K 6 _ rfl mixed Tryz.func278 (by kernel_rfl) (by kernel_rfl) Tryz.call278 h
def Qx:bC:={js:=[(4,⟨[],[],8⟩)],ds:=[(11,⟨[0,1,2,3,4,5,6,7,8,9,10,12],[[],[],[],[2],[2,3],[2,3,4],[],[6],[6,7],[6,7,8],[0,1,2,3,4,5,6,7,8,9],[0,1,2,3,4,5,6,7,8,9,10],[0,1,2,3,4,5,6,7,8,9,10,11]]⟩),(8,⟨[0,1,2,3,4,5,6,7,8,9],[[],[0],[0,1],[0,1,2],[],[],[5],[5,6],[5,6,7],[4,5,6,7,8],[0,1,2,3,4,5,6,7,8,9]]⟩)]}
def aBV(v0 v1 v2:Value)(w:World)(K:Q0):=aA P0 26 [v1] w λt13 w1=>bS 0 t13 λt14=>bS 1 t13 λt15=>aP (λJ2=>tR .ptr true t15 (.pointer none) λt17=>aD t17 (bW t15 λt19=>aF 0 t19 λt20=>aE false 1 t20 w1.drew λt21=>bW t15 λt24=>aF 2 t24 λt25=>aE false 1 t25 w1.drew λt26=>aC .add v2 t26 λt27=>aA P0 31 [t21,t27] w1.drew λt28 w3=>J2 [] w3) (J2 [] w1)) λs2 _ w4=>bW v0 λt32=>aF 3 t32 λt33=>aE false 1 t33 w4.drew λt34=>bW v0 λt36=>aF 4 t36 λt37=>aE false 1 t37 w4.drew λt38=>bQ [sN,(i64 0),(i64 0),(.pointer none),(i64 0),(.bool false)] [(0,1,t14),(2,1,v2),(3,1,t34),(4,1,t38)] λc5=>cI 70 (.agg c5.toArray) w4.drew λt40 w6=>aA P0 82 [t40] w6 λt42 w7=>aA P0 46 [t40,(i64 0)] w7 λt44 w8=>K t42 w8
theorem TY{K:Q0}(h:aBV v0 v1 v2 w K):aA P0 279 [v0,v1,v2] w K:=
 tie _ 279 Tryz.f279 Qx _ w K 3 _ rfl mixed Tryz.func279 (by kernel_rfl) (by kernel_rfl) Tryz.call279 h
end
end Go.Proofs.YtghhmpppnmoeoaaGreatDoor
