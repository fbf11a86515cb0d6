/- One plain sentence: contracts and plain laws that the claim rests on. Conditions: those that each states. -/
import Derived.Test.YtjblfcfdeaagpaaGreatDoorXW1
import Derived.Shelf.Strings.BuilderK
import Derived.Shelf.Strings.Cut
import Derived.Shelf.Strings.Prefix
import Derived.Shelf.Strings.Search3
import Derived.Shelf.Strings.IndexAnyAll
import Derived.Shelf.Small.Strs
import Derived.Shelf.Strings.OnBuilder
import Derived.Shelf.Strings.Repeat
import Derived.Shelf.Strings.SlTrimAscii
import Derived.Shelf.Strings.IndexAny
import Derived.Shelf.Small.Utf8
import Derived.Shelf.Strings.BuilderX
import Derived.Shelf.Lays
import Derived.Ground.SlgmProg
import Derived.Test.YtjblfcfdeaagpaaGreatDoorProg
import Derived.Lib.ConvBytes
import Derived.Lib.ParseIntBCases
import Derived.Lib.Builder
import Derived.ProofKit
import Derived.WalkKit
import Derived.Lib.AppendStr
import Derived.Lib.RuneBytes
set_option linter.all false
set_option linter.unusedSimpArgs false
set_option linter.unusedVariables false
set_option linter.unusedSectionVars false
set_option maxRecDepth 100000
variable{w W:Go.World}{K:Go.Value->Go.World->Prop}{cs d D:List Go.Value}{G S:Nat->Prop}{T U:Go.TypeId}{i n m j p q r A:Nat}{v g:Go.Value}{P:Go.Program}{c:UInt8}{s y o B:Str}{u:List Nat}{a z:Int}{F:Go.Value->Prop}{H:Go.World->Prop}{E:Bool}{L:List Str}{α β:Type}{v0 v1 v2 v3 v4 v5:Go.Value}
namespace Go.Eng
section
open Go
section
variable{P:Program}
def Lx:List Oper->Option (Nat×Nat)
 |[o1,o2]=>
  match o1.guard,o2.guard,o1.dst,o1.op,o2.dst,o2.op with
  |none,none,some t,.call c,some t2,.assign (.tmp t')=>
   match c.callee,c.args.toList with
   |.builtin .recover,[]=>bif Nat.beq t t' then some (t,t2)else none
   |_,_=>none
  |_,_,_,_,_,_=>none
 |_=>none
def NK{l:List Oper}{t:Nat}(h:Lx l=some (t,i)):∃b a c,l=[b,a]/\b.guard=none/\a.guard=none/\b.dst=some t/\b.op=.call c/\a.dst=some i/\a.op=.assign (.tmp t)/\c.callee=.builtin .recover/\c.args=#[]:=by
 unfold Lx at h;split at h
 .rename_i b a;split at h
  .rename_i t0 c f e q p o n m k;split at h
   .rename_i j g;cases d:Nat.beq t0 e with
    |false=>rw[d]at h;cases h
    |true=>
     rw[d]at h;simp only[aV,bB,gA]at h;obtain⟨rfl,rfl⟩:=h;have:t0=e:=lR d;subst this;exact⟨b,a,c,rfl,q,p,o,n,m,k,j,by simpa using g⟩
   .cases h
  .cases h
 .cases h
def Zu(P:Program)(fn:Func)(pl:fG)(args:List Value)(x:Value)(w:World)(K:World->Prop):Prop:=
 match fn.body with
 |some (.seq (.region _ ops _) b)=>
  match Lx ops.toList with
  |some (t,t2)=>@sY noX P pl b 2 (upd (upd (fr0 args) (some t) x) (some t2) x) w (λ_ w'=>K w') (λ_ _ _=>False) (λ_ w'=>K w')
  |none=>False
 |_=>False
def Gi(P:Program)(fn:Func)(pl:fG)(a:Nat):Bool:=
 match fn.body with
 |some (.seq (.region _ ops draw) b)=> !draw&&Nat.ble a fn.ntmps&&fn.results.toList.isEmpty&&
  (match Lx ops.toList with
  |some (t,t2)=>Nat.blt t fn.ntmps&&Nat.blt t2 fn.ntmps&&chk P fn.ntmps pl [] 0 b 2
  |none=>false)
 |_=>false
inductive Finds:FrameMode->Value->Prop
 |idle:Finds .returning .nilIface
 |thrown (v:Value):Finds (.panicking [{v,recovered:=false}]) v
theorem Hk{g:FuncId}{fn:Func}{pl:fG}{args:List Value}{x:Value}{u:FrameMode}{K:World->Prop}(hm:P.follows .mixedOrders=true)(hf:P.funcs[g]?=some fn)(s:Gi P fn pl args.length=true)
  (hu:Finds u x)(h:Zu P fn pl args x w K):AR P g args u w K:=by
 unfold Zu at h;unfold Gi at s;split at h
 .rename_i id ops draw b T;rw[T]at s;simp only[bV,oF]at s;obtain⟨⟨⟨S,L⟩,A⟩,s⟩:=s;subst S;cases J:Lx ops.toList with
  |none=>simp only[J]at h
  |some y=>
   obtain⟨t,t2⟩:=y;simp only[J,bV]at h s;obtain⟨⟨H,q⟩,F⟩:=s;obtain⟨j,i,c,C,g1,g2,d1,Y,d2,X,M,N⟩:=NK J;have r:ops=#[j,i]:=by
    apply Array.ext';rw[C]
   subst r;letI:=noX;have B:∀tmps w,(results fn tmps).run P w=.ok (.tuple #[]) w:=by
    intro tmps w;have h1:fn.results.toList=[]:=by simpa using A
    obtain⟨v,hv,hr⟩:=xV (P:=P) (fn:=fn) (n:=tmps.size) (D:=[]) (f:=λt=>tmps.getD t undef) (a:={tmps:=tmps,defers:=[]}) (w:=w) (K:=λv=>v=.tuple #[]) ⟨rfl,rfl,λ_=>rfl⟩ (by rw[h1];rfl);rw[hr,hv]
   have z:=Mp (nt:=fn.ntmps) (args:=args) (mQ L);have H:t<fn.ntmps:=by simpa using H
   have q:t2<fn.ntmps:=by simpa using q
   refine callsD_of_wpS hf T λc₀ cs k=>?_;generalize ({tmps:=args.toArray++Array.replicate (fn.ntmps-args.toArray.size) undef,defers:=[]}:Act)=a0 at z⊢;have m:=z.put (d:=some t) (λy I=>by cases I;exact H) x;have G:=m.put (d:=some t2) (λy I=>by cases I;exact q) x;have V:Region.wanted j (yielded #[j,i] a0.tmps)=true:=by
    have:=CV (ops:=[j,i]) (o:=j) z;rw[show([j,i]:List Oper).toArray=#[j,i]from rfl]at this;rw[this];simp[pG,g1]
   have w2:Region.wanted i (yielded #[j,i] (a0.put (some t) x).tmps)=true:=by
    have:=CV (ops:=[j,i]) (o:=i) m;rw[show([j,i]:List Oper).toArray=#[j,i]from rfl]at this;rw[this];simp[pG,g2]
   have e1:(execOp a0.eval j).run P w=.ok .recover w:=by
    unfold execOp;rw[Y];simp[resolve,M,N,invoke,builtin,run_bind,run_pure]
   have e2:(execOp (a0.put (some t) x).eval i).run P w=.ok (.value x) w:=by
    rw[Bw m];unfold execOp;rw[X];have e:ev (upd (fr0 args) (some t) x) (.tmp t)=x:=by simp[ev,sC]
    simp[run_pure,e]
   have rest:∀l:FrameMode,settle l=.returning->b.wpS P (bodyPostS P fn c₀ cs λe l W=>(∃v,e=.returned v)/\settle l=.returning/\K W) ((a0.put (some t) x).put (some t2) x) ({c₀ with mode:=l}::cs) w:=by
    intro l R;refine wpS_of_wp ?_;refine@yH noX P fn.ntmps [] pl hm b [] 0 2 _ _ w _ _ _ _ F G h (λf' U W p _ E=>?_) (λ_ _ _ _ _ _ E=>E.elim) (λf' U W p _ E=>?_) (λch U W S H Z=>Z.elim)
    .exact⟨p.1,l,rfl,_,B _ _,⟨_,rfl⟩,R,E⟩
    .exact⟨p.1,l,rfl,_,B _ _,⟨_,rfl⟩,R,E⟩
   refine wpS_seq (wpS_region ?_);show wpOpsS P #[j,i] _ [0,1] a0 (c₀::cs) w;have tail:∀Q:Frame,b.wpS P (bodyPostS P fn c₀ cs λe l W=>(∃v,e=.returned v)/\settle l=.returning/\K W) ((a0.put (some t) x).put (some t2) x) (Q::cs) w->
     wpOpsS P #[j,i] (Exit.thenS (b.wpS P (bodyPostS P fn c₀ cs λe l W=>(∃v,e=.returned v)/\settle l=.returning/\K W)) (bodyPostS P fn c₀ cs λe l W=>(∃v,e=.returned v)/\settle l=.returning/\K W)) [1] (a0.put (some t) x) (Q::cs) w:=by
    intro Q O;unfold wpOpsS;rw[show(#[j,i]:Array Oper)[1]?=some i from rfl];show ite (Region.wanted i (yielded #[j,i] (a0.put (some t) x).tmps)=true) _ _;rw[aO w2,e2];simp only[Oper.upon_value,d2];exact O
   unfold wpOpsS;rw[show(#[j,i]:Array Oper)[0]?=some j from rfl];show ite (Region.wanted j (yielded #[j,i] a0.tmps)=true) _ _;rw[aO V,e1];cases hu with
   |idle=>
    have:recoverD (c₀::cs)=none:=by simp[recoverD,k]
    simp only[this,d1];have e:({c₀ with mode:=.returning}:Frame)=c₀:=by rw[<-k]
    have:=rest .returning rfl;rw[e]at this;exact tail c₀ this
   |thrown=>
    have:recoverD (c₀::cs)=some (x,{c₀ with mode:=.panicking [{v:=x,recovered:=true}]}::cs):=by simp[recoverD,k]
    simp only[this,d1];exact tail _ (rest (.panicking [{v:=x,recovered:=true}]) rfl)
 .exact h.elim
end
end
end Go.Eng
namespace Go.Proofs.YtjblfcfdeaagpaaGreatDoor
section
open Go Go.Eng
abbrev _root_.Q0:=Value->World->Prop
noncomputable abbrev _root_.P0:=Tryz.prog
abbrev _root_.sN:Value:=.slice none 0 0
abbrev _root_.zL0:List Value:=[(i64 0),(str []),(i64 0)]
abbrev _root_.zL1:List Value:=[(str []),(i64 0),(i64 0)]
abbrev _root_.zL2:List Value:=[(i64 0),(str []),sN,sN,(i64 0)]
abbrev _root_.zL3:List Value:=[sN,(i64 0),(i64 0),(.bool false)]
abbrev _root_.zL4:List Value:=[(.pointer none),sN]
abbrev _root_.zL5:List Value:=[(str []),sN,sN,sN,(i64 0)]
abbrev _root_.zL6:List Value:=[(str []),(str []),sN,(i64 0),(i64 0),(.bool false),(.bool false),sN,(i64 0)]
variable [HX]
def aDn:fG:={js:=[(60,⟨[9],[9],12⟩),(62004,⟨[73],[],71⟩),(54,⟨[9,11],[9],11⟩),(44005,⟨[51],[],48⟩),(36,⟨[6,7],[],1⟩),(25006,⟨[30],[],26⟩),(14,⟨[],[2,3,4,5],19⟩)],ds:=[]}
def W28(v0:Value)(w:World)(K:Q0):=kQ v0 λt13=>aS .gtr t13 (i64 16384) λt14=>bE t14 (kE [(i64 0),(str []),(i64 0)] [(0,1,(i64 3))] λL=>jZ 48 (.agg L.toArray) w λt16 w2=>K (.tuple #[sN,t16]) w2) (fV P0 (Instr.range 9 v0) w λt18 I=>eK [] I λO _ H M=>fV P0 (Instr.next t18 true 0) H λt19 m=>kH 0 t19 λt20=>bE t20 (kH 1 t19 λt21=>kH 2 t19 λt22=>aS .eql t22 (.int .i32 65533) λt24=>GdW (isB t24 true) [undef] m (λN=>rY v0 (some t21) none λt28=>aL P0 59 [t28,(str [239,191,189])] m λt29 G=>unW .not t29 λt30=>N [t30] G) λJ _ F=>fN t24 (J.getD 0 undef) (.bool false) λt31=>bE t31 (kE [(i64 0),(str []),(i64 0)] [(0,1,(i64 31)),(2,1,t21)] λB=>jZ 48 (.agg B.toArray) F λt34 v=>K (.tuple #[sN,t34]) v) (M [] F)) (eK [sN,(i64 0)] m λa _ u C=>rY v0 (some (a.getD 1 undef)) none λt38=>aL P0 60 [t38] u λt39 i=>kH 0 t39 λt40=>kH 1 t39 λt41=>aS .add (a.getD 1 undef) t40 λt44=>aS .eql t41 (i64 0) λt46=>GdW (isB t46 true) [undef] i (λE=>kQ v0 λt50=>aS .eql t44 t50 λt51=>E [t51] i) λy _ h=>fN t46 (y.getD 0 undef) (.bool false) λt52=>bE t52 (kE [(i64 0),(str []),(i64 0)] [(2,1,t44)] λA=>gP 95 1 [(i64 0),(str []),(i64 0)] [(0,3,(.agg A.toArray))] h λt56 t=>fV P0 (Builtin.append_ #[86,86] 86 #[(a.getD 0 undef),t56]) t λt57 s=>K (.tuple #[t57,(.pointer none)]) s) (eD 95 zL0 h λt10 g=>dE (λl=>aS .eql t41 (i64 0) λt59=>bE t59 (rY v0 (some t44) none λt63=>aL P0 61 [t63] g λt64 r=>kH 0 t64 λt65=>kH 1 t64 λt66=>kH 2 t64 λt67=>stW 3 t10 t65 r λq=>l [t67,t66] q) (l [t41,(i64 0)] g)) λb _ f=>dE (λk=>aS .eql (b.getD 0 undef) (i64 0) λt69=>GdW (isB t69 true) [undef] f (λD=>iL (a.getD 0 undef) λt72=>aS .eql t72 (i64 4096) λt73=>D [t73] f) λx _ e=>fN t69 (x.getD 0 undef) (.bool false) λt74=>bE t74 (k [(i64 3)] e) (k [(b.getD 0 undef)] e)) λj _ d=>aS .neq (j.getD 0 undef) (i64 0) λt76=>bE t76 (kE [(i64 0),(str []),(i64 0)] [(0,1,(j.getD 0 undef)),(2,1,t44)] λz=>jZ 48 (.agg z.toArray) d λt80 p=>K (.tuple #[sN,t80]) p) (bF 2 t10 λt82=>stW 1 t82 t44 d λc=>ldW true 3 t10 c λt84=>gP 95 1 [(i64 0),(str []),(i64 0)] [(0,3,t84)] c λt85 o=>fV P0 (Builtin.append_ #[86,86] 86 #[(a.getD 0 undef),t85]) o λt86 n=>aS .add t44 (b.getD 1 undef) λt89=>C [t86,t89] n))))
def aES(h:W28 v0 w K):aL P0 28 [v0] w K:=
 tie _ 28 Tryz.f28 aDn _ w K 1 _ rfl mixed Tryz.func28 (by kernel_rfl) (by kernel_rfl) Tryz.call28 h
def aC5:fG:={js:=[(21,⟨[23],[],6⟩),(6,⟨[4],[],1⟩)],ds:=[]}
def W60(v0:Value)(w:World)(K:Q0):=eK [(i64 0)] w λs1 _ w2 b=>kQ v0 λt9=>aS .lss (s1.getD 0 undef) t9 λt10=>bE t10 (rY v0 (some (s1.getD 0 undef)) none λt13=>qM v0 (s1.getD 0 undef) λt18=>aL P0 104 [(str [32,9,13]),t18] w2 λt19 a=>aS .geq t19 (i64 0) λt20=>bE t20 (aS .add (s1.getD 0 undef) (i64 1) λt22=>b [t22] a) (dE (λf=>qM v0 (s1.getD 0 undef) λt26=>aS .eql t26 (.int .u8 35) λt27=>bE t27 (f [t27] a) (aL P0 59 [t13,(str [47,47])] a λt29 h=>f [t29] h)) λi _ e=>bE (i.getD 0 undef) (aL P0 105 [t13,(.func (.func 106) #[] #[])] e λt32 g=>aS .add (s1.getD 0 undef) t32 λt33=>b [t33] g) (aL P0 59 [t13,(str [47,42])] e λt36 d=>bE t36 (rY t13 (some (i64 2)) none λt38=>aL P0 107 [t38,(str [42,47])] d λt39 c=>aS .lss t39 (i64 0) λt41=>bE t41 (K (.tuple #[(s1.getD 0 undef),(i64 40)]) c) (aS .add t39 (i64 4) λt45=>aS .add (s1.getD 0 undef) t45 λt46=>b [t46] c)) (K (.tuple #[(s1.getD 0 undef),(i64 0)]) d)))) (K (.tuple #[(s1.getD 0 undef),(i64 0)]) w2)
def aEA(h:W60 v0 w K):aL P0 60 [v0] w K:=
 tie _ 60 Tryz.f60 aC5 _ w K 1 _ rfl mixed Tryz.func60 (by kernel_rfl) (by kernel_rfl) Tryz.call60 h
def aC4:fG:={js:=[(8,⟨[6,7],[3,4],6⟩),(38,⟨[43],[],8⟩),(43004,⟨[58],[],57⟩),(40006,⟨[52],[],49⟩)],ds:=[]}
def W61(v0:Value)(w:World)(K:Q0):=eD 95 zL0 w λt2 w1=>eD 95 zL0 w1 λt5 w2=>dE (λa=>qM v0 (i64 0) λt10=>aS .eql t10 (.int .u8 10) λt21=>bE t21 (kE [(i64 0),(str []),(i64 0)] [(0,1,(i64 5)),(1,1,(str [10]))] λc4=>stW 3 t2 (.agg c4.toArray) w2 λG=>ldW true 3 t2 G λJ=>K (.tuple #[J,(i64 1),(i64 0)]) G) (aL P0 108 [t10] w2 λt25 F=>bE t25 (aL P0 105 [v0,(.func (.func 109) #[] #[])] F λt27 I=>rY v0 none (some t27) λt30=>kE [(i64 0),(str []),(i64 0)] [(0,1,(i64 1)),(1,1,t30)] λL=>stW 3 t5 (.agg L.toArray) I λl=>aS .gtr t27 (i64 32) λt33=>bE t33 (a [(i64 3),t27] l) (a [(i64 0),t27] l)) (aL P0 110 [t10] F λt36 e=>bE t36 (aL P0 105 [v0,(.func (.func 110) #[] #[])] e λt38 u=>rY v0 none (some t38) λt41=>kE [(i64 0),(str []),(i64 0)] [(0,1,(i64 2)),(1,1,t41)] λC=>stW 3 t5 (.agg C.toArray) u λk=>dE (λm=>kQ v0 λt46=>aS .lss t38 t46 λt47=>GdW (isB t47 true) [undef] k (λE=>qM v0 t38 λt51=>aL P0 108 [t51] k λt52 t=>E [t52] t) λx _ d=>fN t47 (x.getD 0 undef) (.bool false) λt53=>bE t53 (m [t53] d) (aS .eql t10 (.int .u8 48) λt55=>GdW (isB t55 true) [undef] d (λD=>aS .gtr t38 (i64 1) λt58=>D [t58] d) λv _ s=>fN t55 (v.getD 0 undef) (.bool false) λt59=>m [t59] s)) λy _ c=>bE (y.getD 0 undef) (a [(i64 40),t38] c) (bF 1 t5 λt61=>ldW false 1 t61 c λt62=>aL P0 111 [t62] c λt63 j=>unW .not t63 λt64=>bE t64 (a [(i64 3),t38] j) (a [(i64 0),t38] j))) (aS .eql t10 (.int .u8 34) λt67=>bE t67 (aL P0 112 [v0,(i64 0)] e λt70 i=>kH 0 t70 λt71=>kH 1 t70 λt72=>aS .eql t72 (i64 0) λt74=>bE t74 (aS .sub t71 (i64 1) λt77=>rY v0 (some (i64 1)) (some t77) λt78=>kE [(i64 0),(str []),(i64 0)] [(0,1,(i64 3)),(1,1,t78)] λB=>stW 3 t5 (.agg B.toArray) i λr=>a [t72,t71] r) (a [t72,t71] i)) (aL P0 59 [v0,(str [60,60])] e λt82 h=>bE t82 (bF 0 t5 λt83=>stW 1 t83 (i64 3) h λq=>aL P0 113 [v0] q λt86 p=>kH 0 t86 λt87=>kH 1 t86 λt88=>kH 2 t86 λt89=>bF 1 t5 λt90=>stW 1 t90 t87 p λo=>a [t89,t88] o) (aL P0 114 [v0] h λt12 n=>kE [(i64 0),(str []),(i64 0)] [(0,1,(i64 4)),(1,1,t12)] λA=>stW 3 t5 (.agg A.toArray) n λb=>bF 1 t5 λt14=>ldW false 1 t14 b λt15=>kQ t15 λt16=>aS .eql t16 (i64 0) λt18=>bE t18 (a [(i64 40),t16] b) (a [(i64 0),t16] b))))))) λH _ g=>ldW true 3 t5 g λt91=>stW 3 t2 t91 g λf=>ldW true 3 t2 f λz=>K (.tuple #[z,(H.getD 1 undef),(H.getD 0 undef)]) f
def aEz(h:W61 v0 w K):aL P0 61 [v0] w K:=
 tie _ 61 Tryz.f61 aC4 _ w K 1 _ rfl mixed Tryz.func61 (by kernel_rfl) (by kernel_rfl) Tryz.call61 h
def YD:fG:={js:=[(6,⟨[8],[4,5],8⟩)],ds:=[]}
def aHa(v0 b:Value)(w:World)(K:Q0):=kQ v0 λt7=>eK [(i64 0)] w λs1 _ w2 c=>aS .lss (s1.getD 0 undef) t7 λt9=>bE t9 (qM v0 (s1.getD 0 undef) λt14=>qN P0 b [t14] w2 λt15 a=>unW .not t15 λt16=>bE t16 (K (s1.getD 0 undef) a) (aS .add (s1.getD 0 undef) (i64 1) λt18=>c [t18] a)) (kQ v0 λt20=>K t20 w2)
def aBx(h:aHa v0 v1 w K):aL P0 105 [v0,v1] w K:=
 tie _ 105 Tryz.f105 YD _ w K 2 _ rfl mixed Tryz.func105 (by kernel_rfl) (by kernel_rfl) Tryz.call105 h
def YC:fG:={js:=[],ds:=[]}
def aG9(v0:Value)(w:World)(K:Q0):=aS .neq v0 (.int .u8 10) λt4=>K t4 w
def aBw(h:aG9 v0 w K):aL P0 106 [v0] w K:=
 tie _ 106 Tryz.f106 YC _ w K 1 _ rfl mixed Tryz.func106 (by kernel_rfl) (by kernel_rfl) Tryz.call106 h
def YB:fG:={js:=[(3004,⟨[19],[],18⟩),(3007,⟨[15],[],10⟩),(3009,⟨[14],[],13⟩),(3012,⟨[12],[],10⟩),(3016,⟨[7],[],6⟩)],ds:=[]}
def aG8(v0:Value)(w:World)(K:Q0):=aS .geq v0 (.int .u8 97) λt4=>GdW (isB t4 true) [undef] w (λm=>aS .leq v0 (.int .u8 122) λt7=>m [t7] w) λs1 _ w2=>fN t4 (s1.getD 0 undef) (.bool false) λt8=>GdW (isB t8 false) [undef] w2 (λl=>aS .geq v0 (.int .u8 65) λt11=>l [t11] w2) λe _ d=>GdW (isB (e.getD 0 undef) true) [undef] d (λk=>aS .leq v0 (.int .u8 90) λt14=>k [t14] d) λh _ c=>GdW (isB t8 false) [undef] c (λj=>fN (e.getD 0 undef) (h.getD 0 undef) (.bool false) λt15=>j [t15] c) λg _ b=>fN t8 (.bool true) (g.getD 0 undef) λt16=>GdW (isB t16 false) [undef] b (λi=>aS .eql v0 (.int .u8 95) λt19=>i [t19] b) λf _ a=>fN t16 (.bool true) (f.getD 0 undef) λt20=>K t20 a
def aBv(h:aG8 v0 w K):aL P0 108 [v0] w K:=
 tie _ 108 Tryz.f108 YB _ w K 1 _ rfl mixed Tryz.func108 (by kernel_rfl) (by kernel_rfl) Tryz.call108 h
def YA:fG:={js:=[(3004,⟨[11],[],10⟩),(3008,⟨[7],[],6⟩)],ds:=[]}
def aG7(v0:Value)(w:World)(K:Q0):=aL P0 108 [v0] w λt4 w1=>GdW (isB t4 false) [undef] w1 (λg=>aL P0 110 [v0] w1 λt7 c=>g [t7] c) λe _ a=>fN t4 (.bool true) (e.getD 0 undef) λt8=>GdW (isB t8 false) [undef] a (λf=>aS .eql v0 (.int .u8 45) λt11=>f [t11] a) λd _ b=>fN t8 (.bool true) (d.getD 0 undef) λt12=>K t12 b
def aBu(h:aG7 v0 w K):aL P0 109 [v0] w K:=
 tie _ 109 Tryz.f109 YA _ w K 1 _ rfl mixed Tryz.func109 (by kernel_rfl) (by kernel_rfl) Tryz.call109 h
def Yz:fG:={js:=[(3004,⟨[7],[],6⟩)],ds:=[]}
def aG6(v0:Value)(w:World)(K:Q0):=aS .geq v0 (.int .u8 48) λt4=>GdW (isB t4 true) [undef] w (λa=>aS .leq v0 (.int .u8 57) λt7=>a [t7] w) λs1 _ w2=>fN t4 (s1.getD 0 undef) (.bool false) λt8=>K t8 w2
def aBt(h:aG6 v0 w K):aL P0 110 [v0] w K:=
 tie _ 110 Tryz.f110 Yz _ w K 1 _ rfl mixed Tryz.func110 (by kernel_rfl) (by kernel_rfl) Tryz.call110 h
def Yx:fG:={js:=[(32007,⟨[43],[],38⟩),(6,⟨[6],[],2⟩)],ds:=[]}
def aG4(v0 f:Value)(w:World)(K:Q0):=eK [(i64 1)] w λs1 _ w2 a=>kQ v0 λt11=>aS .lss (s1.getD 0 undef) t11 λt12=>bE t12 (qM v0 (s1.getD 0 undef) λt18=>aS .eql t18 (.int .u8 34) λt19=>bE t19 (aS .add (s1.getD 0 undef) (i64 1) λt21=>K (.tuple #[t21,(i64 0)]) w2) (qM v0 (s1.getD 0 undef) λt25=>aS .eql t25 (.int .u8 10) λt26=>bE t26 (K (.tuple #[(i64 0),(i64 40)]) w2) (qM v0 (s1.getD 0 undef) λt30=>aS .eql t30 (.int .u8 92) λt31=>bE t31 (aS .add (s1.getD 0 undef) (i64 1) λt33=>kQ v0 λt35=>aS .geq t33 t35 λt36=>GdW (isB t36 false) [undef] w2 (λh=>aS .add (s1.getD 0 undef) (i64 1) λt40=>qM v0 t40 λt41=>aL P0 104 [(str [34,92,110,116,114,36]),t41] w2 λt42 e=>aS .lss t42 (i64 0) λt43=>h [t43] e) λg _ d=>fN t36 (.bool true) (g.getD 0 undef) λt44=>bE t44 (K (.tuple #[(i64 0),(i64 40)]) d) (aS .add (s1.getD 0 undef) (i64 2) λt46=>a [t46] d)) (rY v0 (some (s1.getD 0 undef)) none λt50=>aL P0 59 [t50,(str [36,123])] w2 λt51 c=>bE t51 (aS .add (s1.getD 0 undef) (i64 1) λt55=>rY v0 (some t55) none λt56=>aS .add f (i64 1) λt58=>aL P0 149 [t56,t58] c λt59 b=>kH 0 t59 λt60=>kH 1 t59 λt61=>aS .neq t61 (i64 0) λt63=>bE t63 (K (.tuple #[(i64 0),t61]) b) (aS .add t60 (i64 1) λt67=>aS .add (s1.getD 0 undef) t67 λt68=>a [t68] b)) (aS .add (s1.getD 0 undef) (i64 1) λt14=>a [t14] c))))) (K (.tuple #[(i64 0),(i64 40)]) w2)
def aBr(h:aG4 v0 v1 w K):aL P0 112 [v0,v1] w K:=
 tie _ 112 Tryz.f112 Yx _ w K 2 _ rfl mixed Tryz.func112 (by kernel_rfl) (by kernel_rfl) Tryz.call112 h
def Yw:fG:={js:=[(61,⟨[13],[13],68⟩),(65,⟨[72],[],72⟩),(51,⟨[],[13],68⟩),(27,⟨[7],[2,3,4,7],9⟩),(16005,⟨[43],[],40⟩),(16011,⟨[37],[],34⟩),(4,⟨[5],[],1⟩),(6004,⟨[20],[],18⟩)],ds:=[]}
def aG3(v0:Value)(w:World)(K:Q0):=dE (λB=>kQ v0 λt15=>aS .gtr t15 (i64 2) λt16=>GdW (isB t16 true) [undef] w (λL=>qM v0 (i64 2) λt19=>aL P0 108 [t19] w λt20 D=>L [t20] D) λG _ A=>fN t16 (G.getD 0 undef) (.bool false) λt21=>bE t21 (rY v0 (some (i64 2)) none λt23=>aL P0 105 [t23,(.func (.func 150) #[] #[])] A λt24 C=>B [t24] C) (B [(i64 0)] A)) λs1 _ z=>aS .add (i64 2) (s1.getD 0 undef) λt27=>rY v0 (some (i64 2)) (some t27) λt28=>aS .add (i64 2) (s1.getD 0 undef) λt30=>aS .eql (s1.getD 0 undef) (i64 0) λt32=>GdW (isB t32 false) [undef] z (λJ=>kQ v0 λt36=>aS .geq t30 t36 λt37=>J [t37] z) λF _ y=>fN t32 (.bool true) (F.getD 0 undef) λt38=>GdW (isB t38 false) [undef] y (λI=>qM v0 t30 λt42=>aS .neq t42 (.int .u8 10) λt43=>I [t43] y) λE _ g=>fN t38 (.bool true) (E.getD 0 undef) λt44=>bE t44 (K (.tuple #[(str []),(i64 0),(i64 40)]) g) (aS .add t30 (i64 1) λt46=>eD 114 zL4 g λt8 s=>eK [t46] s λe _ r x=>rY v0 (some (e.getD 0 undef)) none λt50=>aL P0 151 [t50,(str [10])] r λt51 q=>kH 0 t51 λt52=>kH 1 t51 λt53=>kH 2 t51 λt54=>aL P0 152 [t52,(str [32,9])] q λt56 d=>aS .eql t56 t28 λt58=>bE t58 (aL P0 44 [t8] d λt59 p=>kQ t52 λt62=>aS .add (e.getD 0 undef) t62 λt63=>K (.tuple #[t59,t63,(i64 0)]) p) (unW .not t54 λt65=>bE t65 (K (.tuple #[(str []),(i64 0),(i64 40)]) d) (fV P0 (Instr.range 9 t52) d λt67 o=>eK [] o λH _ n v=>fV P0 (Instr.next t67 true 0) n λt68 b=>kH 0 t68 λt69=>bE t69 (kH 2 t68 λt70=>dE (λc=>dE (λf=>aS .eql t70 (.int .i32 92) λt73=>bE t73 (f [t73] b) (aS .eql t70 (.int .i32 34) λt74=>bE t74 (f [t74] b) (aS .eql t70 (.int .i32 36) λt75=>f [t75] b))) λt _ a=>bE (t.getD 0 undef) (aL P0 126 [t8,(.int .u8 92)] a λt76 m=>c [t70] m) (aS .eql t70 (.int .i32 9) λt78=>bE t78 (aL P0 126 [t8,(.int .u8 92)] a λt79 l=>c [(.int .i32 116)] l) (aS .eql t70 (.int .i32 13) λt81=>bE t81 (aL P0 126 [t8,(.int .u8 92)] a λt82 k=>c [(.int .i32 114)] k) (c [t70] a)))) λu _ j=>aL P0 127 [t8,(u.getD 0 undef)] j λt84 i=>v [] i) (aL P0 88 [t8,(str [92,110])] b λt85 h=>kQ t52 λt88=>aS .add t88 (i64 1) λt89=>aS .add (e.getD 0 undef) t89 λt90=>x [t90] h))))
def aBq(h:aG3 v0 w K):aL P0 113 [v0] w K:=
 tie _ 113 Tryz.f113 Yw _ w K 1 _ rfl mixed Tryz.func113 (by kernel_rfl) (by kernel_rfl) Tryz.call113 h
def Yv:fG:={js:=[(2,⟨[],[],1⟩),(9,⟨[8],[],1⟩)],ds:=[]}
def aG2(v0:Value)(w:World)(K:Q0):=dE (λd=>kQ v0 λt4=>aS .gtr t4 (i64 1) λt5=>bE t5 (rY v0 none (some (i64 2)) λt7=>dE (λa=>aS .eql t7 (str [61,61]) λt9=>bE t9 (a [t9] w) (aS .eql t7 (str [33,61]) λt10=>bE t10 (a [t10] w) (aS .eql t7 (str [60,61]) λt11=>bE t11 (a [t11] w) (aS .eql t7 (str [62,61]) λt12=>bE t12 (a [t12] w) (aS .eql t7 (str [38,38]) λt13=>bE t13 (a [t13] w) (aS .eql t7 (str [124,124]) λt14=>a [t14] w)))))) λf _ c=>bE (f.getD 0 undef) (rY v0 none (some (i64 2)) λt16=>K t16 c) (d [] c)) (d [] w)) λs1 _ e=>qM v0 (i64 0) λt18=>aL P0 104 [(str [123,125,91,93,40,41,61,43,45,42,47,37,60,62,33,63,58,44,46]),t18] e λt19 b=>aS .geq t19 (i64 0) λt20=>bE t20 (rY v0 none (some (i64 1)) λt22=>K t22 b) (K (str []) b)
def aBp(h:aG2 v0 w K):aL P0 114 [v0] w K:=
 tie _ 114 Tryz.f114 Yv _ w K 1 _ rfl mixed Tryz.func114 (by kernel_rfl) (by kernel_rfl) Tryz.call114 h
def XZ:fG:={js:=[(24,⟨[7,8],[4,5],7⟩),(14,⟨[6],[],2⟩)],ds:=[]}
def aGG(v0 a:Value)(w:World)(K:Q0):=aS .gtr a (i64 24) λt10=>bE t10 (K (.tuple #[(i64 0),(i64 7)]) w) (eK [(i64 1)] w λs1 _ w2 g=>kQ v0 λt13=>aS .lss (s1.getD 0 undef) t13 λt14=>bE t14 (dE (λc=>qM v0 (s1.getD 0 undef) λt17=>aS .eql t17 (.int .u8 125) λt19=>bE t19 (aS .add (s1.getD 0 undef) (i64 1) λt21=>K (.tuple #[t21,(i64 0)]) w2) (aS .eql t17 (.int .u8 10) λt23=>bE t23 (K (.tuple #[(i64 0),(i64 40)]) w2) (aS .eql t17 (.int .u8 123) λt25=>bE t25 (rY v0 (some (s1.getD 0 undef)) none λt29=>aS .add a (i64 1) λt31=>aL P0 149 [t29,t31] w2 λt32 f=>kH 0 t32 λt33=>kH 1 t32 λt34=>c [t33,t34] f) (aS .eql t17 (.int .u8 34) λt36=>bE t36 (rY v0 (some (s1.getD 0 undef)) none λt40=>aL P0 112 [t40,a] w2 λt42 e=>kH 0 t42 λt43=>kH 1 t42 λt44=>c [t43,t44] e) (c [(i64 1),(i64 0)] w2))))) λb _ d=>aS .neq (b.getD 1 undef) (i64 0) λt46=>bE t46 (K (.tuple #[(i64 0),(b.getD 1 undef)]) d) (aS .add (s1.getD 0 undef) (b.getD 0 undef) λt50=>g [t50] d)) (K (.tuple #[(i64 0),(i64 40)]) w2))
def aA2(h:aGG v0 v1 w K):aL P0 149 [v0,v1] w K:=
 tie _ 149 Tryz.f149 XZ _ w K 2 _ rfl mixed Tryz.func149 (by kernel_rfl) (by kernel_rfl) Tryz.call149 h
def XY:fG:={js:=[(3004,⟨[11],[],10⟩),(3008,⟨[7],[],6⟩)],ds:=[]}
def aGF(v0:Value)(w:World)(K:Q0):=aL P0 108 [v0] w λt4 w1=>GdW (isB t4 false) [undef] w1 (λg=>aL P0 110 [v0] w1 λt7 c=>g [t7] c) λe _ a=>fN t4 (.bool true) (e.getD 0 undef) λt8=>GdW (isB t8 false) [undef] a (λf=>aS .eql v0 (.int .u8 45) λt11=>f [t11] a) λd _ b=>fN t8 (.bool true) (d.getD 0 undef) λt12=>K t12 b
def aA1(h:aGF v0 w K):aL P0 150 [v0] w K:=
 tie _ 150 Tryz.f150 XY _ w K 1 _ rfl mixed Tryz.func150 (by kernel_rfl) (by kernel_rfl) Tryz.call150 h
end
section
open Go Go.Eng
variable [HX]
def NS:fG:={js:=[(30,⟨[],[],6⟩),(34003,⟨[40],[],39⟩),(20,⟨[],[],6⟩)],ds:=[(29,⟨[0,1,2,6],[[],[0],[],[2],[2,3],[0,1,2,3,4],[0,1,2,3,4,5],[0,1,2,3,4,5,6]]⟩),(9,⟨[0,1],[[],[],[0],[0,1,2]]⟩)]}
def W12(v0:Value)(w:World)(K:Q0):=
 eD 28 [sN,sN,sN] w λt2 w1=>
 eD 29 [(.pointer none)] w1 λt3 w2=>
 aL P0 28 [v0] w2 λt9 H=>
 kH 0 t9 λt10=>
 kH 1 t9 λt11=>
 stW 1 t3 t11 H λi=>
 ldW false 1 t3 i λt12=>
 eqW .ptr true t12 (.pointer none) λt13=>
 bE t13 (
 kE [sN,sN,sN] [] λc5=>
 ldW false 1 t3 i.drew λt15=>
 stW 3 t2 (.agg c5.toArray) i.drew λG=>
 (ldW false 1 t3 G λx=>x=t15)/\
 stW 1 t3 t15 G λk=>
 ldW true 3 t2 k λM=>
 ldW false 1 t3 k λL=>
 K (.tuple #[M,L]) k) (
 letI:HX:=⟨λch j=>AR P0 29 [t2,t3] (.panicking ch) j λc=>
 ldW true 3 t2 c λC=>
 ldW false 1 t3 c λB=>
 K (.tuple #[C,B]) c⟩
 kE [sN,(i64 0),(i64 0),(.pointer none),(i64 0),(.bool false)] [(0,1,t10),(3,1,t2)] λD=>
 jZ 92 (.agg D.toArray) i λt19 v=>
 aL P0 30 [t19] v λt21 u=>
 eK [] u λJ _ t E=>
 aL P0 31 [t19] t λt23 a=>
 qK false 0 1 t23 λt24=>
 aS .neq t24 (i64 0) λt25=>
 bE t25 (
 bF 2 t2 λt26=>
 ldW false 1 t26 a.drew λt27=>
 aL P0 32 [t19] a.drew λt29 g=>
 (ldW false 1 t26 g λx=>x=t27)/\
 gP 3 1 [(i64 0)] [(0,1,t29)] g λt30 f=>
 (ldW false 1 t26 f λx=>x=t27)/\
 fV P0 (Builtin.append_ #[26,26] 26 #[t27,t30]) f λt31 s=>
 bF 2 t2 λt32=>
 stW 1 t32 t31 s λr=>
 dE (λh=>
 aL P0 31 [t19] r λt34 e=>
 qK false 0 1 t34 λt35=>
 aS .neq t35 (i64 5) λt37=>
 GdW (isB t37 true) [undef] e (λF=>
 aS .neq t35 (i64 0) λt40=>
 F [t40] e)
 λy _ d=>
 fN t37 (y.getD 0 undef) (.bool false) λt41=>
 bE t41 (
 aL P0 31 [t19] d λt43 q=>
 qK false 2 1 t43 λt44=>
 aL P0 33 [(i64 50),t44] q λt45 p=>
 h [] p) (
 h [] d))
 λI _ o=>
 aL P0 30 [t19] o λt47 n=>
 E [] n) (
 ldW true 3 t2 a λt48=>
 stW 3 t2 t48 a λm=>
 stW 1 t3 (.pointer none) m λl=>
 AR P0 29 [t2,t3] .returning l λb=>
 ldW true 3 t2 b λA=>
 ldW false 1 t3 b λz=>
 K (.tuple #[A,z]) b))
def aE5(v0:Value)(w:World)(K:Q0):Va P0 Tryz.f12 NS 3 [v0] w (HZ K)=W12 v0 w K:=by kernel_rfl
def aBi:Ea P0 Tryz.f12 NS 4 29 3 1=true:=by kernel_rfl
def aE4(h:W12 v0 w K):aL P0 12 [v0] w K:=
 aFj P0 12 Tryz.f12 NS [v0] w K 4 29 3 1 (W12 v0 w K) rfl mixed Tryz.func12 aBi (aE5 v0 w K) Tryz.call12 Tryz.call29 h
def TK:fG:={js:=[],ds:=[(5,⟨[0,1,2],[[],[],[1],[0],[0,1,2,3]]⟩)]}
def R29(v0 b:Value)(x:Value)(w:World)(K:World->Prop):Prop:=
 letI:HX:=noX
 eqQ P0 .neq 20 false true x .nilIface w λt5=>
 bE t5 (
 kE [sN,sN,sN] [] λc=>
 sF P0 (Instr.typeAssert x 20 29 false) w.drew λt8=>
 stW 3 v0 (.agg c.toArray) w.drew λw2=>
 (sF P0 (Instr.typeAssert x 20 29 false) w2 λx=>x=t8)/\
 stW 1 b t8 w2 λa=>
 K a) (
 K w)
def aE7(v0 a:Value)(x:Value)(w:World)(K:World->Prop):Zu P0 Tryz.f29 TK [v0,a] x w K=R29 v0 a x w K:=by kernel_rfl
def aBA:Gi P0 Tryz.f29 TK 2=true:=by kernel_rfl
def VV{x:Value}{u:FrameMode}{K:World->Prop}(a:Finds u x)(h:R29 v g x w K):AR P0 29 [v,g] u w K:=
 Hk (args:=[v,g]) mixed Tryz.func29 aBA a (by rw[aE7];exact h)
def aDm:fG:={js:=[(1,⟨[],[],1⟩)],ds:=[]}
def W30(v0:Value)(w:World)(K:Q0):=eK [] w λs1 _ w2 c=>aL P0 31 [v0] w2 λt3 a=>qK false 0 1 t3 λt4=>aS .eql t4 (i64 5) λt5=>bE t5 (fA v0 λt7=>bF 1 t7 λt8=>ldW false 1 t8 a λt9=>aS .add t9 (i64 1) λt10=>fA v0 λt11=>bF 1 t11 λt12=>stW 1 t12 t10 a λb=>c [] b) (K (.tuple #[]) a)
def aER(h:W30 v0 w K):aL P0 30 [v0] w K:=
 tie _ 30 Tryz.f30 aDm _ w K 1 _ rfl mixed Tryz.func30 (by kernel_rfl) (by kernel_rfl) Tryz.call30 h
def aDl:fG:={js:=[(4,⟨[],[],3⟩)],ds:=[(16,⟨[0,1,2,3,4,5,6,7],[[],[0],[],[2],[2,3],[2,3,4],[0,1,2,3,4,5],[0,1,2,3,4,5,6],[0,1,2,3,4,5,6,7]]⟩),(14,⟨[0,1,2,3,4,5,6,7,8,9],[[],[0],[0,1],[0,1,2],[],[4],[4,5],[4,5,6],[0,1,2,3,4,5,6,7],[0,1,2,3,4,5,6,7,8],[],[0,1,2,3,4,5,6,7,8,9,10]]⟩),(7,⟨[0,1,2,3,4,5,6,7,8,9,10,11,12,13,14,15,16,17],[[],[0],[0,1],[0,1,2],[0,1,2,3],[0,1,2,3,4],[0,1,2,3,4,5],[0,1,2,3,4,5,6],[0,1,2,3,4,5,6,7],[0,1,2,3,4],[0,1,2,3,4,9],[0,1,2,3,4,9,10],[0,1,2,3,4,9,10,11],[0,1,2,3,4,5,6,7,8,9,10,11,12],[0,1,2,3,4,5,6,7,8,9,10,11,12,13],[0,1,2,3,4,5,6,7,8,9,10,11,12,13,14],[0,1,2,3,4,5,6,7,8,9,10,11,12,13,14,15],[0,1,2,3,4,5,6,7,8,9,10,11,12,13,14,15,16]]⟩)]}
def W31(v0:Value)(w:World)(K:Q0):=eD 95 zL0 w λt2 w1=>eK [] w1 λt _ a L2=>fA v0 λt5=>bF 5 t5 λt6=>ldW false 1 t6 a.drew λt7=>GqW (isB t7 true) (λs=>s v0) λt9=>GqW (isB t7 true) (λr=>fA t9 r) λt10=>GqW (isB t7 true) (λq=>bF 0 t10 q) λt11=>GqW (isB t7 true) (λp=>ldW false 1 t11 a.drew p) λt12=>GqW (isB t7 true) (λo=>o v0) λt13=>GqW (isB t7 true) (λn=>fA t13 n) λt14=>GqW (isB t7 true) (λm=>bF 1 t14 m) λt15=>GqW (isB t7 true) (λl=>ldW false 1 t15 a.drew l) λt16=>GqW (isB t7 true) (λk=>fX none 3 t12 t16 k) λt17=>GqW (isB t7 true) (λj=>bF 0 t17 j) λt18=>GqW (isB t7 true) (λi=>ldW false 1 t18 a.drew i) λt19=>GqW (isB t7 true) (λh=>aS .eql t19 (i64 5) h) λt20=>fN t7 t20 (.bool false) λt21=>bE t21 (fA v0 λt23=>bF 1 t23 λt24=>ldW false 1 t24 a.drew λt25=>aS .add t25 (i64 1) λt26=>fA v0 λt27=>bF 1 t27 λt28=>stW 1 t28 t26 a.drew λf=>L2 [] f) (fA v0 λt30=>bF 0 t30 λt31=>ldW false 1 t31 a.drew.drew λt32=>fA v0 λt34=>bF 1 t34 λt35=>ldW false 1 t35 a.drew.drew λt36=>fX none 3 t32 t36 λt37=>ldW true 3 t37 a.drew.drew λt38=>eD 95 zL0 a.drew.drew λt3 b=>(ldW true 3 t37 b λx=>x=t38)/\(ldW false 1 t35 b λx=>x=t36)/\(ldW false 1 t31 b λx=>x=t32)/\stW 3 t3 t38 b λc=>bF 2 t3 λt39=>ldW false 1 t39 c.drew λt40=>fA v0 λt42=>bF 2 t42 λt43=>ldW false 1 t43 c.drew λt44=>aS .add t40 t44 λt45=>bF 2 t3 λt46=>stW 1 t46 t45 c.drew λe=>ldW true 3 t3 e λt47=>stW 3 t2 t47 e λd=>ldW true 3 t2 d λg=>K g d)
def aEQ(h:W31 v0 w K):aL P0 31 [v0] w K:=
 tie _ 31 Tryz.f31 aDl _ w K 1 _ rfl mixed Tryz.func31 (by kernel_rfl) (by kernel_rfl) Tryz.call31 h
def aDk:fG:={js:=[(19,⟨[],[],6⟩),(8,⟨[],[],5⟩)],ds:=[(28,⟨[0,1,2,3,4,5,6,7,8,9,10,11,14,15],[[],[0],[0,1],[0,1,2],[],[4],[4,5],[4,5,6],[4,5,6,7],[4,5,6,7,8],[4,5,6,7,8,9],[],[11],[4,5,6,7,8,9,10,11,12],[0,1,2,3,4,5,6,7,8,9,10,11,12,13],[0,1,2,3,4,5,6,7,8,9,10,11,12,13,14],[0,1,2,3,4,5,6,7,8,9,10,11,12,13,14,15]]⟩),(16,⟨[0,1,2,3,8],[[],[0],[],[],[3],[2,3,4],[2,3,4,5],[0,1,2,3,4,5,6],[0,1,2,3,4,5,6,7],[0,1,2,3,4,5,6,7,8]]⟩)]}
def W32(v0:Value)(w:World)(K:Q0):=jZ 89 v0 w λt1 w1=>ldW false 1 t1 w1 λt6=>aL P0 62 [t6,(i64 1)] w1 λt7 w2=>eD 95 zL0 w2 λt3 y=>stW 3 t3 t7 y λm=>bF 1 t3 λt8=>ldW false 1 t8 m λt9=>bF 2 t3 λt10=>ldW false 1 t10 m λt11=>kE [(str []),sN,sN,sN,(i64 0)] [(0,1,t9),(4,1,t11)] λc5=>eD 38 zL5 m λt4 v=>stW 5 t4 (.agg c5.toArray) v λu=>eK [] u λB _ t A=>ldW false 1 t1 t λt13=>aL P0 31 [t13] t λt14 c=>qK false 0 1 t14 λt15=>aS .eql t15 (i64 3) λt16=>bE t16 (bF 1 t4 λt17=>ldW false 1 t17 c.drew λt18=>ldW false 1 t1 c.drew λt19=>ldW false 1 t1 c.drew λt20=>aL P0 64 [t20] c.drew λt21 h=>(ldW false 1 t1 h λx=>x=t19)/\(ldW false 1 t17 h λx=>x=t18)/\aL P0 63 [t19,t21] h λt22 k=>(ldW false 1 t17 k λx=>x=t18)/\gP 9 1 [(str [])] [(0,1,t22)] k λt23 j=>(ldW false 1 t17 j λx=>x=t18)/\fV P0 (Builtin.append_ #[33,33] 33 #[t18,t23]) j λt24 s=>bF 1 t4 λt25=>stW 1 t25 t24 s λr=>A [] r) (ldW false 1 t1 c λt26=>aL P0 31 [t26] c λt27 q=>eD 95 zL0 q λt5 p=>stW 3 t5 t27 p λi=>dE (λl=>ldW false 1 t1 i λt28=>gP 9 1 [(str [])] [(0,1,(str [123]))] i λt29 o=>aL P0 65 [t28,t29] o λt30 g=>unW .not t30 λt31=>bE t31 (bF 2 t5 λt32=>ldW false 1 t32 g λt33=>aL P0 33 [(i64 50),t33] g λt34 n=>l [] n) (l [] g)) λz _ f=>ldW false 1 t1 f λt35=>bF 2 t5 λt36=>ldW false 1 t36 f λt37=>aL P0 66 [t35,t37,(.bool false),(.func (.func 67) #[] #[t1,t4])] f λt39 a=>ldW false 1 t1 a.drew λt40=>fA t40 λt41=>bF 3 t41 λt42=>ldW false 1 t42 a.drew λt43=>ldW false 1 t1 a.drew λt44=>fA t44 λt45=>bF 3 t45 λt46=>ldW false 1 t46 a.drew λt47=>fA t47 λt48=>bF 1 t48 λt49=>ldW false 1 t49 a.drew λt50=>ldW true 5 t4 a.drew λt51=>gP 38 1 [(str []),sN,sN,sN,(i64 0)] [(0,5,t51)] a.drew λt52 b=>(ldW false 1 t49 b λx=>x=t50)/\(ldW false 1 t46 b λx=>x=t47)/\(ldW false 1 t1 b λx=>x=t44)/\(ldW false 1 t42 b λx=>x=t43)/\(ldW false 1 t1 b λx=>x=t40)/\fV P0 (Builtin.append_ #[25,25] 25 #[t50,t52]) b λt53 e=>(ldW false 1 t42 e λx=>x=t43)/\(ldW false 1 t1 e λx=>x=t40)/\fA t43 λt54=>bF 1 t54 λt55=>stW 1 t55 t53 e λd=>ldW false 1 t1 d λt56=>fA t56 λt57=>bF 3 t57 λt58=>ldW false 1 t58 d λt59=>fA t59 λt60=>bF 1 t60 λt61=>ldW false 1 t61 d λt62=>iL t62 λt63=>aS .sub t63 (i64 1) λt64=>K t64 d)
def aEP(h:W32 v0 w K):aL P0 32 [v0] w K:=
 tie _ 32 Tryz.f32 aDk _ w K 1 _ rfl mixed Tryz.func32 (by kernel_rfl) (by kernel_rfl) Tryz.call32 h
def aDj:fG:={js:=[],ds:=[]}
def W33(v0 a:Value)(w:World)(K:Q0):=kE [(i64 0),(str []),(i64 0)] [(0,1,v0),(2,1,a)] λb=>jZ 48 (.agg b.toArray) w λt7 w2=>QV (.iface 29 t7) w2
def aEO(h:W33 v0 v1 w K):aL P0 33 [v0,v1] w K:=
 tie _ 33 Tryz.f33 aDj _ w K 2 _ rfl mixed Tryz.func33 (by kernel_rfl) (by kernel_rfl) Tryz.call33 h
def aC3:fG:={js:=[(2,⟨[],[],5⟩)],ds:=[]}
def W62(v0 h:Value)(w:World)(K:Q0):=eD 95 zL0 w λt4 w1=>dE (λc=>aL P0 31 [v0] w1 λt6 b=>qK false 0 1 t6 λt7=>aS .neq t7 h λt9=>bE t9 (aL P0 31 [v0] b λt11 g=>qK false 2 1 t11 λt12=>aL P0 33 [(i64 50),t12] g λt13 f=>c [] f) (c [] b)) λj _ e=>aL P0 64 [v0] e λt15 d=>stW 3 t4 t15 d λa=>ldW true 3 t4 a λi=>K i a
def aEy(h:W62 v0 v1 w K):aL P0 62 [v0,v1] w K:=
 tie _ 62 Tryz.f62 aC3 _ w K 2 _ rfl mixed Tryz.func62 (by kernel_rfl) (by kernel_rfl) Tryz.call62 h
def aC2:fG:={js:=[(2,⟨[],[],4⟩)],ds:=[]}
def W63(v0 f:Value)(w:World)(K:Q0):=jZ 95 f w λt3 w1=>dE (λc=>bF 1 t3 λt8=>ldW false 1 t8 w1 λt9=>aL P0 115 [t9] w1 λt10 a=>kH 0 t10 λt11=>kH 1 t10 λt12=>aS .geq t11 (i64 0) λt14=>bE t14 (bF 2 t3 λt15=>ldW false 1 t15 a λt16=>aL P0 33 [(i64 50),t16] a λt17 e=>c [] e) (c [] a)) λg _ b=>bF 1 t3 λt18=>ldW false 1 t18 b λt19=>aL P0 116 [t19] b λt20 d=>K t20 d
def aEx(h:W63 v0 v1 w K):aL P0 63 [v0,v1] w K:=
 tie _ 63 Tryz.f63 aC2 _ w K 2 _ rfl mixed Tryz.func63 (by kernel_rfl) (by kernel_rfl) Tryz.call63 h
def aC1:fG:={js:=[(4,⟨[],[],4⟩)],ds:=[]}
def W64(v0:Value)(w:World)(K:Q0):=eD 95 zL0 w λt2 w1=>aL P0 31 [v0] w1 λt5 w2=>eD 95 zL0 w2 λt3 f=>stW 3 t3 t5 f λa=>dE (λd=>bF 0 t3 λt6=>ldW false 1 t6 a λt7=>aS .neq t7 (i64 0) λt8=>bE t8 (fA v0 λt10=>bF 1 t10 λt11=>ldW false 1 t11 a λt12=>aS .add t12 (i64 1) λt13=>fA v0 λt14=>bF 1 t14 λt15=>stW 1 t15 t13 a λe=>d [] e) (d [] a)) λh _ c=>ldW true 3 t3 c λt16=>stW 3 t2 t16 c λb=>ldW true 3 t2 b λg=>K g b
def aEw(h:W64 v0 w K):aL P0 64 [v0] w K:=
 tie _ 64 Tryz.f64 aC1 _ w K 1 _ rfl mixed Tryz.func64 (by kernel_rfl) (by kernel_rfl) Tryz.call64 h
def aC0:fG:={js:=[(5006,⟨[15],[],12⟩)],ds:=[]}
def W65(v0 d:Value)(w:World)(K:Q0):=aL P0 31 [v0] w λt7 w1=>eD 95 zL0 w1 λt5 w2=>stW 3 t5 t7 w2 λa=>bF 0 t5 λt8=>ldW false 1 t8 a λt9=>aS .eql t9 (i64 4) λt10=>GdW (isB t10 true) [undef] a (λf=>bF 1 t5 λt13=>ldW false 1 t13 a λt14=>aL P0 117 [d,t14] a λt15 c=>f [t15] c) λe _ b=>fN t10 (e.getD 0 undef) (.bool false) λt16=>K t16 b
def aEv(h:W65 v0 v1 w K):aL P0 65 [v0,v1] w K:=
 tie _ 65 Tryz.f65 aC0 _ w K 2 _ rfl mixed Tryz.func65 (by kernel_rfl) (by kernel_rfl) Tryz.call65 h
def aCZ:fG:={js:=[(0,⟨[],[],4⟩)],ds:=[]}
def W66(v0 h v2 v3:Value)(w:World)(K:Q0):=dE (λc=>fA v0 λt10=>bF 4 t10 λt11=>ldW false 1 t11 w λt12=>aS .eql t12 (i64 24) λt13=>bE t13 (aL P0 33 [(i64 7),h] w λt15 w2=>c [] w2) (c [] w)) λs1 _ a=>fA v0 λt17=>bF 5 t17 λt18=>ldW false 1 t18 a λt19=>fA v0 λt21=>bF 4 t21 λt22=>ldW false 1 t22 a λt23=>aS .add t23 (i64 1) λt24=>fA v0 λt25=>bF 4 t25 λt26=>stW 1 t26 t24 a λg=>fA v0 λt29=>bF 5 t29 λt30=>stW 1 t30 v2 g λf=>qN P0 v3 [] f λt32 b=>fA v0 λt34=>bF 4 t34 λt35=>ldW false 1 t35 b λt36=>aS .sub t36 (i64 1) λt37=>fA v0 λt38=>bF 4 t38 λt39=>stW 1 t39 t37 b λe=>fA v0 λt42=>bF 5 t42 λt43=>stW 1 t43 t19 e λd=>K (.tuple #[]) d
def aEu(h:W66 v0 v1 v2 v3 w K):aL P0 66 [v0,v1,v2,v3] w K:=
 tie _ 66 Tryz.f66 aCZ _ w K 4 _ rfl mixed Tryz.func66 (by kernel_rfl) (by kernel_rfl) Tryz.call66 h
def aCY:fG:={js:=[(15,⟨[],[],2⟩),(17005,⟨[24],[],21⟩),(5,⟨[],[],2⟩)],ds:=[]}
def W67(v0 m:Value)(w:World)(K:Q0):=ldW false 1 v0 w λt2=>fA t2 λt3=>bF 1 t3 λt4=>ldW false 1 t4 w λt5=>aS .add t5 (i64 1) λt6=>fA t2 λt7=>bF 1 t7 λt8=>stW 1 t8 t6 w λw1=>ldW false 1 v0 w1 λt9=>aL P0 30 [t9] w1 λt10 w2=>eK [] w2 λr _ k o=>ldW false 1 v0 k λt11=>aL P0 68 [t11,(str [125])] k λt12 d=>unW .not t12 λt13=>bE t13 (ldW false 1 v0 d λt14=>aL P0 69 [t14,m] d λt15 j=>dE (λl=>ldW false 1 v0 j λt16=>aL P0 31 [t16] j λt17 c=>qK false 0 1 t17 λt18=>aS .neq t18 (i64 5) λt19=>GdW (isB t19 true) [undef] c (λp=>ldW false 1 v0 c λt21=>gP 9 1 [(str [])] [(0,1,(str [125]))] c λt22 i=>aL P0 65 [t21,t22] i λt23 h=>unW .not t23 λt24=>p [t24] h) λn _ a=>fN t19 (n.getD 0 undef) (.bool false) λt25=>bE t25 (ldW false 1 v0 a λt26=>aL P0 31 [t26] a λt27 g=>qK false 2 1 t27 λt28=>aL P0 33 [(i64 50),t28] g λt29 f=>l [] f) (l [] a)) λq _ b=>ldW false 1 v0 b λt30=>aL P0 30 [t30] b λt31 e=>o [] e) (K (.tuple #[]) d)
def aEt(h:W67 v0 v1 w K):aL P0 67 [v0,v1] w K:=
 tie _ 67 Tryz.f67 aCY _ w K 2 _ rfl mixed Tryz.func67 (by kernel_rfl) (by kernel_rfl) Tryz.call67 h
def aCX:fG:={js:=[],ds:=[]}
def W68(v0 b:Value)(w:World)(K:Q0):=gP 9 1 [(str [])] [(0,1,b)] w λt7 w1=>aL P0 65 [v0,t7] w1 λt8 w2=>unW .not t8 λt9=>bE t9 (K (.bool false) w2) (fA v0 λt11=>bF 1 t11 λt12=>ldW false 1 t12 w2 λt13=>aS .add t13 (i64 1) λt14=>fA v0 λt15=>bF 1 t15 λt16=>stW 1 t16 t14 w2 λa=>K (.bool true) a)
def aEs(h:W68 v0 v1 w K):aL P0 68 [v0,v1] w K:=
 tie _ 68 Tryz.f68 aCX _ w K 2 _ rfl mixed Tryz.func68 (by kernel_rfl) (by kernel_rfl) Tryz.call68 h
def aCW:fG:={js:=[],ds:=[(12,⟨[0,1,2,3,4,5,9,10],[[],[],[1],[1,2],[1,2,3],[],[5],[5,6],[1,2,3,4,5,6,7],[0,1,2,3,4,5,6,7,8],[0,1,2,3,4,5,6,7,8,9],[0,1,2,3,4,5,6,7,8,9,10]]⟩),(7,⟨[0,1,2,3,4,5,6,7,9,10,11,14,15],[[],[],[1],[1,2],[1,2,3],[],[5],[],[7],[],[9],[5,6,7,8,9,10],[5,6,7,8,9,10,11],[1,2,3,4,5,6,7,8,9,10,11,12],[0,1,2,3,4,5,6,7,8,9,10,11,12,13],[0,1,2,3,4,5,6,7,8,9,10,11,12,13,14],[0,1,2,3,4,5,6,7,8,9,10,11,12,13,14,15]]⟩)]}
def W69(v0 f:Value)(w:World)(K:Q0):=aL P0 62 [v0,(i64 1)] w λt6 w1=>eD 95 zL0 w1 λt4 w2=>stW 3 t4 t6 w2 λl=>aL P0 68 [v0,(str [61])] l λt8 a=>bE t8 (fA f λt11=>bF 2 t11 λt12=>ldW false 1 t12 a.drew λt13=>bF 1 t4 λt14=>ldW false 1 t14 a.drew λt15=>bF 2 t4 λt18=>ldW false 1 t18 a.drew λt19=>aL P0 118 [v0] a.drew λt17 e=>(ldW false 1 t18 e λx=>x=t19)/\(ldW false 1 t14 e λx=>x=t15)/\(ldW false 1 t12 e λx=>x=t13)/\kE [(str []),(i64 0),(i64 0)] [(0,1,t15),(1,1,t17),(2,1,t19)] λm=>gP 40 1 [(str []),(i64 0),(i64 0)] [(0,3,(.agg m.toArray))] e λt21 i=>(ldW false 1 t12 i λx=>x=t13)/\fV P0 (Builtin.append_ #[36,36] 36 #[t13,t21]) i λt22 k=>fA f λt23=>bF 2 t23 λt24=>stW 1 t24 t22 k λj=>K (.tuple #[]) j) (fA v0 λt26=>bF 1 t26 λt27=>ldW false 1 t27 a λt28=>aS .sub t28 (i64 1) λt29=>fA v0 λt30=>bF 1 t30 λt31=>stW 1 t31 t29 a λd=>fA f λt34=>bF 3 t34 λt35=>ldW false 1 t35 d.drew λt36=>aL P0 32 [v0] d.drew λt38 c=>(ldW false 1 t35 c λx=>x=t36)/\gP 3 1 [(i64 0)] [(0,1,t38)] c λt39 b=>(ldW false 1 t35 b λx=>x=t36)/\fV P0 (Builtin.append_ #[26,26] 26 #[t36,t39]) b λt40 h=>fA f λt41=>bF 3 t41 λt42=>stW 1 t42 t40 h λg=>K (.tuple #[]) g)
def aEr(h:W69 v0 v1 w K):aL P0 69 [v0,v1] w K:=
 tie _ 69 Tryz.f69 aCW _ w K 2 _ rfl mixed Tryz.func69 (by kernel_rfl) (by kernel_rfl) Tryz.call69 h
def Yu:fG:={js:=[(13,⟨[4],[],1⟩),(6,⟨[4],[],1⟩)],ds:=[]}
def aG1(v0:Value)(w:World)(K:Q0):=eK [(i64 0)] w λs1 _ w2 f=>kQ v0 λt7=>aS .lss (s1.getD 0 undef) t7 λt8=>bE t8 (dE (λb=>qM v0 (s1.getD 0 undef) λt13=>aS .eql t13 (.int .u8 92) λt14=>bE t14 (aS .add (s1.getD 0 undef) (i64 1) λt16=>b [t16] w2) (rY v0 (some (s1.getD 0 undef)) none λt19=>aL P0 59 [t19,(str [36,123])] w2 λt20 a=>bE t20 (aS .add (s1.getD 0 undef) (i64 1) λt23=>aS .add (s1.getD 0 undef) (i64 1) λt26=>rY v0 (some t26) none λt27=>aL P0 153 [t27] a λt28 d=>aS .add t23 t28 λt29=>K (.tuple #[(s1.getD 0 undef),t29]) d) (b [(s1.getD 0 undef)] a))) λe _ c=>aS .add (e.getD 0 undef) (i64 1) λt10=>f [t10] c) (K (.tuple #[(.int .i64 (-1)),(i64 0)]) w2)
def aBo(h:aG1 v0 w K):aL P0 115 [v0] w K:=
 tie _ 115 Tryz.f115 Yu _ w K 1 _ rfl mixed Tryz.func115 (by kernel_rfl) (by kernel_rfl) Tryz.call115 h
def Yt:fG:={js:=[(19,⟨[4,5],[],4⟩),(8,⟨[4],[],4⟩)],ds:=[]}
def aG0(v0:Value)(w:World)(K:Q0):=eD 114 zL4 w λt3 w1=>eK [(i64 0)] w1 λc _ a L2=>kQ v0 λt8=>aS .lss (c.getD 0 undef) t8 λt9=>bE t9 (qM v0 (c.getD 0 undef) λt14=>dE (λb=>aS .eql t14 (.int .u8 92) λt16=>bE t16 (aS .add (c.getD 0 undef) (i64 1) λt18=>qM v0 t18 λt21=>aS .eql t21 (.int .u8 110) λt24=>bE t24 (b [t18,(.int .u8 10)] a) (aS .eql t21 (.int .u8 116) λt26=>bE t26 (b [t18,(.int .u8 9)] a) (aS .eql t21 (.int .u8 114) λt28=>bE t28 (b [t18,(.int .u8 13)] a) (b [t18,t21] a)))) (b [(c.getD 0 undef),t14] a)) λd _ g=>aL P0 126 [t3,(d.getD 1 undef)] g λt30 f=>aS .add (d.getD 0 undef) (i64 1) λt11=>L2 [t11] f) (aL P0 44 [t3] a λt31 e=>K t31 e)
def aBn(h:aG0 v0 w K):aL P0 116 [v0] w K:=
 tie _ 116 Tryz.f116 Yt _ w K 1 _ rfl mixed Tryz.func116 (by kernel_rfl) (by kernel_rfl) Tryz.call116 h
def Yr:fG:={js:=[],ds:=[(17,⟨[0,1,2,3,4,5,6,7],[[],[],[1],[],[3],[3,4],[3,4,5],[],[0,1,2,3,4,5,6,7]]⟩)]}
def aGY(v0:Value)(w:World)(K:Q0):=jZ 89 v0 w λt1 w1=>ldW false 1 t1 w1 λt6=>aL P0 155 [t6,(i64 0)] w1 λt7 w2=>ldW false 1 t1 w2 λt8=>aL P0 31 [t8] w2 λt9 j=>eD 95 zL0 j λt4 i=>stW 3 t4 t9 i λf=>ldW false 1 t1 f λt10=>aL P0 68 [t10,(str [63])] f λt11 e=>unW .not t11 λt12=>bE t12 (K t7 e) (gP 3 3 [(i64 0),(i64 0),(i64 0)] [(0,1,t7),(1,1,(i64 0)),(2,1,(i64 0))] e λt15 h=>eD 26 [sN] h λt5 g=>stW 1 t5 t15 g λb=>ldW false 1 t1 b.drew λt16=>bF 2 t4 λt17=>ldW false 1 t17 b.drew λt18=>ldW false 1 t1 b.drew λt19=>fA t19 λt20=>bF 5 t20 λt21=>ldW false 1 t21 b.drew λt22=>aL P0 66 [t16,t18,t22,(.func (.func 156) #[] #[t1,t5])] b.drew λt24 a=>ldW false 1 t1 a λt25=>ldW false 1 t5 a λt26=>bF 2 t4 λt27=>ldW false 1 t27 a λt28=>kE [(i64 0),(str []),sN,sN,(i64 0)] [(0,1,(i64 28)),(2,1,t26),(4,1,t28)] λd=>aL P0 158 [t25,(.agg d.toArray)] a λt30 c=>K t30 c)
def aBl(h:aGY v0 w K):aL P0 118 [v0] w K:=
 tie _ 118 Tryz.f118 Yr _ w K 1 _ rfl mixed Tryz.func118 (by kernel_rfl) (by kernel_rfl) Tryz.call118 h
def XX:fG:={js:=[(15,⟨[3,4],[],1⟩),(8,⟨[3,4],[],1⟩)],ds:=[]}
def aGE(v0:Value)(w:World)(K:Q0):=eK [(i64 0),(i64 0)] w λs1 _ w2 e=>kQ v0 λt7=>aS .lss (s1.getD 1 undef) t7 λt8=>bE t8 (dE (λa=>qM v0 (s1.getD 1 undef) λt13=>aS .eql t13 (.int .u8 123) λt15=>bE t15 (aS .add (s1.getD 0 undef) (i64 1) λt17=>a [t17,(s1.getD 1 undef)] w2) (aS .eql t13 (.int .u8 125) λt19=>bE t19 (aS .sub (s1.getD 0 undef) (i64 1) λt21=>aS .eql t21 (i64 0) λt23=>bE t23 (aS .add (s1.getD 1 undef) (i64 1) λt25=>K t25 w2) (a [t21,(s1.getD 1 undef)] w2)) (aS .eql t13 (.int .u8 34) λt27=>bE t27 (rY v0 (some (s1.getD 1 undef)) none λt31=>aL P0 202 [t31] w2 λt32 d=>aS .sub t32 (i64 1) λt33=>aS .add (s1.getD 1 undef) t33 λt34=>a [(s1.getD 0 undef),t34] d) (a [(s1.getD 0 undef),(s1.getD 1 undef)] w2)))) λb _ c=>aS .add (b.getD 1 undef) (i64 1) λt10=>e [(b.getD 0 undef),t10] c) (kQ v0 λt36=>K t36 w2)
def aA0(h:aGE v0 w K):aL P0 153 [v0] w K:=
 tie _ 153 Tryz.f153 XX _ w K 1 _ rfl mixed Tryz.func153 (by kernel_rfl) (by kernel_rfl) Tryz.call153 h
def XV:fG:={js:=[(13,⟨[5],[],2⟩)],ds:=[]}
def aE3(v0 b:Value)(w:World)(K:Q0):=aS .eql b (i64 6) λt10=>bE t10 (aL P0 203 [v0] w λt12 w1=>K t12 w1) (aS .add b (i64 1) λt15=>aL P0 155 [v0,t15] w λt16 w2=>eK [t16] w2 λh _ l m=>aL P0 31 [v0] l λt18 k=>eD 95 zL0 k λt6 j=>stW 3 t6 t18 j λg=>ldW true 3 t6 g λt19=>aL P0 204 [t19,b] g λt21 c=>aS .eql t21 (i64 0) λt23=>bE t23 (K (h.getD 0 undef) c) (fA v0 λt26=>bF 1 t26 λt27=>ldW false 1 t27 c λt28=>aS .add t28 (i64 1) λt29=>fA v0 λt30=>bF 1 t30 λt31=>stW 1 t31 t29 c λi=>aS .add b (i64 1) λt34=>aL P0 155 [v0,t34] i λt35 e=>gP 3 2 [(i64 0),(i64 0)] [(0,1,(h.getD 0 undef)),(1,1,t35)] e λt40 a=>bF 2 t6 λt41=>ldW false 1 t41 a λt42=>kE [(i64 0),(str []),sN,sN,(i64 0)] [(0,1,t21),(2,1,t40),(4,1,t42)] λf=>aL P0 158 [v0,(.agg f.toArray)] a λt44 d=>m [t44] d))
def Qq(h:aE3 v0 v1 w K):aL P0 155 [v0,v1] w K:=
 tie _ 155 Tryz.f155 XV _ w K 2 _ rfl mixed Tryz.func155 (by kernel_rfl) (by kernel_rfl) Tryz.call155 h
def XU:fG:={js:=[],ds:=[(4,⟨[0,1,3],[[],[],[1],[0,1,2],[0,1,2,3]]⟩),(1,⟨[0,1,3],[[],[],[1],[0,1,2],[0,1,2,3]]⟩)]}
def aGC(v0 a:Value)(w:World)(K:Q0):=ldW false 1 a w.drew λt2=>ldW false 1 v0 w.drew λt3=>aL P0 118 [t3] w.drew λt4 w1=>(ldW false 1 a w1 λx=>x=t2)/\fX none 1 t2 (i64 1) λt5=>stW 1 t5 t4 w1 λw2=>ldW false 1 v0 w2 λt6=>aL P0 157 [t6,(str [58])] w2 λt7 b=>ldW false 1 a b.drew λt8=>ldW false 1 v0 b.drew λt9=>aL P0 118 [t9] b.drew λt10 c=>(ldW false 1 a c λx=>x=t8)/\fX none 1 t8 (i64 2) λt11=>stW 1 t11 t10 c λd=>K (.tuple #[]) d
def aAY(h:aGC v0 v1 w K):aL P0 156 [v0,v1] w K:=
 tie _ 156 Tryz.f156 XU _ w K 2 _ rfl mixed Tryz.func156 (by kernel_rfl) (by kernel_rfl) Tryz.call156 h
def XT:fG:={js:=[],ds:=[]}
def aGB(v0 b:Value)(w:World)(K:Q0):=aL P0 68 [v0,b] w λt6 w1=>unW .not t6 λt7=>bE t7 (aL P0 31 [v0] w1 λt9 w2=>qK false 2 1 t9 λt10=>aL P0 33 [(i64 50),t10] w2 λt11 a=>K (.tuple #[]) a) (K (.tuple #[]) w1)
def aAX(h:aGB v0 v1 w K):aL P0 157 [v0,v1] w K:=
 tie _ 157 Tryz.f157 XT _ w K 2 _ rfl mixed Tryz.func157 (by kernel_rfl) (by kernel_rfl) Tryz.call157 h
def XS:fG:={js:=[],ds:=[(3,⟨[0,1,2,3,4,5,6,7,8,9,10,11,14,15],[[],[0],[0,1],[0,1,2],[],[4],[4,5],[4,5,6],[4,5,6,7],[4,5,6,7,8],[4,5,6,7,8,9],[],[11],[4,5,6,7,8,9,10,11,12],[0,1,2,3,4,5,6,7,8,9,10,11,12,13],[0,1,2,3,4,5,6,7,8,9,10,11,12,13,14],[0,1,2,3,4,5,6,7,8,9,10,11,12,13,14,15]]⟩)]}
def aGA(v0 c:Value)(w:World)(K:Q0):=jZ 35 c w λt3 w1=>fA v0 λt6=>bF 3 t6 λt7=>ldW false 1 t7 w1.drew λt8=>fA v0 λt10=>bF 3 t10 λt11=>ldW false 1 t11 w1.drew λt12=>fA t12 λt13=>bF 0 t13 λt14=>ldW false 1 t14 w1.drew λt15=>ldW true 5 t3 w1.drew λt16=>gP 35 1 [(i64 0),(str []),sN,sN,(i64 0)] [(0,5,t16)] w1.drew λt17 w2=>(ldW false 1 t14 w2 λx=>x=t15)/\(ldW false 1 t11 w2 λx=>x=t12)/\(ldW false 1 t7 w2 λx=>x=t8)/\fV P0 (Builtin.append_ #[24,24] 24 #[t15,t17]) w2 λt18 b=>(ldW false 1 t7 b λx=>x=t8)/\fA t8 λt19=>bF 0 t19 λt20=>stW 1 t20 t18 b λa=>fA v0 λt22=>bF 3 t22 λt23=>ldW false 1 t23 a λt24=>fA t24 λt25=>bF 0 t25 λt26=>ldW false 1 t26 a λt27=>iL t27 λt28=>aS .sub t28 (i64 1) λt29=>K t29 a
def aAW(h:aGA v0 v1 w K):aL P0 158 [v0,v1] w K:=
 tie _ 158 Tryz.f158 XS _ w K 2 _ rfl mixed Tryz.func158 (by kernel_rfl) (by kernel_rfl) Tryz.call158 h
def Xu:fG:={js:=[(13,⟨[3],[],1⟩),(6,⟨[3],[],1⟩)],ds:=[]}
def aGe(v0:Value)(w:World)(K:Q0):=eK [(i64 1)] w λs1 _ w2 f=>kQ v0 λt6=>aS .lss (s1.getD 0 undef) t6 λt7=>bE t7 (dE (λa=>qM v0 (s1.getD 0 undef) λt13=>aS .eql t13 (.int .u8 34) λt14=>bE t14 (aS .add (s1.getD 0 undef) (i64 1) λt16=>K t16 w2) (qM v0 (s1.getD 0 undef) λt20=>aS .eql t20 (.int .u8 92) λt21=>bE t21 (aS .add (s1.getD 0 undef) (i64 1) λt23=>a [t23] w2) (rY v0 (some (s1.getD 0 undef)) none λt27=>aL P0 59 [t27,(str [36,123])] w2 λt28 b=>bE t28 (aS .add (s1.getD 0 undef) (i64 1) λt32=>rY v0 (some t32) none λt33=>aL P0 153 [t33] b λt34 d=>aS .add (s1.getD 0 undef) t34 λt35=>a [t35] d) (a [(s1.getD 0 undef)] b)))) λe _ c=>aS .add (e.getD 0 undef) (i64 1) λt9=>f [t9] c) (kQ v0 λt37=>K t37 w2)
def aAA(h:aGe v0 w K):aL P0 202 [v0] w K:=
 tie _ 202 Tryz.f202 Xu _ w K 1 _ rfl mixed Tryz.func202 (by kernel_rfl) (by kernel_rfl) Tryz.call202 h
def Xt:fG:={js:=[(8,⟨[4],[],4⟩)],ds:=[(30,⟨[0,1,2,3,4,5,6,7],[[],[],[1],[],[3],[3,4],[3,4,5],[],[0,1,2,3,4,5,6,7]]⟩)]}
def aGd(v0:Value)(w:World)(K:Q0):=jZ 89 v0 w λt1 w1=>ldW false 1 t1 w1 λt6=>aL P0 31 [t6] w1 λt7 w2=>eD 95 zL0 w2 λt3 o=>stW 3 t3 t7 o λk=>dE (λl=>ldW false 1 t1 k λt9=>gP 9 1 [(str [])] [(0,1,(str [33]))] k λt10 n=>aL P0 65 [t9,t10] n λt11 e=>bE t11 (l [(i64 14)] e) (ldW false 1 t1 e λt13=>gP 9 1 [(str [])] [(0,1,(str [45]))] e λt14 m=>aL P0 65 [t13,t14] m λt15 d=>bE t15 (l [(i64 13)] d) (ldW false 1 t1 d λt33=>aL P0 220 [t33] d λt34 i=>K t34 i))) λp _ h=>eD 3 [(i64 0)] h λt5 g=>stW 1 t5 (i64 0) g λa=>ldW false 1 t1 a.drew λt16=>bF 2 t3 λt17=>ldW false 1 t17 a.drew λt18=>ldW false 1 t1 a.drew λt19=>fA t19 λt20=>bF 5 t20 λt21=>ldW false 1 t21 a.drew λt22=>aL P0 66 [t16,t18,t22,(.func (.func 219) #[] #[t1,t5])] a.drew λt24 b=>ldW false 1 t1 b λt25=>ldW false 1 t5 b λt27=>gP 3 1 [(i64 0)] [(0,1,t27)] b λt28 c=>bF 2 t3 λt29=>ldW false 1 t29 c λt30=>kE [(i64 0),(str []),sN,sN,(i64 0)] [(0,1,(p.getD 0 undef)),(2,1,t28),(4,1,t30)] λj=>aL P0 158 [t25,(.agg j.toArray)] c λt32 f=>K t32 f
def aAz(h:aGd v0 w K):aL P0 203 [v0] w K:=
 tie _ 203 Tryz.f203 Xt _ w K 1 _ rfl mixed Tryz.func203 (by kernel_rfl) (by kernel_rfl) Tryz.call203 h
def Xs:fG:={js:=[],ds:=[]}
def aGc(v0 b:Value)(w:World)(K:Q0):=jZ 95 v0 w λt2 w1=>bF 0 t2 λt5=>ldW false 1 t5 w1 λt6=>aS .neq t6 (i64 4) λt7=>bE t7 (K (i64 0) w1) (aS .mul b (i64 100) λt9=>gP 9 13 (List.replicate 13 (str [])) [(0,1,(str [124,124])),(1,1,(str [38,38])),(2,1,(str [61,61])),(3,1,(str [33,61])),(4,1,(str [60])),(5,1,(str [62])),(6,1,(str [60,61])),(7,1,(str [62,61])),(8,1,(str [43])),(9,1,(str [45])),(10,1,(str [42])),(11,1,(str [47])),(12,1,(str [37]))] w1 λt10 w2=>bF 1 t2 λt11=>ldW false 1 t11 w2 λt12=>aL P0 154 [t10,t12] w2 λt13 a=>aS .add t9 t13 λt14=>aS .eql t14 (i64 0) λt16=>bE t16 (K (i64 27) a) (aS .eql t14 (i64 101) λt18=>bE t18 (K (i64 26) a) (aS .eql t14 (i64 202) λt20=>bE t20 (K (i64 20) a) (aS .eql t14 (i64 203) λt22=>bE t22 (K (i64 21) a) (aS .eql t14 (i64 304) λt24=>bE t24 (K (i64 22) a) (aS .eql t14 (i64 305) λt26=>bE t26 (K (i64 23) a) (aS .eql t14 (i64 306) λt28=>bE t28 (K (i64 24) a) (aS .eql t14 (i64 307) λt30=>bE t30 (K (i64 25) a) (aS .eql t14 (i64 408) λt32=>bE t32 (K (i64 15) a) (aS .eql t14 (i64 409) λt34=>bE t34 (K (i64 16) a) (aS .eql t14 (i64 510) λt36=>bE t36 (K (i64 17) a) (aS .eql t14 (i64 511) λt38=>bE t38 (K (i64 18) a) (aS .eql t14 (i64 512) λt40=>bE t40 (K (i64 19) a) (K (i64 0) a))))))))))))))
def aAy(h:aGc v0 v1 w K):aL P0 204 [v0,v1] w K:=
 tie _ 204 Tryz.f204 Xs _ w K 2 _ rfl mixed Tryz.func204 (by kernel_rfl) (by kernel_rfl) Tryz.call204 h
def Xm:fG:={js:=[],ds:=[]}
def aF6(v0 b:Value)(w:World)(K:Q0):=ldW false 1 v0 w λt2=>fA t2 λt3=>bF 1 t3 λt4=>ldW false 1 t4 w λt5=>aS .add t5 (i64 1) λt6=>fA t2 λt7=>bF 1 t7 λt8=>stW 1 t8 t6 w λw1=>ldW false 1 v0 w1 λt9=>aL P0 203 [t9] w1 λt10 w2=>stW 1 b t10 w2 λa=>K (.tuple #[]) a
def aAr(h:aF6 v0 v1 w K):aL P0 219 [v0,v1] w K:=
 tie _ 219 Tryz.f219 Xm _ w K 2 _ rfl mixed Tryz.func219 (by kernel_rfl) (by kernel_rfl) Tryz.call219 h
def Xl:fG:={js:=[(5,⟨[3],[],2⟩)],ds:=[(31,⟨[0,1,3,6,7,8],[[],[],[1],[1,2],[],[4],[],[6],[1,2,3,4,5,6,7],[0,1,2,3,4,5,6,7,8],[0,1,2,3,4,5,6,7,8,9]]⟩),(13,⟨[0,1,3,6,7,8],[[],[],[1],[1,2],[],[4],[],[6],[1,2,3,4,5,6,7],[0,1,2,3,4,5,6,7,8],[0,1,2,3,4,5,6,7,8,9]]⟩)]}
def aF5(v0:Value)(w:World)(K:Q0):=jZ 89 v0 w λt1 w1=>ldW false 1 t1 w1 λt7=>aL P0 226 [t7] w1 λt8 w2=>eK [t8] w2 λg _ Q q=>ldW false 1 t1 Q λt9=>aL P0 31 [t9] Q λt10 S=>eD 95 zL0 S λt4 R=>stW 3 t4 t10 R λP=>ldW false 1 t1 P λt13=>aL P0 68 [t13,(str [46])] P λt14 c=>bE t14 (ldW false 1 t1 c.drew λt15=>ldW false 1 t1 c.drew λt16=>bF 2 t4 λt21=>ldW false 1 t21 c.drew λt22=>(aL P0 62 [t16,(i64 1)] c.drew λt17 r=>(ldW false 1 t21 r λx=>x=t22)/\(ldW false 1 t1 r λx=>x=t15)/\qK false 1 1 t17 λt18=>(ldW false 1 t21 r λx=>x=t22)/\(ldW false 1 t1 r λx=>x=t15)/\gP 3 1 [(i64 0)] [(0,1,(g.getD 0 undef))] r λt20 p=>(ldW false 1 t21 p λx=>x=t22)/\(ldW false 1 t1 p λx=>x=t15)/\kE [(i64 0),(str []),sN,sN,(i64 0)] [(0,1,(i64 10)),(1,1,t18),(2,1,t20),(4,1,t22)] λO=>aL P0 158 [t15,(.agg O.toArray)] p λt24 G=>q [t24] G)/\((ldW false 1 t21 c.drew λx=>x=t22)/\(ldW false 1 t1 c.drew λx=>x=t16)/\(ldW false 1 t1 c.drew λx=>x=t15)/\(aL P0 62 [t16,(i64 1)] c.drew λt17 o=>(ldW false 1 t21 o λx=>x=t22)/\(ldW false 1 t1 o λx=>x=t15)/\qK false 1 1 t17 λt18=>gP 3 1 [(i64 0)] [(0,1,(g.getD 0 undef))] o λt20 n=>(ldW false 1 t21 n λx=>x=t22)/\(ldW false 1 t1 n λx=>x=t15)/\kE [(i64 0),(str []),sN,sN,(i64 0)] [(0,1,(i64 10)),(1,1,t18),(2,1,t20),(4,1,t22)] λN=>aL P0 158 [t15,(.agg N.toArray)] n λt24 F=>q [t24] F)/\(gP 3 1 [(i64 0)] [(0,1,(g.getD 0 undef))] c.drew λt20 f=>(ldW false 1 t21 f λx=>x=t22)/\(ldW false 1 t1 f λx=>x=t16)/\(ldW false 1 t1 f λx=>x=t15)/\aL P0 62 [t16,(i64 1)] f λt17 m=>(ldW false 1 t21 m λx=>x=t22)/\(ldW false 1 t1 m λx=>x=t15)/\qK false 1 1 t17 λt18=>kE [(i64 0),(str []),sN,sN,(i64 0)] [(0,1,(i64 10)),(1,1,t18),(2,1,t20),(4,1,t22)] λM=>aL P0 158 [t15,(.agg M.toArray)] m λt24 E=>q [t24] E))) (ldW false 1 t1 c λt26=>gP 9 1 [(str [])] [(0,1,(str [91]))] c λt27 D=>aL P0 65 [t26,t27] D λt28 t=>bE t28 (eD 3 [(i64 0)] t λt5 C=>eD 4 [(.bool false)] C λt6 B=>stW 1 t5 (i64 0) B λA=>stW 1 t6 (.bool false) A λl=>ldW false 1 t1 l λt29=>bF 2 t4 λt30=>ldW false 1 t30 l λt31=>aL P0 66 [t29,t31,(.bool true),(.func (.func 227) #[] #[t1,t6,t5])] l λt33 b=>ldW false 1 t6 b λt34=>unW .not t34 λt35=>bE t35 (ldW false 1 t1 b λt36=>ldW false 1 t5 b λt38=>gP 3 2 [(i64 0),(i64 0)] [(0,1,(g.getD 0 undef)),(1,1,t38)] b λt39 s=>bF 2 t4 λt40=>ldW false 1 t40 s λt41=>kE [(i64 0),(str []),sN,sN,(i64 0)] [(0,1,(i64 11)),(2,1,t39),(4,1,t41)] λL=>aL P0 158 [t36,(.agg L.toArray)] s λt43 z=>q [t43] z) (ldW false 1 t1 b λt44=>aL P0 157 [t44,(str [46])] b λt45 a=>ldW false 1 t1 a.drew λt46=>ldW false 1 t1 a.drew λt47=>bF 2 t4 λt52=>ldW false 1 t52 a.drew λt53=>(aL P0 62 [t47,(i64 1)] a.drew λt48 d=>(ldW false 1 t52 d λx=>x=t53)/\(ldW false 1 t1 d λx=>x=t46)/\qK false 1 1 t48 λt49=>(ldW false 1 t52 d λx=>x=t53)/\(ldW false 1 t1 d λx=>x=t46)/\gP 3 1 [(i64 0)] [(0,1,(g.getD 0 undef))] d λt51 k=>(ldW false 1 t52 k λx=>x=t53)/\(ldW false 1 t1 k λx=>x=t46)/\kE [(i64 0),(str []),sN,sN,(i64 0)] [(0,1,(i64 30)),(1,1,t49),(2,1,t51),(4,1,t53)] λJ=>aL P0 158 [t46,(.agg J.toArray)] k λt55 y=>q [t55] y)/\((ldW false 1 t52 a.drew λx=>x=t53)/\(ldW false 1 t1 a.drew λx=>x=t47)/\(ldW false 1 t1 a.drew λx=>x=t46)/\(aL P0 62 [t47,(i64 1)] a.drew λt48 j=>(ldW false 1 t52 j λx=>x=t53)/\(ldW false 1 t1 j λx=>x=t46)/\qK false 1 1 t48 λt49=>gP 3 1 [(i64 0)] [(0,1,(g.getD 0 undef))] j λt51 i=>(ldW false 1 t52 i λx=>x=t53)/\(ldW false 1 t1 i λx=>x=t46)/\kE [(i64 0),(str []),sN,sN,(i64 0)] [(0,1,(i64 30)),(1,1,t49),(2,1,t51),(4,1,t53)] λI=>aL P0 158 [t46,(.agg I.toArray)] i λt55 v=>q [t55] v)/\(gP 3 1 [(i64 0)] [(0,1,(g.getD 0 undef))] a.drew λt51 e=>(ldW false 1 t52 e λx=>x=t53)/\(ldW false 1 t1 e λx=>x=t47)/\(ldW false 1 t1 e λx=>x=t46)/\aL P0 62 [t47,(i64 1)] e λt48 h=>(ldW false 1 t52 h λx=>x=t53)/\(ldW false 1 t1 h λx=>x=t46)/\qK false 1 1 t48 λt49=>kE [(i64 0),(str []),sN,sN,(i64 0)] [(0,1,(i64 30)),(1,1,t49),(2,1,t51),(4,1,t53)] λH=>aL P0 158 [t46,(.agg H.toArray)] h λt55 u=>q [t55] u)))) (K (g.getD 0 undef) t))
def aAq(h:aF5 v0 w K):aL P0 220 [v0] w K:=
 tie _ 220 Tryz.f220 Xl _ w K 1 _ rfl mixed Tryz.func220 (by kernel_rfl) (by kernel_rfl) Tryz.call220 h
def Xk:fG:={js:=[(6,⟨[],[2],5⟩),(23005,⟨[50],[],48⟩)],ds:=[(43,⟨[0,1,3,4],[[],[],[1],[1,2],[],[0,1,2,3,4]]⟩),(42,⟨[0,1,2,4],[[],[0],[],[2],[0,1,2,3],[0,1,2,3,4]]⟩),(13,⟨[0,1,2,4],[[],[0],[],[2],[0,1,2,3],[0,1,2,3,4]]⟩)]}
def aF4(v0:Value)(w:World)(K:Q0):=jZ 89 v0 w λt1 w1=>ldW false 1 t1 w1 λt6=>aL P0 31 [t6] w1 λt7 w2=>eD 95 zL0 w2 λt3 N=>stW 3 t3 t7 N λL=>bF 2 t3 λt8=>ldW false 1 t8 L λt9=>kE [(i64 0),(str []),sN,sN,(i64 0)] [(4,1,t9)] λc5=>eD 35 zL2 L λt4 M=>stW 5 t4 (.agg c5.toArray) M λa=>dE (λl=>bF 0 t3 λt15=>ldW false 1 t15 a λt16=>aS .eql t16 (i64 2) λt17=>bE t17 (ldW false 1 t1 a λt18=>fA t18 λt19=>bF 1 t19 λt20=>ldW false 1 t20 a λt21=>aS .add t21 (i64 1) λt22=>fA t18 λt23=>bF 1 t23 λt24=>stW 1 t24 t22 a λJ=>bF 1 t3 λt25=>ldW false 1 t25 J.drew λt26=>bF 0 t4 λt27=>stW 1 t27 (i64 4) J.drew λq=>(ldW false 1 t25 q λx=>x=t26)/\bF 1 t4 λt28=>stW 1 t28 t26 q λG=>l [] G) (bF 0 t3 λt30=>ldW false 1 t30 a λt31=>aS .eql t31 (i64 3) λt32=>bE t32 (ldW false 1 t1 a λt33=>fA t33 λt34=>bF 1 t34 λt35=>ldW false 1 t35 a λt36=>aS .add t36 (i64 1) λt37=>fA t33 λt38=>bF 1 t38 λt39=>stW 1 t39 t37 a λk=>ldW false 1 t1 k λt40=>ldW true 3 t3 k λt41=>aL P0 232 [t40,t41] k λt42 F=>K t42 F) (bF 0 t3 λt44=>ldW false 1 t44 a λt45=>aS .eql t45 (i64 1) λt46=>GdW (isB t46 true) [undef] a (λI=>bF 1 t3 λt48=>ldW false 1 t48 a λt49=>aS .neq t49 (str [102,111,114]) λt50=>I [t50] a) λH _ d=>fN t46 (H.getD 0 undef) (.bool false) λt51=>bE t51 (ldW false 1 t1 d λt52=>fA t52 λt53=>bF 1 t53 λt54=>ldW false 1 t54 d λt55=>aS .add t55 (i64 1) λt56=>fA t52 λt57=>bF 1 t57 λt58=>stW 1 t58 t56 d λp=>ldW false 1 t1 p λt59=>gP 9 1 [(str [])] [(0,1,(str [40]))] p λt60 E=>aL P0 65 [t59,t60] E λt61 f=>unW .not t61 λt62=>bE t62 (bF 1 t3 λt63=>ldW false 1 t63 f λt64=>aL P0 233 [t64] f λt65 D=>bF 0 t4 λt66=>stW 1 t66 t65 D λe=>bF 0 t4 λt67=>ldW false 1 t67 e λt68=>aS .eql t68 (i64 9) λt69=>bE t69 (bF 1 t3 λt70=>ldW false 1 t70 e λt71=>bF 1 t4 λt72=>stW 1 t72 t71 e λC=>l [] C) (l [] e)) (bF 1 t3 λt73=>ldW false 1 t73 f.drew λt74=>bF 0 t4 λt75=>stW 1 t75 (i64 12) f.drew λo=>(ldW false 1 t73 o λx=>x=t74)/\bF 1 t4 λt76=>stW 1 t76 t74 o λj=>ldW false 1 t1 j.drew λt77=>ldW false 1 t1 j.drew λt78=>aL P0 31 [t78] j.drew λt79 n=>(ldW false 1 t1 n λx=>x=t77)/\qK false 2 1 t79 λt80=>aL P0 66 [t77,t80,(.bool true),(.func (.func 234) #[] #[t1,t4])] n λt82 B=>l [] B)) (ldW false 1 t1 d λt84=>gP 9 1 [(str [])] [(0,1,(str [40]))] d λt85 A=>aL P0 65 [t84,t85] A λt86 i=>bE t86 (eD 3 [(i64 0)] i λt5 z=>stW 1 t5 (i64 0) z λh=>ldW false 1 t1 h λt87=>bF 2 t3 λt88=>ldW false 1 t88 h λt89=>aL P0 66 [t87,t89,(.bool true),(.func (.func 236) #[] #[t1,t5])] h λt91 m=>ldW false 1 t5 m λt92=>K t92 m) (ldW false 1 t1 i λt94=>gP 9 1 [(str [])] [(0,1,(str [91]))] i λt95 y=>aL P0 65 [t94,t95] y λt96 c=>bE t96 (ldW false 1 t1 c λt97=>bF 2 t3 λt98=>ldW false 1 t98 c λt99=>aL P0 66 [t97,t99,(.bool true),(.func (.func 237) #[] #[t1,t3,t4])] c λt101 v=>l [] v) (ldW false 1 t1 c λt103=>gP 9 1 [(str [])] [(0,1,(str [123]))] c λt104 u=>aL P0 65 [t103,t104] u λt105 b=>bE t105 (ldW false 1 t1 b λt106=>bF 2 t3 λt107=>ldW false 1 t107 b λt108=>aL P0 66 [t106,t108,(.bool false),(.func (.func 239) #[] #[t1,t3,t4])] b λt110 t=>l [] t) (bF 2 t3 λt11=>ldW false 1 t11 b λt12=>aL P0 33 [(i64 50),t12] b λt13 s=>l [] s))))))) λO _ g=>ldW false 1 t1 g λt111=>ldW true 5 t4 g λt112=>aL P0 158 [t111,t112] g λt113 r=>K t113 r
def aAp(h:aF4 v0 w K):aL P0 226 [v0] w K:=
 tie _ 226 Tryz.f226 Xk _ w K 1 _ rfl mixed Tryz.func226 (by kernel_rfl) (by kernel_rfl) Tryz.call226 h
def Xj:fG:={js:=[(2,⟨[],[],1⟩)],ds:=[]}
def aF3(v0 c v2:Value)(w:World)(K:Q0):=ldW false 1 v0 w λt3=>fA t3 λt4=>bF 1 t4 λt5=>ldW false 1 t5 w λt6=>aS .add t6 (i64 1) λt7=>fA t3 λt8=>bF 1 t8 λt9=>stW 1 t9 t7 w λw1=>dE (λd=>ldW false 1 v0 w1 λt10=>aL P0 68 [t10,(str [42])] w1 λt11 h=>stW 1 c t11 h λa=>ldW false 1 c a λt12=>unW .not t12 λt13=>bE t13 (ldW false 1 v0 a λt14=>aL P0 118 [t14] a λt15 g=>stW 1 v2 t15 g λf=>d [] f) (d [] a)) λi _ b=>ldW false 1 v0 b λt16=>aL P0 157 [t16,(str [93])] b λt17 e=>K (.tuple #[]) e
def aAo(h:aF3 v0 v1 v2 w K):aL P0 227 [v0,v1,v2] w K:=
 tie _ 227 Tryz.f227 Xj _ w K 3 _ rfl mixed Tryz.func227 (by kernel_rfl) (by kernel_rfl) Tryz.call227 h
def Xi:fG:={js:=[(42,⟨[],[],12⟩),(34,⟨[],[],12⟩),(28,⟨[],[],12⟩),(18,⟨[],[],10⟩),(14,⟨[8,9],[],8⟩)],ds:=[(50,⟨[0,1,2,3,4,5],[[],[],[0,1],[],[],[3,4],[0,1,2],[0,1,2,3,4,5,6]]⟩),(39,⟨[0,1,2,3,4,5,7,8,12],[[],[0],[],[],[],[3,4],[3,4,5],[],[3,4,5,6,7],[2,3,4,5,6,7,8],[2,3,4,5,6,7,8,9],[0,1,2,3,4,5,6,7,8,9,10],[0,1,2,3,4,5,6,7,8,9,10,11],[0,1,2,3,4,5,6,7,8,9,10,11,12]]⟩),(32,⟨[0,1,2,3],[[],[0],[],[2],[0,1],[0,1,2,3,4]]⟩),(15,⟨[0,1,2,3,4],[[],[0],[],[2],[2,3],[],[],[0,1,5,6],[0,1,2,3,4,5,6,7]]⟩),(9,⟨[0,1,2,4,5,6,8],[[],[],[1],[1,2],[],[4],[1,2,3,4,5],[0,1,2,3,4,5,6],[0,1,2,3,4,5,6,7]]⟩)]}
def aF2(v0 Y:Value)(w:World)(K:Q0):=jZ 89 v0 w λt2 w1=>jZ 95 Y w1 λt3 w2=>bF 1 t3 λt13=>ldW false 1 t13 w2 λt14=>aL P0 115 [t14] w2 λt15 m=>kH 0 t15 λt16=>kH 1 t15 λt17=>aS .lss t16 (i64 0) λt19=>bE t19 (ldW false 1 t2 m.drew λt20=>bF 1 t3 λt21=>ldW false 1 t21 m.drew λt22=>bF 2 t3 λt24=>ldW false 1 t24 m.drew λt25=>aL P0 116 [t22] m.drew λt23 H=>(ldW false 1 t24 H λx=>x=t25)/\(ldW false 1 t2 H λx=>x=t20)/\kE [(i64 0),(str []),sN,sN,(i64 0)] [(0,1,(i64 5)),(1,1,t23),(4,1,t25)] λc5=>aL P0 158 [t20,(.agg c5.toArray)] H λt27 X=>K t27 X) (bF 2 t3 λt28=>ldW false 1 t28 m λt29=>kE [(i64 0),(str []),sN,sN,(i64 0)] [(0,1,(i64 6)),(4,1,t29)] λc7=>eD 35 zL2 m λt7 W=>stW 5 t7 (.agg c7.toArray) W λA=>dE (λz=>bF 1 t3 λt31=>ldW false 1 t31 A.drew λt32=>bF 2 t3 λt33=>ldW false 1 t33 A.drew λt34=>aS .add t34 (i64 1) λt35=>(eD 9 [(str [])] A.drew λt8 l=>(ldW false 1 t33 l λx=>x=t34)/\(ldW false 1 t31 l λx=>x=t32)/\eD 3 [(i64 0)] l λt9 k=>(ldW false 1 t33 k λx=>x=t34)/\(ldW false 1 t31 k λx=>x=t32)/\stW 1 t8 t32 k λt=>(ldW false 1 t33 t λx=>x=t34)/\stW 1 t9 t35 t λT=>z [t8,t9] T)/\(eD 3 [(i64 0)] A.drew λt9 j=>(ldW false 1 t33 j λx=>x=t34)/\(ldW false 1 t31 j λx=>x=t32)/\eD 9 [(str [])] j λt8 i=>(ldW false 1 t33 i λx=>x=t34)/\(ldW false 1 t31 i λx=>x=t32)/\stW 1 t8 t32 i λs=>(ldW false 1 t33 s λx=>x=t34)/\stW 1 t9 t35 s λS=>z [t8,t9] S)) λa _ R=>eK [] R λhc _ d V=>ldW false 1 (a.getD 0 undef) d λt36=>aS .neq t36 (str []) λt37=>bE t37 (ldW false 1 (a.getD 0 undef) d λt39=>aL P0 115 [t39] d λt40 Q=>kH 0 t40 λt41=>kH 1 t40 λt42=>eD 3 [(i64 0)] Q λt10 P=>eD 3 [(i64 0)] P λt11 O=>stW 1 t10 t41 O λN=>stW 1 t11 t42 N λf=>dE (λy=>ldW false 1 t10 f λt43=>aS .lss t43 (i64 0) λt44=>bE t44 (ldW false 1 (a.getD 0 undef) f.drew λt45=>kQ t45 λt46=>ldW false 1 (a.getD 0 undef) f.drew λt47=>kQ t47 λt48=>stW 1 t10 t46 f.drew λr=>(ldW false 1 (a.getD 0 undef) r λx=>x=t47)/\stW 1 t11 t48 r λM=>y [] M) (y [] f)) λhb _ b=>dE (λv=>ldW false 1 t10 b λt49=>aS .gtr t49 (i64 0) λt50=>bE t50 (bF 2 t7 λt51=>ldW false 1 t51 b.drew λt52=>ldW false 1 t2 b.drew λt53=>ldW false 1 (a.getD 0 undef) b.drew λt54=>ldW false 1 t10 b.drew λt55=>rY t54 none (some t55) λt56=>ldW false 1 (a.getD 1 undef) b.drew λt58=>aL P0 116 [t56] b.drew λt57 g=>(ldW false 1 (a.getD 1 undef) g λx=>x=t58)/\(ldW false 1 t2 g λx=>x=t53)/\(ldW false 1 t51 g λx=>x=t52)/\kE [(i64 0),(str []),sN,sN,(i64 0)] [(0,1,(i64 5)),(1,1,t57),(4,1,t58)] λU=>aL P0 158 [t53,(.agg U.toArray)] g λt60 q=>(ldW false 1 t51 q λx=>x=t52)/\gP 3 1 [(i64 0)] [(0,1,t60)] q λt61 p=>(ldW false 1 t51 p λx=>x=t52)/\fV P0 (Builtin.append_ #[26,26] 26 #[t52,t61]) p λt62 L=>bF 2 t7 λt63=>stW 1 t63 t62 L λo=>bF 3 t7 λt64=>ldW false 1 t64 o λt65=>gP 9 1 [(str [])] [(0,1,(str [116]))] o λt66 J=>fV P0 (Builtin.append_ #[33,33] 33 #[t65,t66]) J λt67 I=>bF 3 t7 λt68=>stW 1 t68 t67 I λG=>v [] G) (v [] b)) λha _ c=>dE (λu=>ldW false 1 t10 c λt69=>ldW false 1 t11 c λt70=>aS .lss t69 t70 λt71=>bE t71 (ldW false 1 t2 c λt72=>ldW false 1 (a.getD 1 undef) c λt73=>ldW false 1 t10 c λt74=>aS .add t73 t74 λt75=>aL P0 66 [t72,t75,(.bool false),(.func (.func 256) #[] #[t7,t2,(a.getD 0 undef),t10,t11,(a.getD 1 undef)])] c λt77 n=>bF 3 t7 λt78=>ldW false 1 t78 n λt79=>gP 9 1 [(str [])] [(0,1,(str [101]))] n λt80 F=>fV P0 (Builtin.append_ #[33,33] 33 #[t79,t80]) F λt81 E=>bF 3 t7 λt82=>stW 1 t82 t81 E λD=>u [] D) (u [] c)) λZ _ e=>ldW false 1 (a.getD 0 undef) e.drew λt83=>ldW false 1 t11 e.drew λt84=>rY t83 (some t84) none λt85=>ldW false 1 (a.getD 1 undef) e.drew λt86=>ldW false 1 t11 e.drew λt87=>aS .add t86 t87 λt88=>stW 1 (a.getD 0 undef) t85 e.drew λh=>(ldW false 1 t11 h λx=>x=t87)/\(ldW false 1 (a.getD 1 undef) h λx=>x=t86)/\stW 1 (a.getD 1 undef) t88 h λC=>V [] C) (ldW false 1 t2 d λt89=>ldW true 5 t7 d λt90=>aL P0 158 [t89,t90] d λt91 B=>K t91 B))
def aAn(h:aF2 v0 v1 w K):aL P0 232 [v0,v1] w K:=
 tie _ 232 Tryz.f232 Xi _ w K 2 _ rfl mixed Tryz.func232 (by kernel_rfl) (by kernel_rfl) Tryz.call232 h
def Xh:fG:={js:=[],ds:=[]}
def aF1(v0:Value)(w:World)(K:Q0):=aS .eql v0 (str [110,117,108,108]) λt5=>bE t5 (K (i64 1) w) (aS .eql v0 (str [116,114,117,101]) λt7=>bE t7 (K (i64 2) w) (aS .eql v0 (str [102,97,108,115,101]) λt9=>bE t9 (K (i64 3) w) (K (i64 9) w)))
def aAm(h:aF1 v0 w K):aL P0 233 [v0] w K:=
 tie _ 233 Tryz.f233 Xh _ w K 1 _ rfl mixed Tryz.func233 (by kernel_rfl) (by kernel_rfl) Tryz.call233 h
def Xg:fG:={js:=[],ds:=[]}
def aF0(v0 b:Value)(w:World)(K:Q0):=ldW false 1 v0 w λt2=>fA t2 λt3=>bF 1 t3 λt4=>ldW false 1 t4 w λt5=>aS .add t5 (i64 1) λt6=>fA t2 λt7=>bF 1 t7 λt8=>stW 1 t8 t6 w λw1=>ldW false 1 v0 w1 λt9=>aL P0 235 [t9,(str [41])] w1 λt10 w2=>bF 2 b λt11=>stW 1 t11 t10 w2 λa=>K (.tuple #[]) a
def aAl(h:aF0 v0 v1 w K):aL P0 234 [v0,v1] w K:=
 tie _ 234 Tryz.f234 Xg _ w K 2 _ rfl mixed Tryz.func234 (by kernel_rfl) (by kernel_rfl) Tryz.call234 h
def Xf:fG:={js:=[(14,⟨[],[],6⟩),(6,⟨[5],[],2⟩)],ds:=[]}
def aFZ(v0 d:Value)(w:World)(K:Q0):=eK [sN] w λs1 _ w2 j=>aL P0 68 [v0,d] w2 λt8 a=>unW .not t8 λt9=>bE t9 (dE (λe=>iL (s1.getD 0 undef) λt11=>aS .gtr t11 (i64 0) λt12=>bE t12 (aL P0 157 [v0,(str [44])] a λt14 i=>aL P0 68 [v0,d] i λt17 c=>bE t17 (K (s1.getD 0 undef) c) (e [] c)) (e [] a)) λk _ h=>aL P0 118 [v0] h λt20 g=>gP 3 1 [(i64 0)] [(0,1,t20)] g λt21 f=>fV P0 (Builtin.append_ #[26,26] 26 #[(s1.getD 0 undef),t21]) f λt22 b=>j [t22] b) (K (s1.getD 0 undef) a)
def aAk(h:aFZ v0 v1 w K):aL P0 235 [v0,v1] w K:=
 tie _ 235 Tryz.f235 Xf _ w K 2 _ rfl mixed Tryz.func235 (by kernel_rfl) (by kernel_rfl) Tryz.call235 h
def Xe:fG:={js:=[],ds:=[]}
def aFY(v0 c:Value)(w:World)(K:Q0):=ldW false 1 v0 w λt2=>fA t2 λt3=>bF 1 t3 λt4=>ldW false 1 t4 w λt5=>aS .add t5 (i64 1) λt6=>fA t2 λt7=>bF 1 t7 λt8=>stW 1 t8 t6 w λw1=>ldW false 1 v0 w1 λt9=>aL P0 118 [t9] w1 λt10 w2=>stW 1 c t10 w2 λa=>ldW false 1 v0 a λt11=>aL P0 157 [t11,(str [41])] a λt12 b=>K (.tuple #[]) b
def aAj(h:aFY v0 v1 w K):aL P0 236 [v0,v1] w K:=
 tie _ 236 Tryz.f236 Xe _ w K 2 _ rfl mixed Tryz.func236 (by kernel_rfl) (by kernel_rfl) Tryz.call236 h
def Xd:fG:={js:=[],ds:=[]}
def aFX(v0 a v2:Value)(w:World)(K:Q0):=ldW false 1 v0 w λt3=>ldW true 3 a w λt4=>aL P0 238 [t3,t4] w λt5 w1=>stW 5 v2 t5 w1 λw2=>K (.tuple #[]) w2
def aAi(h:aFX v0 v1 v2 w K):aL P0 237 [v0,v1,v2] w K:=
 tie _ 237 Tryz.f237 Xd _ w K 3 _ rfl mixed Tryz.func237 (by kernel_rfl) (by kernel_rfl) Tryz.call237 h
def Xc:fG:={js:=[(18,⟨[],[],7⟩),(16,⟨[6],[],5⟩),(8004,⟨[23],[],21⟩)],ds:=[(31,⟨[0,1,2,6],[[],[0],[],[2],[2,3],[0,1,2,3,4],[0,1,2,3,4,5],[0,1,2,3,4,5,6]]⟩),(27,⟨[0,1,2,6],[[],[0],[],[2],[2,3],[0,1,2,3,4],[0,1,2,3,4,5],[0,1,2,3,4,5,6]]⟩),(17,⟨[0,2,3,4,5],[[],[0],[0,1],[],[3],[0,1,2,3,4],[],[0,1,2,3,4,5,6]]⟩),(11,⟨[0,2,3,4],[[],[0],[],[2],[0,1,2,3],[0,1,2,3,4]]⟩)]}
def aFW(v0 Q:Value)(w:World)(K:Q0):=jZ 95 Q w λt3 w1=>eD 35 zL2 w1 λt4 w2=>fA v0 λt9=>bF 1 t9 λt10=>ldW false 1 t10 w2 λt11=>aS .add t11 (i64 1) λt12=>fA v0 λt13=>bF 1 t13 λt14=>stW 1 t14 t12 w2 λP=>aL P0 31 [v0] P λt16 O=>eD 95 zL0 O λt5 N=>stW 3 t5 t16 N λt=>bF 0 t5 λt17=>ldW false 1 t17 t λt18=>aS .neq t18 (i64 1) λt19=>GdW (isB t19 false) [undef] t (λT=>bF 1 t5 λt21=>ldW false 1 t21 t λt22=>aS .neq t22 (str [102,111,114]) λt23=>T [t23] t) λR _ s=>fN t19 (.bool true) (R.getD 0 undef) λt24=>bE t24 (bF 2 t3 λt27=>ldW false 1 t27 s.drew λt28=>aL P0 235 [v0,(str [93])] s.drew λt26 M=>(ldW false 1 t27 M λx=>x=t28)/\kE [(i64 0),(str []),sN,sN,(i64 0)] [(0,1,(i64 7)),(2,1,t26),(4,1,t28)] λL=>stW 5 t4 (.agg L.toArray) M λp=>ldW true 5 t4 p λH=>K H p) (fA v0 λt31=>bF 1 t31 λt32=>ldW false 1 t32 s λt33=>aS .add t33 (i64 1) λt34=>fA v0 λt35=>bF 1 t35 λt36=>stW 1 t36 t34 s λc=>dE (λr=>bF 2 t3 λt40=>ldW false 1 t40 c.drew λt41=>(aL P0 62 [v0,(i64 1)] c.drew λt38 o=>(ldW false 1 t40 o λx=>x=t41)/\qK false 1 1 t38 λt39=>kE [(i64 0),(str []),sN,sN,(i64 0)] [(0,1,(i64 29)),(1,1,t39),(4,1,t41)] λJ=>eD 35 zL2 o λt6 n=>(ldW false 1 t40 n λx=>x=t41)/\stW 5 t6 (.agg J.toArray) n λF=>r [t6] F)/\(eD 35 zL2 c.drew λt6 m=>(ldW false 1 t40 m λx=>x=t41)/\aL P0 62 [v0,(i64 1)] m λt38 l=>(ldW false 1 t40 l λx=>x=t41)/\qK false 1 1 t38 λt39=>kE [(i64 0),(str []),sN,sN,(i64 0)] [(0,1,(i64 29)),(1,1,t39),(4,1,t41)] λI=>stW 5 t6 (.agg I.toArray) l λE=>r [t6] E)) λa _ D=>dE (λq=>aL P0 62 [v0,(i64 1)] D λt44 C=>eD 95 zL0 C λt7 B=>stW 3 t7 t44 B λb=>bF 1 t7 λt45=>ldW false 1 t45 b λt46=>aS .neq t46 (str [105,110]) λt47=>bE t47 (bF 2 t7 λt48=>ldW false 1 t48 b λt49=>aL P0 33 [(i64 50),t49] b λt50 A=>q [] A) (q [] b)) λS _ k=>bF 2 (a.getD 0 undef) λt51=>ldW false 1 t51 k.drew λt52=>aL P0 118 [v0] k.drew λt54 j=>(ldW false 1 t51 j λx=>x=t52)/\gP 3 1 [(i64 0)] [(0,1,t54)] j λt55 i=>(ldW false 1 t51 i λx=>x=t52)/\fV P0 (Builtin.append_ #[26,26] 26 #[t52,t55]) i λt56 z=>bF 2 (a.getD 0 undef) λt57=>stW 1 t57 t56 z λy=>aL P0 157 [v0,(str [58])] y λt59 h=>bF 2 (a.getD 0 undef) λt60=>ldW false 1 t60 h.drew λt61=>aL P0 118 [v0] h.drew λt63 g=>(ldW false 1 t60 g λx=>x=t61)/\gP 3 1 [(i64 0)] [(0,1,t63)] g λt64 f=>(ldW false 1 t60 f λx=>x=t61)/\fV P0 (Builtin.append_ #[26,26] 26 #[t61,t64]) f λt65 v=>bF 2 (a.getD 0 undef) λt66=>stW 1 t66 t65 v λu=>aL P0 157 [v0,(str [93])] u λt68 e=>ldW true 5 (a.getD 0 undef) e λt69=>stW 5 t4 t69 e λd=>ldW true 5 t4 d λG=>K G d)
def aAh(h:aFW v0 v1 w K):aL P0 238 [v0,v1] w K:=
 tie _ 238 Tryz.f238 Xc _ w K 2 _ rfl mixed Tryz.func238 (by kernel_rfl) (by kernel_rfl) Tryz.call238 h
def Xb:fG:={js:=[],ds:=[]}
def aFV(v0 a v2:Value)(w:World)(K:Q0):=ldW false 1 v0 w λt3=>ldW true 3 a w λt4=>aL P0 240 [t3,t4] w λt5 w1=>stW 5 v2 t5 w1 λw2=>K (.tuple #[]) w2
def aAg(h:aFV v0 v1 v2 w K):aL P0 239 [v0,v1,v2] w K:=
 tie _ 239 Tryz.f239 Xb _ w K 3 _ rfl mixed Tryz.func239 (by kernel_rfl) (by kernel_rfl) Tryz.call239 h
def Xa:fG:={js:=[(43,⟨[],[],6⟩),(45005,⟨[74],[],71⟩),(45011,⟨[68],[],65⟩),(33,⟨[],[],7⟩),(20,⟨[],[],7⟩),(10,⟨[],[],6⟩)],ds:=[(42,⟨[0,1,2,3,6,7,8,12,14],[[],[0],[],[2],[2,3],[0,1,2,3,4],[],[6],[],[0,1,2,3,4,5,8],[0,1,2,3,4,5,8,9],[0,1,2,3,4,5,6,7,8,9,10],[0,1,2,3,4,5,6,7],[0,1,2,3,4,5,6,7,8,9,10,11,12],[0,1,2,3,4,5,6,7,8,9,10,11,12,13],[0,1,2,3,4,5,6,7,8,9,10,11,12,13,14]]⟩)]}
def aFU(v0 U:Value)(w:World)(K:Q0):=jZ 95 U w λt3 w1=>eD 35 zL2 w1 λt4 w2=>fA v0 λt8=>bF 1 t8 λt9=>ldW false 1 t9 w2 λt10=>aS .add t10 (i64 1) λt11=>fA v0 λt12=>bF 1 t12 λt13=>stW 1 t13 t11 w2 λP=>bF 2 t3 λt14=>ldW false 1 t14 P λt15=>kE [(i64 0),(str []),sN,sN,(i64 0)] [(0,1,(i64 8)),(4,1,t15)] λc4=>eD 35 zL2 P λt5 T=>stW 5 t5 (.agg c4.toArray) T λS=>aL P0 30 [v0] S λt18 R=>eK [] R λZ _ Q Y=>aL P0 68 [v0,(str [125])] Q λt20 f=>unW .not t20 λt21=>bE t21 (aL P0 64 [v0] f λt23 I=>eD 95 zL0 I λt6 H=>stW 3 t6 t23 H λa=>dE (λg=>bF 0 t6 λt24=>ldW false 1 t24 a λt25=>aS .eql t25 (i64 3) λt30=>bE t30 (ldW true 3 t6 a λt32=>aL P0 63 [v0,t32] a λt33 G=>bF 1 t6 λt34=>stW 1 t34 t33 G λF=>g [] F) (aS .eql t25 (i64 1) λt36=>bE t36 (g [] a) (bF 2 t6 λt26=>ldW false 1 t26 a λt27=>aL P0 33 [(i64 50),t27] a λt28 E=>g [] E))) λX _ e=>dE (λp=>bF 3 t5 λt37=>ldW false 1 t37 e λt38=>bF 1 t6 λt39=>ldW false 1 t39 e λt40=>aL P0 117 [t38,t40] e λt41 d=>bE t41 (bF 2 t6 λt42=>ldW false 1 t42 d λt43=>aL P0 33 [(i64 2),t43] d λt44 D=>p [] D) (p [] d)) λW _ C=>aL P0 157 [v0,(str [61])] C λt46 b=>bF 3 t5 λt47=>ldW false 1 t47 b.drew λt48=>bF 1 t6 λt49=>ldW false 1 t49 b.drew λt50=>bF 2 t5 λt53=>ldW false 1 t53 b.drew λt54=>gP 9 1 [(str [])] [(0,1,t50)] b.drew λt51 c=>(ldW false 1 t53 c λx=>x=t54)/\(ldW false 1 t47 c λx=>x=t48)/\fV P0 (Builtin.append_ #[33,33] 33 #[t48,t51]) c λt52 n=>(ldW false 1 t53 n λx=>x=t54)/\bF 3 t5 λt59=>aL P0 118 [v0] n λt56 m=>(ldW false 1 t53 m λx=>x=t54)/\gP 3 1 [(i64 0)] [(0,1,t56)] m λt57 l=>(ldW false 1 t53 l λx=>x=t54)/\fV P0 (Builtin.append_ #[26,26] 26 #[t54,t57]) l λt58 B=>stW 1 t59 t52 B λA=>bF 2 t5 λt60=>stW 1 t60 t58 A λz=>dE (λo=>aL P0 68 [v0,(str [44])] z λt62 k=>unW .not t62 λt63=>GdW (isB t63 true) [undef] k (λO=>aL P0 31 [v0] k λt66 y=>qK false 0 1 t66 λt67=>aS .neq t67 (i64 5) λt68=>O [t68] y) λL _ j=>fN t63 (L.getD 0 undef) (.bool false) λt69=>GdW (isB t69 true) [undef] j (λN=>gP 9 1 [(str [])] [(0,1,(str [125]))] j λt72 v=>aL P0 65 [v0,t72] v λt73 u=>unW .not t73 λt74=>N [t74] u) λJ _ i=>fN t69 (J.getD 0 undef) (.bool false) λt75=>bE t75 (aL P0 31 [v0] i λt77 t=>qK false 2 1 t77 λt78=>aL P0 33 [(i64 50),t78] t λt79 s=>o [] s) (o [] i)) λV _ r=>aL P0 30 [v0] r λt81 q=>Y [] q) (ldW true 5 t5 f λt82=>stW 5 t4 t82 f λh=>ldW true 5 t4 h λM=>K M h)
def aAf(h:aFU v0 v1 w K):aL P0 240 [v0,v1] w K:=
 tie _ 240 Tryz.f240 Xa _ w K 2 _ rfl mixed Tryz.func240 (by kernel_rfl) (by kernel_rfl) Tryz.call240 h
def WZ:fG:={js:=[],ds:=[(0,⟨[0,1,2,3,4,5,6,7,8,9,10,11,12,16],[[],[0],[],[],[],[4],[],[6],[3,4,5,6,7],[],[],[9,10],[9,10,11],[2,3,4,5,6,7,8,9,10,11,12],[2,3,4,5,6,7,8,9,10,11,12,13],[0,1,2,3,4,5,6,7,8,9,10,11,12,13,14],[0,1,2,3,4,5,6,7,8,9,10,11,12,13,14,15],[0,1,2,3,4,5,6,7,8,9,10,11,12,13,14,15,16]]⟩)]}
def aFT(v0 c v2 v3 v4 v5:Value)(w:World)(K:Q0):=bF 2 v0 λt6=>ldW false 1 t6 w.drew λt7=>ldW false 1 c w.drew λt8=>ldW false 1 v2 w.drew λt9=>ldW false 1 v3 w.drew λt10=>aS .add t10 (i64 2) λt11=>ldW false 1 v4 w.drew λt12=>aS .sub t12 (i64 1) λt13=>rY t9 (some t11) (some t13) λt14=>ldW false 1 v5 w.drew λt15=>ldW false 1 v3 w.drew λt16=>aS .add t15 t16 λt17=>aS .add t17 (i64 2) λt18=>aL P0 257 [t8,t14,t18] w.drew λt19 w1=>(ldW false 1 t6 w1 λx=>x=t7)/\gP 3 1 [(i64 0)] [(0,1,t19)] w1 λt20 w2=>(ldW false 1 t6 w2 λx=>x=t7)/\fV P0 (Builtin.append_ #[26,26] 26 #[t7,t20]) w2 λt21 b=>bF 2 v0 λt22=>stW 1 t22 t21 b λa=>K (.tuple #[]) a
def aAe(h:aFT v0 v1 v2 v3 v4 v5 w K):aL P0 256 [v0,v1,v2,v3,v4,v5] w K:=
 tie _ 256 Tryz.f256 WZ _ w K 6 _ rfl mixed Tryz.func256 (by kernel_rfl) (by kernel_rfl) Tryz.call256 h
def WY:fG:={js:=[(4,⟨[],[],8⟩)],ds:=[(11,⟨[0,1,2,3,4,5,6,7,8,9,10,12],[[],[],[],[2],[2,3],[2,3,4],[],[6],[6,7],[6,7,8],[0,1,2,3,4,5,6,7,8,9],[0,1,2,3,4,5,6,7,8,9,10],[0,1,2,3,4,5,6,7,8,9,10,11]]⟩),(8,⟨[0,1,2,3,4,5,6,7,8,9],[[],[0],[0,1],[0,1,2],[],[],[5],[5,6],[5,6,7],[4,5,6,7,8],[0,1,2,3,4,5,6,7,8,9]]⟩)]}
def aFS(v0 g v2:Value)(w:World)(K:Q0):=aL P0 28 [g] w λt13 w1=>kH 0 t13 λt14=>kH 1 t13 λt15=>dE (λb=>eqW .ptr true t15 (.pointer none) λt17=>bE t17 (fA t15 λt19=>bF 0 t19 λt20=>ldW false 1 t20 w1.drew λt21=>fA t15 λt24=>bF 2 t24 λt25=>ldW false 1 t25 w1.drew λt26=>aS .add v2 t26 λt27=>aL P0 33 [t21,t27] w1.drew λt28 f=>b [] f) (b [] w1)) λh _ a=>fA v0 λt32=>bF 3 t32 λt33=>ldW false 1 t33 a.drew λt34=>fA v0 λt36=>bF 4 t36 λt37=>ldW false 1 t37 a.drew λt38=>kE [sN,(i64 0),(i64 0),(.pointer none),(i64 0),(.bool false)] [(0,1,t14),(2,1,v2),(3,1,t34),(4,1,t38)] λc5=>jZ 92 (.agg c5.toArray) a.drew λt40 e=>aL P0 118 [t40] e λt42 d=>aL P0 62 [t40,(i64 0)] d λt44 c=>K t42 c
def aAd(h:aFS v0 v1 v2 w K):aL P0 257 [v0,v1,v2] w K:=
 tie _ 257 Tryz.f257 WY _ w K 3 _ rfl mixed Tryz.func257 (by kernel_rfl) (by kernel_rfl) Tryz.call257 h
def aDv:fG:={js:=[(8,⟨[9],[5],9⟩)],ds:=[]}
def W16(v0:Value)(w:World)(K:Q0):=jZ 28 v0 w λt1 w1=>eD 114 zL4 w1 λt3 w2=>bF 2 t1 λt6=>ldW false 1 t6 w2 λt7=>iL t7 λt8=>eK [(i64 0)] w2 λb _ a e=>aS .lss (b.getD 0 undef) t8 λt10=>bE t10 (fX none 1 t7 (b.getD 0 undef) λt11=>ldW false 1 t11 a λt12=>ldW true 3 t1 a λt13=>aL P0 43 [t3,t13,t12,(i64 0)] a λt15 d=>aS .add (b.getD 0 undef) (i64 1) λt16=>e [t16] d) (aL P0 44 [t3] a λt17 c=>K t17 c)
def aE2(h:W16 v0 w K):aL P0 16 [v0] w K:=
 tie _ 16 Tryz.f16 aDv _ w K 1 _ rfl mixed Tryz.func16 (by kernel_rfl) (by kernel_rfl) Tryz.call16 h
def aDi:fG:={js:=[(63,⟨[64],[],58⟩),(31,⟨[9],[9],29⟩),(18,⟨[6,28],[6,7,8,9],28⟩),(4006,⟨[18],[],14⟩)],ds:=[(147,⟨[0,1,2,3,4,5,6,8,9,10,11,12,13,14,15],[[],[0],[0,1],[0,1,2],[0,1,2,3],[],[5],[5,6],[0,1,2,3,4,5,6,7],[0,1,2,3,4,5,6,7,8],[],[10],[10,11],[0,1,2,3,4,5,6,7,8,9,10,11,12],[0,1,2,3,4,5,6,7,8,9,10,11,12,13],[0,1,2,3,4,5,6,7,8,9,10,11,12,13,14]]⟩),(143,⟨[0,1,2,3,4,5,6,7,8,9,10,11,12,13,14],[[],[0],[0,1],[0,1,2],[],[4],[4,5],[0,1,2,3,4,5,6],[0,1,2,3,4,5,6,7],[],[9],[9,10],[0,1,2,3,4,5,6,7,8,9,10,11],[0,1,2,3,4,5,6,7,8,9,10,11,12],[0,1,2,3,4,5,6,7,8,9,10,11,12,13]]⟩),(137,⟨[0,1,2,3,4,5,6,7,8,9,10,11,12,13,14,15],[[],[0],[0,1],[0,1,2],[0,1,2,3],[],[5],[5,6],[0,1,2,3,4,5,6,7],[0,1,2,3,4,5,6,7,8],[],[10],[10,11],[0,1,2,3,4,5,6,7,8,9,10,11,12],[0,1,2,3,4,5,6,7,8,9,10,11,12,13],[0,1,2,3,4,5,6,7,8,9,10,11,12,13,14]]⟩),(113,⟨[0,1,2,3,4,5,6,7,8,9,10],[[],[0],[0,1],[0,1,2],[0,1,2,3],[],[5],[5,6],[0,1,2,3,4,5,6,7],[0,1,2,3,4,5,6,7,8],[0,1,2,3,4,5,6,7,8,9]]⟩),(107,⟨[0,1,2,3,4,5,6,7,8],[[],[0],[0,1],[0,1,2],[0,1,2,3],[],[5],[0,1,2,3,4,5,6],[0,1,2,3,4,5,6,7]]⟩),(101,⟨[0,1,2,3,4,5,6,7,8],[[],[0],[0,1],[0,1,2],[0,1,2,3],[],[5],[0,1,2,3,4,5,6],[0,1,2,3,4,5,6,7]]⟩)]}
def W42(v0 o:Value)(w:World)(K:Q0):=jZ 28 v0 w λt2 w1=>aS .lss o (i64 0) λt12=>GdW (isB t12 false) [undef] w1 (λy=>bF 0 t2 λt15=>ldW false 1 t15 w1 λt16=>iL t16 λt17=>aS .geq o t17 λt18=>y [t18] w1) λu _ h=>fN t12 (.bool true) (u.getD 0 undef) λt19=>bE t19 (K (str []) h) (bF 0 t2 λt20=>ldW false 1 t20 h λt21=>fX none 5 t21 o λt23=>ldW true 5 t23 h λt24=>eD 35 zL2 h λt5 s=>stW 5 t5 t24 s λq=>bF 2 t5 λt25=>ldW false 1 t25 q λt26=>iL t26 λt27=>eK [sN,(i64 0)] q λb _ g v=>aS .lss (b.getD 1 undef) t27 λt29=>bE t29 (fX none 1 t26 (b.getD 1 undef) λt31=>ldW false 1 t31 g λt32=>ldW true 3 t2 g λt33=>aL P0 42 [t33,t32] g λt35 e=>dE (λr=>bF 0 t5 λt36=>ldW false 1 t36 e λt37=>aS .eql t37 (i64 8) λt38=>bE t38 (bF 3 t5 λt39=>ldW false 1 t39 e λt40=>fX none 1 t40 (b.getD 1 undef) λt42=>ldW false 1 t42 e λt43=>aL P0 83 [t43] e λt44 n=>aS .add (str [34]) t44 λt45=>aS .add t45 (str [34,32,61,32]) λt46=>aS .add t46 t35 λt48=>r [t48] n) (r [t35] e)) λt _ m=>gP 9 1 [(str [])] [(0,1,(t.getD 0 undef))] m λt51 l=>fV P0 (Builtin.append_ #[33,33] 33 #[(b.getD 0 undef),t51]) l λt52 k=>aS .add (b.getD 1 undef) (i64 1) λt53=>v [t52,t53] k) (aL P0 84 [(b.getD 0 undef),(str [44,32])] g λt55 c=>bF 0 t5 λt56=>ldW false 1 t56 c λt57=>aS .eql t57 (i64 1) λt59=>bE t59 (K (str [110,117,108,108]) c) (aS .eql t57 (i64 2) λt61=>bE t61 (K (str [116,114,117,101]) c) (aS .eql t57 (i64 3) λt63=>bE t63 (K (str [102,97,108,115,101]) c) (dE (λf=>aS .eql t57 (i64 4) λt65=>bE t65 (f [t65] c) (aS .eql t57 (i64 9) λt66=>f [t66] c)) λp _ a=>bE (p.getD 0 undef) (bF 1 t5 λt67=>ldW false 1 t67 a λt68=>K t68 a) (aS .eql t57 (i64 5) λt70=>bE t70 (bF 1 t5 λt71=>ldW false 1 t71 a λt72=>aL P0 83 [t72] a λt73 j=>aS .add (str [34]) t73 λt74=>aS .add t74 (str [34]) λt75=>K t75 j) (aS .eql t57 (i64 6) λt77=>bE t77 (ldW true 3 t2 a λt78=>ldW true 5 t5 a λt79=>aL P0 85 [t78,t79,(b.getD 0 undef)] a λt81 i=>K t81 i) (aS .eql t57 (i64 7) λt83=>bE t83 (aS .add (str [91]) t55 λt85=>aS .add t85 (str [93]) λt86=>K t86 a) (aS .eql t57 (i64 8) λt88=>bE t88 (aS .add (str [123]) t55 λt90=>aS .add t90 (str [125]) λt91=>K t91 a) (aS .eql t57 (i64 10) λt93=>bE t93 (fX none 1 (b.getD 0 undef) (i64 0) λt95=>ldW false 1 t95 a.drew λt96=>aS .add (str [40]) t96 λt97=>aS .add t97 (str [41,46]) λt98=>bF 1 t5 λt99=>ldW false 1 t99 a.drew λt100=>aS .add t98 t100 λt101=>K t101 a.drew) (aS .eql t57 (i64 30) λt103=>bE t103 (fX none 1 (b.getD 0 undef) (i64 0) λt105=>ldW false 1 t105 a.drew λt106=>aS .add (str [40]) t106 λt107=>aS .add t107 (str [41,91,42,93,46]) λt108=>bF 1 t5 λt109=>ldW false 1 t109 a.drew λt110=>aS .add t108 t110 λt111=>K t111 a.drew) (aS .eql t57 (i64 11) λt113=>bE t113 (fX none 1 (b.getD 0 undef) (i64 0) λt115=>ldW false 1 t115 a.drew λt116=>aS .add (str [40]) t116 λt117=>aS .add t117 (str [41,91]) λt118=>fX none 1 (b.getD 0 undef) (i64 1) λt120=>ldW false 1 t120 a.drew λt121=>aS .add t118 t121 λt122=>aS .add t122 (str [93]) λt123=>K t123 a.drew) (aS .eql t57 (i64 12) λt125=>bE t125 (bF 1 t5 λt126=>ldW false 1 t126 a λt127=>aS .add t127 (str [40]) λt128=>aS .add t128 t55 λt130=>aS .add t130 (str [41]) λt131=>K t131 a) (aS .eql t57 (i64 13) λt133=>bE t133 (aS .add (str [40,45]) t55 λt135=>aS .add t135 (str [41]) λt136=>K t136 a) (aS .eql t57 (i64 14) λt138=>bE t138 (aS .add (str [40,33]) t55 λt140=>aS .add t140 (str [41]) λt141=>K t141 a) (aS .eql t57 (i64 28) λt143=>bE t143 (fX none 1 (b.getD 0 undef) (i64 0) λt145=>ldW false 1 t145 a.drew λt146=>aS .add (str [40]) t146 λt147=>aS .add t147 (str [32,63,32]) λt148=>fX none 1 (b.getD 0 undef) (i64 1) λt150=>ldW false 1 t150 a.drew λt151=>aS .add t148 t151 λt152=>aS .add t152 (str [32,58,32]) λt153=>fX none 1 (b.getD 0 undef) (i64 2) λt155=>ldW false 1 t155 a.drew λt156=>aS .add t153 t156 λt157=>aS .add t157 (str [41]) λt158=>K t158 a.drew) (aS .eql t57 (i64 29) λt160=>bE t160 (bF 1 t5 λt161=>ldW false 1 t161 a.drew λt162=>aS .add (str [91,102,111,114,32]) t162 λt163=>aS .add t163 (str [32,105,110,32]) λt164=>fX none 1 (b.getD 0 undef) (i64 0) λt166=>ldW false 1 t166 a.drew λt167=>aS .add t164 t167 λt168=>aS .add t168 (str [32,58,32]) λt169=>fX none 1 (b.getD 0 undef) (i64 1) λt171=>ldW false 1 t171 a.drew λt172=>aS .add t169 t172 λt173=>aS .add t173 (str [93]) λt174=>K t174 a.drew) (fX none 1 (b.getD 0 undef) (i64 0) λt176=>ldW false 1 t176 a.drew λt177=>aS .add (str [40]) t177 λt178=>aS .add t178 (str [32]) λt179=>bF 0 t5 λt180=>ldW false 1 t180 a.drew λt181=>fX none 1 (b.getD 0 undef) (i64 1) λt186=>ldW false 1 t186 a.drew λt187=>aL P0 86 [t181] a.drew λt182 d=>(ldW false 1 t186 d λx=>x=t187)/\(ldW false 1 t176 d λx=>x=t177)/\aS .add t179 t182 λt183=>aS .add t183 (str [32]) λt184=>aS .add t184 t187 λt188=>aS .add t188 (str [41]) λt189=>K t189 d))))))))))))))))))
def aEN(h:W42 v0 v1 w K):aL P0 42 [v0,v1] w K:=
 tie _ 42 Tryz.f42 aDi _ w K 2 _ rfl mixed Tryz.func42 (by kernel_rfl) (by kernel_rfl) Tryz.call42 h
def aDh:fG:={js:=[(48,⟨[70],[15],70⟩),(31,⟨[48],[13],48⟩),(12,⟨[32],[11],32⟩)],ds:=[(42,⟨[0,1,2,3,4,5,6,7,8,9,11,12],[[],[],[1],[],[3],[1,2,3,4],[1,2,3,4,5],[],[],[8],[7,8,9],[1,2,3,4,5,6,7,8,9,10],[1,2,3,4,5,6,7,8,9,10,11],[0,1,2,3,4,5,6,7,8,9,10,11,12]]⟩)]}
def W43(v0 u v2 v3:Value)(w:World)(K:Q0):=jZ 28 u w λt5 w1=>bF 1 t5 λt16=>ldW false 1 t16 w1 λt17=>fX none 5 t17 v2 λt19=>ldW true 5 t19 w1 λt20=>eD 38 zL5 w1 λt8 w2=>stW 5 t8 t20 w2 λt=>aL P0 87 [(str [32,32]),v3] t λt22 q=>bF 0 t8 λt25=>ldW false 1 t25 q λt26=>aS .add t22 t26 λt27=>aL P0 88 [v0,t27] q λt28 p=>bF 1 t8 λt29=>ldW false 1 t29 p λt30=>iL t30 λt31=>eK [(i64 0)] p λm _ h v=>aS .lss (m.getD 0 undef) t31 λt33=>bE t33 (fX none 1 t30 (m.getD 0 undef) λt34=>ldW false 1 t34 h λt35=>aL P0 83 [t35] h λt38 s=>aS .add (str [32,34]) t38 λt39=>aS .add t39 (str [34]) λt40=>aL P0 88 [v0,t40] s λt41 r=>aS .add (m.getD 0 undef) (i64 1) λt42=>v [t42] r) (aL P0 88 [v0,(str [32,123,10])] h λt44 g=>bF 2 t8 λt45=>ldW false 1 t45 g λt46=>iL t46 λt47=>eK [(i64 0)] g λe _ c o=>aS .lss (e.getD 0 undef) t47 λt49=>bE t49 (fX none 3 t46 (e.getD 0 undef) λt50=>ldW true 3 t50 c λt51=>eD 40 zL1 c λt13 l=>stW 3 t13 t51 l λb=>aS .add t22 (str [32,32]) λt54=>bF 0 t13 λt55=>ldW false 1 t55 b.drew λt56=>aS .add t54 t56 λt57=>aS .add t57 (str [32,61,32]) λt58=>ldW true 3 t5 b.drew λt59=>bF 1 t13 λt60=>ldW false 1 t60 b.drew λt61=>aL P0 42 [t59,t61] b.drew λt62 f=>(ldW false 1 t55 f λx=>x=t56)/\aS .add t58 t62 λt63=>aS .add t63 (str [10]) λt64=>aL P0 88 [v0,t64] f λt65 k=>aS .add (e.getD 0 undef) (i64 1) λt66=>o [t66] k) (bF 3 t8 λt67=>ldW false 1 t67 c λt68=>iL t68 λt69=>eK [(i64 0)] c λd _ a n=>aS .lss (d.getD 0 undef) t69 λt71=>bE t71 (fX none 1 t68 (d.getD 0 undef) λt72=>ldW false 1 t72 a λt73=>ldW true 3 t5 a λt75=>aS .add v3 (i64 1) λt78=>aL P0 43 [v0,t75,t73,t78] a λt79 j=>aS .add (d.getD 0 undef) (i64 1) λt80=>n [t80] j) (aS .add t22 (str [125,10]) λt83=>aL P0 88 [v0,t83] a λt84 i=>K (.tuple #[]) i)))
def aEM(h:W43 v0 v1 v2 v3 w K):aL P0 43 [v0,v1,v2,v3] w K:=
 tie _ 43 Tryz.f43 aDh _ w K 4 _ rfl mixed Tryz.func43 (by kernel_rfl) (by kernel_rfl) Tryz.call43 h
def aCV:fG:={js:=[(18,⟨[5],[5],8⟩),(22,⟨[12],[],12⟩),(8,⟨[],[5],8⟩)],ds:=[]}
def W83(v0:Value)(w:World)(K:Q0):=eD 114 zL4 w λt3 w1=>fV P0 (Instr.range 9 v0) w1 λt7 w2=>eK [] w2 λp _ l o=>fV P0 (Instr.next t7 true 0) l λt8 c=>kH 0 t8 λt9=>bE t9 (kH 2 t8 λt10=>dE (λb=>dE (λj=>aS .eql t10 (.int .i32 92) λt13=>bE t13 (j [t13] c) (aS .eql t10 (.int .i32 34) λt14=>bE t14 (j [t14] c) (aS .eql t10 (.int .i32 36) λt15=>j [t15] c))) λm _ a=>bE (m.getD 0 undef) (aL P0 126 [t3,(.int .u8 92)] a λt16 k=>b [t10] k) (aS .eql t10 (.int .i32 10) λt18=>bE t18 (aL P0 126 [t3,(.int .u8 92)] a λt19 i=>b [(.int .i32 110)] i) (aS .eql t10 (.int .i32 9) λt21=>bE t21 (aL P0 126 [t3,(.int .u8 92)] a λt22 h=>b [(.int .i32 116)] h) (aS .eql t10 (.int .i32 13) λt24=>bE t24 (aL P0 126 [t3,(.int .u8 92)] a λt25 g=>b [(.int .i32 114)] g) (b [t10] a))))) λn _ f=>aL P0 127 [t3,(n.getD 0 undef)] f λt27 e=>o [] e) (aL P0 44 [t3] c λt28 d=>K t28 d)
def aEq(h:W83 v0 w K):aL P0 83 [v0] w K:=
 tie _ 83 Tryz.f83 aCV _ w K 1 _ rfl mixed Tryz.func83 (by kernel_rfl) (by kernel_rfl) Tryz.call83 h
def aCU:fG:={js:=[(17,⟨[],[8,9],14⟩),(10,⟨[13],[8,9],13⟩)],ds:=[(24,⟨[0,1,2,3,4,5,6,7,8,9],[[],[0],[],[2],[],[2,3,4],[2,3,4,5],[0,1,2,3,4,5,6],[0,1,2,3,4,5,6,7],[0,1,2,3,4,5,6,7,8],[0,1,2,3,4,5,6,7,8,9],[0,1,2,3,4,5,6,7,8,9,10]]⟩)]}
def W85(v0 l v2:Value)(w:World)(K:Q0):=jZ 28 v0 w λt3 w1=>jZ 35 l w1 λt4 w2=>eD 114 zL4 w2 λt7 k=>aL P0 126 [t7,(.int .u8 34)] k λt10 j=>iL v2 λt12=>eK [(i64 0)] j λb _ a m=>aS .lss (b.getD 0 undef) t12 λt14=>bE t14 (dE (λg=>fX none 1 v2 (b.getD 0 undef) λt16=>ldW false 1 t16 a λt17=>bF 3 t4 λt18=>ldW false 1 t18 a λt19=>fX none 1 t19 (b.getD 0 undef) λt21=>ldW false 1 t21 a λt22=>aS .eql t22 (str [116]) λt23=>bE t23 (bF 0 t3 λt24=>ldW false 1 t24 a.drew λt25=>bF 2 t4 λt26=>ldW false 1 t26 a.drew λt27=>fX none 1 t27 (b.getD 0 undef) λt29=>ldW false 1 t29 a.drew λt30=>fX none 5 t25 t30 λt31=>bF 1 t31 λt32=>ldW false 1 t32 a.drew λt33=>aL P0 83 [t33] a.drew λt34 i=>aL P0 88 [t7,t34] i λt35 h=>g [] h) (aS .add (str [36,123]) t17 λt37=>aS .add t37 (str [125]) λt38=>aL P0 88 [t7,t38] a λt39 f=>g [] f)) λn _ e=>aS .add (b.getD 0 undef) (i64 1) λt40=>m [t40] e) (aL P0 126 [t7,(.int .u8 34)] a λt41 d=>aL P0 44 [t7] d λt42 c=>K t42 c)
def aEp(h:W85 v0 v1 v2 w K):aL P0 85 [v0,v1,v2] w K:=
 tie _ 85 Tryz.f85 aCU _ w K 3 _ rfl mixed Tryz.func85 (by kernel_rfl) (by kernel_rfl) Tryz.call85 h
def aCT:fG:={js:=[],ds:=[]}
def W86(v0:Value)(w:World)(K:Q0):=kE (List.replicate 13 (str [])) [(0,1,(str [43])),(1,1,(str [45])),(2,1,(str [42])),(3,1,(str [47])),(4,1,(str [37])),(5,1,(str [61,61])),(6,1,(str [33,61])),(7,1,(str [60])),(8,1,(str [62])),(9,1,(str [60,61])),(10,1,(str [62,61])),(11,1,(str [38,38])),(12,1,(str [124,124]))] λa=>aS .sub v0 (i64 15) λt5=>UK 13 false 1 (.agg a.toArray) t5 λt6=>K t6 w
def aEo(h:W86 v0 w K):aL P0 86 [v0] w K:=
 tie _ 86 Tryz.f86 aCT _ w K 1 _ rfl mixed Tryz.func86 (by kernel_rfl) (by kernel_rfl) Tryz.call86 h
def Yy:fG:={js:=[(28003,⟨[36],[],35⟩),(16,⟨[28],[2,5],28⟩),(6002,⟨[23],[],17⟩),(6004,⟨[22],[],21⟩),(6008,⟨[20],[],17⟩),(6013,⟨[14],[],12⟩)],ds:=[]}
def aG5(v0:Value)(w:World)(K:Q0):=aL P0 148 [v0,(str [45])] w λt7 w1=>kQ t7 λt9=>aS .lss t9 (i64 1) λt10=>GdW (isB t10 false) [undef] w1 (λs=>kQ t7 λt13=>aS .gtr t13 (i64 100) λt14=>s [t14] w1) λo _ k=>fN t10 (.bool true) (o.getD 0 undef) λt15=>GdW (isB t15 false) [undef] k (λr=>qM t7 (i64 0) λt18=>aS .eql t18 (.int .u8 48) λt19=>r [t19] k) λl _ j=>GdW (isB (l.getD 0 undef) true) [undef] j (λq=>aS .neq v0 (str [48]) λt22=>q [t22] j) λn _ i=>GdW (isB t15 false) [undef] i (λp=>fN (l.getD 0 undef) (n.getD 0 undef) (.bool false) λt23=>p [t23] i) λm _ h=>fN t15 (.bool true) (m.getD 0 undef) λt24=>bE t24 (K (.bool false) h) (fV P0 (convert 9 80 t7) h λt26 d=>iL t26 λt27=>eK [(i64 0)] d λb _ a f=>aS .lss (b.getD 0 undef) t27 λt29=>bE t29 (fX none 1 t26 (b.getD 0 undef) λt30=>ldW false 1 t30 a λt31=>aS .lss t31 (.int .u8 48) λt33=>GdW (isB t33 false) [undef] a (λg=>aS .gtr t31 (.int .u8 57) λt36=>g [t36] a) λe _ c=>fN t33 (.bool true) (e.getD 0 undef) λt37=>bE t37 (K (.bool false) c) (aS .add (b.getD 0 undef) (i64 1) λt38=>f [t38] c)) (K (.bool true) a))
def aBs(h:aG5 v0 w K):aL P0 111 [v0] w K:=
 tie _ 111 Tryz.f111 Yy _ w K 1 _ rfl mixed Tryz.func111 (by kernel_rfl) (by kernel_rfl) Tryz.call111 h
def aFs:fG:={js:=[(74007,⟨[88],[],84⟩),(36,⟨[33],[2,9],33⟩)],ds:=[(78,⟨[0,2,5],[[],[0],[],[0,1,2],[0,1,2,3],[0,1,2,3,4]]⟩),(48,⟨[0,1,2,3,4,7,8,9,10,14,16],[[],[0],[],[2],[2,3],[2,3,4],[0,1,2,3,4,5],[],[7],[],[9],[0,1,2,3,4,5,6,9,10],[0,1,2,3,4,5,6,9,10,11],[0,1,2,3,4,5,6,7,8,9,10,11,12],[0,1,2,3,4,5,6,7,8],[0,1,2,3,4,5,6,7,8,9,10,11,12,13,14],[0,1,2,3,4,5,6,7,8,9,10,11,12,13,14,15],[0,1,2,3,4,5,6,7,8,9,10,11,12,13,14,15,16]]⟩)]}
def W9(v0:Value)(w:World)(K:Q0):=jZ 51 v0 w λt1 w1=>aL P0 18 [] w1 λt13 w2=>unW .not t13 λt14=>bE t14 (K (.bool false) w2) (ldW true 2 t1 w2 λt16=>aL P0 19 [t16] w2 λt17 H=>kH 0 t17 λt18=>kH 1 t17 λt19=>eD 55 zL3 H λt4 G=>stW 4 t4 t19 G λD=>eqW .ptr false t18 (.pointer none) λt21=>bE t21 (K (.bool false) D) (aL P0 20 [t18,(str [])] D λt24 F=>kH 0 t24 λt25=>kH 1 t24 λt26=>eD 60 [sN] F λt5 E=>stW 1 t5 t25 E λC=>eqW .ptr true t26 (.pointer none) λt28=>bE t28 (K (.bool true) C) (kE [sN,sN] [] λI=>eD 51 [sN,sN] C λt7 y=>stW 2 t7 (.agg I.toArray) y λl=>bF 0 t5 λt30=>ldW false 1 t30 l λt31=>iL t31 λt32=>eK [(i64 0)] l λg _ e A=>aS .lss (g.getD 0 undef) t32 λt34=>bE t34 (fX none 9 t31 (g.getD 0 undef) λt35=>ldW true 9 t35 e λt36=>eD 67 [(str []),sN,sN,sN,sN,sN,sN,sN,sN] e λt9 v=>stW 9 t9 t36 v λc=>bF 0 t7 λt37=>ldW false 1 t37 c.drew λt38=>bF 0 t9 λt39=>ldW false 1 t39 c.drew λt40=>aS .add t40 (str [109,97,105,110,46,104,99,108]) λt41=>bF 1 t7 λt44=>ldW false 1 t44 c.drew λt45=>bF 1 t9 λt46=>ldW true 3 t46 c.drew λt47=>gP 9 1 [(str [])] [(0,1,t41)] c.drew λt42 d=>(ldW true 3 t46 d λx=>x=t47)/\(ldW false 1 t44 d λx=>x=t45)/\(ldW false 1 t37 d λx=>x=t38)/\fV P0 (Builtin.append_ #[33,33] 33 #[t38,t42]) d λt43 f=>(ldW true 3 t46 f λx=>x=t47)/\(ldW false 1 t44 f λx=>x=t45)/\bF 0 t7 λt51=>aL P0 16 [t47] f λt48 k=>(ldW false 1 t44 k λx=>x=t45)/\gP 9 1 [(str [])] [(0,1,t48)] k λt49 j=>(ldW false 1 t44 j λx=>x=t45)/\fV P0 (Builtin.append_ #[33,33] 33 #[t45,t49]) j λt50 u=>stW 1 t51 t43 u λt=>bF 1 t7 λt52=>stW 1 t52 t50 t λb=>bF 1 t7 λt53=>ldW false 1 t53 b λt54=>bF 1 t7 λt55=>ldW false 1 t55 b λt56=>iL t56 λt57=>aS .sub t57 (i64 1) λt58=>fX none 1 t54 t58 λt59=>ldW false 1 t59 b λt60=>kQ t60 λt61=>aS .gtr t61 (i64 6000) λt62=>bE t62 (K (.bool true) b) (aS .add (g.getD 0 undef) (i64 1) λt63=>A [t63] b)) (ldW true 2 t7 e λt65=>aL P0 19 [t65] e λt66 s=>kH 0 t66 λt67=>kH 1 t66 λt68=>eD 55 zL3 s λt11 r=>stW 4 t11 t68 r λi=>eqW .ptr false t67 (.pointer none) λt70=>bE t70 (K (.bool false) i) (aL P0 20 [t67,(str [])] i λt73 q=>kH 0 t73 λt74=>kH 1 t73 λt75=>eD 60 [sN] q λt12 p=>stW 1 t12 t74 p λa=>eqW .ptr true t75 (.pointer none) λt77=>bE t77 (fA t75 λt79=>bF 0 t79 λt80=>ldW false 1 t80 a λt81=>aS .eql t81 (i64 7) λt82=>GdW (isB t82 false) [undef] a (λB=>fA t75 λt85=>bF 0 t85 λt86=>ldW false 1 t86 a λt87=>aS .eql t87 (i64 3) λt88=>B [t88] a) λz _ o=>fN t82 (.bool true) (z.getD 0 undef) λt89=>K t89 o) (ldW true 1 t5 a.drew λt90=>ldW true 1 t12 a.drew λt92=>aL P0 26 [t90] a.drew λt91 h=>(ldW true 1 t12 h λx=>x=t92)/\aL P0 26 [t92] h λt93 n=>aL P0 25 [t91,t93] n λt94 m=>K t94 m))))))
def aFR(h:W9 v0 w K):aL P0 9 [v0] w K:=
 tie _ 9 Tryz.f9 aFs _ w K 1 _ rfl mixed Tryz.func9 (by kernel_rfl) (by kernel_rfl) Tryz.call9 h
def aDu:fG:={js:=[(19004,⟨[58],[],57⟩),(19015,⟨[54],[],46⟩),(19024,⟨[43],[],37⟩),(19030,⟨[34],[],31⟩)],ds:=[]}
def W18(w:World)(K:Q0):=gP 9 2 [(str []),(str [])] [(0,1,(str [109,97,105,110,46,104,99,108])),(1,1,(str [110,101,116,47,109,97,105,110,46,104,99,108]))] w λt8 w1=>gP 9 2 [(str []),(str [])] [(0,1,(str [118,97,114,105,97,98,108,101,32,34,97,34,32,123,125,10,109,111,100,117,108,101,32,34,109,34,32,123,10,32,115,111,117,114,99,101,32,61,32,34,110,101,116,34,10,32,120,32,61,32,49,10,125,10])),(1,1,(str [118,97,114,105,97,98,108,101,32,34,120,34,32,123,125]))] w1 λt9 w2=>kE [sN,sN] [(0,1,t8),(1,1,t9)] λc3=>aL P0 19 [(.agg c3.toArray)] w2 λt11 x=>kH 0 t11 λt12=>kH 1 t11 λt13=>eD 55 zL3 x λt2 v=>stW 4 t2 t13 v λr=>eqW .ptr false t12 (.pointer none) λt15=>bE t15 (K (.bool false) r) (aL P0 20 [t12,(str [])] r λt18 u=>kH 0 t18 λt19=>kH 1 t18 λt20=>eD 60 [sN] u λt3 t=>stW 1 t3 t19 t λs=>aL P0 46 [t12,(str [110,101,116,47,109,97,105,110,46,104,99,108])] s λt22 i=>aL P0 20 [t12,(str [])] i λt25 h=>kH 0 t25 λt26=>kH 1 t25 λt27=>eD 60 [sN] h λt5 g=>stW 1 t5 t26 g λc=>eqW .ptr false t20 (.pointer none) λt29=>GdW (isB t29 true) [undef] c (λq=>bF 0 t3 λt31=>ldW false 1 t31 c λt32=>iL t32 λt33=>aS .eql t33 (i64 2) λt34=>q [t34] c) λm _ b=>fN t29 (m.getD 0 undef) (.bool false) λt35=>GdW (isB t35 true) [undef] b (λp=>bF 0 t3 λt37=>ldW false 1 t37 b λt38=>fX none 9 t38 (i64 0) λt39=>bF 8 t39 λt40=>ldW false 1 t40 b λt41=>iL t41 λt42=>aS .eql t42 (i64 1) λt43=>p [t43] b) λl _ a=>fN t35 (l.getD 0 undef) (.bool false) λt44=>GdW (isB t44 true) [undef] a (λo=>bF 0 t3 λt46=>ldW false 1 t46 a λt47=>fX none 9 t47 (i64 0) λt48=>bF 8 t48 λt49=>ldW false 1 t49 a λt50=>fX none 4 t50 (i64 0) λt51=>bF 1 t51 λt52=>ldW false 1 t52 a λt53=>aS .eql t53 (i64 1) λt54=>o [t54] a) λk _ d=>fN t44 (k.getD 0 undef) (.bool false) λt55=>GdW (isB t55 true) [undef] d (λn=>aL P0 21 [t27,(i64 111),(str [110,101,116,47,109,97,105,110,46,104,99,108]),(i64 0)] d λt58 f=>n [t58] f) λj _ e=>fN t55 (j.getD 0 undef) (.bool false) λt59=>K t59 e)
def aE1(h:W18 w K):aL P0 18 [] w K:=
 tie _ 18 Tryz.f18 aDu _ w K 0 _ rfl mixed Tryz.func18 (by kernel_rfl) (by kernel_rfl) Tryz.call18 h
def aDt:fG:={js:=[(11003,⟨[28],[],27⟩),(11007,⟨[24],[],23⟩),(11014,⟨[20],[],16⟩),(8,⟨[6],[],6⟩)],ds:=[(24,⟨[0,1,2],[[],[],[0],[0,1,2]]⟩),(21,⟨[0,1,2,3,4,5,6,8,9,10],[[],[],[1],[],[1,2,3],[1,2,3,4],[],[0,1,2,3,4,5,6],[0,1,2,3,4,5,6,7],[0,1,2,3,4,5,6,7,8],[0,1,2,3,4,5,6,7,8],[0,1,2,3,4,5,6,7,8,9]]⟩),(18,⟨[0,1,2,3,4,5,6,7,8,9,10,11,12,13],[[],[0],[],[0,1,2],[0,1,2,3],[],[5],[],[5,6,7],[5,6,7,8],[5,6,7,8,9],[5,6,7,8,9,10],[0,1,2,3,4,5,6,7,8,9,10,11],[0,1,2,3,4,5,6,7,8,9,10,11,12]]⟩)]}
def W19(v0:Value)(w:World)(K:Q0):=jZ 51 v0 w λt1 w1=>eD 55 zL3 w1 λt3 w2=>aL P0 47 [] w2 λt8 s=>aL P0 48 [] s λt9 r=>eD 55 zL3 r λt5 q=>stW 4 t5 t9 q λp=>eK [(i64 0)] p λc _ g u=>bF 0 t1 λt11=>ldW false 1 t11 g λt12=>iL t12 λt13=>aS .lss (c.getD 0 undef) t13 λt14=>GdW (isB t14 true) [undef] g (λv=>bF 1 t1 λt17=>ldW false 1 t17 g λt18=>iL t18 λt19=>aS .lss (c.getD 0 undef) t19 λt20=>v [t20] g) λt _ f=>fN t14 (t.getD 0 undef) (.bool false) λt21=>GdW (isB t21 true) [undef] f (λo=>aS .lss (c.getD 0 undef) (i64 20) λt24=>o [t24] f) λl _ e=>fN t21 (l.getD 0 undef) (.bool false) λt25=>GdW (isB t25 true) [undef] e (λn=>eqW .ptr true t8 (.pointer none) λt28=>n [t28] e) λk _ a=>fN t25 (k.getD 0 undef) (.bool false) λt29=>bE t29 (bF 1 t1 λt32=>ldW false 1 t32 a.drew λt33=>fX none 1 t33 (c.getD 0 undef) λt35=>ldW false 1 t35 a.drew λt36=>bF 1 t1 λt37=>ldW false 1 t37 a.drew λt38=>fX none 1 t38 (c.getD 0 undef) λt40=>ldW false 1 t40 a.drew λt41=>kQ t41 λt42=>YU t42 (i64 6000) λt43=>rY t36 none (some t43) λt44=>bF 0 t1 λt46=>ldW false 1 t46 a.drew λt47=>fX none 1 t47 (c.getD 0 undef) λt49=>ldW false 1 t49 a.drew λt50=>fV P0 (convert 9 80 t44) a.drew λt52 j=>aL P0 23 [t8,t50,t52] j λt53 b=>ldW true 4 t5 b.drew λt55=>bF 0 t1 λt56=>ldW false 1 t56 b.drew λt57=>fX none 1 t57 (c.getD 0 undef) λt59=>ldW false 1 t59 b.drew λt60=>aL P0 49 [t55,t60,t44,(.bool false)] b.drew λt62 i=>kH 0 t62 λt63=>kH 1 t62 λt64=>stW 4 t5 t63 i λh=>aS .add (c.getD 0 undef) (i64 1) λt31=>u [t31] h) (ldW true 4 t5 a.drew λt66=>stW 4 t3 t66 a.drew λd=>ldW true 4 t3 d λm=>K (.tuple #[t8,m]) d)
def aE0(h:W19 v0 w K):aL P0 19 [v0] w K:=
 tie _ 19 Tryz.f19 aDt _ w K 1 _ rfl mixed Tryz.func19 (by kernel_rfl) (by kernel_rfl) Tryz.call19 h
def NR:fG:={js:=[],ds:=[]}
def W20(v0 l:Value)(w:World)(K:Q0):=
 eD 60 [sN] w λt4 w1=>
 eD 29 [(.pointer none)] w1 λt5 w2=>
 letI:HX:=⟨λch i=>AR P0 50 [t4,t5] (.panicking ch) i λb=>
 ldW true 1 t4 b λn=>
 ldW false 1 t5 b λm=>
 K (.tuple #[n,m]) b⟩
 kE [(.pointer none),sN] [(0,1,v0)] λo=>
 jZ 124 (.agg o.toArray) w2 λt10 k=>
 aL P0 52 [l] k λt13 j=>
 aL P0 51 [t10,t13,(i64 0)] j λt14 h=>
 fA t10 λt16=>
 bF 1 t16 λt17=>
 ldW false 1 t17 h λt18=>
 kE [sN] [(0,1,t18)] λg=>
 stW 1 t4 (.agg g.toArray) h λd=>
 stW 1 t5 (.pointer none) d λc=>
 AR P0 50 [t4,t5] .returning c λa=>
 ldW true 1 t4 a λf=>
 ldW false 1 t5 a λe=>
 K (.tuple #[f,e]) a
def aEZ(v0 a:Value)(w:World)(K:Q0):Va P0 Tryz.f20 NR 1 [v0,a] w (HZ K)=W20 v0 a w K:=by kernel_rfl
def aAv:Ea P0 Tryz.f20 NR 6 50 1 2=true:=by kernel_rfl
def aEY(h:W20 v0 v1 w K):aL P0 20 [v0,v1] w K:=
 aFj P0 20 Tryz.f20 NR [v0,v1] w K 6 50 1 2 (W20 v0 v1 w K) rfl mixed Tryz.func20 aAv (aEZ v0 v1 w K) Tryz.call20 Tryz.call50 h
def aDs:fG:={js:=[(11008,⟨[37],[],32⟩),(11016,⟨[29],[],24⟩),(11024,⟨[21],[],16⟩)],ds:=[]}
def W21(v0 b v2 v3:Value)(w:World)(K:Q0):=aS .eql b (i64 0) λt10=>bE t10 (eqW .ptr false v0 (.pointer none) λt12=>K t12 w) (eqW .ptr true v0 (.pointer none) λt14=>GdW (isB t14 true) [undef] w (λh=>fA v0 λt17=>bF 0 t17 λt18=>ldW false 1 t18 w λt19=>aS .eql t19 b λt21=>h [t21] w) λs1 _ w2=>fN t14 (s1.getD 0 undef) (.bool false) λt22=>GdW (isB t22 true) [undef] w2 (λg=>fA v0 λt25=>bF 1 t25 λt26=>ldW false 1 t26 w2 λt27=>aS .eql t27 v2 λt29=>g [t29] w2) λe _ a=>fN t22 (e.getD 0 undef) (.bool false) λt30=>GdW (isB t30 true) [undef] a (λf=>fA v0 λt33=>bF 2 t33 λt34=>ldW false 1 t34 a λt35=>aS .eql t35 v3 λt37=>f [t37] a) λd _ c=>fN t30 (d.getD 0 undef) (.bool false) λt38=>K t38 c)
def aEX(h:W21 v0 v1 v2 v3 w K):aL P0 21 [v0,v1,v2,v3] w K:=
 tie _ 21 Tryz.f21 aDs _ w K 4 _ rfl mixed Tryz.func21 (by kernel_rfl) (by kernel_rfl) Tryz.call21 h
def aDq:fG:={js:=[],ds:=[(33,⟨[0,1,2,3,4,5],[[],[0],[0,1],[0,1,2],[],[],[0,1,2,3,4,5]]⟩)]}
def W23(v0 b v2:Value)(w:World)(K:Q0):=aL P0 54 [b] w λt10 w1=>unW .not t10 λt11=>bE t11 (K (i64 6) w1) (aL P0 55 [v0,b,v2] w1 λt15 w2=>unW .not t15 λt16=>bE t16 (K (i64 3) w2) (aL P0 56 [v0] w2 λt18 a=>aS .neq t18 (i64 0) λt20=>bE t20 (K t18 a) (fA v0 λt23=>bF 0 t23 λt24=>ldW false 1 t24 a λt25=>sF P0 (Instr.lookup 131 t25 b false) a λt27=>eD 130 [sN,sN,(i64 0)] a λt8 g=>stW 3 t8 t27 g λf=>aL P0 57 [v2] f λt29 e=>bF 0 t8 λt30=>stW 1 t30 t29 e λc=>fA v0 λt32=>bF 0 t32 λt33=>ldW false 1 t33 c.drew λt34=>ldW true 3 t8 c.drew λt36=>Gy P0 (Instr.mapUpdate 131 t34 b t36) c.drew λd=>K (i64 0) d)))
def aEV(h:W23 v0 v1 v2 w K):aL P0 23 [v0,v1,v2] w K:=
 tie _ 23 Tryz.f23 aDq _ w K 3 _ rfl mixed Tryz.func23 (by kernel_rfl) (by kernel_rfl) Tryz.call23 h
def aDo:fG:={js:=[(147,⟨[3],[3,20],131⟩),(140,⟨[3,130],[3,20],130⟩),(129,⟨[14],[14],80⟩),(123,⟨[14],[14],80⟩),(110,⟨[14,105],[14,18],105⟩),(93,⟨[14,92],[14,16],92⟩),(76,⟨[3,79],[3,13,14,16,18],79⟩),(59,⟨[3,65],[3,11],65⟩),(42,⟨[3,51],[3,9],51⟩),(25,⟨[3,37],[3,7],37⟩),(8,⟨[3,24],[3,5,7,9,11,13,14,16,18,20],24⟩)],ds:=[(151,⟨[1,2,3,4,5,6,8],[[],[],[1],[1,2],[1,2,3],[],[5],[5,6],[1,2,3,4,5,6,7],[1,2,3,4,5,6,7,8],[0,1,2,3,4,5,6,7,8,9],[0,1,2,3,4,5,6,7,8,9,10]]⟩)]}
def W26(v0:Value)(w:World)(K:Q0):=jZ 60 v0 w λt1 w1=>bF 0 t1 λt21=>ldW false 1 t21 w1 λt22=>iL t22 λt23=>eK [sN,(i64 0)] w1 λA _ R L2=>aS .lss (A.getD 1 undef) t23 λt25=>bE t25 (fX none 9 t22 (A.getD 1 undef) λt26=>ldW true 9 t26 R λt27=>eD 67 [(str []),sN,sN,sN,sN,sN,sN,sN,sN] R λt5 w4=>stW 9 t5 t27 w4 λw5=>bF 0 t5 λt29=>ldW false 1 t29 w5 λt30=>aS .add (str [109,111,100,117,108,101,32]) t30 λt31=>gP 9 1 [(str [])] [(0,1,t31)] w5 λt32 w6=>fV P0 (Builtin.append_ #[33,33] 33 #[(A.getD 0 undef),t32]) w6 λt33 w7=>bF 4 t5 λt34=>ldW false 1 t34 w7 λt35=>iL t35 λt36=>eK [t33,(i64 0)] w7 λy _ D L8=>aS .lss (y.getD 1 undef) t36 λt38=>bE t38 (fX none 3 t35 (y.getD 1 undef) λt39=>ldW true 3 t39 D λt40=>eD 69 zL1 D λt7 hb=>stW 3 t7 t40 hb λv=>bF 0 t7 λt42=>ldW false 1 t42 v λt43=>aS .add (str [118,97,114,32]) t43 λt44=>gP 9 1 [(str [])] [(0,1,t44)] v λt45 ha=>fV P0 (Builtin.append_ #[33,33] 33 #[(y.getD 0 undef),t45]) ha λt46 Z=>aS .add (y.getD 1 undef) (i64 1) λt47=>L8 [t46,t47] Z) (bF 5 t5 λt48=>ldW false 1 t48 D λt49=>iL t49 λt50=>eK [(y.getD 0 undef),(i64 0)] D λh _ n hj=>aS .lss (h.getD 1 undef) t50 λt52=>bE t52 (fX none 3 t49 (h.getD 1 undef) λt53=>ldW true 3 t53 n λt54=>eD 40 zL1 n λt9 Y=>stW 3 t9 t54 Y λu=>bF 0 t9 λt56=>ldW false 1 t56 u λt57=>aS .add (str [108,111,99,97,108,32]) t57 λt58=>gP 9 1 [(str [])] [(0,1,t58)] u λt59 X=>fV P0 (Builtin.append_ #[33,33] 33 #[(h.getD 0 undef),t59]) X λt60 W=>aS .add (h.getD 1 undef) (i64 1) λt61=>hj [t60,t61] W) (bF 6 t5 λt62=>ldW false 1 t62 n λt63=>iL t63 λt64=>eK [(h.getD 0 undef),(i64 0)] n λg _ m hi=>aS .lss (g.getD 1 undef) t64 λt66=>bE t66 (fX none 3 t63 (g.getD 1 undef) λt67=>ldW true 3 t67 m λt68=>eD 40 zL1 m λt11 V=>stW 3 t11 t68 V λt=>bF 0 t11 λt70=>ldW false 1 t70 t λt71=>aS .add (str [111,117,116,112,117,116,32]) t71 λt72=>gP 9 1 [(str [])] [(0,1,t72)] t λt73 U=>fV P0 (Builtin.append_ #[33,33] 33 #[(g.getD 0 undef),t73]) U λt74 T=>aS .add (g.getD 1 undef) (i64 1) λt75=>hi [t74,t75] T) (bF 7 t5 λt76=>ldW false 1 t76 m λt77=>iL t77 λt78=>eK [(g.getD 0 undef),(i64 0)] m λf _ l hh=>aS .lss (f.getD 1 undef) t78 λt80=>bE t80 (fX none 9 t77 (f.getD 1 undef) λt81=>ldW true 9 t81 l λt82=>eD 71 zL6 l λt13 S=>stW 9 t13 t82 S λk=>bF 0 t13 λt83=>ldW false 1 t83 k λt84=>aS .add t84 (str [32]) λt85=>bF 1 t13 λt86=>ldW false 1 t86 k λt87=>aS .add t85 t87 λt88=>bF 2 t13 λt89=>ldW false 1 t89 k λt90=>iL t90 λt91=>eK [t88,(i64 0)] k λe _ j hg=>aS .lss (e.getD 1 undef) t91 λt93=>bE t93 (fX none 3 t90 (e.getD 1 undef) λt94=>ldW true 3 t94 j λt95=>eD 40 zL1 j λt16 Q=>stW 3 t16 t95 Q λs=>bF 0 t16 λt97=>ldW false 1 t97 s λt98=>aS .add (str [32]) t98 λt99=>aS .add (e.getD 0 undef) t99 λt100=>aS .add (e.getD 1 undef) (i64 1) λt101=>hg [t100,t101] s) (bF 7 t13 λt102=>ldW false 1 t102 j λt103=>iL t103 λt104=>eK [(e.getD 0 undef),(i64 0)] j λc _ d hf=>aS .lss (c.getD 1 undef) t104 λt106=>bE t106 (fX none 1 t103 (c.getD 1 undef) λt107=>ldW false 1 t107 d λt108=>aS .add (str [32,111,110,32]) t108 λt111=>aS .add (c.getD 0 undef) t111 λt112=>aS .add (c.getD 1 undef) (i64 1) λt113=>hf [t112,t113] d) (dE (λC=>bF 5 t13 λt114=>ldW false 1 t114 d λt115=>bE t115 (aS .add (c.getD 0 undef) (str [32,115,119,97,112]) λt117=>C [t117] d) (C [(c.getD 0 undef)] d)) λz _ p=>dE (λB=>bF 6 t13 λt118=>ldW false 1 t118 p λt119=>bE t119 (aS .add (z.getD 0 undef) (str [32,112,114,101,118,101,110,116]) λt121=>B [t121] p) (B [(z.getD 0 undef)] p)) λhd _ P=>gP 9 1 [(str [])] [(0,1,(hd.getD 0 undef))] P λt124 O=>fV P0 (Builtin.append_ #[33,33] 33 #[(f.getD 0 undef),t124]) O λt125 N=>aS .add (f.getD 1 undef) (i64 1) λt126=>hh [t125,t126] N))) (bF 8 t5 λt127=>ldW false 1 t127 l λt128=>iL t128 λt129=>eK [(f.getD 0 undef),(i64 0)] l λa _ o he=>aS .lss (a.getD 1 undef) t129 λt131=>bE t131 (dE (λq=>fX none 4 t128 (a.getD 1 undef) λt132=>ldW true 4 t132 o λt133=>eD 73 [(str []),(i64 0),sN,(i64 0)] o λt20 M=>stW 4 t20 t133 M λb=>bF 0 t20 λt135=>ldW false 1 t135 b.drew λt136=>aS .add (str [99,97,108,108,32]) t136 λt137=>aS .add t137 (str [32]) λt138=>bF 1 t20 λt139=>ldW false 1 t139 b.drew λt140=>((ldW false 1 t139 b.drew λx=>x=t140)/\(ldW false 1 t135 b.drew λx=>x=t136)/\aL P0 22 [t140] b.drew λt141 r=>(ldW false 1 t135 r λx=>x=t136)/\aS .add t138 t141 λt142=>gP 9 1 [(str [])] [(0,1,t142)] r λt143 L=>fV P0 (Builtin.append_ #[33,33] 33 #[(a.getD 0 undef),t143]) L λt144 J=>q [t144] J)/\(aL P0 22 [t140] b.drew λt141 i=>(ldW false 1 t135 i λx=>x=t136)/\aS .add t138 t141 λt142=>((ldW false 1 t135 i λx=>x=t136)/\gP 9 1 [(str [])] [(0,1,t142)] i λt143 I=>fV P0 (Builtin.append_ #[33,33] 33 #[(a.getD 0 undef),t143]) I λt144 H=>q [t144] H)/\(gP 9 1 [(str [])] [(0,1,t142)] i λt143 G=>fV P0 (Builtin.append_ #[33,33] 33 #[(a.getD 0 undef),t143]) G λt144 F=>q [t144] F))) λhc _ E=>aS .add (a.getD 1 undef) (i64 1) λt145=>he [(hc.getD 0 undef),t145] E) (aS .add (A.getD 1 undef) (i64 1) λt146=>L2 [(a.getD 0 undef),t146] o)))))) (K (A.getD 0 undef) R)
def aET(h:W26 v0 w K):aL P0 26 [v0] w K:=
 tie _ 26 Tryz.f26 aDo _ w K 1 _ rfl mixed Tryz.func26 (by kernel_rfl) (by kernel_rfl) Tryz.call26 h
def aDg:fG:={js:=[],ds:=[]}
def W46(v0 c:Value)(w:World)(K:Q0):=fA v0 λt10=>bF 0 t10 λt11=>ldW false 1 t11 w λt12=>sF P0 (Instr.lookup 131 t12 c true) w λt14=>kH 0 t14 λt15=>kH 1 t14 λt16=>eD 130 [sN,sN,(i64 0)] w λt5 w1=>stW 3 t5 t15 w1 λw2=>aL P0 54 [c] w2 λt19 b=>unW .not t19 λt20=>bE t20 (K (i64 6) b) (unW .not t16 λt23=>bE t23 (K (i64 4) b) (aL P0 56 [v0] b λt25 a=>aS .neq t25 (i64 0) λt27=>bE t27 (K t25 a) (fA v0 λt30=>bF 0 t30 λt31=>ldW false 1 t31 a λt32=>fV P0 (Builtin.delete_ #[131,9] 0 #[t32,c]) a λ_ d=>K (i64 0) d)))
def aEL(h:W46 v0 v1 w K):aL P0 46 [v0,v1] w K:=
 tie _ 46 Tryz.f46 aDg _ w K 2 _ rfl mixed Tryz.func46 (by kernel_rfl) (by kernel_rfl) Tryz.call46 h
def aDf:fG:={js:=[],ds:=[]}
def W47(w:World)(K:Q0):=fV P0 (Instr.makeMap 131 none) w λt1 w1=>kE [(.map none),(i64 0),(i64 0),(.bool false)] [(0,1,t1),(2,1,(.int .i64 (-1)))] λb=>jZ 133 (.agg b.toArray) w1 λt3 a=>K t3 a
def aEK(h:W47 w K):aL P0 47 [] w K:=
 tie _ 47 Tryz.f47 aDf _ w K 0 _ rfl mixed Tryz.func47 (by kernel_rfl) (by kernel_rfl) Tryz.call47 h
def TJ:fG:={js:=[],ds:=[(5,⟨[0,1,2],[[],[],[1],[0],[0,1,2,3]]⟩)]}
def R50(v0 b:Value)(x:Value)(w:World)(K:World->Prop):Prop:=
 letI:HX:=noX
 eqQ P0 .neq 20 false true x .nilIface w λt5=>
 bE t5 (
 kE [sN] [] λc=>
 sF P0 (Instr.typeAssert x 20 29 false) w.drew λt8=>
 stW 1 v0 (.agg c.toArray) w.drew λw2=>
 (sF P0 (Instr.typeAssert x 20 29 false) w2 λx=>x=t8)/\
 stW 1 b t8 w2 λa=>
 K a) (
 K w)
def aE6(v0 a:Value)(x:Value)(w:World)(K:World->Prop):Zu P0 Tryz.f50 TJ [v0,a] x w K=R50 v0 a x w K:=by kernel_rfl
def aBz:Gi P0 Tryz.f50 TJ 2=true:=by kernel_rfl
def VU{x:Value}{u:FrameMode}{K:World->Prop}(a:Finds u x)(h:R50 v g x w K):AR P0 50 [v,g] u w K:=
 Hk (args:=[v,g]) mixed Tryz.func50 aBz a (by rw[aE6];exact h)
def aDc:fG:={js:=[(103,⟨[],[21],181⟩),(108008,⟨[194],[],188⟩),(96,⟨[180],[21],180⟩),(83,⟨[],[19],166⟩),(76,⟨[165],[19],165⟩),(62,⟨[],[],107⟩),(64007,⟨[124],[],119⟩),(49,⟨[106],[15,16,17,19,21],106⟩),(28,⟨[73],[13],73⟩),(16,⟨[],[],11⟩),(8,⟨[],[],9⟩)],ds:=[(115,⟨[0,1,2,3,4,5,6,7,8,9],[[],[0],[0,1],[0,1,2],[],[],[5],[5,6],[5,6,7],[0,1,2,3,4,5,6,7,8],[0,1,2,3,4,5,6,7,8,9]]⟩),(71,⟨[0,1,2,3,4,5,6,7,8,9,10,11],[[],[0],[0,1],[0,1,2],[],[4],[4,5],[4,5,6],[0,1,2,3,4,5,6,7],[0,1,2,3,4,5,6,7,8],[0,1,2,3,4,5,6,7,8,9],[0,1,2,3,4,5,6,7,8,9,10]]⟩),(20,⟨[0,1,2,3,4,5,6,7,8],[[],[],[1],[1,2],[1,2,3],[],[5],[5,6],[5,6,7],[0,1,2,3,4,5,6,7,8]]⟩),(7,⟨[0,1,2,3,4,5,6,7,9,10,11,12,13],[[],[0],[0,1],[0,1,2],[],[4],[4,5],[4,5,6],[0,1,2,3,4,5,6,7],[0,1,2,3,4,5,6,7,8],[0,1,2,3,4,5,6,7,8,9],[0,1,2,3,4,5,6,7,8,9],[0,1,2,3,4,5,6,7,8,9,10],[0,1,2,3,4,5,6,7,8,9,10,11,12]]⟩)]}
def W51(v0 O v2:Value)(w:World)(K:Q0):=aS .add O (str [109,97,105,110,46,104,99,108]) λt23=>kE [(str []),sN,sN,sN,sN,sN,sN,sN,sN,(str []),sN] [(9,1,t23)] λc1=>jZ 177 (.agg c1.toArray) w λt25 w2=>fA t25 λt28=>bF 0 t28 λt29=>bF 0 t29 λt30=>stW 1 t30 O w2 λG=>fA v0 λt33=>bF 0 t33 λt34=>ldW false 1 t34 G.drew λt35=>fA t25 λt37=>bF 9 t37 λt38=>ldW false 1 t38 G.drew λt39=>aL P0 93 [t35,t39] G.drew λt40 Z=>kH 0 t40 λt41=>kH 1 t40 λt42=>dE (λJ5=>unW .not t42 λt44=>bE t44 (aL P0 94 [t25,(i64 111),(i64 0)] Z λt46 w6=>J5 [] w6) (J5 [] Z)) λs5 _ Y=>sF P0 (convert 80 9 t41) Y λt49=>aL P0 12 [t49] Y λt50 w8=>kH 0 t50 λt51=>kH 1 t50 λt52=>eD 28 [sN,sN,sN] w8 λt10 w9=>stW 3 t10 t51 w9 λe=>dE (λv=>eqW .ptr true t52 (.pointer none) λt54=>bE t54 (fA t52 λt57=>bF 0 t57 λt58=>ldW false 1 t58 e.drew λt59=>fA t52 λt61=>bF 2 t61 λt62=>ldW false 1 t62 e.drew λt63=>aL P0 94 [t25,t59,t63] e.drew λt64 N=>v [] N) (v [] e)) λhh _ r=>ldW true 3 t10 r λt66=>fA t25 λt67=>bF 0 t67 λt68=>bF 1 t68 λt69=>stW 3 t69 t66 r λq=>bF 2 t10 λt70=>ldW false 1 t70 q λt71=>iL t71 λt72=>eK [(i64 0)] q λo _ b V=>aS .lss (o.getD 0 undef) t72 λt74=>bE t74 (fX none 1 t71 (o.getD 0 undef) λt75=>ldW false 1 t75 b λt76=>bF 1 t10 λt78=>ldW false 1 t78 b λt79=>fX none 5 t79 t76 λt81=>ldW true 5 t81 b λt82=>aL P0 95 [t25,t82] b λt83 M=>aS .add (o.getD 0 undef) (i64 1) λt84=>V [t84] M) (fA v0 λt86=>bF 1 t86 λt87=>ldW false 1 t87 b λt88=>iL t88 λt89=>fA v0 λt92=>bF 1 t92 λt93=>ldW false 1 t93 b λt94=>kE [(str []),sN,sN,sN,sN,sN,sN,sN,sN] [] λR=>gP 67 1 [(str []),sN,sN,sN,sN,sN,sN,sN,sN] [(0,9,(.agg R.toArray))] b λt96 L=>fV P0 (Builtin.append_ #[58,58] 58 #[t94,t96]) L λt97 J=>fA v0 λt98=>bF 1 t98 λt99=>stW 1 t99 t97 J λp=>fA t25 λt101=>bF 0 t101 λt102=>bF 8 t102 λt103=>ldW false 1 t103 p λt104=>iL t104 λt105=>eK [(i64 0)] p λf _ a U=>aS .lss (f.getD 0 undef) t105 λt107=>bE t107 (fA t25 λt110=>bF 0 t110 λt111=>bF 8 t111 λt112=>ldW false 1 t112 a λt113=>fX none 4 t113 (f.getD 0 undef) λt115=>dE (λu=>aS .eql v2 (i64 4) λt117=>GdW (isB t117 false) [undef] a (λX=>fA v0 λt120=>bF 1 t120 λt121=>ldW false 1 t121 a λt122=>iL t122 λt123=>aS .eql t123 (i64 16) λt124=>X [t124] a) λQ _ l=>fN t117 (.bool true) (Q.getD 0 undef) λt125=>bE t125 (fA t115 λt128=>bF 3 t128 λt129=>ldW false 1 t129 l λt130=>aL P0 94 [t25,(i64 111),t130] l λt131 I=>u [] I) (u [] l)) λhg _ k=>fA t25 λt136=>bF 10 t136 λt137=>ldW false 1 t137 k λt138=>fX none 1 t138 (f.getD 0 undef) λt140=>ldW false 1 t140 k λt141=>aS .add O t141 λt142=>aS .add t142 (str [47]) λt143=>aS .add v2 (i64 1) λt145=>aL P0 51 [v0,t143,t145] k λt146 H=>fA t115 λt147=>bF 1 t147 λt148=>stW 1 t148 t146 H λc=>fA v0 λt150=>bF 1 t150 λt151=>ldW false 1 t151 c.drew λt152=>fA t115 λt154=>bF 1 t154 λt155=>ldW false 1 t155 c.drew λt156=>fX none 9 t152 t156 λt157=>bF 4 t157 λt158=>ldW false 1 t158 c.drew λt159=>fA t115 λt161=>bF 2 t161 λt162=>ldW false 1 t162 c.drew λt163=>iL t163 λt164=>eK [(i64 0)] c.drew λn _ j T=>aS .lss (n.getD 0 undef) t164 λt166=>bE t166 (dE (λt=>fX none 3 t163 (n.getD 0 undef) λt167=>ldW true 3 t167 j λt168=>eD 40 zL1 j λt19 F=>stW 3 t19 t168 F λE=>aL P0 96 [t159,(.func (.func 97) #[] #[t19])] E λt171 i=>unW .not t171 λt172=>bE t172 (bF 2 t19 λt174=>ldW false 1 t174 i λt175=>aL P0 94 [t25,(i64 80),t175] i λt176 D=>t [] D) (t [] i)) λhf _ C=>aS .add (n.getD 0 undef) (i64 1) λt177=>T [t177] C) (iL t159 λt179=>eK [(i64 0)] j λm _ h S=>aS .lss (m.getD 0 undef) t179 λt181=>bE t181 (dE (λs=>fX none 3 t159 (m.getD 0 undef) λt182=>ldW true 3 t182 h λt183=>eD 69 zL1 h λt21 B=>stW 3 t21 t183 B λd=>bF 1 t21 λt184=>ldW false 1 t184 d λt185=>aS .lss t185 (i64 0) λt186=>GdW (isB t186 true) [undef] d (λW=>fA t115 λt189=>bF 2 t189 λt190=>ldW false 1 t190 d λt191=>aL P0 98 [t191,(.func (.func 99) #[] #[t21])] d λt193 A=>unW .not t193 λt194=>W [t194] A) λP _ g=>fN t186 (P.getD 0 undef) (.bool false) λt195=>bE t195 (fA t115 λt198=>bF 3 t198 λt199=>ldW false 1 t199 g λt200=>aL P0 94 [t25,(i64 110),t200] g λt201 z=>s [] z) (s [] g)) λhe _ y=>aS .add (m.getD 0 undef) (i64 1) λt202=>S [t202] y) (aS .add (f.getD 0 undef) (i64 1) λt203=>U [t203] h))) (fA v0 λt205=>bF 1 t205 λt206=>ldW false 1 t206 a.drew λt207=>fA t25 λt210=>bF 0 t210 λt211=>ldW true 9 t211 a.drew λt212=>fX none 9 t207 t89 λt213=>stW 9 t213 t212 a.drew λx=>K t89 x))
def aEH(h:W51 v0 v1 v2 w K):aL P0 51 [v0,v1,v2] w K:=
 tie _ 51 Tryz.f51 aDc _ w K 3 _ rfl mixed Tryz.func51 (by kernel_rfl) (by kernel_rfl) Tryz.call51 h
def aC9:fG:={js:=[(3005,⟨[14],[],12⟩),(3010,⟨[9],[],7⟩)],ds:=[]}
def W54(v0:Value)(w:World)(K:Q0):=kQ v0 λt4=>aS .geq t4 (i64 1) λt5=>GdW (isB t5 true) [undef] w (λe=>kQ v0 λt8=>aS .leq t8 (i64 64) λt9=>e [t9] w) λs1 _ w2=>fN t5 (s1.getD 0 undef) (.bool false) λt10=>GdW (isB t10 true) [undef] w2 (λd=>aL P0 101 [v0,(str [0,10,32])] w2 λt13 b=>unW .not t13 λt14=>d [t14] b) λc _ a=>fN t10 (c.getD 0 undef) (.bool false) λt15=>K t15 a
def aEE(h:W54 v0 w K):aL P0 54 [v0] w K:=
 tie _ 54 Tryz.f54 aC9 _ w K 1 _ rfl mixed Tryz.func54 (by kernel_rfl) (by kernel_rfl) Tryz.call54 h
def aC8:fG:={js:=[(5003,⟨[30],[],22⟩),(5009,⟨[29],[],24⟩),(5011,⟨[23],[],22⟩)],ds:=[]}
def W55(v0 e v2:Value)(w:World)(K:Q0):=fA v0 λt11=>bF 0 t11 λt12=>ldW false 1 t12 w λt13=>sF P0 (Instr.lookup 131 t13 e true) w λt15=>kH 0 t15 λt16=>kH 1 t15 λt17=>eD 130 [sN,sN,(i64 0)] w λt7 w1=>stW 3 t7 t16 w1 λw2=>iL v2 λt19=>aS .leq t19 (i64 65536) λt20=>GdW (isB t20 true) [undef] w2 (λj=>j [t17] w2) λc _ a=>GdW (isB (c.getD 0 undef) false) [undef] a (λi=>fA v0 λt25=>bF 0 t25 λt26=>ldW false 1 t26 a λt27=>sF P0 (Builtin.len_ #[131] 3 #[t27]) a λt28=>aS .lss t28 (i64 64) λt29=>i [t29] a) λg _ b=>GdW (isB t20 true) [undef] b (λh=>fN (c.getD 0 undef) (.bool true) (g.getD 0 undef) λt30=>h [t30] b) λf _ d=>fN t20 (f.getD 0 undef) (.bool false) λt31=>K t31 d
def aED(h:W55 v0 v1 v2 w K):aL P0 55 [v0,v1,v2] w K:=
 tie _ 55 Tryz.f55 aC8 _ w K 3 _ rfl mixed Tryz.func55 (by kernel_rfl) (by kernel_rfl) Tryz.call55 h
def aC7:fG:={js:=[(12,⟨[],[],1⟩),(4006,⟨[12],[],8⟩)],ds:=[]}
def W56(v0:Value)(w:World)(K:Q0):=fA v0 λt4=>bF 3 t4 λt5=>ldW false 1 t5 w λt6=>GdW (isB t6 false) [undef] w (λf=>fA v0 λt9=>bF 2 t9 λt10=>ldW false 1 t10 w λt11=>aS .eql t11 (i64 0) λt12=>f [t12] w) λs1 _ w2=>fN t6 (.bool true) (s1.getD 0 undef) λt13=>bE t13 (fA v0 λt15=>bF 3 t15 λt16=>stW 1 t16 (.bool true) w2 λe=>K (i64 5) e) (dE (λb=>fA v0 λt18=>bF 2 t18 λt19=>ldW false 1 t19 w2 λt20=>aS .gtr t20 (i64 0) λt21=>bE t21 (fA v0 λt23=>bF 2 t23 λt24=>ldW false 1 t24 w2 λt25=>aS .sub t25 (i64 1) λt26=>fA v0 λt27=>bF 2 t27 λt28=>stW 1 t28 t26 w2 λd=>b [] d) (b [] w2)) λg _ a=>fA v0 λt30=>bF 1 t30 λt31=>ldW false 1 t31 a λt32=>aS .add t32 (i64 1) λt33=>fA v0 λt34=>bF 1 t34 λt35=>stW 1 t35 t33 a λc=>K (i64 0) c)
def aEC(h:W56 v0 w K):aL P0 56 [v0] w K:=
 tie _ 56 Tryz.f56 aC7 _ w K 1 _ rfl mixed Tryz.func56 (by kernel_rfl) (by kernel_rfl) Tryz.call56 h
def aCN:fG:={js:=[],ds:=[]}
def W93(v0 b:Value)(w:World)(K:Q0):=fA v0 λt10=>bF 0 t10 λt11=>ldW false 1 t11 w λt12=>sF P0 (Instr.lookup 131 t12 b true) w λt14=>kH 0 t14 λt15=>kH 1 t14 λt16=>eD 130 [sN,sN,(i64 0)] w λt6 w1=>stW 3 t6 t15 w1 λw2=>bF 0 t6 λt17=>ldW false 1 t17 w2 λt18=>aL P0 57 [t18] w2 λt19 a=>K (.tuple #[t19,t16]) a
def aEi(h:W93 v0 v1 w K):aL P0 93 [v0,v1] w K:=
 tie _ 93 Tryz.f93 aCN _ w K 2 _ rfl mixed Tryz.func93 (by kernel_rfl) (by kernel_rfl) Tryz.call93 h
def aCM:fG:={js:=[],ds:=[]}
def W94(v0 a v2:Value)(w:World)(K:Q0):=fA v0 λt8=>bF 9 t8 λt9=>ldW false 1 t9 w λt10=>kE [(i64 0),(str []),(i64 0)] [(0,1,a),(1,1,t10),(2,1,v2)] λb=>jZ 48 (.agg b.toArray) w λt13 w2=>QV (.iface 29 t13) w2
def VQ(h:W94 v0 v1 v2 w K):aL P0 94 [v0,v1,v2] w K:=
 tie _ 94 Tryz.f94 aCM _ w K 3 _ rfl mixed Tryz.func94 (by kernel_rfl) (by kernel_rfl) Tryz.call94 h
def aCL:fG:={js:=[(2,⟨[],[],4⟩)],ds:=[(4,⟨[0,1,3,4,5,6,7,8,9,11,12,13,14,15,16,18,19,20,21,23,24],[[],[0],[0,1],[],[3],[3,4],[0,1,2,3,4,5],[0,1,2,3,4,5,6],[0,1,2,3,4,5,6,7],[0,1,2,3,4,5,6,7,8],[0,1,2,3,4,5,6,7,8,9],[0,1,2,3,4,5,6,7,8,9,10],[0,1,2,3,4,5,6,7,8,9,10,11],[0,1,2,3,4,5,6,7,8,9,10,11,12],[0,1,2,3,4,5,6,7,8,9,10,11,12,13],[0,1,2,3,4,5,6,7,8,9,10,11,12,13,14],[0,1,2,3,4,5,6,7,8,9,10,11,12,13,14,15],[0,1,2,3,4,5,6,7,8,9,10,11,12,13,14,15,16],[0,1,2,3,4,5,6,7,8,9,10,11,12,13,14,15,16],[0,1,2,3,4,5,6,7,8,9,10,11,12,13,14,15,16,18],[0,1,2,3,4,5,6,7,8,9,10,11,12,13,14,15,16,18,19],[0,1,2,3,4,5,6,7,8,9,10,11,12,13,14,15,16,18,19,20],[0,1,2,3,4,5,6,7,8,9,10,11,12,13,14,15,16,17,18,19,20,21],[0,1,2,3,4,5,6,7,8,9,10,11,12,13,14,15,16,17,18,19,20,21,22],[0,1,2,3,4,5,6,7,8,9,10,11,12,13,14,15,16,17,18,19,20,21,22,23]]⟩)]}
def W95(v0 v:Value)(w:World)(K:Q0):=jZ 38 v w λt3 w1=>dE (λu=>bF 0 t3 λt4=>ldW false 1 t4 w1.drew λt5=>bF 1 t3 λt7=>ldW false 1 t7 w1.drew λt8=>iL t8 λt9=>aL P0 133 [t5] w1.drew λt6 e=>(ldW false 1 t7 e λx=>x=t8)/\aS .neq t6 t9 λt10=>GqW (isB t10 false) (λC=>bF 1 t3 C) λt12=>GqW (isB t10 false) (λB=>ldW false 1 t12 e B) λt13=>GeW (isB t10 false) e (λA=>aL P0 134 [t13,(.func (.func 135) #[] #[])] e A) λt14 d=>fN t10 (.bool true) t14 λt15=>GqW (isB t15 false) (λz=>bF 0 t3 z) λt17=>GqW (isB t15 false) (λy=>ldW false 1 t17 d y) λt18=>GqW (isB t15 false) (λt=>aS .eql t18 (str [114,101,115,111,117,114,99,101]) t) λt19=>GqW (isB t15 false) (λs=>s t19) λt20=>GqW (isB t20 true) (λr=>bF 1 t3 r) λt22=>GqW (isB t20 true) (λq=>ldW false 1 t22 d q) λt23=>GqW (isB t20 true) (λp=>fX none 1 t23 (i64 0) p) λt24=>GqW (isB t20 true) (λo=>ldW false 1 t24 d o) λt25=>GeW (isB t20 true) d (λn=>aL P0 137 [] d n) λt21 b=>((isB t20 true)=true->ldW false 1 t24 b λx=>x=t25)/\((isB t20 true)=true->ldW false 1 t22 b λx=>x=t23)/\GeW (isB t20 true) b (λm=>aL P0 117 [t21,t25] b m) λt26 c=>GqW (isB t15 false) (λl=>fN t20 t26 (.bool false) l) λt27=>fN t15 (.bool true) t27 λt28=>bE t28 (bF 4 t3 λt30=>ldW false 1 t30 c λt31=>aL P0 94 [v0,(i64 110),t31] c λt32 k=>u [] k) (u [] c)) λD _ a=>bF 0 t3 λt33=>ldW false 1 t33 a λt34=>aS .eql t34 (str [118,97,114,105,97,98,108,101]) λt36=>bE t36 (ldW true 5 t3 a λt38=>aL P0 138 [v0,t38] a λt39 j=>K (.tuple #[]) j) (aS .eql t34 (str [108,111,99,97,108,115]) λt41=>bE t41 (ldW true 5 t3 a λt43=>aL P0 139 [v0,t43] a λt44 i=>K (.tuple #[]) i) (aS .eql t34 (str [111,117,116,112,117,116]) λt46=>bE t46 (ldW true 5 t3 a λt48=>aL P0 140 [v0,t48] a λt49 h=>K (.tuple #[]) h) (aS .eql t34 (str [114,101,115,111,117,114,99,101]) λt51=>bE t51 (ldW true 5 t3 a λt53=>aL P0 141 [v0,t53] a λt54 g=>K (.tuple #[]) g) (aS .eql t34 (str [109,111,100,117,108,101]) λt56=>bE t56 (ldW true 5 t3 a λt58=>aL P0 142 [v0,t58] a λt59 f=>K (.tuple #[]) f) (K (.tuple #[]) a)))))
def aEh(h:W95 v0 v1 w K):aL P0 95 [v0,v1] w K:=
 tie _ 95 Tryz.f95 aCL _ w K 2 _ rfl mixed Tryz.func95 (by kernel_rfl) (by kernel_rfl) Tryz.call95 h
def aCJ:fG:={js:=[],ds:=[]}
def W97(v0 a:Value)(w:World)(K:Q0):=jZ 69 v0 w λt2 w1=>bF 0 t2 λt4=>ldW false 1 t4 w1 λt5=>bF 0 a λt6=>ldW false 1 t6 w1 λt7=>aS .eql t5 t7 λt8=>K t8 w1
def aEf(h:W97 v0 v1 w K):aL P0 97 [v0,v1] w K:=
 tie _ 97 Tryz.f97 aCJ _ w K 2 _ rfl mixed Tryz.func97 (by kernel_rfl) (by kernel_rfl) Tryz.call97 h
def aCH:fG:={js:=[],ds:=[]}
def W99(v0 a:Value)(w:World)(K:Q0):=jZ 40 v0 w λt2 w1=>bF 0 t2 λt4=>ldW false 1 t4 w1 λt5=>bF 0 a λt6=>ldW false 1 t6 w1 λt7=>aS .eql t5 t7 λt8=>K t8 w1
def aEd(h:W99 v0 v1 w K):aL P0 99 [v0,v1] w K:=
 tie _ 99 Tryz.f99 aCH _ w K 2 _ rfl mixed Tryz.func99 (by kernel_rfl) (by kernel_rfl) Tryz.call99 h
def Yn:fG:={js:=[(12,⟨[6],[],4⟩)],ds:=[]}
def aGU(v0:Value)(w:World)(K:Q0):=aS .eql v0 (str [108,111,99,97,108,115]) λt5=>bE t5 (K (i64 0) w) (dE (λa=>aS .eql v0 (str [118,97,114,105,97,98,108,101]) λt7=>bE t7 (a [t7] w) (aS .eql v0 (str [111,117,116,112,117,116]) λt8=>bE t8 (a [t8] w) (aS .eql v0 (str [109,111,100,117,108,101]) λt9=>a [t9] w))) λs1 _ w2=>bE (s1.getD 0 undef) (K (i64 1) w2) (aS .eql v0 (str [114,101,115,111,117,114,99,101]) λt11=>bE t11 (K (i64 2) w2) (K (.int .i64 (-1)) w2)))
def aBg(h:aGU v0 w K):aL P0 133 [v0] w K:=
 tie _ 133 Tryz.f133 Yn _ w K 1 _ rfl mixed Tryz.func133 (by kernel_rfl) (by kernel_rfl) Tryz.call133 h
def Yl:fG:={js:=[],ds:=[]}
def aGS(v0:Value)(w:World)(K:Q0):=aL P0 136 [v0] w λt4 w1=>unW .not t4 λt5=>K t5 w1
def aBe(h:aGS v0 w K):aL P0 135 [v0] w K:=
 tie _ 135 Tryz.f135 Yl _ w K 1 _ rfl mixed Tryz.func135 (by kernel_rfl) (by kernel_rfl) Tryz.call135 h
def Yk:fG:={js:=[(30005,⟨[57],[],55⟩),(22002,⟨[48],[],35⟩),(22003,⟨[47],[],38⟩),(22004,⟨[46],[],41⟩),(22006,⟨[45],[],44⟩),(22009,⟨[43],[],41⟩),(22012,⟨[40],[],38⟩),(22015,⟨[37],[],35⟩),(20004,⟨[30],[],29⟩),(20007,⟨[26],[],21⟩),(20009,⟨[25],[],24⟩),(20012,⟨[23],[],21⟩),(20016,⟨[18],[],17⟩),(6,⟨[8],[2,3,4,5],8⟩)],ds:=[]}
def aGR(v0:Value)(w:World)(K:Q0):=kQ v0 λt7=>eK [(i64 0)] w λs1 _ w2 L=>aS .lss (s1.getD 0 undef) t7 λt9=>bE t9 (qM v0 (s1.getD 0 undef) λt13=>aS .geq t13 (.int .u8 97) λt15=>GdW (isB t15 true) [undef] w2 (λP=>aS .leq t13 (.int .u8 122) λt18=>P [t18] w2) λJ _ F=>fN t15 (J.getD 0 undef) (.bool false) λt19=>GdW (isB t19 false) [undef] F (λO=>aS .geq t13 (.int .u8 65) λt22=>O [t22] F) λG _ E=>GdW (isB (G.getD 0 undef) true) [undef] E (λN=>aS .leq t13 (.int .u8 90) λt25=>N [t25] E) λI _ D=>GdW (isB t19 false) [undef] D (λM=>fN (G.getD 0 undef) (I.getD 0 undef) (.bool false) λt26=>M [t26] D) λH _ k=>fN t19 (.bool true) (H.getD 0 undef) λt27=>GdW (isB t27 false) [undef] k (λC=>aS .eql t13 (.int .u8 95) λt30=>C [t30] k) λs _ j=>fN t27 (.bool true) (s.getD 0 undef) λt31=>unW .not t31 λt33=>GdW (isB t33 true) [undef] j (λB=>aS .eql (s1.getD 0 undef) (i64 0) λt36=>B [t36] j) λb _ i=>GdW (isB (b.getD 0 undef) false) [undef] i (λA=>aS .neq t13 (.int .u8 45) λt39=>A [t39] i) λa _ h=>GdW (isB (a.getD 0 undef) true) [undef] h (λz=>aS .lss t13 (.int .u8 48) λt42=>z [t42] h) λl _ g=>GdW (isB (l.getD 0 undef) false) [undef] g (λy=>aS .gtr t13 (.int .u8 57) λt45=>y [t45] g) λr _ f=>GdW (isB (a.getD 0 undef) true) [undef] f (λx=>fN (l.getD 0 undef) (.bool true) (r.getD 0 undef) λt46=>x [t46] f) λq _ e=>GdW (isB (b.getD 0 undef) false) [undef] e (λv=>fN (a.getD 0 undef) (q.getD 0 undef) (.bool false) λt47=>v [t47] e) λp _ d=>GdW (isB t33 true) [undef] d (λu=>fN (b.getD 0 undef) (.bool true) (p.getD 0 undef) λt48=>u [t48] d) λo _ c=>fN t33 (o.getD 0 undef) (.bool false) λt49=>bE t49 (K (.bool false) c) (aS .add (s1.getD 0 undef) (i64 1) λt50=>L [t50] c)) (kQ v0 λt52=>aS .geq t52 (i64 1) λt53=>GdW (isB t53 true) [undef] w2 (λt=>kQ v0 λt56=>aS .leq t56 (i64 32) λt57=>t [t57] w2) λn _ m=>fN t53 (n.getD 0 undef) (.bool false) λt58=>K t58 m)
def aBd(h:aGR v0 w K):aL P0 136 [v0] w K:=
 tie _ 136 Tryz.f136 Yk _ w K 1 _ rfl mixed Tryz.func136 (by kernel_rfl) (by kernel_rfl) Tryz.call136 h
def Yj:fG:={js:=[],ds:=[]}
def aGQ(w:World)(K:Q0):=gP 9 6 [(str []),(str []),(str []),(str []),(str []),(str [])] [(0,1,(str [118,97,114])),(1,1,(str [108,111,99,97,108])),(2,1,(str [109,111,100,117,108,101])),(3,1,(str [111,117,116,112,117,116])),(4,1,(str [101,97,99,104])),(5,1,(str [99,111,117,110,116]))] w λt1 w1=>K t1 w1
def aBc(h:aGQ w K):aL P0 137 [] w K:=
 tie _ 137 Tryz.f137 Yj _ w K 0 _ rfl mixed Tryz.func137 (by kernel_rfl) (by kernel_rfl) Tryz.call137 h
def Yi:fG:={js:=[(8,⟨[],[],5⟩)],ds:=[(14,⟨[0,1,2,3,4,5,6,9,10,11],[[],[],[1],[1,2],[1,2,3],[1,2,3,4],[],[6],[1,2,3,4,5,6,7],[0,1,2,3,4,5,6,7,8],[0,1,2,3,4,5,6,7,8,9],[0,1,2,3,4,5,6,7,8,9,10],[0,1,2,3,4,5,6,7,8,9,10,11]]⟩),(3,⟨[0,1,2,3,4,5,6],[[],[0],[0,1],[0,1,2],[],[4],[0,1,2,3,4,5],[],[0,1,2,3,4,5,6,7]]⟩)]}
def aGP(v0 l:Value)(w:World)(K:Q0):=jZ 38 l w λt3 w1=>bF 1 t3 λt5=>ldW false 1 t5 w1.drew λt6=>fX none 1 t6 (i64 0) λt7=>ldW false 1 t7 w1.drew λt8=>bF 4 t3 λt9=>ldW false 1 t9 w1.drew λt10=>kE [(str []),(i64 0),(i64 0)] [(0,1,t8),(1,1,(.int .i64 (-1))),(2,1,t10)] λm=>eD 69 zL1 w1.drew λt4 c=>(ldW false 1 t9 c λx=>x=t10)/\(ldW false 1 t7 c λx=>x=t8)/\(ldW false 1 t5 c λx=>x=t6)/\stW 3 t4 (.agg m.toArray) c λi=>bF 2 t3 λt13=>ldW false 1 t13 i λt14=>aL P0 172 [v0,t14,(.func (.func 173) #[] #[t4])] i λt16 h=>ldW true 5 t3 h λt18=>aL P0 174 [v0,t18] h λt19 g=>dE (λj=>fA v0 λt21=>bF 0 t21 λt22=>bF 4 t22 λt23=>ldW false 1 t23 g λt24=>aL P0 96 [t24,(.func (.func 175) #[] #[t4])] g λt26 d=>bE t26 (bF 4 t3 λt28=>ldW false 1 t28 d λt29=>aL P0 94 [v0,(i64 2),t29] d λt30 k=>j [] k) (j [] d)) λn _ a=>fA v0 λt33=>bF 0 t33 λt34=>bF 4 t34 λt35=>ldW false 1 t35 a.drew λt36=>ldW true 3 t4 a.drew λt37=>gP 69 1 [(str []),(i64 0),(i64 0)] [(0,3,t37)] a.drew λt38 b=>(ldW false 1 t35 b λx=>x=t36)/\fV P0 (Builtin.append_ #[63,63] 63 #[t36,t38]) b λt39 f=>fA v0 λt40=>bF 0 t40 λt41=>bF 4 t41 λt42=>stW 1 t42 t39 f λe=>K (.tuple #[]) e
def aBb(h:aGP v0 v1 w K):aL P0 138 [v0,v1] w K:=
 tie _ 138 Tryz.f138 Yi _ w K 2 _ rfl mixed Tryz.func138 (by kernel_rfl) (by kernel_rfl) Tryz.call138 h
def Yh:fG:={js:=[],ds:=[]}
def aGO(v0 c:Value)(w:World)(K:Q0):=jZ 175 v0 w λt2 w1=>jZ 38 c w1 λt3 w2=>ldW false 1 t2 w2 λt4=>bF 2 t3 λt5=>ldW false 1 t5 w2 λt6=>aL P0 172 [t4,t6,(.func (.func 176) #[] #[t2])] w2 λt8 a=>ldW false 1 t2 a λt9=>ldW true 5 t3 a λt10=>aL P0 174 [t9,t10] a λt11 b=>K (.tuple #[]) b
def aBa(h:aGO v0 v1 w K):aL P0 139 [v0,v1] w K:=
 tie _ 139 Tryz.f139 Yh _ w K 2 _ rfl mixed Tryz.func139 (by kernel_rfl) (by kernel_rfl) Tryz.call139 h
def Yg:fG:={js:=[(14,⟨[],[],5⟩),(8,⟨[],[],5⟩)],ds:=[(20,⟨[0,1,2,3,4,5,6,9,10,11],[[],[],[1],[1,2],[1,2,3],[1,2,3,4],[],[6],[1,2,3,4,5,6,7],[0,1,2,3,4,5,6,7,8],[0,1,2,3,4,5,6,7,8,9],[0,1,2,3,4,5,6,7,8,9,10],[0,1,2,3,4,5,6,7,8,9,10,11]]⟩),(3,⟨[0,1,2,3,4,5,6],[[],[0],[0,1],[0,1,2],[],[4],[0,1,2,3,4,5],[],[0,1,2,3,4,5,6,7]]⟩)]}
def aGN(v0 o:Value)(w:World)(K:Q0):=jZ 38 o w λt3 w1=>bF 1 t3 λt5=>ldW false 1 t5 w1.drew λt6=>fX none 1 t6 (i64 0) λt7=>ldW false 1 t7 w1.drew λt8=>bF 4 t3 λt9=>ldW false 1 t9 w1.drew λt10=>kE [(str []),(i64 0),(i64 0)] [(0,1,t8),(1,1,(.int .i64 (-1))),(2,1,t10)] λq=>eD 40 zL1 w1.drew λt4 f=>(ldW false 1 t9 f λx=>x=t10)/\(ldW false 1 t7 f λx=>x=t8)/\(ldW false 1 t5 f λx=>x=t6)/\stW 3 t4 (.agg q.toArray) f λl=>bF 2 t3 λt13=>ldW false 1 t13 l λt14=>aL P0 172 [v0,t14,(.func (.func 178) #[] #[t4])] l λt16 k=>ldW true 5 t3 k λt18=>aL P0 174 [v0,t18] k λt19 e=>dE (λm=>bF 1 t4 λt20=>ldW false 1 t20 e λt21=>aS .lss t21 (i64 0) λt22=>bE t22 (bF 4 t3 λt24=>ldW false 1 t24 e λt25=>aL P0 94 [v0,(i64 110),t25] e λt26 n=>m [] n) (m [] e)) λr _ j=>dE (λd=>fA v0 λt28=>bF 0 t28 λt29=>bF 6 t29 λt30=>ldW false 1 t30 j λt31=>aL P0 98 [t31,(.func (.func 179) #[] #[t4])] j λt33 b=>bE t33 (bF 4 t3 λt35=>ldW false 1 t35 b λt36=>aL P0 94 [v0,(i64 2),t36] b λt37 i=>d [] i) (d [] b)) λp _ a=>fA v0 λt40=>bF 0 t40 λt41=>bF 6 t41 λt42=>ldW false 1 t42 a.drew λt43=>ldW true 3 t4 a.drew λt44=>gP 40 1 [(str []),(i64 0),(i64 0)] [(0,3,t44)] a.drew λt45 c=>(ldW false 1 t42 c λx=>x=t43)/\fV P0 (Builtin.append_ #[36,36] 36 #[t43,t45]) c λt46 h=>fA v0 λt47=>bF 0 t47 λt48=>bF 6 t48 λt49=>stW 1 t49 t46 h λg=>K (.tuple #[]) g
def aA9(h:aGN v0 v1 w K):aL P0 140 [v0,v1] w K:=
 tie _ 140 Tryz.f140 Yg _ w K 2 _ rfl mixed Tryz.func140 (by kernel_rfl) (by kernel_rfl) Tryz.call140 h
def Yf:fG:={js:=[(39,⟨[],[],5⟩),(29,⟨[],[],28⟩),(31005,⟨[59],[],56⟩),(23,⟨[],[],28⟩),(25004,⟨[46],[],44⟩),(10,⟨[27],[5,6,7],27⟩)],ds:=[(45,⟨[0,1,2,3,4,5,6,9,10,11],[[],[],[1],[1,2],[1,2,3],[1,2,3,4],[],[6],[1,2,3,4,5,6,7],[0,1,2,3,4,5,6,7,8],[0,1,2,3,4,5,6,7,8,9],[0,1,2,3,4,5,6,7,8,9,10],[0,1,2,3,4,5,6,7,8,9,10,11]]⟩),(3,⟨[0,1,2,3,4,5,6,7,8,9,10],[[],[0],[0,1],[0,1,2],[],[4],[4,5],[4,5,6],[],[8],[0,1,2,3,4,5,6,7,8,9],[],[0,1,2,3,4,5,6,7,8,9,10,11]]⟩)]}
def aGM(v0 E:Value)(w:World)(K:Q0):=jZ 175 v0 w λt2 w1=>jZ 38 E w1 λt3 w2=>bF 1 t3 λt8=>ldW false 1 t8 w2.drew λt9=>fX none 1 t9 (i64 0) λt10=>ldW false 1 t10 w2.drew λt11=>bF 1 t3 λt12=>ldW false 1 t12 w2.drew λt13=>fX none 1 t13 (i64 1) λt14=>ldW false 1 t14 w2.drew λt15=>bF 4 t3 λt16=>ldW false 1 t16 w2.drew λt17=>kE [(str []),(str []),sN,(i64 0),(i64 0),(.bool false),(.bool false),sN,(i64 0)] [(0,1,t11),(1,1,t15),(3,1,(.int .i64 (-1))),(4,1,(.int .i64 (-1))),(8,1,t17)] λc3=>eD 71 zL6 w2.drew λt4 k=>(ldW false 1 t16 k λx=>x=t17)/\(ldW false 1 t14 k λx=>x=t15)/\(ldW false 1 t12 k λx=>x=t13)/\(ldW false 1 t10 k λx=>x=t11)/\(ldW false 1 t8 k λx=>x=t9)/\stW 9 t4 (.agg c3.toArray) k λq=>ldW false 1 t2 q λt19=>bF 2 t3 λt20=>ldW false 1 t20 q λt21=>aL P0 172 [t19,t21,(.func (.func 180) #[] #[t4,t2])] q λt23 C=>bF 3 t3 λt24=>ldW false 1 t24 C λt25=>iL t25 λt26=>eK [(i64 0)] C λp _ g I=>aS .lss (p.getD 0 undef) t26 λt28=>bE t28 (fX none 1 t25 (p.getD 0 undef) λt30=>ldW false 1 t30 g λt31=>ldW false 1 t2 g λt32=>fA t32 λt33=>bF 0 t33 λt34=>bF 1 t34 λt35=>bF 1 t35 λt36=>ldW false 1 t36 g λt37=>fX none 5 t37 t31 λt39=>ldW true 5 t39 g λt40=>eD 38 zL5 g λt7 D=>stW 5 t7 t40 D λj=>dE (λo=>aS .gtr (p.getD 0 undef) (i64 0) λt42=>GdW (isB t42 true) [undef] j (λB=>bF 0 t7 λt44=>ldW false 1 t44 j λt45=>aS .eql t45 (str [108,105,102,101,99,121,99,108,101]) λt46=>B [t46] j) λz _ f=>fN t42 (z.getD 0 undef) (.bool false) λt47=>bE t47 (ldW false 1 t2 f λt48=>bF 4 t7 λt49=>ldW false 1 t49 f λt50=>aL P0 94 [t48,(i64 2),t50] f λt51 v=>o [] v) (o [] f)) λH _ e=>dE (λn=>bF 0 t7 λt52=>ldW false 1 t52 e λt53=>aS .neq t53 (str [108,105,102,101,99,121,99,108,101]) λt54=>GdW (isB t54 false) [undef] e (λA=>bF 1 t7 λt56=>ldW false 1 t56 e λt57=>iL t57 λt58=>aS .gtr t58 (i64 0) λt59=>A [t59] e) λy _ d=>fN t54 (.bool true) (y.getD 0 undef) λt60=>bE t60 (ldW false 1 t2 d λt61=>bF 4 t7 λt62=>ldW false 1 t62 d λt63=>aL P0 94 [t61,(i64 110),t63] d λt64 u=>n [] u) (n [] d)) λG _ i=>ldW false 1 t2 i λt65=>bF 2 t7 λt66=>ldW false 1 t66 i λt67=>aL P0 172 [t65,t67,(.func (.func 183) #[] #[t4])] i λt69 h=>ldW false 1 t2 h λt70=>ldW true 5 t7 h λt71=>aL P0 174 [t70,t71] h λt72 t=>aS .add (p.getD 0 undef) (i64 1) λt73=>I [t73] t) (dE (λm=>ldW false 1 t2 g λt74=>fA t74 λt75=>bF 0 t75 λt76=>bF 7 t76 λt77=>ldW false 1 t77 g λt78=>aL P0 184 [t78,(.func (.func 185) #[] #[t4])] g λt80 c=>bE t80 (ldW false 1 t2 c λt81=>bF 4 t3 λt82=>ldW false 1 t82 c λt83=>aL P0 94 [t81,(i64 2),t83] c λt84 s=>m [] s) (m [] c)) λF _ a=>ldW false 1 t2 a.drew λt85=>ldW false 1 t2 a.drew λt86=>fA t86 λt87=>bF 0 t87 λt88=>bF 7 t88 λt89=>ldW false 1 t89 a.drew λt90=>ldW true 9 t4 a.drew λt91=>gP 71 1 [(str []),(str []),sN,(i64 0),(i64 0),(.bool false),(.bool false),sN,(i64 0)] [(0,9,t91)] a.drew λt92 b=>(ldW false 1 t89 b λx=>x=t90)/\(ldW false 1 t2 b λx=>x=t86)/\(ldW false 1 t2 b λx=>x=t85)/\fV P0 (Builtin.append_ #[64,64] 64 #[t90,t92]) b λt93 l=>(ldW false 1 t2 l λx=>x=t85)/\fA t85 λt94=>bF 0 t94 λt95=>bF 7 t95 λt96=>stW 1 t96 t93 l λr=>K (.tuple #[]) r)
def aA8(h:aGM v0 v1 w K):aL P0 141 [v0,v1] w K:=
 tie _ 141 Tryz.f141 Yf _ w K 2 _ rfl mixed Tryz.func141 (by kernel_rfl) (by kernel_rfl) Tryz.call141 h
def Ye:fG:={js:=[(16,⟨[],[],6⟩),(10,⟨[],[],6⟩)],ds:=[(22,⟨[0,1,2,3,4,5,6,7,10,11,12,13,14,17,18,19,21,22],[[],[],[],[2],[2,3],[2,3,4],[2,3,4,5],[],[7],[2,3,4,5,6,7,8],[],[10],[10,11],[10,11,12],[],[14],[2,3,4,5,6,7,8,9,10,11,12,13,14,15],[0,2,3,4,5,6,7,8,9,10,11,12,13,14,15,16],[0,2,3,4,5,6,7,8,9,10,11,12,13,14,15,16,17],[0,2,3,4,5,6,7,8,9,10,11,12,13,14,15,16,17,18],[0,2,3,4,5,6,7,8,9,10,11,12,13,14,15,16,17,18,19],[0,1,2,3,4,5,6,7,8,9,10,11,12,13,14,15,16,17,18,19,20],[0,1,2,3,4,5,6,7,8,9,10,11,12,13,14,15,16,17,18,19,20,21],[0,1,2,3,4,5,6,7,8,9,10,11,12,13,14,15,16,17,18,19,20,21,22]]⟩),(3,⟨[0,1,2,3,4,5,6],[[],[0],[0,1],[0,1,2],[],[4],[0,1,2,3,4,5],[],[0,1,2,3,4,5,6,7]]⟩)]}
def aGL(v0 G:Value)(w:World)(K:Q0):=jZ 38 G w λt3 w1=>bF 1 t3 λt6=>ldW false 1 t6 w1.drew λt7=>fX none 1 t7 (i64 0) λt8=>ldW false 1 t8 w1.drew λt9=>bF 4 t3 λt10=>ldW false 1 t10 w1.drew λt11=>kE [(str []),(i64 0),sN,(i64 0)] [(0,1,t9),(3,1,t11)] λI=>eD 73 [(str []),(i64 0),sN,(i64 0)] w1.drew λt4 n=>(ldW false 1 t10 n λx=>x=t11)/\(ldW false 1 t8 n λx=>x=t9)/\(ldW false 1 t6 n λx=>x=t7)/\stW 4 t4 (.agg I.toArray) n λF=>eD 9 [(str [])] F λt5 E=>stW 1 t5 (str []) E λC=>bF 2 t3 λt14=>ldW false 1 t14 C λt15=>aL P0 172 [v0,t15,(.func (.func 186) #[] #[t4,t5])] C λt17 B=>ldW true 5 t3 B λt19=>aL P0 174 [v0,t19] B λt20 m=>dE (λD=>ldW false 1 t5 m λt21=>aS .eql t21 (str []) λt22=>bE t22 (bF 4 t3 λt24=>ldW false 1 t24 m λt25=>aL P0 94 [v0,(i64 110),t25] m λt26 A=>D [] A) (D [] m)) λJ _ k=>dE (λl=>fA v0 λt28=>bF 0 t28 λt29=>bF 8 t29 λt30=>ldW false 1 t30 k λt31=>aL P0 187 [t31,(.func (.func 188) #[] #[t4])] k λt33 g=>bE t33 (bF 4 t3 λt35=>ldW false 1 t35 g λt36=>aL P0 94 [v0,(i64 2),t36] g λt37 z=>l [] z) (l [] g)) λH _ a=>fA v0 λt41=>bF 0 t41 λt42=>bF 8 t42 λt43=>ldW false 1 t43 a.drew λt44=>ldW true 4 t4 a.drew λt45=>fA v0 λt49=>bF 10 t49 λt50=>ldW false 1 t50 a.drew λt51=>ldW false 1 t5 a.drew λt52=>(gP 73 1 [(str []),(i64 0),sN,(i64 0)] [(0,4,t45)] a.drew λt46 b=>(ldW false 1 t5 b λx=>x=t52)/\(ldW false 1 t50 b λx=>x=t51)/\(ldW false 1 t43 b λx=>x=t44)/\(fV P0 (Builtin.append_ #[65,65] 65 #[t44,t46]) b λt47 f=>(ldW false 1 t5 f λx=>x=t52)/\(ldW false 1 t50 f λx=>x=t51)/\gP 9 1 [(str [])] [(0,1,t52)] f λt53 j=>(ldW false 1 t50 j λx=>x=t51)/\fV P0 (Builtin.append_ #[33,33] 33 #[t51,t53]) j λt54 y=>fA v0 λt55=>bF 0 t55 λt56=>bF 8 t56 λt57=>stW 1 t57 t47 y λv=>fA v0 λt58=>bF 10 t58 λt59=>stW 1 t59 t54 v λu=>K (.tuple #[]) u)/\(gP 9 1 [(str [])] [(0,1,t52)] b λt53 e=>(ldW false 1 t50 e λx=>x=t51)/\(ldW false 1 t43 e λx=>x=t44)/\fV P0 (Builtin.append_ #[65,65] 65 #[t44,t46]) e λt47 i=>(ldW false 1 t50 i λx=>x=t51)/\fV P0 (Builtin.append_ #[33,33] 33 #[t51,t53]) i λt54 t=>fA v0 λt55=>bF 0 t55 λt56=>bF 8 t56 λt57=>stW 1 t57 t47 t λs=>fA v0 λt58=>bF 10 t58 λt59=>stW 1 t59 t54 s λr=>K (.tuple #[]) r))/\(gP 9 1 [(str [])] [(0,1,t52)] a.drew λt53 c=>(ldW false 1 t50 c λx=>x=t51)/\(ldW true 4 t4 c λx=>x=t45)/\(ldW false 1 t43 c λx=>x=t44)/\gP 73 1 [(str []),(i64 0),sN,(i64 0)] [(0,4,t45)] c λt46 d=>(ldW false 1 t50 d λx=>x=t51)/\(ldW false 1 t43 d λx=>x=t44)/\fV P0 (Builtin.append_ #[65,65] 65 #[t44,t46]) d λt47 h=>(ldW false 1 t50 h λx=>x=t51)/\fV P0 (Builtin.append_ #[33,33] 33 #[t51,t53]) h λt54 q=>fA v0 λt55=>bF 0 t55 λt56=>bF 8 t56 λt57=>stW 1 t57 t47 q λp=>fA v0 λt58=>bF 10 t58 λt59=>stW 1 t59 t54 p λo=>K (.tuple #[]) o)
def aA7(h:aGL v0 v1 w K):aL P0 142 [v0,v1] w K:=
 tie _ 142 Tryz.f142 Ye _ w K 2 _ rfl mixed Tryz.func142 (by kernel_rfl) (by kernel_rfl) Tryz.call142 h
def XP:fG:={js:=[(10,⟨[],[6,7],11⟩),(14,⟨[],[],11⟩),(3,⟨[10],[6,7],10⟩)],ds:=[(21,⟨[0,1,2,3,4,5,6,7,8,9,10,11,13],[[],[],[],[2],[2,3],[2,3,4],[2,3,4,5],[2,3,4,5,6],[],[8],[2,3,4,5,6,7,8,9],[2,3,4,5,6,7,8,9,10],[0,1,2,3,4,5,6,7,8,9,10,11],[0,1,2,3,4,5,6,7,8,9,10,11,12]]⟩)]}
def aGx(v0 f v2:Value)(w:World)(K:Q0):=iL f λt9=>eK [(i64 0)] w λs1 _ w2 l=>aS .lss (s1.getD 0 undef) t9 λt11=>bE t11 (dE (λh=>fX none 3 f (s1.getD 0 undef) λt13=>ldW true 3 t13 w2 λt14=>eD 40 zL1 w2 λt7 k=>stW 3 t7 t14 k λj=>dE (λg=>Ti 3 f none (some (s1.getD 0 undef)) none λt17=>aL P0 98 [t17,(.func (.func 209) #[] #[t7])] j λt19 c=>bE t19 (bF 2 t7 λt21=>ldW false 1 t21 c λt22=>aL P0 94 [v0,(i64 2),t22] c λt23 i=>g [] i) (g [] c)) λm _ b=>ldW true 3 t7 b.drew λt25=>fA v0 λt27=>bF 0 t27 λt28=>bF 1 t28 λt29=>bF 0 t29 λt30=>ldW false 1 t30 b.drew λt31=>bF 1 t7 λt32=>ldW false 1 t32 b.drew λt33=>fX none 5 t31 t33 λt34=>ldW true 5 t34 b.drew λt35=>qN P0 v2 [t25,t35] b.drew λt36 a=>unW .not t36 λt37=>bE t37 (bF 2 t7 λt39=>ldW false 1 t39 a λt40=>aL P0 94 [v0,(i64 110),t40] a λt41 e=>h [] e) (h [] a)) λn _ d=>aS .add (s1.getD 0 undef) (i64 1) λt42=>l [t42] d) (K (.tuple #[]) w2)
def aAT(h:aGx v0 v1 v2 w K):aL P0 172 [v0,v1,v2] w K:=
 tie _ 172 Tryz.f172 XP _ w K 3 _ rfl mixed Tryz.func172 (by kernel_rfl) (by kernel_rfl) Tryz.call172 h
def XO:fG:={js:=[],ds:=[]}
def aGw(v0 b v2:Value)(w:World)(K:Q0):=jZ 40 v0 w λt3 w1=>jZ 35 b w1 λt4 w2=>bF 1 t3 λt6=>ldW false 1 t6 w2 λt7=>bF 1 v2 λt8=>stW 1 t8 t7 w2 λa=>bF 0 t3 λt9=>ldW false 1 t9 a λt10=>aS .eql t10 (str [100,101,102,97,117,108,116]) λt11=>K t11 a
def aAS(h:aGw v0 v1 v2 w K):aL P0 173 [v0,v1,v2] w K:=
 tie _ 173 Tryz.f173 XO _ w K 3 _ rfl mixed Tryz.func173 (by kernel_rfl) (by kernel_rfl) Tryz.call173 h
def XN:fG:={js:=[],ds:=[(5,⟨[0,1,2,3,4,5,6,7,8,9,10,11,12,13],[[],[],[1],[1,2],[1,2,3],[1,2,3,4],[1,2,3,4,5],[],[7],[7,8],[7,8,9],[1,2,3,4,5,6,7,8,9,10],[1,2,3,4,5,6,7,8,9,10,11],[1,2,3,4,5,6,7,8,9,10,11,12],[0,1,2,3,4,5,6,7,8,9,10,11,12,13]]⟩)]}
def aGv(v0 a:Value)(w:World)(K:Q0):=jZ 38 a w λt3 w1=>bF 3 t3 λt4=>ldW false 1 t4 w1 λt5=>iL t5 λt6=>aS .gtr t6 (i64 0) λt7=>bE t7 (fA v0 λt10=>bF 0 t10 λt11=>bF 1 t11 λt12=>bF 1 t12 λt13=>ldW false 1 t13 w1.drew λt14=>bF 3 t3 λt15=>ldW false 1 t15 w1.drew λt16=>fX none 1 t16 (i64 0) λt17=>ldW false 1 t17 w1.drew λt18=>fX none 5 t14 t18 λt19=>bF 4 t19 λt20=>ldW false 1 t20 w1.drew λt21=>aL P0 94 [v0,(i64 110),t21] w1.drew λt22 w2=>K (.tuple #[]) w2) (K (.tuple #[]) w1)
def aAR(h:aGv v0 v1 w K):aL P0 174 [v0,v1] w K:=
 tie _ 174 Tryz.f174 XN _ w K 2 _ rfl mixed Tryz.func174 (by kernel_rfl) (by kernel_rfl) Tryz.call174 h
def XM:fG:={js:=[],ds:=[]}
def aGu(v0 a:Value)(w:World)(K:Q0):=jZ 69 v0 w λt2 w1=>bF 0 t2 λt4=>ldW false 1 t4 w1 λt5=>bF 0 a λt6=>ldW false 1 t6 w1 λt7=>aS .eql t5 t7 λt8=>K t8 w1
def aAQ(h:aGu v0 v1 w K):aL P0 175 [v0,v1] w K:=
 tie _ 175 Tryz.f175 XM _ w K 2 _ rfl mixed Tryz.func175 (by kernel_rfl) (by kernel_rfl) Tryz.call175 h
def XL:fG:={js:=[(2,⟨[],[],4⟩)],ds:=[(9,⟨[0,1,2,3,4,5,6,9,10,11],[[],[],[1],[1,2],[1,2,3],[1,2,3,4],[],[6],[1,2,3,4,5,6,7],[0,1,2,3,4,5,6,7,8],[0,1,2,3,4,5,6,7,8,9],[0,1,2,3,4,5,6,7,8,9,10],[0,1,2,3,4,5,6,7,8,9,10,11]]⟩)]}
def aGt(v0 h v2:Value)(w:World)(K:Q0):=jZ 40 v0 w λt3 w1=>jZ 35 h w1 λt4 w2=>dE (λe=>ldW false 1 v2 w2 λt6=>fA t6 λt7=>bF 0 t7 λt8=>bF 5 t8 λt9=>ldW false 1 t9 w2 λt10=>aL P0 98 [t10,(.func (.func 177) #[] #[t3])] w2 λt12 c=>bE t12 (ldW false 1 v2 c λt13=>bF 2 t3 λt14=>ldW false 1 t14 c λt15=>aL P0 94 [t13,(i64 2),t15] c λt16 g=>e [] g) (e [] c)) λi _ a=>ldW false 1 v2 a.drew λt17=>ldW false 1 v2 a.drew λt18=>fA t18 λt19=>bF 0 t19 λt20=>bF 5 t20 λt21=>ldW false 1 t21 a.drew λt22=>ldW true 3 t3 a.drew λt23=>gP 40 1 [(str []),(i64 0),(i64 0)] [(0,3,t23)] a.drew λt24 b=>(ldW false 1 t21 b λx=>x=t22)/\(ldW false 1 v2 b λx=>x=t18)/\(ldW false 1 v2 b λx=>x=t17)/\fV P0 (Builtin.append_ #[36,36] 36 #[t22,t24]) b λt25 d=>(ldW false 1 v2 d λx=>x=t17)/\fA t17 λt26=>bF 0 t26 λt27=>bF 5 t27 λt28=>stW 1 t28 t25 d λf=>K (.bool true) f
def aAP(h:aGt v0 v1 v2 w K):aL P0 176 [v0,v1,v2] w K:=
 tie _ 176 Tryz.f176 XL _ w K 3 _ rfl mixed Tryz.func176 (by kernel_rfl) (by kernel_rfl) Tryz.call176 h
def XK:fG:={js:=[],ds:=[]}
def aGs(v0 a:Value)(w:World)(K:Q0):=jZ 40 v0 w λt2 w1=>bF 0 t2 λt4=>ldW false 1 t4 w1 λt5=>bF 0 a λt6=>ldW false 1 t6 w1 λt7=>aS .eql t5 t7 λt8=>K t8 w1
def aAO(h:aGs v0 v1 w K):aL P0 177 [v0,v1] w K:=
 tie _ 177 Tryz.f177 XK _ w K 2 _ rfl mixed Tryz.func177 (by kernel_rfl) (by kernel_rfl) Tryz.call177 h
def XJ:fG:={js:=[],ds:=[]}
def aGr(v0 b v2:Value)(w:World)(K:Q0):=jZ 40 v0 w λt3 w1=>jZ 35 b w1 λt4 w2=>bF 1 t3 λt6=>ldW false 1 t6 w2 λt7=>bF 1 v2 λt8=>stW 1 t8 t7 w2 λa=>bF 0 t3 λt9=>ldW false 1 t9 a λt10=>aS .eql t10 (str [118,97,108,117,101]) λt11=>K t11 a
def aAN(h:aGr v0 v1 v2 w K):aL P0 178 [v0,v1,v2] w K:=
 tie _ 178 Tryz.f178 XJ _ w K 3 _ rfl mixed Tryz.func178 (by kernel_rfl) (by kernel_rfl) Tryz.call178 h
def XI:fG:={js:=[],ds:=[]}
def aGq(v0 a:Value)(w:World)(K:Q0):=jZ 40 v0 w λt2 w1=>bF 0 t2 λt4=>ldW false 1 t4 w1 λt5=>bF 0 a λt6=>ldW false 1 t6 w1 λt7=>aS .eql t5 t7 λt8=>K t8 w1
def aAM(h:aGq v0 v1 w K):aL P0 179 [v0,v1] w K:=
 tie _ 179 Tryz.f179 XI _ w K 2 _ rfl mixed Tryz.func179 (by kernel_rfl) (by kernel_rfl) Tryz.call179 h
def XH:fG:={js:=[(53005,⟨[67],[],65⟩),(2,⟨[],[],3⟩),(27,⟨[34],[6,8],34⟩)],ds:=[(46,⟨[0,1,2,3,4,5,6,7,10],[[],[0],[],[2],[2,3],[2,3,4],[2,3,4,5],[],[2,3,4,5,6,7],[0,1,2,3,4,5,6,7,8],[0,1,2,3,4,5,6,7,8,9],[0,1,2,3,4,5,6,7,8,9,10]]⟩)]}
def aGp(v0 q v2 v3:Value)(w:World)(K:Q0):=jZ 40 v0 w λt4 w1=>jZ 35 q w1 λt5 w2=>dE (λl=>bF 0 t4 λt9=>ldW false 1 t9 w2 λt10=>aS .eql t10 (str [105,100]) λt18=>bE t18 (K (.bool false) w2) (aS .eql t10 (str [99,111,117,110,116]) λt20=>bE t20 (bF 1 t4 λt21=>ldW false 1 t21 w2 λt22=>bF 3 v2 λt23=>stW 1 t23 t22 w2 λp=>l [] p) (aS .eql t10 (str [102,111,114,95,101,97,99,104]) λt25=>bE t25 (bF 1 t4 λt26=>ldW false 1 t26 w2 λt27=>bF 4 v2 λt28=>stW 1 t28 t27 w2 λo=>l [] o) (aS .eql t10 (str [100,101,112,101,110,100,115,95,111,110]) λt30=>bE t30 (bF 2 t5 λt31=>ldW false 1 t31 w2 λt32=>iL t32 λt33=>eK [(i64 0)] w2 λj _ b r=>aS .lss (j.getD 0 undef) t33 λt35=>bE t35 (fX none 1 t32 (j.getD 0 undef) λt36=>ldW false 1 t36 b λt37=>ldW false 1 v3 b λt38=>fA t38 λt39=>bF 0 t39 λt40=>bF 1 t40 λt41=>ldW true 3 t41 b λt42=>aL P0 181 [t42,t37] b λt44 c=>unW .not t44 λt45=>bE t45 (K (.bool false) c) (bF 7 v2 λt46=>ldW false 1 t46 c.drew λt47=>ldW false 1 v3 c.drew λt48=>fA t48 λt49=>bF 0 t49 λt50=>bF 1 t50 λt51=>ldW true 3 t51 c.drew λt52=>aL P0 182 [t52,t37] c.drew λt54 n=>(ldW false 1 t46 n λx=>x=t47)/\fV P0 (Builtin.append_ #[33,33] 33 #[t47,t54]) n λt55 i=>bF 7 v2 λt56=>stW 1 t56 t55 i λh=>aS .add (j.getD 0 undef) (i64 1) λt57=>r [t57] h)) (bF 0 t5 λt58=>ldW false 1 t58 b λt59=>aS .eql t59 (i64 7) λt60=>K t60 b)) (bF 2 v2 λt11=>ldW false 1 t11 w2 λt12=>ldW true 3 t4 w2 λt13=>gP 40 1 [(str []),(i64 0),(i64 0)] [(0,3,t13)] w2 λt14 g=>fV P0 (Builtin.append_ #[36,36] 36 #[t12,t14]) g λt15 f=>bF 2 v2 λt16=>stW 1 t16 t15 f λe=>l [] e))))) λs _ a=>bF 3 v2 λt61=>ldW false 1 t61 a λt62=>aS .lss t62 (i64 0) λt63=>GdW (isB t63 false) [undef] a (λm=>bF 4 v2 λt65=>ldW false 1 t65 a λt66=>aS .lss t66 (i64 0) λt67=>m [t67] a) λk _ d=>fN t63 (.bool true) (k.getD 0 undef) λt68=>K t68 d
def aAL(h:aGp v0 v1 v2 v3 w K):aL P0 180 [v0,v1,v2,v3] w K:=
 tie _ 180 Tryz.f180 XH _ w K 4 _ rfl mixed Tryz.func180 (by kernel_rfl) (by kernel_rfl) Tryz.call180 h
def XG:fG:={js:=[(4,⟨[1],[1],3⟩)],ds:=[]}
def aGo(v0 c:Value)(w:World)(K:Q0):=jZ 28 v0 w λt2 w1=>eK [c] w1 λb _ a L2=>bF 0 t2 λt5=>ldW false 1 t5 a λt6=>fX none 5 t6 (b.getD 0 undef) λt8=>bF 0 t8 λt9=>ldW false 1 t9 a λt10=>aS .eql t10 (i64 10) λt11=>bE t11 (bF 0 t2 λt12=>ldW false 1 t12 a λt13=>fX none 5 t13 (b.getD 0 undef) λt15=>bF 2 t15 λt16=>ldW false 1 t16 a λt17=>fX none 1 t17 (i64 0) λt18=>ldW false 1 t18 a λt19=>L2 [t19] a) (bF 0 t2 λt20=>ldW false 1 t20 a λt21=>fX none 5 t21 (b.getD 0 undef) λt23=>bF 0 t23 λt24=>ldW false 1 t24 a λt25=>aS .eql t25 (i64 9) λt26=>K t26 a)
def aAK(h:aGo v0 v1 w K):aL P0 181 [v0,v1] w K:=
 tie _ 181 Tryz.f181 XG _ w K 2 _ rfl mixed Tryz.func181 (by kernel_rfl) (by kernel_rfl) Tryz.call181 h
def XF:fG:={js:=[],ds:=[]}
def aGn(v0 e:Value)(w:World)(K:Q0):=jZ 28 v0 w λt2 w1=>fV P0 (Instr.makeMap 252 none) w1 λt6 w2=>ldW true 3 t2 w2 λt7=>fV P0 (Instr.makeMap 252 none) w2 λt9 d=>aL P0 210 [t7,e,(str []),t9,t6] d λt11 c=>aL P0 212 [t6] c λt13 b=>aL P0 211 [t13] b λt14 a=>K t14 a
def aAJ(h:aGn v0 v1 w K):aL P0 182 [v0,v1] w K:=
 tie _ 182 Tryz.f182 XF _ w K 2 _ rfl mixed Tryz.func182 (by kernel_rfl) (by kernel_rfl) Tryz.call182 h
def XD:fG:={js:=[(18005,⟨[26],[],24⟩),(2,⟨[],[],5⟩)],ds:=[]}
def aGm(v0 f v2:Value)(w:World)(K:Q0):=jZ 40 v0 w λt3 w1=>jZ 35 f w1 λt4 w2=>dE (λb=>bF 0 t3 λt6=>ldW false 1 t6 w2 λt7=>aS .eql t7 (str [99,114,101,97,116,101,95,98,101,102,111,114,101,95,100,101,115,116,114,111,121]) λt9=>bE t9 (bF 0 t4 λt10=>ldW false 1 t10 w2 λt11=>aS .eql t11 (i64 2) λt12=>bF 5 v2 λt13=>stW 1 t13 t12 w2 λe=>b [] e) (aS .eql t7 (str [112,114,101,118,101,110,116,95,100,101,115,116,114,111,121]) λt15=>bE t15 (bF 0 t4 λt16=>ldW false 1 t16 w2 λt17=>aS .eql t17 (i64 2) λt18=>bF 6 v2 λt19=>stW 1 t19 t18 w2 λd=>b [] d) (K (.bool false) w2))) λi _ a=>bF 0 t4 λt20=>ldW false 1 t20 a λt21=>aS .eql t21 (i64 2) λt22=>GdW (isB t22 false) [undef] a (λh=>bF 0 t4 λt24=>ldW false 1 t24 a λt25=>aS .eql t25 (i64 3) λt26=>h [t26] a) λg _ c=>fN t22 (.bool true) (g.getD 0 undef) λt27=>K t27 c
def aAI(h:aGm v0 v1 v2 w K):aL P0 183 [v0,v1,v2] w K:=
 tie _ 183 Tryz.f183 XD _ w K 3 _ rfl mixed Tryz.func183 (by kernel_rfl) (by kernel_rfl) Tryz.call183 h
def XA:fG:={js:=[(3007,⟨[14],[],10⟩)],ds:=[]}
def aGk(v0 a:Value)(w:World)(K:Q0):=jZ 71 v0 w λt2 w1=>bF 0 t2 λt4=>ldW false 1 t4 w1 λt5=>bF 0 a λt6=>ldW false 1 t6 w1 λt7=>aS .eql t5 t7 λt8=>GdW (isB t8 true) [undef] w1 (λd=>bF 1 t2 λt10=>ldW false 1 t10 w1 λt11=>bF 1 a λt12=>ldW false 1 t12 w1 λt13=>aS .eql t11 t13 λt14=>d [t14] w1) λc _ b=>fN t8 (c.getD 0 undef) (.bool false) λt15=>K t15 b
def aAG(h:aGk v0 v1 w K):aL P0 185 [v0,v1] w K:=
 tie _ 185 Tryz.f185 XA _ w K 2 _ rfl mixed Tryz.func185 (by kernel_rfl) (by kernel_rfl) Tryz.call185 h
def Xz:fG:={js:=[(15005,⟨[24],[],22⟩)],ds:=[]}
def aGj(v0 g v2 v3:Value)(w:World)(K:Q0):=jZ 40 v0 w λt4 w1=>jZ 35 g w1 λt5 w2=>bF 0 t4 λt7=>ldW false 1 t7 w2 λt8=>aS .neq t8 (str [115,111,117,114,99,101]) λt9=>bE t9 (bF 2 v2 λt10=>ldW false 1 t10 w2 λt11=>ldW true 3 t4 w2 λt12=>gP 40 1 [(str []),(i64 0),(i64 0)] [(0,3,t12)] w2 λt13 f=>fV P0 (Builtin.append_ #[36,36] 36 #[t11,t13]) f λt14 e=>bF 2 v2 λt15=>stW 1 t15 t14 e λd=>K (.bool true) d) (bF 1 t5 λt16=>ldW false 1 t16 w2 λt17=>stW 1 v3 t17 w2 λa=>bF 0 t5 λt18=>ldW false 1 t18 a λt19=>aS .eql t19 (i64 5) λt20=>GdW (isB t20 true) [undef] a (λi=>bF 1 t5 λt22=>ldW false 1 t22 a λt23=>aL P0 136 [t23] a λt24 c=>i [t24] c) λh _ b=>fN t20 (h.getD 0 undef) (.bool false) λt25=>K t25 b)
def aAF(h:aGj v0 v1 v2 v3 w K):aL P0 186 [v0,v1,v2,v3] w K:=
 tie _ 186 Tryz.f186 Xz _ w K 4 _ rfl mixed Tryz.func186 (by kernel_rfl) (by kernel_rfl) Tryz.call186 h
def Xx:fG:={js:=[],ds:=[]}
def aGh(v0 a:Value)(w:World)(K:Q0):=jZ 73 v0 w λt2 w1=>bF 0 t2 λt4=>ldW false 1 t4 w1 λt5=>bF 0 a λt6=>ldW false 1 t6 w1 λt7=>aS .eql t5 t7 λt8=>K t8 w1
def aAD(h:aGh v0 v1 w K):aL P0 188 [v0,v1] w K:=
 tie _ 188 Tryz.f188 Xx _ w K 2 _ rfl mixed Tryz.func188 (by kernel_rfl) (by kernel_rfl) Tryz.call188 h
def Xq:fG:={js:=[],ds:=[]}
def aGa(v0 a:Value)(w:World)(K:Q0):=jZ 40 v0 w λt2 w1=>bF 0 t2 λt4=>ldW false 1 t4 w1 λt5=>bF 0 a λt6=>ldW false 1 t6 w1 λt7=>aS .eql t5 t7 λt8=>K t8 w1
def aAw(h:aGa v0 v1 w K):aL P0 209 [v0,v1] w K:=
 tie _ 209 Tryz.f209 Xq _ w K 2 _ rfl mixed Tryz.func209 (by kernel_rfl) (by kernel_rfl) Tryz.call209 h
def Xp:fG:={js:=[(32,⟨[23],[12],23⟩)],ds:=[(27,⟨[0,1,2,3,4,5,6],[[],[],[1],[1,2],[1,2,3],[],[],[0,1,2,3,4,5,6]]⟩),(23,⟨[0,1,2,3,4,5,6],[[],[],[1],[1,2],[1,2,3],[],[],[0,1,2,3,4,5,6]]⟩),(18,⟨[0,1,2,3,4,5,6,7,8,9,10,11],[[],[],[1],[1,2],[1,2,3],[],[5],[5,6],[],[5,6,7,8],[],[],[0,1,2,3,4,5,6,7,8,9,10,11]]⟩)]}
def aF9(v0 l v2 v3 v4:Value)(w:World)(K:Q0):=jZ 28 v0 w λt5 w1=>bF 0 t5 λt13=>ldW false 1 t13 w1 λt14=>fX none 5 t14 l λt16=>ldW true 5 t16 w1 λt17=>eD 35 zL2 w1 λt10 w2=>stW 5 t10 t17 w2 λa=>bF 0 t10 λt18=>ldW false 1 t18 a λt19=>aS .eql t19 (i64 9) λt34=>bE t34 (bF 1 t10 λt36=>ldW false 1 t36 a λt37=>sF P0 (Instr.lookup 252 v3 t37 false) a λt38=>aS .eql t38 (i64 0) λt39=>bE t39 (bF 1 t10 λt41=>ldW false 1 t41 a λt42=>aS .add t42 v2 λt44=>Gy P0 (Instr.mapUpdate 252 v4 t44 (i64 1)) a λk=>K (.tuple #[]) k) (K (.tuple #[]) a)) (aS .eql t19 (i64 10) λt46=>bE t46 (ldW true 3 t5 a.drew λt47=>bF 2 t10 λt48=>ldW false 1 t48 a.drew λt49=>fX none 1 t49 (i64 0) λt50=>ldW false 1 t50 a.drew λt51=>bF 1 t10 λt52=>ldW false 1 t52 a.drew λt53=>aS .add (str [46]) t53 λt54=>aS .add t54 v2 λt56=>aL P0 210 [t47,t51,t56,v3,v4] a.drew λt59 j=>K (.tuple #[]) j) (aS .eql t19 (i64 29) λt61=>bE t61 (ldW true 3 t5 a.drew λt62=>bF 2 t10 λt63=>ldW false 1 t63 a.drew λt64=>fX none 1 t64 (i64 0) λt65=>ldW false 1 t65 a.drew λt66=>aL P0 210 [t62,t66,(str []),v3,v4] a.drew λt69 f=>bF 1 t10 λt71=>ldW false 1 t71 f λt72=>sF P0 (Instr.lookup 252 v3 t72 false) f λt73=>aS .add t73 (i64 1) λt74=>Gy P0 (Instr.mapUpdate 252 v3 t72 t74) f λd=>ldW true 3 t5 d.drew λt75=>bF 2 t10 λt76=>ldW false 1 t76 d.drew λt77=>fX none 1 t77 (i64 1) λt78=>ldW false 1 t78 d.drew λt79=>aL P0 210 [t75,t79,(str []),v3,v4] d.drew λt82 e=>bF 1 t10 λt84=>ldW false 1 t84 e λt85=>sF P0 (Instr.lookup 252 v3 t85 false) e λt86=>aS .sub t86 (i64 1) λt87=>Gy P0 (Instr.mapUpdate 252 v3 t85 t87) e λi=>K (.tuple #[]) i) (bF 2 t10 λt20=>ldW false 1 t20 a λt21=>iL t21 λt22=>eK [(i64 0)] a λc _ b h=>aS .lss (c.getD 0 undef) t22 λt24=>bE t24 (fX none 1 t21 (c.getD 0 undef) λt25=>ldW false 1 t25 b λt26=>ldW true 3 t5 b λt27=>aL P0 210 [t27,t26,(str []),v3,v4] b λt31 g=>aS .add (c.getD 0 undef) (i64 1) λt32=>h [t32] g) (K (.tuple #[]) b))))
def aAu(h:aF9 v0 v1 v2 v3 v4 w K):aL P0 210 [v0,v1,v2,v3,v4] w K:=
 tie _ 210 Tryz.f210 Xp _ w K 5 _ rfl mixed Tryz.func210 (by kernel_rfl) (by kernel_rfl) Tryz.call210 h
def aDr:fG:={js:=[(27,⟨[5],[],5⟩),(16,⟨[3,4],[],1⟩)],ds:=[]}
def W22(v0:Value)(w:World)(K:Q0):=aS .eql v0 (i64 0) λt7=>bE t7 (K (str [48]) w) (eK [(str []),v0] w λs1 _ w2 f=>aS .neq (s1.getD 1 undef) (i64 0) λt10=>bE t10 (aS .rem (s1.getD 1 undef) (i64 10) λt14=>dE (λb=>aS .lss t14 (i64 0) λt16=>bE t16 (unW .neg t14 λt18=>b [t18] w2) (b [t14] w2)) λe _ d=>aS .add (i64 48) (e.getD 0 undef) λt20=>AE .u8 t20 λt21=>gP 5 1 [(.int .u8 0)] [(0,1,t21)] d λt22 a=>sF P0 (convert 80 9 t22) a λt23=>aS .add t23 (s1.getD 0 undef) λt25=>aS .quo (s1.getD 1 undef) (i64 10) λt12=>f [t25,t12] a) (aS .lss v0 (i64 0) λt27=>aL P0 53 [t27,(s1.getD 0 undef)] w2 λt29 c=>K t29 c))
def aEW(h:W22 v0 w K):aL P0 22 [v0] w K:=
 tie _ 22 Tryz.f22 aDr _ w K 1 _ rfl mixed Tryz.func22 (by kernel_rfl) (by kernel_rfl) Tryz.call22 h
def aDp:fG:={js:=[(14,⟨[13],[4,5],13⟩)],ds:=[(26,⟨[0,1,2,3,4,5,6,7,8],[[],[],[0,1],[0,1,2],[],[],[4,5],[4,5,6],[0,1,2,3,4,5,6,7]]⟩)]}
def W25(v0 a:Value)(w:World)(K:Q0):=iL v0 λt7=>iL a λt9=>aS .neq t7 t9 λt10=>bE t10 (K (.bool false) w) (iL v0 λt12=>eK [(i64 0)] w λs1 _ w2 b=>aS .lss (s1.getD 0 undef) t12 λt14=>bE t14 (fX none 1 v0 (s1.getD 0 undef) λt18=>ldW false 1 t18 w2.drew λt19=>fX none 1 a (s1.getD 0 undef) λt22=>ldW false 1 t22 w2.drew λt23=>aS .neq t19 t23 λt24=>bE t24 (K (.bool false) w2.drew) (aS .add (s1.getD 0 undef) (i64 1) λt25=>b [t25] w2.drew)) (K (.bool true) w2))
def aEU(h:W25 v0 v1 w K):aL P0 25 [v0,v1] w K:=
 tie _ 25 Tryz.f25 aDp _ w K 2 _ rfl mixed Tryz.func25 (by kernel_rfl) (by kernel_rfl) Tryz.call25 h
def aDe:fG:={js:=[],ds:=[]}
def W48(w:World)(K:Q0):=eD 55 zL3 w λt0 w1=>kE [sN,(i64 0),(i64 0),(.bool false)] [(2,1,(.int .i64 (-1)))] λc=>stW 4 t0 (.agg c.toArray) w1 λa=>ldW true 4 t0 a λb=>K b a
def aEJ(h:W48 w K):aL P0 48 [] w K:=
 tie _ 48 Tryz.f48 aDe _ w K 0 _ rfl mixed Tryz.func48 (by kernel_rfl) (by kernel_rfl) Tryz.call48 h
def aDd:fG:={js:=[(40,⟨[],[],13⟩),(22003,⟨[37],[],36⟩),(14002,⟨[31],[],24⟩),(14006,⟨[30],[],27⟩),(14009,⟨[26],[],24⟩)],ds:=[]}
def W49(v0 t v2 v3:Value)(w:World)(K:Q0):=jZ 55 v0 w λt4 w1=>eD 55 zL3 w1 λt8 w2=>ldW true 4 t4 w2 λt13=>aL P0 89 [t13,t] w2 λt15 G=>aL P0 90 [t] G λt17 n=>unW .not t17 λt18=>bE t18 (ldW true 4 t4 n λt19=>stW 4 t8 t19 n λE=>ldW true 4 t8 E λJ=>K (.tuple #[J,(i64 6)]) E) (kQ v2 λt21=>aS .gtr t21 (i64 65536) λt22=>GdW (isB t22 false) [undef] n (λM=>aS .lss t15 (i64 0) λt25=>M [t25] n) λF _ o=>GdW (isB (F.getD 0 undef) true) [undef] o (λL=>bF 0 t4 λt27=>ldW false 1 t27 o λt28=>iL t28 λt29=>aS .geq t29 (i64 64) λt30=>L [t30] o) λH _ l=>GdW (isB t22 false) [undef] l (λD=>fN (F.getD 0 undef) (H.getD 0 undef) (.bool false) λt31=>D [t31] l) λv _ c=>fN t22 (.bool true) (v.getD 0 undef) λt32=>bE t32 (ldW true 4 t4 c λt33=>stW 4 t8 t33 c λk=>ldW true 4 t8 k λA=>K (.tuple #[A,(i64 3)]) k) (GdW (isB v3 true) [undef] c (λC=>aS .geq t15 (i64 0) λt37=>C [t37] c) λu _ b=>fN v3 (u.getD 0 undef) (.bool false) λt38=>bE t38 (ldW true 4 t4 b λt39=>stW 4 t8 t39 b λj=>ldW true 4 t8 j λz=>K (.tuple #[z,(i64 2)]) j) (ldW true 4 t4 b λt41=>aL P0 91 [t41] b λt42 s=>kH 0 t42 λt43=>kH 1 t42 λt44=>stW 4 t4 t43 s λf=>aS .neq t44 (i64 0) λt46=>bE t46 (ldW true 4 t4 f λt47=>stW 4 t8 t47 f λi=>ldW true 4 t8 i λy=>K (.tuple #[y,t44]) i) (kE [(str []),(str []),(str []),(.bool false)] [(0,1,t),(1,1,v2)] λB=>eD 173 [(str []),(str []),(str []),(.bool false)] f λt12 r=>stW 4 t12 (.agg B.toArray) r λa=>dE (λm=>aS .geq t15 (i64 0) λt53=>bE t53 (bF 0 t4 λt54=>ldW false 1 t54 a λt55=>fX none 4 t55 t15 λt57=>bF 2 t57 λt58=>ldW false 1 t58 a λt59=>bF 2 t12 λt60=>stW 1 t60 t59 a λe=>bF 0 t4 λt61=>ldW false 1 t61 e λt62=>fX none 4 t62 t15 λt64=>bF 3 t64 λt65=>ldW false 1 t65 e λt66=>bF 3 t12 λt67=>stW 1 t67 t66 e λq=>m [] q) (m [] a)) λI _ d=>bF 0 t4 λt68=>ldW false 1 t68 d λt69=>ldW true 4 t12 d λt70=>aL P0 92 [t69,t70] d λt71 p=>bF 0 t4 λt72=>stW 1 t72 t71 p λh=>ldW true 4 t4 h λt73=>stW 4 t8 t73 h λg=>ldW true 4 t8 g λx=>K (.tuple #[x,(i64 0)]) g))))
def aEI(h:W49 v0 v1 v2 v3 w K):aL P0 49 [v0,v1,v2,v3] w K:=
 tie _ 49 Tryz.f49 aDd _ w K 4 _ rfl mixed Tryz.func49 (by kernel_rfl) (by kernel_rfl) Tryz.call49 h
def aDa:fG:={js:=[(4003,⟨[8],[],7⟩)],ds:=[]}
def W53(v0 a:Value)(w:World)(K:Q0):=GdW (isB v0 true) [undef] w (λb=>aS .neq a (str [48]) λt8=>b [t8] w) λs1 _ w2=>fN v0 (s1.getD 0 undef) (.bool false) λt9=>bE t9 (aS .add (str [45]) a λt11=>K t11 w2) (K a w2)
def aEF(h:W53 v0 v1 w K):aL P0 53 [v0,v1] w K:=
 tie _ 53 Tryz.f53 aDa _ w K 2 _ rfl mixed Tryz.func53 (by kernel_rfl) (by kernel_rfl) Tryz.call53 h
def aCR:fG:={js:=[(6,⟨[9],[4,5],9⟩)],ds:=[]}
def W89(v0 c:Value)(w:World)(K:Q0):=jZ 55 v0 w λt2 w1=>bF 0 t2 λt6=>ldW false 1 t6 w1 λt7=>iL t7 λt8=>eK [(i64 0)] w1 λb _ a L2=>aS .lss (b.getD 0 undef) t8 λt10=>bE t10 (bF 0 t2 λt12=>ldW false 1 t12 a λt13=>fX none 4 t13 (b.getD 0 undef) λt15=>bF 0 t15 λt16=>ldW false 1 t16 a λt17=>aS .eql t17 c λt19=>bE t19 (K (b.getD 0 undef) a) (aS .add (b.getD 0 undef) (i64 1) λt21=>L2 [t21] a)) (K (.int .i64 (-1)) a)
def aEm(h:W89 v0 v1 w K):aL P0 89 [v0,v1] w K:=
 tie _ 89 Tryz.f89 aCR _ w K 2 _ rfl mixed Tryz.func89 (by kernel_rfl) (by kernel_rfl) Tryz.call89 h
def aCQ:fG:={js:=[(24005,⟨[32],[],30⟩),(16005,⟨[24],[],21⟩),(16011,⟨[18],[],15⟩),(6,⟨[3],[],1⟩)],ds:=[]}
def W90(v0:Value)(w:World)(K:Q0):=eK [(i64 0)] w λs1 _ w2 g=>kQ v0 λt6=>aS .lss (s1.getD 0 undef) t6 λt7=>bE t7 (qM v0 (s1.getD 0 undef) λt12=>aS .eql t12 (.int .u8 0) λt13=>GdW (isB t13 false) [undef] w2 (λj=>qM v0 (s1.getD 0 undef) λt17=>aS .eql t17 (.int .u8 10) λt18=>j [t18] w2) λf _ b=>fN t13 (.bool true) (f.getD 0 undef) λt19=>GdW (isB t19 false) [undef] b (λi=>qM v0 (s1.getD 0 undef) λt23=>aS .eql t23 (.int .u8 32) λt24=>i [t24] b) λe _ a=>fN t19 (.bool true) (e.getD 0 undef) λt25=>bE t25 (K (.bool false) a) (aS .add (s1.getD 0 undef) (i64 1) λt9=>g [t9] a)) (kQ v0 λt27=>aS .geq t27 (i64 1) λt28=>GdW (isB t28 true) [undef] w2 (λh=>kQ v0 λt31=>aS .leq t31 (i64 64) λt32=>h [t32] w2) λd _ c=>fN t28 (d.getD 0 undef) (.bool false) λt33=>K t33 c)
def aEl(h:W90 v0 w K):aL P0 90 [v0] w K:=
 tie _ 90 Tryz.f90 aCQ _ w K 1 _ rfl mixed Tryz.func90 (by kernel_rfl) (by kernel_rfl) Tryz.call90 h
def aCP:fG:={js:=[(12,⟨[],[],3⟩),(4004,⟨[9],[],7⟩)],ds:=[]}
def W91(v0:Value)(w:World)(K:Q0):=jZ 55 v0 w λt1 w1=>eD 55 zL3 w1 λt2 w2=>bF 3 t1 λt4=>ldW false 1 t4 w2 λt5=>GdW (isB t5 false) [undef] w2 (λl=>bF 2 t1 λt7=>ldW false 1 t7 w2 λt8=>aS .eql t8 (i64 0) λt9=>l [t9] w2) λj _ a=>fN t5 (.bool true) (j.getD 0 undef) λt10=>bE t10 (bF 3 t1 λt11=>stW 1 t11 (.bool true) a λg=>ldW true 4 t1 g λt12=>stW 4 t2 t12 g λf=>ldW true 4 t2 f λk=>K (.tuple #[k,(i64 5)]) f) (dE (λh=>bF 2 t1 λt13=>ldW false 1 t13 a λt14=>aS .gtr t14 (i64 0) λt15=>bE t15 (bF 2 t1 λt16=>ldW false 1 t16 a λt17=>aS .sub t17 (i64 1) λt18=>bF 2 t1 λt19=>stW 1 t19 t18 a λi=>h [] i) (h [] a)) λm _ d=>bF 1 t1 λt20=>ldW false 1 t20 d λt21=>aS .add t21 (i64 1) λt22=>bF 1 t1 λt23=>stW 1 t23 t22 d λc=>ldW true 4 t1 c λt24=>stW 4 t2 t24 c λb=>ldW true 4 t2 b λe=>K (.tuple #[e,(i64 0)]) b)
def aEk(h:W91 v0 w K):aL P0 91 [v0] w K:=
 tie _ 91 Tryz.f91 aCP _ w K 1 _ rfl mixed Tryz.func91 (by kernel_rfl) (by kernel_rfl) Tryz.call91 h
def aCO:fG:={js:=[(23,⟨[5,6],[5,6],15⟩),(12,⟨[5,6,14],[5,6,7],14⟩)],ds:=[(25,⟨[0,1,2,3,4,5,6,7,8,9,10,11],[[],[0],[0,1],[0,1,2],[0,1,2,3],[0,1,2],[0,1,2],[0,1,2,5,6],[0,1,2,5,6,7],[0,1,2,5,6,7,8],[0,1,2,3,4,5,6,7,8,9],[0,1,2,3,4,5,6,7,8,9,10]]⟩)]}
def W92(v0 p:Value)(w:World)(K:Q0):=jZ 173 p w λt3 w1=>bF 0 t3 λt9=>ldW false 1 t9 w1 λt10=>aL P0 132 [v0,t10] w1 λt11 w2=>iL t11 λt13=>eK [sN,(.bool false),(i64 0)] w2 λa _ b u=>aS .lss (a.getD 2 undef) t13 λt15=>bE t15 (dE (λo=>unW .not (a.getD 1 undef) λt18=>GqW (isB t18 true) (λt=>bF 0 t3 t) λt20=>GqW (isB t18 true) (λs=>ldW false 1 t20 b.drew s) λt21=>GqW (isB t18 true) (λr=>r t11) λt22=>GqW (isB t18 true) (λq=>q (a.getD 2 undef)) λt23=>GqW (isB t18 true) (λm=>fX none 4 t22 t23 m) λt24=>GqW (isB t18 true) (λl=>bF 0 t24 l) λt25=>GqW (isB t18 true) (λk=>ldW false 1 t25 b.drew k) λt26=>GqW (isB t18 true) (λj=>aS .lss t21 t26 j) λt27=>fN t18 t27 (.bool false) λt28=>bE t28 (ldW true 4 t3 b.drew λt30=>gP 173 1 [(str []),(str []),(str []),(.bool false)] [(0,4,t30)] b.drew λt31 i=>fV P0 (Builtin.append_ #[53,53] 53 #[(a.getD 0 undef),t31]) i λt32 h=>o [t32,(.bool true)] h) (o [(a.getD 0 undef),(a.getD 1 undef)] b.drew)) λn _ c=>fX none 4 t11 (a.getD 2 undef) λt36=>ldW true 4 t36 c λt37=>gP 173 1 [(str []),(str []),(str []),(.bool false)] [(0,4,t37)] c λt38 g=>fV P0 (Builtin.append_ #[53,53] 53 #[(n.getD 0 undef),t38]) g λt39 f=>aS .add (a.getD 2 undef) (i64 1) λt40=>u [t39,(n.getD 1 undef),t40] f) (unW .not (a.getD 1 undef) λt42=>bE t42 (ldW true 4 t3 b λt44=>gP 173 1 [(str []),(str []),(str []),(.bool false)] [(0,4,t44)] b λt45 e=>fV P0 (Builtin.append_ #[53,53] 53 #[(a.getD 0 undef),t45]) e λt46 d=>K t46 d) (K (a.getD 0 undef) b))
def aEj(h:W92 v0 v1 w K):aL P0 92 [v0,v1] w K:=
 tie _ 92 Tryz.f92 aCO _ w K 2 _ rfl mixed Tryz.func92 (by kernel_rfl) (by kernel_rfl) Tryz.call92 h
def Yo:fG:={js:=[(15,⟨[5],[5,6],10⟩),(8,⟨[5,9],[5,6],9⟩)],ds:=[]}
def aGV(v0 e:Value)(w:World)(K:Q0):=iL v0 λt8=>eK [sN,(i64 0)] w λs1 _ w2 g=>aS .lss (s1.getD 1 undef) t8 λt10=>bE t10 (dE (λa=>fX none 4 v0 (s1.getD 1 undef) λt14=>bF 0 t14 λt15=>ldW false 1 t15 w2 λt16=>aS .neq t16 e λt18=>bE t18 (fX none 4 v0 (s1.getD 1 undef) λt22=>ldW true 4 t22 w2 λt23=>gP 173 1 [(str []),(str []),(str []),(.bool false)] [(0,4,t23)] w2 λt24 d=>fV P0 (Builtin.append_ #[53,53] 53 #[(s1.getD 0 undef),t24]) d λt25 c=>a [t25] c) (a [(s1.getD 0 undef)] w2)) λf _ b=>aS .add (s1.getD 1 undef) (i64 1) λt26=>g [(f.getD 0 undef),t26] b) (K (s1.getD 0 undef) w2)
def aBh(h:aGV v0 v1 w K):aL P0 132 [v0,v1] w K:=
 tie _ 132 Tryz.f132 Yo _ w K 2 _ rfl mixed Tryz.func132 (by kernel_rfl) (by kernel_rfl) Tryz.call132 h
def aDb:fG:={js:=[],ds:=[]}
def W52(v0:Value)(w:World)(K:Q0):=aL P0 100 [v0] w λt4 w1=>K t4 w1
def aEG(h:W52 v0 w K):aL P0 52 [v0] w K:=
 tie _ 52 Tryz.f52 aDb _ w K 1 _ rfl mixed Tryz.func52 (by kernel_rfl) (by kernel_rfl) Tryz.call52 h
def aC6:fG:={js:=[],ds:=[]}
def W57(v0:Value)(w:World)(K:Q0):=eqW .slice false v0 sN λt4=>bE t4 (K sN w) (gP 5 0 [] [] w λt5 w1=>fV P0 (Builtin.append_ #[80,80] 80 #[t5,v0]) w1 λt7 w2=>K t7 w2)
def aEB(h:W57 v0 w K):aL P0 57 [v0] w K:=
 tie _ 57 Tryz.f57 aC6 _ w K 1 _ rfl mixed Tryz.func57 (by kernel_rfl) (by kernel_rfl) Tryz.call57 h
def aCS:fG:={js:=[],ds:=[]}
def W88(v0 a:Value)(w:World)(K:Q0):=aL P0 131 [v0] w λt7 w1=>fA v0 λt10=>bF 1 t10 λt11=>ldW false 1 t11 w1 λt12=>fV P0 (Builtin.append_ #[80,9] 80 #[t12,a]) w1 λt14 w2=>fA v0 λt15=>bF 1 t15 λt16=>stW 1 t16 t14 w2 λb=>kQ a λt18=>K (.tuple #[t18,.nilIface]) b
def aEn(h:W88 v0 v1 w K):aL P0 88 [v0,v1] w K:=
 tie _ 88 Tryz.f88 aCS _ w K 2 _ rfl mixed Tryz.func88 (by kernel_rfl) (by kernel_rfl) Tryz.call88 h
def aCK:fG:={js:=[],ds:=[]}
def W96(v0 a:Value)(w:World)(K:Q0):=aL P0 143 [v0,a] w λt7 w1=>aS .geq t7 (i64 0) λt8=>K t8 w1
def aEg(h:W96 v0 v1 w K):aL P0 96 [v0,v1] w K:=
 tie _ 96 Tryz.f96 aCK _ w K 2 _ rfl mixed Tryz.func96 (by kernel_rfl) (by kernel_rfl) Tryz.call96 h
def aCI:fG:={js:=[],ds:=[]}
def W98(v0 a:Value)(w:World)(K:Q0):=aL P0 144 [v0,a] w λt7 w1=>aS .geq t7 (i64 0) λt8=>K t8 w1
def aEe(h:W98 v0 v1 w K):aL P0 98 [v0,v1] w K:=
 tie _ 98 Tryz.f98 aCI _ w K 2 _ rfl mixed Tryz.func98 (by kernel_rfl) (by kernel_rfl) Tryz.call98 h
def YE:fG:={js:=[],ds:=[]}
def aHb(v0 a:Value)(w:World)(K:Q0):=aL P0 145 [v0,a] w λt7 w1=>aS .geq t7 (i64 0) λt8=>K t8 w1
def aBy(h:aHb v0 v1 w K):aL P0 101 [v0,v1] w K:=
 tie _ 101 Tryz.f101 YE _ w K 2 _ rfl mixed Tryz.func101 (by kernel_rfl) (by kernel_rfl) Tryz.call101 h
def Ys:fG:={js:=[],ds:=[]}
def aGZ(v0 a:Value)(w:World)(K:Q0):=aL P0 154 [v0,a] w λt7 w1=>aS .geq t7 (i64 0) λt8=>K t8 w1
def aBm(h:aGZ v0 v1 w K):aL P0 117 [v0,v1] w K:=
 tie _ 117 Tryz.f117 Ys _ w K 2 _ rfl mixed Tryz.func117 (by kernel_rfl) (by kernel_rfl) Tryz.call117 h
def Yq:fG:={js:=[],ds:=[]}
def aGX(v0 c:Value)(w:World)(K:Q0):=aL P0 131 [v0] w λt6 w1=>fA v0 λt9=>bF 1 t9 λt10=>ldW false 1 t10 w1 λt11=>gP 5 1 [(.int .u8 0)] [(0,1,c)] w1 λt13 w2=>fV P0 (Builtin.append_ #[80,80] 80 #[t11,t13]) w2 λt14 b=>fA v0 λt15=>bF 1 t15 λt16=>stW 1 t16 t14 b λa=>K .nilIface a
def aBk(h:aGX v0 v1 w K):aL P0 126 [v0,v1] w K:=
 tie _ 126 Tryz.f126 Yq _ w K 2 _ rfl mixed Tryz.func126 (by kernel_rfl) (by kernel_rfl) Tryz.call126 h
def Yp:fG:={js:=[],ds:=[]}
def aGW(v0 b:Value)(w:World)(K:Q0):=aL P0 131 [v0] w λt8 w1=>fA v0 λt10=>bF 1 t10 λt11=>ldW false 1 t11 w1 λt12=>iL t12 λt13=>fA v0 λt16=>bF 1 t16 λt17=>ldW false 1 t17 w1 λt18=>aL P0 166 [t18,b] w1 λt20 w2=>fA v0 λt21=>bF 1 t21 λt22=>stW 1 t22 t20 w2 λa=>fA v0 λt24=>bF 1 t24 λt25=>ldW false 1 t25 a λt26=>iL t26 λt27=>aS .sub t27 t13 λt29=>K (.tuple #[t29,.nilIface]) a
def aBj(h:aGW v0 v1 w K):aL P0 127 [v0,v1] w K:=
 tie _ 127 Tryz.f127 Yp _ w K 2 _ rfl mixed Tryz.func127 (by kernel_rfl) (by kernel_rfl) Tryz.call127 h
def Ym:fG:={js:=[],ds:=[]}
def aGT(v0 a:Value)(w:World)(K:Q0):=aL P0 171 [v0,a] w λt7 w1=>aS .geq t7 (i64 0) λt8=>K t8 w1
def aBf(h:aGT v0 v1 w K):aL P0 134 [v0,v1] w K:=
 tie _ 134 Tryz.f134 Ym _ w K 2 _ rfl mixed Tryz.func134 (by kernel_rfl) (by kernel_rfl) Tryz.call134 h
def Yd:fG:={js:=[(6,⟨[8],[4,5],8⟩)],ds:=[]}
def aGK(v0 b:Value)(w:World)(K:Q0):=iL v0 λt7=>eK [(i64 0)] w λs1 _ w2 c=>aS .lss (s1.getD 0 undef) t7 λt9=>bE t9 (fX none 3 v0 (s1.getD 0 undef) λt14=>ldW true 3 t14 w2 λt15=>qN P0 b [t15] w2 λt16 a=>bE t16 (K (s1.getD 0 undef) a) (aS .add (s1.getD 0 undef) (i64 1) λt18=>c [t18] a)) (K (.int .i64 (-1)) w2)
def aA6(h:aGK v0 v1 w K):aL P0 143 [v0,v1] w K:=
 tie _ 143 Tryz.f143 Yd _ w K 2 _ rfl mixed Tryz.func143 (by kernel_rfl) (by kernel_rfl) Tryz.call143 h
def Yc:fG:={js:=[(6,⟨[8],[4,5],8⟩)],ds:=[]}
def aGJ(v0 b:Value)(w:World)(K:Q0):=iL v0 λt7=>eK [(i64 0)] w λs1 _ w2 c=>aS .lss (s1.getD 0 undef) t7 λt9=>bE t9 (fX none 3 v0 (s1.getD 0 undef) λt14=>ldW true 3 t14 w2 λt15=>qN P0 b [t15] w2 λt16 a=>bE t16 (K (s1.getD 0 undef) a) (aS .add (s1.getD 0 undef) (i64 1) λt18=>c [t18] a)) (K (.int .i64 (-1)) w2)
def aA5(h:aGJ v0 v1 w K):aL P0 144 [v0,v1] w K:=
 tie _ 144 Tryz.f144 Yc _ w K 2 _ rfl mixed Tryz.func144 (by kernel_rfl) (by kernel_rfl) Tryz.call144 h
def Yb:fG:={js:=[(65,⟨[],[4,9,10],46⟩),(26,⟨[],[],2⟩),(39,⟨[8],[4],7⟩),(16,⟨[5],[],1⟩)],ds:=[]}
def aGI(v0 e:Value)(w:World)(K:Q0):=aS .eql e (str []) λt12=>bE t12 (K (.int .i64 (-1)) w) (kQ e λt14=>aS .eql t14 (i64 1) λt15=>bE t15 (qM e (i64 0) λt17=>AE .i32 t17 λt18=>dE (λn=>aS .geq t18 (.int .i32 128) λt20=>bE t20 (n [(.int .i32 65533)] w) (n [t18] w)) λs1 _ w2=>aL P0 189 [v0,(s1.getD 0 undef)] w2 λt23 q=>K t23 q) (dE (λm=>kQ v0 λt25=>aL P0 190 [t25] w λt26 l=>bE t26 (aL P0 191 [e] l λt29 p=>kH 0 t29 λt30=>kH 1 t29 λt31=>eD 243 (List.replicate 256 (.bool false)) p λt6 o=>stW 256 t6 t30 o λk=>bE t31 (eK [(i64 0)] k λf _ d s=>kQ v0 λt35=>aS .lss (f.getD 0 undef) t35 λt36=>bE t36 (qM v0 (f.getD 0 undef) λt41=>aL P0 192 [t6,t41] d λt42 c=>bE t42 (K (f.getD 0 undef) c) (aS .add (f.getD 0 undef) (i64 1) λt38=>s [t38] c)) (K (.int .i64 (-1)) d)) (m [] k)) (m [] l)) λt _ i=>fV P0 (Instr.range 9 v0) i λt45 h=>eK [] h λr _ g j=>fV P0 (Instr.next t45 true 0) g λt46 b=>kH 0 t46 λt47=>bE t47 (kH 1 t46 λt48=>kH 2 t46 λt49=>aL P0 189 [e,t49] b λt52 a=>aS .geq t52 (i64 0) λt53=>bE t53 (K t48 a) (j [] a)) (K (.int .i64 (-1)) b)))
def aA4(h:aGI v0 v1 w K):aL P0 145 [v0,v1] w K:=
 tie _ 145 Tryz.f145 Yb _ w K 2 _ rfl mixed Tryz.func145 (by kernel_rfl) (by kernel_rfl) Tryz.call145 h
def Ya:fG:={js:=[],ds:=[]}
def aGH(v0 a:Value)(w:World)(K:Q0):=aL P0 197 [v0,a] w λt7 w1=>K t7 w1
def aA3(h:aGH v0 v1 w K):aL P0 148 [v0,v1] w K:=
 tie _ 148 Tryz.f148 Ya _ w K 2 _ rfl mixed Tryz.func148 (by kernel_rfl) (by kernel_rfl) Tryz.call148 h
def XW:fG:={js:=[(6,⟨[8],[4,5],8⟩)],ds:=[]}
def aGD(v0 a:Value)(w:World)(K:Q0):=iL v0 λt7=>eK [(i64 0)] w λs1 _ w2 b=>aS .lss (s1.getD 0 undef) t7 λt9=>bE t9 (fX none 1 v0 (s1.getD 0 undef) λt14=>ldW false 1 t14 w2 λt15=>aS .eql a t15 λt16=>bE t16 (K (s1.getD 0 undef) w2) (aS .add (s1.getD 0 undef) (i64 1) λt18=>b [t18] w2)) (K (.int .i64 (-1)) w2)
def aAZ(h:aGD v0 v1 w K):aL P0 154 [v0,v1] w K:=
 tie _ 154 Tryz.f154 XW _ w K 2 _ rfl mixed Tryz.func154 (by kernel_rfl) (by kernel_rfl) Tryz.call154 h
def XR:fG:={js:=[],ds:=[]}
def aGz(v0 a:Value)(w:World)(K:Q0):=AE .u32 a λt6=>aS .leq t6 (.int .u32 127) λt7=>bE t7 (AE .u8 a λt10=>gP 5 1 [(.int .u8 0)] [(0,1,t10)] w λt11 w1=>fV P0 (Builtin.append_ #[80,80] 80 #[v0,t11]) w1 λt12 w2=>K t12 w2) (aL P0 207 [v0,a] w λt15 b=>K t15 b)
def aAV(h:aGz v0 v1 w K):aL P0 166 [v0,v1] w K:=
 tie _ 166 Tryz.f166 XR _ w K 2 _ rfl mixed Tryz.func166 (by kernel_rfl) (by kernel_rfl) Tryz.call166 h
def XQ:fG:={js:=[(6,⟨[8],[4,5],8⟩)],ds:=[]}
def aGy(v0 b:Value)(w:World)(K:Q0):=iL v0 λt7=>eK [(i64 0)] w λs1 _ w2 c=>aS .lss (s1.getD 0 undef) t7 λt9=>bE t9 (fX none 1 v0 (s1.getD 0 undef) λt14=>ldW false 1 t14 w2 λt15=>qN P0 b [t15] w2 λt16 a=>bE t16 (K (s1.getD 0 undef) a) (aS .add (s1.getD 0 undef) (i64 1) λt18=>c [t18] a)) (K (.int .i64 (-1)) w2)
def aAU(h:aGy v0 v1 w K):aL P0 171 [v0,v1] w K:=
 tie _ 171 Tryz.f171 XQ _ w K 2 _ rfl mixed Tryz.func171 (by kernel_rfl) (by kernel_rfl) Tryz.call171 h
def XC:fG:={js:=[],ds:=[]}
def aGl(v0 a:Value)(w:World)(K:Q0):=aL P0 213 [v0,a] w λt7 w1=>aS .geq t7 (i64 0) λt8=>K t8 w1
def aAH(h:aGl v0 v1 w K):aL P0 184 [v0,v1] w K:=
 tie _ 184 Tryz.f184 XC _ w K 2 _ rfl mixed Tryz.func184 (by kernel_rfl) (by kernel_rfl) Tryz.call184 h
def Xy:fG:={js:=[],ds:=[]}
def aGi(v0 a:Value)(w:World)(K:Q0):=aL P0 214 [v0,a] w λt7 w1=>aS .geq t7 (i64 0) λt8=>K t8 w1
def aAE(h:aGi v0 v1 w K):aL P0 187 [v0,v1] w K:=
 tie _ 187 Tryz.f187 Xy _ w K 2 _ rfl mixed Tryz.func187 (by kernel_rfl) (by kernel_rfl) Tryz.call187 h
def Xw:fG:={js:=[(144,⟨[],[4],16⟩),(153,⟨[16],[],16⟩),(147007,⟨[138],[],133⟩),(137,⟨[9],[4,9],16⟩),(108002,⟨[97],[],85⟩),(108006,⟨[96],[],93⟩),(108008,⟨[92],[],85⟩),(108013,⟨[90],[],86⟩),(108014,⟨[85],[],85⟩),(108020,⟨[82],[],79⟩),(108026,⟨[76],[],73⟩),(82,⟨[12],[],10⟩),(62,⟨[9],[4],9⟩),(53,⟨[9],[4],9⟩),(16,⟨[],[4,5,6],176⟩),(4004,⟨[165],[],164⟩)],ds:=[(163,⟨[0,1,2,3,4,5,6,7,8,9,10],[[],[],[],[1,2],[0,1,2,3],[],[],[],[6,7],[5,6,7,8],[0,1,2,3,4,5,6,7,8,9]]⟩),(92,⟨[0,1,2,3,4,5,6,7,8,9,10],[[],[],[],[1,2],[0,1,2,3],[],[],[],[6,7],[5,6,7,8],[0,1,2,3,4,5,6,7,8,9]]⟩),(67,⟨[0,1,2,3,4,5,6,8],[[],[],[1],[0,1,2],[],[],[4,5],[0,1,2,3,4,5,6],[0,1,2,3,4,5,6,7]]⟩),(64,⟨[0,1,2,3,4,5,6],[[],[],[0,1],[],[],[3,4],[0,1,2,3,4,5]]⟩)]}
def aGg(v0 c:Value)(w:World)(K:Q0):=aS .leq (.int .i32 0) c λt162=>GdW (isB t162 true) [undef] w (λq=>aS .lss c (.int .i32 128) λt165=>q [t165] w) λs1 _ w2=>fN t162 (s1.getD 0 undef) (.bool false) λt166=>bE t166 (AE .u8 c λt169=>aL P0 104 [v0,t169] w2 λt170 o=>K t170 o) (aS .eql c (.int .i32 65533) λt173=>bE t173 (fV P0 (Instr.range 9 v0) w2 λt175 n=>eK [] n λr _ m p=>fV P0 (Instr.next t175 true 0) m λt176 i=>kH 0 t176 λt177=>bE t177 (kH 1 t176 λt178=>kH 2 t176 λt179=>aS .eql t179 (.int .i32 65533) λt181=>bE t181 (K t178 i) (p [] i)) (K (.int .i64 (-1)) i)) (aL P0 215 [c] w2 λt185 l=>unW .not t185 λt186=>bE t186 (K (.int .i64 (-1)) l) (RU c λt18=>kQ t18 λt20=>aS .sub t20 (i64 1) λt21=>eK [t21] l λf _ b s=>kQ v0 λt25=>aS .lss (f.getD 0 undef) t25 λt26=>bE t26 (dE (λh=>qM v0 (f.getD 0 undef) λt29=>qM t18 t21 λt32=>aS .neq t29 t32 λt33=>bE t33 (aS .add (f.getD 0 undef) (i64 1) λt36=>rY v0 (some t36) none λt37=>qM t18 t21 λt40=>aL P0 104 [t37,t40] b.drew.drew λt41 e=>aS .lss t41 (i64 0) λt43=>bE t43 (K (.int .i64 (-1)) e) (aS .add t41 (i64 1) λt46=>aS .add (f.getD 0 undef) t46 λt47=>h [t47] e)) (h [(f.getD 0 undef)] b.drew)) λg _ j=>eK [(i64 1)] j λa _ d k=>kQ t18 λt50=>aS .lss (a.getD 0 undef) t50 λt51=>bE t51 (aS .sub (g.getD 0 undef) (a.getD 0 undef) λt57=>qM v0 t57 λt58=>aS .sub t21 (a.getD 0 undef) λt62=>qM t18 t62 λt63=>aS .neq t58 t63 λt64=>bE t64 (False) (aS .add (a.getD 0 undef) (i64 1) λt53=>k [t53] d.drew)) (aS .sub (g.getD 0 undef) t21 λt67=>K t67 d)) (K (.int .i64 (-1)) b))))
def aAC(h:aGg v0 v1 w K):aL P0 189 [v0,v1] w K:=
 tie _ 189 Tryz.f189 Xw _ w K 2 _ rfl mixed Tryz.func189 (by kernel_rfl) (by kernel_rfl) Tryz.call189 h
def Xv:fG:={js:=[],ds:=[]}
def aGf(v0 a:Value)(w:World)(K:Q0):=aL P0 103 [v0,a] w λt7 w1=>bE t7 (kQ a λt10=>rY v0 (some t10) none λt11=>K t11 w1) (K v0 w1)
def aAB(h:aGf v0 v1 w K):aL P0 197 [v0,v1] w K:=
 tie _ 197 Tryz.f197 Xv _ w K 2 _ rfl mixed Tryz.func197 (by kernel_rfl) (by kernel_rfl) Tryz.call197 h
def Xr:fG:={js:=[(22004,⟨[55],[],54⟩),(11,⟨[25],[],6⟩),(16004,⟨[32],[],31⟩)],ds:=[]}
def aGb(v0 a:Value)(w:World)(K:Q0):=AE .u32 a λt7=>aS .leq t7 (.int .u32 2047) λt13=>bE t13 (aS .shr a (.int .u64 6) λt16=>AE .u8 t16 λt17=>aS .or (.int .u8 192) t17 λt18=>AE .u8 a λt20=>aS .and t20 (.int .u8 63) λt21=>aS .or (.int .u8 128) t21 λt22=>gP 5 2 [(.int .u8 0),(.int .u8 0)] [(0,1,t18),(1,1,t22)] w λt23 w1=>fV P0 (Builtin.append_ #[80,80] 80 #[v0,t23]) w1 λt24 w2=>K t24 w2) (dE (λh=>aS .lss t7 (.int .u32 55296) λt27=>bE t27 (h [t27] w) (aS .lss (.int .u32 57343) t7 λt29=>GdW (isB t29 true) [undef] w (λp=>aS .leq t7 (.int .u32 65535) λt32=>p [t32] w) λm _ k=>fN t29 (m.getD 0 undef) (.bool false) λt33=>h [t33] k)) λn _ c=>bE (n.getD 0 undef) (aS .shr a (.int .u64 12) λt36=>AE .u8 t36 λt37=>aS .or (.int .u8 224) t37 λt38=>aS .shr a (.int .u64 6) λt40=>AE .u8 t40 λt41=>aS .and t41 (.int .u8 63) λt42=>aS .or (.int .u8 128) t42 λt43=>AE .u8 a λt45=>aS .and t45 (.int .u8 63) λt46=>aS .or (.int .u8 128) t46 λt47=>gP 5 3 [(.int .u8 0),(.int .u8 0),(.int .u8 0)] [(0,1,t38),(1,1,t43),(2,1,t47)] c λt48 j=>fV P0 (Builtin.append_ #[80,80] 80 #[v0,t48]) j λt49 i=>K t49 i) (aS .gtr t7 (.int .u32 65535) λt52=>GdW (isB t52 true) [undef] c (λo=>aS .leq t7 (.int .u32 1114111) λt55=>o [t55] c) λl _ b=>fN t52 (l.getD 0 undef) (.bool false) λt56=>bE t56 (aS .shr a (.int .u64 18) λt59=>AE .u8 t59 λt60=>aS .or (.int .u8 240) t60 λt61=>aS .shr a (.int .u64 12) λt63=>AE .u8 t63 λt64=>aS .and t64 (.int .u8 63) λt65=>aS .or (.int .u8 128) t65 λt66=>aS .shr a (.int .u64 6) λt68=>AE .u8 t68 λt69=>aS .and t69 (.int .u8 63) λt70=>aS .or (.int .u8 128) t70 λt71=>AE .u8 a λt73=>aS .and t73 (.int .u8 63) λt74=>aS .or (.int .u8 128) t74 λt75=>gP 5 4 [(.int .u8 0),(.int .u8 0),(.int .u8 0),(.int .u8 0)] [(0,1,t61),(1,1,t66),(2,1,t71),(3,1,t75)] b λt76 g=>fV P0 (Builtin.append_ #[80,80] 80 #[v0,t76]) g λt77 f=>K t77 f) (gP 5 3 [(.int .u8 0),(.int .u8 0),(.int .u8 0)] [(0,1,(.int .u8 239)),(1,1,(.int .u8 191)),(2,1,(.int .u8 189))] b λt9 e=>fV P0 (Builtin.append_ #[80,80] 80 #[v0,t9]) e λt10 d=>K t10 d)))
def aAx(h:aGb v0 v1 w K):aL P0 207 [v0,v1] w K:=
 tie _ 207 Tryz.f207 Xr _ w K 2 _ rfl mixed Tryz.func207 (by kernel_rfl) (by kernel_rfl) Tryz.call207 h
def Xo:fG:={js:=[(6,⟨[8],[4,5],8⟩)],ds:=[]}
def aF8(v0 b:Value)(w:World)(K:Q0):=iL v0 λt7=>eK [(i64 0)] w λs1 _ w2 c=>aS .lss (s1.getD 0 undef) t7 λt9=>bE t9 (fX none 9 v0 (s1.getD 0 undef) λt14=>ldW true 9 t14 w2 λt15=>qN P0 b [t15] w2 λt16 a=>bE t16 (K (s1.getD 0 undef) a) (aS .add (s1.getD 0 undef) (i64 1) λt18=>c [t18] a)) (K (.int .i64 (-1)) w2)
def aAt(h:aF8 v0 v1 w K):aL P0 213 [v0,v1] w K:=
 tie _ 213 Tryz.f213 Xo _ w K 2 _ rfl mixed Tryz.func213 (by kernel_rfl) (by kernel_rfl) Tryz.call213 h
def Xn:fG:={js:=[(6,⟨[8],[4,5],8⟩)],ds:=[]}
def aF7(v0 b:Value)(w:World)(K:Q0):=iL v0 λt7=>eK [(i64 0)] w λs1 _ w2 c=>aS .lss (s1.getD 0 undef) t7 λt9=>bE t9 (fX none 4 v0 (s1.getD 0 undef) λt14=>ldW true 4 t14 w2 λt15=>qN P0 b [t15] w2 λt16 a=>bE t16 (K (s1.getD 0 undef) a) (aS .add (s1.getD 0 undef) (i64 1) λt18=>c [t18] a)) (K (.int .i64 (-1)) w2)
def aAs(h:aF7 v0 v1 w K):aL P0 214 [v0,v1] w K:=
 tie _ 214 Tryz.f214 Xn _ w K 2 _ rfl mixed Tryz.func214 (by kernel_rfl) (by kernel_rfl) Tryz.call214 h
end
section
open Go Go.Eng Go.RowKit Go.Syn Go.Lex
abbrev DT:TypeId:=29
def kB(t:Tok):List Value:=[i64 t.k,str t.t,i64 t.a]
def CE(w:World)(p:Nat):Nat:=match w.heap[p]? with|some (.cells c _ _)=>(match(c[1]?:Option Value)with|some (Value.int _ i)=>i.toNat|_=>0)|_=>0
def PR.at_{w0:World}{f:Nat}{M:Lay}{s:PS}(h:PR w0 w p f M v s u):CE w p=s.i:=by
 unfold CE;rw[h.ps];simp
def wsi{N:Int}{s:PS}(h:WS N s)(a:s.toks.length<=100000):s.i<=1000000:=by have:=h.lt;omega
section
variable [HX]
def Thr(w0:World)(f:Nat)(code at_:Int):Prop:=
 ∀(d:Nat) (w':World) (cs:List Value),Chg (Of f) w0 w'->w0.heap.size<=d->cs.length=3->w'.heap[f]?=some (.cells cs.toArray FlT (0,0))->w'.heap[d]?=some (.cells [i64 code,str [],i64 at_].toArray 48 (0,0))->HX.X [{v:=.iface DT (.pointer (some ⟨d,0,none⟩)),recovered:=false}] w'
section
variable{w0 w:World}{p f:Nat}{M:Lay}{vt:Value}{s:PS}{top:List Nat}{N:Int}{K:Q0}
def uM{e:Int}(h:PR w0 w p f M vt s top)(g:Thr w0 f e a):aL P0 33 [i64 e,i64 a] w K:=by
 refine aEO ?_;unfold W33;simp only[eG,eP,dW,aA,aD,aP,aU];refine⟨by omega,by omega,?_⟩;refine gF (z:=[i64 e,str [],i64 a]) λd W k j i c=>?_;have b:=h.ext c;exact g d W _ b.ch (by have:=h.base;omega) (by rfl) b.fr.hf i
def yD:∀{l:List Tok} {i:Nat} {t:Tok},l[i]?=some t->kK (l.drop i)=if t.k=5 then kK (l.drop (i+1))+1 else 0:=by
 intro l i t h;have a:=(bJ.1 h).1;rw[eW a,(bJ.1 h).2];rfl
theorem rW(h:PR w0 w p f M vt s top)(hs:WS N s)(hN:N<=1000000)(hl:s.toks.length<=100000)(hK:∀W,PR w0 W p f M vt (bK s) top->Eff p f M M w W->K (.agg (kB (cur s)).toArray) W):
  aL P0 31 [.pointer (some ⟨p,0,none⟩)] w K:=by
 refine aEQ ?_;unfold W31;refine cO λb w1 hb ho hx P=>?_;have hp:=h.lt;have h1:=h.ext P;have L1:=h.loc ho hb hx;refine eK.go (λst W=>st=[]/\∃j,PR w0 W p f M vt {s with i:=j} top/\s.i<=j/\bK {s with i:=j}=bK s/\j<=(bK s).i/\Eff p f M M w W/\Loc w0 W p f M vt b TkT [i64 0,str [],i64 0]) (λ_ W=>s.toks.length-CE W p)
  ⟨rfl,s.i,h1,aQ _,rfl,LQ s,Eff.ext P,L1⟩ ?_
 rintro st g w2 ⟨rfl,j,X,hj,m,xr,E,L2⟩;have hg:=kF hs;have D:j<s.toks.length:=by have:=(hg.ws hs).lt;rw[hg.toks]at this;omega
 have Q:WS N {s with i:=j}:=⟨hs.tg,D,hs.pN⟩;obtain⟨t,I⟩:∃t,s.toks[j]?=some t:=⟨_,aH D⟩;have H:=X.drew;have sl:SlAt w2.drew TkT vt s.toks.length (toks s.toks):=H.tk;have stop:bK {s with i:=j}={s with i:=j}->fA (.pointer (some ⟨p,0,none⟩)) (λt30=>bF 0 t30 λt31=>ldW false 1 t31 w2.drew.drew λt32=>fA (.pointer (some ⟨p,0,none⟩)) λt34=>bF 1 t34 λt35=>ldW false 1 t35 w2.drew.drew λt36=>fX none 3 t32 t36 λt37=>ldW true 3 t37 w2.drew.drew λt38=>eD TkT [(.int .i64 0),(.string (ofL [])),(.int .i64 0)] w2.drew.drew λt3 n=>(ldW true 3 t37 n λx=>x=t38)/\(ldW false 1 t35 n λx=>x=t36)/\(ldW false 1 t31 n λx=>x=t32)/\stW 3 t3 t38 n λB=>bF 2 t3 λt39=>ldW false 1 t39 B.drew λt40=>fA (.pointer (some ⟨p,0,none⟩)) λt42=>bF 2 t42 λt43=>ldW false 1 t43 B.drew λt44=>aS .add t40 t44 λt45=>bF 2 t3 λt46=>stW 1 t46 t45 B.drew λL=>ldW true 3 t3 L λt47=>stW 3 (.pointer (some ⟨b,0,none⟩)) t47 L λJ=>ldW true 3 (.pointer (some ⟨b,0,none⟩)) J λhe=>K he J):=λhn=>by
  have A:=H.drew;have Y:cur s={t with a:=t.a+s.off}:=by
   unfold cur;rw[<-m,hn];have:pH {s with i:=j}=t:=by unfold pH;rw[aM,I];rfl
   rw[this]
  have S:=Q.tg.pos j t I;simp only at S;have hf:∀{W:World},PR w0 W p f M vt {s with i:=j} top->ldW false 1 (.pointer (some ((⟨p,0,none⟩:Addr).add 0))) W λx=>x=vt:=λh=>by
   rw[fB];exact⟨vt,by rw[bN,cS,h.ps,bT];rfl,rfl⟩
  have hh:∀{W:World},PR w0 W p f M vt {s with i:=j} top->ldW false 1 (.pointer (some ((⟨p,0,none⟩:Addr).add 1))) W λx=>x=i64 (j:Nat):=λh=>by
   rw[fB];exact⟨_,by rw[bN,cS,h.ps,bT];rfl,rfl⟩
  refine A.ld rfl ?_;refine A.ld rfl ?_;refine ED (size:=3) A.tk (Gt _) (by omega) D λO o c fr u hc=>?_;have d:∀i,i<3->c[o+i]?=(kB t)[i]?:=λi hi=>by rw[hc i hi];exact KY I hi
  have three:∀{W:World},W.heap[O]?=some (.cells c TkT fr)->bZ W ⟨O,o,none⟩ 0 3=some (kB t):=λh=>by
   have h0:=d 0 (by omega);have h1:=d 1 (by omega);have X:=d 2 (by omega);simp only[kB,bL,bG,bI]at h0 h1 X;simp only[bZ,bN,cS,h,bT,bL,h0,h1,X,aK,Nat.reduceAdd];rfl
  rw[Au];refine⟨kB t,three u,?_⟩;refine cO λb2 w5 hz hm V r=>?_;have h5:=A.ext r;have L5:=A.loc hm hz V;have R:=r.at u id;refine⟨by rw[Au];exact⟨_,three R,rfl⟩,hh h5,hf h5,?_⟩;refine dH (l:=kB t) L5.1 rfl rfl rfl λw6 xm hy G=>?_;have L6:Loc w0 w6 p f M vt b2 TkT (kB t):=⟨hy,L5.2.up (by omega)⟩;have h6:=h5.one G L5.2;refine L6.drew.ldf rfl ?_;refine h6.drew.ld (v:=i64 s.off) rfl ?_;rw[cP,fZ (by omega) (by omega),bH,bN,aN];refine L6.drew.st rfl (by simp[kB]) λw7 L7 F xl=>?_;have h7:=h6.drew.one F L6.drew.2;refine gL (l:=kB (cur s)) (by rw[L7.1,Y];rfl) rfl ?_;have z:b2≠b:=by have:=L2.lt;have:w2.drew.drew.heap.size=w2.heap.size:=rfl;omega
  have Z:=(((L2.drew.drew.ext r).one G (kY z)).drew.one F (kY z));refine Am (l:=kB (cur s)) Z.1 rfl rfl rfl λw8 U=>?_;have h8:=h7.one U Z.2;refine hK w8 (by rw[<-m,hn];exact h8) ?_;have xo:=E.chg.size;have z1:w2.drew.drew.heap.size=w2.heap.size:=rfl;exact((((((E.x (cQ _)).x (cQ _)).x r).one G (by omega)).x (cQ _)).one F (by omega)).one U (by omega)
 by_cases C:s.quiet=true
 .refine H.ld (v:=.bool true) (by simp[C]) ?_;simp only[gX,VZ];refine⟨_,rfl,_,rfl,_,rfl,vt,by rw[fB];exact⟨vt,by rw[bN,cS,H.ps,bT];rfl,rfl⟩,_,rfl,_,rfl,_,rfl,i64 (j:Nat),by rw[fB];exact⟨_,by rw[bN,cS,H.ps,bT];rfl,rfl⟩,?_⟩;obtain⟨q,cap,hv,g1,g2,g3⟩:=sl;have hr:toks s.toks≠[]:=λe=>by have:=congrArg List.length e;rw[Gt,aD]at this;omega
  obtain⟨O,o,c,fr,rfl,u,hw⟩:=g3 hr;have xe:(toks s.toks).length=s.toks.length*3:=Gt _;refine⟨.pointer (some ((⟨O,o,none⟩:Addr).add (j*3))),?_,.pointer (some (((⟨O,o,none⟩:Addr).add (j*3)).add 0)),rfl,i64 t.k,?_,.bool (decide (t.k=5)),by rw[bW],?_⟩
  .rw[hv,fI];exact⟨by omega,by omega,by rw[bD]⟩
  .rw[fB];refine⟨_,?_,rfl⟩;rw[bN,bN,cS,u,bT,bL,hw _ (by omega)];have:=KY (j:=0) I (by omega);rw[bL]at this;exact this
  rw[iZ,aY];refine⟨λhk=>?_,λhk=>stop ?_⟩
  .have y:bK {s with i:=j+1}=bK s:=by
    rw[<-m];unfold bK;simp only[C,mE];have e:=yD I;rw[aO hk]at e;rw[e];congr 1;omega
   refine H.go (wsi Q hl) λw4 A T xn=>?_;refine⟨⟨trivial,j+1,A,by omega,y,?_,(E.x (cQ _)).trans T,L2.drew.eff T⟩,?_⟩
   .rw[<-y];exact LQ {s with i:=j+1}
   .rw[A.at_,X.at_];simp only[step1];omega
  .have e:=yD I;rw[aE hk]at e;unfold bK;simp only[C,mE,e,bL]
 .have C:s.quiet=false:=by simpa using C
  refine H.ld (v:=.bool false) (by simp[C]) ?_;simp only[gX,Ng];rw[iN,cI];exact stop (by unfold bK;simp only[C];rfl)
end
end
def xU{xs:List Value}(h:SlAt w T v n xs)(g:Chg S w W)(j:∀k,v.ownBlock=some k->¬S k):SlAt W T v n xs:=by
 obtain⟨q,cap,e,o,m,l⟩:=h;refine⟨q,cap,e,o,m,λa=>?_⟩;obtain⟨b,off,c,fr,f,i,d⟩:=l a;exact⟨b,off,c,fr,f,g.at i (j b (by rw[e,f];rfl)),d⟩
def aHn(w0 w:World)(p f:Nat)(M:Lay)(vt:Value)(v:Value)(T:TypeId)(n:Nat)(cs:List Value):Prop:=SlAt w T v n cs/\∀k,v.ownBlock=some k->Off w0 w p f M vt k
def upi(h:i<=4611686018427387904):IntKind.i64.wrap ((i:Int)+1)=((i+1:Nat):Int):=by rw[fZ (by omega) (by omega)];rfl
def vQ:List Str->Str->Nat->Int
 |[],_,_=>-1
 |a::r,x,i=>if x=a then(i:Nat)else vQ r x (i+1)
def Lf(x:Str):∀(l:List Str) (i:Nat),(0<=vQ l x i↔x∈l)
 |[],i=>by simp[vQ]
 |a::r,i=>by
  simp only[vQ]
  split
  .rename_i h
   simp[h]
  .rename_i h
   rw[Lf x r (i+1)]
   simp[h]
def yJ{x:Str}(g:∀b W,b=w.heap.size->W.heap.size=w.heap.size+1->W.heap[b]?=some (.cells [str x].toArray StT (0,0))->Ext w W->K (.slice (some ⟨b,0,none⟩) 1 1) W):gP StT 1 [(.string (ofL []))] [(0,1,str x)] w K:=by
 rw[gP];simp only[eP,dW,aA,aD,aP];refine⟨by omega,?_⟩;exact row_new λa W f c e d _=>g a W f c e d
def nU{x:Int}(g:∀b W,b=w.heap.size->W.heap.size=w.heap.size+1->W.heap[b]?=some (.cells [i64 x].toArray mA (0,0))->Ext w W->K (.slice (some ⟨b,0,none⟩) 1 1) W):gP mA 1 [(.int .i64 0)] [(0,1,i64 x)] w K:=by
 rw[gP];simp only[eG,dW,aA,aD,aP];refine⟨by omega,?_⟩;exact row_new λa W f c e d _=>g a W f c e d
def MO{x y:Int}(g:∀b W,b=w.heap.size->W.heap.size=w.heap.size+1->W.heap[b]?=some (.cells [i64 x,i64 y].toArray mA (0,0))->Ext w W->K (.slice (some ⟨b,0,none⟩) 2 2) W):gP mA 2 [(.int .i64 0),(.int .i64 0)] [(0,1,i64 x),(1,1,i64 y)] w K:=by
 rw[gP];simp only[eG,dW,aA,aD,aP,aU];refine⟨by omega,by omega,?_⟩;exact row_new λa W f c e d _=>g a W f c e d
def Vu{x y:Int}(g:∀b W,b=w.heap.size->W.heap.size=w.heap.size+1->W.heap[b]?=some (.cells [i64 x,i64 y,i64 z].toArray mA (0,0))->Ext w W->K (.slice (some ⟨b,0,none⟩) 3 3) W):gP mA 3 [(.int .i64 0),(.int .i64 0),(.int .i64 0)] [(0,1,i64 x),(1,1,i64 y),(2,1,i64 z)] w K:=by
 rw[gP];simp only[eG,dW,aA,aD,aP,aU];refine⟨by omega,by omega,by omega,?_⟩;exact row_new λa W f c e d _=>g a W f c e d
def Ec{z:List Value}(h:d.length=n)(c:z.length=n)(k:∀b W,b=w.heap.size->W.heap.size=w.heap.size+1->W.heap[b]?=some (.cells d.toArray T (0,0))->Ext w W->K (.slice (some ⟨b,0,none⟩) 1 1) W):gP T 1 z [(0,n,.agg d.toArray)] w K:=by
 rw[gP];simp only[kE,Value.cells];refine⟨by simpa using h,by omega,?_⟩;have e:(z.take 0++(d++z.drop (0+n)))=d:=by rw[rU,dS,aN,<-c,iH,dL]
 rw[e];exact row_new λa W j f i g _=>k a W j f i g
def Dd{b:Nat}(h:w.heap[b]?=some (.cells cs.toArray T (0,0)))(a:cs.length=n):SlAt w T (.slice (some ⟨b,0,none⟩) n n) n cs:=
 ⟨_,_,rfl,aQ _,λe=>(by cases e),λ_=>⟨b,0,cs.toArray,_,rfl,h,λi _=>by simp⟩⟩
def TY{B b:Nat}(h:w.heap[b]?=some (.cells cs.toArray T (0,0)))(c:B<=b)(a:cs.length=n*m)(d:n<=1000000):Own w B T m (.slice (some ⟨b,0,none⟩) n n) n cs:=
 ⟨a,.inr ⟨b,n,cs.toArray,rfl,c,h,aQ _,by unfold maxLen;omega,by simpa using a,by simp[<-a]⟩⟩
def Kh{f:Nat}{a b d:List Nat}(h:(f::(a++b)).Nodup)(j:∀k∈f::(a++b),k<n)(o:u.Nodup)(q:∀k∈u,k∈a\/n<=k)(r:d.Nodup)(c:∀k∈d,k<n/\k∉f::(a++b)):(f::(u++(d++b))).Nodup:=by
 rw[dX,iE]at h;obtain⟨p,_,s,m⟩:=h;have new:∀k∈u,k∉b/\k≠f/\k∉d:=λk i=>by
  rcases q k i with i|i
  .exact⟨λe=>m k i k e rfl,λe=>p (e▸cH _ i),λe=>(c k e).2 (aF _ (cH _ i))⟩
  .exact⟨λe=>by have:=j k (aF _ (bR _ e));omega,λe=>by have:=j k (by rw[e];exact bC);omega,λe=>by have:=(c k e).1;omega⟩
 rw[dX];refine⟨λe=>?_,?_⟩
 .rcases bM.1 e with e|e
  .exact(new f e).2.1 rfl
  rcases bM.1 e with e|e
  .exact(c f e).2 bC
  .exact p (bR _ e)
 .refine iE.2 ⟨o,iE.2 ⟨r,s,λx l y g e=>?_⟩,λx l y g e=>?_⟩
  .subst e;exact(c x l).2 (aF _ (bR _ g))
  .subst e;rcases bM.1 g with g|g
   .exact(new x l).2.2 g
   .exact(new x l).1 g
def Ad(v:Value)(c:List Value):ub (v::c)=ub [v]++ub c:=by
 rw[<-qE];rfl
def qQ(v:Value):(ub [v]).Nodup:=by
 unfold ub;cases h:v.ownBlock with
 |none=>simp[h]
 |some k=>simp[h]
def Nn(M:Lay)(f:Nat):M.uses f=f::(ub [M.vE]++ub ([M.vB,M.vT]++(M.cE++M.cB))):=by
 unfold Lay.uses;rw[fS,Ad]
def Wg(M:Lay)(f:Nat)(v:Value)(d:List Value):(({M with vE:=v,cE:=M.cE++d}:Lay).uses f).Perm (f::(ub [v]++(ub d++ub ([M.vB,M.vT]++(M.cE++M.cB))))):=by
 rw[Aa];intro a;rw[Nn];simp only[qE,lT,AM];omega
def No(M:Lay)(f:Nat):(M.uses f).Perm (f::(ub [M.vB]++ub ([M.vE,M.vT]++(M.cE++M.cB)))):=by
 rw[Aa];intro a;unfold Lay.uses;simp only[qE,lT,AM];rw[Ad M.vE,Ad M.vB,Ad M.vE [M.vT]];simp only[lT];omega
def Wh(M:Lay)(f:Nat)(v:Value)(d:List Value):(({M with vB:=v,cB:=M.cB++d}:Lay).uses f).Perm (f::(ub [v]++(ub d++ub ([M.vE,M.vT]++(M.cE++M.cB))))):=by
 rw[Aa];intro a;rw[(No _ f).count_eq];simp only[qE,lT,AM];omega
section
variable{w0 w w1 w2:World}{p f:Nat}{M:Lay}{vt:Value}{s:PS}{top:List Nat}
theorem PR.putE(h:PR w0 w p f M vt s top){wb:World}{M0:Lay}(m:Eff p f M0 M wb w){e:Ex}{v':Value}(u:ExR w w0.heap.size e d)(o:∀k∈ub d,Off w0 w p f M vt k)(O:(ub d).Nodup)(z:∀k∈ub d,wb.heap.size<=k)
  (H:Own w1 w0.heap.size ExT 5 v' (s.ex.length+1) (M.cE++d))(E:Chg (λk=>M.vE.ownBlock=some k) w w1)(j:∀k,v'.ownBlock=some k->M.vE.ownBlock=some k\/w.heap.size<=k)
  (r:Chg (One f) w1 w2)(K:w2.heap[f]?=some (.cells [v',M.vB,M.vT].toArray FlT (0,0))):PR w0 w2 p f {M with vE:=v',cE:=M.cE++d} vt {s with ex:=s.ex++[e]} top/\Eff p f M0 {M with vE:=v',cE:=M.cE++d} wb w2/\∀b T cs,Loc w0 w p f M vt b T cs->b∉ub d->Loc w0 w2 p f {M with vE:=v',cE:=M.cE++d} vt b T cs:=by
 have R:=h.base;have N:=m.chg.size;have l:=Nn M f;have i:∀k,M.vE.ownBlock=some k->k∈M.uses f:=λk c=>aF _ (eZ (v:=M.vE) (by simp) c);have A:=h.fr.nd;rw[l,dX,iE]at A;obtain⟨nf,_,Q,C⟩:=A;have rest:∀k∈ub ([M.vB,M.vT]++(M.cE++M.cB)),M.vE.ownBlock≠some k/\k≠f/\k<w.heap.size:=λk c=>
  ⟨λe=>C k (kM.2 e) k c rfl,λe=>nf (e▸bR _ c),h.fr.lt k (by rw[l];exact aF _ (bR _ c))⟩
 have g:Chg (λk=>M.vE.ownBlock=some k\/k=f) w w2:=(E.mono λk _ e=>.inl e).trans (r.mono λk _ e=>.inr e);have sub:∀v∈[M.vB,M.vT]++(M.cE++M.cB),∀k,v.ownBlock=some k->¬(M.vE.ownBlock=some k\/k=f):=λv j k c e=>by
  have:=rest k (eZ j c);exact e.elim this.1 this.2.1
 have G:∀k,v'.ownBlock=some k->k≠f:=λk c e=>by
  subst e;rcases j k c with e|e
  .exact nf (cH _ (kM.2 e))
  .have:=pC h.fr.hf;omega
 have J:M.vE.ownBlock≠some p:=λe=>h.np (i p e);have I:p≠f:=λe=>h.np (e▸bC);have perm:=Wg M f v' d;have P:(f::(ub [v']++(ub d++ub ([M.vB,M.vT]++(M.cE++M.cB))))).Nodup:=Kh (n:=w.heap.size) (a:=ub [M.vE]) (by rw[<-l];exact h.fr.nd) (λk c=>h.fr.lt k (by rw[l];exact c)) (qQ _) (λk c=>(j k (kM.1 c)).imp (λe=>kM.2 e) id) O λk c=>⟨(o k c).1.2,by rw[<-l];exact(o k c).2.2.1⟩;have B:=g.size;have mem:∀k∈({M with vE:=v',cE:=M.cE++d}:Lay).uses f,k=f\/v'.ownBlock=some k\/k∈ub d\/k∈ub ([M.vB,M.vT]++(M.cE++M.cB)):=λk c=>by
  have c:=perm.mem_iff.1 c;rcases aX.1 c with e|e
  .exact .inl e
  rcases bM.1 e with e|e
  .exact .inr (.inl (kM.1 e))
  rcases bM.1 e with e|e
  .exact .inr (.inr (.inl e))
  .exact .inr (.inr (.inr e))
 have L:Chg (Tn p f M) w w2:=g.mono λk _ e=>e.elim (λe=>.inr (.inr (.inl e))) λe=>.inr (.inl e);refine⟨⟨?_,⟨K,?_,?_,?_,?_,?_,perm.nodup_iff.2 P,λk c=>?_,λk c=>?_⟩,?_,?_,λe=>?_,h.lo,λk c=>?_⟩,⟨(m.trans (Eff.of L)).chg,λk c=>?_,λk c=>(j k c).elim (m.hE k) λe=>.inr (by omega),m.hB,m.hT⟩,λb T cs t F=>⟨L.at t.1 t.2.no,⟨t.2.1.1,dM t.2.1.2 B⟩,t.2.2.1,λc=>?_,t.2.2.2.2⟩⟩
 .refine h.ch.then g λk c e=>?_;rcases e with e|e
  .exact(h.fr.lo k (i k e)).resolve_right (by omega)
  .exact e
 .rw[aB];exact eJ H r λk c e=>G k c e
 .exact eJ h.fr.oB g (sub _ (by simp))
 .exact eJ h.fr.oT g (sub _ (by simp))
 .refine lV.snoc ?_ (u.at_ g λk c e=>?_) (by obtain⟨va,vk,rfl,_⟩:=u;rfl)
  .refine h.fr.ee.imp λx d u D=>D.at_ g λk c=>?_;obtain⟨v,j,c⟩:=cA.1 c;exact sub v (by simp[u v j]) k c
  .have q:=(o k c).2.2.1;rcases e with e|e
   .exact q (i k e)
   .exact q (e▸bC)
 .refine h.fr.bb.imp λx d u D=>D.at_ g λk c=>?_;obtain⟨v,j,c⟩:=cA.1 c;exact sub v (by simp[u v j]) k c
 .rcases mem k c with e|e|e|e
  .rw[e];exact pC K
  .exact dM (lK H e).1 r.size
  .exact dM (o k e).1.2 B
  .exact dM (rest k e).2.2 B
 .rcases mem k c with e|e|e|e
  .exact .inl e
  .exact .inr (lK H e).2
  .exact .inr (o k e).1.1
  .exact h.fr.lo k (by rw[l];exact aF _ (bR _ e))
 .exact g.at h.ps λe=>e.elim J I
 .exact xU h.tk g λk c e=>by
   have:=(h.nt k c).1;rcases e with e|e
   .exact this (i k e)
   .exact this (e▸bC)
 .rcases mem p e with e|e|e|e
  .exact I e
  .exact(j p e).elim J λe=>by have:=h.lt;omega
  .exact(o p e).2.1 rfl
  .exact h.np (by rw[l];exact aF _ (bR _ e))
 .have y:=h.nt k c;refine⟨λe=>?_,y.2.1,dM y.2.2 B⟩;rcases mem k e with e|e|e|e
  .exact y.1 (e▸bC)
  .exact(j k e).elim (λe=>y.1 (i k e)) λe=>by omega
  .exact(o k e).2.2.2 c
  .exact y.1 (by rw[l];exact aF _ (bR _ e))
 .rcases mem k c with e|e|e|e
  .exact m.us k (e▸bC)
  .exact(j k e).elim (λe=>m.us k (i k e)) λe=>.inr (by omega)
  .exact .inr (z k e)
  .exact m.us k (by rw[l];exact aF _ (bR _ e))
 .have q:=t.2;rcases mem b c with e|e|e|e
  .exact q.2.2.1 (e▸bC)
  .exact(j b e).elim (λe=>q.2.2.1 (i b e)) λe=>by have:=q.1.2;omega
  .exact F e
  .exact q.2.2.1 (by rw[l];exact aF _ (bR _ e))
end
section
variable [HX]
variable{w0 w:World}{p f:Nat}{M:Lay}{vt:Value}{s:PS}{top:List Nat}{N:Int}{K:Q0}
def PT{l:List Str}{x:Str}(h:SlAt w T v l.length (strs l))(f:l.length<=1000000)(c:K (i64 (vQ l x 0)) w):aL P0 154 [v,str x] w K:=by
 refine aAZ ?_;unfold aGD;rw[gQ h];refine eK.go (λst W=>∃j:Nat,st=[i64 j]/\j<=l.length/\W=w/\vQ (l.drop j) x j=vQ l x 0) (λst _=>match st with|[.int _ j]=>l.length-j.toNat|_=>0) ⟨0,rfl,by omega,rfl,rfl⟩ ?_;rintro st g W ⟨j,rfl,i,rfl,a⟩;simp only[aG];rw[eC,aY];refine⟨λb=>?_,λd=>?_⟩
 .have b:j<l.length:=by omega
  refine mC (x:=str l[j]) h (by simp[strs]) (by simp[strs,b]) ?_;rw[eW b]at a;simp only[vQ]at a;rw[fE,aY];refine⟨λe=>?_,λe=>?_⟩
  .rw[aO e]at a;rw[a];exact c
  .rw[aE e]at a;rw[cP,upi (by omega)];exact⟨⟨j+1,rfl,by omega,trivial,a⟩,by simp only[bD];omega⟩
 .rw[iQ (by omega)]at a;simp only[vQ]at a;rw[a];exact c
def BC{l:List Str}{x:Str}(h:SlAt w T v l.length (strs l))(a:l.length<=1000000)(b:K (.bool (decide (x∈l))) w):aL P0 117 [v,str x] w K:=by
 refine aBm ?_;unfold aGZ;refine PT h a ?_;rw[gN];simp only[Lf];exact b
def NY(h:PR w0 w p f M vt s top)(n:WS N s)(Q:N<=1000000)(F:s.toks.length<=100000)(R:∀W,PR w0 W p f M vt (kP s) top->Eff p f M M w W->K (.agg (kB (cur s)).toArray) W):
  aL P0 64 [.pointer (some ⟨p,0,none⟩)] w K:=by
 refine aEw ?_;unfold W64;refine cO λb w1 P r y i=>?_;have T:=h.ext i;have V:=h.loc r P y;refine rW T n Q F λw2 H d=>?_;have L2:=V.eff d;refine cO λb2 X A q k c=>?_;have S:=H.ext c;have C:=H.loc q A k;have t:b≠b2:=by have:=L2.lt;omega
 have E:=L2.ext c;refine dH (l:=kB (cur s)) C.1 rfl rfl rfl λo O z e=>?_;have I:Loc w0 o p f M vt b2 TkT (kB (cur s)):=⟨z,C.2.up (by omega)⟩;have G:=S.one e C.2;have D:=E.one e t;have v:Eff p f M M w o:=(((Eff.ext i).trans d).x c).one e (by have:=d.chg.size;omega);refine dE.cut (λ_ W=>PR w0 W p f M vt (kP s) top/\Eff p f M M o W) ?_ ?_
 .refine I.ldf rfl ?_;rw[fR,aY];unfold kP;refine⟨λu=>?_,λu=>?_⟩
  .rw[aO u];exact G.go (wsi ((kF n).ws n) (by rw[(kF n).toks];exact F)) λL B a _=>⟨B,a⟩
  .rw[aE u];exact⟨G,Eff.refl _ _ _ _⟩
 rintro st g L ⟨B,a⟩;have U:=I.eff a;have m:=D.eff a;refine gL U.1 rfl ?_;refine Am (l:=kB (cur s)) m.1 rfl rfl rfl λJ j=>?_;exact R J (B.one j m.2) ((v.trans a).one j (by omega))
def aDV{x:Str}(h:PR w0 w p f M vt s top)(z:WS N s)(D:N<=1000000)(A:s.toks.length<=100000)(q:aHn w0 w p f M vt v StT 1 [str x])(E:∀W,PR w0 W p f M vt (bK s) top->Eff p f M M w W->K (.bool (isS s x)) W):
  aL P0 65 [.pointer (some ⟨p,0,none⟩),v] w K:=by
 refine aEv ?_;unfold W65;refine rW h z D A λw1 r d=>?_;refine cO λb w2 C m n a=>?_;have H:=r.ext a;have L2:=r.loc m C n;refine dH (l:=kB (cur s)) L2.1 rfl rfl rfl λi y o e=>?_;have u:Loc w0 i p f M vt b TkT (kB (cur s)):=⟨o,L2.2.up (by omega)⟩;have G:=H.one e L2.2;have c:Eff p f M M w i:=(d.x a).one e (by have:=d.chg.size;omega);have j:SlAt i StT v 1 [str x]:=xU q.1 c.chg λk B=>(q.2 k B).no;refine u.ldf rfl ?_;rw[bW];refine GdW.look (decide ((cur s).t=x)) (λ_ J F=>?_) λg=>?_
 .refine u.ldf rfl ?_;refine BC (l:=[x]) j (by simp) ?_;simpa using F
 .simp only[aG,gX];rw[gM];exact E i G c
def yL{x:Str}(h:PR w0 w p f M vt s top)(g:WS N s)(u:N<=1000000)(m:s.toks.length<=100000)(d:∀W,PR w0 W p f M vt (cN s x).2 top->Eff p f M M w W->K (.bool (cN s x).1) W):
  aL P0 68 [.pointer (some ⟨p,0,none⟩),str x] w K:=by
 refine aEs ?_;unfold W68;refine yJ λb w1 t i c a=>?_;have y:=h.ext a;have z:=h.loc i t c;refine aDV y g u m ⟨Dd c rfl,λk n=>by simp only[Value.ownBlock,bB]at n;subst n;exact z.2⟩ λw2 q l=>?_;have o:=(Eff.ext a).trans l;unfold cN at d;rw[gK,fC];refine⟨λe=>?_,λe=>?_⟩
 .have e:isS s x=false:=by simpa using e
  rw[aE (by rw[e];decide)]at d;exact d w2 q o
 .have e:isS s x=true:=by simpa using e
  rw[aO e]at d;exact q.go (wsi ((kF g).ws g) (by rw[(kF g).toks];exact m)) λr v j _=>d r v (o.trans j)
def AX{x:Str}(h:PR w0 w p f M vt s top)(i:WS N s)(l:N<=1000000)(k:s.toks.length<=100000)(j:∀s',oX s x=.ok () s'->∀W,PR w0 W p f M vt s' top->Eff p f M M w W->K (.tuple #[]) W)(g:∀c a,oX s x=.err c a->Thr w0 f c a):
  aL P0 157 [.pointer (some ⟨p,0,none⟩),str x] w K:=by
 refine aAX ?_;unfold aGB;refine yL h i l k λw1 d b=>?_;unfold cN at d b⊢;unfold oX at j g;rw[gK,fC];by_cases e:isS s x=true
 .simp only[aO e]at d b j g⊢;exact⟨λe=>(by cases e),λ_=>j _ rfl w1 d b⟩
 .simp only[aE e]at d b j g⊢;refine⟨λ_=>?_,λe=>(by cases e)⟩;refine rW d ((kF i).ws i) l (by rw[(kF i).toks];exact k) λw2 n m=>?_;rw[pO];refine⟨i64 (cur s).a,rfl,?_⟩;exact uM n (g _ _ rfl)
def Bs{k:Int}(h:PR w0 w p f M vt s top)(q:WS N s)(y:N<=1000000)(B:s.toks.length<=100000)(z:∀t s',mT s k=.ok t s'->∀W,PR w0 W p f M vt s' top->Eff p f M M w W->K (.agg (kB t).toArray) W)(A:∀c a,mT s k=.err c a->Thr w0 f c a):
  aL P0 62 [.pointer (some ⟨p,0,none⟩),i64 k] w K:=by
 refine aEy ?_;unfold W62;refine cO λb w1 G v x j=>?_;have H:=h.ext j;have I:=h.loc v G x;have m:=(kF q).ws q;have n:(bK s).toks.length<=100000:=by rw[(kF q).toks];exact B
 unfold mT at z A;refine dE.cut (λ_ W=>PR w0 W p f M vt (bK s) top/\Eff p f M M w1 W/\(cur s).k=k) ?_ ?_
 .refine rW H q y B λw2 u d=>?_;refine⟨i64 (cur s).k,rfl,?_⟩;dsimp only;rw[fR,aY];refine⟨λe=>?_,λe=>⟨u,d,by omega⟩⟩;refine rW u m y n λE r i=>?_;rw[pO];refine⟨i64 (cur s).a,rfl,?_⟩;exact uM r (A _ _ (by rw[aE e]))
 rintro st g w2 ⟨u,d,F⟩;rw[aO F]at z;refine NY u m y n λE r i=>?_;rw[pO];have C:=(I.eff d).eff i;refine Am (l:=kB (cur s)) C.1 rfl rfl rfl λD o=>?_;have e:kP (bK s)=kP s:=by unfold kP;rw[pO,lI]
 rw[e]at r;exact z _ _ rfl D (r.one o C.2) ((((Eff.ext j).trans d).trans i).one o (by omega))
end
end
end Go.Proofs.YtjblfcfdeaagpaaGreatDoor
namespace Go.Syn
section
open Go Go.Eng Go.Lex
def vK:Str->Bool
 |[]=>true
 |[c]=>c !=92
 |c::e::r=>if c=92 then vK r else vK (e::r)
def RI{r:Str}(a:c≠92)(h:vK r=true):vK (c::r)=true:=by
 cases r with
 |nil=>simp[vK,a]
 |cons e r=>simp only[vK];rw[aE a];exact h
def GL:∀(n:Nat) (t:Str),t.length<=n->noD t=true->vK t=true
 |_,[],_,_=>rfl
 |_,[c],_,h=>by simp only[noD,bV]at h;exact h.1
 |0,c::e::r,h,_=>by simp at h
 |n+1,c::e::r,h,hd=>by
  simp only[noD]at hd
  simp only[aA]at h
  simp only[vK]
  split at hd
  .rename_i a
   rw[aO a]
   exact GL n r (by omega) hd
  .rename_i a
   rw[aE a]
   simp only[bV]at hd
   exact GL n (e::r) (by simp only[aA];omega) hd.2
def wD{c':UInt8}{r r':Str}{k:Nat}(h:(c'::r').take (k+1)=(c::r).take (k+1)):c'=c/\r'.take k=r.take k:=by
 simp only[oG,gC]at h;exact h
def rO{r r':Str}{k:Nat}(h:r'.take k=r.take k)(a:j+m<=k):(r'.drop j).take m=(r.drop j).take m:=by
 have e:∀s:Str,(s.drop j).take m=((s.take k).drop j).take m:=λs=>by
  rw[List.drop_take,List.take_take,Nat.min_eq_left (by omega)]
 rw[e r',e r,h]
def LD{x a:UInt8}{r r':Str}(h:x=a):qF [36,123] (c::x::r)=qF [36,123] (c::a::r'):=by
 subst h;simp[qF,List.isPrefixOf]
theorem aFl:∀(N:Nat) (r r':Str),r.length<=N->
  (∀d k,jC r d=(k,0)->r'.take k=r.take k->k<=r'.length->jC r' d=(k,0))/\
  (∀d k,mP r d=(k,0)->r'.take k=r.take k->k<=r'.length->mP r' d=(k,0)):=by
 intro N;induction N with
 |zero=>
  intro r r' l;have:r=[]:=cW (by omega);subst this;exact⟨λd k h=>(by rw[uF]at h;cases h),λd k h=>(by rw[Hb]at h;cases h)⟩
 |succ N ih=>
  intro r r' l;cases r with
  |nil=>exact ih [] r' (by simp)
  |cons c r=>
   simp only[aA]at l;have l:r.length<=N:=by omega
   have A:∀{k:Nat},1<=k->r'.take k=(c::r).take k->k<=r'.length->∃f,r'=c::f/\f.take (k-1)=r.take (k-1)/\k-1<=f.length:=λ{k} v i q=>by
    cases r' with
    |nil=>simp at q;omega
    |cons c' f=>
     obtain⟨j,rfl⟩:∃j,k=j+1:=⟨k-1,by omega⟩;obtain⟨rfl,b⟩:=wD i;exact⟨f,rfl,b,by simpa using q⟩
   refine⟨λd k h i q=>?_,λd k h i q=>?_⟩
   .have v:=((mV _ (c::r) (aQ _)).1 d k h).2.1;obtain⟨f,rfl,b,a⟩:=A v i q;rw[mX]at h⊢;simp only[iU]at h⊢;split at h
    .rename_i e;rw[aO e];exact h
    rename_i e;rw[aE e];split at h
    .cases h
    rename_i z;rw[aE z];split at h
    .rename_i p;rw[aO p];cases r with
     |nil=>cases h
     |cons x rr=>
      simp only at h;split at h
      .rename_i n;obtain⟨g1,g2⟩:=qU h;have u:=((mV _ rr (aQ _)).1 d _ g1).2.1;cases f with
       |nil=>simp at a;omega
       |cons x' rr'=>
        obtain⟨j,rfl⟩:∃j,k=j+2:=⟨k-2,by omega⟩;rw[show j+2-1=j+1 by omega]at b a;obtain⟨rfl,w⟩:=wD b;simp only[aO n];have:=(ih rr rr' (by simp at l;omega)).1 d j (by simpa using g1) w (by simpa using a);rw[this];unfold nJ;simp
      .cases h
    rename_i p;rw[aE p];split at h
    .rename_i n;split at h
     .cases h
     rename_i o;split at h
     .rename_i g;obtain⟨g1,g2⟩:=qU h;have u:=((mV _ _ (aQ _)).1 d _ g1).2;have D:=((mV _ (r.drop 1) (aQ _)).2 (d+1) _ (kG rfl g)).1;cases r with
      |nil=>simp[qF]at n
      |cons x rr=>
       cases f with
       |nil=>simp at a;omega
       |cons x' rr'=>
        obtain⟨j,rfl⟩:∃j,k=j+2:=⟨k-2,by omega⟩;rw[show j+2-1=j+1 by omega]at b a;obtain⟨rfl,w⟩:=wD b;simp only[dI,dZ]at g1 u D g⊢;have B:j<=rr'.length:=by simpa using a
        have y:qF [36,123] (c::x'::rr')=true:=by rw[LD (r':=rr) rfl];exact n
        have s:rr.length<=N:=by simp at l;omega
        have t:=(ih rr rr' s).2 (d+1) (mP rr (d+1)).1 (kG rfl g) (by have:=rO (j:=0) (m:=(mP rr (d+1)).1) w (by omega);simpa using this) (by omega);rw[aO y,aE o,t];simp only;have i:=(ih (rr.drop (mP rr (d+1)).1) (rr'.drop (mP rr (d+1)).1) (pM _ s)).1 d _ g1 (rO w (by omega)) (by rw[aW];omega);rw[i];unfold nJ;simp;omega
     .rename_i g;injection h with _ b
      exact absurd b g
    .rename_i n;obtain⟨g1,g2⟩:=qU h;have u:=((mV _ _ (aQ _)).1 d _ g1).2;have y:¬qF [36,123] (c::f)=true:=by
      cases r with
      |nil=>rw[uF]at g1;exact absurd (congrArg Prod.snd g1) (by simp)
      |cons x rr=>
       cases f with
       |nil=>simp at a;omega
       |cons x' rr'=>
        obtain⟨j,C⟩:∃j,k-1=j+1:=⟨k-2,by omega⟩;rw[C]at b;obtain⟨rfl,_⟩:=wD b;rw[LD (r':=rr) rfl];exact n
     rw[aE y];have:=(ih r f l).1 d (k-1) g1 b a;rw[this];unfold nJ;simp;omega
   .have v:=((mV _ (c::r) (aQ _)).2 d k h).1.1;obtain⟨f,rfl,b,a⟩:=A v i q;rw[sX]at h⊢;simp only[iU]at h⊢;split at h
    .rename_i e;rw[aO e];exact h
    rename_i e;rw[aE e];split at h
    .cases h
    rename_i z;rw[aE z];split at h
    .rename_i p;rw[aO p];split at h
     .cases h
     rename_i o;rw[aE o];split at h
     .rename_i g;obtain⟨g1,g2⟩:=qU h;have u:=((mV _ _ (aQ _)).2 d _ g1).1;have t:=(ih r f l).2 (d+1) (mP r (d+1)).1 (kG rfl g) (by have:=rO (j:=0) (m:=(mP r (d+1)).1) b (by omega);simpa using this) (by omega);rw[t];simp only[mE];have i:=(ih (r.drop (mP r (d+1)).1) (f.drop (mP r (d+1)).1) (pM _ l)).2 d _ g1 (rO b (by omega)) (by rw[aW];omega);rw[i];unfold nJ;simp;omega
     .rename_i g;injection h with _ b
      exact absurd b g
    rename_i p;rw[aE p];split at h
    .rename_i n;rw[aO n];split at h
     .rename_i g;obtain⟨g1,g2⟩:=qU h;have u:=((mV _ _ (aQ _)).2 d _ g1).1;have t:=(ih r f l).1 d (jC r d).1 (kG rfl g) (by have:=rO (j:=0) (m:=(jC r d).1) b (by omega);simpa using this) (by omega);rw[t];simp only[mE];have i:=(ih (r.drop (jC r d).1) (f.drop (jC r d).1) (pM _ l)).2 d _ g1 (rO b (by omega)) (by rw[aW];omega);rw[i];unfold nJ;simp;omega
     .rename_i g;injection h with _ b
      exact absurd b g
    .rename_i n;rw[aE n];obtain⟨g1,g2⟩:=qU h;have:=(ih r f l).2 d (k-1) g1 b a;rw[this];unfold nJ;simp;omega
def Scd(t:Str):Prop:=∃d,jC (t++[34]) d=(t.length+1,0)
def Tq{r:Str}{d k:Nat}(h:jC r d=(k,0))(c:∀b,r[k-1]?=some b->b=34):Scd (r.take (k-1)):=by
 obtain⟨_,i,g⟩:=(mV _ r (aQ _)).1 d k h;obtain⟨j,rfl⟩:∃j,k=j+1:=⟨k-1,by omega⟩;rw[Nat.add_sub_cancel]at c⊢;have f:(r.take j).length=j:=by rw[cG];omega
 have a:j<r.length:=by omega
 have e:r.take j++[34]=r.take (j+1):=by
  have:=c _ (aH a);rw[jA,aH a,this];rfl
 refine⟨d,?_⟩;rw[e,f];exact(aFl _ r (r.take (j+1)) (aQ _)).1 d (j+1) h (by rw[List.take_take,Nat.min_self]) (by rw[cG];omega)
def yY:∀(N:Nat) (r:Str) (d k:Nat),r.length<=N->jC r d=(k,0)->r[k-1]?=some 34
 |0,r,d,k,a,h=>by
  have:r=[]:=cW (by omega)
  subst this
  rw[uF]at h;cases h
 |N+1,[],d,k,_,h=>by rw[uF]at h;cases h
 |N+1,c::r,d,k,a,h=>by
  simp only[aA]at a
  have a:r.length<=N:=by omega
  rw[mX]at h
  simp only[iU]at h
  split at h
  .rename_i e
   injection h with g _
   subst g e
   rfl
  split at h
  .cases h
  split at h
  .cases r with
   |nil=>cases h
   |cons x rr=>
    simp only at h
    split at h
    .obtain⟨g1,g2⟩:=qU h
     have b:=((mV _ rr (aQ _)).1 d _ g1).2.1
     have:=yY N rr d _ (by simp at a;omega) g1
     rw[show k-1=(k-2-1)+2 by omega]
     exact this
    .cases h
  split at h
  .rename_i j
   split at h
   .cases h
   split at h
   .obtain⟨g1,g2⟩:=qU h
    have b:=((mV _ _ (aQ _)).1 d _ g1).2.1
    have:=yY N _ d _ (pM _ (pM 1 a)) g1
    rw[iF,iF]at this
    rw[show k-1=1+((mP (r.drop 1) (d+1)).1+(k-((mP (r.drop 1) (d+1)).1+2)-1))+1 by omega]
    exact this
   .rename_i i
    injection h with _ f
    exact absurd f i
  .obtain⟨g1,g2⟩:=qU h
   have b:=((mV _ r (aQ _)).1 d _ g1).2.1
   have:=yY N r d _ a g1
   rw[show k-1=(k-1-1)+1 by omega]
   exact this
theorem JE:∀(N:Nat) (t:Str),t.length<=N->Scd t->(insP t=none->vK t=true)/\∀i e,insP t=some (i,e)->vK (t.take i)=true/\i+3<=e/\e<=t.length/\Scd (t.drop e)
 |_,[],_,_=>⟨λ_=>rfl,λi e h=>by simp[insP]at h⟩
 |0,_::_,h,_=>by simp at h
 |N+1,[c],_,⟨d,h⟩=>by
  refine⟨λ_=>?_,λi e h=>by simp[insP]at h⟩
  simp only[vK,bne_iff_ne,cY]
  intro e
  subst e
  simp only[fS,dS]at h
  rw[mX]at h
  simp[Lex.escOk,nJ,uF]at h
 |N+1,c::x::r,A,⟨d,h⟩=>by
  simp only[aA]at A
  simp only[fS]at h
  rw[mX]at h
  simp only[iU]at h
  split at h
  .injection h with C _
   simp at C
  split at h
  .cases h
  simp only[insP,vK]
  split at h
  .rename_i a
   rw[aO a,aO a]
   split at h
   .obtain⟨g1,g2⟩:=qU h
    have o:Scd r:=⟨d,by rw[g1];simp⟩
    obtain⟨i1,i2⟩:=JE N r (by omega) o
    refine⟨λg=>i1 (by cases f:insP r with|none=>rfl|some y=>rw[f]at g;cases g),λi e b=>?_⟩
    cases f:insP r with
    |none=>rw[f]at b;cases b
    |some y=>
     rw[f]at b
     simp only[aK,bB,gA]at b
     obtain⟨rfl,rfl⟩:=b
     obtain⟨q,w,u,p⟩:=i2 _ _ f
     refine⟨?_,by omega,by simp only[aA];omega,by rw[show y.2+2=y.2+1+1 by omega,dI,dI];exact p⟩
     rw[show y.1+2=y.1+1+1 by omega,oG,oG]
     simp only[vK]
     rw[aO a]
     exact q
   .cases h
  rename_i a
  rw[aE a,aE a]
  split at h
  .rename_i l
   have m:c=36/\x=123:=by
    simp[qF,List.isPrefixOf]at l;exact⟨l.1.symm,l.2.symm⟩
   rw[aO m];refine⟨λg=>(by cases g),λi e b=>?_⟩;simp only[bB,gA]at b;obtain⟨rfl,rfl⟩:=b;split at h
   .cases h
   split at h
   .rename_i n;simp only[dI,dZ]at h n;obtain⟨k,s⟩:∃k,mP (r++[34]) (d+1)=(k,0):=⟨_,kG rfl n⟩;simp only[s]at h;obtain⟨g1,g2⟩:=qU h;have D:=((mV _ _ (aQ _)).1 d _ g1).2;have F:=((mV _ (r++[34]) (aQ _)).2 (d+1) _ s).1;simp only[aA]at g1 D g2;have j:k<=r.length:=by omega
    have z:=(aFl _ (r++[34]) r (aQ _)).2 (d+1) _ s (by rw[ET j]) j;have v:=((mV _ r (aQ _)).2 (d+1) _ z).2 1 (by omega);rw[aO rfl]at v;have E:EO (x::r)=1+k:=by
     show qY (x::r) 0=_;rw[mL,aO m.2,show(0:Int)+1=1 from rfl,v]
    rw[E];refine⟨rfl,by omega,by simp only[aA];omega,?_⟩;rw[show 1+(1+k)=k+1+1 by omega,dI,dI];refine⟨d,?_⟩;rw[<-EW j,g1,aW];simp only[gA,fQ];omega
   .rename_i n;injection h with _ B
    exact absurd B n
  .rename_i l;have m:¬(c=36/\x=123):=λe=>l (by simp[qF,List.isPrefixOf,e.1,e.2]);rw[aE m];obtain⟨g1,g2⟩:=qU h;have o:Scd (x::r):=⟨d,by simp only[fS];rw[g1];simp⟩;obtain⟨i1,i2⟩:=JE N (x::r) (by simp only[aA];omega) o;refine⟨λg=>i1 (by cases f:insP (x::r)with|none=>rfl|some y=>rw[f]at g;cases g),λi e b=>?_⟩;cases f:insP (x::r)with
   |none=>rw[f]at b;cases b
   |some y=>
    rw[f]at b;simp only[aK,bB,gA]at b;obtain⟨rfl,rfl⟩:=b;obtain⟨q,w,u,p⟩:=i2 _ _ f;refine⟨?_,by omega,by simp only[aA]at u⊢;omega,by rw[dI];exact p⟩;rw[oG];exact RI a q
def ES(t:Str):Prop:=noD t=true\/Scd t
def JB{t:Str}(h:ES t):(insP t=none->vK t=true)/\∀i e,insP t=some (i,e)->vK (t.take i)=true/\i+3<=e/\e<=t.length/\ES (t.drop e):=by
 rcases h with h|h
 .exact⟨λ_=>GL _ t (aQ _) h,λi e f=>by rw[FU _ t (aQ _) h]at f;cases f⟩
 .obtain⟨j,g⟩:=JE _ t (aQ _) h;exact⟨j,λi e f=>by obtain⟨a,b,c,d⟩:=g i e f;exact⟨a,b,c,.inr d⟩⟩
def TS(l:List Tok):Prop:=∀t∈l,t.k=3->ES t.t/\t.t.length<=100000
def zL:∀s:Str,(mF s).length<=2*s.length
 |[]=>aQ _
 |c::r=>by
  have:=zL r
  simp only[mF]
  split
  .simp only[aA];omega
  split
  .simp only[aA];omega
  split
  .simp only[aA];omega
  .simp only[aA];omega
def IU:∀(n:Nat) (name s:Str),(pU n name s).1.length<=2*s.length
 |0,_,_=>by simp[pU]
 |n+1,name,s=>by
  have e:=vH (λb=>b !=10) s
  simp only[pU]
  split
  .simp
  split
  .simp
  rename_i a
  split
  .have d:=IU n name (s.drop (gD (λb=>b !=10) s+1))
   have c:=zL (s.take (gD (λb=>b !=10) s))
   rw[aW]at d
   rw[cG]at c
   simp only[aB,aA,aD]
   omega
  .simp
def Mi(s:Str):(kZ s).1.length<=2*s.length:=by
 unfold kZ;simp only;generalize (if gV ((s.drop 2).headD 0)=true then gD gY (s.drop 2)else 0)=n;split
 .simp
 split
 .have a:=IU (s.length+1) ((s.drop 2).take n) (s.drop (2+n+1));rw[aW]at a;split
  .show(pU (s.length+1) ((s.drop 2).take n) (s.drop (2+n+1))).1.length<=_;omega
  .simp
 .simp
def aDC{t:Tok}{k:Nat}(h:mY s=(t,k,0))(f:t.k=3):ES t.t/\t.t.length<=2*s.length:=by
 unfold mY at h;simp only at h;split at h
 .injection h with a _;subst a;cases f
 split at h
 .injection h with a _;subst a;cases f
 split at h
 .injection h with a _;subst a;cases f
 split at h
 .split at h
  .rename_i l e;injection h with a _
   subst a;have i:sD (s.length+1) (s.drop 1) 0=jC (s.drop 1) 0:=uQ (by rw[aW];omega);rw[i]at e⊢;refine⟨.inr (Tq (d:=0) (kG rfl e) λb g=>?_),by simp only[cG,aW];omega⟩;rw[yY _ (s.drop 1) 0 _ (aQ _) (kG rfl e)]at g;injection g with g
   exact g.symm
  .rename_i e;injection h with a c
   injection c with _ c
   exact absurd c e
 split at h
 .injection h with a c
  injection c with c j
  obtain⟨i1,i2,i3⟩:=Hg (s:=s) (t:=(kZ s).1) (k:=(kZ s).2.1) (kG rfl (kG rfl j));subst a;exact⟨.inl i3,Mi s⟩
 .injection h with a _;subst a;cases f
def Lk:∀(n:Nat) (s:Str) (a cnt:Nat) (l:List Tok),s.length<=16384->nA n s a cnt=.ok l->TS l
 |0,_,_,_,_,_,h=>by simp[nA]at h
 |n+1,s,a,cnt,l,j,h=>by
  simp only[nA]at h
  split at h
  .cases h
  split at h
  .injection h with h
   subst h
   intro t b c
   simp only[bO]at b
   subst b
   cases c
  split at h
  .cases h
  rename_i g
  split at h
  .cases h
  split at h
  .rename_i i e
   injection h with h
   subst h
   intro t b c
   rcases aX.1 b with rfl|b
   .have f:=aDC (t:=(mY (s.drop (gU (s.length+1) s).1)).1) (k:=(mY (s.drop (gU (s.length+1) s).1)).2.1) (kG rfl (kG rfl (Classical.not_not.1 g))) c
    rw[aW]at f
    exact⟨f.1,by simp only;omega⟩
   .exact Lk n _ _ _ _ (by rw[aW,aW];omega) e t b c
  .rename_i d
   exact absurd h (d l)
def Dh{l:List Tok}(h:mS s=.ok l):TS l:=by
 unfold mS at h;split at h
 .cases h
 rename_i a;split at h
 .cases h
 exact Lk _ _ _ _ _ (by omega) h
def Ik:∀(n:Nat) (s:Str) (a cnt:Nat) (l:List Tok),cnt<=4096->nA n s a cnt=.ok l->cnt+l.length<=4097
 |0,_,_,_,_,_,h=>by simp[nA]at h
 |n+1,s,a,cnt,l,e,h=>by
  simp only[nA]at h
  split at h
  .cases h
  split at h
  .injection h with h
   subst h
   simp only[aA,aD];omega
  split at h
  .cases h
  split at h
  .cases h
  rename_i b
  split at h
  .rename_i d c
   injection h with h
   subst h
   have:=Ik n _ _ _ _ (by omega) c
   simp only[aA];omega
  .rename_i b
   exact absurd h (b l)
def wZ{l:List Tok}(h:mS s=.ok l):l.length<=4097/\s.length<=16384:=by
 unfold mS at h;split at h
 .cases h
 rename_i a;split at h
 .cases h
 have:=Ik _ _ _ _ _ (cZ _) h;omega
end
end Go.Syn
namespace Go.Proofs.YtjblfcfdeaagpaaGreatDoor
section
open Go Go.Eng Go.Num
def Cb(n:Nat){w1:World}{B:List Value->Fr->World->(List Value->World->Prop)->Prop}(R:Nat->World->Prop)(d:R 0 w1)
  (step:∀i w g L,i<n->R i w->(∀W,R (i+1) W->L [i64 ((i+1:Nat):Int)] W)->B [i64 (i:Nat)] g w L)
  (fin:∀w g L,R n w->B [i64 (n:Nat)] g w L):eK [i64 0] w1 B:=by
 refine⟨λs w=>∃i,i<=n/\s=[i64 (i:Nat)]/\R i w,λs _=>match s with|[.int _ i]=>n-i.toNat|_=>0,⟨0,cZ _,rfl,d⟩,?_⟩;rintro s g w ⟨i,f,rfl,b⟩;rcases qZ i n with a|c
 .exact step i w g _ a b λW e=>⟨⟨i+1,a,rfl,e⟩,by simp only[bD];omega⟩
 .obtain rfl:i=n:=by omega
  exact fin w g _ b
def up1(h:(i:Int)<9223372036854775807):IntKind.i64.wrap ((i:Int)+1)=((i+1:Nat):Int):=by rw[fZ (by omega) (by omega)];simp
section
variable [HX]
end
section
variable [HX]
def Rm(c:UInt8):(decide (((c.toNat:Nat):Int)<48)||decide ((57:Int)<((c.toNat:Nat):Int)))=!Num.isDig c:=by
 unfold Num.isDig;rcases qZ c.toNat 48 with h|h
 .rw[bS (by omega),cX (show¬48<=c.toNat by omega)];rfl
 .rw[cX (show¬((c.toNat:Nat):Int)<48 by omega),bS (show 48<=c.toNat by omega)];rcases qZ 57 c.toNat with a|a
  .rw[bS (by omega),cX (show¬c.toNat<=57 by omega)];rfl
  .rw[cX (by omega),bS (show c.toNat<=57 by omega)];rfl
def aFi(c:UInt8)(m:Int)(d:UInt8)(a:m=(d.toNat:Nat)):decide (((c.toNat:Nat):Int)=m)=(c==d):=by
 rw[qP,fK,iU,a];constructor
 .intro h;exact mZ.1 (by omega)
 .intro h;rw[h]
end
abbrev ptr(b:Nat):Value:=.pointer (some ⟨b,0,none⟩)
section
variable [HX]
def Nb{p:α->Bool}{xs:List α}{x:α}(a:xs[i]?=some x):(xs.take (i+1)).any p=((xs.take i).any p||p x):=by
 rw[jA,a];simp
end
end
end Go.Proofs.YtjblfcfdeaagpaaGreatDoor
namespace Go.Proofs
section
open Go.Shelf
def Tryz.lays169_ren:Go.Shelf.Ren:=⟨λ|169=>44|n=>n,λ|70=>112|9=>9|0=>0|72=>114|37=>80|127=>168|3=>3|5=>5|n=>n,λ|n=>n⟩
def Tryz.lays169:Go.Proofs.Lays.n169 P0 Tryz.lays169_ren:=by constructor<;>first|kernel_rfl|exactλ_=>rfl|rfl|exact⟨_,fP (by kernel_rfl),rfl⟩
def Tryz.Builder_Extra_169:Builder.Extra P0 Tryz.lays169_ren:={
 sizeBuilder:=by kernel_rfl
 liesBuilder:=by kernel_rfl
 t5:=Tryz.underlying5
 a5:=Tryz.isAgg5
 z5:=Tryz.sizeOf5
 v5:=Tryz.zeroValue5
 infoByte:=by kernel_rfl
 cellsByte:=by kernel_rfl
 sizeByte:=by kernel_rfl
 neB5:=by decide}
def Tryz.lays156_ren:Go.Shelf.Ren:=⟨λ|156=>84|165=>128|166=>88|169=>44|240=>131|241=>167|276=>170|277=>208|n=>n,λ|31=>33|9=>9|3=>3|4=>4|0=>0|20=>20|72=>114|76=>166|70=>112|37=>80|75=>165|127=>168|164=>230|5=>5|80=>116|n=>n,λ|n=>n⟩
def Tryz.lays156:Go.Proofs.Lays.n156 P0 Tryz.lays156_ren:=by constructor<;>first|kernel_rfl|exactλ_=>rfl|rfl|exact⟨_,fP (by kernel_rfl),rfl⟩
def Tryz.Builder_Extra_156:Builder.Extra P0 Tryz.lays156_ren:={
 sizeBuilder:=by kernel_rfl
 liesBuilder:=by kernel_rfl
 t5:=Tryz.underlying5
 a5:=Tryz.isAgg5
 z5:=Tryz.sizeOf5
 v5:=Tryz.zeroValue5
 infoByte:=by kernel_rfl
 cellsByte:=by kernel_rfl
 sizeByte:=by kernel_rfl
 neB5:=by decide}
open Go.RowKit in
def Tryz.strings_Join_none(a:Option Addr)(c:Nat)(sep:ByteArray)(w:World):
 Calls P0 84 #[.slice a 0 c,.string sep] w λe W=>e=.returned (.string ⟨#[]⟩)/\W=w:=Any.strings_Join_none Tryz.lays156 Tryz.Builder_Extra_156 a c sep w
open Go.RowKit in
def Tryz.strings_Join(bk o c:Nat)(xs:List ByteArray)(sep:ByteArray)(w:World)(a:∀(j:Nat) x,xs[j]?=some x->w.cell? ⟨bk,o+j,none⟩=some (.string x))(f:bk<w.heap.size)(g:xs.length<=140737488355328)(d:xs.length<=c)(b:(Lib.join (xs.map (·.data.toList)) sep.data.toList).length<=140737488355328):
 Calls P0 84 #[.slice (some ⟨bk,o,none⟩) xs.length c,.string sep] w λe W=>e=.returned (.string ⟨(Lib.join (xs.map (·.data.toList)) sep.data.toList).toArray⟩)/\Below w.heap.size w W:=Any.strings_Join Tryz.lays156 Tryz.Builder_Extra_156 bk o c xs sep w a f g d b
def Tryz.lays161_ren:Go.Shelf.Ren:=⟨λ|161=>152|231=>199|227=>191|233=>200|235=>201|228=>192|197=>217|151=>218|260=>225|152=>189|137=>104|119=>215|224=>195|225=>194|217=>146|266=>193|n=>n,λ|9=>9|4=>4|3=>3|5=>5|117=>244|116=>243|0=>0|124=>248|105=>262|21=>21|119=>270|46=>75|139=>273|138=>272|n=>n,λ|3=>1|4=>2|n=>n⟩
def Tryz.lays161:Go.Proofs.Lays.n161 P0 Tryz.lays161_ren:=by constructor<;>first|kernel_rfl|exactλ_=>rfl|rfl|exact⟨_,fP (by kernel_rfl),rfl⟩
def Tryz.lays119_ren:Go.Shelf.Ren:=⟨λ|119=>215|n=>n,λ|21=>21|4=>4|n=>n,λ|n=>n⟩
def Tryz.lays119:Go.Proofs.Lays.n119 P0 Tryz.lays119_ren:=by constructor<;>first|kernel_rfl|exactλ_=>rfl|rfl|exact⟨_,fP (by kernel_rfl),rfl⟩
def Tryz.utf8_ValidRune(r:Int)(w:World):
 Calls P0 215 #[.int .i32 r] w λe W=>e=.returned (.bool (Lib.validRune r))/\W=w:=Any.utf8_ValidRune Tryz.lays119 r w
def Tryz.lays137_ren:Go.Shelf.Ren:=⟨λ|137=>104|217=>146|266=>193|n=>n,λ|9=>9|5=>5|3=>3|n=>n,λ|n=>n⟩
def Tryz.lays137:Go.Proofs.Lays.n137 P0 Tryz.lays137_ren:=by constructor<;>first|kernel_rfl|exactλ_=>rfl|rfl|exact⟨_,fP (by kernel_rfl),rfl⟩
open Go.RowKit in
def Tryz.strings_IndexByte(s:ByteArray)(c:Int)(w:World):
 Calls P0 104 #[.string s,.int .u8 c] w λe W=>e=.returned (.int .i64 (Lib.indexByte s.data.toList c.toNat.toUInt8))/\W=w:=Any.strings_IndexByte Tryz.lays137 s c w
open Go.RowKit in
def Tryz.Builder_String_any_k(B b:Nat)(l:List UInt8)(w:World)(h:Lib.IsBuilderF 114 5 B b (Lib.byteCells l) w)(a:B<=w.heap.size):
 Calls P0 44 #[.pointer (some ⟨b,0,none⟩)] w λe W=>e=.returned (.string ⟨l.toArray⟩)/\(Lib.IsBuilderF 114 5 B b (Lib.byteCells l) W/\Below B w W/\Lib.OthersKept 5 (some b) w W):=Any.Builder_String_any_k Tryz.lays169 Tryz.Builder_Extra_169 B b l w h a
def Tryz.lays143_ren:Go.Shelf.Ren:=⟨λ|143=>107|219=>147|217=>146|225=>194|224=>195|267=>196|266=>193|314=>216|n=>n,λ|9=>9|3=>3|4=>4|5=>5|46=>75|146=>225|51=>224|n=>n,λ|1=>0|n=>n⟩
def Tryz.lays143:Go.Proofs.Lays.n143 P0 Tryz.lays143_ren:=by constructor<;>first|kernel_rfl|exactλ_=>rfl|rfl|exact⟨_,fP (by kernel_rfl),rfl⟩
open Go.RowKit Go.Lib in
def Tryz.strings_Index(s sub:ByteArray)(m:Int)(w:World)(a:s.size<4294967281)(b:w.cell? ⟨0,0,none⟩=some (.int .i64 m)):
 Calls P0 107 #[.string s,.string sub] w λe W=>e=.returned (.int .i64 (Lib.index s.data.toList sub.data.toList))/\W=w:=Any.strings_Index Tryz.lays143 s sub m w a b
def Tryz.lays145_ren:Go.Shelf.Ren:=⟨λ|145=>151|220=>198|219=>147|217=>146|225=>194|224=>195|267=>196|266=>193|314=>216|n=>n,λ|9=>9|4=>4|59=>214|3=>3|5=>5|46=>75|146=>225|51=>224|n=>n,λ|1=>0|n=>n⟩
def Tryz.lays145:Go.Proofs.Lays.n145 P0 Tryz.lays145_ren:=by constructor<;>first|kernel_rfl|exactλ_=>rfl|rfl|exact⟨_,fP (by kernel_rfl),rfl⟩
open Go.RowKit Go.Lib in
def Tryz.strings_Cut(s sep:ByteArray)(m:Int)(w:World)(a:s.size<4294967281)(b:w.cell? ⟨0,0,none⟩=some (.int .i64 m)):
 Calls P0 151 #[.string s,.string sep] w λe W=>e=.returned (.tuple #[.string ⟨(Lib.cut s.data.toList sep.data.toList).1.toArray⟩,.string ⟨(Lib.cut s.data.toList sep.data.toList).2.1.toArray⟩,.bool (Lib.cut s.data.toList sep.data.toList).2.2])/\∃n,W=w.drewN n:=Any.strings_Cut Tryz.lays145 s sep m w a b
def Tryz.lays206_ren:Go.Shelf.Ren:=⟨λ|206=>103|n=>n,λ|9=>9|4=>4|3=>3|n=>n,λ|n=>n⟩
def Tryz.lays206:Go.Proofs.Lays.n206 P0 Tryz.lays206_ren:=by constructor<;>first|kernel_rfl|exactλ_=>rfl|rfl|exact⟨_,fP (by kernel_rfl),rfl⟩
open Go.RowKit Go.Lib in
def Tryz.stringslite_HasPrefix(s p:ByteArray)(w:World):
 Calls P0 103 #[.string s,.string p] w λe W=>e=.returned (.bool (Lib.hasPrefix s.data.toList p.data.toList))/\W=w:=Any.stringslite_HasPrefix Tryz.lays206 s p w
def Tryz.lays99_ren:Go.Shelf.Ren:=⟨λ|99=>59|206=>103|n=>n,λ|9=>9|4=>4|3=>3|n=>n,λ|n=>n⟩
def Tryz.lays99:Go.Proofs.Lays.n99 P0 Tryz.lays99_ren:=by constructor<;>first|kernel_rfl|exactλ_=>rfl|rfl|exact⟨_,fP (by kernel_rfl),rfl⟩
open Go.RowKit Go.Lib in
def Tryz.strings_HasPrefix(s p:ByteArray)(w:World):
 Calls P0 59 #[.string s,.string p] w λe W=>e=.returned (.bool (Lib.hasPrefix s.data.toList p.data.toList))/\W=w:=Any.strings_HasPrefix Tryz.lays99 s p w
def Tryz.lays226_ren:Go.Shelf.Ren:=⟨λ|226=>190|n=>n,λ|3=>3|4=>4|n=>n,λ|n=>n⟩
def Tryz.lays226:Go.Proofs.Lays.n226 P0 Tryz.lays226_ren:=by constructor<;>first|kernel_rfl|exactλ_=>rfl|rfl|exact⟨_,fP (by kernel_rfl),rfl⟩
open Go.RowKit Go.Lib in
def Tryz.strings_shouldUseASCIISet(n:Int)(w:World):
 Calls P0 190 #[.int .i64 n] w λe W=>e=.returned (.bool (decide (8<n)))/\W=w:=Any.strings_shouldUseASCIISet Tryz.lays226 n w
def Tryz.lays153_ren:Go.Shelf.Ren:=⟨λ|153=>145|152=>189|226=>190|227=>191|228=>192|137=>104|119=>215|224=>195|225=>194|217=>146|266=>193|n=>n,λ|9=>9|3=>3|4=>4|5=>5|21=>21|117=>244|116=>243|0=>0|46=>75|124=>248|n=>n,λ|n=>n⟩
def Tryz.lays153:Go.Proofs.Lays.n153 P0 Tryz.lays153_ren:=by constructor<;>first|kernel_rfl|exactλ_=>rfl|rfl|exact⟨_,fP (by kernel_rfl),rfl⟩
open Go.RowKit Go.Lib in
def Tryz.strings_IndexAny_long(d:∀w,(zeroValue 243).run P0 w=.ok (.agg (Array.replicate 256 (.bool false))) w)(s a:ByteArray)(w:World)(i:2<=a.size)(h:8<s.size)(g:s.size<4294967281)(f:a.size<4294967281)(c:∀(j:Nat) b,a.data.toList[j]?=some b->b.toNat<128):
 Calls P0 145 #[.string s,.string a] w λe W=>e=.returned (.int .i64 (Lib.indexAny s.data.toList a.data.toList))/\W=((w.alloc (.cells (Lib.setCells a.data.toList) 243)).alloc (.cells (Lib.setCells a.data.toList) 243)):=Any.strings_IndexAny_long Tryz.lays153 d (by kernel_rfl) s a w i h g f c
def Tryz.lays105_ren:Go.Shelf.Ren:=⟨λ|105=>87|212=>129|99=>59|165=>128|166=>88|170=>130|169=>44|263=>168|264=>169|206=>103|240=>131|241=>167|276=>170|277=>208|n=>n,λ|9=>9|3=>3|4=>4|20=>20|0=>0|46=>75|109=>206|5=>5|72=>114|76=>166|51=>224|146=>225|53=>227|148=>228|70=>112|37=>80|75=>165|127=>168|164=>230|80=>116|n=>n,λ|n=>n⟩
def Tryz.lays105:Go.Proofs.Lays.n105 P0 Tryz.lays105_ren:=by constructor<;>first|kernel_rfl|exactλ_=>rfl|rfl|exact⟨_,fP (by kernel_rfl),rfl⟩
def Tryz.Builder_Extra_105:Builder.Extra P0 Tryz.lays105_ren:={
 sizeBuilder:=by kernel_rfl
 liesBuilder:=by kernel_rfl
 t5:=Tryz.underlying5
 a5:=Tryz.isAgg5
 z5:=Tryz.sizeOf5
 v5:=Tryz.zeroValue5
 infoByte:=by kernel_rfl
 cellsByte:=by kernel_rfl
 sizeByte:=by kernel_rfl
 neB5:=by decide}
open Go.RowKit Go.Lib in
def Tryz.strings_Repeat(s:ByteArray)(c:Nat)(w:World)(b:c<=9223372036854775807)(a:s.size*c<=140737488355328):
 Calls P0 87 #[.string s,.int .i64 c] w λe W=>e=.returned (.string ⟨(Lib.repeatL s.data.toList c).toArray⟩)/\Below w.heap.size w W:=Any.strings_Repeat Tryz.lays105 Tryz.Builder_Extra_105 s c w b a
open Go.RowKit Go.Lib in
def Tryz.strings_TrimLeft_laid(s a:ByteArray)(w:World)(d:a.size<4294967281)(c:∀(j:Nat) b,a.data.toList[j]?=some b->b.toNat<128):
 Calls P0 152 #[.string s,.string a] w λe W=>e=.returned (.string ⟨(Lib.trimLeftS s.data.toList a.data.toList).toArray⟩)/\Below w.heap.size w W:=Any.strings_TrimLeft_laid Tryz.lays161 (by kernel_rfl) s a w d c
end
end Go.Proofs
namespace Go.Proofs.YtjblfcfdeaagpaaGreatDoor
section
open Go Go.Eng Go.Num
abbrev u64(n:Nat):Value:=.int .u64 (n:Int)
abbrev U8:TypeId:=5
def RZ(w:World)(e:TypeId)(s:ByteArray):Ext w (Lib.bytesWorld w e s):=
 ⟨rfl,rfl,rfl,by rw[Lib.bytesWorld_size];omega,λk a _=>Lib.bytesWorld_at_old w e s k a⟩
def Lb{l:Str}(d:Tryz.prog.underlying T=some .string)(g:Tryz.prog.underlying U=some (.slice U8))(f:Tryz.prog.underlying U8=some (.int .u8))
  (h:∀v W,Byt W U8 v l->Ext w W->K v W):fV P0 (convert T U (str l)) w K:=by
 unfold fV;rw[Lib.run_convert_string_bytes w T U U8 (ofL l) d g f];refine h _ _ ?_ (RZ _ _ _);have b:(ofL l).size<=grownCap w (ofL l).size 0 U8:=by
  exact grownCap_ge w (ofL l).size 0 U8
 refine⟨some ⟨w.heap.size,0,none⟩,grownCap w (ofL l).size 0 U8,by rw[kD],by rw[<-kD];exact b,(λe=>by cases e),λ_=>⟨w.heap.size,0,_,_,rfl,Lib.bytesWorld_at_new w U8 (ofL l),λi a=>?_⟩⟩;have a:i<(ofL l).size:=by rw[kD];simpa[Ae]using a
 have:=Lib.bytesWorld_cell w U8 (ofL l) i a;rw[cS,Lib.bytesWorld_at_new,bT]at this;rw[aN,this,FJ,iX];have c:i<l.length:=by rw[kD]at a;exact a
 simp[aM,aH c]
def lO[HX]{g:FuncId}{args:Array Value}(b:∀(a:Array Value) (w:World),(callFunc g a).run P0 w=.ok (.enter g a) w)
  (h:Calls P0 g args w λe W=>∃v,e=.returned v/\K v W):aL P0 g args.toList w K:=by
 unfold aL;rw[show args.toList.toArray=args from by simp,b];refine h.mono ?_;rintro e W ⟨v,rfl,c⟩;exact c
section
variable [HX]
def CH{a b:Str}(d:Op.bytesLess a b=false)(c:(!(Op.bytesLess a b||decide (a=b)))=false):a=b:=by
 rw[d]at c;simpa using c
def WO{p:Str}(b:s.length<=9223372036854775807)(a:K (.bool (p.isPrefixOf s)) w):aL P0 103 [str s,str p] w K:=by
 refine lO (args:=#[str s,str p]) Tryz.call103 ((Tryz.stringslite_HasPrefix (ofL s) (ofL p) w).mono ?_);rintro e W ⟨rfl,rfl⟩;refine⟨_,rfl,?_⟩;rw[iX,iX];exact a
def KS{a:Str}(g:a.length<=9223372036854775807)(b:K (str (dig a)) w):aL P0 148 [str a,str [45]] w K:=by
 refine aA3 ?_;unfold aGH;refine aAB ?_;unfold aGf;refine WO g ?_;cases a with
 |nil=>
  rw[show([45]:Str).isPrefixOf []=false from rfl];simp only[wsv,wsg,wsh,wsl,aV,aR,aJ,lC,Nat.reduceAdd,Nat.reduceLT,cM,aZ,dO,dA,cY,reduceCtorEq];exact b
 |cons c r=>
  by_cases d:c=45
  .subst d;have e:([45]:Str).isPrefixOf (45::r)=true:=by simp[List.isPrefixOf]
   have f:dig (45::r)=r:=by simp[dig]
   rw[f]at b;rw[e];have h:((0+1:Nat):Int).toNat=1:=rfl;simp only[wsv,wsg,wsh,wsl,aV,aR,aJ,lC,Nat.reduceAdd,Nat.reduceLT,cM,aZ,dO,dA,cY,reduceCtorEq,h];refine⟨by omega,by omega,?_⟩;rw[<-aA (a:=(45:UInt8)),dP];exact b
  .have e:([45]:Str).isPrefixOf (c::r)=false:=by simp[List.isPrefixOf,kY d]
   have f:dig (c::r)=c::r:=by simp[dig,d]
   rw[f]at b;rw[e];simp only[wsv,wsg,wsh,wsl,aV,aR,aJ,lC,Nat.reduceAdd,Nat.reduceLT,cM,aZ,dO,dA,cY,reduceCtorEq];exact b
theorem LP{a:Str}(B:a.length<=9223372036854775807)(f:∀W,Ext w W->K (.bool (goodN a)) W):aL P0 111 [str a] w K:=by
 refine aBs ?_;unfold aG5;refine KS B ?_;have A:goodN a=(!decide ((dig a).length<1)&&!decide (100<(dig a).length)&&!((dig a).head?==some 48&&!decide (a=[48]))&&(dig a).all Num.isDig):=by
  unfold goodN;have s:decide (1<=(dig a).length)=!decide ((dig a).length<1):=by rw[<-decide_not];exact decide_eq_decide.2 (by omega)
  have G:decide ((dig a).length<=100)=!decide (100<(dig a).length):=by rw[<-decide_not];exact decide_eq_decide.2 (by omega)
  rw[s,G];cases((dig a).head?==some 48)<;>cases decide (a=[48])<;>simp
 rw[A]at f;have q:(dig a).length<=a.length:=by
  cases a with
  |nil=>simp[dig]
  |cons c r=>simp only[dig];split<;>simp
 cases u:dig a with
 |nil=>
  rw[u]at f;have k:decide (((0:Nat):Int)<1)=true:=by decide
  simp only[wsv,wsg,wsh,wsl,aV,aR,aJ,lC,Nat.reduceAdd,Nat.reduceLT,cM,aZ,dO,dA,cY,reduceCtorEq,k];intros;exact f _ (Chg.refl _ _)
 |cons c r=>
  rw[u]at f q;have k:decide (((r.length+1:Nat):Int)<1)=false:=cX (by omega);simp only[wsv,wsg,wsh,wsl,aV,aR,aJ,lC,Nat.reduceAdd,Nat.reduceLT,cM,aZ,dO,dA,cY,reduceCtorEq,oU,Int.toNat_zero,aFi c 48 48 rfl,k];intros;rw[fC];have s:decide ((100:Int)<((r.length+1:Nat):Int))=decide (100<(c::r).length):=decide_eq_decide.2 (by simp only[aA];omega);have F:decide ((c::r).length<1)=false:=cX (by simp);have E:((c::r).head?==some 48)=(c==48):=by simp
  rw[s];rw[F,E]at f;simp only[decide_not];generalize decide (100<(c::r).length)=b1 at*
  generalize ((c==48)&&!decide (a=[48]))=b2 at*
  refine⟨λh=>?_,λh=>?_⟩
  .have:=f _ (Chg.refl _ _);have e:(!false&&!b1&&!b2&&(c::r).all Num.isDig)=false:=by
    cases b1<;>cases b2<;>simp at h⊢
   rw[e]at this;exact this
  .have x:b1=false/\b2=false:=by simpa using h
   rw[x.1,x.2]at f;refine Lb (l:=c::r) (by kernel_rfl) (by kernel_rfl) (by kernel_rfl) λv y t j=>?_;rw[gQ t];generalize c::r=D at*
   refine Cb D.length (λi w2=>Ext y w2/\(D.take i).all Num.isDig=true) ⟨Chg.refl _ _,rfl⟩ ?_ ?_
   .rintro i w2 g L z ⟨d,b⟩ C;obtain⟨e,p⟩:∃e,D[i]?=some e:=⟨_,aH z⟩;have n:((i:Int)<((D.length:Nat):Int)):=by omega
    simp only[wsv,wsg,wsh,wsl,aV,aR,aJ,lC,Nat.reduceAdd,Nat.reduceLT,cM,aZ,dO,dA,cY,reduceCtorEq,n];refine mC (t.ext d) (by rw[Ae]) (by rw[FJ,p];rfl) ?_;simp only[wsv,wsg,wsh,wsl,aV,aR,aJ,lC,Nat.reduceAdd,Nat.reduceLT,cM,aZ,dO,dA,cY,reduceCtorEq,Rm];intros;rw[fC];refine⟨λo=>?_,λm=>?_⟩
    .have o:Num.isDig e=false:=by simpa using o
     have:=f _ (j.trans d);rw[aEc p o]at this;exact this
    .have m:Num.isDig e=true:=by simpa using m
     rw[up1 (by omega)];exact C _ ⟨d,by rw[Nf p,b,m];rfl⟩
   .rintro w2 g L ⟨d,b⟩;simp only[wsv,wsg,wsh,wsl,aV,aR,aJ,lC,Nat.reduceAdd,Nat.reduceLT,cM,aZ,dO,dA,cY,reduceCtorEq,El];rw[dP]at b;have:=f w2 (j.trans d);rw[b]at this;exact this
end
end
end Go.Proofs.YtjblfcfdeaagpaaGreatDoor
namespace Go.Proofs
section
open Go.RowKit Go.Lib Go.Shelf
abbrev BdT:TypeId:=114
set_option maxHeartbeats 1000000 in
set_option maxRecDepth 100000 in
def Tryz.check_used(b:Nat)(w:World)(c:w.cell? ⟨b,0,none⟩=some (.pointer (some ⟨b,0,none⟩))):
  Calls P0 131 #[.pointer (some ⟨b,0,none⟩)] w λe W=>e=.returned (.tuple #[])/\W=w:=by
 obtain⟨j,a,_⟩:=nW.1 (show(Tryz.prog.info? 114).map (·.size)=some 2 by kernel_rfl)
 go_enter Tryz.func131,Tryz.ntmps131
 go_wp2
 rw[Lib.run_neq_ptr_same w _ Tryz.underlying112 a]
 go_wp2
 go_end0
 exact⟨rfl,rfl⟩
set_option maxHeartbeats 1000000 in
set_option maxRecDepth 100000 in
def Tryz.check_fresh(b:Nat)(w:World)(g:w.cell? ⟨b,0,none⟩=some (.pointer none))(a:w.shape? b=some (114,2))(f:w.frozen? ⟨b,0,none⟩=false):
  Calls P0 131 #[.pointer (some ⟨b,0,none⟩)] w λe W=>e=.returned (.tuple #[])/\W=w.setCell ⟨b,0,none⟩ (.pointer (some ⟨b,0,none⟩)):=by
 obtain⟨j,d,c⟩:=nW.1 (show(Tryz.prog.info? 114).map (·.size)=some 2 by kernel_rfl)
 go_enter Tryz.func131,Tryz.ntmps131
 go_wp2
 rw[Lib.run_to_unsafe w ⟨b,0,none⟩ Tryz.underlying112 Tryz.underlying230 d (by rw[c];decide) a (aZ 1)];simp only[Result.andThen];rw[Oper.upon_value]
 go_wp2
 rw[run_callFunc_extern Tryz.func170 (by kernel_rfl) (by kernel_rfl) (by kernel_rfl) (e:=Extern.AbiNoEscape.same) (by kernel_rfl)];rw[Lib.run_noEscape];simp only[Result.andThen];rw[Oper.upon_value]
 go_wp2
 rw[Lib.run_from_unsafe w ⟨b,0,none⟩ Tryz.underlying230 Tryz.underlying112 d a (show liesAt P0 Tryz.prog.depth 114 (2/Tryz.prog.cellsOf 114) 0 114 1=true by kernel_rfl)];simp only[Result.andThen];rw[Oper.upon_value]
 go_wp2
 go_end0
 exact⟨rfl,rfl⟩
end
end Go.Proofs
namespace Go.Proofs.YtjblfcfdeaagpaaGreatDoor
section
open Go Go.Eng Go.RowKit
abbrev BdT:TypeId:=114
def Cj:tV P0 80 U8 1 1:=⟨by kernel_rfl,by kernel_rfl,by decide⟩
def Bld(w:World)(B b:Nat)(l:Str):Prop:=
 ∃p v,w.heap[b]?=some (.cells [p,v].toArray BdT (0,0))/\(p=.pointer none\/p=.pointer (some ⟨b,0,none⟩))/\Own w B U8 1 v l.length (u8s l)/\B<=b
def BCh(w:World)(B b:Nat)(k:Nat):Prop:=k=b\/HV w B U8 k
def Bld.chg{B b:Nat}{l:Str}(h:Bld w B b l)(a:Chg S w W)(c:¬S b)(d:∀k,HV w B U8 k->¬S k):Bld W B b l:=by
 obtain⟨p,v,i,g,f,e⟩:=h;exact⟨p,v,a.at i c,g,f.chg a d,e⟩
def Bld.ext{B b:Nat}{l:Str}(h:Bld w B b l)(a:Ext w W):Bld W B b l:=h.chg a (λe=>e) λ_ _ e=>e
def Bld.lt{B b:Nat}{l:Str}(h:Bld w B b l):b<w.heap.size:=by
 obtain⟨p,v,a,_⟩:=h;exact pC a
def Bld.base{B b:Nat}{l:Str}(h:Bld w B b l):B<=b:=by obtain⟨p,v,_,_,_,a⟩:=h;exact a
def Ql{B b:Nat}{p:Value}(d:w.heap[b]?=some (.cells [p,v].toArray BdT (0,0))):¬HV w B U8 b:=by
 rintro⟨_,c,a⟩;rw[d]at a;simp only[bB,Obj.cells.injEq]at a;exact absurd a.2.1 (by decide)
def BCh.trans{w1 w2:World}{B b:Nat}(a:Chg (BCh w B b) w w1)(d:Chg (BCh w1 B b) w1 w2):Chg (BCh w B b) w w2:=by
 refine⟨d.os.trans a.os,d.tape.trans a.tape,d.output.trans a.output,dN a.size d.size,λk g f=>?_⟩;have h:=a.heap k g f;rw[<-h];refine d.heap k (dM g a.size) λe=>f ?_;rcases e with e|⟨j,c,i⟩
 .exact .inl e
 .exact .inr ⟨j,c,by rw[<-h];exact i⟩
def BCh.ext{w1 w2:World}{B b:Nat}(c:Chg (BCh w B b) w w1)(a:Ext w1 w2):Chg (BCh w B b) w w2:=c.then a λ_ _ e=>e.elim
def BCh.from{w1 w2:World}{B b:Nat}(c:Ext w w1)(a:Chg (BCh w1 B b) w1 w2):Chg (BCh w B b) w w2:=BCh.trans (Chg.of_ext c) a
def BCh.new{w0:World}{B b:Nat}(a:Ext w0 w)(f:w0.heap.size<=B)(d:B<=b)(h:Chg (BCh w B b) w W):Ext w0 W:=
 a.then h λk c e=>by
  rcases e with rfl|⟨e,_⟩
  .omega
  .omega
def BCh.keep{B b k:Nat}{c:Array Value}{fr:Nat×Nat}(h:Chg (BCh w B b) w W)(a:w.heap[k]?=some (.cells c T fr))(d:k≠b)(f:T≠U8):W.heap[k]?=some (.cells c T fr):=
 h.at a λe=>by
  rcases e with e|⟨_,g,e⟩
  .exact d e
  .rw[a]at e
   simp only[bB,Obj.cells.injEq]at e
   exact f e.2.1
def BCh.iter{B b k:Nat}{s:ByteArray}(h:Chg (BCh w B b) w W)(a:w.heap[k]?=some (.stringIter s p))(c:k≠b):W.heap[k]?=some (.stringIter s p):=
 h.at a λe=>by
  rcases e with e|⟨_,d,e⟩
  .exact c e
  .rw[a]at e;cases e
section
variable [HX]
def VA{B:Nat}(h:B<=w.heap.size)(f:∀b W,b=w.heap.size->Bld W B b []->Ext w W->K (.pointer (some ⟨b,0,none⟩)) W):eD BdT [.pointer none,.slice none 0 0] w K:=
 cO λa W e g d c=>f a W e ⟨_,_,d,.inl rfl,⟨by simp[u8s],.inl ⟨rfl,rfl⟩⟩,by omega⟩ c
def KD{B b:Nat}{l:Str}(h:Bld w B b l)
  (c:∀v W,W.heap[b]?=some (.cells [.pointer (some ⟨b,0,none⟩),v].toArray BdT (0,0))->Own W B U8 1 v l.length (u8s l)->W.heap.size=w.heap.size->Chg (BCh w B b) w W->K (.tuple #[]) W):
  aL P0 131 [.pointer (some ⟨b,0,none⟩)] w K:=by
 obtain⟨p,v,a,i,d,j⟩:=h;have f:w.cell? ⟨b,0,none⟩=some p:=by rw[cS,a];rfl
 rcases i with rfl|rfl
 .refine lO (args:=#[.pointer (some ⟨b,0,none⟩)]) Tryz.call131 ((Tryz.check_fresh b w f (by simp[World.shape?,a]) (by rw[fU,a];rfl)).mono ?_);rintro e W ⟨rfl,rfl⟩;refine⟨_,rfl,c v _ ?_ ?_ (eH _ _ _) (Chg.set (Chg.refl _ _) (.inl (.inl rfl)) _)⟩
  .rw[qR,a];rfl
  .refine d.chg (Chg.set (S:=λk=>k=b) (Chg.refl _ _) (.inl rfl) _) λk g e=>?_;subst e;exact Ql a g
 .refine lO (args:=#[.pointer (some ⟨b,0,none⟩)]) Tryz.call131 ((Tryz.check_used b w f).mono ?_);rintro e W ⟨rfl,rfl⟩;exact⟨_,rfl,c v _ a d rfl (Chg.refl _ _)⟩
def OG{a:World}{B b n:Nat}{l:Str}{v':Value}{K:World->Prop}(q:w.heap[b]?=some (.cells [.pointer (some ⟨b,0,none⟩),v].toArray BdT (0,0)))(m:Own w B U8 1 v l.length (u8s l))(y:B<=b)
  (j:Chg (λk=>v.ownBlock=some k) w a)(f:Own a B U8 1 v' s.length (u8s s))(z:∀W,Bld W B b s->Chg (BCh w B b) w W->W.heap.size=a.heap.size->K W):
  stW 1 (.pointer (some ⟨b,1,none⟩)) v' a K:=by
 have h:¬v.ownBlock=some b:=λe=>Ql q (m.block b e);have o:=j.at q h;have g:kJ v'=true:=by obtain⟨p,c,rfl,_⟩:=f.sl.shape;rfl
 refine lJ o g (by simp) λr u i d=>?_;refine z r ⟨.pointer (some ⟨b,0,none⟩),v',by rw[i];simp,.inr rfl,f.chg d λk x e=>by subst e;exact Ql o x,y⟩ ?_ u;have t:Chg (BCh w B b) w a:=j.mono λk _ e=>.inr (m.block k e);exact t.then d λk _ e=>.inl e
def AU{B b:Nat}{l:Str}(h:Bld w B b l)(J:B<=w.heap.size)(I:l.length+s.length<=140737488355328)
  (D:∀v W,Bld W B b (l++s)->Chg (BCh w B b) w W->K v W):aL P0 88 [.pointer (some ⟨b,0,none⟩),str s] w K:=by
 have C:=h.base;refine aEn ?_;unfold W88;refine KD h λv r o m H A=>?_;rw[dJ,bH,fB];refine⟨v,by rw[bN,cS,o];rfl,?_⟩;obtain⟨i,z,j,u,F,E,L⟩:=Cj.get;have c:i.zero=some (.int .u8 0):=by
  have:(Tryz.prog.info? U8).map (·.zero)=some (some (.int .u8 0)):=by kernel_rfl
  rw[j]at this;simpa using this
 obtain⟨t,q,x,a,y,_⟩:=Lib.run_append_own_string (P:=P0) r B 80 9 80 U8 i Cj.und (by kernel_rfl) j c F E v l.length (u8s l) m (ofL s) (by rw[kD];unfold maxLen;omega) (by rw[kD];omega) (by omega);unfold fV;rw[x];dsimp only;rw[dJ,bH];have g:Own q B U8 1 t (l++s).length (u8s (l++s)):=by
  rw[JA,aB];have G:Lib.strCells (ofL s)=u8s s:=by unfold Lib.strCells u8s;rw[iX]
  rw[kD,G]at a;exact a
 refine OG (n:=0) o m C (Chg.of_grown y λk e=>e) g λp f d _=>?_;rw[eR];exact D _ p f (BCh.trans A d)
def NA(a:∀t W,SlAt W U8 t 1 [.int .u8 (n:Int)]->Ext w W->K t W):gP U8 1 [(.int .u8 0)] [(0,1,.int .u8 (n:Int))] w K:=by
 rw[gP];simp only[eG,dW,aA,aD,aP];refine⟨by omega,?_⟩;refine a _ _ ⟨_,_,rfl,aQ _,λe=>(by cases e),λ_=>⟨_,_,_,_,rfl,kV _ _ _ rfl,λi _=>by rw[aN];simp⟩⟩ (Chg.alloc (Chg.refl _ _) _)
def uP{B b:Nat}{l:Str}(h:Bld w B b l)(F:B<=w.heap.size)(E:l.length+1<=140737488355328)(D:n<256)
  (y:∀W,Bld W B b (l++[UInt8.ofNat n])->Chg (BCh w B b) w W->K .nilIface W):aL P0 126 [.pointer (some ⟨b,0,none⟩),.int .u8 (n:Int)] w K:=by
 have x:=h.base;refine aBk ?_;unfold aGX;refine KD h λv A k j C s=>?_;rw[dJ,bH,fB];refine⟨v,by rw[bN,cS,k];rfl,?_⟩;refine NA λt w2 r a=>?_;refine yK Cj (j.ext a) r (m:=1) rfl (λu i=>by simp only[bO]at i;subst i;rfl) (by omega) (by omega) (by have:=a.size;omega) λq p f d _=>?_;rw[dJ,bH];have g:Own p B U8 1 q (l++[UInt8.ofNat n]).length (u8s (l++[UInt8.ofNat n])):=by
  rw[JA,aB];have z:u8s [UInt8.ofNat n]=[.int .u8 (n:Int)]:=by
   simp only[u8s,cJ,kA,vD];rw[tZ (by omega)]
  rw[z];exact f
 refine OG (n:=0) (a.at k id) (j.ext a) x d g λo e c _=>?_;exact y o e (BCh.trans s (BCh.from a c))
end
abbrev u8(n:Nat):Value:=.int .u8 (n:Int)
def aFw:∀x:Fin 32,IntKind.u8.wrap (BitVec.ofInt IntKind.u8.bits 192|||BitVec.ofInt IntKind.u8.bits ((x.val:Nat):Int)).toNat=((192+x.val:Nat):Int):=by decide+kernel
def aFv:∀x:Fin 16,IntKind.u8.wrap (BitVec.ofInt IntKind.u8.bits 224|||BitVec.ofInt IntKind.u8.bits ((x.val:Nat):Int)).toNat=((224+x.val:Nat):Int):=by decide+kernel
def aFu:∀x:Fin 8,IntKind.u8.wrap (BitVec.ofInt IntKind.u8.bits 240|||BitVec.ofInt IntKind.u8.bits ((x.val:Nat):Int)).toNat=((240+x.val:Nat):Int):=by decide+kernel
def aFx:∀x:Fin 64,IntKind.u8.wrap (BitVec.ofInt IntKind.u8.bits 128|||BitVec.ofInt IntKind.u8.bits ((x.val:Nat):Int)).toNat=((128+x.val:Nat):Int):=by decide+kernel
def aFQ:∀x:Fin 256,IntKind.u8.wrap (BitVec.ofInt IntKind.u8.bits ((x.val:Nat):Int)&&&BitVec.ofInt IntKind.u8.bits 63).toNat=((x.val%64:Nat):Int):=by decide+kernel
def BI(n:Nat):IntKind.u8.wrap (n:Int)=((n%256:Nat):Int):=by
 simp only[IntKind.wrap,IntKind.bits,IntKind.signed,eB];rw[show(2:Int)^8=256 by decide];simp
def KR(h:n<4294967296):IntKind.u32.wrap (n:Int)=(n:Int):=by
 simp only[IntKind.wrap,IntKind.bits,IntKind.signed,eB];rw[show(2:Int)^32=4294967296 by decide];simp only[rV,vJ];omega
def Ii(r k:Nat)(a:k<=32)(K:Value->Prop):aS .shr (.int .i32 (r:Int)) (.int .u64 (k:Int)) K↔K (.int .i32 ((r/2^k:Nat):Int)):=by
 have e:(r:Int).fdiv (2^min (k:Int).toNat IntKind.i32.bits)=((r/2^k:Nat):Int):=by
  rw[bD,show min k IntKind.i32.bits=k from Nat.min_eq_left a,Int.fdiv_eq_ediv_of_nonneg _ (by exact Int.le_of_lt (Int.pow_pos (by decide)))];rw[Int.natCast_ediv,Int.natCast_pow];rfl
 simp only[aS];rw[e];constructor
 .exactλh=>h.2
 .exactλh=>⟨by omega,h⟩
def Em(x:Nat)(K:Value->Prop):(AE .u8 (.int .i32 (x:Int)) λt=>aS .and t (.int .u8 63) λt=>aS .or (.int .u8 128) t K)↔K (u8 (128+x%64)):=by
 rw[iA,BI,ZV,aFQ ⟨x%256,by omega⟩,KJ,aFx ⟨x%256%64,by omega⟩];simp only;rw[show x%256%64=x%64 by omega]
def aHh{a b:Nat}(c:∀t W,SlAt W U8 t 2 [u8 a,u8 b]->Ext w W->K t W):gP U8 2 [(.int .u8 0),(.int .u8 0)] [(0,1,u8 a),(1,1,u8 b)] w K:=by
 rw[gP];simp only[eG,dW,aA,aD,aP,aU];refine⟨by omega,by omega,?_⟩;refine c _ _ ⟨_,_,rfl,aQ _,λe=>(by cases e),λ_=>⟨_,_,_,_,rfl,kV _ _ _ rfl,λi _=>by rw[aN];simp⟩⟩ (Chg.alloc (Chg.refl _ _) _)
def aHg{a b c:Nat}(d:∀t W,SlAt W U8 t 3 [u8 a,u8 b,u8 c]->Ext w W->K t W):gP U8 3 [(.int .u8 0),(.int .u8 0),(.int .u8 0)] [(0,1,u8 a),(1,1,u8 b),(2,1,u8 c)] w K:=by
 rw[gP];simp only[eG,dW,aA,aD,aP,aU];refine⟨by omega,by omega,by omega,?_⟩;refine d _ _ ⟨_,_,rfl,aQ _,λe=>(by cases e),λ_=>⟨_,_,_,_,rfl,kV _ _ _ rfl,λi _=>by rw[aN];simp⟩⟩ (Chg.alloc (Chg.refl _ _) _)
def aHf{a b c d:Nat}(f:∀t W,SlAt W U8 t 4 [u8 a,u8 b,u8 c,u8 d]->Ext w W->K t W):gP U8 4 [(.int .u8 0),(.int .u8 0),(.int .u8 0),(.int .u8 0)] [(0,1,u8 a),(1,1,u8 b),(2,1,u8 c),(3,1,u8 d)] w K:=by
 rw[gP];simp only[eG,dW,aA,aD,aP,aU];refine⟨by omega,by omega,by omega,by omega,?_⟩;refine f _ _ ⟨_,_,rfl,aQ _,λe=>(by cases e),λ_=>⟨_,_,_,_,rfl,kV _ _ _ rfl,λi _=>by rw[aN];simp⟩⟩ (Chg.alloc (Chg.refl _ _) _)
def Wk(l:List Nat)(h:∀x∈l,x<256):u8s (l.map b8)=l.map u8:=by
 unfold u8s;rw[iP];apply gS;intro x a;have:=h x a;simp only[Function.comp,b8,vD,u8];rw[tZ (by omega)]
section
variable [HX]
theorem aAa{B:Nat}{l:Str}(y:Own w B U8 1 v l.length (u8s l))(G:B<=w.heap.size)(F:l.length+4<=140737488355328)(E:r<55296\/57343<r/\r<=1114111)
  (C:∀v' W,Own W B U8 1 v' (l++wrM r).length (u8s (l++wrM r))->(∀k,¬HV w B U8 k->k<w.heap.size->W.heap[k]?=w.heap[k]?)->Chg (λk=>v.ownBlock=some k) w W->K v' W):
  aL P0 166 [v,.int .i32 (r:Int)] w K:=by
 have fin:∀(bs:List Nat) (t:Value) (b:World),wrM r=bs.map b8->(∀x∈bs,x<256)->bs.length<=4->SlAt b U8 t bs.length (bs.map u8)->Ext w b->fV P0 (Builtin.append_ #[80,80] 80 #[v,t]) b K:=by
  intro bs t b A d q c a;refine yK Cj (y.ext a) c (m:=bs.length) (by simp) (λu p=>by simp only[fL]at p;obtain⟨x,_,rfl⟩:=p;rfl) (by omega) (by omega) (by have:=a.size;omega) λv' o j i _=>?_;have s:Chg (λk=>v.ownBlock=some k) w o:=(Chg.of_ext a).trans i;refine C v' o ?_ (λk z d=>s.heap k d λe=>z (y.block k e)) s;rw[JA,A,Wk bs d,aB,cK];exact j
 refine aAV ?_;unfold aGz;rw[iA,KR (by omega),iC,aY];refine⟨λh=>?_,λh=>?_⟩
 .rw[iA,BI,tZ (by omega)];refine NA λt b c a=>?_;refine fin [r] t b ?_ (λx a=>by simp only[bO]at a;omega) (by simp) c a;unfold wrM;rw[aO (by omega)];rfl
 refine aAx ?_;unfold aGb;rw[iA,KR (by omega),iC,aY];refine⟨λD=>?_,λD=>?_⟩
 .rw[show(6:Int)=((6:Nat):Int)from rfl,Ii r 6 (by omega),iA,BI,show r/2^6%256=r/64 by omega,KJ,aFw ⟨r/64,by omega⟩,Em];refine aHh λt b c a=>?_;refine fin [192+r/64,128+r%64] t b ?_ (λx a=>by simp only[aX,bU,fT]at a;omega) (by simp) c a;unfold wrM;rw[aE (by omega),aO (by omega)];rfl
 refine dE.cut (λs' W=>s'=[.bool (decide (r<=65535))]/\W=w) ?_ ?_
 .rw[eC,aY];refine⟨λf=>?_,λf=>?_⟩
  .rw[bS f,bS (by omega)];exact⟨rfl,rfl⟩
  .rw[eC,bS (show(57343:Int)<(r:Int)by omega)];refine GdW.look (decide (r<=65535)) (λ_ J n=>?_) λg=>?_
   .rw[iC];rw[show decide ((r:Int)<=65535)=decide (r<=65535)by rw[decide_eq_decide];omega];exact n
   .exact⟨rfl,rfl⟩
 rintro s' g W ⟨rfl,rfl⟩;simp only[aG];rw[aY];refine⟨λf=>?_,λf=>?_⟩
 .rw[show(12:Int)=((12:Nat):Int)from rfl,Ii r 12 (by omega),iA,BI,show r/2^12%256=r/4096 by omega,KJ,aFv ⟨r/4096,by omega⟩,show(6:Int)=((6:Nat):Int)from rfl,Ii r 6 (by omega),Em,Em];refine aHg λt b c a=>?_;refine fin [224+r/4096,128+r/64%64,128+r%64] t b ?_ (λx a=>by simp only[aX,bU,fT]at a;omega) (by simp) c a;unfold wrM;rw[aE (by omega),aE (by omega),aO (by omega)];rfl
 rw[gG,bS (show(65535:Int)<(r:Int)by omega)];refine GdW.look true (λ_ J n=>?_) λg=>?_
 .rw[iC,bS (show(r:Int)<=1114111 by omega)];exact n
 show bE (.bool true) _ _;rw[dF];rw[show(18:Int)=((18:Nat):Int)from rfl,Ii r 18 (by omega),iA,BI,show r/2^18%256=r/262144 by omega,KJ,aFu ⟨r/262144,by omega⟩,show(12:Int)=((12:Nat):Int)from rfl,Ii r 12 (by omega),Em,show(6:Int)=((6:Nat):Int)from rfl,Ii r 6 (by omega),Em,Em];refine aHf λt b c a=>?_;refine fin [240+r/262144,128+r/4096%64,128+r/64%64,128+r%64] t b ?_ (λx a=>by simp only[aX,bU,fT]at a;omega) (by simp) c a;unfold wrM;rw[aE (by omega),aE (by omega),aE (by omega)];rfl
def OQ{B b:Nat}{l:Str}(h:Bld w B b l)(A:B<=w.heap.size)(o:l.length+4<=140737488355328)(m:r<55296\/57343<r/\r<=1114111)
  (u:∀v W,Bld W B b (l++wrM r)->Chg (BCh w B b) w W->K v W):aL P0 127 [.pointer (some ⟨b,0,none⟩),.int .i32 (r:Int)] w K:=by
 have t:=h.base;refine aBj ?_;unfold aGW;refine KD h λv k c i z s=>?_;have q:k.cell? (⟨b,0,none⟩:Addr)|>.isSome:=by rw[cS,c];rfl
 rw[dJ,bH,fB];refine⟨v,by rw[bN,cS,c];rfl,?_⟩;rw[gQ i.sl,dJ,bH,fB];refine⟨v,by rw[bN,cS,c];rfl,?_⟩;refine aAa i (by omega) o m λy w2 g _ e=>?_;rw[dJ,bH];refine OG (n:=0) c i t e g λj a d _=>?_;obtain⟨p,v4,x,_,f,_⟩:=id a;rw[dJ,bH,fB];refine⟨v4,by rw[bN,cS,x];rfl,?_⟩;rw[gQ f.sl,gR];exact u _ j a (BCh.trans s d)
end
end
section
open Go Go.Eng Go.RowKit Go.Syn Go.Lex
def ZT{B b:Nat}{l:Str}(h:Bld w B b l):Lib.IsBuilderF BdT U8 B b (Lib.byteCells l) w:=by
 obtain⟨p,v,c,g,a,f⟩:=h;have d:w.ownsRow B U8 1 v (u8s l).length (u8s l):=by rw[Ae];exact a
 have:Lib.BuilderAt BdT U8 B b p (u8s l) w:=⟨f,v,c,d,λe=>Ql c (a.block b e)⟩;rcases g with rfl|rfl
 .exact .inl (Lib.BuilderAtF.of this)
 .exact .inr (Lib.BuilderAtF.of this)
def iM[HX]{g:FuncId}{args caps:List Value}(h:aL P g (args++caps) w K):qN P (.func (.func g) #[] caps.toArray) args w K:=by
 unfold qN aCp;unfold aL at h;have:(do let d<-(Deferred.ofValue (.func (.func g) #[] caps.toArray) args.toArray);invoke d.target d.args:Sem Next)=callFunc g (args++caps).toArray:=by
  show callFunc g (#[]++args.toArray++caps.toArray)=_;simp
 rw[this];exact h
def mG(h:i<s.length):s.drop i=s[i]::s.drop (i+1):=eW h
def pre_eq(s:Str):Lib.hasPrefix s [36,123]=qF [36,123] s:=rfl
section
variable [HX]
def zU{B b:Nat}{l:Str}(h:Bld w B b l)(d:B<=w.heap.size)(c:∀W,Chg (λk=>B<=k) w W->K (str l) W):aL P0 44 [.pointer (some ⟨b,0,none⟩)] w K:=by
 refine lO (args:=#[.pointer (some ⟨b,0,none⟩)]) Tryz.call44 ((Tryz.Builder_String_any_k B b l w (ZT h) d).mono ?_);rintro e W ⟨rfl,_,a,_⟩;exact⟨_,rfl,c W ⟨a.os,a.tape,a.output,a.size,λk _ f=>a.block k (by omega)⟩⟩
def CI{q:Str}(a:K (.bool (Lib.hasPrefix s q)) w):aL P0 59 [str s,str q] w K:=by
 refine lO (args:=#[str s,str q]) Tryz.call59 ((Tryz.strings_HasPrefix (ofL s) (ofL q) w).mono ?_);rintro e W ⟨rfl,rfl⟩;rw[iX,iX];exact⟨_,rfl,a⟩
def uV{K:Value->Prop}(h:i<s.length)(a:K (.int .u8 (s[i].toNat:Nat))):qM (str s) (i64 (i:Nat)) K:=by
 rw[jE];exact⟨by omega,s[i],by simpa using aH h,a⟩
def Ie(c:UInt8)(k:Nat)(a:k<256):decide (((c.toNat:Nat):Int)=(k:Int))=decide (c=UInt8.ofNat k):=by
 rw[decide_eq_decide];constructor
 .intro h;have h:c.toNat=k:=by omega
  rw[<-h];simp
 .intro h;subst h;rw[vD];omega
theorem Nx(X:vK s=true)(hl:s.length<=1000000)(hK:∀W,Ext w W->K (str (iW s)) W):aL P0 116 [str s] w K:=by
 refine aBn ?_;unfold aG0;refine VA (B:=w.heap.size) (aQ _) λb w1 hb N A=>?_;have T:=A.size;refine eK.go (λst W=>∃i out,st=[i64 (i:Nat)]/\i<=s.length/\Bld W w.heap.size b out/\Ext w W/\out++iW (s.drop i)=iW s/\out.length<=i/\vK (s.drop i)=true) (λst _=>match st with|[.int _ i]=>s.length-i.toNat|_=>0)
  ⟨0,[],rfl,by omega,N,A,rfl,aQ _,X⟩ ?_
 rintro st g w2 ⟨i,out,rfl,hi,E,q,f,ho,a⟩;have z:=q.size;simp only[aG];rw[eR,eC,aY];have fin:∀{p:World} {l:Str} {j:Nat} (c:UInt8),Chg (BCh w2 w.heap.size b) w2 p->Bld p w.heap.size b (out++[c])->i<=j->j<s.length->(out++[c])++iW (s.drop (j+1))=iW s->vK (s.drop (j+1))=true->
   (∃y m,[i64 ((j+1:Nat))]=[i64 (y:Nat)]/\y<=s.length/\Bld p w.heap.size b m/\Ext w p/\m++iW (s.drop y)=iW s/\m.length<=y/\vK (s.drop y)=true)/\s.length-((j+1:Nat):Int).toNat<s.length-((i:Nat):Int).toNat:=λ{p l j} c Z M C S u t=>by
  refine⟨⟨j+1,out++[c],rfl,by omega,M,BCh.new q (aQ _) (by omega) Z,u,by simp;omega,t⟩,?_⟩;simp only[bD];omega
 refine⟨λo=>?_,λU=>?_⟩
 .have o:i<s.length:=by omega
  refine uV o ?_;have Y:=mG o;have V:=a;rw[Y]at a f;refine dE.cut (λst W=>W=w2/\∃(j:Nat) (c:UInt8),st=[i64 (j:Nat),.int .u8 (c.toNat:Nat)]/\i<=j/\j<s.length/\(out++[c])++iW (s.drop (j+1))=iW s/\vK (s.drop (j+1))=true) ?_ ?_
  .rw[bW,aY];refine⟨λe=>?_,λe=>?_⟩
   .have v:s[i]=92:=mZ.1 (by have e:(s[i].toNat:Int)=92:=e;show s[i].toNat=92;omega);have d:i+1<s.length:=by
     by_cases h2:i+1<s.length
     .exact h2
     .rw[iQ (by omega),v]at a;simp[vK]at a
    have I:=mG d;rw[I,v]at a f;simp only[vK,mE]at a;simp only[iW,mE]at f;rw[cP,upi (by omega)];refine uV d ?_;rw[bW,aY];refine⟨λH=>?_,λH=>?_⟩
    .have H:s[i+1]=110:=mZ.1 (by have e:(s[i+1].toNat:Int)=110:=H;show s[i+1].toNat=110;omega);rw[aO H]at f;exact⟨rfl,i+1,10,rfl,by omega,d,by rw[<-f];simp,a⟩
    have Q:s[i+1]≠110:=λh=>H (by rw[h];rfl);rw[bW,aY];rw[aE Q]at f;refine⟨λG=>?_,λG=>?_⟩
    .have G:s[i+1]=116:=mZ.1 (by have e:(s[i+1].toNat:Int)=116:=G;show s[i+1].toNat=116;omega);rw[aO G]at f;exact⟨rfl,i+1,9,rfl,by omega,d,by rw[<-f];simp,a⟩
    have P:s[i+1]≠116:=λh=>G (by rw[h];rfl);rw[bW,aY];rw[aE P]at f;refine⟨λF=>?_,λF=>?_⟩
    .have F:s[i+1]=114:=mZ.1 (by have e:(s[i+1].toNat:Int)=114:=F;show s[i+1].toNat=114;omega);rw[aO F]at f;exact⟨rfl,i+1,13,rfl,by omega,d,by rw[<-f];simp,a⟩
    have O:s[i+1]≠114:=λh=>F (by rw[h];rfl);rw[aE O]at f;exact⟨rfl,i+1,s[i+1],rfl,by omega,d,by rw[<-f];simp,a⟩
   .have v:s[i]≠92:=λh=>e (by rw[h];rfl);refine⟨rfl,i,s[i],rfl,aQ _,o,?_,?_⟩
    .rw[<-f];cases R:s.drop (i+1)with
     |nil=>simp only[iW];rw[aE v];simp
     |cons x r=>simp only[iW];rw[aE v];simp
    .cases R:s.drop (i+1)with
     |nil=>rfl
     |cons x r=>rw[R]at a;simp only[vK]at a;rw[aE v]at a;exact a
  rintro st g2 p ⟨rfl,j,c,rfl,C,S,u,t⟩;simp only[aG,bQ];refine uP (n:=c.toNat) E z (by omega) (rT c) λw4 D J=>?_;rw[cP,upi (by omega)];rw[sS]at D;exact fin (l:=[]) c J D C S u t
 .obtain rfl:i=s.length:=by omega
  rw[iH]at f;simp only[iW,dL]at f;subst f;refine zU E z λp L=>?_;exact hK p (q.then L λk hk e=>by omega)
end
def kL(s:Str)(i j:Nat):(s.drop i).drop j=s.drop (i+j):=jI
section
variable [HX]
def aE8(n:Nat):Prop:=∀(s:Str) (w:World) (K:Q0),s.length<=n->s.length<=1000000->K (i64 (qY s 0:Nat)) w->aL P0 153 [str s] w K
def aBB(n:Nat):Prop:=∀(c:UInt8) (r:Str) (w:World) (K:Q0),r.length<n->r.length<=1000000->K (i64 ((1+tB r:Nat):Int)) w->aL P0 202 [str (c::r)] w K
theorem MP(p:aBB n):aE8 n:=by
 intro s w K z A l;refine aA0 ?_;unfold aGE;refine eK.go (λst W=>∃(d:Int) (i:Nat),st=[i64 d,i64 (i:Nat)]/\i<=s.length/\W=w/\i+qY (s.drop i) d=qY s 0/\-(i:Int)<=d/\d<=i) (λst _=>match st with|[_,.int _ i]=>s.length-i.toNat|_=>0) ⟨0,0,rfl,by omega,rfl,by simp,by omega,by omega⟩ ?_;rintro st g w2 ⟨d,i,rfl,C,rfl,b,v,u⟩;simp only[aG,bQ];rw[eR,eC,aY];refine⟨λa=>?_,λt=>?_⟩
 .have a:i<s.length:=by omega
  have o:=mG a;rw[o,mL]at b;have cond:∀(k:Nat),k<256->(((s[i].toNat:Nat):Int)=(k:Int)↔s[i]=UInt8.ofNat k):=λk q=>by
   have:=Ie s[i] k q;rwa[decide_eq_decide]at this
  refine dE.cut (λst W=>W=w2/\∃(c:Int) (j:Nat),st=[i64 c,i64 (j:Nat)]/\i<=j/\j<s.length/\j+1+qY (s.drop (j+1)) c=qY s 0/\-((j+1:Nat):Int)<=c/\c<=((j+1:Nat):Int)) ?_ ?_
  .refine uV a ?_;rw[bW,aY];refine⟨λe=>?_,λe=>?_⟩
   .have e:s[i]=123:=(cond 123 (by omega)).1 e;rw[aO e]at b;rw[cP,fZ (by omega) (by omega)];exact⟨rfl,d+1,i,rfl,aQ _,a,by omega,by omega,by omega⟩
   have e:¬s[i]=123:=λh=>e ((cond 123 (by omega)).2 h);rw[aE e]at b;rw[bW,aY];refine⟨λe=>?_,λe=>?_⟩
   .have e:s[i]=125:=(cond 125 (by omega)).1 e;rw[aO e]at b;rw[gR,fZ (by omega) (by omega),bW,aY];refine⟨λm=>?_,λm=>?_⟩
    .rw[aO m]at b;rw[cP,upi (by omega),b];exact l
    .rw[aE m]at b;exact⟨rfl,d-1,i,rfl,aQ _,a,by omega,by omega,by omega⟩
   have e:¬s[i]=125:=λh=>e ((cond 125 (by omega)).2 h);rw[aE e]at b;rw[bW,aY];refine⟨λe=>?_,λe=>?_⟩
   .have e:s[i]=34:=(cond 34 (by omega)).1 e;rw[aO e]at b;rw[fH,fJ,fF];refine⟨by omega,by omega,?_⟩;rw[dP,bD,o];refine p _ _ _ _ (by rw[aW];omega) (by rw[aW];omega) ?_;have f:=(aBY _ (s.drop (i+1)) (aQ _)).2;rw[aW]at f;rw[gR,fZ (by omega) (by omega),cP,fZ (by omega) (by omega)];rw[kL]at b;refine⟨rfl,d,i+tB (s.drop (i+1)),?_,by omega,?_,?_,by omega,by omega⟩
    .simp only[gC,Value.int.injEq,dQ,fQ];omega
    .omega
    .rw[show i+tB (s.drop (i+1))+1=i+1+tB (s.drop (i+1))by omega];omega
   have e:¬s[i]=34:=λh=>e ((cond 34 (by omega)).2 h);rw[aE e]at b;exact⟨rfl,d,i,rfl,aQ _,a,by omega,by omega,by omega⟩
  rintro st g2 y ⟨rfl,c,j,rfl,r,B,x,E,D⟩;simp only[aG,bQ];rw[cP,upi (by omega)];refine⟨⟨c,j+1,rfl,by omega,trivial,by omega,by omega,by omega⟩,?_⟩;simp only[bD];omega
 .obtain rfl:i=s.length:=by omega
  rw[iH,Vw]at b;rw[<-b]at l;exact l
theorem Tw(p:aE8 n):aBB (n+1):=by
 intro c r w K G H o;refine aAA ?_;unfold aGe;have b:(c::r).length=r.length+1:=rfl;refine eK.go (λst W=>∃(i:Nat),st=[i64 ((i+1:Nat):Int)]/\W=w/\((i<=r.length/\i+tB (r.drop i)=tB r)\/(i=r.length+1/\tB r=r.length))) (λst _=>match st with|[.int _ i]=>r.length+2-i.toNat|_=>0) ⟨0,rfl,rfl,.inl ⟨by omega,by simp⟩⟩ ?_;rintro st g w2 ⟨i,rfl,rfl,m⟩;simp only[aG,bQ];rw[eR,eC,aY,b];refine⟨λf=>?_,λC=>?_⟩
 .have f:i<r.length:=by omega
  obtain⟨B,a⟩:=m.resolve_right (by omega);have u:=mG f;rw[u,uJ]at a;have cond:∀(k:Nat),k<256->(((r[i].toNat:Nat):Int)=(k:Int)↔r[i]=UInt8.ofNat k):=λk z=>by
   have:=Ie r[i] k z;rwa[decide_eq_decide]at this
  have t:∀{v:Value->Prop},v (.int .u8 (r[i].toNat:Nat))->qM (str (c::r)) (i64 ((i+1:Nat):Int)) v:=λh=>uV (s:=c::r) (i:=i+1) (by rw[b];omega) h;refine dE.cut (λst W=>W=w2/\∃(j:Nat),st=[i64 ((j+1:Nat):Int)]/\i<=j/\((j+1<=r.length/\j+1+tB (r.drop (j+1))=tB r)\/(j+1=r.length+1/\tB r=r.length))) ?_ ?_
  .refine t ?_;rw[bW,aY];refine⟨λe=>?_,λe=>?_⟩
   .have e:r[i]=34:=(cond 34 (by omega)).1 e;rw[aO e]at a;rw[cP,upi (by omega)];rw[<-a,show 1+(i+1)=i+1+1 by omega]at o;exact o
   have e:¬r[i]=34:=λh=>e ((cond 34 (by omega)).2 h);rw[aE e]at a;refine t ?_;rw[bW,aY];refine⟨λe=>?_,λe=>?_⟩
   .have e:r[i]=92:=(cond 92 (by omega)).1 e;rw[aO e]at a;rw[cP,upi (by omega)];refine⟨rfl,i+1,rfl,by omega,?_⟩;cases d:r.drop (i+1)with
    |nil=>
     rw[d]at a;have l:r.length<=i+1:=by
      have:=congrArg List.length d;rw[aW,aD]at this;omega
     simp only at a;exact .inr ⟨by omega,by omega⟩
    |cons x rr=>
     rw[d]at a;simp only at a;have E:r.drop (i+1+1)=rr:=by rw[<-kL,d];rfl
     have D:=congrArg List.length d;rw[aW,aA]at D;exact .inl ⟨by omega,by rw[E];omega⟩
   have e:¬r[i]=92:=λh=>e ((cond 92 (by omega)).2 h);rw[aE e]at a;rw[fH,fJ,fF];refine⟨by omega,by rw[b];omega,?_⟩;rw[dP,bD,dI,u];refine CI ?_;rw[pre_eq,fC];refine⟨λe=>?_,λe=>?_⟩
   .rw[aO e]at a;rw[cP,upi (by omega),fH,fJ,fF];refine⟨by omega,by rw[b];omega,?_⟩;rw[dP,bD,dI];refine p _ _ _ (by rw[aW];omega) (by rw[aW];omega) ?_;have l:=KI (r.drop (i+1)) 0;rw[aW]at l;rw[cP,fZ (by omega) (by omega)];rw[kL]at a;refine⟨rfl,i+qY (r.drop (i+1)) 0,?_,by omega,.inl ⟨by omega,?_⟩⟩
    .simp only[gC,Value.int.injEq,dQ,fQ];omega
    .rw[show i+qY (r.drop (i+1)) 0+1=i+1+qY (r.drop (i+1)) 0 by omega];omega
   .rw[aE (by rw[e];decide)]at a;exact⟨rfl,i,rfl,aQ _,.inl ⟨by omega,by omega⟩⟩
  rintro st g2 F ⟨rfl,j,rfl,A,q⟩;simp only[aG,bQ];rw[cP,upi (by omega)];refine⟨⟨j+1,rfl,trivial,q⟩,?_⟩;simp only[bD];omega
 .have y:tB r=r.length:=by
   rcases m with⟨B,a⟩|h
   .rw[iQ (by omega),Ty]at a;omega
   .exact h.2
  rw[y,show 1+r.length=r.length+1 by omega]at o;exact o
def Qi:∀n,aE8 n/\aBB n
 |0=>have a:aBB 0:=λ_ _ _ _ h=>by omega
  ⟨MP a,a⟩
 |n+1=>have a:=Tw (Qi n).1
  ⟨MP a,a⟩
def Vv(a:s.length<=1000000)(b:K (i64 (EO s:Nat)) w):aL P0 153 [str s] w K:=(Qi s.length).1 s w K (aQ _) a b
def Kt(s:Str):List Value:=match Syn.insP s with|some (i,e)=>[i64 (i:Nat),i64 (e:Nat)]|none=>[i64 (-1),i64 0]
def Rq(c:UInt8)(r:Str):Syn.insP (c::r)=if c=92 then(Syn.insP (r.drop 1)).map (λx=>(x.1+2,x.2+2))else if qF [36,123] (c::r)=true then some (0,1+EO r)else(Syn.insP r).map λx=>(x.1+1,x.2+1):=by
 cases r with
 |nil=>
  simp only[Syn.insP,List.drop_nil,Option.map_none];split
  .rfl
  .simp[qF,List.isPrefixOf]
 |cons e r=>
  simp only[Syn.insP,dI,dZ];split
  .rfl
  .have:(c=36/\e=123)↔qF [36,123] (c::e::r)=true:=by
    simp[qF,List.isPrefixOf];exact⟨λh=>⟨h.1.symm,h.2.symm⟩,λh=>⟨h.1.symm,h.2.symm⟩⟩
   by_cases h:c=36/\e=123
   .rw[aO h,aO (this.1 h)]
   .rw[aE h,aE (λx=>h (this.2 x))]
theorem Bt(t:s.length<=1000000)(c:K (.tuple (Kt s).toArray) w):aL P0 115 [str s] w K:=by
 refine aBo ?_;unfold aG1;refine eK.go (λst W=>∃(i:Nat),st=[i64 (i:Nat)]/\W=w/\Syn.insP s=(Syn.insP (s.drop i)).map λx=>(x.1+i,x.2+i)) (λst _=>match st with|[.int _ i]=>s.length+1-i.toNat|_=>0) ⟨0,rfl,rfl,by rw[dZ];cases Syn.insP s<;>rfl⟩ ?_;rintro st g w2 ⟨i,rfl,rfl,a⟩;simp only[aG];rw[eR,eC,aY];unfold Kt at c;refine⟨λb=>?_,λo=>?_⟩
 .have b:i<s.length:=by omega
  have l:=mG b;rw[l,Rq]at a;have cond:∀(k:Nat),k<256->(((s[i].toNat:Nat):Int)=(k:Int)↔s[i]=UInt8.ofNat k):=λk m=>by
   have:=Ie s[i] k m;rwa[decide_eq_decide]at this
  refine dE.cut (λst W=>W=w2/\∃(j:Nat),st=[i64 (j:Nat)]/\i<=j/\j<=i+1/\Syn.insP s=(Syn.insP (s.drop (j+1))).map λx=>(x.1+(j+1),x.2+(j+1))) ?_ ?_
  .refine uV b ?_;rw[bW,aY];refine⟨λe=>?_,λe=>?_⟩
   .have e:s[i]=92:=(cond 92 (by omega)).1 e;rw[aO e,kL]at a;rw[cP,upi (by omega)];refine⟨rfl,i+1,rfl,by omega,by omega,?_⟩;rw[a,Option.map_map];congr 1;funext x;simp only[Function.comp,gA];omega
   have e:¬s[i]=92:=λh=>e ((cond 92 (by omega)).2 h);rw[aE e]at a;rw[fH,fJ,fF];refine⟨by omega,by omega,?_⟩;rw[dP,bD,l];refine CI ?_;rw[pre_eq,fC];refine⟨λe=>?_,λe=>?_⟩
   .rw[aO e]at a;rw[cP,upi (by omega),cP,upi (by omega),fH,fJ,fF];refine⟨by omega,by omega,?_⟩;rw[dP,bD];refine Vv (by rw[aW];omega) ?_;have d:=KI (s.drop (i+1)) 0;have v:EO (s.drop (i+1))=qY (s.drop (i+1)) 0:=rfl;rw[aW]at d;rw[cP,fZ (by omega) (by omega)];rw[a]at c;simp only[aK]at c;have q:((0+i:Nat):Int)=(i:Int):=by omega
    have p:((1+EO (s.drop (i+1))+i:Nat):Int)=((i+1:Nat):Int)+(EO (s.drop (i+1)):Nat):=by omega
    rw[q,p]at c;exact c
   .rw[aE (by rw[e];decide)]at a;refine⟨rfl,i,rfl,by omega,by omega,?_⟩;rw[a,Option.map_map];congr 1;funext x;simp only[Function.comp,gA];omega
  rintro st g2 r ⟨rfl,j,rfl,n,u,f⟩;simp only[aG];rw[cP,upi (by omega)];refine⟨⟨j+1,rfl,trivial,f⟩,?_⟩;simp only[bD];omega
 .rw[iQ (by omega)]at a;rw[a]at c;exact c
end
def Bf:List Str:=[[124,124],[38,38],[61,61],[33,61],[60],[62],[60,61],[62,61],[43],[45],[42],[47],[37]]
def Gc(x:Int):Int:=if x=0 then 27 else if x=101 then 26 else if x=202 then 20 else if x=203 then 21 else if x=304 then 22 else if x=305 then 23 else if x=306 then 24 else if x=307 then 25 else if x=408 then 15 else if x=409 then 16 else if x=510 then 17 else if x=511 then 18 else if x=512 then 19 else 0
def UB:∀k:Fin 13,∀n:Fin 6,Gc ((n.val:Int)*100+(k.val:Int))=zK n.val (Bf[k.val]'k.isLt):=by decide+kernel
def Eo(x:Str):∀(l:List Str) (i:Nat),(∃k,l[k]?=some x/\vQ l x i=((i+k:Nat):Int))\/(x∉l/\vQ l x i=-1)
 |[],i=>.inr ⟨by simp,rfl⟩
 |a::r,i=>by
  simp only[vQ]
  split
  .rename_i h
   exact .inl ⟨0,by simp[h],rfl⟩
  .rename_i h
   rcases Eo x r (i+1)with⟨k,c,b⟩|⟨c,b⟩
   .exact .inl ⟨k+1,by simpa using c,by rw[b];omega⟩
   .exact .inr ⟨by simp[h,c],b⟩
def UJ{x:Str}(h:x∉Bf):zK n x=0:=by
 simp only[Bf,aX,bU,fT,not_or]at h;obtain⟨o,m,l,k,j,i,g,f,e,d,c,b,a⟩:=h;unfold zK;simp only[aE o,aE m,aE l,aE k,aE j,aE i,aE g,aE f,aE e,aE d,aE c,aE b,aE a,ite_self]
def Oe(d:n<=5)(x:Str):Gc ((n:Int)*100+vQ Bf x 0)=zK n x:=by
 rcases Eo x Bf 0 with⟨k,a,b⟩|⟨a,b⟩
 .have c:k<13:=(bJ.1 a).1;have:=UB ⟨k,c⟩ ⟨n,by omega⟩;rw[b,aN,this];congr 1;exact(bJ.1 a).2
 .rw[b,UJ a];have:∀m:Fin 6,Gc ((m.val:Int)*100+-1)=0:=by decide+kernel
  exact this ⟨n,by omega⟩
section
variable [HX]
def YR{x:Str}(a:K (i64 (pS x)) w):aL P0 233 [str x] w K:=by
 refine aAm ?_;unfold aF1;unfold pS at a;rw[fE,aY];refine⟨λh=>by rw[aO h]at a;exact a,λh=>?_⟩;rw[aE h]at a;rw[fE,aY];refine⟨λh=>by rw[aO h]at a;exact a,λh=>?_⟩;rw[aE h]at a;rw[fE,aY];refine⟨λh=>by rw[aO h]at a;exact a,λh=>?_⟩;rw[aE h]at a;exact a
def WH(h:∀v W,SlAt W T v n cs->Ext w W->K v W)(c:cs.length=n):K (.slice (some ⟨w.heap.size,0,none⟩) n n) (w.alloc (.cells cs.toArray T)):=
 row_new λa W f e d b _=>h _ W (Dd d c) b
def QH(a:∀v W,SlAt W StT v 13 (strs Bf)->Ext w W->K v W):
  gP StT 13 (List.replicate 13 (.string (ofL []))) [(0,1,(.string (ofL [124,124]))),(1,1,(.string (ofL [38,38]))),(2,1,(.string (ofL [61,61]))),(3,1,(.string (ofL [33,61]))),(4,1,(.string (ofL [60]))),(5,1,(.string (ofL [62]))),(6,1,(.string (ofL [60,61]))),(7,1,(.string (ofL [62,61]))),(8,1,(.string (ofL [43]))),(9,1,(.string (ofL [45]))),(10,1,(.string (ofL [42]))),(11,1,(.string (ofL [47]))),(12,1,(.string (ofL [37])))] w K:=by
 rw[gP];simp only[List.replicate,eP,dW,aA,aD,aP,aU,Nat.reduceAdd,Nat.reduceLT,dQ,aZ];exact WH a rfl
theorem Zg{t:Tok}(y:n<=5)(i:∀W,Ext w W->K (i64 (qI t n)) W):aL P0 204 [.agg (kB t).toArray,i64 (n:Nat)] w K:=by
 refine aAy ?_;unfold aGc;refine gF (z:=kB t) λb s D u g d=>?_;unfold qI at i;have a:∀{W:World} {off:Nat} {v:Value} {q:Value->Prop},W.heap[b]?=some (.cells (kB t).toArray TkT (0,0))->(kB t)[off]?=some v->q v->bF off (.pointer (some ⟨b,0,none⟩)) λx=>ldW false 1 x W q:=λh o p=>by
  rw[bH,bN,aN,fB];exact⟨_,by rw[cS,h,bT];simpa using o,p⟩
 refine a g rfl ?_;rw[fR,aY];refine⟨λh=>?_,λh=>?_⟩
 .rw[aE h]at i;exact i s d
 have h:t.k=4:=by omega
 rw[aO h,<-Oe y]at i;rw[jH,fZ (by omega) (by omega)];refine QH λv w2 o c=>?_;refine a (c.at g id) rfl ?_;refine PT (l:=Bf) o (by decide) ?_;have C:-1<=vQ Bf t.t 0/\vQ Bf t.t 0<=12:=by
  rcases Eo t.t Bf 0 with⟨k,m,j⟩|⟨m,j⟩
  .have p:k<13:=(bJ.1 m).1;rw[j];omega
  .rw[j];omega
 rw[cP,fZ (by omega) (by omega)];generalize (n:Int)*100+vQ Bf t.t 0=x at*
 have f:=i w2 (d.trans c);unfold Gc at f;have step:∀{k r e:Int} {A B:Prop},((if x=k then r else e)=r->A)->(¬x=k->B)->bE (.bool (decide (x=k))) A B:=λm j=>by
  rw[aY];exact⟨λe=>m (aO e),j⟩
 iterate 13
  rw[bW,aY];refine⟨λe=>by rw[aO e]at f;exact f,λe=>?_⟩;rw[aE e]at f
 exact f
def uH{b:Nat}(h:w.heap[b]?=some (.cells cs.toArray T (0,0)))(a:0<n:=by omega):SlAt w T (.slice (some ⟨b,0,none⟩) n n) n cs:=
 ⟨_,_,rfl,aQ _,λe=>(by cases e),λ_=>⟨b,0,cs.toArray,_,rfl,h,λi _=>by simp⟩⟩
section
variable{w0 w:World}{p f:Nat}{M:Lay}{vt:Value}{s:PS}{top:List Nat}{N:Int}{K:Q0}
def Pu{t:Tok}(h:PR w0 w p f M vt s top)(y:ES t.t)(r:t.t.length<=1000000)(n:∀l s',qG s t=.ok l s'->∀W,Ext w W->K (str l) W)(q:∀c a,qG s t=.err c a->Thr w0 f c a):
  aL P0 63 [.pointer (some ⟨p,0,none⟩),.agg (kB t).toArray] w K:=by
 refine aEx ?_;unfold W63;refine gF (z:=kB t) λb v B j m d=>?_;have C:=h.ext d;have o:=h.loc j B m;unfold qG at n q;refine dE.cut (λ_ W=>W=v/\(Syn.insP t.t).isSome=false) ?_ ?_
 .refine o.ldf rfl ?_;refine Bt r ?_;rw[bX];unfold Kt;cases i:Syn.insP t.t with
  |none=>
   refine⟨i64 (-1),rfl,?_⟩;rw[bX];refine⟨i64 0,rfl,?_⟩;rw[gN,aY];exact⟨λe=>by omega,λ_=>⟨rfl,rfl⟩⟩
  |some x=>
   refine⟨i64 (x.1:Nat),rfl,?_⟩;rw[bX];refine⟨i64 (x.2:Nat),rfl,?_⟩;rw[gN,aY];refine⟨λ_=>?_,λe=>by omega⟩;refine o.ldf rfl ?_;exact uM C (q _ _ (by rw[i];rfl))
 rintro st g w2 ⟨rfl,i⟩;rw[aE (by rw[i];decide)]at n;refine o.ldf rfl ?_;refine Nx ((JB y).1 (by cases A:Syn.insP t.t with|none=>rfl|some x=>rw[A]at i;cases i)) r λu k=>?_;exact n _ _ rfl u (d.trans k)
def Ob{s:PS}(h:(cur s).k=5):hY (step1 (bK s))=hY s:=by
 have p:(bK s).toks=s.toks:=by unfold bK;split<;>rfl
 have b:(pH (bK s)).k=5:=h;have d:(bK s).i<(bK s).toks.length:=by
  by_cases j:(bK s).i<(bK s).toks.length
  .exact j
  .unfold pH at b;rw[aM,dY (by omega)]at b;cases b
 have l:(bK s).toks[(bK s).i]?=some (pH (bK s)):=by unfold pH;rw[aM,aH d];rfl
 have e:=yD l;rw[aO b]at e;have a:s.quiet=false:=by
  by_cases a:s.quiet=true
  .exfalso;have o:bK (bK s)=bK s:=lI s;have c:(bK s).quiet=true:=by unfold bK;split<;>exact a
   have n:(bK (bK s)).i=(bK s).i+kK ((bK s).toks.drop (bK s).i):=by
    rw[bK,aO c]
   rw[o]at n;omega
  .simpa using a
 have f:∀s:PS,s.quiet=false->bK s=s:=λs h=>by unfold bK;rw[h];rfl
 have g:=f s a;rw[g]at e⊢;have m:=f (step1 s) a;unfold hY;rw[g,m];show({s with i:=s.i+1+kK (s.toks.drop (s.i+1))}:PS)={s with i:=s.i+kK (s.toks.drop s.i)};rw[e];congr 1;omega
def Oa{N:Int}{s:PS}(a:WS N s)(h:(cur s).k≠5):hY s=bK s:=by
 have b:=(kF a).ws a;have e:=yD (AZ b);have c:(pH (bK s)).k≠5:=h;rw[aE c,(kF a).toks]at e;unfold hY;rw[e];rfl
def Cc(h:PR w0 w p f M vt s top)(z:WS N s)(A:N<=1000000)(r:s.toks.length<=100000)(B:∀W,PR w0 W p f M vt (hY s) top->Eff p f M M w W->K (.tuple #[]) W):
  aL P0 30 [.pointer (some ⟨p,0,none⟩)] w K:=by
 refine aER ?_;unfold W30;refine eK.go (λst W=>st=[]/\∃c,PR w0 W p f M vt c top/\WS N c/\c.toks=s.toks/\hY c=hY s/\Eff p f M M w W) (λ_ W=>s.toks.length-CE W p) ⟨rfl,s,h,z,rfl,rfl,Eff.refl _ _ _ _⟩ ?_;rintro st g w2 ⟨rfl,c,v,a,j,q,e⟩;refine rW v a A (by rw[j];exact r) λx o d=>?_;refine⟨i64 (cur c).k,rfl,?_⟩;dsimp only;rw[bW,aY];have t:=kF a;have l:=t.ws a;refine⟨λi=>?_,λi=>?_⟩
 .have m:(cur c).k≠0:=by rw[i];decide
  have b:=nH a m;refine o.go (wsi l (by rw[t.toks,j];exact r)) λD u n y=>?_;refine⟨⟨rfl,_,u,b.1.ws a,b.1.toks.trans j,(Ob i).trans q,(e.trans d).trans n⟩,?_⟩;rw[u.at_,v.at_];have:=b.2;have C:=b.1.lt;rw[b.1.toks,j]at C;omega
 .rw[Oa a i]at q;rw[q]at o;exact B x o (e.trans d)
def tD{q:Bool}{fv:Value}(h:PR w0 w p f M vt s top)(H:s.deep<=24)(d:s.deep=24->Thr w0 f 7 a)
  (z:s.deep≠24->∀w1,PR w0 w1 p f M vt {s with deep:=s.deep+1,quiet:=q} top->Eff p f M M w w1->qN P0 fv [] w1 λ_ w2=>∃M2 c,PR w0 w2 p f M2 vt c top/\c.deep=s.deep+1/\
    ∀b,PR w0 b p f M2 vt {c with deep:=s.deep,quiet:=s.quiet} top->Eff p f M2 M2 w2 b->K (.tuple #[]) b):
  aL P0 66 [.pointer (some ⟨p,0,none⟩),i64 a,.bool q,fv] w K:=by
 refine aEu ?_;unfold W66;refine dE.cut (λ_ W=>W=w/\s.deep≠24) ?_ ?_
 .refine h.ld rfl ?_;rw[bW,aY];refine⟨λe=>?_,λe=>⟨rfl,λh=>e (by rw[h];rfl)⟩⟩;exact uM h (d (by omega))
 rintro st g w1 ⟨rfl,i⟩;refine h.ld rfl ?_;refine h.ld rfl ?_;rw[cP,upi (by omega)];refine h.st_deep λw2 E m x=>?_;refine E.st_quiet (q:=q) λb D l u=>?_;have A:=z i b D (m.trans l);refine Res.mono ?_ A;rintro v G ⟨M2,c,n,I,y⟩;refine n.ld rfl ?_;rw[gR,fZ (by omega) (by omega)];have e:((c.deep:Nat):Int)-1=((s.deep:Nat):Int):=by omega
 rw[e];refine n.st_deep λF C k t=>?_;refine C.st_quiet (q:=s.quiet) λo B j r=>?_;exact y o B (k.trans j)
theorem NQ{M0:Lay}{wb:World}{e:Ex}(h:PR w0 w p f M vt s top)(he:Eff p f M0 M wb w)(Q:ExR w w0.heap.size e d)(C:∀k∈ub d,Off w0 w p f M vt k)(hn:(ub d).Nodup)(y:∀k∈ub d,wb.heap.size<=k)(ha:s.ex.length<=1000000)
  (hK:∀M' W,PR w0 W p f M' vt {s with ex:=s.ex++[e]} top->Eff p f M0 M' wb W->(∀b T cs,Loc w0 w p f M vt b T cs->b∉ub d->Loc w0 W p f M' vt b T cs)->K (i64 (s.ex.length:Nat)) W):
  aL P0 158 [.pointer (some ⟨p,0,none⟩),.agg d.toArray] w K:=by
 refine aAW ?_;unfold aGA;have j:d.length=5:=by obtain⟨va,vk,rfl,_⟩:=Q;rfl
 have P:∀u∈d,kJ u=true:=by
  obtain⟨va,vk,rfl,m,a⟩:=Q;obtain⟨_,_,rfl,_⟩:=m.sl.shape;obtain⟨_,_,rfl,_⟩:=a.sl.shape;intro u C;simp only[aX,bU,fT]at C;rcases C with rfl|rfl|rfl|rfl|rfl<;>rfl
 refine gF (z:=d) λb w1 hb E U t=>?_;have m:=(h.ext t).drew;have q:Ext w w1.drew:=t.trans (cQ _);have L1:=(h.loc E hb U).drew;have ldF:∀{W:World},W.heap[p]?=some (.cells [vt,i64 (s.i:Nat),i64 s.off,.pointer (some ⟨f,0,none⟩),i64 (s.deep:Nat),.bool s.quiet].toArray PsT (0,0))->ldW false 1 (.pointer (some ((⟨p,0,none⟩:Addr).add 3))) W λx=>x=.pointer (some ⟨f,0,none⟩):=by
  intro W h;rw[fB];exact⟨_,by rw[bN,cS,h,bT];rfl,rfl⟩
 have g:∀{W:World} {v:Value} {r:List Value},W.heap[f]?=some (.cells (v::r).toArray FlT (0,0))->W.cell? ((⟨f,0,none⟩:Addr).add 0)=some v:=by
  intro W v r h;rw[bN,cS,h,bT];rfl
 have D:∀k,M.vE.ownBlock=some k->k∈M.uses f:=λk J=>aF _ (eZ (v:=M.vE) (by simp) J);have nE:¬M.vE.ownBlock=some p:=λe=>h.np (D p e);have nF:¬M.vE.ownBlock=some f:=λe=>by
  have A:=h.fr.nd;rw[Nn,dX]at A;exact A.1 (cH _ (kM.2 e))
 have pf:p≠f:=λe=>h.np (e▸bC);have X:∀{W:World},W.heap[p]?=some (.cells [vt,i64 (s.i:Nat),i64 s.off,.pointer (some ⟨f,0,none⟩),i64 (s.deep:Nat),.bool s.quiet].toArray PsT (0,0))->W.cell? ((⟨p,0,none⟩:Addr).add 3)=some (.pointer (some ⟨f,0,none⟩)):=by
  intro W h;rw[bN,cS,h,bT];rfl
 rw[dJ,bH,fB];refine⟨_,X m.ps,?_⟩;rw[dJ,bH,fB];refine⟨_,X m.ps,?_⟩;rw[dJ,bH,fB];refine⟨_,g m.fr.hf,?_⟩;refine gL L1.1 j ?_;refine Ec j rfl λr w2 hr hj G o=>?_;have a:=m.ext o;refine⟨by rw[fB];exact⟨_,g a.fr.hf,rfl⟩,ldF a.ps,ldF a.ps,?_⟩;have c:Ext w w2:=q.trans o;have S:Chg (λk=>M.vE.ownBlock=some k) w w2:=Chg.of_ext c;refine iV aFJ a.fr.oE (uH (n:=1) (T:=ExT) (cs:=d) G) (by rw[j]) P (by omega) (by omega) a.base λv' w3 B l F=>?_;have H:=l.at a.ps nE;have N:=l.at a.fr.hf nF;refine⟨ldF H,?_⟩;rw[dJ,bH,bN,aN];obtain⟨vp,vc,ev,_⟩:=B.sl.shape;refine lJ N (by rw[ev];rfl) (by simp) λY hi L R=>?_;have Z:=c.size;obtain⟨V,O,I⟩:=h.putE (w1:=w3) (w2:=Y) (v':=v') he Q C hn y B (S.trans l) (λk J=>(F k J).imp id λe=>by omega) R (by rw[L];simp);rw[dJ,bH,fB];refine⟨_,X V.ps,?_⟩;rw[dJ,bH,fB];refine⟨_,g V.fr.hf,?_⟩;dsimp only;rw[ev,iT,gR,fZ (by omega) (by omega)];have e1:((s.ex.length+1:Nat):Int)-1=(s.ex.length:Nat):=by omega
 rw[e1];exact hK _ Y V O I
end
end
structure Gd(N:Int)(s:PS)(dl:Nat):Prop where
 ws:WS N s
 hN:N<=1000000
 few:s.toks.length<=4097
 ts:TS s.toks
 phi:phi s<=100000
 lev:s.deep+dl=24
def Gd.l{N:Int}{s:PS}(h:Gd N s i):s.toks.length<=100000:=by have:=h.few;omega
def Gd.go{N:Int}{s s':PS}(h:Gd N s i)(a:Go1 N s s')(b:Syn.phi s'<=Syn.phi s):Gd N s' i:=
 ⟨a.ws h.ws,h.hN,by rw[a.toks];exact h.few,by rw[a.toks];exact h.ts,dN b h.phi,by rw[a.deep];exact h.lev⟩
def Gd.frame{N:Int}{s:PS}(h:Gd N s (i+1))(q:Bool):Gd N {s with deep:=s.deep+1,quiet:=q} i:=⟨AV h.ws _ _,h.hN,h.few,h.ts,h.phi,by have:=h.lev;show s.deep+1+i=24;omega⟩
def Gd.back{N:Int}{s s':PS}{q:Bool}(h:Gd N s (i+1))(a:Gd N s' i):Gd N {s' with deep:=s.deep,quiet:=q} (i+1):=⟨AV a.ws _ _,h.hN,a.few,a.ts,a.phi,h.lev⟩
def Gd.now{N:Int}{s:PS}(h:Gd N s i):Gd N (bK s) i:=h.go (kF h.ws) (nV s)
def Gd.take{N:Int}{s:PS}(h:Gd N s i)(w:Str):Gd N (cN s w).2 i:=h.go (nG h.ws w).1 (pR s w).1
def Gd.lines{N:Int}{s:PS}(h:Gd N s i):Gd N (hY s) i:=h.go (nS h.ws).1 (zG s)
def Gd.next{N:Int}{s:PS}(h:Gd N s i):Gd N (kP s) i:=h.go (wH h.ws).1 (zF s).1
def Gd.step{N:Int}{s:PS}(h:Gd N s i)(a:(cur s).k≠0):Gd N (step1 (bK s)) i:=h.go (nH h.ws a).1 (by have:=(tL a).2;omega)
def Gd.want{N:Int}{s s':PS}(h:Gd N s i){w:Str}(e:oX s w=.ok () s'):Gd N s' i/\s.i<s'.i/\s'.ex=s.ex/\s'.bl=s.bl:=by
 have c:=oW h.ws w;have a:=pQ s w;rw[e]at c a;obtain⟨g,x,b⟩:=c;exact⟨h.go g.1 (by have a:Syn.phi s'+1<=Syn.phi s:=a;omega),g.2,x,b⟩
def Gd.kind{N:Int}{s s':PS}{t:Tok}{k:Int}(h:Gd N s i)(a:k≠0)(e:mT s k=.ok t s'):Gd N s' i/\s.i<s'.i/\s'.ex=s.ex/\s'.bl=s.bl/\t=cur s/\t.k=k:=by
 have d:=qL h.ws k a;have c:=sI s k;rw[e]at d c;obtain⟨g,x,b,f,a⟩:=d;exact⟨h.go g.1 c.1,g.2,x,b,f,a⟩
def Gd.ex{N:Int}{s:PS}(h:Gd N s i):s.ex.length<=100000/\s.bl.length<=100000:=by have:=aDw s;have:=h.phi;omega
structure vP(F:PS->R Nat):Prop where
 ok:∀N,EOk N F
 z:EZ F
def Gd.e{N:Int}{s s':PS}{dl x:Nat}{F:PS->R Nat}(h:Gd N s dl)(b:vP F)(e:F s=.ok x s'):Gd N s' dl/\s.i<s'.i:=by
 have a:=b.ok N s h.ws;have c:=b.z s;rw[e]at a c;exact⟨h.go a.1.1 c,a.1.2⟩
def Gd.at0{N:Int}{s:PS}(h:Gd N s i):0<=(cur s).a/\(cur s).a<=1000000:=by have:=nI h.ws;have:=h.hN;omega
section
variable [HX]
def BG(w0:World)(f:Nat):Prop:=∀(w:World) (K:Q0) (s:Str),Chg (Of f) w0 w->s.length<=1000000->
 (∀l,mS s=.ok l->∀v w',Ext w w'->SlAt w' TkT v l.length (toks l)->(∀k,v.ownBlock=some k->w.heap.size<=k/\k<w'.heap.size)->K (.tuple #[v,.pointer none]) w')->
 (∀c a,mS s=.bad c a->∀d w',Ext w w'->w.heap.size<=d->w'.heap[d]?=some (.cells [i64 c,str [],i64 a].toArray 48 (0,0))->K (.tuple #[.slice none 0 0,.pointer (some ⟨d,0,none⟩)]) w')->
 aL P0 28 [str s] w K
def EC(w0:World)(f:Nat)(g:FuncId)(F:PS->R Nat)(dl:Nat):Prop:=∀(w:World) (p:Nat) (M:Lay) (vt:Value) (s:PS) (top:List Nat) (N:Int) (K:Q0),PR w0 w p f M vt s top->Gd N s dl->
 (∀x s',F s=.ok x s'->∀M' w',PR w0 w' p f M' vt s' top->Eff p f M M' w w'->K (i64 (x:Nat)) w')->(∀c a,F s=.err c a->Thr w0 f c a)->aL P0 g [.pointer (some ⟨p,0,none⟩)] w K
structure Ro(w0 w:World)(p f:Nat)(M:Lay)(vt:Value)(wb:Nat)(T:TypeId)(m:Nat)(v:Value)(n:Nat)(xs:List Value):Prop where
 own:Own w w0.heap.size T m v n xs
 off:∀k,v.ownBlock=some k->Off w0 w p f M vt k
 new:∀k,v.ownBlock=some k->wb<=k
section
variable{w0 w w' w1:World}{p f b:Nat}{M M':Lay}{vt:Value}{s:PS}{top:List Nat}{N:Int}{K:Q0}{wb:Nat}{T:TypeId}{m:Nat}{v:Value}{n:Nat}{xs:List Value}
def Ro.nil(T:TypeId)(m:Nat):Ro w0 w p f M vt wb T m (.slice none 0 0) 0 []:=⟨⟨by simp,.inl ⟨rfl,rfl⟩⟩,λk a=>by simp[Value.ownBlock]at a,λk a=>by simp[Value.ownBlock]at a⟩
def Ro.eff(h:Ro w0 w p f M vt wb T m v n xs)(a:Eff p f M M' w W):Ro w0 W p f M' vt wb T m v n xs:=⟨a.own h.own h.off,λk b=>(h.off k b).eff a,h.new⟩
def Ro.ext(h:Ro w0 w p f M vt wb T m v n xs)(a:Ext w W):Ro w0 W p f M vt wb T m v n xs:=h.eff (Eff.ext a)
def Ro.one(h:Ro w0 w p f M vt wb T m v n xs)(c:Chg (One b) w W)(d:v.ownBlock≠some b):Ro w0 W p f M vt wb T m v n xs:=
 ⟨eJ h.own c λk a e=>d (by have e:k=b:=e;rw[a,e]),λk a=>(h.off k a).up c.size,h.new⟩
def Ro.row{u:Value}(h:Ro w0 w p f M vt wb T m v n xs)(b:Chg (λk=>u.ownBlock=some k) w W)(c:∀k,v.ownBlock=some k->u.ownBlock≠some k):Ro w0 W p f M vt wb T m v n xs:=
 ⟨eJ h.own b λk a e=>c k a e,λk a=>(h.off k a).up b.size,h.new⟩
def Loc.row{u:Value}(h:Loc w0 w p f M vt b T cs)(a:Chg (λk=>u.ownBlock=some k) w W)(c:u.ownBlock≠some b):Loc w0 W p f M vt b T cs:=⟨a.at h.1 c,h.2.up a.size⟩
def PR.row{u:Value}(h:PR w0 w p f M vt s top)(c:Chg (λk=>u.ownBlock=some k) w W)(b:∀k,u.ownBlock=some k->Off w0 w p f M vt k):PR w0 W p f M vt s top:=
 h.keep c (λk a e=>by have:=(b k e).1.1;omega) (λk a e=>(b k e).2.2.1 a) (λe=>(b p e).2.1 rfl) λk a e=>(b k e).2.2.2 a
def Ro.app{t:TypeId}(z:tV P0 t T m i)(b:Ro w0 w p f M vt wb T m v n xs)(d:PR w0 w p f M vt s top)(q:w.heap[r]?=some (.cells cs.toArray T (0,0)))(x:cs.length=m)(B:∀u∈cs,kJ u=true)(C:n<=1000000)(h:i<=1000)(o:wb<=w.heap.size)
  (A:∀v' W,Ro w0 W p f M vt wb T m v' (n+1) (xs++cs)->Chg (λk=>v.ownBlock=some k) w W->(∀k,v'.ownBlock=some k->v.ownBlock=some k\/w.heap.size<=k)->PR w0 W p f M vt s top->K v' W):
  fV P0 (Builtin.append_ #[t,t] U #[v,.slice (some ⟨r,0,none⟩) 1 1]) w K:=by
 have y:=d.base;have j:(n+1)*i<=140737488355328:=dN (Nat.mul_le_mul (show n+1<=1000001 by omega) h) (by decide);refine iV z b.own (uH (n:=1) q) (by rw[x];omega) B (by omega) j y λv' W l g c=>?_;refine A v' W ⟨l,λk a=>?_,λk a=>?_⟩ g c (d.row g b.off)
 .rcases c k a with e|e
  .exact(b.off k e).up g.size
  .exact d.off_new e (lK l a).1
 .rcases c k a with e|e
  .exact b.new k e
  .omega
def PR.inner{c:PS}(h:PR w0 w p f M vt s top)(d:Ext w w1)(j:PR w0 W q f M' v c top)(i:Eff q f M M' w1 W)(g:w.heap.size<=q):
  PR w0 W p f M' vt {s with ex:=c.ex,bl:=c.bl} top/\Eff p f M M' w W:=by
 have a:Eff p f M M' w W:=Eff.anew d i g;have m:=d.size;have l:=h.ext d;refine⟨⟨j.ch,j.fr,?_,?_,λe=>?_,h.lo,λk b=>⟨λe=>?_,(h.nt k b).2.1,dM (h.nt k b).2.2 a.chg.size⟩⟩,a⟩
 .exact i.chg.at l.ps λe=>by
   rcases Nq e with e|e
   .have:=h.lt;omega
   .exact h.np e
 .exact xU l.tk i.chg λk b e=>by
   rcases Nq e with e|e
   .have:=(h.nt k b).2.2;omega
   .exact(h.nt k b).1 e
 .exact(a.us p e).elim h.np λe=>by have:=h.lt;omega
 .exact(a.us k e).elim (h.nt k b).1 λe=>by have:=(h.nt k b).2.2;omega
theorem Zp{E:PS->R Nat}{t:Str}(hS:BG w0 f)(hE:EC w0 f 118 E i)(hF:vP E)(h:PR w0 w p f M vt s top)(O:Gd N s i)(h0:0<=a)(h1:a+t.length<=N)(A:Syn.phi s+t.length<=100000)
  (o:∀x s',pF E s t a=.ok x s'->∀M' W,PR w0 W p f M' vt s' top->Eff p f M M' w W->K (i64 (x:Nat)) W)(n:∀c r,pF E s t a=.err c r->Thr w0 f c r):
  aL P0 257 [.pointer (some ⟨p,0,none⟩),str t,i64 a] w K:=by
 refine aAd ?_;unfold aFS;have hN:=O.hN;refine hS w _ t h.ch (by omega) (λl B v w1 j Z I=>?_) (λc b T d w1 j hd F=>?_)
 .rw[bX];refine⟨v,rfl,?_⟩;rw[bX];refine⟨.pointer none,rfl,?_⟩;refine dE.cut (λ_ W=>W=w1) ?_ ?_
  .show bE (.bool false) _ _;rw[cI]
  rintro st g w2 rfl;have U:=(h.ext j).drew;have H:=j.trans (cQ w2);refine U.ld rfl ?_;refine U.ld rfl ?_;obtain⟨q,cap,ev,_⟩:=Z.shape;subst ev;simp only[fD,eG,iS,dW,aA,aD,aP,aU,Nat.reduceAdd,Nat.reduceLT,dQ,aZ];refine gF (z:=[.slice q l.length cap,i64 0,i64 a,.pointer (some ⟨f,0,none⟩),i64 (s.deep:Nat),.bool false]) λY X hq hf J m=>?_;have u:=H.trans m;have h3:=U.ext m;have z2:w2.drew.heap.size=w2.heap.size:=rfl;have hh:=j.size;have L:PR w0 X Y f M (.slice q l.length cap) ⟨l,0,a,s.deep,false,s.ex,s.bl⟩ top:=
   ⟨h3.ch,h3.fr,J,Z.ext ((cQ w2).trans m),λe=>by have:=h.fr.lt _ e;omega,by have:=h.base;omega,λk hk=>by
    have T:=I k hk;exact⟨λe=>by have:=h.fr.lt _ e;omega,by omega,by omega⟩⟩
  have y:=Di B h0 h1;have hw:=FM B;have C:Gd N ⟨l,0,a,s.deep,false,s.ex,s.bl⟩ i:=⟨⟨y,iO.2 y.ne,O.ws.pN⟩,hN,(wZ B).1,Dh B,by
   unfold Syn.phi at A⊢;simp only[dZ];omega,O.lev⟩
  unfold pF at o n;simp only[B]at o n;refine hE X Y M _ _ top N _ L C (λx q1 G M' w4 h4 S=>?_) λc r G=>n c r (by rw[G];rfl);rw[G]at o n;simp only[R.bind]at o n;obtain⟨D,_⟩:=C.e hF G;refine Bs h4 D.ws hN D.l (λt' q2 V w5 h5 Q=>?_) λc r V=>n c r (by rw[V]);rw[V]at o;obtain⟨h6,P⟩:=h.inner u h5 (S.trans Q) (by omega);exact o x _ rfl M' w5 h6 P
 .rw[bX];refine⟨.slice none 0 0,rfl,?_⟩;rw[bX];refine⟨.pointer (some ⟨d,0,none⟩),rfl,?_⟩;refine dE.cut (λ_ _=>False) ?_ (λ_ _ _ h=>h.elim);show bE (.bool true) _ _;rw[dF,dJ,bH,fB];refine⟨i64 c,by rw[bN,cS,heap_drew,F,bT];rfl,?_⟩;rw[dJ,bH,fB];refine⟨i64 b,by rw[bN,cS,heap_drew,F,bT];rfl,?_⟩;have hi:=Gz T;rw[cP,fZ (by omega) (by omega)];refine uM (h.ext j).drew (n _ _ ?_);unfold pF;rw[T]
end
end
end
end Go.Proofs.YtjblfcfdeaagpaaGreatDoor
