/- One plain sentence: contracts and plain laws that the claim rests on. Conditions: those that each states. -/
import Derived.Test.YtjblfcfdeaagpaaGreatDoorXA1
import Derived.Test.YtjblfcfdeaagpaaGreatDoorXA3
import Derived.Test.YtjblfcfdeaagpaaGreatDoorXA2
import Derived.Lib.MapLaws
import Derived.Shelf.SlIter.Nil
import Derived.Shelf.SortM.Plain
import Derived.Shelf.SortM.SortNone
import Derived.Test.YtjblfcfdeaagpaaGreatDoorProg
set_option linter.all false
set_option linter.unusedSimpArgs false
set_option linter.unusedVariables false
set_option linter.unusedSectionVars false
set_option maxRecDepth 100000
namespace Go.Cfg
section
open Go Go.Eng Go.Lex Go.Syn
structure Vr where
 n:Str
 d:Int
 a:Int
deriving DecidableEq
structure Rs where
 ty:Str
 n:Str
 attrs:List Atr
 count:Int
 each:Int
 swap:Bool
 prev:Bool
 deps:List Str
 a:Int
deriving DecidableEq
structure Cl where
 n:Str
 mod:Nat
 args:List Atr
 a:Int
deriving DecidableEq
structure Md where
 dir:Str
 fl:Fl
 vars:List Vr
 locs:List Atr
 outs:List Atr
 res:List Rs
 calls:List Cl
deriving DecidableEq
def Ab:Md:=⟨[],⟨[],[],[]⟩,[],[],[],[],[]⟩
structure MS where
 m:Md
 src:List Str
deriving DecidableEq
inductive RC (α:Type) where
 |ok (x:α)
 |bad (c a:Int)
def RC.bind{α β:Type}(r:RC α)(f:α->RC β):RC β:=match r with
 |.ok x=>f x
 |.bad c a=>.bad c a
def pW:Str:=[109,97,105,110,46,104,99,108]
def vU:Str:=[108,111,99,97,108,115]
def mK:Str:=[118,97,114,105,97,98,108,101]
def oJ:Str:=[111,117,116,112,117,116]
def qD:Str:=[109,111,100,117,108,101]
def kR:Str:=[114,101,115,111,117,114,99,101]
def Hg:Str:=[100,101,102,97,117,108,116]
def MU:Str:=[118,97,108,117,101]
def sId:Str:=[105,100]
def xL:Str:=[99,111,117,110,116]
def uO:Str:=[102,111,114,95,101,97,99,104]
def xK:Str:=[100,101,112,101,110,100,115,95,111,110]
def BK:Str:=[108,105,102,101,99,121,99,108,101]
def EF:Str:=[99,114,101,97,116,101,95,98,101,102,111,114,101,95,100,101,115,116,114,111,121]
def Hf:Str:=[112,114,101,118,101,110,116,95,100,101,115,116,114,111,121]
def AC:Str:=[115,111,117,114,99,101]
def Yx:Str:=[118,97,114]
def MV:Str:=[108,111,99,97,108]
def Yy:Str:=[101,97,99,104]
def kS:Str->Bool
 |[]=>false
 |c::r=>iM c&&r.all jH&&decide (r.length<=31)
def tX(t:Str):Int:=if t=vU then 0 else if t=mK\/t=oJ\/t=qD then 1 else if t=kR then 2 else-1
def oD:List Str:=[Yx,MV,qD,oJ,Yy,xL]
def lH(f:Fl)(i:Nat):Ex:=f.ex.getD i ⟨0,[],[],[],0⟩
def kC(f:Fl)(i:Nat):Blk:=f.bl.getD i ⟨[],[],[],[],0⟩
def qU(f:Fl):Nat->Nat->Str->Option Str
 |0,_,_=>none
 |n+1,i,s=>
  if(lH f i).k=10 then qU f n ((lH f i).args.getD 0 0) (46::((lH f i).t++s))
  else if(lH f i).k=9 then some ((lH f i).t++s)else none
def BG(f:Fl)(i:Nat):Option Str:=qU f (i+1) i []
def lQ{σ:Type}(f:Fl)(take:σ->Atr->Ex->RC σ):List Atr->List Atr->σ->RC σ
 |_,[],s=>.ok s
 |seen,a::l,s=>if seen.any (λx=>decide (x.n=a.n))=true then .bad 2 a.a else(take s a (lH f a.e)).bind (lQ f take (seen++[a]) l)
def tO(f:Fl)(b:Blk):RC Unit:=match b.blocks with
 |[]=>.ok ()
 |k::_=>.bad 110 (kC f k).a
def KY(_:Int)(a:Atr)(_:Ex):RC Int:=if a.n=Hg then .ok a.e else .bad 110 a.a
def nY(s:MS)(b:Blk):RC MS:=
 (lQ s.m.fl KY [] b.attrs (-1)).bind λd=>(tO s.m.fl b).bind λ_=>
   if s.m.vars.any (λx=>decide (x.n=b.labels.getD 0 []))=true then .bad 2 b.a
   else .ok {s with m:={s.m with vars:=s.m.vars++[⟨b.labels.getD 0 [],d,b.a⟩]}}
def Gz(l:List Atr)(a:Atr)(_:Ex):RC (List Atr):=if l.any (λx=>decide (x.n=a.n))=true then .bad 2 a.a else .ok (l++[a])
def rT(s:MS)(b:Blk):RC MS:=
 (lQ s.m.fl Gz [] b.attrs s.m.locs).bind λl=>(tO s.m.fl b).bind λ_=>.ok {s with m:={s.m with locs:=l}}
def outT(_:Int)(a:Atr)(_:Ex):RC Int:=if a.n=MU then .ok a.e else .bad 110 a.a
def rS(s:MS)(b:Blk):RC MS:=
 (lQ s.m.fl outT [] b.attrs (-1)).bind λd=>(tO s.m.fl b).bind λ_=>
   if d<0 then .bad 110 b.a
   else if s.m.outs.any (λx=>decide (x.n=b.labels.getD 0 []))=true then .bad 2 b.a
   else .ok {s with m:={s.m with outs:=s.m.outs++[⟨b.labels.getD 0 [],d.toNat,b.a⟩]}}
def AW(f:Fl):List Nat->List Str->Option (List Str)
 |[],ds=>some ds
 |x::l,ds=>match BG f x with
  |none=>none
  |some t=>AW f l (ds++[t])
def oneOf(r:Rs)(a:Atr):RC Rs:=if r.count<0\/r.each<0 then .ok r else .bad 110 a.a
def uD(f:Fl)(r:Rs)(a:Atr)(e:Ex):RC Rs:=
 if a.n=sId then .bad 110 a.a
 else if a.n=xL then oneOf {r with count:=a.e} a
 else if a.n=uO then oneOf {r with each:=a.e} a
 else if a.n=xK then(match AW f e.args r.deps with
  |none=>.bad 110 a.a
  |some ds=>if e.k=7 then .ok {r with deps:=ds}else .bad 110 a.a)
 else oneOf {r with attrs:=r.attrs++[a]} a
def uV(r:Rs)(a:Atr)(e:Ex):RC Rs:=
 if a.n=EF then(if e.k=2\/e.k=3 then .ok {r with swap:=decide (e.k=2)}else .bad 110 a.a)
 else if a.n=Hf then(if e.k=2\/e.k=3 then .ok {r with prev:=decide (e.k=2)}else .bad 110 a.a)
 else .bad 110 a.a
def zQ(f:Fl):Nat->List Nat->Rs->RC Rs
 |_,[],r=>.ok r
 |i,k::l,r=>
  if 0<i/\(kC f k).typ=BK then .bad 2 (kC f k).a
  else if(kC f k).typ≠BK\/(kC f k).labels≠[]then .bad 110 (kC f k).a
  else(lQ f uV [] (kC f k).attrs r).bind λr=>(tO f (kC f k)).bind λ_=>zQ f (i+1) l r
def oA(s:MS)(b:Blk):RC MS:=
 (lQ s.m.fl (uD s.m.fl) [] b.attrs ⟨b.labels.getD 0 [],b.labels.getD 1 [],[],-1,-1,false,false,[],b.a⟩).bind λr=>(zQ s.m.fl 0 b.blocks r).bind λr=>
   if s.m.res.any (λx=>decide (x.ty=r.ty)&&decide (x.n=r.n))=true then .bad 2 b.a
   else .ok {s with m:={s.m with res:=s.m.res++[r]}}
def yC(s:List Atr×Str)(a:Atr)(e:Ex):RC (List Atr×Str):=
 if a.n=AC then(if e.k=5/\kS e.t=true then .ok (s.1,e.t)else .bad 110 a.a)else .ok (s.1++[a],s.2)
def zW(s:MS)(b:Blk):RC MS:=
 (lQ s.m.fl yC [] b.attrs ([],[])).bind λr=>(tO s.m.fl b).bind λ_=>
   if r.2=[]then .bad 110 b.a
   else if s.m.calls.any (λx=>decide (x.n=b.labels.getD 0 []))=true then .bad 2 b.a
   else .ok ⟨{s.m with calls:=s.m.calls++[⟨b.labels.getD 0 [],0,r.1,b.a⟩]},s.src++[r.2]⟩
def qV(s:MS)(b:Blk):RC MS:=
 if tX b.typ≠b.labels.length\/b.labels.any (λl=> !kS l)=true\/(b.typ=kR/\b.labels.getD 0 []∈oD)then .bad 110 b.a
 else if b.typ=mK then nY s b
 else if b.typ=vU then rT s b
 else if b.typ=oJ then rS s b
 else if b.typ=kR then oA s b
 else if b.typ=qD then zW s b
 else .ok s
def lL:List Nat->MS->RC MS
 |[],s=>.ok s
 |k::l,s=>(qV s (kC s.m.fl k)).bind (lL l)
inductive RL (α:Type) where
 |ok (x:α)
 |bad (c:Int) (file:Str) (a:Int)
def Bg(vars:List Vr):List Atr->Option Int
 |[]=>none
 |a::l=>if vars.any (λv=>decide (v.n=a.n))=true then Bg vars l else some a.a
def BW(args:List Atr)(vars:List Vr):Bool:=vars.any λv=>decide (v.d<0)&&!args.any (λa=>decide (a.n=v.n))
def lP(sub:Option (Str->List Md->RL (List Md)))(path dir:Str):List (Cl×Str)->List Cl->List Md->RL (List Cl×List Md)
 |[],done,mods=>.ok (done,mods)
 |(c,src)::l,done,mods=>match sub with
  |none=>.bad 111 path c.a
  |some ld=>if mods.length=16 then .bad 111 path c.a else match ld (dir++src++[47]) mods with
   |.bad k p a=>.bad k p a
   |.ok mods'=>match Bg (mods'.getD mods.length Ab).vars c.args with
    |some a=>.bad 80 path a
    |none=>if BW c.args (mods'.getD mods.length Ab).vars=true then .bad 110 path c.a
     else lP sub path dir l (done++[{c with mod:=mods.length}]) mods'
def sR(rd:Str->Option Str)(sub:Option (Str->List Md->RL (List Md)))(dir:Str)(mods:List Md):RL (List Md):=
 match rd (dir++pW)with
 |none=>.bad 111 (dir++pW) 0
 |some data=>match pO data with
  |.bad c a=>.bad c (dir++pW) a
  |.ok fl=>match lL fl.top ⟨⟨dir,fl,[],[],[],[],[]⟩,[]⟩with
   |.bad c a=>.bad c (dir++pW) a
   |.ok s=>match lP sub (dir++pW) dir (s.m.calls.zip s.src) [] (mods++[Ab])with
    |.bad c p a=>.bad c p a
    |.ok (cs,mods')=>.ok (mods'.set mods.length {s.m with calls:=cs})
def rD(rd:Str->Option Str):Nat->Str->List Md->RL (List Md)
 |0=>sR rd none
 |n+1=>sR rd (some (rD rd n))
end
end Go.Cfg
namespace Go.Proofs.YtjblfcfdeaagpaaGreatDoor
section
open Go Go.Eng Go.RowKit Go.Syn Go.Lex Go.Cfg
variable{w:World}{K:Q0}{cs:List Value}{G:Nat->Prop}{T:TypeId}{i:Nat}{n:Nat}{v:Value}{w':World}{P:Program}{c:UInt8}{S:Nat->Prop}
abbrev VrT:TypeId:=69
abbrev RsT:TypeId:=71
abbrev ClT:TypeId:=73
abbrev MdT:TypeId:=67
abbrev MoT:TypeId:=177
theorem YQ:qW P0 63 VrT 3 32:=⟨by kernel_rfl,by kernel_rfl,by decide⟩
theorem YR:qW P0 64 RsT 9 112:=⟨by kernel_rfl,by kernel_rfl,by decide⟩
theorem YU:qW P0 65 ClT 4 56:=⟨by kernel_rfl,by kernel_rfl,by decide⟩
theorem YS:qW P0 58 MdT 9 208:=⟨by kernel_rfl,by kernel_rfl,by decide⟩
theorem fV(h:SlAt w T v n cs):jM v=true:=by
 obtain⟨q,cap,rfl,_⟩:=h.shape;rfl
def vrs(l:List Vr):List Value:=l.flatMap λv=>[str v.n,i64 v.d,i64 v.a]
theorem Aq(l:List Vr):(vrs l).length=l.length*3:=yX _ (λ_=>rfl) l
theorem ON(a b:List Vr):vrs (a++b)=vrs a++vrs b:=by simp[vrs]
def RsR(w:World)(B:Nat)(r:Rs)(c:List Value):Prop:=
 ∃va vd,c=[str r.ty,str r.n,va,i64 r.count,i64 r.each,.bool r.swap,.bool r.prev,vd,i64 r.a]/\Own w B AtT 3 va r.attrs.length (kK r.attrs)/\Own w B StT 1 vd r.deps.length (strs r.deps)
def ClR(w:World)(B:Nat)(r:Cl)(c:List Value):Prop:=
 ∃va,c=[str r.n,i64 (r.mod:Nat),va,i64 r.a]/\Own w B AtT 3 va r.args.length (kK r.args)
theorem RsR.at_{B:Nat}{e:Rs}{c:List Value}(h:RsR w B e c)(hc:Chg S w w')(hS:∀k∈ub c,¬S k):RsR w' B e c:=by
 obtain⟨va,vk,rfl,h1,h2⟩:=h;exact⟨va,vk,rfl,eG h1 hc λk hk=>hS k (eF (v:=va) (by simp) hk),eG h2 hc λk hk=>hS k (eF (v:=vk) (by simp) hk)⟩
theorem ClR.at_{B:Nat}{e:Cl}{c:List Value}(h:ClR w B e c)(hc:Chg S w w')(hS:∀k∈ub c,¬S k):ClR w' B e c:=by
 obtain⟨va,rfl,h1⟩:=h;exact⟨va,rfl,eG h1 hc λk hk=>hS k (eF (v:=va) (by simp) hk)⟩
theorem RsR.low{B B':Nat}{e:Rs}{c:List Value}(h:RsR w B e c)(hb:B'<=B):RsR w B' e c:=by
 obtain⟨va,vk,rfl,h1,h2⟩:=h;exact⟨va,vk,rfl,h1.base hb,h2.base hb⟩
theorem ClR.low{B B':Nat}{e:Cl}{c:List Value}(h:ClR w B e c)(hb:B'<=B):ClR w B' e c:=by
 obtain⟨va,rfl,h1⟩:=h;exact⟨va,rfl,h1.base hb⟩
structure ML where
 M:Lay
 vV:Value
 vL:Value
 vO:Value
 vR:Value
 vC:Value
 cR:List Value
 cC:List Value
def ML.vals(L:ML):List Value:=[L.M.vE,L.M.vB,L.M.vT]++(L.M.cE++L.M.cB)++([L.vV,L.vL,L.vO,L.vR,L.vC]++(L.cR++L.cC))
def ML.cells(L:ML)(dir:Str):List Value:=[str dir,L.M.vE,L.M.vB,L.M.vT,L.vV,L.vL,L.vO,L.vR,L.vC]
structure MdR(w:World)(B:Nat)(L:ML)(m:Md):Prop where
 fo:FO w B L.M m.fl
 oV:Own w B VrT 3 L.vV m.vars.length (vrs m.vars)
 oL:Own w B AtT 3 L.vL m.locs.length (kK m.locs)
 oO:Own w B AtT 3 L.vO m.outs.length (kK m.outs)
 oR:Own w B RsT 9 L.vR m.res.length L.cR
 oC:Own w B ClT 4 L.vC m.calls.length L.cC
 rr:kO (RsR w B) 9 m.res L.cR
 cc:kO (ClR w B) 4 m.calls L.cC
 lt:∀k∈ub L.vals,k<w.heap.size/\B<=k
theorem ML.file(L:ML):∀v∈[L.M.vE,L.M.vB,L.M.vT]++(L.M.cE++L.M.cB),v∈L.vals:=λv hv=>cD _ hv
theorem MdR.keep{B:Nat}{L:ML}{m:Md}(h:MdR w B L m)(hc:Chg S w w')(hS:∀k∈ub L.vals,¬S k):MdR w' B L m:=by
 have hu:∀v∈L.vals,∀k,v.ownBlock=some k->¬S k:=λv hv k hk=>hS k (eF hv hk);refine⟨h.fo.keep hc λk _ _ hk=>hS k (CL L.file k hk),eG h.oV hc (hu _ (by simp[ML.vals])),eG h.oL hc (hu _ (by simp[ML.vals])),eG h.oO hc (hu _ (by simp[ML.vals])),eG h.oR hc (hu _ (by simp[ML.vals])),eG h.oC hc (hu _ (by simp[ML.vals])),?_,?_,λk hk=>⟨dD (h.lt k hk).1 hc.size,(h.lt k hk).2⟩⟩
 ·exact h.rr.imp λx d hd hx=>hx.at_ hc λk hk=>hS k (CL (λv hv=>by simp[ML.vals,hd v hv]) k hk)
 ·exact h.cc.imp λx d hd hx=>hx.at_ hc λk hk=>hS k (CL (λv hv=>by simp[ML.vals,hd v hv]) k hk)
theorem MdR.low{B B':Nat}{L:ML}{m:Md}(h:MdR w B L m)(hb:B'<=B):MdR w B' L m:=
 ⟨h.fo.low hb,h.oV.base hb,h.oL.base hb,h.oO.base hb,h.oR.base hb,h.oC.base hb,h.rr.imp λ_ _ _ hx=>hx.low hb,h.cc.imp λ_ _ _ hx=>hx.low hb,λk hk=>⟨(h.lt k hk).1,dR hb (h.lt k hk).2⟩⟩
class FK where
 F:Nat->Obj->Prop
def usM(p:Nat)(L:ML)(vS:Value):List Nat:=p::(ub [vS]++ub L.vals)
structure MR[FK](w0 w:World)(p:Nat)(L:ML)(vS:Value)(path:Str)(s:MS):Prop where
 ch:Ext w0 w
 pm:w.heap[p]?=some (.cells (L.cells s.m.dir++[str path,vS]).toArray MoT (0,0))
 md:MdR w w0.heap.size L s.m
 oS:Own w w0.heap.size StT 1 vS s.src.length (strs s.src)
 nd:(usM p L vS).Nodup
 lp:w0.heap.size<=p
 fk:∀k o,FK.F k o->w.heap[k]?=some o/\k∉usM p L vS
section
variable [FK]{w0 w w' w1 w2:World}{p:Nat}{L:ML}{vS:Value}{path:Str}{s:MS}
theorem MR.plt(h:MR w0 w p L vS path s):p<w.heap.size:=mB h.pm
theorem MR.in_(h:MR w0 w p L vS path s):∀k∈usM p L vS,k<w.heap.size/\w0.heap.size<=k:=by
 intro k hk;unfold usM at hk;rcases bC.1 hk with rfl|hk
 ·exact⟨h.plt,h.lp⟩
 rcases bK.1 hk with hk|hk
 ·obtain⟨g1,g2⟩:=kJ h.oS (jW.1 hk);exact⟨g1,g2⟩
 ·exact h.md.lt k hk
theorem MR.keep(h:MR w0 w p L vS path s)(hc:Chg S w w')(hS:∀k∈usM p L vS,¬S k)(hb:∀k,k<w0.heap.size->¬S k)(hf:∀k o,FK.F k o->¬S k):MR w0 w' p L vS path s:=
 ⟨h.ch.then hc λk hk e=>(hb k hk e).elim,hc.at h.pm (hS p (by simp[usM])),h.md.keep hc λk hk=>hS k (by simp[usM,hk]),eG h.oS hc λk hk=>hS k (by simp[usM,eF (v:=vS) (c:=[vS]) (by simp) hk]),h.nd,h.lp,λk o hk=>⟨hc.at (h.fk k o hk).1 (hf k o hk),(h.fk k o hk).2⟩⟩
theorem MR.ext(h:MR w0 w p L vS path s)(hx:Ext w w'):MR w0 w' p L vS path s:=h.keep hx (λ_ _ e=>e) (λ_ _ e=>e) λ_ _ _ e=>e
theorem MR.drew(h:MR w0 w p L vS path s):MR w0 w.drew p L vS path s:=h.ext (cQ w)
def uI(w0 w:World)(p:Nat)(L:ML)(vS:Value)(k:Nat):Prop:=w0.heap.size<=k/\k<w.heap.size/\k∉usM p L vS/\∀o,¬FK.F k o
theorem MR.off_new(h:MR w0 w p L vS path s){k:Nat}(hk:w.heap.size<=k)(hk':k<w'.heap.size):uI w0 w' p L vS k:=
 ⟨by have:=h.ch.size;omega,hk',λe=>by have:=(h.in_ k e).1;omega,λo e=>by have:=mB (h.fk k o e).1;omega⟩
theorem uI.up{k:Nat}(h:uI w0 w p L vS k)(hz:w.heap.size<=w'.heap.size):uI w0 w' p L vS k:=⟨h.1,dD h.2.1 hz,h.2.2⟩
theorem MR.one{b:Nat}{w3:World}(h:MR w0 w p L vS path s)(hc:Chg (One b) w w')(ho:uI w0 w3 p L vS b):MR w0 w' p L vS path s:=
 h.keep hc (λk hk e=>ho.2.2.1 (by have e:k=b:=e;exact e▸hk)) (λk hk e=>by have e:k=b:=e;have:=ho.1;omega) λk o hk e=>ho.2.2.2 o (by have e:k=b:=e;exact e▸hk)
structure Mf(w0 w:World)(p:Nat)(M:Lay)(path:Str)(fl:Fl):Prop where
 ch:Ext w0 w
 pE:∃cs:List Value,w.heap[p]?=some (.cells cs.toArray MoT (0,0))/\cs[1]?=some M.vE/\cs[2]?=some M.vB/\cs[3]?=some M.vT/\cs[9]?=some (str path)
 fo:FO w w0.heap.size M fl
theorem MR.mf(h:MR w0 w p L vS path s):Mf w0 w p L.M path s.m.fl:=⟨h.ch,⟨_,h.pm,rfl,rfl,rfl,rfl⟩,h.md.fo⟩
theorem MR.ld{off:Nat}{K:Value->Prop}(h:MR w0 w p L vS path s)(hv:(L.cells s.m.dir++[str path,vS])[off]?=some v)(hk:K v):ldW false 1 (.pointer (some ⟨p,off,none⟩)) w K:=by
 rw[eD];refine⟨v,?_,hk⟩;rw[cM,h.pm,bT];simpa using hv
theorem As{A B:List Value}{p z:Nat}{v':Value}(hn:(p::(ub (A++v::B))).Nodup)(hb:∀k,v'.ownBlock=some k->v.ownBlock=some k\/z<=k)(hz:∀k∈p::ub (A++v::B),k<z):(p::ub (A++v'::B)).Nodup:=by
 have e:∀u:Value,ub (A++u::B)=ub A++(u.ownBlock.toList++ub B):=λu=>by
  rw[nL];congr 1;unfold ub;rw[gM];cases u.ownBlock<;>rfl
 rw[e]at hn hz⊢;cases hv:v'.ownBlock with
 |none=>
  refine hn.sublist ?_;simp only[Option.toList_none,gB];exact(qN (uK _ _) _).cons_cons _
 |some k=>
  rcases hb k hv with h|h
  ·rw[h]at hn;exact hn
  ·have hk:∀x∈p::(ub A++ub B),x≠k:=λx hx e=>by
    have hx:x∈p::(ub A++(v.ownBlock.toList++ub B)):=by
     rcases bC.1 hx with rfl|hx
     ·exact aW
     ·rcases bK.1 hx with hx|hx
      ·simp[hx]
      ·simp[hx]
    have:=hz x hx;omega
   have hn2:(p::(ub A++ub B)).Nodup:=hn.sublist ((qN (uK _ _) _).cons_cons _);have:(p::(ub A++([k]++ub B))).Perm (k::p::(ub A++ub B)):=by
    refine(List.Perm.cons p ?_).trans (List.Perm.swap _ _ _);exact mT
   exact(this.nodup_iff).2 (dK.2 ⟨λhm=>hk k hm rfl,hn2⟩)
theorem rY{A B:List Value}{p:Nat}(hn:(p::ub (A++v::B)).Nodup):∀u∈A++B,∀k,u.ownBlock=some k->¬(v.ownBlock=some k\/k=p):=by
 intro u hu k hk e;have hp:∀x∈ub (A++v::B),x≠p:=λx hx e=>(dK.1 hn).1 (e▸hx);rcases e with e|e
 ·have h2:=(dK.1 hn).2;rw[nL,iA]at h2;obtain⟨_,hB,hd⟩:=h2;have hv:k∈ub (v::B):=eF (v:=v) (by simp) e;rcases bK.1 hu with hu|hu
  ·exact hd k (eF hu hk) k hv rfl
  ·have e2:ub (v::B)=k::ub B:=by unfold ub;rw[gM,e]
   rw[e2]at hB;exact(dK.1 hB).1 (eF hu hk)
 ·subst e;rcases bK.1 hu with hu|hu
  ·exact hp k (eF (cD _ hu) hk) rfl
  ·exact hp k (eF (bP _ (aD _ hu)) hk) rfl
theorem MA{A B D:List Value}{p:Nat}(hn:(p::ub (A++B)).Nodup)(hd:(ub D).Nodup)(hx:∀k∈ub D,k∉p::ub (A++B)):(p::ub (A++(D++B))).Nodup:=by
 have e:(p::ub (A++(D++B))).Perm (ub D++(p::ub (A++B))):=by
  rw[nL,nL,nL];refine(List.Perm.cons p ?_).trans List.perm_middle.symm;rw[<-fE,<-fE];exact List.Perm.append_right _ List.perm_append_comm
 rw[e.nodup_iff,iA];exact⟨hd,hn,λa ha b hb e=>hx a ha (e▸hb)⟩
theorem kB(p:Nat)(L:ML)(vS:Value):usM p L vS=p::ub ([vS]++L.vals):=by unfold usM;rw[nL]
theorem Cp(hc:Chg (λk=>v.ownBlock=some k) w w1)(hc2:Chg (One p) w1 w2):Chg (λk=>v.ownBlock=some k\/k=p) w w2:=(hc.mono λ_ _ e=>.inl e).trans (hc2.mono λ_ _ e=>.inr e)
theorem new_ne{v':Value}(hb:∀k,v'.ownBlock=some k->v.ownBlock=some k\/w.heap.size<=k)(hv:∀k,v.ownBlock=some k->k≠p)(hp:p<w.heap.size):∀k,v'.ownBlock=some k->¬One p k:=λk hk e=>by
 have e:k=p:=e
 subst e
 rcases hb k hk with h|h
 ·exact hv k h rfl
 ·omega
theorem MR.put_V{v':Value}{x:Vr}(h:MR w0 w p L vS path s)(ho:Own w1 w0.heap.size VrT 3 v' (s.m.vars.length+1) (vrs s.m.vars++vrs [x]))(hc:Chg (λk=>L.vV.ownBlock=some k) w w1)(hn:∀k,v'.ownBlock=some k->L.vV.ownBlock=some k\/w.heap.size<=k)
  (hp:w2.heap[p]?=some (.cells (({L with vV:=v'}:ML).cells s.m.dir++[str path,vS]).toArray MoT (0,0)))(hc2:Chg (One p) w1 w2):MR w0 w2 p {L with vV:=v'} vS path {s with m:={s.m with vars:=s.m.vars++[x]}}:=by
 have eA:[vS]++L.vals=([vS]++(([L.M.vE,L.M.vB,L.M.vT]++(L.M.cE++L.M.cB))++[]))++L.vV::([L.vL,L.vO,L.vR,L.vC]++(L.cR++L.cC)):=by simp[ML.vals]
 have hnd:=h.nd;have hin:=h.in_;rw[kB,eA]at hnd hin;have hoth:=rY hnd;have hcc:=Cp hc hc2;have hz:=hcc.size;have hvp:∀k,L.vV.ownBlock=some k->k≠p:=λk hk e=>(dK.1 hnd).1 (by rw[<-e];exact eF (v:=L.vV) (by simp) hk);have hfo:FO w2 w0.heap.size L.M s.m.fl:=h.md.fo.keep hcc λk _ _ hk=>by
  obtain⟨v,hv,hk⟩:=bZ.1 hk;exact hoth v (cD _ (bP _ (cD _ hv))) k hk
 have hrr:kO (RsR w2 w0.heap.size) 9 s.m.res L.cR:=h.md.rr.imp λy e he hy=>hy.at_ hcc λk hk=>by
  obtain⟨v,hv,hk⟩:=bZ.1 hk;exact hoth v (bP _ (by simp[he v hv])) k hk
 have hcl:kO (ClR w2 w0.heap.size) 4 s.m.calls L.cC:=h.md.cc.imp λy e he hy=>hy.at_ hcc λk hk=>by
  obtain⟨v,hv,hk⟩:=bZ.1 hk;exact hoth v (bP _ (by simp[he v hv])) k hk
 refine⟨h.ch.then hcc λk hk e=>?_,hp,⟨hfo,by rw[ON,aP];exact eG ho hc2 (new_ne hn hvp h.plt),eG h.md.oL hcc (hoth _ (by simp)),eG h.md.oO hcc (hoth _ (by simp)),eG h.md.oR hcc (hoth _ (by simp)),eG h.md.oC hcc (hoth _ (by simp)),hrr,hcl,λk hk=>?_⟩,eG h.oS hcc (hoth _ (by simp)),?_,h.lp,?_⟩
 ·rcases e with e|e
  ·have:=(hin k (aD _ (eF (v:=L.vV) (by simp) e))).2;omega
  ·have:=h.lp;omega
 ·obtain⟨v,hv,hkv⟩:=bZ.1 hk;have hv:v=v'\/v∈([vS]++(([L.M.vE,L.M.vB,L.M.vT]++(L.M.cE++L.M.cB))++[]))++([L.vL,L.vO,L.vR,L.vC]++(L.cR++L.cC)):=by
   simp only[ML.vals,bK,bC,cA,gG]at hv⊢
   try simp only[or_assoc]at hv⊢
   grind
  rcases hv with rfl|hv
  ·rcases hn k hkv with e|e
   ·have:=hin k (aD _ (eF (v:=L.vV) (by simp) e));omega
   ·have h1:=kJ ho hkv;have h2:=hc2.size;have h3:=h.ch.size;omega
  ·have:v∈([vS]++(([L.M.vE,L.M.vB,L.M.vT]++(L.M.cE++L.M.cB))++[]))++L.vV::([L.vL,L.vO,L.vR,L.vC]++(L.cR++L.cC)):=by
    rcases bK.1 hv with hv|hv
    ·exact cD _ hv
    ·exact bP _ (aD _ hv)
   have:=hin k (aD _ (eF this hkv));omega
 ·have hsw:=As (v':=v') (z:=w.heap.size) hnd hn λk hk=>(hin k hk).1;rw[kB];have e2:[vS]++({L with vV:=v'}:ML).vals=([vS]++(([L.M.vE,L.M.vB,L.M.vT]++(L.M.cE++L.M.cB))++[]))++v'::([L.vL,L.vO,L.vR,L.vC]++(L.cR++L.cC)):=by simp[ML.vals]
  rw[e2];exact hsw
 ·intro k o hk;obtain⟨g1,g2⟩:=h.fk k o hk;have g3:=mB g1;rw[kB,eA]at g2;refine⟨hcc.at g1 λe=>?_,λhm=>?_⟩
  ·rcases e with e|e
   ·exact g2 (aD _ (eF (v:=L.vV) (by simp) e))
   ·exact g2 (by rw[e];exact aW)
  ·rw[kB]at hm;rcases bC.1 hm with e|hm
   ·exact g2 (by rw[e];exact aW)
   obtain⟨v,hv,hkv⟩:=bZ.1 hm;have hv:v=v'\/v∈([vS]++(([L.M.vE,L.M.vB,L.M.vT]++(L.M.cE++L.M.cB))++[]))++([L.vL,L.vO,L.vR,L.vC]++(L.cR++L.cC)):=by
    simp only[ML.vals,bK,bC,cA,gG]at hv⊢
    try simp only[or_assoc]at hv⊢
    grind
   rcases hv with rfl|hv
   ·rcases hn k hkv with e|e
    ·exact g2 (aD _ (eF (v:=L.vV) (by simp) e))
    ·omega
   ·refine g2 (aD _ (eF ?_ hkv));rcases bK.1 hv with hv|hv
    ·exact cD _ hv
    ·exact bP _ (aD _ hv)
theorem MR.put_L{v':Value}{x:Atr}(h:MR w0 w p L vS path s)(ho:Own w1 w0.heap.size AtT 3 v' (s.m.locs.length+1) (kK s.m.locs++kK [x]))(hc:Chg (λk=>L.vL.ownBlock=some k) w w1)(hn:∀k,v'.ownBlock=some k->L.vL.ownBlock=some k\/w.heap.size<=k)
  (hp:w2.heap[p]?=some (.cells (({L with vL:=v'}:ML).cells s.m.dir++[str path,vS]).toArray MoT (0,0)))(hc2:Chg (One p) w1 w2):MR w0 w2 p {L with vL:=v'} vS path {s with m:={s.m with locs:=s.m.locs++[x]}}:=by
 have eA:[vS]++L.vals=([vS]++(([L.M.vE,L.M.vB,L.M.vT]++(L.M.cE++L.M.cB))++[L.vV]))++L.vL::([L.vO,L.vR,L.vC]++(L.cR++L.cC)):=by simp[ML.vals]
 have hnd:=h.nd;have hin:=h.in_;rw[kB,eA]at hnd hin;have hoth:=rY hnd;have hcc:=Cp hc hc2;have hz:=hcc.size;have hvp:∀k,L.vL.ownBlock=some k->k≠p:=λk hk e=>(dK.1 hnd).1 (by rw[<-e];exact eF (v:=L.vL) (by simp) hk);have hfo:FO w2 w0.heap.size L.M s.m.fl:=h.md.fo.keep hcc λk _ _ hk=>by
  obtain⟨v,hv,hk⟩:=bZ.1 hk;exact hoth v (cD _ (bP _ (cD _ hv))) k hk
 have hrr:kO (RsR w2 w0.heap.size) 9 s.m.res L.cR:=h.md.rr.imp λy e he hy=>hy.at_ hcc λk hk=>by
  obtain⟨v,hv,hk⟩:=bZ.1 hk;exact hoth v (bP _ (by simp[he v hv])) k hk
 have hcl:kO (ClR w2 w0.heap.size) 4 s.m.calls L.cC:=h.md.cc.imp λy e he hy=>hy.at_ hcc λk hk=>by
  obtain⟨v,hv,hk⟩:=bZ.1 hk;exact hoth v (bP _ (by simp[he v hv])) k hk
 refine⟨h.ch.then hcc λk hk e=>?_,hp,⟨hfo,eG h.md.oV hcc (hoth _ (by simp)),by rw[Bf,aP];exact eG ho hc2 (new_ne hn hvp h.plt),eG h.md.oO hcc (hoth _ (by simp)),eG h.md.oR hcc (hoth _ (by simp)),eG h.md.oC hcc (hoth _ (by simp)),hrr,hcl,λk hk=>?_⟩,eG h.oS hcc (hoth _ (by simp)),?_,h.lp,?_⟩
 ·rcases e with e|e
  ·have:=(hin k (aD _ (eF (v:=L.vL) (by simp) e))).2;omega
  ·have:=h.lp;omega
 ·obtain⟨v,hv,hkv⟩:=bZ.1 hk;have hv:v=v'\/v∈([vS]++(([L.M.vE,L.M.vB,L.M.vT]++(L.M.cE++L.M.cB))++[L.vV]))++([L.vO,L.vR,L.vC]++(L.cR++L.cC)):=by
   simp only[ML.vals,bK,bC,cA,gG]at hv⊢
   try simp only[or_assoc]at hv⊢
   grind
  rcases hv with rfl|hv
  ·rcases hn k hkv with e|e
   ·have:=hin k (aD _ (eF (v:=L.vL) (by simp) e));omega
   ·have h1:=kJ ho hkv;have h2:=hc2.size;have h3:=h.ch.size;omega
  ·have:v∈([vS]++(([L.M.vE,L.M.vB,L.M.vT]++(L.M.cE++L.M.cB))++[L.vV]))++L.vL::([L.vO,L.vR,L.vC]++(L.cR++L.cC)):=by
    rcases bK.1 hv with hv|hv
    ·exact cD _ hv
    ·exact bP _ (aD _ hv)
   have:=hin k (aD _ (eF this hkv));omega
 ·have hsw:=As (v':=v') (z:=w.heap.size) hnd hn λk hk=>(hin k hk).1;rw[kB];have e2:[vS]++({L with vL:=v'}:ML).vals=([vS]++(([L.M.vE,L.M.vB,L.M.vT]++(L.M.cE++L.M.cB))++[L.vV]))++v'::([L.vO,L.vR,L.vC]++(L.cR++L.cC)):=by simp[ML.vals]
  rw[e2];exact hsw
 ·intro k o hk;obtain⟨g1,g2⟩:=h.fk k o hk;have g3:=mB g1;rw[kB,eA]at g2;refine⟨hcc.at g1 λe=>?_,λhm=>?_⟩
  ·rcases e with e|e
   ·exact g2 (aD _ (eF (v:=L.vL) (by simp) e))
   ·exact g2 (by rw[e];exact aW)
  ·rw[kB]at hm;rcases bC.1 hm with e|hm
   ·exact g2 (by rw[e];exact aW)
   obtain⟨v,hv,hkv⟩:=bZ.1 hm;have hv:v=v'\/v∈([vS]++(([L.M.vE,L.M.vB,L.M.vT]++(L.M.cE++L.M.cB))++[L.vV]))++([L.vO,L.vR,L.vC]++(L.cR++L.cC)):=by
    simp only[ML.vals,bK,bC,cA,gG]at hv⊢
    try simp only[or_assoc]at hv⊢
    grind
   rcases hv with rfl|hv
   ·rcases hn k hkv with e|e
    ·exact g2 (aD _ (eF (v:=L.vL) (by simp) e))
    ·omega
   ·refine g2 (aD _ (eF ?_ hkv));rcases bK.1 hv with hv|hv
    ·exact cD _ hv
    ·exact bP _ (aD _ hv)
theorem MR.put_O{v':Value}{x:Atr}(h:MR w0 w p L vS path s)(ho:Own w1 w0.heap.size AtT 3 v' (s.m.outs.length+1) (kK s.m.outs++kK [x]))(hc:Chg (λk=>L.vO.ownBlock=some k) w w1)(hn:∀k,v'.ownBlock=some k->L.vO.ownBlock=some k\/w.heap.size<=k)
  (hp:w2.heap[p]?=some (.cells (({L with vO:=v'}:ML).cells s.m.dir++[str path,vS]).toArray MoT (0,0)))(hc2:Chg (One p) w1 w2):MR w0 w2 p {L with vO:=v'} vS path {s with m:={s.m with outs:=s.m.outs++[x]}}:=by
 have eA:[vS]++L.vals=([vS]++(([L.M.vE,L.M.vB,L.M.vT]++(L.M.cE++L.M.cB))++[L.vV,L.vL]))++L.vO::([L.vR,L.vC]++(L.cR++L.cC)):=by simp[ML.vals]
 have hnd:=h.nd;have hin:=h.in_;rw[kB,eA]at hnd hin;have hoth:=rY hnd;have hcc:=Cp hc hc2;have hz:=hcc.size;have hvp:∀k,L.vO.ownBlock=some k->k≠p:=λk hk e=>(dK.1 hnd).1 (by rw[<-e];exact eF (v:=L.vO) (by simp) hk);have hfo:FO w2 w0.heap.size L.M s.m.fl:=h.md.fo.keep hcc λk _ _ hk=>by
  obtain⟨v,hv,hk⟩:=bZ.1 hk;exact hoth v (cD _ (bP _ (cD _ hv))) k hk
 have hrr:kO (RsR w2 w0.heap.size) 9 s.m.res L.cR:=h.md.rr.imp λy e he hy=>hy.at_ hcc λk hk=>by
  obtain⟨v,hv,hk⟩:=bZ.1 hk;exact hoth v (bP _ (by simp[he v hv])) k hk
 have hcl:kO (ClR w2 w0.heap.size) 4 s.m.calls L.cC:=h.md.cc.imp λy e he hy=>hy.at_ hcc λk hk=>by
  obtain⟨v,hv,hk⟩:=bZ.1 hk;exact hoth v (bP _ (by simp[he v hv])) k hk
 refine⟨h.ch.then hcc λk hk e=>?_,hp,⟨hfo,eG h.md.oV hcc (hoth _ (by simp)),eG h.md.oL hcc (hoth _ (by simp)),by rw[Bf,aP];exact eG ho hc2 (new_ne hn hvp h.plt),eG h.md.oR hcc (hoth _ (by simp)),eG h.md.oC hcc (hoth _ (by simp)),hrr,hcl,λk hk=>?_⟩,eG h.oS hcc (hoth _ (by simp)),?_,h.lp,?_⟩
 ·rcases e with e|e
  ·have:=(hin k (aD _ (eF (v:=L.vO) (by simp) e))).2;omega
  ·have:=h.lp;omega
 ·obtain⟨v,hv,hkv⟩:=bZ.1 hk;have hv:v=v'\/v∈([vS]++(([L.M.vE,L.M.vB,L.M.vT]++(L.M.cE++L.M.cB))++[L.vV,L.vL]))++([L.vR,L.vC]++(L.cR++L.cC)):=by
   simp only[ML.vals,bK,bC,cA,gG]at hv⊢
   try simp only[or_assoc]at hv⊢
   grind
  rcases hv with rfl|hv
  ·rcases hn k hkv with e|e
   ·have:=hin k (aD _ (eF (v:=L.vO) (by simp) e));omega
   ·have h1:=kJ ho hkv;have h2:=hc2.size;have h3:=h.ch.size;omega
  ·have:v∈([vS]++(([L.M.vE,L.M.vB,L.M.vT]++(L.M.cE++L.M.cB))++[L.vV,L.vL]))++L.vO::([L.vR,L.vC]++(L.cR++L.cC)):=by
    rcases bK.1 hv with hv|hv
    ·exact cD _ hv
    ·exact bP _ (aD _ hv)
   have:=hin k (aD _ (eF this hkv));omega
 ·have hsw:=As (v':=v') (z:=w.heap.size) hnd hn λk hk=>(hin k hk).1;rw[kB];have e2:[vS]++({L with vO:=v'}:ML).vals=([vS]++(([L.M.vE,L.M.vB,L.M.vT]++(L.M.cE++L.M.cB))++[L.vV,L.vL]))++v'::([L.vR,L.vC]++(L.cR++L.cC)):=by simp[ML.vals]
  rw[e2];exact hsw
 ·intro k o hk;obtain⟨g1,g2⟩:=h.fk k o hk;have g3:=mB g1;rw[kB,eA]at g2;refine⟨hcc.at g1 λe=>?_,λhm=>?_⟩
  ·rcases e with e|e
   ·exact g2 (aD _ (eF (v:=L.vO) (by simp) e))
   ·exact g2 (by rw[e];exact aW)
  ·rw[kB]at hm;rcases bC.1 hm with e|hm
   ·exact g2 (by rw[e];exact aW)
   obtain⟨v,hv,hkv⟩:=bZ.1 hm;have hv:v=v'\/v∈([vS]++(([L.M.vE,L.M.vB,L.M.vT]++(L.M.cE++L.M.cB))++[L.vV,L.vL]))++([L.vR,L.vC]++(L.cR++L.cC)):=by
    simp only[ML.vals,bK,bC,cA,gG]at hv⊢
    try simp only[or_assoc]at hv⊢
    grind
   rcases hv with rfl|hv
   ·rcases hn k hkv with e|e
    ·exact g2 (aD _ (eF (v:=L.vO) (by simp) e))
    ·omega
   ·refine g2 (aD _ (eF ?_ hkv));rcases bK.1 hv with hv|hv
    ·exact cD _ hv
    ·exact bP _ (aD _ hv)
theorem MR.put_R{v':Value}{x:Rs}{d:List Value}(h:MR w0 w p L vS path s)(ho:Own w1 w0.heap.size RsT 9 v' (s.m.res.length+1) (L.cR++d))(hc:Chg (λk=>L.vR.ownBlock=some k) w w1)(hn:∀k,v'.ownBlock=some k->L.vR.ownBlock=some k\/w.heap.size<=k)(hx:RsR w w0.heap.size x d)(hl:d.length=9)(hd:(ub d).Nodup)(hf:∀k∈ub d,uI w0 w p L vS k)
  (hp:w2.heap[p]?=some (.cells (({L with vR:=v',cR:=L.cR++d}:ML).cells s.m.dir++[str path,vS]).toArray MoT (0,0)))(hc2:Chg (One p) w1 w2):MR w0 w2 p {L with vR:=v',cR:=L.cR++d} vS path {s with m:={s.m with res:=s.m.res++[x]}}:=by
 have eA:[vS]++L.vals=([vS]++(([L.M.vE,L.M.vB,L.M.vT]++(L.M.cE++L.M.cB))++[L.vV,L.vL,L.vO]))++L.vR::([L.vC]++(L.cR++L.cC)):=by simp[ML.vals]
 have hnd:=h.nd;have hin:=h.in_;rw[kB,eA]at hnd hin;have hoth:=rY hnd;have hcc:=Cp hc hc2;have hz:=hcc.size;have hvp:∀k,L.vR.ownBlock=some k->k≠p:=λk hk e=>(dK.1 hnd).1 (by rw[<-e];exact eF (v:=L.vR) (by simp) hk);have hfo:FO w2 w0.heap.size L.M s.m.fl:=h.md.fo.keep hcc λk _ _ hk=>by
  obtain⟨v,hv,hk⟩:=bZ.1 hk;exact hoth v (cD _ (bP _ (cD _ hv))) k hk
 have hrr:kO (RsR w2 w0.heap.size) 9 s.m.res L.cR:=h.md.rr.imp λy e he hy=>hy.at_ hcc λk hk=>by
  obtain⟨v,hv,hk⟩:=bZ.1 hk;exact hoth v (bP _ (by simp[he v hv])) k hk
 have hcl:kO (ClR w2 w0.heap.size) 4 s.m.calls L.cC:=h.md.cc.imp λy e he hy=>hy.at_ hcc λk hk=>by
  obtain⟨v,hv,hk⟩:=bZ.1 hk;exact hoth v (bP _ (by simp[he v hv])) k hk
 have hxd:=hx.at_ hcc (λk hk e=>by
  have h0:=hf k hk;have h1:=h0.2.2.1;rw[kB,eA]at h1;rcases e with e|e
  ·exact h1 (aD _ (eF (v:=L.vR) (by simp) e))
  ·exact h1 (by rw[e];exact aW))
 refine⟨h.ch.then hcc λk hk e=>?_,hp,⟨hfo,eG h.md.oV hcc (hoth _ (by simp)),eG h.md.oL hcc (hoth _ (by simp)),eG h.md.oO hcc (hoth _ (by simp)),by rw[aP];exact eG ho hc2 (new_ne hn hvp h.plt),eG h.md.oC hcc (hoth _ (by simp)),hrr.snoc hxd hl,hcl,λk hk=>?_⟩,eG h.oS hcc (hoth _ (by simp)),?_,h.lp,?_⟩
 ·rcases e with e|e
  ·have:=(hin k (aD _ (eF (v:=L.vR) (by simp) e))).2;omega
  ·have:=h.lp;omega
 ·obtain⟨v,hv,hkv⟩:=bZ.1 hk;have hv:v=v'\/v∈([vS]++(([L.M.vE,L.M.vB,L.M.vT]++(L.M.cE++L.M.cB))++[L.vV,L.vL,L.vO]))++([L.vC]++(L.cR++L.cC))\/v∈d:=by
   simp only[ML.vals,bK,bC,cA,gG]at hv⊢
   try simp only[or_assoc]at hv⊢
   grind
  rcases hv with rfl|hv|hv
  ·rcases hn k hkv with e|e
   ·have:=hin k (aD _ (eF (v:=L.vR) (by simp) e));omega
   ·have h1:=kJ ho hkv;have h2:=hc2.size;have h3:=h.ch.size;omega
  ·have:v∈([vS]++(([L.M.vE,L.M.vB,L.M.vT]++(L.M.cE++L.M.cB))++[L.vV,L.vL,L.vO]))++L.vR::([L.vC]++(L.cR++L.cC)):=by
    rcases bK.1 hv with hv|hv
    ·exact cD _ hv
    ·exact bP _ (aD _ hv)
   have:=hin k (aD _ (eF this hkv));omega
  ·have h0:=hf k (eF hv hkv);exact⟨dD h0.2.1 hz,h0.1⟩
 ·have hsw:=As (v':=v') (z:=w.heap.size) hnd hn λk hk=>(hin k hk).1;rw[kB];have e1:([vS]++(([L.M.vE,L.M.vB,L.M.vT]++(L.M.cE++L.M.cB))++[L.vV,L.vL,L.vO]))++v'::([L.vC]++(L.cR++L.cC))=(([vS]++(([L.M.vE,L.M.vB,L.M.vT]++(L.M.cE++L.M.cB))++[L.vV,L.vL,L.vO]))++v'::([L.vC]++L.cR))++(L.cC):=by simp
  have e2:[vS]++({L with vR:=v',cR:=L.cR++d}:ML).vals=(([vS]++(([L.M.vE,L.M.vB,L.M.vT]++(L.M.cE++L.M.cB))++[L.vV,L.vL,L.vO]))++v'::([L.vC]++L.cR))++(d++(L.cC)):=by simp[ML.vals]
  rw[e1]at hsw;rw[e2];refine MA hsw hd λk hk hm=>?_;have h0:=hf k hk;have h1:=h0.2.2.1;rw[kB,eA]at h1;rw[<-e1]at hm;rcases bC.1 hm with rfl|hm
  ·exact h1 aW
  ·obtain⟨v,hv,hkv⟩:=bZ.1 hm;rcases bK.1 hv with hv|hv
   ·exact h1 (aD _ (eF (cD _ hv) hkv))
   ·rcases bC.1 hv with rfl|hv
    ·rcases hn k hkv with e|e
     ·exact h1 (aD _ (eF (v:=L.vR) (by simp) e))
     ·have:=h0.2.1;omega
    ·exact h1 (aD _ (eF (bP _ (aD _ hv)) hkv))
 ·intro k o hk;obtain⟨g1,g2⟩:=h.fk k o hk;have g3:=mB g1;rw[kB,eA]at g2;refine⟨hcc.at g1 λe=>?_,λhm=>?_⟩
  ·rcases e with e|e
   ·exact g2 (aD _ (eF (v:=L.vR) (by simp) e))
   ·exact g2 (by rw[e];exact aW)
  ·rw[kB]at hm;rcases bC.1 hm with e|hm
   ·exact g2 (by rw[e];exact aW)
   obtain⟨v,hv,hkv⟩:=bZ.1 hm;have hv:v=v'\/v∈([vS]++(([L.M.vE,L.M.vB,L.M.vT]++(L.M.cE++L.M.cB))++[L.vV,L.vL,L.vO]))++([L.vC]++(L.cR++L.cC))\/v∈d:=by
    simp only[ML.vals,bK,bC,cA,gG]at hv⊢
    try simp only[or_assoc]at hv⊢
    grind
   rcases hv with rfl|hv|hv
   ·rcases hn k hkv with e|e
    ·exact g2 (aD _ (eF (v:=L.vR) (by simp) e))
    ·omega
   ·refine g2 (aD _ (eF ?_ hkv));rcases bK.1 hv with hv|hv
    ·exact cD _ hv
    ·exact bP _ (aD _ hv)
   ·exact(hf k (eF hv hkv)).2.2.2 o hk
theorem MR.base(h:MR w0 w p L vS path s):w0.heap.size<=w.heap.size:=h.ch.size
theorem MR.val_ne(h:MR w0 w p L vS path s)(hv:v∈[vS]++L.vals):∀k,v.ownBlock=some k->k≠p:=λk hk e=>by
 have hnd:=h.nd
 rw[kB]at hnd
 exact(dK.1 hnd).1 (by rw[<-e];exact eF hv hk)
theorem MR.app_V{x:Vr}{t:Value}{KV:Q0}(h:MR w0 w p L vS path s)(ht:SlAt w VrT t 1 (vrs [x]))(hfew:s.m.vars.length<=100000000000)
  (hK:∀v' w1,Own w1 w0.heap.size VrT 3 v' (s.m.vars.length+1) (vrs s.m.vars++vrs [x])->Chg (λk=>L.vV.ownBlock=some k) w w1->(∀k,v'.ownBlock=some k->L.vV.ownBlock=some k\/w.heap.size<=k)->KV v' w1):fY P0 (Builtin.append_ #[63,63] 63 #[L.vV,t]) w KV:=by
 refine jL YQ h.md.oV ht (by rfl) (λu hu=>by simp only[vrs,kK,strs,fW,kV,gL,Bj,fX,bC,cA,gG]at hu;rcases hu with rfl|rfl|rfl<;>rfl) (by omega) (by omega) h.base hK
theorem MR.st_V{v':Value}{x:Vr}{KW:World->Prop}(h:MR w0 w p L vS path s)(ho:Own w1 w0.heap.size VrT 3 v' (s.m.vars.length+1) (vrs s.m.vars++vrs [x]))(hc:Chg (λk=>L.vV.ownBlock=some k) w w1)(hn:∀k,v'.ownBlock=some k->L.vV.ownBlock=some k\/w.heap.size<=k)
  (hK:∀w2,MR w0 w2 p {L with vV:=v'} vS path {s with m:={s.m with vars:=s.m.vars++[x]}}->Chg (One p) w1 w2->w2.heap.size=w1.heap.size->KW w2):stW 1 (.pointer (some ⟨p,4,none⟩)) v' w1 KW:=by
 have hp1:=hc.at h.pm (λe=>h.val_ne (v:=L.vV) (by simp[ML.vals]) p e rfl);refine kQ hp1 (fV ho.sl) (by simp[ML.cells]) λw2 hz2 hb2 hc2=>hK w2 (h.put_V ho hc hn (by rw[hb2];simp[ML.cells]) hc2) hc2 hz2
theorem MR.app_L{x:Atr}{t:Value}{KV:Q0}(h:MR w0 w p L vS path s)(ht:SlAt w AtT t 1 (kK [x]))(hfew:s.m.locs.length<=100000000000)
  (hK:∀v' w1,Own w1 w0.heap.size AtT 3 v' (s.m.locs.length+1) (kK s.m.locs++kK [x])->Chg (λk=>L.vL.ownBlock=some k) w w1->(∀k,v'.ownBlock=some k->L.vL.ownBlock=some k\/w.heap.size<=k)->KV v' w1):fY P0 (Builtin.append_ #[36,36] 36 #[L.vL,t]) w KV:=by
 refine jL Ie h.md.oL ht (by rfl) (λu hu=>by simp only[vrs,kK,strs,fW,kV,gL,Bj,fX,bC,cA,gG]at hu;rcases hu with rfl|rfl|rfl<;>rfl) (by omega) (by omega) h.base hK
theorem MR.st_L{v':Value}{x:Atr}{KW:World->Prop}(h:MR w0 w p L vS path s)(ho:Own w1 w0.heap.size AtT 3 v' (s.m.locs.length+1) (kK s.m.locs++kK [x]))(hc:Chg (λk=>L.vL.ownBlock=some k) w w1)(hn:∀k,v'.ownBlock=some k->L.vL.ownBlock=some k\/w.heap.size<=k)
  (hK:∀w2,MR w0 w2 p {L with vL:=v'} vS path {s with m:={s.m with locs:=s.m.locs++[x]}}->Chg (One p) w1 w2->w2.heap.size=w1.heap.size->KW w2):stW 1 (.pointer (some ⟨p,5,none⟩)) v' w1 KW:=by
 have hp1:=hc.at h.pm (λe=>h.val_ne (v:=L.vL) (by simp[ML.vals]) p e rfl);refine kQ hp1 (fV ho.sl) (by simp[ML.cells]) λw2 hz2 hb2 hc2=>hK w2 (h.put_L ho hc hn (by rw[hb2];simp[ML.cells]) hc2) hc2 hz2
theorem MR.app_O{x:Atr}{t:Value}{KV:Q0}(h:MR w0 w p L vS path s)(ht:SlAt w AtT t 1 (kK [x]))(hfew:s.m.outs.length<=100000000000)
  (hK:∀v' w1,Own w1 w0.heap.size AtT 3 v' (s.m.outs.length+1) (kK s.m.outs++kK [x])->Chg (λk=>L.vO.ownBlock=some k) w w1->(∀k,v'.ownBlock=some k->L.vO.ownBlock=some k\/w.heap.size<=k)->KV v' w1):fY P0 (Builtin.append_ #[36,36] 36 #[L.vO,t]) w KV:=by
 refine jL Ie h.md.oO ht (by rfl) (λu hu=>by simp only[vrs,kK,strs,fW,kV,gL,Bj,fX,bC,cA,gG]at hu;rcases hu with rfl|rfl|rfl<;>rfl) (by omega) (by omega) h.base hK
theorem MR.st_O{v':Value}{x:Atr}{KW:World->Prop}(h:MR w0 w p L vS path s)(ho:Own w1 w0.heap.size AtT 3 v' (s.m.outs.length+1) (kK s.m.outs++kK [x]))(hc:Chg (λk=>L.vO.ownBlock=some k) w w1)(hn:∀k,v'.ownBlock=some k->L.vO.ownBlock=some k\/w.heap.size<=k)
  (hK:∀w2,MR w0 w2 p {L with vO:=v'} vS path {s with m:={s.m with outs:=s.m.outs++[x]}}->Chg (One p) w1 w2->w2.heap.size=w1.heap.size->KW w2):stW 1 (.pointer (some ⟨p,6,none⟩)) v' w1 KW:=by
 have hp1:=hc.at h.pm (λe=>h.val_ne (v:=L.vO) (by simp[ML.vals]) p e rfl);refine kQ hp1 (fV ho.sl) (by simp[ML.cells]) λw2 hz2 hb2 hc2=>hK w2 (h.put_O ho hc hn (by rw[hb2];simp[ML.cells]) hc2) hc2 hz2
theorem MR.app_R{x:Rs}{d:List Value}{t:Value}{KV:Q0}(h:MR w0 w p L vS path s)(ht:SlAt w RsT t 1 (d))(hl:d.length=9)(h1:∀u∈d,jM u=true)(hfew:s.m.res.length<=100000000000)
  (hK:∀v' w1,Own w1 w0.heap.size RsT 9 v' (s.m.res.length+1) (L.cR++d)->Chg (λk=>L.vR.ownBlock=some k) w w1->(∀k,v'.ownBlock=some k->L.vR.ownBlock=some k\/w.heap.size<=k)->KV v' w1):fY P0 (Builtin.append_ #[64,64] 64 #[L.vR,t]) w KV:=by
 refine jL YR h.md.oR ht (by rw[hl]) h1 (by omega) (by omega) h.base hK
theorem MR.st_R{v':Value}{x:Rs}{d:List Value}{KW:World->Prop}(h:MR w0 w p L vS path s)(ho:Own w1 w0.heap.size RsT 9 v' (s.m.res.length+1) (L.cR++d))(hc:Chg (λk=>L.vR.ownBlock=some k) w w1)(hn:∀k,v'.ownBlock=some k->L.vR.ownBlock=some k\/w.heap.size<=k)(hx:RsR w w0.heap.size x d)(hl:d.length=9)(hd:(ub d).Nodup)(hf:∀k∈ub d,uI w0 w p L vS k)
  (hK:∀w2,MR w0 w2 p {L with vR:=v',cR:=L.cR++d} vS path {s with m:={s.m with res:=s.m.res++[x]}}->Chg (One p) w1 w2->w2.heap.size=w1.heap.size->KW w2):stW 1 (.pointer (some ⟨p,7,none⟩)) v' w1 KW:=by
 have hp1:=hc.at h.pm (λe=>h.val_ne (v:=L.vR) (by simp[ML.vals]) p e rfl);refine kQ hp1 (fV ho.sl) (by simp[ML.cells]) λw2 hz2 hb2 hc2=>hK w2 (h.put_R ho hc hn hx hl hd hf (by rw[hb2];simp[ML.cells]) hc2) hc2 hz2
theorem MR.app_C{x:Cl}{d:List Value}{t:Value}{KV:Q0}(h:MR w0 w p L vS path s)(ht:SlAt w ClT t 1 (d))(hl:d.length=4)(h1:∀u∈d,jM u=true)(hfew:s.m.calls.length<=100000000000)
  (hK:∀v' w1,Own w1 w0.heap.size ClT 4 v' (s.m.calls.length+1) (L.cC++d)->Chg (λk=>L.vC.ownBlock=some k) w w1->(∀k,v'.ownBlock=some k->L.vC.ownBlock=some k\/w.heap.size<=k)->KV v' w1):fY P0 (Builtin.append_ #[65,65] 65 #[L.vC,t]) w KV:=by
 refine jL YU h.md.oC ht (by rw[hl]) h1 (by omega) (by omega) h.base hK
end
end
section
open Go Go.Eng Go.Num
variable{w:World}{K:Q0}{cs:List Value}{G:Nat->Prop}{T:TypeId}{i:Nat}{n:Nat}{v:Value}{w':World}{P:Program}{c:UInt8}{S:Nat->Prop}
section
variable [HX]
def HY{α:Type}(p:α->Bool)(xs:List α):Int:=match xs.findIdx? p with|some i=>i|none=>-1
theorem AV{α:Type}(p:α->Bool)(xs:List α):decide ((0:Int)<=HY p xs)=xs.any p:=by
 unfold HY;cases h:xs.findIdx? p with
 |none=>
  have:=List.findIdx?_eq_none_iff.1 h;have:xs.any p=false:=zL.2 λx hx=>by simp[this x hx]
  rw[this];decide
 |some i=>
  obtain⟨hi,hp,_⟩:=List.findIdx?_eq_some_iff_getElem.1 h;rw[mU.2 ⟨_,Bi hi,hp⟩];exact bW (by simp)
theorem HW{α:Type}{p:α->Bool}{xs:List α}{x:α}(h:(xs.take i).any p=false)(hi:xs[i]?=some x)(hx:p x=true):xs.findIdx? p=some i:=by
 obtain⟨hl,e⟩:=bS.1 hi;rw[List.findIdx?_eq_some_iff_getElem];refine⟨hl,by rw[e];exact hx,λj hj=>?_⟩;have:=zL.1 h xs[j] (bI (i:=j) (by rw[wV,aU hj];exact aG _));simpa using this
end
end
section
open Go Go.Eng Go.RowKit Go.Syn Go.Lex Go.Cfg
variable{w:World}{K:Q0}{cs:List Value}{G:Nat->Prop}{T:TypeId}{i:Nat}{n:Nat}{v:Value}{w':World}{P:Program}{c:UInt8}{S:Nat->Prop}
abbrev DgI:TypeId:=29
section
variable [HX]
def TC(w0:World)(path:Str)(code at_:Int):Prop:=
 ∀(d:Nat) (w':World),Ext w0 w'->w0.heap.size<=d->w'.heap[d]?=some (.cells [i64 code,str path,i64 at_].toArray 48 (0,0))->HX.X [{v:=.iface DgI (.pointer (some ⟨d,0,none⟩)),recovered:=false}] w'
abbrev pA(p:Nat):Value:=.pointer (some ⟨p,0,none⟩)
section
variable{w0 w:World}{p:Nat}{M:Lay}{path:Str}{fl:Fl}{K:Q0}
theorem mP{c a:Int}(h:Mf w0 w p M path fl)(ht:TC w0 path c a):aJ P0 94 [pA p,i64 c,i64 a] w K:=by
 refine OE ?_;unfold W94;obtain⟨cs,hp,_,_,_,h9⟩:=h.pE;rw[dB,bE,bL,aI,eD];refine⟨str path,by rw[cM,hp,bT];simpa using h9,?_⟩;simp only[dP,dW,dN,aB,aK,aM,aQ];refine⟨by omega,by omega,by omega,?_⟩;refine fZ (z:=[i64 c,str path,i64 a]) λd w' hd hz hb hx=>?_;exact ht d w' (h.ch.trans hx) (by have:=h.ch.size;omega) hb
end
def UD(s:Str)(i:Nat):Prop:=∀j c,j<i->s[j]?=some c->jH c=true/\(j=0->iM c=true)
theorem Nu{s:Str}(h:UD s s.length):kS s=(decide (1<=s.length)&&decide (s.length<=32)):=by
 cases s with
 |nil=>rfl
 |cons c r=>
  have h1:iM c=true:=(h 0 c (by simp) rfl).2 rfl;have h2:r.all jH=true:=iD.2 λd hd=>by
   obtain⟨j,hj,e⟩:=List.getElem_of_mem hd;exact(h (j+1) d (by simp;omega) (by simp[e,hj])).1
  show(iM c&&r.all jH&&decide (r.length<=31))=_;rw[h1,h2,dS,dS,bW (by simp:1<=(c::r).length),dS];simp only[aB];exact decide_eq_decide.2 (by omega)
theorem Nv{s:Str}(hi:s[i]?=some c)(h:jH c=false\/i=0/\iM c=false):kS s=false:=by
 cases hn:kS s with
 |false=>rfl
 |true=>
  cases s with
  |nil=>cases hn
  |cons d r=>
   simp only[kS,bU,iD]at hn;rcases h with h|⟨rfl,h⟩
   ·cases i with
    |zero=>
     simp only[bG,bA]at hi;subst hi;unfold jH at h;rw[hn.1.1]at h;cases h
    |succ i=>
     rw[bF]at hi;rw[hn.1.2 c (bI hi)]at h;cases h
   ·simp only[bG,bA]at hi;subst hi;rw[hn.1.1]at h;cases h
theorem Nw(a c:UInt8):decide (((a.toNat:Nat):Int)<((c.toNat:Nat):Int))=!decide (c<=a):=by
 rw[<-tJ,nX];simp
theorem Wy(a c:UInt8):decide (((c.toNat:Nat):Int)≠((a.toNat:Nat):Int))=!(c==a):=by
 rw[<-wG,nX];simp
theorem Kj{s:Str}{K:Q0}(hs:s.length<=1000000)(hK:K (.bool (kS s)) w):aJ P0 136 [str s] w K:=by
 refine Ub ?_;unfold aAo;rw[dV];refine dL.go (λst w'=>w'=w/\∃i:Nat,st=[i64 (i:Nat)]/\i<=s.length/\UD s i) (λst _=>match st with|[.int _ i]=>s.length-i.toNat|_=>0) ⟨rfl,0,rfl,dU _,λj c hj=>by omega⟩ ?_;rintro st g w2 ⟨rfl,i,rfl,hi,hp⟩;simp only[aC];rw[dI,bD];refine⟨λh=>?_,λh=>?_⟩
 ·have hlt:i<s.length:=by omega
  refine sA hlt ?_;have hci:s[i]?=some s[i]:=aG hlt;generalize hc:s[i]=c at*
  have e1:decide ((97:Int)<=((c.toNat:Nat):Int))=decide (97<=c):=tJ 97 c;have e2:decide (((c.toNat:Nat):Int)<=122)=decide (c<=122):=tJ c 122;have e3:decide ((65:Int)<=((c.toNat:Nat):Int))=decide (65<=c):=tJ 65 c;have e4:decide (((c.toNat:Nat):Int)<=90)=decide (c<=90):=tJ c 90;have e5:decide (((c.toNat:Nat):Int)=95)=(c==95):=wG 95 c;have e6:decide (((c.toNat:Nat):Int)≠45)=!(c==45):=Wy 45 c;have e7:decide (((c.toNat:Nat):Int)<48)=!decide (48<=c):=Nw c 48;have e8:decide ((57:Int)<((c.toNat:Nat):Int))=!decide (c<=57):=Nw 57 c;simp only[fS,gN,cL,dQ,dI,gD,e1,e2,e3,e4,e5,e6,e7,e8,fT,iB,nH,aC,fG,Bl,Cd,lG,HQ,HR,fH];intros;have el:(decide (97<=c)&&decide (c<=122)||decide (65<=c)&&decide (c<=90)||(c==95))=iM c:=rfl;simp only[el];have en:jH c=(iM c||(decide (48<=c)&&decide (c<=57))||c==45):=rfl;rw[eJ];refine⟨λhb=>?_,λhb=>?_⟩
  ·have hno:kS s=false:=by
    refine Nv hci ?_;rw[en];cases hL:iM c with
    |true=>rw[hL]at hb;simp at hb
    |false=>
     rw[hL]at hb;by_cases h0:i=0
     ·exact .inr ⟨h0,rfl⟩
     ·left;have:decide (((i:Nat):Int)=0)=false:=bH (by omega);rw[this]at hb;revert hb;cases(c==45)<;>cases decide (48<=c)<;>cases decide (c<=57)<;>simp
   rw[hno]at hK;exact hK
  ·rw[cJ,upi (by omega)];refine⟨⟨trivial,i+1,rfl,by omega,λj d hj hd=>?_⟩,?_⟩
   ·rcases oM j i with h1|h1
    ·exact hp j d h1 hd
    ·obtain rfl:j=i:=by omega
     rw[hci]at hd;cases hd;rw[en];revert hb;by_cases h0:j=0
     ·have:decide (((j:Nat):Int)=0)=true:=bW (by omega);rw[this];cases iM c<;>simp
     ·have:decide (((j:Nat):Int)=0)=false:=bH (by omega);rw[this];cases iM c<;>cases(c==45)<;>cases decide (48<=c)<;>cases decide (c<=57)<;>simp[h0]
   ·simp only[aV];omega
 ·obtain rfl:i=s.length:=by omega
  rw[dV,fS];simp only[dV,gN,fT,nH,aC,fG];intros;rw[Nu hp]at hK;have e1:decide ((1:Int)<=(s.length:Int))=decide (1<=s.length):=decide_eq_decide.2 (by omega);have e2:decide ((s.length:Int)<=32)=decide (s.length<=32):=decide_eq_decide.2 (by omega);rw[e1,e2];exact hK
theorem RB{s:Str}{K:Q0}(hK:K (i64 (tX s)) w):aJ P0 133 [str s] w K:=by
 refine Ue ?_;unfold aAr;unfold tX at hK;rw[eQ,bD];refine⟨λh1=>?_,λh1=>?_⟩
 ·have h1:s=vU:=h1;rw[aU h1]at hK;exact hK
 have h1:¬s=vU:=h1;rw[aL h1]at hK;refine dE.cut (λst w'=>st=[.bool (decide (s=mK\/s=oJ\/s=qD))]/\w'=w) ?_ ?_
 ·rw[eQ,bD];refine⟨λh2=>?_,λh2=>?_⟩
  ·have h2:s=mK:=h2;exact⟨by rw[bW (Or.inl h2:s=mK\/s=oJ\/s=qD),bW (show s=[118,97,114,105,97,98,108,101]from h2)],rfl⟩
  have h2:¬s=mK:=h2;rw[eQ,bD];refine⟨λh3=>?_,λh3=>?_⟩
  ·have h3:s=oJ:=h3;exact⟨by rw[bW (Or.inr (Or.inl h3):s=mK\/s=oJ\/s=qD),bW (show s=[111,117,116,112,117,116]from h3)],rfl⟩
  have h3:¬s=oJ:=h3;rw[eQ];refine⟨?_,rfl⟩;have:decide (s=[109,111,100,117,108,101])=decide (s=mK\/s=oJ\/s=qD):=decide_eq_decide.2 ⟨λh=>.inr (.inr h),λh=>(h.resolve_left h2).resolve_left h3⟩;rw[this]
 rintro st g w' ⟨rfl,rfl⟩;simp only[aC];rw[bD];refine⟨λh2=>?_,λh2=>?_⟩
 ·rw[aU h2]at hK;exact hK
 rw[aL h2]at hK;rw[eQ,bD];refine⟨λh3=>?_,λh3=>?_⟩
 ·have h3:s=kR:=h3;rw[aU h3]at hK;exact hK
 ·have h3:¬s=kR:=h3;rw[aL h3]at hK;exact hK
theorem IX{K:Q0}(hK:∀t w',SlAt w' StT t oD.length (strs oD)->Ext w w'->K t w'):aJ P0 137 [] w K:=by
 refine Ua ?_;unfold aAn;rw[gO];simp only[dW,dN,aB,aK,aM,aQ];refine⟨by omega,by omega,by omega,by omega,by omega,by omega,?_⟩;refine hK _ _ ⟨_,_,rfl,aZ _,λe=>(by cases e),λ_=>⟨_,_,_,_,rfl,kF _ _ _ rfl,λi _=>by rw[aI,bN];rfl⟩⟩ (Chg.alloc (Chg.refl _ _) _)
theorem row_one{zs:List Value}{K:Q0}(hz:zs.length=n)(hc:cs.length=n)(hn:0<n)(hK:∀t w',SlAt w' T t 1 cs->Ext w w'->K t w'):gO T 1 zs [(0,n,.agg cs.toArray)] w K:=by
 unfold gO;have hp:∀K:List Value->Prop,K cs->jS zs [(0,n,.agg cs.toArray)] K:=by
  intro K hK;refine⟨by simp[Value.cells,hc],by omega,?_⟩;have:List.take 0 zs++((Value.agg cs.toArray).cells.toList++List.drop (0+n) zs)=cs:=by simp[Value.cells,<-hz]
  rw[this];exact hK
 refine hp _ ?_;exact hK _ _ (AK (w:=w) (base:=w.heap.size) (e:=T) (size:=n) (n:=1) (cs:=cs) (aZ _) (by omega) (by omega)).sl (Chg.alloc (Chg.refl _ _) _)
theorem lZ{size:Nat}{k:IntKind}{K:Value->Prop}(h:SlAt w T v n cs)(hl:cs.length=n*size)(hs:0<size)(hi:i<n)(hK:K (.agg ((cs.drop (i*size)).take size).toArray)):fK none size v (.int k i) λp=>ldW true size p w K:=by
 refine Cy h hl hs hi rfl hK
theorem yW{α:Type}{xs:List α}{f:Value}{cell:α->List Value->Prop}{q:α->Bool}{K:Q0}
  (h:SlAt w T v xs.length cs)(hl:cs.length=xs.length*n)(hn:0<n)(hx:xs.length<=9223372036854775807)(hc:∀i x,xs[i]?=some x->cell x ((cs.drop (i*n)).take n))
  (hf:∀x∈xs,∀c,cell x c->∀{w1:World} {K:Q0},Ext w w1->(∀w',Ext w1 w'->K (.bool (q x)) w')->nV P0 f [.agg c.toArray] w1 K)(hK:∀w',Ext w w'->K (i64 (HY q xs)) w'):
  fI v λt7=>dL [(.int .i64 0)] w λs1 _ w2 L1=>aS .lss (s1.getD 0 undef) t7 λt9=>bB t9 (fK none n v (s1.getD 0 undef) λt14=>ldW true n t14 w2 λt15=>nV P0 f [t15] w2 λt16 w3=>bB t16 (K (s1.getD 0 undef) w3) (aS .add (s1.getD 0 undef) (.int .i64 1) λt18=>L1 [t18] w3)) (K (.int .i64 (-1)) w2):=by
 rw[eO h];refine yS xs.length (λi w'=>Ext w w'/\(xs.take i).any q=false) ⟨Chg.refl _ _,by simp⟩ ?_ ?_
 ·rintro i w2 g L hi ⟨hx2,hno⟩ hL;obtain⟨x,hxi⟩:∃x,xs[i]?=some x:=⟨_,aG hi⟩;have hlt:((i:Int)<(xs.length:Int)):=by omega
  simp only[wsv,wsg,wsh,wsl,aO,aN,aF,kL,Nat.reduceAdd,Nat.reduceLT,cG,aY,dF,cU,cV,reduceCtorEq,hlt];refine lZ (h.ext hx2) hl hn hi ?_;refine hf x (bI hxi) _ (hc i x hxi) hx2 λw3 hx3=>?_;rw[eJ];refine⟨λht=>?_,λhn=>?_⟩
  ·have:=hK w3 (hx2.trans hx3);unfold HY at this;rw[HW hno hxi ht]at this;exact this
  ·rw[up1 (by omega)];exact hL w3 ⟨hx2.trans hx3,by rw[ID hxi,hno,hn];rfl⟩
 ·rintro w2 g L ⟨hx2,hno⟩;simp only[wsv,wsg,wsh,wsl,aO,aN,aF,kL,Nat.reduceAdd,Nat.reduceLT,cG,aY,dF,cU,cV,reduceCtorEq,Bm];rw[dZ]at hno;have:=hK w2 hx2;unfold HY at this;rw[List.findIdx?_eq_none_iff.2 λx hx=>by simpa using zL.1 hno x hx]at this;exact this
def atC(a:Atr)(c:List Value):Prop:=c=[str a.n,i64 (a.e:Nat),i64 a.a]
def vrC(a:Vr)(c:List Value):Prop:=c=[str a.n,i64 a.d,i64 a.a]
theorem Fw{α:Type}{f:α->List Value}(h:∀a,(f a).length=3){l:List α}{x:α}(hi:l[i]?=some x):((l.flatMap f).drop (i*3)).take 3=f x:=by
 apply List.ext_getElem?;intro j;by_cases hj:j<3
 ·rw[gT hj,jG];exact yY f h l i j x hi hj
 ·rw[eW (by rw[cO];omega),eW (by rw[h];omega)]
theorem yF{l:List Atr}{x:Atr}(hi:l[i]?=some x):atC x (((kK l).drop (i*3)).take 3):=Fw (λ_=>rfl) hi
theorem Cm{l:List Vr}{x:Vr}(hi:l[i]?=some x):vrC x (((vrs l).drop (i*3)).take 3):=Fw (λ_=>rfl) hi
theorem tY{l:List Atr}{f:Value}{q:Atr->Bool}{K:Q0}(h:SlAt w AtT v l.length (kK l))(hx:l.length<=9223372036854775807)
  (hf:∀x∈l,∀c,atC x c->∀{w1:World} {K:Q0},Ext w w1->(∀w',Ext w1 w'->K (.bool (q x)) w')->nV P0 f [.agg c.toArray] w1 K)(hK:∀w',Ext w w'->K (.bool (l.any q)) w'):aJ P0 98 [v,f] w K:=by
 refine Xh ?_;unfold W98;refine TQ ?_;unfold aAg;refine yW (K:=λt7 w1=>aS .geq t7 (.int .i64 0) λt8=>K t8 w1) (cell:=atC) h (sE l) (by omega) hx (λi x hi=>yF hi) hf λw1 hx1=>?_;simp only[wsv,wsg,wsh,wsl,aO,aN,aF,kL,Nat.reduceAdd,Nat.reduceLT,cG,aY,dF,cU,cV,reduceCtorEq,AV];exact hK w1 hx1
theorem Ca{l:List Vr}{f:Value}{q:Vr->Bool}{K:Q0}(h:SlAt w VrT v l.length (vrs l))(hx:l.length<=9223372036854775807)
  (hf:∀x∈l,∀c,vrC x c->∀{w1:World} {K:Q0},Ext w w1->(∀w',Ext w1 w'->K (.bool (q x)) w')->nV P0 f [.agg c.toArray] w1 K)(hK:∀w',Ext w w'->K (.bool (l.any q)) w'):aJ P0 96 [v,f] w K:=by
 refine Xj ?_;unfold W96;refine TU ?_;unfold aAh;refine yW (K:=λt7 w1=>aS .geq t7 (.int .i64 0) λt8=>K t8 w1) (cell:=vrC) h (Aq l) (by omega) hx (λi x hi=>Cm hi) hf λw1 hx1=>?_;simp only[wsv,wsg,wsh,wsl,aO,aN,aF,kL,Nat.reduceAdd,Nat.reduceLT,cG,aY,dF,cU,cV,reduceCtorEq,AV];exact hK w1 hx1
theorem Il{l:List Rs}{f:Value}{B:Nat}{q:Rs->Bool}{K:Q0}(h:SlAt w RsT v l.length cs)(hr:kO (RsR w B) 9 l cs)(hx:l.length<=9223372036854775807)
  (hf:∀x∈l,∀c,RsR w B x c->∀{w1:World} {K:Q0},Ext w w1->(∀w',Ext w1 w'->K (.bool (q x)) w')->nV P0 f [.agg c.toArray] w1 K)(hK:∀w',Ext w w'->K (.bool (l.any q)) w'):aJ P0 184 [v,f] w K:=by
 refine Tp ?_;unfold ZI;refine SX ?_;unfold Zv;refine yW (K:=λt7 w1=>aS .geq t7 (.int .i64 0) λt8=>K t8 w1) (cell:=RsR w B) h hr.1 (by omega) hx (λi x hi=>hr.2 i x hi) hf λw1 hx1=>?_;simp only[wsv,wsg,wsh,wsl,aO,aN,aF,kL,Nat.reduceAdd,Nat.reduceLT,cG,aY,dF,cU,cV,reduceCtorEq,AV];exact hK w1 hx1
theorem Im{l:List Cl}{f:Value}{B:Nat}{q:Cl->Bool}{K:Q0}(h:SlAt w ClT v l.length cs)(hr:kO (ClR w B) 4 l cs)(hx:l.length<=9223372036854775807)
  (hf:∀x∈l,∀c,ClR w B x c->∀{w1:World} {K:Q0},Ext w w1->(∀w',Ext w1 w'->K (.bool (q x)) w')->nV P0 f [.agg c.toArray] w1 K)(hK:∀w',Ext w w'->K (.bool (l.any q)) w'):aJ P0 187 [v,f] w K:=by
 refine Tl ?_;unfold ZF;refine SV ?_;unfold Zu;refine yW (K:=λt7 w1=>aS .geq t7 (.int .i64 0) λt8=>K t8 w1) (cell:=ClR w B) h hr.1 (by omega) hx (λi x hi=>hr.2 i x hi) hf λw1 hx1=>?_;simp only[wsv,wsg,wsh,wsl,aO,aN,aF,kL,Nat.reduceAdd,Nat.reduceLT,cG,aY,dF,cU,cV,reduceCtorEq,AV];exact hK w1 hx1
theorem rH{T2:TypeId}{b:Nat}{x y:Str}{r r2:List Value}{K:Q0}(hb:w.heap[b]?=some (.cells (str y::r2).toArray T2 (0,0)))(hK:∀w',Ext w w'->K (.bool (decide (x=y))) w'):
  jF T (.agg (str x::r).toArray) w λt2 w1=>aR 0 t2 λt4=>ldW false 1 t4 w1 λt5=>aR 0 (.pointer (some ⟨b,0,none⟩)) λt6=>ldW false 1 t6 w1 λt7=>aS .eql t5 t7 λt8=>K t8 w1:=by
 refine fZ λd w1 hd hz hbd hx=>?_;have hb1:=hx.at hb id;rw[bE,bL,aI,eD];refine⟨str x,by rw[cM,hbd,bT];rfl,?_⟩;rw[bE,bL,aI,eD];refine⟨str y,by rw[cM,hb1,bT];rfl,?_⟩;rw[eQ];exact hK w1 hx
end
end
section
open Go Go.Eng Go.RowKit Go.Syn Go.Lex
variable{w:World}{K:Q0}{cs:List Value}{G:Nat->Prop}{T:TypeId}{i:Nat}{n:Nat}{v:Value}{w':World}{P:Program}{c:UInt8}{S:Nat->Prop}
theorem FD{ad:Addr}(hx:Ext w w')(h:w.cell? ad=some v):w'.cell? ad=some v:=by
 unfold World.cell? at h⊢;cases ho:w.heap[ad.block]? with
 |none=>rw[ho]at h;cases h
 |some o=>rw[hx.at ho id];rw[ho]at h;exact h
theorem FF{w w':World}{ad:Addr}(hx:Ext w w'):∀(n i:Nat) (l:List Value),bV w ad i n=some l->bV w' ad i n=some l
 |0,_,_,h=>h
 |n+1,i,l,h=>by
  simp only[bV]at h⊢
  cases hc:w.cell? (ad.add i)with
  |none=>rw[hc]at h;cases h
  |some v=>
   rw[hc]at h
   rw[FD hx hc]
   cases hr:bV w ad (i+1) n with
   |none=>simp only[hr]at h;cases h
   |some m=>
    simp only[hr]at h
    simp only[FF hx n (i+1) m hr]
    exact h
theorem nB{agg:Bool}{p:Value}(hx:Ext w w')(h:ldW agg n p w λx=>x=v):ldW agg n p w' λx=>x=v:=by
 unfold ldW at h⊢;split at h
 ·cases agg with
  |true=>obtain⟨l,h1,h2⟩:=h;exact⟨l,FF hx _ _ _ h1,h2⟩
  |false=>obtain⟨x,h1,h2⟩:=h;exact⟨x,FD hx h1,h2⟩
 ·exact h.elim
theorem jK{b:Nat}{c:List Value}{off:Nat}{K:Value->Prop}(hw:w.heap[b]?=some (.cells c.toArray T (0,0)))(hv:c[off]?=some v)(hk:K v):aR off (.pointer (some ⟨b,0,none⟩)) λt=>ldW false 1 t w K:=by
 rw[bE,eD];refine⟨v,?_,hk⟩;rw[bL,cM,hw,bT,aI,bN];exact hv
theorem ld5{b:Nat}{c:List Value}{off:Nat}(hw:w.heap[b]?=some (.cells c.toArray T (0,0)))(hv:c[off]?=some v):ldW false 1 (.pointer (some ((⟨b,0,none⟩:Addr).add off))) w λx=>x=v:=by
 have:=jK (K:=λx=>x=v) hw hv rfl;rwa[bE]at this
theorem Co{z c c':List Value}{p1 p2 p3 p4 x1 x3:Value}{J:List Value->World->Prop}(hz:z.length=n)(hc:c.length=n)(hc':c'.length=n)(o1:c.all jM=true)(o2:c'.all jM=true)
  (h1:ldW false 1 p1 w λx=>x=x1)(h2:ldW true n p2 w λx=>x=.agg c.toArray)(h3:ldW false 1 p3 w λx=>x=x3)(h4:ldW true n p4 w λx=>x=.agg c'.toArray)
  (hJ:∀a b w',Ext w w'->a≠b->w'.heap[a]?=some (.cells c.toArray T (0,0))->w'.heap[b]?=some (.cells c'.toArray T (0,0))->J [.pointer (some ⟨a,0,none⟩),.pointer (some ⟨b,0,none⟩)] w'):
  (dA T z w λt8 w11=>(ldW true n p4 w11 λx=>x=.agg c'.toArray)/\(ldW false 1 p3 w11 λx=>x=x3)/\(ldW true n p2 w11 λx=>x=.agg c.toArray)/\(ldW false 1 p1 w11 λx=>x=x1)/\
    dA T z w11 λt9 w12=>(ldW true n p4 w12 λx=>x=.agg c'.toArray)/\(ldW false 1 p3 w12 λx=>x=x3)/\(ldW true n p2 w12 λx=>x=.agg c.toArray)/\(ldW false 1 p1 w12 λx=>x=x1)/\
    stW n t8 (.agg c.toArray) w12 λw13=>(ldW true n p4 w13 λx=>x=.agg c'.toArray)/\(ldW false 1 p3 w13 λx=>x=x3)/\stW n t9 (.agg c'.toArray) w13 λw14=>J [t8,t9] w14)/\
  (dA T z w λt9 w11=>(ldW true n p4 w11 λx=>x=.agg c'.toArray)/\(ldW false 1 p3 w11 λx=>x=x3)/\(ldW true n p2 w11 λx=>x=.agg c.toArray)/\(ldW false 1 p1 w11 λx=>x=x1)/\
    dA T z w11 λt8 w12=>(ldW true n p4 w12 λx=>x=.agg c'.toArray)/\(ldW false 1 p3 w12 λx=>x=x3)/\(ldW true n p2 w12 λx=>x=.agg c.toArray)/\(ldW false 1 p1 w12 λx=>x=x1)/\
    stW n t8 (.agg c.toArray) w12 λw13=>(ldW true n p4 w13 λx=>x=.agg c'.toArray)/\(ldW false 1 p3 w13 λx=>x=x3)/\stW n t9 (.agg c'.toArray) w13 λw14=>J [t8,t9] w14):=by
 constructor
 ·refine cK λa w1 ha hz1 hb1 hx1=>?_;refine⟨nB hx1 h4,nB hx1 h3,nB hx1 h2,nB hx1 h1,?_⟩;refine cK λb w2 hb hz2 hb2 hx2=>?_;have hx12:=hx1.trans hx2;refine⟨nB hx12 h4,nB hx12 h3,nB hx12 h2,nB hx12 h1,?_⟩;refine cY (hx2.at hb1 id) hc hz o1 λw3 hz3 hb3 hc3=>?_;have hx3:Ext w w3:=hx12.new hc3 (by omega);refine⟨nB hx3 h4,nB hx3 h3,?_⟩;refine cY (hc3.at hb2 (by omega)) hc' hz o2 λw4 hz4 hb4 hc4=>?_;exact hJ a b w4 (hx3.new hc4 (by omega)) (by omega) (hc4.at hb3 (by omega)) hb4
 ·refine cK λb w1 ha hz1 hb1 hx1=>?_;refine⟨nB hx1 h4,nB hx1 h3,nB hx1 h2,nB hx1 h1,?_⟩;refine cK λa w2 hb hz2 hb2 hx2=>?_;have hx12:=hx1.trans hx2;refine⟨nB hx12 h4,nB hx12 h3,nB hx12 h2,nB hx12 h1,?_⟩;refine cY hb2 hc hz o1 λw3 hz3 hb3 hc3=>?_;have hx3:Ext w w3:=hx12.new hc3 (by omega);refine⟨nB hx3 h4,nB hx3 h3,?_⟩;refine cY (hc3.at (hx2.at hb1 id) (by omega)) hc' hz o2 λw4 hz4 hb4 hc4=>?_;exact hJ a b w4 (hx3.new hc4 (by omega)) (by omega) (hc4.at hb3 (by omega)) hb4
theorem Oy{l:List Atr}{j:Nat}{x:Atr}(h:SlAt w T v l.length (kK l))(hi:l[j]?=some x):∃ad:Addr,fK none 3 v (i64 (j:Nat)) (λy=>y=.pointer (some ad))/\(ldW false 1 (.pointer (some (ad.add 0))) w λy=>y=str x.n)/\(ldW false 1 (.pointer (some (ad.add 1))) w λy=>y=i64 (x.e:Nat))/\(ldW false 1 (.pointer (some (ad.add 2))) w λy=>y=i64 x.a):=by
 have hlt:=(bS.1 hi).1;have g:∀j',j'<3->(kK l)[j*3+j']?=[str x.n,i64 (x.e:Nat),i64 x.a][j']?:=λj' hj=>yY _ (λ_=>rfl) l j j' x hi hj;have:=yV (Bz (k:=.i64) (K:=λp=>∃ad:Addr,p=.pointer (some ad)/\(ldW false 1 (.pointer (some (ad.add 0))) w λy=>y=str x.n)/\(ldW false 1 (.pointer (some (ad.add 1))) w λy=>y=i64 (x.e:Nat))/\(ldW false 1 (.pointer (some (ad.add 2))) w λy=>y=i64 x.a)) h (by rw[sE]) (by omega) hlt λb o c fr hb hc=>by
  refine⟨⟨b,o,none⟩,rfl,?_,?_,?_⟩
  ·rw[eD];exact⟨_,by rw[bL,cM,hb,bT,hc 0 (by omega),g 0 (by omega)];rfl,rfl⟩
  ·rw[eD];exact⟨_,by rw[bL,cM,hb,bT,hc 1 (by omega),g 1 (by omega)];rfl,rfl⟩
  ·rw[eD];exact⟨_,by rw[bL,cM,hb,bT,hc 2 (by omega),g 2 (by omega)];rfl,rfl⟩)
 obtain⟨p,h1,ad,rfl,h2⟩:=this;exact⟨ad,h1,h2⟩
def PJ(w0:World)(T:TypeId)(c c':List Value)(st:List Value)(w':World):Prop:=∃a b,st=[.pointer (some ⟨a,0,none⟩),.pointer (some ⟨b,0,none⟩)]/\Ext w0 w'/\w'.heap[a]?=some (.cells c.toArray T (0,0))/\w'.heap[b]?=some (.cells c'.toArray T (0,0))
section
variable [HX]
theorem Vo{f g:Fl}{M N:Lay}{q:Bool}{K:Q0}(hf:FV w M f)(hg:FV w N g)(hA:flA q f g)(few:f.ex.length<=9223372036854775807/\f.bl.length<=9223372036854775807/\f.top.length<=9223372036854775807)
  (fewE:∀e∈f.ex,e.args.length<=9223372036854775807/\e.keys.length<=9223372036854775807)(fewB:∀b∈f.bl,b.labels.length<=9223372036854775807/\b.attrs.length<=9223372036854775807/\b.blocks.length<=9223372036854775807)
  (hK:∀w',Ext w w'->K (.bool true) w'):aJ P0 14 [.agg [M.vE,M.vB,M.vT].toArray,.agg [N.vE,N.vB,N.vT].toArray,.bool q] w K:=by
 refine Yd ?_;unfold W14;obtain⟨⟨leE,alE⟩,⟨leB,alB⟩,eT⟩:=hA;refine fZ (z:=[M.vE,M.vB,M.vT]) λp w1 hp hz1 hb1 hx1=>?_;refine fZ (z:=[N.vE,N.vB,N.vT]) λp' w2 hp' hz2 hb2 hx2=>?_;have hx12:=hx1.trans hx2;have hb1:=hx2.at hb1 id;have hf2:=hf.ext hx12;have hg2:=hg.ext hx12;refine jK (off:=0) hb1 rfl ?_;rw[eO hf2.oE];refine jK (off:=0) hb2 rfl ?_;rw[eO hg2.oE,dQ,bH (by omega)];simp only[iB,cH];refine GdW.look false (λ_ J hJ=>?_) λ_=>?_
 ·refine jK (off:=1) hb1 rfl ?_;rw[eO hf2.oB];refine jK (off:=1) hb2 rfl ?_;rw[eO hg2.oB,dQ,bH (by omega)];exact hJ
 simp only[aC,aO];rw[eX];simp only[iB,cH];refine GdW.act false (λw'=>Ext w2 w') (λe=>by cases e) ?_ ?_
 ·intro _ J hJ;refine jK (off:=2) hb1 rfl ?_;refine jK (off:=2) hb2 rfl ?_;have hoT:=hg2.oT;rw[<-eT]at hoT;refine Jq hf2.oT hoT few.2.2 λw3 hx3=>?_;rw[fH];exact hJ _ hx3
 rintro g1 w3 hx3;simp only[aC,aO];rw[eX,bQ];refine jK (off:=0) (hx3.at hb1 id) rfl ?_;rw[eO (hf2.ext hx3).oE];refine dL.go (λst w'=>∃i:Nat,st=[i64 (i:Nat)]/\i<=f.ex.length/\Ext w2 w') (λst _=>match st with|[.int _ i]=>f.ex.length-i.toNat|_=>0) ⟨0,rfl,by omega,hx3⟩ ?_;rintro st g2 w4 ⟨i,rfl,hi,hx4⟩;simp only[aC];rw[dI,bD];refine⟨λhlt=>?_,λhge=>?_⟩
 ·have hlt:i<f.ex.length:=by omega
  have hxd:=hx4.trans (cQ w4);have ge:=aG hlt;have ge':=aG (show i<g.ex.length by omega);generalize f.ex[i]=e at ge;generalize g.ex[i]=e' at ge';obtain⟨r1,r2,r3,r4,r5⟩:=alE i e e' ge ge';have fe:=fewE e (bI ge);have hfd:=hf2.ext hxd;have hgd:=hg2.ext hxd;have hb1d:=hxd.at hb1 id;have hb2d:=hxd.at hb2 id;obtain⟨va,vk,o1,o2,pp,a1,a2⟩:=hfd.exI (k:=.i64) ge;obtain⟨va',vk',o1',o2',pp',a1',a2'⟩:=hgd.exI (k:=.i64) ge';have l1:∃c1 c2,va=.slice c1 e.args.length c2:=by obtain⟨x,y,z,_⟩:=o1.shape;exact⟨x,y,z⟩
  have l2:∃c1 c2,vk=.slice c1 e.keys.length c2:=by obtain⟨x,y,z,_⟩:=o2.shape;exact⟨x,y,z⟩
  have l1':∃c1 c2,va'=.slice c1 e'.args.length c2:=by obtain⟨x,y,z,_⟩:=o1'.shape;exact⟨x,y,z⟩
  have l2':∃c1 c2,vk'=.slice c1 e'.keys.length c2:=by obtain⟨x,y,z,_⟩:=o2'.shape;exact⟨x,y,z⟩
  refine dE.cut (PJ w4.drew ExT [i64 e.k,str e.t,va,vk,i64 e.a] [i64 e'.k,str e'.t,va',vk',i64 e'.a]) ?_ ?_
  ·rw[bE];refine rE (ld5 (off:=0) hb1d rfl) ?_;refine uF a1 ?_;refine rE a2 ?_;rw[bE];refine rE (ld5 (off:=0) hb2d rfl) ?_;refine uF a1' ?_;refine rE a2' ?_;refine Co (J:=PJ w4.drew ExT [i64 e.k,str e.t,va,vk,i64 e.a] [i64 e'.k,str e'.t,va',vk',i64 e'.a]) (T:=ExT) (n:=5) (z:=[.int .i64 0,.string (ofL []),.slice none 0 0,.slice none 0 0,.int .i64 0]) (c:=[i64 e.k,str e.t,va,vk,i64 e.a]) (c':=[i64 e'.k,str e'.t,va',vk',i64 e'.a]) rfl rfl rfl ?_ ?_ (ld5 (off:=0) hb1d rfl) a2 (ld5 (off:=0) hb2d rfl) a2' λa b w5 hx5 _ ha hb=>⟨a,b,rfl,hx5,ha,hb⟩
   ·obtain⟨_,_,rfl⟩:=l1;obtain⟨_,_,rfl⟩:=l2;rfl
   ·obtain⟨_,_,rfl⟩:=l1';obtain⟨_,_,rfl⟩:=l2';rfl
  rintro st g3 w5 ⟨a,b,rfl,hx5,ha,hb⟩;simp only[aC,bO];refine jK (off:=0) ha rfl ?_;refine jK (off:=0) hb rfl ?_;rw[dQ,bH (by rw[r1];simp)];simp only[iB,cH];refine GdW.look false (λ_ J hJ=>?_) λ_=>?_
  ·refine jK (off:=1) ha rfl ?_;refine jK (off:=1) hb rfl ?_;rw[gA,bH (by rw[r2];simp)];exact hJ
  simp only[aC,aO];rw[eX];simp only[iB,cH];refine GdW.act false (λw'=>Ext w5 w') (λe=>by cases e) ?_ ?_
  ·intro _ J hJ;refine jK (off:=2) ha rfl ?_;refine jK (off:=2) hb rfl ?_;rw[<-r3]at o1';refine Jq (o1.ext hx5) (o1'.ext hx5) fe.1 λw6 hx6=>?_;rw[fH];exact hJ _ hx6
  rintro g4 w6 hx6;simp only[aC,aO];rw[eX];simp only[iB,cH];refine GdW.act false (λw'=>Ext w5 w') (λe=>by cases e) ?_ ?_
  ·intro _ J hJ;refine jK (off:=3) (hx6.at ha id) rfl ?_;refine jK (off:=3) (hx6.at hb id) rfl ?_;rw[<-r4]at o2';have hx56:=hx5.trans hx6;refine Ge (o2.ext hx56) (o2'.ext hx56) fe.2 λw7 hx7=>?_;rw[fH];exact hJ _ (hx6.trans hx7)
  rintro g5 w7 hx7;have ha7:=hx7.at ha id;have hb7:=hx7.at hb id;have hx47:=(hxd.trans hx5).trans hx7;simp only[aC,aO];rw[eX];simp only[iB,cH,nH];intro g6;simp only[aC,aO];refine GdW.look false (λhq J hJ=>?_) λ_=>?_
  ·have hq:q=true:=by simpa[fT]using hq
   refine jK (off:=4) ha7 rfl ?_;refine jK (off:=4) hb7 rfl ?_;rw[dQ,bH (by rw[r5 hq];simp)];exact hJ
  refine GdW.look false (λ_ J hJ=>?_) λ_=>?_
  ·simp only[aC,fT];rw[fG,dO];exact hJ
  simp only[aC,aO];rw[eX,bQ,cJ,upj (by omega)];refine⟨⟨i+1,rfl,by omega,hx47⟩,?_⟩;simp only[aV];omega
 ·have hb14:=hx4.at hb1 id;have hb24:=hx4.at hb2 id;refine jK (off:=1) hb14 rfl ?_;rw[eO (hf2.ext hx4).oB];refine dL.go (λst w'=>∃i:Nat,st=[i64 (i:Nat)]/\i<=f.bl.length/\Ext w2 w') (λst _=>match st with|[.int _ i]=>f.bl.length-i.toNat|_=>0) ⟨0,rfl,by omega,hx4⟩ ?_;clear hge hi hb14 hb24 hx4 hx3;rintro st g2 w4 ⟨i,rfl,hi,hx4⟩;simp only[aC];rw[dI,bD];refine⟨λhlt=>?_,λhge=>hK w4 (hx12.trans hx4)⟩;have hlt:i<f.bl.length:=by omega
  have hxd:=hx4.trans (cQ w4);have ge:=aG hlt;have ge':=aG (show i<g.bl.length by omega);generalize f.bl[i]=e at ge;generalize g.bl[i]=e' at ge';obtain⟨r1,r2,r3,⟨r4,r6⟩,r5⟩:=alB i e e' ge ge';have fe:=fewB e (bI ge);have hfd:=hf2.ext hxd;have hgd:=hg2.ext hxd;have hb1d:=hxd.at hb1 id;have hb2d:=hxd.at hb2 id;obtain⟨vl,va,vb,o1,o2,o3,pp,a1,a2⟩:=hfd.bkI (k:=.i64) ge;obtain⟨vl',va',vb',o1',o2',o3',pp',a1',a2'⟩:=hgd.bkI (k:=.i64) ge';refine dE.cut (PJ w4.drew BkT [str e.typ,vl,va,vb,i64 e.a] [str e'.typ,vl',va',vb',i64 e'.a]) ?_ ?_
  ·rw[bE];refine rE (ld5 (off:=1) hb1d rfl) ?_;refine uF a1 ?_;refine rE a2 ?_;rw[bE];refine rE (ld5 (off:=1) hb2d rfl) ?_;refine uF a1' ?_;refine rE a2' ?_;refine Co (J:=PJ w4.drew BkT [str e.typ,vl,va,vb,i64 e.a] [str e'.typ,vl',va',vb',i64 e'.a]) (T:=BkT) (n:=5) (z:=[.string (ofL []),.slice none 0 0,.slice none 0 0,.slice none 0 0,.int .i64 0]) (c:=[str e.typ,vl,va,vb,i64 e.a]) (c':=[str e'.typ,vl',va',vb',i64 e'.a]) rfl rfl rfl ?_ ?_ (ld5 (off:=1) hb1d rfl) a2 (ld5 (off:=1) hb2d rfl) a2' λa b w5 hx5 _ ha hb=>⟨a,b,rfl,hx5,ha,hb⟩
   ·obtain⟨_,_,rfl,_⟩:=o1.shape;obtain⟨_,_,rfl,_⟩:=o2.shape;obtain⟨_,_,rfl,_⟩:=o3.shape;rfl
   ·obtain⟨_,_,rfl,_⟩:=o1'.shape;obtain⟨_,_,rfl,_⟩:=o2'.shape;obtain⟨_,_,rfl,_⟩:=o3'.shape;rfl
  rintro st g3 w5 ⟨a,b,rfl,hx5,ha,hb⟩;simp only[aC,bO];refine jK (off:=0) ha rfl ?_;refine jK (off:=0) hb rfl ?_;rw[gA,bH (by rw[r1];simp)];simp only[iB,cH];refine GdW.act false (λw'=>Ext w5 w') (λe=>by cases e) ?_ ?_
  ·intro _ J hJ;refine jK (off:=1) ha rfl ?_;refine jK (off:=1) hb rfl ?_;rw[<-r2]at o1';refine Ge (o1.ext hx5) (o1'.ext hx5) fe.1 λw6 hx6=>?_;rw[fH];exact hJ _ hx6
  rintro g4 w6 hx6;simp only[aC,aO];rw[eX];simp only[iB,cH];refine GdW.act false (λw'=>Ext w5 w') (λe=>by cases e) ?_ ?_
  ·intro _ J hJ;refine jK (off:=3) (hx6.at ha id) rfl ?_;refine jK (off:=3) (hx6.at hb id) rfl ?_;rw[<-r3]at o3';have hx56:=hx5.trans hx6;refine Jq (o3.ext hx56) (o3'.ext hx56) fe.2.2 λw7 hx7=>?_;rw[fH];exact hJ _ (hx6.trans hx7)
  rintro g5 w7 hx7;have ha7:=hx7.at ha id;have hb7:=hx7.at hb id;have hx57:=hx5.trans hx7;have hx47:=hxd.trans hx57;simp only[aC,aO];rw[eX];simp only[iB,cH];refine GdW.look false (λ_ J hJ=>?_) λ_=>?_
  ·refine jK (off:=2) ha7 rfl ?_;rw[eO (o2.ext hx57)];refine jK (off:=2) hb7 rfl ?_;rw[eO (o2'.ext hx57),dQ,bH (by omega)];exact hJ
  simp only[aC,aO];rw[eX];simp only[iB,cH,nH];intro g6;simp only[aC,aO];refine GdW.look false (λhq J hJ=>?_) λ_=>?_
  ·have hq:q=true:=by simpa[fT]using hq
   refine jK (off:=4) ha7 rfl ?_;refine jK (off:=4) hb7 rfl ?_;rw[dQ,bH (by rw[r5 hq];simp)];exact hJ
  refine GdW.look false (λ_ J hJ=>?_) λ_=>?_
  ·simp only[aC,fT];rw[fG,dO];exact hJ
  simp only[aC,aO];rw[eX,bQ];refine jK (off:=2) ha7 rfl ?_;rw[eO (o2.ext hx57)];refine dL.go (λst w'=>∃j:Nat,st=[i64 (j:Nat)]/\j<=e.attrs.length/\Ext w7 w') (λst _=>match st with|[.int _ j]=>e.attrs.length-j.toNat|_=>0) ⟨0,rfl,by omega,Chg.refl _ _⟩ ?_;rintro st g7 w8 ⟨j,rfl,hj,hx8⟩;simp only[aC];rw[dI,bD];refine⟨λhlt2=>?_,λhge2=>?_⟩
  ·have hlt2:j<e.attrs.length:=by omega
   have hx8d:=hx8.trans (cQ w8);have ha8:=hx8d.at ha7 id;have hb8:=hx8d.at hb7 id;have gx:=aG hlt2;have gx':=aG (show j<e'.attrs.length by omega);generalize e.attrs[j]=x at gx;generalize e'.attrs[j]=x' at gx';obtain⟨s1,s2,s3⟩:=r6 j x x' gx gx';obtain⟨ad,i1,i2,i3,i4⟩:=Oy (o2.ext (hx57.trans hx8d)) gx;obtain⟨ad',i1',i2',i3',i4'⟩:=Oy (o2'.ext (hx57.trans hx8d)) gx';refine jK (off:=2) ha8 rfl ?_;refine uF i1 ?_;rw[bE];refine rE i2 ?_;refine jK (off:=2) hb8 rfl ?_;refine uF i1' ?_;rw[bE];refine rE i2' ?_;rw[gA,bH (by rw[s1];simp)];simp only[iB,cH];rw[xU];refine lU (ld5 (off:=2) ha8 rfl) ?_;refine lU rfl ?_;refine lU i1 ?_;rw[xU];refine lU i3 ?_;rw[xU];refine lU (ld5 (off:=2) hb8 rfl) ?_;refine lU rfl ?_;refine lU i1' ?_;rw[xU];refine lU i3' ?_;refine lU (v:=.bool false) (by rw[dQ,bH (by rw[s2];simp)]) ?_;rw[eX];simp only[iB,cH];refine lU rfl ?_;refine lU rfl ?_;have fin:(λ(st:List Value) w'=>∃j:Nat,st=[i64 (j:Nat)]/\j<=e.attrs.length/\Ext w7 w') [i64 ((j+1:Nat):Int)] w8.drew/\(λ(st:List Value) (_:World)=>match st with|[.int _ j]=>e.attrs.length-j.toNat|_=>0) [i64 ((j+1:Nat):Int)] w8.drew<e.attrs.length-((j:Nat):Int).toNat:=⟨⟨j+1,rfl,by omega,hx8d⟩,by simp only[aV];omega⟩;cases q with
   |false=>
    simp only[fT,FX];refine lU (v:=.bool false) (by rw[eX]) ?_;rw[eX,bQ,cJ,upj (by omega)];exact fin
   |true=>
    simp only[fT];rw[xU];refine lU (ld5 (off:=2) ha8 rfl) ?_;refine lU rfl ?_;refine lU i1 ?_;rw[xU];refine lU i4 ?_;rw[xU];refine lU (ld5 (off:=2) hb8 rfl) ?_;refine lU rfl ?_;refine lU i1' ?_;rw[xU];refine lU i4' ?_;refine lU (v:=.bool false) (by rw[dQ,bH (by rw[s3 rfl];simp)]) ?_;refine lU (v:=.bool false) (by rw[iE]) ?_;rw[eX,bQ,cJ,upj (by omega)];exact fin
  ·rw[cJ,upj (by omega)];refine⟨⟨i+1,rfl,by omega,hx47.trans hx8⟩,?_⟩;simp only[aV];omega
end
section
variable{w w':World}{B g r p:Nat}{M:Lay}{fl:Fl}{v:Value}
theorem Yw{l size:Nat}{K:Value->Prop}(h:SlAt w T v n cs)(hlen:cs.length=n*size)(hl:l<=n)(hK:∀u,SlAt w T u l (cs.take (l*size))->K u):MO size v none (some (i64 (l:Nat))) none K:=by
 obtain⟨q,cap,rfl,h1,h2,h3⟩:=h;rw[kE,fC,eR,fC];refine⟨by omega,by omega,hK _ ?_⟩;rw[aV];refine⟨_,_,rfl,by omega,λhn=>?_,λhne=>?_⟩
 ·split at hn
  ·have:=h2 hn;omega
  ·cases q with
   |none=>have:=h2 rfl;omega
   |some a=>cases hn
 ·have hn0:cs≠[]:=λe=>hne (by rw[e];simp);obtain⟨b,off,c,fr,rfl,hb,hcs⟩:=h3 hn0;refine⟨b,off,c,fr,?_,hb,λi hi=>?_⟩
  ·split
   ·rfl
   ·rw[aH,bL,Ef,bJ]
  ·rw[cO]at hi;rw[gT (by omega),hcs _ (by omega)]
end
end
section
open Go Go.Eng Go.RowKit Go.Syn Go.Lex Go.Cfg
variable{w:World}{K:Q0}{cs:List Value}{G:Nat->Prop}{T:TypeId}{i:Nat}{n:Nat}{v:Value}{w':World}{P:Program}{c:UInt8}{S:Nat->Prop}
def xcc(M:Lay)(i:Nat):List Value:=(M.cE.drop (i*5)).take 5
def bcc(M:Lay)(i:Nat):List Value:=(M.cB.drop (i*5)).take 5
theorem tN{fl:Fl}(hi:i<fl.ex.length):fl.ex[i]?=some (lH fl i):=by
 unfold lH;rw[bR,aG hi];rfl
theorem DR{fl:Fl}(hi:i<fl.bl.length):fl.bl[i]?=some (kC fl i):=by
 unfold kC;rw[bR,aG hi];rfl
theorem wZ{B:Nat}{M:Lay}{fl:Fl}(h:FO w B M fl)(hi:i<fl.ex.length):ExR w B (lH fl i) (xcc M i):=h.ee.2 i _ (tN hi)
theorem sD{B:Nat}{M:Lay}{fl:Fl}(h:FO w B M fl)(hi:i<fl.bl.length):BkR w B (kC fl i) (bcc M i):=h.bb.2 i _ (DR hi)
theorem Mk(l:List Atr)(i:Nat):(kK l).take (i*3)=kK (l.take i):=by
 induction i generalizing l with
 |zero=>simp[kK]
 |succ i ih=>
  cases l with
  |nil=>simp[kK]
  |cons a l=>
   have e:kK (a::l)=[str a.n,i64 (a.e:Nat),i64 a.a]++kK l:=rfl;rw[e,oI,show(i+1)*3=[str a.n,i64 (a.e:Nat),i64 a.a].length+i*3 by simp;omega,List.take_length_add_append,ih];rfl
section
variable [HX]
theorem SB{b:Nat}{x:Atr}{y:Str}{c r2:List Value}{T2:TypeId}{K:Q0}(hc:atC x c)(hb:w.heap[b]?=some (.cells (str y::r2).toArray T2 (0,0)))(hK:∀w',Ext w w'->K (.bool (decide (x.n=y))) w'):aJ P0 209 [.agg c.toArray,pA b] w K:=by
 have hc:c=[str x.n,i64 (x.e:Nat),i64 x.a]:=hc;subst hc;refine Tc ?_;unfold Zx;exact rH hb hK
theorem zD{σ:Type}{w0:World}{p:Nat}{M:Lay}{path:Str}{fl:Fl}{Inv:Nat->World->σ->Prop}{take:σ->Atr->Ex->RC σ}{va f:Value}{l:List Atr}{s:σ}{K:Q0}
  (hMf:∀j w s,Inv j w s->Mf w0 w p M path fl)(hext:∀j w w' s,Inv j w s->Ext w w'->Inv j w' s)(hva:∀w,FO w w0.heap.size M fl->SlAt w AtT va l.length (kK l))(hl:l.length<=1000000)(he:∀a∈l,a.e<fl.ex.length)
  (htake:∀j a,l[j]?=some a->∀s wz w1 (K':Q0),Inv j wz s->Ext wz w1->(∀s' w',take s a (lH fl a.e)=.ok s'->Inv (j+1) w' s'->K' (.bool true) w')->(∀w',take s a (lH fl a.e)=.bad 110 a.a->Mf w0 w' p M path fl->(∀k,wz.heap.size<=k->k<w1.heap.size->w'.heap[k]?=w1.heap[k]?)->K' (.bool false) w')->
    (∀c b,take s a (lH fl a.e)=.bad c b->TC w0 path c b)->nV P0 f [.agg [str a.n,i64 (a.e:Nat),i64 a.a].toArray,.agg (xcc M a.e).toArray] w1 K')
  (h:Inv 0 w s)(hok:∀s' w',lQ fl take [] l s=.ok s'->Inv l.length w' s'->K (.tuple #[]) w')(hbad:∀c b,lQ fl take [] l s=.bad c b->TC w0 path c b):
  aJ P0 172 [pA p,va,f] w K:=by
 refine TB ?_;unfold ZU;rw[eO (hva w (hMf _ _ _ h).fo)];generalize hR:lQ fl take [] l s=R at hok hbad;refine dL.go (λst w'=>∃(i:Nat) (s1:σ),st=[i64 (i:Nat)]/\i<=l.length/\Inv i w' s1/\lQ fl take (l.take i) (l.drop i) s1=R) (λst _=>match st with|[.int _ i]=>l.length-i.toNat|_=>0)
  ⟨0,s,rfl,dU _,h,by simpa using hR⟩ ?_
 rintro st g w2 ⟨i,s1,rfl,hi,h2,hr⟩;simp only[aC];rw[dI,bD];refine⟨λhlt=>?_,λhge=>?_⟩
 ·have hlt:i<l.length:=by omega
  have hsl:=hva w2 (hMf _ _ _ h2).fo;obtain⟨a,ha⟩:∃a,l[i]?=some a:=⟨_,aG hlt⟩;have ham:a∈l:=bI ha;have hd:l.drop i=a::l.drop (i+1):=by
   rw[eB hlt];rw[aG hlt]at ha;injection ha with ha
   rw[ha]
  rw[hd]at hr;simp only[lQ]at hr;refine dE.cut (λst w'=>st=[]/\∃s2,Inv (i+1) w' s2/\lQ fl take (l.take (i+1)) (l.drop (i+1)) s2=R) ?_ ?_
  ·refine lZ hsl (sE l) (by omega) hlt ?_;have hrow:((kK l).drop (i*3)).take 3=[str a.n,i64 (a.e:Nat),i64 a.a]:=yF ha;rw[hrow];refine cK λb w4 hb hz4 hbb4 hx4=>?_;refine cY (l:=[str a.n,i64 (a.e:Nat),i64 a.a]) hbb4 rfl rfl rfl λw5 hz5 hbb5 hc5=>?_;have hx5:Ext w2 w5:=hx4.new hc5 (by omega);have h5:=hext _ _ _ _ h2 hx5;have hsl5:=hva w5 (hMf _ _ _ h5).fo;refine dE.cut (λst w'=>st=[]/\Ext w5 w'/\(take s1 a (lH fl a.e)).bind (lQ fl take (l.take i++[a]) (l.drop (i+1)))=R) ?_ ?_
   ·refine Yw hsl5 (sE l) (Nat.le_of_lt hlt) λu hu=>?_;rw[Mk]at hu;have hlen:(l.take i).length=i:=by rw[cO];omega
    refine tY (l:=l.take i) (q:=λx=>decide (x.n=a.n)) (by rw[hlen];exact hu) (by rw[hlen];omega) (λx hx c hc {w1 K} hx1 hK=>hY (caps:=[pA b]) (SB hc (hx1.at hbb5 id) hK)) λw6 hx6=>?_;rw[eJ];refine⟨λhany=>?_,λhany=>?_⟩
    ·rw[aU hany]at hr;rw[bE,bL,aI,eD];refine⟨i64 a.a,by rw[cM,hx6.at hbb5 id,bT];rfl,?_⟩;exact mP (hMf _ _ _ (hext _ _ _ _ h5 hx6)) (hbad 2 a.a hr.symm)
    ·rw[aL (by rw[hany];decide)]at hr;exact⟨rfl,hx6,hr⟩
   rintro st g3 w6 ⟨rfl,hx6,hr⟩;have h6:=hext _ _ _ _ h5 hx6;have h7:=hext _ _ _ _ h6 (cQ w6);have hbb6:=hx6.at hbb5 id;have hbb7:w6.drew.heap[b]?=some (.cells [str a.n,i64 (a.e:Nat),i64 a.a].toArray AtT (0,0)):=hbb6;refine gF hbb7 rfl ?_;have hM7:=hMf _ _ _ h7;obtain⟨pc,hp,hE,_⟩:=hM7.pE;simp only[dB,bE,bL,aI];rw[eD];refine⟨M.vE,by rw[cM,hp,bT];simpa using hE,?_⟩;rw[eD];refine⟨i64 (a.e:Nat),by rw[cM,hbb7,bT];rfl,?_⟩;refine lZ hM7.fo.oE.sl hM7.fo.ee.1 (by omega) (he a ham) ?_;refine htake i a ha s1 w2 _ _ h2 (hx5.trans (hx6.trans (cQ w6))) (λs' w' hs' h'=>?_) (λw' hs' hM' hfr=>?_) (λc b' hs'=>?_)
   ·rw[fH,eJ];refine⟨λe=>(by cases e),λ_=>⟨trivial,s',h',?_⟩⟩;rw[hs']at hr;rw[jT,ha];exact hr
   ·rw[fH,eJ];refine⟨λ_=>?_,λe=>(by cases e)⟩;rw[hs']at hr;have hbw:w'.heap[b]?=some (.cells [str a.n,i64 (a.e:Nat),i64 a.a].toArray AtT (0,0)):=by rw[hfr b (by omega) (mB hbb7)];exact hbb7
    rw[eD];refine⟨i64 a.a,by rw[cM,hbw,bT];rfl,?_⟩;exact mP hM' (hbad 110 a.a hr.symm)
   ·rw[hs']at hr;exact hbad c b' hr.symm
  rintro st g3 w6 ⟨rfl,s2,h6,hr6⟩;rw[cJ,upi (by omega)];exact⟨⟨i+1,s2,rfl,by omega,h6,hr6⟩,by simp only[aV];omega⟩
 ·obtain rfl:i=l.length:=by omega
  rw[gU]at hr;simp only[lQ]at hr;exact hok s1 w2 hr.symm h2
end
theorem Pe{d:List Value}{j:Nat}{u:Value}(hd:(cs.drop (i*n)).take n=d)(hj:j<n)(hu:d[j]?=some u):cs[i*n+j]?=some u:=by
 rw[<-hd,gT hj,jG]at hu;exact hu
theorem AF{size off:Nat}{d:List Value}{k:IntKind}{u:Value}{K:Value->Prop}(h:SlAt w T v n cs)(hl:cs.length=n*size)(hi:i<n)(hd:(cs.drop (i*size)).take size=d)(ho:off<size)(hu:d[off]?=some u)(hK:K u):fK none size v (.int k i) λp=>aR off p λq=>ldW false 1 q w K:=by
 refine Bz h hl (by omega) hi λb o c fr hb hcc=>?_;rw[bE,eD];refine⟨u,?_,hK⟩;rw[bL,cM,hb,bT,hcc off ho];exact Pe hd ho hu
theorem vA{u:Value}{k:IntKind}(h:SlAt w T v n cs)(hl:cs.length=n)(hu:cs[i]?=some u):∃q,(∀K:Value->Prop,K q->fK none 1 v (.int k i) K)/\∀(w':World) (K:Value->Prop),Ext w w'->K u->ldW false 1 q w' K:=by
 obtain⟨p,cap,rfl,h1,h2,h3⟩:=h;have hi:i<cs.length:=(bS.1 hu).1;obtain⟨b,off,c,fr,rfl,hb,hcs⟩:=h3 (λe=>by rw[e]at hi;simp at hi);refine⟨.pointer (some ((⟨b,off,none⟩:Addr).add (i*1))),λK hK=>?_,λw' K hx hK=>?_⟩
 ·rw[eY];exact⟨by omega,by omega,by simpa using hK⟩
 ·rw[eD];refine⟨u,?_,hK⟩;rw[bL,cM,hx.at hb id,bT,Nat.mul_one,hcs i hi];exact hu
theorem ldb{b off:Nat}{K:Value->Prop}(hb:w.heap[b]?=some (.cells cs.toArray T (0,0)))(hv:cs[off]?=some v)(hK:K v):ldW false 1 (.pointer (some ⟨b,off,none⟩)) w K:=by
 rw[eD];exact⟨v,by rw[cM,hb,bT];simpa using hv,hK⟩
section
variable [HX]
section
variable{w0 w:World}{p:Nat}{M:Lay}{path:Str}{fl:Fl}{K:Q0}
theorem Mf.ext(h:Mf w0 w p M path fl)(hx:Ext w w'):Mf w0 w' p M path fl:=by
 obtain⟨cs,hp,hr⟩:=h.pE;exact⟨h.ch.trans hx,⟨cs,hx.at hp id,hr⟩,h.fo.keep hx λ_ _ _ _ e=>e⟩
theorem Mf.drew(h:Mf w0 w p M path fl):Mf w0 w.drew p M path fl:=h.ext (cQ w)
theorem DU{b:Blk}{c:List Value}(h:Mf w0 w p M path fl)(hc:BkR w w0.heap.size b c)(hb:∀j∈b.blocks,j<fl.bl.length)(hn:b.blocks.length<=1000000)(hok:∀w',tO fl b=.ok ()->Ext w w'->K (.tuple #[]) w')(hbad:∀c a,tO fl b=.bad c a->TC w0 path c a):
  aJ P0 174 [pA p,.agg c.toArray] w K:=by
 obtain⟨vl,va,vb,rfl,h1,h2,h3⟩:=hc;refine Tz ?_;unfold ZS;refine fZ λd w1 hd hz hbd hx=>?_;simp only[bE,dB,bL,aI];refine ldb hbd (v:=vb) rfl ?_;rw[eO (h3.sl.ext hx),gD,bD];refine⟨λhp=>?_,λhp=>?_⟩
 ·have hM1:=(h.ext hx).drew;obtain⟨pc,hpp,_,hB,_⟩:=hM1.pE;refine ldb hpp hB ?_;have hbd2:w1.drew.heap[d]?=some (.cells [str b.typ,vl,va,vb,i64 b.a].toArray 38 (0,0)):=hbd;refine ldb hbd2 (v:=vb) rfl ?_;cases hbb:b.blocks with
  |nil=>rw[hbb]at hp;simp at hp
  |cons k r=>
   have hk:=hb k (by rw[hbb];exact aW);refine mR (i:=0) (x:=i64 (k:Nat)) ((h3.sl.ext hx).ext (cQ w1)) (by rw[tL];omega) (by rw[hbb];rfl) ?_;obtain⟨wl,wa,wb,eb,_⟩:=sD hM1.fo hk;have:=AF (off:=4) (k:=.i64) (K:=λt21=>aJ P0 94 [pA p,.int .i64 110,t21] w1.drew λt22 w2=>K (.tuple #[]) w2) hM1.fo.oB.sl hM1.fo.bb.1 hk eb (by omega) rfl;refine this (mP hM1 (hbad 110 _ ?_));unfold tO;rw[hbb]
 ·refine hok w1 ?_ hx;unfold tO;cases hbb:b.blocks with
  |nil=>rfl
  |cons k r=>rw[hbb]at hp;simp at hp
end
section
variable [FK]{w0 w:World}{p:Nat}{L:ML}{vS:Value}{path:Str}{s:MS}{K:Q0}
structure pC(w0 w:World)(p:Nat)(L:ML)(vS:Value)(b:Nat)(T:TypeId)(cs:List Value):Prop where
 at_:w.heap[b]?=some (.cells cs.toArray T (0,0))
 off:uI w0 w p L vS b
variable{b b':Nat}{T:TypeId}{cs:List Value}
theorem pC.ext(h:pC w0 w p L vS b T cs)(hx:Ext w w'):pC w0 w' p L vS b T cs:=⟨hx.at h.at_ id,h.off.up hx.size⟩
theorem pC.one(h:pC w0 w p L vS b T cs)(hc:Chg (One b') w w')(hne:b≠b'):pC w0 w' p L vS b T cs:=⟨hc.at h.at_ hne,h.off.up hc.size⟩
theorem pC.lt(h:pC w0 w p L vS b T cs):b<w.heap.size:=h.off.2.1
theorem MR.loc(h:MR w0 w p L vS path s)(hz:w'.heap.size=w.heap.size+1)(hb:b=w.heap.size)(hc:w'.heap[b]?=some (.cells cs.toArray T (0,0))):pC w0 w' p L vS b T cs:=⟨hc,h.off_new (by omega) (by omega)⟩
structure BkA(fl:Fl)(M:Lay)(k:Nat):Prop where
 lt:k<fl.bl.length
 at_:∀a∈(kC fl k).attrs,a.e<fl.ex.length
 bs:∀j∈(kC fl k).blocks,j<fl.bl.length
 few:(kC fl k).attrs.length<=1000000/\(kC fl k).blocks.length<=1000000/\(kC fl k).labels.length<=1000000
theorem IH{k:Nat}(h:MR w0 w p L vS path s)(hk:BkA s.m.fl L.M k)(hl:1<=(kC s.m.fl k).labels.length)(hfew:s.m.vars.length<=100000000000)
  (hok:∀s' L' vS' w',nY s (kC s.m.fl k)=.ok s'->L'.M=L.M->MR w0 w' p L' vS' path s'->K (.tuple #[]) w')(hbad:∀c a,nY s (kC s.m.fl k)=.bad c a->TC w0 path c a):
  aJ P0 138 [pA p,.agg (bcc L.M k).toArray] w K:=by
 obtain⟨vl,va,vb,ec,h1,h2,h3⟩:=sD h.md.fo hk.lt;obtain⟨hklt,hkat,hkbs,hkf1,hkf2,hkf3⟩:=hk;generalize hb:kC s.m.fl k=b at*
 rw[ec];refine TZ ?_;unfold aAm;refine fZ λb3 w1 hb3 hz1 hbb3 hx1=>?_;have hm1:=(h.ext hx1).drew;have l3:pC w0 w1.drew p L vS b3 BkT _:=(h.loc hz1 hb3 hbb3).ext (cQ w1);have hbb3:=l3.at_;have hL1:=(h1.sl.ext hx1).ext (cQ w1);obtain⟨x,hx⟩:∃x,b.labels[0]?=some x:=⟨_,aG (by omega)⟩;have hxd:b.labels.getD 0 []=x:=by rw[bR,hx];rfl
 have hxs:(strs b.labels)[0]?=some (str x):=by unfold strs;rw[fO,hx];rfl
 simp only[bE,bL,aI];refine ldb hbb3 (v:=vl) rfl ?_;obtain⟨pl,hpl,hpl2⟩:=vA (k:=.i64) hL1 (by rw[tC];omega) hxs;refine hpl _ (hpl2 _ _ (Chg.refl _ _) ?_);refine ldb hbb3 (v:=i64 b.a) rfl ?_;simp only[dP,dW,dN,aB,aK,aM,aQ];refine⟨by omega,by omega,by omega,?_⟩;refine cK λb4 w3 hb4 hz3 hbb4 hx3=>?_;have hm3:=hm1.ext hx3;have l3:=l3.ext hx3;have l4:pC w0 w3 p L vS b4 VrT _:=hm1.loc hz3 hb4 hbb4;have hb34:b3≠b4:=by have:w1.drew.heap.size=w1.heap.size:=rfl;omega
 refine⟨ldb l3.at_ rfl rfl,hpl2 _ _ hx3 rfl,ldb l3.at_ rfl rfl,?_⟩;refine cY (l:=[str x,i64 (-1),i64 b.a]) l4.at_ rfl rfl rfl λw4 hz4 hbb4 hc4=>?_;have hm4:=hm3.one hc4 l4.off;have l3:=l3.one hc4 hb34;have l4:pC w0 w4 p L vS b4 VrT [str x,i64 (-1),i64 b.a]:=⟨hbb4,l4.off.up hc4.size⟩;refine ldb l3.at_ (v:=va) rfl ?_;have hva:∀w,FO w w0.heap.size L.M s.m.fl->SlAt w AtT va b.attrs.length (kK b.attrs):=λw hw=>by
  obtain⟨vl',va',vb',ec',_,g2,_⟩:=sD hw hklt;rw[ec,hb]at ec';simp only[gP]at ec';rw[ec'.2.2.1];rw[hb]at g2;exact g2.sl
 have hmodel:nY s b=(lQ s.m.fl KY [] b.attrs (-1)).bind λd=>(tO s.m.fl b).bind λ_=>if s.m.vars.any (λy=>decide (y.n=x))=true then .bad 2 b.a else .ok {s with m:={s.m with vars:=s.m.vars++[⟨x,d,b.a⟩]}}:=by
  rw[<-hxd];rfl
 rw[hmodel]at hok hbad;refine zD (σ:=Int) (M:=L.M) (fl:=s.m.fl) (path:=path) (Inv:=λ_ w d=>MR w0 w p L vS path s/\pC w0 w p L vS b3 BkT [str b.typ,vl,va,vb,i64 b.a]/\pC w0 w p L vS b4 VrT [str x,i64 d,i64 b.a]) (take:=KY) (l:=b.attrs) (s:=-1)
  (λ_ w d hI=>hI.1.mf) (λ_ w w' d hI hx=>⟨hI.1.ext hx,hI.2.1.ext hx,hI.2.2.ext hx⟩) hva hkf1 hkat ?_ ⟨hm4,l3,l4⟩ ?_ ?_
 ·intro j a ha d wz w5 K' hI hx5 hyes hno hbd;obtain⟨i1,i2,i3⟩:=hI;have hae:=hkat a (bI ha);have hm5:=i1.ext hx5;have l35:=i2.ext hx5;have l45:=i3.ext hx5;refine hY (caps:=[pA b4]) ?_;refine TA ?_;unfold ZT;refine fZ λb6 w6 hb6 hz6 hbb6 hx6=>?_;obtain⟨ua,uk,eu,_⟩:=wZ hm5.md.fo hae;rw[eu];refine fZ λb7 w7 hb7 hz7 hbb7 hx7=>?_;have hx57:=hx6.trans hx7;have hbb6':=hx7.at hbb6 id;simp only[bE,bL,aI];refine ldb hbb6' (v:=i64 (a.e:Nat)) rfl ?_;have l47:=l45.ext hx57;refine kQ l47.at_ rfl (by simp) λw8 hz8 hbb8 hc8=>?_;have hb6n:b6≠b4:=by have:=l45.lt;omega
  refine ldb (hc8.at hbb6' hb6n) (v:=str a.n) rfl ?_;rw[eQ];have hm8:=(hm5.ext hx57).one hc8 l47.off;have l38:=(l35.ext hx57).one hc8 hb34;have l48:pC w0 w8 p L vS b4 VrT [str x,i64 (a.e:Nat),i64 b.a]:=⟨by rw[hbb8];simp,l47.off.up hc8.size⟩;by_cases hd:a.n=Hg
  ·rw[bW (show a.n=[100,101,102,97,117,108,116]from hd)];refine hyes a.e w8 ?_ ⟨hm8,l38,l48⟩;unfold KY;rw[aU hd]
  ·rw[bH (show¬a.n=[100,101,102,97,117,108,116]from hd)];refine hno w8 (by unfold KY;rw[aL hd]) hm8.mf λq hq hq2=>?_;have h4:=i3.lt;rw[hc8.heap q (by have:=hx57.size;omega) (λe=>by have e:q=b4:=e;omega),hx57.heap q hq2 id]
 ·intro d w5 hR ⟨hm5,l35,l45⟩;rw[hR]at hok hbad;simp only[RC.bind]at hok hbad;refine gF l35.at_ rfl ?_;have hbk5:BkR w5 w0.heap.size b [str b.typ,vl,va,vb,i64 b.a]:=by
   have:=sD hm5.md.fo hklt;rw[ec,hb]at this;exact this
  refine DU hm5.mf hbk5 hkbs hkf2 (λw6 hB hx6=>?_) λc a hB=>hbad c a (by rw[hB]);rw[hB]at hok hbad;simp only at hok hbad;have hm6:=hm5.ext hx6;have l36:=l35.ext hx6;have l46:=l45.ext hx6;refine dE.cut (λst w'=>st=[]/\Ext w6 w'/\s.m.vars.any (λy=>decide (y.n=x))=false) ?_ ?_
  ·simp only[dB,bE,bL,aI];refine hm6.ld rfl ?_;refine Ca (l:=s.m.vars) (q:=λy=>decide (y.n=x)) hm6.md.oV.sl (by omega) (λy hy c hc {w8 K8} hx8 hK8=>hY (caps:=[pA b4]) ?_) λw7 hx7=>?_
   ·have hc:c=[str y.n,i64 y.d,i64 y.a]:=hc;subst hc;refine Ty ?_;unfold ZR;exact rH (hx8.at l46.at_ id) hK8
   ·rw[eJ];refine⟨λhany=>?_,λhany=>⟨trivial,hx7,hany⟩⟩;refine ldb (hx7.at l36.at_ id) (v:=i64 b.a) rfl ?_;exact mP (hm6.mf.ext hx7) (hbad 2 b.a (by rw[aU hany]))
  rintro st g w7 ⟨rfl,hx7,hany⟩;rw[aL (by rw[hany];decide)]at hok;have hx67:=hx7.trans (cQ w7);have hm7:=hm6.ext hx67;have l47:=l46.ext hx67;simp only[dB,bE,bL,aI];refine hm7.ld rfl ?_;refine gF l47.at_ rfl ?_;refine row_one (by rfl) (by rfl) (by omega) λt w8 ht hx8=>?_;have hm8:=hm7.ext hx8;refine⟨hm8.ld rfl rfl,?_⟩;refine hm8.app_V (x:=⟨x,d,b.a⟩) ht hfew λv' w9 hO hc hn=>?_;exact hm8.st_V hO hc hn λw10 hm10 _ _=>hok _ {L with vV:=v'} vS _ rfl rfl hm10
 ·intro c a hR;exact hbad c a (by rw[hR];rfl)
theorem Nn{k:Nat}(h:MR w0 w p L vS path s)(hk:BkA s.m.fl L.M k)(hl:1<=(kC s.m.fl k).labels.length)(hfew:s.m.outs.length<=100000000000)
  (hok:∀s' L' vS' w',rS s (kC s.m.fl k)=.ok s'->L'.M=L.M->MR w0 w' p L' vS' path s'->K (.tuple #[]) w')(hbad:∀c a,rS s (kC s.m.fl k)=.bad c a->TC w0 path c a):
  aJ P0 140 [pA p,.agg (bcc L.M k).toArray] w K:=by
 obtain⟨vl,va,vb,ec,h1,h2,h3⟩:=sD h.md.fo hk.lt;obtain⟨hklt,hkat,hkbs,hkf1,hkf2,hkf3⟩:=hk;generalize hb:kC s.m.fl k=b at*
 rw[ec];refine TX ?_;unfold aAk;refine fZ λb3 w1 hb3 hz1 hbb3 hx1=>?_;have hm1:=(h.ext hx1).drew;have l3:pC w0 w1.drew p L vS b3 BkT _:=(h.loc hz1 hb3 hbb3).ext (cQ w1);have hbb3:=l3.at_;have hL1:=(h1.sl.ext hx1).ext (cQ w1);obtain⟨x,hx⟩:∃x,b.labels[0]?=some x:=⟨_,aG (by omega)⟩;have hxd:b.labels.getD 0 []=x:=by rw[bR,hx];rfl
 have hxs:(strs b.labels)[0]?=some (str x):=by unfold strs;rw[fO,hx];rfl
 simp only[bE,bL,aI];refine ldb hbb3 (v:=vl) rfl ?_;obtain⟨pl,hpl,hpl2⟩:=vA (k:=.i64) hL1 (by rw[tC];omega) hxs;refine hpl _ (hpl2 _ _ (Chg.refl _ _) ?_);refine ldb hbb3 (v:=i64 b.a) rfl ?_;simp only[dP,dW,dN,aB,aK,aM,aQ];refine⟨by omega,by omega,by omega,?_⟩;refine cK λb4 w3 hb4 hz3 hbb4 hx3=>?_;have hm3:=hm1.ext hx3;have l3:=l3.ext hx3;have l4:pC w0 w3 p L vS b4 AtT _:=hm1.loc hz3 hb4 hbb4;have hb34:b3≠b4:=by have:w1.drew.heap.size=w1.heap.size:=rfl;omega
 refine⟨ldb l3.at_ rfl rfl,hpl2 _ _ hx3 rfl,ldb l3.at_ rfl rfl,?_⟩;refine cY (l:=[str x,i64 (-1),i64 b.a]) l4.at_ rfl rfl rfl λw4 hz4 hbb4 hc4=>?_;have hm4:=hm3.one hc4 l4.off;have l3:=l3.one hc4 hb34;have l4:pC w0 w4 p L vS b4 AtT [str x,i64 (-1),i64 b.a]:=⟨hbb4,l4.off.up hc4.size⟩;refine ldb l3.at_ (v:=va) rfl ?_;have hva:∀w,FO w w0.heap.size L.M s.m.fl->SlAt w AtT va b.attrs.length (kK b.attrs):=λw hw=>by
  obtain⟨vl',va',vb',ec',_,g2,_⟩:=sD hw hklt;rw[ec,hb]at ec';simp only[gP]at ec';rw[ec'.2.2.1];rw[hb]at g2;exact g2.sl
 have hmodel:rS s b=(lQ s.m.fl outT [] b.attrs (-1)).bind λd=>(tO s.m.fl b).bind λ_=>if d<0 then .bad 110 b.a else if s.m.outs.any (λy=>decide (y.n=x))=true then .bad 2 b.a else .ok {s with m:={s.m with outs:=s.m.outs++[⟨x,d.toNat,b.a⟩]}}:=by
  rw[<-hxd];rfl
 rw[hmodel]at hok hbad;refine zD (σ:=Int) (M:=L.M) (fl:=s.m.fl) (path:=path) (Inv:=λ_ w d=>MR w0 w p L vS path s/\pC w0 w p L vS b3 BkT [str b.typ,vl,va,vb,i64 b.a]/\pC w0 w p L vS b4 AtT [str x,i64 d,i64 b.a]) (take:=outT) (l:=b.attrs) (s:=-1)
  (λ_ w d hI=>hI.1.mf) (λ_ w w' d hI hx=>⟨hI.1.ext hx,hI.2.1.ext hx,hI.2.2.ext hx⟩) hva hkf1 hkat ?_ ⟨hm4,l3,l4⟩ ?_ ?_
 ·intro j a ha d wz w5 K' hI hx5 hyes hno hbd;obtain⟨i1,i2,i3⟩:=hI;have hae:=hkat a (bI ha);have hm5:=i1.ext hx5;have l35:=i2.ext hx5;have l45:=i3.ext hx5;refine hY (caps:=[pA b4]) ?_;refine Tv ?_;unfold ZO;refine fZ λb6 w6 hb6 hz6 hbb6 hx6=>?_;obtain⟨ua,uk,eu,_⟩:=wZ hm5.md.fo hae;rw[eu];refine fZ λb7 w7 hb7 hz7 hbb7 hx7=>?_;have hx57:=hx6.trans hx7;have hbb6':=hx7.at hbb6 id;simp only[bE,bL,aI];refine ldb hbb6' (v:=i64 (a.e:Nat)) rfl ?_;have l47:=l45.ext hx57;refine kQ l47.at_ rfl (by simp) λw8 hz8 hbb8 hc8=>?_;have hb6n:b6≠b4:=by have:=l45.lt;omega
  refine ldb (hc8.at hbb6' hb6n) (v:=str a.n) rfl ?_;rw[eQ];have hm8:=(hm5.ext hx57).one hc8 l47.off;have l38:=(l35.ext hx57).one hc8 hb34;have l48:pC w0 w8 p L vS b4 AtT [str x,i64 (a.e:Nat),i64 b.a]:=⟨by rw[hbb8];simp,l47.off.up hc8.size⟩;by_cases hd:a.n=MU
  ·rw[bW (show a.n=[118,97,108,117,101]from hd)];refine hyes a.e w8 ?_ ⟨hm8,l38,l48⟩;unfold outT;rw[aU hd]
  ·rw[bH (show¬a.n=[118,97,108,117,101]from hd)];refine hno w8 (by unfold outT;rw[aL hd]) hm8.mf λq hq hq2=>?_;have h4:=i3.lt;rw[hc8.heap q (by have:=hx57.size;omega) (λe=>by have e:q=b4:=e;omega),hx57.heap q hq2 id]
 ·intro d w5 hR ⟨hm5,l35,l45⟩;rw[hR]at hok hbad;simp only[RC.bind]at hok hbad;refine gF l35.at_ rfl ?_;have hbk5:BkR w5 w0.heap.size b [str b.typ,vl,va,vb,i64 b.a]:=by
   have:=sD hm5.md.fo hklt;rw[ec,hb]at this;exact this
  refine DU hm5.mf hbk5 hkbs hkf2 (λw6 hB hx6=>?_) λc a hB=>hbad c a (by rw[hB]);rw[hB]at hok hbad;simp only at hok hbad;have hm6:=hm5.ext hx6;have l36:=l35.ext hx6;have l46:=l45.ext hx6;refine dE.cut (λst w'=>st=[]/\w'=w6/\¬d<0) ?_ ?_
  ·simp only[bE,bL,aI];refine ldb l46.at_ (v:=i64 d) rfl ?_;rw[dI,bD];refine⟨λhd=>?_,λhd=>⟨trivial,trivial,hd⟩⟩;refine ldb l36.at_ (v:=i64 b.a) rfl ?_;exact mP hm6.mf (hbad 110 b.a (by rw[aU hd]))
  rintro st g w6 ⟨rfl,rfl,hd0⟩;rw[aL hd0]at hok hbad;refine dE.cut (λst w'=>st=[]/\Ext w6 w'/\s.m.outs.any (λy=>decide (y.n=x))=false) ?_ ?_
  ·simp only[dB,bE,bL,aI];refine hm6.ld rfl ?_;refine tY (l:=s.m.outs) (q:=λy=>decide (y.n=x)) hm6.md.oO.sl (by omega) (λy hy c hc {w8 K8} hx8 hK8=>hY (caps:=[pA b4]) ?_) λw7 hx7=>?_
   ·have hc:c=[str y.n,i64 (y.e:Nat),i64 y.a]:=hc;subst hc;refine Tu ?_;unfold ZN;exact rH (hx8.at l46.at_ id) hK8
   ·rw[eJ];refine⟨λhany=>?_,λhany=>⟨trivial,hx7,hany⟩⟩;refine ldb (hx7.at l36.at_ id) (v:=i64 b.a) rfl ?_;exact mP (hm6.mf.ext hx7) (hbad 2 b.a (by rw[aU hany]))
  rintro st g w7 ⟨rfl,hx7,hany⟩;rw[aL (by rw[hany];decide)]at hok;have hx67:=hx7.trans (cQ w7);have hm7:=hm6.ext hx67;have l47:=l46.ext hx67;simp only[dB,bE,bL,aI];refine hm7.ld rfl ?_;refine gF l47.at_ rfl ?_;refine row_one (by rfl) (by rfl) (by omega) λt w8 ht hx8=>?_;rw[<-Int.toNat_of_nonneg (Int.not_lt.1 hd0)]at ht;have hm8:=hm7.ext hx8;refine⟨hm8.ld rfl rfl,?_⟩;refine hm8.app_O (x:=⟨x,d.toNat,b.a⟩) ht hfew λv' w9 hO hc hn=>?_;exact hm8.st_O hO hc hn λw10 hm10 _ _=>hok _ {L with vO:=v'} vS _ rfl rfl hm10
 ·intro c a hR;exact hbad c a (by rw[hR];rfl)
end
end
section
variable [FK]{w0 w w1 w2:World}{p:Nat}{L:ML}{vS:Value}{path:Str}{s:MS}{b:Nat}{T:TypeId}{cs:List Value}
theorem uI.ne(h:uI w0 w p L vS b)(hv:v∈[vS]++L.vals):v.ownBlock≠some b:=λe=>h.2.2.1 (by rw[kB];exact aD _ (eF hv e))
theorem uI.np(h:uI w0 w p L vS b):b≠p:=λe=>h.2.2.1 (by rw[kB,e];exact aW)
theorem pC.put_L{v':Value}(h:pC w0 w p L vS b T cs)(hc:Chg (λk=>L.vL.ownBlock=some k) w w1)(hc2:Chg (One p) w1 w2)(hn:∀k,v'.ownBlock=some k->L.vL.ownBlock=some k\/w.heap.size<=k):pC w0 w2 p {L with vL:=v'} vS b T cs:=by
 have hv:L.vL.ownBlock≠some b:=h.off.ne (by simp[ML.vals]);refine⟨hc2.at (hc.at h.at_ hv) h.off.np,h.off.1,dD h.off.2.1 (dR hc.size hc2.size),λhm=>?_,h.off.2.2.2⟩;rw[kB]at hm;rcases bC.1 hm with e|hm
 ·exact h.off.np e
 obtain⟨v,hv2,hk⟩:=bZ.1 hm;have:v=v'\/v∈[vS]++L.vals:=by
  simp only[ML.vals,bK,bC,cA,gG]at hv2⊢
  grind
 rcases this with rfl|hv2
 ·rcases hn b hk with e|e
  ·exact hv e
  ·have:=h.off.2.1;omega
 ·exact h.off.ne hv2 hk
end
abbrev MpT:TypeId:=175
section
variable [HX]
variable [FK]{w0 w:World}{p:Nat}{L:ML}{vS:Value}{path:Str}{s:MS}{K:Q0}
theorem US{q:Nat}{K:Q0}(h:∀a w',a=w.heap.size->w'.heap.size=w.heap.size+1->w'.heap[a]?=some (.cells [pA q].toArray T (0,0))->Ext w w'->K (.pointer (some ⟨a,0,none⟩)) w'):jF T (pA q) w K:=fZ (z:=[pA q]) h
def LoI(w0:World)(p:Nat)(L:ML)(vS:Value)(path:Str)(s:MS)(b2 b3:Nat)(c3:List Value)(j:Nat)(w:World)(l:List Atr):Prop:=
 ∃L':ML,L'.M=L.M/\MR w0 w p L' vS path {s with m:={s.m with locs:=l}}/\pC w0 w p L' vS b2 MpT [pA p]/\pC w0 w p L' vS b3 BkT c3/\l.length<=s.m.locs.length+j
theorem NA{k:Nat}(h:MR w0 w p L vS path s)(hk:BkA s.m.fl L.M k)(hfew:s.m.locs.length<=10000000000)
  (hok:∀s' L' vS' w',rT s (kC s.m.fl k)=.ok s'->L'.M=L.M->MR w0 w' p L' vS' path s'->K (.tuple #[]) w')(hbad:∀c a,rT s (kC s.m.fl k)=.bad c a->TC w0 path c a):
  aJ P0 139 [pA p,.agg (bcc L.M k).toArray] w K:=by
 obtain⟨vl,va,vb,ec,h1,h2,h3⟩:=sD h.md.fo hk.lt;obtain⟨hklt,hkat,hkbs,hkf1,hkf2,hkf3⟩:=hk;generalize hb:kC s.m.fl k=b at*
 rw[ec];refine TY ?_;unfold aAl;refine US λb2 w1 hb2 hz1 hbb2 hx1=>?_;have hm1:=h.ext hx1;have l2:pC w0 w1 p L vS b2 MpT _:=h.loc hz1 hb2 hbb2;refine fZ λb3 w2 hb3 hz2 hbb3 hx2=>?_;have hm2:=hm1.ext hx2;have l3:pC w0 w2 p L vS b3 BkT _:=hm1.loc hz2 hb3 hbb3;have l2:=l2.ext hx2;refine ldb l2.at_ (v:=pA p) rfl ?_;simp only[bE,bL,aI];refine ldb l3.at_ (v:=va) rfl ?_;have hva:∀w,FO w w0.heap.size L.M s.m.fl->SlAt w AtT va b.attrs.length (kK b.attrs):=λw hw=>by
  obtain⟨vl',va',vb',ec',_,g2,_⟩:=sD hw hklt;rw[ec,hb]at ec';simp only[gP]at ec';rw[ec'.2.2.1];rw[hb]at g2;exact g2.sl
 have hmodel:rT s b=(lQ s.m.fl Gz [] b.attrs s.m.locs).bind λl=>(tO s.m.fl b).bind λ_=>.ok {s with m:={s.m with locs:=l}}:=rfl;rw[hmodel]at hok hbad;refine zD (M:=L.M) (fl:=s.m.fl) (path:=path) (Inv:=LoI w0 p L vS path s b2 b3 [str b.typ,vl,va,vb,i64 b.a]) (take:=Gz) (l:=b.attrs) (s:=s.m.locs)
  (λ_ w l ⟨L',e,g,_⟩=>by rw[<-e];exact g.mf) (λ_ w w' l ⟨L',e,g1,g2,g3,g4⟩ hx=>⟨L',e,g1.ext hx,g2.ext hx,g3.ext hx,g4⟩) hva hkf1 hkat ?_ ⟨L,rfl,hm2,l2,l3,by omega⟩ ?_ ?_
 ·rintro j a ha l wz w5 K' ⟨L',eM,i1,i2,i3,i4⟩ hx5 hyes hno hbd;have hjl:j<b.attrs.length:=(bS.1 ha).1;have hae:=hkat a (bI ha);refine hY (caps:=[pA b2]) ?_;refine Tx ?_;unfold ZQ;refine fZ λb6 w6 hb6 hz6 hbb6 hx6=>?_;obtain⟨ua,uk,eu,_⟩:=wZ (i1.ext hx5).md.fo hae;rw[<-eM,eu];refine fZ λb7 w7 hb7 hz7 hbb7 hx7=>?_;have hx57:=hx5.trans (hx6.trans hx7);have hm7:=i1.ext hx57;have l27:=i2.ext hx57;have l37:=i3.ext hx57;have hbb67:=hx7.at hbb6 id;have l67:pC w0 w7 p L' vS b6 AtT [str a.n,i64 (a.e:Nat),i64 a.a]:=⟨hbb67,(i1.ext hx5).off_new (by omega) (by omega)⟩;refine dE.cut (λst w'=>st=[]/\Ext w7 w'/\l.any (λy=>decide (y.n=a.n))=false) ?_ ?_
  ·refine ldb l27.at_ (v:=pA p) rfl ?_;simp only[dB,bE,bL,aI];refine hm7.ld rfl ?_;refine tY (l:=l) (q:=λy=>decide (y.n=a.n)) hm7.md.oL.sl (by omega) (λy hy c hc {w8 K8} hx8 hK8=>hY (caps:=[pA b6]) ?_) λw8 hx8=>?_
   ·have hc:c=[str y.n,i64 (y.e:Nat),i64 y.a]:=hc;subst hc;refine Tw ?_;unfold ZP;exact rH (hx8.at hbb67 id) hK8
   ·rw[eJ];refine⟨λhany=>?_,λhany=>⟨trivial,hx8,hany⟩⟩;refine ldb (l27.ext hx8).at_ (v:=pA p) rfl ?_;refine ldb (hx8.at hbb67 id) (v:=i64 a.a) rfl ?_;have hM:=(hm7.ext hx8).mf;rw[eM]at hM;exact mP hM (hbd 2 a.a (by unfold Gz;rw[aU hany]))
  rintro st g w8 ⟨rfl,hx8,hany⟩;have hx79:=hx8.trans (cQ w8);have hm9:=hm7.ext hx79;have l29:=l27.ext hx79;have l39:=l37.ext hx79;have l69:=l67.ext hx79;refine ldb l29.at_ (v:=pA p) rfl ?_;refine ldb l29.at_ (v:=pA p) rfl ?_;simp only[dB,bE,bL,aI];refine hm9.ld rfl ?_;refine gF l69.at_ rfl ?_;refine row_one (by rfl) (by rfl) (by omega) λt w10 ht hx10=>?_;have hm10:=hm9.ext hx10;have l210:=l29.ext hx10;refine⟨hm10.ld rfl rfl,ldb l210.at_ rfl rfl,ldb l210.at_ rfl rfl,?_⟩;refine hm10.app_L (x:=a) ht (by show l.length<=_;omega) λv' w11 hO hc hn=>?_;refine⟨ldb (hc.at l210.at_ (l210.off.ne (by simp[ML.vals]))) rfl rfl,?_⟩;refine hm10.st_L hO hc hn λw12 hm12 hc2 _=>?_;refine hyes (l++[a]) w12 (by unfold Gz;rw[aL (by rw[hany];decide)]) ⟨{L' with vL:=v'},eM,hm12,l210.put_L hc hc2 hn,(l39.ext hx10).put_L hc hc2 hn,by rw[aP,aB,aK];omega⟩
 ·rintro l w5 hR ⟨L',eM,hm5,l25,l35,_⟩;rw[hR]at hok hbad;simp only[RC.bind]at hok hbad;refine ldb l25.at_ (v:=pA p) rfl ?_;refine gF l35.at_ rfl ?_;have hbk5:BkR w5 w0.heap.size b [str b.typ,vl,va,vb,i64 b.a]:=by
   have:=sD hm5.md.fo hklt;rw[eM]at this;have e2:kC {s with m:={s.m with locs:=l}}.m.fl k=b:=hb;rw[ec,e2]at this;exact this
  refine DU (M:=L'.M) hm5.mf hbk5 hkbs hkf2 (λw6 hB hx6=>?_) λc a hB=>hbad c a (by
   have hB:tO s.m.fl b=.bad c a:=hB;rw[hB])
  have hB:tO s.m.fl b=.ok ():=hB;rw[hB]at hok;exact hok _ L' vS _ rfl eM (hm5.ext hx6)
 ·intro c a hR;exact hbad c a (by rw[hR];rfl)
end
end
end Go.Proofs.YtjblfcfdeaagpaaGreatDoor
namespace Go.Vfs
section
open Go Go.Eng
variable{w:World}{K:Q0}{cs:List Value}{G:Nat->Prop}{T:TypeId}{i:Nat}{n:Nat}{v:Value}{w':World}{P:Program}{c:UInt8}{S:Nat->Prop}
structure MF where
 data:Str
 safe:Str
 saved:Bool
abbrev Files:=List (Str×MF)
structure MS where
 files:Files
 steps:Int
 left:Int
 dead:Bool
def newM:MS:=⟨[],0,-1,false⟩
def badB(c:UInt8):Bool:=c==0||c==10||c==32
def good(p:Str):Bool:=decide (1<=p.length)&&decide (p.length<=64)&&!p.any badB
def lkM:Files->Str->Option MF
 |[],_=>none
 |(k,x)::r,p=>if k=p then some x else lkM r p
def wo:Files->Str->Files
 |[],_=>[]
 |(k,x)::r,p=>if k=p then wo r p else(k,x)::wo r p
def ins:Files->Str->MF->Files
 |[],p,x=>[(p,x)]
 |(k,y)::r,p,x=>if Op.bytesLess p k=true then(p,x)::(k,y)::r else(k,y)::ins r p x
def wth(l:Files)(p:Str)(x:MF):Files:=ins (wo l p) p x
def vstepM(s:MS):MS×Int:=
 if s.dead=true\/s.left=0 then({s with dead:=true},5)
 else({s with left:=if s.left>0 then IntKind.i64.wrap (s.left-1)else s.left,steps:=IntKind.i64.wrap (s.steps+1)},0)
def writeM(s:MS)(p data:Str)(made:Bool):MS×Int:=
 if good p=false then(s,6)
 else if data.length>65536\/(lkM s.files p=none/\64<=s.files.length)then(s,3)
 else if made=true/\(lkM s.files p).isSome=true then(s,2)
 else if(vstepM s).2≠0 then vstepM s
 else({(vstepM s).1 with files:=wth s.files p ⟨data,((lkM s.files p).map (·.safe)).getD [],((lkM s.files p).map (·.saved)).getD false⟩},0)
def removeM(s:MS)(p:Str):MS×Int:=
 if good p=false then(s,6)
 else match lkM s.files p with
  |none=>(s,4)
  |some _=>if(vstepM s).2≠0 then vstepM s else({(vstepM s).1 with files:=wo s.files p},0)
theorem BV:∀a:Str,Op.bytesLess a a=false
 |[]=>rfl
 |x::a=>by simp[Op.bytesLess,BV a,UInt8.lt_irrefl]
theorem Dm:∀{a b c:Str},Op.bytesLess a b=true->Op.bytesLess b c=true->Op.bytesLess a c=true
 |_,_,[],_,h=>by cases ‹List UInt8›<;>simp[Op.bytesLess]at h
 |[],_,_::_,_,_=>rfl
 |x::a,[],z::c,h,_=>by simp[Op.bytesLess]at h
 |x::a,y::b,z::c,h1,h2=>by
  simp only[Op.bytesLess,gK,fN,bU,iK]at h1 h2⊢
  rcases h1 with h1|⟨rfl,h1⟩<;>rcases h2 with h2|⟨rfl,h2⟩
  ·exact .inl (UInt8.lt_trans h1 h2)
  ·exact .inl h1
  ·exact .inl h2
  ·exact .inr ⟨rfl,Dm h1 h2⟩
theorem Af:∀(a b:Str),a≠b->Op.bytesLess a b=true\/Op.bytesLess b a=true
 |[],[],h=>absurd rfl h
 |[],_::_,_=>.inl rfl
 |_::_,[],_=>.inr rfl
 |x::a,y::b,h=>by
  simp only[Op.bytesLess,gK,fN,bU,iK]
  by_cases hxy:x=y
  ·subst hxy
   have:a≠b:=λe=>h (by rw[e])
   rcases Af a b this with h1|h1
   ·exact .inl (.inr ⟨rfl,h1⟩)
   ·exact .inr (.inr ⟨rfl,h1⟩)
  ·have:x<y\/y<x:=by
    simp only[UInt8.lt_iff_toNat_lt];have:x.toNat≠y.toNat:=λe=>hxy (mL.1 e);omega
   rcases this with h1|h1
   ·exact .inl (.inl h1)
   ·exact .inr (.inl h1)
def Srt(l:Files):Prop:=(l.map (·.1)).Pairwise (λa b=>Op.bytesLess a b=true)
theorem Srt.tail{x:Str×MF}{l:Files}(h:Srt (x::l)):Srt l:=(sG.1 h).2
theorem wo_sub(l:Files)(p:Str):List.Sublist (wo l p) l:=by
 induction l with
 |nil=>exact List.Sublist.refl _
 |cons x r ih=>
  obtain⟨k,y⟩:=x;simp only[wo];split
  ·exact ih.cons _
  ·exact ih.cons_cons _
theorem Mr{l:Files}(p:Str)(h:Srt l):Srt (wo l p):=List.Pairwise.sublist ((wo_sub l p).map _) h
theorem Ms(l:Files)(p:Str):p∉(wo l p).map (·.1):=by
 induction l with
 |nil=>simp[wo]
 |cons x r ih=>
  obtain⟨k,y⟩:=x;simp only[wo];split
  ·exact ih
  ·rename_i h;simp only[fW,bC,not_or];exact⟨λe=>h e.symm,ih⟩
theorem UG(l:Files)(p q:Str):lkM (wo l p) q=if q=p then none else lkM l q:=by
 induction l with
 |nil=>simp[wo,lkM]
 |cons x r ih=>
  obtain⟨k,y⟩:=x;simp only[wo,lkM];by_cases h:k=p
  ·rw[aU h,ih];by_cases hq:q=p
   ·simp[hq]
   ·rw[aL hq,aL hq,aL (λe=>hq (by rw[<-h,e]))]
  ·rw[aL h];simp only[lkM,ih];by_cases hk:k=q
   ·rw[aU hk,aU hk,aL (λe=>h (by rw[hk,e]))]
   ·rw[aL hk,aL hk]
theorem Kl(l:Files)(p:Str)(x:MF)(y:Str×MF):y∈ins l p x↔y=(p,x)\/y∈l:=by
 induction l with
 |nil=>simp[ins]
 |cons z r ih=>
  obtain⟨k,u⟩:=z;simp only[ins];split
  ·simp
  ·simp only[bC,ih];constructor
   ·rintro(h|h|h)
    ·exact .inr (.inl h)
    ·exact .inl h
    ·exact .inr (.inr h)
   ·rintro(h|h|h)
    ·exact .inr (.inl h)
    ·exact .inl h
    ·exact .inr (.inr h)
theorem ins_perm(l:Files)(p:Str)(x:MF):(ins l p x).Perm ((p,x)::l):=by
 induction l with
 |nil=>exact Ep _
 |cons z r ih=>
  obtain⟨k,u⟩:=z;simp only[ins];split
  ·exact Ep _
  ·exact(List.Perm.cons _ ih).trans (List.Perm.swap _ _ _)
theorem RI{l:Files}{p:Str}(x:MF)(h:Srt l)(hp:p∉l.map (·.1)):Srt (ins l p x):=by
 induction l with
 |nil=>simp[ins,Srt]
 |cons z r ih=>
  obtain⟨k,u⟩:=z;have hpk:p≠k:=λe=>hp (by simp[e]);have hpr:p∉r.map (·.1):=λe=>hp (by simp[e]);simp only[ins];split
  ·rename_i hlt;refine sG.2 ⟨?_,h⟩;intro y hy;rcases bC.1 hy with rfl|hy
   ·exact hlt
   ·exact Dm hlt ((sG.1 h).1 y hy)
  ·rename_i hlt;refine sG.2 ⟨?_,ih h.tail hpr⟩;intro y hy;obtain⟨z,hz,rfl⟩:=gE.1 hy;rcases(Kl r p x z).1 hz with rfl|hz
   ·exact(Af p k hpk).resolve_left hlt
   ·exact(sG.1 h).1 z.1 (List.mem_map_of_mem hz)
theorem OK{l:Files}(p:Str)(x:MF)(h:Srt l):Srt (wth l p x):=RI x (Mr p h) (Ms l p)
theorem WB(l:Files)(p q:Str)(x:MF)(hp:p∉l.map (·.1)):lkM (ins l p x) q=if q=p then some x else lkM l q:=by
 induction l with
 |nil=>
  simp only[ins,lkM];by_cases h:p=q
  ·simp[h]
  ·rw[aL h,aL (kG h)]
 |cons z r ih=>
  obtain⟨k,u⟩:=z;have hpk:p≠k:=λe=>hp (by simp[e]);have hpr:p∉r.map (·.1):=λe=>hp (by simp[e]);simp only[ins];split
  ·simp only[lkM];by_cases h:p=q
   ·simp[h]
   ·rw[aL h,aL (kG h)]
  ·simp only[lkM,ih hpr];by_cases hk:k=q
   ·subst hk;simp[kG hpk]
   ·rw[aL hk,aL hk]
theorem lk_wth(l:Files)(p q:Str)(x:MF):lkM (wth l p x) q=if q=p then some x else lkM l q:=by
 unfold wth;rw[WB _ _ _ _ (Ms l p),UG];split<;>rfl
theorem Rx{l:Files}{p:Str}:lkM l p=none↔p∉l.map (·.1):=by
 induction l with
 |nil=>simp[lkM]
 |cons x r ih=>
  obtain⟨k,v⟩:=x;simp only[lkM];by_cases h:k=p
  ·simp[h]
  ·simp only[aL h,ih,fW,bC];exact⟨λh1 h2=>h2.elim (λe=>h e.symm) h1,λh1 h2=>h1 (.inr h2)⟩
theorem Mt{l:Files}{p:Str}(h:Srt l):(wo l p).length=if(lkM l p).isSome=true then l.length-1 else l.length:=by
 induction l with
 |nil=>simp[wo,lkM]
 |cons x r ih=>
  obtain⟨k,y⟩:=x;have ih:=ih h.tail;simp only[wo,lkM];by_cases hk:k=p
  ·have:lkM r p=none:=by
    rw[Rx];intro hm;have:=(sG.1 h).1 p hm;rw[hk,BV]at this;cases this
   rw[this]at ih;simp at ih;simp[hk,ih]
  ·simp only[aL hk,aB,ih];split
   ·rename_i hs;have:r.length≠0:=λe=>by
     have:r=[]:=cW e;subst this;simp[lkM]at hs
    omega
   ·rfl
theorem JO{l:Files}{p:Str}{x:MF}(h:Srt l):(wth l p x).length=if(lkM l p).isSome=true then l.length else l.length+1:=by
 have h1:(wth l p x).length=(wo l p).length+1:=by unfold wth;rw[(ins_perm _ _ _).length_eq];rfl
 rw[h1,Mt h];split
 ·rename_i hs;have:l.length≠0:=λe=>by
   have:l=[]:=cW e;subst this;simp[lkM]at hs
  omega
 ·rfl
structure Ok(s:MS):Prop where
 srt:Srt s.files
 few:s.files.length<=64
 each:∀y∈s.files,good y.1=true/\y.2.data.length<=65536/\y.2.safe.length<=65536
theorem lk_mem{l:Files}{p:Str}{x:MF}(h:lkM l p=some x):(p,x)∈l:=by
 induction l with
 |nil=>cases h
 |cons z r ih=>
  obtain⟨k,y⟩:=z;simp only[lkM]at h;by_cases hk:k=p
  ·rw[aU hk]at h;cases h;subst hk;exact aW
  ·rw[aL hk]at h;exact aD _ (ih h)
theorem Wu:Ok newM:=⟨List.Pairwise.nil,by simp[newM],by simp[newM]⟩
theorem Kh{s:MS}(h:Ok s):Ok (vstepM s).1:=by
 unfold vstepM;split<;>exact⟨h.srt,h.few,h.each⟩
theorem tD(s:MS):(vstepM s).1.files=s.files:=by unfold vstepM;split<;>rfl
theorem Rt{l:Files}{p:Str}{x:MF}{y:Str×MF}(h:y∈wth l p x):y=(p,x)\/y∈l:=by
 rcases(Kl _ _ _ _).1 h with h|h
 ·exact .inl h
 ·exact .inr ((wo_sub l p).subset h)
theorem Np{s:MS}(h:Ok s)(p data:Str)(made:Bool):Ok (writeM s p data made).1:=by
 unfold writeM;split
 ·exact h
 ·rename_i hg;split
  ·exact h
  ·rename_i hl;split
   ·exact h
   ·split
    ·exact Kh h
    ·refine⟨OK _ _ h.srt,?_,?_⟩
     ·show(wth s.files p _).length<=64;rw[JO h.srt];have:=h.few;split
      ·exact this
      ·rename_i hn;have:lkM s.files p=none:=by cases hx:lkM s.files p with
        |none=>rfl
        |some _=>rw[hx]at hn;simp at hn
       simp only[not_or,not_and,Nat.not_le]at hl;exact hl.2 this
     ·intro y hy;rcases Rt hy with rfl|hy
      ·refine⟨by simpa using hg,by show data.length<=65536;simp only[not_or]at hl;omega,?_⟩;cases hx:lkM s.files p with
       |none=>simp
       |some x=>simpa using(h.each _ (lk_mem hx)).2.2
      ·exact h.each y hy
theorem Lw{s:MS}(h:Ok s)(p:Str):Ok (removeM s p).1:=by
 unfold removeM;split
 ·exact h
 ·split
  ·exact h
  ·split
   ·exact Kh h
   ·exact⟨Mr p h.srt,dR (wo_sub _ _).length_le h.few,λy hy=>h.each y ((wo_sub _ _).subset hy)⟩
end
end Go.Vfs
namespace Go.Proofs.YtjblfcfdeaagpaaGreatDoor.Fx
section
open Go Go.Eng
variable{w:World}{K:Q0}{cs:List Value}{G:Nat->Prop}{T:TypeId}{i:Nat}{n:Nat}{v:Value}{w':World}{P:Program}{c:UInt8}{S:Nat->Prop}
def Yq:=And.intro @dY<|And.intro @dO<|And.intro @dS<|And.intro @dM<|And.intro @fF<|And.intro @eH<|And.intro @dX<|And.intro @dC<|And.intro @dN<|And.intro @iP<|And.intro @dP<|And.intro @dW<|And.intro @gV<|And.intro @iJ<|And.intro @eP<|And.intro @cG<|And.intro @aY<|And.intro @cJ<|And.intro @gR<|And.intro @iN<|And.intro @jB<|And.intro @jA<|And.intro @cL<|And.intro @dQ<|And.intro @dI<|And.intro @gN<|And.intro @gD<|And.intro @fS<|And.intro @fJ<|And.intro @eQ<|And.intro @gA<|And.intro @iW<|And.intro @iY<|And.intro @iZ<|And.intro @iX<|And.intro @dB<|And.intro @bE<|And.intro @eD<|And.intro @xP<|And.intro @Vh<|And.intro @OX<|And.intro @Vd<|And.intro @MN<|And.intro @Vf<|And.intro @Vg<|And.intro @Gf<|And.intro @OV<|And.intro @MM<|And.intro @iT<|And.intro @gW<|And.intro @iQ<|And.intro @gC<|And.intro @iR<|And.intro @iS<|And.intro @bY<|And.intro @eY<|And.intro @iV<|And.intro @iL<|And.intro @dV<|And.intro @gZ<|And.intro @fH<|And.intro @kD<|And.intro @gX<|And.intro @iF<|And.intro @iU<|And.intro @OB<|And.intro @Sx<|And.intro @Sw<|And.intro @Ou<|And.intro @Ss<|And.intro @Mg<|And.intro @Su<|And.intro @Sv<|And.intro @fC<|And.intro @eR<|And.intro @fA<|And.intro @kE<|And.intro @fT<|And.intro @iB<|And.intro @iE<|And.intro @eX<|And.intro @jC<|And.intro @gY<|And.intro @dG<|And.intro @bQ<|And.intro @bL<|And.intro @cM<|And.intro @bT<|And.intro @fL<|And.intro @gJ<|And.intro @oF<|And.intro @xS<|And.intro @fR<|And.intro @kF<|And.intro @BB<|And.intro @heap_drew<|And.intro @size_drew<|And.intro @dT<|And.intro @size_alloc<|And.intro @dJ<|And.intro @fM<|And.intro @dH<|And.intro @cH<|And.intro @cP<|And.intro @cX<|And.intro @dF @cU
theorem wfx:type_of%Yq:=Yq
end
section
open Go Go.Eng Go.Vfs
variable{w:World}{K:Q0}{cs:List Value}{G:Nat->Prop}{T:TypeId}{i:Nat}{n:Nat}{v:Value}{w':World}{P:Program}{c:UInt8}{S:Nat->Prop}
theorem zA:qW P0 80 5 1 1:=⟨by kernel_rfl,by kernel_rfl,by decide⟩
theorem Cb[HX]{l:Str}{K:Q0}(h:Byt w T v l)(hl:l.length<=1000000000000)
  (hK:∀v' w',Byt w' 5 v' l->Ext w w'->K v' w'):aJ P0 57 [v] w K:=by
 refine XD ?_;unfold W57;obtain⟨p,cap,rfl,hcap,hnil,hcells⟩:=h;cases p with
 |none=>
  obtain⟨h0,_⟩:=hnil rfl;have:l=[]:=cW h0;subst this;simp only[eqW,Option.isNone_none,Bool.false_xor,dG];exact hK _ _ (SlAt.nil _ _) (Chg.refl _ _)
 |some a=>
  simp only[eqW,bQ,gO,jS];have hsrc:Byt (w.alloc (.cells ([]:List Value).toArray 5)) T (.slice (some a) l.length cap) l:=SlAt.ext ⟨_,_,rfl,hcap,hnil,hcells⟩ (by repeat (first|assumption|exact Chg.refl _ _|refine Chg.drew ?_|refine Chg.alloc ?_ _|refine Chg.set ?_ (by first|exact .inl rfl|exact .inr (by omega)|exact .inr (by simp only[dT,size_alloc,size_drew];omega)|(left;simp;done)) _|exact Chg.of_ext (by assumption)));have hown:=AK (w:=w) (base:=w.heap.size) (e:=5) (size:=1) (n:=0) (cs:=[]) (aZ _) rfl (by omega);refine DZ zA (base:=w.heap.size) hown hsrc (by simp[u8s]) (OR l) (by omega) (by omega) (by simp) ?_;intro v' w' hown hc _;have h1:=hown.sl;simp only[aI,gB]at h1;refine hK v' w' h1 (Chg.then (S:=λ_=>False) (T:=En _ w.heap.size 5) (by repeat (first|assumption|exact Chg.refl _ _|refine Chg.drew ?_|refine Chg.alloc ?_ _|refine Chg.set ?_ (by first|exact .inl rfl|exact .inr (by omega)|exact .inr (by simp only[dT,size_alloc,size_drew];omega)|(left;simp;done)) _|exact Chg.of_ext (by assumption))) hc ?_);intro k hk hs;exact absurd hs.1 (by omega)
end
section
open Go Go.Eng
variable{w:World}{K:Q0}{cs:List Value}{G:Nat->Prop}{T:TypeId}{i:Nat}{n:Nat}{v:Value}{w':World}{P:Program}{c:UInt8}{S:Nat->Prop}
theorem lN[HX]{g:FuncId}{args:Array Value}{K:Q0}(hr:∀(ar:Array Value) (w:World),(callFunc g ar).run P0 w=.ok (.enter g ar) w)
  (h:Calls P0 g args w λe w'=>∃v,e=.returned v/\K v w'):aJ P0 g args.toList w K:=by
 unfold aJ;rw[show args.toList.toArray=args from by simp,hr];refine h.mono ?_;rintro e w' ⟨v,rfl,hk⟩;exact hk
theorem NX(l:Str)(i:Nat):(ofL l).get! i=l.getD i 0:=by
 simp only[ofL,ByteArray.get!,bR];show(l.toArray)[i]! =_;simp only[List.getElem!_toArray,List.getElem!_eq_getElem?_getD];rfl
theorem FA(l:Str)(pos:Nat)(hp:pos<l.length):
  ((l.getD pos 0).toNat<128->Utf8.decode (ofL l) pos=((l.getD pos 0).toNat,1))/\
  (128<=(l.getD pos 0).toNat->128<=(Utf8.decode (ofL l) pos).1/\((Utf8.decode (ofL l) pos).1<55296\/(57344<=(Utf8.decode (ofL l) pos).1/\(Utf8.decode (ofL l) pos).1<=1114111))/\1<=(Utf8.decode (ofL l) pos).2/\
    pos+(Utf8.decode (ofL l) pos).2<=l.length/\∀k,pos<=k->k<pos+(Utf8.decode (ofL l) pos).2->128<=(l.getD k 0).toNat):=by
 have hd:=Lib.decode_at (ofL l) pos;rw[jV]at hd;simp only[NX]at hd;have hb:∀i,(l.getD i 0).toNat<256:=λi=>pJ _;have h0:=hb pos;have h1:=hb (pos+1);have h2:=hb (pos+2);have h3:=hb (pos+3);have hs:=Lib.decodeN_shape (l.length-pos) (l.getD pos 0).toNat (l.getD (pos+1) 0).toNat (l.getD (pos+2) 0).toNat (l.getD (pos+3) 0).toNat;rw[<-hd]at hs;have hasc:(l.getD pos 0).toNat<128->Utf8.decode (ofL l) pos=((l.getD pos 0).toNat,1):=λh=>by rw[hd];unfold Lib.decodeN;rw[aU h]
 refine⟨hasc,?_⟩;clear hasc;generalize Utf8.decode (ofL l) pos=d at*
 obtain⟨c,wd⟩:=d;clear hd hb;have one:∀k,pos<=k->k<pos+1->k=pos:=λk h1 h2=>by omega
 have two:∀k,pos<=k->k<pos+2->k=pos\/k=pos+1:=λk h1 h2=>by omega
 have three:∀k,pos<=k->k<pos+3->k=pos\/k=pos+1\/k=pos+2:=λk h1 h2=>by omega
 have four:∀k,pos<=k->k<pos+4->k=pos\/k=pos+1\/k=pos+2\/k=pos+3:=λk h1 h2=>by omega
 rcases hs with⟨ha,he⟩|⟨ha,hn,q1,q2,he⟩|⟨ha,hn,q1,q2,q3,q4,he⟩|⟨ha,hn,q1,q2,q3,q4,q5,he⟩|he<;>simp only[gS]at he<;>obtain⟨rfl,rfl⟩:=he
 ·exactλh=>by omega
 ·refineλh=>⟨q2,.inl (by omega),by omega,by omega,λk hk1 hk2=>?_⟩;rcases two k hk1 hk2 with rfl|rfl<;>omega
 ·refineλh=>⟨by omega,by omega,by omega,by omega,λk hk1 hk2=>?_⟩;rcases three k hk1 hk2 with rfl|rfl|rfl<;>omega
 ·refineλh=>⟨by omega,by omega,by omega,by omega,λk hk1 hk2=>?_⟩;rcases four k hk1 hk2 with rfl|rfl|rfl|rfl<;>omega
 ·refineλh=>⟨by omega,by omega,by omega,by omega,λk hk1 hk2=>?_⟩;rw[one k hk1 hk2];exact h
theorem EJ(hT:Tryz.prog.underlying T=some .string){l:Str}{K:Q0}
  (hK:K (.pointer (some ⟨w.heap.size,0,none⟩)) (w.alloc (.stringIter (ofL l) 0))):fY P0 (Instr.range T (str l)) w K:=by
 have hr:(Instr.range T (str l)).run P0 w=.ok (.pointer (some ⟨w.heap.size,0,none⟩)) (w.alloc (.stringIter (ofL l) 0)):=by
  simp[Instr.range,run_bind,cI hT,run_pure,newObj,Sem.run]
 unfold fY;rw[hr];exact hK
theorem HI{r pos:Nat}{l:Str}{K:Q0}(hw:w.heap[r]?=some (.stringIter (ofL l) pos))
  (h0:l.length<=pos->K (.tuple #[.bool false]) w)
  (h1:pos<l.length->∀w',w'.heap[r]?=some (.stringIter (ofL l) (pos+(Utf8.decode (ofL l) pos).2))->Chg (· =r) w w'->K (.tuple #[.bool true,i64 pos,.int .i32 (Utf8.decode (ofL l) pos).1]) w'):
  fY P0 (Instr.next (.pointer (some ⟨r,0,none⟩)) true T) w K:=by
 have hg:(getObj r).run P0 w=.ok (.stringIter (ofL l) pos) w:=by simp[getObj,Sem.run,hw]
 have hlt:r<w.heap.size:=(gH.1 hw).1;unfold fY;simp only[Instr.next,run_bind,hg,jV];by_cases hp:pos<l.length
 ·have hset:(setObj r (.stringIter (ofL l) (pos+(Utf8.decode (ofL l) pos).2))).run P0 w=.ok () {w with heap:=w.heap.setIfInBounds r (.stringIter (ofL l) (pos+(Utf8.decode (ofL l) pos).2))}:=by simp[setObj,Sem.run,hw]
  rw[aU hp];simp only[run_bind,hset,run_pure];exact h1 hp _ (by simp[hlt]) tF
 ·rw[aL hp];simp only[run_pure];exact h0 (by omega)
def rQ:Str:=[0,10,32]
theorem Dt[HX]{s:Str}{c:Int}{K:Q0}(hK:K (i64 (Lib.indexByte s c.toNat.toUInt8)) w):aJ P0 104 [str s,.int .u8 c] w K:=by
 refine lN (args:=#[str s,.int .u8 c]) Tryz.call104 ((Tryz.strings_IndexByte (ofL s) c w).mono ?_);rintro e w' ⟨rfl,rfl⟩;rw[jD];exact⟨_,rfl,hK⟩
theorem LX{c:Int}(h0:128<=c)(hv:c<55296\/(57344<=c/\c<=1114111)):∃l:Str,Utf8.encode c=ofL l/\2<=l.length/\l.length<=4/\∃b,l[l.length-1]?=some b/\128<=b.toNat:=by
 obtain⟨n,rfl⟩:=wY (show 0<=c by omega);have hval:Utf8.valid (n:Int)=true:=by
  simp only[Utf8.valid,gK,bU,fN];omega
 have last:∀m:Nat,128<=(UInt8.ofNat (0x80+m%64)).toNat:=by
  intro m;rw[El];omega
 unfold Utf8.encode;simp only[hval,qH,aV];rw[aL (by omega)];split
 ·exact⟨[_,_],rfl,by simp,by simp,_,rfl,last _⟩
 ·split
  ·exact⟨[_,_,_],rfl,by simp,by simp,_,rfl,last _⟩
  ·exact⟨[_,_,_,_],rfl,by simp,by simp,_,rfl,last _⟩
theorem Sg{k:IntKind}{c:Int}{K:Value->Prop}:Ma (.int k c) K↔K (.string (Utf8.encode c)):=iO
theorem NV(l:Str)(b:UInt8)(h:∀x∈l,x.toNat<128)(hb:128<=b.toNat):Lib.indexByte l b=-1:=by
 induction l with
 |nil=>rfl
 |cons x l ih=>
  have hx:=h x aW;have ih:=ih λy hy=>h y (aD _ hy);have hne:(x==b)=false:=by
   rw[beq_eq_false_iff_ne];intro e;subst e;omega
  simp[Lib.indexByte,hne,ih]
theorem RP(n:Nat)(hn:n<128):(0<=Lib.indexByte rQ (n.toUInt8)↔n=0\/n=10\/n=32):=by
 have:∀m:Fin 128,(0<=Lib.indexByte rQ (m.val.toUInt8)↔m.val=0\/m.val=10\/m.val=32):=by decide+kernel
 exact this ⟨n,hn⟩
theorem Jt[HX]{c:Int}{K:Q0}(h0:0<=c)(hv:c<55296\/(57344<=c/\c<=1114111))
  (hK:∀r:Int,∀w',(0<=r↔c=0\/c=10\/c=32)->Ext w w'->K (i64 r) w'):aJ P0 189 [str rQ,.int .i32 c] w K:=by
 refine Tj ?_;unfold ZD;simp(disch:=omega)only[wfx,kL,Nat.reduceLT,aO,aN,bV,aF,aH,aE,aA,Nat.reduceAdd,cV,reduceCtorEq,bW h0];refine GdW.t ?_;simp(disch:=omega)only[wfx,kL,Nat.reduceLT,aO,aN,bV,aF,aH,aE,aA,Nat.reduceAdd,cV,reduceCtorEq];intro g;by_cases hasc:c<128
 ·simp(disch:=omega)only[wfx,kL,Nat.reduceLT,aO,aN,bV,aF,aH,aE,aA,Nat.reduceAdd,cV,reduceCtorEq,bW hasc];refine Dt ?_;refine hK _ _ ?_ (Chg.refl _ _);have e1:IntKind.u8.wrap c=c:=by
   have e1:(2:Int)^8=256:=by decide
   simp only[IntKind.wrap,IntKind.bits,IntKind.signed,dM,e1];simp;omega
  rw[e1,RP c.toNat (by omega)];omega
 ·have hno:¬(c=0\/c=10\/c=32):=by omega
  simp(disch:=omega)only[wfx,kL,Nat.reduceLT,aO,aN,bV,aF,aH,aE,aA,Nat.reduceAdd,cV,reduceCtorEq,bH hasc,bD];refine⟨λhF=>?_,λhF=>?_⟩
  ·subst hF;refine EJ (by kernel_rfl) ?_;refine dL.go (λ_ w'=>∃pos,w'.heap[w.heap.size]?=some (.stringIter (ofL rQ) pos)/\pos<=3/\Ext w w') (λ_ w'=>match w'.heap[w.heap.size]? with|some (.stringIter _ pos)=>3-pos|_=>0) ?_ ?_
   ·exact⟨0,kF _ _ _ rfl,by omega,(by repeat (first|assumption|exact Chg.refl _ _|refine Chg.drew ?_|refine Chg.alloc ?_ _|refine Chg.set ?_ (by first|exact .inl rfl|exact .inr (by omega)|exact .inr (by simp only[dT,size_alloc,size_drew];omega)|(left;simp;done)) _|exact Chg.of_ext (by assumption)))⟩
   ·rintro s g w' ⟨pos,hw,hp,hx⟩;refine HI hw (λhle=>?_) (λhlt w1 hw1 hc=>?_)
    ·simp(disch:=omega)only[wfx,kL,Nat.reduceLT,aO,aN,bV,aF,aH,aE,aA,Nat.reduceAdd,cV,reduceCtorEq];exact hK (-1) _ (by omega) hx
    ·have hlt':pos<3:=hlt;have hd:Utf8.decode (ofL rQ) pos=((rQ.getD pos 0).toNat,1)/\(rQ.getD pos 0).toNat<128:=by
      have:(rQ.getD pos 0).toNat<128:=by
       rcases(show pos=0\/pos=1\/pos=2 by omega)with rfl|rfl|rfl<;>decide
      exact⟨(FA rQ pos hlt).1 this,this⟩
     have hne:¬(((Utf8.decode (ofL rQ) pos).1:Nat):Int)=65533:=by rw[hd.1];have:=hd.2;simp only;omega
     simp(disch:=omega)only[wfx,kL,Nat.reduceLT,aO,aN,bV,aF,aH,aE,aA,Nat.reduceAdd,cV,reduceCtorEq,bH hne];have hx1:Ext w w1:=Chg.then hx hc λk hk e=>by omega
     rw[hd.1]at hw1;refine⟨⟨_,hw1,by simp only;omega,hx1⟩,?_⟩;rw[hw1,hw];simp only;omega
  ·refine lN (args:=#[.int .i32 c]) Tryz.call215 ((Tryz.utf8_ValidRune c w).mono ?_);rintro e w' ⟨rfl,rfl⟩;have hvr:Lib.validRune c=true:=by simp only[Lib.validRune,fN];omega
   refine⟨_,rfl,?_⟩;rw[hvr];obtain⟨l,hl,hl2,hl4,b,hb,hb128⟩:=LX (show 128<=c by omega) hv;simp(disch:=omega)only[wfx,kL,Nat.reduceLT,aO,aN,bV,aF,aH,aE,aA,Nat.reduceAdd,cV,reduceCtorEq,Sg,hl];rw[gI (by omega) (by omega)];refine dL.go (λs w''=>s=[i64 ((l.length:Int)-1)]/\w''=w') (λ_ _=>0) ⟨rfl,rfl⟩ ?_;rintro s g w'' ⟨rfl,rfl⟩;simp(disch:=omega)only[wfx,kL,Nat.reduceLT,aO,aN,bV,aF,aH,aE,aA,Nat.reduceAdd,cV,reduceCtorEq,bD,show rQ.length=3 from rfl];refine⟨λh3=>?_,λ_=>hK (-1) _ (by omega) (Chg.refl _ _)⟩;refine dE.cut (λ_ _=>False) ?_ (λ_ _ _ h=>h.elim);have hi:((l.length:Int)-1).toNat=l.length-1:=by omega
   have hl23:l.length=2\/l.length=3:=by omega
   have hbyte:∀x:UInt8,x.toNat<128->¬((x.toNat:Int)=b.toNat):=λx hx e=>by omega
   have hd:∀k,Lib.indexByte (rQ.drop k) b=-1:=λk=>NV _ b (λx hx=>by
    have hx:=List.mem_of_mem_drop hx;simp only[rQ,bC,cA,gG]at hx;rcases hx with rfl|rfl|rfl<;>decide) hb128
   have hbb:((b.toNat:Int)).toNat.toUInt8=b:=by simp
   have fin:∀(x:UInt8) (k:Nat),x.toNat<128->k<=3->(¬((x.toNat:Int)=b.toNat)->aJ P0 104 [str (rQ.drop k),.int .u8 b.toNat] w''.drew.drew λt41 w12=>
     aS BinOp.lss t41 (Value.int IntKind.i64 0) λt43=>bB t43 (K (Value.int IntKind.i64 (-1)) w12) (aS BinOp.add t41 (Value.int IntKind.i64 1) λt46=>aS BinOp.add (i64 ((l.length:Int)-1)) t46 λt47=>False)):=by
    intro x k _ _ _;refine Dt ?_;rw[hbb,hd k];simp(disch:=omega)only[wfx,kL,Nat.reduceLT,aO,aN,bV,aF,aH,aE,aA,Nat.reduceAdd,cV,reduceCtorEq,bD];exact⟨λ_=>hK (-1) _ (by omega) (by repeat (first|assumption|exact Chg.refl _ _|refine Chg.drew ?_|refine Chg.alloc ?_ _|refine Chg.set ?_ (by first|exact .inl rfl|exact .inr (by omega)|exact .inr (by simp only[dT,size_alloc,size_drew];omega)|(left;simp;done)) _|exact Chg.of_ext (by assumption))),λh=>absurd (by decide) h⟩
   simp only[hi,hb];rcases hl23 with h2|h2
   ·simp only[h2]at*
    refine⟨by omega,10,rfl,by omega,b,rfl,λhne=>?_,λh=>h (hbyte 10 (by decide))⟩;simp(disch:=omega)only[wfx,kL,Nat.reduceLT,aO,aN,bV,aF,aH,aE,aA,Nat.reduceAdd,cV,reduceCtorEq];rw[show IntKind.i64.wrap (((2:Nat):Int)-1+1)=2 from by decide];exact⟨by decide,by decide,by decide,fin 10 2 (by decide) (by omega) hne⟩
   ·simp only[h2]at*
    refine⟨by omega,32,rfl,by omega,b,rfl,λhne=>?_,λh=>h (hbyte 32 (by decide))⟩;simp(disch:=omega)only[wfx,kL,Nat.reduceLT,aO,aN,bV,aF,aH,aE,aA,Nat.reduceAdd,cV,reduceCtorEq];rw[show IntKind.i64.wrap (((3:Nat):Int)-1+1)=3 from by decide];exact⟨by decide,by decide,by decide,fin 32 3 (by decide) (by omega) hne⟩
theorem LJ[HX]{l:Str}{K:Q0}(hl:l.length<=1000000)(hK:∀r:Int,∀w',(0<=r↔l.any Vfs.badB=true)->Ext w w'->K (i64 r) w'):aJ P0 145 [str l,str rQ] w K:=by
 by_cases h8:8<l.length
 ·refine lN (args:=#[str l,str rQ]) Tryz.call145 ((Tryz.strings_IndexAny_long (by intro w;kernel_rfl) (ofL l) (ofL rQ) w (by rw[jV];decide) (by rw[jV];exact h8) (by rw[jV];omega) (by rw[jV];decide) ?_).mono ?_)
  ·intro j b hb;rw[jD]at hb;have hm:=bI hb;simp only[rQ,bC,cA,gG]at hm;rcases hm with rfl|rfl|rfl<;>decide
  ·rintro e w' ⟨rfl,rfl⟩;rw[jD,jD];refine⟨_,rfl,hK _ _ ?_ (by repeat (first|assumption|exact Chg.refl _ _|refine Chg.drew ?_|refine Chg.alloc ?_ _|refine Chg.set ?_ (by first|exact .inl rfl|exact .inr (by omega)|exact .inr (by simp only[dT,size_alloc,size_drew];omega)|(left;simp;done)) _|exact Chg.of_ext (by assumption)))⟩;have key:∀m:Str,0<=Lib.indexAny m rQ↔m.any Vfs.badB=true:=by
    intro m;induction m with
    |nil=>simp[Lib.indexAny]
    |cons x m ih=>
     have hx:rQ.contains x=Vfs.badB x:=by simp[rQ,Vfs.badB,Bool.or_assoc,CE]
     simp only[Lib.indexAny,hx,List.any_cons];cases hb:Vfs.badB x with
     |true=>simp
     |false=>
      have hge:=Lib.indexAny_ge rQ m;simp only[mV,qY,dC,<-ih];by_cases h1:Lib.indexAny m rQ=-1
      ·simp[h1]
      ·rw[aL (by simpa using h1)];omega
   exact key l
 ·refine TP ?_;unfold aAf;simp(disch:=omega)only[wfx,kL,Nat.reduceLT,aO,aN,bV,aF,aH,aE,aA,Nat.reduceAdd,cV,reduceCtorEq,show(rQ=[])=False from by simp[rQ],show rQ.length=3 from rfl,show(((3:Nat):Int)=1)=False from by decide];refine dE.go ?_;refine lN (args:=#[i64 l.length]) Tryz.call190 ((Tryz.strings_shouldUseASCIISet l.length w).mono ?_);rintro e w' ⟨rfl,rfl⟩;refine⟨_,rfl,?_⟩;rw[bH (show¬(8<(l.length:Int))by omega)];simp(disch:=omega)only[wfx,kL,Nat.reduceLT,aO,aN,bV,aF,aH,aE,aA,Nat.reduceAdd,cV,reduceCtorEq];intro _;refine EJ (by kernel_rfl) ?_;refine dL.go (λ_ w1=>∃pos,w1.heap[w'.heap.size]?=some (.stringIter (ofL l) pos)/\pos<=l.length/\Ext w' w1/\(l.take pos).any Vfs.badB=false)
   (λ_ w1=>match w1.heap[w'.heap.size]? with|some (.stringIter _ pos)=>l.length-pos|_=>0) ?_ ?_
  ·exact⟨0,kF _ _ _ rfl,by omega,(by repeat (first|assumption|exact Chg.refl _ _|refine Chg.drew ?_|refine Chg.alloc ?_ _|refine Chg.set ?_ (by first|exact .inl rfl|exact .inr (by omega)|exact .inr (by simp only[dT,size_alloc,size_drew];omega)|(left;simp;done)) _|exact Chg.of_ext (by assumption))),rfl⟩
  ·rintro s g w1 ⟨pos,hw,hp,hx,hno⟩;refine HI hw (λhle=>?_) (λhlt w2 hw2 hc=>?_)
   ·simp(disch:=omega)only[wfx,kL,Nat.reduceLT,aO,aN,bV,aF,aH,aE,aA,Nat.reduceAdd,cV,reduceCtorEq];rw[iH hle]at hno;exact hK (-1) _ (by simp[hno]) hx
   ·have hx2:Ext w' w2:=Chg.then hx hc λk hk e=>by omega
    obtain⟨f1,f2⟩:=FA l pos hlt;have hget:l[pos]?=some (l.getD pos 0):=by simp[hlt]
    simp(disch:=omega)only[wfx,kL,Nat.reduceLT,aO,aN,bV,aF,aH,aE,aA,Nat.reduceAdd,cV,reduceCtorEq];have hcv:(((Utf8.decode (ofL l) pos).1:Nat):Int)<55296\/(57344<=(((Utf8.decode (ofL l) pos).1:Nat):Int)/\(((Utf8.decode (ofL l) pos).1:Nat):Int)<=1114111):=by
     by_cases h:(l.getD pos 0).toNat<128
     ·rw[f1 h];simp only;omega
     ·have:=(f2 (by omega)).2.1;omega
    refine Jt (by omega) hcv λr w3 hr hx3=>?_;simp(disch:=omega)only[wfx,kL,Nat.reduceLT,aO,aN,bV,aF,aH,aE,aA,Nat.reduceAdd,cV,reduceCtorEq,bD];have hbad:(((Utf8.decode (ofL l) pos).1:Nat):Int)=0\/(((Utf8.decode (ofL l) pos).1:Nat):Int)=10\/(((Utf8.decode (ofL l) pos).1:Nat):Int)=32->Vfs.badB (l.getD pos 0)=true:=by
     intro h;by_cases h1:(l.getD pos 0).toNat<128
     ·rw[f1 h1]at h;simp only at h;generalize l.getD pos 0=x at*
      have:∀y:UInt8,x.toNat=y.toNat->x=y:=λy e=>mL.1 e;rcases h with h|h|h
      ·rw[this 0 (by simp;omega)];rfl
      ·rw[this 10 (by simp;omega)];rfl
      ·rw[this 32 (by simp;omega)];rfl
     ·have:=(f2 (by omega)).1;omega
    have hx4:Ext w' w3:=hx2.trans hx3;refine⟨λh0=>hK pos _ ?_ hx4,λh0=>?_⟩
    ·refine⟨λ_=>?_,λ_=>by omega⟩;exact mU.2 ⟨_,bI hget,hbad (hr.1 h0)⟩
    ·have hle:pos+(Utf8.decode (ofL l) pos).2<=l.length/\1<=(Utf8.decode (ofL l) pos).2/\(l.take (pos+(Utf8.decode (ofL l) pos).2)).any Vfs.badB=false:=by
      by_cases h1:(l.getD pos 0).toNat<128
      ·rw[f1 h1]at hr⊢;simp only at hr⊢;refine⟨by omega,by omega,?_⟩;rw[List.take_succ_eq_append_getElem hlt,List.any_append,hno];have hxp:l[pos]=l.getD pos 0:=by simp[hlt]
       simp only[List.any_cons,List.any_nil,eH,dC,hxp];generalize l.getD pos 0=x at*
       cases hb:Vfs.badB x with
       |false=>rfl
       |true=>
        exfalso;simp only[Vfs.badB,gK,iK]at hb;refine h0 (hr.2 ?_);rcases hb with(rfl|rfl)|rfl
        ·exact .inl rfl
        ·exact .inr (.inl rfl)
        ·exact .inr (.inr rfl)
      ·obtain⟨_,_,g1,g2,g3⟩:=f2 (by omega);refine⟨g2,g1,?_⟩;rw[zL];intro y hy;obtain⟨k,hk⟩:=tP hy;rw[wV]at hk;split at hk
       ·rename_i hk2;by_cases hkp:k<pos
        ·have:=zL.1 hno y (bI (i:=k) (by rw[wV,aU hkp];exact hk));exact this
        ·have h5:=g3 k (by omega) hk2;have h6:l.getD k 0=y:=by simp[hk]
         rw[h6]at h5;intro hb;simp only[Vfs.badB,gK,iK]at hb;rcases hb with(rfl|rfl)|rfl<;>simp at h5
       ·cases hk
     have hw3:w3.heap[w'.heap.size]?=some (.stringIter (ofL l) (pos+(Utf8.decode (ofL l) pos).2)):=by
      rw[hx3.heap _ (gH.1 hw2).1 id];exact hw2
     refine⟨⟨_,hw3,hle.1,hx4,hle.2.2⟩,?_⟩;rw[hw3,hw];simp only;omega
theorem GI[HX]{l:Str}{K:Q0}(hl:l.length<=1000000)(hK:∀w',Ext w w'->K (.bool (l.any Vfs.badB)) w'):aJ P0 101 [str l,str rQ] w K:=by
 refine Ux ?_;unfold aAJ;refine LJ hl λr w' hr hx=>?_;simp(disch:=omega)only[wfx,kL,Nat.reduceLT,aO,aN,bV,aF,aH,aE,aA,Nat.reduceAdd,cV,reduceCtorEq];have:decide (0<=r)=l.any Vfs.badB:=by
  cases hb:l.any Vfs.badB with
  |true=>exact bW (hr.2 hb)
  |false=>exact bH λh=>by rw[hr.1 h]at hb;cases hb
 rw[this];exact hK w' hx
end
section
open Go Go.Eng Go.Vfs
variable{w:World}{K:Q0}{cs:List Value}{G:Nat->Prop}{T:TypeId}{i:Nat}{n:Nat}{v:Value}{w':World}{P:Program}{c:UInt8}{S:Nat->Prop}
abbrev sv(b:Bool):Int:=if b=true then 1 else 0
abbrev FT:TypeId:=133
abbrev UT:TypeId:=5
def wS(w:World)(v:Value)(x:MF):Prop:=
 ∃dp dc sp sc,v=.agg [.slice dp x.data.length dc,.slice sp x.safe.length sc,i64 (sv x.saved)].toArray/\Byt w UT (.slice dp x.data.length dc) x.data/\Byt w UT (.slice sp x.safe.length sc) x.safe
def Cf(w:World):Option Value->Option MF->Prop
 |none,none=>True
 |some v,some x=>wS w v x
 |_,_=>False
structure FsB(w:World)(b m:Nat)(s:MS):Prop where
 blk:w.heap[b]?=some (.cells #[.map (some m),i64 s.steps,i64 s.left,.bool s.dead] FT (0,0))
 fil:∃A,MapAt w m A/\A.length=s.files.length/\∀p,Cf w (lF A p) (lkM s.files p)
def Sep(w:World)(S:Nat->Prop):Prop:=∀k c fr,S k->w.heap[k]?≠some (.cells c UT fr)
theorem wS.chg{x:MF}(h:wS w v x)(hc:Chg S w w')(hs:Sep w S):wS w' v x:=by
 obtain⟨dp,dc,sp,sc,e,h1,h2⟩:=h;exact⟨dp,dc,sp,sc,e,h1.chg hc hs,h2.chg hc hs⟩
theorem Cf.chg{v:Option Value}{x:Option MF}(h:Cf w v x)(hc:Chg S w w')(hs:Sep w S):Cf w' v x:=by
 cases v<;>cases x<;>first|exact h|exact wS.chg h hc hs
theorem FsB.lt{b m:Nat}{s:MS}(h:FsB w b m s):b<w.heap.size:=(gH.1 h.blk).1
theorem FsB.mlt{b m:Nat}{s:MS}(h:FsB w b m s):m<w.heap.size:=by obtain⟨A,hA,_⟩:=h.fil;exact hA.lt
theorem FsB.ne{b m:Nat}{s:MS}(h:FsB w b m s):m≠b:=by obtain⟨A,hA,_⟩:=h.fil;exact hA.ne h.blk
theorem FsB.chg{b m:Nat}{s:MS}(h:FsB w b m s)(hc:Chg S w w')(hb:¬S b)(hm:¬S m)(hs:Sep w S):FsB w' b m s:=by
 obtain⟨A,hA,hl,hf⟩:=h.fil;exact⟨by rw[hc.heap b h.lt hb];exact h.blk,A,hA.chg hc hm,hl,λp=>(hf p).chg hc hs⟩
theorem Sep.none(w:World):Sep w (λ_=>False):=λ_ _ _ h=>h.elim
theorem FsB.ext{b m:Nat}{s:MS}(h:FsB w b m s)(hc:Ext w w'):FsB w' b m s:=h.chg hc id id (Sep.none w)
theorem FsB.sep{b m:Nat}{s:MS}(h:FsB w b m s):Sep w (λk=>k=b\/k=m):=by
 rintro k c fr (rfl|rfl) e
 ·rw[h.blk]at e;cases e
 ·obtain⟨A,⟨es,cl,hm,_⟩,_⟩:=h.fil;rw[hm]at e;cases e
theorem Byt.mut{b m:Nat}{s:MS}{l:Str}(h:Byt w T v l)(hf:FsB w b m s)(hc:Chg (λk=>k=b\/k=m) w w'):Byt w' T v l:=by
 obtain⟨p,cap,hv,h1,h2,h3⟩:=h;refine⟨p,cap,hv,h1,h2,λhne=>?_⟩;obtain⟨k,off,c,fr,e1,e2,e3⟩:=h3 hne;have hk:¬(k=b\/k=m):=by
  rintro(e|e)
  ·have hb:=hf.blk;rw[<-e,e2]at hb;cases hb;cases l with
   |nil=>exact hne rfl
   |cons x r=>
    have:=e3 0 (by simp[u8s]);rw[Cn]at this;simp only[bJ,bG,aH]at this;rcases off with _|_|_|_|off<;>simp at this
  ·obtain⟨A,⟨es,cl,hm,_⟩,_⟩:=hf.fil;rw[<-e,e2]at hm;cases hm
 exact⟨k,off,c,fr,e1,by rw[hc.heap k (gH.1 e2).1 hk];exact e2,e3⟩
abbrev zf:Value:=.agg [.slice none 0 0,.slice none 0 0,i64 0].toArray
abbrev df(o:Option MF):MF:=o.getD ⟨[],[],false⟩
theorem Yj(w:World):wS w zf ⟨[],[],false⟩:=⟨none,0,none,0,rfl,SlAt.nil _ _,SlAt.nil _ _⟩
theorem Cf.get{v:Option Value}{x:Option MF}(h:Cf w v x):wS w (v.getD zf) (df x)/\v.isSome=x.isSome:=by
 cases v<;>cases x<;>first|exact h.elim|exact⟨Yj w,rfl⟩|exact⟨h,rfl⟩
theorem BS{m:Nat}{A:List (Str×Value)}{p:Str}{ok:Bool}{K:Value->Prop}(h:MapAt w m A):
  pV P0 (Instr.lookup 131 (.map (some m)) (str p) ok) w K↔K (bif ok then .tuple #[(lF A p).getD zf,.bool (lF A p).isSome]else(lF A p).getD zf):=
 Fa (kt:=9) (et:=130) (by kernel_rfl) (by kernel_rfl) (z:=zf) (λw=>by kernel_rfl) h
theorem Gy{b m:Nat}{s:MS}{p:Str}{K:Value->Prop}(h:FsB w b m s)(hK:∀v,wS w v (df (lkM s.files p))->K (.tuple [v,.bool (lkM s.files p).isSome].toArray)):
  pV P0 (Instr.lookup 131 (.map (some m)) (str p) true) w K:=by
 obtain⟨A,hA,_,hf⟩:=h.fil;have:=(hf p).get;rw[BS hA,aO,this.2];exact hK _ this.1
theorem Nz{b m:Nat}{s:MS}{p:Str}{K:Value->Prop}(h:FsB w b m s)(hK:∀v,wS w v (df (lkM s.files p))->K v):
  pV P0 (Instr.lookup 131 (.map (some m)) (str p) false) w K:=by
 obtain⟨A,hA,_,hf⟩:=h.fil;have:=(hf p).get;rw[BS hA];exact hK _ this.1
theorem WE{b m:Nat}{s:MS}{K:Value->Prop}{ty:TypeId}(h:FsB w b m s)(hK:K (i64 s.files.length)):pV P0 (Builtin.len_ #[131] ty #[.map (some m)]) w K:=by
 obtain⟨A,hA,hl,_⟩:=h.fil;rw[WG (kt:=9) (et:=130) (by kernel_rfl) hA,hl];exact hK
theorem Ml{A:List (Str×Value)}{x y:Str}:lF (zH A x v) y=if y=x then some v else lF A y:=by
 induction A with
 |nil=>
  simp only[zH,lF];by_cases h:x=y
  ·simp[h]
  ·rw[aL h,aL (kG h)]
 |cons p r ih=>
  obtain⟨k,u⟩:=p;simp only[zH];by_cases h:k=x
  ·rw[aU h];simp only[lF];subst h;by_cases h2:k=y
   ·simp[h2]
   ·rw[aL h2,aL (kG h2),aL h2]
  ·rw[aL h];simp only[lF,ih];by_cases h2:k=y
   ·subst h2;simp[h]
   ·rw[aL h2,aL h2]
theorem Mm{A:List (Str×Value)}{x y:Str}(hn:(A.map (·.1)).Nodup):lF (wK A x) y=if y=x then none else lF A y:=by
 induction A with
 |nil=>simp[wK,lF]
 |cons p r ih=>
  obtain⟨k,u⟩:=p;have hr:=(dK.1 hn);simp only[wK];by_cases h:k=x
  ·subst h;rw[aU rfl];simp only[lF];by_cases h2:k=y
   ·subst h2;rw[aU rfl,Ec];exact hr.1
   ·rw[aL h2,aL (kG h2)]
  ·rw[aL h];simp only[lF,ih hr.2];by_cases h2:k=y
   ·subst h2;simp[h]
   ·rw[aL h2,aL h2]
theorem Eb{A:List (Str×Value)}{x:Str}:(lF A x).isSome=true↔x∈A.map (·.1):=by
 have:=Ec (A:=A) (x:=x);cases h:lF A x with
 |none=>simp[this.1 h]
 |some v=>rw[h]at this;simp only[cN,true_iff];exact lI λhn=>by cases this.2 hn
theorem OA{A:List (Str×Value)}{x:Str}:(zH A x v).length=if(lF A x).isSome=true then A.length else A.length+1:=by
 have h:=congrArg List.length (FU (A:=A) (x:=x) (v:=v));rw[fP]at h;rw[h];by_cases hx:x∈A.map (·.1)
 ·rw[aU hx,aU (Eb.2 hx),fP]
 ·rw[aL hx,aL (λe=>hx (Eb.1 e))];simp
theorem OD{A:List (Str×Value)}{x:Str}:(wK A x).length=if(lF A x).isSome=true then A.length-1 else A.length:=by
 induction A with
 |nil=>simp[wK,lF]
 |cons p r ih=>
  obtain⟨k,u⟩:=p;by_cases h:k=x
  ·simp[wK,lF,h]
  ·have e1:wK ((k,u)::r) x=(k,u)::wK r x:=by simp[wK,h]
   have e2:lF ((k,u)::r) x=lF r x:=by simp[lF,h]
   rw[e1,e2,aB,ih];split
   ·rename_i hs;have:r.length≠0:=λe=>by
     have:r=[]:=cW e;subst this;simp[lF]at hs
    simp only[aB];omega
   ·rfl
theorem Vu{b m:Nat}{s:MS}{p:Str}{x:MF}{K:World->Prop}(h:FsB w b m s)(hs:Srt s.files)(hv:wS w v x)
  (hK:∀w',FsB w' b m {s with files:=wth s.files p x}->Chg (λk=>k=b\/k=m) w w'->K w'):CQ P0 (Instr.mapUpdate 131 (.map (some m)) (str p) v) w K:=by
 obtain⟨A,hA,hl,hf⟩:=h.fil;refine Eu (kt:=9) (et:=130) (by kernel_rfl) (by kernel_rfl) hA λw' hA' hc=>?_;have hc':Chg (λk=>k=b\/k=m) w w':=hc.mono λk _ e=>.inr e;refine hK w' ⟨by rw[hc.heap b h.lt (kG h.ne)];exact h.blk,_,hA',?_,λq=>?_⟩ hc'
 ·show _=(wth s.files p x).length;rw[OA,JO hs,hl,((hf p).get).2]
 ·show Cf _ _ (lkM (wth s.files p x) q);rw[Ml,lk_wth];split
  ·exact hv.chg hc' h.sep
  ·exact(hf q).chg hc' h.sep
theorem WX{b m:Nat}{s:MS}{p:Str}{K:Q0}{ty:TypeId}(h:FsB w b m s)(hs:Srt s.files)
  (hK:∀w',FsB w' b m {s with files:=wo s.files p}->Chg (λk=>k=b\/k=m) w w'->K (.tuple #[]) w'):fY P0 (Builtin.delete_ #[131,9] ty #[.map (some m),str p]) w K:=by
 obtain⟨A,hA,hl,hf⟩:=h.fil;refine LZ (kt:=9) (et:=130) (by kernel_rfl) (by kernel_rfl) hA rfl λw' hA' hc=>?_;have hc':Chg (λk=>k=b\/k=m) w w':=hc.mono λk _ e=>.inr e;refine hK w' ⟨by rw[hc.heap b h.lt (kG h.ne)];exact h.blk,_,hA',?_,λq=>?_⟩ hc'
 ·show _=(wo s.files p).length;rw[OD,Mt hs,hl,((hf p).get).2]
 ·show Cf _ _ (lkM (wo s.files p) q);rw[Mm hA.nodup,UG];split
  ·trivial
  ·exact(hf q).chg hc' h.sep
theorem Fp[HX]{p:Str}{K:Q0}(hK:∀w',Ext w w'->K (.bool (good p)) w'):aJ P0 54 [str p] w K:=by
 refine XH ?_;unfold W54;by_cases h1:1<=p.length
 ·by_cases h2:p.length<=64
  ·have e1:decide ((1:Int)<=(p.length:Int))=true:=bW (by omega);have e2:decide ((p.length:Int)<=64)=true:=bW (by omega);simp(disch:=omega)only[wfx,kL,Nat.reduceLT,aO,aN,bV,aF,aH,aE,aA,Nat.reduceAdd,cV,reduceCtorEq,e1,e2];refine GdW.t ?_;simp(disch:=omega)only[wfx,kL,Nat.reduceLT,aO,aN,bV,aF,aH,aE,aA,Nat.reduceAdd,cV,reduceCtorEq,e2];intro g;refine GdW.t ?_;refine GI (by omega) λw' hx=>?_;simp(disch:=omega)only[wfx,kL,Nat.reduceLT,aO,aN,bV,aF,aH,aE,aA,Nat.reduceAdd,cV,reduceCtorEq];intro g;have:good p=!p.any badB:=by simp[good,h1,h2]
   rw[<-this];exact hK w' hx
  ·have e1:decide ((1:Int)<=(p.length:Int))=true:=bW (by omega);have e2:decide ((p.length:Int)<=64)=false:=bH (by omega);simp(disch:=omega)only[wfx,kL,Nat.reduceLT,aO,aN,bV,aF,aH,aE,aA,Nat.reduceAdd,cV,reduceCtorEq,e1,e2];refine GdW.t ?_;simp(disch:=omega)only[wfx,kL,Nat.reduceLT,aO,aN,bV,aF,aH,aE,aA,Nat.reduceAdd,cV,reduceCtorEq,e2];intro g;refine GdW.f λg=>?_
   (try simp(disch:=omega)only[wfx,kL,Nat.reduceLT,aO,aN,bV,aF,aH,aE,aA,Nat.reduceAdd,cV,reduceCtorEq])
   have:good p=false:=by simp[good,h2]
   rw[<-this];exact hK w (Chg.refl _ _)
 ·have e1:decide ((1:Int)<=(p.length:Int))=false:=bH (by omega);simp(disch:=omega)only[wfx,kL,Nat.reduceLT,aO,aN,bV,aF,aH,aE,aA,Nat.reduceAdd,cV,reduceCtorEq,e1];refine GdW.f λg=>?_
  (try simp(disch:=omega)only[wfx,kL,Nat.reduceLT,aO,aN,bV,aF,aH,aE,aA,Nat.reduceAdd,cV,reduceCtorEq])
  refine GdW.f λg=>?_
  (try simp(disch:=omega)only[wfx,kL,Nat.reduceLT,aO,aN,bV,aF,aH,aE,aA,Nat.reduceAdd,cV,reduceCtorEq])
  have:good p=false:=by simp[good,h1]
  rw[<-this];exact hK w (Chg.refl _ _)
theorem JX[HX]{b m:Nat}{s:MS}{K:Q0}(h:FsB w b m s)
  (hK:∀w',FsB w' b m (vstepM s).1->Chg (λk=>k=b\/k=m) w w'->K (i64 (vstepM s).2) w'):aJ P0 56 [.pointer (some ⟨b,0,none⟩)] w K:=by
 have hb:=h.blk;have hK':∀e st lf d w',vstepM s=(⟨s.files,st,lf,d⟩,e)->w'.heap[b]?=some (.cells #[.map (some m),i64 st,i64 lf,.bool d] FT (0,0))->Chg (· =b) w w'->K (i64 e) w':=by
  intro e st lf d w' he hb' hc;have:=hK w';rw[he]at this;obtain⟨A,hA,hl,hf⟩:=h.fil;have hc':Chg (λk=>k=b\/k=m) w w':=hc.mono λk _ e=>.inl e;exact this ⟨hb',A,hA.chg hc h.ne,hl,λp=>(hf p).chg hc' h.sep⟩ hc'
 clear hK h;obtain⟨fs,st,lf,d⟩:=s;refine XF ?_;unfold W56;simp(disch:=omega)only[wfx,kL,Nat.reduceLT,aO,aN,bV,aF,aH,aE,aA,Nat.reduceAdd,cV,reduceCtorEq,hb];refine GdW.meet [bif d then undef else .bool (decide (lf=0))] (λh=>?_) (λh=>?_) (λg=>?_)
 ·cases d<;>simp at h⊢
 ·cases d<;>simp at h⊢
 ·cases d with
  |true=>
   simp(disch:=omega)only[wfx,kL,Nat.reduceLT,aO,aN,bV,aF,aH,aE,aA,Nat.reduceAdd,cV,reduceCtorEq,hb,cZ];exact hK' 5 st lf true _ (by simp[vstepM]) (by simp(disch:=omega)only[wfx,kL,Nat.reduceLT,aO,aN,bV,aF,aH,aE,aA,Nat.reduceAdd,cV,reduceCtorEq,hb]) (by repeat (first|assumption|exact Chg.refl _ _|refine Chg.drew ?_|refine Chg.alloc ?_ _|refine Chg.set ?_ (by first|exact .inl rfl|exact .inr (by omega)|exact .inr (by simp only[dT,size_alloc,size_drew];omega)|(left;simp;done)) _|exact Chg.of_ext (by assumption)))
  |false=>
   simp(disch:=omega)only[wfx,kL,Nat.reduceLT,aO,aN,bV,aF,aH,aE,aA,Nat.reduceAdd,cV,reduceCtorEq,hb,cZ,bD];refine⟨λh0=>?_,λh0=>?_⟩
   ·exact hK' 5 st lf true _ (by simp[vstepM,h0]) (by simp(disch:=omega)only[wfx,kL,Nat.reduceLT,aO,aN,bV,aF,aH,aE,aA,Nat.reduceAdd,cV,reduceCtorEq,hb]) (by repeat (first|assumption|exact Chg.refl _ _|refine Chg.drew ?_|refine Chg.alloc ?_ _|refine Chg.set ?_ (by first|exact .inl rfl|exact .inr (by omega)|exact .inr (by simp only[dT,size_alloc,size_drew];omega)|(left;simp;done)) _|exact Chg.of_ext (by assumption)))
   ·refine dE.cut (λs w'=>w'.heap[b]?=some (.cells #[.map (some m),i64 st,i64 (if lf>0 then IntKind.i64.wrap (lf-1)else lf),.bool false] FT (0,0))/\Chg (· =b) w w') ?_ ?_
    ·refine⟨λh1=>⟨?_,(by repeat (first|assumption|exact Chg.refl _ _|refine Chg.drew ?_|refine Chg.alloc ?_ _|refine Chg.set ?_ (by first|exact .inl rfl|exact .inr (by omega)|exact .inr (by simp only[dT,size_alloc,size_drew];omega)|(left;simp;done)) _|exact Chg.of_ext (by assumption)))⟩,λh1=>⟨?_,Chg.refl _ _⟩⟩
     ·simp(disch:=omega)only[wfx,kL,Nat.reduceLT,aO,aN,bV,aF,aH,aE,aA,Nat.reduceAdd,cV,reduceCtorEq,hb];rw[aU h1]
     ·rw[hb,aL h1]
    ·rintro s g w' ⟨hb',hc⟩;simp(disch:=omega)only[wfx,kL,Nat.reduceLT,aO,aN,bV,aF,aH,aE,aA,Nat.reduceAdd,cV,reduceCtorEq,hb'];exact hK' 0 (IntKind.i64.wrap (st+1)) (if lf>0 then IntKind.i64.wrap (lf-1)else lf) false _ (by simp[vstepM,h0]) (by simp(disch:=omega)only[wfx,kL,Nat.reduceLT,aO,aN,bV,aF,aH,aE,aA,Nat.reduceAdd,cV,reduceCtorEq,hb']) (by repeat (first|assumption|exact Chg.refl _ _|refine Chg.drew ?_|refine Chg.alloc ?_ _|refine Chg.set ?_ (by first|exact .inl rfl|exact .inr (by omega)|exact .inr (by simp only[dT,size_alloc,size_drew];omega)|(left;simp;done)) _|exact Chg.of_ext (by assumption)))
theorem wS.shape{x:MF}(h:wS w v x):∃dp dc sp sc,v=.agg [.slice dp x.data.length dc,.slice sp x.safe.length sc,i64 (sv x.saved)].toArray:=by
 obtain⟨dp,dc,sp,sc,e,_⟩:=h;exact⟨dp,dc,sp,sc,e⟩
theorem Ph[HX]{b m:Nat}{s:MS}{p:Str}{dv:Value}{data:Str}{K:Q0}(h:FsB w b m s)(hd:Byt w T dv data)
  (hK:∀w',Ext w w'->K (.bool (decide ¬(data.length>65536\/(lkM s.files p=none/\64<=s.files.length)))) w'):aJ P0 55 [.pointer (some ⟨b,0,none⟩),str p,dv] w K:=by
 have hb:=h.blk;refine XG ?_;unfold W55;simp(disch:=omega)only[wfx,kL,Nat.reduceLT,aO,aN,bV,aF,aH,aE,aA,Nat.reduceAdd,cV,reduceCtorEq,hb];refine Gy h λv hv=>?_;obtain⟨dp,dc,sp,sc,rfl⟩:=hv.shape;have hd':=λw' (hx:Ext w w')=>SlAt.ext hd hx;simp(disch:=omega)only[wfx,kL,Nat.reduceLT,aO,aN,bV,aF,aH,aE,aA,Nat.reduceAdd,cV,reduceCtorEq,hb,eO hd];generalize hw1:(World.setCell _ _ _)=w1;have hx:Ext w w1:=by subst hw1;exact(by repeat (first|assumption|exact Chg.refl _ _|refine Chg.drew ?_|refine Chg.alloc ?_ _|refine Chg.set ?_ (by first|exact .inl rfl|exact .inr (by omega)|exact .inr (by simp only[dT,size_alloc,size_drew];omega)|(left;simp;done)) _|exact Chg.of_ext (by assumption)))
 have h1:=h.ext hx;have hb1:=h1.blk;clear hw1;by_cases c1:data.length<=65536
 ·have e1:decide ((data.length:Int)<=65536)=true:=bW (by omega);simp(disch:=omega)only[wfx,kL,Nat.reduceLT,aO,aN,bV,aF,aH,aE,aA,Nat.reduceAdd,cV,reduceCtorEq,e1];refine GdW.t ?_;intro g
  (try simp(disch:=omega)only[wfx,kL,Nat.reduceLT,aO,aN,bV,aF,aH,aE,aA,Nat.reduceAdd,cV,reduceCtorEq])
  cases c2:(lkM s.files p).isSome with
  |true=>
   (try simp(disch:=omega)only[wfx,kL,Nat.reduceLT,aO,aN,bV,aF,aH,aE,aA,Nat.reduceAdd,cV,reduceCtorEq])
   refine GdW.f λg=>?_
   (try simp(disch:=omega)only[wfx,kL,Nat.reduceLT,aO,aN,bV,aF,aH,aE,aA,Nat.reduceAdd,cV,reduceCtorEq])
   refine GdW.t ?_
   (try simp(disch:=omega)only[wfx,kL,Nat.reduceLT,aO,aN,bV,aF,aH,aE,aA,Nat.reduceAdd,cV,reduceCtorEq])
   intro g
   (try simp(disch:=omega)only[wfx,kL,Nat.reduceLT,aO,aN,bV,aF,aH,aE,aA,Nat.reduceAdd,cV,reduceCtorEq])
   have:(decide ¬(data.length>65536\/(lkM s.files p=none/\64<=s.files.length)))=true:=by
    refine bW ?_;rw[not_or];exact⟨by omega,λe=>by rw[e.1]at c2;cases c2⟩
   rw[<-this];exact hK _ hx
  |false=>
   (try simp(disch:=omega)only[wfx,kL,Nat.reduceLT,aO,aN,bV,aF,aH,aE,aA,Nat.reduceAdd,cV,reduceCtorEq])
   refine GdW.t ?_
   (try simp(disch:=omega)only[wfx,kL,Nat.reduceLT,aO,aN,bV,aF,aH,aE,aA,Nat.reduceAdd,cV,reduceCtorEq,hb1])
   refine WE h1 ?_
   (try simp(disch:=omega)only[wfx,kL,Nat.reduceLT,aO,aN,bV,aF,aH,aE,aA,Nat.reduceAdd,cV,reduceCtorEq,hb1])
   intro g
   (try simp(disch:=omega)only[wfx,kL,Nat.reduceLT,aO,aN,bV,aF,aH,aE,aA,Nat.reduceAdd,cV,reduceCtorEq])
   refine GdW.t ?_
   (try simp(disch:=omega)only[wfx,kL,Nat.reduceLT,aO,aN,bV,aF,aH,aE,aA,Nat.reduceAdd,cV,reduceCtorEq])
   intro g
   (try simp(disch:=omega)only[wfx,kL,Nat.reduceLT,aO,aN,bV,aF,aH,aE,aA,Nat.reduceAdd,cV,reduceCtorEq])
   have:(decide ¬(data.length>65536\/(lkM s.files p=none/\64<=s.files.length)))=decide ((s.files.length:Int)<64):=by
    have hn:lkM s.files p=none:=by cases hx:lkM s.files p with
     |none=>rfl
     |some _=>rw[hx]at c2;cases c2
    rw[decide_eq_decide,hn];simp only[dJ];omega
   rw[<-this];exact hK _ hx
 ·have e1:decide ((data.length:Int)<=65536)=false:=bH (by omega);simp(disch:=omega)only[wfx,kL,Nat.reduceLT,aO,aN,bV,aF,aH,aE,aA,Nat.reduceAdd,cV,reduceCtorEq,e1];refine GdW.f λg=>?_
  (try simp(disch:=omega)only[wfx,kL,Nat.reduceLT,aO,aN,bV,aF,aH,aE,aA,Nat.reduceAdd,cV,reduceCtorEq])
  have ea:isB undef false=false:=rfl
  (try simp(disch:=omega)only[wfx,kL,Nat.reduceLT,aO,aN,bV,aF,aH,aE,aA,Nat.reduceAdd,cV,reduceCtorEq,ea])
  refine GdW.f λg=>?_
  (try simp(disch:=omega)only[wfx,kL,Nat.reduceLT,aO,aN,bV,aF,aH,aE,aA,Nat.reduceAdd,cV,reduceCtorEq])
  refine GdW.f λg=>?_
  (try simp(disch:=omega)only[wfx,kL,Nat.reduceLT,aO,aN,bV,aF,aH,aE,aA,Nat.reduceAdd,cV,reduceCtorEq])
  have:(decide ¬(data.length>65536\/(lkM s.files p=none/\64<=s.files.length)))=false:=bH (λhn=>hn (.inl (by omega)));rw[<-this];exact hK _ hx
theorem GZ{s:MS}(h:Srt s.files):Srt (vstepM s).1.files:=by rw[tD];exact h
theorem Wx[HX]{K:Q0}(hK:∀b m w',FsB w' b m newM->Ext w w'->w.heap.size<=b->w.heap.size<=m->K (.pointer (some ⟨b,0,none⟩)) w'):aJ P0 47 [] w K:=by
 refine XM ?_;unfold W47;refine Ae λhm=>?_;simp(disch:=omega)only[wfx,kL,Nat.reduceLT,aO,aN,bV,aF,aH,aE,aA,Nat.reduceAdd,cV,reduceCtorEq];refine hK (w.heap.size+1) w.heap.size _ ?_ ?_ ?_ ?_
 ·refine⟨kF _ _ _ (by simp),[],hm.chg (S:=λ_=>False) (by repeat (first|assumption|exact Chg.refl _ _|refine Chg.drew ?_|refine Chg.alloc ?_ _|refine Chg.set ?_ (by first|exact .inl rfl|exact .inr (by omega)|exact .inr (by simp only[dT,size_alloc,size_drew];omega)|(left;simp;done)) _|exact Chg.of_ext (by assumption))) id,rfl,λp=>trivial⟩
 ·exact(by repeat (first|assumption|exact Chg.refl _ _|refine Chg.drew ?_|refine Chg.alloc ?_ _|refine Chg.set ?_ (by first|exact .inl rfl|exact .inr (by omega)|exact .inr (by simp only[dT,size_alloc,size_drew];omega)|(left;simp;done)) _|exact Chg.of_ext (by assumption)))
 ·omega
 ·omega
theorem Mq[HX]{b m:Nat}{s:MS}{p:Str}{dv:Value}{data:Str}{K:Q0}(h:FsB w b m s)(hs:Ok s)(hd:Byt w T dv data)
  (hK:∀w',FsB w' b m (writeM s p data false).1->Chg (λk=>k=b\/k=m) w w'->K (i64 (writeM s p data false).2) w'):aJ P0 23 [.pointer (some ⟨b,0,none⟩),str p,dv] w K:=by
 refine XW ?_;unfold W23;refine Fp λw1 hx1=>?_;have h1:=h.ext hx1;cases hg:good p with
 |false=>
  simp(disch:=omega)only[wfx,kL,Nat.reduceLT,aO,aN,bV,aF,aH,aE,aA,Nat.reduceAdd,cV,reduceCtorEq];have e:writeM s p data false=(s,6):=by simp[writeM,hg]
  rw[e]at hK;exact hK _ h1 (by repeat (first|assumption|exact Chg.refl _ _|refine Chg.drew ?_|refine Chg.alloc ?_ _|refine Chg.set ?_ (by first|exact .inl rfl|exact .inr (by omega)|exact .inr (by simp only[dT,size_alloc,size_drew];omega)|(left;simp;done)) _|exact Chg.of_ext (by assumption)))
 |true=>
  simp(disch:=omega)only[wfx,kL,Nat.reduceLT,aO,aN,bV,aF,aH,aE,aA,Nat.reduceAdd,cV,reduceCtorEq];refine Ph h1 (SlAt.ext hd hx1) λw2 hx2=>?_;have hx12:=hx1.trans hx2;have h2:=h.ext hx12;by_cases hr:data.length>65536\/(lkM s.files p=none/\64<=s.files.length)
  ·have er:(decide ¬(data.length>65536\/(lkM s.files p=none/\64<=s.files.length)))=false:=bH (λhn=>hn hr);rw[er];simp(disch:=omega)only[wfx,kL,Nat.reduceLT,aO,aN,bV,aF,aH,aE,aA,Nat.reduceAdd,cV,reduceCtorEq];have e:writeM s p data false=(s,3):=by unfold writeM;rw[aL (by simp[hg]),aU hr]
   rw[e]at hK;exact hK _ h2 (by repeat (first|assumption|exact Chg.refl _ _|refine Chg.drew ?_|refine Chg.alloc ?_ _|refine Chg.set ?_ (by first|exact .inl rfl|exact .inr (by omega)|exact .inr (by simp only[dT,size_alloc,size_drew];omega)|(left;simp;done)) _|exact Chg.of_ext (by assumption)))
  ·have er:(decide ¬(data.length>65536\/(lkM s.files p=none/\64<=s.files.length)))=true:=bW hr;rw[er];simp(disch:=omega)only[wfx,kL,Nat.reduceLT,aO,aN,bV,aF,aH,aE,aA,Nat.reduceAdd,cV,reduceCtorEq];refine JX h2 λw3 h3 hc3=>?_;have hc:Chg (λk=>k=b\/k=m) w w3:=Chg.then (S:=λk=>k=b\/k=m) (Chg.of_ext hx12) hc3 λk _ e=>e;by_cases hc0:(vstepM s).2≠0
   ·have e:writeM s p data false=vstepM s:=by unfold writeM;rw[aL (by simp[hg]),aL hr,aL (by simp),aU hc0]
    rw[e]at hK;have:decide ((vstepM s).2≠0)=true:=bW hc0;simp only[dQ,this,dG];exact hK _ h3 hc
   ·have:decide ((vstepM s).2≠0)=false:=bH hc0;simp only[dQ,this,bQ];have e:writeM s p data false=({(vstepM s).1 with files:=wth s.files p ⟨data,((lkM s.files p).map (·.safe)).getD [],((lkM s.files p).map (·.saved)).getD false⟩},0):=by
     unfold writeM;rw[aL (by simp[hg]),aL hr,aL (by simp),aL hc0]
    rw[e]at hK;have hb3:=h3.blk;simp(disch:=omega)only[wfx,kL,Nat.reduceLT,aO,aN,bV,aF,aH,aE,aA,Nat.reduceAdd,cV,reduceCtorEq,hb3];refine Nz h3 λv hv=>?_;rw[tD]at hv;have hv0:=hv;obtain⟨dp,dc,sp,sc,rfl,hv1,hv2⟩:=hv;simp(disch:=omega)only[wfx,kL,Nat.reduceLT,aO,aN,bV,aF,aH,aE,aA,Nat.reduceAdd,cV,reduceCtorEq,hb3];generalize hw4:(World.setCell (World.setCell (World.setCell _ _ _) _ _) _ _)=w4;have hx4:Ext w3 w4:=by subst hw4;exact(by repeat (first|assumption|exact Chg.refl _ _|refine Chg.drew ?_|refine Chg.alloc ?_ _|refine Chg.set ?_ (by first|exact .inl rfl|exact .inr (by omega)|exact .inr (by simp only[dT,size_alloc,size_drew];omega)|(left;simp;done)) _|exact Chg.of_ext (by assumption)))
    have hd4:Byt w4 T dv data:=SlAt.ext (Byt.mut hd h hc) hx4;have hbl:w4.heap[w3.heap.size]?=some (.cells #[.slice dp (df (lkM s.files p)).data.length dc,.slice sp (df (lkM s.files p)).safe.length sc,i64 (sv (df (lkM s.files p)).saved)] 130 (0,0)):=by
     subst hw4;simp(disch:=omega)only[wfx,kL,Nat.reduceLT,aO,aN,bV,aF,aH,aE,aA,Nat.reduceAdd,cV,reduceCtorEq,hb3]
    clear hw4;refine Cb hd4 (by omega) λv' w5 hv' hx5=>?_;obtain⟨cp,cc,rfl,_⟩:=hv'.shape;have hlt:w3.heap.size<w4.heap.size:=(gH.1 hbl).1;have hbl5:w5.heap[w3.heap.size]?=_:=(hx5.heap _ hlt id).trans hbl;have hx35:=hx4.trans hx5;have h5:=h3.ext hx35;have hb5:=h5.blk;have hne:b≠w3.heap.size:=Nat.ne_of_lt h3.lt;simp(disch:=omega)only[wfx,kL,Nat.reduceLT,aO,aN,bV,aF,aH,aE,aA,Nat.reduceAdd,cV,reduceCtorEq,hb5,hbl5];generalize hw6:(World.setCell _ _ _)=w6;have hx6:Ext w3 w6:=by subst hw6;exact(by repeat (first|assumption|exact Chg.refl _ _|refine Chg.drew ?_|refine Chg.alloc ?_ _|refine Chg.set ?_ (by first|exact .inl rfl|exact .inr (by omega)|exact .inr (by simp only[dT,size_alloc,size_drew];omega)|(left;simp;done)) _|exact Chg.of_ext (by assumption)))
    have hbl6:w6.heap[w3.heap.size]?=some (.cells #[.slice cp data.length cc,.slice sp (df (lkM s.files p)).safe.length sc,i64 (sv (df (lkM s.files p)).saved)] 130 (0,0)):=by
     subst hw6;simp(disch:=omega)only[wfx,kL,Nat.reduceLT,aO,aN,bV,aF,aH,aE,aA,Nat.reduceAdd,cV,reduceCtorEq,hbl5]
    have hv6:Byt w6 UT (.slice cp data.length cc) data:=by
     subst hw6;refine SlAt.chg (S:=λk=>k=w3.heap.size) hv' (Chg.set (S:=λk=>k=w3.heap.size) (Chg.refl _ _) (.inl rfl) _) ?_;rintro k c fr rfl e;rw[hbl5]at e;cases e
    have h6:=h3.ext hx6;have hb6:=h6.blk;clear hw6;have eS:((lkM s.files p).map (·.safe)).getD []=(df (lkM s.files p)).safe:=by cases lkM s.files p<;>rfl
    have eV:((lkM s.files p).map (·.saved)).getD false=(df (lkM s.files p)).saved:=by cases lkM s.files p<;>rfl
    rw[eS,eV]at hK;have hx7:Ext w6 w6.drew:=(by repeat (first|assumption|exact Chg.refl _ _|refine Chg.drew ?_|refine Chg.alloc ?_ _|refine Chg.set ?_ (by first|exact .inl rfl|exact .inr (by omega)|exact .inr (by simp only[dT,size_alloc,size_drew];omega)|(left;simp;done)) _|exact Chg.of_ext (by assumption)));refine Vu (x:=⟨data,(df (lkM s.files p)).safe,(df (lkM s.files p)).saved⟩) (h6.ext hx7) (GZ hs.srt) ⟨cp,cc,sp,sc,rfl,SlAt.ext hv6 hx7,SlAt.ext hv2 (hx6.trans hx7)⟩ λw8 h8 hc8=>?_;rw[tD]at h8;refine hK _ h8 (Chg.then (S:=λk=>k=b\/k=m) (Chg.then (S:=λk=>k=b\/k=m) hc (hx6.trans hx7) λ_ _ e=>e.elim) hc8 λ_ _ e=>e)
theorem Lc[HX]{b m:Nat}{s:MS}{w1:World}{KA KB:World->Prop}{e:Q0}(hx:Ext w w1)(h:FsB w1 b m s)
  (hA:(vstepM s).2≠0->∀w',FsB w' b m (vstepM s).1->Chg (λk=>k=b\/k=m) w w'->e (i64 (vstepM s).2) w')
  (hB:(vstepM s).2=0->∀w',FsB w' b m (vstepM s).1->Chg (λk=>k=b\/k=m) w w'->Chg (λk=>k=b\/k=m) w1 w'->KB w'):
  aJ P0 56 [.pointer (some ⟨b,0,none⟩)] w1 λt w'=>aS .neq t (.int .i64 0) λc=>bB c (e t w') (KB w'):=by
 refine JX h λw3 h3 hc3=>?_;have hc:Chg (λk=>k=b\/k=m) w w3:=Chg.then (S:=λk=>k=b\/k=m) (Chg.of_ext hx) hc3 λk _ e=>e;simp only[dQ,bD];exact⟨λh0=>hA h0 _ h3 hc,λh0=>hB (lI h0) _ h3 hc hc3⟩
theorem Lq[HX]{b m:Nat}{s:MS}{p:Str}{K:Q0}(h:FsB w b m s)(hs:Ok s)
  (hK:∀w',FsB w' b m (removeM s p).1->Chg (λk=>k=b\/k=m) w w'->K (i64 (removeM s p).2) w'):aJ P0 46 [.pointer (some ⟨b,0,none⟩),str p] w K:=by
 have hb:=h.blk;refine XN ?_;unfold W46;simp(disch:=omega)only[wfx,kL,Nat.reduceLT,aO,aN,bV,aF,aH,aE,aA,Nat.reduceAdd,cV,reduceCtorEq,hb];refine Gy h λv hv=>?_;obtain⟨dp,dc,sp,sc,rfl⟩:=hv.shape;simp(disch:=omega)only[wfx,kL,Nat.reduceLT,aO,aN,bV,aF,aH,aE,aA,Nat.reduceAdd,cV,reduceCtorEq,hb];generalize hw1:(World.setCell _ _ _)=w1;have hx:Ext w w1:=by subst hw1;exact(by repeat (first|assumption|exact Chg.refl _ _|refine Chg.drew ?_|refine Chg.alloc ?_ _|refine Chg.set ?_ (by first|exact .inl rfl|exact .inr (by omega)|exact .inr (by simp only[dT,size_alloc,size_drew];omega)|(left;simp;done)) _|exact Chg.of_ext (by assumption)))
 clear hw1;refine Fp λw2 hx2=>?_;have hx:=hx.trans hx2;have h1:=h.ext hx;unfold removeM at hK;cases hg:good p with
 |false=>
  simp(disch:=omega)only[wfx,kL,Nat.reduceLT,aO,aN,bV,aF,aH,aE,aA,Nat.reduceAdd,cV,reduceCtorEq];rw[aU hg]at hK;exact hK _ h1 (by repeat (first|assumption|exact Chg.refl _ _|refine Chg.drew ?_|refine Chg.alloc ?_ _|refine Chg.set ?_ (by first|exact .inl rfl|exact .inr (by omega)|exact .inr (by simp only[dT,size_alloc,size_drew];omega)|(left;simp;done)) _|exact Chg.of_ext (by assumption)))
 |true=>
  simp(disch:=omega)only[wfx,kL,Nat.reduceLT,aO,aN,bV,aF,aH,aE,aA,Nat.reduceAdd,cV,reduceCtorEq];rw[aL (by simp[hg])]at hK;cases hl:lkM s.files p with
  |none=>
   rw[hl]at hK
   (try simp only[Option.isSome_none])
   simp(disch:=omega)only[wfx,kL,Nat.reduceLT,aO,aN,bV,aF,aH,aE,aA,Nat.reduceAdd,cV,reduceCtorEq];exact hK _ h1 (by repeat (first|assumption|exact Chg.refl _ _|refine Chg.drew ?_|refine Chg.alloc ?_ _|refine Chg.set ?_ (by first|exact .inl rfl|exact .inr (by omega)|exact .inr (by simp only[dT,size_alloc,size_drew];omega)|(left;simp;done)) _|exact Chg.of_ext (by assumption)))
  |some x=>
   rw[hl]at hK
   (try simp only[cN])
   (try simp(disch:=omega)only[wfx,kL,Nat.reduceLT,aO,aN,bV,aF,aH,aE,aA,Nat.reduceAdd,cV,reduceCtorEq])
   refine Lc (KA:=λ_=>True) hx h1 (λh0 w' h' hc=>?_) (λh0 w' h' hc hc1=>?_)
   ·rw[show(if(vstepM s).2≠0 then vstepM s else({(vstepM s).1 with files:=wo s.files p},0))=vstepM s from aU h0]at hK;exact hK _ h' hc
   ·simp only[h0,cV,cP,qY]at hK;have hb':=h'.blk;simp(disch:=omega)only[wfx,kL,Nat.reduceLT,aO,aN,bV,aF,aH,aE,aA,Nat.reduceAdd,cV,reduceCtorEq,hb'];refine WX h' (GZ hs.srt) λw4 h4 hc4=>?_;rw[tD]at h4;exact hK _ h4 (Chg.then (S:=λk=>k=b\/k=m) hc hc4 λ_ _ e=>e)
theorem read_fs[HX]{b m:Nat}{s:MS}{p:Str}{K:Q0}(h:FsB w b m s)(hs:Ok s)
  (hK:∀dv w',Byt w' UT dv (df (lkM s.files p)).data->Ext w w'->K (.tuple [dv,.bool (lkM s.files p).isSome].toArray) w'):aJ P0 93 [.pointer (some ⟨b,0,none⟩),str p] w K:=by
 have hb:=h.blk;refine Xl ?_;unfold W93;simp(disch:=omega)only[wfx,kL,Nat.reduceLT,aO,aN,bV,aF,aH,aE,aA,Nat.reduceAdd,cV,reduceCtorEq,hb];refine Gy h λv hv=>?_;obtain⟨dp,dc,sp,sc,rfl,hv1,hv2⟩:=hv;simp(disch:=omega)only[wfx,kL,Nat.reduceLT,aO,aN,bV,aF,aH,aE,aA,Nat.reduceAdd,cV,reduceCtorEq,hb];generalize hw1:(World.setCell _ _ _)=w1;have hx:Ext w w1:=by subst hw1;exact(by repeat (first|assumption|exact Chg.refl _ _|refine Chg.drew ?_|refine Chg.alloc ?_ _|refine Chg.set ?_ (by first|exact .inl rfl|exact .inr (by omega)|exact .inr (by simp only[dT,size_alloc,size_drew];omega)|(left;simp;done)) _|exact Chg.of_ext (by assumption)))
 clear hw1;refine Cb (hv1.ext hx) ?_ λv' w' hv' hx'=>?_
 ·cases hl:lkM s.files p with
  |none=>simp
  |some x=>have:=(hs.each _ (lk_mem hl)).2.1;simp only[Option.getD_some]at this⊢;omega
 ·exact hK _ _ hv' (hx.trans hx')
end
end Go.Proofs.YtjblfcfdeaagpaaGreatDoor.Fx
namespace Go.Proofs
section
open Go.RowKit Go.Maps Go.Sort Go.Shelf
variable{w:World}{K:Q0}{cs:List Value}{G:Nat->Prop}{T:TypeId}{i:Nat}{n:Nat}{v:Value}{w':World}{P:Program}{c:UInt8}{S:Nat->Prop}
def Tryz.keys212_ren:Go.Shelf.Ren:=⟨λ|7=>212|10=>224|n=>n,λ|23=>252|26=>9|3=>3|28=>256|0=>0|27=>255|33=>44|4=>4|n=>n,λn=>n⟩
theorem Tryz.keys212:Go.Proofs.SlLaysZ.n7 P0 Tryz.keys212_ren:={
 mixed:=by kernel_rfl
 f7:=⟨Tryz.f212.name,eK (by kernel_rfl),Tryz.func212.trans (congrArg some (by kernel_rfl))⟩
 f10:=⟨Tryz.f224.name,eK (by kernel_rfl),Tryz.func224.trans (congrArg some (by kernel_rfl))⟩
 t0:=Tryz.underlying0
 a0:=Tryz.isAgg0
 z0:=Tryz.sizeOf0
 v0:=Tryz.zeroValue0
 t4:=Tryz.underlying4
 a4:=Tryz.isAgg4
 z4:=Tryz.sizeOf4
 v4:=Tryz.zeroValue4
 t23:=Tryz.underlying252
 a23:=Tryz.isAgg252
 z23:=Tryz.sizeOf252
 v23:=Tryz.zeroValue252
 t26:=Tryz.underlying9
 a26:=Tryz.isAgg9
 z26:=Tryz.sizeOf9
 v26:=Tryz.zeroValue9
 t27:=Tryz.underlying255
 a27:=Tryz.isAgg255
 z27:=Tryz.sizeOf255
 v27:=Tryz.zeroValue255
 t28:=Tryz.underlying256
 a28:=Tryz.isAgg256
 z28:=Tryz.sizeOf256
 v28:=Tryz.zeroValue256
 t33:=Tryz.underlying44
 a33:=Tryz.isAgg44
 z33:=Tryz.sizeOf44
 v33:=Tryz.zeroValue44}
def Tryz.sorted211_ren:Go.Shelf.Ren:=⟨λ|6=>211|8=>222|9=>223|11=>229|13=>231|12=>230|23=>254|24=>255|14=>245|15=>246|16=>247|17=>248|18=>249|19=>250|20=>251|21=>252|22=>253|25=>260|26=>261|27=>262|28=>263|29=>264|30=>265|31=>266|n=>n,λ|26=>9|28=>256|24=>33|0=>0|3=>3|37=>75|48=>224|50=>227|4=>4|40=>284|39=>283|45=>148|5=>5|9=>9|51=>292|55=>296|57=>298|58=>194|33=>44|n=>n,λn=>n⟩
theorem Tryz.sorted211:Go.Proofs.SlLaysZ.n6 P0 Tryz.sorted211_ren:={
 mixed:=by kernel_rfl
 f6:=⟨Tryz.f211.name,eK (by kernel_rfl),Tryz.func211.trans (congrArg some (by kernel_rfl))⟩
 f8:=⟨Tryz.f222.name,eK (by kernel_rfl),Tryz.func222.trans (congrArg some (by kernel_rfl))⟩
 f11:=⟨Tryz.f229.name,eK (by kernel_rfl),Tryz.func229.trans (congrArg some (by kernel_rfl))⟩
 t0:=Tryz.underlying0
 a0:=Tryz.isAgg0
 z0:=Tryz.sizeOf0
 v0:=Tryz.zeroValue0
 t24:=Tryz.underlying33
 a24:=Tryz.isAgg33
 z24:=Tryz.sizeOf33
 v24:=Tryz.zeroValue33
 t26:=Tryz.underlying9
 a26:=Tryz.isAgg9
 z26:=Tryz.sizeOf9
 v26:=Tryz.zeroValue9
 t28:=Tryz.underlying256
 a28:=Tryz.isAgg256
 z28:=Tryz.sizeOf256
 v28:=Tryz.zeroValue256
 i26:=by kernel_rfl}
def Tryz.sort223_ren:Go.Shelf.Ren:=⟨λ|6=>223|8=>231|9=>230|19=>254|20=>255|21=>245|22=>246|23=>247|24=>248|25=>249|26=>250|27=>251|28=>252|29=>253|36=>260|31=>261|32=>262|37=>263|38=>264|39=>265|41=>266|n=>n,λ|27=>33|29=>9|3=>3|32=>75|26=>33|0=>0|44=>224|46=>227|4=>4|36=>284|35=>283|41=>148|5=>5|9=>9|53=>292|57=>296|63=>298|64=>194|n=>n,λn=>n⟩
theorem Tryz.sort223:Go.Proofs.SlLaysM.n6 P0 Tryz.sort223_ren:={
 mixed:=by kernel_rfl
 f6:=⟨Tryz.f223.name,eK (by kernel_rfl),Tryz.func223.trans (congrArg some (by kernel_rfl))⟩
 f8:=Tryz.func231.trans (congrArg some (by kernel_rfl))
 f9:=⟨Tryz.f230.name,eK (by kernel_rfl),Tryz.func230.trans (congrArg some (by kernel_rfl))⟩
 f19:=Tryz.func254.trans (congrArg some (by kernel_rfl))
 f20:=Tryz.func255.trans (congrArg some (by kernel_rfl))
 f21:=⟨Tryz.f245.name,eK (by kernel_rfl),Tryz.func245.trans (congrArg some (by kernel_rfl))⟩
 f22:=⟨Tryz.f246.name,eK (by kernel_rfl),Tryz.func246.trans (congrArg some (by kernel_rfl))⟩
 f23:=⟨Tryz.f247.name,eK (by kernel_rfl),Tryz.func247.trans (congrArg some (by kernel_rfl))⟩
 f24:=⟨Tryz.f248.name,eK (by kernel_rfl),Tryz.func248.trans (congrArg some (by kernel_rfl))⟩
 f25:=⟨Tryz.f249.name,eK (by kernel_rfl),Tryz.func249.trans (congrArg some (by kernel_rfl))⟩
 f26:=⟨Tryz.f250.name,eK (by kernel_rfl),Tryz.func250.trans (congrArg some (by kernel_rfl))⟩
 f27:=⟨Tryz.f251.name,eK (by kernel_rfl),Tryz.func251.trans (congrArg some (by kernel_rfl))⟩
 f28:=⟨Tryz.f252.name,eK (by kernel_rfl),Tryz.func252.trans (congrArg some (by kernel_rfl))⟩
 f29:=⟨Tryz.f253.name,eK (by kernel_rfl),Tryz.func253.trans (congrArg some (by kernel_rfl))⟩
 f31:=Tryz.func261.trans (congrArg some (by kernel_rfl))
 f32:=Tryz.func262.trans (congrArg some (by kernel_rfl))
 f36:=⟨Tryz.f260.name,eK (by kernel_rfl),Tryz.func260.trans (congrArg some (by kernel_rfl))⟩
 f37:=⟨Tryz.f263.name,eK (by kernel_rfl),Tryz.func263.trans (congrArg some (by kernel_rfl))⟩
 f38:=⟨Tryz.f264.name,eK (by kernel_rfl),Tryz.func264.trans (congrArg some (by kernel_rfl))⟩
 f39:=⟨Tryz.f265.name,eK (by kernel_rfl),Tryz.func265.trans (congrArg some (by kernel_rfl))⟩
 f41:=⟨Tryz.f266.name,eK (by kernel_rfl),Tryz.func266.trans (congrArg some (by kernel_rfl))⟩
 t0:=Tryz.underlying0
 a0:=Tryz.isAgg0
 z0:=Tryz.sizeOf0
 v0:=Tryz.zeroValue0
 t3:=Tryz.underlying3
 a3:=Tryz.isAgg3
 z3:=Tryz.sizeOf3
 v3:=Tryz.zeroValue3
 t4:=Tryz.underlying4
 a4:=Tryz.isAgg4
 z4:=Tryz.sizeOf4
 v4:=Tryz.zeroValue4
 t5:=Tryz.underlying5
 a5:=Tryz.isAgg5
 z5:=Tryz.sizeOf5
 v5:=Tryz.zeroValue5
 t9:=Tryz.underlying9
 a9:=Tryz.isAgg9
 z9:=Tryz.sizeOf9
 v9:=Tryz.zeroValue9
 t26:=Tryz.underlying33
 a26:=Tryz.isAgg33
 z26:=Tryz.sizeOf33
 v26:=Tryz.zeroValue33
 t27:=Tryz.underlying33
 a27:=Tryz.isAgg33
 z27:=Tryz.sizeOf33
 v27:=Tryz.zeroValue33
 t29:=Tryz.underlying9
 a29:=Tryz.isAgg9
 z29:=Tryz.sizeOf9
 v29:=Tryz.zeroValue9
 t32:=Tryz.underlying75
 a32:=Tryz.isAgg75
 z32:=Tryz.sizeOf75
 v32:=Tryz.zeroValue75
 t35:=Tryz.underlying283
 a35:=Tryz.isAgg283
 z35:=Tryz.sizeOf283
 v35:=Tryz.zeroValue283
 t36:=Tryz.underlying284
 a36:=Tryz.isAgg284
 z36:=Tryz.sizeOf284
 v36:=Tryz.zeroValue284
 t41:=Tryz.underlying148
 a41:=Tryz.isAgg148
 z41:=Tryz.sizeOf148
 v41:=Tryz.zeroValue148
 t44:=Tryz.underlying224
 a44:=Tryz.isAgg224
 z44:=Tryz.sizeOf224
 v44:=Tryz.zeroValue224
 t46:=Tryz.underlying227
 a46:=Tryz.isAgg227
 z46:=Tryz.sizeOf227
 v46:=Tryz.zeroValue227
 t53:=Tryz.underlying292
 a53:=Tryz.isAgg292
 z53:=Tryz.sizeOf292
 v53:=Tryz.zeroValue292
 t57:=Tryz.underlying296
 a57:=Tryz.isAgg296
 z57:=Tryz.sizeOf296
 v57:=Tryz.zeroValue296
 t63:=Tryz.underlying298
 a63:=Tryz.isAgg298
 z63:=Tryz.sizeOf298
 v63:=Tryz.zeroValue298
 t64:=Tryz.underlying194
 a64:=Tryz.isAgg194
 z64:=Tryz.sizeOf194
 v64:=Tryz.zeroValue194}
theorem Tryz.sorts211(m:Nat):AnyZ.SortsIn P0 Tryz.sorted211_ren Fence.wide m:=
 ⟨λblk off cap ss W hH hblk hsz=>callsIn_wide.2 (AnyM.slices_Sort_string Tryz.sort223 blk off cap ss W hH hblk hsz),
  λp cap W=>callsIn_wide.2 (AnyM.slices_Sort_string_none Tryz.sort223 p cap W)⟩
theorem Tryz.maps_Keys_212(mb:Option Nat)(W:World):CallsIn Fence.wide 5 P0 212 #[.map mb] W λe w'=>e=.returned (.func (.func 224) #[] #[.pointer (some ⟨W.heap.size,0,none⟩)])/\w'=W.alloc (.cells #[.map mb] 252):=
 AnyZ.keys_in Tryz.keys212 Fence.wide 5 trivial rfl mb W
set_option maxHeartbeats 1000000 in
theorem Tryz.slices_Sorted_keys_211_212{H:Type}(b nn:Nat)(D0:DataW H)(R:Value->Option (DataW H×List MemPlace))(w:World)(hown:w.ownsMap P0 9 R b nn D0)(hmax:Maps.size D0<=maxLen)(hbytes:Maps.size D0*16<=140737488355328):
  CallsIn Fence.wide 5 P0 211 #[.func (.func 224) #[] #[.pointer (some ⟨w.heap.size,0,none⟩)]] (w.alloc (.cells #[.map (some b)] 252)) λe w'=>∃(v:Value) (ss:List (List UInt8)),e=.returned v/\ss.Perm (strKeys D0)/\
   w'.ownsRow (w.alloc (.cells #[.map (some b)] 252)).heap.size 9 1 v ss.length ((ss.mergeSort (λx y=>decide (x<=y))).map encStr)/\(v=.slice none 0 0↔ss=[])/\Below (w.alloc (.cells #[.map (some b)] 252)).heap.size (w.alloc (.cells #[.map (some b)] 252)) w':=by
 have hbl:=hown.lt;have hseq:SeqGives Fence.wide 2 P0 224 #[.pointer (some ⟨w.heap.size,0,none⟩)] encStr (λss=>ss.Perm (strKeys D0)) (Maps.size D0) (w.alloc (.cells #[.map (some b)] 252)):=
  AnyZ.keys_gives (ρ:=Tryz.keys212_ren) {Tryz.keys212 with} Fence.wide _ trivial rfl (by omega) w.heap.size b nn D0 _ (by simp) (by simp) (by
   obtain⟨es,clock,hb,Ft,hs,hD⟩:=hown;exact⟨es,clock,(Below.heap_alloc _ _ b hbl).trans hb,Ft,hs,hD⟩)
 exact AnyZ.sorted_in Tryz.sorted211 Fence.wide 5 trivial trivial trivial trivial rfl (by omega) (Tryz.sorts211 _) (enters_of Tryz.func223 (by kernel_rfl) rfl) 224 #[.pointer (some ⟨w.heap.size,0,none⟩)] trivial (enters_of Tryz.func224 (by kernel_rfl) rfl) _ _ hmax hbytes _ hseq
end
end Go.Proofs
namespace Go.Proofs.YtjblfcfdeaagpaaGreatDoor.Fx
section
open Go Go.Eng Go.Vfs Go.Maps
variable{w:World}{K:Q0}{cs:List Value}{G:Nat->Prop}{T:TypeId}{i:Nat}{n:Nat}{v:Value}{w':World}{P:Program}{c:UInt8}{S:Nat->Prop}
def IE:Value->Option (DataW Unit×List MemPlace):=λ_=>some (.nil,[])
theorem owns_of_map{m:Nat}{A:List (Str×Value)}(h:MapAt w m A)(hl:∀x∈A.map (·.1),x.length<=maxLen)(hs:A.length<=maxLen):
  ∃D:DataW Unit,w.ownsMap P0 9 IE m A.length D/\(strKeys D).Perm (A.map (·.1))/\Maps.size D=A.length:=by
 obtain⟨es,clock,hb,he,hn,hborn,hclk⟩:=h;have hlen:es.toList.length=A.length:=by simpa using congrArg List.length he
 have hkeys:es.toList.map (·.key)=A.map (λp=>str p.1):=by
  have:=congrArg (List.map Prod.fst) he;simpa[uJ,Function.comp_def]using this
 have hrd:∀x∈es.toList,∃l:Str,x.key=str l/\l∈A.map (·.1)/\WideElems.rd P0 9 IE x=some (.string l,.nil):=by
  intro x hx;have:x.key∈A.map (λp=>str p.1):=by rw[<-hkeys];exact List.mem_map_of_mem hx
  obtain⟨p,hp,e⟩:=gE.1 this;have hm:p.1∈A.map (·.1):=List.mem_map_of_mem hp;refine⟨p.1,e.symm,hm,?_⟩;have hkm:=WideMaps.keyOf_string_mk (P:=P0) (k:=9) (by kernel_rfl) (s:=ofL p.1) (by rw[jV];exact hl _ hm);rw[jD]at hkm;unfold WideElems.rd;rw[<-e,hkm];rfl
 have hsz:es.size=A.length:=by simpa using hlen
 refine⟨.map ((es.toList.map (WideElems.rg P0 9 IE)).foldr DataW.insert []),⟨es,clock,hb,⟨by omega,⟨hclk,hborn,?_⟩,λx hx=>?_⟩,by omega,rfl⟩,?_,?_⟩
 ·rw[hkeys];have:(A.map (λp=>str p.1))=(A.map (·.1)).map str:=by rw[uJ];rfl
  rw[this];refine List.Pairwise.map _ (λa b hab e=>hab ?_) hn;exact JU.1 e
 ·obtain⟨l,_,_,hl⟩:=hrd x hx;exact⟨_,hl⟩
 ·show(((es.toList.map (WideElems.rg P0 9 IE)).foldr DataW.insert []).map λp=>strOf p.1).Perm _;refine((WideShapes.sorted_perm _).map _).trans ?_;rw[uJ];have:es.toList.map ((λp:Lit×DataW Unit=>strOf p.1)∘WideElems.rg P0 9 IE)=A.map (·.1):=by
   have h2:(es.toList.map ((λp:Lit×DataW Unit=>strOf p.1)∘WideElems.rg P0 9 IE)).map str=(A.map (·.1)).map str:=by
    rw[uJ,uJ];have h3:es.toList.map (str∘((λp:Lit×DataW Unit=>strOf p.1)∘WideElems.rg P0 9 IE))=es.toList.map (·.key):=by
     refine List.map_congr_left λx hx=>?_;obtain⟨l,h1,_,h3⟩:=hrd x hx;simp only[Function.comp_apply,WideElems.rg_of h3,strOf];exact h1.symm
    rw[h3,hkeys];rfl
   exact(List.map_inj_right (λa b e=>JU.1 e)).1 h2
  rw[this]
 ·show((es.toList.map (WideElems.rg P0 9 IE)).foldr DataW.insert []).length=_;rw[(WideShapes.sorted_perm _).length_eq,fP,hlen]
end
end Go.Proofs.YtjblfcfdeaagpaaGreatDoor.Fx
namespace Go.Proofs.YtjblfcfdeaagpaaGreatDoor
section
open Go Go.Eng Go.RowKit Go.Syn Go.Lex Go.Cfg
variable{w:World}{K:Q0}{cs:List Value}{G:Nat->Prop}{T:TypeId}{i:Nat}{n:Nat}{v:Value}{w':World}{P:Program}{c:UInt8}{S:Nat->Prop}
structure ChA(fl:Fl):Prop where
 lt:∀(i:Nat) (e:Ex),fl.ex[i]?=some e->∀a∈e.args,a<i
 one:∀e∈fl.ex,e.k=10->1<=e.args.length
 few:∀e∈fl.ex,e.args.length<=1000000/\e.t.length<=100000
theorem ChA.arg{fl:Fl}(h:ChA fl)(hi:i<fl.ex.length)(hk:(lH fl i).k=10):(lH fl i).args.getD 0 0<i/\(lH fl i).args[0]?=some ((lH fl i).args.getD 0 0):=by
 have hg:=tN hi;have h1:=h.one _ (bI hg) hk;obtain⟨a,ha⟩:∃a,(lH fl i).args[0]?=some a:=⟨_,aG (by omega)⟩;have e:(lH fl i).args.getD 0 0=a:=by rw[bR,ha];rfl
 rw[e];exact⟨h.lt i _ hg a (bI ha),ha⟩
theorem JF{fl:Fl}(h:ChA fl):∀(n m i:Nat) (s:Str),i<fl.ex.length->i<n->i<m->qU fl n i s=qU fl m i s:=by
 intro n;induction n with
 |zero=>intro m i s _ h1;omega
 |succ n ih=>
  intro m i s hi h1 h2;obtain⟨m,rfl⟩:∃q,m=q+1:=⟨m-1,by omega⟩;simp only[qU];by_cases hk:(lH fl i).k=10
  ·rw[aU hk,aU hk];have:=(h.arg hi hk).1;exact ih m _ _ (by omega) (by omega) (by omega)
  ·rw[aL hk,aL hk]
theorem DJ{fl:Fl}:∀(n i:Nat) (s t:Str),(qU fl n i s).isSome=(qU fl n i t).isSome
 |0,_,_,_=>rfl
 |n+1,i,s,t=>by
  simp only[qU]
  split
  ·exact DJ n _ _ _
  ·split<;>rfl
theorem FC{fl:Fl}(h:ChA fl):∀(n i:Nat) (s t:Str),i<fl.ex.length->i<n->qU fl n i s=some t->t.length<=s.length+(i+1)*100001
 |0,_,_,_,_,_,e=>by cases e
 |n+1,i,s,t,hi,hn,e=>by
  have hf:=(h.few _ (bI (tN hi))).2
  simp only[qU]at e
  split at e
  ·rename_i hk
   have ha:=(h.arg hi hk).1
   have:=FC h n _ _ t (by omega) (by omega) e
   have hm:((lH fl i).args.getD 0 0+1)*100001<=i*100001:=fB _ (by omega)
   simp only[aB,aP]at this
   rw[mM]
   omega
  ·split at e
   ·injection e with e
    subst e
    rw[aP,mM]
    omega
   ·cases e
abbrev FlV(M:Lay):Value:=.agg [M.vE,M.vB,M.vT].toArray
abbrev aAK:TypeId:=252
theorem Ny{m:Nat}{A:List (Str×Value)}{p:Str}{K:Value->Prop}(h:MapAt w m A):pV P0 (Instr.lookup aAK (.map (some m)) (str p) false) w K↔K ((lF A p).getD (i64 0)):=
 Fa (kt:=9) (et:=3) (by kernel_rfl) (by kernel_rfl) (z:=i64 0) (λw=>by kernel_rfl) h
theorem Nc{m:Nat}{A:List (Str×Value)}{x:Str}{K:World->Prop}(h:MapAt w m A)(hK:∀w',MapAt w' m (zH A x v)->Chg (· =m) w w'->K w'):CQ P0 (Instr.mapUpdate aAK (.map (some m)) (str x) v) w K:=
 Eu (kt:=9) (et:=3) (by kernel_rfl) (by kernel_rfl) h hK
section
variable [HX]
variable{w:World}{B:Nat}{M:Lay}{fl:Fl}{K:Q0}
theorem Sl(hF:FO w B M fl)(hA:ChA fl)(hi:i<fl.ex.length)(hK:∀w',Ext w w'->K (.bool (BG fl i).isSome) w'):aJ P0 181 [FlV M,i64 (i:Nat)] w K:=by
 refine Ts ?_;unfold ZL;refine fZ λb w1 hb hz hbb hx=>?_;have hF1:=hF.keep hx λ_ _ _ _ e=>e;refine dL.go (λst w'=>w'=w1/\∃j:Nat,st=[i64 (j:Nat)]/\j<fl.ex.length/\(qU fl (j+1) j []).isSome=(BG fl i).isSome) (λst _=>match st with|[.int _ j]=>j.toNat|_=>0) ⟨rfl,i,rfl,hi,rfl⟩ ?_;rintro st g w2 ⟨rfl,j,rfl,hj,hs⟩;simp only[aC];obtain⟨ua,uk,eu,hu,_⟩:=wZ hF1 hj;rw[bE,bL,aI];refine ldb hbb (v:=M.vE) rfl ?_;refine AF hF1.oE.sl hF1.ee.1 hj eu (by omega) rfl ?_;simp only[qU]at hs;rw[cL,bD];refine⟨λhk=>?_,λhk=>?_⟩
 ·rw[aU hk]at hs;obtain⟨a1,a2⟩:=hA.arg hj hk;rw[bE,bL,aI];refine ldb hbb (v:=M.vE) rfl ?_;refine AF hF1.oE.sl hF1.ee.1 hj eu (by omega) (u:=ua) rfl ?_;refine mR (i:=0) (x:=i64 (((lH fl j).args.getD 0 0:Nat):Int)) hu.sl (by rw[tL];omega) (by unfold ints;rw[fO,a2];rfl) ?_;refine⟨⟨trivial,_,rfl,by omega,?_⟩,by simp only[aV];exact a1⟩;rw[<-hs,JF hA _ j _ _ (by omega) (by omega) (by omega)];exact DJ _ _ _ _
 ·rw[aL hk]at hs;rw[bE,bL,aI];refine ldb hbb (v:=M.vE) rfl ?_;refine AF hF1.oE.sl hF1.ee.1 hj eu (by omega) rfl ?_;rw[cL];have:=hK w2 hx;rw[<-hs]at this;by_cases h9:(lH fl j).k=9
  ·rw[bW h9];rw[aU h9]at this;exact this
  ·rw[bH h9];rw[aL h9]at this;exact this
theorem UZ:∀(n i:Nat) (s t:Str) {w:World} {K:Q0} {mb mf:Nat},FO w B M fl->ChA fl->i<fl.ex.length->i<n->s.length<=100000000000*(100000-i)->fl.ex.length<=100000->qU fl n i s=some t->MapAt w mb []->MapAt w mf []->
  (∀w',MapAt w' mf [(t,i64 1)]->Chg (One mf) w w'->K (.tuple #[]) w')->aJ P0 210 [FlV M,i64 (i:Nat),str s,.map (some mb),.map (some mf)] w K:=by
 intro n;induction n with
 |zero=>intro i s t w K mb mf _ _ _ h;omega
 |succ n ih=>
  intro i s t w K mb mf hF hA hi hn hs hfew he hb hf hK;refine SY ?_;unfold Zw;refine fZ λb5 w1 hb5 hz1 hbb5 hx1=>?_;have hF1:=hF.keep hx1 λ_ _ _ _ e=>e;obtain⟨ua,uk,eu,hu,_⟩:=wZ hF1 hi;have hft:=(hA.few _ (bI (tN hi))).2;rw[bE,bL,aI];refine ldb hbb5 (v:=M.vE) rfl ?_;refine lZ hF1.oE.sl hF1.ee.1 (by omega) hi ?_;have eu':(M.cE.drop (i*5)).take 5=_:=eu;rw[eu'];refine cK λb10 w2 hb10 hz2 hbb10 hx2=>?_;obtain⟨q1,c1,e1,_⟩:=hu.sl.shape;have h1:jM ua=true:=by rw[e1];rfl
  have h2:jM uk=true:=by
   obtain⟨_,_,_,_,h3⟩:=wZ hF1 hi;rename_i va vk e0 _;rw[eu]at e0;simp only[gP]at e0;rw[e0.2.2.2.1];exact fV h3.sl
  refine cY (l:=[i64 (lH fl i).k,str (lH fl i).t,ua,uk,i64 (lH fl i).a]) hbb10 rfl rfl (by show(true&&(true&&(jM ua&&(jM uk&&(true&&true)))))=true;rw[h1,h2];rfl) λw3 hz3 hbb10 hc3=>?_;have hx3:Ext w w3:=hx1.trans (hx2.new hc3 (by omega));have hF3:=hF.keep hx3 λ_ _ _ _ e=>e;have hb3:=hb.chg hx3 id;have hf3:=hf.chg hx3 id;have hbb5':w3.heap[b5]?=some (.cells [M.vE,M.vB,M.vT].toArray 28 (0,0)):=hc3.at (hx2.at hbb5 id) (by omega);simp only[bE,bL,aI];refine ldb hbb10 (v:=i64 (lH fl i).k) rfl ?_;simp only[qU]at he;rw[cL,bD];by_cases h10:(lH fl i).k=10
  ·rw[aU h10]at he;obtain⟨a1,a2⟩:=hA.arg hi h10;refine⟨λh9=>by rw[h10]at h9;exact absurd h9 (by decide),λ_=>?_⟩;rw[cL,bD];refine⟨λ_=>?_,λhne=>absurd h10 hne⟩;have hbb5'':w3.drew.heap[b5]?=some (.cells [M.vE,M.vB,M.vT].toArray 28 (0,0)):=hbb5';have hbb10':w3.drew.heap[b10]?=some (.cells [i64 (lH fl i).k,str (lH fl i).t,ua,uk,i64 (lH fl i).a].toArray 35 (0,0)):=hbb10;refine gF hbb5'' rfl ?_;refine ldb hbb10' (v:=ua) rfl ?_;have hu3:=(hu.sl.ext hx2);have hu4:SlAt w3.drew jY ua (lH fl i).args.length (ints (lH fl i).args):=by
    obtain⟨va',vk',e0,g1,_⟩:=wZ hF3 hi;rw[eu]at e0;simp only[gP]at e0;rw[e0.2.2.1];exact g1.sl
   refine mR (i:=0) (x:=i64 (((lH fl i).args.getD 0 0:Nat):Int)) hu4 (by rw[tL];omega) (by unfold ints;rw[fO,a2];rfl) ?_;refine ldb hbb10' (v:=str (lH fl i).t) rfl ?_;have hsl:s.length<=10000000000000000:=dR hs (Nat.mul_le_mul_left _ (by omega:100000-i<=100000));rw[fJ];refine⟨by simp only[aB,aK];show(_:Int)<=9223372036854775807;omega,?_⟩;rw[fJ];refine⟨by simp only[aB,aK,aP];show(_:Int)<=9223372036854775807;omega,?_⟩;refine ih ((lH fl i).args.getD 0 0) (46::((lH fl i).t++s)) t (hF3.keep (cQ w3) λ_ _ _ _ e=>e) hA (by omega) (by omega) ?_ hfew he (hb3.chg (cQ w3) id) (hf3.chg (cQ w3) id) λw' hm hc=>?_
   ·simp only[aB,aP];have hd:100000-i+1<=100000-(lH fl i).args.getD 0 0:=by omega
    have:=Nat.mul_le_mul_left 100000000000 hd;rw[Nat.mul_add]at this;omega
   ·refine hK w' hm ?_;exact(Chg.of_ext (hx3.trans (cQ w3))).trans hc
  ·rw[aL h10]at he;split at he
   ·rename_i h9;injection he with he
    refine⟨λ_=>?_,λhne=>absurd h9 hne⟩;refine ldb hbb10 (v:=str (lH fl i).t) rfl ?_;rw[Ny hb3];show aS .eql (i64 0) (i64 0) _;rw[cL,bD];refine⟨λ_=>?_,λhne=>absurd rfl hne⟩;refine ldb hbb10 (v:=str (lH fl i).t) rfl ?_;have hsl:s.length<=10000000000000000:=dR hs (Nat.mul_le_mul_left _ (by omega:100000-i<=100000));rw[fJ];refine⟨by show(_:Int)<=9223372036854775807;omega,?_⟩;refine Nc hf3 λw4 hm hc=>?_;rw[he]at hm;exact hK w4 hm ((Chg.of_ext hx3).trans hc)
   ·cases he
theorem Vt{t:Str}(hF:FO w B M fl)(hA:ChA fl)(hi:i<fl.ex.length)(hfew:fl.ex.length<=100000)(he:BG fl i=some t)(hK:∀v w',SlAt w' StT v 1 (strs [t])->Ext w w'->K v w'):aJ P0 182 [FlV M,i64 (i:Nat)] w K:=by
 refine Tr ?_;unfold ZK;refine fZ λb w1 hb hz1 hbb hx1=>?_;refine Ae λhm6=>?_;generalize hw2:w1.alloc (.map #[] 0)=w2 at*
 have hx2:Ext w1 w2:=by rw[<-hw2];exact Chg.alloc (Chg.refl _ _) _
 have hz2:w2.heap.size=w1.heap.size+1:=by rw[<-hw2];simp
 generalize hf:w1.heap.size=f at*
 refine gF (hx2.at hbb id) rfl ?_;refine Ae λhm9=>?_;generalize hw3:w2.alloc (.map #[] 0)=w3 at*
 have hx3:Ext w2 w3:=by rw[<-hw3];exact Chg.alloc (Chg.refl _ _) _
 have hx03:=hx1.trans (hx2.trans hx3);have hzz:=hx1.size;refine UZ (i+1) i [] t (hF.keep hx03 λ_ _ _ _ e=>e) hA hi (by omega) (by simp) hfew he hm9 (hm6.chg hx3 id) λw4 hm4 hc4=>?_;have hx04:Ext w w4:=hx03.then hc4 λk hk e=>by have e:k=f:=e;omega
 have hlen:=FC hA (i+1) i [] t hi (by omega) he;have hlt:t.length<=maxLen:=by
  have:(i+1)*100001<=100000*100001:=fB _ (by omega);simp only[aK]at hlen;unfold maxLen;omega
 obtain⟨D,hD,hkeys,hsize⟩:=Fx.owns_of_map hm4 (by intro x hx;simp at hx;rw[hx];exact hlt) (by unfold maxLen;simp);refine lN (args:=#[.map (some f)]) Tryz.call212 ((callsIn_wide.1 (Tryz.maps_Keys_212 (some f) w4)).mono ?_);rintro e w' ⟨rfl,rfl⟩;refine⟨_,rfl,?_⟩;refine lN (args:=#[.func (.func 224) #[] #[.pointer (some ⟨w4.heap.size,0,none⟩)]]) Tryz.call211 ((callsIn_wide.1 (Tryz.slices_Sorted_keys_211_212 f _ D _ w4 hD (by rw[hsize];unfold maxLen;simp) (by rw[hsize];simp))).mono ?_);rintro e w' ⟨v,ss,rfl,hss,hown,hnil,hbel⟩;refine⟨_,rfl,?_⟩;have hsl:=Own.sl hown;have hp:=hss.trans hkeys;have hp1:ss=[t]:=List.perm_singleton.1 hp;subst hp1;rw[List.mergeSort_singleton]at hsl;refine hK _ _ hsl (hx04.trans (Chg.trans (Chg.alloc (Chg.refl _ _) _) (Chg.of_below hbel)))
end
def rsC(r:Rs)(va vd:Value):List Value:=[str r.ty,str r.n,va,i64 r.count,i64 r.each,.bool r.swap,.bool r.prev,vd,i64 r.a]
def Kp(O:Nat->Prop)(w w':World):Prop:=w.heap.size<=w'.heap.size/\∀k,O k->w'.heap[k]?=w.heap[k]?
theorem Kp.refl(O:Nat->Prop)(w:World):Kp O w w:=⟨aZ _,λ_ _=>rfl⟩
theorem Kp.trans{O:Nat->Prop}{w1 w2:World}(h:Kp O w w1)(h':Kp O w1 w2):Kp O w w2:=⟨dR h.1 h'.1,λk hk=>(h'.2 k hk).trans (h.2 k hk)⟩
theorem Kp.at{O:Nat->Prop}{k:Nat}{o:Obj}(h:Kp O w w')(hk:w.heap[k]?=some o)(hO:O k):w'.heap[k]?=some o:=by rw[h.2 k hO];exact hk
section
variable [HX][FK]{w0 w w1 w2 w':World}{p:Nat}{L:ML}{vS:Value}{path:Str}{s:MS}{b4:Nat}{r:Rs}{va vd:Value}{O:Nat->Prop}
structure oZ(w0 w:World)(p:Nat)(L:ML)(vS:Value)(path:Str)(s:MS)(b4:Nat)(r:Rs)(va vd:Value)(O:Nat->Prop):Prop where
 mr:MR w0 w p L vS path s
 at_:pC w0 w p L vS b4 RsT (rsC r va vd)
 oa:Own w w0.heap.size AtT 3 va r.attrs.length (kK r.attrs)
 od:Own w w0.heap.size StT 1 vd r.deps.length (strs r.deps)
 nd:(b4::ub [va,vd]).Nodup
 off:∀k∈ub [va,vd],uI w0 w p L vS k
 ox:∀k,O k->k<w.heap.size/\k∉b4::ub [va,vd]
theorem Oc(hx:Ext w w')(hO:∀k,O k->k<w.heap.size):Kp O w w':=⟨hx.size,λk hk=>hx.heap k (hO k hk) id⟩
theorem oZ.ext(h:oZ w0 w p L vS path s b4 r va vd O)(hx:Ext w w'):oZ w0 w' p L vS path s b4 r va vd O:=
 ⟨h.mr.ext hx,h.at_.ext hx,h.oa.ext hx,h.od.ext hx,h.nd,λk hk=>(h.off k hk).up hx.size,λk hk=>⟨dD (h.ox k hk).1 hx.size,(h.ox k hk).2⟩⟩
theorem oZ.kp(h:oZ w0 w p L vS path s b4 r va vd O)(hx:Ext w w'):Kp O w w':=Oc hx λk hk=>(h.ox k hk).1
theorem oZ.less{O':Nat->Prop}(h:oZ w0 w p L vS path s b4 r va vd O)(hO:∀k,O' k->O k):oZ w0 w p L vS path s b4 r va vd O':=⟨h.mr,h.at_,h.oa,h.od,h.nd,h.off,λk hk=>h.ox k (hO k hk)⟩
theorem oZ.wide{z1 z2:Nat}(h:oZ w0 w p L vS path s b4 r va vd O)(h1:∀k∈b4::ub [va,vd],k<z1)(h2:z2<=w.heap.size):oZ w0 w p L vS path s b4 r va vd (λk=>O k\/(z1<=k/\k<z2)):=
 ⟨h.mr,h.at_,h.oa,h.od,h.nd,h.off,λk hk=>hk.elim (h.ox k) λe=>⟨by omega,λhm=>by have:=h1 k hm;omega⟩⟩
theorem oZ.in_(h:oZ w0 w p L vS path s b4 r va vd O):∀k∈b4::ub [va,vd],uI w0 w p L vS k:=λk hk=>(bC.1 hk).elim (λe=>e▸h.at_.off) (h.off k)
theorem oZ.lt(h:oZ w0 w p L vS path s b4 r va vd O):∀k∈b4::ub [va,vd],k<w.heap.size:=λk hk=>(h.in_ k hk).2.1
theorem uA(h:MR w0 w p L vS path s)(hc:Chg S w w')(hS:∀k,S k->uI w0 w p L vS k):MR w0 w' p L vS path s:=
 h.keep hc (λk hk e=>(hS k e).2.2.1 hk) (λk hk e=>by have:=(hS k e).1;omega) λk o hk e=>(hS k e).2.2.2 o hk
theorem lM{k:Nat}:k∈ub [va,vd]↔va.ownBlock=some k\/vd.ownBlock=some k:=by
 unfold ub;rw[bZ];simp
theorem oZ.st{off:Nat}{r':Rs}{KW:World->Prop}(h:oZ w0 w p L vS path s b4 r va vd O)(h1:jM v=true)(hoff:off<9)(hs:(rsC r va vd).set off v=rsC r' va vd)(ha:r'.attrs=r.attrs)(hd:r'.deps=r.deps)
  (hK:∀w',oZ w0 w' p L vS path s b4 r' va vd O->Kp O w w'->KW w'):stW 1 (.pointer (some ⟨b4,off,none⟩)) v w KW:=by
 refine kQ h.at_.at_ h1 (by simp[rsC];omega) λw' hz hb hc=>?_;have hne:∀k∈ub [va,vd],k≠b4:=λk hk e=>(dK.1 h.nd).1 (e▸hk);refine hK w' ⟨uA h.mr hc λk e=>by have e:k=b4:=e;exact e▸h.at_.off,⟨by rw[hb,aA,hs],h.at_.off.up hc.size⟩,?_,?_,h.nd,λk hk=>(h.off k hk).up hc.size,λk hk=>⟨by rw[hz];exact(h.ox k hk).1,(h.ox k hk).2⟩⟩ ⟨hc.size,λk hk=>hc.heap k (h.ox k hk).1 λe=>(h.ox k hk).2 (by have e:k=b4:=e;rw[e];exact aW)⟩
 ·rw[ha];exact eG h.oa hc λk hk=>hne k (lM.2 (.inl hk))
 ·rw[hd];exact eG h.od hc λk hk=>hne k (lM.2 (.inr hk))
theorem Gu{v':Value}(h:MR w0 w p L vS path s)(hz:w.heap.size<=w'.heap.size)(hn:∀k,v'.ownBlock=some k->v.ownBlock=some k\/w.heap.size<=k)(hv:∀k,v.ownBlock=some k->uI w0 w p L vS k)(ho:∀k,v'.ownBlock=some k->k<w'.heap.size):∀k,v'.ownBlock=some k->uI w0 w' p L vS k:=λk hk=>
 (hn k hk).elim (λe=>(hv k e).up hz) λe=>h.off_new e (ho k hk)
theorem oZ.pushA{a:Atr}{t:Value}{KW:World->Prop}(h:oZ w0 w p L vS path s b4 r va vd O)(ht:SlAt w AtT t 1 (kK [a]))(hfew:r.attrs.length<=10000000000)
  (hK:∀va' w',oZ w0 w' p L vS path s b4 {r with attrs:=r.attrs++[a]} va' vd O->Kp O w w'->KW w'):
  fY P0 (Builtin.append_ #[36,36] 36 #[va,t]) w λt15 w13=>aR 2 (.pointer (some ⟨b4,0,none⟩)) λt16=>stW 1 t16 t15 w13 KW:=by
 refine jL Ie h.oa ht rfl (λu hu=>by simp only[kK,gL,Bj,fX,bC,cA,gG]at hu;rcases hu with rfl|rfl|rfl<;>rfl) (by omega) (by omega) h.mr.base λv' w1 hO hc hn=>?_;have hnd:=h.nd;have hb4:b4∉ub [va,vd]:=(dK.1 hnd).1;have hva:∀k,va.ownBlock=some k->uI w0 w p L vS k:=λk hk=>h.off k (lM.2 (.inl hk));have hav:va.ownBlock≠some b4:=λe=>hb4 (lM.2 (.inl e));have hvd:∀k,vd.ownBlock=some k->va.ownBlock≠some k:=λk hk e=>by
  have h2:=(dK.1 hnd).2;unfold ub at h2;simp only[gM,e,hk,lW,dK,bC,cA,gG]at h2;exact h2.1 trivial
 have hlt:∀k,va.ownBlock=some k->k<w.heap.size:=λk hk=>(hva k hk).2.1;have hm1:=uA h.mr hc hva;have hn1:=Gu h.mr hc.size hn hva λk hk=>(kJ hO hk).1;have hvb:∀k,v'.ownBlock=some k->k≠b4:=λk hk e=>by
  subst e;exact(hn k hk).elim hav λe=>by have:=h.at_.lt;omega
 rw[bE,bL,aI];refine kQ (hc.at h.at_.at_ hav) (fV hO.sl) (by simp[rsC]) λw2 hz2 hb2 hc2=>?_;have hz:=hc.size;refine hK v' w2 ⟨uA hm1 hc2 λk e=>by have e:k=b4:=e;exact e▸h.at_.off.up hz,⟨by rw[hb2,aA];rfl,h.at_.off.up (by omega)⟩,?_,?_,?_,λk hk=>?_,λk hk=>⟨by have:=(h.ox k hk).1;omega,λhm=>?_⟩⟩ ⟨by omega,λk hk=>?_⟩
 ·show Own w2 _ _ _ v' (r.attrs++[a]).length (kK (r.attrs++[a]));rw[Bf,aP];exact eG hO hc2 λk hk=>hvb k hk
 ·exact eG (eG h.od hc λk hk=>hvd k hk) hc2 λk hk e=>hb4 (by have e:k=b4:=e;rw[<-e];exact lM.2 (.inr hk))
 ·refine dK.2 ⟨λhm=>?_,?_⟩
  ·rcases lM.1 hm with e|e
   ·exact hvb b4 e rfl
   ·exact hb4 (lM.2 (.inr e))
  ·unfold ub;simp only[gM,lW];cases h1:v'.ownBlock with
   |none=>cases vd.ownBlock<;>simp
   |some x=>
    cases h2:vd.ownBlock with
    |none=>simp
    |some y=>
     simp only[dK,bC,cA,gG,cX,mI,fM];rintro rfl;rcases hn x h1 with e|e
     ·exact hvd x h2 e
     ·have:=(h.off x (lM.2 (.inr h2))).2.1;omega
 ·rcases lM.1 hk with e|e
  ·exact(hn1 k e).up (by omega)
  ·exact(h.off k (lM.2 (.inr e))).up (by omega)
 ·have h0:=h.ox k hk;rcases bC.1 hm with e|hm
  ·exact h0.2 (e▸aW)
  ·rcases lM.1 hm with e|e
   ·rcases hn k e with e|e
    ·exact h0.2 (aD _ (lM.2 (.inl e)))
    ·omega
   ·exact h0.2 (aD _ (lM.2 (.inr e)))
 ·have h0:=h.ox k hk;rw[hc2.heap k (by omega) (λe=>h0.2 (by have e:k=b4:=e;rw[e];exact aW)),hc.heap k h0.1 (λe=>h0.2 (aD _ (lM.2 (.inl e))))]
theorem oZ.pushD{a:Str}{t:Value}{KW:World->Prop}(h:oZ w0 w p L vS path s b4 r va vd O)(ht:SlAt w StT t 1 (strs [a]))(hfew:r.deps.length<=1000000000000)
  (hK:∀vd' w',oZ w0 w' p L vS path s b4 {r with deps:=r.deps++[a]} va vd' O->Kp O w w'->KW w'):
  fY P0 (Builtin.append_ #[33,33] 33 #[vd,t]) w λt15 w13=>aR 7 (.pointer (some ⟨b4,0,none⟩)) λt16=>stW 1 t16 t15 w13 KW:=by
 refine jL Fy h.od ht rfl (λu hu=>by simp only[strs,fW,kV,bC,cA,gG]at hu;subst hu;rfl) (by omega) (by omega) h.mr.base λv' w1 hO hc hn=>?_;have hnd:=h.nd;have hb4:b4∉ub [va,vd]:=(dK.1 hnd).1;have hvd:∀k,vd.ownBlock=some k->uI w0 w p L vS k:=λk hk=>h.off k (lM.2 (.inr hk));have hav:vd.ownBlock≠some b4:=λe=>hb4 (lM.2 (.inr e));have hva:∀k,va.ownBlock=some k->vd.ownBlock≠some k:=λk hk e=>by
  have h2:=(dK.1 hnd).2;unfold ub at h2;simp only[gM,e,hk,lW,dK,bC,cA,gG]at h2;exact h2.1 trivial
 have hm1:=uA h.mr hc hvd;have hn1:=Gu h.mr hc.size hn hvd λk hk=>(kJ hO hk).1;have hvb:∀k,v'.ownBlock=some k->k≠b4:=λk hk e=>by
  subst e;exact(hn k hk).elim hav λe=>by have:=h.at_.lt;omega
 rw[bE,bL,aI];refine kQ (hc.at h.at_.at_ hav) (fV hO.sl) (by simp[rsC]) λw2 hz2 hb2 hc2=>?_;have hz:=hc.size;refine hK v' w2 ⟨uA hm1 hc2 λk e=>by have e:k=b4:=e;exact e▸h.at_.off.up hz,⟨by rw[hb2,aA];rfl,h.at_.off.up (by omega)⟩,?_,?_,?_,λk hk=>?_,λk hk=>⟨by have:=(h.ox k hk).1;omega,λhm=>?_⟩⟩ ⟨by omega,λk hk=>?_⟩
 ·exact eG (eG h.oa hc λk hk=>hva k hk) hc2 λk hk e=>hb4 (by have e:k=b4:=e;rw[<-e];exact lM.2 (.inl hk))
 ·show Own w2 _ _ _ v' (r.deps++[a]).length (strs (r.deps++[a]));rw[Ay,aP];exact eG hO hc2 λk hk=>hvb k hk
 ·refine dK.2 ⟨λhm=>?_,?_⟩
  ·rcases lM.1 hm with e|e
   ·exact hb4 (lM.2 (.inl e))
   ·exact hvb b4 e rfl
  ·unfold ub;simp only[gM,lW];cases h1:va.ownBlock with
   |none=>cases v'.ownBlock<;>simp
   |some x=>
    cases h2:v'.ownBlock with
    |none=>simp
    |some y=>
     simp only[dK,bC,cA,gG,cX,mI,fM];rintro rfl;rcases hn x h2 with e|e
     ·exact hva x h1 e
     ·have:=(h.off x (lM.2 (.inl h1))).2.1;omega
 ·rcases lM.1 hk with e|e
  ·exact(h.off k (lM.2 (.inl e))).up (by omega)
  ·exact(hn1 k e).up (by omega)
 ·have h0:=h.ox k hk;rcases bC.1 hm with e|hm
  ·exact h0.2 (e▸aW)
  ·rcases lM.1 hm with e|e
   ·exact h0.2 (aD _ (lM.2 (.inl e)))
   ·rcases hn k e with e|e
    ·exact h0.2 (aD _ (lM.2 (.inr e)))
    ·omega
 ·have h0:=h.ox k hk;rw[hc2.heap k (by omega) (λe=>h0.2 (by have e:k=b4:=e;rw[e];exact aW)),hc.heap k h0.1 (λe=>h0.2 (aD _ (lM.2 (.inr e))))]
end
theorem Pj{f:Fl}{r:Rs}{a:Atr}{e:Ex}(h:a.n=sId):uD f r a e=.bad 110 a.a:=by unfold uD;rw[aU h]
theorem IY{f:Fl}{r:Rs}{a:Atr}{e:Ex}(n1:¬a.n=sId)(h:a.n=xL):uD f r a e=oneOf {r with count:=(a.e:Nat)} a:=by unfold uD;rw[aL n1,aU h]
theorem Lo{f:Fl}{r:Rs}{a:Atr}{e:Ex}(n1:¬a.n=sId)(n2:¬a.n=xL)(h:a.n=uO):uD f r a e=oneOf {r with each:=(a.e:Nat)} a:=by unfold uD;rw[aL n1,aL n2,aU h]
theorem Lp{f:Fl}{r:Rs}{a:Atr}{e:Ex}(n1:¬a.n=sId)(n2:¬a.n=xL)(n3:¬a.n=uO)(h:a.n=xK):uD f r a e=(match AW f e.args r.deps with|none=>.bad 110 a.a|some ds=>if e.k=7 then .ok {r with deps:=ds}else .bad 110 a.a):=by
 unfold uD;exact (aL n1).trans ((aL n2).trans ((aL n3).trans (aU h)))
theorem Ln{f:Fl}{r:Rs}{a:Atr}{e:Ex}(n1:¬a.n=sId)(n2:¬a.n=xL)(n3:¬a.n=uO)(h:¬a.n=xK):uD f r a e=oneOf {r with attrs:=r.attrs++[a]} a:=by unfold uD;rw[aL n1,aL n2,aL n3,aL h]
theorem Jl{r:Rs}{a:Atr}{e:Ex}(h:a.n=EF):uV r a e=if e.k=2\/e.k=3 then .ok {r with swap:=decide (e.k=2)}else .bad 110 a.a:=by unfold uV;rw[aU h]
theorem Jm{r:Rs}{a:Atr}{e:Ex}(n1:¬a.n=EF)(h:a.n=Hf):uV r a e=if e.k=2\/e.k=3 then .ok {r with prev:=decide (e.k=2)}else .bad 110 a.a:=by unfold uV;rw[aL n1,aU h]
theorem NI{r:Rs}{a:Atr}{e:Ex}(n1:¬a.n=EF)(n2:¬a.n=Hf):uV r a e=.bad 110 a.a:=by unfold uV;rw[aL n1,aL n2]
section
variable [HX]
variable [FK]{w0 w w1:World}{p:Nat}{L:ML}{vS:Value}{path:Str}{s:MS}{b2 b3 b4 b7:Nat}{c3 c7:List Value}
theorem MR.ldF{K:Value->Prop}(h:MR w0 w p L vS path s)(hK:K (FlV L.M)):ldW true 3 (.pointer (some ⟨p,1,none⟩)) w K:=by
 rw[xP];refine⟨[L.M.vE,L.M.vB,L.M.vT],?_,hK⟩;simp only[bV,bL,cM,h.pm,bT];simp[ML.cells]
theorem xua{M:Lay}{fl:Fl}{ua uk:Value}{B:Nat}(hi:i<fl.ex.length)(eu:xcc M i=[i64 (lH fl i).k,str (lH fl i).t,ua,uk,i64 (lH fl i).a])(h:FO w B M fl):SlAt w jY ua (lH fl i).args.length (ints (lH fl i).args):=by
 obtain⟨va',vk',e0,g1,_⟩:=wZ h hi;rw[eu]at e0;simp only[gP]at e0;rw[e0.2.2.1];exact g1.sl
def RsI(w0:World)(p:Nat)(L:ML)(vS:Value)(path:Str)(s:MS)(b2 b3 b4:Nat)(c3:List Value)(j:Nat)(w:World)(r:Rs):Prop:=
 ∃va vd,oZ w0 w p L vS path s b4 r va vd (λk=>k=b2\/k=b3)/\w.heap[b2]?=some (.cells [pA p].toArray MpT (0,0))/\w.heap[b3]?=some (.cells c3.toArray BkT (0,0))/\r.attrs.length<=j/\r.deps.length<=j*1000000
theorem RsI.ext{j:Nat}{r:Rs}(h:RsI w0 p L vS path s b2 b3 b4 c3 j w r)(hx:Ext w w'):RsI w0 p L vS path s b2 b3 b4 c3 j w' r:=by
 obtain⟨va,vd,g1,g2,g3,g4⟩:=h;exact⟨va,vd,g1.ext hx,hx.at g2 id,hx.at g3 id,g4⟩
theorem Vs{j:Nat}{a:Atr}{r:Rs}{wz:World}{K':Q0}(hA:ChA s.m.fl)(hj:j<=100000)(hfew:s.m.fl.ex.length<=100000)(hae:a.e<s.m.fl.ex.length)(hI:RsI w0 p L vS path s b2 b3 b4 c3 j wz r)(hx1:Ext wz w1)
  (hyes:∀r' w',uD s.m.fl r a (lH s.m.fl a.e)=.ok r'->RsI w0 p L vS path s b2 b3 b4 c3 (j+1) w' r'->K' (.bool true) w')
  (hno:∀w',uD s.m.fl r a (lH s.m.fl a.e)=.bad 110 a.a->Mf w0 w' p L.M path s.m.fl->(∀k,wz.heap.size<=k->k<w1.heap.size->w'.heap[k]?=w1.heap[k]?)->K' (.bool false) w'):
  nV P0 (.func (.func 180) #[] [pA b4,pA b2].toArray) [.agg [str a.n,i64 (a.e:Nat),i64 a.a].toArray,.agg (xcc L.M a.e).toArray] w1 K':=by
 obtain⟨va,vd,hR0,hb2,hb3,hl1,hl2⟩:=hI;refine hY (caps:=[pA b4,pA b2]) ?_;refine Tt ?_;unfold ZM;refine fZ λb6 w6 hb6 hz6 hbb6 hx6=>?_;obtain⟨ua,uk,eu,hu,_⟩:=wZ hR0.mr.md.fo hae;rw[eu];refine fZ λb7 w7 hb7 hz7 hbb7 hx7=>?_;have hx17:=hx6.trans hx7;have hxz:=hx1.trans hx17;have hbb6:=hx7.at hbb6 id;have hz1:=hx1.size;have hua:=λ{w:World} (h:FO w w0.heap.size L.M s.m.fl)=>xua hae eu h;generalize he:lH s.m.fl a.e=e at*
 have hefew:e.args.length<=1000000:=by rw[<-he];exact(hA.few _ (bI (tN hae))).1
 have hR:=(hR0.ext hxz).wide (z1:=wz.heap.size) (z2:=w7.heap.size) hR0.lt (aZ _);generalize hO:(λk=>(k=b2\/k=b3)\/(wz.heap.size<=k/\k<w7.heap.size))=O at hR;have o2:O b2:=by rw[<-hO];exact .inl (.inl rfl)
 have o3:O b3:=by rw[<-hO];exact .inl (.inr rfl)
 have oz:∀k,wz.heap.size<=k->k<w7.heap.size->O k:=λk h1 h2=>by rw[<-hO];exact .inr ⟨h1,h2⟩
 have ol:∀k,(k=b2\/k=b3)->O k:=λk h=>by rw[<-hO];exact .inl h
 have hb2:=hxz.at hb2 id;have hb3:=hxz.at hb3 id;have o6:=oz b6 (by omega) (by omega);have o7:=oz b7 (by omega) (by omega);have fin:∀{w':World},Kp O w7 w'->∀k,wz.heap.size<=k->k<w1.heap.size->w'.heap[k]?=w1.heap[k]?:=λhk k h1 h2=>by
  have:=hx17.size;rw[hk.2 k (oz k h1 (by omega)),hx17.heap k h2 id]
 have yes:∀{r':Rs} {va' vd':Value} {w':World},uD s.m.fl r a e=.ok r'->oZ w0 w' p L vS path s b4 r' va' vd' O->Kp O w7 w'->r'.attrs.length<=j+1->r'.deps.length<=(j+1)*1000000->K' (.bool true) w':=λ{r' va' vd' w'} h1 h2 h3 h4 h5=>
  hyes r' w' h1 ⟨va',vd',h2.less ol,h3.at hb2 o2,h3.at hb3 o3,h4,h5⟩
 have hm:j*1000000+1000000=(j+1)*1000000:=by rw[mM]
 refine dE.cut (λst w'=>st=[]/\∃r' va' vd',oZ w0 w' p L vS path s b4 r' va' vd' O/\Kp O w7 w'/\uD s.m.fl r a e=oneOf r' a/\r'.attrs.length<=j+1/\r'.deps.length<=(j+1)*1000000) ?_ ?_
 ·simp only[bE,bL,aI];refine ldb hbb6 (v:=str a.n) rfl ?_;rw[eQ,bD];refine⟨λe1=>?_,λn1=>?_⟩
  ·have e1:a.n=sId:=e1;exact hno w7 (Pj e1) hR.mr.mf (fin (Kp.refl _ _))
  have n1:¬a.n=sId:=n1;rw[eQ,bD];refine⟨λe2=>?_,λn2=>?_⟩
  ·have e2:a.n=xL:=e2;refine ldb hbb6 (v:=i64 (a.e:Nat)) rfl ?_;refine hR.st (off:=3) (r':={r with count:=(a.e:Nat)}) rfl (by omega) rfl rfl rfl λw' hR' hK'=>⟨by trivial,_,va,vd,hR',hK',IY n1 e2,?_,?_⟩
   ·exact Nat.le_succ_of_le hl1
   ·exact dR hl2 (fB _ (rV j))
  have n2:¬a.n=xL:=n2;rw[eQ,bD];refine⟨λe3=>?_,λn3=>?_⟩
  ·have e3:a.n=uO:=e3;refine ldb hbb6 (v:=i64 (a.e:Nat)) rfl ?_;refine hR.st (off:=4) (r':={r with each:=(a.e:Nat)}) rfl (by omega) rfl rfl rfl λw' hR' hK'=>⟨by trivial,_,va,vd,hR',hK',Lo n1 n2 e3,?_,?_⟩
   ·exact Nat.le_succ_of_le hl1
   ·exact dR hl2 (fB _ (rV j))
  have n3:¬a.n=uO:=n3;rw[eQ,bD];refine⟨λe4=>?_,λn4=>?_⟩
  ·have e4:a.n=xK:=e4;have hmod:=Lp (f:=s.m.fl) (r:=r) (e:=e) n1 n2 n3 e4;rw[hmod]at hno;refine ldb hbb7 (v:=ua) rfl ?_;rw[eO (hua hR.mr.md.fo)];refine dL.go (λst w'=>∃(i:Nat) (ds:List Str) (vd':Value),st=[i64 (i:Nat)]/\i<=e.args.length/\oZ w0 w' p L vS path s b4 {r with deps:=ds} va vd' O/\Kp O w7 w'/\AW s.m.fl (e.args.drop i) ds=AW s.m.fl e.args r.deps/\ds.length<=r.deps.length+i) (λst _=>match st with|[.int _ i]=>e.args.length-i.toNat|_=>0)
    ⟨0,r.deps,vd,rfl,dU _,hR,Kp.refl _ _,rfl,aZ _⟩ ?_
   rintro st g w8 ⟨i,ds,vd',rfl,hi,hR8,hk8,hds,hdl⟩;simp only[aC];rw[dI,bD];refine⟨λhlt=>?_,λhge=>?_⟩
   ·have hlt:i<e.args.length:=by omega
    obtain⟨x,hx⟩:∃x,e.args[i]?=some x:=⟨_,aG hlt⟩;have hxl:x<s.m.fl.ex.length:=by
     have:=hA.lt a.e e (by rw[<-he];exact tN hae) x (bI hx);omega
    rw[eB hlt]at hds;rw[aG hlt]at hx;injection hx with hx
    rw[hx]at hds;simp only[AW]at hds;refine mR (i:=i) (x:=i64 (x:Nat)) (hua hR8.mr.md.fo) (by rw[tL];omega) (by unfold ints;rw[fO,aG hlt,hx];rfl) ?_;refine ldb (hk8.at hb2 o2) (v:=pA p) rfl ?_;simp only[dB,bE,bL,aI];refine hR8.mr.ldF ?_;refine Sl hR8.mr.md.fo hA hxl λw9 hx9=>?_;rw[fH,eJ];have hR9:=hR8.ext hx9;have hk9:=hk8.trans (hR8.kp hx9);refine⟨λhc=>?_,λhc=>?_⟩
    ·cases hch:BG s.m.fl x with
     |some t=>rw[hch]at hc;cases hc
     |none=>
      rw[hch]at hds;exact hno w9 (by rw[<-hds]) hR9.mr.mf (fin hk9)
    ·cases hch:BG s.m.fl x with
     |none=>rw[hch]at hc;cases hc
     |some t=>
      rw[hch]at hds;simp only at hds;have hR10:=hR9.ext (cQ w9);have hk10:=hk9.trans (hR9.kp (cQ w9));refine ldb hR10.at_.at_ (v:=vd') rfl ?_;refine ldb (hk10.at hb2 o2) (v:=pA p) rfl ?_;rw[dB,bE,bE,bL,bL,aI];refine hR10.mr.ldF ?_;refine Vt hR10.mr.md.fo hA hxl hfew hch λv w11 hv hx11=>?_;have hR11:=hR10.ext hx11;have hk11:=hk10.trans (hR10.kp hx11);refine⟨ldb hR11.at_.at_ (v:=vd') rfl rfl,?_⟩;have:=hR11.pushD (a:=t) (KW:=λw11=>aS .add (i64 (i:Nat)) (.int .i64 1) λt57=>(∃(i:Nat) (ds:List Str) (vd':Value),[t57]=[i64 (i:Nat)]/\i<=e.args.length/\oZ w0 w11 p L vS path s b4 {r with deps:=ds} va vd' O/\Kp O w7 w11/\AW s.m.fl (e.args.drop i) ds=AW s.m.fl e.args r.deps/\ds.length<=r.deps.length+i)/\(match([t57]:List Value)with|[.int _ i]=>e.args.length-i.toNat|_=>0)<(match([i64 (i:Nat)]:List Value)with|[.int _ i]=>e.args.length-i.toNat|_=>0)) hv (by show ds.length<=_;have:j*1000000<=100000*1000000:=fB _ hj;omega) λvd2 w12 hR12 hk12=>?_
      ·simp only[bE,bL,aI]at this;exact this
      ·rw[cJ,upi (by omega)];exact⟨⟨i+1,ds++[t],vd2,rfl,by omega,hR12,hk11.trans hk12,hds,by rw[aP,aB,aK];omega⟩,by simp only[aV];omega⟩
   ·obtain rfl:i=e.args.length:=by omega
    rw[gU]at hds;simp only[AW]at hds;rw[<-hds]at hmod hno;simp only at hmod hno;refine ldb (hk8.at hbb7 o7) (v:=i64 e.k) rfl ?_;rw[cL];by_cases h7:e.k=7
    ·rw[aU h7]at hmod;rw[bW h7];exact yes hmod hR8 hk8 (by show r.attrs.length<=_;omega) (by show ds.length<=_;omega)
    ·rw[aL h7]at hno;rw[bH h7];exact hno w8 rfl hR8.mr.mf (fin hk8)
  have n4:¬a.n=xK:=n4;refine ldb hR.at_.at_ (v:=va) rfl ?_;refine gF hbb6 rfl ?_;refine row_one (by rfl) (by rfl) (by omega) λt w8 ht hx8=>?_;have hR8:=hR.ext hx8;have hk8:=hR.kp hx8;have:=hR8.pushA (a:=a) (KW:=λw'=>([]:List Value)=[]/\∃r' va' vd',oZ w0 w' p L vS path s b4 r' va' vd' O/\Kp O w7 w'/\uD s.m.fl r a e=oneOf r' a/\r'.attrs.length<=j+1/\r'.deps.length<=(j+1)*1000000) ht (by omega) λva' w9 hR9 hk9=>⟨rfl,_,va',vd,hR9,hk8.trans hk9,Ln n1 n2 n3 n4,by simp;omega,dR hl2 (fB _ (rV j))⟩;simp only[bE,bL,aI]at this;exact this
 rintro st g w8 ⟨rfl,r',va',vd',hR8,hk8,hres,h4,h5⟩;simp only[bE,bL,aI];refine ldb hR8.at_.at_ (v:=i64 r'.count) rfl ?_;rw[dI];refine GdW.look (decide (r'.each<0)) (λ_ J hJ=>?_) λg2=>?_
 ·refine ldb hR8.at_.at_ (v:=i64 r'.each) rfl ?_;rw[dI];exact hJ
 simp only[aC,iB];rw[lG];unfold oneOf at hres;by_cases hone:r'.count<0\/r'.each<0
 ·rw[aU hone]at hres;have:(decide (r'.count<0)||decide (r'.each<0))=true:=by simpa using hone
  rw[this];exact yes hres hR8 hk8 h4 h5
 ·rw[aL hone]at hres;have:(decide (r'.count<0)||decide (r'.each<0))=false:=by simpa using hone
  rw[this];exact hno w8 hres hR8.mr.mf (fin hk8)
def LfI(w0:World)(p:Nat)(L:ML)(vS:Value)(path:Str)(s:MS)(b2 b3 b4 b7:Nat)(c3 c7:List Value)(r0:Rs)(j:Nat)(w:World)(r:Rs):Prop:=
 ∃va vd,oZ w0 w p L vS path s b4 r va vd (λk=>k=b2\/k=b3\/k=b7)/\w.heap[b2]?=some (.cells [pA p].toArray MpT (0,0))/\w.heap[b3]?=some (.cells c3.toArray BkT (0,0))/\w.heap[b7]?=some (.cells c7.toArray BkT (0,0))
theorem LfI.ext{j:Nat}{r r0:Rs}(h:LfI w0 p L vS path s b2 b3 b4 b7 c3 c7 r0 j w r)(hx:Ext w w'):LfI w0 p L vS path s b2 b3 b4 b7 c3 c7 r0 j w' r:=by
 obtain⟨va,vd,g1,g2,g3,g4⟩:=h;exact⟨va,vd,g1.ext hx,hx.at g2 id,hx.at g3 id,hx.at g4 id⟩
theorem Vq{j:Nat}{a:Atr}{r r0:Rs}{wz:World}{K':Q0}(hae:a.e<s.m.fl.ex.length)(hI:LfI w0 p L vS path s b2 b3 b4 b7 c3 c7 r0 j wz r)(hx1:Ext wz w1)
  (hyes:∀r' w',uV r a (lH s.m.fl a.e)=.ok r'->LfI w0 p L vS path s b2 b3 b4 b7 c3 c7 r0 (j+1) w' r'->K' (.bool true) w')
  (hno:∀w',uV r a (lH s.m.fl a.e)=.bad 110 a.a->Mf w0 w' p L.M path s.m.fl->(∀k,wz.heap.size<=k->k<w1.heap.size->w'.heap[k]?=w1.heap[k]?)->K' (.bool false) w'):
  nV P0 (.func (.func 183) #[] [pA b4].toArray) [.agg [str a.n,i64 (a.e:Nat),i64 a.a].toArray,.agg (xcc L.M a.e).toArray] w1 K':=by
 obtain⟨va,vd,hR0,hb2,hb3,hb7⟩:=hI;refine hY (caps:=[pA b4]) ?_;refine Tq ?_;unfold ZJ;refine fZ λb8 w6 hb8 hz6 hbb8 hx6=>?_;obtain⟨ua,uk,eu,hu,_⟩:=wZ hR0.mr.md.fo hae;rw[eu];refine fZ λb9 w7 hb9 hz7 hbb9 hx7=>?_;have hx17:=hx6.trans hx7;have hxz:=hx1.trans hx17;have hbb8:=hx7.at hbb8 id;have hz1:=hx1.size;generalize he:lH s.m.fl a.e=e at*
 have hR:=(hR0.ext hxz).wide (z1:=wz.heap.size) (z2:=w7.heap.size) hR0.lt (aZ _);generalize hO:(λk=>(k=b2\/k=b3\/k=b7)\/(wz.heap.size<=k/\k<w7.heap.size))=O at hR;have o2:O b2:=by rw[<-hO];exact .inl (.inl rfl)
 have o3:O b3:=by rw[<-hO];exact .inl (.inr (.inl rfl))
 have o7:O b7:=by rw[<-hO];exact .inl (.inr (.inr rfl))
 have oz:∀k,wz.heap.size<=k->k<w7.heap.size->O k:=λk h1 h2=>by rw[<-hO];exact .inr ⟨h1,h2⟩
 have ol:∀k,(k=b2\/k=b3\/k=b7)->O k:=λk h=>by rw[<-hO];exact .inl h
 have o9:=oz b9 (by omega) (by omega);have hb2:=hxz.at hb2 id;have hb3:=hxz.at hb3 id;have hb7:=hxz.at hb7 id;have fin:∀{w':World},Kp O w7 w'->∀k,wz.heap.size<=k->k<w1.heap.size->w'.heap[k]?=w1.heap[k]?:=λhk k h1 h2=>by
  have:=hx17.size;rw[hk.2 k (oz k h1 (by omega)),hx17.heap k h2 id]
 refine dE.cut (λst w'=>st=[]/\∃r',oZ w0 w' p L vS path s b4 r' va vd O/\Kp O w7 w'/\uV r a e=if e.k=2\/e.k=3 then .ok r' else .bad 110 a.a) ?_ ?_
 ·simp only[bE,bL,aI];refine ldb hbb8 (v:=str a.n) rfl ?_;rw[eQ,bD];refine⟨λe1=>?_,λn1=>?_⟩
  ·have e1:a.n=EF:=e1;refine ldb hbb9 (v:=i64 e.k) rfl ?_;rw[cL];refine hR.st (off:=5) (r':={r with swap:=decide (e.k=2)}) rfl (by omega) rfl rfl rfl λw' hR' hK'=>⟨by trivial,_,hR',hK',Jl e1⟩
  have n1:¬a.n=EF:=n1;rw[eQ,bD];refine⟨λe2=>?_,λn2=>?_⟩
  ·have e2:a.n=Hf:=e2;refine ldb hbb9 (v:=i64 e.k) rfl ?_;rw[cL];refine hR.st (off:=6) (r':={r with prev:=decide (e.k=2)}) rfl (by omega) rfl rfl rfl λw' hR' hK'=>⟨by trivial,_,hR',hK',Jm n1 e2⟩
  have n2:¬a.n=Hf:=n2;exact hno w7 (NI n1 n2) hR.mr.mf (fin (Kp.refl _ _))
 rintro st g w8 ⟨rfl,r',hR8,hk8,hres⟩;simp only[bE,bL,aI];refine ldb (hk8.at hbb9 o9) (v:=i64 e.k) rfl ?_;rw[cL];refine GdW.look (decide (e.k=3)) (λ_ J hJ=>?_) λg2=>?_
 ·refine ldb (hk8.at hbb9 o9) (v:=i64 e.k) rfl ?_;rw[cL];exact hJ
 simp only[aC,iB];rw[lG];by_cases hone:e.k=2\/e.k=3
 ·rw[aU hone]at hres;have:(decide (e.k=2)||decide (e.k=3))=true:=by simpa using hone
  rw[this];exact hyes r' w8 hres ⟨va,vd,hR8.less ol,hk8.at hb2 o2,hk8.at hb3 o3,hk8.at hb7 o7⟩
 ·rw[aL hone]at hres;have:(decide (e.k=2)||decide (e.k=3))=false:=by simpa using hone
  rw[this];exact hno w8 hres hR8.mr.mf (fin hk8)
end
theorem CC{fl:Fl}{M:Lay}{k:Nat}{vl va vb:Value}{B:Nat}(hk:k<fl.bl.length)(ec:bcc M k=[str (kC fl k).typ,vl,va,vb,i64 (kC fl k).a])(h:FO w B M fl):SlAt w StT vl (kC fl k).labels.length (strs (kC fl k).labels)/\SlAt w AtT va (kC fl k).attrs.length (kK (kC fl k).attrs)/\SlAt w jY vb (kC fl k).blocks.length (ints (kC fl k).blocks):=by
 obtain⟨vl',va',vb',ec',g1,g2,g3⟩:=sD h hk;rw[ec]at ec';simp only[gP]at ec';rw[ec'.2.1,ec'.2.2.1,ec'.2.2.2.1];exact⟨g1.sl,g2.sl,g3.sl⟩
theorem Gb:ub [.slice none 0 0,.slice none 0 0]=[]:=rfl
structure FlA(fl:Fl)(M:Lay):Prop where
 bk:∀k,k<fl.bl.length->BkA fl M k
 ch:ChA fl
 few:fl.ex.length<=100000
 fa:∀k,k<fl.bl.length->(kC fl k).attrs.length<=100000
section
variable [HX]
variable [FK]{w0 w:World}{p:Nat}{L:ML}{vS:Value}{path:Str}{s:MS}{K:Q0}
theorem IW{k:Nat}(h:MR w0 w p L vS path s)(hFl:FlA s.m.fl L.M)(hk:k<s.m.fl.bl.length)(hl:2<=(kC s.m.fl k).labels.length)(hfew:s.m.res.length<=100000000000)
  (hok:∀s' L' vS' w',oA s (kC s.m.fl k)=.ok s'->L'.M=L.M->MR w0 w' p L' vS' path s'->K (.tuple #[]) w')(hbad:∀c a,oA s (kC s.m.fl k)=.bad c a->TC w0 path c a):
  aJ P0 141 [pA p,.agg (bcc L.M k).toArray] w K:=by
 obtain⟨vl,va,vb,ec,h1,h2,h3⟩:=sD h.md.fo hk;obtain⟨hklt,hkat,hkbs,hkf1,hkf2,hkf3⟩:=hFl.bk k hk;have hfa:=hFl.fa k hk;have hrow:=λ{w:World} (hF:FO w w0.heap.size L.M s.m.fl)=>CC hk ec hF;generalize hb:kC s.m.fl k=b at*
 rw[ec];refine TW ?_;unfold aAj;refine US λb2 w1 hb2 hz1 hbb2 hx1=>?_;refine fZ λb3 w2 hb3 hz2 hbb3 hx2=>?_;have hx02:=(hx1.trans hx2).trans (cQ w2);have hm2:=h.ext hx02;have hbb2:w2.drew.heap[b2]?=_:=hx2.at hbb2 id;have hbb3:w2.drew.heap[b3]?=some (.cells [str b.typ,vl,va,vb,i64 b.a].toArray BkT (0,0)):=hbb3;obtain⟨x,hx⟩:∃x,b.labels[0]?=some x:=⟨_,aG (by omega)⟩;obtain⟨y,hy⟩:∃y,b.labels[1]?=some y:=⟨_,aG (by omega)⟩;have hxd:b.labels.getD 0 []=x:=by rw[bR,hx];rfl
 have hyd:b.labels.getD 1 []=y:=by rw[bR,hy];rfl
 have hL:=(hrow hm2.md.fo).1;obtain⟨p0,hp0,hp0'⟩:=vA (k:=.i64) (i:=0) (u:=str x) hL (by rw[tC];omega) (by unfold strs;rw[fO,hx];rfl);obtain⟨p1,hp1,hp1'⟩:=vA (k:=.i64) (i:=1) (u:=str y) hL (by rw[tC];omega) (by unfold strs;rw[fO,hy];rfl);simp only[bE,bL,aI];refine ldb hbb3 (v:=vl) rfl (hp0 _ (hp0' _ _ (Chg.refl _ _) ?_));refine ldb hbb3 (v:=vl) rfl (hp1 _ (hp1' _ _ (Chg.refl _ _) ?_));refine ldb hbb3 (v:=i64 b.a) rfl ?_;simp only[dP,dW,dN,aB,aK,aM,aQ];refine⟨by omega,by omega,by omega,by omega,by omega,?_⟩;refine cK λb4 w4 hb4 hz4 hbb4 hx4=>?_;have hbb2:=hx4.at hbb2 id;have hbb3:=hx4.at hbb3 id;refine⟨ldb hbb3 rfl rfl,hp1' _ _ hx4 rfl,ldb hbb3 rfl rfl,hp0' _ _ hx4 rfl,ldb hbb3 rfl rfl,?_⟩;have hm4:=hm2.ext hx4;have l4:pC w0 w4 p L vS b4 RsT _:=hm2.loc hz4 hb4 hbb4;have hz12:w2.drew.heap.size=w2.heap.size:=rfl;have hz1':=hx1.size;refine cY (l:=[str x,str y,.slice none 0 0,i64 (-1),i64 (-1),.bool false,.bool false,.slice none 0 0,i64 b.a]) l4.at_ rfl rfl rfl λw5 hz5 hbb5 hc5=>?_;have hm5:=hm4.one hc5 l4.off;have hbb2:=hc5.at hbb2 (by omega);have hbb3:=hc5.at hbb3 (by omega);have hmodel:oA s b=(lQ s.m.fl (uD s.m.fl) [] b.attrs ⟨x,y,[],-1,-1,false,false,[],b.a⟩).bind λr=>(zQ s.m.fl 0 b.blocks r).bind λr=>if s.m.res.any (λx=>decide (x.ty=r.ty)&&decide (x.n=r.n))=true then .bad 2 b.a else .ok {s with m:={s.m with res:=s.m.res++[r]}}:=by
  rw[<-hxd,<-hyd];rfl
 rw[hmodel]at hok hbad;have hR5:oZ w0 w5 p L vS path s b4 ⟨x,y,[],-1,-1,false,false,[],b.a⟩ (.slice none 0 0) (.slice none 0 0) (λk=>k=b2\/k=b3):=
  ⟨hm5,⟨hbb5,l4.off.up hc5.size⟩,⟨by simp[kK],.inl ⟨rfl,rfl⟩⟩,⟨by simp[strs],.inl ⟨rfl,rfl⟩⟩,by rw[Gb];simp,by rw[Gb];simp,λk hk=>⟨by omega,by rw[Gb];simp;omega⟩⟩
 refine ldb hbb2 (v:=pA p) rfl ?_;refine ldb hbb3 (v:=va) rfl ?_;refine zD (M:=L.M) (fl:=s.m.fl) (path:=path) (Inv:=RsI w0 p L vS path s b2 b3 b4 [str b.typ,vl,va,vb,i64 b.a]) (take:=uD s.m.fl) (l:=b.attrs) (s:=⟨x,y,[],-1,-1,false,false,[],b.a⟩)
  (λ_ w r ⟨_,_,g,_⟩=>g.mr.mf) (λ_ w w' r hI hx=>hI.ext hx) (λw hF=>(hrow hF).2.1) hkf1 hkat
  (λj a ha r wz w1 K' hI hx hyes hno _=>Vs hFl.ch (by have:=(bS.1 ha).1;omega) hFl.few (hkat a (bI ha)) hI hx hyes hno)
  ⟨_,_,hR5,hbb2,hbb3,by simp,by simp⟩ ?_ (λc a hR=>hbad c a (by rw[hR];rfl))
 intro r1 w6 hr1 ⟨va1,vd1,hR6,hbb2,hbb3,_,_⟩;rw[hr1]at hok hbad;simp only[RC.bind]at hok hbad;refine ldb hbb3 (v:=vb) rfl ?_;rw[eO (hrow hR6.mr.md.fo).2.2];generalize hQ:zQ s.m.fl 0 b.blocks r1=Q at*
 refine dL.go (λst w'=>∃(i:Nat) (r:Rs) (va' vd':Value),st=[i64 (i:Nat)]/\i<=b.blocks.length/\oZ w0 w' p L vS path s b4 r va' vd' (λk=>k=b2\/k=b3)/\w'.heap[b2]?=some (.cells [pA p].toArray MpT (0,0))/\w'.heap[b3]?=some (.cells [str b.typ,vl,va,vb,i64 b.a].toArray BkT (0,0))/\zQ s.m.fl i (b.blocks.drop i) r=Q)
  (λst _=>match st with|[.int _ i]=>b.blocks.length-i.toNat|_=>0) ⟨0,r1,va1,vd1,rfl,dU _,hR6,hbb2,hbb3,hQ⟩ ?_
 rintro st g w8 ⟨i,r,va2,vd2,rfl,hi,hR8,hbb2,hbb3,hq⟩;simp only[aC];rw[dI,bD];refine⟨λhlt=>?_,λhge=>?_⟩
 ·have hlt:i<b.blocks.length:=by omega
  obtain⟨k2,hk2⟩:∃z,b.blocks[i]?=some z:=⟨_,aG hlt⟩;have hkl2:=hkbs k2 (bI hk2);obtain⟨ql,qa,qb,eq,q1,q2,q3⟩:=sD hR8.mr.md.fo hkl2;obtain⟨gklt,gkat,gkbs,gkf1,gkf2,gkf3⟩:=hFl.bk k2 hkl2;have grow:=λ{w:World} (hF:FO w w0.heap.size L.M s.m.fl)=>CC hkl2 eq hF;rw[eB hlt]at hq;rw[aG hlt]at hk2;injection hk2 with hk2
  rw[hk2]at hq;simp only[zQ]at hq;generalize hxb:kC s.m.fl k2=xb at*
  refine mR (i:=i) (x:=i64 (k2:Nat)) (hrow hR8.mr.md.fo).2.2 (by rw[tL];omega) (by unfold ints;rw[fO,aG hlt,hk2];rfl) ?_;refine ldb hbb2 (v:=pA p) rfl ?_;simp only[dB,bE,bL,aI];refine hR8.mr.ld rfl ?_;refine lZ hR8.mr.md.fo.oB.sl hR8.mr.md.fo.bb.1 (by omega) hkl2 ?_;have eq':(L.M.cB.drop (k2*5)).take 5=_:=eq;rw[eq'];refine cK λb7 w9 hb7 hz9 hbb7 hx9=>?_;have hone:([str xb.typ,ql,qa,qb,i64 xb.a]:List Value).all jM=true:=by
   show(true&&(jM ql&&(jM qa&&(jM qb&&(true&&true)))))=true;rw[fV q1.sl,fV q2.sl,fV q3.sl];rfl
  refine cY (l:=[str xb.typ,ql,qa,qb,i64 xb.a]) hbb7 rfl rfl hone λw10 hz10 hbb7 hc10=>?_;have hx10:Ext w8 w10:=hx9.new hc10 (by omega);have hR10:=hR8.ext hx10;have hbb2:=hx10.at hbb2 id;have hbb3:=hx10.at hbb3 id;refine dE.cut (λst w'=>st=[]/\w'=w10/\¬(0<i/\xb.typ=BK)) ?_ ?_
  ·rw[gD];refine GdW.look (decide (xb.typ=BK)) (λ_ J hJ=>?_) λg2=>?_
   ·refine ldb hbb7 (v:=str xb.typ) rfl ?_;rw[eQ];exact hJ
   simp only[aC,fT];rw[fG,eJ];refine⟨λhc=>?_,λhc=>⟨by trivial,by trivial,λh=>?_⟩⟩
   ·have hc:0<i/\xb.typ=BK:=by
     simp only[bU,fN]at hc;exact⟨by omega,hc.2⟩
    rw[aU hc]at hq;refine ldb hbb2 (v:=pA p) rfl ?_;refine ldb hbb7 (v:=i64 xb.a) rfl ?_;exact mP hR10.mr.mf (hbad 2 xb.a (by rw[<-hq]))
   ·have:(decide ((0:Int)<(i:Int))&&decide (xb.typ=BK))=true:=by
     simp only[bU,fN];exact⟨by omega,h.2⟩
    rw[this]at hc;cases hc
  rintro st g3 w11 ⟨rfl,rfl,hn1⟩;rw[aL hn1]at hq;refine dE.cut (λst w'=>st=[]/\w'=w11/\¬(xb.typ≠BK\/xb.labels≠[])) ?_ ?_
  ·refine ldb hbb7 (v:=str xb.typ) rfl ?_;rw[gA];have hlen:=eO (grow hR10.mr.md.fo).1;refine GdW.look (decide (xb.labels≠[])) (λ_ J hJ=>?_) λg2=>?_
   ·refine ldb hbb7 (v:=ql) rfl ?_;rw[hlen,gD];have e:decide ((0:Int)<(xb.labels.length:Int))=decide (xb.labels≠[]):=decide_eq_decide.2 ⟨λh e=>by rw[e]at h;simp at h,λh=>by have:=iG.2 h;omega⟩;rw[e];exact hJ
   simp only[aC,iB];rw[lG,eJ];refine⟨λhc=>?_,λhc=>⟨by trivial,by trivial,λh=>?_⟩⟩
   ·have hc:xb.typ≠BK\/xb.labels≠[]:=by
     simp only[gK,fN]at hc;exact hc
    rw[aU hc]at hq;refine ldb hbb2 (v:=pA p) rfl ?_;refine ldb hbb7 (v:=i64 xb.a) rfl ?_;exact mP hR10.mr.mf (hbad 110 xb.a (by rw[<-hq]))
   ·have:(decide (xb.typ≠[108,105,102,101,99,121,99,108,101])||decide (xb.labels≠[]))=true:=by
     simp only[gK,fN];exact h
    rw[this]at hc;cases hc
  rintro st g4 w12 ⟨rfl,rfl,hn2⟩;rw[aL hn2]at hq;refine ldb hbb2 (v:=pA p) rfl ?_;refine ldb hbb7 (v:=qa) rfl ?_;have hR12:oZ w0 w12 p L vS path s b4 r va2 vd2 (λk=>k=b2\/k=b3\/k=b7):=
   ⟨hR10.mr,hR10.at_,hR10.oa,hR10.od,hR10.nd,hR10.off,λk hk=>by
    rcases hk with hk|hk|hk
    ·exact hR10.ox k (.inl hk)
    ·exact hR10.ox k (.inr hk)
    ·subst hk;exact⟨mB hbb7,λhm=>by have:=hR8.lt k hm;omega⟩⟩
  refine zD (M:=L.M) (fl:=s.m.fl) (path:=path) (Inv:=LfI w0 p L vS path s b2 b3 b4 b7 [str b.typ,vl,va,vb,i64 b.a] [str xb.typ,ql,qa,qb,i64 xb.a] r) (take:=uV) (l:=xb.attrs) (s:=r)
   (λ_ w r ⟨_,_,g,_⟩=>g.mr.mf) (λ_ w w' r hI hx=>hI.ext hx) (λw hF=>(grow hF).2.1) gkf1 gkat
   (λj a ha r wz w1 K' hI hx hyes hno _=>Vq (gkat a (bI ha)) hI hx hyes hno)
   ⟨_,_,hR12,hbb2,hbb3,hbb7⟩ ?_ (λc a hR=>hbad c a (by rw[<-hq,hR];rfl))
  intro r3 w13 hr3 ⟨va3,vd3,hR13,hbb2,hbb3,hbb7⟩;rw[hr3]at hq;simp only[RC.bind]at hq;refine ldb hbb2 (v:=pA p) rfl ?_;refine gF hbb7 rfl ?_;have hbk:BkR w13 w0.heap.size xb [str xb.typ,ql,qa,qb,i64 xb.a]:=by
   have:=sD hR13.mr.md.fo hkl2;rw[eq,hxb]at this;exact this
  refine DU hR13.mr.mf hbk gkbs gkf2 (λw14 hB hx14=>?_) λc a hB=>hbad c a (by rw[<-hq,hB]);rw[hB]at hq;simp only at hq;rw[cJ,upi (by omega)];exact⟨⟨i+1,r3,va3,vd3,rfl,by omega,(hR13.ext hx14).less (λk hk=>hk.elim .inl λe=>.inr (.inl e)),hx14.at hbb2 id,hx14.at hbb3 id,hq⟩,by simp only[aV];omega⟩
 ·obtain rfl:i=b.blocks.length:=by omega
  rw[gU]at hq;simp only[zQ]at hq;rw[<-hq]at hok hbad;simp only at hok hbad;refine dE.cut (λst w'=>st=[]/\Ext w8 w'/\s.m.res.any (λx=>decide (x.ty=r.ty)&&decide (x.n=r.n))=false) ?_ ?_
  ·refine ldb hbb2 (v:=pA p) rfl ?_;simp only[dB,bE,bL,aI];refine hR8.mr.ld rfl ?_;refine Il (l:=s.m.res) (B:=w0.heap.size) (cs:=L.cR) (q:=λx=>decide (x.ty=r.ty)&&decide (x.n=r.n)) hR8.mr.md.oR.sl hR8.mr.md.rr (by omega) (λx hx c hc {w9 K9} hx9 hK9=>hY (caps:=[pA b4]) ?_) λw9 hx9=>?_
   ·obtain⟨ya,yd,rfl,_,_⟩:=hc;refine To ?_;unfold ZH;refine fZ λb9 w10 hb9 hz10 hbb9 hx10=>?_;have l4:=hx10.at (hx9.at hR8.at_.at_ id) id;simp only[bE,bL,aI];refine ldb hbb9 (v:=str x.ty) rfl ?_;refine ldb l4 (v:=str r.ty) rfl ?_;rw[eQ];refine GdW.look (decide (x.n=r.n)) (λ_ J hJ=>?_) λg2=>?_
    ·refine ldb hbb9 (v:=str x.n) rfl ?_;refine ldb l4 (v:=str r.n) rfl ?_;rw[eQ];exact hJ
    simp only[aC,fT];rw[fG];exact hK9 _ hx10
   ·rw[eJ];refine⟨λhany=>?_,λhany=>⟨by trivial,hx9,hany⟩⟩;refine ldb (hx9.at hbb2 id) (v:=pA p) rfl ?_;refine ldb (hx9.at hbb3 id) (v:=i64 b.a) rfl ?_;exact mP (hR8.mr.mf.ext hx9) (hbad 2 b.a (by rw[aU hany]))
  rintro st g3 w9 ⟨rfl,hx9,hany⟩;rw[aL (by rw[hany];decide)]at hok;have hx10:=hx9.trans (cQ w9);have hR10:=hR8.ext hx10;have hbb2:=hx10.at hbb2 id;refine ldb hbb2 (v:=pA p) rfl ?_;refine ldb hbb2 (v:=pA p) rfl ?_;simp only[dB,bE,bL,aI];refine hR10.mr.ld rfl ?_;refine gF hR10.at_.at_ rfl ?_;refine row_one (by rfl) (by rfl) (by omega) λt w11 ht hx11=>?_;have hR11:=hR10.ext hx11;have hbb2:=hx11.at hbb2 id;refine⟨hR11.mr.ld rfl rfl,ldb hbb2 rfl rfl,ldb hbb2 rfl rfl,?_⟩;have hone:∀u∈rsC r va2 vd2,jM u=true:=λu hu=>by
   simp only[rsC,bC,cA,gG]at hu;rcases hu with rfl|rfl|rfl|rfl|rfl|rfl|rfl|rfl|rfl<;>first|rfl|exact fV hR11.oa.sl|exact fV hR11.od.sl
  refine hR11.mr.app_R (x:=r) ht rfl hone hfew λv' w12 hO hc hn=>?_;have hbb2':=hc.at hbb2 (λe=>by
   have e:L.vR.ownBlock=some b2:=e;have h0:=hm2.in_ b2 (by rw[kB];exact aD _ (eF (v:=L.vR) (by simp[ML.vals]) e));have h1:=h.in_ b2 (by rw[kB];exact aD _ (eF (v:=L.vR) (by simp[ML.vals]) e));omega)
  refine⟨ldb hbb2' rfl rfl,?_⟩;have eub:ub (rsC r va2 vd2)=ub [va2,vd2]:=by
   unfold rsC ub;simp only[gM,lW];rfl
  refine hR11.mr.st_R (x:=r) (d:=rsC r va2 vd2) hO hc hn ⟨va2,vd2,rfl,hR11.oa,hR11.od⟩ rfl (by rw[eub];exact(dK.1 hR11.nd).2) (by rw[eub];exact hR11.off) λw13 hm13 _ _=>?_;exact hok _ {L with vR:=v',cR:=L.cR++rsC r va2 vd2} vS _ rfl rfl hm13
end
theorem Mz{A B:List Value}{p:Nat}{v':Value}(hn:(p::ub (A++v::B)).Nodup)(hb:∀k,v'.ownBlock=some k->v.ownBlock=some k\/k∉p::ub (A++v::B)):(p::ub (A++v'::B)).Nodup:=by
 have e:∀u:Value,ub (A++u::B)=ub A++(u.ownBlock.toList++ub B):=λu=>by
  rw[nL];congr 1;unfold ub;rw[gM];cases u.ownBlock<;>rfl
 rw[e]at hn hb⊢;cases hv:v'.ownBlock with
 |none=>
  refine hn.sublist ?_;simp only[Option.toList_none,gB];exact(qN (uK _ _) _).cons_cons _
 |some k=>
  rcases hb k hv with h|h
  ·rw[h]at hn;exact hn
  ·have hn2:(p::(ub A++ub B)).Nodup:=hn.sublist ((qN (uK _ _) _).cons_cons _);have:(p::(ub A++([k]++ub B))).Perm (k::p::(ub A++ub B)):=by
    refine(List.Perm.cons p ?_).trans (List.Perm.swap _ _ _);exact mT
   refine(this.nodup_iff).2 (dK.2 ⟨λhm=>h ?_,hn2⟩);rcases bC.1 hm with e|hm
   ·rw[e];exact aW
   ·refine aD _ ?_;rcases bK.1 hm with hm|hm
    ·exact cD _ hm
    ·exact bP _ (bP _ hm)
theorem MR.put_CS[FK]{w0 w2:World}{p:Nat}{L:ML}{vS:Value}{path:Str}{s:MS}{vC' vS':Value}{x:Cl}{y:Str}{d:List Value}(h:MR w0 w p L vS path s)(hoC:Own w2 w0.heap.size ClT 4 vC' (s.m.calls.length+1) (L.cC++d))(hoS:Own w2 w0.heap.size StT 1 vS' (s.src.length+1) (strs s.src++strs [y]))
  (hc:Chg (λk=>L.vC.ownBlock=some k\/vS.ownBlock=some k\/k=p) w w2)(hnC:∀k,vC'.ownBlock=some k->L.vC.ownBlock=some k\/w.heap.size<=k)(hnS:∀k,vS'.ownBlock=some k->vS.ownBlock=some k\/w.heap.size<=k)(hne:∀k,vC'.ownBlock=some k->vS'.ownBlock≠some k)
  (hx:ClR w w0.heap.size x d)(hl:d.length=4)(hd:(ub d).Nodup)(hf:∀k∈ub d,uI w0 w p L vS k)(hp:w2.heap[p]?=some (.cells (({L with vC:=vC',cC:=L.cC++d}:ML).cells s.m.dir++[str path,vS']).toArray MoT (0,0))):
  MR w0 w2 p {L with vC:=vC',cC:=L.cC++d} vS' path ⟨{s.m with calls:=s.m.calls++[x]},s.src++[y]⟩:=by
 have hnd:=h.nd;have hin:=h.in_;rw[kB]at hnd hin;have hz:=hc.size;have eA:[vS]++L.vals=([vS]++(([L.M.vE,L.M.vB,L.M.vT]++(L.M.cE++L.M.cB))++[L.vV,L.vL,L.vO,L.vR]))++L.vC::(L.cR++L.cC):=by simp[ML.vals]
 have hndS:(p::ub ([]++vS::L.vals)).Nodup:=hnd;have hndC:=hnd;rw[eA]at hndC;have othC:=rY hndC;have othS:=rY hndS;have oth:∀v∈([L.M.vE,L.M.vB,L.M.vT]++(L.M.cE++L.M.cB))++([L.vV,L.vL,L.vO,L.vR]++(L.cR++L.cC)),∀k,v.ownBlock=some k->¬(L.vC.ownBlock=some k\/vS.ownBlock=some k\/k=p):=λv hv k hk e=>by
  have h1:v∈([vS]++(([L.M.vE,L.M.vB,L.M.vT]++(L.M.cE++L.M.cB))++[L.vV,L.vL,L.vO,L.vR]))++(L.cR++L.cC):=by
   simp only[bK,bC,cA,gG]at hv⊢
   grind
  have h2:v∈([]:List Value)++L.vals:=by
   simp only[ML.vals,bK,bC,cA,gG,false_or]at hv⊢
   grind
  rcases e with e|e|e
  ·exact othC v h1 k hk (.inl e)
  ·exact othS v h2 k hk (.inl e)
  ·exact othS v h2 k hk (.inr e)
 have own:∀{v:Value} {e:TypeId} {n m:Nat} {xs:List Value},Own w w0.heap.size e m v n xs->v∈([L.M.vE,L.M.vB,L.M.vT]++(L.M.cE++L.M.cB))++([L.vV,L.vL,L.vO,L.vR]++(L.cR++L.cC))->Own w2 w0.heap.size e m v n xs:=λh hv=>eG h hc (oth _ hv);have hxd:=hx.at_ hc λk hk e=>by
  have h1:=(hf k hk).2.2.1;rw[kB]at h1;rcases e with e|e|e
  ·exact h1 (aD _ (eF (v:=L.vC) (by simp[ML.vals]) e))
  ·exact h1 (aD _ (eF (v:=vS) (by simp) e))
  ·exact h1 (by rw[e];exact aW)
 have hcl:kO (ClR w2 w0.heap.size) 4 s.m.calls L.cC:=h.md.cc.imp λy e he hy=>hy.at_ hc λk hk=>by
  obtain⟨v,hv,hk⟩:=bZ.1 hk;exact oth v (by simp[he v hv]) k hk
 refine⟨h.ch.then hc λk hk e=>?_,hp,⟨h.md.fo.keep hc λk _ _ hk=>?_,own h.md.oV (by simp),own h.md.oL (by simp),own h.md.oO (by simp),own h.md.oR (by simp),by rw[aP];exact hoC,h.md.rr.imp λy e he hy=>hy.at_ hc λk hk=>?_,hcl.snoc hxd hl,λk hk=>?_⟩,by rw[Ay,aP];exact hoS,?_,h.lp,?_⟩
 ·rcases e with e|e|e
  ·have:=(hin k (aD _ (eF (v:=L.vC) (by simp[ML.vals]) e))).2;omega
  ·have:=(hin k (aD _ (eF (v:=vS) (by simp) e))).2;omega
  ·have:=h.lp;omega
 ·obtain⟨v,hv,hk⟩:=bZ.1 hk;exact oth v (cD _ hv) k hk
 ·obtain⟨v,hv,hk⟩:=bZ.1 hk;exact oth v (by simp[he v hv]) k hk
 ·obtain⟨v,hv,hkv⟩:=bZ.1 hk;have hv:v=vC'\/v∈[vS]++L.vals\/v∈d:=by
   simp only[ML.vals,bK,bC,cA,gG]at hv⊢
   grind
  rcases hv with rfl|hv|hv
  ·exact kJ hoC hkv
  ·have:=hin k (aD _ (eF hv hkv));omega
  ·have h0:=hf k (eF hv hkv);exact⟨dD h0.2.1 hz,h0.1⟩
 ·have s1:(p::ub ([]++vS'::L.vals)).Nodup:=As (z:=w.heap.size) hndS hnS λk hk=>(hin k hk).1;have e1:[]++vS'::L.vals=([vS']++(([L.M.vE,L.M.vB,L.M.vT]++(L.M.cE++L.M.cB))++[L.vV,L.vL,L.vO,L.vR]))++L.vC::(L.cR++L.cC):=by simp[ML.vals]
  have in1:∀k∈p::ub ([]++vS'::L.vals),k∈p::ub ([vS]++L.vals)\/vS'.ownBlock=some k:=λk hk=>by
   rcases bC.1 hk with e|hk
   ·exact .inl (by rw[e];exact aW)
   ·obtain⟨v,hv,hkv⟩:=bZ.1 hk;rcases bC.1 hv with rfl|hv
    ·exact .inr hkv
    ·exact .inl (aD _ (eF (bP _ hv) hkv))
  have lt1:∀k∈p::ub ([]++vS'::L.vals),vC'.ownBlock=some k->w.heap.size<=k->False:=λk hk hv hw=>by
   rcases in1 k hk with e|e
   ·have:=(hin k e).1;omega
   ·exact hne k hv e
  rw[e1]at s1 lt1;have s2:=Mz (v':=vC') s1 λk hk=>(hnC k hk).imp id λe hm=>lt1 k hm hk e;rw[kB];have e2:([vS']++(([L.M.vE,L.M.vB,L.M.vT]++(L.M.cE++L.M.cB))++[L.vV,L.vL,L.vO,L.vR]))++vC'::(L.cR++L.cC)=(([vS']++(([L.M.vE,L.M.vB,L.M.vT]++(L.M.cE++L.M.cB))++[L.vV,L.vL,L.vO,L.vR]))++vC'::(L.cR++L.cC))++[]:=by simp
  have e3:[vS']++({L with vC:=vC',cC:=L.cC++d}:ML).vals=(([vS']++(([L.M.vE,L.M.vB,L.M.vT]++(L.M.cE++L.M.cB))++[L.vV,L.vL,L.vO,L.vR]))++vC'::(L.cR++L.cC))++(d++[]):=by simp[ML.vals]
  rw[e2]at s2;rw[e3];refine MA s2 hd λk hk hm=>?_;have h0:=hf k hk;have h1:=h0.2.2.1;rw[kB]at h1;rw[<-e2]at hm;rcases bC.1 hm with rfl|hm
  ·exact h1 aW
  ·obtain⟨v,hv,hkv⟩:=bZ.1 hm;have hv:v=vC'\/v=vS'\/v∈[vS]++L.vals:=by
    simp only[ML.vals,bK,bC,cA,gG]at hv⊢
    grind
   have h2:=h0.2.1;rcases hv with rfl|rfl|hv
   ·rcases hnC k hkv with e|e
    ·exact h1 (aD _ (eF (v:=L.vC) (by simp[ML.vals]) e))
    ·omega
   ·rcases hnS k hkv with e|e
    ·exact h1 (aD _ (eF (v:=vS) (by simp) e))
    ·omega
   ·exact h1 (aD _ (eF hv hkv))
 ·intro k o hk;obtain⟨g1,g2⟩:=h.fk k o hk;have g3:=mB g1;rw[kB]at g2;refine⟨hc.at g1 λe=>?_,λhm=>?_⟩
  ·rcases e with e|e|e
   ·exact g2 (aD _ (eF (v:=L.vC) (by simp[ML.vals]) e))
   ·exact g2 (aD _ (eF (v:=vS) (by simp) e))
   ·exact g2 (by rw[e];exact aW)
  ·rw[kB]at hm;rcases bC.1 hm with e|hm
   ·exact g2 (by rw[e];exact aW)
   obtain⟨v,hv,hkv⟩:=bZ.1 hm;have hv:v=vC'\/v=vS'\/v∈[vS]++L.vals\/v∈d:=by
    simp only[ML.vals,bK,bC,cA,gG]at hv⊢
    grind
   rcases hv with rfl|rfl|hv|hv
   ·rcases hnC k hkv with e|e
    ·exact g2 (aD _ (eF (v:=L.vC) (by simp[ML.vals]) e))
    ·omega
   ·rcases hnS k hkv with e|e
    ·exact g2 (aD _ (eF (v:=vS) (by simp) e))
    ·omega
   ·exact g2 (aD _ (eF hv hkv))
   ·exact(hf k (eF hv hkv)).2.2.2 o hk
section
variable [HX]
variable [FK]{w0 w w1 w':World}{p:Nat}{L:ML}{vS:Value}{path:Str}{s:MS}{b3 b4 b5:Nat}{n:Str}{ca:Int}{x:List Atr×Str}{va:Value}{O:Nat->Prop}
structure qC(w0 w:World)(p:Nat)(L:ML)(vS:Value)(path:Str)(s:MS)(b4 b5:Nat)(n:Str)(ca:Int)(x:List Atr×Str)(va:Value)(O:Nat->Prop):Prop where
 mr:MR w0 w p L vS path s
 at_:pC w0 w p L vS b4 ClT [str n,i64 0,va,i64 ca]
 as_:pC w0 w p L vS b5 StT [str x.2]
 oa:Own w w0.heap.size AtT 3 va x.1.length (kK x.1)
 nv:∀k,va.ownBlock=some k->uI w0 w p L vS k/\k≠b4/\k≠b5
 ne:b4≠b5
 ox:∀k,O k->k<w.heap.size/\k≠b4/\k≠b5/\va.ownBlock≠some k
theorem qC.ext(h:qC w0 w p L vS path s b4 b5 n ca x va O)(hx:Ext w w'):qC w0 w' p L vS path s b4 b5 n ca x va O:=
 ⟨h.mr.ext hx,h.at_.ext hx,h.as_.ext hx,h.oa.ext hx,λk hk=>⟨(h.nv k hk).1.up hx.size,(h.nv k hk).2⟩,h.ne,λk hk=>⟨dD (h.ox k hk).1 hx.size,(h.ox k hk).2⟩⟩
theorem qC.kp(h:qC w0 w p L vS path s b4 b5 n ca x va O)(hx:Ext w w'):Kp O w w':=Oc hx λk hk=>(h.ox k hk).1
theorem qC.less{O':Nat->Prop}(h:qC w0 w p L vS path s b4 b5 n ca x va O)(hO:∀k,O' k->O k):qC w0 w p L vS path s b4 b5 n ca x va O':=⟨h.mr,h.at_,h.as_,h.oa,h.nv,h.ne,λk hk=>h.ox k (hO k hk)⟩
theorem qC.wide{z1 z2:Nat}(h:qC w0 w p L vS path s b4 b5 n ca x va O)(h4:b4<z1)(h5:b5<z1)(hv:∀k,va.ownBlock=some k->k<z1)(h2:z2<=w.heap.size):qC w0 w p L vS path s b4 b5 n ca x va (λk=>O k\/(z1<=k/\k<z2)):=
 ⟨h.mr,h.at_,h.as_,h.oa,h.nv,h.ne,λk hk=>hk.elim (h.ox k) λe=>⟨by omega,by omega,by omega,λhm=>by have:=hv k hm;omega⟩⟩
theorem qC.push{a:Atr}{t:Value}{KW:World->Prop}(h:qC w0 w p L vS path s b4 b5 n ca x va O)(ht:SlAt w AtT t 1 (kK [a]))(hfew:x.1.length<=10000000000)
  (hK:∀va' w',qC w0 w' p L vS path s b4 b5 n ca (x.1++[a],x.2) va' O->Kp O w w'->KW w'):
  fY P0 (Builtin.append_ #[36,36] 36 #[va,t]) w λt15 w13=>aR 2 (.pointer (some ⟨b4,0,none⟩)) λt16=>stW 1 t16 t15 w13 KW:=by
 refine jL Ie h.oa ht rfl (λu hu=>by simp only[kK,gL,Bj,fX,bC,cA,gG]at hu;rcases hu with rfl|rfl|rfl<;>rfl) (by omega) (by omega) h.mr.base λv' w1 hO hc hn=>?_;have hz:=hc.size;have h4:va.ownBlock≠some b4:=λe=>(h.nv b4 e).2.1 rfl;have h5:va.ownBlock≠some b5:=λe=>(h.nv b5 e).2.2 rfl;have hm1:=uA h.mr hc λk hk=>(h.nv k hk).1;have hn1:=Gu h.mr hz hn (λk hk=>(h.nv k hk).1) λk hk=>(kJ hO hk).1;have hne:∀k,v'.ownBlock=some k->k≠b4/\k≠b5:=λk hk=>by
  have l4:=h.at_.lt;have l5:=h.as_.lt;rcases hn k hk with e|e
  ·exact(h.nv k e).2
  ·exact⟨by omega,by omega⟩
 rw[bE,bL,aI];refine kQ (hc.at h.at_.at_ h4) (fV hO.sl) (by simp) λw2 hz2 hb2 hc2=>?_;refine hK v' w2 ⟨uA hm1 hc2 λk e=>by have e:k=b4:=e;exact e▸h.at_.off.up hz,⟨by rw[hb2];simp,h.at_.off.up (by omega)⟩,⟨hc2.at (hc.at h.as_.at_ h5) (λe=>h.ne (by have e:b5=b4:=e;exact e.symm)),h.as_.off.up (by omega)⟩,?_,λk hk=>⟨(hn1 k hk).up (by omega),hne k hk⟩,h.ne,λk hk=>?_⟩ ⟨by omega,λk hk=>?_⟩
 ·show Own w2 _ _ _ v' (x.1++[a]).length (kK (x.1++[a]));rw[Bf,aP];exact eG hO hc2 λk hk=>(hne k hk).1
 ·have h0:=h.ox k hk;refine⟨by omega,h0.2.1,h0.2.2.1,λe=>?_⟩;rcases hn k e with e|e
  ·exact h0.2.2.2 e
  ·omega
 ·have h0:=h.ox k hk;rw[hc2.heap k (by omega) h0.2.1,hc.heap k h0.1 h0.2.2.2]
theorem qC.src{y:Str}{KW:World->Prop}(h:qC w0 w p L vS path s b4 b5 n ca x va O)(hK:∀w',qC w0 w' p L vS path s b4 b5 n ca (x.1,y) va O->Kp O w w'->KW w'):stW 1 (.pointer (some ⟨b5,0,none⟩)) (str y) w KW:=by
 refine kQ h.as_.at_ rfl (by simp) λw2 hz2 hb2 hc2=>?_;refine hK w2 ⟨uA h.mr hc2 λk e=>by have e:k=b5:=e;exact e▸h.as_.off,⟨hc2.at h.at_.at_ h.ne,h.at_.off.up hc2.size⟩,⟨by rw[hb2];simp,h.as_.off.up hc2.size⟩,eG h.oa hc2 λk hk=>(h.nv k hk).2.2,λk hk=>⟨(h.nv k hk).1.up hc2.size,(h.nv k hk).2⟩,h.ne,λk hk=>⟨by rw[hz2];exact(h.ox k hk).1,(h.ox k hk).2⟩⟩ ⟨hc2.size,λk hk=>hc2.heap k (h.ox k hk).1 (h.ox k hk).2.2.1⟩
def ClI(w0:World)(p:Nat)(L:ML)(vS:Value)(path:Str)(s:MS)(b3 b4 b5:Nat)(c3:List Value)(n:Str)(ca:Int)(j:Nat)(w:World)(x:List Atr×Str):Prop:=
 ∃va,qC w0 w p L vS path s b4 b5 n ca x va (λk=>k=b3)/\w.heap[b3]?=some (.cells c3.toArray BkT (0,0))/\x.1.length<=j
theorem ClI.ext{c3:List Value}{j:Nat}(h:ClI w0 p L vS path s b3 b4 b5 c3 n ca j w x)(hx:Ext w w'):ClI w0 p L vS path s b3 b4 b5 c3 n ca j w' x:=by
 obtain⟨va,g1,g2,g3⟩:=h;exact⟨va,g1.ext hx,hx.at g2 id,g3⟩
theorem JG{x:List Atr×Str}{a:Atr}{e:Ex}(h:¬a.n=AC):yC x a e=.ok (x.1++[a],x.2):=by unfold yC;rw[aL h]
theorem Mb{x:List Atr×Str}{a:Atr}{e:Ex}(h:a.n=AC):yC x a e=if e.k=5/\kS e.t=true then .ok (x.1,e.t)else .bad 110 a.a:=by unfold yC;rw[aU h]
theorem Sq{c3:List Value}{j:Nat}{a:Atr}{wz:World}{K':Q0}(hj:j<=1000000)(hA:ChA s.m.fl)(hae:a.e<s.m.fl.ex.length)(hI:ClI w0 p L vS path s b3 b4 b5 c3 n ca j wz x)(hx1:Ext wz w1)
  (hyes:∀x' w',yC x a (lH s.m.fl a.e)=.ok x'->ClI w0 p L vS path s b3 b4 b5 c3 n ca (j+1) w' x'->K' (.bool true) w')
  (hno:∀w',yC x a (lH s.m.fl a.e)=.bad 110 a.a->Mf w0 w' p L.M path s.m.fl->(∀k,wz.heap.size<=k->k<w1.heap.size->w'.heap[k]?=w1.heap[k]?)->K' (.bool false) w'):
  nV P0 (.func (.func 186) #[] [pA b4,pA b5].toArray) [.agg [str a.n,i64 (a.e:Nat),i64 a.a].toArray,.agg (xcc L.M a.e).toArray] w1 K':=by
 obtain⟨va,hR0,hb3,hl1⟩:=hI;refine hY (caps:=[pA b4,pA b5]) ?_;refine Tm ?_;unfold ZG;refine fZ λb6 w6 hb6 hz6 hbb6 hx6=>?_;obtain⟨ua,uk,eu,hu,_⟩:=wZ hR0.mr.md.fo hae;rw[eu];refine fZ λb7 w7 hb7 hz7 hbb7 hx7=>?_;have hx17:=hx6.trans hx7;have hxz:=hx1.trans hx17;have hbb6:=hx7.at hbb6 id;have hz1:=hx1.size;have hft:=(hA.few _ (bI (tN hae))).2;generalize he:lH s.m.fl a.e=e at*
 have hR:=(hR0.ext hxz).wide (z1:=wz.heap.size) (z2:=w7.heap.size) hR0.at_.lt hR0.as_.lt (λk hk=>(hR0.nv k hk).1.2.1) (aZ _);generalize hO:(λk=>(k=b3)\/(wz.heap.size<=k/\k<w7.heap.size))=O at hR;have o3:O b3:=by rw[<-hO];exact .inl rfl
 have oz:∀k,wz.heap.size<=k->k<w7.heap.size->O k:=λk h1 h2=>by rw[<-hO];exact .inr ⟨h1,h2⟩
 have ol:∀k,(k=b3)->O k:=λk h=>by rw[<-hO];exact .inl h
 have o6:=oz b6 (by omega) (by omega);have o7:=oz b7 (by omega) (by omega);have hb3:=hxz.at hb3 id;have fin:∀{w':World},Kp O w7 w'->∀k,wz.heap.size<=k->k<w1.heap.size->w'.heap[k]?=w1.heap[k]?:=λhk k h1 h2=>by
  have:=hx17.size;rw[hk.2 k (oz k h1 (by omega)),hx17.heap k h2 id]
 simp only[bE,bL,aI];refine ldb hbb6 (v:=str a.n) rfl ?_;rw[gA,bD];refine⟨λn1=>?_,λn1=>?_⟩
 ·have n1:¬a.n=AC:=n1;refine ldb hR.at_.at_ (v:=va) rfl ?_;refine gF hbb6 rfl ?_;refine row_one (by rfl) (by rfl) (by omega) λt w8 ht hx8=>?_;have hR8:=hR.ext hx8;have:=hR8.push (a:=a) (KW:=λw5=>K' (.bool true) w5) ht (by omega) λva' w9 hR9 hk9=>hyes _ w9 (JG n1) ⟨va',hR9.less ol,((hR.kp hx8).trans hk9).at hb3 o3,by simp;omega⟩;simp only[bE,bL,aI]at this;exact this
 ·have n1:a.n=AC:=lI n1;refine ldb hbb7 (v:=str e.t) rfl ?_;refine hR.src λw8 hR8 hk8=>?_;refine ldb (hk8.at hbb7 o7) (v:=i64 e.k) rfl ?_;rw[cL];refine GdW.look (kS e.t) (λ_ J hJ=>?_) λg2=>?_
  ·refine ldb (hk8.at hbb7 o7) (v:=str e.t) rfl ?_;exact Kj (by omega) hJ
  simp only[aC,fT];rw[fG];have hm:=Mb (x:=x) (e:=e) n1;by_cases hone:e.k=5/\kS e.t=true
  ·rw[aU hone]at hm;rw[bW hone.1,hone.2];exact hyes _ w8 hm ⟨va,hR8.less ol,hk8.at hb3 o3,by show x.1.length<=_;omega⟩
  ·rw[aL hone]at hm;have:(decide (e.k=5)&&kS e.t)=false:=by
    cases h1:decide (e.k=5)with
    |false=>rfl
    |true=>
     cases h2:kS e.t with
     |false=>rfl
     |true=>exact absurd ⟨eK h1,h2⟩ hone
   rw[this];exact hno w8 hm hR8.mr.mf (fin hk8)
theorem IS{x:Str}{K:Q0}(hK:∀t w',SlAt w' StT t 1 (strs [x])->(∀k,t.ownBlock=some k->w.heap.size<=k)->Ext w w'->K t w'):gO StT 1 [.string (ofL [])] [(0,1,str x)] w K:=by
 rw[gO];simp only[dW,dN,aB,aK,aM];refine⟨by omega,?_⟩;refine hK _ _ ⟨_,_,rfl,aZ _,λe=>(by cases e),λ_=>⟨_,_,_,_,rfl,kF _ _ _ rfl,λi _=>by rw[aI,bN];rfl⟩⟩ (λk hk=>by cases hk;exact aZ _) (Chg.alloc (Chg.refl _ _) _)
theorem Oh{wA w17 w18:World}{vC' t:Value}{KW:World->Prop}(hR:qC w0 wA p L vS path s b4 b5 n ca x va O)(hO:Own w17 w0.heap.size ClT 4 vC' (s.m.calls.length+1) (L.cC++[str n,i64 0,va,i64 ca]))(hc:Chg (λk=>L.vC.ownBlock=some k) wA w17)(hn:∀k,vC'.ownBlock=some k->L.vC.ownBlock=some k\/wA.heap.size<=k)
  (hx:Ext w17 w18)(ht:SlAt w18 StT t 1 (strs [x.2]))(hfew:s.src.length<=100000000000)(hK:∀L' vS' w21,L'.M=L.M->MR w0 w21 p L' vS' path ⟨{s.m with calls:=s.m.calls++[⟨n,0,x.1,ca⟩]},s.src++[x.2]⟩->KW w21):
  fY P0 (Builtin.append_ #[33,33] 33 #[vS,t]) w18 λt54 w19=>stW 1 (.pointer (some ⟨p,8,none⟩)) vC' w19 λw20=>stW 1 (.pointer (some ⟨p,10,none⟩)) t54 w20 KW:=by
 have hm:=hR.mr;have hvS:vS∈[vS]++L.vals:=by simp
 have hvC:L.vC∈[vS]++L.vals:=by simp[ML.vals]
 have hnd:=hm.nd;rw[kB]at hnd;have hSC:∀k,vS.ownBlock=some k->L.vC.ownBlock≠some k:=λk hk e=>by
  have hndS:(p::ub ([]++vS::L.vals)).Nodup:=hnd;exact rY hndS L.vC (by simp[ML.vals]) k e (.inl hk)
 have lt:∀{v:Value},v∈[vS]++L.vals->∀k,v.ownBlock=some k->k<wA.heap.size:=λhv k hk=>(hm.in_ k (by rw[kB];exact aD _ (eF hv hk))).1;have hoS17:=eG hm.oS hc λk hk=>hSC k hk;have hoS18:=hoS17.ext hx;have z1:=hc.size;have z2:=hx.size;have zb:=hm.base;refine jL Fy hoS18 ht rfl (λu hu=>by simp only[strs,fW,kV,bC,cA,gG]at hu;subst hu;rfl) (by omega) (by omega) (by omega) λvS' w19 hO2 hc2 hn2=>?_;have z3:=hc2.size;have hpl:=hm.plt;have hCS:∀k,vC'.ownBlock=some k->vS.ownBlock≠some k:=λk hk e=>by
  rcases hn k hk with h|h
  ·exact hSC k e h
  ·have:=lt hvS k e;omega
 have hCp:∀k,vC'.ownBlock=some k->k≠p:=λk hk e=>by
  rcases hn k hk with h|h
  ·exact hm.val_ne hvC k h e
  ·omega
 have hSp:∀k,vS'.ownBlock=some k->k≠p:=λk hk e=>by
  rcases hn2 k hk with h|h
  ·exact hm.val_ne hvS k h e
  ·omega
 have hp19:=hc2.at (hx.at (hc.at hm.pm λe=>hm.val_ne hvC p e rfl) id) λe=>hm.val_ne hvS p e rfl;refine kQ hp19 (fV hO.sl) (by simp[ML.cells]) λw20 hz20 hb20 hc20=>?_;refine kQ hb20 (fV hO2.sl) (by simp[ML.cells]) λw21 hz21 hb21 hc21=>?_;have hcp:Chg (One p) w19 w21:=hc20.trans hc21;refine hK {L with vC:=vC',cC:=L.cC++[str n,i64 0,va,i64 ca]} vS' w21 rfl ?_;have eub:ub [str n,i64 0,va,i64 ca]=ub [va]:=by
  unfold ub;simp only[gM,lW];rfl
 refine hm.put_CS (x:=⟨n,0,x.1,ca⟩) (d:=[str n,i64 0,va,i64 ca]) (eG (eG (hO.ext hx) hc2 λk hk=>hCS k hk) hcp λk hk=>hCp k hk) (eG hO2 hcp λk hk=>hSp k hk) ?_ hn (λk hk=>(hn2 k hk).imp id (by omega)) ?_ ⟨va,rfl,hR.oa⟩ rfl ?_ ?_ ?_
 ·have h1:Chg (λk=>L.vC.ownBlock=some k\/vS.ownBlock=some k\/k=p) wA w18:=(hc.mono λ_ _ e=>.inl e).trans (Chg.of_ext hx);exact(h1.trans (hc2.mono λ_ _ e=>.inr (.inl e))).trans (hcp.mono λ_ _ e=>.inr (.inr e))
 ·intro k hk e;rcases hn2 k e with h|h
  ·exact hCS k hk h
  ·have:=(kJ hO hk).1;omega
 ·rw[eub];unfold ub;simp only[gM,lW];cases va.ownBlock<;>simp
 ·rw[eub];intro k hk;exact(hR.nv k (jW.1 hk)).1
 ·rw[hb21];simp[ML.cells]
theorem Xb{k:Nat}{K:Q0}(h:MR w0 w p L vS path s)(hFl:FlA s.m.fl L.M)(hk:k<s.m.fl.bl.length)(hl:1<=(kC s.m.fl k).labels.length)(hfew:s.m.calls.length<=100000000000)(hfew2:s.src.length<=100000000000)
  (hok:∀s' L' vS' w',zW s (kC s.m.fl k)=.ok s'->L'.M=L.M->MR w0 w' p L' vS' path s'->K (.tuple #[]) w')(hbad:∀c a,zW s (kC s.m.fl k)=.bad c a->TC w0 path c a):
  aJ P0 142 [pA p,.agg (bcc L.M k).toArray] w K:=by
 obtain⟨vl,va,vb,ec,h1,h2,h3⟩:=sD h.md.fo hk;obtain⟨hklt,hkat,hkbs,hkf1,hkf2,hkf3⟩:=hFl.bk k hk;have hfa:=hFl.fa k hk;have hrow:=λ{w:World} (hF:FO w w0.heap.size L.M s.m.fl)=>CC hk ec hF;generalize hb:kC s.m.fl k=b at*
 rw[ec];refine TV ?_;unfold aAi;refine fZ λb3 w1 hb3 hz1 hbb3 hx1=>?_;have hx02:=hx1.trans (cQ w1);have hm2:=h.ext hx02;have hbb3:w1.drew.heap[b3]?=some (.cells [str b.typ,vl,va,vb,i64 b.a].toArray BkT (0,0)):=hbb3;obtain⟨x,hx⟩:∃x,b.labels[0]?=some x:=⟨_,aG (by omega)⟩;have hxd:b.labels.getD 0 []=x:=by rw[bR,hx];rfl
 obtain⟨p0,hp0,hp0'⟩:=vA (k:=.i64) (i:=0) (u:=str x) (hrow hm2.md.fo).1 (by rw[tC];omega) (by unfold strs;rw[fO,hx];rfl);simp only[bE,bL,aI];refine ldb hbb3 (v:=vl) rfl (hp0 _ (hp0' _ _ (Chg.refl _ _) ?_));refine ldb hbb3 (v:=i64 b.a) rfl ?_;simp only[dP,dW,dN,aB,aK,aM,aQ];refine⟨by omega,by omega,?_⟩;refine cK λb4 w4 hb4 hz4 hbb4 hx4=>?_;have hbb3:=hx4.at hbb3 id;refine⟨ldb hbb3 rfl rfl,hp0' _ _ hx4 rfl,ldb hbb3 rfl rfl,?_⟩;have hm4:=hm2.ext hx4;have l4:pC w0 w4 p L vS b4 ClT _:=hm2.loc hz4 hb4 hbb4;have hz12:w1.drew.heap.size=w1.heap.size:=rfl;refine cY (l:=[str x,i64 0,.slice none 0 0,i64 b.a]) l4.at_ rfl rfl rfl λw5 hz5 hbb5 hc5=>?_;have hm5:=hm4.one hc5 l4.off;have hbb3:=hc5.at hbb3 (by omega);refine cK λb5 w6 hb5 hz6 hbb6 hx6=>?_;have hm6:=hm5.ext hx6;have l5:pC w0 w6 p L vS b5 StT _:=hm5.loc hz6 hb5 hbb6;refine kQ l5.at_ rfl (by simp) λw7 hz7 hbb7 hc7=>?_;have hm7:=hm6.one hc7 l5.off;have hbb3:=hc7.at (hx6.at hbb3 id) (by omega);have hbb4:=hc7.at (hx6.at hbb5 id) (by omega);have hmodel:zW s b=(lQ s.m.fl yC [] b.attrs ([],[])).bind λr=>(tO s.m.fl b).bind λ_=>if r.2=[]then .bad 110 b.a else if s.m.calls.any (λy=>decide (y.n=x))=true then .bad 2 b.a else .ok ⟨{s.m with calls:=s.m.calls++[⟨x,0,r.1,b.a⟩]},s.src++[r.2]⟩:=by
  rw[<-hxd];rfl
 rw[hmodel]at hok hbad;have hR7:qC w0 w7 p L vS path s b4 b5 x b.a ([],[]) (.slice none 0 0) (λk=>k=b3):=
  ⟨hm7,⟨hbb4,l4.off.up (w':=w7) (by omega)⟩,⟨by rw[hbb7];simp,l5.off.up hc7.size⟩,⟨by simp[kK],.inl ⟨rfl,rfl⟩⟩,λk hk=>(by cases hk),by omega,λk hk=>⟨by omega,by omega,by omega,λe=>(by cases e)⟩⟩
 refine ldb hbb3 (v:=va) rfl ?_;refine zD (M:=L.M) (fl:=s.m.fl) (path:=path) (Inv:=ClI w0 p L vS path s b3 b4 b5 [str b.typ,vl,va,vb,i64 b.a] x b.a) (take:=yC) (l:=b.attrs) (s:=([],[]))
  (λ_ w r ⟨_,g,_⟩=>g.mr.mf) (λ_ w w' r hI hx=>hI.ext hx) (λw hF=>(hrow hF).2.1) hkf1 hkat
  (λj a ha r wz w1 K' hI hx hyes hno _=>Sq (by have:=(bS.1 ha).1;omega) hFl.ch (hkat a (bI ha)) hI hx hyes hno)
  ⟨_,hR7,hbb3,by simp⟩ ?_ (λc a hR=>hbad c a (by rw[hR];rfl))
 intro r w8 hr ⟨va8,hR8,hbb3,hfl8⟩;rw[hr]at hok hbad;simp only[RC.bind]at hok hbad;refine gF hbb3 rfl ?_;have hbk:BkR w8 w0.heap.size b [str b.typ,vl,va,vb,i64 b.a]:=by
  have:=sD hR8.mr.md.fo hk;rw[ec,hb]at this;exact this
 refine DU hR8.mr.mf hbk hkbs hkf2 (λw9 hB hx9=>?_) λc a hB=>hbad c a (by rw[hB]);rw[hB]at hok hbad;simp only at hok hbad;have hR9:=hR8.ext hx9;have hbb3:=hx9.at hbb3 id;refine dE.cut (λst w'=>st=[]/\w'=w9/\¬r.2=[]) ?_ ?_
 ·refine ldb hR9.as_.at_ (v:=str r.2) rfl ?_;rw[eQ,bD];refine⟨λe=>?_,λe=>⟨by trivial,by trivial,e⟩⟩;refine ldb hbb3 (v:=i64 b.a) rfl ?_;exact mP hR9.mr.mf (hbad 110 b.a (by rw[aU e]))
 rintro st g w10 ⟨rfl,rfl,hne⟩;rw[aL hne]at hok hbad;refine dE.cut (λst w'=>st=[]/\Ext w10 w'/\s.m.calls.any (λy=>decide (y.n=x))=false) ?_ ?_
 ·simp only[dB,bE,bL,aI];refine hR9.mr.ld rfl ?_;refine Im (l:=s.m.calls) (B:=w0.heap.size) (cs:=L.cC) (q:=λy=>decide (y.n=x)) hR9.mr.md.oC.sl hR9.mr.md.cc (by omega) (λy hy c hc {w11 K11} hx11 hK11=>hY (caps:=[pA b4]) ?_) λw11 hx11=>?_
  ·obtain⟨ya,rfl,_⟩:=hc;refine Tk ?_;unfold ZE;exact rH (hx11.at hR9.at_.at_ id) hK11
  ·rw[eJ];refine⟨λhany=>?_,λhany=>⟨by trivial,hx11,hany⟩⟩;refine ldb (hx11.at hbb3 id) (v:=i64 b.a) rfl ?_;exact mP (hR9.mr.mf.ext hx11) (hbad 2 b.a (by rw[aU hany]))
 rintro st g3 w11 ⟨rfl,hx11,hany⟩;rw[aL (by rw[hany];decide)]at hok;have hx12:=hx11.trans (cQ w11);have hR12:=hR9.ext hx12;generalize w11.drew=w12 at*
 have hone:∀(y:Value),∀u∈([str x,i64 0,va8,i64 b.a]:List Value),jM u=true:=λy u hu=>by
  simp only[bC,cA,gG]at hu;rcases hu with rfl|rfl|rfl|rfl<;>first|rfl|exact fV hR12.oa.sl
 have eub:ub [str x,i64 0,va8,i64 b.a]=ub [va8]:=by
  unfold ub;simp only[gM,lW];rfl
 have hnd8:(ub [va8]).Nodup:=by
  unfold ub;simp only[gM,lW];cases va8.ownBlock<;>simp
 simp only[dB,bE,bL,aI];refine hR12.mr.ld rfl ?_;refine gF hR12.at_.at_ rfl ?_;refine hR12.mr.ld rfl ?_;refine ldb hR12.as_.at_ (v:=str r.2) rfl ?_;have dne:∀{wB:World},Ext w12 wB->qC w0 wB p L vS path s b4 b5 x b.a r va8 (λk=>k=b3):=λhx=>hR12.ext hx;have fin:∀L' vS' w21,L'.M=L.M->MR w0 w21 p L' vS' path ⟨{s.m with calls:=s.m.calls++[⟨x,0,r.1,b.a⟩]},s.src++[r.2]⟩->K (.tuple #[]) w21:=λL' vS' w21 hM hm=>hok _ L' vS' w21 rfl hM hm;have vlt:∀k,L.vC.ownBlock=some k->k<w12.heap.size:=λk hk=>(hR12.mr.in_ k (by rw[kB];exact aD _ (eF (v:=L.vC) (by simp[ML.vals]) hk))).1;have n5:L.vC.ownBlock≠some b5:=hR12.as_.off.ne (by simp[ML.vals]);refine⟨?_,?_⟩
 ·refine row_one (by rfl) (by rfl) (by omega) λt46 w16 ht46 hx16=>?_;have hR16:=dne hx16;refine⟨ldb hR16.as_.at_ rfl rfl,hR16.mr.ld rfl rfl,hR16.mr.ld rfl rfl,?_,?_⟩
  ·refine hR16.mr.app_C (x:=⟨x,0,r.1,b.a⟩) ht46 rfl (hone va8) hfew λv' w17 hO hc hn=>?_;have hp17:=hc.at hR16.mr.pm (λe=>hR16.mr.val_ne (v:=L.vC) (by simp[ML.vals]) p e rfl);refine⟨ldb (hc.at hR16.as_.at_ n5) rfl rfl,ldb hp17 rfl rfl,?_⟩;refine IS λt53 w18 ht53 _ hx18=>?_;refine⟨ldb (hx18.at hp17 id) rfl rfl,?_⟩;exact Oh hR16 hO hc hn hx18 ht53 hfew2 fin
  ·refine IS λt53 w22 ht53 hf53 hx22=>?_;have hR22:=dne (hx16.trans hx22);refine⟨hR22.mr.ld rfl rfl,hR22.mr.ld rfl rfl,?_⟩;refine hR22.mr.app_C (x:=⟨x,0,r.1,b.a⟩) (ht46.ext hx22) rfl (hone va8) hfew λv' w17 hO hc hn=>?_;have hp17:=hc.at hR22.mr.pm (λe=>hR22.mr.val_ne (v:=L.vC) (by simp[ML.vals]) p e rfl);refine⟨ldb hp17 rfl rfl,?_⟩;exact Oh hR22 hO hc hn (Chg.refl _ _) (rR ht53 hc λk hk e=>by have h1:=hf53 k hk;have h2:=vlt k e;have:=hx16.size;omega) hfew2 fin
 ·refine IS λt53 w27 ht53 hf53 hx27=>?_;have hR27:=dne hx27;refine⟨hR27.mr.ld rfl rfl,gF hR27.at_.at_ rfl rfl,hR27.mr.ld rfl rfl,?_⟩;refine row_one (by rfl) (by rfl) (by omega) λt46 w28 ht46 hx28=>?_;have hR28:=dne (hx27.trans hx28);refine⟨hR28.mr.ld rfl rfl,hR28.mr.ld rfl rfl,?_⟩;refine hR28.mr.app_C (x:=⟨x,0,r.1,b.a⟩) ht46 rfl (hone va8) hfew λv' w17 hO hc hn=>?_;have hp17:=hc.at hR28.mr.pm (λe=>hR28.mr.val_ne (v:=L.vC) (by simp[ML.vals]) p e rfl);refine⟨ldb hp17 rfl rfl,?_⟩;exact Oh hR28 hO hc hn (Chg.refl _ _) (rR (ht53.ext hx28) hc λk hk e=>by have h1:=hf53 k hk;have h2:=vlt k e;omega) hfew2 fin
end
end
end Go.Proofs.YtjblfcfdeaagpaaGreatDoor
namespace Go.Cfg
section
open Go Go.Eng Go.Lex Go.Syn
variable{w:World}{K:Q0}{cs:List Value}{G:Nat->Prop}{T:TypeId}{i:Nat}{n:Nat}{v:Value}{w':World}{P:Program}{c:UInt8}{S:Nat->Prop}
def BdS(s:MS)(n:Nat):Prop:=s.m.vars.length<=n/\s.m.locs.length<=n*100000/\s.m.outs.length<=n/\s.m.res.length<=n/\s.m.calls.length<=n/\s.src.length<=n
theorem oX{α β:Type}{r:RC α}{f:α->RC β}{y:β}(h:r.bind f=.ok y):∃x,r=.ok x/\f x=.ok y:=by
 cases r with
 |ok x=>exact⟨x,rfl,h⟩
 |bad c a=>cases h
theorem Km{f:Fl}:∀(l seen:List Atr) (s s':List Atr),lQ f Gz seen l s=.ok s'->s'.length<=s.length+l.length
 |[],_,s,s',e=>by
  simp only[lQ]at e
  injection e with e
  subst e;exact aZ _
 |a::l,seen,s,s',e=>by
  simp only[lQ]at e
  split at e
  ·cases e
  ·obtain⟨s1,h1,h2⟩:=oX e
   simp only[Gz]at h1
   split at h1
   ·cases h1
   ·injection h1 with h1
    subst h1
    have:=Km l _ _ _ h2
    rw[aP,aB,aK]at this
    rw[aB];omega
theorem Iy{s s':MS}{b:Blk}(h:BdS s n)(ha:b.attrs.length<=100000)(e:qV s b=.ok s'):BdS s' (n+1)/\s'.m.fl=s.m.fl/\s'.m.dir=s.m.dir:=by
 obtain⟨h1,h2,h3,h4,h5,h6⟩:=h;have hn:(n+1)*100000=n*100000+100000:=by rw[mM,Nat.one_mul]
 unfold qV at e;split at e
 ·cases e
 split at e
 ·unfold nY at e;obtain⟨_,_,e⟩:=oX e;obtain⟨_,_,e⟩:=oX e;split at e
  ·cases e
  ·injection e with e;subst e;exact⟨⟨by simp;omega,dR h2 (fB _ (rV n)),by simp only;omega,by simp only;omega,by simp only;omega,by simp only;omega⟩,rfl,rfl⟩
 split at e
 ·unfold rT at e;obtain⟨l,hl,e⟩:=oX e;obtain⟨_,_,e⟩:=oX e;have:=Km _ _ _ _ hl;injection e with e;subst e;exact⟨⟨by simp only;omega,by simp only;rw[hn];omega,by simp only;omega,by simp only;omega,by simp only;omega,by simp only;omega⟩,rfl,rfl⟩
 split at e
 ·unfold rS at e;obtain⟨_,_,e⟩:=oX e;obtain⟨_,_,e⟩:=oX e;split at e
  ·cases e
  split at e
  ·cases e
  ·injection e with e;subst e;exact⟨⟨by simp only;omega,dR h2 (fB _ (rV n)),by simp;omega,by simp only;omega,by simp only;omega,by simp only;omega⟩,rfl,rfl⟩
 split at e
 ·unfold oA at e;obtain⟨_,_,e⟩:=oX e;obtain⟨_,_,e⟩:=oX e;split at e
  ·cases e
  ·injection e with e;subst e;exact⟨⟨by simp only;omega,dR h2 (fB _ (rV n)),by simp only;omega,by simp;omega,by simp only;omega,by simp only;omega⟩,rfl,rfl⟩
 split at e
 ·unfold zW at e;obtain⟨_,_,e⟩:=oX e;obtain⟨_,_,e⟩:=oX e;split at e
  ·cases e
  split at e
  ·cases e
  ·injection e with e;subst e;exact⟨⟨by simp only;omega,dR h2 (fB _ (rV n)),by simp only;omega,by simp only;omega,by simp;omega,by simp;omega⟩,rfl,rfl⟩
 ·injection e with e;subst e;exact⟨⟨by omega,dR h2 (fB _ (rV n)),by omega,by omega,by omega,by omega⟩,rfl,rfl⟩
end
end Go.Cfg
namespace Go.Proofs.YtjblfcfdeaagpaaGreatDoor
section
open Go Go.Eng Go.RowKit Go.Syn Go.Lex Go.Cfg
variable{w:World}{K:Q0}{cs:List Value}{G:Nat->Prop}{T:TypeId}{i:Nat}{n:Nat}{v:Value}{w':World}{P:Program}{c:UInt8}{S:Nat->Prop}
section
variable [HX]
variable [FK]{w0 w:World}{p:Nat}{L:ML}{vS:Value}{path:Str}{s:MS}{K:Q0}
theorem JM(w:World)(A:(Q0)->Prop)(B:Q0):GeW false w A B↔B undef w:=⟨λh=>h.2 rfl,λh=>⟨λe=>(by cases e),λ_=>h⟩⟩
theorem Ik{l:List Str}{f:Value}{q:Str->Bool}{K:Q0}(h:SlAt w StT v l.length (strs l))(hx:l.length<=9223372036854775806)
  (hf:∀x∈l,∀{w1:World} {K:Q0},Ext w w1->(∀w',Ext w1 w'->K (.bool (q x)) w')->nV P0 f [str x] w1 K)(hK:∀w',Ext w w'->K (.bool (l.any q)) w'):aJ P0 134 [v,f] w K:=by
 refine Ud ?_;unfold aAq;refine TD ?_;unfold ZV;rw[eO h];refine yS l.length (λi w'=>Ext w w'/\(l.take i).any q=false) ⟨Chg.refl _ _,by simp⟩ ?_ ?_
 ·rintro i w2 g L hi ⟨hx2,hno⟩ hL;obtain⟨x,hxi⟩:∃x,l[i]?=some x:=⟨_,aG hi⟩;have hlt:((i:Int)<(l.length:Int)):=by omega
  simp only[wsv,wsg,wsh,wsl,aO,aN,aF,kL,Nat.reduceAdd,Nat.reduceLT,cG,aY,dF,cU,cV,reduceCtorEq,hlt];refine mR (i:=i) (x:=str x) (h.ext hx2) (by rw[tC];omega) (by unfold strs;rw[fO,hxi];rfl) ?_;refine hf x (bI hxi) hx2 λw3 hx3=>?_;rw[eJ];refine⟨λht=>?_,λhn=>?_⟩
  ·have:=hK w3 (hx2.trans hx3);have h0:l.any q=true:=mU.2 ⟨x,bI hxi,ht⟩;rw[h0]at this;have e:decide ((0:Int)<=(i:Int))=true:=bW (by omega);rw[e];exact this
  ·rw[up1 (by omega)];exact hL w3 ⟨hx2.trans hx3,by rw[ID hxi,hno,hn];rfl⟩
 ·rintro w2 g L ⟨hx2,hno⟩;simp only[wsv,wsg,wsh,wsl,aO,aN,aF,kL,Nat.reduceAdd,Nat.reduceLT,cG,aY,dF,cU,cV,reduceCtorEq,Bm];rw[dZ]at hno;have:=hK w2 hx2;rw[hno]at this;exact this
theorem Ow{x:Str}{K:Q0}(hx:x.length<=1000000)(hK:K (.bool (!kS x)) w):aJ P0 135 [str x] w K:=by
 refine Uc ?_;unfold aAp;refine Kj hx ?_;rw[fH];exact hK
theorem Om{k:Nat}(h:MR w0 w p L vS path s)(hFl:FlA s.m.fl L.M)(hk:k<s.m.fl.bl.length)(hbd:BdS s n)(hn:n<=100000)(hll:∀x∈(kC s.m.fl k).labels,x.length<=1000000)
  (hok:∀s' L' vS' w',qV s (kC s.m.fl k)=.ok s'->L'.M=L.M->MR w0 w' p L' vS' path s'->K (.tuple #[]) w')(hbad:∀c a,qV s (kC s.m.fl k)=.bad c a->TC w0 path c a):
  aJ P0 95 [pA p,.agg (bcc L.M k).toArray] w K:=by
 obtain⟨d1,d2,d3,d4,d5,d6⟩:=hbd;have hm5:n*100000<=100000*100000:=fB _ hn;obtain⟨vl,va,vb,ec,h1,h2,h3⟩:=sD h.md.fo hk;obtain⟨hklt,hkat,hkbs,hkf1,hkf2,hkf3⟩:=hFl.bk k hk;have hrow:=λ{w:World} (hF:FO w w0.heap.size L.M s.m.fl)=>(CC hk ec hF).1;have hone:([str (kC s.m.fl k).typ,vl,va,vb,i64 (kC s.m.fl k).a]:List Value).all jM=true:=by
  show(true&&(jM vl&&(jM va&&(jM vb&&(true&&true)))))=true;rw[fV h1.sl,fV h2.sl,fV h3.sl];rfl
 refine Xk ?_;unfold W95;have ec0:=ec;rw[ec];refine fZ λb3 w1 hb3 hz1 hbb3 hx1=>?_;have hbb3':w1.drew.heap[b3]?=some (.cells [str (kC s.m.fl k).typ,vl,va,vb,i64 (kC s.m.fl k).a].toArray BkT (0,0)):=hbb3;have hx1d:=hx1.trans (cQ w1);have hm1:=h.ext hx1d;generalize hb:kC s.m.fl k=b at*
 generalize hg:(tX b.typ≠b.labels.length\/b.labels.any (λl=> !kS l)=true\/(b.typ=kR/\b.labels.getD 0 []∈oD))=G;have hbad110:G->TC w0 path 110 b.a:=λhG=>hbad 110 b.a (by unfold qV;rw[aU (by rw[hg];exact hG)]);refine dE.cut (λst w'=>st=[]/\Ext w w'/\w'.heap[b3]?=some (.cells [str b.typ,vl,va,vb,i64 b.a].toArray BkT (0,0))/\¬G) ?_ ?_
 ·simp only[bE,bL,aI];refine ldb hbb3' (v:=str b.typ) rfl ?_;refine ldb hbb3' (v:=vl) rfl ?_;rw[eO (hrow hm1.md.fo)];refine RB ?_;refine⟨ldb hbb3' rfl rfl,?_⟩;rw[dQ];by_cases c1:tX b.typ≠b.labels.length
  ·rw[bW c1];simp only[fT,iB,HP,FX,JM,iE,dH];rw[dG];refine⟨λe=>(by cases e),λe=>(by cases e),?_⟩;refine ldb hbb3' (v:=i64 b.a) rfl ?_;exact mP hm1.mf (hbad110 (by rw[<-hg];exact .inl c1))
  rw[bH c1];simp only[iB,cH];refine lU (v:=.pointer (some ⟨b3,1,none⟩)) rfl ?_;refine lU (v:=vl) (ldb hbb3' rfl rfl) ?_;refine JL ?_;refine Ik (l:=b.labels) (q:=λl=> !kS l) (hrow hm1.md.fo) (by omega) (λx hx {w2 K2} hx2 hK2=>vD (Ow (hll x hx) (hK2 _ (Chg.refl _ _)))) λw2 hx2=>?_;have hbb2:=hx2.at hbb3' id;have hm2:=hm1.ext hx2;rw[eX];cases c2:b.labels.any (λl=> !kS l)with
  |true=>
   simp only[fT,iB,HP,FX,JM,iE,dH];rw[dG];refine⟨λe=>(by cases e),λe=>(by cases e),?_⟩;refine ldb hbb2 (v:=i64 b.a) rfl ?_;exact mP hm2.mf (hbad110 (by rw[<-hg];exact .inr (.inl c2)))
  |false=>
   simp only[iB,cH];refine lU (v:=.pointer (some ⟨b3,0,none⟩)) rfl ?_;refine lU (v:=str b.typ) (ldb hbb2 rfl rfl) ?_;refine lU (v:=.bool (decide (b.typ=kR))) (by rw[eQ];rfl) ?_;refine lU (v:=.bool (decide (b.typ=kR))) rfl ?_;have nog:¬(b.typ=kR/\b.labels.getD 0 []∈oD)->¬G:=λhn hG=>by
    rw[<-hg]at hG;rcases hG with e|e|e
    ·exact c1 e
    ·rw[c2]at e;cases e
    ·exact hn e
   by_cases c3:b.typ=kR
   ·rw[bW c3];simp only[fT];have hlen:b.labels.length=2:=by
     have:tX b.typ=b.labels.length:=lI c1;rw[c3]at this;have e2:tX kR=2:=by decide
     rw[e2]at this;omega
    obtain⟨x,hx⟩:∃x,b.labels[0]?=some x:=⟨_,aG (by omega)⟩;have hxd:b.labels.getD 0 []=x:=by rw[bR,hx];rfl
    obtain⟨p0,hp0,hp0'⟩:=vA (k:=.i64) (i:=0) (u:=str x) (hrow hm2.md.fo) (by rw[tC];omega) (by unfold strs;rw[fO,hx];rfl);refine lU (v:=.pointer (some ⟨b3,1,none⟩)) rfl ?_;refine lU (v:=vl) (ldb hbb2 rfl rfl) ?_;refine lU (v:=p0) (hp0 _ rfl) ?_;refine lU (v:=str x) (hp0' _ _ (Chg.refl _ _) rfl) ?_;refine JL ?_;refine IX λt w3 ht hx3=>?_;refine⟨λ_=>hp0' _ _ hx3 rfl,λ_=>ldb (hx3.at hbb2 id) rfl rfl,?_⟩;refine JL ?_;refine yA ht (by decide) ?_;refine lU (v:=.bool (decide (x∈oD))) (by rw[iE]) ?_;rw[eX,eJ];have hm3:=hm2.ext hx3;refine⟨λhin=>?_,λhin=>?_⟩
    ·refine ldb (hx3.at hbb2 id) (v:=i64 b.a) rfl ?_;exact mP hm3.mf (hbad110 (by rw[<-hg];exact .inr (.inr ⟨c3,by rw[hxd];exact eK hin⟩)))
    ·exact⟨by trivial,hx1d.trans (hx2.trans hx3),hx3.at hbb2 id,nog λe=>by rw[hxd]at e;rw[bW e.2]at hin;cases hin⟩
   ·rw[bH c3];simp only[fT,FX,JM];refine⟨λe=>(by cases e),λe=>(by cases e),?_⟩;refine lU (v:=.bool false) (by rw[eX]) ?_;rw[eX,bQ];exact⟨by trivial,hx1d.trans hx2,hbb2,nog λe=>c3 e.1⟩
 rintro st g w2 ⟨rfl,hx2,hbb2,hnG⟩;have hm2:=h.ext hx2;have hmodel:qV s b=if b.typ=mK then nY s b else if b.typ=vU then rT s b else if b.typ=oJ then rS s b else if b.typ=kR then oA s b else if b.typ=qD then zW s b else .ok s:=by
  unfold qV;rw[aL (by rw[hg];exact hnG)]
 have hkind:tX b.typ=b.labels.length:=lI λe=>hnG (by rw[<-hg];exact .inl e);rw[hmodel]at hok hbad;simp only[bE,bL,aI];refine ldb hbb2 (v:=str b.typ) rfl ?_;rw[eQ,bD];refine⟨λe1=>?_,λn1=>?_⟩
 ·have e1:b.typ=mK:=e1;rw[aU e1]at hok hbad;refine gF hbb2 rfl ?_;have:=IH (K:=λ_ w=>K (.tuple #[]) w) (k:=k) hm2 (hFl.bk k hk) (by rw[hb];rw[e1,show tX mK=1 by decide]at hkind;omega) (by omega) (by rw[hb];exactλs' L' vS' w' a b c=>hok s' L' vS' w' a b c) (by rw[hb];exact hbad);rw[ec0]at this;exact this
 have n1:¬b.typ=mK:=n1;rw[aL n1]at hok hbad;rw[eQ,bD];refine⟨λe1=>?_,λn2=>?_⟩
 ·have e1:b.typ=vU:=e1;rw[aU e1]at hok hbad;refine gF hbb2 rfl ?_;have:=NA (K:=λ_ w=>K (.tuple #[]) w) (k:=k) hm2 (hFl.bk k hk) (by omega) (by rw[hb];exactλs' L' vS' w' a b c=>hok s' L' vS' w' a b c) (by rw[hb];exact hbad);rw[ec0]at this;exact this
 have n2:¬b.typ=vU:=n2;rw[aL n2]at hok hbad;rw[eQ,bD];refine⟨λe1=>?_,λn3=>?_⟩
 ·have e1:b.typ=oJ:=e1;rw[aU e1]at hok hbad;refine gF hbb2 rfl ?_;have:=Nn (K:=λ_ w=>K (.tuple #[]) w) (k:=k) hm2 (hFl.bk k hk) (by rw[hb];rw[e1,show tX oJ=1 by decide]at hkind;omega) (by omega) (by rw[hb];exactλs' L' vS' w' a b c=>hok s' L' vS' w' a b c) (by rw[hb];exact hbad);rw[ec0]at this;exact this
 have n3:¬b.typ=oJ:=n3;rw[aL n3]at hok hbad;rw[eQ,bD];refine⟨λe1=>?_,λn4=>?_⟩
 ·have e1:b.typ=kR:=e1;rw[aU e1]at hok hbad;refine gF hbb2 rfl ?_;have:=IW (K:=λ_ w=>K (.tuple #[]) w) (k:=k) hm2 hFl hk (by rw[hb];rw[e1,show tX kR=2 by decide]at hkind;omega) (by omega) (by rw[hb];exactλs' L' vS' w' a b c=>hok s' L' vS' w' a b c) (by rw[hb];exact hbad);rw[ec0]at this;exact this
 have n4:¬b.typ=kR:=n4;rw[aL n4]at hok hbad;rw[eQ,bD];refine⟨λe1=>?_,λn5=>?_⟩
 ·have e1:b.typ=qD:=e1;rw[aU e1]at hok hbad;refine gF hbb2 rfl ?_;have:=Xb (K:=λ_ w=>K (.tuple #[]) w) (k:=k) hm2 hFl hk (by rw[hb];rw[e1,show tX qD=1 by decide]at hkind;omega) (by omega) (by omega) (by rw[hb];exactλs' L' vS' w' a b c=>hok s' L' vS' w' a b c) (by rw[hb];exact hbad);rw[ec0]at this;exact this
 have n5:¬b.typ=qD:=n5;rw[aL n5]at hok;exact hok s L vS w2 rfl rfl hm2
end
end
section
open Go Go.Eng Go.Lex Go.Syn
variable{w:World}{K:Q0}{cs:List Value}{G:Nat->Prop}{T:TypeId}{i:Nat}{n:Nat}{v:Value}{w':World}{P:Program}{c:UInt8}{S:Nat->Prop}
theorem CJ{s:Str}(h:Utf s):∀{k:Nat},(∀c,s[k]?=some c->c.toNat<128)->Utf (s.take k):=by
 induction h with
 |nil=>intro k _;rw[List.take_nil];exact .nil
 |@cons u r hu hr ih=>
  intro k hc;by_cases hk:u.length<=k
  ·rw[List.take_append,iH hk];refine Utf.cons hu (ih λc h2=>hc c ?_);rw[fU hk];exact h2
  ·by_cases h0:k=0
   ·rw[h0,List.take_zero];exact .nil
   ·have hlt:k<u.length:=by omega
    have hg:=hc u[k] (by rw[fQ hlt,aG hlt]);rcases hu.cases with⟨x,rfl,_⟩|hh
    ·simp only[aB,aK]at hlt;omega
    ·have:=hh u[k] (Bi hlt);omega
theorem AE(q:UInt8->Bool):∀s:Str,∀c∈s.take (gQ q s),q c=true
 |[],c,h=>by simp at h
 |d::r,c,h=>by
  unfold gQ at h
  split at h
  ·rename_i hq
   rw[oI]at h
   rcases bC.1 h with rfl|h
   ·exact hq
   ·exact AE q r c h
  ·simp at h
theorem Gi(h1:c.toNat<128):Rn [c]:=by
 refine⟨by simp,?_⟩;have hall:∀c:Fin 256,c.val<128->kX [UInt8.ofNat c.val] 0=1:=by decide+kernel
 have:=hall ⟨c.toNat,pJ c⟩ h1;rw[qI]at this;exact this
theorem zE{s:Str}(h:∀c∈s,c.toNat<128):Utf s:=by
 induction s with
 |nil=>exact .nil
 |cons c s ih=>exact Utf.cons (Gi (h c (by simp))) (ih λd hd=>h d (aD _ hd))
theorem Jw(a b:Str):lC (a++b)=lC a++lC b:=by
 induction a with
 |nil=>rfl
 |cons c a ih=>
  rw[iC];simp only[lC];rw[ih]
  repeat' split
  all_goals rfl
theorem LO{s:Str}(h:Utf s):Utf (lC s):=by
 induction h with
 |nil=>exact .nil
 |@cons u r hu hr ih=>
  rw[Jw];refine Utf.app ?_ ih;rcases hu.cases with⟨x,rfl,hx⟩|hh
  ·refine zE λc hc=>?_;simp only[lC]at hc
   repeat' split at hc
   all_goals
    simp only[bC,cA,gG]at hc
   ·rcases hc with rfl|rfl
    ·decide
    ·exact hx
   ·rcases hc with rfl|rfl<;>decide
   ·rcases hc with rfl|rfl<;>decide
   ·subst hc;exact hx
  ·have e:∀v:Str,(∀c∈v,128<=c.toNat)->lC v=v:=by
    intro v;induction v with
    |nil=>intro _;rfl
    |cons c v ihv=>
     intro hv;have hc:=hv c (by simp);have ne:∀k:UInt8,k.toNat<128->(c==k)=false:=λk hk=>by
      rw[beq_eq_false_iff_ne];rintro rfl;omega
     simp only[lC,ne 92 (by decide),ne 34 (by decide),ne 36 (by decide),ne 9 (by decide),ne 13 (by decide)];rw[ihv λd hd=>hv d (aD _ hd)];rfl
   rw[e u hh];exact Utf.one hu
theorem Fi:∀(n:Nat) (name s:Str),Utf s->(nD n name s).2.2=0->Utf (nD n name s).1
 |0,_,_,_,h=>by cases h
 |n+1,name,s,hu,h=>by
  simp only[nD]at h⊢
  split
  ·exact .nil
  rename_i n1
  rw[aL n1]at h
  split
  ·exact .nil
  rename_i n2
  rw[aL n2]at h
  split
  ·rename_i h3
   have hg:s[gQ (λb=>b !=10) s]?=some 10:=by
    have hlt:gQ (λb=>b !=10) s<s.length:=by omega
    have:=AD (λb=>b !=10) s s[gQ (λb=>b !=10) s] (by rw[List.head?_drop,aG hlt]);rw[aG hlt];have:s[gQ (λb=>b !=10) s]=10:=by simpa using this
    rw[this]
   have ih:=Fi n name _ (tA hu hg (by decide)) h3;exact((LO (CJ hu (k:=gQ (λb=>b !=10) s) λc hc=>by rw[hg]at hc;injection hc with hc;rw[<-hc];decide)).app (zE (by decide))).app ih
  ·exact .nil
structure wU(t:Tok):Prop where
 ut:Utf t.t/\t.t.length<=100000
 name:t.k=1->(∃c r,t.t=c::r/\iM c=true)/\∀d∈t.t,jH d=true
 num:t.k=2->∀d∈t.t,lK d=true
theorem Rj{r:Str}(h:Utf (c::r))(h0:(oN (c::r)).2.2=0)(hl:(c::r).length<=16384)(hts:(oN (c::r)).1.k=3->(oN (c::r)).1.t.length<=100000):wU (oN (c::r)).1:=by
 have tl:∀n,((c::r).take n).length<=100000:=λn=>by rw[cO];omega
 rw[Da]at h0 hts⊢;split
 ·exact⟨⟨zE (by decide),by decide⟩,λe=>absurd e (by decide),λe=>absurd e (by decide)⟩
 rename_i n1;rw[aL n1]at h0 hts;split
 ·rename_i e;refine⟨⟨zE λd hd=>Dh (AE _ _ d hd),tl _⟩,λ_=>⟨⟨c,r.take (gQ jH r),?_,e⟩,λd hd=>AE _ _ d hd⟩,λe=>absurd e (show¬(1:Int)=2 by decide)⟩;show(c::r).take (gQ jH (c::r))=_;have:jH c=true:=by unfold jH;rw[e];rfl
  have hrun:gQ jH (c::r)=gQ jH r+1:=by rw[gQ,aU this]
  rw[hrun,oI]
 rename_i n2;rw[aL n2]at h0 hts;split
 ·exact⟨⟨zE λd hd=>Fz (AE _ _ d hd),tl _⟩,λe=>absurd e (show¬(2:Int)=1 by decide),λ_ d hd=>AE _ _ d hd⟩
 rename_i n3;rw[aL n3]at h0 hts;split
 ·rename_i e;rw[aU e]at h0 hts;split
  ·rename_i h1;rw[aU h1]at hts;refine⟨⟨?_,hts rfl⟩,λe=>absurd e (show¬(3:Int)=1 by decide),λe=>absurd e (show¬(3:Int)=2 by decide)⟩;rw[sS (by simp only[aB];omega)]at h1⊢;have he:=uL _ r 0 _ (aZ _) (jO rfl h1:jZ r 0=((jZ r 0).1,0));have e34:c=34:=by simpa using e
   have hr:Utf r:=tB h (by rw[e34];decide);exact CJ hr λx hx=>by rw[he]at hx;injection hx with hx;rw[<-hx];decide
  ·exact⟨⟨.nil,dU _⟩,λe=>absurd e (show¬(0:Int)=1 by decide),λe=>absurd e (show¬(0:Int)=2 by decide)⟩
 rename_i n4;rw[aL n4]at h0 hts;split
 ·rename_i h1;rw[aU h1]at h0 hts;refine⟨⟨?_,hts rfl⟩,λe=>absurd e (show¬(3:Int)=1 by decide),λe=>absurd e (show¬(3:Int)=2 by decide)⟩;show Utf (kI (c::r)).1;have h0:(kI (c::r)).2.2=0:=h0;unfold kI at h0⊢;simp only at h0⊢;generalize (if iM (((c::r).drop 2).headD 0)=true then gQ jH ((c::r).drop 2)else 0)=n at h0⊢;split
  ·exact .nil
  rename_i m1;rw[aL m1]at h0;split
  ·rename_i m2;rw[aU m2]at h0;split
   ·rename_i m3;refine Fi _ _ _ ?_ m3;rw[List.head?_drop]at m2;exact tA h m2 (by decide)
   ·exact .nil
  ·exact .nil
 rename_i n5;rw[aL n5]at h0 hts;refine⟨⟨zE λd hd=>?_,?_⟩,λe=>absurd e (show¬(4:Int)=1 by decide),λe=>absurd e (show¬(4:Int)=2 by decide)⟩
 ·have hd:d∈rW (c::r):=hd;unfold rW at hd;split at hd
  ·rename_i q1;have:∀x∈vQ,∀d∈x,d.toNat<128:=by decide
   exact this _ (List.contains_iff_mem.1 q1) d hd
  split at hd
  ·rename_i q2;have hd:d=c:=by simpa using hd
   rw[hd];exact Ha q2
  ·cases hd
 ·show(rW (c::r)).length<=100000;unfold rW
  repeat' split
  ·exact tl 2
  ·exact tl 1
  ·exact dU _
end
section
open Go Go.Eng Go.RowKit Go.Syn Go.Lex
variable{w:World}{K:Q0}{cs:List Value}{G:Nat->Prop}{T:TypeId}{i:Nat}{n:Nat}{v:Value}{w':World}{P:Program}{c:UInt8}{S:Nat->Prop}
theorem Mw{s:Str}{l:List Tok}(h:nP s=.ok l):Utf s:=by
 unfold nP at h;split at h
 ·cases h
 cases hb:DW (s.length+1) s 0 with
 |some i=>rw[hb]at h;cases h
 |none=>
  have:=DV (s:=s) (s.length+1) 0 (by omega) hb;rwa[eZ]at this
end
section
open Go Go.Eng Go.Lex Go.Syn
variable{w:World}{K:Q0}{cs:List Value}{G:Nat->Prop}{T:TypeId}{i:Nat}{n:Nat}{v:Value}{w':World}{P:Program}{c:UInt8}{S:Nat->Prop}
theorem wU.at_{t:Tok}(h:wU t)(a:Int):wU ⟨t.k,t.t,a⟩:=⟨h.ut,h.name,h.num⟩
theorem EB:∀(n:Nat) (s:Str) (a cnt:Nat) (l:List Tok),Utf s->s.length<=16384->nQ n s a cnt=.ok l->TS l->∀t∈l,wU t
 |0,_,_,_,_,_,_,h,_=>by simp[nQ]at h
 |n+1,s,a,cnt,l,hu,hl,h,hts=>by
  simp only[nQ]at h
  have hsk:=xI (s.length+1) s hu
  generalize jP (s.length+1) s=k at*
  split at h
  ·cases h
  split at h
  ·injection h with h
   subst h
   intro t ht
   rw[bX]at ht
   subst ht
   exact⟨⟨.nil,dU _⟩,λe=>absurd e (show¬(0:Int)=1 by decide),λe=>absurd e (show¬(0:Int)=2 by decide)⟩
  rename_i h2
  split at h
  ·cases h
  rename_i h3
  have h3:(oN (s.drop k.1)).2.2=0:=by simpa using h3
  split at h
  ·cases h
  split at h
  ·rename_i l2 hr
   injection h with h
   subst h
   have hdl:(s.drop k.1).length<=16384:=by rw[aX];omega
   cases hd:s.drop k.1 with
   |nil=>exact absurd hd h2
   |cons c r=>
    rw[hd]at h3 hsk hr hdl hts
    have hd2:((c::r).drop (oN (c::r)).2.1).length<=16384:=by rw[aX];omega
    have ih:=EB n _ _ _ _ (Kg hsk h3) hd2 hr λt ht=>hts t (aD _ ht)
    intro t ht
    rcases bC.1 ht with rfl|ht
    ·exact(Rj hsk h3 hdl λe=>(hts _ aW e).2).at_ _
    ·exact ih t ht
  ·rename_i hne
   exact absurd h (hne l)
theorem EA{s:Str}{l:List Tok}(h:nP s=.ok l):∀t∈l,wU t:=by
 have hts:=Cr h;have hl:=(uN h).2;have hu:=Mw h;unfold nP at h;rw[aL (by omega)]at h;split at h
 ·cases h
 ·exact EB _ _ _ _ _ hu hl h hts
theorem GL:∀(N:Nat) (r:Str) (d:Int),r.length<=N->r.length<=qA r d\/∃k,qA r d=k+1/\r[k]?=some 125
 |N,[],d,_=>.inl (dU _)
 |0,c::r,d,h=>by simp at h
 |N+1,c::r,d,h=>by
  have hr:r.length<=N:=by simp only[aB]at h;omega
  have up:∀d':Int,(c::r).length<=1+qA r d'\/∃k,1+qA r d'=k+1/\(c::r)[k]?=some 125:=λd'=>by
   rcases GL N r d' hr with h1|⟨k,h1,h2⟩
   ·left;simp only[aB];omega
   ·exact .inr ⟨k+1,by omega,by rw[bF];exact h2⟩
  rw[pH]
  by_cases h1:c=123
  ·rw[aU h1];exact up _
  rw[aL h1]
  by_cases h2:c=125
  ·rw[aU h2]
   by_cases h3:d-1=0
   ·rw[aU h3];exact .inr ⟨0,rfl,by rw[h2];rfl⟩
   ·rw[aL h3];exact up _
  rw[aL h2]
  by_cases h3:c=34
  ·rw[aU h3]
   have ih:=GL N (r.drop (sL r)) d (by rw[aX];omega)
   rw[aX]at ih
   rcases ih with h4|⟨k,h4,h5⟩
   ·left;simp only[aB];omega
   ·right
    rw[jG]at h5
    exact⟨sL r+k+1,by omega,by rw[bF];exact h5⟩
  ·rw[aL h3];exact up _
theorem Jr:∀(N:Nat) (s:Str) (i e:Nat),s.length<=N->insP s=some (i,e)->s[i]?=some 36/\e=i+1+DN (s.drop (i+1))
 |_,[],_,_,_,h=>by simp[Syn.insP]at h
 |_,[_],_,_,_,h=>by simp[Syn.insP]at h
 |0,_::_::_,_,_,hl,_=>by simp at hl
 |N+1,c::d::r,i,e,hl,h=>by
  simp only[aB]at hl
  rw[Syn.insP]at h
  by_cases h1:c=92
  ·rw[aU h1,zI]at h
   obtain⟨⟨i',e'⟩,h2,h3⟩:=h
   injection h3 with h3 h4
   subst h3 h4
   obtain⟨q1,q2⟩:=Jr N r i' e' (by omega) h2
   refine⟨by rw[bF,bF];exact q1,?_⟩
   rw[show i'+2+1=(i'+1)+1+1 by omega,eL,eL,q2]
   omega
  rw[aL h1]at h
  by_cases h2:c=36/\d=123
  ·rw[aU h2]at h
   injection h with h
   injection h with h3 h4
   subst h3 h4
   exact⟨by rw[h2.1];rfl,by rw[eL,eZ]⟩
  ·rw[aL h2,zI]at h
   obtain⟨⟨i',e'⟩,h2,h3⟩:=h
   injection h3 with h3 h4
   subst h3 h4
   obtain⟨q1,q2⟩:=Jr N (d::r) i' e' (by simp only[aB];omega) h2
   refine⟨by rw[bF];exact q1,?_⟩
   show e'+1=i'+1+1+DN ((d::r).drop (i'+1))
   omega
theorem RH{s:Str}{e:Nat}(h:Utf s)(hi:insP s=some (i,e)):Utf (s.take i)/\Utf (s.drop e):=by
 obtain⟨h1,h2⟩:=Jr s.length s i e (aZ _) hi;refine⟨CJ h λc hc=>by rw[h1]at hc;injection hc with hc;rw[<-hc];decide,?_⟩;have hb:=GL _ (s.drop (i+1)) 0 (aZ _);rw[show qA (s.drop (i+1)) 0=DN (s.drop (i+1))from rfl]at hb;rcases hb with hb|⟨k,hb,hk⟩
 ·rw[aX]at hb;rw[sI (by omega)];exact .nil
 ·rw[jG]at hk;rw[h2,hb,show i+1+(k+1)=i+1+k+1 by omega];exact tA h hk (by decide)
theorem Gh:∀(N:Nat) (s:Str),s.length<=N->(jR s).length<=s.length
 |_,[],_=>aZ _
 |_,[c],_=>by simp only[jR];split<;>simp
 |0,_::_::_,h=>by simp at h
 |N+1,c::e::r,h=>by
  simp only[aB]at h
  simp only[jR]
  split
  ·have:=Gh N r (by omega)
   simp only[aB];omega
  ·have:=Gh N (e::r) (by simp only[aB];omega)
   simp only[aB]at this⊢;omega
theorem yK(r:Str):∀v:Str,(∀c∈v,c≠92)->jR (v++r)=v++jR r
 |[],_=>rfl
 |[c],h=>by
  have hc:=h c (by simp)
  cases r with
  |nil=>simp[jR,hc]
  |cons d r=>simp only[iC,gB,jR];rw[aL hc]
 |c::d::v,h=>by
  have hc:=h c (by simp)
  have ih:=yK r (d::v) λx hx=>h x (aD _ hx)
  simp only[iC]at ih⊢
  simp only[jR]
  rw[aL hc]
  rw[show jR (d::(v++r))=d::(v++jR r)from ih]
theorem AB:∀(N:Nat) (s:Str),s.length<=N->Utf s->Utf (jR s)
 |N,s,hN,h=>by
  cases h with
  |nil=>exact .nil
  |@cons u r hu hr=>
   have hlen:=hu.pos
   rw[aP]at hN
   rcases hu.cases with⟨x,rfl,hx⟩|hh
   ·by_cases h92:x=92
    ·subst h92
     cases hr with
     |nil=>exact .nil
     |@cons u2 r2 hu2 hr2=>
      rw[aP]at hN
      have hl2:=hu2.pos
      cases N with
      |zero=>simp at hN
      |succ N=>
       have ih:=AB N r2 (by simp only[aB,aK]at hN;omega) hr2
       rcases hu2.cases with⟨y,rfl,hy⟩|hh2
       ·show Utf (jR (92::y::r2))
        simp only[jR]
        rw[aU trivial]
        refine Utf.cons (u:=[_]) (Gi ?_) ih
        repeat' split
        ·decide
        ·decide
        ·decide
        ·exact hy
       ·cases u2 with
        |nil=>simp at hl2
        |cons y v=>
         have hy:=hh2 y (by simp)
         have ne:∀k:UInt8,k.toNat<128->y≠k:=λk hk e=>by rw[e]at hy;omega
         have hv:∀c∈v,c≠92:=λc hc e=>by have:=hh2 c (aD _ hc);rw[e]at this;exact absurd this (by decide)
         show Utf (jR (92::y::(v++r2)))
         simp only[jR]
         rw[aU trivial,aL (ne 110 (by decide)),aL (ne 116 (by decide)),aL (ne 114 (by decide)),yK r2 v hv]
         exact Utf.cons hu2 ih
    ·cases N with
     |zero=>simp at hN
     |succ N=>
      rw[yK r [x] (λc hc=>by rw[bX]at hc;rw[hc];exact h92)]
      exact Utf.cons (Gi hx) (AB N r (by simp only[aB,aK]at hN;omega) hr)
   ·cases N with
    |zero=>omega
    |succ N=>
     rw[yK r u λc hc e=>by have:=hh c hc;rw[e]at this;exact absurd this (by decide)]
     exact Utf.cons hu (AB N r (by omega) hr)
end
end Go.Proofs.YtjblfcfdeaagpaaGreatDoor
namespace Go.Syn
section
open Go Go.Eng Go.Lex
variable{w:World}{K:Q0}{cs:List Value}{G:Nat->Prop}{T:TypeId}{i:Nat}{n:Nat}{v:Value}{w':World}{P:Program}{c:UInt8}{S:Nat->Prop}
section
variable{io:Nat}{b:Bool}{c:Int}{pe:List Ex}{pb:List Blk}{s s2:PS}
theorem Aa(s:PS):(bM s).toks=s.toks/\(bM s).off=s.off/\(bM s).deep=s.deep/\(bM s).quiet=s.quiet/\(bM s).ex=s.ex/\(bM s).bl=s.bl:=by
 unfold bM;split<;>exact⟨rfl,rfl,rfl,rfl,rfl,rfl⟩
end
end
section
open Go Go.Eng Go.Lex
variable{w:World}{K:Q0}{cs:List Value}{G:Nat->Prop}{T:TypeId}{i:Nat}{n:Nat}{v:Value}{w':World}{P:Program}{c:UInt8}{S:Nat->Prop}
variable{α β:Type}{io:Nat}{b:Bool}{c:Int}{pe:List Ex}{pb:List Blk}
theorem bind_ok{r:R α}{f:α->PS->R β}{y:β}{s':PS}(h:r.bind f=.ok y s'):∃x s1,r=.ok x s1/\f x s1=.ok y s':=by
 cases r with
 |ok x s1=>exact⟨x,s1,rfl,h⟩
 |err a e=>cases h
variable{s s2:PS}
end
end Go.Syn
namespace Go.Proofs.YtjblfcfdeaagpaaGreatDoor
section
open Go Go.Eng Go.Lex Go.Syn
variable{w:World}{K:Q0}{cs:List Value}{G:Nat->Prop}{T:TypeId}{i:Nat}{n:Nat}{v:Value}{w':World}{P:Program}{c:UInt8}{S:Nat->Prop}
structure XE(e:Ex):Prop where
 kd:1<=e.k/\e.k<=30
 ut:Utf e.t/\e.t.length<=100000
 uk:∀s∈e.keys,Utf s/\s.length<=100000
 nl:e.k≠5->∀c∈e.t,c≠10
 a6:e.k=6\/e.k=8->e.keys.length=e.args.length
 a1:e.k=10\/e.k=30->1<=e.args.length
 a2:e.k=11\/e.k=29\/15<=e.k/\e.k<=27->2<=e.args.length
 a3:e.k=28->3<=e.args.length
def TKs(s:PS):Prop:=(∀t∈s.toks,wU t)/\s.toks.length<=4097
structure K1(s s':PS):Prop where
 toks:s'.toks=s.toks
 bl:s'.bl=s.bl
 ex:(∀e∈s.ex,XE e)->∀e∈s'.ex,XE e
theorem K1.refl(s:PS):K1 s s:=⟨rfl,rfl,λh=>h⟩
theorem K1.trans{s s1 s2:PS}(h:K1 s s1)(h':K1 s1 s2):K1 s s2:=⟨h'.toks.trans h.toks,h'.bl.trans h.bl,λhx=>h'.ex (h.ex hx)⟩
theorem K1.tk{s s':PS}(h:K1 s s')(ht:TKs s):TKs s':=by unfold TKs;rw[h.toks];exact ht
theorem K1.of{s s':PS}(h1:s'.toks=s.toks)(h2:s'.bl=s.bl)(h3:s'.ex=s.ex):K1 s s':=⟨h1,h2,λh=>by rw[h3];exact h⟩
theorem pY(s:PS):K1 s (bM s):=K1.of (Aa s).1 (Aa s).2.2.2.2.2 (Aa s).2.2.2.2.1
theorem mQ(s:PS):K1 s (step1 s):=K1.of rfl rfl rfl
theorem Jp(s:PS):K1 s (kY s):=by unfold kY;split;exact(pY s).trans (mQ _);exact pY s
theorem pQ(s:PS)(w:Str):K1 s (cS s w).2:=by unfold cS;split;exact(pY s).trans (mQ _);exact pY s
theorem wD(s:PS):K1 s (jE s):=K1.of (Aa s).1 (Aa s).2.2.2.2.2 (Aa s).2.2.2.2.1
theorem wC{s:PS}{w:Str}{x:Unit}{s':PS}(h:pK s w=.ok x s'):K1 s s':=by
 unfold pK at h;split at h
 ·injection h with _ h;rw[<-h];exact(pY s).trans (mQ _)
 ·cases h
theorem Ah{s:PS}{k:Int}{t:Tok}{s':PS}(h:nC s k=.ok t s'):K1 s s'/\t=cur s/\t.k=k:=by
 unfold nC at h;split at h
 ·rename_i hk;injection h with h1 h2;subst h1 h2;exact⟨Jp s,rfl,hk⟩
 ·cases h
theorem tK{s:PS}{e:Ex}{x:Nat}{s':PS}(he:XE e)(h:rX s e=.ok x s'):K1 s s':=by
 injection h with _ h
 subst h;refine⟨rfl,rfl,λhx y hy=>?_⟩;rcases bK.1 hy with hy|hy
 ·exact hx y hy
 ·rw[bX]at hy;rw[hy];exact he
theorem xZ{s:PS}(h:TKs s):wU (cur s):=by
 have hd:wU (nM (bM s)):=by
  unfold nM;rw[bR,(Aa s).1];cases hg:s.toks[(bM s).i]? with
  |none=>exact⟨⟨.nil,dU _⟩,λe=>absurd e (show¬(0:Int)=1 by decide),λe=>absurd e (show¬(0:Int)=2 by decide)⟩
  |some t=>exact h.1 t (bI hg)
 exact hd.at_ _
theorem qS{α:Type}{s:PS}{a:Int}{q:Bool}{f:PS->R α}{x:α}{s':PS}(h:within s a q f=.ok x s')(hf:∀s1 s2,K1 s s1->f s1=.ok x s2->K1 s1 s2):K1 s s':=by
 unfold within at h;split at h
 ·cases h
 obtain⟨y,s1,e1,e2⟩:=bind_ok h;injection e2 with e2 e3
 subst e2 e3;have h0:K1 s {s with deep:=s.deep+1,quiet:=q}:=K1.of rfl rfl rfl;have h1:=hf _ _ h0 e1;exact⟨h1.toks,h1.bl,h1.ex⟩
def KE(F:PS->R Nat):Prop:=∀s x s',TKs s->F s=.ok x s'->K1 s s'
theorem AX:KE dead:=λs x s' _ h=>by cases h
theorem XE.of{k:Int}{t:Str}{us:List Nat}{ks:List Str}{a:Int}(hk:1<=k/\k<=30)(ht:Utf t/\t.length<=100000)(hn:k≠5->∀c∈t,c≠10)(hks:∀s∈ks,Utf s/\s.length<=100000)
  (h:(k=6\/k=8->ks.length=us.length)/\(k=10\/k=30->1<=us.length)/\(k=11\/k=29\/15<=k/\k<=27->2<=us.length)/\(k=28->3<=us.length)):XE ⟨k,t,us,ks,a⟩:=
 ⟨hk,ht,hks,hn,h.1,h.2.1,h.2.2.1,h.2.2.2⟩
theorem AN:Utf ([]:Str)/\([]:Str).length<=100000:=⟨.nil,dU _⟩
theorem BR{k:Int}:k≠5->∀c∈([]:Str),c≠(10:UInt8):=λ_ c h=>by cases h
theorem sQ:∀s∈([]:List Str),Utf s/\s.length<=100000:=λs h=>by cases h
theorem Df{t:Tok}(h:wU t)(hk:t.k=1):∀c∈t.t,c≠(10:UInt8):=λc hc e=>by
 have:=(h.name hk).2 c hc
 rw[e]at this
 exact absurd this (by decide)
theorem YJ{t:Tok}(h:wU t)(hk:t.k=2):∀c∈t.t,c≠(10:UInt8):=λc hc e=>by
 have:=h.num hk c hc
 rw[e]at this
 exact absurd this (by decide)
theorem Cs{t:Str}(h:Utf t)(hl:t.length<=100000):Utf (jR t)/\(jR t).length<=100000:=⟨AB _ t (aZ _) h,dR (Gh _ t (aZ _)) hl⟩
variable{E S:PS->R Nat}
theorem RD(hE:KE E){s:PS}{t:Str}{a:Int}{x:Nat}{s':PS}(h:pR E s t a=.ok x s'):K1 s s':=by
 unfold pR at h;cases hs:nP t with
 |bad k p=>rw[hs]at h;cases h
 |ok l=>
  rw[hs]at h;simp only at h;obtain⟨y,q,e1,e2⟩:=bind_ok h;obtain⟨t',q',e3,e4⟩:=bind_ok e2;injection e4 with e4 e5
  subst e5;have h1:=hE _ _ _ ⟨EA hs,(uN hs).1⟩ e1;have h2:=(Ah e3).1;exact⟨rfl,h2.bl.trans h1.bl,λhx=>h2.ex (h1.ex hx)⟩
theorem GB(hE:KE E):∀(n:Nat) (s:PS) (rest:Str) (a:Int) (us:List Nat) (ks:List Str) (x:List Nat×List Str) (s':PS),Utf rest->rest.length<=100000->us.length=ks.length->(∀k∈ks,Utf k/\k.length<=100000)->oG E n s rest a us ks=.ok x s'->
  K1 s s'/\x.1.length=x.2.length/\∀k∈x.2,Utf k/\k.length<=100000
 |0,_,_,_,_,_,_,_,_,_,_,_,h=>by cases h
 |n+1,s,rest,a,us,ks,x,s',hu,hl,hlen,hks,h=>by
  have key:∀(ks:List Str) (c:UInt8),c.toNat<128->(∀k∈ks,Utf k/\k.length<=100000)->∀k∈ks++[[c]],Utf k/\k.length<=100000:=λks c hc hks k hk=>by
   rcases bK.1 hk with hk|hk
   ·exact hks k hk
   ·rw[bX]at hk;rw[hk];exact⟨Utf.one (Gi hc),(show 1<=100000 by decide)⟩
  have put5:∀(s:PS) (u:Str) (a:Int),Utf u->u.length<=100000->K1 s {s with ex:=s.ex++[⟨5,jR u,[],[],a⟩]}:=λs u a hu hl=>tK (s:=s) (e:=⟨5,jR u,[],[],a⟩) (x:=s.ex.length) (XE.of (by decide) (Cs hu hl) (λh=>absurd rfl h) sQ (by simp)) rfl
  simp only[oG]at h
  split at h
  ·injection h with h1 h2
   subst h1 h2
   exact⟨K1.refl _,hlen,hks⟩
  split at h
  ·injection h with h1 h2
   subst h1 h2
   exact⟨put5 _ _ _ hu hl,by simp[hlen],key ks 116 (by decide) hks⟩
  ·rename_i i e hi
   obtain⟨u1,u2⟩:=RH hu hi
   have l1:(rest.take i).length<=100000:=by rw[cO];omega
   have l2:(rest.drop e).length<=100000:=by rw[aX];omega
   have hs1:K1 s (if 0<i then{s with ex:=s.ex++[⟨5,jR (rest.take i),[],[],a⟩]}else s):=by
    split
    ·exact put5 _ _ _ u1 l1
    ·exact K1.refl _
   have hl1:(if 0<i then us++[s.ex.length]else us).length=(if 0<i then ks++[[116]]else ks).length:=by split<;>simp[hlen]
   have hk1:∀k∈(if 0<i then ks++[[116]]else ks),Utf k/\k.length<=100000:=by
    split
    ·exact key ks 116 (by decide) hks
    ·exact hks
   generalize (if 0<i then us++[s.ex.length]else us)=us1 at*
   generalize (if 0<i then ks++[[116]]else ks)=ks1 at*
   generalize (if 0<i then{s with ex:=s.ex++[⟨5,jR (rest.take i),[],[],a⟩]}else s)=s1 at*
   split at h
   ·obtain⟨y,s2,e1,e2⟩:=bind_ok h;have h2:=qS e1 λq q2 _ e3=>RD hE e3;obtain⟨h3,h4,h5⟩:=GB hE n s2 _ _ _ _ x s' u2 l2 (by simp[hl1]) (key ks1 101 (by decide) hk1) e2;exact⟨hs1.trans (h2.trans h3),h4,h5⟩
   ·obtain⟨h3,h4,h5⟩:=GB hE n s1 _ _ _ _ x s' u2 l2 hl1 hk1 h;exact⟨hs1.trans h3,h4,h5⟩
theorem WJ(hE:KE E){s:PS}{t:Tok}{x:Nat}{s':PS}(ht:wU t)(h:zN E s t=.ok x s'):K1 s s':=by
 unfold zN at h;split at h
 ·obtain⟨y,s1,e1,e2⟩:=bind_ok h;obtain⟨h1,h2,h3⟩:=GB hE _ _ _ _ _ _ _ _ ht.ut.1 ht.ut.2 rfl sQ e1;exact h1.trans (tK (XE.of (by decide) AN BR h3 ⟨λ_=>h2.symm,by simp,by simp,by simp⟩) e2)
 ·exact tK (XE.of (by decide) (Cs ht.ut.1 ht.ut.2) (λh=>absurd rfl h) sQ (by simp)) h
theorem GD(hE:KE E)(w:Str):∀(n:Nat) (s:PS) (out:List Nat) (x:List Nat) (s':PS),TKs s->sF E w n s out=.ok x s'->K1 s s'
 |0,_,_,_,_,_,h=>by cases h
 |n+1,s,out,x,s',ht,h=>by
  simp only[sF]at h
  split at h
  ·injection h with _ h;rw[<-h];exact pQ s w
  have ht1:=(pQ s w).tk ht
  split at h
  ·obtain⟨y,s1,e1,e2⟩:=bind_ok h
   have h1:=hE _ _ _ ht1 e1
   exact(pQ s w).trans (h1.trans (GD hE w n s1 _ x s' (h1.tk ht1) e2))
  ·obtain⟨y,s1,e1,e2⟩:=bind_ok h
   have h1:=wC e1
   have ht2:=h1.tk ht1
   have h01:=(pQ s w).trans h1
   split at e2
   ·injection e2 with _ e2;rw[<-e2];exact h01.trans (pQ s1 w)
   ·obtain⟨z,s2,e3,e4⟩:=bind_ok e2
    have ht3:=(pQ s1 w).tk ht2
    have h2:=hE _ _ _ ht3 e3
    exact h01.trans ((pQ s1 w).trans (h2.trans (GD hE w n s2 _ x s' (h2.tk ht3) e4)))
theorem NM(hE:KE E){s:PS}{a:Int}{e:Ex}{s':PS}(ht:TKs s)(h:zP E s a=.ok e s'):K1 s s'/\XE e:=by
 unfold zP at h;simp only at h;split at h
 ·obtain⟨us,s1,e1,e2⟩:=bind_ok h;injection e2 with e2 e3
  subst e2 e3;have h0:=(mQ s).trans (pY (step1 s));exact⟨h0.trans (GD hE _ _ _ _ _ _ (h0.tk ht) e1),XE.of (by decide) AN BR sQ (by simp)⟩
 ·have h0:=((mQ s).trans (pY (step1 s))).trans (mQ _);obtain⟨t,s2,e1,h⟩:=bind_ok h;obtain⟨k1,r1,r2⟩:=Ah e1;have tk1:wU t:=by rw[r1];exact xZ (h0.tk ht)
  obtain⟨u,s3,e2,h⟩:=bind_ok h;obtain⟨k2,_,_⟩:=Ah e2;have h03:=(h0.trans k1).trans k2;split at h
  ·cases h
  obtain⟨x,s4,e3,h⟩:=bind_ok h;have k3:=hE _ _ _ (h03.tk ht) e3;obtain⟨_,s5,e4,h⟩:=bind_ok h;have h05:=(h03.trans k3).trans (wC e4);obtain⟨y,s6,e5,h⟩:=bind_ok h;have k5:=hE _ _ _ (h05.tk ht) e5;obtain⟨_,s7,e6,h⟩:=bind_ok h;have k6:=wC e6;injection h with e7 e8
  subst e7 e8;exact⟨(h05.trans k5).trans k6,XE.of (by decide) tk1.ut (λ_=>Df tk1 r2) sQ (by simp)⟩
theorem UI(hE:KE E)(a:Int):∀(n:Nat) (s:PS) (us:List Nat) (ks:List Str) (e:Ex) (s':PS),TKs s->us.length=ks.length->(∀k∈ks,Utf k/\k.length<=100000)->Ch E a n s us ks=.ok e s'->K1 s s'/\XE e
 |0,_,_,_,_,_,_,_,_,h=>by cases h
 |n+1,s,us,ks,e,s',ht,hlen,hks,h=>by
  simp only[Ch]at h
  split at h
  ·injection h with h1 h2
   subst h1 h2
   exact⟨pQ s _,XE.of (by decide) AN BR hks ⟨λ_=>hlen.symm,by simp,by simp,by simp⟩⟩
  have h1:=pQ s [125]
  have ht1:=h1.tk ht
  have tk:=xZ ht1
  have h12:=h1.trans (Jp (cS s [125]).2)
  obtain⟨k,s3,e1,h⟩:=bind_ok h
  have hk:K1 (kY (cS s [125]).2) s3/\Utf k/\k.length<=100000:=by
   split at e1
   ·unfold qF at e1;split at e1
    ·cases e1
    ·injection e1 with e2 e3;rw[<-e2,<-e3];exact⟨K1.refl _,Cs tk.ut.1 tk.ut.2⟩
   ·split at e1
    ·injection e1 with e2 e3;rw[<-e2,<-e3];exact⟨K1.refl _,tk.ut⟩
    ·cases e1
  have h13:=h12.trans hk.1;split at h
  ·cases h
  obtain⟨_,s4,e2,h⟩:=bind_ok h;have h14:=h13.trans (wC e2);obtain⟨x,s5,e3,h⟩:=bind_ok h;have h15:=h14.trans (hE _ _ _ (h14.tk ht) e3);split at h
  ·cases h
  have hc:K1 s (jE (if(cS s5 [44]).1=true then(cS s5 [44]).2 else bM (cS s5 [44]).2)):=by
   split
   ·exact h15.trans ((pQ s5 _).trans (wD _))
   ·exact h15.trans ((pQ s5 _).trans ((pY _).trans (wD _)))
  obtain⟨g1,g2⟩:=UI hE a n _ _ _ e s' (hc.tk ht) (by simp[hlen]) (λq hq=>by
   rcases bK.1 hq with hq|hq
   ·exact hks q hq
   ·rw[bX]at hq;rw[hq];exact hk.2) h
  exact⟨hc.trans g1,g2⟩
theorem Lz(t:Str):rN t=1\/rN t=2\/rN t=3\/rN t=9:=by
 unfold rN
 repeat' split
 all_goals simp
theorem WL(hE:KE E):KE (yG E):=by
 intro s x s' ht h;have tk:=xZ ht;have h0:=pY s;unfold yG at h;simp only at h;split at h
 ·rename_i hk;exact(h0.trans (mQ _)).trans (tK (XE.of (by decide) tk.ut (λ_=>YJ tk hk) sQ (by simp)) h)
 split at h
 ·exact(h0.trans (mQ _)).trans (WJ hE tk h)
 split at h
 ·rename_i hk;have h1:=h0.trans (mQ (bM s));split at h
  ·obtain⟨us,s2,e1,e2⟩:=bind_ok h;have h2:=qS e1 λq q2 hq e3=>(mQ q).trans (GD hE _ _ _ _ _ _ ((mQ q).tk (hq.tk ((h1.trans (pY _)).tk ht))) e3);exact((h1.trans (pY _)).trans h2).trans (tK (XE.of (by decide) tk.ut (λ_=>Df tk hk.1) sQ (by simp)) e2)
  ·have hn:=Lz (cur s).t;refine(h1.trans (pY _)).trans (tK (XE.of (by omega) ?_ ?_ sQ ?_) h)
   ·split
    ·exact tk.ut
    ·exact AN
   ·intro _ c hc;split at hc
    ·exact Df tk hk.1 c hc
    ·cases hc
   ·refine⟨λ_=>rfl,λe=>by omega,λe=>by omega,λe=>by omega⟩
 split at h
 ·refine h0.trans (qS h λq q2 hq e1=>?_);obtain⟨y,q1,e2,e3⟩:=bind_ok e1;obtain⟨_,q3,e4,e5⟩:=bind_ok e3;injection e5 with _ e5
  subst e5;have ht1:=(mQ q).tk (hq.tk (h0.tk ht));exact(mQ q).trans ((hE _ _ _ ht1 e2).trans (wC e4))
 split at h
 ·obtain⟨e,s2,e1,e2⟩:=bind_ok h;have hx:XE e:=by
   unfold within at e1;split at e1
   ·cases e1
   obtain⟨y,q,e3,e4⟩:=bind_ok e1;injection e4 with e4 _
   subst e4;exact(NM hE (s:={bM s with deep:=(bM s).deep+1,quiet:=true}) (h0.tk ht) e3).2
  have h2:=qS e1 λq q2 hq e3=>(NM hE (hq.tk (h0.tk ht)) e3).1;exact(h0.trans h2).trans (tK hx e2)
 split at h
 ·obtain⟨e,s2,e1,e2⟩:=bind_ok h;have ob:∀q q2,TKs q->HD E q (cur s).a=.ok e q2->K1 q q2/\XE e:=λq q2 hq e3=>by
   unfold HD at e3;have h1:=(mQ q).trans (wD (step1 q));obtain⟨g1,g2⟩:=UI hE _ _ _ _ _ _ _ (h1.tk hq) rfl sQ e3;exact⟨h1.trans g1,g2⟩
  have hx:XE e:=by
   unfold within at e1;split at e1
   ·cases e1
   obtain⟨y,q,e3,e4⟩:=bind_ok e1;injection e4 with e4 _
   subst e4;exact(ob {bM s with deep:=(bM s).deep+1,quiet:=false} _ (h0.tk ht) e3).2
  have h2:=qS e1 λq q2 hq e3=>(ob q q2 (hq.tk (h0.tk ht)) e3).1;exact(h0.trans h2).trans (tK hx e2)
 ·cases h
theorem GA(hE:KE E):∀(n:Nat) (s:PS) (x y:Nat) (s':PS),TKs s->rC E n s x=.ok y s'->K1 s s'
 |0,_,_,_,_,_,h=>by cases h
 |n+1,s,x,y,s',ht,h=>by
  simp only[rC]at h
  have h0:=pY s
  have ht0:=h0.tk ht
  split at h
  ·obtain⟨u,s2,e1,h⟩:=bind_ok h
   obtain⟨k1,r1,r2⟩:=Ah e1
   have h1:=h0.trans (pQ (bM s) [46])
   have tk:wU u:=by rw[r1];exact xZ (h1.tk ht)
   have h2:=h1.trans k1
   obtain⟨z,s3,e2,h⟩:=bind_ok h
   have h3:=h2.trans (tK (XE.of (by decide) tk.ut (λ_=>Df tk r2) sQ (by simp)) e2)
   exact h3.trans (GA hE n _ _ _ _ (h3.tk ht) h)
  split at h
  ·obtain⟨o,s2,e1,h⟩:=bind_ok h
   have h2:K1 s s2:=h0.trans (qS e1 λq q2 hq e3=>by
    have hq1:=(mQ q).trans (pQ (step1 q) [42])
    have htq:=hq1.tk (hq.tk ht0)
    split at e3
    ·obtain⟨_,q3,e4,e5⟩:=bind_ok e3
     injection e5 with _ e5
     subst e5
     exact hq1.trans (wC e4)
    ·obtain⟨z,q1,e4,e5⟩:=bind_ok e3
     obtain⟨_,q3,e6,e7⟩:=bind_ok e5
     injection e7 with _ e7
     subst e7
     exact hq1.trans ((hE _ _ _ htq e4).trans (wC e6)))
   cases o with
   |some q=>
    simp only at h
    obtain⟨z,s3,e2,h⟩:=bind_ok h
    have h3:=h2.trans (tK (XE.of (by decide) AN BR sQ (by simp)) e2)
    exact h3.trans (GA hE n _ _ _ _ (h3.tk ht) h)
   |none=>
    simp only at h
    obtain⟨_,s3,e2,h⟩:=bind_ok h
    have h3:=h2.trans (wC e2)
    obtain⟨u,s4,e3,h⟩:=bind_ok h
    obtain⟨k1,r1,r2⟩:=Ah e3
    have tk:wU u:=by rw[r1];exact xZ (h3.tk ht)
    have h4:=h3.trans k1
    obtain⟨z,s5,e4,h⟩:=bind_ok h
    have h5:=h4.trans (tK (XE.of (by decide) tk.ut (λ_=>Df tk r2) sQ (by simp)) e4)
    exact h5.trans (GA hE n _ _ _ _ (h5.tk ht) h)
  ·injection h with _ h
   rw[<-h];exact h0
theorem Jo(hE:KE E)(hS:KE S):KE (wP E S):=by
 intro s x s' ht h;have h0:=pY s;have ht0:=h0.tk ht;unfold wP at h;simp only at h;split at h
 ·obtain⟨y,s2,e1,e2⟩:=bind_ok h;have h2:=h0.trans (qS e1 λq q2 hq e3=>(mQ q).trans (hS _ _ _ ((mQ q).tk (hq.tk ht0)) e3));exact h2.trans (tK (XE.of (by decide) AN BR sQ (by simp)) e2)
 split at h
 ·obtain⟨y,s2,e1,e2⟩:=bind_ok h;have h2:=h0.trans (qS e1 λq q2 hq e3=>(mQ q).trans (hS _ _ _ ((mQ q).tk (hq.tk ht0)) e3));exact h2.trans (tK (XE.of (by decide) AN BR sQ (by simp)) e2)
 ·unfold BN at h;obtain⟨y,s1,e1,e2⟩:=bind_ok h;have h1:=h0.trans (WL hE _ _ _ ht0 e1);exact h1.trans (GA hE _ _ _ _ _ (h1.tk ht) e2)
theorem RA{t:Tok}(h:rO t n≠0):15<=rO t n/\rO t n<=27:=by
 unfold rO Fe at h⊢
 repeat' split at h
 all_goals first
  |exact absurd rfl h
  |(simp_all<;>decide)
theorem NN{J:PS->R Nat}(hJ:KE J)(n:Nat):∀(f:Nat) (s:PS) (a x:Nat) (s':PS),TKs s->wQ J n f s a=.ok x s'->K1 s s'
 |0,_,_,_,_,_,h=>by cases h
 |f+1,s,a,x,s',ht,h=>by
  simp only[wQ]at h
  split at h
  ·injection h with _ h;rw[<-h];exact pY s
  rename_i hk
  have h0:=(pY s).trans (mQ _)
  obtain⟨b,s1,e1,h⟩:=bind_ok h
  have h1:=h0.trans (hJ _ _ _ (h0.tk ht) e1)
  obtain⟨y,s2,e2,h⟩:=bind_ok h
  have hl:=RA hk
  have h2:=h1.trans (tK (XE.of (by omega) AN BR sQ ⟨λe=>by omega,λe=>by omega,λ_=>by simp,λe=>by omega⟩) e2)
  exact h2.trans (NN hJ n f _ _ _ _ (h2.tk ht) h)
theorem GC(hE:KE E)(hS:KE S):∀m,KE (rZ E S m)
 |0=>Jo hE hS
 |m+1=>λs x s' ht h=>by
  have h:(rZ E S m s).bind (λa s1=>wQ (rZ E S m) (5-m) (s.toks.length+1) s1 a)=.ok x s':=h
  obtain⟨a,s1,e1,e2⟩:=bind_ok h
  have h1:=GC hE hS m _ _ _ ht e1
  exact h1.trans (NN (GC hE hS m) _ _ _ _ _ _ (h1.tk ht) e2)
theorem NO(hE:KE E)(hS:KE S):KE (zT E S):=by
 intro s x s' ht h;unfold zT at h;obtain⟨a,s1,e1,h⟩:=bind_ok h;have h1:=GC hE hS 6 _ _ _ ht e1;simp only at h;have h2:=h1.trans (pQ s1 [63]);split at h
 ·obtain⟨z,s2,e2,e3⟩:=bind_ok h;have h3:=h2.trans (qS e2 λq q2 hq e4=>by
   have htq:=hq.tk (h2.tk ht);obtain⟨y,q1,e5,e6⟩:=bind_ok e4;have g1:=hE _ _ _ htq e5;obtain⟨_,q3,e7,e8⟩:=bind_ok e6;have g2:=g1.trans (wC e7);obtain⟨y2,q4,e9,e10⟩:=bind_ok e8;injection e10 with _ e10
   subst e10;exact g2.trans (hE _ _ _ (g2.tk htq) e9))
  exact h3.trans (tK (XE.of (by decide) AN BR sQ (by simp)) e3)
 ·injection h with _ h
  rw[<-h];exact h2
theorem AQ:∀d,KE (sB d).1/\KE (sB d).2
 |0=>⟨NO AX AX,Jo AX AX⟩
 |d+1=>⟨NO (AQ d).1 (AQ d).2,Jo (AQ d).1 (AQ d).2⟩
end
section
open Go Go.Eng Go.Lex Go.Syn
variable{w:World}{K:Q0}{cs:List Value}{G:Nat->Prop}{T:TypeId}{i:Nat}{n:Nat}{v:Value}{w':World}{P:Program}{c:UInt8}{S:Nat->Prop}
def Eh(t:Str):Prop:=(∃c r,t=c::r/\iM c=true)/\(∀d∈t,jH d=true)/\t.length<=100000
structure XB(b:Blk):Prop where
 ty:Eh b.typ
 lb:∀s∈b.labels,Utf s/\s.length<=100000
 at_:∀a∈b.attrs,Eh a.n
 few:b.labels.length<=5000
def HB:Nat->List Blk->Nat->Prop
 |0,_,_=>False
 |d+1,bl,i=>∃b,bl[i]?=some b/\∀k∈b.blocks,HB d bl k
theorem Po{α:Type}{l m:List α}(h:l<+:m){x:α}(hi:l[i]?=some x):m[i]?=some x:=by
 obtain⟨t,rfl⟩:=h;rw[fQ (bS.1 hi).1];exact hi
theorem HB.mono{l m:List Blk}(h:l<+:m):∀{d i:Nat},HB d l i->HB d m i
 |0,_,hh=>hh
 |d+1,i,⟨b,h1,h2⟩=>⟨b,Po h h1,λk hk=>HB.mono h (h2 k hk)⟩
structure K2(s s':PS):Prop where
 toks:s'.toks=s.toks
 pre:s.bl<+:s'.bl
 bl:(∀b∈s.bl,XB b)->∀b∈s'.bl,XB b
 ex:(∀e∈s.ex,XE e)->∀e∈s'.ex,XE e
theorem K1.k2{s s':PS}(h:K1 s s'):K2 s s':=⟨h.toks,by rw[h.bl];exact List.prefix_refl _,λhb=>by rw[h.bl];exact hb,h.ex⟩
theorem K2.trans{s s1 s2:PS}(h:K2 s s1)(h':K2 s1 s2):K2 s s2:=⟨h'.toks.trans h.toks,h.pre.trans h'.pre,λhb=>h'.bl (h.bl hb),λhx=>h'.ex (h.ex hx)⟩
theorem K2.tk{s s':PS}(h:K2 s s')(ht:TKs s):TKs s':=by unfold TKs;rw[h.toks];exact ht
theorem LF{α:Type}{s:PS}{a:Int}{q:Bool}{f:PS->R α}{x:α}{s':PS}(h:within s a q f=.ok x s'):∃s1 s2,K1 s s1/\s1.bl=s.bl/\f s1=.ok x s2/\s'.toks=s2.toks/\s'.bl=s2.bl/\s'.ex=s2.ex:=by
 unfold within at h;split at h
 ·cases h
 obtain⟨y,s1,e1,e2⟩:=bind_ok h;injection e2 with e2 e3
 subst e2 e3;exact⟨{s with deep:=s.deep+1,quiet:=q},s1,K1.of rfl rfl rfl,rfl,e1,rfl,rfl,rfl⟩
theorem Ns{t:Tok}(h:wU t)(hk:t.k=1):Eh t.t:=⟨(h.name hk).1,(h.name hk).2,h.ut.2⟩
theorem HM:∀(n:Nat) (s:PS) (ls:List Str) (x:List Str) (s':PS),TKs s->(∀l∈ls,Utf l/\l.length<=100000)->qR n s ls=.ok x s'->K1 s s'/\(∀l∈x,Utf l/\l.length<=100000)/\x.length<=ls.length+n
 |0,_,_,_,_,_,_,h=>by cases h
 |n+1,s,ls,x,s',ht,hl,h=>by
  simp only[qR]at h
  split at h
  ·have tk:=xZ ht
   obtain⟨y,s1,e1,e2⟩:=bind_ok h
   have h1:s1=kY s/\y=jR (cur s).t:=by
    unfold qF at e1;split at e1
    ·cases e1
    ·injection e1 with e3 e4;exact⟨e4.symm,e3.symm⟩
   have k1:K1 s s1:=by rw[h1.1];exact Jp s
   obtain⟨g1,g2,g3⟩:=HM n s1 _ x s' (k1.tk ht) (λl hm=>by
    rcases bK.1 hm with hm|hm
    ·exact hl l hm
    ·rw[bX]at hm;rw[hm,h1.2];exact Cs tk.ut.1 tk.ut.2) e2
   exact⟨k1.trans g1,g2,by rw[aP]at g3;simp only[aB,aK]at g3;omega⟩
  ·injection h with h1 h2
   rw[<-h1,<-h2];exact⟨pY s,hl,by omega⟩
def KB(d:Nat)(B:PS->R Nat):Prop:=∀s x s',TKs s->B s=.ok x s'->K2 s s'/\HB d s'.bl x
theorem Sf:KB 0 dead:=λs x s' _ h=>by cases h
variable{E B:PS->R Nat}{d:Nat}
theorem WK(hE:KE E)(hB:KB d B){s:PS}{us:List Atr}{bs:List Nat}{x:List Atr×List Nat}{s':PS}(ht:TKs s)(hu:∀a∈us,Eh a.n)(hb:∀k∈bs,HB d s.bl k)(h:zR E B s us bs=.ok x s'):
  K2 s s'/\(∀a∈x.1,Eh a.n)/\∀k∈x.2,HB d s'.bl k:=by
 unfold zR at h;obtain⟨t,s1,e1,h⟩:=bind_ok h;obtain⟨k1,r1,r2⟩:=Ah e1;have tk:wU t:=by rw[r1];exact xZ ht
 have k2:=k1.trans (pQ s1 [61]);split at h
 ·obtain⟨y,s2,e2,h⟩:=bind_ok h;have k3:=k2.trans (hE _ _ _ (k2.tk ht) e2);injection h with h1 h2
  subst h1 h2;refine⟨k3.k2,λa ha=>?_,λk hk=>by rw[k3.bl];exact hb k hk⟩;rcases bK.1 ha with ha|ha
  ·exact hu a ha
  ·rw[bX]at ha;rw[ha];exact Ns tk r2
 ·obtain⟨y,s2,e2,h⟩:=bind_ok h;have k3:K1 s {(cS s1 [61]).2 with i:=(cS s1 [61]).2.i-1}:=k2.trans (K1.of rfl rfl rfl);obtain⟨g1,g2⟩:=hB _ _ _ (k3.tk ht) e2;injection h with h1 h2
  subst h1 h2;have k4:=k3.k2.trans g1;refine⟨k4,hu,λk hk=>?_⟩;rcases bK.1 hk with hk|hk
  ·exact(hb k hk).mono k4.pre
  ·rw[bX]at hk;rw[hk];exact g2
theorem Ko(hE:KE E)(hB:KB d B):∀(n:Nat) (s:PS) (us:List Atr) (bs:List Nat) (x:List Atr×List Nat) (s':PS),TKs s->(∀a∈us,Eh a.n)->(∀k∈bs,HB d s.bl k)->qT E B n s us bs=.ok x s'->
  K2 s s'/\(∀a∈x.1,Eh a.n)/\∀k∈x.2,HB d s'.bl k
 |0,_,_,_,_,_,_,_,_,h=>by cases h
 |n+1,s,us,bs,x,s',ht,hu,hb,h=>by
  simp only[qT]at h
  have k1:=pQ s [125]
  split at h
  ·injection h with h1 h2
   subst h1 h2
   exact⟨k1.k2,hu,λk hk=>by rw[k1.bl];exact hb k hk⟩
  obtain⟨y,s1,e1,h⟩:=bind_ok h
  obtain⟨g1,g2,g3⟩:=WK hE hB (k1.tk ht) hu (λk hk=>by rw[k1.bl];exact hb k hk) e1
  split at h
  ·cases h
  have k3:=(pY s1).trans (wD (bM s1))
  have k4:=(k1.k2.trans g1).trans k3.k2
  obtain⟨q1,q2,q3⟩:=Ko hE hB n _ _ _ x s' (k4.tk ht) g2 (λk hk=>by rw[k3.bl];exact g3 k hk) h
  exact⟨k4.trans q1,q2,q3⟩
theorem Kq(hE:KE E)(hB:KB d B):KB (d+1) (uH E B):=by
 intro s x s' ht h;unfold uH at h;obtain⟨t,s1,e1,h⟩:=bind_ok h;obtain⟨k1,r1,r2⟩:=Ah e1;have tk:wU t:=by rw[r1];exact xZ ht
 obtain⟨ls,s2,e2,h⟩:=bind_ok h;obtain⟨k2,hls,hll⟩:=HM _ _ _ _ _ (k1.tk ht) (λl hl=>by cases hl) e2;have k12:=k1.trans k2;split at h
 ·cases h
 obtain⟨y,s3,e3,h⟩:=bind_ok h;obtain⟨q,q2,w1,w2,w3,w4,w5,w6⟩:=LF e3;have kq:=((k12.trans (pY s2)).trans w1).trans ((mQ q).trans (wD (step1 q)));obtain⟨g1,g2,g3⟩:=Ko hE hB _ _ _ _ _ _ (kq.tk ht) (λa ha=>by cases ha) (λk hk=>by cases hk) w3;have k5:=kq.k2.trans g1;injection h with h1 h2
 subst h1 h2;have hx:XB ⟨t.t,ls,y.1,y.2,t.a⟩:=⟨Ns tk r2,hls,g2,by show ls.length<=5000;have:=ht.2;simp only[aK]at hll;omega⟩;refine⟨⟨w4.trans k5.toks,?_,λhb b hm=>?_,λhe=>by show∀e∈s3.ex,XE e;rw[w6];exact k5.ex he⟩,?_⟩
 ·show s.bl<+:s3.bl++_;rw[w5];exact k5.pre.trans (List.prefix_append _ _)
 ·have hm:b∈s3.bl++[⟨t.t,ls,y.1,y.2,t.a⟩]:=hm;rcases bK.1 hm with hm|hm
  ·rw[w5]at hm;exact k5.bl hb b hm
  ·rw[bX]at hm;rw[hm];exact hx
 ·refine⟨⟨t.t,ls,y.1,y.2,t.a⟩,?_,λk hk=>?_⟩
  ·show(s3.bl++[_])[s3.bl.length]?=_;rw[fU (aZ _),Nat.sub_self];rfl
  ·refine(g3 k hk).mono ?_;show q2.bl<+:s3.bl++_;rw[<-w5];exact List.prefix_append _ _
theorem HN:∀d,KB (d+1) (yE d)
 |0=>Kq AX Sf
 |d+1=>Kq (AQ d).1 (HN d)
theorem UH:∀(n:Nat) (s:PS) (top x:List Nat) (s':PS),TKs s->(∀k∈top,HB 25 s.bl k)->zG n s top=.ok x s'->K2 s s'/\∀k∈x,HB 25 s'.bl k
 |0,_,_,_,_,_,_,h=>by cases h
 |n+1,s,top,x,s',ht,hb,h=>by
  simp only[zG]at h
  have k1:=pY s
  split at h
  ·injection h with h1 h2
   subst h1 h2
   exact⟨k1.k2,λk hk=>by rw[k1.bl];exact hb k hk⟩
  obtain⟨y,s1,e1,h⟩:=bind_ok h
  obtain⟨g1,g2⟩:=HN 24 _ _ _ (k1.tk ht) e1
  split at h
  ·cases h
  have k3:=(pY s1).trans (wD (bM s1))
  have k4:=(k1.k2.trans g1).trans k3.k2
  obtain⟨q1,q2⟩:=UH n _ _ x s' (k4.tk ht) (λk hk=>by
   rcases bK.1 hk with hk|hk
   ·exact(hb k hk).mono k4.pre
   ·rw[bX]at hk;rw[hk,k3.bl];exact g2) h
  exact⟨k4.trans q1,q2⟩
theorem BO{t:Str}{f:Fl}(h:pO t=.ok f):(∀e∈f.ex,XE e)/\(∀b∈f.bl,XB b)/\∀k∈f.top,HB 25 f.bl k:=by
 unfold pO at h;cases hs:nP t with
 |bad c a=>rw[hs]at h;cases h
 |ok l=>
  rw[hs]at h;simp only at h;cases hr:zG (l.length+1) (jE ⟨l,0,0,0,false,[],[]⟩) []with
  |err c a=>rw[hr]at h;cases h
  |ok top s'=>
   rw[hr]at h;injection h with h
   subst h;have k1:=wD ⟨l,0,0,0,false,[],[]⟩;obtain⟨g1,g2⟩:=UH _ _ _ _ _ (k1.tk ⟨EA hs,(uN hs).1⟩) (λk hk=>by cases hk) hr;have g:=k1.k2.trans g1;exact⟨g.ex (λe he=>by cases he),g.bl (λb hb=>by cases hb),g2⟩
end
end Go.Proofs.YtjblfcfdeaagpaaGreatDoor
