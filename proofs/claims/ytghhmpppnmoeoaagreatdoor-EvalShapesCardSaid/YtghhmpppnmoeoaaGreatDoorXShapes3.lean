/- One plain sentence: contracts and plain laws that the claim rests on. Conditions: those that each states. -/
import Derived.Test.YtghhmpppnmoeoaaGreatDoorXShapes2
import Derived.Test.YtghhmpppnmoeoaaGreatDoorXShapes1
import Derived.Laws.IdiomCopy
import Derived.Lib.Overlaps
import Derived.Lib.AppendZerosOnto
import Derived.Sort.OwnSorted
import Derived.Lib.SlicesCompact
import Derived.Lib.DecodeN
import Derived.Lib.RuneBytes
import Derived.Laws.Externs
import Derived.Lib.Split
import Derived.Lib.Join
import Derived.Lib.ItoaNum
import Derived.Maps.RangeRun
import Derived.MapKept
import Derived.Lib.LastIndexByte
import Derived.Lib.AtoiAll
import Derived.Lib.SplitLaws
import Derived.Lib.Builder
import Derived.ProofKit
import Derived.WalkKit
import Derived.Lib.AppendStr
import Derived.Lib.ValidU
import Derived.Lib.Index
set_option linter.all false
set_option linter.unusedSimpArgs false
set_option linter.unusedVariables false
set_option linter.unusedSectionVars false
set_option maxRecDepth 100000
namespace Go.Proofs.YtghhmpppnmoeoaaGreatDoor
section
open Go Go.Eng Go.Num
variable{w:World}{K:Q0}{cs:List Value}{G:Nat->Prop}{T:TypeId}{i:Nat}{n:Nat}{v:Value}{w':World}{P:Program}{c:UInt8}{S:Nat->Prop}
section
variable [HX]
theorem DR(v:JV):∀{cs:List Value} {w:World} {K:Q0},tR v=true->eX w v cs->(∀cs' w',Ext w w'->cM (yE w.heap.size) w' v cs'->K (.agg cs'.toArray) w')->aC P0 88 [.agg cs.toArray] w K:=by
 induction v using JV.ind' with
 |h v ih=>
  intro cs w K o h hK;rw[xL,wO]at o;simp only[aL,bD,bN]at o;obtain⟨⟨f1,f2⟩,f3⟩:=o;refine TB ?_;unfold W88;refine kJ h λa w1 sv kv hB hx ha=>?_;refine bI λb w2 hb xn xf hq=>?_;have U:Ext w2 w2.drew:=Chg.drew (Chg.refl (λ_=>False) w2);have xb:=hB.ext hq;have xa:=xb.ext U;have xe:=U.at xf id;have sd:w2.drew.heap.size=w2.heap.size:=rfl;simp only[wsv,wsg,wsh,wsl,aM,aK,aD,fB,Nat.reduceAdd,Nat.reduceLT,aF,aA,aI,aH,bP,reduceCtorEq,wsh,xb.hb];obtain⟨T1,k1⟩:=xa.keys;refine Xx k1 (by omega) λkv' w3 J hs hv=>?_;have ho:=xa.ext J;have xi:=J.at xe id;have s3:=J.size;simp only[wsv,wsg,wsh,wsl,aM,aK,aD,fB,Nat.reduceAdd,Nat.reduceLT,aF,aA,aI,aH,bP,reduceCtorEq,wsh,ho.hb];refine Tj (λx hx=>ih x hx (f3 x hx)) ho.itemsAt (by omega) λsv' w4 I hL ht=>?_;obtain⟨L,hz,xj⟩:=hL;have xk:=ho.ext I;have xh:=I.at xi id;have s1:=hx.size;have xo:=fA hB.hb;have fC:fC sv'=true/\fC kv'=true:=by
   obtain⟨p,c,rfl,_⟩:=hz.shape;obtain⟨p',c',rfl,_⟩:=hs.shape;exact⟨rfl,rfl⟩
  refine iO xk.hb fC.2 (by simp) λw5 xm hj hh=>?_;have hj:w5.heap[a]?=some (.cells [i64 v.k,.bool v.b,str v.t,sv,kv'].toArray VT (0,0)):=by rw[hj];simp
  refine iO hj fC.1 (by simp) λw6 xl hi hg=>?_;have hi:w6.heap[a]?=some (.cells [i64 v.k,.bool v.b,str v.t,sv',kv'].toArray VT (0,0)):=by rw[hi];simp
  refine bZ hi rfl ?_;have xg:=hg.at (hh.at xh (by omega)) (by omega);refine iI xg rfl rfl (xH fC.1 fC.2) λw7 hy=>?_;have xd:Ext w w4:=hx.trans (hq.trans (U.trans (J.trans I)));have xc:Ext w w7:=((xd.new hh (by omega)).new hg (by omega)).new hy (by omega);have hc:Chg (λk=>k=a\/k=b) w4 w7:=((hh.mono λk _ e=>.inl e).trans (hg.mono λk _ e=>.inl e)).trans (hy.mono λk _ e=>.inr e);refine hK _ w7 xc (cM.mk (T1:=VT) (T2:=ST) (L:=L) ?_ ?_ ?_ hB.fits (λ_ k j=>?_) (λ_ k j=>?_))
  ·exact vV hz (λ_=>ht) hc λk j _ e=>by have:w3.heap.size<=k:=j;omega
  ·refine cA.mono (λk _ j=>?_) (cA.chg (G:=yE w3.heap.size) hc (λk j _ e=>by have:w3.heap.size<=k:=j;omega) xj);have:w3.heap.size<=k:=j;show w.heap.size<=k;omega
  ·exact vV (hs.ext I) (λ_=>hv) hc λk j _ e=>by have:w2.drew.heap.size<=k:=j;omega
  ·have:w3.heap.size<=k:=ht k j;show w.heap.size<=k;omega
  ·have:w2.drew.heap.size<=k:=hv k j;show w.heap.size<=k;omega
theorem Jy{kv:Value}{ks:List Str}{k:Str}{K:Q0}(h:SlAt w T kv ks.length (ks.map str))(hl:ks.length<=100000)(hr:LF ks)
  (U:∀i:Nat,(wL ks k=none\/wL ks k=some i)->(∀j a,j<i->ks[j]?=some a->Op.bytesLess a k=true)->(∀j a,i<=j->ks[j]?=some a->Op.bytesLess a k=false)->i<=ks.length->K (.tuple #[i64 (i:Nat),.bool (wL ks k).isSome]) w):
  aC P0 153 [kv,str k] w K:=by
 refine YK ?_;unfold aE4;rw[fL h];refine⟨λs w'=>∃lo hi:Nat,lo<=hi/\hi<=ks.length/\s=[i64 (lo:Nat),i64 (hi:Nat)]/\w'=w/\(∀j a,j<lo->ks[j]?=some a->Op.bytesLess a k=true)/\(∀j a,hi<=j->ks[j]?=some a->Op.bytesLess a k=false),
  λs _=>match s with|[.int _ lo,.int _ hi]=>hi.toNat-lo.toNat|_=>0,⟨0,ks.length,by omega,by omega,rfl,rfl,λj a h=>by omega,λj a hj J=>by have:=(List.getElem?_eq_some_iff.1 J).1;omega⟩,?_⟩
 rintro s g w2 ⟨lo,hi,hz,ho,rfl,rfl,h1,h2⟩;rcases dR lo hi with hk|xa
 ·have hh:(lo:Int)<(hi:Int):=by omega
  have e1:IntKind.i64.wrap ((lo:Int)+(hi:Int))=((lo+hi:Nat):Int):=by rw[cN (by omega) (by omega)];omega
  have e2:IntKind.u64.wrap ((lo+hi:Nat):Int)=((lo+hi:Nat):Int):=pM (by omega) (by omega);have e3:(((lo+hi:Nat):Int).fdiv (2^min (1:Int).toNat IntKind.u64.bits))=(((lo+hi)/2:Nat):Int):=by
   have:(2:Int)^min (1:Int).toNat IntKind.u64.bits=2:=by decide
   rw[this,Int.fdiv_eq_ediv_of_nonneg _ (by omega)];omega
  have e4:IntKind.i64.wrap (((lo+hi)/2:Nat):Int)=(((lo+hi)/2:Nat):Int):=cN (by omega) (by omega);generalize hm:(lo+hi)/2=m at*
  obtain⟨u,o⟩:∃u,ks[m]?=some u:=⟨_,List.getElem?_eq_getElem (by omega)⟩;have hv:(0:Int)<=1:=by decide
  simp only[wsv,wsg,wsh,wsl,aM,aK,aD,fB,Nat.reduceAdd,Nat.reduceLT,aF,aA,aI,aH,bP,reduceCtorEq,hh,e1,e2,XC,hv,e3,e4];refine nM h o ?_;refine Tf ?_;rw[bY];refine⟨λhl=>?_,λhn=>?_⟩
  ·rw[up1 (by omega)];refine⟨⟨m+1,hi,by omega,ho,rfl,rfl,λj a hj J=>?_,h2⟩,by simp only[aW];omega⟩;rcases dR j m with I|I
   ·exact qR (Iq hr J o I) hl
   ·obtain rfl:j=m:=by omega
    rw[o]at J;cases J;exact hl
  ·refine⟨⟨lo,m,by omega,by omega,rfl,rfl,h1,λj a hj J=>?_⟩,by simp only[aW];omega⟩;rcases dR m j with I|I
   ·cases hb:Op.bytesLess a k with
    |false=>rfl
    |true=>have:=qR (Iq hr o J I) hb;rw[hn]at this;cases this
   ·obtain rfl:j=m:=by omega
    rw[o]at J;cases J;exact hn
 ·obtain rfl:lo=hi:=by omega
  have hc:wL ks k=none\/wL ks k=some lo:=by
   cases hx:wL ks k with
   |none=>exact .inl rfl
   |some j=>
    right;have hj:=wK hx;rcases Nat.lt_trichotomy j lo with h|h|h
    ·have:=h1 j k h hj;rw[EW]at this;cases this
    ·rw[h]
    ·obtain⟨u,o⟩:∃u,ks[lo]?=some u:=⟨_,List.getElem?_eq_getElem (by have:=(List.getElem?_eq_some_iff.1 hj).1;omega)⟩;have a1:=h2 lo u (aV _) o;have a2:=Iq hr o hj h;rw[a1]at a2;cases a2
  have U:=U lo hc h1 h2 ho;simp only[wsv,wsg,wsh,wsl,aM,aK,aD,fB,Nat.reduceAdd,Nat.reduceLT,aF,aA,aI,aH,bP,reduceCtorEq,fJ];rcases dR lo ks.length with hk|hy
  ·obtain⟨u,o⟩:∃u,ks[lo]?=some u:=⟨_,List.getElem?_eq_getElem hk⟩;have ed:decide ((lo:Int)<(ks.length:Int))=true:=bH (by omega);have hsome:(wL ks k).isSome=decide (u=k):=by
    by_cases e:u=k
    ·subst e;have hm:u∈ks:=bG o;rw[bH rfl];cases hx:wL ks u with
     |none=>exact absurd hm (Ai.1 hx)
     |some _=>rfl
    ·rw[cH e];rcases hc with h|h
     ·rw[h];rfl
     ·have:=wK h;rw[o]at this;exact absurd (fN this) e
   rw[hsome]at U;simp only[wsv,wsg,wsh,wsl,aM,aK,aD,fB,Nat.reduceAdd,Nat.reduceLT,aF,aA,aI,aH,bP,reduceCtorEq,ed];refine GdW.t ?_;refine nM h o ?_;intro gg;simp only[eM];simp only[wsv,wsg,wsh,wsl,aM,aK,aD,fB,Nat.reduceAdd,Nat.reduceLT,aF,aA,aI,aH,bP,reduceCtorEq];by_cases e:u=k
   ·rw[bH e]at U⊢
    (try simp only[wsv,wsg,wsh,wsl,aM,aK,aD,fB,Nat.reduceAdd,Nat.reduceLT,aF,aA,aI,aH,bP,reduceCtorEq])
    intros;exact U
   ·rw[cH e]at U⊢
    (try simp only[wsv,wsg,wsh,wsl,aM,aK,aD,fB,Nat.reduceAdd,Nat.reduceLT,aF,aA,aI,aH,bP,reduceCtorEq])
    refine GdW.t ?_;refine nM h o ?_;refine Sl ?_;intro gg
    (try simp only[wsv,wsg,wsh,wsl,aM,aK,aD,fB,Nat.reduceAdd,Nat.reduceLT,aF,aA,aI,aH,bP,reduceCtorEq])
    intros;exact U
  ·have hsome:wL ks k=none:=by
    rcases hc with h|h
    ·exact h
    ·have:=(List.getElem?_eq_some_iff.1 (wK h)).1;omega
   rw[hsome]at U;have ed:decide ((lo:Int)<(ks.length:Int))=false:=cH (by omega);simp only[wsv,wsg,wsh,wsl,aM,aK,aD,fB,Nat.reduceAdd,Nat.reduceLT,aF,aA,aI,aH,bP,reduceCtorEq,ed];intros;exact U
end
end
end Go.Proofs.YtghhmpppnmoeoaaGreatDoor
namespace Go.Eng
section
open Go
variable{w:World}{K:Q0}{cs:List Value}{G:Nat->Prop}{T:TypeId}{i:Nat}{n:Nat}{v:Value}{w':World}{P:Program}{c:UInt8}{S:Nat->Prop}
theorem GE{b:Nat}{T:TypeId}:∀(vs:List Value) (o:Nat) (w:World) (cs:List Value),w.heap[b]?=some (.cells cs.toArray T (0,0))->o+vs.length<=cs.length->
  (w.setCells b o vs).heap[b]?=some (.cells (cs.take o++vs++cs.drop (o+vs.length)).toArray T (0,0))/\Chg (λk=>k=b) w (w.setCells b o vs)/\(w.setCells b o vs).heap.size=w.heap.size
 |[],o,w,cs,h,_=>by
  refine⟨?_,Chg.refl _ _,rfl⟩
  simp only[World.setCells,aN,eU,eG,iH]
  exact h
 |v::r,o,w,cs,h,hl=>by
  rw[aB]at hl
  have hb:(w.setCell ⟨b,o,none⟩ v).heap[b]?=some (.cells (cs.set o v).toArray T (0,0)):=by
   rw[oF,h,zT];simp
  obtain⟨h1,J,I⟩:=GE r (o+1) (w.setCell ⟨b,o,none⟩ v) (cs.set o v) hb (by rw[List.length_set];omega);have j:Chg (λk=>k=b) w (w.setCell ⟨b,o,none⟩ v):=Chg.set (S:=λk=>k=b) (Chg.refl _ _) (.inl rfl) _;simp only[World.setCells];refine⟨?_,j.trans J,by rw[I];simp⟩;rw[h1];have e:(cs.set o v).take (o+1)++r++(cs.set o v).drop (o+1+r.length)=cs.take o++v::r++cs.drop (o+(v::r).length):=by
   rw[dG,List.getElem?_set_self (by omega),List.take_set_of_le (by omega),List.drop_set_of_lt (by omega),aB];simp;congr 1;omega
  rw[e]
theorem Io(w:World)(dT sT ty elem:TypeId)(b o dLen dCap:Nat)(a:Addr)(sLen sCap:Nat)(cs:List Value){i:TypeInfo}
  (U:P.underlying dT=some (.slice elem))(hq:P.info? elem=some i)(hn:cs.length=Nat.min sLen dLen*i.size)
  (I:∀j v,cs[j]?=some v->w.cell? (a.add j)=some v)(hc:∀j,j<cs.length->(w.cell? ⟨b,o+j,none⟩).isSome=true)(hf:∀j,j<cs.length->w.frozen? ⟨b,o+j,none⟩=false)(h1:∀v∈cs,v.oneCell'=true):
  (Builtin.copy_ #[dT,sT] ty #[.slice (some ⟨b,o,none⟩) dLen dCap,.slice (some a) sLen sCap]).run P w=.ok (goInt (Nat.min sLen dLen)) (w.setCells b o cs):=by
 have hl:=run_loadCells_list (P:=P) w a cs I;have J:=run_storeCells_cells (P:=P) b o cs 0 w (by simpa using hc) (by simpa using hf) h1;simp[Builtin.copy_,bJ U,Builtin.lenOf,Builtin.firstCells,sizeOf,typeInfo,hq,<-hn,hl,J,run_bind,run_pure]
theorem IU{dT sT ty e:TypeId}{size bytes:Nat}(hT:rI P dT e size bytes){b o dl dc sl sc:Nat}{a:Addr}{vs:List Value}{K:Q0}
  (hb:w.heap[b]?=some (.cells cs.toArray T (0,0)))(hn:vs.length=Nat.min sl dl*size)(I:∀j v,vs[j]?=some v->w.cell? (a.add j)=some v)(J:o+vs.length<=cs.length)(h1:∀v∈vs,fC v=true)
  (hK:∀r w',w'.heap[b]?=some (.cells (cs.take o++vs++cs.drop (o+vs.length)).toArray T (0,0))->Chg (λk=>k=b) w w'->w'.heap.size=w.heap.size->K r w'):
  dF P (Builtin.copy_ #[dT,sT] ty #[.slice (some ⟨b,o,none⟩) dl dc,.slice (some a) sl sc]) w K:=by
 obtain⟨i,z,hi,_,hs,_,_⟩:=hT.get;unfold dF
 rw[Io w dT sT ty e b o dl dc a sl sc vs hT.und hi (by rw[hs];exact hn) I (λj hj=>by
    rw[cG,hb,cJ];simp;omega) (λj hj=>by rw[mM,hb,pX]) λv U=>vM (h1 v U)]
 obtain⟨q1,q2,q3⟩:=GE vs o w cs hb J;exact hK _ _ q1 q2 q3
section
variable [HX]
def ZA(P:Program)(s:Nat)(t it:TypeId)(ov rep:FuncId)(v0 v1 v2:Value)(w:World)(K:Q0):Prop:=
 kR s v0 (some v1) none none λ_=>
 dA v2 λt14=>
 aQ .eql t14 (.int .i64 0) λt16=>
 aS t16 (
  K v0 w) (
  dA v0 λt19=>
  aQ .eql v1 t19 λt22=>
  aS t22 (
   dF P (Builtin.append_ #[t,t] t #[v0,v2]) w λt25 w1=>
   K t25 w1) (
   aQ .add t19 t14 λt28=>
   Qh v0 λt30=>
   aQ .gtr t28 t30 λt31=>
   aS t31 (
    kR s v0 none (some v1) none λt34=>
    aQ .add t19 t14 λt37=>
    aQ .sub t37 v1 λt39=>
    dF P (Builtin.append_ #[t,it] t #[t34,t39]) w λt40 w2=>
    kR s t40 (some v1) none none λt43=>
    dF P (Builtin.copy_ #[t,t] it #[t43,v2]) w2 λ_ w3=>
    aQ .add v1 t14 λt49=>
    kR s t40 (some t49) none none λt50=>
    kR s v0 (some v1) none none λt53=>
    dF P (Builtin.copy_ #[t,t] it #[t50,t53]) w3.drew λ_ w4=>
    K t40 w4) (
    aQ .add t19 t14 λt59=>
    kR s v0 none (some t59) none λt60=>
    aQ .add v1 t14 λt65=>
    kR s t60 (some t65) none none λt66=>
    aC P ov [v2,t66] w λt67 w5=>
    unW .not t67 λt68=>
    aS t68 (
     aQ .add v1 t14 λt72=>
     kR s t60 (some t72) none none λt73=>
     kR s t60 (some v1) none none λt76=>
     dF P (Builtin.copy_ #[t,t] it #[t73,t76]) w5.drew λ_ w6=>
     kR s t60 (some v1) none none λt80=>
     dF P (Builtin.copy_ #[t,t] it #[t80,v2]) w6 λ_ w7=>
     K t60 w7) (
     kR s t60 (some t19) none none λt86=>
     dF P (Builtin.copy_ #[t,t] it #[t86,v2]) w5 λ_ w8=>
     kR s t60 (some v1) none none λt91=>
     aC P rep [t91,t14] w8 λ_ w9=>
     K t60 w9))))
theorem AM{s g o cap:Nat}{K:Value->Prop}(hi:i<=n)(hn:n<=cap)(j:cap≠i):kR s (.slice (some ⟨g,o,none⟩) n cap) (some (i64 (i:Nat))) none none K↔K (.slice (some ⟨g,o+i*s,none⟩) (n-i) (cap-i)):=by
 rw[Ii,fM,fM,eR];simp only[aW,aE j,gK,bW];constructor
 ·rintro⟨_,_,h⟩;exact h
 ·intro h;exact⟨by omega,by omega,h⟩
theorem QP{s g cap:Nat}{K:Value->Prop}(hi:i<=cap)(h0:0<cap):kR s (.slice (some ⟨g,0,none⟩) n cap) none (some (i64 (i:Nat))) none K↔K (.slice (some ⟨g,0,none⟩) i cap):=by
 rw[Ii,fM,eR,fM];simp only[aW,aE (show¬cap=0 by omega),gK,bW,mZ,eU,Nat.sub_zero];constructor
 ·rintro⟨_,_,h⟩;exact h
 ·intro h;exact⟨by omega,by omega,h⟩
theorem Kx{t it ov rep e T2:TypeId}{size bytes:Nat}(hT:rI P t e size bytes)(ym:P.underlying it=some (.int .i64))
  (yi:∀{w:World} {a b oa ob la ca lb cb:Nat} {x y:List Value} {T1 T2:TypeId} {K:Q0},a≠b->w.heap[a]?=some (.cells x.toArray T1 (0,0))->w.heap[b]?=some (.cells y.toArray T2 (0,0))->y≠[]->K (.bool false) w->aC P ov [.slice (some ⟨a,oa,none⟩) la ca,.slice (some ⟨b,ob,none⟩) lb cb] w K){base tb:Nat}{xs c:List Value}{K:Q0}(hh:Own w base e size v n xs)(ht:w.heap[tb]?=some (.cells c.toArray T2 (0,0)))(hc:c.length=size)(h1:∀u∈c,fC u=true)(ye:∀u∈xs,fC u=true)
  (yj:v.ownBlock≠some tb)(hi:i<=n)(hn:n<=1000000)(xv:bytes<=1000)(hbase:base<=w.heap.size)
  (hK:∀v' w',Own w' base e size v' (n+1) (xs.take (i*size)++c++xs.drop (i*size))->Chg (λk=>v.ownBlock=some k) w w'->(∀k,v'.ownBlock=some k->v.ownBlock=some k\/w.heap.size<=k)->K v' w'):
  ZA P size t it ov rep v (i64 (i:Nat)) (.slice (some ⟨tb,0,none⟩) 1 1) w K:=by
 have xd:=hT.pos;have xp:(n+1)*bytes<=140737488355328:=by
  have:=lQ (show n+1<=1000001 by omega) xv;omega
 have yh:SlAt w T2 (.slice (some ⟨tb,0,none⟩) 1 1) 1 c:=⟨_,_,rfl,aV _,λe=>(by cases e),λ_=>⟨tb,0,_,_,rfl,ht,λj _=>by rw[aX];simp⟩⟩;have hl:=hh.1;have xr:dA v=λK=>K (i64 (n:Nat)):=by
  funext K;exact propext (fL hh.sl K)
 unfold ZA;have chk:∀(B:Value->Prop),(∀x,B x)->kR size v (some (i64 (i:Nat))) none none B:=λB hB=>by
  obtain⟨p,cap,rfl,xg,_⟩:=hh.sl;rw[Ii,fM,fM,eR];exact⟨by omega,by omega,hB _⟩
 refine chk _ λ_=>?_;rw[xJ,bO,cH (by decide),cP,xr];dsimp only;rw[bO,aO];refine⟨λe1=>?_,λe1=>?_⟩
 ·obtain rfl:i=n:=by omega
  refine iF hT hh yh (by omega) h1 (by omega) xp hbase λv' w' hO xj xw=>?_;refine hK v' w' ?_ xj xw;have e1:xs.take (i*size)=xs:=dW (by omega);have e2:xs.drop (i*size)=[]:=eC.2 (by omega);rw[e1,e2,eG];exact hO
 have xq:i<n:=by omega
 have zd:i*size<n*size:=Nat.mul_lt_mul_of_pos_right xq xd;obtain⟨_,⟨_,h0⟩|⟨g,cap,cur,rfl,hg,yo,yk,yr,yq,htake⟩⟩:=hh
 ·omega
 have en1:IntKind.i64.wrap ((n:Int)+((1:Nat):Int))=((n+1:Nat):Int):=by rw[cN (by omega) (by omega)];omega
 have ei1:IntKind.i64.wrap ((i:Int)+((1:Nat):Int))=((i+1:Nat):Int):=by rw[cN (by omega) (by omega)];omega
 have xf:tb≠g:=λe=>yj (by rw[e];rfl);have ho:w.heap[g]?=some (.cells cur.toList.toArray e (0,0)):=by rw[Array.toArray_toList];exact yo
 have J:cur.toList.length=cap*size:=by rw[DZ];exact yq
 generalize cur.toList=L at*
 have hncap:n*size<=cap*size:=dM _ yk;have yx:i*size+size<=n*size:=by rw[<-FZ];exact dM _ xq
 have hrest:(xs.drop (i*size)).length=(n-i)*size:=by rw[aP,hl,Nat.sub_mul]
 have hs:∀j u,(xs.drop (i*size))[j]?=some u->L[i*size+j]?=some u:=λj u I=>by
  rw[List.getElem?_drop,<-htake,List.getElem?_take]at I;split at I
  ·exact I
  ·cases I
 have xe:∀u∈xs.drop (i*size),fC u=true:=λu hu=>ye u (CP hu);rw[cI,en1];have xg:∀K:Value->Prop,Qh (.slice (some ⟨g,0,none⟩) n cap) K↔K (i64 (cap:Nat)):=λK=>gO;rw[xg,mB,aO];refine⟨λhfull=>?_,λhroom=>?_⟩
 ·obtain rfl:cap=n:=by omega
  rw[QP (by omega) (by omega),cI,en1,kW,cN (by omega) (by omega)];have ek:((cap+1:Nat):Int)-(i:Int)=((cap+1-i:Nat):Int):=by omega
  rw[ek];obtain⟨inf,z,xt,hz,h2,h3,h4⟩:=hT.get;have xo:(Builtin.firstCells inf.size i (.slice (some ⟨g,0,none⟩) i cap)).run P w.drew=.ok (xs.take (i*size)).toArray w.drew:=by
   rw[h2];have hv:(xs.take (i*size)).length=i*size:=by rw[bS];omega
   have:=run_loadCells_list (P:=P) w.drew ⟨g,0,none⟩ (xs.take (i*size)) λj u I=>by
    rw[bW,cG,heap_drew,ho,cJ];rw[List.getElem?_take]at I;split at I
    ·rw[<-htake,List.getElem?_take]at I;split at I
     ·rw[aX];simpa using I
     ·cases I
    ·cases I
   rw[hv]at this;simpa[Builtin.firstCells]using this
  have hr:=Lib.run_append_grow_zeros (P:=P) w t it t e inf z .i64 .i64 hT.und ym xt hz (some ⟨g,0,none⟩) i cap (xs.take (i*size)) xo (cap+1-i) (by omega) (by omega) (by omega) (by omega) (by rw[h3];have:=lQ (show cap+1-i<=1000001 by omega) xv;omega) (growslice_fits (by omega) (by rw[h3,show i+(cap+1-i)=cap+1 by omega];exact xp));have ei:i+(cap+1-i)=cap+1:=by omega
  rw[ei]at hr;unfold dF;rw[hr];dsimp only;have xa:cap+1<=grownCap w (cap+1) cap e:=grownCap_ge w (cap+1) cap e;have yn:grownCap w (cap+1) cap e<=maxLen:=grownCap_le_maxLen _ _ _ _ (by simp[maxLen];omega);generalize hN:grownCap w (cap+1) cap e=N at*
  have xm:∀k,(Builtin.zeroCells z.cells k).toList.length=k*size:=λk=>by rw[DZ,size_zeroCells,h4]
  obtain⟨Z,hZ,xy⟩:∃Z:List Value,(xs.take (i*size)).toArray++Builtin.zeroCells z.cells (cap+1-i)++Builtin.zeroCells z.cells (N-(cap+1))=(xs.take (i*size)++Z).toArray/\Z.length=(N-i)*size:=by
   refine⟨(Builtin.zeroCells z.cells (cap+1-i)).toList++(Builtin.zeroCells z.cells (N-(cap+1))).toList,?_,?_⟩
   ·apply yG;simp
   ·rw[aU,xm,xm,<-fG];congr 1;omega
  rw[hZ];have xz:(N-i)*size=size+(cap-i)*size+(N-(cap+1))*size:=by
   rw[show N-i=1+(cap-i)+(N-(cap+1))by omega,fG,fG,Nat.one_mul]
  have xi:Ext w (w.drew.alloc (.cells (xs.take (i*size)++Z).toArray e)):=Chg.alloc (Chg.drew (Chg.refl _ _)) _;have ys:(w.drew.alloc (.cells (xs.take (i*size)++Z).toArray e)).heap[w.heap.size]?=some (.cells (xs.take (i*size)++Z).toArray e (0,0)):=gN _ _ _ rfl;have za:(w.drew.alloc (.cells (xs.take (i*size)++Z).toArray e)).heap.size=w.heap.size+1:=by simp
  generalize (w.drew.alloc (.cells (xs.take (i*size)++Z).toArray e))=w2 at*
  have o:(xs.take (i*size)).length=i*size:=by rw[bS];omega
  rw[AM (by omega) xa (by omega)];have yu:=fA ht;have yy:=fA ho;refine IU hT (vs:=c) ys (by rw[hc,show Nat.min 1 (cap+1-i)=1 by simp only[Nat.min_def];split<;>omega,Nat.one_mul]) (λj u I=>?_) (by rw[aU,o,xy,hc];omega) h1 λ_ w3 xl hx yc=>?_
  ·rw[bW,cG,xi.at ht id,cJ,aX];simpa using I
  rw[cI,ei1,AM (by omega) xa (by omega),AM (by omega) (aV _) (by omega)];have xx:w3.drew.heap[w.heap.size]?=some (.cells (xs.take (i*size)++c++Z.drop size).toArray e (0,0)):=by
   have ez:List.take (0+i*size) (List.take (i*size) xs++Z)++c++List.drop (0+i*size+c.length) (List.take (i*size) xs++Z)=xs.take (i*size)++c++Z.drop size:=by
    rw[aX,List.take_left' o,<-gY,List.drop_left' o,hc]
   rw[heap_drew,xl,ez]
  have yp:w3.drew.heap[g]?=some (.cells L.toArray e (0,0)):=by
   rw[heap_drew];exact hx.at (xi.at ho id) (by omega)
  have xb:(xs.take (i*size)++c++Z.drop size).length=N*size:=by
   rw[aU,aU,o,hc,aP,xy,xz,show N*size=(i+(N-i))*size by congr 1;omega,fG,xz];omega
  have U:(xs.take (i*size)++c).length=(i+1)*size:=by rw[aU,o,hc,fG,Nat.one_mul]
  have zh:(cap+1)*size<=N*size:=dM _ xa;have hq:(i+1)*size+(cap-i)*size=(cap+1)*size:=by rw[<-fG];congr 1;omega
  refine IU hT (vs:=xs.drop (i*size)) xx (by rw[hrest,show Nat.min (cap-i) (cap+1-(i+1))=cap-i by simp only[Nat.min_def];split<;>omega]) (λj u I=>?_) (by rw[xb,hrest,aX];omega) xe λ_ w4 xc xk yb=>?_
  ·rw[bW,cG,yp,cJ,aX];simpa using hs j u I
  have yd:Ext w w4:=(((xi.new hx (aV _)).then (Chg.drew (Chg.refl (λ_=>False) w3)) λ_ _ e=>e.elim)).new xk (aV _);refine hK _ w4 ⟨?_,.inr ⟨w.heap.size,N,_,rfl,hbase,xc,xa,yn,?_,?_⟩⟩ (Chg.of_ext yd) λk hk=>.inr ?_
  ·rw[aU,U,hrest,hq]
  ·rw[kM,hrest,aU,aU,hrest,bS,aP,xb,aX];omega
  ·rw[List.toList_toArray];rw[aX,List.take_left' U];refine List.take_left' ?_;rw[aU,U,hrest,hq]
  ·simp only[Value.ownBlock,bF]at hk;omega
 ·have hroom:n+1<=cap:=by omega
  rw[cI,en1,QP hroom (by omega),cI,ei1,AM (by omega) hroom (by omega)];have ya:L≠[]:=λe=>by rw[e]at J;simp at J;have:=Nat.mul_lt_mul_of_pos_right (show 0<cap by omega) xd;omega
  refine yi xf ht ho ya ?_;rw[eP,iS,dS,cI,ei1,AM (by omega) hroom (by omega),AM (by omega) hroom (by omega)];have hncap1:(n+1)*size<=cap*size:=dM _ hroom;have hq:(i+1)*size+(n-i)*size=(n+1)*size:=by rw[<-fG];congr 1;omega
  have U:(i+1)*size=i*size+size:=by rw[fG,Nat.one_mul]
  have xu:w.drew.heap[g]?=some (.cells L.toArray e (0,0)):=by rw[heap_drew];exact ho
  refine IU hT (vs:=xs.drop (i*size)) xu (by rw[hrest,show Nat.min (n+1-i) (n+1-(i+1))=n-i by simp only[Nat.min_def];split<;>omega]) (λj u I=>?_) (by rw[J,hrest,aX];omega) xe λ_ w3 xl hx yc=>?_
  ·rw[bW,cG,xu,cJ,aX];simpa using hs j u I
  rw[AM (by omega) hroom (by omega)];have yf:w.drew.heap[tb]?=some (.cells c.toArray T2 (0,0)):=by rw[heap_drew];exact ht
  have yg:=hx.at yf xf;have o:(L.take (i*size)).length=i*size:=by rw[bS,J];omega
  have hv:(L.take (0+(i+1)*size)).length=(i+1)*size:=by rw[bS,J,aX];omega
  have xb:(L.take (0+(i+1)*size)++xs.drop (i*size)++L.drop (0+(i+1)*size+(xs.drop (i*size)).length)).length=cap*size:=by
   rw[hrest,aU,aU,hv,hrest,aP,J,aX];omega
  refine IU hT (vs:=c) xl (by rw[hc,show Nat.min 1 (n+1-i)=1 by simp only[Nat.min_def];split<;>omega,Nat.one_mul]) (λj u I=>?_) (by rw[xb,hc];omega) h1 λ_ w4 xc xk yb=>?_
  ·rw[bW,cG,yg,cJ,aX];simpa using I
  have xj:Chg (λk=>(Value.slice (some ⟨g,0,none⟩) n cap).ownBlock=some k) w w4:=(((Chg.drew (Chg.refl (λk=>k=g) w)).trans hx).trans xk).mono λk _ e=>by rw[e];rfl
  have mP:(L.take (0+(i+1)*size)++xs.drop (i*size)++L.drop (0+(i+1)*size+(xs.drop (i*size)).length)).take (0+i*size)++c++(L.take (0+(i+1)*size)++xs.drop (i*size)++L.drop (0+(i+1)*size+(xs.drop (i*size)).length)).drop (0+i*size+c.length)=xs.take (i*size)++c++xs.drop (i*size)++L.drop ((i+1)*size+(xs.drop (i*size)).length):=by
   rw[aX,aX,hc,<-U,fP (L.take ((i+1)*size)),qX (by rw[bS,J];omega),Aw,kP (by omega)];have e1:L.take (i*size)=xs.take (i*size):=by rw[<-htake,Aw,kP (by omega)]
   have e2:(L.take ((i+1)*size)++(xs.drop (i*size)++L.drop ((i+1)*size+(xs.drop (i*size)).length))).drop ((i+1)*size)=xs.drop (i*size)++L.drop ((i+1)*size+(xs.drop (i*size)).length):=List.drop_left' (by rw[bS,J];omega);rw[e1,e2];simp
  rw[mP]at xc;have xh:(xs.take (i*size)).length=i*size:=by rw[bS];omega
  refine hK _ w4 ⟨?_,.inr ⟨g,cap,_,rfl,hg,xc,hroom,yr,?_,?_⟩⟩ xj λk hk=>.inl hk
  ·rw[aU,aU,xh,hc,hrest];omega
  ·rw[kM,hrest,aU,aU,aU,xh,hc,hrest,aP,J];omega
  ·rw[List.toList_toArray];refine List.take_left' ?_;rw[aU,aU,xh,hc,hrest];omega
end
end
end Go.Eng
namespace Go.Proofs.YtghhmpppnmoeoaaGreatDoor
section
open Go Go.Eng Go.Num
variable{w:World}{K:Q0}{cs:List Value}{G:Nat->Prop}{T:TypeId}{i:Nat}{n:Nat}{v:Value}{w':World}{P:Program}{c:UInt8}{S:Nat->Prop}
abbrev Wv:JV:=.mk 3 false [49] [] []
section
variable [HX]
theorem zO.rep{w0:World}{base:Nat}{v:JV}{sv kv:Value}(h:zO w0 w base v sv kv)(o:Ext w0 w):eX w v [i64 v.k,.bool v.b,str v.t,sv,kv]:=by
 obtain⟨sv',kv',T1,T2,L,j,h1,U,J,I⟩:=h.val;simp only[dX,lP,dV]at j;obtain⟨rfl,rfl⟩:=j;exact eX.mk h1 (U.ext o) J I
theorem ZN{v x:JV}{ds:List Value}{k:Str}{K:Q0}(h:eX w v cs)(hd:eX w x ds)(hl:v.k=6->v.ks.length=v.xs.length)(j:v.ks.length<=100000)(J:k.length<=9223372036854775807)
  (hK:∀es w',Ext w w'->eX w' (xD v k x) es->K (.agg es.toArray) w'):aC P0 12 [.agg cs.toArray,str k,.agg ds.toArray] w K:=by
 refine Ut h hd hl j J λsv kv base w' o hb U=>?_;have I:=U.rep o;have e:(xD v k x).k=6/\(xD v k x).b=false/\(xD v k x).t=[]:=by unfold xD;split<;>exact⟨rfl,rfl,rfl⟩
 rw[e.1,e.2.1,e.2.2]at I;exact hK _ w' o I
abbrev nb:Str:=[110,101,119,95,98]
abbrev aFK:JV:=.mk 6 false [] [Wv] [[97]]
abbrev aFJ:JV:=.mk 6 false [] [Wv,Wv] [[97],nb]
theorem putB:xD aFK nb Wv=aFJ:=by rfl
end
end
end Go.Proofs.YtghhmpppnmoeoaaGreatDoor
namespace Go.Eng
section
open Go
def iU(s:Str)(i:Nat):Int:=match s[i]? with|some b=>(b.toNat:Int)|none=>-1
def pA(s:Str)(i:Nat):Bool:=decide (128<=iU s i)&&decide (iU s i<192)
def iP(s:Str)(i:Nat):Nat:=
 let c:=iU s i
 if c<0 then 0 else if c<128 then 1
 else if 194<=c/\c<224/\pA s (i+1)=true then 2
 else if 224<=c/\c<240/\pA s (i+1)=true/\pA s (i+2)=true/\
  2048<=(c-224)*4096+(iU s (i+1)-128)*64+iU s (i+2)-128/\((c-224)*4096+(iU s (i+1)-128)*64+iU s (i+2)-128<55296\/57343<(c-224)*4096+(iU s (i+1)-128)*64+iU s (i+2)-128)then 3
 else if 240<=c/\c<245/\pA s (i+1)=true/\pA s (i+2)=true/\pA s (i+3)=true/\
  65536<=(c-240)*262144+(iU s (i+1)-128)*4096+(iU s (i+2)-128)*64+iU s (i+3)-128/\(c-240)*262144+(iU s (i+1)-128)*4096+(iU s (i+2)-128)*64+iU s (i+3)-128<=1114111 then 4
 else 0
def b8(n:Nat):UInt8:=UInt8.ofNat n
def wrM(n:Nat):Str:=
 if n<128 then [b8 n]else if n<2048 then [b8 (192+n/64),b8 (128+n%64)]
 else if n<65536 then [b8 (224+n/4096),b8 (128+n/64%64),b8 (128+n%64)]
 else [b8 (240+n/262144),b8 (128+n/4096%64),b8 (128+n/64%64),b8 (128+n%64)]
def aFL(n:Nat):UInt8:=if n<10 then b8 (48+n)else b8 (87+n)
def SO(c:UInt8):Str:=
 if c=34\/c=92 then [92,c]else if c=8 then [92,98]else if c=12 then [92,102]else if c=10 then [92,110]else if c=13 then [92,114]else if c=9 then [92,116]
 else if c<32 then [92,117,48,48,b8 (48+c.toNat/16),aFL (c.toNat%16)]else [c]
def Is(s:Str):Str:=[34]++s.flatMap SO++[34]
def Sg:List Str->Str
 |[]=>[]
 |[x]=>x
 |x::y::r=>x++[44]++Sg (y::r)
mutual
def ZK:JV->Str
 |.mk k b t xs ks=>
  if k=0 then [110,117,108,108]else if k=2 then(if b then [116,114,117,101]else [102,97,108,115,101])else if k=3 then t else if k=4 then Is t
  else if k=6 then [123]++Sg (List.zipWith (λa b=>Is a++[58]++b) ks (QU xs))++[125]else [91]++Sg (QU xs)++[93]
def QU:List JV->List Str
 |[]=>[]
 |x::xs=>ZK x::QU xs
end
def WU(c:Int):Bool:=decide (c=32)||decide (c=9)||decide (c=10)||decide (c=13)
def isDig(c:Int):Bool:=decide (48<=c)&&decide (c<=57)
def Ky(c:Int):Int:=if 48<=c/\c<=57 then c-48 else if 97<=c/\c<=102 then c-87 else if 65<=c/\c<=70 then c-55 else-1
def aBR(s:Str)(i:Nat):Int:=
 if i+6<=s.length/\iU s i=92/\iU s (i+1)=117/\0<=Ky (iU s (i+2))/\0<=Ky (iU s (i+3))/\0<=Ky (iU s (i+4))/\0<=Ky (iU s (i+5))then
  ((Ky (iU s (i+2))*16+Ky (iU s (i+3)))*16+Ky (iU s (i+4)))*16+Ky (iU s (i+5))else-1
def aFM(s:Str)(i:Nat):Option (Str×Nat):=
 let c:=iU s (i+1)
 if c=34 then some ([34],2)else if c=92 then some ([92],2)else if c=47 then some ([47],2)else if c=98 then some ([8],2)else if c=102 then some ([12],2)
 else if c=110 then some ([10],2)else if c=114 then some ([13],2)else if c=116 then some ([9],2)
 else
  let a:=aBR s i
  let b:=aBR s (i+6)
  if a<0\/56320<=a/\a<=57343 then none
  else if 55296<=a/\a<=56319 then(if b<56320\/57343<b then none else some (wrM (65536+(a-55296)*1024+b-56320).toNat,12))
  else some (wrM a.toNat,6)
end
section
open Go
variable{w:World}{K:Q0}{cs:List Value}{G:Nat->Prop}{T:TypeId}{i:Nat}{n:Nat}{v:Value}{w':World}{P:Program}{c:UInt8}{S:Nat->Prop}
mutual
def lO:JV->Nat
 |.mk _ _ _ xs _=>1+kV xs
def kV:List JV->Nat
 |[]=>0
 |x::xs=>lO x+kV xs
end
theorem Oh(v:JV):1<=lO v:=by cases v;simp only[lO];omega
theorem byte_at{s r:Str}(h:s.drop i=c::r):iU s i=c.toNat:=by
 unfold iU;have:s[i]?=some c:=by
  have:=List.getElem?_drop (xs:=s) (i:=i) (j:=0);rw[h]at this;simpa using this.symm
 rw[this]
theorem SS{s l r:Str}(h:s.drop i=l++r):s.drop (i+l.length)=r:=by
 rw[<-gY,h,List.drop_left]
theorem xP{s r:Str}(h:s.drop i=c::r):i<s.length:=by
 apply Nat.lt_of_not_le;intro j;rw[eC.2 j]at h;cases h
def bt(s:Str)(i:Nat):Nat:=(s.getD i 0).toNat
theorem BS(s:Str)(i:Nat):bt s i<256:=uD _
theorem oI{s:Str}(h:i<s.length):iU s i=(bt s i:Int):=by
 unfold iU bt;rw[List.getElem?_eq_getElem h,List.getD_eq_getElem?_getD,List.getElem?_eq_getElem h];rfl
theorem HM{s:Str}(h:s.length<=i):iU s i=-1:=by
 unfold iU;rw[List.getElem?_eq_none h]
theorem get_bt(s:Str)(i:Nat):((ofL s).get! i).toNat=bt s i:=by
 unfold bt;congr 1;show(s.toArray)[i]! =s.getD i 0;rw[List.getElem!_toArray,List.getElem!_eq_getElem?_getD,List.getD_eq_getElem?_getD];rfl
theorem Oc(s:Str)(i:Nat):Utf8.decode (ofL s) i=Lib.decodeN (s.length-i) (bt s i) (bt s (i+1)) (bt s (i+2)) (bt s (i+3)):=by
 rw[Lib.decode_at,get_bt,get_bt,get_bt,get_bt,fT]
abbrev mor(L k b:Nat):Prop:=k<L/\128<=b/\b<192
abbrev c3(b0 b1 b2:Nat):Nat:=(b0-224)*4096+(b1-128)*64+(b2-128)
abbrev c4(b0 b1 b2 b3:Nat):Nat:=(b0-240)*262144+(b1-128)*4096+(b2-128)*64+(b3-128)
def Xs(L b0 b1 b2 b3:Nat):Nat×Nat:=
 if b0<128 then(b0,1)
 else if 194<=b0/\b0<224/\mor L 1 b1 then((b0-192)*64+(b1-128),2)
 else if 224<=b0/\b0<240/\mor L 1 b1/\mor L 2 b2/\2048<=c3 b0 b1 b2/\(c3 b0 b1 b2<55296\/57343<c3 b0 b1 b2)then(c3 b0 b1 b2,3)
 else if 240<=b0/\b0<245/\mor L 1 b1/\mor L 2 b2/\mor L 3 b3/\65536<=c4 b0 b1 b2 b3/\c4 b0 b1 b2 b3<=1114111 then(c4 b0 b1 b2 b3,4)
 else(65533,1)
theorem Lg{L b0 b1 b2 b3:Nat}(h0:b0<256)(h1:b1<256)(o:b2<256)(j:b3<256):Lib.decodeN L b0 b1 b2 b3=Xs L b0 b1 b2 b3:=by
 have m1:(1<L/\b1/64=2)↔mor L 1 b1:=by unfold mor;omega
 have m2:(2<L/\b2/64=2)↔mor L 2 b2:=by unfold mor;omega
 have m3:(3<L/\b3/64=2)↔mor L 3 b3:=by unfold mor;omega
 unfold Lib.decodeN Xs;simp only[m1,m2,m3];by_cases a0:b0<128
 ·rw[aJ a0,aJ a0]
 rw[aE a0,aE a0];by_cases a1:b0<194
 ·rw[aE (show¬(194<=b0/\b0<224/\mor L 1 b1)fromλh=>by omega),aE (show¬(224<=b0/\b0<240/\_)fromλh=>by omega),aE (show¬(240<=b0/\b0<245/\_)fromλh=>by omega)];rw[aE (show¬(b0/16=14/\_)fromλh=>by omega),aE (show¬(b0/8=30/\_)fromλh=>by omega)];by_cases a2:b0/32=6/\mor L 1 b1
  ·rw[aJ a2,aE (by omega)]
  ·rw[aE a2]
 by_cases a2:b0<224
 ·rw[aE (show¬(224<=b0/\b0<240/\_)fromλh=>by omega),aE (show¬(240<=b0/\b0<245/\_)fromλh=>by omega)];rw[aE (show¬(b0/16=14/\_)fromλh=>by omega),aE (show¬(b0/8=30/\_)fromλh=>by omega)];by_cases q:mor L 1 b1
  ·have q':=q;unfold mor at q';rw[aJ ⟨by omega,q⟩,aJ (by omega),aJ ⟨by omega,a2,q⟩];apply fZ
   ·show b0%32*64+b1%64=(b0-192)*64+(b1-128);omega
   ·rfl
  ·rw[aE (λh=>q h.2),aE (λh=>q h.2.2)]
 by_cases a3:b0<240
 ·rw[aE (show¬(194<=b0/\b0<224/\mor L 1 b1)fromλh=>by omega),aE (show¬(240<=b0/\b0<245/\_)fromλh=>by omega)];rw[aE (show¬(b0/32=6/\_)fromλh=>by omega),aE (show¬(b0/8=30/\_)fromλh=>by omega)];by_cases q:mor L 1 b1/\mor L 2 b2
  ·have q':=q;unfold mor at q';have e:b0%16*4096+b1%64*64+b2%64=c3 b0 b1 b2:=by unfold c3;omega
   have e2:c3 b0 b1 b2<=65535:=by unfold c3;omega
   rw[aJ ⟨by omega,q.1,q.2⟩];simp only[e];by_cases r:2048<=c3 b0 b1 b2/\(c3 b0 b1 b2<55296\/57343<c3 b0 b1 b2)
   ·rw[aJ ⟨r.1,by omega⟩,aJ ⟨by omega,a3,q.1,q.2,r.1,r.2⟩]
   ·rw[aE (by omega),aE (λh=>r ⟨h.2.2.2.2.1,h.2.2.2.2.2⟩)]
  ·rw[aE (λh=>q ⟨h.2.1,h.2.2⟩),aE (λh=>q ⟨h.2.2.1,h.2.2.2.1⟩)]
 ·rw[aE (show¬(194<=b0/\b0<224/\mor L 1 b1)fromλh=>by omega),aE (show¬(224<=b0/\b0<240/\_)fromλh=>by omega)];rw[aE (show¬(b0/32=6/\_)fromλh=>by omega),aE (show¬(b0/16=14/\_)fromλh=>by omega)];by_cases q:mor L 1 b1/\mor L 2 b2/\mor L 3 b3
  ·have q':=q;unfold mor at q';by_cases a4:b0<248
   ·have e:b0%8*262144+b1%64*4096+b2%64*64+b3%64=c4 b0 b1 b2 b3:=by unfold c4;omega
    rw[aJ ⟨by omega,q.1,q.2.1,q.2.2⟩];simp only[e];by_cases r:65536<=c4 b0 b1 b2 b3/\c4 b0 b1 b2 b3<=1114111
    ·rw[aJ ⟨r.1,by omega⟩,aJ ⟨by omega,by have:=r.2;unfold c4 at this;omega,q.1,q.2.1,q.2.2,r.1,r.2⟩]
    ·rw[aE (by omega),aE (λh=>r ⟨h.2.2.2.2.2.1,h.2.2.2.2.2.2⟩)]
   ·rw[aE (show¬(b0/8=30/\_)fromλh=>by omega),aE (show¬(240<=b0/\b0<245/\_)fromλh=>by omega)]
  ·rw[aE (λh=>q ⟨h.2.1,h.2.2.1,h.2.2.2⟩),aE (λh=>q ⟨h.2.2.1,h.2.2.2.1,h.2.2.2.2.1⟩)]
theorem Pr{s:Str}{k:Nat}:pA s (i+k)=true↔mor (s.length-i) k (bt s (i+k)):=by
 unfold pA mor;rw[aL,decide_eq_true_iff,decide_eq_true_iff];rcases dR (i+k) s.length with h|h
 ·rw[oI h];omega
 ·rw[HM h];omega
def Uo(L b0 b1 b2 b3:Nat):Nat:=
 if b0<128 then 1
 else if 194<=b0/\b0<224/\mor L 1 b1 then 2
 else if 224<=b0/\b0<240/\mor L 1 b1/\mor L 2 b2/\2048<=c3 b0 b1 b2/\(c3 b0 b1 b2<55296\/57343<c3 b0 b1 b2)then 3
 else if 240<=b0/\b0<245/\mor L 1 b1/\mor L 2 b2/\mor L 3 b3/\65536<=c4 b0 b1 b2 b3/\c4 b0 b1 b2 b3<=1114111 then 4
 else 0
set_option maxHeartbeats 4000000 in
theorem En{s:Str}(h:i<s.length):iP s i=Uo (s.length-i) (bt s i) (bt s (i+1)) (bt s (i+2)) (bt s (i+3)):=by
 unfold iP Uo;simp only[Pr,oI h];by_cases h1:i+1<s.length
 ·by_cases j:i+2<s.length
  ·by_cases o:i+3<s.length
   ·simp only[oI h1,oI j,oI o,mor,c3,c4]
    repeat' split
    all_goals first|rfl|(exfalso;omega)
   ·simp only[oI h1,oI j,mor,c3,c4]
    repeat' split
    all_goals first|rfl|(exfalso;omega)
  ·simp only[oI h1,mor,c3,c4]
   repeat' split
   all_goals first|rfl|(exfalso;omega)
 ·simp only[mor,c3,c4]
  repeat' split
  all_goals first|rfl|(exfalso;omega)
theorem aAe(s:Str)(i:Nat)(h:i<s.length):UInt8.ofNat (bt s i)=s[i]:=by
 unfold bt;rw[List.getD_eq_getElem?_getD,List.getElem?_eq_getElem h];simp
theorem Bl{s:Str}(h:i<s.length):(s.drop i).take 1=[UInt8.ofNat (bt s i)]:=by
 rw[aAe s i h,cL h];rfl
theorem sR{s:Str}(h:i<s.length):(s.drop i).take (n+1)=UInt8.ofNat (bt s i)::(s.drop (i+1)).take n:=by
 rw[aAe s i h,cL h];rfl
set_option maxHeartbeats 4000000 in
theorem JG{s:Str}(h:i<s.length)(h0:iP s i=0):Utf8.decode (ofL s) i=(65533,1):=by
 rw[Oc,Lg (BS _ _) (BS _ _) (BS _ _) (BS _ _)];rw[En h]at h0;unfold Uo at h0;unfold Xs
 repeat' split at h0
 all_goals first|(exfalso;omega)|skip
 all_goals(repeat rw[aE (by assumption)])
structure TD(s:Str)(i n c:Nat):Prop where
 dec:Utf8.decode (ofL s) i=(c,n)
 fits:i+n<=s.length
 small:n<=4
 bytes:Lib.encodeRune c=(s.drop i).take n
 low:n=1->c=bt s i/\c<128
 high:2<=n->128<=c/\128<=bt s i
 top:c<=1114111
 val:c<55296\/57343<c
theorem Am(l:List Int):(l.map λx=>x.toNat.toUInt8)=l.map λx=>UInt8.ofNat x.toNat:=rfl
set_option maxHeartbeats 8000000 in
theorem wA{s:Str}(h:i<s.length)(h0:iP s i≠0):∃c,TD s i (iP s i) c:=by
 have e:=Oc s i;rw[Lg (BS _ _) (BS _ _) (BS _ _) (BS _ _)]at e;have j:=En h;have l0:=BS s i;generalize hn:iP s i=n at*
 unfold Uo at j;unfold Xs at e;by_cases a1:bt s i<128
 ·rw[aJ a1]at j e;subst j;refine⟨_,e,by omega,by omega,?_,λ_=>⟨rfl,a1⟩,λh=>by omega,by omega,by omega⟩;rw[Bl h,Lib.encodeRune,Lib.encodeRuneZ_one (by omega) (by omega)];simp
 rw[aE a1]at j e;by_cases a2:194<=bt s i/\bt s i<224/\mor (s.length-i) 1 (bt s (i+1))
 ·rw[aJ a2]at j e;subst j;obtain⟨a2,a3,a4,a5,a6⟩:=a2;refine⟨_,e,by omega,by omega,?_,λh=>by omega,λh=>by omega,by omega,by omega⟩;rw[sR h,Bl (by omega),Lib.encodeRune,Lib.encodeRuneZ_two (by omega) (by omega)];simp only[dC,oS,Am];rw[show((192:Int)+(((bt s i-192)*64+(bt s (i+1)-128):Nat):Int)/64).toNat=bt s i by omega,show((128:Int)+(((bt s i-192)*64+(bt s (i+1)-128):Nat):Int)%64).toNat=bt s (i+1)by omega]
 rw[aE a2]at j e;by_cases a3:224<=bt s i/\bt s i<240/\mor (s.length-i) 1 (bt s (i+1))/\mor (s.length-i) 2 (bt s (i+2))/\2048<=c3 (bt s i) (bt s (i+1)) (bt s (i+2))/\(c3 (bt s i) (bt s (i+1)) (bt s (i+2))<55296\/57343<c3 (bt s i) (bt s (i+1)) (bt s (i+2)))
 ·rw[aJ a3]at j e;subst j;obtain⟨p1,p2,⟨p3,p4,p5⟩,⟨p6,p7,p8⟩,p9,p10⟩:=a3;have q3:c3 (bt s i) (bt s (i+1)) (bt s (i+2))=(bt s i-224)*4096+(bt s (i+1)-128)*64+(bt s (i+2)-128):=rfl;refine⟨_,e,by omega,by omega,?_,λh=>by omega,λh=>by omega,by omega,by omega⟩;rw[sR h,sR (by omega),Bl (by omega),Lib.encodeRune,Lib.encodeRuneZ_three (by omega)];simp only[dC,oS,Am];rw[show((224:Int)+((c3 (bt s i) (bt s (i+1)) (bt s (i+2)):Nat):Int)/4096).toNat=bt s i by unfold c3;omega,show((128:Int)+((c3 (bt s i) (bt s (i+1)) (bt s (i+2)):Nat):Int)/64%64).toNat=bt s (i+1)by unfold c3;omega,show((128:Int)+((c3 (bt s i) (bt s (i+1)) (bt s (i+2)):Nat):Int)%64).toNat=bt s (i+2)by unfold c3;omega]
 rw[aE a3]at j e;by_cases a4:240<=bt s i/\bt s i<245/\mor (s.length-i) 1 (bt s (i+1))/\mor (s.length-i) 2 (bt s (i+2))/\mor (s.length-i) 3 (bt s (i+3))/\65536<=c4 (bt s i) (bt s (i+1)) (bt s (i+2)) (bt s (i+3))/\c4 (bt s i) (bt s (i+1)) (bt s (i+2)) (bt s (i+3))<=1114111
 ·rw[aJ a4]at j e;subst j;obtain⟨p1,p2,⟨p3,p4,p5⟩,⟨p6,p7,p8⟩,⟨p9,p10,p11⟩,p12,p13⟩:=a4;refine⟨_,e,by omega,by omega,?_,λh=>by omega,λh=>by omega,by omega,by omega⟩;rw[sR h,sR (by omega),sR (by omega),Bl (by omega),Lib.encodeRune,Lib.encodeRuneZ_four (by omega) (by omega)];simp only[dC,oS,Am];rw[show((240:Int)+((c4 (bt s i) (bt s (i+1)) (bt s (i+2)) (bt s (i+3)):Nat):Int)/262144).toNat=bt s i by unfold c4;omega,show((128:Int)+((c4 (bt s i) (bt s (i+1)) (bt s (i+2)) (bt s (i+3)):Nat):Int)/4096%64).toNat=bt s (i+1)by unfold c4;omega,show((128:Int)+((c4 (bt s i) (bt s (i+1)) (bt s (i+2)) (bt s (i+3)):Nat):Int)/64%64).toNat=bt s (i+2)by unfold c4;omega,show((128:Int)+((c4 (bt s i) (bt s (i+1)) (bt s (i+2)) (bt s (i+3)):Nat):Int)%64).toNat=bt s (i+3)by unfold c4;omega]
 rw[aE a4]at j;exact absurd j h0
def lF(s:Str)(i:Nat):Nat:=max (iP s i) 1
theorem Lc{s:Str}(h:i<s.length):(Utf8.decode (ofL s) i).2=lF s i:=by
 unfold lF;by_cases h0:iP s i=0
 ·rw[JG h h0,h0];rfl
 ·obtain⟨c,j⟩:=wA h h0;rw[j.dec];show iP s i=max (iP s i) 1;omega
theorem Cc{s:Str}(h:i<s.length):i+lF s i<=s.length:=by
 unfold lF;by_cases h0:iP s i=0
 ·rw[h0];show i+1<=_;omega
 ·obtain⟨c,j⟩:=wA h h0;have:=j.fits;omega
theorem Bm(s:Str)(i:Nat):1<=lF s i:=by unfold lF;omega
theorem rune_end{s:Str}(h:s.length<=i):iP s i=0:=by
 unfold iP;simp only[HM h];rfl
theorem aAi(h:n<55296\/57343<n/\n<=1114111):Lib.encodeRune n=wrM n:=by
 unfold Lib.encodeRune wrM b8;by_cases h1:n<128
 ·rw[Lib.encodeRuneZ_one (by omega) (by omega),aJ h1];simp
 rw[aE h1];by_cases o:n<2048
 ·rw[Lib.encodeRuneZ_two (by omega) (by omega),aJ o];simp only[dC,oS,Am];rw[show((192:Int)+(n:Int)/64).toNat=192+n/64 by omega,show((128:Int)+(n:Int)%64).toNat=128+n%64 by omega]
 rw[aE o];by_cases j:n<65536
 ·rw[Lib.encodeRuneZ_three (by omega),aJ j];simp only[dC,oS,Am];rw[show((224:Int)+(n:Int)/4096).toNat=224+n/4096 by omega,show((128:Int)+(n:Int)/64%64).toNat=128+n/64%64 by omega,show((128:Int)+(n:Int)%64).toNat=128+n%64 by omega]
 ·rw[Lib.encodeRuneZ_four (by omega) (by omega),aE j];simp only[dC,oS,Am];rw[show((240:Int)+(n:Int)/262144).toNat=240+n/262144 by omega,show((128:Int)+(n:Int)/4096%64).toNat=128+n/4096%64 by omega,show((128:Int)+(n:Int)/64%64).toNat=128+n/64%64 by omega,show((128:Int)+(n:Int)%64).toNat=128+n%64 by omega]
theorem sY{s u r:Str}{j:Nat}(h:s.drop i=u++r)(o:j<u.length):iU s (i+j)=u[j].toNat:=by
 have:s.drop (i+j)=u[j]::(u.drop (j+1)++r):=by
  rw[<-gY,h,CQ (by omega),cL o];rfl
 exact byte_at this
theorem GK{s t:Str}{k m:Nat}(hm:0<m)(h:iP s i=m)(hb:∀j,j<m->iU t (k+j)=iU s (i+j)):iP t k=m:=by
 have e0:iU t k=iU s i:=hb 0 hm;unfold iP at h⊢;dsimp only at h;simp only[e0];by_cases h1:m=1
 ·subst h1;split at h
  ·omega
  rename_i a;split at h
  ·rename_i b;rw[aE a,aJ b]
  split at h
  ·omega
  split at h
  ·omega
  split at h<;>omega
 by_cases J:m=2
 ·subst J;have e1:=hb 1 (by omega);have m1:pA t (k+1)=pA s (i+1):=by unfold pA;rw[e1]
  simp only[m1];split at h
  ·omega
  rename_i a;split at h
  ·omega
  rename_i b;split at h
  ·rename_i c;rw[aE a,aE b,aJ c]
  split at h
  ·omega
  split at h<;>omega
 by_cases I:m=3
 ·subst I;have e1:=hb 1 (by omega);have e2:=hb 2 (by omega);have m1:pA t (k+1)=pA s (i+1):=by unfold pA;rw[e1]
  have m2:pA t (k+2)=pA s (i+2):=by unfold pA;rw[e2]
  simp only[m1,m2,e1,e2];split at h
  ·omega
  rename_i a;split at h
  ·omega
  rename_i b;split at h
  ·omega
  rename_i c;split at h
  ·rename_i d;rw[aE a,aE b,aE c,aJ d]
  split at h<;>omega
 by_cases o:m=4
 ·subst o;have e1:=hb 1 (by omega);have e2:=hb 2 (by omega);have e3:=hb 3 (by omega);simp only[pA,e1,e2,e3]at h⊢;exact h
 ·exfalso;split at h
  ·omega
  split at h
  ·omega
  split at h
  ·omega
  split at h
  ·omega
  split at h<;>omega
theorem Un{s:Str}(h:iP s i≠0):i<s.length:=by
 apply Nat.lt_of_not_le;intro j;exact h (rune_end j)
theorem OW{s:Str}(h:iP s i≠0):i+iP s i<=s.length:=by
 obtain⟨c,j⟩:=wA (Un h) h;exact j.fits
def Rn(u:Str):Prop:=u≠[]/\iP u 0=u.length
theorem Rn.pos{u:Str}(h:Rn u):0<u.length:=dQ.2 h.1
theorem Rn.at{u s r:Str}(h:Rn u)(I:s.drop i=u++r):iP s i=u.length:=by
 refine GK (s:=u) (i:=0) h.pos h.2 λj o=>?_;rw[sY I o,sY (s:=u) (i:=0) (u:=u) (r:=[]) (by simp) o]
theorem Rn.of{s:Str}(h:iP s i≠0):Rn ((s.drop i).take (iP s i)):=by
 have hf:=OW h;have hl:((s.drop i).take (iP s i)).length=iP s i:=by rw[bS,aP];omega
 refine⟨λe=>by rw[e]at hl;simp at hl;omega,?_⟩;rw[hl];refine GK (s:=s) (i:=i) (by omega) rfl λj o=>?_;rw[sY (s:=s) (i:=i) (u:=(s.drop i).take (iP s i)) (r:=(s.drop i).drop (iP s i)) (iH _ _).symm (by omega),sY (s:=(s.drop i).take (iP s i)) (i:=0) (u:=(s.drop i).take (iP s i)) (r:=[]) (by simp) (by omega)]
inductive Utf:Str->Prop where
 |nil:Utf []
 |cons {u r:Str}:Rn u->Utf r->Utf (u++r)
theorem Rn.cases{u:Str}(h:Rn u):(∃c:UInt8,u=[c]/\c.toNat<128)\/(∀c∈u,128<=c.toNat):=by
 have I:=h.2;have hp:=h.pos;have hb:∀j,(o:j<u.length)->iU u j=u[j].toNat:=λj o=>by
  have:=sY (s:=u) (i:=0) (u:=u) (r:=[]) (by simp) o;rwa[aX]at this
 have hm:∀j,(o:j<u.length)->pA u j=true->128<=u[j].toNat:=λj o hm=>by
  unfold pA at hm;rw[hb j o,aL,decide_eq_true_iff,decide_eq_true_iff]at hm;omega
 unfold iP at I;rw[hb 0 hp]at I;simp only[aX]at I;have J:(∀j,(o:j<u.length)->128<=u[j].toNat)->∀c∈u,128<=c.toNat:=λo c hc=>by
  obtain⟨j,h1,rfl⟩:=List.getElem_of_mem hc;exact o j h1
 split at I
 ·omega
 split at I
 ·rename_i U;left;obtain⟨c,rfl⟩:=List.length_eq_one_iff.1 I.symm;refine⟨c,rfl,?_⟩;have e:([c]:Str)[0].toNat=c.toNat:=rfl;omega
 right;refine J λj o=>?_;split at I
 ·rename_i c;obtain⟨c1,_,c2⟩:=c;obtain rfl|rfl:j=0\/j=1:=by omega
  ·omega
  ·exact hm 1 o c2
 split at I
 ·rename_i c;obtain⟨c1,_,c2,c3,_⟩:=c;obtain rfl|rfl|rfl:j=0\/j=1\/j=2:=by omega
  ·omega
  ·exact hm 1 o c2
  ·exact hm 2 o c3
 split at I
 ·rename_i c;obtain⟨c1,_,c2,c3,c4,_⟩:=c;obtain rfl|rfl|rfl|rfl:j=0\/j=1\/j=2\/j=3:=by omega
  ·omega
  ·exact hm 1 o c2
  ·exact hm 2 o c3
  ·exact hm 3 o c4
 ·omega
def escOk(c:UInt8):Bool:=
 match SO c with
 |[d]=>decide (d=c)&&decide (c≠34)&&decide (c≠92)&&decide (32<=c.toNat)
 |[a,b]=>decide (a=92)&&decide (aFM [a,b] 0=some ([c],2))
 |[a,b,d,e,f,g]=>decide (a=92)&&decide (b=117)&&decide (aBR [a,b,d,e,f,g] 0=c.toNat)
 |_=>false
theorem Xm(c:UInt8):(SO c).length<=6:=by unfold SO;repeat' split
                                         all_goals simp
end
section
open Go Go.Num
def BL(l:Str):Prop:=∀c∈l,WU (c.toNat:Int)=true
mutual
def Sp:JV->Str->Prop
 |.mk k b t xs ks,s=>
  if k=5 then(xs=[]/\∃a,BL a/\s=[91]++a++[93])\/(∃u,SpL xs u/\s=[91]++u++[93])
  else if k=6 then(xs=[]/\ks=[]/\∃a,BL a/\s=[123]++a++[125])\/(∃u,SpO xs ks u/\s=[123]++u++[125])
  else s=ZK (.mk k b t xs ks)
def SpL:List JV->Str->Prop
 |[],_=>False
 |x::xs,s=>(xs=[]/\∃a t b,BL a/\Sp x t/\BL b/\s=a++t++b)\/(∃a t b u,BL a/\Sp x t/\BL b/\SpL xs u/\s=a++t++b++[44]++u)
def SpO:List JV->List Str->Str->Prop
 |x::xs,k::ks,s=>(xs=[]/\ks=[]/\∃a b c t d,BL a/\BL b/\BL c/\Sp x t/\BL d/\s=a++Is k++b++[58]++c++t++d)\/
   (∃a b c t d u,BL a/\BL b/\BL c/\Sp x t/\BL d/\SpO xs ks u/\s=a++Is k++b++[58]++c++t++d++[44]++u)
 |_,_,_=>False
end
end
section
open Go Go.Num
variable{w:World}{K:Q0}{cs:List Value}{G:Nat->Prop}{T:TypeId}{i:Nat}{n:Nat}{v:Value}{w':World}{P:Program}{c:UInt8}{S:Nat->Prop}
theorem NL{l:List (Str×JV)}{k:Str}{t:JV}:∀p,p∈insP l k t↔p=(k,t)\/p∈l:=by
 induction l with
 |nil=>intro p;simp[insP]
 |cons q r ih=>
  obtain⟨a,y⟩:=q;intro p;simp only[insP];split
  ·rw[bM]
  ·rw[bM,ih p,bM];constructor
   ·rintro(h|h|h)
    ·exact .inr (.inl h)
    ·exact .inl h
    ·exact .inr (.inr h)
   ·rintro(h|h|h)
    ·exact .inr (.inl h)
    ·exact .inl h
    ·exact .inr (.inr h)
theorem WW(l:List (Str×JV))(k:Str)(x:JV):(insP l k x).length=l.length+1:=by
 induction l with
 |nil=>rfl
 |cons q r ih=>
  obtain⟨a,y⟩:=q;simp only[insP];split
  ·rfl
  ·simp only[aB,ih]
theorem Re{l:List (Str×JV)}{k:Str}{x:JV}(h:LF (l.map (·.1)))(U:k∉l.map (·.1)):LF ((insP l k x).map (·.1)):=by
 induction l with
 |nil=>exact List.pairwise_singleton _ _
 |cons q r ih=>
  obtain⟨a,y⟩:=q;simp only[dC]at h U;have hp:=List.pairwise_cons.1 h;simp only[insP];split
  ·rename_i j;simp only[dC];refine List.Pairwise.cons (λc I=>?_) h;rcases bM.1 I with rfl|I
   ·exact j
   ·exact qR j (hp.1 c I)
  ·rename_i j;have J:k≠a:=λe=>U (by rw[e];exact bA);have hg:Op.bytesLess a k=true:=by
    rcases EV k a with h|h|h
    ·exact absurd h j
    ·exact absurd h J
    ·exact h
   simp only[dC];refine List.Pairwise.cons (λc I=>?_) (ih hp.2 λh=>U (aR _ h));obtain⟨p,o,rfl⟩:=dL.1 I;rcases(NL p).1 o with rfl|o
   ·exact hg
   ·exact hp.1 _ (dL.2 ⟨p,o,rfl⟩)
theorem Qq(l:List (Str×JV)):(l.map (·.1)).zip (l.map (·.2))=l:=by
 induction l with
 |nil=>rfl
 |cons q r ih=>simp only[dC,List.zip_cons_cons,ih]
theorem SC{l:List (Str×JV)}{k:Str}(h:(zC (mkO l) k).isSome=false):k∉l.map (·.1):=by
 intro hm;unfold zC mkO at h;simp only[JV.k,JV.ks,JV.xs,gF]at h;cases j:wL (l.map (·.1)) k with
 |none=>exact Ai.1 j hm
 |some i=>
  rw[j]at h;have:=(List.getElem?_eq_some_iff.1 (wK j)).1;rw[cD]at this;simp[this]at h
theorem Uu{l:List (Str×JV)}{k:Str}{x:JV}(h:k∉l.map (·.1)):xD (mkO l) k x=mkO (insP l k x):=by
 unfold xD;have e1:(mkO l).k=6:=rfl;have e2:(mkO l).ks=l.map (·.1):=rfl;have e3:(mkO l).xs=l.map (·.2):=rfl;rw[aJ e1,e2,e3,Qq];congr 2;unfold oH;rw[List.filter_eq_self];intro p hp;rw[dZ,decide_eq_false_iff_not];intro e;exact h (dL.2 ⟨p,hp,e⟩)
end
end Go.Eng
namespace Go.Proofs.YtghhmpppnmoeoaaGreatDoor
section
open Go Go.Eng
variable{w:World}{K:Q0}{cs:List Value}{G:Nat->Prop}{T:TypeId}{i:Nat}{n:Nat}{v:Value}{w':World}{P:Program}{c:UInt8}{S:Nat->Prop}
section
variable [HX]
theorem Bp{a:Nat}{x:List Value}(h:w.heap[a]?=some (.cells x.toArray T (0,0))):w.shape? a=some (T,x.length):=by simp[World.shape?,h]
theorem aFH{a b oa ob la ca lb cb:Nat}{x y:List Value}{T1 T2:TypeId}{K:Q0}(j:a≠b)(o:w.heap[a]?=some (.cells x.toArray T1 (0,0)))(hb:w.heap[b]?=some (.cells y.toArray T2 (0,0)))(I:y≠[])(J:K (.bool false) w):
  aC P0 208 [.slice (some ⟨a,oa,none⟩) la ca,.slice (some ⟨b,ob,none⟩) lb cb] w K:=by
 unfold aC;rw[run_callFunc_extern Tryz.func208 (by kernel_rfl) (by kernel_rfl) (by kernel_rfl) (e:=Extern.SlicesOverlaps.overlaps #[24,24] #[4]) (by kernel_rfl),
  Lib.run_overlaps_apart w 24 4 ST (by kernel_rfl) 1 (λw=>by kernel_rfl) ⟨a,oa,none⟩ ⟨b,ob,none⟩ la ca lb cb j T1 T2 x.length y.length (Bp o) (Bp hb) (λe=>I (bC e)) (by rw[mM,o,pX]) (by rw[mM,o,pX])]
 exact J
theorem aFG{a b oa ob la ca lb cb:Nat}{x y:List Value}{T1 T2:TypeId}{K:Q0}(j:a≠b)(o:w.heap[a]?=some (.cells x.toArray T1 (0,0)))(hb:w.heap[b]?=some (.cells y.toArray T2 (0,0)))(I:y≠[])(J:K (.bool false) w):
  aC P0 210 [.slice (some ⟨a,oa,none⟩) la ca,.slice (some ⟨b,ob,none⟩) lb cb] w K:=by
 unfold aC;rw[run_callFunc_extern Tryz.func210 (by kernel_rfl) (by kernel_rfl) (by kernel_rfl) (e:=Extern.SlicesOverlaps.overlaps #[23,23] #[4]) (by kernel_rfl),
  Lib.run_overlaps_apart w 23 4 VT (by kernel_rfl) 5 (λw=>by kernel_rfl) ⟨a,oa,none⟩ ⟨b,ob,none⟩ la ca lb cb j T1 T2 x.length y.length (Bp o) (Bp hb) (λe=>I (bC e)) (by rw[mM,o,pX]) (by rw[mM,o,pX])]
 exact J
theorem Su{base tb:Nat}{xs c:List Value}{T2:TypeId}{K:Q0}(j:Own w base ST 1 v n xs)(J:w.heap[tb]?=some (.cells c.toArray T2 (0,0)))(U:c.length=1)(h1:∀u∈c,fC u=true)(o:∀u∈xs,fC u=true)
  (I:v.ownBlock≠some tb)(hi:i<=n)(hn:n<=1000000)(hbase:base<=w.heap.size)
  (hK:∀v' w',Own w' base ST 1 v' (n+1) (xs.take (i*1)++c++xs.drop (i*1))->Chg (λk=>v.ownBlock=some k) w w'->(∀k,v'.ownBlock=some k->v.ownBlock=some k\/w.heap.size<=k)->K v' w'):
  aC P0 154 [v,i64 (i:Nat),.slice (some ⟨tb,0,none⟩) 1 1] w K:=by
 refine YJ ?_;show ZA P0 1 24 3 208 209 _ _ _ _ _;exact Kx Cz (by kernel_rfl) aFH j J U h1 o I hi hn (by decide) hbase hK
theorem Ss{base tb:Nat}{xs c:List Value}{T2:TypeId}{K:Q0}(j:Own w base VT 5 v n xs)(J:w.heap[tb]?=some (.cells c.toArray T2 (0,0)))(U:c.length=5)(h1:∀u∈c,fC u=true)(o:∀u∈xs,fC u=true)
  (I:v.ownBlock≠some tb)(hi:i<=n)(hn:n<=1000000)(hbase:base<=w.heap.size)
  (hK:∀v' w',Own w' base VT 5 v' (n+1) (xs.take (i*5)++c++xs.drop (i*5))->Chg (λk=>v.ownBlock=some k) w w'->(∀k,v'.ownBlock=some k->v.ownBlock=some k\/w.heap.size<=k)->K v' w'):
  aC P0 155 [v,i64 (i:Nat),.slice (some ⟨tb,0,none⟩) 1 1] w K:=by
 refine YI ?_;show ZA P0 5 23 3 210 211 _ _ _ _ _;exact Kx Cy (by kernel_rfl) aFG j J U h1 o I hi hn (by decide) hbase hK
end
theorem cA.app{G:Nat->Prop}{w:World}:∀{xs ys:List JV} {L M:List Value},cA G w xs L->cA G w ys M->cA G w (xs++ys) (L++M)
 |[],ys,L,M,h,j=>by simp only[cA]at h;subst h;exact j
 |x::xs,ys,L,M,h,j=>by
  simp only[cA]at h
  obtain⟨c,r,rfl,I,o⟩:=h
  simp only[dD,cA]
  exact⟨c,r++M,by simp,I,cA.app o j⟩
theorem cA.cut{G:Nat->Prop}{w:World}:∀(i:Nat) {xs:List JV} {L:List Value},cA G w xs L->cA G w (xs.take i) (L.take (i*5))/\cA G w (xs.drop i) (L.drop (i*5))
 |0,xs,L,h=>by simp only[mZ,Av,cZ,cA];exact⟨trivial,h⟩
 |i+1,[],L,h=>by simp only[cA]at h;subst h;simp[cA]
 |i+1,x::xs,L,h=>by
  simp only[cA]at h
  obtain⟨c,r,rfl,j,o⟩:=h
  have J:=j.rep.len
  obtain⟨h1,I⟩:=cA.cut i o
  have e1:(c++r).take ((i+1)*5)=c++r.take (i*5):=by
   rw[show(i+1)*5=c.length+i*5 by omega,List.take_append,dW (by omega),Nat.add_sub_cancel_left]
  have e2:(c++r).drop ((i+1)*5)=r.drop (i*5):=by
   rw[show(i+1)*5=c.length+i*5 by omega,List.drop_append];simp
  rw[e1,e2];simp only[qC,cU,cA];exact⟨⟨c,_,rfl,j,h1⟩,I⟩
theorem cA.one'{x:JV}(h:cM G w x cs):cA G w [x] cs:=by
 simp only[cA];exact⟨cs,[],by simp,h,rfl⟩
theorem Pz{l:List (Str×JV)}{k:Str}{x:JV}(I:k∉l.map (·.1))(h1:∀j a,j<i->(l.map (·.1))[j]?=some a->Op.bytesLess a k=true)(J:∀j a,i<=j->(l.map (·.1))[j]?=some a->Op.bytesLess a k=false):insP l k x=l.take i++(k,x)::l.drop i:=by
 induction l generalizing i with
 |nil=>simp[insP]
 |cons q r ih=>
  obtain⟨a,y⟩:=q;simp only[dC,bM,not_or]at I;simp only[insP];cases i with
  |zero=>
   have:=J 0 a (fR _) rfl;have o:Op.bytesLess k a=true:=by
    rcases EV k a with h|h|h
    ·exact h
    ·exact absurd h I.1
    ·rw[this]at h;cases h
   rw[aJ o];rfl
  |succ i=>
   have:=h1 0 a (by omega) rfl;rw[aE (by rw[Pt this];simp),ih (i:=i) I.2 (λj b U hb=>h1 (j+1) b (by omega) hb) (λj b U hb=>J (j+1) b (by omega) hb)];rfl
theorem jK{B:Nat}{e:TypeId}{size:Nat}{xs:List Value}(h:Own w B e size v n xs)(j:Chg S w w')(o:∀k,v.ownBlock=some k->¬S k):Own w' B e size v n xs:=by
 obtain⟨hl,h|⟨g,cap,cur,rfl,h1,J,I⟩⟩:=h
 ·exact⟨hl,.inl h⟩
 ·exact⟨hl,.inr ⟨g,cap,cur,rfl,h1,j.at J (o g rfl),I⟩⟩
theorem gZ{B:Nat}{e:TypeId}{size:Nat}{k:Nat}{xs:List Value}(h:Own w B e size v n xs)(j:v.ownBlock=some k):B<=k/\k<w.heap.size/\∃c,w.heap[k]?=some (.cells c e (0,0)):=by
 obtain⟨hl,⟨rfl,_⟩|⟨g,cap,cur,rfl,h1,o,I⟩⟩:=h
 ·cases j
 ·simp only[Value.ownBlock,bF]at j;subst j;exact⟨h1,fA o,_,o⟩
theorem oK{B:Nat}{e:TypeId}{size:Nat}{xs:List Value}(h:Own w B e size v n xs):fC v=true:=by obtain⟨p,c,rfl,_⟩:=h.sl.shape;rfl
theorem Jr(l:List Str):∀u∈l.map str,fC u=true:=λu j=>by
 obtain⟨s,_,rfl⟩:=dL.1 j
 rfl
section
variable [HX]
theorem Tm{l:List Str}{K:Q0}(h:SlAt w T v l.length (l.map str))(hl:l.length<=1000000)
  (J:∀v' w',Ext w w'->Own w' w.heap.size ST 1 v' l.length (l.map str)->K v' w'):aC P0 118 [v] w K:=by
 refine Oz ?_;unfold aDf;obtain⟨p,cap,rfl,j,hp,U⟩:=h;cases p with
 |none=>
  obtain⟨h0,rfl⟩:=hp rfl;have:l=[]:=bC h0;subst this;have e:∀K:Value->Prop,eqW .slice false (.slice none ([]:List Str).length 0) (.slice none 0 0) K↔K (.bool true):=λK=>gO;rw[e];simp only[wsv,wsg,wsh,wsl,aM,aK,aD,fB,Nat.reduceAdd,Nat.reduceLT,aF,aA,aI,aH,bP,reduceCtorEq];exact J _ w (Chg.refl _ _) ⟨rfl,.inl ⟨rfl,rfl⟩⟩
 |some a=>
  have e:∀K:Value->Prop,eqW .slice false (.slice (some a) l.length cap) (.slice none 0 0) K↔K (.bool false):=λK=>gO;rw[e];unfold dN;simp only[wsv,wsg,wsh,wsl,aM,aK,aD,fB,Nat.reduceAdd,Nat.reduceLT,aF,aA,aI,aH,bP,reduceCtorEq];refine iF Cz (base:=w.heap.size) (xF (w:=w) (base:=w.heap.size) (e:=ST) (size:=1) (n:=0) (cs:=[]) (aV _) rfl (by omega)) (x:=.slice (some a) l.length cap) (T:=T) (m:=l.length) (news:=l.map str) ?_ (by simp) ?_ (by omega) (by omega) (by rw[size_alloc];omega) λv' w' h' I hg=>?_
  ·have o:Ext w (w.alloc (.cells ([]:List Value).toArray ST)):=(by repeat (first|assumption|exact Chg.refl _ _|refine Chg.drew ?_|refine Chg.alloc ?_ _|refine Chg.set ?_ (by first|exact .inl rfl|exact .inr (by omega)|exact .inr (by simp only[pO,size_alloc,size_drew];omega)|(left;simp;done)) _|exact Chg.of_ext (by assumption)));exact SlAt.ext ⟨some a,cap,rfl,j,hp,U⟩ o
  ·exact Jr l
  ·have o:Ext w (w.alloc (.cells ([]:List Value).toArray ST)):=(by repeat (first|assumption|exact Chg.refl _ _|refine Chg.drew ?_|refine Chg.alloc ?_ _|refine Chg.set ?_ (by first|exact .inl rfl|exact .inr (by omega)|exact .inr (by simp only[pO,size_alloc,size_drew];omega)|(left;simp;done)) _|exact Chg.of_ext (by assumption)));refine J v' w' (o.then I λk hk e=>?_) (by simpa using h');simp only[Value.ownBlock,bF]at e;omega
theorem Tl{xs:List JV}(hf:∀x∈xs,tR x=true)
  {sv:Value}{K:Q0}(h:eH w sv xs)(hl:xs.length<=1000000)
  (hK:∀sv' w' L,Ext w w'->Own w' w.heap.size VT 5 sv' xs.length L->cA (λk=>w.heap.size<=k/\sv'.ownBlock≠some k) w' xs L->K sv' w'):aC P0 119 [sv] w K:=by
 refine Oy ?_;unfold aDe;rw[h.len];refine⟨λs w'=>∃i v L,i<=xs.length/\s=[v,i64 (i:Nat)]/\Ext w w'/\Own w' w.heap.size VT 5 v i L/\cA (λk=>w.heap.size<=k/\v.ownBlock≠some k) w' (xs.take i) L,
  λs _=>match s with|[_,.int _ i]=>xs.length-i.toNat|_=>0,⟨0,_,[],by omega,rfl,Chg.refl _ _,⟨by simp,.inl ⟨rfl,rfl⟩⟩,by simp[cA]⟩,?_⟩
 rintro s g w2 ⟨i,v,L,hi,rfl,I,hO,hr⟩;rcases dR i xs.length with J|xi
 ·obtain⟨x,U⟩:∃x,xs[i]?=some x:=⟨_,List.getElem?_eq_getElem J⟩;have ho:(i:Int)<(xs.length:Int):=by omega
  simp only[wsv,wsg,wsh,wsl,aM,aK,aD,fB,Nat.reduceAdd,Nat.reduceLT,aF,aA,aI,aH,bP,reduceCtorEq,ho];refine(h.ext I).at U λcs xd=>?_;refine wS xd λp w3 sp kp hP hj=>?_;refine hP.ld λcs2 h2=>?_;refine DR x (hf x (bG U)) h2 λcs3 w4 xa h3=>?_;refine AE h3.rep.len λt w5 ht hh=>?_;have j:=hj.trans (xa.trans hh);have hx:=hO.ext j;have s0:=I.size;have s3:=hj.size;have s25:=j.size;have hq:∀k,v.ownBlock=some k->k<w2.heap.size:=λk o=>(World.ownsRow.lt hO k o).2;refine iF Cy hx ht (m:=1) (by rw[h3.rep.len]) h3.rep.one (by omega) (by omega) (by omega) λv' w6 h6 hs xe=>?_;have hz:Ext w w6:=(I.trans j).then hs λk o e=>by
   have:=(nU hx e).1;omega
  rw[up1 (by omega)];refine⟨⟨i+1,v',L++cs3,J,rfl,hz,h6,?_⟩,by simp only[aW];omega⟩;have e:xs.take (i+1)=xs.take i++[x]:=by rw[dG,U];rfl
  rw[e];have xb:=cA.chg j (λ_ _ _ e=>e) hr;have xg:=cM.chg hh (λ_ _ _ e=>e) h3;have hv:cA (λk=>w.heap.size<=k/\v.ownBlock≠some k) w5 (xs.take i++[x]) (L++cs3):=
   xb.snoc (xg.mono λk _ o=>⟨by have:w3.heap.size<=k:=o;omega,λe=>by have:=hq k e;have:w3.heap.size<=k:=o;omega⟩)
  have hg:cA (λk=>(w.heap.size<=k/\v.ownBlock≠some k)/\k<w5.heap.size) w5 (xs.take i++[x]) (L++cs3):=hv.mono λk J o=>⟨o,J⟩;have hc:=cA.chg hs (λk o _ e=>o.1.2 e) hg;exact hc.mono λk _ o=>⟨o.1.1,λe=>by
   rcases xe k e with h|h
   ·exact o.1.2 h
   ·omega⟩
 ·obtain rfl:i=xs.length:=by omega
  simp only[wsv,wsg,wsh,wsl,aM,aK,aD,fB,Nat.reduceAdd,Nat.reduceLT,aF,aA,aI,aH,bP,reduceCtorEq,fJ];rw[bR]at hr;exact hK v w2 L I hO hr
structure Gl(w:World)(B:Nat)(v:JV)(sv kv:Value)(L:List Value):Prop where
 items:Own w B VT 5 sv v.xs.length L
 reps:cA (λq=>B<=q/\sv.ownBlock≠some q/\kv.ownBlock≠some q) w v.xs L
 keys:Own w B ST 1 kv v.ks.length (v.ks.map str)
 fits:Fits v.xs.length v.ks v.t
theorem Gl.ext{B:Nat}{v:JV}{sv kv:Value}{L:List Value}(h:Gl w B v sv kv L)(j:Ext w w'):Gl w' B v sv kv L:=⟨jK h.items j λ_ _ e=>e,cA.chg j (λ_ _ _ e=>e) h.reps,jK h.keys j λ_ _ e=>e,h.fits⟩
theorem Gl.rep{B:Nat}{v:JV}{sv kv:Value}{L:List Value}(h:Gl w B v sv kv L):cM (yE B) w v [i64 v.k,.bool v.b,str v.t,sv,kv]:=
 cM.mk h.items.sl (h.reps.mono λk _ j=>j.1) h.keys.sl h.fits (λ_ k j=>(gZ h.items j).1) (λ_ k j=>(gZ h.keys j).1)
theorem Oj{v:JV}{K:Q0}(o:tR v=true)(h:eX w v cs)(hK:∀sv kv L w',Ext w w'->Gl w' w.heap.size v sv kv L->K (.agg [i64 v.k,.bool v.b,str v.t,sv,kv].toArray) w'):
  aC P0 88 [.agg cs.toArray] w K:=by
 rw[xL,wO]at o;simp only[aL,bD,bN]at o;obtain⟨⟨f1,f2⟩,f3⟩:=o;refine TB ?_;unfold W88;refine kJ h λa w1 sv kv hB hx ha=>?_;refine bI λb w2 hb xn xe hs=>?_;have hc:Ext w2 w2.drew:=Chg.drew (Chg.refl (λ_=>False) w2);have hz:=hB.ext hs;have hy:=hz.ext hc;have xd:=hc.at xe id;have sd:w2.drew.heap.size=w2.heap.size:=rfl;simp only[wsv,wsg,wsh,wsl,aM,aK,aD,fB,Nat.reduceAdd,Nat.reduceLT,aF,aA,aI,aH,bP,reduceCtorEq,wsh,hz.hb];obtain⟨T1,k1⟩:=hy.keys;refine Tm k1 (by omega) λkv' w3 J U=>?_;have hr:=hy.ext J;have xh:=J.at xd id;have s3:=J.size;simp only[wsv,wsg,wsh,wsl,aM,aK,aD,fB,Nat.reduceAdd,Nat.reduceLT,aF,aA,aI,aH,bP,reduceCtorEq,wsh,hr.hb];refine Tl f3 hr.itemsAt (by omega) λsv' w4 L I hq xi=>?_;have xj:=hr.ext I;have xg:=I.at xh id;have s1:=hx.size;have xq:=fA hB.hb;have fC:fC sv'=true/\fC kv'=true:=⟨oK hq,oK U⟩;refine iO xj.hb fC.2 (by simp) λw5 xm ho hi=>?_;have ho:w5.heap[a]?=some (.cells [i64 v.k,.bool v.b,str v.t,sv,kv'].toArray VT (0,0)):=by rw[ho];simp
 refine iO ho fC.1 (by simp) λw6 xl hj hh=>?_;have hj:w6.heap[a]?=some (.cells [i64 v.k,.bool v.b,str v.t,sv',kv'].toArray VT (0,0)):=by rw[hj];simp
 refine bZ hj rfl ?_;have xf:=hh.at (hi.at xg (by omega)) (by omega);refine iI xf rfl rfl (xH fC.1 fC.2) λw7 hv=>?_;have xb:Ext w w4:=hx.trans (hs.trans (hc.trans (J.trans I)));have xa:Ext w w7:=((xb.new hi (by omega)).new hh (by omega)).new hv (by omega);have hg:Chg (λk=>k=a\/k=b) w4 w7:=((hi.mono λk _ e=>.inl e).trans (hh.mono λk _ e=>.inl e)).trans (hv.mono λk _ e=>.inr e);have ht:∀k,kv'.ownBlock=some k->w2.drew.heap.size<=k/\k<w3.heap.size:=λk j=>⟨(gZ U j).1,(gZ U j).2.1⟩;have xc:∀k,sv'.ownBlock=some k->w3.heap.size<=k:=λk j=>(gZ hq j).1;have lower:∀{e:TypeId} {size n:Nat} {v:Value} {xs:List Value} {B B':Nat} {w:World},B'<=B->Own w B e size v n xs->Own w B' e size v n xs:=λxo h=>by
  obtain⟨hl,h|⟨g,cap,cur,he,h1,h2⟩⟩:=h
  ·exact⟨hl,.inl h⟩
  ·exact⟨hl,.inr ⟨g,cap,cur,he,by omega,h2⟩⟩
 refine hK sv' kv' L w7 xa ⟨lower (by omega) (jK hq hg λk j e=>by have:=xc k j;omega),?_,lower (by omega) (jK (U.ext I) hg λk j e=>by have:=ht k j;omega),hB.fits⟩;refine cA.mono (λk _ j=>?_) (cA.chg (G:=λk=>w3.heap.size<=k/\sv'.ownBlock≠some k) hg (λk j _ e=>by have:=j.1;omega) xi);exact⟨by have:=j.1;omega,j.2,λe=>by have:=ht k e;have:=j.1;omega⟩
end
def ZB(B:Nat)(sv kv:Value)(q:Nat):Prop:=B<=q/\sv.ownBlock≠some q/\kv.ownBlock≠some q
section
variable [HX]
theorem Nv{B m:Nat}{sv kv:Value}{L M:List Value}(h:Own w B VT 5 sv n L)(I:Own w B ST 1 kv m M){q:Nat}(h1:sv.ownBlock=some q):kv.ownBlock≠some q:=λe=>by
 obtain⟨_,_,c,o⟩:=gZ h h1
 obtain⟨_,_,c',j⟩:=gZ I e
 rw[o]at j
 simp only[bF,Obj.cells.injEq]at j
 exact absurd j.2.1 (by decide)
theorem aDz{x:Str}{K:Q0}(j:∀a w',a=w.heap.size->w'.heap.size=w.heap.size+1->w'.heap[a]?=some (.cells [str x].toArray ST (0,0))->Ext w w'->K (.slice (some ⟨a,0,none⟩) 1 1) w'):dN ST 1 [.string (ofL [])] [(0,1,str x)] w K:=by
 unfold dN;simp only[wsv,wsg,wsh,wsl,aM,aK,aD,fB,Nat.reduceAdd,Nat.reduceLT,aF,aA,aI,aH,bP,reduceCtorEq];exact row_new λa w' h1 J I o _=>j a w' h1 J I o
theorem aAw{K:Q0}(o:cs.length=5)(j:∀a w',a=w.heap.size->w'.heap.size=w.heap.size+1->w'.heap[a]?=some (.cells cs.toArray VT (0,0))->Ext w w'->K (.slice (some ⟨a,0,none⟩) 1 1) w'):dN VT 1 [(.int .i64 0),(.bool false),(.string (ofL [])),(.slice none 0 0),(.slice none 0 0)] [(0,5,.agg cs.toArray)] w K:=by
 unfold dN;have hp:∀K:List Value->Prop,K cs->dJ [(.int .i64 0),(.bool false),(.string (ofL [])),(.slice none 0 0),(.slice none 0 0)] [(0,5,.agg cs.toArray)] K:=by
  intro K j;refine⟨by simp[Value.cells,o],by simp,?_⟩;have:List.take 0 [(Value.int .i64 0),(.bool false),(.string (ofL [])),(.slice none 0 0),(.slice none 0 0)]++((Value.agg cs.toArray).cells.toList++List.drop (0+5) [(Value.int .i64 0),(.bool false),(.string (ofL [])),(.slice none 0 0),(.slice none 0 0)])=cs:=by simp[Value.cells]
  rw[this];exact j
 refine hp _ ?_;exact row_new λa w' h1 U J I _=>j a w' h1 U J I
end
section
variable [HX]
theorem aDM{l:List (Str×JV)}{k:Str}{x:JV}{sv kv:Value}{L:List Value}{B:Nat}{K:Q0}(h:Gl w B (mkO l) sv kv L)(hx:cM (ZB B sv kv) w x cs)(hr:LF (l.map (·.1)))(hk:k∉l.map (·.1))(hl:l.length<=99999)(ze:k.length<=9223372036854775807)
  (hB:B<=w.heap.size)(hK:∀sv' kv' L' w',Chg (λq=>sv.ownBlock=some q\/kv.ownBlock=some q) w w'->Gl w' B (mkO (insP l k x)) sv' kv' L'->K (.agg [i64 6,.bool false,str [],sv',kv'].toArray) w'):
  aC P0 121 [.agg [i64 6,.bool false,str [],sv,kv].toArray,str k,.agg cs.toArray] w K:=by
 have hkeys:(mkO l).ks=l.map (·.1):=rfl;have yd:(mkO l).xs=l.map (·.2):=rfl;have hO:=h.items;have hM:=h.keys;rw[yd]at hO;rw[hkeys]at hM;have zc:(l.map (·.2)).length=l.length:=cD _;have xp:(l.map (·.1)).length=l.length:=cD _;rw[zc]at hO;rw[xp]at hM;have xx:=h.reps;rw[yd]at xx;have xa:=hx.rep.len;have yk:=hx.rep.one;obtain⟨f1,f2,f3,f4⟩:=h.fits;refine Zh ?_;unfold aFo;have o1:=oK hO;have o2:=oK hM;refine fY (z:=[i64 6,.bool false,str [],sv,kv]) λa3 w1 zr zm xh yx=>?_;refine fY (z:=cs) λa5 w2 zq zl ya yf=>?_;refine bI λa6 w3 zp zk xq xw=>?_;have xh:=(yf.trans xw).at xh id;have ya:=xw.at ya id;have hg:=(yx.trans yf).trans xw;rw[bT,dY];refine⟨kv,by rw[bW,cG,xh];rfl,?_⟩;have zb:SlAt w3 ST kv (l.map (·.1)).length ((l.map (·.1)).map str):=by rw[xp];exact hM.sl.ext hg
 refine Jy zb (by rw[xp];omega) hr λi _ zd zf xk=>?_;rw[xp]at xk;have hnone:(wL (l.map (·.1)) k).isSome=false:=by rw[Ai.2 hk];rfl
 rw[hnone];simp only[bL];refine⟨_,rfl,_,rfl,?_⟩;rw[cP];have xf:=Pz hk zd zf (x:=x);have hsvlt:∀q,sv.ownBlock=some q->q<w.heap.size:=λq j=>(gZ hO j).2.1;have hkvlt:∀q,kv.ownBlock=some q->q<w.heap.size:=λq j=>(gZ hM j).2.1;have insK:∀{w4:World} {tb:Nat} {K':Q0},Chg (λq=>False) w w4->w.heap.size<=tb->w4.heap[tb]?=some (.cells [str k].toArray ST (0,0))->
   (∀kv' w5,Own w5 B ST 1 kv' (l.length+1) (((l.map (·.1)).map str).take (i*1)++[str k]++((l.map (·.1)).map str).drop (i*1))->Chg (λq=>kv.ownBlock=some q) w4 w5->(∀q,kv'.ownBlock=some q->kv.ownBlock=some q\/w4.heap.size<=q)->K' kv' w5)->
   aC P0 154 [kv,i64 (i:Nat),.slice (some ⟨tb,0,none⟩) 1 1] w4 K':=λ{w4 tb K'} hc yz ht yc=>
  Su (jK hM hc λ_ _ e=>e) ht rfl (λu hu=>by rw[bK.1 hu];rfl) (Jr _) (λe=>by have:=hkvlt _ e;omega) xk (by omega) (by have:=hc.size;omega) yc
 have Ct:∀{w4:World} {tb:Nat} {K':Q0},Chg (λq=>kv.ownBlock=some q) w w4->w.heap.size<=tb->w4.heap[tb]?=some (.cells cs.toArray VT (0,0))->
   (∀sv' w5,Own w5 B VT 5 sv' (l.length+1) (L.take (i*5)++cs++L.drop (i*5))->Chg (λq=>sv.ownBlock=some q) w4 w5->(∀q,sv'.ownBlock=some q->sv.ownBlock=some q\/w4.heap.size<=q)->K' sv' w5)->
   aC P0 155 [sv,i64 (i:Nat),.slice (some ⟨tb,0,none⟩) 1 1] w4 K':=λ{w4 tb K'} hc yz ht yc=>
  Ss (jK hO hc λq j e=>Nv hO hM j e) ht xa yk xx.rep.one (λe=>by have:=hsvlt _ e;omega) xk (by omega) (by have:=hc.size;omega) yc
 obtain⟨J,hJ⟩:∃J:List Value->World->Prop,∀st w',J st w'↔∃sv' kv',w'.heap[a3]?=some (.cells [i64 6,.bool false,str [],sv',kv'].toArray VT (0,0))/\w'.heap[a6]?=some (.cells [i64 0,.bool false,str [],.slice none 0 0,.slice none 0 0].toArray VT (0,0))/\Chg (λq=>sv.ownBlock=some q\/kv.ownBlock=some q) w w'/\a6<w'.heap.size/\
  fC sv'=true/\fC kv'=true/\(∀q,sv'.ownBlock=some q->q≠a6)/\(∀q,kv'.ownBlock=some q->q≠a6)/\∃L',Gl w' B (mkO (insP l k x)) sv' kv' L'/\cA (λq=>(B<=q/\sv'.ownBlock≠some q/\kv'.ownBlock≠some q)/\q≠a6) w' (mkO (insP l k x)).xs L':=⟨_,λ_ _=>gO⟩
 refine bU.cut J ?_ ?_
 ·have xi:Ext w3 w3.drew:=Chg.drew (Chg.refl (λ_=>False) w3);have e3:∀{w4:World},Chg (λq=>kv.ownBlock=some q) w3 w4->w4.heap[a3]?=some (.cells [i64 6,.bool false,str [],sv,kv].toArray VT (0,0)):=λhc=>hc.at xh λe=>by have:=hkvlt _ e;omega
  have e5:∀{w4:World},Chg (λq=>kv.ownBlock=some q) w3 w4->w4.heap[a5]?=some (.cells cs.toArray VT (0,0)):=λhc=>hc.at ya λe=>by have:=hkvlt _ e;omega
  have up:∀{w4:World},Ext w3 w4->Chg (λq=>kv.ownBlock=some q) w3 w4:=λhx=>Chg.of_ext hx;have ldk:∀{w4:World} {K:Value->Prop},Chg (λq=>kv.ownBlock=some q) w3 w4->K kv->ldW false 1 (.pointer (some ((⟨a3,0,none⟩:Addr).add 4))) w4 K:=λhc hk=>by
   rw[dY];exact⟨_,by rw[bW,cG,e3 hc];rfl,hk⟩
  have lds:∀{w4:World} {K:Value->Prop},Chg (λq=>kv.ownBlock=some q) w3 w4->K sv->ldW false 1 (.pointer (some ((⟨a3,0,none⟩:Addr).add 3))) w4 K:=λhc hk=>by
   rw[dY];exact⟨_,by rw[bW,cG,e3 hc];rfl,hk⟩
  have ldx:∀{w4:World} {K:Value->Prop},Chg (λq=>kv.ownBlock=some q) w3 w4->K (.agg cs.toArray)->ldW true 5 (.pointer (some ⟨a5,0,none⟩)) w4 K:=λhc hk=>bZ (e5 hc) xa hk;have fin:∀{w4 w5:World} {sv' kv':Value},Chg (λq=>kv.ownBlock=some q) w3 w4->Own w4 B ST 1 kv' (l.length+1) (((l.map (·.1)).map str).take (i*1)++[str k]++((l.map (·.1)).map str).drop (i*1))->(∀q,kv'.ownBlock=some q->kv.ownBlock=some q\/w3.heap.size<=q)->
    Chg (λq=>sv.ownBlock=some q) w4 w5->Own w5 B VT 5 sv' (l.length+1) (L.take (i*5)++cs++L.drop (i*5))->(∀q,sv'.ownBlock=some q->sv.ownBlock=some q\/w3.heap.size<=q)->
    stW 1 (.pointer (some ((⟨a3,0,none⟩:Addr).add 4))) kv' w5 λw6=>aZ 3 (.pointer (some ⟨a3,0,none⟩)) λt36=>stW 1 t36 sv' w6 λw7=>J [] w7:=λ{w4 w5 sv' kv'} xl hi ho hh hy hj=>by
   have ym:=hh.at (e3 xl) λe=>by have:=hsvlt _ e;omega
   have yl:=hh.at (xl.at xq λe=>by have:=hkvlt _ e;omega) λe=>by have:=hsvlt _ e;omega
   rw[bW];refine iO ym (oK hi) (by simp) λw6 ys xn xd=>?_;have xn:w6.heap[a3]?=some (.cells [i64 6,.bool false,str [],sv,kv'].toArray VT (0,0)):=by rw[xn];simp
   rw[bT,bW];refine iO xn (oK hy) (by simp) λw7 zj xm xc=>?_;have xm:w7.heap[a3]?=some (.cells [i64 6,.bool false,str [],sv',kv'].toArray VT (0,0)):=by rw[xm];simp
   have xb:Chg (λq=>q=a3) w5 w7:=xd.trans xc;have s45:=hh.size;have s34:=xl.size;have s57:=xb.size;have xy:Chg (λq=>sv.ownBlock=some q\/kv.ownBlock=some q) w w7:=by
    have h1:Chg (λq=>sv.ownBlock=some q\/kv.ownBlock=some q) w w5:=(((Chg.of_ext hg).trans (xl.mono λ_ _ e=>.inr e)).trans (hh.mono λ_ _ e=>.inl e));exact h1.then xb λq j e=>by omega
   have n3:∀q,kv'.ownBlock=some q->q≠a3:=λq j e=>by
    rcases ho q j with h|h
    ·have:=hkvlt _ h;omega
    ·omega
   have n3':∀q,sv'.ownBlock=some q->q≠a3:=λq j e=>by
    rcases hj q j with h|h
    ·have:=hsvlt _ h;omega
    ·omega
   have yr:Own w5 B ST 1 kv' (l.length+1) (((l.map (·.1)).map str).take (i*1)++[str k]++((l.map (·.1)).map str).drop (i*1)):=jK hi hh λq j e=>by
    obtain⟨_,_,c,hc⟩:=gZ hi j;obtain⟨_,_,c',xz⟩:=gZ (jK hO ((Chg.of_ext hg).trans xl) λq j e=>Nv hO hM j e) e;rw[hc]at xz;simp only[bF,Obj.cells.injEq]at xz;exact absurd xz.2.1 (by decide)
   have yq:=jK yr xb λq j e=>n3 q j e;have yp:=jK hy xb λq j e=>n3' q j e;refine(hJ _ w7).2 ⟨sv',kv',xm,xb.at yl (by omega),xy,by have:=fA xq;omega,oK hy,oK hi,?_⟩;have hfree:∀q,ZB B sv kv q->q<w.heap.size->¬(sv.ownBlock=some q\/kv.ownBlock=some q):=λq j _ e=>by
    rcases e with e|e
    ·exact j.2.1 e
    ·exact j.2.2 e
   have yi:cA (λq=>ZB B sv kv q/\q<w.heap.size) w (l.map (·.2)) L:=xx.mono λq j h=>⟨h,j⟩;have yy:cM (λq=>ZB B sv kv q/\q<w.heap.size) w x cs:=hx.mono λq j h=>⟨h,j⟩;have yh:=cA.chg xy (λq j h=>hfree q j.1 h) yi;have yw:=cM.chg xy (λq j h=>hfree q j.1 h) yy;have m3:∀q,kv'.ownBlock=some q->q≠a6:=λq j e=>by
    rcases ho q j with h|h
    ·have:=hkvlt _ h;omega
    ·omega
   have m3':∀q,sv'.ownBlock=some q->q≠a6:=λq j e=>by
    rcases hj q j with h|h
    ·have:=hsvlt _ h;omega
    ·omega
   obtain⟨c1,c2⟩:=yh.cut i;have yo:=(c1.app (cA.one' yw)).app c2;have ex:(mkO (insP l k x)).xs=(l.map (·.2)).take i++[x]++(l.map (·.2)).drop i:=by
    rw[xf];show((l.take i++(k,x)::l.drop i).map (·.2))=_;simp
   have ek:(mkO (insP l k x)).ks=(l.map (·.1)).take i++[k]++(l.map (·.1)).drop i:=by
    rw[xf];show((l.take i++(k,x)::l.drop i).map (·.1))=_;simp
   have exl:(mkO (insP l k x)).xs.length=l.length+1:=by
    rw[xf];show((l.take i++(k,x)::l.drop i).map (·.2)).length=_;simp;omega
   have ekl:(mkO (insP l k x)).ks.length=l.length+1:=by
    rw[xf];show((l.take i++(k,x)::l.drop i).map (·.1)).length=_;simp;omega
   have ekm:(mkO (insP l k x)).ks.map str=((l.map (·.1)).map str).take (i*1)++[str k]++((l.map (·.1)).map str).drop (i*1):=by
    rw[ek,Nat.mul_one];simp
   have hfits:Fits (mkO (insP l k x)).xs.length (mkO (insP l k x)).ks (mkO (insP l k x)).t:=⟨by rw[exl];omega,by rw[ekl];omega,by simp[mkO,JV.t],λs hs=>by
    rw[ek]at hs;rcases dH.1 hs with hs|hs
    ·rcases dH.1 hs with hs|hs
     ·exact f4 s (oR hs)
     ·rw[bK.1 hs];exact ze
    ·exact f4 s (CP hs)⟩
   have hreps:cA (λq=>(B<=q/\sv'.ownBlock≠some q/\kv'.ownBlock≠some q)/\q≠a6) w7 (mkO (insP l k x)).xs (L.take (i*5)++cs++L.drop (i*5)):=by
    rw[ex];exact yo.mono λq _ j=>⟨⟨j.1.1,λe=>by
     rcases hj q e with h|h
     ·exact j.1.2.1 h
     ·have:=j.2;omega,λe=>by
     rcases ho q e with h|h
     ·exact j.1.2.2 h
     ·have:=j.2;omega⟩,by have:=j.2;omega⟩
   refine⟨m3',m3,_,⟨by rw[exl];exact yp,hreps.mono λq _ j=>j.1,by rw[ekl,ekm];exact yq,hfits⟩,hreps⟩
  rw[bT];refine ldk (up xi) ?_;rw[bT];refine lds (up xi) ?_;refine ldx (up xi) ⟨?_,?_⟩
  ·refine aDz λb27 w4 yn yu xe I=>?_;have I:=xi.trans I;have sd:w3.drew.heap.size=w3.heap.size:=rfl;refine⟨ldx (up I) rfl,lds (up I) rfl,ldk (up I) rfl,?_,?_⟩
   ·refine insK (hg.trans I) (by omega) xe λkv' w5 hi hh ho=>?_;have xg:Chg (λq=>kv.ownBlock=some q) w3 w5:=(up I).trans hh;refine⟨ldx xg rfl,lds xg rfl,?_⟩;rw[bT];refine aAw xa λb33 w6 xt ys hz ye=>?_;have o:Chg (λq=>kv.ownBlock=some q) w3 w6:=xg.then ye λ_ _ e=>e.elim;have s35:=xg.size;refine⟨lds o rfl,?_⟩;refine Ct ((Chg.of_ext hg).trans o) (by omega) hz λsv' w7 hy xc hj=>?_;exact fin o (jK hi ye λ_ _ e=>e) (λq j=>(ho q j).imp id λh=>by omega) xc hy (λq j=>(hj q j).imp id λh=>by omega)
   ·refine aAw xa λb33 w5 xt yt hz xj=>?_;have U:=I.trans xj;refine⟨lds (up U) rfl,ldk (up U) rfl,?_⟩;refine insK (hg.trans U) (by omega) (xj.at xe id) λkv' w6 hi xd ho=>?_;have o:Chg (λq=>kv.ownBlock=some q) w3 w6:=(up U).trans xd;refine⟨lds o rfl,?_⟩;rw[bT];have s36:=o.size;refine Ct ((Chg.of_ext hg).trans o) (by omega) (xd.at hz λe=>by have:=hkvlt _ e;omega) λsv' w7 hy xc hj=>?_;exact fin o hi (λq j=>(ho q j).imp id λh=>by omega) xc hy (λq j=>(hj q j).imp id λh=>by omega)
  ·refine aAw xa λb33 w4 xt yu hz I=>?_;have I:=xi.trans I;have sd:w3.drew.heap.size=w3.heap.size:=rfl;refine⟨lds (up I) rfl,ldk (up I) rfl,?_⟩;refine aDz λb27 w5 yn yt xe xj=>?_;have U:=I.trans xj;refine⟨lds (up U) rfl,ldk (up U) rfl,?_⟩;refine insK (hg.trans U) (by omega) xe λkv' w6 hi xd ho=>?_;have o:Chg (λq=>kv.ownBlock=some q) w3 w6:=(up U).trans xd;refine⟨lds o rfl,?_⟩;rw[bT];have s36:=o.size;refine Ct ((Chg.of_ext hg).trans o) (by omega) (xd.at (xj.at hz id) λe=>by have:=hkvlt _ e;omega) λsv' w7 hy xc hj=>?_;exact fin o hi (λq j=>(ho q j).imp id λh=>by omega) xc hy (λq j=>(hj q j).imp id λh=>by omega)
 rintro st g w4 zg;obtain⟨sv',kv',xh,xq,hc,zh,o1',o2',n1,n2,L',yb,yj⟩:=(hJ _ _).1 zg;refine bZ xh rfl ?_;refine iI xq rfl rfl (xH o1' o2') λw5 hh=>?_;exact hK _ _ L' w5 (hc.then hh λq j e=>by omega) ⟨jK yb.items hh λq j e=>n1 q j e,(cA.chg hh (λq j _ e=>j.2 e) yj).mono λq _ j=>j.1,jK yb.keys hh λq j e=>n2 q j e,yb.fits⟩
end
section
variable [HX]
def oJ(s:Str):Nat->Nat->List Str
 |0,_=>[]
 |n+1,i=>if i<s.length then(s.drop i).take (lF s i)::oJ s n (i+lF s i)else []
theorem GR{s:Str}(h:s.length<=i):oJ s n i=[]:=by
 cases n with
 |zero=>rfl
 |succ n=>rw[oJ,aE (by omega)]
end
end
end Go.Proofs.YtghhmpppnmoeoaaGreatDoor
namespace Go.Eng
section
open Go Go.Num
def yS(s:Str):Nat->Nat->List Str
 |0,_=>[]
 |n+1,i=>if i<s.length then(s.drop i).take (lF s i)::yS s n (i+lF s i)else []
def oM(s:Str):List Str:=yS s s.length 0
abbrev tV(s:Str):JV:=.mk 4 false s [] []
abbrev nV(s:Str):JV:=.mk 3 false s [] []
abbrev iV(n:Int):JV:=nV (Lib.itoa n)
abbrev bV(b:Bool):JV:=.mk 2 b [] [] []
abbrev lV(xs:List JV):JV:=.mk 5 false [] xs []
abbrev uV:JV:=.mk 1 false [] [] []
def aEc(lo tb:Nat)(c:UInt8):UInt8:=if lo<=c.toNat/\c.toNat<lo+26 then UInt8.ofNat (c.toNat-lo+tb)else c
def To(lo tb:Nat)(s:Str):Str:=s.map (aEc lo tb)
def BF(a:JV):Option JV:=if a.k=4 then some (iV (oM a.t).length)else if a.k=5\/a.k=6 then some (iV a.xs.length)else none
def wB(a:JV):Option JV:=if a.k=4 then some (tV (oM a.t).reverse.flatten)else if a.k=5 then some (lV a.xs.reverse)else none
def Uc(s f n:Str):Option JV:=
 if neg f||neg n then none else
 let l:=oM s
 let at0:=min (dec f) l.length
 some (tV ((l.drop at0).take (min (dec n) (l.length-at0))).flatten)
def aBM(by_:Str)(xs:List JV):Option JV:=if xs.any (λx=> !decide (x.k=4))then none else some (tV (Lib.join (xs.map (·.t)) by_))
def Ue(by_ s:Str):Option JV:=if by_=[]then none else some (lV ((Lib.split s by_).map tV))
def vD(a:List JV):JV:=lV (a.map (·.xs)).flatten
def aBG(a:List JV):JV:=a.foldl (λv x=>(x.ks.zip x.xs).foldl (λv p=>xD v p.1 p.2) v) (.mk 6 false [] [] [])
def ZQ(sg:Int)(a:List JV):JV:=a.foldl (λb x=>if 0<wT x.t b.t*sg then x else b) (a.headD JV.null)
def aAz(s:Str):Option JV:=if neg s||decide (32<dec s)then none else some (lV ((List.range (dec s)).map λi:Nat=>iV (i:Int)))
def aAk(a:JV):Option JV:=
 if a.k=2 then some (tV (if a.b then [116,114,117,101]else [102,97,108,115,101]))else if a.k=3\/a.k=4 then some (tV a.t)else none
def aAl(a:JV):Option JV:=if(a.k=3\/a.k=4)/\goodN a.t=true then some (nV a.t)else none
structure FnM where
 takes:Str
 least:Nat
 act:List JV->Option JV
abbrev arg(a:List JV)(i:Nat):JV:=a.getD i JV.null
def SI:FnM:=⟨[110],0,λa=>some (nV (dig (arg a 0).t))⟩
def Ak:FnM:=⟨[108,46],0,λa=>some (vD a)⟩
def Di:FnM:=⟨[108,118],0,λa=>some (bV ((arg a 0).xs.any λx=>decide (FL x (arg a 1)=0)))⟩
def NV:FnM:=⟨[115,108],0,λa=>aBM (arg a 0).t (arg a 1).xs⟩
def NU:FnM:=⟨[111],0,λa=>some (lV ((arg a 0).ks.map tV))⟩
def sX:FnM:=⟨[118],0,λa=>BF (arg a 0)⟩
def Hv:FnM:=⟨[111,115,118],0,λa=>some ((zC (arg a 0) (arg a 1).t).getD (arg a 2))⟩
def KL:FnM:=⟨[115],0,λa=>some (tV (To 65 97 (arg a 0).t))⟩
def SH:FnM:=⟨[110,46],1,λa=>some (ZQ 1 a)⟩
def KJ:FnM:=⟨[111,46],0,λa=>some (aBG a)⟩
def SG:FnM:=⟨[110,46],1,λa=>some (ZQ (-1) a)⟩
def KI:FnM:=⟨[110],0,λa=>aAz (arg a 0).t⟩
def tP:FnM:=⟨[118],0,λa=>wB (arg a 0)⟩
def KH:FnM:=⟨[115,115],0,λa=>Ue (arg a 0).t (arg a 1).t⟩
def Hu:FnM:=⟨[115,110,110],0,λa=>Uc (arg a 0).t (arg a 1).t (arg a 2).t⟩
def KG:FnM:=⟨[118],0,λa=>aAl (arg a 0)⟩
def Dh:FnM:=⟨[118],0,λa=>aAk (arg a 0)⟩
def KF:FnM:=⟨[115],0,λa=>some (tV (To 97 65 (arg a 0).t))⟩
def Ht:FnM:=⟨[111],0,λa=>some (lV (arg a 0).xs)⟩
def fnT:List (Str×FnM):=[([97,98,115],SI),([99,111,110,99,97,116],Ak),([99,111,110,116,97,105,110,115],Di),([106,111,105,110],NV),([107,101,121,115],NU),([108,101,110,103,116,104],sX),([108,111,111,107,117,112],Hv),([108,111,119,101,114],KL),([109,97,120],SH),([109,101,114,103,101],KJ),([109,105,110],SG),([114,97,110,103,101],KI),([114,101,118,101,114,115,101],tP),([115,112,108,105,116],KH),([115,117,98,115,116,114],Hu),([116,111,105,110,116],KG),([116,111,115,116,114,105,110,103],Dh),([117,112,112,101,114],KF),([118,97,108,117,101,115],Ht)]
def BD:List (Str×FnM)->Str->Option FnM
 |[],_=>none
 |(a,v)::m,k=>if k=a then some v else BD m k
def nS(c:UInt8):Int:=if c=110 then 3 else if c=115 then 4 else if c=108 then 5 else if c=111 then 6 else-1
def Hd(t:Str):Bool:=t.getLast?==some 46
def xK(t:Str)(n:Nat):Str:=if Hd t then(List.replicate n t.dropLast).flatten else t
def xW(f:FnM)(a:List JV):Bool:=
 decide (a.length=(xK f.takes a.length).length)&&decide (f.least<=a.length)&&(a.zip (xK f.takes a.length)).all λp=>decide (nS p.2<0)||decide (p.1.k=nS p.2)
def rG(name:Str)(a:List JV):JV×Int:=
 if a.any (λx=> !dK x)then(JV.null,1)else
 match BD fnT name with
 |none=>(JV.null,70)
 |some f=>
  if a.any (λx=> !gJ x)then(uV,0)else
  if !xW f a then(JV.null,71)else
  match f.act a with
  |none=>(JV.null,71)
  |some v=>if dK v then(v,0)else(JV.null,3)
end
section
open Go
variable{w:World}{K:Q0}{cs:List Value}{G:Nat->Prop}{T:TypeId}{i:Nat}{n:Nat}{v:Value}{w':World}{P:Program}{c:UInt8}{S:Nat->Prop}
def oG:Nat->List (Str×Value)->List MapEntry
 |_,[]=>[]
 |i,(k,v)::m=>{key:=str k,val:=v,born:=i}::oG (i+1) m
theorem HD(k:Str)(v:Value):∀(m:List (Str×Value)) (i:Nat),oG i (m++[(k,v)])=oG i m++[{key:=str k,val:=v,born:=i+m.length}]
 |[],i=>rfl
 |(a,x)::m,i=>by
  simp only[dD,oG,HD k v m,aB]
  rw[show i+1+m.length=i+(m.length+1)by omega]
def LG(w:World)(b:Nat)(m:List (Str×Value)):Prop:=w.heap[b]?=some (.map (oG 0 m).toArray m.length)
def tN:List (Str×Value)->Str->Option Value
 |[],_=>none
 |(a,v)::m,k=>if k=a then some v else tN m k
theorem BN(k:Str):∀(m:List (Str×Value)) (i j:Nat),(tN m k=none->Instr.findNow .string (str k) (oG i m) j=some none)/\∀v,tN m k=some v->∃n,Instr.findNow .string (str k) (oG i m) j=some (some (n,v))
 |[],i,j=>⟨λ_=>rfl,λv h=>by cases h⟩
 |(a,x)::m,i,j=>by
  have J:Instr.sameNow .string (str k) (str a)=some (ofL k==ofL a):=rfl
  by_cases h:k=a
  ·subst h
   refine⟨λe=>?_,λv e=>?_⟩
   ·simp[tN]at e
   ·simp only[tN,gF,bF]at e
    subst e
    refine⟨j,?_⟩
    have o:Instr.sameNow .string (str k) (str k)=some true:=by rw[J,(MapKept.bytes_beq (ofL k) (ofL k)).2 rfl]
    simp only[oG,Instr.findNow,o]
  ·have I:(ofL k==ofL a)=false:=by
    cases U:(ofL k==ofL a)with
    |false=>rfl
    |true=>exact absurd (NC.1 ((MapKept.bytes_beq _ _).1 U)) h
   obtain⟨h1,h2⟩:=BN k m (i+1) (j+1);simp only[oG,Instr.findNow,J,I,tN,aE h];exact⟨h1,h2⟩
section
variable{P:Program}{T KT ET:TypeId}{w:World}
theorem Kn{r:Option Value}{K:Q0}(hT:P.underlying T=some (.map KT ET))(o:r=none\/∃k n,r=some (.int k n))
  (J:∀b w',b=w.heap.size->w'.heap.size=w.heap.size+1->LG w' b []->Ext w w'->K (.map (some b)) w'):dF P (Instr.makeMap T r) w K:=by
 have I:=J w.heap.size (w.alloc (.map #[] 0)) rfl (size_alloc _ _) (gN _ _ _ rfl) (Chg.alloc (Chg.refl _ _) _);have j:(Instr.makeMap T r).run P w=.ok (.map (some w.heap.size)) (w.alloc (.map #[] 0)):=by
  rcases o with rfl|⟨k,n,rfl⟩
  ·simp[Instr.makeMap,run_bind,run_pure,newObj,Sem.run]
  ·simp[Instr.makeMap,run_bind,run_pure,newObj,Sem.run,bJ hT,asInt,asIntOf]
 unfold dF;rw[j];exact I
theorem WH{b:Nat}{m:List (Str×Value)}{k:Str}{K:World->Prop}(hT:P.underlying T=some (.map KT ET))(o:P.underlying KT=some .string)(hb:LG w b m)(hn:tN m k=none)
  (J:∀w',w'.heap.size=w.heap.size->LG w' b (m++[(k,v)])->Chg (λq=>q=b) w w'->K w'):nY P (Instr.mapUpdate T (.map (some b)) (str k) v) w K:=by
 have hf:=(BN k m 0 0).1 hn;have j:(Instr.mapUpdate T (.map (some b)) (str k) v).run P w=.ok () {w with heap:=w.heap.setIfInBounds b (.map ((oG 0 m).toArray.push {key:=str k,val:=v,born:=m.length}) (m.length+1))}:=by
  simp only[Instr.mapUpdate,run_bind,bJ hT,MapKept.run_getObj_map hb,MapKept.run_checkKey o (show MapKept.IsKey .string (str k)from trivial),MapKept.run_findKey o hf,MapKept.run_setObj_map _ hb]
 unfold nY;rw[j];refine J _ (by simp) ?_ ⟨rfl,rfl,rfl,by simp,λq _ I=>?_⟩
 ·show(w.heap.setIfInBounds b _)[b]?=_;rw[(MapKept.heap_set hb).1,HD];simp
 ·exact(MapKept.heap_set hb).2 q I
theorem WI{b:Nat}{m:List (Str×Value)}{k:Str}{z:Value}{K:Value->Prop}(hT:P.underlying T=some (.map KT ET))(j:P.underlying KT=some .string)(o:CV P ET=some z)(hb:LG w b m)
  (h1:∀v,tN m k=some v->K (.tuple #[v,.bool true]))(h0:tN m k=none->K (.tuple #[z,.bool false])):nZ P (Instr.lookup T (.map (some b)) (str k) true) w K:=by
 cases hl:tN m k with
 |none=>
  refine⟨_,?_,h0 hl⟩;simp only[Instr.lookup,run_bind,bJ hT,MapKept.run_getObj_map hb,run_pure,MapKept.run_checkKey j (show MapKept.IsKey .string (str k)from trivial),MapKept.run_findKey j ((BN k m 0 0).1 hl),sM o,gF]
 |some v=>
  obtain⟨n,hf⟩:=(BN k m 0 0).2 v hl;refine⟨_,?_,h1 v hl⟩;simp only[Instr.lookup,run_bind,bJ hT,MapKept.run_getObj_map hb,run_pure,MapKept.run_checkKey j (show MapKept.IsKey .string (str k)from trivial),MapKept.run_findKey j hf,gF]
end
end
end Go.Eng
namespace Go.Proofs.YtghhmpppnmoeoaaGreatDoor
section
open Go Go.Eng Go.Num Go.RowKit
variable{w:World}{K:Q0}{cs:List Value}{G:Nat->Prop}{T:TypeId}{i:Nat}{n:Nat}{v:Value}{w':World}{P:Program}{c:UInt8}{S:Nat->Prop}
abbrev flat(k:Int)(b:Bool)(t:Str):List Value:=[i64 k,.bool b,str t,.slice none 0 0,.slice none 0 0]
theorem gP{k:Int}{b:Bool}{t:Str}(j:t.length<=9223372036854775807):cM G w (.mk k b t [] []) (flat k b t):=
 cM.mk (v:=.mk k b t [] []) (T1:=0) (T2:=0) (L:=[]) (SlAt.nil w 0) (by simp[JV.xs,cA]) (SlAt.nil w 0) ⟨by simp[JV.xs],by simp[JV.ks],by simpa[JV.t]using j,by simp[JV.ks]⟩ (λh=>absurd rfl h) (λh=>by simp[JV.ks]at h)
theorem Er{w0:World}{b:Nat}{ds:List Value}{v:JV}{K:Q0}(hb:w.heap[b]?=some (.cells ds.toArray VT (0,0)))(hd:ds.length=5)(hl:w0.heap.size<=b)(I:Ext w0 w)(h:cM (λq=>w0.heap.size<=q/\q≠b) w v cs)
  (J:∀w',Ext w0 w'->cM (yE w0.heap.size) w' v cs->K (.agg cs.toArray) w'):stW 5 (.pointer (some ⟨b,0,none⟩)) (.agg cs.toArray) w λw5=>ldW true 5 (.pointer (some ⟨b,0,none⟩)) w5 λr6=>K r6 w5:=
 iI hb h.rep.len hd h.rep.all_one λw' o=>by
  refine J w' (I.new o hl) ?_
  exact(cM.chg o (λq j _ e=>j.2 e) h).mono λq _ j=>j.1
theorem cM.at{w1:World}{b:Nat}{v:JV}(h:cM (yE n) w1 v cs)(hb:b<n)(hn:w.heap.size<=n):cM (λq=>w.heap.size<=q/\q≠b) w1 v cs:=
 h.mono λq _ j=>⟨cC hn j,by have:n<=q:=j;omega⟩
theorem cM.ext'{v:JV}(h:cM G w v cs)(j:Ext w w'):cM G w' v cs:=cM.chg j (λ_ _ _ e=>e) h
theorem eH.fld{sv:Value}{xs:List JV}{n:Int}{off:Nat}{x:JV}{K:Value->Prop}(h:eH w sv xs)(hn:n=(i:Nat))(hi:xs[i]?=some x)(j:off<5)(U:∀cs u,eX w x cs->cs[off]?=some u->K u):
  dP none 5 sv (.int .i64 n) λp=>aZ off p λq=>ldW false 1 q w K:=by
 subst hn;obtain⟨T,L,h1,h2⟩:=h.it;refine NH h1 h2 hi λb o c fr cs hb I J=>?_;rw[bT,dY,bW,cG,hb,cJ,J off j];exact⟨cs[off]'(by rw[I.len];exact j),List.getElem?_eq_getElem _,U cs _ I (List.getElem?_eq_getElem _)⟩
theorem eH.fk{sv:Value}{xs:List JV}{n:Int}{x:JV}{K:Value->Prop}(h:eH w sv xs)(hn:n=(i:Nat))(hi:xs[i]?=some x)(I:K (i64 x.k)):dP none 5 sv (.int .i64 n) λp=>aZ 0 p λq=>ldW false 1 q w K:=
 h.fld hn hi (by omega) λcs u o j=>by obtain⟨sv,kv,T1,T2,L,rfl,_⟩:=o.out;cases j;exact I
theorem eH.ft{sv:Value}{xs:List JV}{n:Int}{x:JV}{K:Value->Prop}(h:eH w sv xs)(hn:n=(i:Nat))(hi:xs[i]?=some x)(I:x.t.length<=9223372036854775807->K (str x.t)):dP none 5 sv (.int .i64 n) λp=>aZ 2 p λq=>ldW false 1 q w K:=
 h.fld hn hi (by omega) λcs u o j=>by obtain⟨sv,kv,T1,T2,L,rfl,_,_,_,hf⟩:=o.out;cases j;exact I hf.2.2.1
theorem eH.fx{sv:Value}{xs:List JV}{n:Int}{x:JV}{K:Value->Prop}(h:eH w sv xs)(hn:n=(i:Nat))(hi:xs[i]?=some x)(I:∀u,eH w u x.xs->K u):dP none 5 sv (.int .i64 n) λp=>aZ 3 p λq=>ldW false 1 q w K:=
 h.fld hn hi (by omega) λcs u o j=>by obtain⟨sv,kv,T1,T2,L,rfl,h1,J,_,hf⟩:=o.out;cases j;exact I _ ⟨⟨T1,L,h1,J⟩,hf.1⟩
section
variable [HX]
theorem eH.at'{sv:Value}{xs:List JV}{n:Int}{x:JV}{K:Value->Prop}(h:eH w sv xs)(hn:n=(i:Nat))(hi:xs[i]?=some x)(j:∀cs,eX w x cs->K (.agg cs.toArray)):dP none 5 sv (.int .i64 n) λp=>ldW true 5 p w K:=by
 subst hn;exact h.at hi j
end
abbrev DoK(r:Option JV)(w:World)(K:Q0):Prop:=∀cs v ok w',Ext w w'->cM (yE w.heap.size) w' v cs->r=(if ok then some v else none)->K (.tuple #[.agg cs.toArray,.bool ok]) w'
theorem Xo{w0:World}{b:Nat}{ds:List Value}{K:Q0}{r:Option JV}(I:r=none)(hb:w.heap[b]?=some (.cells ds.toArray VT (0,0)))(hd:ds.length=5)(hl:w0.heap.size<=b)(o:Ext w0 w)(J:DoK r w0 K):
  dJ [(.int .i64 0),(.bool false),(.string (ofL [])),(.slice none 0 0),(.slice none 0 0)] [] λc7=>stW 5 (.pointer (some ⟨b,0,none⟩)) (.agg c7.toArray) w λw8=>ldW true 5 (.pointer (some ⟨b,0,none⟩)) w8 λr9=>K (.tuple #[r9,(.bool false)]) w8:=by
 rw[cW];exact Er (K:=λr w=>K (.tuple #[r,.bool false]) w) hb hd hl o (gP (k:=0) (b:=false) (t:=[]) (by simp)) λw' j U=>J _ _ false w' j U I
theorem SU{w0:World}{b:Nat}{ds:List Value}{K:Q0}{r:Option JV}(I:r=none)(hb:w.heap[b]?=some (.cells ds.toArray VT (0,0)))(hd:ds.length=5)(hl:w0.heap.size<=b)(o:Ext w0 w)(J:DoK r w0 K):
  stW 5 (.pointer (some ⟨b,0,none⟩)) (.agg (flat 0 false []).toArray) w λw8=>ldW true 5 (.pointer (some ⟨b,0,none⟩)) w8 λr9=>K (.tuple #[r9,(.bool false)]) w8:=
 Er (K:=λr w=>K (.tuple #[r,.bool false]) w) hb hd hl o (gP (k:=0) (b:=false) (t:=[]) (by simp)) λw' j U=>J _ _ false w' j U I
theorem BP{w0:World}{b:Nat}{ds:List Value}{v:JV}{K:Q0}{r:Option JV}(I:r=some v)(hb:w.heap[b]?=some (.cells ds.toArray VT (0,0)))(hd:ds.length=5)(hl:w0.heap.size<=b)(o:Ext w0 w)(h:cM (λq=>w0.heap.size<=q/\q≠b) w v cs)(J:DoK r w0 K):
  stW 5 (.pointer (some ⟨b,0,none⟩)) (.agg cs.toArray) w λw8=>ldW true 5 (.pointer (some ⟨b,0,none⟩)) w8 λr9=>K (.tuple #[r9,(.bool true)]) w8:=
 Er (K:=λr w=>K (.tuple #[r,.bool true]) w) hb hd hl o h λw' j U=>J _ _ true w' j U I
section
variable [HX]
theorem IP{s:Str}{K:Q0}(J:∀w',Ext w w'->K (.agg (flat 4 false s).toArray) w'):aC P0 87 [str s] w K:=by
 refine aCm ?_;unfold W87;refine bI λb w1 hb U j o=>?_;simp only[wsv,wsg,wsh,wsl,aM,aK,aD,fB,Nat.reduceAdd,Nat.reduceLT,aF,aA,aI,aH,bP,reduceCtorEq];exact iI j rfl rfl rfl λw' I=>J w' (o.new I (by omega))
theorem pY{s:Bool}{K:Q0}(J:∀w',Ext w w'->K (.agg (flat 2 s []).toArray) w'):aC P0 86 [.bool s] w K:=by
 refine aCn ?_;unfold W86;refine bI λb w1 hb U j o=>?_;simp only[wsv,wsg,wsh,wsl,aM,aK,aD,fB,Nat.reduceAdd,Nat.reduceLT,aF,aA,aI,aH,bP,reduceCtorEq];exact iI j rfl rfl rfl λw' I=>J w' (o.new I (by omega))
theorem sO{K:Q0}(J:∀w',Ext w w'->K (.agg (flat 1 false []).toArray) w'):aC P0 97 [] w K:=by
 refine aCd ?_;unfold W97;refine bI λb w1 hb U j o=>?_;simp only[wsv,wsg,wsh,wsl,aM,aK,aD,fB,Nat.reduceAdd,Nat.reduceLT,aF,aA,aI,aH,bP,reduceCtorEq];exact iI j rfl rfl rfl λw' I=>J w' (o.new I (by omega))
theorem Ap{b o:Nat}(j:Ext w w')(h:w.cell? ⟨b,o,none⟩=some v):w'.cell? ⟨b,o,none⟩=some v:=by
 rw[cG]at h⊢;cases hb:w.heap[b]? with
 |none=>rw[hb]at h;cases h
 |some x=>rw[hb]at h;rw[j.at hb id];exact h
theorem HB(w:World)(k:Nat)(os:Array Obj):Ext w (Sort.grow (w.drewN k) os):=
 ⟨rfl,rfl,rfl,by show w.heap.size<=(w.heap++os).size;simp,λj o _=>by show(w.heap++os)[j]?=_;rw[Array.getElem?_append_left o]⟩
theorem Jl{name:String}{c:Array Value}(I:Ext w w')(h:w.var? P name=some c):w'.var? P name=some c:=by
 unfold World.var? at h⊢;cases j:P.globalNamed name with
 |none=>rw[j]at h;cases h
 |some g=>
  rw[j]at h;simp only[Option.bind_some]at h⊢;cases hb:w.heap[g]? with
  |none=>rw[hb]at h;cases h
  |some o=>rw[I.at hb id];rw[hb]at h;exact h
structure uE(w:World):Prop where
 pow:Lib.TabIs P0 w "internal/strconv.uint64pow10" .u64 Lib.pow10Tab
 syn:∃T v,w.cell? ⟨3,0,none⟩=some (.iface T v)
 rng:∃T v,w.cell? ⟨4,0,none⟩=some (.iface T v)
 mx:∃m,w.cell? ⟨0,0,none⟩=some (.int .i64 m)
theorem uE.ext(h:uE w)(j:Ext w w'):uE w':=
 ⟨Jl j h.pow,let⟨T,v,e⟩:=h.syn;⟨T,v,Ap j e⟩,let⟨T,v,e⟩:=h.rng;⟨T,v,Ap j e⟩,let⟨m,e⟩:=h.mx;⟨m,Ap j e⟩⟩
theorem Le:∀(k u:Nat),u<10^k->(Lib.decDigits u).length<=k+1:=by
 intro k;induction k with
 |zero=>intro u h;rw[Lib.decDigits,dif_pos (by omega)];simp
 |succ k ih=>
  intro u h;rw[Lib.decDigits];split
  ·simp
  ·have:=ih (u/10) (by rw[oQ]at h;omega);rw[aU,Bb];omega
theorem Hh{n:Int}(h1:-9223372036854775808<=n)(j:n<=9223372036854775807):(Lib.itoa n).length<=30:=by
 unfold Lib.itoa;split
 ·have:=Le 19 n.natAbs (by omega);simp only[aB];omega
 ·have:=Le 19 n.toNat (by omega);omega
theorem aFI{n:Int}{K:Q0}(hT:uE w)(h0:-9223372036854775808<=n)(h1:n<=9223372036854775807)(j:∀w',Ext w w'->K (str (Lib.itoa n)) w'):aC P0 246 [i64 n] w K:=by
 refine XW ?_;unfold aEx;refine fX (args:=#[i64 n]) Tryz.call269 ((Tryz.strconv_Itoa n h0 h1 w hT.pow).mono ?_);rintro e w' ⟨rfl,k,os,rfl⟩;exact⟨_,rfl,j _ (HB w k os)⟩
theorem ZS{n:Int}{K:Q0}(hT:uE w)(h0:-9223372036854775808<=n)(h1:n<=9223372036854775807)(hK:∀w',Ext w w'->K (.agg (flat 3 false (Lib.itoa n)).toArray) w'):aC P0 215 [i64 n] w K:=by
 refine Yj ?_;unfold aEH;refine bI λb w1 hb hz I J=>?_;refine aFI (hT.ext J) h0 h1 λw2 j=>?_;have o:=j.at I id;simp only[wsv,wsg,wsh,wsl,aM,aK,aD,fB,Nat.reduceAdd,Nat.reduceLT,aF,aA,aI,aH,bP,reduceCtorEq];exact iI o rfl rfl rfl λw' U=>hK w' ((J.trans j).new U (by omega))
end
end
section
open Go Go.Eng Go.RowKit
variable{w:World}{K:Q0}{cs:List Value}{G:Nat->Prop}{T:TypeId}{i:Nat}{n:Nat}{v:Value}{w':World}{P:Program}{c:UInt8}{S:Nat->Prop}
section
variable [HX]
theorem OZ{l:Str}{K:Q0}(o:K (.pointer (some ⟨w.heap.size,0,none⟩)) (w.alloc (.stringIter (ofL l) 0))):dF P0 (Instr.range 9 (str l)) w K:=by
 have hT:Tryz.prog.underlying 9=some .string:=by kernel_rfl
 have j:(Instr.range 9 (str l)).run P0 w=.ok (.pointer (some ⟨w.heap.size,0,none⟩)) (w.alloc (.stringIter (ofL l) 0)):=by
  simp[Instr.range,run_bind,bJ hT,run_pure,newObj,Sem.run]
 unfold dF;rw[j];exact o
theorem Jw{r:Nat}{o:Obj}(h:r<w.heap.size):Chg (· =r) w {w with heap:=w.heap.setIfInBounds r o}:=
 ⟨rfl,rfl,rfl,by simp,λk _ j=>by
  show(w.heap.setIfInBounds r o)[k]?=_
  rw[Array.getElem?_setIfInBounds_ne (by omega)]⟩
theorem RH{r pos:Nat}{l:Str}{K:Q0}(I:w.heap[r]?=some (.stringIter (ofL l) pos))
  (h0:l.length<=pos->K (.tuple #[.bool false]) w)
  (h1:pos<l.length->∀w',w'.heap[r]?=some (.stringIter (ofL l) (pos+(Utf8.decode (ofL l) pos).2))->Chg (· =r) w w'->w'.heap.size=w.heap.size->K (.tuple #[.bool true,i64 pos,.int .i32 (Utf8.decode (ofL l) pos).1]) w'):
  dF P0 (Instr.next (.pointer (some ⟨r,0,none⟩)) true T) w K:=by
 have J:(getObj r).run P0 w=.ok (.stringIter (ofL l) pos) w:=by simp[getObj,Sem.run,I]
 have o:r<w.heap.size:=(Array.getElem?_eq_some_iff.1 I).1;unfold dF;simp only[Instr.next,run_bind,J,fT];by_cases hp:pos<l.length
 ·have j:(setObj r (.stringIter (ofL l) (pos+(Utf8.decode (ofL l) pos).2))).run P0 w=.ok () {w with heap:=w.heap.setIfInBounds r (.stringIter (ofL l) (pos+(Utf8.decode (ofL l) pos).2))}:=by simp[setObj,Sem.run,I]
  rw[aJ hp];simp only[run_bind,j,run_pure];exact h1 hp _ (by simp[o]) (Jw o) (by simp)
 ·rw[aE hp];simp only[run_pure];exact h0 (by omega)
end
end
section
open Go Go.Eng Go.Num Go.RowKit
variable{w:World}{K:Q0}{cs:List Value}{G:Nat->Prop}{T:TypeId}{i:Nat}{n:Nat}{v:Value}{w':World}{P:Program}{c:UInt8}{S:Nat->Prop}
theorem JW(s:Str):∀n i,yS s n i=oJ s n i
 |0,_=>rfl
 |n+1,i=>by simp only[yS,oJ,JW s n]
theorem NA{B B':Nat}{e:TypeId}{size:Nat}{xs:List Value}(h:Own w B e size v n xs)(hB:B'<=B):Own w B' e size v n xs:=by
 obtain⟨hl,h|⟨g,cap,cur,h1,o,j⟩⟩:=h
 ·exact⟨hl,.inl h⟩
 ·exact⟨hl,.inr ⟨g,cap,cur,h1,cC hB o,j⟩⟩
section
variable [HX]
theorem Nt{s:Str}{K:Q0}(hl:s.length<=100000)(hK:∀v w',Ext w w'->Own w' w.heap.size ST 1 v (oM s).length ((oM s).map str)->K v w'):aC P0 216 [str s] w K:=by
 have hR:oM s=oJ s s.length 0:=JW s _ _;rw[hR]at hK;refine Yi ?_;unfold aEG;refine OZ ?_;refine⟨λs' w4=>∃(p n f:Nat) (v:Value) (l:List Str),p<=s.length/\s.length<=f+n/\((p=0/\f=0)\/(f<s.length/\p=f+lF s f))/\s'=[v,i64 (f:Nat)]/\l.length<=f/\l++oJ s n f=oJ s s.length 0/\Ext w w4/\Own w4 (w.heap.size+1) ST 1 v l.length (l.map str)/\w4.heap[w.heap.size]?=some (.stringIter (ofL s) p),
  λ_ w4=>match w4.heap[w.heap.size]? with|some (.stringIter _ p)=>s.length-p|_=>0,⟨0,s.length,0,.slice none 0 0,[],fR _,by omega,.inl ⟨rfl,rfl⟩,rfl,aV _,rfl,Chg.alloc (Chg.refl _ _) _,⟨by simp,.inl ⟨rfl,rfl⟩⟩,gN _ _ _ rfl⟩,?_⟩
 rintro s' g w4 ⟨p,n,f,v,l,hp,hn,hg,rfl,xi,he,hx,hO,hi⟩;simp only[aG,cS];have xn:w.heap.size<w4.heap.size:=fA hi;have hv:∀k,v.ownBlock=some k->k≠w.heap.size:=λk hk e=>by have:=(nU hO hk).1;omega
 refine RH hi (λhh=>?_) (λI w5 o hz xm=>?_)
 ·rw[bL];refine⟨.bool false,rfl,?_⟩;rw[cP,vG];by_cases hs:s=[]
  ·subst hs;rw[cH (by simp),cP];have h0:oJ [] n f=[]:=GR (by simp);have xv:oJ ([]:Str) ([]:Str).length 0=[]:=rfl;rw[h0,eG]at he;rw[<-he]at hK;refine hK _ w4 hx ?_;exact NA hO (by omega)
  ·rw[bH hs,dS];have xo:0<s.length:=dQ.2 hs;obtain⟨hf,rfl⟩:f<s.length/\p=f+lF s f:=by
    rcases hg with⟨h1,h2⟩|h
    ·omega
    ·exact h
   have xl:=Cc hf;rw[gB,fM,eR];refine⟨by omega,by omega,?_⟩;rw[aW,bR];refine JK λt w7 ht j=>?_;refine jY Cz (hO.ext j) ht (m:=1) rfl (λu hu=>by simp only[bK]at hu;subst hu;rfl) (by omega) (by omega) (by have:=j.size;omega) λv' w8 h8 J _=>?_;have xd:Ext w w8:=(hx.trans j).then J λk hk e=>by have:=(nU hO e).1;omega
   cases n with
   |zero=>omega
   |succ n=>
    rw[oJ,aJ hf,GR (show s.length<=f+lF s f by omega)]at he;have et:(s.drop f).take (lF s f)=s.drop f:=dW (by rw[aP];omega);rw[et]at he;rw[<-he]at hK;refine hK _ w8 xd ?_;have:=NA (B':=w.heap.size) h8 (by omega);simpa using this
 ·rw[bL];refine⟨.bool true,rfl,?_⟩;rw[dS,bL];refine⟨i64 p,rfl,?_⟩;have hstep:=Cc I;have xk:=Bm s p;rw[Lc I]at o;have hq:Ext w w5:=hx.then hz λk hk e=>by omega
  have xa:Own w5 (w.heap.size+1) ST 1 v l.length (l.map str):=jK hO hz λk hk e=>hv k hk e;have hy:∀(w6:World),w6.heap[w.heap.size]?=some (.stringIter (ofL s) (p+lF s p))->(match w6.heap[w.heap.size]? with|some (.stringIter _ p)=>s.length-p|_=>0)<(match w4.heap[w.heap.size]? with|some (.stringIter _ p)=>s.length-p|_=>0):=λw6 h6=>by
   rw[h6,hi];show s.length-(p+lF s p)<s.length-p;omega
  rw[mB,aO];refine⟨λxq=>?_,λxp=>?_⟩
  ·obtain⟨hf,hh⟩:f<s.length/\p=f+lF s f:=by
    rcases hg with⟨h1,h2⟩|h
    ·omega
    ·exact h
   have xr:=Bm s f;rw[gB,eR];refine⟨by omega,by omega,?_⟩;rw[eR];refine⟨by omega,by simp only[aW];omega,?_⟩;simp only[aW];have e2:(s.take p).drop f=(s.drop f).take (lF s f):=by rw[hh,Gq];congr 1;omega
   rw[e2];refine JK λt w7 ht j=>?_;refine jY Cz (xa.ext j) ht (m:=1) rfl (λu hu=>by simp only[bK]at hu;subst hu;rfl) (by omega) (by omega) (by have:=j.size;omega) λv' w8 h8 J _=>?_;have U:=J.at (j.at o id) (λe=>hv _ e rfl);cases n with
   |zero=>omega
   |succ n=>
    rw[oJ,aJ hf,<-hh]at he;refine⟨⟨p+lF s p,n,p,v',l++[(s.drop f).take (lF s f)],hstep,by omega,.inr ⟨I,rfl⟩,rfl,by simp;omega,by simpa using he,(hq.trans j).then J λk hk e=>?_,by simpa using h8,U⟩,hy _ U⟩;have:=(nU hO e).1;omega
  ·have xh:p=0:=by omega
   subst xh;obtain rfl:f=0:=by
    rcases hg with⟨_,h2⟩|⟨_,h2⟩
    ·exact h2
    ·have:=Bm s f;omega
   exact⟨⟨0+lF s 0,n,0,v,l,by omega,hn,.inr ⟨I,rfl⟩,rfl,xi,he,hq,xa,o⟩,hy _ o⟩
end
theorem GQ(s:Str):∀n i,(yS s n i).length<=n
 |0,_=>aV _
 |n+1,i=>by
  simp only[yS]
  split
  ·have:=GQ s n (i+lF s i)
   simp only[aB];omega
  ·simp
theorem GJ(s:Str):(oM s).length<=s.length:=GQ s _ _
section
variable [HX]
theorem Sa{x:JV}{sv:Value}{K:Q0}(hT:uE w)(h:eH w sv [x])(ht:x.t.length<=100000)(U:DoK (BF x) w K):aC P0 165 [sv] w K:=by
 refine YD ?_;unfold aE0;refine bI λb w1 hb hz I J=>?_;have h1:=h.ext J;refine h1.fk (i:=0) rfl rfl ?_;rw[bO,aO];refine⟨λk4=>?_,λk4=>?_⟩
 ·refine h1.ft (i:=0) rfl rfl λ_=>?_;refine Nt ht λv w2 o hO=>?_;rw[fL hO.sl];have hr:=GJ x.t;refine ZS (hT.ext (J.trans o)) (by omega) (by omega) λw3 j=>?_;refine BP ?_ ((o.trans j).at I id) rfl (by omega) (J.trans (o.trans j)) (gP (cC (Hh (by omega) (by omega)) (by decide))) U;unfold BF;rw[aJ k4]
 ·have hL:BF x=if x.k=5\/x.k=6 then some (iV x.xs.length)else none:=by unfold BF;rw[aE k4]
  rw[hL]at U;refine bU.cut (λst w'=>st=[.bool (decide (x.k=5\/x.k=6))]/\w'=w1) ?_ ?_
  ·rw[bO,aO];refine⟨λk5=>⟨by rw[bH k5,bH (Or.inl k5)],rfl⟩,λk5=>?_⟩;rw[bO];refine⟨?_,rfl⟩;by_cases k6:x.k=6
   ·rw[bH k6,bH (Or.inr k6)]
   ·rw[cH k6,cH (by rintro(e|e)<;>contradiction)]
  ·rintro st g w7 ⟨rfl,rfl⟩;simp only[aG];rw[aO];refine⟨λhk=>?_,λhk=>?_⟩
   ·rw[aJ hk]at U;refine h1.fx (i:=0) rfl rfl λu hu=>?_;rw[hu.len];have:=hu.few;refine ZS (hT.ext J) (by omega) (by omega) λw3 j=>?_;exact BP rfl (j.at I id) rfl (by omega) (J.trans j) (gP (cC (Hh (by omega) (by omega)) (by decide))) U
   ·rw[aE hk]at U;exact Xo rfl I rfl (by omega) J U
end
theorem IR:∀(d:Str) (acc:Nat),acc<=d.foldl (λn c=>n*10+Num.dval c) acc
 |[],acc=>aV _
 |c::d,acc=>cC (by omega) (IR d (acc*10+Num.dval c))
theorem Rl:∀(d:Str) (acc:Nat),d.all Num.isDig=true->acc<18446744073709551616->
  (Lib.parseUint10 acc d=.ok (d.foldl (λn c=>n*10+Num.dval c) acc)/\d.foldl (λn c=>n*10+Num.dval c) acc<18446744073709551616)\/(Lib.parseUint10 acc d=.range/\18446744073709551616<=d.foldl (λn c=>n*10+Num.dval c) acc)
 |[],acc,_,h=>.inl ⟨rfl,h⟩
 |c::d,acc,j,h=>by
  simp only[eV,aL]at j
  have o:=j.1
  simp only[Num.isDig,aL,bD]at o
  simp only[Lib.parseUint10,aJ o,List.foldl_cons]
  have hd:Num.dval c=c.toNat-48:=rfl
  split
  ·right
   refine⟨rfl,cC ?_ (IR d _)⟩
   omega
  ·split
   ·right
    refine⟨rfl,cC ?_ (IR d _)⟩
    omega
   ·rw[hd]
    exact Rl d _ j.2 (by omega)
theorem Fq{s:Str}(j:goodN s=true):(s=45::dig s/\neg s=true\/s=dig s/\neg s=false)/\dig s≠[]/\(dig s).all Num.isDig=true:=by
 obtain⟨g1,g2,g3,g4⟩:=jN j;refine⟨?_,λe=>by rw[e]at g1;simp at g1,g4⟩;cases s with
 |nil=>simp[dig]at g1
 |cons c r=>
  by_cases h:c=45
  ·subst h;left;simp[dig,neg]
  ·right;simp[dig,neg,h]
theorem HT{s:Str}(hg:goodN s=true):(Lib.atoiAll s=.ok (num s)/\-9223372036854775808<=num s/\num s<=9223372036854775807)\/(Lib.atoiAll s=.range/\(num s< -9223372036854775808\/9223372036854775807<num s)):=by
 obtain⟨hs,o,J⟩:=Fq hg;have hp:=Rl (dig s) 0 J (by decide);have hd:(dig s).foldl (λn c=>n*10+Num.dval c) 0=dec (dig s):=rfl;rw[hd]at hp;rcases hs with⟨e,hn⟩|⟨e,hn⟩
 ·have j:num s=-(dec (dig s):Int):=by unfold num;rw[hn];rfl
  rw[j];generalize dig s=d at*
  subst e;simp only[Lib.atoiAll,Lib.parseMag];simp only[show(45:UInt8).toNat=45 from rfl,or_true,gF,As,false_and,kL,dV,aE o];rcases hp with⟨h1,U⟩|⟨h1,U⟩
  ·simp only[h1];by_cases hb:9223372036854775808<dec d
   ·right;rw[aJ hb];exact⟨rfl,.inl (by omega)⟩
   ·left;rw[aE hb];exact⟨rfl,by omega,by omega⟩
  ·right;simp only[h1];exact⟨trivial,.inl (by omega)⟩
 ·have j:num s=(dec (dig s):Int):=by unfold num;rw[hn];rfl
  rw[j];cases I:dig s with
  |nil=>exact absurd I o
  |cons c r=>
   rw[I]at hp J e;have hc:=J;simp only[eV,aL,Num.isDig,bD]at hc;have n43:¬c.toNat=43:=by omega
   have n45:¬c.toNat=45:=by omega
   rw[e];simp only[Lib.atoiAll,Lib.parseMag,n43,n45,or_self,kL,not_false_eq_true,dV,false_and,aE (show¬(c::r=[])by simp)];rcases hp with⟨h1,U⟩|⟨h1,U⟩
   ·simp only[h1];by_cases hb:9223372036854775808<=dec (c::r)
    ·right;rw[aJ hb];exact⟨rfl,.inr (by omega)⟩
    ·left;rw[aE hb];exact⟨rfl,by omega,by omega⟩
   ·right;simp only[h1];exact⟨trivial,.inr (by omega)⟩
theorem Ob(K:Value->Prop)(w:World):eqQ P0 .neq 118 false true .nilIface .nilIface w K↔K (.bool false):=by
 have h:(do eqGuard .neq 118 (rX false) (rX true) .nilIface .nilIface;binOp .neq 118 .nilIface .nilIface:Sem Value).run P0 w=.ok (.bool false) w:=by kernel_rfl
 unfold eqQ nZ;rw[h];exact⟨λ⟨v,h1,j⟩=>by cases h1;exact j,λj=>⟨_,rfl,j⟩⟩
theorem IE(T:TypeId)(v:Value)(w:World)(K:Value->Prop):eqQ P0 .neq 118 false true (.iface T v) .nilIface w K↔K (.bool true):=by
 have h:(do eqGuard .neq 118 (rX false) (rX true) (.iface T v) .nilIface;binOp .neq 118 (.iface T v) .nilIface:Sem Value).run P0 w=.ok (.bool true) w:=by kernel_rfl
 unfold eqQ nZ;rw[h];exact⟨λ⟨v,h1,j⟩=>by cases h1;exact j,λj=>⟨_,rfl,j⟩⟩
def AT(s:Str):Option Int:=if goodN s=true/\-9223372036854775808<=num s/\num s<=9223372036854775807 then some (num s)else none
section
variable [HX]
theorem aB9{s:Str}{K:Q0}(hT:uE w)(hl:s.length<=1000000)
  (J:∀n e w',Ext w w'->((e=.nilIface/\Lib.atoiAll s=.ok n)\/(∃T v,e=.iface T v)/\∀n',Lib.atoiAll s≠.ok n')->K (.tuple #[i64 n,e]) w'):
  aC P0 157 [str s] w K:=by
 refine YG ?_;unfold aE2;refine fX (args:=#[str s]) Tryz.call212 ((Tryz.internal_strconv_Atoi_all (ofL s) (by rw[fT];omega) w).mono ?_);rintro e w1 ⟨rfl,hw⟩;rw[eM];have j:Ext w w1:=by
  rcases hw with rfl|⟨t,rfl⟩
  ·exact Chg.refl _ _
  ·exact CM _ _ _
 have o:=hT.ext j;refine⟨_,rfl,?_⟩;rcases U:Lib.atoiAll s with n|_|_
 ·simp only[Lib.intTuple,bL];refine⟨_,rfl,_,rfl,?_⟩;rw[Ob,cP];exact J n _ w1 j (.inl ⟨rfl,U⟩)
 ·simp only[Lib.intTuple,bL];refine⟨_,rfl,_,rfl,?_⟩;rw[IE,dS];obtain⟨T,v,I⟩:=o.syn;refine fX (args:=#[str [65,116,111,105],str s,i64 0,i64 0,.iface 236 (.int .i64 2)]) Tryz.call213 ((Tryz.strconv_toError_syntax (ofL [65,116,111,105]) (ofL s) 0 0 _ w1 (by rw[fT];omega) I (.inr ⟨T,v,rfl⟩)).mono ?_);rintro e w' ⟨N,rfl,_,_,hb⟩;exact⟨_,rfl,J 0 _ w' (j.trans (Chg.of_below hb)) (.inr ⟨⟨_,_,rfl⟩,λn' h=>by rw[U]at h;cases h⟩)⟩
 ·simp only[Lib.intTuple,bL];refine⟨_,rfl,_,rfl,?_⟩;rw[IE,dS];obtain⟨T,v,I⟩:=o.rng;refine fX (args:=#[str [65,116,111,105],str s,i64 0,i64 0,.iface 236 (.int .i64 1)]) Tryz.call213 ((Tryz.strconv_toError_range (ofL [65,116,111,105]) (ofL s) 0 0 _ w1 (by rw[fT];omega) I (.inr ⟨T,v,rfl⟩)).mono ?_);rintro e w' ⟨N,rfl,_,_,hb⟩;exact⟨_,rfl,J _ _ w' (j.trans (Chg.of_below hb)) (.inr ⟨⟨_,_,rfl⟩,λn' h=>by rw[U]at h;cases h⟩)⟩
theorem RD{s:Str}{K:Q0}(hT:uE w)(hl:s.length<=1000000)(o:∀w',Ext w w'->K (.tuple #[i64 ((AT s).getD 0),.bool (AT s).isSome]) w'):aC P0 123 [str s] w K:=by
 refine Zf ?_;unfold aFm;refine aB9 hT hl λn e w1 I he=>?_;simp only[bL];refine⟨_,rfl,_,rfl,?_⟩;rcases he with⟨rfl,hn⟩|⟨⟨T,v,rfl⟩,hn⟩
 ·rw[Ob];simp only[mI,iS];refine GdW.act (!goodN s) (λw'=>Ext w1 w') (λ_=>Chg.refl _ _) (λ_ J hJ=>?_) λg w4 U=>?_
  ·refine nD (by omega) λw3 hc=>?_;rw[eP];exact hJ w3 hc
  simp only[aG,tK,aM];have hx:=I.trans U;rw[bY];refine⟨λj=>?_,λj=>?_⟩
  ·have:AT s=none:=by unfold AT;rw[aE];rintro⟨h,_⟩;rw[h]at j;cases j
   rw[this]at o;exact o w4 hx
  ·have j:goodN s=true:=by simpa using j
   rcases HT j with⟨h1,h2,h3⟩|⟨h1,_⟩
   ·rw[h1]at hn;cases hn;have:AT s=some (num s):=by unfold AT;rw[aJ ⟨j,h2,h3⟩]
    rw[this]at o;exact o w4 hx
   ·rw[h1]at hn;cases hn
 ·rw[IE];simp only[mI,iW,AL];intro g;rw[lH,dS];have:AT s=none:=by
   unfold AT;rw[aE];rintro⟨j,h2,h3⟩;rcases HT j with⟨h1,_⟩|⟨_,h4⟩
   ·exact hn _ h1
   ·omega
  rw[this]at o;exact o w1 I
theorem Sf{l:List Str}{sep:Str}{K:Q0}(h:SlAt w T v l.length (l.map str))(hl:l.length<=1000000)(hs:(Lib.join l sep).length<=140737488355328)(hK:∀w',Ext w w'->K (str (Lib.join l sep)) w'):
  aC P0 40 [v,str sep] w K:=by
 obtain⟨p,cap,rfl,hc,hp,hcells⟩:=h;have hm:(l.map ofL).map (λx=>x.data.toList)=l:=by rw[List.map_map];exact(List.map_congr_left (λx _=>by simp[ofL])).trans (List.map_id l)
 by_cases I:l=[]
 ·subst I;refine fX (args:=#[.slice p 0 cap,str sep]) Tryz.call40 ((Tryz.strings_Join_none p cap (ofL sep) w).mono ?_);rintro e w' ⟨rfl,rfl⟩;exact⟨_,rfl,hK _ (Chg.refl _ _)⟩
 ·obtain⟨b,off,c,fr,rfl,hb,J⟩:=hcells (by simpa using I);have o:(l.map ofL).length=l.length:=cD _;refine fX (args:=#[.slice (some ⟨b,off,none⟩) l.length cap,str sep]) Tryz.call40 ?_;have:=Tryz.strings_Join b off cap (l.map ofL) (ofL sep) w (λj x hx=>?_) (fA hb) (by rw[o];omega) (by rw[o];exact hc) (by rw[hm,eM];exact hs)
  ·rw[o,hm,eM]at this;refine this.mono ?_;rintro e w' ⟨rfl,U⟩;exact⟨_,rfl,hK _ (Chg.of_below U)⟩
  ·rw[List.getElem?_map,Au]at hx;obtain⟨y,hy,rfl⟩:=hx;have hj:=(List.getElem?_eq_some_iff.1 hy).1;rw[cG,hb,cJ,J j (by simpa using hj),List.getElem?_map,hy];rfl
theorem Hz(sep:Str):∀(l:List Str) (B:Nat),(∀x∈l,x.length<=B)->(Lib.join l sep).length<=l.length*(B+sep.length)
 |[],B,_=>by simp[Lib.join]
 |[x],B,h=>by have:=h x (by simp);simp[Lib.join,List.intercalate];omega
 |x::y::r,B,h=>by
  have ih:=Hz sep (y::r) B λz j=>h z (aR _ j)
  have h1:=h x (by simp)
  have e:Lib.join (x::y::r) sep=x++(sep++Lib.join (y::r) sep):=by simp[Lib.join,List.intercalate]
  rw[e,aU,aU]
  simp only[aB]at ih⊢
  rw[fG (r.length+1) 1]
  omega
end
theorem Fs{s:Str}(h:goodN s=true):s.length<=101:=by
 obtain⟨_,g2,_,_⟩:=jN h;obtain⟨j,_⟩:=Fq h;rcases j with⟨e,_⟩|⟨e,_⟩
 ·rw[e,aB];omega
 ·rw[e];omega
theorem MI{v:JV}(h:kA v=true):v.t.length<=16384:=by
 rw[jJ,aL]at h;obtain⟨_,_,_,J,_,_,I,o,_⟩:=kB h.1;by_cases j:v.t=[]
 ·rw[j];simp
 ·rcases J j with k|k
  ·have:=Fs (I k);omega
  ·exact o k
theorem QM{g off:Nat}{l:List Value}{c:Array Value}{K:World->Prop}(hb:w.heap[g]?=some (.cells c T (0,0)))(hl:l.length=n)(h1:l.all fC=true)(ho:off+n<=c.size)
  (hK:∀w' c',w'.heap[g]?=some (.cells c' T (0,0))->c'.size=c.size->(∀j,j<n->c'[off+j]?=l[j]?)->(∀q,q<off\/off+n<=q->c'[q]?=c[q]?)->Chg (λk=>k=g) w w'->w'.heap.size=w.heap.size->K w'):
  stW n (.pointer (some ⟨g,off,none⟩)) (.agg l.toArray) w K:=by
 rw[QN];refine⟨hl,?_⟩;have key:∀(r:List Value) (i:Nat) (w1:World) (c1:Array Value),i+r.length=n->r.all fC=true->w1.heap[g]?=some (.cells c1 T (0,0))->c1.size=c.size->Chg (λk=>k=g) w w1->w1.heap.size=w.heap.size->
   (∀w' c',w'.heap[g]?=some (.cells c' T (0,0))->c'.size=c.size->(∀j,j<r.length->c'[off+i+j]?=r[j]?)->(∀q,q<off+i\/off+n<=q->c'[q]?=c1[q]?)->Chg (λk=>k=g) w w'->w'.heap.size=w.heap.size->K w')->sE ⟨g,off,none⟩ r i w1 K:=by
  intro r;induction r with
  |nil=>
   intro i w1 c1 hi _ o J U I hc;exact hc w1 c1 o J (λj hj=>by simp at hj) (λq _=>rfl) U I
  |cons v r ih=>
   intro i w1 c1 hi h1 o J U I hc;simp only[eV,aL]at h1;simp only[aB]at hi;simp only[sE,bW];refine⟨h1.1,by rw[cG,o,cJ];simp;omega,by rw[mM,o,pX],?_⟩;refine ih (i+1) _ (c1.setIfInBounds (off+i) v) (by omega) h1.2 (by rw[oF,o,zT]) (by simp[J]) (U.set (.inl rfl) v) (by simp[I]) λw' c' hv hr hs hg ht hk=>?_;refine hc w' c' hv hr (λj hj=>?_) (λq hq=>?_) ht hk
   ·cases j with
    |zero=>
     rw[eU,hg (off+i) (.inl (by omega)),List.getElem?_cons_zero,Array.getElem?_setIfInBounds_self_of_lt (by omega)]
    |succ j=>
     have:=hs j (by simpa using hj);rw[List.getElem?_cons_succ,<-this];congr 1;omega
   ·rw[hg q (by omega),Array.getElem?_setIfInBounds_ne (by omega)]
 exact key l 0 w c (by omega) h1 hb rfl (Chg.refl _ _) rfl λw' c' h2 h3 h4 h5 h6 h7=>hK w' c' h2 h3 (λj hj=>by have:=h4 j (by omega);rwa[eU]at this) (λq hq=>h5 q (by omega)) h6 h7
theorem cA.of_get{G:Nat->Prop}{w:World}:∀{xs:List JV} {L:List Value},L.length=xs.length*5->(∀i x,xs[i]?=some x->∃cs,cM G w x cs/\∀j,j<5->L[i*5+j]?=cs[j]?)->cA G w xs L
 |[],L,hl,_=>by simp only[cA];exact bC (by simpa using hl)
 |x::xs,L,hl,h=>by
  obtain⟨cs,h1,h2⟩:=h 0 x rfl
  have hc:=h1.rep.len
  simp only[aB]at hl
  simp only[cA]
  refine⟨cs,L.drop 5,?_,h1,cA.of_get (by rw[aP];omega) λi y I=>?_⟩
  ·have:L.take 5=cs:=by
    apply List.ext_getElem?;intro j;by_cases o:j<5
    ·rw[List.getElem?_take_of_lt o];have:=h2 j o;rwa[mZ,aX]at this
    ·rw[List.getElem?_eq_none (by rw[bS];omega),List.getElem?_eq_none (by omega)]
   rw[<-this,iH]
  ·obtain⟨ds,U,J⟩:=h (i+1) y (by simpa using I);refine⟨ds,U,λj o=>?_⟩;rw[List.getElem?_drop,<-J j o];congr 1;omega
theorem cA.get5{G:Nat->Prop}{w:World}:∀{xs:List JV} {L:List Value} {i:Nat} {x:JV},cA G w xs L->xs[i]?=some x->∃cs,cM G w x cs/\∀j,j<5->L[i*5+j]?=cs[j]?
 |[],_,_,_,_,h=>by simp at h
 |y::xs,L,0,x,h,o=>by
  simp only[List.getElem?_cons_zero,bF]at o
  subst o
  simp only[cA]at h
  obtain⟨c,r,rfl,I,U⟩:=h
  refine⟨c,I,λj J=>?_⟩
  rw[mZ,aX,List.getElem?_append_left (by rw[I.rep.len];exact J)]
 |y::xs,L,i+1,x,h,o=>by
  simp only[List.getElem?_cons_succ]at o
  simp only[cA]at h
  obtain⟨c,r,rfl,I,U⟩:=h
  obtain⟨cs,h1,h2⟩:=cA.get5 U o
  refine⟨cs,h1,λj J=>?_⟩
  rw[List.getElem?_append_right (by rw[I.rep.len];omega),I.rep.len,<-h2 j J]
  congr 1;omega
section
variable [HX]
theorem aAy{l:List Str}{base:Nat}{K:Q0}(h:Own w base ST 1 v l.length (l.map str))(hl:l.length<4611686018427387904)
  (J:∀w',Chg (λk=>v.ownBlock=some k) w w'->Own w' base ST 1 v l.length (l.reverse.map str)->K (.tuple #[]) w'):aC P0 218 [v] w K:=by
 obtain⟨hn,⟨rfl,h0⟩|⟨g,cap,cur,rfl,hb,j,h1,h2,h3,h4⟩⟩:=h
 ·have:l=[]:=bC h0;subst this;refine fX (args:=#[.slice none 0 0]) Tryz.call218 ((Tryz.slices_Reverse_string_empty none 0 w).mono ?_);rintro e w' ⟨rfl,rfl⟩;exact⟨_,rfl,J _ (Chg.refl _ _) ⟨by simp,.inl ⟨rfl,rfl⟩⟩⟩
 ·refine fX (args:=#[.slice (some ⟨g,0,none⟩) l.length cap]) Tryz.call218 ((Tryz.slices_Reverse_string g 0 cap l w (holds_of_block j (by have:=h4;rw[Nat.mul_one]at this;exact this)) (by omega)).mono ?_);rintro e w' ⟨rfl,n,rfl⟩;have eg:∀w:World,Sort.grow w #[]=w:=λw=>by simp[Sort.grow]
  have I:=ownsRow_sorted (n:=n) (os:=#[]) (ts:=l.reverse) (by simp) hb j h1 h2 h3;have o:=Chg.of_grown (grownBy_sorted (w:=w) (g:=g) (n:=n) (os:=#[]) l.reverse.toArray) (S:=λk=>(Value.slice (some ⟨g,0,none⟩) l.length cap).ownBlock=some k) λk U=>U;rw[eg]at I o;exact⟨_,rfl,J _ o I⟩
end
theorem BI:∀(l:List Str),List.intercalate [] l=l.flatten
 |[]=>rfl
 |[x]=>by simp[List.intercalate]
 |x::y::r=>by
  have ih:=BI (y::r)
  simp only[List.intercalate]at ih⊢
  rw[List.intersperse_cons₂,iL,iL,ih]
  simp
theorem Ez(s:Str):∀(n i:Nat),∀z∈yS s n i,z.length<=s.length
 |0,i,z,h=>by cases h
 |n+1,i,z,h=>by
  simp only[yS]at h
  split at h
  ·rcases bM.1 h with rfl|h
   ·rw[bS,aP];omega
   ·exact Ez s n _ z h
  ·cases h
theorem Mf{s z:Str}(h:z∈oM s):z.length<=s.length:=Ez s _ _ z h
section
variable [HX]
end
end
end Go.Proofs.YtghhmpppnmoeoaaGreatDoor
namespace Go.Proofs
section
open Go.RowKit Go.Lib Go.Shelf
variable{w:World}{K:Q0}{cs:List Value}{G:Nat->Prop}{T:TypeId}{i:Nat}{n:Nat}{v:Value}{w':World}{P:Program}{c:UInt8}{S:Nat->Prop}
abbrev BdT:TypeId:=116
set_option maxHeartbeats 1000000 in
set_option maxRecDepth 100000 in
theorem Tryz.check_used(b:Nat)(w:World)(h0:w.cell? ⟨b,0,none⟩=some (.pointer (some ⟨b,0,none⟩))):
  Calls P0 102 #[.pointer (some ⟨b,0,none⟩)] w λe w'=>e=.returned (.tuple #[])/\w'=w:=by
 obtain⟨j,o,_⟩:=Au.1 (show(Tryz.prog.info? 116).map (·.size)=some 2 by kernel_rfl)
 go_enter Tryz.func102,Tryz.ntmps102
 go_wp2
 rw[Lib.run_neq_ptr_same w _ Tryz.underlying114 o]
 go_wp2
 go_end0
 exact⟨rfl,rfl⟩
set_option maxHeartbeats 1000000 in
set_option maxRecDepth 100000 in
theorem Tryz.check_fresh(b:Nat)(w:World)(h0:w.cell? ⟨b,0,none⟩=some (.pointer none))(o:w.shape? b=some (116,2))(U:w.frozen? ⟨b,0,none⟩=false):
  Calls P0 102 #[.pointer (some ⟨b,0,none⟩)] w λe w'=>e=.returned (.tuple #[])/\w'=w.setCell ⟨b,0,none⟩ (.pointer (some ⟨b,0,none⟩)):=by
 obtain⟨j,J,I⟩:=Au.1 (show(Tryz.prog.info? 116).map (·.size)=some 2 by kernel_rfl)
 go_enter Tryz.func102,Tryz.ntmps102
 go_wp2
 rw[Lib.run_to_unsafe w ⟨b,0,none⟩ Tryz.underlying114 Tryz.underlying172 J (by rw[I];decide) o (aA 1)];simp only[Result.andThen];rw[Oper.upon_value]
 go_wp2
 rw[run_callFunc_extern Tryz.func137 (by kernel_rfl) (by kernel_rfl) (by kernel_rfl) (e:=Extern.AbiNoEscape.same) (by kernel_rfl)];rw[Lib.run_noEscape];simp only[Result.andThen];rw[Oper.upon_value]
 go_wp2
 rw[Lib.run_from_unsafe w ⟨b,0,none⟩ Tryz.underlying172 Tryz.underlying114 J o (show liesAt P0 Tryz.prog.depth 116 (2/Tryz.prog.cellsOf 116) 0 116 1=true by kernel_rfl)];simp only[Result.andThen];rw[Oper.upon_value]
 go_wp2
 go_end0
 exact⟨rfl,rfl⟩
end
end Go.Proofs
namespace Go.Proofs.YtghhmpppnmoeoaaGreatDoor
section
open Go Go.Eng Go.RowKit
variable{w:World}{K:Q0}{cs:List Value}{G:Nat->Prop}{T:TypeId}{i:Nat}{n:Nat}{v:Value}{w':World}{P:Program}{c:UInt8}{S:Nat->Prop}
abbrev BdT:TypeId:=116
theorem BO:rI P0 89 U8 1 1:=⟨by kernel_rfl,by kernel_rfl,by decide⟩
def Bld(w:World)(B b:Nat)(l:Str):Prop:=
 ∃p v,w.heap[b]?=some (.cells [p,v].toArray BdT (0,0))/\(p=.pointer none\/p=.pointer (some ⟨b,0,none⟩))/\Own w B U8 1 v l.length (u8s l)/\B<=b
def BCh(w:World)(B b:Nat)(k:Nat):Prop:=k=b\/Qo w B U8 k
theorem Bld.chg{B b:Nat}{l:Str}(h:Bld w B b l)(j:Chg S w w')(hb:¬S b)(o:∀k,Qo w B U8 k->¬S k):Bld w' B b l:=by
 obtain⟨p,v,h1,U,J,I⟩:=h;exact⟨p,v,j.at h1 hb,U,J.chg j o,I⟩
theorem Bld.ext{B b:Nat}{l:Str}(h:Bld w B b l)(j:Ext w w'):Bld w' B b l:=h.chg j (λe=>e) λ_ _ e=>e
theorem Bld.lt{B b:Nat}{l:Str}(h:Bld w B b l):b<w.heap.size:=by
 obtain⟨p,v,h1,_⟩:=h;exact fA h1
theorem Bld.base{B b:Nat}{l:Str}(h:Bld w B b l):B<=b:=by obtain⟨p,v,_,_,_,j⟩:=h;exact j
theorem Lv{B b:Nat}{p:Value}(h1:w.heap[b]?=some (.cells [p,v].toArray BdT (0,0))):¬Qo w B U8 b:=by
 rintro⟨_,c,j⟩;rw[h1]at j;simp only[bF,Obj.cells.injEq]at j;exact absurd j.2.1 (by decide)
theorem BCh.trans{w1 w2:World}{B b:Nat}(h1:Chg (BCh w B b) w w1)(j:Chg (BCh w1 B b) w1 w2):Chg (BCh w B b) w w2:=by
 refine⟨j.os.trans h1.os,j.tape.trans h1.tape,j.output.trans h1.output,cC h1.size j.size,λk o hn=>?_⟩;have e1:=h1.heap k o hn;rw[<-e1];refine j.heap k (cR o h1.size) λe=>hn ?_;rcases e with e|⟨e2,c,e3⟩
 ·exact .inl e
 ·exact .inr ⟨e2,c,by rw[<-e1];exact e3⟩
theorem BCh.from{w1 w2:World}{B b:Nat}(h1:Ext w w1)(j:Chg (BCh w1 B b) w1 w2):Chg (BCh w B b) w w2:=BCh.trans (Chg.of_ext h1) j
theorem BCh.new{w0:World}{B b:Nat}(h0:Ext w0 w)(hB:w0.heap.size<=B)(hb:B<=b)(h:Chg (BCh w B b) w w'):Ext w0 w':=
 h0.then h λk j e=>by
  rcases e with rfl|⟨e,_⟩
  ·omega
  ·omega
theorem BCh.keep{B b k:Nat}{c:Array Value}{fr:Nat×Nat}(h:Chg (BCh w B b) w w')(j:w.heap[k]?=some (.cells c T fr))(hb:k≠b)(hT:T≠U8):w'.heap[k]?=some (.cells c T fr):=
 h.at j λe=>by
  rcases e with e|⟨_,c',e⟩
  ·exact hb e
  ·rw[j]at e
   simp only[bF,Obj.cells.injEq]at e
   exact hT e.2.1
theorem BCh.iter{B b k p:Nat}{s:ByteArray}(h:Chg (BCh w B b) w w')(j:w.heap[k]?=some (.stringIter s p))(hb:k≠b):w'.heap[k]?=some (.stringIter s p):=
 h.at j λe=>by
  rcases e with e|⟨_,c',e⟩
  ·exact hb e
  ·rw[j]at e;cases e
section
variable [HX]
theorem aB5{B:Nat}{K:Q0}(hB:B<=w.heap.size)(I:∀b w',b=w.heap.size->Bld w' B b []->Ext w w'->K (.pointer (some ⟨b,0,none⟩)) w'):bQ BdT [.pointer none,.slice none 0 0] w K:=
 bI λa w' o J hb j=>I a w' o ⟨_,_,hb,.inl rfl,⟨by simp[u8s],.inl ⟨rfl,rfl⟩⟩,by omega⟩ j
theorem IX{B b:Nat}{l:Str}{K:Q0}(h:Bld w B b l)
  (j:∀v w',w'.heap[b]?=some (.cells [.pointer (some ⟨b,0,none⟩),v].toArray BdT (0,0))->Own w' B U8 1 v l.length (u8s l)->w'.heap.size=w.heap.size->Chg (BCh w B b) w w'->K (.tuple #[]) w'):
  aC P0 102 [.pointer (some ⟨b,0,none⟩)] w K:=by
 obtain⟨p,v,h1,J,o,U⟩:=h;have c0:w.cell? ⟨b,0,none⟩=some p:=by rw[cG,h1];rfl
 rcases J with rfl|rfl
 ·refine fX (args:=#[.pointer (some ⟨b,0,none⟩)]) Tryz.call102 ((Tryz.check_fresh b w c0 (by simp[World.shape?,h1]) (by rw[mM,h1];rfl)).mono ?_);rintro e w' ⟨rfl,rfl⟩;refine⟨_,rfl,j v _ ?_ ?_ (pO _ _ _) (Chg.set (Chg.refl _ _) (.inl (.inl rfl)) _)⟩
  ·rw[oF,h1];rfl
  ·refine o.chg (Chg.set (S:=λk=>k=b) (Chg.refl _ _) (.inl rfl) _) λk I e=>?_;subst e;exact Lv h1 I
 ·refine fX (args:=#[.pointer (some ⟨b,0,none⟩)]) Tryz.call102 ((Tryz.check_used b w c0).mono ?_);rintro e w' ⟨rfl,rfl⟩;exact⟨_,rfl,j v _ h1 o rfl (Chg.refl _ _)⟩
theorem Ng{w3:World}{B b n:Nat}{l l':Str}{v':Value}{K:World->Prop}(h1:w.heap[b]?=some (.cells [.pointer (some ⟨b,0,none⟩),v].toArray BdT (0,0)))(hO:Own w B U8 1 v l.length (u8s l))(hb:B<=b)
  (hc:Chg (λk=>v.ownBlock=some k) w w3)(o:Own w3 B U8 1 v' l'.length (u8s l'))(hK:∀w',Bld w' B b l'->Chg (BCh w B b) w w'->w'.heap.size=w3.heap.size->K w'):
  stW 1 (.pointer (some ⟨b,1,none⟩)) v' w3 K:=by
 have J:¬v.ownBlock=some b:=λe=>Lv h1 (hO.block b e);have h3:=hc.at h1 J;have I:fC v'=true:=by obtain⟨p,c,rfl,_⟩:=o.sl.shape;rfl
 refine iO h3 I (by simp) λw4 hz U j=>?_;refine hK w4 ⟨.pointer (some ⟨b,0,none⟩),v',by rw[U];simp,.inr rfl,o.chg j λk hk e=>by subst e;exact Lv h3 hk,hb⟩ ?_ hz;have s1:Chg (BCh w B b) w w3:=hc.mono λk _ e=>.inr (hO.block k e);exact s1.then j λk _ e=>.inl e
theorem LL{B b:Nat}{l s:Str}{K:Q0}(h:Bld w B b l)(hB:B<=w.heap.size)(hl:l.length+s.length<=140737488355328)
  (hK:∀v w',Bld w' B b (l++s)->Chg (BCh w B b) w w'->K v w'):aC P0 66 [.pointer (some ⟨b,0,none⟩),str s] w K:=by
 have hb:=h.base;refine aCD ?_;unfold W66;refine IX h λv w1 h1 hO hz hc=>?_;rw[eD,bT,dY];refine⟨v,by rw[bW,cG,h1];rfl,?_⟩;obtain⟨i,z,hi,hj,h2,h3,h4⟩:=BO.get;have o:i.zero=some (.int .u8 0):=by
  have:(Tryz.prog.info? U8).map (·.zero)=some (some (.int .u8 0)):=by kernel_rfl
  rw[hi]at this;simpa using this
 obtain⟨v',w3,hr,j,hg,_⟩:=Lib.run_append_own_string (P:=P0) w1 B 89 9 89 U8 i BO.und (by kernel_rfl) hi o h2 h3 v l.length (u8s l) hO (ofL s) (by rw[fT];unfold maxLen;omega) (by rw[fT];omega) (by omega);unfold dF;rw[hr];dsimp only;rw[eD,bT];have U:Own w3 B U8 1 v' (l++s).length (u8s (l++s)):=by
  rw[DF,aU];have e1:Lib.strCells (ofL s)=u8s s:=by unfold Lib.strCells u8s;rw[eM]
  rw[fT,e1]at j;exact j
 refine Ng (n:=0) h1 hO hb (Chg.of_grown hg λk e=>e) U λw4 J I _=>?_;rw[gC];exact hK _ w4 J (BCh.trans hc I)
theorem Ip{K:Q0}(j:∀t w',SlAt w' U8 t 1 [.int .u8 (n:Int)]->Ext w w'->K t w'):dN U8 1 [(.int .u8 0)] [(0,1,.int .u8 (n:Int))] w K:=by
 rw[dN];simp only[dI,cW,aB,aN,aY];refine⟨by omega,?_⟩;refine j _ _ ⟨_,_,rfl,aV _,λe=>(by cases e),λ_=>⟨_,_,_,_,rfl,gN _ _ _ rfl,λi _=>by rw[aX];simp⟩⟩ (Chg.alloc (Chg.refl _ _) _)
theorem DC{B b:Nat}{l:Str}{K:Q0}(h:Bld w B b l)(hB:B<=w.heap.size)(hl:l.length+1<=140737488355328)(hn:n<256)
  (hK:∀w',Bld w' B b (l++[UInt8.ofNat n])->Chg (BCh w B b) w w'->K .nilIface w'):aC P0 62 [.pointer (some ⟨b,0,none⟩),.int .u8 (n:Int)] w K:=by
 have hb:=h.base;refine aCF ?_;unfold W62;refine IX h λv w1 h1 hO hz hc=>?_;rw[eD,bT,dY];refine⟨v,by rw[bW,cG,h1];rfl,?_⟩;refine Ip λt w2 ht j=>?_;refine jY BO (hO.ext j) ht (m:=1) rfl (λu hu=>by simp only[bK]at hu;subst hu;rfl) (by omega) (by omega) (by have:=j.size;omega) λv' w3 U I _=>?_;rw[eD,bT];have hg:Own w3 B U8 1 v' (l++[UInt8.ofNat n]).length (u8s (l++[UInt8.ofNat n])):=by
  rw[DF,aU];have e1:u8s [UInt8.ofNat n]=[.int .u8 (n:Int)]:=by
   simp only[u8s,dC,oS,jS];rw[kY (by omega)]
  rw[e1];exact U
 refine Ng (n:=0) (j.at h1 id) (hO.ext j) hb I hg λw4 J o _=>?_;exact hK w4 J (BCh.trans hc (BCh.from j o))
end
abbrev u8(n:Nat):Value:=.int .u8 (n:Int)
theorem aDS:∀x:Fin 32,IntKind.u8.wrap (BitVec.ofInt IntKind.u8.bits 192|||BitVec.ofInt IntKind.u8.bits ((x.val:Nat):Int)).toNat=((192+x.val:Nat):Int):=by decide+kernel
theorem aDR:∀x:Fin 16,IntKind.u8.wrap (BitVec.ofInt IntKind.u8.bits 224|||BitVec.ofInt IntKind.u8.bits ((x.val:Nat):Int)).toNat=((224+x.val:Nat):Int):=by decide+kernel
theorem aDQ:∀x:Fin 8,IntKind.u8.wrap (BitVec.ofInt IntKind.u8.bits 240|||BitVec.ofInt IntKind.u8.bits ((x.val:Nat):Int)).toNat=((240+x.val:Nat):Int):=by decide+kernel
theorem aDT:∀x:Fin 64,IntKind.u8.wrap (BitVec.ofInt IntKind.u8.bits 128|||BitVec.ofInt IntKind.u8.bits ((x.val:Nat):Int)).toNat=((128+x.val:Nat):Int):=by decide+kernel
theorem aEe:∀x:Fin 256,IntKind.u8.wrap (BitVec.ofInt IntKind.u8.bits ((x.val:Nat):Int)&&&BitVec.ofInt IntKind.u8.bits 63).toNat=((x.val%64:Nat):Int):=by decide+kernel
theorem zQ(n:Nat):IntKind.u8.wrap (n:Int)=((n%256:Nat):Int):=by
 simp only[IntKind.wrap,IntKind.bits,IntKind.signed,Ay];rw[show(2:Int)^8=256 by decide];simp
theorem Jm(h:n<4294967296):IntKind.u32.wrap (n:Int)=(n:Int):=by
 simp only[IntKind.wrap,IntKind.bits,IntKind.signed,Ay];rw[show(2:Int)^32=4294967296 by decide];simp only[fF,kL];omega
theorem GD(r k:Nat)(j:k<=32)(K:Value->Prop):aQ .shr (.int .i32 (r:Int)) (.int .u64 (k:Int)) K↔K (.int .i32 ((r/2^k:Nat):Int)):=by
 have e:(r:Int).fdiv (2^min (k:Int).toNat IntKind.i32.bits)=((r/2^k:Nat):Int):=by
  rw[aW,show min k IntKind.i32.bits=k from kP j,Int.fdiv_eq_ediv_of_nonneg _ (by exact Int.le_of_lt (Int.pow_pos (by decide)))];rw[Int.natCast_ediv,Int.natCast_pow];rfl
 simp only[aQ];rw[e];constructor
 ·exactλh=>h.2
 ·exactλh=>⟨by omega,h⟩
theorem Cb(x:Nat)(K:Value->Prop):(sK .u8 (.int .i32 (x:Int)) λt=>aQ .and t (.int .u8 63) λt=>aQ .or (.int .u8 128) t K)↔K (u8 (128+x%64)):=by
 rw[mW,zQ,XE,aEe ⟨x%256,by omega⟩,Jb,aDT ⟨x%256%64,by omega⟩];simp only;rw[show x%256%64=x%64 by omega]
theorem aFF{a b:Nat}{K:Q0}(j:∀t w',SlAt w' U8 t 2 [u8 a,u8 b]->Ext w w'->K t w'):dN U8 2 [(.int .u8 0),(.int .u8 0)] [(0,1,u8 a),(1,1,u8 b)] w K:=by
 rw[dN];simp only[dI,cW,aB,aN,aY,bB];refine⟨by omega,by omega,?_⟩;refine j _ _ ⟨_,_,rfl,aV _,λe=>(by cases e),λ_=>⟨_,_,_,_,rfl,gN _ _ _ rfl,λi _=>by rw[aX];simp⟩⟩ (Chg.alloc (Chg.refl _ _) _)
theorem aFE{a b c:Nat}{K:Q0}(j:∀t w',SlAt w' U8 t 3 [u8 a,u8 b,u8 c]->Ext w w'->K t w'):dN U8 3 [(.int .u8 0),(.int .u8 0),(.int .u8 0)] [(0,1,u8 a),(1,1,u8 b),(2,1,u8 c)] w K:=by
 rw[dN];simp only[dI,cW,aB,aN,aY,bB];refine⟨by omega,by omega,by omega,?_⟩;refine j _ _ ⟨_,_,rfl,aV _,λe=>(by cases e),λ_=>⟨_,_,_,_,rfl,gN _ _ _ rfl,λi _=>by rw[aX];simp⟩⟩ (Chg.alloc (Chg.refl _ _) _)
theorem aFD{a b c d:Nat}{K:Q0}(j:∀t w',SlAt w' U8 t 4 [u8 a,u8 b,u8 c,u8 d]->Ext w w'->K t w'):dN U8 4 [(.int .u8 0),(.int .u8 0),(.int .u8 0),(.int .u8 0)] [(0,1,u8 a),(1,1,u8 b),(2,1,u8 c),(3,1,u8 d)] w K:=by
 rw[dN];simp only[dI,cW,aB,aN,aY,bB];refine⟨by omega,by omega,by omega,by omega,?_⟩;refine j _ _ ⟨_,_,rfl,aV _,λe=>(by cases e),λ_=>⟨_,_,_,_,rfl,gN _ _ _ rfl,λi _=>by rw[aX];simp⟩⟩ (Chg.alloc (Chg.refl _ _) _)
theorem TW(l:List Nat)(h:∀x∈l,x<256):u8s (l.map b8)=l.map u8:=by
 unfold u8s;rw[List.map_map];apply List.map_congr_left;intro x j;have:=h x j;simp only[Function.comp,b8,jS,u8];rw[kY (by omega)]
section
variable [HX]
theorem XF{B r:Nat}{l:Str}{K:Q0}(hO:Own w B U8 1 v l.length (u8s l))(hB:B<=w.heap.size)(hl:l.length+4<=140737488355328)(hr:r<55296\/57343<r/\r<=1114111)
  (hK:∀v' w',Own w' B U8 1 v' (l++wrM r).length (u8s (l++wrM r))->(∀k,¬Qo w B U8 k->k<w.heap.size->w'.heap[k]?=w.heap[k]?)->Chg (λk=>v.ownBlock=some k) w w'->K v' w'):
  aC P0 103 [v,.int .i32 (r:Int)] w K:=by
 have fin:∀(bs:List Nat) (t:Value) (w1:World),wrM r=bs.map b8->(∀x∈bs,x<256)->bs.length<=4->SlAt w1 U8 t bs.length (bs.map u8)->Ext w w1->dF P0 (Builtin.append_ #[89,89] 89 #[v,t]) w1 K:=by
  intro bs t w1 he I ho o j;refine jY BO (hO.ext j) o (m:=bs.length) (by simp) (λu hu=>by simp only[dL]at hu;obtain⟨x,_,rfl⟩:=hu;rfl) (by omega) (by omega) (by have:=j.size;omega) λv' w3 hh hg _=>?_;have hc:Chg (λk=>v.ownBlock=some k) w w3:=(Chg.of_ext j).trans hg;refine hK v' w3 ?_ (λk hk I=>hc.heap k I λe=>hk (hO.block k e)) hc;rw[DF,he,TW bs I,aU,cD];exact hh
 refine Zs ?_;unfold aFy;rw[mW,Jm (by omega),vH,aO];refine⟨λh=>?_,λh=>?_⟩
 ·rw[mW,zQ,kY (by omega)];refine Ip λt w1 o j=>?_;refine fin [r] t w1 ?_ (λx j=>by simp only[bK]at j;omega) (by simp) o j;unfold wrM;rw[aJ (by omega)];rfl
 refine YQ ?_;unfold aE9;rw[mW,Jm (by omega),vH,aO];refine⟨λh2=>?_,λh2=>?_⟩
 ·rw[show(6:Int)=((6:Nat):Int)from rfl,GD r 6 (by omega),mW,zQ,show r/2^6%256=r/64 by omega,Jb,aDS ⟨r/64,by omega⟩,Cb];refine aFF λt w1 o j=>?_;refine fin [192+r/64,128+r%64] t w1 ?_ (λx j=>by simp only[bM,eA,mO]at j;omega) (by simp) o j;unfold wrM;rw[aE (by omega),aJ (by omega)];rfl
 refine bU.cut (λs' w'=>s'=[.bool (decide (r<=65535))]/\w'=w) ?_ ?_
 ·rw[dU,aO];refine⟨λU=>?_,λU=>?_⟩
  ·rw[bH U,bH (by omega)];exact⟨rfl,rfl⟩
  ·rw[dU,bH (show(57343:Int)<(r:Int)by omega)];refine GdW.look (decide (r<=65535)) (λ_ J hJ=>?_) λg=>?_
   ·rw[vH];rw[show decide ((r:Int)<=65535)=decide (r<=65535)by rw[decide_eq_decide];omega];exact hJ
   ·exact⟨rfl,rfl⟩
 rintro s' g w' ⟨rfl,rfl⟩;simp only[aG];rw[aO];refine⟨λU=>?_,λU=>?_⟩
 ·rw[show(12:Int)=((12:Nat):Int)from rfl,GD r 12 (by omega),mW,zQ,show r/2^12%256=r/4096 by omega,Jb,aDR ⟨r/4096,by omega⟩,show(6:Int)=((6:Nat):Int)from rfl,GD r 6 (by omega),Cb,Cb];refine aFE λt w1 o j=>?_;refine fin [224+r/4096,128+r/64%64,128+r%64] t w1 ?_ (λx j=>by simp only[bM,eA,mO]at j;omega) (by simp) o j;unfold wrM;rw[aE (by omega),aE (by omega),aJ (by omega)];rfl
 rw[mB,bH (show(65535:Int)<(r:Int)by omega)];refine GdW.look true (λ_ J hJ=>?_) λg=>?_
 ·rw[vH,bH (show(r:Int)<=1114111 by omega)];exact hJ
 show aS (.bool true) _ _;rw[dS];rw[show(18:Int)=((18:Nat):Int)from rfl,GD r 18 (by omega),mW,zQ,show r/2^18%256=r/262144 by omega,Jb,aDQ ⟨r/262144,by omega⟩,show(12:Int)=((12:Nat):Int)from rfl,GD r 12 (by omega),Cb,show(6:Int)=((6:Nat):Int)from rfl,GD r 6 (by omega),Cb,Cb];refine aFD λt w1 o j=>?_;refine fin [240+r/262144,128+r/4096%64,128+r/64%64,128+r%64] t w1 ?_ (λx j=>by simp only[bM,eA,mO]at j;omega) (by simp) o j;unfold wrM;rw[aE (by omega),aE (by omega),aE (by omega)];rfl
theorem TK{B b r:Nat}{l:Str}{K:Q0}(h:Bld w B b l)(hB:B<=w.heap.size)(hl:l.length+4<=140737488355328)(hr:r<55296\/57343<r/\r<=1114111)
  (hK:∀v w',Bld w' B b (l++wrM r)->Chg (BCh w B b) w w'->K v w'):aC P0 63 [.pointer (some ⟨b,0,none⟩),.int .i32 (r:Int)] w K:=by
 have hb:=h.base;refine aCE ?_;unfold W63;refine IX h λv w1 h1 hO hz hc=>?_;have hi:w1.cell? (⟨b,0,none⟩:Addr)|>.isSome:=by rw[cG,h1];rfl
 rw[eD,bT,dY];refine⟨v,by rw[bW,cG,h1];rfl,?_⟩;rw[fL hO.sl,eD,bT,dY];refine⟨v,by rw[bW,cG,h1];rfl,?_⟩;refine XF hO (by omega) hl hr λv' w2 U _ I=>?_;rw[eD,bT];refine Ng (n:=0) h1 hO hb I U λw4 j o _=>?_;obtain⟨p,v4,h4,_,J,_⟩:=id j;rw[eD,bT,dY];refine⟨v4,by rw[bW,cG,h4];rfl,?_⟩;rw[fL J.sl,kW];exact hK _ w4 j (BCh.trans hc o)
end
section
variable [HX]
theorem Fx(s:Str):(s.flatMap SO).length<=6*s.length:=by
 induction s with
 |nil=>simp
 |cons c s ih=>rw[tB,aU,aB];have:=Xm c;omega
end
section
variable [HX]
def FK(xs:List JV)(i:Nat):Nat:=match xs[i]? with|some x=>lO x|none=>0
def uB(xs:List JV):Nat->Nat
 |0=>0
 |n+1=>uB xs n+FK xs n
theorem CJ{xs:List JV}{x:JV}(h:xs[i]?=some x):FK xs i=lO x:=by unfold FK;rw[h]
theorem CI(x:JV)(xs:List JV):∀n,uB (x::xs) (n+1)=lO x+uB xs n
 |0=>by simp[uB,FK]
 |n+1=>by
  rw[uB,CI x xs n,uB]
  have:FK (x::xs) (n+1)=FK xs n:=by unfold FK;rw[List.getElem?_cons_succ]
  omega
theorem Oi:∀(xs:List JV) (n:Nat),n<=xs.length->uB xs n<=kV xs
 |xs,0,_=>fR _
 |[],n+1,h=>by simp at h
 |x::xs,n+1,h=>by
  have ih:=Oi xs n (by simpa using h)
  rw[CI]
  simp only[kV]
  omega
end
end
section
open Go Go.Eng Go.RowKit
variable{w:World}{K:Q0}{cs:List Value}{G:Nat->Prop}{T:TypeId}{i:Nat}{n:Nat}{v:Value}{w':World}{P:Program}{c:UInt8}{S:Nat->Prop}
def qI(v:JV)(m:Nat)(left:Int):Bool:=kC v m&&kA v&&decide ((lO v:Int)<=left)
theorem MD:iX []=true:=rfl
def flatK(k:Int)(t:Str):Bool:=if k=3 then Num.goodN t else if k=4 then decide (t.length<=16384)else decide (t=[])
def Fy(v:JV):Bool:=flatK v.k v.t
theorem ML{v:JV}{m:Nat}{left:Int}(hm:m≠0)(hl:1<=left)(hb:v.b=true->v.k=2)(h0:0<=v.k)(h5:v.k<5):qI v m left=(Fy v&&(decide (v.xs.length=0)&&decide (v.ks.length=0))):=by
 cases v with
 |mk k b t xs ks=>
 simp only[JV.k,JV.b]at hb h0 h5;unfold qI;show(kC (.mk k b t xs ks) m&&(lY k b t xs.length ks&&lG xs)&&decide ((lO (.mk k b t xs ks):Int)<=left))=(flatK k t&&(decide (xs.length=0)&&decide (ks.length=0)));unfold flatK;by_cases o:xs=[]
 ·subst o;cases m with
  |zero=>exact absurd rfl hm
  |succ m=>
   by_cases I:ks=[]
   ·subst I;have U:lO (.mk k b t [] [])=1:=rfl;rw[iA,U,bH (show((1:Nat):Int)<=left from hl)];simp only[JV.xs,AJ,lG,aN];rw[mK];simp only[lY,MD,iC,iB,aL,cQ,dZ,bD,decide_eq_false_iff_not];constructor
    ·rintro⟨⟨⟨⟨⟨⟨⟨⟨_,_⟩,_⟩,j⟩,_⟩,_⟩,h3⟩,h4⟩,_⟩;refine⟨?_,trivial,trivial⟩;split
     ·rename_i e;exact h3.resolve_left (λh=>h e)
     ·split
      ·rename_i e;exact bH (h4.resolve_left (λh=>h e))
      ·rcases j with(j|j)|j
       ·exact bH j
       ·contradiction
       ·contradiction
    ·rintro⟨hf,_⟩;refine⟨⟨⟨⟨⟨⟨⟨⟨h0,by omega⟩,?_⟩,?_⟩,.inl trivial⟩,.inr trivial⟩,?_⟩,?_⟩,?_⟩
     ·cases b with
      |false=>exact .inl rfl
      |true=>exact .inr (hb rfl)
     ·by_cases e3:k=3
      ·exact .inl (.inr e3)
      ·by_cases e4:k=4
       ·exact .inr e4
       ·rw[aE e3,aE e4,decide_eq_true_iff]at hf;exact .inl (.inl hf)
     ·by_cases e3:k=3
      ·rw[aJ e3]at hf;exact .inr hf
      ·exact .inl e3
     ·by_cases e4:k=4
      ·rw[aE (by omega),aJ e4,decide_eq_true_iff]at hf;exact .inr hf
      ·exact .inl e4
     ·exact .inl (by omega)
   ·have h1:lY k b t ([]:List JV).length ks=false:=by
     cases J:lY k b t ([]:List JV).length ks with
     |false=>rfl
     |true=>have:=(kB J).2.2.2.2.2.1 I;omega
    rw[h1,cH (show¬ks.length=0 fromλe=>I (bC e))];simp
 ·have h1:lY k b t xs.length ks=false:=by
   cases J:lY k b t xs.length ks with
   |false=>rfl
   |true=>have:=(kB J).2.2.2.2.1 (λe=>o (bC e));omega
  rw[h1,cH (show¬xs.length=0 fromλe=>o (bC e))];simp
def uZ(xs:List JV)(m:Nat)(left:Int):Bool:=AJ xs m&&lG xs&&decide ((kV xs:Int)<=left)
theorem MM{v:JV}{m:Nat}{left:Int}(hb:v.b=true->v.k=2)(o:v.k=5/\v.ks=[]\/v.k=6/\v.ks.length=v.xs.length/\iX v.ks=true):qI v (m+1) left=(decide (v.t=[])&&uZ v.xs m (left-1)):=by
 cases v with
 |mk k b t xs ks=>
 simp only[JV.k,JV.b,JV.ks,JV.xs]at hb o;unfold qI;have U:lO (.mk k b t xs ks)=1+kV xs:=by simp only[lO]
 rw[U];show(AJ xs m&&(lY k b t xs.length ks&&lG xs)&&decide (((1+kV xs:Nat):Int)<=left))=(decide (t=[])&&(AJ xs m&&lG xs&&decide ((kV xs:Int)<=left-1)));have I:b=false:=by
  cases b with
  |false=>rfl
  |true=>have:=hb rfl;omega
 subst I;have J:lY k false t xs.length ks=decide (t=[]):=by
  rw[mK];simp only[lY,aL,cQ,dZ,bD,decide_eq_false_iff_not,iS];constructor
  ·rintro⟨⟨⟨⟨⟨⟨⟨⟨⟨_,_⟩,_⟩,j⟩,_⟩,_⟩,_⟩,_⟩,_⟩,_⟩;rcases j with(j|j)|j
   ·exact j
   ·omega
   ·omega
  ·intro j;refine⟨⟨⟨⟨⟨⟨⟨⟨⟨by omega,by omega⟩,.inl trivial⟩,.inl (.inl j)⟩,.inr (by omega)⟩,?_⟩,.inl (by omega)⟩,.inl (by omega)⟩,?_⟩,?_⟩
   ·rcases o with⟨_,h⟩|⟨h,_⟩
    ·exact .inr h
    ·exact .inl h
   ·rcases o with⟨h,_⟩|⟨_,h,_⟩
    ·exact .inl (by omega)
    ·exact .inr h
   ·rcases o with⟨_,h⟩|⟨_,_,h⟩
    ·rw[h];rfl
    ·exact h
 rw[J];have e:decide (((1+kV xs:Nat):Int)<=left)=decide ((kV xs:Int)<=left-1):=by rw[decide_eq_decide];omega
 rw[e];generalize decide ((kV xs:Int)<=left-1)=d4;generalize decide (t=[])=d1;generalize AJ xs m=d2;generalize lG xs=d3;cases d1<;>cases d2<;>cases d3<;>cases d4<;>rfl
theorem KB{v:JV}{m:Nat}{left:Int}(h:m=0\/left<1\/(v.b=true/\v.k≠2)\/v.k<0\/6<v.k\/(v.k=5/\v.ks≠[])\/(v.k=6/\(v.ks.length≠v.xs.length\/iX v.ks=false))):qI v m left=false:=by
 cases I:qI v m left with
 |false=>rfl
 |true=>
  unfold qI at I;simp only[aL,bD]at I;obtain⟨⟨h1,J⟩,h3⟩:=I;rw[jJ,aL]at J;have o:=kB J.1;have U:=Oh v;rcases h with rfl|h|⟨h,j⟩|h|h|⟨h,j⟩|⟨h,j|j⟩
  ·rw[oO]at h1;cases h1
  ·omega
  ·exact absurd (o.2.2.1 h) j
  ·have:=o.1;omega
  ·have:=o.2.1;omega
  ·have:=o.2.2.2.2.2.1 j;omega
  ·exact absurd (o.2.2.2.2.2.2.2.2.1 h) j
  ·have:=o.2.2.2.2.2.2.2.2.2;rw[j]at this;cases this
theorem _root_.Go.Eng.SlAt.keep1{p:Nat}{x:Value}{T':TypeId}{fr:Nat×Nat}(h:SlAt w T v n cs)(hp:w.heap[p]?=some (.cells [x].toArray T' fr))(hc:Chg (λk=>k=p) w w')
  (J:cs≠[]->cs[0]?≠some x\/2<=cs.length):SlAt w' T v n cs:=by
 obtain⟨pp,cap,U,h1,h2,h3⟩:=h;refine⟨pp,cap,U,h1,h2,λhn=>?_⟩;obtain⟨b,off,c,fr',I,hb,o⟩:=h3 hn;refine⟨b,off,c,fr',I,hc.at hb ?_,o⟩;rintro rfl;rw[hp]at hb;simp only[bF,Obj.cells.injEq]at hb;obtain⟨rfl,_,_⟩:=hb;have j:0<cs.length:=dQ.2 hn;have e0:=o 0 j;rw[eU]at e0;rcases J hn with h|h
 ·have:off=0:=by
   apply eL;intro ho;rw[show([x].toArray)[off]?=none by simp;omega,List.getElem?_eq_getElem j]at e0;cases e0
  subst this;exact h (by rw[<-e0];rfl)
 ·have e1:=o 1 (by omega);rw[List.getElem?_eq_getElem (by omega),show([x].toArray)[off+1]?=none by simp]at e1;cases e1
mutual
theorem LM{w w':World}{p:Nat}{n:Int}{T':TypeId}{fr:Nat×Nat}(hp:w.heap[p]?=some (.cells [i64 n].toArray T' fr))(hc:Chg (λk=>k=p) w w'):∀{v:JV} {cs:List Value},eX w v cs->eX w' v cs
 |.mk k b t xs ks,cs,h=>by
  simp only[eX]at h⊢
  obtain⟨sv,kv,T1,T2,L,rfl,h1,h2,h3,h4⟩:=h
  refine⟨sv,kv,T1,T2,L,rfl,h1.keep1 hp hc λhn=>.inr ?_,uJ hp hc h2,h3.keep1 hp hc λhn=>.inl ?_,h4⟩
  ·have:=h2.len
   have hl:0<L.length:=dQ.2 hn
   omega
  ·cases ks with
   |nil=>exact absurd rfl hn
   |cons a r=>intro e;simp at e
theorem uJ{w w':World}{p:Nat}{n:Int}{T':TypeId}{fr:Nat×Nat}(hp:w.heap[p]?=some (.cells [i64 n].toArray T' fr))(hc:Chg (λk=>k=p) w w'):∀{xs:List JV} {L:List Value},eK w xs L->eK w' xs L
 |[],L,h=>by simp only[eK]at h⊢;exact h
 |x::xs,L,h=>by
  simp only[eK]at h⊢
  obtain⟨c,r,rfl,h1,h2⟩:=h
  exact⟨c,r,rfl,LM hp hc h1,uJ hp hc h2⟩
end
section
variable [HX]
theorem ME{xs:List JV}{m:Nat}{left:Int}{x:JV}(hi:xs[i]?=some x)(h:qI x m (left-uB xs i)=false):uZ xs m left=false:=by
 cases j:uZ xs m left with
 |false=>rfl
 |true=>
  unfold uZ at j;simp only[aL,bD]at j;obtain⟨⟨h1,I⟩,J⟩:=j;rw[jB,bN]at h1;rw[nC,bN]at I;have hm:=bG hi;have o:=Oi xs (i+1) (List.getElem?_eq_some_iff.1 hi).1;rw[uB,CJ hi]at o;unfold qI at h;rw[h1 x hm,I x hm,bH (by omega)]at h;cases h
theorem Te:∀(xs:List JV),kV xs=uB xs xs.length
 |[]=>rfl
 |x::xs=>by
  rw[aB,CI,<-Te xs]
  simp only[kV]
theorem Kv{xs:List JV}{m:Nat}{left:Int}(h:∀i x,xs[i]?=some x->qI x m (left-uB xs i)=true)(hl:(kV xs:Int)<=left):uZ xs m left=true:=by
 unfold uZ;rw[bH hl,jB,nC,bN.2,bN.2]
 ·rfl
 ·intro x j;obtain⟨i,hi,rfl⟩:=List.getElem_of_mem j;have:=h i _ (List.getElem?_eq_getElem hi);unfold qI at this;simp only[aL]at this;exact this.1.2
 ·intro x j;obtain⟨i,hi,rfl⟩:=List.getElem_of_mem j;have:=h i _ (List.getElem?_eq_getElem hi);unfold qI at this;simp only[aL]at this;exact this.1.1
theorem Qi{g:FuncId}{args caps:List Value}{K:Q0}(h:aC P g (args++caps) w K):pG P (.func (.func g) #[] caps.toArray) args w K:=by
 unfold pG QV;unfold aC at h;have:(do let d<-(Deferred.ofValue (.func (.func g) #[] caps.toArray) args.toArray);invoke d.target d.args:Sem Next)=callFunc g (args++caps).toArray:=by
  show callFunc g (#[]++args.toArray++caps.toArray)=_;simp
 rw[this];exact h
theorem EX{m:Nat}(hn:n<=9223372036854775807)(hm:m<=9223372036854775807):decide (IntKind.i64.wrap ((n:Int)+(m:Int))=0)=(decide (n=0)&&decide (m=0)):=by
 have e1:(2:Int)^64=18446744073709551616:=by decide
 have e2:(2:Int)^(64-1)=9223372036854775808:=by decide
 have:IntKind.i64.wrap ((n:Int)+(m:Int))=0↔n=0/\m=0:=by
  simp only[IntKind.wrap,IntKind.bits,IntKind.signed,iB,e1,e2];split
  ·rename_i h;simp only[ge_iff_le,bD]at h;omega
  ·rename_i h;omega
 rw[mK,decide_eq_true_iff,aL,decide_eq_true_iff,decide_eq_true_iff];exact this
theorem Om{K:Q0}(h1:fC v=true)(h:∀a w',a=w.heap.size->w'.heap.size=w.heap.size+1->w'.heap[a]?=some (.cells [v].toArray T (0,0))->Ext w w'->K (.pointer (some ⟨a,0,none⟩)) w'):eW T v w K:=by
 cases v<;>first|(simp[fC]at h1;done)|exact h _ _ rfl (by simp) (gN _ _ _ rfl) (Chg.alloc (Chg.refl _ _) _)
theorem aBS(v:JV):∀{m p:Nat} {left:Int} {w:World} {cs:List Value} {K:Q0},eX w v cs->w.heap[p]?=some (.cells [i64 left].toArray 3 (0,0))->m<=24->-1<=left->left<=2000->
  (∀r w',r=qI v m left->(r=true->w'.heap[p]?=some (.cells [i64 (left-lO v)].toArray 3 (0,0)))->Chg (λk=>k=p) w w'->K (.bool r) w')->aC P0 101 [.agg cs.toArray,i64 (m:Int),.pointer (some ⟨p,0,none⟩)] w K:=by
 induction v using JV.ind' with
 |h v ih=>
  intro m p left w cs K h hp hm zw zu hK;refine Zt ?_;unfold aFz;refine kJ h λa w1 sv kv hB xl ha=>?_;have zo:=fA hp;have za:=xl.at hp id;refine Om rfl λd w2 hd zs zi xf=>?_;refine Om rfl λq w3 hq zr xz xe=>?_;have hx:=xe.at (xf.at za id) id;have xd:=hB.ext (xf.trans xe);have zh:=xe.at zi id;have xu:=(xl.trans xf).trans xe;simp only[wsv,wsg,wsh,wsl,aM,aK,aD,fB,Nat.reduceAdd,Nat.reduceLT,aF,aA,aI,aH,bP,reduceCtorEq,wsh,xz,hx];have ew:IntKind.i64.wrap (left-1)=left-1:=cN (by omega) (by omega);refine iO (off:=0) hx rfl (by simp) λw4 zq xg U=>?_;have s1:=xl.size;have s2:=xf.size;have xy:=U.at xz (by omega);have yg:=U.at zh (by omega);have xb:=U.at xd.hb (by omega);rw[show([i64 left].toArray.setIfInBounds 0 (i64 (IntKind.i64.wrap (left-1))))=[i64 (left-1)].toArray by rw[ew];rfl]at xg;have xh:Chg (λk=>k=p) w w4:=(Chg.of_ext xu).trans U;obtain⟨Tk,yb⟩:=xd.keys;have xi:SlAt w4 Tk kv v.ks.length (v.ks.map str):=yb.keep1 hx U λhn=>.inl (by
   cases zd:v.ks with
   |nil=>rw[zd]at hn;exact absurd rfl hn
   |cons a r=>intro e;simp at e)
  obtain⟨Ti,L,yf,hreps⟩:=xd.items;have ye:SlAt w4 Ti sv v.xs.length L:=yf.keep1 hx U λhn=>.inr (by
   have:=hreps.len;have hl:0<L.length:=dQ.2 hn;omega)
  have hreps4:eK w4 v.xs L:=uJ hx U hreps;obtain⟨f1,f2,f3,f4⟩:=xd.fits;have lx:∀KK:Value->Prop,dA sv KK↔KK (i64 v.xs.length):=λKK=>fL yf KK;have lk:∀KK:Value->Prop,dA kv KK↔KK (i64 v.ks.length):=λKK=>xd.lenk KK;simp only[wsv,wsg,wsh,wsl,aM,aK,aD,fB,Nat.reduceAdd,Nat.reduceLT,aF,aA,aI,aH,bP,reduceCtorEq,wsh,xy,xg,yg,xb];intro g1 g2 g3 g4;rw[bY];refine⟨λhc=>hK false w4 ?_ (λe=>by cases e) xh,λo=>?_⟩
  ·rw[KB];simp only[cQ,aL,bD]at hc;rcases hc with(h|h)|⟨h,h'⟩
   ·exact .inl (by omega)
   ·exact .inr (.inl (by omega))
   ·exact .inr (.inr (.inl ⟨h,h'⟩))
  have zb:m≠0:=λe=>by rw[bH (show(m:Int)=0 by omega)]at o;cases o
  have zc:1<=left:=by
   rcases Int.lt_or_le (left-1) 0 with h|h
   ·rw[bH h]at o;simp at o
   ·omega
  have yi:v.b=true->v.k=2:=λe=>by
   rw[e]at o;simp only[lS,iB,decide_eq_false_iff_not,tC]at o;exact o.2
  have flat:∀w',Ext w4 w'->0<=v.k->v.k<5->K (.bool (Fy v&&(decide (v.xs.length=0)&&decide (v.ks.length=0)))) w':=λw' e h0 h5=>by
   refine hK _ w' (ML zb zc yi h0 h5).symm (λhr=>?_) (xh.then e λ_ _ e=>e.elim);simp only[aL,bD]at hr;have yq:v.xs=[]:=bC hr.2.1;have zj:lO v=1:=by
    rw[v.eta,yq];rfl
   rw[zj];exact e.at xg id
  have no:(v.k<0\/6<v.k\/(v.k=5/\v.ks≠[])\/(v.k=6/\(v.ks.length≠v.xs.length\/iX v.ks=false)))->K (.bool false) w4:=λh=>hK false w4 (KB (.inr (.inr (.inr h)))).symm (λe=>by cases e) xh;obtain⟨m',rfl⟩:∃m',m=m'+1:=⟨m-1,by omega⟩;refine bU.cut (λs' w'=>s'=[]/\w'=w4/\(v.k=5/\v.ks=[]\/v.k=6/\v.ks.length=v.xs.length/\iX v.ks=true)) ?_ ?_
  ·refine bU.cut (λs' w'=>s'=[.bool (decide (v.k=0\/v.k=1\/v.k=2))]/\w'=w4) ?_ ?_
   ·rw[aO];refine⟨λh=>?_,λh=>?_⟩
    ·rw[bH h,bH (.inl h)];exact⟨rfl,rfl⟩
    ·rw[aO];refine⟨λh1=>?_,λh1=>?_⟩
     ·rw[bH h1,bH (.inr (.inl h1))];exact⟨rfl,rfl⟩
     ·rw[show decide (v.k=2)=decide (v.k=0\/v.k=1\/v.k=2)by rw[decide_eq_decide];omega];exact⟨rfl,rfl⟩
   rintro s' g w5 ⟨rfl,rfl⟩;simp only[wsv,wsg,wsh,wsl,aM,aK,aD,fB,Nat.reduceAdd,Nat.reduceLT,aF,aA,aI,aH,bP,reduceCtorEq,wsh,xb,lx,lk,aO];refine⟨λym=>?_,λym=>?_⟩
   ·intro g5;have:=flat w5 (Chg.refl _ _) (by omega) (by omega);unfold Fy flatK at this;rw[aE (by omega),aE (by omega)]at this;rw[EX f1 f2];exact this
   refine⟨λh3=>?_,λh3=>?_⟩
   ·refine nD f3 λw6 xt=>?_;have zk:=xt.at xb id;have:=flat w6 xt (by omega) (by omega);unfold Fy flatK at this;rw[aJ h3]at this;simp only[wsv,wsg,wsh,wsl,aM,aK,aD,fB,Nat.reduceAdd,Nat.reduceLT,aF,aA,aI,aH,bP,reduceCtorEq,wsh,zk,lx,lk];intro g6;rw[EX f1 f2];exact this
   refine⟨λh4=>?_,λh4=>?_⟩
   ·intro g6;have:=flat w5 (Chg.refl _ _) (by omega) (by omega);unfold Fy flatK at this;rw[aE h3,aJ h4]at this;rw[EX f1 f2];rw[show decide ((v.t.length:Int)<=16384)=decide (v.t.length<=16384)by rw[decide_eq_decide];omega];exact this
   refine⟨λh5=>?_,λh5=>?_⟩
   ·refine⟨λhk=>no (.inr (.inr (.inl ⟨h5,λe=>by rw[e]at hk;simp at hk⟩))),λhk=>.inl ⟨h5,bC (by omega)⟩⟩
   refine⟨λh6=>?_,λh6=>no (by omega)⟩;refine⟨λzt=>no (.inr (.inr (.inr ⟨h6,.inl (by omega)⟩))),λheq=>?_⟩;refine mT v.ks.length (λi w'=>w'=w5/\(∀j a,j<i->v.ks[j]?=some a->a.length<=16384)/\(∀j a b,j+1<i->v.ks[j]?=some a->v.ks[j+1]?=some b->Op.bytesLess a b=true)) ⟨rfl,λj a h=>by omega,λj a b h=>by omega⟩ ?_ ?_
   ·rintro i w6 g6 L6 hi ⟨rfl,hl,hs⟩ hL;obtain⟨u,hu⟩:∃u,v.ks[i]?=some u:=⟨_,List.getElem?_eq_getElem hi⟩;have xn:((i:Int)<(v.ks.length:Int)):=by omega
    simp only[wsv,wsg,wsh,wsl,aM,aK,aD,fB,Nat.reduceAdd,Nat.reduceLT,aF,aA,aI,aH,bP,reduceCtorEq,xn];refine nM xi hu ?_;have hnext:u.length<=16384->(∀x,0<i->v.ks[i-1]?=some x->Op.bytesLess x u=true)->L6 [i64 ((i+1:Nat):Int)] w6:=λh1 h2=>by
     refine hL _ ⟨rfl,λj a hj ha=>?_,λj a b hj ha hb=>?_⟩
     ·rcases dR j i with h|h
      ·exact hl j a h ha
      ·obtain rfl:j=i:=by omega
       rw[hu]at ha;cases ha;exact h1
     ·rcases dR (j+1) i with h|h
      ·exact hs j a b h ha hb
      ·obtain rfl:i=j+1:=by omega
       rw[hu]at hb;cases hb;exact h2 a (by omega) (by simpa using ha)
    by_cases hlong:16384<u.length
    ·have e:decide ((16384:Int)<(u.length:Int))=true:=bH (by omega);simp only[wsv,wsg,wsh,wsl,aM,aK,aD,fB,Nat.reduceAdd,Nat.reduceLT,aF,aA,aI,aH,bP,reduceCtorEq,e];intros;exact no (.inr (.inr (.inr ⟨h6,.inr (Ks hu hlong)⟩)))
    ·have e:decide ((16384:Int)<(u.length:Int))=false:=cH (by omega);by_cases h0:i=0
     ·subst h0;have e0:decide ((0:Int)<((0:Nat):Int))=false:=by decide
      simp only[wsv,wsg,wsh,wsl,aM,aK,aD,fB,Nat.reduceAdd,Nat.reduceLT,aF,aA,aI,aH,bP,reduceCtorEq,e,e0];rw[up1 (by omega)];intros;exact hnext (by omega) λx h=>by omega
     ·obtain⟨j,rfl⟩:∃j,i=j+1:=⟨i-1,by omega⟩;obtain⟨x,xk⟩:∃x,v.ks[j]?=some x:=⟨_,List.getElem?_eq_getElem (by omega)⟩;have e0:decide ((0:Int)<((j+1:Nat):Int))=true:=bH (by omega);have hw:IntKind.i64.wrap (((j+1:Nat):Int)-1)=((j:Nat):Int):=by rw[cN (by omega) (by omega)];omega
      simp only[wsv,wsg,wsh,wsl,aM,aK,aD,fB,Nat.reduceAdd,Nat.reduceLT,aF,aA,aI,aH,bP,reduceCtorEq,e,e0,hw];intro g7;refine GdW.look (!Op.bytesLess x u) (λ_ J hJ=>?_) λg8=>?_
      ·rw[xb];refine⟨kv,rfl,?_⟩;refine nM xi xk ?_;rw[Oo];exact hJ
      intro g9;simp only[aG,aM];rw[bY];refine⟨λze=>no (.inr (.inr (.inr ⟨h6,.inr (MC xk hu (by simpa using ze))⟩))),λya=>?_⟩;rw[up1 (by omega)];exact hnext (by omega) λy _ hy=>by
       have:v.ks[j]?=some y:=by simpa using hy
       rw[xk]at this;cases this;simpa using ya
   ·rintro w6 g6 L6 ⟨rfl,hl,hs⟩;have hkeys:iX v.ks=true:=Pu (λi a h=>hl i a (List.getElem?_eq_some_iff.1 h).1 h) (λi a b h1 h2=>hs i a b (List.getElem?_eq_some_iff.1 h2).1 h1 h2);simp only[wsv,wsg,wsh,wsl,aM,aK,aD,fB,Nat.reduceAdd,Nat.reduceLT,aF,aA,aI,aH,bP,reduceCtorEq,fJ];exact .inr ⟨h6,by omega,hkeys⟩
  ·rintro s' g w5 ⟨rfl,rfl,hk⟩;simp only[wsv,wsg,wsh,wsl,aM,aK,aD,fB,Nat.reduceAdd,Nat.reduceLT,aF,aA,aI,aH,bP,reduceCtorEq,wsh,xb];refine GdW.act (uZ v.xs m' (left-1)) (λw'=>Chg (λk=>k=p) w5 w'/\(decide (v.t=[])=true->uZ v.xs m' (left-1)=true->w'.heap[p]?=some (.cells [i64 (left-1-kV v.xs)].toArray 3 (0,0)))) (λe=>⟨Chg.refl _ _,λe'=>by rw[e]at e';cases e'⟩) ?_ ?_
   ·intro ht J hJ;refine Jh ?_;unfold Ze;refine Jg ?_;unfold YF;rw[lx];refine mT v.xs.length (λi w'=>Chg (λk=>k=p) w5 w'/\w'.heap[p]?=some (.cells [i64 (left-1-uB v.xs i)].toArray 3 (0,0))/\(∀j x,j<i->v.xs[j]?=some x->qI x m' (left-1-uB v.xs j)=true)/\SlAt w' Ti sv v.xs.length L/\eK w' v.xs L/\(uB v.xs i:Int)<=left-1) ⟨Chg.refl _ _,by simpa[uB]using xg,λj x h=>by omega,ye,hreps4,by simp[uB];omega⟩ ?_ ?_
    ·rintro i w6 g6 L6 hi ⟨I,hv,xc,hz,hreps6,xa⟩ hL;obtain⟨x,hh⟩:∃x,v.xs[i]?=some x:=⟨_,List.getElem?_eq_getElem hi⟩;have xn:((i:Int)<(v.xs.length:Int)):=by omega
     simp only[wsv,wsg,wsh,wsl,aM,aK,aD,fB,Nat.reduceAdd,Nat.reduceLT,aF,aA,aI,aH,bP,reduceCtorEq,xn];refine IK hz hreps6 hh λcs6 yw=>?_;refine Qi (caps:=[.pointer (some ⟨d,0,none⟩),.pointer (some ⟨q,0,none⟩)]) ?_;refine YR ?_;unfold aFa;refine kJ yw λb7 w7 sv7 kv7 zm ho zy=>?_;refine zm.ld λcs7 yu=>?_;have zg:=I.at yg (by omega);have yy:=I.at xy (by omega);have zf:=ho.at zg id;have yx:=ho.at yy id;have xm:=ho.at hv id;have hw:IntKind.i64.wrap (((m'+1:Nat):Int)-1)=((m':Nat):Int):=by rw[cN (by omega) (by omega)];omega
     simp only[wsv,wsg,wsh,wsl,aM,aK,aD,fB,Nat.reduceAdd,Nat.reduceLT,aF,aA,aI,aH,bP,reduceCtorEq,wsh,zf,yx,hw];refine ih x (bG hh) yu xm (by omega) (by omega) (by omega) λr w8 xx yz xo=>?_;simp only[wsv,wsg,wsh,wsl,aM,aK,aD,fB,Nat.reduceAdd,Nat.reduceLT,aF,aA,aI,aH,bP,reduceCtorEq,bY];have yh:Chg (λk=>k=p) w6 w8:=(Chg.of_ext ho).trans xo;have xj:=I.trans yh;refine⟨λhc=>?_,λhgood=>?_⟩
     ·have yt:r=false:=by simpa using hc
      rw[bH (show(0:Int)<=(i:Int)by omega)];have:=ME hh (show qI x m' (left-1-uB v.xs i)=false by rw[<-xx];exact yt);rw[this]at hJ;exact hJ w8 ⟨xj,λ_ e=>by cases e⟩
     ·have xw:r=true:=by simpa using hgood
      have hg:=xx;rw[xw]at hg;have zx:(lO x:Int)<=left-1-uB v.xs i:=by
       unfold qI at hg;have:=hg.symm;simp only[aL,bD]at this;exact this.2
      rw[up1 (by omega)];refine hL w8 ⟨xj,?_,?_,?_,?_,?_⟩
      ·rw[uB,CJ hh];have e:left-1-((uB v.xs i:Nat):Int)-((lO x:Nat):Int)=left-1-((uB v.xs i+lO x:Nat):Int):=by omega
       rw[yz xw,e]
      ·intro j y hj hy;rcases dR j i with h|h
       ·exact xc j y h hy
       ·obtain rfl:j=i:=by omega
        rw[hh]at hy;cases hy;exact hg.symm
      ·exact(hz.ext ho).keep1 xm xo λhn=>.inr (by
        have:=hreps.len;have hl:0<L.length:=dQ.2 hn;omega)
      ·exact uJ xm xo (hreps6.ext ho)
      ·rw[uB,CJ hh];omega
    ·rintro w6 g6 L6 ⟨I,hv,xc,hz,hreps6,xa⟩;simp only[wsv,wsg,wsh,wsl,aM,aK,aD,fB,Nat.reduceAdd,Nat.reduceLT,aF,aA,aI,aH,bP,reduceCtorEq,fJ];rw[<-Te]at hv xa;have:=Kv (λi x h=>xc i x (List.getElem?_eq_some_iff.1 h).1 h) xa;have hj:=hJ w6 ⟨I,λ_ _=>hv⟩;rw[this]at hj;exact hj
   ·rintro g6 w6 ⟨I,hv⟩;simp only[wsv,wsg,wsh,wsl,aM,aK,aD,fB,Nat.reduceAdd,Nat.reduceLT,aF,aA,aI,aH,bP,reduceCtorEq];refine hK _ w6 (MM yi hk).symm (λhr=>?_) (xh.trans I);simp only[aL,bD]at hr;rw[hv (bH hr.1) hr.2];have:lO v=1+kV v.xs:=by cases v;simp only[lO,JV.xs]
    have e:left-1-((kV v.xs:Nat):Int)=left-((1+kV v.xs:Nat):Int):=by omega
    rw[this,e]
end
end
section
open Go Go.Eng Go.RowKit
variable{w:World}{K:Q0}{cs:List Value}{G:Nat->Prop}{T:TypeId}{i:Nat}{n:Nat}{v:Value}{w':World}{P:Program}{c:UInt8}{S:Nat->Prop}
theorem LZ(xs:List JV){n:Int}(h:2000<n):lW xs n=n:=by
 cases xs with
 |nil=>rfl
 |cons x xs=>simp only[lW];rw[aE (by omega)]
theorem QQ:∀(m:Nat),m<=24->∀(v:JV),kC v m=true->(qZ v<=2000->qZ v=lO v)/\((lO v:Int)<=2000->qZ v=lO v):=by
 intro m;induction m with
 |zero=>intro _ v h;rw[oO]at h;cases h
 |succ m ih=>
  intro hm v h;rw[iA,jB,bN]at h;have lst:∀(xs:List JV),(∀x∈xs,kC x m=true)->∀n:Int,1<=n->(lW xs n<=2000->lW xs n=n+kV xs)/\(n+(kV xs:Int)<=2000->lW xs n=n+kV xs):=by
   intro xs;induction xs with
   |nil=>intro _ n _;simp[lW,kV]
   |cons x xs ihx=>
    intro J n hn;have o:=J x bA;obtain⟨b1,b2⟩:=AN m (by omega) x o;obtain⟨c1,c2⟩:=ih (by omega) x o;have U:=Oh x;simp only[lW,kV];by_cases h2:n<=2000
    ·rw[aJ h2,cN (by omega) (by omega)];obtain⟨d1,d2⟩:=ihx (λy I=>J y (aR _ I)) (n+qZ x) (by omega);constructor
     ·intro j;have I:n+qZ x<=2000:=by
       apply eL;intro hh;rw[LZ xs (by omega)]at j;omega
      have e:=c1 (by omega);rw[d1 j,e];omega
     ·intro j;have e:=c2 (by omega);rw[d2 (by omega),e];omega
    ·rw[aE h2];constructor
     ·intro j;omega
     ·intro j;omega
  obtain⟨d1,d2⟩:=lst v.xs h 1 (by omega);have U:lO v=1+kV v.xs:=by cases v;simp only[lO,JV.xs]
  rw[vW,U];constructor
  ·intro j;rw[d1 j];omega
  ·intro j;rw[d2 (by omega)];omega
theorem Xe(v:JV):qI v 24 2000=dK v:=by
 unfold qI dK;cases hd:kC v 24 with
 |false=>simp
 |true=>
  obtain⟨c1,c2⟩:=QQ 24 (aV _) v hd;have:decide ((lO v:Int)<=2000)=decide (qZ v<=2000):=by
   rw[decide_eq_decide];constructor
   ·intro h;rw[c2 h];exact h
   ·intro h;rw[<-c1 h];exact h
  rw[this];cases decide (qZ v<=2000)<;>cases kA v<;>rfl
theorem Bld.isb{B b:Nat}{l:Str}(h:Bld w B b l):Lib.IsBuilderF BdT U8 B b (Lib.byteCells l) w:=by
 obtain⟨p,v,h1,J,j,I⟩:=h;have o:w.ownsRow B U8 1 v (u8s l).length (u8s l):=by rw[qJ];exact j
 have:Lib.BuilderAt BdT U8 B b p (u8s l) w:=⟨I,v,h1,o,λe=>Lv h1 (j.block b e)⟩;rcases J with rfl|rfl
 ·exact .inl (Lib.BuilderAtF.of this)
 ·exact .inr (Lib.BuilderAtF.of this)
section
variable [HX]
theorem Ib{v:JV}{K:Q0}(h:eX w v cs)(hK:∀w',Ext w w'->K (.bool (dK v)) w'):aC P0 61 [.agg cs.toArray] w K:=by
 refine aCG ?_;unfold W61;refine kJ h λa w1 sv kv hB o ha=>?_;refine bI λp w2 hp hj hh I=>?_;refine iO (off:=0) hh rfl (by simp) λw3 hi hg hc=>?_;have j:Ext w1 w3:=I.new hc (by omega);have J:w3.heap[p]?=some (.cells [i64 2000].toArray 3 (0,0)):=by rw[hg];rfl
 refine(hB.ext j).ld λcs2 h2=>?_;refine aBS v h2 J (m:=24) (by omega) (by omega) (by omega) λr w4 hr _ U=>?_;rw[hr,Xe];have s1:=o.size;exact hK w4 ((o.trans j).then U λk hk e=>by omega)
end
end
section
open Go Go.Eng Go.Num Go.RowKit
variable{w:World}{K:Q0}{cs:List Value}{G:Nat->Prop}{T:TypeId}{i:Nat}{n:Nat}{v:Value}{w':World}{P:Program}{c:UInt8}{S:Nat->Prop}
section
variable [HX]
def mir(n i k:Nat):Nat:=if k<i\/n-i<=k then n-1-k else k
theorem aAx{xs:List JV}{L:List Value}{base:Nat}{K:Q0}(h:Own w base VT 5 v xs.length L)(hr:cA (λq=>base<=q/\v.ownBlock≠some q) w xs L)(hl:xs.length<=1000000)
  (hK:∀w' L',Chg (λk=>v.ownBlock=some k) w w'->Own w' base VT 5 v xs.length L'->cA (λq=>base<=q/\v.ownBlock≠some q) w' xs.reverse L'->K (.tuple #[]) w'):aC P0 219 [v] w K:=by
 refine Yh ?_;unfold aEF;have yt:=hr.rep.len;have h0:=h;obtain⟨hn,⟨rfl,hz⟩|⟨g,cap,cur,rfl,hb,hg,xd,h2,h3,h4⟩⟩:=h
 ·have hi:xs=[]:=bC hz;subst hi;rw[xJ];have e1:IntKind.i64.wrap (((0:Nat):Int)-1)=-1:=by decide
  rw[kW];simp only[e1];refine cY.go (λst w'=>st=[i64 0,i64 (-1)]/\w'=w) (λ_ _=>0) ⟨rfl,rfl⟩ ?_;rintro st g w2 ⟨rfl,rfl⟩;simp only[aG,cS];rw[dU,cH (by omega),cP];exact hK w2 L (Chg.refl _ _) h0 (by simpa using hr)
 ·rw[xJ];generalize J:xs.length=n at*
  by_cases xv:n=0
  ·subst xv;have e1:IntKind.i64.wrap (((0:Nat):Int)-1)=-1:=by decide
   rw[kW];simp only[e1];refine cY.go (λst w'=>st=[i64 0,i64 (-1)]/\w'=w) (λ_ _=>0) ⟨rfl,rfl⟩ ?_;rintro st g w2 ⟨rfl,rfl⟩;simp only[aG,cS];rw[dU,cH (by omega),cP];have hi:xs=[]:=bC J;exact hK w2 L (Chg.refl _ _) h0 (by rw[hi]at hr⊢;exact hr)
  ·have e1:IntKind.i64.wrap ((n:Int)-1)=((n-1:Nat):Int):=by rw[cN (by omega) (by omega)];omega
   rw[kW,e1];have hcell:∀q,q<n*5->cur[q]?=L[q]?:=λq hq=>by
    have:(cur.toList.take (n*5))[q]?=L[q]?:=by rw[h4]
    rw[List.getElem?_take_of_lt hq]at this;simpa using this
   have xh:n*5<=cur.size:=by rw[h3];exact dM _ xd
   refine cY.go (λst w'=>∃(i:Nat) (c:Array Value),2*i<=n+1/\i<=n/\st=[i64 (i:Nat),i64 ((n:Int)-1-i)]/\Chg (λk=>k=g) w w'/\w'.heap[g]?=some (.cells c VT (0,0))/\c.size=cur.size/\(∀k j,k<n->j<5->c[k*5+j]?=L[mir n i k*5+j]?))
    (λst _=>match st with|[.int _ i,_]=>n-i.toNat|_=>0)
    ⟨0,cur,by omega,by omega,by simp;omega,Chg.refl _ _,hg,rfl,λk j U hj=>by
      have:mir n 0 k=k:=by unfold mir;rw[aE (by omega)]
      rw[this];exact hcell _ (by omega)⟩ ?_
   rintro st g2 w2 ⟨i,c,h2i,yp,rfl,hv,xl,I,hm⟩;simp only[aG,cS];have hitem:∀k,k<n->∃x cs,xs[k]?=some x/\cM (λq=>base<=q/\(Value.slice (some ⟨g,0,none⟩) n cap).ownBlock≠some q) w x cs/\∀j,j<5->L[k*5+j]?=cs[j]?:=λk U=>by
    obtain⟨x,hx⟩:∃x,xs[k]?=some x:=⟨_,List.getElem?_eq_getElem (by omega)⟩;obtain⟨cs,h1,h2⟩:=hr.get5 hx;exact⟨x,cs,hx,h1,h2⟩
   rw[dU,aO];refine⟨λyo=>?_,λyr=>?_⟩
   ·have yq:2*i+1<n:=by omega
    have ei:((n:Int)-1-i)=((n-1-i:Nat):Int):=by omega
    rw[ei];have hj:n-1-i<n:=by omega
    have xx:mir n i i=i:=by unfold mir;rw[aE (by omega)]
    have xw:mir n i (n-1-i)=n-1-i:=by unfold mir;rw[aE (by omega)]
    obtain⟨xi,ci,ym,ht,xn⟩:=hitem i (by omega);obtain⟨xj,cj,yl,hs,xm⟩:=hitem (n-1-i) hj;have ho:w2.drew.heap[g]?=some (.cells c VT (0,0)):=xl;have ixp:∀(k:Nat) (K:Value->Prop),k<n->K (.pointer (some ⟨g,k*5,none⟩))->dP none 5 (.slice (some ⟨g,0,none⟩) n cap) (i64 (k:Nat)) K:=λk K U hK=>by
     rw[qS];refine⟨by omega,by omega,?_⟩;rw[bW,aX,aW];exact hK
    refine ixp _ _ hj ?_;refine pS (cs:=cj) ho hs.rep.len (λj o=>by rw[hm _ j hj o,xw,xm j o]) ?_;refine ixp _ _ (by omega) ?_;refine pS (cs:=ci) ho ht.rep.len (λj o=>by rw[hm _ j (by omega) o,xx,xn j o]) ?_;refine ixp _ _ (by omega) ?_;refine QM ho hs.rep.len hs.rep.all_one (by rw[I];have:(i+1)*5<=n*5:=dM _ (by omega);omega) λw3 c3 ye xb xz xt yc yj=>?_;refine ixp _ _ hj ?_;refine QM ye ht.rep.len ht.rep.all_one (by rw[xb,I];have:(n-1-i+1)*5<=n*5:=dM _ (by omega);omega) λw4 c4 yd xq xy xr yb yi=>?_;have e3:IntKind.i64.wrap ((i:Int)+1)=((i+1:Nat):Int):=by rw[cN (by omega) (by omega)];omega
    have e4:IntKind.i64.wrap (((n-1-i:Nat):Int)-1)=(n:Int)-1-((i+1:Nat):Int):=by rw[cN (by omega) (by omega)];omega
    rw[cI,e3,kW,e4];have ya:Chg (λk=>k=g) w w2.drew:=hv.drew;refine⟨⟨i+1,c4,by omega,by omega,rfl,ya.trans (yc.trans yb),yd,by rw[xq,xb,I],λk j U o=>?_⟩,by simp only[aW];omega⟩;by_cases xe:k=n-1-i
    ·subst xe;rw[xy j o,<-xn j o];congr 1;unfold mir;rw[aJ (by omega)];omega
    ·have hh:∀q:Nat,k≠q->k*5+j<q*5\/q*5+5<=k*5+j:=λq yn=>by omega
     rw[xr _ (hh _ xe)];by_cases xf:k=i
     ·subst xf;rw[xz j o,<-xm j o];congr 1;unfold mir;rw[aJ (by omega)]
     ·rw[xt _ (hh _ xf),hm k j U o];congr 2;unfold mir;by_cases hc:k<i\/n-i<=k
      ·rw[aJ hc,aJ (by omega)]
      ·rw[aE hc,aE (by omega)]
   ·have mP:∀k,k<n->mir n i k=n-1-k:=λk U=>by
     unfold mir;by_cases hc:k<i\/n-i<=k
     ·rw[aJ hc]
     ·rw[aE hc];omega
    have xo:(c.toList.take (n*5)).length=n*5:=by rw[bS];simp[I];omega
    refine hK w2 (c.toList.take (n*5)) (hv.mono λk _ e=>by subst e;rfl) ⟨xo,.inr ⟨g,cap,c,rfl,hb,xl,xd,h2,by rw[I,h3],rfl⟩⟩ ?_;refine cA.of_get (by rw[xo,mS,J]) λk x hx=>?_;have U:k<n:=by have:=(List.getElem?_eq_some_iff.1 hx).1;rw[mS,J]at this;exact this
    rw[List.getElem?_reverse (by rw[J];exact U),J]at hx;obtain⟨x',cs,xa,xh,yf⟩:=hitem (n-1-k) (by omega);rw[hx]at xa;cases xa;refine⟨cs,cM.chg hv (λq hq _ e=>hq.2 (by subst e;rfl)) xh,λj o=>?_⟩;rw[List.getElem?_take_of_lt (by omega),<-yf j o,<-mP k U,<-hm k j U o];simp
theorem OX{x:JV}{sv:Value}{K:Q0}(h:eH w sv [x])(hg:Gb x)(hK:DoK (wB x) w K):aC P0 174 [sv] w K:=by
 refine YC ?_;unfold aEZ;refine bI λb w1 hb ye xe o=>?_;refine(h.ext o).at' (i:=0) rfl rfl λcs xv=>?_;refine Oj hg.few xv λsv' kv' L w2 ho hO=>?_;have xd:=ho.at xe id;have yi:b<w1.heap.size:=fA xe;refine bI λp w3 hp yd xy xp=>?_;have o1:=oK hO.items;have o2:=oK hO.keys;refine cK (l:=[i64 x.k,.bool x.b,str x.t,sv',kv']) xy rfl rfl (xH o1 o2) λw4 yc hi xx=>?_;have s2:=ho.size;have j:Ext w2 w4:=xp.new xx (by omega);have hc:=j.at xd id;have ht:=hO.ext j;simp only[wsv,wsg,wsh,wsl,aM,aK,aD,fB,Nat.reduceAdd,Nat.reduceLT,aF,aA,aI,aH,bP,reduceCtorEq,wsh,hi];have I:=o.trans (ho.trans j);have yf:=MI hg.plain;rw[aO];refine⟨λk4=>?_,λk4=>?_⟩
 ·have hS:wB x=some (tV (oM x.t).reverse.flatten):=by unfold wB;rw[aJ k4]
  rw[hS]at hK;refine Nt (by omega) λv w5 xo hv=>?_;have yh:=GJ x.t;refine aAy hv (by omega) λw6 xw xq=>?_;have hz:Ext w4 w6:=xo.then xw λk hk e=>by have:=(nU hv e).1;omega
  have hj:Lib.join (oM x.t).reverse []=(oM x.t).reverse.flatten:=BI _;have hr:(Lib.join (oM x.t).reverse []).length<=140737488355328:=by
   refine cC (Hz [] _ 100000 λs hs=>?_) ?_
   ·have:=Mf (List.mem_reverse.1 hs);omega
   ·rw[mS];refine cC (lQ (show(oM x.t).length<=100000 by omega) (aV _)) (by decide)
  have xb:=xq.sl;rw[show(oM x.t).length=(oM x.t).reverse.length from List.length_reverse.symm]at xb;refine Sf xb (by rw[mS];omega) hr λw7 xn=>?_;rw[hj]at hr⊢;refine IP λw8 xm=>?_;have hy:=hz.trans (xn.trans xm);exact BP rfl (hy.at hc id) rfl (by omega) (I.trans hy) (gP (cC hr (by decide))) hK
 ·have hS:wB x=if x.k=5 then some (lV x.xs.reverse)else none:=by unfold wB;rw[aE k4]
  rw[hS]at hK;rw[aO];refine⟨λk5=>?_,λk5=>?_⟩
  ·rw[aJ k5]at hK;have hlens:=hg.lens;have hhead:=hg.plain;rw[jJ,aL]at hhead;obtain⟨_,_,xf,xr,_,xu,_⟩:=kB hhead.1;have eb:x.b=false:=by
    cases xz:x.b with
    |false=>rfl
    |true=>have:=xf xz;omega
   have et:x.t=[]:=eL λe=>by rcases xr e with k|k<;>omega
   have ek:x.ks=[]:=eL λe=>by have:=xu e;omega
   refine aAx (ht.items) (ht.reps.mono λq _ hq=>⟨hq.1,hq.2.1⟩) (by omega) λw11 L' U xi xh=>?_;have J:∀q,sv'.ownBlock=some q->w1.heap.size<=q/\q<w2.heap.size:=λq hq=>⟨(gZ hO.items hq).1,(gZ hO.items hq).2.1⟩;have xa:Ext w w11:=I.then U λk hk e=>by have:=(J k e).1;have:=o.size;omega
   have xc:=U.at hi λe=>by have:=(J p e).2;omega
   have xg:=U.at hc λe=>by have:=(J b e).1;omega
   refine bZ xc rfl ?_;have yj:kv'=.slice none 0 0\/True:=.inr trivial;have xt:SlAt w11 ST kv' 0 []:=by
    have:=ht.keys.sl;rw[ek]at this;obtain⟨p0,c0,e0,h1,h2,_⟩:=this;exact⟨p0,c0,e0,h1,h2,λh=>absurd rfl h⟩
   have hV:cM (λq=>w.heap.size<=q/\q≠b) w11 (lV x.xs.reverse) [i64 x.k,.bool x.b,str x.t,sv',kv']:=by
    rw[k5,eb,et];refine cM.mk (v:=lV x.xs.reverse) (T1:=VT) (T2:=ST) (L:=L') ?_ ?_ (by simpa[JV.ks]using xt) ⟨by show x.xs.reverse.length<=_;rw[mS];omega,by simp[JV.ks],by simp[JV.t],by simp[JV.ks]⟩ (λ_ k hk=>⟨by have:=(J k hk).1;have:=o.size;omega,λe=>by have:=(J k hk).1;omega⟩) (λh=>by simp[JV.ks]at h)
    ·show SlAt w11 VT sv' x.xs.reverse.length L';rw[mS];exact xi.sl
    ·refine xh.mono λq _ hq=>⟨by have:=hq.1;have:=o.size;omega,λe=>by have:=hq.1;omega⟩
   exact BP rfl xg rfl (by omega) xa hV hK
  ·rw[aE k5]at hK;exact SU rfl hc rfl (by omega) I hK
end
section
variable [HX]
theorem ZT{v:JV}{k:Str}{K:Q0}(h:eX w v cs)(k6:v.k=6)(hl:v.ks.length=v.xs.length)(hj:tR v=true)(hr:LF v.ks)
  (hK:∀cs' w',Ext w w'->cM (yE w.heap.size) w' ((zC v k).getD JV.null) cs'->K (.tuple #[.agg cs'.toArray,.bool (zC v k).isSome]) w'):aC P0 120 [.agg cs.toArray,str k] w K:=by
 have I:=hj;rw[xL,wO]at I;simp only[aL,bD,bN]at I;obtain⟨⟨f1,f2⟩,f3⟩:=I;refine Zi ?_;unfold aFp;refine kJ h λa w1 sv kv hB hx _=>?_;refine bI λb w2 hb xa hh J=>?_;have hv:=hB;have hB:=hB.ext J;have xc:w1.heap.size<=b:=by omega
 have s1:=hx.size;simp only[wsv,wsg,wsh,wsl,aM,aK,aD,fB,Nat.reduceAdd,Nat.reduceLT,aF,aA,aI,aH,bP,reduceCtorEq,wsh,hB.hb];obtain⟨T2,hq⟩:=hB.keys;refine Jy hq f2 hr λi hs _ _ hz=>?_;have e6:decide (v.k=6)=true:=bH k6;cases o:wL v.ks k with
 |none=>
  have hg:zC v k=none:=by unfold zC;rw[aJ k6,o]
  rw[hg]at hK;simp only[Option.isSome_none];simp only[wsv,wsg,wsh,wsl,aM,aK,aD,fB,Nat.reduceAdd,Nat.reduceLT,aF,aA,aI,aH,bP,reduceCtorEq,wsh,hB.hb,e6];intros
  (try simp only[wsv,wsg,wsh,wsl,aM,aK,aD,fB,Nat.reduceAdd,Nat.reduceLT,aF,aA,aI,aH,bP,reduceCtorEq,wsh,hB.hb,e6])
  exact Er (w0:=w) (K:=λr w=>K (.tuple #[r,.bool false]) w) hh rfl (by omega) (hx.trans J) (gP (k:=0) (b:=false) (t:=[]) (by simp)) λw4 hc h4=>hK _ w4 hc h4
 |some j=>
  obtain rfl:j=i:=by
   rcases hs with h|h
   ·rw[h]at o;cases o
   ·rw[h]at o;exact(fN o).symm
  obtain⟨x,U⟩:∃x,v.xs[j]?=some x:=⟨_,List.getElem?_eq_getElem (by
   have:=(List.getElem?_eq_some_iff.1 (wK o)).1;omega)⟩
  have hg:zC v k=some x:=by unfold zC;rw[aJ k6,o];exact U
  rw[hg]at hK;simp only[Option.isSome_some];simp only[wsv,wsg,wsh,wsl,aM,aK,aD,fB,Nat.reduceAdd,Nat.reduceLT,aF,aA,aI,aH,bP,reduceCtorEq,wsh,hB.hb,e6];intros
  (try simp only[wsv,wsg,wsh,wsl,aM,aK,aD,fB,Nat.reduceAdd,Nat.reduceLT,aF,aA,aI,aH,bP,reduceCtorEq,wsh,hB.hb,e6])
  refine hv.item_old J U λcs2 h2=>?_;refine DR x (f3 x (bG U)) (h2.ext J) λcs3 w3 hi h3=>?_;exact Er (w0:=w) (K:=λr w=>K (.tuple #[r,.bool true]) w) (hi.at hh id) rfl (by omega) (hx.trans (J.trans hi)) (h3.at (by have:=fA hh;omega) (by omega)) λw4 hc h4=>hK _ w4 hc h4
end
section
variable [HX]
theorem eH.at_old{w0:World}{sv:Value}{xs:List JV}{k:IntKind}{x:JV}{K:Value->Prop}(h:eH w0 sv xs)(hx:Ext w0 w)(hi:xs[i]?=some x)(hK:∀cs,eX w0 x cs->K (.agg cs.toArray)):dP none 5 sv (.int k i) λp=>ldW true 5 p w K:=by
 obtain⟨T,L,h1,h2⟩:=h.it;obtain⟨cs,U,hg⟩:=h2.get hi;refine rR (size:=5) (h1.ext hx) h2.len (by omega) (List.getElem?_eq_some_iff.1 hi).1 λb o c fr hb I=>?_;exact pS hb U.len (λj J=>(I j J).trans (hg j J)) (hK cs U)
def Iz(a:List JV):List (Str×JV):=(a.map λx=>x.ks.zip x.xs).flatten
theorem Xk{l:List (Str×JV)}(hl:l.length<=100000)(hf:∀p∈l,tR p.2=true):tR (mkO l)=true:=by
 rw[xL,wO];simp only[mkO,JV.xs,JV.ks,cD,aL,bD,bN,dL];exact⟨⟨by omega,by omega⟩,λx ⟨p,hp,e⟩=>by rw[<-e];exact hf p hp⟩
end
section
variable [HX]
theorem Qe{a:List JV}{sv:Value}{K:Q0}(h:eH w sv a)(hf:∀x∈a,tR x=true)(hl:a.length<=1000)(hn:(a.map (·.xs)).flatten.length<=1000000)(hK:DoK (some (vD a)) w K):aC P0 160 [sv] w K:=by
 refine YE ?_;unfold aE1;refine bI λb w1 hb yg xl ho=>?_;rw[dI,cW];refine⟨by simp,?_⟩;refine bI λp w3 hp yf xz xu=>?_;refine cK (l:=flat 5 false []) xz rfl rfl rfl λw4 ye hv xx=>?_;have yh:=fA xl;have yb:=fA hv;have hg:Ext w1 w4:=xu.new xx (by omega);have s14:=hg.size;have s01:=ho.size;have hj:=hg.at xl id;rw[h.len];refine mT a.length (λi w'=>∃(r:Value) (L:List Value),Ext w1 w'/\w'.heap[b]?=w4.heap[b]?/\w'.heap[p]?=some (.cells [i64 5,.bool false,str [],r,.slice none 0 0].toArray VT (0,0))/\w4.heap.size<=w'.heap.size/\
   Own w' w4.heap.size VT 5 r ((a.take i).map (·.xs)).flatten.length L/\cA (λq=>w4.heap.size<=q/\r.ownBlock≠some q) w' ((a.take i).map (·.xs)).flatten L)
  ⟨.slice none 0 0,[],hg,rfl,hv,aV _,⟨by simp,.inl ⟨rfl,by simp⟩⟩,by simp[cA]⟩ ?_ ?_
 ·rintro i w6 g Lp hi ⟨r,L,hc,hz,hh,s6,hO,hR⟩ hL;obtain⟨x,hx⟩:∃x,a[i]?=some x:=⟨_,List.getElem?_eq_getElem hi⟩;have xr:x∈a:=bG hx;have xi:(i:Int)<(a.length:Int):=by omega
  have etk:((a.take (i+1)).map (·.xs)).flatten=((a.take i).map (·.xs)).flatten++x.xs:=by
   have:a.take (i+1)=a.take i++[x]:=by rw[dG,hx];rfl
   rw[this,fE,List.flatten_append];simp
  have hsubl:((a.take (i+1)).map (·.xs)).flatten.length<=1000000:=by
   refine cC ?_ hn;have:(a.map (·.xs)).flatten=((a.take (i+1)).map (·.xs)).flatten++((a.drop (i+1)).map (·.xs)).flatten:=by
    rw[<-List.flatten_append,<-fE,iH]
   rw[this,aU];omega
  rw[etk,aU]at hsubl;simp only[aG];rw[dU,bH xi,dS];refine h.at_old (ho.trans hc) hx λds hr=>?_;refine bI λq w7 j yd xy xt=>?_;refine cK xy hr.len rfl hr.all_one λw8 yc xk xw=>?_;have hs:Ext w6 w8:=xt.new xw (by omega);have xd:Ext w8 w8.drew:=Chg.drew (Chg.refl (λ_=>False) w8);have hx6d:=hs.trans xd;have xv:=hx6d.at hh id;rw[bT,bW,dY];refine⟨r,by rw[cG,xv];rfl,?_⟩;refine bZ (xd.at xk id) hr.len ?_;refine Oj (hf x xr) (hr.ext ((ho.trans hc).trans hx6d)) λsv' kv' L2 w9 xe xa=>?_;have o:=hx6d.trans xe;refine⟨by rw[dY];exact⟨r,by rw[cG,o.at hh id];rfl,rfl⟩,?_⟩;refine⟨sv',rfl,?_⟩;have s69:=o.size;have s9:=xe.size;have sd:w8.drew.heap.size=w8.heap.size:=rfl;have s68:=hs.size;have xo:=xa.reps.rep;refine iF Cy (hO.ext o) xa.items.sl xo.len xo.one (by omega) (by omega) (by omega) λv' w10 xc I xn=>?_;have J:∀k,r.ownBlock=some k->w4.heap.size<=k/\k<w6.heap.size:=λk hk=>⟨(gZ hO hk).1,(gZ hO hk).2.1⟩;have xf:=I.at (o.at hh id) λe=>by have:=(J p e).1;omega
  have h10one:=oK xc;rw[bT,bW];refine iO xf h10one (by simp) λw11 ya xm U=>?_;rw[cI,up1 (by omega)];have ht:b<w4.heap.size:=fA hj;refine hL w11 ⟨v',L++L2,?_,?_,by rw[xm];simp,by have:=I.size;omega,?_,?_⟩
  ·exact((hc.trans o).then I λk hk e=>by have:=(J k e).1;omega).new U (show w1.heap.size<=p by omega)
  ·rw[U.heap b (by have:=I.size;omega) (λe=>by have:b=p:=e;omega),I.heap b (by omega) (λe=>by have:=(J b e).1;omega),o.heap b (by omega) id,hz]
  ·rw[etk,aU];exact jK xc U λq j e=>by
    subst e;have:=(nU xc j).1;omega
  ·rw[etk];have xg:cA (λq=>(w4.heap.size<=q/\q<w6.heap.size)/\r.ownBlock≠some q) w9 ((a.take i).map (·.xs)).flatten L:=cA.chg o (λ_ _ _ e=>e) (hR.mono λq hy j=>⟨⟨j.1,hy⟩,j.2⟩);have xh:cA (λq=>w8.heap.size<=q/\q<w9.heap.size) w9 x.xs L2:=xa.reps.mono λq hy j=>⟨by have:=j.1;omega,hy⟩;have keep:∀{xs:List JV} {M:List Value} {G:Nat->Prop},cA G w9 xs M->(∀q,G q->w4.heap.size<=q/\q<w9.heap.size/\r.ownBlock≠some q)->cA (λq=>w4.heap.size<=q/\v'.ownBlock≠some q) w11 xs M:=λhM hG=>by
    have h1:=cA.chg I (λq j _ e=>(hG q j).2.2 e) hM;have h2:=cA.chg U (λq j _ e=>by have:q=p:=e;have:=(hG q j).1;omega) h1;refine h2.mono λq _ j=>⟨(hG q j).1,λe=>?_⟩;rcases xn q e with h|h
    ·exact(hG q j).2.2 h
    ·have:=(hG q j).2.1;omega
   have k1:=keep xg λq j=>⟨j.1.1,by have:=j.1.2;omega,j.2⟩;have k2:=keep xh λq j=>⟨by have:=j.1;omega,j.2,λe=>by have:=(J q e).2;have:=j.1;omega⟩;exact cA.app k1 k2
 ·rintro w6 g Lp ⟨r,L,hc,hz,hh,s6,hO,hR⟩;simp only[aG];rw[dU,cH (fJ _),cP];rw[bR]at hO hR;refine bZ hh rfl ?_;have ht:b<w4.heap.size:=fA hj;have hV:cM (yE w4.heap.size) w6 (vD a) [i64 5,.bool false,str [],r,.slice none 0 0]:=
   cM.mk (v:=vD a) hO.sl (hR.mono λq _ j=>j.1) (SlAt.nil w6 0) ⟨by show(a.map (·.xs)).flatten.length<=_;omega,by simp[vD,JV.ks],by simp[vD,JV.t],by simp[vD,JV.ks]⟩ (λ_ k hk=>(gZ hO hk).1) (λh=>by simp[vD,JV.ks]at h)
  exact BP rfl (by rw[hz];exact hj) rfl (by omega) (ho.trans hc) (hV.at ht (by omega)) hK
theorem aDC(l:Str):∀n,Lib.repeatL l n=(List.replicate n l).flatten
 |0=>rfl
 |n+1=>by rw[Lib.repeatL,aDC l n,DW,iL]
theorem JN{s:Str}{K:Q0}(j:s.length<=1000)(hn:n<=1000000)(o:∀w',Ext w w'->K (str (List.replicate n s).flatten) w'):aC P0 183 [str s,i64 (n:Nat)] w K:=by
 refine fX (args:=#[str s,i64 (n:Nat)]) Tryz.call183 ((Tryz.strings_Repeat (ofL s) n w (by omega) (by rw[fT];exact cC (lQ j hn) (by decide))).mono ?_);rintro e w' ⟨rfl,hb⟩;rw[eM,aDC];exact⟨_,rfl,o _ (Chg.of_below hb)⟩
theorem SZ{s t:Str}{K:Q0}(o:s.length<=1000000)(j:K (.tuple #[str (Lib.trimSuffix s t),.bool (Lib.hasSuffix s t)]) w):aC P0 182 [str s,str t] w K:=by
 refine fX (args:=#[str s,str t]) Tryz.call182 ((Tryz.strings_CutSuffix (ofL s) (ofL t) w (by rw[fT];omega)).mono ?_);rintro e w' ⟨rfl,rfl⟩;rw[eM,eM];exact⟨_,rfl,j⟩
theorem Xi{K:Q0}(j:K (i64 (nS c)) w):aC P0 184 [.int .u8 (c.toNat:Nat)] w K:=by
 refine YB ?_;unfold aEY;have hd:∀n:Nat,n<256->decide (((c.toNat:Nat):Int)=(n:Int))=decide (c=UInt8.ofNat n):=λn hn=>by
  by_cases e:c=UInt8.ofNat n
  ·have:c.toNat=n:=by rw[e,jS];omega
   rw[bH e,bH (by omega)]
  ·rw[cH e,cH];intro h;apply e;apply kO.1;rw[jS];omega
 have d1:decide (((c.toNat:Nat):Int)=110)=decide (c=110):=hd 110 (by omega);have d2:decide (((c.toNat:Nat):Int)=115)=decide (c=115):=hd 115 (by omega);have d3:decide (((c.toNat:Nat):Int)=108)=decide (c=108):=hd 108 (by omega);have d4:decide (((c.toNat:Nat):Int)=111)=decide (c=111):=hd 111 (by omega);unfold nS at j;rw[bO];rw[d1,aO];refine⟨λe=>?_,λe=>?_⟩
 ·rw[aJ e]at j;exact j
 rw[aE e]at j;rw[bO,d2,aO];refine⟨λe=>?_,λe=>?_⟩
 ·rw[aJ e]at j;exact j
 rw[aE e]at j;rw[bO,d3,aO];refine⟨λe=>?_,λe=>?_⟩
 ·rw[aJ e]at j;exact j
 rw[aE e]at j;rw[bO,d4,aO];refine⟨λe=>?_,λe=>?_⟩
 ·rw[aJ e]at j;exact j
 rw[aE e]at j;exact j
abbrev FT:TypeId:=162
theorem wU{α:Type}{p:α->Bool}{l:List α}{x:α}(hi:l[i]?=some x):(l.take (i+1)).all p=((l.take i).all p&&p x):=by
 rw[dG,hi,Dy];simp
theorem aBY{f:FnM}{fv:Value}{a:List JV}{sv:Value}{K:Q0}(h:eH w sv a)(xn:fC fv=true)(hm:Lib.hasSuffix f.takes [46]=Hd f.takes)(ht:Lib.trimSuffix f.takes [46]=if Hd f.takes then f.takes.dropLast else f.takes)(xm:f.takes.length<=100)(xk:f.least<=100)
  (hl:a.length<=1000)(hK:∀w',Ext w w'->K (.bool (xW f a)) w'):aC P0 128 [.agg [str f.takes,i64 (f.least:Nat),fv].toArray,sv] w K:=by
 refine Za ?_;unfold aFi;refine fY (z:=[str f.takes,i64 (f.least:Nat),fv]) λp w1 hp xi hz xc=>?_;rw[bT,bW,dY];refine⟨str f.takes,by rw[cG,hz];rfl,?_⟩;refine SZ (by omega) ?_;simp only[bL];refine⟨_,rfl,_,rfl,?_⟩;have xe:f.takes.dropLast.length<=100:=by rw[List.length_dropLast];omega
 refine bU.cut (λst w'=>st=[str (xK f.takes a.length)]/\Ext w1 w') ?_ ?_
 ·rw[hm,ht,bY];refine⟨λhmany=>?_,λhmany=>?_⟩
  ·rw[hmany,aJ rfl,h.len];refine JN (by omega) (by omega) λw4 xb=>?_;refine⟨?_,xb⟩;unfold xK;rw[aJ hmany]
  ·refine⟨?_,Chg.refl _ _⟩;unfold xK;rw[hmany];simp
 rintro st g w5 ⟨rfl,ho⟩;generalize hk:xK f.takes a.length=ks at*
 have hc:=xc.trans ho;simp only[aG];rw[h.len,gC,gD];simp only[mI];have xl:ks.length<=1000000:=by
  rw[<-hk];unfold xK;split
  ·rw[List.length_flatten];simp only[List.map_replicate,List.sum_replicate_nat];exact cC (lQ hl xe) (by decide)
  ·omega
 have e1:decide ((a.length:Int)≠(ks.length:Int))=!decide (a.length=ks.length):=by
  by_cases e:a.length=ks.length
  ·rw[e];simp
  ·rw[bH (by omega),cH e];rfl
 rw[e1];refine GdW.look (decide ((a.length:Int)<(f.least:Int))) (λ_ J hJ=>?_) λg=>?_
 ·rw[h.len,bT,bW,dY];refine⟨i64 (f.least:Nat),by rw[cG,ho.at hz id];rfl,?_⟩;rw[dU];exact hJ
 simp only[aG,fU];have hx:xW f a=(decide (a.length=ks.length)&&decide (f.least<=a.length)&&(a.zip ks).all λp=>decide (nS p.2<0)||decide (p.1.k=nS p.2)):=by unfold xW;rw[hk]
 rw[hx]at hK;rw[bY];refine⟨λj=>?_,λhq=>?_⟩
 ·have:(decide (a.length=ks.length)&&decide (f.least<=a.length))=false:=by
   cases h1:decide (a.length=ks.length)with
   |false=>rfl
   |true=>
    rw[h1]at j;simp only[iW,pJ,bD]at j;rw[iB,cH (by omega)]
  rw[this]at hK;exact hK w5 hc
 ·simp only[lS,Bool.not_eq_false',bD,decide_eq_false_iff_not]at hq;obtain⟨hv,xg⟩:=hq;have:(decide (a.length=ks.length)&&decide (f.least<=a.length))=true:=by rw[bH hv,bH (by omega)];rfl
  rw[this,iB]at hK;rw[h.len];refine mT a.length (λi w'=>Ext w w'/\((a.zip ks).take i).all (λp=>decide (nS p.2<0)||decide (p.1.k=nS p.2))=true) ⟨hc,by simp⟩ ?_ ?_
  ·rintro i w9 g L hi ⟨I,o⟩ hL;obtain⟨x,hj⟩:∃x,a[i]?=some x:=⟨_,List.getElem?_eq_getElem hi⟩;obtain⟨c,hy⟩:∃c,ks[i]?=some c:=⟨_,List.getElem?_eq_getElem (by omega)⟩;have hh:(a.zip ks)[i]?=some (x,c):=by rw[List.getElem?_zip_eq_some];exact⟨hj,hy⟩
   have hs:(i:Int)<(a.length:Int):=by omega
   simp only[aG];rw[dU,bH hs,dS];refine h.at_old I hj λds xd=>?_;refine wS (xd.ext I) λq w11 sq kq hQ U=>?_;rw[IJ];refine⟨by omega,c,by rw[aW];exact hy,?_⟩;refine Xi ?_;rw[mX];simp only[fQ];refine GdW.look (!decide (x.k=nS c)) (λ_ J hJ=>?_) λg=>?_
   ·simp only[wsv,wsg,wsh,wsl,aM,aK,aD,fB,Nat.reduceAdd,Nat.reduceLT,aF,aA,aI,aH,bP,reduceCtorEq,wsh,hQ.hb];have:decide (x.k≠nS c)=!decide (x.k=nS c):=by simp
    rw[this]at*
    exact hJ
   simp only[aG,fK];rw[bY];refine⟨λj=>?_,λhgood=>?_⟩
   ·simp only[aL,bD,dZ,decide_eq_false_iff_not]at j;have:(a.zip ks).all (λp=>decide (nS p.2<0)||decide (p.1.k=nS p.2))=false:=by
     rw[List.all_eq_false];refine⟨(x,c),bG hh,?_⟩;simp only[cQ,bD,not_or];exact⟨by omega,j.2⟩
    rw[this]at hK;exact hK w11 (I.trans U)
   ·rw[cI,up1 (by omega)];refine hL w11 ⟨I.trans U,?_⟩;rw[wU hh,o,iB];simp only[cQ,bD];by_cases hr:nS c<0
    ·exact .inl hr
    ·right;rw[bH (show(0:Int)<=nS c by omega),iB]at hgood;simpa using hgood
  ·rintro w9 g L ⟨I,o⟩;simp only[aG];rw[dU,cH (fJ _),cP];have xa:(a.zip ks).length=a.length:=by rw[rV];omega
   rw[<-xa,bR]at o;rw[o]at hK;exact hK w9 I
end
def fnX:List (Str×FnM×FuncId):=[([97,98,115],SI,159),([99,111,110,99,97,116],Ak,160),([99,111,110,116,97,105,110,115],Di,161),([106,111,105,110],NV,162),([107,101,121,115],NU,163),([108,101,110,103,116,104],sX,165),([108,111,111,107,117,112],Hv,166),([108,111,119,101,114],KL,167),([109,97,120],SH,169),([109,101,114,103,101],KJ,171),([109,105,110],SG,172),([114,97,110,103,101],KI,173),([114,101,118,101,114,115,101],tP,174),([115,112,108,105,116],KH,175),([115,117,98,115,116,114],Hu,176),([116,111,105,110,116],KG,177),([116,111,115,116,114,105,110,103],Dh,178),([117,112,112,101,114],KF,179),([118,97,108,117,101,115],Ht,180)]
abbrev fnV(f:FnM)(g:FuncId):Value:=.agg [str f.takes,i64 (f.least:Nat),.func (.func g) #[] #[]].toArray
def fnP:List (Str×Value):=fnX.map λe=>(e.1,fnV e.2.1 e.2.2)
theorem aBV:fnT=fnX.map λe=>(e.1,e.2.1):=rfl
def vA:List (Str×FnM×FuncId)->Str->Option (FnM×FuncId)
 |[],_=>none
 |(a,v)::m,k=>if k=a then some v else vA m k
theorem NX(k:Str):∀l:List (Str×FnM×FuncId),tN (l.map λe=>(e.1,fnV e.2.1 e.2.2)) k=(vA l k).map λv=>fnV v.1 v.2
 |[]=>rfl
 |(a,v)::m=>by
  simp only[dC,tN,vA]
  split
  ·rfl
  ·exact NX k m
theorem NW(k:Str):∀l:List (Str×FnM×FuncId),BD (l.map λe=>(e.1,e.2.1)) k=(vA l k).map λv=>v.1
 |[]=>rfl
 |(a,v)::m=>by
  simp only[dC,BD,vA]
  split
  ·rfl
  ·exact NW k m
theorem HA{k:Str}{v:FnM×FuncId}:∀{l:List (Str×FnM×FuncId)},vA l k=some v->(k,v)∈l
 |[],h=>by cases h
 |(a,u)::m,h=>by
  simp only[vA]at h
  split at h
  ·rename_i e;subst e;cases h;exact bA
  ·exact aR _ (HA h)
section
variable [HX]
theorem aEf{K:Q0}(hK:∀b w',Ext w w'->LG w' b fnP->K (.map (some b)) w'):aC P0 126 [] w K:=by
 refine Zc ?_;unfold aFk;refine Kn (KT:=ST) (ET:=FT) (by kernel_rfl) (.inl rfl) λb w1 hb hc hm j=>?_;have key:∀{m:List (Str×Value)} {w2:World} {k t:Str} {n:Int} {fv:Value} {K':World->Prop},LG w2 b m->Ext w w2->tN m k=none->
   (∀w3,LG w3 b (m++[(k,.agg [str t,i64 n,fv].toArray)])->Ext w w3->K' w3)->nY P0 (Instr.mapUpdate 164 (.map (some b)) (str k) (.agg [str t,i64 n,fv].toArray)) w2 K':=λ{m w2 k t n fv K'} hm j hn J=>
  WH (KT:=ST) (ET:=FT) (by kernel_rfl) (by kernel_rfl) hm hn λw3 U o I=>J w3 o (j.new I (by omega))
 have pf:∀(c:List Value) (i:Nat) (g:FuncId) (r:List (Nat×Nat×Value)) (K:List Value->Prop),dJ c ((i,1,.func (.func g) #[] #[])::r) K↔i<c.length/\dJ (c.set i (.func (.func g) #[] #[])) r K:=λc i g r K=>uP c i _ r K rfl;simp only[eY,dI,pf,cW,aB,aN,aY,bB];refine⟨by omega,by omega,by omega,?_⟩;refine key hm j (by rfl) λw2 hm j=>?_;refine⟨by omega,by omega,by omega,?_⟩;refine key hm j (by rfl) λw3 hm j=>?_;refine⟨by omega,by omega,by omega,?_⟩;refine key hm j (by rfl) λw4 hm j=>?_;refine⟨by omega,by omega,by omega,?_⟩;refine key hm j (by rfl) λw5 hm j=>?_;refine⟨by omega,by omega,by omega,?_⟩;refine key hm j (by rfl) λw6 hm j=>?_;refine⟨by omega,by omega,by omega,?_⟩;refine key hm j (by rfl) λw7 hm j=>?_;refine⟨by omega,by omega,by omega,?_⟩;refine key hm j (by rfl) λw8 hm j=>?_;refine⟨by omega,by omega,by omega,?_⟩;refine key hm j (by rfl) λw9 hm j=>?_;refine⟨by omega,by omega,by omega,?_⟩;refine key hm j (by rfl) λw10 hm j=>?_;refine⟨by omega,by omega,by omega,?_⟩;refine key hm j (by rfl) λw11 hm j=>?_;refine⟨by omega,by omega,by omega,?_⟩;refine key hm j (by rfl) λw12 hm j=>?_;refine⟨by omega,by omega,by omega,?_⟩;refine key hm j (by rfl) λw13 hm j=>?_;refine⟨by omega,by omega,by omega,?_⟩;refine key hm j (by rfl) λw14 hm j=>?_;refine⟨by omega,by omega,by omega,?_⟩;refine key hm j (by rfl) λw15 hm j=>?_;refine⟨by omega,by omega,by omega,?_⟩;refine key hm j (by rfl) λw16 hm j=>?_;refine⟨by omega,by omega,by omega,?_⟩;refine key hm j (by rfl) λw17 hm j=>?_;refine⟨by omega,by omega,by omega,?_⟩;refine key hm j (by rfl) λw18 hm j=>?_;refine⟨by omega,by omega,by omega,?_⟩;refine key hm j (by rfl) λw19 hm j=>?_;refine⟨by omega,by omega,by omega,?_⟩;refine key hm j (by rfl) λw20 hm j=>?_;exact hK b _ j hm
end
theorem aD1{f:FnM}{a:List JV}(j:f.takes=[c])(I:c≠46)(h:xW f a=true):∃x,a=[x]/\(nS c<0\/x.k=nS c):=by
 have o:xK f.takes a.length=[c]:=by unfold xK Hd;rw[j];simp[I]
 unfold xW at h;rw[o]at h;simp only[aL,bD,aB,aN]at h;obtain⟨⟨h1,_⟩,J⟩:=h
 match a,h1 with
 |[x],_=>exact⟨x,rfl,by simpa using J⟩
structure aAh(a:List JV):Prop where
 good:∀x∈a,dK x=true
 len:a.length<=60
 pairs:(Iz a).length<=90000
theorem Ft{x:JV}(h:dK x=true):x.xs.length<=2000:=by
 simp only[dK,aL,bD]at h;have hd:=h.1.2;have j:=h.1.1;rw[show(24:Nat)=23+1 from rfl,iA,jB]at hd;rw[vW]at j;have:=(xA (m:=23) (by omega) x.xs 1 hd (by omega) j).1;omega
theorem Ea:∀(a:List JV),(∀x∈a,dK x=true)->(a.map (·.xs)).flatten.length<=a.length*2000
 |[],_=>by simp
 |x::a,h=>by
  have:=Ea a λy j=>h y (aR _ j)
  have h1:=Ft (h x bA)
  simp only[dC,iL,aU,aB]
  omega
theorem aD0{x:JV}(h:kA x=true)(k3:x.k=3):goodN x.t=true/\x.xs=[]/\x.ks=[]:=by
 rw[jJ,aL]at h;obtain⟨_,_,_,_,I,o,j,_⟩:=kB h.1;refine⟨j k3,?_,?_⟩
 ·refine eL λe=>?_;have:x.xs.length≠0:=λh0=>e (bC h0);have:=I this;omega
 ·refine eL λe=>?_;have:=o e;omega
theorem kv:nS 110=3/\nS 115=4/\nS 108=5/\nS 111=6/\nS 118=-1:=by decide
section
variable [HX]
def Qp(g:FuncId)(f:FnM):Prop:=∀{a:List JV} {sv:Value} {w:World} {K:Q0},uE w->eH w sv a->aAh a->xW f a=true->DoK (f.act a) w K->aC P0 g [sv] w K
theorem aFC{x:JV}(h:dK x=true):x.t.length<=16384:=MI (pW h).plain
theorem PZ:Qp 160 Ak:=by
 intro a sv w K hT h j o J;obtain⟨kn,ks,kl,ko,kvv⟩:=kv;exact Qe h (λx I=>(pW (j.good x I)).few) (by have:=j.len;omega) (cC (Ea a j.good) (by have:=j.len;omega)) J
theorem PY:Qp 165 sX:=by
 intro a sv w K hT h I j o;obtain⟨kn,ks,kl,ko,kvv⟩:=kv;obtain⟨x,rfl,h1⟩:=aD1 (f:=sX) rfl (by decide) j;have:=aFC (I.good x (by simp));exact Sa hT h (by omega) o
theorem MW:Qp 174 tP:=by
 intro a sv w K hT h I j o;obtain⟨kn,ks,kl,ko,kvv⟩:=kv;obtain⟨x,rfl,h1⟩:=aD1 (f:=tP) rfl (by decide) j;exact OX h (pW (I.good x (by simp))) o
theorem QH:∀e∈fnX,Lib.hasSuffix e.2.1.takes [46]=Hd e.2.1.takes/\Lib.trimSuffix e.2.1.takes [46]=(if Hd e.2.1.takes then e.2.1.takes.dropLast else e.2.1.takes)/\e.2.1.takes.length<=100/\e.2.1.least<=100:=by decide
theorem Xy{name:Str}(yf:∀f g,vA fnX name=some (f,g)->Qp g f){a:List JV}{sv:Value}{K:Q0}(hT:uE w)(h:eH w sv a)(hl:a.length<=60)(ys:(∀x∈a,dK x=true)->(Iz a).length<=90000)
  (hK:∀cs w',Ext w w'->cM (yE w.heap.size) w' (rG name a).1 cs->K (.tuple #[.agg cs.toArray,i64 (rG name a).2]) w'):aC P0 94 [str name,sv] w K:=by
 refine aCg ?_;unfold W94;refine bI λb w1 hb zg yd hj=>?_;have s1:=hj.size;have ends:∀{v:JV} {cs:List Value} {c:Int} {w':World},rG name a=(v,c)->Ext w1 w'->cM (λq=>w.heap.size<=q/\q≠b) w' v cs->
   stW 5 (.pointer (some ⟨b,0,none⟩)) (.agg cs.toArray) w' λw4=>ldW true 5 (.pointer (some ⟨b,0,none⟩)) w4 λr5=>K (.tuple #[r5,i64 c]) w4:=λ{v cs c w'} hc hx hv=>by
  rw[hc]at hK;exact Er (w0:=w) (K:=λr w=>K (.tuple #[r,i64 c]) w) (hx.at yd id) rfl (by omega) (hj.trans hx) hv λw'' xu zb=>hK _ w'' xu zb
 refine AY (p:=λx=> !dK x) (h.ext hj) (λz hz {cs w3 K3} yn xj xn=>?_) λw2 xr=>?_
 ·refine zK ?_;refine Zd ?_;unfold aFl;refine kJ xj λq w4 sv4 kv4 xo xh _=>?_;refine xo.ld λcs4 ht=>?_;refine Ib ht λw5 xg=>?_;rw[eP];exact xn w5 (xh.trans xg)
 rw[bY];refine⟨λye=>?_,λhgood=>?_⟩
 ·rw[cW];exact ends (v:=JV.null) (cs:=flat 0 false []) (by unfold rG;rw[aJ ye]) xr (gP (by simp))
 have xz:∀x∈a,dK x=true:=λx hx=>by
  have:=oU.1 hgood x hx;simpa using this
 have hF:aAh a:=⟨xz,hl,ys xz⟩;refine aEf λmb w6 ym hm=>?_;have yb:=NX name fnX;have ya:BD fnT name=(vA fnX name).map λv=>v.1:=by rw[aBV];exact NW name fnX
 have hcall:rG name a=(match BD fnT name with
  |none=>(JV.null,70)
  |some f=>
   if a.any (λx=> !gJ x)then(uV,0)else
   if !xW f a then(JV.null,71)else
   match f.act a with
   |none=>(JV.null,71)
   |some v=>if dK v then(v,0)else(JV.null,3)):=by
  unfold rG;rw[aE (by rw[hgood];simp)]<;>rfl
 have xc:=xr.trans ym;refine WI (KT:=ST) (ET:=FT) (z:=.agg #[str [],i64 0,.nilFunc]) (by kernel_rfl) (by kernel_rfl) (by kernel_rfl) hm (λv hv=>?_) (λo=>?_)
 rotate_left
 ·have o:vA fnX name=none:=by
   have o:tN (fnX.map λe=>(e.1,fnV e.2.1 e.2.2)) name=none:=o;rw[yb]at o;cases hq:vA fnX name with
   |none=>rfl
   |some v=>rw[hq]at o;cases o
  rw[ya,o]at hcall;simp only[bL];refine⟨_,rfl,_,rfl,?_⟩;refine bI λp w7 hp yl xm xf=>?_;refine cK (l:=[str [],i64 0,.nilFunc]) xm rfl rfl rfl λw8 yk xa xk=>?_;have J:=xc.trans (xf.new xk (by omega));rw[eP,iS,dS,cW];exact ends (v:=JV.null) (cs:=flat 0 false []) hcall J (gP (by simp))
 obtain⟨e,he,yx⟩:∃e:FnM×FuncId,vA fnX name=some e/\v=fnV e.1 e.2:=by
  have hv:tN (fnX.map λe=>(e.1,fnV e.2.1 e.2.2)) name=some v:=hv;rw[yb]at hv;cases hq:vA fnX name with
  |none=>rw[hq]at hv;cases hv
  |some u=>rw[hq]at hv;exact⟨u,rfl,(fN hv).symm⟩
 obtain⟨f,g⟩:=e;subst yx;have xx:=HA he;have yz:Qp g f:=yf f g he;obtain⟨yr,yq,yp,yo⟩:=QH _ xx;rw[ya,he]at hcall;simp only[gK]at hcall;simp only[bL];refine⟨_,rfl,_,rfl,?_⟩;refine bI λp w7 hp yl xm xf=>?_;refine cK (l:=[str f.takes,i64 (f.least:Nat),.func (.func g) #[] #[]]) xm rfl rfl rfl λw8 yk xa xk=>?_;have J:=xc.trans (xf.new xk (by omega));rw[eP,iW,cP];have h8:=(h.ext hj).ext J;refine AY (p:=λx=> !gJ x) h8 (λz hz {cs w3 K3} yn xj xn=>?_) λw12 hh=>?_
 ·refine zK ?_;refine Zb ?_;unfold aFj;refine kJ xj λq w4 sv4 kv4 xo xh _=>?_;refine xo.ld λcs4 ht=>?_;refine IH z ht λw5 xg=>?_;rw[eP];exact xn w5 (xh.trans xg)
 have hs:=J.trans hh;rw[bY];refine⟨λxv=>?_,λxy=>?_⟩
 ·rw[aJ xv]at hcall;refine sO λw13 xt=>?_;exact ends (v:=uV) (cs:=flat 1 false []) hcall (hs.trans xt) (gP (by simp))
 rw[aE (by rw[xy];simp)]at hcall;refine bZ (hh.at xa id) rfl ?_;refine aBY (f:=f) (h8.ext hh) rfl yr yq yp yo (by omega) λw16 xd=>?_;have j:=hs.trans xd;rw[eP,bY];refine⟨λyw=>?_,λhi=>?_⟩
 ·rw[aJ yw]at hcall;rw[cW];exact ends (v:=JV.null) (cs:=flat 0 false []) hcall j (gP (by simp))
 rw[aE (by rw[hi];simp)]at hcall;have hi:xW f a=true:=by simpa using hi
 have xl:=(hh.trans xd).at xa id;rw[bT,dY];refine⟨.func (.func g) #[] #[],by rw[bW,cG,xl];rfl,?_⟩;refine zK ?_;have yh:=hT.ext (hj.trans j);refine yz yh ((h.ext hj).ext j) hF hi λcs v ok w20 xq hV hr=>?_;have hr:f.act a=if ok=true then some v else none:=hr;simp only[bL];refine⟨_,rfl,_,rfl,?_⟩;have xi:=j.trans xq;refine bI λq w21 hq zd za xp=>?_;refine cK za hV.rep.len rfl hV.rep.all_one λw22 zc hy yc=>?_;have U:Ext w20 w22:=xp.new yc (by omega);have ho:=xi.trans U;have s16:=j.size;have zi:=fA yd;have xe:cM (yE w16.heap.size) w22 v cs:=hV.ext' U;rw[eP,bY];refine⟨λo=>?_,λyt=>?_⟩
 ·rw[hr,aE (by simpa using o)]at hcall;rw[cW];exact ends (v:=JV.null) (cs:=flat 0 false []) hcall ho (gP (by simp))
 rw[hr,aJ (by simpa using yt)]at hcall;refine bZ hy hV.rep.len ?_;refine Ib xe.rep λw26 I=>?_;have hk:=ho.trans I;rw[eP,bY];refine⟨λyu=>?_,λhg=>?_⟩
 ·simp only[aE (show¬dK v=true by simpa using yu)]at hcall;rw[cW];exact ends (v:=JV.null) (cs:=flat 0 false []) hcall hk (gP (by simp))
 ·simp only[aJ (show dK v=true by simpa using hg)]at hcall;refine bZ (I.at hy id) hV.rep.len ?_;exact ends (v:=v) hcall hk ((xe.ext' I).at (by omega) (by omega))
end
abbrev zr5:List Value:=[(.int .i64 0),(.bool false),(.string (ofL [])),(.slice none 0 0),(.slice none 0 0)]
theorem IQ{u v:JV}{ds:List Value}{K:Q0}(h1:eX w u cs)(I:eX w v ds)(o:∀t w',eH w' t [u,v]->Ext w w'->inG (yE w.heap.size) t->K t w'):
  dN VT 2 (zr5++zr5) [(0,5,.agg cs.toArray),(5,5,.agg ds.toArray)] w K:=by
 unfold dN;have l1:=h1.len;have l2:=I.len;have hp:∀K:List Value->Prop,K (cs++ds)->dJ (zr5++zr5) [(0,5,.agg cs.toArray),(5,5,.agg ds.toArray)] K:=by
  intro K o;refine⟨by simp[Value.cells,l1],by simp,?_⟩;refine⟨by simp[Value.cells,l2],by simp[Value.cells,l1],?_⟩;have:List.take 5 (List.take 0 (zr5++zr5)++((Value.agg cs.toArray).cells.toList++List.drop (0+5) (zr5++zr5)))++((Value.agg ds.toArray).cells.toList++List.drop (5+5) (List.take 0 (zr5++zr5)++((Value.agg cs.toArray).cells.toList++List.drop (0+5) (zr5++zr5))))=cs++ds:=by
   simp[Value.cells,List.take_append,List.drop_append,l1]
  rw[this];exact o
 refine hp _ ?_;have j:Ext w (w.alloc (.cells (cs++ds).toArray VT)):=Chg.alloc (Chg.refl _ _) _;refine o _ _ ⟨⟨VT,cs++(ds++[]),?_,?_⟩,by simp⟩ j (λq J=>by cases J;exact aV _)
 ·rw[eG];exact(xF (w:=w) (base:=w.heap.size) (e:=VT) (size:=5) (n:=2) (cs:=cs++ds) (aV _) (by rw[aU];omega) (by omega)).sl
 ·simp only[eK];exact⟨cs,ds++[],rfl,h1.ext j,ds,[],rfl,I.ext j,rfl⟩
theorem Xg{u:JV}{K:Q0}(h1:eX w u cs)(I:∀t w',eH w' t [u]->Ext w w'->K t w'):dN VT 1 zr5 [(0,5,.agg cs.toArray)] w K:=
 AE h1.len λt w' o j=>I t w' ⟨⟨VT,cs,o,eK.one' (h1.ext j)⟩,by simp⟩ j
section
variable [HX]
theorem OK{s:Str}{K:Q0}(J:∀w',Ext w w'->K (.agg (flat 4 false s).toArray) w'):aC P0 24 [str s] w K:=by
 refine aC4 ?_;unfold W24;refine bI λb w1 hb U j o=>?_;simp only[wsv,wsg,wsh,wsl,aM,aK,aD,fB,Nat.reduceAdd,Nat.reduceLT,aF,aA,aI,aH,bP,reduceCtorEq];exact iI j rfl rfl rfl λw' I=>J w' (o.new I (by omega))
end
end
end Go.Proofs.YtghhmpppnmoeoaaGreatDoor
namespace Go.Lex
section
open Go Go.Eng Go.Num
structure Tok where
 k:Int
 t:Str
 a:Int
deriving DecidableEq
def jR(c:UInt8):Bool:=(97<=c&&c<=122)||(65<=c&&c<=90)||c==95
def jL(c:UInt8):Bool:=48<=c&&c<=57
def jV(c:UInt8):Bool:=jR c||jL c||c==45
def eS(p:UInt8->Bool):Str->Nat
 |[]=>0
 |c::r=>if p c then eS p r+1 else 0
def qD(p s:Str):Bool:=p.isPrefixOf s
def fW:Nat->Str->Nat×Int
 |0,_=>(0,0)
 |_+1,[]=>(0,0)
 |n+1,c::r=>
  if c==32||c==9||c==13 then((fW n r).1+1,(fW n r).2)
  else if c==35||qD [47,47] (c::r)then
   let k:=eS (λb=>b !=10) (c::r)
   ((fW n ((c::r).drop k)).1+k,(fW n ((c::r).drop k)).2)
  else if qD [47,42] (c::r)then
   let i:=Lib.index (r.drop 1) [42,47]
   if i<0 then(0,40)
   else((fW n ((c::r).drop (i.toNat+4))).1+(i.toNat+4),(fW n ((c::r).drop (i.toNat+4))).2)
  else(0,0)
def nK(k:Nat)(r:Nat×Int):Nat×Int:=if r.2=0 then(r.1+k,0)else(0,r.2)
def escOk(c:UInt8):Bool:=c==34||c==92||c==110||c==116||c==114||c==36
mutual
def oY:Nat->Str->Nat->Nat×Int
 |0,_,_=>(0,40)
 |_+1,[],_=>(0,40)
 |n+1,c::r,d=>
  if c==34 then(1,0)
  else if c==10 then(0,40)
  else if c==92 then
   match r with
   |[]=>(0,40)
   |e::r'=>if escOk e then nK 2 (oY n r' d)else(0,40)
  else if qD [36,123] (c::r)then
   if 24<d+1 then(0,7)
   else
    let i:=BK n (r.drop 1) (d+1)
    if i.2=0 then nK (i.1+2) (oY n ((r.drop 1).drop i.1) d)else(0,i.2)
  else nK 1 (oY n r d)
def BK:Nat->Str->Nat->Nat×Int
 |0,_,_=>(0,40)
 |_+1,[],_=>(0,40)
 |n+1,c::r,d=>
  if c==125 then(1,0)
  else if c==10 then(0,40)
  else if c==123 then
   if 24<d+1 then(0,7)
   else
    let i:=BK n r (d+1)
    if i.2=0 then nK (i.1+1) (BK n (r.drop i.1) d)else(0,i.2)
  else if c==34 then
   let i:=oY n r d
   if i.2=0 then nK (i.1+1) (BK n (r.drop i.1) d)else(0,i.2)
  else nK 1 (BK n r d)
end
def kU:Str->Str
 |[]=>[]
 |c::r=>if c==92||c==34||c==36 then 92::c::kU r else if c==9 then 92::116::kU r else if c==13 then 92::114::kU r else c::kU r
def mV:Nat->Str->Str->Str×Nat×Int
 |0,_,_=>([],0,40)
 |n+1,name,s=>
  let k:=eS (λb=>b !=10) s
  let line:=s.take k
  if line.drop (eS (λb=>b==32||b==9) line)=name then([],k,0)
  else if s.length<=k then([],0,40)
  else
   let x:=mV n name (s.drop (k+1))
   if x.2.2=0 then(kU line++[92,110]++x.1,x.2.1+(k+1),0)else([],0,x.2.2)
def iR(s:Str):Str×Nat×Int:=
 let n:=if jR ((s.drop 2).headD 0)then eS jV (s.drop 2)else 0
 if n=0 then([],0,40)
 else if(s.drop (2+n)).head?=some 10 then
  let x:=mV (s.length+1) ((s.drop 2).take n) (s.drop (2+n+1))
  if x.2.2=0 then(x.1,x.2.1+(2+n+1),0)else([],0,x.2.2)
 else([],0,40)
def yQ:List Str:=[[61,61],[33,61],[60,61],[62,61],[38,38],[124,124]]
def Cd:Str:=[123,125,91,93,40,41,61,43,45,42,47,37,60,62,33,63,58,44,46]
def vX(s:Str):Str:=
 if yQ.contains (s.take 2)then s.take 2 else if Cd.contains (s.headD 0)then s.take 1 else []
def pR(s:Str):Tok×Nat×Int:=
 let c:=s.headD 0
 if c==10 then(⟨5,[10],0⟩,1,0)
 else if jR c then
  let n:=eS jV s
  (⟨1,s.take n,0⟩,n,if 32<n then 3 else 0)
 else if jL c then
  let n:=eS jL s
  (⟨2,s.take n,0⟩,n,if(n<s.length&&jR ((s.drop n).headD 0))||(c==48&&1<n)then 40 else if goodN (s.take n)then 0 else 3)
 else if c==34 then
  let r:=oY (s.length+1) (s.drop 1) 0
  if r.2=0 then(⟨3,(s.drop 1).take (r.1-1),0⟩,r.1+1,0)else(⟨0,[],0⟩,0,r.2)
 else if qD [60,60] s then
  let r:=iR s
  (⟨3,r.1,0⟩,r.2.1,r.2.2)
 else(⟨4,vX s,0⟩,(vX s).length,if(vX s).length=0 then 40 else 0)
def Gh:Nat->Str->Nat->Option Nat
 |0,_,_=>none
 |n+1,s,i=>if s.length<=i then none else if iP s i=0 then some i else Gh n s (i+lF s i)
inductive RS where
 |ok (l:List Tok)
 |bad (code at_:Int)
deriving DecidableEq
def nQ:Nat->Str->Nat->Nat->RS
 |0,_,_,_=>.bad 0 0
 |n+1,s,at_,cnt=>
  let k:=fW (s.length+1) s
  let r:=s.drop k.1
  if k.2≠0 then .bad k.2 (at_+k.1:Nat)
  else if r=[]then .ok [⟨0,[],(at_+k.1:Nat)⟩]
  else
   let o:=pR r
   if o.2.2≠0 then .bad o.2.2 (at_+k.1:Nat)
   else if cnt=4096 then .bad 3 (at_+k.1:Nat)
   else match nQ n (r.drop o.2.1) (at_+k.1+o.2.1) (cnt+1)with
    |.ok l=>.ok (⟨o.1.k,o.1.t,(at_+k.1:Nat)⟩::l)
    |x=>x
def rC(s:Str):RS:=
 if 16384<s.length then .bad 3 0
 else match Gh (s.length+1) s 0 with
  |some i=>.bad 31 (i:Nat)
  |none=>nQ (s.length+1) s 0 0
end
end Go.Lex
namespace Go.Syn
section
open Go Go.Eng Go.Lex
structure Ex where
 k:Int
 t:Str
 args:List Nat
 keys:List Str
 a:Int
deriving DecidableEq
structure Atr where
 n:Str
 e:Nat
 a:Int
deriving DecidableEq
structure Blk where
 typ:Str
 labels:List Str
 attrs:List Atr
 blocks:List Nat
 a:Int
deriving DecidableEq
structure Fl where
 ex:List Ex
 bl:List Blk
 top:List Nat
deriving DecidableEq
structure PS where
 toks:List Tok
 i:Nat
 off:Int
 deep:Nat
 quiet:Bool
 ex:List Ex
 bl:List Blk
inductive R (α:Type) where
 |ok (x:α) (s:PS)
 |err (c a:Int)
def R.bind{α β:Type}(r:R α)(f:α->PS->R β):R β:=match r with
 |.ok x s=>f x s
 |.err c a=>.err c a
def iJ:List Tok->Nat
 |[]=>0
 |t::r=>if t.k=5 then iJ r+1 else 0
def bE(s:PS):PS:=if s.quiet=true then{s with i:=s.i+iJ (s.toks.drop s.i)}else s
def mN(s:PS):Tok:=s.toks.getD s.i ⟨0,[],0⟩
def cur(s:PS):Tok:={mN (bE s)with a:=(mN (bE s)).a+s.off}
def step1(s:PS):PS:={s with i:=s.i+1}
def jE(s:PS):PS:=if(cur s).k≠0 then step1 (bE s)else bE s
def isS(s:PS)(w:Str):Bool:=decide ((cur s).k=4)&&decide ((cur s).t=w)
def bX(s:PS)(w:Str):Bool×PS:=if isS s w=true then(true,step1 (bE s))else(false,bE s)
def oX(s:PS)(w:Str):R Unit:=if isS s w=true then .ok () (step1 (bE s))else .err 50 (cur s).a
def mH(s:PS)(k:Int):R Tok:=if(cur s).k=k then .ok (cur s) (jE s)else .err 50 (cur s).a
def gM(s:PS):PS:={bE s with i:=(bE s).i+iJ (s.toks.drop (bE s).i)}
def rO(s:PS)(e:Ex):R Nat:=.ok s.ex.length {s with ex:=s.ex++[e]}
def within{α:Type}(s:PS)(a:Int)(quiet:Bool)(f:PS->R α):R α:=
 if s.deep=24 then .err 7 a
 else(f {s with deep:=s.deep+1,quiet:=quiet}).bind λx s'=>.ok x {s' with deep:=s.deep,quiet:=s.quiet}
def kS:Str->Str
 |[]=>[]
 |[c]=>if c=92 then []else [c]
 |c::e::r=>if c=92 then(if e=110 then 10 else if e=116 then 9 else if e=114 then 13 else e)::kS r else c::kS (e::r)
mutual
def BV:Nat->Str->Int->Nat
 |0,_,_=>0
 |_+1,[],_=>0
 |n+1,c::r,d=>
  if c=123 then 1+BV n r (d+1)
  else if c=125 then(if d-1=0 then 1 else 1+BV n r (d-1))
  else if c=34 then(1+Br n r)+BV n (r.drop (Br n r)) d
  else 1+BV n r d
def Br:Nat->Str->Nat
 |0,_=>0
 |_+1,[]=>0
 |n+1,c::r=>
  if c=34 then 1
  else if c=92 then(match r with|[]=>1|_::r'=>2+Br n r')
  else if qD [36,123] (c::r)=true then(1+BV n r 0)+Br n (r.drop (BV n r 0))
  else 1+Br n r
end
def Ls(s:Str):Nat:=BV (s.length+1) s 0
def insP:Str->Option (Nat×Nat)
 |[]=>none
 |[_]=>none
 |c::e::r=>
  if c=92 then(insP r).map λx=>(x.1+2,x.2+2)
  else if c=36/\e=123 then some (0,1+Ls (e::r))
  else(insP (e::r)).map λx=>(x.1+1,x.2+1)
def qO(s:PS)(t:Tok):R Str:=if(insP t.t).isSome=true then .err 50 t.a else .ok (kS t.t) s
def pU(E:PS->R Nat)(s:PS)(t:Str)(a:Int):R Nat:=match rC t with
 |.bad c b=>.err c (a+b)
 |.ok l=>(E ⟨l,0,a,s.deep,false,s.ex,s.bl⟩).bind λx q=>(mH q 0).bind λ_ q'=>.ok x {s with ex:=q'.ex,bl:=q'.bl}
def nT(E:PS->R Nat):Nat->PS->Str->Int->List Nat->List Str->R (List Nat×List Str)
 |0,_,_,_,_,_=>.err 0 0
 |n+1,s,rest,a,us,ks=>
  if rest=[]then .ok (us,ks) s
  else match insP rest with
   |none=>.ok (us++[s.ex.length],ks++[[116]]) {s with ex:=s.ex++[⟨5,kS rest,[],[],a⟩]}
   |some (i,e)=>
    let s1:=if 0<i then{s with ex:=s.ex++[⟨5,kS (rest.take i),[],[],a⟩]}else s
    let as1:=if 0<i then us++[s.ex.length]else us
    let ks1:=if 0<i then ks++[[116]]else ks
    if i<e then
     (within s1 (a+i) false λq=>pU E q ((rest.drop (i+2)).take (e-1-(i+2))) (a+i+2)).bind λx s2=>nT E n s2 (rest.drop e) (a+e) (as1++[x]) (ks1++[[101]])
    else nT E n s1 (rest.drop e) (a+e) as1 ks1
def CX(E:PS->R Nat)(s:PS)(t:Tok):R Nat:=
 if(insP t.t).isSome=true then(nT E (t.t.length+1) s t.t (t.a+1) [] []).bind λx s'=>rO s' ⟨6,[],x.1,x.2,t.a⟩
 else rO s ⟨5,kS t.t,[],[],t.a⟩
def Kt:Str:=[102,111,114]
def kIn:Str:=[105,110]
def yW(t:Str):Int:=if t=[110,117,108,108]then 1 else if t=[116,114,117,101]then 2 else if t=[102,97,108,115,101]then 3 else 9
def tY(E:PS->R Nat)(w:Str):Nat->PS->List Nat->R (List Nat)
 |0,_,_=>.err 0 0
 |n+1,s,out=>
  if(bX s w).1=true then .ok out (bX s w).2
  else if out=[]then(E (bX s w).2).bind λx s'=>tY E w n s' (out++[x])
  else(oX (bX s w).2 [44]).bind λ_ s1=>
   if(bX s1 w).1=true then .ok out (bX s1 w).2
   else(E (bX s1 w).2).bind λx s'=>tY E w n s' (out++[x])
def FW(E:PS->R Nat)(w:Str)(s:PS):R (List Nat):=tY E w (s.toks.length+1) s []
def Dd(E:PS->R Nat)(s:PS)(a:Int):R Ex:=
 let s1:=step1 s
 if(cur s1).k≠1\/(cur s1).t≠Kt then(FW E [93] (bE s1)).bind λus s'=>.ok ⟨7,[],us,[],a⟩ s'
 else(mH (step1 (bE s1)) 1).bind λt s2=>(mH s2 1).bind λu s3=>
  if u.t≠kIn then .err 50 u.a
  else(E s3).bind λx s4=>(oX s4 [58]).bind λ_ s5=>(E s5).bind λy s6=>(oX s6 [93]).bind λ_ s7=>.ok ⟨29,t.t,[x,y],[],a⟩ s7
def Ge(E:PS->R Nat)(a:Int):Nat->PS->List Nat->List Str->R Ex
 |0,_,_,_=>.err 0 0
 |n+1,s,us,ks=>
  if(bX s [125]).1=true then .ok ⟨8,[],us,ks,a⟩ (bX s [125]).2
  else
   let s1:=(bX s [125]).2
   let t:=cur s1
   let s2:=jE s1
   (if t.k=3 then qO s2 t else if t.k=1 then .ok t.t s2 else .err 50 t.a).bind λk s3=>
     if ks.contains k=true then .err 2 t.a
     else(oX s3 [61]).bind λ_ s4=>(E s4).bind λx s5=>
      if(bX s5 [44]).1=false/\(cur (bX s5 [44]).2).k≠5/\isS (bE (bX s5 [44]).2) [125]=false then .err 50 (cur (bE (bX s5 [44]).2)).a
      else Ge E a n (gM (if(bX s5 [44]).1=true then(bX s5 [44]).2 else bE (bX s5 [44]).2)) (us++[x]) (ks++[k])
def Pk(E:PS->R Nat)(s:PS)(a:Int):R Ex:=Ge E a (s.toks.length+1) (gM (step1 s)) [] []
def BX(E:PS->R Nat)(s:PS):R Nat:=
 let t:=cur s
 let s1:=bE s
 if t.k=2 then rO (step1 s1) ⟨4,t.t,[],[],t.a⟩
 else if t.k=3 then CX E (step1 s1) t
 else if t.k=1/\t.t≠Kt then
  if isS (step1 s1) [40]=true then
   (within (bE (step1 s1)) (cur (step1 s1)).a true λq=>FW E [41] (step1 q)).bind λus s2=>rO s2 ⟨12,t.t,us,[],t.a⟩
  else rO (bE (step1 s1)) ⟨yW t.t,if yW t.t=9 then t.t else [],[],[],t.a⟩
 else if isS s1 [40]=true then within s1 t.a true λq=>(E (step1 q)).bind λx q1=>(oX q1 [41]).bind λ_ q2=>.ok x q2
 else if isS s1 [91]=true then(within s1 t.a true λq=>Dd E q t.a).bind λe s2=>rO s2 e
 else if isS s1 [123]=true then(within s1 t.a false λq=>Pk E q t.a).bind λe s2=>rO s2 e
 else .err 50 t.a
def rZ(E:PS->R Nat):Nat->PS->Nat->R Nat
 |0,_,_=>.err 0 0
 |n+1,s,x=>
  let t:=cur s
  let s1:=bE s
  if(bX s1 [46]).1=true then(mH (bX s1 [46]).2 1).bind λu s2=>(rO s2 ⟨10,u.t,[x],[],t.a⟩).bind λy s3=>rZ E n s3 y
  else if isS s1 [91]=true then
   (within s1 t.a true λq=>
     if(bX (step1 q) [42]).1=true then(oX (bX (step1 q) [42]).2 [93]).bind λ_ q2=>.ok none q2
     else(E (bX (step1 q) [42]).2).bind λy q1=>(oX q1 [93]).bind λ_ q2=>.ok (some y) q2).bind λo s2=>
     match o with
     |some y=>(rO s2 ⟨11,[],[x,y],[],t.a⟩).bind λz s3=>rZ E n s3 z
     |none=>(oX s2 [46]).bind λ_ s3=>(mH s3 1).bind λu s4=>(rO s4 ⟨30,u.t,[x],[],t.a⟩).bind λz s5=>rZ E n s5 z
  else .ok x s1
def Ey(E:PS->R Nat)(s:PS):R Nat:=(BX E s).bind λx s1=>rZ E (s.toks.length+1) s1 x
def AC(E S:PS->R Nat)(s:PS):R Nat:=
 let t:=cur s
 let s1:=bE s
 if isS s1 [33]=true then(within s1 t.a s1.quiet λq=>S (step1 q)).bind λx s2=>rO s2 ⟨14,[],[x],[],t.a⟩
 else if isS s1 [45]=true then(within s1 t.a s1.quiet λq=>S (step1 q)).bind λx s2=>rO s2 ⟨13,[],[x],[],t.a⟩
 else Ey E s1
def Ku(n:Nat)(w:Str):Int:=
 if n=0 then(if w=[124,124]then 27 else 0)
 else if n=1 then(if w=[38,38]then 26 else 0)
 else if n=2 then(if w=[61,61]then 20 else if w=[33,61]then 21 else 0)
 else if n=3 then(if w=[60]then 22 else if w=[62]then 23 else if w=[60,61]then 24 else if w=[62,61]then 25 else 0)
 else if n=4 then(if w=[43]then 15 else if w=[45]then 16 else 0)
 else if n=5 then(if w=[42]then 17 else if w=[47]then 18 else if w=[37]then 19 else 0)
 else 0
def xI(t:Tok)(n:Nat):Int:=if t.k=4 then Ku n t.t else 0
def BG(J:PS->R Nat)(n:Nat):Nat->PS->Nat->R Nat
 |0,_,_=>.err 0 0
 |f+1,s,a=>
  let t:=cur s
  if xI t n=0 then .ok a (bE s)
  else(J (step1 (bE s))).bind λb s1=>(rO s1 ⟨xI t n,[],[a,b],[],t.a⟩).bind λx s2=>BG J n f s2 x
def uY(E S:PS->R Nat):Nat->PS->R Nat
 |0=>AC E S
 |m+1=>λs=>(uY E S m s).bind λa s1=>BG (uY E S m) (5-m) (s.toks.length+1) s1 a
def Dn(E S:PS->R Nat)(s:PS):R Nat:=(uY E S 6 s).bind λa s1=>
 let t:=cur s1
 if(bX s1 [63]).1=true then
  (within (bX s1 [63]).2 t.a (bX s1 [63]).2.quiet λq=>(E q).bind λx q1=>(oX q1 [58]).bind λ_ q2=>(E q2).bind λy q3=>.ok (x,y) q3).bind λz s2=>rO s2 ⟨28,[],[a,z.1,z.2],[],t.a⟩
 else .ok a (bX s1 [63]).2
def dead:PS->R Nat:=λ_=>.err 0 0
def tT:Nat->(PS->R Nat)×(PS->R Nat)
 |0=>(Dn dead dead,AC dead dead)
 |d+1=>(Dn (tT d).1 (tT d).2,AC (tT d).1 (tT d).2)
def sH:Nat->PS->List Str->R (List Str)
 |0,_,_=>.err 0 0
 |n+1,s,ls=>
  if(cur s).k=3 then(qO (jE s) (cur s)).bind λl s1=>sH n s1 (ls++[l])
  else .ok ls (bE s)
def Df(E B:PS->R Nat)(s:PS)(us:List Atr)(bs:List Nat):R (List Atr×List Nat):=(mH s 1).bind λt s1=>
 if(bX s1 [61]).1=true then(E (bX s1 [61]).2).bind λx s2=>.ok (us++[⟨t.t,x,t.a⟩],bs) s2
 else(B {(bX s1 [61]).2 with i:=(bX s1 [61]).2.i-1}).bind λx s2=>.ok (us,bs++[x]) s2
def rS(E B:PS->R Nat):Nat->PS->List Atr->List Nat->R (List Atr×List Nat)
 |0,_,_,_=>.err 0 0
 |n+1,s,us,bs=>
  if(bX s [125]).1=true then .ok (us,bs) (bX s [125]).2
  else(Df E B (bX s [125]).2 us bs).bind λx s1=>
   if(cur s1).k≠5/\isS (bE s1) [125]=false then .err 50 (cur (bE s1)).a
   else rS E B n (gM (bE s1)) x.1 x.2
def zL(E B:PS->R Nat)(s:PS):R Nat:=(mH s 1).bind λt s1=>(sH (s.toks.length+1) s1 []).bind λls s2=>
 if isS s2 [123]=false then .err 50 (cur s2).a
 else(within (bE s2) (cur s2).a false λq=>rS E B (s.toks.length+1) (gM (step1 q)) [] []).bind λx s3=>
  .ok s3.bl.length {s3 with bl:=s3.bl++[⟨t.t,ls,x.1,x.2,t.a⟩]}
def CO:Nat->PS->R Nat
 |0=>zL dead dead
 |d+1=>zL (tT d).1 (CO d)
def OH:Nat->PS->List Nat->R (List Nat)
 |0,_,_=>.err 0 0
 |n+1,s,top=>
  if(cur s).k=0 then .ok top (bE s)
  else(CO 24 (bE s)).bind λx s1=>
   if(cur s1).k≠5/\(cur s1).k≠0 then .err 50 (cur (bE s1)).a
   else OH n (gM (bE s1)) (top++[x])
inductive PR where
 |ok (f:Fl)
 |bad (c a:Int)
deriving DecidableEq
def parseM(s:Str):PR:=match rC s with
 |.bad c a=>.bad c a
 |.ok l=>match OH (l.length+1) (gM ⟨l,0,0,0,false,[],[]⟩) []with
  |.ok top s'=>.ok ⟨s'.ex,s'.bl,top⟩
  |.err c a=>.bad c a
end
end Go.Syn
namespace Go.Eng
section
open Go Go.Num Go.Syn
variable{w:World}{K:Q0}{cs:List Value}{G:Nat->Prop}{T:TypeId}{i:Nat}{n:Nat}{v:Value}{w':World}{P:Program}{c:UInt8}{S:Nat->Prop}
def iD(n:Int):Str×Int:=if 100<(dig (Lib.itoa n)).length then([],3)else(Lib.itoa n,0)
def FG(a b:Str):Str×Int:=if num b=0 then([],10)else iD ((num a).tdiv (num b))
def Gf(a b:Str):Str×Int:=if num b=0 then([],10)else iD ((num a).tmod (num b))
inductive EvR (α:Type) where
 |ok (x:α) (left:Nat)
 |err (c a:Int)
def EvR.bind{α β:Type}(r:EvR α)(f:α->Nat->EvR β):EvR β:=match r with
 |.ok x l=>f x l
 |.err c a=>.err c a
inductive MdR (α:Type) where
 |ok (x:α)
 |err (c a:Int)
def MdR.bind{α β:Type}(r:MdR α)(f:α->MdR β):MdR β:=match r with
 |.ok x=>f x
 |.err c a=>.err c a
def MdR.at_{α:Type}(r:MdR α)(l:Nat):EvR α:=match r with
 |.ok x=>.ok x l
 |.err c a=>.err c a
abbrev Env:=Str->Option JV
def Env.set(env:Env)(k:Str)(v:JV):Env:=λs=>if s=k then some v else env s
def aEd(ex:List Ex)(i:Nat):Int:=match ex[i]? with|some e=>e.a|none=>0
def Cj(v:JV):Option Str:=if v.k=4\/v.k=3 then some v.t else if v.k=2 then some (if v.b then [116,114,117,101]else [102,97,108,115,101])else none
def uK(ex:List Ex)(args:List Nat):List JV->Nat->Str->Bool->MdR JV
 |[],_,b,kn=>.ok (if kn=true then tV b else uV)
 |v::l,j,b,kn=>if v.k=1 then uK ex args l (j+1) b false else match Cj v with
  |some s=>uK ex args l (j+1) (b++s) kn
  |none=>.err 81 (aEd ex (args.getD j 0))
def sC(t:Str)(a:Int)(v:JV):MdR JV:=
 if v.k=1 then .ok v else if v.k≠6 then .err 81 a else match zC v t with
 |some x=>.ok x
 |none=>.err 82 a
def oP(t:Str)(a:Int):List JV->MdR (List JV)
 |[]=>.ok []
 |v::l=>(sC t a v).bind λx=>(oP t a l).bind λxs=>.ok (x::xs)
def rM(t:Str)(a:Int)(v:JV):MdR JV:=
 if v.k=1 then .ok v else if v.k≠5 then .err 81 a else(oP t a v.xs).bind λxs=>.ok (lV xs)
def gQ(k:Int)(v:JV):Bool:=decide (v.k=k)||decide (v.k=1)
def sI(v i:JV):Bool:=if v.k=1 then gQ 3 i||gQ 4 i else if v.k=5 then gQ 3 i else if v.k=6 then gQ 4 i else false
def vO(a:Int)(v i:JV):MdR JV:=
 if sI v i=true then
  if v.k=1\/i.k=1 then .ok uV
  else if v.k=6 then sC i.t a v
  else if 0<=num i.t/\num i.t<v.xs.length then .ok (v.xs.getD (num i.t).toNat JV.null)else .err 82 a
 else .err 81 a
def AA(k a:Int)(v:JV):MdR JV:=
 if v.k=1 then .ok v else if v.k=3/\k=13 then .ok (nV (iD (-num v.t)).1)else if v.k=2/\k=14 then .ok (bV (!v.b))else .err 81 a
def HN(or:Bool)(a:Int)(x y:JV):MdR JV:=
 if(gQ 2 x&&gQ 2 y)=true then
  if(x.k≠1/\x.b=or)\/(y.k≠1/\y.b=or)then .ok (bV or)else if x.k=1\/y.k=1 then .ok uV else .ok (bV (!or))
 else .err 81 a
def yB(a:Int)(r:Str×Int):MdR JV:=if r.2=0 then .ok (nV r.1)else .err r.2 a
def Kk(k a:Int)(x y:JV):MdR JV:=
 if(gQ 3 x&&gQ 3 y)=true then
  if x.k=1\/y.k=1 then .ok uV
  else if k=22 then .ok (bV (decide (wT x.t y.t<0)))
  else if k=23 then .ok (bV (decide (0<wT x.t y.t)))
  else if k=24 then .ok (bV (decide (wT x.t y.t<=0)))
  else if k=25 then .ok (bV (decide (0<=wT x.t y.t)))
  else if k=15 then yB a (iD (num x.t+num y.t))
  else if k=16 then yB a (iD (num x.t-num y.t))
  else if k=17 then yB a (iD (num x.t*num y.t))
  else if k=18 then yB a (FG x.t y.t)
  else if k=19 then yB a (Gf x.t y.t)
  else .ok (nV [])
 else .err 81 a
def Dw(l:List JV):JV:=l.getD 0 JV.null
def Gi(l:List JV):JV:=l.getD 1 JV.null
def BC(ks:List Str)(l:List JV):JV:=if ks.length=l.length/\ks.Nodup then(ks.zip l).foldl (λv p=>xD v p.1 p.2) (.mk 6 false [] [] [])else JV.null
def lK(ex:List Ex)(e:Ex)(env:Env)(l:List JV):MdR JV:=
 if e.k=1 then .ok JV.null
 else if e.k=2\/e.k=3 then .ok (bV (decide (e.k=2)))
 else if e.k=4 then .ok (nV e.t)
 else if e.k=5 then .ok (tV e.t)
 else if e.k=9 then(match env e.t with|some v=>.ok v|none=>.err 80 e.a)
 else if e.k=6 then uK ex e.args l 0 [] true
 else if e.k=7 then .ok (lV l)
 else if e.k=8 then .ok (BC e.keys l)
 else if e.k=10 then sC e.t e.a (Dw l)
 else if e.k=30 then rM e.t e.a (Dw l)
 else if e.k=11 then vO e.a (Dw l) (Gi l)
 else if e.k=12 then(if(rG e.t l).2=0 then .ok (rG e.t l).1 else .err (rG e.t l).2 e.a)
 else if e.k=13\/e.k=14 then AA e.k e.a (Dw l)
 else if e.k=20\/e.k=21 then(if gJ (Dw l)=true/\gJ (Gi l)=true then .ok (bV (decide (FL (Dw l) (Gi l)=0)==decide (e.k=20)))else .ok uV)
 else if e.k=26\/e.k=27 then HN (decide (e.k=27)) e.a (Dw l) (Gi l)
 else Kk e.k e.a (Dw l) (Gi l)
section
variable(rec_:Nat->Env->Nat->EvR JV)
def qH(env:Env):List Nat->Nat->EvR (List JV)
 |[],left=>.ok [] left
 |a::r,left=>(rec_ a env left).bind λv l=>(qH env r l).bind λvs l'=>.ok (v::vs) l'
def oD(env:Env)(t:Str)(i:Nat):List JV->Nat->EvR (List JV)
 |[],left=>.ok [] left
 |x::r,left=>(rec_ i (env.set t x) left).bind λv l=>(oD env t i r l).bind λvs l'=>.ok (v::vs) l'
def rU(e:Ex)(i:Nat):Nat:=e.args.getD i 0
def Td(e:Ex)(env:Env)(left:Nat):EvR JV:=
 (rec_ (rU e 0) env left).bind λc l=>
   if c.k=1 then .ok c l else if c.k≠2 then .err 81 e.a else if c.b=true then rec_ (rU e 1) env l else rec_ (rU e 2) env l
def SF(e:Ex)(env:Env)(left:Nat):EvR JV:=
 (rec_ (rU e 0) env left).bind λc l=>
   if c.k=1 then .ok c l else if c.k≠5 then .err 81 e.a else(oD rec_ env e.t (rU e 1) c.xs l).bind λvs l'=>.ok (lV vs) l'
def tX(ex:List Ex)(e:Ex)(env:Env)(left:Nat):EvR JV:=
 if e.k=28 then Td rec_ e env left
 else if e.k=29 then SF rec_ e env left
 else(qH rec_ env e.args left).bind λl left'=>(lK ex e env l).at_ left'
def yN(ex:List Ex)(e:Ex)(env:Env)(left:Nat):EvR JV:=
 if left=0 then .err 3 e.a else(tX rec_ ex e env (left-1)).bind λv l=>if dK v=true then .ok v l else .err 3 e.a
end
def uA(ex:List Ex):Nat->Nat->Env->Nat->EvR JV
 |0,_,_,_=>.err 0 0
 |n+1,i,env,left=>match ex[i]? with
  |none=>.err 0 0
  |some e=>yN (uA ex n) ex e env left
def rE:List Str->List JV->Env
 |k::ks,x::xs=>λs=>match rE ks xs s with
  |some v=>some v
  |none=>if s=k then some x else none
 |_,_=>λ_=>none
def AH(f:Fl)(i:Nat)(scope:JV):MdR JV:=match uA f.ex (i+1) i (rE scope.ks scope.xs) 20000 with
 |.ok v _=>.ok v
 |.err c a=>.err c a
theorem Kq{f g:Nat->Env->Nat->EvR JV}(env:Env):∀(ags:List Nat) (left:Nat),(∀a∈ags,∀env l,f a env l=g a env l)->qH f env ags left=qH g env ags left
 |[],_,_=>rfl
 |a::r,left,h=>by
  unfold qH
  rw[h a (by simp)]
  congr 1
  funext v l
  rw[Kq env r l λa j=>h a (aR _ j)]
theorem Ko{f g:Nat->Env->Nat->EvR JV}(env:Env)(t:Str)(i:Nat)(h:∀env l,f i env l=g i env l):∀(xs:List JV) (left:Nat),oD f env t i xs left=oD g env t i xs left
 |[],_=>rfl
 |x::r,left=>by
  unfold oD
  rw[h]
  congr 1
  funext v l
  rw[Ko env t i h r l]
theorem Js{f g:Nat->Env->Nat->EvR JV}{ex:List Ex}{e:Ex}(I:e.k=28->3<=e.args.length)(J:e.k=29->2<=e.args.length)(h:∀a∈e.args,∀env l,f a env l=g a env l)(env:Env)(left:Nat):yN f ex e env left=yN g ex e env left:=by
 have hm:∀j,j<e.args.length->∀env l,f (rU e j) env l=g (rU e j) env l:=λj o=>h _ (by unfold rU;rw[List.getD_eq_getElem?_getD,List.getElem?_eq_getElem o];simp);unfold yN;by_cases hl:left=0
 ·rw[aJ hl,aJ hl]
 rw[aE hl,aE hl];congr 1;unfold tX;by_cases k28:e.k=28
 ·rw[aJ k28,aJ k28];have:=I k28;unfold Td;rw[hm 0 (by omega)];congr 1;funext c l;rw[hm 1 (by omega),hm 2 (by omega)]
 rw[aE k28,aE k28];by_cases k29:e.k=29
 ·rw[aJ k29,aJ k29];have:=J k29;unfold SF;rw[hm 0 (by omega)];congr 1;funext c l;rw[Ko env e.t (rU e 1) (hm 1 (by omega))]
 rw[aE k29,aE k29,Kq env e.args _ h]
structure nA(ex:List Ex):Prop where
 ahead:∀(i:Nat) (e:Ex),ex[i]?=some e->∀a∈e.args,a<i
 a3:∀e∈ex,e.k=28->3<=e.args.length
 a2:∀e∈ex,e.k=29->2<=e.args.length
theorem TR{ex:List Ex}(h:nA ex):∀(i n m:Nat),i<n->i<m->∀env l,uA ex n i env l=uA ex m i env l:=by
 intro i;induction i using Nat.strongRecOn with
 |ind i ih=>
 intro n m hn hm env l;cases n with
 |zero=>omega
 |succ n=>
 cases m with
 |zero=>omega
 |succ m=>
 unfold uA;cases o:ex[i]? with
 |none=>rfl
 |some e=>
  have j:=bG o;refine Js (h.a3 e j) (h.a2 e j) (λa I env l=>?_) env l;have:=h.ahead i e o a I;exact ih a this n m (by omega) (by omega) env l
theorem zP{ex:List Ex}(h:nA ex){e:Ex}(o:ex[i]?=some e)(hn:i<n)(env:Env)(l:Nat):uA ex n i env l=yN (λa env l=>uA ex (a+1) a env l) ex e env l:=by
 cases n with
 |zero=>omega
 |succ n=>
 rw[uA,o];have j:=bG o;refine Js (h.a3 e j) (h.a2 e j) (λa I env l=>?_) env l;have:=h.ahead i e o a I;exact TR h a n (a+1) (by omega) (by omega) env l
end
end Go.Eng
namespace Go.Proofs.YtghhmpppnmoeoaaGreatDoor
section
open Go Go.Eng Go.RowKit Go.Syn Go.Lex
variable{w:World}{K:Q0}{cs:List Value}{G:Nat->Prop}{T:TypeId}{i:Nat}{n:Nat}{v:Value}{w':World}{P:Program}{c:UInt8}{S:Nat->Prop}
abbrev TkT:TypeId:=73
abbrev ExT:TypeId:=93
abbrev AtT:TypeId:=88
abbrev BkT:TypeId:=86
abbrev FlT:TypeId:=32
abbrev PsT:TypeId:=70
abbrev jD:TypeId:=3
abbrev StT:TypeId:=9
theorem aD2:rI P0 28 ExT 5 80:=⟨by kernel_rfl,by kernel_rfl,by decide⟩
theorem aD3:rI P0 29 BkT 5 96:=⟨by kernel_rfl,by kernel_rfl,by decide⟩
theorem aD4:rI P0 84 AtT 3 32:=⟨by kernel_rfl,by kernel_rfl,by decide⟩
theorem CB:rI P0 30 jD 1 8:=⟨by kernel_rfl,by kernel_rfl,by decide⟩
theorem SQ:rI P0 24 StT 1 16:=⟨by kernel_rfl,by kernel_rfl,by decide⟩
theorem ZW:rI P0 64 TkT 3 32:=⟨by kernel_rfl,by kernel_rfl,by decide⟩
def ints(l:List Nat):List Value:=l.map λn=>i64 (n:Nat)
def strs(l:List Str):List Value:=l.map str
def Qm(l:List Atr):List Value:=l.flatMap λa=>[str a.n,i64 (a.e:Nat),i64 a.a]
def toks(l:List Tok):List Value:=l.flatMap λt=>[i64 t.k,str t.t,i64 t.a]
theorem Sr(l:List Nat):(ints l).length=l.length*1:=by simp[ints]
theorem Fe(a b:List Nat):ints (a++b)=ints a++ints b:=by simp[ints]
theorem QK(a b:List Str):strs (a++b)=strs a++strs b:=by simp[strs]
theorem Hw{α:Type}(f:α->List Value)(h:∀a,(f a).length=3):∀l:List α,(l.flatMap f).length=l.length*3
 |[]=>rfl
 |a::l=>by rw[tB,aU,h,Hw f h l,aB];omega
theorem Ed(l:List Tok):(toks l).length=l.length*3:=Hw _ (λ_=>rfl) l
theorem Hy{α:Type}(f:α->List Value)(h:∀a,(f a).length=3):∀(l:List α) (i j:Nat) (x:α),l[i]?=some x->j<3->(l.flatMap f)[i*3+j]?=(f x)[j]?
 |[],i,_,_,hi,_=>by simp at hi
 |a::l,0,j,x,hi,o=>by
  simp only[List.getElem?_cons_zero,bF]at hi
  subst hi
  rw[tB,List.getElem?_append_left (by rw[h];omega),mZ,aX]
 |a::l,i+1,j,x,hi,o=>by
  rw[List.getElem?_cons_succ]at hi
  rw[tB,List.getElem?_append_right (by rw[h];omega),h,show(i+1)*3+j-3=i*3+j by omega]
  exact Hy f h l i j x hi o
theorem Jn{l:List Tok}{j:Nat}{t:Tok}(h:l[i]?=some t)(o:j<3):(toks l)[i*3+j]?=[i64 t.k,str t.t,i64 t.a][j]?:=Hy _ (λ_=>rfl) l i j t h o
def pI{α:Type}(R:α->List Value->Prop)(n:Nat)(xs:List α)(c:List Value):Prop:=c.length=xs.length*n/\∀i x,xs[i]?=some x->R x ((c.drop (i*n)).take n)
theorem pI.nil{α:Type}(R:α->List Value->Prop)(n:Nat):pI R n [] []:=⟨by simp,λi x h=>by simp at h⟩
theorem pI.snoc{α:Type}{R:α->List Value->Prop}{xs:List α}{c d:List Value}{x:α}(h:pI R n xs c)(hd:R x d)(hl:d.length=n):pI R n (xs++[x]) (c++d):=by
 refine⟨by rw[aU,h.1,hl,aU,aB,aN,fG];omega,λi y j=>?_⟩;by_cases hi:i<xs.length
 ·rw[List.getElem?_append_left hi]at j;have:=h.2 i y j;have hm:i*n+n<=xs.length*n:=by rw[<-FZ];exact dM _ hi
  rw[CQ (by rw[h.1];omega),qX (by rw[aP,h.1];omega)];exact this
 ·rw[List.getElem?_append_right (by omega)]at j;have h0:i-xs.length=0:=by
   by_cases h0:i-xs.length=0
   ·exact h0
   ·rw[List.getElem?_eq_none (by simp;omega)]at j;cases j
  obtain rfl:i=xs.length:=by omega
  rw[h0]at j;simp only[List.getElem?_cons_zero,bF]at j;subst j;rw[<-h.1,List.drop_left,dW (by omega)];exact hd
theorem pI.imp{α:Type}{R R':α->List Value->Prop}{xs:List α}{c:List Value}(h:pI R n xs c)(hi:∀x d,(∀v∈d,v∈c)->R x d->R' x d):pI R' n xs c:=
 ⟨h.1,λi x j=>hi x _ (λv o=>CP (oR o)) (h.2 i x j)⟩
def ub(c:List Value):List Nat:=c.filterMap Value.ownBlock
theorem vK(a b:List Value):ub (a++b)=ub a++ub b:=List.filterMap_append
theorem lD{c:List Value}{k:Nat}(j:v∈c)(o:v.ownBlock=some k):k∈ub c:=gT.2 ⟨v,j,o⟩
theorem gW{k:Nat}:k∈ub [v]↔v.ownBlock=some k:=by simp[ub]
structure Lay where
 vE:Value
 vB:Value
 vT:Value
 cE:List Value
 cB:List Value
def Lay.uses(M:Lay)(f:Nat):List Nat:=f::ub ([M.vE,M.vB,M.vT]++(M.cE++M.cB))
def ExR(w:World)(B:Nat)(e:Ex)(c:List Value):Prop:=
 ∃va vk,c=[i64 e.k,str e.t,va,vk,i64 e.a]/\Own w B jD 1 va e.args.length (ints e.args)/\Own w B StT 1 vk e.keys.length (strs e.keys)
def BkR(w:World)(B:Nat)(b:Blk)(c:List Value):Prop:=
 ∃vl va vb,c=[str b.typ,vl,va,vb,i64 b.a]/\Own w B StT 1 vl b.labels.length (strs b.labels)/\Own w B AtT 3 va b.attrs.length (Qm b.attrs)/\Own w B jD 1 vb b.blocks.length (ints b.blocks)
theorem jO{B:Nat}{e:TypeId}{m:Nat}{xs:List Value}(h:Own w B e m v n xs)(o:Chg S w w')(I:∀k,v.ownBlock=some k->¬S k):Own w' B e m v n xs:=by
 obtain⟨hl,hn|⟨g,cap,cur,rfl,hb,j,r⟩⟩:=h
 ·exact⟨hl,.inl hn⟩
 ·exact⟨hl,.inr ⟨g,cap,cur,rfl,hb,o.at j (I g rfl),r⟩⟩
theorem rP{B:Nat}{e:TypeId}{m:Nat}{xs:List Value}(h:Own w B e m v n xs){k:Nat}(j:v.ownBlock=some k):k<w.heap.size/\B<=k:=by
 obtain⟨h1,c,o⟩:=h.block k j;exact⟨fA o,h1⟩
theorem ExR.at_{B:Nat}{e:Ex}{c:List Value}(h:ExR w B e c)(o:Chg S w w')(I:∀k∈ub c,¬S k):ExR w' B e c:=by
 obtain⟨va,vk,rfl,h1,J⟩:=h;exact⟨va,vk,rfl,jO h1 o λk j=>I k (lD (v:=va) (by simp) j),jO J o λk j=>I k (lD (v:=vk) (by simp) j)⟩
theorem BkR.at_{B:Nat}{e:Blk}{c:List Value}(h:BkR w B e c)(o:Chg S w w')(I:∀k∈ub c,¬S k):BkR w' B e c:=by
 obtain⟨vl,va,vb,rfl,h1,U,J⟩:=h;exact⟨vl,va,vb,rfl,jO h1 o λk j=>I k (lD (v:=vl) (by simp) j),jO U o λk j=>I k (lD (v:=va) (by simp) j),jO J o λk j=>I k (lD (v:=vb) (by simp) j)⟩
theorem Qy{c d:List Value}(h:∀v∈d,v∈c):∀k∈ub d,k∈ub c:=by
 intro k j;obtain⟨v,o,j⟩:=gT.1 j;exact lD (h v o) j
structure FR(w:World)(B f:Nat)(M:Lay)(ex:List Ex)(bl:List Blk)(top:List Nat):Prop where
 hf:w.heap[f]?=some (.cells [M.vE,M.vB,M.vT].toArray FlT (0,0))
 oE:Own w B ExT 5 M.vE ex.length M.cE
 oB:Own w B BkT 5 M.vB bl.length M.cB
 oT:Own w B jD 1 M.vT top.length (ints top)
 ee:pI (ExR w B) 5 ex M.cE
 bb:pI (BkR w B) 5 bl M.cB
 nd:(M.uses f).Nodup
 lt:∀k∈M.uses f,k<w.heap.size
 lo:∀k∈M.uses f,k=f\/B<=k
theorem FR.keep{B f:Nat}{M:Lay}{ex:List Ex}{bl:List Blk}{top:List Nat}(h:FR w B f M ex bl top)(o:Chg S w w')(J:∀k∈M.uses f,¬S k):FR w' B f M ex bl top:=by
 have hu:∀v∈[M.vE,M.vB,M.vT]++(M.cE++M.cB),∀k,v.ownBlock=some k->¬S k:=λv I k j=>J k (aR _ (lD I j));refine⟨o.at h.hf (J f bA),jO h.oE o (hu _ (by simp)),jO h.oB o (hu _ (by simp)),jO h.oT o (hu _ (by simp)),?_,?_,h.nd,λk j=>cR (h.lt k j) o.size,h.lo⟩
 ·refine h.ee.imp λx d hd U=>U.at_ o λk j=>?_;exact J k (aR _ (Qy (λv I=>by simp[hd v I]) k j))
 ·refine h.bb.imp λx d hd U=>U.at_ o λk j=>?_;exact J k (aR _ (Qy (λv I=>by simp[hd v I]) k j))
abbrev Of(f:Nat):Nat->Prop:=λk=>k=f
abbrev One(b:Nat):Nat->Prop:=λk=>k=b
structure PR(w0 w:World)(p f:Nat)(M:Lay)(vt:Value)(s:PS)(top:List Nat):Prop where
 ch:Chg (Of f) w0 w
 fr:FR w w0.heap.size f M s.ex s.bl top
 ps:w.heap[p]?=some (.cells [vt,i64 (s.i:Nat),i64 s.off,.pointer (some ⟨f,0,none⟩),i64 (s.deep:Nat),.bool s.quiet].toArray PsT (0,0))
 tk:SlAt w TkT vt s.toks.length (toks s.toks)
 np:p∉M.uses f
 lo:w0.heap.size<=p
 nt:∀k,vt.ownBlock=some k->k∉M.uses f/\k≠p/\k<w.heap.size
section
variable{w0 w w' w1 w2:World}{p f b k:Nat}{M M' M1 M2:Lay}{vt:Value}{s:PS}{top:List Nat}
theorem PR.lt(h:PR w0 w p f M vt s top):p<w.heap.size:=fA h.ps
theorem PR.base(h:PR w0 w p f M vt s top):w0.heap.size<=w.heap.size:=h.ch.size
def Tn(p f:Nat)(M:Lay)(k:Nat):Prop:=k=p\/k=f\/M.vE.ownBlock=some k\/M.vB.ownBlock=some k
structure Eff(p f:Nat)(M M':Lay)(w w':World):Prop where
 chg:Chg (Tn p f M) w w'
 us:∀k∈M'.uses f,k∈M.uses f\/w.heap.size<=k
 hE:∀k,M'.vE.ownBlock=some k->M.vE.ownBlock=some k\/w.heap.size<=k
 hB:∀k,M'.vB.ownBlock=some k->M.vB.ownBlock=some k\/w.heap.size<=k
 hT:M'.vT=M.vT
theorem Eff.of(h:Chg (Tn p f M) w w'):Eff p f M M w w':=⟨h,λ_ h=>.inl h,λ_ h=>.inl h,λ_ h=>.inl h,rfl⟩
theorem Eff.refl(p f:Nat)(M:Lay)(w:World):Eff p f M M w w:=Eff.of (Chg.refl _ _)
theorem Eff.ext(h:Ext w w'):Eff p f M M w w':=Eff.of (Chg.of_ext h)
theorem Eff.trans(h:Eff p f M M1 w w1)(o:Eff p f M1 M2 w1 w2):Eff p f M M2 w w2:=by
 have I:=h.chg.size;refine⟨h.chg.then o.chg λk j e=>?_,λk j=>?_,λk j=>?_,λk j=>?_,o.hT.trans h.hT⟩
 ·rcases e with e|e|e|e
  ·exact .inl e
  ·exact .inr (.inl e)
  ·exact .inr (.inr (.inl ((h.hE k e).resolve_right (by omega))))
  ·exact .inr (.inr (.inr ((h.hB k e).resolve_right (by omega))))
 ·exact(o.us k j).elim (h.us k) λe=>.inr (by omega)
 ·exact(o.hE k j).elim (h.hE k) λe=>.inr (by omega)
 ·exact(o.hB k j).elim (h.hB k) λe=>.inr (by omega)
theorem Eff.then(h:Eff p f M M1 w w1)(o:Chg S w1 w2)(I:∀k,k<w.heap.size->¬S k):Eff p f M M1 w w2:=⟨h.chg.then o λk j e=>(I k j e).elim,h.us,h.hE,h.hB,h.hT⟩
theorem Eff.x(h:Eff p f M M1 w w1)(j:Ext w1 w2):Eff p f M M1 w w2:=h.then j λ_ _ e=>e
theorem Eff.one(h:Eff p f M M1 w w1)(j:Chg (One b) w1 w2)(hb:w.heap.size<=b):Eff p f M M1 w w2:=h.then j λk o e=>by have e:k=b:=e;omega
theorem Eff.anew{q:Nat}(o:Ext w0 w)(h:Eff q f M M' w w')(J:w0.heap.size<=q):Eff p f M M' w0 w':=by
 have I:=o.size;refine⟨(Chg.of_ext o).then h.chg λk j e=>?_,λk j=>(h.us k j).imp id (by omega),λk j=>(h.hE k j).imp id (by omega),λk j=>(h.hB k j).imp id (by omega),h.hT⟩;rcases e with e|e|e|e
 ·omega
 ·exact .inr (.inl e)
 ·exact .inr (.inr (.inl e))
 ·exact .inr (.inr (.inr e))
theorem LR(h:Tn p f M k):k=p\/k∈M.uses f:=by
 rcases h with h|h|h|h
 ·exact .inl h
 ·exact .inr (by subst h;exact bA)
 ·exact .inr (aR _ (lD (v:=M.vE) (by simp) h))
 ·exact .inr (aR _ (lD (v:=M.vB) (by simp) h))
def Off(w0 w:World)(p f:Nat)(M:Lay)(vt:Value)(k:Nat):Prop:=(w0.heap.size<=k/\k<w.heap.size)/\k≠p/\k∉M.uses f/\vt.ownBlock≠some k
theorem Off.no(h:Off w0 w p f M vt k):¬Tn p f M k:=λe=>(LR e).elim h.2.1 h.2.2.1
theorem Off.eff(h:Off w0 w p f M vt k)(j:Eff p f M M' w w'):Off w0 w' p f M' vt k:=
 ⟨⟨h.1.1,cR h.1.2 j.chg.size⟩,h.2.1,λe=>(j.us k e).elim h.2.2.1 λe=>by have:=h.1.2;omega,h.2.2.2⟩
theorem Off.up(h:Off w0 w p f M vt k)(j:w.heap.size<=w'.heap.size):Off w0 w' p f M vt k:=⟨⟨h.1.1,cR h.1.2 j⟩,h.2⟩
theorem PR.off_new(h:PR w0 w p f M vt s top)(o:w.heap.size<=k)(j:k<w'.heap.size):Off w0 w' p f M vt k:=
 ⟨⟨cC h.base o,j⟩,λe=>by have:=h.lt;omega,λe=>by have:=h.fr.lt k e;omega,λe=>by have:=(h.nt k e).2.2;omega⟩
theorem Eff.at_{o:Obj}(I:Eff p f M M' w w')(j:w.heap[k]?=some o)(h:Off w0 w p f M vt k):w'.heap[k]?=some o:=I.chg.at j h.no
theorem Eff.own{B:Nat}{e:TypeId}{m:Nat}{xs:List Value}(I:Eff p f M M' w w')(h:Own w B e m v n xs)(j:∀k,v.ownBlock=some k->Off w0 w p f M vt k):Own w' B e m v n xs:=jO h I.chg λk o=>(j k o).no
theorem PR.keep(h:PR w0 w p f M vt s top)(o:Chg S w w')(hb:∀k,k<w0.heap.size->¬S k)(hS:∀k∈M.uses f,¬S k)(hp:¬S p)(ht:∀k,vt.ownBlock=some k->¬S k):PR w0 w' p f M vt s top:=by
 refine⟨h.ch.then o λk j e=>(hb k j e).elim,h.fr.keep o hS,o.at h.ps hp,?_,h.np,h.lo,λk j=>⟨(h.nt k j).1,(h.nt k j).2.1,cR (h.nt k j).2.2 o.size⟩⟩;obtain⟨q,cap,U,h1,h2,h3⟩:=h.tk;refine⟨q,cap,U,h1,h2,λI=>?_⟩;obtain⟨b,off,c,fr,hq,hb,J⟩:=h3 I;exact⟨b,off,c,fr,hq,o.at hb (ht b (by rw[U,hq];rfl)),J⟩
theorem PR.ext(h:PR w0 w p f M vt s top)(j:Ext w w'):PR w0 w' p f M vt s top:=h.keep j (λ_ _ e=>e) (λ_ _ e=>e) (λe=>e) λ_ _ e=>e
theorem dE(w:World):Ext w w.drew:=Chg.drew (Chg.refl _ _)
theorem PR.drew(h:PR w0 w p f M vt s top):PR w0 w.drew p f M vt s top:=h.ext (dE w)
theorem PR.one{w3:World}(h:PR w0 w p f M vt s top)(I:Chg (One b) w w')(j:Off w0 w3 p f M vt b):PR w0 w' p f M vt s top:=
 h.keep I (λk o e=>by have e:k=b:=e;have:=j.1.1;omega) (λk o e=>j.2.2.1 (by have e:k=b:=e;exact e▸o)) (λe=>j.2.1 e.symm) λk o e=>j.2.2.2 (by have e:k=b:=e;rw[o,e])
theorem PR.ld{off:Nat}{K:Value->Prop}(h:PR w0 w p f M vt s top)(j:[vt,i64 (s.i:Nat),i64 s.off,.pointer (some ⟨f,0,none⟩),i64 (s.deep:Nat),.bool s.quiet][off]?=some v)(o:K v):
  eF (.pointer (some ⟨p,0,none⟩)) λt=>aZ off t λt=>ldW false 1 t w K:=by
 rw[eD,bT,dY];refine⟨v,?_,o⟩;rw[bW,cG,h.ps,cJ,aX];simpa using j
theorem PR.self{s':PS}(h:PR w0 w p f M vt s top)(o:Chg (One p) w w')(hb:w'.heap[p]?=some (.cells [vt,i64 (s'.i:Nat),i64 s'.off,.pointer (some ⟨f,0,none⟩),i64 (s'.deep:Nat),.bool s'.quiet].toArray PsT (0,0)))
  (h1:s'.toks=s.toks)(h2:s'.ex=s.ex)(h3:s'.bl=s.bl):PR w0 w' p f M vt s' top:=by
 refine⟨h.ch.then o λk j e=>(by have e:k=p:=e;have:=h.lo;omega),by rw[h2,h3];exact h.fr.keep o λk j e=>h.np (by have e:k=p:=e;exact e▸j),hb,?_,h.np,h.lo,λk j=>⟨(h.nt k j).1,(h.nt k j).2.1,cR (h.nt k j).2.2 o.size⟩⟩;rw[h1];obtain⟨q,cap,U,g1,g2,g3⟩:=h.tk;refine⟨q,cap,U,g1,g2,λI=>?_⟩;obtain⟨b,off,c,fr,hq,hb,J⟩:=g3 I;exact⟨b,off,c,fr,hq,o.at hb ((h.nt b (by rw[U,hq];rfl)).2.1),J⟩
theorem FE(j:Chg (One p) w w'):Eff p f M M w w':=Eff.of (j.mono λk _ e=>.inl e)
theorem PR.st_i{K:World->Prop}(h:PR w0 w p f M vt s top)(I:∀w',PR w0 w' p f M vt {s with i:=i} top->Eff p f M M w w'->w'.heap.size=w.heap.size->K w'):
  eF (.pointer (some ⟨p,0,none⟩)) λt=>aZ 1 t λt=>stW 1 t (i64 (i:Nat)) w K:=by
 rw[eD,bT,bW,aX];refine iO h.ps rfl (by simp) λw' o hb j=>I w' (h.self j (by rw[hb];simp) rfl rfl rfl) (FE j) o
theorem PR.st_deep{K:World->Prop}(h:PR w0 w p f M vt s top)(I:∀w',PR w0 w' p f M vt {s with deep:=i} top->Eff p f M M w w'->w'.heap.size=w.heap.size->K w'):
  eF (.pointer (some ⟨p,0,none⟩)) λt=>aZ 4 t λt=>stW 1 t (i64 (i:Nat)) w K:=by
 rw[eD,bT,bW,aX];refine iO h.ps rfl (by simp) λw' o hb j=>I w' (h.self j (by rw[hb];simp) rfl rfl rfl) (FE j) o
theorem PR.st_quiet{q:Bool}{K:World->Prop}(h:PR w0 w p f M vt s top)(I:∀w',PR w0 w' p f M vt {s with quiet:=q} top->Eff p f M M w w'->w'.heap.size=w.heap.size->K w'):
  eF (.pointer (some ⟨p,0,none⟩)) λt=>aZ 5 t λt=>stW 1 t (.bool q) w K:=by
 rw[eD,bT,bW,aX];refine iO h.ps rfl (by simp) λw' o hb j=>I w' (h.self j (by rw[hb];simp) rfl rfl rfl) (FE j) o
theorem PR.go{K:World->Prop}(h:PR w0 w p f M vt s top)(hi:s.i<=1000000)(j:∀w',PR w0 w' p f M vt (step1 s) top->Eff p f M M w w'->w'.heap.size=w.heap.size->K w'):
  eF (.pointer (some ⟨p,0,none⟩)) λt=>aZ 1 t λt=>ldW false 1 t w λt=>aQ .add t (.int .i64 1) λt1=>eF (.pointer (some ⟨p,0,none⟩)) λt=>aZ 1 t λt=>stW 1 t t1 w K:=by
 refine h.ld rfl ?_;rw[cI,cN (by omega) (by omega)];exact h.st_i (i:=s.i+1) j
def Loc(w0 w:World)(p f:Nat)(M:Lay)(vt:Value)(b:Nat)(T:TypeId)(cs:List Value):Prop:=w.heap[b]?=some (.cells cs.toArray T (0,0))/\Off w0 w p f M vt b
variable{T:TypeId}{cs:List Value}
theorem Loc.eff(h:Loc w0 w p f M vt b T cs)(j:Eff p f M M' w w'):Loc w0 w' p f M' vt b T cs:=⟨j.at_ h.1 h.2,h.2.eff j⟩
theorem Loc.ext(h:Loc w0 w p f M vt b T cs)(j:Ext w w'):Loc w0 w' p f M vt b T cs:=h.eff (Eff.ext j)
theorem Loc.drew(h:Loc w0 w p f M vt b T cs):Loc w0 w.drew p f M vt b T cs:=h.ext (dE w)
theorem Loc.one{b':Nat}(h:Loc w0 w p f M vt b T cs)(j:Chg (One b') w w')(hb:b≠b'):Loc w0 w' p f M vt b T cs:=⟨j.at h.1 hb,h.2.up j.size⟩
theorem Loc.lt(h:Loc w0 w p f M vt b T cs):b<w.heap.size:=h.2.1.2
theorem Loc.ld{off:Nat}{K:Value->Prop}(h:Loc w0 w p f M vt b T cs)(j:cs[off]?=some v)(o:K v):ldW false 1 (.pointer (some ⟨b,off,none⟩)) w K:=by
 rw[dY];refine⟨v,?_,o⟩;rw[cG,h.1,cJ];simpa using j
theorem Loc.ldf{off:Nat}{K:Value->Prop}(h:Loc w0 w p f M vt b T cs)(j:cs[off]?=some v)(o:K v):aZ off (.pointer (some ⟨b,0,none⟩)) λt=>ldW false 1 t w K:=by
 rw[bT,bW,aX];exact h.ld j o
theorem Loc.st{off:Nat}{K:World->Prop}(h:Loc w0 w p f M vt b T cs)(h1:fC v=true)(j:off<cs.length)
  (J:∀w',Loc w0 w' p f M vt b T (cs.set off v)->Chg (One b) w w'->w'.heap.size=w.heap.size->K w'):stW 1 (.pointer (some ⟨b,off,none⟩)) v w K:=
 iO h.1 h1 (by simpa using j) λw' o hb I=>J w' ⟨by rw[hb];simp,h.2.up (by omega)⟩ I o
theorem PR.loc(h:PR w0 w p f M vt s top)(o:w'.heap.size=w.heap.size+1){b:Nat}(hb:b=w.heap.size)(j:w'.heap[b]?=some (.cells cs.toArray T (0,0))):Loc w0 w' p f M vt b T cs:=⟨j,h.off_new (by omega) (by omega)⟩
end
end
end Go.Proofs.YtghhmpppnmoeoaaGreatDoor
namespace Go.Syn
section
open Go Go.Eng Go.Lex
variable{w:World}{K:Q0}{cs:List Value}{G:Nat->Prop}{T:TypeId}{i:Nat}{n:Nat}{v:Value}{w':World}{P:Program}{c:UInt8}{S:Nat->Prop}
theorem lA{s:Str}(k:Nat)(h:s.length<=n):(s.drop k).length<=n:=by rw[aP];omega
theorem NT:∀(N:Nat) (r:Str),r.length<=N->(∀m m' c,r.length<m->r.length<m'->BV m r c=BV m' r c)/\(∀m m',r.length<m->r.length<m'->Br m r=Br m' r):=by
 intro N;induction N with
 |zero=>
  intro r o;have:r=[]:=bC (by omega);subst this;refine⟨λm m' c h j=>?_,λm m' h j=>?_⟩
  ·obtain⟨m,rfl⟩:∃k,m=k+1:=⟨m-1,by simp at h;omega⟩;obtain⟨m',rfl⟩:∃k,m'=k+1:=⟨m'-1,by simp at j;omega⟩;rfl
  ·obtain⟨m,rfl⟩:∃k,m=k+1:=⟨m-1,by simp at h;omega⟩;obtain⟨m',rfl⟩:∃k,m'=k+1:=⟨m'-1,by simp at j;omega⟩;rfl
 |succ N ih=>
  intro r o;cases r with
  |nil=>exact⟨λm m' c h j=>(ih [] (by simp)).1 m m' c h j,λm m' h j=>(ih [] (by simp)).2 m m' h j⟩
  |cons c r=>
   simp only[aB]at o;have o:r.length<=N:=by omega
   refine⟨λm m' d h j=>?_,λm m' h j=>?_⟩
   ·obtain⟨m,rfl⟩:∃k,m=k+1:=⟨m-1,by simp at h;omega⟩;obtain⟨m',rfl⟩:∃k,m'=k+1:=⟨m'-1,by simp at j;omega⟩;simp only[aB]at h j;have hb:=λd=>(ih r o).1 m m' d (by omega) (by omega);have I:=(ih r o).2 m m' (by omega) (by omega);have hd:=λk d=>(ih (r.drop k) (lA k o)).1 m m' d (by rw[aP];omega) (by rw[aP];omega);simp only[BV,hb,I,hd]
   ·obtain⟨m,rfl⟩:∃k,m=k+1:=⟨m-1,by simp at h;omega⟩;obtain⟨m',rfl⟩:∃k,m'=k+1:=⟨m'-1,by simp at j;omega⟩;simp only[aB]at h j;have hb:=λd=>(ih r o).1 m m' d (by omega) (by omega);have I:=(ih r o).2 m m' (by omega) (by omega);have hd:=λk=>(ih (r.drop k) (lA k o)).2 m m' (by rw[aP];omega) (by rw[aP];omega);cases r with
    |nil=>simp only[Br,hb,I,hd]
    |cons e r'=>
     have J:=(ih r' (by simp at o;omega)).2 m m' (by simp at h;omega) (by simp at j;omega);simp only[Br,hb,hd,I,J]
def qV(r:Str)(c:Int):Nat:=BV (r.length+1) r c
def tI(r:Str):Nat:=Br (r.length+1) r
theorem FS{m:Nat}{r:Str}{c:Int}(h:r.length<m):BV m r c=qV r c:=(NT r.length r (aV _)).1 _ _ _ h (eO _)
theorem It{m:Nat}{r:Str}(h:r.length<m):Br m r=tI r:=(NT r.length r (aV _)).2 _ _ h (eO _)
theorem xP{r:Str}(k:Nat){m:Nat}(h:r.length<m):(r.drop k).length<m:=by rw[aP];omega
theorem Tt(c:Int):qV [] c=0:=rfl
theorem pH(c:UInt8)(r:Str)(d:Int):qV (c::r) d=if c=123 then 1+qV r (d+1)else if c=125 then(if d-1=0 then 1 else 1+qV r (d-1))else if c=34 then(1+tI r)+qV (r.drop (tI r)) d else 1+qV r d:=by
 have h:r.length<(c::r).length:=by simp
 show BV ((c::r).length+1) (c::r) d=_;rw[BV,It h];rw[FS h,FS h,FS h,FS (xP _ h)]
theorem Ri:tI []=0:=rfl
theorem Ch(c:UInt8)(r:Str):tI (c::r)=if c=34 then 1 else if c=92 then(match r with|[]=>1|_::r'=>2+tI r')else if qD [36,123] (c::r)=true then(1+qV r 0)+tI (r.drop (qV r 0))else 1+tI r:=by
 cases r with
 |nil=>rfl
 |cons e r'=>
  have h:(e::r').length<(c::e::r').length:=by simp
  have j:r'.length<(c::e::r').length:=by simp;omega
  have hd:∀k,Br (c::e::r').length ((e::r').drop k)=tI ((e::r').drop k):=λk=>It (xP k h);show Br ((c::e::r').length+1) (c::e::r')=_;rw[Br.eq_def];simp only[It h,FS h,It j,hd]
theorem NS:∀(N:Nat) (r:Str),r.length<=N->(∀m m' d,r.length<m->r.length<m'->oY m r d=oY m' r d)/\(∀m m' d,r.length<m->r.length<m'->BK m r d=BK m' r d):=by
 intro N;induction N with
 |zero=>
  intro r I;have:r=[]:=bC (by omega);subst this;refine⟨λm m' d h o=>?_,λm m' d h o=>?_⟩
  ·obtain⟨m,rfl⟩:∃k,m=k+1:=⟨m-1,by simp at h;omega⟩;obtain⟨m',rfl⟩:∃k,m'=k+1:=⟨m'-1,by simp at o;omega⟩;rfl
  ·obtain⟨m,rfl⟩:∃k,m=k+1:=⟨m-1,by simp at h;omega⟩;obtain⟨m',rfl⟩:∃k,m'=k+1:=⟨m'-1,by simp at o;omega⟩;rfl
 |succ N ih=>
  intro r I;cases r with
  |nil=>exact⟨λm m' d h o=>(ih [] (by simp)).1 m m' d h o,λm m' d h o=>(ih [] (by simp)).2 m m' d h o⟩
  |cons c r=>
   simp only[aB]at I;have I:r.length<=N:=by omega
   refine⟨λm m' d h o=>?_,λm m' d h o=>?_⟩
   ·obtain⟨m,rfl⟩:∃k,m=k+1:=⟨m-1,by simp at h;omega⟩;obtain⟨m',rfl⟩:∃k,m'=k+1:=⟨m'-1,by simp at o;omega⟩;simp only[aB]at h o;have J:=λd=>(ih r I).1 m m' d (by omega) (by omega);have hi:=λk d=>(ih (r.drop k) (lA k I)).2 m m' d (by rw[aP];omega) (by rw[aP];omega);have hd:=λk j d=>(ih ((r.drop k).drop j) (lA j (lA k I))).1 m m' d (by rw[aP,aP];omega) (by rw[aP,aP];omega);cases r with
    |nil=>simp only[oY,J,hi,hd]
    |cons e r'=>
     have U:=λd=>(ih r' (by simp at I;omega)).1 m m' d (by simp at h;omega) (by simp at o;omega);simp only[oY,J,hi,hd,U]
   ·obtain⟨m,rfl⟩:∃k,m=k+1:=⟨m-1,by simp at h;omega⟩;obtain⟨m',rfl⟩:∃k,m'=k+1:=⟨m'-1,by simp at o;omega⟩;simp only[aB]at h o;have J:=λd=>(ih r I).1 m m' d (by omega) (by omega);have hi:=λd=>(ih r I).2 m m' d (by omega) (by omega);have hd:=λk d=>(ih (r.drop k) (lA k I)).2 m m' d (by rw[aP];omega) (by rw[aP];omega);simp only[BK,J,hi,hd]
def gL(r:Str)(d:Nat):Nat×Int:=oY (r.length+1) r d
def kK(r:Str)(d:Nat):Nat×Int:=BK (r.length+1) r d
theorem uL{m:Nat}{r:Str}{d:Nat}(h:r.length<m):oY m r d=gL r d:=(NS r.length r (aV _)).1 _ _ _ h (eO _)
theorem MF{m:Nat}{r:Str}{d:Nat}(h:r.length<m):BK m r d=kK r d:=(NS r.length r (aV _)).2 _ _ _ h (eO _)
theorem qL(d:Nat):gL [] d=(0,40):=rfl
theorem Fg(d:Nat):kK [] d=(0,40):=rfl
theorem qM(c:UInt8)(r:Str)(d:Nat):gL (c::r) d=if c==34 then(1,0)else if c==10 then(0,40)else if c==92 then(match r with|[]=>(0,40)|e::r'=>if Lex.escOk e then nK 2 (gL r' d)else(0,40))
  else if qD [36,123] (c::r)then(if 24<d+1 then(0,7)else if(kK (r.drop 1) (d+1)).2=0 then nK ((kK (r.drop 1) (d+1)).1+2) (gL ((r.drop 1).drop (kK (r.drop 1) (d+1)).1) d)else(0,(kK (r.drop 1) (d+1)).2))else nK 1 (gL r d):=by
 cases r with
 |nil=>rfl
 |cons e r'=>
  have h:(e::r').length<(c::e::r').length:=by simp
  have o:r'.length<(c::e::r').length:=by simp;omega
  have hi:∀k d,BK (c::e::r').length ((e::r').drop k) d=kK ((e::r').drop k) d:=λk d=>MF (xP k h);have hd:∀k j d,oY (c::e::r').length (((e::r').drop k).drop j) d=gL (((e::r').drop k).drop j) d:=λk j d=>uL (xP j (xP k h));show oY ((c::e::r').length+1) (c::e::r') d=_;rw[oY.eq_def];simp only[uL h,uL o,hi,hd]
theorem Cs(c:UInt8)(r:Str)(d:Nat):kK (c::r) d=if c==125 then(1,0)else if c==10 then(0,40)else if c==123 then(if 24<d+1 then(0,7)else if(kK r (d+1)).2=0 then nK ((kK r (d+1)).1+1) (kK (r.drop (kK r (d+1)).1) d)else(0,(kK r (d+1)).2))
  else if c==34 then(if(gL r d).2=0 then nK ((gL r d).1+1) (kK (r.drop (gL r d).1) d)else(0,(gL r d).2))else nK 1 (kK r d):=by
 have h:r.length<(c::r).length:=by simp
 have hd:∀k d,BK (c::r).length (r.drop k) d=kK (r.drop k) d:=λk d=>MF (xP k h);show BK ((c::r).length+1) (c::r) d=_;rw[BK.eq_def];simp only[MF h,uL h,hd]
theorem mR{k:Nat}{r:Nat×Int}(h:nK k r=(n,0)):r=(n-k,0)/\k<=n:=by
 obtain⟨a,b⟩:=r;unfold nK at h;split at h
 ·rename_i e;simp only at e;subst e;injection h with h1 _
  subst h1;exact⟨by simp,by omega⟩
 ·rename_i e;injection h with _ j
  exact absurd j e
theorem jM:∀(N:Nat) (r:Str),r.length<=N->
  (∀d k,gL r d=(k,0)->tI r=k/\1<=k/\k<=r.length)/\
  (∀d k,kK r d=(k,0)->(1<=k/\k<=r.length)/\∀c:Int,1<=c->qV r c=if c=1 then k else k+qV (r.drop k) (c-1)):=by
 intro N;induction N with
 |zero=>
  intro r J;have:r=[]:=bC (by omega);subst this;refine⟨λd k h=>?_,λd k h=>?_⟩
  ·rw[qL]at h;cases h
  ·rw[Fg]at h;cases h
 |succ N ih=>
  intro r J;cases r with
  |nil=>exact ih [] (by simp)
  |cons c r=>
   simp only[aB]at J;have J:r.length<=N:=by omega
   refine⟨λd k h=>?_,λd k h=>?_⟩
   ·rw[qM]at h;rw[Ch];simp only[fV]at h;split at h
    ·rename_i e;rw[aJ e];injection h with h1 _
     subst h1;simp
    rename_i e;rw[aE e];split at h
    ·cases h
    split at h
    ·rename_i e2;rw[aJ e2];cases r with
     |nil=>cases h
     |cons x r'=>
      simp only at h⊢;split at h
      ·obtain⟨h1,I⟩:=mR h;obtain⟨q1,q2,q3⟩:=(ih r' (by simp at J;omega)).1 d _ h1;simp only[aB];omega
      ·cases h
    rename_i e2;rw[aE e2];split at h
    ·rename_i e3;rw[aJ e3];split at h
     ·cases h
     split at h
     ·rename_i e4;obtain⟨h1,I⟩:=mR h;cases r with
      |nil=>simp[qD]at e3
      |cons x r'=>
       have hx:x=123:=by
        simp[qD]at e3;exact e3.2.symm
       subst hx;simp only[cU,cZ]at h1 I e4;have hg:r'.length<=N:=by simp at J;omega
       obtain⟨⟨b1,b2⟩,b3⟩:=(ih r' hg).2 (d+1) (kK r' (d+1)).1 (fZ rfl e4);have hb:=b3 1 (by omega);rw[aJ rfl]at hb;have hi:qV (123::r') 0=1+(kK r' (d+1)).1:=by
        rw[pH,aJ rfl];show 1+qV r' (0+1)=_;rw[show(0:Int)+1=1 from rfl,hb]
       rw[hi];have hh:(123::r').drop (1+(kK r' (d+1)).1)=r'.drop (kK r' (d+1)).1:=by rw[rH];rfl
       rw[hh];obtain⟨q1,q2,q3⟩:=(ih (r'.drop (kK r' (d+1)).1) (lA _ hg)).1 d _ h1;rw[aP]at q3;simp only[aB];omega
     ·rename_i e4;injection h with _ I
      exact absurd I e4
    ·rename_i e3;rw[aE e3];obtain⟨h1,I⟩:=mR h;obtain⟨q1,q2,q3⟩:=(ih r J).1 d _ h1;simp only[aB];omega
   ·rw[Cs]at h;simp only[fV]at h;split at h
    ·rename_i e;injection h with h1 _
     subst h1;refine⟨by simp,λcc U=>?_⟩;rw[pH,aE (by rw[e];decide),aJ e];by_cases h1:cc=1
     ·subst h1;simp
     ·rw[aE (by omega),aE h1];rfl
    rename_i e;split at h
    ·cases h
    rename_i e10;split at h
    ·rename_i e2;split at h
     ·cases h
     split at h
     ·rename_i e4;obtain⟨h1,I⟩:=mR h;obtain⟨⟨b1,b2⟩,b3⟩:=(ih r J).2 (d+1) (kK r (d+1)).1 (fZ rfl e4);obtain⟨⟨f1,f2⟩,f3⟩:=(ih (r.drop (kK r (d+1)).1) (lA _ J)).2 d _ h1;rw[aP]at f2;refine⟨by simp only[aB];omega,λcc U=>?_⟩;rw[pH,aJ e2,b3 (cc+1) (by omega),aE (by omega),show cc+1-1=cc from by omega,f3 cc U];by_cases o:cc=1
      ·rw[aJ o,aJ o];omega
      ·rw[aE o,aE o,gY];have:(c::r).drop k=r.drop (k-1):=by
        obtain⟨j,rfl⟩:∃j,k=j+1:=⟨k-1,by omega⟩;rfl
       rw[this,show(kK r (d+1)).1+(k-((kK r (d+1)).1+1))=k-1 from by omega];omega
     ·rename_i e4;injection h with _ I
      exact absurd I e4
    rename_i e2;split at h
    ·rename_i e3;split at h
     ·rename_i e4;obtain⟨h1,I⟩:=mR h;obtain⟨q1,q2,q3⟩:=(ih r J).1 d (gL r d).1 (fZ rfl e4);obtain⟨⟨f1,f2⟩,f3⟩:=(ih (r.drop (gL r d).1) (lA _ J)).2 d _ h1;rw[aP]at f2;refine⟨by simp only[aB];omega,λcc U=>?_⟩;rw[pH,aE e2,aE e,aJ e3,q1,f3 cc U];by_cases o:cc=1
      ·rw[aJ o,aJ o];omega
      ·rw[aE o,aE o,gY];have:(c::r).drop k=r.drop (k-1):=by
        obtain⟨j,rfl⟩:∃j,k=j+1:=⟨k-1,by omega⟩;rfl
       rw[this,show(gL r d).1+(k-((gL r d).1+1))=k-1 from by omega];omega
     ·rename_i e4;injection h with _ I
      exact absurd I e4
    ·rename_i e3;obtain⟨h1,I⟩:=mR h;obtain⟨⟨f1,f2⟩,f3⟩:=(ih r J).2 d _ h1;refine⟨by simp only[aB];omega,λcc U=>?_⟩;rw[pH,aE e2,aE e,aE e3,f3 cc U];by_cases o:cc=1
     ·rw[aJ o,aJ o];omega
     ·rw[aE o,aE o];have:(c::r).drop k=r.drop (k-1):=by
       obtain⟨j,rfl⟩:∃j,k=j+1:=⟨k-1,by omega⟩;rfl
      rw[this];omega
structure cX(L:List (List Nat))(roots:List Nat):Prop where
 ahead:∀(i:Nat) (us:List Nat),L[i]?=some us->∀a∈us,a<i
 once:∀j,j<L.length->L.flatten.count j+roots.count j=1
 low:∀r∈roots,r<L.length
theorem cX.perm{L:List (List Nat)}{r r':List Nat}(h:cX L r)(hp:r.Perm r'):cX L r':=
 ⟨h.ahead,λj I=>by rw[<-hp.count_eq];exact h.once j I,λx o=>h.low x (hp.mem_iff.2 o)⟩
theorem cX.flat_lt{L:List (List Nat)}{r:List Nat}(h:cX L r):∀x∈L.flatten,x<L.length:=by
 intro x I;obtain⟨us,o,j⟩:=List.mem_flatten.1 I;obtain⟨i,hi⟩:=List.getElem?_of_mem o;have h1:=h.ahead i us hi x j;have J:=(List.getElem?_eq_some_iff.1 hi).1;omega
theorem cX.put{L:List (List Nat)}{us roots:List Nat}(h:cX L (us++roots)):cX (L++[us]) (L.length::roots):=by
 refine⟨λi bs hi=>?_,λj J=>?_,λr o=>?_⟩
 ·by_cases hl:i<L.length
  ·rw[List.getElem?_append_left hl]at hi;exact h.ahead i bs hi
  ·rw[List.getElem?_append_right (by omega)]at hi;have:i-L.length=0:=by
    by_cases h0:i-L.length=0
    ·exact h0
    ·rw[List.getElem?_eq_none (by simp;omega)]at hi;cases hi
   rw[this]at hi;simp only[List.getElem?_cons_zero,bF]at hi;subst hi;intro a U;have:=h.low a (eZ _ U);omega
 ·rw[List.flatten_append,mD];simp only[iL,List.flatten_nil,eG,Dx];by_cases hl:j<L.length
  ·have h1:=h.once j hl;rw[mD]at h1;have:(L.length==j)=false:=by simp;omega
   rw[this];simp only[fF,kL];omega
  ·have I:j=L.length:=by rw[aU,aB,aN]at J;omega
   subst I;have e1:L.flatten.count L.length=0:=List.count_eq_zero.2 λhm=>by have:=h.flat_lt _ hm;omega
   have e2:us.count L.length=0:=List.count_eq_zero.2 λhm=>by have:=h.low _ (eZ _ hm);omega
   have e3:roots.count L.length=0:=List.count_eq_zero.2 λhm=>by have:=h.low _ (dB _ hm);omega
   rw[e1,e2,e3];simp
 ·rw[aU,aB,aN];rcases bM.1 o with rfl|o
  ·omega
  ·have:=h.low r (dB _ o);omega
abbrev exL(ex:List Ex):List (List Nat):=ex.map (·.args)
theorem Fw{ex:List Ex}{e:Ex}{roots:List Nat}(h:cX (exL ex) (e.args++roots)):cX (exL (ex++[e])) (ex.length::roots):=by
 have:=h.put;rw[cD]at this;simpa[exL]using this
def Sat{α:Type}(r:R α)(P:α->PS->Prop)(Q:Int->Prop):Prop:=match r with
 |.ok x s=>P x s
 |.err _ a=>Q a
theorem Sat.bind{α β:Type}{r:R α}{f:α->PS->R β}{P:α->PS->Prop}{P':β->PS->Prop}{Q:Int->Prop}(h:Sat r P Q)(hf:∀x s,P x s->Sat (f x s) P' Q):Sat (r.bind f) P' Q:=by
 cases r with
 |ok x s=>exact hf x s h
 |err c a=>exact h
theorem Sat.mono{α:Type}{r:R α}{P P':α->PS->Prop}{Q:Int->Prop}(h:Sat r P Q)(hp:∀x s,P x s->P' x s):Sat r P' Q:=by
 cases r with
 |ok x s=>exact hp x s h
 |err c a=>exact h
def Ji(N a:Int)(t:Str):Prop:=insP t=none\/a+t.length+2<=N
structure TG(N off:Int)(l:List Tok):Prop where
 ne:l≠[]
 pos:∀i t,l[i]?=some t->0<=t.a+off/\t.a+off<=N/\(t.k≠0->t.a+off<N)/\(t.k=3->Ji N (t.a+off) t.t)/\(t.k=1->t.t≠[])/\(i+1=l.length->t.k=0)
structure WS(N:Int)(s:PS):Prop where
 tg:TG N s.off s.toks
 lt:s.i<s.toks.length
 pN:0<=N
structure Go1(N:Int)(s s':PS):Prop where
 toks:s'.toks=s.toks
 off:s'.off=s.off
 deep:s'.deep=s.deep
 quiet:s'.quiet=s.quiet
 le:s.i<=s'.i
 lt:s'.i<s'.toks.length
 exs:∀e∈s'.ex,e∈s.ex\/(0<=e.a/\e.a<N)
theorem Go1.trans{N:Int}{s s1 s2:PS}(h:Go1 N s s1)(j:Go1 N s1 s2):Go1 N s s2:=
 ⟨j.toks.trans h.toks,j.off.trans h.off,j.deep.trans h.deep,j.quiet.trans h.quiet,cC h.le j.le,j.lt,λe o=>(j.exs e o).elim (h.exs e) .inr⟩
theorem Go1.refl{N:Int}{s:PS}(h:WS N s):Go1 N s s:=⟨rfl,rfl,rfl,rfl,aV _,h.lt,λ_ j=>.inl j⟩
theorem Go1.ws{N:Int}{s s':PS}(h:Go1 N s s')(j:WS N s):WS N s':=⟨by rw[h.toks,h.off];exact j.tg,h.lt,j.pN⟩
theorem yH{N:Int}{s:PS}(h:WS N s)(d:Nat)(q:Bool):WS N {s with deep:=d,quiet:=q}:=⟨h.tg,h.lt,h.pN⟩
theorem EP:∀{l:List Tok},l≠[]->(∀t,l.getLast?=some t->t.k≠5)->iJ l<l.length
 |[],h,_=>absurd rfl h
 |[t],_,h=>by
  have:=h t rfl
  simp[iJ,this]
 |t::u::r,_,h=>by
  have ih:=EP (l:=u::r) (by simp) (λx j=>h x (by simpa using j))
  simp only[iJ,aB]at ih⊢
  split<;>omega
theorem TG.last{N off:Int}{l:List Tok}(h:TG N off l)(hi:i<l.length):iJ (l.drop i)<l.length-i:=by
 have o:l.drop i≠[]:=λe=>by have:=congrArg List.length e;rw[aP,aN]at this;omega
 have:=EP o λt j=>by
  rw[List.getLast?_drop]at j;rw[aE (by omega)]at j;rw[List.getLast?_eq_getElem?]at j;have:=(h.pos _ t j).2.2.2.2.2 (by omega);omega
 rw[aP]at this;exact this
theorem gI{N:Int}{s:PS}(h:WS N s):Go1 N s (bE s):=by
 unfold bE;split
 ·have:=h.tg.last h.lt;exact⟨rfl,rfl,rfl,rfl,Nat.le_add_right _ _,(by show s.i+_<s.toks.length;have:=h.lt;omega),λ_ j=>.inl j⟩
 ·exact Go1.refl h
theorem yK{N:Int}{s:PS}(h:WS N s):s.toks[s.i]?=some (mN s):=by
 unfold mN;rw[List.getD_eq_getElem?_getD,List.getElem?_eq_getElem h.lt];rfl
theorem kH{N:Int}{s:PS}(h:WS N s):0<=(cur s).a/\(cur s).a<=N/\((cur s).k≠0->(cur s).a<N)/\((cur s).k=3->Ji N (cur s).a (cur s).t)/\((cur s).k=1->(cur s).t≠[]):=by
 have j:=gI h;have hn:=j.ws h;have h1:=hn.tg.pos _ _ (yK hn);rw[j.off]at h1;exact⟨h1.1,h1.2.1,h1.2.2.1,h1.2.2.2.1,h1.2.2.2.2.1⟩
theorem jU{N:Int}{s:PS}(h:WS N s)(I:(cur s).k≠0):Go1 N s (step1 (bE s))/\s.i<(step1 (bE s)).i:=by
 have j:=gI h;have hn:=j.ws h;have h1:=(hn.tg.pos _ _ (yK hn)).2.2.2.2.2;have o:(bE s).i+1<(bE s).toks.length:=by
  have:=hn.lt;by_cases J:(bE s).i+1=(bE s).toks.length
  ·exact absurd (h1 J) I
  ·omega
 exact⟨⟨j.toks,j.off,j.deep,j.quiet,cC j.le (Nat.le_succ _),o,j.exs⟩,Nat.lt_succ_of_le j.le⟩
theorem Wy(s:PS)(h:∀k,s.quiet=true->k=iJ (s.toks.drop s.i)->iJ (s.toks.drop (s.i+k))=0):bE (bE s)=bE s:=by
 unfold bE;split
 ·rename_i j;have:=h _ j rfl;simp only[j,gF,this,eU]
 ·rfl
theorem BE:∀(l:List Tok),iJ (l.drop (iJ l))=0
 |[]=>rfl
 |t::r=>by
  simp only[iJ]
  split
  ·exact BE r
  ·rename_i h
   simp[iJ,h]
theorem gV(s:PS):bE (bE s)=bE s:=Wy s λk _ j=>by rw[<-gY,j];exact BE _
theorem lC(s:PS):cur (bE s)=cur s:=by
 unfold cur;rw[gV];have:(bE s).off=s.off:=by unfold bE;split<;>rfl
 rw[this]
abbrev Later(N:Int)(s:PS)(s':PS):Prop:=Go1 N s s'/\s.i<s'.i
abbrev InN(N:Int)(a:Int):Prop:=0<=a/\a<=N
theorem mU{s:PS}{w:Str}(h:isS s w=true):(cur s).k≠0:=by
 unfold isS at h;simp only[aL,bD]at h;rw[h.1];decide
theorem jT{N:Int}{s:PS}(h:WS N s)(w:Str):Go1 N s (bX s w).2/\((bX s w).1=true->s.i<(bX s w).2.i)/\(bX s w).2.ex=s.ex/\(bX s w).2.bl=s.bl:=by
 have e1:(bE s).ex=s.ex:=by unfold bE;split<;>rfl
 have e2:(bE s).bl=s.bl:=by unfold bE;split<;>rfl
 unfold bX;split
 ·rename_i hi;have:=jU h (mU hi);exact⟨this.1,λ_=>this.2,e1,e2⟩
 ·exact⟨gI h,(λe=>by cases e),e1,e2⟩
theorem iK(s:PS):(bE s).ex=s.ex/\(bE s).bl=s.bl:=by unfold bE;split<;>exact⟨rfl,rfl⟩
theorem kQ{N:Int}{s:PS}(h:WS N s)(w:Str):Sat (oX s w) (λ_ s'=>Later N s s'/\s'.ex=s.ex/\s'.bl=s.bl) (InN N):=by
 unfold oX;split
 ·rename_i hi;exact⟨jU h (mU hi),iK s⟩
 ·have:=kH h;exact⟨this.1,this.2.1⟩
theorem sF{N:Int}{s:PS}(h:WS N s):Go1 N s (jE s)/\((cur s).k≠0->s.i<(jE s).i)/\(jE s).ex=s.ex/\(jE s).bl=s.bl:=by
 unfold jE;split
 ·rename_i j;have:=jU h j;exact⟨this.1,λ_=>this.2,iK s⟩
 ·rename_i j;exact⟨gI h,λe=>absurd e j,iK s⟩
theorem mG{N:Int}{s:PS}(h:WS N s)(k:Int)(j:k≠0):Sat (mH s k) (λt s'=>Later N s s'/\s'.ex=s.ex/\s'.bl=s.bl/\t=cur s/\t.k=k) (InN N):=by
 unfold mH;split
 ·rename_i o;have:=sF h;exact⟨⟨this.1,this.2.1 (by omega)⟩,this.2.2.1,this.2.2.2,rfl,o⟩
 ·have:=kH h;exact⟨this.1,this.2.1⟩
theorem nG{N:Int}{s:PS}(h:WS N s):Go1 N s (gM s)/\(gM s).ex=s.ex/\(gM s).bl=s.bl:=by
 have j:=gI h;have hn:=j.ws h;have h1:=hn.tg.last hn.lt;rw[j.toks]at h1;have o:=hn.lt;rw[j.toks]at o;refine⟨⟨j.toks,j.off,j.deep,j.quiet,?_,?_,j.exs⟩,iK s⟩
 ·have:=j.le;show s.i<=(bE s).i+_;omega
 ·show(bE s).i+_<(bE s).toks.length;rw[j.toks];omega
def EOk(N:Int)(F:PS->R Nat):Prop:=∀s,WS N s->Sat (F s) (λx s'=>Later N s s'/\s'.bl=s.bl/\∀roots,cX (exL s.ex) roots->cX (exL s'.ex) (x::roots)) (InN N)
theorem Bt{N:Int}{s:PS}(h:WS N s){e:Ex}(o:0<=e.a/\e.a<N):Sat (rO s e) (λx s'=>Go1 N s s'/\s'.i=s.i/\s'.bl=s.bl/\∀roots,cX (exL s.ex) (e.args++roots)->cX (exL s'.ex) (x::roots)) (InN N):=
 ⟨⟨rfl,rfl,rfl,rfl,aV _,h.lt,λx j=>by
   rcases dH.1 j with j|j
   ·exact .inl j
   ·rw[bK]at j
    subst j
    exact .inr o⟩,rfl,rfl,λ_ hf=>Fw hf⟩
theorem lU{N:Int}{s:PS}(h:WS N s){α:Type}{a:Int}(j:InN N a){q:Bool}{f:PS->R α}{P:α->PS->Prop}(hf:WS N {s with deep:=s.deep+1,quiet:=q}->Sat (f {s with deep:=s.deep+1,quiet:=q}) P (InN N)):
  Sat (within s a q f) (λx s'=>∃s1,P x s1/\s'={s1 with deep:=s.deep,quiet:=s.quiet}) (InN N):=by
 unfold within;split
 ·exact j
 ·exact(hf (yH h _ _)).bind λx s1 h1=>⟨s1,h1,rfl⟩
theorem Go1.back{N:Int}{s s1:PS}{d:Nat}{q:Bool}(h:Go1 N {s with deep:=d,quiet:=q} s1):Go1 N s {s1 with deep:=s.deep,quiet:=s.quiet}:=⟨h.toks,h.off,rfl,rfl,h.le,h.lt,h.exs⟩
theorem rN(p:UInt8->Bool):∀s:Str,eS p s<=s.length
 |[]=>aV _
 |c::r=>by
  have:=rN p r
  simp only[eS,aB]
  split<;>omega
theorem IM:∀(s:Str) (i:Nat),Lib.index s [42,47]=(i:Int)->i+2<=s.length
 |[],i,h=>by
  unfold Lib.index at h
  simp at h
 |b::l,i,h=>by
  unfold Lib.index at h
  split at h
  ·rename_i hp
   have hi:i=0:=by omega
   subst hi
   cases l with
   |nil=>simp[List.isPrefixOf]at hp
   |cons c l=>simp
  ·split at h
   ·omega
   ·rename_i j
    have h1:Lib.index l [42,47]≠-1:=by simpa using j
    have o:=Lib.index_ge l [42,47]
    have:=IM l (i-1) (by omega)
    simp only[aB]
    omega
theorem Iw{p s:Str}(h:qD p s=true):p.length<=s.length:=by
 unfold qD at h;exact(Gp.1 h).length_le
theorem wZ:∀(n:Nat) (s:Str),(fW n s).1<=s.length
 |0,_=>fR _
 |_+1,[]=>fR _
 |n+1,c::r=>by
  simp only[fW]
  split
  ·have:=wZ n r
   simp only[aB]
   omega
  split
  ·have h1:=wZ n ((c::r).drop (eS (λb=>b !=10) (c::r)))
   have o:=rN (λb=>b !=10) (c::r)
   rw[aP]at h1
   simp only
   omega
  split
  ·rename_i hp
   split
   ·exact fR _
   ·rename_i hi
    obtain⟨i,j⟩:=Int.eq_ofNat_of_zero_le (by omega:0<=Lib.index (r.drop 1) [42,47])
    have h1:=IM _ _ j
    have o:=wZ n ((c::r).drop ((Lib.index (r.drop 1) [42,47]).toNat+4))
    rw[j]at o⊢
    rw[aP]at h1 o
    simp only[aB,aW]at o⊢
    omega
  ·exact fR _
def noD:Str->Bool
 |[]=>true
 |[c]=>c !=92&&c !=36
 |c::e::r=>if c=92 then noD r else c !=36&&noD (e::r)
theorem DI:∀(n:Nat) (t:Str),t.length<=n->noD t=true->insP t=none
 |_,[],_,_=>rfl
 |_,[_],_,_=>rfl
 |0,c::e::r,h,_=>by simp at h
 |n+1,c::e::r,h,hd=>by
  simp only[noD]at hd
  simp only[insP]
  simp only[aB]at h
  split
  ·rename_i j
   rw[aJ j]at hd
   rw[DI n r (by omega) hd]
   rfl
  ·rename_i j
   rw[aE j]at hd
   simp only[aL,bne_iff_ne,bP]at hd
   rw[aE (λe=>hd.1 e.1),DI n (e::r) (by simp only[aB];omega) hd.2]
   rfl
theorem EH{r:Str}(h1:c≠92)(j:c≠36)(h:noD r=true):noD (c::r)=true:=by
 cases r with
 |nil=>simp[noD,h1,j]
 |cons e r=>simp[noD,h1,j,h]
theorem DJ{r:Str}(h:noD r=true):noD (92::c::r)=true:=by simp[noD,h]
theorem DK:∀(n:Nat) (a b:Str),a.length<=n->noD a=true->noD b=true->noD (a++b)=true
 |_,[],b,_,_,hb=>hb
 |0,_::_,b,h,_,_=>by simp at h
 |_,[c],b,_,j,hb=>by
  simp only[noD,aL,bne_iff_ne,bP]at j
  exact EH j.1 j.2 hb
 |n+1,c::e::r,b,h,j,hb=>by
  simp only[noD]at j
  simp only[aB]at h
  split at j
  ·rename_i o
   subst o
   exact DJ (DK n r b (by omega) j hb)
  ·rename_i o
   simp only[aL,bne_iff_ne,bP]at j
   exact EH o j.1 (DK n (e::r) b (by simp only[aB];omega) j.2 hb)
theorem Ki:∀s:Str,noD (kU s)=true
 |[]=>rfl
 |c::r=>by
  have ih:=Ki r
  simp only[kU]
  split
  ·exact DJ ih
  rename_i h1
  split
  ·exact DJ ih
  split
  ·exact DJ ih
  ·simp only[cQ,fV,not_or]at h1
   exact EH h1.1.1 h1.2 ih
theorem NP:∀(n:Nat) (name s:Str) (t:Str) (k:Nat),mV n name s=(t,k,0)->k<=s.length/\noD t=true
 |0,_,_,_,_,h=>by simp[mV]at h
 |n+1,name,s,t,k,h=>by
  have J:=rN (λb=>b !=10) s
  simp only[mV]at h
  split at h
  ·injection h with h1 j
   injection j with j _
   subst h1 j
   exact⟨J,rfl⟩
  split at h
  ·cases h
  rename_i I
  split at h
  ·rename_i o
   injection h with h1 j
   injection j with j _
   obtain⟨i1,i2⟩:=NP n name (s.drop (eS (λb=>b !=10) s+1)) (mV n name (s.drop (eS (λb=>b !=10) s+1))).1 (mV n name (s.drop (eS (λb=>b !=10) s+1))).2.1 (fZ rfl (fZ rfl o))
   rw[aP]at i1
   subst h1 j
   refine⟨by omega,?_⟩
   refine DK _ _ _ (aV _) (DK _ _ _ (aV _) (Ki _) rfl) i2
  ·rename_i o
   injection h with _ j
   injection j with _ j
   exact absurd j o
theorem Xd{s:Str}{m:Nat}(hm:(s.drop m).head?=some c):m<s.length:=by
 by_cases hl:m<s.length
 ·exact hl
 ·rw[fH (by omega)]at hm;cases hm
theorem Fj{s t:Str}{k:Nat}(h:iR s=(t,k,0)):1<=k/\k<=s.length/\noD t=true:=by
 unfold iR at h;simp only at h;generalize (if jR ((s.drop 2).headD 0)=true then eS jV (s.drop 2)else 0)=n at h;split at h
 ·cases h
 split at h
 ·rename_i J;have I:=Xd J;generalize U:mV (s.length+1) ((s.drop 2).take n) (s.drop (2+n+1))=x at h;obtain⟨x1,x2,x3⟩:=x;simp only at h;split at h
  ·rename_i o;subst o;injection h with h1 j
   injection j with j _
   obtain⟨i1,i2⟩:=NP _ _ _ _ _ U;rw[aP]at i1;subst h1 j;exact⟨by omega,by omega,i2⟩
  ·rename_i o;injection h with _ j
   injection j with _ j
   exact absurd j o
 ·cases h
theorem IB{s:Str}{t:Tok}{k:Nat}(U:s≠[])(h:pR s=(t,k,0)):1<=k/\k<=s.length/\t.k≠0/\t.a=0/\(t.k=1->t.t≠[])/\(t.k=3->insP t.t=none\/t.t.length+2<=k):=by
 obtain⟨c,r,rfl⟩:∃c r,s=c::r:=by
  cases s with
  |nil=>exact absurd rfl U
  |cons c r=>exact⟨c,r,rfl⟩
 unfold pR at h;simp only[List.headD_cons]at h;split at h
 ·injection h with h1 j
  injection j with j _
  subst h1 j;simp
 split at h
 ·rename_i hl;injection h with h1 j
  injection j with j o
  have hp:1<=eS jV (c::r):=by
   simp only[eS];rw[aJ (by unfold jV;rw[hl];rfl)];omega
  have:=rN jV (c::r);subst h1 j;refine⟨hp,this,by simp,rfl,λ_=>?_,λe=>by simp at e⟩;intro e;have e:=congrArg List.length e;rw[bS,aN]at e;omega
 split at h
 ·rename_i hl;injection h with h1 j
  injection j with j o
  have hp:1<=eS jL (c::r):=by
   simp only[eS];rw[aJ hl];omega
  have:=rN jL (c::r);subst h1 j;exact⟨hp,this,by simp,rfl,λe=>by simp at e,λe=>by simp at e⟩
 split at h
 ·split at h
  ·rename_i I;injection h with h1 j
   injection j with j _
   have J:oY ((c::r).length+1) ((c::r).drop 1) 0=gL r 0:=uL (by simp;omega);rw[J]at I h1 j;obtain⟨_,q2,q3⟩:=(jM r.length r (aV _)).1 0 (gL r 0).1 (fZ rfl I);subst h1 j;refine⟨by omega,by simp only[aB];omega,by simp,rfl,λe=>by simp at e,λ_=>.inr ?_⟩;rw[bS];simp only[cU,cZ];omega
  ·rename_i I;injection h with _ j
   injection j with _ j
   exact absurd j I
 split at h
 ·injection h with h1 j
  injection j with j o
  obtain⟨i1,i2,i3⟩:=Fj (s:=c::r) (t:=(iR (c::r)).1) (k:=(iR (c::r)).2.1) (fZ rfl (fZ rfl o));subst h1 j;exact⟨i1,i2,by simp,rfl,λe=>by simp at e,λ_=>.inl (DI _ _ (aV _) i3)⟩
 ·injection h with h1 j
  injection j with j o
  subst h1 j;split at o
  ·cases o
  rename_i hz;refine⟨by omega,?_,by simp,rfl,λe=>by simp at e,λe=>by simp at e⟩;unfold vX;split
  ·exact List.length_take_le' _ _
  ·split
   ·exact List.length_take_le' _ _
   ·simp
theorem JD:∀(n:Nat) (s:Str) (a cnt:Nat) (l:List Tok),nQ n s a cnt=.ok l->TG ((a+s.length:Nat):Int) 0 l
 |0,_,_,_,_,h=>by simp[nQ]at h
 |n+1,s,a,cnt,l,h=>by
  have hk:=wZ (s.length+1) s
  simp only[nQ]at h
  split at h
  ·cases h
  split at h
  ·rename_i o
   injection h with h
   subst h
   have:s.length<=(fW (s.length+1) s).1:=by
    have:=congrArg List.length o;rw[aP,aN]at this;omega
   refine⟨by simp,λi t j=>?_⟩;have hi:i=0:=by
    by_cases h0:i=0
    ·exact h0
    ·rw[List.getElem?_eq_none (by simp;omega)]at j;cases j
   subst hi;simp only[List.getElem?_cons_zero,bF]at j;subst j;refine⟨by simp only;omega,by simp only;omega,λe=>absurd rfl e,λe=>by simp at e,λe=>by simp at e,λ_=>rfl⟩
  rename_i o;split at h
  ·cases h
  rename_i ho;split at h
  ·cases h
  have U:s.length-(fW (s.length+1) s).1=(s.drop (fW (s.length+1) s).1).length:=(aP ..).symm;obtain⟨o1,o2,o3,o4,o5,o6⟩:=IB o (fZ rfl (fZ rfl (tC.1 ho)):pR (s.drop (fW (s.length+1) s).1)=((pR (s.drop (fW (s.length+1) s).1)).1,(pR (s.drop (fW (s.length+1) s).1)).2.1,0));split at h
  ·rename_i l' J;injection h with h
   subst h;have ih:=JD n _ _ _ _ J;rw[aP]at ih;have eN:a+(fW (s.length+1) s).1+(pR (s.drop (fW (s.length+1) s).1)).2.1+((s.drop (fW (s.length+1) s).1).length-(pR (s.drop (fW (s.length+1) s).1)).2.1)=a+s.length:=by omega
   rw[eN]at ih;refine⟨by simp,λi t j=>?_⟩;cases i with
   |zero=>
    simp only[List.getElem?_cons_zero,bF]at j;subst j;refine⟨by simp only;omega,by simp only;omega,λ_=>by simp only;omega,λe=>?_,λe=>o5 e,λe=>?_⟩
    ·rcases o6 e with h|h
     ·exact .inl h
     ·exact .inr (by simp only;omega)
    ·simp only[aB]at e;have:=ih.ne;exact absurd (bC (by omega)) this
   |succ i=>
    simp only[List.getElem?_cons_succ]at j;have:=ih.pos i t j;exact⟨this.1,this.2.1,this.2.2.1,this.2.2.2.1,this.2.2.2.2.1,λe=>this.2.2.2.2.2 (by simp only[aB]at e;omega)⟩
  ·rename_i I;exact absurd h (I l)
theorem GG:∀(n:Nat) (s:Str) (a cnt:Nat) (c b:Int),nQ n s a cnt=.bad c b->0<=b/\b<=((a+s.length:Nat):Int)
 |0,_,_,_,_,_,h=>by
  simp only[nQ]at h
  injection h with _ h
  subst h
  omega
 |n+1,s,a,cnt,c,b,h=>by
  have I:=wZ (s.length+1) s
  simp only[nQ]at h
  split at h
  ·injection h with _ h
   subst h
   omega
  split at h
  ·cases h
  rename_i j
  split at h
  ·injection h with _ h
   subst h
   omega
  rename_i o
  split at h
  ·injection h with _ h
   subst h
   omega
  obtain⟨o1,o2,_⟩:=IB j (fZ rfl (fZ rfl (tC.1 o)):pR (s.drop (fW (s.length+1) s).1)=((pR (s.drop (fW (s.length+1) s).1)).1,(pR (s.drop (fW (s.length+1) s).1)).2.1,0))
  rw[aP]at o2
  split at h
  ·cases h
  ·have ih:=GG n _ _ _ c b h
   rw[aP,aP]at ih
   omega
theorem Oq:∀(n:Nat) (s:Str) (i j:Nat),Gh n s i=some j->j<s.length
 |0,_,_,_,h=>by simp[Gh]at h
 |n+1,s,i,j,h=>by
  simp only[Gh]at h
  split at h
  ·cases h
  split at h
  ·injection h with h
   omega
  ·exact Oq n s _ j h
theorem Im{s:Str}{l:List Tok}(h:rC s=.ok l){N off:Int}(h0:0<=off)(hN:off+s.length<=N):TG N off l:=by
 unfold rC at h;split at h
 ·cases h
 split at h
 ·cases h
 have:=JD _ _ _ _ _ h;refine⟨this.ne,λi t J=>?_⟩;obtain⟨h1,I,o,j,h5,U⟩:=this.pos i t J;rw[aX]at I o j;rw[Int.add_zero]at h1 I o j;refine⟨by omega,by omega,λe=>by have:=o e;omega,λe=>?_,h5,U⟩;rcases j e with h|h
 ·exact .inl h
 ·exact .inr (by omega)
theorem JA{s:Str}{c b:Int}(h:rC s=.bad c b):0<=b/\b<=(s.length:Nat):=by
 unfold rC at h;split at h
 ·injection h with _ h
  subst h;omega
 split at h
 ·rename_i i hi;injection h with _ h
  subst h;have:=Oq _ _ _ _ hi;omega
 ·have:=GG _ _ _ _ _ _ h;rw[aX]at this;exact this
theorem aAd:∀(N:Nat) (r:Str),r.length<=N->(∀c,qV r c<=r.length)/\tI r<=r.length:=by
 intro N;induction N with
 |zero=>
  intro r j;have:r=[]:=bC (by omega);subst this;exact⟨λc=>aV _,aV _⟩
 |succ N ih=>
  intro r j;cases r with
  |nil=>exact ih [] (by simp)
  |cons c r=>
   simp only[aB]at j;have j:r.length<=N:=by omega
   have h1:=ih r j;refine⟨λd=>?_,?_⟩
   ·rw[pH];have o:=(ih (r.drop (tI r)) (lA _ j)).1 d;rw[aP]at o;have J:=h1.1 (d+1);have h4:=h1.1 (d-1);have h5:=h1.1 d;have I:=h1.2;simp only[aB]
    (repeat' split)<;>omega
   ·rw[Ch];have o:=(ih (r.drop (qV r 0)) (lA _ j)).2;rw[aP]at o;have J:=h1.1 0;have I:=h1.2;cases r with
    |nil=>
     simp only[aB,aN]at*
     (repeat' split)<;>omega
    |cons e r'=>
     have U:=(ih r' (by simp only[aB]at j;omega)).2;simp only[aB]at*
     (repeat' split)<;>omega
theorem IY(r:Str)(c:Int):qV r c<=r.length:=(aAd r.length r (aV _)).1 c
theorem BJ:∀(n:Nat) (t:Str),t.length<=n->∀i e,insP t=some (i,e)->i+2<=t.length/\i+1<=e/\e<=t.length
 |_,[],_,i,e,h=>by simp[insP]at h
 |_,[_],_,i,e,h=>by simp[insP]at h
 |0,_::_::_,h,_,_,_=>by simp at h
 |n+1,c::x::r,hn,i,e,h=>by
  simp only[aB]at hn
  simp only[insP]at h
  split at h
  ·cases j:insP r with
   |none=>rw[j]at h;cases h
   |some y=>
    rw[j]at h
    simp only[gK,bF,gE]at h
    obtain⟨rfl,rfl⟩:=h
    have:=BJ n r (by omega) y.1 y.2 j
    simp only[aB]
    omega
  split at h
  ·simp only[bF,gE]at h
   obtain⟨rfl,rfl⟩:=h
   have:=IY (x::r) 0
   have e1:Ls (x::r)=qV (x::r) 0:=rfl
   rw[e1]
   simp only[aB]at this⊢
   omega
  ·cases j:insP (x::r)with
   |none=>rw[j]at h;cases h
   |some y=>
    rw[j]at h
    simp only[gK,bF,gE]at h
    obtain⟨rfl,rfl⟩:=h
    have:=BJ n (x::r) (by simp only[aB];omega) y.1 y.2 j
    simp only[aB]at this⊢
    omega
section
variable{N:Int}{E S:PS->R Nat}
theorem Hk(hE:EOk N E){s:PS}(h:WS N s){t:Str}{a:Int}(h0:0<=a)(h1:a+t.length<=N):Sat (pU E s t a) (λx s'=>Go1 N s s'/\s'.bl=s.bl/\∀roots,cX (exL s.ex) roots->cX (exL s'.ex) (x::roots)) (InN N):=by
 unfold pU;split
 ·rename_i c b I;have:=JA I;exact⟨by omega,by omega⟩
 ·rename_i l I;have j:=Im I h0 h1;have J:WS N ⟨l,0,a,s.deep,false,s.ex,s.bl⟩:=⟨j,dQ.2 j.ne,h.pN⟩;refine(hE _ J).bind λx q ⟨⟨U,_⟩,hb,hf⟩=>?_;have o:=U.ws J;unfold mH;split
  ·refine⟨⟨rfl,rfl,rfl,rfl,aV _,h.lt,λe he=>?_⟩,?_,λroots hr=>?_⟩
   ·have:e∈(jE q).ex:=he;rw[(sF o).2.2.1]at this;exact U.exs e this
   ·show(jE q).bl=s.bl;rw[(sF o).2.2.2];exact hb
   ·show cX (exL (jE q).ex) _;rw[(sF o).2.2.1];exact hf roots hr
  ·have:=kH o;exact⟨this.1,this.2.1⟩
theorem GP{s:PS}(h:WS N s){t:Tok}(j:InN N t.a):Sat (qO s t) (λ_ s'=>s'=s) (InN N):=by
 unfold qO;split
 ·exact j
 ·rfl
theorem Cl(hE:EOk N E):∀(n:Nat) (s:PS) (rest:Str) (a:Int) (us:List Nat) (ks:List Str),WS N s->0<=a->a+rest.length+1<=N->
  Sat (nT E n s rest a us ks) (λx s'=>Go1 N s s'/\s'.bl=s.bl/\∀roots,cX (exL s.ex) (us++roots)->cX (exL s'.ex) (x.1++roots)) (InN N)
 |0,s,_,_,_,_,h,_,_=>⟨oV _,h.pN⟩
 |n+1,s,rest,a,us,ks,h,h0,h1=>by
  have one:∀(e:Ex),e.args=[]->0<=e.a->e.a<N->Go1 N s {s with ex:=s.ex++[e]}/\∀roots,cX (exL s.ex) (us++roots)->cX (exL (s.ex++[e])) ((us++[s.ex.length])++roots):=λe U h2 h3=>
   ⟨⟨rfl,rfl,rfl,rfl,aV _,h.lt,λx o=>by
     rcases dH.1 o with o|o
     ·exact .inl o
     ·rw[bK]at o;subst o;exact .inr ⟨h2,h3⟩⟩,
    λroots hf=>by
     have:=Fw (e:=e) (roots:=us++roots) (by rw[U];exact hf)
     refine this.perm ?_
     rw[fP]
     exact(qG).symm⟩
  simp only[nT]
  split
  ·exact⟨Go1.refl h,rfl,λ_ hf=>hf⟩
  split
  ·have:=one ⟨5,kS rest,[],[],a⟩ rfl h0 (by show a<N;omega)
   exact⟨this.1,rfl,this.2⟩
  ·rename_i i e hi
   obtain⟨i1,i2,i3⟩:=BJ rest.length rest (aV _) i e hi
   have I:∃s1 as1,s1=(if 0<i then{s with ex:=s.ex++[⟨5,kS (rest.take i),[],[],a⟩]}else s)/\as1=(if 0<i then us++[s.ex.length]else us)/\Go1 N s s1/\s1.bl=s.bl/\∀roots,cX (exL s.ex) (us++roots)->cX (exL s1.ex) (as1++roots):=by
    refine⟨_,_,rfl,rfl,?_⟩;split
    ·have:=one ⟨5,kS (rest.take i),[],[],a⟩ rfl h0 (by show a<N;omega);exact⟨this.1,rfl,this.2⟩
    ·exact⟨Go1.refl h,rfl,λ_ hf=>hf⟩
   obtain⟨s1,as1,e1,e2,g1,b1,f1⟩:=I;rw[<-e1,<-e2];have j:=g1.ws h;have hd:((rest.drop e).length:Int)=rest.length-e:=by rw[aP];omega
   split
   ·refine Sat.bind (lU j (a:=a+i) ⟨by omega,by omega⟩ (P:=λx s'=>Go1 N {s1 with deep:=s1.deep+1,quiet:=false} s'/\s'.bl=s1.bl/\∀roots,cX (exL s1.ex) roots->cX (exL s'.ex) (x::roots)) λJ=>Hk hE J (by omega) ?_) λx s2 ⟨q,⟨g2,b2,f2⟩,e3⟩=>?_
    ·rw[bS,aP];omega
    ·subst e3;have g2':=g2.back;refine Sat.mono (Cl hE n _ (rest.drop e) (a+e) (as1++[x]) _ ((g2').ws j) (by omega) (by rw[hd];omega)) λy s3 ⟨g3,b3,f3⟩=>⟨g1.trans (g2'.trans g3),b3.trans (b2.trans b1),λroots hf=>f3 roots ?_⟩;have:=f2 _ (f1 roots hf);refine this.perm ?_;rw[fP];exact(qG).symm
   ·refine Sat.mono (Cl hE n s1 (rest.drop e) (a+e) as1 _ j (by omega) (by rw[hd];omega)) λy s3 ⟨g3,b3,f3⟩=>⟨g1.trans g3,b3.trans b1,λroots hf=>f3 roots (f1 roots hf)⟩
theorem QG(hE:EOk N E){s:PS}(h:WS N s){t:Tok}(o:0<=t.a/\t.a<N)(j:Ji N t.a t.t):Sat (CX E s t) (λx s'=>Go1 N s s'/\s'.bl=s.bl/\∀roots,cX (exL s.ex) roots->cX (exL s'.ex) (x::roots)) (InN N):=by
 unfold CX;split
 ·rename_i hi;have j:t.a+t.t.length+2<=N:=j.resolve_left λe=>by rw[e]at hi;cases hi
  refine(Cl hE (t.t.length+1) s t.t (t.a+1) [] [] h (by omega) (by omega)).bind λx s1 ⟨g1,b1,f1⟩=>?_;refine(Bt (g1.ws h) (e:=⟨6,[],x.1,x.2,t.a⟩) o).mono λy s2 ⟨g2,_,b2,f2⟩=>⟨g1.trans g2,b2.trans b1,λroots hf=>f2 roots (f1 roots hf)⟩
 ·exact(Bt h (e:=⟨5,kS t.t,[],[],t.a⟩) o).mono λy s2 ⟨g2,_,b2,f2⟩=>⟨g2,b2,λroots hf=>f2 roots hf⟩
theorem Lz(hE:EOk N E)(w:Str):∀(n:Nat) (s:PS) (out:List Nat),WS N s->
  Sat (tY E w n s out) (λx s'=>Later N s s'/\s'.bl=s.bl/\∀roots,cX (exL s.ex) (out++roots)->cX (exL s'.ex) (x++roots)) (InN N)
 |0,s,_,h=>⟨oV _,h.pN⟩
 |n+1,s,out,h=>by
  have step:∀{s1:PS},Go1 N s s1->s1.ex=s.ex->s1.bl=s.bl->Sat ((E s1).bind λx s'=>tY E w n s' (out++[x])) (λx s'=>Later N s s'/\s'.bl=s.bl/\∀roots,cX (exL s.ex) (out++roots)->cX (exL s'.ex) (x++roots)) (InN N):=λ{s1} g1 x1 b1=>by
   refine(hE s1 (g1.ws h)).bind λx s2 ⟨g2,b2,f2⟩=>?_
   refine Sat.mono (Lz hE w n s2 (out++[x]) (g2.1.ws (g1.ws h))) λy s3 ⟨g3,b3,f3⟩=>⟨⟨g1.trans (g2.1.trans g3.1),by have:=g1.le;have:=g2.2;have:=g3.2;omega⟩,b3.trans (b2.trans b1),λroots hf=>f3 roots ?_⟩
   have:=f2 _ (by rw[x1];exact hf)
   refine this.perm ?_
   rw[fP]
   exact(qG).symm
  have t1:=jT h w
  simp only[tY]
  split
  ·rename_i j
   exact⟨⟨t1.1,t1.2.1 j⟩,t1.2.2.2,λroots hf=>by rw[t1.2.2.1];exact hf⟩
  split
  ·rename_i o
   have:=step t1.1 t1.2.2.1 t1.2.2.2
   exact this
  ·refine(kQ (t1.1.ws h) [44]).bind λ_ s1 ⟨g1,x1,b1⟩=>?_
   have g01:=t1.1.trans g1.1
   have t2:=jT (g01.ws h) w
   split
   ·rename_i j
    exact⟨⟨g01.trans t2.1,by have:=t1.1.le;have:=g1.2;have:=t2.1.le;omega⟩,t2.2.2.2.trans (b1.trans t1.2.2.2),λroots hf=>by rw[t2.2.2.1,x1,t1.2.2.1];exact hf⟩
   ·exact step (g01.trans t2.1) (t2.2.2.1.trans (x1.trans t1.2.2.1)) (t2.2.2.2.trans (b1.trans t1.2.2.2))
theorem HU(hE:EOk N E)(w:Str){s:PS}(h:WS N s):Sat (FW E w s) (λx s'=>Later N s s'/\s'.bl=s.bl/\∀roots,cX (exL s.ex) roots->cX (exL s'.ex) (x++roots)) (InN N):=
 (Lz hE w _ s [] h).mono λx s' ⟨g,b,f⟩=>⟨g,b,λroots hf=>f roots hf⟩
theorem RY(hE:EOk N E){s:PS}(h:WS N s)(hk:(cur s).k≠0)(hq:bE s=s){a:Int}(ha:0<=a/\a<N):Sat (Dd E s a) (λe s'=>Later N s s'/\s'.bl=s.bl/\(0<=e.a/\e.a<N)/\∀roots,cX (exL s.ex) roots->cX (exL s'.ex) (e.args++roots)) (InN N):=by
 have o:=jU h hk;rw[hq]at o;have hw:=o.1.ws h;have hn:=gI hw;have ex1:(bE (step1 s)).ex=s.ex:=(iK _).1;have bl1:(bE (step1 s)).bl=s.bl:=(iK _).2;unfold Dd;simp only;split
 ·refine(HU hE [93] (hn.ws hw)).bind λus s1 ⟨g1,b1,f1⟩=>?_;exact⟨⟨o.1.trans (hn.trans g1.1),by have:=o.2;have:=hn.le;have:=g1.2;omega⟩,b1.trans bl1,ha,λroots hf=>f1 roots (by rw[ex1];exact hf)⟩
 ·rename_i hc;have hj:(cur (step1 s)).k≠0:=λe=>hc (.inl (by rw[e];decide));have I:=jU hw hj;refine(mG (I.1.ws hw) 1 (by decide)).bind λt s2 ⟨g2,x2,b2,_⟩=>?_;have j:=g2.1.ws (I.1.ws hw);refine(mG j 1 (by decide)).bind λu s3 ⟨g3,x3,b3,hu,_⟩=>?_;have hg:=g3.1.ws j;split
  ·have:=kH j;rw[hu];exact⟨this.1,this.2.1⟩
  refine(hE s3 hg).bind λx s4 ⟨g4,b4,f4⟩=>?_;have U:=g4.1.ws hg;refine(kQ U [58]).bind λ_ s5 ⟨g5,x5,b5⟩=>?_;have J:=g5.1.ws U;refine(hE s5 J).bind λy s6 ⟨g6,b6,f6⟩=>?_;have hi:=g6.1.ws J;refine(kQ hi [93]).bind λ_ s7 ⟨g7,x7,b7⟩=>?_;have e01:(step1 (bE (step1 s))).ex=s.ex:=ex1;have e02:(step1 (bE (step1 s))).bl=s.bl:=bl1;refine⟨⟨o.1.trans (I.1.trans (g2.1.trans (g3.1.trans (g4.1.trans (g5.1.trans (g6.1.trans g7.1)))))),by have:=o.2;have:=I.2;have:=g2.2;have:=g3.2;have:=g4.2;have:=g5.2;have:=g6.2;have:=g7.2;omega⟩,
   b7.trans (b6.trans (b5.trans (b4.trans (b3.trans (b2.trans e02))))),ha,λroots hf=>?_⟩
  rw[x7];have h1:=f4 roots (by rw[x3,x2,e01];exact hf);have I:=f6 _ (by rw[x5];exact h1);exact I.perm (List.Perm.swap _ _ _)
theorem ND(hE:EOk N E){a:Int}(ha:0<=a/\a<N):∀(n:Nat) (s:PS) (us:List Nat) (ks:List Str),WS N s->
  Sat (Ge E a n s us ks) (λe s'=>Later N s s'/\s'.bl=s.bl/\(0<=e.a/\e.a<N)/\∀roots,cX (exL s.ex) (us++roots)->cX (exL s'.ex) (e.args++roots)) (InN N)
 |0,s,_,_,h=>⟨oV _,h.pN⟩
 |n+1,s,us,ks,h=>by
  have t1:=jT h [125]
  simp only[Ge]
  split
  ·rename_i ht
   exact⟨⟨t1.1,t1.2.1 ht⟩,t1.2.2.2,ha,λroots hf=>by rw[t1.2.2.1];exact hf⟩
  have I:=t1.1.ws h
  have n1:=sF I
  have o:=n1.1.ws I
  have hc:=kH I
  have J:InN N (cur (bX s [125]).2).a:=⟨hc.1,hc.2.1⟩
  refine Sat.bind (P:=λ_ s3=>s3=jE (bX s [125]).2/\(cur (bX s [125]).2).k≠0) ?_ λk s3 ⟨e3,hs⟩=>?_
  ·split
   ·rename_i hk
    exact(GP o J).mono λ_ s3 e=>⟨e,by rw[hk];decide⟩
   ·split
    ·rename_i hk
     exact⟨rfl,by rw[hk];decide⟩
    ·exact J
  subst e3
  split
  ·exact J
  refine(kQ o [61]).bind λ_ s4 ⟨g4,x4,b4⟩=>?_
  have hh:=g4.1.ws o
  refine(hE s4 hh).bind λx s5 ⟨g5,b5,f5⟩=>?_
  have hg:=g5.1.ws hh
  have t5:=jT hg [44]
  have j:=t5.1.ws hg
  have n6:=gI j
  have g05:=t1.1.trans (n1.1.trans (g4.1.trans (g5.1.trans t5.1)))
  split
  ·have:=kH (n6.ws j)
   exact⟨this.1,this.2.1⟩
  have l6:∃s6,s6=(if(bX s5 [44]).1=true then(bX s5 [44]).2 else bE (bX s5 [44]).2)/\Go1 N (bX s5 [44]).2 s6/\s6.ex=(bX s5 [44]).2.ex/\s6.bl=(bX s5 [44]).2.bl:=by
   refine⟨_,rfl,?_⟩;split
   ·exact⟨Go1.refl j,rfl,rfl⟩
   ·exact⟨n6,(iK _).1,(iK _).2⟩
  obtain⟨s6,e6,g6,x6,b6⟩:=l6;rw[<-e6];have U:=g6.ws j;have l7:=nG U;refine Sat.mono (ND hE ha n (gM s6) (us++[x]) (ks++[k]) (l7.1.ws U)) λe s8 ⟨g8,b8,hj,f8⟩=>⟨⟨g05.trans (g6.trans (l7.1.trans g8.1)),by have:=g05.le;have:=g6.le;have:=l7.1.le;have:=g8.2;omega⟩,
   b8.trans (l7.2.2.trans (b6.trans (t5.2.2.2.trans (b5.trans (b4.trans (n1.2.2.2.trans t1.2.2.2)))))),hj,λroots hf=>f8 roots ?_⟩
  rw[l7.2.1,x6,t5.2.2.1];have:=f5 (us++roots) (by rw[x4,n1.2.2.1,t1.2.2.1];exact hf);refine this.perm ?_;rw[fP];exact(qG).symm
end
theorem _root_.And.tr{N:Int}{s s1 s2:PS}(h:Later N s s1)(j:Later N s1 s2):Later N s s2:=⟨h.1.trans j.1,Nat.lt_trans h.2 j.2⟩
theorem Go1.tr{N:Int}{s s1 s2:PS}(h:Go1 N s s1)(j:Later N s1 s2):Later N s s2:=⟨h.trans j.1,Gm h.le j.2⟩
section
variable{N:Int}{E S:PS->R Nat}
theorem JJ{l:List Tok}{t:Tok}(h:l[i]?=some t)(o:t.k≠5):iJ (l.drop i)=0:=by
 have j:=(List.getElem?_eq_some_iff.1 h).1;rw[cL j];have:l[i]=t:=(List.getElem?_eq_some_iff.1 h).2;simp[iJ,this,o]
theorem RF{N:Int}{s:PS}(h:WS N s)(j:(mN s).k≠5):bE s=s:=by
 unfold bE;split
 ·rw[JJ (yK h) j];rfl
 ·rfl
theorem oZ{N:Int}{s:PS}(h:WS N s){w:Str}(hi:isS s w=true)(d:Nat)(q:Bool):bE {bE s with deep:=d,quiet:=q}={bE s with deep:=d,quiet:=q}/\(cur {bE s with deep:=d,quiet:=q}).k≠0/\(cur {bE s with deep:=d,quiet:=q}).a=(cur s).a:=by
 have o:=(gI h).ws h;have j:(mN (bE s)).k=4:=by
  unfold isS cur at hi;simp only[aL,bD]at hi;exact hi.1
 have e1:bE {bE s with deep:=d,quiet:=q}={bE s with deep:=d,quiet:=q}:=RF (yH o d q) (by show(mN (bE s)).k≠5;rw[j];decide);have e2:(bE s).off=s.off:=by unfold bE;split<;>rfl
 refine⟨e1,?_,?_⟩
 ·unfold cur;rw[e1];show(mN (bE s)).k≠0;rw[j];decide
 ·unfold cur;rw[e1];show(mN (bE s)).a+(bE s).off=(mN (bE s)).a+s.off;rw[e2]
abbrev Leaves(N:Int)(s:PS)(x:Nat)(s':PS):Prop:=Later N s s'/\s'.bl=s.bl/\∀roots,cX (exL s.ex) roots->cX (exL s'.ex) (x::roots)
theorem qN{s s1:PS}(h:WS N s)(j:Later N s s1)(hb:s1.bl=s.bl){e:Ex}(I:0<=e.a/\e.a<N)(hf:∀roots,cX (exL s.ex) roots->cX (exL s1.ex) (e.args++roots)):Sat (rO s1 e) (Leaves N s) (InN N):=
 (Bt (j.1.ws h) I).mono λx s2 ⟨g2,i2,b2,f2⟩=>⟨⟨j.1.trans g2,by have:=j.2;rw[i2];exact this⟩,b2.trans hb,λroots o=>f2 roots (hf roots o)⟩
theorem Lx(hE:EOk N E):EOk N (BX E):=by
 intro s h;have n1:=gI h;have hs:=n1.ws h;have o:=kH h;have x1:=iK s;unfold BX;simp only;split
 ·rename_i hk;have h2:=jU h (by rw[hk];decide);exact qN h h2 x1.2 (e:=⟨4,(cur s).t,[],[],(cur s).a⟩) ⟨o.1,o.2.2.1 (by rw[hk];decide)⟩ λroots j=>by show cX (exL (bE s).ex) _;rw[x1.1];exact j
 split
 ·rename_i hk;have h2:=jU h (by rw[hk];decide);refine(QG hE (h2.1.ws h) (t:=cur s) ⟨o.1,o.2.2.1 (by rw[hk];decide)⟩ (o.2.2.2.1 hk)).mono λx s2 ⟨g2,b2,f2⟩=>⟨⟨h2.1.trans g2,by have:=h2.2;have:=g2.le;omega⟩,b2.trans x1.2,λroots j=>f2 roots (by show cX (exL (bE s).ex) _;rw[x1.1];exact j)⟩
 split
 ·rename_i hk;have ht:(cur s).k≠0:=by rw[hk.1];decide
  have h2:=jU h ht;have hj:=h2.1.ws h;have n2:=gI hj;have hy:=n2.ws hj;have hx:0<=(cur s).a/\(cur s).a<N:=⟨o.1,o.2.2.1 ht⟩;split
  ·rename_i hi;have hv:=kH hj;refine Sat.bind (lU hy (a:=(cur (step1 (bE s))).a) (q:=true) ⟨hv.1,hv.2.1⟩ (P:=λus s'=>Later N {bE (step1 (bE s))with deep:=(bE (step1 (bE s))).deep+1,quiet:=true} s'/\s'.bl=s.bl/\∀roots,cX (exL s.ex) roots->cX (exL s'.ex) (us++roots)) λJ=>?_) λus s2 ⟨q,⟨g2,b2,f2⟩,e2⟩=>?_
   ·have U:=oZ hj hi ((bE (step1 (bE s))).deep+1) true;have I:=jU J U.2.1;rw[U.1]at I;exact(HU hE [41] (I.1.ws J)).mono λus s' ⟨g,b,f⟩=>⟨I.tr g,b.trans ((iK _).2.trans x1.2),λroots j=>f roots (by show cX (exL (bE (step1 (bE s))).ex) _;rw[(iK _).1];show cX (exL (bE s).ex) _;rw[x1.1];exact j)⟩
   ·subst e2;have g2':=g2.1.back;refine qN h ⟨h2.1.trans (n2.trans g2'),?_⟩ b2 (e:=⟨12,(cur s).t,us,[],(cur s).a⟩) hx f2;have:=h2.2;have:=n2.le;have:=g2'.le;omega
  ·exact qN h ⟨h2.1.trans n2,by have:=h2.2;have:=n2.le;omega⟩ ((iK _).2.trans x1.2) (e:=⟨yW (cur s).t,if yW (cur s).t=9 then(cur s).t else [],[],[],(cur s).a⟩) hx λroots j=>by rw[(iK _).1];show cX (exL (bE s).ex) _;rw[x1.1];exact j
 have ho:InN N (cur s).a:=⟨o.1,o.2.1⟩;have iQ:∀w,isS (bE s) w=isS s w:=λw=>by unfold isS;rw[lC]
 split
 ·rename_i hi;rw[iQ]at hi;refine(lU hs (a:=(cur s).a) (q:=true) ho (P:=λx s'=>Later N {bE s with deep:=(bE s).deep+1,quiet:=true} s'/\s'.bl=s.bl/\∀roots,cX (exL s.ex) roots->cX (exL s'.ex) (x::roots)) λJ=>?_).mono λx s2 ⟨q,⟨g2,b2,f2⟩,e2⟩=>?_
  ·have U:=oZ h hi ((bE s).deep+1) true;have I:=jU J U.2.1;rw[U.1]at I;refine(hE _ (I.1.ws J)).bind λx q1 ⟨g1,b1,f1⟩=>?_;refine(kQ (g1.1.ws (I.1.ws J)) [41]).bind λ_ q2 ⟨g2,e2,b2⟩=>?_;refine⟨I.tr (g1.tr g2),b2.trans (b1.trans x1.2),λroots j=>?_⟩;rw[e2];exact f1 roots (by show cX (exL (bE s).ex) _;rw[x1.1];exact j)
  ·subst e2;have g2':=g2.1.back;exact⟨⟨n1.trans g2',by have:=n1.le;have:=g2.2;show s.i<q.i;simp only at this;omega⟩,b2,f2⟩
 split
 ·rename_i hi;rw[iQ]at hi;refine Sat.bind (lU hs (a:=(cur s).a) (q:=true) ho (P:=λ(e:Ex) s'=>Later N {bE s with deep:=(bE s).deep+1,quiet:=true} s'/\s'.bl=s.bl/\(0<=e.a/\e.a<N)/\∀roots,cX (exL s.ex) roots->cX (exL s'.ex) (e.args++roots)) λJ=>?_) λe s2 ⟨q,⟨g2,b2,a2,f2⟩,e2⟩=>?_
  ·have U:=oZ h hi ((bE s).deep+1) true;refine(RY hE J U.2.1 U.1 ⟨o.1,o.2.2.1 (mU hi)⟩).mono λe s' ⟨g,b,a,f⟩=>⟨g,b.trans x1.2,a,λroots j=>f roots (by show cX (exL (bE s).ex) _;rw[x1.1];exact j)⟩
  ·subst e2;have g2':=g2.1.back;exact qN h ⟨n1.trans g2',by have:=n1.le;have:=g2.2;show s.i<q.i;simp only at this;omega⟩ b2 a2 f2
 split
 ·rename_i hi;rw[iQ]at hi;refine Sat.bind (lU hs (a:=(cur s).a) (q:=false) ho (P:=λ(e:Ex) s'=>Later N {bE s with deep:=(bE s).deep+1,quiet:=false} s'/\s'.bl=s.bl/\(0<=e.a/\e.a<N)/\∀roots,cX (exL s.ex) roots->cX (exL s'.ex) (e.args++roots)) λJ=>?_) λe s2 ⟨q,⟨g2,b2,a2,f2⟩,e2⟩=>?_
  ·have U:=oZ h hi ((bE s).deep+1) false;have I:=jU J U.2.1;rw[U.1]at I;have l4:=nG (I.1.ws J);unfold Pk;refine(ND hE ⟨o.1,o.2.2.1 (mU hi)⟩ _ _ [] [] (l4.1.ws (I.1.ws J))).mono λe s' ⟨g,b,a,f⟩=>⟨I.tr (Go1.tr l4.1 g),b.trans (l4.2.2.trans x1.2),a,λroots j=>f roots (by rw[l4.2.1];show cX (exL (bE s).ex) _;rw[x1.1];exact j)⟩
  ·subst e2;have g2':=g2.1.back;exact qN h ⟨n1.trans g2',by have:=n1.le;have:=g2.2;show s.i<q.i;simp only at this;omega⟩ b2 a2 f2
 ·exact ho
abbrev TH(N:Int)(s:PS)(x:Nat)(y:Nat)(s':PS):Prop:=Go1 N s s'/\s'.bl=s.bl/\∀roots,cX (exL s.ex) (x::roots)->cX (exL s'.ex) (y::roots)
theorem GO(hE:EOk N E):∀(n:Nat) (s:PS) (x:Nat),WS N s->Sat (rZ E n s x) (TH N s x) (InN N)
 |0,s,_,h=>⟨oV _,h.pN⟩
 |n+1,s,x,h=>by
  have n1:=gI h
  have U:=n1.ws h
  have hc:=kH h
  have x1:=iK s
  have iQ:∀w,isS (bE s) w=isS s w:=λw=>by unfold isS;rw[lC]
  have hs:InN N (cur s).a:=⟨hc.1,hc.2.1⟩
  have more:∀{s2:PS} {e:Ex},Go1 N s s2->s2.bl=s.bl->0<=e.a/\e.a<N->(∀roots,cX (exL s.ex) (x::roots)->cX (exL s2.ex) (e.args++roots))->Sat ((rO s2 e).bind λy s3=>rZ E n s3 y) (TH N s x) (InN N):=λ{s2 e} g2 b2 ha f2=>by
   refine(Bt (g2.ws h) ha).bind λy s3 ⟨g3,_,b3,f3⟩=>?_
   exact(GO hE n s3 y (g3.ws (g2.ws h))).mono λz s4 ⟨g4,b4,f4⟩=>⟨g2.trans (g3.trans g4),b4.trans (b3.trans b2),λroots j=>f4 roots (f3 roots (f2 roots j))⟩
  simp only[rZ]
  have t1:=jT U [46]
  split
  ·rename_i ht
   have hq:(cur s).k≠0:=by
    have:isS (bE s) [46]=true:=by
     unfold bX at ht;split at ht
     ·assumption
     ·cases ht
    rw[iQ]at this;exact mU this
   have J:=t1.1.ws U;refine(mG J 1 (by decide)).bind λu s2 ⟨g2,x2,b2,_⟩=>?_;exact more (e:=⟨10,u.t,[x],[],(cur s).a⟩) (n1.trans (t1.1.trans g2.1)) (b2.trans (t1.2.2.2.trans x1.2)) ⟨hc.1,hc.2.2.1 hq⟩ λroots j=>by rw[x2,t1.2.2.1,x1.1];exact j
  split
  ·rename_i hi;rw[iQ]at hi;have hj:0<=(cur s).a/\(cur s).a<N:=⟨hc.1,hc.2.2.1 (mU hi)⟩;refine Sat.bind (lU U (a:=(cur s).a) (q:=true) hs (P:=λ(o:Option Nat) s'=>Go1 N {bE s with deep:=(bE s).deep+1,quiet:=true} s'/\s'.bl=s.bl/\(o=none->s'.ex=s.ex)/\∀y,o=some y->∀roots,cX (exL s.ex) roots->cX (exL s'.ex) (y::roots)) λhw=>?_) λo s2 ⟨q,⟨g2,b2,f2,f2'⟩,e2⟩=>?_
   ·have hh:=oZ h hi ((bE s).deep+1) true;have h4:=jU hw hh.2.1;rw[hh.1]at h4;have I:=h4.1.ws hw;have t4:=jT I [42];have ex4:(step1 {bE s with deep:=(bE s).deep+1,quiet:=true}).ex=s.ex:=x1.1;have bl4:(step1 {bE s with deep:=(bE s).deep+1,quiet:=true}).bl=s.bl:=x1.2;split
    ·refine(kQ (t4.1.ws I) [93]).bind λ_ q2 ⟨g5,x5,b5⟩=>?_;exact⟨h4.1.trans (t4.1.trans g5.1),b5.trans (t4.2.2.2.trans bl4),λ_=>x5.trans (t4.2.2.1.trans ex4),λy e=>by cases e⟩
    ·refine(hE _ (t4.1.ws I)).bind λy q1 ⟨g5,b5,f5⟩=>?_;refine(kQ (g5.1.ws (t4.1.ws I)) [93]).bind λ_ q2 ⟨g6,x6,b6⟩=>?_;refine⟨h4.1.trans (t4.1.trans (g5.1.trans g6.1)),b6.trans (b5.trans (t4.2.2.2.trans bl4)),λe=>(by cases e),λz e roots j=>?_⟩;injection e with e
     subst e;rw[x6];exact f5 roots (by rw[t4.2.2.1,ex4];exact j)
   ·subst e2;have g2':=g2.back;have g02:=n1.trans g2';cases o with
    |some y=>
     simp only;refine more (e:=⟨11,[],[x,y],[],(cur s).a⟩) g02 b2 hj λroots j=>?_;exact(f2' y rfl _ j).perm (List.Perm.swap _ _ _)
    |none=>
     simp only;have J:=g02.ws h;refine(kQ J [46]).bind λ_ s3 ⟨g3,x3,b3⟩=>?_;refine(mG (g3.1.ws J) 1 (by decide)).bind λu s4 ⟨g4,x4,b4,_⟩=>?_;exact more (e:=⟨30,u.t,[x],[],(cur s).a⟩) (g02.trans (g3.1.trans g4.1)) (b4.trans (b3.trans b2)) hj λroots j=>by rw[x4,x3];show cX (exL q.ex) _;rw[f2 rfl];exact j
  ·exact⟨n1,x1.2,λroots j=>by rw[x1.1];exact j⟩
theorem Rm(hE:EOk N E):EOk N (Ey E):=by
 intro s h;unfold Ey;refine(Lx hE s h).bind λx s1 ⟨g1,b1,f1⟩=>?_;exact(GO hE _ s1 x (g1.1.ws h)).mono λy s2 ⟨g2,b2,f2⟩=>⟨⟨g1.1.trans g2,by have:=g1.2;have:=g2.le;omega⟩,b2.trans b1,λroots j=>f2 roots (f1 roots j)⟩
theorem Ek(hE:EOk N E)(hS:EOk N S):EOk N (AC E S):=by
 intro s h;have n1:=gI h;have j:=n1.ws h;have o:=kH h;have x1:=iK s;have iQ:∀w,isS (bE s) w=isS s w:=λw=>by unfold isS;rw[lC]
 have J:InN N (cur s).a:=⟨o.1,o.2.1⟩;have one:∀(w:Str) (k:Int),isS s w=true->Sat ((within (bE s) (cur s).a (bE s).quiet λq=>S (step1 q)).bind λx s2=>rO s2 ⟨k,[],[x],[],(cur s).a⟩) (Leaves N s) (InN N):=λw k hi=>by
  refine Sat.bind (lU j (a:=(cur s).a) (q:=(bE s).quiet) J (P:=λx s'=>Later N {bE s with deep:=(bE s).deep+1,quiet:=(bE s).quiet} s'/\s'.bl=s.bl/\∀roots,cX (exL s.ex) roots->cX (exL s'.ex) (x::roots)) λhw=>?_) λx s2 ⟨q,⟨g2,b2,f2⟩,e2⟩=>?_
  ·have hh:=oZ h hi ((bE s).deep+1) (bE s).quiet;have U:=jU hw hh.2.1;rw[hh.1]at U;refine(hS _ (U.1.ws hw)).mono λx q1 ⟨g1,b1,f1⟩=>⟨U.tr g1,b1.trans x1.2,λroots I=>f1 roots (by show cX (exL (bE s).ex) _;rw[x1.1];exact I)⟩
  ·subst e2;have g2':=g2.1.back;exact qN h ⟨n1.trans g2',by have:=n1.le;have:=g2.2;show s.i<q.i;simp only at this;omega⟩ b2 (e:=⟨k,[],[x],[],(cur s).a⟩) ⟨o.1,o.2.2.1 (mU hi)⟩ f2
 unfold AC;simp only;split
 ·rename_i hi;rw[iQ]at hi;exact one [33] 14 hi
 split
 ·rename_i hi;rw[iQ]at hi;exact one [45] 13 hi
 ·exact(Rm hE (bE s) j).mono λx s2 ⟨g2,b2,f2⟩=>⟨⟨n1.trans g2.1,by have:=n1.le;have:=g2.2;omega⟩,b2.trans x1.2,λroots I=>f2 roots (by rw[x1.1];exact I)⟩
theorem Hg{J:PS->R Nat}(U:EOk N J)(k:Nat):∀(f:Nat) (s:PS) (x:Nat),WS N s->Sat (BG J k f s x) (TH N s x) (InN N)
 |0,s,_,h=>⟨oV _,h.pN⟩
 |f+1,s,x,h=>by
  have n1:=gI h
  have x1:=iK s
  have I:=kH h
  simp only[BG]
  split
  ·exact⟨n1,x1.2,λroots o=>by rw[x1.1];exact o⟩
  ·rename_i hl
   have j:(cur s).k≠0:=λe=>hl (by unfold xI;rw[e];rfl)
   have h2:=jU h j
   refine(U _ (h2.1.ws h)).bind λb s1 ⟨g1,b1,f1⟩=>?_
   have g01:=h2.1.trans g1.1
   refine(Bt (g01.ws h) (e:=⟨xI (cur s) k,[],[x,b],[],(cur s).a⟩) ⟨I.1,I.2.2.1 j⟩).bind λy s2 ⟨g2,_,b2,f2⟩=>?_
   refine(Hg U k f s2 y (g2.ws (g01.ws h))).mono λz s3 ⟨g3,b3,f3⟩=>⟨g01.trans (g2.trans g3),b3.trans (b2.trans (b1.trans x1.2)),λroots o=>f3 roots (f2 roots ?_)⟩
   exact(f1 _ (by show cX (exL (bE s).ex) _;rw[x1.1];exact o)).perm (List.Perm.swap _ _ _)
theorem wJ(hE:EOk N E)(j:EOk N S):∀m,EOk N (uY E S m)
 |0=>Ek hE j
 |m+1=>λs h=>by
  simp only[uY]
  refine(wJ hE j m s h).bind λa s1 ⟨g1,b1,f1⟩=>?_
  exact(Hg (wJ hE j m) (5-m) _ s1 a (g1.1.ws h)).mono λy s2 ⟨g2,b2,f2⟩=>⟨⟨g1.1.trans g2,by have:=g1.2;have:=g2.le;omega⟩,b2.trans b1,λroots o=>f2 roots (f1 roots o)⟩
theorem KP(hE:EOk N E)(hS:EOk N S):EOk N (Dn E S):=by
 intro s h;unfold Dn;refine(wJ hE hS 6 s h).bind λa s1 ⟨g1,b1,f1⟩=>?_;have j:=g1.1.ws h;have I:=kH j;have t1:=jT j [63];have U:=t1.1.ws j;simp only;split
 ·rename_i ht;have hi:(cur s1).k≠0:=by
   have:isS s1 [63]=true:=by
    unfold bX at ht;split at ht
    ·assumption
    ·cases ht
   exact mU this
  refine Sat.bind (lU U (a:=(cur s1).a) (q:=(bX s1 [63]).2.quiet) ⟨I.1,I.2.1⟩ (P:=λ(z:Nat×Nat) s'=>Go1 N {(bX s1 [63]).2 with deep:=(bX s1 [63]).2.deep+1,quiet:=(bX s1 [63]).2.quiet} s'/\s'.bl=s.bl/\∀roots,cX (exL s.ex) roots->cX (exL s'.ex) ([a,z.1,z.2]++roots)) λhw=>?_) λz s2 ⟨q,⟨g2,b2,f2⟩,e2⟩=>?_
  ·refine(hE _ hw).bind λx q1 ⟨g3,b3,f3⟩=>?_;have o:=g3.1.ws hw;refine(kQ o [58]).bind λ_ q2 ⟨g4,x4,b4⟩=>?_;have J:=g4.1.ws o;refine(hE _ J).bind λy q3 ⟨g5,b5,f5⟩=>?_;refine⟨g3.1.trans (g4.1.trans g5.1),b5.trans (b4.trans (b3.trans (t1.2.2.2.trans b1))),λroots hr=>?_⟩;have k1:=f3 _ (by show cX (exL (bX s1 [63]).2.ex) _;rw[t1.2.2.1];exact f1 roots hr);have k2:=f5 _ (by rw[x4];exact k1);refine k2.perm ?_;show(y::x::a::roots).Perm (a::x::y::roots);exact((List.Perm.swap x y _).trans ((List.Perm.swap a y _).cons x)).trans (List.Perm.swap a x _)
  ·subst e2;have g2':=g2.back;exact qN h ⟨g1.1.trans (t1.1.trans g2'),by have:=g1.2;have:=t1.1.le;have:=g2.le;show s.i<q.i;simp only at this;omega⟩ b2 (e:=⟨28,[],[a,z.1,z.2],[],(cur s1).a⟩) ⟨I.1,I.2.2.1 hi⟩ f2
 ·exact⟨⟨g1.1.trans t1.1,by have:=g1.2;have:=t1.1.le;omega⟩,t1.2.2.2.trans b1,λroots hr=>by rw[t1.2.2.1];exact f1 roots hr⟩
end
theorem An(N:Int):EOk N dead:=λ_ h=>⟨oV _,h.pN⟩
theorem tS(N:Int):∀d,EOk N (tT d).1/\EOk N (tT d).2
 |0=>⟨KP (An N) (An N),Ek (An N) (An N)⟩
 |d+1=>⟨KP (tS N d).1 (tS N d).2,Ek (tS N d).1 (tS N d).2⟩
end
end Go.Syn
