/- One plain sentence: contracts and plain laws that the claim rests on. Conditions: those that each states. -/
import Derived.Test.YtjblfcfdeaagpaaGreatDoorXW3
import Derived.Test.YtjblfcfdeaagpaaGreatDoorXW4
import Derived.Test.YtjblfcfdeaagpaaGreatDoorXW2
import Derived.Test.YtjblfcfdeaagpaaGreatDoorXW1
import Derived.Lib.Join
import Derived.Test.YtjblfcfdeaagpaaGreatDoorXW5
import Derived.Test.YtjblfcfdeaagpaaGreatDoorRows
import Derived.Below
import Derived.RowKit
import Derived.ChangeMaps5
import Derived.MakeChecks
import Derived.Lib.LaidTab
import Derived.Lib.LaidU8
import Derived.SizedLaws
import Derived.Shelf.Vars
import Derived.Deep.Slices
import Derived.DataReads
import Derived.ChangeArms
set_option linter.all false
set_option linter.unusedSimpArgs false
set_option linter.unusedVariables false
set_option linter.unusedSectionVars false
set_option maxRecDepth 100000
variable{w W:Go.World}{K:Go.Value->Go.World->Prop}{cs d D:List Go.Value}{G S:Nat->Prop}{T U:Go.TypeId}{i n m j p q r A:Nat}{v g:Go.Value}{P:Go.Program}{c:UInt8}{s y o B:Str}{u:List Nat}{a z:Int}{F:Go.Value->Prop}{H:Go.World->Prop}{E:Bool}{L:List Str}{α β:Type}{v0 v1 v2 v3 v4 v5:Go.Value}
namespace Go.Proofs.YtjblfcfdeaagpaaGreatDoor
section
open Go Go.Eng Go.Lex Go.Syn
def kN(l:List Nat):Nat:=l.foldr (· +·) 0
def lH(a:Nat)(l:List Nat):kN (a::l)=a+kN l:=rfl
def Db:∀a b:List Nat,kN (a++b)=kN a+kN b
 |[],b=>by rw[dS];show _=0+_;omega
 |x::a,b=>by rw[fS,lH,lH,Db a b];omega
def Qy{a b:List Nat}(h:a.Perm b):kN a=kN b:=by
 induction h with
 |nil=>rfl
 |cons x _ ih=>rw[lH,lH,ih]
 |swap x y l=>simp only[lH];omega
 |trans _ _ i1 i2=>rw[i1,i2]
def Ba{x:Nat}{l:List Nat}(h:x∈l):x<=kN l:=by
 induction l with
 |nil=>cases h
 |cons y l ih=>
  rw[lH];rcases aX.1 h with rfl|h
  .omega
  .have:=ih h;omega
def Ah(l:List α)(F G:α->Nat)(h:∀x∈l,F x<=G x):kN (l.map F)<=kN (l.map G):=by
 induction l with
 |nil=>exact aQ _
 |cons x l ih=>
  rw[cJ,cJ,lH,lH];have c:=h x (by simp);have b:=ih λy a=>h y (aF _ a);omega
def yZ(l:List α)(F G:α->Nat):kN (l.map λx=>F x+G x)=kN (l.map F)+kN (l.map G):=by
 induction l with
 |nil=>rfl
 |cons x l ih=>rw[cJ,cJ,cJ,lH,lH,lH,ih];omega
def uG(l:List α)(c:Nat):kN (l.map λ_=>c)=l.length*c:=by
 induction l with
 |nil=>simp[kN]
 |cons x l ih=>rw[cJ,lH,ih,aA,sT];omega
def SZ(l:List α)(c:Nat)(F:α->Nat):kN (l.map λx=>c*F x)=c*kN (l.map F):=by
 induction l with
 |nil=>rfl
 |cons x l ih=>rw[cJ,cJ,lH,lH,ih,Nat.mul_add]
def If(W:Nat->Nat):∀(L:List (List Nat)),kN (L.map λus=>kN (us.map W))=kN (L.flatten.map W)
 |[]=>rfl
 |us::L=>by rw[cJ,lH,iG,kT,Db,If W L]
def Eu(l:List α)(F:Option α->Nat):kN ((List.range l.length).map λi=>F l[i]?)=kN (l.map λx=>F (some x)):=by
 have:(List.range l.length).map (λi=>F l[i]?)=l.map λx=>F (some x):=by
  apply rM (by simp);intro i b a;simp only[cK]at a;simp[aH a]
 rw[this]
def Fo{L:List (List Nat)}{r:List Nat}(h:eX L r):(L.flatten++r).Perm (List.range L.length):=by
 have d:=BY h;rw[Aa];intro a;by_cases b:a<L.length
 .have f:=List.nodup_iff_count.1 (List.nodup_range (n:=L.length)) a;have e:=List.count_pos_iff.2 (gW.2 b);rw[d.one a b];omega
 .rw[EX (λc=>b (d.lt a c)),EX (λc=>b (gW.1 c))]
def CJ{L:List (List Nat)}{r:List Nat}(h:eX L r)(own W:Nat->Nat)(b:∀i us,L[i]?=some us->W i=own i+kN (us.map W)):kN (r.map W)=kN ((List.range L.length).map own):=by
 have c:=Qy ((Fo h).map W);rw[kT,Db]at c;have d:kN ((List.range L.length).map W)=kN ((List.range L.length).map own)+kN (L.flatten.map W):=by
  have e:(List.range L.length).map W=(List.range L.length).map λi=>own i+(match L[i]? with|some us=>kN (us.map W)|none=>0):=by
   apply gS;intro i a;rw[gW]at a;rw[aH a];exact b i _ (aH a)
  rw[e,yZ,Eu L (λo=>match o with|some us=>kN (us.map W)|none=>0),If]
 omega
def Mj{L:List (List Nat)}{r:List Nat}(h:eX L r)(own W:Nat->Nat)(e:∀i us,L[i]?=some us->W i=own i+kN (us.map W)):∀(k i:Nat),i+k+1=L.length->W i<=kN ((List.range L.length).map own):=by
 intro k;induction k using Nat.strongRecOn with
 |ind k ih=>
  intro i l;have j:=CJ h own W e;have a:i∈L.flatten++r:=(Fo h).mem_iff.2 (gW.2 (by omega));rcases bM.1 a with a|a
  .obtain⟨us,c,b⟩:=yS.1 a;obtain⟨p,d⟩:=List.mem_iff_getElem?.1 c;have g:=h.ahead p us d i b;have f:=(bJ.1 d).1;have o:=ih (L.length-1-p) (by omega) p (by omega);have n:=e p us d;have m:=Ba (fL.2 ⟨i,b,rfl⟩:W i∈us.map W);omega
  .have:=Ba (fL.2 ⟨i,a,rfl⟩:W i∈r.map W);omega
end
section
open Go Go.Eng Go.RowKit
section
variable [HX]
def BP{l:Str}(c:K (.pointer (some ⟨w.heap.size,0,none⟩)) (w.alloc (.stringIter (ofL l) 0))):fV P0 (Instr.range 9 (str l)) w K:=by
 have b:Tryz.prog.underlying 9=some .string:=by kernel_rfl
 have a:(Instr.range 9 (str l)).run P0 w=.ok (.pointer (some ⟨w.heap.size,0,none⟩)) (w.alloc (.stringIter (ofL l) 0)):=by
  simp[Instr.range,run_bind,cL b,run_pure,newObj,Sem.run]
 unfold fV;rw[a];exact c
def Lh{o:Obj}(h:r<w.heap.size):Chg (· =r) w {w with heap:=w.heap.setIfInBounds r o}:=
 ⟨rfl,rfl,rfl,by simp,λk _ a=>by
  show(w.heap.setIfInBounds r o)[k]?=_
  rw[CN (by omega)]⟩
def Dx{l:Str}(c:w.heap[r]?=some (.stringIter (ofL l) i))
  (g:l.length<=i->K (.tuple #[.bool false]) w)
  (f:i<l.length->∀W,W.heap[r]?=some (.stringIter (ofL l) (i+(Utf8.decode (ofL l) i).2))->Chg (· =r) w W->W.heap.size=w.heap.size->K (.tuple #[.bool true,i64 i,.int .i32 (Utf8.decode (ofL l) i).1]) W):
  fV P0 (Instr.next (.pointer (some ⟨r,0,none⟩)) true T) w K:=by
 have e:(getObj r).run P0 w=.ok (.stringIter (ofL l) i) w:=by simp[getObj,Sem.run,c]
 have b:r<w.heap.size:=(fY.1 c).1;unfold fV;simp only[Instr.next,run_bind,e,kD];by_cases d:i<l.length
 .have a:(setObj r (.stringIter (ofL l) (i+(Utf8.decode (ofL l) i).2))).run P0 w=.ok () {w with heap:=w.heap.setIfInBounds r (.stringIter (ofL l) (i+(Utf8.decode (ofL l) i).2))}:=by simp[setObj,Sem.run,c]
  rw[aO d];simp only[run_bind,a,run_pure];exact f d _ (by simp[b]) (Lh b) (by simp)
 .rw[aE d];simp only[run_pure];exact g (by omega)
end
end
section
open Go Go.Eng Go.RowKit Go.Syn Go.Lex
variable [HX]
def NT{u:Str}(h:∀c∈u,c≠92/\c≠34/\c≠36/\c≠10/\c≠9/\c≠13):plainM u=u:=by
 induction u with
 |nil=>rfl
 |cons c u ih=>
  have a:=h c (by simp);rw[nP,ih λd b=>h d (aF _ b)];unfold pP;rw[aE (by rintro(e|e|e);exact a.1 e;exact a.2.1 e;exact a.2.2.1 e),aE a.2.2.2.1,aE a.2.2.2.2.1,aE a.2.2.2.2.2];rfl
def QX(a b:Str):plainM (a++b)=plainM a++plainM b:=tW
def It(s:Str):(plainM s).length<=2*s.length:=by
 induction s with
 |nil=>exact aQ _
 |cons c s ih=>
  rw[nP,aB,aA];have:(pP c).length<=2:=by
   have:=wG c;generalize pP c=p at this;cases this<;>simp
  omega
theorem Dc(hs:Utf s)(hl:s.length<=1000000000)(hK:∀W,Ext w W->K (str (plainM s)) W):aL P0 83 [str s] w K:=by
 refine aEq ?_;unfold W83;refine VA (B:=w.heap.size) (aQ _) λb a xu P Q=>?_;have xh:=Q.size;have xv:=P.lt;refine BP ?_;have hz:Chg (BCh a w.heap.size b) a (a.alloc (.stringIter (ofL s) 0)):=Chg.of_ext (Chg.alloc (Chg.refl _ _) _);refine⟨λs' j=>∃p,p<=s.length/\Utf (s.drop p)/\j.heap[a.heap.size]?=some (.stringIter (ofL s) p)/\Bld j w.heap.size b (plainM (s.take p))/\Chg (BCh a w.heap.size b) a j,
  λ_ j=>match j.heap[a.heap.size]? with|some (.stringIter _ p)=>s.length-p|_=>0,
  ⟨0,cZ _,by rw[dZ];exact hs,kV _ _ _ rfl,by rw[rU];exact P.ext (Chg.alloc (Chg.refl _ _) _),hz⟩,?_⟩
 rintro s' g j ⟨p,hp,hu,I,N,J⟩;have xg:=J.size;have xq:=It (s.take p);have xm:(s.take p).length=p:=by rw[cG];omega
 refine Dx I (λxo=>?_) (λS F A Y xf=>?_)
 .rw[bX];refine⟨.bool false,rfl,?_⟩;rw[cI];obtain rfl:p=s.length:=by omega
  rw[dP]at N;refine zU N (by omega) λE q=>?_;refine hK E ((BCh.new Q (aQ _) P.base J).then q λk hk e=>by omega)
 .have ht:s.drop p≠[]:=λe=>by have:=EV.1 e;omega
  obtain⟨u,r,G,ho,o⟩:∃u r,Rn u/\Utf r/\s.drop p=u++r:=by
   cases O:s.drop p with
   |nil=>exact absurd O ht
   |cons x y=>
    rw[O]at hu;generalize he:x::y=z at hu;cases hu with
    |nil=>cases he
    |cons P h2=>exact⟨_,_,P,h2,rfl⟩
  have hr:lD s p=u.length:=G.at o;have xl:=G.pos;obtain⟨c,L⟩:=wK S (by omega);rw[hr]at L;have R:(s.drop p).take u.length=u:=by rw[o,uA]
  have H:s.take (p+u.length)=s.take p++u:=by rw[List.take_add,R]
  have U:s.drop (p+u.length)=r:=Ht o;have C:=L.dec;have xt:=L.top;have xs:=L.val;have l:wrM c=u:=by rw[<-Sy (by omega),L.bytes,R]
  rw[C]at A;have h5:Bld F w.heap.size b (plainM (s.take p)):=N.chg Y (λe=>by have:=e;omega) λk hk e=>by
   obtain⟨_,c',ha⟩:=hk;have e:k=a.heap.size:=e;rw[e,I]at ha;cases ha
  have X:Chg (BCh a w.heap.size b) a F:=J.then Y λk hk e=>by omega
  have T:=L.fits;have fin:∀E,Bld E w.heap.size b (plainM (s.take p)++plainM u)->Chg (BCh F w.heap.size b) F E->(λ(s':List Value) j=>∃p,p<=s.length/\Utf (s.drop p)/\j.heap[a.heap.size]?=some (.stringIter (ofL s) p)/\Bld j w.heap.size b (plainM (s.take p))/\Chg (BCh a w.heap.size b) a j) [] E/\
    (match E.heap[a.heap.size]? with|some (.stringIter _ p)=>s.length-p|_=>0)<(match j.heap[a.heap.size]? with|some (.stringIter _ p)=>s.length-p|_=>0):=by
   intro E h6 q;have t:=BCh.iter q A (by omega);refine⟨⟨p+u.length,T,by rw[U];exact ho,t,?_,BCh.trans X q⟩,?_⟩
   .rw[H,QX];exact h6
   .rw[t,I];show s.length-(p+u.length)<s.length-p;omega
  rw[bX];refine⟨.bool true,rfl,?_⟩;rw[dF,bX];refine⟨.int .i32 (c:Int),by rw[C];rfl,?_⟩;have same:c≠92->c≠34->c≠36->c≠10->c≠9->c≠13->plainM u=u:=λa1 a2 a3 a4 a5 a6=>by
   refine NT λd O=>?_;have key:∀k:UInt8,k.toNat<128->c≠k.toNat->d≠k:=λk hk hy e=>by
    subst e;rcases G.cases with⟨x,hx,xi⟩|hh
    .subst hx;rw[bO]at O;subst O;have hv:c=d.toNat:=by
      have:=(L.low rfl).1;rw[this];have e:=rG S;rw[Go.Eng.byte_at (show s.drop p=d::r from o)]at e;omega
     exact hy hv
    .have:=hh d O;omega
   exact⟨key 92 (by decide) a1,key 34 (by decide) a2,key 36 (by decide) a3,key 10 (by decide) a4,key 9 (by decide) a5,key 13 (by decide) a6⟩
  refine dE.cut (λst W=>∃(c':Nat) (pre:Str),st=[.int .i32 (c':Int)]/\(c'<55296\/57343<c'/\c'<=1114111)/\pre.length<=1/\pre++wrM c'=plainM u/\Bld W w.heap.size b (plainM (s.take p)++pre)/\Chg (BCh F w.heap.size b) F W) ?_ ?_
  .refine dE.cut (λst W=>st=[.bool (decide (c=92\/c=34\/c=36))]/\W=F) ?_ ?_
   .rw[bW,aY];refine⟨λh=>?_,λh=>?_⟩
    .rw[bS h,bS (.inl (by omega))];exact⟨rfl,rfl⟩
    rw[bW,aY];refine⟨λh=>?_,λh=>?_⟩
    .rw[bS h,bS (.inr (.inl (by omega)))];exact⟨rfl,rfl⟩
    rw[bW];rw[show decide ((c:Int)=36)=decide (c=92\/c=34\/c=36)by rw[decide_eq_decide];omega];exact⟨rfl,rfl⟩
   rintro st g7 w8 ⟨rfl,rfl⟩;simp only[aG];have wr:∀{c':Nat},c'<128->∀i,Bld i w.heap.size b (plainM (s.take p)++[UInt8.ofNat 92])->Chg (BCh w8 w.heap.size b) w8 i->[92]++wrM c'=plainM u->∃(m:Nat) (pre:Str),[Value.int .i32 (c':Int)]=[.int .i32 (m:Int)]/\(m<55296\/57343<m/\m<=1114111)/\pre.length<=1/\pre++wrM m=plainM u/\Bld i w.heap.size b (plainM (s.take p)++pre)/\Chg (BCh w8 w.heap.size b) w8 i:=
    λ{c'} P i h2 h3 N=>⟨c',[92],rfl,.inl (by omega),aQ _,N,h2,h3⟩
   rw[aY];refine⟨λh=>?_,λh=>?_⟩
   .refine uP (n:=92) h5 (by omega) (by omega) (by omega) λi M f=>?_;refine wr (by omega) i M f ?_;rw[<-l];rcases h with rfl|rfl|rfl<;>rfl
   rw[bW,aY];refine⟨λh2=>?_,λh2=>?_⟩
   .refine uP (n:=92) h5 (by omega) (by omega) (by omega) λi M f=>?_;refine wr (c':=110) (by omega) i M f ?_;rw[<-l,show c=10 by omega];rfl
   rw[bW,aY];refine⟨λh3=>?_,λh3=>?_⟩
   .refine uP (n:=92) h5 (by omega) (by omega) (by omega) λi M f=>?_;refine wr (c':=116) (by omega) i M f ?_;rw[<-l,show c=9 by omega];rfl
   rw[bW,aY];refine⟨λN=>?_,λN=>?_⟩
   .refine uP (n:=92) h5 (by omega) (by omega) (by omega) λi M f=>?_;refine wr (c':=114) (by omega) i M f ?_;rw[<-l,show c=13 by omega];rfl
   refine⟨c,[],rfl,by omega,cZ _,?_,by rw[dL];exact h5,Chg.refl _ _⟩;rw[dS,l];exact(same (by omega) (by omega) (by omega) (by omega) (by omega) (by omega)).symm
  rintro st g6 xe ⟨c',pre,rfl,V,xd,hw,xb,D⟩;simp only[aG];have xc:=D.size;refine OQ xb (by omega) (by rw[aB];omega) V λv hn hg Z=>?_;rw[cD,hw]at hg;exact fin hn hg (BCh.trans D Z)
end
section
open Go Go.Eng Go.RowKit Go.Syn Go.Lex
structure JV(w0 w:World)(B a9 a12 n m:Nat)(M:Lay)(fl:Fl)(vE vB vT:Value)(i j:Nat)(t:List Nat):Prop where
 F:FO w B M fl
 h9:w.heap[a9]?=some (.cells [M.vE,M.vB,M.vT].toArray FlT (0,0))
 h12:w.heap[a12]?=some (.cells [vE,vB,vT].toArray FlT (0,0))
 oE:Own w (a12+1) ExT 5 vE i ((M.cE.drop (n*5)).take (i*5))
 oB:Own w (a12+1) BkT 5 vB j ((M.cB.drop (m*5)).take (j*5))
 oT:Own w (a12+1) mA 1 vT t.length (ints t)
 ch:Ext w0 w
 lo:w0.heap.size<=B/\B<=a9/\a9<a12
 lt:∀k∈ub ([M.vE,M.vB,M.vT]++(M.cE++M.cB)),k<a9
 dEB:∀k,vE.ownBlock=some k->vB.ownBlock≠some k
 dET:∀k,vE.ownBlock=some k->vT.ownBlock≠some k
 dBT:∀k,vB.ownBlock=some k->vT.ownBlock≠some k
section
variable{w0 w w' w1 w2:World}{B a9 a12 n m g:Nat}{M:Lay}{fl fl':Fl}{vE vB vT v':Value}{i j:Nat}{t:List Nat}
end
def LO{t:Str}{y:Fl}(h:lS t=.ok y):(∀e∈y.ex,∀a∈e.args,a<y.ex.length)/\(∀b∈y.bl,(∀u∈b.attrs,u.e<y.ex.length)/\∀c∈b.blocks,c<y.bl.length)/\∀k∈y.top,k<y.bl.length:=by
 have j:=uW t;rw[h]at j;obtain⟨_,d,f,_⟩:=j;have g:=BY d;have i:=BY f;rw[cK]at g i;refine⟨λe o a q=>g.lt a (cH _ (yS.2 ⟨_,fL.2 ⟨e,o,rfl⟩,q⟩)),λb l=>⟨λu m=>g.lt _ (bR _ ?_),λc p=>i.lt c (cH _ (yS.2 ⟨_,fL.2 ⟨b,l,rfl⟩,p⟩))⟩,λk n=>i.lt k (bR _ n)⟩;exact yU.2 ⟨b,l,fL.2 ⟨u,m,rfl⟩⟩
end
section
open Go Go.Eng Go.RowKit Go.Syn Go.Lex
variable [HX]
def Qx(f:Fl)(e:Ex)(l:List Str)(k:Nat):Str:=if e.keys.getD k []=[116]then plainM (f.ex.getD (e.args.getD k 0) ⟨0,[],[],[],0⟩).t else [36,123]++l.getD k []++[125]
def KU(f:Fl)(e:Ex)(l:List Str)(k:Nat):Af f e l (k+1)=Af f e l k++Qx f e l k:=by
 unfold Af;rw[List.range_succ,kT,Ab];simp[Qx]
def Np(f:Fl)(e:Ex)(l:List Str):∀(n k:Nat),k<=n->(Af f e l k).length<=(Af f e l n).length
 |0,k,h=>by obtain rfl:k=0:=by omega
            exact aQ _
 |n+1,k,h=>by
  by_cases a:k=n+1
  .rw[a];exact aQ _
  .have:=Np f e l n k (by omega)
   rw[KU,aB];omega
def aCk{k:Int}(d:15<=k)(c:k<=27)(b:K (str (sQ.getD (k-15).toNat [])) w):aL P0 86 [i64 k] w K:=by
 refine aEo ?_;unfold W86;simp only[Gm,List.replicate_zero,eP,dW,aA,aD,aP,aU,Nat.reduceAdd,Nat.reduceLT,dQ,aZ];rw[gR,fZ (by omega) (by omega)];obtain⟨n,a⟩:∃n:Nat,k-15=(n:Nat):=⟨(k-15).toNat,by omega⟩;rw[a];rw[a,bD]at b;show UK 13 false 1 (.agg (strs sQ).toArray) (i64 (n:Nat)) λt6=>K t6 w;refine aFC (len:=13) (l:=strs sQ) (k:=n) (x:=str (sQ.getD n [])) ?_ ?_ ?_
 .omega
 .exact wV (by show n<13;omega)
 .exact b
theorem Nt{f:Fl}{e:Ex}{M:Lay}{va vk vl:Value}{l:List Str}(F:FV w M f)(ha:SlAt w mA va e.args.length (ints e.args))(R:SlAt w StT vk e.keys.length (strs e.keys))(Q:SlAt w StT vl l.length (strs l))
  (h1:l.length=e.args.length)(h2:e.keys.length=e.args.length)(he:∀a∈e.args,a<f.ex.length)(X:∀x∈f.ex,Utf x.t/\x.t.length<=1000000000)(hw:l.length<=1000000)(hL:(Af f e l l.length).length<=10000000000000)
  (hK:∀W,Ext w W->K (str ([34]++Af f e l l.length++[34])) W):aL P0 85 [.agg [M.vE,M.vB,M.vT].toArray,.agg [i64 e.k,str e.t,va,vk,i64 e.a].toArray,vl] w K:=by
 refine aEp ?_;unfold W85;have u:IntKind.i64.max=9223372036854775807:=by decide
 refine gF (z:=[M.vE,M.vB,M.vT]) λp w1 r xj E V=>?_;refine gF (z:=[i64 e.k,str e.t,va,vk,i64 e.a]) λp2 w2 xk xi O G=>?_;have E:=G.at E id;have d:=V.trans G;have F:=F.ext d;have ha:=ha.ext d;have R:=R.ext d;have Q:=Q.ext d;refine VA (B:=w2.heap.size) (aQ _) λb P N S C=>?_;have xh:=C.size;have xo:=S.lt;refine uP (n:=34) S (by omega) (by simp) (by omega) λw4 h4 hi=>?_;rw[gQ Q];refine eK.go (λst W=>∃k:Nat,st=[i64 (k:Nat)]/\k<=l.length/\Bld W w2.heap.size b ([34]++Af f e l k)/\Chg (BCh P w2.heap.size b) P W) (λst _=>match st with|[.int _ k]=>l.length-k.toNat|_=>0) ⟨0,rfl,by omega,h4,hi⟩ ?_;rintro st g y ⟨k,rfl,hb,h6,m⟩;have i:Ext w2 y:=BCh.new C (aQ _) S.base m;have xg:=i.size;simp only[aG];rw[eC,aY];have xl:=Np f e l l.length k hb;refine⟨λH=>?_,λxm=>?_⟩
 .have H:k<l.length:=by omega
  have j:=KU f e l k;have h:=Np f e l l.length (k+1) (by omega);rw[j,aB]at h;refine dE.cut (λst W=>st=[]/\Bld W w2.heap.size b ([34]++Af f e l (k+1))/\Chg (BCh P w2.heap.size b) P W) ?_ ?_
  .refine mC (Q.ext i) (by simp[strs]) (wV H) ?_;refine uX (off:=3) (i.at O id) rfl ?_;refine mC (R.ext i) (by simp[strs]) (wV (show k<e.keys.length by omega)) ?_;rw[fE,aY];refine⟨λZ=>?_,λZ=>?_⟩
   .have r:Qx f e l k=plainM (f.ex.getD (e.args.getD k 0) ⟨0,[],[],[],0⟩).t:=by unfold Qx;rw[aO Z]
    have hx6d:=i.trans (cQ y);refine uX (off:=0) (hx6d.at E id) rfl ?_;refine uX (off:=2) (hx6d.at O id) rfl ?_;have I:k<e.args.length:=by omega
    have ge:=aH I;have hd:e.args.getD k 0=e.args[k]:=by rw[aM,ge];rfl
    rw[hd]at r;have q:=he e.args[k] (gE I);generalize e.args[k]=a at ge r q;refine mC (ha.ext hx6d) (by simp[ints]) (Gf ge) ?_;have T:=aH q;have hg:f.ex.getD a ⟨0,[],[],[],0⟩=f.ex[a]:=by rw[aM,T];rfl
    rw[hg]at r;have Y:=X f.ex[a] (gE q);generalize f.ex[a]=x at T r Y;obtain⟨xd,xb,_,_,pp,q1,q2⟩:=(F.ext hx6d).exI (k:=.i64) T;have ld:∀{K':Value->Prop},K' (str x.t)->fX none 5 M.vE (i64 (a:Nat)) λt=>bF 1 t λt=>ldW false 1 t y.drew K':=λ{K'} hc=>by
     obtain⟨xc,xa,ec,_,_⟩:=(F.ext hx6d).ee.2 a x T;refine ED (F.ext hx6d).oE (F.ext hx6d).ee.1 (by omega) q λbb o c fr N hh=>?_;rw[bH,fB];have h0:=hh 1 (by omega);have h1:=congrArg (λl=>l[1]?) ec;simp only[gB (show 1<5 by omega),iF,bG,bI]at h1;exact⟨_,by rw[bN,cS,N,bT,h0];exact h1,hc⟩
    refine ld ?_;refine Dc Y.1 Y.2 λw8 A=>?_;have h8:=(h6.ext (cQ y)).ext A;have xf:=A.size;have xe:y.drew.heap.size=y.heap.size:=rfl;rw[r]at j h;refine AU h8 (by omega) (by simp only[aB,aA,aD];omega) λv w9 h9 D=>?_;refine⟨rfl,?_,BCh.trans (BCh.ext (BCh.ext m (cQ y)) A) D⟩;rw[j,<-cD];exact h9
   .have r:Qx f e l k=[36,123]++l.getD k []++[125]:=by unfold Qx;rw[aE Z]
    rw[r]at j h;simp only[aB,aA,aD]at h;rw[bY];refine⟨by rw[u];simp only[aB,aA,aD];omega,?_⟩;rw[bY];refine⟨by rw[u];simp only[aB,aA,aD];omega,?_⟩;refine AU h6 (by omega) (by simp only[aB,aA,aD];omega) λv w9 h9 D=>?_;refine⟨rfl,?_,BCh.trans m D⟩;rw[j,<-cD];exact h9
  .rintro st g7 hz ⟨rfl,hq,L⟩;rw[cP,upi (by omega)];refine⟨⟨k+1,rfl,by omega,hq,L⟩,?_⟩;simp only[bD];omega
 .obtain rfl:k=l.length:=by omega
  refine uP (n:=34) h6 (by omega) (by simp only[aB,aA,aD];omega) (by omega) λhy ho s=>?_;have hv:=s.size;refine zU ho (by omega) λU J=>?_;exact hK U (d.trans ((BCh.new C (aQ _) S.base (BCh.trans m s)).then J λk R e=>by omega))
end
section
open Go Go.Eng Go.RowKit Go.Syn Go.Lex
set_option maxHeartbeats 1000000
structure XOk(e:Ex):Prop where
 lo:1<=e.k
 hi:e.k<=30
 ut:Utf e.t/\e.t.length<=1000000000
 uk:∀s∈e.keys,Utf s/\s.length<=1000000000
 few:e.args.length<=100000
 a6:e.k=6->e.keys.length=e.args.length
 a8:e.k=8->e.keys.length=e.args.length
 a1:e.k=10\/e.k=30->1<=e.args.length
 a2:e.k=11\/e.k=29\/15<=e.k/\e.k<=27->2<=e.args.length
 a3:e.k=28->3<=e.args.length
structure FOk(f:Fl):Prop where
 ahead:∀(i:Nat) (e:Ex),f.ex[i]?=some e->∀a∈e.args,a<i
 xs:∀e∈f.ex,XOk e
 few:f.ex.length<=100000
 len:∀i,(eO f i).length<=1000000000000
 keyl:∀e∈f.ex,e.k=8->∀s∈e.keys,s.length<=10000000
 join:∀e∈f.ex,(joinL (lQ e (eO f)) [44,32]).length<=100000000000000
variable [HX]
def Wu{l:List Str}(h:SlAt w T v l.length (l.map str))(A:l.length<=1000000)(r:(joinL l s).length<=140737488355328)(q:∀W,Ext w W->K (str (joinL l s)) W):
  aL P0 84 [v,str s] w K:=by
 obtain⟨p,cap,rfl,u,z,a⟩:=h;have n:(l.map ofL).map (λx=>x.data.toList)=l:=by rw[iP];exact(gS (λx _=>by simp[ofL])).trans (List.map_id l)
 by_cases f:l=[]
 .subst f;refine lO (args:=#[.slice p 0 cap,str s]) Tryz.call84 ((Tryz.strings_Join_none p cap (ofL s) w).mono ?_);rintro e W ⟨rfl,rfl⟩;exact⟨_,rfl,q _ (Chg.refl _ _)⟩
 .obtain⟨b,off,c,fr,rfl,o,g⟩:=a (by simpa using f);have d:(l.map ofL).length=l.length:=cK _;refine lO (args:=#[.slice (some ⟨b,off,none⟩) l.length cap,str s]) Tryz.call84 ?_;have:=Tryz.strings_Join b off cap (l.map ofL) (ofL s) w (λj x m=>?_) (pC o) (by rw[d];omega) (by rw[d];exact u) (by rw[n,iX];exact r)
  .rw[d,n,iX]at this;refine this.mono ?_;rintro e W ⟨rfl,i⟩;exact⟨_,rfl,q _ (Chg.of_below i)⟩
  .rw[dV,nW]at m;obtain⟨y,k,rfl⟩:=m;have t:=(bJ.1 k).1;rw[cS,o,bT,g j (by simpa using t),dV,k];rfl
theorem Wv{f:Fl}{M:Lay}(Z:FOk f):∀(i:Nat) (w:World) (K:Q0),i<=1000000->FV w M f->(∀W,Ext w W->K (str (eO f i)) W)->aL P0 42 [.agg [M.vE,M.vB,M.vT].toArray,i64 (i:Nat)] w K:=by
 intro i;induction i using Nat.strongRecOn with
 |ind i ih=>
 intro w K hi hf m;refine aEN ?_;unfold W42;have c:IntKind.i64.max=9223372036854775807:=by decide
 refine gF (z:=[M.vE,M.vB,M.vT]) λp w1 hp yy G hc=>?_;have S:=hf.ext hc;rw[eC,cX (by omega)];refine GdW.look (decide (f.ex.length<=i)) (λ_ J hJ=>?_) λg=>?_
 .refine uX (off:=0) G rfl ?_;rw[gQ S.oE,gN];have:decide ((f.ex.length:Int)<=(i:Int))=decide (f.ex.length<=i):=by rw[decide_eq_decide];omega
  rw[this];exact hJ
 rw[jV,dG,aV,aG,iN,aY];refine⟨λxu=>?_,λxc=>?_⟩
 .have:eO f i=[]:=by
   unfold eO;rw[Fq,dY xu]
  rw[this]at m;exact m _ hc
 have xc:i<f.ex.length:=by omega
 have ge:=aH xc;generalize f.ex[i]=e at ge;have hm:=bA ge;have I:=Z.xs e hm;have xj:=Z.ahead i e ge;have d:=Z.len i;have heq:=DX Z.ahead ge;rw[heq]at m d;obtain⟨va,vk,oA,oK,pp,q1,q2⟩:=S.exI (k:=.i64) ge;refine uX (off:=0) G rfl ?_;refine Oj q1 ?_;refine PM q2 ?_;have hj:[i64 e.k,str e.t,va,vk,i64 e.a].all kJ=true:=by
  obtain⟨p1,c1,e1,_⟩:=oA.shape;obtain⟨p2,c2,e2,_⟩:=oK.shape;rw[e1,e2];rfl
 refine cO λa5 w4 zd yx xg ho=>?_;refine dH (l:=[i64 e.k,str e.t,va,vk,i64 e.a]) xg rfl rfl hj λw5 yw A xe=>?_;have C:Ext w1 w5:=ho.new xe (by omega);have G:=C.at G id;have hf:=S.ext C;have oA:=oA.ext C;have oK:=oK.ext C;have xp:=hc.trans C;clear S C xe xg ho q1 q2;refine uX (off:=2) A rfl ?_;rw[gQ oA];have xh:(lQ e (eO f)).length=e.args.length:=by unfold lQ;rw[cK,nZ]
 have xk:∀k,k<e.args.length->(lQ e (eO f))[k]?=some (CL e (eO f) k):=λk X=>by
  unfold lQ;rw[dV,List.getElem?_range X];rfl
 have Y:∀k,k<e.args.length->(CL e (eO f) k).length<=2000000000000:=λk X=>by
  unfold CL;have j:=Z.len (e.args.getD k 0);rw[aB];split
  .rename_i h8;have h2:=I.a8 h8;have h3:=Z.keyl e hm h8 (e.keys.getD k []) (by rw[aM,aH (show k<e.keys.length by omega)];exact gE _);have h4:=It (e.keys.getD k []);simp only[aB,aA,aD];omega
  .simp only[aD];omega
 have xw:=I.few;refine eK.go (λst W=>∃(k:Nat) (v:Value),st=[v,i64 (k:Nat)]/\k<=e.args.length/\Own W w5.heap.size StT 1 v k (strs ((lQ e (eO f)).take k))/\Ext w5 W) (λst _=>match st with|[_,.int _ k]=>e.args.length-k.toNat|_=>0) ⟨0,.slice none 0 0,rfl,by omega,⟨by simp[strs],.inl ⟨rfl,rfl⟩⟩,Chg.refl _ _⟩ ?_;rintro st g w7 ⟨k,v,rfl,X,R,E⟩;simp only[aG,bQ];rw[eC,aY];refine⟨λF=>?_,λyi=>?_⟩
 .have F:k<e.args.length:=by omega
  have gk:=aH F;have xv:e.args.getD k 0=e.args[k]:=by rw[aM,gk];rfl
  have xi:=xj e.args[k] (gE F);have U:=xk k F;have B:=Y k F;unfold CL at U B;rw[xv]at U B;generalize e.args[k]=q at gk xi U B;refine mC (oA.ext E) (by simp[ints]) (Gf gk) ?_;refine EA (E.at G id) rfl ?_;refine ih q xi w7 _ (by omega) (hf.ext E) λw8 hn=>?_;have O:=E.trans hn;refine dE.cut (λst W=>st=[str ((if e.k=8 then [34]++plainM (e.keys.getD k [])++[34,32,61,32]else [])++eO f q)]/\Ext w8 W) ?_ ?_
  .refine uX (off:=0) (O.at A id) rfl ?_;rw[bW,aY];refine⟨λh8=>?_,λh8=>?_⟩
   .rw[aO h8]at B⊢;have xd:k<e.keys.length:=by have:=I.a8 h8;omega
    refine uX (off:=3) (O.at A id) rfl ?_;refine mC (oK.ext O) (by simp[strs]) (wV xd) ?_;have hu:=I.uk (e.keys.getD k []) (by rw[aM,aH xd];exact gE _);refine Dc hu.1 hu.2 λys hz=>?_;simp only[aB,aA,aD]at B;rw[bY];refine⟨by rw[c,aA,aD];omega,?_⟩;rw[bY];refine⟨by rw[c];simp only[aB,aA,aD];omega,?_⟩;rw[bY];refine⟨by rw[c];simp only[aB,aA,aD];omega,?_⟩;exact⟨rfl,hz⟩
   .rw[aE h8];exact⟨rfl,Chg.refl _ _⟩
  .rintro st g9 yr ⟨rfl,hy⟩;simp only[aG];refine yJ λr yq hr yg xq hw=>?_;have H:=(hn.trans hy).trans hw;have xo:=H.size;have yf:=E.size;refine iV DY (R.ext H) (uH (n:=1) (T:=StT) xq) rfl (λu hu=>by simp only[bO]at hu;subst hu;rfl) (by omega) (by omega) (by omega) λv' yp xl xf yh=>?_;rw[cP,upi (by omega)];refine⟨⟨k+1,v',rfl,by omega,?_,(E.trans H).then xf λb hb hv=>by have:=(lK R hv).2;omega⟩,?_⟩
   .have e1:strs ((lQ e (eO f)).take (k+1))=strs ((lQ e (eO f)).take k)++[str ((if e.k=8 then [34]++plainM (e.keys.getD k [])++[34,32,61,32]else [])++eO f q)]:=by
     rw[jA,U];simp[strs]
    rw[e1];exact xl
   .simp only[bD];omega
 obtain rfl:k=e.args.length:=by omega
 rw[<-xh,dP]at R;have Q:=R.sl;have hd:∀k,k<e.args.length->(strs (lQ e (eO f)))[k]?=some (str ((lQ e (eO f)).getD k [])):=λk X=>wV (by omega);have xt:(joinL (lQ e (eO f)) [44,32]).length<=140737488355328:=dN (Z.join e hm) (by decide);clear Y xk;generalize lQ e (eO f)=l at*
 refine Wu (l:=l) (T:=StT) Q (by omega) xt λL P=>?_;have o:=E.trans P;have s:=xp.trans o;have N:=s.trans (cQ L);have hb5d:=(o.trans (cQ L)).at A id;have G:=o.at G id;have A:=o.at A id;have Q:=Q.ext P;have xb:=Q.ext (cQ L);have V:∀{k:Nat} {K':Value->Prop},k<e.args.length->K' (str (l.getD k []))->fX none 1 v (i64 (k:Nat)) λt=>ldW false 1 t L.drew K':=λ{k} {K'} X h=>mC xb (by simp[strs]) (hd k X) h;have gp:∀{k:Nat},k<e.args.length->∃q,fX none 1 v (i64 (k:Nat)) (λx=>x=q)/\ldW false 1 q L.drew λx=>x=str (l.getD k []):=λ{k} X=>IM (mC (K:=λx=>x=str (l.getD k [])) xb (by simp[strs]) (hd k X) rfl);clear hd ih R E P;refine uX (off:=0) A rfl ?_;rw[bW,aY];refine⟨λj=>?_,λn1=>?_⟩
 .rw[show lL f e l=[110,117,108,108]by unfold lL;rw[j];rfl]at m;exact m _ s
 rw[bW,aY];refine⟨λj=>?_,λn2=>?_⟩
 .rw[show lL f e l=[116,114,117,101]by unfold lL;rw[j];rfl]at m;exact m _ s
 rw[bW,aY];refine⟨λj=>?_,λn3=>?_⟩
 .rw[show lL f e l=[102,97,108,115,101]by unfold lL;rw[j];rfl]at m;exact m _ s
 refine dE.cut (λst W=>st=[.bool (decide (e.k=4\/e.k=9))]/\W=L) ?_ ?_
 .rw[bW,aY];refine⟨λh=>?_,λh=>?_⟩
  .rw[bS h,bS (.inl h)];exact⟨rfl,rfl⟩
  .rw[bW,show decide (e.k=9)=decide (e.k=4\/e.k=9)by rw[decide_eq_decide];omega];exact⟨rfl,rfl⟩
 rintro st g15 yo ⟨rfl,rfl⟩;simp only[aG];rw[aY];refine⟨λj=>?_,λn4=>?_⟩
 .rw[show lL f e l=e.t by unfold lL;rw[aE n1,aE n2,aE n3,aO j]]at m;refine uX (off:=1) A rfl ?_;exact m _ s
 rw[bW,aY];refine⟨λj=>?_,λn5=>?_⟩
 .have y:lL f e l=[34]++plainM e.t++[34]:=by unfold lL;rw[j];rfl
  rw[y]at m d;refine uX (off:=1) A rfl ?_;refine Dc I.ut.1 I.ut.2 λyn ht=>?_;rw[bY];refine⟨by rw[c];simp only[aB,aA,aD]at d⊢;omega,?_⟩;rw[bY];refine⟨by rw[c];simp only[aB,aA,aD]at d⊢;omega,?_⟩;exact m _ (s.trans ht)
 rw[bW,aY];refine⟨λj=>?_,λn6=>?_⟩
 .have y:lL f e l=[34]++Af f e l l.length++[34]:=by unfold lL;rw[j];rfl
  rw[y]at m d;simp only[aB,aA,aD]at d;refine EA G rfl ?_;refine EA A rfl ?_;refine Nt (hf.ext o) (oA.ext o) (oK.ext o) Q xh (I.a6 j) (λa ha=>by have:=xj a ha;omega) (λx hx=>(Z.xs x hx).ut) (by omega) (by omega) λym hq=>?_;exact m _ (s.trans hq)
 rw[bW,aY];refine⟨λj=>?_,λn7=>?_⟩
 .have y:lL f e l=[91]++joinL l [44,32]++[93]:=by unfold lL;rw[j];rfl
  rw[y]at m d;rw[bY];refine⟨by rw[c];simp only[aB,aA,aD]at d⊢;omega,?_⟩;rw[bY];refine⟨by rw[c];simp only[aB,aA,aD]at d⊢;omega,?_⟩;exact m _ s
 rw[bW,aY];refine⟨λj=>?_,λn8=>?_⟩
 .have y:lL f e l=[123]++joinL l [44,32]++[125]:=by unfold lL;rw[j];rfl
  rw[y]at m d;rw[bY];refine⟨by rw[c];simp only[aB,aA,aD]at d⊢;omega,?_⟩;rw[bY];refine⟨by rw[c];simp only[aB,aA,aD]at d⊢;omega,?_⟩;exact m _ s
 rw[bW,aY];refine⟨λj=>?_,λn10=>?_⟩
 .have y:lL f e l=[40]++l.getD 0 []++[41,46]++e.t:=by unfold lL;rw[j];rfl
  rw[y]at m d;have ha:=I.a1 (.inl j);refine V (k:=0) (by omega) ?_;rw[bY];refine⟨by rw[c];simp only[aB,aA,aD]at d⊢;omega,?_⟩;rw[bY];refine⟨by rw[c];simp only[aB,aA,aD]at d⊢;omega,?_⟩;refine uX (off:=1) hb5d rfl ?_;rw[bY];refine⟨by rw[c];simp only[aB,aA,aD]at d⊢;omega,?_⟩;exact m _ N
 rw[bW,aY];refine⟨λj=>?_,λn30=>?_⟩
 .have y:lL f e l=[40]++l.getD 0 []++[41,91,42,93,46]++e.t:=by unfold lL;rw[j];rfl
  rw[y]at m d;have ha:=I.a1 (.inr j);refine V (k:=0) (by omega) ?_;rw[bY];refine⟨by rw[c];simp only[aB,aA,aD]at d⊢;omega,?_⟩;rw[bY];refine⟨by rw[c];simp only[aB,aA,aD]at d⊢;omega,?_⟩;refine uX (off:=1) hb5d rfl ?_;rw[bY];refine⟨by rw[c];simp only[aB,aA,aD]at d⊢;omega,?_⟩;exact m _ N
 rw[bW,aY];refine⟨λj=>?_,λn11=>?_⟩
 .have y:lL f e l=[40]++l.getD 0 []++[41,91]++l.getD 1 []++[93]:=by unfold lL;rw[j];rfl
  rw[y]at m d;have ha:=I.a2 (.inl j);refine V (k:=0) (by omega) ?_;rw[bY];refine⟨by rw[c];simp only[aB,aA,aD]at d⊢;omega,?_⟩;rw[bY];refine⟨by rw[c];simp only[aB,aA,aD]at d⊢;omega,?_⟩;refine V (k:=1) (by omega) ?_;rw[bY];refine⟨by rw[c];simp only[aB,aA,aD]at d⊢;omega,?_⟩;rw[bY];refine⟨by rw[c];simp only[aB,aA,aD]at d⊢;omega,?_⟩;exact m _ N
 rw[bW,aY];refine⟨λj=>?_,λn12=>?_⟩
 .have y:lL f e l=e.t++[40]++joinL l [44,32]++[41]:=by unfold lL;rw[j];rfl
  rw[y]at m d;refine uX (off:=1) A rfl ?_;rw[bY];refine⟨by rw[c];simp only[aB,aA,aD]at d⊢;omega,?_⟩;rw[bY];refine⟨by rw[c];simp only[aB,aA,aD]at d⊢;omega,?_⟩;rw[bY];refine⟨by rw[c];simp only[aB,aA,aD]at d⊢;omega,?_⟩;exact m _ s
 rw[bW,aY];refine⟨λj=>?_,λn13=>?_⟩
 .have y:lL f e l=[40,45]++joinL l [44,32]++[41]:=by unfold lL;rw[j];rfl
  rw[y]at m d;rw[bY];refine⟨by rw[c];simp only[aB,aA,aD]at d⊢;omega,?_⟩;rw[bY];refine⟨by rw[c];simp only[aB,aA,aD]at d⊢;omega,?_⟩;exact m _ s
 rw[bW,aY];refine⟨λj=>?_,λn14=>?_⟩
 .have y:lL f e l=[40,33]++joinL l [44,32]++[41]:=by unfold lL;rw[j];rfl
  rw[y]at m d;rw[bY];refine⟨by rw[c];simp only[aB,aA,aD]at d⊢;omega,?_⟩;rw[bY];refine⟨by rw[c];simp only[aB,aA,aD]at d⊢;omega,?_⟩;exact m _ s
 rw[bW,aY];refine⟨λj=>?_,λn28=>?_⟩
 .have y:lL f e l=[40]++l.getD 0 []++[32,63,32]++l.getD 1 []++[32,58,32]++l.getD 2 []++[41]:=by unfold lL;rw[j];rfl
  rw[y]at m d;have ha:=I.a3 j;refine V (k:=0) (by omega) ?_;rw[bY];refine⟨by rw[c];simp only[aB,aA,aD]at d⊢;omega,?_⟩;rw[bY];refine⟨by rw[c];simp only[aB,aA,aD]at d⊢;omega,?_⟩;refine V (k:=1) (by omega) ?_;rw[bY];refine⟨by rw[c];simp only[aB,aA,aD]at d⊢;omega,?_⟩;rw[bY];refine⟨by rw[c];simp only[aB,aA,aD]at d⊢;omega,?_⟩;refine V (k:=2) (by omega) ?_;rw[bY];refine⟨by rw[c];simp only[aB,aA,aD]at d⊢;omega,?_⟩;rw[bY];refine⟨by rw[c];simp only[aB,aA,aD]at d⊢;omega,?_⟩;exact m _ N
 rw[bW,aY];refine⟨λj=>?_,λn29=>?_⟩
 .have y:lL f e l=[91,102,111,114,32]++e.t++[32,105,110,32]++l.getD 0 []++[32,58,32]++l.getD 1 []++[93]:=by unfold lL;rw[j];rfl
  rw[y]at m d;have ha:=I.a2 (.inr (.inl j));refine uX (off:=1) hb5d rfl ?_;rw[bY];refine⟨by rw[c];simp only[aB,aA,aD]at d⊢;omega,?_⟩;rw[bY];refine⟨by rw[c];simp only[aB,aA,aD]at d⊢;omega,?_⟩;refine V (k:=0) (by omega) ?_;rw[bY];refine⟨by rw[c];simp only[aB,aA,aD]at d⊢;omega,?_⟩;rw[bY];refine⟨by rw[c];simp only[aB,aA,aD]at d⊢;omega,?_⟩;refine V (k:=1) (by omega) ?_;rw[bY];refine⟨by rw[c];simp only[aB,aA,aD]at d⊢;omega,?_⟩;rw[bY];refine⟨by rw[c];simp only[aB,aA,aD]at d⊢;omega,?_⟩;exact m _ N
 have zb:=I.lo;have zc:=I.hi;have D:15<=e.k/\e.k<=27:=by omega
 have ha:=I.a2 (.inr (.inr D));have y:lL f e l=[40]++l.getD 0 []++[32]++sQ.getD (e.k-15).toNat []++[32]++l.getD 1 []++[41]:=by
  unfold lL;rw[aE n1,aE n2,aE n3,aE n4,aE n5,aE n6,aE n7,aE n8,aE n10,aE n30,aE n11,aE n12,aE n13,aE n14,aE n28,aE n29]
 rw[y]at m d;obtain⟨p0,i0,l0⟩:=gp (k:=0) (by omega);obtain⟨p1,i1,l1⟩:=gp (k:=1) (by omega);refine Oj i0 ?_;refine PM l0 ?_;rw[bY];refine⟨by rw[c];simp only[aB,aA,aD]at d⊢;omega,?_⟩;rw[bY];refine⟨by rw[c];simp only[aB,aA,aD]at d⊢;omega,?_⟩;refine uX (off:=0) hb5d rfl ?_;refine Oj i1 ?_;refine PM l1 ?_;refine aCk D.1 D.2 ?_;refine⟨l1,l0,?_⟩;rw[bY];refine⟨by rw[c];simp only[aB,aA,aD]at d⊢;omega,?_⟩;rw[bY];refine⟨by rw[c];simp only[aB,aA,aD]at d⊢;omega,?_⟩;rw[bY];refine⟨by rw[c];simp only[aB,aA,aD]at d⊢;omega,?_⟩;rw[bY];refine⟨by rw[c];simp only[aB,aA,aD]at d⊢;omega,?_⟩;exact m _ N
end
section
open Go Go.Eng Go.RowKit Go.Syn Go.Lex
set_option maxHeartbeats 1000000
structure BOk(f:Fl):Prop where
 ahead:∀(i:Nat) (b:Blk),f.bl[i]?=some b->∀a∈b.blocks,a<i
 few:f.bl.length<=100000/\f.top.length<=100000/\∀b∈f.bl,b.labels.length<=1000000/\b.attrs.length<=1000000/\b.blocks.length<=1000000
 ut:∀b∈f.bl,∀s∈b.labels,Utf s/\s.length<=1000000000
 at_:∀b∈f.bl,∀a∈b.attrs,a.e<=1000000
def Rk{l:List Str}{k:Nat}(h:l[k]?=some s):vW (l.take (k+1))=vW (l.take k)++([32,34]++plainM s++[34]):=by
 unfold vW;rw[jA,h,kT,Ab];simp
def EF(F:α->Str){l:List α}{k:Nat}{s:α}(h:l[k]?=some s):((l.take (k+1)).map F).flatten=((l.take k).map F).flatten++F s:=by
 rw[jA,h,kT,Ab];simp
def rR(F:α->Str)(l:List α)(k:Nat):((l.take k).map F).flatten.length<=(l.map F).flatten.length:=by
 have:l.map F=(l.take k).map F++(l.drop k).map F:=by rw[<-kT,rX]
 rw[this,Ab,aB];omega
def DG(l:List Str)(k:Nat):(vW (l.take k)).length<=(vW l).length:=rR _ l k
def UP(n:Nat):(inM n).length=2*n:=by
 unfold inM;induction n with
 |zero=>rfl
 |succ n ih=>rw[Gm,iG,aB,ih];simp;omega
def aBF(l:Str):∀n,Lib.repeatL l n=(List.replicate n l).flatten
 |0=>rfl
 |n+1=>by rw[Lib.repeatL,aBF l n,Gm,iG]
variable [HX]
def QD(a:s.length<=1000)(b:n<=1000000)(d:∀W,Ext w W->K (str (List.replicate n s).flatten) W):aL P0 87 [str s,i64 (n:Nat)] w K:=by
 refine lO (args:=#[str s,i64 (n:Nat)]) Tryz.call87 ((Tryz.strings_Repeat (ofL s) n w (by omega) (by rw[kD];exact dN (Nat.mul_le_mul a b) (by decide))).mono ?_);rintro e W ⟨rfl,c⟩;rw[iX,aBF];exact⟨_,rfl,d _ (Chg.of_below c)⟩
theorem Wx{f:Fl}{M:Lay}(hO:FOk f)(hB:BOk f){w0:World}(hf:FV w0 M f):∀(i:Nat) (w:World) (K:Q0) (B b:Nat) (l:Str) (n:Nat),i<f.bl.length->n+i<=1000000->Bld w B b l->Ext w0 w->w0.heap.size<=B->B<=w.heap.size->l.length+(lY f i n).length<=120000000000000->
  (∀W,Bld W B b (l++lY f i n)->Chg (BCh w B b) w W->K (.tuple #[]) W)->aL P0 43 [.pointer (some ⟨b,0,none⟩),.agg [M.vE,M.vB,M.vT].toArray,i64 (i:Nat),i64 (n:Nat)] w K:=by
 intro i;induction i using Nat.strongRecOn with
 |ind i ih=>
 intro w K B b l n hi hn ha h0 he zh hL hK;refine aEM ?_;unfold W43;have h:IntKind.i64.max=9223372036854775807:=by decide
 have hz:=ha.base;refine gF (z:=[M.vE,M.vB,M.vT]) λp w1 hp zb hd F=>?_;have ze:=ha.lt;have R:=ha.ext F;have Z:=hf.ext (h0.trans F);have ge:=aH hi;generalize f.bl[i]=x at ge;have hm:=bA ge;have xx:=hB.ahead i x ge;have heq:=xM hB.ahead ge n;rw[heq]at hK hL;obtain⟨yn,ym,yl⟩:=hB.few.2.2 x hm;have xo:=hB.ut x hm;have xw:=hB.at_ x hm;have zd:=UP n;obtain⟨vl,va,vb,xi,oL,oA,oB⟩:=hf.bb.2 i x ge;refine uX (off:=1) hd rfl ?_;refine Ge (d:=[str x.typ,vl,va,vb,i64 x.a]) Z.oB Z.bb.1 (by omega) hi xi ?_;have hl:[str x.typ,vl,va,vb,i64 x.a].all kJ=true:=by
  obtain⟨p0,c0,e0,_⟩:=oL.shape;obtain⟨p1,c1,e1,_⟩:=oA.shape;obtain⟨p2,c2,e2,_⟩:=oB.shape;rw[e0,e1,e2];rfl
 refine cO λa8 w2 zf za xb hq=>?_;refine dH (l:=[str x.typ,vl,va,vb,i64 x.a]) xb rfl rfl hl λw3 yz xa hr=>?_;have A:Ext w1 w3:=hq.new hr (by omega);have O:=A.size;refine QD (by simp) (by omega) λC X=>?_;rw[show(List.replicate n ([32,32]:Str)).flatten=inM n from rfl];have m:=A.trans X;have Q:=(h0.trans F).trans m;have hy:=R.ext m;have xc:=m.at hd id;have S:=X.at xa id;have yy:=m.size;have xq:p≠b:=by omega
 have h8b:a8≠b:=by omega
 have ho:Ext w C:=F.trans m;simp only[aB,aA,aD]at hL;have xy:∀W,Bld W B b (l++(inM n++x.typ++vW x.labels++[32,123,10]++(x.attrs.map (xN f n)).flatten++(x.blocks.map λk=>lY f k (n+1)).flatten++inM n++[125,10]))->Chg (BCh C B b) C W->K (.tuple #[]) W:=λW h1 h2=>hK W h1 (BCh.from ho h2);clear hK hd xb xa hr hq A R Z F m X O;have st:∀{W},Chg (BCh C B b) C W->W.heap[p]?=some (.cells [M.vE,M.vB,M.vT].toArray FlT (0,0))/\W.heap[a8]?=some (.cells [str x.typ,vl,va,vb,i64 x.a].toArray BkT (0,0))/\Ext w0 W/\C.heap.size<=W.heap.size:=λ{W} hc=>
  ⟨BCh.keep hc xc xq (by decide),BCh.keep hc S h8b (by decide),BCh.new Q he hz hc,hc.size⟩
 have E:∀{v:Value} {T:TypeId} {c:Nat} {cs:List Value} {W},SlAt w0 T v c cs->Chg (BCh C B b) C W->SlAt W T v c cs:=λhs hc=>hs.ext (BCh.new Q he hz hc);refine uX (off:=0) S rfl ?_;rw[bY];refine⟨by rw[h];omega,?_⟩;refine AU hy (by omega) (by rw[aB];omega) λv5 w5 h5 L=>?_;obtain⟨s5p,s5a,s5x,s5z⟩:=st L;refine uX (off:=1) s5a rfl ?_;rw[gQ (E oL L)];refine eK.go (λst W=>∃k:Nat,st=[i64 (k:Nat)]/\k<=x.labels.length/\Bld W B b (l++(inM n++x.typ)++vW (x.labels.take k))/\Chg (BCh C B b) C W) (λst _=>match st with|[.int _ k]=>x.labels.length-k.toNat|_=>0) ⟨0,rfl,by omega,by rw[rU];simpa[vW]using h5,L⟩ ?_;clear h5 L s5p s5a s5x s5z;rintro hj g w7 ⟨k,rfl,hk,h7,G⟩;obtain⟨s7p,s7a,s7x,s7z⟩:=st G;simp only[aG];rw[eC,aY];have I:=DG x.labels k;refine⟨λj=>?_,λJ=>?_⟩
 .have j:k<x.labels.length:=by omega
  have H:=aH j;have xs:x.labels.getD k []=x.labels[k]:=by rw[aM,H];rfl
  have hu:=xo x.labels[k] (gE j);have Y:=wV j;rw[xs]at Y;have o:=Rk H;have y:=DG x.labels (k+1);generalize x.labels[k]=s at H hu Y o;rw[o]at y;simp only[aB,aA,aD]at y;refine mC (E oL G) (by simp[strs]) Y ?_;refine Dc hu.1 hu.2 λw8 V=>?_;rw[bY];refine⟨by rw[h];simp only[aB,aA,aD];omega,?_⟩;rw[bY];refine⟨by rw[h];simp only[aB,aA,aD];omega,?_⟩;have yx:=V.size;refine AU (h7.ext V) (by omega) (by simp only[aB,aA,aD];omega) λv9 w9 h9 xv=>?_;rw[cP,upi (by omega)];refine⟨⟨k+1,rfl,by omega,by rw[o,<-cD];exact h9,BCh.trans (BCh.ext G V) xv⟩,?_⟩;simp only[bD];omega
 obtain rfl:k=x.labels.length:=by omega
 rw[dP]at h7;refine AU h7 (by omega) (by simp only[aB,aA,aD];omega) λyw yt xh t=>?_;have t:=BCh.trans G t;clear h7 G s7p s7a s7x s7z I J;obtain⟨s5p,s5a,s5x,s5z⟩:=st t;refine uX (off:=2) s5a rfl ?_;rw[gQ (E oA t)];refine eK.go (λst W=>∃k:Nat,st=[i64 (k:Nat)]/\k<=x.attrs.length/\Bld W B b (l++(inM n++x.typ)++vW x.labels++[32,123,10]++((x.attrs.take k).map (xN f n)).flatten)/\Chg (BCh C B b) C W) (λst _=>match st with|[.int _ k]=>x.attrs.length-k.toNat|_=>0) ⟨0,rfl,by omega,by rw[rU];simpa using xh,t⟩ ?_;clear xh t s5p s5a s5x s5z;rintro hj g xm ⟨k,rfl,hk,N,r⟩;obtain⟨s7p,s7a,s7x,s7z⟩:=st r;simp only[aG];rw[eC,aY];have I:=rR (xN f n) x.attrs k;refine⟨λj=>?_,λJ=>?_⟩
 .have j:k<x.attrs.length:=by omega
  have H:=aH j;have xf:=xw x.attrs[k] (gE j);have o:=EF (xN f n) H;have y:=rR (xN f n) x.attrs (k+1);generalize x.attrs[k]=a at H xf o;rw[o]at y;have xu:xN f n a=inM n++[32,32]++a.n++[32,61,32]++eO f a.e++[10]:=rfl;rw[xu]at y;simp only[aB,aA,aD]at y;refine Ge (d:=[str a.n,i64 (a.e:Nat),i64 a.a]) (E oA r) (zW _) (by omega) j (ZZ H) ?_;refine cO λzo ys yh O xd A=>?_;refine dH (l:=[str a.n,i64 (a.e:Nat),i64 a.a]) xd rfl rfl rfl λU ye hb hx=>?_;have m:Ext xm U:=A.new hx (by omega);have hx14d:=m.trans (cQ U);have hb14d:=(cQ U).at hb id;rw[bY];refine⟨by rw[h];simp only[aB,aA,aD];omega,?_⟩;rw[bH];refine PM (ld5 (off:=0) hb14d rfl) ?_;rw[bY];refine⟨by rw[h];simp only[aB,aA,aD];omega,?_⟩;rw[bY];refine⟨by rw[h];simp only[aB,aA,aD];omega,?_⟩;refine EA (hx14d.at s7p id) rfl ?_;refine uX (off:=1) hb14d rfl ?_;refine Wv hO a.e _ _ xf (hf.ext (s7x.trans hx14d)) λyr P=>?_;refine⟨ld5 (off:=0) (P.at hb14d id) rfl,?_⟩;rw[bY];refine⟨by rw[h];simp only[aB,aA,aD];omega,?_⟩;rw[bY];refine⟨by rw[h];simp only[aB,aA,aD];omega,?_⟩;have u:=hx14d.trans P;have yd:=u.size;refine AU (N.ext u) (by omega) (by simp only[aB,aA,aD];omega) λyv yq yc hw=>?_;rw[cP,upi (by omega)];refine⟨⟨k+1,rfl,by omega,by rw[o,<-cD];exact yc,BCh.trans (BCh.ext r u) hw⟩,?_⟩;simp only[bD];omega
 obtain rfl:k=x.attrs.length:=by omega
 rw[dP]at N;refine uX (off:=3) s7a rfl ?_;rw[gQ (E oB r)];refine eK.go (λst W=>∃k:Nat,st=[i64 (k:Nat)]/\k<=x.blocks.length/\Bld W B b (l++(inM n++x.typ)++vW x.labels++[32,123,10]++(x.attrs.map (xN f n)).flatten++((x.blocks.take k).map λk=>lY f k (n+1)).flatten)/\Chg (BCh C B b) C W) (λst _=>match st with|[.int _ k]=>x.blocks.length-k.toNat|_=>0) ⟨0,rfl,by omega,by rw[rU];simpa using N,r⟩ ?_;clear N r s7p s7a s7x s7z I J;rintro hj g xl ⟨k,rfl,hk,hg,D⟩;obtain⟨s7p,s7a,s7x,s7z⟩:=st D;simp only[aG];rw[eC,aY];have I:=rR (λk=>lY f k (n+1)) x.blocks k;refine⟨λj=>?_,λJ=>?_⟩
 .have j:k<x.blocks.length:=by omega
  have H:=aH j;have xe:=xx x.blocks[k] (gE j);have o:=EF (λk=>lY f k (n+1)) H;have y:=rR (λk=>lY f k (n+1)) x.blocks (k+1);generalize x.blocks[k]=q at H xe o;rw[o]at y;simp only[aB]at y;refine mC (E oB D) (by simp[ints]) (Gf H) ?_;refine EA s7p rfl ?_;rw[cP,upi (by omega)];refine ih q xe xl _ B b _ (n+1) (by omega) (by omega) hg s7x he (by omega) (by simp only[aB,aA,aD];omega) λyp yb hv=>?_;rw[cP,upi (by omega)];refine⟨⟨k+1,rfl,by omega,by rw[o,<-cD];exact yb,BCh.trans D hv⟩,?_⟩;simp only[bD];omega
 obtain rfl:k=x.blocks.length:=by omega
 rw[dP]at hg;rw[bY];refine⟨by rw[h];simp only[aB,aA,aD];omega,?_⟩;refine AU hg (by omega) (by simp only[aB,aA,aD];omega) λv20 xk ya ht=>?_;refine xy xk ?_ (BCh.trans D ht);simpa only[cD]using ya
theorem Ww{f:Fl}{M:Lay}(P:FOk f)(D:BOk f)(L:FV w M f)(t:∀i∈f.top,i<f.bl.length)(Q:(nB f).length<=120000000000000)(R:∀W,Ext w W->K (str (nB f)) W):aL P0 16 [.agg [M.vE,M.vB,M.vT].toArray] w K:=by
 refine aE2 ?_;unfold W16;refine gF (z:=[M.vE,M.vB,M.vT]) λp l U H r m=>?_;refine VA (B:=l.heap.size) (aQ _) λb w2 N y c=>?_;have G:=c.size;have O:=y.lt;have j:=L.ext m;have few:=D.few;refine uX (off:=2) (c.at r id) rfl ?_;rw[gQ (j.ext c).oT];refine eK.go (λst W=>∃k:Nat,st=[i64 (k:Nat)]/\k<=f.top.length/\Bld W l.heap.size b ((f.top.take k).map λi=>lY f i 0).flatten/\Chg (BCh w2 l.heap.size b) w2 W) (λst _=>match st with|[.int _ k]=>f.top.length-k.toNat|_=>0) ⟨0,rfl,by omega,y,Chg.refl _ _⟩ ?_;rintro st g C ⟨k,rfl,I,x,o⟩;have a:Ext l C:=BCh.new c (aQ _) y.base o;have F:=a.size;simp only[aG];rw[eC,aY];refine⟨λh=>?_,λJ=>?_⟩
 .have h:k<f.top.length:=by omega
  have A:=aH h;have s:=t f.top[k] (gE h);have d:=EF (λi=>lY f i 0) A;have n:=rR (λi=>lY f i 0) f.top (k+1);generalize f.top[k]=q at A s d;rw[d]at n;unfold nB at Q;simp only[aB]at n;refine mC (j.ext a).oT (by simp[ints]) (Gf A) ?_;refine EA (a.at r id) rfl ?_;refine Wx P D j q C _ l.heap.size b _ 0 s (by omega) x a (aQ _) (by omega) (by omega) λT S v=>?_;rw[cP,upi (by omega)];refine⟨⟨k+1,rfl,by omega,by rw[d];exact S,BCh.trans o v⟩,?_⟩;simp only[bD];omega
 .obtain rfl:k=f.top.length:=by omega
  rw[dP]at x;refine zU x (by omega) λE u=>?_;exact R E (m.trans (a.then u λk I e=>by omega))
end
section
open Go Go.Eng Go.Lex Go.Syn
def ow:Nat->List Str
 |0=>[[97]]
 |1=>[[49]]
 |2=>[[102],[32],[40],[32],[98],[32],[44],[32],[50],[32],[41]]
 |3=>[[91],[32],[99],[32],[44],[32],[93]]
 |4=>[[45],[32],[100],[32],[46],[32],[101]]
 |5=>[[40],[32],[103],[32],[41]]
 |_=>[[122]]
def sgL:List Str:=[[124,124],[38,38],[61,61],[33,61],[60],[62],[60,61],[62,61],[43],[45],[42],[47],[37]]
def sg(s:Nat):Str:=sgL.getD s [41]
section
variable{L:List Tok}{i d:Nat}{q:Bool}{ex:List Ex}{bl:List Blk}{t n:Tok}{r:List Tok}
def take_no{s:PS}{w:Str}(h:isS s w=false):cN s w=(false,bK s):=by unfold cN;rw[h,aE (by decide)]
end
def Ao(s:Str):(plainM s).length<=2*s.length:=by
 induction s with
 |nil=>exact aQ _
 |cons c s ih=>
  rw[nP,aB,aA];have:(pP c).length<=2:=by
   have:=wG c;generalize pP c=p at this;cases this<;>simp
  omega
def zI(l:List Str):Nat:=kN (l.map List.length)
def wL:∀l:List Str,l.flatten.length=zI l
 |[]=>rfl
 |x::l=>by
  unfold zI
  rw[iG,aB,cJ,lH,wL l];rfl
def EB(sep:Str):∀l:List Str,(joinL l sep).length<=zI l+l.length*sep.length
 |[]=>by simp[joinL]
 |[x]=>by simp[joinL,List.intercalate,zI,kN]
 |x::y::r=>by
  have b:=EB sep (y::r)
  have e:joinL (x::y::r) sep=x++sep++joinL (y::r) sep:=by simp[joinL,List.intercalate]
  have a:zI (x::y::r)=x.length+zI (y::r):=rfl
  rw[e,aB,aB,a,show(x::y::r).length=(y::r).length+1 from rfl,sT]
  omega
def Ns:∀l:List Str,(l.getD 0 []).length+(l.getD 1 []).length+(l.getD 2 []).length<=zI l
 |[]=>by simp[zI,kN]
 |[a]=>by simp[zI,kN]
 |[a,b]=>by simp[zI,kN]
 |a::b::c::r=>by simp[zI,kN];omega
def wF(f:Fl):Nat->Nat->Nat
 |0,_=>0
 |n+1,i=>match f.ex[i]? with
  |none=>0
  |some e=>(60+2*e.t.length+200100*e.args.length)+kN (e.args.map (wF f n))
def wE(f:Fl)(i:Nat):Nat:=wF f (i+1) i
def Ra(f:Fl)(i:Nat):Nat:=match f.ex[i]? with
 |none=>0
 |some e=>60+2*e.t.length+200100*e.args.length
def AhE(f:Fl):Prop:=∀(i:Nat) (e:Ex),f.ex[i]?=some e->∀a∈e.args,a<i
section
variable{f:Fl}
def aFh(b:AhE f):∀(n i:Nat),i<n->wF f n i=wE f i:=by
 intro n i;induction i using Nat.strongRecOn generalizing n with
 |ind i ih=>
  intro g;obtain⟨n,rfl⟩:∃m,n=m+1:=⟨n-1,by omega⟩;unfold wE;simp only[wF];cases c:f.ex[i]? with
  |none=>rfl
  |some e=>
   simp only;congr 2;apply gS;intro a d;have:=b i e c a d;rw[ih a this n (by omega),ih a this i this]
def OR(b:AhE f){e:Ex}(c:f.ex[i]?=some e):wE f i=(60+2*e.t.length+200100*e.args.length)+kN (e.args.map (wE f)):=by
 show wF f (i+1) i=_;simp only[wF,c];congr 2;apply gS;intro a d;exact aFh b i a (b i e c a d)
def Js(m:AhE f){e:Ex}(j:XE e)(g:∀a∈e.args,(eO f a).length<=wE f a):zI (lQ e (eO f))<=200005*e.args.length+kN (e.args.map (wE f))/\(e.k≠8->zI (lQ e (eO f))<=kN (e.args.map (wE f))):=by
 have key:∀(c:Nat),(∀k,k<e.args.length->(CL e (eO f) k).length<=c+(eO f (e.args.getD k 0)).length)->zI (lQ e (eO f))<=c*e.args.length+kN (e.args.map (wE f)):=λc l=>by
  unfold zI lQ;rw[iP];refine dN (Ah _ _ (λk=>c+wE f (e.args.getD k 0)) λk b=>?_) ?_
  .rw[gW]at b;have n:=l k b;have d:=g (e.args.getD k 0) (by rw[aM,aH b];exact gE _);simp only[Function.comp];omega
  .rw[yZ,uG,nZ];have:(List.range e.args.length).map (λk=>wE f (e.args.getD k 0))=e.args.map (wE f):=by
    apply rM (by simp);intro i n d;simp only[cK]at d;simp[aH d]
   rw[this,Nat.mul_comm];exact aQ _
 refine⟨key 200005 λk b=>?_,λh=>?_⟩
 .unfold CL;rw[aB];split
  .rename_i h;have d:=j.a6 (.inr h);have p:=(j.uk (e.keys.getD k []) (by rw[aM,aH (show k<e.keys.length by omega)];exact gE _)).2;have o:=Ao (e.keys.getD k []);simp only[aB,aA,aD];omega
  .simp
 .have:=key 0 λk b=>by unfold CL;rw[aE h];simp
  omega
def SS(h:AhE f){e:Ex}{l:List Str}(m:l=lQ e (eO f))(p:e.k≠8)(c:∀a∈e.args,(eO f a).length<=wE f a):(Af f e l l.length).length<=3*e.args.length+kN (e.args.map (wE f)):=by
 have g:l.length=e.args.length:=by rw[m];unfold lQ;rw[cK,nZ]
 unfold Af;rw[wL,g];unfold zI;rw[iP];refine dN (Ah _ _ (λk=>3+wE f (e.args.getD k 0)) λk d=>?_) ?_
 .rw[gW]at d;have o:e.args.getD k 0∈e.args:=by rw[aM,aH d];exact gE _
  have j:=c _ o;simp only[Function.comp];split
  .have n:=Ao (f.ex.getD (e.args.getD k 0) ⟨0,[],[],[],0⟩).t;generalize e.args.getD k 0=a at*
   cases b:f.ex[a]? with
   |none=>
    rw[aM,b];show(plainM []).length<=_;exact cZ _
   |some x=>
    rw[aM,b]at n⊢;simp only[tY]at n⊢;have:=OR h b;omega
  .have b:l.getD k []=eO f (e.args.getD k 0):=by
    rw[m];unfold lQ;rw[aM,dV,List.getElem?_range d];show CL e (eO f) k=_;unfold CL;rw[aE p];rfl
   rw[b];simp only[aB,aA,aD];omega
 .rw[yZ,uG,nZ];have:(List.range e.args.length).map (λk=>wE f (e.args.getD k 0))=e.args.map (wE f):=by
   apply rM (by simp);intro i q j;simp only[cK]at j;simp[aH j]
  rw[this,Nat.mul_comm];exact aQ _
theorem Kz(b:AhE f)(u:∀e∈f.ex,XE e):∀i,(eO f i).length<=wE f i:=by
 intro i;induction i using Nat.strongRecOn with
 |ind i ih=>
  cases d:f.ex[i]? with
  |none=>
   unfold eO;rw[Fq,d];exact cZ _
  |some e=>
   have j:=u e (bA d);have c:∀a∈e.args,(eO f a).length<=wE f a:=λa r=>ih a (b i e d a r);obtain⟨a1,a2⟩:=Js b j c;have q:(lQ e (eO f)).length=e.args.length:=by unfold lQ;rw[cK,nZ]
   rw[DX b d,OR b d];have x:=Ns (lQ e (eO f));have o:=EB [44,32] (lQ e (eO f));have v:=Ao e.t;have m:e.k=6->(Af f e (lQ e (eO f)) (lQ e (eO f)).length).length<=3*e.args.length+kN (e.args.map (wE f)):=λw=>SS b rfl (by omega) c;have n:(sQ.getD (e.k-15).toNat []).length<=2:=by
    have:∀s∈sQ,s.length<=2:=by decide
    rw[aM];cases p:sQ[(e.k-15).toNat]? with
    |none=>exact cZ _
    |some s=>exact this s (bA p)
   simp only[aA,aD]at o;generalize lQ e (eO f)=l at*
   generalize kN (e.args.map (wE f))=S at*
   unfold lL;simp only;by_cases h:e.k=1
   .rw[aO h];simp only[aB,aA,aD];omega
   rw[aE h];by_cases g:e.k=2
   .rw[aO g];simp only[aB,aA,aD];omega
   rw[aE g];by_cases n3:e.k=3
   .rw[aO n3];simp only[aB,aA,aD];omega
   rw[aE n3];by_cases n4:e.k=4\/e.k=9
   .rw[aO n4];omega
   rw[aE n4];by_cases n5:e.k=5
   .rw[aO n5];unfold Syn.quotM;simp only[aB,aA,aD];omega
   rw[aE n5];by_cases n6:e.k=6
   .rw[aO n6];have:=m n6;simp only[aB,aA,aD];omega
   rw[aE n6];by_cases n7:e.k=7
   .rw[aO n7];simp only[aB,aA,aD];omega
   rw[aE n7];by_cases n8:e.k=8
   .rw[aO n8];simp only[aB,aA,aD];omega
   rw[aE n8];by_cases n10:e.k=10
   .rw[aO n10];simp only[aB,aA,aD];omega
   rw[aE n10];by_cases n30:e.k=30
   .rw[aO n30];simp only[aB,aA,aD];omega
   rw[aE n30];by_cases n11:e.k=11
   .rw[aO n11];simp only[aB,aA,aD];omega
   rw[aE n11];by_cases n12:e.k=12
   .rw[aO n12];simp only[aB,aA,aD];omega
   rw[aE n12];by_cases n13:e.k=13
   .rw[aO n13];simp only[aB,aA,aD];omega
   rw[aE n13];by_cases n14:e.k=14
   .rw[aO n14];simp only[aB,aA,aD];omega
   rw[aE n14];by_cases n28:e.k=28
   .rw[aO n28];simp only[aB,aA,aD];omega
   rw[aE n28];by_cases n29:e.k=29
   .rw[aO n29];simp only[aB,aA,aD];omega
   rw[aE n29];simp only[aB,aA,aD];omega
end
def ZD{f:Fl}(h:(exL f.ex)[i]?=some u):∃e,f.ex[i]?=some e/\u=e.args:=by
 unfold exL at h;rw[dV,nW]at h;obtain⟨e,b,a⟩:=h;exact⟨e,b,a.symm⟩
def ZU{f:Fl}(h:(blL f.bl)[i]?=some u):∃e,f.bl[i]?=some e/\u=e.blocks:=by
 unfold blL at h;rw[dV,nW]at h;obtain⟨e,b,a⟩:=h;exact⟨e,b,a.symm⟩
def DV(L:List (List Nat)):kN (L.map List.length)=L.flatten.length:=by
 induction L with
 |nil=>rfl
 |cons x L ih=>rw[cJ,lH,iG,aB,ih]
def YH{f:Fl}(c:∀e∈f.ex,XE e){r:List Nat}(h:eX (exL f.ex) r)(few:f.ex.length<=100000):kN ((List.range f.ex.length).map (Ra f))<=45000000000:=by
 have i:=Eu f.ex (λo=>match o with|none=>0|some e=>60+2*e.t.length+200100*e.args.length);have g:kN ((List.range f.ex.length).map (Ra f))=kN (f.ex.map λe=>60+2*e.t.length+200100*e.args.length):=i;rw[g];refine dN (Ah _ _ (λe=>200060+200100*e.args.length) λe b=>?_) ?_
 .have:=(c e b).ut.2;omega
 .rw[yZ,uG,SZ];have a:kN (f.ex.map λe=>e.args.length)=(exL f.ex).flatten.length:=by
   rw[<-DV];unfold exL;rw[iP];rfl
  have d:=(BY h).len;rw[aB]at d;have k:(exL f.ex).length=f.ex.length:=by unfold exL;rw[cK]
  rw[a];have j:f.ex.length*200060<=20006000000:=dN (dU 200060 few) (by decide);generalize f.ex.length*200060=X at*
  generalize (exL f.ex).flatten.length=Y at*
  clear a;omega
def wBF(f:Fl):Nat->Nat->Nat
 |0,_=>0
 |n+1,i=>match f.bl[i]? with
  |none=>0
  |some b=>(1000115300+kN (b.attrs.map λa=>100100+wE f a.e))+kN (b.blocks.map (wBF f n))
def wB(f:Fl)(i:Nat):Nat:=wBF f (i+1) i
def ownB(f:Fl)(i:Nat):Nat:=match f.bl[i]? with
 |none=>0
 |some b=>1000115300+kN (b.attrs.map λa=>100100+wE f a.e)
def AhB(f:Fl):Prop:=∀(i:Nat) (b:Blk),f.bl[i]?=some b->∀a∈b.blocks,a<i
def aB7{f:Fl}(b:AhB f):∀(n i:Nat),i<n->wBF f n i=wB f i:=by
 intro n i;induction i using Nat.strongRecOn generalizing n with
 |ind i ih=>
  intro g;obtain⟨n,rfl⟩:∃m,n=m+1:=⟨n-1,by omega⟩;unfold wB;simp only[wBF];cases c:f.bl[i]? with
  |none=>rfl
  |some e=>
   simp only;congr 2;apply gS;intro a d;have:=b i e c a d;rw[ih a this n (by omega),ih a this i this]
def aBE{f:Fl}(c:AhB f){b:Blk}(d:f.bl[i]?=some b):wB f i=(1000115300+kN (b.attrs.map λa=>100100+wE f a.e))+kN (b.blocks.map (wB f)):=by
 show wBF f (i+1) i=_;simp only[wBF,d];congr 2;apply gS;intro a g;exact aB7 c i a (c i b d a g)
def MQ{f:Fl}(o:AhE f)(m:∀e∈f.ex,XE e)(c:AhB f)(p:∀b∈f.bl,XB b):∀(d i n:Nat),HB d f.bl i->n+d<=26->(lY f i n).length<=wB f i
 |0,_,_,h,_=>h.elim
 |d+1,i,n,⟨b,j,A⟩,B=>by
  have g:=p b (bA j)
  rw[xM c j n,aBE c j]
  have u:=UP n
  have l:(vW b.labels).length<=5000*200003:=by
   unfold vW;rw[wL];unfold zI;rw[iP];refine dN (Ah _ _ (λ_=>200003) λs r=>?_) ?_
   .have z:=(g.lb s r).2;have y:=Ao s;simp only[Function.comp,aB,aA,aD];omega
   .rw[uG];exact dU _ g.few
  have w:((b.attrs.map (xN f n)).flatten).length<=kN (b.attrs.map λa=>100100+wE f a.e):=by
   rw[wL];unfold zI;rw[iP];refine Ah _ _ _ λa x=>?_;have z:=(g.at_ a x).2.2;have y:=Kz o m a.e;unfold xN;simp only[Function.comp,aB,aA,aD];omega
  have v:((b.blocks.map λk=>lY f k (n+1)).flatten).length<=kN (b.blocks.map (wB f)):=by
   rw[wL];unfold zI;rw[iP];exact Ah _ _ _ λk t=>MQ o m c p d k (n+1) (A k t) (by omega)
  have q:=g.ty.2.2;simp only[aB,aA,aD];omega
def Qz(F:α->List Nat)(W:Nat->Nat)(l:List α):kN (l.map λx=>kN ((F x).map W))=kN ((l.flatMap F).map W):=by
 induction l with
 |nil=>rfl
 |cons x l ih=>rw[cJ,lH,ih,dC,kT,Db]
theorem Oz{t:Str}{f:Fl}(h:lS t=.ok f)(few:f.ex.length<=100000/\f.bl.length<=100000/\f.top.length<=100000):FOk f/\BOk f/\(∀i∈f.top,i<f.bl.length)/\(nB f).length<=120000000000000:=by
 obtain⟨p,E,N⟩:=Bj h;have H:=uW t;rw[h]at H;obtain⟨_,g,m,_⟩:=H;obtain⟨L,A,z⟩:=LO h;have q:AhE f:=λi e c a v=>g.ahead i e.args (by unfold exL;rw[dV,c];rfl) a v;have F:AhB f:=λi b c a v=>m.ahead i b.blocks (by unfold blL;rw[dV,c];rfl) a v;have B:(exL f.ex).length=f.ex.length:=by unfold exL;rw[cK]
 have G:(blL f.bl).length=f.bl.length:=by unfold blL;rw[cK]
 have own:=YH p g few.1;have w:∀i us,(exL f.ex)[i]?=some us->wE f i=Ra f i+kN (us.map (wE f)):=λi us l=>by
  obtain⟨e,j,rfl⟩:=ZD l;rw[OR q j];unfold Ra;rw[j]
 have D:∀i us,(blL f.bl)[i]?=some us->wB f i=ownB f i+kN (us.map (wB f)):=λi us l=>by
  obtain⟨e,j,rfl⟩:=ZU l;rw[aBE F j];unfold ownB;rw[j]
 have each:∀i,i<f.ex.length->wE f i<=45000000000:=λi l=>by
  have:=Mj g (Ra f) (wE f) w (f.ex.length-1-i) i (by omega);rw[B]at this;omega
 have oE:=(BY g).len;have oB:=(BY m).len;rw[aB,B]at oE;rw[aB,G]at oB;have y:∀e∈f.ex,e.args.length<=100000:=λe c=>by
  have j:e.args.length<=(exL f.ex).flatten.length:=by
   rw[<-DV];exact Ba (fL.2 ⟨e.args,fL.2 ⟨e,c,rfl⟩,rfl⟩)
  omega
 refine⟨⟨q,λe c=>?_,few.1,λi=>?_,λe c P s r=>by have:=((p e c).uk s r).2;omega,λe c=>?_⟩,⟨F,⟨few.2.1,few.2.2,λb n=>⟨by have:=(E b n).few;omega,?_,?_⟩⟩,λb n s r=>?_,λb n a v=>by have:=(A b n).1 a v;omega⟩,z,?_⟩
 .have d:=p e c;exact⟨d.kd.1,d.kd.2,⟨d.ut.1,by have:=d.ut.2;omega⟩,λs r=>⟨(d.uk s r).1,by have:=(d.uk s r).2;omega⟩,y e c,λh=>d.a6 (.inl h),λh=>d.a6 (.inr h),d.a1,d.a2,d.a3⟩
 .by_cases l:i<f.ex.length
  .have j:=Kz q p i;have u:=each i l;omega
  .unfold eO;rw[Fq,dY (by omega)];exact cZ _
 .obtain⟨i,l⟩:=List.mem_iff_getElem?.1 c;have j:=(Js q (p e c) λa _=>Kz q p a).1;have u:=EB [44,32] (lQ e (eO f));have K:=OR q l;have J:=each i (bJ.1 l).1;have C:(lQ e (eO f)).length=e.args.length:=by unfold lQ;rw[cK,nZ]
  rw[C]at u;simp only[aA,aD]at u;omega
 .have j:b.attrs.length<=(vY f.bl).length:=by
   have:(b.attrs.map (·.e)).length<=(vY f.bl).length:=by
    unfold vY;rw[List.flatMap_def,<-DV];exact Ba (fL.2 ⟨b.attrs.map (·.e),fL.2 ⟨b,n,rfl⟩,rfl⟩)
   rwa[cK]at this
  omega
 .have j:b.blocks.length<=(blL f.bl).flatten.length:=by
   rw[<-DV];exact Ba (fL.2 ⟨b.blocks,fL.2 ⟨b,n,rfl⟩,rfl⟩)
  omega
 .have:=(E b n).lb s r;exact⟨this.1,by omega⟩
 .have j:(nB f).length<=kN (f.top.map (wB f)):=by
   unfold nB;rw[wL];unfold zI;rw[iP];exact Ah _ _ _ λk M=>MQ q p F E 25 k 0 (N k M) (by omega)
  have u:=CJ m (ownB f) (wB f) D;rw[G]at u;have K:kN ((List.range f.bl.length).map (ownB f))=kN (f.bl.map λb=>1000115300+kN (b.attrs.map λa=>100100+wE f a.e)):=Eu f.bl (λo=>match o with|none=>0|some b=>1000115300+kN (b.attrs.map λa=>100100+wE f a.e));have J:kN (f.bl.map λb=>kN (b.attrs.map λa=>100100+wE f a.e))=100100*(vY f.bl).length+kN ((vY f.bl).map (wE f)):=by
   have O:(f.bl.map λb=>kN (b.attrs.map λa=>100100+wE f a.e))=f.bl.map λb=>kN ((b.attrs.map (·.e)).map λx=>100100+wE f x):=by
    apply gS;intro b _;rw[iP];rfl
   rw[O,Qz (λb:Blk=>b.attrs.map (·.e)) (λx=>100100+wE f x),yZ,uG,Nat.mul_comm]
  have I:=CJ g (Ra f) (wE f) w;rw[B]at I;rw[K,yZ,uG,J,I]at u;have Q:=dU 1000115300 few.2.1;omega
end
section
open Go Go.Eng Go.RowKit Go.Syn Go.Lex Go.Cfg
def Km{a:Nat}{L:ML}{d:Str}{K:Value->Prop}(b:w.heap[a]?=some (.cells (L.cells d).toArray T (0,0)))(c:K (.agg [L.M.vE,L.M.vB,L.M.vT].toArray)):ldW true 3 (.pointer (some ⟨a,0+1,none⟩)) w K:=by
 rw[Au];refine⟨[L.M.vE,L.M.vB,L.M.vT],?_,c⟩;simp only[bZ,bN,cS,b,bT,ML.cells,bP];rfl
def Ug{ps ts:List Str}{mods:List Md}(h:tN (rdF (tT ps ts)) 4 [] []=.ok mods):NmC mods:=by
 obtain⟨new,b,l,g,f⟩:=PK IA 4 _ _ _ (cZ _) h;rw[dS]at b;subst b;have a:∀m∈mods,VR (rdF (tT ps ts)) m:=λm e=>by
  obtain⟨i,n⟩:=nK e;exact GT 4 _ _ _ h i m (cZ _) n
 refine⟨Ut 4 _ _ _ (λm h=>by cases h) h,Zd 4 _ _ _ (λm h=>by cases h) h,λm e=>(a m e).rs,λm e=>?_,g,λm e c o=>?_⟩
 .obtain⟨d,p,_⟩:=(a m e).src;have j:=Po p;unfold Vfs.good at j;simp only[bV,fK,aB]at j;omega
 .have k:0<(Bi mods).count c.mod:=List.count_pos_iff.2 (yU.2 ⟨m,e,fL.2 ⟨c,o,rfl⟩⟩);rw[f.ct]at k;refine kI λq=>?_;rw[aE (by simp only[aD];omega)]at k;omega
section
variable [HX]
theorem cshown_true{ps ts:List Str}{vp vt:Value}(hT:TabI w)(zk:SlAt w T vp ps.length (strs ps))(zh:SlAt w U vt ts.length (strs ts))(zl:∀p∈ps,p.length<=9223372036854775807)(hK:∀W,Ext w W->K (.bool true) W):
  aL P0 9 [.agg [vp,vt].toArray] w K:=by
 refine aFR ?_;unfold W9;refine gF (z:=[vp,vt]) λb1 w1 ve ux yn xt=>?_;refine ZX (wT hT xt) λw2 xo=>?_;have X:=xt.trans xo;rw[gK,dT,cI];refine gL (xo.at yn id) rfl ?_;refine KF (ps:=ps) (ts:=ts) (zk.ext X) (zh.ext X) zl λb m l w3 yd zm zn=>?_;simp only[bX];refine⟨_,rfl,_,rfl,?_⟩;refine cO λb4 w4 vd uw ym zg=>?_;refine dH ym zm rfl zn λw5 uv zq zp=>?_;have xl:Ext w3 w5:=zg.new zp (by omega);have Z:=yd.more xl;rw[Fx.eq_pn,cI];have R:Ext w w5:=X.trans Z.ext;refine Kk (wT hT R) Z.fs Z.ok (λmods hl v Ls w6 hx yg=>?_) (λc p a hl d w6 hx hd yf=>?_)
 .have hC:=Ug hl;have C:=hC.n;have xv:∀m∈mods,VR (rdF (tT ps ts)) m:=λm Y=>by
   obtain⟨i,hi⟩:=nK Y;exact GT 4 _ _ _ hl i m (cZ _) hi
  have xu:=R.trans hx;simp only[bX];refine⟨_,rfl,_,rfl,?_⟩;refine cO λb5 w7 zs ze hf hw=>?_;refine dH (l:=[v]) hf rfl rfl (by simp[fO yg.ow.sl]) λw8 zd he xa=>?_;have D:Ext w6 w8:=hw.new xa (by omega);have Q:=xu.trans D;have E:=yg.ext D;rw[aBL,cI,dW];refine cO λb7 w9 vc uu yl zf=>?_;refine dH (l:=[.slice none 0 0,.slice none 0 0]) yl rfl rfl rfl λxi uc xe yk=>?_;have P:Ext w8 xi:=zf.new yk (by omega);have yq:TR w8 xi b7 (.slice none 0 0) (.slice none 0 0) (mPs (mods.take 0)) (mTs (mods.take 0)):=
   ⟨P,xe,sA _ _ _ _,sA _ _ _ _,λk e=>(by cases e),λe=>(by cases e),by omega⟩
  rw[bH,bN];refine ldb (P.at he id) (v:=v) rfl ?_;rw[gQ (E.ext P).ow.sl];refine eK.go (λst W=>∃(i:Nat) (vp vt:Value),st=[i64 (i:Nat)]/\i<=mods.length/\TR w8 W b7 vp vt (mPs (mods.take i)) (mTs (mods.take i))/\∀m∈mods.take i,(nB m.fl).length<=6000) (λst _=>match st with|[.int _ i]=>mods.length-i.toNat|_=>0) ⟨0,_,_,rfl,cZ _,yq,by simp⟩ ?_;rintro st g zb ⟨i,vp',H,rfl,hi,B,hy⟩;simp only[aG];rw[eC,aY];have q:=E.ext B.ch;refine⟨λhn=>?_,λuz=>?_⟩
  .have hn:i<mods.length:=by omega
   obtain⟨md,u⟩:∃m,mods[i]?=some m:=⟨_,aH hn⟩;obtain⟨L,xf⟩:∃L,Ls[i]?=some L:=⟨_,aH (by rw[q.len];exact hn)⟩;have xx:=bA u;have r:=q.md i L md xf u;obtain⟨data,e1,hp⟩:=(xv md xx).src;have ye:=BX hp;obtain⟨fo,bo,zo,xz⟩:=Oz hp ye;refine qV q.ow.sl (PH q.len) (by omega) hn ?_;rw[Gb xf u];refine cO λb9 uq vb ub xd xs=>?_;refine dH (l:=L.cells md.dir) xd rfl rfl (by simp only[ML.cells,Ek,List.all_nil,fO r.fo.oE.sl,fO r.fo.oB.sl,fO r.fo.oT.sl,fO r.oV.sl,fO r.oL.sl,fO r.oO.sl,fO r.oR.sl,fO r.oC.sl];rfl) λhj ua xc yj=>?_;have xr:Ext zb hj:=xs.new yj (by omega);have s:=(cQ hj).at xc id;have F:=B.ext (xr.trans (cQ hj));generalize hj.drew=wd at s F;have lp:(mPs (mods.take i)).length<=1000:=by unfold mPs;rw[cK,cG];omega
   have lt:(mTs (mods.take i)).length<=1000:=by unfold mTs;rw[cK,cG];omega
   rw[bH,bN];refine ldb F.hb (v:=vp') rfl ?_;rw[bH,bN];refine ldb s (v:=str md.dir) rfl ?_;have r1:([109,97,105,110,46,104,99,108]:Str)=nM:=rfl;rw[r1,bY];refine⟨Er (by have:=hC.dir md xx;have:nM.length=8:=rfl;omega),?_⟩;rw[bH,bN];refine ldb F.hb (v:=H) rfl ?_;rw[bH,bN];refine Km s ?_;refine KG λt16 up h16t n16 hs=>?_;have C:=F.ext hs;have hh:=hs.at s id;refine⟨Km hh rfl,ldb C.hb (v:=H) rfl rfl,ldb C.hb (v:=vp') rfl rfl,?_⟩;refine C.app h16t lp λzc uo xg yi=>?_;have yo:=yi.at hh λe=>by
    obtain⟨_,c,h2⟩:=C.op.block b9 e;rw[hh]at h2;exact zQ (show MdT≠StT by decide) h2
   refine⟨Km yo rfl,ldb xg.hb (v:=H) rfl rfl,?_⟩;rw[bH,bN];refine Ww fo bo ((E.ext xg.ch).md i L md xf u).fo.fv zo xz λun xq=>?_;have yv:=xg.ext xq;refine⟨ldb yv.hb (v:=H) rfl rfl,?_⟩;refine KG λt49 um zv ut xp=>?_;have yu:=yv.ext xp;refine⟨ldb yu.hb (v:=H) rfl rfl,?_⟩;refine yu.fin zv lt λv20 za G=>?_;have ya:(mTs (mods.take i)++[nB md.fl]).length=i+1:=by unfold mTs;simp;omega
   rw[bH,bN];refine ldb G.hb (v:=v20) rfl ?_;rw[bH,bN];refine ldb G.hb (v:=v20) rfl ?_;rw[gQ G.ot.sl,ya,gR,show IntKind.i64.wrap (((i+1:Nat):Int)-1)=(i:Nat)by rw[fZ (by omega) (by omega)];omega];refine mC G.ot.sl (by unfold strs;rw[cK]) (x:=str (nB md.fl)) (by
    unfold strs;rw[dV,dB (by unfold mTs;simp;omega)];have:i-(mTs (mods.take i)).length=0:=by unfold mTs;simp;omega
    rw[this];rfl) ?_
   rw[eR,gG,aY];have zj:mPs (mods.take (i+1))=mPs (mods.take i)++[md.dir++nM]:=by unfold mPs;rw[jA,u];simp
   have zi:mTs (mods.take (i+1))=mTs (mods.take i)++[nB md.fl]:=by unfold mTs;rw[jA,u];simp
   refine⟨λue=>hK za (Q.trans G.ch),λuy=>?_⟩;rw[cP,upi (by omega)];refine⟨⟨i+1,zc,v20,rfl,by omega,by rw[zj,zi];exact G,λm Y=>?_⟩,by simp only[bD];omega⟩;rw[jA,u]at Y;rcases bM.1 Y with Y|Y
   .exact hy m Y
   .simp only[Option.toList_some,bO]at Y;subst Y;omega
  .obtain rfl:i=mods.length:=by omega
   rw[dP]at B hy;have j:=Lg hl (Tl hl C hy);refine gL B.hb rfl ?_;refine KF (ps:=mPs mods) (ts:=mTs mods) B.op.sl B.ot.sl (λp hp=>?_) λb' m' l' yz hz xy yb=>?_
   .unfold mPs at hp;obtain⟨m,Y,rfl⟩:=fL.1 hp;have:=hC.dir m Y;have:nM.length=8:=rfl;rw[aB];omega
   simp only[bX];refine⟨_,rfl,_,rfl,?_⟩;refine cO λvh ul uf zz xb xn=>?_;refine dH xb xy rfl yb λxh zy zr yh=>?_;have hk:Ext yz xh:=xn.new yh (by omega);have y:=hz.more hk;rw[Fx.eq_pn,cI];have I:Ext w8 xh:=B.ch.trans y.ext;have V:=Q.trans I;refine Kk (wT hT V) y.fs y.ok (λmods' ho v' Ls' hv O ht=>?_) (λc p a ho d hv O hd yf=>?_)
   .rw[ho]at j;have zu:=Ug ho;simp only[bX];refine⟨_,rfl,_,rfl,?_⟩;refine cO λzw yy yp xk A N=>?_;refine dH (l:=[v']) A rfl rfl (by simp[fO ht.ow.sl]) λt xj hg hc=>?_;have h:Ext hv t:=N.new hc (by omega);rw[aBL,cI];have o:=((I.trans O).trans h).trans (cQ t);have hx26d:=h.trans (cQ t);have s:=(cQ t).at hg id;generalize t.drew=wd at o hx26d s;refine gL (o.at he id) rfl ?_;refine gL s rfl ?_;refine MG (E.ext o) hC λv31 uj M yr=>?_;refine⟨gL (M.at s id) rfl rfl,?_⟩;refine MG (ht.ext (hx26d.trans M)) zu λv32 ui hr hu=>?_;rw[Ri j]at hu;refine Wp (yr.sl.ext hr) hu.sl (by have:=LV hC.few;have:mods.length*20000000000<=16*20000000000:=dU _ C;omega) λyx xm=>?_;exact hK yx (((Q.trans o).trans (M.trans hr)).trans xm)
   .rw[ho]at j;have j:Fa c:=j;simp only[bX];refine⟨_,rfl,_,rfl,?_⟩;refine cO λzw yy yp xk A N=>?_;refine dH (l:=[.slice none 0 0]) A rfl rfl rfl λt xj hg hc=>?_;have h:Ext hv t:=N.new hc (by omega);have ha:=h.at yf id;have S:=(V.trans O).trans h;rw[Fx.ne_pn,dF,dJ];refine uX (off:=0) ha rfl ?_;rcases j with rfl|rfl
    .rw[bW,bS rfl];simp only[jV,dT];refine GdW.f λ_=>?_;rw[iZ];exact hK _ S
    .rw[bW,cX (by decide)];simp only[jV,dG];refine GdW.look true (λ_ J hJ=>?_) λ_=>?_
     .rw[dJ];refine uX (off:=0) ha rfl ?_;rw[bW,bS rfl];exact hJ
     simp only[aG,aV];rw[iN];exact hK _ S
 .simp only[bX];refine⟨_,rfl,_,rfl,?_⟩;refine cO λb5 w7 zs ze hf hw=>?_;refine dH (l:=[.slice none 0 0]) hf rfl rfl rfl λw8 zd he xa=>?_;have D:Ext w6 w8:=hw.new xa (by omega);rw[Fx.ne_pn,dF];exact hK w8 ((R.trans hx).trans D)
end
end
section
open Go Go.RowKit Go.Eng
def tabi_of(a:w.ShapedOpen P0):TabI w:=
 Go.Proofs.cell_of_shapedOpen_int (t:=3) (zero:=#[.int .i64 0]) a (fP (by kernel_rfl)) (by kernel_rfl) rfl (by kernel_rfl) (by kernel_rfl) Tryz.underlying3
theorem handed_and_shaped{enc:TypeId×Value->α}{a:Assume}{C:Checked}{os:Os}{f:FuncId}{fn:Func}{s:ChangeSpec}{conds:List PathCond}{fresh handsOn again:Bool}{X:World->Array Value->Prop}
  (A:∀(w w':World) (args:Array Value),w.heap=w'.heap->X w args->X w' args)
  (own:ownKnob C.prog.godebug=none)(started:os.Started)(b:C.prog.inits.idxOf? f=none)(n:C.prog.funcs[f]?=some fn)
  (witness:∃(w:World) (tape:Tape) (i:Input),w.os=os/\(w.forCall tape i).Shaped C.prog/\i.vars=[]/\Input.okWide C.prog (w.forCall tape i) .any w.heap.size f i/\
    ((s.pre enc C.prog fn conds E (w.forCall tape i).memory i.args/\X (w.forCall tape i).memory i.args)/\sizedMet enc C.prog fn (OpenSpec.ofChange s) E (w.forCall tape i).memory i.args)/\a.holds C.prog (lone (Frame.enter C.prog f i.args .normal) [] (w.forCall tape i)))
  (contract:∀(W:World) (base:Nat) (args:Array Value) (ds gs:List (DataW α)) (before:List MemPlace),
    (∀(j:Nat) t v,fn.params[j]?=some t->args[j]?=some v->Value.okWide C.prog W .any base t v)->
    DataW.Whole enc C.prog fn.params.toList s.vars E W args.toList ds gs before->
    conds.all (PathCond.test C.prog ⟨fn.params.toList,ds,s.plain.varTypes C.prog,gs⟩)=true->
    (DataW.weightsEach C.prog (fn.params.toList++s.plain.varTypes C.prog) (ds++gs)).all (· <=reachBytes)=true->X W args->W.ShapedOpen C.prog->
    a.holds C.prog (lone (Frame.enter C.prog f args .normal) [] W)->
    Calls C.prog f args W λe q=>∃v,e=.returned v/\s.post enc C.prog fn E fresh handsOn again W args v q):
  ReturnsInHanded a C os f .any (λw args=>(s.pre enc C.prog fn conds E w args/\X w args)/\sizedMet enc C.prog fn (OpenSpec.ofChange s) E w args) (s.post enc C.prog fn E fresh handsOn again):=by
 refine returnsInHanded_of_calls own started b witness ?_;intro w tape i _ l _ m g c;obtain⟨_,_,_,o,h,_,_,_,_,d⟩:=m;have e:o=fn:=Option.some.inj (h.symm.trans n);subst e;obtain⟨⟨⟨ds,gs,before,p,z⟩,u⟩,r⟩:=g;have k:=DataW.Whole.of_heap (w':=w.forCall tape i) (by rfl) p;refine(contract (w.forCall tape i) w.heap.size i.args ds gs before d k z (r.weights p) (A _ _ _ (by rfl) u) l c).mono λe q ⟨v,y,x⟩=>?_;subst y;exact ChangeSpec.post_blind x
section
variable{H:Type}{enc:TypeId×Value->H}{w:World}{base:Nat}{spare:Nat->Bool}{held:Bool}
end
end
end Go.Proofs.YtjblfcfdeaagpaaGreatDoor
namespace Go.Eng
section
open Go Go.Deep
def flat_get{k:Nat}:∀(L:List (List Value)) (i r:Nat) (y:List Value),(∀z∈L,z.length=k)->r<k->L[i]?=some y->L.flatten[i*k+r]?=y[r]?
 |[],i,_,_,_,_,h=>by simp at h
 |z::L,0,r,y,a,b,h=>by
  simp only[bG,bB]at h
  subst h
  simp only[iG,HP,aN]
  rw[dR (by rw[a z bC];exact b)]
 |z::L,i+1,r,y,a,b,h=>by
  simp only[bI]at h
  have:=flat_get L i r y (λu d=>a u (aF _ d)) b h
  rw[<-this]
  simp only[iG]
  have c:=a z bC
  rw[dB (by rw[c,oQ];omega)]
  congr 1
  rw[c,oQ]
  omega
def Mk{k:Nat}:∀(L:List (List Value)),(∀z∈L,z.length=k)->L.flatten.length=L.length*k
 |[],_=>by simp
 |z::L,a=>by
  rw[iG,aB,Mk L λu b=>a u (aF _ b),a z bC,aA,oQ]
  omega
section
variable{H:Type}{enc:TypeId×Value->H}{P:Program}{w:World}{base:Nat}{spare:Nat->Bool}{held:Bool}
theorem Rb{t e:TypeId}{k:Nat}{d:DataW H}{ps:List MemPlace}(R:P.underlying t=some (.slice e))(L:P.cellsOf e=k)(u:0<k)(h:DataW.trod enc P w base spare held q t [v]=some (d,ps)):
  ∃p n c T m,∃(f:Nat->List Value) (D:Nat->DataW H) (C:Nat->List MemPlace),v=.slice p n c/\SlAt w T (.slice p n c) n ((List.range n).map f).flatten/\
   (∀i,i<n->(f i).length=k/\DataW.trod enc P w base spare held m e (f i)=some (D i,C i))/\((n=0/\d=.nil)\/∃rest,d=.slice ((List.range n).map D) rest):=by
 rcases open_slice R h with⟨K,E⟩|⟨a,len,cap,m,n,D,C,K,_,V,hm,G,E,J⟩
 .cases K;cases E;refine⟨none,0,0,0,0,λ_=>[],λ_=>.nil,λ_=>[],rfl,?_,λi g=>by omega,.inl ⟨rfl,rfl⟩⟩;simpa using SlAt.nil w 0
 .cases K;cases E;have U:len<=m:=by rw[G];split<;>omega
  obtain⟨f,I⟩:=choose_lt (n:=len) λi g=>J i (by omega);have x:∀i,i<len->(f i).length=k:=λi g=>by rw[(World.cells?_some (I i g).1).2.1,L]
  have s:∀z∈(List.range len).map f,z.length=k:=by
   intro z Q;obtain⟨i,g,rfl⟩:=fL.1 Q;exact x i (gW.1 g)
  have o:∀i r,i<len->r<k->w.cell? (a.add (i*k+r))=(f i)[r]?:=by
   intro i r g F;have:=(World.cells?_some (I i g).1).2.2 r (by omega);rw[add_add,L]at this;exact this
  by_cases X:len=0
  .subst X;refine⟨some a,0,cap,0,n,f,D,C,rfl,⟨some a,cap,rfl,cZ _,(by intro e;cases e),(by simp)⟩,λi g=>by omega,.inr ⟨_,rfl⟩⟩
  have l:=o 0 0 (by omega) u;have W:=x 0 (by omega);rw[aH (by omega)]at l;obtain⟨c,T,fr,B,y⟩:∃c T fr,w.heap[a.block]?=some (.cells c T fr)/\a.spot=none:=by
   unfold World.cell? at l;have e1:(a.add (0*k+0)).block=a.block:=by unfold Addr.add;split<;>rfl
   have Y:(a.add (0*k+0))=a:=by unfold Addr.add;simp
   rw[Y]at l;split at l
   .rename_i c T fr B;refine⟨c,T,fr,B,?_⟩;cases S:a.spot with
    |none=>rfl
    |some _=>simp[S]at l
   .cases l
  obtain⟨b,off,Z⟩:=a;simp only at y B;subst y;refine⟨some ⟨b,off,none⟩,len,cap,T,n,f,D,C,rfl,⟨_,_,rfl,V,(by intro e;cases e),λ_=>⟨b,off,c,fr,rfl,B,λj M=>?_⟩⟩,λi g=>⟨x i g,(I i g).2⟩,.inr ⟨_,rfl⟩⟩;rw[Mk _ s,cK,nZ]at M;have g:j/k<len:=by rw[Nat.div_lt_iff_lt_mul u];exact M
  have F:j%k<k:=Nat.mod_lt _ u;have A:j/k*k+j%k=j:=by rw[Nat.mul_comm];exact Nat.div_add_mod j k
  have O:=o (j/k) (j%k) g F;rw[A,bN,cS,B,bT]at O;have N:=flat_get ((List.range len).map f) (j/k) (j%k) (f (j/k)) s F (by simp[g]);rw[A]at N;rw[O,N]
end
end
end Go.Eng
namespace Go.Proofs.YtjblfcfdeaagpaaGreatDoor
section
open Go Go.RowKit Go.Eng Go.ChangeShapes
section
variable{H:Type}{enc:TypeId×Value->H}{w:World}{base:Nat}{spare:Nat->Bool}{held:Bool}
def RB{t e:TypeId}{p:Option Addr}{c:Nat}{x:DataW H×List MemPlace}(d:P.underlying t=some (.slice e))(h:DataW.trod enc P w base spare held i t [.slice p n c]=some x):n<=9223372036854775807:=by
 rcases Deep.open_slice d h with⟨b,_⟩|⟨a,len,cap,m,n',D,j,b,_,g,f,_⟩
 .cases b;omega
 .cases b;unfold maxLen at f;omega
def Fe{t e:TypeId}{d:DataW H}{ps:List MemPlace}(y:P.underlying t=some (.slice e))(F:P.underlying e=some .string)(C:P.cellsOf e=1)(h:DataW.trod enc P w base spare held j t [v]=some (d,ps)):
  ∃(T:TypeId) (l:List Str),SlAt w T v l.length (l.map str)/\l.length<=9223372036854775807/\(∀s∈l,s.length<=9223372036854775807)/\((l=[]/\d=.nil)\/∃ds rest,d=.slice ds rest/\ds.length=l.length):=by
 obtain⟨p,n,c,T,m,f,D,G,rfl,q,E,o⟩:=Rb y C (by omega) h;have B:=RB y h;have u:∀i,i<n->∃b:Str,f i=[str b]/\b.length<=9223372036854775807:=by
  intro i k;obtain⟨s,A,_,x⟩:=DataW.trod_string F (E i k).2;refine⟨s.data.toList,by rw[A];simp[ofL],?_⟩;unfold maxLen at x;simpa using x
 obtain⟨g,z⟩:=Deep.choose_lt u;have r:((List.range n).map f).flatten=((List.range n).map g).map str:=by
  have:(List.range n).map f=(List.range n).map λi=>[str (g i)]:=gS λi k=>(z i (gW.1 k)).1;rw[this];simp only[iP];generalize List.range n=L;induction L with
  |nil=>rfl
  |cons a L ih=>simp only[cJ,iG,ih,Function.comp_apply];rfl
 rw[r]at q;refine⟨T,(List.range n).map g,by simpa using q,by simpa using B,(λs q=>?_),?_⟩
 .obtain⟨i,k,rfl⟩:=fL.1 q;exact(z i (gW.1 k)).2
 .rcases o with⟨rfl,o⟩|⟨rest,o⟩
  .exact .inl ⟨rfl,o⟩
  .exact .inr ⟨_,rest,o,by simp⟩
def open_tree{d:DataW H}{ps:List MemPlace}{r:Reach}(l:Value.okWide P0 w r i 51 v)(h:DataW.Trod enc P0 w base spare held 51 v d ps):
  ∃(g f:TypeId) (vp vt:Value) (l1 l2:List Str),v=.agg [vp,vt].toArray/\SlAt w g vp l1.length (l1.map str)/\SlAt w f vt l2.length (l2.map str)/\∀s∈l1,s.length<=9223372036854775807:=by
 obtain⟨m,h⟩:=h;obtain⟨xs,n,q,p,o,b,e⟩:=DataW.trod_struct Tryz.underlying51 h;have a:v.cells.toList.length=2:=o.trans (show Tryz.prog.cellsOf 51=2 by kernel_rfl);have k:Tryz.prog.cellsOf 33=1:=by kernel_rfl
 have j:Tryz.prog.cellsOf 9=1:=by kernel_rfl
 cases v with
 |agg arr=>
  obtain⟨cs⟩:=arr;simp only[Value.cells]at a e
  match cs,a with
  |[c0,c1],_=>
  have f0:DataW.trod enc P0 w base spare held n 33 (([c0,c1].drop 0).take (Tryz.prog.cellsOf 33))=xs[0]?:=e 0 _ rfl;rw[k]at f0;have f0:DataW.trod enc P0 w base spare held n 33 [c0]=xs[0]?:=f0;have f1:DataW.trod enc P0 w base spare held n 33 (([c0,c1].drop 1).take (Tryz.prog.cellsOf 33))=xs[1]?:=e 1 _ rfl;rw[k]at f1;have f1:DataW.trod enc P0 w base spare held n 33 [c1]=xs[1]?:=f1;have c:xs.length=2:=by simpa using b
  match xs,c with
  |[x0,x1],_=>
  obtain⟨g,l1,g1,_,g2,_⟩:=Fe Tryz.underlying33 Tryz.underlying9 j f0;obtain⟨f,l2,g3,_,_,_⟩:=Fe Tryz.underlying33 Tryz.underlying9 j f1;exact⟨g,f,c0,c1,l1,l2,rfl,g1,g3,g2⟩
 |_=>simp[Value.cells]at a
end
end
end Go.Proofs.YtjblfcfdeaagpaaGreatDoor
