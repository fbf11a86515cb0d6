/- One plain sentence: contracts and plain laws that the claim rests on. Conditions: those that each states. -/
import Derived.Test.YtghhmpppnmoeoaaGreatDoorXShapes4
import Derived.Test.YtghhmpppnmoeoaaGreatDoorXShapes3
import Derived.Test.YtghhmpppnmoeoaaGreatDoorXShapes1
import Derived.Lib.ItoaNum
import Derived.Test.YtghhmpppnmoeoaaGreatDoorXShapes2
import Derived.Deep.Slices
import Derived.DataReads
import Derived.ChangeArms
set_option linter.all false
set_option linter.unusedSimpArgs false
set_option linter.unusedVariables false
set_option linter.unusedSectionVars false
set_option maxRecDepth 100000
namespace Go.Proofs.YtghhmpppnmoeoaaGreatDoor
section
open Go Go.Eng Go.RowKit Go.Syn Go.Lex
variable{w:World}{K:Q0}{cs:List Value}{G:Nat->Prop}{T:TypeId}{i:Nat}{n:Nat}{v:Value}{w':World}{P:Program}{c:UInt8}{S:Nat->Prop}
theorem wM(s:Str):(kU s).length<=2*s.length:=by
 induction s with
 |nil=>simp[kU]
 |cons c r ih=>simp only[kU];(repeat' split)<;>simp only[aB]<;>omega
def nI(c:Nat):Str×Nat:=if c=92\/c=34\/c=36 then([92],c)else if c=9 then([92],116)else if c=13 then([92],114)else([],c)
theorem PH(x:UInt8)(h:wrM x.toNat=[x]):kU [x]=(nI x.toNat).1++wrM (nI x.toNat).2:=by
 have e:∀k:UInt8,(x==k)=decide (x.toNat=k.toNat):=λk=>by
  rw[mK,fV,decide_eq_true_iff,kO]
 simp only[kU,e];unfold nI;by_cases h1:x.toNat=92\/x.toNat=34\/x.toNat=36
 ·rw[aJ (by simp only[cQ,decide_eq_true_iff];rcases h1 with h|h|h;exact .inl (.inl h);exact .inl (.inr h);exact .inr h),aJ h1];show _=[92]++wrM x.toNat;rw[h];rfl
 rw[aE (by simp only[cQ,decide_eq_true_iff];rintro((h|h)|h);exact h1 (.inl h);exact h1 (.inr (.inl h));exact h1 (.inr (.inr h))),aE h1];by_cases o:x.toNat=9
 ·rw[aJ (by simpa using o),aJ o];rfl
 rw[aE (by simpa using o),aE o];by_cases j:x.toNat=13
 ·rw[aJ (by simpa using j),aJ j];rfl
 rw[aE (by simpa using j),aE j];exact h.symm
theorem MG{c:Nat}(h:128<=c):nI c=([],c):=by
 unfold nI;rw[aE (by omega),aE (by omega),aE (by omega)]
theorem SA{c:Nat}(h:c<55296\/57343<c/\c<=1114111):(nI c).2<55296\/57343<(nI c).2/\(nI c).2<=1114111:=by
 unfold nI
 (repeat' split)<;>(dsimp only;omega)
theorem PI(c:Nat):(nI c).1.length<=1:=by unfold nI;(repeat' split)<;>simp
def mP(l:Str)(at_:Nat)(x:Str×Nat×Int):Str×Nat×Int:=if x.2.2=0 then(l++x.1,x.2.1+at_,0)else([],0,x.2.2)
theorem PF(l m:Str)(a b:Nat)(x:Str×Nat×Int):mP l a (if x.2.2=0 then(m++x.1,x.2.1+b,0)else([],0,x.2.2))=mP (l++m) (a+b) x:=by
 unfold mP;by_cases h:x.2.2=0
 ·simp only[h,gF,fP];rw[show x.2.1+b+a=x.2.1+(a+b)by omega]
 ·simp only[aE h]
theorem Hm(n:Nat)(name s:Str):mV (n+1) name s=(if(s.take (eS (λb=>b !=10) s)).drop (eS (λb=>b==32||b==9) (s.take (eS (λb=>b !=10) s)))=name then([],eS (λb=>b !=10) s,0)else if s.length<=eS (λb=>b !=10) s then([],0,40)else
 (if(mV n name (s.drop (eS (λb=>b !=10) s+1))).2.2=0 then(kU (s.take (eS (λb=>b !=10) s))++[92,110]++(mV n name (s.drop (eS (λb=>b !=10) s+1))).1,(mV n name (s.drop (eS (λb=>b !=10) s+1))).2.1+(eS (λb=>b !=10) s+1),0)else([],0,(mV n name (s.drop (eS (λb=>b !=10) s+1))).2.2))):=rfl
section
variable [HX]
theorem PG{s:Str}{K:Q0}(hT:zM w)(hU:Utf s)(hl:s.length<=1000000)(h2:2<=s.length)
  (o:∀w',Ext w w'->K (.tuple #[str (iR s).1,i64 ((iR s).2.1:Nat),i64 (iR s).2.2]) w'):aC P0 77 [str s] w K:=by
 refine aCv ?_;unfold W77;unfold iR at o;dsimp only at o;generalize hn:(if jR ((s.drop 2).headD 0)then eS jV (s.drop 2)else 0)=n at o;have zo:n+2<=s.length:=by
  have:=rN jV (s.drop 2);rw[aP]at this;rw[<-hn];split<;>omega
 refine bU.cut (λst w'=>st=[i64 (n:Nat)]/\w'=w) ?_ ?_
 ·rw[gC,mB];refine GdW.look (jR ((s.drop 2).headD 0)) (λhg J hJ=>?_) λg=>?_
  ·rw[fQ,decide_eq_true_iff]at hg;have I:2<s.length:=by omega
   refine sA (i:=2) I ?_;refine yX ?_;rw[iZ I]at hJ;exact hJ
  ·simp only[aG,fQ];rw[fK,bY];refine⟨λhy=>?_,λxm=>?_⟩
   ·rw[aL]at hy;rw[aJ hy.2]at hn;rw[gB,fM,eR];refine⟨by omega,by omega,?_⟩;rw[bR];show aC P0 69 [str (s.drop 2),_] w _;refine Nu (q:=jV) (by rw[aP];omega) (λc {w K} h=>Aq (WA h)) ?_;rw[hn];exact⟨rfl,rfl⟩
   ·have:n=0:=by
     rw[<-hn];by_cases ho:jR ((s.drop 2).headD 0)=true
     ·rw[ho,iC,decide_eq_false_iff_not]at xm;rw[aJ ho,List.drop_eq_nil_of_le (by omega)];rfl
     ·rw[aE ho]
    rw[this];exact⟨rfl,trivial⟩
 rintro st g w' ⟨rfl,rfl⟩;simp only[aG];rw[cI,cN (by omega) (by omega)];rw[gB,eR,eR];refine⟨by omega,by omega,by omega,by omega,?_⟩;have yq:(s.take (Int.toNat (2+(n:Nat)))).drop (Int.toNat 2)=(s.drop 2).take n:=by
  rw[show Int.toNat (2+(n:Nat))=2+n by omega,show Int.toNat 2=2 from rfl,Gq];rw[show 2+n-2=n by omega]
 rw[yq,cI,cN (by omega) (by omega),show(2+(n:Nat):Int)=((2+n:Nat):Int)by omega];generalize (s.drop 2).take n=nm at*
 rw[bO];simp only[mI];refine GdW.look (decide (s.length<=2+n)) (λ_ J hJ=>?_) λg1=>?_
 ·rw[gC,mX,show decide (((s.length:Nat):Int)<=((2+n:Nat):Int))=decide (s.length<=2+n)by rw[decide_eq_decide];omega];exact hJ
 simp only[aG];rw[fU];simp only[mI];refine GdW.look (decide ((s.drop (2+n)).head?≠some 10)) (λhg J hJ=>?_) λg2=>?_
 ·have I:2+n<s.length:=by
   simp only[dZ,lS,decide_eq_false_iff_not]at hg;omega
  refine sA I ?_;have e5:decide (((s[2+n].toNat:Nat):Int)=10)=(s[2+n]==10):=AX 10 _;rw[gD];rw[iZ I]at hJ;have:decide (((s[2+n].toNat:Nat):Int)≠10)=decide ((s[2+n]::s.drop (2+n+1)).head?≠some 10):=by
   have e6:∀(c:UInt8) (r:Str),(c==10)=decide ((c::r).head?=some 10):=λc r=>by rw[mK];simp
   rw[yD,e5,yD,e6 _ (s.drop (2+n+1))]
  rw[this];exact hJ
 simp only[aG];rw[fU,bY];refine⟨λxh=>?_,λxa=>?_⟩
 ·have hb:n=0\/¬(s.drop (2+n)).head?=some 10:=by
   simp only[cQ,decide_eq_true_iff]at xh;rcases xh with(h|h)|h
   ·exact .inl (by omega)
   ·right;rw[List.drop_eq_nil_of_le (by omega)];simp
   ·exact .inr h
  have o:=o w' (Chg.refl _ _);rcases hb with h|h
  ·rw[aJ h]at o;exact o
  ·rw[aE h]at o;split at o<;>exact o
 simp only[lS,decide_eq_false_iff_not,bP,oW]at xa;obtain⟨⟨zp,I⟩,ht⟩:=xa;have I:2+n<s.length:=by omega
 rw[aE (by omega),aJ ht]at o;rw[cI,upi (by omega)];have yz:Utf (s.drop (2+n+1)):=by
  have hd:=iZ I;rw[hd]at ht;simp only[List.head?_cons,bF]at ht;exact vP (Bg hU hd (by rw[ht];decide)).2 (by rw[ht];decide)
 generalize hR:mV (s.length+1) nm (s.drop (2+n+1))=X at o;have za:mP [] (2+n+1) X=if X.2.2=0 then(X.1,X.2.1+(2+n+1),0)else([],0,X.2.2):=by unfold mP;rw[fO]
 rw[<-za]at o;refine aB5 (B:=w'.heap.size) (aV _) λb w1 hb h1 yk=>?_;generalize zb:mP [] (2+n+1) X=R0 at o;refine cY.go (λst w2=>∃(i m:Nat) (l:Str),st=[i64 (i:Nat)]/\i<=s.length/\Utf (s.drop i)/\Bld w2 w'.heap.size b l/\Ext w' w2/\l.length<=2*i/\mP l i (mV m nm (s.drop i))=R0/\s.length<m+i) (λst _=>match st with|[.int _ i]=>s.length+1-i.toNat|_=>0) ⟨2+n+1,s.length+1,[],rfl,by omega,yz,h1,yk,by simp,by rw[hR,zb],by omega⟩ ?_;rintro st g3 w2 ⟨i,m,l,rfl,hi,hu,hB,hx,zr,hr,hm⟩;obtain⟨m,rfl⟩:∃k,m=k+1:=⟨m-1,by omega⟩;rw[Hm]at hr;simp only[aG];rw[gB,fM,eR];refine⟨by omega,by omega,?_⟩;rw[bR,aW];have zm:(s.drop i).length=s.length-i:=aP;refine aB2 (hT.ext hx) (by omega) λx w3 xw=>?_;rw[bL];refine⟨_,rfl,?_⟩;rw[bL];refine⟨_,rfl,?_⟩;rw[bL];refine⟨_,rfl,?_⟩;obtain⟨ul,ur⟩:=Qv hu;have zu:=rN (λb=>b !=10) (s.drop i);have zl:((s.drop i).take (eS (λb=>b !=10) (s.drop i))).length=eS (λb=>b !=10) (s.drop i):=by rw[bS];omega
 generalize eS (λb=>b !=10) (s.drop i)=k at*
 generalize zq:(s.drop i).take k=ln at*
 refine TY (by omega) λw4 xv=>?_;have hj:Ext w' w4:=(hx.trans xw).trans xv;have xr:Bld w4 w'.heap.size b l:=(hB.ext xw).ext xv;rw[sL,aO];refine⟨λhy=>?_,λxm=>?_⟩
 ·rw[aJ hy]at hr;refine CN xr hj.size λw5 yx=>?_;rw[gC,cI,cN (by omega) (by omega)];have yu:Ext w' w5:=hj.then yx λk hk e=>by omega
  have o:=o w5 yu;rw[<-hr]at o;simp only[mP,gF,eG]at o;rw[show(i:Int)+(ln.length:Nat)=((k+i:Nat):Int)by omega];exact o
 rw[aE xm]at hr;rw[eP,bY];refine⟨λya=>?_,λhmore=>?_⟩
 ·rw[aJ (by simpa using ya)]at hr;have o:=o w4 hj;rw[<-hr]at o;exact o
 have hk:k<(s.drop i).length:=by simpa using hmore
 rw[aE (by omega)]at hr;rw[PF]at hr;have yn:=ur hk;clear ur;have zs:(s.drop i).length=s.length-i:=aP;refine EM ?_;have zi:=hj.size;have ua:=xr.lt;refine cY.go (λst w5=>∃p,p<=ln.length/\st=[]/\Utf (ln.drop p)/\w5.heap[w4.heap.size]?=some (.stringIter (ofL ln) p)/\Bld w5 w'.heap.size b (l++kU (ln.take p))/\Ext w' w5)
  (λ_ w5=>match w5.heap[w4.heap.size]? with|some (.stringIter _ p)=>ln.length-p|_=>0)
  ⟨0,fR _,rfl,by rw[cZ];exact ul,gN _ _ _ rfl,by rw[Av];show Bld _ _ _ (l++[]);rw[eG];exact xr.ext (Chg.alloc (Chg.refl _ _) _),hj.trans (Chg.alloc (Chg.refl _ _) _)⟩ ?_
 rintro st g4 w5 ⟨p,hp,rfl,xj,xn,xq,xi⟩;have yj:=xi.size;have ys:(l++kU (ln.take p)).length<=2*i+2*k:=by
  have:=wM (ln.take p);have:(ln.take p).length<=k:=by rw[bS];omega
  rw[aU];omega
 refine Hf xn (λzn=>?_) (λxl w6 hq xb zh=>?_)
 ·rw[bL];refine⟨.bool false,rfl,?_⟩;rw[cP];obtain rfl:p=ln.length:=by omega
  rw[bR]at xq ys;refine LL xq yj (by simp only[aB,aN];omega) λv w6 h6 xb=>?_;have hv:Ext w' w6:=BCh.new xi (aV _) (by omega) xb;rw[gC,cI,cN (by omega) (by omega),cI,cN (by omega) (by omega)];have zw:=wM ln;refine⟨⟨i+(k+1),m,l++kU ln++[92,110],by simp only[dX,Value.int.injEq,dV,lP];omega,by omega,?_,h6,hv,?_,?_,by omega⟩,?_⟩
  ·rw[<-gA];exact yn
  ·simp only[aU,aB,aN];omega
  ·rw[<-hr,gA,fP]
  ·simp only[aW];omega
 ·have yr:ln.drop p≠[]:=λe=>by have:=eC.1 e;omega
  obtain⟨u,r,xk,ym,hs⟩:∃u r,Rn u/\Utf r/\ln.drop p=u++r:=by
   cases hd:ln.drop p with
   |nil=>exact absurd hd yr
   |cons x y=>
    rw[hd]at xj;generalize he:x::y=z at xj;cases xj with
    |nil=>cases he
    |cons h1 h2=>exact⟨_,_,h1,h2,rfl⟩
  have yp:iP ln p=u.length:=xk.at hs;have yl:=xk.pos;obtain⟨c,hc⟩:=wA xl (by omega);rw[yp]at hc;have xe:(ln.drop p).take u.length=u:=by rw[hs,List.take_left]
  have hnext:ln.take (p+u.length)=ln.take p++u:=by rw[List.take_add,xe]
  have yb:ln.drop (p+u.length)=r:=SS hs;have xg:=hc.dec;have zz:=hc.top;have zy:=hc.val;have yc:wrM c=u:=by rw[<-aAi (by omega),hc.bytes,xe]
  rw[xg]at hq;have xz:=hc.fits;have xd:Bld w6 w'.heap.size b (l++kU (ln.take p)):=xq.chg xb (λe=>by have:=e;omega) λk hk e=>by
   obtain⟨_,c',ye⟩:=hk;have e:k=w4.heap.size:=e;rw[e,xn]at ye;cases ye
  have hv:Ext w' w6:=xi.then xb λk hk e=>by omega
  have yo:kU u=(nI c).1++wrM (nI c).2:=by
   rcases xk.cases with⟨x,hx,zj⟩|hh
   ·subst hx;have yw:c=x.toNat:=by
     have:=(hc.low rfl).1;rw[this];have e:=oI xl;rw[Go.Eng.byte_at (show ln.drop p=x::r from hs)]at e;omega
    subst yw;exact PH x yc
   ·have xo:128<=c:=by
     have yy:=sY (j:=0) hs yl;have zg:=hh u[0] (BZ ..);rw[eU,oI xl]at yy;by_cases h1:u.length=1
     ·have:=hc.low h1;omega
     ·exact(hc.high (by omega)).1
    rw[MG xo,MH hh,yc];rfl
  have xa:=SA (c:=c) (by omega);have zt:=PI c;rw[bL];refine⟨.bool true,rfl,?_⟩;rw[dS,bL];refine⟨.int .i32 (c:Int),by rw[xg];rfl,?_⟩;refine bU.cut (λst w7=>st=[.int .i32 ((nI c).2:Nat)]/\Bld w7 w'.heap.size b (l++kU (ln.take p)++(nI c).1)/\w7.heap[w4.heap.size]?=some (.stringIter (ofL ln) (p+u.length))/\Ext w' w7) ?_ ?_
  ·have wr:∀(x:Nat) (w7:World),nI c=([92],x)->Bld w7 w'.heap.size b (l++kU (ln.take p)++[92])->Chg (BCh w6 w'.heap.size b) w6 w7->[Value.int .i32 (x:Int)]=[.int .i32 ((nI c).2:Nat)]/\Bld w7 w'.heap.size b (l++kU (ln.take p)++(nI c).1)/\w7.heap[w4.heap.size]?=some (.stringIter (ofL ln) (p+u.length))/\Ext w' w7:=by
    intro x w7 e h7 yd;rw[e];exact⟨rfl,h7,BCh.iter yd hq (by omega),BCh.new hv (aV _) (by omega) yd⟩
   refine bU.cut (λst w7=>st=[.bool (decide (c=92\/c=34\/c=36))]/\w7=w6) ?_ ?_
   ·rw[bO,aO];refine⟨λh=>?_,λh=>?_⟩
    ·rw[bH h,bH (.inl (by omega))];exact⟨rfl,rfl⟩
    rw[bO,aO];refine⟨λh'=>?_,λh'=>?_⟩
    ·rw[bH h',bH (.inr (.inl (by omega)))];exact⟨rfl,rfl⟩
    rw[bO];rw[show decide (((c:Nat):Int)=36)=decide (c=92\/c=34\/c=36)by rw[decide_eq_decide];omega];exact⟨rfl,rfl⟩
   rintro st g5 w7 ⟨rfl,rfl⟩;simp only[aG];rw[aO];refine⟨λh=>?_,λh=>?_⟩
   ·refine DC (n:=92) xd (by omega) (by omega) (by omega) λw8 h8 U=>?_;exact wr c w8 (by unfold nI;rw[aJ h]) h8 U
   rw[bO,aO];refine⟨λh'=>?_,λh'=>?_⟩
   ·refine DC (n:=92) xd (by omega) (by omega) (by omega) λw8 h8 U=>?_;exact wr 116 w8 (by unfold nI;rw[aE h,aJ (by omega)]) h8 U
   rw[bO,aO];refine⟨λzd=>?_,λzd=>?_⟩
   ·refine DC (n:=92) xd (by omega) (by omega) (by omega) λw8 h8 U=>?_;exact wr 114 w8 (by unfold nI;rw[aE h,aE (by omega),aJ (by omega)]) h8 U
   have e:nI c=([],c):=by unfold nI;rw[aE h,aE (by omega),aE (by omega)]
   rw[e,eG];exact⟨rfl,xd,hq,hv⟩
  rintro st g5 w7 ⟨rfl,zc,xy,xu⟩;simp only[aG];have yi:=xu.size;refine TK zc yi (by rw[aU];omega) xa λv w8 h8 U=>?_;have xf:=BCh.iter U xy (by omega);refine⟨⟨p+u.length,xz,trivial,by rw[yb];exact ym,xf,?_,BCh.new xu (aV _) (by omega) U⟩,?_⟩
  ·rw[hnext,PK,yo,<-fP,<-fP];exact h8
  ·rw[xf,xn];show ln.length-(p+u.length)<ln.length-p;omega
end
theorem Ef{r:Str}{d:Nat}(h:(gL r d).2=0):1<=(gL r d).1/\(gL r d).1<=r.length:=by
 exact((jM _ r (aV _)).1 d _ (fZ rfl h)).2
theorem Kd(c:UInt8)(r:Str):pR (c::r)=
 (if(c==10)=true then(⟨5,[10],0⟩,1,0)
 else if jR c=true then(⟨1,(c::r).take (eS jV (c::r)),0⟩,eS jV (c::r),if 32<eS jV (c::r)then 3 else 0)
 else if jL c=true then
  (⟨2,(c::r).take (eS jL (c::r)),0⟩,eS jL (c::r),if((eS jL (c::r)<(c::r).length&&jR (((c::r).drop (eS jL (c::r))).headD 0))||(c==48&&1<eS jL (c::r)))=true then 40 else if Num.goodN ((c::r).take (eS jL (c::r)))=true then 0 else 3)
 else if(c==34)=true then
  (if(oY ((c::r).length+1) r 0).2=0 then(⟨3,r.take ((oY ((c::r).length+1) r 0).1-1),0⟩,(oY ((c::r).length+1) r 0).1+1,0)else(⟨0,[],0⟩,0,(oY ((c::r).length+1) r 0).2))
 else if qD [60,60] (c::r)=true then(⟨3,(iR (c::r)).1,0⟩,(iR (c::r)).2.1,(iR (c::r)).2.2)
 else(⟨4,vX (c::r),0⟩,(vX (c::r)).length,if(vX (c::r)).length=0 then 40 else 0)):=rfl
section
variable [HX]
theorem aDU{r:Str}{K:Q0}(hT:zM w)(hU:Utf (c::r))(hl:r.length<=100000)
  (hK:∀w',Ext w w'->K (.tuple #[.agg (fS (pR (c::r)).1).toArray,i64 ((pR (c::r)).2.1:Nat),i64 (pR (c::r)).2.2]) w'):aC P0 45 [str (c::r)] w K:=by
 refine aCS ?_;unfold W45;have U:(c::r).length=r.length+1:=rfl;refine bI λa w1 ha xt xi xl=>?_;refine bI λb w2 hb xr hq xe=>?_;have hh:=xl.trans xe;have hj:=xe.at xi id;have cond:∀(k:Nat),k<256->(((c.toNat:Nat):Int)=(k:Int)↔c=UInt8.ofNat k):=λk hk=>by
  have:=Gu c k hk;rwa[decide_eq_decide]at this
 generalize ho:pR (c::r)=o at hK;rw[Kd]at ho;refine bU.cut (λst w'=>st=[i64 o.2.2,i64 (o.2.1:Nat)]/\Ext w w'/\w'.heap[a]?=some (.cells [i64 0,str [],i64 0].toArray TkT (0,0))/\w'.heap[b]?=some (.cells (fS o.1).toArray TkT (0,0))) ?_ ?_
 ·
  have put:∀{w3:World} {t:Tok} {old:List Value} {K':World->Prop},Ext w w3->w3.heap[a]?=some (.cells [i64 0,str [],i64 0].toArray TkT (0,0))->w3.heap[b]?=some (.cells old.toArray TkT (0,0))->old.length=3->
    (∀w4,Ext w w4->w4.heap[a]?=some (.cells [i64 0,str [],i64 0].toArray TkT (0,0))->w4.heap[b]?=some (.cells (fS t).toArray TkT (0,0))->K' w4)->stW 3 (.pointer (some ⟨b,0,none⟩)) (.agg (fS t).toArray) w3 K':=by
   intro w3 t old K' hx hv ht xm h;refine cK ht rfl xm rfl λw4 xj j xa=>?_;exact h w4 (hx.new xa (by omega)) (xa.at hv (by omega)) j
  refine sA (i:=0) (by rw[U];omega) ?_;simp only[List.getElem_cons_zero];rw[bO,aO];refine⟨λe=>?_,λe=>?_⟩
  ·have e:c=10:=(cond 10 (by omega)).1 e;subst e;simp only[beq_self_eq_true,gF]at ho;subst ho;simp only[dI,eY,aB,aN,aY,bB,Nat.reduceAdd,Nat.reduceLT,dV,aA];refine cK (l:=[i64 5,str [10],i64 0]) hj rfl rfl rfl λw3 xk xh xb=>?_;refine bZ xh rfl ?_;exact hK w3 (hh.new xb (by omega))
  have e:¬(c==10)=true:=λh=>e ((cond 10 (by omega)).2 (by simpa using h));rw[aE e]at ho;refine yX ?_;rw[bY];refine⟨λhy=>?_,λhs=>?_⟩
  ·rw[aJ hy]at ho;refine Nu (q:=jV) (by rw[U];omega) (λc {w K} h=>Aq (WB h)) ?_;have xc:=rN jV (c::r);rw[U]at xc;generalize eS jV (c::r)=n at*
   rw[gB,eR];refine⟨by omega,by rw[U];omega,?_⟩;rw[fM,cZ,aW];simp only[dI,eY,aB,aN,aY,bB,Nat.reduceAdd,Nat.reduceLT,dV,aA];refine put (t:=⟨1,(c::r).take n,0⟩) hh hj hq rfl λw4 I hc j=>?_;rw[mB,aO];subst ho;refine⟨λh=>?_,λh=>?_⟩
   ·exact⟨by rw[aJ (by omega)],I,hc,j⟩
   ·exact⟨by rw[aE (by omega)],I,hc,j⟩
  rw[aE (by rw[hs];decide)]at ho;refine DO ?_;rw[bY];refine⟨λhy=>?_,λhs=>?_⟩
  ·rw[aJ hy]at ho;refine Nu (q:=jL) (by rw[U];omega) (λc {w K} h=>Aq (DO h)) ?_;have xc:=rN jL (c::r);rw[U]at xc;generalize eS jL (c::r)=n at*
   rw[gB,eR];refine⟨by omega,by rw[U];omega,?_⟩;rw[fM,cZ,aW];simp only[dI,eY,aB,aN,aY,bB,Nat.reduceAdd,Nat.reduceLT,dV,aA];refine put (t:=⟨2,(c::r).take n,0⟩) hh hj hq rfl λw4 I hc j=>?_;refine bU.cut (λst w'=>st=[.bool ((n<(c::r).length&&jR (((c::r).drop n).headD 0))||(c==48&&1<n))]/\w'=w4) ?_ ?_
   ·rw[gC,dU,show decide (((n:Nat):Int)<(((c::r).length:Nat):Int))=decide (n<(c::r).length)by rw[decide_eq_decide];omega];simp only[fQ];refine GdW.look (jR (((c::r).drop n).headD 0)) (λhg J hJ=>?_) λg=>?_
    ·have xf:n<(c::r).length:=by simpa using hg
     refine sA xf ?_;refine yX ?_;rw[iZ xf]at hJ;exact hJ
    simp only[aG];rw[fK,bY];refine⟨λh=>by rw[h,Ax];exact⟨rfl,trivial⟩,λh=>?_⟩;have e5:decide (((c.toNat:Nat):Int)=48)=(c==48):=AX 48 c;rw[bO,e5];simp only[fQ,mB,qB,aG];intro g2;rw[fK,h,pJ];refine⟨?_,trivial⟩;rw[show decide ((1:Int)<((n:Nat):Int))=decide (1<n)by rw[decide_eq_decide];omega]
   rintro st g w5 ⟨rfl,rfl⟩;simp only[aG];rw[bY];refine⟨λh=>?_,λh=>?_⟩
   ·rw[aJ h]at ho;subst ho;exact⟨rfl,I,hc,j⟩
   rw[aE (by rw[h];decide)]at ho;rw[bT,dY];refine⟨str ((c::r).take n),by rw[bW,cG,j];rfl,?_⟩;refine nD (by have:((c::r).take n).length<=n:=(by rw[bS];omega);omega) λw6 hr=>?_;rw[eP,bY];subst ho;refine⟨λh=>?_,λh=>?_⟩
   ·exact⟨by rw[aE (by simpa using h)],I.trans hr,hr.at hc id,hr.at j id⟩
   ·exact⟨by rw[aJ (by simpa using h)],I.trans hr,hr.at hc id,hr.at j id⟩
  rw[aE (by rw[hs];decide)]at ho;rw[bO,aO];refine⟨λe=>?_,λe=>?_⟩
  ·have e:c=34:=(cond 34 (by omega)).1 e;rw[aJ (by rw[e];rfl),uL (by omega)]at ho;refine WK (d:=0) (by omega) (by omega) ?_;by_cases h0:(gL r 0).2=0
   ·rw[aJ h0]at ho;have hf:=Ef h0;unfold qP;rw[aJ h0,bL];refine⟨_,rfl,?_⟩;rw[bL];refine⟨_,rfl,?_⟩;rw[bO,aO];refine⟨λ_=>?_,λh=>absurd rfl h⟩;rw[kW,cN (by omega) (by omega),gB,eR,eR];refine⟨by omega,by rw[U];omega,by omega,by omega,?_⟩;have et:((c::r).take (Int.toNat (((gL r 0).1+1:Nat)-1))).drop (Int.toNat 1)=r.take ((gL r 0).1-1):=by
     rw[show Int.toNat ((((gL r 0).1+1:Nat):Int)-1)=((gL r 0).1-1)+1 by omega];rfl
    rw[et];simp only[dI,eY,aB,aN,aY,bB,Nat.reduceAdd,Nat.reduceLT,dV,aA];refine put (t:=⟨3,r.take ((gL r 0).1-1),0⟩) hh hj hq rfl λw4 I hc j=>?_;subst ho;exact⟨rfl,I,hc,j⟩
   ·rw[aE h0]at ho;unfold qP;rw[aE h0,bL];refine⟨_,rfl,?_⟩;rw[bL];refine⟨_,rfl,?_⟩;rw[bO,aO];refine⟨λh=>absurd h h0,λh=>?_⟩;subst ho;exact⟨rfl,hh,hj,hq⟩
  have e:¬(c==34)=true:=λh=>e ((cond 34 (by omega)).2 (by simpa using h));rw[aE e]at ho;refine AV ?_;rw[bY];refine⟨λhy=>?_,λhs=>?_⟩
  ·rw[aJ (show qD [60,60] (c::r)=true from hy)]at ho;have h2:2<=(c::r).length:=Iw (p:=[60,60]) (s:=c::r) hy;rw[bT,bW,aX];refine iO hq rfl (by simp) λw3 xk ht xb=>?_;have hz:=hh.new xb (by omega);have hv:=xb.at hj (by omega);refine PG (hT.ext hz) hU (by rw[U];omega) h2 λw4 I=>?_;rw[bL];refine⟨_,rfl,?_⟩;rw[bL];refine⟨_,rfl,?_⟩;rw[bL];refine⟨_,rfl,?_⟩;have j:=I.at ht id;rw[bT,bW,aX];refine iO j rfl (by simp) λw5 xq xn xg=>?_;subst ho;exact⟨rfl,(hz.trans I).new xg (by omega),xg.at (I.at hv id) (by omega),by rw[xn];simp[fS]⟩
  ·rw[aE (show¬qD [60,60] (c::r)=true from by rw[show qD [60,60] (c::r)=false from hs];decide)]at ho;refine QS (by omega) ?_;simp only[dI,eY,aB,aN,aY,bB,Nat.reduceAdd,Nat.reduceLT,dV,aA];refine put (t:=⟨4,vX (c::r),0⟩) hh hj hq rfl λw4 I hc j=>?_;rw[bT,dY];refine⟨str (vX (c::r)),by rw[bW,cG,j];rfl,?_⟩;rw[gC,bO,aO];subst ho;refine⟨λh=>?_,λh=>?_⟩
   ·exact⟨by rw[aJ (by omega)],I,hc,j⟩
   ·exact⟨by rw[aE (by omega)],I,hc,j⟩
 rintro st g w3 ⟨rfl,hz,hv,ht⟩;refine bZ ht rfl ?_;refine cK (l:=fS o.1) hv rfl rfl rfl λw4 xj hc xa=>?_;refine bZ hc rfl ?_;exact hK w4 (hz.new xa (by omega))
end
theorem Qw{s:Str}{k:Nat}(h:Utf s)(j:∀c,(s.drop k).head?=some c->c.toNat<128):Utf (s.drop k):=by
 cases hd:s.drop k with
 |nil=>exact .nil
 |cons c b=>exact(Bg h hd (j c (by rw[hd];rfl))).2
theorem Bf{s:Str}{k:Nat}(h:Utf s)(I:s[k]?=some c)(o:c.toNat<128):Utf (s.drop (k+1)):=by
 obtain⟨j,e⟩:=List.getElem?_eq_some_iff.1 I;have hd:=iZ j;rw[e]at hd;exact vP (Bg h hd o).2 o
theorem Eo(q:UInt8->Bool):∀(s:Str) (b:UInt8),(s.drop (eS q s)).head?=some b->q b=false
 |[],b,h=>by simp[eS]at h
 |c::r,b,h=>by
  simp only[eS]at h
  by_cases j:q c=true
  ·rw[aJ j,cU]at h;exact Eo q r b h
  ·rw[aE j]at h
   simp only[cZ,List.head?_cons,bF]at h
   rw[<-h];simpa using j
theorem JI(q:UInt8->Bool):∀(s:Str) (k:Nat),eS q s=k+1->∃c,s[k]?=some c/\q c=true
 |[],k,h=>by simp[eS]at h
 |c::r,k,h=>by
  simp only[eS]at h
  by_cases j:q c=true
  ·rw[aJ j]at h
   cases k with
   |zero=>exact⟨c,rfl,j⟩
   |succ k=>
    obtain⟨x,h1,o⟩:=JI q r k (by omega)
    exact⟨x,by simpa using h1,o⟩
  ·rw[aE j]at h;omega
theorem NO:∀(s:Str) (i:Nat),Lib.index s [42,47]=(i:Int)->s[i+1]?=some 47
 |[],i,h=>by
  unfold Lib.index at h
  simp at h
 |b::l,i,h=>by
  unfold Lib.index at h
  split at h
  ·rename_i hp
   have hi:i=0:=by omega
   subst hi
   cases l with
   |nil=>simp[List.isPrefixOf]at hp
   |cons c l=>
    simp only[List.isPrefixOf,aL,fV,iC]at hp
    simp[hp.2]
  ·split at h
   ·omega
   ·rename_i j
    have h1:Lib.index l [42,47]≠-1:=by simpa using j
    have o:=Lib.index_ge l [42,47]
    have:=NO l (i-1) (by omega)
    have hi:1<=i:=by omega
    rw[show i-1+1=i by omega]at this
    simpa using this
theorem OF{s:Str}(h:Utf s):Utf (s.drop (eS (λb=>b !=10) s)):=
 Qw h λc j=>by
  have:=Eo _ _ _ j
  have:c=10:=by simpa using this
  subst this;decide
theorem Bo:∀(n:Nat) (s:Str),Utf s->Utf (s.drop (fW n s).1)
 |0,s,h=>by simpa[fW]using h
 |n+1,[],h=>by simpa[fW]using h
 |n+1,c::r,h=>by
  rw[GA]
  split
  ·rename_i hb
   have U:c.toNat<128:=by
    simp only[cQ,fV]at hb;rcases hb with(rfl|rfl)|rfl<;>decide
   rw[cU];exact Bo n r (vP h U)
  split
  ·have:=Bo n _ (OF h);rw[gA]at this;rw[rH];exact this
  split
  ·rename_i hp;split
   ·simpa using h
   ·rename_i hn;obtain⟨j,o⟩:=Int.eq_ofNat_of_zero_le (show 0<=Lib.index (r.drop 1) [42,47]by omega);have I:=NO _ _ o;have J:Utf ((c::r).drop ((Lib.index (r.drop 1) [42,47]).toNat+4)):=by
     rw[o,aW];refine Bf (k:=j+3) (c:=47) h ?_ (by decide);rw[List.getElem?_drop]at I;rw[List.getElem?_cons_succ,<-I];congr 1;omega
    have:=Bo n _ J;rw[gA]at this;rw[rH];exact this
  ·simpa using h
theorem Fo:∀(n:Nat) (name s:Str) (c:UInt8),(mV n name s).2.2=0->(s.drop (mV n name s).2.1).head?=some c->c=10
 |0,_,_,_,h,_=>by simp[mV]at h
 |n+1,name,s,c,h,j=>by
  rw[Hm]at h j
  split at h
  ·rename_i h1
   rw[aJ h1]at j
   have:=Eo _ _ _ j
   simpa using this
  rename_i h1
  rw[aE h1]at j
  split at h
  ·cases h
  rename_i I
  rw[aE I]at j
  split at h
  ·rename_i o
   rw[aJ o]at j
   refine Fo n name _ c o ?_
   rw[gA]
   rw[show eS (λb=>b !=10) s+1+(mV n name (s.drop (eS (λb=>b !=10) s+1))).2.1=(mV n name (s.drop (eS (λb=>b !=10) s+1))).2.1+(eS (λb=>b !=10) s+1)by omega]
   exact j
  ·rename_i o;exact absurd h o
theorem IN{s:Str}(h:(iR s).2.2=0)(j:(s.drop (iR s).2.1).head?=some c):c=10:=by
 unfold iR at h j;simp only at h j;generalize (if jR ((s.drop 2).headD 0)=true then eS jV (s.drop 2)else 0)=n at h j;split at h
 ·cases h
 rename_i h1;rw[aE h1]at j;split at h
 ·rename_i I;rw[aJ I]at j;split at h
  ·rename_i o;rw[aJ o]at j;refine Fo _ _ _ c o ?_;rw[gA,rH];exact j
  ·rename_i o;exact absurd h o
 ·cases h
theorem Kl(h:jV c=true):c.toNat<128:=by
 have:∀m:Fin 256,jV (UInt8.ofNat m.val)=true->(UInt8.ofNat m.val).toNat<128:=by decide+kernel
 have j:=this ⟨c.toNat,uD c⟩;rw[sZ]at j;exact j h
theorem Qc(h:jL c=true):c.toNat<128:=Kl (by unfold jV;rw[h];simp)
theorem QT(h:Cd.contains c=true):c.toNat<128:=by
 have:∀m:Fin 256,Cd.contains (UInt8.ofNat m.val)=true->(UInt8.ofNat m.val).toNat<128:=by decide+kernel
 have j:=this ⟨c.toNat,uD c⟩;rw[sZ]at j;exact j h
theorem OR{x:Str}(h:yQ.contains x=true):x.length=2/\∃c,x[1]?=some c/\c.toNat<128:=by
 have:x∈yQ:=by simpa using h
 simp only[yQ,bM,eA,mO]at this;rcases this with rfl|rfl|rfl|rfl|rfl|rfl<;>exact⟨rfl,_,rfl,by decide⟩
theorem Wq{r:Str}(h:Utf (c::r))(h0:(pR (c::r)).2.2=0):Utf ((c::r).drop (pR (c::r)).2.1):=by
 have run:∀q:UInt8->Bool,(∀c,q c=true->c.toNat<128)->Utf ((c::r).drop (eS q (c::r))):=λq o=>by
  cases I:eS q (c::r)with
  |zero=>exact h
  |succ k=>
   obtain⟨x,h1,U⟩:=JI q _ _ I;exact Bf h h1 (o x U)
 rw[Kd]at h0⊢;split
 ·rename_i e;have e:c=10:=by simpa using e
  exact vP h (by rw[e];decide)
 rename_i n1;rw[aE n1]at h0;split
 ·exact run _ λc=>Kl
 rename_i n2;rw[aE n2]at h0;split
 ·exact run _ λc=>Qc
 rename_i n3;rw[aE n3]at h0;split
 ·rename_i e;rw[aJ e]at h0;split
  ·rename_i h1;rw[uL (by simp only[aB];omega)]at h1⊢;have hf:=Ef h1;have J:=yL _ r 0 _ (aV _) (fZ rfl h1:gL r 0=((gL r 0).1,0));refine Bf (c:=34) h ?_ (by decide);rw[show(gL r 0).1=(gL r 0).1-1+1 by omega,List.getElem?_cons_succ];exact J
  ·rename_i h1;rw[aE h1]at h0;exact absurd h0 h1
 rename_i n4;rw[aE n4]at h0;split
 ·rename_i h1;rw[aJ h1]at h0;exact Qw h λx j=>by rw[IN h0 j];decide
 rename_i n5;rw[aE n5]at h0;show Utf ((c::r).drop (vX (c::r)).length);unfold vX;split
 ·rename_i h1;obtain⟨e1,x,e2,e3⟩:=OR h1;rw[e1];refine Bf (k:=1) (c:=x) h ?_ e3;rw[<-e2,List.getElem?_take_of_lt (by omega)]
 split
 ·rename_i h1;exact vP h (QT h1)
 ·exact h
theorem Lw{s:Str}:∀(n i:Nat),s.length<n+i->Gh n s i=none->Utf (s.drop i)
 |0,i,hl,_=>by rw[fH (by omega)];exact .nil
 |n+1,i,hl,h=>by
  rw[Gh]at h
  split at h
  ·rename_i hi;rw[fH hi];exact .nil
  split at h
  ·cases h
  ·rename_i hi h0
   have j:lF s i=iP s i:=by unfold lF;omega
   rw[j]at h
   have:=Utf.cons (Rn.of h0) (Lw n (i+iP s i) (by omega) h)
   rwa[<-gY,iH]at this
theorem Tu{s:Str}(h:iP s i=0):Lib.hasPrefix (s.drop i) [239,191,189]=false:=by
 rw[Bool.eq_false_iff];intro hp;obtain⟨r,j⟩:=Gp.1 hp;have hn:Rn [239,191,189]:=⟨by decide,by decide⟩;have:=hn.at j.symm;rw[h]at this;cases this
theorem PO{s:Str}(h:TD s i n 65533):Lib.hasPrefix (s.drop i) [239,191,189]=true:=by
 have hb:=h.bytes;refine Gp.2 ?_;have e:Lib.encodeRune ((65533:Nat):Int)=[239,191,189]:=by decide
 rw[e]at hb;rw[hb];exact List.take_prefix _ _
def OT(acc:List Tok):RS->RS
 |.ok l=>.ok (acc++l)
 |.bad c a=>.bad c a
theorem OS(acc:List Tok)(t:Tok)(x:RS):OT acc (match x with|.ok l=>.ok (t::l)|x=>x)=OT (acc++[t]) x:=by
 cases x<;>simp[OT]
theorem Jo(a:List Tok)(t:Tok):toks (a++[t])=toks a++fS t:=by simp[toks,fS]
section
variable [HX]
theorem aAv:aAf:=by
 intro w K s hT hl hk j;refine aC2 ?_;unfold W26;rw[gC,mB,aO];unfold rC at hk j;have bad:∀{w1:World} (c:Int) (i:Nat) {K':Q0},(∀d w',Ext w w'->w.heap.size<=d->w'.heap[d]?=some (.cells [i64 c,str [],i64 (i:Nat)].toArray 53 (0,0))->K (.tuple #[.slice none 0 0,.pointer (some ⟨d,0,none⟩)]) w')->Ext w w1->
   eW 53 (.agg [i64 c,str [],i64 (i:Nat)].toArray) w1 λt16 w2=>K (.tuple #[.slice none 0 0,t16]) w2:=by
  intro w1 c i _ h hx;refine fY (z:=[i64 c,str [],i64 (i:Nat)]) λd w2 hd hz yl yd=>?_;have:=hx.size;exact h d w2 (hx.trans yd) (by omega) yl
 refine⟨λh=>?_,λh=>?_⟩
 ·rw[aJ (by omega)]at j;simp only[dI,eY,aB,aN,aY,bB,Nat.reduceAdd,Nat.reduceLT,dV,aA];exact bad (K':=K) 3 0 (λd w'=>j 3 0 rfl d w') (Chg.refl _ _)
 have zj:s.length<=16384:=by omega
 rw[aE (by omega)]at hk j;generalize hB:Gh (s.length+1) s 0=Bd at hk j;refine EM ?_;refine cY.go (λst w5=>∃p m,p<=s.length/\st=[]/\w5.heap[w.heap.size]?=some (.stringIter (ofL s) p)/\Ext w w5/\Gh m s p=Bd/\s.length<m+p)
  (λ_ w5=>match w5.heap[w.heap.size]? with|some (.stringIter _ p)=>s.length-p|_=>0)
  ⟨0,s.length+1,fR _,rfl,gN _ _ _ rfl,Chg.alloc (Chg.refl _ _) _,hB,by omega⟩ ?_
 rintro st g w5 ⟨p,m,hp,rfl,xv,xo,hh,hm⟩;obtain⟨m,rfl⟩:∃k,m=k+1:=⟨m-1,by omega⟩;rw[Gh]at hh;have zd:=xo.size;refine Hf xv (λyf=>?_) (λxe w6 hy yn zc=>?_)
 ·
  rw[bL];refine⟨.bool false,rfl,?_⟩;rw[cP];rw[aJ yf]at hh;subst hh;simp only at hk j;have hU:Utf s:=by
   have:=Lw (s:=s) (s.length+1) 0 (by omega) hB;rwa[cZ]at this
  generalize hR:nQ (s.length+1) s 0 0=R0 at hk j;refine cY.go (λst w7=>∃(i m:Nat) (acc:List Tok) (v:Value),st=[v,i64 (i:Nat)]/\i<=s.length/\Utf (s.drop i)/\Ext w w7/\Own w7 w.heap.size TkT 3 v acc.length (toks acc)/\OT acc (nQ m (s.drop i) i acc.length)=R0/\s.length<m+i/\acc.length<=4096)
   (λst _=>match st with|[_,.int _ i]=>s.length-i.toNat|_=>0)
   ⟨0,s.length+1,[],_,rfl,fR _,by rw[cZ];exact hU,xo,⟨by simp[toks],.inl ⟨rfl,rfl⟩⟩,by rw[cZ,aN,hR];cases R0<;>rfl,by omega,by simp⟩ ?_
  rintro st g2 w7 ⟨i,m2,acc,v,rfl,hi,hu,xc,hO,hr,zi,yw⟩;obtain⟨m2,rfl⟩:∃k,m2=k+1:=⟨m2-1,by omega⟩;simp only[nQ]at hr;simp only[aG,cS];have zb:=xc.size;have zf:(s.drop i).length=s.length-i:=aP;rw[gB,fM,eR];refine⟨by omega,by omega,?_⟩;rw[bR,aW];refine aAs (hT.ext xc) (by omega) ?_;have hv:=Bo ((s.drop i).length+1) _ hu;have yi:=wZ ((s.drop i).length+1) (s.drop i);rw[gA]at hv hr;generalize fW ((s.drop i).length+1) (s.drop i)=k at*
  obtain⟨k,kc⟩:=k;simp only at hv yi hr⊢;rw[bL];refine⟨_,rfl,?_⟩;rw[bL];refine⟨_,rfl,?_⟩;rw[cI,cN (by omega) (by omega),show(i:Int)+(k:Nat)=((i+k:Nat):Int)by omega,bO];simp only[fQ];refine GdW.look (decide (i+k=s.length)) (λ_ J hJ=>?_) λg3=>?_
  ·rw[gC,bO,show decide (((i+k:Nat):Int)=((s.length:Nat):Int))=decide (i+k=s.length)by rw[decide_eq_decide];omega];exact hJ
  simp only[aG];rw[fK,bY];refine⟨λxh=>?_,λxf=>?_⟩
  ·simp only[aL,decide_eq_true_iff]at xh;rw[aE (by rw[xh.1];simp),aJ (List.drop_eq_nil_of_le (by omega))]at hr;simp only[dI,eY,aB,aN,aY,bB,Nat.reduceAdd,Nat.reduceLT,dV,aA];rw[cW];refine BU (d:=fS ⟨0,[],((i+k:Nat):Int)⟩) rfl rfl λb w8 hb yc xq hj=>?_;refine iF ZW (hO.ext hj) (sS (n:=1) xq) rfl (λu hu=>by simp only[fS,bM,eA,mO]at hu;rcases hu with rfl|rfl|rfl<;>rfl) (by omega) (by omega) (by have:=hj.size;omega) λv' w9 U ym ze=>?_;have e:toks acc++fS ⟨0,[],((i+k:Nat):Int)⟩=toks (acc++[⟨0,[],((i+k:Nat):Int)⟩]):=(Jo _ _).symm;rw[e]at U;have I:Ext w w9:=(xc.trans hj).then ym λq hq e=>by have:=(rP hO e).2;omega
   refine hk (acc++[⟨0,[],((i+k:Nat):Int)⟩]) (by rw[<-hr];rfl) v' w9 I (by rw[aU];exact U.sl) λq hq=>⟨(rP U hq).2,(rP U hq).1⟩
  ·have xf:¬(kc=0/\i+k=s.length):=by
    rintro⟨h1,h2⟩;rw[h1,h2]at xf;simp at xf
   refine bI λa w8 ha yc xk hj=>?_;have ho:=xc.trans hj;refine bU.cut (λst w9=>Ext w w9/\Own w9 w.heap.size TkT 3 v acc.length (toks acc)/\w8.heap.size<=w9.heap.size/\v.ownBlock≠some a/\∃(t:Tok) (n:Nat) (e:Int),st=[i64 e,i64 (n:Nat)]/\w9.heap[a]?=some (.cells (fS t).toArray TkT (0,0))/\
    ((e≠0/\R0=.bad e ((i+k:Nat):Int))\/(e=0/\1<=n/\i+k+n<=s.length/\Utf (s.drop (i+k+n))/\OT acc (if acc.length=4096 then .bad 3 ((i+k:Nat):Int)else match nQ m2 (s.drop (i+k+n)) (i+k+n) (acc.length+1)with|.ok l=>.ok (⟨t.k,t.t,((i+k:Nat):Int)⟩::l)|x=>x)=R0))) ?_ ?_
   ·have ht:v.ownBlock≠some a:=λe=>by have:=(rP hO e).1;omega
    rw[bO,aO];refine⟨λh0=>?_,λh0=>?_⟩
    ·rw[aE (by rw[h0];simp)]at hr;have yh:i+k<s.length:=by
      rcases dR (i+k) s.length with h|h
      ·exact h
      ·exact absurd ⟨h0,by omega⟩ xf
     have hd:=iZ yh;rw[aE (λe=>by rw[hd]at e;cases e)]at hr;rw[gB,fM,eR];refine⟨by omega,by omega,?_⟩;rw[bR,aW];have zh:(s.drop (i+k+1)).length=s.length-(i+k+1):=aP;rw[hd]at hr hv⊢;generalize s[i+k]=c at*
     generalize zg:s.drop (i+k+1)=r at*
     refine aDU (hT.ext ho) hv (by omega) λw9 I=>?_;rw[bL];refine⟨_,rfl,?_⟩;rw[bL];refine⟨_,rfl,?_⟩;rw[bL];refine⟨_,rfl,?_⟩;have xt:=Wq hv;have xu:=@IB (c::r);generalize pR (c::r)=o at*
     obtain⟨t,n,e⟩:=o;simp only at xt hr⊢;refine cK (l:=fS t) (I.at xk id) rfl rfl rfl λw10 yr xl xj=>?_;have U:=(hO.ext hj).ext I;refine⟨(ho.trans I).new xj (by omega),jO U xj λq hq e=>ht (e▸hq),by have:=I.size;omega,ht,?_⟩;by_cases he:e=0
     ·subst he;rw[aE (by simp)]at hr;obtain⟨n1,n2,_⟩:=xu (t:=t) (k:=n) (by simp) rfl;simp only[aB]at n2;refine⟨t,n,0,rfl,xl,.inr ⟨rfl,n1,by omega,?_,?_⟩⟩
      ·rw[<-gA,hd];exact xt rfl
      ·rw[<-gA,hd];exact hr
     ·rw[aJ he]at hr;exact⟨t,n,e,rfl,xl,.inl ⟨he,hr.symm⟩⟩
    ·rw[aJ h0]at hr;exact⟨ho,hO.ext hj,aV _,ht,⟨0,[],0⟩,0,kc,rfl,xk,.inl ⟨h0,hr.symm⟩⟩
   rintro st g4 w9 ⟨I,U,za,ht,t,n,e,rfl,yo,hcase⟩;simp only[aG,cS];refine bU.cut (λst w'=>w'=w9/\∃e':Int,st=[i64 e']/\((e'≠0/\R0=.bad e' ((i+k:Nat):Int))\/(e'=0/\1<=n/\i+k+n<=s.length/\Utf (s.drop (i+k+n))/\acc.length<4096/\OT acc (match nQ m2 (s.drop (i+k+n)) (i+k+n) (acc.length+1)with|.ok l=>.ok (⟨t.k,t.t,((i+k:Nat):Int)⟩::l)|x=>x)=R0))) ?_ ?_
   ·rw[bO];simp only[fQ];refine GdW.look (decide (acc.length=4096)) (λ_ J hJ=>?_) λg5=>?_
    ·obtain⟨q,cap,ev,_⟩:=U.sl.shape;rw[ev,xJ,bO,show decide (((acc.length:Nat):Int)=4096)=decide (acc.length=4096)by rw[decide_eq_decide];omega];exact hJ
    simp only[aG];rw[fK,bY];refine⟨λhb=>?_,λhb=>?_⟩
    ·simp only[aL,decide_eq_true_iff]at hb;refine⟨trivial,3,rfl,.inl ⟨by decide,?_⟩⟩;rcases hcase with⟨h1,h2⟩|⟨h1,h2,h3,h4,h5⟩
     ·exact absurd hb.1 h1
     ·rw[aJ hb.2]at h5;exact h5.symm
    ·refine⟨trivial,e,rfl,?_⟩;rcases hcase with h|⟨h1,h2,h3,h4,h5⟩
     ·exact .inl h
     ·have:acc.length≠4096:=λh=>by rw[h1,h]at hb;simp at hb
      rw[aE this]at h5;exact .inr ⟨h1,h2,h3,h4,by omega,h5⟩
   rintro st g5 w10 ⟨rfl,e',rfl,hcase⟩;simp only[aG];rw[gD,aO];refine⟨λyg=>?_,λheq=>?_⟩
   ·rcases hcase with⟨h1,h2⟩|⟨h1,_⟩
    ·simp only[dI,eY,aB,aN,aY,bB,Nat.reduceAdd,Nat.reduceLT,dV,aA];exact bad (K':=K) e' (i+k) (λd w'=>j e' _ h2 d w') I
    ·exact absurd h1 yg
   ·rcases hcase with⟨h1,_⟩|⟨h1,n1,n2,ye,zk,hr⟩
    ·exact absurd (by simpa using heq) h1
    rw[bT,bW,aX];refine iO yo rfl (by simp[fS]) λw11 yq xa xi=>?_;have xa:w11.heap[a]?=some (.cells (fS ⟨t.k,t.t,((i+k:Nat):Int)⟩).toArray TkT (0,0)):=by rw[xa];simp[fS]
    have xn:=jO U xi λq hq e=>ht (e▸hq);have xg:=I.new xi (by omega);refine bZ xa rfl ?_;refine BU (d:=fS ⟨t.k,t.t,((i+k:Nat):Int)⟩) rfl rfl λb w12 hb yp xq hs=>?_;refine iF ZW (xn.ext hs) (sS (n:=1) xq) rfl (λu hu=>by simp only[fS,bM,eA,mO]at hu;rcases hu with rfl|rfl|rfl<;>rfl) (by omega) (by omega) (by have:=xg.size;have:=hs.size;omega) λv' w13 xm xy yt=>?_;rw[<-Jo]at xm;rw[cI,cN (by omega) (by omega)];refine⟨⟨i+k+n,m2,acc++[⟨t.k,t.t,((i+k:Nat):Int)⟩],v',by simp only[dX,Value.int.injEq,dV,lP];omega,by omega,ye,(xg.trans hs).then xy λq hq e=>?_,by rw[aU];exact xm,?_,by omega,by rw[aU,aB,aN];omega⟩,?_⟩
    ·have:=(rP xn e).2;omega
    ·rw[aU,<-OS];exact hr
    ·simp only[aW];omega
 ·
  have yj:¬s.length<=p:=by omega
  rw[aE yj]at hh;have xr:Ext w w6:=xo.then yn λq hq e=>by have e:q=w.heap.size:=e;omega
  rw[bL];refine⟨.bool true,rfl,?_⟩;rw[dS,bL];refine⟨i64 (p:Nat),rfl,?_⟩;rw[bL];refine⟨_,rfl,?_⟩;have xx:(Utf8.decode (ofL s) p).1=65533/\Lib.hasPrefix (s.drop p) [239,191,189]=false↔iP s p=0:=by
   constructor
   ·rintro⟨h1,h2⟩;by_cases h0:iP s p=0
    ·exact h0
    ·obtain⟨c,hc⟩:=wA xe h0;have hd:=hc.dec;rw[hd]at h1;have h1:c=65533:=h1;subst h1;rw[PO hc]at h2;cases h2
   ·intro h0;rw[JG xe h0];exact⟨rfl,Tu h0⟩
  rw[Lc xe]at hy;generalize (Utf8.decode (ofL s) p).1=c at*
  rw[bO,show decide (((c:Nat):Int)=65533)=decide (c=65533)by rw[decide_eq_decide];omega];simp only[fQ];refine GdW.look (!Lib.hasPrefix (s.drop p) [239,191,189]) (λ_ J hJ=>?_) λg3=>?_
  ·rw[gB,fM,eR];refine⟨by omega,by omega,?_⟩;rw[bR,aW];refine AV ?_;rw[eP];exact hJ
  simp only[aG];rw[fK,bY];refine⟨λhb=>?_,λhb=>?_⟩
  ·have h0:iP s p=0:=xx.1 (by simpa using hb);rw[aJ h0]at hh;subst hh;simp only[dI,eY,aB,aN,aY,bB,Nat.reduceAdd,Nat.reduceLT,dV,aA];exact bad (K':=K) 31 p (λd w'=>j 31 _ rfl d w') xr
  ·have h0:iP s p≠0:=λh=>by
    have:=xx.2 h;rw[bH this.1,this.2]at hb;cases hb
   rw[aE h0]at hh;have xw:=Cc xe;have yu:=Bm s p;refine⟨⟨p+lF s p,m,xw,trivial,hy,xr,hh,by omega⟩,?_⟩;rw[hy,xv];show s.length-(p+lF s p)<s.length-p;omega
end
abbrev DgT:TypeId:=53
def PQ:Syn.PR->Fl
 |.ok f=>f
 |.bad _ _=>⟨[],[],[]⟩
def okP:Syn.PR->Bool
 |.ok _=>true
 |.bad _ _=>false
def Zz(w:World)(d:Value):Syn.PR->Prop
 |.ok _=>d=.pointer none
 |.bad c a=>∃b,d=.pointer (some ⟨b,0,none⟩)/\w.heap[b]?=some (.cells [i64 c,str [],i64 a].toArray DgT (0,0))
theorem Zz.eq{d:Value}{r:Syn.PR}(h:Zz w d r)(n:Bool)(K:Value->Prop):eqW .ptr n d (.pointer none) K↔K (.bool (n^^okP r)):=by
 cases r with
 |ok f=>have h:d=.pointer none:=h;rw[h];cases n<;>exact gO
 |bad c a=>obtain⟨b,rfl,_⟩:=h;cases n<;>exact gO
theorem aBU(w:World)(B:Nat):FO w B ⟨.slice none 0 0,.slice none 0 0,.slice none 0 0,[],[]⟩ ⟨[],[],[]⟩:=
 ⟨⟨by simp,.inl ⟨rfl,rfl⟩⟩,⟨by simp,.inl ⟨rfl,rfl⟩⟩,⟨by simp[ints],.inl ⟨rfl,rfl⟩⟩,pI.nil _ _,pI.nil _ _,List.nodup_nil,λk j=>by simp[ub,Value.ownBlock]at j,λk j=>by simp[ub,Value.ownBlock]at j⟩
def isP(r:Syn.PR)(code a:Int):Bool:=match r with
 |.ok _=>decide (code=0)
 |.bad c i=>decide (code≠0)&&decide (c=code)&&decide (i=a)
section
variable [HX]
theorem Wn{t:Str}{K:Q0}(hT:zM w)(hl:t.length<=1000000)
  (o:∀M d w',Ext w w'->FO w' w.heap.size M (PQ (parseM t))->Zz w' d (parseM t)->((PQ (parseM t)).ex.length<=100000/\(PQ (parseM t)).bl.length<=100000/\(PQ (parseM t)).top.length<=100000)->K (.tuple #[.agg [M.vE,M.vB,M.vT].toArray,d]) w'):aC P0 10 [str t] w K:=by
 refine Wo (λ{_}=>aAv) hT hl (λfl h M w' I U j=>?_) (λc a h d w' I hd J=>?_)
 ·rw[h]at o;exact o M _ w' I U rfl j
 ·rw[h]at o;exact o ⟨.slice none 0 0,.slice none 0 0,.slice none 0 0,[],[]⟩ _ w' I (aBU _ _) ⟨d,rfl,J⟩ (by simp[PQ])
theorem aDZ{d:Value}{r:Syn.PR}{code a:Int}{K:Q0}(h:Zz w d r)(j:K (.bool (isP r code a)) w):aC P0 25 [d,i64 code,i64 a] w K:=by
 refine aC3 ?_;unfold W25;rw[bO,aO];refine⟨λe=>?_,λe=>?_⟩
 ·rw[h.eq];cases r with
  |ok f=>simp only[isP,e,aI,okP]at j⊢;exact j
  |bad e1 i=>simp only[isP,e,bP,not_true,aH,Ay,okP]at j⊢;exact j
 ·rw[h.eq];cases r with
  |ok f=>
   simp only[isP,cH e,okP,Bool.xor_self]at j⊢;simp only[fQ,mI,AL,aG,tK];intros;exact j
  |bad e1 i=>
   obtain⟨b,rfl,hb⟩:=h;simp only[isP,bH e,okP,Bool.xor_false,iB,bP]at j⊢;have ld:∀{off:Nat} {v:Value} {K:Value->Prop},[i64 e1,str [],i64 i][off]?=some v->K v->eF (.pointer (some ⟨b,0,none⟩)) λt=>aZ off t λt=>ldW false 1 t w K:=λI U=>by
    rw[eD,bT,dY];refine⟨_,?_,U⟩;rw[bW,cG,hb,cJ,aX];simpa using I
   refine GdW.act (decide (e1=code)) (λw'=>w'=w) (λe=>by cases e) ?_ ?_
   ·intro _ J o;refine ld rfl ?_;rw[bO];exact o _ rfl
   rintro g w2 rfl;simp only[aM,aG,lH,fQ];refine GdW.act (decide (i=a)) (λw'=>w'=w2) (λ_=>rfl) ?_ ?_
   ·intro _ J o;refine ld rfl ?_;rw[bO];exact o _ rfl
   rintro g2 w3 rfl;simp only[aG];rw[fK];simp only[fQ];refine GdW.act true (λw'=>w'=w3) (λ_=>rfl) ?_ ?_
   ·intro _ J o;refine ld rfl ?_;rw[sL];exact o _ rfl
   rintro g3 w4 rfl;simp only[aG];rw[fK,iC];simpa using j
end
def ex1:Str:=[114,32,34,116,34,32,34,110,34,32,123,32,120,32,61,32,49,32,43,32,121,46,122,32,125]
section
variable [HX]
end
end
section
open Go Go.Eng Go.RowKit Go.Syn Go.Lex
def cnt(n:Nat)(l:List Nat):List Nat:=(List.range n).map λj=>l.count j
section
variable [HX]
end
variable{w0 w w':World}{B a ea eb:Nat}{M:Lay}{fl:Fl}{lE lB:List Nat}
end
section
open Go Go.Eng Go.RowKit Go.Syn Go.Lex
variable{w:World}{K:Q0}{cs:List Value}{G:Nat->Prop}{T:TypeId}{i:Nat}{n:Nat}{v:Value}{w':World}{P:Program}{c:UInt8}{S:Nat->Prop}
theorem HK{w:World}{b o:Nat}{c:Array Value}{T:TypeId}{fr:Nat×Nat}{d:List Value}(hb:w.heap[b]?=some (.cells c T fr))(hd:∀j,j<d.length->c[o+j]?=d[j]?):∀(n i:Nat),i+n=d.length->kI w ⟨b,o,none⟩ i n=some (d.drop i)
 |0,i,h=>by simp only[kI];rw[fH (by omega)]
 |n+1,i,h=>by
  have hi:i<d.length:=by omega
  simp only[kI,bW,cG,hb,cJ,hd i hi,List.getElem?_eq_getElem hi]
  rw[HK hb hd n (i+1) (by omega)]
  simp
theorem WO{size:Nat}{d:List Value}{k:IntKind}{K:Value->Prop}(h:SlAt w T v n cs)(hl:cs.length=n*size)(I:0<size)(hi:i<n)(hd:(cs.drop (i*size)).take size=d)(hK:K (.agg d.toArray)):
  dP none size v (.int k i) λt=>ldW true size t w K:=by
 have J:i*size+size<=n*size:=by rw[<-FZ];exact dM _ hi
 have U:d.length=size:=by rw[<-hd,bS,aP];omega
 refine rR h hl I hi λb o c fr hb hc=>?_;rw[EY];refine⟨d,?_,hK⟩;have:=HK (d:=d) hb (λj hj=>by rw[hc j (by omega),<-hd,List.getElem?_take_of_lt (by omega),List.getElem?_drop]) size 0 (by omega);simpa using this
variable [HX]
end
section
open Go Go.Eng Go.RowKit Go.Syn Go.Lex
variable{w:World}{K:Q0}{cs:List Value}{G:Nat->Prop}{T:TypeId}{i:Nat}{n:Nat}{v:Value}{w':World}{P:Program}{c:UInt8}{S:Nat->Prop}
theorem aDu{a:Int}{m:Nat}(hm:0<m)(I:m<1000):∃n:Nat,n<m/\IntKind.i64.wrap ((IntKind.u64.wrap a).tmod (m:Nat))=(n:Int):=by
 obtain⟨u,o⟩:∃u:Nat,IntKind.u64.wrap a=(u:Int):=⟨(IntKind.u64.wrap a).toNat,by rw[IntKind.wrap_u64];omega⟩;have j:=Nat.mod_lt u hm;refine⟨u%m,j,?_⟩;have e:((u:Nat):Int).tmod (m:Nat)=((u%m:Nat):Int):=by rw[uG (by omega)];omega
 rw[o,e,cN (by omega) (by omega)]
section
variable [HX]
end
def ExV(w:World)(e:Ex)(c:List Value):Prop:=
 ∃va vk,c=[i64 e.k,str e.t,va,vk,i64 e.a]/\SlAt w jD va e.args.length (ints e.args)/\SlAt w StT vk e.keys.length (strs e.keys)
def BkV(w:World)(b:Blk)(c:List Value):Prop:=
 ∃vl va vb,c=[str b.typ,vl,va,vb,i64 b.a]/\SlAt w StT vl b.labels.length (strs b.labels)/\SlAt w AtT va b.attrs.length (Qm b.attrs)/\SlAt w jD vb b.blocks.length (ints b.blocks)
structure FV(w:World)(M:Lay)(fl:Fl):Prop where
 oE:SlAt w ExT M.vE fl.ex.length M.cE
 oB:SlAt w BkT M.vB fl.bl.length M.cB
 oT:SlAt w jD M.vT fl.top.length (ints fl.top)
 ee:pI (ExV w) 5 fl.ex M.cE
 bb:pI (BkV w) 5 fl.bl M.cB
theorem FO.fv{B:Nat}{M:Lay}{fl:Fl}(h:FO w B M fl):FV w M fl:=
 ⟨h.oE.sl,h.oB.sl,h.oT.sl,h.ee.imp λ_ _ _ ⟨va,vk,e,h1,j⟩=>⟨va,vk,e,h1.sl,j.sl⟩,h.bb.imp λ_ _ _ ⟨vl,va,vb,e,h0,h1,j⟩=>⟨vl,va,vb,e,h0.sl,h1.sl,j.sl⟩⟩
theorem FV.ext{M:Lay}{fl:Fl}(h:FV w M fl)(j:Ext w w'):FV w' M fl:=
 ⟨h.oE.ext j,h.oB.ext j,h.oT.ext j,h.ee.imp λ_ _ _ ⟨va,vk,e,h1,o⟩=>⟨va,vk,e,h1.ext j,o.ext j⟩,h.bb.imp λ_ _ _ ⟨vl,va,vb,e,h0,h1,o⟩=>⟨vl,va,vb,e,h0.ext j,h1.ext j,o.ext j⟩⟩
section
variable [HX]
end
theorem eQ{b:Nat}{c:List Value}{off:Nat}{K:Value->Prop}(j:w.heap[b]?=some (.cells c.toArray T (0,0)))(o:c[off]?=some v)(I:K v):aZ off (.pointer (some ⟨b,0,none⟩)) λt=>ldW false 1 t w K:=by
 rw[bT,dY];refine⟨v,?_,I⟩;rw[bW,cG,j,cJ,aX,List.getElem?_toArray];exact o
section
variable [HX]
end
end
section
open Go Go.Eng Go.Num Go.RowKit Go.Syn
variable{w:World}{K:Q0}{cs:List Value}{G:Nat->Prop}{T:TypeId}{i:Nat}{n:Nat}{v:Value}{w':World}{P:Program}{c:UInt8}{S:Nat->Prop}
abbrev aEh:TypeId:=93
def AtC(t:Str)(a:Int)(cs:List Value):Prop:=∃k va vk,cs=[i64 k,str t,va,vk,i64 a]/\fC va=true/\fC vk=true
theorem Nh{t:Str}{a:Int}{K:Q0}(h:AtC t a cs)(J:∀b w' k va vk,cs=[i64 k,str t,va,vk,i64 a]->b=w.heap.size->w'.heap.size=w.heap.size+1->w'.heap[b]?=some (.cells [i64 k,str t,va,vk,i64 a].toArray aEh (0,0))->Ext w w'->K (.pointer (some ⟨b,0,none⟩)) w'):eW aEh (.agg cs.toArray) w K:=by
 obtain⟨k,va,vk,rfl,h1,U⟩:=h;exact fY λb w' hb o j I=>J b w' k va vk rfl hb o j I
theorem BW{v:JV}{w0:World}{K:Q0}(h:cM G w0 v cs)(J:∀b w' sv kv,cs=[i64 v.k,.bool v.b,str v.t,sv,kv]->b=w.heap.size->w'.heap.size=w.heap.size+1->w'.heap[b]?=some (.cells [i64 v.k,.bool v.b,str v.t,sv,kv].toArray VT (0,0))->Ext w w'->K (.pointer (some ⟨b,0,none⟩)) w'):eW VT (.agg cs.toArray) w K:=by
 obtain⟨sv,kv,T1,T2,L,rfl,_⟩:=h.rep.out;exact fY λb w' hb o j I=>J b w' sv kv rfl hb o j I
theorem cM.off{v:JV}{b:Nat}(h:cM G w v cs)(hb:w.heap.size<=b):cM (λq=>G q/\q≠b) w v cs:=h.mono λq o j=>⟨j,by omega⟩
theorem AF{w0:World}{b:Nat}{ds:List Value}{v:JV}{K:Q0}(hb:w.heap[b]?=some (.cells ds.toArray VT (0,0)))(hd:ds.length=5)(hl:w0.heap.size<=b)(I:Ext w0 w)(h:cM (λq=>G q/\q≠b) w v cs)
  (J:∀w',Ext w0 w'->cM G w' v cs->K (.agg cs.toArray) w'):stW 5 (.pointer (some ⟨b,0,none⟩)) (.agg cs.toArray) w λw5=>ldW true 5 (.pointer (some ⟨b,0,none⟩)) w5 λr6=>K r6 w5:=
 iI hb h.rep.len hd h.rep.all_one λw' o=>by
  refine J w' (I.new o hl) ?_
  exact(cM.chg o (λq j _ e=>j.2 e) h).mono λq _ j=>j.1
theorem Gt{v:JV}(h:cM G w v cs):∃sv kv T1 T2 L,cs=[i64 v.k,.bool v.b,str v.t,sv,kv]/\SlAt w T1 sv v.xs.length L/\cA G w v.xs L/\SlAt w T2 kv v.ks.length (v.ks.map str)/\Fits v.xs.length v.ks v.t/\(L≠[]->inG G sv)/\(v.ks.map str≠[]->inG G kv):=by
 cases v with
 |mk k b t xs ks=>simpa only[cM,JV.k,JV.b,JV.t,JV.xs,JV.ks]using h
structure jX(G:Nat->Prop)(w:World)(sv:Value)(xs:List JV):Prop where
 it:∃T L,SlAt w T sv xs.length L/\cA G w xs L/\(L≠[]->inG G sv)
 few:xs.length<=9223372036854775807
theorem jX.items{sv:Value}{xs:List JV}(h:jX G w sv xs):eH w sv xs:=⟨let⟨T,L,h1,j,_⟩:=h.it;⟨T,L,h1,j.rep⟩,h.few⟩
theorem jX.chg{sv:Value}{xs:List JV}(h:jX G w sv xs)(j:Chg S w w')(o:∀k,G k->k<w.heap.size->¬S k):jX G w' sv xs:=
 ⟨let⟨T,L,h1,J,I⟩:=h.it;⟨T,L,vV h1 I j o,cA.chg j o J,I⟩,h.few⟩
theorem jX.ext{sv:Value}{xs:List JV}(h:jX G w sv xs)(j:Ext w w'):jX G w' sv xs:=h.chg j λ_ _ _ e=>e
theorem jX.get{sv:Value}{xs:List JV}{k:IntKind}{x:JV}{K:Value->Prop}(h:jX G w sv xs)(hi:xs[i]?=some x)(hK:∀cs,cM G w x cs->K (.agg cs.toArray)):dP none 5 sv (.int k i) λp=>ldW true 5 p w K:=by
 obtain⟨T,L,h1,h2,_⟩:=h.it;obtain⟨cs,hc,hg⟩:=h2.get5 hi;have I:=h2.rep.len;refine rR (size:=5) h1 I (by omega) (List.getElem?_eq_some_iff.1 hi).1 λb o c fr hb J=>?_;exact pS hb hc.rep.len (λj U=>(J j U).trans (hg j U)) (hK cs hc)
theorem cM.its{v:JV}{a b c sv kv:Value}(h:cM G w v [a,b,c,sv,kv]):jX G w sv v.xs:=by
 cases v with
 |mk k b' t xs ks=>
  simp only[cM]at h;obtain⟨sv',kv',T1,T2,L,j,h1,J,h3,I,o,U⟩:=h;simp only[dX,lP]at j;obtain⟨_,_,_,rfl,rfl⟩:=j;exact⟨⟨T1,L,h1,J,o⟩,I.1⟩
section
variable [HX]
def Nl(w0:World)(code at_:Int):Prop:=
 ∀(d:Nat) (w':World),Ext w0 w'->w0.heap.size<=d->w'.heap[d]?=some (.cells [i64 code,str [],i64 at_].toArray 53 (0,0))->HX.X [{v:=.iface DT (.pointer (some ⟨d,0,none⟩)),recovered:=false}] w'
theorem mA{c a:Int}{w0:World}{K:Q0}(h:Ext w0 w)(o:Nl w0 c a):aC P0 57 [i64 c,i64 a] w K:=by
 refine aCJ ?_;unfold W57;simp only[dI,eY,cW,aB,aN,aY,bB];refine⟨by omega,by omega,?_⟩;refine fY (z:=[i64 c,str [],i64 a]) λd w' hd I hb j=>?_;exact o d w' (h.trans j) (by have:=h.size;omega) hb
def MdK(w0:World)(r:MdR JV)(G:Nat->Prop)(w:World)(K:Q0):Prop:=match r with
 |.ok v=>∀cs w',Ext w w'->cM G w' v cs->K (.agg cs.toArray) w'
 |.err c a=>Nl w0 c a
theorem MdK.ok{w0:World}{r:MdR JV}{K:Q0}{v:JV}(h:MdK w0 r G w K)(j:r=.ok v):∀cs w',Ext w w'->cM G w' v cs->K (.agg cs.toArray) w':=by subst j;exact h
theorem MdK.err{w0:World}{r:MdR JV}{K:Q0}{c a:Int}(h:MdK w0 r G w K)(j:r=.err c a):Nl w0 c a:=by subst j;exact h
theorem xU{v:JV}{K:Q0}(h:eX w v cs)(J:∀w',Ext w w'->w'.heap.size=w.heap.size+1->K (.bool (decide (v.k=1))) w'):aC P0 84 [.agg cs.toArray] w K:=by
 obtain⟨sv,kv,T1,T2,L,rfl,_⟩:=h.out;refine aCp ?_;unfold W84;refine fY λb w' hb o j I=>?_;refine eQ (off:=0) j rfl ?_;rw[bO];exact J w' I o
theorem Xj{v:JV}{k:Int}{p:Nat}{K:Q0}(hp:w.heap[p]?=some (.cells [i64 k].toArray 22 (0,0)))(h:eX w v cs)(hK:∀w',Ext w w'->K (.bool (!gQ k v)) w'):aC P0 156 [.agg cs.toArray,.pointer (some ⟨p,0,none⟩)] w K:=by
 have hr:=h;obtain⟨sv,kv,T1,T2,L,rfl,_⟩:=h.out;refine YH ?_;unfold aE3;refine fY λb w1 hb hz j U=>?_;refine eQ (off:=0) j rfl ?_;rw[dY];refine⟨i64 k,by rw[cG,U.at hp id];rfl,?_⟩;rw[gD,fQ];refine GdW.act (!decide (v.k=1)) (λw'=>Ext w1 w') (λ_=>Chg.refl _ _) ?_ ?_
 ·intro _ J hJ;refine bZ j rfl ?_;refine xU (hr.ext U) λw3 I _=>?_;rw[eP];exact hJ w3 I
 ·intro g w4 o;rw[aG,fK];have e:(decide (v.k≠k)&&!decide (v.k=1))=!gQ k v:=by
   unfold gQ;by_cases h1:v.k=k<;>by_cases h2:v.k=1<;>simp[h1,h2]
  rw[e];exact hK w4 (U.trans o)
theorem MQ{k:Int}{sv:Value}{xs:List JV}{K:Q0}(h:eH w sv xs)(hK:∀w',Ext w w'->K (.bool (xs.all (gQ k))) w'):aC P0 122 [i64 k,sv] w K:=by
 refine Zg ?_;unfold aFn;have bx:eW 22 (i64 k) w (λt2 w1=>aC P0 124 [sv,(.func (.func 156) #[] #[t2])] w1 λt7 w2=>unW .not t7 λt8=>K t8 w2):=by
  refine tW rfl λp w1 hp hz I U=>?_;refine AY (p:=λv=> !gQ k v) (h.ext U) ?_ λw2 o=>?_
  ·intro x hc cs w3 K j hr J;refine kD (caps:=[.pointer (some ⟨p,0,none⟩)]) ?_;exact Xj (j.at I id) hr J
  ·rw[eP];have e:(!(xs.any λv=> !gQ k v))=xs.all (gQ k):=by rw[<-List.not_all_eq_any_not];simp
   rw[e];exact hK w2 (U.trans o)
 exact bx
end
end
section
open Go Go.Eng Go.Num Go.RowKit
variable{w:World}{K:Q0}{cs:List Value}{G:Nat->Prop}{T:TypeId}{i:Nat}{n:Nat}{v:Value}{w':World}{P:Program}{c:UInt8}{S:Nat->Prop}
def XH(l:List (Str×JV)):JV:=l.foldl (λv p=>xD v p.1 p.2) (.mk 6 false [] [] [])
theorem TA(l:List (Str×JV))(p:Str×JV):XH (l++[p])=xD (XH l) p.1 p.2:=by
 unfold XH;rw[List.foldl_append];rfl
structure Jk(l m:List (Str×JV)):Prop where
 eq:XH l=mkO m
 rise:LF (m.map (·.1))
 len:m.length=l.length
 mem:∀p,p∈m↔p∈l
theorem Jk.keys{l m:List (Str×JV)}(h:Jk l m)(k:Str):k∈m.map (·.1)↔k∈l.map (·.1):=by
 simp only[dL];exact⟨λ⟨p,hp,e⟩=>⟨p,(h.mem p).1 hp,e⟩,λ⟨p,hp,e⟩=>⟨p,(h.mem p).2 hp,e⟩⟩
theorem Jk.nil:Jk [] []:=⟨rfl,List.Pairwise.nil,rfl,λ_=>gO⟩
theorem Jk.snoc{l m:List (Str×JV)}{p:Str×JV}(h:Jk l m)(j:p.1∉l.map (·.1)):Jk (l++[p]) (insP m p.1 p.2):=by
 have hm:p.1∉m.map (·.1):=λe=>j ((h.keys p.1).1 e);refine⟨by rw[TA,h.eq,Uu hm],Re h.rise hm,by rw[WW,h.len,aU];rfl,λq=>?_⟩;rw[NL,h.mem,dH,bK];exact⟨λe=>e.symm,λe=>e.symm⟩
theorem Hs{l:List (Str×JV)}{k:Str}:zC (mkO l) k=none↔k∉l.map (·.1):=by
 refine⟨λh=>SC (by rw[h];rfl),λh=>?_⟩;unfold zC;have:wL (mkO l).ks k=none:=Ai.2 h;rw[this];split<;>rfl
section
variable [HX]
theorem OC{ks:List Str}{xs:List JV}{kv xv:Value}{K:Q0}(j:SlAt w T kv ks.length (ks.map str))(hx:eH w xv xs)(hn:xs.length<=90000)
  (yi:∀s∈ks,s.length<=9223372036854775807)(hf:∀x∈xs,tR x=true)(hK:∀cs c w',Ext w w'->cM (yE w.heap.size) w' (BC ks xs) cs->K (.tuple #[.agg cs.toArray,i64 c]) w'):
  aC P0 90 [kv,xv] w K:=by
 refine aCk ?_;unfold W90;refine bI λq w1 hq yt xd xj=>?_;have s1:=xj.size;have ends:∀{v:JV} {cs:List Value} {c:Int} {w':World},BC ks xs=v->w'.heap[q]?=w1.heap[q]?->Ext w w'->cM (λk=>w.heap.size<=k/\k≠q) w' v cs->
   stW 5 (.pointer (some ⟨q,0,none⟩)) (.agg cs.toArray) w' λw4=>ldW true 5 (.pointer (some ⟨q,0,none⟩)) w4 λr5=>K (.tuple #[r5,i64 c]) w4:=λ{v cs c w'} hc yf hx hv=>by
  rw[hc]at hK;exact Er (w0:=w) (K:=λr w=>K (.tuple #[r,i64 c]) w) (by rw[yf];exact xd) rfl (by omega) hx hv λw'' xu yk=>hK _ _ w'' xu yk
 rw[(fL j _),hx.len,gD,aO];refine⟨λyg=>?_,λheq=>?_⟩
 ·rw[cW];exact ends (v:=JV.null) (cs:=flat 0 false []) (by unfold BC;rw[aE (λh=>yg (by rw[h.1]))]) rfl xj (gP (by simp))
 have heq:ks.length=xs.length:=by have:=tC.1 heq;omega
 simp only[dI,cW,aB,aN,aY];refine⟨by omega,?_⟩;refine bI λp w6 hp ys yj xi=>?_;refine cK (l:=[i64 6,.bool false,str [],.slice none 0 0,.slice none 0 0]) yj rfl rfl rfl λw7 yr xf xy=>?_;have s6:=xi.size;have hz:Ext w w7:=(xj.trans xi).new xy (by omega);have xe:=xy.at (xi.at xd id) λe=>by have e:q=p:=e;omega
 have ym:=fA xf;have yq:(ks.zip xs).length=ks.length:=by rw[rV];omega
 have xh:(ks.zip xs).map (·.1)=ks:=List.map_fst_zip (by omega);have xp:(ks.zip xs).map (·.2)=xs:=List.map_snd_zip (by omega);rw[(fL j _)];refine cY.go (λst w'=>∃(i:Nat) (sv kv':Value) (L:List Value) (m:List (Str×JV)),st=[i64 (i:Nat)]/\i<=ks.length/\Ext w w'/\w'.heap[q]?=w7.heap[q]?/\w'.heap[p]?=some (.cells [i64 6,.bool false,str [],sv,kv'].toArray VT (0,0))/\w7.heap.size<=w'.heap.size/\Gl w' w7.heap.size (mkO m) sv kv' L/\(ks.take i).Nodup/\Jk ((ks.zip xs).take i) m)
  (λst _=>match st with|[.int _ i]=>ks.length-i.toNat|_=>0)
  ⟨0,.slice none 0 0,.slice none 0 0,[],[],rfl,fR _,hz,rfl,xf,aV _,⟨⟨rfl,.inl ⟨rfl,rfl⟩⟩,by simp[mkO,JV.xs,cA],⟨rfl,.inl ⟨rfl,rfl⟩⟩,⟨by simp[mkO,JV.xs],by simp[mkO,JV.ks],by simp[mkO,JV.t],λs hs=>by simp[mkO,JV.ks]at hs⟩⟩,by simp,Jk.nil⟩ ?_
 rintro st g w9 ⟨i,sv,kv',L,m,rfl,hi,ht,xk,xo,s9,hj,xl,hA⟩;simp only[aG];have yx:m.length=i:=by rw[hA.len,bS];omega
 have yh:∀p∈m,tR p.2=true:=λp hp=>by
  have h1:=oR ((hA.mem p).1 hp);exact hf _ (by rw[<-xp];exact dL.2 ⟨p,h1,rfl⟩)
 have xa:eX w9 (mkO m) [i64 6,.bool false,str [],sv,kv']:=hj.rep.rep;have yn:[i64 6,.bool false,str [],sv,kv'].all fC=true:=xa.all_one;have hkeys:∀k,k∈m.map (·.1)↔k∈ks.take i:=λk=>by rw[hA.keys,List.map_take,xh]
 rw[dU,aO];refine⟨λxm=>?_,λyy=>?_⟩
 ·have xm:i<ks.length:=by omega
  obtain⟨y,hy⟩:∃y,(ks.zip xs)[i]?=some y:=⟨_,List.getElem?_eq_getElem (by omega)⟩;have xc:ks[i]?=some y.1:=by rw[<-xh,List.getElem?_map,hy];rfl
  have xq:xs[i]?=some y.2:=by rw[<-xp,List.getElem?_map,hy];rfl
  refine nM (j.ext ht) xc ?_;refine bZ xo rfl ?_;refine ZT xa rfl (by simp[mkO,JV.ks,JV.xs]) (Xk (by omega) yh) hA.rise λcs1 w10 xt xw=>?_;simp only[bL];refine⟨_,rfl,_,rfl,?_⟩;refine wS xw.rep λa12 w12 sv1 kv1 yp xr=>?_;have hh:=xt.trans xr;by_cases xb:y.1∈ks.take i
  ·have hsome:(zC (mkO m) y.1).isSome=true:=by
    cases hg:zC (mkO m) y.1 with
    |some z=>rfl
    |none=>exact absurd ((hkeys y.1).2 xb) (Hs.1 hg)
   rw[hsome,dS]
   (try rw[cW])
   refine ends (v:=JV.null) (cs:=flat 0 false []) ?_ ?_ (ht.trans hh) (gP (by simp))
   ·unfold BC;rw[aE];rintro⟨_,hn⟩;have h1:(ks.take i++ks.drop i).Nodup:=by rw[iH];exact hn
    rw[fD]at h1;have hd:y.1∈ks.drop i:=by
     rw[cL xm];have:=(List.getElem?_eq_some_iff.1 xc).2;rw[this];exact bA
    exact h1.2.2 y.1 xb y.1 hd rfl
   ·rw[hh.heap q (by omega) id,xk];exact xe.trans xd.symm
  have xx:y.1∉m.map (·.1):=λe=>xb ((hkeys y.1).1 e);have hnone:(zC (mkO m) y.1).isSome=false:=by rw[Hs.2 xx];rfl
  rw[hnone,cP];have ye:Ext w12 w12.drew:=Chg.drew (Chg.refl (λ_=>False) w12);have hx9d:=hh.trans ye;have xn:=hx9d.at xo id;refine bZ xn rfl ?_;refine(hx.ext (ht.trans hx9d)).at' rfl xq λcs2 h2=>?_;refine DR y.2 (hf _ (bG xq)) h2 λcs3 w16 ho h3=>?_;have U:=hx9d.trans ho;refine⟨bZ (ho.at xn id) rfl rfl,?_⟩;have yb:=hj.ext U;have s16:=ho.size;have s9d:=hx9d.size;have I:∀k,sv.ownBlock=some k\/kv'.ownBlock=some k->w7.heap.size<=k/\k<w9.heap.size:=λk j=>by
   rcases j with j|j
   ·exact⟨(gZ hj.items j).1,(gZ hj.items j).2.1⟩
   ·exact⟨(gZ hj.keys j).1,(gZ hj.keys j).2.1⟩
  refine aDM yb (h3.mono λk _ j=>?_) hA.rise xx (by omega) (yi y.1 (bG xc)) (by omega) λsv2 kv2 L2 w17 hr o=>?_
  ·have j:w12.drew.heap.size<=k:=j;exact⟨by omega,λe=>by have:=(I k (.inl e)).2;omega,λe=>by have:=(I k (.inr e)).2;omega⟩
  have ya:=hr.at (ho.at xn id) λe=>by have:=(I p e).1;omega
  refine cK ya rfl rfl o.rep.rep.all_one λw18 yl xz J=>?_;rw[cI,up1 (by omega)];have s17:=hr.size;have et:(ks.zip xs).take (i+1)=(ks.zip xs).take i++[y]:=by rw[dG,hy];rfl
  have ek:ks.take (i+1)=ks.take i++[y.1]:=by rw[dG,xc];rfl
  refine⟨⟨i+1,sv2,kv2,L2,insP m y.1 y.2,rfl,xm,?_,?_,xz,by omega,?_,?_,?_⟩,by simp only[aW];omega⟩
  ·exact(ht.trans U).then hr (λk j e=>by have:=(I k e).1;have:=hz.size;omega)|>.new J (by omega)
  ·rw[J.heap q (by omega) (λe=>by have e:q=p:=e;omega),hr.heap q (by omega) (λe=>by have:=(I q e).1;omega),U.heap q (by omega) id,xk]
  ·exact⟨jK o.items J λk j e=>by have:=(gZ o.items j).1;have e:k=p:=e;omega,cA.chg J (λk j _ e=>by have:=j.1;have e:k=p:=e;omega) o.reps,jK o.keys J λk j e=>by have:=(gZ o.keys j).1;have e:k=p:=e;omega,o.fits⟩
  ·rw[ek,fD];exact⟨xl,by simp,λa ha b hb=>by rw[bK]at hb;subst hb;rintro rfl;exact xb ha⟩
  ·rw[et];exact hA.snoc (by rw[List.map_take,xh];exact xb)
 ·obtain rfl:i=ks.length:=by omega
  rw[dW (by omega)]at xl hA;refine bZ xo rfl ?_;refine ends (v:=BC ks xs) (cs:=[i64 6,.bool false,str [],sv,kv']) rfl ?_ ht ?_
  ·rw[xk];exact xe.trans xd.symm
  have e:BC ks xs=mkO m:=by
   unfold BC;rw[aJ ⟨heq,xl⟩];exact hA.eq
  rw[e];have s7:=hz.size;exact hj.rep.mono λk _ j=>by have j:w7.heap.size<=k:=j;exact⟨by omega,by omega⟩
end
end
section
open Go Go.Eng Go.Num Go.RowKit Go.Syn
variable{w:World}{K:Q0}{cs:List Value}{G:Nat->Prop}{T:TypeId}{i:Nat}{n:Nat}{v:Value}{w':World}{P:Program}{c:UInt8}{S:Nat->Prop}
structure qF(G:Nat->Prop)(w:World)(B:Nat)(sv:Value)(xs:List JV):Prop where
 it:∃L,Own w B VT 5 sv xs.length L/\cA (λq=>G q/\sv.ownBlock≠some q) w xs L
theorem qF.nil(G:Nat->Prop)(w:World)(B:Nat):qF G w B (.slice none 0 0) []:=⟨[],⟨rfl,.inl ⟨rfl,rfl⟩⟩,by simp[cA]⟩
theorem qF.chg{B:Nat}{sv:Value}{xs:List JV}(h:qF G w B sv xs)(I:Chg S w w')(J:∀k,G k->k<w.heap.size->¬S k)(hB:∀k,B<=k->k<w.heap.size->¬S k):qF G w' B sv xs:=by
 obtain⟨L,h1,U⟩:=h.it;exact⟨L,jK h1 I λk j=>hB k (gZ h1 j).1 (gZ h1 j).2.1,cA.chg I (λk j o=>J k j.1 o) U⟩
theorem qF.ext{B:Nat}{sv:Value}{xs:List JV}(h:qF G w B sv xs)(j:Ext w w'):qF G w' B sv xs:=h.chg j (λ_ _ _ e=>e) λ_ _ _ e=>e
theorem qF.one{B:Nat}{sv:Value}{xs:List JV}(h:qF G w B sv xs):fC sv=true:=by obtain⟨L,h1,_⟩:=h.it;exact oK h1
theorem qF.inb{B k:Nat}{sv:Value}{xs:List JV}(h:qF G w B sv xs)(j:sv.ownBlock=some k):B<=k/\k<w.heap.size:=by obtain⟨L,h1,_⟩:=h.it;exact⟨(gZ h1 j).1,(gZ h1 j).2.1⟩
theorem qF.items{B:Nat}{sv:Value}{xs:List JV}(h:qF G w B sv xs)(o:∀k,B<=k->G k)(hl:xs.length<=9223372036854775807):jX G w sv xs:=by
 obtain⟨L,h1,I⟩:=h.it;exact⟨⟨VT,L,h1.sl,I.mono λk _ j=>j.1,λ_ k j=>o k (gZ h1 j).1⟩,hl⟩
theorem qF.app{B:Nat}{sv t:Value}{xs:List JV}{x:JV}{K:Q0}(h:qF G w B sv xs)(U:SlAt w T t 1 cs)(o:cM (λq=>G q/\sv.ownBlock≠some q) w x cs)(hB:B<=w.heap.size)(hl:xs.length<=1000000)
  (hK:∀sv' w',qF G w' B sv' (xs++[x])->Chg (λk=>sv.ownBlock=some k) w w'->K sv' w'):dF P0 (Builtin.append_ #[23,23] 23 #[sv,t]) w K:=by
 obtain⟨L,h1,h2⟩:=h.it;refine iF Cy h1 U (m:=1) (by rw[o.rep.len]) o.rep.one (by omega) (by omega) hB λv' w' h' J hb=>?_;refine hK v' w' ⟨L++cs,by simpa using h',?_⟩ J;have h3:cA (λq=>(G q/\sv.ownBlock≠some q)/\q<w.heap.size) w (xs++[x]) (L++cs):=(h2.snoc o).mono λk I j=>⟨j,I⟩;refine(cA.chg J (λk j _ e=>j.1.2 e) h3).mono λk _ j=>⟨j.1.1,λe=>?_⟩;rcases hb k e with e|e
 ·exact j.1.2 e
 ·have:=j.2;omega
theorem jX.mono{G':Nat->Prop}{sv:Value}{xs:List JV}(I:∀k,k<w.heap.size->G k->G' k)(h:jX G w sv xs):jX G' w sv xs:=
 ⟨let⟨T,L,h1,U,J⟩:=h.it;⟨T,L,h1,U.mono I,λj k o=>I k (Ij h1 j k o) (J j k o)⟩,h.few⟩
theorem jX.list{sv:Value}{xs:List JV}(h:jX G w sv xs):cM G w (lV xs) [i64 5,.bool false,str [],sv,.slice none 0 0]:=
 let⟨_,_,h1,I,o⟩:=h.it
 cM.mk (v:=lV xs) h1 I (SlAt.nil w ST) ⟨h.few,by simp[lV,JV.ks],by simp[lV,JV.t],λs j=>by simp[lV,JV.ks]at j⟩ o λe=>absurd rfl e
theorem Xr:∀(v:JV) {m:Nat},kC v m=true->kC v (m+1)=true:=by
 intro v;induction v using JV.ind' with
 |h v ih=>
  intro m h;cases m with
  |zero=>rw[oO]at h;cases h
  |succ m=>
   rw[iA,jB,bN]at h⊢;exactλx j=>ih x j (h x j)
theorem Fu{v x:JV}(h:dK v=true)(j:x∈v.xs):dK x=true:=by
 have hp:=((pW h).item j).plain;simp only[dK,aL,bD]at h⊢;have hd:=h.1.2;have o:=h.1.1;rw[show(24:Nat)=23+1 from rfl,iA,jB]at hd;rw[vW]at o;exact⟨⟨(xA (m:=23) (by omega) v.xs 1 hd (by omega) o).2 x j,Xr x (bN.1 hd x j)⟩,hp⟩
theorem mQ{K:Q0}(hl:cs.length=5)(h1:cs.all fC=true)(hK:∀b w',b=w.heap.size->w'.heap.size=w.heap.size+1->w'.heap[b]?=some (.cells cs.toArray VT (0,0))->Ext w w'->K (.pointer (some ⟨b,0,none⟩)) w'):
  bQ VT zr5 w λt w1=>stW 5 t (.agg cs.toArray) w1 λw2=>K t w2:=by
 refine bI λb w1 hb hz o U=>?_;refine cK o hl rfl h1 λw2 J I j=>?_;exact hK b w2 hb (by omega) I (U.new j (by omega))
section
variable [HX]
theorem Ni{t:Str}{a:Int}{v:JV}{ec:List Value}{w0:World}{K:Q0}(he:AtC t a ec)(h:cM G w v cs)(hg:dK v=true)(h0:Ext w0 w)(hG:∀q,w.heap.size<=q->G q)(hK:MdK w0 (sC t a v) G w K):
  aC P0 91 [.agg ec.toArray,.agg cs.toArray] w K:=by
 have xd:=pW hg;have hlens:=xd.lens;refine aCj ?_;unfold W91;refine Nh he λb2 w1 k va vk xv xz xr xf xc=>?_;have h1:cM G w1 v cs:=h.ext' xc;refine BW h1 λb3 w2 sv kv xi xy xq ho xa=>?_;subst xi;refine bI λb4 w3 xx xp xe ht=>?_;have hk:=xc.trans (xa.trans ht);refine bZ (ht.at ho id) rfl ?_;refine xU (h.ext' hk).rep λw4 hs xo=>?_;have hi:=ht.trans hs;have j:=hk.trans hs;have U:=hi.at ho id;have hc:=(xa.trans hi).at xf id;have J:=hs.at xe id;rw[aO];refine⟨λk1=>?_,λk1=>?_⟩
 ·have hr:sC t a v=.ok v:=by unfold sC;rw[aJ k1]
  refine bZ U rfl ?_;exact AF J rfl (by omega) j ((h.off (by omega)).ext' j) λw' hv h'=>hK.ok hr _ w' hv h'
 refine bU.cut (λst w'=>w'=w4/\v.k=6) ?_ ?_
 ·refine eQ (off:=0) U rfl ?_;rw[gD,aO];refine⟨λk6=>?_,λk6=>⟨rfl,by omega⟩⟩;have hr:sC t a v=.err 81 a:=by unfold sC;rw[aE k1,aJ k6]
  refine eQ (off:=4) hc rfl ?_;exact mA (h0.trans j) (hK.err hr)
 rintro st g w9 ⟨rfl,k6⟩;refine bZ U rfl ?_;refine eQ (off:=1) hc rfl ?_;refine ZT (h.ext' j).rep k6 (hlens.2.2.1 k6) xd.few (De hlens.2.2.2.1) λcs1 w10 xb hh=>?_;simp only[bL];refine⟨_,rfl,_,rfl,?_⟩;refine mQ hh.rep.len hh.rep.all_one λb11 w12 xn xk hz hj=>?_;have o:=xb.trans hj;have I:=j.trans o;refine bU.cut (λst w'=>w'=w12/\∃x,zC v t=some x) ?_ ?_
 ·rw[eP,bY];cases xh:zC v t with
  |some x=>exact⟨λe=>by simp at e,λ_=>⟨rfl,x,rfl⟩⟩
  |none=>
   refine⟨λ_=>?_,λe=>by simp at e⟩;have hr:sC t a v=.err 82 a:=by unfold sC;rw[aE k1,aE (λe=>e k6),xh]
   refine eQ (off:=4) (o.at hc id) rfl ?_;exact mA (h0.trans I) (hK.err hr)
 rintro st g2 w15 ⟨rfl,x,hx⟩;have hr:sC t a v=.ok x:=by unfold sC;rw[aE k1,aE (λe=>e k6),hx]
 rw[hx]at hh;refine bZ hz hh.rep.len ?_;have s4:=j.size;have xt:=fA J;refine AF (o.at J id) rfl (by omega) I ?_ λw' hv h'=>hK.ok hr _ w' hv h';exact(hh.ext' hj).mono λq _ hq=>by have hq:w9.heap.size<=q:=hq;exact⟨hG q (by omega),by omega⟩
theorem Uf{t:Str}{a:Int}{v:JV}{ec:List Value}{w0:World}{K:Q0}(he:AtC t a ec)(h:cM G w v cs)(hg:dK v=true)(h0:Ext w0 w)(hG:∀q,w.heap.size<=q->G q)(hK:MdK w0 (rM t a v) G w K):
  aC P0 92 [.agg ec.toArray,.agg cs.toArray] w K:=by
 have ym:=pW hg;have hlens:=ym.lens;refine aCi ?_;unfold W92;refine Nh he λb2 w1 k va vk yn zo zg yg xx=>?_;have yo:AtC t a [i64 k,str t,va,vk,i64 a]:=yn▸he;refine BW (h.ext' xx) λb3 w2 sv kv yp zn zf xd xu=>?_;subst yp;refine bI λb4 w3 zm ze yf xi=>?_;have xb:=xx.trans (xu.trans xi);refine bZ (xi.at xd id) rfl ?_;refine xU (h.ext' xb).rep λw4 xh zd=>?_;have xa:=xi.trans xh;have I:=xb.trans xh;have hx:=xa.at xd id;have xe:=(xu.trans xa).at yg id;have hv:=xh.at yf id;rw[aO];refine⟨λk1=>?_,λk1=>?_⟩
 ·have hr:rM t a v=.ok v:=by unfold rM;rw[aJ k1]
  refine bZ hx rfl ?_;exact AF hv rfl (by omega) I ((h.off (by omega)).ext' I) λw' xl h'=>hK.ok hr _ w' xl h'
 refine bU.cut (λst w'=>w'=w4/\v.k=5) ?_ ?_
 ·refine eQ (off:=0) hx rfl ?_;rw[gD,aO];refine⟨λk6=>?_,λk6=>⟨rfl,by omega⟩⟩;have hr:rM t a v=.err 81 a:=by unfold rM;rw[aE k1,aJ k6]
  refine eQ (off:=4) xe rfl ?_;exact mA (h0.trans I) (hK.err hr)
 rintro st g w9 ⟨rfl,k5⟩;have xz:rM t a v=(oP t a v.xs).bind λxs=>.ok (lV xs):=by unfold rM;rw[aE k1,aE (λe=>e k5)]
 simp only[dI,cW,aB,aN,aY];refine⟨by omega,?_⟩;refine mQ (cs:=[i64 5,.bool false,str [],.slice none 0 0,.slice none 0 0]) rfl rfl λb5 w12 zl yw xc o=>?_;have xk:=I.trans o;refine eQ (off:=3) (o.at hx id) rfl ?_;have hI:jX (λq=>G q/\q<w.heap.size) w sv v.xs:=h.its.mono λq hc U=>⟨U,hc⟩;rw[(hI.items).len];have s04:=I.size;have s12:=o.size;have zi:=fA hv;have zh:=fA xc;refine cY.go (λst w'=>∃(i:Nat) (rv:Value) (rs:List JV),st=[i64 (i:Nat)]/\i<=v.xs.length/\rs.length=i/\Ext w w'/\w12.heap.size<=w'.heap.size/\w'.heap[b2]?=w12.heap[b2]?/\w'.heap[b4]?=w12.heap[b4]?/\w'.heap[b5]?=some (.cells [i64 5,.bool false,str [],rv,.slice none 0 0].toArray VT (0,0))/\
   qF (λq=>G q/\q≠b4/\q≠b5) w' (b5+1) rv rs/\oP t a v.xs=(oP t a (v.xs.drop i)).bind λys=>.ok (rs++ys))
  (λst _=>match st with|[.int _ i]=>v.xs.length-i.toNat|_=>0)
  ⟨0,.slice none 0 0,[],rfl,fR _,rfl,xk,aV _,rfl,rfl,xc,qF.nil _ _ _,by rw[cZ];cases oP t a v.xs<;>rfl⟩ ?_
 rintro st g2 w14 ⟨i,rv,rs,rfl,hi,yk,hj,s14,yb,ya,xn,hR,xq⟩;simp only[aG];rw[dU,aO];have xp:w14.heap[b2]?=some (.cells [i64 k,str t,va,vk,i64 a].toArray 93 (0,0)):=by rw[yb];exact o.at xe id
 refine⟨λhc=>?_,λzj=>?_⟩
 ·have hc:i<v.xs.length:=by omega
  obtain⟨x,xg⟩:∃x,v.xs[i]?=some x:=⟨_,List.getElem?_eq_getElem hc⟩;have yl:dK x=true:=Fu hg (bG xg);have yd:v.xs.drop i=x::v.xs.drop (i+1):=by rw[cL hc];congr 1;exact(List.getElem?_eq_some_iff.1 xg).2
  refine(hI.ext hj).get xg λds hz=>?_;refine mQ hz.rep.len hz.rep.all_one λb7 w16 zk yu ye xw=>?_;have xt:Ext w16 w16.drew:=Chg.drew (Chg.refl (λ_=>False) w16);have hx16d:=xw.trans xt;have xj:=hj.trans hx16d;refine eQ (off:=3) (hx16d.at xn id) rfl ?_;refine bZ (hx16d.at xp id) rfl ?_;refine bZ (xt.at ye id) hz.rep.len ?_;have za:=hR.ext hx16d;have s16:w16.drew.heap.size=w14.heap.size+1:=by show w16.heap.size=_;omega
  have xo:=hz.ext' hx16d;refine Ni (G:=λq=>(G q/\q≠b4/\q≠b5)/\rv.ownBlock≠some q) (w0:=w0) yo (xo.mono λq hc U=>?_) yl (h0.trans xj) (λq U=>?_) ?_
  ·exact⟨⟨U.1,by have:=U.2;omega,by have:=U.2;omega⟩,λe=>by have:=(hR.inb e).1;have:=U.2;omega⟩
  ·exact⟨⟨hG q (by omega),by omega,by omega⟩,λe=>by have:=(hR.inb e).2;omega⟩
  cases ha:sC t a x with
  |err c p=>
   have hr:rM t a v=.err c p:=by
    rw[xz,xq,yd];simp only[oP,ha,MdR.bind]
   exact hK.err hr
  |ok y=>
   intro es w17 xv yi;have hh:=hx16d.trans xv;have ht:=hh.at xn id;refine⟨eQ (off:=3) ht rfl rfl,?_⟩;refine AE yi.rep.len λt30 w18 xy ho=>?_;have hs:=ho.at ht id;refine⟨eQ (off:=3) hs rfl rfl,?_⟩;have j:=hh.trans ho;have s18:=j.size;refine(hR.ext j).app xy (yi.ext' ho) (by omega) (by omega) λrv' w19 xf J=>?_;have hy:∀q,rv.ownBlock=some q->b5+1<=q/\q<w14.heap.size:=λq e=>hR.inb e;have s19:=J.size;rw[bT];refine iO (off:=3) (J.at hs λe=>by have:=(hy b5 e).1;omega) xf.one (by simp) λw20 yt yh hk=>?_;rw[cI,up1 (by omega)];refine⟨⟨i+1,rv',rs++[y],rfl,hc,by simp[yk],?_,by omega,?_,?_,?_,?_,?_⟩,by simp only[aW];omega⟩
   ·exact((hj.trans j).then J λq U e=>by have:=(hy q e).1;omega).new hk (show w.heap.size<=b5 by omega)
   ·rw[hk.heap b2 (by omega) (λe=>by have e:b2=b5:=e;omega),J.heap b2 (by omega) (λe=>by have:=(hy b2 e).1;omega),j.heap b2 (by omega) id,yb]
   ·rw[hk.heap b4 (by omega) (λe=>by have e:b4=b5:=e;omega),J.heap b4 (by omega) (λe=>by have:=(hy b4 e).1;omega),j.heap b4 (by omega) id,ya]
   ·rw[yh];simp
   ·exact xf.chg hk (λq U _ e=>U.2.2 e) λq U _ e=>by have e:q=b5:=e;omega
   ·rw[xq,yd];simp only[oP,ha,MdR.bind];cases oP t a (v.xs.drop (i+1))<;>simp
 ·obtain rfl:i=v.xs.length:=by omega
  have hr:rM t a v=.ok (lV rs):=by
   rw[xz,xq,eJ];simp[oP,MdR.bind]
  refine bZ xn rfl ?_;have yc:∀q,b5+1<=q->G q/\q≠b4/\q≠b5:=λq U=>⟨hG q (by omega),by omega,by omega⟩;have yq:jX (λq=>G q/\q≠b4) w14 rv rs:=(hR.items yc (by omega)).mono λq _ U=>⟨U.1,U.2.1⟩;refine AF (v:=lV rs) (cs:=[i64 5,.bool false,str [],rv,.slice none 0 0]) (by rw[ya];exact o.at hv id) rfl (by omega) hj yq.list λw' xl h'=>hK.ok hr _ w' xl h'
end
section
variable [HX]
theorem pP{w0:World}{b:Nat}{ds:List Value}{k:Int}{s:Bool}{t:Str}{K:Q0}(hb:w.heap[b]?=some (.cells ds.toArray VT (0,0)))(hd:ds.length=5)(hl:w0.heap.size<=b)(j:Ext w0 w)(o:t.length<=9223372036854775807)
  (I:∀w',Ext w0 w'->cM G w' (.mk k s t [] []) (flat k s t)->K (.agg (flat k s t).toArray) w'):stW 5 (.pointer (some ⟨b,0,none⟩)) (.agg (flat k s t).toArray) w λw5=>ldW true 5 (.pointer (some ⟨b,0,none⟩)) w5 λr6=>K r6 w5:=
 AF (G:=G) (v:=.mk k s t [] []) hb hd hl j (gP o) I
theorem aB4{k:Int}{t:Str}{a:Int}{x y:JV}{va vk:Value}{ds:List Value}{w0:World}{K:Q0}(o1:fC va=true)(o2:fC vk=true)(hx:cM G w x cs)(hy:cM G w y ds)(h0:Ext w0 w)(hK:MdK w0 (HN (decide (k=27)) a x y) G w K):
  aC P0 99 [.agg [i64 k,str t,va,vk,i64 a].toArray,.agg cs.toArray,.agg ds.toArray] w K:=by
 refine aCb ?_;unfold W99;refine fY (z:=[i64 k,str t,va,vk,i64 a]) λb3 w1 zg yw ye xq=>?_;refine BW (hx.ext' xq) λb4 w2 sv kv ym zf yu yd xp=>?_;subst ym;refine BW (hy.ext' (xq.trans xp)) λb5 w3 sv' kv' yl ze yt yc xo=>?_;subst yl;refine bI λb6 w4 zd ys xi xd=>?_;have U:=xq.trans (xp.trans (xo.trans xd));have xj:=(xp.trans (xo.trans xd)).at ye id;have xb:=(xo.trans xd).at yd id;have xa:=xd.at yc id;have xt:=hx.ext' U;have xl:=hy.ext' U;clear hx hy;refine bU.cut (λst w'=>Ext w4 w'/\gQ 2 x=true/\gQ 2 y=true) ?_ ?_
 ·refine bZ xb rfl ?_;refine bZ xa rfl ?_;refine IQ xt.rep xl.rep λtt w6 yp xn _=>?_;refine MQ yp λw7 xm=>?_;have e:[x,y].all (gQ 2)=(gQ 2 x&&gQ 2 y):=by simp
  rw[e,eP,bY];refine⟨λh=>?_,λh=>?_⟩
  ·have hr:HN (decide (k=27)) a x y=.err 81 a:=by unfold HN;rw[aE (λe=>by rw[e]at h;cases h)]
   refine eQ (off:=4) ((xn.trans xm).at xj id) rfl ?_;exact mA (h0.trans (U.trans (xn.trans xm))) (hK.err hr)
  ·have h:(gQ 2 x&&gQ 2 y)=true:=by cases hq:(gQ 2 x&&gQ 2 y)<;>simp[hq]at h⊢
   rw[aL]at h;exact⟨xn.trans xm,h.1,h.2⟩
 rintro st g w9 ⟨hc,f1,f2⟩;have hm:HN (decide (k=27)) a x y=if(x.k≠1/\x.b=decide (k=27))\/(y.k≠1/\y.b=decide (k=27))then .ok (bV (decide (k=27)))else if x.k=1\/y.k=1 then .ok uV else .ok (bV (!decide (k=27))):=by
  unfold HN;rw[aJ (by rw[f1,f2];rfl)]
 rw[hm]at hK;refine eQ (off:=0) (hc.at xj id) rfl ?_;rw[bO];generalize yy:decide (k=27)=or at*
 refine bZ (hc.at xb id) rfl ?_;refine bZ (hc.at xa id) rfl ?_;refine IQ (xt.ext' hc).rep (xl.ext' hc).rep λtt w10 xk xz _=>?_;rw[xk.len];have hh:=hc.trans xz;have yg:=U.trans hh;refine cY.go (λst w'=>∃i:Nat,st=[i64 (i:Nat)]/\i<=2/\Ext w10 w'/\∀j z,j<i->[x,y][j]?=some z->¬(z.k≠1/\z.b=or)) (λst _=>match st with|[.int _ i]=>2-i.toNat|_=>0) ⟨0,rfl,by omega,Chg.refl _ _,λj z hj=>by omega⟩ ?_;rintro st g2 w12 ⟨i,rfl,hi,hv,xu⟩;simp only[aG];have o:=hh.trans hv;have xr:=U.trans o;have yz:=fA xi;have ends:∀{z:JV} {k':Int} {s:Bool} {w':World},z=.mk k' s [] [] []->Ext w12 w'->(if(x.k≠1/\x.b=or)\/(y.k≠1/\y.b=or)then MdR.ok (bV or)else if x.k=1\/y.k=1 then .ok uV else .ok (bV (!or)))=.ok z->
   stW 5 (.pointer (some ⟨b6,0,none⟩)) (.agg (flat k' s []).toArray) w' λw5=>ldW true 5 (.pointer (some ⟨b6,0,none⟩)) w5 λr6=>K r6 w5:=λ{z k' s w'} hz xw hr=>by
  subst hz;have ya:=xr.trans xw;refine pP (G:=G) ((o.trans xw).at xi id) rfl (by omega) ya (by simp) λw'' yb yq=>hK.ok hr _ w'' yb yq
 rw[show([x,y].length:Nat)=2 from rfl,dU,aO];refine⟨λxe=>?_,λzb=>?_⟩
 ·have xe:i<2:=by omega
  obtain⟨z,hz⟩:∃z,[x,y][i]?=some z:=⟨_,List.getElem?_eq_getElem xe⟩;refine(xk.ext hv).at hz λes xf=>?_;refine mQ xf.len xf.all_one λb9 w14 zc yr xh ht=>?_;obtain⟨sv9,kv9,_,_,_,rfl,_⟩:=xf.out;refine bZ xh rfl ?_;refine xU (xf.ext ht) λw15 hs _=>?_;rw[eP];have xv:=hs.at xh id;refine GdW.look (decide (z.b=or)) (λ_ J hJ=>?_) λg3=>?_
  ·refine eQ (off:=1) xv rfl ?_;have:∀K:Value->Prop,K (.bool (decide (z.b=or)))->eqW .bool false (.bool z.b) (.bool or) K:=λK h=>by
    cases hb:z.b<;>cases or<;>simp[hb]at h⊢<;>exact h
   exact this _ hJ
  simp only[aG,fQ];rw[fK,bY];refine⟨λI=>?_,λhn=>?_⟩
  ·simp only[aL,dZ,decide_eq_false_iff_not,bD]at I;refine pY λw18 xy=>?_;refine ends (z:=bV or) rfl (ht.trans (hs.trans xy)) ?_;rw[aJ]
   match i,xe,hz with
   |0,_,hz=>cases hz;exact .inl I
   |1,_,hz=>cases hz;exact .inr I
  ·rw[cI,up1 (by omega)];refine⟨⟨i+1,rfl,xe,hv.trans (ht.trans hs),λj u hj hu=>?_⟩,by simp only[aW];omega⟩;by_cases yk:j<i
   ·exact xu j u yk hu
   ·obtain rfl:j=i:=by omega
    rw[hz]at hu;cases hu;rintro⟨h1,h2⟩;simp[h1,h2]at hn
 ·obtain rfl:i=2:=by omega
  have n1:=xu 0 x (by omega) rfl;have n2:=xu 1 y (by omega) rfl;refine bZ (o.at xb id) rfl ?_;refine xU (xt.ext' o).rep λw21 ho _=>?_;have hg:=o.trans ho;simp only[mI];refine GdW.act (decide (y.k=1)) (λw'=>Ext w21 w') (λ_=>Chg.refl _ _) (λ_ J hJ=>?_) λg3 w24 xg=>?_
  ·refine bZ (hg.at xa id) rfl ?_;exact xU (xl.ext' hg).rep λw23 xx _=>hJ w23 xx
  simp only[aG];rw[fU,bY];refine⟨λI=>?_,λhn=>?_⟩
  ·simp only[cQ,bD]at I;refine sO λw25 hk=>?_;refine ends (z:=uV) rfl (ho.trans (xg.trans hk)) ?_;rw[aE (λe=>e.elim n1 n2),aJ I]
  ·simp only[lS,decide_eq_false_iff_not]at hn;rw[eP];refine pY λw25 hk=>?_;refine ends (z:=bV (!or)) rfl (ho.trans (xg.trans hk)) ?_;rw[aE (λe=>e.elim n1 n2),aE (λe=>e.elim hn.1 hn.2)]
end
end
end Go.Proofs.YtghhmpppnmoeoaaGreatDoor
namespace Go.Num
section
open Go Go.Eng
variable{w:World}{K:Q0}{cs:List Value}{G:Nat->Prop}{T:TypeId}{i:Nat}{n:Nat}{v:Value}{w':World}{P:Program}{c:UInt8}{S:Nat->Prop}
theorem CH:∀(n u:Nat),u<n->(Lib.decDigits u).all isDig=true/\(Lib.decDigits u)≠[]/\((Lib.decDigits u).head?=some 48->u=0):=by
 intro n;induction n with
 |zero=>intro u h;omega
 |succ n ih=>
  intro u h;rw[Lib.decDigits];have hd:∀k,k<10->isDig (UInt8.ofNat (48+k))=true:=by
   intro k I;have:∀k:Fin 10,isDig (UInt8.ofNat (48+k.val))=true:=by decide
   exact this ⟨k,I⟩
  split
  ·rename_i j;refine⟨by rw[eV,hd u j];rfl,by simp,λe=>?_⟩;have:∀k:Fin 10,([UInt8.ofNat (48+k.val)].head?=some 48)->k.val=0:=by decide
   exact this ⟨u,j⟩ e
  ·have hi:=ih (u/10) (by omega);refine⟨by rw[Dy,hi.1,eV,hd (u%10) (by omega)];rfl,by simp,λe=>?_⟩;have e:(Lib.decDigits (u/10)).head?=some 48:=by
    cases o:Lib.decDigits (u/10)with
    |nil=>exact absurd o hi.2.1
    |cons x y=>rw[o]at e;simpa using e
   have:=hi.2.2 e;omega
theorem IT:∀(n u:Nat),u<n->dec (Lib.decDigits u)=u:=by
 intro n;induction n with
 |zero=>intro u h;omega
 |succ n ih=>
  intro u h;have o:∀k,k<10->dval (UInt8.ofNat (48+k))=k:=λk I=>by
   have:∀k:Fin 10,dval (UInt8.ofNat (48+k.val))=k.val:=by decide
   exact this ⟨k,I⟩
  rw[Lib.decDigits];split
  ·rename_i j;show 0*10+dval (UInt8.ofNat (48+u))=u;rw[o u j];omega
  ·rw[xQ,ih (u/10) (by omega)];simp only[Bb,dec,List.foldl_cons,List.foldl_nil,o (u%10) (by omega)];omega
theorem zI:∀(k u:Nat),u<10^k->1<=k->(Lib.decDigits u).length<=k:=by
 intro k;induction k with
 |zero=>intro u _ h;omega
 |succ k ih=>
  intro u h _;rw[Lib.decDigits];split
  ·simp
  ·have:=ih (u/10) (by rw[oQ]at h;omega) (by
    rcases nP k with rfl|h0
    ·simp at h;omega
    ·exact h0)
   rw[aU,Bb];omega
theorem aD6{s:Str}(h:s.all isDig=true)(h0:s.head?=some 48->s=[48])(j:s≠[]):Lib.decDigits (dec s)=s:=by
 obtain⟨a1,a2,a3⟩:=CH _ (dec s) (eO _);refine Oe a1 h (λe=>?_) h0 a2 j (IT _ _ (eO _));have:=a3 e;rw[this,Lib.decDigits,dif_pos (by omega)];rfl
theorem Og:Lib.decDigits 0=[48]:=by rw[Lib.decDigits,dif_pos (by omega)];rfl
theorem HF:∀n:Nat,dec (List.replicate n (48:UInt8))=0
 |0=>rfl
 |n+1=>by rw[DW,wR,HF n];simp[dval]
def Mo(x:Nat):Str:=List.replicate (9-(Lib.decDigits x).length) 48++Lib.decDigits x
theorem Cm{x:Nat}(h:x<1000000000):(Mo x).length=9/\dec (Mo x)=x/\(Mo x).all isDig=true:=by
 have hl:=zI 9 x h (by omega);obtain⟨a1,a2,a3⟩:=CH _ x (eO _);unfold Mo;refine⟨by rw[aU,List.length_replicate];omega,?_,?_⟩
 ·rw[xQ,HF,IT _ x (eO _)];omega
 ·rw[Dy,a1,iC,bN];intro c j;obtain rfl:=List.eq_of_mem_replicate j;decide
def mE:List Nat->Str
 |[]=>[]
 |x::r=>if r=[]then Lib.decDigits x else mE r++Mo x
theorem Gx(x:Nat):mE [x]=Lib.decDigits x:=by simp[mE]
theorem Eh{x:Nat}{r:List Nat}(h:r≠[]):mE (x::r)=mE r++Mo x:=by rw[mE,aE h]
theorem Eg:∀{l:List Nat},Lim l->Top l->l≠[]->(mE l).all isDig=true/\dec (mE l)=val l/\mE l≠[]/\(mE l).head?≠some 48
 |[],_,_,h=>absurd rfl h
 |[x],hl,j,_=>by
  have J:x≠0:=by have:=j (by simp);simpa using this
  obtain⟨a1,a2,a3⟩:=CH _ x (eO _)
  rw[Gx]
  exact⟨a1,by rw[IT _ x (eO _)];simp[val],a2,λe=>J (a3 e)⟩
 |x::y::r,hl,j,_=>by
  obtain⟨b1,b2,b3,b4⟩:=Eg (l:=y::r) (λz I=>hl z (aR _ I)) (λh=>by have:=j (by simp);simpa using this) (by simp)
  obtain⟨p1,p2,p3⟩:=Cm (hl x (by simp))
  rw[Eh (by simp)]
  refine⟨by rw[Dy,b1,p3];rfl,?_,by simp[b3],?_⟩
  ·rw[xQ,p1,p2,b2]
   show _=x+1000000000*val (y::r)
   omega
  ·cases o:mE (y::r)with
   |nil=>exact absurd o b3
   |cons c d=>rw[o]at b4;simpa using b4
theorem Gz{l:List Nat}(h:Lim l)(o:Top l)(j:l≠[]):mE l=Lib.decDigits (val l):=by
 obtain⟨a,b,c,d⟩:=Eg h o j;rw[<-b,aD6 a (λe=>absurd e d) c]
theorem Gy:∀(l:List Nat),Lim l->(mE l).length<=9*l.length
 |[],_=>by simp[mE]
 |x::r,hl=>by
  have j:=hl x (by simp)
  unfold mE
  split
  ·have:=zI 9 x j (by omega);simp only[aB];omega
  ·have:=Gy r λz o=>hl z (aR _ o)
   have:=(Cm j).1
   rw[aU,aB];omega
theorem ok_int{z:Big}(h:z.Ok):(z.l=[]/\z.int=0)\/(z.l≠[]/\z.int≠0/\val z.l≠0/\Lib.itoa z.int=(if z.below=true then [45]else [])++mE z.l):=by
 obtain⟨h1,o,J⟩:=h;by_cases j:z.l=[]
 ·exact .inl ⟨j,by unfold Big.int;rw[j];simp[val]⟩
 ·have I:val z.l≠0:=λe=>j ((Bj o).1 e);refine .inr ⟨j,?_,I,?_⟩
  ·unfold Big.int;split<;>omega
  ·rw[Gz h1 o j];unfold Lib.itoa Big.int;cases z.below with
   |true=>simp only[gF];rw[aJ (by omega)];simp
   |false=>simp only[fF,kL];rw[aE (by omega)];simp
theorem zF(n:Int):dig (Lib.itoa n)=Lib.decDigits n.natAbs:=by
 unfold Lib.itoa;split
 ·simp[dig]
 ·rename_i h;have e:n.toNat=n.natAbs:=by omega
  rw[e];obtain⟨a1,a2,a3⟩:=CH _ n.natAbs (eO _);cases j:Lib.decDigits n.natAbs with
  |nil=>exact absurd j a2
  |cons c d=>
   have o:c≠45:=by
    rintro rfl;rw[j]at a1;simp[isDig]at a1
   simp[dig,o]
theorem RI(n:Int):neg (Lib.itoa n)=decide (n<0):=by
 unfold Lib.itoa;split
 ·rename_i h;simp[neg,h]
 ·rename_i h;obtain⟨a1,a2,a3⟩:=CH _ n.toNat (eO _);cases j:Lib.decDigits n.toNat with
  |nil=>exact absurd j a2
  |cons c d=>
   have o:c≠45:=by
    rintro rfl;rw[j]at a1;simp[isDig]at a1
   simp[neg,o,h]
theorem wH(n:Int):num (Lib.itoa n)=n:=by
 unfold num;rw[zF,RI,IT _ _ (eO _)];by_cases h:n<0
 ·simp[h];omega
 ·simp[h];omega
theorem AW{n:Int}(h:n.natAbs<10^100):goodN (Lib.itoa n)=true:=by
 obtain⟨a1,a2,a3⟩:=CH _ n.natAbs (eO _);have hl:=zI 100 n.natAbs h (by omega);have hp:=dQ.2 a2;unfold goodN;rw[zF,a1,bH (by omega),bH hl];simp only[iB,iC,cQ,dZ,bD,beq_eq_false_iff_ne,bP];by_cases h0:(Lib.decDigits n.natAbs).head?=some 48
 ·right;have:=a3 h0;have hn:n=0:=by omega
  subst hn;unfold Lib.itoa;rw[aE (by omega)];exact Og
 ·exact .inl h0
theorem Co{a:Str}(h:goodN a=true):(num a).natAbs<10^100:=by
 obtain⟨g1,g2,g3,g4⟩:=jN h;have:=CG g4;have:=jW (n:=10) (by omega) g2;unfold num;split<;>omega
theorem Px{a:Str}(h:goodN a=true):Lib.itoa (num a)=a:=ID (AW (Co h)) h (wH _)
theorem TQ(n:Nat):val (List.replicate n 0)=0:=by
 induction n with
 |zero=>rfl
 |succ n ih=>rw[DW,val,ih]
theorem Nm:∀(l:List Nat) (i x:Nat),i<l.length->val (l.set i x)+l.getD i 0*1000000000^i=val l+x*1000000000^i
 |[],i,x,h=>by simp at h
 |a::l,0,x,_=>by simp[val];omega
 |a::l,i+1,x,h=>by
  have ih:=Nm l i x (by simpa using h)
  simp only[bB,val,cS,oQ]
  have e1:l.getD i 0*(1000000000^i*1000000000)=1000000000*(l.getD i 0*1000000000^i):=by rw[<-Nat.mul_assoc,lM 1000000000]
  have e2:x*(1000000000^i*1000000000)=1000000000*(x*1000000000^i):=by rw[<-Nat.mul_assoc,lM 1000000000]
  rw[e1,e2]
  omega
theorem WM{l:List Nat}{x:Nat}(h:Lim l)(o:x<1000000000):Lim (l.set i x):=λz j=>by
 rcases List.mem_or_eq_of_mem_set j with h1|rfl
 ·exact h z h1
 ·exact o
theorem vJ{l:List Nat}(h:i<l.length):val (l.take (i+1))=val (l.take i)+l.getD i 0*1000000000^i:=by
 rw[List.take_succ,List.getElem?_eq_getElem h,If,bS,kP (by omega)];simp[val,List.getD_eq_getElem?_getD,List.getElem?_eq_getElem h,lM]
def ofInt(n:Int)(z:Big):Prop:=z.Ok/\z.int=n
theorem AQ{x:Big}(h:Lim x.l):ofInt x.int x.trim:=⟨zR h,vQ x⟩
theorem Pi{x y:Big}{a b:Int}(o:ofInt a x)(j:ofInt b y):ofInt (a+b) (Ej x y):=by
 obtain⟨h1,I⟩:=Jq o.1 j.1;exact⟨I,by rw[h1,o.2,j.2]⟩
theorem Mp{x:Big}{a:Int}(j:ofInt a x):ofInt (-a) (AB x):=by
 obtain⟨h1,o⟩:=Gv j.1;exact⟨o,by rw[h1,j.2]⟩
theorem qQ{a:Str}(h:goodN a=true):ofInt (num a) (iE a):=by
 obtain⟨h1,j⟩:=zV h;exact⟨j,h1⟩
theorem Xp{A q r y:Nat}(h:A=q*y+r)(j:r<y):A/y=q/\A%y=r:=by
 have o:0<y:=by omega
 refine⟨?_,?_⟩
 ·rw[h,lM,Nat.mul_add_div o,Nat.div_eq_of_lt j,eU]
 ·rw[h,lM,Nat.mul_add_mod,kY j]
theorem Ae{l:List Nat}(h:Lim l)(i:Nat):l.getD i 0<1000000000:=by
 rw[List.getD_eq_getElem?_getD];cases j:l[i]? with
 |none=>simp
 |some z=>exact h z (bG j)
structure Nk(x y:List Nat)(i k:Nat)(out:List Nat)(carry:Nat):Prop where
 lim:Lim out
 len:out.length=x.length+y.length+1
 car:carry<1000000000
 eq:val out+carry*1000000000^(i+k)=val (x.take i)*val y+x.getD i 0*val (y.take k)*1000000000^i
def Ca(x y out:List Nat)(i k carry:Nat):Nat:=carry+out.getD (i+k) 0+(if k<y.length then x.getD i 0*y.getD k 0 else 0)
section
variable{x y out:List Nat}{i k carry:Nat}
theorem aAm(h:Nk x y i k out carry)(hi:i<x.length)(I:Lim x)(o:Lim y)(U:k<y.length\/0<carry):i+k<out.length:=by
 rw[h.len];by_cases hm:k<y.length
 ·omega
 have J:0<carry:=by omega
 have e:=h.eq;rw[dW (l:=y) (by omega)]at e;have e2:=vJ (l:=x) (i:=i) hi;have e3:val (x.take (i+1))*val y=val (x.take i)*val y+x.getD i 0*val y*1000000000^i:=by rw[e2,fG,Nat.mul_right_comm]
 have b1:val (x.take (i+1))<1000000000^(i+1):=by
  have:=Ic (l:=x.take (i+1)) (λz j=>I z (oR j));rwa[bS,kP (by omega)]at this
 have b2:=Ic o;have b3:val (x.take (i+1))*val y<1000000000^(i+1+y.length):=by
  rw[Nat.pow_add];exact Gm (dM _ (Nat.le_of_lt b1)) (Nat.mul_lt_mul_of_pos_left b2 (Nat.pow_pos (by omega)))
 have b4:1000000000^(i+k)<=carry*1000000000^(i+k):=Nat.le_mul_of_pos_left _ J;have b5:1000000000^(i+k)<1000000000^(i+1+y.length):=by omega
 have:=(Nat.pow_lt_pow_iff_right (by omega)).1 b5;omega
theorem QF(h:Nk x y i k out carry)(o:Lim x)(j:Lim y):Ca x y out i k carry<1000000000*1000000000:=by
 have h1:=h.car;have J:=Ae h.lim (i+k);have I:x.getD i 0*y.getD k 0<=999999999*999999999:=lQ (by have:=Ae o i;omega) (by have:=Ae j k;omega);unfold Ca;split<;>omega
theorem QE(h:Nk x y i k out carry)(J:Lim x)(I:Lim y)(hp:i+k<out.length):Nk x y i (k+1) (out.set (i+k) (Ca x y out i k carry%1000000000)) (Ca x y out i k carry/1000000000):=by
 have j:=QF h J I;refine⟨WM h.lim (Nat.mod_lt _ (by omega)),by rw[List.length_set];exact h.len,Nat.div_lt_of_lt_mul j,?_⟩;have vs:=Nm out (i+k) (Ca x y out i k carry%1000000000) hp;have e:=h.eq;have dm:=Nat.div_add_mod (Ca x y out i k carry) 1000000000;have t2:Ca x y out i k carry*1000000000^(i+k)=carry*1000000000^(i+k)+out.getD (i+k) 0*1000000000^(i+k)+(if k<y.length then x.getD i 0*y.getD k 0 else 0)*1000000000^(i+k):=by
  unfold Ca;rw[fG,fG]
 have t3:x.getD i 0*val (y.take (k+1))*1000000000^i=x.getD i 0*val (y.take k)*1000000000^i+(if k<y.length then x.getD i 0*y.getD k 0 else 0)*1000000000^(i+k):=by
  by_cases o:k<y.length
  ·rw[aJ o,vJ o,uF,fG,Nat.pow_add];congr 1
   ac_rfl
  ·rw[aE o,dW (by omega),dW (by omega)];omega
 generalize Ca x y out i k carry=c at*
 have t1:c/1000000000*1000000000^(i+(k+1))+c%1000000000*1000000000^(i+k)=c*1000000000^(i+k):=by
  have q:c*1000000000^(i+k)=(1000000000*(c/1000000000)+c%1000000000)*1000000000^(i+k):=by rw[dm]
  rw[q,fG,show i+(k+1)=i+k+1 by omega,oQ];congr 1
  ac_rfl
 omega
theorem TZ(h:Nk x y i k out 0)(hi:i<x.length)(j:¬k<y.length):val out=val (x.take (i+1))*val y:=by
 have e:=h.eq;rw[dW (l:=y) (by omega)]at e;rw[vJ hi,fG,Nat.mul_right_comm];omega
theorem OI(hl:Lim out)(hn:out.length=x.length+y.length+1)(h:val out=val (x.take i)*val y):Nk x y i 0 out 0:=
 ⟨hl,hn,by omega,by rw[h];simp[val]⟩
end
theorem Ke{x y:Big}{a b:Int}{out:List Nat}(o:ofInt a x)(j:ofInt b y)(hl:Lim out)(h:val out=val x.l*val y.l):ofInt (a*b) (⟨x.below^^y.below,out⟩:Big).trim:=by
 have:=AQ (x:=⟨x.below^^y.below,out⟩) hl;have e:(⟨x.below^^y.below,out⟩:Big).int=a*b:=by
  obtain⟨_,rfl⟩:=o;obtain⟨_,rfl⟩:=j;unfold Big.int;simp only[h];cases x.below<;>cases y.below<;>simp[Int.natCast_mul,Int.neg_mul,Int.mul_neg]
 rwa[e]at this
theorem Cn{z:Big}(h:ofInt n z):z.below=false/\val z.l=n:=by
 obtain⟨⟨h1,J,I⟩,j⟩:=h;unfold Big.int at j;cases hb:z.below with
 |false=>rw[hb]at j;simp only[fF,kL]at j;exact⟨rfl,by omega⟩
 |true=>
  rw[hb]at j;simp only[gF]at j;have o:z.l≠[]:=λe=>by have:=I e;rw[hb]at this;cases this
  have U:val z.l≠0:=λe=>o ((Bj J).1 e);omega
theorem Kf{l:List Nat}(h:Lim l):ofInt (val l:Nat) (⟨false,l⟩:Big).trim:=by
 have:=AQ (x:=⟨false,l⟩) h;exact this
theorem OL{a b:Str}(j:goodN a=true)(hb:goodN b=true):(num a).tdiv (num b)=(if(neg a^^neg b)=true then-(((dec (dig a))/(dec (dig b)):Nat):Int)else(((dec (dig a))/(dec (dig b)):Nat):Int))/\
  (num a).tmod (num b)=(if neg a=true then-(((dec (dig a))%(dec (dig b)):Nat):Int)else(((dec (dig a))%(dec (dig b)):Nat):Int)):=by
 unfold num;cases neg a<;>cases neg b<;>simp[Int.neg_tdiv,Int.tdiv_neg,Int.neg_tmod,Int.tmod_neg,Int.ofNat_tdiv]<;>exact uG (Int.natCast_nonneg _)
end
end Go.Num
namespace Go.Proofs.YtghhmpppnmoeoaaGreatDoor
section
open Go Go.Eng Go.Num Go.RowKit
variable{w:World}{K:Q0}{cs:List Value}{G:Nat->Prop}{T:TypeId}{i:Nat}{n:Nat}{v:Value}{w':World}{P:Program}{c:UInt8}{S:Nat->Prop}
def Dr(l:List Nat):List Value:=l.map u64
theorem Dt{b:Nat}{c:List Value}{off:Nat}{K:Value->Prop}(j:w.heap[b]?=some (.cells c.toArray T (0,0)))(o:c[off]?=some v)(I:K v):aZ off (.pointer (some ⟨b,0,none⟩)) λt=>ldW false 1 t w K:=by
 rw[bT,dY];refine⟨v,?_,I⟩;rw[bW,cG,j,cJ,aX,List.getElem?_toArray];exact o
theorem aAr{b:Nat}(h:w.heap[b]?=some (.cells cs.toArray T (0,0)))(hn:cs.length=n):SlAt w T (.slice (some ⟨b,0,none⟩) n n) n cs:=
 ⟨some ⟨b,0,none⟩,n,rfl,aV _,λe=>(by cases e),λ_=>⟨b,0,cs.toArray,_,rfl,h,λj _=>by simp⟩⟩
section
variable [HX]
theorem aBI{K:Q0}(hm:n<=1000000)(hK:∀a w',a=w.heap.size->w'.heap.size=w.heap.size+1->w'.heap[a]?=some (.cells (Dr (List.replicate n 0)).toArray U64 (0,0))->Ext w w'->K (.slice (some ⟨a,0,none⟩) n n) w'):
  dF P0 (Instr.makeSlice 196 (i64 (n:Nat)) (i64 (n:Nat))) w K:=by
 have o:((Tryz.prog.info? U64).bind (·.zero))=some (u64 0):=by kernel_rfl
 obtain⟨i,z,hi,hz,I,hbytes,hh⟩:=SP.get;have J:z=u64 0:=by
  rw[hi]at o;simp only[Option.bind_some]at o;rw[hz]at o;exact fN o
 subst J;unfold dF;have hr:=run_makeSlice (P:=P0) (w:=w) 196 U64 i _ (by kernel_rfl) hi hz .i64 .i64 n n (by omega) (by omega) (by rw[I];omega) (by rw[hbytes];omega) (by omega);rw[hr,I];simp only[aW,Nat.mul_one];have hc:madeCells (Value.cells (u64 0)) n=(Dr (List.replicate n 0)).toArray:=by
  apply Array.ext_getElem?;intro j;simp only[madeCells,Array.getElem?_map,List.getElem?_toArray,Dr];by_cases U:j<n
  ·rw[Array.getElem?_eq_getElem (by simpa using U)];simp[Value.cells,U,Nat.mod_one]
  ·rw[Array.getElem?_eq_none (by simp;omega)];simp[U]
 rw[hc];exact hK _ _ rfl (Array.size_push ..) (gN _ _ _ rfl) (Chg.alloc (Chg.refl _ _) _)
theorem Up{b:Nat}{l:List Nat}{K:Value->Prop}(hb:w.heap[b]?=some (.cells (Dr l).toArray U64 (0,0)))(hn:l.length=n)(hi:i<n)(j:K (u64 (l.getD i 0))):dP none 1 (.slice (some ⟨b,0,none⟩) n n) (i64 (i:Nat)) λt=>ldW false 1 t w K:=by
 rw[qS];refine⟨by omega,by omega,?_⟩;rw[dY];refine⟨u64 (l.getD i 0),?_,j⟩;rw[bW,cG,hb,cJ,List.getElem?_toArray];simp only[aW,Nat.mul_one,aX,Dr];rw[List.getElem?_map,List.getElem?_eq_getElem (by omega),List.getD_eq_getElem?_getD,List.getElem?_eq_getElem (by omega)];rfl
theorem RE{b x:Nat}{l:List Nat}{K:World->Prop}(hb:w.heap[b]?=some (.cells (Dr l).toArray U64 (0,0)))(hn:l.length=n)(hi:i<n)(U:∀w',w'.heap.size=w.heap.size->w'.heap[b]?=some (.cells (Dr (l.set i x)).toArray U64 (0,0))->Chg (λk=>k=b) w w'->K w'):dP none 1 (.slice (some ⟨b,0,none⟩) n n) (i64 (i:Nat)) λt=>stW 1 t (u64 x) w K:=by
 rw[qS];refine⟨by omega,by omega,?_⟩;rw[bW];simp only[aW,Nat.mul_one,aX];refine iO hb rfl (by simp[Dr];omega) λw' I o J=>U w' I ?_ J;rw[o];congr 2;apply Array.ext_getElem?;intro j;simp only[Dr,List.setIfInBounds_toArray,List.getElem?_toArray,List.map_set]
theorem QA(h:n<18446744073709551616):IntKind.u64.wrap (n:Int)=(n:Int):=pM (by omega) (by omega)
theorem Gw{x y:Big}{a b:Int}{ds:List Value}{K:Q0}(h:jI w x cs)(h':jI w y ds)(hx:ofInt a x)(hy:ofInt b y)(ym:x.l.length+y.l.length+1<=1000)
  (hK:∀z cs' w',Ext w w'->jI w' z cs'->ofInt (a*b) z->z.l.length<=x.l.length+y.l.length+1->K (.agg cs'.toArray) w'):aC P0 196 [.agg cs.toArray,.agg ds.toArray] w K:=by
 refine Yr ?_;unfold aEO;refine pZ h λp w1 sv hB xo hp yr=>?_;refine pZ (h'.ext xo) λq w2 sv' hC xm hq yq=>?_;refine bI λc w3 hc yp xi xf=>?_;have xc:=hB.ext (xm.trans xf);have xb:=hC.ext xf;have xd:=xo.trans (xm.trans xf);have hn:=hB.few;have hm:=hC.few;refine Dt (off:=1) xc.hb rfl ?_;rw[xc.len];refine Dt (off:=1) xb.hb rfl ?_;rw[xb.len,cI,cN (by omega) (by omega),cI,cN (by omega) (by omega)];rw[show((x.l.length:Int)+(y.l.length:Int)+1)=((x.l.length+y.l.length+1:Nat):Int)by omega];refine aBI (by omega) λo w4 ho yo yh xe=>?_;have yb:=xc.ext xe;refine Dt (off:=1) yb.hb rfl ?_;rw[yb.len];have ht:Lim x.l:=hB.lim;have hs:Lim y.l:=hC.lim;have yy:=fA xi;have yx:∀{k:Nat} {o':Obj},w3.heap[k]?=some o'->k≠o:=λhk e=>by have:=fA hk;omega
 have s0:=xd.size;refine cY.go (λst w'=>∃(i:Nat) (out:List Nat),st=[i64 (i:Nat)]/\i<=x.l.length/\Chg (λk=>k=o) w4 w'/\w'.heap[o]?=some (.cells (Dr out).toArray U64 (0,0))/\Lim out/\out.length=x.l.length+y.l.length+1/\val out=val (x.l.take i)*val y.l)
  (λst _=>match st with|[.int _ i]=>x.l.length-i.toNat|_=>0)
  ⟨0,List.replicate (x.l.length+y.l.length+1) 0,rfl,fR _,Chg.refl _ _,yh,λz hz=>by have:=List.eq_of_mem_replicate hz;omega,by simp,by rw[TQ];simp[val]⟩ ?_
 rintro st g w6 ⟨i,out,rfl,hi,xv,xy,hL,hj,hv⟩;simp only[aG];have j:Ext w3 w6:=xe.then xv λk hk e=>by have e:k=o:=e;omega
 have ya:=xc.ext j;have yj:=xb.ext j;rw[dU,aO];refine⟨λhg=>?_,λza=>?_⟩
 ·have hg:i<x.l.length:=by omega
  obtain⟨n,xq⟩:∃n,x.l[i]?=some n:=⟨_,List.getElem?_eq_getElem hg⟩;have xt:x.l.getD i 0=n:=by rw[List.getD_eq_getElem?_getD,xq];rfl
  refine ya.at xq ?_;refine cY.go (λst w'=>∃(k carry:Nat) (out:List Nat),st=[u64 carry,i64 (k:Nat)]/\Chg (λk=>k=o) w4 w'/\w'.heap[o]?=some (.cells (Dr out).toArray U64 (0,0))/\Nk x.l y.l i k out carry/\k<=2000)
   (λst _=>match st with|[_,.int _ k]=>2001-k.toNat|_=>0)
   ⟨0,0,out,rfl,xv,xy,OI hL hj hv,by omega⟩ ?_
  rintro st g2 w8 ⟨k,carry,out2,rfl,xh,xj,hT,yz⟩;simp only[aG,cS];have xl:Ext w3 w8:=xe.then xh λk hk e=>by have e:k=o:=e;omega
  have I:=xb.ext xl;refine Dt (off:=1) I.hb rfl ?_;rw[I.len,dU];refine GdW.look (decide (0<carry)) (λ_ J hJ=>?_) λg3=>?_
  ·rw[mB];have e:decide ((0:Int)<(carry:Int))=decide (0<carry):=by rw[decide_eq_decide];omega
   rw[e];exact hJ
  simp only[aG,mI];rw[fU,bY];have ek:decide ((k:Int)<(y.l.length:Int))=decide (k<y.l.length):=by rw[decide_eq_decide];omega
  rw[ek];refine⟨λxg=>?_,λhr=>?_⟩
  ·have xg:k<y.l.length\/0<carry:=by simpa using xg
   have xp:=aAm hT hg ht hs xg;have zb:=QF hT ht hs;have hstep:=QE hT ht hs xp;have hh:=hT.len;rw[cI,cN (by omega) (by omega),show((i:Int)+(k:Int))=((i+k:Nat):Int)by omega];refine Up xj hh (by omega) ?_;have yn:=hT.car;have yu:=Ae hT.lim (i+k);rw[cI,show((carry:Int)+((out2.getD (i+k) 0:Nat):Int))=((carry+out2.getD (i+k) 0:Nat):Int)by omega,QA (by omega)];refine bU.cut (λst w'=>st=[u64 (Ca x.l y.l out2 i k carry)]/\w'=w8) ?_ ?_
   ·refine Dt (off:=1) I.hb rfl ?_;rw[I.len,dU,aO];refine⟨λxa=>?_,λxa=>?_⟩
    ·have xa:k<y.l.length:=by omega
     obtain⟨m,xr⟩:∃m,y.l[k]?=some m:=⟨_,List.getElem?_eq_getElem xa⟩;have xu:y.l.getD k 0=m:=by rw[List.getD_eq_getElem?_getD,xr];rfl
     refine Dt (off:=1) I.hb rfl ?_;refine I.at xr ?_;have yd:=Ae ht i;have ye:=Ae hs k;rw[xt]at yd;rw[xu]at ye;have yw:n*m<=999999999*999999999:=lQ (by omega) (by omega);rw[Jc,show((n:Int)*(m:Int))=((n*m:Nat):Int)by rw[Int.natCast_mul],QA (by omega)];rw[cI,show(((carry+out2.getD (i+k) 0:Nat):Int)+((n*m:Nat):Int))=((carry+out2.getD (i+k) 0+n*m:Nat):Int)by omega,QA (by omega)];refine⟨?_,rfl⟩;unfold Ca;rw[aJ xa,xt,xu]
    ·refine⟨?_,rfl⟩;unfold Ca;rw[aE (by omega)];rfl
   rintro st g4 w12 ⟨rfl,rfl⟩;simp only[aG];generalize Ca x.l y.l out2 i k carry=cc at*
   rw[cI,cN (by omega) (by omega),show((i:Int)+(k:Int))=((i+k:Nat):Int)by omega];rw[DV];refine⟨by omega,?_⟩;rw[show((cc:Int).tmod 1000000000)=((cc%1000000000:Nat):Int)by rw[uG (by omega)];omega];refine RE xj hh (by omega) λw13 yl xz xx=>?_;rw[Ja];refine⟨by omega,?_⟩;rw[show((cc:Int).tdiv 1000000000)=((cc/1000000000:Nat):Int)by rw[Int.tdiv_eq_ediv_of_nonneg (by omega)];omega,QA (by omega)];rw[cI,cN (by omega) (by omega),show((k:Int)+1)=((k+1:Nat):Int)by omega];refine⟨⟨k+1,_,_,rfl,xh.then xx (λ_ _ e=>e),xz,hstep,by omega⟩,by simp only[aW];omega⟩
  ·have hr:¬k<y.l.length/\carry=0:=by simp at hr;omega
   obtain⟨yf,rfl⟩:=hr;rw[cI,up1 (by omega)];refine⟨⟨i+1,out2,rfl,hg,xh,xj,hT.lim,hT.len,TZ hT hg yf⟩,by simp only[aW];omega⟩
 ·obtain rfl:i=x.l.length:=by omega
  rw[bR]at hv;refine Dt (off:=0) ya.hb rfl ?_;refine Dt (off:=0) yj.hb rfl ?_;have eqb:∀(s t:Bool) (K:Value->Prop),K (.bool (s^^t))->eqW .bool true (.bool s) (.bool t) K:=λs t K h=>by
   cases s<;>cases t<;>exact h
  refine eqb _ _ _ ?_;simp only[wC,gU,aB,aN,aY,bB];refine⟨by omega,by omega,?_⟩;have hR:jI w6 ⟨x.below^^y.below,out⟩ [.bool (x.below^^y.below),.slice (some ⟨o,0,none⟩) (x.l.length+y.l.length+1) (x.l.length+y.l.length+1)]:=by
   refine⟨_,U64,rfl,?_,by show out.length<=1000;omega,hL⟩;have:=aAr xy (by simp only[Dr,cD];exact hj);rw[<-hj]at this⊢;exact this
  refine qY hR λcs' w15 U hz=>?_;refine Nw (w0:=w) (U.at (j.at xi id) id) rfl (by omega) (xd.trans (j.trans U)) hz.one hz.len λw17 xn xw=>?_;refine hK _ cs' w17 xn (hz.keep (p:=false) (q:=.slice none 0 0) (U.at (j.at xi id) id) (λn e=>by cases e) xw) (Ke hx hy hL hv) ?_;have:∀l:List Nat,(iN l).length<=l.length:=λl=>by
   induction l using yP with
   |h0=>rw[sP];simp
   |h1 l x ih=>
    by_cases h:x=0
    ·subst h;rw[qK];simp;omega
    ·rw[vR h];simp
  have:=this out;show(iN out).length<=_;omega
end
end
section
open Go Go.Eng Go.Num Go.RowKit Go.Sort
variable{w:World}{K:Q0}{cs:List Value}{G:Nat->Prop}{T:TypeId}{i:Nat}{n:Nat}{v:Value}{w':World}{P:Program}{c:UInt8}{S:Nat->Prop}
section
variable [HX]
theorem aBW{v:Nat}{K:Q0}(hT:uE w)(hv:v<1000000000000)(hK:∀w',Ext w w'->K (str (Lib.decDigits v)) w'):aC P0 228 [u64 v,i64 10] w K:=by
 refine Ye ?_;unfold aEC;refine XU ?_;unfold aEv;rw[bO,show decide ((10:Int)=10)=true from rfl,dS,dU,aO];refine⟨λhs=>?_,λhs=>?_⟩
 ·rw[mW,cN (by omega) (by omega)];refine fX (args:=#[i64 (v:Nat)]) Tryz.call274 ((Tryz.internal_strconv_small v (by omega) w).mono ?_);rintro e w' ⟨rfl,rfl⟩;exact⟨_,rfl,hK w' (Chg.refl _ _)⟩
 have h1:1<=v:=by omega
 have I:v<18446744073709551616:=by omega
 have hq:Lib.nDigits v<=20:=by have:=Lib.numDigits_eq v h1 I;split at this<;>omega
 have U:List.replicate 24 (Value.int .u8 0)=Lib.zeros24.toList:=rfl;rw[U,Tz];have e0:(Lib.zeros24.toList).toArray=Lib.zeros24:=rfl;rw[e0];have hh:Ext w (w.alloc (.cells Lib.zeros24 262)):=Chg.alloc (Chg.refl _ _) _;refine fX (args:=#[u64 v]) Tryz.call275 ((Tryz.internal_strconv_numDigits v h1 I _ (Jl hh hT.pow)).mono ?_);rintro e w2 ⟨rfl,rfl⟩;refine⟨_,rfl,?_⟩;have hg:Holds (λ(b:UInt8)=>Value.int .u8 (b.toNat:Int)) (w.alloc (.cells Lib.zeros24 262)) w.heap.size 0 (Array.replicate (Lib.nDigits v) (0:UInt8)):=λj J=>by
  have hr:j<Lib.nDigits v:=by simpa using J
  refine⟨?_,World.frozen?_alloc_new _ _ _ _⟩;rw[World.cell?_alloc_new,aX,Lib.zeros24_at _ (by omega),getElem!_pos _ j J];simp
 have hc:∀{K:Value->Prop},K (.slice (some ⟨w.heap.size,0,none⟩) (Lib.nDigits v) 24)->ON 24 1 (.pointer (some ⟨w.heap.size,0,none⟩)) none (some (i64 (Lib.nDigits v))) none K:=λ{K} h=>by
  unfold ON;simp only[fM,eR];refine⟨by omega,by omega,?_⟩;have e:(⟨w.heap.size,0,none⟩:Addr).add 0=⟨w.heap.size,0,none⟩:=rfl;simpa[e]using h
 refine hc ?_;have o:=Tryz.internal_strconv_formatBase10 w.heap.size 0 24 v (Array.replicate (Lib.nDigits v) 0) _ hg (by rw[CR];exact Lib.lt_pow_nDigits v) I (by rw[CR];omega);rw[CR]at o;refine fX (args:=#[.slice (some ⟨w.heap.size,0,none⟩) (Lib.nDigits v) 24,u64 v]) Tryz.call276 (o.mono ?_);rintro e w4 ⟨rfl,k,v',dk,rfl,hF⟩;refine⟨_,rfl,?_⟩;refine hc ?_;have h:=run_convert_bytes_back (P:=P0) ((putRow (λ(b:UInt8)=>Value.int .u8 (b.toNat:Int)) (w.alloc (.cells Lib.zeros24 262)) w.heap.size 0 dk).drewN k) 89 9 5 ⟨w.heap.size,0,none⟩ 24 (Lib.decDigits v) (by kernel_rfl) (by kernel_rfl) (by kernel_rfl) (λj J=>by
  rw[Lib.row_is_numeral hF j J,Lib.add_plain,World.cell?_drewN];exact cell?_putRow (λ(b:UInt8)=>Value.int .u8 (b.toNat:Int)) _ w.heap.size 0 _ dk hg (by rw[hF.size,CR]) j (by rw[hF.size];rw[Lib.decDigits_length]at J;exact J))
 rw[Lib.decDigits_length]at h;refine⟨_,h,?_⟩;obtain⟨os',_,eg⟩:=putRow_grow_new (λ(b:UInt8)=>Value.int .u8 (b.toNat:Int)) w #[.cells Lib.zeros24 262] w.heap.size 0 dk (aV _);rw[alloc_eq_grow,eg];exact hK _ (HB w k os')
end
end
end Go.Proofs.YtghhmpppnmoeoaaGreatDoor
namespace Go.Eng
section
open Go
variable{w:World}{K:Q0}{cs:List Value}{G:Nat->Prop}{T:TypeId}{i:Nat}{n:Nat}{v:Value}{w':World}{P:Program}{c:UInt8}{S:Nat->Prop}
abbrev Ent:=Str×Value×Nat
def mkE(x:Ent):MapEntry:={key:=str x.1,val:=x.2.1,born:=x.2.2}
def yC(l:List Ent):List MapEntry:=l.map mkE
def kT:List Ent->Str->Option Value
 |[],_=>none
 |x::m,k=>if k=x.1 then some x.2.1 else kT m k
def Ba(w:World)(b:Nat)(look:Str->Option Value):Prop:=
 ∃l n,w.heap[b]?=some (.map (yC l).toArray n)/\(l.map (·.1)).Nodup/\∀s,kT l s=look s
theorem tO{k:Str}:∀{l:List Ent},kT l k=none↔k∉l.map (·.1)
 |[]=>by simp[kT]
 |x::m=>by
  unfold kT
  by_cases h:k=x.1
  ·rw[aJ h];simp[h]
  ·rw[aE h,tO (l:=m)];simp[h]
theorem sV{k:Str}:∀(l m:List Ent),kT (l++m) k=match kT l k with|some v=>some v|none=>kT m k
 |[],m=>rfl
 |x::l,m=>by
  simp only[dD,kT]
  by_cases h:k=x.1
  ·rw[aJ h,aJ h]
  ·rw[aE h,aE h,sV l m]
theorem Hb{α:Type}(f:α->α):∀(a:List α) (x:α) (c:List α),(a++x::c).modify a.length f=a++f x::c
 |[],x,c=>rfl
 |y::a,x,c=>by
  have:=Hb f a x c
  simp only[dD,aB,List.modify_succ_cons,this]
theorem JF(k a:Str):Instr.sameNow .string (str k) (str a)=some (decide (k=a)):=by
 have o:Instr.sameNow .string (str k) (str a)=some (ofL k==ofL a):=rfl;rw[o];by_cases h:k=a
 ·subst h;rw[(MapKept.bytes_beq (ofL k) (ofL k)).2 rfl];simp
 ·have j:(ofL k==ofL a)=false:=by
   cases I:(ofL k==ofL a)with
   |false=>rfl
   |true=>exact absurd (NC.1 ((MapKept.bytes_beq _ _).1 I)) h
  rw[j];simp[h]
theorem tQ(k:Str):∀(l:List Ent) (j:Nat),(kT l k=none->Instr.findNow .string (str k) (yC l) j=some none)/\
  ∀v,kT l k=some v->∃a b c,l=a++(k,v,b)::c/\k∉a.map (·.1)/\Instr.findNow .string (str k) (yC l) j=some (some (j+a.length,v))
 |[],j=>⟨λ_=>rfl,λv h=>by cases h⟩
 |(a,x,n)::m,j=>by
  by_cases h:k=a
  ·subst h
   refine⟨λe=>by simp[kT]at e,λv e=>?_⟩
   simp only[kT,gF,bF]at e
   subst e
   refine⟨[],n,m,rfl,by simp,?_⟩
   simp only[yC,dC,mkE,Instr.findNow,JF,aI,aN,eU]
  ·obtain⟨h1,o⟩:=tQ k m (j+1)
   have hf:Instr.findNow .string (str k) (yC ((a,x,n)::m)) j=Instr.findNow .string (str k) (yC m) (j+1):=by
    simp only[yC,dC,mkE,Instr.findNow,JF,cH h]
   rw[hf];simp only[kT,aE h];refine⟨h1,λv e=>?_⟩;obtain⟨a',b',c',r1,r2,r3⟩:=o v e;refine⟨(a,x,n)::a',b',c',by rw[r1];rfl,by simp[h,r2],?_⟩;rw[r3,aB];congr 3;omega
section
variable{P:Program}{T KT ET:TypeId}{w:World}{look:Str->Option Value}
theorem Ba.at_{b:Nat}(h:Ba w b look)(j:Chg S w w')(o:¬S b):Ba w' b look:=by
 obtain⟨l,n,h1,I⟩:=h;exact⟨l,n,j.at h1 o,I⟩
theorem Ba.lt{b:Nat}(h:Ba w b look):b<w.heap.size:=by obtain⟨l,n,h1,j⟩:=h;exact fA h1
theorem Ba.congr{b:Nat}{look':Str->Option Value}(h:Ba w b look)(j:∀s,look s=look' s):Ba w b look':=by
 obtain⟨l,n,h1,I,o⟩:=h;exact⟨l,n,h1,I,λs=>(o s).trans (j s)⟩
theorem RQ{b:Nat}(h:LG w b []):Ba w b λ_=>none:=⟨[],0,h,List.nodup_nil,λ_=>rfl⟩
theorem EJ{b:Nat}{k:Str}{z:Value}{K:Value->Prop}(hT:P.underlying T=some (.map KT ET))(j:P.underlying KT=some .string)(I:CV P ET=some z)(hb:Ba w b look)
  (h1:∀v,look k=some v->K (.tuple #[v,.bool true]))(h0:look k=none->K (.tuple #[z,.bool false])):nZ P (Instr.lookup T (.map (some b)) (str k) true) w K:=by
 obtain⟨l,n,hb,hn,hl⟩:=hb;rw[<-hl]at h1 h0;cases o:kT l k with
 |none=>
  refine⟨_,?_,h0 o⟩;simp only[Instr.lookup,run_bind,bJ hT,MapKept.run_getObj_map hb,run_pure,MapKept.run_checkKey j (show MapKept.IsKey .string (str k)from trivial),MapKept.run_findKey j ((tQ k l 0).1 o),sM I,gF]
 |some v=>
  obtain⟨a,b',c,e1,e2,hf⟩:=(tQ k l 0).2 v o;refine⟨_,?_,h1 v o⟩;simp only[Instr.lookup,run_bind,bJ hT,MapKept.run_getObj_map hb,run_pure,MapKept.run_checkKey j (show MapKept.IsKey .string (str k)from trivial),MapKept.run_findKey j hf,gF]
theorem DG{b:Nat}{o o':Obj}(hb:w.heap[b]?=some o):Chg (λq=>q=b) w {w with heap:=w.heap.setIfInBounds b o'}:=
 ⟨rfl,rfl,rfl,by simp,λq _ j=>(MapKept.heap_set hb).2 q j⟩
theorem RP{b:Nat}{k:Str}{K:World->Prop}(hT:P.underlying T=some (.map KT ET))(o:P.underlying KT=some .string)(hb:Ba w b look)
  (hK:∀w',w'.heap.size=w.heap.size->Ba w' b (λs=>if s=k then some v else look s)->Chg (λq=>q=b) w w'->K w'):nY P (Instr.mapUpdate T (.map (some b)) (str k) v) w K:=by
 obtain⟨l,n,hb,hn,hl⟩:=hb;cases J:kT l k with
 |none=>
  have hf:=(tQ k l 0).1 J;have j:(Instr.mapUpdate T (.map (some b)) (str k) v).run P w=.ok () {w with heap:=w.heap.setIfInBounds b (.map ((yC l).toArray.push {key:=str k,val:=v,born:=n}) (n+1))}:=by
   simp only[Instr.mapUpdate,run_bind,bJ hT,MapKept.run_getObj_map hb,MapKept.run_checkKey o (show MapKept.IsKey .string (str k)from trivial),MapKept.run_findKey o hf,MapKept.run_setObj_map _ hb]
  unfold nY;rw[j];refine hK _ (by simp) ⟨l++[(k,v,n)],n+1,?_,?_,λs=>?_⟩ (DG hb)
  ·show(w.heap.setIfInBounds b _)[b]?=_;rw[(MapKept.heap_set hb).1];simp[yC,mkE]
  ·rw[fE,fD];refine⟨hn,by simp,λx hx y hy=>?_⟩;have:=tO.1 J;simp only[dC,oS,bK]at hy;subst hy;rintro rfl;exact this hx
  ·show kT _ s=if s=k then some v else look s;rw[sV,<-hl];by_cases I:s=k
   ·subst I;rw[J,aJ rfl];simp[kT]
   ·rw[aE I];cases kT l s with
    |none=>simp[kT,I]
    |some x=>rfl
 |some u=>
  obtain⟨a,m,c,e1,e2,hf⟩:=(tQ k l 0).2 u J;rw[aX]at hf;have hg:(yC l).toArray[a.length]?=some {key:=str k,val:=u,born:=m}:=by
   rw[e1];simp[yC,mkE]
  have j:(Instr.mapUpdate T (.map (some b)) (str k) v).run P w=.ok () {w with heap:=w.heap.setIfInBounds b (.map ((yC l).toArray.modify a.length λe=>{e with key:=str k,val:=v}) n)}:=by
   have U:=MapKept.run_keyThatStays (P:=P) (w:=w) (d:=.string) (k:=str k) trivial;simp only[Instr.mapUpdate,run_bind,bJ hT,MapKept.run_getObj_map hb,MapKept.run_checkKey o (show MapKept.IsKey .string (str k)from trivial),MapKept.run_findKey o hf,hg,gK,Option.getD_some,U,MapKept.run_setObj_map _ hb]
  unfold nY;rw[j];refine hK _ (by simp) ⟨a++(k,v,m)::c,n,?_,?_,λs=>?_⟩ (DG hb)
  ·show(w.heap.setIfInBounds b _)[b]?=_;rw[(MapKept.heap_set hb).1,e1];congr 2;apply yG;rw[Array.toList_modify];simp only[yC,fE,dC];have:=Hb (λe:MapEntry=>{e with key:=str k,val:=v}) (a.map mkE) (mkE (k,u,m)) (c.map mkE);rw[cD]at this;exact this
  ·rw[e1]at hn;simpa using hn
  ·show kT _ s=if s=k then some v else look s;rw[<-hl,e1,sV,sV];by_cases I:s=k
   ·subst I;rw[aJ rfl,tO.2 e2];simp[kT]
   ·rw[aE I];cases kT a s with
    |none=>simp[kT,I]
    |some x=>rfl
theorem RU{b:Nat}{k:Str}{ty:TypeId}{K:Q0}(hT:P.underlying T=some (.map KT ET))(o:P.underlying KT=some .string)(hb:Ba w b look)
  (hK:∀w',w'.heap.size=w.heap.size->Ba w' b (λs=>if s=k then none else look s)->Chg (λq=>q=b) w w'->K (.tuple #[]) w'):dF P (Builtin.delete_ #[T,KT] ty #[.map (some b),str k]) w K:=by
 obtain⟨l,n,hb,hn,hl⟩:=hb;cases U:kT l k with
 |none=>
  have hf:=(tQ k l 0).1 U;have j:(Builtin.delete_ #[T,KT] ty #[.map (some b),str k]).run P w=.ok (.tuple #[]) {w with heap:=w.heap.setIfInBounds b (.map (yC l).toArray n)}:=by
   simp[Builtin.delete_,run_bind,bJ hT,MapKept.run_getObj_map hb,MapKept.run_checkKey o (show MapKept.IsKey .string (str k)from trivial),MapKept.run_findKey o hf,MapKept.run_setObj_map _ hb,Result.andThen]
  unfold dF;rw[j];refine hK _ (by simp) ⟨l,n,(MapKept.heap_set hb).1,hn,λs=>?_⟩ (DG hb);show kT _ s=if s=k then none else look s;rw[<-hl];by_cases I:s=k
  ·subst I;rw[aJ rfl,U]
  ·rw[aE I]
 |some u=>
  obtain⟨a,m,c,e1,e2,hf⟩:=(tQ k l 0).2 u U;rw[aX]at hf;have j:(Builtin.delete_ #[T,KT] ty #[.map (some b),str k]).run P w=.ok (.tuple #[]) {w with heap:=w.heap.setIfInBounds b (.map ((yC l).toArray.eraseIdxIfInBounds a.length) n)}:=by
   simp[Builtin.delete_,run_bind,bJ hT,MapKept.run_getObj_map hb,MapKept.run_checkKey o (show MapKept.IsKey .string (str k)from trivial),MapKept.run_findKey o hf,MapKept.run_setObj_map _ hb,Result.andThen]
  unfold dF;rw[j];rw[e1]at hn;rw[fE,fD]at hn;obtain⟨n1,n2,n3⟩:=hn;rw[dC,jP]at n2;refine hK _ (by simp) ⟨a++c,n,?_,?_,λs=>?_⟩ (DG hb)
  ·show(w.heap.setIfInBounds b _)[b]?=_;rw[(MapKept.heap_set hb).1,e1];congr 2;have J:a.length<(yC (a++(k,u,m)::c)).toArray.size:=by simp[yC]
   unfold Array.eraseIdxIfInBounds;rw[dif_pos J];apply yG;rw[Array.toList_eraseIdx];simp only[yC,fE,dC];rw[List.eraseIdx_append_of_length_le (by simp)];simp
  ·rw[fE,fD];exact⟨n1,n2.2,λx hx y hy=>n3 x hx y (aR _ hy)⟩
  ·show kT _ s=if s=k then none else look s;rw[<-hl,e1,sV,sV];by_cases I:s=k
   ·subst I;rw[aJ rfl,tO.2 e2,tO.2 n2.1]
   ·rw[aE I];cases kT a s with
    |none=>simp[kT,I]
    |some x=>rfl
end
end
section
open Go Go.Num Go.Syn
variable{w:World}{K:Q0}{cs:List Value}{G:Nat->Prop}{T:TypeId}{i:Nat}{n:Nat}{v:Value}{w':World}{P:Program}{c:UInt8}{S:Nat->Prop}
structure fI(ex:List Ex)(i:Nat)(env:Env)(v:JV)(s:Nat):Prop where
 ok:∀left,s<=left->uA ex (i+1) i env left=.ok v (left-s)
 no:∀left,left<s->∃a,uA ex (i+1) i env left=.err 3 a
inductive HW (ex:List Ex) (env:Env):List Nat->List JV->Nat->Prop where
 |nil:HW ex env [] [] 0
 |cons {a:Nat} {ags:List Nat} {v:JV} {vs:List JV} {s t:Nat}:fI ex a env v s->HW ex env ags vs t->HW ex env (a::ags) (v::vs) (s+t)
abbrev yA(ex:List Ex):Nat->Env->Nat->EvR JV:=λa env l=>uA ex (a+1) a env l
theorem EO{ex:List Ex}{env:Env}{ags:List Nat}{vs:List JV}{s:Nat}(h:HW ex env ags vs s):(∀left,s<=left->qH (yA ex) env ags left=.ok vs (left-s))/\(∀left,left<s->∃a,qH (yA ex) env ags left=.err 3 a):=by
 induction h with
 |nil=>exact⟨λleft _=>rfl,λleft h=>by omega⟩
 |@cons a ags v vs s t h1 o ih=>
  refine⟨λleft hl=>?_,λleft hl=>?_⟩
  ·unfold qH;show EvR.bind (uA ex (a+1) a env left) _=_;rw[h1.ok left (by omega)];show EvR.bind (qH (yA ex) env ags (left-s)) _=_;rw[ih.1 _ (by omega)];show EvR.ok _ _=_;congr 1;omega
  ·unfold qH;show∃b,EvR.bind (uA ex (a+1) a env left) _=_;by_cases j:left<s
   ·obtain⟨b,hb⟩:=h1.no left j;rw[hb];exact⟨b,rfl⟩
   ·rw[h1.ok left (by omega)];obtain⟨b,hb⟩:=ih.2 (left-s) (by omega);refine⟨b,?_⟩;show EvR.bind (qH (yA ex) env ags (left-s)) _=_;rw[hb];rfl
theorem GH{ex:List Ex}{s:Nat}{e:Ex}{env:Env}{v:JV}(hE:nA ex)(j:ex[i]?=some e)(o:dK v=true)
  (h1:∀left,s<=left->tX (yA ex) ex e env left=.ok v (left-s))(J:∀left,left<s->∃a,tX (yA ex) ex e env left=.err 3 a):fI ex i env v (s+1):=by
 refine⟨λleft hl=>?_,λleft hl=>?_⟩
 ·rw[zP hE j (eO _)];unfold yN;rw[aE (by omega)];show EvR.bind (tX (yA ex) ex e env (left-1)) _=_;rw[h1 (left-1) (by omega)];show(if dK v=true then EvR.ok v (left-1-s)else _)=_;rw[aJ o];congr 1;omega
 ·rw[zP hE j (eO _)];unfold yN;by_cases h0:left=0
  ·exact⟨e.a,by rw[aJ h0]⟩
  ·obtain⟨a,I⟩:=J (left-1) (by omega);refine⟨a,?_⟩;rw[aE h0];show EvR.bind (tX (yA ex) ex e env (left-1)) _=_;rw[I];rfl
theorem zU{ex:List Ex}{s:Nat}{e:Ex}{env:Env}{vs:List JV}{v:JV}(hE:nA ex)(he:ex[i]?=some e)(o:e.k≠28)(j:e.k≠29)(hl:HW ex env e.args vs s)(hm:lK ex e env vs=.ok v)(U:dK v=true):fI ex i env v (s+1):=by
 obtain⟨h1,h2⟩:=EO hl;refine GH hE he U (λleft J=>?_) λleft I=>?_
 ·unfold tX;rw[aE o,aE j,h1 left J];show(lK ex e env vs).at_ _=_;rw[hm];rfl
 ·unfold tX;rw[aE o,aE j];obtain⟨a,ha⟩:=h2 left I;exact⟨a,by rw[ha];rfl⟩
inductive AK (ex:List Ex) (env:Env) (t:Str) (i:Nat):List JV->List JV->Nat->Prop where
 |nil:AK ex env t i [] [] 0
 |cons {x v:JV} {xs vs:List JV} {s n:Nat}:fI ex i (env.set t x) v s->AK ex env t i xs vs n->AK ex env t i (x::xs) (v::vs) (s+n)
theorem Mx{ex:List Ex}{env:Env}{t:Str}{xs vs:List JV}{s:Nat}(h:AK ex env t i xs vs s):(∀left,s<=left->oD (yA ex) env t i xs left=.ok vs (left-s))/\(∀left,left<s->∃a,oD (yA ex) env t i xs left=.err 3 a):=by
 induction h with
 |nil=>exact⟨λleft _=>rfl,λleft h=>by omega⟩
 |@cons x v xs vs s n h1 o ih=>
  refine⟨λleft hl=>?_,λleft hl=>?_⟩
  ·unfold oD;show EvR.bind (uA ex (i+1) i (env.set t x) left) _=_;rw[h1.ok left (by omega)];show EvR.bind (oD (yA ex) env t i xs (left-s)) _=_;rw[ih.1 _ (by omega)];show EvR.ok _ _=_;congr 1;omega
  ·unfold oD;show∃b,EvR.bind (uA ex (i+1) i (env.set t x) left) _=_;by_cases j:left<s
   ·obtain⟨b,hb⟩:=h1.no left j;rw[hb];exact⟨b,rfl⟩
   ·rw[h1.ok left (by omega)];obtain⟨b,hb⟩:=ih.2 (left-s) (by omega);refine⟨b,?_⟩;show EvR.bind (oD (yA ex) env t i xs (left-s)) _=_;rw[hb];rfl
theorem Bq{ex:List Ex}{s l b:Nat}{e:Ex}{env:Env}{xs vs:List JV}(hE:nA ex)(he:ex[i]?=some e)(o:e.k=29)(I:e.args=[l,b])(hl:fI ex l env (lV xs) s)(hb:AK ex env e.t b xs vs n)(hg:dK (lV vs)=true):fI ex i env (lV vs) (s+n+1):=by
 have e0:rU e 0=l:=by unfold rU;rw[I];rfl
 have e1:rU e 1=b:=by unfold rU;rw[I];rfl
 obtain⟨h1,h2⟩:=Mx hb;have hbody:∀left,tX (yA ex) ex e env left=(yA ex l env left).bind λc q=>if c.k=1 then .ok c q else if c.k≠5 then .err 81 e.a else(oD (yA ex) env e.t b c.xs q).bind λvs q'=>.ok (lV vs) q':=λleft=>by
  unfold tX SF;rw[aE (by omega),aJ o,e0,e1]
 refine GH hE he hg (λleft hc=>?_) λleft U=>?_
 ·rw[hbody];show EvR.bind (uA ex (l+1) l env left) _=_;rw[hl.ok left (by omega)];show EvR.bind (oD (yA ex) env e.t b xs (left-s)) _=_;rw[h1 _ (by omega)];show EvR.ok _ _=_;congr 1;omega
 ·rw[hbody];show∃q,EvR.bind (uA ex (l+1) l env left) _=_;by_cases J:left<s
  ·obtain⟨q,j⟩:=hl.no left J;rw[j];exact⟨q,rfl⟩
  ·rw[hl.ok left (by omega)];obtain⟨q,j⟩:=h2 (left-s) (by omega);refine⟨q,?_⟩;show EvR.bind (oD (yA ex) env e.t b xs (left-s)) _=_;rw[j];rfl
theorem Cx{f:Fl}{s:Nat}{scope v:JV}(h:fI f.ex i (rE scope.ks scope.xs) v s)(j:s<=20000):AH f i scope=.ok v:=by
 unfold AH;rw[h.ok 20000 j]
def KR:Nat->List Ex->Bool
 |_,[]=>true
 |i,e::r=>e.args.all (λa=>decide (a<i))&&(!decide (e.k=28)||decide (3<=e.args.length))&&(!decide (e.k=29)||decide (2<=e.args.length))&&KR (i+1) r
theorem Al:∀{l:List Ex} {j:Nat},KR j l=true->∀(i:Nat) (e:Ex),l[i]?=some e->(∀a∈e.args,a<j+i)/\(e.k=28->3<=e.args.length)/\(e.k=29->2<=e.args.length)
 |[],_,_,i,e,o=>by simp at o
 |x::r,j,h,0,e,o=>by
  simp only[List.getElem?_cons_zero,bF]at o
  subst o
  simp only[KR,aL,bN,bD,cQ,dZ,decide_eq_false_iff_not]at h
  exact⟨h.1.1.1,λI=>h.1.1.2.resolve_left λhn=>hn I,λI=>h.1.2.resolve_left λhn=>hn I⟩
 |x::r,j,h,i+1,e,o=>by
  rw[List.getElem?_cons_succ]at o
  simp only[KR,aL]at h
  obtain⟨h1,U⟩:=Al h.2 i e o
  exact⟨λa J=>by have:=h1 a J;omega,U⟩
theorem kG{l:List Ex}(h:KR 0 l=true):nA l:=by
 refine⟨λi e j a I=>?_,λe j o=>?_,λe j o=>?_⟩
 ·have:=(Al h i e j).1 a I;omega
 ·obtain⟨i,hi⟩:=List.getElem?_of_mem j;exact(Al h i e hi).2.1 o
 ·obtain⟨i,hi⟩:=List.getElem?_of_mem j;exact(Al h i e hi).2.2 o
theorem FJ(v:JV):lO v=1+kV v.xs:=by cases v;simp only[lO,JV.xs]
theorem QR:∀(xs:List JV),(∀x∈xs,lO x<=2000->qZ x=lO x)->∀n:Int,1<=n->n+(kV xs:Int)<=2000->lW xs n=n+kV xs
 |[],_,n,_,_=>by simp[lW,kV]
 |x::xs,h,n,h1,I=>by
  simp only[kV]at I
  have o:=h x (by simp) (by omega)
  simp only[lW,kV]
  rw[aJ (by omega),o,cN (by omega) (by omega),QR xs (λy j=>h y (aR _ j)) _ (by omega) (by omega)]
  omega
theorem aDy(v:JV):lO v<=2000->qZ v=lO v:=by
 refine JV.ind' (p:=λv=>lO v<=2000->qZ v=lO v) (λv ih h=>?_) v;rw[FJ]at h;rw[vW,QR v.xs ih 1 (by omega) (by omega),FJ];omega
theorem Hr{v:JV}(hd:kC v 24=true)(j:lO v<=2000)(hp:kA v=true):dK v=true:=by
 unfold dK;rw[hd,hp,iC,iC,bD,aDy v j];omega
theorem MK(b:Bool):dK (bV b)=true:=by cases b<;>decide
theorem NR{s:Str}(h:goodN s=true):dK (nV s)=true:=by
 refine Hr rfl (by rw[FJ];simp[kV,JV.xs]) ?_;rw[jJ];simp[lY,JV.k,JV.b,JV.t,JV.ks,JV.xs,iX,lG,h]
theorem NQ{s:Str}(h:s.length<=16384):dK (tV s)=true:=by
 refine Hr rfl (by rw[FJ];simp[kV,JV.xs]) ?_;rw[jJ];simp[lY,JV.k,JV.b,JV.t,JV.ks,JV.xs,iX,lG,h]
theorem lZ{n:Int}(h:n.natAbs<10^100):dK (iV n)=true:=NR (AW h)
theorem tJ{v:JV}(h:dK v=true):kA v=true:=by unfold dK at h;simp only[aL]at h;exact h.2
theorem Iy{n:Int}(h:n.natAbs<10^100):kA (iV n)=true:=tJ (lZ h)
theorem Sd(s:Str):gJ (nV s)=true:=by rw[Af];rfl
section
variable{ex:List Ex}{env:Env}{i:Nat}{e:Ex}
theorem CZ(hE:nA ex)(J:ex[i]?=some e)(o:e.k≠28)(j:e.k≠29)(U:e.args=[]){v:JV}(hm:lK ex e env []=.ok v)(I:dK v=true):fI ex i env v 1:=
 zU hE J o j (by rw[U];exact .nil) hm I
theorem GI(hE:nA ex)(J:ex[i]?=some e)(o:e.k≠28)(j:e.k≠29){a s:Nat}(U:e.args=[a]){x v:JV}(h:fI ex a env x s)(hm:lK ex e env [x]=.ok v)(I:dK v=true):fI ex i env v (s+1):=
 zU hE J o j (s:=s) (by rw[U];exact .cons h .nil) hm I
theorem CY(hE:nA ex)(J:ex[i]?=some e)(o:e.k≠28)(j:e.k≠29){a b s t:Nat}(U:e.args=[a,b]){x y v:JV}(h:fI ex a env x s)(h':fI ex b env y t)(hm:lK ex e env [x,y]=.ok v)(I:dK v=true):fI ex i env v (s+t+1):=
 zU hE J o j (s:=s+t) (by rw[U];exact .cons h (.cons h' .nil)) hm I
theorem Ps{v:JV}{l:List JV}(j:e.k=9)(h:env e.t=some v):lK ex e env l=.ok v:=by
 unfold lK;simp[j,h]
theorem jA{v:JV}(hE:nA ex)(I:ex[i]?=some e)(j:e.k=9)(J:e.args=[])(h:env e.t=some v)(o:dK v=true):fI ex i env v 1:=
 CZ hE I (by omega) (by omega) J (Ps j h) o
theorem RV{l:List JV}(j:e.k=4):lK ex e env l=.ok (nV e.t):=by unfold lK;simp[j]
theorem tE(hE:nA ex)(I:ex[i]?=some e)(o:e.k=4)(J:e.args=[]){n:Int}(j:goodN e.t=true)(hn:num e.t=n):fI ex i env (iV n) 1:=by
 have h:Lib.itoa n=e.t:=by rw[<-hn];exact Px j
 show fI ex i env (nV (Lib.itoa n)) 1;rw[h];exact CZ hE I (by omega) (by omega) J (RV o) (NR j)
theorem OU(hE:nA ex)(o:ex[i]?=some e)(j:e.k=2)(I:e.args=[]):fI ex i env (bV true) 1:=
 CZ hE o (by omega) (by omega) I (by unfold lK;simp[j]) (MK _)
theorem EK{x y:Int}(j:15<=e.k/\e.k<=19\/22<=e.k/\e.k<=25):lK ex e env [iV x,iV y]=Kk e.k e.a (iV x) (iV y):=by
 unfold lK;have n1:e.k≠1:=by omega
 have n2:¬(e.k=2\/e.k=3):=by omega
 have n4:e.k≠4:=by omega
 have n5:e.k≠5:=by omega
 have n9:e.k≠9:=by omega
 have n6:e.k≠6:=by omega
 have n7:e.k≠7:=by omega
 have n8:e.k≠8:=by omega
 have n10:e.k≠10:=by omega
 have n30:e.k≠30:=by omega
 have n11:e.k≠11:=by omega
 have n12:e.k≠12:=by omega
 have n13:¬(e.k=13\/e.k=14):=by omega
 have n20:¬(e.k=20\/e.k=21):=by omega
 have n26:¬(e.k=26\/e.k=27):=by omega
 rw[aE n1,aE n2,aE n4,aE n5,aE n9,aE n6,aE n7,aE n8,aE n10,aE n30,aE n11,aE n12,aE n13,aE n20,aE n26];rfl
theorem Ih{n:Int}(h:n.natAbs<10^100):iD n=(Lib.itoa n,0):=by
 unfold iD;rw[zF,aE];have:=zI 100 n.natAbs h (by omega);omega
theorem EI(k a x y:Int):Kk k a (iV x) (iV y)=if k=22 then .ok (bV (decide (wT (Lib.itoa x) (Lib.itoa y)<0)))
  else if k=23 then .ok (bV (decide (0<wT (Lib.itoa x) (Lib.itoa y))))
  else if k=24 then .ok (bV (decide (wT (Lib.itoa x) (Lib.itoa y)<=0)))
  else if k=25 then .ok (bV (decide (0<=wT (Lib.itoa x) (Lib.itoa y))))
  else if k=15 then yB a (iD (x+y))
  else if k=16 then yB a (iD (x-y))
  else if k=17 then yB a (iD (x*y))
  else if k=18 then yB a (FG (Lib.itoa x) (Lib.itoa y))
  else if k=19 then yB a (Gf (Lib.itoa x) (Lib.itoa y))
  else .ok (nV []):=by
 show(if(gQ 3 (iV x)&&gQ 3 (iV y))=true then _ else _)=_;rw[aJ (show(gQ 3 (iV x)&&gQ 3 (iV y))=true from rfl)];simp only[JV.t,wH];rfl
theorem QY{x y:Int}{a b s t:Nat}(hE:nA ex)(o:ex[i]?=some e)(j:e.k=15)(I:e.args=[a,b])(h:fI ex a env (iV x) s)(J:fI ex b env (iV y) t)(hb:(x+y).natAbs<10^100):fI ex i env (iV (x+y)) (s+t+1):=
 CY hE o (by omega) (by omega) I h J (by rw[EK (by omega),EI,j,Ih hb];rfl) (lZ hb)
theorem QX{x y:Int}{a b s t:Nat}(hE:nA ex)(o:ex[i]?=some e)(j:e.k=16)(I:e.args=[a,b])(h:fI ex a env (iV x) s)(J:fI ex b env (iV y) t)(hb:(x-y).natAbs<10^100):fI ex i env (iV (x-y)) (s+t+1):=
 CY hE o (by omega) (by omega) I h J (by rw[EK (by omega),EI,j,Ih hb];rfl) (lZ hb)
theorem JE{x y:Int}{a b s t:Nat}(hE:nA ex)(o:ex[i]?=some e)(j:e.k=17)(I:e.args=[a,b])(h:fI ex a env (iV x) s)(J:fI ex b env (iV y) t)(hb:(x*y).natAbs<10^100):fI ex i env (iV (x*y)) (s+t+1):=
 CY hE o (by omega) (by omega) I h J (by rw[EK (by omega),EI,j,Ih hb];rfl) (lZ hb)
theorem WJ{x y:JV}(j:e.k=20\/e.k=21)(kx:gJ x=true)(ky:gJ y=true):lK ex e env [x,y]=.ok (bV (decide (FL x y=0)==decide (e.k=20))):=by
 unfold lK;have n1:e.k≠1:=by omega
 have n2:¬(e.k=2\/e.k=3):=by omega
 have n4:e.k≠4:=by omega
 have n5:e.k≠5:=by omega
 have n9:e.k≠9:=by omega
 have n6:e.k≠6:=by omega
 have n7:e.k≠7:=by omega
 have n8:e.k≠8:=by omega
 have n10:e.k≠10:=by omega
 have n30:e.k≠30:=by omega
 have n11:e.k≠11:=by omega
 have n12:e.k≠12:=by omega
 have n13:¬(e.k=13\/e.k=14):=by omega
 rw[aE n1,aE n2,aE n4,aE n5,aE n9,aE n6,aE n7,aE n8,aE n10,aE n30,aE n11,aE n12,aE n13,aJ j];exact aJ ⟨kx,ky⟩
theorem Ug{x y:JV}{p:Prop}[Decidable p]{a b s t:Nat}(hE:nA ex)(J:ex[i]?=some e)(j:e.k=20)(U:e.args=[a,b])(h:fI ex a env x s)(h':fI ex b env y t)(kx:gJ x=true)(ky:gJ y=true)(I:kA x=true)(o:kA y=true)(hp:x=y↔p):fI ex i env (bV (decide p)) (s+t+1):=
 CY hE J (by omega) (by omega) U h h' (by
  rw[WJ (.inl j) kx ky,bH j]
  congr 2
  have hd:decide (FL x y=0)=decide p:=by rw[decide_eq_decide,Lk x y I o,hp]
  rw[hd]
  cases decide p<;>rfl) (MK _)
theorem sU{x y:JV}{a b s t:Nat}(hE:nA ex)(I:ex[i]?=some e)(o:e.k=20)(J:e.args=[a,b])(h:fI ex a env x s)(U:fI ex b env y t)(kx:gJ x=true)(j:kA x=true)(hp:x=y):fI ex i env (bV true) (s+t+1):=by
 have:=Ug (p:=True) hE I o J h U kx (hp▸kx) j (hp▸j) (by simp[hp]);simpa using this
theorem Em{a b s t:Nat}{p q:Bool}(hE:nA ex)(o:ex[i]?=some e)(j:e.k=26)(I:e.args=[a,b])(h:fI ex a env (bV p) s)(J:fI ex b env (bV q) t):fI ex i env (bV (p&&q)) (s+t+1):=
 CY hE o (by omega) (by omega) I h J (by unfold lK;rw[j];cases p<;>cases q<;>rfl) (MK _)
theorem He{l:List JV}(j:e.k=12):lK ex e env l=if(rG e.t l).2=0 then .ok (rG e.t l).1 else .err (rG e.t l).2 e.a:=by unfold lK;simp[j]
theorem Ln{name:Str}{a:List JV}{f:FnM}{v:JV}(hl:BD fnT name=some f)(J:∀x∈a,dK x=true)(I:∀x∈a,gJ x=true)(hf:xW f a=true)(U:f.act a=some v)(o:dK v=true):rG name a=(v,0):=by
 unfold rG;have h1:a.any (λx=> !dK x)=false:=by rw[oU];intro x j;simp[J x j]
 have h2:a.any (λx=> !gJ x)=false:=by rw[oU];intro x j;simp[I x j]
 rw[h1,hl];simp only[fF,kL,h2,hf,iW,U,o,gF]
theorem El{a s:Nat}{x v:JV}{f:FnM}(hE:nA ex)(he:ex[i]?=some e)(U:e.k=12)(ha:e.args=[a])(h:fI ex a env x s)(hl:BD fnT e.t=some f)(hg:dK x=true)(I:gJ x=true)(hf:xW f [x]=true)(j:f.act [x]=some v)(J:dK v=true):fI ex i env v (s+1):=
 GI hE he (by omega) (by omega) ha h (by
  rw[He U,Ln hl (λz o=>by rw[bK.1 o];exact hg) (λz o=>by rw[bK.1 o];exact I) hf j J]
  rfl) J
theorem Mc{a b s t:Nat}{x y v:JV}{f:FnM}(hE:nA ex)(he:ex[i]?=some e)(hk:e.k=12)(ha:e.args=[a,b])(h:fI ex a env x s)(h':fI ex b env y t)(hl:BD fnT e.t=some f)(hg:dK x=true)(U:gJ x=true)(hh:dK y=true)(J:gJ y=true)(hf:xW f [x,y]=true)(o:f.act [x,y]=some v)(I:dK v=true):fI ex i env v (s+t+1):=
 CY hE he (by omega) (by omega) ha h h' (by
  rw[He hk,Ln hl (λz j=>by simp only[bM,eA,mO]at j;rcases j with rfl|rfl<;>assumption) (λz j=>by simp only[bM,eA,mO]at j;rcases j with rfl|rfl<;>assumption) hf o I]
  rfl) I
end
def uH(s:Str):Str:=[97,32,123,10,32,32,120,32,61,32]++s++[10,125]
def I63(n:Int):Prop:=-9223372036854775808<=n/\n<=9223372036854775807
theorem I63.abs{n:Int}(h:I63 n):n.natAbs<=9223372036854775808:=by obtain⟨h1,j⟩:=h;omega
theorem Fc{n:Int}(h:n.natAbs<10^100):(Lib.itoa n).length<=101:=by
 have h1:=zI 100 n.natAbs h (by omega);unfold Lib.itoa;split
 ·simp only[aB];omega
 ·have:n.toNat=n.natAbs:=by omega
  rw[this];omega
def KQ:List Ex:=[⟨4,[49],[],[],10⟩,⟨4,[50],[],[],14⟩,⟨4,[51],[],[],18⟩,⟨17,[],[1,2],[],16⟩,⟨15,[],[0,3],[],12⟩]
def ZE:Str:=[49,32,43,32,50,32,42,32,51]
theorem aDF:Go.Syn.parseM (uH ZE)=.ok ⟨KQ,[⟨[97],[],[⟨[120],4,6⟩],[],0⟩],[0]⟩:=by decide+kernel
def Do:List Ex:=[⟨5,[97],[],[],11⟩,⟨4,[49],[],[],14⟩,⟨2,[],[],[],18⟩,⟨6,[],[0,1,2],[[116],[101],[101]],10⟩]
def ZD:Str:=[34,97,36,123,49,125,36,123,116,114,117,101,125,34]
theorem aDE:Go.Syn.parseM (uH ZD)=.ok ⟨Do,[⟨[97],[],[⟨[120],3,6⟩],[],0⟩],[0]⟩:=by decide+kernel
def FB:List Ex:=[⟨4,[49],[],[],10⟩,⟨4,[48],[],[],14⟩,⟨18,[],[0,1],[],12⟩]
def ZC:Str:=[49,32,47,32,48]
theorem aDD:Go.Syn.parseM (uH ZC)=.ok ⟨FB,[⟨[97],[],[⟨[120],2,6⟩],[],0⟩],[0]⟩:=by decide+kernel
theorem Cu{xs:List JV}(hd:∀x∈xs,kC x 23=true)(hp:∀x∈xs,kA x=true)(j:1+kV xs<=2000):dK (lV xs)=true:=by
 refine Hr ?_ (by rw[FJ];exact j) ?_
 ·rw[show(24:Nat)=23+1 from rfl,iA,jB,bN];exact hd
 ·rw[jJ];have:lG (lV xs).xs=true:=by rw[nC,bN];exact hp
  rw[this];simp[lY,JV.k,JV.b,JV.t,JV.ks,JV.xs,iX]
theorem wQ{v:JV}(h:v.xs=[])(m:Nat):kC v (m+1)=true:=by rw[iA,h];rfl
theorem HE{xs:List JV}{m:Nat}(h:∀x∈xs,kC x m=true):kC (lV xs) (m+1)=true:=by
 rw[iA,jB,bN];exact h
theorem pD:∀(v:JV) {m k:Nat},m<=k->kC v m=true->kC v k=true:=by
 intro v;refine JV.ind' (p:=λv=>∀{m k:Nat},m<=k->kC v m=true->kC v k=true) (λv ih m k h hd=>?_) v;cases m with
 |zero=>rw[oO]at hd;cases hd
 |succ m=>
  cases k with
  |zero=>omega
  |succ k=>
   rw[iA,jB,bN]at hd⊢;exactλx j=>ih x j (by omega) (hd x j)
theorem Ao:∀{xs:List JV},(∀x∈xs,x.xs=[])->kV xs=xs.length
 |[],_=>rfl
 |x::xs,h=>by
  rw[kV,FJ,h x (by simp),Ao λy j=>h y (aR _ j),aB]
  simp[kV];omega
theorem IW{c:Nat}:∀{xs:List JV},(∀x∈xs,lO x<=c)->kV xs<=c*xs.length
 |[],_=>by simp[kV]
 |x::xs,h=>by
  have h1:=h x (by simp)
  have o:=IW λy j=>h y (aR _ j)
  rw[kV,aB,Nat.mul_succ];omega
theorem pC{l:List Int}(h:∀n∈l,n.natAbs<10^100)(hl:l.length<=1999):dK (lV (l.map λn=>iV n))=true:=by
 refine Cu (λx j=>?_) (λx j=>?_) ?_
 ·obtain⟨n,_,rfl⟩:=dL.1 j;exact wQ rfl _
 ·obtain⟨n,hn,rfl⟩:=dL.1 j;exact Iy (h n hn)
 ·rw[Ao (λx j=>by obtain⟨n,_,rfl⟩:=dL.1 j;rfl),cD];omega
theorem NG{xs:List JV}(h:∀x∈xs,gJ x=true):gJ (lV xs)=true:=by
 rw[Af,AS];show(true&&xs.all gJ)=true;rw[iB,bN];exact h
theorem II(l:List Int):gJ (lV (l.map λn=>iV n))=true:=NG λx j=>by obtain⟨n,_,rfl⟩:=dL.1 j;exact Sd _
theorem Nj(xs:List JV):sX.act [lV xs]=some (iV xs.length):=rfl
def CF(n:Nat):Str:=if n<10 then [UInt8.ofNat (48+n)]else [UInt8.ofNat (48+n/10),UInt8.ofNat (48+n%10)]
theorem Xq(h:n<100):Lib.decDigits n=CF n:=by
 unfold CF;rw[Lib.decDigits];split
 ·rfl
 ·rw[Lib.decDigits,dif_pos (by omega)];rfl
theorem Ah(h:n<100):Lib.itoa (n:Nat)=CF n:=by
 unfold Lib.itoa;rw[aE (by omega),aW,Xq h]
def more(n:Nat)(a:Int):Int:=if n<10 then a else a+1
theorem vY{α:Type}{ex:List Ex}{env:Env}{t:Str}{i c:Nat}(f g:α->JV):∀{l:List α},(∀n∈l,fI ex i (env.set t (f n)) (g n) c)->AK ex env t i (l.map f) (l.map g) (c*l.length)
 |[],_=>by simpa using AK.nil
 |x::xs,h=>by
  have:=AK.cons (h x (by simp)) (vY f g λy j=>h y (aR _ j))
  rw[aB,Nat.mul_succ,rH]
  exact this
def OB(ex:List Ex)(i:Nat)(env:Env)(c a:Int)(s:Nat):Prop:=∀left,s<=left->uA ex (i+1) i env left=.err c a
theorem FD{ex:List Ex}{s:Nat}{e:Ex}{env:Env}{vs:List JV}{c a:Int}(hE:nA ex)(J:ex[i]?=some e)(o:e.k≠28)(j:e.k≠29)(hl:HW ex env e.args vs s)(hm:lK ex e env vs=.err c a):OB ex i env c a (s+1):=by
 obtain⟨h1,_⟩:=EO hl;intro left I;rw[zP hE J (eO _)];unfold yN;rw[aE (by omega)];show EvR.bind (tX (yA ex) ex e env (left-1)) _=_;unfold tX;rw[aE o,aE j,h1 _ (by omega)];show EvR.bind ((lK ex e env vs).at_ _) _=_;rw[hm];rfl
theorem HC{f:Fl}{s:Nat}{scope:JV}{c a:Int}(h:OB f.ex i (rE scope.ks scope.xs) c a s)(j:s<=20000):AH f i scope=.err c a:=by
 unfold AH;rw[h 20000 j]
abbrev jG(l:List Int):List JV:=l.map λn=>iV n
theorem Hl(a:Int)(xs:List JV)(n:Int):vO a (lV xs) (iV n)=if 0<=num (Lib.itoa n)/\num (Lib.itoa n)<xs.length then MdR.ok (xs.getD (num (Lib.itoa n)).toNat JV.null)else MdR.err 82 a:=rfl
theorem Sv{xs:List JV}{j:Nat}(a:Int)(h:j<xs.length):vO a (lV xs) (iV (j:Int))=.ok (xs.getD j JV.null):=by
 rw[Hl,wH,aJ ⟨by omega,by omega⟩,aW]
theorem Sw(a:Int):vO a (lV []) (iV 0)=.err 82 a:=by
 rw[Hl,wH,aE (by simp)]
theorem Mw{ex:List Ex}{e:Ex}{env:Env}{x:JV}(j:e.k=30):lK ex e env [x]=rM e.t e.a x:=by unfold lK;rw[j];rfl
theorem LX(t:Str)(a:Int)(ys:List JV):rM t a (lV ys)=(oP t a ys).bind λxs=>.ok (lV xs):=rfl
theorem EL{ex:List Ex}{e:Ex}{env:Env}{x y:JV}(j:e.k=11):lK ex e env [x,y]=vO e.a x y:=by unfold lK;rw[j];rfl
theorem xB{ex:List Ex}{p q s t j:Nat}{e:Ex}{env:Env}{xs:List JV}{v:JV}(hE:nA ex)(he:ex[i]?=some e)(J:e.k=11)(ha:e.args=[p,q])(h:fI ex p env (lV xs) s)(h':fI ex q env (iV (j:Int)) t)(I:xs[j]?=some v)(U:dK v=true):fI ex i env v (s+t+1):=by
 have o:=(List.getElem?_eq_some_iff.1 I).1;refine CY hE he (by omega) (by omega) ha h h' ?_ U;rw[EL J,Sv e.a o,List.getD_eq_getElem?_getD,I];rfl
def obK(x:JV):JV:=.mk 6 false [] [x] [[107]]
theorem BM(n:Int)(h:n.natAbs<10^100):dK (obK (iV n))=true/\kC (obK (iV n)) 2=true/\kA (obK (iV n))=true/\lO (obK (iV n))=2/\gJ (obK (iV n))=true:=by
 have hd:kC (obK (iV n)) 2=true:=by rw[show(2:Nat)=1+1 from rfl,iA,jB];simp only[obK,JV.xs,eV,Ga,iC];exact wQ rfl 0
 have hp:kA (obK (iV n))=true:=by
  rw[jJ];have:lG (obK (iV n)).xs=true:=by rw[nC];simp[obK,JV.xs];exact Iy h
  rw[this];simp[obK,lY,JV.k,JV.b,JV.t,JV.ks,JV.xs,iX]
 have j:lO (obK (iV n))=2:=by rw[FJ];simp[obK,JV.xs,kV,lO]
 exact⟨Hr (pD _ (by omega) hd) (by omega) hp,hd,hp,j,by rw[Af,AS];simp[obK,JV.k,JV.xs,gJ,yY]⟩
theorem HS(a:Int):∀xs:List JV,oP [107] a (xs.map obK)=.ok xs
 |[]=>rfl
 |x::xs=>by
  rw[dC,oP]
  have:sC [107] a (obK x)=.ok x:=rfl
  rw[this]
  show((oP [107] a (xs.map obK)).bind λxs=>MdR.ok (x::xs))=_
  rw[HS a xs];rfl
def vC:List Ex:=[⟨9,[108],[],[],17⟩,⟨12,[108,101,110,103,116,104],[0],[],10⟩,⟨9,[110],[],[],23⟩,⟨20,[],[1,2],[],20⟩,⟨9,[108],[],[],38⟩,⟨9,[120],[],[],42⟩,⟨29,[120],[4,5],[],28⟩,⟨9,[108],[],[],48⟩,⟨20,[],[6,7],[],45⟩,⟨26,[],[3,8],[],25⟩,⟨9,[108],[],[],63⟩,⟨9,[120],[],[],72⟩,⟨8,[],[11],[[107]],67⟩,⟨29,[120],[10,12],[],53⟩,⟨30,[107],[13],[],75⟩,⟨9,[108],[],[],84⟩,⟨20,[],[14,15],[],81⟩,⟨26,[],[9,16],[],50⟩,⟨9,[108],[],[],96⟩,⟨7,[],[],[],99⟩,⟨12,[99,111,110,99,97,116],[18,19],[],89⟩,⟨9,[108],[],[],106⟩,⟨20,[],[20,21],[],103⟩,⟨26,[],[17,22],[],86⟩]
def ZI:Str:=[108,101,110,103,116,104,40,108,41,32,61,61,32,110,32,38,38,32,91,102,111,114,32,120,32,105,110,32,108,32,58,32,120,93,32,61,61,32,108,32,38,38,32,91,102,111,114,32,120,32,105,110,32,108,32,58,32,123,107,32,61,32,120,125,93,91,42,93,46,107,32,61,61,32,108,32,38,38,32,99,111,110,99,97,116,40,108,44,32,91,93,41,32,61,61,32,108]
theorem aDJ:Go.Syn.parseM (uH ZI)=.ok ⟨vC,[⟨[97],[],[⟨[120],23,6⟩],[],0⟩],[0]⟩:=by decide+kernel
def sB:List Ex:=[⟨9,[108],[],[],20⟩,⟨9,[108],[],[],34⟩,⟨9,[120],[],[],38⟩,⟨9,[121],[],[],42⟩,⟨17,[],[2,3],[],40⟩,⟨29,[121],[1,4],[],24⟩,⟨29,[120],[0,5],[],10⟩,⟨9,[108],[],[],59⟩,⟨9,[108],[],[],73⟩,⟨9,[121],[],[],77⟩,⟨9,[120],[],[],81⟩,⟨17,[],[9,10],[],79⟩,⟨29,[120],[8,11],[],63⟩,⟨29,[121],[7,12],[],49⟩,⟨20,[],[6,13],[],46⟩]
def ZH:Str:=[91,102,111,114,32,120,32,105,110,32,108,32,58,32,91,102,111,114,32,121,32,105,110,32,108,32,58,32,120,32,42,32,121,93,93,32,61,61,32,91,102,111,114,32,121,32,105,110,32,108,32,58,32,91,102,111,114,32,120,32,105,110,32,108,32,58,32,121,32,42,32,120,93,93]
theorem aDI:Go.Syn.parseM (uH ZH)=.ok ⟨sB,[⟨[97],[],[⟨[120],14,6⟩],[],0⟩],[0]⟩:=by decide+kernel
def FC:List Ex:=[⟨9,[108],[],[],10⟩,⟨4,[48],[],[],12⟩,⟨11,[],[0,1],[],11⟩]
def ZG:Str:=[108,91,48,93]
theorem aDH:Go.Syn.parseM (uH ZG)=.ok ⟨FC,[⟨[97],[],[⟨[120],2,6⟩],[],0⟩],[0]⟩:=by decide+kernel
def xX:List Ex:=[⟨9,[108],[],[],18⟩,⟨12,[114,101,118,101,114,115,101],[0],[],10⟩,⟨9,[110],[],[],21⟩,⟨4,[49],[],[],25⟩,⟨16,[],[2,3],[],23⟩,⟨11,[],[1,4],[],20⟩,⟨9,[108],[],[],31⟩,⟨4,[48],[],[],33⟩,⟨11,[],[6,7],[],32⟩,⟨20,[],[5,8],[],28⟩]
def ZF:Str:=[114,101,118,101,114,115,101,40,108,41,91,110,32,45,32,49,93,32,61,61,32,108,91,48,93]
theorem aDG:Go.Syn.parseM (uH ZF)=.ok ⟨xX,[⟨[97],[],[⟨[120],9,6⟩],[],0⟩],[0]⟩:=by decide+kernel
def xY(n:Nat):List Ex:=[⟨9,[108],[],[],10⟩,⟨4,CF n,[],[],12⟩,⟨11,[],[0,1],[],11⟩]
def QB(n:Nat):Str:=[108,91]++CF n++[93]
theorem aDL:∀n:Fin 30,Go.Syn.parseM (uH (QB n.val))=.ok ⟨xY n.val,[⟨[97],[],[⟨[120],2,6⟩],[],0⟩],[0]⟩:=by decide+kernel
def rD(n:Nat):List Ex:=[⟨9,[108],[],[],15⟩,⟨9,[108],[],[],27⟩,⟨4,CF n,[],[],29⟩,⟨11,[],[1,2],[],28⟩,⟨8,[],[3],[[99]],22⟩,⟨8,[],[0,4],[[97],[98]],10⟩,⟨10,[98],[5],[],more n 33⟩,⟨10,[99],[6],[],more n 35⟩]
def Nn(n:Nat):Str:=[123,97,32,61,32,108,44,32,98,32,61,32,123,99,32,61,32,108,91]++CF n++[93,125,125,46,98,46,99]
theorem aDK:∀n:Fin 30,Go.Syn.parseM (uH (Nn n.val))=.ok ⟨rD n.val,[⟨[97],[],[⟨[120],7,6⟩],[],0⟩],[0]⟩:=by decide+kernel
structure ShA(l:List Int)(env:Env):Prop where
 hn:∀n∈l,I63 n
 hl:l.length<=30
 el:env [108]=some (lV (jG l))
theorem zA{l:List Int}{env:Env}(H:ShA l env):∀n∈l,n.natAbs<10^100:=λn h=>by have:=(H.hn n h).abs;omega
theorem Ul{l:List Int}{env:Env}(H:ShA l env)(en:env [110]=some (iV (l.length:Int))):∃s,s<=1000/\fI vC 23 env (bV true) s:=by
 obtain⟨hn,hl,el⟩:=id H;have hE:nA vC:=kG (by decide);have ab:=zA H;have gl:dK (lV (jG l))=true:=pC ab (by omega);have kl:gJ (lV (jG l))=true:=II l;have pl:=tJ gl;have name:∀{i:Nat} {a:Int},vC[i]?=some ⟨9,[108],[],[],a⟩->fI vC i env (lV (jG l)) 1:=λhe=>jA hE he rfl rfl el gl;have gn:dK (iV (l.length:Int))=true:=lZ (by omega);have h0:=name (i:=0) rfl;have h1:=El (f:=sX) hE (i:=1) rfl rfl rfl h0 rfl gl kl rfl (Nj _) (by rw[cD];exact gn);have h2:=jA hE (i:=2) rfl rfl rfl en gn;have h3:=sU hE (i:=3) rfl rfl rfl h1 h2 (Sd _) (tJ (by rw[cD];exact gn)) (by rw[cD]);have f6:AK vC env [120] 5 (l.map λn=>iV n) (l.map λn=>iV n) (1*l.length):=vY _ _ λn hm=>jA hE (i:=5) rfl rfl rfl rfl (lZ (ab n hm));have h6:=Bq hE (i:=6) rfl rfl rfl (name (i:=4) rfl) f6 gl;have h8:=sU hE (i:=8) rfl rfl rfl h6 (name (i:=7) rfl) kl pl rfl;have h9:=Em hE (i:=9) rfl rfl rfl h3 h8;have f13:AK vC env [120] 12 (l.map λn=>iV n) (l.map λn=>obK (iV n)) (2*l.length):=vY _ _ λn hm=>by
  have hj:fI vC 11 (env.set [120] (iV n)) (iV n) 1:=jA hE (i:=11) rfl rfl rfl rfl (lZ (ab n hm));exact GI hE (i:=12) rfl (by decide) (by decide) rfl hj rfl (BM n (ab n hm)).1
 have g13:dK (lV (l.map λn=>obK (iV n)))=true:=by
  refine Cu (λx j=>?_) (λx j=>?_) ?_
  ·obtain⟨n,hm,rfl⟩:=dL.1 j;exact pD _ (by omega) (BM n (ab n hm)).2.1
  ·obtain⟨n,hm,rfl⟩:=dL.1 j;exact(BM n (ab n hm)).2.2.1
  ·have:=IW (c:=2) (xs:=l.map λn=>obK (iV n)) λx j=>by obtain⟨n,hm,rfl⟩:=dL.1 j;rw[(BM n (ab n hm)).2.2.2.1];exact aV _
   rw[cD]at this;omega
 have hi:=Bq hE (i:=13) rfl rfl rfl (name (i:=10) rfl) f13 g13;have hh:fI vC 14 env (lV (jG l)) _:=GI hE (i:=14) rfl (by decide) (by decide) rfl hi (by
  rw[Mw rfl,LX];have:=HS 75 (jG l);rw[List.map_map]at this;show MdR.bind (oP [107] 75 (l.map (obK∘λn=>iV n))) _=_;rw[this];rfl) gl
 have hg:=sU hE (i:=16) rfl rfl rfl hh (name (i:=15) rfl) kl pl rfl;have hc:=Em hE (i:=17) rfl rfl rfl h9 hg;have U:fI vC 19 env (lV []) 1:=CZ hE rfl (by decide) (by decide) rfl rfl (by decide);have J:fI vC 20 env (lV (jG l)) _:=Mc (f:=Ak) hE (i:=20) rfl rfl rfl (name (i:=18) rfl) U rfl gl kl (by decide) (by decide) rfl (by show some (lV ([jG l,[]]:List (List JV)).flatten)=_;simp) gl;have I:=sU hE (i:=22) rfl rfl rfl J (name (i:=21) rfl) kl pl rfl;have o:=Em hE (i:=23) rfl rfl rfl hc I;exact⟨_,by omega,o⟩
theorem Uk{l:List Int}{env:Env}(H:ShA l env):∃s,s<=10000/\fI sB 14 env (bV true) s:=by
 obtain⟨hn,hl,el⟩:=id H;have hE:nA sB:=kG (by decide);have ab:=zA H;have gl:dK (lV (jG l))=true:=pC ab (by omega);have mul:∀x∈l,∀y∈l,(x*y).natAbs<10^100:=λx j y I=>by
  have:(x*y).natAbs<=9223372036854775808*9223372036854775808:=by rw[Int.natAbs_mul];exact lQ (hn x j).abs (hn y I).abs
  omega
 have gr:∀x∈l,dK (lV (l.map λy=>iV (x*y)))=true/\gJ (lV (l.map λy=>iV (x*y)))=true/\lO (lV (l.map λy=>iV (x*y)))<=31/\kC (lV (l.map λy=>iV (x*y))) 2=true:=λx j=>by
  have e:(l.map λy=>iV (x*y))=(l.map λy=>x*y).map λn=>iV n:=by rw[List.map_map];rfl
  refine⟨?_,?_,?_,HE λv o=>by obtain⟨y,I,rfl⟩:=dL.1 o;exact wQ rfl _⟩
  ·rw[e];exact pC (λn hm=>by obtain⟨y,I,rfl⟩:=dL.1 hm;exact mul x j y I) (by rw[cD];omega)
  ·rw[e];exact II _
  ·rw[FJ];show 1+kV (l.map λy=>iV (x*y))<=31;rw[Ao (λv o=>by obtain⟨y,I,rfl⟩:=dL.1 o;rfl),cD];omega
 have go:dK (lV (l.map λx=>lV (l.map λy=>iV (x*y))))=true:=by
  refine Cu (λv o=>?_) (λv o=>?_) ?_
  ·obtain⟨x,j,rfl⟩:=dL.1 o;exact pD _ (by omega) (gr x j).2.2.2
  ·obtain⟨x,j,rfl⟩:=dL.1 o;exact tJ (gr x j).1
  ·have:=IW (c:=31) (xs:=l.map λx=>lV (l.map λy=>iV (x*y))) λv o=>by obtain⟨x,j,rfl⟩:=dL.1 o;exact(gr x j).2.2.1
   rw[cD]at this;omega
 have ko:gJ (lV (l.map λx=>lV (l.map λy=>iV (x*y))))=true:=NG λv o=>by obtain⟨x,j,rfl⟩:=dL.1 o;exact(gr x j).2.1
 have J:∀(kx ky:Str) (i0 i1 i2 i3 i4 i5 i6:Nat) (a0 a1 a2 a3 a4 a5 a6:Int),kx≠ky->kx≠[108]->ky≠[108]->sB[i0]?=some ⟨9,[108],[],[],a0⟩->sB[i1]?=some ⟨9,[108],[],[],a1⟩->sB[i2]?=some ⟨9,kx,[],[],a2⟩->sB[i3]?=some ⟨9,ky,[],[],a3⟩->
   sB[i4]?=some ⟨17,[],[i2,i3],[],a4⟩->sB[i5]?=some ⟨29,ky,[i1,i4],[],a5⟩->sB[i6]?=some ⟨29,kx,[i0,i5],[],a6⟩->fI sB i6 env (lV (l.map λx=>lV (l.map λy=>iV (x*y)))) (1+(1+(1+1+1)*l.length+1)*l.length+1):=by
  intro kx ky i0 i1 i2 i3 i4 i5 i6 a0 a1 a2 a3 a4 a5 a6 U hc hi e0 e1 e2 e3 e4 e5 e6;have h0:fI sB i0 env (lV (jG l)) 1:=jA hE e0 rfl rfl el gl;refine Bq hE e6 rfl rfl h0 (vY _ _ λx j=>?_) go;have h1:fI sB i1 (env.set kx (iV x)) (lV (jG l)) 1:=jA hE e1 rfl rfl (by show(if([108]:Str)=kx then _ else _)=_;rw[aE (tA hc)];exact el) gl;refine Bq hE e5 rfl rfl h1 (vY _ _ λy I=>?_) (gr x j).1;have h2:fI sB i2 ((env.set kx (iV x)).set ky (iV y)) (iV x) 1:=jA hE e2 rfl rfl (by show(if kx=ky then _ else if kx=kx then some (iV x)else _)=_;rw[aE U,aJ rfl]) (lZ (ab x j));have h3:fI sB i3 ((env.set kx (iV x)).set ky (iV y)) (iV y) 1:=jA hE e3 rfl rfl (by show(if ky=ky then some (iV y)else _)=_;rw[aJ rfl]) (lZ (ab y I));exact JE hE e4 rfl rfl h2 h3 (mul x j y I)
 have h6:=J [120] [121] 0 1 2 3 4 5 6 _ _ _ _ _ _ _ (by decide) (by decide) (by decide) rfl rfl rfl rfl rfl rfl rfl;have hh:=J [121] [120] 7 8 9 10 11 12 13 _ _ _ _ _ _ _ (by decide) (by decide) (by decide) rfl rfl rfl rfl rfl rfl rfl;have hg:=sU hE (i:=14) rfl rfl rfl h6 hh ko (tJ go) rfl;refine⟨_,?_,hg⟩;have h1:(1+(1+1+1)*l.length+1)*l.length<=92*30:=lQ (by omega) hl;omega
theorem Uj{l:List Int}{env:Env}(H:ShA l env)(h0:l=[]):OB FC 2 env 82 11 3:=by
 obtain⟨hn,hl,el⟩:=id H;have hE:nA FC:=kG (by decide);subst h0;have h0:fI FC 0 env (lV []) 1:=jA hE rfl rfl rfl el (by decide);have h1:fI FC 1 env (iV 0) 1:=tE (n:=0) hE rfl rfl rfl (by decide) (by decide);exact FD hE rfl (by decide) (by decide) (.cons h0 (.cons h1 .nil)) (by rw[EL rfl];exact Sw _)
theorem La{env:Env}{ex:List Ex}(hE:nA ex){j:Nat}{a:Int}(I:j<30)(o:ex[i]?=some ⟨4,CF j,[],[],a⟩):fI ex i env (iV (j:Int)) 1:=
 tE hE o rfl rfl (by show goodN (CF j)=true;rw[<-Ah (by omega)];exact AW (n:=(j:Int)) (by omega)) (by show num (CF j)=_;rw[<-Ah (by omega)];exact wH _)
theorem WR{l:List Int}{env:Env}(H:ShA l env){j:Nat}{n:Int}(o:l[j]?=some n):fI (xY j) 2 env (iV n) 3:=by
 obtain⟨hn,hl,el⟩:=id H;have hE:nA (xY j):=kG (by unfold xY;rfl);have ab:=zA H;have I:=(List.getElem?_eq_some_iff.1 o).1;have h0:fI (xY j) 0 env (lV (jG l)) 1:=jA hE rfl rfl rfl el (pC ab (by omega));have h1:fI (xY j) 1 env (iV (j:Int)) 1:=La hE (by omega) rfl;exact xB hE (i:=2) rfl rfl rfl h0 h1 (by rw[List.getElem?_map,o];rfl) (lZ (ab n (bG o)))
theorem Ww{l:List Int}{env:Env}(H:ShA l env){j:Nat}{n:Int}(I:l[j]?=some n):∃s,s<=100/\fI (rD j) 7 env (iV n) s:=by
 obtain⟨hn,hl,el⟩:=id H;have hE:nA (rD j):=kG (by unfold rD;rfl);have ab:=zA H;have gn:=ab n (bG I);have gl:dK (lV (jG l))=true:=pC ab (by omega);have U:=(List.getElem?_eq_some_iff.1 I).1;have h0:fI (rD j) 0 env (lV (jG l)) 1:=jA hE rfl rfl rfl el gl;have h1:fI (rD j) 1 env (lV (jG l)) 1:=jA hE rfl rfl rfl el gl;have h2:fI (rD j) 2 env (iV (j:Int)) 1:=La hE (by omega) rfl;have h3:=xB hE (i:=3) rfl rfl rfl h1 h2 (by rw[List.getElem?_map,I];rfl) (lZ gn);have d4:kC (.mk 6 false [] [iV n] [[99]]) 2=true:=by rw[show(2:Nat)=1+1 from rfl,iA,jB];simp only[JV.xs,eV,Ga,iC];exact wQ rfl 0
 have p4:kA (.mk 6 false [] [iV n] [[99]])=true:=by
  rw[jJ];have:lG (JV.mk 6 false [] [iV n] [[99]]).xs=true:=by rw[nC];simp[JV.xs];exact Iy gn
  rw[this];simp[lY,JV.k,JV.b,JV.t,JV.ks,JV.xs,iX]
 have c4:lO (.mk 6 false [] [iV n] [[99]])=2:=by rw[FJ];simp[JV.xs,kV,lO]
 have g4:dK (.mk 6 false [] [iV n] [[99]])=true:=Hr (pD _ (by omega) d4) (by omega) p4;have h4:fI (rD j) 4 env (.mk 6 false [] [iV n] [[99]]) _:=GI hE (i:=4) rfl (by decide) (by decide) rfl h3 rfl g4;have g5:dK (.mk 6 false [] [lV (jG l),.mk 6 false [] [iV n] [[99]]] [[97],[98]])=true:=by
  refine Hr ?_ ?_ ?_
  ·rw[show(24:Nat)=23+1 from rfl,iA,jB];simp only[JV.xs,eV,Ga,iC,aL];exact⟨pD _ (by omega) (HE (m:=1) λv o=>by obtain⟨y,J,rfl⟩:=dL.1 o;exact wQ rfl _),pD _ (by omega) d4⟩
  ·rw[FJ];simp only[JV.xs,kV];rw[c4,FJ];show 1+(1+kV (jG l)+(2+0))<=2000;rw[Ao (λv o=>by obtain⟨y,J,rfl⟩:=dL.1 o;rfl),cD];omega
  ·rw[jJ];have:lG (JV.mk 6 false [] [lV (jG l),.mk 6 false [] [iV n] [[99]]] [[97],[98]]).xs=true:=by
    rw[nC];simp only[JV.xs,eV,Ga,iC,aL];exact⟨tJ gl,p4⟩
   rw[this];simp[lY,JV.k,JV.b,JV.t,JV.ks,JV.xs,iX,Op.bytesLess]
 have h5:fI (rD j) 5 env (.mk 6 false [] [lV (jG l),.mk 6 false [] [iV n] [[99]]] [[97],[98]]) _:=CY hE (i:=5) rfl (by decide) (by decide) rfl h0 h4 rfl g5;have h6:fI (rD j) 6 env (.mk 6 false [] [iV n] [[99]]) _:=GI hE (i:=6) rfl (show(10:Int)≠28 by decide) (show(10:Int)≠29 by decide) rfl h5 rfl g4;have h7:fI (rD j) 7 env (iV n) _:=GI hE (i:=7) rfl (show(10:Int)≠28 by decide) (show(10:Int)≠29 by decide) rfl h6 rfl (lZ gn);exact⟨_,by decide,h7⟩
theorem Uh{l:List Int}{env:Env}(H:ShA l env)(en:env [110]=some (iV (l.length:Int)))(h1:1<=l.length):∃s,s<=100/\fI xX 9 env (bV true) s:=by
 obtain⟨hn,hl,el⟩:=id H;have hE:nA xX:=kG (by decide);have ab:=zA H;have gl:dK (lV (jG l))=true:=pC ab (by omega);have kl:gJ (lV (jG l))=true:=II l;have gr:dK (lV (jG l).reverse)=true:=by
  have e:(jG l).reverse=jG l.reverse:=by simp[jG]
  rw[e];exact pC (λn hm=>ab n (by simpa using hm)) (by rw[mS];omega)
 obtain⟨n,j⟩:∃n,l[0]?=some n:=⟨_,List.getElem?_eq_getElem (by omega)⟩;have gn:dK (iV n)=true:=lZ (ab n (bG j));have h0:fI xX 0 env (lV (jG l)) 1:=jA hE rfl rfl rfl el gl;have o:fI xX 1 env (lV (jG l).reverse) _:=El (f:=tP) hE (i:=1) rfl rfl rfl h0 rfl gl kl rfl rfl gr;have h2:=jA hE (i:=2) rfl rfl rfl en (lZ (by omega));have h3:=tE (env:=env) hE (i:=3) (n:=1) rfl rfl rfl (by decide) (by decide);have I:=QX hE (i:=4) rfl rfl rfl h2 h3 (by omega);have e4:(l.length:Int)-1=((l.length-1:Nat):Int):=by omega
 rw[e4]at I;have h5:fI xX 5 env (iV n) _:=xB hE (i:=5) rfl rfl rfl o I (by
  rw[List.getElem?_reverse (by rw[cD];omega),cD];have:l.length-1-(l.length-1)=0:=by omega
  rw[this,List.getElem?_map,j];rfl) gn
 have h6:fI xX 6 env (lV (jG l)) 1:=jA hE rfl rfl rfl el gl;have h7:fI xX 7 env (iV ((0:Nat):Int)) 1:=tE (n:=0) hE rfl rfl rfl (by decide) (by decide);have U:fI xX 8 env (iV n) _:=xB hE (i:=8) rfl rfl rfl h6 h7 (by rw[List.getElem?_map,j];rfl) gn;have J:=sU hE (i:=9) rfl rfl rfl h5 U (Sd _) (tJ gn) rfl;exact⟨_,by decide,J⟩
theorem TO(env:Env):fI KQ 4 env (iV 7) 5:=by
 have hE:nA KQ:=kG (by decide);have h0:=tE (env:=env) hE (i:=0) (n:=1) rfl rfl rfl (by decide) (by decide);have h1:=tE (env:=env) hE (i:=1) (n:=2) rfl rfl rfl (by decide) (by decide);have o:=tE (env:=env) hE (i:=2) (n:=3) rfl rfl rfl (by decide) (by decide);have j:=JE hE (i:=3) rfl rfl rfl h1 o (by omega);exact QY hE (i:=4) rfl rfl rfl h0 j (by omega)
theorem TN(env:Env):fI Do 3 env (tV [97,49,116,114,117,101]) 4:=by
 have hE:nA Do:=kG (by decide);have h0:fI Do 0 env (tV [97]) 1:=CZ hE rfl (by decide) (by decide) rfl rfl (NQ (by decide));have h1:fI Do 1 env (nV [49]) 1:=CZ hE rfl (by decide) (by decide) rfl rfl (by decide);have j:fI Do 2 env (bV true) 1:=OU hE rfl rfl rfl;exact zU hE (i:=3) (s:=3) rfl (by decide) (by decide) (.cons h0 (.cons h1 (.cons j .nil))) rfl (NQ (by decide))
theorem TM(env:Env):OB FB 2 env 10 12 3:=by
 have hE:nA FB:=kG (by decide);have h0:fI FB 0 env (nV [49]) 1:=CZ hE rfl (by decide) (by decide) rfl rfl (by decide);have h1:fI FB 1 env (nV [48]) 1:=CZ hE rfl (by decide) (by decide) rfl rfl (by decide);exact FD hE rfl (by decide) (by decide) (.cons h0 (.cons h1 .nil)) rfl
end
end Go.Eng
namespace Go.Proofs.YtghhmpppnmoeoaaGreatDoor
section
open Go Go.Eng Go.Num Go.RowKit
variable{w:World}{K:Q0}{cs:List Value}{G:Nat->Prop}{T:TypeId}{i:Nat}{n:Nat}{v:Value}{w':World}{P:Program}{c:UInt8}{S:Nat->Prop}
theorem pD:∀{m:Nat} {v:JV},kC v m=true->kC v (m+1)=true
 |0,v,h=>by rw[oO]at h;cases h
 |m+1,v,h=>by
  rw[iA,jB,bN]at h⊢
  exactλx j=>pD (h x j)
section
variable [HX]
end
theorem Od(u:Nat):Lib.decDigits u≠[]:=by
 rw[Lib.decDigits];split<;>simp
theorem SY(u:Nat)(h:0<u):Lib.decDigits u=(if u/10=0 then []else Lib.decDigits (u/10))++[UInt8.ofNat (48+u%10)]:=by
 rw[Lib.decDigits];split
 ·rw[aJ (by omega),kY (by omega)];rfl
 ·rw[aE (by omega)]
theorem Qd{u:Nat}(h:Lib.decDigits u=[48]):u=0:=by
 rw[Lib.decDigits]at h;split at h
 ·rename_i j;have:=List.head_eq_of_cons_eq h;have e:=congrArg UInt8.toNat this;rw[jS]at e;have:(48:UInt8).toNat=48:=rfl;omega
 ·rename_i j;have:=congrArg List.length h;rw[aU]at this;have h0:0<(Lib.decDigits (u/10)).length:=dQ.2 (Od _);simp at this;exact absurd this (Od _)
theorem Ld:∀(k u:Nat),u<10^k->(Lib.decDigits u).length<=k+1:=by
 intro k;induction k with
 |zero=>intro u h;rw[Lib.decDigits,dif_pos (by omega)];simp
 |succ k ih=>
  intro u h;rw[Lib.decDigits];split
  ·simp
  ·have:=ih (u/10) (by rw[oQ]at h;omega);rw[aU,Bb];omega
section
variable [HX]
theorem OQ{n:Int}{K:Q0}(hn:n≠0)(h1:-9223372036854775808<=n)(h2:n<=9223372036854775807)(o:K (str (Lib.itoa n)) w):aC P0 38 [.bool (decide (n<0)),str (Lib.decDigits n.natAbs)] w K:=by
 refine aCU ?_;unfold W38;have I:Lib.decDigits n.natAbs≠[48]:=λe=>by have:=Qd e;omega
 unfold Lib.itoa at o;by_cases j:n<0
 ·rw[aJ j]at o;rw[bH j];refine GdW.look true (λ_ J U=>?_) λg=>?_
  ·rw[vG,bH I];exact U
  show aS (.bool true) _ _;rw[dS,qA];have:=Ld 19 n.natAbs (by omega);have em:IntKind.i64.max=9223372036854775807:=by decide
  refine⟨by rw[em];simp only[aB,aN];omega,?_⟩;exact o
 ·rw[aE j]at o;rw[cH j];refine GdW.f λg=>?_;show aS (.bool false) _ _;rw[cP];rw[show n.natAbs=n.toNat by omega];exact o
theorem zE{n:Int}{K:Q0}(h1:-9223372036854775808<=n)(h2:n<=9223372036854775807)(U:∀w',Ext w w'->K (str (Lib.itoa n)) w'):aC P0 22 [i64 n] w K:=by
 refine aC5 ?_;unfold W22;rw[bO,aO];refine⟨λh0=>?_,λh0=>?_⟩
 ·subst h0;have e:Lib.itoa 0=[48]:=by unfold Lib.itoa;rw[aE (by decide),Lib.decDigits,dif_pos (by decide)];rfl
  rw[e]at U;exact U w (Chg.refl _ _)
 refine⟨λs w'=>∃(m:Int) (out:Str),s=[str out,i64 m]/\Ext w w'/\(if m=0 then []else Lib.decDigits m.natAbs)++out=Lib.decDigits n.natAbs/\-9223372036854775808<=m/\m<=9223372036854775807,
  λs _=>match s with|[_,.int _ i]=>i.natAbs|_=>0,⟨n,[],rfl,Chg.refl _ _,by rw[aE h0,eG],h1,h2⟩,?_⟩
 rintro s g w2 ⟨m,out,rfl,hx,o,hr,ho⟩;simp only[aG,cS];rw[gD,aO];refine⟨λJ=>?_,λj=>?_⟩
 ·have hk:out.length<=25:=by
   have:=Ld 19 n.natAbs (by omega);rw[<-o,aU]at this;omega
  rw[aE J,SY _ (by omega),fP]at o;rw[DV];refine⟨by decide,?_⟩;have hd:(m.tmod 10).natAbs=m.natAbs%10:=by rw[Int.natAbs_tmod];rfl
  have hq:(m.tdiv 10).natAbs=m.natAbs/10:=by rw[Int.natAbs_tdiv];rfl
  refine bU.cut (λs' w'=>s'=[i64 ((m.natAbs%10:Nat):Int)]/\w'=w2) ?_ ?_
  ·rw[dU,aO];refine⟨λh=>?_,λh=>?_⟩
   ·rw[Qx,cN (by omega) (by omega),show 0-m.tmod 10=((m.natAbs%10:Nat):Int)by omega];exact⟨rfl,rfl⟩
   ·rw[show m.tmod 10=((m.natAbs%10:Nat):Int)by omega];exact⟨rfl,rfl⟩
  rintro s' g2 w3 ⟨rfl,rfl⟩;simp only[aG];rw[cI,cN (by omega) (by omega),mW,show(48:Int)+((m.natAbs%10:Nat):Int)=((48+m.natAbs%10:Nat):Int)by omega,zQ,kY (by omega)];refine Ip λt w4 ht I=>?_;have hb:Byt w4 U8 t [UInt8.ofNat (48+m.natAbs%10)]:=by
   have e1:u8s [UInt8.ofNat (48+m.natAbs%10)]=[.int .u8 ((48+m.natAbs%10:Nat):Int)]:=by
    simp only[u8s,dC,oS,jS];rw[kY (by omega)]
   unfold Byt;rw[e1];exact ht
  rw[FH (l:=[UInt8.ofNat (48+m.natAbs%10)]) (e:=U8) (by kernel_rfl) (by kernel_rfl) (by kernel_rfl) hb,qA];have em:IntKind.i64.max=9223372036854775807:=by decide
  refine⟨by rw[em];simp only[aB,aN];omega,?_⟩;rw[Ja];refine⟨by decide,?_⟩;rw[cN (by omega) (by omega)];refine⟨⟨m.tdiv 10,_,rfl,hx.trans I,?_,by omega,by omega⟩,?_⟩
  ·rw[<-o,<-hq];by_cases hz:m.tdiv 10=0
   ·rw[aJ hz,aJ (by omega)]
   ·rw[aE hz,aE (by omega)]
  ·show(m.tdiv 10).natAbs<m.natAbs;omega
 ·have j:m=0:=eL j;rw[aJ j,fO]at o;rw[dU,o];exact OQ h0 h1 h2 (U w2 hx)
theorem Ff{n:Int}{K:Q0}(h1:-9223372036854775808<=n)(h2:n<=9223372036854775807)(U:∀w',Ext w w'->K (.agg (flat 3 false (Lib.itoa n)).toArray) w'):aC P0 18 [i64 n] w K:=by
 refine aC9 ?_;unfold W18;refine bI λb w1 hb hz o I=>?_;refine zE h1 h2 λw2 j=>?_;simp only[wsv,wsg,wsh,wsl,aM,aK,aD,fB,Nat.reduceAdd,Nat.reduceLT,aF,aA,aI,aH,bP,reduceCtorEq];exact iI (j.at o id) rfl rfl rfl λw' J=>U w' ((I.trans j).new J (by omega))
end
end
end Go.Proofs.YtghhmpppnmoeoaaGreatDoor
namespace Go.Eng
section
open Go Go.Deep
variable{w:World}{K:Q0}{cs:List Value}{G:Nat->Prop}{T:TypeId}{i:Nat}{n:Nat}{v:Value}{w':World}{P:Program}{c:UInt8}{S:Nat->Prop}
theorem flat_get{k:Nat}:∀(L:List (List Value)) (i r:Nat) (y:List Value),(∀z∈L,z.length=k)->r<k->L[i]?=some y->L.flatten[i*k+r]?=y[r]?
 |[],i,_,_,_,_,h=>by simp at h
 |z::L,0,r,y,hl,j,h=>by
  simp only[List.getElem?_cons_zero,bF]at h
  subst h
  simp only[iL,mZ,aX]
  rw[List.getElem?_append_left (by rw[hl z bA];exact j)]
 |z::L,i+1,r,y,hl,j,h=>by
  simp only[List.getElem?_cons_succ]at h
  have:=flat_get L i r y (λu I=>hl u (aR _ I)) j h
  rw[<-this]
  simp only[iL]
  have o:=hl z bA
  rw[List.getElem?_append_right (by rw[o,fG];omega)]
  congr 1
  rw[o,fG]
  omega
theorem Fx{k:Nat}:∀(L:List (List Value)),(∀z∈L,z.length=k)->L.flatten.length=L.length*k
 |[],_=>by simp
 |z::L,hl=>by
  rw[iL,aU,Fx L λu j=>hl u (aR _ j),hl z bA,aB,fG]
  omega
section
variable{H:Type}{enc:TypeId×Value->H}{P:Program}{w:World}{base:Nat}{spare:Nat->Bool}{held:Bool}
theorem Pf{t e:TypeId}{k fuel:Nat}{d:DataW H}{ps:List MemPlace}(ht:P.underlying t=some (.slice e))(hk:P.cellsOf e=k)(J:0<k)(h:DataW.trod enc P w base spare held fuel t [v]=some (d,ps)):
  ∃p n c T m,∃(f:Nat->List Value) (D:Nat->DataW H) (Pl:Nat->List MemPlace),v=.slice p n c/\SlAt w T (.slice p n c) n ((List.range n).map f).flatten/\
   (∀i,i<n->(f i).length=k/\DataW.trod enc P w base spare held m e (f i)=some (D i,Pl i))/\((n=0/\d=.nil)\/∃rest,d=.slice ((List.range n).map D) rest):=by
 rcases open_slice ht h with⟨hc,hx⟩|⟨a,len,cap,m,n,D,Pl,hc,_,hl,hm,hv,hx,hy⟩
 ·cases hc;cases hx;refine⟨none,0,0,0,0,λ_=>[],λ_=>.nil,λ_=>[],rfl,?_,λi hi=>by omega,.inl ⟨rfl,rfl⟩⟩;simpa using SlAt.nil w 0
 ·cases hc;cases hx;have xh:len<=m:=by rw[hv];split<;>omega
  obtain⟨f,hf⟩:=choose_lt (n:=len) λi hi=>hy i (by omega);have U:∀i,i<len->(f i).length=k:=λi hi=>by rw[(World.cells?_some (hf i hi).1).2.1,hk]
  have I:∀z∈(List.range len).map f,z.length=k:=by
   intro z hz;obtain⟨i,hi,rfl⟩:=dL.1 hz;exact U i (lR.1 hi)
  have hcell:∀i r,i<len->r<k->w.cell? (a.add (i*k+r))=(f i)[r]?:=by
   intro i r hi hr;have:=(World.cells?_some (hf i hi).1).2.2 r (by omega);rw[add_add,hk]at this;exact this
  by_cases h0:len=0
  ·subst h0;refine⟨some a,0,cap,0,n,f,D,Pl,rfl,⟨some a,cap,rfl,fR _,(by intro e;cases e),(by simp)⟩,λi hi=>by omega,.inr ⟨_,rfl⟩⟩
  have o:=hcell 0 0 (by omega) J;have xi:=U 0 (by omega);rw[List.getElem?_eq_getElem (by omega)]at o;obtain⟨c,T,fr,hb,hg⟩:∃c T fr,w.heap[a.block]?=some (.cells c T fr)/\a.spot=none:=by
   unfold World.cell? at o;have e1:(a.add (0*k+0)).block=a.block:=by unfold Addr.add;split<;>rfl
   have e2:(a.add (0*k+0))=a:=by unfold Addr.add;simp
   rw[e2]at o;split at o
   ·rename_i c T fr hb;refine⟨c,T,fr,hb,?_⟩;cases hs:a.spot with
    |none=>rfl
    |some _=>simp[hs]at o
   ·cases o
  obtain⟨b,off,sp⟩:=a;simp only at hg hb;subst hg;refine⟨some ⟨b,off,none⟩,len,cap,T,n,f,D,Pl,rfl,⟨_,_,rfl,hl,(by intro e;cases e),λ_=>⟨b,off,c,fr,rfl,hb,λj hj=>?_⟩⟩,λi hi=>⟨U i hi,(hf i hi).2⟩,.inr ⟨_,rfl⟩⟩;rw[Fx _ I,cD,List.length_range]at hj;have hi:j/k<len:=by rw[Nat.div_lt_iff_lt_mul J];exact hj
  have hr:j%k<k:=Nat.mod_lt _ J;have hh:j/k*k+j%k=j:=by rw[lM];exact Nat.div_add_mod j k
  have h1:=hcell (j/k) (j%k) hi hr;rw[hh,bW,cG,hb,cJ]at h1;have h2:=flat_get ((List.range len).map f) (j/k) (j%k) (f (j/k)) I hr (by simp[hi]);rw[hh]at h2;rw[h1,h2]
end
end
end Go.Eng
