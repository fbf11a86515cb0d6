/- One plain sentence: weakest preconditions, contracts and plain laws that the claim rests on, text behind text. Conditions: those that each states. -/
import Derived.Test.YtghhmpppnmoeoaaGreatDoorXLazy4
import Derived.Test.YtghhmpppnmoeoaaGreatDoorXLazy3
import Derived.Test.YtghhmpppnmoeoaaGreatDoorXLazy1
import Derived.Lib.ItoaNum
import Derived.Test.YtghhmpppnmoeoaaGreatDoorXLazy2
set_option linter.all false
set_option linter.unusedSimpArgs false
set_option linter.unusedVariables false
set_option linter.unusedSectionVars false
set_option maxRecDepth 100000
namespace Go.Proofs.YtghhmpppnmoeoaaGreatDoor
section
open Go Go.Eng Go.RowKit Go.Syn Go.Lex
variable{w:World}{K:Q0}{cs:List Value}{G:Nat->Prop}{T:TypeId}{i:Nat}{n:Nat}{v:Value}{w':World}{P:Program}{c:UInt8}{S:Nat->Prop}
theorem rI(s:aH):(gA s).length<=2*s.length:=by
 induction s with
 |nil=>simp[gA]
 |cons c r ih=>simp only[gA];(repeat' split)<;>simp only[List.length_cons]<;>omega
def iY(c:Nat):aH×Nat:=if c=92\/c=34\/c=36 then([92],c)else if c=9 then([92],116)else if c=13 then([92],114)else([],c)
theorem LS(x:UInt8)(h:FL x.toNat=[x]):gA [x]=(iY x.toNat).1++FL (iY x.toNat).2:=by
 have e:∀k:UInt8,(x==k)=decide (x.toNat=k.toNat):=λk=>by
  rw[Bool.eq_iff_iff,beq_iff_eq,decide_eq_true_iff,UInt8.toNat_inj]
 simp only[gA,e];unfold iY;by_cases h1:x.toNat=92\/x.toNat=34\/x.toNat=36
 ·rw[if_pos (by simp only[Bool.or_eq_true,decide_eq_true_iff];rcases h1 with h|h|h;exact .inl (.inl h);exact .inl (.inr h);exact .inr h),if_pos h1];show _=[92]++FL x.toNat;rw[h];rfl
 rw[if_neg (by simp only[Bool.or_eq_true,decide_eq_true_iff];rintro((h|h)|h);exact h1 (.inl h);exact h1 (.inr (.inl h));exact h1 (.inr (.inr h))),if_neg h1];by_cases h2:x.toNat=9
 ·rw[if_pos (by simpa using h2),if_pos h2];rfl
 rw[if_neg (by simpa using h2),if_neg h2];by_cases h3:x.toNat=13
 ·rw[if_pos (by simpa using h3),if_pos h3];rfl
 rw[if_neg (by simpa using h3),if_neg h3];exact h.symm
theorem Jb{c:Nat}(h:128<=c):iY c=([],c):=by
 unfold iY;rw[if_neg (by omega),if_neg (by omega),if_neg (by omega)]
theorem OM{c:Nat}(h:c<55296\/57343<c/\c<=1114111):(iY c).2<55296\/57343<(iY c).2/\(iY c).2<=1114111:=by
 unfold iY
 (repeat' split)<;>(dsimp only;omega)
theorem LU(c:Nat):(iY c).1.length<=1:=by unfold iY;(repeat' split)<;>simp
def iX(l:aH)(at_:Nat)(x:aH×Nat×Int):aH×Nat×Int:=if x.2.2=0 then(l++x.1,x.2.1+at_,0)else([],0,x.2.2)
theorem LQ(l m:aH)(a b:Nat)(x:aH×Nat×Int):iX l a (if x.2.2=0 then(m++x.1,x.2.1+b,0)else([],0,x.2.2))=iX (l++m) (a+b) x:=by
 unfold iX;by_cases h:x.2.2=0
 ·simp only[h,if_true,List.append_assoc];rw[show x.2.1+b+a=x.2.1+(a+b)by omega]
 ·simp only[if_neg h]
theorem Di(n:Nat)(name s:aH):iL (n+1) name s=(if(s.take (cH (λb=>b !=10) s)).drop (cH (λb=>b==32||b==9) (s.take (cH (λb=>b !=10) s)))=name then([],cH (λb=>b !=10) s,0)else if s.length<=cH (λb=>b !=10) s then([],0,40)else
 (if(iL n name (s.drop (cH (λb=>b !=10) s+1))).2.2=0 then(gA (s.take (cH (λb=>b !=10) s))++[92,110]++(iL n name (s.drop (cH (λb=>b !=10) s+1))).1,(iL n name (s.drop (cH (λb=>b !=10) s+1))).2.1+(cH (λb=>b !=10) s+1),0)else([],0,(iL n name (s.drop (cH (λb=>b !=10) s+1))).2.2))):=rfl
section
variable [HX]
theorem LR{s:aH}{K:Q0}(hT:uC w)(hU:Utf s)(hl:s.length<=1000000)(h2:2<=s.length)
  (hK:∀w',bA w w'->K (.tuple #[str (eO s).1,i64 ((eO s).2.1:Nat),i64 (eO s).2.2]) w'):aA P0 77 [str s] w K:=by
 refine ZR ?_;unfold W77;unfold eO at hK;dsimp only at hK;generalize hn:(if fH ((s.drop 2).headD 0)then cH fL (s.drop 2)else 0)=n at hK;have hnl:n+2<=s.length:=by
  have:=mO fL (s.drop 2);rw[List.length_drop]at this;rw[<-hn];split<;>omega
 refine aP.cut (λst w'=>st=[i64 (n:Nat)]/\w'=w) ?_ ?_
 ·rw[dI,iN];refine cX.look (fH ((s.drop 2).headD 0)) (λhg J hJ=>?_) λg=>?_
  ·rw[eH,decide_eq_true_iff]at hg;have hlt:2<s.length:=by omega
   refine nA (i:=2) hlt ?_;refine tL ?_;rw[eV hlt]at hJ;exact hJ
  ·simp only[List.getD_cons_zero,eH];rw[cW,aQ];refine⟨λhy=>?_,λhno=>?_⟩
   ·rw[Bool.and_eq_true]at hy;rw[if_pos hy.2]at hn;rw[dP,cZ,cO];refine⟨by omega,by omega,?_⟩;rw[List.take_length];show aA P0 69 [str (s.drop 2),_] w _;refine JQ (q:=fL) (by rw[List.length_drop];omega) (λc {w K} h=>vF (SF h)) ?_;rw[hn];exact⟨rfl,rfl⟩
   ·have:n=0:=by
     rw[<-hn];by_cases hlet:fH ((s.drop 2).headD 0)=true
     ·rw[hlet,Bool.and_true,decide_eq_false_iff_not]at hno;rw[if_pos hlet,List.drop_eq_nil_of_le (by omega)];rfl
     ·rw[if_neg hlet]
    rw[this];exact⟨rfl,trivial⟩
 rintro st g w' ⟨rfl,rfl⟩;simp only[List.getD_cons_zero];rw[aW,bD (by omega) (by omega)];rw[dP,cO,cO];refine⟨by omega,by omega,by omega,by omega,?_⟩;have hnm:(s.take (Int.toNat (2+(n:Nat)))).drop (Int.toNat 2)=(s.drop 2).take n:=by
  rw[show Int.toNat (2+(n:Nat))=2+n by omega,show Int.toNat 2=2 from rfl,List.drop_take];rw[show 2+n-2=n by omega]
 rw[hnm,aW,bD (by omega) (by omega),show(2+(n:Nat):Int)=((2+n:Nat):Int)by omega];generalize (s.drop 2).take n=nm at*
 rw[aM];simp only[iB];refine cX.look (decide (s.length<=2+n)) (λ_ J hJ=>?_) λg1=>?_
 ·rw[dI,gR,show decide (((s.length:Nat):Int)<=((2+n:Nat):Int))=decide (s.length<=2+n)by rw[decide_eq_decide];omega];exact hJ
 simp only[List.getD_cons_zero];rw[dD];simp only[iB];refine cX.look (decide ((s.drop (2+n)).head?≠some 10)) (λhg J hJ=>?_) λg2=>?_
 ·have hlt:2+n<s.length:=by
   simp only[Bool.not_eq_true',Bool.or_eq_false_iff,decide_eq_false_iff_not]at hg;omega
  refine nA hlt ?_;have e5:decide (((s[2+n].toNat:Nat):Int)=10)=(s[2+n]==10):=wG 10 _;rw[dG];rw[eV hlt]at hJ;have:decide (((s[2+n].toNat:Nat):Int)≠10)=decide ((s[2+n]::s.drop (2+n+1)).head?≠some 10):=by
   have e6:∀(c:UInt8) (r:aH),(c==10)=decide ((c::r).head?=some 10):=λc r=>by rw[Bool.eq_iff_iff];simp
   rw[decide_not,e5,decide_not,e6 _ (s.drop (2+n+1))]
  rw[this];exact hJ
 simp only[List.getD_cons_zero];rw[dD,aQ];refine⟨λhbad=>?_,λhok=>?_⟩
 ·have hb:n=0\/¬(s.drop (2+n)).head?=some 10:=by
   simp only[Bool.or_eq_true,decide_eq_true_iff]at hbad;rcases hbad with(h|h)|h
   ·exact .inl (by omega)
   ·right;rw[List.drop_eq_nil_of_le (by omega)];simp
   ·exact .inr h
  have hK:=hK w' (aS.refl _ _);rcases hb with h|h
  ·rw[if_pos h]at hK;exact hK
  ·rw[if_neg h]at hK;split at hK<;>exact hK
 simp only[Bool.or_eq_false_iff,decide_eq_false_iff_not,ne_eq,Decidable.not_not]at hok;obtain⟨⟨hn0,hlt⟩,h10⟩:=hok;have hlt:2+n<s.length:=by omega
 rw[if_neg (by omega),if_pos h10]at hK;rw[aW,Ai (by omega)];have hUs:Utf (s.drop (2+n+1)):=by
  have hd:=eV hlt;rw[hd]at h10;simp only[List.head?_cons,Option.some.injEq]at h10;exact qK (wQ hU hd (by rw[h10];decide)).2 (by rw[h10];decide)
 generalize hR:iL (s.length+1) nm (s.drop (2+n+1))=X at hK;have hR2:iX [] (2+n+1) X=if X.2.2=0 then(X.1,X.2.1+(2+n+1),0)else([],0,X.2.2):=by unfold iX;rw[List.nil_append]
 rw[<-hR2]at hK;refine Zq (B:=w'.heap.size) (Nat.le_refl _) λb w1 hb h1 hx1=>?_;generalize hR0:iX [] (2+n+1) X=R0 at hK;refine bL.go (λst w2=>∃(i m:Nat) (l:aH),st=[i64 (i:Nat)]/\i<=s.length/\Utf (s.drop i)/\qI w2 w'.heap.size b l/\bA w' w2/\l.length<=2*i/\iX l i (iL m nm (s.drop i))=R0/\s.length<m+i) (λst _=>match st with|[.int _ i]=>s.length+1-i.toNat|_=>0) ⟨2+n+1,s.length+1,[],rfl,by omega,hUs,h1,hx1,by simp,by rw[hR,hR0],by omega⟩ ?_;rintro st g3 w2 ⟨i,m,l,rfl,hi,hu,hB,hx,hll,hr,hm⟩;obtain⟨m,rfl⟩:∃k,m=k+1:=⟨m-1,by omega⟩;rw[Di]at hr;simp only[List.getD_cons_zero];rw[dP,cZ,cO];refine⟨by omega,by omega,?_⟩;rw[List.take_length,Int.toNat_natCast];have hsl:(s.drop i).length=s.length-i:=List.length_drop;refine Zm (hT.ext hx) (by omega) λx w3 hx3=>?_;rw[aK];refine⟨_,rfl,?_⟩;rw[aK];refine⟨_,rfl,?_⟩;rw[aK];refine⟨_,rfl,?_⟩;obtain⟨ul,ur⟩:=MB hu;have hkl:=mO (λb=>b !=10) (s.drop i);have htk:((s.drop i).take (cH (λb=>b !=10) (s.drop i))).length=cH (λb=>b !=10) (s.drop i):=by rw[List.length_take];omega
 generalize cH (λb=>b !=10) (s.drop i)=k at*
 generalize hln:(s.drop i).take k=ln at*
 refine Qf (by omega) λw4 hx4=>?_;have hx':bA w' w4:=(hx.trans hx3).trans hx4;have hB4:qI w4 w'.heap.size b l:=(hB.ext hx3).ext hx4;rw[nK,aB];refine⟨λhy=>?_,λhno=>?_⟩
 ·rw[if_pos hy]at hr;refine zH hB4 hx'.size λw5 hc5=>?_;rw[dI,aW,bD (by omega) (by omega)];have hfx:bA w' w5:=hx'.then hc5 λk hk e=>by omega
  have hK:=hK w5 hfx;rw[<-hr]at hK;simp only[iX,if_true,List.append_nil]at hK;rw[show(i:Int)+(ln.length:Nat)=((k+i:Nat):Int)by omega];exact hK
 rw[if_neg hno]at hr;rw[cJ,aQ];refine⟨λhend=>?_,λhmore=>?_⟩
 ·rw[if_pos (by simpa using hend)]at hr;have hK:=hK w4 hx';rw[<-hr]at hK;exact hK
 have hk:k<(s.drop i).length:=by simpa using hmore
 rw[if_neg (by omega)]at hr;rw[LQ]at hr;have hun:=ur hk;clear ur;have hlk:(s.drop i).length=s.length-i:=List.length_drop;refine Bh ?_;have hz4:=hx'.size;have hbb:=hB4.lt;refine bL.go (λst w5=>∃p,p<=ln.length/\st=[]/\Utf (ln.drop p)/\w5.heap[w4.heap.size]?=some (.stringIter (aL ln) p)/\qI w5 w'.heap.size b (l++gA (ln.take p))/\bA w' w5)
  (λ_ w5=>match w5.heap[w4.heap.size]? with|some (.stringIter _ p)=>ln.length-p|_=>0)
  ⟨0,Nat.zero_le _,rfl,by rw[List.drop_zero];exact ul,dW _ _ _ rfl,by rw[List.take_zero];show qI _ _ _ (l++[]);rw[List.append_nil];exact hB4.ext (aS.alloc (aS.refl _ _) _),hx'.trans (aS.alloc (aS.refl _ _) _)⟩ ?_
 rintro st g4 w5 ⟨p,hp,rfl,hup,hit,hB5,hx5⟩;have hz5:=hx5.size;have hl5:(l++gA (ln.take p)).length<=2*i+2*k:=by
  have:=rI (ln.take p);have:(ln.take p).length<=k:=by rw[List.length_take];omega
  rw[List.length_append];omega
 refine Db hit (λhpe=>?_) (λhpl w6 hit6 hc6 hz6=>?_)
 ·rw[aK];refine⟨.bool false,rfl,?_⟩;rw[bJ];obtain rfl:p=ln.length:=by omega
  rw[List.take_length]at hB5 hl5;refine Ih hB5 hz5 (by simp only[List.length_cons,List.length_nil];omega) λv w6 h6 hc6=>?_;have hx6:bA w' w6:=sV.new hx5 (Nat.le_refl _) (by omega) hc6;rw[dI,aW,bD (by omega) (by omega),aW,bD (by omega) (by omega)];have hgl:=rI ln;refine⟨⟨i+(k+1),m,l++gA ln++[92,110],by simp only[List.cons.injEq,Value.int.injEq,true_and,and_true];omega,by omega,?_,h6,hx6,?_,?_,by omega⟩,?_⟩
  ·rw[<-dH];exact hun
  ·simp only[List.length_append,List.length_cons,List.length_nil];omega
  ·rw[<-hr,dH,List.append_assoc]
  ·simp only[Int.toNat_natCast];omega
 ·have hne:ln.drop p≠[]:=λe=>by have:=List.drop_eq_nil_iff.1 e;omega
  obtain⟨u,r,hru,hur,hdr⟩:∃u r,Rn u/\Utf r/\ln.drop p=u++r:=by
   cases hd:ln.drop p with
   |nil=>exact absurd hd hne
   |cons x y=>
    rw[hd]at hup;generalize he:x::y=z at hup;cases hup with
    |nil=>cases he
    |cons h1 h2=>exact⟨_,_,h1,h2,rfl⟩
  have hrm:eK ln p=u.length:=hru.at hdr;have huz:=hru.pos;obtain⟨c,hc⟩:=qV hpl (by omega);rw[hrm]at hc;have htk2:(ln.drop p).take u.length=u:=by rw[hdr,List.take_left]
  have hnext:ln.take (p+u.length)=ln.take p++u:=by rw[List.take_add,htk2]
  have hdr2:ln.drop (p+u.length)=r:=Pe hdr;have hdec:=hc.dec;have hct:=hc.top;have hcv:=hc.val;have hcu:FL c=u:=by rw[<-WB (by omega),hc.bytes,htk2]
  rw[hdec]at hit6;have hfit:=hc.fits;have hB6:qI w6 w'.heap.size b (l++gA (ln.take p)):=hB5.chg hc6 (λe=>by have:=e;omega) λk hk e=>by
   obtain⟨_,c',hc'⟩:=hk;have e:k=w4.heap.size:=e;rw[e,hit]at hc';cases hc'
  have hx6:bA w' w6:=hx5.then hc6 λk hk e=>by omega
  have hu2:gA u=(iY c).1++FL (iY c).2:=by
   rcases hru.cases with⟨x,hx,hxl⟩|hh
   ·subst hx;have hcx:c=x.toNat:=by
     have:=(hc.low rfl).1;rw[this];have e:=kD hpl;rw[Go.Eng.byte_at (show ln.drop p=x::r from hdr)]at e;omega
    subst hcx;exact LS x hcu
   ·have hc128:128<=c:=by
     have hb0:=nT (j:=0) hdr huz;have h128:=hh u[0] (List.getElem_mem ..);rw[Nat.add_zero,kD hpl]at hb0;by_cases h1:u.length=1
     ·have:=hc.low h1;omega
     ·exact(hc.high (by omega)).1
    rw[Jb hc128,Jc hh,hcu];rfl
  have hok:=OM (c:=c) (by omega);have hl1:=LU c;rw[aK];refine⟨.bool true,rfl,?_⟩;rw[bZ,aK];refine⟨.int .i32 (c:Int),by rw[hdec];rfl,?_⟩;refine aP.cut (λst w7=>st=[.int .i32 ((iY c).2:Nat)]/\qI w7 w'.heap.size b (l++gA (ln.take p)++(iY c).1)/\w7.heap[w4.heap.size]?=some (.stringIter (aL ln) (p+u.length))/\bA w' w7) ?_ ?_
  ·have wr:∀(x:Nat) (w7:World),iY c=([92],x)->qI w7 w'.heap.size b (l++gA (ln.take p)++[92])->aS (sV w6 w'.heap.size b) w6 w7->[Value.int .i32 (x:Int)]=[.int .i32 ((iY c).2:Nat)]/\qI w7 w'.heap.size b (l++gA (ln.take p)++(iY c).1)/\w7.heap[w4.heap.size]?=some (.stringIter (aL ln) (p+u.length))/\bA w' w7:=by
    intro x w7 e h7 hc7;rw[e];exact⟨rfl,h7,sV.iter hc7 hit6 (by omega),sV.new hx6 (Nat.le_refl _) (by omega) hc7⟩
   refine aP.cut (λst w7=>st=[.bool (decide (c=92\/c=34\/c=36))]/\w7=w6) ?_ ?_
   ·rw[aM,aB];refine⟨λh=>?_,λh=>?_⟩
    ·rw[decide_eq_true h,decide_eq_true (.inl (by omega))];exact⟨rfl,rfl⟩
    rw[aM,aB];refine⟨λh'=>?_,λh'=>?_⟩
    ·rw[decide_eq_true h',decide_eq_true (.inr (.inl (by omega)))];exact⟨rfl,rfl⟩
    rw[aM];rw[show decide (((c:Nat):Int)=36)=decide (c=92\/c=34\/c=36)by rw[decide_eq_decide];omega];exact⟨rfl,rfl⟩
   rintro st g5 w7 ⟨rfl,rfl⟩;simp only[List.getD_cons_zero];rw[aB];refine⟨λh=>?_,λh=>?_⟩
   ·refine Ar (n:=92) hB6 (by omega) (by omega) (by omega) λw8 h8 hc8=>?_;exact wr c w8 (by unfold iY;rw[if_pos h]) h8 hc8
   rw[aM,aB];refine⟨λh'=>?_,λh'=>?_⟩
   ·refine Ar (n:=92) hB6 (by omega) (by omega) (by omega) λw8 h8 hc8=>?_;exact wr 116 w8 (by unfold iY;rw[if_neg h,if_pos (by omega)]) h8 hc8
   rw[aM,aB];refine⟨λh''=>?_,λh''=>?_⟩
   ·refine Ar (n:=92) hB6 (by omega) (by omega) (by omega) λw8 h8 hc8=>?_;exact wr 114 w8 (by unfold iY;rw[if_neg h,if_neg (by omega),if_pos (by omega)]) h8 hc8
   have e:iY c=([],c):=by unfold iY;rw[if_neg h,if_neg (by omega),if_neg (by omega)]
   rw[e,List.append_nil];exact⟨rfl,hB6,hit6,hx6⟩
  rintro st g5 w7 ⟨rfl,hB7,hit7,hx7⟩;simp only[List.getD_cons_zero];have hz7:=hx7.size;refine PQ hB7 hz7 (by rw[List.length_append];omega) hok λv w8 h8 hc8=>?_;have hit8:=sV.iter hc8 hit7 (by omega);refine⟨⟨p+u.length,hfit,trivial,by rw[hdr2];exact hur,hit8,?_,sV.new hx7 (Nat.le_refl _) (by omega) hc8⟩,?_⟩
  ·rw[hnext,LV,hu2,<-List.append_assoc,<-List.append_assoc];exact h8
  ·rw[hit8,hit];show ln.length-(p+u.length)<ln.length-p;omega
end
theorem AJ{r:aH}{d:Nat}(h:(dO r d).2=0):1<=(dO r d).1/\(dO r d).1<=r.length:=by
 exact((fE _ r (Nat.le_refl _)).1 d _ (Prod.ext rfl h)).2
theorem GC(c:UInt8)(r:aH):kY (c::r)=
 (if(c==10)=true then(⟨5,[10],0⟩,1,0)
 else if fH c=true then(⟨1,(c::r).take (cH fL (c::r)),0⟩,cH fL (c::r),if 32<cH fL (c::r)then 3 else 0)
 else if fD c=true then
  (⟨2,(c::r).take (cH fD (c::r)),0⟩,cH fD (c::r),if((cH fD (c::r)<(c::r).length&&fH (((c::r).drop (cH fD (c::r))).headD 0))||(c==48&&1<cH fD (c::r)))=true then 40 else if Num.goodN ((c::r).take (cH fD (c::r)))=true then 0 else 3)
 else if(c==34)=true then
  (if(kK ((c::r).length+1) r 0).2=0 then(⟨3,r.take ((kK ((c::r).length+1) r 0).1-1),0⟩,(kK ((c::r).length+1) r 0).1+1,0)else(⟨0,[],0⟩,0,(kK ((c::r).length+1) r 0).2))
 else if lI [60,60] (c::r)=true then(⟨3,(eO (c::r)).1,0⟩,(eO (c::r)).2.1,(eO (c::r)).2.2)
 else(⟨4,qT (c::r),0⟩,(qT (c::r)).length,if(qT (c::r)).length=0 then 40 else 0)):=rfl
section
variable [HX]
theorem aBo{r:aH}{K:Q0}(hT:uC w)(hU:Utf (c::r))(hl:r.length<=100000)
  (hK:∀w',bA w w'->K (.tuple #[.agg (dB (kY (c::r)).1).toArray,i64 ((kY (c::r)).2.1:Nat),i64 (kY (c::r)).2.2]) w'):aA P0 45 [str (c::r)] w K:=by
 refine aAp ?_;unfold W45;have hlen:(c::r).length=r.length+1:=rfl;refine aI λa w1 ha hz1 hab1 hx1=>?_;refine aI λb w2 hb hz2 hbb2 hx2=>?_;have hx02:=hx1.trans hx2;have hab2:=hx2.at hab1 id;have cond:∀(k:Nat),k<256->(((c.toNat:Nat):Int)=(k:Int)↔c=UInt8.ofNat k):=λk hk=>by
  have:=Cr c k hk;rwa[decide_eq_decide]at this
 generalize ho:kY (c::r)=o at hK;rw[GC]at ho;refine aP.cut (λst w'=>st=[i64 o.2.2,i64 (o.2.1:Nat)]/\bA w w'/\w'.heap[a]?=some (.cells [i64 0,str [],i64 0].toArray qG (0,0))/\w'.heap[b]?=some (.cells (dB o.1).toArray qG (0,0))) ?_ ?_
 ·
  have put:∀{w3:World} {t:Tok} {old:List Value} {K':World->Prop},bA w w3->w3.heap[a]?=some (.cells [i64 0,str [],i64 0].toArray qG (0,0))->w3.heap[b]?=some (.cells old.toArray qG (0,0))->old.length=3->
    (∀w4,bA w w4->w4.heap[a]?=some (.cells [i64 0,str [],i64 0].toArray qG (0,0))->w4.heap[b]?=some (.cells (dB t).toArray qG (0,0))->K' w4)->bF 3 (.pointer (some ⟨b,0,none⟩)) (.agg (dB t).toArray) w3 K':=by
   intro w3 t old K' hx ha3 hb3 ho3 h;refine aY hb3 rfl ho3 rfl λw4 hz4 hb4 hc4=>?_;exact h w4 (hx.new hc4 (by omega)) (hc4.at ha3 (by omega)) hb4
  refine nA (i:=0) (by rw[hlen];omega) ?_;simp only[List.getElem_cons_zero];rw[aM,aB];refine⟨λe=>?_,λe=>?_⟩
  ·have e:c=10:=(cond 10 (by omega)).1 e;subst e;simp only[beq_self_eq_true,if_true]at ho;subst ho;simp only[bN,cG,List.length_cons,List.length_nil,List.set_cons_zero,List.set_cons_succ,Nat.reduceAdd,Nat.reduceLT,true_and,Nat.zero_lt_succ];refine aY (l:=[i64 5,str [10],i64 0]) hab2 rfl rfl rfl λw3 hz3 hab3 hc3=>?_;refine aU hab3 rfl ?_;exact hK w3 (hx02.new hc3 (by omega))
  have e:¬(c==10)=true:=λh=>e ((cond 10 (by omega)).2 (by simpa using h));rw[if_neg e]at ho;refine tL ?_;rw[aQ];refine⟨λhy=>?_,λhno=>?_⟩
  ·rw[if_pos hy]at ho;refine JQ (q:=fL) (by rw[hlen];omega) (λc {w K} h=>vF (SG h)) ?_;have hle:=mO fL (c::r);rw[hlen]at hle;generalize cH fL (c::r)=n at*
   rw[dP,cO];refine⟨by omega,by rw[hlen];omega,?_⟩;rw[cZ,List.drop_zero,Int.toNat_natCast];simp only[bN,cG,List.length_cons,List.length_nil,List.set_cons_zero,List.set_cons_succ,Nat.reduceAdd,Nat.reduceLT,true_and,Nat.zero_lt_succ];refine put (t:=⟨1,(c::r).take n,0⟩) hx02 hab2 hbb2 rfl λw4 hx4 ha4 hb4=>?_;rw[iN,aB];subst ho;refine⟨λh=>?_,λh=>?_⟩
   ·exact⟨by rw[if_pos (by omega)],hx4,ha4,hb4⟩
   ·exact⟨by rw[if_neg (by omega)],hx4,ha4,hb4⟩
  rw[if_neg (by rw[hno];decide)]at ho;refine AA ?_;rw[aQ];refine⟨λhy=>?_,λhno=>?_⟩
  ·rw[if_pos hy]at ho;refine JQ (q:=fD) (by rw[hlen];omega) (λc {w K} h=>vF (AA h)) ?_;have hle:=mO fD (c::r);rw[hlen]at hle;generalize cH fD (c::r)=n at*
   rw[dP,cO];refine⟨by omega,by rw[hlen];omega,?_⟩;rw[cZ,List.drop_zero,Int.toNat_natCast];simp only[bN,cG,List.length_cons,List.length_nil,List.set_cons_zero,List.set_cons_succ,Nat.reduceAdd,Nat.reduceLT,true_and,Nat.zero_lt_succ];refine put (t:=⟨2,(c::r).take n,0⟩) hx02 hab2 hbb2 rfl λw4 hx4 ha4 hb4=>?_;refine aP.cut (λst w'=>st=[.bool ((n<(c::r).length&&fH (((c::r).drop n).headD 0))||(c==48&&1<n))]/\w'=w4) ?_ ?_
   ·rw[dI,cA,show decide (((n:Nat):Int)<(((c::r).length:Nat):Int))=decide (n<(c::r).length)by rw[decide_eq_decide];omega];simp only[eH];refine cX.look (fH (((c::r).drop n).headD 0)) (λhg J hJ=>?_) λg=>?_
    ·have hlt:n<(c::r).length:=by simpa using hg
     refine nA hlt ?_;refine tL ?_;rw[eV hlt]at hJ;exact hJ
    simp only[List.getD_cons_zero];rw[cW,aQ];refine⟨λh=>by rw[h,Bool.true_or];exact⟨rfl,trivial⟩,λh=>?_⟩;have e5:decide (((c.toNat:Nat):Int)=48)=(c==48):=wG 48 c;rw[aM,e5];simp only[eH,iN,kE,List.getD_cons_zero];intro g2;rw[cW,h,Bool.false_or];refine⟨?_,trivial⟩;rw[show decide ((1:Int)<((n:Nat):Int))=decide (1<n)by rw[decide_eq_decide];omega]
   rintro st g w5 ⟨rfl,rfl⟩;simp only[List.getD_cons_zero];rw[aQ];refine⟨λh=>?_,λh=>?_⟩
   ·rw[if_pos h]at ho;subst ho;exact⟨rfl,hx4,ha4,hb4⟩
   rw[if_neg (by rw[h];decide)]at ho;rw[aO,bY];refine⟨str ((c::r).take n),by rw[aV,aX,hb4];rfl,?_⟩;refine iT (by have:((c::r).take n).length<=n:=(by rw[List.length_take];omega);omega) λw6 hx6=>?_;rw[cJ,aQ];subst ho;refine⟨λh=>?_,λh=>?_⟩
   ·exact⟨by rw[if_neg (by simpa using h)],hx4.trans hx6,hx6.at ha4 id,hx6.at hb4 id⟩
   ·exact⟨by rw[if_pos (by simpa using h)],hx4.trans hx6,hx6.at ha4 id,hx6.at hb4 id⟩
  rw[if_neg (by rw[hno];decide)]at ho;rw[aM,aB];refine⟨λe=>?_,λe=>?_⟩
  ·have e:c=34:=(cond 34 (by omega)).1 e;rw[if_pos (by rw[e];rfl),oZ (by omega)]at ho;refine SN (d:=0) (by omega) (by omega) ?_;by_cases h0:(dO r 0).2=0
   ·rw[if_pos h0]at ho;have hf:=AJ h0;unfold lR;rw[if_pos h0,aK];refine⟨_,rfl,?_⟩;rw[aK];refine⟨_,rfl,?_⟩;rw[aM,aB];refine⟨λ_=>?_,λh=>absurd rfl h⟩;rw[iM,bD (by omega) (by omega),dP,cO,cO];refine⟨by omega,by rw[hlen];omega,by omega,by omega,?_⟩;have et:((c::r).take (Int.toNat (((dO r 0).1+1:Nat)-1))).drop (Int.toNat 1)=r.take ((dO r 0).1-1):=by
     rw[show Int.toNat ((((dO r 0).1+1:Nat):Int)-1)=((dO r 0).1-1)+1 by omega];rfl
    rw[et];simp only[bN,cG,List.length_cons,List.length_nil,List.set_cons_zero,List.set_cons_succ,Nat.reduceAdd,Nat.reduceLT,true_and,Nat.zero_lt_succ];refine put (t:=⟨3,r.take ((dO r 0).1-1),0⟩) hx02 hab2 hbb2 rfl λw4 hx4 ha4 hb4=>?_;subst ho;exact⟨rfl,hx4,ha4,hb4⟩
   ·rw[if_neg h0]at ho;unfold lR;rw[if_neg h0,aK];refine⟨_,rfl,?_⟩;rw[aK];refine⟨_,rfl,?_⟩;rw[aM,aB];refine⟨λh=>absurd h h0,λh=>?_⟩;subst ho;exact⟨rfl,hx02,hab2,hbb2⟩
  have e:¬(c==34)=true:=λh=>e ((cond 34 (by omega)).2 (by simpa using h));rw[if_neg e]at ho;refine wF ?_;rw[aQ];refine⟨λhy=>?_,λhno=>?_⟩
  ·rw[if_pos (show lI [60,60] (c::r)=true from hy)]at ho;have h2:2<=(c::r).length:=Ew (p:=[60,60]) (s:=c::r) hy;rw[aO,aV,Nat.zero_add];refine eY hbb2 rfl (by simp) λw3 hz3 hb3 hc3=>?_;have hx3:=hx02.new hc3 (by omega);have ha3:=hc3.at hab2 (by omega);refine LR (hT.ext hx3) hU (by rw[hlen];omega) h2 λw4 hx4=>?_;rw[aK];refine⟨_,rfl,?_⟩;rw[aK];refine⟨_,rfl,?_⟩;rw[aK];refine⟨_,rfl,?_⟩;have hb4:=hx4.at hb3 id;rw[aO,aV,Nat.zero_add];refine eY hb4 rfl (by simp) λw5 hz5 hb5 hc5=>?_;subst ho;exact⟨rfl,(hx3.trans hx4).new hc5 (by omega),hc5.at (hx4.at ha3 id) (by omega),by rw[hb5];simp[dB]⟩
  ·rw[if_neg (show¬lI [60,60] (c::r)=true from by rw[show lI [60,60] (c::r)=false from hno];decide)]at ho;refine MZ (by omega) ?_;simp only[bN,cG,List.length_cons,List.length_nil,List.set_cons_zero,List.set_cons_succ,Nat.reduceAdd,Nat.reduceLT,true_and,Nat.zero_lt_succ];refine put (t:=⟨4,qT (c::r),0⟩) hx02 hab2 hbb2 rfl λw4 hx4 ha4 hb4=>?_;rw[aO,bY];refine⟨str (qT (c::r)),by rw[aV,aX,hb4];rfl,?_⟩;rw[dI,aM,aB];subst ho;refine⟨λh=>?_,λh=>?_⟩
   ·exact⟨by rw[if_pos (by omega)],hx4,ha4,hb4⟩
   ·exact⟨by rw[if_neg (by omega)],hx4,ha4,hb4⟩
 rintro st g w3 ⟨rfl,hx3,ha3,hb3⟩;refine aU hb3 rfl ?_;refine aY (l:=dB o.1) ha3 rfl rfl rfl λw4 hz4 ha4 hc4=>?_;refine aU ha4 rfl ?_;exact hK w4 (hx3.new hc4 (by omega))
end
theorem MC{s:aH}{k:Nat}(h:Utf s)(hc:∀c,(s.drop k).head?=some c->c.toNat<128):Utf (s.drop k):=by
 cases hd:s.drop k with
 |nil=>exact .nil
 |cons c b=>exact(wQ h hd (hc c (by rw[hd];rfl))).2
theorem wP{s:aH}{k:Nat}(h:Utf s)(hk:s[k]?=some c)(hc:c.toNat<128):Utf (s.drop (k+1)):=by
 obtain⟨hlt,e⟩:=List.getElem?_eq_some_iff.1 hk;have hd:=eV hlt;rw[e]at hd;exact qK (wQ h hd hc).2 hc
theorem AQ(q:UInt8->Bool):∀(s:aH) (b:UInt8),(s.drop (cH q s)).head?=some b->q b=false
 |[],b,h=>by simp[cH]at h
 |c::r,b,h=>by
  simp only[cH]at h
  by_cases hc:q c=true
  ·rw[if_pos hc,List.drop_succ_cons]at h;exact AQ q r b h
  ·rw[if_neg hc]at h
   simp only[List.drop_zero,List.head?_cons,Option.some.injEq]at h
   rw[<-h];simpa using hc
theorem Gj(q:UInt8->Bool):∀(s:aH) (k:Nat),cH q s=k+1->∃c,s[k]?=some c/\q c=true
 |[],k,h=>by simp[cH]at h
 |c::r,k,h=>by
  simp only[cH]at h
  by_cases hc:q c=true
  ·rw[if_pos hc]at h
   cases k with
   |zero=>exact⟨c,rfl,hc⟩
   |succ k=>
    obtain⟨x,h1,h2⟩:=Gj q r k (by omega)
    exact⟨x,by simpa using h1,h2⟩
  ·rw[if_neg hc]at h;omega
theorem Kl:∀(s:aH) (i:Nat),Lib.index s [42,47]=(i:Int)->s[i+1]?=some 47
 |[],i,h=>by
  unfold Lib.index at h
  simp at h
 |b::l,i,h=>by
  unfold Lib.index at h
  split at h
  ·rename_i hp
   have hi:i=0:=by omega
   subst hi
   cases l with
   |nil=>simp[List.isPrefixOf]at hp
   |cons c l=>
    simp only[List.isPrefixOf,Bool.and_eq_true,beq_iff_eq,Bool.and_true]at hp
    simp[hp.2]
  ·split at h
   ·omega
   ·rename_i hq
    have h1:Lib.index l [42,47]≠-1:=by simpa using hq
    have hg:=Lib.index_ge l [42,47]
    have:=Kl l (i-1) (by omega)
    have hi:1<=i:=by omega
    rw[show i-1+1=i by omega]at this
    simpa using this
theorem La{s:aH}(h:Utf s):Utf (s.drop (cH (λb=>b !=10) s)):=
 MC h λc hc=>by
  have:=AQ _ _ _ hc
  have:c=10:=by simpa using this
  subst this;decide
theorem wX:∀(n:Nat) (s:aH),Utf s->Utf (s.drop (dE n s).1)
 |0,s,h=>by simpa[dE]using h
 |n+1,[],h=>by simpa[dE]using h
 |n+1,c::r,h=>by
  rw[Cw]
  split
  ·rename_i hb
   have hc:c.toNat<128:=by
    simp only[Bool.or_eq_true,beq_iff_eq]at hb;rcases hb with(rfl|rfl)|rfl<;>decide
   rw[List.drop_succ_cons];exact wX n r (qK h hc)
  split
  ·have:=wX n _ (La h);rw[dH]at this;rw[Nat.add_comm];exact this
  split
  ·rename_i hp;split
   ·simpa using h
   ·rename_i hn;obtain⟨j,hj⟩:=Int.eq_ofNat_of_zero_le (show 0<=Lib.index (r.drop 1) [42,47]by omega);have he:=Kl _ _ hj;have hu:Utf ((c::r).drop ((Lib.index (r.drop 1) [42,47]).toNat+4)):=by
     rw[hj,Int.toNat_natCast];refine wP (k:=j+3) (c:=47) h ?_ (by decide);rw[List.getElem?_drop]at he;rw[List.getElem?_cons_succ,<-he];congr 1;omega
    have:=wX n _ hu;rw[dH]at this;rw[Nat.add_comm];exact this
  ·simpa using h
theorem BA:∀(n:Nat) (name s:aH) (c:UInt8),(iL n name s).2.2=0->(s.drop (iL n name s).2.1).head?=some c->c=10
 |0,_,_,_,h,_=>by simp[iL]at h
 |n+1,name,s,c,h,hc=>by
  rw[Di]at h hc
  split at h
  ·rename_i h1
   rw[if_pos h1]at hc
   have:=AQ _ _ _ hc
   simpa using this
  rename_i h1
  rw[if_neg h1]at hc
  split at h
  ·cases h
  rename_i h2
  rw[if_neg h2]at hc
  split at h
  ·rename_i h3
   rw[if_pos h3]at hc
   refine BA n name _ c h3 ?_
   rw[dH]
   rw[show cH (λb=>b !=10) s+1+(iL n name (s.drop (cH (λb=>b !=10) s+1))).2.1=(iL n name (s.drop (cH (λb=>b !=10) s+1))).2.1+(cH (λb=>b !=10) s+1)by omega]
   exact hc
  ·rename_i h3;exact absurd h h3
theorem EM{s:aH}(h:(eO s).2.2=0)(hc:(s.drop (eO s).2.1).head?=some c):c=10:=by
 unfold eO at h hc;simp only at h hc;generalize (if fH ((s.drop 2).headD 0)=true then cH fL (s.drop 2)else 0)=n at h hc;split at h
 ·cases h
 rename_i h1;rw[if_neg h1]at hc;split at h
 ·rename_i h2;rw[if_pos h2]at hc;split at h
  ·rename_i h3;rw[if_pos h3]at hc;refine BA _ _ _ c h3 ?_;rw[dH,Nat.add_comm];exact hc
  ·rename_i h3;exact absurd h h3
 ·cases h
theorem GL(h:fL c=true):c.toNat<128:=by
 have:∀m:Fin 256,fL (UInt8.ofNat m.val)=true->(UInt8.ofNat m.val).toNat<128:=by decide+kernel
 have h':=this ⟨c.toNat,UInt8.toNat_lt c⟩;rw[UInt8.ofNat_toNat]at h';exact h' h
theorem Mh(h:fD c=true):c.toNat<128:=GL (by unfold fL;rw[h];simp)
theorem Na(h:yB.contains c=true):c.toNat<128:=by
 have:∀m:Fin 256,yB.contains (UInt8.ofNat m.val)=true->(UInt8.ofNat m.val).toNat<128:=by decide+kernel
 have h':=this ⟨c.toNat,UInt8.toNat_lt c⟩;rw[UInt8.ofNat_toNat]at h';exact h' h
theorem Ln{x:aH}(h:tF.contains x=true):x.length=2/\∃c,x[1]?=some c/\c.toNat<128:=by
 have:x∈tF:=by simpa using h
 simp only[tF,List.mem_cons,List.not_mem_nil,or_false]at this;rcases this with rfl|rfl|rfl|rfl|rfl|rfl<;>exact⟨rfl,_,rfl,by decide⟩
theorem Sw{r:aH}(h:Utf (c::r))(h0:(kY (c::r)).2.2=0):Utf ((c::r).drop (kY (c::r)).2.1):=by
 have run:∀q:UInt8->Bool,(∀c,q c=true->c.toNat<128)->Utf ((c::r).drop (cH q (c::r))):=λq hq=>by
  cases hk:cH q (c::r)with
  |zero=>exact h
  |succ k=>
   obtain⟨x,h1,h2⟩:=Gj q _ _ hk;exact wP h h1 (hq x h2)
 rw[GC]at h0⊢;split
 ·rename_i e;have e:c=10:=by simpa using e
  exact qK h (by rw[e];decide)
 rename_i n1;rw[if_neg n1]at h0;split
 ·exact run _ λc=>GL
 rename_i n2;rw[if_neg n2]at h0;split
 ·exact run _ λc=>Mh
 rename_i n3;rw[if_neg n3]at h0;split
 ·rename_i e;rw[if_pos e]at h0;split
  ·rename_i h1;rw[oZ (by simp only[List.length_cons];omega)]at h1⊢;have hf:=AJ h1;have he:=tB _ r 0 _ (Nat.le_refl _) (Prod.ext rfl h1:dO r 0=((dO r 0).1,0));refine wP (c:=34) h ?_ (by decide);rw[show(dO r 0).1=(dO r 0).1-1+1 by omega,List.getElem?_cons_succ];exact he
  ·rename_i h1;rw[if_neg h1]at h0;exact absurd h0 h1
 rename_i n4;rw[if_neg n4]at h0;split
 ·rename_i h1;rw[if_pos h1]at h0;exact MC h λx hx=>by rw[EM h0 hx];decide
 rename_i n5;rw[if_neg n5]at h0;show Utf ((c::r).drop (qT (c::r)).length);unfold qT;split
 ·rename_i h1;obtain⟨e1,x,e2,e3⟩:=Ln h1;rw[e1];refine wP (k:=1) (c:=x) h ?_ e3;rw[<-e2,List.getElem?_take_of_lt (by omega)]
 split
 ·rename_i h1;exact qK h (Na h1)
 ·exact h
theorem HO{s:aH}:∀(n i:Nat),s.length<n+i->Cl n s i=none->Utf (s.drop i)
 |0,i,hl,_=>by rw[List.drop_of_length_le (by omega)];exact .nil
 |n+1,i,hl,h=>by
  rw[Cl]at h
  split at h
  ·rename_i hi;rw[List.drop_of_length_le hi];exact .nil
  split at h
  ·cases h
  ·rename_i hi h0
   have hs:qO s i=eK s i:=by unfold qO;omega
   rw[hs]at h
   have:=Utf.cons (Rn.of h0) (HO n (i+eK s i) (by omega) h)
   rwa[<-List.drop_drop,List.take_append_drop]at this
theorem Ps{s:aH}(h:eK s i=0):Lib.hasPrefix (s.drop i) [239,191,189]=false:=by
 rw[Bool.eq_false_iff];intro hp;obtain⟨r,hr⟩:=List.isPrefixOf_iff_prefix.1 hp;have hn:Rn [239,191,189]:=⟨by decide,by decide⟩;have:=hn.at hr.symm;rw[h]at this;cases this
theorem LY{s:aH}(h:PC s i n 65533):Lib.hasPrefix (s.drop i) [239,191,189]=true:=by
 have hb:=h.bytes;refine List.isPrefixOf_iff_prefix.2 ?_;have e:Lib.encodeRune ((65533:Nat):Int)=[239,191,189]:=by decide
 rw[e]at hb;rw[hb];exact List.take_prefix _ _
def Lp(acc:List Tok):RS->RS
 |.ok l=>.ok (acc++l)
 |.bad c a=>.bad c a
theorem Lo(acc:List Tok)(t:Tok)(x:RS):Lp acc (match x with|.ok l=>.ok (t::l)|x=>x)=Lp (acc++[t]) x:=by
 cases x<;>simp[Lp]
theorem FQ(a:List Tok)(t:Tok):toks (a++[t])=toks a++dB t:=by simp[toks,dB]
section
variable [HX]
theorem Xg:Wx:=by
 intro w K s hT hl hok hbad;refine aAz ?_;unfold W26;rw[dI,iN,aB];unfold mE at hok hbad;have bad:∀{w1:World} (c:Int) (i:Nat) {K':Q0},(∀d w',bA w w'->w.heap.size<=d->w'.heap[d]?=some (.cells [i64 c,str [],i64 (i:Nat)].toArray 53 (0,0))->K (.tuple #[.slice none 0 0,.pointer (some ⟨d,0,none⟩)]) w')->bA w w1->
   cI 53 (.agg [i64 c,str [],i64 (i:Nat)].toArray) w1 λt16 w2=>K (.tuple #[.slice none 0 0,t16]) w2:=by
  intro w1 c i _ h hx;refine dF (z:=[i64 c,str [],i64 (i:Nat)]) λd w2 hd hz hdb hx2=>?_;have:=hx.size;exact h d w2 (hx.trans hx2) (by omega) hdb
 refine⟨λh=>?_,λh=>?_⟩
 ·rw[if_pos (by omega)]at hbad;simp only[bN,cG,List.length_cons,List.length_nil,List.set_cons_zero,List.set_cons_succ,Nat.reduceAdd,Nat.reduceLT,true_and,Nat.zero_lt_succ];exact bad (K':=K) 3 0 (λd w'=>hbad 3 0 rfl d w') (aS.refl _ _)
 have hls:s.length<=16384:=by omega
 rw[if_neg (by omega)]at hok hbad;generalize hB:Cl (s.length+1) s 0=Bd at hok hbad;refine Bh ?_;refine bL.go (λst w5=>∃p m,p<=s.length/\st=[]/\w5.heap[w.heap.size]?=some (.stringIter (aL s) p)/\bA w w5/\Cl m s p=Bd/\s.length<m+p)
  (λ_ w5=>match w5.heap[w.heap.size]? with|some (.stringIter _ p)=>s.length-p|_=>0)
  ⟨0,s.length+1,Nat.zero_le _,rfl,dW _ _ _ rfl,aS.alloc (aS.refl _ _) _,hB,by omega⟩ ?_
 rintro st g w5 ⟨p,m,hp,rfl,hit,hx5,hbf,hm⟩;obtain⟨m,rfl⟩:∃k,m=k+1:=⟨m-1,by omega⟩;rw[Cl]at hbf;have hz5:=hx5.size;refine Db hit (λhpe=>?_) (λhpl w6 hit6 hc6 hz6=>?_)
 ·
  rw[aK];refine⟨.bool false,rfl,?_⟩;rw[bJ];rw[if_pos hpe]at hbf;subst hbf;simp only at hok hbad;have hU:Utf s:=by
   have:=HO (s:=s) (s.length+1) 0 (by omega) hB;rwa[List.drop_zero]at this
  generalize hR:jL (s.length+1) s 0 0=R0 at hok hbad;refine bL.go (λst w7=>∃(i m:Nat) (acc:List Tok) (v:Value),st=[v,i64 (i:Nat)]/\i<=s.length/\Utf (s.drop i)/\bA w w7/\Own w7 w.heap.size qG 3 v acc.length (toks acc)/\Lp acc (jL m (s.drop i) i acc.length)=R0/\s.length<m+i/\acc.length<=4096)
   (λst _=>match st with|[_,.int _ i]=>s.length-i.toNat|_=>0)
   ⟨0,s.length+1,[],_,rfl,Nat.zero_le _,by rw[List.drop_zero];exact hU,hx5,⟨by simp[toks],.inl ⟨rfl,rfl⟩⟩,by rw[List.drop_zero,List.length_nil,hR];cases R0<;>rfl,by omega,by simp⟩ ?_
  rintro st g2 w7 ⟨i,m2,acc,v,rfl,hi,hu,hx7,hO,hr,hm2,hcnt⟩;obtain⟨m2,rfl⟩:∃k,m2=k+1:=⟨m2-1,by omega⟩;simp only[jL]at hr;simp only[List.getD_cons_zero,List.getD_cons_succ];have hz7:=hx7.size;have hsl:(s.drop i).length=s.length-i:=List.length_drop;rw[dP,cZ,cO];refine⟨by omega,by omega,?_⟩;rw[List.take_length,Int.toNat_natCast];refine Xd (hT.ext hx7) (by omega) ?_;have hku:=wX ((s.drop i).length+1) _ hu;have hkl:=rS ((s.drop i).length+1) (s.drop i);rw[dH]at hku hr;generalize dE ((s.drop i).length+1) (s.drop i)=k at*
  obtain⟨k,kc⟩:=k;simp only at hku hkl hr⊢;rw[aK];refine⟨_,rfl,?_⟩;rw[aK];refine⟨_,rfl,?_⟩;rw[aW,bD (by omega) (by omega),show(i:Int)+(k:Nat)=((i+k:Nat):Int)by omega,aM];simp only[eH];refine cX.look (decide (i+k=s.length)) (λ_ J hJ=>?_) λg3=>?_
  ·rw[dI,aM,show decide (((i+k:Nat):Int)=((s.length:Nat):Int))=decide (i+k=s.length)by rw[decide_eq_decide];omega];exact hJ
  simp only[List.getD_cons_zero];rw[cW,aQ];refine⟨λhend=>?_,λhgo=>?_⟩
  ·simp only[Bool.and_eq_true,decide_eq_true_iff]at hend;rw[if_neg (by rw[hend.1];simp),if_pos (List.drop_eq_nil_of_le (by omega))]at hr;simp only[bN,cG,List.length_cons,List.length_nil,List.set_cons_zero,List.set_cons_succ,Nat.reduceAdd,Nat.reduceLT,true_and,Nat.zero_lt_succ];rw[bI];refine xQ (d:=dB ⟨0,[],((i+k:Nat):Int)⟩) rfl rfl λb w8 hb hz8 hbb hx8=>?_;refine fN Wo (hO.ext hx8) (nQ (n:=1) hbb) rfl (λu hu=>by simp only[dB,List.mem_cons,List.not_mem_nil,or_false]at hu;rcases hu with rfl|rfl|rfl<;>rfl) (by omega) (by omega) (by have:=hx8.size;omega) λv' w9 hO9 hc9 hv9=>?_;have e:toks acc++dB ⟨0,[],((i+k:Nat):Int)⟩=toks (acc++[⟨0,[],((i+k:Nat):Int)⟩]):=(FQ _ _).symm;rw[e]at hO9;have hx9:bA w w9:=(hx7.trans hx8).then hc9 λq hq e=>by have:=(mQ hO e).2;omega
   refine hok (acc++[⟨0,[],((i+k:Nat):Int)⟩]) (by rw[<-hr];rfl) v' w9 hx9 (by rw[List.length_append];exact hO9.sl) λq hq=>⟨(mQ hO9 hq).2,(mQ hO9 hq).1⟩
  ·have hgo:¬(kc=0/\i+k=s.length):=by
    rintro⟨h1,h2⟩;rw[h1,h2]at hgo;simp at hgo
   refine aI λa w8 ha hz8 hab8 hx8=>?_;have hx78:=hx7.trans hx8;refine aP.cut (λst w9=>bA w w9/\Own w9 w.heap.size qG 3 v acc.length (toks acc)/\w8.heap.size<=w9.heap.size/\v.ownBlock≠some a/\∃(t:Tok) (n:Nat) (e:Int),st=[i64 e,i64 (n:Nat)]/\w9.heap[a]?=some (.cells (dB t).toArray qG (0,0))/\
    ((e≠0/\R0=.bad e ((i+k:Nat):Int))\/(e=0/\1<=n/\i+k+n<=s.length/\Utf (s.drop (i+k+n))/\Lp acc (if acc.length=4096 then .bad 3 ((i+k:Nat):Int)else match jL m2 (s.drop (i+k+n)) (i+k+n) (acc.length+1)with|.ok l=>.ok (⟨t.k,t.t,((i+k:Nat):Int)⟩::l)|x=>x)=R0))) ?_ ?_
   ·have hva:v.ownBlock≠some a:=λe=>by have:=(mQ hO e).1;omega
    rw[aM,aB];refine⟨λh0=>?_,λh0=>?_⟩
    ·rw[if_neg (by rw[h0];simp)]at hr;have hlt:i+k<s.length:=by
      rcases Nat.lt_or_ge (i+k) s.length with h|h
      ·exact h
      ·exact absurd ⟨h0,by omega⟩ hgo
     have hd:=eV hlt;rw[if_neg (λe=>by rw[hd]at e;cases e)]at hr;rw[dP,cZ,cO];refine⟨by omega,by omega,?_⟩;rw[List.take_length,Int.toNat_natCast];have hrl:(s.drop (i+k+1)).length=s.length-(i+k+1):=List.length_drop;rw[hd]at hr hku⊢;generalize s[i+k]=c at*
     generalize hrr:s.drop (i+k+1)=r at*
     refine aBo (hT.ext hx78) hku (by omega) λw9 hx9=>?_;rw[aK];refine⟨_,rfl,?_⟩;rw[aK];refine⟨_,rfl,?_⟩;rw[aK];refine⟨_,rfl,?_⟩;have hou:=Sw hku;have hok1:=@EA (c::r);generalize kY (c::r)=o at*
     obtain⟨t,n,e⟩:=o;simp only at hou hr⊢;refine aY (l:=dB t) (hx9.at hab8 id) rfl rfl rfl λw10 hz10 ha10 hc10=>?_;have hO9:=(hO.ext hx8).ext hx9;refine⟨(hx78.trans hx9).new hc10 (by omega),fG hO9 hc10 λq hq e=>hva (e▸hq),by have:=hx9.size;omega,hva,?_⟩;by_cases he:e=0
     ·subst he;rw[if_neg (by simp)]at hr;obtain⟨n1,n2,_⟩:=hok1 (t:=t) (k:=n) (by simp) rfl;simp only[List.length_cons]at n2;refine⟨t,n,0,rfl,ha10,.inr ⟨rfl,n1,by omega,?_,?_⟩⟩
      ·rw[<-dH,hd];exact hou rfl
      ·rw[<-dH,hd];exact hr
     ·rw[if_pos he]at hr;exact⟨t,n,e,rfl,ha10,.inl ⟨he,hr.symm⟩⟩
    ·rw[if_pos h0]at hr;exact⟨hx78,hO.ext hx8,Nat.le_refl _,hva,⟨0,[],0⟩,0,kc,rfl,hab8,.inl ⟨h0,hr.symm⟩⟩
   rintro st g4 w9 ⟨hx9,hO9,hz9,hva,t,n,e,rfl,ha9,hcase⟩;simp only[List.getD_cons_zero,List.getD_cons_succ];refine aP.cut (λst w'=>w'=w9/\∃e':Int,st=[i64 e']/\((e'≠0/\R0=.bad e' ((i+k:Nat):Int))\/(e'=0/\1<=n/\i+k+n<=s.length/\Utf (s.drop (i+k+n))/\acc.length<4096/\Lp acc (match jL m2 (s.drop (i+k+n)) (i+k+n) (acc.length+1)with|.ok l=>.ok (⟨t.k,t.t,((i+k:Nat):Int)⟩::l)|x=>x)=R0))) ?_ ?_
   ·rw[aM];simp only[eH];refine cX.look (decide (acc.length=4096)) (λ_ J hJ=>?_) λg5=>?_
    ·obtain⟨q,cap,ev,_⟩:=hO9.sl.shape;rw[ev,uU,aM,show decide (((acc.length:Nat):Int)=4096)=decide (acc.length=4096)by rw[decide_eq_decide];omega];exact hJ
    simp only[List.getD_cons_zero];rw[cW,aQ];refine⟨λhb=>?_,λhb=>?_⟩
    ·simp only[Bool.and_eq_true,decide_eq_true_iff]at hb;refine⟨trivial,3,rfl,.inl ⟨by decide,?_⟩⟩;rcases hcase with⟨h1,h2⟩|⟨h1,h2,h3,h4,h5⟩
     ·exact absurd hb.1 h1
     ·rw[if_pos hb.2]at h5;exact h5.symm
    ·refine⟨trivial,e,rfl,?_⟩;rcases hcase with h|⟨h1,h2,h3,h4,h5⟩
     ·exact .inl h
     ·have:acc.length≠4096:=λh=>by rw[h1,h]at hb;simp at hb
      rw[if_neg this]at h5;exact .inr ⟨h1,h2,h3,h4,by omega,h5⟩
   rintro st g5 w10 ⟨rfl,e',rfl,hcase⟩;simp only[List.getD_cons_zero];rw[dG,aB];refine⟨λhne=>?_,λheq=>?_⟩
   ·rcases hcase with⟨h1,h2⟩|⟨h1,_⟩
    ·simp only[bN,cG,List.length_cons,List.length_nil,List.set_cons_zero,List.set_cons_succ,Nat.reduceAdd,Nat.reduceLT,true_and,Nat.zero_lt_succ];exact bad (K':=K) e' (i+k) (λd w'=>hbad e' _ h2 d w') hx9
    ·exact absurd h1 hne
   ·rcases hcase with⟨h1,_⟩|⟨h1,n1,n2,hu2,hc4,hr⟩
    ·exact absurd (by simpa using heq) h1
    rw[aO,aV,Nat.zero_add];refine eY ha9 rfl (by simp[dB]) λw11 hz11 ha11 hc11=>?_;have ha11:w11.heap[a]?=some (.cells (dB ⟨t.k,t.t,((i+k:Nat):Int)⟩).toArray qG (0,0)):=by rw[ha11];simp[dB]
    have hO11:=fG hO9 hc11 λq hq e=>hva (e▸hq);have hx11:=hx9.new hc11 (by omega);refine aU ha11 rfl ?_;refine xQ (d:=dB ⟨t.k,t.t,((i+k:Nat):Int)⟩) rfl rfl λb w12 hb hz12 hbb hx12=>?_;refine fN Wo (hO11.ext hx12) (nQ (n:=1) hbb) rfl (λu hu=>by simp only[dB,List.mem_cons,List.not_mem_nil,or_false]at hu;rcases hu with rfl|rfl|rfl<;>rfl) (by omega) (by omega) (by have:=hx11.size;have:=hx12.size;omega) λv' w13 hO13 hc13 hv13=>?_;rw[<-FQ]at hO13;rw[aW,bD (by omega) (by omega)];refine⟨⟨i+k+n,m2,acc++[⟨t.k,t.t,((i+k:Nat):Int)⟩],v',by simp only[List.cons.injEq,Value.int.injEq,true_and,and_true];omega,by omega,hu2,(hx11.trans hx12).then hc13 λq hq e=>?_,by rw[List.length_append];exact hO13,?_,by omega,by rw[List.length_append,List.length_cons,List.length_nil];omega⟩,?_⟩
    ·have:=(mQ hO11 e).2;omega
    ·rw[List.length_append,<-Lo];exact hr
    ·simp only[Int.toNat_natCast];omega
 ·
  have hge:¬s.length<=p:=by omega
  rw[if_neg hge]at hbf;have hx6:bA w w6:=hx5.then hc6 λq hq e=>by have e:q=w.heap.size:=e;omega
  rw[aK];refine⟨.bool true,rfl,?_⟩;rw[bZ,aK];refine⟨i64 (p:Nat),rfl,?_⟩;rw[aK];refine⟨_,rfl,?_⟩;have hdc:(Utf8.decode (aL s) p).1=65533/\Lib.hasPrefix (s.drop p) [239,191,189]=false↔eK s p=0:=by
   constructor
   ·rintro⟨h1,h2⟩;by_cases h0:eK s p=0
    ·exact h0
    ·obtain⟨c,hc⟩:=qV hpl h0;have hd:=hc.dec;rw[hd]at h1;have h1:c=65533:=h1;subst h1;rw[LY hc]at h2;cases h2
   ·intro h0;rw[Gh hpl h0];exact⟨rfl,Ps h0⟩
  rw[Ph hpl]at hit6;generalize (Utf8.decode (aL s) p).1=c at*
  rw[aM,show decide (((c:Nat):Int)=65533)=decide (c=65533)by rw[decide_eq_decide];omega];simp only[eH];refine cX.look (!Lib.hasPrefix (s.drop p) [239,191,189]) (λ_ J hJ=>?_) λg3=>?_
  ·rw[dP,cZ,cO];refine⟨by omega,by omega,?_⟩;rw[List.take_length,Int.toNat_natCast];refine wF ?_;rw[cJ];exact hJ
  simp only[List.getD_cons_zero];rw[cW,aQ];refine⟨λhb=>?_,λhb=>?_⟩
  ·have h0:eK s p=0:=hdc.1 (by simpa using hb);rw[if_pos h0]at hbf;subst hbf;simp only[bN,cG,List.length_cons,List.length_nil,List.set_cons_zero,List.set_cons_succ,Nat.reduceAdd,Nat.reduceLT,true_and,Nat.zero_lt_succ];exact bad (K':=K) 31 p (λd w'=>hbad 31 _ rfl d w') hx6
  ·have h0:eK s p≠0:=λh=>by
    have:=hdc.2 h;rw[decide_eq_true this.1,this.2]at hb;cases hb
   rw[if_neg h0]at hbf;have hfit:=Lh hpl;have hpos:=MU s p;refine⟨⟨p+qO s p,m,hfit,trivial,hit6,hx6,hbf,by omega⟩,?_⟩;rw[hit6,hit];show s.length-(p+qO s p)<s.length-p;omega
end
abbrev DgT:TypeId:=53
def LZ:Syn.PR->Fl
 |.ok f=>f
 |.bad _ _=>⟨[],[],[]⟩
def okP:Syn.PR->Bool
 |.ok _=>true
 |.bad _ _=>false
def VM(w:World)(d:Value):Syn.PR->Prop
 |.ok _=>d=.pointer none
 |.bad c a=>∃b,d=.pointer (some ⟨b,0,none⟩)/\w.heap[b]?=some (.cells [i64 c,str [],i64 a].toArray DgT (0,0))
theorem VM.eq{d:Value}{r:Syn.PR}(h:VM w d r)(n:Bool)(K:Value->Prop):tR .ptr n d (.pointer none) K↔K (.bool (n^^okP r)):=by
 cases r with
 |ok f=>have h:d=.pointer none:=h;rw[h];cases n<;>exact Iff.rfl
 |bad c a=>obtain⟨b,rfl,_⟩:=h;cases n<;>exact Iff.rfl
theorem Ze(w:World)(B:Nat):FO w B ⟨.slice none 0 0,.slice none 0 0,.slice none 0 0,[],[]⟩ ⟨[],[],[]⟩:=
 ⟨⟨by simp,.inl ⟨rfl,rfl⟩⟩,⟨by simp,.inl ⟨rfl,rfl⟩⟩,⟨by simp[ints],.inl ⟨rfl,rfl⟩⟩,kR.nil _ _,kR.nil _ _,List.nodup_nil,λk hk=>by simp[ub,Value.ownBlock]at hk,λk hk=>by simp[ub,Value.ownBlock]at hk⟩
def isP(r:Syn.PR)(code a:Int):Bool:=match r with
 |.ok _=>decide (code=0)
 |.bad c i=>decide (code≠0)&&decide (c=code)&&decide (i=a)
section
variable [HX]
theorem Ss{t:aH}{K:Q0}(hT:uC w)(hl:t.length<=1000000)
  (hK:∀M d w',bA w w'->FO w' w.heap.size M (LZ (parseM t))->VM w' d (parseM t)->((LZ (parseM t)).ex.length<=100000/\(LZ (parseM t)).bl.length<=100000/\(LZ (parseM t)).top.length<=100000)->K (.tuple #[.agg [M.vE,M.vB,M.vT].toArray,d]) w'):aA P0 10 [str t] w K:=by
 refine Su (λ{_}=>Xg) hT hl (λfl h M w' hx hF hfew=>?_) (λc a h d w' hx hd hdb=>?_)
 ·rw[h]at hK;exact hK M _ w' hx hF rfl hfew
 ·rw[h]at hK;exact hK ⟨.slice none 0 0,.slice none 0 0,.slice none 0 0,[],[]⟩ _ w' hx (Ze _ _) ⟨d,rfl,hdb⟩ (by simp[LZ])
theorem aBz{d:Value}{r:Syn.PR}{code a:Int}{K:Q0}(h:VM w d r)(hK:K (.bool (isP r code a)) w):aA P0 25 [d,i64 code,i64 a] w K:=by
 refine aAA ?_;unfold W25;rw[aM,aB];refine⟨λe=>?_,λe=>?_⟩
 ·rw[h.eq];cases r with
  |ok f=>simp only[isP,e,decide_true,okP]at hK⊢;exact hK
  |bad e1 i=>simp only[isP,e,ne_eq,not_true,decide_false,Bool.false_and,okP]at hK⊢;exact hK
 ·rw[h.eq];cases r with
  |ok f=>
   simp only[isP,decide_eq_false e,okP,Bool.xor_self]at hK⊢;simp only[eH,iB,vU,List.getD_cons_zero,oD];intros;exact hK
  |bad e1 i=>
   obtain⟨b,rfl,hb⟩:=h;simp only[isP,decide_eq_true e,okP,Bool.xor_false,Bool.true_and,ne_eq]at hK⊢;have ld:∀{off:Nat} {v:Value} {K:Value->Prop},[i64 e1,str [],i64 i][off]?=some v->K v->bW (.pointer (some ⟨b,0,none⟩)) λt=>aF off t λt=>aE false 1 t w K:=λhv hk=>by
    rw[bX,aO,bY];refine⟨_,?_,hk⟩;rw[aV,aX,hb,aZ,Nat.zero_add];simpa using hv
   refine cX.act (decide (e1=code)) (λw'=>w'=w) (λe=>by cases e) ?_ ?_
   ·intro _ J hJ;refine ld rfl ?_;rw[aM];exact hJ _ rfl
   rintro g w2 rfl;simp only[cond_true,List.getD_cons_zero,iS,eH];refine cX.act (decide (i=a)) (λw'=>w'=w2) (λ_=>rfl) ?_ ?_
   ·intro _ J hJ;refine ld rfl ?_;rw[aM];exact hJ _ rfl
   rintro g2 w3 rfl;simp only[List.getD_cons_zero];rw[cW];simp only[eH];refine cX.act true (λw'=>w'=w3) (λ_=>rfl) ?_ ?_
   ·intro _ J hJ;refine ld rfl ?_;rw[nK];exact hJ _ rfl
   rintro g3 w4 rfl;simp only[List.getD_cons_zero];rw[cW,Bool.and_true];simpa using hK
end
def ex1:aH:=[114,32,34,116,34,32,34,110,34,32,123,32,120,32,61,32,49,32,43,32,121,46,122,32,125]
section
variable [HX]
end
end
section
open Go Go.Eng Go.RowKit Go.Syn Go.Lex
def cnt(n:Nat)(l:List Nat):List Nat:=(List.range n).map λj=>l.count j
section
variable [HX]
end
variable{w0 w w':World}{B a ea eb:Nat}{M:Lay}{fl:Fl}{lE lB:List Nat}
end
section
open Go Go.Eng Go.RowKit Go.Syn Go.Lex
variable{w:World}{K:Q0}{cs:List Value}{G:Nat->Prop}{T:TypeId}{i:Nat}{n:Nat}{v:Value}{w':World}{P:Program}{c:UInt8}{S:Nat->Prop}
theorem DD{w:World}{b o:Nat}{c:Array Value}{T:TypeId}{fr:Nat×Nat}{d:List Value}(hb:w.heap[b]?=some (.cells c T fr))(hd:∀j,j<d.length->c[o+j]?=d[j]?):∀(n i:Nat),i+n=d.length->fU w ⟨b,o,none⟩ i n=some (d.drop i)
 |0,i,h=>by simp only[fU];rw[List.drop_of_length_le (by omega)]
 |n+1,i,h=>by
  have hi:i<d.length:=by omega
  simp only[fU,aV,aX,hb,aZ,hd i hi,List.getElem?_eq_getElem hi]
  rw[DD hb hd n (i+1) (by omega)]
  simp
theorem SU{size:Nat}{d:List Value}{k:IntKind}{K:Value->Prop}(h:SlAt w T v n cs)(hl:cs.length=n*size)(hs:0<size)(hi:i<n)(hd:(cs.drop (i*size)).take size=d)(hK:K (.agg d.toArray)):
  bU none size v (.int k i) λt=>aE true size t w K:=by
 have hlt:i*size+size<=n*size:=by rw[<-Nat.succ_mul];exact Nat.mul_le_mul_right _ hi
 have hdl:d.length=size:=by rw[<-hd,List.length_take,List.length_drop];omega
 refine mR h hl hs hi λb o c fr hb hc=>?_;rw[Bp];refine⟨d,?_,hK⟩;have:=DD (d:=d) hb (λj hj=>by rw[hc j (by omega),<-hd,List.getElem?_take_of_lt (by omega),List.getElem?_drop]) size 0 (by omega);simpa using this
variable [HX]
end
section
open Go Go.Eng Go.RowKit Go.Syn Go.Lex
variable{w:World}{K:Q0}{cs:List Value}{G:Nat->Prop}{T:TypeId}{i:Nat}{n:Nat}{v:Value}{w':World}{P:Program}{c:UInt8}{S:Nat->Prop}
theorem aBx{len k:Nat}{l:List Value}{x:Value}{K:Value->Prop}(hk:k<len)(hx:l[k]?=some x)(h:K x):SS len false 1 (.agg l.toArray) (i64 (k:Nat)) K:=by
 refine⟨by omega,by omega,?_⟩;show∃c,l.toArray[((k:Nat):Int).toNat*1]?=some c/\K c;exact⟨x,by rw[Int.toNat_natCast,Nat.mul_one,List.getElem?_toArray];exact hx,h⟩
theorem aA4{a:Int}{m:Nat}(hm:0<m)(hm2:m<1000):∃n:Nat,n<m/\IntKind.i64.wrap ((IntKind.u64.wrap a).tmod (m:Nat))=(n:Int):=by
 obtain⟨u,hu⟩:∃u:Nat,IntKind.u64.wrap a=(u:Int):=⟨(IntKind.u64.wrap a).toNat,by rw[IntKind.wrap_u64];omega⟩;have hlt:=Nat.mod_lt u hm;refine⟨u%m,hlt,?_⟩;have e:((u:Nat):Int).tmod (m:Nat)=((u%m:Nat):Int):=by rw[Int.tmod_eq_emod_of_nonneg (by omega)];omega
 rw[hu,e,bD (by omega) (by omega)]
section
variable [HX]
end
def ExV(w:World)(e:Ex)(c:List Value):Prop:=
 ∃va vk,c=[i64 e.k,str e.t,va,vk,i64 e.a]/\SlAt w eX va e.args.length (ints e.args)/\SlAt w Ah vk e.keys.length (strs e.keys)
def BkV(w:World)(b:Mu)(c:List Value):Prop:=
 ∃vl va vb,c=[str b.typ,vl,va,vb,i64 b.a]/\SlAt w Ah vl b.labels.length (strs b.labels)/\SlAt w AtT va b.attrs.length (Mp b.attrs)/\SlAt w eX vb b.blocks.length (ints b.blocks)
structure FV(w:World)(M:Lay)(fl:Fl):Prop where
 oE:SlAt w zJ M.vE fl.ex.length M.cE
 oB:SlAt w WA M.vB fl.bl.length M.cB
 oT:SlAt w eX M.vT fl.top.length (ints fl.top)
 ee:kR (ExV w) 5 fl.ex M.cE
 bb:kR (BkV w) 5 fl.bl M.cB
theorem FO.fv{B:Nat}{M:Lay}{fl:Fl}(h:FO w B M fl):FV w M fl:=
 ⟨h.oE.sl,h.oB.sl,h.oT.sl,h.ee.imp λ_ _ _ ⟨va,vk,e,h1,h2⟩=>⟨va,vk,e,h1.sl,h2.sl⟩,h.bb.imp λ_ _ _ ⟨vl,va,vb,e,h0,h1,h2⟩=>⟨vl,va,vb,e,h0.sl,h1.sl,h2.sl⟩⟩
theorem FV.ext{M:Lay}{fl:Fl}(h:FV w M fl)(hx:bA w w'):FV w' M fl:=
 ⟨h.oE.ext hx,h.oB.ext hx,h.oT.ext hx,h.ee.imp λ_ _ _ ⟨va,vk,e,h1,h2⟩=>⟨va,vk,e,h1.ext hx,h2.ext hx⟩,h.bb.imp λ_ _ _ ⟨vl,va,vb,e,h0,h1,h2⟩=>⟨vl,va,vb,e,h0.ext hx,h1.ext hx,h2.ext hx⟩⟩
section
variable [HX]
end
theorem cC{b:Nat}{c:List Value}{off:Nat}{K:Value->Prop}(hw:w.heap[b]?=some (.cells c.toArray T (0,0)))(hv:c[off]?=some v)(hk:K v):aF off (.pointer (some ⟨b,0,none⟩)) λt=>aE false 1 t w K:=by
 rw[aO,bY];refine⟨v,?_,hk⟩;rw[aV,aX,hw,aZ,Nat.zero_add,List.getElem?_toArray];exact hv
section
variable [HX]
end
end
section
open Go Go.Eng Go.Num Go.RowKit Go.Syn
variable{w:World}{K:Q0}{cs:List Value}{G:Nat->Prop}{T:TypeId}{i:Nat}{n:Nat}{v:Value}{w':World}{P:Program}{c:UInt8}{S:Nat->Prop}
abbrev aBS:TypeId:=93
def AtC(t:aH)(a:Int)(cs:List Value):Prop:=∃k va vk,cs=[i64 k,str t,va,vk,i64 a]/\cY va=true/\cY vk=true
theorem JD{t:aH}{a:Int}{K:Q0}(h:AtC t a cs)(hK:∀b w' k va vk,cs=[i64 k,str t,va,vk,i64 a]->b=w.heap.size->w'.heap.size=w.heap.size+1->w'.heap[b]?=some (.cells [i64 k,str t,va,vk,i64 a].toArray aBS (0,0))->bA w w'->K (.pointer (some ⟨b,0,none⟩)) w'):cI aBS (.agg cs.toArray) w K:=by
 obtain⟨k,va,vk,rfl,h1,h2⟩:=h;exact dF λb w' hb hz hbb hx=>hK b w' k va vk rfl hb hz hbb hx
theorem xS{v:JV}{w0:World}{K:Q0}(h:bE G w0 v cs)(hK:∀b w' sv kv,cs=[i64 v.k,.bool v.b,str v.t,sv,kv]->b=w.heap.size->w'.heap.size=w.heap.size+1->w'.heap[b]?=some (.cells [i64 v.k,.bool v.b,str v.t,sv,kv].toArray VT (0,0))->bA w w'->K (.pointer (some ⟨b,0,none⟩)) w'):cI VT (.agg cs.toArray) w K:=by
 obtain⟨sv,kv,T1,T2,L,rfl,_⟩:=h.rep.out;exact dF λb w' hb hz hbb hx=>hK b w' sv kv rfl hb hz hbb hx
theorem bE.off{v:JV}{b:Nat}(h:bE G w v cs)(hb:w.heap.size<=b):bE (λq=>G q/\q≠b) w v cs:=h.mono λq hq hg=>⟨hg,by omega⟩
theorem vN{w0:World}{b:Nat}{ds:List Value}{v:JV}{K:Q0}(hb:w.heap[b]?=some (.cells ds.toArray VT (0,0)))(hd:ds.length=5)(hl:w0.heap.size<=b)(hx:bA w0 w)(h:bE (λq=>G q/\q≠b) w v cs)
  (hK:∀w',bA w0 w'->bE G w' v cs->K (.agg cs.toArray) w'):bF 5 (.pointer (some ⟨b,0,none⟩)) (.agg cs.toArray) w λw5=>aE true 5 (.pointer (some ⟨b,0,none⟩)) w5 λr6=>K r6 w5:=
 eS hb h.rep.len hd h.rep.all_one λw' hc=>by
  refine hK w' (hx.new hc hl) ?_
  exact(bE.chg hc (λq hq _ e=>hq.2 e) h).mono λq _ hq=>hq.1
theorem xX{v:JV}(h:bE G w v cs):∃sv kv T1 T2 L,cs=[i64 v.k,.bool v.b,str v.t,sv,kv]/\SlAt w T1 sv v.xs.length L/\bB G w v.xs L/\SlAt w T2 kv v.ks.length (v.ks.map str)/\Fits v.xs.length v.ks v.t/\(L≠[]->Mt G sv)/\(v.ks.map str≠[]->Mt G kv):=by
 cases v with
 |mk k b t xs ks=>simpa only[bE,JV.k,JV.b,JV.t,JV.xs,JV.ks]using h
structure fM(G:Nat->Prop)(w:World)(sv:Value)(xs:List JV):Prop where
 it:∃T L,SlAt w T sv xs.length L/\bB G w xs L/\(L≠[]->Mt G sv)
 few:xs.length<=9223372036854775807
theorem fM.items{sv:Value}{xs:List JV}(h:fM G w sv xs):cV w sv xs:=⟨let⟨T,L,h1,h2,_⟩:=h.it;⟨T,L,h1,h2.rep⟩,h.few⟩
theorem fM.chg{sv:Value}{xs:List JV}(h:fM G w sv xs)(hc:aS S w w')(hS:∀k,G k->k<w.heap.size->¬S k):fM G w' sv xs:=
 ⟨let⟨T,L,h1,h2,h3⟩:=h.it;⟨T,L,qR h1 h3 hc hS,bB.chg hc hS h2,h3⟩,h.few⟩
theorem fM.ext{sv:Value}{xs:List JV}(h:fM G w sv xs)(hx:bA w w'):fM G w' sv xs:=h.chg hx λ_ _ _ e=>e
theorem fM.get{sv:Value}{xs:List JV}{k:IntKind}{x:JV}{K:Value->Prop}(h:fM G w sv xs)(hi:xs[i]?=some x)(hK:∀cs,bE G w x cs->K (.agg cs.toArray)):bU none 5 sv (.int k i) λp=>aE true 5 p w K:=by
 obtain⟨T,L,h1,h2,_⟩:=h.it;obtain⟨cs,hc,hg⟩:=h2.get5 hi;have hlen:=h2.rep.len;refine mR (size:=5) h1 hlen (by omega) (List.getElem?_eq_some_iff.1 hi).1 λb o c fr hb hcc=>?_;exact rE hb hc.rep.len (λj hj=>(hcc j hj).trans (hg j hj)) (hK cs hc)
theorem bE.its{v:JV}{a b c sv kv:Value}(h:bE G w v [a,b,c,sv,kv]):fM G w sv v.xs:=by
 cases v with
 |mk k b' t xs ks=>
  simp only[bE]at h;obtain⟨sv',kv',T1,T2,L,he,h1,h2,h3,h4,h5,h6⟩:=h;simp only[List.cons.injEq,and_true]at he;obtain⟨_,_,_,rfl,rfl⟩:=he;exact⟨⟨T1,L,h1,h2,h5⟩,h4.1⟩
section
variable [HX]
def JG(w0:World)(code at_:Int):Prop:=
 ∀(d:Nat) (w':World),bA w0 w'->w0.heap.size<=d->w'.heap[d]?=some (.cells [i64 code,str [],i64 at_].toArray 53 (0,0))->HX.X [{v:=.iface DT (.pointer (some ⟨d,0,none⟩)),recovered:=false}] w'
theorem gF{c a:Int}{w0:World}{K:Q0}(h:bA w0 w)(ht:JG w0 c a):aA P0 57 [i64 c,i64 a] w K:=by
 refine aAg ?_;unfold W57;simp only[bN,cG,bI,List.length_cons,List.length_nil,List.set_cons_zero,List.set_cons_succ];refine⟨by omega,by omega,?_⟩;refine dF (z:=[i64 c,str [],i64 a]) λd w' hd hz hb hx=>?_;exact ht d w' (h.trans hx) (by have:=h.size;omega) hb
def DX(w0:World)(r:vI JV)(G:Nat->Prop)(w:World)(K:Q0):Prop:=match r with
 |.ok v=>∀cs w',bA w w'->bE G w' v cs->K (.agg cs.toArray) w'
 |.err c a=>JG w0 c a
theorem DX.ok{w0:World}{r:vI JV}{K:Q0}{v:JV}(h:DX w0 r G w K)(hr:r=.ok v):∀cs w',bA w w'->bE G w' v cs->K (.agg cs.toArray) w':=by subst hr;exact h
theorem DX.err{w0:World}{r:vI JV}{K:Q0}{c a:Int}(h:DX w0 r G w K)(hr:r=.err c a):JG w0 c a:=by subst hr;exact h
theorem qL{v:JV}{K:Q0}(h:cM w v cs)(hK:∀w',bA w w'->w'.heap.size=w.heap.size+1->K (.bool (decide (v.k=1))) w'):aA P0 84 [.agg cs.toArray] w K:=by
 obtain⟨sv,kv,T1,T2,L,rfl,_⟩:=h.out;refine ZL ?_;unfold W84;refine dF λb w' hb hz hbb hx=>?_;refine cC (off:=0) hbb rfl ?_;rw[aM];exact hK w' hx hz
theorem Tt{v:JV}{k:Int}{p:Nat}{K:Q0}(hp:w.heap[p]?=some (.cells [i64 k].toArray 22 (0,0)))(h:cM w v cs)(hK:∀w',bA w w'->K (.bool (!dR k v)) w'):aA P0 156 [.agg cs.toArray,.pointer (some ⟨p,0,none⟩)] w K:=by
 have hr:=h;obtain⟨sv,kv,T1,T2,L,rfl,_⟩:=h.out;refine US ?_;unfold aCz;refine dF λb w1 hb hz hbb hx=>?_;refine cC (off:=0) hbb rfl ?_;rw[bY];refine⟨i64 k,by rw[aX,hx.at hp id];rfl,?_⟩;rw[dG,eH];refine cX.act (!decide (v.k=1)) (λw'=>bA w1 w') (λ_=>aS.refl _ _) ?_ ?_
 ·intro _ J hJ;refine aU hbb rfl ?_;refine qL (hr.ext hx) λw3 hx3 _=>?_;rw[cJ];exact hJ w3 hx3
 ·intro g w4 hx4;rw[List.getD_cons_zero,cW];have e:(decide (v.k≠k)&&!decide (v.k=1))=!dR k v:=by
   unfold dR;by_cases h1:v.k=k<;>by_cases h2:v.k=1<;>simp[h1,h2]
  rw[e];exact hK w4 (hx.trans hx4)
theorem Jl{k:Int}{sv:Value}{xs:List JV}{K:Q0}(h:cV w sv xs)(hK:∀w',bA w w'->K (.bool (xs.all (dR k))) w'):aA P0 122 [i64 k,sv] w K:=by
 refine Vr ?_;unfold aCT;have bx:cI 22 (i64 k) w (λt2 w1=>aA P0 124 [sv,(.func (.func 156) #[] #[t2])] w1 λt7 w2=>gU .not t7 λt8=>K t8 w2):=by
  refine oP rfl λp w1 hp hz hbp hx=>?_;refine wI (p:=λv=> !dR k v) (h.ext hx) ?_ λw2 hx2=>?_
  ·intro x hx' cs w3 K hx3 hr hK3;refine fQ (caps:=[.pointer (some ⟨p,0,none⟩)]) ?_;exact Tt (hx3.at hbp id) hr hK3
  ·rw[cJ];have e:(!(xs.any λv=> !dR k v))=xs.all (dR k):=by rw[<-List.not_all_eq_any_not];simp
   rw[e];exact hK w2 (hx.trans hx2)
 exact bx
end
end
section
open Go Go.Eng Go.Num Go.RowKit
variable{w:World}{K:Q0}{cs:List Value}{G:Nat->Prop}{T:TypeId}{i:Nat}{n:Nat}{v:Value}{w':World}{P:Program}{c:UInt8}{S:Nat->Prop}
def TX(l:List (aH×JV)):JV:=l.foldl (λv p=>rV v p.1 p.2) (.mk 6 false [] [] [])
theorem Py(l:List (aH×JV))(p:aH×JV):TX (l++[p])=rV (TX l) p.1 p.2:=by
 unfold TX;rw[List.foldl_append];rfl
structure FJ(l m:List (aH×JV)):Prop where
 eq:TX l=mA m
 rise:HW (m.map (·.1))
 len:m.length=l.length
 mem:∀p,p∈m↔p∈l
theorem FJ.keys{l m:List (aH×JV)}(h:FJ l m)(k:aH):k∈m.map (·.1)↔k∈l.map (·.1):=by
 simp only[List.mem_map];exact⟨λ⟨p,hp,e⟩=>⟨p,(h.mem p).1 hp,e⟩,λ⟨p,hp,e⟩=>⟨p,(h.mem p).2 hp,e⟩⟩
theorem FJ.nil:FJ [] []:=⟨rfl,List.Pairwise.nil,rfl,λ_=>Iff.rfl⟩
theorem FJ.snoc{l m:List (aH×JV)}{p:aH×JV}(h:FJ l m)(hk:p.1∉l.map (·.1)):FJ (l++[p]) (insP m p.1 p.2):=by
 have hm:p.1∉m.map (·.1):=λe=>hk ((h.keys p.1).1 e);refine⟨by rw[Py,h.eq,Qu hm],No h.rise hm,by rw[SZ,h.len,List.length_append];rfl,λq=>?_⟩;rw[Ki,h.mem,List.mem_append,List.mem_singleton];exact⟨λe=>e.symm,λe=>e.symm⟩
theorem Dn{l:List (aH×JV)}{k:aH}:tO (mA l) k=none↔k∉l.map (·.1):=by
 refine⟨λh=>OP (by rw[h];rfl),λh=>?_⟩;unfold tO;have:rH (mA l).ks k=none:=uW.2 h;rw[this];split<;>rfl
section
variable [HX]
theorem KX{ks:List aH}{xs:List JV}{kv xv:Value}{K:Q0}(hk:SlAt w T kv ks.length (ks.map str))(hx:cV w xv xs)(hn:xs.length<=90000)
  (hkl:∀s∈ks,s.length<=9223372036854775807)(hf:∀x∈xs,sC x=true)(hK:∀cs c w',bA w w'->bE (vJ w.heap.size) w' (zQ ks xs) cs->K (.tuple #[.agg cs.toArray,i64 c]) w'):
  aA P0 90 [kv,xv] w K:=by
 refine ZF ?_;unfold W90;refine aI λq w1 hq hz1 hbq hx1=>?_;have s1:=hx1.size;have ends:∀{v:JV} {cs:List Value} {c:Int} {w':World},zQ ks xs=v->w'.heap[q]?=w1.heap[q]?->bA w w'->bE (λk=>w.heap.size<=k/\k≠q) w' v cs->
   bF 5 (.pointer (some ⟨q,0,none⟩)) (.agg cs.toArray) w' λw4=>aE true 5 (.pointer (some ⟨q,0,none⟩)) w4 λr5=>K (.tuple #[r5,i64 c]) w4:=λ{v cs c w'} hc hqq hx hv=>by
  rw[hc]at hK;exact Gm (w0:=w) (K:=λr w=>K (.tuple #[r,i64 c]) w) (by rw[hqq];exact hbq) rfl (by omega) hx hv λw'' hx'' h''=>hK _ _ w'' hx'' h''
 rw[(dJ hk _),hx.len,dG,aB];refine⟨λhne=>?_,λheq=>?_⟩
 ·rw[bI];exact ends (v:=JV.null) (cs:=flat 0 false []) (by unfold zQ;rw[if_neg (λh=>hne (by rw[h.1]))]) rfl hx1 (fB (by simp))
 have heq:ks.length=xs.length:=by have:=Classical.not_not.1 heq;omega
 simp only[bN,bI,List.length_cons,List.length_nil,List.set_cons_zero];refine⟨by omega,?_⟩;refine aI λp w6 hp hz6 hbp hx6=>?_;refine aY (l:=[i64 6,.bool false,str [],.slice none 0 0,.slice none 0 0]) hbp rfl rfl rfl λw7 hz7 hbp7 hc7=>?_;have s6:=hx6.size;have hx07:bA w w7:=(hx1.trans hx6).new hc7 (by omega);have hbq7:=hc7.at (hx6.at hbq id) λe=>by have e:q=p:=e;omega
 have hplt:=dA hbp7;have hzl:(ks.zip xs).length=ks.length:=by rw[List.length_zip];omega
 have hzk:(ks.zip xs).map (·.1)=ks:=List.map_fst_zip (by omega);have hzx:(ks.zip xs).map (·.2)=xs:=List.map_snd_zip (by omega);rw[(dJ hk _)];refine bL.go (λst w'=>∃(i:Nat) (sv kv':Value) (L:List Value) (m:List (aH×JV)),st=[i64 (i:Nat)]/\i<=ks.length/\bA w w'/\w'.heap[q]?=w7.heap[q]?/\w'.heap[p]?=some (.cells [i64 6,.bool false,str [],sv,kv'].toArray VT (0,0))/\w7.heap.size<=w'.heap.size/\FF w' w7.heap.size (mA m) sv kv' L/\(ks.take i).Nodup/\FJ ((ks.zip xs).take i) m)
  (λst _=>match st with|[.int _ i]=>ks.length-i.toNat|_=>0)
  ⟨0,.slice none 0 0,.slice none 0 0,[],[],rfl,Nat.zero_le _,hx07,rfl,hbp7,Nat.le_refl _,⟨⟨rfl,.inl ⟨rfl,rfl⟩⟩,by simp[mA,JV.xs,bB],⟨rfl,.inl ⟨rfl,rfl⟩⟩,⟨by simp[mA,JV.xs],by simp[mA,JV.ks],by simp[mA,JV.t],λs hs=>by simp[mA,JV.ks]at hs⟩⟩,by simp,FJ.nil⟩ ?_
 rintro st g w9 ⟨i,sv,kv',L,m,rfl,hi,hx9,hq9,hb9,s9,hO9,hnd,hA⟩;simp only[List.getD_cons_zero];have hml:m.length=i:=by rw[hA.len,List.length_take];omega
 have hmf:∀p∈m,sC p.2=true:=λp hp=>by
  have h1:=List.mem_of_mem_take ((hA.mem p).1 hp);exact hf _ (by rw[<-hzx];exact List.mem_map.2 ⟨p,h1,rfl⟩)
 have hrep9:cM w9 (mA m) [i64 6,.bool false,str [],sv,kv']:=hO9.rep.rep;have hone:[i64 6,.bool false,str [],sv,kv'].all cY=true:=hrep9.all_one;have hkeys:∀k,k∈m.map (·.1)↔k∈ks.take i:=λk=>by rw[hA.keys,List.map_take,hzk]
 rw[cA,aB];refine⟨λhlt=>?_,λhge=>?_⟩
 ·have hlt:i<ks.length:=by omega
  obtain⟨y,hy⟩:∃y,(ks.zip xs)[i]?=some y:=⟨_,List.getElem?_eq_getElem (by omega)⟩;have hyk:ks[i]?=some y.1:=by rw[<-hzk,List.getElem?_map,hy];rfl
  have hyx:xs[i]?=some y.2:=by rw[<-hzx,List.getElem?_map,hy];rfl
  refine jE (hk.ext hx9) hyk ?_;refine aU hb9 rfl ?_;refine Wk hrep9 rfl (by simp[mA,JV.ks,JV.xs]) (Tu (by omega) hmf) hA.rise λcs1 w10 hx10 hr10=>?_;simp only[aK];refine⟨_,rfl,_,rfl,?_⟩;refine tX hr10.rep λa12 w12 sv1 kv1 hB12 hx12=>?_;have hx912:=hx10.trans hx12;by_cases hin:y.1∈ks.take i
  ·have hsome:(tO (mA m) y.1).isSome=true:=by
    cases hg:tO (mA m) y.1 with
    |some z=>rfl
    |none=>exact absurd ((hkeys y.1).2 hin) (Dn.1 hg)
   rw[hsome,bZ]
   (try rw[bI])
   refine ends (v:=JV.null) (cs:=flat 0 false []) ?_ ?_ (hx9.trans hx912) (fB (by simp))
   ·unfold zQ;rw[if_neg];rintro⟨_,hn⟩;have h1:(ks.take i++ks.drop i).Nodup:=by rw[List.take_append_drop];exact hn
    rw[List.nodup_append]at h1;have hd:y.1∈ks.drop i:=by
     rw[List.drop_eq_getElem_cons hlt];have:=(List.getElem?_eq_some_iff.1 hyk).2;rw[this];exact List.mem_cons_self
    exact h1.2.2 y.1 hin y.1 hd rfl
   ·rw[hx912.heap q (by omega) id,hq9];exact hbq7.trans hbq.symm
  have hno:y.1∉m.map (·.1):=λe=>hin ((hkeys y.1).1 e);have hnone:(tO (mA m) y.1).isSome=false:=by rw[Dn.2 hno];rfl
  rw[hnone,bJ];have hxd:bA w12 w12.drew:=aS.drew (aS.refl (λ_=>False) w12);have hx9d:=hx912.trans hxd;have hbd:=hx9d.at hb9 id;refine aU hbd rfl ?_;refine(hx.ext (hx9.trans hx9d)).at' rfl hyx λcs2 h2=>?_;refine Ft y.2 (hf _ (List.mem_of_getElem? hyx)) h2 λcs3 w16 hx16 h3=>?_;have hx916:=hx9d.trans hx16;refine⟨aU (hx16.at hbd id) rfl rfl,?_⟩;have hO16:=hO9.ext hx916;have s16:=hx16.size;have s9d:=hx9d.size;have hlt9:∀k,sv.ownBlock=some k\/kv'.ownBlock=some k->w7.heap.size<=k/\k<w9.heap.size:=λk hk=>by
   rcases hk with hk|hk
   ·exact⟨(fP hO9.items hk).1,(fP hO9.items hk).2.1⟩
   ·exact⟨(fP hO9.keys hk).1,(fP hO9.keys hk).2.1⟩
  refine aBg hO16 (h3.mono λk _ hk=>?_) hA.rise hno (by omega) (hkl y.1 (List.mem_of_getElem? hyk)) (by omega) λsv2 kv2 L2 w17 hc17 hO17=>?_
  ·have hk:w12.drew.heap.size<=k:=hk;exact⟨by omega,λe=>by have:=(hlt9 k (.inl e)).2;omega,λe=>by have:=(hlt9 k (.inr e)).2;omega⟩
  have hb17:=hc17.at (hx16.at hbd id) λe=>by have:=(hlt9 p e).1;omega
  refine aY hb17 rfl rfl hO17.rep.rep.all_one λw18 hz18 hb18 hc18=>?_;rw[aW,wR (by omega)];have s17:=hc17.size;have et:(ks.zip xs).take (i+1)=(ks.zip xs).take i++[y]:=by rw[List.take_add_one,hy];rfl
  have ek:ks.take (i+1)=ks.take i++[y.1]:=by rw[List.take_add_one,hyk];rfl
  refine⟨⟨i+1,sv2,kv2,L2,insP m y.1 y.2,rfl,hlt,?_,?_,hb18,by omega,?_,?_,?_⟩,by simp only[Int.toNat_natCast];omega⟩
  ·exact(hx9.trans hx916).then hc17 (λk hk e=>by have:=(hlt9 k e).1;have:=hx07.size;omega)|>.new hc18 (by omega)
  ·rw[hc18.heap q (by omega) (λe=>by have e:q=p:=e;omega),hc17.heap q (by omega) (λe=>by have:=(hlt9 q e).1;omega),hx916.heap q (by omega) id,hq9]
  ·exact⟨gE hO17.items hc18 λk hk e=>by have:=(fP hO17.items hk).1;have e:k=p:=e;omega,bB.chg hc18 (λk hk _ e=>by have:=hk.1;have e:k=p:=e;omega) hO17.reps,gE hO17.keys hc18 λk hk e=>by have:=(fP hO17.keys hk).1;have e:k=p:=e;omega,hO17.fits⟩
  ·rw[ek,List.nodup_append];exact⟨hnd,by simp,λa ha b hb=>by rw[List.mem_singleton]at hb;subst hb;rintro rfl;exact hin ha⟩
  ·rw[et];exact hA.snoc (by rw[List.map_take,hzk];exact hin)
 ·obtain rfl:i=ks.length:=by omega
  rw[List.take_of_length_le (by omega)]at hnd hA;refine aU hb9 rfl ?_;refine ends (v:=zQ ks xs) (cs:=[i64 6,.bool false,str [],sv,kv']) rfl ?_ hx9 ?_
  ·rw[hq9];exact hbq7.trans hbq.symm
  have e:zQ ks xs=mA m:=by
   unfold zQ;rw[if_pos ⟨heq,hnd⟩];exact hA.eq
  rw[e];have s7:=hx07.size;exact hO9.rep.mono λk _ hk=>by have hk:w7.heap.size<=k:=hk;exact⟨by omega,by omega⟩
end
end
section
open Go Go.Eng Go.Num Go.RowKit Go.Syn
variable{w:World}{K:Q0}{cs:List Value}{G:Nat->Prop}{T:TypeId}{i:Nat}{n:Nat}{v:Value}{w':World}{P:Program}{c:UInt8}{S:Nat->Prop}
structure mL(G:Nat->Prop)(w:World)(B:Nat)(sv:Value)(xs:List JV):Prop where
 it:∃L,Own w B VT 5 sv xs.length L/\bB (λq=>G q/\sv.ownBlock≠some q) w xs L
theorem mL.nil(G:Nat->Prop)(w:World)(B:Nat):mL G w B (.slice none 0 0) []:=⟨[],⟨rfl,.inl ⟨rfl,rfl⟩⟩,by simp[bB]⟩
theorem mL.chg{B:Nat}{sv:Value}{xs:List JV}(h:mL G w B sv xs)(hc:aS S w w')(hS:∀k,G k->k<w.heap.size->¬S k)(hB:∀k,B<=k->k<w.heap.size->¬S k):mL G w' B sv xs:=by
 obtain⟨L,h1,h2⟩:=h.it;exact⟨L,gE h1 hc λk hk=>hB k (fP h1 hk).1 (fP h1 hk).2.1,bB.chg hc (λk hk hlt=>hS k hk.1 hlt) h2⟩
theorem mL.ext{B:Nat}{sv:Value}{xs:List JV}(h:mL G w B sv xs)(hx:bA w w'):mL G w' B sv xs:=h.chg hx (λ_ _ _ e=>e) λ_ _ _ e=>e
theorem mL.one{B:Nat}{sv:Value}{xs:List JV}(h:mL G w B sv xs):cY sv=true:=by obtain⟨L,h1,_⟩:=h.it;exact rY h1
theorem mL.inb{B k:Nat}{sv:Value}{xs:List JV}(h:mL G w B sv xs)(hk:sv.ownBlock=some k):B<=k/\k<w.heap.size:=by obtain⟨L,h1,_⟩:=h.it;exact⟨(fP h1 hk).1,(fP h1 hk).2.1⟩
theorem mL.items{B:Nat}{sv:Value}{xs:List JV}(h:mL G w B sv xs)(hG:∀k,B<=k->G k)(hl:xs.length<=9223372036854775807):fM G w sv xs:=by
 obtain⟨L,h1,h2⟩:=h.it;exact⟨⟨VT,L,h1.sl,h2.mono λk _ hk=>hk.1,λ_ k hk=>hG k (fP h1 hk).1⟩,hl⟩
theorem mL.app{B:Nat}{sv t:Value}{xs:List JV}{x:JV}{K:Q0}(h:mL G w B sv xs)(ht:SlAt w T t 1 cs)(hx:bE (λq=>G q/\sv.ownBlock≠some q) w x cs)(hB:B<=w.heap.size)(hl:xs.length<=1000000)
  (hK:∀sv' w',mL G w' B sv' (xs++[x])->aS (λk=>sv.ownBlock=some k) w w'->K sv' w'):bP P0 (Builtin.append_ #[23,23] 23 #[sv,t]) w K:=by
 obtain⟨L,h1,h2⟩:=h.it;refine fN Fo h1 ht (m:=1) (by rw[hx.rep.len]) hx.rep.one (by omega) (by omega) hB λv' w' h' hc hb=>?_;refine hK v' w' ⟨L++cs,by simpa using h',?_⟩ hc;have h3:bB (λq=>(G q/\sv.ownBlock≠some q)/\q<w.heap.size) w (xs++[x]) (L++cs):=(h2.snoc hx).mono λk hlt hk=>⟨hk,hlt⟩;refine(bB.chg hc (λk hk _ e=>hk.1.2 e) h3).mono λk _ hk=>⟨hk.1.1,λe=>?_⟩;rcases hb k e with e|e
 ·exact hk.1.2 e
 ·have:=hk.2;omega
theorem fM.mono{G':Nat->Prop}{sv:Value}{xs:List JV}(hG:∀k,k<w.heap.size->G k->G' k)(h:fM G w sv xs):fM G' w sv xs:=
 ⟨let⟨T,L,h1,h2,h3⟩:=h.it;⟨T,L,h1,h2.mono hG,λhne k hk=>hG k (Ej h1 hne k hk) (h3 hne k hk)⟩,h.few⟩
theorem fM.list{sv:Value}{xs:List JV}(h:fM G w sv xs):bE G w (lV xs) [i64 5,.bool false,str [],sv,.slice none 0 0]:=
 let⟨_,_,h1,h2,h3⟩:=h.it
 bE.mk (v:=lV xs) h1 h2 (SlAt.nil w ST) ⟨h.few,by simp[lV,JV.ks],by simp[lV,JV.t],λs hs=>by simp[lV,JV.ks]at hs⟩ h3 λe=>absurd rfl e
theorem Tz:∀(v:JV) {m:Nat},mK v m=true->mK v (m+1)=true:=by
 intro v;induction v using JV.ind' with
 |h v ih=>
  intro m h;cases m with
  |zero=>rw[oN]at h;cases h
  |succ m=>
   rw[kI,kN,List.all_eq_true]at h⊢;exactλx hx=>ih x hx (h x hx)
theorem BF{v x:JV}(h:cU v=true)(hx:x∈v.xs):cU x=true:=by
 have hp:=((oJ h).item hx).plain;simp only[cU,Bool.and_eq_true,decide_eq_true_eq]at h⊢;have hd:=h.1.2;have hs:=h.1.1;rw[show(24:Nat)=23+1 from rfl,kI,kN]at hd;rw[qS]at hs;exact⟨⟨(rT (m:=23) (by omega) v.xs 1 hd (by omega) hs).2 x hx,Tz x (List.all_eq_true.1 hd x hx)⟩,hp⟩
theorem jB{K:Q0}(hl:cs.length=5)(h1:cs.all cY=true)(hK:∀b w',b=w.heap.size->w'.heap.size=w.heap.size+1->w'.heap[b]?=some (.cells cs.toArray VT (0,0))->bA w w'->K (.pointer (some ⟨b,0,none⟩)) w'):
  aN VT zK w λt w1=>bF 5 t (.agg cs.toArray) w1 λw2=>K t w2:=by
 refine aI λb w1 hb hz hbb hx=>?_;refine aY hbb hl rfl h1 λw2 hz2 hb2 hc2=>?_;exact hK b w2 hb (by omega) hb2 (hx.new hc2 (by omega))
section
variable [HX]
theorem JE{t:aH}{a:Int}{v:JV}{ec:List Value}{w0:World}{K:Q0}(he:AtC t a ec)(h:bE G w v cs)(hg:cU v=true)(h0:bA w0 w)(hG:∀q,w.heap.size<=q->G q)(hK:DX w0 (oQ t a v) G w K):
  aA P0 91 [.agg ec.toArray,.agg cs.toArray] w K:=by
 have hgv:=oJ hg;have hlens:=hgv.lens;refine ZE ?_;unfold W91;refine JD he λb2 w1 k va vk hec hb2 hz1 hbb2 hx1=>?_;have h1:bE G w1 v cs:=h.ext' hx1;refine xS h1 λb3 w2 sv kv hcs hb3 hz2 hbb3 hx2=>?_;subst hcs;refine aI λb4 w3 hb4 hz3 hbb4 hx3=>?_;have hx03:=hx1.trans (hx2.trans hx3);refine aU (hx3.at hbb3 id) rfl ?_;refine qL (h.ext' hx03).rep λw4 hx4 hz4=>?_;have hx34:=hx3.trans hx4;have hx04:=hx03.trans hx4;have hb34:=hx34.at hbb3 id;have hb24:=(hx2.trans hx34).at hbb2 id;have hb44:=hx4.at hbb4 id;rw[aB];refine⟨λk1=>?_,λk1=>?_⟩
 ·have hr:oQ t a v=.ok v:=by unfold oQ;rw[if_pos k1]
  refine aU hb34 rfl ?_;exact vN hb44 rfl (by omega) hx04 ((h.off (by omega)).ext' hx04) λw' hx' h'=>hK.ok hr _ w' hx' h'
 refine aP.cut (λst w'=>w'=w4/\v.k=6) ?_ ?_
 ·refine cC (off:=0) hb34 rfl ?_;rw[dG,aB];refine⟨λk6=>?_,λk6=>⟨rfl,by omega⟩⟩;have hr:oQ t a v=.err 81 a:=by unfold oQ;rw[if_neg k1,if_pos k6]
  refine cC (off:=4) hb24 rfl ?_;exact gF (h0.trans hx04) (hK.err hr)
 rintro st g w9 ⟨rfl,k6⟩;refine aU hb34 rfl ?_;refine cC (off:=1) hb24 rfl ?_;refine Wk (h.ext' hx04).rep k6 (hlens.2.2.1 k6) hgv.few (zU hlens.2.2.2.1) λcs1 w10 hx10 h10=>?_;simp only[aK];refine⟨_,rfl,_,rfl,?_⟩;refine jB h10.rep.len h10.rep.all_one λb11 w12 hb11 hz11 hbb11 hx11=>?_;have hx12:=hx10.trans hx11;have hx012:=hx04.trans hx12;refine aP.cut (λst w'=>w'=w12/\∃x,tO v t=some x) ?_ ?_
 ·rw[cJ,aQ];cases hgt:tO v t with
  |some x=>exact⟨λe=>by simp at e,λ_=>⟨rfl,x,rfl⟩⟩
  |none=>
   refine⟨λ_=>?_,λe=>by simp at e⟩;have hr:oQ t a v=.err 82 a:=by unfold oQ;rw[if_neg k1,if_neg (λe=>e k6),hgt]
   refine cC (off:=4) (hx12.at hb24 id) rfl ?_;exact gF (h0.trans hx012) (hK.err hr)
 rintro st g2 w15 ⟨rfl,x,hx⟩;have hr:oQ t a v=.ok x:=by unfold oQ;rw[if_neg k1,if_neg (λe=>e k6),hx]
 rw[hx]at h10;refine aU hbb11 h10.rep.len ?_;have s4:=hx04.size;have hlt:=dA hb44;refine vN (hx12.at hb44 id) rfl (by omega) hx012 ?_ λw' hx' h'=>hK.ok hr _ w' hx' h';exact(h10.ext' hx11).mono λq _ hq=>by have hq:w9.heap.size<=q:=hq;exact⟨hG q (by omega),by omega⟩
theorem Qm{t:aH}{a:Int}{v:JV}{ec:List Value}{w0:World}{K:Q0}(he:AtC t a ec)(h:bE G w v cs)(hg:cU v=true)(h0:bA w0 w)(hG:∀q,w.heap.size<=q->G q)(hK:DX w0 (qA t a v) G w K):
  aA P0 92 [.agg ec.toArray,.agg cs.toArray] w K:=by
 have hgv:=oJ hg;have hlens:=hgv.lens;refine ZD ?_;unfold W92;refine JD he λb2 w1 k va vk hec hb2 hz1 hbb2 hx1=>?_;have he':AtC t a [i64 k,str t,va,vk,i64 a]:=hec▸he;refine xS (h.ext' hx1) λb3 w2 sv kv hcs hb3 hz2 hbb3 hx2=>?_;subst hcs;refine aI λb4 w3 hb4 hz3 hbb4 hx3=>?_;have hx03:=hx1.trans (hx2.trans hx3);refine aU (hx3.at hbb3 id) rfl ?_;refine qL (h.ext' hx03).rep λw4 hx4 hz4=>?_;have hx34:=hx3.trans hx4;have hx04:=hx03.trans hx4;have hb34:=hx34.at hbb3 id;have hb24:=(hx2.trans hx34).at hbb2 id;have hb44:=hx4.at hbb4 id;rw[aB];refine⟨λk1=>?_,λk1=>?_⟩
 ·have hr:qA t a v=.ok v:=by unfold qA;rw[if_pos k1]
  refine aU hb34 rfl ?_;exact vN hb44 rfl (by omega) hx04 ((h.off (by omega)).ext' hx04) λw' hx' h'=>hK.ok hr _ w' hx' h'
 refine aP.cut (λst w'=>w'=w4/\v.k=5) ?_ ?_
 ·refine cC (off:=0) hb34 rfl ?_;rw[dG,aB];refine⟨λk6=>?_,λk6=>⟨rfl,by omega⟩⟩;have hr:qA t a v=.err 81 a:=by unfold qA;rw[if_neg k1,if_pos k6]
  refine cC (off:=4) hb24 rfl ?_;exact gF (h0.trans hx04) (hK.err hr)
 rintro st g w9 ⟨rfl,k5⟩;have hr0:qA t a v=(qF t a v.xs).bind λxs=>.ok (lV xs):=by unfold qA;rw[if_neg k1,if_neg (λe=>e k5)]
 simp only[bN,bI,List.length_cons,List.length_nil,List.set_cons_zero];refine⟨by omega,?_⟩;refine jB (cs:=[i64 5,.bool false,str [],.slice none 0 0,.slice none 0 0]) rfl rfl λb5 w12 hb5 hz12 hbb5 hx12=>?_;have hx012:=hx04.trans hx12;refine cC (off:=3) (hx12.at hb34 id) rfl ?_;have hI:fM (λq=>G q/\q<w.heap.size) w sv v.xs:=h.its.mono λq hlt hq=>⟨hq,hlt⟩;rw[(hI.items).len];have s04:=hx04.size;have s12:=hx12.size;have hl4:=dA hb44;have hl5:=dA hbb5;refine bL.go (λst w'=>∃(i:Nat) (rv:Value) (rs:List JV),st=[i64 (i:Nat)]/\i<=v.xs.length/\rs.length=i/\bA w w'/\w12.heap.size<=w'.heap.size/\w'.heap[b2]?=w12.heap[b2]?/\w'.heap[b4]?=w12.heap[b4]?/\w'.heap[b5]?=some (.cells [i64 5,.bool false,str [],rv,.slice none 0 0].toArray VT (0,0))/\
   mL (λq=>G q/\q≠b4/\q≠b5) w' (b5+1) rv rs/\qF t a v.xs=(qF t a (v.xs.drop i)).bind λys=>.ok (rs++ys))
  (λst _=>match st with|[.int _ i]=>v.xs.length-i.toNat|_=>0)
  ⟨0,.slice none 0 0,[],rfl,Nat.zero_le _,rfl,hx012,Nat.le_refl _,rfl,rfl,hbb5,mL.nil _ _ _,by rw[List.drop_zero];cases qF t a v.xs<;>rfl⟩ ?_
 rintro st g2 w14 ⟨i,rv,rs,rfl,hi,hrl,hx14,s14,hq2,hq4,hq5,hR,hat⟩;simp only[List.getD_cons_zero];rw[cA,aB];have hb24':w14.heap[b2]?=some (.cells [i64 k,str t,va,vk,i64 a].toArray 93 (0,0)):=by rw[hq2];exact hx12.at hb24 id
 refine⟨λhlt=>?_,λhge=>?_⟩
 ·have hlt:i<v.xs.length:=by omega
  obtain⟨x,hxi⟩:∃x,v.xs[i]?=some x:=⟨_,List.getElem?_eq_getElem hlt⟩;have hgx:cU x=true:=BF hg (List.mem_of_getElem? hxi);have hdr:v.xs.drop i=x::v.xs.drop (i+1):=by rw[List.drop_eq_getElem_cons hlt];congr 1;exact(List.getElem?_eq_some_iff.1 hxi).2
  refine(hI.ext hx14).get hxi λds hds=>?_;refine jB hds.rep.len hds.rep.all_one λb7 w16 hb7 hz16 hbb7 hx16=>?_;have hxd:bA w16 w16.drew:=aS.drew (aS.refl (λ_=>False) w16);have hx16d:=hx16.trans hxd;have hx016:=hx14.trans hx16d;refine cC (off:=3) (hx16d.at hq5 id) rfl ?_;refine aU (hx16d.at hb24' id) rfl ?_;refine aU (hxd.at hbb7 id) hds.rep.len ?_;have hR16:=hR.ext hx16d;have s16:w16.drew.heap.size=w14.heap.size+1:=by show w16.heap.size=_;omega
  have hds16:=hds.ext' hx16d;refine JE (G:=λq=>(G q/\q≠b4/\q≠b5)/\rv.ownBlock≠some q) (w0:=w0) he' (hds16.mono λq hlt hq=>?_) hgx (h0.trans hx016) (λq hq=>?_) ?_
  ·exact⟨⟨hq.1,by have:=hq.2;omega,by have:=hq.2;omega⟩,λe=>by have:=(hR.inb e).1;have:=hq.2;omega⟩
  ·exact⟨⟨hG q (by omega),by omega,by omega⟩,λe=>by have:=(hR.inb e).2;omega⟩
  cases ha:oQ t a x with
  |err c p=>
   have hr:qA t a v=.err c p:=by
    rw[hr0,hat,hdr];simp only[qF,ha,vI.bind]
   exact hK.err hr
  |ok y=>
   intro es w17 hx17 h17;have hx1417:=hx16d.trans hx17;have hq517:=hx1417.at hq5 id;refine⟨cC (off:=3) hq517 rfl rfl,?_⟩;refine zP h17.rep.len λt30 w18 ht30 hx18=>?_;have hq518:=hx18.at hq517 id;refine⟨cC (off:=3) hq518 rfl rfl,?_⟩;have hx1418:=hx1417.trans hx18;have s18:=hx1418.size;refine(hR.ext hx1418).app ht30 (h17.ext' hx18) (by omega) (by omega) λrv' w19 hR19 hc19=>?_;have hne:∀q,rv.ownBlock=some q->b5+1<=q/\q<w14.heap.size:=λq e=>hR.inb e;have s19:=hc19.size;rw[aO];refine eY (off:=3) (hc19.at hq518 λe=>by have:=(hne b5 e).1;omega) hR19.one (by simp) λw20 hz20 hb20 hc20=>?_;rw[aW,wR (by omega)];refine⟨⟨i+1,rv',rs++[y],rfl,hlt,by simp[hrl],?_,by omega,?_,?_,?_,?_,?_⟩,by simp only[Int.toNat_natCast];omega⟩
   ·exact((hx14.trans hx1418).then hc19 λq hq e=>by have:=(hne q e).1;omega).new hc20 (show w.heap.size<=b5 by omega)
   ·rw[hc20.heap b2 (by omega) (λe=>by have e:b2=b5:=e;omega),hc19.heap b2 (by omega) (λe=>by have:=(hne b2 e).1;omega),hx1418.heap b2 (by omega) id,hq2]
   ·rw[hc20.heap b4 (by omega) (λe=>by have e:b4=b5:=e;omega),hc19.heap b4 (by omega) (λe=>by have:=(hne b4 e).1;omega),hx1418.heap b4 (by omega) id,hq4]
   ·rw[hb20];simp
   ·exact hR19.chg hc20 (λq hq _ e=>hq.2.2 e) λq hq _ e=>by have e:q=b5:=e;omega
   ·rw[hat,hdr];simp only[qF,ha,vI.bind];cases qF t a (v.xs.drop (i+1))<;>simp
 ·obtain rfl:i=v.xs.length:=by omega
  have hr:qA t a v=.ok (lV rs):=by
   rw[hr0,hat,List.drop_length];simp[qF,vI.bind]
  refine aU hq5 rfl ?_;have hnew:∀q,b5+1<=q->G q/\q≠b4/\q≠b5:=λq hq=>⟨hG q (by omega),by omega,by omega⟩;have hRI:fM (λq=>G q/\q≠b4) w14 rv rs:=(hR.items hnew (by omega)).mono λq _ hq=>⟨hq.1,hq.2.1⟩;refine vN (v:=lV rs) (cs:=[i64 5,.bool false,str [],rv,.slice none 0 0]) (by rw[hq4];exact hx12.at hb44 id) rfl (by omega) hx14 hRI.list λw' hx' h'=>hK.ok hr _ w' hx' h'
end
section
variable [HX]
theorem kW{w0:World}{b:Nat}{ds:List Value}{k:Int}{s:Bool}{t:aH}{K:Q0}(hb:w.heap[b]?=some (.cells ds.toArray VT (0,0)))(hd:ds.length=5)(hl:w0.heap.size<=b)(hx:bA w0 w)(ht:t.length<=9223372036854775807)
  (hK:∀w',bA w0 w'->bE G w' (.mk k s t [] []) (flat k s t)->K (.agg (flat k s t).toArray) w'):bF 5 (.pointer (some ⟨b,0,none⟩)) (.agg (flat k s t).toArray) w λw5=>aE true 5 (.pointer (some ⟨b,0,none⟩)) w5 λr6=>K r6 w5:=
 vN (G:=G) (v:=.mk k s t [] []) hb hd hl hx (fB ht) hK
theorem Zp{k:Int}{t:aH}{a:Int}{x y:JV}{va vk:Value}{ds:List Value}{w0:World}{K:Q0}(o1:cY va=true)(o2:cY vk=true)(hx:bE G w x cs)(hy:bE G w y ds)(h0:bA w0 w)(hK:DX w0 (DI (decide (k=27)) a x y) G w K):
  aA P0 99 [.agg [i64 k,str t,va,vk,i64 a].toArray,.agg cs.toArray,.agg ds.toArray] w K:=by
 refine Zw ?_;unfold W99;refine dF (z:=[i64 k,str t,va,vk,i64 a]) λb3 w1 hb3 hz1 hbb3 hx1=>?_;refine xS (hx.ext' hx1) λb4 w2 sv kv hcs hb4 hz2 hbb4 hx2=>?_;subst hcs;refine xS (hy.ext' (hx1.trans hx2)) λb5 w3 sv' kv' hds hb5 hz3 hbb5 hx3=>?_;subst hds;refine aI λb6 w4 hb6 hz4 hbb6 hx4=>?_;have hx04:=hx1.trans (hx2.trans (hx3.trans hx4));have hb34:=(hx2.trans (hx3.trans hx4)).at hbb3 id;have hb44:=(hx3.trans hx4).at hbb4 id;have hb54:=hx4.at hbb5 id;have hx':=hx.ext' hx04;have hy':=hy.ext' hx04;clear hx hy;refine aP.cut (λst w'=>bA w4 w'/\dR 2 x=true/\dR 2 y=true) ?_ ?_
 ·refine aU hb44 rfl ?_;refine aU hb54 rfl ?_;refine EO hx'.rep hy'.rep λtt w6 hI6 hx6 _=>?_;refine Jl hI6 λw7 hx7=>?_;have e:[x,y].all (dR 2)=(dR 2 x&&dR 2 y):=by simp
  rw[e,cJ,aQ];refine⟨λh=>?_,λh=>?_⟩
  ·have hr:DI (decide (k=27)) a x y=.err 81 a:=by unfold DI;rw[if_neg (λe=>by rw[e]at h;cases h)]
   refine cC (off:=4) ((hx6.trans hx7).at hb34 id) rfl ?_;exact gF (h0.trans (hx04.trans (hx6.trans hx7))) (hK.err hr)
  ·have h:(dR 2 x&&dR 2 y)=true:=by cases hq:(dR 2 x&&dR 2 y)<;>simp[hq]at h⊢
   rw[Bool.and_eq_true]at h;exact⟨hx6.trans hx7,h.1,h.2⟩
 rintro st g w9 ⟨hx9,f1,f2⟩;have hm:DI (decide (k=27)) a x y=if(x.k≠1/\x.b=decide (k=27))\/(y.k≠1/\y.b=decide (k=27))then .ok (bV (decide (k=27)))else if x.k=1\/y.k=1 then .ok uV else .ok (bV (!decide (k=27))):=by
  unfold DI;rw[if_pos (by rw[f1,f2];rfl)]
 rw[hm]at hK;refine cC (off:=0) (hx9.at hb34 id) rfl ?_;rw[aM];generalize hor:decide (k=27)=or at*
 refine aU (hx9.at hb44 id) rfl ?_;refine aU (hx9.at hb54 id) rfl ?_;refine EO (hx'.ext' hx9).rep (hy'.ext' hx9).rep λtt w10 hI10 hx10 _=>?_;rw[hI10.len];have hx410:=hx9.trans hx10;have hx010:=hx04.trans hx410;refine bL.go (λst w'=>∃i:Nat,st=[i64 (i:Nat)]/\i<=2/\bA w10 w'/\∀j z,j<i->[x,y][j]?=some z->¬(z.k≠1/\z.b=or)) (λst _=>match st with|[.int _ i]=>2-i.toNat|_=>0) ⟨0,rfl,by omega,aS.refl _ _,λj z hj=>by omega⟩ ?_;rintro st g2 w12 ⟨i,rfl,hi,hx12,hno⟩;simp only[List.getD_cons_zero];have hx412:=hx410.trans hx12;have hx012:=hx04.trans hx412;have hl6:=dA hbb6;have ends:∀{z:JV} {k':Int} {s:Bool} {w':World},z=.mk k' s [] [] []->bA w12 w'->(if(x.k≠1/\x.b=or)\/(y.k≠1/\y.b=or)then vI.ok (bV or)else if x.k=1\/y.k=1 then .ok uV else .ok (bV (!or)))=.ok z->
   bF 5 (.pointer (some ⟨b6,0,none⟩)) (.agg (flat k' s []).toArray) w' λw5=>aE true 5 (.pointer (some ⟨b6,0,none⟩)) w5 λr6=>K r6 w5:=λ{z k' s w'} hz hxx hr=>by
  subst hz;have hx0':=hx012.trans hxx;refine kW (G:=G) ((hx412.trans hxx).at hbb6 id) rfl (by omega) hx0' (by simp) λw'' hx'' h''=>hK.ok hr _ w'' hx'' h''
 rw[show([x,y].length:Nat)=2 from rfl,cA,aB];refine⟨λhlt=>?_,λhge=>?_⟩
 ·have hlt:i<2:=by omega
  obtain⟨z,hz⟩:∃z,[x,y][i]?=some z:=⟨_,List.getElem?_eq_getElem hlt⟩;refine(hI10.ext hx12).at hz λes hes=>?_;refine jB hes.len hes.all_one λb9 w14 hb9 hz14 hbb9 hx14=>?_;obtain⟨sv9,kv9,_,_,_,rfl,_⟩:=hes.out;refine aU hbb9 rfl ?_;refine qL (hes.ext hx14) λw15 hx15 _=>?_;rw[cJ];have hb915:=hx15.at hbb9 id;refine cX.look (decide (z.b=or)) (λ_ J hJ=>?_) λg3=>?_
  ·refine cC (off:=1) hb915 rfl ?_;have:∀K:Value->Prop,K (.bool (decide (z.b=or)))->tR .bool false (.bool z.b) (.bool or) K:=λK h=>by
    cases hb:z.b<;>cases or<;>simp[hb]at h⊢<;>exact h
   exact this _ hJ
  simp only[List.getD_cons_zero,eH];rw[cW,aQ];refine⟨λhyes=>?_,λhn=>?_⟩
  ·simp only[Bool.and_eq_true,Bool.not_eq_true',decide_eq_false_iff_not,decide_eq_true_eq]at hyes;refine lD λw18 hx18=>?_;refine ends (z:=bV or) rfl (hx14.trans (hx15.trans hx18)) ?_;rw[if_pos]
   match i,hlt,hz with
   |0,_,hz=>cases hz;exact .inl hyes
   |1,_,hz=>cases hz;exact .inr hyes
  ·rw[aW,wR (by omega)];refine⟨⟨i+1,rfl,hlt,hx12.trans (hx14.trans hx15),λj u hj hu=>?_⟩,by simp only[Int.toNat_natCast];omega⟩;by_cases hji:j<i
   ·exact hno j u hji hu
   ·obtain rfl:j=i:=by omega
    rw[hz]at hu;cases hu;rintro⟨h1,h2⟩;simp[h1,h2]at hn
 ·obtain rfl:i=2:=by omega
  have n1:=hno 0 x (by omega) rfl;have n2:=hno 1 y (by omega) rfl;refine aU (hx412.at hb44 id) rfl ?_;refine qL (hx'.ext' hx412).rep λw21 hx21 _=>?_;have hx421:=hx412.trans hx21;simp only[iB];refine cX.act (decide (y.k=1)) (λw'=>bA w21 w') (λ_=>aS.refl _ _) (λ_ J hJ=>?_) λg3 w24 hx24=>?_
  ·refine aU (hx421.at hb54 id) rfl ?_;exact qL (hy'.ext' hx421).rep λw23 hx23 _=>hJ w23 hx23
  simp only[List.getD_cons_zero];rw[dD,aQ];refine⟨λhyes=>?_,λhn=>?_⟩
  ·simp only[Bool.or_eq_true,decide_eq_true_eq]at hyes;refine nM λw25 hx25=>?_;refine ends (z:=uV) rfl (hx21.trans (hx24.trans hx25)) ?_;rw[if_neg (λe=>e.elim n1 n2),if_pos hyes]
  ·simp only[Bool.or_eq_false_iff,decide_eq_false_iff_not]at hn;rw[cJ];refine lD λw25 hx25=>?_;refine ends (z:=bV (!or)) rfl (hx21.trans (hx24.trans hx25)) ?_;rw[if_neg (λe=>e.elim n1 n2),if_neg (λe=>e.elim hn.1 hn.2)]
end
end
end Go.Proofs.YtghhmpppnmoeoaaGreatDoor
namespace Go.Num
section
open Go Go.Eng
variable{w:World}{K:Q0}{cs:List Value}{G:Nat->Prop}{T:TypeId}{i:Nat}{n:Nat}{v:Value}{w':World}{P:Program}{c:UInt8}{S:Nat->Prop}
theorem zC:∀(n u:Nat),u<n->(Lib.decDigits u).all isDig=true/\(Lib.decDigits u)≠[]/\((Lib.decDigits u).head?=some 48->u=0):=by
 intro n;induction n with
 |zero=>intro u h;omega
 |succ n ih=>
  intro u h;rw[Lib.decDigits];have hd:∀k,k<10->isDig (UInt8.ofNat (48+k))=true:=by
   intro k hk;have:∀k:Fin 10,isDig (UInt8.ofNat (48+k.val))=true:=by decide
   exact this ⟨k,hk⟩
  split
  ·rename_i h10;refine⟨by rw[List.all_cons,hd u h10];rfl,by simp,λe=>?_⟩;have:∀k:Fin 10,([UInt8.ofNat (48+k.val)].head?=some 48)->k.val=0:=by decide
   exact this ⟨u,h10⟩ e
  ·have hi:=ih (u/10) (by omega);refine⟨by rw[List.all_append,hi.1,List.all_cons,hd (u%10) (by omega)];rfl,by simp,λe=>?_⟩;have e:(Lib.decDigits (u/10)).head?=some 48:=by
    cases hq:Lib.decDigits (u/10)with
    |nil=>exact absurd hq hi.2.1
    |cons x y=>rw[hq]at e;simpa using e
   have:=hi.2.2 e;omega
theorem Fq:∀(n u:Nat),u<n->dec (Lib.decDigits u)=u:=by
 intro n;induction n with
 |zero=>intro u h;omega
 |succ n ih=>
  intro u h;have hv:∀k,k<10->dval (UInt8.ofNat (48+k))=k:=λk hk=>by
   have:∀k:Fin 10,dval (UInt8.ofNat (48+k.val))=k.val:=by decide
   exact this ⟨k,hk⟩
  rw[Lib.decDigits];split
  ·rename_i h10;show 0*10+dval (UInt8.ofNat (48+u))=u;rw[hv u h10];omega
  ·rw[sH,ih (u/10) (by omega)];simp only[List.length_singleton,dec,List.foldl_cons,List.foldl_nil,hv (u%10) (by omega)];omega
theorem tW:∀(k u:Nat),u<10^k->1<=k->(Lib.decDigits u).length<=k:=by
 intro k;induction k with
 |zero=>intro u _ h;omega
 |succ k ih=>
  intro u h _;rw[Lib.decDigits];split
  ·simp
  ·have:=ih (u/10) (by rw[Nat.pow_succ]at h;omega) (by
    rcases Nat.eq_zero_or_pos k with rfl|h0
    ·simp at h;omega
    ·exact h0)
   rw[List.length_append,List.length_singleton];omega
theorem aBI{s:aH}(h:s.all isDig=true)(h0:s.head?=some 48->s=[48])(hne:s≠[]):Lib.decDigits (dec s)=s:=by
 obtain⟨a1,a2,a3⟩:=zC _ (dec s) (Nat.lt_succ_self _);refine KF a1 h (λe=>?_) h0 a2 hne (Fq _ _ (Nat.lt_succ_self _));have:=a3 e;rw[this,Lib.decDigits,dif_pos (by omega)];rfl
theorem KG:Lib.decDigits 0=[48]:=by rw[Lib.decDigits,dif_pos (by omega)];rfl
theorem Dz:∀n:Nat,dec (List.replicate n (48:UInt8))=0
 |0=>rfl
 |n+1=>by rw[List.replicate_succ,rO,Dz n];simp[dval]
def IK(x:Nat):aH:=List.replicate (9-(Lib.decDigits x).length) 48++Lib.decDigits x
theorem yL{x:Nat}(h:x<1000000000):(IK x).length=9/\dec (IK x)=x/\(IK x).all isDig=true:=by
 have hl:=tW 9 x h (by omega);obtain⟨a1,a2,a3⟩:=zC _ x (Nat.lt_succ_self _);unfold IK;refine⟨by rw[List.length_append,List.length_replicate];omega,?_,?_⟩
 ·rw[sH,Dz,Fq _ x (Nat.lt_succ_self _)];omega
 ·rw[List.all_append,a1,Bool.and_true,List.all_eq_true];intro c hc;obtain rfl:=List.eq_of_mem_replicate hc;decide
def gV:List Nat->aH
 |[]=>[]
 |x::r=>if r=[]then Lib.decDigits x else gV r++IK x
theorem Ct(x:Nat):gV [x]=Lib.decDigits x:=by simp[gV]
theorem AL{x:Nat}{r:List Nat}(h:r≠[]):gV (x::r)=gV r++IK x:=by rw[gV,if_neg h]
theorem AK:∀{l:List Nat},mU l->PN l->l≠[]->(gV l).all isDig=true/\dec (gV l)=val l/\gV l≠[]/\(gV l).head?≠some 48
 |[],_,_,h=>absurd rfl h
 |[x],hl,ht,_=>by
  have hx:x≠0:=by have:=ht (by simp);simpa using this
  obtain⟨a1,a2,a3⟩:=zC _ x (Nat.lt_succ_self _)
  rw[Ct]
  exact⟨a1,by rw[Fq _ x (Nat.lt_succ_self _)];simp[val],a2,λe=>hx (a3 e)⟩
 |x::y::r,hl,ht,_=>by
  obtain⟨b1,b2,b3,b4⟩:=AK (l:=y::r) (λz hz=>hl z (List.mem_cons_of_mem _ hz)) (λh=>by have:=ht (by simp);simpa using this) (by simp)
  obtain⟨p1,p2,p3⟩:=yL (hl x (by simp))
  rw[AL (by simp)]
  refine⟨by rw[List.all_append,b1,p3];rfl,?_,by simp[b3],?_⟩
  ·rw[sH,p1,p2,b2]
   show _=x+1000000000*val (y::r)
   omega
  ·cases hq:gV (y::r)with
   |nil=>exact absurd hq b3
   |cons c d=>rw[hq]at b4;simpa using b4
theorem Cv{l:List Nat}(h:mU l)(ht:PN l)(hne:l≠[]):gV l=Lib.decDigits (val l):=by
 obtain⟨a,b,c,d⟩:=AK h ht hne;rw[<-b,aBI a (λe=>absurd e d) c]
theorem Cu:∀(l:List Nat),mU l->(gV l).length<=9*l.length
 |[],_=>by simp[gV]
 |x::r,hl=>by
  have hx:=hl x (by simp)
  unfold gV
  split
  ·have:=tW 9 x hx (by omega);simp only[List.length_cons];omega
  ·have:=Cu r λz hz=>hl z (List.mem_cons_of_mem _ hz)
   have:=(yL hx).1
   rw[List.length_append,List.length_cons];omega
theorem ok_int{z:Big}(h:z.Ok):(z.l=[]/\z.int=0)\/(z.l≠[]/\z.int≠0/\val z.l≠0/\Lib.itoa z.int=(if z.below=true then [45]else [])++gV z.l):=by
 obtain⟨h1,h2,h3⟩:=h;by_cases he:z.l=[]
 ·exact .inl ⟨he,by unfold Big.int;rw[he];simp[val]⟩
 ·have hv:val z.l≠0:=λe=>he ((AG h2).1 e);refine .inr ⟨he,?_,hv,?_⟩
  ·unfold Big.int;split<;>omega
  ·rw[Cv h1 h2 he];unfold Lib.itoa Big.int;cases z.below with
   |true=>simp only[if_true];rw[if_pos (by omega)];simp
   |false=>simp only[Bool.false_eq_true,if_false];rw[if_neg (by omega)];simp
theorem tS(n:Int):dig (Lib.itoa n)=Lib.decDigits n.natAbs:=by
 unfold Lib.itoa;split
 ·simp[dig]
 ·rename_i h;have e:n.toNat=n.natAbs:=by omega
  rw[e];obtain⟨a1,a2,a3⟩:=zC _ n.natAbs (Nat.lt_succ_self _);cases hq:Lib.decDigits n.natAbs with
  |nil=>exact absurd hq a2
  |cons c d=>
   have hc:c≠45:=by
    rintro rfl;rw[hq]at a1;simp[isDig]at a1
   simp[dig,hc]
theorem NQ(n:Int):neg (Lib.itoa n)=decide (n<0):=by
 unfold Lib.itoa;split
 ·rename_i h;simp[neg,h]
 ·rename_i h;obtain⟨a1,a2,a3⟩:=zC _ n.toNat (Nat.lt_succ_self _);cases hq:Lib.decDigits n.toNat with
  |nil=>exact absurd hq a2
  |cons c d=>
   have hc:c≠45:=by
    rintro rfl;rw[hq]at a1;simp[isDig]at a1
   simp[neg,hc,h]
theorem CV(n:Int):num (Lib.itoa n)=n:=by
 unfold num;rw[tS,NQ,Fq _ _ (Nat.lt_succ_self _)];by_cases h:n<0
 ·simp[h];omega
 ·simp[h];omega
theorem BE{n:Int}(h:n.natAbs<10^100):goodN (Lib.itoa n)=true:=by
 obtain⟨a1,a2,a3⟩:=zC _ n.natAbs (Nat.lt_succ_self _);have hl:=tW 100 n.natAbs h (by omega);have hp:=List.length_pos_iff.2 a2;unfold goodN;rw[tS,a1,decide_eq_true (by omega),decide_eq_true hl];simp only[Bool.true_and,Bool.and_true,Bool.or_eq_true,Bool.not_eq_true',decide_eq_true_eq,beq_eq_false_iff_ne,ne_eq];by_cases h0:(Lib.decDigits n.natAbs).head?=some 48
 ·right;have:=a3 h0;have hn:n=0:=by omega
  subst hn;unfold Lib.itoa;rw[if_neg (by omega)];exact KG
 ·exact .inl h0
theorem yN{a:aH}(h:goodN a=true):(num a).natAbs<10^100:=by
 obtain⟨g1,g2,g3,g4⟩:=fF h;have:=zB g4;have:=Nat.pow_le_pow_right (n:=10) (by omega) g2;unfold num;split<;>omega
theorem LL{a:aH}(h:goodN a=true):Lib.itoa (num a)=a:=Kb (BE (yN h)) h (CV _)
theorem PY(n:Nat):val (List.replicate n 0)=0:=by
 induction n with
 |zero=>rfl
 |succ n ih=>rw[List.replicate_succ,val,ih]
theorem JJ:∀(l:List Nat) (i x:Nat),i<l.length->val (l.set i x)+l.getD i 0*1000000000^i=val l+x*1000000000^i
 |[],i,x,h=>by simp at h
 |a::l,0,x,_=>by simp[val];omega
 |a::l,i+1,x,h=>by
  have ih:=JJ l i x (by simpa using h)
  simp only[List.set_cons_succ,val,List.getD_cons_succ,Nat.pow_succ]
  have e1:l.getD i 0*(1000000000^i*1000000000)=1000000000*(l.getD i 0*1000000000^i):=by rw[<-Nat.mul_assoc,Nat.mul_comm 1000000000]
  have e2:x*(1000000000^i*1000000000)=1000000000*(x*1000000000^i):=by rw[<-Nat.mul_assoc,Nat.mul_comm 1000000000]
  rw[e1,e2]
  omega
theorem SP{l:List Nat}{x:Nat}(h:mU l)(hx:x<1000000000):mU (l.set i x):=λz hz=>by
 rcases List.mem_or_eq_of_mem_set hz with h1|rfl
 ·exact h z h1
 ·exact hx
theorem pW{l:List Nat}(h:i<l.length):val (l.take (i+1))=val (l.take i)+l.getD i 0*1000000000^i:=by
 rw[List.take_succ,List.getElem?_eq_getElem h,Eg,List.length_take,Nat.min_eq_left (by omega)];simp[val,List.getD_eq_getElem?_getD,List.getElem?_eq_getElem h,Nat.mul_comm]
def ofInt(n:Int)(z:Big):Prop:=z.Ok/\z.int=n
theorem vZ{x:Big}(h:mU x.l):ofInt x.int x.trim:=⟨uH h,qM x⟩
theorem LA{x y:Big}{a b:Int}(hx:ofInt a x)(hy:ofInt b y):ofInt (a+b) (Cf x y):=by
 obtain⟨h1,h2⟩:=MP hx.1 hy.1;exact⟨h2,by rw[h1,hx.2,hy.2]⟩
theorem IL{x:Big}{a:Int}(hx:ofInt a x):ofInt (-a) (wU x):=by
 obtain⟨h1,h2⟩:=Lb hx.1;exact⟨h2,by rw[h1,hx.2]⟩
theorem lS{a:aH}(h:goodN a=true):ofInt (num a) (eL a):=by
 obtain⟨h1,h2⟩:=CJ h;exact⟨h2,h1⟩
theorem Ty{A q r y:Nat}(h:A=q*y+r)(hr:r<y):A/y=q/\A%y=r:=by
 have hy:0<y:=by omega
 refine⟨?_,?_⟩
 ·rw[h,Nat.mul_comm,Nat.mul_add_div hy,Nat.div_eq_of_lt hr,Nat.add_zero]
 ·rw[h,Nat.mul_comm,Nat.mul_add_mod,Nat.mod_eq_of_lt hr]
theorem uT{l:List Nat}(h:mU l)(i:Nat):l.getD i 0<1000000000:=by
 rw[List.getD_eq_getElem?_getD];cases hq:l[i]? with
 |none=>simp
 |some z=>exact h z (List.mem_of_getElem? hq)
structure JF(x y:List Nat)(i k:Nat)(out:List Nat)(carry:Nat):Prop where
 lim:mU out
 len:out.length=x.length+y.length+1
 car:carry<1000000000
 eq:val out+carry*1000000000^(i+k)=val (x.take i)*val y+x.getD i 0*val (y.take k)*1000000000^i
def xZ(x y out:List Nat)(i k carry:Nat):Nat:=carry+out.getD (i+k) 0+(if k<y.length then x.getD i 0*y.getD k 0 else 0)
section
variable{x y out:List Nat}{i k carry:Nat}
theorem WW(h:JF x y i k out carry)(hi:i<x.length)(hx:mU x)(hy:mU y)(hk:k<y.length\/0<carry):i+k<out.length:=by
 rw[h.len];by_cases hm:k<y.length
 ·omega
 have hc:0<carry:=by omega
 have e:=h.eq;rw[List.take_of_length_le (l:=y) (by omega)]at e;have e2:=pW (l:=x) (i:=i) hi;have e3:val (x.take (i+1))*val y=val (x.take i)*val y+x.getD i 0*val y*1000000000^i:=by rw[e2,Nat.add_mul,Nat.mul_right_comm]
 have b1:val (x.take (i+1))<1000000000^(i+1):=by
  have:=Ee (l:=x.take (i+1)) (λz hz=>hx z (List.mem_of_mem_take hz));rwa[List.length_take,Nat.min_eq_left (by omega)]at this
 have b2:=Ee hy;have b3:val (x.take (i+1))*val y<1000000000^(i+1+y.length):=by
  rw[Nat.pow_add];exact Nat.lt_of_le_of_lt (Nat.mul_le_mul_right _ (Nat.le_of_lt b1)) (Nat.mul_lt_mul_of_pos_left b2 (Nat.pow_pos (by omega)))
 have b4:1000000000^(i+k)<=carry*1000000000^(i+k):=Nat.le_mul_of_pos_left _ hc;have b5:1000000000^(i+k)<1000000000^(i+1+y.length):=by omega
 have:=(Nat.pow_lt_pow_iff_right (by omega)).1 b5;omega
theorem MK(h:JF x y i k out carry)(hx:mU x)(hy:mU y):xZ x y out i k carry<1000000000*1000000000:=by
 have h1:=h.car;have h2:=uT h.lim (i+k);have h3:x.getD i 0*y.getD k 0<=999999999*999999999:=Nat.mul_le_mul (by have:=uT hx i;omega) (by have:=uT hy k;omega);unfold xZ;split<;>omega
theorem MJ(h:JF x y i k out carry)(hx:mU x)(hy:mU y)(hp:i+k<out.length):JF x y i (k+1) (out.set (i+k) (xZ x y out i k carry%1000000000)) (xZ x y out i k carry/1000000000):=by
 have hlt:=MK h hx hy;refine⟨SP h.lim (Nat.mod_lt _ (by omega)),by rw[List.length_set];exact h.len,Nat.div_lt_of_lt_mul hlt,?_⟩;have vs:=JJ out (i+k) (xZ x y out i k carry%1000000000) hp;have e:=h.eq;have dm:=Nat.div_add_mod (xZ x y out i k carry) 1000000000;have t2:xZ x y out i k carry*1000000000^(i+k)=carry*1000000000^(i+k)+out.getD (i+k) 0*1000000000^(i+k)+(if k<y.length then x.getD i 0*y.getD k 0 else 0)*1000000000^(i+k):=by
  unfold xZ;rw[Nat.add_mul,Nat.add_mul]
 have t3:x.getD i 0*val (y.take (k+1))*1000000000^i=x.getD i 0*val (y.take k)*1000000000^i+(if k<y.length then x.getD i 0*y.getD k 0 else 0)*1000000000^(i+k):=by
  by_cases hk:k<y.length
  ·rw[if_pos hk,pW hk,Nat.mul_add,Nat.add_mul,Nat.pow_add];congr 1
   ac_rfl
  ·rw[if_neg hk,List.take_of_length_le (by omega),List.take_of_length_le (by omega)];omega
 generalize xZ x y out i k carry=c at*
 have t1:c/1000000000*1000000000^(i+(k+1))+c%1000000000*1000000000^(i+k)=c*1000000000^(i+k):=by
  have q:c*1000000000^(i+k)=(1000000000*(c/1000000000)+c%1000000000)*1000000000^(i+k):=by rw[dm]
  rw[q,Nat.add_mul,show i+(k+1)=i+k+1 by omega,Nat.pow_succ];congr 1
  ac_rfl
 omega
theorem Qg(h:JF x y i k out 0)(hi:i<x.length)(hk:¬k<y.length):val out=val (x.take (i+1))*val y:=by
 have e:=h.eq;rw[List.take_of_length_le (l:=y) (by omega)]at e;rw[pW hi,Nat.add_mul,Nat.mul_right_comm];omega
theorem Ld(hl:mU out)(hn:out.length=x.length+y.length+1)(h:val out=val (x.take i)*val y):JF x y i 0 out 0:=
 ⟨hl,hn,by omega,by rw[h];simp[val]⟩
end
theorem GD{x y:Big}{a b:Int}{out:List Nat}(hx:ofInt a x)(hy:ofInt b y)(hl:mU out)(h:val out=val x.l*val y.l):ofInt (a*b) (⟨x.below^^y.below,out⟩:Big).trim:=by
 have:=vZ (x:=⟨x.below^^y.below,out⟩) hl;have e:(⟨x.below^^y.below,out⟩:Big).int=a*b:=by
  obtain⟨_,rfl⟩:=hx;obtain⟨_,rfl⟩:=hy;unfold Big.int;simp only[h];cases x.below<;>cases y.below<;>simp[Int.natCast_mul,Int.neg_mul,Int.mul_neg]
 rwa[e]at this
theorem yM{z:Big}(h:ofInt n z):z.below=false/\val z.l=n:=by
 obtain⟨⟨h1,h2,h3⟩,h4⟩:=h;unfold Big.int at h4;cases hb:z.below with
 |false=>rw[hb]at h4;simp only[Bool.false_eq_true,if_false]at h4;exact⟨rfl,by omega⟩
 |true=>
  rw[hb]at h4;simp only[if_true]at h4;have hne:z.l≠[]:=λe=>by have:=h3 e;rw[hb]at this;cases this
  have hv:val z.l≠0:=λe=>hne ((AG h2).1 e);omega
theorem GE{l:List Nat}(h:mU l):ofInt (val l:Nat) (⟨false,l⟩:Big).trim:=by
 have:=vZ (x:=⟨false,l⟩) h;exact this
theorem Lg{a b:aH}(ha:goodN a=true)(hb:goodN b=true):(num a).tdiv (num b)=(if(neg a^^neg b)=true then-(((dec (dig a))/(dec (dig b)):Nat):Int)else(((dec (dig a))/(dec (dig b)):Nat):Int))/\
  (num a).tmod (num b)=(if neg a=true then-(((dec (dig a))%(dec (dig b)):Nat):Int)else(((dec (dig a))%(dec (dig b)):Nat):Int)):=by
 unfold num;cases neg a<;>cases neg b<;>simp[Int.neg_tdiv,Int.tdiv_neg,Int.neg_tmod,Int.tmod_neg,Int.ofNat_tdiv]<;>exact Int.tmod_eq_emod_of_nonneg (Int.natCast_nonneg _)
end
end Go.Num
namespace Go.Proofs.YtghhmpppnmoeoaaGreatDoor
section
open Go Go.Eng Go.Num Go.RowKit
variable{w:World}{K:Q0}{cs:List Value}{G:Nat->Prop}{T:TypeId}{i:Nat}{n:Nat}{v:Value}{w':World}{P:Program}{c:UInt8}{S:Nat->Prop}
def Aj(l:List Nat):List Value:=l.map u64
theorem Al{b:Nat}{c:List Value}{off:Nat}{K:Value->Prop}(hw:w.heap[b]?=some (.cells c.toArray T (0,0)))(hv:c[off]?=some v)(hk:K v):aF off (.pointer (some ⟨b,0,none⟩)) λt=>aE false 1 t w K:=by
 rw[aO,bY];refine⟨v,?_,hk⟩;rw[aV,aX,hw,aZ,Nat.zero_add,List.getElem?_toArray];exact hv
theorem Xc{b:Nat}(h:w.heap[b]?=some (.cells cs.toArray T (0,0)))(hn:cs.length=n):SlAt w T (.slice (some ⟨b,0,none⟩) n n) n cs:=
 ⟨some ⟨b,0,none⟩,n,rfl,Nat.le_refl _,λe=>(by cases e),λ_=>⟨b,0,cs.toArray,_,rfl,h,λj _=>by simp⟩⟩
section
variable [HX]
theorem YS{K:Q0}(hm:n<=1000000)(hK:∀a w',a=w.heap.size->w'.heap.size=w.heap.size+1->w'.heap[a]?=some (.cells (Aj (List.replicate n 0)).toArray sQ (0,0))->bA w w'->K (.slice (some ⟨a,0,none⟩) n n) w'):
  bP P0 (Instr.makeSlice 196 (i64 (n:Nat)) (i64 (n:Nat))) w K:=by
 have hinf:((Tryz.prog.info? sQ).bind (·.zero))=some (u64 0):=by kernel_rfl
 obtain⟨i,z,hi,hz,hsz,hbytes,hzs⟩:=OZ.get;have hz0:z=u64 0:=by
  rw[hi]at hinf;simp only[Option.bind_some]at hinf;rw[hz]at hinf;exact Option.some.inj hinf
 subst hz0;unfold bP;have hr:=run_makeSlice (P:=P0) (w:=w) 196 sQ i _ (by kernel_rfl) hi hz .i64 .i64 n n (by omega) (by omega) (by rw[hsz];omega) (by rw[hbytes];omega) (by omega);rw[hr,hsz];simp only[Int.toNat_natCast,Nat.mul_one];have hc:madeCells (Value.cells (u64 0)) n=(Aj (List.replicate n 0)).toArray:=by
  apply Array.ext_getElem?;intro j;simp only[madeCells,Array.getElem?_map,List.getElem?_toArray,Aj];by_cases hj:j<n
  ·rw[Array.getElem?_eq_getElem (by simpa using hj)];simp[Value.cells,hj,Nat.mod_one]
  ·rw[Array.getElem?_eq_none (by simp;omega)];simp[hj]
 rw[hc];exact hK _ _ rfl (Array.size_push ..) (dW _ _ _ rfl) (aS.alloc (aS.refl _ _) _)
theorem Qp{b:Nat}{l:List Nat}{K:Value->Prop}(hb:w.heap[b]?=some (.cells (Aj l).toArray sQ (0,0)))(hn:l.length=n)(hi:i<n)(hK:K (u64 (l.getD i 0))):bU none 1 (.slice (some ⟨b,0,none⟩) n n) (i64 (i:Nat)) λt=>aE false 1 t w K:=by
 rw[lU];refine⟨by omega,by omega,?_⟩;rw[bY];refine⟨u64 (l.getD i 0),?_,hK⟩;rw[aV,aX,hb,aZ,List.getElem?_toArray];simp only[Int.toNat_natCast,Nat.mul_one,Nat.zero_add,Aj];rw[List.getElem?_map,List.getElem?_eq_getElem (by omega),List.getD_eq_getElem?_getD,List.getElem?_eq_getElem (by omega)];rfl
theorem NN{b x:Nat}{l:List Nat}{K:World->Prop}(hb:w.heap[b]?=some (.cells (Aj l).toArray sQ (0,0)))(hn:l.length=n)(hi:i<n)(hK:∀w',w'.heap.size=w.heap.size->w'.heap[b]?=some (.cells (Aj (l.set i x)).toArray sQ (0,0))->aS (λk=>k=b) w w'->K w'):bU none 1 (.slice (some ⟨b,0,none⟩) n n) (i64 (i:Nat)) λt=>bF 1 t (u64 x) w K:=by
 rw[lU];refine⟨by omega,by omega,?_⟩;rw[aV];simp only[Int.toNat_natCast,Nat.mul_one,Nat.zero_add];refine eY hb rfl (by simp[Aj];omega) λw' hz hb' hc=>hK w' hz ?_ hc;rw[hb'];congr 2;apply Array.ext_getElem?;intro j;simp only[Aj,List.setIfInBounds_toArray,List.getElem?_toArray,List.map_set]
theorem MG(h:n<18446744073709551616):IntKind.u64.wrap (n:Int)=(n:Int):=kV (by omega) (by omega)
theorem Cs{x y:Big}{a b:Int}{ds:List Value}{K:Q0}(h:fC w x cs)(h':fC w y ds)(hx:ofInt a x)(hy:ofInt b y)(hfew:x.l.length+y.l.length+1<=1000)
  (hK:∀z cs' w',bA w w'->fC w' z cs'->ofInt (a*b) z->z.l.length<=x.l.length+y.l.length+1->K (.agg cs'.toArray) w'):aA P0 196 [.agg cs.toArray,.agg ds.toArray] w K:=by
 refine UD ?_;unfold aCl;refine lF h λp w1 sv hB hx1 hp hz1=>?_;refine lF (h'.ext hx1) λq w2 sv' hC hx2 hq hz2=>?_;refine aI λc w3 hc hz3 hbc hx3=>?_;have hB3:=hB.ext (hx2.trans hx3);have hC3:=hC.ext hx3;have hx03:=hx1.trans (hx2.trans hx3);have hn:=hB.few;have hm:=hC.few;refine Al (off:=1) hB3.hb rfl ?_;rw[hB3.len];refine Al (off:=1) hC3.hb rfl ?_;rw[hC3.len,aW,bD (by omega) (by omega),aW,bD (by omega) (by omega)];rw[show((x.l.length:Int)+(y.l.length:Int)+1)=((x.l.length+y.l.length+1:Nat):Int)by omega];refine YS (by omega) λo w4 ho hz4 hbo hx4=>?_;have hB4:=hB3.ext hx4;refine Al (off:=1) hB4.hb rfl ?_;rw[hB4.len];have hlx:mU x.l:=hB.lim;have hly:mU y.l:=hC.lim;have hl3:=dA hbc;have hne:∀{k:Nat} {o':Obj},w3.heap[k]?=some o'->k≠o:=λhk e=>by have:=dA hk;omega
 have s0:=hx03.size;refine bL.go (λst w'=>∃(i:Nat) (out:List Nat),st=[i64 (i:Nat)]/\i<=x.l.length/\aS (λk=>k=o) w4 w'/\w'.heap[o]?=some (.cells (Aj out).toArray sQ (0,0))/\mU out/\out.length=x.l.length+y.l.length+1/\val out=val (x.l.take i)*val y.l)
  (λst _=>match st with|[.int _ i]=>x.l.length-i.toNat|_=>0)
  ⟨0,List.replicate (x.l.length+y.l.length+1) 0,rfl,Nat.zero_le _,aS.refl _ _,hbo,λz hz=>by have:=List.eq_of_mem_replicate hz;omega,by simp,by rw[PY];simp[val]⟩ ?_
 rintro st g w6 ⟨i,out,rfl,hi,hc6,hb6,hL,hlen,hv⟩;simp only[List.getD_cons_zero];have hx36:bA w3 w6:=hx4.then hc6 λk hk e=>by have e:k=o:=e;omega
 have hB6:=hB3.ext hx36;have hC6:=hC3.ext hx36;rw[cA,aB];refine⟨λhlt=>?_,λhge=>?_⟩
 ·have hlt:i<x.l.length:=by omega
  obtain⟨n,hn'⟩:∃n,x.l[i]?=some n:=⟨_,List.getElem?_eq_getElem hlt⟩;have hgn:x.l.getD i 0=n:=by rw[List.getD_eq_getElem?_getD,hn'];rfl
  refine hB6.at hn' ?_;refine bL.go (λst w'=>∃(k carry:Nat) (out:List Nat),st=[u64 carry,i64 (k:Nat)]/\aS (λk=>k=o) w4 w'/\w'.heap[o]?=some (.cells (Aj out).toArray sQ (0,0))/\JF x.l y.l i k out carry/\k<=2000)
   (λst _=>match st with|[_,.int _ k]=>2001-k.toNat|_=>0)
   ⟨0,0,out,rfl,hc6,hb6,Ld hL hlen hv,by omega⟩ ?_
  rintro st g2 w8 ⟨k,carry,out2,rfl,hc8,hb8,hT,hk2⟩;simp only[List.getD_cons_zero,List.getD_cons_succ];have hx38:bA w3 w8:=hx4.then hc8 λk hk e=>by have e:k=o:=e;omega
  have hC8:=hC3.ext hx38;refine Al (off:=1) hC8.hb rfl ?_;rw[hC8.len,cA];refine cX.look (decide (0<carry)) (λ_ J hJ=>?_) λg3=>?_
  ·rw[iN];have e:decide ((0:Int)<(carry:Int))=decide (0<carry):=by rw[decide_eq_decide];omega
   rw[e];exact hJ
  simp only[List.getD_cons_zero,iB];rw[dD,aQ];have ek:decide ((k:Int)<(y.l.length:Int))=decide (k<y.l.length):=by rw[decide_eq_decide];omega
  rw[ek];refine⟨λhgo=>?_,λhend=>?_⟩
  ·have hgo:k<y.l.length\/0<carry:=by simpa using hgo
   have hpos:=WW hT hlt hlx hly hgo;have hcl:=MK hT hlx hly;have hstep:=MJ hT hlx hly hpos;have hlen2:=hT.len;rw[aW,bD (by omega) (by omega),show((i:Int)+(k:Int))=((i+k:Nat):Int)by omega];refine Qp hb8 hlen2 (by omega) ?_;have hcar:=hT.car;have hog:=uT hT.lim (i+k);rw[aW,show((carry:Int)+((out2.getD (i+k) 0:Nat):Int))=((carry+out2.getD (i+k) 0:Nat):Int)by omega,MG (by omega)];refine aP.cut (λst w'=>st=[u64 (xZ x.l y.l out2 i k carry)]/\w'=w8) ?_ ?_
   ·refine Al (off:=1) hC8.hb rfl ?_;rw[hC8.len,cA,aB];refine⟨λhky=>?_,λhky=>?_⟩
    ·have hky:k<y.l.length:=by omega
     obtain⟨m,hm'⟩:∃m,y.l[k]?=some m:=⟨_,List.getElem?_eq_getElem hky⟩;have hgm:y.l.getD k 0=m:=by rw[List.getD_eq_getElem?_getD,hm'];rfl
     refine Al (off:=1) hC8.hb rfl ?_;refine hC8.at hm' ?_;have hnl:=uT hlx i;have hml:=uT hly k;rw[hgn]at hnl;rw[hgm]at hml;have hnm:n*m<=999999999*999999999:=Nat.mul_le_mul (by omega) (by omega);rw[Fy,show((n:Int)*(m:Int))=((n*m:Nat):Int)by rw[Int.natCast_mul],MG (by omega)];rw[aW,show(((carry+out2.getD (i+k) 0:Nat):Int)+((n*m:Nat):Int))=((carry+out2.getD (i+k) 0+n*m:Nat):Int)by omega,MG (by omega)];refine⟨?_,rfl⟩;unfold xZ;rw[if_pos hky,hgn,hgm]
    ·refine⟨?_,rfl⟩;unfold xZ;rw[if_neg (by omega)];rfl
   rintro st g4 w12 ⟨rfl,rfl⟩;simp only[List.getD_cons_zero];generalize xZ x.l y.l out2 i k carry=cc at*
   rw[aW,bD (by omega) (by omega),show((i:Int)+(k:Int))=((i+k:Nat):Int)by omega];rw[AD];refine⟨by omega,?_⟩;rw[show((cc:Int).tmod 1000000000)=((cc%1000000000:Nat):Int)by rw[Int.tmod_eq_emod_of_nonneg (by omega)];omega];refine NN hb8 hlen2 (by omega) λw13 hz13 hb13 hc13=>?_;rw[Fw];refine⟨by omega,?_⟩;rw[show((cc:Int).tdiv 1000000000)=((cc/1000000000:Nat):Int)by rw[Int.tdiv_eq_ediv_of_nonneg (by omega)];omega,MG (by omega)];rw[aW,bD (by omega) (by omega),show((k:Int)+1)=((k+1:Nat):Int)by omega];refine⟨⟨k+1,_,_,rfl,hc8.then hc13 (λ_ _ e=>e),hb13,hstep,by omega⟩,by simp only[Int.toNat_natCast];omega⟩
  ·have hend:¬k<y.l.length/\carry=0:=by simp at hend;omega
   obtain⟨hk0,rfl⟩:=hend;rw[aW,wR (by omega)];refine⟨⟨i+1,out2,rfl,hlt,hc8,hb8,hT.lim,hT.len,Qg hT hlt hk0⟩,by simp only[Int.toNat_natCast];omega⟩
 ·obtain rfl:i=x.l.length:=by omega
  rw[List.take_length]at hv;refine Al (off:=0) hB6.hb rfl ?_;refine Al (off:=0) hC6.hb rfl ?_;have eqb:∀(s t:Bool) (K:Value->Prop),K (.bool (s^^t))->tR .bool true (.bool s) (.bool t) K:=λs t K h=>by
   cases s<;>cases t<;>exact h
  refine eqb _ _ _ ?_;simp only[qW,dU,List.length_cons,List.length_nil,List.set_cons_zero,List.set_cons_succ];refine⟨by omega,by omega,?_⟩;have hR:fC w6 ⟨x.below^^y.below,out⟩ [.bool (x.below^^y.below),.slice (some ⟨o,0,none⟩) (x.l.length+y.l.length+1) (x.l.length+y.l.length+1)]:=by
   refine⟨_,sQ,rfl,?_,by show out.length<=1000;omega,hL⟩;have:=Xc hb6 (by simp only[Aj,List.length_map];exact hlen);rw[<-hlen]at this⊢;exact this
  refine mC hR λcs' w15 hx15 hz=>?_;refine JS (w0:=w) (hx15.at (hx36.at hbc id) id) rfl (by omega) (hx03.trans (hx36.trans hx15)) hz.one hz.len λw17 hx17 hc17=>?_;refine hK _ cs' w17 hx17 (hz.keep (p:=false) (q:=.slice none 0 0) (hx15.at (hx36.at hbc id) id) (λn e=>by cases e) hc17) (GD hx hy hL hv) ?_;have:∀l:List Nat,(eG l).length<=l.length:=λl=>by
   induction l using tE with
   |h0=>rw[nN];simp
   |h1 l x ih=>
    by_cases h:x=0
    ·subst h;rw[lL];simp;omega
    ·rw[qN h];simp
  have:=this out;show(eG out).length<=_;omega
end
end
section
open Go Go.Eng Go.Num Go.RowKit Go.Sort
variable{w:World}{K:Q0}{cs:List Value}{G:Nat->Prop}{T:TypeId}{i:Nat}{n:Nat}{v:Value}{w':World}{P:Program}{c:UInt8}{S:Nat->Prop}
section
variable [HX]
theorem Zg{v:Nat}{K:Q0}(hT:sL w)(hv:v<1000000000000)(hK:∀w',bA w w'->K (str (Lib.decDigits v)) w'):aA P0 228 [u64 v,i64 10] w K:=by
 refine Ut ?_;unfold aCc;refine Uk ?_;unfold aB6;rw[aM,show decide ((10:Int)=10)=true from rfl,bZ,cA,aB];refine⟨λhs=>?_,λhs=>?_⟩
 ·rw[jJ,bD (by omega) (by omega)];refine eA (args:=#[i64 (v:Nat)]) Tryz.call274 ((Tryz.internal_strconv_small v (by omega) w).mono ?_);rintro e w' ⟨rfl,rfl⟩;exact⟨_,rfl,hK w' (aS.refl _ _)⟩
 have h1:1<=v:=by omega
 have h64:v<18446744073709551616:=by omega
 have hnd:Lib.nDigits v<=20:=by have:=Lib.numDigits_eq v h1 h64;split at this<;>omega
 have hz24:List.replicate 24 (Value.int .u8 0)=Lib.zeros24.toList:=rfl;rw[hz24,Px];have e0:(Lib.zeros24.toList).toArray=Lib.zeros24:=rfl;rw[e0];have hxa:bA w (w.alloc (.cells Lib.zeros24 262)):=aS.alloc (aS.refl _ _) _;refine eA (args:=#[u64 v]) Tryz.call275 ((Tryz.internal_strconv_numDigits v h1 h64 _ (FM hxa hT.pow)).mono ?_);rintro e w2 ⟨rfl,rfl⟩;refine⟨_,rfl,?_⟩;have hH0:Holds (λ(b:UInt8)=>Value.int .u8 (b.toNat:Int)) (w.alloc (.cells Lib.zeros24 262)) w.heap.size 0 (Array.replicate (Lib.nDigits v) (0:UInt8)):=λj hj=>by
  have hj':j<Lib.nDigits v:=by simpa using hj
  refine⟨?_,World.frozen?_alloc_new _ _ _ _⟩;rw[World.cell?_alloc_new,Nat.zero_add,Lib.zeros24_at _ (by omega),getElem!_pos _ j hj];simp
 have hsl:∀{K:Value->Prop},K (.slice (some ⟨w.heap.size,0,none⟩) (Lib.nDigits v) 24)->Lj 24 1 (.pointer (some ⟨w.heap.size,0,none⟩)) none (some (i64 (Lib.nDigits v))) none K:=λ{K} h=>by
  unfold Lj;simp only[cZ,cO];refine⟨by omega,by omega,?_⟩;have e:(⟨w.heap.size,0,none⟩:Addr).add 0=⟨w.heap.size,0,none⟩:=rfl;simpa[e]using h
 refine hsl ?_;have hfmt:=Tryz.internal_strconv_formatBase10 w.heap.size 0 24 v (Array.replicate (Lib.nDigits v) 0) _ hH0 (by rw[Array.size_replicate];exact Lib.lt_pow_nDigits v) h64 (by rw[Array.size_replicate];omega);rw[Array.size_replicate]at hfmt;refine eA (args:=#[.slice (some ⟨w.heap.size,0,none⟩) (Lib.nDigits v) 24,u64 v]) Tryz.call276 (hfmt.mono ?_);rintro e w4 ⟨rfl,k,v',dk,rfl,hF⟩;refine⟨_,rfl,?_⟩;refine hsl ?_;have h:=run_convert_bytes_back (P:=P0) ((putRow (λ(b:UInt8)=>Value.int .u8 (b.toNat:Int)) (w.alloc (.cells Lib.zeros24 262)) w.heap.size 0 dk).drewN k) 89 9 5 ⟨w.heap.size,0,none⟩ 24 (Lib.decDigits v) (by kernel_rfl) (by kernel_rfl) (by kernel_rfl) (λj hj=>by
  rw[Lib.row_is_numeral hF j hj,Lib.add_plain,World.cell?_drewN];exact cell?_putRow (λ(b:UInt8)=>Value.int .u8 (b.toNat:Int)) _ w.heap.size 0 _ dk hH0 (by rw[hF.size,Array.size_replicate]) j (by rw[hF.size];rw[Lib.decDigits_length]at hj;exact hj))
 rw[Lib.decDigits_length]at h;refine⟨_,h,?_⟩;obtain⟨os',_,eg⟩:=putRow_grow_new (λ(b:UInt8)=>Value.int .u8 (b.toNat:Int)) w #[.cells Lib.zeros24 262] w.heap.size 0 dk (Nat.le_refl _);rw[alloc_eq_grow,eg];exact hK _ (Ma w k os')
end
end
end Go.Proofs.YtghhmpppnmoeoaaGreatDoor
namespace Go.Eng
section
open Go
variable{w:World}{K:Q0}{cs:List Value}{G:Nat->Prop}{T:TypeId}{i:Nat}{n:Nat}{v:Value}{w':World}{P:Program}{c:UInt8}{S:Nat->Prop}
abbrev Ent:=aH×Value×Nat
def Wh(x:Ent):MapEntry:={key:=str x.1,val:=x.2.1,born:=x.2.2}
def sS(l:List Ent):List MapEntry:=l.map Wh
def fZ:List Ent->aH->Option Value
 |[],_=>none
 |x::m,k=>if k=x.1 then some x.2.1 else fZ m k
def wK(w:World)(b:Nat)(look:aH->Option Value):Prop:=
 ∃l n,w.heap[b]?=some (.map (sS l).toArray n)/\(l.map (·.1)).Nodup/\∀s,fZ l s=look s
theorem oI{k:aH}:∀{l:List Ent},fZ l k=none↔k∉l.map (·.1)
 |[]=>by simp[fZ]
 |x::m=>by
  unfold fZ
  by_cases h:k=x.1
  ·rw[if_pos h];simp[h]
  ·rw[if_neg h,oI (l:=m)];simp[h]
theorem nR{k:aH}:∀(l m:List Ent),fZ (l++m) k=match fZ l k with|some v=>some v|none=>fZ m k
 |[],m=>rfl
 |x::l,m=>by
  simp only[List.cons_append,fZ]
  by_cases h:k=x.1
  ·rw[if_pos h,if_pos h]
  ·rw[if_neg h,if_neg h,nR l m]
theorem CX{α:Type}(f:α->α):∀(a:List α) (x:α) (c:List α),(a++x::c).modify a.length f=a++f x::c
 |[],x,c=>rfl
 |y::a,x,c=>by
  have:=CX f a x c
  simp only[List.cons_append,List.length_cons,List.modify_succ_cons,this]
theorem Gg(k a:aH):Instr.sameNow .string (str k) (str a)=some (decide (k=a)):=by
 have hs:Instr.sameNow .string (str k) (str a)=some (aL k==aL a):=rfl;rw[hs];by_cases h:k=a
 ·subst h;rw[(MapKept.bytes_beq (aL k) (aL k)).2 rfl];simp
 ·have hne:(aL k==aL a)=false:=by
   cases hc:(aL k==aL a)with
   |false=>rfl
   |true=>exact absurd (JZ.1 ((MapKept.bytes_beq _ _).1 hc)) h
  rw[hne];simp[h]
theorem oK(k:aH):∀(l:List Ent) (j:Nat),(fZ l k=none->Instr.findNow .string (str k) (sS l) j=some none)/\
  ∀v,fZ l k=some v->∃a b c,l=a++(k,v,b)::c/\k∉a.map (·.1)/\Instr.findNow .string (str k) (sS l) j=some (some (j+a.length,v))
 |[],j=>⟨λ_=>rfl,λv h=>by cases h⟩
 |(a,x,n)::m,j=>by
  by_cases h:k=a
  ·subst h
   refine⟨λe=>by simp[fZ]at e,λv e=>?_⟩
   simp only[fZ,if_true,Option.some.injEq]at e
   subst e
   refine⟨[],n,m,rfl,by simp,?_⟩
   simp only[sS,List.map_cons,Wh,Instr.findNow,Gg,decide_true,List.length_nil,Nat.add_zero]
  ·obtain⟨h1,h2⟩:=oK k m (j+1)
   have hf:Instr.findNow .string (str k) (sS ((a,x,n)::m)) j=Instr.findNow .string (str k) (sS m) (j+1):=by
    simp only[sS,List.map_cons,Wh,Instr.findNow,Gg,decide_eq_false h]
   rw[hf];simp only[fZ,if_neg h];refine⟨h1,λv e=>?_⟩;obtain⟨a',b',c',r1,r2,r3⟩:=h2 v e;refine⟨(a,x,n)::a',b',c',by rw[r1];rfl,by simp[h,r2],?_⟩;rw[r3,List.length_cons];congr 3;omega
section
variable{P:Program}{T KT ET:TypeId}{w:World}{look:aH->Option Value}
theorem wK.at_{b:Nat}(h:wK w b look)(hc:aS S w w')(hS:¬S b):wK w' b look:=by
 obtain⟨l,n,h1,h2⟩:=h;exact⟨l,n,hc.at h1 hS,h2⟩
theorem wK.lt{b:Nat}(h:wK w b look):b<w.heap.size:=by obtain⟨l,n,h1,h2⟩:=h;exact dA h1
theorem wK.congr{b:Nat}{look':aH->Option Value}(h:wK w b look)(he:∀s,look s=look' s):wK w b look':=by
 obtain⟨l,n,h1,h2,h3⟩:=h;exact⟨l,n,h1,h2,λs=>(h3 s).trans (he s)⟩
theorem NW{b:Nat}(h:Ia w b []):wK w b λ_=>none:=⟨[],0,h,List.nodup_nil,λ_=>rfl⟩
theorem Bg{b:Nat}{k:aH}{z:Value}{K:Value->Prop}(hT:P.underlying T=some (.map KT ET))(hKT:P.underlying KT=some .string)(hz:zL P ET=some z)(hb:wK w b look)
  (h1:∀v,look k=some v->K (.tuple #[v,.bool true]))(h0:look k=none->K (.tuple #[z,.bool false])):jP P (Instr.lookup T (.map (some b)) (str k) true) w K:=by
 obtain⟨l,n,hb,hn,hl⟩:=hb;rw[<-hl]at h1 h0;cases he:fZ l k with
 |none=>
  refine⟨_,?_,h0 he⟩;simp only[Instr.lookup,run_bind,aJ hT,MapKept.run_getObj_map hb,run_pure,MapKept.run_checkKey hKT (show MapKept.IsKey .string (str k)from trivial),MapKept.run_findKey hKT ((oK k l 0).1 he),nL hz,if_true]
 |some v=>
  obtain⟨a,b',c,e1,e2,hf⟩:=(oK k l 0).2 v he;refine⟨_,?_,h1 v he⟩;simp only[Instr.lookup,run_bind,aJ hT,MapKept.run_getObj_map hb,run_pure,MapKept.run_checkKey hKT (show MapKept.IsKey .string (str k)from trivial),MapKept.run_findKey hKT hf,if_true]
theorem Au{b:Nat}{o o':Obj}(hb:w.heap[b]?=some o):aS (λq=>q=b) w {w with heap:=w.heap.setIfInBounds b o'}:=
 ⟨rfl,rfl,rfl,by simp,λq _ hq=>(MapKept.heap_set hb).2 q hq⟩
theorem NV{b:Nat}{k:aH}{K:World->Prop}(hT:P.underlying T=some (.map KT ET))(hKT:P.underlying KT=some .string)(hb:wK w b look)
  (hK:∀w',w'.heap.size=w.heap.size->wK w' b (λs=>if s=k then some v else look s)->aS (λq=>q=b) w w'->K w'):jV P (Instr.mapUpdate T (.map (some b)) (str k) v) w K:=by
 obtain⟨l,n,hb,hn,hl⟩:=hb;cases he:fZ l k with
 |none=>
  have hf:=(oK k l 0).1 he;have hrun:(Instr.mapUpdate T (.map (some b)) (str k) v).run P w=.ok () {w with heap:=w.heap.setIfInBounds b (.map ((sS l).toArray.push {key:=str k,val:=v,born:=n}) (n+1))}:=by
   simp only[Instr.mapUpdate,run_bind,aJ hT,MapKept.run_getObj_map hb,MapKept.run_checkKey hKT (show MapKept.IsKey .string (str k)from trivial),MapKept.run_findKey hKT hf,MapKept.run_setObj_map _ hb]
  unfold jV;rw[hrun];refine hK _ (by simp) ⟨l++[(k,v,n)],n+1,?_,?_,λs=>?_⟩ (Au hb)
  ·show(w.heap.setIfInBounds b _)[b]?=_;rw[(MapKept.heap_set hb).1];simp[sS,Wh]
  ·rw[List.map_append,List.nodup_append];refine⟨hn,by simp,λx hx y hy=>?_⟩;have:=oI.1 he;simp only[List.map_cons,List.map_nil,List.mem_singleton]at hy;subst hy;rintro rfl;exact this hx
  ·show fZ _ s=if s=k then some v else look s;rw[nR,<-hl];by_cases hs:s=k
   ·subst hs;rw[he,if_pos rfl];simp[fZ]
   ·rw[if_neg hs];cases fZ l s with
    |none=>simp[fZ,hs]
    |some x=>rfl
 |some u=>
  obtain⟨a,m,c,e1,e2,hf⟩:=(oK k l 0).2 u he;rw[Nat.zero_add]at hf;have hg:(sS l).toArray[a.length]?=some {key:=str k,val:=u,born:=m}:=by
   rw[e1];simp[sS,Wh]
  have hrun:(Instr.mapUpdate T (.map (some b)) (str k) v).run P w=.ok () {w with heap:=w.heap.setIfInBounds b (.map ((sS l).toArray.modify a.length λe=>{e with key:=str k,val:=v}) n)}:=by
   have hkt:=MapKept.run_keyThatStays (P:=P) (w:=w) (d:=.string) (k:=str k) trivial;simp only[Instr.mapUpdate,run_bind,aJ hT,MapKept.run_getObj_map hb,MapKept.run_checkKey hKT (show MapKept.IsKey .string (str k)from trivial),MapKept.run_findKey hKT hf,hg,Option.map_some,Option.getD_some,hkt,MapKept.run_setObj_map _ hb]
  unfold jV;rw[hrun];refine hK _ (by simp) ⟨a++(k,v,m)::c,n,?_,?_,λs=>?_⟩ (Au hb)
  ·show(w.heap.setIfInBounds b _)[b]?=_;rw[(MapKept.heap_set hb).1,e1];congr 2;apply Array.ext';rw[Array.toList_modify];simp only[sS,List.map_append,List.map_cons];have:=CX (λe:MapEntry=>{e with key:=str k,val:=v}) (a.map Wh) (Wh (k,u,m)) (c.map Wh);rw[List.length_map]at this;exact this
  ·rw[e1]at hn;simpa using hn
  ·show fZ _ s=if s=k then some v else look s;rw[<-hl,e1,nR,nR];by_cases hs:s=k
   ·subst hs;rw[if_pos rfl,oI.2 e2];simp[fZ]
   ·rw[if_neg hs];cases fZ a s with
    |none=>simp[fZ,hs]
    |some x=>rfl
theorem NX{b:Nat}{k:aH}{ty:TypeId}{K:Q0}(hT:P.underlying T=some (.map KT ET))(hKT:P.underlying KT=some .string)(hb:wK w b look)
  (hK:∀w',w'.heap.size=w.heap.size->wK w' b (λs=>if s=k then none else look s)->aS (λq=>q=b) w w'->K (.tuple #[]) w'):bP P (Builtin.delete_ #[T,KT] ty #[.map (some b),str k]) w K:=by
 obtain⟨l,n,hb,hn,hl⟩:=hb;cases he:fZ l k with
 |none=>
  have hf:=(oK k l 0).1 he;have hrun:(Builtin.delete_ #[T,KT] ty #[.map (some b),str k]).run P w=.ok (.tuple #[]) {w with heap:=w.heap.setIfInBounds b (.map (sS l).toArray n)}:=by
   simp[Builtin.delete_,run_bind,aJ hT,MapKept.run_getObj_map hb,MapKept.run_checkKey hKT (show MapKept.IsKey .string (str k)from trivial),MapKept.run_findKey hKT hf,MapKept.run_setObj_map _ hb,Result.andThen]
  unfold bP;rw[hrun];refine hK _ (by simp) ⟨l,n,(MapKept.heap_set hb).1,hn,λs=>?_⟩ (Au hb);show fZ _ s=if s=k then none else look s;rw[<-hl];by_cases hs:s=k
  ·subst hs;rw[if_pos rfl,he]
  ·rw[if_neg hs]
 |some u=>
  obtain⟨a,m,c,e1,e2,hf⟩:=(oK k l 0).2 u he;rw[Nat.zero_add]at hf;have hrun:(Builtin.delete_ #[T,KT] ty #[.map (some b),str k]).run P w=.ok (.tuple #[]) {w with heap:=w.heap.setIfInBounds b (.map ((sS l).toArray.eraseIdxIfInBounds a.length) n)}:=by
   simp[Builtin.delete_,run_bind,aJ hT,MapKept.run_getObj_map hb,MapKept.run_checkKey hKT (show MapKept.IsKey .string (str k)from trivial),MapKept.run_findKey hKT hf,MapKept.run_setObj_map _ hb,Result.andThen]
  unfold bP;rw[hrun];rw[e1]at hn;rw[List.map_append,List.nodup_append]at hn;obtain⟨n1,n2,n3⟩:=hn;rw[List.map_cons,List.nodup_cons]at n2;refine hK _ (by simp) ⟨a++c,n,?_,?_,λs=>?_⟩ (Au hb)
  ·show(w.heap.setIfInBounds b _)[b]?=_;rw[(MapKept.heap_set hb).1,e1];congr 2;have hlt:a.length<(sS (a++(k,u,m)::c)).toArray.size:=by simp[sS]
   unfold Array.eraseIdxIfInBounds;rw[dif_pos hlt];apply Array.ext';rw[Array.toList_eraseIdx];simp only[sS,List.map_append,List.map_cons];rw[List.eraseIdx_append_of_length_le (by simp)];simp
  ·rw[List.map_append,List.nodup_append];exact⟨n1,n2.2,λx hx y hy=>n3 x hx y (List.mem_cons_of_mem _ hy)⟩
  ·show fZ _ s=if s=k then none else look s;rw[<-hl,e1,nR,nR];by_cases hs:s=k
   ·subst hs;rw[if_pos rfl,oI.2 e2,oI.2 n2.1]
   ·rw[if_neg hs];cases fZ a s with
    |none=>simp[fZ,hs]
    |some x=>rfl
end
end
section
open Go Go.Num Go.Syn
variable{w:World}{K:Q0}{cs:List Value}{G:Nat->Prop}{T:TypeId}{i:Nat}{n:Nat}{v:Value}{w':World}{P:Program}{c:UInt8}{S:Nat->Prop}
structure eJ(ex:List Ex)(i:Nat)(env:Env)(v:JV)(s:Nat):Prop where
 ok:∀left,s<=left->nB ex (i+1) i env left=.ok v (left-s)
 no:∀left,left<s->∃a,nB ex (i+1) i env left=.err 3 a
inductive Cb (ex:List Ex) (env:Env):List Nat->List JV->Nat->Prop where
 |nil:Cb ex env [] [] 0
 |cons {a:Nat} {ags:List Nat} {v:JV} {vs:List JV} {s t:Nat}:eJ ex a env v s->Cb ex env ags vs t->Cb ex env (a::ags) (v::vs) (s+t)
abbrev nY(ex:List Ex):Nat->Env->Nat->mW JV:=λa env l=>nB ex (a+1) a env l
theorem wB{ex:List Ex}{env:Env}{ags:List Nat}{vs:List JV}{s:Nat}(h:Cb ex env ags vs s):(∀left,s<=left->jY (nY ex) env ags left=.ok vs (left-s))/\(∀left,left<s->∃a,jY (nY ex) env ags left=.err 3 a):=by
 induction h with
 |nil=>exact⟨λleft _=>rfl,λleft h=>by omega⟩
 |@cons a ags v vs s t h1 h2 ih=>
  refine⟨λleft hl=>?_,λleft hl=>?_⟩
  ·unfold jY;show mW.bind (nB ex (a+1) a env left) _=_;rw[h1.ok left (by omega)];show mW.bind (jY (nY ex) env ags (left-s)) _=_;rw[ih.1 _ (by omega)];show mW.ok _ _=_;congr 1;omega
  ·unfold jY;show∃b,mW.bind (nB ex (a+1) a env left) _=_;by_cases hs:left<s
   ·obtain⟨b,hb⟩:=h1.no left hs;rw[hb];exact⟨b,rfl⟩
   ·rw[h1.ok left (by omega)];obtain⟨b,hb⟩:=ih.2 (left-s) (by omega);refine⟨b,?_⟩;show mW.bind (jY (nY ex) env ags (left-s)) _=_;rw[hb];rfl
theorem CF{ex:List Ex}{s:Nat}{e:Ex}{env:Env}{v:JV}(hE:gT ex)(he:ex[i]?=some e)(hg:cU v=true)
  (h1:∀left,s<=left->lG (nY ex) ex e env left=.ok v (left-s))(h2:∀left,left<s->∃a,lG (nY ex) ex e env left=.err 3 a):eJ ex i env v (s+1):=by
 refine⟨λleft hl=>?_,λleft hl=>?_⟩
 ·rw[qJ hE he (Nat.lt_succ_self _)];unfold sM;rw[if_neg (by omega)];show mW.bind (lG (nY ex) ex e env (left-1)) _=_;rw[h1 (left-1) (by omega)];show(if cU v=true then mW.ok v (left-1-s)else _)=_;rw[if_pos hg];congr 1;omega
 ·rw[qJ hE he (Nat.lt_succ_self _)];unfold sM;by_cases h0:left=0
  ·exact⟨e.a,by rw[if_pos h0]⟩
  ·obtain⟨a,ha⟩:=h2 (left-1) (by omega);refine⟨a,?_⟩;rw[if_neg h0];show mW.bind (lG (nY ex) ex e env (left-1)) _=_;rw[ha];rfl
theorem yD{ex:List Ex}{s:Nat}{e:Ex}{env:Env}{vs:List JV}{v:JV}(hE:gT ex)(he:ex[i]?=some e)(h28:e.k≠28)(h29:e.k≠29)(hl:Cb ex env e.args vs s)(hm:kZ ex e env vs=.ok v)(hg:cU v=true):eJ ex i env v (s+1):=by
 obtain⟨h1,h2⟩:=wB hl;refine CF hE he hg (λleft hle=>?_) λleft hlt=>?_
 ·unfold lG;rw[if_neg h28,if_neg h29,h1 left hle];show(kZ ex e env vs).at_ _=_;rw[hm];rfl
 ·unfold lG;rw[if_neg h28,if_neg h29];obtain⟨a,ha⟩:=h2 left hlt;exact⟨a,by rw[ha];rfl⟩
theorem iF{ex:List Ex}{s t c a b:Nat}{e:Ex}{env:Env}{v:JV}{y:Bool}(hE:gT ex)(he:ex[i]?=some e)(h28:e.k=28)(ha:e.args=[c,a,b])(hc:eJ ex c env (bV y) s)(hb:eJ ex (if y=true then a else b) env v t)(hg:cU v=true):eJ ex i env v (s+t+1):=by
 have e0:iO e 0=c:=by unfold iO;rw[ha];rfl
 have e1:iO e 1=a:=by unfold iO;rw[ha];rfl
 have e2:iO e 2=b:=by unfold iO;rw[ha];rfl
 have hbr:∀l,(if(bV y).b=true then nY ex a env l else nY ex b env l)=nY ex (if y=true then a else b) env l:=λl=>by cases y<;>rfl
 have hbody:∀left,lG (nY ex) ex e env left=(nY ex c env left).bind λx l=>if x.k=1 then .ok x l else if x.k≠2 then .err 81 e.a else if x.b=true then nY ex a env l else nY ex b env l:=λleft=>by
  unfold lG HD;rw[if_pos h28,e0,e1,e2]
 refine CF hE he hg (λleft hle=>?_) λleft hlt=>?_
 ·rw[hbody];show mW.bind (nB ex (c+1) c env left) _=_;rw[hc.ok left (by omega)];show(if(bV y).b=true then nY ex a env (left-s)else nY ex b env (left-s))=_;rw[hbr];show nB ex _ _ env (left-s)=_;rw[hb.ok _ (by omega)];congr 1;omega
 ·rw[hbody];show∃q,mW.bind (nB ex (c+1) c env left) _=_;by_cases hs:left<s
  ·obtain⟨q,hq⟩:=hc.no left hs;rw[hq];exact⟨q,rfl⟩
  ·rw[hc.ok left (by omega)];obtain⟨q,hq⟩:=hb.no (left-s) (by omega);refine⟨q,?_⟩;show(if(bV y).b=true then nY ex a env (left-s)else nY ex b env (left-s))=_;rw[hbr];exact hq
theorem yX{f:Fl}{s:Nat}{scope v:JV}(h:eJ f.ex i (mI scope.ks scope.xs) v s)(hs:s<=20000):vP f i scope=.ok v:=by
 unfold vP;rw[h.ok 20000 hs]
def Hp:Nat->List Ex->Bool
 |_,[]=>true
 |i,e::r=>e.args.all (λa=>decide (a<i))&&(!decide (e.k=28)||decide (3<=e.args.length))&&(!decide (e.k=29)||decide (2<=e.args.length))&&Hp (i+1) r
theorem uZ:∀{l:List Ex} {j:Nat},Hp j l=true->∀(i:Nat) (e:Ex),l[i]?=some e->(∀a∈e.args,a<j+i)/\(e.k=28->3<=e.args.length)/\(e.k=29->2<=e.args.length)
 |[],_,_,i,e,he=>by simp at he
 |x::r,j,h,0,e,he=>by
  simp only[List.getElem?_cons_zero,Option.some.injEq]at he
  subst he
  simp only[Hp,Bool.and_eq_true,List.all_eq_true,decide_eq_true_eq,Bool.or_eq_true,Bool.not_eq_true',decide_eq_false_iff_not]at h
  exact⟨h.1.1.1,λhk=>h.1.1.2.resolve_left λhn=>hn hk,λhk=>h.1.2.resolve_left λhn=>hn hk⟩
 |x::r,j,h,i+1,e,he=>by
  rw[List.getElem?_cons_succ]at he
  simp only[Hp,Bool.and_eq_true]at h
  obtain⟨h1,h2⟩:=uZ h.2 i e he
  exact⟨λa ha=>by have:=h1 a ha;omega,h2⟩
theorem cL{l:List Ex}(h:Hp 0 l=true):gT l:=by
 refine⟨λi e he a ha=>?_,λe he hk=>?_,λe he hk=>?_⟩
 ·have:=(uZ h i e he).1 a ha;omega
 ·obtain⟨i,hi⟩:=List.getElem?_of_mem he;exact(uZ h i e hi).2.1 hk
 ·obtain⟨i,hi⟩:=List.getElem?_of_mem he;exact(uZ h i e hi).2.2 hk
theorem TE(v:JV):jT v=1+kC v.xs:=by cases v;simp only[jT,JV.xs]
theorem MY:∀(xs:List JV),(∀x∈xs,jT x<=2000->mD x=jT x)->∀n:Int,1<=n->n+(kC xs:Int)<=2000->gP xs n=n+kC xs
 |[],_,n,_,_=>by simp[gP,kC]
 |x::xs,h,n,h1,h2=>by
  simp only[kC]at h2
  have hx:=h x (by simp) (by omega)
  simp only[gP,kC]
  rw[if_pos (by omega),hx,bD (by omega) (by omega),MY xs (λy hy=>h y (List.mem_cons_of_mem _ hy)) _ (by omega) (by omega)]
  omega
theorem aA8(v:JV):jT v<=2000->mD v=jT v:=by
 refine JV.ind' (p:=λv=>jT v<=2000->mD v=jT v) (λv ih h=>?_) v;rw[TE]at h;rw[qS,MY v.xs ih 1 (by omega) (by omega),TE];omega
theorem Wj{v:JV}(hd:mK v 24=true)(hc:jT v<=2000)(hp:oC v=true):cU v=true:=by
 unfold cU;rw[hd,hp,Bool.and_true,Bool.and_true,decide_eq_true_eq,aA8 v hc];omega
theorem jS(b:Bool):cU (bV b)=true:=by cases b<;>decide
theorem Ko{s:aH}(h:goodN s=true):cU (nV s)=true:=by
 refine Wj rfl (by rw[TE];simp[kC,JV.xs]) ?_;rw[jH];simp[kH,JV.k,JV.b,JV.t,JV.ks,JV.xs,fK,lQ,h]
theorem Kn{s:aH}(h:s.length<=16384):cU (tV s)=true:=by
 refine Wj rfl (by rw[TE];simp[kC,JV.xs]) ?_;rw[jH];simp[kH,JV.k,JV.b,JV.t,JV.ks,JV.xs,fK,lQ,h]
theorem eP{n:Int}(h:n.natAbs<10^100):cU (iV n)=true:=Ko (BE h)
section
variable{ex:List Ex}{env:Env}{i:Nat}{e:Ex}
theorem gW(hE:gT ex)(he:ex[i]?=some e)(h28:e.k≠28)(h29:e.k≠29)(ha:e.args=[]){v:JV}(hm:kZ ex e env []=.ok v)(hg:cU v=true):eJ ex i env v 1:=
 yD hE he h28 h29 (by rw[ha];exact .nil) hm hg
theorem Wa(hE:gT ex)(he:ex[i]?=some e)(h28:e.k≠28)(h29:e.k≠29){a b s t:Nat}(ha:e.args=[a,b]){x y v:JV}(h:eJ ex a env x s)(h':eJ ex b env y t)(hm:kZ ex e env [x,y]=.ok v)(hg:cU v=true):eJ ex i env v (s+t+1):=
 yD hE he h28 h29 (s:=s+t) (by rw[ha];exact .cons h (.cons h' .nil)) hm hg
theorem LH{v:JV}{l:List JV}(hk:e.k=9)(h:env e.t=some v):kZ ex e env l=.ok v:=by
 unfold kZ;simp[hk,h]
theorem cN{v:JV}(hE:gT ex)(he:ex[i]?=some e)(hk:e.k=9)(ha:e.args=[])(h:env e.t=some v)(hg:cU v=true):eJ ex i env v 1:=
 gW hE he (by omega) (by omega) ha (LH hk h) hg
theorem NY{l:List JV}(hk:e.k=4):kZ ex e env l=.ok (nV e.t):=by unfold kZ;simp[hk]
theorem AO(hE:gT ex)(he:ex[i]?=some e)(hk:e.k=4)(ha:e.args=[]){n:Int}(hg:goodN e.t=true)(hn:num e.t=n):eJ ex i env (iV n) 1:=by
 have h:Lib.itoa n=e.t:=by rw[<-hn];exact LL hg
 show eJ ex i env (nV (Lib.itoa n)) 1;rw[h];exact gW hE he (by omega) (by omega) ha (NY hk) (Ko hg)
theorem Lq(hE:gT ex)(he:ex[i]?=some e)(hk:e.k=2)(ha:e.args=[]):eJ ex i env (bV true) 1:=
 gW hE he (by omega) (by omega) ha (by unfold kZ;simp[hk]) (jS _)
theorem GO{x y:Int}(hk:15<=e.k/\e.k<=19\/22<=e.k/\e.k<=25):kZ ex e env [iV x,iV y]=GK e.k e.a (iV x) (iV y):=by
 unfold kZ;have n1:e.k≠1:=by omega
 have n2:¬(e.k=2\/e.k=3):=by omega
 have n4:e.k≠4:=by omega
 have n5:e.k≠5:=by omega
 have n9:e.k≠9:=by omega
 have n6:e.k≠6:=by omega
 have n7:e.k≠7:=by omega
 have n8:e.k≠8:=by omega
 have n10:e.k≠10:=by omega
 have n30:e.k≠30:=by omega
 have n11:e.k≠11:=by omega
 have n12:e.k≠12:=by omega
 have n13:¬(e.k=13\/e.k=14):=by omega
 have n20:¬(e.k=20\/e.k=21):=by omega
 have n26:¬(e.k=26\/e.k=27):=by omega
 rw[if_neg n1,if_neg n2,if_neg n4,if_neg n5,if_neg n9,if_neg n6,if_neg n7,if_neg n8,if_neg n10,if_neg n30,if_neg n11,if_neg n12,if_neg n13,if_neg n20,if_neg n26];rfl
theorem JM{n:Int}(h:n.natAbs<10^100):dZ n=(Lib.itoa n,0):=by
 unfold dZ;rw[tS,if_neg];have:=tW 100 n.natAbs h (by omega);omega
theorem GJ(k a x y:Int):GK k a (iV x) (iV y)=if k=22 then .ok (bV (decide (tY (Lib.itoa x) (Lib.itoa y)<0)))
  else if k=23 then .ok (bV (decide (0<tY (Lib.itoa x) (Lib.itoa y))))
  else if k=24 then .ok (bV (decide (tY (Lib.itoa x) (Lib.itoa y)<=0)))
  else if k=25 then .ok (bV (decide (0<=tY (Lib.itoa x) (Lib.itoa y))))
  else if k=15 then sR a (dZ (x+y))
  else if k=16 then sR a (dZ (x-y))
  else if k=17 then sR a (dZ (x*y))
  else if k=18 then sR a (BP (Lib.itoa x) (Lib.itoa y))
  else if k=19 then sR a (Ch (Lib.itoa x) (Lib.itoa y))
  else .ok (nV []):=by
 show(if(dR 3 (iV x)&&dR 3 (iV y))=true then _ else _)=_;rw[if_pos (show(dR 3 (iV x)&&dR 3 (iV y))=true from rfl)];simp only[JV.t,CV];rfl
theorem Ni{x y:Int}{a b s t:Nat}(hE:gT ex)(he:ex[i]?=some e)(hk:e.k=15)(ha:e.args=[a,b])(h:eJ ex a env (iV x) s)(h':eJ ex b env (iV y) t)(hb:(x+y).natAbs<10^100):eJ ex i env (iV (x+y)) (s+t+1):=
 Wa hE he (by omega) (by omega) ha h h' (by rw[GO (by omega),GJ,hk,JM hb];rfl) (eP hb)
theorem Nh{x y:Int}{a b s t:Nat}(hE:gT ex)(he:ex[i]?=some e)(hk:e.k=17)(ha:e.args=[a,b])(h:eJ ex a env (iV x) s)(h':eJ ex b env (iV y) t)(hb:(x*y).natAbs<10^100):eJ ex i env (iV (x*y)) (s+t+1):=
 Wa hE he (by omega) (by omega) ha h h' (by rw[GO (by omega),GJ,hk,JM hb];rfl) (eP hb)
end
def iP(s:aH):aH:=[97,32,123,10,32,32,120,32,61,32]++s++[10,125]
def Cc(n:Int):Prop:=-9223372036854775808<=n/\n<=9223372036854775807
theorem Cc.abs{n:Int}(h:Cc n):n.natAbs<=9223372036854775808:=by obtain⟨h1,h2⟩:=h;omega
theorem IY{n:Int}(h:n.natAbs<10^100):(Lib.itoa n).length<=101:=by
 have h1:=tW 100 n.natAbs h (by omega);unfold Lib.itoa;split
 ·simp only[List.length_cons];omega
 ·have:n.toNat=n.natAbs:=by omega
  rw[this];omega
def Ho:List Ex:=[⟨4,[49],[],[],10⟩,⟨4,[50],[],[],14⟩,⟨4,[51],[],[],18⟩,⟨17,[],[1,2],[],16⟩,⟨15,[],[0,3],[],12⟩]
def VX:aH:=[49,32,43,32,50,32,42,32,51]
theorem aBf:Go.Syn.parseM (iP VX)=.ok ⟨Ho,[⟨[97],[],[⟨[120],4,6⟩],[],0⟩],[0]⟩:=by decide+kernel
def Ad:List Ex:=[⟨5,[97],[],[],11⟩,⟨4,[49],[],[],14⟩,⟨2,[],[],[],18⟩,⟨6,[],[0,1,2],[[116],[101],[101]],10⟩]
def VW:aH:=[34,97,36,123,49,125,36,123,116,114,117,101,125,34]
theorem aBe:Go.Syn.parseM (iP VW)=.ok ⟨Ad,[⟨[97],[],[⟨[120],3,6⟩],[],0⟩],[0]⟩:=by decide+kernel
def BM:List Ex:=[⟨4,[49],[],[],10⟩,⟨4,[48],[],[],14⟩,⟨18,[],[0,1],[],12⟩]
def VV:aH:=[49,32,47,32,48]
theorem aBd:Go.Syn.parseM (iP VV)=.ok ⟨BM,[⟨[97],[],[⟨[120],2,6⟩],[],0⟩],[0]⟩:=by decide+kernel
end
section
open Go Go.Num Go.Syn
def more(n:Nat)(a:Int):Int:=if n<10 then a else a+1
end
section
open Go Go.Num Go.Syn
variable{w:World}{K:Q0}{cs:List Value}{G:Nat->Prop}{T:TypeId}{i:Nat}{n:Nat}{v:Value}{w':World}{P:Program}{c:UInt8}{S:Nat->Prop}
def PL(ex:List Ex)(i:Nat)(env:Env)(c a:Int)(s:Nat):Prop:=∀left,s<=left->nB ex (i+1) i env left=.err c a
theorem Jp{ex:List Ex}{s:Nat}{e:Ex}{env:Env}{vs:List JV}{c a:Int}(hE:gT ex)(he:ex[i]?=some e)(h28:e.k≠28)(h29:e.k≠29)(hl:Cb ex env e.args vs s)(hm:kZ ex e env vs=.err c a):PL ex i env c a (s+1):=by
 obtain⟨h1,_⟩:=wB hl;intro left hle;rw[qJ hE he (Nat.lt_succ_self _)];unfold sM;rw[if_neg (by omega)];show mW.bind (lG (nY ex) ex e env (left-1)) _=_;unfold lG;rw[if_neg h28,if_neg h29,h1 _ (by omega)];show mW.bind ((kZ ex e env vs).at_ _) _=_;rw[hm];rfl
theorem Dw{f:Fl}{s:Nat}{scope:JV}{c a:Int}(h:PL f.ex i (mI scope.ks scope.xs) c a s)(hs:s<=20000):vP f i scope=.err c a:=by
 unfold vP;rw[h 20000 hs]
theorem PV(env:Env):eJ Ho 4 env (iV 7) 5:=by
 have hE:gT Ho:=cL (by decide);have h0:=AO (env:=env) hE (i:=0) (n:=1) rfl rfl rfl (by decide) (by decide);have h1:=AO (env:=env) hE (i:=1) (n:=2) rfl rfl rfl (by decide) (by decide);have h2:=AO (env:=env) hE (i:=2) (n:=3) rfl rfl rfl (by decide) (by decide);have h3:=Nh hE (i:=3) rfl rfl rfl h1 h2 (by omega);exact Ni hE (i:=4) rfl rfl rfl h0 h3 (by omega)
theorem PU(env:Env):eJ Ad 3 env (tV [97,49,116,114,117,101]) 4:=by
 have hE:gT Ad:=cL (by decide);have h0:eJ Ad 0 env (tV [97]) 1:=gW hE rfl (by decide) (by decide) rfl rfl (Kn (by decide));have h1:eJ Ad 1 env (nV [49]) 1:=gW hE rfl (by decide) (by decide) rfl rfl (by decide);have h2:eJ Ad 2 env (bV true) 1:=Lq hE rfl rfl rfl;exact yD hE (i:=3) (s:=3) rfl (by decide) (by decide) (.cons h0 (.cons h1 (.cons h2 .nil))) rfl (Kn (by decide))
theorem PT(env:Env):PL BM 2 env 10 12 3:=by
 have hE:gT BM:=cL (by decide);have h0:eJ BM 0 env (nV [49]) 1:=gW hE rfl (by decide) (by decide) rfl rfl (by decide);have h1:eJ BM 1 env (nV [48]) 1:=gW hE rfl (by decide) (by decide) rfl rfl (by decide);exact Jp hE rfl (by decide) (by decide) (.cons h0 (.cons h1 .nil)) rfl
def wL(ex:List Ex)(i:Nat)(env:Env)(s:Nat):Prop:=∃c a,∀left,s<=left->nB ex (i+1) i env left=.err c a
theorem Dx{ex:List Ex}{s:Nat}{e:Ex}{env:Env}{c a:Int}(hE:gT ex)(he:ex[i]?=some e)(h1:∀left,s<=left->lG (nY ex) ex e env left=.err c a):wL ex i env (s+1):=
 ⟨c,a,λleft hl=>by
   rw[qJ hE he (Nat.lt_succ_self _)]
   unfold sM
   rw[if_neg (by omega)]
   show mW.bind (lG (nY ex) ex e env (left-1)) _=_
   rw[h1 (left-1) (by omega)];rfl⟩
theorem rM{ex:List Ex}{s:Nat}{e:Ex}{env:Env}{vs:List JV}{c a:Int}(hE:gT ex)(he:ex[i]?=some e)(h28:e.k≠28)(h29:e.k≠29)(hl:Cb ex env e.args vs s)(hm:kZ ex e env vs=.err c a):wL ex i env (s+1):=by
 obtain⟨h1,_⟩:=wB hl;refine Dx (c:=c) (a:=a) hE he λleft hle=>?_;unfold lG;rw[if_neg h28,if_neg h29,h1 left hle];show(kZ ex e env vs).at_ _=_;rw[hm];rfl
theorem mH{ex:List Ex}{s t p q:Nat}{e:Ex}{env:Env}{v:JV}(hE:gT ex)(he:ex[i]?=some e)(h28:e.k≠28)(h29:e.k≠29)(ha:e.args=[p,q])(h:eJ ex p env v s)(h':wL ex q env t):wL ex i env (s+t+1):=by
 obtain⟨c,a,h'⟩:=h';refine Dx (c:=c) (a:=a) hE he λleft hle=>?_;unfold lG;rw[if_neg h28,if_neg h29,ha];unfold jY;show mW.bind (mW.bind (nB ex (p+1) p env left) _) _=_;rw[h.ok left (by omega)];show mW.bind (mW.bind (jY (nY ex) env [q] (left-s)) _) _=_;unfold jY;show mW.bind (mW.bind (mW.bind (nB ex (q+1) q env (left-s)) _) _) _=_;rw[h' _ (by omega)];rfl
def Fj:List Ex:=[⟨9,[121],[],[],10⟩,⟨4,[49],[],[],14⟩,⟨4,[48],[],[],18⟩,⟨18,[],[1,2],[],16⟩,⟨9,[110],[],[],22⟩,⟨28,[],[0,3,4],[],12⟩]
def WT:aH:=[121,32,63,32,49,32,47,32,48,32,58,32,110]
theorem Xx:Go.Syn.parseM (iP WT)=.ok ⟨Fj,[⟨[97],[],[⟨[120],5,6⟩],[],0⟩],[0]⟩:=by decide+kernel
theorem Ot{n:Int}{yes:Bool}(hn:Cc n){env:Env}(ey:env [121]=some (bV false))(en:env [110]=some (iV n))(eo:env [110,111,112,101]=none):∃s,s<=1000/\eJ Fj 5 env (iV n) s:=by
 have hE:gT Fj:=cL (by decide);have a1:=hn.abs;have h0:=cN hE (i:=0) rfl rfl rfl ey (jS _);have h1:eJ _ 1 env (nV [49]) 1:=gW hE rfl (by decide) (by decide) rfl rfl (by decide);have h2:eJ _ 2 env (nV [48]) 1:=gW hE rfl (by decide) (by decide) rfl rfl (by decide);have h4:=cN hE (i:=4) rfl rfl rfl en (eP (by omega));have h5:=iF hE (i:=5) rfl rfl rfl h0 h4 (eP (by omega));exact⟨_,by decide,h5⟩
def Fi:List Ex:=[⟨9,[121],[],[],10⟩,⟨9,[110,111,112,101],[],[],14⟩,⟨9,[110],[],[],21⟩,⟨28,[],[0,1,2],[],12⟩]
def WR:aH:=[121,32,63,32,110,111,112,101,32,58,32,110]
theorem Xw:Go.Syn.parseM (iP WR)=.ok ⟨Fi,[⟨[97],[],[⟨[120],3,6⟩],[],0⟩],[0]⟩:=by decide+kernel
theorem Or{n:Int}{yes:Bool}(hn:Cc n){env:Env}(ey:env [121]=some (bV false))(en:env [110]=some (iV n))(eo:env [110,111,112,101]=none):∃s,s<=1000/\eJ Fi 3 env (iV n) s:=by
 have hE:gT Fi:=cL (by decide);have a1:=hn.abs;have h0:=cN hE (i:=0) rfl rfl rfl ey (jS _);have h2:=cN hE (i:=2) rfl rfl rfl en (eP (by omega));have h3:=iF hE (i:=3) rfl rfl rfl h0 h2 (eP (by omega));exact⟨_,by decide,h3⟩
def Fh:List Ex:=[⟨9,[121],[],[],10⟩,⟨7,[],[],[],14⟩,⟨4,[48],[],[],17⟩,⟨11,[],[1,2],[],16⟩,⟨9,[110],[],[],22⟩,⟨28,[],[0,3,4],[],12⟩]
def WQ:aH:=[121,32,63,32,91,93,91,48,93,32,58,32,110]
theorem Xv:Go.Syn.parseM (iP WQ)=.ok ⟨Fh,[⟨[97],[],[⟨[120],5,6⟩],[],0⟩],[0]⟩:=by decide+kernel
theorem Oq{n:Int}{yes:Bool}(hn:Cc n){env:Env}(ey:env [121]=some (bV false))(en:env [110]=some (iV n))(eo:env [110,111,112,101]=none):∃s,s<=1000/\eJ Fh 5 env (iV n) s:=by
 have hE:gT Fh:=cL (by decide);have a1:=hn.abs;have h0:=cN hE (i:=0) rfl rfl rfl ey (jS _);have h1:eJ _ 1 env (lV []) 1:=gW hE rfl (by decide) (by decide) rfl rfl (by decide);have h2:eJ _ 2 env (nV [48]) 1:=gW hE rfl (by decide) (by decide) rfl rfl (by decide);have h4:=cN hE (i:=4) rfl rfl rfl en (eP (by omega));have h5:=iF hE (i:=5) rfl rfl rfl h0 h4 (eP (by omega));exact⟨_,by decide,h5⟩
def Fg:List Ex:=[⟨9,[121],[],[],10⟩,⟨4,[49],[],[],20⟩,⟨12,[117,112,112,101,114],[1],[],14⟩,⟨9,[110],[],[],25⟩,⟨28,[],[0,2,3],[],12⟩]
def WP:aH:=[121,32,63,32,117,112,112,101,114,40,49,41,32,58,32,110]
theorem Xu:Go.Syn.parseM (iP WP)=.ok ⟨Fg,[⟨[97],[],[⟨[120],4,6⟩],[],0⟩],[0]⟩:=by decide+kernel
theorem Oo{n:Int}{yes:Bool}(hn:Cc n){env:Env}(ey:env [121]=some (bV false))(en:env [110]=some (iV n))(eo:env [110,111,112,101]=none):∃s,s<=1000/\eJ Fg 4 env (iV n) s:=by
 have hE:gT Fg:=cL (by decide);have a1:=hn.abs;have h0:=cN hE (i:=0) rfl rfl rfl ey (jS _);have h1:eJ _ 1 env (nV [49]) 1:=gW hE rfl (by decide) (by decide) rfl rfl (by decide);have h3:=cN hE (i:=3) rfl rfl rfl en (eP (by omega));have h4:=iF hE (i:=4) rfl rfl rfl h0 h3 (eP (by omega));exact⟨_,by decide,h4⟩
def Ff:List Ex:=[⟨9,[121],[],[],10⟩,⟨8,[],[],[],14⟩,⟨10,[97],[1],[],16⟩,⟨9,[110],[],[],21⟩,⟨28,[],[0,2,3],[],12⟩]
def WO:aH:=[121,32,63,32,123,125,46,97,32,58,32,110]
theorem Xt:Go.Syn.parseM (iP WO)=.ok ⟨Ff,[⟨[97],[],[⟨[120],4,6⟩],[],0⟩],[0]⟩:=by decide+kernel
theorem On{n:Int}{yes:Bool}(hn:Cc n){env:Env}(ey:env [121]=some (bV false))(en:env [110]=some (iV n))(eo:env [110,111,112,101]=none):∃s,s<=1000/\eJ Ff 4 env (iV n) s:=by
 have hE:gT Ff:=cL (by decide);have a1:=hn.abs;have h0:=cN hE (i:=0) rfl rfl rfl ey (jS _);have h1:eJ _ 1 env (.mk 6 false [] [] []) 1:=gW hE rfl (by decide) (by decide) rfl rfl (by decide);have h3:=cN hE (i:=3) rfl rfl rfl en (eP (by omega));have h4:=iF hE (i:=4) rfl rfl rfl h0 h3 (eP (by omega));exact⟨_,by decide,h4⟩
def Fe:List Ex:=[⟨9,[121],[],[],10⟩,⟨4,[49],[],[],15⟩,⟨4,[48],[],[],19⟩,⟨18,[],[1,2],[],17⟩,⟨27,[],[0,3],[],12⟩]
def WN:aH:=[121,32,124,124,32,49,32,47,32,48]
theorem Xs:Go.Syn.parseM (iP WN)=.ok ⟨Fe,[⟨[97],[],[⟨[120],4,6⟩],[],0⟩],[0]⟩:=by decide+kernel
theorem Om{n:Int}{yes:Bool}(hn:Cc n){env:Env}(ey:env [121]=some (bV yes))(en:env [110]=some (iV n))(eo:env [110,111,112,101]=none):∃s,s<=1000/\wL Fe 4 env s:=by
 have hE:gT Fe:=cL (by decide);have a1:=hn.abs;have h0:=cN hE (i:=0) rfl rfl rfl ey (jS _);have h1:eJ _ 1 env (nV [49]) 1:=gW hE rfl (by decide) (by decide) rfl rfl (by decide);have h2:eJ _ 2 env (nV [48]) 1:=gW hE rfl (by decide) (by decide) rfl rfl (by decide);have h3:wL _ 3 env _:=rM (c:=10) (a:=17) hE rfl (by decide) (by decide) (.cons h1 (.cons h2 (.nil))) rfl;have h4:=mH hE (i:=4) rfl (by decide) (by decide) rfl h0 h3;exact⟨_,by decide,h4⟩
def Fc:List Ex:=[⟨9,[121],[],[],10⟩,⟨9,[110,111,112,101],[],[],15⟩,⟨27,[],[0,1],[],12⟩]
def WM:aH:=[121,32,124,124,32,110,111,112,101]
theorem Xr:Go.Syn.parseM (iP WM)=.ok ⟨Fc,[⟨[97],[],[⟨[120],2,6⟩],[],0⟩],[0]⟩:=by decide+kernel
theorem Ol{n:Int}{yes:Bool}(hn:Cc n){env:Env}(ey:env [121]=some (bV yes))(en:env [110]=some (iV n))(eo:env [110,111,112,101]=none):∃s,s<=1000/\wL Fc 2 env s:=by
 have hE:gT Fc:=cL (by decide);have a1:=hn.abs;have h0:=cN hE (i:=0) rfl rfl rfl ey (jS _);have h1:wL _ 1 env _:=rM (c:=80) (a:=15) hE rfl (by decide) (by decide) .nil (by show(match env [110,111,112,101]with|some v=>vI.ok v|none=>vI.err 80 _)=_;rw[eo]);have h2:=mH hE (i:=2) rfl (by decide) (by decide) rfl h0 h1;exact⟨_,by decide,h2⟩
def Fb:List Ex:=[⟨9,[121],[],[],10⟩,⟨7,[],[],[],15⟩,⟨4,[48],[],[],18⟩,⟨11,[],[1,2],[],17⟩,⟨27,[],[0,3],[],12⟩]
def WL:aH:=[121,32,124,124,32,91,93,91,48,93]
theorem Xq:Go.Syn.parseM (iP WL)=.ok ⟨Fb,[⟨[97],[],[⟨[120],4,6⟩],[],0⟩],[0]⟩:=by decide+kernel
theorem Oj{n:Int}{yes:Bool}(hn:Cc n){env:Env}(ey:env [121]=some (bV yes))(en:env [110]=some (iV n))(eo:env [110,111,112,101]=none):∃s,s<=1000/\wL Fb 4 env s:=by
 have hE:gT Fb:=cL (by decide);have a1:=hn.abs;have h0:=cN hE (i:=0) rfl rfl rfl ey (jS _);have h1:eJ _ 1 env (lV []) 1:=gW hE rfl (by decide) (by decide) rfl rfl (by decide);have h2:eJ _ 2 env (nV [48]) 1:=gW hE rfl (by decide) (by decide) rfl rfl (by decide);have h3:wL _ 3 env _:=rM (c:=82) (a:=17) hE rfl (by decide) (by decide) (.cons h1 (.cons h2 (.nil))) rfl;have h4:=mH hE (i:=4) rfl (by decide) (by decide) rfl h0 h3;exact⟨_,by decide,h4⟩
def Fa:List Ex:=[⟨9,[121],[],[],10⟩,⟨4,[49],[],[],21⟩,⟨12,[117,112,112,101,114],[1],[],15⟩,⟨27,[],[0,2],[],12⟩]
def WK:aH:=[121,32,124,124,32,117,112,112,101,114,40,49,41]
theorem Xp:Go.Syn.parseM (iP WK)=.ok ⟨Fa,[⟨[97],[],[⟨[120],3,6⟩],[],0⟩],[0]⟩:=by decide+kernel
theorem Oi{n:Int}{yes:Bool}(hn:Cc n){env:Env}(ey:env [121]=some (bV yes))(en:env [110]=some (iV n))(eo:env [110,111,112,101]=none):∃s,s<=1000/\wL Fa 3 env s:=by
 have hE:gT Fa:=cL (by decide);have a1:=hn.abs;have h0:=cN hE (i:=0) rfl rfl rfl ey (jS _);have h1:eJ _ 1 env (nV [49]) 1:=gW hE rfl (by decide) (by decide) rfl rfl (by decide);have h2:wL _ 2 env _:=rM (c:=71) (a:=15) hE rfl (by decide) (by decide) (.cons h1 (.nil)) rfl;have h3:=mH hE (i:=3) rfl (by decide) (by decide) rfl h0 h2;exact⟨_,by decide,h3⟩
def EY:List Ex:=[⟨9,[121],[],[],10⟩,⟨8,[],[],[],15⟩,⟨10,[97],[1],[],17⟩,⟨27,[],[0,2],[],12⟩]
def WJ:aH:=[121,32,124,124,32,123,125,46,97]
theorem Xo:Go.Syn.parseM (iP WJ)=.ok ⟨EY,[⟨[97],[],[⟨[120],3,6⟩],[],0⟩],[0]⟩:=by decide+kernel
theorem Oh{n:Int}{yes:Bool}(hn:Cc n){env:Env}(ey:env [121]=some (bV yes))(en:env [110]=some (iV n))(eo:env [110,111,112,101]=none):∃s,s<=1000/\wL EY 3 env s:=by
 have hE:gT EY:=cL (by decide);have a1:=hn.abs;have h0:=cN hE (i:=0) rfl rfl rfl ey (jS _);have h1:eJ _ 1 env (.mk 6 false [] [] []) 1:=gW hE rfl (by decide) (by decide) rfl rfl (by decide);have h2:wL _ 2 env _:=rM (c:=82) (a:=17) hE rfl (by decide) (by decide) (.cons h1 (.nil)) rfl;have h3:=mH hE (i:=3) rfl (by decide) (by decide) rfl h0 h2;exact⟨_,by decide,h3⟩
def EX:List Ex:=[⟨9,[121],[],[],10⟩,⟨9,[110],[],[],14⟩,⟨4,[49],[],[],18⟩,⟨4,[48],[],[],22⟩,⟨18,[],[2,3],[],20⟩,⟨28,[],[0,1,4],[],12⟩]
def WI:aH:=[121,32,63,32,110,32,58,32,49,32,47,32,48]
theorem Xn:Go.Syn.parseM (iP WI)=.ok ⟨EX,[⟨[97],[],[⟨[120],5,6⟩],[],0⟩],[0]⟩:=by decide+kernel
theorem Oe{n:Int}{yes:Bool}(hn:Cc n){env:Env}(ey:env [121]=some (bV true))(en:env [110]=some (iV n))(eo:env [110,111,112,101]=none):∃s,s<=1000/\eJ EX 5 env (iV n) s:=by
 have hE:gT EX:=cL (by decide);have a1:=hn.abs;have h0:=cN hE (i:=0) rfl rfl rfl ey (jS _);have h1:=cN hE (i:=1) rfl rfl rfl en (eP (by omega));have h2:eJ _ 2 env (nV [49]) 1:=gW hE rfl (by decide) (by decide) rfl rfl (by decide);have h3:eJ _ 3 env (nV [48]) 1:=gW hE rfl (by decide) (by decide) rfl rfl (by decide);have h5:=iF hE (i:=5) rfl rfl rfl h0 h1 (eP (by omega));exact⟨_,by decide,h5⟩
def EW:List Ex:=[⟨9,[121],[],[],10⟩,⟨9,[110],[],[],14⟩,⟨9,[110,111,112,101],[],[],18⟩,⟨28,[],[0,1,2],[],12⟩]
def WH:aH:=[121,32,63,32,110,32,58,32,110,111,112,101]
theorem Xm:Go.Syn.parseM (iP WH)=.ok ⟨EW,[⟨[97],[],[⟨[120],3,6⟩],[],0⟩],[0]⟩:=by decide+kernel
theorem Od{n:Int}{yes:Bool}(hn:Cc n){env:Env}(ey:env [121]=some (bV true))(en:env [110]=some (iV n))(eo:env [110,111,112,101]=none):∃s,s<=1000/\eJ EW 3 env (iV n) s:=by
 have hE:gT EW:=cL (by decide);have a1:=hn.abs;have h0:=cN hE (i:=0) rfl rfl rfl ey (jS _);have h1:=cN hE (i:=1) rfl rfl rfl en (eP (by omega));have h3:=iF hE (i:=3) rfl rfl rfl h0 h1 (eP (by omega));exact⟨_,by decide,h3⟩
def EV:List Ex:=[⟨9,[121],[],[],10⟩,⟨9,[110],[],[],14⟩,⟨7,[],[],[],18⟩,⟨4,[48],[],[],21⟩,⟨11,[],[2,3],[],20⟩,⟨28,[],[0,1,4],[],12⟩]
def WG:aH:=[121,32,63,32,110,32,58,32,91,93,91,48,93]
theorem Xl:Go.Syn.parseM (iP WG)=.ok ⟨EV,[⟨[97],[],[⟨[120],5,6⟩],[],0⟩],[0]⟩:=by decide+kernel
theorem Oc{n:Int}{yes:Bool}(hn:Cc n){env:Env}(ey:env [121]=some (bV true))(en:env [110]=some (iV n))(eo:env [110,111,112,101]=none):∃s,s<=1000/\eJ EV 5 env (iV n) s:=by
 have hE:gT EV:=cL (by decide);have a1:=hn.abs;have h0:=cN hE (i:=0) rfl rfl rfl ey (jS _);have h1:=cN hE (i:=1) rfl rfl rfl en (eP (by omega));have h2:eJ _ 2 env (lV []) 1:=gW hE rfl (by decide) (by decide) rfl rfl (by decide);have h3:eJ _ 3 env (nV [48]) 1:=gW hE rfl (by decide) (by decide) rfl rfl (by decide);have h5:=iF hE (i:=5) rfl rfl rfl h0 h1 (eP (by omega));exact⟨_,by decide,h5⟩
def EU:List Ex:=[⟨9,[121],[],[],10⟩,⟨9,[110],[],[],14⟩,⟨4,[49],[],[],24⟩,⟨12,[117,112,112,101,114],[2],[],18⟩,⟨28,[],[0,1,3],[],12⟩]
def WF:aH:=[121,32,63,32,110,32,58,32,117,112,112,101,114,40,49,41]
theorem Xk:Go.Syn.parseM (iP WF)=.ok ⟨EU,[⟨[97],[],[⟨[120],4,6⟩],[],0⟩],[0]⟩:=by decide+kernel
theorem Ob{n:Int}{yes:Bool}(hn:Cc n){env:Env}(ey:env [121]=some (bV true))(en:env [110]=some (iV n))(eo:env [110,111,112,101]=none):∃s,s<=1000/\eJ EU 4 env (iV n) s:=by
 have hE:gT EU:=cL (by decide);have a1:=hn.abs;have h0:=cN hE (i:=0) rfl rfl rfl ey (jS _);have h1:=cN hE (i:=1) rfl rfl rfl en (eP (by omega));have h2:eJ _ 2 env (nV [49]) 1:=gW hE rfl (by decide) (by decide) rfl rfl (by decide);have h4:=iF hE (i:=4) rfl rfl rfl h0 h1 (eP (by omega));exact⟨_,by decide,h4⟩
def ES:List Ex:=[⟨9,[121],[],[],10⟩,⟨9,[110],[],[],14⟩,⟨8,[],[],[],18⟩,⟨10,[97],[2],[],20⟩,⟨28,[],[0,1,3],[],12⟩]
def WE:aH:=[121,32,63,32,110,32,58,32,123,125,46,97]
theorem Xj:Go.Syn.parseM (iP WE)=.ok ⟨ES,[⟨[97],[],[⟨[120],4,6⟩],[],0⟩],[0]⟩:=by decide+kernel
theorem Oa{n:Int}{yes:Bool}(hn:Cc n){env:Env}(ey:env [121]=some (bV true))(en:env [110]=some (iV n))(eo:env [110,111,112,101]=none):∃s,s<=1000/\eJ ES 4 env (iV n) s:=by
 have hE:gT ES:=cL (by decide);have a1:=hn.abs;have h0:=cN hE (i:=0) rfl rfl rfl ey (jS _);have h1:=cN hE (i:=1) rfl rfl rfl en (eP (by omega));have h2:eJ _ 2 env (.mk 6 false [] [] []) 1:=gW hE rfl (by decide) (by decide) rfl rfl (by decide);have h4:=iF hE (i:=4) rfl rfl rfl h0 h1 (eP (by omega));exact⟨_,by decide,h4⟩
end
end Go.Eng
namespace Go.Proofs.YtghhmpppnmoeoaaGreatDoor
section
open Go Go.Eng Go.Num Go.RowKit
variable{w:World}{K:Q0}{cs:List Value}{G:Nat->Prop}{T:TypeId}{i:Nat}{n:Nat}{v:Value}{w':World}{P:Program}{c:UInt8}{S:Nat->Prop}
theorem KD(u:Nat):Lib.decDigits u≠[]:=by
 rw[Lib.decDigits];split<;>simp
theorem Pi(u:Nat)(h:0<u):Lib.decDigits u=(if u/10=0 then []else Lib.decDigits (u/10))++[UInt8.ofNat (48+u%10)]:=by
 rw[Lib.decDigits];split
 ·rw[if_pos (by omega),Nat.mod_eq_of_lt (by omega)];rfl
 ·rw[if_neg (by omega)]
theorem Mi{u:Nat}(h:Lib.decDigits u=[48]):u=0:=by
 rw[Lib.decDigits]at h;split at h
 ·rename_i hu;have:=List.head_eq_of_cons_eq h;have e:=congrArg UInt8.toNat this;rw[UInt8.toNat_ofNat']at e;have:(48:UInt8).toNat=48:=rfl;omega
 ·rename_i hu;have:=congrArg List.length h;rw[List.length_append]at this;have h0:0<(Lib.decDigits (u/10)).length:=List.length_pos_iff.2 (KD _);simp at this;exact absurd this (KD _)
theorem Hz:∀(k u:Nat),u<10^k->(Lib.decDigits u).length<=k+1:=by
 intro k;induction k with
 |zero=>intro u h;rw[Lib.decDigits,dif_pos (by omega)];simp
 |succ k ih=>
  intro u h;rw[Lib.decDigits];split
  ·simp
  ·have:=ih (u/10) (by rw[Nat.pow_succ]at h;omega);rw[List.length_append,List.length_singleton];omega
section
variable [HX]
theorem Lm{n:Int}{K:Q0}(hn:n≠0)(h1:-9223372036854775808<=n)(h2:n<=9223372036854775807)(hK:K (str (Lib.itoa n)) w):aA P0 38 [.bool (decide (n<0)),str (Lib.decDigits n.natAbs)] w K:=by
 refine aAr ?_;unfold W38;have hne:Lib.decDigits n.natAbs≠[48]:=λe=>by have:=Mi e;omega
 unfold Lib.itoa at hK;by_cases hneg:n<0
 ·rw[if_pos hneg]at hK;rw[decide_eq_true hneg];refine cX.look true (λ_ J hJ=>?_) λg=>?_
  ·rw[sJ,decide_eq_true hne];exact hJ
  show aD (.bool true) _ _;rw[bZ,lH];have:=Hz 19 n.natAbs (by omega);have em:IntKind.i64.max=9223372036854775807:=by decide
  refine⟨by rw[em];simp only[List.length_cons,List.length_nil];omega,?_⟩;exact hK
 ·rw[if_neg hneg]at hK;rw[decide_eq_false hneg];refine cX.f λg=>?_;show aD (.bool false) _ _;rw[bJ];rw[show n.natAbs=n.toNat by omega];exact hK
theorem Hw{n:Int}{K:Q0}(h1:-9223372036854775808<=n)(h2:n<=9223372036854775807)(hK:∀w',bA w w'->K (str (Lib.itoa n)) w'):aA P0 22 [i64 n] w K:=by
 refine aAC ?_;unfold W22;rw[aM,aB];refine⟨λh0=>?_,λh0=>?_⟩
 ·subst h0;have e:Lib.itoa 0=[48]:=by unfold Lib.itoa;rw[if_neg (by decide),Lib.decDigits,dif_pos (by decide)];rfl
  rw[e]at hK;exact hK w (aS.refl _ _)
 refine⟨λs w'=>∃(m:Int) (out:aH),s=[str out,i64 m]/\bA w w'/\(if m=0 then []else Lib.decDigits m.natAbs)++out=Lib.decDigits n.natAbs/\-9223372036854775808<=m/\m<=9223372036854775807,
  λs _=>match s with|[_,.int _ i]=>i.natAbs|_=>0,⟨n,[],rfl,aS.refl _ _,by rw[if_neg h0,List.append_nil],h1,h2⟩,?_⟩
 rintro s g w2 ⟨m,out,rfl,hx,he,hm1,hm2⟩;simp only[List.getD_cons_zero,List.getD_cons_succ];rw[dG,aB];refine⟨λhne=>?_,λhe0=>?_⟩
 ·have hol:out.length<=25:=by
   have:=Hz 19 n.natAbs (by omega);rw[<-he,List.length_append]at this;omega
  rw[if_neg hne,Pi _ (by omega),List.append_assoc]at he;rw[AD];refine⟨by decide,?_⟩;have hd:(m.tmod 10).natAbs=m.natAbs%10:=by rw[Int.natAbs_tmod];rfl
  have hq:(m.tdiv 10).natAbs=m.natAbs/10:=by rw[Int.natAbs_tdiv];rfl
  refine aP.cut (λs' w'=>s'=[i64 ((m.natAbs%10:Nat):Int)]/\w'=w2) ?_ ?_
  ·rw[cA,aB];refine⟨λh=>?_,λh=>?_⟩
   ·rw[MD,bD (by omega) (by omega),show 0-m.tmod 10=((m.natAbs%10:Nat):Int)by omega];exact⟨rfl,rfl⟩
   ·rw[show m.tmod 10=((m.natAbs%10:Nat):Int)by omega];exact⟨rfl,rfl⟩
  rintro s' g2 w3 ⟨rfl,rfl⟩;simp only[List.getD_cons_zero];rw[aW,bD (by omega) (by omega),jJ,show(48:Int)+((m.natAbs%10:Nat):Int)=((48+m.natAbs%10:Nat):Int)by omega,uG,Nat.mod_eq_of_lt (by omega)];refine Eo λt w4 ht hx4=>?_;have hb:Byt w4 U8 t [UInt8.ofNat (48+m.natAbs%10)]:=by
   have e1:pY [UInt8.ofNat (48+m.natAbs%10)]=[.int .u8 ((48+m.natAbs%10:Nat):Int)]:=by
    simp only[pY,List.map_cons,List.map_nil,UInt8.toNat_ofNat'];rw[Nat.mod_eq_of_lt (by omega)]
   unfold Byt;rw[e1];exact ht
  rw[wH (l:=[UInt8.ofNat (48+m.natAbs%10)]) (e:=U8) (by kernel_rfl) (by kernel_rfl) (by kernel_rfl) hb,lH];have em:IntKind.i64.max=9223372036854775807:=by decide
  refine⟨by rw[em];simp only[List.length_cons,List.length_nil];omega,?_⟩;rw[Fw];refine⟨by decide,?_⟩;rw[bD (by omega) (by omega)];refine⟨⟨m.tdiv 10,_,rfl,hx.trans hx4,?_,by omega,by omega⟩,?_⟩
  ·rw[<-he,<-hq];by_cases hz:m.tdiv 10=0
   ·rw[if_pos hz,if_pos (by omega)]
   ·rw[if_neg hz,if_neg (by omega)]
  ·show(m.tdiv 10).natAbs<m.natAbs;omega
 ·have he0:m=0:=Classical.byContradiction he0;rw[if_pos he0,List.nil_append]at he;rw[cA,he];exact Lm h0 h1 h2 (hK w2 hx)
theorem Bu{n:Int}{K:Q0}(h1:-9223372036854775808<=n)(h2:n<=9223372036854775807)(hK:∀w',bA w w'->K (.agg (flat 3 false (Lib.itoa n)).toArray) w'):aA P0 18 [i64 n] w K:=by
 refine aAG ?_;unfold W18;refine aI λb w1 hb hz hbb hx=>?_;refine Hw h1 h2 λw2 hx2=>?_;simp only[cP,cS,bT,cR,cond_true,cond_false,exists_eq_left',cQ,Nat.reduceAdd,Nat.reduceLT,Nat.lt_add_one,Nat.zero_lt_succ,decide_true,decide_false,ne_eq,reduceCtorEq];exact eS (hx2.at hbb id) rfl rfl rfl λw' hc=>hK w' ((hx.trans hx2).new hc (by omega))
end
end
end Go.Proofs.YtghhmpppnmoeoaaGreatDoor
