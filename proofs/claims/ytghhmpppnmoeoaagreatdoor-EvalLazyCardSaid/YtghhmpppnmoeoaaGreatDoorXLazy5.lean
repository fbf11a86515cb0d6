/- One plain sentence: contracts and plain laws that the claim rests on. Conditions: those that each states. -/
import Derived.Test.YtghhmpppnmoeoaaGreatDoorXLazy4
import Derived.Test.YtghhmpppnmoeoaaGreatDoorXLazy3
import Derived.Test.YtghhmpppnmoeoaaGreatDoorXLazy1
import Derived.Lib.ItoaNum
import Derived.Test.YtghhmpppnmoeoaaGreatDoorXLazy2
set_option linter.all false
set_option linter.unusedSimpArgs false
set_option linter.unusedVariables false
set_option linter.unusedSectionVars false
set_option maxRecDepth 100000
namespace Go.Proofs.YtghhmpppnmoeoaaGreatDoor
section
open Go Go.Eng Go.RowKit Go.Syn Go.Lex
variable{w:World}{K:Q0}{cs:List Value}{G:Nat->Prop}{T:TypeId}{i:Nat}{n:Nat}{v:Value}{w':World}{P:Program}{c:UInt8}{S:Nat->Prop}
def Nx(acc:List Tok):RS->RS
 |.ok l=>.ok (acc++l)
 |.bad c a=>.bad c a
theorem Nw(acc:List Tok)(t:Tok)(x:RS):Nx acc (match x with|.ok l=>.ok (t::l)|x=>x)=Nx (acc++[t]) x:=by
 cases x<;>simp[Nx]
theorem Ii(a:List Tok)(t:Tok):toks (a++[t])=toks a++fK t:=by simp[toks,fK]
section
variable [HX]
theorem Zd:Yw:=by
 intro w K s hT hl hok hbad;refine aCa ?_;unfold W26;rw[fX,mC,aO];unfold qH at hok hbad;have bad:∀{w1:World} (c:Int) (i:Nat) {K':Q0},(∀d w',Ext w w'->w.heap.size<=d->w'.heap[d]?=some (.cells [i64 c,str [],i64 (i:Nat)].toArray 53 (0,0))->K (.tuple #[.slice none 0 0,.pointer (some ⟨d,0,none⟩)]) w')->Ext w w1->
   eL 53 (.agg [i64 c,str [],i64 (i:Nat)].toArray) w1 λt16 w2=>K (.tuple #[.slice none 0 0,t16]) w2:=by
  intro w1 c i _ h hx;refine fS (z:=[i64 c,str [],i64 (i:Nat)]) λd w2 hd hz hdb hx2=>?_;have:=hx.size;exact h d w2 (hx.trans hx2) (by omega) hdb
 refine⟨λh=>?_,λh=>?_⟩
 ·rw[aJ (by omega)]at hbad;simp only[dD,eJ,aB,aM,aY,bB,Nat.reduceAdd,Nat.reduceLT,dM,aA];exact bad (K':=K) 3 0 (λd w'=>hbad 3 0 rfl d w') (Chg.refl _ _)
 have hls:s.length<=16384:=by omega
 rw[aE (by omega)]at hok hbad;generalize hB:EI (s.length+1) s 0=Bd at hok hbad;refine Dz ?_;refine cZ.go (λst w5=>∃p m,p<=s.length/\st=[]/\w5.heap[w.heap.size]?=some (.stringIter (ofL s) p)/\Ext w w5/\EI m s p=Bd/\s.length<m+p)
  (λ_ w5=>match w5.heap[w.heap.size]? with|some (.stringIter _ p)=>s.length-p|_=>0)
  ⟨0,s.length+1,gA _,rfl,gQ _ _ _ rfl,Chg.alloc (Chg.refl _ _) _,hB,by omega⟩ ?_
 rintro st g w5 ⟨p,m,hp,rfl,hit,hx5,hbf,hm⟩;obtain⟨m,rfl⟩:∃k,m=k+1:=⟨m-1,by omega⟩;rw[EI]at hbf;have hz5:=hx5.size;refine FK hit (λhpe=>?_) (λhpl w6 hit6 hc6 hz6=>?_)
 ·
  rw[bK];refine⟨.bool false,rfl,?_⟩;rw[cX];rw[aJ hpe]at hbf;subst hbf;simp only at hok hbad;have hU:Utf s:=by
   have:=Kf (s:=s) (s.length+1) 0 (by omega) hB;rwa[cV]at this
  generalize hR:nC (s.length+1) s 0 0=R0 at hok hbad;refine cZ.go (λst w7=>∃(i m:Nat) (acc:List Tok) (v:Value),st=[v,i64 (i:Nat)]/\i<=s.length/\Utf (s.drop i)/\Ext w w7/\Own w7 w.heap.size TkT 3 v acc.length (toks acc)/\Nx acc (nC m (s.drop i) i acc.length)=R0/\s.length<m+i/\acc.length<=4096)
   (λst _=>match st with|[_,.int _ i]=>s.length-i.toNat|_=>0)
   ⟨0,s.length+1,[],_,rfl,gA _,by rw[cV];exact hU,hx5,⟨by simp[toks],.inl ⟨rfl,rfl⟩⟩,by rw[cV,aM,hR];cases R0<;>rfl,by omega,by simp⟩ ?_
  rintro st g2 w7 ⟨i,m2,acc,v,rfl,hi,hu,hx7,hO,hr,hm2,hcnt⟩;obtain⟨m2,rfl⟩:∃k,m2=k+1:=⟨m2-1,by omega⟩;simp only[nC]at hr;simp only[aG,dE];have hz7:=hx7.size;have hsl:(s.drop i).length=s.length-i:=aQ;rw[gH,fI,eX];refine⟨by omega,by omega,?_⟩;rw[bO,aW];refine Za (hT.ext hx7) (by omega) ?_;have hku:=AG ((s.drop i).length+1) _ hu;have hkl:=wD ((s.drop i).length+1) (s.drop i);rw[fV]at hku hr;generalize fQ ((s.drop i).length+1) (s.drop i)=k at*
  obtain⟨k,kc⟩:=k;simp only at hku hkl hr⊢;rw[bK];refine⟨_,rfl,?_⟩;rw[bK];refine⟨_,rfl,?_⟩;rw[cC,cN (by omega) (by omega),show(i:Int)+(k:Nat)=((i+k:Nat):Int)by omega,bM];simp only[iD];refine GdW.look (decide (i+k=s.length)) (λ_ J hJ=>?_) λg3=>?_
  ·rw[fX,bM,show decide (((i+k:Nat):Int)=((s.length:Nat):Int))=decide (i+k=s.length)by rw[decide_eq_decide];omega];exact hJ
  simp only[aG];rw[fC,bT];refine⟨λhend=>?_,λhgo=>?_⟩
  ·simp only[aL,decide_eq_true_iff]at hend;rw[aE (by rw[hend.1];simp),aJ (List.drop_eq_nil_of_le (by omega))]at hr;simp only[dD,eJ,aB,aM,aY,bB,Nat.reduceAdd,Nat.reduceLT,dM,aA];rw[cU];refine Ba (d:=fK ⟨0,[],((i+k:Nat):Int)⟩) rfl rfl λb w8 hb hz8 hbb hx8=>?_;refine jO Yn (hO.ext hx8) (rX (n:=1) hbb) rfl (λu hu=>by simp only[fK,bQ,fD,qV]at hu;rcases hu with rfl|rfl|rfl<;>rfl) (by omega) (by omega) (by have:=hx8.size;omega) λv' w9 hO9 hc9 hv9=>?_;have e:toks acc++fK ⟨0,[],((i+k:Nat):Int)⟩=toks (acc++[⟨0,[],((i+k:Nat):Int)⟩]):=(Ii _ _).symm;rw[e]at hO9;have hx9:Ext w w9:=(hx7.trans hx8).then hc9 λq hq e=>by have:=(qU hO e).2;omega
   refine hok (acc++[⟨0,[],((i+k:Nat):Int)⟩]) (by rw[<-hr];rfl) v' w9 hx9 (by rw[aX];exact hO9.sl) λq hq=>⟨(qU hO9 hq).2,(qU hO9 hq).1⟩
  ·have hgo:¬(kc=0/\i+k=s.length):=by
    rintro⟨h1,h2⟩;rw[h1,h2]at hgo;simp at hgo
   refine bF λa w8 ha hz8 hab8 hx8=>?_;have hx78:=hx7.trans hx8;refine bS.cut (λst w9=>Ext w w9/\Own w9 w.heap.size TkT 3 v acc.length (toks acc)/\w8.heap.size<=w9.heap.size/\v.ownBlock≠some a/\∃(t:Tok) (n:Nat) (e:Int),st=[i64 e,i64 (n:Nat)]/\w9.heap[a]?=some (.cells (fK t).toArray TkT (0,0))/\
    ((e≠0/\R0=.bad e ((i+k:Nat):Int))\/(e=0/\1<=n/\i+k+n<=s.length/\Utf (s.drop (i+k+n))/\Nx acc (if acc.length=4096 then .bad 3 ((i+k:Nat):Int)else match nC m2 (s.drop (i+k+n)) (i+k+n) (acc.length+1)with|.ok l=>.ok (⟨t.k,t.t,((i+k:Nat):Int)⟩::l)|x=>x)=R0))) ?_ ?_
   ·have hva:v.ownBlock≠some a:=λe=>by have:=(qU hO e).1;omega
    rw[bM,aO];refine⟨λh0=>?_,λh0=>?_⟩
    ·rw[aE (by rw[h0];simp)]at hr;have hlt:i+k<s.length:=by
      rcases dO (i+k) s.length with h|h
      ·exact h
      ·exact absurd ⟨h0,by omega⟩ hgo
     have hd:=iR hlt;rw[aE (λe=>by rw[hd]at e;cases e)]at hr;rw[gH,fI,eX];refine⟨by omega,by omega,?_⟩;rw[bO,aW];have hrl:(s.drop (i+k+1)).length=s.length-(i+k+1):=aQ;rw[hd]at hr hku⊢;generalize s[i+k]=c at*
     generalize hrr:s.drop (i+k+1)=r at*
     refine aCU (hT.ext hx78) hku (by omega) λw9 hx9=>?_;rw[bK];refine⟨_,rfl,?_⟩;rw[bK];refine⟨_,rfl,?_⟩;rw[bK];refine⟨_,rfl,?_⟩;have hou:=UJ hku;have hok1:=@Hc (c::r);generalize oW (c::r)=o at*
     obtain⟨t,n,e⟩:=o;simp only at hou hr⊢;refine cG (l:=fK t) (hx9.at hab8 id) rfl rfl rfl λw10 hz10 ha10 hc10=>?_;have hO9:=(hO.ext hx8).ext hx9;refine⟨(hx78.trans hx9).new hc10 (by omega),jE hO9 hc10 λq hq e=>hva (e▸hq),by have:=hx9.size;omega,hva,?_⟩;by_cases he:e=0
     ·subst he;rw[aE (by simp)]at hr;obtain⟨n1,n2,_⟩:=hok1 (t:=t) (k:=n) (by simp) rfl;simp only[aB]at n2;refine⟨t,n,0,rfl,ha10,.inr ⟨rfl,n1,by omega,?_,?_⟩⟩
      ·rw[<-fV,hd];exact hou rfl
      ·rw[<-fV,hd];exact hr
     ·rw[aJ he]at hr;exact⟨t,n,e,rfl,ha10,.inl ⟨he,hr.symm⟩⟩
    ·rw[aJ h0]at hr;exact⟨hx78,hO.ext hx8,aS _,hva,⟨0,[],0⟩,0,kc,rfl,hab8,.inl ⟨h0,hr.symm⟩⟩
   rintro st g4 w9 ⟨hx9,hO9,hz9,hva,t,n,e,rfl,ha9,hcase⟩;simp only[aG,dE];refine bS.cut (λst w'=>w'=w9/\∃e':Int,st=[i64 e']/\((e'≠0/\R0=.bad e' ((i+k:Nat):Int))\/(e'=0/\1<=n/\i+k+n<=s.length/\Utf (s.drop (i+k+n))/\acc.length<4096/\Nx acc (match nC m2 (s.drop (i+k+n)) (i+k+n) (acc.length+1)with|.ok l=>.ok (⟨t.k,t.t,((i+k:Nat):Int)⟩::l)|x=>x)=R0))) ?_ ?_
   ·rw[bM];simp only[iD];refine GdW.look (decide (acc.length=4096)) (λ_ J hJ=>?_) λg5=>?_
    ·obtain⟨q,cap,ev,_⟩:=hO9.sl.shape;rw[ev,zD,bM,show decide (((acc.length:Nat):Int)=4096)=decide (acc.length=4096)by rw[decide_eq_decide];omega];exact hJ
    simp only[aG];rw[fC,bT];refine⟨λhb=>?_,λhb=>?_⟩
    ·simp only[aL,decide_eq_true_iff]at hb;refine⟨trivial,3,rfl,.inl ⟨by decide,?_⟩⟩;rcases hcase with⟨h1,h2⟩|⟨h1,h2,h3,h4,h5⟩
     ·exact absurd hb.1 h1
     ·rw[aJ hb.2]at h5;exact h5.symm
    ·refine⟨trivial,e,rfl,?_⟩;rcases hcase with h|⟨h1,h2,h3,h4,h5⟩
     ·exact .inl h
     ·have:acc.length≠4096:=λh=>by rw[h1,h]at hb;simp at hb
      rw[aE this]at h5;exact .inr ⟨h1,h2,h3,h4,by omega,h5⟩
   rintro st g5 w10 ⟨rfl,e',rfl,hcase⟩;simp only[aG];rw[fT,aO];refine⟨λhne=>?_,λheq=>?_⟩
   ·rcases hcase with⟨h1,h2⟩|⟨h1,_⟩
    ·simp only[dD,eJ,aB,aM,aY,bB,Nat.reduceAdd,Nat.reduceLT,dM,aA];exact bad (K':=K) e' (i+k) (λd w'=>hbad e' _ h2 d w') hx9
    ·exact absurd h1 hne
   ·rcases hcase with⟨h1,_⟩|⟨h1,n1,n2,hu2,hc4,hr⟩
    ·exact absurd (by simpa using heq) h1
    rw[bR,bZ,aV];refine iU ha9 rfl (by simp[fK]) λw11 hz11 ha11 hc11=>?_;have ha11:w11.heap[a]?=some (.cells (fK ⟨t.k,t.t,((i+k:Nat):Int)⟩).toArray TkT (0,0)):=by rw[ha11];simp[fK]
    have hO11:=jE hO9 hc11 λq hq e=>hva (e▸hq);have hx11:=hx9.new hc11 (by omega);refine bY ha11 rfl ?_;refine Ba (d:=fK ⟨t.k,t.t,((i+k:Nat):Int)⟩) rfl rfl λb w12 hb hz12 hbb hx12=>?_;refine jO Yn (hO11.ext hx12) (rX (n:=1) hbb) rfl (λu hu=>by simp only[fK,bQ,fD,qV]at hu;rcases hu with rfl|rfl|rfl<;>rfl) (by omega) (by omega) (by have:=hx11.size;have:=hx12.size;omega) λv' w13 hO13 hc13 hv13=>?_;rw[<-Ii]at hO13;rw[cC,cN (by omega) (by omega)];refine⟨⟨i+k+n,m2,acc++[⟨t.k,t.t,((i+k:Nat):Int)⟩],v',by simp only[eF,Value.int.injEq,dM,kX];omega,by omega,hu2,(hx11.trans hx12).then hc13 λq hq e=>?_,by rw[aX];exact hO13,?_,by omega,by rw[aX,aB,aM];omega⟩,?_⟩
    ·have:=(qU hO11 e).2;omega
    ·rw[aX,<-Nw];exact hr
    ·simp only[aW];omega
 ·
  have hge:¬s.length<=p:=by omega
  rw[aE hge]at hbf;have hx6:Ext w w6:=hx5.then hc6 λq hq e=>by have e:q=w.heap.size:=e;omega
  rw[bK];refine⟨.bool true,rfl,?_⟩;rw[dY,bK];refine⟨i64 (p:Nat),rfl,?_⟩;rw[bK];refine⟨_,rfl,?_⟩;have hdc:(Utf8.decode (ofL s) p).1=65533/\Lib.hasPrefix (s.drop p) [239,191,189]=false↔iF s p=0:=by
   constructor
   ·rintro⟨h1,h2⟩;by_cases h0:iF s p=0
    ·exact h0
    ·obtain⟨c,hc⟩:=vH hpl h0;have hd:=hc.dec;rw[hd]at h1;have h1:c=65533:=h1;subst h1;rw[Og hc]at h2;cases h2
   ·intro h0;rw[Iw hpl h0];exact⟨rfl,RF h0⟩
  rw[Rt hpl]at hit6;generalize (Utf8.decode (ofL s) p).1=c at*
  rw[bM,show decide (((c:Nat):Int)=65533)=decide (c=65533)by rw[decide_eq_decide];omega];simp only[iD];refine GdW.look (!Lib.hasPrefix (s.drop p) [239,191,189]) (λ_ J hJ=>?_) λg3=>?_
  ·rw[gH,fI,eX];refine⟨by omega,by omega,?_⟩;rw[bO,aW];refine Ap ?_;rw[eM];exact hJ
  simp only[aG];rw[fC,bT];refine⟨λhb=>?_,λhb=>?_⟩
  ·have h0:iF s p=0:=hdc.1 (by simpa using hb);rw[aJ h0]at hbf;subst hbf;simp only[dD,eJ,aB,aM,aY,bB,Nat.reduceAdd,Nat.reduceLT,dM,aA];exact bad (K':=K) 31 p (λd w'=>hbad 31 _ rfl d w') hx6
  ·have h0:iF s p≠0:=λh=>by
    have:=hdc.2 h;rw[bI this.1,this.2]at hb;cases hb
   rw[aE h0]at hbf;have hfit:=Np hpl;have hpos:=Pd s p;refine⟨⟨p+uY s p,m,hfit,trivial,hit6,hx6,hbf,by omega⟩,?_⟩;rw[hit6,hit];show s.length-(p+uY s p)<s.length-p;omega
end
abbrev DgT:TypeId:=53
def Oh:Syn.PR->Fl
 |.ok f=>f
 |.bad _ _=>⟨[],[],[]⟩
def okP:Syn.PR->Bool
 |.ok _=>true
 |.bad _ _=>false
def XS(w:World)(d:Value):Syn.PR->Prop
 |.ok _=>d=.pointer none
 |.bad c a=>∃b,d=.pointer (some ⟨b,0,none⟩)/\w.heap[b]?=some (.cells [i64 c,str [],i64 a].toArray DgT (0,0))
theorem XS.eq{d:Value}{r:Syn.PR}(h:XS w d r)(n:Bool)(K:Value->Prop):eqW .ptr n d (.pointer none) K↔K (.bool (n^^okP r)):=by
 cases r with
 |ok f=>have h:d=.pointer none:=h;rw[h];cases n<;>exact gU
 |bad c a=>obtain⟨b,rfl,_⟩:=h;cases n<;>exact gU
theorem aAZ(w:World)(B:Nat):FO w B ⟨.slice none 0 0,.slice none 0 0,.slice none 0 0,[],[]⟩ ⟨[],[],[]⟩:=
 ⟨⟨by simp,.inl ⟨rfl,rfl⟩⟩,⟨by simp,.inl ⟨rfl,rfl⟩⟩,⟨by simp[ints],.inl ⟨rfl,rfl⟩⟩,oP.nil _ _,oP.nil _ _,List.nodup_nil,λk hk=>by simp[ub,Value.ownBlock]at hk,λk hk=>by simp[ub,Value.ownBlock]at hk⟩
def isP(r:Syn.PR)(code a:Int):Bool:=match r with
 |.ok _=>decide (code=0)
 |.bad c i=>decide (code≠0)&&decide (c=code)&&decide (i=a)
section
variable [HX]
theorem UG{t:Str}{K:Q0}(hT:yJ w)(hl:t.length<=1000000)
  (hK:∀M d w',Ext w w'->FO w' w.heap.size M (Oh (parseM t))->XS w' d (parseM t)->((Oh (parseM t)).ex.length<=100000/\(Oh (parseM t)).bl.length<=100000/\(Oh (parseM t)).top.length<=100000)->K (.tuple #[.agg [M.vE,M.vB,M.vT].toArray,d]) w'):aC P0 10 [str t] w K:=by
 refine UH (λ{_}=>Zd) hT hl (λfl h M w' hx hF hfew=>?_) (λc a h d w' hx hd hdb=>?_)
 ·rw[h]at hK;exact hK M _ w' hx hF rfl hfew
 ·rw[h]at hK;exact hK ⟨.slice none 0 0,.slice none 0 0,.slice none 0 0,[],[]⟩ _ w' hx (aAZ _ _) ⟨d,rfl,hdb⟩ (by simp[Oh])
theorem aC2{d:Value}{r:Syn.PR}{code a:Int}{K:Q0}(h:XS w d r)(hK:K (.bool (isP r code a)) w):aC P0 25 [d,i64 code,i64 a] w K:=by
 refine aCb ?_;unfold W25;rw[bM,aO];refine⟨λe=>?_,λe=>?_⟩
 ·rw[h.eq];cases r with
  |ok f=>simp only[isP,e,aI,okP]at hK⊢;exact hK
  |bad e1 i=>simp only[isP,e,bL,not_true,aH,zS,okP]at hK⊢;exact hK
 ·rw[h.eq];cases r with
  |ok f=>
   simp only[isP,cP e,okP,Bool.xor_self]at hK⊢;simp only[iD,lP,Ad,aG,sL];intros;exact hK
  |bad e1 i=>
   obtain⟨b,rfl,hb⟩:=h;simp only[isP,bI e,okP,Bool.xor_false,iO,bL]at hK⊢;have ld:∀{off:Nat} {v:Value} {K:Value->Prop},[i64 e1,str [],i64 i][off]?=some v->K v->dU (.pointer (some ⟨b,0,none⟩)) λt=>aZ off t λt=>ldW false 1 t w K:=λhv hk=>by
    rw[dW,bR,dX];refine⟨_,?_,hk⟩;rw[bZ,cD,hb,cH,aV];simpa using hv
   refine GdW.act (decide (e1=code)) (λw'=>w'=w) (λe=>by cases e) ?_ ?_
   ·intro _ J hJ;refine ld rfl ?_;rw[bM];exact hJ _ rfl
   rintro g w2 rfl;simp only[aN,aG,mJ,iD];refine GdW.act (decide (i=a)) (λw'=>w'=w2) (λ_=>rfl) ?_ ?_
   ·intro _ J hJ;refine ld rfl ?_;rw[bM];exact hJ _ rfl
   rintro g2 w3 rfl;simp only[aG];rw[fC];simp only[iD];refine GdW.act true (λw'=>w'=w3) (λ_=>rfl) ?_ ?_
   ·intro _ J hJ;refine ld rfl ?_;rw[rR];exact hJ _ rfl
   rintro g3 w4 rfl;simp only[aG];rw[fC,kV];simpa using hK
end
def ex1:Str:=[114,32,34,116,34,32,34,110,34,32,123,32,120,32,61,32,49,32,43,32,121,46,122,32,125]
section
variable [HX]
end
end
section
open Go Go.Eng Go.RowKit Go.Syn Go.Lex
def cnt(n:Nat)(l:List Nat):List Nat:=(List.range n).map λj=>l.count j
section
variable [HX]
end
variable{w0 w w':World}{B a ea eb:Nat}{M:Lay}{fl:Fl}{lE lB:List Nat}
end
section
open Go Go.Eng Go.RowKit Go.Syn Go.Lex
variable{w:World}{K:Q0}{cs:List Value}{G:Nat->Prop}{T:TypeId}{i:Nat}{n:Nat}{v:Value}{w':World}{P:Program}{c:UInt8}{S:Nat->Prop}
theorem Gp{w:World}{b o:Nat}{c:Array Value}{T:TypeId}{fr:Nat×Nat}{d:List Value}(hb:w.heap[b]?=some (.cells c T fr))(hd:∀j,j<d.length->c[o+j]?=d[j]?):∀(n i:Nat),i+n=d.length->jV w ⟨b,o,none⟩ i n=some (d.drop i)
 |0,i,h=>by simp only[jV];rw[fB (by omega)]
 |n+1,i,h=>by
  have hi:i<d.length:=by omega
  simp only[jV,bZ,cD,hb,cH,hd i hi,List.getElem?_eq_getElem hi]
  rw[Gp hb hd n (i+1) (by omega)]
  simp
theorem Vg{size:Nat}{d:List Value}{k:IntKind}{K:Value->Prop}(h:SlAt w T v n cs)(hl:cs.length=n*size)(hs:0<size)(hi:i<n)(hd:(cs.drop (i*size)).take size=d)(hK:K (.agg d.toArray)):
  dN none size v (.int k i) λt=>ldW true size t w K:=by
 have hlt:i*size+size<=n*size:=by rw[<-EA];exact eD _ hi
 have hdl:d.length=size:=by rw[<-hd,bU,aQ];omega
 refine qW h hl hs hi λb o c fr hb hc=>?_;rw[DK];refine⟨d,?_,hK⟩;have:=Gp (d:=d) hb (λj hj=>by rw[hc j (by omega),<-hd,List.getElem?_take_of_lt (by omega),List.getElem?_drop]) size 0 (by omega);simpa using this
variable [HX]
end
section
open Go Go.Eng Go.RowKit Go.Syn Go.Lex
variable{w:World}{K:Q0}{cs:List Value}{G:Nat->Prop}{T:TypeId}{i:Nat}{n:Nat}{v:Value}{w':World}{P:Program}{c:UInt8}{S:Nat->Prop}
theorem aC1{len k:Nat}{l:List Value}{x:Value}{K:Value->Prop}(hk:k<len)(hx:l[k]?=some x)(h:K x):Vf len false 1 (.agg l.toArray) (i64 (k:Nat)) K:=by
 refine⟨by omega,by omega,?_⟩;show∃c,l.toArray[((k:Nat):Int).toNat*1]?=some c/\K c;exact⟨x,by rw[aW,BW,List.getElem?_toArray];exact hx,h⟩
theorem aCA{a:Int}{m:Nat}(hm:0<m)(hm2:m<1000):∃n:Nat,n<m/\IntKind.i64.wrap ((IntKind.u64.wrap a).tmod (m:Nat))=(n:Int):=by
 obtain⟨u,hu⟩:∃u:Nat,IntKind.u64.wrap a=(u:Int):=⟨(IntKind.u64.wrap a).toNat,by rw[IntKind.wrap_u64];omega⟩;have hlt:=Nat.mod_lt u hm;refine⟨u%m,hlt,?_⟩;have e:((u:Nat):Int).tmod (m:Nat)=((u%m:Nat):Int):=by rw[tI (by omega)];omega
 rw[hu,e,cN (by omega) (by omega)]
section
variable [HX]
end
def ExV(w:World)(e:Ex)(c:List Value):Prop:=
 ∃va vk,c=[i64 e.k,str e.t,va,vk,i64 e.a]/\SlAt w iT va e.args.length (ints e.args)/\SlAt w StT vk e.keys.length (strs e.keys)
def BkV(w:World)(b:Blk)(c:List Value):Prop:=
 ∃vl va vb,c=[str b.typ,vl,va,vb,i64 b.a]/\SlAt w StT vl b.labels.length (strs b.labels)/\SlAt w AtT va b.attrs.length (OB b.attrs)/\SlAt w iT vb b.blocks.length (ints b.blocks)
structure FV(w:World)(M:Lay)(fl:Fl):Prop where
 oE:SlAt w ExT M.vE fl.ex.length M.cE
 oB:SlAt w BkT M.vB fl.bl.length M.cB
 oT:SlAt w iT M.vT fl.top.length (ints fl.top)
 ee:oP (ExV w) 5 fl.ex M.cE
 bb:oP (BkV w) 5 fl.bl M.cB
theorem FO.fv{B:Nat}{M:Lay}{fl:Fl}(h:FO w B M fl):FV w M fl:=
 ⟨h.oE.sl,h.oB.sl,h.oT.sl,h.ee.imp λ_ _ _ ⟨va,vk,e,h1,h2⟩=>⟨va,vk,e,h1.sl,h2.sl⟩,h.bb.imp λ_ _ _ ⟨vl,va,vb,e,h0,h1,h2⟩=>⟨vl,va,vb,e,h0.sl,h1.sl,h2.sl⟩⟩
theorem FV.ext{M:Lay}{fl:Fl}(h:FV w M fl)(hx:Ext w w'):FV w' M fl:=
 ⟨h.oE.ext hx,h.oB.ext hx,h.oT.ext hx,h.ee.imp λ_ _ _ ⟨va,vk,e,h1,h2⟩=>⟨va,vk,e,h1.ext hx,h2.ext hx⟩,h.bb.imp λ_ _ _ ⟨vl,va,vb,e,h0,h1,h2⟩=>⟨vl,va,vb,e,h0.ext hx,h1.ext hx,h2.ext hx⟩⟩
section
variable [HX]
end
theorem eG{b:Nat}{c:List Value}{off:Nat}{K:Value->Prop}(hw:w.heap[b]?=some (.cells c.toArray T (0,0)))(hv:c[off]?=some v)(hk:K v):aZ off (.pointer (some ⟨b,0,none⟩)) λt=>ldW false 1 t w K:=by
 rw[bR,dX];refine⟨v,?_,hk⟩;rw[bZ,cD,hw,cH,aV,List.getElem?_toArray];exact hv
section
variable [HX]
end
end
section
open Go Go.Eng Go.Num Go.RowKit Go.Syn
variable{w:World}{K:Q0}{cs:List Value}{G:Nat->Prop}{T:TypeId}{i:Nat}{n:Nat}{v:Value}{w':World}{P:Program}{c:UInt8}{S:Nat->Prop}
abbrev aDk:TypeId:=93
def AtC(t:Str)(a:Int)(cs:List Value):Prop:=∃k va vk,cs=[i64 k,str t,va,vk,i64 a]/\fG va=true/\fG vk=true
theorem LU{t:Str}{a:Int}{K:Q0}(h:AtC t a cs)(hK:∀b w' k va vk,cs=[i64 k,str t,va,vk,i64 a]->b=w.heap.size->w'.heap.size=w.heap.size+1->w'.heap[b]?=some (.cells [i64 k,str t,va,vk,i64 a].toArray aDk (0,0))->Ext w w'->K (.pointer (some ⟨b,0,none⟩)) w'):eL aDk (.agg cs.toArray) w K:=by
 obtain⟨k,va,vk,rfl,h1,h2⟩:=h;exact fS λb w' hb hz hbb hx=>hK b w' k va vk rfl hb hz hbb hx
theorem Bc{v:JV}{w0:World}{K:Q0}(h:cL G w0 v cs)(hK:∀b w' sv kv,cs=[i64 v.k,.bool v.b,str v.t,sv,kv]->b=w.heap.size->w'.heap.size=w.heap.size+1->w'.heap[b]?=some (.cells [i64 v.k,.bool v.b,str v.t,sv,kv].toArray VT (0,0))->Ext w w'->K (.pointer (some ⟨b,0,none⟩)) w'):eL VT (.agg cs.toArray) w K:=by
 obtain⟨sv,kv,T1,T2,L,rfl,_⟩:=h.rep.out;exact fS λb w' hb hz hbb hx=>hK b w' sv kv rfl hb hz hbb hx
theorem cL.off{v:JV}{b:Nat}(h:cL G w v cs)(hb:w.heap.size<=b):cL (λq=>G q/\q≠b) w v cs:=h.mono λq hq hg=>⟨hg,by omega⟩
theorem zX{w0:World}{b:Nat}{ds:List Value}{v:JV}{K:Q0}(hb:w.heap[b]?=some (.cells ds.toArray VT (0,0)))(hd:ds.length=5)(hl:w0.heap.size<=b)(hx:Ext w0 w)(h:cL (λq=>G q/\q≠b) w v cs)
  (hK:∀w',Ext w0 w'->cL G w' v cs->K (.agg cs.toArray) w'):stW 5 (.pointer (some ⟨b,0,none⟩)) (.agg cs.toArray) w λw5=>ldW true 5 (.pointer (some ⟨b,0,none⟩)) w5 λr6=>K r6 w5:=
 iP hb h.rep.len hd h.rep.all_one λw' hc=>by
  refine hK w' (hx.new hc hl) ?_
  exact(cL.chg hc (λq hq _ e=>hq.2 e) h).mono λq _ hq=>hq.1
theorem Bg{v:JV}(h:cL G w v cs):∃sv kv T1 T2 L,cs=[i64 v.k,.bool v.b,str v.t,sv,kv]/\SlAt w T1 sv v.xs.length L/\cJ G w v.xs L/\SlAt w T2 kv v.ks.length (v.ks.map str)/\Fits v.xs.length v.ks v.t/\(L≠[]->inG G sv)/\(v.ks.map str≠[]->inG G kv):=by
 cases v with
 |mk k b t xs ks=>simpa only[cL,JV.k,JV.b,JV.t,JV.xs,JV.ks]using h
structure jN(G:Nat->Prop)(w:World)(sv:Value)(xs:List JV):Prop where
 it:∃T L,SlAt w T sv xs.length L/\cJ G w xs L/\(L≠[]->inG G sv)
 few:xs.length<=9223372036854775807
theorem jN.items{sv:Value}{xs:List JV}(h:jN G w sv xs):eY w sv xs:=⟨let⟨T,L,h1,h2,_⟩:=h.it;⟨T,L,h1,h2.rep⟩,h.few⟩
theorem jN.chg{sv:Value}{xs:List JV}(h:jN G w sv xs)(hc:Chg S w w')(hS:∀k,G k->k<w.heap.size->¬S k):jN G w' sv xs:=
 ⟨let⟨T,L,h1,h2,h3⟩:=h.it;⟨T,L,vC h1 h3 hc hS,cJ.chg hc hS h2,h3⟩,h.few⟩
theorem jN.ext{sv:Value}{xs:List JV}(h:jN G w sv xs)(hx:Ext w w'):jN G w' sv xs:=h.chg hx λ_ _ _ e=>e
theorem jN.get{sv:Value}{xs:List JV}{k:IntKind}{x:JV}{K:Value->Prop}(h:jN G w sv xs)(hi:xs[i]?=some x)(hK:∀cs,cL G w x cs->K (.agg cs.toArray)):dN none 5 sv (.int k i) λp=>ldW true 5 p w K:=by
 obtain⟨T,L,h1,h2,_⟩:=h.it;obtain⟨cs,hc,hg⟩:=h2.get5 hi;have hlen:=h2.rep.len;refine qW (size:=5) h1 hlen (by omega) (List.getElem?_eq_some_iff.1 hi).1 λb o c fr hb hcc=>?_;exact vO hb hc.rep.len (λj hj=>(hcc j hj).trans (hg j hj)) (hK cs hc)
theorem cL.its{v:JV}{a b c sv kv:Value}(h:cL G w v [a,b,c,sv,kv]):jN G w sv v.xs:=by
 cases v with
 |mk k b' t xs ks=>
  simp only[cL]at h;obtain⟨sv',kv',T1,T2,L,he,h1,h2,h3,h4,h5,h6⟩:=h;simp only[eF,kX]at he;obtain⟨_,_,_,rfl,rfl⟩:=he;exact⟨⟨T1,L,h1,h2,h5⟩,h4.1⟩
section
variable [HX]
def LX(w0:World)(code at_:Int):Prop:=
 ∀(d:Nat) (w':World),Ext w0 w'->w0.heap.size<=d->w'.heap[d]?=some (.cells [i64 code,str [],i64 at_].toArray 53 (0,0))->HX.X [{v:=.iface DT (.pointer (some ⟨d,0,none⟩)),recovered:=false}] w'
theorem kM{c a:Int}{w0:World}{K:Q0}(h:Ext w0 w)(ht:LX w0 c a):aC P0 57 [i64 c,i64 a] w K:=by
 refine aBR ?_;unfold W57;simp only[dD,eJ,cU,aB,aM,aY,bB];refine⟨by omega,by omega,?_⟩;refine fS (z:=[i64 c,str [],i64 a]) λd w' hd hz hb hx=>?_;exact ht d w' (h.trans hx) (by have:=h.size;omega) hb
def MdK(w0:World)(r:MdR JV)(G:Nat->Prop)(w:World)(K:Q0):Prop:=match r with
 |.ok v=>∀cs w',Ext w w'->cL G w' v cs->K (.agg cs.toArray) w'
 |.err c a=>LX w0 c a
theorem MdK.ok{w0:World}{r:MdR JV}{K:Q0}{v:JV}(h:MdK w0 r G w K)(hr:r=.ok v):∀cs w',Ext w w'->cL G w' v cs->K (.agg cs.toArray) w':=by subst hr;exact h
theorem MdK.err{w0:World}{r:MdR JV}{K:Q0}{c a:Int}(h:MdK w0 r G w K)(hr:r=.err c a):LX w0 c a:=by subst hr;exact h
theorem uU{v:JV}{K:Q0}(h:eR w v cs)(hK:∀w',Ext w w'->w'.heap.size=w.heap.size+1->K (.bool (decide (v.k=1))) w'):aC P0 84 [.agg cs.toArray] w K:=by
 obtain⟨sv,kv,T1,T2,L,rfl,_⟩:=h.out;refine aBw ?_;unfold W84;refine fS λb w' hb hz hbb hx=>?_;refine eG (off:=0) hbb rfl ?_;rw[bM];exact hK w' hx hz
theorem Vy{v:JV}{k:Int}{p:Nat}{K:Q0}(hp:w.heap[p]?=some (.cells [i64 k].toArray 22 (0,0)))(h:eR w v cs)(hK:∀w',Ext w w'->K (.bool (!gK k v)) w'):aC P0 156 [.agg cs.toArray,.pointer (some ⟨p,0,none⟩)] w K:=by
 have hr:=h;obtain⟨sv,kv,T1,T2,L,rfl,_⟩:=h.out;refine Xa ?_;unfold aD1;refine fS λb w1 hb hz hbb hx=>?_;refine eG (off:=0) hbb rfl ?_;rw[dX];refine⟨i64 k,by rw[cD,hx.at hp id];rfl,?_⟩;rw[fT,iD];refine GdW.act (!decide (v.k=1)) (λw'=>Ext w1 w') (λ_=>Chg.refl _ _) ?_ ?_
 ·intro _ J hJ;refine bY hbb rfl ?_;refine uU (hr.ext hx) λw3 hx3 _=>?_;rw[eM];exact hJ w3 hx3
 ·intro g w4 hx4;rw[aG,fC];have e:(decide (v.k≠k)&&!decide (v.k=1))=!gK k v:=by
   unfold gK;by_cases h1:v.k=k<;>by_cases h2:v.k=1<;>simp[h1,h2]
  rw[e];exact hK w4 (hx.trans hx4)
theorem LC{k:Int}{sv:Value}{xs:List JV}{K:Q0}(h:eY w sv xs)(hK:∀w',Ext w w'->K (.bool (xs.all (gK k))) w'):aC P0 122 [i64 k,sv] w K:=by
 refine Xy ?_;unfold aEl;have bx:eL 22 (i64 k) w (λt2 w1=>aC P0 124 [sv,(.func (.func 156) #[] #[t2])] w1 λt7 w2=>unW .not t7 λt8=>K t8 w2):=by
  refine sY rfl λp w1 hp hz hbp hx=>?_;refine As (p:=λv=> !gK k v) (h.ext hx) ?_ λw2 hx2=>?_
  ·intro x hx' cs w3 K hx3 hr hK3;refine jR (caps:=[.pointer (some ⟨p,0,none⟩)]) ?_;exact Vy (hx3.at hbp id) hr hK3
  ·rw[eM];have e:(!(xs.any λv=> !gK k v))=xs.all (gK k):=by rw[<-List.not_all_eq_any_not];simp
   rw[e];exact hK w2 (hx.trans hx2)
 exact bx
end
end
section
open Go Go.Eng Go.Num Go.RowKit
variable{w:World}{K:Q0}{cs:List Value}{G:Nat->Prop}{T:TypeId}{i:Nat}{n:Nat}{v:Value}{w':World}{P:Program}{c:UInt8}{S:Nat->Prop}
def Wa(l:List (Str×JV)):JV:=l.foldl (λv p=>wG v p.1 p.2) (.mk 6 false [] [] [])
theorem RO(l:List (Str×JV))(p:Str×JV):Wa (l++[p])=wG (Wa l) p.1 p.2:=by
 unfold Wa;rw[List.foldl_append];rfl
structure Ie(l m:List (Str×JV)):Prop where
 eq:Wa l=mkO m
 rise:Kn (m.map (·.1))
 len:m.length=l.length
 mem:∀p,p∈m↔p∈l
theorem Ie.keys{l m:List (Str×JV)}(h:Ie l m)(k:Str):k∈m.map (·.1)↔k∈l.map (·.1):=by
 simp only[kT];exact⟨λ⟨p,hp,e⟩=>⟨p,(h.mem p).1 hp,e⟩,λ⟨p,hp,e⟩=>⟨p,(h.mem p).2 hp,e⟩⟩
theorem Ie.nil:Ie [] []:=⟨rfl,List.Pairwise.nil,rfl,λ_=>gU⟩
theorem Ie.snoc{l m:List (Str×JV)}{p:Str×JV}(h:Ie l m)(hk:p.1∉l.map (·.1)):Ie (l++[p]) (insP m p.1 p.2):=by
 have hm:p.1∉m.map (·.1):=λe=>hk ((h.keys p.1).1 e);refine⟨by rw[RO,h.eq,SI hm],Pv h.rise hm,by rw[Vk,h.len,aX];rfl,λq=>?_⟩;rw[Mv,h.mem,dC,bP];exact⟨λe=>e.symm,λe=>e.symm⟩
theorem FY{l:List (Str×JV)}{k:Str}:xX (mkO l) k=none↔k∉l.map (·.1):=by
 refine⟨λh=>QZ (by rw[h];rfl),λh=>?_⟩;unfold xX;have:vR (mkO l).ks k=none:=zE.2 h;rw[this];split<;>rfl
section
variable [HX]
theorem Nf{ks:List Str}{xs:List JV}{kv xv:Value}{K:Q0}(hk:SlAt w T kv ks.length (ks.map str))(hx:eY w xv xs)(hn:xs.length<=90000)
  (hkl:∀s∈ks,s.length<=9223372036854775807)(hf:∀x∈xs,vV x=true)(hK:∀cs c w',Ext w w'->cL (yM w.heap.size) w' (AO ks xs) cs->K (.tuple #[.agg cs.toArray,i64 c]) w'):
  aC P0 90 [kv,xv] w K:=by
 refine aBq ?_;unfold W90;refine bF λq w1 hq hz1 hbq hx1=>?_;have s1:=hx1.size;have ends:∀{v:JV} {cs:List Value} {c:Int} {w':World},AO ks xs=v->w'.heap[q]?=w1.heap[q]?->Ext w w'->cL (λk=>w.heap.size<=k/\k≠q) w' v cs->
   stW 5 (.pointer (some ⟨q,0,none⟩)) (.agg cs.toArray) w' λw4=>ldW true 5 (.pointer (some ⟨q,0,none⟩)) w4 λr5=>K (.tuple #[r5,i64 c]) w4:=λ{v cs c w'} hc hqq hx hv=>by
  rw[hc]at hK;exact IC (w0:=w) (K:=λr w=>K (.tuple #[r,i64 c]) w) (by rw[hqq];exact hbq) rfl (by omega) hx hv λw'' hx'' h''=>hK _ _ w'' hx'' h''
 rw[(fY hk _),hx.len,fT,aO];refine⟨λhne=>?_,λheq=>?_⟩
 ·rw[cU];exact ends (v:=JV.null) (cs:=flat 0 false []) (by unfold AO;rw[aE (λh=>hne (by rw[h.1]))]) rfl hx1 (iY (by simp))
 have heq:ks.length=xs.length:=by have:=sD.1 heq;omega
 simp only[dD,cU,aB,aM,aY];refine⟨by omega,?_⟩;refine bF λp w6 hp hz6 hbp hx6=>?_;refine cG (l:=[i64 6,.bool false,str [],.slice none 0 0,.slice none 0 0]) hbp rfl rfl rfl λw7 hz7 hbp7 hc7=>?_;have s6:=hx6.size;have hx07:Ext w w7:=(hx1.trans hx6).new hc7 (by omega);have hbq7:=hc7.at (hx6.at hbq id) λe=>by have e:q=p:=e;omega
 have hplt:=fJ hbp7;have hzl:(ks.zip xs).length=ks.length:=by rw[qZ];omega
 have hzk:(ks.zip xs).map (·.1)=ks:=List.map_fst_zip (by omega);have hzx:(ks.zip xs).map (·.2)=xs:=List.map_snd_zip (by omega);rw[(fY hk _)];refine cZ.go (λst w'=>∃(i:Nat) (sv kv':Value) (L:List Value) (m:List (Str×JV)),st=[i64 (i:Nat)]/\i<=ks.length/\Ext w w'/\w'.heap[q]?=w7.heap[q]?/\w'.heap[p]?=some (.cells [i64 6,.bool false,str [],sv,kv'].toArray VT (0,0))/\w7.heap.size<=w'.heap.size/\Ia w' w7.heap.size (mkO m) sv kv' L/\(ks.take i).Nodup/\Ie ((ks.zip xs).take i) m)
  (λst _=>match st with|[.int _ i]=>ks.length-i.toNat|_=>0)
  ⟨0,.slice none 0 0,.slice none 0 0,[],[],rfl,gA _,hx07,rfl,hbp7,aS _,⟨⟨rfl,.inl ⟨rfl,rfl⟩⟩,by simp[mkO,JV.xs,cJ],⟨rfl,.inl ⟨rfl,rfl⟩⟩,⟨by simp[mkO,JV.xs],by simp[mkO,JV.ks],by simp[mkO,JV.t],λs hs=>by simp[mkO,JV.ks]at hs⟩⟩,by simp,Ie.nil⟩ ?_
 rintro st g w9 ⟨i,sv,kv',L,m,rfl,hi,hx9,hq9,hb9,s9,hO9,hnd,hA⟩;simp only[aG];have hml:m.length=i:=by rw[hA.len,bU];omega
 have hmf:∀p∈m,vV p.2=true:=λp hp=>by
  have h1:=tH ((hA.mem p).1 hp);exact hf _ (by rw[<-hzx];exact kT.2 ⟨p,h1,rfl⟩)
 have hrep9:eR w9 (mkO m) [i64 6,.bool false,str [],sv,kv']:=hO9.rep.rep;have hone:[i64 6,.bool false,str [],sv,kv'].all fG=true:=hrep9.all_one;have hkeys:∀k,k∈m.map (·.1)↔k∈ks.take i:=λk=>by rw[hA.keys,List.map_take,hzk]
 rw[eC,aO];refine⟨λhlt=>?_,λhge=>?_⟩
 ·have hlt:i<ks.length:=by omega
  obtain⟨y,hy⟩:∃y,(ks.zip xs)[i]?=some y:=⟨_,List.getElem?_eq_getElem (by omega)⟩;have hyk:ks[i]?=some y.1:=by rw[<-hzk,List.getElem?_map,hy];rfl
  have hyx:xs[i]?=some y.2:=by rw[<-hzx,List.getElem?_map,hy];rfl
  refine mU (hk.ext hx9) hyk ?_;refine bY hb9 rfl ?_;refine Yk hrep9 rfl (by simp[mkO,JV.ks,JV.xs]) (Vz (by omega) hmf) hA.rise λcs1 w10 hx10 hr10=>?_;simp only[bK];refine⟨_,rfl,_,rfl,?_⟩;refine yE hr10.rep λa12 w12 sv1 kv1 hB12 hx12=>?_;have hx912:=hx10.trans hx12;by_cases hin:y.1∈ks.take i
  ·have hsome:(xX (mkO m) y.1).isSome=true:=by
    cases hg:xX (mkO m) y.1 with
    |some z=>rfl
    |none=>exact absurd ((hkeys y.1).2 hin) (FY.1 hg)
   rw[hsome,dY]
   (try rw[cU])
   refine ends (v:=JV.null) (cs:=flat 0 false []) ?_ ?_ (hx9.trans hx912) (iY (by simp))
   ·unfold AO;rw[aE];rintro⟨_,hn⟩;have h1:(ks.take i++ks.drop i).Nodup:=by rw[kI];exact hn
    rw[eU]at h1;have hd:y.1∈ks.drop i:=by
     rw[cA hlt];have:=(List.getElem?_eq_some_iff.1 hyk).2;rw[this];exact bD
    exact h1.2.2 y.1 hin y.1 hd rfl
   ·rw[hx912.heap q (by omega) id,hq9];exact hbq7.trans hbq.symm
  have hno:y.1∉m.map (·.1):=λe=>hin ((hkeys y.1).1 e);have hnone:(xX (mkO m) y.1).isSome=false:=by rw[FY.2 hno];rfl
  rw[hnone,cX];have hxd:Ext w12 w12.drew:=Chg.drew (Chg.refl (λ_=>False) w12);have hx9d:=hx912.trans hxd;have hbd:=hx9d.at hb9 id;refine bY hbd rfl ?_;refine(hx.ext (hx9.trans hx9d)).at' rfl hyx λcs2 h2=>?_;refine HN y.2 (hf _ (bJ hyx)) h2 λcs3 w16 hx16 h3=>?_;have hx916:=hx9d.trans hx16;refine⟨bY (hx16.at hbd id) rfl rfl,?_⟩;have hO16:=hO9.ext hx916;have s16:=hx16.size;have s9d:=hx9d.size;have hlt9:∀k,sv.ownBlock=some k\/kv'.ownBlock=some k->w7.heap.size<=k/\k<w9.heap.size:=λk hk=>by
   rcases hk with hk|hk
   ·exact⟨(jQ hO9.items hk).1,(jQ hO9.items hk).2.1⟩
   ·exact⟨(jQ hO9.keys hk).1,(jQ hO9.keys hk).2.1⟩
  refine aCM hO16 (h3.mono λk _ hk=>?_) hA.rise hno (by omega) (hkl y.1 (bJ hyk)) (by omega) λsv2 kv2 L2 w17 hc17 hO17=>?_
  ·have hk:w12.drew.heap.size<=k:=hk;exact⟨by omega,λe=>by have:=(hlt9 k (.inl e)).2;omega,λe=>by have:=(hlt9 k (.inr e)).2;omega⟩
  have hb17:=hc17.at (hx16.at hbd id) λe=>by have:=(hlt9 p e).1;omega
  refine cG hb17 rfl rfl hO17.rep.rep.all_one λw18 hz18 hb18 hc18=>?_;rw[cC,up1 (by omega)];have s17:=hc17.size;have et:(ks.zip xs).take (i+1)=(ks.zip xs).take i++[y]:=by rw[dH,hy];rfl
  have ek:ks.take (i+1)=ks.take i++[y.1]:=by rw[dH,hyk];rfl
  refine⟨⟨i+1,sv2,kv2,L2,insP m y.1 y.2,rfl,hlt,?_,?_,hb18,by omega,?_,?_,?_⟩,by simp only[aW];omega⟩
  ·exact(hx9.trans hx916).then hc17 (λk hk e=>by have:=(hlt9 k e).1;have:=hx07.size;omega)|>.new hc18 (by omega)
  ·rw[hc18.heap q (by omega) (λe=>by have e:q=p:=e;omega),hc17.heap q (by omega) (λe=>by have:=(hlt9 q e).1;omega),hx916.heap q (by omega) id,hq9]
  ·exact⟨kL hO17.items hc18 λk hk e=>by have:=(jQ hO17.items hk).1;have e:k=p:=e;omega,cJ.chg hc18 (λk hk _ e=>by have:=hk.1;have e:k=p:=e;omega) hO17.reps,kL hO17.keys hc18 λk hk e=>by have:=(jQ hO17.keys hk).1;have e:k=p:=e;omega,hO17.fits⟩
  ·rw[ek,eU];exact⟨hnd,by simp,λa ha b hb=>by rw[bP]at hb;subst hb;rintro rfl;exact hin ha⟩
  ·rw[et];exact hA.snoc (by rw[List.map_take,hzk];exact hin)
 ·obtain rfl:i=ks.length:=by omega
  rw[dZ (by omega)]at hnd hA;refine bY hb9 rfl ?_;refine ends (v:=AO ks xs) (cs:=[i64 6,.bool false,str [],sv,kv']) rfl ?_ hx9 ?_
  ·rw[hq9];exact hbq7.trans hbq.symm
  have e:AO ks xs=mkO m:=by
   unfold AO;rw[aJ ⟨heq,hnd⟩];exact hA.eq
  rw[e];have s7:=hx07.size;exact hO9.rep.mono λk _ hk=>by have hk:w7.heap.size<=k:=hk;exact⟨by omega,by omega⟩
end
end
section
open Go Go.Eng Go.Num Go.RowKit Go.Syn
variable{w:World}{K:Q0}{cs:List Value}{G:Nat->Prop}{T:TypeId}{i:Nat}{n:Nat}{v:Value}{w':World}{P:Program}{c:UInt8}{S:Nat->Prop}
structure qN(G:Nat->Prop)(w:World)(B:Nat)(sv:Value)(xs:List JV):Prop where
 it:∃L,Own w B VT 5 sv xs.length L/\cJ (λq=>G q/\sv.ownBlock≠some q) w xs L
theorem qN.nil(G:Nat->Prop)(w:World)(B:Nat):qN G w B (.slice none 0 0) []:=⟨[],⟨rfl,.inl ⟨rfl,rfl⟩⟩,by simp[cJ]⟩
theorem qN.chg{B:Nat}{sv:Value}{xs:List JV}(h:qN G w B sv xs)(hc:Chg S w w')(hS:∀k,G k->k<w.heap.size->¬S k)(hB:∀k,B<=k->k<w.heap.size->¬S k):qN G w' B sv xs:=by
 obtain⟨L,h1,h2⟩:=h.it;exact⟨L,kL h1 hc λk hk=>hB k (jQ h1 hk).1 (jQ h1 hk).2.1,cJ.chg hc (λk hk hlt=>hS k hk.1 hlt) h2⟩
theorem qN.ext{B:Nat}{sv:Value}{xs:List JV}(h:qN G w B sv xs)(hx:Ext w w'):qN G w' B sv xs:=h.chg hx (λ_ _ _ e=>e) λ_ _ _ e=>e
theorem qN.one{B:Nat}{sv:Value}{xs:List JV}(h:qN G w B sv xs):fG sv=true:=by obtain⟨L,h1,_⟩:=h.it;exact wJ h1
theorem qN.inb{B k:Nat}{sv:Value}{xs:List JV}(h:qN G w B sv xs)(hk:sv.ownBlock=some k):B<=k/\k<w.heap.size:=by obtain⟨L,h1,_⟩:=h.it;exact⟨(jQ h1 hk).1,(jQ h1 hk).2.1⟩
theorem qN.items{B:Nat}{sv:Value}{xs:List JV}(h:qN G w B sv xs)(hG:∀k,B<=k->G k)(hl:xs.length<=9223372036854775807):jN G w sv xs:=by
 obtain⟨L,h1,h2⟩:=h.it;exact⟨⟨VT,L,h1.sl,h2.mono λk _ hk=>hk.1,λ_ k hk=>hG k (jQ h1 hk).1⟩,hl⟩
theorem qN.app{B:Nat}{sv t:Value}{xs:List JV}{x:JV}{K:Q0}(h:qN G w B sv xs)(ht:SlAt w T t 1 cs)(hx:cL (λq=>G q/\sv.ownBlock≠some q) w x cs)(hB:B<=w.heap.size)(hl:xs.length<=1000000)
  (hK:∀sv' w',qN G w' B sv' (xs++[x])->Chg (λk=>sv.ownBlock=some k) w w'->K sv' w'):dF P0 (Builtin.append_ #[23,23] 23 #[sv,t]) w K:=by
 obtain⟨L,h1,h2⟩:=h.it;refine jO HJ h1 ht (m:=1) (by rw[hx.rep.len]) hx.rep.one (by omega) (by omega) hB λv' w' h' hc hb=>?_;refine hK v' w' ⟨L++cs,by simpa using h',?_⟩ hc;have h3:cJ (λq=>(G q/\sv.ownBlock≠some q)/\q<w.heap.size) w (xs++[x]) (L++cs):=(h2.snoc hx).mono λk hlt hk=>⟨hk,hlt⟩;refine(cJ.chg hc (λk hk _ e=>hk.1.2 e) h3).mono λk _ hk=>⟨hk.1.1,λe=>?_⟩;rcases hb k e with e|e
 ·exact hk.1.2 e
 ·have:=hk.2;omega
theorem jN.mono{G':Nat->Prop}{sv:Value}{xs:List JV}(hG:∀k,k<w.heap.size->G k->G' k)(h:jN G w sv xs):jN G' w sv xs:=
 ⟨let⟨T,L,h1,h2,h3⟩:=h.it;⟨T,L,h1,h2.mono hG,λhne k hk=>hG k (GM h1 hne k hk) (h3 hne k hk)⟩,h.few⟩
theorem jN.list{sv:Value}{xs:List JV}(h:jN G w sv xs):cL G w (lV xs) [i64 5,.bool false,str [],sv,.slice none 0 0]:=
 let⟨_,_,h1,h2,h3⟩:=h.it
 cL.mk (v:=lV xs) h1 h2 (SlAt.nil w ST) ⟨h.few,by simp[lV,JV.ks],by simp[lV,JV.t],λs hs=>by simp[lV,JV.ks]at hs⟩ h3 λe=>absurd rfl e
theorem VE:∀(v:JV) {m:Nat},qM v m=true->qM v (m+1)=true:=by
 intro v;induction v using JV.ind' with
 |h v ih=>
  intro m h;cases m with
  |zero=>rw[sW]at h;cases h
  |succ m=>
   rw[oC,oL,bW]at h⊢;exactλx hx=>ih x hx (h x hx)
theorem Ed{v x:JV}(h:fA v=true)(hx:x∈v.xs):fA x=true:=by
 have hp:=((sR h).item hx).plain;simp only[fA,aL,bA]at h⊢;have hd:=h.1.2;have hs:=h.1.1;rw[show(24:Nat)=23+1 from rfl,oC,oL]at hd;rw[vD]at hs;exact⟨⟨(wE (m:=23) (by omega) v.xs 1 hd (by omega) hs).2 x hx,VE x (bW.1 hd x hx)⟩,hp⟩
theorem mR{K:Q0}(hl:cs.length=5)(h1:cs.all fG=true)(hK:∀b w',b=w.heap.size->w'.heap.size=w.heap.size+1->w'.heap[b]?=some (.cells cs.toArray VT (0,0))->Ext w w'->K (.pointer (some ⟨b,0,none⟩)) w'):
  bN VT zr5 w λt w1=>stW 5 t (.agg cs.toArray) w1 λw2=>K t w2:=by
 refine bF λb w1 hb hz hbb hx=>?_;refine cG hbb hl rfl h1 λw2 hz2 hb2 hc2=>?_;exact hK b w2 hb (by omega) hb2 (hx.new hc2 (by omega))
section
variable [HX]
theorem LV{t:Str}{a:Int}{v:JV}{ec:List Value}{w0:World}{K:Q0}(he:AtC t a ec)(h:cL G w v cs)(hg:fA v=true)(h0:Ext w0 w)(hG:∀q,w.heap.size<=q->G q)(hK:MdK w0 (sZ t a v) G w K):
  aC P0 91 [.agg ec.toArray,.agg cs.toArray] w K:=by
 have hgv:=sR hg;have hlens:=hgv.lens;refine aBp ?_;unfold W91;refine LU he λb2 w1 k va vk hec hb2 hz1 hbb2 hx1=>?_;have h1:cL G w1 v cs:=h.ext' hx1;refine Bc h1 λb3 w2 sv kv hcs hb3 hz2 hbb3 hx2=>?_;subst hcs;refine bF λb4 w3 hb4 hz3 hbb4 hx3=>?_;have hx03:=hx1.trans (hx2.trans hx3);refine bY (hx3.at hbb3 id) rfl ?_;refine uU (h.ext' hx03).rep λw4 hx4 hz4=>?_;have hx34:=hx3.trans hx4;have hx04:=hx03.trans hx4;have hb34:=hx34.at hbb3 id;have hb24:=(hx2.trans hx34).at hbb2 id;have hb44:=hx4.at hbb4 id;rw[aO];refine⟨λk1=>?_,λk1=>?_⟩
 ·have hr:sZ t a v=.ok v:=by unfold sZ;rw[aJ k1]
  refine bY hb34 rfl ?_;exact zX hb44 rfl (by omega) hx04 ((h.off (by omega)).ext' hx04) λw' hx' h'=>hK.ok hr _ w' hx' h'
 refine bS.cut (λst w'=>w'=w4/\v.k=6) ?_ ?_
 ·refine eG (off:=0) hb34 rfl ?_;rw[fT,aO];refine⟨λk6=>?_,λk6=>⟨rfl,by omega⟩⟩;have hr:sZ t a v=.err 81 a:=by unfold sZ;rw[aE k1,aJ k6]
  refine eG (off:=4) hb24 rfl ?_;exact kM (h0.trans hx04) (hK.err hr)
 rintro st g w9 ⟨rfl,k6⟩;refine bY hb34 rfl ?_;refine eG (off:=1) hb24 rfl ?_;refine Yk (h.ext' hx04).rep k6 (hlens.2.2.1 k6) hgv.few (Cj hlens.2.2.2.1) λcs1 w10 hx10 h10=>?_;simp only[bK];refine⟨_,rfl,_,rfl,?_⟩;refine mR h10.rep.len h10.rep.all_one λb11 w12 hb11 hz11 hbb11 hx11=>?_;have hx12:=hx10.trans hx11;have hx012:=hx04.trans hx12;refine bS.cut (λst w'=>w'=w12/\∃x,xX v t=some x) ?_ ?_
 ·rw[eM,bT];cases hgt:xX v t with
  |some x=>exact⟨λe=>by simp at e,λ_=>⟨rfl,x,rfl⟩⟩
  |none=>
   refine⟨λ_=>?_,λe=>by simp at e⟩;have hr:sZ t a v=.err 82 a:=by unfold sZ;rw[aE k1,aE (λe=>e k6),hgt]
   refine eG (off:=4) (hx12.at hb24 id) rfl ?_;exact kM (h0.trans hx012) (hK.err hr)
 rintro st g2 w15 ⟨rfl,x,hx⟩;have hr:sZ t a v=.ok x:=by unfold sZ;rw[aE k1,aE (λe=>e k6),hx]
 rw[hx]at h10;refine bY hbb11 h10.rep.len ?_;have s4:=hx04.size;have hlt:=fJ hb44;refine zX (hx12.at hb44 id) rfl (by omega) hx012 ?_ λw' hx' h'=>hK.ok hr _ w' hx' h';exact(h10.ext' hx11).mono λq _ hq=>by have hq:w9.heap.size<=q:=hq;exact⟨hG q (by omega),by omega⟩
theorem SA{t:Str}{a:Int}{v:JV}{ec:List Value}{w0:World}{K:Q0}(he:AtC t a ec)(h:cL G w v cs)(hg:fA v=true)(h0:Ext w0 w)(hG:∀q,w.heap.size<=q->G q)(hK:MdK w0 (uK t a v) G w K):
  aC P0 92 [.agg ec.toArray,.agg cs.toArray] w K:=by
 have hgv:=sR hg;have hlens:=hgv.lens;refine aBo ?_;unfold W92;refine LU he λb2 w1 k va vk hec hb2 hz1 hbb2 hx1=>?_;have he':AtC t a [i64 k,str t,va,vk,i64 a]:=hec▸he;refine Bc (h.ext' hx1) λb3 w2 sv kv hcs hb3 hz2 hbb3 hx2=>?_;subst hcs;refine bF λb4 w3 hb4 hz3 hbb4 hx3=>?_;have hx03:=hx1.trans (hx2.trans hx3);refine bY (hx3.at hbb3 id) rfl ?_;refine uU (h.ext' hx03).rep λw4 hx4 hz4=>?_;have hx34:=hx3.trans hx4;have hx04:=hx03.trans hx4;have hb34:=hx34.at hbb3 id;have hb24:=(hx2.trans hx34).at hbb2 id;have hb44:=hx4.at hbb4 id;rw[aO];refine⟨λk1=>?_,λk1=>?_⟩
 ·have hr:uK t a v=.ok v:=by unfold uK;rw[aJ k1]
  refine bY hb34 rfl ?_;exact zX hb44 rfl (by omega) hx04 ((h.off (by omega)).ext' hx04) λw' hx' h'=>hK.ok hr _ w' hx' h'
 refine bS.cut (λst w'=>w'=w4/\v.k=5) ?_ ?_
 ·refine eG (off:=0) hb34 rfl ?_;rw[fT,aO];refine⟨λk6=>?_,λk6=>⟨rfl,by omega⟩⟩;have hr:uK t a v=.err 81 a:=by unfold uK;rw[aE k1,aJ k6]
  refine eG (off:=4) hb24 rfl ?_;exact kM (h0.trans hx04) (hK.err hr)
 rintro st g w9 ⟨rfl,k5⟩;have hr0:uK t a v=(uO t a v.xs).bind λxs=>.ok (lV xs):=by unfold uK;rw[aE k1,aE (λe=>e k5)]
 simp only[dD,cU,aB,aM,aY];refine⟨by omega,?_⟩;refine mR (cs:=[i64 5,.bool false,str [],.slice none 0 0,.slice none 0 0]) rfl rfl λb5 w12 hb5 hz12 hbb5 hx12=>?_;have hx012:=hx04.trans hx12;refine eG (off:=3) (hx12.at hb34 id) rfl ?_;have hI:jN (λq=>G q/\q<w.heap.size) w sv v.xs:=h.its.mono λq hlt hq=>⟨hq,hlt⟩;rw[(hI.items).len];have s04:=hx04.size;have s12:=hx12.size;have hl4:=fJ hb44;have hl5:=fJ hbb5;refine cZ.go (λst w'=>∃(i:Nat) (rv:Value) (rs:List JV),st=[i64 (i:Nat)]/\i<=v.xs.length/\rs.length=i/\Ext w w'/\w12.heap.size<=w'.heap.size/\w'.heap[b2]?=w12.heap[b2]?/\w'.heap[b4]?=w12.heap[b4]?/\w'.heap[b5]?=some (.cells [i64 5,.bool false,str [],rv,.slice none 0 0].toArray VT (0,0))/\
   qN (λq=>G q/\q≠b4/\q≠b5) w' (b5+1) rv rs/\uO t a v.xs=(uO t a (v.xs.drop i)).bind λys=>.ok (rs++ys))
  (λst _=>match st with|[.int _ i]=>v.xs.length-i.toNat|_=>0)
  ⟨0,.slice none 0 0,[],rfl,gA _,rfl,hx012,aS _,rfl,rfl,hbb5,qN.nil _ _ _,by rw[cV];cases uO t a v.xs<;>rfl⟩ ?_
 rintro st g2 w14 ⟨i,rv,rs,rfl,hi,hrl,hx14,s14,hq2,hq4,hq5,hR,hat⟩;simp only[aG];rw[eC,aO];have hb24':w14.heap[b2]?=some (.cells [i64 k,str t,va,vk,i64 a].toArray 93 (0,0)):=by rw[hq2];exact hx12.at hb24 id
 refine⟨λhlt=>?_,λhge=>?_⟩
 ·have hlt:i<v.xs.length:=by omega
  obtain⟨x,hxi⟩:∃x,v.xs[i]?=some x:=⟨_,List.getElem?_eq_getElem hlt⟩;have hgx:fA x=true:=Ed hg (bJ hxi);have hdr:v.xs.drop i=x::v.xs.drop (i+1):=by rw[cA hlt];congr 1;exact(List.getElem?_eq_some_iff.1 hxi).2
  refine(hI.ext hx14).get hxi λds hds=>?_;refine mR hds.rep.len hds.rep.all_one λb7 w16 hb7 hz16 hbb7 hx16=>?_;have hxd:Ext w16 w16.drew:=Chg.drew (Chg.refl (λ_=>False) w16);have hx16d:=hx16.trans hxd;have hx016:=hx14.trans hx16d;refine eG (off:=3) (hx16d.at hq5 id) rfl ?_;refine bY (hx16d.at hb24' id) rfl ?_;refine bY (hxd.at hbb7 id) hds.rep.len ?_;have hR16:=hR.ext hx16d;have s16:w16.drew.heap.size=w14.heap.size+1:=by show w16.heap.size=_;omega
  have hds16:=hds.ext' hx16d;refine LV (G:=λq=>(G q/\q≠b4/\q≠b5)/\rv.ownBlock≠some q) (w0:=w0) he' (hds16.mono λq hlt hq=>?_) hgx (h0.trans hx016) (λq hq=>?_) ?_
  ·exact⟨⟨hq.1,by have:=hq.2;omega,by have:=hq.2;omega⟩,λe=>by have:=(hR.inb e).1;have:=hq.2;omega⟩
  ·exact⟨⟨hG q (by omega),by omega,by omega⟩,λe=>by have:=(hR.inb e).2;omega⟩
  cases ha:sZ t a x with
  |err c p=>
   have hr:uK t a v=.err c p:=by
    rw[hr0,hat,hdr];simp only[uO,ha,MdR.bind]
   exact hK.err hr
  |ok y=>
   intro es w17 hx17 h17;have hx1417:=hx16d.trans hx17;have hq517:=hx1417.at hq5 id;refine⟨eG (off:=3) hq517 rfl rfl,?_⟩;refine Cf h17.rep.len λt30 w18 ht30 hx18=>?_;have hq518:=hx18.at hq517 id;refine⟨eG (off:=3) hq518 rfl rfl,?_⟩;have hx1418:=hx1417.trans hx18;have s18:=hx1418.size;refine(hR.ext hx1418).app ht30 (h17.ext' hx18) (by omega) (by omega) λrv' w19 hR19 hc19=>?_;have hne:∀q,rv.ownBlock=some q->b5+1<=q/\q<w14.heap.size:=λq e=>hR.inb e;have s19:=hc19.size;rw[bR];refine iU (off:=3) (hc19.at hq518 λe=>by have:=(hne b5 e).1;omega) hR19.one (by simp) λw20 hz20 hb20 hc20=>?_;rw[cC,up1 (by omega)];refine⟨⟨i+1,rv',rs++[y],rfl,hlt,by simp[hrl],?_,by omega,?_,?_,?_,?_,?_⟩,by simp only[aW];omega⟩
   ·exact((hx14.trans hx1418).then hc19 λq hq e=>by have:=(hne q e).1;omega).new hc20 (show w.heap.size<=b5 by omega)
   ·rw[hc20.heap b2 (by omega) (λe=>by have e:b2=b5:=e;omega),hc19.heap b2 (by omega) (λe=>by have:=(hne b2 e).1;omega),hx1418.heap b2 (by omega) id,hq2]
   ·rw[hc20.heap b4 (by omega) (λe=>by have e:b4=b5:=e;omega),hc19.heap b4 (by omega) (λe=>by have:=(hne b4 e).1;omega),hx1418.heap b4 (by omega) id,hq4]
   ·rw[hb20];simp
   ·exact hR19.chg hc20 (λq hq _ e=>hq.2.2 e) λq hq _ e=>by have e:q=b5:=e;omega
   ·rw[hat,hdr];simp only[uO,ha,MdR.bind];cases uO t a (v.xs.drop (i+1))<;>simp
 ·obtain rfl:i=v.xs.length:=by omega
  have hr:uK t a v=.ok (lV rs):=by
   rw[hr0,hat,dR];simp[uO,MdR.bind]
  refine bY hq5 rfl ?_;have hnew:∀q,b5+1<=q->G q/\q≠b4/\q≠b5:=λq hq=>⟨hG q (by omega),by omega,by omega⟩;have hRI:jN (λq=>G q/\q≠b4) w14 rv rs:=(hR.items hnew (by omega)).mono λq _ hq=>⟨hq.1,hq.2.1⟩;refine zX (v:=lV rs) (cs:=[i64 5,.bool false,str [],rv,.slice none 0 0]) (by rw[hq4];exact hx12.at hb44 id) rfl (by omega) hx14 hRI.list λw' hx' h'=>hK.ok hr _ w' hx' h'
end
section
variable [HX]
theorem oU{w0:World}{b:Nat}{ds:List Value}{k:Int}{s:Bool}{t:Str}{K:Q0}(hb:w.heap[b]?=some (.cells ds.toArray VT (0,0)))(hd:ds.length=5)(hl:w0.heap.size<=b)(hx:Ext w0 w)(ht:t.length<=9223372036854775807)
  (hK:∀w',Ext w0 w'->cL G w' (.mk k s t [] []) (flat k s t)->K (.agg (flat k s t).toArray) w'):stW 5 (.pointer (some ⟨b,0,none⟩)) (.agg (flat k s t).toArray) w λw5=>ldW true 5 (.pointer (some ⟨b,0,none⟩)) w5 λr6=>K r6 w5:=
 zX (G:=G) (v:=.mk k s t [] []) hb hd hl hx (iY ht) hK
theorem aBa{k:Int}{t:Str}{a:Int}{x y:JV}{va vk:Value}{ds:List Value}{w0:World}{K:Q0}(o1:fG va=true)(o2:fG vk=true)(hx:cL G w x cs)(hy:cL G w y ds)(h0:Ext w0 w)(hK:MdK w0 (Gs (decide (k=27)) a x y) G w K):
  aC P0 99 [.agg [i64 k,str t,va,vk,i64 a].toArray,.agg cs.toArray,.agg ds.toArray] w K:=by
 refine aBh ?_;unfold W99;refine fS (z:=[i64 k,str t,va,vk,i64 a]) λb3 w1 hb3 hz1 hbb3 hx1=>?_;refine Bc (hx.ext' hx1) λb4 w2 sv kv hcs hb4 hz2 hbb4 hx2=>?_;subst hcs;refine Bc (hy.ext' (hx1.trans hx2)) λb5 w3 sv' kv' hds hb5 hz3 hbb5 hx3=>?_;subst hds;refine bF λb6 w4 hb6 hz4 hbb6 hx4=>?_;have hx04:=hx1.trans (hx2.trans (hx3.trans hx4));have hb34:=(hx2.trans (hx3.trans hx4)).at hbb3 id;have hb44:=(hx3.trans hx4).at hbb4 id;have hb54:=hx4.at hbb5 id;have hx':=hx.ext' hx04;have hy':=hy.ext' hx04;clear hx hy;refine bS.cut (λst w'=>Ext w4 w'/\gK 2 x=true/\gK 2 y=true) ?_ ?_
 ·refine bY hb44 rfl ?_;refine bY hb54 rfl ?_;refine Hq hx'.rep hy'.rep λtt w6 hI6 hx6 _=>?_;refine LC hI6 λw7 hx7=>?_;have e:[x,y].all (gK 2)=(gK 2 x&&gK 2 y):=by simp
  rw[e,eM,bT];refine⟨λh=>?_,λh=>?_⟩
  ·have hr:Gs (decide (k=27)) a x y=.err 81 a:=by unfold Gs;rw[aE (λe=>by rw[e]at h;cases h)]
   refine eG (off:=4) ((hx6.trans hx7).at hb34 id) rfl ?_;exact kM (h0.trans (hx04.trans (hx6.trans hx7))) (hK.err hr)
  ·have h:(gK 2 x&&gK 2 y)=true:=by cases hq:(gK 2 x&&gK 2 y)<;>simp[hq]at h⊢
   rw[aL]at h;exact⟨hx6.trans hx7,h.1,h.2⟩
 rintro st g w9 ⟨hx9,f1,f2⟩;have hm:Gs (decide (k=27)) a x y=if(x.k≠1/\x.b=decide (k=27))\/(y.k≠1/\y.b=decide (k=27))then .ok (bV (decide (k=27)))else if x.k=1\/y.k=1 then .ok uV else .ok (bV (!decide (k=27))):=by
  unfold Gs;rw[aJ (by rw[f1,f2];rfl)]
 rw[hm]at hK;refine eG (off:=0) (hx9.at hb34 id) rfl ?_;rw[bM];generalize hor:decide (k=27)=or at*
 refine bY (hx9.at hb44 id) rfl ?_;refine bY (hx9.at hb54 id) rfl ?_;refine Hq (hx'.ext' hx9).rep (hy'.ext' hx9).rep λtt w10 hI10 hx10 _=>?_;rw[hI10.len];have hx410:=hx9.trans hx10;have hx010:=hx04.trans hx410;refine cZ.go (λst w'=>∃i:Nat,st=[i64 (i:Nat)]/\i<=2/\Ext w10 w'/\∀j z,j<i->[x,y][j]?=some z->¬(z.k≠1/\z.b=or)) (λst _=>match st with|[.int _ i]=>2-i.toNat|_=>0) ⟨0,rfl,by omega,Chg.refl _ _,λj z hj=>by omega⟩ ?_;rintro st g2 w12 ⟨i,rfl,hi,hx12,hno⟩;simp only[aG];have hx412:=hx410.trans hx12;have hx012:=hx04.trans hx412;have hl6:=fJ hbb6;have ends:∀{z:JV} {k':Int} {s:Bool} {w':World},z=.mk k' s [] [] []->Ext w12 w'->(if(x.k≠1/\x.b=or)\/(y.k≠1/\y.b=or)then MdR.ok (bV or)else if x.k=1\/y.k=1 then .ok uV else .ok (bV (!or)))=.ok z->
   stW 5 (.pointer (some ⟨b6,0,none⟩)) (.agg (flat k' s []).toArray) w' λw5=>ldW true 5 (.pointer (some ⟨b6,0,none⟩)) w5 λr6=>K r6 w5:=λ{z k' s w'} hz hxx hr=>by
  subst hz;have hx0':=hx012.trans hxx;refine oU (G:=G) ((hx412.trans hxx).at hbb6 id) rfl (by omega) hx0' (by simp) λw'' hx'' h''=>hK.ok hr _ w'' hx'' h''
 rw[show([x,y].length:Nat)=2 from rfl,eC,aO];refine⟨λhlt=>?_,λhge=>?_⟩
 ·have hlt:i<2:=by omega
  obtain⟨z,hz⟩:∃z,[x,y][i]?=some z:=⟨_,List.getElem?_eq_getElem hlt⟩;refine(hI10.ext hx12).at hz λes hes=>?_;refine mR hes.len hes.all_one λb9 w14 hb9 hz14 hbb9 hx14=>?_;obtain⟨sv9,kv9,_,_,_,rfl,_⟩:=hes.out;refine bY hbb9 rfl ?_;refine uU (hes.ext hx14) λw15 hx15 _=>?_;rw[eM];have hb915:=hx15.at hbb9 id;refine GdW.look (decide (z.b=or)) (λ_ J hJ=>?_) λg3=>?_
  ·refine eG (off:=1) hb915 rfl ?_;have:∀K:Value->Prop,K (.bool (decide (z.b=or)))->eqW .bool false (.bool z.b) (.bool or) K:=λK h=>by
    cases hb:z.b<;>cases or<;>simp[hb]at h⊢<;>exact h
   exact this _ hJ
  simp only[aG,iD];rw[fC,bT];refine⟨λhyes=>?_,λhn=>?_⟩
  ·simp only[aL,dQ,decide_eq_false_iff_not,bA]at hyes;refine pA λw18 hx18=>?_;refine ends (z:=bV or) rfl (hx14.trans (hx15.trans hx18)) ?_;rw[aJ]
   match i,hlt,hz with
   |0,_,hz=>cases hz;exact .inl hyes
   |1,_,hz=>cases hz;exact .inr hyes
  ·rw[cC,up1 (by omega)];refine⟨⟨i+1,rfl,hlt,hx12.trans (hx14.trans hx15),λj u hj hu=>?_⟩,by simp only[aW];omega⟩;by_cases hji:j<i
   ·exact hno j u hji hu
   ·obtain rfl:j=i:=by omega
    rw[hz]at hu;cases hu;rintro⟨h1,h2⟩;simp[h1,h2]at hn
 ·obtain rfl:i=2:=by omega
  have n1:=hno 0 x (by omega) rfl;have n2:=hno 1 y (by omega) rfl;refine bY (hx412.at hb44 id) rfl ?_;refine uU (hx'.ext' hx412).rep λw21 hx21 _=>?_;have hx421:=hx412.trans hx21;simp only[lP];refine GdW.act (decide (y.k=1)) (λw'=>Ext w21 w') (λ_=>Chg.refl _ _) (λ_ J hJ=>?_) λg3 w24 hx24=>?_
  ·refine bY (hx421.at hb54 id) rfl ?_;exact uU (hy'.ext' hx421).rep λw23 hx23 _=>hJ w23 hx23
  simp only[aG];rw[fN,bT];refine⟨λhyes=>?_,λhn=>?_⟩
  ·simp only[cM,bA]at hyes;refine rT λw25 hx25=>?_;refine ends (z:=uV) rfl (hx21.trans (hx24.trans hx25)) ?_;rw[aE (λe=>e.elim n1 n2),aJ hyes]
  ·simp only[kY,decide_eq_false_iff_not]at hn;rw[eM];refine pA λw25 hx25=>?_;refine ends (z:=bV (!or)) rfl (hx21.trans (hx24.trans hx25)) ?_;rw[aE (λe=>e.elim n1 n2),aE (λe=>e.elim hn.1 hn.2)]
end
end
end Go.Proofs.YtghhmpppnmoeoaaGreatDoor
namespace Go.Num
section
open Go Go.Eng
variable{w:World}{K:Q0}{cs:List Value}{G:Nat->Prop}{T:TypeId}{i:Nat}{n:Nat}{v:Value}{w':World}{P:Program}{c:UInt8}{S:Nat->Prop}
theorem BO:∀(n u:Nat),u<n->(Lib.decDigits u).all isDig=true/\(Lib.decDigits u)≠[]/\((Lib.decDigits u).head?=some 48->u=0):=by
 intro n;induction n with
 |zero=>intro u h;omega
 |succ n ih=>
  intro u h;rw[Lib.decDigits];have hd:∀k,k<10->isDig (UInt8.ofNat (48+k))=true:=by
   intro k hk;have:∀k:Fin 10,isDig (UInt8.ofNat (48+k.val))=true:=by decide
   exact this ⟨k,hk⟩
  split
  ·rename_i h10;refine⟨by rw[gJ,hd u h10];rfl,by simp,λe=>?_⟩;have:∀k:Fin 10,([UInt8.ofNat (48+k.val)].head?=some 48)->k.val=0:=by decide
   exact this ⟨u,h10⟩ e
  ·have hi:=ih (u/10) (by omega);refine⟨by rw[CE,hi.1,gJ,hd (u%10) (by omega)];rfl,by simp,λe=>?_⟩;have e:(Lib.decDigits (u/10)).head?=some 48:=by
    cases hq:Lib.decDigits (u/10)with
    |nil=>exact absurd hq hi.2.1
    |cons x y=>rw[hq]at e;simpa using e
   have:=hi.2.2 e;omega
theorem HL:∀(n u:Nat),u<n->dec (Lib.decDigits u)=u:=by
 intro n;induction n with
 |zero=>intro u h;omega
 |succ n ih=>
  intro u h;have hv:∀k,k<10->dval (UInt8.ofNat (48+k))=k:=λk hk=>by
   have:∀k:Fin 10,dval (UInt8.ofNat (48+k.val))=k.val:=by decide
   exact this ⟨k,hk⟩
  rw[Lib.decDigits];split
  ·rename_i h10;show 0*10+dval (UInt8.ofNat (48+u))=u;rw[hv u h10];omega
  ·rw[wR,ih (u/10) (by omega)];simp only[List.length_singleton,dec,List.foldl_cons,List.foldl_nil,hv (u%10) (by omega)];omega
theorem yD:∀(k u:Nat),u<10^k->1<=k->(Lib.decDigits u).length<=k:=by
 intro k;induction k with
 |zero=>intro u _ h;omega
 |succ k ih=>
  intro u h _;rw[Lib.decDigits];split
  ·simp
  ·have:=ih (u/10) (by rw[qP]at h;omega) (by
    rcases nB k with rfl|h0
    ·simp at h;omega
    ·exact h0)
   rw[aX,List.length_singleton];omega
theorem aC9{s:Str}(h:s.all isDig=true)(h0:s.head?=some 48->s=[48])(hne:s≠[]):Lib.decDigits (dec s)=s:=by
 obtain⟨a1,a2,a3⟩:=BO _ (dec s) (eA _);refine MO a1 h (λe=>?_) h0 a2 hne (HL _ _ (eA _));have:=a3 e;rw[this,Lib.decDigits,dif_pos (by omega)];rfl
theorem MP:Lib.decDigits 0=[48]:=by rw[Lib.decDigits,dif_pos (by omega)];rfl
theorem Gl:∀n:Nat,dec (List.replicate n (48:UInt8))=0
 |0=>rfl
 |n+1=>by rw[CS,vY,Gl n];simp[dval]
def KZ(x:Nat):Str:=List.replicate (9-(Lib.decDigits x).length) 48++Lib.decDigits x
theorem Bw{x:Nat}(h:x<1000000000):(KZ x).length=9/\dec (KZ x)=x/\(KZ x).all isDig=true:=by
 have hl:=yD 9 x h (by omega);obtain⟨a1,a2,a3⟩:=BO _ x (eA _);unfold KZ;refine⟨by rw[aX,List.length_replicate];omega,?_,?_⟩
 ·rw[wR,Gl,HL _ x (eA _)];omega
 ·rw[CE,a1,kV,bW];intro c hc;obtain rfl:=List.eq_of_mem_replicate hc;decide
def lJ:List Nat->Str
 |[]=>[]
 |x::r=>if r=[]then Lib.decDigits x else lJ r++KZ x
theorem EX(x:Nat):lJ [x]=Lib.decDigits x:=by simp[lJ]
theorem De{x:Nat}{r:List Nat}(h:r≠[]):lJ (x::r)=lJ r++KZ x:=by rw[lJ,aE h]
theorem Dd:∀{l:List Nat},Lim l->Top l->l≠[]->(lJ l).all isDig=true/\dec (lJ l)=val l/\lJ l≠[]/\(lJ l).head?≠some 48
 |[],_,_,h=>absurd rfl h
 |[x],hl,ht,_=>by
  have hx:x≠0:=by have:=ht (by simp);simpa using this
  obtain⟨a1,a2,a3⟩:=BO _ x (eA _)
  rw[EX]
  exact⟨a1,by rw[HL _ x (eA _)];simp[val],a2,λe=>hx (a3 e)⟩
 |x::y::r,hl,ht,_=>by
  obtain⟨b1,b2,b3,b4⟩:=Dd (l:=y::r) (λz hz=>hl z (aU _ hz)) (λh=>by have:=ht (by simp);simpa using this) (by simp)
  obtain⟨p1,p2,p3⟩:=Bw (hl x (by simp))
  rw[De (by simp)]
  refine⟨by rw[CE,b1,p3];rfl,?_,by simp[b3],?_⟩
  ·rw[wR,p1,p2,b2]
   show _=x+1000000000*val (y::r)
   omega
  ·cases hq:lJ (y::r)with
   |nil=>exact absurd hq b3
   |cons c d=>rw[hq]at b4;simpa using b4
theorem Fa{l:List Nat}(h:Lim l)(ht:Top l)(hne:l≠[]):lJ l=Lib.decDigits (val l):=by
 obtain⟨a,b,c,d⟩:=Dd h ht hne;rw[<-b,aC9 a (λe=>absurd e d) c]
theorem EY:∀(l:List Nat),Lim l->(lJ l).length<=9*l.length
 |[],_=>by simp[lJ]
 |x::r,hl=>by
  have hx:=hl x (by simp)
  unfold lJ
  split
  ·have:=yD 9 x hx (by omega);simp only[aB];omega
  ·have:=EY r λz hz=>hl z (aU _ hz)
   have:=(Bw hx).1
   rw[aX,aB];omega
theorem ok_int{z:Big}(h:z.Ok):(z.l=[]/\z.int=0)\/(z.l≠[]/\z.int≠0/\val z.l≠0/\Lib.itoa z.int=(if z.below=true then [45]else [])++lJ z.l):=by
 obtain⟨h1,h2,h3⟩:=h;by_cases he:z.l=[]
 ·exact .inl ⟨he,by unfold Big.int;rw[he];simp[val]⟩
 ·have hv:val z.l≠0:=λe=>he ((CZ h2).1 e);refine .inr ⟨he,?_,hv,?_⟩
  ·unfold Big.int;split<;>omega
  ·rw[Fa h1 h2 he];unfold Lib.itoa Big.int;cases z.below with
   |true=>simp only[gM];rw[aJ (by omega)];simp
   |false=>simp only[fH,kH];rw[aE (by omega)];simp
theorem yA(n:Int):dig (Lib.itoa n)=Lib.decDigits n.natAbs:=by
 unfold Lib.itoa;split
 ·simp[dig]
 ·rename_i h;have e:n.toNat=n.natAbs:=by omega
  rw[e];obtain⟨a1,a2,a3⟩:=BO _ n.natAbs (eA _);cases hq:Lib.decDigits n.natAbs with
  |nil=>exact absurd hq a2
  |cons c d=>
   have hc:c≠45:=by
    rintro rfl;rw[hq]at a1;simp[isDig]at a1
   simp[dig,hc]
theorem Qe(n:Int):neg (Lib.itoa n)=decide (n<0):=by
 unfold Lib.itoa;split
 ·rename_i h;simp[neg,h]
 ·rename_i h;obtain⟨a1,a2,a3⟩:=BO _ n.toNat (eA _);cases hq:Lib.decDigits n.toNat with
  |nil=>exact absurd hq a2
  |cons c d=>
   have hc:c≠45:=by
    rintro rfl;rw[hq]at a1;simp[isDig]at a1
   simp[neg,hc,h]
theorem FD(n:Int):num (Lib.itoa n)=n:=by
 unfold num;rw[yA,Qe,HL _ _ (eA _)];by_cases h:n<0
 ·simp[h];omega
 ·simp[h];omega
theorem Ec{n:Int}(h:n.natAbs<10^100):goodN (Lib.itoa n)=true:=by
 obtain⟨a1,a2,a3⟩:=BO _ n.natAbs (eA _);have hl:=yD 100 n.natAbs h (by omega);have hp:=dP.2 a2;unfold goodN;rw[yA,a1,bI (by omega),bI hl];simp only[iO,kV,cM,dQ,bA,beq_eq_false_iff_ne,bL];by_cases h0:(Lib.decDigits n.natAbs).head?=some 48
 ·right;have:=a3 h0;have hn:n=0:=by omega
  subst hn;unfold Lib.itoa;rw[aE (by omega)];exact MP
 ·exact .inl h0
theorem Bz{a:Str}(h:goodN a=true):(num a).natAbs<10^100:=by
 obtain⟨g1,g2,g3,g4⟩:=jD h;have:=BN g4;have:=jM (n:=10) (by omega) g2;unfold num;split<;>omega
theorem NT{a:Str}(h:goodN a=true):Lib.itoa (num a)=a:=Mo (Ec (Bz h)) h (FD _)
theorem Sj(n:Nat):val (List.replicate n 0)=0:=by
 induction n with
 |zero=>rfl
 |succ n ih=>rw[CS,val,ih]
theorem LY:∀(l:List Nat) (i x:Nat),i<l.length->val (l.set i x)+l.getD i 0*1000000000^i=val l+x*1000000000^i
 |[],i,x,h=>by simp at h
 |a::l,0,x,_=>by simp[val];omega
 |a::l,i+1,x,h=>by
  have ih:=LY l i x (by simpa using h)
  simp only[bB,val,dE,qP]
  have e1:l.getD i 0*(1000000000^i*1000000000)=1000000000*(l.getD i 0*1000000000^i):=by rw[<-Nat.mul_assoc,mE 1000000000]
  have e2:x*(1000000000^i*1000000000)=1000000000*(x*1000000000^i):=by rw[<-Nat.mul_assoc,mE 1000000000]
  rw[e1,e2]
  omega
theorem Vb{l:List Nat}{x:Nat}(h:Lim l)(hx:x<1000000000):Lim (l.set i x):=λz hz=>by
 rcases List.mem_or_eq_of_mem_set hz with h1|rfl
 ·exact h z h1
 ·exact hx
theorem uH{l:List Nat}(h:i<l.length):val (l.take (i+1))=val (l.take i)+l.getD i 0*1000000000^i:=by
 rw[List.take_succ,List.getElem?_eq_getElem h,GJ,bU,kA (by omega)];simp[val,List.getD_eq_getElem?_getD,List.getElem?_eq_getElem h,mE]
def ofInt(n:Int)(z:Big):Prop:=z.Ok/\z.int=n
theorem Aj{x:Big}(h:Lim x.l):ofInt x.int x.trim:=⟨yP h,uW x⟩
theorem NI{x y:Big}{a b:Int}(hx:ofInt a x)(hy:ofInt b y):ofInt (a+b) (ED x y):=by
 obtain⟨h1,h2⟩:=OX hx.1 hy.1;exact⟨h2,by rw[h1,hx.2,hy.2]⟩
theorem La{x:Big}{a:Int}(hx:ofInt a x):ofInt (-a) (AD x):=by
 obtain⟨h1,h2⟩:=Nj hx.1;exact⟨h2,by rw[h1,hx.2]⟩
theorem pW{a:Str}(h:goodN a=true):ofInt (num a) (iG a):=by
 obtain⟨h1,h2⟩:=Fs h;exact⟨h2,h1⟩
theorem VD{A q r y:Nat}(h:A=q*y+r)(hr:r<y):A/y=q/\A%y=r:=by
 have hy:0<y:=by omega
 refine⟨?_,?_⟩
 ·rw[h,mE,Nat.mul_add_div hy,Nat.div_eq_of_lt hr,eS]
 ·rw[h,mE,Nat.mul_add_mod,gV hr]
theorem zC{l:List Nat}(h:Lim l)(i:Nat):l.getD i 0<1000000000:=by
 rw[List.getD_eq_getElem?_getD];cases hq:l[i]? with
 |none=>simp
 |some z=>exact h z (bJ hq)
structure LW(x y:List Nat)(i k:Nat)(out:List Nat)(carry:Nat):Prop where
 lim:Lim out
 len:out.length=x.length+y.length+1
 car:carry<1000000000
 eq:val out+carry*1000000000^(i+k)=val (x.take i)*val y+x.getD i 0*val (y.take k)*1000000000^i
def Bi(x y out:List Nat)(i k carry:Nat):Nat:=carry+out.getD (i+k) 0+(if k<y.length then x.getD i 0*y.getD k 0 else 0)
section
variable{x y out:List Nat}{i k carry:Nat}
theorem YS(h:LW x y i k out carry)(hi:i<x.length)(hx:Lim x)(hy:Lim y)(hk:k<y.length\/0<carry):i+k<out.length:=by
 rw[h.len];by_cases hm:k<y.length
 ·omega
 have hc:0<carry:=by omega
 have e:=h.eq;rw[dZ (l:=y) (by omega)]at e;have e2:=uH (l:=x) (i:=i) hi;have e3:val (x.take (i+1))*val y=val (x.take i)*val y+x.getD i 0*val y*1000000000^i:=by rw[e2,gB,Nat.mul_right_comm]
 have b1:val (x.take (i+1))<1000000000^(i+1):=by
  have:=GH (l:=x.take (i+1)) (λz hz=>hx z (tH hz));rwa[bU,kA (by omega)]at this
 have b2:=GH hy;have b3:val (x.take (i+1))*val y<1000000000^(i+1+y.length):=by
  rw[Nat.pow_add];exact EM (eD _ (Nat.le_of_lt b1)) (Nat.mul_lt_mul_of_pos_left b2 (Nat.pow_pos (by omega)))
 have b4:1000000000^(i+k)<=carry*1000000000^(i+k):=Nat.le_mul_of_pos_left _ hc;have b5:1000000000^(i+k)<1000000000^(i+1+y.length):=by omega
 have:=(Nat.pow_lt_pow_iff_right (by omega)).1 b5;omega
theorem OS(h:LW x y i k out carry)(hx:Lim x)(hy:Lim y):Bi x y out i k carry<1000000000*1000000000:=by
 have h1:=h.car;have h2:=zC h.lim (i+k);have h3:x.getD i 0*y.getD k 0<=999999999*999999999:=tE (by have:=zC hx i;omega) (by have:=zC hy k;omega);unfold Bi;split<;>omega
theorem OR(h:LW x y i k out carry)(hx:Lim x)(hy:Lim y)(hp:i+k<out.length):LW x y i (k+1) (out.set (i+k) (Bi x y out i k carry%1000000000)) (Bi x y out i k carry/1000000000):=by
 have hlt:=OS h hx hy;refine⟨Vb h.lim (Nat.mod_lt _ (by omega)),by rw[rC];exact h.len,Nat.div_lt_of_lt_mul hlt,?_⟩;have vs:=LY out (i+k) (Bi x y out i k carry%1000000000) hp;have e:=h.eq;have dm:=Nat.div_add_mod (Bi x y out i k carry) 1000000000;have t2:Bi x y out i k carry*1000000000^(i+k)=carry*1000000000^(i+k)+out.getD (i+k) 0*1000000000^(i+k)+(if k<y.length then x.getD i 0*y.getD k 0 else 0)*1000000000^(i+k):=by
  unfold Bi;rw[gB,gB]
 have t3:x.getD i 0*val (y.take (k+1))*1000000000^i=x.getD i 0*val (y.take k)*1000000000^i+(if k<y.length then x.getD i 0*y.getD k 0 else 0)*1000000000^(i+k):=by
  by_cases hk:k<y.length
  ·rw[aJ hk,uH hk,tF,gB,Nat.pow_add];congr 1
   ac_rfl
  ·rw[aE hk,dZ (by omega),dZ (by omega)];omega
 generalize Bi x y out i k carry=c at*
 have t1:c/1000000000*1000000000^(i+(k+1))+c%1000000000*1000000000^(i+k)=c*1000000000^(i+k):=by
  have q:c*1000000000^(i+k)=(1000000000*(c/1000000000)+c%1000000000)*1000000000^(i+k):=by rw[dm]
  rw[q,gB,show i+(k+1)=i+k+1 by omega,qP];congr 1
  ac_rfl
 omega
theorem Su(h:LW x y i k out 0)(hi:i<x.length)(hk:¬k<y.length):val out=val (x.take (i+1))*val y:=by
 have e:=h.eq;rw[dZ (l:=y) (by omega)]at e;rw[uH hi,gB,Nat.mul_right_comm];omega
theorem Nl(hl:Lim out)(hn:out.length=x.length+y.length+1)(h:val out=val (x.take i)*val y):LW x y i 0 out 0:=
 ⟨hl,hn,by omega,by rw[h];simp[val]⟩
end
theorem IT{x y:Big}{a b:Int}{out:List Nat}(hx:ofInt a x)(hy:ofInt b y)(hl:Lim out)(h:val out=val x.l*val y.l):ofInt (a*b) (⟨x.below^^y.below,out⟩:Big).trim:=by
 have:=Aj (x:=⟨x.below^^y.below,out⟩) hl;have e:(⟨x.below^^y.below,out⟩:Big).int=a*b:=by
  obtain⟨_,rfl⟩:=hx;obtain⟨_,rfl⟩:=hy;unfold Big.int;simp only[h];cases x.below<;>cases y.below<;>simp[Int.natCast_mul,Int.neg_mul,Int.mul_neg]
 rwa[e]at this
theorem By{z:Big}(h:ofInt n z):z.below=false/\val z.l=n:=by
 obtain⟨⟨h1,h2,h3⟩,h4⟩:=h;unfold Big.int at h4;cases hb:z.below with
 |false=>rw[hb]at h4;simp only[fH,kH]at h4;exact⟨rfl,by omega⟩
 |true=>
  rw[hb]at h4;simp only[gM]at h4;have hne:z.l≠[]:=λe=>by have:=h3 e;rw[hb]at this;cases this
  have hv:val z.l≠0:=λe=>hne ((CZ h2).1 e);omega
theorem IU{l:List Nat}(h:Lim l):ofInt (val l:Nat) (⟨false,l⟩:Big).trim:=by
 have:=Aj (x:=⟨false,l⟩) h;exact this
theorem No{a b:Str}(ha:goodN a=true)(hb:goodN b=true):(num a).tdiv (num b)=(if(neg a^^neg b)=true then-(((dec (dig a))/(dec (dig b)):Nat):Int)else(((dec (dig a))/(dec (dig b)):Nat):Int))/\
  (num a).tmod (num b)=(if neg a=true then-(((dec (dig a))%(dec (dig b)):Nat):Int)else(((dec (dig a))%(dec (dig b)):Nat):Int)):=by
 unfold num;cases neg a<;>cases neg b<;>simp[Int.neg_tdiv,Int.tdiv_neg,Int.neg_tmod,Int.tmod_neg,Int.ofNat_tdiv]<;>exact tI (Int.natCast_nonneg _)
end
end Go.Num
namespace Go.Proofs.YtghhmpppnmoeoaaGreatDoor
section
open Go Go.Eng Go.Num Go.RowKit
variable{w:World}{K:Q0}{cs:List Value}{G:Nat->Prop}{T:TypeId}{i:Nat}{n:Nat}{v:Value}{w':World}{P:Program}{c:UInt8}{S:Nat->Prop}
def Cv(l:List Nat):List Value:=l.map u64
theorem Cx{b:Nat}{c:List Value}{off:Nat}{K:Value->Prop}(hw:w.heap[b]?=some (.cells c.toArray T (0,0)))(hv:c[off]?=some v)(hk:K v):aZ off (.pointer (some ⟨b,0,none⟩)) λt=>ldW false 1 t w K:=by
 rw[bR,dX];refine⟨v,?_,hk⟩;rw[bZ,cD,hw,cH,aV,List.getElem?_toArray];exact hv
theorem YZ{b:Nat}(h:w.heap[b]?=some (.cells cs.toArray T (0,0)))(hn:cs.length=n):SlAt w T (.slice (some ⟨b,0,none⟩) n n) n cs:=
 ⟨some ⟨b,0,none⟩,n,rfl,aS _,λe=>(by cases e),λ_=>⟨b,0,cs.toArray,_,rfl,h,λj _=>by simp⟩⟩
section
variable [HX]
theorem aAO{K:Q0}(hm:n<=1000000)(hK:∀a w',a=w.heap.size->w'.heap.size=w.heap.size+1->w'.heap[a]?=some (.cells (Cv (List.replicate n 0)).toArray U64 (0,0))->Ext w w'->K (.slice (some ⟨a,0,none⟩) n n) w'):
  dF P0 (Instr.makeSlice 196 (i64 (n:Nat)) (i64 (n:Nat))) w K:=by
 have hinf:((Tryz.prog.info? U64).bind (·.zero))=some (u64 0):=by kernel_rfl
 obtain⟨i,z,hi,hz,hsz,hbytes,hzs⟩:=Rl.get;have hz0:z=u64 0:=by
  rw[hi]at hinf;simp only[Option.bind_some]at hinf;rw[hz]at hinf;exact fE hinf
 subst hz0;unfold dF;have hr:=run_makeSlice (P:=P0) (w:=w) 196 U64 i _ (by kernel_rfl) hi hz .i64 .i64 n n (by omega) (by omega) (by rw[hsz];omega) (by rw[hbytes];omega) (by omega);rw[hr,hsz];simp only[aW,BW];have hc:madeCells (Value.cells (u64 0)) n=(Cv (List.replicate n 0)).toArray:=by
  apply Array.ext_getElem?;intro j;simp only[madeCells,Array.getElem?_map,List.getElem?_toArray,Cv];by_cases hj:j<n
  ·rw[Array.getElem?_eq_getElem (by simpa using hj)];simp[Value.cells,hj,Nat.mod_one]
  ·rw[Array.getElem?_eq_none (by simp;omega)];simp[hj]
 rw[hc];exact hK _ _ rfl (Array.size_push ..) (gQ _ _ _ rfl) (Chg.alloc (Chg.refl _ _) _)
theorem SD{b:Nat}{l:List Nat}{K:Value->Prop}(hb:w.heap[b]?=some (.cells (Cv l).toArray U64 (0,0)))(hn:l.length=n)(hi:i<n)(hK:K (u64 (l.getD i 0))):dN none 1 (.slice (some ⟨b,0,none⟩) n n) (i64 (i:Nat)) λt=>ldW false 1 t w K:=by
 rw[pY];refine⟨by omega,by omega,?_⟩;rw[dX];refine⟨u64 (l.getD i 0),?_,hK⟩;rw[bZ,cD,hb,cH,List.getElem?_toArray];simp only[aW,BW,aV,Cv];rw[List.getElem?_map,List.getElem?_eq_getElem (by omega),List.getD_eq_getElem?_getD,List.getElem?_eq_getElem (by omega)];rfl
theorem Qb{b x:Nat}{l:List Nat}{K:World->Prop}(hb:w.heap[b]?=some (.cells (Cv l).toArray U64 (0,0)))(hn:l.length=n)(hi:i<n)(hK:∀w',w'.heap.size=w.heap.size->w'.heap[b]?=some (.cells (Cv (l.set i x)).toArray U64 (0,0))->Chg (λk=>k=b) w w'->K w'):dN none 1 (.slice (some ⟨b,0,none⟩) n n) (i64 (i:Nat)) λt=>stW 1 t (u64 x) w K:=by
 rw[pY];refine⟨by omega,by omega,?_⟩;rw[bZ];simp only[aW,BW,aV];refine iU hb rfl (by simp[Cv];omega) λw' hz hb' hc=>hK w' hz ?_ hc;rw[hb'];congr 2;apply Array.ext_getElem?;intro j;simp only[Cv,List.setIfInBounds_toArray,List.getElem?_toArray,List.map_set]
theorem OO(h:n<18446744073709551616):IntKind.u64.wrap (n:Int)=(n:Int):=oS (by omega) (by omega)
theorem EW{x y:Big}{a b:Int}{ds:List Value}{K:Q0}(h:jA w x cs)(h':jA w y ds)(hx:ofInt a x)(hy:ofInt b y)(hfew:x.l.length+y.l.length+1<=1000)
  (hK:∀z cs' w',Ext w w'->jA w' z cs'->ofInt (a*b) z->z.l.length<=x.l.length+y.l.length+1->K (.agg cs'.toArray) w'):aC P0 196 [.agg cs.toArray,.agg ds.toArray] w K:=by
 refine WJ ?_;unfold aDN;refine pC h λp w1 sv hB hx1 hp hz1=>?_;refine pC (h'.ext hx1) λq w2 sv' hC hx2 hq hz2=>?_;refine bF λc w3 hc hz3 hbc hx3=>?_;have hB3:=hB.ext (hx2.trans hx3);have hC3:=hC.ext hx3;have hx03:=hx1.trans (hx2.trans hx3);have hn:=hB.few;have hm:=hC.few;refine Cx (off:=1) hB3.hb rfl ?_;rw[hB3.len];refine Cx (off:=1) hC3.hb rfl ?_;rw[hC3.len,cC,cN (by omega) (by omega),cC,cN (by omega) (by omega)];rw[show((x.l.length:Int)+(y.l.length:Int)+1)=((x.l.length+y.l.length+1:Nat):Int)by omega];refine aAO (by omega) λo w4 ho hz4 hbo hx4=>?_;have hB4:=hB3.ext hx4;refine Cx (off:=1) hB4.hb rfl ?_;rw[hB4.len];have hlx:Lim x.l:=hB.lim;have hly:Lim y.l:=hC.lim;have hl3:=fJ hbc;have hne:∀{k:Nat} {o':Obj},w3.heap[k]?=some o'->k≠o:=λhk e=>by have:=fJ hk;omega
 have s0:=hx03.size;refine cZ.go (λst w'=>∃(i:Nat) (out:List Nat),st=[i64 (i:Nat)]/\i<=x.l.length/\Chg (λk=>k=o) w4 w'/\w'.heap[o]?=some (.cells (Cv out).toArray U64 (0,0))/\Lim out/\out.length=x.l.length+y.l.length+1/\val out=val (x.l.take i)*val y.l)
  (λst _=>match st with|[.int _ i]=>x.l.length-i.toNat|_=>0)
  ⟨0,List.replicate (x.l.length+y.l.length+1) 0,rfl,gA _,Chg.refl _ _,hbo,λz hz=>by have:=List.eq_of_mem_replicate hz;omega,by simp,by rw[Sj];simp[val]⟩ ?_
 rintro st g w6 ⟨i,out,rfl,hi,hc6,hb6,hL,hlen,hv⟩;simp only[aG];have hx36:Ext w3 w6:=hx4.then hc6 λk hk e=>by have e:k=o:=e;omega
 have hB6:=hB3.ext hx36;have hC6:=hC3.ext hx36;rw[eC,aO];refine⟨λhlt=>?_,λhge=>?_⟩
 ·have hlt:i<x.l.length:=by omega
  obtain⟨n,hn'⟩:∃n,x.l[i]?=some n:=⟨_,List.getElem?_eq_getElem hlt⟩;have hgn:x.l.getD i 0=n:=by rw[List.getD_eq_getElem?_getD,hn'];rfl
  refine hB6.at hn' ?_;refine cZ.go (λst w'=>∃(k carry:Nat) (out:List Nat),st=[u64 carry,i64 (k:Nat)]/\Chg (λk=>k=o) w4 w'/\w'.heap[o]?=some (.cells (Cv out).toArray U64 (0,0))/\LW x.l y.l i k out carry/\k<=2000)
   (λst _=>match st with|[_,.int _ k]=>2001-k.toNat|_=>0)
   ⟨0,0,out,rfl,hc6,hb6,Nl hL hlen hv,by omega⟩ ?_
  rintro st g2 w8 ⟨k,carry,out2,rfl,hc8,hb8,hT,hk2⟩;simp only[aG,dE];have hx38:Ext w3 w8:=hx4.then hc8 λk hk e=>by have e:k=o:=e;omega
  have hC8:=hC3.ext hx38;refine Cx (off:=1) hC8.hb rfl ?_;rw[hC8.len,eC];refine GdW.look (decide (0<carry)) (λ_ J hJ=>?_) λg3=>?_
  ·rw[mC];have e:decide ((0:Int)<(carry:Int))=decide (0<carry):=by rw[decide_eq_decide];omega
   rw[e];exact hJ
  simp only[aG,lP];rw[fN,bT];have ek:decide ((k:Int)<(y.l.length:Int))=decide (k<y.l.length):=by rw[decide_eq_decide];omega
  rw[ek];refine⟨λhgo=>?_,λhend=>?_⟩
  ·have hgo:k<y.l.length\/0<carry:=by simpa using hgo
   have hpos:=YS hT hlt hlx hly hgo;have hcl:=OS hT hlx hly;have hstep:=OR hT hlx hly hpos;have hlen2:=hT.len;rw[cC,cN (by omega) (by omega),show((i:Int)+(k:Int))=((i+k:Nat):Int)by omega];refine SD hb8 hlen2 (by omega) ?_;have hcar:=hT.car;have hog:=zC hT.lim (i+k);rw[cC,show((carry:Int)+((out2.getD (i+k) 0:Nat):Int))=((carry+out2.getD (i+k) 0:Nat):Int)by omega,OO (by omega)];refine bS.cut (λst w'=>st=[u64 (Bi x.l y.l out2 i k carry)]/\w'=w8) ?_ ?_
   ·refine Cx (off:=1) hC8.hb rfl ?_;rw[hC8.len,eC,aO];refine⟨λhky=>?_,λhky=>?_⟩
    ·have hky:k<y.l.length:=by omega
     obtain⟨m,hm'⟩:∃m,y.l[k]?=some m:=⟨_,List.getElem?_eq_getElem hky⟩;have hgm:y.l.getD k 0=m:=by rw[List.getD_eq_getElem?_getD,hm'];rfl
     refine Cx (off:=1) hC8.hb rfl ?_;refine hC8.at hm' ?_;have hnl:=zC hlx i;have hml:=zC hly k;rw[hgn]at hnl;rw[hgm]at hml;have hnm:n*m<=999999999*999999999:=tE (by omega) (by omega);rw[HS,show((n:Int)*(m:Int))=((n*m:Nat):Int)by rw[Int.natCast_mul],OO (by omega)];rw[cC,show(((carry+out2.getD (i+k) 0:Nat):Int)+((n*m:Nat):Int))=((carry+out2.getD (i+k) 0+n*m:Nat):Int)by omega,OO (by omega)];refine⟨?_,rfl⟩;unfold Bi;rw[aJ hky,hgn,hgm]
    ·refine⟨?_,rfl⟩;unfold Bi;rw[aE (by omega)];rfl
   rintro st g4 w12 ⟨rfl,rfl⟩;simp only[aG];generalize Bi x.l y.l out2 i k carry=cc at*
   rw[cC,cN (by omega) (by omega),show((i:Int)+(k:Int))=((i+k:Nat):Int)by omega];rw[CR];refine⟨by omega,?_⟩;rw[show((cc:Int).tmod 1000000000)=((cc%1000000000:Nat):Int)by rw[tI (by omega)];omega];refine Qb hb8 hlen2 (by omega) λw13 hz13 hb13 hc13=>?_;rw[HQ];refine⟨by omega,?_⟩;rw[show((cc:Int).tdiv 1000000000)=((cc/1000000000:Nat):Int)by rw[Int.tdiv_eq_ediv_of_nonneg (by omega)];omega,OO (by omega)];rw[cC,cN (by omega) (by omega),show((k:Int)+1)=((k+1:Nat):Int)by omega];refine⟨⟨k+1,_,_,rfl,hc8.then hc13 (λ_ _ e=>e),hb13,hstep,by omega⟩,by simp only[aW];omega⟩
  ·have hend:¬k<y.l.length/\carry=0:=by simp at hend;omega
   obtain⟨hk0,rfl⟩:=hend;rw[cC,up1 (by omega)];refine⟨⟨i+1,out2,rfl,hlt,hc8,hb8,hT.lim,hT.len,Su hT hlt hk0⟩,by simp only[aW];omega⟩
 ·obtain rfl:i=x.l.length:=by omega
  rw[bO]at hv;refine Cx (off:=0) hB6.hb rfl ?_;refine Cx (off:=0) hC6.hb rfl ?_;have eqb:∀(s t:Bool) (K:Value->Prop),K (.bool (s^^t))->eqW .bool true (.bool s) (.bool t) K:=λs t K h=>by
   cases s<;>cases t<;>exact h
  refine eqb _ _ _ ?_;simp only[vI,gO,aB,aM,aY,bB];refine⟨by omega,by omega,?_⟩;have hR:jA w6 ⟨x.below^^y.below,out⟩ [.bool (x.below^^y.below),.slice (some ⟨o,0,none⟩) (x.l.length+y.l.length+1) (x.l.length+y.l.length+1)]:=by
   refine⟨_,U64,rfl,?_,by show out.length<=1000;omega,hL⟩;have:=YZ hb6 (by simp only[Cv,dL];exact hlen);rw[<-hlen]at this⊢;exact this
  refine qF hR λcs' w15 hx15 hz=>?_;refine Mh (w0:=w) (hx15.at (hx36.at hbc id) id) rfl (by omega) (hx03.trans (hx36.trans hx15)) hz.one hz.len λw17 hx17 hc17=>?_;refine hK _ cs' w17 hx17 (hz.keep (p:=false) (q:=.slice none 0 0) (hx15.at (hx36.at hbc id) id) (λn e=>by cases e) hc17) (IT hx hy hL hv) ?_;have:∀l:List Nat,(iC l).length<=l.length:=λl=>by
   induction l using xM with
   |h0=>rw[rU];simp
   |h1 l x ih=>
    by_cases h:x=0
    ·subst h;rw[pM];simp;omega
    ·rw[uX h];simp
  have:=this out;show(iC out).length<=_;omega
end
end
section
open Go Go.Eng Go.Num Go.RowKit Go.Sort
variable{w:World}{K:Q0}{cs:List Value}{G:Nat->Prop}{T:TypeId}{i:Nat}{n:Nat}{v:Value}{w':World}{P:Program}{c:UInt8}{S:Nat->Prop}
section
variable [HX]
theorem aA1{v:Nat}{K:Q0}(hT:wV w)(hv:v<1000000000000)(hK:∀w',Ext w w'->K (str (Lib.decDigits v)) w'):aC P0 228 [u64 v,i64 10] w K:=by
 refine Wx ?_;unfold aDE;refine Wo ?_;unfold aDy;rw[bM,show decide ((10:Int)=10)=true from rfl,dY,eC,aO];refine⟨λhs=>?_,λhs=>?_⟩
 ·rw[mZ,cN (by omega) (by omega)];refine gX (args:=#[i64 (v:Nat)]) Tryz.call274 ((Tryz.internal_strconv_small v (by omega) w).mono ?_);rintro e w' ⟨rfl,rfl⟩;exact⟨_,rfl,hK w' (Chg.refl _ _)⟩
 have h1:1<=v:=by omega
 have h64:v<18446744073709551616:=by omega
 have hnd:Lib.nDigits v<=20:=by have:=Lib.numDigits_eq v h1 h64;split at this<;>omega
 have hz24:List.replicate 24 (Value.int .u8 0)=Lib.zeros24.toList:=rfl;rw[hz24,RL];have e0:(Lib.zeros24.toList).toArray=Lib.zeros24:=rfl;rw[e0];have hxa:Ext w (w.alloc (.cells Lib.zeros24 262)):=Chg.alloc (Chg.refl _ _) _;refine gX (args:=#[u64 v]) Tryz.call275 ((Tryz.internal_strconv_numDigits v h1 h64 _ (If hxa hT.pow)).mono ?_);rintro e w2 ⟨rfl,rfl⟩;refine⟨_,rfl,?_⟩;have hH0:Holds (λ(b:UInt8)=>Value.int .u8 (b.toNat:Int)) (w.alloc (.cells Lib.zeros24 262)) w.heap.size 0 (Array.replicate (Lib.nDigits v) (0:UInt8)):=λj hj=>by
  have hj':j<Lib.nDigits v:=by simpa using hj
  refine⟨?_,World.frozen?_alloc_new _ _ _ _⟩;rw[World.cell?_alloc_new,aV,Lib.zeros24_at _ (by omega),getElem!_pos _ j hj];simp
 have hsl:∀{K:Value->Prop},K (.slice (some ⟨w.heap.size,0,none⟩) (Lib.nDigits v) 24)->Nr 24 1 (.pointer (some ⟨w.heap.size,0,none⟩)) none (some (i64 (Lib.nDigits v))) none K:=λ{K} h=>by
  unfold Nr;simp only[fI,eX];refine⟨by omega,by omega,?_⟩;have e:(⟨w.heap.size,0,none⟩:Addr).add 0=⟨w.heap.size,0,none⟩:=rfl;simpa[e]using h
 refine hsl ?_;have hfmt:=Tryz.internal_strconv_formatBase10 w.heap.size 0 24 v (Array.replicate (Lib.nDigits v) 0) _ hH0 (by rw[tJ];exact Lib.lt_pow_nDigits v) h64 (by rw[tJ];omega);rw[tJ]at hfmt;refine gX (args:=#[.slice (some ⟨w.heap.size,0,none⟩) (Lib.nDigits v) 24,u64 v]) Tryz.call276 (hfmt.mono ?_);rintro e w4 ⟨rfl,k,v',dk,rfl,hF⟩;refine⟨_,rfl,?_⟩;refine hsl ?_;have h:=run_convert_bytes_back (P:=P0) ((putRow (λ(b:UInt8)=>Value.int .u8 (b.toNat:Int)) (w.alloc (.cells Lib.zeros24 262)) w.heap.size 0 dk).drewN k) 89 9 5 ⟨w.heap.size,0,none⟩ 24 (Lib.decDigits v) (by kernel_rfl) (by kernel_rfl) (by kernel_rfl) (λj hj=>by
  rw[Lib.row_is_numeral hF j hj,Lib.add_plain,World.cell?_drewN];exact cell?_putRow (λ(b:UInt8)=>Value.int .u8 (b.toNat:Int)) _ w.heap.size 0 _ dk hH0 (by rw[hF.size,tJ]) j (by rw[hF.size];rw[Lib.decDigits_length]at hj;exact hj))
 rw[Lib.decDigits_length]at h;refine⟨_,h,?_⟩;obtain⟨os',_,eg⟩:=putRow_grow_new (λ(b:UInt8)=>Value.int .u8 (b.toNat:Int)) w #[.cells Lib.zeros24 262] w.heap.size 0 dk (aS _);rw[alloc_eq_grow,eg];exact hK _ (Oi w k os')
end
end
end Go.Proofs.YtghhmpppnmoeoaaGreatDoor
namespace Go.Eng
section
open Go
variable{w:World}{K:Q0}{cs:List Value}{G:Nat->Prop}{T:TypeId}{i:Nat}{n:Nat}{v:Value}{w':World}{P:Program}{c:UInt8}{S:Nat->Prop}
abbrev Ent:=Str×Value×Nat
def mkE(x:Ent):MapEntry:={key:=str x.1,val:=x.2.1,born:=x.2.2}
def xB(l:List Ent):List MapEntry:=l.map mkE
def kE:List Ent->Str->Option Value
 |[],_=>none
 |x::m,k=>if k=x.1 then some x.2.1 else kE m k
def Av(w:World)(b:Nat)(look:Str->Option Value):Prop:=
 ∃l n,w.heap[b]?=some (.map (xB l).toArray n)/\(l.map (·.1)).Nodup/\∀s,kE l s=look s
theorem sQ{k:Str}:∀{l:List Ent},kE l k=none↔k∉l.map (·.1)
 |[]=>by simp[kE]
 |x::m=>by
  unfold kE
  by_cases h:k=x.1
  ·rw[aJ h];simp[h]
  ·rw[aE h,sQ (l:=m)];simp[h]
theorem rZ{k:Str}:∀(l m:List Ent),kE (l++m) k=match kE l k with|some v=>some v|none=>kE m k
 |[],m=>rfl
 |x::l,m=>by
  simp only[dA,kE]
  by_cases h:k=x.1
  ·rw[aJ h,aJ h]
  ·rw[aE h,aE h,rZ l m]
theorem FF{α:Type}(f:α->α):∀(a:List α) (x:α) (c:List α),(a++x::c).modify a.length f=a++f x::c
 |[],x,c=>rfl
 |y::a,x,c=>by
  have:=FF f a x c
  simp only[dA,aB,List.modify_succ_cons,this]
theorem Iv(k a:Str):Instr.sameNow .string (str k) (str a)=some (decide (k=a)):=by
 have hs:Instr.sameNow .string (str k) (str a)=some (ofL k==ofL a):=rfl;rw[hs];by_cases h:k=a
 ·subst h;rw[(MapKept.bytes_beq (ofL k) (ofL k)).2 rfl];simp
 ·have hne:(ofL k==ofL a)=false:=by
   cases hc:(ofL k==ofL a)with
   |false=>rfl
   |true=>exact absurd (Mm.1 ((MapKept.bytes_beq _ _).1 hc)) h
  rw[hne];simp[h]
theorem sS(k:Str):∀(l:List Ent) (j:Nat),(kE l k=none->Instr.findNow .string (str k) (xB l) j=some none)/\
  ∀v,kE l k=some v->∃a b c,l=a++(k,v,b)::c/\k∉a.map (·.1)/\Instr.findNow .string (str k) (xB l) j=some (some (j+a.length,v))
 |[],j=>⟨λ_=>rfl,λv h=>by cases h⟩
 |(a,x,n)::m,j=>by
  by_cases h:k=a
  ·subst h
   refine⟨λe=>by simp[kE]at e,λv e=>?_⟩
   simp only[kE,gM,bE]at e
   subst e
   refine⟨[],n,m,rfl,by simp,?_⟩
   simp only[xB,dG,mkE,Instr.findNow,Iv,aI,aM,eS]
  ·obtain⟨h1,h2⟩:=sS k m (j+1)
   have hf:Instr.findNow .string (str k) (xB ((a,x,n)::m)) j=Instr.findNow .string (str k) (xB m) (j+1):=by
    simp only[xB,dG,mkE,Instr.findNow,Iv,cP h]
   rw[hf];simp only[kE,aE h];refine⟨h1,λv e=>?_⟩;obtain⟨a',b',c',r1,r2,r3⟩:=h2 v e;refine⟨(a,x,n)::a',b',c',by rw[r1];rfl,by simp[h,r2],?_⟩;rw[r3,aB];congr 3;omega
section
variable{P:Program}{T KT ET:TypeId}{w:World}{look:Str->Option Value}
theorem Av.at_{b:Nat}(h:Av w b look)(hc:Chg S w w')(hS:¬S b):Av w' b look:=by
 obtain⟨l,n,h1,h2⟩:=h;exact⟨l,n,hc.at h1 hS,h2⟩
theorem Av.lt{b:Nat}(h:Av w b look):b<w.heap.size:=by obtain⟨l,n,h1,h2⟩:=h;exact fJ h1
theorem Av.congr{b:Nat}{look':Str->Option Value}(h:Av w b look)(he:∀s,look s=look' s):Av w b look':=by
 obtain⟨l,n,h1,h2,h3⟩:=h;exact⟨l,n,h1,h2,λs=>(h3 s).trans (he s)⟩
theorem Qk{b:Nat}(h:Ko w b []):Av w b λ_=>none:=⟨[],0,h,List.nodup_nil,λ_=>rfl⟩
theorem Dy{b:Nat}{k:Str}{z:Value}{K:Value->Prop}(hT:P.underlying T=some (.map KT ET))(hKT:P.underlying KT=some .string)(hz:Cb P ET=some z)(hb:Av w b look)
  (h1:∀v,look k=some v->K (.tuple #[v,.bool true]))(h0:look k=none->K (.tuple #[z,.bool false])):nH P (Instr.lookup T (.map (some b)) (str k) true) w K:=by
 obtain⟨l,n,hb,hn,hl⟩:=hb;rw[<-hl]at h1 h0;cases he:kE l k with
 |none=>
  refine⟨_,?_,h0 he⟩;simp only[Instr.lookup,run_bind,bH hT,MapKept.run_getObj_map hb,run_pure,MapKept.run_checkKey hKT (show MapKept.IsKey .string (str k)from trivial),MapKept.run_findKey hKT ((sS k l 0).1 he),rS hz,gM]
 |some v=>
  obtain⟨a,b',c,e1,e2,hf⟩:=(sS k l 0).2 v he;refine⟨_,?_,h1 v he⟩;simp only[Instr.lookup,run_bind,bH hT,MapKept.run_getObj_map hb,run_pure,MapKept.run_checkKey hKT (show MapKept.IsKey .string (str k)from trivial),MapKept.run_findKey hKT hf,gM]
theorem CI{b:Nat}{o o':Obj}(hb:w.heap[b]?=some o):Chg (λq=>q=b) w {w with heap:=w.heap.setIfInBounds b o'}:=
 ⟨rfl,rfl,rfl,by simp,λq _ hq=>(MapKept.heap_set hb).2 q hq⟩
theorem Qj{b:Nat}{k:Str}{K:World->Prop}(hT:P.underlying T=some (.map KT ET))(hKT:P.underlying KT=some .string)(hb:Av w b look)
  (hK:∀w',w'.heap.size=w.heap.size->Av w' b (λs=>if s=k then some v else look s)->Chg (λq=>q=b) w w'->K w'):nN P (Instr.mapUpdate T (.map (some b)) (str k) v) w K:=by
 obtain⟨l,n,hb,hn,hl⟩:=hb;cases he:kE l k with
 |none=>
  have hf:=(sS k l 0).1 he;have hrun:(Instr.mapUpdate T (.map (some b)) (str k) v).run P w=.ok () {w with heap:=w.heap.setIfInBounds b (.map ((xB l).toArray.push {key:=str k,val:=v,born:=n}) (n+1))}:=by
   simp only[Instr.mapUpdate,run_bind,bH hT,MapKept.run_getObj_map hb,MapKept.run_checkKey hKT (show MapKept.IsKey .string (str k)from trivial),MapKept.run_findKey hKT hf,MapKept.run_setObj_map _ hb]
  unfold nN;rw[hrun];refine hK _ (by simp) ⟨l++[(k,v,n)],n+1,?_,?_,λs=>?_⟩ (CI hb)
  ·show(w.heap.setIfInBounds b _)[b]?=_;rw[(MapKept.heap_set hb).1];simp[xB,mkE]
  ·rw[fR,eU];refine⟨hn,by simp,λx hx y hy=>?_⟩;have:=sQ.1 he;simp only[dG,oD,bP]at hy;subst hy;rintro rfl;exact this hx
  ·show kE _ s=if s=k then some v else look s;rw[rZ,<-hl];by_cases hs:s=k
   ·subst hs;rw[he,aJ rfl];simp[kE]
   ·rw[aE hs];cases kE l s with
    |none=>simp[kE,hs]
    |some x=>rfl
 |some u=>
  obtain⟨a,m,c,e1,e2,hf⟩:=(sS k l 0).2 u he;rw[aV]at hf;have hg:(xB l).toArray[a.length]?=some {key:=str k,val:=u,born:=m}:=by
   rw[e1];simp[xB,mkE]
  have hrun:(Instr.mapUpdate T (.map (some b)) (str k) v).run P w=.ok () {w with heap:=w.heap.setIfInBounds b (.map ((xB l).toArray.modify a.length λe=>{e with key:=str k,val:=v}) n)}:=by
   have hkt:=MapKept.run_keyThatStays (P:=P) (w:=w) (d:=.string) (k:=str k) trivial;simp only[Instr.mapUpdate,run_bind,bH hT,MapKept.run_getObj_map hb,MapKept.run_checkKey hKT (show MapKept.IsKey .string (str k)from trivial),MapKept.run_findKey hKT hf,hg,gF,Option.getD_some,hkt,MapKept.run_setObj_map _ hb]
  unfold nN;rw[hrun];refine hK _ (by simp) ⟨a++(k,v,m)::c,n,?_,?_,λs=>?_⟩ (CI hb)
  ·show(w.heap.setIfInBounds b _)[b]?=_;rw[(MapKept.heap_set hb).1,e1];congr 2;apply xE;rw[Array.toList_modify];simp only[xB,fR,dG];have:=FF (λe:MapEntry=>{e with key:=str k,val:=v}) (a.map mkE) (mkE (k,u,m)) (c.map mkE);rw[dL]at this;exact this
  ·rw[e1]at hn;simpa using hn
  ·show kE _ s=if s=k then some v else look s;rw[<-hl,e1,rZ,rZ];by_cases hs:s=k
   ·subst hs;rw[aJ rfl,sQ.2 e2];simp[kE]
   ·rw[aE hs];cases kE a s with
    |none=>simp[kE,hs]
    |some x=>rfl
theorem Ql{b:Nat}{k:Str}{ty:TypeId}{K:Q0}(hT:P.underlying T=some (.map KT ET))(hKT:P.underlying KT=some .string)(hb:Av w b look)
  (hK:∀w',w'.heap.size=w.heap.size->Av w' b (λs=>if s=k then none else look s)->Chg (λq=>q=b) w w'->K (.tuple #[]) w'):dF P (Builtin.delete_ #[T,KT] ty #[.map (some b),str k]) w K:=by
 obtain⟨l,n,hb,hn,hl⟩:=hb;cases he:kE l k with
 |none=>
  have hf:=(sS k l 0).1 he;have hrun:(Builtin.delete_ #[T,KT] ty #[.map (some b),str k]).run P w=.ok (.tuple #[]) {w with heap:=w.heap.setIfInBounds b (.map (xB l).toArray n)}:=by
   simp[Builtin.delete_,run_bind,bH hT,MapKept.run_getObj_map hb,MapKept.run_checkKey hKT (show MapKept.IsKey .string (str k)from trivial),MapKept.run_findKey hKT hf,MapKept.run_setObj_map _ hb,Result.andThen]
  unfold dF;rw[hrun];refine hK _ (by simp) ⟨l,n,(MapKept.heap_set hb).1,hn,λs=>?_⟩ (CI hb);show kE _ s=if s=k then none else look s;rw[<-hl];by_cases hs:s=k
  ·subst hs;rw[aJ rfl,he]
  ·rw[aE hs]
 |some u=>
  obtain⟨a,m,c,e1,e2,hf⟩:=(sS k l 0).2 u he;rw[aV]at hf;have hrun:(Builtin.delete_ #[T,KT] ty #[.map (some b),str k]).run P w=.ok (.tuple #[]) {w with heap:=w.heap.setIfInBounds b (.map ((xB l).toArray.eraseIdxIfInBounds a.length) n)}:=by
   simp[Builtin.delete_,run_bind,bH hT,MapKept.run_getObj_map hb,MapKept.run_checkKey hKT (show MapKept.IsKey .string (str k)from trivial),MapKept.run_findKey hKT hf,MapKept.run_setObj_map _ hb,Result.andThen]
  unfold dF;rw[hrun];rw[e1]at hn;rw[fR,eU]at hn;obtain⟨n1,n2,n3⟩:=hn;rw[dG,jF]at n2;refine hK _ (by simp) ⟨a++c,n,?_,?_,λs=>?_⟩ (CI hb)
  ·show(w.heap.setIfInBounds b _)[b]?=_;rw[(MapKept.heap_set hb).1,e1];congr 2;have hlt:a.length<(xB (a++(k,u,m)::c)).toArray.size:=by simp[xB]
   unfold Array.eraseIdxIfInBounds;rw[dif_pos hlt];apply xE;rw[Array.toList_eraseIdx];simp only[xB,fR,dG];rw[List.eraseIdx_append_of_length_le (by simp)];simp
  ·rw[fR,eU];exact⟨n1,n2.2,λx hx y hy=>n3 x hx y (aU _ hy)⟩
  ·show kE _ s=if s=k then none else look s;rw[<-hl,e1,rZ,rZ];by_cases hs:s=k
   ·subst hs;rw[aJ rfl,sQ.2 e2,sQ.2 n2.1]
   ·rw[aE hs];cases kE a s with
    |none=>simp[kE,hs]
    |some x=>rfl
end
end
section
open Go Go.Num Go.Syn
variable{w:World}{K:Q0}{cs:List Value}{G:Nat->Prop}{T:TypeId}{i:Nat}{n:Nat}{v:Value}{w':World}{P:Program}{c:UInt8}{S:Nat->Prop}
structure iE(ex:List Ex)(i:Nat)(env:Env)(v:JV)(s:Nat):Prop where
 ok:∀left,s<=left->rI ex (i+1) i env left=.ok v (left-s)
 no:∀left,left<s->∃a,rI ex (i+1) i env left=.err 3 a
inductive Ez (ex:List Ex) (env:Env):List Nat->List JV->Nat->Prop where
 |nil:Ez ex env [] [] 0
 |cons {a:Nat} {ags:List Nat} {v:JV} {vs:List JV} {s t:Nat}:iE ex a env v s->Ez ex env ags vs t->Ez ex env (a::ags) (v::vs) (s+t)
abbrev sH(ex:List Ex):Nat->Env->Nat->EvR JV:=λa env l=>rI ex (a+1) a env l
theorem Al{ex:List Ex}{env:Env}{ags:List Nat}{vs:List JV}{s:Nat}(h:Ez ex env ags vs s):(∀left,s<=left->nQ (sH ex) env ags left=.ok vs (left-s))/\(∀left,left<s->∃a,nQ (sH ex) env ags left=.err 3 a):=by
 induction h with
 |nil=>exact⟨λleft _=>rfl,λleft h=>by omega⟩
 |@cons a ags v vs s t h1 h2 ih=>
  refine⟨λleft hl=>?_,λleft hl=>?_⟩
  ·unfold nQ;show EvR.bind (rI ex (a+1) a env left) _=_;rw[h1.ok left (by omega)];show EvR.bind (nQ (sH ex) env ags (left-s)) _=_;rw[ih.1 _ (by omega)];show EvR.ok _ _=_;congr 1;omega
  ·unfold nQ;show∃b,EvR.bind (rI ex (a+1) a env left) _=_;by_cases hs:left<s
   ·obtain⟨b,hb⟩:=h1.no left hs;rw[hb];exact⟨b,rfl⟩
   ·rw[h1.ok left (by omega)];obtain⟨b,hb⟩:=ih.2 (left-s) (by omega);refine⟨b,?_⟩;show EvR.bind (nQ (sH ex) env ags (left-s)) _=_;rw[hb];rfl
theorem Fj{ex:List Ex}{s:Nat}{e:Ex}{env:Env}{v:JV}(hE:lH ex)(he:ex[i]?=some e)(hg:fA v=true)
  (h1:∀left,s<=left->pD (sH ex) ex e env left=.ok v (left-s))(h2:∀left,left<s->∃a,pD (sH ex) ex e env left=.err 3 a):iE ex i env v (s+1):=by
 refine⟨λleft hl=>?_,λleft hl=>?_⟩
 ·rw[uS hE he (eA _)];unfold wW;rw[aE (by omega)];show EvR.bind (pD (sH ex) ex e env (left-1)) _=_;rw[h1 (left-1) (by omega)];show(if fA v=true then EvR.ok v (left-1-s)else _)=_;rw[aJ hg];congr 1;omega
 ·rw[uS hE he (eA _)];unfold wW;by_cases h0:left=0
  ·exact⟨e.a,by rw[aJ h0]⟩
  ·obtain⟨a,ha⟩:=h2 (left-1) (by omega);refine⟨a,?_⟩;rw[aE h0];show EvR.bind (pD (sH ex) ex e env (left-1)) _=_;rw[ha];rfl
theorem Bn{ex:List Ex}{s:Nat}{e:Ex}{env:Env}{vs:List JV}{v:JV}(hE:lH ex)(he:ex[i]?=some e)(h28:e.k≠28)(h29:e.k≠29)(hl:Ez ex env e.args vs s)(hm:oX ex e env vs=.ok v)(hg:fA v=true):iE ex i env v (s+1):=by
 obtain⟨h1,h2⟩:=Al hl;refine Fj hE he hg (λleft hle=>?_) λleft hlt=>?_
 ·unfold pD;rw[aE h28,aE h29,h1 left hle];show(oX ex e env vs).at_ _=_;rw[hm];rfl
 ·unfold pD;rw[aE h28,aE h29];obtain⟨a,ha⟩:=h2 left hlt;exact⟨a,by rw[ha];rfl⟩
theorem lT{ex:List Ex}{s t c a b:Nat}{e:Ex}{env:Env}{v:JV}{y:Bool}(hE:lH ex)(he:ex[i]?=some e)(h28:e.k=28)(ha:e.args=[c,a,b])(hc:iE ex c env (bV y) s)(hb:iE ex (if y=true then a else b) env v t)(hg:fA v=true):iE ex i env v (s+t+1):=by
 have e0:mD e 0=c:=by unfold mD;rw[ha];rfl
 have e1:mD e 1=a:=by unfold mD;rw[ha];rfl
 have e2:mD e 2=b:=by unfold mD;rw[ha];rfl
 have hbr:∀l,(if(bV y).b=true then sH ex a env l else sH ex b env l)=sH ex (if y=true then a else b) env l:=λl=>by cases y<;>rfl
 have hbody:∀left,pD (sH ex) ex e env left=(sH ex c env left).bind λx l=>if x.k=1 then .ok x l else if x.k≠2 then .err 81 e.a else if x.b=true then sH ex a env l else sH ex b env l:=λleft=>by
  unfold pD Gn;rw[aJ h28,e0,e1,e2]
 refine Fj hE he hg (λleft hle=>?_) λleft hlt=>?_
 ·rw[hbody];show EvR.bind (rI ex (c+1) c env left) _=_;rw[hc.ok left (by omega)];show(if(bV y).b=true then sH ex a env (left-s)else sH ex b env (left-s))=_;rw[hbr];show rI ex _ _ env (left-s)=_;rw[hb.ok _ (by omega)];congr 1;omega
 ·rw[hbody];show∃q,EvR.bind (rI ex (c+1) c env left) _=_;by_cases hs:left<s
  ·obtain⟨q,hq⟩:=hc.no left hs;rw[hq];exact⟨q,rfl⟩
  ·rw[hc.ok left (by omega)];obtain⟨q,hq⟩:=hb.no (left-s) (by omega);refine⟨q,?_⟩;show(if(bV y).b=true then sH ex a env (left-s)else sH ex b env (left-s))=_;rw[hbr];exact hq
theorem BI{f:Fl}{s:Nat}{scope v:JV}(h:iE f.ex i (qK scope.ks scope.xs) v s)(hs:s<=20000):zZ f i scope=.ok v:=by
 unfold zZ;rw[h.ok 20000 hs]
def JG:Nat->List Ex->Bool
 |_,[]=>true
 |i,e::r=>e.args.all (λa=>decide (a<i))&&(!decide (e.k=28)||decide (3<=e.args.length))&&(!decide (e.k=29)||decide (2<=e.args.length))&&JG (i+1) r
theorem zH:∀{l:List Ex} {j:Nat},JG j l=true->∀(i:Nat) (e:Ex),l[i]?=some e->(∀a∈e.args,a<j+i)/\(e.k=28->3<=e.args.length)/\(e.k=29->2<=e.args.length)
 |[],_,_,i,e,he=>by simp at he
 |x::r,j,h,0,e,he=>by
  simp only[List.getElem?_cons_zero,bE]at he
  subst he
  simp only[JG,aL,bW,bA,cM,dQ,decide_eq_false_iff_not]at h
  exact⟨h.1.1.1,λhk=>h.1.1.2.resolve_left λhn=>hn hk,λhk=>h.1.2.resolve_left λhn=>hn hk⟩
 |x::r,j,h,i+1,e,he=>by
  rw[List.getElem?_cons_succ]at he
  simp only[JG,aL]at h
  obtain⟨h1,h2⟩:=zH h.2 i e he
  exact⟨λa ha=>by have:=h1 a ha;omega,h2⟩
theorem eQ{l:List Ex}(h:JG 0 l=true):lH l:=by
 refine⟨λi e he a ha=>?_,λe he hk=>?_,λe he hk=>?_⟩
 ·have:=(zH h i e he).1 a ha;omega
 ·obtain⟨i,hi⟩:=List.getElem?_of_mem he;exact(zH h i e hi).2.1 hk
 ·obtain⟨i,hi⟩:=List.getElem?_of_mem he;exact(zH h i e hi).2.2 hk
theorem VJ(v:JV):nL v=1+nU v.xs:=by cases v;simp only[nL,JV.xs]
theorem Ph:∀(xs:List JV),(∀x∈xs,nL x<=2000->qG x=nL x)->∀n:Int,1<=n->n+(nU xs:Int)<=2000->lC xs n=n+nU xs
 |[],_,n,_,_=>by simp[lC,nU]
 |x::xs,h,n,h1,h2=>by
  simp only[nU]at h2
  have hx:=h x (by simp) (by omega)
  simp only[lC,nU]
  rw[aJ (by omega),hx,cN (by omega) (by omega),Ph xs (λy hy=>h y (aU _ hy)) _ (by omega) (by omega)]
  omega
theorem aCE(v:JV):nL v<=2000->qG v=nL v:=by
 refine JV.ind' (p:=λv=>nL v<=2000->qG v=nL v) (λv ih h=>?_) v;rw[VJ]at h;rw[vD,Ph v.xs ih 1 (by omega) (by omega),VJ];omega
theorem Yj{v:JV}(hd:qM v 24=true)(hc:nL v<=2000)(hp:sK v=true):fA v=true:=by
 unfold fA;rw[hd,hp,kV,kV,bA,aCE v hc];omega
theorem nK(b:Bool):fA (bV b)=true:=by cases b<;>decide
theorem MB{s:Str}(h:goodN s=true):fA (nV s)=true:=by
 refine Yj rfl (by rw[VJ];simp[nU,JV.xs]) ?_;rw[mX];simp[oA,JV.k,JV.b,JV.t,JV.ks,JV.xs,jK,pU,h]
theorem MA{s:Str}(h:s.length<=16384):fA (tV s)=true:=by
 refine Yj rfl (by rw[VJ];simp[nU,JV.xs]) ?_;rw[mX];simp[oA,JV.k,JV.b,JV.t,JV.ks,JV.xs,jK,pU,h]
theorem iJ{n:Int}(h:n.natAbs<10^100):fA (iV n)=true:=MB (Ec h)
section
variable{ex:List Ex}{env:Env}{i:Nat}{e:Ex}
theorem lK(hE:lH ex)(he:ex[i]?=some e)(h28:e.k≠28)(h29:e.k≠29)(ha:e.args=[]){v:JV}(hm:oX ex e env []=.ok v)(hg:fA v=true):iE ex i env v 1:=
 Bn hE he h28 h29 (by rw[ha];exact .nil) hm hg
theorem Yc(hE:lH ex)(he:ex[i]?=some e)(h28:e.k≠28)(h29:e.k≠29){a b s t:Nat}(ha:e.args=[a,b]){x y v:JV}(h:iE ex a env x s)(h':iE ex b env y t)(hm:oX ex e env [x,y]=.ok v)(hg:fA v=true):iE ex i env v (s+t+1):=
 Bn hE he h28 h29 (s:=s+t) (by rw[ha];exact .cons h (.cons h' .nil)) hm hg
theorem NP{v:JV}{l:List JV}(hk:e.k=9)(h:env e.t=some v):oX ex e env l=.ok v:=by
 unfold oX;simp[hk,h]
theorem eW{v:JV}(hE:lH ex)(he:ex[i]?=some e)(hk:e.k=9)(ha:e.args=[])(h:env e.t=some v)(hg:fA v=true):iE ex i env v 1:=
 lK hE he (by omega) (by omega) ha (NP hk h) hg
theorem Qm{l:List JV}(hk:e.k=4):oX ex e env l=.ok (nV e.t):=by unfold oX;simp[hk]
theorem Di(hE:lH ex)(he:ex[i]?=some e)(hk:e.k=4)(ha:e.args=[]){n:Int}(hg:goodN e.t=true)(hn:num e.t=n):iE ex i env (iV n) 1:=by
 have h:Lib.itoa n=e.t:=by rw[<-hn];exact NT hg
 show iE ex i env (nV (Lib.itoa n)) 1;rw[h];exact lK hE he (by omega) (by omega) ha (Qm hk) (MB hg)
theorem Ny(hE:lH ex)(he:ex[i]?=some e)(hk:e.k=2)(ha:e.args=[]):iE ex i env (bV true) 1:=
 lK hE he (by omega) (by omega) ha (by unfold oX;simp[hk]) (nK _)
theorem Jf{x y:Int}(hk:15<=e.k/\e.k<=19\/22<=e.k/\e.k<=25):oX ex e env [iV x,iV y]=Jb e.k e.a (iV x) (iV y):=by
 unfold oX;have n1:e.k≠1:=by omega
 have n2:¬(e.k=2\/e.k=3):=by omega
 have n4:e.k≠4:=by omega
 have n5:e.k≠5:=by omega
 have n9:e.k≠9:=by omega
 have n6:e.k≠6:=by omega
 have n7:e.k≠7:=by omega
 have n8:e.k≠8:=by omega
 have n10:e.k≠10:=by omega
 have n30:e.k≠30:=by omega
 have n11:e.k≠11:=by omega
 have n12:e.k≠12:=by omega
 have n13:¬(e.k=13\/e.k=14):=by omega
 have n20:¬(e.k=20\/e.k=21):=by omega
 have n26:¬(e.k=26\/e.k=27):=by omega
 rw[aE n1,aE n2,aE n4,aE n5,aE n9,aE n6,aE n7,aE n8,aE n10,aE n30,aE n11,aE n12,aE n13,aE n20,aE n26];rfl
theorem Mb{n:Int}(h:n.natAbs<10^100):gW n=(Lib.itoa n,0):=by
 unfold gW;rw[yA,aE];have:=yD 100 n.natAbs h (by omega);omega
theorem Ja(k a x y:Int):Jb k a (iV x) (iV y)=if k=22 then .ok (bV (decide (yF (Lib.itoa x) (Lib.itoa y)<0)))
  else if k=23 then .ok (bV (decide (0<yF (Lib.itoa x) (Lib.itoa y))))
  else if k=24 then .ok (bV (decide (yF (Lib.itoa x) (Lib.itoa y)<=0)))
  else if k=25 then .ok (bV (decide (0<=yF (Lib.itoa x) (Lib.itoa y))))
  else if k=15 then xA a (gW (x+y))
  else if k=16 then xA a (gW (x-y))
  else if k=17 then xA a (gW (x*y))
  else if k=18 then xA a (Em (Lib.itoa x) (Lib.itoa y))
  else if k=19 then xA a (EF (Lib.itoa x) (Lib.itoa y))
  else .ok (nV []):=by
 show(if(gK 3 (iV x)&&gK 3 (iV y))=true then _ else _)=_;rw[aJ (show(gK 3 (iV x)&&gK 3 (iV y))=true from rfl)];simp only[JV.t,FD];rfl
theorem Pp{x y:Int}{a b s t:Nat}(hE:lH ex)(he:ex[i]?=some e)(hk:e.k=15)(ha:e.args=[a,b])(h:iE ex a env (iV x) s)(h':iE ex b env (iV y) t)(hb:(x+y).natAbs<10^100):iE ex i env (iV (x+y)) (s+t+1):=
 Yc hE he (by omega) (by omega) ha h h' (by rw[Jf (by omega),Ja,hk,Mb hb];rfl) (iJ hb)
theorem Po{x y:Int}{a b s t:Nat}(hE:lH ex)(he:ex[i]?=some e)(hk:e.k=17)(ha:e.args=[a,b])(h:iE ex a env (iV x) s)(h':iE ex b env (iV y) t)(hb:(x*y).natAbs<10^100):iE ex i env (iV (x*y)) (s+t+1):=
 Yc hE he (by omega) (by omega) ha h h' (by rw[Jf (by omega),Ja,hk,Mb hb];rfl) (iJ hb)
end
def mG(s:Str):Str:=[97,32,123,10,32,32,120,32,61,32]++s++[10,125]
def I63(n:Int):Prop:=-9223372036854775808<=n/\n<=9223372036854775807
theorem I63.abs{n:Int}(h:I63 n):n.natAbs<=9223372036854775808:=by obtain⟨h1,h2⟩:=h;omega
theorem Lo{n:Int}(h:n.natAbs<10^100):(Lib.itoa n).length<=101:=by
 have h1:=yD 100 n.natAbs h (by omega);unfold Lib.itoa;split
 ·simp only[aB];omega
 ·have:n.toNat=n.natAbs:=by omega
  rw[this];omega
def JF:List Ex:=[⟨4,[49],[],[],10⟩,⟨4,[50],[],[],14⟩,⟨4,[51],[],[],18⟩,⟨17,[],[1,2],[],16⟩,⟨15,[],[0,3],[],12⟩]
def XZ:Str:=[49,32,43,32,50,32,42,32,51]
theorem aCL:Go.Syn.parseM (mG XZ)=.ok ⟨JF,[⟨[97],[],[⟨[120],4,6⟩],[],0⟩],[0]⟩:=by decide+kernel
def Cs:List Ex:=[⟨5,[97],[],[],11⟩,⟨4,[49],[],[],14⟩,⟨2,[],[],[],18⟩,⟨6,[],[0,1,2],[[116],[101],[101]],10⟩]
def XY:Str:=[34,97,36,123,49,125,36,123,116,114,117,101,125,34]
theorem aCK:Go.Syn.parseM (mG XY)=.ok ⟨Cs,[⟨[97],[],[⟨[120],3,6⟩],[],0⟩],[0]⟩:=by decide+kernel
def Ej:List Ex:=[⟨4,[49],[],[],10⟩,⟨4,[48],[],[],14⟩,⟨18,[],[0,1],[],12⟩]
def XX:Str:=[49,32,47,32,48]
theorem aCJ:Go.Syn.parseM (mG XX)=.ok ⟨Ej,[⟨[97],[],[⟨[120],2,6⟩],[],0⟩],[0]⟩:=by decide+kernel
end
section
open Go Go.Num Go.Syn
def more(n:Nat)(a:Int):Int:=if n<10 then a else a+1
end
section
open Go Go.Num Go.Syn
variable{w:World}{K:Q0}{cs:List Value}{G:Nat->Prop}{T:TypeId}{i:Nat}{n:Nat}{v:Value}{w':World}{P:Program}{c:UInt8}{S:Nat->Prop}
def Sb(ex:List Ex)(i:Nat)(env:Env)(c a:Int)(s:Nat):Prop:=∀left,s<=left->rI ex (i+1) i env left=.err c a
theorem LG{ex:List Ex}{s:Nat}{e:Ex}{env:Env}{vs:List JV}{c a:Int}(hE:lH ex)(he:ex[i]?=some e)(h28:e.k≠28)(h29:e.k≠29)(hl:Ez ex env e.args vs s)(hm:oX ex e env vs=.err c a):Sb ex i env c a (s+1):=by
 obtain⟨h1,_⟩:=Al hl;intro left hle;rw[uS hE he (eA _)];unfold wW;rw[aE (by omega)];show EvR.bind (pD (sH ex) ex e env (left-1)) _=_;unfold pD;rw[aE h28,aE h29,h1 _ (by omega)];show EvR.bind ((oX ex e env vs).at_ _) _=_;rw[hm];rfl
theorem Gi{f:Fl}{s:Nat}{scope:JV}{c a:Int}(h:Sb f.ex i (qK scope.ks scope.xs) c a s)(hs:s<=20000):zZ f i scope=.err c a:=by
 unfold zZ;rw[h 20000 hs]
theorem Sg(env:Env):iE JF 4 env (iV 7) 5:=by
 have hE:lH JF:=eQ (by decide);have h0:=Di (env:=env) hE (i:=0) (n:=1) rfl rfl rfl (by decide) (by decide);have h1:=Di (env:=env) hE (i:=1) (n:=2) rfl rfl rfl (by decide) (by decide);have h2:=Di (env:=env) hE (i:=2) (n:=3) rfl rfl rfl (by decide) (by decide);have h3:=Po hE (i:=3) rfl rfl rfl h1 h2 (by omega);exact Pp hE (i:=4) rfl rfl rfl h0 h3 (by omega)
theorem Sf(env:Env):iE Cs 3 env (tV [97,49,116,114,117,101]) 4:=by
 have hE:lH Cs:=eQ (by decide);have h0:iE Cs 0 env (tV [97]) 1:=lK hE rfl (by decide) (by decide) rfl rfl (MA (by decide));have h1:iE Cs 1 env (nV [49]) 1:=lK hE rfl (by decide) (by decide) rfl rfl (by decide);have h2:iE Cs 2 env (bV true) 1:=Ny hE rfl rfl rfl;exact Bn hE (i:=3) (s:=3) rfl (by decide) (by decide) (.cons h0 (.cons h1 (.cons h2 .nil))) rfl (MA (by decide))
theorem Se(env:Env):Sb Ej 2 env 10 12 3:=by
 have hE:lH Ej:=eQ (by decide);have h0:iE Ej 0 env (nV [49]) 1:=lK hE rfl (by decide) (by decide) rfl rfl (by decide);have h1:iE Ej 1 env (nV [48]) 1:=lK hE rfl (by decide) (by decide) rfl rfl (by decide);exact LG hE rfl (by decide) (by decide) (.cons h0 (.cons h1 .nil)) rfl
def Aw(ex:List Ex)(i:Nat)(env:Env)(s:Nat):Prop:=∃c a,∀left,s<=left->rI ex (i+1) i env left=.err c a
theorem Gj{ex:List Ex}{s:Nat}{e:Ex}{env:Env}{c a:Int}(hE:lH ex)(he:ex[i]?=some e)(h1:∀left,s<=left->pD (sH ex) ex e env left=.err c a):Aw ex i env (s+1):=
 ⟨c,a,λleft hl=>by
   rw[uS hE he (eA _)]
   unfold wW
   rw[aE (by omega)]
   show EvR.bind (pD (sH ex) ex e env (left-1)) _=_
   rw[h1 (left-1) (by omega)];rfl⟩
theorem vW{ex:List Ex}{s:Nat}{e:Ex}{env:Env}{vs:List JV}{c a:Int}(hE:lH ex)(he:ex[i]?=some e)(h28:e.k≠28)(h29:e.k≠29)(hl:Ez ex env e.args vs s)(hm:oX ex e env vs=.err c a):Aw ex i env (s+1):=by
 obtain⟨h1,_⟩:=Al hl;refine Gj (c:=c) (a:=a) hE he λleft hle=>?_;unfold pD;rw[aE h28,aE h29,h1 left hle];show(oX ex e env vs).at_ _=_;rw[hm];rfl
theorem qJ{ex:List Ex}{s t p q:Nat}{e:Ex}{env:Env}{v:JV}(hE:lH ex)(he:ex[i]?=some e)(h28:e.k≠28)(h29:e.k≠29)(ha:e.args=[p,q])(h:iE ex p env v s)(h':Aw ex q env t):Aw ex i env (s+t+1):=by
 obtain⟨c,a,h'⟩:=h';refine Gj (c:=c) (a:=a) hE he λleft hle=>?_;unfold pD;rw[aE h28,aE h29,ha];unfold nQ;show EvR.bind (EvR.bind (rI ex (p+1) p env left) _) _=_;rw[h.ok left (by omega)];show EvR.bind (EvR.bind (nQ (sH ex) env [q] (left-s)) _) _=_;unfold nQ;show EvR.bind (EvR.bind (EvR.bind (rI ex (q+1) q env (left-s)) _) _) _=_;rw[h' _ (by omega)];rfl
def HI:List Ex:=[⟨9,[121],[],[],10⟩,⟨4,[49],[],[],14⟩,⟨4,[48],[],[],18⟩,⟨18,[],[1,2],[],16⟩,⟨9,[110],[],[],22⟩,⟨28,[],[0,3,4],[],12⟩]
def YP:Str:=[121,32,63,32,49,32,47,32,48,32,58,32,110]
theorem Zu:Go.Syn.parseM (mG YP)=.ok ⟨HI,[⟨[97],[],[⟨[120],5,6⟩],[],0⟩],[0]⟩:=by decide+kernel
theorem QD{n:Int}{yes:Bool}(hn:I63 n){env:Env}(ey:env [121]=some (bV false))(en:env [110]=some (iV n))(eo:env [110,111,112,101]=none):∃s,s<=1000/\iE HI 5 env (iV n) s:=by
 have hE:lH HI:=eQ (by decide);have a1:=hn.abs;have h0:=eW hE (i:=0) rfl rfl rfl ey (nK _);have h1:iE _ 1 env (nV [49]) 1:=lK hE rfl (by decide) (by decide) rfl rfl (by decide);have h2:iE _ 2 env (nV [48]) 1:=lK hE rfl (by decide) (by decide) rfl rfl (by decide);have h4:=eW hE (i:=4) rfl rfl rfl en (iJ (by omega));have h5:=lT hE (i:=5) rfl rfl rfl h0 h4 (iJ (by omega));exact⟨_,by decide,h5⟩
def HH:List Ex:=[⟨9,[121],[],[],10⟩,⟨9,[110,111,112,101],[],[],14⟩,⟨9,[110],[],[],21⟩,⟨28,[],[0,1,2],[],12⟩]
def YO:Str:=[121,32,63,32,110,111,112,101,32,58,32,110]
theorem Zt:Go.Syn.parseM (mG YO)=.ok ⟨HH,[⟨[97],[],[⟨[120],3,6⟩],[],0⟩],[0]⟩:=by decide+kernel
theorem QC{n:Int}{yes:Bool}(hn:I63 n){env:Env}(ey:env [121]=some (bV false))(en:env [110]=some (iV n))(eo:env [110,111,112,101]=none):∃s,s<=1000/\iE HH 3 env (iV n) s:=by
 have hE:lH HH:=eQ (by decide);have a1:=hn.abs;have h0:=eW hE (i:=0) rfl rfl rfl ey (nK _);have h2:=eW hE (i:=2) rfl rfl rfl en (iJ (by omega));have h3:=lT hE (i:=3) rfl rfl rfl h0 h2 (iJ (by omega));exact⟨_,by decide,h3⟩
def HG:List Ex:=[⟨9,[121],[],[],10⟩,⟨7,[],[],[],14⟩,⟨4,[48],[],[],17⟩,⟨11,[],[1,2],[],16⟩,⟨9,[110],[],[],22⟩,⟨28,[],[0,3,4],[],12⟩]
def YN:Str:=[121,32,63,32,91,93,91,48,93,32,58,32,110]
theorem Zs:Go.Syn.parseM (mG YN)=.ok ⟨HG,[⟨[97],[],[⟨[120],5,6⟩],[],0⟩],[0]⟩:=by decide+kernel
theorem QB{n:Int}{yes:Bool}(hn:I63 n){env:Env}(ey:env [121]=some (bV false))(en:env [110]=some (iV n))(eo:env [110,111,112,101]=none):∃s,s<=1000/\iE HG 5 env (iV n) s:=by
 have hE:lH HG:=eQ (by decide);have a1:=hn.abs;have h0:=eW hE (i:=0) rfl rfl rfl ey (nK _);have h1:iE _ 1 env (lV []) 1:=lK hE rfl (by decide) (by decide) rfl rfl (by decide);have h2:iE _ 2 env (nV [48]) 1:=lK hE rfl (by decide) (by decide) rfl rfl (by decide);have h4:=eW hE (i:=4) rfl rfl rfl en (iJ (by omega));have h5:=lT hE (i:=5) rfl rfl rfl h0 h4 (iJ (by omega));exact⟨_,by decide,h5⟩
def HF:List Ex:=[⟨9,[121],[],[],10⟩,⟨4,[49],[],[],20⟩,⟨12,[117,112,112,101,114],[1],[],14⟩,⟨9,[110],[],[],25⟩,⟨28,[],[0,2,3],[],12⟩]
def YM:Str:=[121,32,63,32,117,112,112,101,114,40,49,41,32,58,32,110]
theorem Zr:Go.Syn.parseM (mG YM)=.ok ⟨HF,[⟨[97],[],[⟨[120],4,6⟩],[],0⟩],[0]⟩:=by decide+kernel
theorem QA{n:Int}{yes:Bool}(hn:I63 n){env:Env}(ey:env [121]=some (bV false))(en:env [110]=some (iV n))(eo:env [110,111,112,101]=none):∃s,s<=1000/\iE HF 4 env (iV n) s:=by
 have hE:lH HF:=eQ (by decide);have a1:=hn.abs;have h0:=eW hE (i:=0) rfl rfl rfl ey (nK _);have h1:iE _ 1 env (nV [49]) 1:=lK hE rfl (by decide) (by decide) rfl rfl (by decide);have h3:=eW hE (i:=3) rfl rfl rfl en (iJ (by omega));have h4:=lT hE (i:=4) rfl rfl rfl h0 h3 (iJ (by omega));exact⟨_,by decide,h4⟩
def HE:List Ex:=[⟨9,[121],[],[],10⟩,⟨8,[],[],[],14⟩,⟨10,[97],[1],[],16⟩,⟨9,[110],[],[],21⟩,⟨28,[],[0,2,3],[],12⟩]
def YL:Str:=[121,32,63,32,123,125,46,97,32,58,32,110]
theorem Zq:Go.Syn.parseM (mG YL)=.ok ⟨HE,[⟨[97],[],[⟨[120],4,6⟩],[],0⟩],[0]⟩:=by decide+kernel
theorem Qz{n:Int}{yes:Bool}(hn:I63 n){env:Env}(ey:env [121]=some (bV false))(en:env [110]=some (iV n))(eo:env [110,111,112,101]=none):∃s,s<=1000/\iE HE 4 env (iV n) s:=by
 have hE:lH HE:=eQ (by decide);have a1:=hn.abs;have h0:=eW hE (i:=0) rfl rfl rfl ey (nK _);have h1:iE _ 1 env (.mk 6 false [] [] []) 1:=lK hE rfl (by decide) (by decide) rfl rfl (by decide);have h3:=eW hE (i:=3) rfl rfl rfl en (iJ (by omega));have h4:=lT hE (i:=4) rfl rfl rfl h0 h3 (iJ (by omega));exact⟨_,by decide,h4⟩
def HD:List Ex:=[⟨9,[121],[],[],10⟩,⟨4,[49],[],[],15⟩,⟨4,[48],[],[],19⟩,⟨18,[],[1,2],[],17⟩,⟨27,[],[0,3],[],12⟩]
def YK:Str:=[121,32,124,124,32,49,32,47,32,48]
theorem Zp:Go.Syn.parseM (mG YK)=.ok ⟨HD,[⟨[97],[],[⟨[120],4,6⟩],[],0⟩],[0]⟩:=by decide+kernel
theorem Qy{n:Int}{yes:Bool}(hn:I63 n){env:Env}(ey:env [121]=some (bV yes))(en:env [110]=some (iV n))(eo:env [110,111,112,101]=none):∃s,s<=1000/\Aw HD 4 env s:=by
 have hE:lH HD:=eQ (by decide);have a1:=hn.abs;have h0:=eW hE (i:=0) rfl rfl rfl ey (nK _);have h1:iE _ 1 env (nV [49]) 1:=lK hE rfl (by decide) (by decide) rfl rfl (by decide);have h2:iE _ 2 env (nV [48]) 1:=lK hE rfl (by decide) (by decide) rfl rfl (by decide);have h3:Aw _ 3 env _:=vW (c:=10) (a:=17) hE rfl (by decide) (by decide) (.cons h1 (.cons h2 (.nil))) rfl;have h4:=qJ hE (i:=4) rfl (by decide) (by decide) rfl h0 h3;exact⟨_,by decide,h4⟩
def HC:List Ex:=[⟨9,[121],[],[],10⟩,⟨9,[110,111,112,101],[],[],15⟩,⟨27,[],[0,1],[],12⟩]
def YJ:Str:=[121,32,124,124,32,110,111,112,101]
theorem Zo:Go.Syn.parseM (mG YJ)=.ok ⟨HC,[⟨[97],[],[⟨[120],2,6⟩],[],0⟩],[0]⟩:=by decide+kernel
theorem Qx{n:Int}{yes:Bool}(hn:I63 n){env:Env}(ey:env [121]=some (bV yes))(en:env [110]=some (iV n))(eo:env [110,111,112,101]=none):∃s,s<=1000/\Aw HC 2 env s:=by
 have hE:lH HC:=eQ (by decide);have a1:=hn.abs;have h0:=eW hE (i:=0) rfl rfl rfl ey (nK _);have h1:Aw _ 1 env _:=vW (c:=80) (a:=15) hE rfl (by decide) (by decide) .nil (by show(match env [110,111,112,101]with|some v=>MdR.ok v|none=>MdR.err 80 _)=_;rw[eo]);have h2:=qJ hE (i:=2) rfl (by decide) (by decide) rfl h0 h1;exact⟨_,by decide,h2⟩
def HB:List Ex:=[⟨9,[121],[],[],10⟩,⟨7,[],[],[],15⟩,⟨4,[48],[],[],18⟩,⟨11,[],[1,2],[],17⟩,⟨27,[],[0,3],[],12⟩]
def YI:Str:=[121,32,124,124,32,91,93,91,48,93]
theorem Zn:Go.Syn.parseM (mG YI)=.ok ⟨HB,[⟨[97],[],[⟨[120],4,6⟩],[],0⟩],[0]⟩:=by decide+kernel
theorem Qw{n:Int}{yes:Bool}(hn:I63 n){env:Env}(ey:env [121]=some (bV yes))(en:env [110]=some (iV n))(eo:env [110,111,112,101]=none):∃s,s<=1000/\Aw HB 4 env s:=by
 have hE:lH HB:=eQ (by decide);have a1:=hn.abs;have h0:=eW hE (i:=0) rfl rfl rfl ey (nK _);have h1:iE _ 1 env (lV []) 1:=lK hE rfl (by decide) (by decide) rfl rfl (by decide);have h2:iE _ 2 env (nV [48]) 1:=lK hE rfl (by decide) (by decide) rfl rfl (by decide);have h3:Aw _ 3 env _:=vW (c:=82) (a:=17) hE rfl (by decide) (by decide) (.cons h1 (.cons h2 (.nil))) rfl;have h4:=qJ hE (i:=4) rfl (by decide) (by decide) rfl h0 h3;exact⟨_,by decide,h4⟩
def HA:List Ex:=[⟨9,[121],[],[],10⟩,⟨4,[49],[],[],21⟩,⟨12,[117,112,112,101,114],[1],[],15⟩,⟨27,[],[0,2],[],12⟩]
def YH:Str:=[121,32,124,124,32,117,112,112,101,114,40,49,41]
theorem Zm:Go.Syn.parseM (mG YH)=.ok ⟨HA,[⟨[97],[],[⟨[120],3,6⟩],[],0⟩],[0]⟩:=by decide+kernel
theorem Qv{n:Int}{yes:Bool}(hn:I63 n){env:Env}(ey:env [121]=some (bV yes))(en:env [110]=some (iV n))(eo:env [110,111,112,101]=none):∃s,s<=1000/\Aw HA 3 env s:=by
 have hE:lH HA:=eQ (by decide);have a1:=hn.abs;have h0:=eW hE (i:=0) rfl rfl rfl ey (nK _);have h1:iE _ 1 env (nV [49]) 1:=lK hE rfl (by decide) (by decide) rfl rfl (by decide);have h2:Aw _ 2 env _:=vW (c:=71) (a:=15) hE rfl (by decide) (by decide) (.cons h1 (.nil)) rfl;have h3:=qJ hE (i:=3) rfl (by decide) (by decide) rfl h0 h2;exact⟨_,by decide,h3⟩
def Hz:List Ex:=[⟨9,[121],[],[],10⟩,⟨8,[],[],[],15⟩,⟨10,[97],[1],[],17⟩,⟨27,[],[0,2],[],12⟩]
def YG:Str:=[121,32,124,124,32,123,125,46,97]
theorem Zl:Go.Syn.parseM (mG YG)=.ok ⟨Hz,[⟨[97],[],[⟨[120],3,6⟩],[],0⟩],[0]⟩:=by decide+kernel
theorem Qu{n:Int}{yes:Bool}(hn:I63 n){env:Env}(ey:env [121]=some (bV yes))(en:env [110]=some (iV n))(eo:env [110,111,112,101]=none):∃s,s<=1000/\Aw Hz 3 env s:=by
 have hE:lH Hz:=eQ (by decide);have a1:=hn.abs;have h0:=eW hE (i:=0) rfl rfl rfl ey (nK _);have h1:iE _ 1 env (.mk 6 false [] [] []) 1:=lK hE rfl (by decide) (by decide) rfl rfl (by decide);have h2:Aw _ 2 env _:=vW (c:=82) (a:=17) hE rfl (by decide) (by decide) (.cons h1 (.nil)) rfl;have h3:=qJ hE (i:=3) rfl (by decide) (by decide) rfl h0 h2;exact⟨_,by decide,h3⟩
def Hy:List Ex:=[⟨9,[121],[],[],10⟩,⟨9,[110],[],[],14⟩,⟨4,[49],[],[],18⟩,⟨4,[48],[],[],22⟩,⟨18,[],[2,3],[],20⟩,⟨28,[],[0,1,4],[],12⟩]
def YF:Str:=[121,32,63,32,110,32,58,32,49,32,47,32,48]
theorem Zk:Go.Syn.parseM (mG YF)=.ok ⟨Hy,[⟨[97],[],[⟨[120],5,6⟩],[],0⟩],[0]⟩:=by decide+kernel
theorem Qs{n:Int}{yes:Bool}(hn:I63 n){env:Env}(ey:env [121]=some (bV true))(en:env [110]=some (iV n))(eo:env [110,111,112,101]=none):∃s,s<=1000/\iE Hy 5 env (iV n) s:=by
 have hE:lH Hy:=eQ (by decide);have a1:=hn.abs;have h0:=eW hE (i:=0) rfl rfl rfl ey (nK _);have h1:=eW hE (i:=1) rfl rfl rfl en (iJ (by omega));have h2:iE _ 2 env (nV [49]) 1:=lK hE rfl (by decide) (by decide) rfl rfl (by decide);have h3:iE _ 3 env (nV [48]) 1:=lK hE rfl (by decide) (by decide) rfl rfl (by decide);have h5:=lT hE (i:=5) rfl rfl rfl h0 h1 (iJ (by omega));exact⟨_,by decide,h5⟩
def Hw:List Ex:=[⟨9,[121],[],[],10⟩,⟨9,[110],[],[],14⟩,⟨9,[110,111,112,101],[],[],18⟩,⟨28,[],[0,1,2],[],12⟩]
def YE:Str:=[121,32,63,32,110,32,58,32,110,111,112,101]
theorem Zj:Go.Syn.parseM (mG YE)=.ok ⟨Hw,[⟨[97],[],[⟨[120],3,6⟩],[],0⟩],[0]⟩:=by decide+kernel
theorem Qr{n:Int}{yes:Bool}(hn:I63 n){env:Env}(ey:env [121]=some (bV true))(en:env [110]=some (iV n))(eo:env [110,111,112,101]=none):∃s,s<=1000/\iE Hw 3 env (iV n) s:=by
 have hE:lH Hw:=eQ (by decide);have a1:=hn.abs;have h0:=eW hE (i:=0) rfl rfl rfl ey (nK _);have h1:=eW hE (i:=1) rfl rfl rfl en (iJ (by omega));have h3:=lT hE (i:=3) rfl rfl rfl h0 h1 (iJ (by omega));exact⟨_,by decide,h3⟩
def Hv:List Ex:=[⟨9,[121],[],[],10⟩,⟨9,[110],[],[],14⟩,⟨7,[],[],[],18⟩,⟨4,[48],[],[],21⟩,⟨11,[],[2,3],[],20⟩,⟨28,[],[0,1,4],[],12⟩]
def YD:Str:=[121,32,63,32,110,32,58,32,91,93,91,48,93]
theorem Zi:Go.Syn.parseM (mG YD)=.ok ⟨Hv,[⟨[97],[],[⟨[120],5,6⟩],[],0⟩],[0]⟩:=by decide+kernel
theorem Qq{n:Int}{yes:Bool}(hn:I63 n){env:Env}(ey:env [121]=some (bV true))(en:env [110]=some (iV n))(eo:env [110,111,112,101]=none):∃s,s<=1000/\iE Hv 5 env (iV n) s:=by
 have hE:lH Hv:=eQ (by decide);have a1:=hn.abs;have h0:=eW hE (i:=0) rfl rfl rfl ey (nK _);have h1:=eW hE (i:=1) rfl rfl rfl en (iJ (by omega));have h2:iE _ 2 env (lV []) 1:=lK hE rfl (by decide) (by decide) rfl rfl (by decide);have h3:iE _ 3 env (nV [48]) 1:=lK hE rfl (by decide) (by decide) rfl rfl (by decide);have h5:=lT hE (i:=5) rfl rfl rfl h0 h1 (iJ (by omega));exact⟨_,by decide,h5⟩
def Hu:List Ex:=[⟨9,[121],[],[],10⟩,⟨9,[110],[],[],14⟩,⟨4,[49],[],[],24⟩,⟨12,[117,112,112,101,114],[2],[],18⟩,⟨28,[],[0,1,3],[],12⟩]
def YC:Str:=[121,32,63,32,110,32,58,32,117,112,112,101,114,40,49,41]
theorem Zh:Go.Syn.parseM (mG YC)=.ok ⟨Hu,[⟨[97],[],[⟨[120],4,6⟩],[],0⟩],[0]⟩:=by decide+kernel
theorem Qp{n:Int}{yes:Bool}(hn:I63 n){env:Env}(ey:env [121]=some (bV true))(en:env [110]=some (iV n))(eo:env [110,111,112,101]=none):∃s,s<=1000/\iE Hu 4 env (iV n) s:=by
 have hE:lH Hu:=eQ (by decide);have a1:=hn.abs;have h0:=eW hE (i:=0) rfl rfl rfl ey (nK _);have h1:=eW hE (i:=1) rfl rfl rfl en (iJ (by omega));have h2:iE _ 2 env (nV [49]) 1:=lK hE rfl (by decide) (by decide) rfl rfl (by decide);have h4:=lT hE (i:=4) rfl rfl rfl h0 h1 (iJ (by omega));exact⟨_,by decide,h4⟩
def Ht:List Ex:=[⟨9,[121],[],[],10⟩,⟨9,[110],[],[],14⟩,⟨8,[],[],[],18⟩,⟨10,[97],[2],[],20⟩,⟨28,[],[0,1,3],[],12⟩]
def YB:Str:=[121,32,63,32,110,32,58,32,123,125,46,97]
theorem Zg:Go.Syn.parseM (mG YB)=.ok ⟨Ht,[⟨[97],[],[⟨[120],4,6⟩],[],0⟩],[0]⟩:=by decide+kernel
theorem Qo{n:Int}{yes:Bool}(hn:I63 n){env:Env}(ey:env [121]=some (bV true))(en:env [110]=some (iV n))(eo:env [110,111,112,101]=none):∃s,s<=1000/\iE Ht 4 env (iV n) s:=by
 have hE:lH Ht:=eQ (by decide);have a1:=hn.abs;have h0:=eW hE (i:=0) rfl rfl rfl ey (nK _);have h1:=eW hE (i:=1) rfl rfl rfl en (iJ (by omega));have h2:iE _ 2 env (.mk 6 false [] [] []) 1:=lK hE rfl (by decide) (by decide) rfl rfl (by decide);have h4:=lT hE (i:=4) rfl rfl rfl h0 h1 (iJ (by omega));exact⟨_,by decide,h4⟩
end
end Go.Eng
namespace Go.Proofs.YtghhmpppnmoeoaaGreatDoor
section
open Go Go.Eng Go.Num Go.RowKit
variable{w:World}{K:Q0}{cs:List Value}{G:Nat->Prop}{T:TypeId}{i:Nat}{n:Nat}{v:Value}{w':World}{P:Program}{c:UInt8}{S:Nat->Prop}
theorem MN(u:Nat):Lib.decDigits u≠[]:=by
 rw[Lib.decDigits];split<;>simp
theorem Ru(u:Nat)(h:0<u):Lib.decDigits u=(if u/10=0 then []else Lib.decDigits (u/10))++[UInt8.ofNat (48+u%10)]:=by
 rw[Lib.decDigits];split
 ·rw[aJ (by omega),gV (by omega)];rfl
 ·rw[aE (by omega)]
theorem Ou{u:Nat}(h:Lib.decDigits u=[48]):u=0:=by
 rw[Lib.decDigits]at h;split at h
 ·rename_i hu;have:=List.head_eq_of_cons_eq h;have e:=congrArg UInt8.toNat this;rw[iK]at e;have:(48:UInt8).toNat=48:=rfl;omega
 ·rename_i hu;have:=congrArg List.length h;rw[aX]at this;have h0:0<(Lib.decDigits (u/10)).length:=dP.2 (MN _);simp at this;exact absurd this (MN _)
theorem JP:∀(k u:Nat),u<10^k->(Lib.decDigits u).length<=k+1:=by
 intro k;induction k with
 |zero=>intro u h;rw[Lib.decDigits,dif_pos (by omega)];simp
 |succ k ih=>
  intro u h;rw[Lib.decDigits];split
  ·simp
  ·have:=ih (u/10) (by rw[qP]at h;omega);rw[aX,List.length_singleton];omega
section
variable [HX]
theorem Nu{n:Int}{K:Q0}(hn:n≠0)(h1:-9223372036854775808<=n)(h2:n<=9223372036854775807)(hK:K (str (Lib.itoa n)) w):aC P0 38 [.bool (decide (n<0)),str (Lib.decDigits n.natAbs)] w K:=by
 refine aB2 ?_;unfold W38;have hne:Lib.decDigits n.natAbs≠[48]:=λe=>by have:=Ou e;omega
 unfold Lib.itoa at hK;by_cases hneg:n<0
 ·rw[aJ hneg]at hK;rw[bI hneg];refine GdW.look true (λ_ J hJ=>?_) λg=>?_
  ·rw[wT,bI hne];exact hJ
  show aR (.bool true) _ _;rw[dY,pF];have:=JP 19 n.natAbs (by omega);have em:IntKind.i64.max=9223372036854775807:=by decide
  refine⟨by rw[em];simp only[aB,aM];omega,?_⟩;exact hK
 ·rw[aE hneg]at hK;rw[cP hneg];refine GdW.f λg=>?_;show aR (.bool false) _ _;rw[cX];rw[show n.natAbs=n.toNat by omega];exact hK
theorem JN{n:Int}{K:Q0}(h1:-9223372036854775808<=n)(h2:n<=9223372036854775807)(hK:∀w',Ext w w'->K (str (Lib.itoa n)) w'):aC P0 22 [i64 n] w K:=by
 refine aCd ?_;unfold W22;rw[bM,aO];refine⟨λh0=>?_,λh0=>?_⟩
 ·subst h0;have e:Lib.itoa 0=[48]:=by unfold Lib.itoa;rw[aE (by decide),Lib.decDigits,dif_pos (by decide)];rfl
  rw[e]at hK;exact hK w (Chg.refl _ _)
 refine⟨λs w'=>∃(m:Int) (out:Str),s=[str out,i64 m]/\Ext w w'/\(if m=0 then []else Lib.decDigits m.natAbs)++out=Lib.decDigits n.natAbs/\-9223372036854775808<=m/\m<=9223372036854775807,
  λs _=>match s with|[_,.int _ i]=>i.natAbs|_=>0,⟨n,[],rfl,Chg.refl _ _,by rw[aE h0,dV],h1,h2⟩,?_⟩
 rintro s g w2 ⟨m,out,rfl,hx,he,hm1,hm2⟩;simp only[aG,dE];rw[fT,aO];refine⟨λhne=>?_,λhe0=>?_⟩
 ·have hol:out.length<=25:=by
   have:=JP 19 n.natAbs (by omega);rw[<-he,aX]at this;omega
  rw[aE hne,Ru _ (by omega),eV]at he;rw[CR];refine⟨by decide,?_⟩;have hd:(m.tmod 10).natAbs=m.natAbs%10:=by rw[Int.natAbs_tmod];rfl
  have hq:(m.tdiv 10).natAbs=m.natAbs/10:=by rw[Int.natAbs_tdiv];rfl
  refine bS.cut (λs' w'=>s'=[i64 ((m.natAbs%10:Nat):Int)]/\w'=w2) ?_ ?_
  ·rw[eC,aO];refine⟨λh=>?_,λh=>?_⟩
   ·rw[OL,cN (by omega) (by omega),show 0-m.tmod 10=((m.natAbs%10:Nat):Int)by omega];exact⟨rfl,rfl⟩
   ·rw[show m.tmod 10=((m.natAbs%10:Nat):Int)by omega];exact⟨rfl,rfl⟩
  rintro s' g2 w3 ⟨rfl,rfl⟩;simp only[aG];rw[cC,cN (by omega) (by omega),mZ,show(48:Int)+((m.natAbs%10:Nat):Int)=((48+m.natAbs%10:Nat):Int)by omega,yO,gV (by omega)];refine GR λt w4 ht hx4=>?_;have hb:Byt w4 U8 t [UInt8.ofNat (48+m.natAbs%10)]:=by
   have e1:u8s [UInt8.ofNat (48+m.natAbs%10)]=[.int .u8 ((48+m.natAbs%10:Nat):Int)]:=by
    simp only[u8s,dG,oD,iK];rw[gV (by omega)]
   unfold Byt;rw[e1];exact ht
  rw[Ar (l:=[UInt8.ofNat (48+m.natAbs%10)]) (e:=U8) (by kernel_rfl) (by kernel_rfl) (by kernel_rfl) hb,pF];have em:IntKind.i64.max=9223372036854775807:=by decide
  refine⟨by rw[em];simp only[aB,aM];omega,?_⟩;rw[HQ];refine⟨by decide,?_⟩;rw[cN (by omega) (by omega)];refine⟨⟨m.tdiv 10,_,rfl,hx.trans hx4,?_,by omega,by omega⟩,?_⟩
  ·rw[<-he,<-hq];by_cases hz:m.tdiv 10=0
   ·rw[aJ hz,aJ (by omega)]
   ·rw[aE hz,aE (by omega)]
  ·show(m.tdiv 10).natAbs<m.natAbs;omega
 ·have he0:m=0:=fP he0;rw[aJ he0,fF]at he;rw[eC,he];exact Nu h0 h1 h2 (hK w2 hx)
theorem DR{n:Int}{K:Q0}(h1:-9223372036854775808<=n)(h2:n<=9223372036854775807)(hK:∀w',Ext w w'->K (.agg (flat 3 false (Lib.itoa n)).toArray) w'):aC P0 18 [i64 n] w K:=by
 refine aCh ?_;unfold W18;refine bF λb w1 hb hz hbb hx=>?_;refine JN h1 h2 λw2 hx2=>?_;simp only[wsv,wsg,wsh,wsl,aN,aK,aD,eZ,Nat.reduceAdd,Nat.reduceLT,aF,aA,aI,aH,bL,reduceCtorEq];exact iP (hx2.at hbb id) rfl rfl rfl λw' hc=>hK w' ((hx.trans hx2).new hc (by omega))
end
end
end Go.Proofs.YtghhmpppnmoeoaaGreatDoor
