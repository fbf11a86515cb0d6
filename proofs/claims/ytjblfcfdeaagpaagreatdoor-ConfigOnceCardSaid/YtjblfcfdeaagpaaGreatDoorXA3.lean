/- One plain sentence: contracts and plain laws that the claim rests on. Conditions: those that each states. -/
import Derived.Test.YtjblfcfdeaagpaaGreatDoorXA2
import Derived.Test.YtjblfcfdeaagpaaGreatDoorXA1
set_option linter.all false
set_option linter.unusedSimpArgs false
set_option linter.unusedVariables false
set_option linter.unusedSectionVars false
set_option maxRecDepth 100000
namespace Go.Proofs.YtjblfcfdeaagpaaGreatDoor
section
open Go Go.Eng Go.RowKit Go.Syn Go.Lex
variable{w:World}{K:Q0}{cs:List Value}{G:Nat->Prop}{T:TypeId}{i:Nat}{n:Nat}{v:Value}{w':World}{P:Program}{c:UInt8}{S:Nat->Prop}
theorem jU(s:Str)(i j:Nat):(s.drop i).drop j=s.drop (i+j):=kP
section
variable [HX]
def Yi(n:Nat):Prop:=∀(s:Str) (w:World) (K:Q0),s.length<=n->s.length<=1000000->K (i64 (qA s 0:Nat)) w->aJ P0 153 [str s] w K
def UA(n:Nat):Prop:=∀(c:UInt8) (r:Str) (w:World) (K:Q0),r.length<n->r.length<=1000000->K (i64 ((1+sL r:Nat):Int)) w->aJ P0 202 [str (c::r)] w K
theorem Ix(hq:UA n):Yi n:=by
 intro s w K hn hl hK;refine TK ?_;unfold aAb;refine dL.go (λst w'=>∃(d:Int) (i:Nat),st=[i64 d,i64 (i:Nat)]/\i<=s.length/\w'=w/\i+qA (s.drop i) d=qA s 0/\-(i:Int)<=d/\d<=i) (λst _=>match st with|[_,.int _ i]=>s.length-i.toNat|_=>0) ⟨0,0,rfl,by omega,rfl,by simp,by omega,by omega⟩ ?_;rintro st g w2 ⟨d,i,rfl,hi,rfl,hb,hd1,hd2⟩;simp only[aC,bO];rw[dV,dI,bD];refine⟨λhlt=>?_,λhge=>?_⟩
 ·have hlt:i<s.length:=by omega
  have hd:=lD hlt;rw[hd,pH]at hb;have cond:∀(k:Nat),k<256->(((s[i].toNat:Nat):Int)=(k:Int)↔s[i]=UInt8.ofNat k):=λk hk=>by
   have:=Ev s[i] k hk;rwa[decide_eq_decide]at this
  refine dE.cut (λst w'=>w'=w2/\∃(d':Int) (j:Nat),st=[i64 d',i64 (j:Nat)]/\i<=j/\j<s.length/\j+1+qA (s.drop (j+1)) d'=qA s 0/\-((j+1:Nat):Int)<=d'/\d'<=((j+1:Nat):Int)) ?_ ?_
  ·refine sA hlt ?_;rw[cL,bD];refine⟨λe=>?_,λe=>?_⟩
   ·have e:s[i]=123:=(cond 123 (by omega)).1 e;rw[aU e]at hb;rw[cJ,gI (by omega) (by omega)];exact⟨rfl,d+1,i,rfl,aZ _,hlt,by omega,by omega,by omega⟩
   have e:¬s[i]=123:=λh=>e ((cond 123 (by omega)).2 h);rw[aL e]at hb;rw[cL,bD];refine⟨λe=>?_,λe=>?_⟩
   ·have e:s[i]=125:=(cond 125 (by omega)).1 e;rw[aU e]at hb;rw[gR,gI (by omega) (by omega),cL,bD];refine⟨λh0=>?_,λh0=>?_⟩
    ·rw[aU h0]at hb;rw[cJ,upi (by omega),hb];exact hK
    ·rw[aL h0]at hb;exact⟨rfl,d-1,i,rfl,aZ _,hlt,by omega,by omega,by omega⟩
   have e:¬s[i]=125:=λh=>e ((cond 125 (by omega)).2 h);rw[aL e]at hb;rw[cL,bD];refine⟨λe=>?_,λe=>?_⟩
   ·have e:s[i]=34:=(cond 34 (by omega)).1 e;rw[aU e]at hb;rw[fA,fC,eR];refine⟨by omega,by omega,?_⟩;rw[dZ,aV,hd];refine hq _ _ _ _ (by rw[aX];omega) (by rw[aX];omega) ?_;have hle:=(UR _ (s.drop (i+1)) (aZ _)).2;rw[aX]at hle;rw[gR,gI (by omega) (by omega),cJ,gI (by omega) (by omega)];rw[jU]at hb;refine⟨rfl,d,i+sL (s.drop (i+1)),?_,by omega,?_,?_,by omega,by omega⟩
    ·simp only[gP,Value.int.injEq,dJ,fM];omega
    ·omega
    ·rw[show i+sL (s.drop (i+1))+1=i+1+sL (s.drop (i+1))by omega];omega
   have e:¬s[i]=34:=λh=>e ((cond 34 (by omega)).2 h);rw[aL e]at hb;exact⟨rfl,d,i,rfl,aZ _,hlt,by omega,by omega,by omega⟩
  rintro st g2 w3 ⟨rfl,d',j,rfl,hij,hj,hb',h1,h2⟩;simp only[aC,bO];rw[cJ,upi (by omega)];refine⟨⟨d',j+1,rfl,by omega,trivial,by omega,by omega,by omega⟩,?_⟩;simp only[aV];omega
 ·obtain rfl:i=s.length:=by omega
  rw[gU,Ot]at hb;rw[<-hb]at hK;exact hK
theorem MZ(hbr:Yi n):UA (n+1):=by
 intro c r w K hn hl hK;refine Tg ?_;unfold ZB;have hlen:(c::r).length=r.length+1:=rfl;refine dL.go (λst w'=>∃(i:Nat),st=[i64 ((i+1:Nat):Int)]/\w'=w/\((i<=r.length/\i+sL (r.drop i)=sL r)\/(i=r.length+1/\sL r=r.length))) (λst _=>match st with|[.int _ i]=>r.length+2-i.toNat|_=>0) ⟨0,rfl,rfl,.inl ⟨by omega,by simp⟩⟩ ?_;rintro st g w2 ⟨i,rfl,rfl,hbi⟩;simp only[aC,bO];rw[dV,dI,bD,hlen];refine⟨λhlt=>?_,λhge=>?_⟩
 ·have hlt:i<r.length:=by omega
  obtain⟨hi,hb⟩:=hbi.resolve_right (by omega);have hd:=lD hlt;rw[hd,Bs]at hb;have cond:∀(k:Nat),k<256->(((r[i].toNat:Nat):Int)=(k:Int)↔r[i]=UInt8.ofNat k):=λk hk=>by
   have:=Ev r[i] k hk;rwa[decide_eq_decide]at this
  have ix:∀{KK:Value->Prop},KK (.int .u8 (r[i].toNat:Nat))->nU (str (c::r)) (i64 ((i+1:Nat):Int)) KK:=λh=>sA (s:=c::r) (i:=i+1) (by rw[hlen];omega) h;refine dE.cut (λst w'=>w'=w2/\∃(j:Nat),st=[i64 ((j+1:Nat):Int)]/\i<=j/\((j+1<=r.length/\j+1+sL (r.drop (j+1))=sL r)\/(j+1=r.length+1/\sL r=r.length))) ?_ ?_
  ·refine ix ?_;rw[cL,bD];refine⟨λe=>?_,λe=>?_⟩
   ·have e:r[i]=34:=(cond 34 (by omega)).1 e;rw[aU e]at hb;rw[cJ,upi (by omega)];rw[<-hb,show 1+(i+1)=i+1+1 by omega]at hK;exact hK
   have e:¬r[i]=34:=λh=>e ((cond 34 (by omega)).2 h);rw[aL e]at hb;refine ix ?_;rw[cL,bD];refine⟨λe=>?_,λe=>?_⟩
   ·have e:r[i]=92:=(cond 92 (by omega)).1 e;rw[aU e]at hb;rw[cJ,upi (by omega)];refine⟨rfl,i+1,rfl,by omega,?_⟩;cases hr:r.drop (i+1)with
    |nil=>
     rw[hr]at hb;have hle:r.length<=i+1:=by
      have:=congrArg List.length hr;rw[aX,aK]at this;omega
     simp only at hb;exact .inr ⟨by omega,by omega⟩
    |cons x rr=>
     rw[hr]at hb;simp only at hb;have e2:r.drop (i+1+1)=rr:=by rw[<-jU,hr];rfl
     have e3:=congrArg List.length hr;rw[aX,aB]at e3;exact .inl ⟨by omega,by rw[e2];omega⟩
   have e:¬r[i]=92:=λh=>e ((cond 92 (by omega)).2 h);rw[aL e]at hb;rw[fA,fC,eR];refine⟨by omega,by rw[hlen];omega,?_⟩;rw[dZ,aV,eL,hd];refine Ai ?_;rw[pre_eq,eJ];refine⟨λe=>?_,λe=>?_⟩
   ·rw[aU e]at hb;rw[cJ,upi (by omega),fA,fC,eR];refine⟨by omega,by rw[hlen];omega,?_⟩;rw[dZ,aV,eL];refine hbr _ _ _ (by rw[aX];omega) (by rw[aX];omega) ?_;have hle:=GM (r.drop (i+1)) 0;rw[aX]at hle;rw[cJ,gI (by omega) (by omega)];rw[jU]at hb;refine⟨rfl,i+qA (r.drop (i+1)) 0,?_,by omega,.inl ⟨by omega,?_⟩⟩
    ·simp only[gP,Value.int.injEq,dJ,fM];omega
    ·rw[show i+qA (r.drop (i+1)) 0+1=i+1+qA (r.drop (i+1)) 0 by omega];omega
   ·rw[aL (by rw[e];decide)]at hb;exact⟨rfl,i,rfl,aZ _,.inl ⟨by omega,by omega⟩⟩
  rintro st g2 w3 ⟨rfl,j,rfl,hij,hb'⟩;simp only[aC,bO];rw[cJ,upi (by omega)];refine⟨⟨j+1,rfl,trivial,hb'⟩,?_⟩;simp only[aV];omega
 ·have hq:sL r=r.length:=by
   rcases hbi with⟨hi,hb⟩|h
   ·rw[iI (by omega),Na]at hb;omega
   ·exact h.2
  rw[hq,show 1+r.length=r.length+1 by omega]at hK;exact hK
theorem KJ:∀n,Yi n/\UA n
 |0=>have hq:UA 0:=λ_ _ _ _ h=>by omega
  ⟨Ix hq,hq⟩
 |n+1=>have hq:=MZ (KJ n).1
  ⟨Ix hq,hq⟩
theorem Oq{s:Str}{K:Q0}(hl:s.length<=1000000)(hK:K (i64 (DN s:Nat)) w):aJ P0 153 [str s] w K:=(KJ s.length).1 s w K (aZ _) hl hK
def GE(s:Str):List Value:=match Syn.insP s with|some (i,e)=>[i64 (i:Nat),i64 (e:Nat)]|none=>[i64 (-1),i64 0]
theorem LH(c:UInt8)(r:Str):Syn.insP (c::r)=if c=92 then(Syn.insP (r.drop 1)).map (λx=>(x.1+2,x.2+2))else if qX [36,123] (c::r)=true then some (0,1+DN r)else(Syn.insP r).map λx=>(x.1+1,x.2+1):=by
 cases r with
 |nil=>
  simp only[Syn.insP,List.drop_nil,Option.map_none];split
  ·rfl
  ·simp[qX,List.isPrefixOf]
 |cons e r=>
  simp only[Syn.insP,eL,eZ];split
  ·rfl
  ·have:(c=36/\e=123)↔qX [36,123] (c::e::r)=true:=by
    simp[qX,List.isPrefixOf];exact⟨λh=>⟨h.1.symm,h.2.symm⟩,λh=>⟨h.1.symm,h.2.symm⟩⟩
   by_cases h:c=36/\e=123
   ·rw[aU h,aU (this.1 h)]
   ·rw[aL h,aL (λx=>h (this.2 x))]
theorem xR{s:Str}{K:Q0}(hl:s.length<=1000000)(hK:K (.tuple (GE s).toArray) w):aJ P0 115 [str s] w K:=by
 refine Um ?_;unfold aAy;refine dL.go (λst w'=>∃(i:Nat),st=[i64 (i:Nat)]/\w'=w/\Syn.insP s=(Syn.insP (s.drop i)).map λx=>(x.1+i,x.2+i)) (λst _=>match st with|[.int _ i]=>s.length+1-i.toNat|_=>0) ⟨0,rfl,rfl,by rw[eZ];cases Syn.insP s<;>rfl⟩ ?_;rintro st g w2 ⟨i,rfl,rfl,hb⟩;simp only[aC];rw[dV,dI,bD];unfold GE at hK;refine⟨λhlt=>?_,λhge=>?_⟩
 ·have hlt:i<s.length:=by omega
  have hd:=lD hlt;rw[hd,LH]at hb;have cond:∀(k:Nat),k<256->(((s[i].toNat:Nat):Int)=(k:Int)↔s[i]=UInt8.ofNat k):=λk hk=>by
   have:=Ev s[i] k hk;rwa[decide_eq_decide]at this
  refine dE.cut (λst w'=>w'=w2/\∃(j:Nat),st=[i64 (j:Nat)]/\i<=j/\j<=i+1/\Syn.insP s=(Syn.insP (s.drop (j+1))).map λx=>(x.1+(j+1),x.2+(j+1))) ?_ ?_
  ·refine sA hlt ?_;rw[cL,bD];refine⟨λe=>?_,λe=>?_⟩
   ·have e:s[i]=92:=(cond 92 (by omega)).1 e;rw[aU e,jU]at hb;rw[cJ,upi (by omega)];refine⟨rfl,i+1,rfl,by omega,by omega,?_⟩;rw[hb,Option.map_map];congr 1;funext x;simp only[Function.comp,gS];omega
   have e:¬s[i]=92:=λh=>e ((cond 92 (by omega)).2 h);rw[aL e]at hb;rw[fA,fC,eR];refine⟨by omega,by omega,?_⟩;rw[dZ,aV,hd];refine Ai ?_;rw[pre_eq,eJ];refine⟨λe=>?_,λe=>?_⟩
   ·rw[aU e]at hb;rw[cJ,upi (by omega),cJ,upi (by omega),fA,fC,eR];refine⟨by omega,by omega,?_⟩;rw[dZ,aV];refine Oq (by rw[aX];omega) ?_;have hle:=GM (s.drop (i+1)) 0;have eb:DN (s.drop (i+1))=qA (s.drop (i+1)) 0:=rfl;rw[aX]at hle;rw[cJ,gI (by omega) (by omega)];rw[hb]at hK;simp only[aH]at hK;have e1:((0+i:Nat):Int)=(i:Int):=by omega
    have e2:((1+DN (s.drop (i+1))+i:Nat):Int)=((i+1:Nat):Int)+(DN (s.drop (i+1)):Nat):=by omega
    rw[e1,e2]at hK;exact hK
   ·rw[aL (by rw[e];decide)]at hb;refine⟨rfl,i,rfl,by omega,by omega,?_⟩;rw[hb,Option.map_map];congr 1;funext x;simp only[Function.comp,gS];omega
  rintro st g2 w3 ⟨rfl,j,rfl,hij,hj,hb'⟩;simp only[aC];rw[cJ,upi (by omega)];refine⟨⟨j+1,rfl,trivial,hb'⟩,?_⟩;simp only[aV];omega
 ·rw[iI (by omega)]at hb;rw[hb]at hK;exact hK
end
def xJ:List Str:=[[124,124],[38,38],[61,61],[33,61],[60],[62],[60,61],[62,61],[43],[45],[42],[47],[37]]
def Cx(x:Int):Int:=if x=0 then 27 else if x=101 then 26 else if x=202 then 20 else if x=203 then 21 else if x=304 then 22 else if x=305 then 23 else if x=306 then 24 else if x=307 then 25 else if x=408 then 15 else if x=409 then 16 else if x=510 then 17 else if x=511 then 18 else if x=512 then 19 else 0
theorem NJ:∀k:Fin 13,∀n:Fin 6,Cx ((n.val:Int)*100+(k.val:Int))=Fe n.val (xJ[k.val]'k.isLt):=by decide+kernel
theorem Bp(x:Str):∀(l:List Str) (i:Nat),(∃k,l[k]?=some x/\sP l x i=((i+k:Nat):Int))\/(x∉l/\sP l x i=-1)
 |[],i=>.inr ⟨by simp,rfl⟩
 |a::r,i=>by
  simp only[sP]
  split
  ·rename_i h
   exact .inl ⟨0,by simp[h],rfl⟩
  ·rename_i h
   rcases Bp x r (i+1)with⟨k,h1,h2⟩|⟨h1,h2⟩
   ·exact .inl ⟨k+1,by simpa using h1,by rw[h2];omega⟩
   ·exact .inr ⟨by simp[h,h1],h2⟩
theorem NP{x:Str}(h:x∉xJ):Fe n x=0:=by
 simp only[xJ,bC,cA,gG,not_or]at h;obtain⟨h1,h2,h3,h4,h5,h6,h7,h8,h9,h10,h11,h12,h13⟩:=h;unfold Fe;simp only[aL h1,aL h2,aL h3,aL h4,aL h5,aL h6,aL h7,aL h8,aL h9,aL h10,aL h11,aL h12,aL h13,ite_self]
theorem Jn(hn:n<=5)(x:Str):Cx ((n:Int)*100+sP xJ x 0)=Fe n x:=by
 rcases Bp x xJ 0 with⟨k,h1,h2⟩|⟨h1,h2⟩
 ·have hk:k<13:=(bS.1 h1).1;have:=NJ ⟨k,hk⟩ ⟨n,by omega⟩;rw[h2,aI,this];congr 1;exact(bS.1 h1).2
 ·rw[h2,NP h1];have:∀m:Fin 6,Cx ((m.val:Int)*100+-1)=0:=by decide+kernel
  exact this ⟨n,by omega⟩
section
variable [HX]
theorem Rp{x:Str}{K:Q0}(hK:K (i64 (rN x)) w):aJ P0 233 [str x] w K:=by
 refine SO ?_;unfold Zo;unfold rN at hK;rw[eQ,bD];refine⟨λh=>by rw[aU h]at hK;exact hK,λh=>?_⟩;rw[aL h]at hK;rw[eQ,bD];refine⟨λh=>by rw[aU h]at hK;exact hK,λh=>?_⟩;rw[aL h]at hK;rw[eQ,bD];refine⟨λh=>by rw[aU h]at hK;exact hK,λh=>?_⟩;rw[aL h]at hK;exact hK
theorem Pf{K:Q0}(h:∀v w',SlAt w' T v n cs->Ext w w'->K v w')(hn:cs.length=n):K (.slice (some ⟨w.heap.size,0,none⟩) n n) (w.alloc (.cells cs.toArray T)):=
 row_new λa w' ha hz hb hx _=>h _ w' (Az hb hn) hx
theorem Lg{K:Q0}(hK:∀v w',SlAt w' StT v 13 (strs xJ)->Ext w w'->K v w'):
  gO StT 13 (List.replicate 13 (.string (ofL []))) [(0,1,(.string (ofL [124,124]))),(1,1,(.string (ofL [38,38]))),(2,1,(.string (ofL [61,61]))),(3,1,(.string (ofL [33,61]))),(4,1,(.string (ofL [60]))),(5,1,(.string (ofL [62]))),(6,1,(.string (ofL [60,61]))),(7,1,(.string (ofL [62,61]))),(8,1,(.string (ofL [43]))),(9,1,(.string (ofL [45]))),(10,1,(.string (ofL [42]))),(11,1,(.string (ofL [47]))),(12,1,(.string (ofL [37])))] w K:=by
 rw[gO];simp only[List.replicate,dW,dN,aB,aK,aM,aQ,Nat.reduceAdd,Nat.reduceLT,dJ,aY];exact Pf hK rfl
theorem Rz{t:Tok}{K:Q0}(hn:n<=5)(hK:∀w',Ext w w'->K (i64 (rO t n)) w'):aJ P0 204 [.agg (jI t).toArray,i64 (n:Nat)] w K:=by
 refine Te ?_;unfold Zz;refine fZ (z:=jI t) λb w1 hb hz1 hbb hx1=>?_;unfold rO at hK;have ldc:∀{w':World} {off:Nat} {v:Value} {KK:Value->Prop},w'.heap[b]?=some (.cells (jI t).toArray TkT (0,0))->(jI t)[off]?=some v->KK v->aR off (.pointer (some ⟨b,0,none⟩)) λx=>ldW false 1 x w' KK:=λh hv hk=>by
  rw[bE,bL,aI,eD];exact⟨_,by rw[cM,h,bT];simpa using hv,hk⟩
 refine ldc hbb rfl ?_;rw[dQ,bD];refine⟨λh=>?_,λh=>?_⟩
 ·rw[aL h]at hK;exact hK w1 hx1
 have h:t.k=4:=by omega
 rw[aU h,<-Jn hn]at hK;rw[iN,gI (by omega) (by omega)];refine Lg λv w2 hv hx2=>?_;refine ldc (hx2.at hbb id) rfl ?_;refine Kr (l:=xJ) hv (by decide) ?_;have hr:-1<=sP xJ t.t 0/\sP xJ t.t 0<=12:=by
  rcases Bp t.t xJ 0 with⟨k,h1,h2⟩|⟨h1,h2⟩
  ·have hk:k<13:=(bS.1 h1).1;rw[h2];omega
  ·rw[h2];omega
 rw[cJ,gI (by omega) (by omega)];generalize (n:Int)*100+sP xJ t.t 0=x at*
 have hx:=hK w2 (hx1.trans hx2);unfold Cx at hx;have step:∀{k r e:Int} {A B:Prop},((if x=k then r else e)=r->A)->(¬x=k->B)->bB (.bool (decide (x=k))) A B:=λh1 h2=>by
  rw[bD];exact⟨λe=>h1 (aU e),h2⟩
 iterate 13
  rw[cL,bD];refine⟨λe=>by rw[aU e]at hx;exact hx,λe=>?_⟩;rw[aL e]at hx
 exact hx
theorem sX{b:Nat}(h:w.heap[b]?=some (.cells cs.toArray T (0,0)))(hn:0<n:=by omega):SlAt w T (.slice (some ⟨b,0,none⟩) n n) n cs:=
 ⟨_,_,rfl,aZ _,λe=>(by cases e),λ_=>⟨b,0,cs.toArray,_,rfl,h,λi _=>by simp⟩⟩
section
variable{w0 w:World}{p f:Nat}{M:Lay}{vt:Value}{s:PS}{top:List Nat}{N:Int}{K:Q0}
theorem Kd{t:Tok}(h:PR w0 w p f M vt s top)(hx:Em t.t)(hl:t.t.length<=1000000)(hK:∀l s',qF s t=.ok l s'->∀w',Ext w w'->K (str l) w')(ht:∀c a,qF s t=.err c a->Thr w0 f c a):
  aJ P0 63 [.pointer (some ⟨p,0,none⟩),.agg (jI t).toArray] w K:=by
 refine Xx ?_;unfold W63;refine fZ (z:=jI t) λb w1 hb hz1 hbb hx1=>?_;have h1:=h.ext hx1;have L1:=h.loc hz1 hb hbb;unfold qF at hK ht;refine dE.cut (λ_ w'=>w'=w1/\(Syn.insP t.t).isSome=false) ?_ ?_
 ·refine L1.ldf rfl ?_;refine xR hl ?_;rw[bY];unfold GE;cases hi:Syn.insP t.t with
  |none=>
   refine⟨i64 (-1),rfl,?_⟩;rw[bY];refine⟨i64 0,rfl,?_⟩;rw[fS,bD];exact⟨λe=>by omega,λ_=>⟨rfl,rfl⟩⟩
  |some x=>
   refine⟨i64 (x.1:Nat),rfl,?_⟩;rw[bY];refine⟨i64 (x.2:Nat),rfl,?_⟩;rw[fS,bD];refine⟨λ_=>?_,λe=>by omega⟩;refine L1.ldf rfl ?_;exact rP h1 (ht _ _ (by rw[hi];rfl))
 rintro st g w2 ⟨rfl,hi⟩;rw[aL (by rw[hi];decide)]at hK;refine L1.ldf rfl ?_;refine IQ ((IL hx).1 (by cases hr:Syn.insP t.t with|none=>rfl|some x=>rw[hr]at hi;cases hi)) hl λw3 hx3=>?_;exact hK _ _ rfl w3 (hx1.trans hx3)
theorem Jk{s:PS}(h:(cur s).k=5):jE (step1 (bM s))=jE s:=by
 have ht:(bM s).toks=s.toks:=by unfold bM;split<;>rfl
 have hk:(nM (bM s)).k=5:=h;have hlt:(bM s).i<(bM s).toks.length:=by
  by_cases hl:(bM s).i<(bM s).toks.length
  ·exact hl
  ·unfold nM at hk;rw[bR,eW (by omega)]at hk;cases hk
 have hg:(bM s).toks[(bM s).i]?=some (nM (bM s)):=by unfold nM;rw[bR,aG hlt];rfl
 have e:=tW hg;rw[aU hk]at e;have hq:s.quiet=false:=by
  by_cases hq:s.quiet=true
  ·exfalso;have e2:bM (bM s)=bM s:=kN s;have hq2:(bM s).quiet=true:=by unfold bM;split<;>exact hq
   have e3:(bM (bM s)).i=(bM s).i+kU ((bM s).toks.drop (bM s).i):=by
    rw[bM,aU hq2]
   rw[e2]at e3;omega
  ·simpa using hq
 have n1:∀s:PS,s.quiet=false->bM s=s:=λs h=>by unfold bM;rw[h];rfl
 have h1:=n1 s hq;rw[h1]at e⊢;have h2:=n1 (step1 s) hq;unfold jE;rw[h1,h2];show({s with i:=s.i+1+kU (s.toks.drop (s.i+1))}:PS)={s with i:=s.i+kU (s.toks.drop s.i)};rw[e];congr 1;omega
theorem Jj{N:Int}{s:PS}(hs:WS N s)(h:(cur s).k≠5):jE s=bM s:=by
 have hn:=(jN hs).ws hs;have e:=tW (xD hn);have hk:(nM (bM s)).k≠5:=h;rw[aL hk,(jN hs).toks]at e;unfold jE;rw[e];rfl
theorem yU(h:PR w0 w p f M vt s top)(hs:WS N s)(hN:N<=1000000)(hl:s.toks.length<=100000)(hK:∀w',PR w0 w' p f M vt (jE s) top->Eff p f M M w w'->K (.tuple #[]) w'):
  aJ P0 30 [.pointer (some ⟨p,0,none⟩)] w K:=by
 refine XS ?_;unfold W30;refine dL.go (λst w'=>st=[]/\∃s1,PR w0 w' p f M vt s1 top/\WS N s1/\s1.toks=s.toks/\jE s1=jE s/\Eff p f M M w w') (λ_ w'=>s.toks.length-zY w' p) ⟨rfl,s,h,hs,rfl,rfl,Eff.refl _ _ _ _⟩ ?_;rintro st g w2 ⟨rfl,s1,h2,hs1,et,el,he2⟩;refine pL h2 hs1 hN (by rw[et];exact hl) λw3 h3 he3=>?_;refine⟨i64 (cur s1).k,rfl,?_⟩;dsimp only;rw[cL,bD];have hg:=jN hs1;have hsn:=hg.ws hs1;refine⟨λhk=>?_,λhk=>?_⟩
 ·have hk0:(cur s1).k≠0:=by rw[hk];decide
  have hst:=lY hs1 hk0;refine h3.go (wsi hsn (by rw[hg.toks,et];exact hl)) λw4 h4 he4 hz4=>?_;refine⟨⟨rfl,_,h4,hst.1.ws hs1,hst.1.toks.trans et,(Jk hk).trans el,(he2.trans he3).trans he4⟩,?_⟩;rw[h4.at_,h2.at_];have:=hst.2;have h5:=hst.1.lt;rw[hst.1.toks,et]at h5;omega
 ·rw[Jj hs1 hk]at el;rw[el]at h3;exact hK w3 h3 (he2.trans he3)
theorem qP{a:Int}{q:Bool}{fv:Value}(h:PR w0 w p f M vt s top)(hd:s.deep<=24)(hbad:s.deep=24->Thr w0 f 7 a)
  (hf:s.deep≠24->∀w1,PR w0 w1 p f M vt {s with deep:=s.deep+1,quiet:=q} top->Eff p f M M w w1->nV P0 fv [] w1 λ_ w2=>∃M2 s2,PR w0 w2 p f M2 vt s2 top/\s2.deep=s.deep+1/\
    ∀w3,PR w0 w3 p f M2 vt {s2 with deep:=s.deep,quiet:=s.quiet} top->Eff p f M2 M2 w2 w3->K (.tuple #[]) w3):
  aJ P0 66 [.pointer (some ⟨p,0,none⟩),i64 a,.bool q,fv] w K:=by
 refine Xu ?_;unfold W66;refine dE.cut (λ_ w'=>w'=w/\s.deep≠24) ?_ ?_
 ·refine h.ld rfl ?_;rw[cL,bD];refine⟨λe=>?_,λe=>⟨rfl,λh=>e (by rw[h];rfl)⟩⟩;exact rP h (hbad (by omega))
 rintro st g w1 ⟨rfl,hne⟩;refine h.ld rfl ?_;refine h.ld rfl ?_;rw[cJ,upi (by omega)];refine h.st_deep λw2 h2 he2 hz2=>?_;refine h2.st_quiet (q:=q) λw3 h3 he3 hz3=>?_;have hc:=hf hne w3 h3 (he2.trans he3);refine Res.mono ?_ hc;rintro v w4 ⟨M2,s2,h4,e4,hk⟩;refine h4.ld rfl ?_;rw[gR,gI (by omega) (by omega)];have e:((s2.deep:Nat):Int)-1=((s.deep:Nat):Int):=by omega
 rw[e];refine h4.st_deep λw5 h5 he5 hz5=>?_;refine h5.st_quiet (q:=s.quiet) λw6 h6 he6 hz6=>?_;exact hk w6 h6 (he5.trans he6)
theorem Jb{M0:Lay}{wb:World}{e:Ex}{d:List Value}(h:PR w0 w p f M vt s top)(he:Eff p f M0 M wb w)(hd:ExR w w0.heap.size e d)(hu:∀k∈ub d,Off w0 w p f M vt k)(hn:(ub d).Nodup)(hnew:∀k∈ub d,wb.heap.size<=k)(hlen:s.ex.length<=1000000)
  (hK:∀M' w',PR w0 w' p f M' vt {s with ex:=s.ex++[e]} top->Eff p f M0 M' wb w'->(∀b T cs,Loc w0 w p f M vt b T cs->b∉ub d->Loc w0 w' p f M' vt b T cs)->K (i64 (s.ex.length:Nat)) w'):
  aJ P0 158 [.pointer (some ⟨p,0,none⟩),.agg d.toArray] w K:=by
 refine TF ?_;unfold ZX;have hdl:d.length=5:=by obtain⟨va,vk,rfl,_⟩:=hd;rfl
 have hd1:∀u∈d,jM u=true:=by
  obtain⟨va,vk,rfl,h1,h2⟩:=hd;obtain⟨_,_,rfl,_⟩:=h1.sl.shape;obtain⟨_,_,rfl,_⟩:=h2.sl.shape;intro u hu;simp only[bC,cA,gG]at hu;rcases hu with rfl|rfl|rfl|rfl|rfl<;>rfl
 refine fZ (z:=d) λb w1 hb hz1 hbb hx1=>?_;have h1:=(h.ext hx1).drew;have hx1':Ext w w1.drew:=hx1.trans (cQ _);have L1:=(h.loc hz1 hb hbb).drew;have ldF:∀{w':World},w'.heap[p]?=some (.cells [vt,i64 (s.i:Nat),i64 s.off,.pointer (some ⟨f,0,none⟩),i64 (s.deep:Nat),.bool s.quiet].toArray PsT (0,0))->ldW false 1 (.pointer (some ((⟨p,0,none⟩:Addr).add 3))) w' λx=>x=.pointer (some ⟨f,0,none⟩):=by
  intro w' h;rw[eD];exact⟨_,by rw[bL,cM,h,bT];rfl,rfl⟩
 have ldE:∀{w':World} {v:Value} {r:List Value},w'.heap[f]?=some (.cells (v::r).toArray FlT (0,0))->w'.cell? ((⟨f,0,none⟩:Addr).add 0)=some v:=by
  intro w' v r h;rw[bL,cM,h,bT];rfl
 have use:∀k,M.vE.ownBlock=some k->k∈M.uses f:=λk hk=>aD _ (eF (v:=M.vE) (by simp) hk);have nE:¬M.vE.ownBlock=some p:=λe=>h.np (use p e);have nF:¬M.vE.ownBlock=some f:=λe=>by
  have hnd:=h.fr.nd;rw[IJ,dK]at hnd;exact hnd.1 (cD _ (jW.2 e))
 have pf:p≠f:=λe=>h.np (e▸aW);have cF:∀{w':World},w'.heap[p]?=some (.cells [vt,i64 (s.i:Nat),i64 s.off,.pointer (some ⟨f,0,none⟩),i64 (s.deep:Nat),.bool s.quiet].toArray PsT (0,0))->w'.cell? ((⟨p,0,none⟩:Addr).add 3)=some (.pointer (some ⟨f,0,none⟩)):=by
  intro w' h;rw[bL,cM,h,bT];rfl
 rw[dB,bE,eD];refine⟨_,cF h1.ps,?_⟩;rw[dB,bE,eD];refine⟨_,cF h1.ps,?_⟩;rw[dB,bE,eD];refine⟨_,ldE h1.fr.hf,?_⟩;refine gF L1.1 hdl ?_;refine Bc hdl rfl λr w2 hr hz2 hrb hx2=>?_;have h2:=h1.ext hx2;refine⟨by rw[eD];exact⟨_,ldE h2.fr.hf,rfl⟩,ldF h2.ps,ldF h2.ps,?_⟩;have hx02:Ext w w2:=hx1'.trans hx2;have hc0:Chg (λk=>M.vE.ownBlock=some k) w w2:=Chg.of_ext hx02;refine jL YT h2.fr.oE (sX (n:=1) (T:=ExT) (cs:=d) hrb) (by rw[hdl]) hd1 (by omega) (by omega) h2.base λv' w3 hO3 hc3 hv3=>?_;have hp3:=hc3.at h2.ps nE;have hf3:=hc3.at h2.fr.hf nF;refine⟨ldF hp3,?_⟩;rw[dB,bE,bL,aI];obtain⟨vp,vc,ev,_⟩:=hO3.sl.shape;refine kQ hf3 (by rw[ev];rfl) (by simp) λw4 hz4 hf4 hc4=>?_;have hz02:=hx02.size;obtain⟨h4,he4,hk4⟩:=h.putE (w1:=w3) (w2:=w4) (v':=v') he hd hu hn hnew hO3 (hc0.trans hc3) (λk hk=>(hv3 k hk).imp id λe=>by omega) hc4 (by rw[hf4];simp);rw[dB,bE,eD];refine⟨_,cF h4.ps,?_⟩;rw[dB,bE,eD];refine⟨_,ldE h4.fr.hf,?_⟩;dsimp only;rw[ev,gZ,gR,gI (by omega) (by omega)];have e1:((s.ex.length+1:Nat):Int)-1=(s.ex.length:Nat):=by omega
 rw[e1];exact hK _ w4 h4 he4 hk4
end
end
structure Gd(N:Int)(s:PS)(dl:Nat):Prop where
 ws:WS N s
 hN:N<=1000000
 few:s.toks.length<=4097
 ts:TS s.toks
 phi:phi s<=100000
 lev:s.deep+dl=24
theorem Gd.l{N:Int}{s:PS}{dl:Nat}(h:Gd N s dl):s.toks.length<=100000:=by have:=h.few;omega
theorem Gd.go{N:Int}{s s':PS}{dl:Nat}(h:Gd N s dl)(hg:Go1 N s s')(hp:Syn.phi s'<=Syn.phi s):Gd N s' dl:=
 ⟨hg.ws h.ws,h.hN,by rw[hg.toks];exact h.few,by rw[hg.toks];exact h.ts,dR hp h.phi,by rw[hg.deep];exact h.lev⟩
theorem Gd.frame{N:Int}{s:PS}{dl:Nat}(h:Gd N s (dl+1))(q:Bool):Gd N {s with deep:=s.deep+1,quiet:=q} dl:=⟨xA h.ws _ _,h.hN,h.few,h.ts,h.phi,by have:=h.lev;show s.deep+1+dl=24;omega⟩
theorem Gd.back{N:Int}{s s':PS}{dl:Nat}{q:Bool}(h:Gd N s (dl+1))(h':Gd N s' dl):Gd N {s' with deep:=s.deep,quiet:=q} (dl+1):=⟨xA h'.ws _ _,h.hN,h'.few,h'.ts,h'.phi,h.lev⟩
theorem Gd.now{N:Int}{s:PS}{dl:Nat}(h:Gd N s dl):Gd N (bM s) dl:=h.go (jN h.ws) (mG s)
theorem Gd.take{N:Int}{s:PS}{dl:Nat}(h:Gd N s dl)(w:Str):Gd N (cS s w).2 dl:=h.go (lX h.ws w).1 (nA s w).1
theorem Gd.lines{N:Int}{s:PS}{dl:Nat}(h:Gd N s dl):Gd N (jE s) dl:=h.go (mD h.ws).1 (uS s)
theorem Gd.next{N:Int}{s:PS}{dl:Nat}(h:Gd N s dl):Gd N (kY s) dl:=h.go (sU h.ws).1 (uR s).1
theorem Gd.step{N:Int}{s:PS}{dl:Nat}(h:Gd N s dl)(hk:(cur s).k≠0):Gd N (step1 (bM s)) dl:=h.go (lY h.ws hk).1 (by have:=(qQ hk).2;omega)
theorem Gd.want{N:Int}{s s':PS}{dl:Nat}(h:Gd N s dl){w:Str}(e:pK s w=.ok () s'):Gd N s' dl/\s.i<s'.i/\s'.ex=s.ex/\s'.bl=s.bl:=by
 have h1:=mO h.ws w;have h2:=mZ s w;rw[e]at h1 h2;obtain⟨g,x,b⟩:=h1;exact⟨h.go g.1 (by have h2:Syn.phi s'+1<=Syn.phi s:=h2;omega),g.2,x,b⟩
theorem Gd.kind{N:Int}{s s':PS}{dl:Nat}{t:Tok}{k:Int}(h:Gd N s dl)(hk:k≠0)(e:nC s k=.ok t s'):Gd N s' dl/\s.i<s'.i/\s'.ex=s.ex/\s'.bl=s.bl/\t=cur s/\t.k=k:=by
 have h1:=nT h.ws k hk;have h2:=pX s k;rw[e]at h1 h2;obtain⟨g,x,b,ht,hk⟩:=h1;exact⟨h.go g.1 h2.1,g.2,x,b,ht,hk⟩
theorem Gd.ex{N:Int}{s:PS}{dl:Nat}(h:Gd N s dl):s.ex.length<=100000/\s.bl.length<=100000:=by have:=Wr s;have:=h.phi;omega
structure sO(F:PS->R Nat):Prop where
 ok:∀N,EOk N F
 z:EZ F
theorem Gd.e{N:Int}{s s':PS}{dl x:Nat}{F:PS->R Nat}(h:Gd N s dl)(hF:sO F)(e:F s=.ok x s'):Gd N s' dl/\s.i<s'.i:=by
 have h1:=hF.ok N s h.ws;have h2:=hF.z s;rw[e]at h1 h2;exact⟨h.go h1.1.1 h2,h1.1.2⟩
theorem Gd.at0{N:Int}{s:PS}{dl:Nat}(h:Gd N s dl):0<=(cur s).a/\(cur s).a<=1000000:=by have:=mA h.ws;have:=h.hN;omega
section
variable [HX]
def yH(w0:World)(f:Nat):Prop:=∀(w:World) (K:Q0) (s:Str),Chg (Of f) w0 w->s.length<=1000000->
 (∀l,nP s=.ok l->∀v w',Ext w w'->SlAt w' TkT v l.length (toks l)->(∀k,v.ownBlock=some k->w.heap.size<=k/\k<w'.heap.size)->K (.tuple #[v,.pointer none]) w')->
 (∀c a,nP s=.bad c a->∀d w',Ext w w'->w.heap.size<=d->w'.heap[d]?=some (.cells [i64 c,str [],i64 a].toArray 48 (0,0))->K (.tuple #[.slice none 0 0,.pointer (some ⟨d,0,none⟩)]) w')->
 aJ P0 28 [str s] w K
def EC(w0:World)(f:Nat)(g:FuncId)(F:PS->R Nat)(dl:Nat):Prop:=∀(w:World) (p:Nat) (M:Lay) (vt:Value) (s:PS) (top:List Nat) (N:Int) (K:Q0),PR w0 w p f M vt s top->Gd N s dl->
 (∀x s',F s=.ok x s'->∀M' w',PR w0 w' p f M' vt s' top->Eff p f M M' w w'->K (i64 (x:Nat)) w')->(∀c a,F s=.err c a->Thr w0 f c a)->aJ P0 g [.pointer (some ⟨p,0,none⟩)] w K
structure Ro(w0 w:World)(p f:Nat)(M:Lay)(vt:Value)(wb:Nat)(T:TypeId)(m:Nat)(v:Value)(n:Nat)(xs:List Value):Prop where
 own:Own w w0.heap.size T m v n xs
 off:∀k,v.ownBlock=some k->Off w0 w p f M vt k
 new:∀k,v.ownBlock=some k->wb<=k
section
variable{w0 w w' w1:World}{p f b:Nat}{M M':Lay}{vt:Value}{s:PS}{top:List Nat}{N:Int}{K:Q0}{wb:Nat}{T:TypeId}{m:Nat}{v:Value}{n:Nat}{xs:List Value}
theorem Ro.nil(T:TypeId)(m:Nat):Ro w0 w p f M vt wb T m (.slice none 0 0) 0 []:=⟨⟨by simp,.inl ⟨rfl,rfl⟩⟩,λk hk=>by simp[Value.ownBlock]at hk,λk hk=>by simp[Value.ownBlock]at hk⟩
theorem Ro.eff(h:Ro w0 w p f M vt wb T m v n xs)(he:Eff p f M M' w w'):Ro w0 w' p f M' vt wb T m v n xs:=⟨he.own h.own h.off,λk hk=>(h.off k hk).eff he,h.new⟩
theorem Ro.ext(h:Ro w0 w p f M vt wb T m v n xs)(hx:Ext w w'):Ro w0 w' p f M vt wb T m v n xs:=h.eff (Eff.ext hx)
theorem Ro.one(h:Ro w0 w p f M vt wb T m v n xs)(hc:Chg (One b) w w')(hb:v.ownBlock≠some b):Ro w0 w' p f M vt wb T m v n xs:=
 ⟨eG h.own hc λk hk e=>hb (by have e:k=b:=e;rw[hk,e]),λk hk=>(h.off k hk).up hc.size,h.new⟩
theorem Ro.row{u:Value}(h:Ro w0 w p f M vt wb T m v n xs)(hc:Chg (λk=>u.ownBlock=some k) w w')(hb:∀k,v.ownBlock=some k->u.ownBlock≠some k):Ro w0 w' p f M vt wb T m v n xs:=
 ⟨eG h.own hc λk hk e=>hb k hk e,λk hk=>(h.off k hk).up hc.size,h.new⟩
theorem Loc.row{u:Value}(h:Loc w0 w p f M vt b T cs)(hc:Chg (λk=>u.ownBlock=some k) w w')(hb:u.ownBlock≠some b):Loc w0 w' p f M vt b T cs:=⟨hc.at h.1 hb,h.2.up hc.size⟩
theorem PR.row{u:Value}(h:PR w0 w p f M vt s top)(hc:Chg (λk=>u.ownBlock=some k) w w')(hb:∀k,u.ownBlock=some k->Off w0 w p f M vt k):PR w0 w' p f M vt s top:=
 h.keep hc (λk hk e=>by have:=(hb k e).1.1;omega) (λk hk e=>(hb k e).2.2.1 hk) (λe=>(hb p e).2.1 rfl) λk hk e=>(hb k e).2.2.2 hk
theorem Ro.app{t:TypeId}{bytes:Nat}{r:Nat}{news:List Value}{ty:TypeId}(hT:qW P0 t T m bytes)(hR:Ro w0 w p f M vt wb T m v n xs)(hp:PR w0 w p f M vt s top)(hr:w.heap[r]?=some (.cells news.toArray T (0,0)))(hl:news.length=m)(h1:∀u∈news,jM u=true)(hn:n<=1000000)(hby:bytes<=1000)(hwb:wb<=w.heap.size)
  (hK:∀v' w',Ro w0 w' p f M vt wb T m v' (n+1) (xs++news)->Chg (λk=>v.ownBlock=some k) w w'->(∀k,v'.ownBlock=some k->v.ownBlock=some k\/w.heap.size<=k)->PR w0 w' p f M vt s top->K v' w'):
  fY P0 (Builtin.append_ #[t,t] ty #[v,.slice (some ⟨r,0,none⟩) 1 1]) w K:=by
 have hb:=hp.base;have hbt:(n+1)*bytes<=140737488355328:=dR (Nat.mul_le_mul (show n+1<=1000001 by omega) hby) (by decide);refine jL hT hR.own (sX (n:=1) hr) (by rw[hl];omega) h1 (by omega) hbt hb λv' w' hO hc hv=>?_;refine hK v' w' ⟨hO,λk hk=>?_,λk hk=>?_⟩ hc hv (hp.row hc hR.off)
 ·rcases hv k hk with e|e
  ·exact(hR.off k e).up hc.size
  ·exact hp.off_new e (kJ hO hk).1
 ·rcases hv k hk with e|e
  ·exact hR.new k e
  ·omega
theorem PR.inner{q:Nat}{q':PS}(h:PR w0 w p f M vt s top)(hx:Ext w w1)(hq:PR w0 w' q f M' v q' top)(he:Eff q f M M' w1 w')(hqn:w.heap.size<=q):
  PR w0 w' p f M' vt {s with ex:=q'.ex,bl:=q'.bl} top/\Eff p f M M' w w':=by
 have he':Eff p f M M' w w':=Eff.anew hx he hqn;have hz:=hx.size;have h1:=h.ext hx;refine⟨⟨hq.ch,hq.fr,?_,?_,λe=>?_,h.lo,λk hk=>⟨λe=>?_,(h.nt k hk).2.1,dD (h.nt k hk).2.2 he'.chg.size⟩⟩,he'⟩
 ·exact he.chg.at h1.ps λe=>by
   rcases IM e with e|e
   ·have:=h.lt;omega
   ·exact h.np e
 ·exact rR h1.tk he.chg λk hk e=>by
   rcases IM e with e|e
   ·have:=(h.nt k hk).2.2;omega
   ·exact(h.nt k hk).1 e
 ·exact(he'.us p e).elim h.np λe=>by have:=h.lt;omega
 ·exact(he'.us k e).elim (h.nt k hk).1 λe=>by have:=(h.nt k hk).2.2;omega
theorem RN{E:PS->R Nat}{dl:Nat}{t:Str}{a:Int}(hS:yH w0 f)(hE:EC w0 f 118 E dl)(hF:sO E)(h:PR w0 w p f M vt s top)(hg:Gd N s dl)(h0:0<=a)(h1:a+t.length<=N)(hphi:Syn.phi s+t.length<=100000)
  (hK:∀x s',pR E s t a=.ok x s'->∀M' w',PR w0 w' p f M' vt s' top->Eff p f M M' w w'->K (i64 (x:Nat)) w')(ht:∀c a',pR E s t a=.err c a'->Thr w0 f c a'):
  aJ P0 257 [.pointer (some ⟨p,0,none⟩),str t,i64 a] w K:=by
 refine SE ?_;unfold Zf;have hN:=hg.hN;refine hS w _ t h.ch (by omega) (λl hl v w1 hx1 hv hvn=>?_) (λc b hb d w1 hx1 hd hdb=>?_)
 ·rw[bY];refine⟨v,rfl,?_⟩;rw[bY];refine⟨.pointer none,rfl,?_⟩;refine dE.cut (λ_ w'=>w'=w1) ?_ ?_
  ·show bB (.bool false) _ _;rw[bQ]
  rintro st g w2 rfl;have h2:=(h.ext hx1).drew;have hx2:=hx1.trans (cQ w2);refine h2.ld rfl ?_;refine h2.ld rfl ?_;obtain⟨q,cap,ev,_⟩:=hv.shape;subst ev;simp only[eP,dP,iJ,dN,aB,aK,aM,aQ,Nat.reduceAdd,Nat.reduceLT,dJ,aY];refine fZ (z:=[.slice q l.length cap,i64 0,i64 a,.pointer (some ⟨f,0,none⟩),i64 (s.deep:Nat),.bool false]) λqb w3 hq hz3 hqb hx3=>?_;have hx03:=hx2.trans hx3;have h3:=h2.ext hx3;have z2:w2.drew.heap.size=w2.heap.size:=rfl;have hz1:=hx1.size;have hq3:PR w0 w3 qb f M (.slice q l.length cap) ⟨l,0,a,s.deep,false,s.ex,s.bl⟩ top:=
   ⟨h3.ch,h3.fr,hqb,hv.ext ((cQ w2).trans hx3),λe=>by have:=h.fr.lt _ e;omega,by have:=h.base;omega,λk hk=>by
    have hb:=hvn k hk;exact⟨λe=>by have:=h.fr.lt _ e;omega,by omega,by omega⟩⟩
  have htg:=AA hl h0 h1;have hw:=Cq hl;have hgq:Gd N ⟨l,0,a,s.deep,false,s.ex,s.bl⟩ dl:=⟨⟨htg,iG.2 htg.ne,hg.ws.pN⟩,hN,(uN hl).1,Cr hl,by
   unfold Syn.phi at hphi⊢;simp only[eZ];omega,hg.lev⟩
  unfold pR at hK ht;simp only[hl]at hK ht;refine hE w3 qb M _ _ top N _ hq3 hgq (λx q1 e1 M' w4 h4 he4=>?_) λc a' e1=>ht c a' (by rw[e1];rfl);rw[e1]at hK ht;simp only[R.bind]at hK ht;obtain⟨hg1,_⟩:=hgq.e hF e1;refine xQ h4 hg1.ws hN hg1.l (λt' q2 e2 w5 h5 he5=>?_) λc a' e2=>ht c a' (by rw[e2]);rw[e2]at hK;obtain⟨h6,he6⟩:=h.inner hx03 h5 (he4.trans he5) (by omega);exact hK x _ rfl M' w5 h6 he6
 ·rw[bY];refine⟨.slice none 0 0,rfl,?_⟩;rw[bY];refine⟨.pointer (some ⟨d,0,none⟩),rfl,?_⟩;refine dE.cut (λ_ _=>False) ?_ (λ_ _ _ h=>h.elim);show bB (.bool true) _ _;rw[dG,dB,bE,eD];refine⟨i64 c,by rw[bL,cM,heap_drew,hdb,bT];rfl,?_⟩;rw[dB,bE,eD];refine⟨i64 b,by rw[bL,cM,heap_drew,hdb,bT];rfl,?_⟩;have hsb:=CR hb;rw[cJ,gI (by omega) (by omega)];refine rP (h.ext hx1).drew (ht _ _ ?_);unfold pR;rw[hb]
end
end
def nI(rest:Str):Nat×Nat:=match Syn.insP rest with|some x=>x|none=>(rest.length,rest.length)
def vY(s:PS)(rest:Str)(a:Int):PS:=if 0<(nI rest).1 then{s with ex:=s.ex++[⟨5,jR (rest.take (nI rest).1),[],[],a⟩]}else s
theorem Hz{E:PS->R Nat}{s:PS}{rest:Str}{a:Int}{av:List Nat}{ks:List Str}(hr:rest≠[])(hn:rest.length<n+1):
  oG E (n+1) s rest a av ks=
   (if(nI rest).1<(nI rest).2 then(within (vY s rest a) (a+(nI rest).1) false λq=>pR E q ((rest.drop ((nI rest).1+2)).take ((nI rest).2-1-((nI rest).1+2))) (a+(nI rest).1+2)).bind λx s2=>
     oG E n s2 (rest.drop (nI rest).2) (a+(nI rest).2) ((if 0<(nI rest).1 then av++[s.ex.length]else av)++[x]) ((if 0<(nI rest).1 then ks++[[116]]else ks)++[[101]])
   else oG E n (vY s rest a) (rest.drop (nI rest).2) (a+(nI rest).2) (if 0<(nI rest).1 then av++[s.ex.length]else av) (if 0<(nI rest).1 then ks++[[116]]else ks)):=by
 simp only[oG];rw[aL hr];have hpos:0<rest.length:=iG.2 hr;unfold nI vY nI;cases hi:Syn.insP rest with
 |none=>
  simp only;rw[aL (Nat.lt_irrefl _),aU hpos,aU hpos,aU hpos,gU,dZ];obtain⟨m,rfl⟩:∃m,n=m+1:=⟨n-1,by omega⟩;simp only[oG,qH]
 |some x=>rfl
theorem RJ{rest:Str}(hx:Em rest):(nI rest).1<=rest.length/\(nI rest).2<=rest.length/\sV (rest.take (nI rest).1)=true/\Em (rest.drop (nI rest).2)/\((nI rest).1<(nI rest).2->(nI rest).1+3<=(nI rest).2)/\(rest≠[]->0<(nI rest).2)/\(nI rest).1<=(nI rest).2:=by
 obtain⟨h1,h2⟩:=IL hx;unfold nI;cases hi:Syn.insP rest with
 |none=>
  simp only;exact⟨aZ _,aZ _,by rw[dZ];exact h1 hi,by rw[gU];exact .inl rfl,λe=>absurd e (Nat.lt_irrefl _),λh=>iG.2 h,aZ _⟩
 |some x=>
  obtain⟨a,b,c,d⟩:=h2 x.1 x.2 hi;simp only;exact⟨by omega,c,a,d,λ_=>b,λ_=>by omega,by omega⟩
section
variable [HX]
variable{w0 w w' w1:World}{p f b:Nat}{M M':Lay}{vt:Value}{s:PS}{top:List Nat}{N:Int}{K:Q0}
abbrev PpT:TypeId:=89
structure TL(w0 w:World)(p f:Nat)(M:Lay)(vt:Value)(B1 b2 b7 b8 b9:Nat)(ta:Int)(rest:Str)(a:Int)(va vk:Value)(av:List Nat)(ks:List Str):Prop where
 l2:Loc w0 w p f M vt b2 PpT [.pointer (some ⟨p,0,none⟩)]
 l7:Loc w0 w p f M vt b7 ExT [i64 6,str [],va,vk,i64 ta]
 l8:Loc w0 w p f M vt b8 StT [str rest]
 l9:Loc w0 w p f M vt b9 jY [i64 a]
 rA:Ro w0 w p f M vt B1 jY 1 va av.length (ints av)
 rK:Ro w0 w p f M vt B1 StT 1 vk ks.length (strs ks)
 dd:∀k,va.ownBlock=some k->vk.ownBlock≠some k
 lt:b2<B1/\b7<B1/\b8<B1/\b9<B1/\B1<=w.heap.size
 ne:b2≠b7/\b2≠b8/\b2≠b9/\b7≠b8/\b7≠b9/\b8≠b9
section
variable{B1 b2 b7 b8 b9:Nat}{ta:Int}{rest:Str}{a:Int}{va vk:Value}{av:List Nat}{ks:List Str}
theorem TL.eff(h:TL w0 w p f M vt B1 b2 b7 b8 b9 ta rest a va vk av ks)(he:Eff p f M M' w w'):TL w0 w' p f M' vt B1 b2 b7 b8 b9 ta rest a va vk av ks:=
 ⟨h.l2.eff he,h.l7.eff he,h.l8.eff he,h.l9.eff he,h.rA.eff he,h.rK.eff he,h.dd,⟨h.lt.1,h.lt.2.1,h.lt.2.2.1,h.lt.2.2.2.1,dR h.lt.2.2.2.2 he.chg.size⟩,h.ne⟩
theorem TL.ext(h:TL w0 w p f M vt B1 b2 b7 b8 b9 ta rest a va vk av ks)(hx:Ext w w'):TL w0 w' p f M vt B1 b2 b7 b8 b9 ta rest a va vk av ks:=h.eff (Eff.ext hx)
theorem TL.one(h:TL w0 w p f M vt B1 b2 b7 b8 b9 ta rest a va vk av ks)(hc:Chg (One b) w w')(hb:B1<=b)(hA:va.ownBlock≠some b)(hK:vk.ownBlock≠some b):TL w0 w' p f M vt B1 b2 b7 b8 b9 ta rest a va vk av ks:=by
 obtain⟨q1,q2,q3,q4,q5⟩:=h.lt;exact⟨h.l2.one hc (by omega),h.l7.one hc (by omega),h.l8.one hc (by omega),h.l9.one hc (by omega),h.rA.one hc hA,h.rK.one hc hK,h.dd,⟨q1,q2,q3,q4,dR q5 hc.size⟩,h.ne⟩
theorem TL.noA(h:TL w0 w p f M vt B1 b2 b7 b8 b9 ta rest a va vk av ks){k:Nat}(hk:k<B1):va.ownBlock≠some k/\vk.ownBlock≠some k:=
 ⟨λe=>by have:=h.rA.new k e;omega,λe=>by have:=h.rK.new k e;omega⟩
theorem TL.args{w2 w3:World}{va':Value}{x:Nat}(h:TL w0 w p f M vt B1 b2 b7 b8 b9 ta rest a va vk av ks)(hR:Ro w0 w2 p f M vt B1 jY 1 va' (av++[x]).length (ints (av++[x])))(hc:Chg (λk=>va.ownBlock=some k) w w2)(hv:∀k,va'.ownBlock=some k->va.ownBlock=some k\/w.heap.size<=k)
  (hc3:Chg (One b7) w2 w3)(hb:w3.heap[b7]?=some (.cells [i64 6,str [],va',vk,i64 ta].toArray ExT (0,0))):TL w0 w3 p f M vt B1 b2 b7 b8 b9 ta rest a va' vk (av++[x]) ks:=by
 obtain⟨q1,q2,q3,q4,q5⟩:=h.lt;obtain⟨n1,n2,n3,n4,n5,n6⟩:=h.ne;have z:=hc3.size;have o7:=((h.l7.row hc (h.noA q2).1).2).up z;refine⟨(h.l2.row hc (h.noA q1).1).one hc3 n1,⟨hb,o7⟩,(h.l8.row hc (h.noA q3).1).one hc3 (kG n4),(h.l9.row hc (h.noA q4).1).one hc3 (kG n5),hR.one hc3 λe=>by have:=hR.new b7 e;omega,
  (h.rK.row hc λk hk e=>h.dd k e hk).one hc3 (h.noA q2).2,λk hk=>?_,⟨q1,q2,q3,q4,dR q5 (dR hc.size z)⟩,h.ne⟩
 rcases hv k hk with e|e
 ·exact h.dd k e
 ·intro e';have:=(h.rK.off k e').1.2;omega
theorem TL.keys{w2 w3:World}{vk':Value}{x:Str}(h:TL w0 w p f M vt B1 b2 b7 b8 b9 ta rest a va vk av ks)(hR:Ro w0 w2 p f M vt B1 StT 1 vk' (ks++[x]).length (strs (ks++[x])))(hc:Chg (λk=>vk.ownBlock=some k) w w2)(hv:∀k,vk'.ownBlock=some k->vk.ownBlock=some k\/w.heap.size<=k)
  (hc3:Chg (One b7) w2 w3)(hb:w3.heap[b7]?=some (.cells [i64 6,str [],va,vk',i64 ta].toArray ExT (0,0))):TL w0 w3 p f M vt B1 b2 b7 b8 b9 ta rest a va vk' av (ks++[x]):=by
 obtain⟨q1,q2,q3,q4,q5⟩:=h.lt;obtain⟨n1,n2,n3,n4,n5,n6⟩:=h.ne;have z:=hc3.size;have o7:=((h.l7.row hc (h.noA q2).2).2).up z;refine⟨(h.l2.row hc (h.noA q1).2).one hc3 n1,⟨hb,o7⟩,(h.l8.row hc (h.noA q3).2).one hc3 (kG n4),(h.l9.row hc (h.noA q4).2).one hc3 (kG n5),(h.rA.row hc λk hk e=>h.dd k hk e).one hc3 (h.noA q2).1,
  hR.one hc3 λe=>by have:=hR.new b7 e;omega,λk hk e'=>?_,⟨q1,q2,q3,q4,dR q5 (dR hc.size z)⟩,h.ne⟩
 rcases hv k e' with e|e
 ·exact h.dd k hk e
 ·have:=(h.rA.off k hk).1.2;omega
theorem TL.appA{x:Nat}{r:Nat}{ty:TypeId}{KW:World->Prop}(h:TL w0 w p f M vt B1 b2 b7 b8 b9 ta rest a va vk av ks)(hp:PR w0 w p f M vt s top)(hr:w.heap[r]?=some (.cells [i64 (x:Nat)].toArray jY (0,0)))(hn:av.length<=1000000)
  (hK:∀va' w',TL w0 w' p f M vt B1 b2 b7 b8 b9 ta rest a va' vk (av++[x]) ks->PR w0 w' p f M vt s top->Chg (λk=>va.ownBlock=some k\/k=b7) w w'->(∀k,va'.ownBlock=some k->va.ownBlock=some k\/w.heap.size<=k)->KW w'):
  fY P0 (Builtin.append_ #[26,26] ty #[va,.slice (some ⟨r,0,none⟩) 1 1]) w λt62 w36=>aR 2 (.pointer (some ⟨b7,0,none⟩)) λt63=>stW 1 t63 t62 w36 KW:=by
 obtain⟨q1,q2,q3,q4,q5⟩:=h.lt;refine Ro.app Aj h.rA hp hr rfl (λu hu=>by simp only[bX]at hu;subst hu;rfl) hn (by decide) q5 λv' w2 hR hc hv hp2=>?_;have e1:(av++[x]).length=av.length+1:=by simp
 have e2:ints (av++[x])=ints av++[i64 (x:Nat)]:=by simp[ints]
 rw[<-e1,<-e2]at hR;rw[bE,bL,aI];obtain⟨vp,vc,ev,_⟩:=hR.own.sl.shape;refine(h.l7.row hc (h.noA q2).1).st (by rw[ev];rfl) (by simp) λw3 L3 hc3 hz3=>?_;exact hK v' w3 (h.args hR hc hv hc3 (by rw[L3.1];rfl)) (hp2.one hc3 ⟨⟨L3.2.1.1,by have:=L3.2.1.2;omega⟩,L3.2.2⟩) ((hc.mono λk _ e=>.inl e).trans (hc3.mono λk _ e=>.inr e)) hv
theorem TL.appK{x:Str}{r:Nat}{ty:TypeId}{KW:World->Prop}(h:TL w0 w p f M vt B1 b2 b7 b8 b9 ta rest a va vk av ks)(hp:PR w0 w p f M vt s top)(hr:w.heap[r]?=some (.cells [str x].toArray StT (0,0)))(hn:ks.length<=1000000)
  (hK:∀vk' w',TL w0 w' p f M vt B1 b2 b7 b8 b9 ta rest a va vk' av (ks++[x])->PR w0 w' p f M vt s top->Chg (λk=>vk.ownBlock=some k\/k=b7) w w'->(∀k,vk'.ownBlock=some k->vk.ownBlock=some k\/w.heap.size<=k)->KW w'):
  fY P0 (Builtin.append_ #[33,33] ty #[vk,.slice (some ⟨r,0,none⟩) 1 1]) w λt62 w36=>aR 3 (.pointer (some ⟨b7,0,none⟩)) λt63=>stW 1 t63 t62 w36 KW:=by
 obtain⟨q1,q2,q3,q4,q5⟩:=h.lt;refine Ro.app Fy h.rK hp hr rfl (λu hu=>by simp only[bX]at hu;subst hu;rfl) hn (by decide) q5 λv' w2 hR hc hv hp2=>?_;have e1:(ks++[x]).length=ks.length+1:=by simp
 have e2:strs (ks++[x])=strs ks++[str x]:=by simp[strs]
 rw[<-e1,<-e2]at hR;rw[bE,bL,aI];obtain⟨vp,vc,ev,_⟩:=hR.own.sl.shape;refine(h.l7.row hc (h.noA q2).2).st (by rw[ev];rfl) (by simp) λw3 L3 hc3 hz3=>?_;exact hK v' w3 (h.keys hR hc hv hc3 (by rw[L3.1];rfl)) (hp2.one hc3 ⟨⟨L3.2.1.1,by have:=L3.2.1.2;omega⟩,L3.2.2⟩) ((hc.mono λk _ e=>.inl e).trans (hc3.mono λk _ e=>.inr e)) hv
theorem Va{E:PS->R Nat}{dl e b10 b11:Nat}{M0:Lay}{wb:World}(he0:Eff p f M0 M wb w)(hw7:wb.heap.size<=b7)(hwB:wb.heap.size<=B1)(hS:yH w0 f)(hE:EC w0 f 118 E dl)(hF:sO E)(h:PR w0 w p f M vt s top)(hg:Gd N s dl)(hT:TL w0 w p f M vt B1 b2 b7 b8 b9 ta rest a va vk av ks)
  (l10:Loc w0 w p f M vt b10 jY [i64 (i:Nat)])(l11:Loc w0 w p f M vt b11 jY [i64 (e:Nat)])(n10:va.ownBlock≠some b10/\vk.ownBlock≠some b10/\b10≠b7)(n11:va.ownBlock≠some b11/\vk.ownBlock≠some b11/\b11≠b7)
  (hie:i+3<=e)(hel:e<=rest.length)(h0:0<=a)(h1:a+rest.length+1<=N)(hphi:Syn.phi s+(e-1-(i+2))<=100000)(hn:av.length<=1000000)
  (hK:∀x s',pR E s ((rest.drop (i+2)).take (e-1-(i+2))) (a+i+2)=.ok x s'->∀M' va' w',PR w0 w' p f M' vt s' top->Eff p f M0 M' wb w'->TL w0 w' p f M' vt B1 b2 b7 b8 b9 ta rest a va' vk (av++[x]) ks->
    Loc w0 w' p f M' vt b10 jY [i64 (i:Nat)]->Loc w0 w' p f M' vt b11 jY [i64 (e:Nat)]->(va'.ownBlock≠some b10/\va'.ownBlock≠some b11)->K (.tuple #[]) w')
  (ht:∀c a',pR E s ((rest.drop (i+2)).take (e-1-(i+2))) (a+i+2)=.err c a'->Thr w0 f c a'):
  aJ P0 256 [.pointer (some ⟨b7,0,none⟩),.pointer (some ⟨b2,0,none⟩),.pointer (some ⟨b8,0,none⟩),.pointer (some ⟨b10,0,none⟩),.pointer (some ⟨b11,0,none⟩),.pointer (some ⟨b9,0,none⟩)] w K:=by
 refine SF ?_;unfold Zg;have hN:=hg.hN;have T1:=hT.ext (cQ w);have h1':=h.drew;have k10:=l10.drew;have k11:=l11.drew;rw[bE,bL,aI];refine T1.l7.ld rfl ?_;refine T1.l2.ld rfl ?_;refine T1.l8.ld rfl ?_;refine k10.ld rfl ?_;rw[cJ,gI (by omega) (by omega)];refine k11.ld rfl ?_;rw[gR,gI (by omega) (by omega),fA,eR];refine⟨by omega,by omega,?_⟩;rw[eR];refine⟨by omega,by omega,?_⟩;refine T1.l9.ld rfl ?_;refine k10.ld rfl ?_;rw[cJ,gI (by omega) (by omega),cJ,gI (by omega) (by omega)];have et:(rest.take ((e:Int)-1).toNat).drop ((i:Int)+2).toNat=(rest.drop (i+2)).take (e-1-(i+2)):=by
  rw[show((e:Int)-1).toNat=e-1 by omega,show((i:Int)+2).toNat=i+2 by omega,List.drop_take]
 rw[et];have hlen:((rest.drop (i+2)).take (e-1-(i+2))).length=e-1-(i+2):=by rw[cO,aX];omega
 refine RN hS hE hF h1' hg (by omega) (by rw[hlen];omega) (by rw[hlen];exact hphi) (λx s' hx M' w2 h2 he2=>?_) ht;have T2:=T1.eff he2;have ld7:∀{w3:World},TL w0 w3 p f M' vt B1 b2 b7 b8 b9 ta rest a va vk av ks->ldW false 1 (.pointer (some ⟨b7,2,none⟩)) w3 λx=>x=va:=λT=>T.l7.ld rfl rfl;refine⟨ld7 T2,?_⟩;refine mF λr w3 hr hz3 hrb hx3=>?_;have T3:=T2.ext hx3;refine⟨ld7 T3,?_⟩;refine T3.appA (h2.ext hx3) hrb hn λva' w4 T4 h4 hc4 hv4=>?_;have he23:=(Eff.ext (cQ w)).trans (he2.x hx3);have z3:=he23.chg.size;have j10:=(k10.eff he2).ext hx3;have j11:=(k11.eff he2).ext hx3;have b7o:=T3.l7.2;have heb:Eff p f M0 M' wb w4:=(he0.trans he23).then hc4 λk hk e=>by
  rcases e with e|e
  ·have:=hT.rA.new k e;omega
  ·omega
 exact hK x s' hx M' va' w4 h4 heb T4 ⟨hc4.at j10.1 λe=>e.elim n10.1 n10.2.2,j10.2.up hc4.size⟩ ⟨hc4.at j11.1 λe=>e.elim n11.1 n11.2.2,j11.2.up hc4.size⟩ ⟨λe=>(hv4 _ e).elim n10.1 λe=>by have:=j10.lt;omega,λe=>(hv4 _ e).elim n11.1 λe=>by have:=j11.lt;omega⟩
end
end
def MI(w:World)(b:Nat):Nat:=match w.heap[b]? with|some (.cells c _ _)=>(match(c[0]?:Option Value)with|some (Value.string t)=>t.size|_=>0)|_=>0
section
variable [HX]
variable{w0 w w' w1:World}{p f b:Nat}{M M':Lay}{vt:Value}{s:PS}{top:List Nat}{N:Int}{K:Q0}
theorem Loc.strat{rest:Str}(h:Loc w0 w p f M vt b StT [str rest]):MI w b=rest.length:=by
 unfold MI;rw[h.1];simp[jV]
theorem vF{K:Q0}(h1:jM v=true)(h:∀a w',a=w.heap.size->w'.heap.size=w.heap.size+1->w'.heap[a]?=some (.cells [v].toArray T (0,0))->Ext w w'->K (.pointer (some ⟨a,0,none⟩)) w'):jF T v w K:=by
 have hc:v.cells=#[v]:=by cases v<;>first|rfl|(simp[jM]at h1)
 unfold jF;rw[hc];exact h _ _ rfl (by simp) (kF _ _ _ rfl) (Chg.alloc (Chg.refl _ _) _)
theorem Gd.put{N:Int}{s:PS}{dl:Nat}(h:Gd N s dl){e:Ex}(hp:Syn.phi s+1<=100000):Gd N {s with ex:=s.ex++[e]} dl:=⟨⟨h.ws.tg,h.ws.lt,h.ws.pN⟩,h.hN,h.few,h.ts,dR (mW s e) hp,h.lev⟩
theorem Hr{M0:Lay}{wb:World}{l:Str}{a:Int}(h:PR w0 w p f M vt s top)(he:Eff p f M0 M wb w)(hlen:s.ex.length<=1000000)
  (hK:∀M' w',PR w0 w' p f M' vt {s with ex:=s.ex++[⟨5,l,[],[],a⟩]} top->Eff p f M0 M' wb w'->(∀b T cs,Loc w0 w p f M vt b T cs->Loc w0 w' p f M' vt b T cs)->(∀wb T m v n xs,Ro w0 w p f M vt wb T m v n xs->Ro w0 w' p f M' vt wb T m v n xs)->w.heap.size<=w'.heap.size->K (i64 (s.ex.length:Nat)) w'):
  aJ P0 158 [.pointer (some ⟨p,0,none⟩),.agg [i64 5,str l,.slice none 0 0,.slice none 0 0,i64 a].toArray] w K:=by
 have hub:ub [i64 5,str l,.slice none 0 0,.slice none 0 0,i64 a]=[]:=rfl;refine Jb (M0:=M) (wb:=w) (e:=⟨5,l,[],[],a⟩) h (Eff.refl _ _ _ _) ⟨.slice none 0 0,.slice none 0 0,rfl,⟨by simp[ints],.inl ⟨rfl,rfl⟩⟩,⟨by simp[strs],.inl ⟨rfl,rfl⟩⟩⟩ (by rw[hub];intro k hk;cases hk) (by rw[hub];exact mI) (by rw[hub];intro k hk;cases hk) hlen λM' w' h' he' hl'=>?_;exact hK M' w' h' (he.trans he') (λb T cs hL=>hl' b T cs hL (by rw[hub];exact cA)) (λwb T m v n xs hR=>hR.eff he') he'.chg.size
theorem Vb{E:PS->R Nat}{dl:Nat}{t:Tok}(hS:yH w0 f)(hE:∀d,dl=d+1->EC w0 f 118 E d)(hF:sO E)(h:PR w0 w p f M vt s top)(hg:Gd N s dl)(hx:Em t.t)(hl:t.t.length<=100000)
  (ha:0<=t.a/\t.a<=N)(hte:GR N t.a t.t)(hphi:Syn.phi s+wt {t with k:=3}<=100000)
  (hK:∀x s',zN E s t=.ok x s'->∀M' w',PR w0 w' p f M' vt s' top->Eff p f M M' w w'->K (i64 (x:Nat)) w')(ht:∀c a',zN E s t=.err c a'->Thr w0 f c a'):
  aJ P0 232 [.pointer (some ⟨p,0,none⟩),.agg (jI t).toArray] w K:=by
 refine SP ?_;unfold Zp;have hN:=hg.hN;refine vF rfl λb2 w1 hb2 hz1 hbb1 hx1=>?_;have h1:=h.ext hx1;have L1:=h.loc hz1 hb2 hbb1;refine fZ (z:=jI t) λb3 w2 hb3 hz2 hbb2 hx2=>?_;have h2:=h1.ext hx2;have L12:=L1.ext hx2;have L2:=h1.loc hz2 hb3 hbb2;have he2:Eff p f M M w w2:=(Eff.ext hx1).x hx2;refine L2.ldf rfl ?_;refine xR (by omega) ?_;rw[bY];unfold zN at hK ht;cases hi:Syn.insP t.t with
 |none=>
  have ei:GE t.t=[i64 (-1),i64 0]:=by unfold GE;rw[hi]
  rw[ei];refine⟨i64 (-1),rfl,?_⟩;rw[bY];refine⟨i64 0,rfl,?_⟩;rw[dI,bD];refine⟨λ_=>?_,λe=>by omega⟩;rw[hi]at hK ht;simp only[Option.isSome_none,mV,qY]at hK ht;refine L12.drew.ld rfl ?_;refine L2.drew.ldf rfl ?_;rw[bE,bL,aI];refine L2.drew.ld rfl ?_;refine IQ ((IL hx).1 hi) (by omega) λw3 hx3=>?_;have L3:=L2.drew.ext hx3;have L13:=L12.drew.ext hx3;refine⟨L3.ld rfl rfl,L13.ld rfl rfl,?_⟩;simp only[dP,dW,dN,aB,aK,aM,aQ,Nat.reduceAdd,Nat.reduceLT,dJ,aY];have h3:=h2.drew.ext hx3;refine Hr h3 ((he2.x (cQ w2)).x hx3) (by have:=hg.ex;omega) λM' w4 h4 he4 _ _ _=>?_;exact hK _ _ rfl M' w4 h4 he4
 |some ie=>
  have ei:GE t.t=[i64 (ie.1:Nat),i64 (ie.2:Nat)]:=by unfold GE;rw[hi]
  rw[ei];refine⟨i64 (ie.1:Nat),rfl,?_⟩;rw[bY];refine⟨i64 (ie.2:Nat),rfl,?_⟩;rw[dI,bD];refine⟨λe=>by omega,λ_=>?_⟩;rw[hi]at hK ht;simp only[cN,qH]at hK ht;have hte:t.a+t.t.length+2<=N:=hte.resolve_left λe=>by rw[e]at hi;cases hi
  have hwt:wt {t with k:=3}=t.t.length+2:=by unfold wt;rw[aL (by simp),aU ⟨rfl,by rw[hi];rfl⟩]
  rw[hwt]at hphi;refine L2.ldf rfl ?_;simp only[dP,dW,dN,aB,aK,aM,aQ,Nat.reduceAdd,Nat.reduceLT,dJ,aY];refine cK λb7 w3 hb7 hz3 hbb3 hx3=>?_;have h3:=h2.ext hx3;have L3:=h2.loc hz3 hb7 hbb3;refine cY (l:=[i64 6,str [],.slice none 0 0,.slice none 0 0,i64 t.a]) hbb3 rfl rfl rfl λw4 hz4 hbb4 hc4=>?_;have L4:Loc w0 w4 p f M vt b7 ExT [i64 6,str [],.slice none 0 0,.slice none 0 0,i64 t.a]:=⟨hbb4,L3.2.up (by omega)⟩;have h4:=h3.one hc4 L3.2;have L14:=(L12.ext hx3).one hc4 (by omega);have L24:=(L2.ext hx3).one hc4 (by omega);have he4:Eff p f M M w w4:=(he2.x hx3).one hc4 (by omega);refine dE.cut (λst w'=>∃b8 b9 B1,st=[.pointer (some ⟨b8,0,none⟩),.pointer (some ⟨b9,0,none⟩)]/\TL w0 w' p f M vt B1 b2 b7 b8 b9 t.a t.t (t.a+1) (.slice none 0 0) (.slice none 0 0) [] []/\PR w0 w' p f M vt s top/\Eff p f M M w w'/\w.heap.size<=B1/\w.heap.size<=b8/\w.heap.size<=b9) ?_ ?_
  ·have L4d:=L4.drew;have L14d:=L14.drew;have L24d:=L24.drew;have h4d:=h4.drew;have he4d:=he4.x (cQ w4);have ld1:∀{w':World},Loc w0 w' p f M vt b3 TkT (jI t)->ldW false 1 (.pointer (some ⟨b3,1,none⟩)) w' λx=>x=str t.t:=λL=>L.ld rfl rfl;have ld2:∀{w':World},Loc w0 w' p f M vt b3 TkT (jI t)->ldW false 1 (.pointer (some ⟨b3,2,none⟩)) w' λx=>x=i64 t.a:=λL=>L.ld rfl rfl;rw[bE,bL,aI];refine L24d.ld rfl ?_;rw[bE,bL,aI];refine L24d.ld rfl ?_;rw[cJ,gI (by omega) (by omega)];have zd:w4.drew.heap.size=w4.heap.size:=rfl;have fin:∀{w5:World} {b8 b9:Nat},PR w0 w5 p f M vt s top->Eff p f M M w w5->Loc w0 w5 p f M vt b2 PpT [.pointer (some ⟨p,0,none⟩)]->Loc w0 w5 p f M vt b7 ExT [i64 6,str [],.slice none 0 0,.slice none 0 0,i64 t.a]->Loc w0 w5 p f M vt b8 StT [str t.t]->Loc w0 w5 p f M vt b9 jY [i64 (t.a+1)]->w4.heap.size<=b8->w4.heap.size<=b9->b8≠b9->
     ∃b8' b9' B1,[Value.pointer (some ⟨b8,0,none⟩),.pointer (some ⟨b9,0,none⟩)]=[.pointer (some ⟨b8',0,none⟩),.pointer (some ⟨b9',0,none⟩)]/\TL w0 w5 p f M vt B1 b2 b7 b8' b9' t.a t.t (t.a+1) (.slice none 0 0) (.slice none 0 0) [] []/\PR w0 w5 p f M vt s top/\Eff p f M M w w5/\w.heap.size<=B1/\w.heap.size<=b8'/\w.heap.size<=b9':=λ{w5 b8 b9} hp he l2 l7 l8 l9 g8 g9 gn=>
    ⟨b8,b9,w5.heap.size,rfl,⟨l2,l7,l8,l9,Ro.nil _ _,Ro.nil _ _,λk hk=>by simp[Value.ownBlock]at hk,⟨l2.lt,l7.lt,l8.lt,l9.lt,aZ _⟩,⟨by omega,by omega,by omega,by omega,by omega,gn⟩⟩,hp,he,he.chg.size,by omega,by omega⟩
   refine⟨?_,?_⟩
   ·refine cK λb8 w5 hb8 hz5 hbb5 hx5=>?_;have L8:=h4d.loc hz5 hb8 hbb5;have h5:=h4d.ext hx5;have T5:=L24d.ext hx5;refine⟨ld2 T5,ld1 T5,?_⟩;refine cK λb9 w6 hb9 hz6 hbb6 hx6=>?_;have L9:=h5.loc hz6 hb9 hbb6;have h6:=h5.ext hx6;have T6:=T5.ext hx6;refine⟨ld2 T6,ld1 T6,?_⟩;refine(L8.ext hx6).st rfl (by simp) λw7 L87 hc7 hz7=>?_;have h7:=h6.one hc7 (L8.ext hx6).2;have T7:=T6.one hc7 (by omega);refine⟨ld2 T7,?_⟩;refine(L9.one hc7 (by omega)).st rfl (by simp) λw8 L98 hc8 hz8=>?_;have h8:=h7.one hc8 (L9.one hc7 (by omega)).2;exact fin h8 ((((he4d.x hx5).x hx6).one hc7 (by omega)).one hc8 (by omega)) ((((L14d.ext hx5).ext hx6).one hc7 (by omega)).one hc8 (by omega)) ((((L4d.ext hx5).ext hx6).one hc7 (by omega)).one hc8 (by omega)) (L87.one hc8 (by omega)) L98 (by omega) (by omega) (by omega)
   ·refine cK λb9 w5 hb9 hz5 hbb5 hx5=>?_;have L9:=h4d.loc hz5 hb9 hbb5;have h5:=h4d.ext hx5;have T5:=L24d.ext hx5;refine⟨ld2 T5,ld1 T5,?_⟩;refine cK λb8 w6 hb8 hz6 hbb6 hx6=>?_;have L8:=h5.loc hz6 hb8 hbb6;have h6:=h5.ext hx6;have T6:=T5.ext hx6;refine⟨ld2 T6,ld1 T6,?_⟩;refine L8.st rfl (by simp) λw7 L87 hc7 hz7=>?_;have h7:=h6.one hc7 L8.2;have T7:=T6.one hc7 (by omega);refine⟨ld2 T7,?_⟩;refine((L9.ext hx6).one hc7 (by omega)).st rfl (by simp) λw8 L98 hc8 hz8=>?_;have h8:=h7.one hc8 ((L9.ext hx6).one hc7 (by omega)).2;exact fin h8 ((((he4d.x hx5).x hx6).one hc7 (by omega)).one hc8 (by omega)) ((((L14d.ext hx5).ext hx6).one hc7 (by omega)).one hc8 (by omega)) ((((L4d.ext hx5).ext hx6).one hc7 (by omega)).one hc8 (by omega)) (L87.one hc8 (by omega)) L98 (by omega) (by omega) (by omega)
  rintro st g w5 ⟨b8,b9,B1,rfl,T5,h5,he5,hB1,hB8,hB9⟩;simp only[aC,bO];clear L1 L12 L2 L3 L4 L14 L24;have hz5:=he5.chg.size;generalize hR:oG E (t.t.length+1) s t.t (t.a+1) [] []=R0 at hK ht;refine dL.go (λst w'=>st=[]/\∃s1 M1 rest a va vk av ks n,PR w0 w' p f M1 vt s1 top/\Gd N s1 dl/\Eff p f M M1 w w'/\TL w0 w' p f M1 vt B1 b2 b7 b8 b9 t.a rest a va vk av ks/\oG E n s1 rest a av ks=R0/\rest.length<n/\Em rest/\0<=a/\a+rest.length+1<=N/\Syn.phi s1+rest.length+1<=100000/\av.length+2*rest.length<=2*t.t.length/\ks.length=av.length)
   (λ_ w'=>MI w' b8) ⟨rfl,s,M,t.t,t.a+1,_,_,[],[],t.t.length+1,h5,hg,he5,T5,hR,by omega,hx,by omega,by omega,by omega,by simp,rfl⟩ ?_
  rintro st g2 w6 ⟨rfl,s1,M1,rest,a,va,vk,av,ks,n,h6,hg1,he6,T6,hpf,hn,hxr,ha0,haN,hph,hav,hks⟩;have hw6:=he6.chg.size;refine T6.l8.ld rfl ?_;rw[gA,bD];refine⟨λhne=>?_,λhne=>?_⟩
  ·obtain⟨n,rfl⟩:∃m,n=m+1:=⟨n-1,by omega⟩;rw[Hz hne hn]at hpf;obtain⟨i1,i2,i3,i4,i5,i6,i7⟩:=RJ hxr;have i6:=i6 hne;refine T6.l8.ld rfl ?_;refine xR (by omega) ?_;have hlen:rest.length<=100000:=by omega
   have two:∃u v:Int,GE rest=[i64 u,i64 v]/\((Syn.insP rest=none/\u=-1)\/(Syn.insP rest≠none/\u=((nI rest).1:Nat)/\v=((nI rest).2:Nat))):=by
    unfold nI GE;cases hr:Syn.insP rest with
    |none=>exact⟨-1,0,rfl,.inl ⟨rfl,rfl⟩⟩
    |some x=>exact⟨_,_,rfl,.inr ⟨by simp,rfl,rfl⟩⟩
   obtain⟨u,v,euv,huv⟩:=two;rw[euv,bY];refine⟨i64 u,rfl,?_⟩;rw[bY];refine⟨i64 v,rfl,?_⟩;refine cK λb10 w7 hb10 hz7 hbb7 hx7=>?_;have h7:=h6.ext hx7;have T7:=T6.ext hx7;have l10:=h6.loc hz7 hb10 hbb7;refine cK λb11 w8 hb11 hz8 hbb8 hx8=>?_;have h8:=h7.ext hx8;have T8:=T7.ext hx8;have l11:=h7.loc hz8 hb11 hbb8;have hB6:=T6.lt.2.2.2.2;have nA10:∀k,va.ownBlock=some k->k<w6.heap.size:=λk hk=>(T6.rA.off k hk).1.2;have nK10:∀k,vk.ownBlock=some k->k<w6.heap.size:=λk hk=>(T6.rK.off k hk).1.2;have no10:va.ownBlock≠some b10/\vk.ownBlock≠some b10:=⟨λe=>by have:=nA10 _ e;omega,λe=>by have:=nK10 _ e;omega⟩;have no11:va.ownBlock≠some b11/\vk.ownBlock≠some b11:=⟨λe=>by have:=nA10 _ e;omega,λe=>by have:=nK10 _ e;omega⟩;refine(l10.ext hx8).st rfl (by simp) λw9 l10 hc9 hz9=>?_;have h9:=h8.one hc9 l10.2;have T9:=T8.one hc9 (by omega) no10.1 no10.2;refine(l11.one hc9 (by omega)).st rfl (by simp) λw10 l11 hc10 hz10=>?_;have l10:=l10.one hc10 (by omega);have h10:=h9.one hc10 l11.2;have T10:=T9.one hc10 (by omega) no11.1 no11.2;have he10:Eff p f M M1 w w10:=(((he6.x hx7).x hx8).one hc9 (by omega)).one hc10 (by omega);simp only[aM]at l10 l11;refine dE.cut (λ_ w'=>Loc w0 w' p f M1 vt b10 jY [i64 ((nI rest).1:Nat)]/\Loc w0 w' p f M1 vt b11 jY [i64 ((nI rest).2:Nat)]/\PR w0 w' p f M1 vt s1 top/\TL w0 w' p f M1 vt B1 b2 b7 b8 b9 t.a rest a va vk av ks/\Eff p f M M1 w w'/\w10.heap.size<=w'.heap.size) ?_ ?_
   ·refine l10.ld rfl ?_;rw[dI,bD];refine⟨λhlt=>?_,λhge=>?_⟩
    ·have hnone:Syn.insP rest=none:=by
      rcases huv with h|h
      ·exact h.1
      ·omega
     have eI:nI rest=(rest.length,rest.length):=by unfold nI;rw[hnone]
     have T11:=T10.ext (cQ w10);refine T11.l8.ld rfl ?_;rw[dV];refine T11.l8.ld rfl ?_;rw[dV];refine l10.drew.st rfl (by simp) λw12 l10 hc12 hz12=>?_;have h12:=h10.drew.one hc12 l10.2;have T12:=T11.one hc12 (by omega) no10.1 no10.2;refine⟨T12.l8.ld rfl rfl,?_⟩;have zd:w10.drew.heap.size=w10.heap.size:=rfl;refine(l11.drew.one hc12 (by omega)).st rfl (by simp) λw13 l11 hc13 hz13=>?_;have h13:=h12.one hc13 l11.2;have T13:=T12.one hc13 (by omega) no11.1 no11.2;have l10:=l10.one hc13 (by omega);simp only[aM]at l10 l11;rw[eI];exact⟨l10,l11,h13,T13,((he10.x (cQ _)).one hc12 (by omega)).one hc13 (by omega),by omega⟩
    ·rcases huv with h|⟨_,e1,e2⟩
     ·omega
     ·rw[e1]at l10;rw[e2]at l11;exact⟨l10,l11,h10,T10,he10,aZ _⟩
   rintro _ g3 w14 ⟨l10,l11,h14,T14,he14,hz14⟩;clear hc9 hc10 h7 h8 h9 h10 T7 T8 T9 T10 he10;generalize hI:(nI rest).1=I at*
   generalize hE':(nI rest).2=E' at*
   have hw14:=he14.chg.size;refine dE.cut (λ_ w'=>∃M2 va2 vk2,PR w0 w' p f M2 vt (vY s1 rest a) top/\Eff p f M M2 w w'/\TL w0 w' p f M2 vt B1 b2 b7 b8 b9 t.a rest a va2 vk2 (if 0<I then av++[s1.ex.length]else av) (if 0<I then ks++[[116]]else ks)/\Loc w0 w' p f M2 vt b10 jY [i64 (I:Nat)]/\Loc w0 w' p f M2 vt b11 jY [i64 (E':Nat)]/\(va2.ownBlock≠some b10/\vk2.ownBlock≠some b10)/\(va2.ownBlock≠some b11/\vk2.ownBlock≠some b11)) ?_ ?_
   ·refine l10.ld rfl ?_;rw[gD,bD];unfold vY;rw[hI];refine⟨λhpos=>?_,λhpos=>?_⟩
    ·have hpos:0<I:=by omega
     simp only[aU hpos];have T15:=T14.ext (cQ w14);have h15:=h14.drew;have l10:=l10.drew;have l11:=l11.drew;rw[bE,bL,aI];refine T15.l7.ld rfl ?_;refine T15.l2.ld rfl ?_;refine T15.l8.ld rfl ?_;refine l10.ld rfl ?_;rw[fA,eR];refine⟨by omega,by omega,?_⟩;rw[fC,eZ,aV];refine T15.l9.ld rfl ?_;refine IQ i3 (by rw[cO];omega) λw16 hx16=>?_;have T16:=T15.ext hx16;have h16:=h15.ext hx16;have l10:=l10.ext hx16;have l11:=l11.ext hx16;refine⟨T16.l9.ld rfl rfl,T16.l2.ld rfl rfl,T16.l7.ld rfl rfl,?_⟩;simp only[dP,dW,dN,aB,aK,aM,aQ,Nat.reduceAdd,Nat.reduceLT,dJ,aY];have he16:=(he14.x (cQ w14)).x hx16;refine Hr h16 he16 (by have:=hg1.ex;omega) λM2 w17 h17 he17 hl17 hr17 hz17=>?_;have T17:TL w0 w17 p f M2 vt B1 b2 b7 b8 b9 t.a rest a va vk av ks:=⟨hl17 _ _ _ T16.l2,hl17 _ _ _ T16.l7,hl17 _ _ _ T16.l8,hl17 _ _ _ T16.l9,hr17 _ _ _ _ _ _ T16.rA,hr17 _ _ _ _ _ _ T16.rK,T16.dd,⟨T16.lt.1,T16.lt.2.1,T16.lt.2.2.1,T16.lt.2.2.2.1,dR T16.lt.2.2.2.2 hz17⟩,T16.ne⟩;have l10:=hl17 _ _ _ l10;have l11:=hl17 _ _ _ l11;refine⟨T17.l7.ld rfl rfl,?_⟩;refine mF λr w18 hr hz18 hrb hx18=>?_;have T18:=T17.ext hx18;refine⟨T18.l7.ld rfl rfl,?_⟩;refine T18.appA (h17.ext hx18) hrb (by omega) λva2 w19 T19 h19 hc19 hv19=>?_;have n7:=T18.lt.2.1;have l10':Loc w0 w19 p f M2 vt b10 jY [i64 (I:Nat)]:=⟨hc19.at (l10.ext hx18).1 λe=>e.elim no10.1 (by omega),(l10.ext hx18).2.up hc19.size⟩;have l11':Loc w0 w19 p f M2 vt b11 jY [i64 (E':Nat)]:=⟨hc19.at (l11.ext hx18).1 λe=>e.elim no11.1 (by omega),(l11.ext hx18).2.up hc19.size⟩;have a10:va2.ownBlock≠some b10:=λe=>(hv19 _ e).elim no10.1 λe=>by have:=(l10.ext hx18).lt;omega
     have a11:va2.ownBlock≠some b11:=λe=>(hv19 _ e).elim no11.1 λe=>by have:=(l11.ext hx18).lt;omega
     have hw16:=he16.chg.size;have he19:Eff p f M M2 w w19:=(he17.x hx18).then hc19 λk hk e=>by
      rcases e with e|e
      ·have:=T6.rA.new k e;omega
      ·omega
     rw[bE,bL,aI];refine T19.l7.ld rfl ?_;refine wJ λr2 w20 hr2 hz20 hrb2 hx20=>?_;have T20:=T19.ext hx20;refine T20.appK (h19.ext hx20) hrb2 (by omega) λvk2 w21 T21 h21 hc21 hv21=>?_;have hw19:=he19.chg.size;refine⟨M2,va2,vk2,h21,(he19.x hx20).then hc21 λk hk e=>?_,T21,⟨hc21.at (l10'.ext hx20).1 λe=>e.elim no10.2 (by omega),(l10'.ext hx20).2.up hc21.size⟩,⟨hc21.at (l11'.ext hx20).1 λe=>e.elim no11.2 (by omega),(l11'.ext hx20).2.up hc21.size⟩,
      ⟨a10,λe=>(hv21 _ e).elim no10.2 λe=>by have:=(l10'.ext hx20).lt;omega⟩,⟨a11,λe=>(hv21 _ e).elim no11.2 λe=>by have:=(l11'.ext hx20).lt;omega⟩⟩
     rcases e with e|e
     ·have:=T6.rK.new k e;omega
     ·omega
    ·simp only[aL (show¬0<I by omega)];exact⟨M1,va,vk,h14,he14,T14,l10,l11,no10,no11⟩
   rintro _ g4 w15 ⟨M2,va2,vk2,h15,he15,T15,l10,l11,no10,no11⟩;have hg2:Gd N (vY s1 rest a) dl/\Syn.phi (vY s1 rest a)<=Syn.phi s1+I:=by
    unfold vY;rw[hI];split
    ·have hp:=mW s1 ⟨5,jR (rest.take I),[],[],a⟩;have hp:Syn.phi {s1 with ex:=s1.ex++[⟨5,jR (rest.take I),[],[],a⟩]}<=Syn.phi s1+1:=hp;exact⟨hg1.put (by omega),by omega⟩
    ·exact⟨hg1,by omega⟩
   obtain⟨hg2,hp2⟩:=hg2;have hav2:(if 0<I then av++[s1.ex.length]else av).length<=av.length+(if 0<I then 1 else 0):=by split<;>simp
   have hks2:(if 0<I then ks++[[116]]else ks).length=(if 0<I then av++[s1.ex.length]else av).length:=by split<;>simp[hks]
   generalize (if 0<I then av++[s1.ex.length]else av)=av2 at*
   generalize (if 0<I then ks++[[116]]else ks)=ks2 at*
   generalize vY s1 rest a=s2 at*
   have hw15:=he15.chg.size;refine dE.cut (λ_ w'=>∃s3 M3 va3 vk3 av3 ks3,PR w0 w' p f M3 vt s3 top/\Gd N s3 dl/\Eff p f M M3 w w'/\TL w0 w' p f M3 vt B1 b2 b7 b8 b9 t.a rest a va3 vk3 av3 ks3/\Loc w0 w' p f M3 vt b11 jY [i64 (E':Nat)]/\oG E n s3 (rest.drop E') (a+E') av3 ks3=R0/\Syn.phi s3+(rest.length-E')+1<=100000/\av3.length+2*(rest.length-E')<=2*t.t.length/\ks3.length=av3.length) ?_ ?_
   ·refine l10.ld rfl ?_;refine l11.ld rfl ?_;rw[dI,bD];refine⟨λhlt=>?_,λhge=>?_⟩
    ·have hlt:I<E':=by omega
     have i5:=i5 hlt;rw[aU hlt]at hpf;refine T15.l2.ld rfl ?_;refine T15.l9.ld rfl ?_;refine l10.ld rfl ?_;rw[cJ,gI (by omega) (by omega)];have hlev:=hg2.lev;have hsat:=λ(d:Nat) (hd:dl=d+1)=>Fg (hF.ok N) (s:={s2 with deep:=s2.deep+1,quiet:=false}) (xA hg2.ws _ _) (t:=(rest.drop (I+2)).take (E'-1-(I+2))) (a:=a+I+2) (by omega) (by rw[cO,aX];omega);refine qP h15 (by omega) (λhd=>ht 7 (a+I) ?_) λhd w16 h16 he16=>?_
     ·rw[<-hpf];unfold within;rw[aU hd];rfl
     obtain⟨d,rfl⟩:∃d,dl=d+1:=⟨dl-1,by omega⟩;have hgi:=hg2.frame false;have hwin:within s2 (a+I) false (λq=>pR E q ((rest.drop (I+2)).take (E'-1-(I+2))) (a+I+2))=(pR E {s2 with deep:=s2.deep+1,quiet:=false} ((rest.drop (I+2)).take (E'-1-(I+2))) (a+I+2)).bind λx s'=>.ok x {s' with deep:=s2.deep,quiet:=s2.quiet}:=by
      unfold within;rw[aL hd]
     rw[hwin]at hpf;refine hY (caps:=[.pointer (some ⟨b7,0,none⟩),.pointer (some ⟨b2,0,none⟩),.pointer (some ⟨b8,0,none⟩),.pointer (some ⟨b10,0,none⟩),.pointer (some ⟨b11,0,none⟩),.pointer (some ⟨b9,0,none⟩)]) ?_;have n7:=T15.lt.2.1;have hphi':Syn.phi {s2 with deep:=s2.deep+1,quiet:=false}=Syn.phi s2:=rfl;refine Va (he15.trans he16) (by omega) hB1 hS (hE d rfl) hF h16 hgi (T15.eff he16) (l10.eff he16) (l11.eff he16) ⟨no10.1,no10.2,by omega⟩ ⟨no11.1,no11.2,by omega⟩ i5 i2 ha0 haN (by show Syn.phi s2+_<=_;omega) (by split at hav2<;>omega) (λx s' hx' M3 va3 w17 h17 he17 T17 k10 k11 hno=>?_) λc a' hx'=>ht c a' ?_
     ·rw[hx']at hpf;simp only[R.bind]at hpf;have hs1:=hsat d rfl;have hs2:=ES hF.z {s2 with deep:=s2.deep+1,quiet:=false} ((rest.drop (I+2)).take (E'-1-(I+2))) (a+I+2);rw[hx']at hs1 hs2;have hs2:Syn.phi s'<=Syn.phi s2+((rest.drop (I+2)).take (E'-1-(I+2))).length:=hs2;rw[cO,aX]at hs2;have hgs':Gd N s' d:=⟨hs1.1.ws hgi.ws,hN,by rw[hs1.1.toks];exact hgi.few,by rw[hs1.1.toks];exact hgi.ts,by omega,by rw[hs1.1.deep];exact hgi.lev⟩;refine⟨M3,s',h17,hs1.1.deep,λw18 h18 he18=>?_⟩;have T18:=T17.eff he18;rw[bE,bL,aI];refine T18.l7.ld rfl ?_;refine wJ λr2 w20 hr2 hz20 hrb2 hx20=>?_;have T20:=T18.ext hx20;have k11:=(k11.eff he18).ext hx20;refine T20.appK (h18.ext hx20) hrb2 (by split at hav2<;>omega) λvk3 w21 T21 h21 hc21 hv21=>?_;refine⟨_,M3,va3,vk3,av2++[x],ks2++[[101]],h21,hg2.back hgs',((he17.trans he18).x hx20).then hc21 λk hk e=>?_,T21,⟨hc21.at k11.1 λe=>e.elim no11.2 (by omega),k11.2.up hc21.size⟩,hpf,?_,?_,by simp[hks2]⟩
      ·rcases e with e|e
       ·have:=T17.rK.new k e;omega
       ·omega
      ·show Syn.phi s'+_+1<=_;omega
      ·simp only[aP,aB,aK];split at hav2<;>omega
     ·rw[hx']at hpf;rw[<-hpf];rfl
    ·have hge:¬I<E':=by omega
     rw[aL hge]at hpf;refine⟨s2,M2,va2,vk2,av2,ks2,h15,hg2,he15,T15,l11,hpf,by omega,?_,hks2⟩;split at hav2<;>omega
   rintro _ g5 w22 ⟨s3,M3,va3,vk3,av3,ks3,h22,hg3,he22,T22,l11,hpf3,hp3,hav3,hks3⟩;have T23:=T22.ext (cQ w22);have l11:=l11.drew;have h23:=h22.drew;have hw22:=he22.chg.size;refine T23.l8.ld rfl ?_;refine l11.ld rfl ?_;rw[fA,fC,eR];refine⟨by omega,by omega,?_⟩;rw[dZ,aV];refine T23.l9.ld rfl ?_;refine l11.ld rfl ?_;rw[cJ,gI (by omega) (by omega)];obtain⟨q1,q2,q3,q4,q5⟩:=T23.lt;obtain⟨m1,m2,m3,m4,m5,m6⟩:=T23.ne;refine T23.l8.st rfl (by simp) λw24 l8 hc24 hz24=>?_;have h24:=h23.one hc24 l8.2;have l9:=T23.l9.one hc24 (kG m6);have l11:=l11.one hc24 (by omega);refine⟨l11.ld rfl rfl,l9.ld rfl rfl,?_⟩;refine l9.st rfl (by simp) λw25 l9 hc25 hz25=>?_;have h25:=h24.one hc25 l9.2;have l8:=l8.one hc25 m6;simp only[aM]at l8 l9;have T25:TL w0 w25 p f M3 vt B1 b2 b7 b8 b9 t.a (rest.drop E') (a+E') va3 vk3 av3 ks3:=
    ⟨(T23.l2.one hc24 m2).one hc25 m3,(T23.l7.one hc24 m4).one hc25 m5,l8,l9,(T23.rA.one hc24 (T23.noA q3).1).one hc25 (T23.noA q4).1,(T23.rK.one hc24 (T23.noA q3).2).one hc25 (T23.noA q4).2,T23.dd,⟨q1,q2,q3,q4,by omega⟩,T23.ne⟩
   have zd:w22.drew.heap.size=w22.heap.size:=rfl;refine⟨⟨rfl,s3,M3,rest.drop E',a+E',va3,vk3,av3,ks3,n,h25,hg3,((he22.x (cQ _)).one hc24 (by omega)).one hc25 (by omega),T25,hpf3,?_,i4,by omega,?_,?_,?_,hks3⟩,?_⟩
   ·rw[aX];omega
   ·rw[aX];omega
   ·rw[aX];exact hp3
   ·rw[aX];exact hav3
   ·rw[T25.l8.strat,T6.l8.strat,aX];omega
  ·have hnil:rest=[]:=by
    by_cases h:rest=[]
    ·exact h
    ·exact absurd h hne
   subst hnil;obtain⟨n,rfl⟩:∃m,n=m+1:=⟨n-1,by omega⟩;simp only[oG,qH]at hpf;rw[<-hpf]at hK ht;refine T6.l2.ld rfl ?_;refine gF T6.l7.1 rfl ?_;have hub:∀k,k∈ub [i64 6,str [],va,vk,i64 t.a]↔va.ownBlock=some k\/vk.ownBlock=some k:=λk=>by
    rw[show [i64 6,str [],va,vk,i64 t.a]=[i64 6,str []]++([va]++([vk]++[i64 t.a]))from rfl];simp only[nL,bK,jW];simp[ub,Value.ownBlock]
   have hnd:(ub [i64 6,str [],va,vk,i64 t.a]).Nodup:=by
    rw[show [i64 6,str [],va,vk,i64 t.a]=[i64 6,str []]++([va]++([vk]++[i64 t.a]))from rfl];simp only[nL];rw[show ub [i64 6,str []]=[]from rfl,show ub [i64 t.a]=[]from rfl,gB,fX];exact iA.2 ⟨nZ _,nZ _,λx hx y hy e=>by subst e;exact T6.dd x (jW.1 hx) (jW.1 hy)⟩
   refine Jb (e:=⟨6,[],av,ks,t.a⟩) h6 he6 ⟨va,vk,rfl,T6.rA.own,T6.rK.own⟩ (λk hk=>((hub k).1 hk).elim (T6.rA.off k) (T6.rK.off k)) hnd (λk hk=>?_) (by have:=hg1.ex;omega) λM' w7 h7 he7 _=>?_
   ·rcases(hub k).1 hk with e|e
    ·have:=T6.rA.new k e;omega
    ·have:=T6.rK.new k e;omega
   ·exact hK _ _ rfl M' w7 h7 he7
end
section
variable [HX]
structure ER(w0 w:World)(p f:Nat)(M:Lay)(vt:Value)(wb:Nat)(e:Ex)(va vk:Value):Prop where
 rA:Ro w0 w p f M vt wb jY 1 va e.args.length (ints e.args)
 rK:Ro w0 w p f M vt wb StT 1 vk e.keys.length (strs e.keys)
 dd:∀k,va.ownBlock=some k->vk.ownBlock≠some k
def exc(e:Ex)(va vk:Value):List Value:=[i64 e.k,str e.t,va,vk,i64 e.a]
section
variable{w0 w w' w1:World}{p f b:Nat}{M M' M0:Lay}{vt:Value}{s:PS}{top:List Nat}{N:Int}{K:Q0}{e:Ex}{va vk:Value}{wbn:Nat}{wb:World}{dl:Nat}
theorem Kz(h:ER w0 w p f M vt wbn e va vk):(exc e va vk).all jM=true:=by
 obtain⟨_,_,e1,_⟩:=h.rA.own.sl.shape;obtain⟨_,_,e2,_⟩:=h.rK.own.sl.shape;subst e1 e2;rfl
theorem ER.eff(h:ER w0 w p f M vt wbn e va vk)(he:Eff p f M M' w w'):ER w0 w' p f M' vt wbn e va vk:=⟨h.rA.eff he,h.rK.eff he,h.dd⟩
theorem ER.one(h:ER w0 w p f M vt wbn e va vk)(hc:Chg (One b) w w')(hA:va.ownBlock≠some b)(hK:vk.ownBlock≠some b):ER w0 w' p f M vt wbn e va vk:=⟨h.rA.one hc hA,h.rK.one hc hK,h.dd⟩
theorem Ro.le{m:Nat}{xs:List Value}{k:Nat}(h:Ro w0 w p f M vt wbn T m v n xs)(hk:k<=wbn):Ro w0 w p f M vt k T m v n xs:=⟨h.own,h.off,λj hj=>dR hk (h.new j hj)⟩
theorem ER.le{k:Nat}(h:ER w0 w p f M vt wbn e va vk)(hk:k<=wbn):ER w0 w p f M vt k e va vk:=⟨h.rA.le hk,h.rK.le hk,h.dd⟩
theorem ER.noK(hk:e.keys=[])(h:Ro w0 w p f M vt wbn jY 1 va e.args.length (ints e.args)):ER w0 w p f M vt wbn e va (.slice none 0 0):=⟨h,by rw[hk];exact Ro.nil _ _,λk _=>by simp[Value.ownBlock]⟩
theorem ER.leaf(h1:e.args=[])(h2:e.keys=[]):ER w0 w p f M vt wbn e (.slice none 0 0) (.slice none 0 0):=⟨by rw[h1];exact Ro.nil _ _,by rw[h2];exact Ro.nil _ _,λk hk=>by simp[Value.ownBlock]at hk⟩
theorem MB(e:Ex)(va vk:Value):ub (exc e va vk)=ub [va]++ub [vk]:=by
 rw[show exc e va vk=[i64 e.k,str e.t]++([va]++([vk]++[i64 e.a]))from rfl];simp only[nL];rw[show ub [i64 e.k,str e.t]=[]from rfl,show ub [i64 e.a]=[]from rfl,gB,fX]
theorem Hs(h:PR w0 w p f M vt s top)(he:Eff p f M0 M wb w)(hE:ER w0 w p f M vt wb.heap.size e va vk)(hg:Gd N s dl)
  (hK:∀M' w',PR w0 w' p f M' vt {s with ex:=s.ex++[e]} top->Eff p f M0 M' wb w'->(∀b T cs,Loc w0 w p f M vt b T cs->va.ownBlock≠some b->vk.ownBlock≠some b->Loc w0 w' p f M' vt b T cs)->K (i64 (s.ex.length:Nat)) w'):
  aJ P0 158 [.pointer (some ⟨p,0,none⟩),.agg (exc e va vk).toArray] w K:=by
 have hub:∀k,k∈ub (exc e va vk)↔va.ownBlock=some k\/vk.ownBlock=some k:=λk=>by rw[MB,bK,jW,jW]
 have hnd:(ub (exc e va vk)).Nodup:=by
  rw[MB];exact iA.2 ⟨nZ _,nZ _,λx hx y hy e=>by subst e;exact hE.dd x (jW.1 hx) (jW.1 hy)⟩
 refine Jb (e:=e) h he ⟨va,vk,rfl,hE.rA.own,hE.rK.own⟩ (λk hk=>((hub k).1 hk).elim (hE.rA.off k) (hE.rK.off k)) hnd (λk hk=>((hub k).1 hk).elim (hE.rA.new k) (hE.rK.new k)) (by have:=hg.ex;omega) λM' w' h' he' hl=>?_;exact hK M' w' h' he' λb T cs hL h1 h2=>hl b T cs hL λhm=>((hub b).1 hm).elim h1 h2
theorem Oz{E:PS->R Nat}{x:Str}(hE:EC w0 f 118 E dl)(hF:sO E)(h:PR w0 w p f M vt s top)(hg:Gd N s dl)
  (hK:∀l s',DX E x s=.ok l s'->∀M' v w',PR w0 w' p f M' vt s' top->Gd N s' dl->Eff p f M M' w w'->Ro w0 w' p f M' vt w.heap.size jY 1 v l.length (ints l)->K v w')(ht:∀c a',DX E x s=.err c a'->Thr w0 f c a'):
  aJ P0 235 [.pointer (some ⟨p,0,none⟩),str x] w K:=by
 refine SL ?_;unfold Zm;unfold DX at hK ht;generalize hR:sF E x (s.toks.length+1) s []=R0 at hK ht;have hN:=hg.hN;refine dL.go (λst w'=>∃v s1 M1 out n,st=[v]/\PR w0 w' p f M1 vt s1 top/\Gd N s1 dl/\Eff p f M M1 w w'/\Ro w0 w' p f M1 vt w.heap.size jY 1 v out.length (ints out)/\sF E x n s1 out=R0/\s1.toks.length<n+s1.i/\out.length<=s1.i/\s1.toks.length=s.toks.length) (λ_ w'=>s.toks.length-zY w' p)
  ⟨_,s,M,[],s.toks.length+1,rfl,h,hg,Eff.refl _ _ _ _,Ro.nil _ _,hR,by omega,by simp,rfl⟩ ?_
 rintro st g w2 ⟨v,s1,M1,out,n,rfl,h2,hg2,he2,hr2,hF2,hn,ho,htl⟩;have hlt2:=hg2.ws.lt;obtain⟨n,rfl⟩:∃m,n=m+1:=⟨n-1,by omega⟩;simp only[aC];refine uC h2 hg2.ws hN hg2.l λw3 h3 he3=>?_;simp only[sF]at hF2;have hg3:=hg2.take x;have tg:=lX hg2.ws x;have hr3:=hr2.eff he3;have he23:=he2.trans he3;have hw3:=he23.chg.size;have more:∀{s4:PS} {w4:World},PR w0 w4 p f M1 vt s4 top->Gd N s4 dl->Eff p f M M1 w w4->Ro w0 w4 p f M1 vt w.heap.size jY 1 v out.length (ints out)->((E s4).bind λx' s'=>sF E x n s' (out++[x']))=R0->s1.i<=s4.i->s4.toks.length=s.toks.length->
   aJ P0 118 [.pointer (some ⟨p,0,none⟩)] w4 λt20 w8=>gO jY 1 [(.int .i64 0)] [(0,1,t20)] w8 λt21 w9=>fY P0 (Builtin.append_ #[26,26] 26 #[v,t21]) w9 λt22 w10=>
    (∃v s1 M1 out n,[t22]=[v]/\PR w0 w10 p f M1 vt s1 top/\Gd N s1 dl/\Eff p f M M1 w w10/\Ro w0 w10 p f M1 vt w.heap.size jY 1 v out.length (ints out)/\sF E x n s1 out=R0/\s1.toks.length<n+s1.i/\out.length<=s1.i/\s1.toks.length=s.toks.length)/\s.toks.length-zY w10 p<s.toks.length-zY w2 p:=λ{s4 w4} h4 hg4 he4 hr4 hF4 hi4 ht4=>by
  refine hE w4 p M1 vt s4 top N _ h4 hg4 (λy s5 e5 M5 w5 h5 he5=>?_) λc a' e5=>ht c a' (by rw[<-hF4,e5];rfl);rw[e5]at hF4;simp only[R.bind]at hF4;obtain⟨hg5,hi5⟩:=hg4.e hF e5;have htk:s5.toks.length=s4.toks.length:=by
   have:=hF.ok N s4 hg4.ws;rw[e5]at this;exact congrArg List.length this.1.1.toks
  refine mF λr w6 hr hz6 hrb hx6=>?_;have h6:=h5.ext hx6;have hr6:=(hr4.eff he5).ext hx6;have he46:=(he4.trans he5).x hx6;refine Ro.app Aj hr6 h6 hrb rfl (λu hu=>by simp only[bX]at hu;subst hu;rfl) (by have:=hg4.few;have:=hg4.ws.lt;omega) (by decide) he46.chg.size λv' w7 hR7 hc7 hv7 h7=>?_;have hlt5:=hg5.ws.lt;refine⟨⟨v',s5,M5,out++[y],n,rfl,h7,hg5,he46.then hc7 λk hk e=>by have:=hr6.new k e;omega,?_,hF4,by omega,by rw[aP,aB,aK];omega,by omega⟩,?_⟩
  ·rw[aP,aB,aK,Dp];exact hR7
  ·rw[h7.at_,h2.at_];omega
 have ht3:(cS s1 x).2.toks.length=s.toks.length:=by rw[tg.1.toks];exact htl
 rw[fH,eJ];refine⟨λhnt=>?_,λhyt=>?_⟩
 ·have hnt:(cS s1 x).1=false:=by simpa using hnt
  rw[aL (by rw[hnt];decide)]at hF2;by_cases hout:out=[]
  ·rw[aU hout]at hF2;refine dE.cut (λ_ w'=>w'=w3) ?_ ?_
   ·rw[eO hr3.own.sl,gD,bD];exact⟨λe=>by rw[hout]at e;simp at e,λ_=>rfl⟩
   rintro _ g2 w4 rfl;exact more h3 hg3 he23 hr3 hF2 tg.1.le ht3
  ·rw[aL hout]at hF2;have hpos:0<out.length:=iG.2 hout;refine dE.cut (λ_ w'=>∃s4,PR w0 w' p f M1 vt s4 top/\Gd N s4 dl/\Eff p f M M1 w w'/\Ro w0 w' p f M1 vt w.heap.size jY 1 v out.length (ints out)/\((E s4).bind λx' s'=>sF E x n s' (out++[x']))=R0/\s1.i<=s4.i/\s4.toks.length=s.toks.length) ?_ ?_
   ·rw[eO hr3.own.sl,gD,bD];refine⟨λ_=>?_,λe=>absurd (by omega) e⟩;refine xC h3 hg3.ws hN hg3.l (λs4 e4 w4 h4 he4=>?_) λc a' e4=>ht c a' (by rw[<-hF2,e4];rfl);rw[e4]at hF2;simp only[R.bind]at hF2;obtain⟨hg4,hi4,_⟩:=hg3.want e4;have hto4:=mO hg3.ws [44];rw[e4]at hto4;refine uC h4 hg4.ws hN hg4.l λw5 h5 he5=>?_;have hr5:=(hr3.eff he4).eff he5;have he25:=(he23.trans he4).trans he5;have tg5:=lX hg4.ws x;rw[eJ];refine⟨λhy=>?_,λhy=>?_⟩
    ·rw[aU hy]at hF2;exact hK out _ hF2.symm M1 v w5 h5 (hg4.take x) he25 hr5
    ·rw[aL (by rw[hy];decide)]at hF2;exact⟨_,h5,hg4.take x,he25,hr5,hF2,by have:=tg.1.le;have:=tg5.1.le;omega,by rw[tg5.1.toks,hto4.1.1.toks];exact ht3⟩
   rintro _ g2 w4 ⟨s4,h4,hg4,he4,hr4,hF4,hi4,ht4⟩;exact more h4 hg4 he4 hr4 hF4 hi4 ht4
 ·have hyt:(cS s1 x).1=true:=by simpa using hyt
  rw[aU hyt]at hF2;exact hK out _ hF2.symm M1 v w3 h3 hg3 he23 hr3
end
end
section
variable [HX]
variable{w0 w w' w1:World}{p f b:Nat}{M M' M0:Lay}{vt:Value}{s:PS}{top:List Nat}{N:Int}{K:Q0}{e:Ex}{va vk:Value}{wbn:Nat}{wb:World}{dl:Nat}
theorem IT(hp:PR w0 w p f M vt s top)(hL:Loc w0 w p f M vt b ExT cs)(hc:cs.length=5)(hE:ER w0 w p f M vt wbn e va vk)(hA:va.ownBlock≠some b)(hK':vk.ownBlock≠some b)
  (hK:∀w',PR w0 w' p f M vt s top->Chg (One b) w w'->ER w0 w' p f M vt wbn e va vk->K (.agg (exc e va vk).toArray) w'):
  stW 5 (.pointer (some ⟨b,0,none⟩)) (.agg (exc e va vk).toArray) w λw5=>ldW true 5 (.pointer (some ⟨b,0,none⟩)) w5 λr6=>K r6 w5:=
 vX hL.1 rfl hc (Kz hE) λw' hcw=>hK w' (hp.one hcw hL.2) hcw (hE.one hcw hA hK')
theorem KR{x r:Nat}{ty:TypeId}{k a:Int}{l:Str}{av:List Nat}{KW:World->Prop}(hL:Loc w0 w p f M vt b ExT [i64 k,str l,va,vk,i64 a])(hR:Ro w0 w p f M vt wbn jY 1 va av.length (ints av))(hp:PR w0 w p f M vt s top)(hr:w.heap[r]?=some (.cells [i64 (x:Nat)].toArray jY (0,0)))
  (hn:av.length<=1000000)(hB:b<wbn)(hw:wbn<=w.heap.size)
  (hK:∀va' w',Loc w0 w' p f M vt b ExT [i64 k,str l,va',vk,i64 a]->Ro w0 w' p f M vt wbn jY 1 va' (av++[x]).length (ints (av++[x]))->PR w0 w' p f M vt s top->Chg (λk=>va.ownBlock=some k\/k=b) w w'->(∀k,va'.ownBlock=some k->va.ownBlock=some k\/w.heap.size<=k)->KW w'):
  fY P0 (Builtin.append_ #[26,26] ty #[va,.slice (some ⟨r,0,none⟩) 1 1]) w λt62 w36=>aR 2 (.pointer (some ⟨b,0,none⟩)) λt63=>stW 1 t63 t62 w36 KW:=by
 refine Ro.app Aj hR hp hr rfl (λu hu=>by simp only[bX]at hu;subst hu;rfl) hn (by decide) hw λv' w2 hR2 hc hv hp2=>?_;have e1:(av++[x]).length=av.length+1:=by simp
 rw[<-e1,show ints av++[i64 (x:Nat)]=ints (av++[x])from by simp[ints]]at hR2;rw[bE,bL,aI];obtain⟨vp,vc,ev,_⟩:=hR2.own.sl.shape;refine(hL.row hc λe=>by have:=hR.new b e;omega).st (by rw[ev];rfl) (by simp) λw3 L3 hc3 hz3=>?_;exact hK v' w3 L3 (hR2.one hc3 λe=>by have:=hR2.new b e;omega) (hp2.one hc3 L3.2) ((hc.mono λk _ e=>.inl e).trans (hc3.mono λk _ e=>.inr e)) hv
theorem WC{E:PS->R Nat}{t:Tok}(hE:EC w0 f 118 E dl)(hF:sO E)(h:PR w0 w p f M vt s top)(hg:Gd N s dl)(hc0:(cur s).k≠0)(hnow:bM s=s)
  (hK:∀e s',zP E s t.a=.ok e s'->∀M' va vk w',PR w0 w' p f M' vt s' top->Gd N s' dl->Eff p f M M' w w'->ER w0 w' p f M' vt w.heap.size e va vk->K (.agg (exc e va vk).toArray) w')(ht:∀c a',zP E s t.a=.err c a'->Thr w0 f c a'):
  aJ P0 238 [.pointer (some ⟨p,0,none⟩),.agg (jI t).toArray] w K:=by
 refine SI ?_;unfold Zj;have hN:=hg.hN;have hg1:Gd N (step1 s) dl:=by have:=hg.step hc0;rw[hnow]at this;exact this
 refine fZ (z:=jI t) λb3 w1 hb3 hz1 hbb1 hx1=>?_;have h1:=h.ext hx1;have L3:=h.loc hz1 hb3 hbb1;refine cK λb4 w2 hb4 hz2 hbb2 hx2=>?_;have h2:=h1.ext hx2;have L4:=h1.loc hz2 hb4 hbb2;have L3:=L3.ext hx2;have he2:Eff p f M M w w2:=(Eff.ext hx1).x hx2;refine h2.go (wsi hg.ws hg.l) λw3 h3 he3 hz3=>?_;have L3:=L3.eff he3;have L4:=L4.eff he3;have he3:=he2.trans he3;refine pL h3 hg1.ws hN hg1.l λw4 h4 he4=>?_;have L3:=L3.eff he4;have L4:=L4.eff he4;have he4:=he3.trans he4;have lt3:=L3.lt;have lt4:=L4.lt;refine cK λb5 w5 hb5 hz5 hbb5 hx5=>?_;have h5:=h4.ext hx5;have L5:=h4.loc hz5 hb5 hbb5;have L3:=L3.ext hx5;have L4:=L4.ext hx5;have he5:=he4.x hx5;have hw4:=he4.chg.size;refine cY (l:=jI (cur (step1 s))) L5.1 rfl rfl rfl λw6 hz6 hb6 hc6=>?_;have L5:Loc w0 w6 p f M vt b5 TkT (jI (cur (step1 s))):=⟨hb6,L5.2.up (by omega)⟩;have h6:=h5.one hc6 L5.2;have L3:=L3.one hc6 (by omega);have L4:=L4.one hc6 (by omega);have he6:=he5.one hc6 (by omega);have hw6:=he6.chg.size;have hgn:=hg1.now;refine L5.ldf rfl ?_;rw[dQ];simp only[iB];refine GdW.look (decide ((cur (step1 s)).t≠HO)) (λ_ J hJ=>?_) λg=>?_
 ·refine L5.ldf rfl ?_;rw[gA];exact hJ
 simp only[aC];rw[lG,eJ];unfold zP at hK ht;simp only at hK ht;refine⟨λhcc=>?_,λhcc=>?_⟩
 ·have hc:(cur (step1 s)).k≠1\/(cur (step1 s)).t≠HO:=by simpa using hcc
  rw[aU hc]at hK ht;have L3:=L3.drew;rw[bE,bL,aI];refine L3.ld rfl ?_;refine Oz hE hF h6.drew hgn (λl s' el M' v w7 h7 hg7 he7 hr7=>?_) λc a' el=>ht c a' (by rw[el];rfl);rw[el]at hK;simp only[R.bind]at hK;have L3:=L3.eff he7;refine⟨L3.ld rfl rfl,?_⟩;obtain⟨q,cap,ev,_⟩:=hr7.own.sl.shape;subst ev;simp only[dP,eP,dN,aB,aK,aM,aQ,Nat.reduceAdd,Nat.reduceLT,dJ,aY];have zd:w6.drew.heap.size=w6.heap.size:=rfl;have hER:ER w0 w7 p f M' vt w6.heap.size ⟨7,[],l,[],t.a⟩ (.slice q l.length cap) (.slice none 0 0):=ER.noK rfl hr7;refine IT (e:=⟨7,[],l,[],t.a⟩) h7 (L4.drew.eff he7) rfl hER (λe=>by have:=hr7.new _ e;omega) (by simp[Value.ownBlock]) λw8 h8 hc8 hE8=>?_;exact hK _ _ rfl M' _ _ w8 h8 hg7 (((he6.x (cQ w6)).trans he7).one hc8 (by omega)) (hE8.le (by omega))
 ·have hc:¬((cur (step1 s)).k≠1\/(cur (step1 s)).t≠HO):=by simpa using hcc
  rw[aL hc]at hK ht;have hk1:(cur (step1 s)).k≠0:=λe=>hc (.inl (by rw[e];decide));have hgs:=hg1.step hk1;refine h6.go (wsi hgn.ws hgn.l) λw7 h7 he7 hz7=>?_;have L3:=L3.eff he7;have L4:=L4.eff he7;have he7:=he6.trans he7;refine dE.cut (λst w'=>∃b6 u s2,st=[.pointer (some ⟨b6,0,none⟩)]/\nC (step1 (bM (step1 s))) 1=.ok u s2/\PR w0 w' p f M vt s2 top/\Gd N s2 dl/\Eff p f M M w w'/\Loc w0 w' p f M vt b6 ExT [i64 29,str u.t,.slice none 0 0,.slice none 0 0,i64 t.a]/\Loc w0 w' p f M vt b4 ExT [.int .i64 0,.string (ofL []),.slice none 0 0,.slice none 0 0,.int .i64 0]/\b4<b6/\w.heap.size<=b6) ?_ ?_
  ·have L3:=L3.drew;have L4:=L4.drew;have h7:=h7.drew;have he7:=he7.x (cQ w7);have zd:w7.drew.heap.size=w7.heap.size:=rfl;have ld3:∀{w':World},Loc w0 w' p f M vt b3 TkT (jI t)->ldW false 1 (.pointer (some ⟨b3,2,none⟩)) w' λx=>x=i64 t.a:=λL=>L.ld rfl rfl;rw[bE,bL,aI];refine L3.ld rfl ?_;refine⟨?_,?_⟩
   ·refine xQ h7 hgs.ws hN hgs.l (λu s2 eu w8 h8 he8=>?_) λc a' eu=>ht c a' (by rw[eu];rfl);have L3:=L3.eff he8;have L4:=L4.eff he8;have he8:=he7.trans he8;refine⟨ld3 L3,str u.t,rfl,?_⟩;simp only[dP,dW,dN,aB,aK,aM,aQ,Nat.reduceAdd,Nat.reduceLT,dJ,aY];refine cK λb6 w9 hb6' hz9 hbb9 hx9=>?_;have L6:=h8.loc hz9 hb6' hbb9;refine⟨ld3 (L3.ext hx9),?_⟩;refine cY (l:=[i64 29,str u.t,.slice none 0 0,.slice none 0 0,i64 t.a]) L6.1 rfl rfl rfl λw10 hz10 hbb10 hc10=>?_;have lt4':=L4.lt;have hw8:=he8.chg.size;exact⟨b6,u,s2,rfl,eu,(h8.ext hx9).one hc10 L6.2,(hgs.kind (by decide) eu).1,(he8.x hx9).one hc10 (by omega),⟨hbb10,L6.2.up (by omega)⟩,(L4.ext hx9).one hc10 (by omega),by omega,by omega⟩
   ·refine cK λb6 w9 hb6' hz9 hbb9 hx9=>?_;have L6:=h7.loc hz9 hb6' hbb9;have L3:=L3.ext hx9;have lt4':=L4.lt;have hw8:=he7.chg.size;refine⟨ld3 L3,?_⟩;refine xQ (h7.ext hx9) hgs.ws hN hgs.l (λu s2 eu w8 h8 he8=>?_) λc a' eu=>ht c a' (by rw[eu];rfl);have L3:=L3.eff he8;have L4:=(L4.ext hx9).eff he8;have L6:=L6.eff he8;have he8:=(he7.x hx9).trans he8;refine⟨ld3 L3,str u.t,rfl,?_⟩;simp only[dP,dW,dN,aB,aK,aM,aQ,Nat.reduceAdd,Nat.reduceLT,dJ,aY];refine cY (l:=[i64 29,str u.t,.slice none 0 0,.slice none 0 0,i64 t.a]) L6.1 rfl rfl rfl λw10 hz10 hbb10 hc10=>?_;exact⟨b6,u,s2,rfl,eu,h8.one hc10 L6.2,(hgs.kind (by decide) eu).1,he8.one hc10 (by omega),⟨hbb10,L6.2.up (by omega)⟩,L4.one hc10 (by omega),by omega,by omega⟩
  rintro st g2 w8 ⟨b6,u,s2,rfl,eu,h8,hg8,he8,L6,L4,hb46,hwb6⟩;simp only[aC];rw[eu]at hK ht;simp only[R.bind]at hK ht;refine dE.cut (λ_ w'=>∃v s3,nC s2 1=.ok v s3/\v.t=kIn/\PR w0 w' p f M vt s3 top/\Gd N s3 dl/\Eff p f M M w8 w') ?_ ?_
  ·refine xQ h8 hg8.ws hN hg8.l (λv s3 ev w9 h9 he9=>?_) λc a' ev=>ht c a' (by rw[ev]);refine cK λb7 w10 hb7 hz10 hbb10 hx10=>?_;have h10:=h9.ext hx10;have L7:=h9.loc hz10 hb7 hbb10;refine cY (l:=jI v) L7.1 rfl rfl rfl λw11 hz11 hbb11 hc11=>?_;have L7:Loc w0 w11 p f M vt b7 TkT (jI v):=⟨hbb11,L7.2.up (by omega)⟩;have h11:=h10.one hc11 L7.2;have z9:=he9.chg.size;refine L7.ldf rfl ?_;rw[gA,bD];refine⟨λhne=>?_,λhne=>⟨v,s3,ev,?_,h11,(hg8.kind (by decide) ev).1,(he9.x hx10).one hc11 (by omega)⟩⟩
   ·refine L7.ldf rfl ?_;exact rP h11 (ht _ _ (by rw[ev];simp only;exact aU hne))
   ·by_cases h:v.t=[105,110]
    ·exact h
    ·exact absurd h hne
  rintro _ g3 w9 ⟨v,s3,ev,hvt,h9,hg9,he9⟩;rw[ev]at hK ht;simp only[aL (show¬v.t≠kIn fromλh=>h hvt)]at hK ht;have L6:=(L6.eff he9).drew;have L4:=(L4.eff he9).drew;have h9:=h9.drew;have he9:=(he8.trans he9).x (cQ w9);have zd:w9.drew.heap.size=w9.heap.size:=rfl;have hw9:=he9.chg.size;have lt6:=L6.lt;rw[bE,bL,aI];refine L6.ld rfl ?_;refine hE w9.drew p M vt s3 top N _ h9 hg9 (λx s4 ex M4 w10 h10 he10=>?_) λc a' ex=>ht c a' (by rw[ex]);rw[ex]at hK ht;simp only at hK ht;obtain⟨hg10,_⟩:=hg9.e hF ex;have L6:=L6.eff he10;have L4:=L4.eff he10;have he10:=he9.trans he10;refine⟨L6.ld rfl rfl,?_⟩;refine mF λr w11 hr hz11 hrb hx11=>?_;have L6:=L6.ext hx11;have L4:=L4.ext hx11;have h11:=h10.ext hx11;have he11:=he10.x hx11;have hw11:=he11.chg.size;have lt6:=L6.lt;have lt4:=L4.lt;refine⟨L6.ld rfl rfl,?_⟩;refine KR (wbn:=w11.heap.size) (av:=[]) L6 (Ro.nil _ _) h11 hrb (by simp) lt6 (aZ _) λva1 w12 L6 hR12 h12 hc12 hv12=>?_;have he12:=he11.then hc12 λk hk e=>by
   rcases e with e|e
   ·simp[Value.ownBlock]at e
   ·omega
  have hw12:=he12.chg.size;have L4:Loc w0 w12 p f M4 vt b4 ExT [.int .i64 0,.string (ofL []),.slice none 0 0,.slice none 0 0,.int .i64 0]:=⟨hc12.at L4.1 λe=>e.elim (by simp[Value.ownBlock]) (by omega),L4.2.up hc12.size⟩;have hz12:=hc12.size;refine xC h12 hg10.ws hN hg10.l (λs5 e5 w13 h13 he13=>?_) λc a' e5=>ht c a' (by rw[e5]);rw[e5]at hK ht;simp only at hK ht;obtain⟨hg13,_⟩:=hg10.want e5;have L6:=(L6.eff he13).drew;have L4:=(L4.eff he13).drew;have hR13:=(hR12.eff he13).ext (cQ w13);have h13:=h13.drew;have zd13:w13.drew.heap.size=w13.heap.size:=rfl;have hz13:=he13.chg.size;have he13:=(he12.trans he13).x (cQ w13);rw[bE,bL,aI];refine L6.ld rfl ?_;refine hE w13.drew p M4 vt s5 top N _ h13 hg13 (λy s6 ey M6 w14 h14 he14=>?_) λc a' ey=>ht c a' (by rw[ey]);rw[ey]at hK ht;simp only at hK ht;obtain⟨hg14,_⟩:=hg13.e hF ey;have L6:=L6.eff he14;have L4:=L4.eff he14;have hR14:=hR13.eff he14;have hz14:=he14.chg.size;have he14:=he13.trans he14;refine⟨L6.ld rfl rfl,?_⟩;refine mF λr2 w15 hr2 hz15 hrb2 hx15=>?_;have L6:=L6.ext hx15;have L4:=L4.ext hx15;have h15:=h14.ext hx15;have he15:=he14.x hx15;refine⟨L6.ld rfl rfl,?_⟩;refine KR (wbn:=w11.heap.size) (av:=[x]) L6 (hR14.ext hx15) h15 hrb2 (by simp) (by omega) (by omega) λva2 w16 L6 hR16 h16 hc16 hv16=>?_;have he16:=he15.then hc16 λk hk e=>by
   rcases e with e|e
   ·have:=hR14.new k e;omega
   ·omega
  have L4:Loc w0 w16 p f M6 vt b4 ExT [.int .i64 0,.string (ofL []),.slice none 0 0,.slice none 0 0,.int .i64 0]:=⟨hc16.at L4.1 λe=>e.elim (λe=>by have:=hR14.new _ e;omega) (by omega),L4.2.up hc16.size⟩;refine xC h16 hg14.ws hN hg14.l (λs7 e7 w17 h17 he17=>?_) λc a' e7=>ht c a' (by rw[e7]);rw[e7]at hK;simp only at hK;obtain⟨hg17,_⟩:=hg14.want e7;have L6:=L6.eff he17;have L4:=L4.eff he17;have hR17:=hR16.eff he17;have he17:=he16.trans he17;refine gF L6.1 rfl ?_;refine IT (e:=⟨29,u.t,[x,y],[],t.a⟩) h17 L4 rfl (ER.noK rfl hR17) (λe=>by have:=hR17.new _ e;omega) (by simp[Value.ownBlock]) λw18 h18 hc18 hE18=>?_;exact hK _ _ rfl M6 _ _ w18 h18 hg17 (he17.one hc18 (by omega)) (hE18.le (by omega))
end
theorem Gd.tx{N:Int}{s:PS}{dl:Nat}(h:Gd N s dl)(hk:(cur s).k=3):Em (cur s).t/\(cur s).t.length<=100000:=by
 have hn:=h.now;have hm:=bI (xD hn.ws);have:=hn.ts _ hm (show(nM (bM s)).k=3 from hk);exact this
section
variable [HX]
variable{w0 w w' w1:World}{p f b:Nat}{M M' M0:Lay}{vt:Value}{s:PS}{top:List Nat}{N:Int}{K:Q0}{e:Ex}{va vk:Value}{wbn:Nat}{wb:World}{dl:Nat}
theorem Nq{E:PS->R Nat}{t:Tok}(hE:EC w0 f 118 E dl)(hF:sO E)(h:PR w0 w p f M vt s top)(hg:Gd N s dl)(hc0:(cur s).k≠0)(hnow:bM s=s)
  (hK:∀e s',HD E s t.a=.ok e s'->∀M' va vk w',PR w0 w' p f M' vt s' top->Gd N s' dl->Eff p f M M' w w'->ER w0 w' p f M' vt w.heap.size e va vk->K (.agg (exc e va vk).toArray) w')(ht:∀c a',HD E s t.a=.err c a'->Thr w0 f c a'):
  aJ P0 240 [.pointer (some ⟨p,0,none⟩),.agg (jI t).toArray] w K:=by
 refine SG ?_;unfold Zh;have hN:=hg.hN;have hg1:Gd N (step1 s) dl:=by have:=hg.step hc0;rw[hnow]at this;exact this
 refine fZ (z:=jI t) λb3 w1 hb3 hz1 hbb1 hx1=>?_;have h1:=h.ext hx1;have L3:=h.loc hz1 hb3 hbb1;refine cK λb4 w2 hb4 hz2 hbb2 hx2=>?_;have h2:=h1.ext hx2;have L4:=h1.loc hz2 hb4 hbb2;have L3:=L3.ext hx2;have he2:Eff p f M M w w2:=(Eff.ext hx1).x hx2;refine h2.go (wsi hg.ws hg.l) λw3 h3 he3 hz3=>?_;have L3:=L3.eff he3;have L4:=L4.eff he3;have he3:=he2.trans he3;refine L3.ldf rfl ?_;simp only[dP,dW,dN,aB,aK,aM,aQ,Nat.reduceAdd,Nat.reduceLT,dJ,aY];have lt4:=L4.lt;refine cK λb5 w4 hb5 hz4 hbb4 hx4=>?_;have L5:=h3.loc hz4 hb5 hbb4;have h4:=h3.ext hx4;have L4:=L4.ext hx4;refine cY (l:=[i64 8,str [],.slice none 0 0,.slice none 0 0,i64 t.a]) L5.1 rfl rfl rfl λw5 hz5 hbb5 hc5=>?_;have L5:Loc w0 w5 p f M vt b5 ExT [i64 8,str [],.slice none 0 0,.slice none 0 0,i64 t.a]:=⟨hbb5,L5.2.up (by omega)⟩;have h5:=h4.one hc5 L5.2;have L4:=L4.one hc5 (by omega);have he5:Eff p f M M w w5:=(he3.x hx4).one hc5 (by have:=he3.chg.size;omega);refine yU h5 hg1.ws hN hg1.l λw6 h6 he6=>?_;have L4:=L4.eff he6;have L5:=L5.eff he6;have he6:=he5.trans he6;have hg6:=hg1.lines;unfold HD at hK ht;generalize hR:Ch E t.a (s.toks.length+1) (jE (step1 s)) [] []=R0 at hK ht;have hw6:=he6.chg.size;obtain⟨B1,hB1⟩:∃B1,B1=w6.heap.size:=⟨_,rfl⟩;have lt5:=L5.lt;have lt4:=L4.lt;have hw3:=he3.chg.size;have htl0:(jE (step1 s)).toks.length=s.toks.length:=congrArg List.length ((mD hg1.ws).1.toks);refine dL.go (λst w'=>st=[]/\∃s1 M1 av ks va vk n,PR w0 w' p f M1 vt s1 top/\Gd N s1 dl/\Eff p f M M1 w w'/\Loc w0 w' p f M1 vt b5 ExT [i64 8,str [],va,vk,i64 t.a]/\Loc w0 w' p f M1 vt b4 ExT [.int .i64 0,.string (ofL []),.slice none 0 0,.slice none 0 0,.int .i64 0]/\
   Ro w0 w' p f M1 vt B1 jY 1 va av.length (ints av)/\Ro w0 w' p f M1 vt B1 StT 1 vk ks.length (strs ks)/\(∀k,va.ownBlock=some k->vk.ownBlock≠some k)/\B1<=w'.heap.size/\Ch E t.a n s1 av ks=R0/\s1.toks.length<n+s1.i/\av.length<=s1.i/\ks.length=av.length/\s1.toks.length=s.toks.length) (λ_ w'=>s.toks.length-zY w' p)
  ⟨rfl,_,M,[],[],_,_,s.toks.length+1,h6,hg6,he6,L5,L4,Ro.nil _ _,Ro.nil _ _,λk hk=>by simp[Value.ownBlock]at hk,by omega,hR,by omega,by simp,rfl,htl0⟩ ?_
 rintro st g w7 ⟨rfl,s1,M1,av,ks,va,vk,n,h7,hg7,he7,L5,L4,rA,rK,dd,hz7,hob,hn,hav,hks,htl⟩;have hlt7:=hg7.ws.lt;obtain⟨n,rfl⟩:∃m,n=m+1:=⟨n-1,by omega⟩;refine uC h7 hg7.ws hN hg7.l λw8 h8 he8=>?_;have L4:=L4.eff he8;have L5:=L5.eff he8;have rA:=rA.eff he8;have rK:=rK.eff he8;have hz8:=he8.chg.size;have he8:=he7.trans he8;have hg8:=hg7.take [125];have tg:=lX hg7.ws [125];have tgt:=congrArg List.length tg.1.toks;simp only[Ch]at hob;rw[fH,eJ];refine⟨λhnt=>?_,λhyt=>?_⟩
 ·have hnt:(cS s1 [125]).1=false:=by simpa using hnt
  rw[aL (by rw[hnt];decide)]at hob;generalize hs2:(cS s1 [125]).2=s2 at*
  refine Jg h8 hg8.ws hN hg8.l λw9 h9 he9=>?_;have L4:=L4.eff he9;have L5:=L5.eff he9;have rA:=rA.eff he9;have rK:=rK.eff he9;have hz9:=he9.chg.size;have he9:=he8.trans he9;have hg9:=hg8.next;have ng:=sU hg8.ws;have ngt:=congrArg List.length ng.1.toks;have hc2:=hg8.at0;have lt5:=L5.lt;have lt4:=L4.lt;refine cK λb6 w10 hb6 hz10 hbb10 hx10=>?_;have L6:=h9.loc hz10 hb6 hbb10;have h10:=h9.ext hx10;have L4:=L4.ext hx10;have L5:=L5.ext hx10;have nA6:va.ownBlock≠some b6:=λe=>by have:=(rA.off _ e).1.2;omega
  have nK6:vk.ownBlock≠some b6:=λe=>by have:=(rK.off _ e).1.2;omega
  have rA:=rA.ext hx10;have rK:=rK.ext hx10;refine cY (l:=jI (cur s2)) L6.1 rfl rfl rfl λw11 hz11 hbb11 hc11=>?_;have L6:Loc w0 w11 p f M1 vt b6 TkT (jI (cur s2)):=⟨hbb11,L6.2.up (by omega)⟩;have h11:=h10.one hc11 L6.2;have L4:=L4.one hc11 (by omega);have L5:=L5.one hc11 (by omega);have rA:=rA.one hc11 nA6;have rK:=rK.one hc11 nK6;have he11:Eff p f M M1 w w11:=(he9.x hx10).one hc11 (by have:=he9.chg.size;omega);have hw11:=he11.chg.size;refine dE.cut (λ_ w'=>∃k s3,(if(cur s2).k=3 then qF (kY s2) (cur s2)else if(cur s2).k=1 then .ok (cur s2).t (kY s2)else .err 50 (cur s2).a)=.ok k s3/\s3=kY s2/\PR w0 w' p f M1 vt (kY s2) top/\Loc w0 w' p f M1 vt b6 TkT [i64 (cur s2).k,str k,i64 (cur s2).a]/\Eff p f M M1 w w'/\Loc w0 w' p f M1 vt b5 ExT [i64 8,str [],va,vk,i64 t.a]/\Loc w0 w' p f M1 vt b4 ExT [.int .i64 0,.string (ofL []),.slice none 0 0,.slice none 0 0,.int .i64 0]/\Ro w0 w' p f M1 vt B1 jY 1 va av.length (ints av)/\Ro w0 w' p f M1 vt B1 StT 1 vk ks.length (strs ks)/\w11.heap.size<=w'.heap.size) ?_ ?_
  ·refine L6.ldf rfl ?_;rw[cL,bD];refine⟨λhk3=>?_,λhk3=>?_⟩
   ·have htx:=hg8.tx hk3;rw[aU hk3]at hob;refine gF L6.1 rfl ?_;refine Kd h11 htx.1 (by omega) (λl s3 el w12 hx12=>?_) λc a' el=>ht c a' (by rw[<-hob,el];rfl);rw[bE,bL,aI];refine(L6.ext hx12).st rfl (by simp[jI]) λw13 L6 hc13 hz13=>?_;have h13:=(h11.ext hx12).one hc13 L6.2;have e3:s3=kY s2:=by
     unfold qF at el;split at el
     ·cases el
     ·injection el with _ el;exact el.symm
    exact⟨l,s3,by rw[aU hk3];exact el,e3,h13,L6,(he11.x hx12).one hc13 (by have:=he9.chg.size;omega),(L5.ext hx12).one hc13 (by omega),(L4.ext hx12).one hc13 (by omega),(rA.ext hx12).one hc13 nA6,(rK.ext hx12).one hc13 nK6,by have:=hx12.size;omega⟩
   ·rw[cL,bD];refine⟨λhk1=>?_,λhk1=>?_⟩
    ·exact⟨_,_,by rw[aL hk3,aU hk1],rfl,h11,L6,he11,L5,L4,rA,rK,aZ _⟩
    ·refine L6.ldf rfl ?_;refine rP h11 (ht 50 (cur s2).a ?_);rw[<-hob,aL hk3,aL hk1];rfl
  rintro _ g2 w12 ⟨k,s3,ek,rfl,h12,L6,he12,L5,L4,rA,rK,hz12⟩;rw[ek]at hob;simp only[R.bind]at hob;refine dE.cut (λ_ w'=>w'=w12/\ks.contains k=false) ?_ ?_
  ·rw[bE,bL,aI];refine L5.ld rfl ?_;refine L6.ldf rfl ?_;refine yA rK.own.sl (by have:=hg7.few;omega) ?_;rw[bD];refine⟨λhm=>?_,λhm=>⟨rfl,by simpa using hm⟩⟩;refine L6.ldf rfl ?_;refine rP h12 (ht 2 (cur s2).a ?_);rw[<-hob,aU (by simpa using hm)]
  rintro _ g3 w13 ⟨rfl,hnk⟩;rw[aL (by rw[hnk];decide)]at hob;refine xC h12 hg9.ws hN hg9.l (λs4 e4 w14 h14 he14=>?_) λc a' e4=>ht c a' (by rw[<-hob,e4]);rw[e4]at hob;simp only at hob;obtain⟨hg14,hi14,_⟩:=hg9.want e4;have w14s:=mO hg9.ws [61];rw[e4]at w14s;have w14t:=congrArg List.length w14s.1.1.toks;have L4:=(L4.eff he14).drew;have L5:=(L5.eff he14).drew;have L6:=(L6.eff he14).drew;have rA:=(rA.eff he14).ext (cQ w14);have rK:=(rK.eff he14).ext (cQ w14);have hz14:=he14.chg.size;have zd14:w14.drew.heap.size=w14.heap.size:=rfl;have he14:=(he12.trans he14).x (cQ w14);have h14:=h14.drew;rw[bE,bL,aI];refine L5.ld rfl ?_;refine L6.ldf rfl ?_;rw[bE,bL,aI];refine L5.ld rfl ?_;refine wJ λr w15 hr hz15 hrb hx15=>?_;have L4:=L4.ext hx15;have L5:=L5.ext hx15;have rA:=rA.ext hx15;have rK:=rK.ext hx15;have h15:=h14.ext hx15;have he15:=he14.x hx15;have hw15:=he15.chg.size;refine⟨L5.ld rfl rfl,L5.ld rfl rfl,?_⟩;refine Ro.app Fy rK h15 hrb rfl (λu hu=>by simp only[bX]at hu;subst hu;rfl) (by have:=hg7.few;omega) (by decide) (by omega) λvk' w16 rK' hc16 hv16 h16=>?_;have L5:=L5.row hc16 λe=>by have:=rK.new b5 e;omega
  have L4:=L4.row hc16 λe=>by have:=rK.new b4 e;omega
  have dd':∀k,va.ownBlock=some k->vk'.ownBlock≠some k:=λk hk e=>(hv16 k e).elim (dd k hk) λe=>by have:=(rA.off k hk).1.2;omega
  have rA:=rA.row hc16 dd;have he16:=he15.then hc16 λk hk e=>by have:=rK.new k e;omega
  have hz16:=hc16.size;refine⟨L5.ld rfl rfl,?_⟩;rw[bE,bL,aI];refine hE w16 p M1 vt s4 top N _ h16 hg14 (λx s5 ex M5 w17 h17 he17=>?_) λc a' ex=>ht c a' (by rw[<-hob,ex]);rw[ex]at hob;simp only at hob;obtain⟨hg17,hi17⟩:=hg14.e hF ex;have e17t:=hF.ok N s4 hg14.ws;rw[ex]at e17t;have e17t:=congrArg List.length e17t.1.1.toks;have L4:=L4.eff he17;have L5:=L5.eff he17;have rA:=rA.eff he17;have rK:=rK'.eff he17;have hz17:=he17.chg.size;have he17:=he16.trans he17;refine⟨L5.ld rfl rfl,?_⟩;refine mF λr2 w18 hr2 hz18 hrb2 hx18=>?_;have L4:=L4.ext hx18;have L5:=L5.ext hx18;have rA:=rA.ext hx18;have rK:=rK.ext hx18;have h18:=h17.ext hx18;have he18:=he17.x hx18;have hw18:=he18.chg.size;refine⟨L5.ld rfl rfl,?_⟩;refine Ro.app Aj rA h18 hrb2 rfl (λu hu=>by simp only[bX]at hu;subst hu;rfl) (by have:=hg7.few;omega) (by decide) (by omega) λva' w19 rA' hc19 hv19 h19=>?_;have L5:=L5.row hc19 λe=>by have:=rA.new b5 e;omega
  have L4:=L4.row hc19 λe=>by have:=rA.new b4 e;omega
  have dd2:∀k,va'.ownBlock=some k->vk'.ownBlock≠some k:=λk hk e=>(hv19 k hk).elim (λh=>dd' k h e) λh=>by have:=(rK.off k e).1.2;omega
  have rK:=rK.row hc19 λk hk e=>dd' k e hk;have he19:=he18.then hc19 λk hk e=>by have:=rA.new k e;omega
  have hz19:=hc19.size;obtain⟨vp,vc,ev,_⟩:=rK.own.sl.shape;refine L5.st (by rw[ev];rfl) (by simp) λw20 L5 hc20 hz20=>?_;have h20:=h19.one hc20 L5.2;have L4:=L4.one hc20 (by omega);have nA5:va'.ownBlock≠some b5:=λe=>by have:=rA'.new b5 e;omega
  have nK5:vk'.ownBlock≠some b5:=λe=>by have:=rK.new b5 e;omega
  have rA:=rA'.one hc20 nA5;have rK:=rK.one hc20 nK5;rw[bE,bL,aI];obtain⟨vp2,vc2,ev2,_⟩:=rA.own.sl.shape;refine L5.st (by rw[ev2];rfl) (by simp) λw21 L5 hc21 hz21=>?_;have h21:=h20.one hc21 L5.2;have L4:=L4.one hc21 (by omega);have rA:=rA.one hc21 nA5;have rK:=rK.one hc21 nK5;have hw5:w.heap.size<=b5:=by omega
  have he21:=(he19.one hc20 hw5).one hc21 hw5;simp only[aM,aQ]at L5;have hg5:=hg17.take [44];have tg5:=lX hg17.ws [44];have tg5t:=congrArg List.length tg5.1.toks;refine dE.cut (λ_ w'=>∃s6,(s6=(cS s5 [44]).2\/s6=bM (cS s5 [44]).2)/\Ch E t.a n (jE s6) (av++[x]) (ks++[k])=R0/\PR w0 w' p f M5 vt s6 top/\Eff p f M5 M5 w21 w') ?_ ?_
  ·refine uC h21 hg17.ws hN hg17.l λw22 h22 he22=>?_;rw[fH];simp only[fT];by_cases hy:(cS s5 [44]).1=true
   ·rw[hy,dH,Ce];intro g4;rw[eX];simp only[fT,Ce];intro g5;rw[eX,bQ];rw[aL (λh=>by rw[hy]at h;exact absurd h.1 (by decide)),aU hy]at hob;exact⟨_,.inl rfl,hob,h22,he22⟩
   ·have hy:(cS s5 [44]).1=false:=by simpa using hy
    rw[hy,cH];have hyn:(if(cS s5 [44]).1=true then(cS s5 [44]).2 else bM (cS s5 [44]).2)=bM (cS s5 [44]).2:=aL (by rw[hy];decide);rw[hyn]at hob;refine GdW.act (decide ((cur (cS s5 [44]).2).k≠5)) (λw'=>PR w0 w' p f M5 vt (bM (cS s5 [44]).2) top/\Eff p f M5 M5 w21 w') (λe=>by cases e) (λ_ J hJ=>?_) λg4 w23 hR23=>?_
    ·refine pL h22 hg5.ws hN hg5.l λw23 h23 he23=>?_;refine⟨i64 (cur (cS s5 [44]).2).k,rfl,?_⟩;dsimp only;rw[dQ];exact hJ w23 ⟨h23,he22.trans he23⟩
    simp only[aC,aO,iE];obtain⟨h23,he23⟩:=hR23;have hgn:=hg5.now;by_cases h5:(cur (cS s5 [44]).2).k≠5
    ·rw[bW h5];simp only[fT];refine GdW.act (!isS (bM (cS s5 [44]).2) [125]) (λw'=>PR w0 w' p f M5 vt (bM (cS s5 [44]).2) top/\Eff p f M5 M5 w21 w') (λe=>by cases e) (λ_ J hJ=>?_) λg5 w24 hR24=>?_
     ·refine wJ λb w24 hb hz24 hbb hx24=>?_;have h24:=h23.ext hx24;have L:=h23.loc hz24 hb hbb;refine WN h24 hgn.ws hN hgn.l ⟨Az hbb rfl,λk hk=>by simp only[Value.ownBlock,bA]at hk;subst hk;exact L.2⟩ λw25 h25 he25=>?_;rw[fH];rw[kN]at h25;exact hJ w25 ⟨h25,(he23.x hx24).trans he25⟩
     obtain⟨h24,he24⟩:=hR24;simp only[aC,aO,iE];rw[eJ];refine⟨λhn'=>?_,λhn'=>?_⟩
     ·have hn':isS (bM (cS s5 [44]).2) [125]=false:=by simpa using hn'
      refine pL h24 hgn.ws hN hgn.l λw25 h25 he25=>?_;refine⟨i64 (cur (bM (cS s5 [44]).2)).a,rfl,?_⟩;refine rP h25 (ht 50 _ ?_);rw[<-hob,aU ⟨hy,h5,hn'⟩]
     ·have hn':isS (bM (cS s5 [44]).2) [125]=true:=by simpa using hn'
      rw[aL (λh=>by rw[h.2.2]at hn';cases hn')]at hob;exact⟨_,.inr rfl,hob,h24,he24⟩
    ·rw[bH h5];simp only[fT,Ce];intro g5;rw[eX,bQ];rw[aL (λh=>h5 h.2.1)]at hob;exact⟨_,.inr rfl,hob,h23,he23⟩
  rintro _ g4 w22 ⟨s6,es6,hob6,h22,he22⟩;have hg6:Gd N s6 dl/\(cS s5 [44]).2.i<=s6.i/\s6.toks=(cS s5 [44]).2.toks:=by
   rcases es6 with rfl|rfl
   ·exact⟨hg5,aZ _,rfl⟩
   ·exact⟨hg5.now,HF _,(jN hg5.ws).toks⟩
  obtain⟨hg6,hi6,et6⟩:=hg6;have et6:=congrArg List.length et6;refine yU h22 hg6.ws hN hg6.l λw23 h23 he23=>?_;have lg:=mD hg6.ws;have lgt:=congrArg List.length lg.1.toks;have he223:=he22.trans he23;have hz22:=he223.chg.size;have i1:=tg.1.le;have i2:=ng.1.le;have i3:=tg5.1.le;have i4:=lg.1.le;have hg23:=hg6.lines;have hlt23:=hg23.ws.lt;refine⟨⟨rfl,jE s6,M5,av++[x],ks++[k],va',vk',n,h23,hg23,he21.trans he223,L5.eff he223,L4.eff he223,?_,?_,dd2,by omega,hob6,by omega,?_,by simp[hks],by omega⟩,?_⟩
  ·rw[aP,aB,aK,Dp];exact rA.eff he223
  ·rw[aP,aB,aK,Ay];exact rK.eff he223
  ·rw[aP,aB,aK];omega
  ·rw[h23.at_,h7.at_];omega
 ·have hyt:(cS s1 [125]).1=true:=by simpa using hyt
  rw[aU hyt]at hob;refine gF L5.1 rfl ?_;have hE8:ER w0 w8 p f M1 vt B1 ⟨8,[],av,ks,t.a⟩ va vk:=⟨rA,rK,dd⟩;refine IT (e:=⟨8,[],av,ks,t.a⟩) h8 L4 rfl hE8 (λe=>by have:=rA.new b4 e;omega) (λe=>by have:=rK.new b4 e;omega) λw9 h9 hc9 hE9=>?_;exact hK _ _ hob.symm M1 _ _ w9 h9 hg8 (he8.one hc9 (by omega)) (hE9.le (by omega))
end
theorem xB{α:Type}{s:PS}{a:Int}{q:Bool}{f:PS->R α}(hd:s.deep≠24):within s a q f=(f {s with deep:=s.deep+1,quiet:=q}).bind λx s'=>.ok x {s' with deep:=s.deep,quiet:=s.quiet}:=by
 unfold within;rw[aL hd]
theorem tQ{α:Type}{s:PS}{a:Int}{q:Bool}{f:PS->R α}(hd:s.deep=24):within s a q f=.err 7 a:=by
 unfold within;rw[aU hd]
theorem kZ(s:PS)(w:Str):isS (bM s) w=isS s w:=by unfold isS;rw[mY]
section
variable [HX]
variable{w0 w w' w1:World}{p f b:Nat}{M M' M0:Lay}{vt:Value}{s:PS}{top:List Nat}{N:Int}{K:Q0}{e:Ex}{va vk:Value}{wbn:Nat}{wb:World}{dl:Nat}
theorem Gd.sign{x:Str}(hg:Gd N s (dl+1))(hi:isS s x=true)(q:Bool):
  Gd N {bM s with deep:=(bM s).deep+1,quiet:=q} dl/\bM {bM s with deep:=(bM s).deep+1,quiet:=q}={bM s with deep:=(bM s).deep+1,quiet:=q}/\(cur {bM s with deep:=(bM s).deep+1,quiet:=q}).k≠0/\Gd N (step1 {bM s with deep:=(bM s).deep+1,quiet:=q}) dl:=by
 have h1:=hg.now.frame q;obtain⟨a,b,c⟩:=qK hg.ws hi ((bM s).deep+1) q;have h2:=h1.step b;rw[a]at h2;exact⟨h1,a,b,h2⟩
theorem AR{x:Str}{KK:Q0}(h:PR w0 w p f M vt s top)(hg:Gd N s dl)(hK:∀w',PR w0 w' p f M vt (bM s) top->Eff p f M M w w'->KK (.bool (isS s x)) w'):
  gO StT 1 [(.string (ofL []))] [(0,1,str x)] w λt60 w17=>aJ P0 65 [.pointer (some ⟨p,0,none⟩),t60] w17 KK:=by
 refine wJ λb w1 hb hz1 hbb hx1=>?_;have L1:=h.loc hz1 hb hbb;refine WN (h.ext hx1) hg.ws hg.hN hg.l ⟨Az hbb rfl,λk hk=>by simp only[Value.ownBlock,bA]at hk;subst hk;exact L1.2⟩ λw2 h2 he2=>hK w2 h2 ((Eff.ext hx1).trans he2)
theorem Xe{E:PS->R Nat}(hS:yH w0 f)(hE:∀d,dl=d+1->EC w0 f 118 E d)(hF:sO E):EC w0 f 226 (yG E) dl:=by
 intro w p M vt s top N K h hg hK ht;refine SR ?_;unfold Zr;have hN:=hg.hN;have hat:=hg.at0;refine vF rfl λb1 w1 hb1 hz1 hbb1 hx1=>?_;have h1:=h.ext hx1;have L1:=h.loc hz1 hb1 hbb1;refine L1.ld rfl ?_;refine pL h1 hg.ws hN hg.l λw2 h2 he2=>?_;have L1:=L1.eff he2;have he2:=(Eff.ext hx1).trans he2;have lt1:=L1.lt;refine cK λb3 w3 hb3 hz3 hbb3 hx3=>?_;have h3:=h2.ext hx3;have L3:=h2.loc hz3 hb3 hbb3;have L1:=L1.ext hx3;refine cY (l:=jI (cur s)) L3.1 rfl rfl rfl λw4 hz4 hbb4 hc4=>?_;have L3:Loc w0 w4 p f M vt b3 TkT (jI (cur s)):=⟨hbb4,L3.2.up (by omega)⟩;have h4:=h3.one hc4 L3.2;have L1:=L1.one hc4 (by omega);have hw2:=he2.chg.size;have he4:=(he2.x hx3).one hc4 (by omega);refine L3.ldf rfl ?_;simp only[dP,dW,dN,aB,aK,aM,aQ,Nat.reduceAdd,Nat.reduceLT,dJ,aY];have lt3:=L3.lt;refine cK λb4 w5 hb4 hz5 hbb5 hx5=>?_;have h5:=h4.ext hx5;have L4:=h4.loc hz5 hb4 hbb5;have L1:=L1.ext hx5;have L3:=L3.ext hx5;refine cY (l:=[i64 0,str [],.slice none 0 0,.slice none 0 0,i64 (cur s).a]) L4.1 rfl rfl rfl λw6 hz6 hbb6 hc6=>?_;have L4:Loc w0 w6 p f M vt b4 ExT [i64 0,str [],.slice none 0 0,.slice none 0 0,i64 (cur s).a]:=⟨hbb6,L4.2.up (by omega)⟩;have h6:=h5.one hc6 L4.2;have L1:=L1.one hc6 (by omega);have L3:=L3.one hc6 (by omega);have he6:=(he4.x hx5).one hc6 (by omega);have hw6:=he6.chg.size;have hgn:=hg.now;have hi1:=wsi hgn.ws hgn.l;have hb14:b1≠b4:=by omega
 have hb34:b3≠b4:=by omega
 have hwb4:w.heap.size<=b4:=by omega
 have hlev:=hgn.lev;have hd24:(bM s).deep<=24:=by omega
 refine dE.cut (λ_ w'=>∃M1 s1 e va vk,PR w0 w' p f M1 vt s1 top/\Gd N s1 dl/\Eff p f M M1 w w'/\Loc w0 w' p f M1 vt b1 PpT [.pointer (some ⟨p,0,none⟩)]/\Loc w0 w' p f M1 vt b4 ExT (exc e va vk)/\ER w0 w' p f M1 vt w.heap.size e va vk/\yG E s=rX s1 e) ?_ ?_
 ·unfold yG at hK ht⊢;simp only at hK ht⊢;refine L3.ldf rfl ?_;rw[cL,bD];refine⟨λhk=>?_,λhk=>?_⟩
  ·
   have hk0:(cur s).k≠0:=by rw[hk];decide
   refine L1.ld rfl ?_;refine h6.go hi1 λw7 h7 he7 hz7=>?_;have L1:=L1.eff he7;have L3:=(L3.eff he7).drew;have L4:=(L4.eff he7).drew;have h7:=h7.drew;have he7:=(he6.trans he7).x (cQ w7);rw[bE,bL,aI];refine L3.ld rfl ?_;rw[bE,bL,aI];refine L4.st rfl (by simp) λw8 L4 hc8 hz8=>?_;have L3:=L3.one hc8 hb34;refine⟨L3.ld rfl rfl,?_⟩;rw[bE,bL,aI];refine L4.st rfl (by simp) λw9 L4 hc9 hz9=>?_;have h9:=(h7.one hc8 L4.2).one hc9 L4.2;refine⟨M,_,⟨4,(cur s).t,[],[],(cur s).a⟩,.slice none 0 0,.slice none 0 0,h9,hg.step hk0,(he7.one hc8 hwb4).one hc9 hwb4,(L1.drew.one hc8 hb14).one hc9 hb14,L4,ER.leaf rfl rfl,by rw[aU hk]⟩
  rw[aL hk]at hK ht⊢;refine L3.ldf rfl ?_;rw[cL,bD];refine⟨λhk3=>?_,λhk3=>?_⟩
  ·
   rw[aU hk3]at hK ht;have hk0:(cur s).k≠0:=by rw[hk3];decide
   refine L1.ld rfl ?_;refine h6.go hi1 λw7 h7 he7 hz7=>?_;have L1:=L1.eff he7;have L3:=L3.eff he7;have he7:=he6.trans he7;refine L1.ld rfl ?_;refine gF L3.1 rfl ?_;have htx:=hg.tx hk3;have hcp:=mA hg.ws;have hph:=(qQ hk0).1;have hwt:wt {cur s with k:=3}=wt (nM (bM s)):=by
    have e3:(nM (bM s)).k=3:=hk3;unfold wt;simp only[e3];rfl
   refine Vb hS hE hF h7 (hg.step hk0) htx.1 htx.2 ⟨hcp.1,hcp.2.1⟩ (hcp.2.2.2.1 hk3) (by rw[hwt];have:=hg.phi;omega) (λx s' ex M' w8 h8 he8=>?_) λc a' ex=>ht c a' ex;exact hK x s' ex M' w8 h8 (he7.trans he8)
  rw[aL hk3]at hK ht⊢;refine L3.ldf rfl ?_;rw[cL];simp only[fT];refine GdW.look (decide ((cur s).t≠HO)) (λ_ J hJ=>?_) λg=>?_
  ·refine L3.ldf rfl ?_;rw[gA];exact hJ
  simp only[aC];rw[fG,eJ];refine⟨λhcc=>?_,λhcc=>?_⟩
  ·
   have hc:(cur s).k=1/\(cur s).t≠HO:=by simpa using hcc
   rw[aU hc]at hK ht⊢;have hk0:(cur s).k≠0:=by rw[hc.1];decide
   have hgs:=hg.step hk0;refine L1.ld rfl ?_;refine h6.go hi1 λw7 h7 he7 hz7=>?_;have L1:=L1.eff he7;have L3:=L3.eff he7;have L4:=L4.eff he7;have he7:=he6.trans he7;refine L1.ld rfl ?_;refine AR h7 hgs λw8 h8 he8=>?_;have L1:=L1.eff he8;have L3:=L3.eff he8;have L4:=L4.eff he8;have he8:=he7.trans he8;rw[fH,eJ];refine⟨λhn=>?_,λhy=>?_⟩
   ·have hn:isS (step1 (bM s)) [40]=false:=by simpa using hn
    rw[aL (by rw[hn];decide)];refine L3.ldf rfl ?_;refine Rp ?_;rw[bE,bL,aI];refine L4.st rfl (by simp) λw9 L4 hc9 hz9=>?_;have h9:=h8.one hc9 L4.2;have L1:=L1.one hc9 hb14;have L3:=L3.one hc9 hb34;have he9:=he8.one hc9 hwb4;refine L4.ldf rfl ?_;rw[cL,bD];refine⟨λh9k=>?_,λh9k=>?_⟩
    ·refine L3.ldf rfl ?_;rw[bE,bL,aI];refine L4.st rfl (by simp) λw10 L4 hc10 hz10=>?_;refine⟨M,_,⟨rN (cur s).t,(cur s).t,[],[],(cur s).a⟩,.slice none 0 0,.slice none 0 0,h9.one hc10 L4.2,hgs.now,he9.one hc10 hwb4,L1.one hc10 hb14,L4,ER.leaf rfl rfl,by rw[aU h9k]⟩
    ·refine⟨M,_,⟨rN (cur s).t,[],[],[],(cur s).a⟩,.slice none 0 0,.slice none 0 0,h9,hgs.now,he9,L1,L4,ER.leaf rfl rfl,by rw[aL h9k]⟩
   ·have hy:isS (step1 (bM s)) [40]=true:=by simpa using hy
    rw[aU hy]at hK ht⊢;have L1:=L1.drew;have L3:=L3.drew;have L4:=L4.drew;have h8:=h8.drew;have he8:=he8.x (cQ w8);rw[bE,bL,aI];refine L3.ld rfl ?_;rw[bE,bL,aI];refine L4.st rfl (by simp) λw9 L4 hc9 hz9=>?_;have h9:=h8.one hc9 L4.2;have L1:=L1.one hc9 hb14;have L3:=L3.one hc9 hb34;have he9:=he8.one hc9 hwb4;refine⟨L3.ld rfl rfl,?_⟩;rw[bE,bL,aI];refine L4.st rfl (by simp) λw10 L4 hc10 hz10=>?_;have h10:=(h9.one hc10 L4.2).drew;have L1:=(L1.one hc10 hb14).drew;have L4:=L4.drew;have he10:=(he9.one hc10 hwb4).x (cQ w10);simp only[aM,aQ]at L4;refine L1.ld rfl ?_;refine L1.ld rfl ?_;have hgq:=hgs.now;refine pL h10 hgq.ws hN hgq.l λw11 h11 he11=>?_;rw[kN]at h11;rw[mY];have L1:=L1.eff he11;have L4:=L4.eff he11;have he11:=he10.trans he11;refine⟨L1.ld rfl rfl,i64 (cur (step1 (bM s))).a,rfl,?_⟩;have hql:=hgq.lev;refine qP h11 (by omega) (λhd=>ht 7 _ (by rw[tQ hd];rfl)) λhd w12 h12 he12=>?_;obtain⟨d,rfl⟩:∃d,dl=d+1:=⟨dl-1,by omega⟩;rw[xB hd]at ht⊢;obtain⟨q1,q2,q3,q4⟩:=hgs.sign hy true;have L1:=L1.eff he12;have L4:=L4.eff he12;have he12:=he11.trans he12;refine hY (caps:=[.pointer (some ⟨b1,0,none⟩),.pointer (some ⟨b4,0,none⟩)]) ?_;refine SN ?_;unfold Zn;refine L1.ld rfl ?_;refine h12.go (wsi q1.ws q1.l) λw13 h13 he13 hz13=>?_;have L1:=L1.eff he13;have L4:=L4.eff he13;have he13:=he12.trans he13;refine L1.ld rfl ?_;have lt4':=L4.lt;refine Oz (hE d rfl) hF h13 q4 (λl s' el M' v w14 h14 hg14 he14 hr14=>?_) λc a' el=>ht c a' (by rw[el];rfl);have L1:=L1.eff he14;have L4:=L4.eff he14;have hw13:=he13.chg.size;obtain⟨vp,vc,ev,_⟩:=hr14.own.sl.shape;have nv4:v.ownBlock≠some b4:=λe=>by have:=hr14.new b4 e;omega
    rw[bE,bL,aI];refine L4.st (by rw[ev];rfl) (by simp) λw15 L4 hc15 hz15=>?_;have h15:=h14.one hc15 L4.2;have L1:=L1.one hc15 hb14;have hr15:=hr14.one hc15 nv4;have he15:=(he13.trans he14).one hc15 hwb4;have hg14l:=hg14.lev;refine⟨M',s',h15,by omega,λw16 h16 he16=>?_⟩;refine⟨M',_,⟨12,(cur s).t,l,[],(cur s).a⟩,v,.slice none 0 0,h16,hgs.now.back hg14,he15.trans he16,L1.eff he16,L4.eff he16,(ER.noK rfl (hr15.le (by omega))).eff he16,by rw[el];rfl⟩
  ·
   have hc:¬((cur s).k=1/\(cur s).t≠HO):=by simpa using hcc
   rw[aL hc]at hK ht⊢;simp only[kZ]at hK ht⊢;have ret5:∀{w7 w8:World} {M':Lay} {s':PS} {e:Ex} {va vk:Value},PR w0 w7 p f M' vt s' top->Loc w0 w7 p f M' vt b1 PpT [.pointer (some ⟨p,0,none⟩)]->Loc w0 w7 p f M' vt b4 ExT [i64 0,str [],.slice none 0 0,.slice none 0 0,i64 (cur s).a]->ER w0 w7 p f M' vt w8.heap.size e va vk->b4<w8.heap.size->w.heap.size<=w8.heap.size->∀{KW:World->Prop},
     (∀w9,PR w0 w9 p f M' vt s' top->Chg (One b4) w7 w9->Loc w0 w9 p f M' vt b1 PpT [.pointer (some ⟨p,0,none⟩)]->Loc w0 w9 p f M' vt b4 ExT (exc e va vk)->ER w0 w9 p f M' vt w.heap.size e va vk->KW w9)->stW 5 (.pointer (some ⟨b4,0,none⟩)) (.agg (exc e va vk).toArray) w7 KW:=λ{w7 w8 M' s' e va vk} h7 L1 L4 hE7 hb hw {KW} hKW=>by
    refine cY (l:=exc e va vk) L4.1 rfl rfl (Kz hE7) λw9 hz9 hb9 hc9=>?_;exact hKW w9 (h7.one hc9 L4.2) hc9 (L1.one hc9 hb14) ⟨hb9,L4.2.up (by omega)⟩ ((hE7.one hc9 (λe=>by have:=hE7.rA.new b4 e;omega) (λe=>by have:=hE7.rK.new b4 e;omega)).le hw)
   refine L1.ld rfl ?_;refine AR h6 hgn λw7 h7 he7=>?_;rw[kN]at h7;have L1:=L1.eff he7;have L3:=L3.eff he7;have L4:=L4.eff he7;have he7:=he6.trans he7;rw[kZ,eJ];refine⟨λhi=>?_,λhi=>?_⟩
   ·rw[aU hi]at hK ht;have lt1:=L1.lt;have hw7:=he7.chg.size;refine cK λb5 w8 hb5 hz8 hbb8 hx8=>?_;have h8:=h7.ext hx8;have L5:=h7.loc hz8 hb5 hbb8;refine L5.st rfl (by simp) λw9 L5 hc9 hz9=>?_;have h9:=h8.one hc9 L5.2;have L1:=(L1.ext hx8).one hc9 (by omega);have L3:=(L3.ext hx8).one hc9 (by have:=L3.lt;omega);have he9:=(he7.x hx8).one hc9 (by omega);refine L1.ld rfl ?_;refine L3.ldf rfl ?_;refine qP h9 hd24 (λhd=>ht 7 _ (by rw[tQ hd])) λhd w10 h10 he10=>?_;obtain⟨d,rfl⟩:∃d,dl=d+1:=⟨dl-1,by omega⟩;rw[xB hd]at ht hK;obtain⟨q1,q2,q3,q4⟩:=hg.sign hi true;have L1:=L1.eff he10;have L5:=L5.eff he10;have he10:=he9.trans he10;refine hY (caps:=[.pointer (some ⟨b1,0,none⟩),.pointer (some ⟨b5,0,none⟩)]) ?_;refine SK ?_;unfold Zl;refine L1.ld rfl ?_;refine h10.go (wsi q1.ws q1.l) λw11 h11 he11 hz11=>?_;have L1:=L1.eff he11;have L5:=L5.eff he11;have he11:=he10.trans he11;refine L1.ld rfl ?_;refine hE d rfl w11 p M vt _ top N _ h11 q4 (λx s' ex M' w12 h12 he12=>?_) λc a' ex=>ht c a' (by rw[ex];rfl);obtain⟨g12,_⟩:=q4.e hF ex;rw[ex]at hK ht;simp only[R.bind]at hK ht;have L1:=L1.eff he12;have L5:=L5.eff he12;have he12:=he11.trans he12;refine L5.st rfl (by simp) λw13 L5 hc13 hz13=>?_;have h13:=h12.one hc13 L5.2;have L1:=L1.one hc13 (by omega);have he13:=he12.one hc13 (by omega);refine L1.ld rfl ?_;refine xC h13 g12.ws hN g12.l (λs3 e3 w14 h14 he14=>?_) λc a' e3=>ht c a' (by rw[e3]);rw[e3]at hK;simp only at hK;obtain⟨g14,_⟩:=g12.want e3;have g14l:=g14.lev;refine⟨M',s3,h14,by omega,λw15 h15 he15=>?_⟩;refine((L5.eff he14).eff he15).ld rfl ?_;exact hK x _ rfl M' w15 h15 ((he13.trans he14).trans he15)
   rw[aL (by rw[hi];decide)]at hK ht⊢;refine L1.ld rfl ?_;refine AR h7 hgn λw8 h8 he8=>?_;rw[kN]at h8;have L1:=L1.eff he8;have L3:=L3.eff he8;have L4:=L4.eff he8;have he8:=he7.trans he8;rw[kZ,eJ];refine⟨λhi=>?_,λhi=>?_⟩
   ·rw[aU hi]at hK ht⊢;refine L1.ld rfl ?_;refine L3.ldf rfl ?_;refine qP h8 hd24 (λhd=>ht 7 _ (by rw[tQ hd];rfl)) λhd w10 h10 he10=>?_;obtain⟨d,rfl⟩:∃d,dl=d+1:=⟨dl-1,by omega⟩;rw[xB hd]at ht⊢;obtain⟨q1,q2,q3,q4⟩:=hg.sign hi true;have L1:=L1.eff he10;have L3:=L3.eff he10;have L4:=L4.eff he10;have he10:=he8.trans he10;refine hY (caps:=[.pointer (some ⟨b1,0,none⟩),.pointer (some ⟨b3,0,none⟩),.pointer (some ⟨b4,0,none⟩)]) ?_;refine SJ ?_;unfold Zk;refine L1.ld rfl ?_;refine gF L3.1 rfl ?_;have lt4':=L4.lt;refine WC (hE d rfl) hF h10 q1 q3 q2 (λe s' el M' va vk w12 h12 g12 he12 hE12=>?_) λc a' el=>ht c a' (by rw[el];rfl);refine ret5 h12 (L1.eff he12) (L4.eff he12) hE12 lt4' he10.chg.size λw13 h13 hc13 L1 L4 hE13=>?_;have g12l:=g12.lev;refine⟨M',s',h13,by omega,λw14 h14 he14=>?_⟩;exact⟨M',_,e,va,vk,h14,hgn.back g12,((he10.trans he12).one hc13 hwb4).trans he14,L1.eff he14,L4.eff he14,hE13.eff he14,by rw[el];rfl⟩
   rw[aL (by rw[hi];decide)]at hK ht⊢;refine L1.ld rfl ?_;refine AR h8 hgn λw9 h9 he9=>?_;rw[kN]at h9;have L1:=L1.eff he9;have L3:=L3.eff he9;have L4:=L4.eff he9;have he9:=he8.trans he9;rw[kZ,eJ];refine⟨λhi=>?_,λhi=>?_⟩
   ·rw[aU hi]at hK ht⊢;refine L1.ld rfl ?_;refine L3.ldf rfl ?_;refine qP h9 hd24 (λhd=>ht 7 _ (by rw[tQ hd];rfl)) λhd w10 h10 he10=>?_;obtain⟨d,rfl⟩:∃d,dl=d+1:=⟨dl-1,by omega⟩;rw[xB hd]at ht⊢;obtain⟨q1,q2,q3,q4⟩:=hg.sign hi false;have L1:=L1.eff he10;have L3:=L3.eff he10;have L4:=L4.eff he10;have he10:=he9.trans he10;refine hY (caps:=[.pointer (some ⟨b1,0,none⟩),.pointer (some ⟨b3,0,none⟩),.pointer (some ⟨b4,0,none⟩)]) ?_;refine SH ?_;unfold Zi;refine L1.ld rfl ?_;refine gF L3.1 rfl ?_;have lt4':=L4.lt;refine Nq (hE d rfl) hF h10 q1 q3 q2 (λe s' el M' va vk w12 h12 g12 he12 hE12=>?_) λc a' el=>ht c a' (by rw[el];rfl);refine ret5 h12 (L1.eff he12) (L4.eff he12) hE12 lt4' he10.chg.size λw13 h13 hc13 L1 L4 hE13=>?_;have g12l:=g12.lev;refine⟨M',s',h13,by omega,λw14 h14 he14=>?_⟩;exact⟨M',_,e,va,vk,h14,hgn.back g12,((he10.trans he12).one hc13 hwb4).trans he14,L1.eff he14,L4.eff he14,hE13.eff he14,by rw[el];rfl⟩
   ·rw[aL (by rw[hi];decide)]at ht;refine L3.ldf rfl ?_;exact rP h9 (ht _ _ rfl)
 ·rintro _ g w7 ⟨M1,s1,e,va,vk,h7,hg7,he7,L1,L4,hE7,ea⟩;rw[ea]at hK;refine L1.ld rfl ?_;refine gF L4.1 rfl ?_;refine Hs h7 he7 hE7 hg7 λM' w8 h8 he8 _=>?_;exact hK _ _ rfl M' w8 h8 he8
end
section
variable [HX]
variable{w0 w w' w1:World}{p f b:Nat}{M M' M0:Lay}{vt:Value}{s:PS}{top:List Nat}{N:Int}{K:Q0}{e:Ex}{va vk:Value}{wbn:Nat}{wb:World}{dl:Nat}
theorem PR.row_new{l:List Nat}(h:PR w0 w p f M vt s top){r:Nat}(hr:r=w.heap.size)(hz:w'.heap.size=w.heap.size+1)(hb:w'.heap[r]?=some (.cells (ints l).toArray jY (0,0)))(hl:l.length<=1000000):
  Ro w0 w' p f M vt w.heap.size jY 1 (.slice (some ⟨r,0,none⟩) l.length l.length) l.length (ints l):=
 ⟨Nm hb (by have:=h.base;omega) (tL l) hl,λk hk=>by simp only[Value.ownBlock,bA]at hk;subst hk;exact h.off_new (by omega) (by omega),λk hk=>by simp only[Value.ownBlock,bA]at hk;omega⟩
theorem Vv{E:PS->R Nat}(hS:yH w0 f)(hE:∀d,dl=d+1->EC w0 f 118 E d)(hF:sO E):EC w0 f 220 (BN E) dl:=by
 intro w p M vt s top N K h hg hK ht;refine SS ?_;unfold Zs;have hN:=hg.hN;refine vF rfl λb1 w1 hb1 hz1 hbb1 hx1=>?_;have h1:=h.ext hx1;have L1:=h.loc hz1 hb1 hbb1;refine L1.ld rfl ?_;unfold BN at hK ht;refine Xe hS hE hF w1 p M vt s top N _ h1 hg (λx s1 ex M1 w2 h2 he2=>?_) λc a' ex=>ht c a' (by rw[ex];rfl);rw[ex]at hK ht;simp only[R.bind]at hK ht;have hA:sO (yG E):=⟨λN=>IB (hF.ok N),Hw hF.z⟩;obtain⟨hg1,hi1⟩:=hg.e hA ex;have etl:=(hA.ok N) s hg.ws;rw[ex]at etl;have etl:=congrArg List.length etl.1.1.toks;have L1:=L1.eff he2;have he2:=(Eff.ext hx1).trans he2;generalize hR:rC E (s.toks.length+1) s1 x=R0 at hK ht;refine dL.go (λst w'=>∃s1 M1 x n,st=[i64 ((x:Nat):Int)]/\PR w0 w' p f M1 vt s1 top/\Gd N s1 dl/\Eff p f M M1 w w'/\Loc w0 w' p f M1 vt b1 PpT [.pointer (some ⟨p,0,none⟩)]/\rC E n s1 x=R0/\s1.toks.length<n+s1.i/\s1.toks.length=s.toks.length) (λ_ w'=>s.toks.length-zY w' p)
  ⟨s1,M1,x,s.toks.length+1,rfl,h2,hg1,he2,L1,hR,by have:=hg1.ws.lt;omega,etl⟩ ?_
 clear he2 L1 h2 ex hg1 hi1 etl hR;rintro st g w2 ⟨s2,M2,y,n,rfl,h2,hg2,he2,L1,hpf,hn,htl⟩;simp only[aC];have hlt2:=hg2.ws.lt;have hat:=hg2.at0;obtain⟨n,rfl⟩:∃m,n=m+1:=⟨n-1,by omega⟩;simp only[rC]at hpf;refine L1.ld rfl ?_;refine pL h2 hg2.ws hN hg2.l λw3 h3 he3=>?_;have L1:=L1.eff he3;have he3:=he2.trans he3;have hgn:=hg2.now;have lt1:=L1.lt;have hw3:=he3.chg.size;refine cK λb4 w4 hb4 hz4 hbb4 hx4=>?_;have h4:=h3.ext hx4;have L4:=h3.loc hz4 hb4 hbb4;have L1:=L1.ext hx4;refine cY (l:=jI (cur s2)) L4.1 rfl rfl rfl λw5 hz5 hbb5 hc5=>?_;have L4:Loc w0 w5 p f M2 vt b4 TkT (jI (cur s2)):=⟨hbb5,L4.2.up (by omega)⟩;have h5:=h4.one hc5 L4.2;have L1:=L1.one hc5 (by omega);have he5:=(he3.x hx4).one hc5 (by omega);have hwb1:b1=w.heap.size:=hb1;have fin:∀{w6:World} {M6:Lay} {s6:PS} {e:Ex} {va:Value},PR w0 w6 p f M6 vt s6 top->Gd N s6 dl->Eff p f M M6 w w6->Loc w0 w6 p f M6 vt b1 PpT [.pointer (some ⟨p,0,none⟩)]->Ro w0 w6 p f M6 vt w1.heap.size jY 1 va e.args.length (ints e.args)->e.keys=[]->s2.i<s6.i->Syn.phi s6+1<=Syn.phi s2->s6.toks.length=s.toks.length->((rX s6 e).bind λy s3=>rC E n s3 y)=R0->
   aJ P0 158 [.pointer (some ⟨p,0,none⟩),.agg (exc e va (.slice none 0 0)).toArray] w6 λt24 w12=>(∃s1 M1 x n,[t24]=[i64 ((x:Nat):Int)]/\PR w0 w12 p f M1 vt s1 top/\Gd N s1 dl/\Eff p f M M1 w w12/\Loc w0 w12 p f M1 vt b1 PpT [.pointer (some ⟨p,0,none⟩)]/\rC E n s1 x=R0/\s1.toks.length<n+s1.i/\s1.toks.length=s.toks.length)/\s.toks.length-zY w12 p<s.toks.length-zY w2 p:=λ{w6 M6 s6 e va} h6 hg6 he6 L1 hr hk hi hph htl6 hp6=>by
  refine Hs h6 he6 (ER.noK hk (hr.le (by omega))) hg6 λM' w7 h7 he7 hl7=>?_;have hlt6:=hg6.ws.lt;refine⟨⟨_,M',_,n,rfl,h7,?_,he7,hl7 _ _ _ L1 (λe=>by have:=hr.new b1 e;omega) (by simp[Value.ownBlock]),hp6,by show s6.toks.length<n+s6.i;omega,htl6⟩,?_⟩
  ·exact hg6.put (by have:=hg2.phi;omega)
  ·rw[h7.at_,h2.at_];show s.toks.length-s6.i<_;omega
 have hn1:=jN hg2.ws;have hn1t:=congrArg List.length hn1.toks;refine L1.ld rfl ?_;refine uC h5 hgn.ws hN hgn.l λw6 h6 he6=>?_;have L1:=L1.eff he6;have L4:=L4.eff he6;have he6:=he5.trans he6;have tg:=lX hgn.ws [46];have tgt:=congrArg List.length tg.1.toks;have hg6:=hgn.take [46];have tp:=nA (bM s2) [46];have np:=mG s2;rw[eJ];refine⟨λhy=>?_,λhn'=>?_⟩
 ·
  rw[aU hy]at hpf;have tp:=tp.2 hy;have ti:=tg.2.1 hy;have L1:=L1.drew;have L4:=L4.drew;have h6:=h6.drew;have he6:=he6.x (cQ w6);have ld1:∀{w':World} {M':Lay},Loc w0 w' p f M' vt b1 PpT [.pointer (some ⟨p,0,none⟩)]->ldW false 1 (.pointer (some ⟨b1,0,none⟩)) w' λx=>x=.pointer (some ⟨p,0,none⟩):=λL=>L.ld rfl rfl;have ld4:∀{w':World} {M':Lay},Loc w0 w' p f M' vt b4 TkT (jI (cur s2))->ldW false 1 (.pointer (some ⟨b4,2,none⟩)) w' λx=>x=i64 (cur s2).a:=λL=>L.ld rfl rfl;refine L1.ld rfl ?_;refine L1.ld rfl ?_;rw[bE,bL,aI];refine L4.ld rfl ?_;have hw6:=he6.chg.size;have hz1':w1.heap.size<=w6.drew.heap.size:=by have:=he6.chg.size;have:=L1.lt;omega
  have kd:∀{w':World} {KK:Q0},PR w0 w' p f M2 vt (cS (bM s2) [46]).2 top->(∀u s7,nC (cS (bM s2) [46]).2 1=.ok u s7->∀w'',PR w0 w'' p f M2 vt s7 top->Eff p f M2 M2 w' w''->KK (.agg (jI u).toArray) w'')->aJ P0 62 [.pointer (some ⟨p,0,none⟩),.int .i64 1] w' KK:=λ{w' KK} h hKK=>
   xQ h hg6.ws hN hg6.l hKK λc a' eu=>ht c a' (by rw[<-hpf,eu];rfl)
  have done:∀{u:Tok} {s7:PS},nC (cS (bM s2) [46]).2 1=.ok u s7->Gd N s7 dl/\s2.i<s7.i/\Syn.phi s7+1<=Syn.phi s2/\s7.toks.length=s.toks.length/\((rX s7 ⟨10,u.t,[y],[],(cur s2).a⟩).bind λy s3=>rC E n s3 y)=R0:=λ{u s7} eu=>by
   have hk:=hg6.kind (by decide) eu;have hks:=nT hg6.ws 1 (by decide);have hkp:=pX (cS (bM s2) [46]).2 1;rw[eu]at hks hkp hpf;have hkt:=congrArg List.length hks.1.1.toks;have hkp:=hkp.1;have h1:=hn1.le;exact⟨hk.1,by have:=hk.2.1;omega,by omega,by omega,hpf⟩
  refine⟨?_,?_,?_,?_,?_,?_⟩
  ·refine kd h6 λu s7 eu w7 h7 he7=>?_;have L1:=L1.eff he7;have L4:=L4.eff he7;have he7':=he6.trans he7;refine⟨ld4 L4,ld1 L1,str u.t,rfl,ld4 L4,ld1 L1,?_⟩;refine mF λr w8 hr hz8 hrb hx8=>?_;refine⟨ld4 (L4.ext hx8),ld1 (L1.ext hx8),?_⟩;simp only[dP,dW,eP,dN,aB,aK,aM,aQ,Nat.reduceAdd,Nat.reduceLT,dJ,aY];obtain⟨d1,d2,d3,d4,d5⟩:=done eu;exact fin (e:=⟨10,u.t,[y],[],(cur s2).a⟩) (h7.ext hx8) d1 (he7'.x hx8) (L1.ext hx8) ((h7.row_new (l:=[y]) hr hz8 hrb (by simp)).le (by have:=he7.chg.size;omega)) rfl d2 d3 d4 d5
  ·exact ld4 L4
  ·exact ld1 L1
  ·exact ld1 L1
  ·refine kd h6 λu s7 eu w7 h7 he7=>?_;have L1:=L1.eff he7;have L4:=L4.eff he7;have he7':=he6.trans he7;refine⟨ld4 L4,ld1 L1,str u.t,rfl,?_⟩;refine mF λr w8 hr hz8 hrb hx8=>?_;refine⟨ld4 (L4.ext hx8),ld1 (L1.ext hx8),?_⟩;simp only[dP,dW,eP,dN,aB,aK,aM,aQ,Nat.reduceAdd,Nat.reduceLT,dJ,aY];obtain⟨d1,d2,d3,d4,d5⟩:=done eu;exact fin (e:=⟨10,u.t,[y],[],(cur s2).a⟩) (h7.ext hx8) d1 (he7'.x hx8) (L1.ext hx8) ((h7.row_new (l:=[y]) hr hz8 hrb (by simp)).le (by have:=he7.chg.size;omega)) rfl d2 d3 d4 d5
  ·refine mF λr w8 hr hz8 hrb hx8=>?_;have L1:=L1.ext hx8;have L4:=L4.ext hx8;have rw8:=h6.row_new (l:=[y]) hr hz8 hrb (by simp);refine⟨ld4 L4,ld1 L1,ld1 L1,?_⟩;refine kd (h6.ext hx8) λu s7 eu w7 h7 he7=>?_;have L1:=L1.eff he7;have L4:=L4.eff he7;refine⟨ld4 L4,ld1 L1,str u.t,rfl,?_⟩;simp only[dP,dW,eP,dN,aB,aK,aM,aQ,Nat.reduceAdd,Nat.reduceLT,dJ,aY];obtain⟨d1,d2,d3,d4,d5⟩:=done eu;exact fin (e:=⟨10,u.t,[y],[],(cur s2).a⟩) h7 d1 ((he6.x hx8).trans he7) L1 ((rw8.eff he7).le (by omega)) rfl d2 d3 d4 d5
 ·have hn':(cS (bM s2) [46]).1=false:=by simpa using hn'
  rw[aL (by rw[hn'];decide)]at hpf;have e6:(cS (bM s2) [46]).2=bM s2:=by
   unfold cS at hn'⊢;split
   ·rename_i hi;rw[aU hi]at hn';cases hn'
   ·exact kN s2
  rw[e6]at h6;refine L1.ld rfl ?_;refine AR h6 hgn λw7 h7 he7=>?_;rw[kN]at h7;have L1:=L1.eff he7;have L4:=L4.eff he7;have he7:=he6.trans he7;simp only[kZ]at hpf⊢;rw[eJ];refine⟨λhi=>?_,λhi=>?_⟩
  ·rw[aU hi]at hpf;have hw7:=he7.chg.size;have lt1:=L1.lt;have lt4:=L4.lt;refine cK λb5 w8 hb5 hz8 hbb8 hx8=>?_;have h8:=h7.ext hx8;have L5:=h7.loc hz8 hb5 hbb8;have L1:=L1.ext hx8;have L4:=L4.ext hx8;refine cK λb6 w9 hb6 hz9 hbb9 hx9=>?_;have h9:=h8.ext hx9;have L6:=h8.loc hz9 hb6 hbb9;have L1:=L1.ext hx9;have L4:=L4.ext hx9;have L5:=L5.ext hx9;refine L5.st rfl (by simp) λw10 L5 hc10 hz10=>?_;have h10:=h9.one hc10 L5.2;have L1:=L1.one hc10 (by omega);have L4:=L4.one hc10 (by omega);have L6:=L6.one hc10 (by omega);refine L6.st rfl (by simp) λw11 L6 hc11 hz11=>?_;have h11:=h10.one hc11 L6.2;have L1:=L1.one hc11 (by omega);have L4:=L4.one hc11 (by omega);have L5:=L5.one hc11 (by omega);have he11:=(((he7.x hx8).x hx9).one hc10 (by omega)).one hc11 (by omega);refine L1.ld rfl ?_;refine L4.ldf rfl ?_;have hlev:=hgn.lev;refine qP h11 (by omega) (λhd=>ht 7 _ (by rw[<-hpf,tQ hd];rfl)) λhd w12 h12 he12=>?_;obtain⟨d,rfl⟩:∃d,dl=d+1:=⟨dl-1,by omega⟩;rw[xB hd]at hpf;obtain⟨q1,q2,q3,q4⟩:=hg2.sign hi true;have L1:=L1.eff he12;have L4:=L4.eff he12;have L5:=L5.eff he12;have L6:=L6.eff he12;have he12:=he11.trans he12;refine hY (caps:=[.pointer (some ⟨b1,0,none⟩),.pointer (some ⟨b6,0,none⟩),.pointer (some ⟨b5,0,none⟩)]) ?_;refine SQ ?_;unfold Zq;refine L1.ld rfl ?_;refine h12.go (wsi q1.ws q1.l) λw13 h13 he13 hz13=>?_;have L1:=L1.eff he13;have L4:=L4.eff he13;have L5:=L5.eff he13;have L6:=L6.eff he13;have he13:=he12.trans he13;generalize hq0:({bM s2 with deep:=(bM s2).deep+1,quiet:=true}:PS)=q0 at*
   have hq0':∀x:PS,x=(⟨(bM s2).toks,(bM s2).i,(bM s2).off,(bM s2).deep+1,true,(bM s2).ex,(bM s2).bl⟩:PS)->x=q0:=λx hx=>hx.trans hq0;have q0p:Syn.phi q0=Syn.phi (bM s2):=by rw[<-hq0];rfl
   have q0i:q0.i=(bM s2).i:=by rw[<-hq0]
   have q0t:q0.toks=(bM s2).toks:=by rw[<-hq0]
   have st0:=lY q1.ws q3;rw[q2]at st0;have sp0:=(qQ q3).2;rw[q2]at sp0;have q4l:=q4.lev;have n1le:=hn1.le;have tg5:=lX q4.ws [42];have tp5:=nA (step1 q0) [42];have g5:=q4.take [42];have tg5t:=congrArg List.length tg5.1.toks;have st0t:=congrArg List.length st0.1.toks;have q0tl:=congrArg List.length q0t;refine dE.cut (λ_ w'=>∃M6 o s6,(((if(cS (step1 q0) [42]).1=true then .ok none (cS (step1 q0) [42]).2 else(E (cS (step1 q0) [42]).2).bind λy q1=>.ok (some y) q1):R (Option Nat))=.ok o s6)/\PR w0 w' p f M6 vt s6 top/\Gd N s6 d/\Eff p f M M6 w w'/\Loc w0 w' p f M6 vt b1 PpT [.pointer (some ⟨p,0,none⟩)]/\Loc w0 w' p f M6 vt b4 TkT (jI (cur s2))/\Loc w0 w' p f M6 vt b6 4 [.bool o.isNone]/\Loc w0 w' p f M6 vt b5 jY [i64 ((o.getD 0:Nat):Int)]/\s6.i>=(step1 q0).i/\Syn.phi s6<=Syn.phi (step1 q0)/\s6.toks.length=s.toks.length) ?_ ?_
   ·refine L1.ld rfl ?_;refine uC h13 q4.ws hN q4.l λw14 h14 he14=>?_;have L1:=L1.eff he14;have L4:=L4.eff he14;have L5:=L5.eff he14;have L6:=L6.eff he14;have he14:=he13.trans he14;refine L6.st rfl (by simp) λw15 L6 hc15 hz15=>?_;have h15:=h14.one hc15 L6.2;have L1:=L1.one hc15 (by omega);have L4:=L4.one hc15 (by omega);have L5:=L5.one hc15 (by omega);have he15:=he14.one hc15 (by omega);refine L6.ld rfl ?_;rw[fH,eJ];refine⟨λhns=>?_,λhsp=>?_⟩
    ·have hns:(cS (step1 q0) [42]).1=false:=by simpa using hns
     rw[hns]at L6;refine L1.ld rfl ?_;refine hE d rfl w15 p M2 vt _ top N _ h15 g5 (λz s6 ez M6 w16 h16 he16=>?_) λc a' ez=>ht c a' ?_
     ·obtain⟨g6,i6⟩:=g5.e hF ez;have ep:=hF.z (cS (step1 q0) [42]).2;have eo:=hF.ok N _ g5.ws;rw[ez]at ep eo;have eot:=congrArg List.length eo.1.1.toks;have ep:Syn.phi s6<=Syn.phi (cS (step1 q0) [42]).2:=ep;have L1:=L1.eff he16;have L4:=L4.eff he16;have L5:=L5.eff he16;have L6:=L6.eff he16;refine L5.st rfl (by simp) λw17 L5 hc17 hz17=>?_;refine⟨M6,some z,s6,?_,h16.one hc17 L5.2,g6,(he15.trans he16).one hc17 (by omega),L1.one hc17 (by omega),L4.one hc17 (by omega),L6.one hc17 (by omega),L5,by have:=tg5.1.le;omega,by have:=tp5.1;omega,by omega⟩;rw[aL (by rw[hns];decide),ez];rfl
     ·rw[<-hpf];rw[aL (by rw[hns];decide),ez];rfl
    ·have hsp:(cS (step1 q0) [42]).1=true:=by simpa using hsp
     rw[hsp]at L6;exact⟨M2,none,_,by rw[aU hsp],h15,g5,he15,L1,L4,L6,L5,tg5.1.le,tp5.1,by omega⟩
   rintro _ g2 w14 ⟨M6,o,s6,eo,h14,g6,he14,L1,L4,L6,L5,i6,p6,t6⟩;have hpf2:((pK s6 [93]).bind λ_ q2=>.ok o q2)=(if(cS (step1 q0) [42]).1=true then(pK (cS (step1 q0) [42]).2 [93]).bind λ_ q2=>.ok none q2 else(E (cS (step1 q0) [42]).2).bind λy q1=>(pK q1 [93]).bind λ_ q2=>.ok (some y) q2):=by
    by_cases hsp:(cS (step1 q0) [42]).1=true
    ·rw[aU hsp]at eo⊢;injection eo with e1 e2
     subst e1 e2;rfl
    ·rw[aL hsp]at eo⊢;cases hez:E (cS (step1 q0) [42]).2 with
     |err c a=>rw[hez]at eo;cases eo
     |ok z s7=>
      rw[hez]at eo;simp only[R.bind]at eo;injection eo with e1 e2
      subst e1 e2;rfl
   rw[<-hpf2]at hpf;refine L1.ld rfl ?_;refine xC h14 g6.ws hN g6.l (λs7 e7 w15 h15 he15=>?_) λc a' e7=>ht c a' (by rw[<-hpf,e7];rfl);rw[e7]at hpf;simp only[R.bind]at hpf;obtain⟨g7,i7,_⟩:=g6.want e7;have w7:=mZ s6 [93];have w7s:=mO g6.ws [93];rw[e7]at w7 w7s;have w7:Syn.phi s7+1<=Syn.phi s6:=w7;have w7t:=congrArg List.length w7s.1.1.toks;have g7l:=g7.lev;have L1:=L1.eff he15;have L4:=L4.eff he15;have L5:=L5.eff he15;have L6:=L6.eff he15;have he15:=he14.trans he15;refine⟨M6,s7,h15,by omega,λw16 h16 he16=>?_⟩;have L1:=L1.eff he16;have L4:=L4.eff he16;have L5:=L5.eff he16;have L6:=L6.eff he16;have he16:=he15.trans he16;have g8:Gd N {s7 with deep:=(bM s2).deep,quiet:=(bM s2).quiet} (d+1):=hgn.back g7;have st1i:(step1 q0).i=(bM s2).i+1:=by show q0.i+1=_;rw[q0i]
   refine L6.ld rfl ?_;rw[fH,eJ];cases o with
   |some z=>
    refine⟨λ_=>?_,λe=>by cases e⟩;simp only at hpf;refine L1.ld rfl ?_;refine L5.ld rfl ?_;have hz1':w1.heap.size<=w16.heap.size:=by have:=L1.lt;omega
    refine Iw λr w17 hr hz17 hrb hx17=>?_;refine(L4.ext hx17).ldf rfl ?_;simp only[dP,dW,eP,dN,aB,aK,aM,aQ,Nat.reduceAdd,Nat.reduceLT,dJ,aY];refine fin (e:=⟨11,[],[y,z],[],(cur s2).a⟩) (h16.ext hx17) g8 (he16.x hx17) (L1.ext hx17) ((h16.row_new (l:=[y,z]) hr hz17 hrb (by simp)).le hz1') rfl ?_ ?_ ?_ hpf
    ·show s2.i<s7.i;omega
    ·show Syn.phi s7+1<=_;omega
    ·show s7.toks.length=_;omega
   |none=>
    refine⟨λe=>(by cases e),λ_=>?_⟩;simp only at hpf;refine L1.ld rfl ?_;refine xC h16 g8.ws hN g8.l (λs9 e9 w17 h17 he17=>?_) λc a' e9=>ht c a' (by rw[<-hpf,e9]);rw[e9]at hpf;simp only[R.bind]at hpf;obtain⟨g9,i9,_⟩:=g8.want e9;generalize hs8:({s7 with deep:=(bM s2).deep,quiet:=(bM s2).quiet}:PS)=s8 at*
    have s8p:Syn.phi s8=Syn.phi s7:=by rw[<-hs8];rfl
    have s8i:s8.i=s7.i:=by rw[<-hs8]
    have s8t:s8.toks=s7.toks:=by rw[<-hs8]
    have s8t:=congrArg List.length s8t;have w9:=mZ s8 [46];have w9s:=mO g8.ws [46];rw[e9]at w9 w9s;have w9:Syn.phi s9+1<=Syn.phi s8:=w9;have w9t:=congrArg List.length w9s.1.1.toks;have L1:=(L1.eff he17).drew;have L4:=(L4.eff he17).drew;have h17:=h17.drew;have he17':=(he16.trans he17).x (cQ w17);have hz1':w1.heap.size<=w17.drew.heap.size:=by have:=L1.lt;omega
    have ld1:∀{w':World} {M':Lay},Loc w0 w' p f M' vt b1 PpT [.pointer (some ⟨p,0,none⟩)]->ldW false 1 (.pointer (some ⟨b1,0,none⟩)) w' λx=>x=.pointer (some ⟨p,0,none⟩):=λL=>L.ld rfl rfl;have ld4:∀{w':World} {M':Lay},Loc w0 w' p f M' vt b4 TkT (jI (cur s2))->ldW false 1 (.pointer (some ⟨b4,2,none⟩)) w' λx=>x=i64 (cur s2).a:=λL=>L.ld rfl rfl;refine L1.ld rfl ?_;refine L1.ld rfl ?_;rw[bE,bL,aI];refine L4.ld rfl ?_;have kd:∀{w':World} {KK:Q0},PR w0 w' p f M6 vt s9 top->(∀u s7,nC s9 1=.ok u s7->∀w'',PR w0 w'' p f M6 vt s7 top->Eff p f M6 M6 w' w''->KK (.agg (jI u).toArray) w'')->aJ P0 62 [.pointer (some ⟨p,0,none⟩),.int .i64 1] w' KK:=λ{w' KK} h hKK=>
     xQ h g9.ws hN g9.l hKK λc a' eu=>ht c a' (by rw[<-hpf,eu])
    have done:∀{u:Tok} {sa:PS},nC s9 1=.ok u sa->Gd N sa (d+1)/\s2.i<sa.i/\Syn.phi sa+1<=Syn.phi s2/\sa.toks.length=s.toks.length/\((rX sa ⟨30,u.t,[y],[],(cur s2).a⟩).bind λy s3=>rC E n s3 y)=R0:=λ{u sa} eu=>by
     have hk:=g9.kind (by decide) eu;have hks:=nT g9.ws 1 (by decide);have hkp:=pX s9 1;rw[eu]at hks hkp hpf;have hkt:=congrArg List.length hks.1.1.toks;have hkp:=hkp.1;exact⟨hk.1,by have:=hk.2.1;omega,by omega,by omega,hpf⟩
    refine⟨?_,?_,?_,?_,?_,?_⟩
    ·refine kd h17 λu sa eu wa ha hea=>?_;have L1:=L1.eff hea;have L4:=L4.eff hea;refine⟨ld4 L4,ld1 L1,str u.t,rfl,ld4 L4,ld1 L1,?_⟩;refine mF λr wb hr hzb hrb hxb=>?_;refine⟨ld4 (L4.ext hxb),ld1 (L1.ext hxb),?_⟩;simp only[dP,dW,eP,dN,aB,aK,aM,aQ,Nat.reduceAdd,Nat.reduceLT,dJ,aY];obtain⟨d1,d2,d3,d4,d5⟩:=done eu;exact fin (e:=⟨30,u.t,[y],[],(cur s2).a⟩) (ha.ext hxb) d1 ((he17'.trans hea).x hxb) (L1.ext hxb) ((ha.row_new (l:=[y]) hr hzb hrb (by simp)).le (by have:=hea.chg.size;omega)) rfl d2 d3 d4 d5
    ·exact ld4 L4
    ·exact ld1 L1
    ·exact ld1 L1
    ·refine kd h17 λu sa eu wa ha hea=>?_;have L1:=L1.eff hea;have L4:=L4.eff hea;refine⟨ld4 L4,ld1 L1,str u.t,rfl,?_⟩;refine mF λr wb hr hzb hrb hxb=>?_;refine⟨ld4 (L4.ext hxb),ld1 (L1.ext hxb),?_⟩;simp only[dP,dW,eP,dN,aB,aK,aM,aQ,Nat.reduceAdd,Nat.reduceLT,dJ,aY];obtain⟨d1,d2,d3,d4,d5⟩:=done eu;exact fin (e:=⟨30,u.t,[y],[],(cur s2).a⟩) (ha.ext hxb) d1 ((he17'.trans hea).x hxb) (L1.ext hxb) ((ha.row_new (l:=[y]) hr hzb hrb (by simp)).le (by have:=hea.chg.size;omega)) rfl d2 d3 d4 d5
    ·refine mF λr wb hr hzb hrb hxb=>?_;have L1:=L1.ext hxb;have L4:=L4.ext hxb;have rwb:=h17.row_new (l:=[y]) hr hzb hrb (by simp);refine⟨ld4 L4,ld1 L1,ld1 L1,?_⟩;refine kd (h17.ext hxb) λu sa eu wa ha hea=>?_;have L1:=L1.eff hea;have L4:=L4.eff hea;refine⟨ld4 L4,ld1 L1,str u.t,rfl,?_⟩;simp only[dP,dW,eP,dN,aB,aK,aM,aQ,Nat.reduceAdd,Nat.reduceLT,dJ,aY];obtain⟨d1,d2,d3,d4,d5⟩:=done eu;exact fin (e:=⟨30,u.t,[y],[],(cur s2).a⟩) ha d1 ((he17'.x hxb).trans hea) L1 ((rwb.eff hea).le (by omega)) rfl d2 d3 d4 d5
  ·have hi:isS s2 [91]=false:=by simpa using hi
   rw[aL (by rw[hi];decide)]at hpf;exact hK y _ hpf.symm M2 w7 h7 he7
end
section
variable [HX]
variable{w0 w w' w1:World}{p f b:Nat}{M M' M0:Lay}{vt:Value}{s:PS}{top:List Nat}{N:Int}{K:Q0}{e:Ex}{va vk:Value}{wbn:Nat}{wb:World}{dl:Nat}
theorem IP{E S:PS->R Nat}(hS:yH w0 f)(hE:∀d,dl=d+1->EC w0 f 118 E d)(hG:∀d,dl=d+1->EC w0 f 203 S d)(hF:sO E)(hFS:sO S):EC w0 f 203 (wP E S) dl:=by
 intro w p M vt s top N K h hg hK ht;refine Tf ?_;unfold ZA;have hN:=hg.hN;refine vF rfl λb1 w1 hb1 hz1 hbb1 hx1=>?_;have h1:=h.ext hx1;have L1:=h.loc hz1 hb1 hbb1;refine L1.ld rfl ?_;refine pL h1 hg.ws hN hg.l λw2 h2 he2=>?_;have L1:=L1.eff he2;have he2:=(Eff.ext hx1).trans he2;have lt1:=L1.lt;have hgn:=hg.now;refine cK λb3 w3 hb3 hz3 hbb3 hx3=>?_;have h3:=h2.ext hx3;have L3:=h2.loc hz3 hb3 hbb3;have L1:=L1.ext hx3;refine cY (l:=jI (cur s)) L3.1 rfl rfl rfl λw4 hz4 hbb4 hc4=>?_;have L3:Loc w0 w4 p f M vt b3 TkT (jI (cur s)):=⟨hbb4,L3.2.up (by omega)⟩;have h4:=h3.one hc4 L3.2;have L1:=L1.one hc4 (by omega);have hw2:=he2.chg.size;have he4:=(he2.x hx3).one hc4 (by omega);refine dE.cut (λst w'=>∃(k:Int) (x:Str),st=[i64 k]/\isS s x=true/\wP E S s=((within (bM s) (cur s).a (bM s).quiet λq=>S (step1 q)).bind λx s2=>rX s2 ⟨k,[],[x],[],(cur s).a⟩)/\PR w0 w' p f M vt (bM s) top/\Eff p f M M w w'/\Loc w0 w' p f M vt b1 PpT [.pointer (some ⟨p,0,none⟩)]/\Loc w0 w' p f M vt b3 TkT (jI (cur s))) ?_ ?_
 ·unfold wP at hK ht⊢;simp only[kZ]at hK ht⊢;refine L1.ld rfl ?_;refine AR h4 hgn λw5 h5 he5=>?_;rw[kN]at h5;have L1:=L1.eff he5;have L3:=L3.eff he5;have he5:=he4.trans he5;rw[kZ,eJ];refine⟨λhi=>⟨14,[33],rfl,hi,by rw[aU hi],h5,he5,L1,L3⟩,λhi=>?_⟩;rw[aL (by rw[hi];decide)]at hK ht⊢;refine L1.ld rfl ?_;refine AR h5 hgn λw6 h6 he6=>?_;rw[kN]at h6;have L1:=L1.eff he6;have L3:=L3.eff he6;have he6:=he5.trans he6;rw[kZ,eJ];refine⟨λhi=>⟨13,[45],rfl,hi,by rw[aU hi],h6,he6,L1,L3⟩,λhi=>?_⟩;rw[aL (by rw[hi];decide)]at hK ht;refine L1.ld rfl ?_;exact Vv hS hE hF w6 p M vt _ top N _ h6 hgn (λx s' ex M' w7 h7 he7=>hK x s' ex M' w7 h7 (he6.trans he7)) ht
 rintro st g w5 ⟨k,x,rfl,hi,es,h5,he5,L1,L3⟩;rw[es]at hK ht;simp only[aC];have hw5:=he5.chg.size;have lt1:=L1.lt;have lt3:=L3.lt;refine cK λb5 w6 hb5 hz6 hbb6 hx6=>?_;have h6:=h5.ext hx6;have L5:=h5.loc hz6 hb5 hbb6;have L1:=L1.ext hx6;have L3:=L3.ext hx6;refine L5.st rfl (by simp) λw7 L5 hc7 hz7=>?_;have h7:=(h6.one hc7 L5.2).drew;have L1:=(L1.one hc7 (by omega)).drew;have L3:=(L3.one hc7 (by omega)).drew;have L5:=L5.drew;have he7:=((he5.x hx6).one hc7 (by omega)).x (cQ w7);refine L1.ld rfl ?_;rw[bE,bL,aI];refine L3.ld rfl ?_;refine L1.ld rfl ?_;refine h7.ld rfl ?_;have hlev:=hgn.lev;refine qP h7 (by omega) (λhd=>ht 7 _ (by rw[tQ hd];rfl)) λhd w8 h8 he8=>?_;obtain⟨d,rfl⟩:∃d,dl=d+1:=⟨dl-1,by omega⟩;rw[xB hd]at hK ht;obtain⟨q1,q2,q3,q4⟩:=hg.sign hi (bM s).quiet;have L1:=L1.eff he8;have L3:=L3.eff he8;have L5:=L5.eff he8;have he8:=he7.trans he8;refine hY (caps:=[.pointer (some ⟨b1,0,none⟩),.pointer (some ⟨b5,0,none⟩)]) ?_;refine SU ?_;unfold Zt;refine L1.ld rfl ?_;refine h8.go (wsi q1.ws q1.l) λw9 h9 he9 hz9=>?_;have L1:=L1.eff he9;have L3:=L3.eff he9;have L5:=L5.eff he9;have he9:=he8.trans he9;refine L1.ld rfl ?_;refine hG d rfl w9 p M vt _ top N _ h9 q4 (λy s' ey M' w10 h10 he10=>?_) λc a' ey=>ht c a' (by rw[ey];rfl);obtain⟨g10,_⟩:=q4.e hFS ey;have pz:=hFS.z (step1 {bM s with deep:=(bM s).deep+1,quiet:=(bM s).quiet});rw[ey]at hK pz;have pz:Syn.phi s'<=Syn.phi (step1 (⟨(bM s).toks,(bM s).i,(bM s).off,(bM s).deep+1,(bM s).quiet,(bM s).ex,(bM s).bl⟩:PS)):=pz;have ps:=(qQ q3).2;rw[q2]at ps;have pn:=mG s;have pe:Syn.phi (⟨(bM s).toks,(bM s).i,(bM s).off,(bM s).deep+1,(bM s).quiet,(bM s).ex,(bM s).bl⟩:PS)=Syn.phi (bM s):=rfl;simp only[R.bind]at hK;have L1:=L1.eff he10;have L3:=L3.eff he10;have L5:=L5.eff he10;have he10:=he9.trans he10;refine L5.st rfl (by simp) λw11 L5 hc11 hz11=>?_;have h11:=h10.one hc11 L5.2;have L1:=L1.one hc11 (by omega);have L3:=L3.one hc11 (by omega);have he11:=he10.one hc11 (by omega);have g10l:=g10.lev;refine⟨M',s',h11,by omega,λw12 h12 he12=>?_⟩;have L1:=L1.eff he12;have L3:=L3.eff he12;have L5:=L5.eff he12;have he12:=he11.trans he12;refine L1.ld rfl ?_;refine L5.ld rfl ?_;refine mF λr w13 hr hz13 hrb hx13=>?_;refine(L3.ext hx13).ldf rfl ?_;simp only[dP,dW,eP,dN,aB,aK,aM,aQ,Nat.reduceAdd,Nat.reduceLT,dJ,aY];have hg12:=hgn.back (q:=(bM s).quiet) g10;refine Hs (e:=⟨k,[],[y],[],(cur s).a⟩) (h12.ext hx13) (he12.x hx13) (ER.noK rfl ((h12.row_new (l:=[y]) hr hz13 hrb (by simp)).le he12.chg.size)) hg12 λM2 w14 h14 he14 _=>?_;exact hK _ _ rfl M2 w14 h14 he14
theorem Do{E S:PS->R Nat}(hS:yH w0 f)(hE:∀d,dl=d+1->EC w0 f 118 E d)(hG:∀d,dl=d+1->EC w0 f 203 S d)(hF:sO E)(hFS:sO S):∀(m:Nat),m<=6->∀(w:World) (p:Nat) (M:Lay) (vt:Value) (s:PS) (top:List Nat) (N:Int) (K:Q0),PR w0 w p f M vt s top->Gd N s dl->
  (∀x s',rZ E S m s=.ok x s'->∀M' w',PR w0 w' p f M' vt s' top->Eff p f M M' w w'->K (i64 (x:Nat)) w')->(∀c a,rZ E S m s=.err c a->Thr w0 f c a)->aJ P0 155 [.pointer (some ⟨p,0,none⟩),i64 ((6-m:Nat):Int)] w K
 |0,_,w,p,M,vt,s,top,N,K,h,hg,hK,ht=>by
  refine KS ?_
  unfold Yc
  rw[cL,bD]
  refine⟨λ_=>?_,λe=>absurd rfl e⟩
  exact IP hS hE hG hF hFS w p M vt s top N _ h hg hK ht
 |m+1,hm,w,p,M,vt,s,top,N,K,h,hg,hK,ht=>by
  refine KS ?_
  unfold Yc
  have hN:=hg.hN
  have hJ:sO (rZ E S m):=⟨λN=>uW (hF.ok N) (hFS.ok N) m,uT hF.z hFS.z m⟩
  simp only[rZ]at hK ht
  rw[cL,bD]
  refine⟨λe=>by omega,λ_=>?_⟩
  have up:∀{KK:Value->Prop},KK (i64 ((6-m:Nat):Int))->aS .add (i64 ((6-(m+1):Nat):Int)) (.int .i64 1) KK:=λh=>by
   rw[cJ,gI (by omega) (by omega),show((6-(m+1):Nat):Int)+1=((6-m:Nat):Int)by omega];exact h
  refine up ?_
  refine Do hS hE hG hF hFS m (by omega) w p M vt s top N _ h hg (λx s1 ex M1 w2 h2 he2=>?_) λc a' ex=>ht c a' (by rw[ex];rfl)
  rw[ex]at hK ht
  simp only[R.bind]at hK ht
  obtain⟨hg1,hi1⟩:=hg.e hJ ex
  have etl:=(hJ.ok N) s hg.ws
  rw[ex]at etl
  have etl:=congrArg List.length etl.1.1.toks
  generalize hR:wQ (rZ E S m) (5-m) (s.toks.length+1) s1 x=R0 at hK ht
  refine dL.go (λst w'=>∃s1 M1 x n,st=[i64 ((x:Nat):Int)]/\PR w0 w' p f M1 vt s1 top/\Gd N s1 dl/\Eff p f M M1 w w'/\wQ (rZ E S m) (5-m) n s1 x=R0/\s1.toks.length<n+s1.i/\s1.toks.length=s.toks.length) (λ_ w'=>s.toks.length-zY w' p)
   ⟨s1,M1,x,s.toks.length+1,rfl,h2,hg1,he2,hR,by have:=hg1.ws.lt;omega,etl⟩ ?_
  clear he2 h2 ex hg1 hi1 etl hR
  rintro st g w2 ⟨s2,M2,y,n,rfl,h2,hg2,he2,hpf,hn,htl⟩
  simp only[aC]
  have hlt2:=hg2.ws.lt
  obtain⟨n,rfl⟩:∃m,n=m+1:=⟨n-1,by omega⟩
  simp only[wQ]at hpf
  refine pL h2 hg2.ws hN hg2.l λw3 h3 he3=>?_
  have he3:=he2.trans he3
  have hw3:=he3.chg.size
  have hgn:=hg2.now
  refine cK λb6 w4 hb6 hz4 hbb4 hx4=>?_
  have h4:=h3.ext hx4
  have L6:=h3.loc hz4 hb6 hbb4
  refine cY (l:=jI (cur s2)) L6.1 rfl rfl rfl λw5 hz5 hbb5 hc5=>?_
  have L6:Loc w0 w5 p f M2 vt b6 TkT (jI (cur s2)):=⟨hbb5,L6.2.up (by omega)⟩
  have h5:=h4.one hc5 L6.2
  have he5:=(he3.x hx4).one hc5 (by omega)
  refine gF L6.1 rfl ?_
  refine Rz (by omega) λw6 hx6=>?_
  have h6:=h5.ext hx6
  have L6:=L6.ext hx6
  have he6:=he5.x hx6
  have en:(6-(m+1):Nat)=5-m:=by omega
  rw[en,cL,bD]
  refine⟨λh0=>?_,λh0=>?_⟩
  ·rw[aU h0]at hpf
   exact hK y _ hpf.symm M2 w6 h6 he6
  ·rw[aL h0]at hpf
   have hk0:(cur s2).k≠0:=λe=>h0 (by unfold rO;rw[e];rfl)
   have hgs:=hg2.step hk0
   have sg:=lY hg2.ws hk0
   have sp:=(qQ hk0).2
   refine h6.go (wsi hgn.ws hgn.l) λw7 h7 he7 hz7=>?_
   have L6:=L6.eff he7
   have he7:=he6.trans he7
   have up2:∀{KK:Value->Prop},KK (i64 ((6-m:Nat):Int))->aS .add (i64 ((5-m:Nat):Int)) (.int .i64 1) KK:=λh=>by
    rw[<-en];exact up h
   refine up2 ?_
   refine Do hS hE hG hF hFS m (by omega) w7 p M2 vt _ top N _ h7 hgs (λz s3 ez M3 w8 h8 he8=>?_) λc a' ez=>ht c a' (by rw[<-hpf,ez];rfl)
   obtain⟨g8,i8⟩:=hgs.e hJ ez
   have pz:=hJ.z (step1 (bM s2))
   have oz:=hJ.ok N _ hgs.ws
   rw[ez]at hpf pz oz
   have pz:Syn.phi s3<=Syn.phi (step1 (bM s2)):=pz
   have tz:=congrArg List.length oz.1.1.toks
   have tz2:=congrArg List.length sg.1.toks
   simp only[R.bind]at hpf
   have L6:=L6.eff he8
   have he8:=he7.trans he8
   have hw8:=he8.chg.size
   refine Iw λr w9 hr hz9 hrb hx9=>?_
   refine(L6.ext hx9).ldf rfl ?_
   simp only[dP,dW,eP,dN,aB,aK,aM,aQ,Nat.reduceAdd,Nat.reduceLT,dJ,aY]
   refine Hs (e:=⟨rO (cur s2) (5-m),[],[y,z],[],(cur s2).a⟩) (h8.ext hx9) (he8.x hx9) (ER.noK rfl ((h8.row_new (l:=[y,z]) hr hz9 hrb (by simp)).le hw8)) g8 λM4 w10 h10 he10 _=>?_
   have hlt8:=g8.ws.lt
   have hph:=hg2.phi
   refine⟨⟨_,M4,_,n,rfl,h10,g8.put (by omega),he10,hpf,by show s3.toks.length<n+s3.i;omega,by show s3.toks.length=_;omega⟩,?_⟩
   rw[h10.at_,h2.at_]
   show s.toks.length-s3.i<_
   have:=sg.2
   omega
end
theorem MG(s:PS)(w:Str):cS (bM s) w=cS s w:=by unfold cS;rw[kZ,kN]
section
variable [HX]
variable{w0 w w' w1:World}{p f b:Nat}{M M' M0:Lay}{vt:Value}{s:PS}{top:List Nat}{N:Int}{K:Q0}{e:Ex}{va vk:Value}{wbn:Nat}{wb:World}{dl:Nat}
theorem Od{E S:PS->R Nat}(hS:yH w0 f)(hE:∀d,dl=d+1->EC w0 f 118 E d)(hG:∀d,dl=d+1->EC w0 f 203 S d)(hF:sO E)(hFS:sO S):EC w0 f 118 (zT E S) dl:=by
 intro w p M vt s top N K h hg hK ht;refine Uj ?_;unfold aAv;have hN:=hg.hN;have hJ:sO (rZ E S 6):=⟨λN=>uW (hF.ok N) (hFS.ok N) 6,uT hF.z hFS.z 6⟩;refine vF rfl λb1 w1 hb1 hz1 hbb1 hx1=>?_;have h1:=h.ext hx1;have L1:=h.loc hz1 hb1 hbb1;refine L1.ld rfl ?_;unfold zT at hK ht;refine Do hS hE hG hF hFS 6 (aZ _) w1 p M vt s top N _ h1 hg (λa s1 ea M1 w2 h2 he2=>?_) λc a' ea=>ht c a' (by rw[ea];rfl);rw[ea]at hK ht;simp only[R.bind]at hK ht;obtain⟨hg1,hi1⟩:=hg.e hJ ea;have L1:=L1.eff he2;have he2:=(Eff.ext hx1).trans he2;refine L1.ld rfl ?_;refine pL h2 hg1.ws hN hg1.l λw3 h3 he3=>?_;have L1:=L1.eff he3;have he3:=he2.trans he3;have lt1:=L1.lt;have hw3:=he3.chg.size;have hgn:=hg1.now;refine cK λb4 w4 hb4 hz4 hbb4 hx4=>?_;have h4:=h3.ext hx4;have L4:=h3.loc hz4 hb4 hbb4;have L1:=L1.ext hx4;refine cY (l:=jI (cur s1)) L4.1 rfl rfl rfl λw5 hz5 hbb5 hc5=>?_;have L4:Loc w0 w5 p f M1 vt b4 TkT (jI (cur s1)):=⟨hbb5,L4.2.up (by omega)⟩;have h5:=h4.one hc5 L4.2;have L1:=L1.one hc5 (by omega);have he5:=(he3.x hx4).one hc5 (by omega);refine L1.ld rfl ?_;refine uC h5 hgn.ws hN hgn.l λw6 h6 he6=>?_;rw[MG]at h6⊢;have L1:=L1.eff he6;have L4:=L4.eff he6;have he6:=he5.trans he6;rw[fH,eJ];refine⟨λhn=>?_,λhy=>?_⟩
 ·have hn:(cS s1 [63]).1=false:=by simpa using hn
  rw[aL (by rw[hn];decide)]at hK;exact hK a _ rfl M1 w6 h6 he6
 have hy:(cS s1 [63]).1=true:=by simpa using hy
 rw[aU hy]at hK ht;have hgt:=hg1.take [63];have tp:=(nA s1 [63]).2 hy;generalize hs2:(cS s1 [63]).2=s2 at*
 have lt1:=L1.lt;have lt4:=L4.lt;have hw6:=he6.chg.size;refine Oo λr w7 hr hz7 hrb hx7=>?_;have h7:=h6.ext hx7;have Lr:=h6.loc hz7 hr hrb;have L1:=L1.ext hx7;have L4:=L4.ext hx7;refine cK λb5 w8 hb5 hz8 hbb8 hx8=>?_;have h8:=h7.ext hx8;have L5:=h7.loc hz8 hb5 hbb8;have L1:=L1.ext hx8;have L4:=L4.ext hx8;have Lr:=Lr.ext hx8;refine L5.st rfl (by simp) λw9 L5 hc9 hz9=>?_;have h9:=(h8.one hc9 L5.2).drew;have L1:=(L1.one hc9 (by omega)).drew;have L4:=(L4.one hc9 (by omega)).drew;have Lr:=(Lr.one hc9 (by omega)).drew;have L5:=L5.drew;have he9:=(((he6.x hx7).x hx8).one hc9 (by omega)).x (cQ w9);refine L1.ld rfl ?_;rw[bE,bL,aI];refine L4.ld rfl ?_;refine L1.ld rfl ?_;refine h9.ld rfl ?_;have hlev:=hgt.lev;refine qP h9 (by omega) (λhd=>ht 7 _ (by rw[tQ hd])) λhd w10 h10 he10=>?_;obtain⟨d,rfl⟩:∃d,dl=d+1:=⟨dl-1,by omega⟩;rw[xB hd]at hK ht;have q1:=hgt.frame s2.quiet;have L1:=L1.eff he10;have L4:=L4.eff he10;have Lr:=Lr.eff he10;have L5:=L5.eff he10;have he10:=he9.trans he10;refine hY (caps:=[.pointer (some ⟨b1,0,none⟩),.pointer (some ⟨b5,0,none⟩)]) ?_;refine TI ?_;unfold ZZ;have L1:=L1.drew;have L4:=L4.drew;have Lr:=Lr.drew;have L5:=L5.drew;have h10:=h10.drew;have he10:=he10.x (cQ w10);refine L5.ld rfl ?_;refine L1.ld rfl ?_;refine hE d rfl w10.drew p M1 vt _ top N _ h10 q1 (λx s3 ex M3 w11 h11 he11=>?_) λc a' ex=>ht c a' (by rw[ex];rfl);obtain⟨g3,_⟩:=q1.e hF ex;have px:=hF.z {s2 with deep:=s2.deep+1,quiet:=s2.quiet};rw[ex]at hK ht px;have px:Syn.phi s3<=Syn.phi s2:=px;simp only[R.bind]at hK ht;have L1:=L1.eff he11;have L4:=L4.eff he11;have Lr:=Lr.eff he11;have L5:=L5.eff he11;have he11:=he10.trans he11;refine⟨L5.ld rfl rfl,?_⟩;rw[eY];refine⟨by omega,by omega,?_⟩;rw[bL,aI];refine Lr.st (off:=1) rfl (by simp) λw12 Lr hc12 hz12=>?_;have h12:=h11.one hc12 Lr.2;have L1:=L1.one hc12 (by omega);have L4:=L4.one hc12 (by omega);have L5:=L5.one hc12 (by omega);have he12:=he11.one hc12 (by omega);refine L1.ld rfl ?_;refine xC h12 g3.ws hN g3.l (λs4 e4 w13 h13 he13=>?_) λc a' e4=>ht c a' (by rw[e4]);have pw:=mZ s3 [58];rw[e4]at hK ht pw;have pw:Syn.phi s4+1<=Syn.phi s3:=pw;simp only at hK ht;obtain⟨g4,_⟩:=g3.want e4;have L1:=(L1.eff he13).drew;have L4:=(L4.eff he13).drew;have Lr:=(Lr.eff he13).drew;have L5:=(L5.eff he13).drew;have h13:=h13.drew;have he13:=(he12.trans he13).x (cQ w13);refine L5.ld rfl ?_;refine L1.ld rfl ?_;refine hE d rfl w13.drew p M3 vt _ top N _ h13 g4 (λy s5 ey M5 w14 h14 he14=>?_) λc a' ey=>ht c a' (by rw[ey]);obtain⟨g5,_⟩:=g4.e hF ey;have py:=hF.z s4;rw[ey]at hK py;have py:Syn.phi s5<=Syn.phi s4:=py;simp only at hK;have L1:=L1.eff he14;have L4:=L4.eff he14;have Lr:=Lr.eff he14;have L5:=L5.eff he14;have he14:=he13.trans he14;refine⟨L5.ld rfl rfl,?_⟩;rw[eY];refine⟨by omega,by omega,?_⟩;rw[bL,aI];refine Lr.st (off:=2) rfl (by simp) λw15 Lr hc15 hz15=>?_;have h15:=h14.one hc15 Lr.2;have L1:=L1.one hc15 (by omega);have L4:=L4.one hc15 (by omega);have L5:=L5.one hc15 (by omega);have he15:=he14.one hc15 (by omega);have g5l:=g5.lev;refine⟨M5,s5,h15,by omega,λw16 h16 he16=>?_⟩;have L1:=L1.eff he16;have L4:=L4.eff he16;have Lr:=Lr.eff he16;have L5:=L5.eff he16;have he16:=he15.trans he16;refine L1.ld rfl ?_;refine L5.ld rfl ?_;refine L4.ldf rfl ?_;simp only[dP,dW,eP,dN,aB,aK,aM,aQ,Nat.reduceAdd,Nat.reduceLT,dJ,aY];have g16:=hgt.back (q:=s2.quiet) g5;have hR:Ro w0 w16 p f M5 vt w.heap.size jY 1 (.slice (some ⟨r,0,none⟩) 3 3) 3 (ints [a,x,y]):=
  ⟨Nm (cs:=ints [a,x,y]) Lr.1 Lr.2.1.1 rfl (by omega),λk hk=>by simp only[Value.ownBlock,bA]at hk;subst hk;exact Lr.2,λk hk=>by simp only[Value.ownBlock,bA]at hk;omega⟩
 refine Hs (e:=⟨28,[],[a,x,y],[],(cur s1).a⟩) h16 he16 (ER.noK rfl hR) g16 λM6 w17 h17 he17 _=>?_;exact hK _ _ rfl M6 w17 h17 he17
theorem uY:sO dead:=⟨zB,xY⟩
theorem DD(d:Nat):sO (sB d).1/\sO (sB d).2:=⟨⟨λN=>(tM N d).1,(wE d).1⟩,⟨λN=>(tM N d).2,(wE d).2⟩⟩
theorem Ky(hS:yH w0 f):∀dl,EC w0 f 118 (sB dl).1 dl/\EC w0 f 203 (sB dl).2 dl
 |0=>⟨Od hS (λd e=>by omega) (λd e=>by omega) uY uY,IP hS (λd e=>by omega) (λd e=>by omega) uY uY⟩
 |d+1=>by
  have ih:=Ky hS d
  have hf:=DD d
  have hE:∀d',d+1=d'+1->EC w0 f 118 (sB d).1 d':=λd' e=>by
   have e:d'=d:=by omega
   subst e;exact ih.1
  have hG:∀d',d+1=d'+1->EC w0 f 203 (sB d).2 d':=λd' e=>by
   have e:d'=d:=by omega
   subst e;exact ih.2
  exact⟨Od hS hE hG hf.1 hf.2,IP hS hE hG hf.1 hf.2⟩
end
end
end Go.Proofs.YtjblfcfdeaagpaaGreatDoor
namespace Go.Syn
section
open Go Go.Eng Go.Lex
variable{w:World}{K:Q0}{cs:List Value}{G:Nat->Prop}{T:TypeId}{i:Nat}{n:Nat}{v:Value}{w':World}{P:Program}{c:UInt8}{S:Nat->Prop}
abbrev blL(bl:List Blk):List (List Nat):=bl.map (·.blocks)
abbrev zU(bl:List Blk):List Nat:=bl.flatMap λb=>b.attrs.map (·.e)
def Eg(us:List Atr):Prop:=∀a∈us,a.n≠[]
structure FI(s:PS)(pe pb:List Nat):Prop where
 ex:eU (exL s.ex) (zU s.bl++pe)
 bl:eU (blL s.bl) pb
 nm:∀b∈s.bl,Eg b.attrs
theorem FI.perm{s:PS}{pe pe' pb pb':List Nat}(h:FI s pe pb)(h1:pe.Perm pe')(h2:pb.Perm pb'):FI s pe' pb':=⟨h.ex.perm (h1.append_left _),h.bl.perm h2,h.nm⟩
theorem FI.same{s s':PS}{pe pb:List Nat}(h:FI s pe pb)(h1:s'.ex=s.ex)(h2:s'.bl=s.bl):FI s' pe pb:=⟨by rw[h1,h2];exact h.ex,by rw[h2];exact h.bl,by rw[h2];exact h.nm⟩
theorem FI.expr{s s':PS}{x:Nat}{pe pb:List Nat}(h:FI s pe pb)(h2:s'.bl=s.bl)(hf:∀roots,eU (exL s.ex) roots->eU (exL s'.ex) (x::roots)):FI s' (x::pe) pb:=
 ⟨by rw[h2];exact(hf _ h.ex).perm (mT).symm,by rw[h2];exact h.bl,by rw[h2];exact h.nm⟩
def BOk(N:Int)(B:PS->R Nat):Prop:=∀s,WS N s->Sat (B s) (λx s'=>Later N s s'/\∀pe pb,FI s pe pb->FI s' pe (x::pb)) (InN N)
section
variable{N:Int}{E B:PS->R Nat}
theorem Dn:∀(n:Nat) (s:PS) (ls:List Str),WS N s->Sat (qR n s ls) (λ_ s'=>Go1 N s s'/\s'.ex=s.ex/\s'.bl=s.bl) (InN N)
 |0,s,_,h=>⟨mN _,h.pN⟩
 |n+1,s,ls,h=>by
  have hc:=mA h
  have n1:=sU h
  simp only[qR]
  split
  ·refine(EM (n1.1.ws h) (t:=cur s) ⟨hc.1,hc.2.1⟩).bind λl s1 e1=>?_
   subst e1
   exact(Dn n _ (ls++[l]) (n1.1.ws h)).mono λ_ s2 ⟨g,e,b⟩=>⟨n1.1.trans g,e.trans n1.2.2.1,b.trans n1.2.2.2⟩
  ·exact⟨jN h,(jX s).1,(jX s).2⟩
theorem NQ(hE:EOk N E)(hB:BOk N B){s:PS}(h:WS N s)(us:List Atr)(bs:List Nat)(hn:Eg us):
  Sat (zR E B s us bs) (λx s'=>Later N s s'/\Eg x.1/\∀pe pb,FI s (us.map (·.e)++pe) (bs++pb)->FI s' (x.1.map (·.e)++pe) (x.2++pb)) (InN N):=by
 unfold zR;refine(nT h 1 (by decide)).bind λt s1 ⟨g1,x1,b1,ht,hk⟩=>?_;have hw1:=g1.1.ws h;have t1:=lX hw1 [61];have hw2:=t1.1.ws hw1;have hc:=mA h;split
 ·refine(hE _ hw2).bind λx s2 ⟨g2,b2,f2⟩=>?_;refine⟨⟨g1.1.trans (t1.1.trans g2.1),by have:=g1.2;have:=t1.1.le;have:=g2.2;omega⟩,λa ha=>?_,λpe pb hf=>?_⟩
  ·rcases bK.1 ha with ha|ha
   ·exact hn a ha
   ·rw[bX]at ha;subst ha;rw[ht];exact hc.2.2.2.2 (by rw[<-ht];exact hk)
  ·have:=(hf.same (s':=(cS s1 [61]).2) (t1.2.2.1.trans x1) (t1.2.2.2.trans b1)).expr b2 f2;refine this.perm ?_ (Ep _);simp only[List.map_append,fW,kV,fE];exact(mT).symm
 ·have hle:=g1.2;have hle2:=t1.1.le;have hg:Go1 N s {(cS s1 [61]).2 with i:=(cS s1 [61]).2.i-1}:=by
   have g:=g1.1.trans t1.1;refine⟨g.toks,g.off,g.deep,g.quiet,?_,?_,g.exs⟩
   ·show s.i<=(cS s1 [61]).2.i-1;omega
   ·show(cS s1 [61]).2.i-1<(cS s1 [61]).2.toks.length;have:=g.lt;omega
  refine(hB _ (hg.ws h)).bind λx s2 ⟨g2,f2⟩=>?_;refine⟨⟨hg.trans g2.1,by have:=hg.le;have:=g2.2;omega⟩,hn,λpe pb hf=>?_⟩;have:=f2 _ _ (hf.same (s':={(cS s1 [61]).2 with i:=(cS s1 [61]).2.i-1}) (t1.2.2.1.trans x1) (t1.2.2.2.trans b1));refine this.perm (Ep _) ?_;simp only[fE];exact(mT).symm
theorem Ff(hE:EOk N E)(hB:BOk N B):∀(n:Nat) (s:PS) (us:List Atr) (bs:List Nat),WS N s->Eg us->
  Sat (qT E B n s us bs) (λx s'=>Later N s s'/\Eg x.1/\∀pe pb,FI s (us.map (·.e)++pe) (bs++pb)->FI s' (x.1.map (·.e)++pe) (x.2++pb)) (InN N)
 |0,s,_,_,h,_=>⟨mN _,h.pN⟩
 |n+1,s,us,bs,h,hn=>by
  have t1:=lX h [125]
  have hw1:=t1.1.ws h
  simp only[qT]
  split
  ·rename_i ht
   exact⟨⟨t1.1,t1.2.1 ht⟩,hn,λpe pb hf=>hf.same t1.2.2.1 t1.2.2.2⟩
  refine(NQ hE hB hw1 us bs hn).bind λx s1 ⟨g1,n1,f1⟩=>?_
  have hw2:=g1.1.ws hw1
  have m1:=jN hw2
  have hw3:=m1.ws hw2
  split
  ·have:=mA hw3
   exact⟨this.1,this.2.1⟩
  have l1:=mD hw3
  refine(Ff hE hB n _ x.1 x.2 (l1.1.ws hw3) n1).mono λy s2 ⟨g2,n2,f2⟩=>⟨⟨t1.1.trans (g1.1.trans (m1.trans (l1.1.trans g2.1))),by have:=t1.1.le;have:=g1.2;have:=m1.le;have:=l1.1.le;have:=g2.2;omega⟩,n2,λpe pb hf=>f2 pe pb ?_⟩
  exact(f1 pe pb (hf.same t1.2.2.1 t1.2.2.2)).same (l1.2.1.trans (jX _).1) (l1.2.2.trans (jX _).2)
theorem FQ(hE:EOk N E)(hB:BOk N B):BOk N (uH E B):=by
 intro s h;unfold uH;refine(nT h 1 (by decide)).bind λt s1 ⟨g1,x1,b1,ht,hk⟩=>?_;have hw1:=g1.1.ws h;refine(Dn _ s1 [] hw1).bind λls s2 ⟨g2,x2,b2⟩=>?_;have hw2:=g2.ws hw1;have n2:=jN hw2;have hw3:=n2.ws hw2;have hc:=mA hw2;split
 ·exact⟨hc.1,hc.2.1⟩
 rename_i hi;have hi:isS s2 [123]=true:=by simpa using hi
 have e3:(bM s2).ex=s.ex:=(jX _).1.trans (x2.trans x1);have b3:(bM s2).bl=s.bl:=(jX _).2.trans (b2.trans b1);refine Sat.bind (nK hw3 (a:=(cur s2).a) (q:=false) ⟨hc.1,hc.2.1⟩ (P:=λ(x:List Atr×List Nat) s'=>Go1 N {bM s2 with deep:=(bM s2).deep+1,quiet:=false} s'/\Eg x.1/\∀pe pb,FI s pe pb->FI s' (x.1.map (·.e)++pe) (x.2++pb)) λhw=>?_) λx s3 ⟨q,⟨g4,m4,f4⟩,e4⟩=>?_
 ·have hh:=qK hw2 hi ((bM s2).deep+1) false;have h4:=lY hw hh.2.1;rw[hh.1]at h4;have hw4:=h4.1.ws hw;have l4:=mD hw4;refine(Ff hE hB _ _ [] [] (l4.1.ws hw4) (λa ha=>by cases ha)).mono λx s' ⟨g,m,f⟩=>⟨h4.1.trans (l4.1.trans g.1),m,λpe pb hf=>f pe pb ?_⟩;exact hf.same (l4.2.1.trans e3) (l4.2.2.trans b3)
 ·subst e4;have g4':=g4.back;have g:=g1.1.trans (g2.trans (n2.trans g4'));refine⟨⟨⟨g.toks,g.off,g.deep,g.quiet,g.le,g.lt,g.exs⟩,by have:=g1.2;have:=g2.le;have:=n2.le;have:=g4'.le;show s.i<q.i;simp only at this;omega⟩,λpe pb hf=>?_⟩;have hq:=f4 pe pb hf;refine⟨?_,?_,?_⟩
  ·show eU (exL q.ex) (zU (q.bl++[⟨t.t,ls,x.1,x.2,t.a⟩])++pe);have e:zU (q.bl++[⟨t.t,ls,x.1,x.2,t.a⟩])++pe=zU q.bl++(x.1.map (·.e)++pe):=by simp[zU]
   rw[e];exact hq.ex
  ·show eU (blL (q.bl++[⟨t.t,ls,x.1,x.2,t.a⟩])) (q.bl.length::pb);have:=hq.bl.put;rw[fP]at this;simpa[blL]using this
  ·intro b hb;have hb:b∈q.bl++[⟨t.t,ls,x.1,x.2,t.a⟩]:=hb;rcases bK.1 hb with hb|hb
   ·exact hq.nm b hb
   ·rw[bX]at hb;subst hb;exact m4
end
theorem Ij(N:Int):BOk N dead:=λ_ h=>⟨mN _,h.pN⟩
theorem BH(N:Int):∀d,BOk N (yE d)
 |0=>FQ (zB N) (Ij N)
 |d+1=>FQ (tM N d).1 (BH N d)
theorem JS{N:Int}:∀(n:Nat) (s:PS) (top:List Nat),WS N s->Sat (zG n s top) (λx s'=>Go1 N s s'/\(FI s [] top->FI s' [] x)) (InN N)
 |0,s,_,h=>⟨mN _,h.pN⟩
 |n+1,s,top,h=>by
  have n1:=jN h
  have hw1:=n1.ws h
  simp only[zG]
  split
  ·exact⟨n1,λhf=>hf.same (jX _).1 (jX _).2⟩
  refine(BH N 24 _ hw1).bind λx s1 ⟨g1,f1⟩=>?_
  have hw2:=g1.1.ws hw1
  have m1:=jN hw2
  have hw3:=m1.ws hw2
  split
  ·have:=mA hw3
   exact⟨this.1,this.2.1⟩
  have l1:=mD hw3
  refine(JS n _ (top++[x]) (l1.1.ws hw3)).mono λy s2 ⟨g2,f2⟩=>⟨n1.trans (g1.1.trans (m1.trans (l1.1.trans g2))),λhf=>f2 ?_⟩
  have:=(f1 [] top (hf.same (jX _).1 (jX _).2)).same (s':=jE (bM s1)) (l1.2.1.trans (jX _).1) (l1.2.2.trans (jX _).2)
  refine this.perm (Ep _) ?_
  exact(List.perm_append_comm (l₁:=[x]) (l₂:=top))
theorem BX(t:Str):match pO t with
  |.bad _ a=>0<=a/\a<=(t.length:Nat)
  |.ok f=>(∀e∈f.ex,0<=e.a/\e.a<(t.length:Nat))/\eU (exL f.ex) (zU f.bl)/\eU (blL f.bl) f.top/\∀b∈f.bl,Eg b.attrs:=by
 unfold pO;cases hs:nP t with
 |bad c a=>exact CR hs
 |ok l=>
  have htg:=AA (N:=(t.length:Nat)) (off:=0) hs (mN _) (by omega);have hw:WS (t.length:Nat) ⟨l,0,0,0,false,[],[]⟩:=⟨htg,iG.2 htg.ne,by omega⟩;have l1:=mD hw;have h:=JS (l.length+1) (jE ⟨l,0,0,0,false,[],[]⟩) [] (l1.1.ws hw);cases hr:zG (l.length+1) (jE ⟨l,0,0,0,false,[],[]⟩) []with
  |err c a=>
   rw[hr]at h;simp only[hr];exact h
  |ok top s'=>
   rw[hr]at h;simp only[hr];obtain⟨g,f⟩:=h;have hf:=f (FI.same (s:=⟨l,0,0,0,false,[],[]⟩) ⟨eU.nil,eU.nil,λb hb=>by cases hb⟩ l1.2.1 l1.2.2);refine⟨λe he=>?_,by have:=hf.ex;rw[fX]at this;exact this,hf.bl,hf.nm⟩;rcases g.exs e he with h|h
   ·rw[l1.2.1]at h;cases h
   ·exact h
end
end Go.Syn
namespace Go.Proofs.YtjblfcfdeaagpaaGreatDoor
section
open Go Go.Eng Go.RowKit Go.Syn Go.Lex
variable{w:World}{K:Q0}{cs:List Value}{G:Nat->Prop}{T:TypeId}{i:Nat}{n:Nat}{v:Value}{w':World}{P:Program}{c:UInt8}{S:Nat->Prop}
section
variable{w0 w w1 w2:World}{p f:Nat}{M:Lay}{vt:Value}{s:PS}{top:List Nat}
theorem PR.putB(h:PR w0 w p f M vt s top){wb:World}{M0:Lay}(he:Eff p f M0 M wb w){e:Blk}{d:List Value}{v':Value}(hd:BkR w w0.heap.size e d)(hu:∀k∈ub d,Off w0 w p f M vt k)(hn:(ub d).Nodup)(hnew:∀k∈ub d,wb.heap.size<=k)
  (hO:Own w1 w0.heap.size BkT 5 v' (s.bl.length+1) (M.cB++d))(hc1:Chg (λk=>M.vB.ownBlock=some k) w w1)(hv:∀k,v'.ownBlock=some k->M.vB.ownBlock=some k\/w.heap.size<=k)
  (hc2:Chg (One f) w1 w2)(hf:w2.heap[f]?=some (.cells [M.vE,v',M.vT].toArray FlT (0,0))):PR w0 w2 p f {M with vB:=v',cB:=M.cB++d} vt {s with bl:=s.bl++[e]} top/\Eff p f M0 {M with vB:=v',cB:=M.cB++d} wb w2:=by
 have hb:=h.base;have hzb:=he.chg.size;have pB:=IK M f;have use:∀k,M.vB.ownBlock=some k->k∈M.uses f:=λk hk=>aD _ (eF (v:=M.vB) (by simp) hk);have hnd0:=pB.nodup_iff.1 h.fr.nd;have hnd:=hnd0;rw[dK,iA]at hnd;obtain⟨nf,_,nb,nab⟩:=hnd;have inU:∀k∈ub ([M.vE,M.vT]++(M.cE++M.cB)),k∈M.uses f:=λk hk=>pB.mem_iff.2 (aD _ (bP _ hk));have rest:∀k∈ub ([M.vE,M.vT]++(M.cE++M.cB)),M.vB.ownBlock≠some k/\k≠f/\k<w.heap.size:=λk hk=>
  ⟨λe=>nab k (jW.2 e) k hk rfl,λe=>nf (e▸bP _ hk),h.fr.lt k (inU k hk)⟩
 have c12:Chg (λk=>M.vB.ownBlock=some k\/k=f) w w2:=(hc1.mono λk _ e=>.inl e).trans (hc2.mono λk _ e=>.inr e);have sub:∀v∈[M.vE,M.vT]++(M.cE++M.cB),∀k,v.ownBlock=some k->¬(M.vB.ownBlock=some k\/k=f):=λv hv k hk e=>by
  have:=rest k (eF hv hk);exact e.elim this.1 this.2.1
 have hOf:∀k,v'.ownBlock=some k->k≠f:=λk hk e=>by
  subst e;rcases hv k hk with e|e
  ·exact nf (cD _ (jW.2 e))
  ·have:=mB h.fr.hf;omega
 have nE:M.vB.ownBlock≠some p:=λe=>h.np (use p e);have pf:p≠f:=λe=>h.np (e▸aW);have perm:=OQ M f v' d;have hN:(f::(ub [v']++(ub d++ub ([M.vE,M.vT]++(M.cE++M.cB))))).Nodup:=Gv (n:=w.heap.size) (a:=ub [M.vB]) hnd0 (λk hk=>h.fr.lt k (pB.mem_iff.2 hk)) (nZ _) (λk hk=>(hv k (jW.1 hk)).imp (λe=>jW.2 e) id) hn λk hk=>⟨(hu k hk).1.2,λe=>(hu k hk).2.2.1 (pB.mem_iff.2 e)⟩;have hz:=c12.size;have mem:∀k∈({M with vB:=v',cB:=M.cB++d}:Lay).uses f,k=f\/v'.ownBlock=some k\/k∈ub d\/k∈ub ([M.vE,M.vT]++(M.cE++M.cB)):=λk hk=>by
  have hk:=perm.mem_iff.1 hk;rcases bC.1 hk with e|e
  ·exact .inl e
  rcases bK.1 e with e|e
  ·exact .inr (.inl (jW.1 e))
  rcases bK.1 e with e|e
  ·exact .inr (.inr (.inl e))
  ·exact .inr (.inr (.inr e))
 have cT:Chg (Tn p f M) w w2:=c12.mono λk _ e=>e.elim (λe=>.inr (.inr (.inr e))) λe=>.inr (.inl e);refine⟨⟨?_,⟨hf,?_,?_,?_,?_,?_,perm.nodup_iff.2 hN,λk hk=>?_,λk hk=>?_⟩,?_,?_,λe=>?_,h.lo,λk hk=>?_⟩,⟨(he.trans (Eff.of cT)).chg,λk hk=>?_,he.hE,λk hk=>(hv k hk).elim (he.hB k) λe=>.inr (by omega),he.hT⟩⟩
 ·refine h.ch.then c12 λk hk e=>?_;rcases e with e|e
  ·exact(h.fr.lo k (use k e)).resolve_right (by omega)
  ·exact e
 ·exact eG h.fr.oE c12 (sub _ (by simp))
 ·rw[aP];exact eG hO hc2 λk hk e=>hOf k hk e
 ·exact eG h.fr.oT c12 (sub _ (by simp))
 ·refine h.fr.ee.imp λx d hd hx=>hx.at_ c12 λk hk=>?_;obtain⟨v,hv,hk⟩:=bZ.1 hk;exact sub v (by simp[hd v hv]) k hk
 ·refine kO.snoc ?_ (hd.at_ c12 λk hk e=>?_) (by obtain⟨vl,va,vk,rfl,_⟩:=hd;rfl)
  ·refine h.fr.bb.imp λx d hd hx=>hx.at_ c12 λk hk=>?_;obtain⟨v,hv,hk⟩:=bZ.1 hk;exact sub v (by simp[hd v hv]) k hk
  ·have ho:=(hu k hk).2.2.1;rcases e with e|e
   ·exact ho (use k e)
   ·exact ho (e▸aW)
 ·rcases mem k hk with e|e|e|e
  ·rw[e];exact mB hf
  ·exact dD (kJ hO e).1 hc2.size
  ·exact dD (hu k e).1.2 hz
  ·exact dD (rest k e).2.2 hz
 ·rcases mem k hk with e|e|e|e
  ·exact .inl e
  ·exact .inr (kJ hO e).2
  ·exact .inr (hu k e).1.1
  ·exact h.fr.lo k (inU k e)
 ·exact c12.at h.ps λe=>e.elim nE pf
 ·exact rR h.tk c12 λk hk e=>by
   have:=(h.nt k hk).1;rcases e with e|e
   ·exact this (use k e)
   ·exact this (e▸aW)
 ·rcases mem p e with e|e|e|e
  ·exact pf e
  ·exact(hv p e).elim nE λe=>by have:=h.lt;omega
  ·exact(hu p e).2.1 rfl
  ·exact h.np (inU p e)
 ·have ht:=h.nt k hk;refine⟨λe=>?_,ht.2.1,dD ht.2.2 hz⟩;rcases mem k e with e|e|e|e
  ·exact ht.1 (e▸aW)
  ·exact(hv k e).elim (λe=>ht.1 (use k e)) λe=>by omega
  ·exact(hu k e).2.2.2 hk
  ·exact ht.1 (inU k e)
 ·rcases mem k hk with e|e|e|e
  ·exact he.us k (e▸aW)
  ·exact(hv k e).elim (λe=>he.us k (use k e)) λe=>.inr (by omega)
  ·exact .inr (hnew k e)
  ·exact he.us k (inU k e)
end
structure FY(F:PS->R Nat):Prop where
 ok:∀N,BOk N F
 z:EZ F
theorem Gd.bk{x:Nat}{s s':PS}{N:Int}{dl:Nat}{F:PS->R Nat}(h:Gd N s dl)(hF:FY F)(e:F s=.ok x s'):Gd N s' dl/\s.i<s'.i/\s'.toks=s.toks:=by
 have h1:=hF.ok N s h.ws;have h2:=hF.z s;rw[e]at h1 h2;exact⟨h.go h1.1.1 h2,h1.1.2,h1.1.1.toks⟩
section
variable [HX]
variable{w0 w w' w1:World}{p f b:Nat}{M M' M0:Lay}{vt:Value}{s:PS}{top:List Nat}{N:Int}{K:Q0}{e:Ex}{wbn:Nat}{wb:World}{dl:Nat}
structure BL(w0 w:World)(p f:Nat)(M:Lay)(vt:Value)(B1 b4:Nat)(typ:Str)(a:Int)(vl va vb:Value)(ls:List Str)(av:List Atr)(bs:List Nat):Prop where
 l4:Loc w0 w p f M vt b4 BkT [str typ,vl,va,vb,i64 a]
 rL:Ro w0 w p f M vt B1 StT 1 vl ls.length (strs ls)
 rA:Ro w0 w p f M vt B1 AtT 3 va av.length (kK av)
 rB:Ro w0 w p f M vt B1 jY 1 vb bs.length (ints bs)
 d1:∀k,vl.ownBlock=some k->va.ownBlock≠some k
 d2:∀k,vl.ownBlock=some k->vb.ownBlock≠some k
 d3:∀k,va.ownBlock=some k->vb.ownBlock≠some k
 lt:b4<B1/\B1<=w.heap.size
section
variable{B1 b4:Nat}{typ:Str}{a:Int}{vl va vb:Value}{ls:List Str}{av:List Atr}{bs:List Nat}
theorem BL.eff(h:BL w0 w p f M vt B1 b4 typ a vl va vb ls av bs)(he:Eff p f M M' w w'):BL w0 w' p f M' vt B1 b4 typ a vl va vb ls av bs:=
 ⟨h.l4.eff he,h.rL.eff he,h.rA.eff he,h.rB.eff he,h.d1,h.d2,h.d3,h.lt.1,dR h.lt.2 he.chg.size⟩
theorem BL.ext(h:BL w0 w p f M vt B1 b4 typ a vl va vb ls av bs)(hx:Ext w w'):BL w0 w' p f M vt B1 b4 typ a vl va vb ls av bs:=h.eff (Eff.ext hx)
theorem BL.one(h:BL w0 w p f M vt B1 b4 typ a vl va vb ls av bs)(hc:Chg (One b) w w')(hb:b≠b4)(hL:vl.ownBlock≠some b)(hA:va.ownBlock≠some b)(hB:vb.ownBlock≠some b):BL w0 w' p f M vt B1 b4 typ a vl va vb ls av bs:=
 ⟨h.l4.one hc (kG hb),h.rL.one hc hL,h.rA.one hc hA,h.rB.one hc hB,h.d1,h.d2,h.d3,h.lt.1,dR h.lt.2 hc.size⟩
theorem BL.fresh(h:BL w0 w p f M vt B1 b4 typ a vl va vb ls av bs){k:Nat}(hk:w.heap.size<=k):k≠b4/\vl.ownBlock≠some k/\va.ownBlock≠some k/\vb.ownBlock≠some k:=
 ⟨λe=>by have:=h.l4.lt;omega,λe=>by have:=(h.rL.off k e).1.2;omega,λe=>by have:=(h.rA.off k e).1.2;omega,λe=>by have:=(h.rB.off k e).1.2;omega⟩
theorem BL.no4(h:BL w0 w p f M vt B1 b4 typ a vl va vb ls av bs):vl.ownBlock≠some b4/\va.ownBlock≠some b4/\vb.ownBlock≠some b4:=
 ⟨λe=>by have:=h.rL.new _ e;have:=h.lt.1;omega,λe=>by have:=h.rA.new _ e;have:=h.lt.1;omega,λe=>by have:=h.rB.new _ e;have:=h.lt.1;omega⟩
theorem BL.appL{x:Str}{r:Nat}{ty:TypeId}{KW:World->Prop}(h:BL w0 w p f M vt B1 b4 typ a vl va vb ls av bs)(hp:PR w0 w p f M vt s top)(hr:w.heap[r]?=some (.cells [str x].toArray StT (0,0)))(hn:ls.length<=1000000)
  (hK:∀vl' w',BL w0 w' p f M vt B1 b4 typ a vl' va vb (ls++[x]) av bs->PR w0 w' p f M vt s top->Chg (λk=>vl.ownBlock=some k\/k=b4) w w'->(∀b T cs,Loc w0 w p f M vt b T cs->b≠b4->vl.ownBlock≠some b->Loc w0 w' p f M vt b T cs)->(∀k,vl'.ownBlock=some k->vl.ownBlock=some k\/w.heap.size<=k)->KW w'):
  fY P0 (Builtin.append_ #[33,33] ty #[vl,.slice (some ⟨r,0,none⟩) 1 1]) w λt62 w36=>aR 1 (.pointer (some ⟨b4,0,none⟩)) λt63=>stW 1 t63 t62 w36 KW:=by
 refine Ro.app Fy h.rL hp hr rfl (λu hu=>by simp only[bX]at hu;subst hu;rfl) hn (by decide) h.lt.2 λv' w2 hR2 hc hv hp2=>?_;have e1:(ls++[x]).length=ls.length+1:=by simp
 rw[<-e1,show strs ls++[str x]=strs (ls++[x])from by simp[strs]]at hR2;rw[bE,bL,aI];obtain⟨vp,vc,ev,_⟩:=hR2.own.sl.shape;obtain⟨n1,n2,n3⟩:=h.no4;have n1':v'.ownBlock≠some b4:=λe=>by have:=hR2.new b4 e;have:=h.lt.1;omega
 refine(h.l4.row hc n1).st (by rw[ev];rfl) (by simp) λw3 L3 hc3 hz3=>?_;have z:=hc.size;refine hK v' w3 ⟨L3,hR2.one hc3 n1',(h.rA.row hc λk hk e=>h.d1 k e hk).one hc3 n2,(h.rB.row hc λk hk e=>h.d2 k e hk).one hc3 n3,λk hk=>?_,λk hk=>?_,h.d3,h.lt.1,by have:=h.lt.2;omega⟩ (hp2.one hc3 L3.2) ((hc.mono λk _ e=>.inl e).trans (hc3.mono λk _ e=>.inr e)) (λb T cs hL hb hvb=>(hL.row hc hvb).one hc3 hb) hv
 ·exact(hv k hk).elim (h.d1 k) λe e'=>by have:=(h.rA.off k e').1.2;omega
 ·exact(hv k hk).elim (h.d2 k) λe e'=>by have:=(h.rB.off k e').1.2;omega
theorem BL.appA{x:Atr}{r:Nat}{ty:TypeId}{KW:World->Prop}(h:BL w0 w p f M vt B1 b4 typ a vl va vb ls av bs)(hp:PR w0 w p f M vt s top)(hr:w.heap[r]?=some (.cells [str x.n,i64 (x.e:Nat),i64 x.a].toArray AtT (0,0)))(hn:av.length<=1000000)
  (hK:∀va' w',BL w0 w' p f M vt B1 b4 typ a vl va' vb ls (av++[x]) bs->PR w0 w' p f M vt s top->Chg (λk=>va.ownBlock=some k\/k=b4) w w'->(∀b T cs,Loc w0 w p f M vt b T cs->b≠b4->va.ownBlock≠some b->Loc w0 w' p f M vt b T cs)->(∀k,va'.ownBlock=some k->va.ownBlock=some k\/w.heap.size<=k)->KW w'):
  fY P0 (Builtin.append_ #[36,36] ty #[va,.slice (some ⟨r,0,none⟩) 1 1]) w λt62 w36=>eC (.pointer (some ⟨b4,0,none⟩)) λt63=>aR 2 t63 λt63=>stW 1 t63 t62 w36 KW:=by
 refine Ro.app Ie h.rA hp hr rfl (λu hu=>by simp only[bC,cA,gG]at hu;rcases hu with rfl|rfl|rfl<;>rfl) hn (by decide) h.lt.2 λv' w2 hR2 hc hv hp2=>?_;have e1:(av++[x]).length=av.length+1:=by simp
 rw[<-e1,show kK av++[str x.n,i64 (x.e:Nat),i64 x.a]=kK (av++[x])from by simp[kK]]at hR2;rw[dB,bE,bL,aI];obtain⟨vp,vc,ev,_⟩:=hR2.own.sl.shape;obtain⟨n1,n2,n3⟩:=h.no4;have n2':v'.ownBlock≠some b4:=λe=>by have:=hR2.new b4 e;have:=h.lt.1;omega
 refine(h.l4.row hc n2).st (by rw[ev];rfl) (by simp) λw3 L3 hc3 hz3=>?_;have z:=hc.size;refine hK v' w3 ⟨L3,(h.rL.row hc λk hk e=>h.d1 k hk e).one hc3 n1,hR2.one hc3 n2',(h.rB.row hc λk hk e=>h.d3 k e hk).one hc3 n3,λk hk e=>?_,h.d2,λk hk=>?_,h.lt.1,by have:=h.lt.2;omega⟩ (hp2.one hc3 L3.2) ((hc.mono λk _ e=>.inl e).trans (hc3.mono λk _ e=>.inr e)) (λb T cs hL hb hvb=>(hL.row hc hvb).one hc3 hb) hv
 ·exact(hv k e).elim (λe=>h.d1 k hk e) λe=>by have:=(h.rL.off k hk).1.2;omega
 ·exact(hv k hk).elim (h.d3 k) λe e'=>by have:=(h.rB.off k e').1.2;omega
theorem BL.appB{x:Nat}{r:Nat}{ty:TypeId}{KW:World->Prop}(h:BL w0 w p f M vt B1 b4 typ a vl va vb ls av bs)(hp:PR w0 w p f M vt s top)(hr:w.heap[r]?=some (.cells [i64 (x:Nat)].toArray jY (0,0)))(hn:bs.length<=1000000)
  (hK:∀vb' w',BL w0 w' p f M vt B1 b4 typ a vl va vb' ls av (bs++[x])->PR w0 w' p f M vt s top->Chg (λk=>vb.ownBlock=some k\/k=b4) w w'->(∀b T cs,Loc w0 w p f M vt b T cs->b≠b4->vb.ownBlock≠some b->Loc w0 w' p f M vt b T cs)->(∀k,vb'.ownBlock=some k->vb.ownBlock=some k\/w.heap.size<=k)->KW w'):
  fY P0 (Builtin.append_ #[26,26] ty #[vb,.slice (some ⟨r,0,none⟩) 1 1]) w λt62 w36=>eC (.pointer (some ⟨b4,0,none⟩)) λt63=>aR 3 t63 λt63=>stW 1 t63 t62 w36 KW:=by
 refine Ro.app Aj h.rB hp hr rfl (λu hu=>by simp only[bX]at hu;subst hu;rfl) hn (by decide) h.lt.2 λv' w2 hR2 hc hv hp2=>?_;have e1:(bs++[x]).length=bs.length+1:=by simp
 rw[<-e1,show ints bs++[i64 (x:Nat)]=ints (bs++[x])from by simp[ints]]at hR2;rw[dB,bE,bL,aI];obtain⟨vp,vc,ev,_⟩:=hR2.own.sl.shape;obtain⟨n1,n2,n3⟩:=h.no4;have n3':v'.ownBlock≠some b4:=λe=>by have:=hR2.new b4 e;have:=h.lt.1;omega
 refine(h.l4.row hc n3).st (by rw[ev];rfl) (by simp) λw3 L3 hc3 hz3=>?_;have z:=hc.size;refine hK v' w3 ⟨L3,(h.rL.row hc λk hk e=>h.d2 k hk e).one hc3 n1,(h.rA.row hc λk hk e=>h.d3 k hk e).one hc3 n2,hR2.one hc3 n3',h.d1,λk hk e=>?_,λk hk e=>?_,h.lt.1,by have:=h.lt.2;omega⟩ (hp2.one hc3 L3.2) ((hc.mono λk _ e=>.inl e).trans (hc3.mono λk _ e=>.inr e)) (λb T cs hL hb hvb=>(hL.row hc hvb).one hc3 hb) hv
 ·exact(hv k e).elim (λe=>h.d2 k hk e) λe=>by have:=(h.rL.off k hk).1.2;omega
 ·exact(hv k e).elim (λe=>h.d3 k hk e) λe=>by have:=(h.rA.off k hk).1.2;omega
theorem Gd.etoks{x:Nat}{s':PS}{F:PS->R Nat}(h:Gd N s dl)(hF:sO F)(e:F s=.ok x s'):s'.toks=s.toks:=by
 have h1:=hF.ok N s h.ws;rw[e]at h1;exact h1.1.1.toks
theorem Gd.name_back{t:Tok}{s1:PS}(hg:Gd N s dl)(e:nC s 1=.ok t s1)(hn:(cS s1 [61]).1=false):
  Gd N {(cS s1 [61]).2 with i:=(cS s1 [61]).2.i-1} dl/\s.i<=(cS s1 [61]).2.i-1/\1<=(cS s1 [61]).2.i/\(cS s1 [61]).2.toks=s.toks:=by
 have hk:=hg.kind (by decide) e;have hks:=nT hg.ws 1 (by decide);rw[e]at hks;have e1:s1=step1 (bM s):=by
  unfold nC at e;split at e
  ·rename_i hk;injection e with _ e
   rw[<-e];unfold kY;rw[aU (by rw[hk];decide)]
  ·cases e
 have t1:=lX hk.1.ws [61];have e2:(cS s1 [61]).2=bM s1:=by
  unfold cS at hn⊢;split
  ·rename_i hi;rw[aU hi]at hn;cases hn
  ·rfl
 have hi1:=hk.2.1;have hi2:=t1.1.le;have hgo:Go1 N s {(cS s1 [61]).2 with i:=(cS s1 [61]).2.i-1}:=by
  have g:=hks.1.1.trans t1.1;refine⟨g.toks,g.off,g.deep,g.quiet,?_,?_,g.exs⟩
  ·show s.i<=(cS s1 [61]).2.i-1;omega
  ·show(cS s1 [61]).2.i-1<(cS s1 [61]).2.toks.length;have:=g.lt;omega
 refine⟨hg.go hgo ?_,by omega,by omega,(t1.1.toks).trans hks.1.1.toks⟩;have hi:s.i<=(bM s1).i-1:=by rw[<-e2];omega
 have x1:(bM s1).ex=s.ex:=(jX s1).1.trans (by rw[e1];exact(jX s).1);have x2:(bM s1).bl=s.bl:=(jX s1).2.trans (by rw[e1];exact(jX s).2);have x3:(bM s1).toks=s.toks:=by
  have h1:∀s:PS,(bM s).toks=s.toks:=λs=>by unfold bM;split<;>rfl
  rw[h1,e1];exact h1 s
 rw[e2];unfold Syn.phi;simp only;rw[x1,x2,x3];have:=IG s.toks hi;omega
theorem WM{E B:PS->R Nat}(hE:EC w0 f 118 E dl)(hB:EC w0 f 32 B dl)(hF:sO E)(hFB:FY B)(h:PR w0 w p f M vt s top)(hg:Gd N s dl)(hL:BL w0 w p f M vt B1 b4 typ a vl va vb ls av bs)(hal:av.length<=1000000)(hbl:bs.length<=1000000)
  {M0:Lay}{wb:World}(he0:Eff p f M0 M wb w)(hw4:wb.heap.size<=b4)(hwB:wb.heap.size<=B1)
  (hK:∀x s',zR E B s av bs=.ok x s'->∀M' va' vb' w',PR w0 w' p f M' vt s' top->Gd N s' dl->s.i<s'.i->s'.toks=s.toks->x.1.length<=av.length+1->x.2.length<=bs.length+1->Eff p f M0 M' wb w'->BL w0 w' p f M' vt B1 b4 typ a vl va' vb' ls x.1 x.2->
    (∀b T cs,Loc w0 w p f M vt b T cs->b≠b4->va.ownBlock≠some b->vb.ownBlock≠some b->Loc w0 w' p f M' vt b T cs)->(∀k,va'.ownBlock=some k->va.ownBlock=some k\/w.heap.size<=k)->(∀k,vb'.ownBlock=some k->vb.ownBlock=some k\/w.heap.size<=k)->K (.tuple #[]) w')
  (ht:∀c a',zR E B s av bs=.err c a'->Thr w0 f c a'):
  aJ P0 69 [.pointer (some ⟨p,0,none⟩),.pointer (some ⟨b4,0,none⟩)] w K:=by
 refine Xr ?_;unfold W69;have hN:=hg.hN;unfold zR at hK ht;refine xQ h hg.ws hN hg.l (λt s1 et w1 h1 he1=>?_) λc a' et=>ht c a' (by rw[et];rfl);rw[et]at hK ht;simp only[R.bind]at hK ht;have hk:=hg.kind (by decide) et;have hks:=nT hg.ws 1 (by decide);rw[et]at hks;have hL1:=hL.eff he1;refine cK λb5 w2 hb5 hz2 hbb2 hx2=>?_;have h2:=h1.ext hx2;have L5:=h1.loc hz2 hb5 hbb2;have fr5:=hL1.fresh (k:=b5) (by omega);refine cY (l:=jI t) L5.1 rfl rfl rfl λw3 hz3 hbb3 hc3=>?_;have L5:Loc w0 w3 p f M vt b5 TkT (jI t):=⟨hbb3,L5.2.up (by omega)⟩;have h3:=h2.one hc3 L5.2;have hL3:=(hL1.ext hx2).one hc3 fr5.1 fr5.2.1 fr5.2.2.1 fr5.2.2.2;have hz1:=he1.chg.size;have he3:Eff p f M M w w3:=(he1.x hx2).one hc3 (by omega);refine uC h3 hk.1.ws hN hk.1.l λw4 h4 he4=>?_;have L5:=L5.eff he4;have hL4:=hL3.eff he4;have he4:=he3.trans he4;have hgt:=hk.1.take [61];have tg:=lX hk.1.ws [61];have zz:=he0.chg.size;rw[eJ];refine⟨λhy=>?_,λhn=>?_⟩
 ·
  rw[aU hy]at hK ht;have L5:=L5.drew;have hL4:=hL4.ext (cQ w4);have h4:=h4.drew;have he4:=he4.x (cQ w4);rw[dB,bE,bL,aI];refine hL4.l4.ld rfl ?_;rw[bE,bL,aI];refine L5.ld rfl ?_;rw[bE,bL,aI];refine L5.ld rfl ?_;refine hE w4.drew p M vt _ top N _ h4 hgt (λx s2 ex M2 w5 h5 he5=>?_) λc a' ex=>ht c a' (by rw[ex]);rw[ex]at hK;simp only at hK;obtain⟨g2,i2⟩:=hgt.e hF ex;have t2:=hgt.etoks hF ex;have L5:=L5.eff he5;have hL5:=hL4.eff he5;have he5:=he4.trans he5;refine⟨L5.ld rfl rfl,L5.ld rfl rfl,hL5.l4.ld rfl rfl,?_⟩;simp only[dP,dW,dN,aB,aK,aM,aQ,Nat.reduceAdd,Nat.reduceLT,dJ,aY];refine Bc (d:=[str t.t,i64 ((x:Nat):Int),i64 t.a]) rfl rfl λr w6 hr hz6 hrb hx6=>?_;have hL6:=hL5.ext hx6;have he6:=he5.x hx6;have hw6:=he6.chg.size;refine⟨hL6.l4.ld rfl rfl,?_⟩;refine hL6.appA (x:=⟨t.t,x,t.a⟩) (h5.ext hx6) hrb hal λva' w7 hL7 h7 hc7 hl7 hv7=>?_;refine hK _ _ rfl M2 va' vb w7 h7 g2 (by have:=tg.1.le;have:=hk.2.1;omega) (t2.trans (tg.1.toks.trans hks.1.1.toks)) (by simp) (by simp) (((he0.trans he6).then hc7 λk hk' e=>?_)) hL7 (λb T cs hl hb hva hvb=>hl7 b T cs (hl.eff he6) hb hva) (λk hk=>(hv7 k hk).imp id λe=>by omega) λk hk=>.inl hk;rcases e with e|e
  ·have:=hL.rA.new k e;omega
  ·omega
 ·
  have hn:(cS s1 [61]).1=false:=by simpa using hn
  rw[aL (by rw[hn];decide)]at hK ht;obtain⟨gb,ib,i1,tb⟩:=hg.name_back et hn;refine h4.ld rfl ?_;have hti:=hgt.ws.lt;have htl:=hgt.few;rw[gR,gI (by omega) (by omega),show(((cS s1 [61]).2.i:Nat):Int)-1=(((cS s1 [61]).2.i-1:Nat):Int)by omega];refine h4.st_i λw5 h5 he5 hz5=>?_;have hL5:=(hL4.eff he5).ext (cQ w5);have h5:=h5.drew;have he5:=(he4.trans he5).x (cQ w5);rw[dB,bE,bL,aI];refine hL5.l4.ld rfl ?_;refine hB w5.drew p M vt _ top N _ h5 gb (λx s2 ex M2 w6 h6 he6=>?_) λc a' ex=>ht c a' (by rw[ex]);rw[ex]at hK;simp only at hK;obtain⟨g2,i2,t2⟩:=gb.bk hFB ex;have hL6:=hL5.eff he6;have he6:=he5.trans he6;refine⟨hL6.l4.ld rfl rfl,?_⟩;refine mF λr w7 hr hz7 hrb hx7=>?_;have hL7:=hL6.ext hx7;have he7:=he6.x hx7;have hw7:=he7.chg.size;refine⟨hL7.l4.ld rfl rfl,?_⟩;refine hL7.appB (h6.ext hx7) hrb hbl λvb' w8 hL8 h8 hc8 hl8 hv8=>?_;refine hK _ _ rfl M2 va vb' w8 h8 g2 (by have i2:(cS s1 [61]).2.i-1<s2.i:=i2;omega) (t2.trans tb) (by simp) (by simp) ((he0.trans he7).then hc8 λk hk' e=>?_) hL8 (λb T cs hl hb hva hvb=>hl8 b T cs (hl.eff he7) hb hvb) (λk hk=>.inl hk) λk hk=>(hv8 k hk).imp id λe=>by omega
  rcases e with e|e
  ·have:=hL.rB.new k e;omega
  ·omega
end
end
section
variable [HX]
variable{w0 w w' w1:World}{p f:Nat}{M M' M0:Lay}{vt:Value}{s:PS}{top:List Nat}{N:Int}{K:Q0}{e:Ex}{wbn:Nat}{wb:World}{dl:Nat}{B1 b4:Nat}{typ:Str}{a:Int}{vl va vb:Value}{ls:List Str}{av:List Atr}{bs:List Nat}
theorem Ly(s:PS):kY (bM s)=kY s:=by unfold kY;rw[mY,kN]
theorem Gd.plain{N:Int}{s s':PS}{t:Tok}{l:Str}(e:qF s t=.ok l s'):s'=s:=by
 unfold qF at e;split at e
 ·cases e
 ·injection e with _ e;exact e.symm
theorem RF{E B:PS->R Nat}{b1:Nat}(hE:EC w0 f 118 E dl)(hB:EC w0 f 32 B dl)(hF:sO E)(hFB:FY B)(h:PR w0 w p f M vt s top)(hg:Gd N s dl)(hc0:(cur s).k≠0)(hnow:bM s=s)
  (hL:BL w0 w p f M vt B1 b4 typ a vl (.slice none 0 0) (.slice none 0 0) ls [] [])(L1:Loc w0 w p f M vt b1 PpT [.pointer (some ⟨p,0,none⟩)])(hb1:b1<B1/\b1≠b4)
  {M0:Lay}{wb:World}(he0:Eff p f M0 M wb w)(hw4:wb.heap.size<=b4)(hwB:wb.heap.size<=B1)
  (hK:∀x s',qT E B (s.toks.length+1) (jE (step1 s)) [] []=.ok x s'->∀M' va' vb' w',PR w0 w' p f M' vt s' top->Gd N s' dl->Eff p f M0 M' wb w'->BL w0 w' p f M' vt B1 b4 typ a vl va' vb' ls x.1 x.2->Loc w0 w' p f M' vt b1 PpT [.pointer (some ⟨p,0,none⟩)]->K (.tuple #[]) w')
  (ht:∀c a',qT E B (s.toks.length+1) (jE (step1 s)) [] []=.err c a'->Thr w0 f c a'):
  aJ P0 67 [.pointer (some ⟨b1,0,none⟩),.pointer (some ⟨b4,0,none⟩)] w K:=by
 refine Xt ?_;unfold W67;have hN:=hg.hN;have hg1:Gd N (step1 s) dl:=by have:=hg.step hc0;rw[hnow]at this;exact this
 have zz:=he0.chg.size;refine L1.ld rfl ?_;refine h.go (wsi hg.ws hg.l) λw1 h1 he1 hz1=>?_;have L1:=L1.eff he1;have hL:=hL.eff he1;have he1:=he0.trans he1;refine L1.ld rfl ?_;refine yU h1 hg1.ws hN hg1.l λw2 h2 he2=>?_;have L1:=L1.eff he2;have hL:=hL.eff he2;have he2:=he1.trans he2;have hg2:=hg1.lines;have et2:=congrArg List.length (mD hg1.ws).1.toks;generalize hR:qT E B (s.toks.length+1) (jE (step1 s)) [] []=R0 at hK ht;refine dL.go (λst w'=>st=[]/\∃s1 M1 av bs va vb n,PR w0 w' p f M1 vt s1 top/\Gd N s1 dl/\Eff p f M0 M1 wb w'/\Loc w0 w' p f M1 vt b1 PpT [.pointer (some ⟨p,0,none⟩)]/\BL w0 w' p f M1 vt B1 b4 typ a vl va vb ls av bs/\qT E B n s1 av bs=R0/\s1.toks.length<n+s1.i/\av.length<=s1.i/\bs.length<=s1.i/\s1.toks.length=s.toks.length) (λ_ w'=>s.toks.length-zY w' p)
  ⟨rfl,_,M,[],[],_,_,s.toks.length+1,h2,hg2,he2,L1,hL,hR,by rw[et2];show s.toks.length<_;omega,by simp,by simp,by rw[et2];rfl⟩ ?_
 clear hL L1 h1 h2 he1 he2;rintro st g w3 ⟨rfl,s1,M1,av,bs,va,vb,n,h3,hg3,he3,L1,hL,hit,hn,hal,hbl,htl⟩;have hlt3:=hg3.ws.lt;obtain⟨n,rfl⟩:∃m,n=m+1:=⟨n-1,by omega⟩;simp only[qT]at hit;refine L1.ld rfl ?_;refine uC h3 hg3.ws hN hg3.l λw4 h4 he4=>?_;have L1:=L1.eff he4;have hL:=hL.eff he4;have he4:=he3.trans he4;have hg4:=hg3.take [125];have tg:=lX hg3.ws [125];have tgt:=congrArg List.length tg.1.toks;rw[fH,eJ];refine⟨λhn'=>?_,λhy=>?_⟩
 ·have hn':(cS s1 [125]).1=false:=by simpa using hn'
  rw[aL (by rw[hn'];decide)]at hit;have few:=hg3.few;refine L1.ld rfl ?_;refine WM hE hB hF hFB h4 hg4 hL (by omega) (by omega) he4 hw4 hwB (λx s2 ex M2 va2 vb2 w5 h5 hg5 hi5 ht5 hxa hxb he5 hL5 hl5 hv5 hu5=>?_) λc a' ex=>ht c a' (by rw[<-hit,ex];rfl);rw[ex]at hit;simp only[R.bind]at hit;have ht5:=congrArg List.length ht5;have L1:=hl5 _ _ _ L1 hb1.2 (λe=>by have:=hL.rA.new _ e;have:=hb1.1;omega) (λe=>by have:=hL.rB.new _ e;have:=hb1.1;omega);have hgn:=hg5.now;have hng:=jN hg5.ws;have hngt:=congrArg List.length hng.toks;have hngi:=hng.le;refine dE.cut (λ_ w'=>PR w0 w' p f M2 vt (bM s2) top/\Eff p f M2 M2 w5 w'/\qT E B n (jE (bM s2)) x.1 x.2=R0) ?_ ?_
  ·refine L1.ld rfl ?_;refine pL h5 hg5.ws hN hg5.l λw6 h6 he6=>?_;refine⟨i64 (cur s2).k,rfl,?_⟩;dsimp only;rw[dQ];have L1:=L1.eff he6;by_cases hk5:(cur s2).k≠5
   ·rw[bW hk5];simp only[fT];refine GdW.act (!isS (bM s2) [125]) (λw'=>PR w0 w' p f M2 vt (bM s2) top/\Eff p f M2 M2 w5 w') (λe=>by cases e) (λ_ J hJ=>?_) λg5 w7 hR7=>?_
    ·refine L1.ld rfl ?_;refine AR h6 hgn λw7 h7 he7=>?_;rw[fH];rw[kN]at h7;exact hJ w7 ⟨h7,he6.trans he7⟩
    obtain⟨h7,he7⟩:=hR7;simp only[aC,aO,iE];rw[eJ];refine⟨λhq=>?_,λhq=>?_⟩
    ·have hq:isS (bM s2) [125]=false:=by simpa using hq
     have L1:Loc w0 w7 p f M2 vt b1 PpT [.pointer (some ⟨p,0,none⟩)]:=(hl5 _ _ _ ‹Loc w0 w4 p f M1 vt b1 PpT [.pointer (some ⟨p,0,none⟩)]› hb1.2 (λe=>by have:=hL.rA.new _ e;have:=hb1.1;omega) (λe=>by have:=hL.rB.new _ e;have:=hb1.1;omega)).eff he7;refine L1.ld rfl ?_;refine pL h7 hgn.ws hN hgn.l λw8 h8 he8=>?_;refine⟨i64 (cur (bM s2)).a,rfl,?_⟩;refine rP h8 (ht 50 _ ?_);rw[<-hit,aU ⟨hk5,hq⟩]
    ·have hq:isS (bM s2) [125]=true:=by simpa using hq
     rw[aL (λh=>by rw[h.2]at hq;cases hq)]at hit;exact⟨h7,he7,hit⟩
   ·rw[bH hk5];simp only[fT,Ce];intro g5;rw[eX,bQ];rw[aL (λh=>hk5 h.1)]at hit;exact⟨h6,he6,hit⟩
  rintro _ g4 w6 ⟨h6,he6,hit⟩;have L1:=L1.eff he6;refine L1.ld rfl ?_;refine yU h6 hgn.ws hN hgn.l λw7 h7 he7=>?_;have lg:=mD hgn.ws;have lgt:=congrArg List.length lg.1.toks;have lgi:=lg.1.le;have tgi:=tg.1.le;have hgl:=hgn.lines;have hltl:=hgl.ws.lt;refine⟨⟨rfl,jE (bM s2),M2,x.1,x.2,va2,vb2,n,h7,hgl,(he5.trans he6).trans he7,L1.eff he7,(hL5.eff he6).eff he7,hit,by omega,by omega,by omega,by omega⟩,?_⟩;rw[h7.at_,h3.at_];omega
 ·have hy:(cS s1 [125]).1=true:=by simpa using hy
  rw[aU hy]at hit;exact hK _ _ hit.symm M1 va vb w4 h4 hg4 he4 hL L1
theorem KL{E B:PS->R Nat}(hE:∀d,dl=d+1->EC w0 f 118 E d)(hB:∀d,dl=d+1->EC w0 f 32 B d)(hF:sO E)(hFB:FY B):EC w0 f 32 (uH E B) dl:=by
 intro w p M vt s top N K h hg hK ht;refine XQ ?_;unfold W32;have hN:=hg.hN;refine vF rfl λb1 w1 hb1 hz1 hbb1 hx1=>?_;have h1:=h.ext hx1;have L1:=h.loc hz1 hb1 hbb1;unfold uH at hK ht;refine L1.ld rfl ?_;refine xQ h1 hg.ws hN hg.l (λt s1 et w2 h2 he2=>?_) λc a' et=>ht c a' (by rw[et];rfl);rw[et]at hK ht;simp only[R.bind]at hK ht;obtain⟨hg1,hi1,_⟩:=hg.kind (by decide) et;have hks:=nT hg.ws 1 (by decide);have hkp:=pX s 1;rw[et]at hks hkp;have hkp:=hkp.2 (by decide);have hkt:=congrArg List.length hks.1.1.toks;have L1:=L1.eff he2;have he2:=(Eff.ext hx1).trans he2;have lt1:=L1.lt;have hw2:=he2.chg.size;refine cK λb3 w3 hb3 hz3 hbb3 hx3=>?_;have h3:=h2.ext hx3;have L3:=h2.loc hz3 hb3 hbb3;have L1:=L1.ext hx3;refine cY (l:=jI t) L3.1 rfl rfl rfl λw4 hz4 hbb4 hc4=>?_;have L3:Loc w0 w4 p f M vt b3 TkT (jI t):=⟨hbb4,L3.2.up (by omega)⟩;have h4:=h3.one hc4 L3.2;have L1:=L1.one hc4 (by omega);have he4:=(he2.x hx3).one hc4 (by omega);refine L3.ldf rfl ?_;refine L3.ldf rfl ?_;simp only[dP,dW,dN,aB,aK,aM,aQ,Nat.reduceAdd,Nat.reduceLT,dJ,aY];refine cK λb4 w5 hb4 hz5 hbb5 hx5=>?_;have h5:=h4.ext hx5;have L4:=h4.loc hz5 hb4 hbb5;have L1:=L1.ext hx5;refine cY (l:=[str t.t,.slice none 0 0,.slice none 0 0,.slice none 0 0,i64 t.a]) L4.1 rfl rfl rfl λw6 hz6 hbb6 hc6=>?_;have L4:Loc w0 w6 p f M vt b4 BkT [str t.t,.slice none 0 0,.slice none 0 0,.slice none 0 0,i64 t.a]:=⟨hbb6,L4.2.up (by omega)⟩;have h6:=h5.one hc6 L4.2;have L1:=L1.one hc6 (by omega);have he6:=(he4.x hx5).one hc6 (by omega);have hw6:=he6.chg.size;obtain⟨B1,hB1⟩:∃B1,B1=w6.heap.size:=⟨_,rfl⟩;have hL:BL w0 w6 p f M vt B1 b4 t.t t.a (.slice none 0 0) (.slice none 0 0) (.slice none 0 0) [] [] []:=
  ⟨L4,Ro.nil _ _,Ro.nil _ _,Ro.nil _ _,λk hk=>by simp[Value.ownBlock]at hk,λk hk=>by simp[Value.ownBlock]at hk,λk hk=>by simp[Value.ownBlock]at hk,by omega,by omega⟩
 have hb14:b1<B1/\b1≠b4:=⟨by omega,by omega⟩;have hwB:w.heap.size<=B1:=by omega
 have hw4:w.heap.size<=b4:=by omega
 clear L3 L4 h2 h3 h4 h5 he2 he4;generalize hR:qR (s.toks.length+1) s1 []=R0 at hK ht;refine dL.go (λst w'=>st=[]/\∃s2 M1 ls vl n,PR w0 w' p f M1 vt s2 top/\Gd N s2 dl/\Eff p f M M1 w w'/\Loc w0 w' p f M1 vt b1 PpT [.pointer (some ⟨p,0,none⟩)]/\BL w0 w' p f M1 vt B1 b4 t.t t.a vl (.slice none 0 0) (.slice none 0 0) ls [] []/\qR n s2 ls=R0/\s2.toks.length<n+s2.i/\ls.length<=s2.i/\s2.toks.length=s.toks.length/\Syn.phi s2+1<=Syn.phi s) (λ_ w'=>s.toks.length-zY w' p)
  ⟨rfl,s1,M,[],_,s.toks.length+1,h6,hg1,he6,L1,hL,hR,by have:=hg1.ws.lt;omega,by simp,hkt,hkp⟩ ?_
 clear hL L1 h6 he6;rintro st g w7 ⟨rfl,s2,M1,ls,vl,n,h7,hg7,he7,L1,hL,hla,hn,hll,htl,hph⟩;have hlt7:=hg7.ws.lt;obtain⟨n,rfl⟩:∃m,n=m+1:=⟨n-1,by omega⟩;simp only[qR]at hla;refine L1.ld rfl ?_;refine pL h7 hg7.ws hN hg7.l λw8 h8 he8=>?_;have L1:=L1.eff he8;have hL:=hL.eff he8;have he8:=he7.trans he8;have hgn:=hg7.now;refine⟨i64 (cur s2).k,rfl,?_⟩;dsimp only;rw[cL,bD];refine⟨λhk3=>?_,λhk3=>?_⟩
 ·rw[aU hk3]at hla;have htx:=hg7.tx hk3;have L1:=L1.drew;have hL:=hL.ext (cQ w8);have h8:=h8.drew;have he8:=he8.x (cQ w8);rw[bE,bL,aI];refine hL.l4.ld rfl ?_;refine L1.ld rfl ?_;refine L1.ld rfl ?_;refine Jg h8 hgn.ws hN hgn.l λw9 h9 he9=>?_;rw[Ly]at h9;rw[mY];have L1:=L1.eff he9;have hL:=hL.eff he9;have he9:=he8.trans he9;refine⟨L1.ld rfl rfl,hL.l4.ld rfl rfl,?_⟩;have hgx:=hg7.next;refine Kd h9 htx.1 (by omega) (λl s3 el w10 hx10=>?_) λc a' el=>ht c a' (by rw[<-hla,el];rfl);have e3:=Gd.plain (N:=N) el;subst e3;rw[el]at hla;simp only[R.bind]at hla;have L1:=L1.ext hx10;have hL:=hL.ext hx10;have h10:=h9.ext hx10;have he10:=he9.x hx10;refine⟨hL.l4.ld rfl rfl,?_⟩;refine wJ λr w11 hr hz11 hrb hx11=>?_;have L1:=L1.ext hx11;have hL:=hL.ext hx11;have he11:=he10.x hx11;have hw11:=he11.chg.size;refine⟨hL.l4.ld rfl rfl,?_⟩;have few:=hg7.few;refine hL.appL (h10.ext hx11) hrb (by omega) λvl' w12 hL12 h12 hc12 hl12 hv12=>?_;have L1:=hl12 _ _ _ L1 hb14.2 λe=>by have:=hL.rL.new _ e;have:=hb14.1;omega
  have ng:=sU hg7.ws;have ngt:=congrArg List.length ng.1.toks;have ngi:=ng.2.1 (by rw[hk3];decide);have ngl:=hgx.ws.lt;have nph:=(uR s2).1;refine⟨⟨rfl,kY s2,M1,ls++[l],vl',n,h12,hgx,he11.then hc12 λk hk e=>?_,L1,hL12,hla,by omega,by rw[aP,aB,aK];omega,by omega,by omega⟩,?_⟩
  ·rcases e with e|e
   ·have:=hL.rL.new k e;omega
   ·omega
  ·rw[h12.at_,h7.at_];omega
 ·rw[aL hk3]at hla;rw[<-hla]at hK ht;simp only at hK ht;simp only[kZ,mY,kN]at hK ht;refine L1.ld rfl ?_;refine pL h8 hgn.ws hN hgn.l λw9 h9 he9=>?_;rw[kN]at h9;rw[mY];have L1:=L1.eff he9;have hL:=hL.eff he9;have he9:=he8.trans he9;refine cK λb5 w10 hb5 hz10 hbb10 hx10=>?_;have h10:=h9.ext hx10;have L5:=h9.loc hz10 hb5 hbb10;have fr:=hL.fresh (k:=b5) (by omega);have lt1:=L1.lt;have hw9:=he9.chg.size;refine cY (l:=jI (cur s2)) L5.1 rfl rfl rfl λw11 hz11 hbb11 hc11=>?_;have L5:Loc w0 w11 p f M1 vt b5 TkT (jI (cur s2)):=⟨hbb11,L5.2.up (by omega)⟩;have h11:=h10.one hc11 L5.2;have L1:=(L1.ext hx10).one hc11 (by omega);have hL:=(hL.ext hx10).one hc11 fr.1 fr.2.1 fr.2.2.1 fr.2.2.2;have he11:=(he9.x hx10).one hc11 (by omega);refine dE.cut (λ_ w'=>PR w0 w' p f M1 vt (bM s2) top/\Eff p f M1 M1 w11 w'/\isS s2 [123]=true) ?_ ?_
  ·refine L1.ld rfl ?_;refine AR h11 hgn λw12 h12 he12=>?_;rw[kN]at h12;rw[kZ,fH,eJ];refine⟨λhi=>?_,λhi=>⟨h12,he12,by simpa using hi⟩⟩;have hi:isS s2 [123]=false:=by simpa using hi
   refine(L5.eff he12).ldf rfl ?_;exact rP h12 (ht _ _ (by rw[aU hi]))
  rintro _ g2 w12 ⟨h12,he12,hi⟩;rw[aL (by rw[hi];decide)]at hK ht;have L1:=L1.eff he12;have L5:=L5.eff he12;have hL:=hL.eff he12;have he12:=he11.trans he12;refine L1.ld rfl ?_;refine L5.ldf rfl ?_;have hlev:=hgn.lev;refine qP h12 (by omega) (λhd=>ht 7 _ (by rw[tQ hd])) λhd w13 h13 he13=>?_;obtain⟨d,rfl⟩:∃d,dl=d+1:=⟨dl-1,by omega⟩;rw[xB hd]at hK ht;obtain⟨q1,q2,q3,q4⟩:=hg7.sign hi false;have ntl:=congrArg List.length (jN hg7.ws).toks;refine hY (caps:=[.pointer (some ⟨b1,0,none⟩),.pointer (some ⟨b4,0,none⟩)]) ?_;have ph2:Syn.phi (bM s2)<=Syn.phi s2:=mG s2;have efuel:({bM s2 with deep:=(bM s2).deep+1,quiet:=false}:PS).toks.length+1=s.toks.length+1:=by show(bM s2).toks.length+1=_;omega
  have efuel2:(bM s2).toks.length+1=s.toks.length+1:=by omega
  refine RF (hE d rfl) (hB d rfl) hF hFB h13 q1 q3 q2 (hL.eff he13) (L1.eff he13) hb14 (he12.trans he13) hw4 hwB (λx s3 ex M3 va vb w14 h14 hg14 he14 hL14 L1=>?_) λc a' ex=>ht c a' ?_
  ·rw[efuel]at ex;rw[ex]at hK;simp only[R.bind]at hK;have g14l:=hg14.lev;refine⟨M3,s3,h14,by omega,λw15 h15 he15=>?_⟩;have L1:=(L1.eff he15).drew;have hL:=(hL14.eff he15).ext (cQ w15);have h15:=h15.drew;have he15:=(he14.trans he15).x (cQ w15);have hg15:Gd N {s3 with deep:=(bM s2).deep,quiet:=(bM s2).quiet} (d+1):=hgn.back hg14;generalize hs4:({s3 with deep:=(bM s2).deep,quiet:=(bM s2).quiet}:PS)=s4 at*
   have s4b:s4.bl=s3.bl:=by rw[<-hs4]
   have hbl:=hg15.ex.2;have hw15:=he15.chg.size;have cF:∀{w':World},w'.heap[p]?=some (.cells [vt,i64 (s4.i:Nat),i64 s4.off,.pointer (some ⟨f,0,none⟩),i64 (s4.deep:Nat),.bool s4.quiet].toArray PsT (0,0))->w'.cell? ((⟨p,0,none⟩:Addr).add 3)=some (.pointer (some ⟨f,0,none⟩)):=by
    intro w' h;rw[bL,cM,h,bT];rfl
   have cB:∀{w':World} {u v:Value} {r:List Value},w'.heap[f]?=some (.cells (u::v::r).toArray FlT (0,0))->w'.cell? ((⟨f,0,none⟩:Addr).add 1)=some v:=by
    intro w' u v r h;rw[bL,cM,h,bT];rfl
   have ld1:∀{w':World} {M':Lay},Loc w0 w' p f M' vt b1 PpT [.pointer (some ⟨p,0,none⟩)]->ldW false 1 (.pointer (some ⟨b1,0,none⟩)) w' λx=>x=.pointer (some ⟨p,0,none⟩):=λL=>L.ld rfl rfl;have use:∀k,M3.vB.ownBlock=some k->k∈M3.uses f:=λk hk=>aD _ (eF (v:=M3.vB) (by simp) hk);have nE:¬M3.vB.ownBlock=some p:=λe=>h15.np (use p e);have nF:¬M3.vB.ownBlock=some f:=λe=>by
    have hnd:=(IK M3 f).nodup_iff.1 h15.fr.nd;rw[dK]at hnd;exact hnd.1 (cD _ (jW.2 e))
   have n1:¬M3.vB.ownBlock=some b1:=λe=>L1.2.2.2.1 (use b1 e);refine L1.ld rfl ?_;rw[dB,bE,eD];refine⟨_,cF h15.ps,?_⟩;refine L1.ld rfl ?_;rw[dB,bE,eD];refine⟨_,cF h15.ps,?_⟩;rw[dB,bE,eD];refine⟨_,cB h15.fr.hf,?_⟩;refine gF hL.l4.1 rfl ?_;refine Bc rfl rfl λr w16 hr hz16 hrb hx16=>?_;have h16:=h15.ext hx16;have L16:=L1.ext hx16;refine⟨by rw[eD];exact⟨_,cB h16.fr.hf,rfl⟩,by rw[eD];exact⟨_,cF h16.ps,rfl⟩,ld1 L16,by rw[eD];exact⟨_,cF h16.ps,rfl⟩,ld1 L16,?_⟩;have hc0:Chg (λk=>M3.vB.ownBlock=some k) w15.drew w16:=Chg.of_ext hx16;obtain⟨lp,lc,el1,_⟩:=hL.rL.own.sl.shape;obtain⟨ap,ac,ea1,_⟩:=hL.rA.own.sl.shape;obtain⟨bp,bc,eb1,_⟩:=hL.rB.own.sl.shape;refine jL YV h16.fr.oB (sX (n:=1) (T:=BkT) hrb) rfl (λu hu=>by
    simp only[bC,cA,gG]at hu;rcases hu with rfl|rfl|rfl|rfl|rfl
    ·rfl
    ·rw[el1];rfl
    ·rw[ea1];rfl
    ·rw[eb1];rfl
    ·rfl) (by omega) (by omega) h16.base λv' w17 hO17 hc17 hv17=>?_
   have hp17:=hc17.at h16.ps nE;have hf17:=hc17.at h16.fr.hf nF;refine⟨by rw[eD];exact⟨_,cF hp17,rfl⟩,ld1 (M':=M3) ⟨hc17.at L16.1 n1,L16.2.up hc17.size⟩,?_⟩;rw[dB,bE,bL,aI];obtain⟨vp,vc,ev,_⟩:=hO17.sl.shape;refine kQ hf17 (by rw[ev];rfl) (by simp) λw18 hz18 hf18 hc18=>?_;have L18:Loc w0 w17 p f M3 vt b1 PpT [.pointer (some ⟨p,0,none⟩)]:=⟨hc17.at L16.1 n1,L16.2.up hc17.size⟩;have nf1:b1≠f:=λe=>L16.2.2.2.1 (e▸aW);have L19:=L18.one hc18 nf1;have hzx:=hx16.size;have hub:∀k,k∈ub [str t.t,vl,va,vb,i64 t.a]↔vl.ownBlock=some k\/va.ownBlock=some k\/vb.ownBlock=some k:=λk=>by
    rw[show [str t.t,vl,va,vb,i64 t.a]=[str t.t]++([vl]++([va]++([vb]++[i64 t.a])))from rfl];simp only[nL,bK,jW];simp[Value.ownBlock]
   have hnd:(ub [str t.t,vl,va,vb,i64 t.a]).Nodup:=by
    rw[show [str t.t,vl,va,vb,i64 t.a]=[str t.t]++([vl]++([va]++([vb]++[i64 t.a])))from rfl];simp only[nL];rw[show ub [str t.t]=[]from rfl,show ub [i64 t.a]=[]from rfl,gB,fX];refine iA.2 ⟨nZ _,iA.2 ⟨nZ _,nZ _,λx hx y hy e=>by subst e;exact hL.d3 x (jW.1 hx) (jW.1 hy)⟩,λx hx y hy e=>?_⟩;subst e;rcases bK.1 hy with hy|hy
    ·exact hL.d1 x (jW.1 hx) (jW.1 hy)
    ·exact hL.d2 x (jW.1 hx) (jW.1 hy)
   obtain⟨h20,he20⟩:=h15.putB (w1:=w17) (w2:=w18) (v':=v') he15 (e:=⟨t.t,ls,x.1,x.2,t.a⟩) ⟨vl,va,vb,rfl,hL.rL.own,hL.rA.own,hL.rB.own⟩ (λk hk=>by
    rcases(hub k).1 hk with e|e|e
    ·exact hL.rL.off k e
    ·exact hL.rA.off k e
    ·exact hL.rB.off k e) hnd (λk hk=>by
    rcases(hub k).1 hk with e|e|e
    ·have:=hL.rL.new k e;omega
    ·have:=hL.rA.new k e;omega
    ·have:=hL.rB.new k e;omega) hO17 (hc0.trans hc17) (λk hk=>(hv17 k hk).imp id λe=>by omega) hc18 (by rw[hf18];simp)
   refine L19.ld rfl ?_;rw[dB,bE,eD];refine⟨_,cF h20.ps,?_⟩;rw[dB,bE,eD];refine⟨_,cB h20.fr.hf,?_⟩;dsimp only;rw[ev,gZ,gR,gI (by omega) (by omega)];have e1:((s4.bl.length+1:Nat):Int)-1=(s4.bl.length:Nat):=by omega
   rw[e1];subst hs4;exact hK _ _ rfl _ w18 h20 he20
  ·rw[efuel]at ex;rw[ex];rfl
theorem Jz:FY dead:=⟨Ij,xY⟩
theorem xV(d:Nat):FY (yE d):=⟨λN=>BH N d,Iz d⟩
theorem IA(hS:yH w0 f):∀dl,EC w0 f 32 (yE dl) dl
 |0=>KL (λd e=>by omega) (λd e=>by omega) uY Jz
 |d+1=>by
  have ih:=IA hS d
  refine KL (λd' e=>?_) (λd' e=>?_) (DD d).1 (xV d)
  ·have e:d'=d:=by omega
   subst e;exact(Ky hS d').1
  ·have e:d'=d:=by omega
   subst e;exact ih
end
theorem CG(v:Value)(w:World):(Instr.typeAssert (.iface DT v) 20 DT false).run P0 w=.ok v w:=by kernel_rfl
theorem HH(w:World)(K:Value->Prop):eqQ P0 .neq 20 false true .nilIface .nilIface w K↔K (.bool false):=by
 have h:(do eqGuard .neq 20 (wN false) (wN true) .nilIface .nilIface;binOp .neq 20 .nilIface .nilIface:Sem Value).run P0 w=.ok (.bool false) w:=by kernel_rfl
 unfold eqQ pV;rw[h];exact⟨λ⟨v,h1,h2⟩=>by cases h1;exact h2,λh2=>⟨_,rfl,h2⟩⟩
theorem Dd(v:Value)(w:World)(K:Value->Prop):eqQ P0 .neq 20 false true (.iface DT v) .nilIface w K↔K (.bool true):=by
 have h:(do eqGuard .neq 20 (wN false) (wN true) (.iface DT v) .nilIface;binOp .neq 20 (.iface DT v) .nilIface:Sem Value).run P0 w=.ok (.bool true) w:=by kernel_rfl
 unfold eqQ pV;rw[h];exact⟨λ⟨v,h1,h2⟩=>by cases h1;exact h2,λh2=>⟨_,rfl,h2⟩⟩
theorem MY{a b:Value}{K:World->Prop}(hK:K w):wX P0 29 [a,b] .returning w K:=by
 letI:=noX;refine OH .idle ?_;unfold R29;rw[HH,bQ];exact hK
theorem IZ{a b d:Nat}{Ta Tb:TypeId}{K:World->Prop}(ha:w.heap[a]?=some (.cells cs.toArray Ta (0,0)))(hl:cs.length=3)(hb:w.heap[b]?=some (.cells [v].toArray Tb (0,0)))(hab:a≠b)
  (hK:∀w',Chg (λk=>k=a\/k=b) w w'->w'.heap[a]?=some (.cells [.slice none 0 0,.slice none 0 0,.slice none 0 0].toArray Ta (0,0))->w'.heap[b]?=some (.cells [.pointer (some ⟨d,0,none⟩)].toArray Tb (0,0))->K w'):
  wX P0 29 [.pointer (some ⟨a,0,none⟩),.pointer (some ⟨b,0,none⟩)] (.panicking [{v:=.iface DT (.pointer (some ⟨d,0,none⟩)),recovered:=false}]) w K:=by
 letI:=noX;refine OH (.thrown _) ?_;unfold R29;rw[Dd,dG,dN];refine⟨_,CG _ _,?_⟩;refine cY (l:=[.slice none 0 0,.slice none 0 0,.slice none 0 0]) (w:=w.drew) ha rfl hl rfl λw2 hz2 ha2 hc2=>?_;refine⟨⟨_,CG _ _,rfl⟩,?_⟩;have hb2:=hc2.at (w:=w.drew) hb (λe=>hab e.symm);refine kQ hb2 rfl (by simp) λw3 hz3 hb3 hc3=>?_;refine hK w3 ?_ (hc3.at ha2 hab) (by rw[hb3];simp);exact((Chg.drew (Chg.refl _ w)).trans (hc2.mono λk _ e=>.inl e)).trans (hc3.mono λk _ e=>.inr e)
structure FO(w:World)(B:Nat)(M:Lay)(fl:Fl):Prop where
 oE:Own w B ExT 5 M.vE fl.ex.length M.cE
 oB:Own w B BkT 5 M.vB fl.bl.length M.cB
 oT:Own w B jY 1 M.vT fl.top.length (ints fl.top)
 ee:kO (ExR w B) 5 fl.ex M.cE
 bb:kO (BkR w B) 5 fl.bl M.cB
 nd:(ub ([M.vE,M.vB,M.vT]++(M.cE++M.cB))).Nodup
 lt:∀k∈ub ([M.vE,M.vB,M.vT]++(M.cE++M.cB)),k<w.heap.size
 lo:∀k∈ub ([M.vE,M.vB,M.vT]++(M.cE++M.cB)),B<=k
theorem FR.out{B f:Nat}{M:Lay}{ex:List Ex}{bl:List Blk}{top:List Nat}(h:FR w B f M ex bl top):FO w B M ⟨ex,bl,top⟩:=by
 have hn:=h.nd;unfold Lay.uses at hn;rw[dK]at hn;exact⟨h.oE,h.oB,h.oT,h.ee,h.bb,hn.2,λk hk=>h.lt k (aD _ hk),λk hk=>(h.lo k (aD _ hk)).resolve_left λe=>hn.1 (e▸hk)⟩
theorem FO.keep{B:Nat}{M:Lay}{fl:Fl}(h:FO w B M fl)(hc:Chg S w w')(hS:∀k,B<=k->k<w.heap.size->k∈ub ([M.vE,M.vB,M.vT]++(M.cE++M.cB))->¬S k):FO w' B M fl:=by
 have hu:∀v∈[M.vE,M.vB,M.vT]++(M.cE++M.cB),∀k,v.ownBlock=some k->¬S k:=λv hv k hk=>hS k (h.lo k (eF hv hk)) (h.lt k (eF hv hk)) (eF hv hk);refine⟨eG h.oE hc (hu _ (by simp)),eG h.oB hc (hu _ (by simp)),eG h.oT hc (hu _ (by simp)),?_,?_,h.nd,λk hk=>dD (h.lt k hk) hc.size,h.lo⟩
 ·refine h.ee.imp λx d hd hx=>hx.at_ hc λk hk=>?_;obtain⟨v,hv,hk⟩:=bZ.1 hk;exact hu v (by simp[hd v hv]) k hk
 ·refine h.bb.imp λx d hd hx=>hx.at_ hc λk hk=>?_;obtain⟨v,hv,hk⟩:=bZ.1 hk;exact hu v (by simp[hd v hv]) k hk
theorem ExR.low{B B':Nat}{e:Ex}{d:List Value}(h:ExR w B e d)(hb:B'<=B):ExR w B' e d:=by
 obtain⟨va,vk,e1,h1,h2⟩:=h;exact⟨va,vk,e1,h1.base hb,h2.base hb⟩
theorem BkR.low{B B':Nat}{e:Blk}{d:List Value}(h:BkR w B e d)(hb:B'<=B):BkR w B' e d:=by
 obtain⟨vl,va,vk,e1,h1,h2,h3⟩:=h;exact⟨vl,va,vk,e1,h1.base hb,h2.base hb,h3.base hb⟩
theorem FO.low{B B':Nat}{M:Lay}{fl:Fl}(h:FO w B M fl)(hb:B'<=B):FO w B' M fl:=
 ⟨h.oE.base hb,h.oB.base hb,h.oT.base hb,h.ee.imp λx d _ hx=>hx.low hb,h.bb.imp λx d _ hx=>hx.low hb,h.nd,h.lt,λk hk=>dR hb (h.lo k hk)⟩
section
variable{w0 w w1 w2:World}{p f:Nat}{M:Lay}{vt:Value}{s:PS}{top:List Nat}
theorem II(M:Lay)(f:Nat):(M.uses f).Perm (f::(ub [M.vT]++ub ([M.vE,M.vB]++(M.cE++M.cB)))):=by
 rw[CH];intro a;unfold Lay.uses;simp only[nL,kH,wR];rw[vK M.vE,vK M.vB,vK M.vE [M.vB]];simp only[kH];omega
theorem PR.putT(h:PR w0 w p f M vt s top){x:Nat}{v':Value}(hO:Own w1 w0.heap.size jY 1 v' (top.length+1) (ints top++[i64 (x:Nat)]))(hc1:Chg (λk=>M.vT.ownBlock=some k) w w1)(hv:∀k,v'.ownBlock=some k->M.vT.ownBlock=some k\/w.heap.size<=k)
  (hc2:Chg (One f) w1 w2)(hf:w2.heap[f]?=some (.cells [M.vE,M.vB,v'].toArray FlT (0,0))):PR w0 w2 p f {M with vT:=v'} vt s (top++[x]):=by
 have hb:=h.base;have pT:=II M f;have use:∀k,M.vT.ownBlock=some k->k∈M.uses f:=λk hk=>aD _ (eF (v:=M.vT) (by simp) hk);have hnd0:=pT.nodup_iff.1 h.fr.nd;have hnd:=hnd0;rw[dK,iA]at hnd;obtain⟨nf,_,nb,nab⟩:=hnd;have inU:∀k∈ub ([M.vE,M.vB]++(M.cE++M.cB)),k∈M.uses f:=λk hk=>pT.mem_iff.2 (aD _ (bP _ hk));have rest:∀k∈ub ([M.vE,M.vB]++(M.cE++M.cB)),M.vT.ownBlock≠some k/\k≠f/\k<w.heap.size:=λk hk=>
  ⟨λe=>nab k (jW.2 e) k hk rfl,λe=>nf (e▸bP _ hk),h.fr.lt k (inU k hk)⟩
 have c12:Chg (λk=>M.vT.ownBlock=some k\/k=f) w w2:=(hc1.mono λk _ e=>.inl e).trans (hc2.mono λk _ e=>.inr e);have sub:∀v∈[M.vE,M.vB]++(M.cE++M.cB),∀k,v.ownBlock=some k->¬(M.vT.ownBlock=some k\/k=f):=λv hv k hk e=>by
  have:=rest k (eF hv hk);exact e.elim this.1 this.2.1
 have hOf:∀k,v'.ownBlock=some k->k≠f:=λk hk e=>by
  subst e;rcases hv k hk with e|e
  ·exact nf (cD _ (jW.2 e))
  ·have:=mB h.fr.hf;omega
 have nE:M.vT.ownBlock≠some p:=λe=>h.np (use p e);have pf:p≠f:=λe=>h.np (e▸aW);have perm:=II {M with vT:=v'} f;have hN:(f::(ub [v']++([]++ub ([M.vE,M.vB]++(M.cE++M.cB))))).Nodup:=Gv (n:=w.heap.size) (a:=ub [M.vT]) hnd0 (λk hk=>h.fr.lt k (pT.mem_iff.2 hk)) (nZ _) (λk hk=>(hv k (jW.1 hk)).imp (λe=>jW.2 e) id) mI λk hk=>by cases hk
 have hz:=c12.size;have mem:∀k∈({M with vT:=v'}:Lay).uses f,k=f\/v'.ownBlock=some k\/k∈ub ([M.vE,M.vB]++(M.cE++M.cB)):=λk hk=>by
  have hk:=perm.mem_iff.1 hk;rcases bC.1 hk with e|e
  ·exact .inl e
  rcases bK.1 e with e|e
  ·exact .inr (.inl (jW.1 e))
  ·exact .inr (.inr e)
 refine⟨?_,⟨hf,?_,?_,?_,?_,?_,perm.nodup_iff.2 hN,λk hk=>?_,λk hk=>?_⟩,?_,?_,λe=>?_,h.lo,λk hk=>?_⟩
 ·refine h.ch.then c12 λk hk e=>?_;rcases e with e|e
  ·exact(h.fr.lo k (use k e)).resolve_right (by omega)
  ·exact e
 ·exact eG h.fr.oE c12 (sub _ (by simp))
 ·exact eG h.fr.oB c12 (sub _ (by simp))
 ·rw[aP,aB,aK,Dp];exact eG hO hc2 λk hk e=>hOf k hk e
 ·refine h.fr.ee.imp λx d hd hx=>hx.at_ c12 λk hk=>?_;obtain⟨v,hv,hk⟩:=bZ.1 hk;exact sub v (by simp[hd v hv]) k hk
 ·refine h.fr.bb.imp λx d hd hx=>hx.at_ c12 λk hk=>?_;obtain⟨v,hv,hk⟩:=bZ.1 hk;exact sub v (by simp[hd v hv]) k hk
 ·rcases mem k hk with e|e|e
  ·rw[e];exact mB hf
  ·exact dD (kJ hO e).1 hc2.size
  ·exact dD (rest k e).2.2 hz
 ·rcases mem k hk with e|e|e
  ·exact .inl e
  ·exact .inr (kJ hO e).2
  ·exact h.fr.lo k (inU k e)
 ·exact c12.at h.ps λe=>e.elim nE pf
 ·exact rR h.tk c12 λk hk e=>by
   have:=(h.nt k hk).1;rcases e with e|e
   ·exact this (use k e)
   ·exact this (e▸aW)
 ·rcases mem p e with e|e|e
  ·exact pf e
  ·exact(hv p e).elim nE λe=>by have:=h.lt;omega
  ·exact h.np (inU p e)
 ·have ht:=h.nt k hk;refine⟨λe=>?_,ht.2.1,dD ht.2.2 hz⟩;rcases mem k e with e|e|e
  ·exact ht.1 (e▸aW)
  ·exact(hv k e).elim (λe=>ht.1 (use k e)) λe=>by omega
  ·exact ht.1 (inU k e)
end
def TabI(w:World):Prop:=∃m,w.cell? ⟨0,0,none⟩=some (.int .i64 m)
section
variable [HX]
def UW:Prop:=∀(w:World) (K:Q0) (s:Str),TabI w->s.length<=1000000->
 (∀l,nP s=.ok l->∀v w',Ext w w'->SlAt w' TkT v l.length (toks l)->(∀k,v.ownBlock=some k->w.heap.size<=k/\k<w'.heap.size)->K (.tuple #[v,.pointer none]) w')->
 (∀c a,nP s=.bad c a->∀d w',Ext w w'->w.heap.size<=d->w'.heap[d]?=some (.cells [i64 c,str [],i64 a].toArray 48 (0,0))->K (.tuple #[.slice none 0 0,.pointer (some ⟨d,0,none⟩)]) w')->
 aJ P0 28 [str s] w K
end
theorem TabI.chg{f:Nat}(h:TabI w)(hc:Chg (Of f) w w')(hf:w.heap[f]?=some (.cells cs.toArray FlT (0,0)))(h0:∀m,cs[0]?≠some (.int .i64 m)):TabI w':=by
 obtain⟨m,h⟩:=h;refine⟨m,?_⟩;rw[cM]at h⊢;cases hx:w.heap[0]? with
 |none=>rw[hx]at h;cases h
 |some o=>
  rw[hc.at hx ?_]
  ·rw[hx]at h;exact h
  ·intro e;have e:0=f:=e;subst e;rw[hf,bT]at h;exact h0 m (by simpa using h)
theorem Rc[HX](hS:∀[HX],UW){t:Str}{K:Q0}(hT:TabI w)(hl:t.length<=1000000)
  (hok:∀fl,pO t=.ok fl->∀M w',Ext w w'->FO w' w.heap.size M fl->(fl.ex.length<=100000/\fl.bl.length<=100000/\fl.top.length<=100000)->K (.tuple #[.agg [M.vE,M.vB,M.vT].toArray,.pointer none]) w')
  (hbad:∀c a,pO t=.bad c a->∀d w',Ext w w'->w.heap.size<=d->w'.heap[d]?=some (.cells [i64 c,str [],i64 a].toArray 48 (0,0))->K (.tuple #[.agg [.slice none 0 0,.slice none 0 0,.slice none 0 0].toArray,.pointer (some ⟨d,0,none⟩)]) w'):
  aJ P0 12 [str t] w K:=by
 refine Ye ?_;unfold W12;refine cK λf w1 hf hz1 hbb1 hx1=>?_;refine cK λbd w2 hbd hz2 hbb2 hx2=>?_;have hx02:=hx1.trans hx2;have hf2:=hx2.at hbb1 id;have hT2:TabI w2:=by
  obtain⟨m,h⟩:=hT;refine⟨m,?_⟩;rw[cM]at h⊢;cases hx:w.heap[0]? with
  |none=>rw[hx]at h;cases h
  |some o=>rw[hx02.at hx id];rw[hx]at h;exact h
 unfold pO at hok hbad;refine hS w2 _ t hT2 hl (λl hsc v w3 hx3 hv hvn=>?_) (λc a hsc d w3 hx3 hd hdb=>?_)
 ·rw[bY];refine⟨v,rfl,?_⟩;rw[bY];refine⟨.pointer none,rfl,?_⟩;have hbd3:=hx3.at hbb2 id;have hf3:=hx3.at hf2 id;refine kQ hbd3 rfl (by simp) λw4 hz4 hbb4 hc4=>?_;have hbb4:w4.heap[bd]?=some (.cells [.pointer none].toArray 29 (0,0)):=by rw[hbb4];simp
  have hf4:=hc4.at hf3 (by omega);refine⟨.pointer none,by rw[cM,hbb4];rfl,?_⟩;show bB (.bool false) _ _;rw[bQ];have hx4:Ext w w4:=(hx02.trans hx3).new (hc4.mono λk _ e=>e) (by omega);have hlt4:=mB hf4;have hT4:TabI w4:=by
   obtain⟨m,h⟩:=hT;refine⟨m,?_⟩;rw[cM]at h⊢;cases hx:w.heap[0]? with
   |none=>rw[hx]at h;cases h
   |some o=>rw[hx4.at hx id];rw[hx]at h;exact h
  have hv4:SlAt w4 TkT v l.length (toks l):=rR hv hc4 λk hk e=>by have:=(hvn k hk).1;have e:k=bd:=e;omega
  letI inst:HX:=⟨λch x10=>wX P0 29 [.pointer (some ⟨f,0,none⟩),.pointer (some ⟨bd,0,none⟩)] (.panicking ch) x10 λw10=>
   ldW true 3 (.pointer (some ⟨f,0,none⟩)) w10 λr11=>
   ldW false 1 (.pointer (some ⟨bd,0,none⟩)) w10 λr12=>
   K (.tuple #[r11,r12]) w10⟩
  have hSC:yH w4 f:=λw' KK s hc hsl h1 h2=>hS w' KK s (hT4.chg hc hf4 (by simp)) hsl h1 h2;have hThr:∀c a,(∀d w',Ext w w'->w.heap.size<=d->w'.heap[d]?=some (.cells [i64 c,str [],i64 a].toArray 48 (0,0))->K (.tuple #[.agg [.slice none 0 0,.slice none 0 0,.slice none 0 0].toArray,.pointer (some ⟨d,0,none⟩)]) w')->Thr w4 f c a:=by
   intro c a hb d w' cs hc hd hcs hcf hdb;have hzc:=hx4.size;refine IZ hcf hcs (hc.at hbb4 (by show¬bd=f;omega)) (by omega) λw5 hc5 ha5 hb5=>?_;refine gF ha5 rfl ?_;refine⟨_,by rw[cM,hb5];rfl,?_⟩;have hd':w4.heap.size<=d:=hd;have hzx3:=hx3.size;refine hb d w5 ?_ (by omega) (hc5.at hdb (by show¬(d=f\/d=bd);omega));refine(hx4.then hc λk hk e=>?_).then hc5 λk hk e=>?_
   ·have e:k=f:=e;omega
   ·omega
  obtain⟨q,cap,ev,_⟩:=hv.shape;subst ev;simp only[eP,dP,iJ,dN,aB,aK,aM,aQ,Nat.reduceAdd,Nat.reduceLT,dJ,aY];refine fZ (z:=[.slice q l.length cap,i64 0,i64 0,.pointer (some ⟨f,0,none⟩),i64 0,.bool false]) λp w5 hp hz5 hpb hx5=>?_;have hzx3:=hx3.size;have hf5:=hx5.at hf4 id;have hbd5:=hx5.at hbb4 id;let M0:Lay:=⟨.slice none 0 0,.slice none 0 0,.slice none 0 0,[],[]⟩;have huse:M0.uses f=[f]:=rfl;have hPR:PR w4 w5 p f M0 (.slice q l.length cap) ⟨l,0,0,0,false,[],[]⟩ []:=
   ⟨Chg.of_ext hx5,⟨hf5,⟨by simp[M0],.inl ⟨rfl,rfl⟩⟩,⟨by simp[M0],.inl ⟨rfl,rfl⟩⟩,⟨by simp[ints],.inl ⟨rfl,rfl⟩⟩,kO.nil _ _,kO.nil _ _,by rw[huse];simp,by rw[huse];intro k hk;simp only[bX]at hk;omega,by rw[huse];intro k hk;simp only[bX]at hk;exact .inl hk⟩,
    hpb,hv4.ext hx5,by rw[huse];simp only[bX];omega,by omega,λk hk=>by
     have hb:=hvn k hk;rw[huse];simp only[bX];omega⟩
  have htg:=AA (N:=(t.length:Nat)) (off:=0) hsc (mN _) (by omega);have hfew:=uN hsc;have hwt:=Cq hsc;have hg0:Gd (t.length:Nat) ⟨l,0,0,0,false,[],[]⟩ 24:=⟨⟨htg,iG.2 htg.ne,by omega⟩,by omega,hfew.1,Cr hsc,by unfold Syn.phi;simp only[aK,eZ];omega,rfl⟩;rw[hsc]at hok hbad;simp only at hok hbad;have hN:=hg0.hN;refine yU hPR hg0.ws hN hg0.l λw6 h6 he6=>?_;have hg1:=hg0.lines;have et1:=congrArg List.length (mD hg0.ws).1.toks;generalize hR:zG (l.length+1) (jE ⟨l,0,0,0,false,[],[]⟩) []=R0 at hok hbad;have hbdk:∀{w':World},Chg (Of f) w4 w'->w'.heap[bd]?=some (.cells [.pointer none].toArray 29 (0,0)):=λhc=>hc.at hbb4 (by show¬bd=f;omega);refine dL.go (λst w'=>st=[]/\∃s1 M1 top n,PR w4 w' p f M1 (.slice q l.length cap) s1 top/\Gd (t.length:Nat) s1 24/\zG n s1 top=R0/\s1.toks.length<n+s1.i/\top.length<=s1.i/\s1.toks.length=l.length) (λ_ w'=>l.length-zY w' p)
   ⟨rfl,_,M0,[],l.length+1,h6,hg1,hR,by rw[et1];show l.length<_;omega,by simp,by rw[et1]⟩ ?_
  rintro st g w7 ⟨rfl,s1,M1,top,n,h7,hg7,htop,hn,htl,htk⟩;have hlt7:=hg7.ws.lt;obtain⟨n,rfl⟩:∃m,n=m+1:=⟨n-1,by omega⟩;simp only[zG]at htop;have hgn:=hg7.now;have ng:=jN hg7.ws;have ngt:=congrArg List.length ng.toks;have ngi:=ng.le;refine pL h7 hg7.ws hN hg7.l λw8 h8 he8=>?_;refine⟨i64 (cur s1).k,rfl,?_⟩;dsimp only;rw[dQ,bD];refine⟨λhk0=>?_,λhk0=>?_⟩
  ·have hk0:(cur s1).k≠0:=hk0;rw[aL hk0]at htop;have h8:=h8.drew;rw[bE,eD];refine⟨M1.vT,by rw[bL,cM,h8.fr.hf,bT];rfl,?_⟩;refine IA hSC 24 w8.drew p M1 _ _ top _ _ h8 hgn (λx s2 ex M2 w9 h9 he9=>?_) λc a' ex=>hThr c a' (hbad c a' (by rw[<-htop,ex];rfl));rw[ex]at htop;simp only[R.bind]at htop;obtain⟨hg9,hi9,ht9⟩:=hgn.bk (xV 24) ex;have ht9:=congrArg List.length ht9;have eT:=he9.hT;have ldT:∀{w':World},w'.heap[f]?=some (.cells [M2.vE,M2.vB,M2.vT].toArray FlT (0,0))->ldW false 1 (.pointer (some ((⟨f,0,none⟩:Addr).add 2))) w' λx=>x=M1.vT:=λh=>by
    rw[eD];exact⟨M2.vT,by rw[bL,cM,h,bT];rfl,eT⟩
   refine⟨ldT h9.fr.hf,?_⟩;refine mF λr w10 hr hz10 hrb hx10=>?_;have h10:=h9.ext hx10;refine⟨ldT h10.fr.hf,?_⟩;have few:=hg7.few;have hzx:=hx10.size;have nF:¬M2.vT.ownBlock=some f:=λe=>by
    have hnd:=(II M2 f).nodup_iff.1 h10.fr.nd;rw[dK]at hnd;exact hnd.1 (cD _ (jW.2 e))
   rw[<-eT];refine jL Aj h10.fr.oT (sX (n:=1) (T:=jY) hrb) rfl (λu hu=>by simp only[bX]at hu;subst hu;rfl) (by omega) (by omega) h10.base λv' w11 hO11 hc11 hv11=>?_;have hf11:=hc11.at h10.fr.hf nF;rw[bE,bL,aI];obtain⟨vp,vc,ev,_⟩:=hO11.sl.shape;refine kQ hf11 (by rw[ev];rfl) (by simp) λw12 hz12 hf12 hc12=>?_;have h12:=h10.putT (w1:=w11) (w2:=w12) (x:=x) hO11 hc11 hv11 hc12 (by rw[hf12];simp);have hg10:=hg9.now;have ng9:=jN hg9.ws;have ng9t:=congrArg List.length ng9.toks;have ng9i:=ng9.le;refine dE.cut (λ_ w'=>PR w4 w' p f {M2 with vT:=v'} (.slice q l.length cap) (bM s2) (top++[x])/\zG n (jE (bM s2)) (top++[x])=R0) ?_ ?_
   ·refine pL h12 hg9.ws hN hg9.l λw13 h13 he13=>?_;refine⟨i64 (cur s2).k,rfl,?_⟩;dsimp only;rw[dQ];simp only[fT,dQ,nH];intro g2;simp only[aC];rw[fG,eJ];refine⟨λhb=>?_,λhb=>?_⟩
    ·have hb:(cur s2).k≠5/\(cur s2).k≠0:=by simpa using hb
     rw[aU hb]at htop;refine pL h13 hg10.ws hN hg10.l λw14 h14 he14=>?_;refine⟨i64 (cur (bM s2)).a,rfl,?_⟩;exact rP h14 (hThr 50 _ (hbad 50 _ (by rw[<-htop])))
    ·have hb:¬((cur s2).k≠5/\(cur s2).k≠0):=by simpa using hb
     rw[aL hb]at htop;exact⟨h13,htop⟩
   rintro _ g2 w13 ⟨h13,htop⟩;refine yU h13 hg10.ws hN hg10.l λw14 h14 he14=>?_;have lg:=mD hg10.ws;have lgt:=congrArg List.length lg.1.toks;have lgi:=lg.1.le;have hgl:=hg10.lines;have hltl:=hgl.ws.lt;refine⟨⟨rfl,jE (bM s2),_,top++[x],n,h14,hgl,htop,by omega,by rw[aP,aB,aK];omega,by omega⟩,?_⟩;rw[h14.at_,h7.at_];omega
  ·have hk0:(cur s1).k=0:=by
    by_cases h:(cur s1).k=0
    ·exact h
    ·exact absurd h hk0
   rw[aU hk0]at htop;refine gF h8.fr.hf rfl ?_;obtain⟨ep,ec,e1,_⟩:=h8.fr.oE.sl.shape;obtain⟨bp,bc,e2,_⟩:=h8.fr.oB.sl.shape;obtain⟨tp,tc,e3,_⟩:=h8.fr.oT.sl.shape;refine cY (l:=[M1.vE,M1.vB,M1.vT]) h8.fr.hf rfl rfl (by rw[e1,e2,e3];rfl) λw9 hz9 hf9 hc9=>?_;have hc49:Chg (Of f) w4 w9:=h8.ch.trans (hc9.mono λk _ e=>e);refine kQ (hbdk hc49) rfl (by simp) λw10 hz10 hbd10 hc10=>?_;have hf10:=hc10.at hf9 (by omega);refine MY ?_;refine gF hf10 rfl ?_;refine⟨.pointer none,by rw[cM,hbd10];rfl,?_⟩;have hFO:=h8.fr.out;have hFO:=hFO.keep hc9 λk hk hlt hu e=>by have e:k=f:=e;omega
   have hFO:=hFO.keep hc10 λk hk hlt hu e=>by have e:k=bd:=e;omega
   have hzc:=hx4.size;rw[<-htop]at hok;have few:=hg7.few;refine hok _ rfl M1 w10 ?_ (hFO.low hzc) ⟨hgn.ex.1,hgn.ex.2,by show top.length<=_;omega⟩;refine(hx4.then hc49 λk hk e=>?_).then hc10 λk hk e=>?_
   ·have e:k=f:=e;omega
   ·have e:k=bd:=e;omega
 ·rw[bY];refine⟨.slice none 0 0,rfl,?_⟩;rw[bY];refine⟨.pointer (some ⟨d,0,none⟩),rfl,?_⟩;have hbd3:=hx3.at hbb2 id;have hf3:=hx3.at hf2 id;refine kQ hbd3 rfl (by simp) λw4 hz4 hbb4 hc4=>?_;have hbb4:w4.heap[bd]?=some (.cells [.pointer (some ⟨d,0,none⟩)].toArray 29 (0,0)):=by rw[hbb4];simp
  have hf4:=hc4.at hf3 (by omega);refine⟨.pointer (some ⟨d,0,none⟩),by rw[cM,hbb4];rfl,?_⟩;show bB (.bool true) _ _;rw[dG,dN];refine⟨.pointer (some ⟨d,0,none⟩),by rw[cM,heap_drew,hbb4];rfl,?_⟩;refine cY (w:=w4.drew) (l:=[.slice none 0 0,.slice none 0 0,.slice none 0 0]) hf4 rfl rfl rfl λw5 hz5 hf5 hc5=>?_;have hbb5:=hc5.at (w:=w4.drew) hbb4 (by omega);refine⟨⟨.pointer (some ⟨d,0,none⟩),by rw[cM,hbb5];rfl,rfl⟩,?_⟩;refine kQ hbb5 rfl (by simp) λw6 hz6 hbb6 hc6=>?_;have hf6:=hc6.at hf5 (by omega);refine gF hf6 rfl ?_;refine⟨.pointer (some ⟨d,0,none⟩),by rw[cM,hbb6];rfl,?_⟩;have hx3':=hx02.trans hx3;have hd4:=hc4.at hdb (by omega);have hd5:=hc5.at (w:=w4.drew) hd4 (by omega);refine hbad c a (by rw[hsc]) d w6 ?_ (by omega) (hc6.at hd5 (by omega));exact(((hx3'.new hc4 (by omega)).trans (cQ w4)).new hc5 (by omega)).new hc6 (by omega)
abbrev cv(c:UInt8):Value:=.int .u8 (c.toNat:Nat)
theorem tJ(a c:UInt8):decide (((a.toNat:Nat):Int)<=((c.toNat:Nat):Int))=decide (a<=c):=by
 rw[decide_eq_decide,UInt8.le_iff_toNat_le];omega
theorem wG(a c:UInt8):decide (((c.toNat:Nat):Int)=((a.toNat:Nat):Int))=(c==a):=by
 rw[nX,decide_eq_true_iff,iK,<-mL];omega
section
variable [HX]
theorem xO{K:Q0}(hK:K (.bool (iM c)) w):aJ P0 108 [cv c] w K:=by
 refine Ut ?_;unfold aAF;have e1:decide ((97:Int)<=((c.toNat:Nat):Int))=decide (97<=c):=tJ 97 c;have e2:decide (((c.toNat:Nat):Int)<=122)=decide (c<=122):=tJ c 122;have e3:decide ((65:Int)<=((c.toNat:Nat):Int))=decide (65<=c):=tJ 65 c;have e4:decide (((c.toNat:Nat):Int)<=90)=decide (c<=90):=tJ c 90;have e5:decide (((c.toNat:Nat):Int)=95)=(c==95):=wG 95 c;simp only[fS,gN,cL,e1,e2,e3,e4,e5];unfold iM at hK;generalize decide (97<=c)=a at*
 generalize decide (c<=122)=b at*
 generalize decide (65<=c)=d at*
 generalize decide (c<=90)=e at*
 generalize (c==95)=g at*
 cases a<;>cases b<;>cases d<;>cases e<;>cases g<;>
  (simp only[fT,iB,HP,Ce,nH,aO,aN,iE,eX,aC,dH,cH];intros;exact hK)
theorem Cz{K:Q0}(hK:K (.bool (lK c)) w):aJ P0 110 [cv c] w K:=by
 refine Ur ?_;unfold aAD;have e1:decide ((48:Int)<=((c.toNat:Nat):Int))=decide (48<=c):=tJ 48 c;have e2:decide (((c.toNat:Nat):Int)<=57)=decide (c<=57):=tJ c 57;simp only[fS,gN,e1,e2];unfold lK at hK;generalize decide (48<=c)=a at*
 generalize decide (c<=57)=b at*
 cases a<;>cases b<;>
  (simp only[fT,iB,HP,Ce,nH,aO,aN,iE,eX,aC,dH,cH];intros;exact hK)
theorem vD{g:FuncId}{args:List Value}{K:Q0}(h:aJ P g args w K):nV P (.func (.func g) #[] #[]) args w K:=hY (caps:=[]) (by rw[fX];exact h)
theorem Rr{K:Q0}(hK:K (.bool (jH c)) w):aJ P0 109 [cv c] w K:=by
 refine Us ?_;unfold aAE;refine xO ?_;have e5:decide (((c.toNat:Nat):Int)=45)=(c==45):=wG 45 c;unfold jH at hK;simp only[iB,cL,e5];refine GdW.look (lK c) (λ_ J hJ=>Cz hJ) λg=>?_;simp only[aC];rw[lG];simp only[iB,nH,aC];intro g2;rw[lG];exact hK
theorem Rq{K:Q0}(hK:K (.bool (jH c)) w):aJ P0 150 [cv c] w K:=by
 refine TM ?_;unfold aAc;refine xO ?_;have e5:decide (((c.toNat:Nat):Int)=45)=(c==45):=wG 45 c;unfold jH at hK;simp only[iB,cL,e5];refine GdW.look (lK c) (λ_ J hJ=>Cz hJ) λg=>?_;simp only[aC];rw[lG];simp only[iB,nH,aC];intro g2;rw[lG];exact hK
theorem Ry{K:Q0}(hK:K (.bool (c !=10)) w):aJ P0 106 [cv c] w K:=by
 refine Uu ?_;unfold aAG;rw[dQ];have e:decide (((c.toNat:Nat):Int)≠10)=(c !=10):=by
  have e5:decide (((c.toNat:Nat):Int)=10)=(c==10):=wG 10 c;rw[bne,<-e5,decide_not]
 rw[e];exact hK
theorem Ka{q:UInt8->Bool}{fv:Value}{s:Str}{K:Q0}(hl:s.length<=1000000)(hq:∀c {w:World} {K:Q0},K (.bool (q c)) w->nV P0 fv [cv c] w K)(hK:K (i64 (gQ q s:Nat)) w):aJ P0 105 [str s,fv] w K:=by
 refine Uv ?_;unfold aAH;rw[dV];refine dL.go (λst w'=>∃i:Nat,st=[i64 (i:Nat)]/\i<=s.length/\w'=w/\i+gQ q (s.drop i)=gQ q s) (λst _=>match st with|[.int _ i]=>s.length-i.toNat|_=>0) ⟨0,rfl,by omega,rfl,by simp⟩ ?_;rintro st g w' ⟨i,rfl,hi,rfl,hr⟩;simp only[aC];rw[dI,bD];refine⟨λhlt=>?_,λhge=>?_⟩
 ·have hlt:i<s.length:=by omega
  rw[lD hlt]at hr;simp only[gQ]at hr;refine sA hlt ?_;refine hq _ ?_;rw[fH,eJ];refine⟨λhn=>?_,λhy=>?_⟩
  ·rw[aL (by simpa using hn),bJ]at hr;rw[hr];exact hK
  ·rw[aU (by simpa using hy)]at hr;rw[cJ,upi (by omega)];refine⟨⟨i+1,rfl,by omega,rfl,by omega⟩,?_⟩;simp only[aV];omega
 ·obtain rfl:i=s.length:=by omega
  rw[gU]at hr;simp only[gQ,bJ]at hr;rw[dV,hr];exact hK
theorem Ds{l:Str}{K:Q0}(hK:K (i64 (Lib.indexByte l c)) w):aJ P0 104 [str l,cv c] w K:=by
 refine lN (args:=#[str l,cv c]) Tryz.call104 ((Tryz.strings_IndexByte (ofL l) (c.toNat:Nat) w).mono ?_);rintro e w' ⟨rfl,rfl⟩;refine⟨_,rfl,?_⟩;rw[jD];simpa using hK
theorem NT{s:Str}{K:Q0}(hT:TabI w)(hl:s.length<=1000000)(hK:K (i64 (Lib.index s [42,47])) w):aJ P0 107 [str s,str [42,47]] w K:=by
 obtain⟨m,hm⟩:=hT;refine lN (args:=#[str s,str [42,47]]) Tryz.call107 ((Tryz.strings_Index (ofL s) (ofL [42,47]) m w (by rw[jV];omega) hm).mono ?_);rintro e w' ⟨rfl,rfl⟩;rw[jD,jD];exact⟨_,rfl,hK⟩
end
theorem Xd(c:UInt8):decide (0<=Lib.indexByte [32,9,13] c)=(c==32||c==9||c==13):=by
 have:∀m:Fin 256,decide (0<=Lib.indexByte [32,9,13] (UInt8.ofNat m.val))=(UInt8.ofNat m.val==32||UInt8.ofNat m.val==9||UInt8.ofNat m.val==13):=by decide+kernel
 have h:=this ⟨c.toNat,pJ c⟩;rwa[qI]at h
theorem aAT(c:UInt8):decide (Lib.indexByte [34,92,110,116,114,36] c<0)=!Lex.escOk c:=by
 have:∀m:Fin 256,decide (Lib.indexByte [34,92,110,116,114,36] (UInt8.ofNat m.val)<0)=!Lex.escOk (UInt8.ofNat m.val):=by decide+kernel
 have h:=this ⟨c.toNat,pJ c⟩;rwa[qI]at h
theorem Vk(c:UInt8):decide (0<=Lib.indexByte [123,125,91,93,40,41,61,43,45,42,47,37,60,62,33,63,58,44,46] c)=Bo.contains c:=by
 have:∀m:Fin 256,decide (0<=Lib.indexByte [123,125,91,93,40,41,61,43,45,42,47,37,60,62,33,63,58,44,46] (UInt8.ofNat m.val))=Bo.contains (UInt8.ofNat m.val):=by decide+kernel
 have h:=this ⟨c.toNat,pJ c⟩;rwa[qI]at h
theorem Ey(n:Nat)(c:UInt8)(r:Str):jP (n+1) (c::r)=(if(c==32||c==9||c==13)=true then((jP n r).1+1,(jP n r).2)else if(c==35||Lib.hasPrefix (c::r) [47,47])=true then((jP n ((c::r).drop (gQ (λb=>b !=10) (c::r)))).1+gQ (λb=>b !=10) (c::r),(jP n ((c::r).drop (gQ (λb=>b !=10) (c::r)))).2)
  else if Lib.hasPrefix (c::r) [47,42]=true then(if Lib.index (r.drop 1) [42,47]<0 then(0,40)else((jP n ((c::r).drop ((Lib.index (r.drop 1) [42,47]).toNat+4))).1+((Lib.index (r.drop 1) [42,47]).toNat+4),(jP n ((c::r).drop ((Lib.index (r.drop 1) [42,47]).toNat+4))).2))else(0,0)):=by
 simp only[jP,gK,iK];rfl
theorem MW{q:UInt8->Bool}{r:Str}(h:q c=true):1<=gQ q (c::r):=by simp only[gQ];rw[aU h];omega
theorem add_add(i j:Nat)(x:Nat×Int):oY i (oY j x)=oY (i+j) x:=by
 unfold oY;by_cases h:x.2=0
 ·simp only[h,qH];rw[show x.1+j+i=x.1+(i+j)by omega]
 ·simp only[aL h]
section
variable [HX]
theorem Vj{s:Str}{K:Q0}(hT:TabI w)(hl:s.length<=1000000)(hK:K (.tuple #[i64 ((jP (s.length+1) s).1:Nat),i64 (jP (s.length+1) s).2]) w):aJ P0 60 [str s] w K:=by
 refine XA ?_;unfold W60;generalize hR:jP (s.length+1) s=R0 at hK;refine dL.go (λst w'=>∃i n:Nat,st=[i64 (i:Nat)]/\i<=s.length/\w'=w/\((jP n (s.drop i)).1+i,(jP n (s.drop i)).2)=R0/\s.length<n+i) (λst _=>match st with|[.int _ i]=>s.length-i.toNat|_=>0) ⟨0,s.length+1,rfl,by omega,rfl,by rw[eZ,hR];rfl,by omega⟩ ?_;rintro st g w' ⟨i,n,rfl,hi,rfl,hr,hn⟩;obtain⟨n,rfl⟩:∃m,n=m+1:=⟨n-1,by omega⟩;simp only[aC];rw[dV,dI,bD];refine⟨λhlt=>?_,λhge=>?_⟩
 ·have hlt:i<s.length:=by omega
  have hd:=lD hlt;rw[hd,Ey]at hr;rw[fA,fC,eR];refine⟨by omega,by omega,?_⟩;rw[dZ,aV];refine sA hlt ?_;refine Ds ?_;rw[fS,Xd,eJ];refine⟨λhb=>?_,λhb=>?_⟩
  ·rw[aU hb]at hr;rw[cJ,upi (by omega)];refine⟨⟨i+1,n,rfl,by omega,rfl,?_,by omega⟩,?_⟩
   ·rw[<-hr];simp only[gS,fM];omega
   ·simp only[aV];omega
  rw[aL (by rw[hb];decide)]at hr;have hd':=hd;rw[hd];generalize hc:s[i]=c at*
  generalize hrr:s.drop (i+1)=r at*
  have hrl:(c::r).length=s.length-i:=by rw[<-hd,aX]
  simp only[aB]at hrl;refine dE.cut (λst w2=>st=[.bool (c==35||Lib.hasPrefix (c::r) [47,47])]/\w2=w') ?_ ?_
  ·refine sA hlt ?_;rw[hc];have e5:decide (((c.toNat:Nat):Int)=35)=(c==35):=wG 35 c;rw[cL,e5,eJ];refine⟨λh=>⟨by rw[h];rfl,rfl⟩,λh=>?_⟩;refine Ai ?_;exact⟨by rw[h,dC],rfl⟩
  rintro st g2 w2 ⟨rfl,rfl⟩;simp only[aC];rw[eJ];refine⟨λhcm=>?_,λhcm=>?_⟩
  ·rw[aU hcm]at hr;refine Ka (q:=λb=>b !=10) (by simp only[aB];omega) (λc {w K} h=>vD (Ry h)) ?_;have hle:=sK (λb=>b !=10) (c::r);have hpos:1<=gQ (λb=>b !=10) (c::r):=MW (by
    rw[gK]at hcm;rcases hcm with h|h
    ·rw[iK]at h;subst h;rfl
    ·simp only[Lib.hasPrefix,List.isPrefixOf,bU,iK]at h;rw[<-h.1];rfl)
   simp only[aB]at hle;rw[cJ,gI (by omega) (by omega)];generalize gQ (λb=>b !=10) (c::r)=k at*
   refine⟨⟨i+k,n,by simp only[gP,Value.int.injEq,dJ,fM];omega,by omega,rfl,?_,by omega⟩,?_⟩
   ·rw[<-hr,<-jU,hd'];simp only[gS,fM];omega
   ·simp only[aV];omega
  rw[aL (by rw[hcm];decide)]at hr;refine Ai ?_;rw[eJ];refine⟨λhcm2=>?_,λhcm2=>?_⟩
  ·rw[aU hcm2]at hr;rw[fA,fC,eR];have h2:2<=(c::r).length:=Gn (p:=[47,42]) (s:=c::r) hcm2;simp only[aB]at h2;refine⟨by omega,by simp only[aB];omega,?_⟩;rw[dZ];show aJ P0 107 [str (r.drop 1),str [42,47]] w2 _;refine NT hT (by rw[aX];omega) ?_;rw[dI,bD];refine⟨λhneg=>?_,λhpos=>?_⟩
   ·rw[aU hneg]at hr;rw[<-hr,aI]at hK;exact hK
   ·rw[aL hpos]at hr;obtain⟨j,hj⟩:=wY (show 0<=Lib.index (r.drop 1) [42,47]by omega);have hjl:=GF _ _ hj;rw[aX]at hjl;rw[hj]at hr⊢;rw[cJ,gI (by omega) (by omega),cJ,gI (by omega) (by omega)];rw[aV]at hr;refine⟨⟨i+(j+4),n,by simp only[gP,Value.int.injEq,dJ,fM];omega,by omega,rfl,?_,by omega⟩,?_⟩
    ·rw[<-hr,<-jU,hd'];simp only[gS,fM];omega
    ·simp only[aV];omega
  ·rw[aL (by rw[hcm2];decide),aI]at hr;rw[<-hr]at hK;exact hK
 ·obtain rfl:i=s.length:=by omega
  rw[gU]at hr;simp only[jP,aI]at hr;rw[<-hr]at hK;exact hK
def rM(x:Nat×Int):List Value:=if x.2=0 then [i64 ((x.1+1:Nat):Int),i64 0]else [i64 0,i64 x.2]
def TxC(n:Nat):Prop:=∀(c:UInt8) (r:Str) (d:Nat) (w:World) (K:Q0),r.length<n->r.length<=1000000->d<=24->K (.tuple (rM (jZ r d)).toArray) w->aJ P0 112 [str (c::r),i64 (d:Nat)] w K
def InC(n:Nat):Prop:=∀(c:UInt8) (r:Str) (d:Nat) (w:World) (K:Q0),r.length<n->r.length<=1000000->d<=25->K (.tuple (rM (if 24<d then(0,7)else mH r d)).toArray) w->aJ P0 149 [str (c::r),i64 (d:Nat)] w K
theorem qE{x:Nat×Int}:rM (oY i x)=if x.2=0 then [i64 ((i+x.1+1:Nat):Int),i64 0]else [i64 0,i64 x.2]:=by
 unfold rM oY;by_cases h:x.2=0
 ·simp only[h,qH];rw[show x.1+i+1=i+x.1+1 by omega]
 ·simp only[aL h]
theorem OT(hi:InC n):TxC (n+1):=by
 intro c r d w K hn hl hd24 hK;refine Up ?_;unfold aAB;have hlen:(c::r).length=r.length+1:=rfl;generalize hR:rM (jZ r d)=R0 at hK;have cond:∀{c:UInt8} (k:Nat),k<256->(((c.toNat:Nat):Int)=(k:Int)↔c=UInt8.ofNat k):=λ{c} k hk=>by
  have:=Ev c k hk;rwa[decide_eq_decide]at this
 refine dL.go (λst w'=>∃i:Nat,st=[i64 ((i+1:Nat):Int)]/\w'=w/\i<=r.length/\rM (oY i (jZ (r.drop i) d))=R0) (λst _=>match st with|[.int _ i]=>r.length+1-i.toNat|_=>0) ⟨0,rfl,rfl,by omega,by rw[eZ,qE,<-hR];unfold rM;rw[aI]⟩ ?_;rintro st g w2 ⟨i,rfl,rfl,hi',hr⟩;simp only[aC];rw[dV,dI,bD,hlen];refine⟨λhlt=>?_,λhge=>?_⟩
 ·have hlt:i<r.length:=by omega
  have hd:=lD hlt;rw[hd,rG]at hr;simp only[iK]at hr;have ix:∀{KK:Value->Prop},KK (cv r[i])->nU (str (c::r)) (i64 ((i+1:Nat):Int)) KK:=λh=>sA (s:=c::r) (i:=i+1) (by rw[hlen];omega) h;refine ix ?_;rw[cL,bD];refine⟨λe=>?_,λe=>?_⟩
  ·have e:r[i]=34:=(cond 34 (by omega)).1 e;rw[aU e,qE,aU rfl]at hr;rw[cJ,upi (by omega)];rw[<-hr]at hK;exact hK
  have e:¬r[i]=34:=λh=>e ((cond 34 (by omega)).2 h);rw[aL e]at hr;refine ix ?_;rw[cL,bD];refine⟨λe=>?_,λe=>?_⟩
  ·have e:r[i]=10:=(cond 10 (by omega)).1 e;rw[aU e,qE,aL (by simp)]at hr;rw[<-hr]at hK;exact hK
  have e:¬r[i]=10:=λh=>e ((cond 10 (by omega)).2 h);rw[aL e]at hr;refine ix ?_;rw[cL,bD];refine⟨λe=>?_,λe=>?_⟩
  ·have e:r[i]=92:=(cond 92 (by omega)).1 e;rw[aU e]at hr;rw[cJ,upi (by omega),dV,fS,hlen];simp only[iB];by_cases hend:r.length<=i+1
   ·have e0:r.drop (i+1)=[]:=iI hend;rw[e0]at hr;simp only at hr;rw[qE,aL (by simp)]at hr;rw[bW (by omega),dH,Ce];intro g2;rw[iE,dG];rw[<-hr]at hK;exact hK
   ·have hlt2:i+1<r.length:=by omega
    have hd2:=lD hlt2;rw[hd2]at hr;simp only at hr;rw[bH (by omega),cH];refine GdW.look (!Lex.escOk r[i+1]) (λ_ J hJ=>?_) λg2=>?_
    ·rw[cJ,upi (by omega)];refine sA (s:=c::r) (i:=i+2) (by rw[hlen];omega) ?_;refine Ds ?_;rw[dI];have:=aAT r[i+1];rw[show(c::r)[i+2]=r[i+1]from rfl,this];exact hJ
    simp only[aC,aO,eX];rw[eJ];refine⟨λhb=>?_,λhg=>?_⟩
    ·have hb:¬Lex.escOk r[i+1]=true:=by simpa using hb
     rw[aL hb,qE,aL (by simp)]at hr;rw[<-hr]at hK;exact hK
    ·have hg:Lex.escOk r[i+1]=true:=by simpa using hg
     rw[aU hg,add_add]at hr;rw[cJ,gI (by omega) (by omega)];refine⟨⟨i+2,by simp only[gP,Value.int.injEq,dJ,fM];omega,trivial,by omega,hr⟩,?_⟩;simp only[aV];omega
  have e:¬r[i]=92:=λh=>e ((cond 92 (by omega)).2 h);rw[aL e]at hr;rw[fA,fC,eR];refine⟨by omega,by rw[hlen];omega,?_⟩;rw[dZ,aV,eL,hd];refine Ai ?_;rw[pre_eq,eJ];refine⟨λe=>?_,λe=>?_⟩
  ·rw[aU e]at hr;have h2:=Gn e;have hlt2:i+1<r.length:=by
    simp only[aB,aK,aX]at h2;omega
   have hd2:=lD hlt2;rw[cJ,upi (by omega),fA,fC,eR];refine⟨by omega,by rw[hlen];omega,?_⟩;rw[dZ,aV,eL,hd2,cJ,upi (by omega)];have hdd:(r.drop (i+1)).drop 1=r.drop (i+2):=by rw[jU]
   rw[hdd]at hr;have hll:(r.drop (i+2)).length=r.length-(i+2):=aX ..;refine hi _ _ (d+1) _ _ (by show(r.drop (i+2)).length<n;omega) (by show(r.drop (i+2)).length<=_;omega) (by omega) ?_;have hx':∃x:Nat×Int,x=(if 24<d+1 then((0:Nat),(7:Int))else mH (r.drop (i+2)) (d+1))/\rM (oY i (if x.2=0 then oY (x.1+2) (jZ ((r.drop (i+2)).drop x.1) d)else(0,x.2)))=R0/\(x.2=0->x.1<=(r.drop (i+2)).length):=by
    refine⟨_,rfl,?_,?_⟩
    ·by_cases h:24<d+1
     ·rw[aU h]at hr⊢;exact hr
     ·rw[aL h]at hr⊢;exact hr
    ·by_cases h:24<d+1
     ·rw[aU h];intro h;exact absurd h (by simp)
     ·rw[aL h];intro h0;exact((lT _ (r.drop (i+2)) (aZ _)).2 (d+1) _ (jO rfl h0)).1.2
   obtain⟨x,ex,hr,hxl⟩:=hx';rw[show r.drop (i+1+1)=r.drop (i+2)from rfl,<-ex];by_cases h0:x.2=0
   ·have eo:rM x=[i64 ((x.1+1:Nat):Int),i64 0]:=by unfold rM;rw[aU h0]
    have hxl:=hxl h0;rw[aU h0,add_add,jU]at hr;rw[eo,bY];refine⟨i64 ((x.1+1:Nat):Int),rfl,?_⟩;rw[bY];refine⟨i64 0,rfl,?_⟩;rw[dQ,bD];refine⟨λh=>absurd rfl h,λ_=>?_⟩;rw[cJ,gI (by omega) (by omega),cJ,gI (by omega) (by omega)];refine⟨⟨i+(x.1+2),by simp only[gP,Value.int.injEq,dJ,fM];omega,rfl,by omega,by rw[show i+(x.1+2)=i+2+x.1 by omega]at hr⊢;exact hr⟩,?_⟩;simp only[aV];omega
   ·have eo:rM x=[i64 0,i64 x.2]:=by unfold rM;rw[aL h0]
    rw[aL h0,qE,aL h0]at hr;rw[eo,bY];refine⟨i64 0,rfl,?_⟩;rw[bY];refine⟨i64 x.2,rfl,?_⟩;rw[dQ,bD];refine⟨λ_=>by rw[<-hr]at hK;exact hK,λh=>absurd h0 h⟩
  ·rw[aL (by rw[e];decide),add_add]at hr;rw[cJ,upi (by omega)];refine⟨⟨i+1,rfl,rfl,by omega,hr⟩,?_⟩;simp only[aV];omega
 ·obtain rfl:i=r.length:=by omega
  rw[gU,rF,qE,aL (by simp)]at hr;rw[<-hr]at hK;exact hK
theorem RO(hi:InC n)(htx:TxC n):InC (n+1):=by
 intro c r d w K hn hl hd25 hK;refine TN ?_;unfold aAd;rw[gD,bD];refine⟨λh=>?_,λh=>?_⟩
 ·rw[aU (by omega)]at hK;exact hK
 have hd24:d<=24:=by omega
 rw[aL (by omega)]at hK;have hlen:(c::r).length=r.length+1:=rfl;generalize hR:rM (mH r d)=R0 at hK;have cond:∀{c:UInt8} (k:Nat),k<256->(((c.toNat:Nat):Int)=(k:Int)↔c=UInt8.ofNat k):=λ{c} k hk=>by
  have:=Ev c k hk;rwa[decide_eq_decide]at this
 refine dL.go (λst w'=>∃i:Nat,st=[i64 ((i+1:Nat):Int)]/\w'=w/\i<=r.length/\rM (oY i (mH (r.drop i) d))=R0) (λst _=>match st with|[.int _ i]=>r.length+1-i.toNat|_=>0) ⟨0,rfl,rfl,by omega,by rw[eZ,qE,<-hR];unfold rM;rw[aI]⟩ ?_;rintro st g w2 ⟨i,rfl,rfl,hi',hr⟩;simp only[aC];rw[dV,dI,bD,hlen];refine⟨λhlt=>?_,λhge=>?_⟩
 ·have hlt:i<r.length:=by omega
  have hd:=lD hlt;rw[hd,BA]at hr;simp only[iK]at hr;have hll:(r.drop (i+1)).length=r.length-(i+1):=aX ..;refine dE.cut (λst w'=>w'=w2/\∃(k:Nat) (e:Int),st=[i64 (if e=0 then((k+1:Nat):Int)else 0),i64 e]/\(e=0->i+(k+1)<=r.length/\rM (oY (i+(k+1)) (mH (r.drop (i+(k+1))) d))=R0)/\(e≠0->[i64 0,i64 e]=R0)) ?_ ?_
  ·refine sA (s:=c::r) (i:=i+1) (by rw[hlen];omega) ?_;show aS .eql (cv r[i]) _ _;rw[cL,bD];refine⟨λe=>?_,λe=>?_⟩
   ·have e:r[i]=125:=(cond 125 (by omega)).1 e;rw[aU e,qE,aU rfl]at hr;rw[cJ,upi (by omega)];rw[<-hr]at hK;exact hK
   have e:¬r[i]=125:=λh=>e ((cond 125 (by omega)).2 h);rw[aL e]at hr;rw[cL,bD];refine⟨λe=>?_,λe=>?_⟩
   ·have e:r[i]=10:=(cond 10 (by omega)).1 e;rw[aU e,qE,aL (by simp)]at hr;rw[<-hr]at hK;exact hK
   have e:¬r[i]=10:=λh=>e ((cond 10 (by omega)).2 h);rw[aL e]at hr;have sub:∀(x:Nat×Int),rM (oY i (if x.2=0 then oY (x.1+1) (mH ((r.drop (i+1)).drop x.1) d)else(0,x.2)))=R0->(x.2=0->x.1<=(r.drop (i+1)).length)->jQ 0 (.tuple (rM x).toArray) λt33=>jQ 1 (.tuple (rM x).toArray) λt34=>(λ(st:List Value) (w':World)=>w'=w2/\∃(k:Nat) (e:Int),st=[i64 (if e=0 then((k+1:Nat):Int)else 0),i64 e]/\(e=0->i+(k+1)<=r.length/\rM (oY (i+(k+1)) (mH (r.drop (i+(k+1))) d))=R0)/\(e≠0->[i64 0,i64 e]=R0)) [t33,t34] w2:=λx hx hxl=>by
    by_cases h0:x.2=0
    ·have eo:rM x=[i64 ((x.1+1:Nat):Int),i64 0]:=by unfold rM;rw[aU h0]
     have hxl:=hxl h0;rw[aU h0,add_add,jU]at hx;rw[eo,bY];refine⟨i64 ((x.1+1:Nat):Int),rfl,?_⟩;rw[bY];refine⟨i64 0,rfl,rfl,x.1,0,by rw[aU rfl],λ_=>⟨by omega,by rw[show i+(x.1+1)=i+1+x.1 by omega]at hx⊢;exact hx⟩,λh=>absurd rfl h⟩
    ·have eo:rM x=[i64 0,i64 x.2]:=by unfold rM;rw[aL h0]
     rw[aL h0,qE,aL h0]at hx;rw[eo,bY];refine⟨i64 0,rfl,?_⟩;rw[bY];exact⟨i64 x.2,rfl,rfl,0,x.2,by rw[aL h0],λh=>absurd h h0,λ_=>hx⟩
   rw[cL,bD];refine⟨λe=>?_,λe=>?_⟩
   ·have e:r[i]=123:=(cond 123 (by omega)).1 e;rw[aU e]at hr;rw[fA,fC,eR];refine⟨by omega,by rw[hlen];omega,?_⟩;rw[dZ,aV,eL,hd,cJ,upi (by omega)];refine hi _ _ (d+1) _ _ (by omega) (by omega) (by omega) ?_;refine sub _ ?_ ?_
    ·by_cases h:24<d+1
     ·rw[aU h]at hr⊢;exact hr
     ·rw[aL h]at hr⊢;exact hr
    ·by_cases h:24<d+1
     ·rw[aU h];intro h;exact absurd h (by simp)
     ·rw[aL h];intro h0;exact((lT _ (r.drop (i+1)) (aZ _)).2 (d+1) _ (jO rfl h0)).1.2
   have e:¬r[i]=123:=λh=>e ((cond 123 (by omega)).2 h);rw[aL e]at hr;rw[cL,bD];refine⟨λe=>?_,λe=>?_⟩
   ·have e:r[i]=34:=(cond 34 (by omega)).1 e;rw[aU e]at hr;rw[fA,fC,eR];refine⟨by omega,by rw[hlen];omega,?_⟩;rw[dZ,aV,eL,hd];refine htx _ _ d _ _ (by omega) (by omega) hd24 ?_;refine sub _ hr λh0=>?_;exact((lT _ (r.drop (i+1)) (aZ _)).1 d _ (jO rfl h0)).2.2
   ·have e:¬r[i]=34:=λh=>e ((cond 34 (by omega)).2 h);rw[aL e,add_add]at hr;exact⟨rfl,0,0,rfl,λ_=>⟨by omega,hr⟩,λh=>absurd rfl h⟩
  rintro st g2 w3 ⟨rfl,k,e,rfl,h1,h2⟩;simp only[aC,bO];rw[dQ,bD];refine⟨λhe=>by rw[<-h2 he]at hK;exact hK,λhe=>?_⟩;have he:e=0:=by
   by_cases h:e=0
   ·exact h
   ·exact absurd h he
  obtain⟨g1,g2⟩:=h1 he;rw[aU he,cJ,gI (by omega) (by omega)];refine⟨⟨i+(k+1),by simp only[gP,Value.int.injEq,dJ,fM];omega,trivial,g1,g2⟩,?_⟩;simp only[aV];omega
 ·obtain rfl:i=r.length:=by omega
  rw[gU,Dr,qE,aL (by simp)]at hr;rw[<-hr]at hK;exact hK
theorem JQ:∀n,TxC n/\InC n
 |0=>⟨λ_ _ _ _ _ h=>by omega,λ_ _ _ _ _ h=>by omega⟩
 |n+1=>⟨OT (JQ n).2,RO (JQ n).2 (JQ n).1⟩
theorem Rv{r:Str}{d:Nat}{K:Q0}(hl:r.length<=1000000)(hd:d<=24)(hK:K (.tuple (rM (jZ r d)).toArray) w):aJ P0 112 [str (c::r),i64 (d:Nat)] w K:=(JQ (r.length+1)).1 c r d w K (by omega) hl hd hK
end
end
end Go.Proofs.YtjblfcfdeaagpaaGreatDoor
namespace Go.Eng
section
open Go
variable{w:World}{K:Q0}{cs:List Value}{G:Nat->Prop}{T:TypeId}{i:Nat}{n:Nat}{v:Value}{w':World}{P:Program}{c:UInt8}{S:Nat->Prop}
theorem byte_at{s r:Str}(h:s.drop i=c::r):lA s i=c.toNat:=by
 unfold lA;have:s[i]?=some c:=by
  have:=jG (xs:=s) (i:=i) (j:=0);rw[h]at this;simpa using this.symm
 rw[this]
theorem Oe{s l r:Str}(h:s.drop i=l++r):s.drop (i+l.length)=r:=by
 rw[<-kP,h,List.drop_left]
theorem wI{s r:Str}(h:s.drop i=c::r):i<s.length:=by
 apply Nat.lt_of_not_le;intro hle;rw[List.drop_eq_nil_iff.2 hle]at h;cases h
theorem sY{s u r:Str}{j:Nat}(h:s.drop i=u++r)(hj:j<u.length):lA s (i+j)=u[j].toNat:=by
 have:s.drop (i+j)=u[j]::(u.drop (j+1)++r):=by
  rw[<-kP,h,BJ (by omega),eB hj];rfl
 exact byte_at this
theorem EG{s t:Str}{k m:Nat}(hm:0<m)(h:kX s i=m)(hb:∀j,j<m->lA t (k+j)=lA s (i+j)):kX t k=m:=by
 have e0:lA t k=lA s i:=hb 0 hm;unfold kX at h⊢;dsimp only at h;simp only[e0];by_cases h1:m=1
 ·subst h1;split at h
  ·omega
  rename_i a;split at h
  ·rename_i b;rw[aL a,aU b]
  split at h
  ·omega
  split at h
  ·omega
  split at h<;>omega
 by_cases h2:m=2
 ·subst h2;have e1:=hb 1 (by omega);have m1:qL t (k+1)=qL s (i+1):=by unfold qL;rw[e1]
  simp only[m1];split at h
  ·omega
  rename_i a;split at h
  ·omega
  rename_i b;split at h
  ·rename_i c;rw[aL a,aL b,aU c]
  split at h
  ·omega
  split at h<;>omega
 by_cases h3:m=3
 ·subst h3;have e1:=hb 1 (by omega);have e2:=hb 2 (by omega);have m1:qL t (k+1)=qL s (i+1):=by unfold qL;rw[e1]
  have m2:qL t (k+2)=qL s (i+2):=by unfold qL;rw[e2]
  simp only[m1,m2,e1,e2];split at h
  ·omega
  rename_i a;split at h
  ·omega
  rename_i b;split at h
  ·omega
  rename_i c;split at h
  ·rename_i d;rw[aL a,aL b,aL c,aU d]
  split at h<;>omega
 by_cases h4:m=4
 ·subst h4;have e1:=hb 1 (by omega);have e2:=hb 2 (by omega);have e3:=hb 3 (by omega);simp only[qL,e1,e2,e3]at h⊢;exact h
 ·exfalso;split at h
  ·omega
  split at h
  ·omega
  split at h
  ·omega
  split at h
  ·omega
  split at h<;>omega
theorem Pb{s:Str}(h:kX s i≠0):i<s.length:=by
 apply Nat.lt_of_not_le;intro hle;exact h (rune_end hle)
theorem Lk{s:Str}(h:kX s i≠0):i+kX s i<=s.length:=by
 obtain⟨c,hc⟩:=uP (Pb h) h;exact hc.fits
def Rn(u:Str):Prop:=u≠[]/\kX u 0=u.length
theorem Rn.pos{u:Str}(h:Rn u):0<u.length:=iG.2 h.1
theorem Rn.at{u s r:Str}(h:Rn u)(hs:s.drop i=u++r):kX s i=u.length:=by
 refine EG (s:=u) (i:=0) h.pos h.2 λj hj=>?_;rw[sY hs hj,sY (s:=u) (i:=0) (u:=u) (r:=[]) (by simp) hj]
theorem Rn.of{s:Str}(h:kX s i≠0):Rn ((s.drop i).take (kX s i)):=by
 have hf:=Lk h;have hl:((s.drop i).take (kX s i)).length=kX s i:=by rw[cO,aX];omega
 refine⟨λe=>by rw[e]at hl;simp at hl;omega,?_⟩;rw[hl];refine EG (s:=s) (i:=i) (by omega) rfl λj hj=>?_;rw[sY (s:=s) (i:=i) (u:=(s.drop i).take (kX s i)) (r:=(s.drop i).drop (kX s i)) (pM _ _).symm (by omega),sY (s:=(s.drop i).take (kX s i)) (i:=0) (u:=(s.drop i).take (kX s i)) (r:=[]) (by simp) (by omega)]
inductive Utf:Str->Prop where
 |nil:Utf []
 |cons {u r:Str}:Rn u->Utf r->Utf (u++r)
theorem Utf.app{a b:Str}(h:Utf a)(h':Utf b):Utf (a++b):=by
 induction h with
 |nil=>exact h'
 |cons hu _ ih=>rw[fE];exact .cons hu ih
theorem Utf.one{u:Str}(h:Rn u):Utf u:=by have:=Utf.cons h .nil;rwa[fX]at this
theorem Rn.cases{u:Str}(h:Rn u):(∃c:UInt8,u=[c]/\c.toNat<128)\/(∀c∈u,128<=c.toNat):=by
 have hr:=h.2;have hp:=h.pos;have hb:∀j,(hj:j<u.length)->lA u j=u[j].toNat:=λj hj=>by
  have:=sY (s:=u) (i:=0) (u:=u) (r:=[]) (by simp) hj;rwa[aI]at this
 have hm:∀j,(hj:j<u.length)->qL u j=true->128<=u[j].toNat:=λj hj hm=>by
  unfold qL at hm;rw[hb j hj,bU,decide_eq_true_iff,decide_eq_true_iff]at hm;omega
 unfold kX at hr;rw[hb 0 hp]at hr;simp only[aI]at hr;have hall:(∀j,(hj:j<u.length)->128<=u[j].toNat)->∀c∈u,128<=c.toNat:=λhj c hc=>by
  obtain⟨j,h1,rfl⟩:=List.getElem_of_mem hc;exact hj j h1
 split at hr
 ·omega
 split at hr
 ·rename_i hlt;left;obtain⟨c,rfl⟩:=List.length_eq_one_iff.1 hr.symm;refine⟨c,rfl,?_⟩;have e:([c]:Str)[0].toNat=c.toNat:=rfl;omega
 right;refine hall λj hj=>?_;split at hr
 ·rename_i c;obtain⟨c1,_,c2⟩:=c;obtain rfl|rfl:j=0\/j=1:=by omega
  ·omega
  ·exact hm 1 hj c2
 split at hr
 ·rename_i c;obtain⟨c1,_,c2,c3,_⟩:=c;obtain rfl|rfl|rfl:j=0\/j=1\/j=2:=by omega
  ·omega
  ·exact hm 1 hj c2
  ·exact hm 2 hj c3
 split at hr
 ·rename_i c;obtain⟨c1,_,c2,c3,c4,_⟩:=c;obtain rfl|rfl|rfl|rfl:j=0\/j=1\/j=2\/j=3:=by omega
  ·omega
  ·exact hm 1 hj c2
  ·exact hm 2 hj c3
  ·exact hm 3 hj c4
 ·omega
def escOk(c:UInt8):Bool:=
 match aAS c with
 |[d]=>decide (d=c)&&decide (c≠34)&&decide (c≠92)&&decide (32<=c.toNat)
 |[a,b]=>decide (a=92)&&decide (aAR [a,b] 0=some ([c],2))
 |[a,b,d,e,f,g]=>decide (a=92)&&decide (b=117)&&decide (WR [a,b,d,e,f,g] 0=c.toNat)
 |_=>false
end
end Go.Eng
namespace Go.Proofs.YtjblfcfdeaagpaaGreatDoor
section
open Go Go.Eng Go.RowKit Go.Syn Go.Lex
variable{w:World}{K:Q0}{cs:List Value}{G:Nat->Prop}{T:TypeId}{i:Nat}{n:Nat}{v:Value}{w':World}{P:Program}{c:UInt8}{S:Nat->Prop}
theorem Pn(c d:UInt8)(r:Str):[d].isPrefixOf (c::r)=(d==c):=by simp[List.isPrefixOf]
theorem LI(s:Str):Lib.index s [10]=if gQ (λb=>b !=10) s<s.length then((gQ (λb=>b !=10) s:Nat):Int)else-1:=by
 induction s with
 |nil=>rfl
 |cons c r ih=>
  simp only[Lib.index,Pn];by_cases h:c=10
  ·subst h;rfl
  ·have h1:((10:UInt8)==c)=false:=by rw[beq_eq_false_iff_ne];exactλe=>h e.symm
   have h2:(c !=10)=true:=by simp[h]
   have e2:gQ (λb=>b !=10) (c::r)=gQ (λb=>b !=10) r+1:=by simp only[gQ];rw[aU h2]
   obtain⟨k,hk0⟩:∃k,k=gQ (λb=>b !=10) r:=⟨_,rfl⟩;have ih':Lib.index r [10]=if k<r.length then(k:Int)else-1:=by rw[hk0];exact ih
   rw[h1,aL (by decide),ih',e2,<-hk0];simp only[aB];by_cases hk:k<r.length
   ·have e3:(if k<r.length then(k:Int)else-1)=k:=aU hk;have e4:(if k+1<r.length+1 then((k+1:Nat):Int)else-1)=((k+1:Nat):Int):=aU (by omega);rw[e3,e4,aL (by simp only[iK];omega)];rfl
   ·have e3:(if k<r.length then(k:Int)else-1)=-1:=aL hk;have e4:(if k+1<r.length+1 then((k+1:Nat):Int)else-1)=-1:=aL (by omega);rw[e3,e4];rfl
theorem Si(s:Str):(Lib.cut s [10]).1=s.take (gQ (λb=>b !=10) s)/\(Lib.cut s [10]).2.2=decide (gQ (λb=>b !=10) s<s.length):=by
 have hle:=sK (λb=>b !=10) s;unfold Lib.cut;rw[LI];by_cases h:gQ (λb=>b !=10) s<s.length
 ·rw[aU h,aU (by omega),aV];exact⟨rfl,by simp[h]⟩
 ·rw[aL h,aL (by omega)];exact⟨by rw[iH (by omega)],by simp[h]⟩
theorem MD(l:Str):Lib.trimLeftS l [32,9]=l.drop (gQ (λb=>b==32||b==9) l):=by
 unfold Lib.trimLeftS;induction l with
 |nil=>rfl
 |cons c r ih=>
  simp only[List.dropWhile_cons,gQ];have e:([32,9]:Str).contains c=(c==32||c==9):=by simp[List.contains,List.elem];cases(c==32)<;>cases(c==9)<;>rfl
  rw[e];by_cases hb:(c==32||c==9)=true
  ·rw[aU hb,aU hb];exact ih
  ·rw[aL hb,aL hb];rfl
theorem LP(a b:Str):lC (a++b)=lC a++lC b:=by
 induction a with
 |nil=>rfl
 |cons c r ih=>
  simp only[iC,lC]
  (repeat' split)<;>simp only[iC,ih]
theorem Jv{u:Str}(h:∀c∈u,128<=c.toNat):lC u=u:=by
 induction u with
 |nil=>rfl
 |cons c r ih=>
  have hc:=h c aW;have n:∀k:UInt8,k.toNat<128->(c==k)=false:=λk hk=>by
   rw[beq_eq_false_iff_ne];intro e;subst e;omega
  simp only[lC,n 92 (by decide),n 34 (by decide),n 36 (by decide),n 9 (by decide),n 13 (by decide),Bool.or_self,mV,qY,ih λx hx=>h x (aD _ hx)]
theorem tB{r:Str}(h:Utf (c::r))(hc:c.toNat<128):Utf r:=by
 generalize he:c::r=z at h;cases h with
 |nil=>cases he
 |@cons u r' hu hr=>
  rcases hu.cases with⟨x,rfl,_⟩|hh
  ·simp only[iC,gB,gP]at he;rw[he.2];exact hr
  ·cases u with
   |nil=>exact absurd rfl hu.1
   |cons y u'=>
    simp only[iC,gP]at he;have:=hh y aW;rw[<-he.1]at this;omega
theorem KZ{t:Str}(h:Utf t):∀{a b:Str} {c:UInt8},t=a++c::b->c.toNat<128->Utf a/\Utf (c::b):=by
 induction h with
 |nil=>intro a b c e;simp at e
 |@cons u r hu hr ih=>
  intro a b c e hc;by_cases hle:u.length<=a.length
  ·have h1:a=u++a.drop u.length:=by
    have:=congrArg (List.take u.length) e;rw[List.take_left,BI hle]at this;have h2:=pM u.length a;rw[<-this]at h2;exact h2.symm
   rw[h1,fE]at e;have e:=qZ e;obtain⟨i1,i2⟩:=ih e hc;rw[h1];exact⟨.cons hu i1,i2⟩
  ·have hmem:c∈u:=by
    have:(u++r)[a.length]?=some c:=by rw[e];simp
    rw[fQ (by omega)]at this;exact bI this
   rcases hu.cases with⟨x,rfl,_⟩|hh
   ·have ha:a=[]:=cW (by simp only[aB,aK]at hle;omega);subst ha;simp only[gB]at e;rw[<-e];exact⟨.nil,.cons hu hr⟩
   ·have:=hh c hmem;omega
theorem Ar{t:Str}(h:Utf t){b:Str}(hd:t.drop i=c::b)(hc:c.toNat<128):Utf (t.take i)/\Utf (c::b):=
 KZ h (by rw[<-hd,pM]) hc
theorem Mx{s:Str}(h:Utf s):Utf (s.take (gQ (λb=>b !=10) s))/\(gQ (λb=>b !=10) s<s.length->Utf (s.drop (gQ (λb=>b !=10) s+1))):=by
 have stop:∀s:Str,∀b,(s.drop (gQ (λb=>b !=10) s)).head?=some b->b=10:=by
  intro s;induction s with
  |nil=>intro b hb;simp[gQ]at hb
  |cons c r ih=>
   intro b hb;simp only[gQ]at hb;by_cases hc:(c !=10)=true
   ·rw[aU hc,eL]at hb;exact ih b hb
   ·rw[aL hc]at hb;simp only[eZ,List.head?_cons,bA]at hb;rw[<-hb];simpa using hc
 by_cases hk:gQ (λb=>b !=10) s<s.length
 ·have hd:=lD hk;have h10:=stop s s[gQ (λb=>b !=10) s] (by rw[hd];rfl);obtain⟨h1,h2⟩:=Ar h hd (by rw[h10];decide);exact⟨h1,λ_=>tB h2 (by rw[h10];decide)⟩
 ·exact⟨by rw[iH (by omega)];exact h,λe=>absurd e hk⟩
theorem TabI.ext(h:TabI w)(hx:Ext w w'):TabI w':=by
 obtain⟨m,h⟩:=h;refine⟨m,?_⟩;rw[cM]at h⊢;cases hh:w.heap[0]? with
 |none=>rw[hh]at h;cases h
 |some o=>rw[hx.at hh id];rw[hh]at h;exact h
section
variable [HX]
theorem Di{l:Str}{K:Q0}(hK:K (.pointer (some ⟨w.heap.size,0,none⟩)) (w.alloc (.stringIter (ofL l) 0))):fY P0 (Instr.range 9 (str l)) w K:=by
 have hT:Tryz.prog.underlying 9=some .string:=by kernel_rfl
 have hr:(Instr.range 9 (str l)).run P0 w=.ok (.pointer (some ⟨w.heap.size,0,none⟩)) (w.alloc (.stringIter (ofL l) 0)):=by
  simp[Instr.range,run_bind,cI hT,run_pure,newObj,Sem.run]
 unfold fY;rw[hr];exact hK
theorem Nx{r:Nat}{o:Obj}(h:r<w.heap.size):Chg (· =r) w {w with heap:=w.heap.setIfInBounds r o}:=
 ⟨rfl,rfl,rfl,by simp,λk _ hk=>by
  show(w.heap.setIfInBounds r o)[k]?=_
  rw[Array.getElem?_setIfInBounds_ne (by omega)]⟩
theorem Fb{r pos:Nat}{l:Str}{K:Q0}(hw:w.heap[r]?=some (.stringIter (ofL l) pos))
  (h0:l.length<=pos->K (.tuple #[.bool false]) w)
  (h1:pos<l.length->∀w',w'.heap[r]?=some (.stringIter (ofL l) (pos+(Utf8.decode (ofL l) pos).2))->Chg (· =r) w w'->w'.heap.size=w.heap.size->K (.tuple #[.bool true,i64 pos,.int .i32 (Utf8.decode (ofL l) pos).1]) w'):
  fY P0 (Instr.next (.pointer (some ⟨r,0,none⟩)) true T) w K:=by
 have hg:(getObj r).run P0 w=.ok (.stringIter (ofL l) pos) w:=by simp[getObj,Sem.run,hw]
 have hlt:r<w.heap.size:=(gH.1 hw).1;unfold fY;simp only[Instr.next,run_bind,hg,jV];by_cases hp:pos<l.length
 ·have hset:(setObj r (.stringIter (ofL l) (pos+(Utf8.decode (ofL l) pos).2))).run P0 w=.ok () {w with heap:=w.heap.setIfInBounds r (.stringIter (ofL l) (pos+(Utf8.decode (ofL l) pos).2))}:=by simp[setObj,Sem.run,hw]
  rw[aU hp];simp only[run_bind,hset,run_pure];exact h1 hp _ (by simp[hlt]) (Nx hlt) (by simp)
 ·rw[aL hp];simp only[run_pure];exact h0 (by omega)
theorem MP{r:Str}{K:Q0}(hl:r.length<=1000000)(hK:K (str (rW (c::r))) w):aJ P0 114 [str (c::r)] w K:=by
 refine Un ?_;unfold aAz;unfold rW at hK;refine dE.cut (λ_ w'=>w'=w/\vQ.contains ((c::r).take 2)=false) ?_ ?_
 ·rw[dV,gD,bD];refine⟨λhlen=>?_,λhlen=>⟨rfl,?_⟩⟩
  ·rw[fA,eR];refine⟨by omega,by omega,?_⟩;rw[fC,eZ];rw[show(c::r).take (Int.toNat 2)=(c::r).take 2 from rfl];generalize hx:(c::r).take 2=x at hK⊢;refine dE.cut (λst w'=>st=[.bool (vQ.contains x)]/\w'=w) ?_ ?_
   ·unfold vQ;simp only[List.contains_cons,List.contains_nil,eH];have eqd:∀y:Str,decide (x=y)=(x==y):=λy=>by rw[nX];simp
    simp only[eQ,eqd];generalize (x==[61,61])=a1;generalize (x==[33,61])=a2;generalize (x==[60,61])=a3;generalize (x==[62,61])=a4;generalize (x==[38,38])=a5;generalize (x==[124,124])=a6;cases a1<;>simp only[dG,bQ,dX,dC,and_self];cases a2<;>simp only[dG,bQ,dX,dC,and_self];cases a3<;>simp only[dG,bQ,dX,dC,and_self];cases a4<;>simp only[dG,bQ,dX,dC,and_self];cases a5<;>simp only[dG,bQ,dX,dC,and_self]
   rintro st g w' ⟨rfl,rfl⟩;simp only[aC];rw[eJ];refine⟨λhy=>?_,λhn=>⟨trivial,hn⟩⟩;rw[aU hy]at hK;rw[fA,eR];refine⟨by omega,by omega,?_⟩;rw[fC,eZ];show K (str ((c::r).take 2)) w';rw[hx];exact hK
  ·have:r=[]:=cW (by simp only[aB]at hlen;omega);subst this;simp[vQ]
 rintro _ g w' ⟨rfl,hn⟩;rw[aL (by rw[hn];decide)]at hK;refine sA (s:=c::r) (i:=0) (by simp) ?_;show aJ P0 104 [_,cv c] w' _;refine Ds ?_;rw[fS,Vk,eJ];have hK:K (str (if Bo.contains c=true then(c::r).take 1 else [])) w':=hK;refine⟨λhy=>?_,λhy=>?_⟩
 ·rw[aU hy]at hK;rw[fA,eR];refine⟨by omega,by simp only[aB];omega,?_⟩;rw[fC,eZ];exact hK
 ·rw[aL (by rw[hy];decide)]at hK;exact hK
theorem WY{t:Str}{K:Q0}(hT:TabI w)(hl:t.length<=1000000)(hK:∀x w',Ext w w'->K (.tuple #[str (t.take (gQ (λb=>b !=10) t)),x,.bool (decide (gQ (λb=>b !=10) t<t.length))]) w'):aJ P0 151 [str t,str [10]] w K:=by
 obtain⟨m,hm⟩:=hT;refine lN (args:=#[str t,str [10]]) Tryz.call151 ((Tryz.strings_Cut (ofL t) (ofL [10]) m w (by rw[jV];omega) hm).mono ?_);rintro e w' ⟨rfl,n,rfl⟩;obtain⟨h1,h2⟩:=Si t;rw[jD,jD];refine⟨_,rfl,?_⟩;rw[show(⟨(Lib.cut t [10]).1.toArray⟩:ByteArray)=ofL (t.take (gQ (λb=>b !=10) t))from by rw[h1];rfl,h2];refine hK _ _ ?_;exact⟨rfl,rfl,rfl,aZ _,λ_ _ _=>rfl⟩
theorem OU{t:Str}{K:Q0}(hl:t.length<=1000000)(hK:∀w',Ext w w'->K (str (t.drop (gQ (λb=>b==32||b==9) t))) w'):aJ P0 152 [str t,str [32,9]] w K:=by
 refine lN (args:=#[str t,str [32,9]]) Tryz.call152 ((Tryz.strings_TrimLeft_laid (ofL t) (ofL [32,9]) w (by rw[jV];decide) (λj b hb=>?_)).mono ?_)
 ·rw[jD]at hb;have:=bI hb;simp only[bC,cA,gG]at this;rcases this with rfl|rfl<;>decide
 rintro e w' ⟨rfl,hb⟩;rw[jD,jD,MD];exact⟨_,rfl,hK w' (Chg.of_below hb)⟩
end
theorem uX(s:Str):(lC s).length<=2*s.length:=by
 induction s with
 |nil=>simp[lC]
 |cons c r ih=>simp only[lC];(repeat' split)<;>simp only[aB]<;>omega
def oQ(c:Nat):Str×Nat:=if c=92\/c=34\/c=36 then([92],c)else if c=9 then([92],116)else if c=13 then([92],114)else([],c)
theorem LM(x:UInt8)(h:wrM x.toNat=[x]):lC [x]=(oQ x.toNat).1++wrM (oQ x.toNat).2:=by
 have e:∀k:UInt8,(x==k)=decide (x.toNat=k.toNat):=λk=>by
  rw[nX,iK,decide_eq_true_iff,mL]
 simp only[lC,e];unfold oQ;by_cases h1:x.toNat=92\/x.toNat=34\/x.toNat=36
 ·rw[aU (by simp only[gK,decide_eq_true_iff];rcases h1 with h|h|h;exact .inl (.inl h);exact .inl (.inr h);exact .inr h),aU h1];show _=[92]++wrM x.toNat;rw[h];rfl
 rw[aL (by simp only[gK,decide_eq_true_iff];rintro((h|h)|h);exact h1 (.inl h);exact h1 (.inr (.inl h));exact h1 (.inr (.inr h))),aL h1];by_cases h2:x.toNat=9
 ·rw[aU (by simpa using h2),aU h2];rfl
 rw[aL (by simpa using h2),aL h2];by_cases h3:x.toNat=13
 ·rw[aU (by simpa using h3),aU h3];rfl
 rw[aL (by simpa using h3),aL h3];exact h.symm
theorem Ju{c:Nat}(h:128<=c):oQ c=([],c):=by
 unfold oQ;rw[aL (by omega),aL (by omega),aL (by omega)]
theorem NW{c:Nat}(h:c<55296\/57343<c/\c<=1114111):(oQ c).2<55296\/57343<(oQ c).2/\(oQ c).2<=1114111:=by
 unfold oQ
 (repeat' split)<;>(dsimp only;omega)
theorem LN(c:Nat):(oQ c).1.length<=1:=by unfold oQ;(repeat' split)<;>simp
def AU(l:Str)(at_:Nat)(x:Str×Nat×Int):Str×Nat×Int:=if x.2.2=0 then(l++x.1,x.2.1+at_,0)else([],0,x.2.2)
theorem LK(l m:Str)(a b:Nat)(x:Str×Nat×Int):AU l a (if x.2.2=0 then(m++x.1,x.2.1+b,0)else([],0,x.2.2))=AU (l++m) (a+b) x:=by
 unfold AU;by_cases h:x.2.2=0
 ·simp only[h,qH,fE];rw[show x.2.1+b+a=x.2.1+(a+b)by omega]
 ·simp only[aL h]
theorem Fh(n:Nat)(name s:Str):nD (n+1) name s=(if(s.take (gQ (λb=>b !=10) s)).drop (gQ (λb=>b==32||b==9) (s.take (gQ (λb=>b !=10) s)))=name then([],gQ (λb=>b !=10) s,0)else if s.length<=gQ (λb=>b !=10) s then([],0,40)else
 (if(nD n name (s.drop (gQ (λb=>b !=10) s+1))).2.2=0 then(lC (s.take (gQ (λb=>b !=10) s))++[92,110]++(nD n name (s.drop (gQ (λb=>b !=10) s+1))).1,(nD n name (s.drop (gQ (λb=>b !=10) s+1))).2.1+(gQ (λb=>b !=10) s+1),0)else([],0,(nD n name (s.drop (gQ (λb=>b !=10) s+1))).2.2))):=rfl
section
variable [HX]
theorem LL{s:Str}{K:Q0}(hT:TabI w)(hU:Utf s)(hl:s.length<=1000000)(h2:2<=s.length)
  (hK:∀w',Ext w w'->K (.tuple #[str (kI s).1,i64 ((kI s).2.1:Nat),i64 (kI s).2.2]) w'):aJ P0 113 [str s] w K:=by
 refine Uo ?_;unfold aAA;unfold kI at hK;dsimp only at hK;generalize hn:(if iM ((s.drop 2).headD 0)then gQ jH (s.drop 2)else 0)=n at hK;have hnl:n+2<=s.length:=by
  have:=sK jH (s.drop 2);rw[aX]at this;rw[<-hn];split<;>omega
 refine dE.cut (λst w'=>st=[i64 (n:Nat)]/\w'=w) ?_ ?_
 ·rw[dV,gD];refine GdW.look (iM ((s.drop 2).headD 0)) (λhg J hJ=>?_) λg=>?_
  ·rw[fT,decide_eq_true_iff]at hg;have hlt:2<s.length:=by omega
   refine sA (i:=2) hlt ?_;refine xO ?_;rw[lD hlt]at hJ;exact hJ
  ·simp only[aC,fT];rw[fG,eJ];refine⟨λhy=>?_,λhno=>?_⟩
   ·rw[bU]at hy;rw[aU hy.2]at hn;rw[fA,fC,eR];refine⟨by omega,by omega,?_⟩;rw[dZ];show aJ P0 105 [str (s.drop 2),_] w _;refine Ka (q:=jH) (by rw[aX];omega) (λc {w K} h=>vD (Rq h)) ?_;rw[hn];exact⟨rfl,rfl⟩
   ·have:n=0:=by
     rw[<-hn];by_cases hlet:iM ((s.drop 2).headD 0)=true
     ·rw[hlet,dY,decide_eq_false_iff_not]at hno;rw[aU hlet,sI (by omega)];rfl
     ·rw[aL hlet]
    rw[this];exact⟨rfl,trivial⟩
 rintro st g w' ⟨rfl,rfl⟩;simp only[aC];rw[cJ,gI (by omega) (by omega)];rw[fA,eR,eR];refine⟨by omega,by omega,by omega,by omega,?_⟩;have hnm:(s.take (Int.toNat (2+(n:Nat)))).drop (Int.toNat 2)=(s.drop 2).take n:=by
  rw[show Int.toNat (2+(n:Nat))=2+n by omega,show Int.toNat 2=2 from rfl,List.drop_take];rw[show 2+n-2=n by omega]
 rw[hnm,cJ,gI (by omega) (by omega),show(2+(n:Nat):Int)=((2+n:Nat):Int)by omega];generalize (s.drop 2).take n=nm at*
 rw[cL];simp only[iB];refine GdW.look (decide (s.length<=2+n)) (λ_ J hJ=>?_) λg1=>?_
 ·rw[dV,fS,show decide (((s.length:Nat):Int)<=((2+n:Nat):Int))=decide (s.length<=2+n)by rw[decide_eq_decide];omega];exact hJ
 simp only[aC];rw[lG];simp only[iB];refine GdW.look (decide ((s.drop (2+n)).head?≠some 10)) (λhg J hJ=>?_) λg2=>?_
 ·have hlt:2+n<s.length:=by
   simp only[mJ,Bool.or_eq_false_iff,decide_eq_false_iff_not]at hg;omega
  refine sA hlt ?_;have e5:decide (((s[2+n].toNat:Nat):Int)=10)=(s[2+n]==10):=wG 10 _;rw[dQ];rw[lD hlt]at hJ;have:decide (((s[2+n].toNat:Nat):Int)≠10)=decide ((s[2+n]::s.drop (2+n+1)).head?≠some 10):=by
   have e6:∀(c:UInt8) (r:Str),(c==10)=decide ((c::r).head?=some 10):=λc r=>by rw[nX];simp
   rw[decide_not,e5,decide_not,e6 _ (s.drop (2+n+1))]
  rw[this];exact hJ
 simp only[aC];rw[lG,eJ];refine⟨λhbad=>?_,λhok=>?_⟩
 ·have hb:n=0\/¬(s.drop (2+n)).head?=some 10:=by
   simp only[gK,decide_eq_true_iff]at hbad;rcases hbad with(h|h)|h
   ·exact .inl (by omega)
   ·right;rw[sI (by omega)];simp
   ·exact .inr h
  have hK:=hK w' (Chg.refl _ _);rcases hb with h|h
  ·rw[aU h]at hK;exact hK
  ·rw[aL h]at hK;split at hK<;>exact hK
 simp only[Bool.or_eq_false_iff,decide_eq_false_iff_not,cV,Decidable.not_not]at hok;obtain⟨⟨hn0,hlt⟩,h10⟩:=hok;have hlt:2+n<s.length:=by omega
 rw[aL (by omega),aU h10]at hK;rw[cJ,upi (by omega)];have hUs:Utf (s.drop (2+n+1)):=by
  have hd:=lD hlt;rw[hd]at h10;simp only[List.head?_cons,bA]at h10;exact tB (Ar hU hd (by rw[h10];decide)).2 (by rw[h10];decide)
 generalize hR:nD (s.length+1) nm (s.drop (2+n+1))=X at hK;have hR2:AU [] (2+n+1) X=if X.2.2=0 then(X.1,X.2.1+(2+n+1),0)else([],0,X.2.2):=by unfold AU;rw[gB]
 rw[<-hR2]at hK;refine Za (B:=w'.heap.size) (aZ _) λb w1 hb h1 hx1=>?_;generalize hR0:AU [] (2+n+1) X=R0 at hK;refine dL.go (λst w2=>∃(i m:Nat) (l:Str),st=[i64 (i:Nat)]/\i<=s.length/\Utf (s.drop i)/\Bld w2 w'.heap.size b l/\Ext w' w2/\l.length<=2*i/\AU l i (nD m nm (s.drop i))=R0/\s.length<m+i) (λst _=>match st with|[.int _ i]=>s.length+1-i.toNat|_=>0) ⟨2+n+1,s.length+1,[],rfl,by omega,hUs,h1,hx1,by simp,by rw[hR,hR0],by omega⟩ ?_;rintro st g3 w2 ⟨i,m,l,rfl,hi,hu,hB,hx,hll,hr,hm⟩;obtain⟨m,rfl⟩:∃k,m=k+1:=⟨m-1,by omega⟩;rw[Fh]at hr;simp only[aC];rw[fA,fC,eR];refine⟨by omega,by omega,?_⟩;rw[dZ,aV];have hsl:(s.drop i).length=s.length-i:=aX;refine WY (hT.ext hx) (by omega) λx w3 hx3=>?_;rw[bY];refine⟨_,rfl,?_⟩;rw[bY];refine⟨_,rfl,?_⟩;rw[bY];refine⟨_,rfl,?_⟩;obtain⟨ul,ur⟩:=Mx hu;have hkl:=sK (λb=>b !=10) (s.drop i);have htk:((s.drop i).take (gQ (λb=>b !=10) (s.drop i))).length=gQ (λb=>b !=10) (s.drop i):=by rw[cO];omega
 generalize gQ (λb=>b !=10) (s.drop i)=k at*
 generalize hln:(s.drop i).take k=ln at*
 refine OU (by omega) λw4 hx4=>?_;have hx':Ext w' w4:=(hx.trans hx3).trans hx4;have hB4:Bld w4 w'.heap.size b l:=(hB.ext hx3).ext hx4;rw[eQ,bD];refine⟨λhy=>?_,λhno=>?_⟩
 ·rw[aU hy]at hr;refine FM hB4 hx'.size λw5 hc5=>?_;rw[dV,cJ,gI (by omega) (by omega)];have hfx:Ext w' w5:=hx'.then hc5 λk hk e=>by omega
  have hK:=hK w5 hfx;rw[<-hr]at hK;simp only[AU,qH,fX]at hK;rw[show(i:Int)+(ln.length:Nat)=((k+i:Nat):Int)by omega];exact hK
 rw[aL hno]at hr;rw[fH,eJ];refine⟨λhend=>?_,λhmore=>?_⟩
 ·rw[aU (by simpa using hend)]at hr;have hK:=hK w4 hx';rw[<-hr]at hK;exact hK
 have hk:k<(s.drop i).length:=by simpa using hmore
 rw[aL (by omega)]at hr;rw[LK]at hr;have hun:=ur hk;clear ur;have hlk:(s.drop i).length=s.length-i:=aX;refine Di ?_;have hz4:=hx'.size;have hbb:=hB4.lt;refine dL.go (λst w5=>∃p,p<=ln.length/\st=[]/\Utf (ln.drop p)/\w5.heap[w4.heap.size]?=some (.stringIter (ofL ln) p)/\Bld w5 w'.heap.size b (l++lC (ln.take p))/\Ext w' w5)
  (λ_ w5=>match w5.heap[w4.heap.size]? with|some (.stringIter _ p)=>ln.length-p|_=>0)
  ⟨0,dU _,rfl,by rw[eZ];exact ul,kF _ _ _ rfl,by rw[List.take_zero];show Bld _ _ _ (l++[]);rw[fX];exact hB4.ext (Chg.alloc (Chg.refl _ _) _),hx'.trans (Chg.alloc (Chg.refl _ _) _)⟩ ?_
 rintro st g4 w5 ⟨p,hp,rfl,hup,hit,hB5,hx5⟩;have hz5:=hx5.size;have hl5:(l++lC (ln.take p)).length<=2*i+2*k:=by
  have:=uX (ln.take p);have:(ln.take p).length<=k:=by rw[cO];omega
  rw[aP];omega
 refine Fb hit (λhpe=>?_) (λhpl w6 hit6 hc6 hz6=>?_)
 ·rw[bY];refine⟨.bool false,rfl,?_⟩;rw[bQ];obtain rfl:p=ln.length:=by omega
  rw[dZ]at hB5 hl5;refine UX hB5 hz5 (by simp only[aB,aK];omega) λv w6 h6 hc6=>?_;have hx6:Ext w' w6:=BCh.new hx5 (aZ _) (by omega) hc6;rw[dV,cJ,gI (by omega) (by omega),cJ,gI (by omega) (by omega)];have hgl:=uX ln;refine⟨⟨i+(k+1),m,l++lC ln++[92,110],by simp only[gP,Value.int.injEq,dJ,fM];omega,by omega,?_,h6,hx6,?_,?_,by omega⟩,?_⟩
  ·rw[<-jU];exact hun
  ·simp only[aP,aB,aK];omega
  ·rw[<-hr,jU,fE]
  ·simp only[aV];omega
 ·have hne:ln.drop p≠[]:=λe=>by have:=List.drop_eq_nil_iff.1 e;omega
  obtain⟨u,r,hru,hur,hdr⟩:∃u r,Rn u/\Utf r/\ln.drop p=u++r:=by
   cases hd:ln.drop p with
   |nil=>exact absurd hd hne
   |cons x y=>
    rw[hd]at hup;generalize he:x::y=z at hup;cases hup with
    |nil=>cases he
    |cons h1 h2=>exact⟨_,_,h1,h2,rfl⟩
  have hrm:kX ln p=u.length:=hru.at hdr;have huz:=hru.pos;obtain⟨c,hc⟩:=uP hpl (by omega);rw[hrm]at hc;have htk2:(ln.drop p).take u.length=u:=by rw[hdr,List.take_left]
  have hnext:ln.take (p+u.length)=ln.take p++u:=by rw[List.take_add,htk2]
  have hdr2:ln.drop (p+u.length)=r:=Oe hdr;have hdec:=hc.dec;have hct:=hc.top;have hcv:=hc.val;have hcu:wrM c=u:=by rw[<-UY (by omega),hc.bytes,htk2]
  rw[hdec]at hit6;have hfit:=hc.fits;have hB6:Bld w6 w'.heap.size b (l++lC (ln.take p)):=hB5.chg hc6 (λe=>by have:=e;omega) λk hk e=>by
   obtain⟨_,c',hc'⟩:=hk;have e:k=w4.heap.size:=e;rw[e,hit]at hc';cases hc'
  have hx6:Ext w' w6:=hx5.then hc6 λk hk e=>by omega
  have hu2:lC u=(oQ c).1++wrM (oQ c).2:=by
   rcases hru.cases with⟨x,hx,hxl⟩|hh
   ·subst hx;have hcx:c=x.toNat:=by
     have:=(hc.low rfl).1;rw[this];have e:=pZ hpl;rw[Go.Eng.byte_at (show ln.drop p=x::r from hdr)]at e;omega
    subst hcx;exact LM x hcu
   ·have hc128:128<=c:=by
     have hb0:=sY (j:=0) hdr huz;have h128:=hh u[0] (Bi ..);rw[bJ,pZ hpl]at hb0;by_cases h1:u.length=1
     ·have:=hc.low h1;omega
     ·exact(hc.high (by omega)).1
    rw[Ju hc128,Jv hh,hcu];rfl
  have hok:=NW (c:=c) (by omega);have hl1:=LN c;rw[bY];refine⟨.bool true,rfl,?_⟩;rw[dG,bY];refine⟨.int .i32 (c:Int),by rw[hdec];rfl,?_⟩;refine dE.cut (λst w7=>st=[.int .i32 ((oQ c).2:Nat)]/\Bld w7 w'.heap.size b (l++lC (ln.take p)++(oQ c).1)/\w7.heap[w4.heap.size]?=some (.stringIter (ofL ln) (p+u.length))/\Ext w' w7) ?_ ?_
  ·have wr:∀(x:Nat) (w7:World),oQ c=([92],x)->Bld w7 w'.heap.size b (l++lC (ln.take p)++[92])->Chg (BCh w6 w'.heap.size b) w6 w7->[Value.int .i32 (x:Int)]=[.int .i32 ((oQ c).2:Nat)]/\Bld w7 w'.heap.size b (l++lC (ln.take p)++(oQ c).1)/\w7.heap[w4.heap.size]?=some (.stringIter (ofL ln) (p+u.length))/\Ext w' w7:=by
    intro x w7 e h7 hc7;rw[e];exact⟨rfl,h7,BCh.iter hc7 hit6 (by omega),BCh.new hx6 (aZ _) (by omega) hc7⟩
   refine dE.cut (λst w7=>st=[.bool (decide (c=92\/c=34\/c=36))]/\w7=w6) ?_ ?_
   ·rw[cL,bD];refine⟨λh=>?_,λh=>?_⟩
    ·rw[bW h,bW (.inl (by omega))];exact⟨rfl,rfl⟩
    rw[cL,bD];refine⟨λh'=>?_,λh'=>?_⟩
    ·rw[bW h',bW (.inr (.inl (by omega)))];exact⟨rfl,rfl⟩
    rw[cL];rw[show decide (((c:Nat):Int)=36)=decide (c=92\/c=34\/c=36)by rw[decide_eq_decide];omega];exact⟨rfl,rfl⟩
   rintro st g5 w7 ⟨rfl,rfl⟩;simp only[aC];rw[bD];refine⟨λh=>?_,λh=>?_⟩
   ·refine Ck (n:=92) hB6 (by omega) (by omega) (by omega) λw8 h8 hc8=>?_;exact wr c w8 (by unfold oQ;rw[aU h]) h8 hc8
   rw[cL,bD];refine⟨λh'=>?_,λh'=>?_⟩
   ·refine Ck (n:=92) hB6 (by omega) (by omega) (by omega) λw8 h8 hc8=>?_;exact wr 116 w8 (by unfold oQ;rw[aL h,aU (by omega)]) h8 hc8
   rw[cL,bD];refine⟨λh''=>?_,λh''=>?_⟩
   ·refine Ck (n:=92) hB6 (by omega) (by omega) (by omega) λw8 h8 hc8=>?_;exact wr 114 w8 (by unfold oQ;rw[aL h,aL (by omega),aU (by omega)]) h8 hc8
   have e:oQ c=([],c):=by unfold oQ;rw[aL h,aL (by omega),aL (by omega)]
   rw[e,fX];exact⟨rfl,hB6,hit6,hx6⟩
  rintro st g5 w7 ⟨rfl,hB7,hit7,hx7⟩;simp only[aC];have hz7:=hx7.size;refine OM hB7 hz7 (by rw[aP];omega) hok λv w8 h8 hc8=>?_;have hit8:=BCh.iter hc8 hit7 (by omega);refine⟨⟨p+u.length,hfit,trivial,by rw[hdr2];exact hur,hit8,?_,BCh.new hx7 (aZ _) (by omega) hc8⟩,?_⟩
  ·rw[hnext,LP,hu2,<-fE,<-fE];exact h8
  ·rw[hit8,hit];show ln.length-(p+u.length)<ln.length-p;omega
end
theorem CN{r:Str}{d:Nat}(h:(jZ r d).2=0):1<=(jZ r d).1/\(jZ r d).1<=r.length:=by
 exact((lT _ r (aZ _)).1 d _ (jO rfl h)).2
theorem Da(c:UInt8)(r:Str):oN (c::r)=
 (if(c==10)=true then(⟨5,[10],0⟩,1,0)
 else if iM c=true then(⟨1,(c::r).take (gQ jH (c::r)),0⟩,gQ jH (c::r),if 32<gQ jH (c::r)then 3 else 0)
 else if lK c=true then
  (⟨2,(c::r).take (gQ lK (c::r)),0⟩,gQ lK (c::r),if((gQ lK (c::r)<(c::r).length&&iM (((c::r).drop (gQ lK (c::r))).headD 0))||(c==48&&1<gQ lK (c::r)))=true then 40 else if Num.goodN ((c::r).take (gQ lK (c::r)))=true then 0 else 3)
 else if(c==34)=true then
  (if(qJ ((c::r).length+1) r 0).2=0 then(⟨3,r.take ((qJ ((c::r).length+1) r 0).1-1),0⟩,(qJ ((c::r).length+1) r 0).1+1,0)else(⟨0,[],0⟩,0,(qJ ((c::r).length+1) r 0).2))
 else if qX [60,60] (c::r)=true then(⟨3,(kI (c::r)).1,0⟩,(kI (c::r)).2.1,(kI (c::r)).2.2)
 else(⟨4,rW (c::r),0⟩,(rW (c::r)).length,if(rW (c::r)).length=0 then 40 else 0)):=rfl
section
variable [HX]
theorem YI{r:Str}{K:Q0}(hT:TabI w)(hU:Utf (c::r))(hl:r.length<=100000)
  (hK:∀w',Ext w w'->K (.tuple #[.agg (jI (oN (c::r)).1).toArray,i64 ((oN (c::r)).2.1:Nat),i64 (oN (c::r)).2.2]) w'):aJ P0 61 [str (c::r)] w K:=by
 refine Xz ?_;unfold W61;have hlen:(c::r).length=r.length+1:=rfl;refine cK λa w1 ha hz1 hab1 hx1=>?_;refine cK λb w2 hb hz2 hbb2 hx2=>?_;have hx02:=hx1.trans hx2;have hab2:=hx2.at hab1 id;have cond:∀(k:Nat),k<256->(((c.toNat:Nat):Int)=(k:Int)↔c=UInt8.ofNat k):=λk hk=>by
  have:=Ev c k hk;rwa[decide_eq_decide]at this
 generalize ho:oN (c::r)=o at hK;rw[Da]at ho;refine dE.cut (λst w'=>st=[i64 o.2.2,i64 (o.2.1:Nat)]/\Ext w w'/\w'.heap[a]?=some (.cells [i64 0,str [],i64 0].toArray TkT (0,0))/\w'.heap[b]?=some (.cells (jI o.1).toArray TkT (0,0))) ?_ ?_
 ·
  have put:∀{w3:World} {t:Tok} {old:List Value} {K':World->Prop},Ext w w3->w3.heap[a]?=some (.cells [i64 0,str [],i64 0].toArray TkT (0,0))->w3.heap[b]?=some (.cells old.toArray TkT (0,0))->old.length=3->
    (∀w4,Ext w w4->w4.heap[a]?=some (.cells [i64 0,str [],i64 0].toArray TkT (0,0))->w4.heap[b]?=some (.cells (jI t).toArray TkT (0,0))->K' w4)->stW 3 (.pointer (some ⟨b,0,none⟩)) (.agg (jI t).toArray) w3 K':=by
   intro w3 t old K' hx ha3 hb3 ho3 h;refine cY hb3 rfl ho3 rfl λw4 hz4 hb4 hc4=>?_;exact h w4 (hx.new hc4 (by omega)) (hc4.at ha3 (by omega)) hb4
  refine sA (i:=0) (by rw[hlen];omega) ?_;simp only[List.getElem_cons_zero];rw[cL,bD];refine⟨λe=>?_,λe=>?_⟩
  ·have e:c=10:=(cond 10 (by omega)).1 e;subst e;simp only[beq_self_eq_true,qH]at ho;subst ho;simp only[dP,dW,aB,aK,aM,aQ,Nat.reduceAdd,Nat.reduceLT,dJ,aY];refine cY (l:=[i64 5,str [10],i64 0]) hab2 rfl rfl rfl λw3 hz3 hab3 hc3=>?_;refine gF hab3 rfl ?_;exact hK w3 (hx02.new hc3 (by omega))
  have e:¬(c==10)=true:=λh=>e ((cond 10 (by omega)).2 (by simpa using h));rw[aL e]at ho;refine xO ?_;rw[eJ];refine⟨λhy=>?_,λhno=>?_⟩
  ·rw[aU hy]at ho;refine Ka (q:=jH) (by rw[hlen];omega) (λc {w K} h=>vD (Rr h)) ?_;have hle:=sK jH (c::r);rw[hlen]at hle;generalize gQ jH (c::r)=n at*
   rw[fA,eR];refine⟨by omega,by rw[hlen];omega,?_⟩;rw[fC,eZ,aV];simp only[dP,dW,aB,aK,aM,aQ,Nat.reduceAdd,Nat.reduceLT,dJ,aY];refine put (t:=⟨1,(c::r).take n,0⟩) hx02 hab2 hbb2 rfl λw4 hx4 ha4 hb4=>?_;rw[gD,bD];subst ho;refine⟨λh=>?_,λh=>?_⟩
   ·exact⟨by rw[aU (by omega)],hx4,ha4,hb4⟩
   ·exact⟨by rw[aL (by omega)],hx4,ha4,hb4⟩
  rw[aL (by rw[hno];decide)]at ho;refine Cz ?_;rw[eJ];refine⟨λhy=>?_,λhno=>?_⟩
  ·rw[aU hy]at ho;refine Ka (q:=lK) (by rw[hlen];omega) (λc {w K} h=>vD (Cz h)) ?_;have hle:=sK lK (c::r);rw[hlen]at hle;generalize gQ lK (c::r)=n at*
   rw[fA,eR];refine⟨by omega,by rw[hlen];omega,?_⟩;rw[fC,eZ,aV];simp only[dP,dW,aB,aK,aM,aQ,Nat.reduceAdd,Nat.reduceLT,dJ,aY];refine put (t:=⟨2,(c::r).take n,0⟩) hx02 hab2 hbb2 rfl λw4 hx4 ha4 hb4=>?_;refine dE.cut (λst w'=>st=[.bool ((n<(c::r).length&&iM (((c::r).drop n).headD 0))||(c==48&&1<n))]/\w'=w4) ?_ ?_
   ·rw[dV,dI,show decide (((n:Nat):Int)<(((c::r).length:Nat):Int))=decide (n<(c::r).length)by rw[decide_eq_decide];omega];simp only[fT];refine GdW.look (iM (((c::r).drop n).headD 0)) (λhg J hJ=>?_) λg=>?_
    ·have hlt:n<(c::r).length:=by simpa using hg
     refine sA hlt ?_;refine xO ?_;rw[lD hlt]at hJ;exact hJ
    simp only[aC];rw[fG,eJ];refine⟨λh=>by rw[h,dX];exact⟨rfl,trivial⟩,λh=>?_⟩;have e5:decide (((c.toNat:Nat):Int)=48)=(c==48):=wG 48 c;rw[cL,e5];simp only[fT,gD,nH,aC];intro g2;rw[fG,h,dC];refine⟨?_,trivial⟩;rw[show decide ((1:Int)<((n:Nat):Int))=decide (1<n)by rw[decide_eq_decide];omega]
   rintro st g w5 ⟨rfl,rfl⟩;simp only[aC];rw[eJ];refine⟨λh=>?_,λh=>?_⟩
   ·rw[aU h]at ho;subst ho;exact⟨rfl,hx4,ha4,hb4⟩
   rw[aL (by rw[h];decide)]at ho;rw[bE,eD];refine⟨str ((c::r).take n),by rw[bL,cM,hb4];rfl,?_⟩;refine HE (by have:((c::r).take n).length<=n:=(by rw[cO];omega);omega) λw6 hx6=>?_;rw[fH,eJ];subst ho;refine⟨λh=>?_,λh=>?_⟩
   ·exact⟨by rw[aL (by simpa using h)],hx4.trans hx6,hx6.at ha4 id,hx6.at hb4 id⟩
   ·exact⟨by rw[aU (by simpa using h)],hx4.trans hx6,hx6.at ha4 id,hx6.at hb4 id⟩
  rw[aL (by rw[hno];decide)]at ho;rw[cL,bD];refine⟨λe=>?_,λe=>?_⟩
  ·have e:c=34:=(cond 34 (by omega)).1 e;rw[aU (by rw[e];rfl),sS (by omega)]at ho;refine Rv (d:=0) (by omega) (by omega) ?_;by_cases h0:(jZ r 0).2=0
   ·rw[aU h0]at ho;have hf:=CN h0;unfold rM;rw[aU h0,bY];refine⟨_,rfl,?_⟩;rw[bY];refine⟨_,rfl,?_⟩;rw[cL,bD];refine⟨λ_=>?_,λh=>absurd rfl h⟩;rw[gR,gI (by omega) (by omega),fA,eR,eR];refine⟨by omega,by rw[hlen];omega,by omega,by omega,?_⟩;have et:((c::r).take (Int.toNat (((jZ r 0).1+1:Nat)-1))).drop (Int.toNat 1)=r.take ((jZ r 0).1-1):=by
     rw[show Int.toNat ((((jZ r 0).1+1:Nat):Int)-1)=((jZ r 0).1-1)+1 by omega];rfl
    rw[et];simp only[dP,dW,aB,aK,aM,aQ,Nat.reduceAdd,Nat.reduceLT,dJ,aY];refine put (t:=⟨3,r.take ((jZ r 0).1-1),0⟩) hx02 hab2 hbb2 rfl λw4 hx4 ha4 hb4=>?_;subst ho;exact⟨rfl,hx4,ha4,hb4⟩
   ·rw[aL h0]at ho;unfold rM;rw[aL h0,bY];refine⟨_,rfl,?_⟩;rw[bY];refine⟨_,rfl,?_⟩;rw[cL,bD];refine⟨λh=>absurd h h0,λh=>?_⟩;subst ho;exact⟨rfl,hx02,hab2,hbb2⟩
  have e:¬(c==34)=true:=λh=>e ((cond 34 (by omega)).2 (by simpa using h));rw[aL e]at ho;refine Ai ?_;rw[eJ];refine⟨λhy=>?_,λhno=>?_⟩
  ·rw[aU (show qX [60,60] (c::r)=true from hy)]at ho;have h2:2<=(c::r).length:=Gn (p:=[60,60]) (s:=c::r) hy;rw[bE,bL,aI];refine kQ hbb2 rfl (by simp) λw3 hz3 hb3 hc3=>?_;have hx3:=hx02.new hc3 (by omega);have ha3:=hc3.at hab2 (by omega);refine LL (hT.ext hx3) hU (by rw[hlen];omega) h2 λw4 hx4=>?_;rw[bY];refine⟨_,rfl,?_⟩;rw[bY];refine⟨_,rfl,?_⟩;rw[bY];refine⟨_,rfl,?_⟩;have hb4:=hx4.at hb3 id;rw[bE,bL,aI];refine kQ hb4 rfl (by simp) λw5 hz5 hb5 hc5=>?_;subst ho;exact⟨rfl,(hx3.trans hx4).new hc5 (by omega),hc5.at (hx4.at ha3 id) (by omega),by rw[hb5];simp[jI]⟩
  ·rw[aL (show¬qX [60,60] (c::r)=true from by rw[show qX [60,60] (c::r)=false from hno];decide)]at ho;refine MP (by omega) ?_;simp only[dP,dW,aB,aK,aM,aQ,Nat.reduceAdd,Nat.reduceLT,dJ,aY];refine put (t:=⟨4,rW (c::r),0⟩) hx02 hab2 hbb2 rfl λw4 hx4 ha4 hb4=>?_;rw[bE,eD];refine⟨str (rW (c::r)),by rw[bL,cM,hb4];rfl,?_⟩;rw[dV,cL,bD];subst ho;refine⟨λh=>?_,λh=>?_⟩
   ·exact⟨by rw[aU (by omega)],hx4,ha4,hb4⟩
   ·exact⟨by rw[aL (by omega)],hx4,ha4,hb4⟩
 rintro st g w3 ⟨rfl,hx3,ha3,hb3⟩;refine gF hb3 rfl ?_;refine cY (l:=jI o.1) ha3 rfl rfl rfl λw4 hz4 ha4 hc4=>?_;refine gF ha4 rfl ?_;exact hK w4 (hx3.new hc4 (by omega))
end
theorem My{s:Str}{k:Nat}(h:Utf s)(hc:∀c,(s.drop k).head?=some c->c.toNat<128):Utf (s.drop k):=by
 cases hd:s.drop k with
 |nil=>exact .nil
 |cons c b=>exact(Ar h hd (hc c (by rw[hd];rfl))).2
theorem tA{s:Str}{k:Nat}(h:Utf s)(hk:s[k]?=some c)(hc:c.toNat<128):Utf (s.drop (k+1)):=by
 obtain⟨hlt,e⟩:=bS.1 hk;have hd:=lD hlt;rw[e]at hd;exact tB (Ar h hd hc).2 hc
theorem AD(q:UInt8->Bool):∀(s:Str) (b:UInt8),(s.drop (gQ q s)).head?=some b->q b=false
 |[],b,h=>by simp[gQ]at h
 |c::r,b,h=>by
  simp only[gQ]at h
  by_cases hc:q c=true
  ·rw[aU hc,eL]at h;exact AD q r b h
  ·rw[aL hc]at h
   simp only[eZ,List.head?_cons,bA]at h
   rw[<-h];simpa using hc
theorem Hj(q:UInt8->Bool):∀(s:Str) (k:Nat),gQ q s=k+1->∃c,s[k]?=some c/\q c=true
 |[],k,h=>by simp[gQ]at h
 |c::r,k,h=>by
  simp only[gQ]at h
  by_cases hc:q c=true
  ·rw[aU hc]at h
   cases k with
   |zero=>exact⟨c,rfl,hc⟩
   |succ k=>
    obtain⟨x,h1,h2⟩:=Hj q r k (by omega)
    exact⟨x,by simpa using h1,h2⟩
  ·rw[aL hc]at h;omega
theorem Kt:∀(s:Str) (i:Nat),Lib.index s [42,47]=(i:Int)->s[i+1]?=some 47
 |[],i,h=>by
  unfold Lib.index at h
  simp at h
 |b::l,i,h=>by
  unfold Lib.index at h
  split at h
  ·rename_i hp
   have hi:i=0:=by omega
   subst hi
   cases l with
   |nil=>simp[List.isPrefixOf]at hp
   |cons c l=>
    simp only[List.isPrefixOf,bU,iK,dY]at hp
    simp[hp.2]
  ·split at h
   ·omega
   ·rename_i hq
    have h1:Lib.index l [42,47]≠-1:=by simpa using hq
    have hg:=Lib.index_ge l [42,47]
    have:=Kt l (i-1) (by omega)
    have hi:1<=i:=by omega
    rw[show i-1+1=i by omega]at this
    simpa using this
theorem Lb{s:Str}(h:Utf s):Utf (s.drop (gQ (λb=>b !=10) s)):=
 My h λc hc=>by
  have:=AD _ _ _ hc
  have:c=10:=by simpa using this
  subst this;decide
theorem xI:∀(n:Nat) (s:Str),Utf s->Utf (s.drop (jP n s).1)
 |0,s,h=>by simpa[jP]using h
 |n+1,[],h=>by simpa[jP]using h
 |n+1,c::r,h=>by
  rw[Ey]
  split
  ·rename_i hb
   have hc:c.toNat<128:=by
    simp only[gK,iK]at hb;rcases hb with(rfl|rfl)|rfl<;>decide
   rw[eL];exact xI n r (tB h hc)
  split
  ·have:=xI n _ (Lb h);rw[jU]at this;rw[zJ];exact this
  split
  ·rename_i hp;split
   ·simpa using h
   ·rename_i hn;obtain⟨j,hj⟩:=wY (show 0<=Lib.index (r.drop 1) [42,47]by omega);have he:=Kt _ _ hj;have hu:Utf ((c::r).drop ((Lib.index (r.drop 1) [42,47]).toNat+4)):=by
     rw[hj,aV];refine tA (k:=j+3) (c:=47) h ?_ (by decide);rw[jG]at he;rw[bF,<-he];congr 1;omega
    have:=xI n _ hu;rw[jU]at this;rw[zJ];exact this
  ·simpa using h
theorem Dw:∀(n:Nat) (name s:Str) (c:UInt8),(nD n name s).2.2=0->(s.drop (nD n name s).2.1).head?=some c->c=10
 |0,_,_,_,h,_=>by simp[nD]at h
 |n+1,name,s,c,h,hc=>by
  rw[Fh]at h hc
  split at h
  ·rename_i h1
   rw[aU h1]at hc
   have:=AD _ _ _ hc
   simpa using this
  rename_i h1
  rw[aL h1]at hc
  split at h
  ·cases h
  rename_i h2
  rw[aL h2]at hc
  split at h
  ·rename_i h3
   rw[aU h3]at hc
   refine Dw n name _ c h3 ?_
   rw[jU]
   rw[show gQ (λb=>b !=10) s+1+(nD n name (s.drop (gQ (λb=>b !=10) s+1))).2.1=(nD n name (s.drop (gQ (λb=>b !=10) s+1))).2.1+(gQ (λb=>b !=10) s+1)by omega]
   exact hc
  ·rename_i h3;exact absurd h h3
theorem GG{s:Str}(h:(kI s).2.2=0)(hc:(s.drop (kI s).2.1).head?=some c):c=10:=by
 unfold kI at h hc;simp only at h hc;generalize (if iM ((s.drop 2).headD 0)=true then gQ jH (s.drop 2)else 0)=n at h hc;split at h
 ·cases h
 rename_i h1;rw[aL h1]at hc;split at h
 ·rename_i h2;rw[aU h2]at hc;split at h
  ·rename_i h3;rw[aU h3]at hc;refine Dw _ _ _ c h3 ?_;rw[jU,zJ];exact hc
  ·rename_i h3;exact absurd h h3
 ·cases h
theorem Dh(h:jH c=true):c.toNat<128:=by
 have:∀m:Fin 256,jH (UInt8.ofNat m.val)=true->(UInt8.ofNat m.val).toNat<128:=by decide+kernel
 have h':=this ⟨c.toNat,pJ c⟩;rw[qI]at h';exact h' h
theorem Fz(h:lK c=true):c.toNat<128:=Dh (by unfold jH;rw[h];simp)
theorem Ha(h:Bo.contains c=true):c.toNat<128:=by
 have:∀m:Fin 256,Bo.contains (UInt8.ofNat m.val)=true->(UInt8.ofNat m.val).toNat<128:=by decide+kernel
 have h':=this ⟨c.toNat,pJ c⟩;rw[qI]at h';exact h' h
theorem Lh{x:Str}(h:vQ.contains x=true):x.length=2/\∃c,x[1]?=some c/\c.toNat<128:=by
 have:x∈vQ:=by simpa using h
 simp only[vQ,bC,cA,gG]at this;rcases this with rfl|rfl|rfl|rfl|rfl|rfl<;>exact⟨rfl,_,rfl,by decide⟩
theorem Kg{r:Str}(h:Utf (c::r))(h0:(oN (c::r)).2.2=0):Utf ((c::r).drop (oN (c::r)).2.1):=by
 have run:∀q:UInt8->Bool,(∀c,q c=true->c.toNat<128)->Utf ((c::r).drop (gQ q (c::r))):=λq hq=>by
  cases hk:gQ q (c::r)with
  |zero=>exact h
  |succ k=>
   obtain⟨x,h1,h2⟩:=Hj q _ _ hk;exact tA h h1 (hq x h2)
 rw[Da]at h0⊢;split
 ·rename_i e;have e:c=10:=by simpa using e
  exact tB h (by rw[e];decide)
 rename_i n1;rw[aL n1]at h0;split
 ·exact run _ λc=>Dh
 rename_i n2;rw[aL n2]at h0;split
 ·exact run _ λc=>Fz
 rename_i n3;rw[aL n3]at h0;split
 ·rename_i e;rw[aU e]at h0;split
  ·rename_i h1;rw[sS (by simp only[aB];omega)]at h1⊢;have hf:=CN h1;have he:=uL _ r 0 _ (aZ _) (jO rfl h1:jZ r 0=((jZ r 0).1,0));refine tA (c:=34) h ?_ (by decide);rw[show(jZ r 0).1=(jZ r 0).1-1+1 by omega,bF];exact he
  ·rename_i h1;rw[aL h1]at h0;exact absurd h0 h1
 rename_i n4;rw[aL n4]at h0;split
 ·rename_i h1;rw[aU h1]at h0;exact My h λx hx=>by rw[GG h0 hx];decide
 rename_i n5;rw[aL n5]at h0;show Utf ((c::r).drop (rW (c::r)).length);unfold rW;split
 ·rename_i h1;obtain⟨e1,x,e2,e3⟩:=Lh h1;rw[e1];refine tA (k:=1) (c:=x) h ?_ e3;rw[<-e2,gT (by omega)]
 split
 ·rename_i h1;exact tB h (Ha h1)
 ·exact h
theorem DV{s:Str}:∀(n i:Nat),s.length<n+i->DW n s i=none->Utf (s.drop i)
 |0,i,hl,_=>by rw[iI (by omega)];exact .nil
 |n+1,i,hl,h=>by
  rw[DW]at h
  split at h
  ·rename_i hi;rw[iI hi];exact .nil
  split at h
  ·cases h
  ·rename_i hi h0
   have hs:xF s i=kX s i:=by unfold xF;omega
   rw[hs]at h
   have:=Utf.cons (Rn.of h0) (DV n (i+kX s i) (by omega) h)
   rwa[<-kP,pM]at this
theorem Ox{s:Str}(h:kX s i=0):Lib.hasPrefix (s.drop i) [239,191,189]=false:=by
 rw[Bool.eq_false_iff];intro hp;obtain⟨r,hr⟩:=Eo.1 hp;have hn:Rn [239,191,189]:=⟨by decide,by decide⟩;have:=hn.at hr.symm;rw[h]at this;cases this
theorem LS{s:Str}(h:OF s i n 65533):Lib.hasPrefix (s.drop i) [239,191,189]=true:=by
 have hb:=h.bytes;refine Eo.2 ?_;have e:Lib.encodeRune ((65533:Nat):Int)=[239,191,189]:=by decide
 rw[e]at hb;rw[hb];exact List.take_prefix _ _
def Lj(acc:List Tok):RS->RS
 |.ok l=>.ok (acc++l)
 |.bad c a=>.bad c a
theorem Li(acc:List Tok)(t:Tok)(x:RS):Lj acc (match x with|.ok l=>.ok (t::l)|x=>x)=Lj (acc++[t]) x:=by
 cases x<;>simp[Lj]
theorem GY(a:List Tok)(t:Tok):toks (a++[t])=toks a++jI t:=by simp[toks,jI]
section
variable [HX]
theorem Vn:UW:=by
 intro w K s hT hl hok hbad;refine XT ?_;unfold W28;rw[dV,gD,bD];unfold nP at hok hbad;have bad:∀{w1:World} (c:Int) (i:Nat) {K':Q0},(∀d w',Ext w w'->w.heap.size<=d->w'.heap[d]?=some (.cells [i64 c,str [],i64 (i:Nat)].toArray 48 (0,0))->K (.tuple #[.slice none 0 0,.pointer (some ⟨d,0,none⟩)]) w')->Ext w w1->
   jF 48 (.agg [i64 c,str [],i64 (i:Nat)].toArray) w1 λt16 w2=>K (.tuple #[.slice none 0 0,t16]) w2:=by
  intro w1 c i _ h hx;refine fZ (z:=[i64 c,str [],i64 (i:Nat)]) λd w2 hd hz hdb hx2=>?_;have:=hx.size;exact h d w2 (hx.trans hx2) (by omega) hdb
 refine⟨λh=>?_,λh=>?_⟩
 ·rw[aU (by omega)]at hbad;simp only[dP,dW,aB,aK,aM,aQ,Nat.reduceAdd,Nat.reduceLT,dJ,aY];exact bad (K':=K) 3 0 (λd w'=>hbad 3 0 rfl d w') (Chg.refl _ _)
 have hls:s.length<=16384:=by omega
 rw[aL (by omega)]at hok hbad;generalize hB:DW (s.length+1) s 0=Bd at hok hbad;refine Di ?_;refine dL.go (λst w5=>∃p m,p<=s.length/\st=[]/\w5.heap[w.heap.size]?=some (.stringIter (ofL s) p)/\Ext w w5/\DW m s p=Bd/\s.length<m+p)
  (λ_ w5=>match w5.heap[w.heap.size]? with|some (.stringIter _ p)=>s.length-p|_=>0)
  ⟨0,s.length+1,dU _,rfl,kF _ _ _ rfl,Chg.alloc (Chg.refl _ _) _,hB,by omega⟩ ?_
 rintro st g w5 ⟨p,m,hp,rfl,hit,hx5,hbf,hm⟩;obtain⟨m,rfl⟩:∃k,m=k+1:=⟨m-1,by omega⟩;rw[DW]at hbf;have hz5:=hx5.size;refine Fb hit (λhpe=>?_) (λhpl w6 hit6 hc6 hz6=>?_)
 ·
  rw[bY];refine⟨.bool false,rfl,?_⟩;rw[bQ];rw[aU hpe]at hbf;subst hbf;simp only at hok hbad;have hU:Utf s:=by
   have:=DV (s:=s) (s.length+1) 0 (by omega) hB;rwa[eZ]at this
  generalize hR:nQ (s.length+1) s 0 0=R0 at hok hbad;refine dL.go (λst w7=>∃(i m:Nat) (acc:List Tok) (v:Value),st=[v,i64 (i:Nat)]/\i<=s.length/\Utf (s.drop i)/\Ext w w7/\Own w7 w.heap.size TkT 3 v acc.length (toks acc)/\Lj acc (nQ m (s.drop i) i acc.length)=R0/\s.length<m+i/\acc.length<=4096)
   (λst _=>match st with|[_,.int _ i]=>s.length-i.toNat|_=>0)
   ⟨0,s.length+1,[],_,rfl,dU _,by rw[eZ];exact hU,hx5,⟨by simp[toks],.inl ⟨rfl,rfl⟩⟩,by rw[eZ,aK,hR];cases R0<;>rfl,by omega,by simp⟩ ?_
  rintro st g2 w7 ⟨i,m2,acc,v,rfl,hi,hu,hx7,hO,hr,hm2,hcnt⟩;obtain⟨m2,rfl⟩:∃k,m2=k+1:=⟨m2-1,by omega⟩;simp only[nQ]at hr;simp only[aC,bO];have hz7:=hx7.size;have hsl:(s.drop i).length=s.length-i:=aX;rw[fA,fC,eR];refine⟨by omega,by omega,?_⟩;rw[dZ,aV];refine Vj (hT.ext hx7) (by omega) ?_;have hku:=xI ((s.drop i).length+1) _ hu;have hkl:=vP ((s.drop i).length+1) (s.drop i);rw[jU]at hku hr;generalize jP ((s.drop i).length+1) (s.drop i)=k at*
  obtain⟨k,kc⟩:=k;simp only at hku hkl hr⊢;rw[bY];refine⟨_,rfl,?_⟩;rw[bY];refine⟨_,rfl,?_⟩;rw[cJ,gI (by omega) (by omega),show(i:Int)+(k:Nat)=((i+k:Nat):Int)by omega,cL];simp only[fT];refine GdW.look (decide (i+k=s.length)) (λ_ J hJ=>?_) λg3=>?_
  ·rw[dV,cL,show decide (((i+k:Nat):Int)=((s.length:Nat):Int))=decide (i+k=s.length)by rw[decide_eq_decide];omega];exact hJ
  simp only[aC];rw[fG,eJ];refine⟨λhend=>?_,λhgo=>?_⟩
  ·simp only[bU,decide_eq_true_iff]at hend;rw[aL (by rw[hend.1];simp),aU (sI (by omega))]at hr;simp only[dP,dW,aB,aK,aM,aQ,Nat.reduceAdd,Nat.reduceLT,dJ,aY];rw[dN];refine Bc (d:=jI ⟨0,[],((i+k:Nat):Int)⟩) rfl rfl λb w8 hb hz8 hbb hx8=>?_;refine jL UM (hO.ext hx8) (sX (n:=1) hbb) rfl (λu hu=>by simp only[jI,bC,cA,gG]at hu;rcases hu with rfl|rfl|rfl<;>rfl) (by omega) (by omega) (by have:=hx8.size;omega) λv' w9 hO9 hc9 hv9=>?_;have e:toks acc++jI ⟨0,[],((i+k:Nat):Int)⟩=toks (acc++[⟨0,[],((i+k:Nat):Int)⟩]):=(GY _ _).symm;rw[e]at hO9;have hx9:Ext w w9:=(hx7.trans hx8).then hc9 λq hq e=>by have:=(kJ hO e).2;omega
   refine hok (acc++[⟨0,[],((i+k:Nat):Int)⟩]) (by rw[<-hr];rfl) v' w9 hx9 (by rw[aP];exact hO9.sl) λq hq=>⟨(kJ hO9 hq).2,(kJ hO9 hq).1⟩
  ·have hgo:¬(kc=0/\i+k=s.length):=by
    rintro⟨h1,h2⟩;rw[h1,h2]at hgo;simp at hgo
   refine cK λa w8 ha hz8 hab8 hx8=>?_;have hx78:=hx7.trans hx8;refine dE.cut (λst w9=>Ext w w9/\Own w9 w.heap.size TkT 3 v acc.length (toks acc)/\w8.heap.size<=w9.heap.size/\v.ownBlock≠some a/\∃(t:Tok) (n:Nat) (e:Int),st=[i64 e,i64 (n:Nat)]/\w9.heap[a]?=some (.cells (jI t).toArray TkT (0,0))/\
    ((e≠0/\R0=.bad e ((i+k:Nat):Int))\/(e=0/\1<=n/\i+k+n<=s.length/\Utf (s.drop (i+k+n))/\Lj acc (if acc.length=4096 then .bad 3 ((i+k:Nat):Int)else match nQ m2 (s.drop (i+k+n)) (i+k+n) (acc.length+1)with|.ok l=>.ok (⟨t.k,t.t,((i+k:Nat):Int)⟩::l)|x=>x)=R0))) ?_ ?_
   ·have hva:v.ownBlock≠some a:=λe=>by have:=(kJ hO e).1;omega
    rw[cL,bD];refine⟨λh0=>?_,λh0=>?_⟩
    ·rw[aL (by rw[h0];simp)]at hr;have hlt:i+k<s.length:=by
      rcases oM (i+k) s.length with h|h
      ·exact h
      ·exact absurd ⟨h0,by omega⟩ hgo
     have hd:=lD hlt;rw[aL (λe=>by rw[hd]at e;cases e)]at hr;rw[fA,fC,eR];refine⟨by omega,by omega,?_⟩;rw[dZ,aV];have hrl:(s.drop (i+k+1)).length=s.length-(i+k+1):=aX;rw[hd]at hr hku⊢;generalize s[i+k]=c at*
     generalize hrr:s.drop (i+k+1)=r at*
     refine YI (hT.ext hx78) hku (by omega) λw9 hx9=>?_;rw[bY];refine⟨_,rfl,?_⟩;rw[bY];refine⟨_,rfl,?_⟩;rw[bY];refine⟨_,rfl,?_⟩;have hou:=Kg hku;have hok1:=@Gr (c::r);generalize oN (c::r)=o at*
     obtain⟨t,n,e⟩:=o;simp only at hou hr⊢;refine cY (l:=jI t) (hx9.at hab8 id) rfl rfl rfl λw10 hz10 ha10 hc10=>?_;have hO9:=(hO.ext hx8).ext hx9;refine⟨(hx78.trans hx9).new hc10 (by omega),eG hO9 hc10 λq hq e=>hva (e▸hq),by have:=hx9.size;omega,hva,?_⟩;by_cases he:e=0
     ·subst he;rw[aL (by simp)]at hr;obtain⟨n1,n2,_⟩:=hok1 (t:=t) (k:=n) (by simp) rfl;simp only[aB]at n2;refine⟨t,n,0,rfl,ha10,.inr ⟨rfl,n1,by omega,?_,?_⟩⟩
      ·rw[<-jU,hd];exact hou rfl
      ·rw[<-jU,hd];exact hr
     ·rw[aU he]at hr;exact⟨t,n,e,rfl,ha10,.inl ⟨he,hr.symm⟩⟩
    ·rw[aU h0]at hr;exact⟨hx78,hO.ext hx8,aZ _,hva,⟨0,[],0⟩,0,kc,rfl,hab8,.inl ⟨h0,hr.symm⟩⟩
   rintro st g4 w9 ⟨hx9,hO9,hz9,hva,t,n,e,rfl,ha9,hcase⟩;simp only[aC,bO];refine dE.cut (λst w'=>w'=w9/\∃e':Int,st=[i64 e']/\((e'≠0/\R0=.bad e' ((i+k:Nat):Int))\/(e'=0/\1<=n/\i+k+n<=s.length/\Utf (s.drop (i+k+n))/\acc.length<4096/\Lj acc (match nQ m2 (s.drop (i+k+n)) (i+k+n) (acc.length+1)with|.ok l=>.ok (⟨t.k,t.t,((i+k:Nat):Int)⟩::l)|x=>x)=R0))) ?_ ?_
   ·rw[cL];simp only[fT];refine GdW.look (decide (acc.length=4096)) (λ_ J hJ=>?_) λg5=>?_
    ·obtain⟨q,cap,ev,_⟩:=hO9.sl.shape;rw[ev,gZ,cL,show decide (((acc.length:Nat):Int)=4096)=decide (acc.length=4096)by rw[decide_eq_decide];omega];exact hJ
    simp only[aC];rw[fG,eJ];refine⟨λhb=>?_,λhb=>?_⟩
    ·simp only[bU,decide_eq_true_iff]at hb;refine⟨trivial,3,rfl,.inl ⟨by decide,?_⟩⟩;rcases hcase with⟨h1,h2⟩|⟨h1,h2,h3,h4,h5⟩
     ·exact absurd hb.1 h1
     ·rw[aU hb.2]at h5;exact h5.symm
    ·refine⟨trivial,e,rfl,?_⟩;rcases hcase with h|⟨h1,h2,h3,h4,h5⟩
     ·exact .inl h
     ·have:acc.length≠4096:=λh=>by rw[h1,h]at hb;simp at hb
      rw[aL this]at h5;exact .inr ⟨h1,h2,h3,h4,by omega,h5⟩
   rintro st g5 w10 ⟨rfl,e',rfl,hcase⟩;simp only[aC];rw[dQ,bD];refine⟨λhne=>?_,λheq=>?_⟩
   ·rcases hcase with⟨h1,h2⟩|⟨h1,_⟩
    ·simp only[dP,dW,aB,aK,aM,aQ,Nat.reduceAdd,Nat.reduceLT,dJ,aY];exact bad (K':=K) e' (i+k) (λd w'=>hbad e' _ h2 d w') hx9
    ·exact absurd h1 hne
   ·rcases hcase with⟨h1,_⟩|⟨h1,n1,n2,hu2,hc4,hr⟩
    ·exact absurd (by simpa using heq) h1
    rw[bE,bL,aI];refine kQ ha9 rfl (by simp[jI]) λw11 hz11 ha11 hc11=>?_;have ha11:w11.heap[a]?=some (.cells (jI ⟨t.k,t.t,((i+k:Nat):Int)⟩).toArray TkT (0,0)):=by rw[ha11];simp[jI]
    have hO11:=eG hO9 hc11 λq hq e=>hva (e▸hq);have hx11:=hx9.new hc11 (by omega);refine gF ha11 rfl ?_;refine Bc (d:=jI ⟨t.k,t.t,((i+k:Nat):Int)⟩) rfl rfl λb w12 hb hz12 hbb hx12=>?_;refine jL UM (hO11.ext hx12) (sX (n:=1) hbb) rfl (λu hu=>by simp only[jI,bC,cA,gG]at hu;rcases hu with rfl|rfl|rfl<;>rfl) (by omega) (by omega) (by have:=hx11.size;have:=hx12.size;omega) λv' w13 hO13 hc13 hv13=>?_;rw[<-GY]at hO13;rw[cJ,gI (by omega) (by omega)];refine⟨⟨i+k+n,m2,acc++[⟨t.k,t.t,((i+k:Nat):Int)⟩],v',by simp only[gP,Value.int.injEq,dJ,fM];omega,by omega,hu2,(hx11.trans hx12).then hc13 λq hq e=>?_,by rw[aP];exact hO13,?_,by omega,by rw[aP,aB,aK];omega⟩,?_⟩
    ·have:=(kJ hO11 e).2;omega
    ·rw[aP,<-Li];exact hr
    ·simp only[aV];omega
 ·
  have hge:¬s.length<=p:=by omega
  rw[aL hge]at hbf;have hx6:Ext w w6:=hx5.then hc6 λq hq e=>by have e:q=w.heap.size:=e;omega
  rw[bY];refine⟨.bool true,rfl,?_⟩;rw[dG,bY];refine⟨i64 (p:Nat),rfl,?_⟩;rw[bY];refine⟨_,rfl,?_⟩;have hdc:(Utf8.decode (ofL s) p).1=65533/\Lib.hasPrefix (s.drop p) [239,191,189]=false↔kX s p=0:=by
   constructor
   ·rintro⟨h1,h2⟩;by_cases h0:kX s p=0
    ·exact h0
    ·obtain⟨c,hc⟩:=uP hpl h0;have hd:=hc.dec;rw[hd]at h1;have h1:c=65533:=h1;subst h1;rw[LS hc]at h2;cases h2
   ·intro h0;rw[Hh hpl h0];exact⟨rfl,Ox h0⟩
  rw[Og hpl]at hit6;generalize (Utf8.decode (ofL s) p).1=c at*
  rw[cL,show decide (((c:Nat):Int)=65533)=decide (c=65533)by rw[decide_eq_decide];omega];simp only[fT];refine GdW.look (!Lib.hasPrefix (s.drop p) [239,191,189]) (λ_ J hJ=>?_) λg3=>?_
  ·rw[fA,fC,eR];refine⟨by omega,by omega,?_⟩;rw[dZ,aV];refine Ai ?_;rw[fH];exact hJ
  simp only[aC];rw[fG,eJ];refine⟨λhb=>?_,λhb=>?_⟩
  ·have h0:kX s p=0:=hdc.1 (by simpa using hb);rw[aU h0]at hbf;subst hbf;simp only[dP,dW,aB,aK,aM,aQ,Nat.reduceAdd,Nat.reduceLT,dJ,aY];exact bad (K':=K) 31 p (λd w'=>hbad 31 _ rfl d w') hx6
  ·have h0:kX s p≠0:=λh=>by
    have:=hdc.2 h;rw[bW this.1,this.2]at hb;cases hb
   rw[aL h0]at hbf;have hfit:=Ld hpl;have hpos:=MK s p;refine⟨⟨p+xF s p,m,hfit,trivial,hit6,hx6,hbf,by omega⟩,?_⟩;rw[hit6,hit];show s.length-(p+xF s p)<s.length-p;omega
end
theorem Oa(w:World)(B:Nat):FO w B ⟨.slice none 0 0,.slice none 0 0,.slice none 0 0,[],[]⟩ ⟨[],[],[]⟩:=
 ⟨⟨by simp,.inl ⟨rfl,rfl⟩⟩,⟨by simp,.inl ⟨rfl,rfl⟩⟩,⟨by simp[ints],.inl ⟨rfl,rfl⟩⟩,kO.nil _ _,kO.nil _ _,mI,λk hk=>by simp[ub,Value.ownBlock]at hk,λk hk=>by simp[ub,Value.ownBlock]at hk⟩
section
variable [HX]
end
def ex1:Str:=[114,32,34,116,34,32,34,110,34,32,123,32,120,32,61,32,49,32,43,32,121,46,122,32,125]
section
variable [HX]
end
end
section
open Go Go.Eng Go.RowKit Go.Syn Go.Lex
variable{w:World}{K:Q0}{cs:List Value}{G:Nat->Prop}{T:TypeId}{i:Nat}{n:Nat}{v:Value}{w':World}{P:Program}{c:UInt8}{S:Nat->Prop}
def cnt(n:Nat)(l:List Nat):List Nat:=(List.range n).map λj=>l.count j
theorem AY(n:Nat)(l:List Nat):(cnt n l).length=n:=by simp[cnt]
theorem Sk(n:Nat):cnt n []=List.replicate n 0:=by
 apply List.ext_getElem (by simp[cnt]);intro i h1 h2;simp[cnt]
theorem KH{x:Nat}(l:List Nat)(h:x<n):(cnt n l)[x]?=some (l.count x):=by simp[cnt,h]
theorem Sj{x:Nat}(l:List Nat)(h:x<n):(cnt n l).set x (l.count x+1)=cnt n (l++[x]):=by
 apply List.ext_getElem (by simp[cnt]);intro i h1 h2;rw[List.getElem_set];simp only[cnt,List.getElem_map,List.getElem_range,kH,List.count_singleton];by_cases e:x=i
 ·subst e;simp
 ·rw[aL e];simp[e]
section
variable [HX]
theorem WA{K:Q0}(hm:n<=1000000)(hK:∀a w',a=w.heap.size->w'.heap.size=w.heap.size+1->w'.heap[a]?=some (.cells (ints (List.replicate n 0)).toArray jY (0,0))->Ext w w'->K (.slice (some ⟨a,0,none⟩) n n) w'):
  fY P0 (Instr.makeSlice 26 (i64 (n:Nat)) (i64 (n:Nat))) w K:=by
 have hinf:((Tryz.prog.info? jY).bind (·.zero))=some (i64 0):=by kernel_rfl
 obtain⟨i,z,hi,hz,hsz,hbytes,hzs⟩:=Aj.get;have hz0:z=i64 0:=by
  rw[hi]at hinf;simp only[Option.bind_some]at hinf;rw[hz]at hinf;exact Option.some.inj hinf
 subst hz0;unfold fY;have hr:=run_makeSlice (P:=P0) (w:=w) 26 jY i _ (by kernel_rfl) hi hz .i64 .i64 n n (by omega) (by omega) (by rw[hsz];omega) (by rw[hbytes];omega) (by omega);rw[hr,hsz];simp only[aV,Nat.mul_one];have hc:madeCells (Value.cells (i64 0)) n=(ints (List.replicate n 0)).toArray:=by
  apply Array.ext_getElem?;intro j;simp only[madeCells,Array.getElem?_map,bN,ints];by_cases hj:j<n
  ·rw[Array.getElem?_eq_getElem (by simpa using hj)];simp[Value.cells,hj,Nat.mod_one]
  ·rw[Array.getElem?_eq_none (by simp;omega)];simp[hj]
 rw[hc];exact hK _ _ rfl (Array.size_push ..) (kF _ _ _ rfl) (Chg.alloc (Chg.refl _ _) _)
theorem YN{e x:Nat}{l:List Nat}{K:World->Prop}(he:w.heap[e]?=some (.cells (ints (cnt n l)).toArray jY (0,0)))(hx:x<n)(hl:l.count x<=1000000)
  (hK:∀w',w'.heap.size=w.heap.size->w'.heap[e]?=some (.cells (ints (cnt n (l++[x]))).toArray jY (0,0))->Chg (One e) w w'->K w'):
  fK none 1 (.slice (some ⟨e,0,none⟩) n n) (i64 (x:Nat)) λt=>ldW false 1 t w λv=>aS .add v (i64 1) λv'=>fK none 1 (.slice (some ⟨e,0,none⟩) n n) (i64 (x:Nat)) λt'=>stW 1 t' v' w K:=by
 rw[eY];refine⟨by omega,by omega,?_⟩;rw[bL,aV,Nat.mul_one,aI,eD];refine⟨i64 (l.count x:Nat),?_,?_⟩
 ·rw[cM,he,bT];simp[ints,KH l hx]
 rw[cJ,upi (by omega),eY];refine⟨by omega,by omega,?_⟩;rw[bL,aV,Nat.mul_one,aI];refine kQ he rfl (by simp[ints,AY];exact hx) λw' hz hb hc=>hK w' hz ?_ hc;rw[hb,<-Sj l hx];simp[ints,List.map_set]
theorem Rh{B e:Nat}{l:List Nat}(he:w.heap[e]?=some (.cells (ints (cnt n l)).toArray jY (0,0)))(hB:B<=e)(hn:n<=1000000):Own w B jY 1 (.slice (some ⟨e,0,none⟩) n n) n (ints (cnt n l)):=
 ⟨by simp[ints,AY],.inr ⟨e,n,_,rfl,hB,he,aZ _,by unfold maxLen;omega,by simp[ints,AY],by rw[iH];simp[ints,AY]⟩⟩
end
variable{w0 w w':World}{B a ea eb:Nat}{M:Lay}{fl:Fl}{lE lB:List Nat}
end
section
open Go Go.Eng Go.RowKit Go.Syn Go.Lex
variable{w:World}{K:Q0}{cs:List Value}{G:Nat->Prop}{T:TypeId}{i:Nat}{n:Nat}{v:Value}{w':World}{P:Program}{c:UInt8}{S:Nat->Prop}
theorem FE{w:World}{b o:Nat}{c:Array Value}{T:TypeId}{fr:Nat×Nat}{d:List Value}(hb:w.heap[b]?=some (.cells c T fr))(hd:∀j,j<d.length->c[o+j]?=d[j]?):∀(n i:Nat),i+n=d.length->bV w ⟨b,o,none⟩ i n=some (d.drop i)
 |0,i,h=>by simp only[bV];rw[iI (by omega)]
 |n+1,i,h=>by
  have hi:i<d.length:=by omega
  simp only[bV,bL,cM,hb,bT,hd i hi,aG hi]
  rw[FE hb hd n (i+1) (by omega)]
  simp
theorem Cy{size:Nat}{d:List Value}{k:IntKind}{K:Value->Prop}(h:SlAt w T v n cs)(hl:cs.length=n*size)(hs:0<size)(hi:i<n)(hd:(cs.drop (i*size)).take size=d)(hK:K (.agg d.toArray)):
  fK none size v (.int k i) λt=>ldW true size t w K:=by
 have hlt:i*size+size<=n*size:=by rw[<-Nat.succ_mul];exact fB _ hi
 have hdl:d.length=size:=by rw[<-hd,cO,aX];omega
 refine Bz h hl hs hi λb o c fr hb hc=>?_;rw[xP];refine⟨d,?_,hK⟩;have:=FE (d:=d) hb (λj hj=>by rw[hc j (by omega),<-hd,gT (by omega),jG]) size 0 (by omega);simpa using this
theorem RG{l:List Nat}{x:Nat}(h:l[i]?=some x):(ints l)[i]?=some (i64 (x:Nat)):=by simp[ints,h]
variable [HX]
end
section
open Go Go.Eng Go.RowKit Go.Syn Go.Lex
variable{w:World}{K:Q0}{cs:List Value}{G:Nat->Prop}{T:TypeId}{i:Nat}{n:Nat}{v:Value}{w':World}{P:Program}{c:UInt8}{S:Nat->Prop}
theorem MH{l:List Str}{k:Nat}(h:k<l.length):(strs l)[k]?=some (str (l.getD k [])):=by
 rw[strs,fO,aG h,bR,aG h];rfl
theorem xU(off:Nat)(ad:Addr)(B:Value->Prop):GqW true (λk=>aR off (.pointer (some ad)) k) B↔B (.pointer (some (ad.add off))):=by
 rw[KX];constructor
 ·rintro⟨v,h,hb⟩;have h:Value.pointer (some (ad.add off))=v:=h;rw[h];exact hb
 ·intro h;exact⟨_,rfl,h⟩
theorem lU{A:(Value->Prop)->Prop}{B:Value->Prop}(h1:A (λx=>x=v))(h2:B v):GqW true A B:=(KX A B).2 ⟨v,h1,h2⟩
theorem JL{A:(Q0)->Prop}{B:Q0}(h:A B):GeW true w A B:=⟨λ_=>h,(λe=>by cases e)⟩
theorem yV{s:Nat}{i:Value}{F:Value->Prop}(h:fK none s v i F):∃p,fK none s v i (λx=>x=p)/\F p:=by
 unfold fK at h⊢;split at h
 all_goals first
  |exact h.elim
  |exact⟨_,⟨h.1,h.2.1,rfl⟩,h.2.2⟩
section
variable [HX]
end
def ExV(w:World)(e:Ex)(c:List Value):Prop:=
 ∃va vk,c=[i64 e.k,str e.t,va,vk,i64 e.a]/\SlAt w jY va e.args.length (ints e.args)/\SlAt w StT vk e.keys.length (strs e.keys)
def BkV(w:World)(b:Blk)(c:List Value):Prop:=
 ∃vl va vb,c=[str b.typ,vl,va,vb,i64 b.a]/\SlAt w StT vl b.labels.length (strs b.labels)/\SlAt w AtT va b.attrs.length (kK b.attrs)/\SlAt w jY vb b.blocks.length (ints b.blocks)
structure FV(w:World)(M:Lay)(fl:Fl):Prop where
 oE:SlAt w ExT M.vE fl.ex.length M.cE
 oB:SlAt w BkT M.vB fl.bl.length M.cB
 oT:SlAt w jY M.vT fl.top.length (ints fl.top)
 ee:kO (ExV w) 5 fl.ex M.cE
 bb:kO (BkV w) 5 fl.bl M.cB
theorem FO.fv{B:Nat}{M:Lay}{fl:Fl}(h:FO w B M fl):FV w M fl:=
 ⟨h.oE.sl,h.oB.sl,h.oT.sl,h.ee.imp λ_ _ _ ⟨va,vk,e,h1,h2⟩=>⟨va,vk,e,h1.sl,h2.sl⟩,h.bb.imp λ_ _ _ ⟨vl,va,vb,e,h0,h1,h2⟩=>⟨vl,va,vb,e,h0.sl,h1.sl,h2.sl⟩⟩
theorem FV.ext{M:Lay}{fl:Fl}(h:FV w M fl)(hx:Ext w w'):FV w' M fl:=
 ⟨h.oE.ext hx,h.oB.ext hx,h.oT.ext hx,h.ee.imp λ_ _ _ ⟨va,vk,e,h1,h2⟩=>⟨va,vk,e,h1.ext hx,h2.ext hx⟩,h.bb.imp λ_ _ _ ⟨vl,va,vb,e,h0,h1,h2⟩=>⟨vl,va,vb,e,h0.ext hx,h1.ext hx,h2.ext hx⟩⟩
theorem FV.exI{M:Lay}{fl:Fl}{e:Ex}{k:IntKind}(h:FV w M fl)(hi:fl.ex[i]?=some e):∃va vk,SlAt w jY va e.args.length (ints e.args)/\SlAt w StT vk e.keys.length (strs e.keys)/\∃p,fK none 5 M.vE (.int k i) (λx=>x=p)/\ldW true 5 p w λx=>x=.agg [i64 e.k,str e.t,va,vk,i64 e.a].toArray:=by
 obtain⟨va,vk,ec,h1,h2⟩:=h.ee.2 i e hi;exact⟨va,vk,h1,h2,yV (Cy (K:=λx=>x=_) h.oE h.ee.1 (by omega) (bS.1 hi).1 ec rfl)⟩
theorem FV.bkI{M:Lay}{fl:Fl}{e:Blk}{k:IntKind}(h:FV w M fl)(hi:fl.bl[i]?=some e):∃vl va vb,SlAt w StT vl e.labels.length (strs e.labels)/\SlAt w AtT va e.attrs.length (kK e.attrs)/\SlAt w jY vb e.blocks.length (ints e.blocks)/\∃p,fK none 5 M.vB (.int k i) (λx=>x=p)/\ldW true 5 p w λx=>x=.agg [str e.typ,vl,va,vb,i64 e.a].toArray:=by
 obtain⟨vl,va,vb,ec,h1,h2,h3⟩:=h.bb.2 i e hi;exact⟨vl,va,vb,h1,h2,h3,yV (Cy (K:=λx=>x=_) h.oB h.bb.1 (by omega) (bS.1 hi).1 ec rfl)⟩
def exA(q:Bool)(e e':Ex):Prop:=e.k=e'.k/\e.t=e'.t/\e.args=e'.args/\e.keys=e'.keys/\(q=true->e.a=e'.a)
def atA(q:Bool)(e e':Atr):Prop:=e.n=e'.n/\e.e=e'.e/\(q=true->e.a=e'.a)
def Alike{α:Type}(R:α->α->Prop)(a b:List α):Prop:=a.length=b.length/\∀(i:Nat) (x y:α),a[i]?=some x->b[i]?=some y->R x y
def bkA(q:Bool)(e e':Blk):Prop:=e.typ=e'.typ/\e.labels=e'.labels/\e.blocks=e'.blocks/\Alike (atA q) e.attrs e'.attrs/\(q=true->e.a=e'.a)
def flA(q:Bool)(f g:Fl):Prop:=Alike (exA q) f.ex g.ex/\Alike (bkA q) f.bl g.bl/\f.top=g.top
theorem rE{agg:Bool}{p:Value}{K:Value->Prop}(h:ldW agg n p w λx=>x=v)(hK:K v):ldW agg n p w K:=by
 unfold ldW at h⊢;split at h
 ·cases agg with
  |true=>obtain⟨l,h1,rfl⟩:=h;exact⟨l,h1,hK⟩
  |false=>obtain⟨x,h1,rfl⟩:=h;exact⟨x,h1,hK⟩
 ·exact h.elim
theorem uF{s:Nat}{i p:Value}{K:Value->Prop}(h:fK none s v i λx=>x=p)(hK:K p):fK none s v i K:=by
 unfold fK at h⊢;split at h
 all_goals first
  |exact h.elim
  |exact⟨h.1,h.2.1,by have e:=h.2.2;rw[e];exact hK⟩
theorem upj(h:i<9223372036854775807):IntKind.i64.wrap ((i:Int)+1)=((i+1:Nat):Int):=by rw[gI (by omega) (by omega)];rfl
theorem lJ{B m:Nat}{xs:List Value}(h:Own w B T m v n xs):n<=9223372036854775807:=by
 obtain⟨_,⟨_,rfl⟩|⟨g,cap,cur,_,_,_,h2,h3,_⟩⟩:=h
 ·omega
 ·unfold maxLen at h3;omega
theorem FO.few{B:Nat}{M:Lay}{fl:Fl}(h:FO w B M fl):(fl.ex.length<=9223372036854775807/\fl.bl.length<=9223372036854775807/\fl.top.length<=9223372036854775807)/\(∀e∈fl.ex,e.args.length<=9223372036854775807/\e.keys.length<=9223372036854775807)/\∀b∈fl.bl,b.labels.length<=9223372036854775807/\b.attrs.length<=9223372036854775807/\b.blocks.length<=9223372036854775807:=by
 refine⟨⟨lJ h.oE,lJ h.oB,lJ h.oT⟩,λe he=>?_,λb hb=>?_⟩
 ·obtain⟨i,hi⟩:=List.mem_iff_getElem?.1 he;obtain⟨va,vk,_,h1,h2⟩:=h.ee.2 i e hi;exact⟨lJ h1,lJ h2⟩
 ·obtain⟨i,hi⟩:=List.mem_iff_getElem?.1 hb;obtain⟨vl,va,vb,_,h1,h2,h3⟩:=h.bb.2 i b hi;exact⟨lJ h1,lJ h2,lJ h3⟩
section
variable [HX]
theorem Jq{u:Value}{T1 T2:TypeId}{m:List Nat}{K:Q0}(h1:SlAt w T1 u m.length (ints m))(h2:SlAt w T2 v m.length (ints m))(hl:m.length<=9223372036854775807)(hK:∀w',Ext w w'->K (.bool true) w'):aJ P0 41 [u,v] w K:=by
 refine XO ?_;unfold W41;rw[eO h1,eO h2,dQ,bH (by simp),bQ,eO h1];refine dL.go (λst w'=>∃i:Nat,st=[i64 (i:Nat)]/\i<=m.length/\Ext w w') (λst _=>match st with|[.int _ i]=>m.length-i.toNat|_=>0) ⟨0,rfl,by omega,Chg.refl _ _⟩ ?_;rintro st g w1 ⟨i,rfl,hi,hx⟩;simp only[aC];rw[dI,bD];refine⟨λhlt=>?_,λhge=>hK w1 hx⟩;have hlt:i<m.length:=by omega
 have hg:=RG (aG hlt);have hxd:=hx.trans (cQ w1);refine mR (h1.ext hxd) (by simp[ints]) hg ?_;refine mR (h2.ext hxd) (by simp[ints]) hg ?_;rw[dQ,bH (by simp),bQ,cJ,upj (by omega)];refine⟨⟨i+1,rfl,by omega,hxd⟩,?_⟩;simp only[aV];omega
theorem Ge{u:Value}{T1 T2:TypeId}{m:List Str}{K:Q0}(h1:SlAt w T1 u m.length (strs m))(h2:SlAt w T2 v m.length (strs m))(hl:m.length<=9223372036854775807)(hK:∀w',Ext w w'->K (.bool true) w'):aJ P0 25 [u,v] w K:=by
 refine XU ?_;unfold W25;rw[eO h1,eO h2,dQ,bH (by simp),bQ,eO h1];refine dL.go (λst w'=>∃i:Nat,st=[i64 (i:Nat)]/\i<=m.length/\Ext w w') (λst _=>match st with|[.int _ i]=>m.length-i.toNat|_=>0) ⟨0,rfl,by omega,Chg.refl _ _⟩ ?_;rintro st g w1 ⟨i,rfl,hi,hx⟩;simp only[aC];rw[dI,bD];refine⟨λhlt=>?_,λhge=>hK w1 hx⟩;have hlt:i<m.length:=by omega
 have hg:=MH hlt;have hxd:=hx.trans (cQ w1);refine mR (h1.ext hxd) (by simp[strs]) hg ?_;refine mR (h2.ext hxd) (by simp[strs]) hg ?_;rw[gA,bH (by simp),bQ,cJ,upj (by omega)];refine⟨⟨i+1,rfl,by omega,hxd⟩,?_⟩;simp only[aV];omega
end
end
end Go.Proofs.YtjblfcfdeaagpaaGreatDoor
