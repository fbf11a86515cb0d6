/- One plain sentence: contracts and plain laws that the claim rests on. Conditions: those that each states. -/
import Derived.Test.YtjblfcfdeaagpaaGreatDoorXC3
import Derived.Test.YtjblfcfdeaagpaaGreatDoorXC2
import Derived.Test.YtjblfcfdeaagpaaGreatDoorXC1
import Derived.Lib.MapLaws
import Derived.Shelf.SlIter.Nil
import Derived.Shelf.SortM.Plain
import Derived.Shelf.SortM.SortNone
import Derived.Test.YtjblfcfdeaagpaaGreatDoorProg
import Derived.Lib.SlBytesConst
import Derived.Laws.MakeOwn
set_option linter.all false
set_option linter.unusedSimpArgs false
set_option linter.unusedVariables false
set_option linter.unusedSectionVars false
set_option maxRecDepth 100000
namespace Go.Proofs.YtjblfcfdeaagpaaGreatDoor
section
open Go Go.Eng Go.RowKit Go.Syn Go.Lex Go.Cfg
variable{w:World}{K:Q0}{cs:List Value}{G:Nat->Prop}{T:TypeId}{i:Nat}{n:Nat}{v:Value}{w':World}{P:Program}{c:UInt8}{S:Nat->Prop}
abbrev DgI:TypeId:=29
section
variable [HX]
def TC(w0:World)(path:Str)(code at_:Int):Prop:=
 ∀(d:Nat) (w':World),Ext w0 w'->w0.heap.size<=d->w'.heap[d]?=some (.cells [i64 code,str path,i64 at_].toArray 48 (0,0))->HX.X [{v:=.iface DgI (.pointer (some ⟨d,0,none⟩)),recovered:=false}] w'
abbrev pA(p:Nat):Value:=.pointer (some ⟨p,0,none⟩)
section
variable{w0 w:World}{p:Nat}{M:Lay}{path:Str}{fl:Fl}{K:Q0}
theorem lW{c a:Int}(h:Mf w0 w p M path fl)(o:TC w0 path c a):aI P0 94 [pA p,i64 c,i64 a] w K:=by
 refine Ny ?_;unfold W94;obtain⟨cs,I,_,_,_,J⟩:=h.pE;rw[cQ,bD,bG,aH,dX];refine⟨str path,by rw[cA,I,bM];simpa using J,?_⟩;simp only[dF,dK,dC,aB,aK,aL,aN];refine⟨by omega,by omega,by omega,?_⟩;refine fX (z:=[i64 c,str path,i64 a]) λd w' hd U hb j=>?_;exact o d w' (h.ch.trans j) (by have:=h.ch.size;omega) hb
end
def Ts(s:Str)(i:Nat):Prop:=∀j c,j<i->s[j]?=some c->iS c=true/\(j=0->gV c=true)
theorem Mn{s:Str}(h:Ts s s.length):lL s=(decide (1<=s.length)&&decide (s.length<=32)):=by
 cases s with
 |nil=>rfl
 |cons c r=>
  have J:gV c=true:=(h 0 c (by simp) rfl).2 rfl;have I:r.all iS=true:=gI.2 λd hd=>by
   obtain⟨j,o,e⟩:=List.getElem_of_mem hd;exact(h (j+1) d (by simp;omega) (by simp[e,o])).1
  show(gV c&&r.all iS&&decide (r.length<=31))=_;rw[J,I,dG,dG,bK (by simp:1<=(c::r).length),dG];simp only[aB];exact decide_eq_decide.2 (by omega)
theorem Mo{s:Str}(hi:s[i]?=some c)(h:iS c=false\/i=0/\gV c=false):lL s=false:=by
 cases j:lL s with
 |false=>rfl
 |true=>
  cases s with
  |nil=>cases j
  |cons d r=>
   simp only[lL,bL,gI]at j;rcases h with h|⟨rfl,h⟩
   ·cases i with
    |zero=>
     simp only[List.getElem?_cons_zero,aV]at hi;subst hi;unfold iS at h;rw[j.1.1]at h;cases h
    |succ i=>
     rw[List.getElem?_cons_succ]at hi;rw[j.1.2 c (bI hi)]at h;cases h
   ·simp only[List.getElem?_cons_zero,aV]at hi;subst hi;rw[j.1.1]at h;cases h
theorem Mp(a c:UInt8):decide (((a.toNat:Nat):Int)<((c.toNat:Nat):Int))=!decide (c<=a):=by
 rw[<-sO,nA];simp
theorem Vn(a c:UInt8):decide (((c.toNat:Nat):Int)≠((a.toNat:Nat):Int))=!(c==a):=by
 rw[<-vA,nA];simp
theorem Jq{s:Str}{K:Q0}(hs:s.length<=1000000)(J:K (.bool (lL s)) w):aI P0 136 [str s] w K:=by
 refine SI ?_;unfold Zf;rw[dM];refine eJ.go (λst w'=>w'=w/\∃i:Nat,st=[i64 (i:Nat)]/\i<=s.length/\Ts s i) (λst _=>match st with|[.int _ i]=>s.length-i.toNat|_=>0) ⟨rfl,0,rfl,fW _,λj c hj=>by omega⟩ ?_;rintro st g w2 ⟨rfl,i,rfl,hi,hp⟩;simp only[aF];rw[dT,bA];refine⟨λh=>?_,λh=>?_⟩
 ·have o:i<s.length:=by omega
  refine qY o ?_;have I:s[i]?=some s[i]:=List.getElem?_eq_getElem o;generalize hc:s[i]=c at*
  have e1:decide ((97:Int)<=((c.toNat:Nat):Int))=decide (97<=c):=sO 97 c;have e2:decide (((c.toNat:Nat):Int)<=122)=decide (c<=122):=sO c 122;have e3:decide ((65:Int)<=((c.toNat:Nat):Int))=decide (65<=c):=sO 65 c;have e4:decide (((c.toNat:Nat):Int)<=90)=decide (c<=90):=sO c 90;have e5:decide (((c.toNat:Nat):Int)=95)=(c==95):=vA 95 c;have e6:decide (((c.toNat:Nat):Int)≠45)=!(c==45):=Vn 45 c;have e7:decide (((c.toNat:Nat):Int)<48)=!decide (48<=c):=Mp c 48;have e8:decide ((57:Int)<((c.toNat:Nat):Int))=!decide (c<=57):=Mp 57 c;simp only[fP,fL,bX,eX,dT,fJ,e1,e2,e3,e4,e5,e6,e7,e8,fO,iW,nU,aF,fB,Ay,Br,kS,GR,GT,fG];intros;have el:(decide (97<=c)&&decide (c<=122)||decide (65<=c)&&decide (c<=90)||(c==95))=gV c:=rfl;simp only[el];have en:iS c=(gV c||(decide (48<=c)&&decide (c<=57))||c==45):=rfl;rw[dU];refine⟨λhb=>?_,λhb=>?_⟩
  ·have U:lL s=false:=by
    refine Mo I ?_;rw[en];cases hL:gV c with
    |true=>rw[hL]at hb;simp at hb
    |false=>
     rw[hL]at hb;by_cases h0:i=0
     ·exact .inr ⟨h0,rfl⟩
     ·left;have:decide (((i:Nat):Int)=0)=false:=cM (by omega);rw[this]at hb;revert hb;cases(c==45)<;>cases decide (48<=c)<;>cases decide (c<=57)<;>simp
   rw[U]at J;exact J
  ·rw[cG,upi (by omega)];refine⟨⟨trivial,i+1,rfl,by omega,λj d hj hd=>?_⟩,?_⟩
   ·rcases nL j i with h1|h1
    ·exact hp j d h1 hd
    ·obtain rfl:j=i:=by omega
     rw[I]at hd;cases hd;rw[en];revert hb;by_cases h0:j=0
     ·have:decide (((j:Nat):Int)=0)=true:=bK (by omega);rw[this];cases gV c<;>simp
     ·have:decide (((j:Nat):Int)=0)=false:=cM (by omega);rw[this];cases gV c<;>cases(c==45)<;>cases decide (48<=c)<;>cases decide (c<=57)<;>simp[h0]
   ·simp only[bC];omega
 ·obtain rfl:i=s.length:=by omega
  rw[dM,fP];simp only[dM,fL,fO,nU,aF,fB];intros;rw[Mn hp]at J;have e1:decide ((1:Int)<=(s.length:Int))=decide (1<=s.length):=decide_eq_decide.2 (by omega);have e2:decide ((s.length:Int)<=32)=decide (s.length<=32):=decide_eq_decide.2 (by omega);rw[e1,e2];exact J
theorem Qu{s:Str}{K:Q0}(I:K (i64 (tE s)) w):aI P0 133 [str s] w K:=by
 refine SL ?_;unfold Zi;unfold tE at I;rw[eC,bA];refine⟨λJ=>?_,λJ=>?_⟩
 ·have J:s=uP:=J;rw[aO J]at I;exact I
 have J:¬s=uP:=J;rw[aJ J]at I;refine cX.cut (λst w'=>st=[.bool (decide (s=lS\/s=nY\/s=pR))]/\w'=w) ?_ ?_
 ·rw[eC,bA];refine⟨λo=>?_,λo=>?_⟩
  ·have o:s=lS:=o;exact⟨by rw[bK (Or.inl o:s=lS\/s=nY\/s=pR),bK (show s=[118,97,114,105,97,98,108,101]from o)],rfl⟩
  have o:¬s=lS:=o;rw[eC,bA];refine⟨λj=>?_,λj=>?_⟩
  ·have j:s=nY:=j;exact⟨by rw[bK (Or.inr (Or.inl j):s=lS\/s=nY\/s=pR),bK (show s=[111,117,116,112,117,116]from j)],rfl⟩
  have j:¬s=nY:=j;rw[eC];refine⟨?_,rfl⟩;have:decide (s=[109,111,100,117,108,101])=decide (s=lS\/s=nY\/s=pR):=decide_eq_decide.2 ⟨λh=>.inr (.inr h),λh=>(h.resolve_left o).resolve_left j⟩;rw[this]
 rintro st g w' ⟨rfl,rfl⟩;simp only[aF];rw[bA];refine⟨λo=>?_,λo=>?_⟩
 ·rw[aO o]at I;exact I
 rw[aJ o]at I;rw[eC,bA];refine⟨λj=>?_,λj=>?_⟩
 ·have j:s=kD:=j;rw[aO j]at I;exact I
 ·have j:¬s=kD:=j;rw[aJ j]at I;exact I
theorem Ic{K:Q0}(j:∀t w',gD w' StT t oA.length (strs oA)->Ext w w'->K t w'):aI P0 137 [] w K:=by
 refine SH ?_;unfold Ze;rw[fV];simp only[dK,dC,aB,aK,aL,aN];refine⟨by omega,by omega,by omega,by omega,by omega,by omega,?_⟩;refine j _ _ ⟨_,_,rfl,aY _,λe=>(by cases e),λ_=>⟨_,_,_,_,rfl,jY _ _ _ rfl,λi _=>by rw[aH,List.getElem?_toArray];rfl⟩⟩ (Chg.alloc (Chg.refl _ _) _)
theorem row_one{zs:List Value}{K:Q0}(o:zs.length=n)(J:cs.length=n)(U:0<n)(j:∀t w',gD w' T t 1 cs->Ext w w'->K t w'):fV T 1 zs [(0,n,.agg cs.toArray)] w K:=by
 unfold fV;have I:∀K:List Value->Prop,K cs->iX zs [(0,n,.agg cs.toArray)] K:=by
  intro K j;refine⟨by simp[Value.cells,J],by omega,?_⟩;have:List.take 0 zs++((Value.agg cs.toArray).cells.toList++List.drop (0+n) zs)=cs:=by simp[Value.cells,<-o]
  rw[this];exact j
 refine I _ ?_;exact j _ _ (zW (w:=w) (base:=w.heap.size) (e:=T) (size:=n) (n:=1) (cs:=cs) (aY _) (by omega) (by omega)).sl (Chg.alloc (Chg.refl _ _) _)
theorem sX{size:Nat}{k:IntKind}{K:Value->Prop}(h:gD w T v n cs)(hl:cs.length=n*size)(j:0<size)(hi:i<n)(o:K (.agg ((cs.drop (i*size)).take size).toArray)):iN none size v (.int k i) λp=>ldW true size p w K:=by
 refine Qx h hl j hi rfl o
theorem xV{α:Type}{xs:List α}{f:Value}{cell:α->List Value->Prop}{q:α->Bool}{K:Q0}
  (h:gD w T v xs.length cs)(hl:cs.length=xs.length*n)(U:0<n)(hx:xs.length<=9223372036854775807)(hc:∀i x,xs[i]?=some x->cell x ((cs.drop (i*n)).take n))
  (hf:∀x∈xs,∀c,cell x c->∀{w1:World} {K:Q0},Ext w w1->(∀w',Ext w1 w'->K (.bool (q x)) w')->mY P0 f [.agg c.toArray] w1 K)(hK:∀w',Ext w w'->K (i64 (Hb q xs)) w'):
  jN v λt7=>eJ [(.int .i64 0)] w λs1 _ w2 L1=>aU .lss (s1.getD 0 undef) t7 λt9=>bB t9 (iN none n v (s1.getD 0 undef) λt14=>ldW true n t14 w2 λt15=>mY P0 f [t15] w2 λt16 w3=>bB t16 (K (s1.getD 0 undef) w3) (aU .add (s1.getD 0 undef) (.int .i64 1) λt18=>L1 [t18] w3)) (K (.int .i64 (-1)) w2):=by
 rw[jH h];refine xS xs.length (λi w'=>Ext w w'/\(xs.take i).any q=false) ⟨Chg.refl _ _,by simp⟩ ?_ ?_
 ·rintro i w2 g L hi ⟨j,o⟩ hL;obtain⟨x,I⟩:∃x,xs[i]?=some x:=⟨_,List.getElem?_eq_getElem hi⟩;have hg:((i:Int)<(xs.length:Int)):=by omega
  simp only[wsv,wsg,wsh,wsl,aQ,aM,aD,jU,Nat.reduceAdd,Nat.reduceLT,bT,aS,cY,cH,cJ,reduceCtorEq,hg];refine sX (h.ext j) hl U hi ?_;refine hf x (bI I) _ (hc i x I) j λw3 J=>?_;rw[dU];refine⟨λht=>?_,λU=>?_⟩
  ·have:=hK w3 (j.trans J);unfold Hb at this;rw[Ha o I ht]at this;exact this
  ·rw[up1 (by omega)];exact hL w3 ⟨j.trans J,by rw[HC I,o,U];rfl⟩
 ·rintro w2 g L ⟨j,o⟩;simp only[wsv,wsg,wsh,wsl,aQ,aM,aD,jU,Nat.reduceAdd,Nat.reduceLT,bT,aS,cY,cH,cJ,reduceCtorEq,Az];rw[eQ]at o;have:=hK w2 j;unfold Hb at this;rw[List.findIdx?_eq_none_iff.2 λx hx=>by simpa using yG.1 o x hx]at this;exact this
def ZG(a:Atr)(c:List Value):Prop:=c=[str a.n,i64 (a.e:Nat),i64 a.a]
def ZP(a:Vr)(c:List Value):Prop:=c=[str a.n,i64 a.d,i64 a.a]
theorem Eu{α:Type}{f:α->List Value}(h:∀a,(f a).length=3){l:List α}{x:α}(hi:l[i]?=some x):((l.flatMap f).drop (i*3)).take 3=f x:=by
 apply List.ext_getElem?;intro j;by_cases o:j<3
 ·rw[List.getElem?_take_of_lt o,List.getElem?_drop];exact AN f h l i j x hi o
 ·rw[List.getElem?_eq_none (by rw[cO];omega),List.getElem?_eq_none (by rw[h];omega)]
theorem Dc{l:List Atr}{x:Atr}(hi:l[i]?=some x):ZG x (((kK l).drop (i*3)).take 3):=Eu (λ_=>rfl) hi
theorem IY{l:List Vr}{x:Vr}(hi:l[i]?=some x):ZP x (((Dr l).drop (i*3)).take 3):=Eu (λ_=>rfl) hi
theorem tF{l:List Atr}{f:Value}{q:Atr->Bool}{K:Q0}(h:gD w AtT v l.length (kK l))(o:l.length<=9223372036854775807)
  (hf:∀x∈l,∀c,ZG x c->∀{w1:World} {K:Q0},Ext w w1->(∀w',Ext w1 w'->K (.bool (q x)) w')->mY P0 f [.agg c.toArray] w1 K)(I:∀w',Ext w w'->K (.bool (l.any q)) w'):aI P0 98 [v,f] w K:=by
 refine VR ?_;unfold W98;refine SA ?_;unfold YW;refine xV (K:=λt7 w1=>aU .geq t7 (.int .i64 0) λt8=>K t8 w1) (cell:=ZG) h (As l) (by omega) o (λi x hi=>Dc hi) hf λw1 j=>?_;simp only[wsv,wsg,wsh,wsl,aQ,aM,aD,jU,Nat.reduceAdd,Nat.reduceLT,bT,aS,cY,cH,cJ,reduceCtorEq,Ah];exact I w1 j
theorem Bn{l:List Vr}{f:Value}{q:Vr->Bool}{K:Q0}(h:gD w IR v l.length (Dr l))(o:l.length<=9223372036854775807)
  (hf:∀x∈l,∀c,ZP x c->∀{w1:World} {K:Q0},Ext w w1->(∀w',Ext w1 w'->K (.bool (q x)) w')->mY P0 f [.agg c.toArray] w1 K)(I:∀w',Ext w w'->K (.bool (l.any q)) w'):aI P0 96 [v,f] w K:=by
 refine VU ?_;unfold W96;refine SB ?_;unfold YX;refine xV (K:=λt7 w1=>aU .geq t7 (.int .i64 0) λt8=>K t8 w1) (cell:=ZP) h (IZ l) (by omega) o (λi x hi=>IY hi) hf λw1 j=>?_;simp only[wsv,wsg,wsh,wsl,aQ,aM,aD,jU,Nat.reduceAdd,Nat.reduceLT,bT,aS,cY,cH,cJ,reduceCtorEq,Ah];exact I w1 j
theorem Hm{l:List Rs}{f:Value}{B:Nat}{q:Rs->Bool}{K:Q0}(h:gD w Tk v l.length cs)(o:kM (HI w B) 9 l cs)(I:l.length<=9223372036854775807)
  (hf:∀x∈l,∀c,HI w B x c->∀{w1:World} {K:Q0},Ext w w1->(∀w',Ext w1 w'->K (.bool (q x)) w')->mY P0 f [.agg c.toArray] w1 K)(J:∀w',Ext w w'->K (.bool (l.any q)) w'):aI P0 184 [v,f] w K:=by
 refine RY ?_;unfold Yy;refine RD ?_;unfold Yl;refine xV (K:=λt7 w1=>aU .geq t7 (.int .i64 0) λt8=>K t8 w1) (cell:=HI w B) h o.1 (by omega) I (λi x hi=>o.2 i x hi) hf λw1 j=>?_;simp only[wsv,wsg,wsh,wsl,aQ,aM,aD,jU,Nat.reduceAdd,Nat.reduceLT,bT,aS,cY,cH,cJ,reduceCtorEq,Ah];exact J w1 j
theorem Hn{l:List Cl}{f:Value}{B:Nat}{q:Cl->Bool}{K:Q0}(h:gD w Tq v l.length cs)(o:kM (HH w B) 4 l cs)(I:l.length<=9223372036854775807)
  (hf:∀x∈l,∀c,HH w B x c->∀{w1:World} {K:Q0},Ext w w1->(∀w',Ext w1 w'->K (.bool (q x)) w')->mY P0 f [.agg c.toArray] w1 K)(J:∀w',Ext w w'->K (.bool (l.any q)) w'):aI P0 187 [v,f] w K:=by
 refine RU ?_;unfold Yv;refine RB ?_;unfold Yk;refine xV (K:=λt7 w1=>aU .geq t7 (.int .i64 0) λt8=>K t8 w1) (cell:=HH w B) h o.1 (by omega) I (λi x hi=>o.2 i x hi) hf λw1 j=>?_;simp only[wsv,wsg,wsh,wsl,aQ,aM,aD,jU,Nat.reduceAdd,Nat.reduceLT,bT,aS,cY,cH,cJ,reduceCtorEq,Ah];exact J w1 j
theorem qI{T2:TypeId}{b:Nat}{x y:Str}{r r2:List Value}{K:Q0}(hb:w.heap[b]?=some (.cells (str y::r2).toArray T2 (0,0)))(J:∀w',Ext w w'->K (.bool (decide (x=y))) w'):
  jI T (.agg (str x::r).toArray) w λt2 w1=>aZ 0 t2 λt4=>ldW false 1 t4 w1 λt5=>aZ 0 (.pointer (some ⟨b,0,none⟩)) λt6=>ldW false 1 t6 w1 λt7=>aU .eql t5 t7 λt8=>K t8 w1:=by
 refine fX λd w1 hd U j I=>?_;have o:=I.at hb id;rw[bD,bG,aH,dX];refine⟨str x,by rw[cA,j,bM];rfl,?_⟩;rw[bD,bG,aH,dX];refine⟨str y,by rw[cA,o,bM];rfl,?_⟩;rw[eC];exact J w1 I
end
end
section
open Go Go.Eng Go.RowKit Go.Syn Go.Lex
variable{w:World}{K:Q0}{cs:List Value}{G:Nat->Prop}{T:TypeId}{i:Nat}{n:Nat}{v:Value}{w':World}{P:Program}{c:UInt8}{S:Nat->Prop}
section
variable{w w':World}{B g r p:Nat}{M:Lay}{fl:Fl}{v:Value}
theorem Xs{l size:Nat}{K:Value->Prop}(h:gD w T v n cs)(U:cs.length=n*size)(hl:l<=n)(hK:∀u,gD w T u l (cs.take (l*size))->K u):LJ size v none (some (i64 (l:Nat))) none K:=by
 obtain⟨q,cap,rfl,h1,h2,h3⟩:=h;rw[jR,eK,eD,eK];refine⟨by omega,by omega,hK _ ?_⟩;rw[bC];refine⟨_,_,rfl,by omega,λI=>?_,λj=>?_⟩
 ·split at I
  ·have:=h2 I;omega
  ·cases q with
   |none=>have:=h2 rfl;omega
   |some a=>cases I
 ·have o:cs≠[]:=λe=>j (by rw[e];simp);obtain⟨b,off,c,fr,rfl,hb,J⟩:=h3 o;refine⟨b,off,c,fr,?_,hb,λi hi=>?_⟩
  ·split
   ·rfl
   ·rw[aG,bG,Nat.zero_mul,cN]
  ·rw[cO]at hi;rw[List.getElem?_take_of_lt (by omega),J _ (by omega)]
end
end
section
open Go Go.Eng Go.RowKit Go.Syn Go.Lex Go.Cfg
variable{w:World}{K:Q0}{cs:List Value}{G:Nat->Prop}{T:TypeId}{i:Nat}{n:Nat}{v:Value}{w':World}{P:Program}{c:UInt8}{S:Nat->Prop}
def WV(M:Lay)(i:Nat):List Value:=(M.cE.drop (i*5)).take 5
def TH(M:Lay)(i:Nat):List Value:=(M.cB.drop (i*5)).take 5
theorem sS{fl:Fl}(hi:i<fl.ex.length):fl.ex[i]?=some (kT fl i):=by
 unfold kT;rw[List.getD_eq_getElem?_getD,List.getElem?_eq_getElem hi];rfl
theorem CY{fl:Fl}(hi:i<fl.bl.length):fl.bl[i]?=some (kC fl i):=by
 unfold kC;rw[List.getD_eq_getElem?_getD,List.getElem?_eq_getElem hi];rfl
theorem wC{B:Nat}{M:Lay}{fl:Fl}(h:FO w B M fl)(hi:i<fl.ex.length):ExR w B (kT fl i) (WV M i):=h.ee.2 i _ (sS hi)
theorem rD{B:Nat}{M:Lay}{fl:Fl}(h:FO w B M fl)(hi:i<fl.bl.length):BkR w B (kC fl i) (TH M i):=h.bb.2 i _ (CY hi)
theorem Lb(l:List Atr)(i:Nat):(kK l).take (i*3)=kK (l.take i):=by
 induction i generalizing l with
 |zero=>simp[kK]
 |succ i ih=>
  cases l with
  |nil=>simp[kK]
  |cons a l=>
   have e:kK (a::l)=[str a.n,i64 (a.e:Nat),i64 a.a]++kK l:=rfl;rw[e,nH,show(i+1)*3=[str a.n,i64 (a.e:Nat),i64 a.a].length+i*3 by simp;omega,List.take_length_add_append,ih];rfl
section
variable [HX]
theorem Rf{b:Nat}{x:Atr}{y:Str}{c r2:List Value}{T2:TypeId}{K:Q0}(j:ZG x c)(hb:w.heap[b]?=some (.cells (str y::r2).toArray T2 (0,0)))(o:∀w',Ext w w'->K (.bool (decide (x.n=y))) w'):aI P0 209 [.agg c.toArray,pA b] w K:=by
 have j:c=[str x.n,i64 (x.e:Nat),i64 x.a]:=j;subst j;refine RG ?_;unfold Yn;exact qI hb o
theorem yA{σ:Type}{w0:World}{p:Nat}{M:Lay}{path:Str}{fl:Fl}{Inv:Nat->World->σ->Prop}{take:σ->Atr->Ex->RC σ}{va f:Value}{l:List Atr}{s:σ}{K:Q0}
  (hq:∀j w s,Inv j w s->Mf w0 w p M path fl)(J:∀j w w' s,Inv j w s->Ext w w'->Inv j w' s)(hv:∀w,FO w w0.heap.size M fl->gD w AtT va l.length (kK l))(hl:l.length<=1000000)(he:∀a∈l,a.e<fl.ex.length)
  (htake:∀j a,l[j]?=some a->∀s wz w1 (K':Q0),Inv j wz s->Ext wz w1->(∀s' w',take s a (kT fl a.e)=.ok s'->Inv (j+1) w' s'->K' (.bool true) w')->(∀w',take s a (kT fl a.e)=.bad 110 a.a->Mf w0 w' p M path fl->(∀k,wz.heap.size<=k->k<w1.heap.size->w'.heap[k]?=w1.heap[k]?)->K' (.bool false) w')->
    (∀c b,take s a (kT fl a.e)=.bad c b->TC w0 path c b)->mY P0 f [.agg [str a.n,i64 (a.e:Nat),i64 a.a].toArray,.agg (WV M a.e).toArray] w1 K')
  (h:Inv 0 w s)(xc:∀s' w',kZ fl take [] l s=.ok s'->Inv l.length w' s'->K (.tuple #[]) w')(hg:∀c b,kZ fl take [] l s=.bad c b->TC w0 path c b):
  aI P0 172 [pA p,va,f] w K:=by
 refine Sl ?_;unfold YK;rw[jH (hv w (hq _ _ _ h).fo)];generalize hR:kZ fl take [] l s=R at xc hg;refine eJ.go (λst w'=>∃(i:Nat) (s1:σ),st=[i64 (i:Nat)]/\i<=l.length/\Inv i w' s1/\kZ fl take (l.take i) (l.drop i) s1=R) (λst _=>match st with|[.int _ i]=>l.length-i.toNat|_=>0)
  ⟨0,s,rfl,fW _,h,by simpa using hR⟩ ?_
 rintro st g w2 ⟨i,s1,rfl,hi,h2,o⟩;simp only[aF];rw[dT,bA];refine⟨λhh=>?_,λxw=>?_⟩
 ·have hh:i<l.length:=by omega
  have xi:=hv w2 (hq _ _ _ h2).fo;obtain⟨a,ha⟩:∃a,l[i]?=some a:=⟨_,List.getElem?_eq_getElem hh⟩;have xn:a∈l:=bI ha;have hd:l.drop i=a::l.drop (i+1):=by
   rw[dQ hh];rw[List.getElem?_eq_getElem hh]at ha;injection ha with ha
   rw[ha]
  rw[hd]at o;simp only[kZ]at o;refine cX.cut (λst w'=>st=[]/\∃s2,Inv (i+1) w' s2/\kZ fl take (l.take (i+1)) (l.drop (i+1)) s2=R) ?_ ?_
  ·refine sX xi (As l) (by omega) hh ?_;have xb:((kK l).drop (i*3)).take 3=[str a.n,i64 (a.e:Nat),i64 a.a]:=Dc ha;rw[xb];refine cI λb w4 hb xu xe xg=>?_;refine dD (l:=[str a.n,i64 (a.e:Nat),i64 a.a]) xe rfl rfl rfl λw5 xt hk xl=>?_;have hz:Ext w2 w5:=xg.new xl (by omega);have h5:=J _ _ _ _ h2 hz;have xa:=hv w5 (hq _ _ _ h5).fo;refine cX.cut (λst w'=>st=[]/\Ext w5 w'/\(take s1 a (kT fl a.e)).bind (kZ fl take (l.take i++[a]) (l.drop (i+1)))=R) ?_ ?_
   ·refine Xs xa (As l) (Nat.le_of_lt hh) λu hu=>?_;rw[Lb]at hu;have hs:(l.take i).length=i:=by rw[cO];omega
    refine tF (l:=l.take i) (q:=λx=>decide (x.n=a.n)) (by rw[hs];exact hu) (by rw[hs];omega) (λx hx c hc {w1 K} xh hK=>gG (caps:=[pA b]) (Rf hc (xh.at hk id) hK)) λw6 I=>?_;rw[dU];refine⟨λho=>?_,λho=>?_⟩
    ·rw[aO ho]at o;rw[bD,bG,aH,dX];refine⟨i64 a.a,by rw[cA,I.at hk id,bM];rfl,?_⟩;exact lW (hq _ _ _ (J _ _ _ _ h5 I)) (hg 2 a.a o.symm)
    ·rw[aJ (by rw[ho];decide)]at o;exact⟨rfl,I,o⟩
   rintro st g3 w6 ⟨rfl,I,o⟩;have h6:=J _ _ _ _ h5 I;have h7:=J _ _ _ _ h6 (cP w6);have xd:=I.at hk id;have U:w6.drew.heap[b]?=some (.cells [str a.n,i64 (a.e:Nat),i64 a.a].toArray AtT (0,0)):=xd;refine fQ U rfl ?_;have hy:=hq _ _ _ h7;obtain⟨pc,hp,hE,_⟩:=hy.pE;simp only[cQ,bD,bG,aH];rw[dX];refine⟨M.vE,by rw[cA,hp,bM];simpa using hE,?_⟩;rw[dX];refine⟨i64 (a.e:Nat),by rw[cA,U,bM];rfl,?_⟩;refine sX hy.fo.oE.sl hy.fo.ee.1 (by omega) (he a xn) ?_;refine htake i a ha s1 w2 _ _ h2 (hz.trans (I.trans (cP w6))) (λs' w' hj h'=>?_) (λw' hj xo xk=>?_) (λc b' hj=>?_)
   ·rw[fG,dU];refine⟨λe=>(by cases e),λ_=>⟨trivial,s',h',?_⟩⟩;rw[hj]at o;rw[pJ,ha];exact o
   ·rw[fG,dU];refine⟨λ_=>?_,λe=>(by cases e)⟩;rw[hj]at o;have xm:w'.heap[b]?=some (.cells [str a.n,i64 (a.e:Nat),i64 a.a].toArray AtT (0,0)):=by rw[xk b (by omega) (mJ U)];exact U
    rw[dX];refine⟨i64 a.a,by rw[cA,xm,bM];rfl,?_⟩;exact lW xo (hg 110 a.a o.symm)
   ·rw[hj]at o;exact hg c b' o.symm
  rintro st g3 w6 ⟨rfl,s2,h6,xj⟩;rw[cG,upi (by omega)];exact⟨⟨i+1,s2,rfl,by omega,h6,xj⟩,by simp only[bC];omega⟩
 ·obtain rfl:i=l.length:=by omega
  rw[fZ]at o;simp only[kZ]at o;exact xc s1 w2 o.symm h2
end
theorem NY{d:List Value}{j:Nat}{u:Value}(hd:(cs.drop (i*n)).take n=d)(I:j<n)(o:d[j]?=some u):cs[i*n+j]?=some u:=by
 rw[<-hd,List.getElem?_take_of_lt I,List.getElem?_drop]at o;exact o
theorem zS{size off:Nat}{d:List Value}{k:IntKind}{u:Value}{K:Value->Prop}(h:gD w T v n cs)(hl:cs.length=n*size)(hi:i<n)(hd:(cs.drop (i*size)).take size=d)(I:off<size)(J:d[off]?=some u)(U:K u):iN none size v (.int k i) λp=>aZ off p λq=>ldW false 1 q w K:=by
 refine Cu h hl (by omega) hi λb o c fr hb j=>?_;rw[bD,dX];refine⟨u,?_,U⟩;rw[bG,cA,hb,bM,j off I];exact NY hd I J
theorem uE{u:Value}{k:IntKind}(h:gD w T v n cs)(hl:cs.length=n)(I:cs[i]?=some u):∃q,(∀K:Value->Prop,K q->iN none 1 v (.int k i) K)/\∀(w':World) (K:Value->Prop),Ext w w'->K u->ldW false 1 q w' K:=by
 obtain⟨p,cap,rfl,h1,h2,U⟩:=h;have hi:i<cs.length:=(List.getElem?_eq_some_iff.1 I).1;obtain⟨b,off,c,fr,rfl,hb,j⟩:=U (λe=>by rw[e]at hi;simp at hi);refine⟨.pointer (some ((⟨b,off,none⟩:Addr).add (i*1))),λK o=>?_,λw' K J o=>?_⟩
 ·rw[eG];exact⟨by omega,by omega,by simpa using o⟩
 ·rw[dX];refine⟨u,?_,o⟩;rw[bG,cA,J.at hb id,bM,Nat.mul_one,j i hi];exact I
theorem iQ{b off:Nat}{K:Value->Prop}(hb:w.heap[b]?=some (.cells cs.toArray T (0,0)))(j:cs[off]?=some v)(o:K v):ldW false 1 (.pointer (some ⟨b,off,none⟩)) w K:=by
 rw[dX];exact⟨v,by rw[cA,hb,bM];simpa using j,o⟩
section
variable [HX]
section
variable{w0 w:World}{p:Nat}{M:Lay}{path:Str}{fl:Fl}{K:Q0}
theorem Mf.ext(h:Mf w0 w p M path fl)(j:Ext w w'):Mf w0 w' p M path fl:=by
 obtain⟨cs,I,o⟩:=h.pE;exact⟨h.ch.trans j,⟨cs,j.at I id,o⟩,h.fo.keep j λ_ _ _ _ e=>e⟩
theorem Mf.drew(h:Mf w0 w p M path fl):Mf w0 w.drew p M path fl:=h.ext (cP w)
theorem CZ{b:Blk}{c:List Value}(h:Mf w0 w p M path fl)(hc:BkR w w0.heap.size b c)(hb:∀j∈b.blocks,j<fl.bl.length)(hn:b.blocks.length<=1000000)(ho:∀w',sV fl b=.ok ()->Ext w w'->K (.tuple #[]) w')(hh:∀c a,sV fl b=.bad c a->TC w0 path c a):
  aI P0 174 [pA p,.agg c.toArray] w K:=by
 obtain⟨vl,va,vb,rfl,h1,h2,h3⟩:=hc;refine Sj ?_;unfold YI;refine fX λd w1 hd hz hg hx=>?_;simp only[bD,cQ,bG,aH];refine iQ hg (v:=vb) rfl ?_;rw[jH (h3.sl.ext hx),fJ,bA];refine⟨λJ=>?_,λJ=>?_⟩
 ·have I:=(h.ext hx).drew;obtain⟨pc,hj,_,hB,_⟩:=I.pE;refine iQ hj hB ?_;have U:w1.drew.heap[d]?=some (.cells [str b.typ,vl,va,vb,i64 b.a].toArray 38 (0,0)):=hg;refine iQ U (v:=vb) rfl ?_;cases o:b.blocks with
  |nil=>rw[o]at J;simp at J
  |cons k r=>
   have hk:=hb k (by rw[o];exact aW);refine pX (i:=0) (x:=i64 (k:Nat)) ((h3.sl.ext hx).ext (cP w1)) (by rw[sQ];omega) (by rw[o];rfl) ?_;obtain⟨wl,wa,wb,eb,_⟩:=rD I.fo hk;have:=zS (off:=4) (k:=.i64) (K:=λt21=>aI P0 94 [pA p,.int .i64 110,t21] w1.drew λt22 w2=>K (.tuple #[]) w2) I.fo.oB.sl I.fo.bb.1 hk eb (by omega) rfl;refine this (lW I (hh 110 _ ?_));unfold sV;rw[o]
 ·refine ho w1 ?_ hx;unfold sV;cases o:b.blocks with
  |nil=>rfl
  |cons k r=>rw[o]at J;simp at J
end
section
variable [FK]{w0 w:World}{p:Nat}{L:ML}{vS:Value}{path:Str}{s:MS}{K:Q0}
structure nT(w0 w:World)(p:Nat)(L:ML)(vS:Value)(b:Nat)(T:TypeId)(cs:List Value):Prop where
 at_:w.heap[b]?=some (.cells cs.toArray T (0,0))
 off:tN w0 w p L vS b
variable{b b':Nat}{T:TypeId}{cs:List Value}
theorem nT.ext(h:nT w0 w p L vS b T cs)(j:Ext w w'):nT w0 w' p L vS b T cs:=⟨j.at h.at_ id,h.off.up j.size⟩
theorem nT.one(h:nT w0 w p L vS b T cs)(o:Chg (One b') w w')(j:b≠b'):nT w0 w' p L vS b T cs:=⟨o.at h.at_ j,h.off.up o.size⟩
theorem nT.lt(h:nT w0 w p L vS b T cs):b<w.heap.size:=h.off.2.1
theorem MR.loc(h:MR w0 w p L vS path s)(o:w'.heap.size=w.heap.size+1)(hb:b=w.heap.size)(j:w'.heap[b]?=some (.cells cs.toArray T (0,0))):nT w0 w' p L vS b T cs:=⟨j,h.off_new (by omega) (by omega)⟩
structure ZO(fl:Fl)(M:Lay)(k:Nat):Prop where
 lt:k<fl.bl.length
 at_:∀a∈(kC fl k).attrs,a.e<fl.ex.length
 bs:∀j∈(kC fl k).blocks,j<fl.bl.length
 few:(kC fl k).attrs.length<=1000000/\(kC fl k).blocks.length<=1000000/\(kC fl k).labels.length<=1000000
theorem HM{k:Nat}(h:MR w0 w p L vS path s)(hk:ZO s.m.fl L.M k)(hl:1<=(kC s.m.fl k).labels.length)(xu:s.m.vars.length<=100000000000)
  (hg:∀s' L' vS' w',nW s (kC s.m.fl k)=.ok s'->L'.M=L.M->MR w0 w' p L' vS' path s'->K (.tuple #[]) w')(o:∀c a,nW s (kC s.m.fl k)=.bad c a->TC w0 path c a):
  aI P0 138 [pA p,.agg (TH L.M k).toArray] w K:=by
 obtain⟨vl,va,vb,ec,h1,h2,h3⟩:=rD h.md.fo hk.lt;obtain⟨xc,xd,xt,xr,xq,yp⟩:=hk;generalize hb:kC s.m.fl k=b at*
 rw[ec];refine SG ?_;unfold Zd;refine fX λb3 w1 yk ya hh xm=>?_;have xp:=(h.ext xm).drew;have l3:nT w0 w1.drew p L vS b3 BkT _:=(h.loc ya yk hh).ext (cP w1);have hh:=l3.at_;have yn:=(h1.sl.ext xm).ext (cP w1);obtain⟨x,hx⟩:∃x,b.labels[0]?=some x:=⟨_,List.getElem?_eq_getElem (by omega)⟩;have yc:b.labels.getD 0 []=x:=by rw[List.getD_eq_getElem?_getD,hx];rfl
 have yb:(strs b.labels)[0]?=some (str x):=by unfold strs;rw[List.getElem?_map,hx];rfl
 simp only[bD,bG,aH];refine iQ hh (v:=vl) rfl ?_;obtain⟨pl,yf,xb⟩:=uE (k:=.i64) yn (by rw[sG];omega) yb;refine yf _ (xb _ _ (Chg.refl _ _) ?_);refine iQ hh (v:=i64 b.a) rfl ?_;simp only[dF,dK,dC,aB,aK,aL,aN];refine⟨by omega,by omega,by omega,?_⟩;refine cI λb4 w3 yj xz hv xh=>?_;have yi:=xp.ext xh;have l3:=l3.ext xh;have l4:nT w0 w3 p L vS b4 IR _:=xp.loc xz yj hv;have xe:b3≠b4:=by have:w1.drew.heap.size=w1.heap.size:=rfl;omega
 refine⟨iQ l3.at_ rfl rfl,xb _ _ xh rfl,iQ l3.at_ rfl rfl,?_⟩;refine dD (l:=[str x,i64 (-1),i64 b.a]) l4.at_ rfl rfl rfl λw4 yw hv xi=>?_;have yh:=yi.one xi l4.off;have l3:=l3.one xi xe;have l4:nT w0 w4 p L vS b4 IR [str x,i64 (-1),i64 b.a]:=⟨hv,l4.off.up xi.size⟩;refine iQ l3.at_ (v:=va) rfl ?_;have yd:∀w,FO w w0.heap.size L.M s.m.fl->gD w AtT va b.attrs.length (kK b.attrs):=λw hw=>by
  obtain⟨vl',va',vb',ec',_,g2,_⟩:=rD hw xc;rw[ec,hb]at ec';simp only[fR]at ec';rw[ec'.2.2.1];rw[hb]at g2;exact g2.sl
 have hmodel:nW s b=(kZ s.m.fl JQ [] b.attrs (-1)).bind λd=>(sV s.m.fl b).bind λ_=>if s.m.vars.any (λy=>decide (y.n=x))=true then .bad 2 b.a else .ok {s with m:={s.m with vars:=s.m.vars++[⟨x,d,b.a⟩]}}:=by
  rw[<-yc];rfl
 rw[hmodel]at hg o;refine yA (σ:=Int) (M:=L.M) (fl:=s.m.fl) (path:=path) (Inv:=λ_ w d=>MR w0 w p L vS path s/\nT w0 w p L vS b3 BkT [str b.typ,vl,va,vb,i64 b.a]/\nT w0 w p L vS b4 IR [str x,i64 d,i64 b.a]) (take:=JQ) (l:=b.attrs) (s:=-1)
  (λ_ w d hI=>hI.1.mf) (λ_ w w' d hI hx=>⟨hI.1.ext hx,hI.2.1.ext hx,hI.2.2.ext hx⟩) yd xr xd ?_ ⟨yh,l3,l4⟩ ?_ ?_
 ·intro j a ha d wz w5 K' hI xg xl yg za;obtain⟨i1,i2,i3⟩:=hI;have yl:=xd a (bI ha);have hj:=i1.ext xg;have l35:=i2.ext xg;have l45:=i3.ext xg;refine gG (caps:=[pA b4]) ?_;refine Sk ?_;unfold YJ;refine fX λb6 w6 zc yu xy ho=>?_;obtain⟨ua,uk,eu,_⟩:=wC hj.md.fo yl;rw[eu];refine fX λb7 w7 zb yt yr I=>?_;have J:=ho.trans I;have hs:=I.at xy id;simp only[bD,bG,aH];refine iQ hs (v:=i64 (a.e:Nat)) rfl ?_;have l47:=l45.ext J;refine jZ l47.at_ rfl (by simp) λw8 ys xx hr=>?_;have hb6n:b6≠b4:=by have:=l45.lt;omega
  refine iQ (hr.at hs hb6n) (v:=str a.n) rfl ?_;rw[eC];have hi:=(hj.ext J).one hr l47.off;have l38:=(l35.ext J).one hr xe;have l48:nT w0 w8 p L vS b4 IR [str x,i64 (a.e:Nat),i64 b.a]:=⟨by rw[xx];simp,l47.off.up hr.size⟩;by_cases hd:a.n=Gi
  ·rw[bK (show a.n=[100,101,102,97,117,108,116]from hd)];refine xl a.e w8 ?_ ⟨hi,l38,l48⟩;unfold JQ;rw[aO hd]
  ·rw[cM (show¬a.n=[100,101,102,97,117,108,116]from hd)];refine yg w8 (by unfold JQ;rw[aJ hd]) hi.mf λq hq ye=>?_;have h4:=i3.lt;rw[hr.heap q (by have:=J.size;omega) (λe=>by have e:q=b4:=e;omega),J.heap q ye id]
 ·intro d w5 hR ⟨hj,l35,l45⟩;rw[hR]at hg o;simp only[RC.bind]at hg o;refine fQ l35.at_ rfl ?_;have xw:BkR w5 w0.heap.size b [str b.typ,vl,va,vb,i64 b.a]:=by
   have:=rD hj.md.fo xc;rw[ec,hb]at this;exact this
  refine CZ hj.mf xw xt xq (λw6 hB ho=>?_) λc a hB=>o c a (by rw[hB]);rw[hB]at hg o;simp only at hg o;have hz:=hj.ext ho;have l36:=l35.ext ho;have l46:=l45.ext ho;refine cX.cut (λst w'=>st=[]/\Ext w6 w'/\s.m.vars.any (λy=>decide (y.n=x))=false) ?_ ?_
  ·simp only[cQ,bD,bG,aH];refine hz.ld rfl ?_;refine Bn (l:=s.m.vars) (q:=λy=>decide (y.n=x)) hz.md.oV.sl (by omega) (λy hy c hc {w8 K8} xf yo=>gG (caps:=[pA b4]) ?_) λw7 I=>?_
   ·have hc:c=[str y.n,i64 y.d,i64 y.a]:=hc;subst hc;refine Si ?_;unfold YH;exact qI (xf.at l46.at_ id) yo
   ·rw[dU];refine⟨λU=>?_,λU=>⟨trivial,I,U⟩⟩;refine iQ (I.at l36.at_ id) (v:=i64 b.a) rfl ?_;exact lW (hz.mf.ext I) (o 2 b.a (by rw[aO U]))
  rintro st g w7 ⟨rfl,I,U⟩;rw[aJ (by rw[U];decide)]at hg;have xa:=I.trans (cP w7);have xn:=hz.ext xa;have l47:=l46.ext xa;simp only[cQ,bD,bG,aH];refine xn.ld rfl ?_;refine fQ l47.at_ rfl ?_;refine row_one (by rfl) (by rfl) (by omega) λt w8 ht xf=>?_;have hi:=xn.ext xf;refine⟨hi.ld rfl rfl,?_⟩;refine hi.app_V (x:=⟨x,d,b.a⟩) ht xu λv' w9 hO hc hn=>?_;exact hi.st_V hO hc hn λw10 xo _ _=>hg _ {L with vV:=v'} vS _ rfl rfl xo
 ·intro c a hR;exact o c a (by rw[hR];rfl)
theorem Mg{k:Nat}(h:MR w0 w p L vS path s)(hk:ZO s.m.fl L.M k)(hl:1<=(kC s.m.fl k).labels.length)(xu:s.m.outs.length<=100000000000)
  (U:∀s' L' vS' w',rV s (kC s.m.fl k)=.ok s'->L'.M=L.M->MR w0 w' p L' vS' path s'->K (.tuple #[]) w')(o:∀c a,rV s (kC s.m.fl k)=.bad c a->TC w0 path c a):
  aI P0 140 [pA p,.agg (TH L.M k).toArray] w K:=by
 obtain⟨vl,va,vb,ec,h1,h2,h3⟩:=rD h.md.fo hk.lt;obtain⟨xc,xd,xt,xr,xq,yr⟩:=hk;generalize hb:kC s.m.fl k=b at*
 rw[ec];refine SE ?_;unfold Zb;refine fX λb3 w1 yl yb hh xm=>?_;have xp:=(h.ext xm).drew;have l3:nT w0 w1.drew p L vS b3 BkT _:=(h.loc yb yl hh).ext (cP w1);have hh:=l3.at_;have yo:=(h1.sl.ext xm).ext (cP w1);obtain⟨x,hx⟩:∃x,b.labels[0]?=some x:=⟨_,List.getElem?_eq_getElem (by omega)⟩;have yd:b.labels.getD 0 []=x:=by rw[List.getD_eq_getElem?_getD,hx];rfl
 have yc:(strs b.labels)[0]?=some (str x):=by unfold strs;rw[List.getElem?_map,hx];rfl
 simp only[bD,bG,aH];refine iQ hh (v:=vl) rfl ?_;obtain⟨pl,yg,xb⟩:=uE (k:=.i64) yo (by rw[sG];omega) yc;refine yg _ (xb _ _ (Chg.refl _ _) ?_);refine iQ hh (v:=i64 b.a) rfl ?_;simp only[dF,dK,dC,aB,aK,aL,aN];refine⟨by omega,by omega,by omega,?_⟩;refine cI λb4 w3 yk ya hz xh=>?_;have yj:=xp.ext xh;have l3:=l3.ext xh;have l4:nT w0 w3 p L vS b4 AtT _:=xp.loc ya yk hz;have xe:b3≠b4:=by have:w1.drew.heap.size=w1.heap.size:=rfl;omega
 refine⟨iQ l3.at_ rfl rfl,xb _ _ xh rfl,iQ l3.at_ rfl rfl,?_⟩;refine dD (l:=[str x,i64 (-1),i64 b.a]) l4.at_ rfl rfl rfl λw4 yy hz xi=>?_;have yi:=yj.one xi l4.off;have l3:=l3.one xi xe;have l4:nT w0 w4 p L vS b4 AtT [str x,i64 (-1),i64 b.a]:=⟨hz,l4.off.up xi.size⟩;refine iQ l3.at_ (v:=va) rfl ?_;have ye:∀w,FO w w0.heap.size L.M s.m.fl->gD w AtT va b.attrs.length (kK b.attrs):=λw hw=>by
  obtain⟨vl',va',vb',ec',_,g2,_⟩:=rD hw xc;rw[ec,hb]at ec';simp only[fR]at ec';rw[ec'.2.2.1];rw[hb]at g2;exact g2.sl
 have hmodel:rV s b=(kZ s.m.fl outT [] b.attrs (-1)).bind λd=>(sV s.m.fl b).bind λ_=>if d<0 then .bad 110 b.a else if s.m.outs.any (λy=>decide (y.n=x))=true then .bad 2 b.a else .ok {s with m:={s.m with outs:=s.m.outs++[⟨x,d.toNat,b.a⟩]}}:=by
  rw[<-yd];rfl
 rw[hmodel]at U o;refine yA (σ:=Int) (M:=L.M) (fl:=s.m.fl) (path:=path) (Inv:=λ_ w d=>MR w0 w p L vS path s/\nT w0 w p L vS b3 BkT [str b.typ,vl,va,vb,i64 b.a]/\nT w0 w p L vS b4 AtT [str x,i64 d,i64 b.a]) (take:=outT) (l:=b.attrs) (s:=-1)
  (λ_ w d hI=>hI.1.mf) (λ_ w w' d hI hx=>⟨hI.1.ext hx,hI.2.1.ext hx,hI.2.2.ext hx⟩) ye xr xd ?_ ⟨yi,l3,l4⟩ ?_ ?_
 ·intro j a ha d wz w5 K' hI xg xl yh zb;obtain⟨i1,i2,i3⟩:=hI;have ym:=xd a (bI ha);have hj:=i1.ext xg;have l35:=i2.ext xg;have l45:=i3.ext xg;refine gG (caps:=[pA b4]) ?_;refine Se ?_;unfold YE;refine fX λb6 w6 zd yx xz ho=>?_;obtain⟨ua,uk,eu,_⟩:=wC hj.md.fo ym;rw[eu];refine fX λb7 w7 zc yw yt I=>?_;have J:=ho.trans I;have hv:=I.at xz id;simp only[bD,bG,aH];refine iQ hv (v:=i64 (a.e:Nat)) rfl ?_;have l47:=l45.ext J;refine jZ l47.at_ rfl (by simp) λw8 yu xy hs=>?_;have hb6n:b6≠b4:=by have:=l45.lt;omega
  refine iQ (hs.at hv hb6n) (v:=str a.n) rfl ?_;rw[eC];have hi:=(hj.ext J).one hs l47.off;have l38:=(l35.ext J).one hs xe;have l48:nT w0 w8 p L vS b4 AtT [str x,i64 (a.e:Nat),i64 b.a]:=⟨by rw[xy];simp,l47.off.up hs.size⟩;by_cases hd:a.n=LM
  ·rw[bK (show a.n=[118,97,108,117,101]from hd)];refine xl a.e w8 ?_ ⟨hi,l38,l48⟩;unfold outT;rw[aO hd]
  ·rw[cM (show¬a.n=[118,97,108,117,101]from hd)];refine yh w8 (by unfold outT;rw[aJ hd]) hi.mf λq hq yf=>?_;have h4:=i3.lt;rw[hs.heap q (by have:=J.size;omega) (λe=>by have e:q=b4:=e;omega),J.heap q yf id]
 ·intro d w5 hR ⟨hj,l35,l45⟩;rw[hR]at U o;simp only[RC.bind]at U o;refine fQ l35.at_ rfl ?_;have xx:BkR w5 w0.heap.size b [str b.typ,vl,va,vb,i64 b.a]:=by
   have:=rD hj.md.fo xc;rw[ec,hb]at this;exact this
  refine CZ hj.mf xx xt xq (λw6 hB ho=>?_) λc a hB=>o c a (by rw[hB]);rw[hB]at U o;simp only at U o;have hr:=hj.ext ho;have l36:=l35.ext ho;have l46:=l45.ext ho;refine cX.cut (λst w'=>st=[]/\w'=w6/\¬d<0) ?_ ?_
  ·simp only[bD,bG,aH];refine iQ l46.at_ (v:=i64 d) rfl ?_;rw[dT,bA];refine⟨λhd=>?_,λhd=>⟨trivial,trivial,hd⟩⟩;refine iQ l36.at_ (v:=i64 b.a) rfl ?_;exact lW hr.mf (o 110 b.a (by rw[aO hd]))
  rintro st g w6 ⟨rfl,rfl,xv⟩;rw[aJ xv]at U o;refine cX.cut (λst w'=>st=[]/\Ext w6 w'/\s.m.outs.any (λy=>decide (y.n=x))=false) ?_ ?_
  ·simp only[cQ,bD,bG,aH];refine hr.ld rfl ?_;refine tF (l:=s.m.outs) (q:=λy=>decide (y.n=x)) hr.md.oO.sl (by omega) (λy hy c hc {w8 K8} xf yp=>gG (caps:=[pA b4]) ?_) λw7 I=>?_
   ·have hc:c=[str y.n,i64 (y.e:Nat),i64 y.a]:=hc;subst hc;refine Sd ?_;unfold YD;exact qI (xf.at l46.at_ id) yp
   ·rw[dU];refine⟨λhg=>?_,λhg=>⟨trivial,I,hg⟩⟩;refine iQ (I.at l36.at_ id) (v:=i64 b.a) rfl ?_;exact lW (hr.mf.ext I) (o 2 b.a (by rw[aO hg]))
  rintro st g w7 ⟨rfl,I,hg⟩;rw[aJ (by rw[hg];decide)]at U;have xa:=I.trans (cP w7);have xn:=hr.ext xa;have l47:=l46.ext xa;simp only[cQ,bD,bG,aH];refine xn.ld rfl ?_;refine fQ l47.at_ rfl ?_;refine row_one (by rfl) (by rfl) (by omega) λt w8 ht xf=>?_;rw[<-Int.toNat_of_nonneg (Int.not_lt.1 xv)]at ht;have hi:=xn.ext xf;refine⟨hi.ld rfl rfl,?_⟩;refine hi.app_O (x:=⟨x,d.toNat,b.a⟩) ht xu λv' w9 hO hc hn=>?_;exact hi.st_O hO hc hn λw10 xo _ _=>U _ {L with vO:=v'} vS _ rfl rfl xo
 ·intro c a hR;exact o c a (by rw[hR];rfl)
end
end
section
variable [FK]{w0 w w1 w2:World}{p:Nat}{L:ML}{vS:Value}{path:Str}{s:MS}{b:Nat}{T:TypeId}{cs:List Value}
theorem tN.ne(h:tN w0 w p L vS b)(j:v∈[vS]++L.vals):v.ownBlock≠some b:=λe=>h.2.2.1 (by rw[jO];exact aE _ (dS j e))
theorem tN.np(h:tN w0 w p L vS b):b≠p:=λe=>h.2.2.1 (by rw[jO,e];exact aW)
theorem nT.put_L{v':Value}(h:nT w0 w p L vS b T cs)(hc:Chg (λk=>L.vL.ownBlock=some k) w w1)(o:Chg (One p) w1 w2)(hn:∀k,v'.ownBlock=some k->L.vL.ownBlock=some k\/w.heap.size<=k):nT w0 w2 p {L with vL:=v'} vS b T cs:=by
 have J:L.vL.ownBlock≠some b:=h.off.ne (by simp[ML.vals]);refine⟨o.at (hc.at h.at_ J) h.off.np,h.off.1,cV h.off.2.1 (dI hc.size o.size),λI=>?_,h.off.2.2.2⟩;rw[jO]at I;rcases aX.1 I with e|I
 ·exact h.off.np e
 obtain⟨v,j,U⟩:=bO.1 I;have:v=v'\/v∈[vS]++L.vals:=by
  simp only[ML.vals,bH,aX,bQ,fF]at j⊢
  grind
 rcases this with rfl|j
 ·rcases hn b U with e|e
  ·exact J e
  ·have:=h.off.2.1;omega
 ·exact h.off.ne j U
end
abbrev MpT:TypeId:=175
section
variable [HX]
variable [FK]{w0 w:World}{p:Nat}{L:ML}{vS:Value}{path:Str}{s:MS}{K:Q0}
theorem TF{q:Nat}{K:Q0}(h:∀a w',a=w.heap.size->w'.heap.size=w.heap.size+1->w'.heap[a]?=some (.cells [pA q].toArray T (0,0))->Ext w w'->K (.pointer (some ⟨a,0,none⟩)) w'):jI T (pA q) w K:=fX (z:=[pA q]) h
def LoI(w0:World)(p:Nat)(L:ML)(vS:Value)(path:Str)(s:MS)(b2 b3:Nat)(c3:List Value)(j:Nat)(w:World)(l:List Atr):Prop:=
 ∃L':ML,L'.M=L.M/\MR w0 w p L' vS path {s with m:={s.m with locs:=l}}/\nT w0 w p L' vS b2 MpT [pA p]/\nT w0 w p L' vS b3 BkT c3/\l.length<=s.m.locs.length+j
theorem Mt{k:Nat}(h:MR w0 w p L vS path s)(hk:ZO s.m.fl L.M k)(yg:s.m.locs.length<=10000000000)
  (hj:∀s' L' vS' w',rX s (kC s.m.fl k)=.ok s'->L'.M=L.M->MR w0 w' p L' vS' path s'->K (.tuple #[]) w')(I:∀c a,rX s (kC s.m.fl k)=.bad c a->TC w0 path c a):
  aI P0 139 [pA p,.agg (TH L.M k).toArray] w K:=by
 obtain⟨vl,va,vb,ec,h1,h2,h3⟩:=rD h.md.fo hk.lt;obtain⟨hr,hs,xk,xj,xi,ye⟩:=hk;generalize hb:kC s.m.fl k=b at*
 rw[ec];refine SF ?_;unfold Zc;refine TF λb2 w1 ya xr xp xt=>?_;have xh:=h.ext xt;have l2:nT w0 w1 p L vS b2 MpT _:=h.loc xr ya xp;refine fX λb3 w2 xz xq xo xe=>?_;have xx:=xh.ext xe;have l3:nT w0 w2 p L vS b3 BkT _:=xh.loc xq xz xo;have l2:=l2.ext xe;refine iQ l2.at_ (v:=pA p) rfl ?_;simp only[bD,bG,aH];refine iQ l3.at_ (v:=va) rfl ?_;have xv:∀w,FO w w0.heap.size L.M s.m.fl->gD w AtT va b.attrs.length (kK b.attrs):=λw hw=>by
  obtain⟨vl',va',vb',ec',_,g2,_⟩:=rD hw hr;rw[ec,hb]at ec';simp only[fR]at ec';rw[ec'.2.2.1];rw[hb]at g2;exact g2.sl
 have hmodel:rX s b=(kZ s.m.fl GK [] b.attrs s.m.locs).bind λl=>(sV s.m.fl b).bind λ_=>.ok {s with m:={s.m with locs:=l}}:=rfl;rw[hmodel]at hj I;refine yA (M:=L.M) (fl:=s.m.fl) (path:=path) (Inv:=LoI w0 p L vS path s b2 b3 [str b.typ,vl,va,vb,i64 b.a]) (take:=GK) (l:=b.attrs) (s:=s.m.locs)
  (λ_ w l ⟨L',e,g,_⟩=>by rw[<-e];exact g.mf) (λ_ w w' l ⟨L',e,g1,g2,g3,g4⟩ hx=>⟨L',e,g1.ext hx,g2.ext hx,g3.ext hx,g4⟩) xv xj hs ?_ ⟨L,rfl,xx,l2,l3,by omega⟩ ?_ ?_
 ·rintro j a ha l wz w5 K' ⟨L',eM,i1,i2,i3,i4⟩ xa xc yo xy;have yp:j<b.attrs.length:=(List.getElem?_eq_some_iff.1 ha).1;have yb:=hs a (bI ha);refine gG (caps:=[pA b2]) ?_;refine Sg ?_;unfold YG;refine fX λb6 w6 yr yl xn hz=>?_;obtain⟨ua,uk,eu,_⟩:=wC (i1.ext xa).md.fo yb;rw[<-eM,eu];refine fX λb7 w7 yq yk yh xd=>?_;have hh:=xa.trans (hz.trans xd);have hq:=i1.ext hh;have l27:=i2.ext hh;have l37:=i3.ext hh;have U:=xd.at xn id;have l67:nT w0 w7 p L' vS b6 AtT [str a.n,i64 (a.e:Nat),i64 a.a]:=⟨U,(i1.ext xa).off_new (by omega) (by omega)⟩;refine cX.cut (λst w'=>st=[]/\Ext w7 w'/\l.any (λy=>decide (y.n=a.n))=false) ?_ ?_
  ·refine iQ l27.at_ (v:=pA p) rfl ?_;simp only[cQ,bD,bG,aH];refine hq.ld rfl ?_;refine tF (l:=l) (q:=λy=>decide (y.n=a.n)) hq.md.oL.sl (by omega) (λy hy c hc {w8 K8} o yd=>gG (caps:=[pA b6]) ?_) λw8 o=>?_
   ·have hc:c=[str y.n,i64 (y.e:Nat),i64 y.a]:=hc;subst hc;refine Sf ?_;unfold YF;exact qI (o.at U id) yd
   ·rw[dU];refine⟨λJ=>?_,λJ=>⟨trivial,o,J⟩⟩;refine iQ (l27.ext o).at_ (v:=pA p) rfl ?_;refine iQ (o.at U id) (v:=i64 a.a) rfl ?_;have hM:=(hq.ext o).mf;rw[eM]at hM;exact lW hM (xy 2 a.a (by unfold GK;rw[aO J]))
  rintro st g w8 ⟨rfl,o,J⟩;have hg:=o.trans (cP w8);have xf:=hq.ext hg;have l29:=l27.ext hg;have l39:=l37.ext hg;have l69:=l67.ext hg;refine iQ l29.at_ (v:=pA p) rfl ?_;refine iQ l29.at_ (v:=pA p) rfl ?_;simp only[cQ,bD,bG,aH];refine xf.ld rfl ?_;refine fQ l69.at_ rfl ?_;refine row_one (by rfl) (by rfl) (by omega) λt w10 ht hi=>?_;have ho:=xf.ext hi;have l210:=l29.ext hi;refine⟨ho.ld rfl rfl,iQ l210.at_ rfl rfl,iQ l210.at_ rfl rfl,?_⟩;refine ho.app_L (x:=a) ht (by show l.length<=_;omega) λv' w11 hO hc hn=>?_;refine⟨iQ (hc.at l210.at_ (l210.off.ne (by simp[ML.vals]))) rfl rfl,?_⟩;refine ho.st_L hO hc hn λw12 xg xl _=>?_;refine xc (l++[a]) w12 (by unfold GK;rw[aJ (by rw[J];decide)]) ⟨{L' with vL:=v'},eM,xg,l210.put_L hc xl hn,(l39.ext hi).put_L hc xl hn,by rw[aP,aB,aK];omega⟩
 ·rintro l w5 hR ⟨L',eM,xb,l25,l35,_⟩;rw[hR]at hj I;simp only[RC.bind]at hj I;refine iQ l25.at_ (v:=pA p) rfl ?_;refine fQ l35.at_ rfl ?_;have xm:BkR w5 w0.heap.size b [str b.typ,vl,va,vb,i64 b.a]:=by
   have:=rD xb.md.fo hr;rw[eM]at this;have e2:kC {s with m:={s.m with locs:=l}}.m.fl k=b:=hb;rw[ec,e2]at this;exact this
  refine CZ (M:=L'.M) xb.mf xm xk xi (λw6 hB hz=>?_) λc a hB=>I c a (by
   have hB:sV s.m.fl b=.bad c a:=hB;rw[hB])
  have hB:sV s.m.fl b=.ok ():=hB;rw[hB]at hj;exact hj _ L' vS _ rfl eM (xb.ext hz)
 ·intro c a hR;exact I c a (by rw[hR];rfl)
end
end
end Go.Proofs.YtjblfcfdeaagpaaGreatDoor
namespace Go.Vfs
section
open Go Go.Eng
variable{w:World}{K:Q0}{cs:List Value}{G:Nat->Prop}{T:TypeId}{i:Nat}{n:Nat}{v:Value}{w':World}{P:Program}{c:UInt8}{S:Nat->Prop}
structure MF where
 data:Str
 safe:Str
 saved:Bool
abbrev jW:=List (Str×MF)
structure MS where
 files:jW
 steps:Int
 left:Int
 dead:Bool
def newM:MS:=⟨[],0,-1,false⟩
def badB(c:UInt8):Bool:=c==0||c==10||c==32
def uX(p:Str):Bool:=decide (1<=p.length)&&decide (p.length<=64)&&!p.any badB
def lkM:jW->Str->Option MF
 |[],_=>none
 |(k,x)::r,p=>if k=p then some x else lkM r p
def wo:jW->Str->jW
 |[],_=>[]
 |(k,x)::r,p=>if k=p then wo r p else(k,x)::wo r p
def ins:jW->Str->MF->jW
 |[],p,x=>[(p,x)]
 |(k,y)::r,p,x=>if Op.bytesLess p k=true then(p,x)::(k,y)::r else(k,y)::ins r p x
def HL(l:jW)(p:Str)(x:MF):jW:=ins (wo l p) p x
def iK(s:MS):MS×Int:=
 if s.dead=true\/s.left=0 then({s with dead:=true},5)
 else({s with left:=if s.left>0 then IntKind.i64.wrap (s.left-1)else s.left,steps:=IntKind.i64.wrap (s.steps+1)},0)
def writeM(s:MS)(p data:Str)(made:Bool):MS×Int:=
 if uX p=false then(s,6)
 else if data.length>65536\/(lkM s.files p=none/\64<=s.files.length)then(s,3)
 else if made=true/\(lkM s.files p).isSome=true then(s,2)
 else if(iK s).2≠0 then iK s
 else({(iK s).1 with files:=HL s.files p ⟨data,((lkM s.files p).map (·.safe)).getD [],((lkM s.files p).map (·.saved)).getD false⟩},0)
def removeM(s:MS)(p:Str):MS×Int:=
 if uX p=false then(s,6)
 else match lkM s.files p with
  |none=>(s,4)
  |some _=>if(iK s).2≠0 then iK s else({(iK s).1 with files:=wo s.files p},0)
theorem Bf:∀a:Str,Op.bytesLess a a=false
 |[]=>rfl
 |x::a=>by simp[Op.bytesLess,Bf a,UInt8.lt_irrefl]
theorem Cr:∀{a b c:Str},Op.bytesLess a b=true->Op.bytesLess b c=true->Op.bytesLess a c=true
 |_,_,[],_,h=>by cases ‹List UInt8›<;>simp[Op.bytesLess]at h
 |[],_,_::_,_,_=>rfl
 |x::a,[],z::c,h,_=>by simp[Op.bytesLess]at h
 |x::a,y::b,z::c,o,j=>by
  simp only[Op.bytesLess,fS,fD,bL,gR]at o j⊢
  rcases o with o|⟨rfl,o⟩<;>rcases j with j|⟨rfl,j⟩
  ·exact .inl (UInt8.lt_trans o j)
  ·exact .inl o
  ·exact .inl j
  ·exact .inr ⟨rfl,Cr o j⟩
theorem yY:∀(a b:Str),a≠b->Op.bytesLess a b=true\/Op.bytesLess b a=true
 |[],[],h=>absurd rfl h
 |[],_::_,_=>.inl rfl
 |_::_,[],_=>.inr rfl
 |x::a,y::b,h=>by
  simp only[Op.bytesLess,fS,fD,bL,gR]
  by_cases o:x=y
  ·subst o
   have:a≠b:=λe=>h (by rw[e])
   rcases yY a b this with j|j
   ·exact .inl (.inr ⟨rfl,j⟩)
   ·exact .inr (.inr ⟨rfl,j⟩)
  ·have:x<y\/y<x:=by
    simp only[UInt8.lt_iff_toNat_lt];have:x.toNat≠y.toNat:=λe=>o (lT.1 e);omega
   rcases this with j|j
   ·exact .inl (.inl j)
   ·exact .inr (.inl j)
def HF(l:jW):Prop:=(l.map (·.1)).Pairwise (λa b=>Op.bytesLess a b=true)
theorem HF.tail{x:Str×MF}{l:jW}(h:HF (x::l)):HF l:=(rG.1 h).2
theorem AA(l:jW)(p:Str):List.Sublist (wo l p) l:=by
 induction l with
 |nil=>exact List.Sublist.refl _
 |cons x r ih=>
  obtain⟨k,y⟩:=x;simp only[wo];split
  ·exact ih.cons _
  ·exact ih.cons_cons _
theorem Ll{l:jW}(p:Str)(h:HF l):HF (wo l p):=List.Pairwise.sublist ((AA l p).map _) h
theorem Lm(l:jW)(p:Str):p∉(wo l p).map (·.1):=by
 induction l with
 |nil=>simp[wo]
 |cons x r ih=>
  obtain⟨k,y⟩:=x;simp only[wo];split
  ·exact ih
  ·rename_i h;simp only[fC,aX,not_or];exact⟨λe=>h e.symm,ih⟩
theorem Tu(l:jW)(p q:Str):lkM (wo l p) q=if q=p then none else lkM l q:=by
 induction l with
 |nil=>simp[wo,lkM]
 |cons x r ih=>
  obtain⟨k,y⟩:=x;simp only[wo,lkM];by_cases h:k=p
  ·rw[aO h,ih];by_cases o:q=p
   ·simp[o]
   ·rw[aJ o,aJ o,aJ (λe=>o (by rw[<-h,e]))]
  ·rw[aJ h];simp only[lkM,ih];by_cases j:k=q
   ·rw[aO j,aO j,aJ (λe=>h (by rw[j,e]))]
   ·rw[aJ j,aJ j]
theorem Js(l:jW)(p:Str)(x:MF)(y:Str×MF):y∈ins l p x↔y=(p,x)\/y∈l:=by
 induction l with
 |nil=>simp[ins]
 |cons z r ih=>
  obtain⟨k,u⟩:=z;simp only[ins];split
  ·simp
  ·simp only[aX,ih];constructor
   ·rintro(h|h|h)
    ·exact .inr (.inl h)
    ·exact .inl h
    ·exact .inr (.inr h)
   ·rintro(h|h|h)
    ·exact .inr (.inl h)
    ·exact .inl h
    ·exact .inr (.inr h)
theorem GU(l:jW)(p:Str)(x:MF):(ins l p x).Perm ((p,x)::l):=by
 induction l with
 |nil=>exact Dw _
 |cons z r ih=>
  obtain⟨k,u⟩:=z;simp only[ins];split
  ·exact Dw _
  ·exact(List.Perm.cons _ ih).trans (List.Perm.swap _ _ _)
theorem QA{l:jW}{p:Str}(x:MF)(h:HF l)(hp:p∉l.map (·.1)):HF (ins l p x):=by
 induction l with
 |nil=>simp[ins,HF]
 |cons z r ih=>
  obtain⟨k,u⟩:=z;have U:p≠k:=λe=>hp (by simp[e]);have J:p∉r.map (·.1):=λe=>hp (by simp[e]);simp only[ins];split
  ·rename_i j;refine rG.2 ⟨?_,h⟩;intro y o;rcases aX.1 o with rfl|o
   ·exact j
   ·exact Cr j ((rG.1 h).1 y o)
  ·rename_i j;refine rG.2 ⟨?_,ih h.tail J⟩;intro y o;obtain⟨z,I,rfl⟩:=lQ.1 o;rcases(Js r p x z).1 I with rfl|I
   ·exact(yY p k U).resolve_left j
   ·exact(rG.1 h).1 z.1 (List.mem_map_of_mem I)
theorem NI{l:jW}(p:Str)(x:MF)(h:HF l):HF (HL l p x):=QA x (Ll p h) (Lm l p)
theorem Vq(l:jW)(p q:Str)(x:MF)(J:p∉l.map (·.1)):lkM (ins l p x) q=if q=p then some x else lkM l q:=by
 induction l with
 |nil=>
  simp only[ins,lkM];by_cases h:p=q
  ·simp[h]
  ·rw[aJ h,aJ (jS h)]
 |cons z r ih=>
  obtain⟨k,u⟩:=z;have o:p≠k:=λe=>J (by simp[e]);have j:p∉r.map (·.1):=λe=>J (by simp[e]);simp only[ins];split
  ·simp only[lkM];by_cases h:p=q
   ·simp[h]
   ·rw[aJ h,aJ (jS h)]
  ·simp only[lkM,ih j];by_cases I:k=q
   ·subst I;simp[jS o]
   ·rw[aJ I,aJ I]
theorem Vp(l:jW)(p q:Str)(x:MF):lkM (HL l p x) q=if q=p then some x else lkM l q:=by
 unfold HL;rw[Vq _ _ _ _ (Lm l p),Tu];split<;>rfl
theorem Qq{l:jW}{p:Str}:lkM l p=none↔p∉l.map (·.1):=by
 induction l with
 |nil=>simp[lkM]
 |cons x r ih=>
  obtain⟨k,v⟩:=x;simp only[lkM];by_cases h:k=p
  ·simp[h]
  ·simp only[aJ h,ih,fC,aX];exact⟨λo j=>j.elim (λe=>h e.symm) o,λo j=>o (.inr j)⟩
theorem Ln{l:jW}{p:Str}(h:HF l):(wo l p).length=if(lkM l p).isSome=true then l.length-1 else l.length:=by
 induction l with
 |nil=>simp[wo,lkM]
 |cons x r ih=>
  obtain⟨k,y⟩:=x;have ih:=ih h.tail;simp only[wo,lkM];by_cases j:k=p
  ·have:lkM r p=none:=by
    rw[Qq];intro I;have:=(rG.1 h).1 p I;rw[j,Bf]at this;cases this
   rw[this]at ih;simp at ih;simp[j,ih]
  ·simp only[aJ j,aB,ih];split
   ·rename_i o;have:r.length≠0:=λe=>by
     have:r=[]:=cK e;subst this;simp[lkM]at o
    omega
   ·rfl
theorem IW{l:jW}{p:Str}{x:MF}(h:HF l):(HL l p x).length=if(lkM l p).isSome=true then l.length else l.length+1:=by
 have o:(HL l p x).length=(wo l p).length+1:=by unfold HL;rw[(GU _ _ _).length_eq];rfl
 rw[o,Ln h];split
 ·rename_i j;have:l.length≠0:=λe=>by
   have:l=[]:=cK e;subst this;simp[lkM]at j
  omega
 ·rfl
structure Ok(s:MS):Prop where
 srt:HF s.files
 few:s.files.length<=64
 each:∀y∈s.files,uX y.1=true/\y.2.data.length<=65536/\y.2.safe.length<=65536
theorem lk_mem{l:jW}{p:Str}{x:MF}(h:lkM l p=some x):(p,x)∈l:=by
 induction l with
 |nil=>cases h
 |cons z r ih=>
  obtain⟨k,y⟩:=z;simp only[lkM]at h;by_cases j:k=p
  ·rw[aO j]at h;cases h;subst j;exact aW
  ·rw[aJ j]at h;exact aE _ (ih h)
theorem Vk:Ok newM:=⟨List.Pairwise.nil,by simp[newM],by simp[newM]⟩
theorem Jo{s:MS}(h:Ok s):Ok (iK s).1:=by
 unfold iK;split<;>exact⟨h.srt,h.few,h.each⟩
theorem sH(s:MS):(iK s).1.files=s.files:=by unfold iK;split<;>rfl
theorem Qm{l:jW}{p:Str}{x:MF}{y:Str×MF}(h:y∈HL l p x):y=(p,x)\/y∈l:=by
 rcases(Js _ _ _ _).1 h with h|h
 ·exact .inl h
 ·exact .inr ((AA l p).subset h)
theorem Mi{s:MS}(h:Ok s)(p data:Str)(made:Bool):Ok (writeM s p data made).1:=by
 unfold writeM;split
 ·exact h
 ·rename_i J;split
  ·exact h
  ·rename_i hl;split
   ·exact h
   ·split
    ·exact Jo h
    ·refine⟨NI _ _ h.srt,?_,?_⟩
     ·show(HL s.files p _).length<=64;rw[IW h.srt];have:=h.few;split
      ·exact this
      ·rename_i I;have:lkM s.files p=none:=by cases o:lkM s.files p with
        |none=>rfl
        |some _=>rw[o]at I;simp at I
       simp only[not_or,not_and,Nat.not_le]at hl;exact hl.2 this
     ·intro y j;rcases Qm j with rfl|j
      ·refine⟨by simpa using J,by show data.length<=65536;simp only[not_or]at hl;omega,?_⟩;cases o:lkM s.files p with
       |none=>simp
       |some x=>simpa using(h.each _ (lk_mem o)).2.2
      ·exact h.each y j
theorem Kn{s:MS}(h:Ok s)(p:Str):Ok (removeM s p).1:=by
 unfold removeM;split
 ·exact h
 ·split
  ·exact h
  ·split
   ·exact Jo h
   ·exact⟨Ll p h.srt,dI (AA _ _).length_le h.few,λy j=>h.each y ((AA _ _).subset j)⟩
end
end Go.Vfs
namespace Go.Proofs.YtjblfcfdeaagpaaGreatDoor.Fx
section
open Go Go.Eng
variable{w:World}{K:Q0}{cs:List Value}{G:Nat->Prop}{T:TypeId}{i:Nat}{n:Nat}{v:Value}{w':World}{P:Program}{c:UInt8}{S:Nat->Prop}
def Xj:=And.intro @dN<|And.intro @dO<|And.intro @dG<|And.intro @dE<|And.intro @eL<|And.intro @dR<|And.intro @dL<|And.intro @cS<|And.intro @dC<|And.intro @gZ<|And.intro @dF<|And.intro @dK<|And.intro @gA<|And.intro @gM<|And.intro @dZ<|And.intro @bT<|And.intro @aS<|And.intro @cG<|And.intro @fU<|And.intro @gX<|And.intro @gW<|And.intro @gO<|And.intro @bX<|And.intro @eX<|And.intro @dT<|And.intro @fL<|And.intro @fJ<|And.intro @fP<|And.intro @eR<|And.intro @eC<|And.intro @gC<|And.intro @iF<|And.intro @iH<|And.intro @iI<|And.intro @iG<|And.intro @cQ<|And.intro @bD<|And.intro @dX<|And.intro @yZ<|And.intro @Ua<|And.intro @NT<|And.intro @TW<|And.intro @LI<|And.intro @TY<|And.intro @TZ<|And.intro @EO<|And.intro @NR<|And.intro @LH<|And.intro @iC<|And.intro @gB<|And.intro @hY<|And.intro @fI<|And.intro @iA<|And.intro @iB<|And.intro @bP<|And.intro @eG<|And.intro @iE<|And.intro @gU<|And.intro @dM<|And.intro @gN<|And.intro @fG<|And.intro @jP<|And.intro @fM<|And.intro @gT<|And.intro @iD<|And.intro @Nv<|And.intro @Rb<|And.intro @Ra<|And.intro @Np<|And.intro @QX<|And.intro @KY<|And.intro @QY<|And.intro @QZ<|And.intro @eK<|And.intro @eD<|And.intro @eF<|And.intro @jR<|And.intro @fO<|And.intro @iW<|And.intro @gS<|And.intro @gP<|And.intro @iM<|And.intro @gF<|And.intro @cU<|And.intro @bW<|And.intro @bG<|And.intro @cA<|And.intro @bM<|And.intro @eW<|And.intro @fN<|And.intro @nC<|And.intro @wY<|And.intro @fA<|And.intro @jY<|And.intro @AM<|And.intro @heap_drew<|And.intro @size_drew<|And.intro @dH<|And.intro @size_alloc<|And.intro @cZ<|And.intro @eY<|And.intro @dA<|And.intro @cW<|And.intro @bZ<|And.intro @cL<|And.intro @cY @cH
theorem kO:type_of%Xj:=Xj
end
section
open Go Go.Eng Go.Vfs
variable{w:World}{K:Q0}{cs:List Value}{G:Nat->Prop}{T:TypeId}{i:Nat}{n:Nat}{v:Value}{w':World}{P:Program}{c:UInt8}{S:Nat->Prop}
theorem xY:qB P0 80 5 1 1:=⟨by kernel_rfl,by kernel_rfl,by decide⟩
theorem Bo[HX]{l:Str}{K:Q0}(h:Byt w T v l)(hl:l.length<=1000000000000)
  (U:∀v' w',Byt w' 5 v' l->Ext w w'->K v' w'):aI P0 57 [v] w K:=by
 refine Wn ?_;unfold W57;obtain⟨p,cap,rfl,J,o,hcells⟩:=h;cases p with
 |none=>
  obtain⟨h0,_⟩:=o rfl;have:l=[]:=cK h0;subst this;simp only[eqW,Option.isNone_none,Bool.false_xor,cU];exact U _ _ (gD.nil _ _) (Chg.refl _ _)
 |some a=>
  simp only[eqW,bW,fV,iX];have I:Byt (w.alloc (.cells ([]:List Value).toArray 5)) T (.slice (some a) l.length cap) l:=gD.ext ⟨_,_,rfl,J,o,hcells⟩ (by repeat (first|assumption|exact Chg.refl _ _|refine Chg.drew ?_|refine Chg.alloc ?_ _|refine Chg.set ?_ (by first|exact .inl rfl|exact .inr (by omega)|exact .inr (by simp only[dH,size_alloc,size_drew];omega)|(left;simp;done)) _|exact Chg.of_ext (by assumption)));have j:=zW (w:=w) (base:=w.heap.size) (e:=5) (size:=1) (n:=0) (cs:=[]) (aY _) rfl (by omega);refine Df xY (base:=w.heap.size) j I (by simp[u8s]) (NN l) (by omega) (by omega) (by simp) ?_;intro v' w' j hc _;have h1:=j.sl;simp only[aH,gJ]at h1;refine U v' w' h1 (Chg.then (S:=λ_=>False) (T:=Du _ w.heap.size 5) (by repeat (first|assumption|exact Chg.refl _ _|refine Chg.drew ?_|refine Chg.alloc ?_ _|refine Chg.set ?_ (by first|exact .inl rfl|exact .inr (by omega)|exact .inr (by simp only[dH,size_alloc,size_drew];omega)|(left;simp;done)) _|exact Chg.of_ext (by assumption))) hc ?_);intro k hk hs;exact absurd hs.1 (by omega)
end
section
open Go Go.Eng
variable{w:World}{K:Q0}{cs:List Value}{G:Nat->Prop}{T:TypeId}{i:Nat}{n:Nat}{v:Value}{w':World}{P:Program}{c:UInt8}{S:Nat->Prop}
theorem kX[HX]{g:FuncId}{args:Array Value}{K:Q0}(j:∀(ar:Array Value) (w:World),(callFunc g ar).run P0 w=.ok (.enter g ar) w)
  (h:Calls P0 g args w λe w'=>∃v,e=.returned v/\K v w'):aI P0 g args.toList w K:=by
 unfold aI;rw[show args.toList.toArray=args from by simp,j];refine h.mono ?_;rintro e w' ⟨v,rfl,o⟩;exact o
theorem MQ(l:Str)(i:Nat):(ofL l).get! i=l.getD i 0:=by
 simp only[ofL,ByteArray.get!,List.getD_eq_getElem?_getD];show(l.toArray)[i]! =_;simp only[List.getElem!_toArray,List.getElem!_eq_getElem?_getD];rfl
theorem Ey(l:Str)(pos:Nat)(hp:pos<l.length):
  ((l.getD pos 0).toNat<128->Utf8.decode (ofL l) pos=((l.getD pos 0).toNat,1))/\
  (128<=(l.getD pos 0).toNat->128<=(Utf8.decode (ofL l) pos).1/\((Utf8.decode (ofL l) pos).1<55296\/(57344<=(Utf8.decode (ofL l) pos).1/\(Utf8.decode (ofL l) pos).1<=1114111))/\1<=(Utf8.decode (ofL l) pos).2/\
    pos+(Utf8.decode (ofL l) pos).2<=l.length/\∀k,pos<=k->k<pos+(Utf8.decode (ofL l) pos).2->128<=(l.getD k 0).toNat):=by
 have hd:=Lib.decode_at (ofL l) pos;rw[jG]at hd;simp only[MQ]at hd;have hb:∀i,(l.getD i 0).toNat<256:=λi=>oG _;have h0:=hb pos;have h1:=hb (pos+1);have U:=hb (pos+2);have h3:=hb (pos+3);have hs:=Lib.decodeN_shape (l.length-pos) (l.getD pos 0).toNat (l.getD (pos+1) 0).toNat (l.getD (pos+2) 0).toNat (l.getD (pos+3) 0).toNat;rw[<-hd]at hs;have I:(l.getD pos 0).toNat<128->Utf8.decode (ofL l) pos=((l.getD pos 0).toNat,1):=λh=>by rw[hd];unfold Lib.decodeN;rw[aO h]
 refine⟨I,?_⟩;clear I;generalize Utf8.decode (ofL l) pos=d at*
 obtain⟨c,wd⟩:=d;clear hd hb;have one:∀k,pos<=k->k<pos+1->k=pos:=λk h1 U=>by omega
 have two:∀k,pos<=k->k<pos+2->k=pos\/k=pos+1:=λk h1 U=>by omega
 have three:∀k,pos<=k->k<pos+3->k=pos\/k=pos+1\/k=pos+2:=λk h1 U=>by omega
 have four:∀k,pos<=k->k<pos+4->k=pos\/k=pos+1\/k=pos+2\/k=pos+3:=λk h1 U=>by omega
 rcases hs with⟨ha,J⟩|⟨ha,hn,q1,q2,J⟩|⟨ha,hn,q1,q2,q3,q4,J⟩|⟨ha,hn,q1,q2,q3,q4,q5,J⟩|J<;>simp only[gK]at J<;>obtain⟨rfl,rfl⟩:=J
 ·exactλh=>by omega
 ·refineλh=>⟨q2,.inl (by omega),by omega,by omega,λk o j=>?_⟩;rcases two k o j with rfl|rfl<;>omega
 ·refineλh=>⟨by omega,by omega,by omega,by omega,λk o j=>?_⟩;rcases three k o j with rfl|rfl|rfl<;>omega
 ·refineλh=>⟨by omega,by omega,by omega,by omega,λk o j=>?_⟩;rcases four k o j with rfl|rfl|rfl|rfl<;>omega
 ·refineλh=>⟨by omega,by omega,by omega,by omega,λk o j=>?_⟩;rw[one k o j];exact h
theorem DU(hT:Tryz.prog.underlying T=some .string){l:Str}{K:Q0}
  (o:K (.pointer (some ⟨w.heap.size,0,none⟩)) (w.alloc (.stringIter (ofL l) 0))):fH P0 (Instr.range T (str l)) w K:=by
 have j:(Instr.range T (str l)).run P0 w=.ok (.pointer (some ⟨w.heap.size,0,none⟩)) (w.alloc (.stringIter (ofL l) 0)):=by
  simp[Instr.range,run_bind,bU hT,run_pure,newObj,Sem.run]
 unfold fH;rw[j];exact o
theorem GI{r pos:Nat}{l:Str}{K:Q0}(o:w.heap[r]?=some (.stringIter (ofL l) pos))
  (h0:l.length<=pos->K (.tuple #[.bool false]) w)
  (h1:pos<l.length->∀w',w'.heap[r]?=some (.stringIter (ofL l) (pos+(Utf8.decode (ofL l) pos).2))->Chg (· =r) w w'->K (.tuple #[.bool true,i64 pos,.int .i32 (Utf8.decode (ofL l) pos).1]) w'):
  fH P0 (Instr.next (.pointer (some ⟨r,0,none⟩)) true T) w K:=by
 have U:(getObj r).run P0 w=.ok (.stringIter (ofL l) pos) w:=by simp[getObj,Sem.run,o]
 have J:r<w.heap.size:=(Array.getElem?_eq_some_iff.1 o).1;unfold fH;simp only[Instr.next,run_bind,U,jG];by_cases I:pos<l.length
 ·have j:(setObj r (.stringIter (ofL l) (pos+(Utf8.decode (ofL l) pos).2))).run P0 w=.ok () {w with heap:=w.heap.setIfInBounds r (.stringIter (ofL l) (pos+(Utf8.decode (ofL l) pos).2))}:=by simp[setObj,Sem.run,o]
  rw[aO I];simp only[run_bind,j,run_pure];exact h1 I _ (by simp[J]) sI
 ·rw[aJ I];simp only[run_pure];exact h0 (by omega)
def qO:Str:=[0,10,32]
theorem Cz[HX]{s:Str}{c:Int}{K:Q0}(j:K (i64 (Lib.indexByte s c.toNat.toUInt8)) w):aI P0 104 [str s,.int .u8 c] w K:=by
 refine kX (args:=#[str s,.int .u8 c]) Tryz.call104 ((Tryz.strings_IndexByte (ofL s) c w).mono ?_);rintro e w' ⟨rfl,rfl⟩;rw[iP];exact⟨_,rfl,j⟩
theorem KP{c:Int}(I:128<=c)(o:c<55296\/(57344<=c/\c<=1114111)):∃l:Str,Utf8.encode c=ofL l/\2<=l.length/\l.length<=4/\∃b,l[l.length-1]?=some b/\128<=b.toNat:=by
 obtain⟨n,rfl⟩:=vZ (show 0<=c by omega);have j:Utf8.valid (n:Int)=true:=by
  simp only[Utf8.valid,fS,bL,fD];omega
 have last:∀m:Nat,128<=(UInt8.ofNat (0x80+m%64)).toNat:=by
  intro m;rw[rF];omega
 unfold Utf8.encode;simp only[j,pH,bC];rw[aJ (by omega)];split
 ·exact⟨[_,_],rfl,by simp,by simp,_,rfl,last _⟩
 ·split
  ·exact⟨[_,_,_],rfl,by simp,by simp,_,rfl,last _⟩
  ·exact⟨[_,_,_,_],rfl,by simp,by simp,_,rfl,last _⟩
theorem QR{k:IntKind}{c:Int}{K:Value->Prop}:KS (.int k c) K↔K (.string (Utf8.encode c)):=iO
theorem MO(l:Str)(b:UInt8)(h:∀x∈l,x.toNat<128)(hb:128<=b.toNat):Lib.indexByte l b=-1:=by
 induction l with
 |nil=>rfl
 |cons x l ih=>
  have I:=h x aW;have ih:=ih λy o=>h y (aE _ o);have j:(x==b)=false:=by
   rw[beq_eq_false_iff_ne];intro e;subst e;omega
  simp[Lib.indexByte,j,ih]
theorem QE(n:Nat)(j:n<128):(0<=Lib.indexByte qO (n.toUInt8)↔n=0\/n=10\/n=32):=by
 have:∀m:Fin 128,(0<=Lib.indexByte qO (m.val.toUInt8)↔m.val=0\/m.val=10\/m.val=32):=by decide+kernel
 exact this ⟨n,j⟩
theorem IA[HX]{c:Int}{K:Q0}(h0:0<=c)(hv:c<55296\/(57344<=c/\c<=1114111))
  (hK:∀r:Int,∀w',(0<=r↔c=0\/c=10\/c=32)->Ext w w'->K (i64 r) w'):aI P0 189 [str qO,.int .i32 c] w K:=by
 refine RP ?_;unfold Yt;simp(disch:=omega)only[kO,jU,Nat.reduceLT,aQ,aM,bN,aD,aG,aC,aA,Nat.reduceAdd,cJ,reduceCtorEq,bK h0];refine GdW.t ?_;simp(disch:=omega)only[kO,jU,Nat.reduceLT,aQ,aM,bN,aD,aG,aC,aA,Nat.reduceAdd,cJ,reduceCtorEq];intro g;by_cases I:c<128
 ·simp(disch:=omega)only[kO,jU,Nat.reduceLT,aQ,aM,bN,aD,aG,aC,aA,Nat.reduceAdd,cJ,reduceCtorEq,bK I];refine Cz ?_;refine hK _ _ ?_ (Chg.refl _ _);have e1:IntKind.u8.wrap c=c:=by
   have e1:(2:Int)^8=256:=by decide
   simp only[IntKind.wrap,IntKind.bits,IntKind.signed,dE,e1];simp;omega
  rw[e1,QE c.toNat (by omega)];omega
 ·have xb:¬(c=0\/c=10\/c=32):=by omega
  simp(disch:=omega)only[kO,jU,Nat.reduceLT,aQ,aM,bN,aD,aG,aC,aA,Nat.reduceAdd,cJ,reduceCtorEq,cM I,bA];refine⟨λhF=>?_,λhF=>?_⟩
  ·subst hF;refine DU (by kernel_rfl) ?_;refine eJ.go (λ_ w'=>∃pos,w'.heap[w.heap.size]?=some (.stringIter (ofL qO) pos)/\pos<=3/\Ext w w') (λ_ w'=>match w'.heap[w.heap.size]? with|some (.stringIter _ pos)=>3-pos|_=>0) ?_ ?_
   ·exact⟨0,jY _ _ _ rfl,by omega,(by repeat (first|assumption|exact Chg.refl _ _|refine Chg.drew ?_|refine Chg.alloc ?_ _|refine Chg.set ?_ (by first|exact .inl rfl|exact .inr (by omega)|exact .inr (by simp only[dH,size_alloc,size_drew];omega)|(left;simp;done)) _|exact Chg.of_ext (by assumption)))⟩
   ·rintro s g w' ⟨pos,hw,hp,o⟩;refine GI hw (λxc=>?_) (λhg w1 J hc=>?_)
    ·simp(disch:=omega)only[kO,jU,Nat.reduceLT,aQ,aM,bN,aD,aG,aC,aA,Nat.reduceAdd,cJ,reduceCtorEq];exact hK (-1) _ (by omega) o
    ·have hy:pos<3:=hg;have hd:Utf8.decode (ofL qO) pos=((qO.getD pos 0).toNat,1)/\(qO.getD pos 0).toNat<128:=by
      have:(qO.getD pos 0).toNat<128:=by
       rcases(show pos=0\/pos=1\/pos=2 by omega)with rfl|rfl|rfl<;>decide
      exact⟨(Ey qO pos hg).1 this,this⟩
     have j:¬(((Utf8.decode (ofL qO) pos).1:Nat):Int)=65533:=by rw[hd.1];have:=hd.2;simp only;omega
     simp(disch:=omega)only[kO,jU,Nat.reduceLT,aQ,aM,bN,aD,aG,aC,aA,Nat.reduceAdd,cJ,reduceCtorEq,cM j];have ho:Ext w w1:=Chg.then o hc λk hk e=>by omega
     rw[hd.1]at J;refine⟨⟨_,J,by simp only;omega,ho⟩,?_⟩;rw[J,hw];simp only;omega
  ·refine kX (args:=#[.int .i32 c]) Tryz.call215 ((Tryz.utf8_ValidRune c w).mono ?_);rintro e w' ⟨rfl,rfl⟩;have hq:Lib.validRune c=true:=by simp only[Lib.validRune,fD];omega
   refine⟨_,rfl,?_⟩;rw[hq];obtain⟨l,hl,xe,xd,b,hb,U⟩:=KP (show 128<=c by omega) hv;simp(disch:=omega)only[kO,jU,Nat.reduceLT,aQ,aM,bN,aD,aG,aC,aA,Nat.reduceAdd,cJ,reduceCtorEq,QR,hl];rw[fE (by omega) (by omega)];refine eJ.go (λs w''=>s=[i64 ((l.length:Int)-1)]/\w''=w') (λ_ _=>0) ⟨rfl,rfl⟩ ?_;rintro s g w'' ⟨rfl,rfl⟩;simp(disch:=omega)only[kO,jU,Nat.reduceLT,aQ,aM,bN,aD,aG,aC,aA,Nat.reduceAdd,cJ,reduceCtorEq,bA,show qO.length=3 from rfl];refine⟨λh3=>?_,λ_=>hK (-1) _ (by omega) (Chg.refl _ _)⟩;refine cX.cut (λ_ _=>False) ?_ (λ_ _ _ h=>h.elim);have hi:((l.length:Int)-1).toNat=l.length-1:=by omega
   have hh:l.length=2\/l.length=3:=by omega
   have hbyte:∀x:UInt8,x.toNat<128->¬((x.toNat:Int)=b.toNat):=λx o e=>by omega
   have hd:∀k,Lib.indexByte (qO.drop k) b=-1:=λk=>MO _ b (λx o=>by
    have o:=List.mem_of_mem_drop o;simp only[qO,aX,bQ,fF]at o;rcases o with rfl|rfl|rfl<;>decide) U
   have hr:((b.toNat:Int)).toNat.toUInt8=b:=by simp
   have fin:∀(x:UInt8) (k:Nat),x.toNat<128->k<=3->(¬((x.toNat:Int)=b.toNat)->aI P0 104 [str (qO.drop k),.int .u8 b.toNat] w''.drew.drew λt41 w12=>
     aU BinOp.lss t41 (Value.int IntKind.i64 0) λt43=>bB t43 (K (Value.int IntKind.i64 (-1)) w12) (aU BinOp.add t41 (Value.int IntKind.i64 1) λt46=>aU BinOp.add (i64 ((l.length:Int)-1)) t46 λt47=>False)):=by
    intro x k _ _ _;refine Cz ?_;rw[hr,hd k];simp(disch:=omega)only[kO,jU,Nat.reduceLT,aQ,aM,bN,aD,aG,aC,aA,Nat.reduceAdd,cJ,reduceCtorEq,bA];exact⟨λ_=>hK (-1) _ (by omega) (by repeat (first|assumption|exact Chg.refl _ _|refine Chg.drew ?_|refine Chg.alloc ?_ _|refine Chg.set ?_ (by first|exact .inl rfl|exact .inr (by omega)|exact .inr (by simp only[dH,size_alloc,size_drew];omega)|(left;simp;done)) _|exact Chg.of_ext (by assumption))),λh=>absurd (by decide) h⟩
   simp only[hi,hb];rcases hh with h2|h2
   ·simp only[h2]at*
    refine⟨by omega,10,rfl,by omega,b,rfl,λj=>?_,λh=>h (hbyte 10 (by decide))⟩;simp(disch:=omega)only[kO,jU,Nat.reduceLT,aQ,aM,bN,aD,aG,aC,aA,Nat.reduceAdd,cJ,reduceCtorEq];rw[show IntKind.i64.wrap (((2:Nat):Int)-1+1)=2 from by decide];exact⟨by decide,by decide,by decide,fin 10 2 (by decide) (by omega) j⟩
   ·simp only[h2]at*
    refine⟨by omega,32,rfl,by omega,b,rfl,λj=>?_,λh=>h (hbyte 32 (by decide))⟩;simp(disch:=omega)only[kO,jU,Nat.reduceLT,aQ,aM,bN,aD,aG,aC,aA,Nat.reduceAdd,cJ,reduceCtorEq];rw[show IntKind.i64.wrap (((3:Nat):Int)-1+1)=3 from by decide];exact⟨by decide,by decide,by decide,fin 32 3 (by decide) (by omega) j⟩
theorem Kx[HX]{l:Str}{K:Q0}(hl:l.length<=1000000)(hK:∀r:Int,∀w',(0<=r↔l.any Vfs.badB=true)->Ext w w'->K (i64 r) w'):aI P0 145 [str l,str qO] w K:=by
 by_cases h8:8<l.length
 ·refine kX (args:=#[str l,str qO]) Tryz.call145 ((Tryz.strings_IndexAny_long (by intro w;kernel_rfl) (ofL l) (ofL qO) w (by rw[jG];decide) (by rw[jG];exact h8) (by rw[jG];omega) (by rw[jG];decide) ?_).mono ?_)
  ·intro j b hb;rw[iP]at hb;have hm:=bI hb;simp only[qO,aX,bQ,fF]at hm;rcases hm with rfl|rfl|rfl<;>decide
  ·rintro e w' ⟨rfl,rfl⟩;rw[iP,iP];refine⟨_,rfl,hK _ _ ?_ (by repeat (first|assumption|exact Chg.refl _ _|refine Chg.drew ?_|refine Chg.alloc ?_ _|refine Chg.set ?_ (by first|exact .inl rfl|exact .inr (by omega)|exact .inr (by simp only[dH,size_alloc,size_drew];omega)|(left;simp;done)) _|exact Chg.of_ext (by assumption)))⟩;have key:∀m:Str,0<=Lib.indexAny m qO↔m.any Vfs.badB=true:=by
    intro m;induction m with
    |nil=>simp[Lib.indexAny]
    |cons x m ih=>
     have hx:qO.contains x=Vfs.badB x:=by simp[qO,Vfs.badB,Bool.or_assoc,BN]
     simp only[Lib.indexAny,hx,List.any_cons];cases hb:Vfs.badB x with
     |true=>simp
     |false=>
      have xk:=Lib.indexAny_ge qO m;simp only[oH,rN,cS,<-ih];by_cases h1:Lib.indexAny m qO=-1
      ·simp[h1]
      ·rw[aJ (by simpa using h1)];omega
   exact key l
 ·refine Sz ?_;unfold YV;simp(disch:=omega)only[kO,jU,Nat.reduceLT,aQ,aM,bN,aD,aG,aC,aA,Nat.reduceAdd,cJ,reduceCtorEq,show(qO=[])=False from by simp[qO],show qO.length=3 from rfl,show(((3:Nat):Int)=1)=False from by decide];refine cX.go ?_;refine kX (args:=#[i64 l.length]) Tryz.call190 ((Tryz.strings_shouldUseASCIISet l.length w).mono ?_);rintro e w' ⟨rfl,rfl⟩;refine⟨_,rfl,?_⟩;rw[cM (show¬(8<(l.length:Int))by omega)];simp(disch:=omega)only[kO,jU,Nat.reduceLT,aQ,aM,bN,aD,aG,aC,aA,Nat.reduceAdd,cJ,reduceCtorEq];intro _;refine DU (by kernel_rfl) ?_;refine eJ.go (λ_ w1=>∃pos,w1.heap[w'.heap.size]?=some (.stringIter (ofL l) pos)/\pos<=l.length/\Ext w' w1/\(l.take pos).any Vfs.badB=false)
   (λ_ w1=>match w1.heap[w'.heap.size]? with|some (.stringIter _ pos)=>l.length-pos|_=>0) ?_ ?_
  ·exact⟨0,jY _ _ _ rfl,by omega,(by repeat (first|assumption|exact Chg.refl _ _|refine Chg.drew ?_|refine Chg.alloc ?_ _|refine Chg.set ?_ (by first|exact .inl rfl|exact .inr (by omega)|exact .inr (by simp only[dH,size_alloc,size_drew];omega)|(left;simp;done)) _|exact Chg.of_ext (by assumption))),rfl⟩
  ·rintro s g w1 ⟨pos,hw,hp,hx,o⟩;refine GI hw (λJ=>?_) (λI w2 ho hc=>?_)
   ·simp(disch:=omega)only[kO,jU,Nat.reduceLT,aQ,aM,bN,aD,aG,aC,aA,Nat.reduceAdd,cJ,reduceCtorEq];rw[iJ J]at o;exact hK (-1) _ (by simp[o]) hx
   ·have xa:Ext w' w2:=Chg.then hx hc λk U e=>by omega
    obtain⟨f1,f2⟩:=Ey l pos I;have hq:l[pos]?=some (l.getD pos 0):=by simp[I]
    simp(disch:=omega)only[kO,jU,Nat.reduceLT,aQ,aM,bN,aD,aG,aC,aA,Nat.reduceAdd,cJ,reduceCtorEq];have xd:(((Utf8.decode (ofL l) pos).1:Nat):Int)<55296\/(57344<=(((Utf8.decode (ofL l) pos).1:Nat):Int)/\(((Utf8.decode (ofL l) pos).1:Nat):Int)<=1114111):=by
     by_cases h:(l.getD pos 0).toNat<128
     ·rw[f1 h];simp only;omega
     ·have:=(f2 (by omega)).2.1;omega
    refine IA (by omega) xd λr w3 hr hi=>?_;simp(disch:=omega)only[kO,jU,Nat.reduceLT,aQ,aM,bN,aD,aG,aC,aA,Nat.reduceAdd,cJ,reduceCtorEq,bA];have hs:(((Utf8.decode (ofL l) pos).1:Nat):Int)=0\/(((Utf8.decode (ofL l) pos).1:Nat):Int)=10\/(((Utf8.decode (ofL l) pos).1:Nat):Int)=32->Vfs.badB (l.getD pos 0)=true:=by
     intro h;by_cases h1:(l.getD pos 0).toNat<128
     ·rw[f1 h1]at h;simp only at h;generalize l.getD pos 0=x at*
      have:∀y:UInt8,x.toNat=y.toNat->x=y:=λy e=>lT.1 e;rcases h with h|h|h
      ·rw[this 0 (by simp;omega)];rfl
      ·rw[this 10 (by simp;omega)];rfl
      ·rw[this 32 (by simp;omega)];rfl
     ·have:=(f2 (by omega)).1;omega
    have hh:Ext w' w3:=xa.trans hi;refine⟨λh0=>hK pos _ ?_ hh,λh0=>?_⟩
    ·refine⟨λ_=>?_,λ_=>by omega⟩;exact mA.2 ⟨_,bI hq,hs (hr.1 h0)⟩
    ·have J:pos+(Utf8.decode (ofL l) pos).2<=l.length/\1<=(Utf8.decode (ofL l) pos).2/\(l.take (pos+(Utf8.decode (ofL l) pos).2)).any Vfs.badB=false:=by
      by_cases h1:(l.getD pos 0).toNat<128
      ·rw[f1 h1]at hr⊢;simp only at hr⊢;refine⟨by omega,by omega,?_⟩;rw[List.take_succ_eq_append_getElem I,List.any_append,o];have hz:l[pos]=l.getD pos 0:=by simp[I]
       simp only[List.any_cons,List.any_nil,dR,cS,hz];generalize l.getD pos 0=x at*
       cases hb:Vfs.badB x with
       |false=>rfl
       |true=>
        exfalso;simp only[Vfs.badB,fS,gR]at hb;refine h0 (hr.2 ?_);rcases hb with(rfl|rfl)|rfl
        ·exact .inl rfl
        ·exact .inr (.inl rfl)
        ·exact .inr (.inr rfl)
      ·obtain⟨_,_,g1,g2,g3⟩:=f2 (by omega);refine⟨g2,g1,?_⟩;rw[yG];intro y hy;obtain⟨k,U⟩:=List.getElem?_of_mem hy;rw[List.getElem?_take]at U;split at U
       ·rename_i xc;by_cases xb:k<pos
        ·have:=yG.1 o y (bI (i:=k) (by rw[List.getElem?_take,aO xb];exact U));exact this
        ·have h5:=g3 k (by omega) xc;have h6:l.getD k 0=y:=by simp[U]
         rw[h6]at h5;intro hb;simp only[Vfs.badB,fS,gR]at hb;rcases hb with(rfl|rfl)|rfl<;>simp at h5
       ·cases U
     have hj:w3.heap[w'.heap.size]?=some (.stringIter (ofL l) (pos+(Utf8.decode (ofL l) pos).2)):=by
      rw[hi.heap _ (Array.getElem?_eq_some_iff.1 ho).1 id];exact ho
     refine⟨⟨_,hj,J.1,hh,J.2.2⟩,?_⟩;rw[hj,hw];simp only;omega
theorem FC[HX]{l:Str}{K:Q0}(hl:l.length<=1000000)(I:∀w',Ext w w'->K (.bool (l.any Vfs.badB)) w'):aI P0 101 [str l,str qO] w K:=by
 refine Tj ?_;unfold Zz;refine Kx hl λr w' j o=>?_;simp(disch:=omega)only[kO,jU,Nat.reduceLT,aQ,aM,bN,aD,aG,aC,aA,Nat.reduceAdd,cJ,reduceCtorEq];have:decide (0<=r)=l.any Vfs.badB:=by
  cases hb:l.any Vfs.badB with
  |true=>exact bK (j.2 hb)
  |false=>exact cM λh=>by rw[j.1 h]at hb;cases hb
 rw[this];exact I w' o
end
section
open Go Go.Eng Go.Vfs
variable{w:World}{K:Q0}{cs:List Value}{G:Nat->Prop}{T:TypeId}{i:Nat}{n:Nat}{v:Value}{w':World}{P:Program}{c:UInt8}{S:Nat->Prop}
abbrev sv(b:Bool):Int:=if b=true then 1 else 0
abbrev FT:TypeId:=133
abbrev UT:TypeId:=5
def vU(w:World)(v:Value)(x:MF):Prop:=
 ∃dp dc sp sc,v=.agg [.slice dp x.data.length dc,.slice sp x.safe.length sc,i64 (sv x.saved)].toArray/\Byt w UT (.slice dp x.data.length dc) x.data/\Byt w UT (.slice sp x.safe.length sc) x.safe
def Bt(w:World):Option Value->Option MF->Prop
 |none,none=>True
 |some v,some x=>vU w v x
 |_,_=>False
structure FsB(w:World)(b m:Nat)(s:MS):Prop where
 blk:w.heap[b]?=some (.cells #[.map (some m),i64 s.steps,i64 s.left,.bool s.dead] FT (0,0))
 fil:∃A,MapAt w m A/\A.length=s.files.length/\∀p,Bt w (kR A p) (lkM s.files p)
def Sep(w:World)(S:Nat->Prop):Prop:=∀k c fr,S k->w.heap[k]?≠some (.cells c UT fr)
theorem vU.chg{x:MF}(h:vU w v x)(o:Chg S w w')(j:Sep w S):vU w' v x:=by
 obtain⟨dp,dc,sp,sc,e,J,I⟩:=h;exact⟨dp,dc,sp,sc,e,J.chg o j,I.chg o j⟩
theorem Bt.chg{v:Option Value}{x:Option MF}(h:Bt w v x)(o:Chg S w w')(j:Sep w S):Bt w' v x:=by
 cases v<;>cases x<;>first|exact h|exact vU.chg h o j
theorem FsB.lt{b m:Nat}{s:MS}(h:FsB w b m s):b<w.heap.size:=(Array.getElem?_eq_some_iff.1 h.blk).1
theorem FsB.mlt{b m:Nat}{s:MS}(h:FsB w b m s):m<w.heap.size:=by obtain⟨A,j,_⟩:=h.fil;exact j.lt
theorem FsB.ne{b m:Nat}{s:MS}(h:FsB w b m s):m≠b:=by obtain⟨A,j,_⟩:=h.fil;exact j.ne h.blk
theorem FsB.chg{b m:Nat}{s:MS}(h:FsB w b m s)(j:Chg S w w')(hb:¬S b)(I:¬S m)(o:Sep w S):FsB w' b m s:=by
 obtain⟨A,J,hl,hf⟩:=h.fil;exact⟨by rw[j.heap b h.lt hb];exact h.blk,A,J.chg j I,hl,λp=>(hf p).chg j o⟩
theorem Sep.none(w:World):Sep w (λ_=>False):=λ_ _ _ h=>h.elim
theorem FsB.ext{b m:Nat}{s:MS}(h:FsB w b m s)(j:Ext w w'):FsB w' b m s:=h.chg j id id (Sep.none w)
theorem FsB.sep{b m:Nat}{s:MS}(h:FsB w b m s):Sep w (λk=>k=b\/k=m):=by
 rintro k c fr (rfl|rfl) e
 ·rw[h.blk]at e;cases e
 ·obtain⟨A,⟨es,cl,j,_⟩,_⟩:=h.fil;rw[j]at e;cases e
theorem Byt.mut{b m:Nat}{s:MS}{l:Str}(h:Byt w T v l)(hf:FsB w b m s)(U:Chg (λk=>k=b\/k=m) w w'):Byt w' T v l:=by
 obtain⟨p,cap,I,h1,h2,h3⟩:=h;refine⟨p,cap,I,h1,h2,λj=>?_⟩;obtain⟨k,off,c,fr,e1,e2,e3⟩:=h3 j;have J:¬(k=b\/k=m):=by
  rintro(e|e)
  ·have hb:=hf.blk;rw[<-e,e2]at hb;cases hb;cases l with
   |nil=>exact j rfl
   |cons x r=>
    have:=e3 0 (by simp[u8s]);rw[Bz]at this;simp only[cN,List.getElem?_cons_zero,aG]at this;rcases off with _|_|_|_|off<;>simp at this
  ·obtain⟨A,⟨es,cl,o,_⟩,_⟩:=hf.fil;rw[<-e,e2]at o;cases o
 exact⟨k,off,c,fr,e1,by rw[U.heap k (Array.getElem?_eq_some_iff.1 e2).1 J];exact e2,e3⟩
abbrev zf:Value:=.agg [.slice none 0 0,.slice none 0 0,i64 0].toArray
abbrev df(o:Option MF):MF:=o.getD ⟨[],[],false⟩
theorem Xb(w:World):vU w zf ⟨[],[],false⟩:=⟨none,0,none,0,rfl,gD.nil _ _,gD.nil _ _⟩
theorem Bt.get{v:Option Value}{x:Option MF}(h:Bt w v x):vU w (v.getD zf) (df x)/\v.isSome=x.isSome:=by
 cases v<;>cases x<;>first|exact h.elim|exact⟨Xb w,rfl⟩|exact⟨h,rfl⟩
theorem Bc{m:Nat}{A:List (Str×Value)}{p:Str}{ok:Bool}{K:Value->Prop}(h:MapAt w m A):
  oU P0 (Instr.lookup 131 (.map (some m)) (str p) ok) w K↔K (bif ok then .tuple #[(kR A p).getD zf,.bool (kR A p).isSome]else(kR A p).getD zf):=
 Eg (kt:=9) (et:=130) (by kernel_rfl) (by kernel_rfl) (z:=zf) (λw=>by kernel_rfl) h
theorem Fo{b m:Nat}{s:MS}{p:Str}{K:Value->Prop}(h:FsB w b m s)(j:∀v,vU w v (df (lkM s.files p))->K (.tuple [v,.bool (lkM s.files p).isSome].toArray)):
  oU P0 (Instr.lookup 131 (.map (some m)) (str p) true) w K:=by
 obtain⟨A,o,_,hf⟩:=h.fil;have:=(hf p).get;rw[Bc o,aQ,this.2];exact j _ this.1
theorem Ms{b m:Nat}{s:MS}{p:Str}{K:Value->Prop}(h:FsB w b m s)(j:∀v,vU w v (df (lkM s.files p))->K v):
  oU P0 (Instr.lookup 131 (.map (some m)) (str p) false) w K:=by
 obtain⟨A,o,_,hf⟩:=h.fil;have:=(hf p).get;rw[Bc o];exact j _ this.1
theorem Vt{b m:Nat}{s:MS}{K:Value->Prop}{ty:TypeId}(h:FsB w b m s)(j:K (i64 s.files.length)):oU P0 (Builtin.len_ #[131] ty #[.map (some m)]) w K:=by
 obtain⟨A,o,hl,_⟩:=h.fil;rw[Vu (kt:=9) (et:=130) (by kernel_rfl) o,hl];exact j
theorem Lc{A:List (Str×Value)}{x y:Str}:kR (yD A x v) y=if y=x then some v else kR A y:=by
 induction A with
 |nil=>
  simp only[yD,kR];by_cases h:x=y
  ·simp[h]
  ·rw[aJ h,aJ (jS h)]
 |cons p r ih=>
  obtain⟨k,u⟩:=p;simp only[yD];by_cases h:k=x
  ·rw[aO h];simp only[kR];subst h;by_cases j:k=y
   ·simp[j]
   ·rw[aJ j,aJ (jS j),aJ j]
  ·rw[aJ h];simp only[kR,ih];by_cases j:k=y
   ·subst j;simp[h]
   ·rw[aJ j,aJ j]
theorem Ld{A:List (Str×Value)}{x y:Str}(I:(A.map (·.1)).Nodup):kR (vH A x) y=if y=x then none else kR A y:=by
 induction A with
 |nil=>simp[vH,kR]
 |cons p r ih=>
  obtain⟨k,u⟩:=p;have o:=(dB.1 I);simp only[vH];by_cases h:k=x
  ·subst h;rw[aO rfl];simp only[kR];by_cases j:k=y
   ·subst j;rw[aO rfl,Dj];exact o.1
   ·rw[aJ j,aJ (jS j)]
  ·rw[aJ h];simp only[kR,ih o.2];by_cases j:k=y
   ·subst j;simp[h]
   ·rw[aJ j,aJ j]
theorem Di{A:List (Str×Value)}{x:Str}:(kR A x).isSome=true↔x∈A.map (·.1):=by
 have:=Dj (A:=A) (x:=x);cases h:kR A x with
 |none=>simp[this.1 h]
 |some v=>rw[h]at this;simp only[bY,true_iff];exact jA λj=>by cases this.2 j
theorem Nu{A:List (Str×Value)}{x:Str}:(yD A x v).length=if(kR A x).isSome=true then A.length else A.length+1:=by
 have h:=congrArg List.length (EH (A:=A) (x:=x) (v:=v));rw[kN]at h;rw[h];by_cases j:x∈A.map (·.1)
 ·rw[aO j,aO (Di.2 j),kN]
 ·rw[aJ j,aJ (λe=>j (Di.1 e))];simp
theorem Nx{A:List (Str×Value)}{x:Str}:(vH A x).length=if(kR A x).isSome=true then A.length-1 else A.length:=by
 induction A with
 |nil=>simp[vH,kR]
 |cons p r ih=>
  obtain⟨k,u⟩:=p;by_cases h:k=x
  ·simp[vH,kR,h]
  ·have e1:vH ((k,u)::r) x=(k,u)::vH r x:=by simp[vH,h]
   have e2:kR ((k,u)::r) x=kR r x:=by simp[kR,h]
   rw[e1,e2,aB,ih];split
   ·rename_i j;have:r.length≠0:=λe=>by
     have:r=[]:=cK e;subst this;simp[kR]at j
    simp only[aB];omega
   ·rfl
theorem Ul{b m:Nat}{s:MS}{p:Str}{x:MF}{K:World->Prop}(h:FsB w b m s)(U:HF s.files)(J:vU w v x)
  (hK:∀w',FsB w' b m {s with files:=HL s.files p x}->Chg (λk=>k=b\/k=m) w w'->K w'):BX P0 (Instr.mapUpdate 131 (.map (some m)) (str p) v) w K:=by
 obtain⟨A,hA,hl,hf⟩:=h.fil;refine DC (kt:=9) (et:=130) (by kernel_rfl) (by kernel_rfl) hA λw' o I=>?_;have j:Chg (λk=>k=b\/k=m) w w':=I.mono λk _ e=>.inr e;refine hK w' ⟨by rw[I.heap b h.lt (jS h.ne)];exact h.blk,_,o,?_,λq=>?_⟩ j
 ·show _=(HL s.files p x).length;rw[Nu,IW U,hl,((hf p).get).2]
 ·show Bt _ _ (lkM (HL s.files p x) q);rw[Lc,Vp];split
  ·exact J.chg j h.sep
  ·exact(hf q).chg j h.sep
theorem VJ{b m:Nat}{s:MS}{p:Str}{K:Q0}{ty:TypeId}(h:FsB w b m s)(U:HF s.files)
  (hK:∀w',FsB w' b m {s with files:=wo s.files p}->Chg (λk=>k=b\/k=m) w w'->K (.tuple #[]) w'):fH P0 (Builtin.delete_ #[131,9] ty #[.map (some m),str p]) w K:=by
 obtain⟨A,J,hl,hf⟩:=h.fil;refine KR (kt:=9) (et:=130) (by kernel_rfl) (by kernel_rfl) J rfl λw' o I=>?_;have j:Chg (λk=>k=b\/k=m) w w':=I.mono λk _ e=>.inr e;refine hK w' ⟨by rw[I.heap b h.lt (jS h.ne)];exact h.blk,_,o,?_,λq=>?_⟩ j
 ·show _=(wo s.files p).length;rw[Nx,Ln U,hl,((hf p).get).2]
 ·show Bt _ _ (lkM (wo s.files p) q);rw[Ld J.nodup,Tu];split
  ·trivial
  ·exact(hf q).chg j h.sep
theorem Er[HX]{p:Str}{K:Q0}(j:∀w',Ext w w'->K (.bool (uX p)) w'):aI P0 54 [str p] w K:=by
 refine Wq ?_;unfold W54;by_cases I:1<=p.length
 ·by_cases o:p.length<=64
  ·have e1:decide ((1:Int)<=(p.length:Int))=true:=bK (by omega);have e2:decide ((p.length:Int)<=64)=true:=bK (by omega);simp(disch:=omega)only[kO,jU,Nat.reduceLT,aQ,aM,bN,aD,aG,aC,aA,Nat.reduceAdd,cJ,reduceCtorEq,e1,e2];refine GdW.t ?_;simp(disch:=omega)only[kO,jU,Nat.reduceLT,aQ,aM,bN,aD,aG,aC,aA,Nat.reduceAdd,cJ,reduceCtorEq,e2];intro g;refine GdW.t ?_;refine FC (by omega) λw' J=>?_;simp(disch:=omega)only[kO,jU,Nat.reduceLT,aQ,aM,bN,aD,aG,aC,aA,Nat.reduceAdd,cJ,reduceCtorEq];intro g;have:uX p=!p.any badB:=by simp[uX,I,o]
   rw[<-this];exact j w' J
  ·have e1:decide ((1:Int)<=(p.length:Int))=true:=bK (by omega);have e2:decide ((p.length:Int)<=64)=false:=cM (by omega);simp(disch:=omega)only[kO,jU,Nat.reduceLT,aQ,aM,bN,aD,aG,aC,aA,Nat.reduceAdd,cJ,reduceCtorEq,e1,e2];refine GdW.t ?_;simp(disch:=omega)only[kO,jU,Nat.reduceLT,aQ,aM,bN,aD,aG,aC,aA,Nat.reduceAdd,cJ,reduceCtorEq,e2];intro g;refine GdW.f λg=>?_
   (try simp(disch:=omega)only[kO,jU,Nat.reduceLT,aQ,aM,bN,aD,aG,aC,aA,Nat.reduceAdd,cJ,reduceCtorEq])
   have:uX p=false:=by simp[uX,o]
   rw[<-this];exact j w (Chg.refl _ _)
 ·have e1:decide ((1:Int)<=(p.length:Int))=false:=cM (by omega);simp(disch:=omega)only[kO,jU,Nat.reduceLT,aQ,aM,bN,aD,aG,aC,aA,Nat.reduceAdd,cJ,reduceCtorEq,e1];refine GdW.f λg=>?_
  (try simp(disch:=omega)only[kO,jU,Nat.reduceLT,aQ,aM,bN,aD,aG,aC,aA,Nat.reduceAdd,cJ,reduceCtorEq])
  refine GdW.f λg=>?_
  (try simp(disch:=omega)only[kO,jU,Nat.reduceLT,aQ,aM,bN,aD,aG,aC,aA,Nat.reduceAdd,cJ,reduceCtorEq])
  have:uX p=false:=by simp[uX,I]
  rw[<-this];exact j w (Chg.refl _ _)
theorem Jf[HX]{b m:Nat}{s:MS}{K:Q0}(h:FsB w b m s)
  (hK:∀w',FsB w' b m (iK s).1->Chg (λk=>k=b\/k=m) w w'->K (i64 (iK s).2) w'):aI P0 56 [.pointer (some ⟨b,0,none⟩)] w K:=by
 have hb:=h.blk;have o:∀e st lf d w',iK s=(⟨s.files,st,lf,d⟩,e)->w'.heap[b]?=some (.cells #[.map (some m),i64 st,i64 lf,.bool d] FT (0,0))->Chg (· =b) w w'->K (i64 e) w':=by
  intro e st lf d w' he j J;have:=hK w';rw[he]at this;obtain⟨A,hA,hl,hf⟩:=h.fil;have I:Chg (λk=>k=b\/k=m) w w':=J.mono λk _ e=>.inl e;exact this ⟨j,A,hA.chg J h.ne,hl,λp=>(hf p).chg I h.sep⟩ I
 clear hK h;obtain⟨fs,st,lf,d⟩:=s;refine Wo ?_;unfold W56;simp(disch:=omega)only[kO,jU,Nat.reduceLT,aQ,aM,bN,aD,aG,aC,aA,Nat.reduceAdd,cJ,reduceCtorEq,hb];refine GdW.meet [bif d then undef else .bool (decide (lf=0))] (λh=>?_) (λh=>?_) (λg=>?_)
 ·cases d<;>simp at h⊢
 ·cases d<;>simp at h⊢
 ·cases d with
  |true=>
   simp(disch:=omega)only[kO,jU,Nat.reduceLT,aQ,aM,bN,aD,aG,aC,aA,Nat.reduceAdd,cJ,reduceCtorEq,hb,eO];exact o 5 st lf true _ (by simp[iK]) (by simp(disch:=omega)only[kO,jU,Nat.reduceLT,aQ,aM,bN,aD,aG,aC,aA,Nat.reduceAdd,cJ,reduceCtorEq,hb]) (by repeat (first|assumption|exact Chg.refl _ _|refine Chg.drew ?_|refine Chg.alloc ?_ _|refine Chg.set ?_ (by first|exact .inl rfl|exact .inr (by omega)|exact .inr (by simp only[dH,size_alloc,size_drew];omega)|(left;simp;done)) _|exact Chg.of_ext (by assumption)))
  |false=>
   simp(disch:=omega)only[kO,jU,Nat.reduceLT,aQ,aM,bN,aD,aG,aC,aA,Nat.reduceAdd,cJ,reduceCtorEq,hb,eO,bA];refine⟨λh0=>?_,λh0=>?_⟩
   ·exact o 5 st lf true _ (by simp[iK,h0]) (by simp(disch:=omega)only[kO,jU,Nat.reduceLT,aQ,aM,bN,aD,aG,aC,aA,Nat.reduceAdd,cJ,reduceCtorEq,hb]) (by repeat (first|assumption|exact Chg.refl _ _|refine Chg.drew ?_|refine Chg.alloc ?_ _|refine Chg.set ?_ (by first|exact .inl rfl|exact .inr (by omega)|exact .inr (by simp only[dH,size_alloc,size_drew];omega)|(left;simp;done)) _|exact Chg.of_ext (by assumption)))
   ·refine cX.cut (λs w'=>w'.heap[b]?=some (.cells #[.map (some m),i64 st,i64 (if lf>0 then IntKind.i64.wrap (lf-1)else lf),.bool false] FT (0,0))/\Chg (· =b) w w') ?_ ?_
    ·refine⟨λU=>⟨?_,(by repeat (first|assumption|exact Chg.refl _ _|refine Chg.drew ?_|refine Chg.alloc ?_ _|refine Chg.set ?_ (by first|exact .inl rfl|exact .inr (by omega)|exact .inr (by simp only[dH,size_alloc,size_drew];omega)|(left;simp;done)) _|exact Chg.of_ext (by assumption)))⟩,λU=>⟨?_,Chg.refl _ _⟩⟩
     ·simp(disch:=omega)only[kO,jU,Nat.reduceLT,aQ,aM,bN,aD,aG,aC,aA,Nat.reduceAdd,cJ,reduceCtorEq,hb];rw[aO U]
     ·rw[hb,aJ U]
    ·rintro s g w' ⟨j,J⟩;simp(disch:=omega)only[kO,jU,Nat.reduceLT,aQ,aM,bN,aD,aG,aC,aA,Nat.reduceAdd,cJ,reduceCtorEq,j];exact o 0 (IntKind.i64.wrap (st+1)) (if lf>0 then IntKind.i64.wrap (lf-1)else lf) false _ (by simp[iK,h0]) (by simp(disch:=omega)only[kO,jU,Nat.reduceLT,aQ,aM,bN,aD,aG,aC,aA,Nat.reduceAdd,cJ,reduceCtorEq,j]) (by repeat (first|assumption|exact Chg.refl _ _|refine Chg.drew ?_|refine Chg.alloc ?_ _|refine Chg.set ?_ (by first|exact .inl rfl|exact .inr (by omega)|exact .inr (by simp only[dH,size_alloc,size_drew];omega)|(left;simp;done)) _|exact Chg.of_ext (by assumption)))
theorem vU.shape{x:MF}(h:vU w v x):∃dp dc sp sc,v=.agg [.slice dp x.data.length dc,.slice sp x.safe.length sc,i64 (sv x.saved)].toArray:=by
 obtain⟨dp,dc,sp,sc,e,_⟩:=h;exact⟨dp,dc,sp,sc,e⟩
theorem Oa[HX]{b m:Nat}{s:MS}{p:Str}{dv:Value}{data:Str}{K:Q0}(h:FsB w b m s)(hd:Byt w T dv data)
  (U:∀w',Ext w w'->K (.bool (decide ¬(data.length>65536\/(lkM s.files p=none/\64<=s.files.length)))) w'):aI P0 55 [.pointer (some ⟨b,0,none⟩),str p,dv] w K:=by
 have hb:=h.blk;refine Wp ?_;unfold W55;simp(disch:=omega)only[kO,jU,Nat.reduceLT,aQ,aM,bN,aD,aG,aC,aA,Nat.reduceAdd,cJ,reduceCtorEq,hb];refine Fo h λv hv=>?_;obtain⟨dp,dc,sp,sc,rfl⟩:=hv.shape;have hh:=λw' (j:Ext w w')=>gD.ext hd j;simp(disch:=omega)only[kO,jU,Nat.reduceLT,aQ,aM,bN,aD,aG,aC,aA,Nat.reduceAdd,cJ,reduceCtorEq,hb,jH hd];generalize o:(World.setCell _ _ _)=w1;have j:Ext w w1:=by subst o;exact(by repeat (first|assumption|exact Chg.refl _ _|refine Chg.drew ?_|refine Chg.alloc ?_ _|refine Chg.set ?_ (by first|exact .inl rfl|exact .inr (by omega)|exact .inr (by simp only[dH,size_alloc,size_drew];omega)|(left;simp;done)) _|exact Chg.of_ext (by assumption)))
 have h1:=h.ext j;have I:=h1.blk;clear o;by_cases c1:data.length<=65536
 ·have e1:decide ((data.length:Int)<=65536)=true:=bK (by omega);simp(disch:=omega)only[kO,jU,Nat.reduceLT,aQ,aM,bN,aD,aG,aC,aA,Nat.reduceAdd,cJ,reduceCtorEq,e1];refine GdW.t ?_;intro g
  (try simp(disch:=omega)only[kO,jU,Nat.reduceLT,aQ,aM,bN,aD,aG,aC,aA,Nat.reduceAdd,cJ,reduceCtorEq])
  cases c2:(lkM s.files p).isSome with
  |true=>
   (try simp(disch:=omega)only[kO,jU,Nat.reduceLT,aQ,aM,bN,aD,aG,aC,aA,Nat.reduceAdd,cJ,reduceCtorEq])
   refine GdW.f λg=>?_
   (try simp(disch:=omega)only[kO,jU,Nat.reduceLT,aQ,aM,bN,aD,aG,aC,aA,Nat.reduceAdd,cJ,reduceCtorEq])
   refine GdW.t ?_
   (try simp(disch:=omega)only[kO,jU,Nat.reduceLT,aQ,aM,bN,aD,aG,aC,aA,Nat.reduceAdd,cJ,reduceCtorEq])
   intro g
   (try simp(disch:=omega)only[kO,jU,Nat.reduceLT,aQ,aM,bN,aD,aG,aC,aA,Nat.reduceAdd,cJ,reduceCtorEq])
   have:(decide ¬(data.length>65536\/(lkM s.files p=none/\64<=s.files.length)))=true:=by
    refine bK ?_;rw[not_or];exact⟨by omega,λe=>by rw[e.1]at c2;cases c2⟩
   rw[<-this];exact U _ j
  |false=>
   (try simp(disch:=omega)only[kO,jU,Nat.reduceLT,aQ,aM,bN,aD,aG,aC,aA,Nat.reduceAdd,cJ,reduceCtorEq])
   refine GdW.t ?_
   (try simp(disch:=omega)only[kO,jU,Nat.reduceLT,aQ,aM,bN,aD,aG,aC,aA,Nat.reduceAdd,cJ,reduceCtorEq,I])
   refine Vt h1 ?_
   (try simp(disch:=omega)only[kO,jU,Nat.reduceLT,aQ,aM,bN,aD,aG,aC,aA,Nat.reduceAdd,cJ,reduceCtorEq,I])
   intro g
   (try simp(disch:=omega)only[kO,jU,Nat.reduceLT,aQ,aM,bN,aD,aG,aC,aA,Nat.reduceAdd,cJ,reduceCtorEq])
   refine GdW.t ?_
   (try simp(disch:=omega)only[kO,jU,Nat.reduceLT,aQ,aM,bN,aD,aG,aC,aA,Nat.reduceAdd,cJ,reduceCtorEq])
   intro g
   (try simp(disch:=omega)only[kO,jU,Nat.reduceLT,aQ,aM,bN,aD,aG,aC,aA,Nat.reduceAdd,cJ,reduceCtorEq])
   have:(decide ¬(data.length>65536\/(lkM s.files p=none/\64<=s.files.length)))=decide ((s.files.length:Int)<64):=by
    have J:lkM s.files p=none:=by cases j:lkM s.files p with
     |none=>rfl
     |some _=>rw[j]at c2;cases c2
    rw[decide_eq_decide,J];simp only[cZ];omega
   rw[<-this];exact U _ j
 ·have e1:decide ((data.length:Int)<=65536)=false:=cM (by omega);simp(disch:=omega)only[kO,jU,Nat.reduceLT,aQ,aM,bN,aD,aG,aC,aA,Nat.reduceAdd,cJ,reduceCtorEq,e1];refine GdW.f λg=>?_
  (try simp(disch:=omega)only[kO,jU,Nat.reduceLT,aQ,aM,bN,aD,aG,aC,aA,Nat.reduceAdd,cJ,reduceCtorEq])
  have ea:isB undef false=false:=rfl
  (try simp(disch:=omega)only[kO,jU,Nat.reduceLT,aQ,aM,bN,aD,aG,aC,aA,Nat.reduceAdd,cJ,reduceCtorEq,ea])
  refine GdW.f λg=>?_
  (try simp(disch:=omega)only[kO,jU,Nat.reduceLT,aQ,aM,bN,aD,aG,aC,aA,Nat.reduceAdd,cJ,reduceCtorEq])
  refine GdW.f λg=>?_
  (try simp(disch:=omega)only[kO,jU,Nat.reduceLT,aQ,aM,bN,aD,aG,aC,aA,Nat.reduceAdd,cJ,reduceCtorEq])
  have:(decide ¬(data.length>65536\/(lkM s.files p=none/\64<=s.files.length)))=false:=cM (λJ=>J (.inl (by omega)));rw[<-this];exact U _ j
theorem Ga{s:MS}(h:HF s.files):HF (iK s).1.files:=by rw[sH];exact h
theorem Vm[HX]{K:Q0}(o:∀b m w',FsB w' b m newM->Ext w w'->w.heap.size<=b->w.heap.size<=m->K (.pointer (some ⟨b,0,none⟩)) w'):aI P0 47 [] w K:=by
 refine Ww ?_;unfold W47;refine yX λj=>?_;simp(disch:=omega)only[kO,jU,Nat.reduceLT,aQ,aM,bN,aD,aG,aC,aA,Nat.reduceAdd,cJ,reduceCtorEq];refine o (w.heap.size+1) w.heap.size _ ?_ ?_ ?_ ?_
 ·refine⟨jY _ _ _ (by simp),[],j.chg (S:=λ_=>False) (by repeat (first|assumption|exact Chg.refl _ _|refine Chg.drew ?_|refine Chg.alloc ?_ _|refine Chg.set ?_ (by first|exact .inl rfl|exact .inr (by omega)|exact .inr (by simp only[dH,size_alloc,size_drew];omega)|(left;simp;done)) _|exact Chg.of_ext (by assumption))) id,rfl,λp=>trivial⟩
 ·exact(by repeat (first|assumption|exact Chg.refl _ _|refine Chg.drew ?_|refine Chg.alloc ?_ _|refine Chg.set ?_ (by first|exact .inl rfl|exact .inr (by omega)|exact .inr (by simp only[dH,size_alloc,size_drew];omega)|(left;simp;done)) _|exact Chg.of_ext (by assumption)))
 ·omega
 ·omega
theorem Lk[HX]{b m:Nat}{s:MS}{p:Str}{dv:Value}{data:Str}{K:Q0}(h:FsB w b m s)(hs:Ok s)(hd:Byt w T dv data)
  (U:∀w',FsB w' b m (writeM s p data false).1->Chg (λk=>k=b\/k=m) w w'->K (i64 (writeM s p data false).2) w'):aI P0 23 [.pointer (some ⟨b,0,none⟩),str p,dv] w K:=by
 refine WE ?_;unfold W23;refine Er λw1 hj=>?_;have h1:=h.ext hj;cases hg:uX p with
 |false=>
  simp(disch:=omega)only[kO,jU,Nat.reduceLT,aQ,aM,bN,aD,aG,aC,aA,Nat.reduceAdd,cJ,reduceCtorEq];have e:writeM s p data false=(s,6):=by simp[writeM,hg]
  rw[e]at U;exact U _ h1 (by repeat (first|assumption|exact Chg.refl _ _|refine Chg.drew ?_|refine Chg.alloc ?_ _|refine Chg.set ?_ (by first|exact .inl rfl|exact .inr (by omega)|exact .inr (by simp only[dH,size_alloc,size_drew];omega)|(left;simp;done)) _|exact Chg.of_ext (by assumption)))
 |true=>
  simp(disch:=omega)only[kO,jU,Nat.reduceLT,aQ,aM,bN,aD,aG,aC,aA,Nat.reduceAdd,cJ,reduceCtorEq];refine Oa h1 (gD.ext hd hj) λw2 xd=>?_;have hh:=hj.trans xd;have h2:=h.ext hh;by_cases hr:data.length>65536\/(lkM s.files p=none/\64<=s.files.length)
  ·have er:(decide ¬(data.length>65536\/(lkM s.files p=none/\64<=s.files.length)))=false:=cM (λhn=>hn hr);rw[er];simp(disch:=omega)only[kO,jU,Nat.reduceLT,aQ,aM,bN,aD,aG,aC,aA,Nat.reduceAdd,cJ,reduceCtorEq];have e:writeM s p data false=(s,3):=by unfold writeM;rw[aJ (by simp[hg]),aO hr]
   rw[e]at U;exact U _ h2 (by repeat (first|assumption|exact Chg.refl _ _|refine Chg.drew ?_|refine Chg.alloc ?_ _|refine Chg.set ?_ (by first|exact .inl rfl|exact .inr (by omega)|exact .inr (by simp only[dH,size_alloc,size_drew];omega)|(left;simp;done)) _|exact Chg.of_ext (by assumption)))
  ·have er:(decide ¬(data.length>65536\/(lkM s.files p=none/\64<=s.files.length)))=true:=bK hr;rw[er];simp(disch:=omega)only[kO,jU,Nat.reduceLT,aQ,aM,bN,aD,aG,aC,aA,Nat.reduceAdd,cJ,reduceCtorEq];refine Jf h2 λw3 h3 xk=>?_;have hc:Chg (λk=>k=b\/k=m) w w3:=Chg.then (S:=λk=>k=b\/k=m) (Chg.of_ext hh) xk λk _ e=>e;by_cases J:(iK s).2≠0
   ·have e:writeM s p data false=iK s:=by unfold writeM;rw[aJ (by simp[hg]),aJ hr,aJ (by simp),aO J]
    rw[e]at U;have:decide ((iK s).2≠0)=true:=bK J;simp only[eX,this,cU];exact U _ h3 hc
   ·have:decide ((iK s).2≠0)=false:=cM J;simp only[eX,this,bW];have e:writeM s p data false=({(iK s).1 with files:=HL s.files p ⟨data,((lkM s.files p).map (·.safe)).getD [],((lkM s.files p).map (·.saved)).getD false⟩},0):=by
     unfold writeM;rw[aJ (by simp[hg]),aJ hr,aJ (by simp),aJ J]
    rw[e]at U;have ho:=h3.blk;simp(disch:=omega)only[kO,jU,Nat.reduceLT,aQ,aM,bN,aD,aG,aC,aA,Nat.reduceAdd,cJ,reduceCtorEq,ho];refine Ms h3 λv hv=>?_;rw[sH]at hv;have xu:=hv;obtain⟨dp,dc,sp,sc,rfl,xt,xf⟩:=hv;simp(disch:=omega)only[kO,jU,Nat.reduceLT,aQ,aM,bN,aD,aG,aC,aA,Nat.reduceAdd,cJ,reduceCtorEq,ho];generalize hk:(World.setCell (World.setCell (World.setCell _ _ _) _ _) _ _)=w4;have hx:Ext w3 w4:=by subst hk;exact(by repeat (first|assumption|exact Chg.refl _ _|refine Chg.drew ?_|refine Chg.alloc ?_ _|refine Chg.set ?_ (by first|exact .inl rfl|exact .inr (by omega)|exact .inr (by simp only[dH,size_alloc,size_drew];omega)|(left;simp;done)) _|exact Chg.of_ext (by assumption)))
    have xi:Byt w4 T dv data:=gD.ext (Byt.mut hd h hc) hx;have xb:w4.heap[w3.heap.size]?=some (.cells #[.slice dp (df (lkM s.files p)).data.length dc,.slice sp (df (lkM s.files p)).safe.length sc,i64 (sv (df (lkM s.files p)).saved)] 130 (0,0)):=by
     subst hk;simp(disch:=omega)only[kO,jU,Nat.reduceLT,aQ,aM,bN,aD,aG,aC,aA,Nat.reduceAdd,cJ,reduceCtorEq,ho]
    clear hk;refine Bo xi (by omega) λv' w5 hz ht=>?_;obtain⟨cp,cc,rfl,_⟩:=hz.shape;have xh:w3.heap.size<w4.heap.size:=(Array.getElem?_eq_some_iff.1 xb).1;have j:w5.heap[w3.heap.size]?=_:=(ht.heap _ xh id).trans xb;have hy:=hx.trans ht;have h5:=h3.ext hy;have xm:=h5.blk;have xw:b≠w3.heap.size:=Nat.ne_of_lt h3.lt;simp(disch:=omega)only[kO,jU,Nat.reduceLT,aQ,aM,bN,aD,aG,aC,aA,Nat.reduceAdd,cJ,reduceCtorEq,xm,j];generalize I:(World.setCell _ _ _)=w6;have hi:Ext w3 w6:=by subst I;exact(by repeat (first|assumption|exact Chg.refl _ _|refine Chg.drew ?_|refine Chg.alloc ?_ _|refine Chg.set ?_ (by first|exact .inl rfl|exact .inr (by omega)|exact .inr (by simp only[dH,size_alloc,size_drew];omega)|(left;simp;done)) _|exact Chg.of_ext (by assumption)))
    have xn:w6.heap[w3.heap.size]?=some (.cells #[.slice cp data.length cc,.slice sp (df (lkM s.files p)).safe.length sc,i64 (sv (df (lkM s.files p)).saved)] 130 (0,0)):=by
     subst I;simp(disch:=omega)only[kO,jU,Nat.reduceLT,aQ,aM,bN,aD,aG,aC,aA,Nat.reduceAdd,cJ,reduceCtorEq,j]
    have xe:Byt w6 UT (.slice cp data.length cc) data:=by
     subst I;refine gD.chg (S:=λk=>k=w3.heap.size) hz (Chg.set (S:=λk=>k=w3.heap.size) (Chg.refl _ _) (.inl rfl) _) ?_;rintro k c fr rfl e;rw[j]at e;cases e
    have h6:=h3.ext hi;have xy:=h6.blk;clear I;have eS:((lkM s.files p).map (·.safe)).getD []=(df (lkM s.files p)).safe:=by cases lkM s.files p<;>rfl
    have eV:((lkM s.files p).map (·.saved)).getD false=(df (lkM s.files p)).saved:=by cases lkM s.files p<;>rfl
    rw[eS,eV]at U;have o:Ext w6 w6.drew:=(by repeat (first|assumption|exact Chg.refl _ _|refine Chg.drew ?_|refine Chg.alloc ?_ _|refine Chg.set ?_ (by first|exact .inl rfl|exact .inr (by omega)|exact .inr (by simp only[dH,size_alloc,size_drew];omega)|(left;simp;done)) _|exact Chg.of_ext (by assumption)));refine Ul (x:=⟨data,(df (lkM s.files p)).safe,(df (lkM s.files p)).saved⟩) (h6.ext o) (Ga hs.srt) ⟨cp,cc,sp,sc,rfl,gD.ext xe o,gD.ext xf (hi.trans o)⟩ λw8 h8 xj=>?_;rw[sH]at h8;refine U _ h8 (Chg.then (S:=λk=>k=b\/k=m) (Chg.then (S:=λk=>k=b\/k=m) hc (hi.trans o) λ_ _ e=>e.elim) xj λ_ _ e=>e)
theorem JU[HX]{b m:Nat}{s:MS}{w1:World}{KA KB:World->Prop}{e:Q0}(U:Ext w w1)(h:FsB w1 b m s)
  (hA:(iK s).2≠0->∀w',FsB w' b m (iK s).1->Chg (λk=>k=b\/k=m) w w'->e (i64 (iK s).2) w')
  (hB:(iK s).2=0->∀w',FsB w' b m (iK s).1->Chg (λk=>k=b\/k=m) w w'->Chg (λk=>k=b\/k=m) w1 w'->KB w'):
  aI P0 56 [.pointer (some ⟨b,0,none⟩)] w1 λt w'=>aU .neq t (.int .i64 0) λc=>bB c (e t w') (KB w'):=by
 refine Jf h λw3 J j=>?_;have I:Chg (λk=>k=b\/k=m) w w3:=Chg.then (S:=λk=>k=b\/k=m) (Chg.of_ext U) j λk _ e=>e;simp only[eX,bA];exact⟨λo=>hA o _ J I,λo=>hB (jA o) _ J I j⟩
theorem Kj[HX]{b m:Nat}{s:MS}{p:Str}{K:Q0}(h:FsB w b m s)(hs:Ok s)
  (j:∀w',FsB w' b m (removeM s p).1->Chg (λk=>k=b\/k=m) w w'->K (i64 (removeM s p).2) w'):aI P0 46 [.pointer (some ⟨b,0,none⟩),str p] w K:=by
 have hb:=h.blk;refine Wx ?_;unfold W46;simp(disch:=omega)only[kO,jU,Nat.reduceLT,aQ,aM,bN,aD,aG,aC,aA,Nat.reduceAdd,cJ,reduceCtorEq,hb];refine Fo h λv hv=>?_;obtain⟨dp,dc,sp,sc,rfl⟩:=hv.shape;simp(disch:=omega)only[kO,jU,Nat.reduceLT,aQ,aM,bN,aD,aG,aC,aA,Nat.reduceAdd,cJ,reduceCtorEq,hb];generalize o:(World.setCell _ _ _)=w1;have I:Ext w w1:=by subst o;exact(by repeat (first|assumption|exact Chg.refl _ _|refine Chg.drew ?_|refine Chg.alloc ?_ _|refine Chg.set ?_ (by first|exact .inl rfl|exact .inr (by omega)|exact .inr (by simp only[dH,size_alloc,size_drew];omega)|(left;simp;done)) _|exact Chg.of_ext (by assumption)))
 clear o;refine Er λw2 U=>?_;have I:=I.trans U;have h1:=h.ext I;unfold removeM at j;cases hg:uX p with
 |false=>
  simp(disch:=omega)only[kO,jU,Nat.reduceLT,aQ,aM,bN,aD,aG,aC,aA,Nat.reduceAdd,cJ,reduceCtorEq];rw[aO hg]at j;exact j _ h1 (by repeat (first|assumption|exact Chg.refl _ _|refine Chg.drew ?_|refine Chg.alloc ?_ _|refine Chg.set ?_ (by first|exact .inl rfl|exact .inr (by omega)|exact .inr (by simp only[dH,size_alloc,size_drew];omega)|(left;simp;done)) _|exact Chg.of_ext (by assumption)))
 |true=>
  simp(disch:=omega)only[kO,jU,Nat.reduceLT,aQ,aM,bN,aD,aG,aC,aA,Nat.reduceAdd,cJ,reduceCtorEq];rw[aJ (by simp[hg])]at j;cases hl:lkM s.files p with
  |none=>
   rw[hl]at j
   (try simp only[Option.isSome_none])
   simp(disch:=omega)only[kO,jU,Nat.reduceLT,aQ,aM,bN,aD,aG,aC,aA,Nat.reduceAdd,cJ,reduceCtorEq];exact j _ h1 (by repeat (first|assumption|exact Chg.refl _ _|refine Chg.drew ?_|refine Chg.alloc ?_ _|refine Chg.set ?_ (by first|exact .inl rfl|exact .inr (by omega)|exact .inr (by simp only[dH,size_alloc,size_drew];omega)|(left;simp;done)) _|exact Chg.of_ext (by assumption)))
  |some x=>
   rw[hl]at j
   (try simp only[bY])
   (try simp(disch:=omega)only[kO,jU,Nat.reduceLT,aQ,aM,bN,aD,aG,aC,aA,Nat.reduceAdd,cJ,reduceCtorEq])
   refine JU (KA:=λ_=>True) I h1 (λh0 w' J hc=>?_) (λh0 w' J hc hz=>?_)
   ·rw[show(if(iK s).2≠0 then iK s else({(iK s).1 with files:=wo s.files p},0))=iK s from aO h0]at j;exact j _ J hc
   ·simp only[h0,cJ,bZ,rN]at j;have hj:=J.blk;simp(disch:=omega)only[kO,jU,Nat.reduceLT,aQ,aM,bN,aD,aG,aC,aA,Nat.reduceAdd,cJ,reduceCtorEq,hj];refine VJ J (Ga hs.srt) λw4 h4 hh=>?_;rw[sH]at h4;exact j _ h4 (Chg.then (S:=λk=>k=b\/k=m) hc hh λ_ _ e=>e)
theorem read_fs[HX]{b m:Nat}{s:MS}{p:Str}{K:Q0}(h:FsB w b m s)(hs:Ok s)
  (hK:∀dv w',Byt w' UT dv (df (lkM s.files p)).data->Ext w w'->K (.tuple [dv,.bool (lkM s.files p).isSome].toArray) w'):aI P0 93 [.pointer (some ⟨b,0,none⟩),str p] w K:=by
 have hb:=h.blk;refine VW ?_;unfold W93;simp(disch:=omega)only[kO,jU,Nat.reduceLT,aQ,aM,bN,aD,aG,aC,aA,Nat.reduceAdd,cJ,reduceCtorEq,hb];refine Fo h λv hv=>?_;obtain⟨dp,dc,sp,sc,rfl,I,hc⟩:=hv;simp(disch:=omega)only[kO,jU,Nat.reduceLT,aQ,aM,bN,aD,aG,aC,aA,Nat.reduceAdd,cJ,reduceCtorEq,hb];generalize j:(World.setCell _ _ _)=w1;have U:Ext w w1:=by subst j;exact(by repeat (first|assumption|exact Chg.refl _ _|refine Chg.drew ?_|refine Chg.alloc ?_ _|refine Chg.set ?_ (by first|exact .inl rfl|exact .inr (by omega)|exact .inr (by simp only[dH,size_alloc,size_drew];omega)|(left;simp;done)) _|exact Chg.of_ext (by assumption)))
 clear j;refine Bo (I.ext U) ?_ λv' w' J o=>?_
 ·cases hl:lkM s.files p with
  |none=>simp
  |some x=>have:=(hs.each _ (lk_mem hl)).2.1;simp only[Option.getD_some]at this⊢;omega
 ·exact hK _ _ J (U.trans o)
end
end Go.Proofs.YtjblfcfdeaagpaaGreatDoor.Fx
namespace Go.Proofs
section
open Go.RowKit Go.Maps Go.Sort Go.Shelf
variable{w:World}{K:Q0}{cs:List Value}{G:Nat->Prop}{T:TypeId}{i:Nat}{n:Nat}{v:Value}{w':World}{P:Program}{c:UInt8}{S:Nat->Prop}
def Tryz.keys212_ren:Go.Shelf.Ren:=⟨λ|7=>212|10=>224|n=>n,λ|23=>252|26=>9|3=>3|28=>256|0=>0|27=>255|33=>44|4=>4|n=>n,λn=>n⟩
theorem Tryz.keys212:Go.Proofs.SlLaysZ.n7 P0 Tryz.keys212_ren:={
 mixed:=by kernel_rfl
 f7:=⟨Tryz.f212.name,dJ (by kernel_rfl),Tryz.func212.trans (congrArg some (by kernel_rfl))⟩
 f10:=⟨Tryz.f224.name,dJ (by kernel_rfl),Tryz.func224.trans (congrArg some (by kernel_rfl))⟩
 t0:=Tryz.underlying0
 a0:=Tryz.isAgg0
 z0:=Tryz.sizeOf0
 v0:=Tryz.zeroValue0
 t4:=Tryz.underlying4
 a4:=Tryz.isAgg4
 z4:=Tryz.sizeOf4
 v4:=Tryz.zeroValue4
 t23:=Tryz.underlying252
 a23:=Tryz.isAgg252
 z23:=Tryz.sizeOf252
 v23:=Tryz.zeroValue252
 t26:=Tryz.underlying9
 a26:=Tryz.isAgg9
 z26:=Tryz.sizeOf9
 v26:=Tryz.zeroValue9
 t27:=Tryz.underlying255
 a27:=Tryz.isAgg255
 z27:=Tryz.sizeOf255
 v27:=Tryz.zeroValue255
 t28:=Tryz.underlying256
 a28:=Tryz.isAgg256
 z28:=Tryz.sizeOf256
 v28:=Tryz.zeroValue256
 t33:=Tryz.underlying44
 a33:=Tryz.isAgg44
 z33:=Tryz.sizeOf44
 v33:=Tryz.zeroValue44}
def Tryz.sorted211_ren:Go.Shelf.Ren:=⟨λ|6=>211|8=>222|9=>223|11=>229|13=>231|12=>230|23=>254|24=>255|14=>245|15=>246|16=>247|17=>248|18=>249|19=>250|20=>251|21=>252|22=>253|25=>260|26=>261|27=>262|28=>263|29=>264|30=>265|31=>266|n=>n,λ|26=>9|28=>256|24=>33|0=>0|3=>3|37=>75|48=>224|50=>227|4=>4|40=>284|39=>283|45=>148|5=>5|9=>9|51=>292|55=>296|57=>298|58=>194|33=>44|n=>n,λn=>n⟩
theorem Tryz.sorted211:Go.Proofs.SlLaysZ.n6 P0 Tryz.sorted211_ren:={
 mixed:=by kernel_rfl
 f6:=⟨Tryz.f211.name,dJ (by kernel_rfl),Tryz.func211.trans (congrArg some (by kernel_rfl))⟩
 f8:=⟨Tryz.f222.name,dJ (by kernel_rfl),Tryz.func222.trans (congrArg some (by kernel_rfl))⟩
 f11:=⟨Tryz.f229.name,dJ (by kernel_rfl),Tryz.func229.trans (congrArg some (by kernel_rfl))⟩
 t0:=Tryz.underlying0
 a0:=Tryz.isAgg0
 z0:=Tryz.sizeOf0
 v0:=Tryz.zeroValue0
 t24:=Tryz.underlying33
 a24:=Tryz.isAgg33
 z24:=Tryz.sizeOf33
 v24:=Tryz.zeroValue33
 t26:=Tryz.underlying9
 a26:=Tryz.isAgg9
 z26:=Tryz.sizeOf9
 v26:=Tryz.zeroValue9
 t28:=Tryz.underlying256
 a28:=Tryz.isAgg256
 z28:=Tryz.sizeOf256
 v28:=Tryz.zeroValue256
 i26:=by kernel_rfl}
def Tryz.sort223_ren:Go.Shelf.Ren:=⟨λ|6=>223|8=>231|9=>230|19=>254|20=>255|21=>245|22=>246|23=>247|24=>248|25=>249|26=>250|27=>251|28=>252|29=>253|36=>260|31=>261|32=>262|37=>263|38=>264|39=>265|41=>266|n=>n,λ|27=>33|29=>9|3=>3|32=>75|26=>33|0=>0|44=>224|46=>227|4=>4|36=>284|35=>283|41=>148|5=>5|9=>9|53=>292|57=>296|63=>298|64=>194|n=>n,λn=>n⟩
theorem Tryz.sort223:Go.Proofs.SlLaysM.n6 P0 Tryz.sort223_ren:={
 mixed:=by kernel_rfl
 f6:=⟨Tryz.f223.name,dJ (by kernel_rfl),Tryz.func223.trans (congrArg some (by kernel_rfl))⟩
 f8:=Tryz.func231.trans (congrArg some (by kernel_rfl))
 f9:=⟨Tryz.f230.name,dJ (by kernel_rfl),Tryz.func230.trans (congrArg some (by kernel_rfl))⟩
 f19:=Tryz.func254.trans (congrArg some (by kernel_rfl))
 f20:=Tryz.func255.trans (congrArg some (by kernel_rfl))
 f21:=⟨Tryz.f245.name,dJ (by kernel_rfl),Tryz.func245.trans (congrArg some (by kernel_rfl))⟩
 f22:=⟨Tryz.f246.name,dJ (by kernel_rfl),Tryz.func246.trans (congrArg some (by kernel_rfl))⟩
 f23:=⟨Tryz.f247.name,dJ (by kernel_rfl),Tryz.func247.trans (congrArg some (by kernel_rfl))⟩
 f24:=⟨Tryz.f248.name,dJ (by kernel_rfl),Tryz.func248.trans (congrArg some (by kernel_rfl))⟩
 f25:=⟨Tryz.f249.name,dJ (by kernel_rfl),Tryz.func249.trans (congrArg some (by kernel_rfl))⟩
 f26:=⟨Tryz.f250.name,dJ (by kernel_rfl),Tryz.func250.trans (congrArg some (by kernel_rfl))⟩
 f27:=⟨Tryz.f251.name,dJ (by kernel_rfl),Tryz.func251.trans (congrArg some (by kernel_rfl))⟩
 f28:=⟨Tryz.f252.name,dJ (by kernel_rfl),Tryz.func252.trans (congrArg some (by kernel_rfl))⟩
 f29:=⟨Tryz.f253.name,dJ (by kernel_rfl),Tryz.func253.trans (congrArg some (by kernel_rfl))⟩
 f31:=Tryz.func261.trans (congrArg some (by kernel_rfl))
 f32:=Tryz.func262.trans (congrArg some (by kernel_rfl))
 f36:=⟨Tryz.f260.name,dJ (by kernel_rfl),Tryz.func260.trans (congrArg some (by kernel_rfl))⟩
 f37:=⟨Tryz.f263.name,dJ (by kernel_rfl),Tryz.func263.trans (congrArg some (by kernel_rfl))⟩
 f38:=⟨Tryz.f264.name,dJ (by kernel_rfl),Tryz.func264.trans (congrArg some (by kernel_rfl))⟩
 f39:=⟨Tryz.f265.name,dJ (by kernel_rfl),Tryz.func265.trans (congrArg some (by kernel_rfl))⟩
 f41:=⟨Tryz.f266.name,dJ (by kernel_rfl),Tryz.func266.trans (congrArg some (by kernel_rfl))⟩
 t0:=Tryz.underlying0
 a0:=Tryz.isAgg0
 z0:=Tryz.sizeOf0
 v0:=Tryz.zeroValue0
 t3:=Tryz.underlying3
 a3:=Tryz.isAgg3
 z3:=Tryz.sizeOf3
 v3:=Tryz.zeroValue3
 t4:=Tryz.underlying4
 a4:=Tryz.isAgg4
 z4:=Tryz.sizeOf4
 v4:=Tryz.zeroValue4
 t5:=Tryz.underlying5
 a5:=Tryz.isAgg5
 z5:=Tryz.sizeOf5
 v5:=Tryz.zeroValue5
 t9:=Tryz.underlying9
 a9:=Tryz.isAgg9
 z9:=Tryz.sizeOf9
 v9:=Tryz.zeroValue9
 t26:=Tryz.underlying33
 a26:=Tryz.isAgg33
 z26:=Tryz.sizeOf33
 v26:=Tryz.zeroValue33
 t27:=Tryz.underlying33
 a27:=Tryz.isAgg33
 z27:=Tryz.sizeOf33
 v27:=Tryz.zeroValue33
 t29:=Tryz.underlying9
 a29:=Tryz.isAgg9
 z29:=Tryz.sizeOf9
 v29:=Tryz.zeroValue9
 t32:=Tryz.underlying75
 a32:=Tryz.isAgg75
 z32:=Tryz.sizeOf75
 v32:=Tryz.zeroValue75
 t35:=Tryz.underlying283
 a35:=Tryz.isAgg283
 z35:=Tryz.sizeOf283
 v35:=Tryz.zeroValue283
 t36:=Tryz.underlying284
 a36:=Tryz.isAgg284
 z36:=Tryz.sizeOf284
 v36:=Tryz.zeroValue284
 t41:=Tryz.underlying148
 a41:=Tryz.isAgg148
 z41:=Tryz.sizeOf148
 v41:=Tryz.zeroValue148
 t44:=Tryz.underlying224
 a44:=Tryz.isAgg224
 z44:=Tryz.sizeOf224
 v44:=Tryz.zeroValue224
 t46:=Tryz.underlying227
 a46:=Tryz.isAgg227
 z46:=Tryz.sizeOf227
 v46:=Tryz.zeroValue227
 t53:=Tryz.underlying292
 a53:=Tryz.isAgg292
 z53:=Tryz.sizeOf292
 v53:=Tryz.zeroValue292
 t57:=Tryz.underlying296
 a57:=Tryz.isAgg296
 z57:=Tryz.sizeOf296
 v57:=Tryz.zeroValue296
 t63:=Tryz.underlying298
 a63:=Tryz.isAgg298
 z63:=Tryz.sizeOf298
 v63:=Tryz.zeroValue298
 t64:=Tryz.underlying194
 a64:=Tryz.isAgg194
 z64:=Tryz.sizeOf194
 v64:=Tryz.zeroValue194}
theorem Tryz.sorts211(m:Nat):AnyZ.SortsIn P0 Tryz.sorted211_ren Fence.wide m:=
 ⟨λblk off cap ss W I j o=>callsIn_wide.2 (AnyM.slices_Sort_string Tryz.sort223 blk off cap ss W I j o),
  λp cap W=>callsIn_wide.2 (AnyM.slices_Sort_string_none Tryz.sort223 p cap W)⟩
theorem Tryz.maps_Keys_212(mb:Option Nat)(W:World):CallsIn Fence.wide 5 P0 212 #[.map mb] W λe w'=>e=.returned (.func (.func 224) #[] #[.pointer (some ⟨W.heap.size,0,none⟩)])/\w'=W.alloc (.cells #[.map mb] 252):=
 AnyZ.keys_in Tryz.keys212 Fence.wide 5 trivial rfl mb W
set_option maxHeartbeats 1000000 in
theorem Tryz.slices_Sorted_keys_211_212{H:Type}(b nn:Nat)(D0:DataW H)(R:Value->Option (DataW H×List MemPlace))(w:World)(j:w.ownsMap P0 9 R b nn D0)(I:Maps.size D0<=maxLen)(hbytes:Maps.size D0*16<=140737488355328):
  CallsIn Fence.wide 5 P0 211 #[.func (.func 224) #[] #[.pointer (some ⟨w.heap.size,0,none⟩)]] (w.alloc (.cells #[.map (some b)] 252)) λe w'=>∃(v:Value) (ss:List (List UInt8)),e=.returned v/\ss.Perm (strKeys D0)/\
   w'.ownsRow (w.alloc (.cells #[.map (some b)] 252)).heap.size 9 1 v ss.length ((ss.mergeSort (λx y=>decide (x<=y))).map encStr)/\(v=.slice none 0 0↔ss=[])/\Below (w.alloc (.cells #[.map (some b)] 252)).heap.size (w.alloc (.cells #[.map (some b)] 252)) w':=by
 have J:=j.lt;have o:SeqGives Fence.wide 2 P0 224 #[.pointer (some ⟨w.heap.size,0,none⟩)] encStr (λss=>ss.Perm (strKeys D0)) (Maps.size D0) (w.alloc (.cells #[.map (some b)] 252)):=
  AnyZ.keys_gives (ρ:=Tryz.keys212_ren) {Tryz.keys212 with} Fence.wide _ trivial rfl (by omega) w.heap.size b nn D0 _ (by simp) (by simp) (by
   obtain⟨es,clock,hb,Ft,U,hD⟩:=j;exact⟨es,clock,(Below.heap_alloc _ _ b J).trans hb,Ft,U,hD⟩)
 exact AnyZ.sorted_in Tryz.sorted211 Fence.wide 5 trivial trivial trivial trivial rfl (by omega) (Tryz.sorts211 _) (enters_of Tryz.func223 (by kernel_rfl) rfl) 224 #[.pointer (some ⟨w.heap.size,0,none⟩)] trivial (enters_of Tryz.func224 (by kernel_rfl) rfl) _ _ I hbytes _ o
end
end Go.Proofs
namespace Go.Proofs.YtjblfcfdeaagpaaGreatDoor.Fx
section
open Go Go.Eng Go.Vfs Go.Maps
variable{w:World}{K:Q0}{cs:List Value}{G:Nat->Prop}{T:TypeId}{i:Nat}{n:Nat}{v:Value}{w':World}{P:Program}{c:UInt8}{S:Nat->Prop}
def HD:Value->Option (DataW Unit×List MemPlace):=λ_=>some (.nil,[])
theorem owns_of_map{m:Nat}{A:List (Str×Value)}(h:MapAt w m A)(hl:∀x∈A.map (·.1),x.length<=maxLen)(hs:A.length<=maxLen):
  ∃D:DataW Unit,w.ownsMap P0 9 HD m A.length D/\(strKeys D).Perm (A.map (·.1))/\Maps.size D=A.length:=by
 obtain⟨es,clock,hb,he,hn,hborn,U⟩:=h;have j:es.toList.length=A.length:=by simpa using congrArg List.length he
 have hkeys:es.toList.map (·.key)=A.map (λp=>str p.1):=by
  have:=congrArg (List.map Prod.fst) he;simpa[yF,Function.comp_def]using this
 have I:∀x∈es.toList,∃l:Str,x.key=str l/\l∈A.map (·.1)/\WideElems.rd P0 9 HD x=some (.string l,.nil):=by
  intro x o;have:x.key∈A.map (λp=>str p.1):=by rw[<-hkeys];exact List.mem_map_of_mem o
  obtain⟨p,hp,e⟩:=lQ.1 this;have hm:p.1∈A.map (·.1):=List.mem_map_of_mem hp;refine⟨p.1,e.symm,hm,?_⟩;have J:=WideMaps.keyOf_string_mk (P:=P0) (k:=9) (by kernel_rfl) (s:=ofL p.1) (by rw[jG];exact hl _ hm);rw[iP]at J;unfold WideElems.rd;rw[<-e,J];rfl
 have hj:es.size=A.length:=by simpa using j
 refine⟨.map ((es.toList.map (WideElems.rg P0 9 HD)).foldr DataW.insert []),⟨es,clock,hb,⟨by omega,⟨U,hborn,?_⟩,λx o=>?_⟩,by omega,rfl⟩,?_,?_⟩
 ·rw[hkeys];have:(A.map (λp=>str p.1))=(A.map (·.1)).map str:=by rw[yF];rfl
  rw[this];refine List.Pairwise.map _ (λa b hc e=>hc ?_) hn;exact Jd.1 e
 ·obtain⟨l,_,_,hl⟩:=I x o;exact⟨_,hl⟩
 ·show(((es.toList.map (WideElems.rg P0 9 HD)).foldr DataW.insert []).map λp=>strOf p.1).Perm _;refine((WideShapes.sorted_perm _).map _).trans ?_;rw[yF];have:es.toList.map ((λp:Lit×DataW Unit=>strOf p.1)∘WideElems.rg P0 9 HD)=A.map (·.1):=by
   have h2:(es.toList.map ((λp:Lit×DataW Unit=>strOf p.1)∘WideElems.rg P0 9 HD)).map str=(A.map (·.1)).map str:=by
    rw[yF,yF];have h3:es.toList.map (str∘((λp:Lit×DataW Unit=>strOf p.1)∘WideElems.rg P0 9 HD))=es.toList.map (·.key):=by
     refine List.map_congr_left λx o=>?_;obtain⟨l,h1,_,h3⟩:=I x o;simp only[Function.comp_apply,WideElems.rg_of h3,strOf];exact h1.symm
    rw[h3,hkeys];rfl
   exact(List.map_inj_right (λa b e=>Jd.1 e)).1 h2
  rw[this]
 ·show((es.toList.map (WideElems.rg P0 9 HD)).foldr DataW.insert []).length=_;rw[(WideShapes.sorted_perm _).length_eq,kN,j]
end
end Go.Proofs.YtjblfcfdeaagpaaGreatDoor.Fx
namespace Go.Proofs.YtjblfcfdeaagpaaGreatDoor
section
open Go Go.Eng Go.RowKit Go.Syn Go.Lex Go.Cfg
variable{w:World}{K:Q0}{cs:List Value}{G:Nat->Prop}{T:TypeId}{i:Nat}{n:Nat}{v:Value}{w':World}{P:Program}{c:UInt8}{S:Nat->Prop}
structure NH(fl:Fl):Prop where
 lt:∀(i:Nat) (e:Ex),fl.ex[i]?=some e->∀a∈e.args,a<i
 one:∀e∈fl.ex,e.k=10->1<=e.args.length
 few:∀e∈fl.ex,e.args.length<=1000000/\e.t.length<=100000
theorem NH.arg{fl:Fl}(h:NH fl)(hi:i<fl.ex.length)(I:(kT fl i).k=10):(kT fl i).args.getD 0 0<i/\(kT fl i).args[0]?=some ((kT fl i).args.getD 0 0):=by
 have o:=sS hi;have J:=h.one _ (bI o) I;obtain⟨a,j⟩:∃a,(kT fl i).args[0]?=some a:=⟨_,List.getElem?_eq_getElem (by omega)⟩;have e:(kT fl i).args.getD 0 0=a:=by rw[List.getD_eq_getElem?_getD,j];rfl
 rw[e];exact⟨h.lt i _ o a (bI j),j⟩
theorem IK{fl:Fl}(h:NH fl):∀(n m i:Nat) (s:Str),i<fl.ex.length->i<n->i<m->pZ fl n i s=pZ fl m i s:=by
 intro n;induction n with
 |zero=>intro m i s _ o;omega
 |succ n ih=>
  intro m i s hi o I;obtain⟨m,rfl⟩:∃q,m=q+1:=⟨m-1,by omega⟩;simp only[pZ];by_cases j:(kT fl i).k=10
  ·rw[aO j,aO j];have:=(h.arg hi j).1;exact ih m _ _ (by omega) (by omega) (by omega)
  ·rw[aJ j,aJ j]
theorem CU{fl:Fl}:∀(n i:Nat) (s t:Str),(pZ fl n i s).isSome=(pZ fl n i t).isSome
 |0,_,_,_=>rfl
 |n+1,i,s,t=>by
  simp only[pZ]
  split
  ·exact CU n _ _ _
  ·split<;>rfl
theorem EA{fl:Fl}(h:NH fl):∀(n i:Nat) (s t:Str),i<fl.ex.length->i<n->pZ fl n i s=some t->t.length<=s.length+(i+1)*100001
 |0,_,_,_,_,_,e=>by cases e
 |n+1,i,s,t,hi,o,e=>by
  have hf:=(h.few _ (bI (sS hi))).2
  simp only[pZ]at e
  split at e
  ·rename_i j
   have J:=(h.arg hi j).1
   have:=EA h n _ _ t (by omega) (by omega) e
   have I:((kT fl i).args.getD 0 0+1)*100001<=i*100001:=eP _ (by omega)
   simp only[aB,aP]at this
   rw[qT]
   omega
  ·split at e
   ·injection e with e
    subst e
    rw[aP,qT]
    omega
   ·cases e
abbrev ZM(M:Lay):Value:=.agg [M.vE,M.vB,M.vT].toArray
abbrev ZB:TypeId:=252
theorem Mr{m:Nat}{A:List (Str×Value)}{p:Str}{K:Value->Prop}(h:MapAt w m A):oU P0 (Instr.lookup ZB (.map (some m)) (str p) false) w K↔K ((kR A p).getD (i64 0)):=
 Eg (kt:=9) (et:=3) (by kernel_rfl) (by kernel_rfl) (z:=i64 0) (λw=>by kernel_rfl) h
theorem LV{m:Nat}{A:List (Str×Value)}{x:Str}{K:World->Prop}(h:MapAt w m A)(j:∀w',MapAt w' m (yD A x v)->Chg (· =m) w w'->K w'):BX P0 (Instr.mapUpdate ZB (.map (some m)) (str x) v) w K:=
 DC (kt:=9) (et:=3) (by kernel_rfl) (by kernel_rfl) h j
section
variable [HX]
variable{w:World}{B:Nat}{M:Lay}{fl:Fl}{K:Q0}
theorem QT(hF:FO w B M fl)(hA:NH fl)(hi:i<fl.ex.length)(hK:∀w',Ext w w'->K (.bool (AU fl i).isSome) w'):aI P0 181 [ZM M,i64 (i:Nat)] w K:=by
 refine Sb ?_;unfold YB;refine fX λb w1 hb hz I hx=>?_;have o:=hF.keep hx λ_ _ _ _ e=>e;refine eJ.go (λst w'=>w'=w1/\∃j:Nat,st=[i64 (j:Nat)]/\j<fl.ex.length/\(pZ fl (j+1) j []).isSome=(AU fl i).isSome) (λst _=>match st with|[.int _ j]=>j.toNat|_=>0) ⟨rfl,i,rfl,hi,rfl⟩ ?_;rintro st g w2 ⟨rfl,j,rfl,U,J⟩;simp only[aF];obtain⟨ua,uk,eu,hu,_⟩:=wC o U;rw[bD,bG,aH];refine iQ I (v:=M.vE) rfl ?_;refine zS o.oE.sl o.ee.1 U eu (by omega) rfl ?_;simp only[pZ]at J;rw[bX,bA];refine⟨λhk=>?_,λhk=>?_⟩
 ·rw[aO hk]at J;obtain⟨a1,a2⟩:=hA.arg U hk;rw[bD,bG,aH];refine iQ I (v:=M.vE) rfl ?_;refine zS o.oE.sl o.ee.1 U eu (by omega) (u:=ua) rfl ?_;refine pX (i:=0) (x:=i64 (((kT fl j).args.getD 0 0:Nat):Int)) hu.sl (by rw[sQ];omega) (by unfold ints;rw[List.getElem?_map,a2];rfl) ?_;refine⟨⟨trivial,_,rfl,by omega,?_⟩,by simp only[bC];exact a1⟩;rw[<-J,IK hA _ j _ _ (by omega) (by omega) (by omega)];exact CU _ _ _ _
 ·rw[aJ hk]at J;rw[bD,bG,aH];refine iQ I (v:=M.vE) rfl ?_;refine zS o.oE.sl o.ee.1 U eu (by omega) rfl ?_;rw[bX];have:=hK w2 hx;rw[<-J]at this;by_cases h9:(kT fl j).k=9
  ·rw[bK h9];rw[aO h9]at this;exact this
  ·rw[cM h9];rw[aJ h9]at this;exact this
theorem TO:∀(n i:Nat) (s t:Str) {w:World} {K:Q0} {mb mf:Nat},FO w B M fl->NH fl->i<fl.ex.length->i<n->s.length<=100000000000*(100000-i)->fl.ex.length<=100000->pZ fl n i s=some t->MapAt w mb []->MapAt w mf []->
  (∀w',MapAt w' mf [(t,i64 1)]->Chg (One mf) w w'->K (.tuple #[]) w')->aI P0 210 [ZM M,i64 (i:Nat),str s,.map (some mb),.map (some mf)] w K:=by
 intro n;induction n with
 |zero=>intro i s t w K mb mf _ _ _ h;omega
 |succ n ih=>
  intro i s t w K mb mf hF hA hi hn hs ht he hb hf hK;refine RE ?_;unfold Ym;refine fX λb5 w1 xq xn hk hr=>?_;have hj:=hF.keep hr λ_ _ _ _ e=>e;obtain⟨ua,uk,eu,hu,_⟩:=wC hj hi;have xp:=(hA.few _ (bI (sS hi))).2;rw[bD,bG,aH];refine iQ hk (v:=M.vE) rfl ?_;refine sX hj.oE.sl hj.ee.1 (by omega) hi ?_;have eu':(M.cE.drop (i*5)).take 5=_:=eu;rw[eu'];refine cI λb10 w2 xi xm j ho=>?_;obtain⟨q1,c1,e1,_⟩:=hu.sl.shape;have h1:jD ua=true:=by rw[e1];rfl
  have h2:jD uk=true:=by
   obtain⟨_,_,_,_,h3⟩:=wC hj hi;rename_i va vk e0 _;rw[eu]at e0;simp only[fR]at e0;rw[e0.2.2.2.1];exact gE h3.sl
  refine dD (l:=[i64 (kT fl i).k,str (kT fl i).t,ua,uk,i64 (kT fl i).a]) j rfl rfl (by show(true&&(true&&(jD ua&&(jD uk&&(true&&true)))))=true;rw[h1,h2];rfl) λw3 xl j hx=>?_;have I:Ext w w3:=hr.trans (ho.new hx (by omega));have hz:=hF.keep I λ_ _ _ _ e=>e;have hy:=hb.chg I id;have hv:=hf.chg I id;have hq:w3.heap[b5]?=some (.cells [M.vE,M.vB,M.vT].toArray 28 (0,0)):=hx.at (ho.at hk id) (by omega);simp only[bD,bG,aH];refine iQ j (v:=i64 (kT fl i).k) rfl ?_;simp only[pZ]at he;rw[bX,bA];by_cases U:(kT fl i).k=10
  ·rw[aO U]at he;obtain⟨a1,a2⟩:=hA.arg hi U;refine⟨λh9=>by rw[U]at h9;exact absurd h9 (by decide),λ_=>?_⟩;rw[bX,bA];refine⟨λ_=>?_,λJ=>absurd U J⟩;have hh:w3.drew.heap[b5]?=some (.cells [M.vE,M.vB,M.vT].toArray 28 (0,0)):=hq;have o:w3.drew.heap[b10]?=some (.cells [i64 (kT fl i).k,str (kT fl i).t,ua,uk,i64 (kT fl i).a].toArray 35 (0,0)):=j;refine fQ hh rfl ?_;refine iQ o (v:=ua) rfl ?_;have xo:=(hu.sl.ext ho);have xc:gD w3.drew lC ua (kT fl i).args.length (ints (kT fl i).args):=by
    obtain⟨va',vk',e0,g1,_⟩:=wC hz hi;rw[eu]at e0;simp only[fR]at e0;rw[e0.2.2.1];exact g1.sl
   refine pX (i:=0) (x:=i64 (((kT fl i).args.getD 0 0:Nat):Int)) xc (by rw[sQ];omega) (by unfold ints;rw[List.getElem?_map,a2];rfl) ?_;refine iQ o (v:=str (kT fl i).t) rfl ?_;have xd:s.length<=10000000000000000:=dI hs (Nat.mul_le_mul_left _ (by omega:100000-i<=100000));rw[eR];refine⟨by simp only[aB,aK];show(_:Int)<=9223372036854775807;omega,?_⟩;rw[eR];refine⟨by simp only[aB,aK,aP];show(_:Int)<=9223372036854775807;omega,?_⟩;refine ih ((kT fl i).args.getD 0 0) (46::((kT fl i).t++s)) t (hz.keep (cP w3) λ_ _ _ _ e=>e) hA (by omega) (by omega) ?_ ht he (hy.chg (cP w3) id) (hv.chg (cP w3) id) λw' hm hc=>?_
   ·simp only[aB,aP];have hd:100000-i+1<=100000-(kT fl i).args.getD 0 0:=by omega
    have:=Nat.mul_le_mul_left 100000000000 hd;rw[Nat.mul_add]at this;omega
   ·refine hK w' hm ?_;exact(Chg.of_ext (I.trans (cP w3))).trans hc
  ·rw[aJ U]at he;split at he
   ·rename_i h9;injection he with he
    refine⟨λ_=>?_,λJ=>absurd h9 J⟩;refine iQ j (v:=str (kT fl i).t) rfl ?_;rw[Mr hy];show aU .eql (i64 0) (i64 0) _;rw[bX,bA];refine⟨λ_=>?_,λJ=>absurd rfl J⟩;refine iQ j (v:=str (kT fl i).t) rfl ?_;have xd:s.length<=10000000000000000:=dI hs (Nat.mul_le_mul_left _ (by omega:100000-i<=100000));rw[eR];refine⟨by show(_:Int)<=9223372036854775807;omega,?_⟩;refine LV hv λw4 hm hc=>?_;rw[he]at hm;exact hK w4 hm ((Chg.of_ext I).trans hc)
   ·cases he
theorem Uk{t:Str}(hF:FO w B M fl)(hA:NH fl)(hi:i<fl.ex.length)(ho:fl.ex.length<=100000)(he:AU fl i=some t)(hK:∀v w',gD w' StT v 1 (strs [t])->Ext w w'->K v w'):aI P0 182 [ZM M,i64 (i:Nat)] w K:=by
 refine Sa ?_;unfold YA;refine fX λb w1 hb xj xc J=>?_;refine yX λhy=>?_;generalize hc:w1.alloc (.map #[] 0)=w2 at*
 have I:Ext w1 w2:=by rw[<-hc];exact Chg.alloc (Chg.refl _ _) _
 have xi:w2.heap.size=w1.heap.size+1:=by rw[<-hc];simp
 generalize hf:w1.heap.size=f at*
 refine fQ (I.at xc id) rfl ?_;refine yX λhv=>?_;generalize hr:w2.alloc (.map #[] 0)=w3 at*
 have o:Ext w2 w3:=by rw[<-hr];exact Chg.alloc (Chg.refl _ _) _
 have j:=J.trans (I.trans o);have xh:=J.size;refine TO (i+1) i [] t (hF.keep j λ_ _ _ _ e=>e) hA hi (by omega) (by simp) ho he hv (hy.chg o id) λw4 hz xb=>?_;have U:Ext w w4:=j.then xb λk hk e=>by have e:k=f:=e;omega
 have hj:=EA hA (i+1) i [] t hi (by omega) he;have xa:t.length<=maxLen:=by
  have:(i+1)*100001<=100000*100001:=eP _ (by omega);simp only[aK]at hj;unfold maxLen;omega
 obtain⟨D,hD,hkeys,hsize⟩:=Fx.owns_of_map hz (by intro x hx;simp at hx;rw[hx];exact xa) (by unfold maxLen;simp);refine kX (args:=#[.map (some f)]) Tryz.call212 ((callsIn_wide.1 (Tryz.maps_Keys_212 (some f) w4)).mono ?_);rintro e w' ⟨rfl,rfl⟩;refine⟨_,rfl,?_⟩;refine kX (args:=#[.func (.func 224) #[] #[.pointer (some ⟨w4.heap.size,0,none⟩)]]) Tryz.call211 ((callsIn_wide.1 (Tryz.slices_Sorted_keys_211_212 f _ D _ w4 hD (by rw[hsize];unfold maxLen;simp) (by rw[hsize];simp))).mono ?_);rintro e w' ⟨v,ss,rfl,hs,hh,xe,hq⟩;refine⟨_,rfl,?_⟩;have hg:=Own.sl hh;have hp:=hs.trans hkeys;have ht:ss=[t]:=List.perm_singleton.1 hp;subst ht;rw[List.mergeSort_singleton]at hg;refine hK _ _ hg (U.trans (Chg.trans (Chg.alloc (Chg.refl _ _) _) (Chg.of_below hq)))
end
def Lg(r:Rs)(va vd:Value):List Value:=[str r.ty,str r.n,va,i64 r.count,i64 r.each,.bool r.swap,.bool r.prev,vd,i64 r.a]
def Kp(O:Nat->Prop)(w w':World):Prop:=w.heap.size<=w'.heap.size/\∀k,O k->w'.heap[k]?=w.heap[k]?
theorem Kp.refl(O:Nat->Prop)(w:World):Kp O w w:=⟨aY _,λ_ _=>rfl⟩
theorem Kp.trans{O:Nat->Prop}{w1 w2:World}(h:Kp O w w1)(o:Kp O w1 w2):Kp O w w2:=⟨dI h.1 o.1,λk j=>(o.2 k j).trans (h.2 k j)⟩
theorem Kp.at{O:Nat->Prop}{k:Nat}{o:Obj}(h:Kp O w w')(j:w.heap[k]?=some o)(I:O k):w'.heap[k]?=some o:=by rw[h.2 k I];exact j
section
variable [HX][FK]{w0 w w1 w2 w':World}{p:Nat}{L:ML}{vS:Value}{path:Str}{s:MS}{b4:Nat}{r:Rs}{va vd:Value}{O:Nat->Prop}
structure nS(w0 w:World)(p:Nat)(L:ML)(vS:Value)(path:Str)(s:MS)(b4:Nat)(r:Rs)(va vd:Value)(O:Nat->Prop):Prop where
 mr:MR w0 w p L vS path s
 at_:nT w0 w p L vS b4 Tk (Lg r va vd)
 oa:Own w w0.heap.size AtT 3 va r.attrs.length (kK r.attrs)
 od:Own w w0.heap.size StT 1 vd r.deps.length (strs r.deps)
 nd:(b4::ub [va,vd]).Nodup
 off:∀k∈ub [va,vd],tN w0 w p L vS k
 ox:∀k,O k->k<w.heap.size/\k∉b4::ub [va,vd]
theorem MZ(j:Ext w w')(I:∀k,O k->k<w.heap.size):Kp O w w':=⟨j.size,λk o=>j.heap k (I k o) id⟩
theorem nS.ext(h:nS w0 w p L vS path s b4 r va vd O)(j:Ext w w'):nS w0 w' p L vS path s b4 r va vd O:=
 ⟨h.mr.ext j,h.at_.ext j,h.oa.ext j,h.od.ext j,h.nd,λk o=>(h.off k o).up j.size,λk o=>⟨cV (h.ox k o).1 j.size,(h.ox k o).2⟩⟩
theorem nS.kp(h:nS w0 w p L vS path s b4 r va vd O)(j:Ext w w'):Kp O w w':=MZ j λk o=>(h.ox k o).1
theorem nS.less{O':Nat->Prop}(h:nS w0 w p L vS path s b4 r va vd O)(o:∀k,O' k->O k):nS w0 w p L vS path s b4 r va vd O':=⟨h.mr,h.at_,h.oa,h.od,h.nd,h.off,λk j=>h.ox k (o k j)⟩
theorem nS.wide{z1 z2:Nat}(h:nS w0 w p L vS path s b4 r va vd O)(I:∀k∈b4::ub [va,vd],k<z1)(J:z2<=w.heap.size):nS w0 w p L vS path s b4 r va vd (λk=>O k\/(z1<=k/\k<z2)):=
 ⟨h.mr,h.at_,h.oa,h.od,h.nd,h.off,λk o=>o.elim (h.ox k) λe=>⟨by omega,λj=>by have:=I k j;omega⟩⟩
theorem nS.in_(h:nS w0 w p L vS path s b4 r va vd O):∀k∈b4::ub [va,vd],tN w0 w p L vS k:=λk j=>(aX.1 j).elim (λe=>e▸h.at_.off) (h.off k)
theorem nS.lt(h:nS w0 w p L vS path s b4 r va vd O):∀k∈b4::ub [va,vd],k<w.heap.size:=λk j=>(h.in_ k j).2.1
theorem tH(h:MR w0 w p L vS path s)(J:Chg S w w')(I:∀k,S k->tN w0 w p L vS k):MR w0 w' p L vS path s:=
 h.keep J (λk j e=>(I k e).2.2.1 j) (λk j e=>by have:=(I k e).1;omega) λk o j e=>(I k e).2.2.2 o j
theorem kW{k:Nat}:k∈ub [va,vd]↔va.ownBlock=some k\/vd.ownBlock=some k:=by
 unfold ub;rw[bO];simp
theorem nS.st{off:Nat}{r':Rs}{KW:World->Prop}(h:nS w0 w p L vS path s b4 r va vd O)(h1:jD v=true)(J:off<9)(hs:(Lg r va vd).set off v=Lg r' va vd)(ha:r'.attrs=r.attrs)(hd:r'.deps=r.deps)
  (hK:∀w',nS w0 w' p L vS path s b4 r' va vd O->Kp O w w'->KW w'):stW 1 (.pointer (some ⟨b4,off,none⟩)) v w KW:=by
 refine jZ h.at_.at_ h1 (by simp[Lg];omega) λw' U hb o=>?_;have I:∀k∈ub [va,vd],k≠b4:=λk j e=>(dB.1 h.nd).1 (e▸j);refine hK w' ⟨tH h.mr o λk e=>by have e:k=b4:=e;exact e▸h.at_.off,⟨by rw[hb,aA,hs],h.at_.off.up o.size⟩,?_,?_,h.nd,λk j=>(h.off k j).up o.size,λk j=>⟨by rw[U];exact(h.ox k j).1,(h.ox k j).2⟩⟩ ⟨o.size,λk j=>o.heap k (h.ox k j).1 λe=>(h.ox k j).2 (by have e:k=b4:=e;rw[e];exact aW)⟩
 ·rw[ha];exact dP h.oa o λk j=>I k (kW.2 (.inl j))
 ·rw[hd];exact dP h.od o λk j=>I k (kW.2 (.inr j))
theorem Fi{v':Value}(h:MR w0 w p L vS path s)(o:w.heap.size<=w'.heap.size)(U:∀k,v'.ownBlock=some k->v.ownBlock=some k\/w.heap.size<=k)(I:∀k,v.ownBlock=some k->tN w0 w p L vS k)(J:∀k,v'.ownBlock=some k->k<w'.heap.size):∀k,v'.ownBlock=some k->tN w0 w' p L vS k:=λk j=>
 (U k j).elim (λe=>(I k e).up o) λe=>h.off_new e (J k j)
theorem nS.pushA{a:Atr}{t:Value}{KW:World->Prop}(h:nS w0 w p L vS path s b4 r va vd O)(ht:gD w AtT t 1 (kK [a]))(xc:r.attrs.length<=10000000000)
  (hK:∀va' w',nS w0 w' p L vS path s b4 {r with attrs:=r.attrs++[a]} va' vd O->Kp O w w'->KW w'):
  fH P0 (Builtin.append_ #[36,36] 36 #[va,t]) w λt15 w13=>aZ 2 (.pointer (some ⟨b4,0,none⟩)) λt16=>stW 1 t16 t15 w13 KW:=by
 refine iL Hf h.oa ht rfl (λu hu=>by simp only[kK,fY,Ax,eZ,aX,bQ,fF]at hu;rcases hu with rfl|rfl|rfl<;>rfl) (by omega) (by omega) h.mr.base λv' w1 hO hc hn=>?_;have ho:=h.nd;have J:b4∉ub [va,vd]:=(dB.1 ho).1;have I:∀k,va.ownBlock=some k->tN w0 w p L vS k:=λk j=>h.off k (kW.2 (.inl j));have hr:va.ownBlock≠some b4:=λe=>J (kW.2 (.inl e));have hi:∀k,vd.ownBlock=some k->va.ownBlock≠some k:=λk j e=>by
  have h2:=(dB.1 ho).2;unfold ub at h2;simp only[List.filterMap_cons,e,j,List.filterMap_nil,dB,aX,bQ,fF]at h2;exact h2.1 trivial
 have xg:∀k,va.ownBlock=some k->k<w.heap.size:=λk j=>(I k j).2.1;have hx:=tH h.mr hc I;have hv:=Fi h.mr hc.size hn I λk j=>(kA hO j).1;have hj:∀k,v'.ownBlock=some k->k≠b4:=λk j e=>by
  subst e;exact(hn k j).elim hr λe=>by have:=h.at_.lt;omega
 rw[bD,bG,aH];refine jZ (hc.at h.at_.at_ hr) (gE hO.sl) (by simp[Lg]) λw2 xd hy o=>?_;have hz:=hc.size;refine hK v' w2 ⟨tH hx o λk e=>by have e:k=b4:=e;exact e▸h.at_.off.up hz,⟨by rw[hy,aA];rfl,h.at_.off.up (by omega)⟩,?_,?_,?_,λk j=>?_,λk j=>⟨by have:=(h.ox k j).1;omega,λhm=>?_⟩⟩ ⟨by omega,λk j=>?_⟩
 ·show Own w2 _ _ _ v' (r.attrs++[a]).length (kK (r.attrs++[a]));rw[Au,aP];exact dP hO o λk j=>hj k j
 ·exact dP (dP h.od hc λk j=>hi k j) o λk j e=>J (by have e:k=b4:=e;rw[<-e];exact kW.2 (.inr j))
 ·refine dB.2 ⟨λhm=>?_,?_⟩
  ·rcases kW.1 hm with e|e
   ·exact hj b4 e rfl
   ·exact J (kW.2 (.inr e))
  ·unfold ub;simp only[List.filterMap_cons,List.filterMap_nil];cases h1:v'.ownBlock with
   |none=>cases vd.ownBlock<;>simp
   |some x=>
    cases h2:vd.ownBlock with
    |none=>simp
    |some y=>
     simp only[dB,aX,bQ,fF,cL,mM,eY];rintro rfl;rcases hn x h1 with e|e
     ·exact hi x h2 e
     ·have:=(h.off x (kW.2 (.inr h2))).2.1;omega
 ·rcases kW.1 j with e|e
  ·exact(hv k e).up (by omega)
  ·exact(h.off k (kW.2 (.inr e))).up (by omega)
 ·have U:=h.ox k j;rcases aX.1 hm with e|hm
  ·exact U.2 (e▸aW)
  ·rcases kW.1 hm with e|e
   ·rcases hn k e with e|e
    ·exact U.2 (aE _ (kW.2 (.inl e)))
    ·omega
   ·exact U.2 (aE _ (kW.2 (.inr e)))
 ·have U:=h.ox k j;rw[o.heap k (by omega) (λe=>U.2 (by have e:k=b4:=e;rw[e];exact aW)),hc.heap k U.1 (λe=>U.2 (aE _ (kW.2 (.inl e))))]
theorem nS.pushD{a:Str}{t:Value}{KW:World->Prop}(h:nS w0 w p L vS path s b4 r va vd O)(ht:gD w StT t 1 (strs [a]))(xc:r.deps.length<=1000000000000)
  (hK:∀vd' w',nS w0 w' p L vS path s b4 {r with deps:=r.deps++[a]} va vd' O->Kp O w w'->KW w'):
  fH P0 (Builtin.append_ #[33,33] 33 #[vd,t]) w λt15 w13=>aZ 7 (.pointer (some ⟨b4,0,none⟩)) λt16=>stW 1 t16 t15 w13 KW:=by
 refine iL CK h.od ht rfl (λu hu=>by simp only[strs,fC,jQ,aX,bQ,fF]at hu;subst hu;rfl) (by omega) (by omega) h.mr.base λv' w1 hO U hn=>?_;have hj:=h.nd;have I:b4∉ub [va,vd]:=(dB.1 hj).1;have hg:∀k,vd.ownBlock=some k->tN w0 w p L vS k:=λk j=>h.off k (kW.2 (.inr j));have hq:vd.ownBlock≠some b4:=λe=>I (kW.2 (.inr e));have hi:∀k,va.ownBlock=some k->vd.ownBlock≠some k:=λk j e=>by
  have h2:=(dB.1 hj).2;unfold ub at h2;simp only[List.filterMap_cons,e,j,List.filterMap_nil,dB,aX,bQ,fF]at h2;exact h2.1 trivial
 have hx:=tH h.mr U hg;have hv:=Fi h.mr U.size hn hg λk j=>(kA hO j).1;have hh:∀k,v'.ownBlock=some k->k≠b4:=λk j e=>by
  subst e;exact(hn k j).elim hq λe=>by have:=h.at_.lt;omega
 rw[bD,bG,aH];refine jZ (U.at h.at_.at_ hq) (gE hO.sl) (by simp[Lg]) λw2 xe hy o=>?_;have hz:=U.size;refine hK v' w2 ⟨tH hx o λk e=>by have e:k=b4:=e;exact e▸h.at_.off.up hz,⟨by rw[hy,aA];rfl,h.at_.off.up (by omega)⟩,?_,?_,?_,λk j=>?_,λk j=>⟨by have:=(h.ox k j).1;omega,λhm=>?_⟩⟩ ⟨by omega,λk j=>?_⟩
 ·exact dP (dP h.oa U λk j=>hi k j) o λk j e=>I (by have e:k=b4:=e;rw[<-e];exact kW.2 (.inl j))
 ·show Own w2 _ _ _ v' (r.deps++[a]).length (strs (r.deps++[a]));rw[wH,aP];exact dP hO o λk j=>hh k j
 ·refine dB.2 ⟨λhm=>?_,?_⟩
  ·rcases kW.1 hm with e|e
   ·exact I (kW.2 (.inl e))
   ·exact hh b4 e rfl
  ·unfold ub;simp only[List.filterMap_cons,List.filterMap_nil];cases h1:va.ownBlock with
   |none=>cases v'.ownBlock<;>simp
   |some x=>
    cases h2:v'.ownBlock with
    |none=>simp
    |some y=>
     simp only[dB,aX,bQ,fF,cL,mM,eY];rintro rfl;rcases hn x h2 with e|e
     ·exact hi x h1 e
     ·have:=(h.off x (kW.2 (.inl h1))).2.1;omega
 ·rcases kW.1 j with e|e
  ·exact(h.off k (kW.2 (.inl e))).up (by omega)
  ·exact(hv k e).up (by omega)
 ·have J:=h.ox k j;rcases aX.1 hm with e|hm
  ·exact J.2 (e▸aW)
  ·rcases kW.1 hm with e|e
   ·exact J.2 (aE _ (kW.2 (.inl e)))
   ·rcases hn k e with e|e
    ·exact J.2 (aE _ (kW.2 (.inr e)))
    ·omega
 ·have J:=h.ox k j;rw[o.heap k (by omega) (λe=>J.2 (by have e:k=b4:=e;rw[e];exact aW)),U.heap k J.1 (λe=>J.2 (aE _ (kW.2 (.inr e))))]
end
theorem Oc{f:Fl}{r:Rs}{a:Atr}{e:Ex}(h:a.n=Tr):tU f r a e=.bad 110 a.a:=by unfold tU;rw[aO h]
theorem Ie{f:Fl}{r:Rs}{a:Atr}{e:Ex}(n1:¬a.n=Tr)(h:a.n=wQ):tU f r a e=oneOf {r with count:=(a.e:Nat)} a:=by unfold tU;rw[aJ n1,aO h]
theorem Kh{f:Fl}{r:Rs}{a:Atr}{e:Ex}(n1:¬a.n=Tr)(n2:¬a.n=wQ)(h:a.n=tR):tU f r a e=oneOf {r with each:=(a.e:Nat)} a:=by unfold tU;rw[aJ n1,aJ n2,aO h]
theorem Ki{f:Fl}{r:Rs}{a:Atr}{e:Ex}(n1:¬a.n=Tr)(n2:¬a.n=wQ)(n3:¬a.n=tR)(h:a.n=wP):tU f r a e=(match Ai f e.args r.deps with|none=>.bad 110 a.a|some ds=>if e.k=7 then .ok {r with deps:=ds}else .bad 110 a.a):=by
 unfold tU;rw[aJ n1,aJ n2,aJ n3,aO h];rfl
theorem Kg{f:Fl}{r:Rs}{a:Atr}{e:Ex}(n1:¬a.n=Tr)(n2:¬a.n=wQ)(n3:¬a.n=tR)(h:¬a.n=wP):tU f r a e=oneOf {r with attrs:=r.attrs++[a]} a:=by unfold tU;rw[aJ n1,aJ n2,aJ n3,aJ h]
theorem Is{r:Rs}{a:Atr}{e:Ex}(h:a.n=DN):tZ r a e=if e.k=2\/e.k=3 then .ok {r with swap:=decide (e.k=2)}else .bad 110 a.a:=by unfold tZ;rw[aO h]
theorem It{r:Rs}{a:Atr}{e:Ex}(n1:¬a.n=DN)(h:a.n=Gh):tZ r a e=if e.k=2\/e.k=3 then .ok {r with prev:=decide (e.k=2)}else .bad 110 a.a:=by unfold tZ;rw[aJ n1,aO h]
theorem My{r:Rs}{a:Atr}{e:Ex}(n1:¬a.n=DN)(n2:¬a.n=Gh):tZ r a e=.bad 110 a.a:=by unfold tZ;rw[aJ n1,aJ n2]
section
variable [HX]
variable [FK]{w0 w w1:World}{p:Nat}{L:ML}{vS:Value}{path:Str}{s:MS}{b2 b3 b4 b7:Nat}{c3 c7:List Value}
theorem MR.ldF{K:Value->Prop}(h:MR w0 w p L vS path s)(j:K (ZM L.M)):ldW true 3 (.pointer (some ⟨p,1,none⟩)) w K:=by
 rw[yZ];refine⟨[L.M.vE,L.M.vB,L.M.vT],?_,j⟩;simp only[bN,bG,cA,h.pm,bM];simp[ML.cells]
theorem xua{M:Lay}{fl:Fl}{ua uk:Value}{B:Nat}(hi:i<fl.ex.length)(eu:WV M i=[i64 (kT fl i).k,str (kT fl i).t,ua,uk,i64 (kT fl i).a])(h:FO w B M fl):gD w lC ua (kT fl i).args.length (ints (kT fl i).args):=by
 obtain⟨va',vk',e0,g1,_⟩:=wC h hi;rw[eu]at e0;simp only[fR]at e0;rw[e0.2.2.1];exact g1.sl
def WY(w0:World)(p:Nat)(L:ML)(vS:Value)(path:Str)(s:MS)(b2 b3 b4:Nat)(c3:List Value)(j:Nat)(w:World)(r:Rs):Prop:=
 ∃va vd,nS w0 w p L vS path s b4 r va vd (λk=>k=b2\/k=b3)/\w.heap[b2]?=some (.cells [pA p].toArray MpT (0,0))/\w.heap[b3]?=some (.cells c3.toArray BkT (0,0))/\r.attrs.length<=j/\r.deps.length<=j*1000000
theorem WY.ext{j:Nat}{r:Rs}(h:WY w0 p L vS path s b2 b3 b4 c3 j w r)(o:Ext w w'):WY w0 p L vS path s b2 b3 b4 c3 j w' r:=by
 obtain⟨va,vd,g1,g2,g3,g4⟩:=h;exact⟨va,vd,g1.ext o,o.at g2 id,o.at g3 id,g4⟩
theorem Uj{j:Nat}{a:Atr}{r:Rs}{wz:World}{K':Q0}(hA:NH s.m.fl)(hj:j<=100000)(yc:s.m.fl.ex.length<=100000)(xe:a.e<s.m.fl.ex.length)(hI:WY w0 p L vS path s b2 b3 b4 c3 j wz r)(xx:Ext wz w1)
  (xr:∀r' w',tU s.m.fl r a (kT s.m.fl a.e)=.ok r'->WY w0 p L vS path s b2 b3 b4 c3 (j+1) w' r'->K' (.bool true) w')
  (ho:∀w',tU s.m.fl r a (kT s.m.fl a.e)=.bad 110 a.a->Mf w0 w' p L.M path s.m.fl->(∀k,wz.heap.size<=k->k<w1.heap.size->w'.heap[k]?=w1.heap[k]?)->K' (.bool false) w'):
  mY P0 (.func (.func 180) #[] [pA b4,pA b2].toArray) [.agg [str a.n,i64 (a.e:Nat),i64 a.a].toArray,.agg (WV L.M a.e).toArray] w1 K':=by
 obtain⟨va,vd,xn,xb,xm,xz,xl⟩:=hI;refine gG (caps:=[pA b4,pA b2]) ?_;refine Sc ?_;unfold YC;refine fX λb6 w6 za yq hg yk=>?_;obtain⟨ua,uk,eu,hu,_⟩:=wC xn.mr.md.fo xe;rw[eu];refine fX λb7 w7 yz yp xi xw=>?_;have hz:=yk.trans xw;have xk:=xx.trans hz;have hg:=xw.at hg id;have yr:=xx.size;have xy:=λ{w:World} (h:FO w w0.heap.size L.M s.m.fl)=>xua xe eu h;generalize he:kT s.m.fl a.e=e at*
 have hefew:e.args.length<=1000000:=by rw[<-he];exact(hA.few _ (bI (sS xe))).1
 have hR:=(xn.ext xk).wide (z1:=wz.heap.size) (z2:=w7.heap.size) xn.lt (aY _);generalize hO:(λk=>(k=b2\/k=b3)\/(wz.heap.size<=k/\k<w7.heap.size))=O at hR;have o2:O b2:=by rw[<-hO];exact .inl (.inl rfl)
 have o3:O b3:=by rw[<-hO];exact .inl (.inr rfl)
 have oz:∀k,wz.heap.size<=k->k<w7.heap.size->O k:=λk h1 h2=>by rw[<-hO];exact .inr ⟨h1,h2⟩
 have ol:∀k,(k=b2\/k=b3)->O k:=λk h=>by rw[<-hO];exact .inl h
 have xb:=xk.at xb id;have xm:=xk.at xm id;have o6:=oz b6 (by omega) (by omega);have o7:=oz b7 (by omega) (by omega);have fin:∀{w':World},Kp O w7 w'->∀k,wz.heap.size<=k->k<w1.heap.size->w'.heap[k]?=w1.heap[k]?:=λhk k h1 h2=>by
  have:=hz.size;rw[hk.2 k (oz k h1 (by omega)),hz.heap k h2 id]
 have yes:∀{r':Rs} {va' vd':Value} {w':World},tU s.m.fl r a e=.ok r'->nS w0 w' p L vS path s b4 r' va' vd' O->Kp O w7 w'->r'.attrs.length<=j+1->r'.deps.length<=(j+1)*1000000->K' (.bool true) w':=λ{r' va' vd' w'} h1 h2 h3 h4 h5=>
  xr r' w' h1 ⟨va',vd',h2.less ol,h3.at xb o2,h3.at xm o3,h4,h5⟩
 have hm:j*1000000+1000000=(j+1)*1000000:=by rw[qT]
 refine cX.cut (λst w'=>st=[]/\∃r' va' vd',nS w0 w' p L vS path s b4 r' va' vd' O/\Kp O w7 w'/\tU s.m.fl r a e=oneOf r' a/\r'.attrs.length<=j+1/\r'.deps.length<=(j+1)*1000000) ?_ ?_
 ·simp only[bD,bG,aH];refine iQ hg (v:=str a.n) rfl ?_;rw[eC,bA];refine⟨λe1=>?_,λn1=>?_⟩
  ·have e1:a.n=Tr:=e1;exact ho w7 (Oc e1) hR.mr.mf (fin (Kp.refl _ _))
  have n1:¬a.n=Tr:=n1;rw[eC,bA];refine⟨λe2=>?_,λn2=>?_⟩
  ·have e2:a.n=wQ:=e2;refine iQ hg (v:=i64 (a.e:Nat)) rfl ?_;refine hR.st (off:=3) (r':={r with count:=(a.e:Nat)}) rfl (by omega) rfl rfl rfl λw' xo xp=>⟨by trivial,_,va,vd,xo,xp,Ie n1 e2,?_,?_⟩
   ·exact Nat.le_succ_of_le xz
   ·exact dI xl (eP _ (qS j))
  have n2:¬a.n=wQ:=n2;rw[eC,bA];refine⟨λe3=>?_,λn3=>?_⟩
  ·have e3:a.n=tR:=e3;refine iQ hg (v:=i64 (a.e:Nat)) rfl ?_;refine hR.st (off:=4) (r':={r with each:=(a.e:Nat)}) rfl (by omega) rfl rfl rfl λw' xo xp=>⟨by trivial,_,va,vd,xo,xp,Kh n1 n2 e3,?_,?_⟩
   ·exact Nat.le_succ_of_le xz
   ·exact dI xl (eP _ (qS j))
  have n3:¬a.n=tR:=n3;rw[eC,bA];refine⟨λe4=>?_,λn4=>?_⟩
  ·have e4:a.n=wP:=e4;have hq:=Ki (f:=s.m.fl) (r:=r) (e:=e) n1 n2 n3 e4;rw[hq]at ho;refine iQ xi (v:=ua) rfl ?_;rw[jH (xy hR.mr.md.fo)];refine eJ.go (λst w'=>∃(i:Nat) (ds:List Str) (vd':Value),st=[i64 (i:Nat)]/\i<=e.args.length/\nS w0 w' p L vS path s b4 {r with deps:=ds} va vd' O/\Kp O w7 w'/\Ai s.m.fl (e.args.drop i) ds=Ai s.m.fl e.args r.deps/\ds.length<=r.deps.length+i) (λst _=>match st with|[.int _ i]=>e.args.length-i.toNat|_=>0)
    ⟨0,r.deps,vd,rfl,fW _,hR,Kp.refl _ _,rfl,aY _⟩ ?_
   rintro st g w8 ⟨i,ds,vd',rfl,hi,o,U,I,yy⟩;simp only[aF];rw[dT,bA];refine⟨λxa=>?_,λyx=>?_⟩
   ·have xa:i<e.args.length:=by omega
    obtain⟨x,hx⟩:∃x,e.args[i]?=some x:=⟨_,List.getElem?_eq_getElem xa⟩;have xt:x<s.m.fl.ex.length:=by
     have:=hA.lt a.e e (by rw[<-he];exact sS xe) x (bI hx);omega
    rw[dQ xa]at I;rw[List.getElem?_eq_getElem xa]at hx;injection hx with hx
    rw[hx]at I;simp only[Ai]at I;refine pX (i:=i) (x:=i64 (x:Nat)) (xy o.mr.md.fo) (by rw[sQ];omega) (by unfold ints;rw[List.getElem?_map,List.getElem?_eq_getElem xa,hx];rfl) ?_;refine iQ (U.at xb o2) (v:=pA p) rfl ?_;simp only[cQ,bD,bG,aH];refine o.mr.ldF ?_;refine QT o.mr.md.fo hA xt λw9 xu=>?_;rw[fG,dU];have xc:=o.ext xu;have xd:=U.trans (o.kp xu);refine⟨λhc=>?_,λhc=>?_⟩
    ·cases hy:AU s.m.fl x with
     |some t=>rw[hy]at hc;cases hc
     |none=>
      rw[hy]at I;exact ho w9 (by rw[<-I]) xc.mr.mf (fin xd)
    ·cases hy:AU s.m.fl x with
     |none=>rw[hy]at hc;cases hc
     |some t=>
      rw[hy]at I;simp only at I;have hr:=xc.ext (cP w9);have xh:=xd.trans (xc.kp (cP w9));refine iQ hr.at_.at_ (v:=vd') rfl ?_;refine iQ (xh.at xb o2) (v:=pA p) rfl ?_;rw[cQ,bD,bD,bG,bG,aH];refine hr.mr.ldF ?_;refine Uk hr.mr.md.fo hA xt yc hy λv w11 hv xg=>?_;have xj:=hr.ext xg;have yb:=xh.trans (hr.kp xg);refine⟨iQ xj.at_.at_ (v:=vd') rfl rfl,?_⟩;have:=xj.pushD (a:=t) (KW:=λw11=>aU .add (i64 (i:Nat)) (.int .i64 1) λt57=>(∃(i:Nat) (ds:List Str) (vd':Value),[t57]=[i64 (i:Nat)]/\i<=e.args.length/\nS w0 w11 p L vS path s b4 {r with deps:=ds} va vd' O/\Kp O w7 w11/\Ai s.m.fl (e.args.drop i) ds=Ai s.m.fl e.args r.deps/\ds.length<=r.deps.length+i)/\(match([t57]:List Value)with|[.int _ i]=>e.args.length-i.toNat|_=>0)<(match([i64 (i:Nat)]:List Value)with|[.int _ i]=>e.args.length-i.toNat|_=>0)) hv (by show ds.length<=_;have:j*1000000<=100000*1000000:=eP _ hj;omega) λvd2 w12 ye ya=>?_
      ·simp only[bD,bG,aH]at this;exact this
      ·rw[cG,upi (by omega)];exact⟨⟨i+1,ds++[t],vd2,rfl,by omega,ye,yb.trans ya,I,by rw[aP,aB,aK];omega⟩,by simp only[bC];omega⟩
   ·obtain rfl:i=e.args.length:=by omega
    rw[fZ]at I;simp only[Ai]at I;rw[<-I]at hq ho;simp only at hq ho;refine iQ (U.at xi o7) (v:=i64 e.k) rfl ?_;rw[bX];by_cases h7:e.k=7
    ·rw[aO h7]at hq;rw[bK h7];exact yes hq o U (by show r.attrs.length<=_;omega) (by show ds.length<=_;omega)
    ·rw[aJ h7]at ho;rw[cM h7];exact ho w8 rfl o.mr.mf (fin U)
  have n4:¬a.n=wP:=n4;refine iQ hR.at_.at_ (v:=va) rfl ?_;refine fQ hg rfl ?_;refine row_one (by rfl) (by rfl) (by omega) λt w8 ht xv=>?_;have o:=hR.ext xv;have U:=hR.kp xv;have:=o.pushA (a:=a) (KW:=λw'=>([]:List Value)=[]/\∃r' va' vd',nS w0 w' p L vS path s b4 r' va' vd' O/\Kp O w7 w'/\tU s.m.fl r a e=oneOf r' a/\r'.attrs.length<=j+1/\r'.deps.length<=(j+1)*1000000) ht (by omega) λva' w9 xc xd=>⟨rfl,_,va',vd,xc,U.trans xd,Kg n1 n2 n3 n4,by simp;omega,dI xl (eP _ (qS j))⟩;simp only[bD,bG,aH]at this;exact this
 rintro st g w8 ⟨rfl,r',va',vd',o,U,hh,h4,h5⟩;simp only[bD,bG,aH];refine iQ o.at_.at_ (v:=i64 r'.count) rfl ?_;rw[dT];refine GdW.look (decide (r'.each<0)) (λ_ J hJ=>?_) λg2=>?_
 ·refine iQ o.at_.at_ (v:=i64 r'.each) rfl ?_;rw[dT];exact hJ
 simp only[aF,iW];rw[kS];unfold oneOf at hh;by_cases hs:r'.count<0\/r'.each<0
 ·rw[aO hs]at hh;have:(decide (r'.count<0)||decide (r'.each<0))=true:=by simpa using hs
  rw[this];exact yes hh o U h4 h5
 ·rw[aJ hs]at hh;have:(decide (r'.count<0)||decide (r'.each<0))=false:=by simpa using hs
  rw[this];exact ho w8 hh o.mr.mf (fin U)
def WZ(w0:World)(p:Nat)(L:ML)(vS:Value)(path:Str)(s:MS)(b2 b3 b4 b7:Nat)(c3 c7:List Value)(r0:Rs)(j:Nat)(w:World)(r:Rs):Prop:=
 ∃va vd,nS w0 w p L vS path s b4 r va vd (λk=>k=b2\/k=b3\/k=b7)/\w.heap[b2]?=some (.cells [pA p].toArray MpT (0,0))/\w.heap[b3]?=some (.cells c3.toArray BkT (0,0))/\w.heap[b7]?=some (.cells c7.toArray BkT (0,0))
theorem WZ.ext{j:Nat}{r r0:Rs}(h:WZ w0 p L vS path s b2 b3 b4 b7 c3 c7 r0 j w r)(o:Ext w w'):WZ w0 p L vS path s b2 b3 b4 b7 c3 c7 r0 j w' r:=by
 obtain⟨va,vd,g1,g2,g3,g4⟩:=h;exact⟨va,vd,g1.ext o,o.at g2 id,o.at g3 id,o.at g4 id⟩
theorem Ui{j:Nat}{a:Atr}{r r0:Rs}{wz:World}{K':Q0}(xe:a.e<s.m.fl.ex.length)(hI:WZ w0 p L vS path s b2 b3 b4 b7 c3 c7 r0 j wz r)(hy:Ext wz w1)
  (hv:∀r' w',tZ r a (kT s.m.fl a.e)=.ok r'->WZ w0 p L vS path s b2 b3 b4 b7 c3 c7 r0 (j+1) w' r'->K' (.bool true) w')
  (hz:∀w',tZ r a (kT s.m.fl a.e)=.bad 110 a.a->Mf w0 w' p L.M path s.m.fl->(∀k,wz.heap.size<=k->k<w1.heap.size->w'.heap[k]?=w1.heap[k]?)->K' (.bool false) w'):
  mY P0 (.func (.func 183) #[] [pA b4].toArray) [.agg [str a.n,i64 (a.e:Nat),i64 a.a].toArray,.agg (WV L.M a.e).toArray] w1 K':=by
 obtain⟨va,vd,hr,hq,ho,hj⟩:=hI;refine gG (caps:=[pA b4]) ?_;refine RZ ?_;unfold Yz;refine fX λb8 w6 xm xi hh xd=>?_;obtain⟨ua,uk,eu,hu,_⟩:=wC hr.mr.md.fo xe;rw[eu];refine fX λb9 w7 xl xh U hx=>?_;have hg:=xd.trans hx;have hi:=hy.trans hg;have hh:=hx.at hh id;have xj:=hy.size;generalize he:kT s.m.fl a.e=e at*
 have hR:=(hr.ext hi).wide (z1:=wz.heap.size) (z2:=w7.heap.size) hr.lt (aY _);generalize hO:(λk=>(k=b2\/k=b3\/k=b7)\/(wz.heap.size<=k/\k<w7.heap.size))=O at hR;have o2:O b2:=by rw[<-hO];exact .inl (.inl rfl)
 have o3:O b3:=by rw[<-hO];exact .inl (.inr (.inl rfl))
 have o7:O b7:=by rw[<-hO];exact .inl (.inr (.inr rfl))
 have oz:∀k,wz.heap.size<=k->k<w7.heap.size->O k:=λk h1 h2=>by rw[<-hO];exact .inr ⟨h1,h2⟩
 have ol:∀k,(k=b2\/k=b3\/k=b7)->O k:=λk h=>by rw[<-hO];exact .inl h
 have o9:=oz b9 (by omega) (by omega);have hq:=hi.at hq id;have ho:=hi.at ho id;have hj:=hi.at hj id;have fin:∀{w':World},Kp O w7 w'->∀k,wz.heap.size<=k->k<w1.heap.size->w'.heap[k]?=w1.heap[k]?:=λhk k h1 h2=>by
  have:=hg.size;rw[hk.2 k (oz k h1 (by omega)),hg.heap k h2 id]
 refine cX.cut (λst w'=>st=[]/\∃r',nS w0 w' p L vS path s b4 r' va vd O/\Kp O w7 w'/\tZ r a e=if e.k=2\/e.k=3 then .ok r' else .bad 110 a.a) ?_ ?_
 ·simp only[bD,bG,aH];refine iQ hh (v:=str a.n) rfl ?_;rw[eC,bA];refine⟨λe1=>?_,λn1=>?_⟩
  ·have e1:a.n=DN:=e1;refine iQ U (v:=i64 e.k) rfl ?_;rw[bX];refine hR.st (off:=5) (r':={r with swap:=decide (e.k=2)}) rfl (by omega) rfl rfl rfl λw' hs ht=>⟨by trivial,_,hs,ht,Is e1⟩
  have n1:¬a.n=DN:=n1;rw[eC,bA];refine⟨λe2=>?_,λn2=>?_⟩
  ·have e2:a.n=Gh:=e2;refine iQ U (v:=i64 e.k) rfl ?_;rw[bX];refine hR.st (off:=6) (r':={r with prev:=decide (e.k=2)}) rfl (by omega) rfl rfl rfl λw' hs ht=>⟨by trivial,_,hs,ht,It n1 e2⟩
  have n2:¬a.n=Gh:=n2;exact hz w7 (My n1 n2) hR.mr.mf (fin (Kp.refl _ _))
 rintro st g w8 ⟨rfl,r',xa,hc,o⟩;simp only[bD,bG,aH];refine iQ (hc.at U o9) (v:=i64 e.k) rfl ?_;rw[bX];refine GdW.look (decide (e.k=3)) (λ_ J hJ=>?_) λg2=>?_
 ·refine iQ (hc.at U o9) (v:=i64 e.k) rfl ?_;rw[bX];exact hJ
 simp only[aF,iW];rw[kS];by_cases I:e.k=2\/e.k=3
 ·rw[aO I]at o;have:(decide (e.k=2)||decide (e.k=3))=true:=by simpa using I
  rw[this];exact hv r' w8 o ⟨va,vd,xa.less ol,hc.at hq o2,hc.at ho o3,hc.at hj o7⟩
 ·rw[aJ I]at o;have:(decide (e.k=2)||decide (e.k=3))=false:=by simpa using I
  rw[this];exact hz w8 o xa.mr.mf (fin hc)
end
theorem BM{fl:Fl}{M:Lay}{k:Nat}{vl va vb:Value}{B:Nat}(j:k<fl.bl.length)(ec:TH M k=[str (kC fl k).typ,vl,va,vb,i64 (kC fl k).a])(h:FO w B M fl):gD w StT vl (kC fl k).labels.length (strs (kC fl k).labels)/\gD w AtT va (kC fl k).attrs.length (kK (kC fl k).attrs)/\gD w lC vb (kC fl k).blocks.length (ints (kC fl k).blocks):=by
 obtain⟨vl',va',vb',ec',g1,g2,g3⟩:=rD h j;rw[ec]at ec';simp only[fR]at ec';rw[ec'.2.1,ec'.2.2.1,ec'.2.2.2.1];exact⟨g1.sl,g2.sl,g3.sl⟩
theorem EM:ub [.slice none 0 0,.slice none 0 0]=[]:=rfl
structure ZN(fl:Fl)(M:Lay):Prop where
 bk:∀k,k<fl.bl.length->ZO fl M k
 ch:NH fl
 few:fl.ex.length<=100000
 fa:∀k,k<fl.bl.length->(kC fl k).attrs.length<=100000
section
variable [HX]
variable [FK]{w0 w:World}{p:Nat}{L:ML}{vS:Value}{path:Str}{s:MS}{K:Q0}
theorem Ib{k:Nat}(h:MR w0 w p L vS path s)(xo:ZN s.m.fl L.M)(hk:k<s.m.fl.bl.length)(hl:2<=(kC s.m.fl k).labels.length)(yl:s.m.res.length<=100000000000)
  (xd:∀s' L' vS' w',nZ s (kC s.m.fl k)=.ok s'->L'.M=L.M->MR w0 w' p L' vS' path s'->K (.tuple #[]) w')(hh:∀c a,nZ s (kC s.m.fl k)=.bad c a->TC w0 path c a):
  aI P0 141 [pA p,.agg (TH L.M k).toArray] w K:=by
 obtain⟨vl,va,vb,ec,h1,h2,h3⟩:=rD h.md.fo hk;obtain⟨zp,xv,yk,yj,zr,zq⟩:=xo.bk k hk;have ud:=xo.fa k hk;have xf:=λ{w:World} (hF:FO w w0.heap.size L.M s.m.fl)=>BM hk ec hF;generalize hb:kC s.m.fl k=b at*
 rw[ec];refine SD ?_;unfold Za;refine TF λb2 w1 uh zx o yf=>?_;refine fX λb3 w2 ug zw I ye=>?_;have yg:=(yf.trans ye).trans (cP w2);have xp:=h.ext yg;have o:w2.drew.heap[b2]?=_:=ye.at o id;have I:w2.drew.heap[b3]?=some (.cells [str b.typ,vl,va,vb,i64 b.a].toArray BkT (0,0)):=I;obtain⟨x,hx⟩:∃x,b.labels[0]?=some x:=⟨_,List.getElem?_eq_getElem (by omega)⟩;obtain⟨y,hy⟩:∃y,b.labels[1]?=some y:=⟨_,List.getElem?_eq_getElem (by omega)⟩;have yw:b.labels.getD 0 []=x:=by rw[List.getD_eq_getElem?_getD,hx];rfl
 have yu:b.labels.getD 1 []=y:=by rw[List.getD_eq_getElem?_getD,hy];rfl
 have hL:=(xf xp.md.fo).1;obtain⟨p0,zb,xu⟩:=uE (k:=.i64) (i:=0) (u:=str x) hL (by rw[sG];omega) (by unfold strs;rw[List.getElem?_map,hx];rfl);obtain⟨p1,za,xt⟩:=uE (k:=.i64) (i:=1) (u:=str y) hL (by rw[sG];omega) (by unfold strs;rw[List.getElem?_map,hy];rfl);simp only[bD,bG,aH];refine iQ I (v:=vl) rfl (zb _ (xu _ _ (Chg.refl _ _) ?_));refine iQ I (v:=vl) rfl (za _ (xt _ _ (Chg.refl _ _) ?_));refine iQ I (v:=i64 b.a) rfl ?_;simp only[dF,dK,dC,aB,aK,aL,aN];refine⟨by omega,by omega,by omega,by omega,by omega,?_⟩;refine cI λb4 w4 zh yt yo xi=>?_;have o:=xi.at o id;have I:=xi.at I id;refine⟨iQ I rfl rfl,xt _ _ xi rfl,iQ I rfl rfl,xu _ _ xi rfl,iQ I rfl rfl,?_⟩;have zf:=xp.ext xi;have l4:nT w0 w4 p L vS b4 Tk _:=xp.loc yt zh yo;have zl:w2.drew.heap.size=w2.heap.size:=rfl;have zm:=yf.size;refine dD (l:=[str x,str y,.slice none 0 0,i64 (-1),i64 (-1),.bool false,.bool false,.slice none 0 0,i64 b.a]) l4.at_ rfl rfl rfl λw5 zu yn xq=>?_;have ze:=zf.one xq l4.off;have o:=xq.at o (by omega);have I:=xq.at I (by omega);have hmodel:nZ s b=(kZ s.m.fl (tU s.m.fl) [] b.attrs ⟨x,y,[],-1,-1,false,false,[],b.a⟩).bind λr=>(yM s.m.fl 0 b.blocks r).bind λr=>if s.m.res.any (λx=>decide (x.ty=r.ty)&&decide (x.n=r.n))=true then .bad 2 b.a else .ok {s with m:={s.m with res:=s.m.res++[r]}}:=by
  rw[<-yw,<-yu];rfl
 rw[hmodel]at xd hh;have zi:nS w0 w5 p L vS path s b4 ⟨x,y,[],-1,-1,false,false,[],b.a⟩ (.slice none 0 0) (.slice none 0 0) (λk=>k=b2\/k=b3):=
  ⟨ze,⟨yn,l4.off.up xq.size⟩,⟨by simp[kK],.inl ⟨rfl,rfl⟩⟩,⟨by simp[strs],.inl ⟨rfl,rfl⟩⟩,by rw[EM];simp,by rw[EM];simp,λk hk=>⟨by omega,by rw[EM];simp;omega⟩⟩
 refine iQ o (v:=pA p) rfl ?_;refine iQ I (v:=va) rfl ?_;refine yA (M:=L.M) (fl:=s.m.fl) (path:=path) (Inv:=WY w0 p L vS path s b2 b3 b4 [str b.typ,vl,va,vb,i64 b.a]) (take:=tU s.m.fl) (l:=b.attrs) (s:=⟨x,y,[],-1,-1,false,false,[],b.a⟩)
  (λ_ w r ⟨_,_,g,_⟩=>g.mr.mf) (λ_ w w' r hI hx=>hI.ext hx) (λw hF=>(xf hF).2.1) yj xv
  (λj a ha r wz w1 K' hI hx xh xx _=>Uj xo.ch (by have:=(List.getElem?_eq_some_iff.1 ha).1;omega) xo.few (xv a (bI ha)) hI hx xh xx)
  ⟨_,_,zi,o,I,by simp,by simp⟩ ?_ (λc a hR=>hh c a (by rw[hR];rfl))
 intro r1 w6 yz ⟨va1,vd1,yp,o,I,_,_⟩;rw[yz]at xd hh;simp only[RC.bind]at xd hh;refine iQ I (v:=vb) rfl ?_;rw[jH (xf yp.mr.md.fo).2.2];generalize hQ:yM s.m.fl 0 b.blocks r1=Q at*
 refine eJ.go (λst w'=>∃(i:Nat) (r:Rs) (va' vd':Value),st=[i64 (i:Nat)]/\i<=b.blocks.length/\nS w0 w' p L vS path s b4 r va' vd' (λk=>k=b2\/k=b3)/\w'.heap[b2]?=some (.cells [pA p].toArray MpT (0,0))/\w'.heap[b3]?=some (.cells [str b.typ,vl,va,vb,i64 b.a].toArray BkT (0,0))/\yM s.m.fl i (b.blocks.drop i) r=Q)
  (λst _=>match st with|[.int _ i]=>b.blocks.length-i.toNat|_=>0) ⟨0,r1,va1,vd1,rfl,fW _,yp,o,I,hQ⟩ ?_
 rintro st g w8 ⟨i,r,va2,vd2,rfl,hi,hr,o,I,hq⟩;simp only[aF];rw[dT,bA];refine⟨λxm=>?_,λuc=>?_⟩
 ·have xm:i<b.blocks.length:=by omega
  obtain⟨k2,xg⟩:∃z,b.blocks[i]?=some z:=⟨_,List.getElem?_eq_getElem xm⟩;have xa:=yk k2 (bI xg);obtain⟨ql,qa,qb,eq,q1,q2,q3⟩:=rD hr.mr.md.fo xa;obtain⟨gklt,gkat,gkbs,gkf1,gkf2,gkf3⟩:=xo.bk k2 xa;have grow:=λ{w:World} (hF:FO w w0.heap.size L.M s.m.fl)=>BM xa eq hF;rw[dQ xm]at hq;rw[List.getElem?_eq_getElem xm]at xg;injection xg with xg
  rw[xg]at hq;simp only[yM]at hq;generalize yx:kC s.m.fl k2=xb at*
  refine pX (i:=i) (x:=i64 (k2:Nat)) (xf hr.mr.md.fo).2.2 (by rw[sQ];omega) (by unfold ints;rw[List.getElem?_map,List.getElem?_eq_getElem xm,xg];rfl) ?_;refine iQ o (v:=pA p) rfl ?_;simp only[cQ,bD,bG,aH];refine hr.mr.ld rfl ?_;refine sX hr.mr.md.fo.oB.sl hr.mr.md.fo.bb.1 (by omega) xa ?_;have eq':(L.M.cB.drop (k2*5)).take 5=_:=eq;rw[eq'];refine cI λb7 w9 uf zt hg hs=>?_;have xl:([str xb.typ,ql,qa,qb,i64 xb.a]:List Value).all jD=true:=by
   show(true&&(jD ql&&(jD qa&&(jD qb&&(true&&true)))))=true;rw[gE q1.sl,gE q2.sl,gE q3.sl];rfl
  refine dD (l:=[str xb.typ,ql,qa,qb,i64 xb.a]) hg rfl rfl xl λw10 yc hg ym=>?_;have hj:Ext w8 w10:=hs.new ym (by omega);have U:=hr.ext hj;have o:=hj.at o id;have I:=hj.at I id;refine cX.cut (λst w'=>st=[]/\w'=w10/\¬(0<i/\xb.typ=AZ)) ?_ ?_
  ·rw[fJ];refine GdW.look (decide (xb.typ=AZ)) (λ_ J hJ=>?_) λg2=>?_
   ·refine iQ hg (v:=str xb.typ) rfl ?_;rw[eC];exact hJ
   simp only[aF,fO];rw[fB,dU];refine⟨λhc=>?_,λhc=>⟨by trivial,by trivial,λh=>?_⟩⟩
   ·have hc:0<i/\xb.typ=AZ:=by
     simp only[bL,fD]at hc;exact⟨by omega,hc.2⟩
    rw[aO hc]at hq;refine iQ o (v:=pA p) rfl ?_;refine iQ hg (v:=i64 xb.a) rfl ?_;exact lW U.mr.mf (hh 2 xb.a (by rw[<-hq]))
   ·have:(decide ((0:Int)<(i:Int))&&decide (xb.typ=AZ))=true:=by
     simp only[bL,fD];exact⟨by omega,h.2⟩
    rw[this]at hc;cases hc
  rintro st g3 w11 ⟨rfl,rfl,zd⟩;rw[aJ zd]at hq;refine cX.cut (λst w'=>st=[]/\w'=w11/\¬(xb.typ≠AZ\/xb.labels≠[])) ?_ ?_
  ·refine iQ hg (v:=str xb.typ) rfl ?_;rw[gC];have yi:=jH (grow U.mr.md.fo).1;refine GdW.look (decide (xb.labels≠[])) (λ_ J hJ=>?_) λg2=>?_
   ·refine iQ hg (v:=ql) rfl ?_;rw[yi,fJ];have e:decide ((0:Int)<(xb.labels.length:Int))=decide (xb.labels≠[]):=decide_eq_decide.2 ⟨λh e=>by rw[e]at h;simp at h,λh=>by have:=gY.2 h;omega⟩;rw[e];exact hJ
   simp only[aF,iW];rw[kS,dU];refine⟨λhc=>?_,λhc=>⟨by trivial,by trivial,λh=>?_⟩⟩
   ·have hc:xb.typ≠AZ\/xb.labels≠[]:=by
     simp only[fS,fD]at hc;exact hc
    rw[aO hc]at hq;refine iQ o (v:=pA p) rfl ?_;refine iQ hg (v:=i64 xb.a) rfl ?_;exact lW U.mr.mf (hh 110 xb.a (by rw[<-hq]))
   ·have:(decide (xb.typ≠[108,105,102,101,99,121,99,108,101])||decide (xb.labels≠[]))=true:=by
     simp only[fS,fD];exact h
    rw[this]at hc;cases hc
  rintro st g4 w12 ⟨rfl,rfl,zc⟩;rw[aJ zc]at hq;refine iQ o (v:=pA p) rfl ?_;refine iQ hg (v:=qa) rfl ?_;have yq:nS w0 w12 p L vS path s b4 r va2 vd2 (λk=>k=b2\/k=b3\/k=b7):=
   ⟨U.mr,U.at_,U.oa,U.od,U.nd,U.off,λk hk=>by
    rcases hk with hk|hk|hk
    ·exact U.ox k (.inl hk)
    ·exact U.ox k (.inr hk)
    ·subst hk;exact⟨mJ hg,λhm=>by have:=hr.lt k hm;omega⟩⟩
  refine yA (M:=L.M) (fl:=s.m.fl) (path:=path) (Inv:=WZ w0 p L vS path s b2 b3 b4 b7 [str b.typ,vl,va,vb,i64 b.a] [str xb.typ,ql,qa,qb,i64 xb.a] r) (take:=tZ) (l:=xb.attrs) (s:=r)
   (λ_ w r ⟨_,_,g,_⟩=>g.mr.mf) (λ_ w w' r hI hx=>hI.ext hx) (λw hF=>(grow hF).2.1) gkf1 gkat
   (λj a ha r wz w1 K' hI hx xh xx _=>Ui (gkat a (bI ha)) hI hx xh xx)
   ⟨_,_,yq,o,I,hg⟩ ?_ (λc a hR=>hh c a (by rw[<-hq,hR];rfl))
  intro r3 w13 yy ⟨va3,vd3,xn,o,I,hg⟩;rw[yy]at hq;simp only[RC.bind]at hq;refine iQ o (v:=pA p) rfl ?_;refine fQ hg rfl ?_;have zg:BkR w13 w0.heap.size xb [str xb.typ,ql,qa,qb,i64 xb.a]:=by
   have:=rD xn.mr.md.fo xa;rw[eq,yx]at this;exact this
  refine CZ xn.mr.mf zg gkbs gkf2 (λw14 hB xj=>?_) λc a hB=>hh c a (by rw[<-hq,hB]);rw[hB]at hq;simp only at hq;rw[cG,upi (by omega)];exact⟨⟨i+1,r3,va3,vd3,rfl,by omega,(xn.ext xj).less (λk hk=>hk.elim .inl λe=>.inr (.inl e)),xj.at o id,xj.at I id,hq⟩,by simp only[bC];omega⟩
 ·obtain rfl:i=b.blocks.length:=by omega
  rw[fZ]at hq;simp only[yM]at hq;rw[<-hq]at xd hh;simp only at xd hh;refine cX.cut (λst w'=>st=[]/\Ext w8 w'/\s.m.res.any (λx=>decide (x.ty=r.ty)&&decide (x.n=r.n))=false) ?_ ?_
  ·refine iQ o (v:=pA p) rfl ?_;simp only[cQ,bD,bG,aH];refine hr.mr.ld rfl ?_;refine Hm (l:=s.m.res) (B:=w0.heap.size) (cs:=L.cR) (q:=λx=>decide (x.ty=r.ty)&&decide (x.n=r.n)) hr.mr.md.oR.sl hr.mr.md.rr (by omega) (λx hx c hc {w9 K9} hs zk=>gG (caps:=[pA b4]) ?_) λw9 hs=>?_
   ·obtain⟨ya,yd,rfl,_,_⟩:=hc;refine RX ?_;unfold Yx;refine fX λb9 w10 ue yc xw hj=>?_;have l4:=hj.at (hs.at hr.at_.at_ id) id;simp only[bD,bG,aH];refine iQ xw (v:=str x.ty) rfl ?_;refine iQ l4 (v:=str r.ty) rfl ?_;rw[eC];refine GdW.look (decide (x.n=r.n)) (λ_ J hJ=>?_) λg2=>?_
    ·refine iQ xw (v:=str x.n) rfl ?_;refine iQ l4 (v:=str r.n) rfl ?_;rw[eC];exact hJ
    simp only[aF,fO];rw[fB];exact zk _ hj
   ·rw[dU];refine⟨λxc=>?_,λxc=>⟨by trivial,hs,xc⟩⟩;refine iQ (hs.at o id) (v:=pA p) rfl ?_;refine iQ (hs.at I id) (v:=i64 b.a) rfl ?_;exact lW (hr.mr.mf.ext hs) (hh 2 b.a (by rw[aO xc]))
  rintro st g3 w9 ⟨rfl,hs,xc⟩;rw[aJ (by rw[xc];decide)]at xd;have hj:=hs.trans (cP w9);have U:=hr.ext hj;have o:=hj.at o id;refine iQ o (v:=pA p) rfl ?_;refine iQ o (v:=pA p) rfl ?_;simp only[cQ,bD,bG,aH];refine U.mr.ld rfl ?_;refine fQ U.at_.at_ rfl ?_;refine row_one (by rfl) (by rfl) (by omega) λt w11 ht xr=>?_;have ho:=U.ext xr;have o:=xr.at o id;refine⟨ho.mr.ld rfl rfl,iQ o rfl rfl,iQ o rfl rfl,?_⟩;have xl:∀u∈Lg r va2 vd2,jD u=true:=λu hu=>by
   simp only[Lg,aX,bQ,fF]at hu;rcases hu with rfl|rfl|rfl|rfl|rfl|rfl|rfl|rfl|rfl<;>first|rfl|exact gE ho.oa.sl|exact gE ho.od.sl
  refine ho.mr.app_R (x:=r) ht rfl xl yl λv' w12 hO hc hn=>?_;have xy:=hc.at o (λe=>by
   have e:L.vR.ownBlock=some b2:=e;have h0:=xp.in_ b2 (by rw[jO];exact aE _ (dS (v:=L.vR) (by simp[ML.vals]) e));have h1:=h.in_ b2 (by rw[jO];exact aE _ (dS (v:=L.vR) (by simp[ML.vals]) e));omega)
  refine⟨iQ xy rfl rfl,?_⟩;have eub:ub (Lg r va2 vd2)=ub [va2,vd2]:=by
   unfold Lg ub;simp only[List.filterMap_cons,List.filterMap_nil];rfl
  refine ho.mr.st_R (x:=r) (d:=Lg r va2 vd2) hO hc hn ⟨va2,vd2,rfl,ho.oa,ho.od⟩ rfl (by rw[eub];exact(dB.1 ho.nd).2) (by rw[eub];exact ho.off) λw13 yh _ _=>?_;exact xd _ {L with vR:=v',cR:=L.cR++Lg r va2 vd2} vS _ rfl rfl yh
end
theorem Lw{A B:List Value}{p:Nat}{v':Value}(o:(p::ub (A++v::B)).Nodup)(hb:∀k,v'.ownBlock=some k->v.ownBlock=some k\/k∉p::ub (A++v::B)):(p::ub (A++v'::B)).Nodup:=by
 have e:∀u:Value,ub (A++u::B)=ub A++(u.ownBlock.toList++ub B):=λu=>by
  rw[mQ];congr 1;unfold ub;rw[List.filterMap_cons];cases u.ownBlock<;>rfl
 rw[e]at o hb⊢;cases J:v'.ownBlock with
 |none=>
  refine o.sublist ?_;simp only[Option.toList_none,gJ];exact(List.Sublist.append_left (List.sublist_append_right _ _) _).cons_cons _
 |some k=>
  rcases hb k J with h|h
  ·rw[h]at o;exact o
  ·have I:(p::(ub A++ub B)).Nodup:=o.sublist ((List.Sublist.append_left (List.sublist_append_right _ _) _).cons_cons _);have:(p::(ub A++([k]++ub B))).Perm (k::p::(ub A++ub B)):=by
    refine(List.Perm.cons p ?_).trans (List.Perm.swap _ _ _);exact lZ
   refine(this.nodup_iff).2 (dB.2 ⟨λj=>h ?_,I⟩);rcases aX.1 j with e|j
   ·rw[e];exact aW
   ·refine aE _ ?_;rcases bH.1 j with j|j
    ·exact bS _ j
    ·exact bF _ (bF _ j)
theorem MR.put_CS[FK]{w0 w2:World}{p:Nat}{L:ML}{vS:Value}{path:Str}{s:MS}{vC' vS':Value}{x:Cl}{y:Str}{d:List Value}(h:MR w0 w p L vS path s)(ht:Own w2 w0.heap.size Tq 4 vC' (s.m.calls.length+1) (L.cC++d))(xd:Own w2 w0.heap.size StT 1 vS' (s.src.length+1) (strs s.src++strs [y]))
  (hc:Chg (λk=>L.vC.ownBlock=some k\/vS.ownBlock=some k\/k=p) w w2)(hs:∀k,vC'.ownBlock=some k->L.vC.ownBlock=some k\/w.heap.size<=k)(hr:∀k,vS'.ownBlock=some k->vS.ownBlock=some k\/w.heap.size<=k)(xe:∀k,vC'.ownBlock=some k->vS'.ownBlock≠some k)
  (hx:HH w w0.heap.size x d)(hl:d.length=4)(hd:(ub d).Nodup)(hf:∀k∈ub d,tN w0 w p L vS k)(hp:w2.heap[p]?=some (.cells (({L with vC:=vC',cC:=L.cC++d}:ML).cells s.m.dir++[str path,vS']).toArray Le (0,0))):
  MR w0 w2 p {L with vC:=vC',cC:=L.cC++d} vS' path ⟨{s.m with calls:=s.m.calls++[x]},s.src++[y]⟩:=by
 have hq:=h.nd;have U:=h.in_;rw[jO]at hq U;have hz:=hc.size;have eA:[vS]++L.vals=([vS]++(([L.M.vE,L.M.vB,L.M.vT]++(L.M.cE++L.M.cB))++[L.vV,L.vL,L.vO,L.vR]))++L.vC::(L.cR++L.cC):=by simp[ML.vals]
 have hi:(p::ub ([]++vS::L.vals)).Nodup:=hq;have hj:=hq;rw[eA]at hj;have othC:=qW hj;have othS:=qW hi;have oth:∀v∈([L.M.vE,L.M.vB,L.M.vT]++(L.M.cE++L.M.cB))++([L.vV,L.vL,L.vO,L.vR]++(L.cR++L.cC)),∀k,v.ownBlock=some k->¬(L.vC.ownBlock=some k\/vS.ownBlock=some k\/k=p):=λv j k I e=>by
  have h1:v∈([vS]++(([L.M.vE,L.M.vB,L.M.vT]++(L.M.cE++L.M.cB))++[L.vV,L.vL,L.vO,L.vR]))++(L.cR++L.cC):=by
   simp only[bH,aX,bQ,fF]at j⊢
   grind
  have h2:v∈([]:List Value)++L.vals:=by
   simp only[ML.vals,bH,aX,bQ,fF,false_or]at j⊢
   grind
  rcases e with e|e|e
  ·exact othC v h1 k I (.inl e)
  ·exact othS v h2 k I (.inl e)
  ·exact othS v h2 k I (.inr e)
 have own:∀{v:Value} {e:TypeId} {n m:Nat} {xs:List Value},Own w w0.heap.size e m v n xs->v∈([L.M.vE,L.M.vB,L.M.vT]++(L.M.cE++L.M.cB))++([L.vV,L.vL,L.vO,L.vR]++(L.cR++L.cC))->Own w2 w0.heap.size e m v n xs:=λh j=>dP h hc (oth _ j);have xc:=hx.at_ hc λk I e=>by
  have h1:=(hf k I).2.2.1;rw[jO]at h1;rcases e with e|e|e
  ·exact h1 (aE _ (dS (v:=L.vC) (by simp[ML.vals]) e))
  ·exact h1 (aE _ (dS (v:=vS) (by simp) e))
  ·exact h1 (by rw[e];exact aW)
 have xg:kM (HH w2 w0.heap.size) 4 s.m.calls L.cC:=h.md.cc.imp λy e he hy=>hy.at_ hc λk I=>by
  obtain⟨v,j,I⟩:=bO.1 I;exact oth v (by simp[he v j]) k I
 refine⟨h.ch.then hc λk I e=>?_,hp,⟨h.md.fo.keep hc λk _ _ I=>?_,own h.md.oV (by simp),own h.md.oL (by simp),own h.md.oO (by simp),own h.md.oR (by simp),by rw[aP];exact ht,h.md.rr.imp λy e he hy=>hy.at_ hc λk I=>?_,xg.snoc xc hl,λk I=>?_⟩,by rw[wH,aP];exact xd,?_,h.lp,?_⟩
 ·rcases e with e|e|e
  ·have:=(U k (aE _ (dS (v:=L.vC) (by simp[ML.vals]) e))).2;omega
  ·have:=(U k (aE _ (dS (v:=vS) (by simp) e))).2;omega
  ·have:=h.lp;omega
 ·obtain⟨v,j,I⟩:=bO.1 I;exact oth v (bS _ j) k I
 ·obtain⟨v,j,I⟩:=bO.1 I;exact oth v (by simp[he v j]) k I
 ·obtain⟨v,j,J⟩:=bO.1 I;have j:v=vC'\/v∈[vS]++L.vals\/v∈d:=by
   simp only[ML.vals,bH,aX,bQ,fF]at j⊢
   grind
  rcases j with rfl|j|j
  ·exact kA ht J
  ·have:=U k (aE _ (dS j J));omega
  ·have h0:=hf k (dS j J);exact⟨cV h0.2.1 hz,h0.1⟩
 ·have s1:(p::ub ([]++vS'::L.vals)).Nodup:=zK (z:=w.heap.size) hi hr λk I=>(U k I).1;have e1:[]++vS'::L.vals=([vS']++(([L.M.vE,L.M.vB,L.M.vT]++(L.M.cE++L.M.cB))++[L.vV,L.vL,L.vO,L.vR]))++L.vC::(L.cR++L.cC):=by simp[ML.vals]
  have in1:∀k∈p::ub ([]++vS'::L.vals),k∈p::ub ([vS]++L.vals)\/vS'.ownBlock=some k:=λk I=>by
   rcases aX.1 I with e|I
   ·exact .inl (by rw[e];exact aW)
   ·obtain⟨v,j,J⟩:=bO.1 I;rcases aX.1 j with rfl|j
    ·exact .inr J
    ·exact .inl (aE _ (dS (bF _ j) J))
  have lt1:∀k∈p::ub ([]++vS'::L.vals),vC'.ownBlock=some k->w.heap.size<=k->False:=λk I j hw=>by
   rcases in1 k I with e|e
   ·have:=(U k e).1;omega
   ·exact xe k j e
  rw[e1]at s1 lt1;have s2:=Lw (v':=vC') s1 λk I=>(hs k I).imp id λe hm=>lt1 k hm I e;rw[jO];have e2:([vS']++(([L.M.vE,L.M.vB,L.M.vT]++(L.M.cE++L.M.cB))++[L.vV,L.vL,L.vO,L.vR]))++vC'::(L.cR++L.cC)=(([vS']++(([L.M.vE,L.M.vB,L.M.vT]++(L.M.cE++L.M.cB))++[L.vV,L.vL,L.vO,L.vR]))++vC'::(L.cR++L.cC))++[]:=by simp
  have e3:[vS']++({L with vC:=vC',cC:=L.cC++d}:ML).vals=(([vS']++(([L.M.vE,L.M.vB,L.M.vT]++(L.M.cE++L.M.cB))++[L.vV,L.vL,L.vO,L.vR]))++vC'::(L.cR++L.cC))++(d++[]):=by simp[ML.vals]
  rw[e2]at s2;rw[e3];refine Lx s2 hd λk I hm=>?_;have h0:=hf k I;have h1:=h0.2.2.1;rw[jO]at h1;rw[<-e2]at hm;rcases aX.1 hm with rfl|hm
  ·exact h1 aW
  ·obtain⟨v,j,J⟩:=bO.1 hm;have j:v=vC'\/v=vS'\/v∈[vS]++L.vals:=by
    simp only[ML.vals,bH,aX,bQ,fF]at j⊢
    grind
   have h2:=h0.2.1;rcases j with rfl|rfl|j
   ·rcases hs k J with e|e
    ·exact h1 (aE _ (dS (v:=L.vC) (by simp[ML.vals]) e))
    ·omega
   ·rcases hr k J with e|e
    ·exact h1 (aE _ (dS (v:=vS) (by simp) e))
    ·omega
   ·exact h1 (aE _ (dS j J))
 ·intro k o I;obtain⟨g1,g2⟩:=h.fk k o I;have g3:=mJ g1;rw[jO]at g2;refine⟨hc.at g1 λe=>?_,λhm=>?_⟩
  ·rcases e with e|e|e
   ·exact g2 (aE _ (dS (v:=L.vC) (by simp[ML.vals]) e))
   ·exact g2 (aE _ (dS (v:=vS) (by simp) e))
   ·exact g2 (by rw[e];exact aW)
  ·rw[jO]at hm;rcases aX.1 hm with e|hm
   ·exact g2 (by rw[e];exact aW)
   obtain⟨v,j,J⟩:=bO.1 hm;have j:v=vC'\/v=vS'\/v∈[vS]++L.vals\/v∈d:=by
    simp only[ML.vals,bH,aX,bQ,fF]at j⊢
    grind
   rcases j with rfl|rfl|j|j
   ·rcases hs k J with e|e
    ·exact g2 (aE _ (dS (v:=L.vC) (by simp[ML.vals]) e))
    ·omega
   ·rcases hr k J with e|e
    ·exact g2 (aE _ (dS (v:=vS) (by simp) e))
    ·omega
   ·exact g2 (aE _ (dS j J))
   ·exact(hf k (dS j J)).2.2.2 o I
section
variable [HX]
variable [FK]{w0 w w1 w':World}{p:Nat}{L:ML}{vS:Value}{path:Str}{s:MS}{b3 b4 b5:Nat}{n:Str}{ca:Int}{x:List Atr×Str}{va:Value}{O:Nat->Prop}
structure pC(w0 w:World)(p:Nat)(L:ML)(vS:Value)(path:Str)(s:MS)(b4 b5:Nat)(n:Str)(ca:Int)(x:List Atr×Str)(va:Value)(O:Nat->Prop):Prop where
 mr:MR w0 w p L vS path s
 at_:nT w0 w p L vS b4 Tq [str n,i64 0,va,i64 ca]
 as_:nT w0 w p L vS b5 StT [str x.2]
 oa:Own w w0.heap.size AtT 3 va x.1.length (kK x.1)
 nv:∀k,va.ownBlock=some k->tN w0 w p L vS k/\k≠b4/\k≠b5
 ne:b4≠b5
 ox:∀k,O k->k<w.heap.size/\k≠b4/\k≠b5/\va.ownBlock≠some k
theorem pC.ext(h:pC w0 w p L vS path s b4 b5 n ca x va O)(j:Ext w w'):pC w0 w' p L vS path s b4 b5 n ca x va O:=
 ⟨h.mr.ext j,h.at_.ext j,h.as_.ext j,h.oa.ext j,λk o=>⟨(h.nv k o).1.up j.size,(h.nv k o).2⟩,h.ne,λk o=>⟨cV (h.ox k o).1 j.size,(h.ox k o).2⟩⟩
theorem pC.kp(h:pC w0 w p L vS path s b4 b5 n ca x va O)(j:Ext w w'):Kp O w w':=MZ j λk o=>(h.ox k o).1
theorem pC.less{O':Nat->Prop}(h:pC w0 w p L vS path s b4 b5 n ca x va O)(o:∀k,O' k->O k):pC w0 w p L vS path s b4 b5 n ca x va O':=⟨h.mr,h.at_,h.as_,h.oa,h.nv,h.ne,λk j=>h.ox k (o k j)⟩
theorem pC.wide{z1 z2:Nat}(h:pC w0 w p L vS path s b4 b5 n ca x va O)(U:b4<z1)(J:b5<z1)(j:∀k,va.ownBlock=some k->k<z1)(h2:z2<=w.heap.size):pC w0 w p L vS path s b4 b5 n ca x va (λk=>O k\/(z1<=k/\k<z2)):=
 ⟨h.mr,h.at_,h.as_,h.oa,h.nv,h.ne,λk I=>I.elim (h.ox k) λe=>⟨by omega,by omega,by omega,λo=>by have:=j k o;omega⟩⟩
theorem pC.push{a:Atr}{t:Value}{KW:World->Prop}(h:pC w0 w p L vS path s b4 b5 n ca x va O)(ht:gD w AtT t 1 (kK [a]))(hs:x.1.length<=10000000000)
  (hK:∀va' w',pC w0 w' p L vS path s b4 b5 n ca (x.1++[a],x.2) va' O->Kp O w w'->KW w'):
  fH P0 (Builtin.append_ #[36,36] 36 #[va,t]) w λt15 w13=>aZ 2 (.pointer (some ⟨b4,0,none⟩)) λt16=>stW 1 t16 t15 w13 KW:=by
 refine iL Hf h.oa ht rfl (λu hu=>by simp only[kK,fY,Ax,eZ,aX,bQ,fF]at hu;rcases hu with rfl|rfl|rfl<;>rfl) (by omega) (by omega) h.mr.base λv' w1 hO U hn=>?_;have hz:=U.size;have h4:va.ownBlock≠some b4:=λe=>(h.nv b4 e).2.1 rfl;have h5:va.ownBlock≠some b5:=λe=>(h.nv b5 e).2.2 rfl;have hi:=tH h.mr U λk j=>(h.nv k j).1;have hg:=Fi h.mr hz hn (λk j=>(h.nv k j).1) λk j=>(kA hO j).1;have J:∀k,v'.ownBlock=some k->k≠b4/\k≠b5:=λk j=>by
  have l4:=h.at_.lt;have l5:=h.as_.lt;rcases hn k j with e|e
  ·exact(h.nv k e).2
  ·exact⟨by omega,by omega⟩
 rw[bD,bG,aH];refine jZ (U.at h.at_.at_ h4) (gE hO.sl) (by simp) λw2 hv hj o=>?_;refine hK v' w2 ⟨tH hi o λk e=>by have e:k=b4:=e;exact e▸h.at_.off.up hz,⟨by rw[hj];simp,h.at_.off.up (by omega)⟩,⟨o.at (U.at h.as_.at_ h5) (λe=>h.ne (by have e:b5=b4:=e;exact e.symm)),h.as_.off.up (by omega)⟩,?_,λk j=>⟨(hg k j).up (by omega),J k j⟩,h.ne,λk j=>?_⟩ ⟨by omega,λk j=>?_⟩
 ·show Own w2 _ _ _ v' (x.1++[a]).length (kK (x.1++[a]));rw[Au,aP];exact dP hO o λk j=>(J k j).1
 ·have I:=h.ox k j;refine⟨by omega,I.2.1,I.2.2.1,λe=>?_⟩;rcases hn k e with e|e
  ·exact I.2.2.2 e
  ·omega
 ·have I:=h.ox k j;rw[o.heap k (by omega) I.2.1,U.heap k I.1 I.2.2.2]
theorem pC.src{y:Str}{KW:World->Prop}(h:pC w0 w p L vS path s b4 b5 n ca x va O)(U:∀w',pC w0 w' p L vS path s b4 b5 n ca (x.1,y) va O->Kp O w w'->KW w'):stW 1 (.pointer (some ⟨b5,0,none⟩)) (str y) w KW:=by
 refine jZ h.as_.at_ rfl (by simp) λw2 I J j=>?_;refine U w2 ⟨tH h.mr j λk e=>by have e:k=b5:=e;exact e▸h.as_.off,⟨j.at h.at_.at_ h.ne,h.at_.off.up j.size⟩,⟨by rw[J];simp,h.as_.off.up j.size⟩,dP h.oa j λk o=>(h.nv k o).2.2,λk o=>⟨(h.nv k o).1.up j.size,(h.nv k o).2⟩,h.ne,λk o=>⟨by rw[I];exact(h.ox k o).1,(h.ox k o).2⟩⟩ ⟨j.size,λk o=>j.heap k (h.ox k o).1 (h.ox k o).2.2.1⟩
def Xa(w0:World)(p:Nat)(L:ML)(vS:Value)(path:Str)(s:MS)(b3 b4 b5:Nat)(c3:List Value)(n:Str)(ca:Int)(j:Nat)(w:World)(x:List Atr×Str):Prop:=
 ∃va,pC w0 w p L vS path s b4 b5 n ca x va (λk=>k=b3)/\w.heap[b3]?=some (.cells c3.toArray BkT (0,0))/\x.1.length<=j
theorem Xa.ext{c3:List Value}{j:Nat}(h:Xa w0 p L vS path s b3 b4 b5 c3 n ca j w x)(o:Ext w w'):Xa w0 p L vS path s b3 b4 b5 c3 n ca j w' x:=by
 obtain⟨va,g1,g2,g3⟩:=h;exact⟨va,g1.ext o,o.at g2 id,g3⟩
theorem IL{x:List Atr×Str}{a:Atr}{e:Ex}(h:¬a.n=zP):xG x a e=.ok (x.1++[a],x.2):=by unfold xG;rw[aJ h]
theorem KT{x:List Atr×Str}{a:Atr}{e:Ex}(h:a.n=zP):xG x a e=if e.k=5/\lL e.t=true then .ok (x.1,e.t)else .bad 110 a.a:=by unfold xG;rw[aO h]
theorem QW{c3:List Value}{j:Nat}{a:Atr}{wz:World}{K':Q0}(hj:j<=1000000)(hA:NH s.m.fl)(hy:a.e<s.m.fl.ex.length)(hI:Xa w0 p L vS path s b3 b4 b5 c3 n ca j wz x)(hx:Ext wz w1)
  (hq:∀x' w',xG x a (kT s.m.fl a.e)=.ok x'->Xa w0 p L vS path s b3 b4 b5 c3 n ca (j+1) w' x'->K' (.bool true) w')
  (xe:∀w',xG x a (kT s.m.fl a.e)=.bad 110 a.a->Mf w0 w' p L.M path s.m.fl->(∀k,wz.heap.size<=k->k<w1.heap.size->w'.heap[k]?=w1.heap[k]?)->K' (.bool false) w'):
  mY P0 (.func (.func 186) #[] [pA b4,pA b5].toArray) [.agg [str a.n,i64 (a.e:Nat),i64 a.a].toArray,.agg (WV L.M a.e).toArray] w1 K':=by
 obtain⟨va,hg,hi,xn⟩:=hI;refine gG (caps:=[pA b4,pA b5]) ?_;refine RV ?_;unfold Yw;refine fX λb6 w6 xq xk I xd=>?_;obtain⟨ua,uk,eu,hu,_⟩:=wC hg.mr.md.fo hy;rw[eu];refine fX λb7 w7 xp xj hc hv=>?_;have U:=xd.trans hv;have hr:=hx.trans U;have I:=hv.at I id;have xl:=hx.size;have xo:=(hA.few _ (bI (sS hy))).2;generalize he:kT s.m.fl a.e=e at*
 have hR:=(hg.ext hr).wide (z1:=wz.heap.size) (z2:=w7.heap.size) hg.at_.lt hg.as_.lt (λk hk=>(hg.nv k hk).1.2.1) (aY _);generalize hO:(λk=>(k=b3)\/(wz.heap.size<=k/\k<w7.heap.size))=O at hR;have o3:O b3:=by rw[<-hO];exact .inl rfl
 have oz:∀k,wz.heap.size<=k->k<w7.heap.size->O k:=λk h1 h2=>by rw[<-hO];exact .inr ⟨h1,h2⟩
 have ol:∀k,(k=b3)->O k:=λk h=>by rw[<-hO];exact .inl h
 have o6:=oz b6 (by omega) (by omega);have o7:=oz b7 (by omega) (by omega);have hi:=hr.at hi id;have fin:∀{w':World},Kp O w7 w'->∀k,wz.heap.size<=k->k<w1.heap.size->w'.heap[k]?=w1.heap[k]?:=λhk k h1 h2=>by
  have:=U.size;rw[hk.2 k (oz k h1 (by omega)),U.heap k h2 id]
 simp only[bD,bG,aH];refine iQ I (v:=str a.n) rfl ?_;rw[gC,bA];refine⟨λn1=>?_,λn1=>?_⟩
 ·have n1:¬a.n=zP:=n1;refine iQ hR.at_.at_ (v:=va) rfl ?_;refine fQ I rfl ?_;refine row_one (by rfl) (by rfl) (by omega) λt w8 ht hs=>?_;have ho:=hR.ext hs;have:=ho.push (a:=a) (KW:=λw5=>K' (.bool true) w5) ht (by omega) λva' w9 xh xf=>hq _ w9 (IL n1) ⟨va',xh.less ol,((hR.kp hs).trans xf).at hi o3,by simp;omega⟩;simp only[bD,bG,aH]at this;exact this
 ·have n1:a.n=zP:=jA n1;refine iQ hc (v:=str e.t) rfl ?_;refine hR.src λw8 ho hh=>?_;refine iQ (hh.at hc o7) (v:=i64 e.k) rfl ?_;rw[bX];refine GdW.look (lL e.t) (λ_ J hJ=>?_) λg2=>?_
  ·refine iQ (hh.at hc o7) (v:=str e.t) rfl ?_;exact Jq (by omega) hJ
  simp only[aF,fO];rw[fB];have hm:=KT (x:=x) (e:=e) n1;by_cases o:e.k=5/\lL e.t=true
  ·rw[aO o]at hm;rw[bK o.1,o.2];exact hq _ w8 hm ⟨va,ho.less ol,hh.at hi o3,by show x.1.length<=_;omega⟩
  ·rw[aJ o]at hm;have:(decide (e.k=5)&&lL e.t)=false:=by
    cases h1:decide (e.k=5)with
    |false=>rfl
    |true=>
     cases h2:lL e.t with
     |false=>rfl
     |true=>exact absurd ⟨dJ h1,h2⟩ o
   rw[this];exact xe w8 hm ho.mr.mf (fin hh)
theorem HY{x:Str}{K:Q0}(o:∀t w',gD w' StT t 1 (strs [x])->(∀k,t.ownBlock=some k->w.heap.size<=k)->Ext w w'->K t w'):fV StT 1 [.string (ofL [])] [(0,1,str x)] w K:=by
 rw[fV];simp only[dK,dC,aB,aK,aL];refine⟨by omega,?_⟩;refine o _ _ ⟨_,_,rfl,aY _,λe=>(by cases e),λ_=>⟨_,_,_,_,rfl,jY _ _ _ rfl,λi _=>by rw[aH,List.getElem?_toArray];rfl⟩⟩ (λk j=>by cases j;exact aY _) (Chg.alloc (Chg.refl _ _) _)
theorem Ng{wA w17 w18:World}{vC' t:Value}{KW:World->Prop}(hR:pC w0 wA p L vS path s b4 b5 n ca x va O)(hO:Own w17 w0.heap.size Tq 4 vC' (s.m.calls.length+1) (L.cC++[str n,i64 0,va,i64 ca]))(hc:Chg (λk=>L.vC.ownBlock=some k) wA w17)(hn:∀k,vC'.ownBlock=some k->L.vC.ownBlock=some k\/wA.heap.size<=k)
  (hx:Ext w17 w18)(ht:gD w18 StT t 1 (strs [x.2]))(xo:s.src.length<=100000000000)(hK:∀L' vS' w21,L'.M=L.M->MR w0 w21 p L' vS' path ⟨{s.m with calls:=s.m.calls++[⟨n,0,x.1,ca⟩]},s.src++[x.2]⟩->KW w21):
  fH P0 (Builtin.append_ #[33,33] 33 #[vS,t]) w18 λt54 w19=>stW 1 (.pointer (some ⟨p,8,none⟩)) vC' w19 λw20=>stW 1 (.pointer (some ⟨p,10,none⟩)) t54 w20 KW:=by
 have o:=hR.mr;have J:vS∈[vS]++L.vals:=by simp
 have ho:L.vC∈[vS]++L.vals:=by simp[ML.vals]
 have hs:=o.nd;rw[jO]at hs;have xc:∀k,vS.ownBlock=some k->L.vC.ownBlock≠some k:=λk j e=>by
  have hr:(p::ub ([]++vS::L.vals)).Nodup:=hs;exact qW hr L.vC (by simp[ML.vals]) k e (.inl j)
 have lt:∀{v:Value},v∈[vS]++L.vals->∀k,v.ownBlock=some k->k<wA.heap.size:=λhv k j=>(o.in_ k (by rw[jO];exact aE _ (dS hv j))).1;have hg:=dP o.oS hc λk j=>xc k j;have U:=hg.ext hx;have z1:=hc.size;have z2:=hx.size;have zb:=o.base;refine iL CK U ht rfl (λu hu=>by simp only[strs,fC,jQ,aX,bQ,fF]at hu;subst hu;rfl) (by omega) (by omega) (by omega) λvS' w19 xd I hh=>?_;have z3:=I.size;have xr:=o.plt;have xe:∀k,vC'.ownBlock=some k->vS.ownBlock≠some k:=λk j e=>by
  rcases hn k j with h|h
  ·exact xc k e h
  ·have:=lt J k e;omega
 have xk:∀k,vC'.ownBlock=some k->k≠p:=λk j e=>by
  rcases hn k j with h|h
  ·exact o.val_ne ho k h e
  ·omega
 have xh:∀k,vS'.ownBlock=some k->k≠p:=λk j e=>by
  rcases hh k j with h|h
  ·exact o.val_ne J k h e
  ·omega
 have hq:=I.at (hx.at (hc.at o.pm λe=>o.val_ne ho p e rfl) id) λe=>o.val_ne J p e rfl;refine jZ hq (gE hO.sl) (by simp[ML.cells]) λw20 xm xb hz=>?_;refine jZ xb (gE xd.sl) (by simp[ML.cells]) λw21 xl xa hy=>?_;have hi:Chg (One p) w19 w21:=hz.trans hy;refine hK {L with vC:=vC',cC:=L.cC++[str n,i64 0,va,i64 ca]} vS' w21 rfl ?_;have eub:ub [str n,i64 0,va,i64 ca]=ub [va]:=by
  unfold ub;simp only[List.filterMap_cons,List.filterMap_nil];rfl
 refine o.put_CS (x:=⟨n,0,x.1,ca⟩) (d:=[str n,i64 0,va,i64 ca]) (dP (dP (hO.ext hx) I λk j=>xe k j) hi λk j=>xk k j) (dP xd hi λk j=>xh k j) ?_ hn (λk j=>(hh k j).imp id (by omega)) ?_ ⟨va,rfl,hR.oa⟩ rfl ?_ ?_ ?_
 ·have h1:Chg (λk=>L.vC.ownBlock=some k\/vS.ownBlock=some k\/k=p) wA w18:=(hc.mono λ_ _ e=>.inl e).trans (Chg.of_ext hx);exact(h1.trans (I.mono λ_ _ e=>.inr (.inl e))).trans (hi.mono λ_ _ e=>.inr (.inr e))
 ·intro k j e;rcases hh k e with h|h
  ·exact xe k j h
  ·have:=(kA hO j).1;omega
 ·rw[eub];unfold ub;simp only[List.filterMap_cons,List.filterMap_nil];cases va.ownBlock<;>simp
 ·rw[eub];intro k j;exact(hR.nv k (jJ.1 j)).1
 ·rw[xa];simp[ML.cells]
theorem VM{k:Nat}{K:Q0}(h:MR w0 w p L vS path s)(xw:ZN s.m.fl L.M)(hk:k<s.m.fl.bl.length)(hl:1<=(kC s.m.fl k).labels.length)(xe:s.m.calls.length<=100000000000)(hv:s.src.length<=100000000000)
  (hq:∀s' L' vS' w',Am s (kC s.m.fl k)=.ok s'->L'.M=L.M->MR w0 w' p L' vS' path s'->K (.tuple #[]) w')(I:∀c a,Am s (kC s.m.fl k)=.bad c a->TC w0 path c a):
  aI P0 142 [pA p,.agg (TH L.M k).toArray] w K:=by
 obtain⟨vl,va,vb,ec,h1,h2,h3⟩:=rD h.md.fo hk;obtain⟨zh,xq,yg,yf,ye,zi⟩:=xw.bk k hk;have zs:=xw.fa k hk;have xo:=λ{w:World} (hF:FO w w0.heap.size L.M s.m.fl)=>BM hk ec hF;generalize hb:kC s.m.fl k=b at*
 rw[ec];refine SC ?_;unfold YZ;refine fX λb3 w1 zt zp o yq=>?_;have yb:=yq.trans (cP w1);have xu:=h.ext yb;have o:w1.drew.heap[b3]?=some (.cells [str b.typ,vl,va,vb,i64 b.a].toArray BkT (0,0)):=o;obtain⟨x,hx⟩:∃x,b.labels[0]?=some x:=⟨_,List.getElem?_eq_getElem (by omega)⟩;have yp:b.labels.getD 0 []=x:=by rw[List.getD_eq_getElem?_getD,hx];rfl
 obtain⟨p0,yr,xp⟩:=uE (k:=.i64) (i:=0) (u:=str x) (xo xu.md.fo).1 (by rw[sG];omega) (by unfold strs;rw[List.getElem?_map,hx];rfl);simp only[bD,bG,aH];refine iQ o (v:=vl) rfl (yr _ (xp _ _ (Chg.refl _ _) ?_));refine iQ o (v:=i64 b.a) rfl ?_;simp only[dF,dK,dC,aB,aK,aL,aN];refine⟨by omega,by omega,?_⟩;refine cI λb4 w4 za yo xg xt=>?_;have o:=xt.at o id;refine⟨iQ o rfl rfl,xp _ _ xt rfl,iQ o rfl rfl,?_⟩;have yx:=xu.ext xt;have l4:nT w0 w4 p L vS b4 Tq _:=xu.loc yo za xg;have ze:w1.drew.heap.size=w1.heap.size:=rfl;refine dD (l:=[str x,i64 0,.slice none 0 0,i64 b.a]) l4.at_ rfl rfl rfl λw5 zo yk yh=>?_;have yd:=yx.one yh l4.off;have o:=yh.at o (by omega);refine cI λb5 w6 yz yn yj xr=>?_;have yw:=yd.ext xr;have l5:nT w0 w6 p L vS b5 StT _:=yd.loc yn yz yj;refine jZ l5.at_ rfl (by simp) λw7 zn yi xi=>?_;have yu:=yw.one xi l5.off;have o:=xi.at (xr.at o id) (by omega);have xg:=xi.at (xr.at yk id) (by omega);have hmodel:Am s b=(kZ s.m.fl xG [] b.attrs ([],[])).bind λr=>(sV s.m.fl b).bind λ_=>if r.2=[]then .bad 110 b.a else if s.m.calls.any (λy=>decide (y.n=x))=true then .bad 2 b.a else .ok ⟨{s.m with calls:=s.m.calls++[⟨x,0,r.1,b.a⟩]},s.src++[r.2]⟩:=by
  rw[<-yp];rfl
 rw[hmodel]at hq I;have zb:pC w0 w7 p L vS path s b4 b5 x b.a ([],[]) (.slice none 0 0) (λk=>k=b3):=
  ⟨yu,⟨xg,l4.off.up (w':=w7) (by omega)⟩,⟨by rw[yi];simp,l5.off.up xi.size⟩,⟨by simp[kK],.inl ⟨rfl,rfl⟩⟩,λk hk=>(by cases hk),by omega,λk hk=>⟨by omega,by omega,by omega,λe=>(by cases e)⟩⟩
 refine iQ o (v:=va) rfl ?_;refine yA (M:=L.M) (fl:=s.m.fl) (path:=path) (Inv:=Xa w0 p L vS path s b3 b4 b5 [str b.typ,vl,va,vb,i64 b.a] x b.a) (take:=xG) (l:=b.attrs) (s:=([],[]))
  (λ_ w r ⟨_,g,_⟩=>g.mr.mf) (λ_ w w' r hI hx=>hI.ext hx) (λw hF=>(xo hF).2.1) yf xq
  (λj a ha r wz w1 K' hI hx xx ys _=>QW (by have:=(List.getElem?_eq_some_iff.1 ha).1;omega) xw.ch (xq a (bI ha)) hI hx xx ys)
  ⟨_,zb,o,by simp⟩ ?_ (λc a hR=>I c a (by rw[hR];rfl))
 intro r w8 hr ⟨va8,xv,o,zj⟩;rw[hr]at hq I;simp only[RC.bind]at hq I;refine fQ o rfl ?_;have yy:BkR w8 w0.heap.size b [str b.typ,vl,va,vb,i64 b.a]:=by
  have:=rD xv.mr.md.fo hk;rw[ec,hb]at this;exact this
 refine CZ xv.mr.mf yy yg ye (λw9 hB xy=>?_) λc a hB=>I c a (by rw[hB]);rw[hB]at hq I;simp only at hq I;have ht:=xv.ext xy;have o:=xy.at o id;refine cX.cut (λst w'=>st=[]/\w'=w9/\¬r.2=[]) ?_ ?_
 ·refine iQ ht.as_.at_ (v:=str r.2) rfl ?_;rw[eC,bA];refine⟨λe=>?_,λe=>⟨by trivial,by trivial,e⟩⟩;refine iQ o (v:=i64 b.a) rfl ?_;exact lW ht.mr.mf (I 110 b.a (by rw[aO e]))
 rintro st g w10 ⟨rfl,rfl,yt⟩;rw[aJ yt]at hq I;refine cX.cut (λst w'=>st=[]/\Ext w10 w'/\s.m.calls.any (λy=>decide (y.n=x))=false) ?_ ?_
 ·simp only[cQ,bD,bG,aH];refine ht.mr.ld rfl ?_;refine Hn (l:=s.m.calls) (B:=w0.heap.size) (cs:=L.cC) (q:=λy=>decide (y.n=x)) ht.mr.md.oC.sl ht.mr.md.cc (by omega) (λy hy c hc {w11 K11} hg ym=>gG (caps:=[pA b4]) ?_) λw11 hg=>?_
  ·obtain⟨ya,rfl,_⟩:=hc;refine RQ ?_;unfold Yu;exact qI (hg.at ht.at_.at_ id) ym
  ·rw[dU];refine⟨λhs=>?_,λhs=>⟨by trivial,hg,hs⟩⟩;refine iQ (hg.at o id) (v:=i64 b.a) rfl ?_;exact lW (ht.mr.mf.ext hg) (I 2 b.a (by rw[aO hs]))
 rintro st g3 w11 ⟨rfl,hg,hs⟩;rw[aJ (by rw[hs];decide)]at hq;have xz:=hg.trans (cP w11);have U:=ht.ext xz;generalize w11.drew=w12 at*
 have xd:∀(y:Value),∀u∈([str x,i64 0,va8,i64 b.a]:List Value),jD u=true:=λy u hu=>by
  simp only[aX,bQ,fF]at hu;rcases hu with rfl|rfl|rfl|rfl<;>first|rfl|exact gE U.oa.sl
 have eub:ub [str x,i64 0,va8,i64 b.a]=ub [va8]:=by
  unfold ub;simp only[List.filterMap_cons,List.filterMap_nil];rfl
 have zg:(ub [va8]).Nodup:=by
  unfold ub;simp only[List.filterMap_cons,List.filterMap_nil];cases va8.ownBlock<;>simp
 simp only[cQ,bD,bG,aH];refine U.mr.ld rfl ?_;refine fQ U.at_.at_ rfl ?_;refine U.mr.ld rfl ?_;refine iQ U.as_.at_ (v:=str r.2) rfl ?_;have dne:∀{wB:World},Ext w12 wB->pC w0 wB p L vS path s b4 b5 x b.a r va8 (λk=>k=b3):=λhx=>U.ext hx;have fin:∀L' vS' w21,L'.M=L.M->MR w0 w21 p L' vS' path ⟨{s.m with calls:=s.m.calls++[⟨x,0,r.1,b.a⟩]},s.src++[r.2]⟩->K (.tuple #[]) w21:=λL' vS' w21 hM hm=>hq _ L' vS' w21 rfl hM hm;have vlt:∀k,L.vC.ownBlock=some k->k<w12.heap.size:=λk hk=>(U.mr.in_ k (by rw[jO];exact aE _ (dS (v:=L.vC) (by simp[ML.vals]) hk))).1;have n5:L.vC.ownBlock≠some b5:=U.as_.off.ne (by simp[ML.vals]);refine⟨?_,?_⟩
 ·refine row_one (by rfl) (by rfl) (by omega) λt46 w16 hz xc=>?_;have J:=dne xc;refine⟨iQ J.as_.at_ rfl rfl,J.mr.ld rfl rfl,J.mr.ld rfl rfl,?_,?_⟩
  ·refine J.mr.app_C (x:=⟨x,0,r.1,b.a⟩) hz rfl (xd va8) xe λv' w17 hO hc hn=>?_;have hh:=hc.at J.mr.pm (λe=>J.mr.val_ne (v:=L.vC) (by simp[ML.vals]) p e rfl);refine⟨iQ (hc.at J.as_.at_ n5) rfl rfl,iQ hh rfl rfl,?_⟩;refine HY λt53 w18 ho _ xm=>?_;refine⟨iQ (xm.at hh id) rfl rfl,?_⟩;exact Ng J hO hc hn xm ho hv fin
  ·refine HY λt53 w22 ho xf xl=>?_;have hj:=dne (xc.trans xl);refine⟨hj.mr.ld rfl rfl,hj.mr.ld rfl rfl,?_⟩;refine hj.mr.app_C (x:=⟨x,0,r.1,b.a⟩) (hz.ext xl) rfl (xd va8) xe λv' w17 hO hc hn=>?_;have hh:=hc.at hj.mr.pm (λe=>hj.mr.val_ne (v:=L.vC) (by simp[ML.vals]) p e rfl);refine⟨iQ hh rfl rfl,?_⟩;exact Ng hj hO hc hn (Chg.refl _ _) (qQ ho hc λk hk e=>by have h1:=xf k hk;have h2:=vlt k e;have:=xc.size;omega) hv fin
 ·refine HY λt53 w27 ho xf xk=>?_;have xh:=dne xk;refine⟨xh.mr.ld rfl rfl,fQ xh.at_.at_ rfl rfl,xh.mr.ld rfl rfl,?_⟩;refine row_one (by rfl) (by rfl) (by omega) λt46 w28 hz xj=>?_;have hi:=dne (xk.trans xj);refine⟨hi.mr.ld rfl rfl,hi.mr.ld rfl rfl,?_⟩;refine hi.mr.app_C (x:=⟨x,0,r.1,b.a⟩) hz rfl (xd va8) xe λv' w17 hO hc hn=>?_;have hh:=hc.at hi.mr.pm (λe=>hi.mr.val_ne (v:=L.vC) (by simp[ML.vals]) p e rfl);refine⟨iQ hh rfl rfl,?_⟩;exact Ng hi hO hc hn (Chg.refl _ _) (qQ (ho.ext xj) hc λk hk e=>by have h1:=xf k hk;have h2:=vlt k e;omega) hv fin
end
end
end Go.Proofs.YtjblfcfdeaagpaaGreatDoor
namespace Go.Cfg
section
open Go Go.Eng Go.Lex Go.Syn
variable{w:World}{K:Q0}{cs:List Value}{G:Nat->Prop}{T:TypeId}{i:Nat}{n:Nat}{v:Value}{w':World}{P:Program}{c:UInt8}{S:Nat->Prop}
def ZD(s:MS)(n:Nat):Prop:=s.m.vars.length<=n/\s.m.locs.length<=n*100000/\s.m.outs.length<=n/\s.m.res.length<=n/\s.m.calls.length<=n/\s.src.length<=n
theorem nQ{α β:Type}{r:RC α}{f:α->RC β}{y:β}(h:r.bind f=.ok y):∃x,r=.ok x/\f x=.ok y:=by
 cases r with
 |ok x=>exact⟨x,rfl,h⟩
 |bad c a=>cases h
theorem Ju{f:Fl}:∀(l seen:List Atr) (s s':List Atr),kZ f GK seen l s=.ok s'->s'.length<=s.length+l.length
 |[],_,s,s',e=>by
  simp only[kZ]at e
  injection e with e
  subst e;exact aY _
 |a::l,seen,s,s',e=>by
  simp only[kZ]at e
  split at e
  ·cases e
  ·obtain⟨s1,j,o⟩:=nQ e
   simp only[GK]at j
   split at j
   ·cases j
   ·injection j with j
    subst j
    have:=Ju l _ _ _ o
    rw[aP,aB,aK]at this
    rw[aB];omega
theorem Nq{s s':MS}{b:Blk}(h:ZD s n)(I:b.attrs.length<=100000)(e:sU s b=.ok s'):ZD s' (n+1)/\s'.m.fl=s.m.fl/\s'.m.dir=s.m.dir:=by
 obtain⟨h1,j,h3,h4,U,J⟩:=h;have o:(n+1)*100000=n*100000+100000:=by rw[qT,Nat.one_mul]
 unfold sU at e;split at e
 ·cases e
 split at e
 ·unfold nW at e;obtain⟨_,_,e⟩:=nQ e;obtain⟨_,_,e⟩:=nQ e;split at e
  ·cases e
  ·injection e with e;subst e;exact⟨⟨by simp;omega,dI j (eP _ (qS n)),by simp only;omega,by simp only;omega,by simp only;omega,by simp only;omega⟩,rfl,rfl⟩
 split at e
 ·unfold rX at e;obtain⟨l,hl,e⟩:=nQ e;obtain⟨_,_,e⟩:=nQ e;have:=Ju _ _ _ _ hl;injection e with e;subst e;exact⟨⟨by simp only;omega,by simp only;rw[o];omega,by simp only;omega,by simp only;omega,by simp only;omega,by simp only;omega⟩,rfl,rfl⟩
 split at e
 ·unfold rV at e;obtain⟨_,_,e⟩:=nQ e;obtain⟨_,_,e⟩:=nQ e;split at e
  ·cases e
  split at e
  ·cases e
  ·injection e with e;subst e;exact⟨⟨by simp only;omega,dI j (eP _ (qS n)),by simp;omega,by simp only;omega,by simp only;omega,by simp only;omega⟩,rfl,rfl⟩
 split at e
 ·unfold nZ at e;obtain⟨_,_,e⟩:=nQ e;obtain⟨_,_,e⟩:=nQ e;split at e
  ·cases e
  ·injection e with e;subst e;exact⟨⟨by simp only;omega,dI j (eP _ (qS n)),by simp only;omega,by simp;omega,by simp only;omega,by simp only;omega⟩,rfl,rfl⟩
 split at e
 ·unfold Am at e;obtain⟨_,_,e⟩:=nQ e;obtain⟨_,_,e⟩:=nQ e;split at e
  ·cases e
  split at e
  ·cases e
  ·injection e with e;subst e;exact⟨⟨by simp only;omega,dI j (eP _ (qS n)),by simp only;omega,by simp only;omega,by simp;omega,by simp;omega⟩,rfl,rfl⟩
 ·injection e with e;subst e;exact⟨⟨by omega,dI j (eP _ (qS n)),by omega,by omega,by omega,by omega⟩,rfl,rfl⟩
end
end Go.Cfg
namespace Go.Proofs.YtjblfcfdeaagpaaGreatDoor
section
open Go Go.Eng Go.RowKit Go.Syn Go.Lex Go.Cfg
variable{w:World}{K:Q0}{cs:List Value}{G:Nat->Prop}{T:TypeId}{i:Nat}{n:Nat}{v:Value}{w':World}{P:Program}{c:UInt8}{S:Nat->Prop}
section
variable [HX]
variable [FK]{w0 w:World}{p:Nat}{L:ML}{vS:Value}{path:Str}{s:MS}{K:Q0}
theorem IT(w:World)(A:(Q0)->Prop)(B:Q0):GeW false w A B↔B undef w:=⟨λh=>h.2 rfl,λh=>⟨λe=>(by cases e),λ_=>h⟩⟩
theorem Hl{l:List Str}{f:Value}{q:Str->Bool}{K:Q0}(h:gD w StT v l.length (strs l))(hx:l.length<=9223372036854775806)
  (hf:∀x∈l,∀{w1:World} {K:Q0},Ext w w1->(∀w',Ext w1 w'->K (.bool (q x)) w')->mY P0 f [str x] w1 K)(hK:∀w',Ext w w'->K (.bool (l.any q)) w'):aI P0 134 [v,f] w K:=by
 refine SK ?_;unfold Zh;refine Sm ?_;unfold YL;rw[jH h];refine xS l.length (λi w'=>Ext w w'/\(l.take i).any q=false) ⟨Chg.refl _ _,by simp⟩ ?_ ?_
 ·rintro i w2 g L hi ⟨j,I⟩ hL;obtain⟨x,o⟩:∃x,l[i]?=some x:=⟨_,List.getElem?_eq_getElem hi⟩;have U:((i:Int)<(l.length:Int)):=by omega
  simp only[wsv,wsg,wsh,wsl,aQ,aM,aD,jU,Nat.reduceAdd,Nat.reduceLT,bT,aS,cY,cH,cJ,reduceCtorEq,U];refine pX (i:=i) (x:=str x) (h.ext j) (by rw[sG];omega) (by unfold strs;rw[List.getElem?_map,o];rfl) ?_;refine hf x (bI o) j λw3 J=>?_;rw[dU];refine⟨λht=>?_,λhn=>?_⟩
  ·have:=hK w3 (j.trans J);have h0:l.any q=true:=mA.2 ⟨x,bI o,ht⟩;rw[h0]at this;have e:decide ((0:Int)<=(i:Int))=true:=bK (by omega);rw[e];exact this
  ·rw[up1 (by omega)];exact hL w3 ⟨j.trans J,by rw[HC o,I,hn];rfl⟩
 ·rintro w2 g L ⟨j,I⟩;simp only[wsv,wsg,wsh,wsl,aQ,aM,aD,jU,Nat.reduceAdd,Nat.reduceLT,bT,aS,cY,cH,cJ,reduceCtorEq,Az];rw[eQ]at I;have:=hK w2 j;rw[I]at this;exact this
theorem Nr{x:Str}{K:Q0}(j:x.length<=1000000)(o:K (.bool (!lL x)) w):aI P0 135 [str x] w K:=by
 refine SJ ?_;unfold Zg;refine Jq j ?_;rw[fG];exact o
theorem Nk{k:Nat}(h:MR w0 w p L vS path s)(hj:ZN s.m.fl L.M)(hk:k<s.m.fl.bl.length)(xj:ZD s n)(hn:n<=100000)(xi:∀x∈(kC s.m.fl k).labels,x.length<=1000000)
  (I:∀s' L' vS' w',sU s (kC s.m.fl k)=.ok s'->L'.M=L.M->MR w0 w' p L' vS' path s'->K (.tuple #[]) w')(j:∀c a,sU s (kC s.m.fl k)=.bad c a->TC w0 path c a):
  aI P0 95 [pA p,.agg (TH L.M k).toArray] w K:=by
 obtain⟨d1,d2,d3,d4,d5,d6⟩:=xj;have xw:n*100000<=100000*100000:=eP _ hn;obtain⟨vl,va,vb,ec,h1,h2,h3⟩:=rD h.md.fo hk;obtain⟨xn,xt,xr,xq,xp,xo⟩:=hj.bk k hk;have ho:=λ{w:World} (hF:FO w w0.heap.size L.M s.m.fl)=>(BM hk ec hF).1;have xl:([str (kC s.m.fl k).typ,vl,va,vb,i64 (kC s.m.fl k).a]:List Value).all jD=true:=by
  show(true&&(jD vl&&(jD va&&(jD vb&&(true&&true)))))=true;rw[gE h1.sl,gE h2.sl,gE h3.sl];rfl
 refine VV ?_;unfold W95;have ec0:=ec;rw[ec];refine fX λb3 w1 xx xu xb xe=>?_;have J:w1.drew.heap[b3]?=some (.cells [str (kC s.m.fl k).typ,vl,va,vb,i64 (kC s.m.fl k).a].toArray BkT (0,0)):=xb;have hx1d:=xe.trans (cP w1);have hq:=h.ext hx1d;generalize hb:kC s.m.fl k=b at*
 generalize hg:(tE b.typ≠b.labels.length\/b.labels.any (λl=> !lL l)=true\/(b.typ=kD/\b.labels.getD 0 []∈oA))=G;have U:G->TC w0 path 110 b.a:=λhG=>j 110 b.a (by unfold sU;rw[aO (by rw[hg];exact hG)]);refine cX.cut (λst w'=>st=[]/\Ext w w'/\w'.heap[b3]?=some (.cells [str b.typ,vl,va,vb,i64 b.a].toArray BkT (0,0))/\¬G) ?_ ?_
 ·simp only[bD,bG,aH];refine iQ J (v:=str b.typ) rfl ?_;refine iQ J (v:=vl) rfl ?_;rw[jH (ho hq.md.fo)];refine Qu ?_;refine⟨iQ J rfl rfl,?_⟩;rw[eX];by_cases c1:tE b.typ≠b.labels.length
  ·rw[bK c1];simp only[fO,iW,GQ,HG,IT,gS,dA];rw[cU];refine⟨λe=>(by cases e),λe=>(by cases e),?_⟩;refine iQ J (v:=i64 b.a) rfl ?_;exact lW hq.mf (U (by rw[<-hg];exact .inl c1))
  rw[cM c1];simp only[iW,cW];refine vP (v:=.pointer (some ⟨b3,1,none⟩)) rfl ?_;refine vP (v:=vl) (iQ J rfl rfl) ?_;refine IS ?_;refine Hl (l:=b.labels) (q:=λl=> !lL l) (ho hq.md.fo) (by omega) (λx hx {w2 K2} hh xk=>uF (Nr (xi x hx) (xk _ (Chg.refl _ _)))) λw2 hh=>?_;have o:=hh.at J id;have hc:=hq.ext hh;rw[gP];cases c2:b.labels.any (λl=> !lL l)with
  |true=>
   simp only[fO,iW,GQ,HG,IT,gS,dA];rw[cU];refine⟨λe=>(by cases e),λe=>(by cases e),?_⟩;refine iQ o (v:=i64 b.a) rfl ?_;exact lW hc.mf (U (by rw[<-hg];exact .inr (.inl c2)))
  |false=>
   simp only[iW,cW];refine vP (v:=.pointer (some ⟨b3,0,none⟩)) rfl ?_;refine vP (v:=str b.typ) (iQ o rfl rfl) ?_;refine vP (v:=.bool (decide (b.typ=kD))) (by rw[eC];rfl) ?_;refine vP (v:=.bool (decide (b.typ=kD))) rfl ?_;have nog:¬(b.typ=kD/\b.labels.getD 0 []∈oA)->¬G:=λhn hG=>by
    rw[<-hg]at hG;rcases hG with e|e|e
    ·exact c1 e
    ·rw[c2]at e;cases e
    ·exact hn e
   by_cases c3:b.typ=kD
   ·rw[bK c3];simp only[fO];have xm:b.labels.length=2:=by
     have:tE b.typ=b.labels.length:=jA c1;rw[c3]at this;have e2:tE kD=2:=by decide
     rw[e2]at this;omega
    obtain⟨x,hx⟩:∃x,b.labels[0]?=some x:=⟨_,List.getElem?_eq_getElem (by omega)⟩;have hz:b.labels.getD 0 []=x:=by rw[List.getD_eq_getElem?_getD,hx];rfl
    obtain⟨p0,xf,hs⟩:=uE (k:=.i64) (i:=0) (u:=str x) (ho hc.md.fo) (by rw[sG];omega) (by unfold strs;rw[List.getElem?_map,hx];rfl);refine vP (v:=.pointer (some ⟨b3,1,none⟩)) rfl ?_;refine vP (v:=vl) (iQ o rfl rfl) ?_;refine vP (v:=p0) (xf _ rfl) ?_;refine vP (v:=str x) (hs _ _ (Chg.refl _ _) rfl) ?_;refine IS ?_;refine Ic λt w3 ht hi=>?_;refine⟨λ_=>hs _ _ hi rfl,λ_=>iQ (hi.at o id) rfl rfl,?_⟩;refine IS ?_;refine xE ht (by decide) ?_;refine vP (v:=.bool (decide (x∈oA))) (by rw[gS]) ?_;rw[gP,dU];have xh:=hc.ext hi;refine⟨λhr=>?_,λhr=>?_⟩
    ·refine iQ (hi.at o id) (v:=i64 b.a) rfl ?_;exact lW xh.mf (U (by rw[<-hg];exact .inr (.inr ⟨c3,by rw[hz];exact dJ hr⟩)))
    ·exact⟨by trivial,hx1d.trans (hh.trans hi),hi.at o id,nog λe=>by rw[hz]at e;rw[bK e.2]at hr;cases hr⟩
   ·rw[cM c3];simp only[fO,HG,IT];refine⟨λe=>(by cases e),λe=>(by cases e),?_⟩;refine vP (v:=.bool false) (by rw[gP]) ?_;rw[gP,bW];exact⟨by trivial,hx1d.trans hh,o,nog λe=>c3 e.1⟩
 rintro st g w2 ⟨rfl,hh,o,xa⟩;have hc:=h.ext hh;have hmodel:sU s b=if b.typ=lS then nW s b else if b.typ=uP then rX s b else if b.typ=nY then rV s b else if b.typ=kD then nZ s b else if b.typ=pR then Am s b else .ok s:=by
  unfold sU;rw[aJ (by rw[hg];exact xa)]
 have hkind:tE b.typ=b.labels.length:=jA λe=>xa (by rw[<-hg];exact .inl e);rw[hmodel]at I j;simp only[bD,bG,aH];refine iQ o (v:=str b.typ) rfl ?_;rw[eC,bA];refine⟨λe1=>?_,λn1=>?_⟩
 ·have e1:b.typ=lS:=e1;rw[aO e1]at I j;refine fQ o rfl ?_;have:=HM (K:=λ_ w=>K (.tuple #[]) w) (k:=k) hc (hj.bk k hk) (by rw[hb];rw[e1,show tE lS=1 by decide]at hkind;omega) (by omega) (by rw[hb];exactλs' L' vS' w' a b c=>I s' L' vS' w' a b c) (by rw[hb];exact j);rw[ec0]at this;exact this
 have n1:¬b.typ=lS:=n1;rw[aJ n1]at I j;rw[eC,bA];refine⟨λe1=>?_,λn2=>?_⟩
 ·have e1:b.typ=uP:=e1;rw[aO e1]at I j;refine fQ o rfl ?_;have:=Mt (K:=λ_ w=>K (.tuple #[]) w) (k:=k) hc (hj.bk k hk) (by omega) (by rw[hb];exactλs' L' vS' w' a b c=>I s' L' vS' w' a b c) (by rw[hb];exact j);rw[ec0]at this;exact this
 have n2:¬b.typ=uP:=n2;rw[aJ n2]at I j;rw[eC,bA];refine⟨λe1=>?_,λn3=>?_⟩
 ·have e1:b.typ=nY:=e1;rw[aO e1]at I j;refine fQ o rfl ?_;have:=Mg (K:=λ_ w=>K (.tuple #[]) w) (k:=k) hc (hj.bk k hk) (by rw[hb];rw[e1,show tE nY=1 by decide]at hkind;omega) (by omega) (by rw[hb];exactλs' L' vS' w' a b c=>I s' L' vS' w' a b c) (by rw[hb];exact j);rw[ec0]at this;exact this
 have n3:¬b.typ=nY:=n3;rw[aJ n3]at I j;rw[eC,bA];refine⟨λe1=>?_,λn4=>?_⟩
 ·have e1:b.typ=kD:=e1;rw[aO e1]at I j;refine fQ o rfl ?_;have:=Ib (K:=λ_ w=>K (.tuple #[]) w) (k:=k) hc hj hk (by rw[hb];rw[e1,show tE kD=2 by decide]at hkind;omega) (by omega) (by rw[hb];exactλs' L' vS' w' a b c=>I s' L' vS' w' a b c) (by rw[hb];exact j);rw[ec0]at this;exact this
 have n4:¬b.typ=kD:=n4;rw[aJ n4]at I j;rw[eC,bA];refine⟨λe1=>?_,λn5=>?_⟩
 ·have e1:b.typ=pR:=e1;rw[aO e1]at I j;refine fQ o rfl ?_;have:=VM (K:=λ_ w=>K (.tuple #[]) w) (k:=k) hc hj hk (by rw[hb];rw[e1,show tE pR=1 by decide]at hkind;omega) (by omega) (by omega) (by rw[hb];exactλs' L' vS' w' a b c=>I s' L' vS' w' a b c) (by rw[hb];exact j);rw[ec0]at this;exact this
 have n5:¬b.typ=pR:=n5;rw[aJ n5]at I;exact I s L vS w2 rfl rfl hc
end
end
section
open Go Go.Eng Go.Lex Go.Syn
variable{w:World}{K:Q0}{cs:List Value}{G:Nat->Prop}{T:TypeId}{i:Nat}{n:Nat}{v:Value}{w':World}{P:Program}{c:UInt8}{S:Nat->Prop}
theorem BQ{s:Str}(h:Utf s):∀{k:Nat},(∀c,s[k]?=some c->c.toNat<128)->Utf (s.take k):=by
 induction h with
 |nil=>intro k _;rw[List.take_nil];exact .nil
 |@cons u r o hr ih=>
  intro k J;by_cases I:u.length<=k
  ·rw[List.take_append,iJ I];refine Utf.cons o (ih λc h2=>J c ?_);rw[List.getElem?_append_right I];exact h2
  ·by_cases h0:k=0
   ·rw[h0,List.take_zero];exact .nil
   ·have j:k<u.length:=by omega
    have hg:=J u[k] (by rw[List.getElem?_append_left j,List.getElem?_eq_getElem j]);rcases o.cases with⟨x,rfl,_⟩|U
    ·simp only[aB,aK]at j;omega
    ·have:=U u[k] (Aw j);omega
theorem zR(q:UInt8->Bool):∀s:Str,∀c∈s.take (fT q s),q c=true
 |[],c,h=>by simp at h
 |d::r,c,h=>by
  unfold fT at h
  split at h
  ·rename_i j
   rw[nH]at h
   rcases aX.1 h with rfl|h
   ·exact j
   ·exact zR q r c h
  ·simp at h
theorem EV(o:c.toNat<128):Rn [c]:=by
 refine⟨by simp,?_⟩;have j:∀c:Fin 256,c.val<128->kH [UInt8.ofNat c.val] 0=1:=by decide+kernel
 have:=j ⟨c.toNat,oG c⟩ o;rw[pI]at this;exact this
theorem yB{s:Str}(h:∀c∈s,c.toNat<128):Utf s:=by
 induction s with
 |nil=>exact .nil
 |cons c s ih=>exact Utf.cons (EV (h c (by simp))) (ih λd hd=>h d (aE _ hd))
theorem ID(a b:Str):kP (a++b)=kP a++kP b:=by
 induction a with
 |nil=>rfl
 |cons c a ih=>
  rw[gH];simp only[kP];rw[ih]
  repeat' split
  all_goals rfl
theorem KF{s:Str}(h:Utf s):Utf (kP s):=by
 induction h with
 |nil=>exact .nil
 |@cons u r J hr ih=>
  rw[ID];refine Utf.app ?_ ih;rcases J.cases with⟨x,rfl,o⟩|U
  ·refine yB λc j=>?_;simp only[kP]at j
   repeat' split at j
   all_goals
    simp only[aX,bQ,fF]at j
   ·rcases j with rfl|rfl
    ·decide
    ·exact o
   ·rcases j with rfl|rfl<;>decide
   ·rcases j with rfl|rfl<;>decide
   ·subst j;exact o
  ·have e:∀v:Str,(∀c∈v,128<=c.toNat)->kP v=v:=by
    intro v;induction v with
    |nil=>intro _;rfl
    |cons c v ihv=>
     intro I;have j:=I c (by simp);have ne:∀k:UInt8,k.toNat<128->(c==k)=false:=λk hk=>by
      rw[beq_eq_false_iff_ne];rintro rfl;omega
     simp only[kP,ne 92 (by decide),ne 34 (by decide),ne 36 (by decide),ne 9 (by decide),ne 13 (by decide)];rw[ihv λd hd=>I d (aE _ hd)];rfl
   rw[e u U];exact Utf.one J
theorem En:∀(n:Nat) (name s:Str),Utf s->(mI n name s).2.2=0->Utf (mI n name s).1
 |0,_,_,_,h=>by cases h
 |n+1,name,s,I,h=>by
  simp only[mI]at h⊢
  split
  ·exact .nil
  rename_i n1
  rw[aJ n1]at h
  split
  ·exact .nil
  rename_i n2
  rw[aJ n2]at h
  split
  ·rename_i U
   have J:s[fT (λb=>b !=10) s]?=some 10:=by
    have j:fT (λb=>b !=10) s<s.length:=by omega
    have:=zQ (λb=>b !=10) s s[fT (λb=>b !=10) s] (by rw[List.head?_drop,List.getElem?_eq_getElem j]);rw[List.getElem?_eq_getElem j];have:s[fT (λb=>b !=10) s]=10:=by simpa using this
    rw[this]
   have ih:=En n name _ (sE I J (by decide)) U;exact((KF (BQ I (k:=fT (λb=>b !=10) s) λc o=>by rw[J]at o;injection o with o;rw[<-o];decide)).app (yB (by decide))).app ih
  ·exact .nil
structure vW(t:Tok):Prop where
 ut:Utf t.t/\t.t.length<=100000
 name:t.k=1->(∃c r,t.t=c::r/\gV c=true)/\∀d∈t.t,iS d=true
 num:t.k=2->∀d∈t.t,kU d=true
theorem Qe{r:Str}(h:Utf (c::r))(o:(nM (c::r)).2.2=0)(hl:(c::r).length<=16384)(j:(nM (c::r)).1.k=3->(nM (c::r)).1.t.length<=100000):vW (nM (c::r)).1:=by
 have tl:∀n,((c::r).take n).length<=100000:=λn=>by rw[cO];omega
 rw[Cg]at o j⊢;split
 ·exact⟨⟨yB (by decide),by decide⟩,λe=>absurd e (by decide),λe=>absurd e (by decide)⟩
 rename_i n1;rw[aJ n1]at o j;split
 ·rename_i e;refine⟨⟨yB λd hd=>Cm (zR _ _ d hd),tl _⟩,λ_=>⟨⟨c,r.take (fT iS r),?_,e⟩,λd hd=>zR _ _ d hd⟩,λe=>absurd e (show¬(1:Int)=2 by decide)⟩;show(c::r).take (fT iS (c::r))=_;have:iS c=true:=by unfold iS;rw[e];rfl
  have I:fT iS (c::r)=fT iS r+1:=by rw[fT,aO this]
  rw[I,nH]
 rename_i n2;rw[aJ n2]at o j;split
 ·exact⟨⟨yB λd hd=>Ew (zR _ _ d hd),tl _⟩,λe=>absurd e (show¬(2:Int)=1 by decide),λ_ d hd=>zR _ _ d hd⟩
 rename_i n3;rw[aJ n3]at o j;split
 ·rename_i e;rw[aO e]at o j;split
  ·rename_i J;rw[aO J]at j;refine⟨⟨?_,j rfl⟩,λe=>absurd e (show¬(3:Int)=1 by decide),λe=>absurd e (show¬(3:Int)=2 by decide)⟩;rw[rT (by simp only[aB];omega)]at J⊢;have he:=tO _ r 0 _ (aY _) (iY rfl J:jL r 0=((jL r 0).1,0));have e34:c=34:=by simpa using e
   have hr:Utf r:=sF h (by rw[e34];decide);exact BQ hr λx U=>by rw[he]at U;injection U with U;rw[<-U];decide
  ·exact⟨⟨.nil,fW _⟩,λe=>absurd e (show¬(0:Int)=1 by decide),λe=>absurd e (show¬(0:Int)=2 by decide)⟩
 rename_i n4;rw[aJ n4]at o j;split
 ·rename_i J;rw[aO J]at o j;refine⟨⟨?_,j rfl⟩,λe=>absurd e (show¬(3:Int)=1 by decide),λe=>absurd e (show¬(3:Int)=2 by decide)⟩;show Utf (jT (c::r)).1;have o:(jT (c::r)).2.2=0:=o;unfold jT at o⊢;simp only at o⊢;generalize (if gV (((c::r).drop 2).headD 0)=true then fT iS ((c::r).drop 2)else 0)=n at o⊢;split
  ·exact .nil
  rename_i m1;rw[aJ m1]at o;split
  ·rename_i m2;rw[aO m2]at o;split
   ·rename_i m3;refine En _ _ _ ?_ m3;rw[List.head?_drop]at m2;exact sE h m2 (by decide)
   ·exact .nil
  ·exact .nil
 rename_i n5;rw[aJ n5]at o j;refine⟨⟨yB λd hd=>?_,?_⟩,λe=>absurd e (show¬(4:Int)=1 by decide),λe=>absurd e (show¬(4:Int)=2 by decide)⟩
 ·have hd:d∈qU (c::r):=hd;unfold qU at hd;split at hd
  ·rename_i q1;have:∀x∈uO,∀d∈x,d.toNat<128:=by decide
   exact this _ (List.contains_iff_mem.1 q1) d hd
  split at hd
  ·rename_i q2;have hd:d=c:=by simpa using hd
   rw[hd];exact Gb q2
  ·cases hd
 ·show(qU (c::r)).length<=100000;unfold qU
  repeat' split
  ·exact tl 2
  ·exact tl 1
  ·exact fW _
end
section
open Go Go.Eng Go.RowKit Go.Syn Go.Lex
variable{w:World}{K:Q0}{cs:List Value}{G:Nat->Prop}{T:TypeId}{i:Nat}{n:Nat}{v:Value}{w':World}{P:Program}{c:UInt8}{S:Nat->Prop}
theorem Lt{s:Str}{l:List Tok}(h:nI s=.ok l):Utf s:=by
 unfold nI at h;split at h
 ·cases h
 cases hb:Db (s.length+1) s 0 with
 |some i=>rw[hb]at h;cases h
 |none=>
  have:=Da (s:=s) (s.length+1) 0 (by omega) hb;rwa[eU]at this
end
section
open Go Go.Eng Go.Lex Go.Syn
variable{w:World}{K:Q0}{cs:List Value}{G:Nat->Prop}{T:TypeId}{i:Nat}{n:Nat}{v:Value}{w':World}{P:Program}{c:UInt8}{S:Nat->Prop}
theorem vW.at_{t:Tok}(h:vW t)(a:Int):vW ⟨t.k,t.t,a⟩:=⟨h.ut,h.name,h.num⟩
theorem DJ:∀(n:Nat) (s:Str) (a cnt:Nat) (l:List Tok),Utf s->s.length<=16384->mU n s a cnt=.ok l->TS l->∀t∈l,vW t
 |0,_,_,_,_,_,_,h,_=>by simp[mU]at h
 |n+1,s,a,cnt,l,hu,hl,h,o=>by
  simp only[mU]at h
  have I:=wL (s.length+1) s hu
  generalize iZ (s.length+1) s=k at*
  split at h
  ·cases h
  split at h
  ·injection h with h
   subst h
   intro t j
   rw[bR]at j
   subst j
   exact⟨⟨.nil,fW _⟩,λe=>absurd e (show¬(0:Int)=1 by decide),λe=>absurd e (show¬(0:Int)=2 by decide)⟩
  rename_i h2
  split at h
  ·cases h
  rename_i U
  have U:(nM (s.drop k.1)).2.2=0:=by simpa using U
  split at h
  ·cases h
  split at h
  ·rename_i l2 hr
   injection h with h
   subst h
   have J:(s.drop k.1).length<=16384:=by rw[aR];omega
   cases hd:s.drop k.1 with
   |nil=>exact absurd hd h2
   |cons c r=>
    rw[hd]at U I hr J o
    have hg:((c::r).drop (nM (c::r)).2.1).length<=16384:=by rw[aR];omega
    have ih:=DJ n _ _ _ _ (Jn I U) hg hr λt j=>o t (aE _ j)
    intro t j
    rcases aX.1 j with rfl|j
    ·exact(Qe I U J λe=>(o _ aW e).2).at_ _
    ·exact ih t j
  ·rename_i hc
   exact absurd h (hc l)
theorem DI{s:Str}{l:List Tok}(h:nI s=.ok l):∀t∈l,vW t:=by
 have j:=ET h;have hl:=(wO h).2;have o:=Lt h;unfold nI at h;rw[aJ (by omega)]at h;split at h
 ·cases h
 ·exact DJ _ _ _ _ _ o hl h j
theorem FF:∀(N:Nat) (r:Str) (d:Int),r.length<=N->r.length<=oZ r d\/∃k,oZ r d=k+1/\r[k]?=some 125
 |N,[],d,_=>.inl (fW _)
 |0,c::r,d,h=>by simp at h
 |N+1,c::r,d,h=>by
  have U:r.length<=N:=by simp only[aB]at h;omega
  have up:∀d':Int,(c::r).length<=1+oZ r d'\/∃k,1+oZ r d'=k+1/\(c::r)[k]?=some 125:=λd'=>by
   rcases FF N r d' U with I|⟨k,I,o⟩
   ·left;simp only[aB];omega
   ·exact .inr ⟨k+1,by omega,by rw[List.getElem?_cons_succ];exact o⟩
  rw[oF]
  by_cases I:c=123
  ·rw[aO I];exact up _
  rw[aJ I]
  by_cases o:c=125
  ·rw[aO o]
   by_cases j:d-1=0
   ·rw[aO j];exact .inr ⟨0,rfl,by rw[o];rfl⟩
   ·rw[aJ j];exact up _
  rw[aJ o]
  by_cases j:c=34
  ·rw[aO j]
   have ih:=FF N (r.drop (rM r)) d (by rw[aR];omega)
   rw[aR]at ih
   rcases ih with h4|⟨k,h4,J⟩
   ·left;simp only[aB];omega
   ·right
    rw[List.getElem?_drop]at J
    exact⟨rM r+k+1,by omega,by rw[List.getElem?_cons_succ];exact J⟩
  ·rw[aJ j];exact up _
theorem Iy:∀(N:Nat) (s:Str) (i e:Nat),s.length<=N->insP s=some (i,e)->s[i]?=some 36/\e=i+1+CW (s.drop (i+1))
 |_,[],_,_,_,h=>by simp[Syn.insP]at h
 |_,[_],_,_,_,h=>by simp[Syn.insP]at h
 |0,_::_::_,_,_,hl,_=>by simp at hl
 |N+1,c::d::r,i,e,hl,h=>by
  simp only[aB]at hl
  rw[Syn.insP]at h
  by_cases J:c=92
  ·rw[aO J,yE]at h
   obtain⟨⟨i',e'⟩,o,j⟩:=h
   injection j with j I
   subst j I
   obtain⟨q1,q2⟩:=Iy N r i' e' (by omega) o
   refine⟨by rw[List.getElem?_cons_succ,List.getElem?_cons_succ];exact q1,?_⟩
   rw[show i'+2+1=(i'+1)+1+1 by omega,dW,dW,q2]
   omega
  rw[aJ J]at h
  by_cases o:c=36/\d=123
  ·rw[aO o]at h
   injection h with h
   injection h with j I
   subst j I
   exact⟨by rw[o.1];rfl,by rw[dW,eU]⟩
  ·rw[aJ o,yE]at h
   obtain⟨⟨i',e'⟩,o,j⟩:=h
   injection j with j I
   subst j I
   obtain⟨q1,q2⟩:=Iy N (d::r) i' e' (by simp only[aB];omega) o
   refine⟨by rw[List.getElem?_cons_succ];exact q1,?_⟩
   show e'+1=i'+1+1+CW ((d::r).drop (i'+1))
   omega
theorem Qz{s:Str}{e:Nat}(h:Utf s)(hi:insP s=some (i,e)):Utf (s.take i)/\Utf (s.drop e):=by
 obtain⟨J,I⟩:=Iy s.length s i e (aY _) hi;refine⟨BQ h λc j=>by rw[J]at j;injection j with j;rw[<-j];decide,?_⟩;have hb:=FF _ (s.drop (i+1)) 0 (aY _);rw[show oZ (s.drop (i+1)) 0=CW (s.drop (i+1))from rfl]at hb;rcases hb with hb|⟨k,hb,o⟩
 ·rw[aR]at hb;rw[rH (by omega)];exact .nil
 ·rw[List.getElem?_drop]at o;rw[I,hb,show i+1+(k+1)=i+1+k+1 by omega];exact sE h o (by decide)
theorem EU:∀(N:Nat) (s:Str),s.length<=N->(jB s).length<=s.length
 |_,[],_=>aY _
 |_,[c],_=>by simp only[jB];split<;>simp
 |0,_::_::_,h=>by simp at h
 |N+1,c::e::r,h=>by
  simp only[aB]at h
  simp only[jB]
  split
  ·have:=EU N r (by omega)
   simp only[aB];omega
  ·have:=EU N (e::r) (by simp only[aB];omega)
   simp only[aB]at this⊢;omega
theorem xM(r:Str):∀v:Str,(∀c∈v,c≠92)->jB (v++r)=v++jB r
 |[],_=>rfl
 |[c],h=>by
  have j:=h c (by simp)
  cases r with
  |nil=>simp[jB,j]
  |cons d r=>simp only[gH,gJ,jB];rw[aJ j]
 |c::d::v,h=>by
  have j:=h c (by simp)
  have ih:=xM r (d::v) λx o=>h x (aE _ o)
  simp only[gH]at ih⊢
  simp only[jB]
  rw[aJ j]
  rw[show jB (d::(v++r))=d::(v++jB r)from ih]
theorem zO:∀(N:Nat) (s:Str),s.length<=N->Utf s->Utf (jB s)
 |N,s,hN,h=>by
  cases h with
  |nil=>exact .nil
  |@cons u r hu hr=>
   have hq:=hu.pos
   rw[aP]at hN
   rcases hu.cases with⟨x,rfl,hx⟩|hh
   ·by_cases J:x=92
    ·subst J
     cases hr with
     |nil=>exact .nil
     |@cons u2 r2 j hi=>
      rw[aP]at hN
      have ho:=j.pos
      cases N with
      |zero=>simp at hN
      |succ N=>
       have ih:=zO N r2 (by simp only[aB,aK]at hN;omega) hi
       rcases j.cases with⟨y,rfl,U⟩|I
       ·show Utf (jB (92::y::r2))
        simp only[jB]
        rw[aO trivial]
        refine Utf.cons (u:=[_]) (EV ?_) ih
        repeat' split
        ·decide
        ·decide
        ·decide
        ·exact U
       ·cases u2 with
        |nil=>simp at ho
        |cons y v=>
         have U:=I y (by simp)
         have ne:∀k:UInt8,k.toNat<128->y≠k:=λk hk e=>by rw[e]at U;omega
         have hv:∀c∈v,c≠92:=λc o e=>by have:=I c (aE _ o);rw[e]at this;exact absurd this (by decide)
         show Utf (jB (92::y::(v++r2)))
         simp only[jB]
         rw[aO trivial,aJ (ne 110 (by decide)),aJ (ne 116 (by decide)),aJ (ne 114 (by decide)),xM r2 v hv]
         exact Utf.cons j ih
    ·cases N with
     |zero=>simp at hN
     |succ N=>
      rw[xM r [x] (λc o=>by rw[bR]at o;rw[o];exact J)]
      exact Utf.cons (EV hx) (zO N r (by simp only[aB,aK]at hN;omega) hr)
   ·cases N with
    |zero=>omega
    |succ N=>
     rw[xM r u λc o e=>by have:=hh c o;rw[e]at this;exact absurd this (by decide)]
     exact Utf.cons hu (zO N r (by omega) hr)
end
end Go.Proofs.YtjblfcfdeaagpaaGreatDoor
namespace Go.Syn
section
open Go Go.Eng Go.Lex
variable{w:World}{K:Q0}{cs:List Value}{G:Nat->Prop}{T:TypeId}{i:Nat}{n:Nat}{v:Value}{w':World}{P:Program}{c:UInt8}{S:Nat->Prop}
structure TR(b:Bool)(o E:Nat)(d:Int)(A A2:List Tok):Prop where
 len:A.length=E+1
 len2:E+o<A2.length
 tok:∀(j:Nat) (t:Tok),j<E->A[j]?=some t->t.k≠0/\∃t2,A2[j+o]?=some t2/\t2.k=t.k/\t2.t=t.t/\t2.a=t.a+d
 eof:∀t,A[E]?=some t->t.k=0
 eof2:b=true->∀t,A[E]?=some t->∃t2,A2[E+o]?=some t2/\t2.k=t.k/\t2.t=t.t/\t2.a=t.a+d
section
variable{io:Nat}{b:Bool}{c:Int}{pe:List Ex}{pb:List Blk}{s s2:PS}
theorem yV(s:PS):(bE s).toks=s.toks/\(bE s).off=s.off/\(bE s).deep=s.deep/\(bE s).quiet=s.quiet/\(bE s).ex=s.ex/\(bE s).bl=s.bl:=by
 unfold bE;split<;>exact⟨rfl,rfl,rfl,rfl,rfl,rfl⟩
end
end
section
open Go Go.Eng Go.Lex
variable{w:World}{K:Q0}{cs:List Value}{G:Nat->Prop}{T:TypeId}{i:Nat}{n:Nat}{v:Value}{w':World}{P:Program}{c:UInt8}{S:Nat->Prop}
variable{α β:Type}{io:Nat}{b:Bool}{c:Int}{pe:List Ex}{pb:List Blk}
theorem bind_ok{r:R α}{f:α->PS->R β}{y:β}{s':PS}(h:r.bind f=.ok y s'):∃x s1,r=.ok x s1/\f x s1=.ok y s':=by
 cases r with
 |ok x s1=>exact⟨x,s1,rfl,h⟩
 |err a e=>cases h
variable{s s2:PS}
end
end Go.Syn
namespace Go.Proofs.YtjblfcfdeaagpaaGreatDoor
section
open Go Go.Eng Go.Lex Go.Syn
variable{w:World}{K:Q0}{cs:List Value}{G:Nat->Prop}{T:TypeId}{i:Nat}{n:Nat}{v:Value}{w':World}{P:Program}{c:UInt8}{S:Nat->Prop}
structure XE(e:Ex):Prop where
 kd:1<=e.k/\e.k<=30
 ut:Utf e.t/\e.t.length<=100000
 uk:∀s∈e.keys,Utf s/\s.length<=100000
 nl:e.k≠5->∀c∈e.t,c≠10
 a6:e.k=6\/e.k=8->e.keys.length=e.args.length
 a1:e.k=10\/e.k=30->1<=e.args.length
 a2:e.k=11\/e.k=29\/15<=e.k/\e.k<=27->2<=e.args.length
 a3:e.k=28->3<=e.args.length
def FN(s:PS):Prop:=(∀t∈s.toks,vW t)/\s.toks.length<=4097
structure K1(s s':PS):Prop where
 toks:s'.toks=s.toks
 bl:s'.bl=s.bl
 ex:(∀e∈s.ex,XE e)->∀e∈s'.ex,XE e
theorem K1.refl(s:PS):K1 s s:=⟨rfl,rfl,λh=>h⟩
theorem K1.trans{s s1 s2:PS}(h:K1 s s1)(j:K1 s1 s2):K1 s s2:=⟨j.toks.trans h.toks,j.bl.trans h.bl,λo=>j.ex (h.ex o)⟩
theorem K1.tk{s s':PS}(h:K1 s s')(j:FN s):FN s':=by unfold FN;rw[h.toks];exact j
theorem K1.of{s s':PS}(I:s'.toks=s.toks)(o:s'.bl=s.bl)(j:s'.ex=s.ex):K1 s s':=⟨I,o,λh=>by rw[j];exact h⟩
theorem oX(s:PS):K1 s (bE s):=K1.of (yV s).1 (yV s).2.2.2.2.2 (yV s).2.2.2.2.1
theorem lX(s:PS):K1 s (step1 s):=K1.of rfl rfl rfl
theorem Iw(s:PS):K1 s (kI s):=by unfold kI;split;exact(oX s).trans (lX _);exact oX s
theorem oN(s:PS)(w:Str):K1 s (cD s w).2:=by unfold cD;split;exact(oX s).trans (lX _);exact oX s
theorem uW(s:PS):K1 s (iR s):=K1.of (yV s).1 (yV s).2.2.2.2.2 (yV s).2.2.2.2.1
theorem uU{s:PS}{w:Str}{x:Unit}{s':PS}(h:oI s w=.ok x s'):K1 s s':=by
 unfold oI at h;split at h
 ·injection h with _ h;rw[<-h];exact(oX s).trans (lX _)
 ·cases h
theorem zA{s:PS}{k:Int}{t:Tok}{s':PS}(h:mH s k=.ok t s'):K1 s s'/\t=cur s/\t.k=k:=by
 unfold mH at h;split at h
 ·rename_i j;injection h with I o;subst I o;exact⟨Iw s,rfl,j⟩
 ·cases h
theorem sP{s:PS}{e:Ex}{x:Nat}{s':PS}(I:XE e)(h:qV s e=.ok x s'):K1 s s':=by
 injection h with _ h
 subst h;refine⟨rfl,rfl,λo y j=>?_⟩;rcases bH.1 j with j|j
 ·exact o y j
 ·rw[bR]at j;rw[j];exact I
theorem xD{s:PS}(h:FN s):vW (cur s):=by
 have hd:vW (mR (bE s)):=by
  unfold mR;rw[List.getD_eq_getElem?_getD,(yV s).1];cases j:s.toks[(bE s).i]? with
  |none=>exact⟨⟨.nil,fW _⟩,λe=>absurd e (show¬(0:Int)=1 by decide),λe=>absurd e (show¬(0:Int)=2 by decide)⟩
  |some t=>exact h.1 t (bI j)
 exact hd.at_ _
theorem pW{α:Type}{s:PS}{a:Int}{q:Bool}{f:PS->R α}{x:α}{s':PS}(h:within s a q f=.ok x s')(hf:∀s1 s2,K1 s s1->f s1=.ok x s2->K1 s1 s2):K1 s s':=by
 unfold within at h;split at h
 ·cases h
 obtain⟨y,s1,e1,e2⟩:=bind_ok h;injection e2 with e2 e3
 subst e2 e3;have o:K1 s {s with deep:=s.deep+1,quiet:=q}:=K1.of rfl rfl rfl;have j:=hf _ _ o e1;exact⟨j.toks,j.bl,j.ex⟩
def KE(F:PS->R Nat):Prop:=∀s x s',FN s->F s=.ok x s'->K1 s s'
theorem Aj:KE dead:=λs x s' _ h=>by cases h
theorem XE.of{k:Int}{t:Str}{us:List Nat}{ks:List Str}{a:Int}(J:1<=k/\k<=30)(o:Utf t/\t.length<=100000)(I:k≠5->∀c∈t,c≠10)(j:∀s∈ks,Utf s/\s.length<=100000)
  (h:(k=6\/k=8->ks.length=us.length)/\(k=10\/k=30->1<=us.length)/\(k=11\/k=29\/15<=k/\k<=27->2<=us.length)/\(k=28->3<=us.length)):XE ⟨k,t,us,ks,a⟩:=
 ⟨J,o,j,I,h.1,h.2.1,h.2.2.1,h.2.2.2⟩
theorem zZ:Utf ([]:Str)/\([]:Str).length<=100000:=⟨.nil,fW _⟩
theorem Bb{k:Int}:k≠5->∀c∈([]:Str),c≠(10:UInt8):=λ_ c h=>by cases h
theorem rS:∀s∈([]:List Str),Utf s/\s.length<=100000:=λs h=>by cases h
theorem Ck{t:Tok}(h:vW t)(j:t.k=1):∀c∈t.t,c≠(10:UInt8):=λc o e=>by
 have:=(h.name j).2 c o
 rw[e]at this
 exact absurd this (by decide)
theorem XD{t:Tok}(h:vW t)(j:t.k=2):∀c∈t.t,c≠(10:UInt8):=λc o e=>by
 have:=h.num j c o
 rw[e]at this
 exact absurd this (by decide)
theorem BC{t:Str}(h:Utf t)(hl:t.length<=100000):Utf (jB t)/\(jB t).length<=100000:=⟨zO _ t (aY _) h,dI (EU _ t (aY _)) hl⟩
variable{E S:PS->R Nat}
theorem Qv(hE:KE E){s:PS}{t:Str}{a:Int}{x:Nat}{s':PS}(h:oP E s t a=.ok x s'):K1 s s':=by
 unfold oP at h;cases j:nI t with
 |bad k p=>rw[j]at h;cases h
 |ok l=>
  rw[j]at h;simp only at h;obtain⟨y,q,e1,e2⟩:=bind_ok h;obtain⟨t',q',e3,e4⟩:=bind_ok e2;injection e4 with e4 e5
  subst e5;have I:=hE _ _ _ ⟨DI j,(wO j).1⟩ e1;have o:=(zA e3).1;exact⟨rfl,o.bl.trans I.bl,λJ=>o.ex (I.ex J)⟩
theorem Fu(hE:KE E):∀(n:Nat) (s:PS) (rest:Str) (a:Int) (us:List Nat) (ks:List Str) (x:List Nat×List Str) (s':PS),Utf rest->rest.length<=100000->us.length=ks.length->(∀k∈ks,Utf k/\k.length<=100000)->nD E n s rest a us ks=.ok x s'->
  K1 s s'/\x.1.length=x.2.length/\∀k∈x.2,Utf k/\k.length<=100000
 |0,_,_,_,_,_,_,_,_,_,_,_,h=>by cases h
 |n+1,s,rest,a,us,ks,x,s',hu,hl,o,j,h=>by
  have key:∀(ks:List Str) (c:UInt8),c.toNat<128->(∀k∈ks,Utf k/\k.length<=100000)->∀k∈ks++[[c]],Utf k/\k.length<=100000:=λks c hc j k I=>by
   rcases bH.1 I with I|I
   ·exact j k I
   ·rw[bR]at I;rw[I];exact⟨Utf.one (EV hc),(show 1<=100000 by decide)⟩
  have put5:∀(s:PS) (u:Str) (a:Int),Utf u->u.length<=100000->K1 s {s with ex:=s.ex++[⟨5,jB u,[],[],a⟩]}:=λs u a hu hl=>sP (s:=s) (e:=⟨5,jB u,[],[],a⟩) (x:=s.ex.length) (XE.of (by decide) (BC hu hl) (λh=>absurd rfl h) rS (by simp)) rfl
  simp only[nD]at h
  split at h
  ·injection h with h1 h2
   subst h1 h2
   exact⟨K1.refl _,o,j⟩
  split at h
  ·injection h with h1 h2
   subst h1 h2
   exact⟨put5 _ _ _ hu hl,by simp[o],key ks 116 (by decide) j⟩
  ·rename_i i e hi
   obtain⟨u1,u2⟩:=Qz hu hi
   have l1:(rest.take i).length<=100000:=by rw[cO];omega
   have l2:(rest.drop e).length<=100000:=by rw[aR];omega
   have J:K1 s (if 0<i then{s with ex:=s.ex++[⟨5,jB (rest.take i),[],[],a⟩]}else s):=by
    split
    ·exact put5 _ _ _ u1 l1
    ·exact K1.refl _
   have U:(if 0<i then us++[s.ex.length]else us).length=(if 0<i then ks++[[116]]else ks).length:=by split<;>simp[o]
   have hg:∀k∈(if 0<i then ks++[[116]]else ks),Utf k/\k.length<=100000:=by
    split
    ·exact key ks 116 (by decide) j
    ·exact j
   generalize (if 0<i then us++[s.ex.length]else us)=us1 at*
   generalize (if 0<i then ks++[[116]]else ks)=ks1 at*
   generalize (if 0<i then{s with ex:=s.ex++[⟨5,jB (rest.take i),[],[],a⟩]}else s)=s1 at*
   split at h
   ·obtain⟨y,s2,e1,e2⟩:=bind_ok h;have h2:=pW e1 λq q2 _ e3=>Qv hE e3;obtain⟨h3,h4,h5⟩:=Fu hE n s2 _ _ _ _ x s' u2 l2 (by simp[U]) (key ks1 101 (by decide) hg) e2;exact⟨J.trans (h2.trans h3),h4,h5⟩
   ·obtain⟨h3,h4,h5⟩:=Fu hE n s1 _ _ _ _ x s' u2 l2 U hg h;exact⟨J.trans h3,h4,h5⟩
theorem Vx(hE:KE E){s:PS}{t:Tok}{x:Nat}{s':PS}(j:vW t)(h:yI E s t=.ok x s'):K1 s s':=by
 unfold yI at h;split at h
 ·obtain⟨y,s1,e1,e2⟩:=bind_ok h;obtain⟨J,I,o⟩:=Fu hE _ _ _ _ _ _ _ _ j.ut.1 j.ut.2 rfl rS e1;exact J.trans (sP (XE.of (by decide) zZ Bb o ⟨λ_=>I.symm,by simp,by simp,by simp⟩) e2)
 ·exact sP (XE.of (by decide) (BC j.ut.1 j.ut.2) (λh=>absurd rfl h) rS (by simp)) h
theorem Fw(hE:KE E)(w:Str):∀(n:Nat) (s:PS) (out:List Nat) (x:List Nat) (s':PS),FN s->rE E w n s out=.ok x s'->K1 s s'
 |0,_,_,_,_,_,h=>by cases h
 |n+1,s,out,x,s',ht,h=>by
  simp only[rE]at h
  split at h
  ·injection h with _ h;rw[<-h];exact oN s w
  have j:=(oN s w).tk ht
  split at h
  ·obtain⟨y,s1,e1,e2⟩:=bind_ok h
   have I:=hE _ _ _ j e1
   exact(oN s w).trans (I.trans (Fw hE w n s1 _ x s' (I.tk j) e2))
  ·obtain⟨y,s1,e1,e2⟩:=bind_ok h
   have I:=uU e1
   have U:=I.tk j
   have J:=(oN s w).trans I
   split at e2
   ·injection e2 with _ e2;rw[<-e2];exact J.trans (oN s1 w)
   ·obtain⟨z,s2,e3,e4⟩:=bind_ok e2
    have o:=(oN s1 w).tk U
    have h2:=hE _ _ _ o e3
    exact J.trans ((oN s1 w).trans (h2.trans (Fw hE w n s2 _ x s' (h2.tk o) e4)))
theorem MC(hE:KE E){s:PS}{a:Int}{e:Ex}{s':PS}(J:FN s)(h:yL E s a=.ok e s'):K1 s s'/\XE e:=by
 unfold yL at h;simp only at h;split at h
 ·obtain⟨us,s1,e1,e2⟩:=bind_ok h;injection e2 with e2 e3
  subst e2 e3;have I:=(lX s).trans (oX (step1 s));exact⟨I.trans (Fw hE _ _ _ _ _ _ (I.tk J) e1),XE.of (by decide) zZ Bb rS (by simp)⟩
 ·have I:=((lX s).trans (oX (step1 s))).trans (lX _);obtain⟨t,s2,e1,h⟩:=bind_ok h;obtain⟨k1,r1,r2⟩:=zA e1;have tk1:vW t:=by rw[r1];exact xD (I.tk J)
  obtain⟨u,s3,e2,h⟩:=bind_ok h;obtain⟨k2,_,_⟩:=zA e2;have o:=(I.trans k1).trans k2;split at h
  ·cases h
  obtain⟨x,s4,e3,h⟩:=bind_ok h;have k3:=hE _ _ _ (o.tk J) e3;obtain⟨_,s5,e4,h⟩:=bind_ok h;have j:=(o.trans k3).trans (uU e4);obtain⟨y,s6,e5,h⟩:=bind_ok h;have k5:=hE _ _ _ (j.tk J) e5;obtain⟨_,s7,e6,h⟩:=bind_ok h;have k6:=uU e6;injection h with e7 e8
  subst e7 e8;exact⟨(j.trans k5).trans k6,XE.of (by decide) tk1.ut (λ_=>Ck tk1 r2) rS (by simp)⟩
theorem Tw(hE:KE E)(a:Int):∀(n:Nat) (s:PS) (us:List Nat) (ks:List Str) (e:Ex) (s':PS),FN s->us.length=ks.length->(∀k∈ks,Utf k/\k.length<=100000)->Bw E a n s us ks=.ok e s'->K1 s s'/\XE e
 |0,_,_,_,_,_,_,_,_,h=>by cases h
 |n+1,s,us,ks,e,s',ht,j,I,h=>by
  simp only[Bw]at h
  split at h
  ·injection h with h1 h2
   subst h1 h2
   exact⟨oN s _,XE.of (by decide) zZ Bb I ⟨λ_=>j.symm,by simp,by simp,by simp⟩⟩
  have h1:=oN s [125]
  have hh:=h1.tk ht
  have tk:=xD hh
  have ho:=h1.trans (Iw (cD s [125]).2)
  obtain⟨k,s3,e1,h⟩:=bind_ok h
  have hk:K1 (kI (cD s [125]).2) s3/\Utf k/\k.length<=100000:=by
   split at e1
   ·unfold pF at e1;split at e1
    ·cases e1
    ·injection e1 with e2 e3;rw[<-e2,<-e3];exact⟨K1.refl _,BC tk.ut.1 tk.ut.2⟩
   ·split at e1
    ·injection e1 with e2 e3;rw[<-e2,<-e3];exact⟨K1.refl _,tk.ut⟩
    ·cases e1
  have hj:=ho.trans hk.1;split at h
  ·cases h
  obtain⟨_,s4,e2,h⟩:=bind_ok h;have U:=hj.trans (uU e2);obtain⟨x,s5,e3,h⟩:=bind_ok h;have J:=U.trans (hE _ _ _ (U.tk ht) e3);split at h
  ·cases h
  have hc:K1 s (iR (if(cD s5 [44]).1=true then(cD s5 [44]).2 else bE (cD s5 [44]).2)):=by
   split
   ·exact J.trans ((oN s5 _).trans (uW _))
   ·exact J.trans ((oN s5 _).trans ((oX _).trans (uW _)))
  obtain⟨g1,g2⟩:=Tw hE a n _ _ _ e s' (hc.tk ht) (by simp[j]) (λq o=>by
   rcases bH.1 o with o|o
   ·exact I q o
   ·rw[bR]at o;rw[o];exact hk.2) h
  exact⟨hc.trans g1,g2⟩
theorem Kr(t:Str):qL t=1\/qL t=2\/qL t=3\/qL t=9:=by
 unfold qL
 repeat' split
 all_goals simp
theorem Vz(hE:KE E):KE (xH E):=by
 intro s x s' I h;have tk:=xD I;have j:=oX s;unfold xH at h;simp only at h;split at h
 ·rename_i hk;exact(j.trans (lX _)).trans (sP (XE.of (by decide) tk.ut (λ_=>XD tk hk) rS (by simp)) h)
 split at h
 ·exact(j.trans (lX _)).trans (Vx hE tk h)
 split at h
 ·rename_i hk;have J:=j.trans (lX (bE s));split at h
  ·obtain⟨us,s2,e1,e2⟩:=bind_ok h;have U:=pW e1 λq q2 o e3=>(lX q).trans (Fw hE _ _ _ _ _ _ ((lX q).tk (o.tk ((J.trans (oX _)).tk I))) e3);exact((J.trans (oX _)).trans U).trans (sP (XE.of (by decide) tk.ut (λ_=>Ck tk hk.1) rS (by simp)) e2)
  ·have hn:=Kr (cur s).t;refine(J.trans (oX _)).trans (sP (XE.of (by omega) ?_ ?_ rS ?_) h)
   ·split
    ·exact tk.ut
    ·exact zZ
   ·intro _ c hc;split at hc
    ·exact Ck tk hk.1 c hc
    ·cases hc
   ·refine⟨λ_=>rfl,λe=>by omega,λe=>by omega,λe=>by omega⟩
 split at h
 ·refine j.trans (pW h λq q2 o e1=>?_);obtain⟨y,q1,e2,e3⟩:=bind_ok e1;obtain⟨_,q3,e4,e5⟩:=bind_ok e3;injection e5 with _ e5
  subst e5;have hi:=(lX q).tk (o.tk (j.tk I));exact(lX q).trans ((hE _ _ _ hi e2).trans (uU e4))
 split at h
 ·obtain⟨e,s2,e1,e2⟩:=bind_ok h;have hx:XE e:=by
   unfold within at e1;split at e1
   ·cases e1
   obtain⟨y,q,e3,e4⟩:=bind_ok e1;injection e4 with e4 _
   subst e4;exact(MC hE (s:={bE s with deep:=(bE s).deep+1,quiet:=true}) (j.tk I) e3).2
  have U:=pW e1 λq q2 o e3=>(MC hE (o.tk (j.tk I)) e3).1;exact(j.trans U).trans (sP hx e2)
 split at h
 ·obtain⟨e,s2,e1,e2⟩:=bind_ok h;have ob:∀q q2,FN q->GD E q (cur s).a=.ok e q2->K1 q q2/\XE e:=λq q2 o e3=>by
   unfold GD at e3;have J:=(lX q).trans (uW (step1 q));obtain⟨g1,g2⟩:=Tw hE _ _ _ _ _ _ _ (J.tk o) rfl rS e3;exact⟨J.trans g1,g2⟩
  have hx:XE e:=by
   unfold within at e1;split at e1
   ·cases e1
   obtain⟨y,q,e3,e4⟩:=bind_ok e1;injection e4 with e4 _
   subst e4;exact(ob {bE s with deep:=(bE s).deep+1,quiet:=false} _ (j.tk I) e3).2
  have U:=pW e1 λq q2 o e3=>(ob q q2 (o.tk (j.tk I)) e3).1;exact(j.trans U).trans (sP hx e2)
 ·cases h
theorem Fq(hE:KE E):∀(n:Nat) (s:PS) (x y:Nat) (s':PS),FN s->qE E n s x=.ok y s'->K1 s s'
 |0,_,_,_,_,_,h=>by cases h
 |n+1,s,x,y,s',J,h=>by
  simp only[qE]at h
  have h0:=oX s
  have hh:=h0.tk J
  split at h
  ·obtain⟨u,s2,e1,h⟩:=bind_ok h
   obtain⟨k1,r1,r2⟩:=zA e1
   have h1:=h0.trans (oN (bE s) [46])
   have tk:vW u:=by rw[r1];exact xD (h1.tk J)
   have U:=h1.trans k1
   obtain⟨z,s3,e2,h⟩:=bind_ok h
   have j:=U.trans (sP (XE.of (by decide) tk.ut (λ_=>Ck tk r2) rS (by simp)) e2)
   exact j.trans (Fq hE n _ _ _ _ (j.tk J) h)
  split at h
  ·obtain⟨o,s2,e1,h⟩:=bind_ok h
   have U:K1 s s2:=h0.trans (pW e1 λq q2 hq e3=>by
    have I:=(lX q).trans (oN (step1 q) [42])
    have hg:=I.tk (hq.tk hh)
    split at e3
    ·obtain⟨_,q3,e4,e5⟩:=bind_ok e3
     injection e5 with _ e5
     subst e5
     exact I.trans (uU e4)
    ·obtain⟨z,q1,e4,e5⟩:=bind_ok e3
     obtain⟨_,q3,e6,e7⟩:=bind_ok e5
     injection e7 with _ e7
     subst e7
     exact I.trans ((hE _ _ _ hg e4).trans (uU e6)))
   cases o with
   |some q=>
    simp only at h
    obtain⟨z,s3,e2,h⟩:=bind_ok h
    have j:=U.trans (sP (XE.of (by decide) zZ Bb rS (by simp)) e2)
    exact j.trans (Fq hE n _ _ _ _ (j.tk J) h)
   |none=>
    simp only at h
    obtain⟨_,s3,e2,h⟩:=bind_ok h
    have j:=U.trans (uU e2)
    obtain⟨u,s4,e3,h⟩:=bind_ok h
    obtain⟨k1,r1,r2⟩:=zA e3
    have tk:vW u:=by rw[r1];exact xD (j.tk J)
    have h4:=j.trans k1
    obtain⟨z,s5,e4,h⟩:=bind_ok h
    have h5:=h4.trans (sP (XE.of (by decide) tk.ut (λ_=>Ck tk r2) rS (by simp)) e4)
    exact h5.trans (Fq hE n _ _ _ _ (h5.tk J) h)
  ·injection h with _ h
   rw[<-h];exact h0
theorem Iv(hE:KE E)(hS:KE S):KE (vK E S):=by
 intro s x s' U h;have o:=oX s;have j:=o.tk U;unfold vK at h;simp only at h;split at h
 ·obtain⟨y,s2,e1,e2⟩:=bind_ok h;have J:=o.trans (pW e1 λq q2 I e3=>(lX q).trans (hS _ _ _ ((lX q).tk (I.tk j)) e3));exact J.trans (sP (XE.of (by decide) zZ Bb rS (by simp)) e2)
 split at h
 ·obtain⟨y,s2,e1,e2⟩:=bind_ok h;have J:=o.trans (pW e1 λq q2 I e3=>(lX q).trans (hS _ _ _ ((lX q).tk (I.tk j)) e3));exact J.trans (sP (XE.of (by decide) zZ Bb rS (by simp)) e2)
 ·unfold Ba at h;obtain⟨y,s1,e1,e2⟩:=bind_ok h;have h1:=o.trans (Vz hE _ _ _ j e1);exact h1.trans (Fq hE _ _ _ _ _ (h1.tk U) e2)
theorem Qt{t:Tok}(h:qM t n≠0):15<=qM t n/\qM t n<=27:=by
 unfold qM Ej at h⊢
 repeat' split at h
 all_goals first
  |exact absurd rfl h
  |(simp_all<;>decide)
theorem MD{J:PS->R Nat}(o:KE J)(n:Nat):∀(f:Nat) (s:PS) (a x:Nat) (s':PS),FN s->vN J n f s a=.ok x s'->K1 s s'
 |0,_,_,_,_,_,h=>by cases h
 |f+1,s,a,x,s',j,h=>by
  simp only[vN]at h
  split at h
  ·injection h with _ h;rw[<-h];exact oX s
  rename_i hk
  have U:=(oX s).trans (lX _)
  obtain⟨b,s1,e1,h⟩:=bind_ok h
  have h1:=U.trans (o _ _ _ (U.tk j) e1)
  obtain⟨y,s2,e2,h⟩:=bind_ok h
  have hl:=Qt hk
  have I:=h1.trans (sP (XE.of (by omega) zZ Bb rS ⟨λe=>by omega,λe=>by omega,λ_=>by simp,λe=>by omega⟩) e2)
  exact I.trans (MD o n f _ _ _ _ (I.tk j) h)
theorem Fv(hE:KE E)(j:KE S):∀m,KE (qX E S m)
 |0=>Iv hE j
 |m+1=>λs x s' o h=>by
  have h:(qX E S m s).bind (λa s1=>vN (qX E S m) (5-m) (s.toks.length+1) s1 a)=.ok x s':=h
  obtain⟨a,s1,e1,e2⟩:=bind_ok h
  have I:=Fv hE j m _ _ _ o e1
  exact I.trans (MD (Fv hE j m) _ _ _ _ _ _ (I.tk o) e2)
theorem ME(hE:KE E)(U:KE S):KE (yP E S):=by
 intro s x s' I h;unfold yP at h;obtain⟨a,s1,e1,h⟩:=bind_ok h;have h1:=Fv hE U 6 _ _ _ I e1;simp only at h;have o:=h1.trans (oN s1 [63]);split at h
 ·obtain⟨z,s2,e2,e3⟩:=bind_ok h;have h3:=o.trans (pW e2 λq q2 J e4=>by
   have j:=J.tk (o.tk I);obtain⟨y,q1,e5,e6⟩:=bind_ok e4;have g1:=hE _ _ _ j e5;obtain⟨_,q3,e7,e8⟩:=bind_ok e6;have g2:=g1.trans (uU e7);obtain⟨y2,q4,e9,e10⟩:=bind_ok e8;injection e10 with _ e10
   subst e10;exact g2.trans (hE _ _ _ (g2.tk j) e9))
  exact h3.trans (sP (XE.of (by decide) zZ Bb rS (by simp)) e3)
 ·injection h with _ h
  rw[<-h];exact o
theorem Ab:∀d,KE (qZ d).1/\KE (qZ d).2
 |0=>⟨ME Aj Aj,Iv Aj Aj⟩
 |d+1=>⟨ME (Ab d).1 (Ab d).2,Iv (Ab d).1 (Ab d).2⟩
end
section
open Go Go.Eng Go.Lex Go.Syn
variable{w:World}{K:Q0}{cs:List Value}{G:Nat->Prop}{T:TypeId}{i:Nat}{n:Nat}{v:Value}{w':World}{P:Program}{c:UInt8}{S:Nat->Prop}
def Do(t:Str):Prop:=(∃c r,t=c::r/\gV c=true)/\(∀d∈t,iS d=true)/\t.length<=100000
structure XB(b:Blk):Prop where
 ty:Do b.typ
 lb:∀s∈b.labels,Utf s/\s.length<=100000
 at_:∀a∈b.attrs,Do a.n
 few:b.labels.length<=5000
def HB:Nat->List Blk->Nat->Prop
 |0,_,_=>False
 |d+1,bl,i=>∃b,bl[i]?=some b/\∀k∈b.blocks,HB d bl k
theorem Og{α:Type}{l m:List α}(h:l<+:m){x:α}(hi:l[i]?=some x):m[i]?=some x:=by
 obtain⟨t,rfl⟩:=h;rw[List.getElem?_append_left (List.getElem?_eq_some_iff.1 hi).1];exact hi
theorem HB.mono{l m:List Blk}(h:l<+:m):∀{d i:Nat},HB d l i->HB d m i
 |0,_,o=>o
 |d+1,i,⟨b,J,I⟩=>⟨b,Og h J,λk j=>HB.mono h (I k j)⟩
structure K2(s s':PS):Prop where
 toks:s'.toks=s.toks
 pre:s.bl<+:s'.bl
 bl:(∀b∈s.bl,XB b)->∀b∈s'.bl,XB b
 ex:(∀e∈s.ex,XE e)->∀e∈s'.ex,XE e
theorem K1.k2{s s':PS}(h:K1 s s'):K2 s s':=⟨h.toks,by rw[h.bl];exact List.prefix_refl _,λhb=>by rw[h.bl];exact hb,h.ex⟩
theorem K2.trans{s s1 s2:PS}(h:K2 s s1)(j:K2 s1 s2):K2 s s2:=⟨j.toks.trans h.toks,h.pre.trans j.pre,λhb=>j.bl (h.bl hb),λo=>j.ex (h.ex o)⟩
theorem K2.tk{s s':PS}(h:K2 s s')(j:FN s):FN s':=by unfold FN;rw[h.toks];exact j
theorem Kt{α:Type}{s:PS}{a:Int}{q:Bool}{f:PS->R α}{x:α}{s':PS}(h:within s a q f=.ok x s'):∃s1 s2,K1 s s1/\s1.bl=s.bl/\f s1=.ok x s2/\s'.toks=s2.toks/\s'.bl=s2.bl/\s'.ex=s2.ex:=by
 unfold within at h;split at h
 ·cases h
 obtain⟨y,s1,e1,e2⟩:=bind_ok h;injection e2 with e2 e3
 subst e2 e3;exact⟨{s with deep:=s.deep+1,quiet:=q},s1,K1.of rfl rfl rfl,rfl,e1,rfl,rfl,rfl⟩
theorem Ml{t:Tok}(h:vW t)(j:t.k=1):Do t.t:=⟨(h.name j).1,(h.name j).2,h.ut.2⟩
theorem GN:∀(n:Nat) (s:PS) (ls:List Str) (x:List Str) (s':PS),FN s->(∀l∈ls,Utf l/\l.length<=100000)->pV n s ls=.ok x s'->K1 s s'/\(∀l∈x,Utf l/\l.length<=100000)/\x.length<=ls.length+n
 |0,_,_,_,_,_,_,h=>by cases h
 |n+1,s,ls,x,s',I,hl,h=>by
  simp only[pV]at h
  split at h
  ·have tk:=xD I
   obtain⟨y,s1,e1,e2⟩:=bind_ok h
   have o:s1=kI s/\y=jB (cur s).t:=by
    unfold pF at e1;split at e1
    ·cases e1
    ·injection e1 with e3 e4;exact⟨e4.symm,e3.symm⟩
   have k1:K1 s s1:=by rw[o.1];exact Iw s
   obtain⟨g1,g2,g3⟩:=GN n s1 _ x s' (k1.tk I) (λl j=>by
    rcases bH.1 j with j|j
    ·exact hl l j
    ·rw[bR]at j;rw[j,o.2];exact BC tk.ut.1 tk.ut.2) e2
   exact⟨k1.trans g1,g2,by rw[aP]at g3;simp only[aB,aK]at g3;omega⟩
  ·injection h with o J
   rw[<-o,<-J];exact⟨oX s,hl,by omega⟩
def KB(d:Nat)(B:PS->R Nat):Prop:=∀s x s',FN s->B s=.ok x s'->K2 s s'/\HB d s'.bl x
theorem QQ:KB 0 dead:=λs x s' _ h=>by cases h
variable{E B:PS->R Nat}{d:Nat}
theorem Vy(hE:KE E)(hB:KB d B){s:PS}{us:List Atr}{bs:List Nat}{x:List Atr×List Nat}{s':PS}(I:FN s)(hu:∀a∈us,Do a.n)(hb:∀k∈bs,HB d s.bl k)(h:yN E B s us bs=.ok x s'):
  K2 s s'/\(∀a∈x.1,Do a.n)/\∀k∈x.2,HB d s'.bl k:=by
 unfold yN at h;obtain⟨t,s1,e1,h⟩:=bind_ok h;obtain⟨k1,r1,r2⟩:=zA e1;have tk:vW t:=by rw[r1];exact xD I
 have k2:=k1.trans (oN s1 [61]);split at h
 ·obtain⟨y,s2,e2,h⟩:=bind_ok h;have k3:=k2.trans (hE _ _ _ (k2.tk I) e2);injection h with U J
  subst U J;refine⟨k3.k2,λa o=>?_,λk j=>by rw[k3.bl];exact hb k j⟩;rcases bH.1 o with o|o
  ·exact hu a o
  ·rw[bR]at o;rw[o];exact Ml tk r2
 ·obtain⟨y,s2,e2,h⟩:=bind_ok h;have k3:K1 s {(cD s1 [61]).2 with i:=(cD s1 [61]).2.i-1}:=k2.trans (K1.of rfl rfl rfl);obtain⟨g1,g2⟩:=hB _ _ _ (k3.tk I) e2;injection h with U J
  subst U J;have k4:=k3.k2.trans g1;refine⟨k4,hu,λk j=>?_⟩;rcases bH.1 j with j|j
  ·exact(hb k j).mono k4.pre
  ·rw[bR]at j;rw[j];exact g2
theorem Jv(hE:KE E)(hB:KB d B):∀(n:Nat) (s:PS) (us:List Atr) (bs:List Nat) (x:List Atr×List Nat) (s':PS),FN s->(∀a∈us,Do a.n)->(∀k∈bs,HB d s.bl k)->pY E B n s us bs=.ok x s'->
  K2 s s'/\(∀a∈x.1,Do a.n)/\∀k∈x.2,HB d s'.bl k
 |0,_,_,_,_,_,_,_,_,h=>by cases h
 |n+1,s,us,bs,x,s',I,o,hb,h=>by
  simp only[pY]at h
  have k1:=oN s [125]
  split at h
  ·injection h with U J
   subst U J
   exact⟨k1.k2,o,λk j=>by rw[k1.bl];exact hb k j⟩
  obtain⟨y,s1,e1,h⟩:=bind_ok h
  obtain⟨g1,g2,g3⟩:=Vy hE hB (k1.tk I) o (λk j=>by rw[k1.bl];exact hb k j) e1
  split at h
  ·cases h
  have k3:=(oX s1).trans (uW (bE s1))
  have k4:=(k1.k2.trans g1).trans k3.k2
  obtain⟨q1,q2,q3⟩:=Jv hE hB n _ _ _ x s' (k4.tk I) g2 (λk j=>by rw[k3.bl];exact g3 k j) h
  exact⟨k4.trans q1,q2,q3⟩
theorem Jw(hE:KE E)(hB:KB d B):KB (d+1) (tM E B):=by
 intro s x s' o h;unfold tM at h;obtain⟨t,s1,e1,h⟩:=bind_ok h;obtain⟨k1,r1,r2⟩:=zA e1;have tk:vW t:=by rw[r1];exact xD o
 obtain⟨ls,s2,e2,h⟩:=bind_ok h;obtain⟨k2,I,J⟩:=GN _ _ _ _ _ (k1.tk o) (λl hl=>by cases hl) e2;have k12:=k1.trans k2;split at h
 ·cases h
 obtain⟨y,s3,e3,h⟩:=bind_ok h;obtain⟨q,q2,w1,w2,w3,w4,w5,w6⟩:=Kt e3;have kq:=((k12.trans (oX s2)).trans w1).trans ((lX q).trans (uW (step1 q)));obtain⟨g1,g2,g3⟩:=Jv hE hB _ _ _ _ _ _ (kq.tk o) (λa ha=>by cases ha) (λk U=>by cases U) w3;have k5:=kq.k2.trans g1;injection h with h1 h2
 subst h1 h2;have hx:XB ⟨t.t,ls,y.1,y.2,t.a⟩:=⟨Ml tk r2,I,g2,by show ls.length<=5000;have:=o.2;simp only[aK]at J;omega⟩;refine⟨⟨w4.trans k5.toks,?_,λhb b j=>?_,λhe=>by show∀e∈s3.ex,XE e;rw[w6];exact k5.ex he⟩,?_⟩
 ·show s.bl<+:s3.bl++_;rw[w5];exact k5.pre.trans (List.prefix_append _ _)
 ·have j:b∈s3.bl++[⟨t.t,ls,y.1,y.2,t.a⟩]:=j;rcases bH.1 j with j|j
  ·rw[w5]at j;exact k5.bl hb b j
  ·rw[bR]at j;rw[j];exact hx
 ·refine⟨⟨t.t,ls,y.1,y.2,t.a⟩,?_,λk U=>?_⟩
  ·show(s3.bl++[_])[s3.bl.length]?=_;rw[List.getElem?_append_right (aY _),Nat.sub_self];rfl
  ·refine(g3 k U).mono ?_;show q2.bl<+:s3.bl++_;rw[<-w5];exact List.prefix_append _ _
theorem GO:∀d,KB (d+1) (zF d)
 |0=>Jw Aj QQ
 |d+1=>Jw (Ab d).1 (GO d)
theorem Tv:∀(n:Nat) (s:PS) (top x:List Nat) (s':PS),FN s->(∀k∈top,HB 25 s.bl k)->Bu n s top=.ok x s'->K2 s s'/\∀k∈x,HB 25 s'.bl k
 |0,_,_,_,_,_,_,h=>by cases h
 |n+1,s,top,x,s',o,hb,h=>by
  simp only[Bu]at h
  have k1:=oX s
  split at h
  ·injection h with J I
   subst J I
   exact⟨k1.k2,λk j=>by rw[k1.bl];exact hb k j⟩
  obtain⟨y,s1,e1,h⟩:=bind_ok h
  obtain⟨g1,g2⟩:=GO 24 _ _ _ (k1.tk o) e1
  split at h
  ·cases h
  have k3:=(oX s1).trans (uW (bE s1))
  have k4:=(k1.k2.trans g1).trans k3.k2
  obtain⟨q1,q2⟩:=Tv n _ _ x s' (k4.tk o) (λk j=>by
   rcases bH.1 j with j|j
   ·exact(hb k j).mono k4.pre
   ·rw[bR]at j;rw[j,k3.bl];exact g2) h
  exact⟨k4.trans q1,q2⟩
theorem GB{t:Str}{f:Fl}(h:sJ t=.ok f):(∀e∈f.ex,XE e)/\(∀b∈f.bl,XB b)/\∀k∈f.top,HB 25 f.bl k:=by
 unfold sJ at h;cases j:nI t with
 |bad c a=>rw[j]at h;cases h
 |ok l=>
  rw[j]at h;simp only at h;cases o:Bu (l.length+1) (iR ⟨l,0,0,0,false,[],[]⟩) []with
  |err c a=>rw[o]at h;cases h
  |ok top s'=>
   rw[o]at h;injection h with h
   subst h;have k1:=uW ⟨l,0,0,0,false,[],[]⟩;obtain⟨g1,g2⟩:=Tv _ _ _ _ _ (k1.tk ⟨DI j,(wO j).1⟩) (λk I=>by cases I) o;have g:=k1.k2.trans g1;exact⟨g.ex (λe J=>by cases J),g.bl (λb hb=>by cases hb),g2⟩
end
end Go.Proofs.YtjblfcfdeaagpaaGreatDoor
namespace Go.Cfg
section
open Go Go.Eng Go.Lex Go.Syn
variable{w:World}{K:Q0}{cs:List Value}{G:Nat->Prop}{T:TypeId}{i:Nat}{n:Nat}{v:Value}{w':World}{P:Program}{c:UInt8}{S:Nat->Prop}
theorem bind_ok{α β:Type}{r:RC α}{f:α->RC β}{y:β}(h:r.bind f=.ok y):∃x,r=.ok x/\f x=.ok y:=by
 cases r with
 |ok x=>exact⟨x,rfl,h⟩
 |bad c a=>cases h
theorem qP{σ:Type}{f:Fl}{take:σ->Atr->Ex->RC σ}{P:σ->Prop}:∀(l seen:List Atr) (s s':σ),(∀s a s',a∈l->P s->take s a (kT f a.e)=.ok s'->P s')->P s->kZ f take seen l s=.ok s'->P s'
 |[],_,s,s',_,h,e=>by
  simp only[kZ]at e
  injection e with e
  exact e▸h
 |a::l,seen,s,s',j,h,e=>by
  simp only[kZ]at e
  split at e
  ·cases e
  ·obtain⟨s1,J,I⟩:=bind_ok e
   exact qP l _ s1 s' (λs a s' o=>j s a s' (aE _ o)) (j s a s1 aW h J) I
def WU(f:Fl):Prop:=∀b∈f.bl,∀a∈b.attrs,a.e<f.ex.length
theorem WU.at{f:Fl}(h:WU f)(k:Nat):∀a∈(kC f k).attrs,a.e<f.ex.length:=by
 unfold kC;intro a j;by_cases o:k<f.bl.length
 ·rw[List.getD_eq_getElem?_getD,List.getElem?_eq_getElem o]at j;exact h _ (Aw o) a j
 ·rw[List.getD_eq_getElem?_getD,List.getElem?_eq_none (by omega)]at j;cases j
structure ZA(n:Nat)(r:Rs):Prop where
 one:r.count<0\/r.each<0
 cn:r.count<(n:Int)
 en:r.each<(n:Int)
structure FP(s:MS):Prop where
 vn:(s.m.vars.map (·.n)).Nodup
 ln:(s.m.locs.map (·.n)).Nodup
 on:(s.m.outs.map (·.n)).Nodup
 rn:(s.m.res.map λr=>(r.ty,r.n)).Nodup
 cn:(s.m.calls.map (·.n)).Nodup
 rv:∀r∈s.m.res,lL r.ty=true/\r.ty∉oA/\ZA s.m.fl.ex.length r
 vd:∀v∈s.m.vars,-1<=v.d/\v.d<(s.m.fl.ex.length:Int)
 sl:s.src.length=s.m.calls.length
 sn:∀d∈s.src,lL d=true
theorem sK{α β:Type}[DecidableEq β]{g:α->β}{l:List α}{x:α}(h:(l.map g).Nodup)(o:¬l.any (λy=>decide (g y=g x))=true):((l++[x]).map g).Nodup:=by
 rw[List.map_append,gQ];refine⟨h,by simp,?_⟩;intro a I b hb e;simp only[fC,jQ,bR]at hb;subst hb e;obtain⟨y,j,e⟩:=lQ.1 I;exact o (mA.2 ⟨y,j,by simpa using e⟩)
theorem EL{s s':MS}{b:Blk}(h:FP s)(U:∀a∈b.attrs,a.e<s.m.fl.ex.length)(e:nW s b=.ok s'):FP s'/\s'.m.fl=s.m.fl/\s'.m.dir=s.m.dir:=by
 unfold nW at e;obtain⟨d,h1,e⟩:=bind_ok e;obtain⟨_,_,e⟩:=bind_ok e;have hd:-1<=d/\d<(s.m.fl.ex.length:Int):=by
  refine qP (P:=λd:Int=>-1<=d/\d<(s.m.fl.ex.length:Int)) b.attrs [] (-1) d (λd a d' J _ o=>?_) ⟨by omega,by omega⟩ h1;simp only[JQ]at o;split at o
  ·injection o with o
   have:=U a J;omega
  ·cases o
 split at e
 ·cases e
 ·rename_i I;injection e with e
  subst e;refine⟨⟨sK h.vn I,h.ln,h.on,h.rn,h.cn,h.rv,λv j=>?_,h.sl,h.sn⟩,rfl,rfl⟩;rcases bH.1 j with j|j
  ·exact h.vd v j
  ·rw[bR.1 j];exact hd
theorem Ip{s s':MS}{b:Blk}(h:FP s)(e:rX s b=.ok s'):FP s'/\s'.m.fl=s.m.fl/\s'.m.dir=s.m.dir:=by
 unfold rX at e;obtain⟨l,I,e⟩:=bind_ok e;obtain⟨_,_,e⟩:=bind_ok e;have hd:(l.map (·.n)).Nodup:=by
  refine qP (P:=λl:List Atr=>(l.map (·.n)).Nodup) b.attrs [] s.m.locs l (λl a l' J hl j=>?_) h.ln I;simp only[GK]at j;split at j
  ·cases j
  ·rename_i o;injection j with j
   subst j;exact sK hl o
 injection e with e
 subst e;exact⟨⟨h.vn,hd,h.on,h.rn,h.cn,h.rv,h.vd,h.sl,h.sn⟩,rfl,rfl⟩
theorem Ik{s s':MS}{b:Blk}(h:FP s)(e:rV s b=.ok s'):FP s'/\s'.m.fl=s.m.fl/\s'.m.dir=s.m.dir:=by
 unfold rV at e;obtain⟨d,o,e⟩:=bind_ok e;obtain⟨_,_,e⟩:=bind_ok e;split at e
 ·cases e
 ·split at e
  ·cases e
  ·rename_i j;injection e with e
   subst e;exact⟨⟨h.vn,h.ln,sK h.on j,h.rn,h.cn,h.rv,h.vd,h.sl,h.sn⟩,rfl,rfl⟩
theorem Mx{f:Fl}{r r':Rs}{a:Atr}{e:Ex}(h:tZ r a e=.ok r'):r'.ty=r.ty/\r'.n=r.n/\r'.count=r.count/\r'.each=r.each:=by
 simp only[tZ]at h;split at h
 ·split at h
  ·injection h with h;subst h;exact⟨rfl,rfl,rfl,rfl⟩
  ·cases h
 ·split at h
  ·split at h
   ·injection h with h;subst h;exact⟨rfl,rfl,rfl,rfl⟩
   ·cases h
  ·cases h
theorem GM{f:Fl}:∀(l:List Nat) (i:Nat) (r r':Rs),yM f i l r=.ok r'->r'.ty=r.ty/\r'.n=r.n/\r'.count=r.count/\r'.each=r.each
 |[],i,r,r',h=>by
  simp only[yM]at h
  injection h with h;subst h;exact⟨rfl,rfl,rfl,rfl⟩
 |k::l,i,r,r',h=>by
  simp only[yM]at h
  split at h
  ·cases h
  ·split at h
   ·cases h
   ·obtain⟨r1,I,h⟩:=bind_ok h
    obtain⟨_,_,h⟩:=bind_ok h
    have g:=GM l _ r1 r' h
    have g1:r1.ty=r.ty/\r1.n=r.n/\r1.count=r.count/\r1.each=r.each:=
     qP (P:=λx:Rs=>x.ty=r.ty/\x.n=r.n/\x.count=r.count/\x.each=r.each) _ [] r r1 (λx a x' _ j o=>by
      obtain⟨a1,a2,a3,a4⟩:=Mx (f:=f) o
      exact⟨a1.trans j.1,a2.trans j.2.1,a3.trans j.2.2.1,a4.trans j.2.2.2⟩) ⟨rfl,rfl,rfl,rfl⟩ I
    exact⟨g.1.trans g1.1,g.2.1.trans g1.2.1,g.2.2.1.trans g1.2.2.1,g.2.2.2.trans g1.2.2.2⟩
theorem Fg{r r':Rs}{a:Atr}(h:oneOf r a=.ok r'):r'=r/\(r.count<0\/r.each<0):=by
 simp only[oneOf]at h;split at h
 ·injection h with h;exact⟨h.symm,by assumption⟩
 ·cases h
theorem Ob{f:Fl}{r r':Rs}{a:Atr}{e:Ex}(o:a.e<f.ex.length)(j:ZA f.ex.length r)(h:tU f r a e=.ok r'):ZA f.ex.length r'/\r'.ty=r.ty/\r'.n=r.n:=by
 simp only[tU]at h;split at h
 ·cases h
 ·split at h
  ·obtain⟨rfl,g⟩:=Fg h;exact⟨⟨g,by simp;omega,j.en⟩,rfl,rfl⟩
  ·split at h
   ·obtain⟨rfl,g⟩:=Fg h;exact⟨⟨g,j.cn,by simp;omega⟩,rfl,rfl⟩
   ·split at h
    ·split at h
     ·cases h
     ·split at h
      ·injection h with h;subst h;exact⟨⟨j.one,j.cn,j.en⟩,rfl,rfl⟩
      ·cases h
    ·obtain⟨rfl,g⟩:=Fg h;exact⟨⟨g,j.cn,j.en⟩,rfl,rfl⟩
theorem EW{s s':MS}{b:Blk}(h:FP s)(ha:∀a∈b.attrs,a.e<s.m.fl.ex.length)(hn:lL (b.labels.getD 0 [])=true)(U:b.labels.getD 0 []∉oA)(e:nZ s b=.ok s'):FP s'/\s'.m.fl=s.m.fl/\s'.m.dir=s.m.dir:=by
 unfold nZ at e;obtain⟨r,h1,e⟩:=bind_ok e;obtain⟨r2,h2,e⟩:=bind_ok e;have g1:ZA s.m.fl.ex.length r/\r.ty=b.labels.getD 0 []/\r.n=b.labels.getD 1 []:=
  qP (P:=λx:Rs=>ZA s.m.fl.ex.length x/\x.ty=b.labels.getD 0 []/\x.n=b.labels.getD 1 []) _ [] _ r (λx a x' hm j J=>by
   obtain⟨a1,a2,a3⟩:=Ob (ha a hm) j.1 J;exact⟨a1,a2.trans j.2.1,a3.trans j.2.2⟩) ⟨⟨.inl (show(-1:Int)<0 by decide),by simp;omega,by simp;omega⟩,rfl,rfl⟩ h1
 obtain⟨l1,l2,l3,l4⟩:=GM _ _ _ _ h2;split at e
 ·cases e
 ·rename_i j;injection e with e
  subst e;refine⟨⟨h.vn,h.ln,h.on,?_,h.cn,λx j=>?_,h.vd,h.sl,h.sn⟩,rfl,rfl⟩
  ·refine sK h.rn λo=>j ?_;obtain⟨y,o,I⟩:=mA.1 o;simp only[gK,fD]at I;exact mA.2 ⟨y,o,by simp[I.1,I.2]⟩
  ·rcases bH.1 j with j|j
   ·exact h.rv x j
   ·rw[bR.1 j,l1,g1.2.1];exact⟨hn,U,⟨by rw[l3,l4];exact g1.1.one,by rw[l3];exact g1.1.cn,by rw[l4];exact g1.1.en⟩⟩
theorem Nl{s s':MS}{b:Blk}(h:FP s)(e:Am s b=.ok s'):FP s'/\s'.m.fl=s.m.fl/\s'.m.dir=s.m.dir:=by
 unfold Am at e;obtain⟨r,h1,e⟩:=bind_ok e;obtain⟨_,_,e⟩:=bind_ok e;have g1:r.2=[]\/lL r.2=true:=
  qP (P:=λx:List Atr×Str=>x.2=[]\/lL x.2=true) _ [] _ r (λx a x' hm o j=>by
   simp only[xG]at j;split at j
   ·split at j
    ·rename_i U;injection j with j;subst j;exact .inr U.2
    ·cases j
   ·injection j with j;subst j;exact o) (.inl rfl) h1
 split at e
 ·cases e
 ·rename_i I;split at e
  ·cases e
  ·rename_i J;injection e with e
   subst e;refine⟨⟨h.vn,h.ln,h.on,h.rn,sK h.cn J,h.rv,h.vd,by simp[h.sl],λd hd=>?_⟩,rfl,rfl⟩;rcases bH.1 hd with hd|hd
   ·exact h.sn d hd
   ·rw[bR.1 hd];exact g1.resolve_left I
theorem KZ{s s':MS}{b:Blk}(h:FP s)(U:∀a∈b.attrs,a.e<s.m.fl.ex.length)(e:sU s b=.ok s'):FP s'/\s'.m.fl=s.m.fl/\s'.m.dir=s.m.dir:=by
 unfold sU at e;split at e
 ·cases e
 ·rename_i o;split at e
  ·exact EL h U e
  split at e
  ·exact Ip h e
  split at e
  ·exact Ik h e
  split at e
  ·rename_i I;have J:tE b.typ=b.labels.length:=jA λj=>o (.inl j);have hl:¬b.labels.any (λl=> !lL l)=true:=λj=>o (.inr (.inl j));have hv:¬(b.typ=kD/\b.labels.getD 0 []∈oA):=λj=>o (.inr (.inr j));rw[I]at J;have h2:b.labels.length=2:=by
    have:tE kD=2:=by decide
    rw[this]at J;omega
   refine EW h U ?_ (λj=>hv ⟨I,j⟩) e;cases hn:lL (b.labels.getD 0 [])with
   |true=>rfl
   |false=>
    refine absurd (mA.2 ⟨b.labels.getD 0 [],?_,by rw[hn];rfl⟩) hl;rw[List.getD_eq_getElem?_getD,List.getElem?_eq_getElem (by omega)];exact Aw _
  split at e
  ·exact Nl h e
  ·injection e with e;subst e;exact⟨h,rfl,rfl⟩
theorem zE:∀(l:List Nat) (s s':MS),FP s->WU s.m.fl->nK l s=.ok s'->FP s'/\s'.m.fl=s.m.fl/\s'.m.dir=s.m.dir
 |[],s,s',h,_,e=>by
  simp only[nK]at e
  injection e with e;subst e;exact⟨h,rfl,rfl⟩
 |k::l,s,s',h,j,e=>by
  simp only[nK]at e
  obtain⟨s1,o,e⟩:=bind_ok e
  obtain⟨g1,g2,g3⟩:=KZ h (j.at k) o
  obtain⟨f1,f2,f3⟩:=zE l s1 s' g1 (by rw[g2];exact j) e
  exact⟨f1,f2.trans g2,f3.trans g3⟩
theorem Jr(dir:Str)(f:Fl):FP ⟨⟨dir,f,[],[],[],[],[]⟩,[]⟩:=
 ⟨mM,mM,mM,mM,mM,by simp,by simp,rfl,by simp⟩
theorem JX{f:Fl}{top:List Nat}{dir:Str}{s:MS}(h:nK top ⟨⟨dir,f,[],[],[],[],[]⟩,[]⟩=.ok s):∀d∈s.src,lL d=true:=by
 have:∀(l:List Nat) (s s':MS),(∀d∈s.src,lL d=true)->nK l s=.ok s'->∀d∈s'.src,lL d=true:=by
  intro l;induction l with
  |nil=>
   intro s s' h e;simp only[nK]at e;injection e with e;subst e;exact h
  |cons k l ih=>
   intro s s' h e;simp only[nK]at e;obtain⟨s1,j,e⟩:=bind_ok e;refine ih s1 s' ?_ e;unfold sU at j;split at j
   ·cases j
   split at j
   ·unfold nW at j;obtain⟨_,_,j⟩:=bind_ok j;obtain⟨_,_,j⟩:=bind_ok j;split at j
    ·cases j
    ·injection j with j;subst j;exact h
   split at j
   ·unfold rX at j;obtain⟨_,_,j⟩:=bind_ok j;obtain⟨_,_,j⟩:=bind_ok j;injection j with j;subst j;exact h
   split at j
   ·unfold rV at j;obtain⟨_,_,j⟩:=bind_ok j;obtain⟨_,_,j⟩:=bind_ok j;split at j
    ·cases j
    split at j
    ·cases j
    ·injection j with j;subst j;exact h
   split at j
   ·unfold nZ at j;obtain⟨_,_,j⟩:=bind_ok j;obtain⟨_,_,j⟩:=bind_ok j;split at j
    ·cases j
    ·injection j with j;subst j;exact h
   split at j
   ·unfold Am at j;obtain⟨r,U,j⟩:=bind_ok j;obtain⟨_,_,j⟩:=bind_ok j;have g1:r.2=[]\/lL r.2=true:=
     qP (P:=λx:List Atr×Str=>x.2=[]\/lL x.2=true) _ [] _ r (λx a x' hm I o=>by
      simp only[xG]at o;split at o
      ·split at o
       ·rename_i h5;injection o with o;subst o;exact .inr h5.2
       ·cases o
      ·injection o with o;subst o;exact I) (.inl rfl) U
    split at j
    ·cases j
    rename_i J;split at j
    ·cases j
    ·injection j with j;subst j
     intro d hd;rcases bH.1 hd with hd|hd
     ·exact h d hd
     ·rw[bR.1 hd];exact g1.resolve_left J
   ·injection j with j;subst j;exact h
 exact this _ _ _ (by simp) h
def yK(l:List Md):List Nat:=l.flatMap λm=>m.calls.map (·.mod)
structure LOk(base:Nat)(new:List Md):Prop where
 ok:∀m∈new,∃src,FP ⟨m,src⟩
 ct:∀j,(yK new).count j=if base<j/\j<base+new.length then 1 else 0
 up:∀i m,new[i]?=some m->∀c∈m.calls,base+i<c.mod
def Lf(ld:Str->List Md->RL (List Md)):Prop:=∀dir mods mods',mods.length<=15->ld dir mods=.ok mods'->∃new,mods'=mods++new/\new≠[]/\mods'.length<=16/\LOk mods.length new
theorem LO(a b:List Md):yK (a++b)=yK a++yK b:=by simp[yK]
theorem Hs{sub:Option (Str->List Md->RL (List Md))}(hs:∀ld,sub=some ld->Lf ld)(path dir:Str):∀(l:List (Cl×Str)) (done:List Cl) (mods:List Md) (cs:List Cl) (mods':List Md),mods.length<=16->rP sub path dir l done mods=.ok (cs,mods')->
  ∃new cs',mods'=mods++new/\cs=done++cs'/\cs'.map (·.n)=l.map (·.1.n)/\mods'.length<=16/\(∀m∈new,∃src,FP ⟨m,src⟩)/\(∀j,(cs'.map (·.mod)).count j+(yK new).count j=if mods.length<=j/\j<mods'.length then 1 else 0)/\(∀c∈cs',mods.length<=c.mod)/\∀i m,new[i]?=some m->∀c∈m.calls,mods.length+i<c.mod
 |[],done,mods,cs,mods',I,e=>by
  simp only[rP]at e
  injection e with e
  simp only[gK]at e
  obtain⟨rfl,rfl⟩:=e
  refine⟨[],[],by simp,by simp,rfl,I,by simp,λj=>?_,by simp,by simp⟩
  rw[aJ (by omega)]
  simp[yK]
 |(c,src)::l,done,mods,cs,mods',I,e=>by
  simp only[rP]at e
  cases sub with
  |none=>cases e
  |some ld=>
   simp only at e
   split at e
   ·cases e
   rename_i hj
   cases hl:ld (dir++src++[47]) mods with
   |bad k p a=>rw[hl]at e;cases e
   |ok m1=>
    rw[hl]at e
    simp only at e
    obtain⟨new1,rfl,J,h1,hL⟩:=hs ld rfl _ _ _ (by omega) hl
    split at e
    ·cases e
    split at e
    ·cases e
    obtain⟨new,cs',rfl,rfl,g1,g2,g3,g4,g5,g6⟩:=Hs hs path dir l _ _ cs mods' h1 e
    have hh:0<new1.length:=gY.2 J
    refine⟨new1++new,{c with mod:=mods.length}::cs',by simp,by simp,by simp[g1],g2,λm I=>?_,λj=>?_,λx o=>?_,λi m hi x o=>?_⟩
    ·exact(bH.1 I).elim (hL.ok m) (g3 m)
    ·have e1:=hL.ct j
     have e2:=g4 j
     simp only[aP]at e2⊢
     rw[LO,kV,e1,fC,vQ]
     simp only[gR]
     split at e2<;>(repeat' split)<;>omega
    ·rcases aX.1 o with rfl|o
     ·exact aY _
     ·have:=g5 x o
      rw[aP]at this
      omega
    ·by_cases U:i<new1.length
     ·rw[List.getElem?_append_left U]at hi
      exact hL.up i m hi x o
     ·rw[List.getElem?_append_right (by omega)]at hi
      have:=g6 _ m hi x o
      rw[aP]at this
      omega
theorem Ht{s:MS}{cs:List Cl}(h:FP s)(j:cs.map (·.n)=(s.m.calls.zip s.src).map (·.1.n)):FP ⟨{s.m with calls:=cs},s.src⟩:=by
 have e:(s.m.calls.zip s.src).map (·.1.n)=s.m.calls.map (·.n):=by
  have:(s.m.calls.zip s.src).map (·.1)=s.m.calls:=by rw[List.map_fst_zip];rw[h.sl];exact aY _
  rw[<-this,yF,this];rfl
 rw[e]at j;have hl:cs.length=s.m.calls.length:=by simpa using congrArg List.length j
 exact⟨h.vn,h.ln,h.on,h.rn,by show(cs.map (·.n)).Nodup;rw[j];exact h.cn,h.rv,h.vd,by show s.src.length=cs.length;rw[hl];exact h.sl,h.sn⟩
theorem Qp{rd:Str->Option Str}(hA:∀t fl,sJ t=.ok fl->WU fl):∀n,Lf (qF rd n):=by
 have step:∀sub:Option (Str->List Md->RL (List Md)),(∀ld,sub=some ld->Lf ld)->Lf (Cp rd sub):=by
  intro sub U dir mods mods' J e;unfold Cp at e;split at e
  ·cases e
  split at e
  ·cases e
  rename_i hp;split at e
  ·cases e
  rename_i s hb;have hk:=zE _ _ _ (Jr dir _) (hA _ _ hp) hb;split at e
  ·cases e
  rename_i cs m1 hc;injection e with e
  subst e;obtain⟨new,cs',rfl,o,g1,g2,g3,g4,g5,g6⟩:=Hs U _ _ _ _ _ _ _ (by simp;omega) hc;simp only[gJ]at o;subst o;refine⟨{s.m with calls:=cs}::new,?_,by simp,by simpa using g2,λm J=>?_,λj=>?_,λi m hi c I=>?_⟩
  ·rw[fK,List.set_append_right _ _ (aY _),Nat.sub_self];rfl
  ·rcases aX.1 J with rfl|J
   ·exact⟨s.src,Ht hk.1 g1⟩
   ·exact g3 m J
  ·have:=g4 j;simp only[aP,aB,aK]at this⊢;rw[show yK ({s.m with calls:=cs}::new)=cs.map (·.mod)++yK new by simp[yK],kV,this];split
   ·rw[aO (by omega)]
   ·rw[aJ (by omega)]
  ·cases i with
   |zero=>
    simp only[List.getElem?_cons_zero,aV]at hi;subst hi;have:=g5 c I;simp only[aP,aB,aK]at this;omega
   |succ i=>
    rw[List.getElem?_cons_succ]at hi;have:=g6 i m hi c I;simp only[aP,aB,aK]at this;omega
 intro n;induction n with
 |zero=>exact step none (by simp)
 |succ n ih=>exact step _ (by intro ld h;injection h with h;subst h;exact ih)
end
end Go.Cfg
namespace Go.Proofs.YtjblfcfdeaagpaaGreatDoor
section
open Go Go.Eng Go.RowKit Go.Syn Go.Lex Go.Cfg
variable{w:World}{K:Q0}{cs:List Value}{G:Nat->Prop}{T:TypeId}{i:Nat}{n:Nat}{v:Value}{w':World}{P:Program}{c:UInt8}{S:Nat->Prop}
theorem sL:∀(n:Nat) (l:List Nat),l.Nodup->(∀x∈l,x<n)->l.length<=n
 |0,l,_,h=>by
  cases l with
  |nil=>exact aY _
  |cons x l=>exact absurd (h x aW) (Nat.not_lt_zero _)
 |n+1,l,o,h=>by
  by_cases I:n∈l
  ·have h1:=sL n (l.erase n) (o.erase n) λx j=>by
    have U:=h x (List.mem_of_mem_erase j)
    have J:x≠n:=λe=>by
     subst e
     exact(List.Nodup.not_mem_erase o) j
    omega
   rw[List.length_erase_of_mem I]at h1
   omega
  ·have:=sL n l o λx j=>by
    have U:=h x j
    have J:x≠n:=λe=>I (e▸j)
    omega
   omega
theorem Bm{l:List Nat}(h:∀j,l.count j<=1):l.Nodup:=List.nodup_iff_count.2 h
theorem CI{L:List (List Nat)}{roots:List Nat}(h:eB L roots):roots.length<=L.length/\∀us∈L,us.length<=L.length:=by
 have hr:roots.Nodup:=Bm λj=>by
  by_cases I:j<L.length
  ·have:=h.once j I;omega
  ·rw[vX.2 λJ=>I (h.low j J)];omega
 have hf:L.flatten.Nodup:=Bm λj=>by
  by_cases I:j<L.length
  ·have:=h.once j I;omega
  ·rw[vX.2 λJ=>I (h.flat_lt j J)];omega
 refine⟨sL _ _ hr h.low,λus o=>sL _ _ (hf.sublist (List.sublist_flatten_of_mem o)) λx U=>h.flat_lt x (List.mem_flatten.2 ⟨us,o,U⟩)⟩
structure ZC(fl:Fl):Prop where
 fa:∀M,ZN fl M
 ll:∀k,k<fl.bl.length->∀x∈(kC fl k).labels,x.length<=1000000
 top:∀k∈fl.top,k<fl.bl.length
 aok:WU fl
theorem GC{t:Str}{fl:Fl}(h:sJ t=.ok fl)(U:fl.ex.length<=100000/\fl.bl.length<=100000/\fl.top.length<=100000):ZC fl:=by
 have hp:=Bh t;rw[h]at hp;obtain⟨_,f1,f2,_⟩:=hp;obtain⟨s1,s2,_⟩:=GB h;obtain⟨g1,g2⟩:=CI f1;obtain⟨g3,g4⟩:=CI f2;have I:(exL fl.ex).length=fl.ex.length:=by simp[exL]
 have J:(blL fl.bl).length=fl.bl.length:=by simp[blL]
 rw[I]at g1 g2;rw[J]at g3 g4;have aok:WU fl:=λb hb a ha=>by
  have:=f1.low a.e (by unfold yQ;exact List.mem_flatMap.2 ⟨b,hb,lQ.2 ⟨a,ha,rfl⟩⟩);rw[I]at this;exact this
 have mem:∀k,k<fl.bl.length->kC fl k∈fl.bl:=λk o=>bI (CY o);have bat:∀k,k<fl.bl.length->(kC fl k).attrs.length<=100000:=λk o=>by
  have:((kC fl k).attrs.map (·.e)).Sublist (yQ fl.bl):=by
   unfold yQ;exact List.sublist_flatten_of_mem (lQ.2 ⟨_,mem k o,rfl⟩)
  have:=this.length_le;rw[kN]at this;omega
 refine⟨λM=>⟨λk o=>⟨o,aok _ (mem k o),λj hj=>?_,?_,?_,?_⟩,⟨λi e hi a ha=>?_,λe he o=>(s1 e he).a1 (.inl o),λe he=>⟨?_,(s1 e he).ut.2⟩⟩,U.1,bat⟩,λk o x hx=>?_,λk o=>?_,aok⟩
 ·have:=f2.ahead k (kC fl k).blocks (by unfold blL;rw[List.getElem?_map,CY o];rfl) j hj;omega
 ·have:=bat k o;omega
 ·have:=g4 (kC fl k).blocks (by unfold blL;exact lQ.2 ⟨_,mem k o,rfl⟩);omega
 ·have:=(s2 _ (mem k o)).few;omega
 ·exact f1.ahead i e.args (by unfold exL;rw[List.getElem?_map,hi];rfl) a ha
 ·have:=g2 e.args (by unfold exL;exact lQ.2 ⟨e,he,rfl⟩);omega
 ·have:=((s2 _ (mem k o)).lb x hx).2;omega
 ·have:=f2.low k o;rw[J]at this;exact this
end
end Go.Proofs.YtjblfcfdeaagpaaGreatDoor
namespace Go.Proofs.YtjblfcfdeaagpaaGreatDoor.Fx
section
open Go Go.Eng Go.Vfs
def one(p:Str):Option MF->jW
 |some y=>[(p,y)]
 |none=>[]
end
section
open Go Go.Eng Go.Vfs
variable{w:World}{K:Q0}{cs:List Value}{G:Nat->Prop}{T:TypeId}{i:Nat}{n:Nat}{v:Value}{w':World}{P:Program}{c:UInt8}{S:Nat->Prop}
structure Fs(w0 w:World)(b m:Nat)(s:MS):Prop where
 fs:FsB w b m s
 ok:Ok s
 gb:w0.heap.size<=b
 gm:w0.heap.size<=m
 ext:Ext w0 w
abbrev fp(b:Nat):Value:=.pointer (some ⟨b,0,none⟩)
theorem Fs.mut{w0:World}{b m:Nat}{s s':MS}(h:Fs w0 w b m s)(o:FsB w' b m s')(ok:Ok s')(j:Chg (λk=>k=b\/k=m) w w'):Fs w0 w' b m s':=
 ⟨o,ok,h.gb,h.gm,h.ext.then j λk I e=>by have:=h.gb;have:=h.gm;omega⟩
theorem Fs.more{w0:World}{b m:Nat}{s:MS}(h:Fs w0 w b m s)(j:Ext w w'):Fs w0 w' b m s:=⟨h.fs.ext j,h.ok,h.gb,h.gm,h.ext.trans j⟩
abbrev M2(b m:Nat):Nat->Prop:=λk=>k=b\/k=m
section
variable{w0 w:World}{b m:Nat}{s:MS}{K:Q0}
theorem fnew[HX](I:∀b m w',Fs w w' b m newM->K (fp b) w'):aI P0 47 [] w K:=Vm λb m w' h j hb o=>I b m w' ⟨h,Vk,hb,o,j⟩
theorem fwrite[HX](h:Fs w0 w b m s){p data:Str}{dv:Value}(hd:Byt w T dv data)(o:∀w',Fs w0 w' b m (writeM s p data false).1->Chg (M2 b m) w w'->K (i64 (writeM s p data false).2) w'):aI P0 23 [fp b,str p,dv] w K:=
 Lk h.fs h.ok hd λw' I j=>o w' (h.mut I (Mi h.ok _ _ _) j) j
theorem fremove[HX](h:Fs w0 w b m s){p:Str}(o:∀w',Fs w0 w' b m (removeM s p).1->Chg (M2 b m) w w'->K (i64 (removeM s p).2) w'):aI P0 46 [fp b,str p] w K:=
 Kj h.fs h.ok λw' I j=>o w' (h.mut I (Kn h.ok _) j) j
end
theorem conv_b{l:Str}{K:Value->Prop}(h:Byt w T v l):oU P0 (convert 80 9 v) w K↔K (str l):=CR (e:=UT) (by kernel_rfl) (by kernel_rfl) (by kernel_rfl) h
theorem eq_pn(a:Addr)(K:Value->Prop):eqW .ptr false (.pointer (some a)) (.pointer none) K↔K (.bool false):=iO
theorem ne_pn(a:Addr)(K:Value->Prop):eqW .ptr true (.pointer (some a)) (.pointer none) K↔K (.bool true):=iO
end
end Go.Proofs.YtjblfcfdeaagpaaGreatDoor.Fx
namespace Go.Proofs.YtjblfcfdeaagpaaGreatDoor
section
open Go Go.Eng Go.RowKit Go.Syn Go.Lex Go.Cfg
variable{w:World}{K:Q0}{cs:List Value}{G:Nat->Prop}{T:TypeId}{i:Nat}{n:Nat}{v:Value}{w':World}{P:Program}{c:UInt8}{S:Nat->Prop}
abbrev LoT:TypeId:=124
theorem Et{α:Type}{n:Nat}{f:α->List Value}(h:∀a,(f a).length=n):∀{l:List α} {i:Nat} {x:α},l[i]?=some x->((l.flatMap f).drop (i*n)).take n=f x
 |[],i,x,hi=>by simp at hi
 |a::l,0,x,hi=>by
  simp only[List.getElem?_cons_zero,aV]at hi
  subst hi
  rw[Nat.zero_mul,eU,fY,<-h a,List.take_left]
 |a::l,i+1,x,hi=>by
  rw[List.getElem?_cons_succ]at hi
  rw[fY,qT,Nat.one_mul,Dm,<-kB,<-h a,List.drop_left,h a]
  exact Et h hi
def Lh(Ls:List ML)(mods:List Md):List Value:=(Ls.zip mods).flatMap λx=>x.1.cells x.2.dir
theorem Jt{Ls:List ML}{mods:List Md}{L:ML}{m:Md}(o:Ls[i]?=some L)(j:mods[i]?=some m):((Lh Ls mods).drop (i*9)).take 9=L.cells m.dir:=by
 unfold Lh;exact Et (n:=9) (f:=λx:ML×Md=>x.1.cells x.2.dir) (λ_=>rfl) (x:=(L,m)) (by rw[List.getElem?_zip_eq_some];exact⟨o,j⟩)
theorem Qn{Ls Ls':List ML}{mods mods':List Md}(h:Ls.length=mods.length):Lh (Ls++Ls') (mods++mods')=Lh Ls mods++Lh Ls' mods':=by
 unfold Lh;rw[List.zip_append h,List.flatMap_append]
structure LR(w:World)(B lp fb:Nat)(vM:Value)(Ls:List ML)(mods:List Md):Prop where
 hl:w.heap[lp]?=some (.cells [pA fb,vM].toArray LoT (0,0))
 len:Ls.length=mods.length
 ow:Own w B ZK 9 vM mods.length (Lh Ls mods)
 md:∀(i:Nat) (L:ML) (m:Md),Ls[i]?=some L->mods[i]?=some m->MdR w B L m
 sep:∀L∈Ls,∀k∈ub L.vals,k≠lp/\vM.ownBlock≠some k
 np:vM.ownBlock≠some lp
 lo:B<=lp
section
variable{w w' w1 w2:World}{B lp fb:Nat}{vM:Value}{Ls:List ML}{mods:List Md}
theorem LR.keep(h:LR w B lp fb vM Ls mods)(j:Chg S w w')(h1:¬S lp)(U:∀k,vM.ownBlock=some k->¬S k)(J:∀L∈Ls,∀k∈ub L.vals,¬S k):LR w' B lp fb vM Ls mods:=
 ⟨j.at h.hl h1,h.len,dP h.ow j U,λi L m o I=>(h.md i L m o I).keep j (J L (bI o)),h.sep,h.np,h.lo⟩
theorem LR.ext(h:LR w B lp fb vM Ls mods)(j:Ext w w'):LR w' B lp fb vM Ls mods:=h.keep j (λe=>e) (λ_ _ e=>e) λ_ _ _ _ e=>e
theorem LR.in_(h:LR w B lp fb vM Ls mods):∀L∈Ls,∀k∈ub L.vals,k<w.heap.size/\B<=k:=λL I k o=>by
 obtain⟨i,hi⟩:=List.getElem?_of_mem I
 have j:=(List.getElem?_eq_some_iff.1 hi).1
 exact(h.md i L _ hi (List.getElem?_eq_getElem (by rw[<-h.len];exact j))).lt k o
theorem LR.lplt(h:LR w B lp fb vM Ls mods):lp<w.heap.size:=mJ h.hl
def Ko:ML:=⟨⟨.slice none 0 0,.slice none 0 0,.slice none 0 0,[],[]⟩,.slice none 0 0,.slice none 0 0,.slice none 0 0,.slice none 0 0,.slice none 0 0,[],[]⟩
theorem pU(w:World)(B:Nat)(e:TypeId)(n:Nat):Own w B e n (.slice none 0 0) 0 []:=⟨by simp,.inl ⟨rfl,rfl⟩⟩
theorem Fh:ub Ko.vals=[]:=rfl
theorem Vl(w:World)(B:Nat):MdR w B Ko Im:=
 ⟨MX w B,pU _ _ _ _,pU _ _ _ _,pU _ _ _ _,pU _ _ _ _,pU _ _ _ _,kM.nil _ _,kM.nil _ _,λk j=>by rw[Fh]at j;cases j⟩
abbrev LT(lp:Nat)(vM:Value):Nat->Prop:=λk=>k=lp\/vM.ownBlock=some k
theorem LR.push[HX]{KW:World->Prop}(h:LR w B lp fb vM Ls mods)(hB:B<=w.heap.size)(hy:mods.length<=1000000)(hK:∀vM' w',LR w' B lp fb vM' (Ls++[Ko]) (mods++[Im])->Chg (LT lp vM) w w'->(∀k,vM'.ownBlock=some k->vM.ownBlock=some k\/w.heap.size<=k)->KW w'):
  fV ZK 1 (Ko.cells []) [(0,9,.agg (Ko.cells []).toArray)] w λt96 w19=>fH P0 (Builtin.append_ #[58,58] 58 #[vM,t96]) w19 λt97 w20=>stW 1 (.pointer (some ⟨lp,1,none⟩)) t97 w20 KW:=by
 refine row_one rfl rfl (by omega) λt w1 ht J=>?_;have I:=h.ext J;have xc:=J.size;refine iL XI I.ow ht rfl (λu hu=>by simp only[Ko,ML.cells,aX,bQ,fF]at hu;rcases hu with rfl|rfl|rfl|rfl|rfl|rfl|rfl|rfl|rfl<;>rfl) (by omega) (by omega) (by omega) λv' w2 hO hc hn=>?_;have hr:=hc.at I.hl I.np;have xb:=hc.size;refine jZ hr (gE hO.sl) (by simp) λw3 xa hv hh=>?_;have U:∀k,v'.ownBlock=some k->k≠lp:=λk j e=>by
  rcases hn k j with h0|h0
  ·exact I.np (by rw[<-e];exact h0)
  ·have:=I.lplt;omega
 have hg:Chg (LT lp vM) w1 w3:=(hc.mono λ_ _ e=>.inr e).trans (hh.mono λ_ _ e=>.inl e);refine hK v' w3 ⟨by rw[hv];simp,by simp[h.len],?_,λi L m o hm=>?_,λL o k j=>?_,λe=>U lp e rfl,h.lo⟩ ((Chg.of_ext J).trans hg) λk j=>(hn k j).imp id (by omega)
 ·rw[Qn h.len,aP];exact dP hO hh λk j=>U k j
 ·by_cases hi:i<Ls.length
  ·rw[List.getElem?_append_left hi]at o;rw[List.getElem?_append_left (by rw[<-h.len];exact hi)]at hm;exact(I.md i L m o hm).keep hg λk j e=>e.elim (I.sep L (bI o) k j).1 (I.sep L (bI o) k j).2
  ·rw[List.getElem?_append_right (by omega)]at o;rw[List.getElem?_append_right (by rw[<-h.len];omega)]at hm;have e1:=bR.1 (bI o);have e2:=bR.1 (bI hm);subst e1 e2;exact Vl w3 B
 ·rcases bH.1 o with o|o
  ·refine⟨(h.sep L o k j).1,λe=>?_⟩;rcases hn k e with h0|h0
   ·exact(h.sep L o k j).2 h0
   ·have:=(h.in_ L o k j).1;omega
  ·rw[bR.1 o,Fh]at j;cases j
end
theorem NS{g off:Nat}{l:List Value}{c:Array Value}{K:World->Prop}(hb:w.heap[g]?=some (.cells c T (0,0)))(hl:l.length=n)(h1:l.all jD=true)(ho:off+n<=c.size)
  (hK:∀w' c',w'.heap[g]?=some (.cells c' T (0,0))->c'.size=c.size->(∀j,j<n->c'[off+j]?=l[j]?)->(∀q,q<off\/off+n<=q->c'[q]?=c[q]?)->Chg (λk=>k=g) w w'->w'.heap.size=w.heap.size->K w'):
  stW n (.pointer (some ⟨g,off,none⟩)) (.agg l.toArray) w K:=by
 rw[EO];refine⟨hl,?_⟩;have key:∀(r:List Value) (i:Nat) (w1:World) (c1:Array Value),i+r.length=n->r.all jD=true->w1.heap[g]?=some (.cells c1 T (0,0))->c1.size=c.size->Chg (λk=>k=g) w w1->w1.heap.size=w.heap.size->
   (∀w' c',w'.heap[g]?=some (.cells c' T (0,0))->c'.size=c.size->(∀j,j<r.length->c'[off+i+j]?=r[j]?)->(∀q,q<off+i\/off+n<=q->c'[q]?=c1[q]?)->Chg (λk=>k=g) w w'->w'.heap.size=w.heap.size->K w')->lD ⟨g,off,none⟩ r i w1 K:=by
  intro r;induction r with
  |nil=>
   intro i w1 c1 hi _ o J U I hc;exact hc w1 c1 o J (λj hj=>by simp at hj) (λq _=>rfl) U I
  |cons v r ih=>
   intro i w1 c1 hi h1 o J U I hc;simp only[List.all_cons,bL]at h1;simp only[aB]at hi;simp only[lD,bG];refine⟨h1.1,by rw[cA,o,bM];simp;omega,by rw[eW,o,fN],?_⟩;refine ih (i+1) _ (c1.setIfInBounds (off+i) v) (by omega) h1.2 (by rw[nC,o,fA]) (by simp[J]) (U.set (.inl rfl) v) (by simp[I]) λw' c' hx hs ht hg hv hr=>?_;refine hc w' c' hx hs (λj hj=>?_) (λq hq=>?_) hv hr
   ·cases j with
    |zero=>
     rw[cN,hg (off+i) (.inl (by omega)),List.getElem?_cons_zero,Array.getElem?_setIfInBounds_self_of_lt (by omega)]
    |succ j=>
     have:=ht j (by simpa using hj);rw[List.getElem?_cons_succ,<-this];congr 1;omega
   ·rw[hg q (by omega),Array.getElem?_setIfInBounds_ne (by omega)]
 exact key l 0 w c (by omega) h1 hb rfl (Chg.refl _ _) rfl λw' c' h2 h3 h4 h5 h6 h7=>hK w' c' h2 h3 (λj hj=>by have:=h4 j (by omega);rwa[cN]at this) (λq hq=>h5 q (by omega)) h6 h7
theorem Qb{m B:Nat}{d:List Value}{K:World->Prop}(h:Own w B T m v n cs)(hi:i<n)(hm:0<m)(hd:d.length=m)(h1:d.all jD=true)
  (hK:∀w',Chg (λk=>v.ownBlock=some k) w w'->w'.heap.size=w.heap.size->Own w' B T m v n (cs.take (i*m)++d++cs.drop (i*m+m))->K w'):iN none m v (i64 (i:Nat)) λt=>stW m t (.agg d.toArray) w K:=by
 obtain⟨hl,⟨rfl,rfl⟩|⟨g,cap,cur,rfl,hb,hg,h2,h3,h4,h5⟩⟩:=h
 ·omega
 have ht:i*m+m<=n*m:=by rw[<-Nat.succ_mul];exact eP _ hi
 have hx:cs.length<=cur.size:=by
  have:=congrArg List.length h5;rw[cO]at this;have e:cur.toList.length=cur.size:=rfl;omega
 rw[eG];refine⟨by omega,by omega,?_⟩;rw[bG,bC,aH];refine NS hg hd h1 (by omega) λw' c' U I hj hq hc hz=>?_;have o:∀j,j<cs.length->cur[j]?=cs[j]?:=λj hj=>by
  rw[<-h5,List.getElem?_take_of_lt (by omega)];simp
 refine hK w' (hc.mono λk _ e=>by have e:k=g:=e;rw[e];rfl) hz ⟨?_,.inr ⟨g,cap,c',rfl,hb,U,h2,h3,by rw[I];exact h4,?_⟩⟩
 ·rw[aP,aP,cO,aR,hd];omega
 ·apply List.ext_getElem?;intro j;by_cases J:j<n*m
  ·rw[List.getElem?_take_of_lt J,Array.getElem?_toList];by_cases h6:j<i*m
   ·rw[fK,List.getElem?_append_left (by rw[cO];omega),List.getElem?_take_of_lt h6,hq j (.inl h6),o j (by omega)]
   ·by_cases h7:j<i*m+m
    ·rw[fK,List.getElem?_append_right (by rw[cO];omega),cO,List.getElem?_append_left (by omega)];have:=hj (j-i*m) (by omega);rw[show i*m+(j-i*m)=j by omega]at this;rw[this];congr 1;omega
    ·rw[List.getElem?_append_right (by rw[aP,cO];omega),aP,cO,List.getElem?_drop,hq j (.inr (by omega)),o j (by omega)];congr 1;omega
  ·rw[List.getElem?_eq_none (by rw[cO];omega),List.getElem?_eq_none (by rw[aP,aP,cO,aR,hd];omega)]
theorem Fc{m g cap o B:Nat}{u:Value}{K:Value->Prop}(h:Own w B T m (.slice (some ⟨g,0,none⟩) n cap) n cs)(j:cs[o]?=some u)(hK:K u):ldW false 1 (.pointer (some ⟨g,o,none⟩)) w K:=by
 obtain⟨q,c,e,h1,h2,h3⟩:=h.sl;have I:cs≠[]:=λe=>by rw[e]at j;simp at j
 obtain⟨b,off,cc,fr,U,hb,J⟩:=h3 I;injection e with e1 e2 e3
 rw[U]at e1;injection e1 with e1
 injection e1 with e4 e5
 subst e4;rw[dX];refine⟨u,?_,hK⟩;rw[cA,hb,bM];have:=J o (List.getElem?_eq_some_iff.1 j).1;rw[<-e5,aH]at this;rw[this];exact j
theorem Es{α:Type}{n:Nat}{f:α->List Value}(h:∀a,(f a).length=n):∀{l:List α} {i:Nat} {x:α},i<l.length->(l.set i x).flatMap f=(l.flatMap f).take (i*n)++f x++(l.flatMap f).drop (i*n+n)
 |[],i,x,hi=>by simp at hi
 |a::l,0,x,_=>by
  rw[aL,fY,fY,Nat.zero_mul,List.take_zero,aH,gJ,<-h a,List.drop_left]
 |a::l,i+1,x,hi=>by
  rw[aN,fY,fY,Es h (by simpa using hi),qT,Nat.one_mul]
  have j:=h a
  have e1:(f a).take (i*n+n)=f a:=iJ (by omega)
  rw[List.take_append,List.drop_append,j,e1,rH (by omega:(f a).length<=i*n+n+n),gJ]
  rw[show i*n+n-n=i*n by omega,show i*n+n+n-n=i*n+n by omega]
  simp
theorem IU{α β:Type}:∀(l:List α) (m:List β) (i:Nat) (x:α) (y:β),(l.set i x).zip (m.set i y)=(l.zip m).set i (x,y)
 |[],_,_,_,_=>by simp
 |_::_,[],_,_,_=>by simp
 |a::l,b::m,0,x,y=>by simp
 |a::l,b::m,i+1,x,y=>by simp[IU l m i x y]
theorem LR.store[HX]{B lp fb:Nat}{vM:Value}{Ls:List ML}{mods:List Md}{L:ML}{m:Md}{KW:World->Prop}(h:LR w B lp fb vM Ls mods)(hi:i<mods.length)(hm:MdR w B L m)(hs:∀k∈ub L.vals,k≠lp/\vM.ownBlock≠some k)(h1:(L.cells m.dir).all jD=true)
  (hK:∀w',LR w' B lp fb vM (Ls.set i L) (mods.set i m)->Chg (LT lp vM) w w'->KW w'):iN none 9 vM (i64 (i:Nat)) λt=>stW 9 t (.agg (L.cells m.dir).toArray) w KW:=by
 refine Qb h.ow hi (by omega) rfl h1 λw' hc hz hO=>?_;refine hK w' ⟨hc.at h.hl h.np,by rw[lG,lG];exact h.len,?_,λj L' m' o I=>?_,λL' o k U=>?_,h.np,h.lo⟩ (hc.mono λ_ _ e=>.inr e)
 ·rw[lG];have:Lh (Ls.set i L) (mods.set i m)=(Lh Ls mods).take (i*9)++L.cells m.dir++(Lh Ls mods).drop (i*9+9):=by
   unfold Lh;rw[IU];exact Es (n:=9) (f:=λx:ML×Md=>x.1.cells x.2.dir) (λ_=>rfl) (x:=(L,m)) (by rw[List.length_zip,h.len,Nat.min_self];exact hi)
  rw[this];exact hO
 ·have keep:∀{L' m'},MdR w B L' m'->(∀k∈ub L'.vals,k≠lp/\vM.ownBlock≠some k)->MdR w' B L' m':=λhx hn=>hx.keep hc λk U e=>(hn k U).2 e;by_cases J:i=j
  ·subst J;rw[List.getElem?_set_self (by rw[h.len];exact hi)]at o;rw[List.getElem?_set_self hi]at I;injection o with o
   injection I with I
   subst o I;exact keep hm hs
  ·rw[List.getElem?_set_ne J]at o I;exact keep (h.md j L' m' o I) (h.sep L' (bI o))
 ·rcases List.mem_or_eq_of_mem_set o with o|rfl
  ·exact h.sep L' o k U
  ·exact hs k U
theorem Ke{α:Type}{R:α->List Value->Prop}{j:Nat}{xs:List α}{c:List Value}{x':α}(h:kM R n xs c)(hi:i<xs.length)(hj:j<n)(I:R x' (((c.drop (i*n)).take n).set j v)):kM R n (xs.set i x') (c.set (i*n+j) v):=by
 refine⟨by rw[lG,lG];exact h.1,λq y o=>?_⟩;by_cases J:i=q
 ·subst J;rw[List.getElem?_set_self hi]at o;injection o with o
  subst o;have:((c.set (i*n+j) v).drop (i*n)).take n=((c.drop (i*n)).take n).set j v:=by
   rw[List.drop_set,aJ (by omega),List.take_set,show i*n+j-i*n=j by omega]
  rw[this];exact I
 ·rw[List.getElem?_set_ne J]at o;have:((c.set (i*n+j) v).drop (q*n)).take n=(c.drop (q*n)).take n:=by
   rcases Nat.lt_or_gt_of_ne J with U|U
   ·have:(i+1)*n<=q*n:=eP _ U;rw[qT,Nat.one_mul]at this;rw[List.drop_set_of_lt (by omega)]
   ·have:(q+1)*n<=i*n:=eP _ U;rw[qT,Nat.one_mul]at this;rw[List.drop_set,aJ (by omega),List.take_set_of_le (by omega)]
  rw[this];exact h.2 q y o
theorem Jg{a:Nat}{T:TypeId}:∀(new old pre post:List Value) (o i:Nat) {w:World} {K:World->Prop},w.heap[a]?=some (.cells (pre++old++post).toArray T (0,0))->o+i=pre.length->old.length=new.length->(∀v∈new,jD v=true)->
  (∀w',w'.heap.size=w.heap.size->w'.heap[a]?=some (.cells (pre++new++post).toArray T (0,0))->Chg (λk=>k=a) w w'->K w')->lD ⟨a,o,none⟩ new i w K
 |[],old,pre,post,o,i,w,K,hb,_,hl,_,I=>by
  have:old=[]:=cK hl
  subst this
  exact I w rfl hb (Chg.refl _ _)
 |v::r,[],pre,post,o,i,w,K,hb,ho,hl,h1,I=>by simp at hl
 |v::r,u::old,pre,post,o,i,w,K,hb,ho,hl,h1,I=>by
  have j:(⟨a,o,none⟩:Addr).add i=⟨a,pre.length,none⟩:=by rw[bG,ho]
  simp only[aB,Nat.add_right_cancel_iff]at hl
  simp only[lD,j]
  refine⟨h1 v aW,?_,?_,?_⟩
  ·rw[cA,hb,bM];simp
  ·rw[eW,hb,fN]
  ·have e:(pre++(u::old)++post).set pre.length v=(pre++[v])++old++post:=by
    rw[fK,List.set_append_right _ _ (aY _)];simp
   have U:(w.setCell ⟨a,pre.length,none⟩ v).heap[a]?=some (.cells ((pre++[v])++old++post).toArray T (0,0)):=by
    rw[nC,hb,fA,<-e];simp
   refine Jg r old (pre++[v]) post o (i+1) U (by rw[aP,List.length_singleton];omega) hl (λx hx=>h1 x (aE _ hx)) λw' hz J hc=>?_;refine I w' (by rw[hz];simp) ?_ ((Chg.set (S:=λk=>k=a) (Chg.refl _ _) (.inl rfl) _).trans hc);rw[J];simp
theorem NU{a o:Nat}{new old pre post:List Value}{K:World->Prop}(hb:w.heap[a]?=some (.cells (pre++old++post).toArray T (0,0)))(ho:o=pre.length)(I:new.length=n)(hl:old.length=n)(U:new.all jD=true)
  (J:∀w',w'.heap.size=w.heap.size->w'.heap[a]?=some (.cells (pre++new++post).toArray T (0,0))->Chg (λk=>k=a) w w'->K w'):stW n (.pointer (some ⟨a,o,none⟩)) (.agg new.toArray) w K:=by
 rw[EO];exact⟨I,Jg new old pre post o 0 hb (by omega) (by omega) (λv j=>gI.1 U v j) J⟩
theorem tP(h:TabI w)(o:Ext w w'):TabI w':=by
 obtain⟨m,j⟩:=h;refine⟨m,?_⟩;rw[cA]at j⊢;cases hb:w.heap[0]? with
 |none=>rw[hb]at j;cases j
 |some x=>rw[hb]at j;rw[o.at hb id];exact j
def Dp(fs:Vfs.MS)(p:Str):Option Str:=(Vfs.lkM fs.files p).map (·.data)
section
variable [HX]
def ZL(w00:World)(fb:Nat)(fs:Vfs.MS)(d:Nat)(ld:Str->List Md->RL (List Md)):Prop:=
 ∀(dir:Str) (mods:List Md) (w:World) (lp:Nat) (vM:Value) (Ls:List ML) (K:Q0),Ext w00 w->LR w w00.heap.size lp fb vM Ls mods->dir.length<=1000+40*d->mods.length<=15->
  (∀mods' Ls' vM' w',ld dir mods=.ok mods'->LR w' w00.heap.size lp fb vM' Ls' mods'->Chg (LT lp vM) w w'->(∀k,vM'.ownBlock=some k->vM.ownBlock=some k\/w.heap.size<=k)->(∀L'∈Ls',∀k∈ub L'.vals,(∃L0∈Ls,k∈ub L0.vals)\/w.heap.size<=k)->K (i64 (mods.length:Nat)) w')->
  (∀c p a,ld dir mods=.bad c p a->TC w00 p c a)->aI P0 51 [pA lp,str dir,i64 (d:Nat)] w K
theorem TC.low{w00 w0:World}{path:Str}{c a:Int}(h:TC w00 path c a)(o:Ext w00 w0):TC w0 path c a:=λd w' j hd hb=>h d w' (o.trans j) (by have:=o.size;omega) hb
theorem FB{M:Lay}:ub (ML.vals ⟨M,.slice none 0 0,.slice none 0 0,.slice none 0 0,.slice none 0 0,.slice none 0 0,[],[]⟩)=ub ([M.vE,M.vB,M.vT]++(M.cE++M.cB)):=by
 unfold ML.vals;rw[mQ];exact eZ _
end
section
variable [HX]
theorem MY{p:Nat}{path:Str}{c a:Int}{K:Q0}(I:w.heap[p]?=some (.cells cs.toArray Le (0,0)))(J:cs[9]?=some (str path))(o:TC w path c a):aI P0 94 [pA p,i64 c,i64 a] w K:=by
 refine Ny ?_;unfold W94;rw[cQ,bD,bG,aH,dX];refine⟨str path,by rw[cA,I,bM];simpa using J,?_⟩;simp only[dF,dK,dC,aB,aK,aL,aN];refine⟨by omega,by omega,by omega,?_⟩;refine fX (z:=[i64 c,str path,i64 a]) λd w' hd U hb j=>?_;exact o d w' j (by omega) hb
theorem IP{vars:List Vr}{a:Atr}{l:List Atr}:Bq vars (a::l)=if vars.any (λv=>decide (v.n=a.n))=true then Bq vars l else some a.a:=rfl
theorem QU{vars:List Vr}{args:List Atr}{tv ta:Value}{p:Nat}{path:Str}{K:World->Prop}(hv:gD w IR tv vars.length (Dr vars))(ha:gD w AtT ta args.length (kK args))(xg:vars.length<=9223372036854775807)(xj:args.length<=9223372036854775807)
  (hp:w.heap[p]?=some (.cells cs.toArray Le (0,0)))(h9:cs[9]?=some (str path))(hh:∀a,Bq vars args=some a->TC w path 80 a)(hK:Bq vars args=none->∀w',Ext w w'->K w'):
  jN ta λt164=>eJ [(.int .i64 0)] w λs31 _ w32 L31=>
   aU .lss (s31.getD 0 undef) t164 λt166=>
   bB t166 (
    cX (λJ33=>
     iN none 3 ta (s31.getD 0 undef) λt167=>
     ldW true 3 t167 w32 λt168=>
     dY AtT [(.string (ofL [])),(.int .i64 0),(.int .i64 0)] w32 λt19 w34=>
     stW 3 t19 t168 w34 λw35=>
     aI P0 96 [tv,(.func (.func 97) #[] #[t19])] w35 λt171 w36=>
     unW .not t171 λt172=>
     bB t172 (
      aZ 2 t19 λt174=>
      ldW false 1 t174 w36 λt175=>
      aI P0 94 [pA p,(.int .i64 80),t175] w36 λt176 w37=>
      J33 [] w37) (
      J33 [] w36))
    λs33 _ w38=>
    aU .add (s31.getD 0 undef) (.int .i64 1) λt177=>
    L31 [t177] w38) (K w32):=by
 rw[jH ha];refine xS args.length (λi w'=>Ext w w'/\Bq vars (args.drop i)=Bq vars args) ⟨Chg.refl _ _,rfl⟩ ?_ ?_
 ·rintro i w2 g L hi ⟨o,j⟩ hL;obtain⟨x,I⟩:∃x,args[i]?=some x:=⟨_,List.getElem?_eq_getElem hi⟩;have hr:((i:Int)<(args.length:Int)):=by omega
  simp only[wsv,wsg,wsh,wsl,aQ,aM,aD,jU,Nat.reduceAdd,Nat.reduceLT,bT,aS,cY,cH,cJ,reduceCtorEq,hr];have hs:args.drop i=x::args.drop (i+1):=by
   rw[dQ hi];rw[List.getElem?_eq_getElem hi]at I;injection I with I
   rw[I]
  rw[hs,IP]at j;refine cX.cut (λst w'=>st=[]/\Ext w2 w'/\vars.any (λv=>decide (v.n=x.n))=true) ?_ ?_
  ·refine sX (ha.ext o) (As args) (by omega) hi ?_;have e:((kK args).drop (i*3)).take 3=[str x.n,i64 (x.e:Nat),i64 x.a]:=Dc I;rw[e];refine cI λb w3 hb hz xb hq=>?_;refine dD (l:=[str x.n,i64 (x.e:Nat),i64 x.a]) xb rfl rfl rfl λw4 xf J ht=>?_;have hg:Ext w2 w4:=hq.new ht (by omega);refine Bn (l:=vars) (q:=λv=>decide (v.n=x.n)) (hv.ext (o.trans hg)) (by omega) (λy hy c hc {w8 K8} ho xc=>gG (caps:=[pA b]) ?_) λw7 U=>?_
   ·have hc:c=[str y.n,i64 y.d,i64 y.a]:=hc;subst hc;refine VS ?_;unfold W97;exact qI (ho.at J id) xc
   ·rw[fG,dU];refine⟨λh=>?_,λh=>⟨by trivial,hg.trans U,by simpa using h⟩⟩;have h:vars.any (λv=>decide (v.n=x.n))=false:=by simpa using h
    rw[aJ (by rw[h];decide)]at j;simp only[bD,bG,aH];refine iQ (U.at J id) (v:=i64 x.a) rfl ?_;have hx:=o.trans (hg.trans U);exact MY (hx.at hp id) h9 ((hh x.a j.symm).low hx)
  rintro st g2 w9 ⟨rfl,hk,hj⟩;rw[aO hj]at j;rw[up1 (by omega)];exact hL w9 ⟨o.trans hk,j⟩
 ·rintro w2 g L ⟨o,j⟩;simp only[wsv,wsg,wsh,wsl,aQ,aM,aD,jU,Nat.reduceAdd,Nat.reduceLT,bT,aS,cY,cH,cJ,reduceCtorEq,Az];rw[fZ]at j;exact hK j.symm w2 o
theorem Vw{vars:List Vr}{args:List Atr}{tv ta:Value}{p g o:Nat}{gc:Array Value}{path:Str}{a:Int}{K:World->Prop}(hv:gD w IR tv vars.length (Dr vars))(ha:gD w AtT ta args.length (kK args))(xq:vars.length<=9223372036854775807)(xu:args.length<=9223372036854775807)
  (hp:w.heap[p]?=some (.cells cs.toArray Le (0,0)))(h9:cs[9]?=some (str path))(hg:w.heap[g]?=some (.cells gc T (0,0)))(xg:gc[o+2]?=some ta)(xf:gc[o+3]?=some (i64 a))(hr:Bg args vars=true->TC w path 110 a)(hK:Bg args vars=false->∀w',Ext w w'->K w'):
  jN tv λt179=>eJ [(.int .i64 0)] w λs39 _ w40 L39=>
   aU .lss (s39.getD 0 undef) t179 λt181=>
   bB t181 (
    cX (λJ41=>
     iN none 3 tv (s39.getD 0 undef) λt182=>
     ldW true 3 t182 w40 λt183=>
     dY IR [(.string (ofL [])),(.int .i64 0),(.int .i64 0)] w40 λt21 w42=>
     stW 3 t21 t183 w42 λw43=>
     aZ 1 t21 λt184=>
     ldW false 1 t184 w43 λt185=>
     aU .lss t185 (.int .i64 0) λt186=>
     GdW (isB t186 true) [undef] w43 (λJ44=>
      dV (.pointer (some ⟨g,o,none⟩)) λt189=>
      aZ 2 t189 λt190=>
      ldW false 1 t190 w43 λt191=>
      aI P0 98 [t191,(.func (.func 99) #[] #[t21])] w43 λt193 w45=>
      unW .not t193 λt194=>
      J44 [t194] w45)
     λs44 _ w46=>
     eO t186 (s44.getD 0 undef) (.bool false) λt195=>
     bB t195 (
      dV (.pointer (some ⟨g,o,none⟩)) λt198=>
      aZ 3 t198 λt199=>
      ldW false 1 t199 w46 λt200=>
      aI P0 94 [pA p,(.int .i64 110),t200] w46 λt201 w47=>
      J41 [] w47) (
      J41 [] w46))
    λs41 _ w48=>
    aU .add (s39.getD 0 undef) (.int .i64 1) λt202=>
    L39 [t202] w48) (K w40):=by
 have ldg:∀{w':World} {j:Nat} {u:Value} {K:Value->Prop},w'.heap[g]?=some (.cells gc T (0,0))->gc[o+j]?=some u->K u->ldW false 1 (.pointer (some ⟨g,o+j,none⟩)) w' K:=λhb hu hK=>by
  rw[dX];exact⟨_,by rw[cA,hb,bM];exact hu,hK⟩
 rw[jH hv];refine xS vars.length (λi w'=>Ext w w'/\Bg args (vars.drop i)=Bg args vars) ⟨Chg.refl _ _,rfl⟩ ?_ ?_
 ·rintro i w2 gg L hi ⟨hh,I⟩ hL;obtain⟨x,U⟩:∃x,vars[i]?=some x:=⟨_,List.getElem?_eq_getElem hi⟩;have xd:((i:Int)<(vars.length:Int)):=by omega
  simp only[wsv,wsg,wsh,wsl,aQ,aM,aD,jU,Nat.reduceAdd,Nat.reduceLT,bT,aS,cY,cH,cJ,reduceCtorEq,xd];have xh:vars.drop i=x::vars.drop (i+1):=by
   rw[dQ hi];rw[List.getElem?_eq_getElem hi]at U;injection U with U
   rw[U]
  have xe:Bg args (x::vars.drop (i+1))=((decide (x.d<0)&&!args.any (λa=>decide (a.n=x.n)))||Bg args (vars.drop (i+1))):=by simp only[Bg,List.any_cons]
  rw[xh,xe]at I;refine cX.cut (λst w'=>st=[]/\Ext w2 w'/\(decide (x.d<0)&&!args.any (λa=>decide (a.n=x.n)))=false) ?_ ?_
  ·refine sX (hv.ext hh) (IZ vars) (by omega) hi ?_;have e:((Dr vars).drop (i*3)).take 3=[str x.n,i64 x.d,i64 x.a]:=IY U;rw[e];refine cI λb w3 hb hz xk xb=>?_;refine dD (l:=[str x.n,i64 x.d,i64 x.a]) xk rfl rfl rfl λw4 xp ho xi=>?_;have hq:Ext w2 w4:=xb.new xi (by omega);have hj:=hh.trans hq;simp only[cQ,bD,bG,aH];refine iQ ho (v:=i64 x.d) rfl ?_;rw[dT,fO];refine GdW.act (!args.any (λa=>decide (a.n=x.n))) (λw'=>Ext w4 w') (λ_=>Chg.refl _ _) (λ_ J hJ=>?_) λg2 w7 hk=>?_
   ·refine ldg (hj.at hg id) xg ?_;refine tF (l:=args) (q:=λa=>decide (a.n=x.n)) (ha.ext hj) (by omega) (λy hy c hc {w8 K8} xa xl=>gG (caps:=[pA b]) ?_) λw7 hk=>?_
    ·have hc:c=[str y.n,i64 (y.e:Nat),i64 y.a]:=hc;subst hc;refine VQ ?_;unfold W99;exact qI (xa.at ho id) xl
    ·rw[fG];exact hJ w7 hk
   ·simp only[aF];rw[fB,dU];refine⟨λh=>?_,λh=>⟨by trivial,hq.trans hk,h⟩⟩;have hx:=hj.trans hk;refine ldg (hx.at hg id) xf ?_;rw[h,dL]at I;exact MY (hx.at hp id) h9 ((hr I.symm).low hx)
  rintro st g2 w9 ⟨rfl,ht,hs⟩;rw[hs,cS]at I;rw[up1 (by omega)];exact hL w9 ⟨hh.trans ht,I⟩
 ·rintro w2 g L ⟨hh,I⟩;simp only[wsv,wsg,wsh,wsl,aQ,aM,aD,jU,Nat.reduceAdd,Nat.reduceLT,bT,aS,cY,cH,cJ,reduceCtorEq,Az];rw[fZ]at I;exact hK I.symm w2 hh
end
theorem zX{B m:Nat}(h:Own w B T m v n cs)(J:0<n):
  ∃g cap cur,v=.slice (some ⟨g,0,none⟩) n cap/\w.heap[g]?=some (.cells cur T (0,0))/\∀j,j<cs.length->cur[j]?=cs[j]?:=by
 obtain⟨hl,⟨rfl,rfl⟩|⟨g,cap,cur,rfl,hb,o,h2,h3,h4,I⟩⟩:=h
 ·omega
 refine⟨g,cap,cur,rfl,o,λj U=>?_⟩;rw[<-I,List.getElem?_take_of_lt (by omega)];simp
theorem Qc{B g cap:Nat}{m o:Nat}{x:Value}{K:World->Prop}(h:Own w B T m (.slice (some ⟨g,0,none⟩) n cap) n cs)(ho:o<cs.length)(h1:jD x=true)
  (hK:∀w',Chg (One g) w w'->w'.heap.size=w.heap.size->Own w' B T m (.slice (some ⟨g,0,none⟩) n cap) n (cs.set o x)->K w'):stW 1 (.pointer (some ⟨g,o,none⟩)) x w K:=by
 obtain⟨hl,⟨e,_⟩|⟨g',cap',cur,e,hb,U,h2,h3,h4,I⟩⟩:=h
 ·cases e
 simp only[Value.slice.injEq,aV,Addr.mk.injEq,eY,cZ]at e;obtain⟨rfl,rfl⟩:=e;have hh:cs.length<=cur.size:=by
  have:=congrArg List.length I;rw[cO]at this;have e:cur.toList.length=cur.size:=rfl;omega
 refine jZ U h1 (by omega) λw' J j hc=>hK w' hc J ?_;refine⟨by rw[lG];exact hl,.inr ⟨g,cap,_,rfl,hb,j,h2,h3,?_,?_⟩⟩
 ·rw[Array.size_setIfInBounds];exact h4
 ·rw[Array.toList_setIfInBounds,<-I,List.take_set]
theorem Ja:∀(c:List Value) (j:Nat) {u v:Value},c[j]?=some u->u.ownBlock=none->v.ownBlock=none->ub (c.set j v)=ub c
 |[],_,_,_,h,_,_=>by simp at h
 |a::c,0,u,v,h,I,o=>by
  simp only[List.getElem?_cons_zero,aV]at h
  subst h
  rw[aL]
  unfold ub
  rw[List.filterMap_cons,List.filterMap_cons,I,o]
 |a::c,j+1,u,v,h,I,o=>by
  rw[List.getElem?_cons_succ]at h
  have ih:=Ja c j h I o
  rw[aN]
  unfold ub at ih⊢
  rw[List.filterMap_cons,List.filterMap_cons,ih]
section
variable [HX]
structure CP(B0:Nat)(w w':World)(p lp fb:Nat)(vM vM':Value)(Ls Ls':List ML)(mods':List Md)(L:ML)(vS:Value)(path:Str)(m:Md)(src:List Str):Prop where
 pm:w'.heap[p]?=some (.cells (L.cells m.dir++[str path,vS]).toArray Le (0,0))
 md:MdR w' w.heap.size L m
 oS:Own w' w.heap.size StT 1 vS src.length (strs src)
 nd:(AB p L vS).Nodup
 lo:w.heap.size<=p
 lr:LR w' B0 lp fb vM' Ls' mods'
 cg:Chg (LT lp vM) w w'
 nw:∀k,vM'.ownBlock=some k->vM.ownBlock=some k\/w.heap.size<=k
 vn:∀k∈AB p L vS,k≠lp/\vM'.ownBlock≠some k/\∀L'∈Ls',k∉ub L'.vals
 ls:∀L'∈Ls',∀k∈ub L'.vals,(∃L0∈Ls,k∈ub L0.vals)\/w.heap.size<=k
section
variable{B0:Nat}{w w' w'':World}{p lp fb:Nat}{vM vM' vM'':Value}{Ls Ls' Ls'':List ML}{mods mods' mods'':List Md}{L:ML}{vS:Value}{path:Str}{m:Md}{src:List Str}
theorem CP.in_(h:CP B0 w w' p lp fb vM vM' Ls Ls' mods' L vS path m src):∀k∈AB p L vS,k<w'.heap.size/\w.heap.size<=k:=by
 intro k j;unfold AB at j;rcases aX.1 j with rfl|j
 ·exact⟨mJ h.pm,h.lo⟩
 rcases bH.1 j with j|j
 ·exact kA h.oS (jJ.1 j)
 ·exact h.md.lt k j
theorem CP.child(h:CP B0 w w' p lp fb vM vM' Ls Ls' mods' L vS path m src)(hl:LR w'' B0 lp fb vM'' Ls'' mods'')(o:Chg (LT lp vM') w' w'')(hn:∀k,vM''.ownBlock=some k->vM'.ownBlock=some k\/w'.heap.size<=k)
  (hs:∀L'∈Ls'',∀k∈ub L'.vals,(∃L0∈Ls',k∈ub L0.vals)\/w'.heap.size<=k):CP B0 w w'' p lp fb vM vM'' Ls Ls'' mods'' L vS path m src:=by
 have I:∀k∈AB p L vS,¬LT lp vM' k:=λk j e=>e.elim (h.vn k j).1 (h.vn k j).2.1;have z1:=h.cg.size;have J:∀k∈ub L.vals,k∈AB p L vS:=λk j=>by simp[AB,j]
 refine⟨o.at h.pm (I p (by simp[AB])),h.md.keep o λk j=>I k (J k j),dP h.oS o λk j=>I k (by simp[AB,jJ.2 j]),h.nd,h.lo,hl,h.cg.then o λk j e=>?_,λk j=>?_,λk j=>⟨(h.vn k j).1,λe=>?_,λL' U e=>?_⟩,λL' U k j=>?_⟩
 ·rcases e with e|e
  ·exact .inl e
  ·exact .inr ((h.nw k e).resolve_right (by omega))
 ·rcases hn k j with e|e
  ·exact h.nw k e
  ·exact .inr (by omega)
 ·rcases hn k e with e|e
  ·exact(h.vn k j).2.1 e
  ·have:=(h.in_ k j).1;omega
 ·rcases hs L' U k e with⟨L0,h0,e⟩|e
  ·exact(h.vn k j).2.2 L0 h0 e
  ·have:=(h.in_ k j).1;omega
 ·rcases hs L' U k j with⟨L0,h0,e⟩|e
  ·exact h.ls L0 h0 k e
  ·exact .inr (by omega)
theorem CP.ext(h:CP B0 w w' p lp fb vM vM' Ls Ls' mods' L vS path m src)(j:Ext w' w''):CP B0 w w'' p lp fb vM vM' Ls Ls' mods' L vS path m src:=
 h.child (h.lr.ext j) (Chg.of_ext j) (λ_ e=>.inl e) λL' I _ o=>.inl ⟨L',I,o⟩
theorem CP.of[FK]{s:MS}(h:MR w w' p L vS path s)(hl:LR w B0 lp fb vM Ls mods)(hB:B0<=w.heap.size):CP B0 w w' p lp fb vM vM Ls Ls mods L vS path s.m s.src:=
 ⟨h.pm,h.md,h.oS,h.nd,h.lp,hl.ext h.ch,Chg.of_ext h.ch,λ_ e=>.inl e,λk j=>⟨λe=>by have:=(h.in_ k j).2;have:=hl.lplt;omega,λe=>by have:=(h.in_ k j).2;have:=(kA hl.ow e).1;omega,λL' o e=>by have:=(h.in_ k j).2;have:=(hl.in_ L' o k e).1;omega⟩,λL' o k j=>.inl ⟨L',o,j⟩⟩
theorem CP.ext0(h:CP B0 w w' p lp fb vM vM' Ls Ls' mods' L vS path m src){w0:World}(j:Ext w0 w)(hl:LR w w0.heap.size lp fb vM Ls mods):Ext w0 w':=by
 refine j.then h.cg λk o e=>?_;rcases e with e|e
 ·have:=hl.lo;omega
 ·have:=(kA hl.ow e).2;omega
theorem CP.setmod{y:Nat}{c:Cl}{K:World->Prop}(h:CP B0 w w' p lp fb vM vM' Ls Ls' mods' L vS path m src)(hi:m.calls[i]?=some c){g cap:Nat}(I:L.vC=.slice (some ⟨g,0,none⟩) m.calls.length cap)
  (hK:∀w'',CP B0 w w'' p lp fb vM vM' Ls Ls' mods' {L with cC:=L.cC.set (i*4+1) (i64 (y:Nat))} vS path {m with calls:=m.calls.set i {c with mod:=y}} src->K w''):
  stW 1 (.pointer (some ⟨g,i*4+1,none⟩)) (i64 (y:Nat)) w' K:=by
 have xb:i<m.calls.length:=(List.getElem?_eq_some_iff.1 hi).1;have xj:=h.md.cc.1;have hO:=h.md.oC;rw[I]at hO;have xk:i*4+4<=m.calls.length*4:=by omega
 refine Qc hO (by omega) rfl λw2 J hz xe=>?_;refine hK w2 ?_;letI:FK:=⟨λ_ _=>False⟩;have hj:L.vC.ownBlock=some g:=by rw[I];rfl
 have U:=h.nd;rw[jO]at U;have eA:[vS]++L.vals=([vS]++(([L.M.vE,L.M.vB,L.M.vT]++(L.M.cE++L.M.cB))++[L.vV,L.vL,L.vO,L.vR]))++L.vC::(L.cR++L.cC):=by simp[ML.vals]
 rw[eA]at U;have oth:∀v∈([vS]++(([L.M.vE,L.M.vB,L.M.vT]++(L.M.cE++L.M.cB))++[L.vV,L.vL,L.vO,L.vR]))++(L.cR++L.cC),∀k,v.ownBlock=some k->¬One g k:=λv I k o e=>qW U v I k o (.inl (by have e:k=g:=e;rw[e];exact hj));have hs:g∈AB p L vS:=by rw[jO,eA];exact aE _ (dS (v:=L.vC) (by simp) hj)
 have xc:g≠p:=λe=>(dB.1 U).1 (by rw[<-e];exact dS (v:=L.vC) (by simp) hj);obtain⟨v1,v2,v3⟩:=h.vn g hs;have row:=h.md.cc.2 i c hi;obtain⟨va,hr,xh⟩:=row;have hcell:L.cC[i*4+1]?=some (i64 (c.mod:Nat)):=by
  have:((L.cC.drop (i*4)).take 4)[1]?=some (i64 (c.mod:Nat)):=by rw[hr];rfl
  rwa[List.getElem?_take_of_lt (by omega),List.getElem?_drop]at this
 have xa:ub (L.cC.set (i*4+1) (i64 (y:Nat)))=ub L.cC:=Ja _ _ hcell rfl rfl;have hg:ub (ML.vals {L with cC:=L.cC.set (i*4+1) (i64 (y:Nat))})=ub L.vals:=by
  simp only[ML.vals,mQ];rw[xa]
 have hq:AB p {L with cC:=L.cC.set (i*4+1) (i64 (y:Nat))} vS=AB p L vS:=by
  unfold AB;rw[hg]
 have ht:kM (HH w2 w.heap.size) 4 m.calls L.cC:=h.md.cc.imp λy e he hy=>hy.at_ J λk o=>by
  obtain⟨v,I,o⟩:=bO.1 o;exact oth v (by simp[he v I]) k o
 have xi:∀k∈ub L.vals,k∈AB p L vS:=λk o=>by simp[AB,o]
 refine⟨J.at h.pm (λe=>xc (by have e:p=g:=e;exact e.symm)),⟨h.md.fo.keep J λk _ _ o=>?_,dP h.md.oV J (oth _ (by simp)),dP h.md.oL J (oth _ (by simp)),dP h.md.oO J (oth _ (by simp)),dP h.md.oR J (oth _ (by simp)),?_,h.md.rr.imp λy e he hy=>hy.at_ J λk o=>?_,?_,λk o=>?_⟩,dP h.oS J (oth _ (by simp)),by rw[hq];exact h.nd,h.lo,h.lr.keep J (λe=>v1 (by have e:lp=g:=e;exact e.symm)) (λk o e=>v2 (by have e:k=g:=e;rw[<-e];exact o)) (λL' hL k o e=>v3 L' hL (by have e:k=g:=e;rw[<-e];exact o)),
  h.cg.then J (λk o e=>by have e:k=g:=e;have:=(h.in_ g hs).2;omega),h.nw,λk o=>by rw[hq]at o;exact h.vn k o,h.ls⟩
 ·obtain⟨v,I,o⟩:=bO.1 o;exact oth v (bS _ (bF _ (bS _ I))) k o
 ·show Own w2 _ _ _ L.vC (m.calls.set i _).length _;rw[lG,I];exact xe
 ·obtain⟨v,I,o⟩:=bO.1 o;exact oth v (by simp[he v I]) k o
 ·refine Ke (n:=4) (j:=1) ht xb (by omega) ?_;obtain⟨va2,hh,ho⟩:=ht.2 i c hi;rw[hh];exact⟨va2,rfl,ho⟩
 ·rw[hg]at o;have:=h.md.lt k o;exact⟨by rw[hz];exact this.1,this.2⟩
end
end
theorem tT{c r:List Value}(h:(c.drop (i*n)).take n=r){j:Nat}(o:j<n):c[i*n+j]?=r[j]?:=by
 rw[<-h,List.getElem?_take_of_lt o,List.getElem?_drop]
section
variable [HX]
theorem QV{w00 w21:World}{p lp fb d:Nat}{fs:Vfs.MS}{vM vM1:Value}{Ls Ls1:List ML}{mods0 mods1:List Md}{L:ML}{vS:Value}{path dir:Str}{m:Md}{src:List Str}{sub:Option (Str->List Md->RL (List Md))}{K:World->Prop}
  (hv:(d=4/\sub=none)\/(d<4/\∃ld,sub=some ld/\ZL w00 fb fs (d+1) ld/\Lf ld))(xb:Ext w00 w)(xh:LR w w00.heap.size lp fb vM Ls mods0)(h:CP w00.heap.size w w21 p lp fb vM vM1 Ls Ls1 mods1 L vS path m src)(hd:d<=4)(yn:src.length=m.calls.length)(zn:m.calls.length<=1000000)
  (ym:∀x∈src,x.length<=32)(zb:mods1.length<=16)(zd:dir.length<=1000+40*d)
  (hK:∀cs mods' L' vM' Ls' w',rP sub path dir (m.calls.zip src) [] mods1=.ok (cs,mods')->CP w00.heap.size w w' p lp fb vM vM' Ls Ls' mods' L' vS path {m with calls:=cs} src->mods1.length<=mods'.length->K w')
  (hg:∀c q a,rP sub path dir (m.calls.zip src) [] mods1=.bad c q a->TC w00 q c a):
  dV (pA p) λt101=>
  aZ 0 t101 λt102=>
  aZ 8 t102 λt103=>
  ldW false 1 t103 w21 λt104=>
  jN t104 λt105=>
  eJ [(.int .i64 0)] w21 λs22 _ w23 L22=>
   aU .lss (s22.getD 0 undef) t105 λt107=>
   bB t107 (
    dV (pA p) λt110=>
    aZ 0 t110 λt111=>
    aZ 8 t111 λt112=>
    ldW false 1 t112 w23 λt113=>
    iN none 4 t113 (s22.getD 0 undef) λt115=>
    cX (λJ24=>
     aU .eql (i64 (d:Nat)) (.int .i64 4) λt117=>
     GdW (isB t117 false) [undef] w23 (λJ25=>
      dV (pA lp) λt120=>
      aZ 1 t120 λt121=>
      ldW false 1 t121 w23 λt122=>
      jN t122 λt123=>
      aU .eql t123 (.int .i64 16) λt124=>
      J25 [t124] w23)
     λs25 _ w26=>
     eO t117 (.bool true) (s25.getD 0 undef) λt125=>
     bB t125 (
      dV t115 λt128=>
      aZ 3 t128 λt129=>
      ldW false 1 t129 w26 λt130=>
      aI P0 94 [pA p,(.int .i64 111),t130] w26 λt131 w27=>
      J24 [] w27) (
      J24 [] w26))
    λs24 _ w28=>
    dV (pA p) λt136=>
    aZ 10 t136 λt137=>
    ldW false 1 t137 w28 λt138=>
    iN none 1 t138 (s22.getD 0 undef) λt140=>
    ldW false 1 t140 w28 λt141=>
    aU .add (str dir) t141 λt142=>
    aU .add t142 (.string (ofL [47])) λt143=>
    aU .add (i64 (d:Nat)) (.int .i64 1) λt145=>
    aI P0 51 [pA lp,t143,t145] w28 λt146 w29=>
    dV t115 λt147=>
    aZ 1 t147 λt148=>
    stW 1 t148 t146 w29 λw30=>
    dV (pA lp) λt150=>
    aZ 1 t150 λt151=>
    ldW false 1 t151 w30.drew λt152=>
    dV t115 λt154=>
    aZ 1 t154 λt155=>
    ldW false 1 t155 w30.drew λt156=>
    iN none 9 t152 t156 λt157=>
    aZ 4 t157 λt158=>
    ldW false 1 t158 w30.drew λt159=>
    dV t115 λt161=>
    aZ 2 t161 λt162=>
    ldW false 1 t162 w30.drew λt163=>
    jN t163 λt164=>
    eJ [(.int .i64 0)] w30.drew λs31 _ w32 L31=>
     aU .lss (s31.getD 0 undef) t164 λt166=>
     bB t166 (
      cX (λJ33=>
       iN none 3 t163 (s31.getD 0 undef) λt167=>
       ldW true 3 t167 w32 λt168=>
       dY AtT [(.string (ofL [])),(.int .i64 0),(.int .i64 0)] w32 λt19 w34=>
       stW 3 t19 t168 w34 λw35=>
       aI P0 96 [t159,(.func (.func 97) #[] #[t19])] w35 λt171 w36=>
       unW .not t171 λt172=>
       bB t172 (
        aZ 2 t19 λt174=>
        ldW false 1 t174 w36 λt175=>
        aI P0 94 [pA p,(.int .i64 80),t175] w36 λt176 w37=>
        J33 [] w37) (
        J33 [] w36))
      λs33 _ w38=>
      aU .add (s31.getD 0 undef) (.int .i64 1) λt177=>
      L31 [t177] w38) (
      jN t159 λt179=>
      eJ [(.int .i64 0)] w32 λs39 _ w40 L39=>
       aU .lss (s39.getD 0 undef) t179 λt181=>
       bB t181 (
        cX (λJ41=>
         iN none 3 t159 (s39.getD 0 undef) λt182=>
         ldW true 3 t182 w40 λt183=>
         dY IR [(.string (ofL [])),(.int .i64 0),(.int .i64 0)] w40 λt21 w42=>
         stW 3 t21 t183 w42 λw43=>
         aZ 1 t21 λt184=>
         ldW false 1 t184 w43 λt185=>
         aU .lss t185 (.int .i64 0) λt186=>
         GdW (isB t186 true) [undef] w43 (λJ44=>
          dV t115 λt189=>
          aZ 2 t189 λt190=>
          ldW false 1 t190 w43 λt191=>
          aI P0 98 [t191,(.func (.func 99) #[] #[t21])] w43 λt193 w45=>
          unW .not t193 λt194=>
          J44 [t194] w45)
         λs44 _ w46=>
         eO t186 (s44.getD 0 undef) (.bool false) λt195=>
         bB t195 (
          dV t115 λt198=>
          aZ 3 t198 λt199=>
          ldW false 1 t199 w46 λt200=>
          aI P0 94 [pA p,(.int .i64 110),t200] w46 λt201 w47=>
          J41 [] w47) (
          J41 [] w46))
        λs41 _ w48=>
        aU .add (s39.getD 0 undef) (.int .i64 1) λt202=>
        L39 [t202] w48) (
        aU .add (s22.getD 0 undef) (.int .i64 1) λt203=>
        L22 [t203] w40))) (K w23):=by
 simp only[cQ,bD,bG,aH];refine iQ h.pm (v:=L.vC) rfl ?_;rw[jH h.md.oC.sl];generalize hQ:rP sub path dir (m.calls.zip src) [] mods1=Q at hK hg;refine xS m.calls.length (λi w'=>∃done L' vM' Ls' mods',CP w00.heap.size w w' p lp fb vM vM' Ls Ls' mods' L' vS path {m with calls:=done++m.calls.drop i} src/\rP sub path dir ((m.calls.zip src).drop i) done mods'=Q/\done.length=i/\mods'.length<=16/\mods1.length<=mods'.length)
  ⟨[],L,vM1,Ls1,mods1,h,hQ,rfl,zb,aY _⟩ ?_ ?_
 ·rintro i w2 g L2 hi ⟨done,L',vM',Ls',mods',I,U,ht,xx,xv⟩ hL;obtain⟨c,ho⟩:∃c,m.calls[i]?=some c:=⟨_,List.getElem?_eq_getElem hi⟩;obtain⟨x,xc⟩:∃x,src[i]?=some x:=⟨_,List.getElem?_eq_getElem (by omega)⟩;have zg:=ym x (bI xc);have yu:((i:Int)<(m.calls.length:Int)):=by omega
  simp only[aF];rw[dT,bK yu,cU];have ya:m.calls.drop i=c::m.calls.drop (i+1):=by
   rw[dQ hi];rw[List.getElem?_eq_getElem hi]at ho;injection ho with ho
   rw[ho]
  have hk:(m.calls.zip src)[i]?=some (c,x):=by rw[List.getElem?_zip_eq_some];exact⟨ho,xc⟩
  have xj:i<(m.calls.zip src).length:=(List.getElem?_eq_some_iff.1 hk).1;have yj:(m.calls.zip src).drop i=(c,x)::(m.calls.zip src).drop (i+1):=by
   rw[dQ xj];rw[List.getElem?_eq_getElem xj]at hk;injection hk with hk
   rw[hk]
  rw[yj]at U;have hy:(done++m.calls.drop i).length=m.calls.length:=by rw[aP,aR];omega
  have yf:(done++m.calls.drop i)[i]?=some c:=by rw[List.getElem?_append_right (by omega),ht,Nat.sub_self,ya];rfl
  have yp:=I.md.oC;obtain⟨gb,cap,cur,xd,yz,yc⟩:=zX yp (by show 0<(done++m.calls.drop i).length;omega);have yg:L'.cC.length=m.calls.length*4:=by rw[<-hy];exact I.md.cc.1
  obtain⟨va,xp,zi⟩:=I.md.cc.2 i c yf;refine iQ I.pm (v:=L'.vC) rfl ?_;rw[xd,eG];refine⟨by omega,by show(i:Int)<(((done++m.calls.drop i).length:Nat):Int);omega,?_⟩;simp only[bG,bC,aH,cQ,bD];have xf:(L'.cells m.dir++[str path,vS])[9]?=some (str path):=rfl;refine cX.cut (λst w'=>st=[]/\w'=w2/\d≠4/\mods'.length≠16) ?_ ?_
  ·rw[bX,iW];refine GdW.look (decide (mods'.length=16)) (λ_ J hJ=>?_) λg3=>?_
   ·refine iQ I.lr.hl (v:=vM') rfl ?_;rw[jH I.lr.ow.sl,bX];have e:decide (((mods'.length:Nat):Int)=16)=decide (mods'.length=16):=decide_eq_decide.2 (by omega);rw[e];exact hJ
   ·simp only[aF];rw[kS,dU];refine⟨λhb=>?_,λhb=>⟨by trivial,by trivial,?_⟩⟩
    ·rw[dX];refine⟨i64 c.a,by rw[cA,yz,bM,yc _ (by omega),tT xp (by omega)];rfl,?_⟩;refine MY I.pm xf (TC.low ?_ (I.ext0 xb xh));refine hg 111 path c.a ?_;rw[<-U];rcases hv with⟨_,rfl⟩|⟨yb,ld,rfl,_⟩
     ·rfl
     ·have:mods'.length=16:=by
       have e1:decide (((d:Nat):Int)=4)=false:=cM (by omega);rw[e1,cS]at hb;exact dJ hb
      simp only[rP];rw[aO this]
    ·rw[Bool.or_eq_false_iff]at hb;exact⟨λe=>by have:=of_decide_eq_false hb.1;omega,of_decide_eq_false hb.2⟩
  rintro st g3 w28 ⟨rfl,rfl,yb,xu⟩;obtain⟨zc,ld,rfl,yx,xz⟩:=hv.resolve_left (λe=>yb e.1);simp only[rP]at U;rw[aJ xu]at U;refine iQ I.pm (v:=vS) rfl ?_;refine pX (i:=i) (x:=str x) I.oS.sl (by unfold strs;rw[kN]) (by unfold strs;rw[List.getElem?_map,xc];rfl) ?_;rw[eR];refine⟨by show(_:Int)<=9223372036854775807;omega,?_⟩;rw[eR];refine⟨by simp only[aP,aB,aK];show(_:Int)<=9223372036854775807;omega,?_⟩;rw[cG,upi (by omega)];have yk:=I.ext0 xb xh;refine yx (dir++x++[47]) mods' w28 lp vM' Ls' _ yk I.lr (by simp only[aP,aB,aK];omega) (by omega) (λmods2 Ls2 vM2 w29 xq xy za ys yo=>?_) (λk q a hb=>?_)
  rotate_left
  ·rw[hb]at U;exact hg k q a U.symm
  rw[xq]at U;simp only at U;obtain⟨new,xt,yr,yt,_⟩:=xz _ _ _ (by omega) xq;have zk:0<new.length:=gY.2 yr;have hm2l:mods2.length=mods'.length+new.length:=by rw[xt,aP]
  have ye:=I.child xy za ys yo;have xn:L'.vC=.slice (some ⟨gb,0,none⟩) ({m with calls:=done++m.calls.drop i}:Md).calls.length cap:=xd;refine ye.setmod (c:=c) (y:=mods'.length) yf xn λw30 yd=>?_;have o:=yd.ext (cP w30);generalize zh:w30.drew=w4 at o;have xo:(done++m.calls.drop i).set i {c with mod:=mods'.length}=(done++[{c with mod:=mods'.length}])++m.calls.drop (i+1):=by
   rw[List.set_append_right _ _ (by omega),ht,Nat.sub_self,ya,aL];simp
  have yw:((done++m.calls.drop i).set i {c with mod:=mods'.length}).length=m.calls.length:=by rw[lG];exact hy
  obtain⟨gb2,cap2,cur2,xm,xa,xi⟩:=zX o.md.oC (by show 0<((done++m.calls.drop i).set i _).length;omega);have yy:gb2=gb:=by
   have e:L'.vC=_:=xm;rw[xd]at e;simp only[Value.slice.injEq,aV,Addr.mk.injEq,eY]at e;exact e.1.symm
  subst yy;obtain⟨va2,xe,hh⟩:=o.md.cc.2 i {c with mod:=mods'.length} (by show((done++m.calls.drop i).set i _)[i]?=_;rw[List.getElem?_set_self (by omega)]);have ze:(L'.cC.set (i*4+1) (i64 (mods'.length:Nat))).length=m.calls.length*4:=by rw[lG];exact yg
  have hs:∀j,j<4->cur2[i*4+j]?=([str c.n,i64 (mods'.length:Nat),va2,i64 c.a]:List Value)[j]?:=λj hj=>by
   rw[xi _ (by show _<(L'.cC.set (i*4+1) (i64 (mods'.length:Nat))).length;omega)];exact tT xe hj
  have ldg:∀{j:Nat} {u:Value} {K:Value->Prop},cur2[i*4+j]?=some u->K u->ldW false 1 (.pointer (some ⟨gb2,i*4+j,none⟩)) w4 K:=λhu hK=>by
   rw[dX];exact⟨_,by rw[cA,xa,bM];exact hu,hK⟩
  refine iQ o.lr.hl (v:=vM2) rfl ?_;refine ldg (u:=i64 (mods'.length:Nat)) (hs 1 (by omega)) ?_;obtain⟨gm,capm,curm,yl,zm,hcurm⟩:=zX o.lr.ow (by omega);have hx:=o.lr.ow;rw[yl]at hx⊢;rw[eG];refine⟨by omega,by omega,?_⟩;simp only[bG,bC,aH];obtain⟨LC,yh⟩:∃LC,Ls2[mods'.length]?=some LC:=⟨_,List.getElem?_eq_getElem (by rw[o.lr.len];omega)⟩;obtain⟨mc,xg⟩:∃mc,mods2[mods'.length]?=some mc:=⟨_,List.getElem?_eq_getElem (by omega)⟩;have xw:mods2.getD mods'.length Im=mc:=by rw[List.getD_eq_getElem?_getD,xg];rfl
  rw[xw]at U;have hr:=o.lr.md _ LC mc yh xg;refine Fc hx (u:=LC.vV) (by rw[tT (n:=9) (j:=4) (Jt yh xg) (by omega)];rfl) ?_;refine ldg (u:=va2) (hs 2 (by omega)) ?_;have xl:=o.ext0 xb xh;refine QU (vars:=mc.vars) (args:=c.args) (p:=p) (path:=path) hr.oV.sl hh.sl (BD hr.oV) (BD hh) o.pm xf (λa ha=>TC.low (hg 80 path a ?_) xl) λyq w32 hc=>?_
  ·rw[ha]at U;exact U.symm
  rw[yq]at U;simp only at U;refine Vw (vars:=mc.vars) (args:=c.args) (p:=p) (path:=path) (gc:=cur2) (a:=c.a) (hr.oV.sl.ext hc) (hh.sl.ext hc) (BD hr.oV) (BD hh) (hc.at o.pm id) xf (hc.at xa id) (hs 2 (by omega)) (hs 3 (by omega)) (λhl=>TC.low (hg 110 path c.a ?_) (xl.trans hc)) λxr w40 xk=>?_
  ·rw[aO hl]at U;exact U.symm
  rw[aJ (by rw[xr];decide)]at U;rw[cG,up1 (by omega)];refine hL w40 ⟨done++[{c with mod:=mods'.length}],{L' with cC:=L'.cC.set (i*4+1) (i64 (mods'.length:Nat))},vM2,Ls2,mods2,?_,U,by simp[ht],yt,by omega⟩;have:=(o.ext hc).ext xk;rw[<-xo];exact this
 ·rintro w2 g L2 ⟨done,L',vM',Ls',mods',I,U,ht,xx,xv⟩;simp only[aF];rw[dT,cM (Az _),bW];have hz:(m.calls.zip src).length=m.calls.length:=by rw[List.length_zip,yn,Nat.min_self]
  rw[<-hz,fZ]at U;simp only[rP]at U;rw[fZ,eZ]at I;exact hK done mods' L' vM' Ls' w2 U.symm I xv
end
end
end Go.Proofs.YtjblfcfdeaagpaaGreatDoor
