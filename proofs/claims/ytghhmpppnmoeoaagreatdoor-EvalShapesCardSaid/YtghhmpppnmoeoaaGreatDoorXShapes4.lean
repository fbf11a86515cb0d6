/- One plain sentence: contracts and plain laws that the claim rests on. Conditions: those that each states. -/
import Derived.Test.YtghhmpppnmoeoaaGreatDoorXShapes3
import Derived.Test.YtghhmpppnmoeoaaGreatDoorXShapes1
import Derived.Test.YtghhmpppnmoeoaaGreatDoorXShapes2
set_option linter.all false
set_option linter.unusedSimpArgs false
set_option linter.unusedVariables false
set_option linter.unusedSectionVars false
set_option maxRecDepth 100000
namespace Go.Syn
section
open Go Go.Eng Go.Lex
variable{w:World}{K:Q0}{cs:List Value}{G:Nat->Prop}{T:TypeId}{i:Nat}{n:Nat}{v:Value}{w':World}{P:Program}{c:UInt8}{S:Nat->Prop}
def wt(t:Tok):Nat:=if t.k=0 then 0 else if t.k=3/\(insP t.t).isSome=true then t.t.length+2 else 1
def wts(l:List Tok):Nat:=(l.map wt).sum
def phi(s:PS):Nat:=s.ex.length+s.bl.length+wts (s.toks.drop s.i)
theorem Bc(t:Tok)(l:List Tok):wts (t::l)=wt t+wts l:=by simp[wts]
theorem tD:∀(l:List Tok) (i:Nat),wts (l.drop i)<=wts l
 |[],i=>by simp
 |t::l,0=>aV _
 |t::l,i+1=>by
  rw[cU,Bc]
  have:=tD l i
  omega
theorem JB:∀(n:Nat) (s:Str) (a cnt:Nat) (l:List Tok),nQ n s a cnt=.ok l->wts l<=s.length
 |0,_,_,_,_,h=>by simp[nQ]at h
 |n+1,s,a,cnt,l,h=>by
  have hk:=wZ (s.length+1) s
  simp only[nQ]at h
  split at h
  ·cases h
  split at h
  ·injection h with h
   subst h
   rw[Bc]
   simp[wt,wts]
  rename_i U
  split at h
  ·cases h
  rename_i ho
  split at h
  ·cases h
  have J:s.length-(fW (s.length+1) s).1=(s.drop (fW (s.length+1) s).1).length:=(aP ..).symm
  obtain⟨o1,o2,o3,o4,o5,o6⟩:=IB U (fZ rfl (fZ rfl (tC.1 ho)):pR (s.drop (fW (s.length+1) s).1)=((pR (s.drop (fW (s.length+1) s).1)).1,(pR (s.drop (fW (s.length+1) s).1)).2.1,0))
  split at h
  ·rename_i l' I
   injection h with h
   subst h
   have ih:=JB n _ _ _ _ I
   rw[aP]at ih
   rw[Bc]
   have:wt ⟨(pR (s.drop (fW (s.length+1) s).1)).1.k,(pR (s.drop (fW (s.length+1) s).1)).1.t,((a+(fW (s.length+1) s).1:Nat):Int)⟩<=(pR (s.drop (fW (s.length+1) s).1)).2.1:=by
    unfold wt;split
    ·omega
    split
    ·rename_i j;rcases o6 j.1 with h|h
     ·rw[h]at j;simp at j
     ·exact h
    ·omega
   omega
  ·rename_i o;exact absurd h (o l)
theorem Il{s:Str}{l:List Tok}(h:rC s=.ok l):wts l<=s.length:=by
 unfold rC at h;split at h
 ·cases h
 split at h
 ·cases h
 exact JB _ _ _ _ _ h
abbrev TT:Int->Prop:=λ_=>True
theorem kF(s:PS):phi (bE s)<=phi s:=by
 unfold bE;split
 ·unfold phi;simp only;have:=tD (s.toks.drop s.i) (iJ (s.toks.drop s.i));rw[gY]at this;omega
 ·exact aV _
theorem Bv{s:PS}(h:(mN s).k≠0):phi (step1 s)+wt (mN s)<=phi s:=by
 have j:s.i<s.toks.length:=by
  by_cases hl:s.i<s.toks.length
  ·exact hl
  ·unfold mN at h;rw[List.getD_eq_getElem?_getD,List.getElem?_eq_none (by omega)]at h;exact absurd rfl h
 unfold phi step1;simp only;rw[cL j,Bc];have:mN s=s.toks[s.i]:=by unfold mN;rw[List.getD_eq_getElem?_getD,List.getElem?_eq_getElem j];rfl
 rw[this];omega
theorem Ia{t:Tok}(h:t.k≠0):1<=wt t:=by unfold wt;rw[aE h];split<;>omega
theorem pQ{s:PS}(h:(cur s).k≠0):phi (step1 (bE s))+wt (mN (bE s))<=phi s/\phi (step1 (bE s))+1<=phi s:=by
 have j:(mN (bE s)).k≠0:=h;have h1:=Bv j;have I:=kF s;have o:=Ia j;omega
theorem lJ(s:PS)(w:Str):phi (bX s w).2<=phi s/\((bX s w).1=true->phi (bX s w).2+1<=phi s):=by
 unfold bX;split
 ·rename_i hi;have:=(pQ (mU hi)).2;exact⟨Nat.le_of_succ_le this,λ_=>this⟩
 ·exact⟨kF s,λe=>by cases e⟩
theorem lI(s:PS)(w:Str):Sat (oX s w) (λ_ s'=>phi s'+1<=phi s) TT:=by
 unfold oX;split
 ·rename_i hi;exact(pQ (mU hi)).2
 ·trivial
theorem wE(s:PS):phi (jE s)<=phi s/\((cur s).k≠0->phi (jE s)+wt (mN (bE s))<=phi s/\phi (jE s)+1<=phi s):=by
 unfold jE;split
 ·rename_i j;have:=pQ j;exact⟨by omega,λ_=>this⟩
 ·rename_i j;exact⟨kF s,λe=>absurd e j⟩
theorem oC(s:PS)(k:Int):Sat (mH s k) (λ_ s'=>phi s'<=phi s/\(k≠0->phi s'+1<=phi s)) TT:=by
 unfold mH;split
 ·rename_i j;have:=wE s;exact⟨this.1,λh=>(this.2 (by rw[j];exact h)).2⟩
 ·trivial
theorem wF(s:PS):phi (gM s)<=phi s:=by
 have h:=kF s;unfold gM phi at*
 simp only at*
 have e:(bE s).toks=s.toks:=by unfold bE;split<;>rfl
 have:=tD ((bE s).toks.drop (bE s).i) (iJ (s.toks.drop (bE s).i));rw[gY]at this;omega
theorem kZ(s:PS)(e:Ex):Sat (rO s e) (λ_ s'=>phi s'<=phi s+1) TT:=by
 show phi _<=_;unfold phi;simp only[aU,aB,aN];omega
theorem lX{α:Type}{s:PS}{a:Int}{q:Bool}{f:PS->R α}{P:α->Nat->Prop}(h:Sat (f {s with deep:=s.deep+1,quiet:=q}) (λx s'=>P x (phi s')) TT):Sat (within s a q f) (λx s'=>P x (phi s')) TT:=by
 unfold within;split
 ·trivial
 ·exact h.bind λx s' j=>j
def EZ(F:PS->R Nat):Prop:=∀s,Sat (F s) (λ_ s'=>phi s'<=phi s) TT
section
variable{E S:PS->R Nat}
theorem GW(hE:EZ E)(s:PS)(t:Str)(a:Int):Sat (pU E s t a) (λ_ s'=>phi s'<=phi s+t.length) TT:=by
 unfold pU;split
 ·trivial
 ·rename_i l o;have J:=Il o;refine(hE _).bind λx q I=>?_;refine(oC q 0).bind λ_ q' j=>?_;have h1:phi q'<=s.ex.length+s.bl.length+wts l:=cC j.1 I;show phi _<=_;unfold phi at h1⊢;simp only;omega
theorem GT(s:PS)(t:Tok):Sat (qO s t) (λ_ s'=>s'=s) TT:=by
 unfold qO;split
 ·trivial
 ·rfl
theorem Ck(hE:EZ E):∀(n:Nat) (s:PS) (rest:Str) (a:Int) (us:List Nat) (ks:List Str),Sat (nT E n s rest a us ks) (λ_ s'=>phi s'<=phi s+rest.length) TT
 |0,_,_,_,_,_=>trivial
 |n+1,s,rest,a,us,ks=>by
  have one:∀(e:Ex),phi {s with ex:=s.ex++[e]}<=phi s+1:=λe=>kZ s e
  simp only[nT]
  split
  ·exact Nat.le_add_right _ _
  rename_i o
  have J:1<=rest.length:=dQ.2 o
  split
  ·have:=one ⟨5,kS rest,[],[],a⟩
   show phi _<=_
   omega
  ·rename_i i e hi
   obtain⟨i1,i2,i3⟩:=BJ rest.length rest (aV _) i e hi
   have j:∃s1,s1=(if 0<i then{s with ex:=s.ex++[⟨5,kS (rest.take i),[],[],a⟩]}else s)/\phi s1<=phi s+i:=by
    refine⟨_,rfl,?_⟩;split
    ·have:=one ⟨5,kS (rest.take i),[],[],a⟩;omega
    ·omega
   obtain⟨s1,e1,g1⟩:=j;rw[<-e1];have hd:(rest.drop e).length=rest.length-e:=aP ..;split
   ·refine Sat.bind (lX (P:=λ_ n=>n<=phi s1+(e-1-(i+2))) ?_) λx s2 U=>?_
    ·refine(GW hE _ _ _).mono λx s' h=>?_;refine cC h ?_;have:((rest.drop (i+2)).take (e-1-(i+2))).length<=e-1-(i+2):=List.length_take_le _ _;exact wV this _
    ·refine(Ck hE n s2 (rest.drop e) _ _ _).mono λy s3 I=>?_;rw[hd]at I;omega
   ·refine(Ck hE n s1 (rest.drop e) _ _ _).mono λy s3 I=>?_;rw[hd]at I;omega
theorem Rs(hE:EZ E)(s:PS)(t:Tok)(j:t.k=3):Sat (CX E s t) (λ_ s'=>phi s'<=phi s+wt t) TT:=by
 unfold CX;split
 ·rename_i hi;have e:wt t=t.t.length+2:=by unfold wt;rw[aE (by omega),aJ ⟨j,hi⟩]
  refine(Ck hE _ s t.t _ _ _).bind λx s1 h1=>?_;refine(kZ s1 _).mono λy s2 o=>?_;omega
 ·rename_i hi;have e:wt t=1:=by unfold wt;rw[aE (by omega),aE (λh=>hi h.2)]
  rw[e];exact kZ s _
theorem GY(hE:EZ E)(w:Str):∀(n:Nat) (s:PS) (out:List Nat),Sat (tY E w n s out) (λ_ s'=>phi s'<=phi s) TT
 |0,_,_=>trivial
 |n+1,s,out=>by
  have t1:=lJ s w
  have step:∀{s1:PS},phi s1<=phi s->Sat ((E s1).bind λx s'=>tY E w n s' (out++[x])) (λ_ s'=>phi s'<=phi s) TT:=λ{s1} g1=>
   (hE s1).bind λx s2 g2=>(GY hE w n s2 (out++[x])).mono λy s3 g3=>by omega
  simp only[tY]
  split
  ·exact t1.1
  split
  ·rename_i j
   have:=step t1.1
   exact this
  ·refine(lI _ [44]).bind λ_ s1 g1=>?_
   have t2:=lJ s1 w
   split
   ·show phi _<=_
    omega
   ·exact step (by omega)
theorem Ka(hE:EZ E)(w:Str)(s:PS):Sat (FW E w s) (λ_ s'=>phi s'<=phi s) TT:=GY hE w _ s []
theorem Ru(hE:EZ E){s:PS}(h:(cur s).k≠0)(hn:bE s=s)(a:Int):Sat (Dd E s a) (λ_ s'=>phi s'+1<=phi s) TT:=by
 have h0:=(pQ h).2;rw[hn]at h0;have h1:=kF (step1 s);unfold Dd;simp only;split
 ·refine(Ka hE [93] _).bind λus s1 g1=>?_;show phi s1+1<=_;omega
 ·rename_i o;have j:(cur (step1 s)).k≠0:=λe=>o (.inl (by rw[e];decide));have I:=(pQ j).2;refine(oC _ 1).bind λt s2 g2=>(oC s2 1).bind λu s3 g3=>?_;split
  ·trivial
  refine(hE s3).bind λx s4 g4=>(lI s4 _).bind λ_ s5 g5=>(hE s5).bind λy s6 g6=>(lI s6 _).bind λ_ s7 g7=>?_;show phi s7+1<=_;omega
theorem JX(hE:EZ E)(a:Int):∀(n:Nat) (s:PS) (us:List Nat) (ks:List Str),Sat (Ge E a n s us ks) (λ_ s'=>phi s'<=phi s) TT
 |0,_,_,_=>trivial
 |n+1,s,us,ks=>by
  have t1:=lJ s [125]
  have n1:=wE (bX s [125]).2
  simp only[Ge]
  split
  ·exact t1.1
  refine Sat.bind (P:=λ_ s3=>s3=jE (bX s [125]).2) ?_ λk s3 e3=>?_
  ·split
   ·exact GT _ _
   ·split
    ·rfl
    ·trivial
  subst e3
  split
  ·trivial
  refine(lI _ [61]).bind λ_ s4 g4=>(hE s4).bind λx s5 g5=>?_
  have t5:=lJ s5 [44]
  have m5:=kF (bX s5 [44]).2
  split
  ·trivial
  have l6:phi (if(bX s5 [44]).1=true then(bX s5 [44]).2 else bE (bX s5 [44]).2)<=phi s5:=by split<;>omega
  generalize (if(bX s5 [44]).1=true then(bX s5 [44]).2 else bE (bX s5 [44]).2)=s6 at*
  have l7:=wF s6
  refine(JX hE a n (gM s6) _ _).mono λe s8 g8=>?_
  omega
theorem JZ(hE:EZ E):EZ (BX E):=by
 intro s;have n1:=kF s;have iQ:∀w,isS (bE s) w=isS s w:=λw=>by unfold isS;rw[lC]
 unfold BX;simp only;split
 ·rename_i j;have o:=(pQ (s:=s) (by rw[j];decide)).2;exact(kZ _ _).mono λx s' g=>by omega
 split
 ·rename_i j;have o:=(pQ (s:=s) (by rw[j];decide)).1;refine(Rs hE _ _ j).mono λx s' g=>?_;have e:wt (cur s)=wt (mN (bE s)):=rfl;omega
 split
 ·rename_i j;have o:=(pQ (s:=s) (by rw[j.1];decide)).2;have n2:=kF (step1 (bE s));split
  ·rename_i hi;refine Sat.bind (lX (P:=λ_ n=>n<=phi (bE (step1 (bE s)))) ?_) λus s2 g2=>?_
   ·refine(Ka hE [41] _).mono λx s' g=>cC g ?_;show phi (step1 _)<=_;exact wV (by have:=tD ((bE (step1 (bE s))).toks.drop (bE (step1 (bE s))).i) 1;rw[gY]at this;exact this) _
   ·exact(kZ s2 _).mono λx s' g=>by omega
  ·exact(kZ _ _).mono λx s' g=>by omega
 have step1_le:∀(s:PS),phi (step1 s)<=phi s:=λs=>wV (by have:=tD (s.toks.drop s.i) 1;rw[gY]at this;exact this) _;have ph:∀(s:PS) (d:Nat) (q:Bool),phi {s with deep:=d,quiet:=q}=phi s:=λ_ _ _=>rfl;split
 ·refine Sat.mono (lX (P:=λ_ n=>n<=phi (bE s)) ?_) λx s' g=>by omega
  refine(hE _).bind λx q1 g1=>(lI q1 _).bind λ_ q2 g2=>?_;show phi q2<=_;have h1:=step1_le (bE s);have o:phi q1<=phi (step1 (bE s)):=g1;omega
 split
 ·rename_i hi;rw[iQ]at hi;have j:(mN (bE s)).k≠0:=mU hi;have U:(mN (bE s)).k=4:=by
   unfold isS cur at hi;simp only[aL,bD]at hi;exact hi.1
  refine Sat.bind (lX (P:=λ_ n=>n+1<=phi (bE s)) ?_) λe s2 g2=>?_
  ·have J:bE {bE s with deep:=(bE s).deep+1,quiet:=true}={bE s with deep:=(bE s).deep+1,quiet:=true}:=by
    have I:(bE s).i<(bE s).toks.length:=by
     by_cases hl:(bE s).i<(bE s).toks.length
     ·exact hl
     ·unfold mN at j;rw[List.getD_eq_getElem?_getD,List.getElem?_eq_none (by omega)]at j;exact absurd rfl j
    have:iJ ((bE s).toks.drop (bE s).i)=0:=by
     refine JJ (t:=mN (bE s)) ?_ (by omega);unfold mN;rw[List.getD_eq_getElem?_getD,List.getElem?_eq_getElem I];rfl
    unfold bE;simp only[gF];show({bE s with i:=(bE s).i+iJ ((bE s).toks.drop (bE s).i),deep:=(bE s).deep+1,quiet:=true}:PS)=_;rw[this];rfl
   refine(Ru hE ?_ J _).mono λe s' g=>g;unfold cur;rw[J];exact j
  ·exact(kZ s2 _).mono λx s' g=>by omega
 split
 ·rename_i hi;rw[iQ]at hi;have j:(mN (bE s)).k≠0:=mU hi;have h1:=Bv j;have o:=Ia j;refine Sat.bind (lX (P:=λ_ n=>n+1<=phi (bE s)) ?_) λe s2 g2=>?_
  ·unfold Pk;refine(JX hE _ _ _ [] []).mono λe s' g=>?_;have h3:=wF (step1 (⟨(bE s).toks,(bE s).i,(bE s).off,(bE s).deep+1,false,(bE s).ex,(bE s).bl⟩:PS));have U:phi (step1 (⟨(bE s).toks,(bE s).i,(bE s).off,(bE s).deep+1,false,(bE s).ex,(bE s).bl⟩:PS))=phi (step1 (bE s)):=rfl;omega
  ·exact(kZ s2 _).mono λx s' g=>by omega
 ·trivial
theorem Aa(hE:EZ E):∀(n:Nat) (s:PS) (x:Nat),Sat (rZ E n s x) (λ_ s'=>phi s'<=phi s) TT
 |0,_,_=>trivial
 |n+1,s,x=>by
  have n1:=kF s
  have t1:=lJ (bE s) [46]
  have iQ:∀w,isS (bE s) w=isS s w:=λw=>by unfold isS;rw[lC]
  have step1_le:∀(s:PS),phi (step1 s)<=phi s:=λs=>wV (by have:=tD (s.toks.drop s.i) 1;rw[gY]at this;exact this) _
  simp only[rZ]
  split
  ·rename_i I
   refine(oC _ 1).bind λu s2 g2=>(kZ s2 _).bind λy s3 g3=>(Aa hE n s3 y).mono λz s4 g4=>?_
   have:=t1.2 I
   have:=g2.2 (by decide)
   omega
  split
  ·rename_i hi
   rw[iQ]at hi
   have j:(mN (bE s)).k≠0:=mU hi
   have h1:=Bv j
   have U:=Ia j
   refine Sat.bind (lX (P:=λ_ n=>n+1<=phi (bE s)) ?_) λo s2 g2=>?_
   ·have J:phi (step1 (⟨(bE s).toks,(bE s).i,(bE s).off,(bE s).deep+1,true,(bE s).ex,(bE s).bl⟩:PS))=phi (step1 (bE s)):=rfl
    have t5:=lJ (step1 (⟨(bE s).toks,(bE s).i,(bE s).off,(bE s).deep+1,true,(bE s).ex,(bE s).bl⟩:PS)) [42]
    split
    ·refine(lI _ _).bind λ_ q2 g=>?_
     show phi q2+1<=_
     omega
    ·refine(hE _).bind λy q1 g=>(lI q1 _).bind λ_ q2 g'=>?_
     show phi q2+1<=_
     omega
   ·cases o with
    |some y=>
     simp only
     exact(kZ s2 _).bind λz s3 g3=>(Aa hE n s3 z).mono λz s4 g4=>by omega
    |none=>
     simp only
     exact(lI s2 _).bind λ_ s3 g3=>(oC s3 1).bind λu s4 g4=>(kZ s4 _).bind λz s5 g5=>(Aa hE n s5 z).mono λz s6 g6=>by have:=g4.1;omega
  ·exact n1
theorem Rt(hE:EZ E):EZ (Ey E):=λs=>by
 unfold Ey
 exact(JZ hE s).bind λx s1 g1=>(Aa hE _ s1 x).mono λy s2 g2=>by omega
theorem EA(hE:EZ E)(o:EZ S):EZ (AC E S):=by
 intro s;have n1:=kF s;have iQ:∀w,isS (bE s) w=isS s w:=λw=>by unfold isS;rw[lC]
 have one:∀(w:Str) (k:Int),isS s w=true->Sat ((within (bE s) (cur s).a (bE s).quiet λq=>S (step1 q)).bind λx s2=>rO s2 ⟨k,[],[x],[],(cur s).a⟩) (λ_ s'=>phi s'<=phi s) TT:=λw k hi=>by
  have j:(mN (bE s)).k≠0:=mU hi;have h1:=Bv j;have J:=Ia j;refine Sat.bind (lX (P:=λ_ n=>n+1<=phi (bE s)) ?_) λx s2 g2=>?_
  ·refine(o _).mono λx s' g=>?_;have I:phi (step1 (⟨(bE s).toks,(bE s).i,(bE s).off,(bE s).deep+1,(bE s).quiet,(bE s).ex,(bE s).bl⟩:PS))=phi (step1 (bE s)):=rfl;omega
  ·exact(kZ s2 _).mono λy s3 g3=>by omega
 unfold AC;simp only;split
 ·rename_i hi;rw[iQ]at hi;exact one [33] 14 hi
 split
 ·rename_i hi;rw[iQ]at hi;exact one [45] 13 hi
 ·exact(Rt hE (bE s)).mono λx s2 g2=>by omega
theorem GU{J:PS->R Nat}(o:EZ J)(k:Nat):∀(f:Nat) (s:PS) (x:Nat),Sat (BG J k f s x) (λ_ s'=>phi s'<=phi s) TT
 |0,_,_=>trivial
 |f+1,s,x=>by
  have n1:=kF s
  simp only[BG]
  split
  ·exact n1
  ·rename_i hl
   have j:(cur s).k≠0:=λe=>hl (by unfold xI;rw[e];rfl)
   have I:=(pQ j).2
   exact(o _).bind λb s1 g1=>(kZ s1 _).bind λy s2 g2=>(GU o k f s2 y).mono λz s3 g3=>by omega
theorem wG(hE:EZ E)(j:EZ S):∀m,EZ (uY E S m)
 |0=>EA hE j
 |m+1=>λs=>by
  simp only[uY]
  exact(wG hE j m s).bind λa s1 g1=>(GU (wG hE j m) _ _ s1 a).mono λy s2 g2=>by omega
theorem JY(hE:EZ E)(o:EZ S):EZ (Dn E S):=by
 intro s;unfold Dn;refine(wG hE o 6 s).bind λa s1 g1=>?_;have t1:=lJ s1 [63];simp only;split
 ·rename_i j;refine Sat.bind (lX (P:=λ_ n=>n<=phi (bX s1 [63]).2) ?_) λz s2 g2=>?_
  ·refine(hE _).bind λx q1 g3=>(lI q1 _).bind λ_ q2 g4=>(hE q2).bind λy q3 g5=>?_;have I:phi (⟨(bX s1 [63]).2.toks,(bX s1 [63]).2.i,(bX s1 [63]).2.off,(bX s1 [63]).2.deep+1,(bX s1 [63]).2.quiet,(bX s1 [63]).2.ex,(bX s1 [63]).2.bl⟩:PS)=phi (bX s1 [63]).2:=rfl;show phi q3<=_;omega
  ·exact(kZ s2 _).mono λy s3 g3=>by have:=t1.2 j;omega
 ·show phi _<=_;omega
end
theorem zH:EZ dead:=λ_=>trivial
theorem xM:∀d,EZ (tT d).1/\EZ (tT d).2
 |0=>⟨JY zH zH,EA zH zH⟩
 |d+1=>⟨JY (xM d).1 (xM d).2,EA (xM d).1 (xM d).2⟩
section
variable{E B:PS->R Nat}
theorem EB:∀(n:Nat) (s:PS) (ls:List Str),Sat (sH n s ls) (λ_ s'=>phi s'<=phi s) TT
 |0,_,_=>trivial
 |n+1,s,ls=>by
  have n1:=wE s
  simp only[sH]
  split
  ·exact(GT _ _).bind λl s1 e1=>by subst e1;exact(EB n _ (ls++[l])).mono λ_ s2 g=>by omega
  ·exact kF s
theorem LK(l:List Tok){j:Nat}(h:i<=j):wts (l.drop j)<=wts (l.drop i):=by
 have:=tD (l.drop i) (j-i);rw[gY,show i+(j-i)=j by omega]at this;exact this
theorem Kg(s:PS):s.i<=(bE s).i:=by unfold bE;split;exact Nat.le_add_right _ _;exact aV _
theorem Rv(hE:EZ E)(hB:EZ B)(s:PS)(us:List Atr)(bs:List Nat):Sat (Df E B s us bs) (λ_ s'=>phi s'<=phi s) TT:=by
 unfold Df;refine Sat.bind (P:=λ_ s1=>s1=step1 (bE s)/\phi s1+1<=phi s) ?_ λt s1 ⟨e1,h1⟩=>?_
 ·unfold mH;split
  ·rename_i J;have j:(cur s).k≠0:=by rw[J];decide
   refine⟨by unfold jE;rw[aJ j],((wE s).2 j).2⟩
  ·trivial
 have t1:=lJ s1 [61];split
 ·exact(hE _).bind λx s2 I=>by show phi s2<=_;omega
 ·rename_i o;refine Sat.bind (hB _) λx s2 I=>?_;show phi s2<=_;refine cC I ?_;have e2:(bX s1 [61]).2=bE s1:=by
   unfold bX at o⊢;split
   ·rename_i hi;rw[aJ hi]at o;exact absurd rfl o
   ·rfl
  rw[e2];have hi:s.i<=(bE s1).i-1:=by
   have h1:=Kg s;have I:=Kg s1;have U:s1.i=(bE s).i+1:=by rw[e1];rfl
   omega
  have x1:(bE s1).ex=s.ex:=(iK s1).1.trans (by rw[e1];exact(iK s).1);have x2:(bE s1).bl=s.bl:=(iK s1).2.trans (by rw[e1];exact(iK s).2);have x3:(bE s1).toks=s.toks:=by
   have h1:∀s:PS,(bE s).toks=s.toks:=λs=>by unfold bE;split<;>rfl
   rw[h1,e1];exact h1 s
  unfold phi;simp only;rw[x1,x2,x3];have:=LK s.toks hi;omega
theorem GV(hE:EZ E)(hB:EZ B):∀(n:Nat) (s:PS) (us:List Atr) (bs:List Nat),Sat (rS E B n s us bs) (λ_ s'=>phi s'<=phi s) TT
 |0,_,_,_=>trivial
 |n+1,s,us,bs=>by
  have t1:=lJ s [125]
  simp only[rS]
  split
  ·exact t1.1
  refine(Rv hE hB _ us bs).bind λx s1 g1=>?_
  have m1:=kF s1
  split
  ·trivial
  have l1:=wF (bE s1)
  exact(GV hE hB n _ x.1 x.2).mono λy s2 g2=>by omega
theorem GX(hE:EZ E)(hB:EZ B):EZ (zL E B):=by
 intro s;unfold zL;refine(oC s 1).bind λt s1 g1=>(EB _ s1 []).bind λls s2 g2=>?_;have n2:=kF s2;split
 ·trivial
 refine Sat.bind (lX (P:=λ_ n=>n<=phi (bE s2)) ?_) λx s3 g3=>?_
 ·refine(GV hE hB _ _ [] []).mono λx s' g=>?_;have o:=wF (step1 (⟨(bE s2).toks,(bE s2).i,(bE s2).off,(bE s2).deep+1,false,(bE s2).ex,(bE s2).bl⟩:PS));have j:phi (step1 (⟨(bE s2).toks,(bE s2).i,(bE s2).off,(bE s2).deep+1,false,(bE s2).ex,(bE s2).bl⟩:PS))<=phi (bE s2):=wV (LK _ (Nat.le_succ _)) _;omega
 ·show phi _<=_;have h1:=g1.2 (by decide);have e:phi {s3 with bl:=s3.bl++[⟨t.t,ls,x.1,x.2,t.a⟩]}=phi s3+1:=by
   unfold phi;simp only[aU,aB,aN];omega
  have e':phi (⟨s3.toks,s3.i,s3.off,s3.deep,s3.quiet,s3.ex,s3.bl++[⟨t.t,ls,x.1,x.2,t.a⟩]⟩:PS)=phi s3+1:=e;omega
end
theorem Lt:∀d,EZ (CO d)
 |0=>GX zH zH
 |d+1=>GX (xM d).1 (Lt d)
theorem aBD(s:PS):s.ex.length<=phi s/\s.bl.length<=phi s:=by unfold phi;omega
end
end Go.Syn
namespace Go.Proofs.YtghhmpppnmoeoaaGreatDoor
section
open Go Go.Eng Go.RowKit Go.Syn Go.Lex
variable{w:World}{K:Q0}{cs:List Value}{G:Nat->Prop}{T:TypeId}{i:Nat}{n:Nat}{v:Value}{w':World}{P:Program}{c:UInt8}{S:Nat->Prop}
abbrev DT:TypeId:=33
def fS(t:Tok):List Value:=[i64 t.k,str t.t,i64 t.a]
def AP(w:World)(p:Nat):Nat:=match w.heap[p]? with|some (.cells c _ _)=>(match(c[1]?:Option Value)with|some (Value.int _ i)=>i.toNat|_=>0)|_=>0
theorem PR.at_{w0:World}{p f:Nat}{M:Lay}{vt:Value}{s:PS}{top:List Nat}(h:PR w0 w p f M vt s top):AP w p=s.i:=by
 unfold AP;rw[h.ps];simp
theorem wsi{N:Int}{s:PS}(h:WS N s)(hN:s.toks.length<=100000):s.i<=1000000:=by have:=h.lt;omega
section
variable [HX]
def Thr(w0:World)(f:Nat)(code at_:Int):Prop:=
 ∀(d:Nat) (w':World) (cs:List Value),Chg (Of f) w0 w'->w0.heap.size<=d->cs.length=3->w'.heap[f]?=some (.cells cs.toArray FlT (0,0))->w'.heap[d]?=some (.cells [i64 code,str [],i64 at_].toArray 53 (0,0))->HX.X [{v:=.iface DT (.pointer (some ⟨d,0,none⟩)),recovered:=false}] w'
section
variable{w0 w:World}{p f:Nat}{M:Lay}{vt:Value}{s:PS}{top:List Nat}{N:Int}{K:Q0}
theorem qU{e a:Int}(h:PR w0 w p f M vt s top)(I:Thr w0 f e a):aC P0 31 [i64 e,i64 a] w K:=by
 refine aCY ?_;unfold W31;simp only[dI,eY,cW,aB,aN,aY,bB];refine⟨by omega,by omega,?_⟩;refine fY (z:=[i64 e,str [],i64 a]) λd w' hd J hb o=>?_;have j:=h.ext o;exact I d w' _ j.ch (by have:=h.base;omega) (by rfl) j.fr.hf hb
theorem uX:∀{l:List Tok} {i:Nat} {t:Tok},l[i]?=some t->iJ (l.drop i)=if t.k=5 then iJ (l.drop (i+1))+1 else 0:=by
 intro l i t h;have j:=(List.getElem?_eq_some_iff.1 h).1;rw[cL j,(List.getElem?_eq_some_iff.1 h).2];rfl
theorem nR(h:PR w0 w p f M vt s top)(hs:WS N s)(hN:N<=1000000)(hl:s.toks.length<=100000)(hK:∀w',PR w0 w' p f M vt (bE s) top->Eff p f M M w w'->K (.agg (fS (cur s)).toArray) w'):
  aC P0 29 [.pointer (some ⟨p,0,none⟩)] w K:=by
 refine aC0 ?_;unfold W29;refine bI λb w1 hb xo xt xe=>?_;have hp:=h.lt;have h1:=h.ext xe;have L1:=h.loc xo hb xt;refine cY.go (λst w'=>st=[]/\∃j,PR w0 w' p f M vt {s with i:=j} top/\s.i<=j/\bE {s with i:=j}=bE s/\j<=(bE s).i/\Eff p f M M w w'/\Loc w0 w' p f M vt b TkT [i64 0,str [],i64 0]) (λ_ w'=>s.toks.length-AP w' p)
  ⟨rfl,s.i,h1,aV _,rfl,Kg s,Eff.ext xe,L1⟩ ?_
 rintro st g w2 ⟨rfl,j,h2,hj,I,yf,hz,L2⟩;have hg:=gI hs;have hy:j<s.toks.length:=by have:=(hg.ws hs).lt;rw[hg.toks]at this;omega
 have xf:WS N {s with i:=j}:=⟨hs.tg,hy,hs.pN⟩;obtain⟨t,ht⟩:∃t,s.toks[j]?=some t:=⟨_,List.getElem?_eq_getElem hy⟩;have h3:=h2.drew;have sl:SlAt w2.drew TkT vt s.toks.length (toks s.toks):=h3.tk;have stop:bE {s with i:=j}={s with i:=j}->eF (.pointer (some ⟨p,0,none⟩)) (λt30=>aZ 0 t30 λt31=>ldW false 1 t31 w2.drew.drew λt32=>eF (.pointer (some ⟨p,0,none⟩)) λt34=>aZ 1 t34 λt35=>ldW false 1 t35 w2.drew.drew λt36=>dP none 3 t32 t36 λt37=>ldW true 3 t37 w2.drew.drew λt38=>bQ TkT [(.int .i64 0),(.string (ofL [])),(.int .i64 0)] w2.drew.drew λt3 w17=>(ldW true 3 t37 w17 λx=>x=t38)/\(ldW false 1 t35 w17 λx=>x=t36)/\(ldW false 1 t31 w17 λx=>x=t32)/\stW 3 t3 t38 w17 λw18=>aZ 2 t3 λt39=>ldW false 1 t39 w18.drew λt40=>eF (.pointer (some ⟨p,0,none⟩)) λt42=>aZ 2 t42 λt43=>ldW false 1 t43 w18.drew λt44=>aQ .add t40 t44 λt45=>aZ 2 t3 λt46=>stW 1 t46 t45 w18.drew λw19=>ldW true 3 t3 w19 λt47=>stW 3 (.pointer (some ⟨b,0,none⟩)) t47 w19 λw20=>ldW true 3 (.pointer (some ⟨b,0,none⟩)) w20 λr21=>K r21 w20):=λhn=>by
  have h4:=h3.drew;have ecur:cur s={t with a:=t.a+s.off}:=by
   unfold cur;rw[<-I,hn];have:mN {s with i:=j}=t:=by unfold mN;rw[List.getD_eq_getElem?_getD,ht];rfl
   rw[this]
  have xh:=xf.tg.pos j t ht;simp only at xh;have ldT:∀{w':World},PR w0 w' p f M vt {s with i:=j} top->ldW false 1 (.pointer (some ((⟨p,0,none⟩:Addr).add 0))) w' λx=>x=vt:=λh=>by
   rw[dY];exact⟨vt,by rw[bW,cG,h.ps,cJ];rfl,rfl⟩
  have ldI:∀{w':World},PR w0 w' p f M vt {s with i:=j} top->ldW false 1 (.pointer (some ((⟨p,0,none⟩:Addr).add 1))) w' λx=>x=i64 (j:Nat):=λh=>by
   rw[dY];exact⟨_,by rw[bW,cG,h.ps,cJ];rfl,rfl⟩
  refine h4.ld rfl ?_;refine h4.ld rfl ?_;refine rR (size:=3) h4.tk (Ed _) (by omega) hy λtb o c fr U hc=>?_;have hcell:∀i,i<3->c[o+i]?=(fS t)[i]?:=λi hi=>by rw[hc i hi];exact Jn ht hi
  have three:∀{w':World},w'.heap[tb]?=some (.cells c TkT fr)->kI w' ⟨tb,o,none⟩ 0 3=some (fS t):=λh=>by
   have h0:=hcell 0 (by omega);have h1:=hcell 1 (by omega);have h2:=hcell 2 (by omega);simp only[fS,eU,List.getElem?_cons_zero,List.getElem?_cons_succ]at h0 h1 h2;simp only[kI,bW,cG,h,cJ,eU,h0,h1,h2,gK,Nat.reduceAdd];rfl
  rw[EY];refine⟨fS t,three U,?_⟩;refine bI λb2 w5 xv xn xk J=>?_;have h5:=h4.ext J;have L5:=h4.loc xn xv xk;have xg:=J.at U id;refine⟨by rw[EY];exact⟨_,three xg,rfl⟩,ldI h5,ldT h5,?_⟩;refine cK (l:=fS t) L5.1 rfl rfl rfl λw6 yb xu xb=>?_;have L6:Loc w0 w6 p f M vt b2 TkT (fS t):=⟨xu,L5.2.up (by omega)⟩;have h6:=h5.one xb L5.2;refine L6.drew.ldf rfl ?_;refine h6.drew.ld (v:=i64 s.off) rfl ?_;rw[cI,cN (by omega) (by omega),bT,bW,aX];refine L6.drew.st rfl (by simp[fS]) λw7 L7 xa ya=>?_;have h7:=h6.drew.one xa L6.drew.2;refine bZ (l:=fS (cur s)) (by rw[L7.1,ecur];rfl) rfl ?_;have ho:b2≠b:=by have:=L2.lt;have:w2.drew.drew.heap.size=w2.heap.size:=rfl;omega
  have L2':=(((L2.drew.drew.ext J).one xb (tA ho)).drew.one xa (tA ho));refine iI (l:=fS (cur s)) L2'.1 rfl rfl rfl λw8 xj=>?_;have h8:=h7.one xj L2'.2;refine hK w8 (by rw[<-I,hn];exact h8) ?_;have yd:=hz.chg.size;have z1:w2.drew.drew.heap.size=w2.heap.size:=rfl;exact((((((hz.x (dE _)).x (dE _)).x J).one xb (by omega)).x (dE _)).one xa (by omega)).one xj (by omega)
 by_cases hq:s.quiet=true
 ·refine h3.ld (v:=.bool true) (by simp[hq]) ?_;simp only[fQ,TI];refine⟨_,rfl,_,rfl,_,rfl,vt,by rw[dY];exact⟨vt,by rw[bW,cG,h3.ps,cJ];rfl,rfl⟩,_,rfl,_,rfl,_,rfl,i64 (j:Nat),by rw[dY];exact⟨_,by rw[bW,cG,h3.ps,cJ];rfl,rfl⟩,?_⟩;obtain⟨q,cap,hv,g1,g2,g3⟩:=sl;have xp:toks s.toks≠[]:=λe=>by have:=congrArg List.length e;rw[Ed,aN]at this;omega
  obtain⟨tb,o,c,fr,rfl,U,xr⟩:=g3 xp;have xx:(toks s.toks).length=s.toks.length*3:=Ed _;refine⟨.pointer (some ((⟨tb,o,none⟩:Addr).add (j*3))),?_,.pointer (some (((⟨tb,o,none⟩:Addr).add (j*3)).add 0)),rfl,i64 t.k,?_,.bool (decide (t.k=5)),by rw[bO],?_⟩
  ·rw[hv,qS];exact⟨by omega,by omega,by rw[aW]⟩
  ·rw[dY];refine⟨_,?_,rfl⟩;rw[bW,bW,cG,U,cJ,eU,xr _ (by omega)];have:=Jn (j:=0) ht (by omega);rw[eU]at this;exact this
  rw[lH,aO];refine⟨λhk=>?_,λhk=>stop ?_⟩
  ·have hh:bE {s with i:=j+1}=bE s:=by
    rw[<-I];unfold bE;simp only[hq,gF];have e:=uX ht;rw[aJ hk]at e;rw[e];congr 1;omega
   refine h3.go (wsi xf hl) λw4 h4 xi yc=>?_;refine⟨⟨trivial,j+1,h4,by omega,hh,?_,(hz.x (dE _)).trans xi,L2.drew.eff xi⟩,?_⟩
   ·rw[<-hh];exact Kg {s with i:=j+1}
   ·rw[h4.at_,h2.at_];simp only[step1];omega
  ·have e:=uX ht;rw[aE hk]at e;unfold bE;simp only[hq,gF,e,eU]
 ·have hq:s.quiet=false:=by simpa using hq
  refine h3.ld (v:=.bool false) (by simp[hq]) ?_;simp only[fQ,aAg];rw[tK,cP];exact stop (by unfold bE;simp only[hq];rfl)
end
end
theorem zS{xs:List Value}(h:SlAt w T v n xs)(U:Chg S w w')(hS:∀k,v.ownBlock=some k->¬S k):SlAt w' T v n xs:=by
 obtain⟨q,cap,I,h1,h2,h3⟩:=h;refine⟨q,cap,I,h1,h2,λj=>?_⟩;obtain⟨b,off,c,fr,J,hb,o⟩:=h3 j;exact⟨b,off,c,fr,J,U.at hb (hS b (by rw[I,J];rfl)),o⟩
def aFV(w0 w:World)(p f:Nat)(M:Lay)(vt:Value)(v:Value)(T:TypeId)(n:Nat)(cs:List Value):Prop:=SlAt w T v n cs/\∀k,v.ownBlock=some k->Off w0 w p f M vt k
theorem upi(h:i<=4611686018427387904):IntKind.i64.wrap ((i:Int)+1)=((i+1:Nat):Int):=by rw[cN (by omega) (by omega)];rfl
def rY:List Str->Str->Nat->Int
 |[],_,_=>-1
 |a::r,x,i=>if x=a then(i:Nat)else rY r x (i+1)
theorem Jv(x:Str):∀(l:List Str) (i:Nat),(0<=rY l x i↔x∈l)
 |[],i=>by simp[rY]
 |a::r,i=>by
  simp only[rY]
  split
  ·rename_i h
   simp[h]
  ·rename_i h
   rw[Jv x r (i+1)]
   simp[h]
theorem xR{x:Str}{K:Q0}(J:∀b w',b=w.heap.size->w'.heap.size=w.heap.size+1->w'.heap[b]?=some (.cells [str x].toArray StT (0,0))->Ext w w'->K (.slice (some ⟨b,0,none⟩) 1 1) w'):dN StT 1 [(.string (ofL []))] [(0,1,str x)] w K:=by
 rw[dN];simp only[eY,cW,aB,aN,aY];refine⟨by omega,?_⟩;exact row_new λa w' I j hb o _=>J a w' I j hb o
theorem kE{x:Int}{K:Q0}(J:∀b w',b=w.heap.size->w'.heap.size=w.heap.size+1->w'.heap[b]?=some (.cells [i64 x].toArray jD (0,0))->Ext w w'->K (.slice (some ⟨b,0,none⟩) 1 1) w'):dN jD 1 [(.int .i64 0)] [(0,1,i64 x)] w K:=by
 rw[dN];simp only[dI,cW,aB,aN,aY];refine⟨by omega,?_⟩;exact row_new λa w' I j hb o _=>J a w' I j hb o
theorem Lo{x y:Int}{K:Q0}(J:∀b w',b=w.heap.size->w'.heap.size=w.heap.size+1->w'.heap[b]?=some (.cells [i64 x,i64 y].toArray jD (0,0))->Ext w w'->K (.slice (some ⟨b,0,none⟩) 2 2) w'):dN jD 2 [(.int .i64 0),(.int .i64 0)] [(0,1,i64 x),(1,1,i64 y)] w K:=by
 rw[dN];simp only[dI,cW,aB,aN,aY,bB];refine⟨by omega,by omega,?_⟩;exact row_new λa w' I j hb o _=>J a w' I j hb o
theorem Tr{x y z:Int}{K:Q0}(J:∀b w',b=w.heap.size->w'.heap.size=w.heap.size+1->w'.heap[b]?=some (.cells [i64 x,i64 y,i64 z].toArray jD (0,0))->Ext w w'->K (.slice (some ⟨b,0,none⟩) 3 3) w'):dN jD 3 [(.int .i64 0),(.int .i64 0),(.int .i64 0)] [(0,1,i64 x),(1,1,i64 y),(2,1,i64 z)] w K:=by
 rw[dN];simp only[dI,cW,aB,aN,aY,bB];refine⟨by omega,by omega,by omega,?_⟩;exact row_new λa w' I j hb o _=>J a w' I j hb o
theorem BU{z d:List Value}{K:Q0}(hd:d.length=n)(j:z.length=n)(U:∀b w',b=w.heap.size->w'.heap.size=w.heap.size+1->w'.heap[b]?=some (.cells d.toArray T (0,0))->Ext w w'->K (.slice (some ⟨b,0,none⟩) 1 1) w'):dN T 1 z [(0,n,.agg d.toArray)] w K:=by
 rw[dN];simp only[dJ,Value.cells];refine⟨by simpa using hd,by omega,?_⟩;have e:(z.take 0++(d++z.drop (0+n)))=d:=by rw[Av,fO,aX,<-j,eJ,eG]
 rw[e];exact row_new λa w' J o hb I _=>U a w' J o hb I
theorem Bn{b:Nat}(h:w.heap[b]?=some (.cells cs.toArray T (0,0)))(hn:cs.length=n):SlAt w T (.slice (some ⟨b,0,none⟩) n n) n cs:=
 ⟨_,_,rfl,aV _,λe=>(by cases e),λ_=>⟨b,0,cs.toArray,_,rfl,h,λi _=>by simp⟩⟩
theorem Rw{B b m:Nat}(h:w.heap[b]?=some (.cells cs.toArray T (0,0)))(hB:B<=b)(hn:cs.length=n*m)(hm:n<=1000000):Own w B T m (.slice (some ⟨b,0,none⟩) n n) n cs:=
 ⟨hn,.inr ⟨b,n,cs.toArray,rfl,hB,h,aV _,by unfold maxLen;omega,by simpa using hn,by simp[<-hn]⟩⟩
theorem IF{f:Nat}{a a' b d:List Nat}(h:(f::(a++b)).Nodup)(J:∀k∈f::(a++b),k<n)(hg:a'.Nodup)(hn:∀k∈a',k∈a\/n<=k)(hd:d.Nodup)(j:∀k∈d,k<n/\k∉f::(a++b)):(f::(a'++(d++b))).Nodup:=by
 rw[jP,fD]at h;obtain⟨hf,_,hb,hc⟩:=h;have new:∀k∈a',k∉b/\k≠f/\k∉d:=λk I=>by
  rcases hn k I with I|I
  ·exact⟨λe=>hc k I k e rfl,λe=>hf (e▸eZ _ I),λe=>(j k e).2 (aR _ (eZ _ I))⟩
  ·exact⟨λe=>by have:=J k (aR _ (dB _ e));omega,λe=>by have:=J k (by rw[e];exact bA);omega,λe=>by have:=(j k e).1;omega⟩
 rw[jP];refine⟨λe=>?_,?_⟩
 ·rcases dH.1 e with e|e
  ·exact(new f e).2.1 rfl
  rcases dH.1 e with e|e
  ·exact(j f e).2 bA
  ·exact hf (dB _ e)
 ·refine fD.2 ⟨hg,fD.2 ⟨hd,hb,λx U y o e=>?_⟩,λx U y o e=>?_⟩
  ·subst e;exact(j x U).2 (aR _ (dB _ o))
  ·subst e;rcases dH.1 o with o|o
   ·exact(new x U).2.2 o
   ·exact(new x U).1 o
theorem wX(v:Value)(c:List Value):ub (v::c)=ub [v]++ub c:=by
 rw[<-vK];rfl
theorem mL(v:Value):(ub [v]).Nodup:=by
 unfold ub;cases h:v.ownBlock with
 |none=>simp[h]
 |some k=>simp[h]
theorem LO(M:Lay)(f:Nat):M.uses f=f::(ub [M.vE]++ub ([M.vB,M.vT]++(M.cE++M.cB))):=by
 unfold Lay.uses;rw[dD,wX]
theorem TU(M:Lay)(f:Nat)(v:Value)(d:List Value):(({M with vE:=v,cE:=M.cE++d}:Lay).uses f).Perm (f::(ub [v]++(ub d++ub ([M.vB,M.vT]++(M.cE++M.cB))))):=by
 rw[DX];intro a;rw[LO];simp only[vK,mD,Dx];omega
theorem LP(M:Lay)(f:Nat):(M.uses f).Perm (f::(ub [M.vB]++ub ([M.vE,M.vT]++(M.cE++M.cB)))):=by
 rw[DX];intro a;unfold Lay.uses;simp only[vK,mD,Dx];rw[wX M.vE,wX M.vB,wX M.vE [M.vT]];simp only[mD];omega
theorem TV(M:Lay)(f:Nat)(v:Value)(d:List Value):(({M with vB:=v,cB:=M.cB++d}:Lay).uses f).Perm (f::(ub [v]++(ub d++ub ([M.vE,M.vT]++(M.cE++M.cB))))):=by
 rw[DX];intro a;rw[(LP _ f).count_eq];simp only[vK,mD,Dx];omega
section
variable{w0 w w1 w2:World}{p f:Nat}{M:Lay}{vt:Value}{s:PS}{top:List Nat}
theorem PR.putE(h:PR w0 w p f M vt s top){wb:World}{M0:Lay}(I:Eff p f M0 M wb w){e:Ex}{d:List Value}{v':Value}(hd:ExR w w0.heap.size e d)(J:∀k∈ub d,Off w0 w p f M vt k)(hn:(ub d).Nodup)(hi:∀k∈ub d,wb.heap.size<=k)
  (hO:Own w1 w0.heap.size ExT 5 v' (s.ex.length+1) (M.cE++d))(hs:Chg (λk=>M.vE.ownBlock=some k) w w1)(o:∀k,v'.ownBlock=some k->M.vE.ownBlock=some k\/w.heap.size<=k)
  (hc:Chg (One f) w1 w2)(hf:w2.heap[f]?=some (.cells [v',M.vB,M.vT].toArray FlT (0,0))):PR w0 w2 p f {M with vE:=v',cE:=M.cE++d} vt {s with ex:=s.ex++[e]} top/\Eff p f M0 {M with vE:=v',cE:=M.cE++d} wb w2/\∀b T cs,Loc w0 w p f M vt b T cs->b∉ub d->Loc w0 w2 p f {M with vE:=v',cE:=M.cE++d} vt b T cs:=by
 have hb:=h.base;have xc:=I.chg.size;have eE:=LO M f;have use:∀k,M.vE.ownBlock=some k->k∈M.uses f:=λk j=>aR _ (lD (v:=M.vE) (by simp) j);have hj:=h.fr.nd;rw[eE,jP,fD]at hj;obtain⟨nf,_,nb,nab⟩:=hj;have rest:∀k∈ub ([M.vB,M.vT]++(M.cE++M.cB)),M.vE.ownBlock≠some k/\k≠f/\k<w.heap.size:=λk j=>
  ⟨λe=>nab k (gW.2 e) k j rfl,λe=>nf (e▸dB _ j),h.fr.lt k (by rw[eE];exact aR _ (dB _ j))⟩
 have c12:Chg (λk=>M.vE.ownBlock=some k\/k=f) w w2:=(hs.mono λk _ e=>.inl e).trans (hc.mono λk _ e=>.inr e);have sub:∀v∈[M.vB,M.vT]++(M.cE++M.cB),∀k,v.ownBlock=some k->¬(M.vE.ownBlock=some k\/k=f):=λv o k j e=>by
  have:=rest k (lD o j);exact e.elim this.1 this.2.1
 have xa:∀k,v'.ownBlock=some k->k≠f:=λk j e=>by
  subst e;rcases o k j with e|e
  ·exact nf (eZ _ (gW.2 e))
  ·have:=fA h.fr.hf;omega
 have nE:M.vE.ownBlock≠some p:=λe=>h.np (use p e);have pf:p≠f:=λe=>h.np (e▸bA);have perm:=TU M f v' d;have hN:(f::(ub [v']++(ub d++ub ([M.vB,M.vT]++(M.cE++M.cB))))).Nodup:=IF (n:=w.heap.size) (a:=ub [M.vE]) (by rw[<-eE];exact h.fr.nd) (λk j=>h.fr.lt k (by rw[eE];exact j)) (mL _) (λk j=>(o k (gW.1 j)).imp (λe=>gW.2 e) id) hn λk j=>⟨(J k j).1.2,by rw[<-eE];exact(J k j).2.2.1⟩;have hz:=c12.size;have mem:∀k∈({M with vE:=v',cE:=M.cE++d}:Lay).uses f,k=f\/v'.ownBlock=some k\/k∈ub d\/k∈ub ([M.vB,M.vT]++(M.cE++M.cB)):=λk j=>by
  have j:=perm.mem_iff.1 j;rcases bM.1 j with e|e
  ·exact .inl e
  rcases dH.1 e with e|e
  ·exact .inr (.inl (gW.1 e))
  rcases dH.1 e with e|e
  ·exact .inr (.inr (.inl e))
  ·exact .inr (.inr (.inr e))
 have cT:Chg (Tn p f M) w w2:=c12.mono λk _ e=>e.elim (λe=>.inr (.inr (.inl e))) λe=>.inr (.inl e);refine⟨⟨?_,⟨hf,?_,?_,?_,?_,?_,perm.nodup_iff.2 hN,λk j=>?_,λk j=>?_⟩,?_,?_,λe=>?_,h.lo,λk j=>?_⟩,⟨(I.trans (Eff.of cT)).chg,λk j=>?_,λk j=>(o k j).elim (I.hE k) λe=>.inr (by omega),I.hB,I.hT⟩,λb T cs hL hy=>⟨cT.at hL.1 hL.2.no,⟨hL.2.1.1,cR hL.2.1.2 hz⟩,hL.2.2.1,λj=>?_,hL.2.2.2.2⟩⟩
 ·refine h.ch.then c12 λk j e=>?_;rcases e with e|e
  ·exact(h.fr.lo k (use k e)).resolve_right (by omega)
  ·exact e
 ·rw[aU];exact jO hO hc λk j e=>xa k j e
 ·exact jO h.fr.oB c12 (sub _ (by simp))
 ·exact jO h.fr.oT c12 (sub _ (by simp))
 ·refine pI.snoc ?_ (hd.at_ c12 λk j e=>?_) (by obtain⟨va,vk,rfl,_⟩:=hd;rfl)
  ·refine h.fr.ee.imp λx d hd hx=>hx.at_ c12 λk j=>?_;obtain⟨v,o,j⟩:=gT.1 j;exact sub v (by simp[hd v o]) k j
  ·have U:=(J k j).2.2.1;rcases e with e|e
   ·exact U (use k e)
   ·exact U (e▸bA)
 ·refine h.fr.bb.imp λx d hd hx=>hx.at_ c12 λk j=>?_;obtain⟨v,o,j⟩:=gT.1 j;exact sub v (by simp[hd v o]) k j
 ·rcases mem k j with e|e|e|e
  ·rw[e];exact fA hf
  ·exact cR (rP hO e).1 hc.size
  ·exact cR (J k e).1.2 hz
  ·exact cR (rest k e).2.2 hz
 ·rcases mem k j with e|e|e|e
  ·exact .inl e
  ·exact .inr (rP hO e).2
  ·exact .inr (J k e).1.1
  ·exact h.fr.lo k (by rw[eE];exact aR _ (dB _ e))
 ·exact c12.at h.ps λe=>e.elim nE pf
 ·exact zS h.tk c12 λk j e=>by
   have:=(h.nt k j).1;rcases e with e|e
   ·exact this (use k e)
   ·exact this (e▸bA)
 ·rcases mem p e with e|e|e|e
  ·exact pf e
  ·exact(o p e).elim nE λe=>by have:=h.lt;omega
  ·exact(J p e).2.1 rfl
  ·exact h.np (by rw[eE];exact aR _ (dB _ e))
 ·have ht:=h.nt k j;refine⟨λe=>?_,ht.2.1,cR ht.2.2 hz⟩;rcases mem k e with e|e|e|e
  ·exact ht.1 (e▸bA)
  ·exact(o k e).elim (λe=>ht.1 (use k e)) λe=>by omega
  ·exact(J k e).2.2.2 j
  ·exact ht.1 (by rw[eE];exact aR _ (dB _ e))
 ·rcases mem k j with e|e|e|e
  ·exact I.us k (e▸bA)
  ·exact(o k e).elim (λe=>I.us k (use k e)) λe=>.inr (by omega)
  ·exact .inr (hi k e)
  ·exact I.us k (by rw[eE];exact aR _ (dB _ e))
 ·have U:=hL.2;rcases mem b j with e|e|e|e
  ·exact U.2.2.1 (e▸bA)
  ·exact(o b e).elim (λe=>U.2.2.1 (use b e)) λe=>by have:=U.1.2;omega
  ·exact hy e
  ·exact U.2.2.1 (by rw[eE];exact aR _ (dB _ e))
end
section
variable [HX]
variable{w0 w:World}{p f:Nat}{M:Lay}{vt:Value}{s:PS}{top:List Nat}{N:Int}{K:Q0}
theorem NM{l:List Str}{x:Str}{K:Q0}(h:SlAt w T v l.length (strs l))(hl:l.length<=1000000)(J:K (i64 (rY l x 0)) w):aC P0 113 [v,str x] w K:=by
 refine Zm ?_;unfold aFt;rw[fL h];refine cY.go (λst w'=>∃j:Nat,st=[i64 j]/\j<=l.length/\w'=w/\rY (l.drop j) x j=rY l x 0) (λst _=>match st with|[.int _ j]=>l.length-j.toNat|_=>0) ⟨0,rfl,by omega,rfl,rfl⟩ ?_;rintro st g w' ⟨j,rfl,hj,rfl,o⟩;simp only[aG];rw[dU,aO];refine⟨λI=>?_,λU=>?_⟩
 ·have I:j<l.length:=by omega
  refine rQ (x:=str l[j]) h (by simp[strs]) (by simp[strs,I]) ?_;rw[cL I]at o;simp only[rY]at o;rw[sL,aO];refine⟨λe=>?_,λe=>?_⟩
  ·rw[aJ e]at o;rw[o];exact J
  ·rw[aE e]at o;rw[cI,upi (by omega)];exact⟨⟨j+1,rfl,by omega,trivial,o⟩,by simp only[aW];omega⟩
 ·rw[fH (by omega)]at o;simp only[rY]at o;rw[o];exact J
theorem Dp{l:List Str}{x:Str}{K:Q0}(h:SlAt w T v l.length (strs l))(hl:l.length<=1000000)(j:K (.bool (decide (x∈l))) w):aC P0 81 [v,str x] w K:=by
 refine aCr ?_;unfold W81;refine NM h hl ?_;rw[mX];simp only[Jv];exact j
theorem Mt(h:PR w0 w p f M vt s top)(hs:WS N s)(hN:N<=1000000)(hl:s.toks.length<=100000)(hK:∀w',PR w0 w' p f M vt (jE s) top->Eff p f M M w w'->K (.agg (fS (cur s)).toArray) w'):
  aC P0 48 [.pointer (some ⟨p,0,none⟩)] w K:=by
 refine aCP ?_;unfold W48;refine bI λb w1 hb hj ht U=>?_;have h1:=h.ext U;have L1:=h.loc hj hb ht;refine nR h1 hs hN hl λw2 h2 I=>?_;have L2:=L1.eff I;refine bI λb2 w3 hx hi hg o=>?_;have h3:=h2.ext o;have L3:=h2.loc hi hx hg;have ho:b≠b2:=by have:=L2.lt;omega
 have L23:=L2.ext o;refine cK (l:=fS (cur s)) L3.1 rfl rfl rfl λw4 xb hv J=>?_;have L4:Loc w0 w4 p f M vt b2 TkT (fS (cur s)):=⟨hv,L3.2.up (by omega)⟩;have h4:=h3.one J L3.2;have L24:=L23.one J ho;have hr:Eff p f M M w w4:=(((Eff.ext U).trans I).x o).one J (by have:=I.chg.size;omega);refine bU.cut (λ_ w'=>PR w0 w' p f M vt (jE s) top/\Eff p f M M w4 w') ?_ ?_
 ·refine L4.ldf rfl ?_;rw[gD,aO];unfold jE;refine⟨λhk=>?_,λhk=>?_⟩
  ·rw[aJ hk];exact h4.go (wsi ((gI hs).ws hs) (by rw[(gI hs).toks];exact hl)) λw5 h5 j _=>⟨h5,j⟩
  ·rw[aE hk];exact⟨h4,Eff.refl _ _ _ _⟩
 rintro st g w5 ⟨h5,j⟩;have L5:=L4.eff j;have L25:=L24.eff j;refine bZ L5.1 rfl ?_;refine iI (l:=fS (cur s)) L25.1 rfl rfl rfl λw6 hc=>?_;exact hK w6 (h5.one hc L25.2) ((hr.trans j).one hc (by omega))
theorem aBP{x:Str}(h:PR w0 w p f M vt s top)(hs:WS N s)(hN:N<=1000000)(hl:s.toks.length<=100000)(hv:aFV w0 w p f M vt v StT 1 [str x])(hK:∀w',PR w0 w' p f M vt (bE s) top->Eff p f M M w w'->K (.bool (isS s x)) w'):
  aC P0 49 [.pointer (some ⟨p,0,none⟩),v] w K:=by
 refine aCO ?_;unfold W49;refine nR h hs hN hl λw1 h1 I=>?_;refine bI λb w2 hb hc hg j=>?_;have h2:=h1.ext j;have L2:=h1.loc hc hb hg;refine cK (l:=fS (cur s)) L2.1 rfl rfl rfl λw3 hj hh U=>?_;have L3:Loc w0 w3 p f M vt b TkT (fS (cur s)):=⟨hh,L2.2.up (by omega)⟩;have h3:=h2.one U L2.2;have o:Eff p f M M w w3:=(I.x j).one U (by have:=I.chg.size;omega);have sl3:SlAt w3 StT v 1 [str x]:=zS hv.1 o.chg λk hk=>(hv.2 k hk).no;refine L3.ldf rfl ?_;rw[bO];refine GdW.look (decide ((cur s).t=x)) (λ_ J hJ=>?_) λg=>?_
 ·refine L3.ldf rfl ?_;refine Dp (l:=[x]) sl3 (by simp) ?_;simpa using hJ
 ·simp only[aG,fQ];rw[fK];exact hK w3 h3 o
theorem vL{x:Str}(h:PR w0 w p f M vt s top)(J:WS N s)(hN:N<=1000000)(hl:s.toks.length<=100000)(I:∀w',PR w0 w' p f M vt (bX s x).2 top->Eff p f M M w w'->K (.bool (bX s x).1) w'):
  aC P0 52 [.pointer (some ⟨p,0,none⟩),str x] w K:=by
 refine aCL ?_;unfold W52;refine xR λb w1 hb U o j=>?_;have h1:=h.ext j;have L1:=h.loc U hb o;refine aBP h1 J hN hl ⟨Bn o rfl,λk hk=>by simp only[Value.ownBlock,bF]at hk;subst hk;exact L1.2⟩ λw2 h2 hg=>?_;have he:=(Eff.ext j).trans hg;unfold bX at I;rw[eP,bY];refine⟨λe=>?_,λe=>?_⟩
 ·have e:isS s x=false:=by simpa using e
  rw[aE (by rw[e];decide)]at I;exact I w2 h2 he
 ·have e:isS s x=true:=by simpa using e
  rw[aJ e]at I;exact h2.go (wsi ((gI J).ws J) (by rw[(gI J).toks];exact hl)) λw3 h3 hc _=>I w3 h3 (he.trans hc)
theorem yJ{x:Str}(h:PR w0 w p f M vt s top)(I:WS N s)(hN:N<=1000000)(hl:s.toks.length<=100000)(J:∀s',oX s x=.ok () s'->∀w',PR w0 w' p f M vt s' top->Eff p f M M w w'->K (.tuple #[]) w')(o:∀c a,oX s x=.err c a->Thr w0 f c a):
  aC P0 116 [.pointer (some ⟨p,0,none⟩),str x] w K:=by
 refine Zk ?_;unfold aFr;refine vL h I hN hl λw1 h1 j=>?_;unfold bX at h1 j⊢;unfold oX at J o;rw[eP,bY];by_cases e:isS s x=true
 ·simp only[aJ e]at h1 j J o⊢;exact⟨λe=>(by cases e),λ_=>J _ rfl w1 h1 j⟩
 ·simp only[aE e]at h1 j J o⊢;refine⟨λ_=>?_,λe=>(by cases e)⟩;refine nR h1 ((gI I).ws I) hN (by rw[(gI I).toks];exact hl) λw2 h2 U=>?_;rw[lC];refine⟨i64 (cur s).a,rfl,?_⟩;exact qU h2 (o _ _ rfl)
theorem yZ{k:Int}(h:PR w0 w p f M vt s top)(hs:WS N s)(hN:N<=1000000)(hl:s.toks.length<=100000)(hK:∀t s',mH s k=.ok t s'->∀w',PR w0 w' p f M vt s' top->Eff p f M M w w'->K (.agg (fS t).toArray) w')(ht:∀c a,mH s k=.err c a->Thr w0 f c a):
  aC P0 46 [.pointer (some ⟨p,0,none⟩),i64 k] w K:=by
 refine aCR ?_;unfold W46;refine bI λb w1 hb hj ho I=>?_;have h1:=h.ext I;have L1:=h.loc hj hb ho;have J:=(gI hs).ws hs;have U:(bE s).toks.length<=100000:=by rw[(gI hs).toks];exact hl
 unfold mH at hK ht;refine bU.cut (λ_ w'=>PR w0 w' p f M vt (bE s) top/\Eff p f M M w1 w'/\(cur s).k=k) ?_ ?_
 ·refine nR h1 hs hN hl λw2 h2 j=>?_;refine⟨i64 (cur s).k,rfl,?_⟩;dsimp only;rw[gD,aO];refine⟨λe=>?_,λe=>⟨h2,j,by omega⟩⟩;refine nR h2 J hN U λw3 h3 o=>?_;rw[lC];refine⟨i64 (cur s).a,rfl,?_⟩;exact qU h3 (ht _ _ (by rw[aE e]))
 rintro st g w2 ⟨h2,j,hk⟩;rw[aJ hk]at hK;refine Mt h2 J hN U λw3 h3 o=>?_;rw[lC];have L3:=(L1.eff j).eff o;refine iI (l:=fS (cur s)) L3.1 rfl rfl rfl λw4 hc=>?_;have e:jE (bE s)=jE s:=by unfold jE;rw[lC,gV]
 rw[e]at h3;exact hK _ _ rfl w4 (h3.one hc L3.2) ((((Eff.ext I).trans j).trans o).one hc (by omega))
end
end
end Go.Proofs.YtghhmpppnmoeoaaGreatDoor
namespace Go.Syn
section
open Go Go.Eng Go.Lex
variable{w:World}{K:Q0}{cs:List Value}{G:Nat->Prop}{T:TypeId}{i:Nat}{n:Nat}{v:Value}{w':World}{P:Program}{c:UInt8}{S:Nat->Prop}
def sJ:Str->Bool
 |[]=>true
 |[c]=>c !=92
 |c::e::r=>if c=92 then sJ r else sJ (e::r)
theorem PT{r:Str}(j:c≠92)(h:sJ r=true):sJ (c::r)=true:=by
 cases r with
 |nil=>simp[sJ,j]
 |cons e r=>simp only[sJ];rw[aE j];exact h
theorem EG:∀(n:Nat) (t:Str),t.length<=n->noD t=true->sJ t=true
 |_,[],_,_=>rfl
 |_,[c],_,h=>by simp only[noD,aL]at h;exact h.1
 |0,c::e::r,h,_=>by simp at h
 |n+1,c::e::r,h,hd=>by
  simp only[noD]at hd
  simp only[aB]at h
  simp only[sJ]
  split at hd
  ·rename_i j
   rw[aJ j]
   exact EG n r (by omega) hd
  ·rename_i j
   rw[aE j]
   simp only[aL]at hd
   exact EG n (e::r) (by simp only[aB];omega) hd.2
theorem sD{c':UInt8}{r r':Str}{k:Nat}(h:(c'::r').take (k+1)=(c::r).take (k+1)):c'=c/\r'.take k=r.take k:=by
 simp only[qC,dX]at h;exact h
theorem nN{r r':Str}{k j m:Nat}(h:r'.take k=r.take k)(o:j+m<=k):(r'.drop j).take m=(r.drop j).take m:=by
 have e:∀s:Str,(s.drop j).take m=((s.take k).drop j).take m:=λs=>by
  rw[Gq,Aw,kP (by omega)]
 rw[e r',e r,h]
theorem JU{x x':UInt8}{r r':Str}(h:x=x'):qD [36,123] (c::x::r)=qD [36,123] (c::x'::r'):=by
 subst h;simp[qD,List.isPrefixOf]
theorem LV:∀(N:Nat) (r r':Str),r.length<=N->
  (∀d k,gL r d=(k,0)->r'.take k=r.take k->k<=r'.length->gL r' d=(k,0))/\
  (∀d k,kK r d=(k,0)->r'.take k=r.take k->k<=r'.length->kK r' d=(k,0)):=by
 intro N;induction N with
 |zero=>
  intro r r' U;have:r=[]:=bC (by omega);subst this;exact⟨λd k h=>(by rw[qL]at h;cases h),λd k h=>(by rw[Fg]at h;cases h)⟩
 |succ N ih=>
  intro r r' U;cases r with
  |nil=>exact ih [] r' (by simp)
  |cons c r=>
   simp only[aB]at U;have U:r.length<=N:=by omega
   have sh:∀{k:Nat},1<=k->r'.take k=(c::r).take k->k<=r'.length->∃r2,r'=c::r2/\r2.take (k-1)=r.take (k-1)/\k-1<=r2.length:=λ{k} hk J hl=>by
    cases r' with
    |nil=>simp at hl;omega
    |cons c' r2=>
     obtain⟨j,rfl⟩:∃j,k=j+1:=⟨k-1,by omega⟩;obtain⟨rfl,I⟩:=sD J;exact⟨r2,rfl,I,by simpa using hl⟩
   refine⟨λd k h J hl=>?_,λd k h J hl=>?_⟩
   ·have hk:=((jM _ (c::r) (aV _)).1 d k h).2.1;obtain⟨r2,rfl,I,o⟩:=sh hk J hl;rw[qM]at h⊢;simp only[fV]at h⊢;split at h
    ·rename_i e;rw[aJ e];exact h
    rename_i e;rw[aE e];split at h
    ·cases h
    rename_i e1;rw[aE e1];split at h
    ·rename_i e2;rw[aJ e2];cases r with
     |nil=>cases h
     |cons x rr=>
      simp only at h;split at h
      ·rename_i e3;obtain⟨g1,g2⟩:=mR h;have gk:=((jM _ rr (aV _)).1 d _ g1).2.1;cases r2 with
       |nil=>simp at o;omega
       |cons x' rr'=>
        obtain⟨j,rfl⟩:∃j,k=j+2:=⟨k-2,by omega⟩;rw[show j+2-1=j+1 by omega]at I o;obtain⟨rfl,h3⟩:=sD I;simp only[aJ e3];have:=(ih rr rr' (by simp at U;omega)).1 d j (by simpa using g1) h3 (by simpa using o);rw[this];unfold nK;simp
      ·cases h
    rename_i e2;rw[aE e2];split at h
    ·rename_i e3;split at h
     ·cases h
     rename_i e24;split at h
     ·rename_i e4;obtain⟨g1,g2⟩:=mR h;have gk:=((jM _ _ (aV _)).1 d _ g1).2;have gi:=((jM _ (r.drop 1) (aV _)).2 (d+1) _ (fZ rfl e4)).1;cases r with
      |nil=>simp[qD]at e3
      |cons x rr=>
       cases r2 with
       |nil=>simp at o;omega
       |cons x' rr'=>
        obtain⟨j,rfl⟩:∃j,k=j+2:=⟨k-2,by omega⟩;rw[show j+2-1=j+1 by omega]at I o;obtain⟨rfl,h3⟩:=sD I;simp only[cU,cZ]at g1 gk gi e4⊢;have ho:j<=rr'.length:=by simpa using o
        have hp:qD [36,123] (c::x'::rr')=true:=by rw[JU (r':=rr) rfl];exact e3
        have hc:rr.length<=N:=by simp at U;omega
        have hi:=(ih rr rr' hc).2 (d+1) (kK rr (d+1)).1 (fZ rfl e4) (by have:=nN (j:=0) (m:=(kK rr (d+1)).1) h3 (by omega);simpa using this) (by omega);rw[aJ hp,aE e24,hi];simp only;have J:=(ih (rr.drop (kK rr (d+1)).1) (rr'.drop (kK rr (d+1)).1) (lA _ hc)).1 d _ g1 (nN h3 (by omega)) (by rw[aP];omega);rw[J];unfold nK;simp;omega
     ·rename_i e4;injection h with _ I
      exact absurd I e4
    ·rename_i e3;obtain⟨g1,g2⟩:=mR h;have gk:=((jM _ _ (aV _)).1 d _ g1).2;have hp:¬qD [36,123] (c::r2)=true:=by
      cases r with
      |nil=>rw[qL]at g1;exact absurd (congrArg Prod.snd g1) (by simp)
      |cons x rr=>
       cases r2 with
       |nil=>simp at o;omega
       |cons x' rr'=>
        obtain⟨j,hj⟩:∃j,k-1=j+1:=⟨k-2,by omega⟩;rw[hj]at I;obtain⟨rfl,_⟩:=sD I;rw[JU (r':=rr) rfl];exact e3
     rw[aE hp];have:=(ih r r2 U).1 d (k-1) g1 I o;rw[this];unfold nK;simp;omega
   ·have hk:=((jM _ (c::r) (aV _)).2 d k h).1.1;obtain⟨r2,rfl,I,o⟩:=sh hk J hl;rw[Cs]at h⊢;simp only[fV]at h⊢;split at h
    ·rename_i e;rw[aJ e];exact h
    rename_i e;rw[aE e];split at h
    ·cases h
    rename_i e1;rw[aE e1];split at h
    ·rename_i e2;rw[aJ e2];split at h
     ·cases h
     rename_i e24;rw[aE e24];split at h
     ·rename_i e4;obtain⟨g1,g2⟩:=mR h;have gk:=((jM _ _ (aV _)).2 d _ g1).1;have hi:=(ih r r2 U).2 (d+1) (kK r (d+1)).1 (fZ rfl e4) (by have:=nN (j:=0) (m:=(kK r (d+1)).1) I (by omega);simpa using this) (by omega);rw[hi];simp only[gF];have J:=(ih (r.drop (kK r (d+1)).1) (r2.drop (kK r (d+1)).1) (lA _ U)).2 d _ g1 (nN I (by omega)) (by rw[aP];omega);rw[J];unfold nK;simp;omega
     ·rename_i e4;injection h with _ I
      exact absurd I e4
    rename_i e2;rw[aE e2];split at h
    ·rename_i e3;rw[aJ e3];split at h
     ·rename_i e4;obtain⟨g1,g2⟩:=mR h;have gk:=((jM _ _ (aV _)).2 d _ g1).1;have hi:=(ih r r2 U).1 d (gL r d).1 (fZ rfl e4) (by have:=nN (j:=0) (m:=(gL r d).1) I (by omega);simpa using this) (by omega);rw[hi];simp only[gF];have J:=(ih (r.drop (gL r d).1) (r2.drop (gL r d).1) (lA _ U)).2 d _ g1 (nN I (by omega)) (by rw[aP];omega);rw[J];unfold nK;simp;omega
     ·rename_i e4;injection h with _ I
      exact absurd I e4
    ·rename_i e3;rw[aE e3];obtain⟨g1,g2⟩:=mR h;have:=(ih r r2 U).2 d (k-1) g1 I o;rw[this];unfold nK;simp;omega
def Scd(t:Str):Prop:=∃d,gL (t++[34]) d=(t.length+1,0)
theorem QW{r:Str}{d k:Nat}(h:gL r d=(k,0))(hl:∀b,r[k-1]?=some b->b=34):Scd (r.take (k-1)):=by
 obtain⟨_,h1,I⟩:=(jM _ r (aV _)).1 d k h;obtain⟨j,rfl⟩:∃j,k=j+1:=⟨k-1,by omega⟩;rw[Gn]at hl⊢;have e1:(r.take j).length=j:=by rw[bS];omega
 have o:j<r.length:=by omega
 have e2:r.take j++[34]=r.take (j+1):=by
  have:=hl _ (List.getElem?_eq_getElem o);rw[dG,List.getElem?_eq_getElem o,this];rfl
 refine⟨d,?_⟩;rw[e2,e1];exact(LV _ r (r.take (j+1)) (aV _)).1 d (j+1) h (by rw[Aw,Nat.min_self]) (by rw[bS];omega)
theorem yL:∀(N:Nat) (r:Str) (d k:Nat),r.length<=N->gL r d=(k,0)->r[k-1]?=some 34
 |0,r,d,k,j,h=>by
  have:r=[]:=bC (by omega)
  subst this
  rw[qL]at h;cases h
 |N+1,[],d,k,_,h=>by rw[qL]at h;cases h
 |N+1,c::r,d,k,j,h=>by
  simp only[aB]at j
  have j:r.length<=N:=by omega
  rw[qM]at h
  simp only[fV]at h
  split at h
  ·rename_i e
   injection h with h1 _
   subst h1 e
   rfl
  split at h
  ·cases h
  split at h
  ·cases r with
   |nil=>cases h
   |cons x rr=>
    simp only at h
    split at h
    ·obtain⟨g1,g2⟩:=mR h
     have gk:=((jM _ rr (aV _)).1 d _ g1).2.1
     have:=yL N rr d _ (by simp at j;omega) g1
     rw[show k-1=(k-2-1)+2 by omega]
     exact this
    ·cases h
  split at h
  ·rename_i e3
   split at h
   ·cases h
   split at h
   ·obtain⟨g1,g2⟩:=mR h
    have gk:=((jM _ _ (aV _)).1 d _ g1).2.1
    have:=yL N _ d _ (lA _ (lA 1 j)) g1
    rw[List.getElem?_drop,List.getElem?_drop]at this
    rw[show k-1=1+((kK (r.drop 1) (d+1)).1+(k-((kK (r.drop 1) (d+1)).1+2)-1))+1 by omega]
    exact this
   ·rename_i e4
    injection h with _ o
    exact absurd o e4
  ·obtain⟨g1,g2⟩:=mR h
   have gk:=((jM _ r (aV _)).1 d _ g1).2.1
   have:=yL N r d _ j g1
   rw[show k-1=(k-1-1)+1 by omega]
   exact this
theorem Ik:∀(N:Nat) (t:Str),t.length<=N->Scd t->(insP t=none->sJ t=true)/\∀i e,insP t=some (i,e)->sJ (t.take i)=true/\i+3<=e/\e<=t.length/\Scd (t.drop e)
 |_,[],_,_=>⟨λ_=>rfl,λi e h=>by simp[insP]at h⟩
 |0,_::_,h,_=>by simp at h
 |N+1,[c],_,⟨d,h⟩=>by
  refine⟨λ_=>?_,λi e h=>by simp[insP]at h⟩
  simp only[sJ,bne_iff_ne,bP]
  intro e
  subst e
  simp only[dD,fO]at h
  rw[qM]at h
  simp[Lex.escOk,nK,qL]at h
 |N+1,c::x::r,hN,⟨d,h⟩=>by
  simp only[aB]at hN
  simp only[dD]at h
  rw[qM]at h
  simp only[fV]at h
  split at h
  ·injection h with h1 _
   simp at h1
  split at h
  ·cases h
  simp only[insP,sJ]
  split at h
  ·rename_i e92
   rw[aJ e92,aJ e92]
   split at h
   ·obtain⟨g1,g2⟩:=mR h
    have sr:Scd r:=⟨d,by rw[g1];simp⟩
    obtain⟨i1,i2⟩:=Ik N r (by omega) sr
    refine⟨λhn=>i1 (by cases j:insP r with|none=>rfl|some y=>rw[j]at hn;cases hn),λi e hi=>?_⟩
    cases j:insP r with
    |none=>rw[j]at hi;cases hi
    |some y=>
     rw[j]at hi
     simp only[gK,bF,gE]at hi
     obtain⟨rfl,rfl⟩:=hi
     obtain⟨j1,j2,j3,j4⟩:=i2 _ _ j
     refine⟨?_,by omega,by simp only[aB];omega,by rw[show y.2+2=y.2+1+1 by omega,cU,cU];exact j4⟩
     rw[show y.1+2=y.1+1+1 by omega,qC,qC]
     simp only[sJ]
     rw[aJ e92]
     exact j1
   ·cases h
  rename_i e92
  rw[aE e92,aE e92]
  split at h
  ·rename_i e3
   have I:c=36/\x=123:=by
    simp[qD,List.isPrefixOf]at e3;exact⟨e3.1.symm,e3.2.symm⟩
   rw[aJ I];refine⟨λhn=>(by cases hn),λi e hi=>?_⟩;simp only[bF,gE]at hi;obtain⟨rfl,rfl⟩:=hi;split at h
   ·cases h
   split at h
   ·rename_i e4;simp only[cU,cZ]at h e4;obtain⟨k1,e5⟩:∃k1,kK (r++[34]) (d+1)=(k1,0):=⟨_,fZ rfl e4⟩;simp only[e5]at h;obtain⟨g1,g2⟩:=mR h;have gk:=((jM _ _ (aV _)).1 d _ g1).2;have gi:=((jM _ (r++[34]) (aV _)).2 (d+1) _ e5).1;simp only[aB]at g1 gk g2;have o:k1<=r.length:=by omega
    have J:=(LV _ (r++[34]) r (aV _)).2 (d+1) _ e5 (by rw[qX o]) o;have hb:=((jM _ r (aV _)).2 (d+1) _ J).2 1 (by omega);rw[aJ rfl]at hb;have eb:Ls (x::r)=1+k1:=by
     show qV (x::r) 0=_;rw[pH,aJ I.2,show(0:Int)+1=1 from rfl,hb]
    rw[eb];refine⟨rfl,by omega,by simp only[aB];omega,?_⟩;rw[show 1+(1+k1)=k1+1+1 by omega,cU,cU];refine⟨d,?_⟩;rw[<-CQ o,g1,aP];simp only[gE,lP];omega
   ·rename_i e4;injection h with _ U
    exact absurd U e4
  ·rename_i e3;have I:¬(c=36/\x=123):=λe=>e3 (by simp[qD,List.isPrefixOf,e.1,e.2]);rw[aE I];obtain⟨g1,g2⟩:=mR h;have sr:Scd (x::r):=⟨d,by simp only[dD];rw[g1];simp⟩;obtain⟨i1,i2⟩:=Ik N (x::r) (by simp only[aB];omega) sr;refine⟨λhn=>i1 (by cases j:insP (x::r)with|none=>rfl|some y=>rw[j]at hn;cases hn),λi e hi=>?_⟩;cases j:insP (x::r)with
   |none=>rw[j]at hi;cases hi
   |some y=>
    rw[j]at hi;simp only[gK,bF,gE]at hi;obtain⟨rfl,rfl⟩:=hi;obtain⟨j1,j2,j3,j4⟩:=i2 _ _ j;refine⟨?_,by omega,by simp only[aB]at j3⊢;omega,by rw[cU];exact j4⟩;rw[qC];exact PT e92 j1
def Gk(t:Str):Prop:=noD t=true\/Scd t
theorem LQ{t:Str}(h:Gk t):(insP t=none->sJ t=true)/\∀i e,insP t=some (i,e)->sJ (t.take i)=true/\i+3<=e/\e<=t.length/\Gk (t.drop e):=by
 rcases h with h|h
 ·exact⟨λ_=>EG _ t (aV _) h,λi e hi=>by rw[DI _ t (aV _) h]at hi;cases hi⟩
 ·obtain⟨h1,j⟩:=Ik _ t (aV _) h;exact⟨h1,λi e hi=>by obtain⟨a,b,c,d⟩:=j i e hi;exact⟨a,b,c,.inr d⟩⟩
def TS(l:List Tok):Prop:=∀t∈l,t.k=3->Gk t.t/\t.t.length<=100000
theorem wM:∀s:Str,(kU s).length<=2*s.length
 |[]=>aV _
 |c::r=>by
  have:=wM r
  simp only[kU]
  split
  ·simp only[aB];omega
  split
  ·simp only[aB];omega
  split
  ·simp only[aB];omega
  ·simp only[aB];omega
theorem Hn:∀(n:Nat) (name s:Str),(mV n name s).1.length<=2*s.length
 |0,_,_=>by simp[mV]
 |n+1,name,s=>by
  have I:=rN (λb=>b !=10) s
  simp only[mV]
  split
  ·simp
  split
  ·simp
  rename_i j
  split
  ·have h1:=Hn n name (s.drop (eS (λb=>b !=10) s+1))
   have o:=wM (s.take (eS (λb=>b !=10) s))
   rw[aP]at h1
   rw[bS]at o
   simp only[aU,aB,aN]
   omega
  ·simp
theorem Kz(s:Str):(iR s).1.length<=2*s.length:=by
 unfold iR;simp only;generalize (if jR ((s.drop 2).headD 0)=true then eS jV (s.drop 2)else 0)=n;split
 ·simp
 split
 ·have h1:=Hn (s.length+1) ((s.drop 2).take n) (s.drop (2+n+1));rw[aP]at h1;split
  ·show(mV (s.length+1) ((s.drop 2).take n) (s.drop (2+n+1))).1.length<=_;omega
  ·simp
 ·simp
theorem aBF{s:Str}{t:Tok}{k:Nat}(h:pR s=(t,k,0))(I:t.k=3):Gk t.t/\t.t.length<=2*s.length:=by
 unfold pR at h;simp only at h;split at h
 ·injection h with h1 _;subst h1;cases I
 split at h
 ·injection h with h1 _;subst h1;cases I
 split at h
 ·injection h with h1 _;subst h1;cases I
 split at h
 ·split at h
  ·rename_i hq o;injection h with h1 _
   subst h1;have J:oY (s.length+1) (s.drop 1) 0=gL (s.drop 1) 0:=uL (by rw[aP];omega);rw[J]at o⊢;refine⟨.inr (QW (d:=0) (fZ rfl o) λb hb=>?_),by simp only[bS,aP];omega⟩;rw[yL _ (s.drop 1) 0 _ (aV _) (fZ rfl o)]at hb;injection hb with hb
   exact hb.symm
  ·rename_i o;injection h with h1 j
   injection j with _ j
   exact absurd j o
 split at h
 ·injection h with h1 j
  injection j with j U
  obtain⟨i1,i2,i3⟩:=Fj (s:=s) (t:=(iR s).1) (k:=(iR s).2.1) (fZ rfl (fZ rfl U));subst h1;exact⟨.inl i3,Kz s⟩
 ·injection h with h1 _;subst h1;cases I
theorem JC:∀(n:Nat) (s:Str) (a cnt:Nat) (l:List Tok),s.length<=16384->nQ n s a cnt=.ok l->TS l
 |0,_,_,_,_,_,h=>by simp[nQ]at h
 |n+1,s,a,cnt,l,hl,h=>by
  simp only[nQ]at h
  split at h
  ·cases h
  split at h
  ·injection h with h
   subst h
   intro t j o
   simp only[bK]at j
   subst j
   cases o
  split at h
  ·cases h
  rename_i U
  split at h
  ·cases h
  split at h
  ·rename_i l' J
   injection h with h
   subst h
   intro t j o
   rcases bM.1 j with rfl|j
   ·have h1:=aBF (t:=(pR (s.drop (fW (s.length+1) s).1)).1) (k:=(pR (s.drop (fW (s.length+1) s).1)).2.1) (fZ rfl (fZ rfl (tC.1 U))) o
    rw[aP]at h1
    exact⟨h1.1,by simp only;omega⟩
   ·exact JC n _ _ _ _ (by rw[aP,aP];omega) J t j o
  ·rename_i I
   exact absurd h (I l)
theorem Ns{s:Str}{l:List Tok}(h:rC s=.ok l):TS l:=by
 unfold rC at h;split at h
 ·cases h
 rename_i hl;split at h
 ·cases h
 exact JC _ _ _ _ _ (by omega) h
theorem GF:∀(n:Nat) (s:Str) (a cnt:Nat) (l:List Tok),cnt<=4096->nQ n s a cnt=.ok l->cnt+l.length<=4097
 |0,_,_,_,_,_,h=>by simp[nQ]at h
 |n+1,s,a,cnt,l,I,h=>by
  simp only[nQ]at h
  split at h
  ·cases h
  split at h
  ·injection h with h
   subst h
   simp only[aB,aN];omega
  split at h
  ·cases h
  split at h
  ·cases h
  rename_i j
  split at h
  ·rename_i l' o
   injection h with h
   subst h
   have:=GF n _ _ _ _ (by omega) o
   simp only[aB];omega
  ·rename_i j
   exact absurd h (j l)
theorem Jz{s:Str}{l:List Tok}(h:rC s=.ok l):l.length<=4097/\s.length<=16384:=by
 unfold rC at h;split at h
 ·cases h
 rename_i hl;split at h
 ·cases h
 have:=GF _ _ _ _ _ (fR _) h;omega
end
end Go.Syn
namespace Go.Proofs.YtghhmpppnmoeoaaGreatDoor
section
open Go Go.Eng Go.RowKit Go.Syn Go.Lex
variable{w:World}{K:Q0}{cs:List Value}{G:Nat->Prop}{T:TypeId}{i:Nat}{n:Nat}{v:Value}{w':World}{P:Program}{c:UInt8}{S:Nat->Prop}
theorem Xz{B b:Nat}{l:Str}(h:Bld w B b l):Lib.IsBuilderF BdT U8 B b (Lib.byteCells l) w:=by
 obtain⟨p,v,h1,J,j,I⟩:=h;have o:w.ownsRow B U8 1 v (u8s l).length (u8s l):=by rw[qJ];exact j
 have:Lib.BuilderAt BdT U8 B b p (u8s l) w:=⟨I,v,h1,o,λe=>Lv h1 (j.block b e)⟩;rcases J with rfl|rfl
 ·exact .inl (Lib.BuilderAtF.of this)
 ·exact .inr (Lib.BuilderAtF.of this)
theorem kD[HX]{g:FuncId}{args caps:List Value}{K:Q0}(h:aC P g (args++caps) w K):pG P (.func (.func g) #[] caps.toArray) args w K:=by
 unfold pG QV;unfold aC at h;have:(do let d<-(Deferred.ofValue (.func (.func g) #[] caps.toArray) args.toArray);invoke d.target d.args:Sem Next)=callFunc g (args++caps).toArray:=by
  show callFunc g (#[]++args.toArray++caps.toArray)=_;simp
 rw[this];exact h
theorem iZ{s:Str}(h:i<s.length):s.drop i=s[i]::s.drop (i+1):=cL h
theorem pre_eq(s:Str):Lib.hasPrefix s [36,123]=qD [36,123] s:=rfl
section
variable [HX]
theorem CN{B b:Nat}{l:Str}{K:Q0}(h:Bld w B b l)(hB:B<=w.heap.size)(j:∀w',Chg (λk=>B<=k) w w'->K (str l) w'):aC P0 64 [.pointer (some ⟨b,0,none⟩)] w K:=by
 refine fX (args:=#[.pointer (some ⟨b,0,none⟩)]) Tryz.call64 ((Tryz.Builder_String_any_k B b l w (Xz h) hB).mono ?_);rintro e w' ⟨rfl,_,hb,_⟩;exact⟨_,rfl,j w' ⟨hb.os,hb.tape,hb.output,hb.size,λk _ hn=>hb.block k (by omega)⟩⟩
theorem AV{s q:Str}{K:Q0}(j:K (.bool (Lib.hasPrefix s q)) w):aC P0 43 [str s,str q] w K:=by
 refine fX (args:=#[str s,str q]) Tryz.call43 ((Tryz.strings_HasPrefix (ofL s) (ofL q) w).mono ?_);rintro e w' ⟨rfl,rfl⟩;rw[eM,eM];exact⟨_,rfl,j⟩
theorem sA{s:Str}{K:Value->Prop}(h:i<s.length)(j:K (.int .u8 (s[i].toNat:Nat))):qE (str s) (i64 (i:Nat)) K:=by
 rw[IJ];exact⟨by omega,s[i],by simpa using List.getElem?_eq_getElem h,j⟩
theorem Gu(c:UInt8)(k:Nat)(j:k<256):decide (((c.toNat:Nat):Int)=(k:Int))=decide (c=UInt8.ofNat k):=by
 rw[decide_eq_decide];constructor
 ·intro h;have h:c.toNat=k:=by omega
  rw[<-h];simp
 ·intro h;subst h;rw[jS];omega
theorem Mb{s:Str}{K:Q0}(he:sJ s=true)(hl:s.length<=1000000)(hK:∀w',Ext w w'->K (str (kS s)) w'):aC P0 80 [str s] w K:=by
 refine aCs ?_;unfold W80;refine aB5 (B:=w.heap.size) (aV _) λb w1 hb xe hv=>?_;have xh:=hv.size;refine cY.go (λst w'=>∃i out,st=[i64 (i:Nat)]/\i<=s.length/\Bld w' w.heap.size b out/\Ext w w'/\out++kS (s.drop i)=kS s/\out.length<=i/\sJ (s.drop i)=true) (λst _=>match st with|[.int _ i]=>s.length-i.toNat|_=>0)
  ⟨0,[],rfl,by omega,xe,hv,rfl,aV _,he⟩ ?_
 rintro st g w2 ⟨i,out,rfl,hi,hz,hg,J,ho,o⟩;have ht:=hg.size;simp only[aG];rw[gC,dU,aO];have fin:∀{w3:World} {l:Str} {j:Nat} (c:UInt8),Chg (BCh w2 w.heap.size b) w2 w3->Bld w3 w.heap.size b (out++[c])->i<=j->j<s.length->(out++[c])++kS (s.drop (j+1))=kS s->sJ (s.drop (j+1))=true->
   (∃i' out',[i64 ((j+1:Nat))]=[i64 (i':Nat)]/\i'<=s.length/\Bld w3 w.heap.size b out'/\Ext w w3/\out'++kS (s.drop i')=kS s/\out'.length<=i'/\sJ (s.drop i')=true)/\s.length-((j+1:Nat):Int).toNat<s.length-((i:Nat):Int).toNat:=λ{w3 l j} c hc xd hx hj hq hh=>by
  refine⟨⟨j+1,out++[c],rfl,by omega,xd,BCh.new hg (aV _) (by omega) hc,hq,by simp;omega,hh⟩,?_⟩;simp only[aW];omega
 refine⟨λU=>?_,λxi=>?_⟩
 ·have U:i<s.length:=by omega
  refine sA U ?_;have hd:=iZ U;have xj:=o;rw[hd]at o J;refine bU.cut (λst w'=>w'=w2/\∃(j:Nat) (c:UInt8),st=[i64 (j:Nat),.int .u8 (c.toNat:Nat)]/\i<=j/\j<s.length/\(out++[c])++kS (s.drop (j+1))=kS s/\sJ (s.drop (j+1))=true) ?_ ?_
  ·rw[bO,aO];refine⟨λe=>?_,λe=>?_⟩
   ·have ec:s[i]=92:=kO.1 (by have e:(s[i].toNat:Int)=92:=e;show s[i].toNat=92;omega);have I:i+1<s.length:=by
     by_cases h2:i+1<s.length
     ·exact h2
     ·rw[fH (by omega),ec]at o;simp[sJ]at o
    have xa:=iZ I;rw[xa,ec]at o J;simp only[sJ,gF]at o;simp only[kS,gF]at J;rw[cI,upi (by omega)];refine sA I ?_;rw[bO,aO];refine⟨λe1=>?_,λe1=>?_⟩
    ·have e1:s[i+1]=110:=kO.1 (by have e:(s[i+1].toNat:Int)=110:=e1;show s[i+1].toNat=110;omega);rw[aJ e1]at J;exact⟨rfl,i+1,10,rfl,by omega,I,by rw[<-J];simp,o⟩
    have e1':s[i+1]≠110:=λh=>e1 (by rw[h];rfl);rw[bO,aO];rw[aE e1']at J;refine⟨λe2=>?_,λe2=>?_⟩
    ·have e2:s[i+1]=116:=kO.1 (by have e:(s[i+1].toNat:Int)=116:=e2;show s[i+1].toNat=116;omega);rw[aJ e2]at J;exact⟨rfl,i+1,9,rfl,by omega,I,by rw[<-J];simp,o⟩
    have e2':s[i+1]≠116:=λh=>e2 (by rw[h];rfl);rw[bO,aO];rw[aE e2']at J;refine⟨λe3=>?_,λe3=>?_⟩
    ·have e3:s[i+1]=114:=kO.1 (by have e:(s[i+1].toNat:Int)=114:=e3;show s[i+1].toNat=114;omega);rw[aJ e3]at J;exact⟨rfl,i+1,13,rfl,by omega,I,by rw[<-J];simp,o⟩
    have e3':s[i+1]≠114:=λh=>e3 (by rw[h];rfl);rw[aE e3']at J;exact⟨rfl,i+1,s[i+1],rfl,by omega,I,by rw[<-J];simp,o⟩
   ·have ec:s[i]≠92:=λh=>e (by rw[h];rfl);refine⟨rfl,i,s[i],rfl,aV _,U,?_,?_⟩
    ·rw[<-J];cases hr:s.drop (i+1)with
     |nil=>simp only[kS];rw[aE ec];simp
     |cons x r=>simp only[kS];rw[aE ec];simp
    ·cases hr:s.drop (i+1)with
     |nil=>rfl
     |cons x r=>rw[hr]at o;simp only[sJ]at o;rw[aE ec]at o;exact o
  rintro st g2 w3 ⟨rfl,j,c,rfl,hx,hj,hq,hh⟩;simp only[aG,cS];refine DC (n:=c.toNat) hz ht (by omega) (uD c) λw4 hy xb=>?_;rw[cI,upi (by omega)];rw[sZ]at hy;exact fin (l:=[]) c xb hy hx hj hq hh
 ·obtain rfl:i=s.length:=by omega
  rw[eJ]at J;simp only[kS,eG]at J;subst J;refine CN hz ht λw3 xc=>?_;exact hK w3 (hg.then xc λk hk e=>by omega)
end
theorem gA(s:Str)(i j:Nat):(s.drop i).drop j=s.drop (i+j):=gY
section
variable [HX]
def aDn(n:Nat):Prop:=∀(s:Str) (w:World) (K:Q0),s.length<=n->s.length<=1000000->K (i64 (qV s 0:Nat)) w->aC P0 112 [str s] w K
def Zy(n:Nat):Prop:=∀(c:UInt8) (r:Str) (w:World) (K:Q0),r.length<n->r.length<=1000000->K (i64 ((1+tI r:Nat):Int)) w->aC P0 150 [str (c::r)] w K
theorem Lq(U:Zy n):aDn n:=by
 intro s w K hn hl J;refine Zn ?_;unfold aFu;refine cY.go (λst w'=>∃(d:Int) (i:Nat),st=[i64 d,i64 (i:Nat)]/\i<=s.length/\w'=w/\i+qV (s.drop i) d=qV s 0/\-(i:Int)<=d/\d<=i) (λst _=>match st with|[_,.int _ i]=>s.length-i.toNat|_=>0) ⟨0,0,rfl,by omega,rfl,by simp,by omega,by omega⟩ ?_;rintro st g w2 ⟨d,i,rfl,hi,rfl,hb,hr,ho⟩;simp only[aG,cS];rw[gC,dU,aO];refine⟨λo=>?_,λhh=>?_⟩
 ·have o:i<s.length:=by omega
  have hd:=iZ o;rw[hd,pH]at hb;have cond:∀(k:Nat),k<256->(((s[i].toNat:Nat):Int)=(k:Int)↔s[i]=UInt8.ofNat k):=λk hk=>by
   have:=Gu s[i] k hk;rwa[decide_eq_decide]at this
  refine bU.cut (λst w'=>w'=w2/\∃(d':Int) (j:Nat),st=[i64 d',i64 (j:Nat)]/\i<=j/\j<s.length/\j+1+qV (s.drop (j+1)) d'=qV s 0/\-((j+1:Nat):Int)<=d'/\d'<=((j+1:Nat):Int)) ?_ ?_
  ·refine sA o ?_;rw[bO,aO];refine⟨λe=>?_,λe=>?_⟩
   ·have e:s[i]=123:=(cond 123 (by omega)).1 e;rw[aJ e]at hb;rw[cI,cN (by omega) (by omega)];exact⟨rfl,d+1,i,rfl,aV _,o,by omega,by omega,by omega⟩
   have e:¬s[i]=123:=λh=>e ((cond 123 (by omega)).2 h);rw[aE e]at hb;rw[bO,aO];refine⟨λe=>?_,λe=>?_⟩
   ·have e:s[i]=125:=(cond 125 (by omega)).1 e;rw[aJ e]at hb;rw[kW,cN (by omega) (by omega),bO,aO];refine⟨λh0=>?_,λh0=>?_⟩
    ·rw[aJ h0]at hb;rw[cI,upi (by omega),hb];exact J
    ·rw[aE h0]at hb;exact⟨rfl,d-1,i,rfl,aV _,o,by omega,by omega,by omega⟩
   have e:¬s[i]=125:=λh=>e ((cond 125 (by omega)).2 h);rw[aE e]at hb;rw[bO,aO];refine⟨λe=>?_,λe=>?_⟩
   ·have e:s[i]=34:=(cond 34 (by omega)).1 e;rw[aJ e]at hb;rw[gB,fM,eR];refine⟨by omega,by omega,?_⟩;rw[bR,aW,hd];refine U _ _ _ _ (by rw[aP];omega) (by rw[aP];omega) ?_;have I:=(aAd _ (s.drop (i+1)) (aV _)).2;rw[aP]at I;rw[kW,cN (by omega) (by omega),cI,cN (by omega) (by omega)];rw[gA]at hb;refine⟨rfl,d,i+tI (s.drop (i+1)),?_,by omega,?_,?_,by omega,by omega⟩
    ·simp only[dX,Value.int.injEq,dV,lP];omega
    ·omega
    ·rw[show i+tI (s.drop (i+1))+1=i+1+tI (s.drop (i+1))by omega];omega
   have e:¬s[i]=34:=λh=>e ((cond 34 (by omega)).2 h);rw[aE e]at hb;exact⟨rfl,d,i,rfl,aV _,o,by omega,by omega,by omega⟩
  rintro st g2 w3 ⟨rfl,d',j,rfl,hg,hj,hs,h1,h2⟩;simp only[aG,cS];rw[cI,upi (by omega)];refine⟨⟨d',j+1,rfl,by omega,trivial,by omega,by omega,by omega⟩,?_⟩;simp only[aW];omega
 ·obtain rfl:i=s.length:=by omega
  rw[eJ,Tt]at hb;rw[<-hb]at J;exact J
theorem Rh(hh:aDn n):Zy (n+1):=by
 intro c r w K hn hl hK;refine YN ?_;unfold aE7;have o:(c::r).length=r.length+1:=rfl;refine cY.go (λst w'=>∃(i:Nat),st=[i64 ((i+1:Nat):Int)]/\w'=w/\((i<=r.length/\i+tI (r.drop i)=tI r)\/(i=r.length+1/\tI r=r.length))) (λst _=>match st with|[.int _ i]=>r.length+2-i.toNat|_=>0) ⟨0,rfl,rfl,.inl ⟨by omega,by simp⟩⟩ ?_;rintro st g w2 ⟨i,rfl,rfl,hc⟩;simp only[aG,cS];rw[gC,dU,aO,o];refine⟨λJ=>?_,λhv=>?_⟩
 ·have J:i<r.length:=by omega
  obtain⟨hi,hb⟩:=hc.resolve_right (by omega);have hd:=iZ J;rw[hd,Ch]at hb;have cond:∀(k:Nat),k<256->(((r[i].toNat:Nat):Int)=(k:Int)↔r[i]=UInt8.ofNat k):=λk hk=>by
   have:=Gu r[i] k hk;rwa[decide_eq_decide]at this
  have ix:∀{KK:Value->Prop},KK (.int .u8 (r[i].toNat:Nat))->qE (str (c::r)) (i64 ((i+1:Nat):Int)) KK:=λh=>sA (s:=c::r) (i:=i+1) (by rw[o];omega) h;refine bU.cut (λst w'=>w'=w2/\∃(j:Nat),st=[i64 ((j+1:Nat):Int)]/\i<=j/\((j+1<=r.length/\j+1+tI (r.drop (j+1))=tI r)\/(j+1=r.length+1/\tI r=r.length))) ?_ ?_
  ·refine ix ?_;rw[bO,aO];refine⟨λe=>?_,λe=>?_⟩
   ·have e:r[i]=34:=(cond 34 (by omega)).1 e;rw[aJ e]at hb;rw[cI,upi (by omega)];rw[<-hb,show 1+(i+1)=i+1+1 by omega]at hK;exact hK
   have e:¬r[i]=34:=λh=>e ((cond 34 (by omega)).2 h);rw[aE e]at hb;refine ix ?_;rw[bO,aO];refine⟨λe=>?_,λe=>?_⟩
   ·have e:r[i]=92:=(cond 92 (by omega)).1 e;rw[aJ e]at hb;rw[cI,upi (by omega)];refine⟨rfl,i+1,rfl,by omega,?_⟩;cases I:r.drop (i+1)with
    |nil=>
     rw[I]at hb;have U:r.length<=i+1:=by
      have:=congrArg List.length I;rw[aP,aN]at this;omega
     simp only at hb;exact .inr ⟨by omega,by omega⟩
    |cons x rr=>
     rw[I]at hb;simp only at hb;have e2:r.drop (i+1+1)=rr:=by rw[<-gA,I];rfl
     have e3:=congrArg List.length I;rw[aP,aB]at e3;exact .inl ⟨by omega,by rw[e2];omega⟩
   have e:¬r[i]=92:=λh=>e ((cond 92 (by omega)).2 h);rw[aE e]at hb;rw[gB,fM,eR];refine⟨by omega,by rw[o];omega,?_⟩;rw[bR,aW,cU,hd];refine AV ?_;rw[pre_eq,bY];refine⟨λe=>?_,λe=>?_⟩
   ·rw[aJ e]at hb;rw[cI,upi (by omega),gB,fM,eR];refine⟨by omega,by rw[o];omega,?_⟩;rw[bR,aW,cU];refine hh _ _ _ (by rw[aP];omega) (by rw[aP];omega) ?_;have U:=IY (r.drop (i+1)) 0;rw[aP]at U;rw[cI,cN (by omega) (by omega)];rw[gA]at hb;refine⟨rfl,i+qV (r.drop (i+1)) 0,?_,by omega,.inl ⟨by omega,?_⟩⟩
    ·simp only[dX,Value.int.injEq,dV,lP];omega
    ·rw[show i+qV (r.drop (i+1)) 0+1=i+1+qV (r.drop (i+1)) 0 by omega];omega
   ·rw[aE (by rw[e];decide)]at hb;exact⟨rfl,i,rfl,aV _,.inl ⟨by omega,by omega⟩⟩
  rintro st g2 w3 ⟨rfl,j,rfl,ht,hj⟩;simp only[aG,cS];rw[cI,upi (by omega)];refine⟨⟨j+1,rfl,trivial,hj⟩,?_⟩;simp only[aW];omega
 ·have hq:tI r=r.length:=by
   rcases hc with⟨hi,hb⟩|h
   ·rw[fH (by omega),Ri]at hb;omega
   ·exact h.2
  rw[hq,show 1+r.length=r.length+1 by omega]at hK;exact hK
theorem Ol:∀n,aDn n/\Zy n
 |0=>have j:Zy 0:=λ_ _ _ _ h=>by omega
  ⟨Lq j,j⟩
 |n+1=>have j:=Rh (Ol n).1
  ⟨Lq j,j⟩
theorem Ts{s:Str}{K:Q0}(hl:s.length<=1000000)(j:K (i64 (Ls s:Nat)) w):aC P0 112 [str s] w K:=(Ol s.length).1 s w K (aV _) hl j
def Ct(s:Str):List Value:=match Syn.insP s with|some (i,e)=>[i64 (i:Nat),i64 (e:Nat)]|none=>[i64 (-1),i64 0]
theorem PC(c:UInt8)(r:Str):Syn.insP (c::r)=if c=92 then(Syn.insP (r.drop 1)).map (λx=>(x.1+2,x.2+2))else if qD [36,123] (c::r)=true then some (0,1+Ls r)else(Syn.insP r).map λx=>(x.1+1,x.2+1):=by
 cases r with
 |nil=>
  simp only[Syn.insP,List.drop_nil,Option.map_none];split
  ·rfl
  ·simp[qD,List.isPrefixOf]
 |cons e r=>
  simp only[Syn.insP,cU,cZ];split
  ·rfl
  ·have:(c=36/\e=123)↔qD [36,123] (c::e::r)=true:=by
    simp[qD,List.isPrefixOf];exact⟨λh=>⟨h.1.symm,h.2.symm⟩,λh=>⟨h.1.symm,h.2.symm⟩⟩
   by_cases h:c=36/\e=123
   ·rw[aJ h,aJ (this.1 h)]
   ·rw[aE h,aE (λx=>h (this.2 x))]
theorem zB{s:Str}{K:Q0}(hl:s.length<=1000000)(I:K (.tuple (Ct s).toArray) w):aC P0 79 [str s] w K:=by
 refine aCt ?_;unfold W79;refine cY.go (λst w'=>∃(i:Nat),st=[i64 (i:Nat)]/\w'=w/\Syn.insP s=(Syn.insP (s.drop i)).map λx=>(x.1+i,x.2+i)) (λst _=>match st with|[.int _ i]=>s.length+1-i.toNat|_=>0) ⟨0,rfl,rfl,by rw[cZ];cases Syn.insP s<;>rfl⟩ ?_;rintro st g w2 ⟨i,rfl,rfl,hb⟩;simp only[aG];rw[gC,dU,aO];unfold Ct at I;refine⟨λo=>?_,λhh=>?_⟩
 ·have o:i<s.length:=by omega
  have hd:=iZ o;rw[hd,PC]at hb;have cond:∀(k:Nat),k<256->(((s[i].toNat:Nat):Int)=(k:Int)↔s[i]=UInt8.ofNat k):=λk hk=>by
   have:=Gu s[i] k hk;rwa[decide_eq_decide]at this
  refine bU.cut (λst w'=>w'=w2/\∃(j:Nat),st=[i64 (j:Nat)]/\i<=j/\j<=i+1/\Syn.insP s=(Syn.insP (s.drop (j+1))).map λx=>(x.1+(j+1),x.2+(j+1))) ?_ ?_
  ·refine sA o ?_;rw[bO,aO];refine⟨λe=>?_,λe=>?_⟩
   ·have e:s[i]=92:=(cond 92 (by omega)).1 e;rw[aJ e,gA]at hb;rw[cI,upi (by omega)];refine⟨rfl,i+1,rfl,by omega,by omega,?_⟩;rw[hb,Option.map_map];congr 1;funext x;simp only[Function.comp,gE];omega
   have e:¬s[i]=92:=λh=>e ((cond 92 (by omega)).2 h);rw[aE e]at hb;rw[gB,fM,eR];refine⟨by omega,by omega,?_⟩;rw[bR,aW,hd];refine AV ?_;rw[pre_eq,bY];refine⟨λe=>?_,λe=>?_⟩
   ·rw[aJ e]at hb;rw[cI,upi (by omega),cI,upi (by omega),gB,fM,eR];refine⟨by omega,by omega,?_⟩;rw[bR,aW];refine Ts (by rw[aP];omega) ?_;have J:=IY (s.drop (i+1)) 0;have eb:Ls (s.drop (i+1))=qV (s.drop (i+1)) 0:=rfl;rw[aP]at J;rw[cI,cN (by omega) (by omega)];rw[hb]at I;simp only[gK]at I;have e1:((0+i:Nat):Int)=(i:Int):=by omega
    have e2:((1+Ls (s.drop (i+1))+i:Nat):Int)=((i+1:Nat):Int)+(Ls (s.drop (i+1)):Nat):=by omega
    rw[e1,e2]at I;exact I
   ·rw[aE (by rw[e];decide)]at hb;refine⟨rfl,i,rfl,by omega,by omega,?_⟩;rw[hb,Option.map_map];congr 1;funext x;simp only[Function.comp,gE];omega
  rintro st g2 w3 ⟨rfl,j,rfl,hg,hj,U⟩;simp only[aG];rw[cI,upi (by omega)];refine⟨⟨j+1,rfl,trivial,U⟩,?_⟩;simp only[aW];omega
 ·rw[fH (by omega)]at hb;rw[hb]at I;exact I
end
def yR:List Str:=[[124,124],[38,38],[61,61],[33,61],[60],[62],[60,61],[62,61],[43],[45],[42],[47],[37]]
def DL(x:Int):Int:=if x=0 then 27 else if x=101 then 26 else if x=202 then 20 else if x=203 then 21 else if x=304 then 22 else if x=305 then 23 else if x=306 then 24 else if x=307 then 25 else if x=408 then 15 else if x=409 then 16 else if x=510 then 17 else if x=511 then 18 else if x=512 then 19 else 0
theorem RZ:∀k:Fin 13,∀n:Fin 6,DL ((n.val:Int)*100+(k.val:Int))=Ku n.val (yR[k.val]'k.isLt):=by decide+kernel
theorem Ce(x:Str):∀(l:List Str) (i:Nat),(∃k,l[k]?=some x/\rY l x i=((i+k:Nat):Int))\/(x∉l/\rY l x i=-1)
 |[],i=>.inr ⟨by simp,rfl⟩
 |a::r,i=>by
  simp only[rY]
  split
  ·rename_i h
   exact .inl ⟨0,by simp[h],rfl⟩
  ·rename_i h
   rcases Ce x r (i+1)with⟨k,h1,j⟩|⟨h1,j⟩
   ·exact .inl ⟨k+1,by simpa using h1,by rw[j];omega⟩
   ·exact .inr ⟨by simp[h,h1],j⟩
theorem Se{x:Str}(h:x∉yR):Ku n x=0:=by
 simp only[yR,bM,eA,mO,not_or]at h;obtain⟨h1,h2,h3,h4,h5,h6,h7,h8,U,J,I,o,j⟩:=h;unfold Ku;simp only[aE h1,aE h2,aE h3,aE h4,aE h5,aE h6,aE h7,aE h8,aE U,aE J,aE I,aE o,aE j,ite_self]
theorem MA(hn:n<=5)(x:Str):DL ((n:Int)*100+rY yR x 0)=Ku n x:=by
 rcases Ce x yR 0 with⟨k,h1,j⟩|⟨h1,j⟩
 ·have o:k<13:=(List.getElem?_eq_some_iff.1 h1).1;have:=RZ ⟨k,o⟩ ⟨n,by omega⟩;rw[j,aX,this];congr 1;exact(List.getElem?_eq_some_iff.1 h1).2
 ·rw[j,Se h1];have:∀m:Fin 6,DL ((m.val:Int)*100+-1)=0:=by decide+kernel
  exact this ⟨n,by omega⟩
section
variable [HX]
theorem Wz{x:Str}{K:Q0}(j:K (i64 (yW x)) w):aC P0 259 [str x] w K:=by
 refine XR ?_;unfold aEt;unfold yW at j;rw[sL,aO];refine⟨λh=>by rw[aJ h]at j;exact j,λh=>?_⟩;rw[aE h]at j;rw[sL,aO];refine⟨λh=>by rw[aJ h]at j;exact j,λh=>?_⟩;rw[aE h]at j;rw[sL,aO];refine⟨λh=>by rw[aJ h]at j;exact j,λh=>?_⟩;rw[aE h]at j;exact j
theorem Ur{K:Q0}(h:∀v w',SlAt w' T v n cs->Ext w w'->K v w')(hn:cs.length=n):K (.slice (some ⟨w.heap.size,0,none⟩) n n) (w.alloc (.cells cs.toArray T)):=
 row_new λa w' I o hb j _=>h _ w' (Bn hb hn) j
theorem OP{K:Q0}(j:∀v w',SlAt w' StT v 13 (strs yR)->Ext w w'->K v w'):
  dN StT 13 (List.replicate 13 (.string (ofL []))) [(0,1,(.string (ofL [124,124]))),(1,1,(.string (ofL [38,38]))),(2,1,(.string (ofL [61,61]))),(3,1,(.string (ofL [33,61]))),(4,1,(.string (ofL [60]))),(5,1,(.string (ofL [62]))),(6,1,(.string (ofL [60,61]))),(7,1,(.string (ofL [62,61]))),(8,1,(.string (ofL [43]))),(9,1,(.string (ofL [45]))),(10,1,(.string (ofL [42]))),(11,1,(.string (ofL [47]))),(12,1,(.string (ofL [37])))] w K:=by
 rw[dN];simp only[List.replicate,eY,cW,aB,aN,aY,bB,Nat.reduceAdd,Nat.reduceLT,dV,aA];exact Ur j rfl
theorem WN{t:Tok}{K:Q0}(hn:n<=5)(U:∀w',Ext w w'->K (i64 (xI t n)) w'):aC P0 152 [.agg (fS t).toArray,i64 (n:Nat)] w K:=by
 refine YL ?_;unfold aE5;refine fY (z:=fS t) λb w1 hb hi J o=>?_;unfold xI at U;have ldc:∀{w':World} {off:Nat} {v:Value} {KK:Value->Prop},w'.heap[b]?=some (.cells (fS t).toArray TkT (0,0))->(fS t)[off]?=some v->KK v->aZ off (.pointer (some ⟨b,0,none⟩)) λx=>ldW false 1 x w' KK:=λh hv hk=>by
  rw[bT,bW,aX,dY];exact⟨_,by rw[cG,h,cJ];simpa using hv,hk⟩
 refine ldc J rfl ?_;rw[gD,aO];refine⟨λh=>?_,λh=>?_⟩
 ·rw[aE h]at U;exact U w1 o
 have h:t.k=4:=by omega
 rw[aJ h,<-MA hn]at U;rw[Jc,cN (by omega) (by omega)];refine OP λv w2 hv j=>?_;refine ldc (j.at J id) rfl ?_;refine NM (l:=yR) hv (by decide) ?_;have hr:-1<=rY yR t.t 0/\rY yR t.t 0<=12:=by
  rcases Ce t.t yR 0 with⟨k,h1,h2⟩|⟨h1,h2⟩
  ·have hk:k<13:=(List.getElem?_eq_some_iff.1 h1).1;rw[h2];omega
  ·rw[h2];omega
 rw[cI,cN (by omega) (by omega)];generalize (n:Int)*100+rY yR t.t 0=x at*
 have I:=U w2 (o.trans j);unfold DL at I;have step:∀{k r e:Int} {A B:Prop},((if x=k then r else e)=r->A)->(¬x=k->B)->aS (.bool (decide (x=k))) A B:=λh1 h2=>by
  rw[aO];exact⟨λe=>h1 (aJ e),h2⟩
 iterate 13
  rw[bO,aO];refine⟨λe=>by rw[aJ e]at I;exact I,λe=>?_⟩;rw[aE e]at I
 exact I
theorem sS{b:Nat}(h:w.heap[b]?=some (.cells cs.toArray T (0,0)))(hn:0<n:=by omega):SlAt w T (.slice (some ⟨b,0,none⟩) n n) n cs:=
 ⟨_,_,rfl,aV _,λe=>(by cases e),λ_=>⟨b,0,cs.toArray,_,rfl,h,λi _=>by simp⟩⟩
section
variable{w0 w:World}{p f:Nat}{M:Lay}{vt:Value}{s:PS}{top:List Nat}{N:Int}{K:Q0}
theorem Nz{t:Tok}(h:PR w0 w p f M vt s top)(hx:Gk t.t)(hl:t.t.length<=1000000)(U:∀l s',qO s t=.ok l s'->∀w',Ext w w'->K (str l) w')(ht:∀c a,qO s t=.err c a->Thr w0 f c a):
  aC P0 47 [.pointer (some ⟨p,0,none⟩),.agg (fS t).toArray] w K:=by
 refine aCQ ?_;unfold W47;refine fY (z:=fS t) λb w1 hb o J j=>?_;have h1:=h.ext j;have L1:=h.loc o hb J;unfold qO at U ht;refine bU.cut (λ_ w'=>w'=w1/\(Syn.insP t.t).isSome=false) ?_ ?_
 ·refine L1.ldf rfl ?_;refine zB hl ?_;rw[bL];unfold Ct;cases hi:Syn.insP t.t with
  |none=>
   refine⟨i64 (-1),rfl,?_⟩;rw[bL];refine⟨i64 0,rfl,?_⟩;rw[mX,aO];exact⟨λe=>by omega,λ_=>⟨rfl,rfl⟩⟩
  |some x=>
   refine⟨i64 (x.1:Nat),rfl,?_⟩;rw[bL];refine⟨i64 (x.2:Nat),rfl,?_⟩;rw[mX,aO];refine⟨λ_=>?_,λe=>by omega⟩;refine L1.ldf rfl ?_;exact qU h1 (ht _ _ (by rw[hi];rfl))
 rintro st g w2 ⟨rfl,hi⟩;rw[aE (by rw[hi];decide)]at U;refine L1.ldf rfl ?_;refine Mb ((LQ hx).1 (by cases hr:Syn.insP t.t with|none=>rfl|some x=>rw[hr]at hi;cases hi)) hl λw3 I=>?_;exact U _ _ rfl w3 (j.trans I)
theorem Mz{s:PS}(h:(cur s).k=5):gM (step1 (bE s))=gM s:=by
 have ht:(bE s).toks=s.toks:=by unfold bE;split<;>rfl
 have o:(mN (bE s)).k=5:=h;have J:(bE s).i<(bE s).toks.length:=by
  by_cases hl:(bE s).i<(bE s).toks.length
  ·exact hl
  ·unfold mN at o;rw[List.getD_eq_getElem?_getD,List.getElem?_eq_none (by omega)]at o;cases o
 have U:(bE s).toks[(bE s).i]?=some (mN (bE s)):=by unfold mN;rw[List.getD_eq_getElem?_getD,List.getElem?_eq_getElem J];rfl
 have e:=uX U;rw[aJ o]at e;have j:s.quiet=false:=by
  by_cases j:s.quiet=true
  ·exfalso;have e2:bE (bE s)=bE s:=gV s;have I:(bE s).quiet=true:=by unfold bE;split<;>exact j
   have e3:(bE (bE s)).i=(bE s).i+iJ ((bE s).toks.drop (bE s).i):=by
    rw[bE,aJ I]
   rw[e2]at e3;omega
  ·simpa using j
 have n1:∀s:PS,s.quiet=false->bE s=s:=λs h=>by unfold bE;rw[h];rfl
 have h1:=n1 s j;rw[h1]at e⊢;have h2:=n1 (step1 s) j;unfold gM;rw[h1,h2];show({s with i:=s.i+1+iJ (s.toks.drop (s.i+1))}:PS)={s with i:=s.i+iJ (s.toks.drop s.i)};rw[e];congr 1;omega
theorem My{N:Int}{s:PS}(j:WS N s)(h:(cur s).k≠5):gM s=bE s:=by
 have hn:=(gI j).ws j;have e:=uX (yK hn);have o:(mN (bE s)).k≠5:=h;rw[aE o,(gI j).toks]at e;unfold gM;rw[e];rfl
theorem Ac(h:PR w0 w p f M vt s top)(hs:WS N s)(hN:N<=1000000)(hl:s.toks.length<=100000)(hK:∀w',PR w0 w' p f M vt (gM s) top->Eff p f M M w w'->K (.tuple #[]) w'):
  aC P0 28 [.pointer (some ⟨p,0,none⟩)] w K:=by
 refine aC1 ?_;unfold W28;refine cY.go (λst w'=>st=[]/\∃s1,PR w0 w' p f M vt s1 top/\WS N s1/\s1.toks=s.toks/\gM s1=gM s/\Eff p f M M w w') (λ_ w'=>s.toks.length-AP w' p) ⟨rfl,s,h,hs,rfl,rfl,Eff.refl _ _ _ _⟩ ?_;rintro st g w2 ⟨rfl,s1,h2,j,et,el,J⟩;refine nR h2 j hN (by rw[et];exact hl) λw3 h3 I=>?_;refine⟨i64 (cur s1).k,rfl,?_⟩;dsimp only;rw[bO,aO];have hg:=gI j;have hc:=hg.ws j;refine⟨λU=>?_,λU=>?_⟩
 ·have hh:(cur s1).k≠0:=by rw[U];decide
  have o:=jU j hh;refine h3.go (wsi hc (by rw[hg.toks,et];exact hl)) λw4 h4 hi ht=>?_;refine⟨⟨rfl,_,h4,o.1.ws j,o.1.toks.trans et,(Mz U).trans el,(J.trans I).trans hi⟩,?_⟩;rw[h4.at_,h2.at_];have:=o.2;have h5:=o.1.lt;rw[o.1.toks,et]at h5;omega
 ·rw[My j U]at el;rw[el]at h3;exact hK w3 h3 (J.trans I)
theorem pL{a:Int}{q:Bool}{fv:Value}(h:PR w0 w p f M vt s top)(hd:s.deep<=24)(j:s.deep=24->Thr w0 f 7 a)
  (hf:s.deep≠24->∀w1,PR w0 w1 p f M vt {s with deep:=s.deep+1,quiet:=q} top->Eff p f M M w w1->pG P0 fv [] w1 λ_ w2=>∃M2 s2,PR w0 w2 p f M2 vt s2 top/\s2.deep=s.deep+1/\
    ∀w3,PR w0 w3 p f M2 vt {s2 with deep:=s.deep,quiet:=s.quiet} top->Eff p f M2 M2 w2 w3->K (.tuple #[]) w3):
  aC P0 50 [.pointer (some ⟨p,0,none⟩),i64 a,.bool q,fv] w K:=by
 refine aCN ?_;unfold W50;refine bU.cut (λ_ w'=>w'=w/\s.deep≠24) ?_ ?_
 ·refine h.ld rfl ?_;rw[bO,aO];refine⟨λe=>?_,λe=>⟨rfl,λh=>e (by rw[h];rfl)⟩⟩;exact qU h (j (by omega))
 rintro st g w1 ⟨rfl,o⟩;refine h.ld rfl ?_;refine h.ld rfl ?_;rw[cI,upi (by omega)];refine h.st_deep λw2 h2 hg hq=>?_;refine h2.st_quiet (q:=q) λw3 h3 U ho=>?_;have hc:=hf o w3 h3 (hg.trans U);refine Res.mono ?_ hc;rintro v w4 ⟨M2,s2,h4,e4,hk⟩;refine h4.ld rfl ?_;rw[kW,cN (by omega) (by omega)];have e:((s2.deep:Nat):Int)-1=((s.deep:Nat):Int):=by omega
 rw[e];refine h4.st_deep λw5 h5 J hj=>?_;refine h5.st_quiet (q:=s.quiet) λw6 h6 I hi=>?_;exact hk w6 h6 (J.trans I)
theorem Mk{M0:Lay}{wb:World}{e:Ex}{d:List Value}(h:PR w0 w p f M vt s top)(he:Eff p f M0 M wb w)(hd:ExR w w0.heap.size e d)(hu:∀k∈ub d,Off w0 w p f M vt k)(hn:(ub d).Nodup)(hh:∀k∈ub d,wb.heap.size<=k)(xi:s.ex.length<=1000000)
  (hK:∀M' w',PR w0 w' p f M' vt {s with ex:=s.ex++[e]} top->Eff p f M0 M' wb w'->(∀b T cs,Loc w0 w p f M vt b T cs->b∉ub d->Loc w0 w' p f M' vt b T cs)->K (i64 (s.ex.length:Nat)) w'):
  aC P0 117 [.pointer (some ⟨p,0,none⟩),.agg d.toArray] w K:=by
 refine Zj ?_;unfold aFq;have I:d.length=5:=by obtain⟨va,vk,rfl,_⟩:=hd;rfl
 have xc:∀u∈d,fC u=true:=by
  obtain⟨va,vk,rfl,h1,j⟩:=hd;obtain⟨_,_,rfl,_⟩:=h1.sl.shape;obtain⟨_,_,rfl,_⟩:=j.sl.shape;intro u hu;simp only[bM,eA,mO]at hu;rcases hu with rfl|rfl|rfl|rfl|rfl<;>rfl
 refine fY (z:=d) λb w1 hb hq xf hg=>?_;have h1:=(h.ext hg).drew;have hc:Ext w w1.drew:=hg.trans (dE _);have L1:=(h.loc hq hb xf).drew;have ldF:∀{w':World},w'.heap[p]?=some (.cells [vt,i64 (s.i:Nat),i64 s.off,.pointer (some ⟨f,0,none⟩),i64 (s.deep:Nat),.bool s.quiet].toArray PsT (0,0))->ldW false 1 (.pointer (some ((⟨p,0,none⟩:Addr).add 3))) w' λx=>x=.pointer (some ⟨f,0,none⟩):=by
  intro w' h;rw[dY];exact⟨_,by rw[bW,cG,h,cJ];rfl,rfl⟩
 have ldE:∀{w':World} {v:Value} {r:List Value},w'.heap[f]?=some (.cells (v::r).toArray FlT (0,0))->w'.cell? ((⟨f,0,none⟩:Addr).add 0)=some v:=by
  intro w' v r h;rw[bW,cG,h,cJ];rfl
 have use:∀k,M.vE.ownBlock=some k->k∈M.uses f:=λk hk=>aR _ (lD (v:=M.vE) (by simp) hk);have nE:¬M.vE.ownBlock=some p:=λe=>h.np (use p e);have nF:¬M.vE.ownBlock=some f:=λe=>by
  have hi:=h.fr.nd;rw[LO,jP]at hi;exact hi.1 (eZ _ (gW.2 e))
 have pf:p≠f:=λe=>h.np (e▸bA);have cF:∀{w':World},w'.heap[p]?=some (.cells [vt,i64 (s.i:Nat),i64 s.off,.pointer (some ⟨f,0,none⟩),i64 (s.deep:Nat),.bool s.quiet].toArray PsT (0,0))->w'.cell? ((⟨p,0,none⟩:Addr).add 3)=some (.pointer (some ⟨f,0,none⟩)):=by
  intro w' h;rw[bW,cG,h,cJ];rfl
 rw[eD,bT,dY];refine⟨_,cF h1.ps,?_⟩;rw[eD,bT,dY];refine⟨_,cF h1.ps,?_⟩;rw[eD,bT,dY];refine⟨_,ldE h1.fr.hf,?_⟩;refine bZ L1.1 I ?_;refine BU I rfl λr w2 hr xk ht U=>?_;have j:=h1.ext U;refine⟨by rw[dY];exact⟨_,ldE j.fr.hf,rfl⟩,ldF j.ps,ldF j.ps,?_⟩;have o:Ext w w2:=hc.trans U;have xe:Chg (λk=>M.vE.ownBlock=some k) w w2:=Chg.of_ext o;refine iF aD2 j.fr.oE (sS (n:=1) (T:=ExT) (cs:=d) ht) (by rw[I]) xc (by omega) (by omega) j.base λv' w3 hj J hs=>?_;have hv:=J.at j.ps nE;have xa:=J.at j.fr.hf nF;refine⟨ldF hv,?_⟩;rw[eD,bT,bW,aX];obtain⟨vp,vc,ev,_⟩:=hj.sl.shape;refine iO xa (by rw[ev];rfl) (by simp) λw4 xj hz xd=>?_;have xh:=o.size;obtain⟨h4,xb,hx⟩:=h.putE (w1:=w3) (w2:=w4) (v':=v') he hd hu hn hh hj (xe.trans J) (λk hk=>(hs k hk).imp id λe=>by omega) xd (by rw[hz];simp);rw[eD,bT,dY];refine⟨_,cF h4.ps,?_⟩;rw[eD,bT,dY];refine⟨_,ldE h4.fr.hf,?_⟩;dsimp only;rw[ev,xJ,kW,cN (by omega) (by omega)];have e1:((s.ex.length+1:Nat):Int)-1=(s.ex.length:Nat):=by omega
 rw[e1];exact hK _ w4 h4 xb hx
end
end
structure Gd(N:Int)(s:PS)(dl:Nat):Prop where
 ws:WS N s
 hN:N<=1000000
 few:s.toks.length<=4097
 ts:TS s.toks
 phi:phi s<=100000
 lev:s.deep+dl=24
theorem Gd.l{N:Int}{s:PS}{dl:Nat}(h:Gd N s dl):s.toks.length<=100000:=by have:=h.few;omega
theorem Gd.go{N:Int}{s s':PS}{dl:Nat}(h:Gd N s dl)(j:Go1 N s s')(hp:Syn.phi s'<=Syn.phi s):Gd N s' dl:=
 ⟨j.ws h.ws,h.hN,by rw[j.toks];exact h.few,by rw[j.toks];exact h.ts,cC hp h.phi,by rw[j.deep];exact h.lev⟩
theorem Gd.frame{N:Int}{s:PS}{dl:Nat}(h:Gd N s (dl+1))(q:Bool):Gd N {s with deep:=s.deep+1,quiet:=q} dl:=⟨yH h.ws _ _,h.hN,h.few,h.ts,h.phi,by have:=h.lev;show s.deep+1+dl=24;omega⟩
theorem Gd.back{N:Int}{s s':PS}{dl:Nat}{q:Bool}(h:Gd N s (dl+1))(j:Gd N s' dl):Gd N {s' with deep:=s.deep,quiet:=q} (dl+1):=⟨yH j.ws _ _,h.hN,j.few,j.ts,j.phi,h.lev⟩
theorem Gd.now{N:Int}{s:PS}{dl:Nat}(h:Gd N s dl):Gd N (bE s) dl:=h.go (gI h.ws) (kF s)
theorem Gd.take{N:Int}{s:PS}{dl:Nat}(h:Gd N s dl)(w:Str):Gd N (bX s w).2 dl:=h.go (jT h.ws w).1 (lJ s w).1
theorem Gd.lines{N:Int}{s:PS}{dl:Nat}(h:Gd N s dl):Gd N (gM s) dl:=h.go (nG h.ws).1 (wF s)
theorem Gd.next{N:Int}{s:PS}{dl:Nat}(h:Gd N s dl):Gd N (jE s) dl:=h.go (sF h.ws).1 (wE s).1
theorem Gd.step{N:Int}{s:PS}{dl:Nat}(h:Gd N s dl)(j:(cur s).k≠0):Gd N (step1 (bE s)) dl:=h.go (jU h.ws j).1 (by have:=(pQ j).2;omega)
theorem Gd.want{N:Int}{s s':PS}{dl:Nat}(h:Gd N s dl){w:Str}(e:oX s w=.ok () s'):Gd N s' dl/\s.i<s'.i/\s'.ex=s.ex/\s'.bl=s.bl:=by
 have h1:=kQ h.ws w;have j:=lI s w;rw[e]at h1 j;obtain⟨g,x,b⟩:=h1;exact⟨h.go g.1 (by have j:Syn.phi s'+1<=Syn.phi s:=j;omega),g.2,x,b⟩
theorem Gd.kind{N:Int}{s s':PS}{dl:Nat}{t:Tok}{k:Int}(h:Gd N s dl)(j:k≠0)(e:mH s k=.ok t s'):Gd N s' dl/\s.i<s'.i/\s'.ex=s.ex/\s'.bl=s.bl/\t=cur s/\t.k=k:=by
 have h1:=mG h.ws k j;have o:=oC s k;rw[e]at h1 o;obtain⟨g,x,b,I,j⟩:=h1;exact⟨h.go g.1 o.1,g.2,x,b,I,j⟩
theorem Gd.ex{N:Int}{s:PS}{dl:Nat}(h:Gd N s dl):s.ex.length<=100000/\s.bl.length<=100000:=by have:=aBD s;have:=h.phi;omega
structure rW(F:PS->R Nat):Prop where
 ok:∀N,EOk N F
 z:EZ F
theorem Gd.e{N:Int}{s s':PS}{dl x:Nat}{F:PS->R Nat}(h:Gd N s dl)(j:rW F)(e:F s=.ok x s'):Gd N s' dl/\s.i<s'.i:=by
 have h1:=j.ok N s h.ws;have o:=j.z s;rw[e]at h1 o;exact⟨h.go h1.1.1 o,h1.1.2⟩
theorem Gd.at0{N:Int}{s:PS}{dl:Nat}(h:Gd N s dl):0<=(cur s).a/\(cur s).a<=1000000:=by have:=kH h.ws;have:=h.hN;omega
section
variable [HX]
def zN(w0:World)(f:Nat):Prop:=∀(w:World) (K:Q0) (s:Str),Chg (Of f) w0 w->s.length<=1000000->
 (∀l,rC s=.ok l->∀v w',Ext w w'->SlAt w' TkT v l.length (toks l)->(∀k,v.ownBlock=some k->w.heap.size<=k/\k<w'.heap.size)->K (.tuple #[v,.pointer none]) w')->
 (∀c a,rC s=.bad c a->∀d w',Ext w w'->w.heap.size<=d->w'.heap[d]?=some (.cells [i64 c,str [],i64 a].toArray 53 (0,0))->K (.tuple #[.slice none 0 0,.pointer (some ⟨d,0,none⟩)]) w')->
 aC P0 26 [str s] w K
def EC(w0:World)(f:Nat)(g:FuncId)(F:PS->R Nat)(dl:Nat):Prop:=∀(w:World) (p:Nat) (M:Lay) (vt:Value) (s:PS) (top:List Nat) (N:Int) (K:Q0),PR w0 w p f M vt s top->Gd N s dl->
 (∀x s',F s=.ok x s'->∀M' w',PR w0 w' p f M' vt s' top->Eff p f M M' w w'->K (i64 (x:Nat)) w')->(∀c a,F s=.err c a->Thr w0 f c a)->aC P0 g [.pointer (some ⟨p,0,none⟩)] w K
structure Ro(w0 w:World)(p f:Nat)(M:Lay)(vt:Value)(wb:Nat)(T:TypeId)(m:Nat)(v:Value)(n:Nat)(xs:List Value):Prop where
 own:Own w w0.heap.size T m v n xs
 off:∀k,v.ownBlock=some k->Off w0 w p f M vt k
 new:∀k,v.ownBlock=some k->wb<=k
section
variable{w0 w w' w1:World}{p f b:Nat}{M M':Lay}{vt:Value}{s:PS}{top:List Nat}{N:Int}{K:Q0}{wb:Nat}{T:TypeId}{m:Nat}{v:Value}{n:Nat}{xs:List Value}
theorem Ro.nil(T:TypeId)(m:Nat):Ro w0 w p f M vt wb T m (.slice none 0 0) 0 []:=⟨⟨by simp,.inl ⟨rfl,rfl⟩⟩,λk j=>by simp[Value.ownBlock]at j,λk j=>by simp[Value.ownBlock]at j⟩
theorem Ro.eff(h:Ro w0 w p f M vt wb T m v n xs)(j:Eff p f M M' w w'):Ro w0 w' p f M' vt wb T m v n xs:=⟨j.own h.own h.off,λk o=>(h.off k o).eff j,h.new⟩
theorem Ro.ext(h:Ro w0 w p f M vt wb T m v n xs)(j:Ext w w'):Ro w0 w' p f M vt wb T m v n xs:=h.eff (Eff.ext j)
theorem Ro.one(h:Ro w0 w p f M vt wb T m v n xs)(o:Chg (One b) w w')(hb:v.ownBlock≠some b):Ro w0 w' p f M vt wb T m v n xs:=
 ⟨jO h.own o λk j e=>hb (by have e:k=b:=e;rw[j,e]),λk j=>(h.off k j).up o.size,h.new⟩
theorem Ro.row{u:Value}(h:Ro w0 w p f M vt wb T m v n xs)(o:Chg (λk=>u.ownBlock=some k) w w')(hb:∀k,v.ownBlock=some k->u.ownBlock≠some k):Ro w0 w' p f M vt wb T m v n xs:=
 ⟨jO h.own o λk j e=>hb k j e,λk j=>(h.off k j).up o.size,h.new⟩
theorem Loc.row{u:Value}(h:Loc w0 w p f M vt b T cs)(j:Chg (λk=>u.ownBlock=some k) w w')(hb:u.ownBlock≠some b):Loc w0 w' p f M vt b T cs:=⟨j.at h.1 hb,h.2.up j.size⟩
theorem PR.row{u:Value}(h:PR w0 w p f M vt s top)(o:Chg (λk=>u.ownBlock=some k) w w')(hb:∀k,u.ownBlock=some k->Off w0 w p f M vt k):PR w0 w' p f M vt s top:=
 h.keep o (λk j e=>by have:=(hb k e).1.1;omega) (λk j e=>(hb k e).2.2.1 j) (λe=>(hb p e).2.1 rfl) λk j e=>(hb k e).2.2.2 j
theorem Ro.app{t:TypeId}{bytes:Nat}{r:Nat}{news:List Value}{ty:TypeId}(hT:rI P0 t T m bytes)(o:Ro w0 w p f M vt wb T m v n xs)(hp:PR w0 w p f M vt s top)(hr:w.heap[r]?=some (.cells news.toArray T (0,0)))(hl:news.length=m)(h1:∀u∈news,fC u=true)(hn:n<=1000000)(U:bytes<=1000)(hi:wb<=w.heap.size)
  (hK:∀v' w',Ro w0 w' p f M vt wb T m v' (n+1) (xs++news)->Chg (λk=>v.ownBlock=some k) w w'->(∀k,v'.ownBlock=some k->v.ownBlock=some k\/w.heap.size<=k)->PR w0 w' p f M vt s top->K v' w'):
  dF P0 (Builtin.append_ #[t,t] ty #[v,.slice (some ⟨r,0,none⟩) 1 1]) w K:=by
 have hb:=hp.base;have hg:(n+1)*bytes<=140737488355328:=cC (lQ (show n+1<=1000001 by omega) U) (by decide);refine iF hT o.own (sS (n:=1) hr) (by rw[hl];omega) h1 (by omega) hg hb λv' w' hO J I=>?_;refine hK v' w' ⟨hO,λk j=>?_,λk j=>?_⟩ J I (hp.row J o.off)
 ·rcases I k j with e|e
  ·exact(o.off k e).up J.size
  ·exact hp.off_new e (rP hO j).1
 ·rcases I k j with e|e
  ·exact o.new k e
  ·omega
theorem PR.inner{q:Nat}{q':PS}(h:PR w0 w p f M vt s top)(I:Ext w w1)(hq:PR w0 w' q f M' v q' top)(U:Eff q f M M' w1 w')(J:w.heap.size<=q):
  PR w0 w' p f M' vt {s with ex:=q'.ex,bl:=q'.bl} top/\Eff p f M M' w w':=by
 have j:Eff p f M M' w w':=Eff.anew I U J;have hz:=I.size;have h1:=h.ext I;refine⟨⟨hq.ch,hq.fr,?_,?_,λe=>?_,h.lo,λk o=>⟨λe=>?_,(h.nt k o).2.1,cR (h.nt k o).2.2 j.chg.size⟩⟩,j⟩
 ·exact U.chg.at h1.ps λe=>by
   rcases LR e with e|e
   ·have:=h.lt;omega
   ·exact h.np e
 ·exact zS h1.tk U.chg λk o e=>by
   rcases LR e with e|e
   ·have:=(h.nt k o).2.2;omega
   ·exact(h.nt k o).1 e
 ·exact(j.us p e).elim h.np λe=>by have:=h.lt;omega
 ·exact(j.us k e).elim (h.nt k o).1 λe=>by have:=(h.nt k o).2.2;omega
theorem WY{E:PS->R Nat}{dl:Nat}{t:Str}{a:Int}(hS:zN w0 f)(hE:EC w0 f 82 E dl)(hF:rW E)(h:PR w0 w p f M vt s top)(hg:Gd N s dl)(h0:0<=a)(h1:a+t.length<=N)(hh:Syn.phi s+t.length<=100000)
  (J:∀x s',pU E s t a=.ok x s'->∀M' w',PR w0 w' p f M' vt s' top->Eff p f M M' w w'->K (i64 (x:Nat)) w')(I:∀c a',pU E s t a=.err c a'->Thr w0 f c a'):
  aC P0 279 [.pointer (some ⟨p,0,none⟩),str t,i64 a] w K:=by
 refine XI ?_;unfold aEk;have hN:=hg.hN;refine hS w _ t h.ch (by omega) (λl hl v w1 j hv hs=>?_) (λc b hb d w1 j hd ho=>?_)
 ·rw[bL];refine⟨v,rfl,?_⟩;rw[bL];refine⟨.pointer none,rfl,?_⟩;refine bU.cut (λ_ w'=>w'=w1) ?_ ?_
  ·show aS (.bool false) _ _;rw[cP]
  rintro st g w2 rfl;have h2:=(h.ext j).drew;have hr:=j.trans (dE w2);refine h2.ld rfl ?_;refine h2.ld rfl ?_;obtain⟨q,cap,ev,_⟩:=hv.shape;subst ev;simp only[gU,dI,Iu,cW,aB,aN,aY,bB,Nat.reduceAdd,Nat.reduceLT,dV,aA];refine fY (z:=[.slice q l.length cap,i64 0,i64 a,.pointer (some ⟨f,0,none⟩),i64 (s.deep:Nat),.bool false]) λqb w3 hq xg hx o=>?_;have U:=hr.trans o;have h3:=h2.ext o;have z2:w2.drew.heap.size=w2.heap.size:=rfl;have xh:=j.size;have hy:PR w0 w3 qb f M (.slice q l.length cap) ⟨l,0,a,s.deep,false,s.ex,s.bl⟩ top:=
   ⟨h3.ch,h3.fr,hx,hv.ext ((dE w2).trans o),λe=>by have:=h.fr.lt _ e;omega,by have:=h.base;omega,λk hk=>by
    have hb:=hs k hk;exact⟨λe=>by have:=h.fr.lt _ e;omega,by omega,by omega⟩⟩
  have hc:=Im hl h0 h1;have hw:=Il hl;have hi:Gd N ⟨l,0,a,s.deep,false,s.ex,s.bl⟩ dl:=⟨⟨hc,dQ.2 hc.ne,hg.ws.pN⟩,hN,(Jz hl).1,Ns hl,by
   unfold Syn.phi at hh⊢;simp only[cZ];omega,hg.lev⟩
  unfold pU at J I;simp only[hl]at J I;refine hE w3 qb M _ _ top N _ hy hi (λx q1 e1 M' w4 h4 xc=>?_) λc a' e1=>I c a' (by rw[e1];rfl);rw[e1]at J I;simp only[R.bind]at J I;obtain⟨hj,_⟩:=hi.e hF e1;refine yZ h4 hj.ws hN hj.l (λt' q2 e2 w5 h5 xb=>?_) λc a' e2=>I c a' (by rw[e2]);rw[e2]at J;obtain⟨h6,xa⟩:=h.inner U h5 (xc.trans xb) (by omega);exact J x _ rfl M' w5 h6 xa
 ·rw[bL];refine⟨.slice none 0 0,rfl,?_⟩;rw[bL];refine⟨.pointer (some ⟨d,0,none⟩),rfl,?_⟩;refine bU.cut (λ_ _=>False) ?_ (λ_ _ _ h=>h.elim);show aS (.bool true) _ _;rw[dS,eD,bT,dY];refine⟨i64 c,by rw[bW,cG,heap_drew,ho,cJ];rfl,?_⟩;rw[eD,bT,dY];refine⟨i64 b,by rw[bW,cG,heap_drew,ho,cJ];rfl,?_⟩;have xi:=JA hb;rw[cI,cN (by omega) (by omega)];refine qU (h.ext j).drew (I _ _ ?_);unfold pU;rw[hb]
end
end
def lN(rest:Str):Nat×Nat:=match Syn.insP rest with|some x=>x|none=>(rest.length,rest.length)
def xE(s:PS)(rest:Str)(a:Int):PS:=if 0<(lN rest).1 then{s with ex:=s.ex++[⟨5,kS (rest.take (lN rest).1),[],[],a⟩]}else s
theorem Kb{E:PS->R Nat}{s:PS}{rest:Str}{a:Int}{av:List Nat}{ks:List Str}(o:rest≠[])(hn:rest.length<n+1):
  nT E (n+1) s rest a av ks=
   (if(lN rest).1<(lN rest).2 then(within (xE s rest a) (a+(lN rest).1) false λq=>pU E q ((rest.drop ((lN rest).1+2)).take ((lN rest).2-1-((lN rest).1+2))) (a+(lN rest).1+2)).bind λx s2=>
     nT E n s2 (rest.drop (lN rest).2) (a+(lN rest).2) ((if 0<(lN rest).1 then av++[s.ex.length]else av)++[x]) ((if 0<(lN rest).1 then ks++[[116]]else ks)++[[101]])
   else nT E n (xE s rest a) (rest.drop (lN rest).2) (a+(lN rest).2) (if 0<(lN rest).1 then av++[s.ex.length]else av) (if 0<(lN rest).1 then ks++[[116]]else ks)):=by
 simp only[nT];rw[aE o];have j:0<rest.length:=dQ.2 o;unfold lN xE lN;cases hi:Syn.insP rest with
 |none=>
  simp only;rw[aE (Nat.lt_irrefl _),aJ j,aJ j,aJ j,eJ,bR];obtain⟨m,rfl⟩:∃m,n=m+1:=⟨n-1,by omega⟩;simp only[nT,gF]
 |some x=>rfl
theorem WX{rest:Str}(j:Gk rest):(lN rest).1<=rest.length/\(lN rest).2<=rest.length/\sJ (rest.take (lN rest).1)=true/\Gk (rest.drop (lN rest).2)/\((lN rest).1<(lN rest).2->(lN rest).1+3<=(lN rest).2)/\(rest≠[]->0<(lN rest).2)/\(lN rest).1<=(lN rest).2:=by
 obtain⟨h1,o⟩:=LQ j;unfold lN;cases hi:Syn.insP rest with
 |none=>
  simp only;exact⟨aV _,aV _,by rw[bR];exact h1 hi,by rw[eJ];exact .inl rfl,λe=>absurd e (Nat.lt_irrefl _),λh=>dQ.2 h,aV _⟩
 |some x=>
  obtain⟨a,b,c,d⟩:=o x.1 x.2 hi;simp only;exact⟨by omega,c,a,d,λ_=>b,λ_=>by omega,by omega⟩
section
variable [HX]
variable{w0 w w' w1:World}{p f b:Nat}{M M':Lay}{vt:Value}{s:PS}{top:List Nat}{N:Int}{K:Q0}
abbrev PpT:TypeId:=67
structure TL(w0 w:World)(p f:Nat)(M:Lay)(vt:Value)(B1 b2 b7 b8 b9:Nat)(ta:Int)(rest:Str)(a:Int)(va vk:Value)(av:List Nat)(ks:List Str):Prop where
 l2:Loc w0 w p f M vt b2 PpT [.pointer (some ⟨p,0,none⟩)]
 l7:Loc w0 w p f M vt b7 ExT [i64 6,str [],va,vk,i64 ta]
 l8:Loc w0 w p f M vt b8 StT [str rest]
 l9:Loc w0 w p f M vt b9 jD [i64 a]
 rA:Ro w0 w p f M vt B1 jD 1 va av.length (ints av)
 rK:Ro w0 w p f M vt B1 StT 1 vk ks.length (strs ks)
 dd:∀k,va.ownBlock=some k->vk.ownBlock≠some k
 lt:b2<B1/\b7<B1/\b8<B1/\b9<B1/\B1<=w.heap.size
 ne:b2≠b7/\b2≠b8/\b2≠b9/\b7≠b8/\b7≠b9/\b8≠b9
section
variable{B1 b2 b7 b8 b9:Nat}{ta:Int}{rest:Str}{a:Int}{va vk:Value}{av:List Nat}{ks:List Str}
theorem TL.eff(h:TL w0 w p f M vt B1 b2 b7 b8 b9 ta rest a va vk av ks)(j:Eff p f M M' w w'):TL w0 w' p f M' vt B1 b2 b7 b8 b9 ta rest a va vk av ks:=
 ⟨h.l2.eff j,h.l7.eff j,h.l8.eff j,h.l9.eff j,h.rA.eff j,h.rK.eff j,h.dd,⟨h.lt.1,h.lt.2.1,h.lt.2.2.1,h.lt.2.2.2.1,cC h.lt.2.2.2.2 j.chg.size⟩,h.ne⟩
theorem TL.ext(h:TL w0 w p f M vt B1 b2 b7 b8 b9 ta rest a va vk av ks)(j:Ext w w'):TL w0 w' p f M vt B1 b2 b7 b8 b9 ta rest a va vk av ks:=h.eff (Eff.ext j)
theorem TL.one(h:TL w0 w p f M vt B1 b2 b7 b8 b9 ta rest a va vk av ks)(j:Chg (One b) w w')(hb:B1<=b)(I:va.ownBlock≠some b)(o:vk.ownBlock≠some b):TL w0 w' p f M vt B1 b2 b7 b8 b9 ta rest a va vk av ks:=by
 obtain⟨q1,q2,q3,q4,q5⟩:=h.lt;exact⟨h.l2.one j (by omega),h.l7.one j (by omega),h.l8.one j (by omega),h.l9.one j (by omega),h.rA.one j I,h.rK.one j o,h.dd,⟨q1,q2,q3,q4,cC q5 j.size⟩,h.ne⟩
theorem TL.noA(h:TL w0 w p f M vt B1 b2 b7 b8 b9 ta rest a va vk av ks){k:Nat}(j:k<B1):va.ownBlock≠some k/\vk.ownBlock≠some k:=
 ⟨λe=>by have:=h.rA.new k e;omega,λe=>by have:=h.rK.new k e;omega⟩
theorem TL.args{w2 w3:World}{va':Value}{x:Nat}(h:TL w0 w p f M vt B1 b2 b7 b8 b9 ta rest a va vk av ks)(J:Ro w0 w2 p f M vt B1 jD 1 va' (av++[x]).length (ints (av++[x])))(o:Chg (λk=>va.ownBlock=some k) w w2)(U:∀k,va'.ownBlock=some k->va.ownBlock=some k\/w.heap.size<=k)
  (j:Chg (One b7) w2 w3)(hb:w3.heap[b7]?=some (.cells [i64 6,str [],va',vk,i64 ta].toArray ExT (0,0))):TL w0 w3 p f M vt B1 b2 b7 b8 b9 ta rest a va' vk (av++[x]) ks:=by
 obtain⟨q1,q2,q3,q4,q5⟩:=h.lt;obtain⟨n1,n2,n3,n4,n5,n6⟩:=h.ne;have z:=j.size;have o7:=((h.l7.row o (h.noA q2).1).2).up z;refine⟨(h.l2.row o (h.noA q1).1).one j n1,⟨hb,o7⟩,(h.l8.row o (h.noA q3).1).one j (tA n4),(h.l9.row o (h.noA q4).1).one j (tA n5),J.one j λe=>by have:=J.new b7 e;omega,
  (h.rK.row o λk I e=>h.dd k e I).one j (h.noA q2).2,λk I=>?_,⟨q1,q2,q3,q4,cC q5 (cC o.size z)⟩,h.ne⟩
 rcases U k I with e|e
 ·exact h.dd k e
 ·intro e';have:=(h.rK.off k e').1.2;omega
theorem TL.keys{w2 w3:World}{vk':Value}{x:Str}(h:TL w0 w p f M vt B1 b2 b7 b8 b9 ta rest a va vk av ks)(J:Ro w0 w2 p f M vt B1 StT 1 vk' (ks++[x]).length (strs (ks++[x])))(o:Chg (λk=>vk.ownBlock=some k) w w2)(U:∀k,vk'.ownBlock=some k->vk.ownBlock=some k\/w.heap.size<=k)
  (j:Chg (One b7) w2 w3)(hb:w3.heap[b7]?=some (.cells [i64 6,str [],va,vk',i64 ta].toArray ExT (0,0))):TL w0 w3 p f M vt B1 b2 b7 b8 b9 ta rest a va vk' av (ks++[x]):=by
 obtain⟨q1,q2,q3,q4,q5⟩:=h.lt;obtain⟨n1,n2,n3,n4,n5,n6⟩:=h.ne;have z:=j.size;have o7:=((h.l7.row o (h.noA q2).2).2).up z;refine⟨(h.l2.row o (h.noA q1).2).one j n1,⟨hb,o7⟩,(h.l8.row o (h.noA q3).2).one j (tA n4),(h.l9.row o (h.noA q4).2).one j (tA n5),(h.rA.row o λk I e=>h.dd k I e).one j (h.noA q2).1,
  J.one j λe=>by have:=J.new b7 e;omega,λk I e'=>?_,⟨q1,q2,q3,q4,cC q5 (cC o.size z)⟩,h.ne⟩
 rcases U k e' with e|e
 ·exact h.dd k I e
 ·have:=(h.rA.off k I).1.2;omega
theorem TL.appA{x:Nat}{r:Nat}{ty:TypeId}{KW:World->Prop}(h:TL w0 w p f M vt B1 b2 b7 b8 b9 ta rest a va vk av ks)(hp:PR w0 w p f M vt s top)(hr:w.heap[r]?=some (.cells [i64 (x:Nat)].toArray jD (0,0)))(hn:av.length<=1000000)
  (hK:∀va' w',TL w0 w' p f M vt B1 b2 b7 b8 b9 ta rest a va' vk (av++[x]) ks->PR w0 w' p f M vt s top->Chg (λk=>va.ownBlock=some k\/k=b7) w w'->(∀k,va'.ownBlock=some k->va.ownBlock=some k\/w.heap.size<=k)->KW w'):
  dF P0 (Builtin.append_ #[30,30] ty #[va,.slice (some ⟨r,0,none⟩) 1 1]) w λt62 w36=>aZ 2 (.pointer (some ⟨b7,0,none⟩)) λt63=>stW 1 t63 t62 w36 KW:=by
 obtain⟨q1,q2,q3,q4,q5⟩:=h.lt;refine Ro.app CB h.rA hp hr rfl (λu hu=>by simp only[bK]at hu;subst hu;rfl) hn (by decide) q5 λv' w2 J I U o=>?_;have e1:(av++[x]).length=av.length+1:=by simp
 have e2:ints (av++[x])=ints av++[i64 (x:Nat)]:=by simp[ints]
 rw[<-e1,<-e2]at J;rw[bT,bW,aX];obtain⟨vp,vc,ev,_⟩:=J.own.sl.shape;refine(h.l7.row I (h.noA q2).1).st (by rw[ev];rfl) (by simp) λw3 L3 j hh=>?_;exact hK v' w3 (h.args J I U j (by rw[L3.1];rfl)) (o.one j ⟨⟨L3.2.1.1,by have:=L3.2.1.2;omega⟩,L3.2.2⟩) ((I.mono λk _ e=>.inl e).trans (j.mono λk _ e=>.inr e)) U
theorem TL.appK{x:Str}{r:Nat}{ty:TypeId}{KW:World->Prop}(h:TL w0 w p f M vt B1 b2 b7 b8 b9 ta rest a va vk av ks)(hp:PR w0 w p f M vt s top)(hr:w.heap[r]?=some (.cells [str x].toArray StT (0,0)))(hn:ks.length<=1000000)
  (hK:∀vk' w',TL w0 w' p f M vt B1 b2 b7 b8 b9 ta rest a va vk' av (ks++[x])->PR w0 w' p f M vt s top->Chg (λk=>vk.ownBlock=some k\/k=b7) w w'->(∀k,vk'.ownBlock=some k->vk.ownBlock=some k\/w.heap.size<=k)->KW w'):
  dF P0 (Builtin.append_ #[24,24] ty #[vk,.slice (some ⟨r,0,none⟩) 1 1]) w λt62 w36=>aZ 3 (.pointer (some ⟨b7,0,none⟩)) λt63=>stW 1 t63 t62 w36 KW:=by
 obtain⟨q1,q2,q3,q4,q5⟩:=h.lt;refine Ro.app SQ h.rK hp hr rfl (λu hu=>by simp only[bK]at hu;subst hu;rfl) hn (by decide) q5 λv' w2 J I U o=>?_;have e1:(ks++[x]).length=ks.length+1:=by simp
 have e2:strs (ks++[x])=strs ks++[str x]:=by simp[strs]
 rw[<-e1,<-e2]at J;rw[bT,bW,aX];obtain⟨vp,vc,ev,_⟩:=J.own.sl.shape;refine(h.l7.row I (h.noA q2).2).st (by rw[ev];rfl) (by simp) λw3 L3 j hh=>?_;exact hK v' w3 (h.keys J I U j (by rw[L3.1];rfl)) (o.one j ⟨⟨L3.2.1.1,by have:=L3.2.1.2;omega⟩,L3.2.2⟩) ((I.mono λk _ e=>.inl e).trans (j.mono λk _ e=>.inr e)) U
theorem aAj{E:PS->R Nat}{dl e b10 b11:Nat}{M0:Lay}{wb:World}(ho:Eff p f M0 M wb w)(xa:wb.heap.size<=b7)(hz:wb.heap.size<=B1)(hS:zN w0 f)(hE:EC w0 f 82 E dl)(hF:rW E)(h:PR w0 w p f M vt s top)(hg:Gd N s dl)(hT:TL w0 w p f M vt B1 b2 b7 b8 b9 ta rest a va vk av ks)
  (l10:Loc w0 w p f M vt b10 jD [i64 (i:Nat)])(l11:Loc w0 w p f M vt b11 jD [i64 (e:Nat)])(n10:va.ownBlock≠some b10/\vk.ownBlock≠some b10/\b10≠b7)(n11:va.ownBlock≠some b11/\vk.ownBlock≠some b11/\b11≠b7)
  (xc:i+3<=e)(xd:e<=rest.length)(h0:0<=a)(h1:a+rest.length+1<=N)(hh:Syn.phi s+(e-1-(i+2))<=100000)(hn:av.length<=1000000)
  (hK:∀x s',pU E s ((rest.drop (i+2)).take (e-1-(i+2))) (a+i+2)=.ok x s'->∀M' va' w',PR w0 w' p f M' vt s' top->Eff p f M0 M' wb w'->TL w0 w' p f M' vt B1 b2 b7 b8 b9 ta rest a va' vk (av++[x]) ks->
    Loc w0 w' p f M' vt b10 jD [i64 (i:Nat)]->Loc w0 w' p f M' vt b11 jD [i64 (e:Nat)]->(va'.ownBlock≠some b10/\va'.ownBlock≠some b11)->K (.tuple #[]) w')
  (ht:∀c a',pU E s ((rest.drop (i+2)).take (e-1-(i+2))) (a+i+2)=.err c a'->Thr w0 f c a'):
  aC P0 278 [.pointer (some ⟨b7,0,none⟩),.pointer (some ⟨b2,0,none⟩),.pointer (some ⟨b8,0,none⟩),.pointer (some ⟨b10,0,none⟩),.pointer (some ⟨b11,0,none⟩),.pointer (some ⟨b9,0,none⟩)] w K:=by
 refine XJ ?_;unfold aEl;have hN:=hg.hN;have T1:=hT.ext (dE w);have hq:=h.drew;have k10:=l10.drew;have k11:=l11.drew;rw[bT,bW,aX];refine T1.l7.ld rfl ?_;refine T1.l2.ld rfl ?_;refine T1.l8.ld rfl ?_;refine k10.ld rfl ?_;rw[cI,cN (by omega) (by omega)];refine k11.ld rfl ?_;rw[kW,cN (by omega) (by omega),gB,eR];refine⟨by omega,by omega,?_⟩;rw[eR];refine⟨by omega,by omega,?_⟩;refine T1.l9.ld rfl ?_;refine k10.ld rfl ?_;rw[cI,cN (by omega) (by omega),cI,cN (by omega) (by omega)];have et:(rest.take ((e:Int)-1).toNat).drop ((i:Int)+2).toNat=(rest.drop (i+2)).take (e-1-(i+2)):=by
  rw[show((e:Int)-1).toNat=e-1 by omega,show((i:Int)+2).toNat=i+2 by omega,Gq]
 rw[et];have J:((rest.drop (i+2)).take (e-1-(i+2))).length=e-1-(i+2):=by rw[bS,aP];omega
 refine WY hS hE hF hq hg (by omega) (by rw[J];omega) (by rw[J];exact hh) (λx s' hx M' w2 h2 I=>?_) ht;have T2:=T1.eff I;have ld7:∀{w3:World},TL w0 w3 p f M' vt B1 b2 b7 b8 b9 ta rest a va vk av ks->ldW false 1 (.pointer (some ⟨b7,2,none⟩)) w3 λx=>x=va:=λT=>T.l7.ld rfl rfl;refine⟨ld7 T2,?_⟩;refine kE λr w3 hr hv hi j=>?_;have T3:=T2.ext j;refine⟨ld7 T3,?_⟩;refine T3.appA (h2.ext j) hi hn λva' w4 T4 h4 o hc=>?_;have U:=(Eff.ext (dE w)).trans (I.x j);have z3:=U.chg.size;have j10:=(k10.eff I).ext j;have j11:=(k11.eff I).ext j;have b7o:=T3.l7.2;have hj:Eff p f M0 M' wb w4:=(ho.trans U).then o λk hk e=>by
  rcases e with e|e
  ·have:=hT.rA.new k e;omega
  ·omega
 exact hK x s' hx M' va' w4 h4 hj T4 ⟨o.at j10.1 λe=>e.elim n10.1 n10.2.2,j10.2.up o.size⟩ ⟨o.at j11.1 λe=>e.elim n11.1 n11.2.2,j11.2.up o.size⟩ ⟨λe=>(hc _ e).elim n10.1 λe=>by have:=j10.lt;omega,λe=>(hc _ e).elim n11.1 λe=>by have:=j11.lt;omega⟩
end
end
def QL(w:World)(b:Nat):Nat:=match w.heap[b]? with|some (.cells c _ _)=>(match(c[0]?:Option Value)with|some (Value.string t)=>t.size|_=>0)|_=>0
section
variable [HX]
variable{w0 w w' w1:World}{p f b:Nat}{M M':Lay}{vt:Value}{s:PS}{top:List Nat}{N:Int}{K:Q0}
theorem Loc.strat{rest:Str}(h:Loc w0 w p f M vt b StT [str rest]):QL w b=rest.length:=by
 unfold QL;rw[h.1];simp[fT]
theorem tW{K:Q0}(h1:fC v=true)(h:∀a w',a=w.heap.size->w'.heap.size=w.heap.size+1->w'.heap[a]?=some (.cells [v].toArray T (0,0))->Ext w w'->K (.pointer (some ⟨a,0,none⟩)) w'):eW T v w K:=by
 have j:v.cells=#[v]:=by cases v<;>first|rfl|(simp[fC]at h1)
 unfold eW;rw[j];exact h _ _ rfl (by simp) (gN _ _ _ rfl) (Chg.alloc (Chg.refl _ _) _)
theorem Gd.put{N:Int}{s:PS}{dl:Nat}(h:Gd N s dl){e:Ex}(hp:Syn.phi s+1<=100000):Gd N {s with ex:=s.ex++[e]} dl:=⟨⟨h.ws.tg,h.ws.lt,h.ws.pN⟩,h.hN,h.few,h.ts,cC (kZ s e) hp,h.lev⟩
theorem JR{M0:Lay}{wb:World}{l:Str}{a:Int}(h:PR w0 w p f M vt s top)(he:Eff p f M0 M wb w)(I:s.ex.length<=1000000)
  (hK:∀M' w',PR w0 w' p f M' vt {s with ex:=s.ex++[⟨5,l,[],[],a⟩]} top->Eff p f M0 M' wb w'->(∀b T cs,Loc w0 w p f M vt b T cs->Loc w0 w' p f M' vt b T cs)->(∀wb T m v n xs,Ro w0 w p f M vt wb T m v n xs->Ro w0 w' p f M' vt wb T m v n xs)->w.heap.size<=w'.heap.size->K (i64 (s.ex.length:Nat)) w'):
  aC P0 117 [.pointer (some ⟨p,0,none⟩),.agg [i64 5,str l,.slice none 0 0,.slice none 0 0,i64 a].toArray] w K:=by
 have j:ub [i64 5,str l,.slice none 0 0,.slice none 0 0,i64 a]=[]:=rfl;refine Mk (M0:=M) (wb:=w) (e:=⟨5,l,[],[],a⟩) h (Eff.refl _ _ _ _) ⟨.slice none 0 0,.slice none 0 0,rfl,⟨by simp[ints],.inl ⟨rfl,rfl⟩⟩,⟨by simp[strs],.inl ⟨rfl,rfl⟩⟩⟩ (by rw[j];intro k U;cases U) (by rw[j];exact List.nodup_nil) (by rw[j];intro k U;cases U) I λM' w' h' o J=>?_;exact hK M' w' h' (he.trans o) (λb T cs hL=>J b T cs hL (by rw[j];exact eA)) (λwb T m v n xs hR=>hR.eff o) o.chg.size
theorem aAn{E:PS->R Nat}{dl:Nat}{t:Tok}(hS:zN w0 f)(hE:∀d,dl=d+1->EC w0 f 82 E d)(hF:rW E)(h:PR w0 w p f M vt s top)(hg:Gd N s dl)(hx:Gk t.t)(hl:t.t.length<=100000)
  (ha:0<=t.a/\t.a<=N)(zo:Ji N t.a t.t)(zq:Syn.phi s+wt {t with k:=3}<=100000)
  (hK:∀x s',CX E s t=.ok x s'->∀M' w',PR w0 w' p f M' vt s' top->Eff p f M M' w w'->K (i64 (x:Nat)) w')(ht:∀c a',CX E s t=.err c a'->Thr w0 f c a'):
  aC P0 258 [.pointer (some ⟨p,0,none⟩),.agg (fS t).toArray] w K:=by
 refine XS ?_;unfold aEu;have hN:=hg.hN;refine tW rfl λb2 w1 vg um ud zk=>?_;have h1:=h.ext zk;have L1:=h.loc um vg ud;refine fY (z:=fS t) λb3 w2 vf uk uc yt=>?_;have h2:=h1.ext yt;have L12:=L1.ext yt;have L2:=h1.loc uk vf uc;have zx:Eff p f M M w w2:=(Eff.ext zk).x yt;refine L2.ldf rfl ?_;refine zB (by omega) ?_;rw[bL];unfold CX at hK ht;cases hi:Syn.insP t.t with
 |none=>
  have ei:Ct t.t=[i64 (-1),i64 0]:=by unfold Ct;rw[hi]
  rw[ei];refine⟨i64 (-1),rfl,?_⟩;rw[bL];refine⟨i64 0,rfl,?_⟩;rw[dU,aO];refine⟨λ_=>?_,λe=>by omega⟩;rw[hi]at hK ht;simp only[Option.isSome_none,fF,kL]at hK ht;refine L12.drew.ld rfl ?_;refine L2.drew.ldf rfl ?_;rw[bT,bW,aX];refine L2.drew.ld rfl ?_;refine Mb ((LQ hx).1 hi) (by omega) λw3 xa=>?_;have L3:=L2.drew.ext xa;have L13:=L12.drew.ext xa;refine⟨L3.ld rfl rfl,L13.ld rfl rfl,?_⟩;simp only[dI,eY,cW,aB,aN,aY,bB,Nat.reduceAdd,Nat.reduceLT,dV,aA];have h3:=h2.drew.ext xa;refine JR h3 ((zx.x (dE w2)).x xa) (by have:=hg.ex;omega) λM' w4 h4 yx _ _ _=>?_;exact hK _ _ rfl M' w4 h4 yx
 |some ie=>
  have ei:Ct t.t=[i64 (ie.1:Nat),i64 (ie.2:Nat)]:=by unfold Ct;rw[hi]
  rw[ei];refine⟨i64 (ie.1:Nat),rfl,?_⟩;rw[bL];refine⟨i64 (ie.2:Nat),rfl,?_⟩;rw[dU,aO];refine⟨λe=>by omega,λ_=>?_⟩;rw[hi]at hK ht;simp only[Option.isSome_some,gF]at hK ht;have zo:t.a+t.t.length+2<=N:=zo.resolve_left λe=>by rw[e]at hi;cases hi
  have uq:wt {t with k:=3}=t.t.length+2:=by unfold wt;rw[aE (by simp),aJ ⟨rfl,by rw[hi];rfl⟩]
  rw[uq]at zq;refine L2.ldf rfl ?_;simp only[dI,eY,cW,aB,aN,aY,bB,Nat.reduceAdd,Nat.reduceLT,dV,aA];refine bI λb7 w3 ve uj yo xa=>?_;have h3:=h2.ext xa;have L3:=h2.loc uj ve yo;refine cK (l:=[i64 6,str [],.slice none 0 0,.slice none 0 0,i64 t.a]) yo rfl rfl rfl λw4 az ua yf=>?_;have L4:Loc w0 w4 p f M vt b7 ExT [i64 6,str [],.slice none 0 0,.slice none 0 0,i64 t.a]:=⟨ua,L3.2.up (by omega)⟩;have h4:=h3.one yf L3.2;have L14:=(L12.ext xa).one yf (by omega);have L24:=(L2.ext xa).one yf (by omega);have yx:Eff p f M M w w4:=(zx.x xa).one yf (by omega);refine bU.cut (λst w'=>∃b8 b9 B1,st=[.pointer (some ⟨b8,0,none⟩),.pointer (some ⟨b9,0,none⟩)]/\TL w0 w' p f M vt B1 b2 b7 b8 b9 t.a t.t (t.a+1) (.slice none 0 0) (.slice none 0 0) [] []/\PR w0 w' p f M vt s top/\Eff p f M M w w'/\w.heap.size<=B1/\w.heap.size<=b8/\w.heap.size<=b9) ?_ ?_
  ·have L4d:=L4.drew;have L14d:=L14.drew;have L24d:=L24.drew;have h4d:=h4.drew;have he4d:=yx.x (dE w4);have ld1:∀{w':World},Loc w0 w' p f M vt b3 TkT (fS t)->ldW false 1 (.pointer (some ⟨b3,1,none⟩)) w' λx=>x=str t.t:=λL=>L.ld rfl rfl;have ld2:∀{w':World},Loc w0 w' p f M vt b3 TkT (fS t)->ldW false 1 (.pointer (some ⟨b3,2,none⟩)) w' λx=>x=i64 t.a:=λL=>L.ld rfl rfl;rw[bT,bW,aX];refine L24d.ld rfl ?_;rw[bT,bW,aX];refine L24d.ld rfl ?_;rw[cI,cN (by omega) (by omega)];have zd:w4.drew.heap.size=w4.heap.size:=rfl;have fin:∀{w5:World} {b8 b9:Nat},PR w0 w5 p f M vt s top->Eff p f M M w w5->Loc w0 w5 p f M vt b2 PpT [.pointer (some ⟨p,0,none⟩)]->Loc w0 w5 p f M vt b7 ExT [i64 6,str [],.slice none 0 0,.slice none 0 0,i64 t.a]->Loc w0 w5 p f M vt b8 StT [str t.t]->Loc w0 w5 p f M vt b9 jD [i64 (t.a+1)]->w4.heap.size<=b8->w4.heap.size<=b9->b8≠b9->
     ∃b8' b9' B1,[Value.pointer (some ⟨b8,0,none⟩),.pointer (some ⟨b9,0,none⟩)]=[.pointer (some ⟨b8',0,none⟩),.pointer (some ⟨b9',0,none⟩)]/\TL w0 w5 p f M vt B1 b2 b7 b8' b9' t.a t.t (t.a+1) (.slice none 0 0) (.slice none 0 0) [] []/\PR w0 w5 p f M vt s top/\Eff p f M M w w5/\w.heap.size<=B1/\w.heap.size<=b8'/\w.heap.size<=b9':=λ{w5 b8 b9} hp he l2 l7 l8 l9 g8 g9 gn=>
    ⟨b8,b9,w5.heap.size,rfl,⟨l2,l7,l8,l9,Ro.nil _ _,Ro.nil _ _,λk hk=>by simp[Value.ownBlock]at hk,⟨l2.lt,l7.lt,l8.lt,l9.lt,aV _⟩,⟨by omega,by omega,by omega,by omega,by omega,gn⟩⟩,hp,he,he.chg.size,by omega,by omega⟩
   refine⟨?_,?_⟩
   ·refine bI λb8 w5 yz xx xw ho=>?_;have L8:=h4d.loc xx yz xw;have h5:=h4d.ext ho;have T5:=L24d.ext ho;refine⟨ld2 T5,ld1 T5,?_⟩;refine bI λb9 w6 yy yr xv o=>?_;have L9:=h5.loc yr yy xv;have h6:=h5.ext o;have T6:=T5.ext o;refine⟨ld2 T6,ld1 T6,?_⟩;refine(L8.ext o).st rfl (by simp) λw7 L87 J yq=>?_;have h7:=h6.one J (L8.ext o).2;have T7:=T6.one J (by omega);refine⟨ld2 T7,?_⟩;refine(L9.one J (by omega)).st rfl (by simp) λw8 L98 hs yp=>?_;have h8:=h7.one hs (L9.one J (by omega)).2;exact fin h8 ((((he4d.x ho).x o).one J (by omega)).one hs (by omega)) ((((L14d.ext ho).ext o).one J (by omega)).one hs (by omega)) ((((L4d.ext ho).ext o).one J (by omega)).one hs (by omega)) (L87.one hs (by omega)) L98 (by omega) (by omega) (by omega)
   ·refine bI λb9 w5 yy xx xw ho=>?_;have L9:=h4d.loc xx yy xw;have h5:=h4d.ext ho;have T5:=L24d.ext ho;refine⟨ld2 T5,ld1 T5,?_⟩;refine bI λb8 w6 yz yr xv o=>?_;have L8:=h5.loc yr yz xv;have h6:=h5.ext o;have T6:=T5.ext o;refine⟨ld2 T6,ld1 T6,?_⟩;refine L8.st rfl (by simp) λw7 L87 J yq=>?_;have h7:=h6.one J L8.2;have T7:=T6.one J (by omega);refine⟨ld2 T7,?_⟩;refine((L9.ext o).one J (by omega)).st rfl (by simp) λw8 L98 hs yp=>?_;have h8:=h7.one hs ((L9.ext o).one J (by omega)).2;exact fin h8 ((((he4d.x ho).x o).one J (by omega)).one hs (by omega)) ((((L14d.ext ho).ext o).one J (by omega)).one hs (by omega)) ((((L4d.ext ho).ext o).one J (by omega)).one hs (by omega)) (L87.one hs (by omega)) L98 (by omega) (by omega) (by omega)
  rintro st g w5 ⟨b8,b9,B1,rfl,T5,h5,zw,vl,bq,bp⟩;simp only[aG,cS];clear L1 L12 L2 L3 L4 L14 L24;have xx:=zw.chg.size;generalize hR:nT E (t.t.length+1) s t.t (t.a+1) [] []=R0 at hK ht;refine cY.go (λst w'=>st=[]/\∃s1 M1 rest a va vk av ks n,PR w0 w' p f M1 vt s1 top/\Gd N s1 dl/\Eff p f M M1 w w'/\TL w0 w' p f M1 vt B1 b2 b7 b8 b9 t.a rest a va vk av ks/\nT E n s1 rest a av ks=R0/\rest.length<n/\Gk rest/\0<=a/\a+rest.length+1<=N/\Syn.phi s1+rest.length+1<=100000/\av.length+2*rest.length<=2*t.t.length/\ks.length=av.length)
   (λ_ w'=>QL w' b8) ⟨rfl,s,M,t.t,t.a+1,_,_,[],[],t.t.length+1,h5,hg,zw,T5,hR,by omega,hx,by omega,by omega,by omega,by simp,rfl⟩ ?_
  rintro st g2 w6 ⟨rfl,s1,M1,rest,a,va,vk,av,ks,n,h6,ye,yw,T6,hh,hn,uo,vi,vh,bf,bj,uz⟩;have bc:=yw.chg.size;refine T6.l8.ld rfl ?_;rw[vG,aO];refine⟨λyc=>?_,λyc=>?_⟩
  ·obtain⟨n,rfl⟩:∃m,n=m+1:=⟨n-1,by omega⟩;rw[Kb yc hn]at hh;obtain⟨i1,i2,i3,i4,i5,i6,i7⟩:=WX uo;have i6:=i6 yc;refine T6.l8.ld rfl ?_;refine zB (by omega) ?_;have ar:rest.length<=100000:=by omega
   have two:∃u v:Int,Ct rest=[i64 u,i64 v]/\((Syn.insP rest=none/\u=-1)\/(Syn.insP rest≠none/\u=((lN rest).1:Nat)/\v=((lN rest).2:Nat))):=by
    unfold lN Ct;cases hr:Syn.insP rest with
    |none=>exact⟨-1,0,rfl,.inl ⟨rfl,rfl⟩⟩
    |some x=>exact⟨_,_,rfl,.inr ⟨by simp,rfl,rfl⟩⟩
   obtain⟨u,v,euv,zm⟩:=two;rw[euv,bL];refine⟨i64 u,rfl,?_⟩;rw[bL];refine⟨i64 v,rfl,?_⟩;refine bI λb10 w7 uf yq zz ys=>?_;have h7:=h6.ext ys;have T7:=T6.ext ys;have l10:=h6.loc yq uf zz;refine bI λb11 w8 ue yp zy xy=>?_;have h8:=h7.ext xy;have T8:=T7.ext xy;have l11:=h7.loc yp ue zy;have br:=T6.lt.2.2.2.2;have nA10:∀k,va.ownBlock=some k->k<w6.heap.size:=λk hk=>(T6.rA.off k hk).1.2;have nK10:∀k,vk.ownBlock=some k->k<w6.heap.size:=λk hk=>(T6.rK.off k hk).1.2;have no10:va.ownBlock≠some b10/\vk.ownBlock≠some b10:=⟨λe=>by have:=nA10 _ e;omega,λe=>by have:=nK10 _ e;omega⟩;have no11:va.ownBlock≠some b11/\vk.ownBlock≠some b11:=⟨λe=>by have:=nA10 _ e;omega,λe=>by have:=nK10 _ e;omega⟩;refine(l10.ext xy).st rfl (by simp) λw9 l10 xu ay=>?_;have h9:=h8.one xu l10.2;have T9:=T8.one xu (by omega) no10.1 no10.2;refine(l11.one xu (by omega)).st rfl (by simp) λw10 l11 xd af=>?_;have l10:=l10.one xd (by omega);have zg:=h9.one xd l11.2;have T10:=T9.one xd (by omega) no11.1 no11.2;have xt:Eff p f M M1 w w10:=(((yw.x ys).x xy).one xu (by omega)).one xd (by omega);simp only[aY]at l10 l11;refine bU.cut (λ_ w'=>Loc w0 w' p f M1 vt b10 jD [i64 ((lN rest).1:Nat)]/\Loc w0 w' p f M1 vt b11 jD [i64 ((lN rest).2:Nat)]/\PR w0 w' p f M1 vt s1 top/\TL w0 w' p f M1 vt B1 b2 b7 b8 b9 t.a rest a va vk av ks/\Eff p f M M1 w w'/\w10.heap.size<=w'.heap.size) ?_ ?_
   ·refine l10.ld rfl ?_;rw[dU,aO];refine⟨λyd=>?_,λyu=>?_⟩
    ·have hnone:Syn.insP rest=none:=by
      rcases zm with h|h
      ·exact h.1
      ·omega
     have eI:lN rest=(rest.length,rest.length):=by unfold lN;rw[hnone]
     have T11:=T10.ext (dE w10);refine T11.l8.ld rfl ?_;rw[gC];refine T11.l8.ld rfl ?_;rw[gC];refine l10.drew.st rfl (by simp) λw12 l10 xg ae=>?_;have vx:=zg.drew.one xg l10.2;have T12:=T11.one xg (by omega) no10.1 no10.2;refine⟨T12.l8.ld rfl rfl,?_⟩;have zd:w10.drew.heap.size=w10.heap.size:=rfl;refine(l11.drew.one xg (by omega)).st rfl (by simp) λw13 l11 xf ad=>?_;have vw:=vx.one xf l11.2;have T13:=T12.one xf (by omega) no11.1 no11.2;have l10:=l10.one xf (by omega);simp only[aY]at l10 l11;rw[eI];exact⟨l10,l11,vw,T13,((xt.x (dE _)).one xg (by omega)).one xf (by omega),by omega⟩
    ·rcases zm with h|⟨_,e1,e2⟩
     ·omega
     ·rw[e1]at l10;rw[e2]at l11;exact⟨l10,l11,zg,T10,xt,aV _⟩
   rintro _ g3 w14 ⟨l10,l11,uh,T14,xr,ab⟩;clear xu xd h7 h8 h9 zg T7 T8 T9 T10 xt;generalize hI:(lN rest).1=I at*
   generalize bo:(lN rest).2=E' at*
   have an:=xr.chg.size;refine bU.cut (λ_ w'=>∃M2 va2 vk2,PR w0 w' p f M2 vt (xE s1 rest a) top/\Eff p f M M2 w w'/\TL w0 w' p f M2 vt B1 b2 b7 b8 b9 t.a rest a va2 vk2 (if 0<I then av++[s1.ex.length]else av) (if 0<I then ks++[[116]]else ks)/\Loc w0 w' p f M2 vt b10 jD [i64 (I:Nat)]/\Loc w0 w' p f M2 vt b11 jD [i64 (E':Nat)]/\(va2.ownBlock≠some b10/\vk2.ownBlock≠some b10)/\(va2.ownBlock≠some b11/\vk2.ownBlock≠some b11)) ?_ ?_
   ·refine l10.ld rfl ?_;rw[mB,aO];unfold xE;rw[hI];refine⟨λxm=>?_,λxm=>?_⟩
    ·have xm:0<I:=by omega
     simp only[aJ xm];have T15:=T14.ext (dE w14);have yi:=uh.drew;have l10:=l10.drew;have l11:=l11.drew;rw[bT,bW,aX];refine T15.l7.ld rfl ?_;refine T15.l2.ld rfl ?_;refine T15.l8.ld rfl ?_;refine l10.ld rfl ?_;rw[gB,eR];refine⟨by omega,by omega,?_⟩;rw[fM,cZ,aW];refine T15.l9.ld rfl ?_;refine Mb i3 (by rw[bS];omega) λw16 xb=>?_;have T16:=T15.ext xb;have zf:=yi.ext xb;have l10:=l10.ext xb;have l11:=l11.ext xb;refine⟨T16.l9.ld rfl rfl,T16.l2.ld rfl rfl,T16.l7.ld rfl rfl,?_⟩;simp only[dI,eY,cW,aB,aN,aY,bB,Nat.reduceAdd,Nat.reduceLT,dV,aA];have hq:=(xr.x (dE w14)).x xb;refine JR zf hq (by have:=ye.ex;omega) λM2 w17 ze xp hz yk zj=>?_;have T17:TL w0 w17 p f M2 vt B1 b2 b7 b8 b9 t.a rest a va vk av ks:=⟨hz _ _ _ T16.l2,hz _ _ _ T16.l7,hz _ _ _ T16.l8,hz _ _ _ T16.l9,yk _ _ _ _ _ _ T16.rA,yk _ _ _ _ _ _ T16.rK,T16.dd,⟨T16.lt.1,T16.lt.2.1,T16.lt.2.2.1,T16.lt.2.2.2.1,cC T16.lt.2.2.2.2 zj⟩,T16.ne⟩;have l10:=hz _ _ _ l10;have l11:=hz _ _ _ l11;refine⟨T17.l7.ld rfl rfl,?_⟩;refine kE λr w18 hr aa uu U=>?_;have T18:=T17.ext U;refine⟨T18.l7.ld rfl rfl,?_⟩;refine T18.appA (ze.ext U) uu (by omega) λva2 w19 T19 vu xc yj=>?_;have n7:=T18.lt.2.1;have l10':Loc w0 w19 p f M2 vt b10 jD [i64 (I:Nat)]:=⟨xc.at (l10.ext U).1 λe=>e.elim no10.1 (by omega),(l10.ext U).2.up xc.size⟩;have l11':Loc w0 w19 p f M2 vt b11 jD [i64 (E':Nat)]:=⟨xc.at (l11.ext U).1 λe=>e.elim no11.1 (by omega),(l11.ext U).2.up xc.size⟩;have a10:va2.ownBlock≠some b10:=λe=>(yj _ e).elim no10.1 λe=>by have:=(l10.ext U).lt;omega
     have a11:va2.ownBlock≠some b11:=λe=>(yj _ e).elim no11.1 λe=>by have:=(l11.ext U).lt;omega
     have aj:=hq.chg.size;have yn:Eff p f M M2 w w19:=(xp.x U).then xc λk hk e=>by
      rcases e with e|e
      ·have:=T6.rA.new k e;omega
      ·omega
     rw[bT,bW,aX];refine T19.l7.ld rfl ?_;refine xR λr2 w20 uv zi xl j=>?_;have T20:=T19.ext j;refine T20.appK (vu.ext j) xl (by omega) λvk2 w21 T21 zc hc xk=>?_;have ai:=yn.chg.size;refine⟨M2,va2,vk2,zc,(yn.x j).then hc λk hk e=>?_,T21,⟨hc.at (l10'.ext j).1 λe=>e.elim no10.2 (by omega),(l10'.ext j).2.up hc.size⟩,⟨hc.at (l11'.ext j).1 λe=>e.elim no11.2 (by omega),(l11'.ext j).2.up hc.size⟩,
      ⟨a10,λe=>(xk _ e).elim no10.2 λe=>by have:=(l10'.ext j).lt;omega⟩,⟨a11,λe=>(xk _ e).elim no11.2 λe=>by have:=(l11'.ext j).lt;omega⟩⟩
     rcases e with e|e
     ·have:=T6.rK.new k e;omega
     ·omega
    ·simp only[aE (show¬0<I by omega)];exact⟨M1,va,vk,uh,xr,T14,l10,l11,no10,no11⟩
   rintro _ g4 w15 ⟨M2,va2,vk2,yi,xq,T15,l10,l11,no10,no11⟩;have xe:Gd N (xE s1 rest a) dl/\Syn.phi (xE s1 rest a)<=Syn.phi s1+I:=by
    unfold xE;rw[hI];split
    ·have hp:=kZ s1 ⟨5,kS (rest.take I),[],[],a⟩;have hp:Syn.phi {s1 with ex:=s1.ex++[⟨5,kS (rest.take I),[],[],a⟩]}<=Syn.phi s1+1:=hp;exact⟨ye.put (by omega),by omega⟩
    ·exact⟨ye,by omega⟩
   obtain⟨xe,bg⟩:=xe;have xh:(if 0<I then av++[s1.ex.length]else av).length<=av.length+(if 0<I then 1 else 0):=by split<;>simp
   have yl:(if 0<I then ks++[[116]]else ks).length=(if 0<I then av++[s1.ex.length]else av).length:=by split<;>simp[uz]
   generalize (if 0<I then av++[s1.ex.length]else av)=av2 at*
   generalize (if 0<I then ks++[[116]]else ks)=ks2 at*
   generalize xE s1 rest a=s2 at*
   have ak:=xq.chg.size;refine bU.cut (λ_ w'=>∃s3 M3 va3 vk3 av3 ks3,PR w0 w' p f M3 vt s3 top/\Gd N s3 dl/\Eff p f M M3 w w'/\TL w0 w' p f M3 vt B1 b2 b7 b8 b9 t.a rest a va3 vk3 av3 ks3/\Loc w0 w' p f M3 vt b11 jD [i64 (E':Nat)]/\nT E n s3 (rest.drop E') (a+E') av3 ks3=R0/\Syn.phi s3+(rest.length-E')+1<=100000/\av3.length+2*(rest.length-E')<=2*t.t.length/\ks3.length=av3.length) ?_ ?_
   ·refine l10.ld rfl ?_;refine l11.ld rfl ?_;rw[dU,aO];refine⟨λyd=>?_,λyu=>?_⟩
    ·have yd:I<E':=by omega
     have i5:=i5 yd;rw[aJ yd]at hh;refine T15.l2.ld rfl ?_;refine T15.l9.ld rfl ?_;refine l10.ld rfl ?_;rw[cI,cN (by omega) (by omega)];have ao:=xe.lev;have zp:=λ(d:Nat) (hd:dl=d+1)=>Hk (hF.ok N) (s:={s2 with deep:=s2.deep+1,quiet:=false}) (yH xe.ws _ _) (t:=(rest.drop (I+2)).take (E'-1-(I+2))) (a:=a+I+2) (by omega) (by rw[bS,aP];omega);refine pL yi (by omega) (λhd=>ht 7 (a+I) ?_) λhd w16 zf hq=>?_
     ·rw[<-hh];unfold within;rw[aJ hd];rfl
     obtain⟨d,rfl⟩:∃d,dl=d+1:=⟨dl-1,by omega⟩;have xn:=xe.frame false;have zl:within s2 (a+I) false (λq=>pU E q ((rest.drop (I+2)).take (E'-1-(I+2))) (a+I+2))=(pU E {s2 with deep:=s2.deep+1,quiet:=false} ((rest.drop (I+2)).take (E'-1-(I+2))) (a+I+2)).bind λx s'=>.ok x {s' with deep:=s2.deep,quiet:=s2.quiet}:=by
      unfold within;rw[aE hd]
     rw[zl]at hh;refine kD (caps:=[.pointer (some ⟨b7,0,none⟩),.pointer (some ⟨b2,0,none⟩),.pointer (some ⟨b8,0,none⟩),.pointer (some ⟨b10,0,none⟩),.pointer (some ⟨b11,0,none⟩),.pointer (some ⟨b9,0,none⟩)]) ?_;have n7:=T15.lt.2.1;have uw:Syn.phi {s2 with deep:=s2.deep+1,quiet:=false}=Syn.phi s2:=rfl;refine aAj (xq.trans hq) (by omega) vl hS (hE d rfl) hF zf xn (T15.eff hq) (l10.eff hq) (l11.eff hq) ⟨no10.1,no10.2,by omega⟩ ⟨no11.1,no11.2,by omega⟩ i5 i2 vi vh (by show Syn.phi s2+_<=_;omega) (by split at xh<;>omega) (λx s' xz M3 va3 w17 ze xp T17 k10 k11 bh=>?_) λc a' xz=>ht c a' ?_
     ·rw[xz]at hh;simp only[R.bind]at hh;have xi:=zp d rfl;have yb:=GW hF.z {s2 with deep:=s2.deep+1,quiet:=false} ((rest.drop (I+2)).take (E'-1-(I+2))) (a+I+2);rw[xz]at xi yb;have yb:Syn.phi s'<=Syn.phi s2+((rest.drop (I+2)).take (E'-1-(I+2))).length:=yb;rw[bS,aP]at yb;have zu:Gd N s' d:=⟨xi.1.ws xn.ws,hN,by rw[xi.1.toks];exact xn.few,by rw[xi.1.toks];exact xn.ts,by omega,by rw[xi.1.deep];exact xn.lev⟩;refine⟨M3,s',ze,xi.1.deep,λw18 vv xo=>?_⟩;have T18:=T17.eff xo;rw[bT,bW,aX];refine T18.l7.ld rfl ?_;refine xR λr2 w20 uv zi xl j=>?_;have T20:=T18.ext j;have k11:=(k11.eff xo).ext j;refine T20.appK (vv.ext j) xl (by split at xh<;>omega) λvk3 w21 T21 zc hc xk=>?_;refine⟨_,M3,va3,vk3,av2++[x],ks2++[[101]],zc,xe.back zu,((xp.trans xo).x j).then hc λk hk e=>?_,T21,⟨hc.at k11.1 λe=>e.elim no11.2 (by omega),k11.2.up hc.size⟩,hh,?_,?_,by simp[yl]⟩
      ·rcases e with e|e
       ·have:=T17.rK.new k e;omega
       ·omega
      ·show Syn.phi s'+_+1<=_;omega
      ·simp only[aU,aB,aN];split at xh<;>omega
     ·rw[xz]at hh;rw[<-hh];rfl
    ·have yu:¬I<E':=by omega
     rw[aE yu]at hh;refine⟨s2,M2,va2,vk2,av2,ks2,yi,xe,xq,T15,l11,hh,by omega,?_,yl⟩;split at xh<;>omega
   rintro _ g5 w22 ⟨s3,M3,va3,vk3,av3,ks3,vr,vb,ym,T22,l11,zr,ux,ug,zt⟩;have T23:=T22.ext (dE w22);have l11:=l11.drew;have vq:=vr.drew;have ah:=ym.chg.size;refine T23.l8.ld rfl ?_;refine l11.ld rfl ?_;rw[gB,fM,eR];refine⟨by omega,by omega,?_⟩;rw[bR,aW];refine T23.l9.ld rfl ?_;refine l11.ld rfl ?_;rw[cI,cN (by omega) (by omega)];obtain⟨q1,q2,q3,q4,q5⟩:=T23.lt;obtain⟨m1,m2,m3,m4,m5,m6⟩:=T23.ne;refine T23.l8.st rfl (by simp) λw24 l8 hj vz=>?_;have vp:=vq.one hj l8.2;have l9:=T23.l9.one hj (tA m6);have l11:=l11.one hj (by omega);refine⟨l11.ld rfl rfl,l9.ld rfl rfl,?_⟩;refine l9.st rfl (by simp) λw25 l9 hv vy=>?_;have vo:=vp.one hv l9.2;have l8:=l8.one hv m6;simp only[aY]at l8 l9;have T25:TL w0 w25 p f M3 vt B1 b2 b7 b8 b9 t.a (rest.drop E') (a+E') va3 vk3 av3 ks3:=
    ⟨(T23.l2.one hj m2).one hv m3,(T23.l7.one hj m4).one hv m5,l8,l9,(T23.rA.one hj (T23.noA q3).1).one hv (T23.noA q4).1,(T23.rK.one hj (T23.noA q3).2).one hv (T23.noA q4).2,T23.dd,⟨q1,q2,q3,q4,by omega⟩,T23.ne⟩
   have zd:w22.drew.heap.size=w22.heap.size:=rfl;refine⟨⟨rfl,s3,M3,rest.drop E',a+E',va3,vk3,av3,ks3,n,vo,vb,((ym.x (dE _)).one hj (by omega)).one hv (by omega),T25,zr,?_,i4,by omega,?_,?_,?_,zt⟩,?_⟩
   ·rw[aP];omega
   ·rw[aP];omega
   ·rw[aP];exact ux
   ·rw[aP];exact ug
   ·rw[T25.l8.strat,T6.l8.strat,aP];omega
  ·have zs:rest=[]:=by
    by_cases h:rest=[]
    ·exact h
    ·exact absurd h yc
   subst zs;obtain⟨n,rfl⟩:∃m,n=m+1:=⟨n-1,by omega⟩;simp only[nT,gF]at hh;rw[<-hh]at hK ht;refine T6.l2.ld rfl ?_;refine bZ T6.l7.1 rfl ?_;have zn:∀k,k∈ub [i64 6,str [],va,vk,i64 t.a]↔va.ownBlock=some k\/vk.ownBlock=some k:=λk=>by
    rw[show [i64 6,str [],va,vk,i64 t.a]=[i64 6,str []]++([va]++([vk]++[i64 t.a]))from rfl];simp only[vK,dH,gW];simp[ub,Value.ownBlock]
   have uy:(ub [i64 6,str [],va,vk,i64 t.a]).Nodup:=by
    rw[show [i64 6,str [],va,vk,i64 t.a]=[i64 6,str []]++([va]++([vk]++[i64 t.a]))from rfl];simp only[vK];rw[show ub [i64 6,str []]=[]from rfl,show ub [i64 t.a]=[]from rfl,fO,eG];exact fD.2 ⟨mL _,mL _,λx hx y hy e=>by subst e;exact T6.dd x (gW.1 hx) (gW.1 hy)⟩
   refine Mk (e:=⟨6,[],av,ks,t.a⟩) h6 yw ⟨va,vk,rfl,T6.rA.own,T6.rK.own⟩ (λk hk=>((zn k).1 hk).elim (T6.rA.off k) (T6.rK.off k)) uy (λk hk=>?_) (by have:=ye.ex;omega) λM' w7 h7 vd _=>?_
   ·rcases(zn k).1 hk with e|e
    ·have:=T6.rA.new k e;omega
    ·have:=T6.rK.new k e;omega
   ·exact hK _ _ rfl M' w7 h7 vd
end
section
variable [HX]
structure ER(w0 w:World)(p f:Nat)(M:Lay)(vt:Value)(wb:Nat)(e:Ex)(va vk:Value):Prop where
 rA:Ro w0 w p f M vt wb jD 1 va e.args.length (ints e.args)
 rK:Ro w0 w p f M vt wb StT 1 vk e.keys.length (strs e.keys)
 dd:∀k,va.ownBlock=some k->vk.ownBlock≠some k
def exc(e:Ex)(va vk:Value):List Value:=[i64 e.k,str e.t,va,vk,i64 e.a]
section
variable{w0 w w' w1:World}{p f b:Nat}{M M' M0:Lay}{vt:Value}{s:PS}{top:List Nat}{N:Int}{K:Q0}{e:Ex}{va vk:Value}{wbn:Nat}{wb:World}{dl:Nat}
theorem NZ(h:ER w0 w p f M vt wbn e va vk):(exc e va vk).all fC=true:=by
 obtain⟨_,_,e1,_⟩:=h.rA.own.sl.shape;obtain⟨_,_,e2,_⟩:=h.rK.own.sl.shape;subst e1 e2;rfl
theorem ER.eff(h:ER w0 w p f M vt wbn e va vk)(j:Eff p f M M' w w'):ER w0 w' p f M' vt wbn e va vk:=⟨h.rA.eff j,h.rK.eff j,h.dd⟩
theorem ER.one(h:ER w0 w p f M vt wbn e va vk)(j:Chg (One b) w w')(I:va.ownBlock≠some b)(o:vk.ownBlock≠some b):ER w0 w' p f M vt wbn e va vk:=⟨h.rA.one j I,h.rK.one j o,h.dd⟩
theorem Ro.le{m:Nat}{xs:List Value}{k:Nat}(h:Ro w0 w p f M vt wbn T m v n xs)(o:k<=wbn):Ro w0 w p f M vt k T m v n xs:=⟨h.own,h.off,λj I=>cC o (h.new j I)⟩
theorem ER.le{k:Nat}(h:ER w0 w p f M vt wbn e va vk)(j:k<=wbn):ER w0 w p f M vt k e va vk:=⟨h.rA.le j,h.rK.le j,h.dd⟩
theorem ER.noK(j:e.keys=[])(h:Ro w0 w p f M vt wbn jD 1 va e.args.length (ints e.args)):ER w0 w p f M vt wbn e va (.slice none 0 0):=⟨h,by rw[j];exact Ro.nil _ _,λk _=>by simp[Value.ownBlock]⟩
theorem ER.leaf(h1:e.args=[])(o:e.keys=[]):ER w0 w p f M vt wbn e (.slice none 0 0) (.slice none 0 0):=⟨by rw[h1];exact Ro.nil _ _,by rw[o];exact Ro.nil _ _,λk j=>by simp[Value.ownBlock]at j⟩
theorem Qz(e:Ex)(va vk:Value):ub (exc e va vk)=ub [va]++ub [vk]:=by
 rw[show exc e va vk=[i64 e.k,str e.t]++([va]++([vk]++[i64 e.a]))from rfl];simp only[vK];rw[show ub [i64 e.k,str e.t]=[]from rfl,show ub [i64 e.a]=[]from rfl,fO,eG]
theorem JS(h:PR w0 w p f M vt s top)(he:Eff p f M0 M wb w)(hE:ER w0 w p f M vt wb.heap.size e va vk)(hg:Gd N s dl)
  (hK:∀M' w',PR w0 w' p f M' vt {s with ex:=s.ex++[e]} top->Eff p f M0 M' wb w'->(∀b T cs,Loc w0 w p f M vt b T cs->va.ownBlock≠some b->vk.ownBlock≠some b->Loc w0 w' p f M' vt b T cs)->K (i64 (s.ex.length:Nat)) w'):
  aC P0 117 [.pointer (some ⟨p,0,none⟩),.agg (exc e va vk).toArray] w K:=by
 have j:∀k,k∈ub (exc e va vk)↔va.ownBlock=some k\/vk.ownBlock=some k:=λk=>by rw[Qz,dH,gW,gW]
 have o:(ub (exc e va vk)).Nodup:=by
  rw[Qz];exact fD.2 ⟨mL _,mL _,λx hx y U e=>by subst e;exact hE.dd x (gW.1 hx) (gW.1 U)⟩
 refine Mk (e:=e) h he ⟨va,vk,rfl,hE.rA.own,hE.rK.own⟩ (λk I=>((j k).1 I).elim (hE.rA.off k) (hE.rK.off k)) o (λk I=>((j k).1 I).elim (hE.rA.new k) (hE.rK.new k)) (by have:=hg.ex;omega) λM' w' h' J hl=>?_;exact hK M' w' h' J λb T cs hL h1 h2=>hl b T cs hL λhm=>((j b).1 hm).elim h1 h2
theorem Ty{E:PS->R Nat}{x:Str}(hE:EC w0 f 82 E dl)(hF:rW E)(h:PR w0 w p f M vt s top)(hg:Gd N s dl)
  (hK:∀l s',FW E x s=.ok l s'->∀M' v w',PR w0 w' p f M' vt s' top->Gd N s' dl->Eff p f M M' w w'->Ro w0 w' p f M' vt w.heap.size jD 1 v l.length (ints l)->K v w')(ht:∀c a',FW E x s=.err c a'->Thr w0 f c a'):
  aC P0 261 [.pointer (some ⟨p,0,none⟩),str x] w K:=by
 refine XP ?_;unfold aEr;unfold FW at hK ht;generalize hR:tY E x (s.toks.length+1) s []=R0 at hK ht;have hN:=hg.hN;refine cY.go (λst w'=>∃v s1 M1 out n,st=[v]/\PR w0 w' p f M1 vt s1 top/\Gd N s1 dl/\Eff p f M M1 w w'/\Ro w0 w' p f M1 vt w.heap.size jD 1 v out.length (ints out)/\tY E x n s1 out=R0/\s1.toks.length<n+s1.i/\out.length<=s1.i/\s1.toks.length=s.toks.length) (λ_ w'=>s.toks.length-AP w' p)
  ⟨_,s,M,[],s.toks.length+1,rfl,h,hg,Eff.refl _ _ _ _,Ro.nil _ _,hR,by omega,by simp,rfl⟩ ?_
 rintro st g w2 ⟨v,s1,M1,out,n,rfl,h2,hj,xt,xr,j,hn,ho,xp⟩;have ya:=hj.ws.lt;obtain⟨n,rfl⟩:∃m,n=m+1:=⟨n-1,by omega⟩;simp only[aG];refine vL h2 hj.ws hN hj.l λw3 h3 xj=>?_;simp only[tY]at j;have U:=hj.take x;have tg:=jT hj.ws x;have hi:=xr.eff xj;have J:=xt.trans xj;have yg:=J.chg.size;have more:∀{s4:PS} {w4:World},PR w0 w4 p f M1 vt s4 top->Gd N s4 dl->Eff p f M M1 w w4->Ro w0 w4 p f M1 vt w.heap.size jD 1 v out.length (ints out)->((E s4).bind λx' s'=>tY E x n s' (out++[x']))=R0->s1.i<=s4.i->s4.toks.length=s.toks.length->
   aC P0 82 [.pointer (some ⟨p,0,none⟩)] w4 λt20 w8=>dN jD 1 [(.int .i64 0)] [(0,1,t20)] w8 λt21 w9=>dF P0 (Builtin.append_ #[30,30] 30 #[v,t21]) w9 λt22 w10=>
    (∃v s1 M1 out n,[t22]=[v]/\PR w0 w10 p f M1 vt s1 top/\Gd N s1 dl/\Eff p f M M1 w w10/\Ro w0 w10 p f M1 vt w.heap.size jD 1 v out.length (ints out)/\tY E x n s1 out=R0/\s1.toks.length<n+s1.i/\out.length<=s1.i/\s1.toks.length=s.toks.length)/\s.toks.length-AP w10 p<s.toks.length-AP w2 p:=λ{s4 w4} h4 o hc xb hh xd xe=>by
  refine hE w4 p M1 vt s4 top N _ h4 o (λy s5 e5 M5 w5 h5 hq=>?_) λc a' e5=>ht c a' (by rw[<-hh,e5];rfl);rw[e5]at hh;simp only[R.bind]at hh;obtain⟨xi,yj⟩:=o.e hF e5;have yi:s5.toks.length=s4.toks.length:=by
   have:=hF.ok N s4 o.ws;rw[e5]at this;exact congrArg List.length this.1.1.toks
  refine kE λr w6 hr yf xq xa=>?_;have h6:=h5.ext xa;have xg:=(xb.eff hq).ext xa;have hv:=(hc.trans hq).x xa;refine Ro.app CB xg h6 xq rfl (λu hu=>by simp only[bK]at hu;subst hu;rfl) (by have:=o.few;have:=o.ws.lt;omega) (by decide) hv.chg.size λv' w7 xv xu yh h7=>?_;have xz:=xi.ws.lt;refine⟨⟨v',s5,M5,out++[y],n,rfl,h7,xi,hv.then xu λk hk e=>by have:=xg.new k e;omega,?_,hh,by omega,by rw[aU,aB,aN];omega,by omega⟩,?_⟩
  ·rw[aU,aB,aN,Fe];exact xv
  ·rw[h7.at_,h2.at_];omega
 have xf:(bX s1 x).2.toks.length=s.toks.length:=by rw[tg.1.toks];exact xp
 rw[eP,bY];refine⟨λxc=>?_,λhz=>?_⟩
 ·have xc:(bX s1 x).1=false:=by simpa using xc
  rw[aE (by rw[xc];decide)]at j;by_cases I:out=[]
  ·rw[aJ I]at j;refine bU.cut (λ_ w'=>w'=w3) ?_ ?_
   ·rw[fL hi.own.sl,mB,aO];exact⟨λe=>by rw[I]at e;simp at e,λ_=>rfl⟩
   rintro _ g2 w4 rfl;exact more h3 U J hi j tg.1.le xf
  ·rw[aE I]at j;have xy:0<out.length:=dQ.2 I;refine bU.cut (λ_ w'=>∃s4,PR w0 w' p f M1 vt s4 top/\Gd N s4 dl/\Eff p f M M1 w w'/\Ro w0 w' p f M1 vt w.heap.size jD 1 v out.length (ints out)/\((E s4).bind λx' s'=>tY E x n s' (out++[x']))=R0/\s1.i<=s4.i/\s4.toks.length=s.toks.length) ?_ ?_
   ·rw[fL hi.own.sl,mB,aO];refine⟨λ_=>?_,λe=>absurd (by omega) e⟩;refine yJ h3 U.ws hN U.l (λs4 e4 w4 h4 hc=>?_) λc a' e4=>ht c a' (by rw[<-j,e4];rfl);rw[e4]at j;simp only[R.bind]at j;obtain⟨o,xd,_⟩:=U.want e4;have hs:=kQ U.ws [44];rw[e4]at hs;refine vL h4 o.ws hN o.l λw5 h5 hq=>?_;have xh:=(hi.eff hc).eff hq;have hx:=(J.trans hc).trans hq;have tg5:=jT o.ws x;rw[bY];refine⟨λhy=>?_,λhy=>?_⟩
    ·rw[aJ hy]at j;exact hK out _ j.symm M1 v w5 h5 (o.take x) hx xh
    ·rw[aE (by rw[hy];decide)]at j;exact⟨_,h5,o.take x,hx,xh,j,by have:=tg.1.le;have:=tg5.1.le;omega,by rw[tg5.1.toks,hs.1.1.toks];exact xf⟩
   rintro _ g2 w4 ⟨s4,h4,o,hc,xb,hh,xd,xe⟩;exact more h4 o hc xb hh xd xe
 ·have hz:(bX s1 x).1=true:=by simpa using hz
  rw[aJ hz]at j;exact hK out _ j.symm M1 v w3 h3 U J hi
end
end
section
variable [HX]
variable{w0 w w' w1:World}{p f b:Nat}{M M' M0:Lay}{vt:Value}{s:PS}{top:List Nat}{N:Int}{K:Q0}{e:Ex}{va vk:Value}{wbn:Nat}{wb:World}{dl:Nat}
theorem Mg(hp:PR w0 w p f M vt s top)(I:Loc w0 w p f M vt b ExT cs)(J:cs.length=5)(hE:ER w0 w p f M vt wbn e va vk)(hA:va.ownBlock≠some b)(o:vk.ownBlock≠some b)
  (U:∀w',PR w0 w' p f M vt s top->Chg (One b) w w'->ER w0 w' p f M vt wbn e va vk->K (.agg (exc e va vk).toArray) w'):
  stW 5 (.pointer (some ⟨b,0,none⟩)) (.agg (exc e va vk).toArray) w λw5=>ldW true 5 (.pointer (some ⟨b,0,none⟩)) w5 λr6=>K r6 w5:=
 iI I.1 rfl J (NZ hE) λw' j=>U w' (hp.one j I.2) j (hE.one j hA o)
theorem Ov{x r:Nat}{ty:TypeId}{k a:Int}{l:Str}{av:List Nat}{KW:World->Prop}(hL:Loc w0 w p f M vt b ExT [i64 k,str l,va,vk,i64 a])(hR:Ro w0 w p f M vt wbn jD 1 va av.length (ints av))(hp:PR w0 w p f M vt s top)(hr:w.heap[r]?=some (.cells [i64 (x:Nat)].toArray jD (0,0)))
  (hn:av.length<=1000000)(hB:b<wbn)(hw:wbn<=w.heap.size)
  (hK:∀va' w',Loc w0 w' p f M vt b ExT [i64 k,str l,va',vk,i64 a]->Ro w0 w' p f M vt wbn jD 1 va' (av++[x]).length (ints (av++[x]))->PR w0 w' p f M vt s top->Chg (λk=>va.ownBlock=some k\/k=b) w w'->(∀k,va'.ownBlock=some k->va.ownBlock=some k\/w.heap.size<=k)->KW w'):
  dF P0 (Builtin.append_ #[30,30] ty #[va,.slice (some ⟨r,0,none⟩) 1 1]) w λt62 w36=>aZ 2 (.pointer (some ⟨b,0,none⟩)) λt63=>stW 1 t63 t62 w36 KW:=by
 refine Ro.app CB hR hp hr rfl (λu J=>by simp only[bK]at J;subst J;rfl) hn (by decide) hw λv' w2 j U hv I=>?_;have e1:(av++[x]).length=av.length+1:=by simp
 rw[<-e1,show ints av++[i64 (x:Nat)]=ints (av++[x])from by simp[ints]]at j;rw[bT,bW,aX];obtain⟨vp,vc,ev,_⟩:=j.own.sl.shape;refine(hL.row U λe=>by have:=hR.new b e;omega).st (by rw[ev];rfl) (by simp) λw3 L3 o hh=>?_;exact hK v' w3 L3 (j.one o λe=>by have:=j.new b e;omega) (I.one o L3.2) ((U.mono λk _ e=>.inl e).trans (o.mono λk _ e=>.inr e)) hv
theorem aBL{E:PS->R Nat}{t:Tok}(hE:EC w0 f 82 E dl)(hF:rW E)(h:PR w0 w p f M vt s top)(hg:Gd N s dl)(zp:(cur s).k≠0)(yn:bE s=s)
  (hK:∀e s',Dd E s t.a=.ok e s'->∀M' va vk w',PR w0 w' p f M' vt s' top->Gd N s' dl->Eff p f M M' w w'->ER w0 w' p f M' vt w.heap.size e va vk->K (.agg (exc e va vk).toArray) w')(I:∀c a',Dd E s t.a=.err c a'->Thr w0 f c a'):
  aC P0 264 [.pointer (some ⟨p,0,none⟩),.agg (fS t).toArray] w K:=by
 refine XM ?_;unfold aEo;have hN:=hg.hN;have xm:Gd N (step1 s) dl:=by have:=hg.step zp;rw[yn]at this;exact this
 refine fY (z:=fS t) λb3 w1 zu zg yw yl=>?_;have h1:=h.ext yl;have L3:=h.loc zg zu yw;refine bI λb4 w2 zt zf yu xy=>?_;have h2:=h1.ext xy;have L4:=h1.loc zf zt yu;have L3:=L3.ext xy;have zn:Eff p f M M w w2:=(Eff.ext yl).x xy;refine h2.go (wsi hg.ws hg.l) λw3 h3 xg vb=>?_;have L3:=L3.eff xg;have L4:=L4.eff xg;have xg:=zn.trans xg;refine nR h3 xm.ws hN xm.l λw4 h4 xc=>?_;have L3:=L3.eff xc;have L4:=L4.eff xc;have xc:=xg.trans xc;have lt3:=L3.lt;have lt4:=L4.lt;refine bI λb5 w5 zs ze yt xl=>?_;have h5:=h4.ext xl;have L5:=h4.loc ze zs yt;have L3:=L3.ext xl;have L4:=L4.ext xl;have zm:=xc.x xl;have ve:=xc.chg.size;refine cK (l:=fS (cur (step1 s))) L5.1 rfl rfl rfl λw6 uz zr xn=>?_;have L5:Loc w0 w6 p f M vt b5 TkT (fS (cur (step1 s))):=⟨zr,L5.2.up (by omega)⟩;have h6:=h5.one xn L5.2;have L3:=L3.one xn (by omega);have L4:=L4.one xn (by omega);have yd:=zm.one xn (by omega);have vd:=yd.chg.size;have yb:=xm.now;refine L5.ldf rfl ?_;rw[gD];simp only[mI];refine GdW.look (decide ((cur (step1 s)).t≠Kt)) (λ_ J hJ=>?_) λg=>?_
 ·refine L5.ldf rfl ?_;rw[vG];exact hJ
 simp only[aG];rw[fU,bY];unfold Dd at hK I;simp only at hK I;refine⟨λye=>?_,λye=>?_⟩
 ·have hc:(cur (step1 s)).k≠1\/(cur (step1 s)).t≠Kt:=by simpa using ye
  rw[aJ hc]at hK I;have L3:=L3.drew;rw[bT,bW,aX];refine L3.ld rfl ?_;refine Ty hE hF h6.drew yb (λl s' el M' v w7 h7 zl o xz=>?_) λc a' el=>I c a' (by rw[el];rfl);rw[el]at hK;simp only[R.bind]at hK;have L3:=L3.eff o;refine⟨L3.ld rfl rfl,?_⟩;obtain⟨q,cap,ev,_⟩:=xz.own.sl.shape;subst ev;simp only[dI,gU,cW,aB,aN,aY,bB,Nat.reduceAdd,Nat.reduceLT,dV,aA];have zd:w6.drew.heap.size=w6.heap.size:=rfl;have zx:ER w0 w7 p f M' vt w6.heap.size ⟨7,[],l,[],t.a⟩ (.slice q l.length cap) (.slice none 0 0):=ER.noK rfl xz;refine Mg (e:=⟨7,[],l,[],t.a⟩) h7 (L4.drew.eff o) rfl zx (λe=>by have:=xz.new _ e;omega) (by simp[Value.ownBlock]) λw8 h8 zo zy=>?_;exact hK _ _ rfl M' _ _ w8 h8 zl (((yd.x (dE w6)).trans o).one zo (by omega)) (zy.le (by omega))
 ·have hc:¬((cur (step1 s)).k≠1\/(cur (step1 s)).t≠Kt):=by simpa using ye
  rw[aE hc]at hK I;have zk:(cur (step1 s)).k≠0:=λe=>hc (.inl (by rw[e];decide));have xb:=xm.step zk;refine h6.go (wsi yb.ws yb.l) λw7 h7 o uy=>?_;have L3:=L3.eff o;have L4:=L4.eff o;have o:=yd.trans o;refine bU.cut (λst w'=>∃b6 u s2,st=[.pointer (some ⟨b6,0,none⟩)]/\mH (step1 (bE (step1 s))) 1=.ok u s2/\PR w0 w' p f M vt s2 top/\Gd N s2 dl/\Eff p f M M w w'/\Loc w0 w' p f M vt b6 ExT [i64 29,str u.t,.slice none 0 0,.slice none 0 0,i64 t.a]/\Loc w0 w' p f M vt b4 ExT [.int .i64 0,.string (ofL []),.slice none 0 0,.slice none 0 0,.int .i64 0]/\b4<b6/\w.heap.size<=b6) ?_ ?_
  ·have L3:=L3.drew;have L4:=L4.drew;have h7:=h7.drew;have o:=o.x (dE w7);have zd:w7.drew.heap.size=w7.heap.size:=rfl;have ld3:∀{w':World},Loc w0 w' p f M vt b3 TkT (fS t)->ldW false 1 (.pointer (some ⟨b3,2,none⟩)) w' λx=>x=i64 t.a:=λL=>L.ld rfl rfl;rw[bT,bW,aX];refine L3.ld rfl ?_;refine⟨?_,?_⟩
   ·refine yZ h7 xb.ws hN xb.l (λu s2 eu w8 h8 j=>?_) λc a' eu=>I c a' (by rw[eu];rfl);have L3:=L3.eff j;have L4:=L4.eff j;have j:=o.trans j;refine⟨ld3 L3,str u.t,rfl,?_⟩;simp only[dI,eY,cW,aB,aN,aY,bB,Nat.reduceAdd,Nat.reduceLT,dV,aA];refine bI λb6 w9 xj xx xi hs=>?_;have L6:=h8.loc xx xj xi;refine⟨ld3 (L3.ext hs),?_⟩;refine cK (l:=[i64 29,str u.t,.slice none 0 0,.slice none 0 0,i64 t.a]) L6.1 rfl rfl rfl λw10 xd hj hi=>?_;have lt4':=L4.lt;have zh:=j.chg.size;exact⟨b6,u,s2,rfl,eu,(h8.ext hs).one hi L6.2,(xb.kind (by decide) eu).1,(j.x hs).one hi (by omega),⟨hj,L6.2.up (by omega)⟩,(L4.ext hs).one hi (by omega),by omega,by omega⟩
   ·refine bI λb6 w9 xj xx xi hs=>?_;have L6:=h7.loc xx xj xi;have L3:=L3.ext hs;have lt4':=L4.lt;have zh:=o.chg.size;refine⟨ld3 L3,?_⟩;refine yZ (h7.ext hs) xb.ws hN xb.l (λu s2 eu w8 h8 j=>?_) λc a' eu=>I c a' (by rw[eu];rfl);have L3:=L3.eff j;have L4:=(L4.ext hs).eff j;have L6:=L6.eff j;have j:=(o.x hs).trans j;refine⟨ld3 L3,str u.t,rfl,?_⟩;simp only[dI,eY,cW,aB,aN,aY,bB,Nat.reduceAdd,Nat.reduceLT,dV,aA];refine cK (l:=[i64 29,str u.t,.slice none 0 0,.slice none 0 0,i64 t.a]) L6.1 rfl rfl rfl λw10 xd hj hi=>?_;exact⟨b6,u,s2,rfl,eu,h8.one hi L6.2,(xb.kind (by decide) eu).1,j.one hi (by omega),⟨hj,L6.2.up (by omega)⟩,L4.one hi (by omega),by omega,by omega⟩
  rintro st g2 w8 ⟨b6,u,s2,rfl,eu,h8,yc,j,L6,L4,uv,uk⟩;simp only[aG];rw[eu]at hK I;simp only[R.bind]at hK I;refine bU.cut (λ_ w'=>∃v s3,mH s2 1=.ok v s3/\v.t=kIn/\PR w0 w' p f M vt s3 top/\Gd N s3 dl/\Eff p f M M w8 w') ?_ ?_
  ·refine yZ h8 yc.ws hN yc.l (λv s3 ev w9 h9 hv=>?_) λc a' ev=>I c a' (by rw[ev]);refine bI λb7 w10 zq xd hj xp=>?_;have yi:=h9.ext xp;have L7:=h9.loc xd zq hj;refine cK (l:=fS v) L7.1 rfl rfl rfl λw11 yk yf xu=>?_;have L7:Loc w0 w11 p f M vt b7 TkT (fS v):=⟨yf,L7.2.up (by omega)⟩;have xo:=yi.one xu L7.2;have z9:=hv.chg.size;refine L7.ldf rfl ?_;rw[vG,aO];refine⟨λya=>?_,λya=>⟨v,s3,ev,?_,xo,(yc.kind (by decide) ev).1,(hv.x xp).one xu (by omega)⟩⟩
   ·refine L7.ldf rfl ?_;exact qU xo (I _ _ (by rw[ev];simp only;exact aJ ya))
   ·by_cases h:v.t=[105,110]
    ·exact h
    ·exact absurd h ya
  rintro _ g3 w9 ⟨v,s3,ev,zi,h9,yo,hv⟩;rw[ev]at hK I;simp only[aE (show¬v.t≠kIn fromλh=>h zi)]at hK I;have L6:=(L6.eff hv).drew;have L4:=(L4.eff hv).drew;have h9:=h9.drew;have hv:=(j.trans hv).x (dE w9);have zd:w9.drew.heap.size=w9.heap.size:=rfl;have vc:=hv.chg.size;have lt6:=L6.lt;rw[bT,bW,aX];refine L6.ld rfl ?_;refine hE w9.drew p M vt s3 top N _ h9 yo (λx s4 ex M4 w10 yi hy=>?_) λc a' ex=>I c a' (by rw[ex]);rw[ex]at hK I;simp only at hK I;obtain⟨xf,_⟩:=yo.e hF ex;have L6:=L6.eff hy;have L4:=L4.eff hy;have hy:=hv.trans hy;refine⟨L6.ld rfl rfl,?_⟩;refine kE λr w11 hr yk zj hz=>?_;have L6:=L6.ext hz;have L4:=L4.ext hz;have xo:=yi.ext hz;have xt:=hy.x hz;have uo:=xt.chg.size;have lt6:=L6.lt;have lt4:=L4.lt;refine⟨L6.ld rfl rfl,?_⟩;refine Ov (wbn:=w11.heap.size) (av:=[]) L6 (Ro.nil _ _) xo zj (by simp) lt6 (aV _) λva1 w12 L6 yz uf xa uu=>?_;have xr:=xt.then xa λk hk e=>by
   rcases e with e|e
   ·simp[Value.ownBlock]at e
   ·omega
  have um:=xr.chg.size;have L4:Loc w0 w12 p f M4 vt b4 ExT [.int .i64 0,.string (ofL []),.slice none 0 0,.slice none 0 0,.int .i64 0]:=⟨xa.at L4.1 λe=>e.elim (by simp[Value.ownBlock]) (by omega),L4.2.up xa.size⟩;have uj:=xa.size;refine yJ uf xf.ws hN xf.l (λs5 e5 w13 yh hh=>?_) λc a' e5=>I c a' (by rw[e5]);rw[e5]at hK I;simp only at hK I;obtain⟨xq,_⟩:=xf.want e5;have L6:=(L6.eff hh).drew;have L4:=(L4.eff hh).drew;have yy:=(yz.eff hh).ext (dE w13);have yh:=yh.drew;have zd13:w13.drew.heap.size=w13.heap.size:=rfl;have ui:=hh.chg.size;have hh:=(xr.trans hh).x (dE w13);rw[bT,bW,aX];refine L6.ld rfl ?_;refine hE w13.drew p M4 vt s5 top N _ yh xq (λy s6 ey M6 w14 ue U=>?_) λc a' ey=>I c a' (by rw[ey]);rw[ey]at hK I;simp only at hK I;obtain⟨xe,_⟩:=xq.e hF ey;have L6:=L6.eff U;have L4:=L4.eff U;have xk:=yy.eff U;have uh:=U.chg.size;have U:=hh.trans U;refine⟨L6.ld rfl rfl,?_⟩;refine kE λr2 w15 vf ug ym hx=>?_;have L6:=L6.ext hx;have L4:=L4.ext hx;have ud:=ue.ext hx;have yr:=U.x hx;refine⟨L6.ld rfl rfl,?_⟩;refine Ov (wbn:=w11.heap.size) (av:=[x]) L6 (xk.ext hx) ud ym (by simp) (by omega) (by omega) λva2 w16 L6 yx uc xh uq=>?_;have yq:=yr.then xh λk hk e=>by
   rcases e with e|e
   ·have:=xk.new k e;omega
   ·omega
  have L4:Loc w0 w16 p f M6 vt b4 ExT [.int .i64 0,.string (ofL []),.slice none 0 0,.slice none 0 0,.int .i64 0]:=⟨xh.at L4.1 λe=>e.elim (λe=>by have:=xk.new _ e;omega) (by omega),L4.2.up xh.size⟩;refine yJ uc xe.ws hN xe.l (λs7 e7 w17 ua ho=>?_) λc a' e7=>I c a' (by rw[e7]);rw[e7]at hK;simp only at hK;obtain⟨yp,_⟩:=xe.want e7;have L6:=L6.eff ho;have L4:=L4.eff ho;have xv:=yx.eff ho;have ho:=yq.trans ho;refine bZ L6.1 rfl ?_;refine Mg (e:=⟨29,u.t,[x,y],[],t.a⟩) ua L4 rfl (ER.noK rfl xv) (λe=>by have:=xv.new _ e;omega) (by simp[Value.ownBlock]) λw18 zz ys za=>?_;exact hK _ _ rfl M6 _ _ w18 zz yp (ho.one ys (by omega)) (za.le (by omega))
end
theorem Gd.tx{N:Int}{s:PS}{dl:Nat}(h:Gd N s dl)(j:(cur s).k=3):Gk (cur s).t/\(cur s).t.length<=100000:=by
 have hn:=h.now;have hm:=bG (yK hn.ws);have:=hn.ts _ hm (show(mN (bE s)).k=3 from j);exact this
section
variable [HX]
variable{w0 w w' w1:World}{p f b:Nat}{M M' M0:Lay}{vt:Value}{s:PS}{top:List Nat}{N:Int}{K:Q0}{e:Ex}{va vk:Value}{wbn:Nat}{wb:World}{dl:Nat}
theorem RA{E:PS->R Nat}{t:Tok}(hE:EC w0 f 82 E dl)(hF:rW E)(h:PR w0 w p f M vt s top)(hg:Gd N s dl)(ug:(cur s).k≠0)(zb:bE s=s)
  (hK:∀e s',Pk E s t.a=.ok e s'->∀M' va vk w',PR w0 w' p f M' vt s' top->Gd N s' dl->Eff p f M M' w w'->ER w0 w' p f M' vt w.heap.size e va vk->K (.agg (exc e va vk).toArray) w')(ht:∀c a',Pk E s t.a=.err c a'->Thr w0 f c a'):
  aC P0 266 [.pointer (some ⟨p,0,none⟩),.agg (fS t).toArray] w K:=by
 refine XK ?_;unfold aEm;have hN:=hg.hN;have xu:Gd N (step1 s) dl:=by have:=hg.step ug;rw[zb]at this;exact this
 refine fY (z:=fS t) λb3 w1 uk zt zk ys=>?_;have h1:=h.ext ys;have L3:=h.loc zt uk zk;refine bI λb4 w2 uj zs zj yi=>?_;have h2:=h1.ext yi;have L4:=h1.loc zs uj zj;have L3:=L3.ext yi;have ue:Eff p f M M w w2:=(Eff.ext ys).x yi;refine h2.go (wsi hg.ws hg.l) λw3 h3 xi an=>?_;have L3:=L3.eff xi;have L4:=L4.eff xi;have xi:=ue.trans xi;refine L3.ldf rfl ?_;simp only[dI,eY,cW,aB,aN,aY,bB,Nat.reduceAdd,Nat.reduceLT,dV,aA];have lt4:=L4.lt;refine bI λb5 w4 ui zr zi yh=>?_;have L5:=h3.loc zr ui zi;have h4:=h3.ext yh;have L4:=L4.ext yh;refine cK (l:=[i64 8,str [],.slice none 0 0,.slice none 0 0,i64 t.a]) L5.1 rfl rfl rfl λw5 ak zh yl=>?_;have L5:Loc w0 w5 p f M vt b5 ExT [i64 8,str [],.slice none 0 0,.slice none 0 0,i64 t.a]:=⟨zh,L5.2.up (by omega)⟩;have h5:=h4.one yl L5.2;have L4:=L4.one yl (by omega);have ud:Eff p f M M w w5:=(xi.x yh).one yl (by have:=xi.chg.size;omega);refine Ac h5 xu.ws hN xu.l λw6 h6 xo=>?_;have L4:=L4.eff xo;have L5:=L5.eff xo;have xo:=ud.trans xo;have xb:=xu.lines;unfold Pk at hK ht;generalize hR:Ge E t.a (s.toks.length+1) (gM (step1 s)) [] []=R0 at hK ht;have ao:=xo.chg.size;obtain⟨B1,bd⟩:∃B1,B1=w6.heap.size:=⟨_,rfl⟩;have lt5:=L5.lt;have lt4:=L4.lt;have ar:=xi.chg.size;have yy:(gM (step1 s)).toks.length=s.toks.length:=congrArg List.length ((nG xu.ws).1.toks);refine cY.go (λst w'=>st=[]/\∃s1 M1 av ks va vk n,PR w0 w' p f M1 vt s1 top/\Gd N s1 dl/\Eff p f M M1 w w'/\Loc w0 w' p f M1 vt b5 ExT [i64 8,str [],va,vk,i64 t.a]/\Loc w0 w' p f M1 vt b4 ExT [.int .i64 0,.string (ofL []),.slice none 0 0,.slice none 0 0,.int .i64 0]/\
   Ro w0 w' p f M1 vt B1 jD 1 va av.length (ints av)/\Ro w0 w' p f M1 vt B1 StT 1 vk ks.length (strs ks)/\(∀k,va.ownBlock=some k->vk.ownBlock≠some k)/\B1<=w'.heap.size/\Ge E t.a n s1 av ks=R0/\s1.toks.length<n+s1.i/\av.length<=s1.i/\ks.length=av.length/\s1.toks.length=s.toks.length) (λ_ w'=>s.toks.length-AP w' p)
  ⟨rfl,_,M,[],[],_,_,s.toks.length+1,h6,xb,xo,L5,L4,Ro.nil _ _,Ro.nil _ _,λk hk=>by simp[Value.ownBlock]at hk,by omega,hR,by omega,by simp,rfl,yy⟩ ?_
 rintro st g w7 ⟨rfl,s1,M1,av,ks,va,vk,n,h7,xa,uc,L5,L4,rA,rK,dd,aj,j,hn,ba,ua,au⟩;have vy:=xa.ws.lt;obtain⟨n,rfl⟩:∃m,n=m+1:=⟨n-1,by omega⟩;refine vL h7 xa.ws hN xa.l λw8 h8 hx=>?_;have L4:=L4.eff hx;have L5:=L5.eff hx;have rA:=rA.eff hx;have rK:=rK.eff hx;have ai:=hx.chg.size;have hx:=uc.trans hx;have xh:=xa.take [125];have tg:=jT xa.ws [125];have tgt:=congrArg List.length tg.1.toks;simp only[Ge]at j;rw[eP,bY];refine⟨λyj=>?_,λyg=>?_⟩
 ·have yj:(bX s1 [125]).1=false:=by simpa using yj
  rw[aE (by rw[yj];decide)]at j;generalize aw:(bX s1 [125]).2=s2 at*
  refine Mt h8 xh.ws hN xh.l λw9 h9 hh=>?_;have L4:=L4.eff hh;have L5:=L5.eff hh;have rA:=rA.eff hh;have rK:=rK.eff hh;have ah:=hh.chg.size;have hh:=hx.trans hh;have xt:=xh.next;have ng:=sF xh.ws;have ngt:=congrArg List.length ng.1.toks;have az:=xh.at0;have lt5:=L5.lt;have lt4:=L4.lt;refine bI λb6 w10 uh yr yn ho=>?_;have L6:=h9.loc yr uh yn;have vf:=h9.ext ho;have L4:=L4.ext ho;have L5:=L5.ext ho;have nA6:va.ownBlock≠some b6:=λe=>by have:=(rA.off _ e).1.2;omega
  have nK6:vk.ownBlock≠some b6:=λe=>by have:=(rK.off _ e).1.2;omega
  have rA:=rA.ext ho;have rK:=rK.ext ho;refine cK (l:=fS (cur s2)) L6.1 rfl rfl rfl λw11 vu ym hv=>?_;have L6:Loc w0 w11 p f M1 vt b6 TkT (fS (cur s2)):=⟨ym,L6.2.up (by omega)⟩;have xy:=vf.one hv L6.2;have L4:=L4.one hv (by omega);have L5:=L5.one hv (by omega);have rA:=rA.one hv nA6;have rK:=rK.one hv nK6;have xq:Eff p f M M1 w w11:=(hh.x ho).one hv (by have:=hh.chg.size;omega);have vx:=xq.chg.size;refine bU.cut (λ_ w'=>∃k s3,(if(cur s2).k=3 then qO (jE s2) (cur s2)else if(cur s2).k=1 then .ok (cur s2).t (jE s2)else .err 50 (cur s2).a)=.ok k s3/\s3=jE s2/\PR w0 w' p f M1 vt (jE s2) top/\Loc w0 w' p f M1 vt b6 TkT [i64 (cur s2).k,str k,i64 (cur s2).a]/\Eff p f M M1 w w'/\Loc w0 w' p f M1 vt b5 ExT [i64 8,str [],va,vk,i64 t.a]/\Loc w0 w' p f M1 vt b4 ExT [.int .i64 0,.string (ofL []),.slice none 0 0,.slice none 0 0,.int .i64 0]/\Ro w0 w' p f M1 vt B1 jD 1 va av.length (ints av)/\Ro w0 w' p f M1 vt B1 StT 1 vk ks.length (strs ks)/\w11.heap.size<=w'.heap.size) ?_ ?_
  ·refine L6.ldf rfl ?_;rw[bO,aO];refine⟨λxl=>?_,λxl=>?_⟩
   ·have zw:=xh.tx xl;rw[aJ xl]at j;refine bZ L6.1 rfl ?_;refine Nz xy zw.1 (by omega) (λl s3 el w12 U=>?_) λc a' el=>ht c a' (by rw[<-j,el];rfl);rw[bT,bW,aX];refine(L6.ext U).st rfl (by simp[fS]) λw13 L6 hs vr=>?_;have ve:=(xy.ext U).one hs L6.2;have e3:s3=jE s2:=by
     unfold qO at el;split at el
     ·cases el
     ·injection el with _ el;exact el.symm
    exact⟨l,s3,by rw[aJ xl];exact el,e3,ve,L6,(xq.x U).one hs (by have:=hh.chg.size;omega),(L5.ext U).one hs (by omega),(L4.ext U).one hs (by omega),(rA.ext U).one hs nA6,(rK.ext U).one hs nK6,by have:=U.size;omega⟩
   ·rw[bO,aO];refine⟨λyk=>?_,λyk=>?_⟩
    ·exact⟨_,_,by rw[aE xl,aJ yk],rfl,xy,L6,xq,L5,L4,rA,rK,aV _⟩
    ·refine L6.ldf rfl ?_;refine qU xy (ht 50 (cur s2).a ?_);rw[<-j,aE xl,aE yk];rfl
  rintro _ g2 w12 ⟨k,s3,ek,rfl,zo,L6,zg,L5,L4,rA,rK,vs⟩;rw[ek]at j;simp only[R.bind]at j;refine bU.cut (λ_ w'=>w'=w12/\ks.contains k=false) ?_ ?_
  ·rw[bT,bW,aX];refine L5.ld rfl ?_;refine L6.ldf rfl ?_;refine Dp rK.own.sl (by have:=xa.few;omega) ?_;rw[aO];refine⟨λhm=>?_,λhm=>⟨rfl,by simpa using hm⟩⟩;refine L6.ldf rfl ?_;refine qU zo (ht 2 (cur s2).a ?_);rw[<-j,aJ (by simpa using hm)]
  rintro _ g3 w13 ⟨rfl,zy⟩;rw[aE (by rw[zy];decide)]at j;refine yJ zo xt.ws hN xt.l (λs4 e4 w14 yo o=>?_) λc a' e4=>ht c a' (by rw[<-j,e4]);rw[e4]at j;simp only at j;obtain⟨xp,aa,_⟩:=xt.want e4;have w14s:=kQ xt.ws [61];rw[e4]at w14s;have w14t:=congrArg List.length w14s.1.1.toks;have L4:=(L4.eff o).drew;have L5:=(L5.eff o).drew;have L6:=(L6.eff o).drew;have rA:=(rA.eff o).ext (dE w14);have rK:=(rK.eff o).ext (dE w14);have vq:=o.chg.size;have zd14:w14.drew.heap.size=w14.heap.size:=rfl;have o:=(zg.trans o).x (dE w14);have yo:=yo.drew;rw[bT,bW,aX];refine L5.ld rfl ?_;refine L6.ldf rfl ?_;rw[bT,bW,aX];refine L5.ld rfl ?_;refine xR λr w15 hr vo zx hj=>?_;have L4:=L4.ext hj;have L5:=L5.ext hj;have rA:=rA.ext hj;have rK:=rK.ext hj;have vd:=yo.ext hj;have yf:=o.x hj;have vw:=yf.chg.size;refine⟨L5.ld rfl rfl,L5.ld rfl rfl,?_⟩;refine Ro.app SQ rK vd zx rfl (λu hu=>by simp only[bK]at hu;subst hu;rfl) (by have:=xa.few;omega) (by decide) (by omega) λvk' w16 rK' xf yw vb=>?_;have L5:=L5.row xf λe=>by have:=rK.new b5 e;omega
  have L4:=L4.row xf λe=>by have:=rK.new b4 e;omega
  have dd':∀k,va.ownBlock=some k->vk'.ownBlock≠some k:=λk hk e=>(yw k e).elim (dd k hk) λe=>by have:=(rA.off k hk).1.2;omega
  have rA:=rA.row xf dd;have zf:=yf.then xf λk hk e=>by have:=rK.new k e;omega
  have vn:=xf.size;refine⟨L5.ld rfl rfl,?_⟩;rw[bT,bW,aX];refine hE w16 p M1 vt s4 top N _ vb xp (λx s5 ex M5 w17 uz hc=>?_) λc a' ex=>ht c a' (by rw[<-j,ex]);rw[ex]at j;simp only at j;obtain⟨xj,vz⟩:=xp.e hF ex;have e17t:=hF.ok N s4 xp.ws;rw[ex]at e17t;have e17t:=congrArg List.length e17t.1.1.toks;have L4:=L4.eff hc;have L5:=L5.eff hc;have rA:=rA.eff hc;have rK:=rK'.eff hc;have vm:=hc.chg.size;have hc:=zf.trans hc;refine⟨L5.ld rfl rfl,?_⟩;refine kE λr2 w18 ax vl yz hi=>?_;have L4:=L4.ext hi;have L5:=L5.ext hi;have rA:=rA.ext hi;have rK:=rK.ext hi;have uy:=uz.ext hi;have ye:=hc.x hi;have vv:=ye.chg.size;refine⟨L5.ld rfl rfl,?_⟩;refine Ro.app CB rA uy yz rfl (λu hu=>by simp only[bK]at hu;subst hu;rfl) (by have:=xa.few;omega) (by decide) (by omega) λva' w19 rA' xe yu ux=>?_;have L5:=L5.row xe λe=>by have:=rA.new b5 e;omega
  have L4:=L4.row xe λe=>by have:=rA.new b4 e;omega
  have dd2:∀k,va'.ownBlock=some k->vk'.ownBlock≠some k:=λk hk e=>(yu k hk).elim (λh=>dd' k h e) λh=>by have:=(rK.off k e).1.2;omega
  have rK:=rK.row xe λk hk e=>dd' k e hk;have ze:=ye.then xe λk hk e=>by have:=rA.new k e;omega
  have vj:=xe.size;obtain⟨vp,vc,ev,_⟩:=rK.own.sl.shape;refine L5.st (by rw[ev];rfl) (by simp) λw20 L5 xd vi=>?_;have uw:=ux.one xd L5.2;have L4:=L4.one xd (by omega);have nA5:va'.ownBlock≠some b5:=λe=>by have:=rA'.new b5 e;omega
  have nK5:vk'.ownBlock≠some b5:=λe=>by have:=rK.new b5 e;omega
  have rA:=rA'.one xd nA5;have rK:=rK.one xd nK5;rw[bT,bW,aX];obtain⟨vp2,vc2,ev2,_⟩:=rA.own.sl.shape;refine L5.st (by rw[ev2];rfl) (by simp) λw21 L5 xc vh=>?_;have uv:=uw.one xc L5.2;have L4:=L4.one xc (by omega);have rA:=rA.one xc nA5;have rK:=rK.one xc nK5;have yt:w.heap.size<=b5:=by omega
  have zd:=(ze.one xd yt).one xc yt;simp only[aY,bB]at L5;have xn:=xj.take [44];have tg5:=jT xj.ws [44];have tg5t:=congrArg List.length tg5.1.toks;refine bU.cut (λ_ w'=>∃s6,(s6=(bX s5 [44]).2\/s6=bE (bX s5 [44]).2)/\Ge E t.a n (gM s6) (av++[x]) (ks++[k])=R0/\PR w0 w' p f M5 vt s6 top/\Eff p f M5 M5 w21 w') ?_ ?_
  ·refine vL uv xj.ws hN xj.l λw22 xx xk=>?_;rw[eP];simp only[fQ];by_cases hy:(bX s5 [44]).1=true
   ·rw[hy,iW,AL];intro g4;rw[tK];simp only[fQ,AL];intro g5;rw[tK,cP];rw[aE (λh=>by rw[hy]at h;exact absurd h.1 (by decide)),aJ hy]at j;exact⟨_,.inl rfl,j,xx,xk⟩
   ·have hy:(bX s5 [44]).1=false:=by simpa using hy
    rw[hy,iS];have zu:(if(bX s5 [44]).1=true then(bX s5 [44]).2 else bE (bX s5 [44]).2)=bE (bX s5 [44]).2:=aE (by rw[hy];decide);rw[zu]at j;refine GdW.act (decide ((cur (bX s5 [44]).2).k≠5)) (λw'=>PR w0 w' p f M5 vt (bE (bX s5 [44]).2) top/\Eff p f M5 M5 w21 w') (λe=>by cases e) (λ_ J hJ=>?_) λg4 w23 zn=>?_
    ·refine nR xx xn.ws hN xn.l λw23 xg hq=>?_;refine⟨i64 (cur (bX s5 [44]).2).k,rfl,?_⟩;dsimp only;rw[gD];exact hJ w23 ⟨xg,xk.trans hq⟩
    simp only[aG,aM,lH];obtain⟨xg,hq⟩:=zn;have xr:=xn.now;by_cases h5:(cur (bX s5 [44]).2).k≠5
    ·rw[bH h5];simp only[fQ];refine GdW.act (!isS (bE (bX s5 [44]).2) [125]) (λw'=>PR w0 w' p f M5 vt (bE (bX s5 [44]).2) top/\Eff p f M5 M5 w21 w') (λe=>by cases e) (λ_ J hJ=>?_) λg5 w24 zm=>?_
     ·refine xR λb w24 hb yq zl ya=>?_;have xw:=xg.ext ya;have L:=xg.loc yq hb zl;refine aBP xw xr.ws hN xr.l ⟨Bn zl rfl,λk hk=>by simp only[Value.ownBlock,bF]at hk;subst hk;exact L.2⟩ λw25 xv yd=>?_;rw[eP];rw[gV]at xv;exact hJ w25 ⟨xv,(hq.x ya).trans yd⟩
     obtain⟨xw,zc⟩:=zm;simp only[aG,aM,lH];rw[bY];refine⟨λhz=>?_,λhz=>?_⟩
     ·have hz:isS (bE (bX s5 [44]).2) [125]=false:=by simpa using hz
      refine nR xw xr.ws hN xr.l λw25 xv yd=>?_;refine⟨i64 (cur (bE (bX s5 [44]).2)).a,rfl,?_⟩;refine qU xv (ht 50 _ ?_);rw[<-j,aJ ⟨hy,h5,hz⟩]
     ·have hz:isS (bE (bX s5 [44]).2) [125]=true:=by simpa using hz
      rw[aE (λh=>by rw[h.2.2]at hz;cases hz)]at j;exact⟨_,.inr rfl,j,xw,zc⟩
    ·rw[cH h5];simp only[fQ,AL];intro g5;rw[tK,cP];rw[aE (λh=>h5 h.2.1)]at j;exact⟨_,.inr rfl,j,xg,hq⟩
  rintro _ g4 w22 ⟨s6,es6,za,xx,xk⟩;have xb:Gd N s6 dl/\(bX s5 [44]).2.i<=s6.i/\s6.toks=(bX s5 [44]).2.toks:=by
   rcases es6 with rfl|rfl
   ·exact⟨xn,aV _,rfl⟩
   ·exact⟨xn.now,Kg _,(gI xn.ws).toks⟩
  obtain⟨xb,ay,et6⟩:=xb;have et6:=congrArg List.length et6;refine Ac xx xb.ws hN xb.l λw23 xg hq=>?_;have lg:=nG xb.ws;have lgt:=congrArg List.length lg.1.toks;have I:=xk.trans hq;have vg:=I.chg.size;have i1:=tg.1.le;have i2:=ng.1.le;have i3:=tg5.1.le;have i4:=lg.1.le;have yc:=xb.lines;have zz:=yc.ws.lt;refine⟨⟨rfl,gM s6,M5,av++[x],ks++[k],va',vk',n,xg,yc,zd.trans I,L5.eff I,L4.eff I,?_,?_,dd2,by omega,za,by omega,?_,by simp[ua],by omega⟩,?_⟩
  ·rw[aU,aB,aN,Fe];exact rA.eff I
  ·rw[aU,aB,aN,QK];exact rK.eff I
  ·rw[aU,aB,aN];omega
  ·rw[xg.at_,h7.at_];omega
 ·have yg:(bX s1 [125]).1=true:=by simpa using yg
  rw[aJ yg]at j;refine bZ L5.1 rfl ?_;have uu:ER w0 w8 p f M1 vt B1 ⟨8,[],av,ks,t.a⟩ va vk:=⟨rA,rK,dd⟩;refine Mg (e:=⟨8,[],av,ks,t.a⟩) h8 L4 rfl uu (λe=>by have:=rA.new b4 e;omega) (λe=>by have:=rK.new b4 e;omega) λw9 h9 uf uq=>?_;exact hK _ _ j.symm M1 _ _ w9 h9 xh (hx.one uf (by omega)) (uq.le (by omega))
end
theorem yI{α:Type}{s:PS}{a:Int}{q:Bool}{f:PS->R α}(hd:s.deep≠24):within s a q f=(f {s with deep:=s.deep+1,quiet:=q}).bind λx s'=>.ok x {s' with deep:=s.deep,quiet:=s.quiet}:=by
 unfold within;rw[aE hd]
theorem uI{α:Type}{s:PS}{a:Int}{q:Bool}{f:PS->R α}(hd:s.deep=24):within s a q f=.err 7 a:=by
 unfold within;rw[aJ hd]
theorem iQ(s:PS)(w:Str):isS (bE s) w=isS s w:=by unfold isS;rw[lC]
section
variable [HX]
variable{w0 w w' w1:World}{p f b:Nat}{M M' M0:Lay}{vt:Value}{s:PS}{top:List Nat}{N:Int}{K:Q0}{e:Ex}{va vk:Value}{wbn:Nat}{wb:World}{dl:Nat}
theorem Gd.sign{x:Str}(j:Gd N s (dl+1))(hi:isS s x=true)(q:Bool):
  Gd N {bE s with deep:=(bE s).deep+1,quiet:=q} dl/\bE {bE s with deep:=(bE s).deep+1,quiet:=q}={bE s with deep:=(bE s).deep+1,quiet:=q}/\(cur {bE s with deep:=(bE s).deep+1,quiet:=q}).k≠0/\Gd N (step1 {bE s with deep:=(bE s).deep+1,quiet:=q}) dl:=by
 have h1:=j.now.frame q;obtain⟨a,b,c⟩:=oZ j.ws hi ((bE s).deep+1) q;have o:=h1.step b;rw[a]at o;exact⟨h1,a,b,o⟩
theorem BH{x:Str}{KK:Q0}(h:PR w0 w p f M vt s top)(J:Gd N s dl)(hK:∀w',PR w0 w' p f M vt (bE s) top->Eff p f M M w w'->KK (.bool (isS s x)) w'):
  dN StT 1 [(.string (ofL []))] [(0,1,str x)] w λt60 w17=>aC P0 49 [.pointer (some ⟨p,0,none⟩),t60] w17 KK:=by
 refine xR λb w1 hb I o j=>?_;have L1:=h.loc I hb o;refine aBP (h.ext j) J.ws J.hN J.l ⟨Bn o rfl,λk hk=>by simp only[Value.ownBlock,bF]at hk;subst hk;exact L1.2⟩ λw2 h2 U=>hK w2 h2 ((Eff.ext j).trans U)
theorem aB8{E:PS->R Nat}(hS:zN w0 f)(hE:∀d,dl=d+1->EC w0 f 82 E d)(hF:rW E):EC w0 f 236 (BX E) dl:=by
 intro w p M vt s top N K h hg hK ht;refine XZ ?_;unfold aEz;have hN:=hg.hN;have uk:=hg.at0;refine tW rfl λb1 w1 zr zj zb ys=>?_;have h1:=h.ext ys;have L1:=h.loc zj zr zb;refine L1.ld rfl ?_;refine nR h1 hg.ws hN hg.l λw2 h2 xv=>?_;have L1:=L1.eff xv;have xv:=(Eff.ext ys).trans xv;have lt1:=L1.lt;refine bI λb3 w3 zq zi za yh=>?_;have h3:=h2.ext yh;have L3:=h2.loc zi zq za;have L1:=L1.ext yh;refine cK (l:=fS (cur s)) L3.1 rfl rfl rfl λw4 ud yz ym=>?_;have L3:Loc w0 w4 p f M vt b3 TkT (fS (cur s)):=⟨yz,L3.2.up (by omega)⟩;have h4:=h3.one ym L3.2;have L1:=L1.one ym (by omega);have ug:=xv.chg.size;have zm:=(xv.x yh).one ym (by omega);refine L3.ldf rfl ?_;simp only[dI,eY,cW,aB,aN,aY,bB,Nat.reduceAdd,Nat.reduceLT,dV,aA];have lt3:=L3.lt;refine bI λb4 w5 zp zh yy yc=>?_;have h5:=h4.ext yc;have L4:=h4.loc zh zp yy;have L1:=L1.ext yc;have L3:=L3.ext yc;refine cK (l:=[i64 0,str [],.slice none 0 0,.slice none 0 0,i64 (cur s).a]) L4.1 rfl rfl rfl λw6 uc yx ye=>?_;have L4:Loc w0 w6 p f M vt b4 ExT [i64 0,str [],.slice none 0 0,.slice none 0 0,i64 (cur s).a]:=⟨yx,L4.2.up (by omega)⟩;have h6:=h5.one ye L4.2;have L1:=L1.one ye (by omega);have L3:=L3.one ye (by omega);have xu:=(zm.x yc).one ye (by omega);have uf:=xu.chg.size;have xc:=hg.now;have yi:=wsi xc.ws xc.l;have hx:b1≠b4:=by omega
 have xx:b3≠b4:=by omega
 have hr:w.heap.size<=b4:=by omega
 have zy:=xc.lev;have xw:(bE s).deep<=24:=by omega
 refine bU.cut (λ_ w'=>∃M1 s1 e va vk,PR w0 w' p f M1 vt s1 top/\Gd N s1 dl/\Eff p f M M1 w w'/\Loc w0 w' p f M1 vt b1 PpT [.pointer (some ⟨p,0,none⟩)]/\Loc w0 w' p f M1 vt b4 ExT (exc e va vk)/\ER w0 w' p f M1 vt w.heap.size e va vk/\BX E s=rO s1 e) ?_ ?_
 ·unfold BX at hK ht⊢;simp only at hK ht⊢;refine L3.ldf rfl ?_;rw[bO,aO];refine⟨λhk=>?_,λhk=>?_⟩
  ·
   have xo:(cur s).k≠0:=by rw[hk];decide
   refine L1.ld rfl ?_;refine h6.go yi λw7 h7 o yp=>?_;have L1:=L1.eff o;have L3:=(L3.eff o).drew;have L4:=(L4.eff o).drew;have h7:=h7.drew;have o:=(xu.trans o).x (dE w7);rw[bT,bW,aX];refine L3.ld rfl ?_;rw[bT,bW,aX];refine L4.st rfl (by simp) λw8 L4 yd yo=>?_;have L3:=L3.one yd xx;refine⟨L3.ld rfl rfl,?_⟩;rw[bT,bW,aX];refine L4.st rfl (by simp) λw9 L4 hh ya=>?_;have h9:=(h7.one yd L4.2).one hh L4.2;refine⟨M,_,⟨4,(cur s).t,[],[],(cur s).a⟩,.slice none 0 0,.slice none 0 0,h9,hg.step xo,(o.one yd hr).one hh hr,(L1.drew.one yd hx).one hh hx,L4,ER.leaf rfl rfl,by rw[aJ hk]⟩
  rw[aE hk]at hK ht⊢;refine L3.ldf rfl ?_;rw[bO,aO];refine⟨λxe=>?_,λxe=>?_⟩
  ·
   rw[aJ xe]at hK ht;have xo:(cur s).k≠0:=by rw[xe];decide
   refine L1.ld rfl ?_;refine h6.go yi λw7 h7 o yp=>?_;have L1:=L1.eff o;have L3:=L3.eff o;have o:=xu.trans o;refine L1.ld rfl ?_;refine bZ L3.1 rfl ?_;have yt:=hg.tx xe;have yk:=kH hg.ws;have uj:=(pQ xo).1;have zk:wt {cur s with k:=3}=wt (mN (bE s)):=by
    have e3:(mN (bE s)).k=3:=xe;unfold wt;simp only[e3];rfl
   refine aAn hS hE hF h7 (hg.step xo) yt.1 yt.2 ⟨yk.1,yk.2.1⟩ (yk.2.2.2.1 xe) (by rw[zk];have:=hg.phi;omega) (λx s' ex M' w8 h8 hj=>?_) λc a' ex=>ht c a' ex;exact hK x s' ex M' w8 h8 (o.trans hj)
  rw[aE xe]at hK ht⊢;refine L3.ldf rfl ?_;rw[bO];simp only[fQ];refine GdW.look (decide ((cur s).t≠Kt)) (λ_ J hJ=>?_) λg=>?_
  ·refine L3.ldf rfl ?_;rw[vG];exact hJ
  simp only[aG];rw[fK,bY];refine⟨λyl=>?_,λyl=>?_⟩
  ·
   have hc:(cur s).k=1/\(cur s).t≠Kt:=by simpa using yl
   rw[aJ hc]at hK ht⊢;have xo:(cur s).k≠0:=by rw[hc.1];decide
   have xp:=hg.step xo;refine L1.ld rfl ?_;refine h6.go yi λw7 h7 o yp=>?_;have L1:=L1.eff o;have L3:=L3.eff o;have L4:=L4.eff o;have o:=xu.trans o;refine L1.ld rfl ?_;refine BH h7 xp λw8 h8 hj=>?_;have L1:=L1.eff hj;have L3:=L3.eff hj;have L4:=L4.eff hj;have hj:=o.trans hj;rw[eP,bY];refine⟨λhn=>?_,λhy=>?_⟩
   ·have hn:isS (step1 (bE s)) [40]=false:=by simpa using hn
    rw[aE (by rw[hn];decide)];refine L3.ldf rfl ?_;refine Wz ?_;rw[bT,bW,aX];refine L4.st rfl (by simp) λw9 L4 hh ya=>?_;have h9:=h8.one hh L4.2;have L1:=L1.one hh hx;have L3:=L3.one hh xx;have hs:=hj.one hh hr;refine L4.ldf rfl ?_;rw[bO,aO];refine⟨λh9k=>?_,λh9k=>?_⟩
    ·refine L3.ldf rfl ?_;rw[bT,bW,aX];refine L4.st rfl (by simp) λw10 L4 xa yr=>?_;refine⟨M,_,⟨yW (cur s).t,(cur s).t,[],[],(cur s).a⟩,.slice none 0 0,.slice none 0 0,h9.one xa L4.2,xp.now,hs.one xa hr,L1.one xa hx,L4,ER.leaf rfl rfl,by rw[aJ h9k]⟩
    ·refine⟨M,_,⟨yW (cur s).t,[],[],[],(cur s).a⟩,.slice none 0 0,.slice none 0 0,h9,xp.now,hs,L1,L4,ER.leaf rfl rfl,by rw[aE h9k]⟩
   ·have hy:isS (step1 (bE s)) [40]=true:=by simpa using hy
    rw[aJ hy]at hK ht⊢;have L1:=L1.drew;have L3:=L3.drew;have L4:=L4.drew;have h8:=h8.drew;have hj:=hj.x (dE w8);rw[bT,bW,aX];refine L3.ld rfl ?_;rw[bT,bW,aX];refine L4.st rfl (by simp) λw9 L4 hh ya=>?_;have h9:=h8.one hh L4.2;have L1:=L1.one hh hx;have L3:=L3.one hh xx;have hs:=hj.one hh hr;refine⟨L3.ld rfl rfl,?_⟩;rw[bT,bW,aX];refine L4.st rfl (by simp) λw10 L4 xa yr=>?_;have xi:=(h9.one xa L4.2).drew;have L1:=(L1.one xa hx).drew;have L4:=L4.drew;have j:=(hs.one xa hr).x (dE w10);simp only[aY,bB]at L4;refine L1.ld rfl ?_;refine L1.ld rfl ?_;have yj:=xp.now;refine nR xi yj.ws hN yj.l λw11 yf ho=>?_;rw[gV]at yf;rw[lC];have L1:=L1.eff ho;have L4:=L4.eff ho;have ho:=j.trans ho;refine⟨L1.ld rfl rfl,i64 (cur (step1 (bE s))).a,rfl,?_⟩;have ui:=yj.lev;refine pL yf (by omega) (λhd=>ht 7 _ (by rw[uI hd];rfl)) λhd w12 xh I=>?_;obtain⟨d,rfl⟩:∃d,dl=d+1:=⟨dl-1,by omega⟩;rw[yI hd]at ht⊢;obtain⟨q1,q2,q3,q4⟩:=xp.sign hy true;have L1:=L1.eff I;have L4:=L4.eff I;have I:=ho.trans I;refine kD (caps:=[.pointer (some ⟨b1,0,none⟩),.pointer (some ⟨b4,0,none⟩)]) ?_;refine XQ ?_;unfold aEs;refine L1.ld rfl ?_;refine xh.go (wsi q1.ws q1.l) λw13 xg hv yq=>?_;have L1:=L1.eff hv;have L4:=L4.eff hv;have hv:=I.trans hv;refine L1.ld rfl ?_;have lt4':=L4.lt;refine Ty (hE d rfl) hF xg q4 (λl s' el M' v w14 xf yg U xt=>?_) λc a' el=>ht c a' (by rw[el];rfl);have L1:=L1.eff U;have L4:=L4.eff U;have zx:=hv.chg.size;obtain⟨vp,vc,ev,_⟩:=xt.own.sl.shape;have nv4:v.ownBlock≠some b4:=λe=>by have:=xt.new b4 e;omega
    rw[bT,bW,aX];refine L4.st (by rw[ev];rfl) (by simp) λw15 L4 xm zu=>?_;have yn:=xf.one xm L4.2;have L1:=L1.one xm hx;have yu:=xt.one xm nv4;have xl:=(hv.trans U).one xm hr;have hg14l:=yg.lev;refine⟨M',s',yn,by omega,λw16 zt xk=>?_⟩;refine⟨M',_,⟨12,(cur s).t,l,[],(cur s).a⟩,v,.slice none 0 0,zt,xp.now.back yg,xl.trans xk,L1.eff xk,L4.eff xk,(ER.noK rfl (yu.le (by omega))).eff xk,by rw[el];rfl⟩
  ·
   have hc:¬((cur s).k=1/\(cur s).t≠Kt):=by simpa using yl
   rw[aE hc]at hK ht⊢;simp only[iQ]at hK ht⊢;have ret5:∀{w7 w8:World} {M':Lay} {s':PS} {e:Ex} {va vk:Value},PR w0 w7 p f M' vt s' top->Loc w0 w7 p f M' vt b1 PpT [.pointer (some ⟨p,0,none⟩)]->Loc w0 w7 p f M' vt b4 ExT [i64 0,str [],.slice none 0 0,.slice none 0 0,i64 (cur s).a]->ER w0 w7 p f M' vt w8.heap.size e va vk->b4<w8.heap.size->w.heap.size<=w8.heap.size->∀{KW:World->Prop},
     (∀w9,PR w0 w9 p f M' vt s' top->Chg (One b4) w7 w9->Loc w0 w9 p f M' vt b1 PpT [.pointer (some ⟨p,0,none⟩)]->Loc w0 w9 p f M' vt b4 ExT (exc e va vk)->ER w0 w9 p f M' vt w.heap.size e va vk->KW w9)->stW 5 (.pointer (some ⟨b4,0,none⟩)) (.agg (exc e va vk).toArray) w7 KW:=λ{w7 w8 M' s' e va vk} h7 L1 L4 xq hb hw {KW} zs=>by
    refine cK (l:=exc e va vk) L4.1 rfl rfl (NZ xq) λw9 ya zn hh=>?_;exact zs w9 (h7.one hh L4.2) hh (L1.one hh hx) ⟨zn,L4.2.up (by omega)⟩ ((xq.one hh (λe=>by have:=xq.rA.new b4 e;omega) (λe=>by have:=xq.rK.new b4 e;omega)).le hw)
   refine L1.ld rfl ?_;refine BH h6 xc λw7 h7 o=>?_;rw[gV]at h7;have L1:=L1.eff o;have L3:=L3.eff o;have L4:=L4.eff o;have o:=xu.trans o;rw[iQ,bY];refine⟨λhi=>?_,λhi=>?_⟩
   ·rw[aJ hi]at hK ht;have lt1:=L1.lt;have ue:=o.chg.size;refine bI λb5 w8 zo yo yw yb=>?_;have h8:=h7.ext yb;have L5:=h7.loc yo zo yw;refine L5.st rfl (by simp) λw9 L5 hh ya=>?_;have h9:=h8.one hh L5.2;have L1:=(L1.ext yb).one hh (by omega);have L3:=(L3.ext yb).one hh (by have:=L3.lt;omega);have hs:=(o.x yb).one hh (by omega);refine L1.ld rfl ?_;refine L3.ldf rfl ?_;refine pL h9 xw (λhd=>ht 7 _ (by rw[uI hd])) λhd w10 xi j=>?_;obtain⟨d,rfl⟩:∃d,dl=d+1:=⟨dl-1,by omega⟩;rw[yI hd]at ht hK;obtain⟨q1,q2,q3,q4⟩:=hg.sign hi true;have L1:=L1.eff j;have L5:=L5.eff j;have j:=hs.trans j;refine kD (caps:=[.pointer (some ⟨b1,0,none⟩),.pointer (some ⟨b5,0,none⟩)]) ?_;refine XO ?_;unfold aEq;refine L1.ld rfl ?_;refine xi.go (wsi q1.ws q1.l) λw11 yf ho zw=>?_;have L1:=L1.eff ho;have L5:=L5.eff ho;have ho:=j.trans ho;refine L1.ld rfl ?_;refine hE d rfl w11 p M vt _ top N _ yf q4 (λx s' ex M' w12 xh I=>?_) λc a' ex=>ht c a' (by rw[ex];rfl);obtain⟨g12,_⟩:=q4.e hF ex;rw[ex]at hK ht;simp only[R.bind]at hK ht;have L1:=L1.eff I;have L5:=L5.eff I;have I:=ho.trans I;refine L5.st rfl (by simp) λw13 L5 hz yq=>?_;have xg:=xh.one hz L5.2;have L1:=L1.one hz (by omega);have hv:=I.one hz (by omega);refine L1.ld rfl ?_;refine yJ xg g12.ws hN g12.l (λs3 e3 w14 xf U=>?_) λc a' e3=>ht c a' (by rw[e3]);rw[e3]at hK;simp only at hK;obtain⟨g14,_⟩:=g12.want e3;have g14l:=g14.lev;refine⟨M',s3,xf,by omega,λw15 yn xl=>?_⟩;refine((L5.eff U).eff xl).ld rfl ?_;exact hK x _ rfl M' w15 yn ((hv.trans U).trans xl)
   rw[aE (by rw[hi];decide)]at hK ht⊢;refine L1.ld rfl ?_;refine BH h7 xc λw8 h8 hj=>?_;rw[gV]at h8;have L1:=L1.eff hj;have L3:=L3.eff hj;have L4:=L4.eff hj;have hj:=o.trans hj;rw[iQ,bY];refine⟨λhi=>?_,λhi=>?_⟩
   ·rw[aJ hi]at hK ht⊢;refine L1.ld rfl ?_;refine L3.ldf rfl ?_;refine pL h8 xw (λhd=>ht 7 _ (by rw[uI hd];rfl)) λhd w10 xi j=>?_;obtain⟨d,rfl⟩:∃d,dl=d+1:=⟨dl-1,by omega⟩;rw[yI hd]at ht⊢;obtain⟨q1,q2,q3,q4⟩:=hg.sign hi true;have L1:=L1.eff j;have L3:=L3.eff j;have L4:=L4.eff j;have j:=hj.trans j;refine kD (caps:=[.pointer (some ⟨b1,0,none⟩),.pointer (some ⟨b3,0,none⟩),.pointer (some ⟨b4,0,none⟩)]) ?_;refine XN ?_;unfold aEp;refine L1.ld rfl ?_;refine bZ L3.1 rfl ?_;have lt4':=L4.lt;refine aBL (hE d rfl) hF xi q1 q3 q2 (λe s' el M' va vk w12 xh g12 I xz=>?_) λc a' el=>ht c a' (by rw[el];rfl);refine ret5 xh (L1.eff I) (L4.eff I) xz lt4' j.chg.size λw13 xg hz L1 L4 xy=>?_;have g12l:=g12.lev;refine⟨M',s',xg,by omega,λw14 xf U=>?_⟩;exact⟨M',_,e,va,vk,xf,xc.back g12,((j.trans I).one hz hr).trans U,L1.eff U,L4.eff U,xy.eff U,by rw[el];rfl⟩
   rw[aE (by rw[hi];decide)]at hK ht⊢;refine L1.ld rfl ?_;refine BH h8 xc λw9 h9 hs=>?_;rw[gV]at h9;have L1:=L1.eff hs;have L3:=L3.eff hs;have L4:=L4.eff hs;have hs:=hj.trans hs;rw[iQ,bY];refine⟨λhi=>?_,λhi=>?_⟩
   ·rw[aJ hi]at hK ht⊢;refine L1.ld rfl ?_;refine L3.ldf rfl ?_;refine pL h9 xw (λhd=>ht 7 _ (by rw[uI hd];rfl)) λhd w10 xi j=>?_;obtain⟨d,rfl⟩:∃d,dl=d+1:=⟨dl-1,by omega⟩;rw[yI hd]at ht⊢;obtain⟨q1,q2,q3,q4⟩:=hg.sign hi false;have L1:=L1.eff j;have L3:=L3.eff j;have L4:=L4.eff j;have j:=hs.trans j;refine kD (caps:=[.pointer (some ⟨b1,0,none⟩),.pointer (some ⟨b3,0,none⟩),.pointer (some ⟨b4,0,none⟩)]) ?_;refine XL ?_;unfold aEn;refine L1.ld rfl ?_;refine bZ L3.1 rfl ?_;have lt4':=L4.lt;refine RA (hE d rfl) hF xi q1 q3 q2 (λe s' el M' va vk w12 xh g12 I xz=>?_) λc a' el=>ht c a' (by rw[el];rfl);refine ret5 xh (L1.eff I) (L4.eff I) xz lt4' j.chg.size λw13 xg hz L1 L4 xy=>?_;have g12l:=g12.lev;refine⟨M',s',xg,by omega,λw14 xf U=>?_⟩;exact⟨M',_,e,va,vk,xf,xc.back g12,((j.trans I).one hz hr).trans U,L1.eff U,L4.eff U,xy.eff U,by rw[el];rfl⟩
   ·rw[aE (by rw[hi];decide)]at ht;refine L3.ldf rfl ?_;exact qU h9 (ht _ _ rfl)
 ·rintro _ g w7 ⟨M1,s1,e,va,vk,h7,zl,o,L1,L4,xq,ea⟩;rw[ea]at hK;refine L1.ld rfl ?_;refine bZ L4.1 rfl ?_;refine JS h7 o xq zl λM' w8 h8 hj _=>?_;exact hK _ _ rfl M' w8 h8 hj
end
section
variable [HX]
variable{w0 w w' w1:World}{p f b:Nat}{M M' M0:Lay}{vt:Value}{s:PS}{top:List Nat}{N:Int}{K:Q0}{e:Ex}{va vk:Value}{wbn:Nat}{wb:World}{dl:Nat}
theorem PR.row_new{l:List Nat}(h:PR w0 w p f M vt s top){r:Nat}(I:r=w.heap.size)(o:w'.heap.size=w.heap.size+1)(hb:w'.heap[r]?=some (.cells (ints l).toArray jD (0,0)))(hl:l.length<=1000000):
  Ro w0 w' p f M vt w.heap.size jD 1 (.slice (some ⟨r,0,none⟩) l.length l.length) l.length (ints l):=
 ⟨Rw hb (by have:=h.base;omega) (Sr l) hl,λk j=>by simp only[Value.ownBlock,bF]at j;subst j;exact h.off_new (by omega) (by omega),λk j=>by simp only[Value.ownBlock,bF]at j;omega⟩
theorem aAA{E:PS->R Nat}(hS:zN w0 f)(hE:∀d,dl=d+1->EC w0 f 82 E d)(hF:rW E):EC w0 f 205 (Ey E) dl:=by
 intro w p M vt s top N K h hg hK ht;refine Ym ?_;unfold aEJ;have hN:=hg.hN;refine tW rfl λb1 w1 zb zh za yq=>?_;have h1:=h.ext yq;have L1:=h.loc zh zb za;refine L1.ld rfl ?_;unfold Ey at hK ht;refine aB8 hS hE hF w1 p M vt s top N _ h1 hg (λx s1 ex M1 w2 h2 xl=>?_) λc a' ex=>ht c a' (by rw[ex];rfl);rw[ex]at hK ht;simp only[R.bind]at hK ht;have hA:rW (BX E):=⟨λN=>Lx (hF.ok N),JZ hF.z⟩;obtain⟨yk,zm⟩:=hg.e hA ex;have etl:=(hA.ok N) s hg.ws;rw[ex]at etl;have etl:=congrArg List.length etl.1.1.toks;have L1:=L1.eff xl;have xl:=(Eff.ext yq).trans xl;generalize hR:rZ E (s.toks.length+1) s1 x=R0 at hK ht;refine cY.go (λst w'=>∃s1 M1 x n,st=[i64 ((x:Nat):Int)]/\PR w0 w' p f M1 vt s1 top/\Gd N s1 dl/\Eff p f M M1 w w'/\Loc w0 w' p f M1 vt b1 PpT [.pointer (some ⟨p,0,none⟩)]/\rZ E n s1 x=R0/\s1.toks.length<n+s1.i/\s1.toks.length=s.toks.length) (λ_ w'=>s.toks.length-AP w' p)
  ⟨s1,M1,x,s.toks.length+1,rfl,h2,yk,xl,L1,hR,by have:=yk.ws.lt;omega,etl⟩ ?_
 clear xl L1 h2 ex yk zm etl hR;rintro st g w2 ⟨s2,M2,y,n,rfl,h2,xb,xl,L1,j,hn,uv⟩;simp only[aG];have ue:=xb.ws.lt;have ux:=xb.at0;obtain⟨n,rfl⟩:∃m,n=m+1:=⟨n-1,by omega⟩;simp only[rZ]at j;refine L1.ld rfl ?_;refine nR h2 xb.ws hN xb.l λw3 h3 xz=>?_;have L1:=L1.eff xz;have xz:=xl.trans xz;have xk:=xb.now;have lt1:=L1.lt;have uu:=xz.chg.size;refine bI λb4 w4 zq zg yz yg=>?_;have h4:=h3.ext yg;have L4:=h3.loc zg zq yz;have L1:=L1.ext yg;refine cK (l:=fS (cur s2)) L4.1 rfl rfl rfl λw5 uk yy yl=>?_;have L4:Loc w0 w5 p f M2 vt b4 TkT (fS (cur s2)):=⟨yy,L4.2.up (by omega)⟩;have h5:=h4.one yl L4.2;have L1:=L1.one yl (by omega);have zn:=(xz.x yg).one yl (by omega);have ua:b1=w.heap.size:=zb;have fin:∀{w6:World} {M6:Lay} {s6:PS} {e:Ex} {va:Value},PR w0 w6 p f M6 vt s6 top->Gd N s6 dl->Eff p f M M6 w w6->Loc w0 w6 p f M6 vt b1 PpT [.pointer (some ⟨p,0,none⟩)]->Ro w0 w6 p f M6 vt w1.heap.size jD 1 va e.args.length (ints e.args)->e.keys=[]->s2.i<s6.i->Syn.phi s6+1<=Syn.phi s2->s6.toks.length=s.toks.length->((rO s6 e).bind λy s3=>rZ E n s3 y)=R0->
   aC P0 117 [.pointer (some ⟨p,0,none⟩),.agg (exc e va (.slice none 0 0)).toArray] w6 λt24 w12=>(∃s1 M1 x n,[t24]=[i64 ((x:Nat):Int)]/\PR w0 w12 p f M1 vt s1 top/\Gd N s1 dl/\Eff p f M M1 w w12/\Loc w0 w12 p f M1 vt b1 PpT [.pointer (some ⟨p,0,none⟩)]/\rZ E n s1 x=R0/\s1.toks.length<n+s1.i/\s1.toks.length=s.toks.length)/\s.toks.length-AP w12 p<s.toks.length-AP w2 p:=λ{w6 M6 s6 e va} h6 xa ho L1 hr hk hi uw yr zj=>by
  refine JS h6 ho (ER.noK hk (hr.le (by omega))) xa λM' w7 h7 I zk=>?_;have ud:=xa.ws.lt;refine⟨⟨_,M',_,n,rfl,h7,?_,I,zk _ _ _ L1 (λe=>by have:=hr.new b1 e;omega) (by simp[Value.ownBlock]),zj,by show s6.toks.length<n+s6.i;omega,yr⟩,?_⟩
  ·exact xa.put (by have:=xb.phi;omega)
  ·rw[h7.at_,h2.at_];show s.toks.length-s6.i<_;omega
 have yi:=gI xb.ws;have hn1t:=congrArg List.length yi.toks;refine L1.ld rfl ?_;refine vL h5 xk.ws hN xk.l λw6 h6 ho=>?_;have L1:=L1.eff ho;have L4:=L4.eff ho;have ho:=zn.trans ho;have tg:=jT xk.ws [46];have tgt:=congrArg List.length tg.1.toks;have xa:=xk.take [46];have tp:=lJ (bE s2) [46];have np:=kF s2;rw[bY];refine⟨λhy=>?_,λxp=>?_⟩
 ·
  rw[aJ hy]at j;have tp:=tp.2 hy;have ti:=tg.2.1 hy;have L1:=L1.drew;have L4:=L4.drew;have h6:=h6.drew;have ho:=ho.x (dE w6);have ld1:∀{w':World} {M':Lay},Loc w0 w' p f M' vt b1 PpT [.pointer (some ⟨p,0,none⟩)]->ldW false 1 (.pointer (some ⟨b1,0,none⟩)) w' λx=>x=.pointer (some ⟨p,0,none⟩):=λL=>L.ld rfl rfl;have ld4:∀{w':World} {M':Lay},Loc w0 w' p f M' vt b4 TkT (fS (cur s2))->ldW false 1 (.pointer (some ⟨b4,2,none⟩)) w' λx=>x=i64 (cur s2).a:=λL=>L.ld rfl rfl;refine L1.ld rfl ?_;refine L1.ld rfl ?_;rw[bT,bW,aX];refine L4.ld rfl ?_;have uq:=ho.chg.size;have xt:w1.heap.size<=w6.drew.heap.size:=by have:=ho.chg.size;have:=L1.lt;omega
  have kd:∀{w':World} {KK:Q0},PR w0 w' p f M2 vt (bX (bE s2) [46]).2 top->(∀u s7,mH (bX (bE s2) [46]).2 1=.ok u s7->∀w'',PR w0 w'' p f M2 vt s7 top->Eff p f M2 M2 w' w''->KK (.agg (fS u).toArray) w'')->aC P0 46 [.pointer (some ⟨p,0,none⟩),.int .i64 1] w' KK:=λ{w' KK} h yn=>
   yZ h xa.ws hN xa.l yn λc a' eu=>ht c a' (by rw[<-j,eu];rfl)
  have done:∀{u:Tok} {s7:PS},mH (bX (bE s2) [46]).2 1=.ok u s7->Gd N s7 dl/\s2.i<s7.i/\Syn.phi s7+1<=Syn.phi s2/\s7.toks.length=s.toks.length/\((rO s7 ⟨10,u.t,[y],[],(cur s2).a⟩).bind λy s3=>rZ E n s3 y)=R0:=λ{u s7} eu=>by
   have hk:=xa.kind (by decide) eu;have xx:=mG xa.ws 1 (by decide);have xj:=oC (bX (bE s2) [46]).2 1;rw[eu]at xx xj j;have zl:=congrArg List.length xx.1.1.toks;have xj:=xj.1;have h1:=yi.le;exact⟨hk.1,by have:=hk.2.1;omega,by omega,by omega,j⟩
  refine⟨?_,?_,?_,?_,?_,?_⟩
  ·refine kd h6 λu s7 eu w7 h7 I=>?_;have L1:=L1.eff I;have L4:=L4.eff I;have xy:=ho.trans I;refine⟨ld4 L4,ld1 L1,str u.t,rfl,ld4 L4,ld1 L1,?_⟩;refine kE λr w8 hr xh hs U=>?_;refine⟨ld4 (L4.ext U),ld1 (L1.ext U),?_⟩;simp only[dI,eY,gU,cW,aB,aN,aY,bB,Nat.reduceAdd,Nat.reduceLT,dV,aA];obtain⟨d1,d2,d3,d4,d5⟩:=done eu;exact fin (e:=⟨10,u.t,[y],[],(cur s2).a⟩) (h7.ext U) d1 (xy.x U) (L1.ext U) ((h7.row_new (l:=[y]) hr xh hs (by simp)).le (by have:=I.chg.size;omega)) rfl d2 d3 d4 d5
  ·exact ld4 L4
  ·exact ld1 L1
  ·exact ld1 L1
  ·refine kd h6 λu s7 eu w7 h7 I=>?_;have L1:=L1.eff I;have L4:=L4.eff I;have xy:=ho.trans I;refine⟨ld4 L4,ld1 L1,str u.t,rfl,?_⟩;refine kE λr w8 hr xh hs U=>?_;refine⟨ld4 (L4.ext U),ld1 (L1.ext U),?_⟩;simp only[dI,eY,gU,cW,aB,aN,aY,bB,Nat.reduceAdd,Nat.reduceLT,dV,aA];obtain⟨d1,d2,d3,d4,d5⟩:=done eu;exact fin (e:=⟨10,u.t,[y],[],(cur s2).a⟩) (h7.ext U) d1 (xy.x U) (L1.ext U) ((h7.row_new (l:=[y]) hr xh hs (by simp)).le (by have:=I.chg.size;omega)) rfl d2 d3 d4 d5
  ·refine kE λr w8 hr xh hs U=>?_;have L1:=L1.ext U;have L4:=L4.ext U;have rw8:=h6.row_new (l:=[y]) hr xh hs (by simp);refine⟨ld4 L4,ld1 L1,ld1 L1,?_⟩;refine kd (h6.ext U) λu s7 eu w7 h7 I=>?_;have L1:=L1.eff I;have L4:=L4.eff I;refine⟨ld4 L4,ld1 L1,str u.t,rfl,?_⟩;simp only[dI,eY,gU,cW,aB,aN,aY,bB,Nat.reduceAdd,Nat.reduceLT,dV,aA];obtain⟨d1,d2,d3,d4,d5⟩:=done eu;exact fin (e:=⟨10,u.t,[y],[],(cur s2).a⟩) h7 d1 ((ho.x U).trans I) L1 ((rw8.eff I).le (by omega)) rfl d2 d3 d4 d5
 ·have xp:(bX (bE s2) [46]).1=false:=by simpa using xp
  rw[aE (by rw[xp];decide)]at j;have e6:(bX (bE s2) [46]).2=bE s2:=by
   unfold bX at xp⊢;split
   ·rename_i hi;rw[aJ hi]at xp;cases xp
   ·exact gV s2
  rw[e6]at h6;refine L1.ld rfl ?_;refine BH h6 xk λw7 h7 I=>?_;rw[gV]at h7;have L1:=L1.eff I;have L4:=L4.eff I;have I:=ho.trans I;simp only[iQ]at j⊢;rw[bY];refine⟨λhi=>?_,λhi=>?_⟩
  ·rw[aJ hi]at j;have uo:=I.chg.size;have lt1:=L1.lt;have lt4:=L4.lt;refine bI λb5 w8 zp xh yx U=>?_;have h8:=h7.ext U;have L5:=h7.loc xh zp yx;have L1:=L1.ext U;have L4:=L4.ext U;refine bI λb6 w9 zo zf yw xu=>?_;have h9:=h8.ext xu;have L6:=h8.loc zf zo yw;have L1:=L1.ext xu;have L4:=L4.ext xu;have L5:=L5.ext xu;refine L5.st rfl (by simp) λw10 L5 xf zz=>?_;have zu:=h9.one xf L5.2;have L1:=L1.one xf (by omega);have L4:=L4.one xf (by omega);have L6:=L6.one xf (by omega);refine L6.st rfl (by simp) λw11 L6 xe zy=>?_;have zt:=zu.one xe L6.2;have L1:=L1.one xe (by omega);have L4:=L4.one xe (by omega);have L5:=L5.one xe (by omega);have yu:=(((I.x U).x xu).one xf (by omega)).one xe (by omega);refine L1.ld rfl ?_;refine L4.ldf rfl ?_;have uf:=xk.lev;refine pL zt (by omega) (λhd=>ht 7 _ (by rw[<-j,uI hd];rfl)) λhd w12 zs hz=>?_;obtain⟨d,rfl⟩:∃d,dl=d+1:=⟨dl-1,by omega⟩;rw[yI hd]at j;obtain⟨q1,q2,q3,q4⟩:=xb.sign hi true;have L1:=L1.eff hz;have L4:=L4.eff hz;have L5:=L5.eff hz;have L6:=L6.eff hz;have hz:=yu.trans hz;refine kD (caps:=[.pointer (some ⟨b1,0,none⟩),.pointer (some ⟨b6,0,none⟩),.pointer (some ⟨b5,0,none⟩)]) ?_;refine XY ?_;unfold aEy;refine L1.ld rfl ?_;refine zs.go (wsi q1.ws q1.l) λw13 zr hv zx=>?_;have L1:=L1.eff hv;have L4:=L4.eff hv;have L5:=L5.eff hv;have L6:=L6.eff hv;have hv:=hz.trans hv;generalize yd:({bE s2 with deep:=(bE s2).deep+1,quiet:=true}:PS)=q0 at*
   have uc:∀x:PS,x=(⟨(bE s2).toks,(bE s2).i,(bE s2).off,(bE s2).deep+1,true,(bE s2).ex,(bE s2).bl⟩:PS)->x=q0:=λx hx=>hx.trans yd;have q0p:Syn.phi q0=Syn.phi (bE s2):=by rw[<-yd];rfl
   have q0i:q0.i=(bE s2).i:=by rw[<-yd]
   have q0t:q0.toks=(bE s2).toks:=by rw[<-yd]
   have st0:=jU q1.ws q3;rw[q2]at st0;have sp0:=(pQ q3).2;rw[q2]at sp0;have q4l:=q4.lev;have n1le:=yi.le;have tg5:=jT q4.ws [42];have tp5:=lJ (step1 q0) [42];have g5:=q4.take [42];have tg5t:=congrArg List.length tg5.1.toks;have st0t:=congrArg List.length st0.1.toks;have q0tl:=congrArg List.length q0t;refine bU.cut (λ_ w'=>∃M6 o s6,(((if(bX (step1 q0) [42]).1=true then .ok none (bX (step1 q0) [42]).2 else(E (bX (step1 q0) [42]).2).bind λy q1=>.ok (some y) q1):R (Option Nat))=.ok o s6)/\PR w0 w' p f M6 vt s6 top/\Gd N s6 d/\Eff p f M M6 w w'/\Loc w0 w' p f M6 vt b1 PpT [.pointer (some ⟨p,0,none⟩)]/\Loc w0 w' p f M6 vt b4 TkT (fS (cur s2))/\Loc w0 w' p f M6 vt b6 4 [.bool o.isNone]/\Loc w0 w' p f M6 vt b5 jD [i64 ((o.getD 0:Nat):Int)]/\s6.i>=(step1 q0).i/\Syn.phi s6<=Syn.phi (step1 q0)/\s6.toks.length=s.toks.length) ?_ ?_
   ·refine L1.ld rfl ?_;refine vL zr q4.ws hN q4.l λw14 yo hq=>?_;have L1:=L1.eff hq;have L4:=L4.eff hq;have L5:=L5.eff hq;have L6:=L6.eff hq;have hq:=hv.trans hq;refine L6.st rfl (by simp) λw15 L6 xd zw=>?_;have ye:=yo.one xd L6.2;have L1:=L1.one xd (by omega);have L4:=L4.one xd (by omega);have L5:=L5.one xd (by omega);have hh:=hq.one xd (by omega);refine L6.ld rfl ?_;rw[eP,bY];refine⟨λxw=>?_,λxi=>?_⟩
    ·have xw:(bX (step1 q0) [42]).1=false:=by simpa using xw
     rw[xw]at L6;refine L1.ld rfl ?_;refine hE d rfl w15 p M2 vt _ top N _ ye g5 (λz s6 ez M6 w16 yb J=>?_) λc a' ez=>ht c a' ?_
     ·obtain⟨g6,i6⟩:=g5.e hF ez;have ep:=hF.z (bX (step1 q0) [42]).2;have eo:=hF.ok N _ g5.ws;rw[ez]at ep eo;have eot:=congrArg List.length eo.1.1.toks;have ep:Syn.phi s6<=Syn.phi (bX (step1 q0) [42]).2:=ep;have L1:=L1.eff J;have L4:=L4.eff J;have L5:=L5.eff J;have L6:=L6.eff J;refine L5.st rfl (by simp) λw17 L5 xc yf=>?_;refine⟨M6,some z,s6,?_,yb.one xc L5.2,g6,(hh.trans J).one xc (by omega),L1.one xc (by omega),L4.one xc (by omega),L6.one xc (by omega),L5,by have:=tg5.1.le;omega,by have:=tp5.1;omega,by omega⟩;rw[aE (by rw[xw];decide),ez];rfl
     ·rw[<-j];rw[aE (by rw[xw];decide),ez];rfl
    ·have xi:(bX (step1 q0) [42]).1=true:=by simpa using xi
     rw[xi]at L6;exact⟨M2,none,_,by rw[aJ xi],ye,g5,hh,L1,L4,L6,L5,tg5.1.le,tp5.1,by omega⟩
   rintro _ g2 w14 ⟨M6,o,s6,eo,yo,g6,hq,L1,L4,L6,L5,i6,p6,t6⟩;have ys:((oX s6 [93]).bind λ_ q2=>.ok o q2)=(if(bX (step1 q0) [42]).1=true then(oX (bX (step1 q0) [42]).2 [93]).bind λ_ q2=>.ok none q2 else(E (bX (step1 q0) [42]).2).bind λy q1=>(oX q1 [93]).bind λ_ q2=>.ok (some y) q2):=by
    by_cases xi:(bX (step1 q0) [42]).1=true
    ·rw[aJ xi]at eo⊢;injection eo with e1 e2
     subst e1 e2;rfl
    ·rw[aE xi]at eo⊢;cases yt:E (bX (step1 q0) [42]).2 with
     |err c a=>rw[yt]at eo;cases eo
     |ok z s7=>
      rw[yt]at eo;simp only[R.bind]at eo;injection eo with e1 e2
      subst e1 e2;rfl
   rw[<-ys]at j;refine L1.ld rfl ?_;refine yJ yo g6.ws hN g6.l (λs7 e7 w15 ye hh=>?_) λc a' e7=>ht c a' (by rw[<-j,e7];rfl);rw[e7]at j;simp only[R.bind]at j;obtain⟨g7,i7,_⟩:=g6.want e7;have w7:=lI s6 [93];have w7s:=kQ g6.ws [93];rw[e7]at w7 w7s;have w7:Syn.phi s7+1<=Syn.phi s6:=w7;have w7t:=congrArg List.length w7s.1.1.toks;have g7l:=g7.lev;have L1:=L1.eff hh;have L4:=L4.eff hh;have L5:=L5.eff hh;have L6:=L6.eff hh;have hh:=hq.trans hh;refine⟨M6,s7,ye,by omega,λw16 yb J=>?_⟩;have L1:=L1.eff J;have L4:=L4.eff J;have L5:=L5.eff J;have L6:=L6.eff J;have J:=hh.trans J;have g8:Gd N {s7 with deep:=(bE s2).deep,quiet:=(bE s2).quiet} (d+1):=xk.back g7;have st1i:(step1 q0).i=(bE s2).i+1:=by show q0.i+1=_;rw[q0i]
   refine L6.ld rfl ?_;rw[eP,bY];cases o with
   |some z=>
    refine⟨λ_=>?_,λe=>by cases e⟩;simp only at j;refine L1.ld rfl ?_;refine L5.ld rfl ?_;have xt:w1.heap.size<=w16.heap.size:=by have:=L1.lt;omega
    refine Lo λr w17 hr yf hs xo=>?_;refine(L4.ext xo).ldf rfl ?_;simp only[dI,eY,gU,cW,aB,aN,aY,bB,Nat.reduceAdd,Nat.reduceLT,dV,aA];refine fin (e:=⟨11,[],[y,z],[],(cur s2).a⟩) (yb.ext xo) g8 (J.x xo) (L1.ext xo) ((yb.row_new (l:=[y,z]) hr yf hs (by simp)).le xt) rfl ?_ ?_ ?_ j
    ·show s2.i<s7.i;omega
    ·show Syn.phi s7+1<=_;omega
    ·show s7.toks.length=_;omega
   |none=>
    refine⟨λe=>(by cases e),λ_=>?_⟩;simp only at j;refine L1.ld rfl ?_;refine yJ yb g8.ws hN g8.l (λs9 e9 w17 xq ya=>?_) λc a' e9=>ht c a' (by rw[<-j,e9]);rw[e9]at j;simp only[R.bind]at j;obtain⟨g9,i9,_⟩:=g8.want e9;generalize yh:({s7 with deep:=(bE s2).deep,quiet:=(bE s2).quiet}:PS)=s8 at*
    have s8p:Syn.phi s8=Syn.phi s7:=by rw[<-yh];rfl
    have s8i:s8.i=s7.i:=by rw[<-yh]
    have s8t:s8.toks=s7.toks:=by rw[<-yh]
    have s8t:=congrArg List.length s8t;have w9:=lI s8 [46];have w9s:=kQ g8.ws [46];rw[e9]at w9 w9s;have w9:Syn.phi s9+1<=Syn.phi s8:=w9;have w9t:=congrArg List.length w9s.1.1.toks;have L1:=(L1.eff ya).drew;have L4:=(L4.eff ya).drew;have xq:=xq.drew;have xm:=(J.trans ya).x (dE w17);have xt:w1.heap.size<=w17.drew.heap.size:=by have:=L1.lt;omega
    have ld1:∀{w':World} {M':Lay},Loc w0 w' p f M' vt b1 PpT [.pointer (some ⟨p,0,none⟩)]->ldW false 1 (.pointer (some ⟨b1,0,none⟩)) w' λx=>x=.pointer (some ⟨p,0,none⟩):=λL=>L.ld rfl rfl;have ld4:∀{w':World} {M':Lay},Loc w0 w' p f M' vt b4 TkT (fS (cur s2))->ldW false 1 (.pointer (some ⟨b4,2,none⟩)) w' λx=>x=i64 (cur s2).a:=λL=>L.ld rfl rfl;refine L1.ld rfl ?_;refine L1.ld rfl ?_;rw[bT,bW,aX];refine L4.ld rfl ?_;have kd:∀{w':World} {KK:Q0},PR w0 w' p f M6 vt s9 top->(∀u s7,mH s9 1=.ok u s7->∀w'',PR w0 w'' p f M6 vt s7 top->Eff p f M6 M6 w' w''->KK (.agg (fS u).toArray) w'')->aC P0 46 [.pointer (some ⟨p,0,none⟩),.int .i64 1] w' KK:=λ{w' KK} h yn=>
     yZ h g9.ws hN g9.l yn λc a' eu=>ht c a' (by rw[<-j,eu])
    have done:∀{u:Tok} {sa:PS},mH s9 1=.ok u sa->Gd N sa (d+1)/\s2.i<sa.i/\Syn.phi sa+1<=Syn.phi s2/\sa.toks.length=s.toks.length/\((rO sa ⟨30,u.t,[y],[],(cur s2).a⟩).bind λy s3=>rZ E n s3 y)=R0:=λ{u sa} eu=>by
     have hk:=g9.kind (by decide) eu;have xx:=mG g9.ws 1 (by decide);have xj:=oC s9 1;rw[eu]at xx xj j;have zl:=congrArg List.length xx.1.1.toks;have xj:=xj.1;exact⟨hk.1,by have:=hk.2.1;omega,by omega,by omega,j⟩
    refine⟨?_,?_,?_,?_,?_,?_⟩
    ·refine kd xq λu sa eu wa ha hj=>?_;have L1:=L1.eff hj;have L4:=L4.eff hj;refine⟨ld4 L4,ld1 L1,str u.t,rfl,ld4 L4,ld1 L1,?_⟩;refine kE λr wb hr xr hs hc=>?_;refine⟨ld4 (L4.ext hc),ld1 (L1.ext hc),?_⟩;simp only[dI,eY,gU,cW,aB,aN,aY,bB,Nat.reduceAdd,Nat.reduceLT,dV,aA];obtain⟨d1,d2,d3,d4,d5⟩:=done eu;exact fin (e:=⟨30,u.t,[y],[],(cur s2).a⟩) (ha.ext hc) d1 ((xm.trans hj).x hc) (L1.ext hc) ((ha.row_new (l:=[y]) hr xr hs (by simp)).le (by have:=hj.chg.size;omega)) rfl d2 d3 d4 d5
    ·exact ld4 L4
    ·exact ld1 L1
    ·exact ld1 L1
    ·refine kd xq λu sa eu wa ha hj=>?_;have L1:=L1.eff hj;have L4:=L4.eff hj;refine⟨ld4 L4,ld1 L1,str u.t,rfl,?_⟩;refine kE λr wb hr xr hs hc=>?_;refine⟨ld4 (L4.ext hc),ld1 (L1.ext hc),?_⟩;simp only[dI,eY,gU,cW,aB,aN,aY,bB,Nat.reduceAdd,Nat.reduceLT,dV,aA];obtain⟨d1,d2,d3,d4,d5⟩:=done eu;exact fin (e:=⟨30,u.t,[y],[],(cur s2).a⟩) (ha.ext hc) d1 ((xm.trans hj).x hc) (L1.ext hc) ((ha.row_new (l:=[y]) hr xr hs (by simp)).le (by have:=hj.chg.size;omega)) rfl d2 d3 d4 d5
    ·refine kE λr wb hr xr hs hc=>?_;have L1:=L1.ext hc;have L4:=L4.ext hc;have rwb:=xq.row_new (l:=[y]) hr xr hs (by simp);refine⟨ld4 L4,ld1 L1,ld1 L1,?_⟩;refine kd (xq.ext hc) λu sa eu wa ha hj=>?_;have L1:=L1.eff hj;have L4:=L4.eff hj;refine⟨ld4 L4,ld1 L1,str u.t,rfl,?_⟩;simp only[dI,eY,gU,cW,aB,aN,aY,bB,Nat.reduceAdd,Nat.reduceLT,dV,aA];obtain⟨d1,d2,d3,d4,d5⟩:=done eu;exact fin (e:=⟨30,u.t,[y],[],(cur s2).a⟩) ha d1 ((xm.x hc).trans hj) L1 ((rwb.eff hj).le (by omega)) rfl d2 d3 d4 d5
  ·have hi:isS s2 [91]=false:=by simpa using hi
   rw[aE (by rw[hi];decide)]at j;exact hK y _ j.symm M2 w7 h7 I
end
section
variable [HX]
variable{w0 w w' w1:World}{p f b:Nat}{M M' M0:Lay}{vt:Value}{s:PS}{top:List Nat}{N:Int}{K:Q0}{e:Ex}{va vk:Value}{wbn:Nat}{wb:World}{dl:Nat}
theorem Ma{E S:PS->R Nat}(hS:zN w0 f)(hE:∀d,dl=d+1->EC w0 f 82 E d)(hG:∀d,dl=d+1->EC w0 f 151 S d)(hF:rW E)(xm:rW S):EC w0 f 151 (AC E S) dl:=by
 intro w p M vt s top N K h hg hK ht;refine YM ?_;unfold aE6;have hN:=hg.hN;refine tW rfl λb1 w1 xy xt xl xd=>?_;have h1:=h.ext xd;have L1:=h.loc xt xy xl;refine L1.ld rfl ?_;refine nR h1 hg.ws hN hg.l λw2 h2 ho=>?_;have L1:=L1.eff ho;have ho:=(Eff.ext xd).trans ho;have lt1:=L1.lt;have hk:=hg.now;refine bI λb3 w3 xx xr xk hy=>?_;have h3:=h2.ext hy;have L3:=h2.loc xr xx xk;have L1:=L1.ext hy;refine cK (l:=fS (cur s)) L3.1 rfl rfl rfl λw4 yh xj xa=>?_;have L3:Loc w0 w4 p f M vt b3 TkT (fS (cur s)):=⟨xj,L3.2.up (by omega)⟩;have h4:=h3.one xa L3.2;have L1:=L1.one xa (by omega);have yj:=ho.chg.size;have xv:=(ho.x hy).one xa (by omega);refine bU.cut (λst w'=>∃(k:Int) (x:Str),st=[i64 k]/\isS s x=true/\AC E S s=((within (bE s) (cur s).a (bE s).quiet λq=>S (step1 q)).bind λx s2=>rO s2 ⟨k,[],[x],[],(cur s).a⟩)/\PR w0 w' p f M vt (bE s) top/\Eff p f M M w w'/\Loc w0 w' p f M vt b1 PpT [.pointer (some ⟨p,0,none⟩)]/\Loc w0 w' p f M vt b3 TkT (fS (cur s))) ?_ ?_
 ·unfold AC at hK ht⊢;simp only[iQ]at hK ht⊢;refine L1.ld rfl ?_;refine BH h4 hk λw5 h5 I=>?_;rw[gV]at h5;have L1:=L1.eff I;have L3:=L3.eff I;have I:=xv.trans I;rw[iQ,bY];refine⟨λhi=>⟨14,[33],rfl,hi,by rw[aJ hi],h5,I,L1,L3⟩,λhi=>?_⟩;rw[aE (by rw[hi];decide)]at hK ht⊢;refine L1.ld rfl ?_;refine BH h5 hk λw6 h6 hh=>?_;rw[gV]at h6;have L1:=L1.eff hh;have L3:=L3.eff hh;have hh:=I.trans hh;rw[iQ,bY];refine⟨λhi=>⟨13,[45],rfl,hi,by rw[aJ hi],h6,hh,L1,L3⟩,λhi=>?_⟩;rw[aE (by rw[hi];decide)]at hK ht;refine L1.ld rfl ?_;exact aAA hS hE hF w6 p M vt _ top N _ h6 hk (λx s' ex M' w7 h7 hz=>hK x s' ex M' w7 h7 (hh.trans hz)) ht
 rintro st g w5 ⟨k,x,rfl,hi,es,h5,I,L1,L3⟩;rw[es]at hK ht;simp only[aG];have yi:=I.chg.size;have lt1:=L1.lt;have lt3:=L3.lt;refine bI λb5 w6 xw xq xi hs=>?_;have h6:=h5.ext hs;have L5:=h5.loc xq xw xi;have L1:=L1.ext hs;have L3:=L3.ext hs;refine L5.st rfl (by simp) λw7 L5 hx yg=>?_;have h7:=(h6.one hx L5.2).drew;have L1:=(L1.one hx (by omega)).drew;have L3:=(L3.one hx (by omega)).drew;have L5:=L5.drew;have hz:=((I.x hs).one hx (by omega)).x (dE w7);refine L1.ld rfl ?_;rw[bT,bW,aX];refine L3.ld rfl ?_;refine L1.ld rfl ?_;refine h7.ld rfl ?_;have yd:=hk.lev;refine pL h7 (by omega) (λhd=>ht 7 _ (by rw[uI hd];rfl)) λhd w8 h8 hc=>?_;obtain⟨d,rfl⟩:∃d,dl=d+1:=⟨dl-1,by omega⟩;rw[yI hd]at hK ht;obtain⟨q1,q2,q3,q4⟩:=hg.sign hi (bE s).quiet;have L1:=L1.eff hc;have L3:=L3.eff hc;have L5:=L5.eff hc;have hc:=hz.trans hc;refine kD (caps:=[.pointer (some ⟨b1,0,none⟩),.pointer (some ⟨b5,0,none⟩)]) ?_;refine Yn ?_;unfold aEK;refine L1.ld rfl ?_;refine h8.go (wsi q1.ws q1.l) λw9 h9 U yf=>?_;have L1:=L1.eff U;have L3:=L3.eff U;have L5:=L5.eff U;have U:=hc.trans U;refine L1.ld rfl ?_;refine hG d rfl w9 p M vt _ top N _ h9 q4 (λy s' ey M' w10 yb o=>?_) λc a' ey=>ht c a' (by rw[ey];rfl);obtain⟨g10,_⟩:=q4.e xm ey;have pz:=xm.z (step1 {bE s with deep:=(bE s).deep+1,quiet:=(bE s).quiet});rw[ey]at hK pz;have pz:Syn.phi s'<=Syn.phi (step1 (⟨(bE s).toks,(bE s).i,(bE s).off,(bE s).deep+1,(bE s).quiet,(bE s).ex,(bE s).bl⟩:PS)):=pz;have ps:=(pQ q3).2;rw[q2]at ps;have pn:=kF s;have pe:Syn.phi (⟨(bE s).toks,(bE s).i,(bE s).off,(bE s).deep+1,(bE s).quiet,(bE s).ex,(bE s).bl⟩:PS)=Syn.phi (bE s):=rfl;simp only[R.bind]at hK;have L1:=L1.eff o;have L3:=L3.eff o;have L5:=L5.eff o;have o:=U.trans o;refine L5.st rfl (by simp) λw11 L5 J yc=>?_;have ya:=yb.one J L5.2;have L1:=L1.one J (by omega);have L3:=L3.one J (by omega);have xh:=o.one J (by omega);have g10l:=g10.lev;refine⟨M',s',ya,by omega,λw12 xo j=>?_⟩;have L1:=L1.eff j;have L3:=L3.eff j;have L5:=L5.eff j;have j:=xh.trans j;refine L1.ld rfl ?_;refine L5.ld rfl ?_;refine kE λr w13 hr xc xu hj=>?_;refine(L3.ext hj).ldf rfl ?_;simp only[dI,eY,gU,cW,aB,aN,aY,bB,Nat.reduceAdd,Nat.reduceLT,dV,aA];have xe:=hk.back (q:=(bE s).quiet) g10;refine JS (e:=⟨k,[],[y],[],(cur s).a⟩) (xo.ext hj) (j.x hj) (ER.noK rfl ((xo.row_new (l:=[y]) hr xc xu (by simp)).le j.chg.size)) xe λM2 w14 xz xg _=>?_;exact hK _ _ rfl M2 w14 xz xg
theorem Fb{E S:PS->R Nat}(hS:zN w0 f)(hE:∀d,dl=d+1->EC w0 f 82 E d)(hG:∀d,dl=d+1->EC w0 f 151 S d)(hF:rW E)(J:rW S):∀(m:Nat),m<=6->∀(w:World) (p:Nat) (M:Lay) (vt:Value) (s:PS) (top:List Nat) (N:Int) (K:Q0),PR w0 w p f M vt s top->Gd N s dl->
  (∀x s',uY E S m s=.ok x s'->∀M' w',PR w0 w' p f M' vt s' top->Eff p f M M' w w'->K (i64 (x:Nat)) w')->(∀c a,uY E S m s=.err c a->Thr w0 f c a)->aC P0 114 [.pointer (some ⟨p,0,none⟩),i64 ((6-m:Nat):Int)] w K
 |0,_,w,p,M,vt,s,top,N,K,h,hg,hK,ht=>by
  refine OA ?_
  unfold aDg
  rw[bO,aO]
  refine⟨λ_=>?_,λe=>absurd rfl e⟩
  exact Ma hS hE hG hF J w p M vt s top N _ h hg hK ht
 |m+1,hm,w,p,M,vt,s,top,N,K,h,hg,hK,ht=>by
  refine OA ?_
  unfold aDg
  have hN:=hg.hN
  have hJ:rW (uY E S m):=⟨λN=>wJ (hF.ok N) (J.ok N) m,wG hF.z J.z m⟩
  simp only[uY]at hK ht
  rw[bO,aO]
  refine⟨λe=>by omega,λ_=>?_⟩
  have up:∀{KK:Value->Prop},KK (i64 ((6-m:Nat):Int))->aQ .add (i64 ((6-(m+1):Nat):Int)) (.int .i64 1) KK:=λh=>by
   rw[cI,cN (by omega) (by omega),show((6-(m+1):Nat):Int)+1=((6-m:Nat):Int)by omega];exact h
  refine up ?_
  refine Fb hS hE hG hF J m (by omega) w p M vt s top N _ h hg (λx s1 ex M1 w2 h2 hh=>?_) λc a' ex=>ht c a' (by rw[ex];rfl)
  rw[ex]at hK ht
  simp only[R.bind]at hK ht
  obtain⟨hs,xn⟩:=hg.e hJ ex
  have etl:=(hJ.ok N) s hg.ws
  rw[ex]at etl
  have etl:=congrArg List.length etl.1.1.toks
  generalize hR:BG (uY E S m) (5-m) (s.toks.length+1) s1 x=R0 at hK ht
  refine cY.go (λst w'=>∃s1 M1 x n,st=[i64 ((x:Nat):Int)]/\PR w0 w' p f M1 vt s1 top/\Gd N s1 dl/\Eff p f M M1 w w'/\BG (uY E S m) (5-m) n s1 x=R0/\s1.toks.length<n+s1.i/\s1.toks.length=s.toks.length) (λ_ w'=>s.toks.length-AP w' p)
   ⟨s1,M1,x,s.toks.length+1,rfl,h2,hs,hh,hR,by have:=hs.ws.lt;omega,etl⟩ ?_
  clear hh h2 ex hs xn etl hR
  rintro st g w2 ⟨s2,M2,y,n,rfl,h2,o,hh,j,hn,yc⟩
  simp only[aG]
  have xu:=o.ws.lt
  obtain⟨n,rfl⟩:∃m,n=m+1:=⟨n-1,by omega⟩
  simp only[BG]at j
  refine nR h2 o.ws hN o.l λw3 h3 hc=>?_
  have hc:=hh.trans hc
  have yb:=hc.chg.size
  have hz:=o.now
  refine bI λb6 w4 xp xk xe hy=>?_
  have h4:=h3.ext hy
  have L6:=h3.loc xk xp xe
  refine cK (l:=fS (cur s2)) L6.1 rfl rfl rfl λw5 ya xd xc=>?_
  have L6:Loc w0 w5 p f M2 vt b6 TkT (fS (cur s2)):=⟨xd,L6.2.up (by omega)⟩
  have h5:=h4.one xc L6.2
  have xo:=(hc.x hy).one xc (by omega)
  refine bZ L6.1 rfl ?_
  refine WN (by omega) λw6 hk=>?_
  have h6:=h5.ext hk
  have L6:=L6.ext hk
  have xa:=xo.x hk
  have en:(6-(m+1):Nat)=5-m:=by omega
  rw[en,bO,aO]
  refine⟨λh0=>?_,λh0=>?_⟩
  ·rw[aJ h0]at j
   exact hK y _ j.symm M2 w6 h6 xa
  ·rw[aE h0]at j
   have ho:(cur s2).k≠0:=λe=>h0 (by unfold xI;rw[e];rfl)
   have hq:=o.step ho
   have sg:=jU o.ws ho
   have sp:=(pQ ho).2
   refine h6.go (wsi hz.ws hz.l) λw7 h7 U xz=>?_
   have L6:=L6.eff U
   have U:=xa.trans U
   have up2:∀{KK:Value->Prop},KK (i64 ((6-m:Nat):Int))->aQ .add (i64 ((5-m:Nat):Int)) (.int .i64 1) KK:=λh=>by
    rw[<-en];exact up h
   refine up2 ?_
   refine Fb hS hE hG hF J m (by omega) w7 p M2 vt _ top N _ h7 hq (λz s3 ez M3 w8 h8 I=>?_) λc a' ez=>ht c a' (by rw[<-j,ez];rfl)
   obtain⟨g8,i8⟩:=hq.e hJ ez
   have pz:=hJ.z (step1 (bE s2))
   have oz:=hJ.ok N _ hq.ws
   rw[ez]at j pz oz
   have pz:Syn.phi s3<=Syn.phi (step1 (bE s2)):=pz
   have tz:=congrArg List.length oz.1.1.toks
   have tz2:=congrArg List.length sg.1.toks
   simp only[R.bind]at j
   have L6:=L6.eff I
   have I:=U.trans I
   have xl:=I.chg.size
   refine Lo λr w9 hr xj xm hj=>?_
   refine(L6.ext hj).ldf rfl ?_
   simp only[dI,eY,gU,cW,aB,aN,aY,bB,Nat.reduceAdd,Nat.reduceLT,dV,aA]
   refine JS (e:=⟨xI (cur s2) (5-m),[],[y,z],[],(cur s2).a⟩) (h8.ext hj) (I.x hj) (ER.noK rfl ((h8.row_new (l:=[y,z]) hr xj xm (by simp)).le xl)) g8 λM4 w10 xi xb _=>?_
   have xt:=g8.ws.lt
   have ye:=o.phi
   refine⟨⟨_,M4,_,n,rfl,xi,g8.put (by omega),xb,j,by show s3.toks.length<n+s3.i;omega,by show s3.toks.length=_;omega⟩,?_⟩
   rw[xi.at_,h2.at_]
   show s.toks.length-s3.i<_
   have:=sg.2
   omega
end
theorem QI(s:PS)(w:Str):bX (bE s) w=bX s w:=by unfold bX;rw[iQ,gV]
section
variable [HX]
variable{w0 w w' w1:World}{p f b:Nat}{M M' M0:Lay}{vt:Value}{s:PS}{top:List Nat}{N:Int}{K:Q0}{e:Ex}{va vk:Value}{wbn:Nat}{wb:World}{dl:Nat}
theorem SL{E S:PS->R Nat}(hS:zN w0 f)(hE:∀d,dl=d+1->EC w0 f 82 E d)(hG:∀d,dl=d+1->EC w0 f 151 S d)(hF:rW E)(xe:rW S):EC w0 f 82 (Dn E S) dl:=by
 intro w p M vt s top N K h hg hK ht;refine aCq ?_;unfold W82;have hN:=hg.hN;have hJ:rW (uY E S 6):=⟨λN=>wJ (hF.ok N) (xe.ok N) 6,wG hF.z xe.z 6⟩;refine tW rfl λb1 w1 yf xy xq xi=>?_;have h1:=h.ext xi;have L1:=h.loc xy yf xq;refine L1.ld rfl ?_;unfold Dn at hK ht;refine Fb hS hE hG hF xe 6 (aV _) w1 p M vt s top N _ h1 hg (λa s1 ea M1 w2 h2 xa=>?_) λc a' ea=>ht c a' (by rw[ea];rfl);rw[ea]at hK ht;simp only[R.bind]at hK ht;obtain⟨hz,yz⟩:=hg.e hJ ea;have L1:=L1.eff xa;have xa:=(Eff.ext xi).trans xa;refine L1.ld rfl ?_;refine nR h2 hz.ws hN hz.l λw3 h3 hs=>?_;have L1:=L1.eff hs;have hs:=xa.trans hs;have lt1:=L1.lt;have yw:=hs.chg.size;have xj:=hz.now;refine bI λb4 w4 ye xx xp xb=>?_;have h4:=h3.ext xb;have L4:=h3.loc xx ye xp;have L1:=L1.ext xb;refine cK (l:=fS (cur s1)) L4.1 rfl rfl rfl λw5 yt xo xd=>?_;have L4:Loc w0 w5 p f M1 vt b4 TkT (fS (cur s1)):=⟨xo,L4.2.up (by omega)⟩;have h5:=h4.one xd L4.2;have L1:=L1.one xd (by omega);have yc:=(hs.x xb).one xd (by omega);refine L1.ld rfl ?_;refine vL h5 xj.ws hN xj.l λw6 h6 hi=>?_;rw[QI]at h6⊢;have L1:=L1.eff hi;have L4:=L4.eff hi;have hi:=yc.trans hi;rw[eP,bY];refine⟨λhn=>?_,λhy=>?_⟩
 ·have hn:(bX s1 [63]).1=false:=by simpa using hn
  rw[aE (by rw[hn];decide)]at hK;exact hK a _ rfl M1 w6 h6 hi
 have hy:(bX s1 [63]).1=true:=by simpa using hy
 rw[aJ hy]at hK ht;have xc:=hz.take [63];have tp:=(lJ s1 [63]).2 hy;generalize yx:(bX s1 [63]).2=s2 at*
 have lt1:=L1.lt;have lt4:=L4.lt;have yu:=hi.chg.size;refine Tr λr w7 hr xw xz hx=>?_;have h7:=h6.ext hx;have Lr:=h6.loc xw hr xz;have L1:=L1.ext hx;have L4:=L4.ext hx;refine bI λb5 w8 yd xv xn hq=>?_;have h8:=h7.ext hq;have L5:=h7.loc xv yd xn;have L1:=L1.ext hq;have L4:=L4.ext hq;have Lr:=Lr.ext hq;refine L5.st rfl (by simp) λw9 L5 hv ys=>?_;have h9:=(h8.one hv L5.2).drew;have L1:=(L1.one hv (by omega)).drew;have L4:=(L4.one hv (by omega)).drew;have Lr:=(Lr.one hv (by omega)).drew;have L5:=L5.drew;have yb:=(((hi.x hx).x hq).one hv (by omega)).x (dE w9);refine L1.ld rfl ?_;rw[bT,bW,aX];refine L4.ld rfl ?_;refine L1.ld rfl ?_;refine h9.ld rfl ?_;have yo:=xc.lev;refine pL h9 (by omega) (λhd=>ht 7 _ (by rw[uI hd])) λhd w10 xh j=>?_;obtain⟨d,rfl⟩:∃d,dl=d+1:=⟨dl-1,by omega⟩;rw[yI hd]at hK ht;have q1:=xc.frame s2.quiet;have L1:=L1.eff j;have L4:=L4.eff j;have Lr:=Lr.eff j;have L5:=L5.eff j;have j:=yb.trans j;refine kD (caps:=[.pointer (some ⟨b1,0,none⟩),.pointer (some ⟨b5,0,none⟩)]) ?_;refine Zl ?_;unfold aFs;have L1:=L1.drew;have L4:=L4.drew;have Lr:=Lr.drew;have L5:=L5.drew;have xh:=xh.drew;have j:=j.x (dE w10);refine L5.ld rfl ?_;refine L1.ld rfl ?_;refine hE d rfl w10.drew p M1 vt _ top N _ xh q1 (λx s3 ex M3 w11 yl U=>?_) λc a' ex=>ht c a' (by rw[ex];rfl);obtain⟨g3,_⟩:=q1.e hF ex;have px:=hF.z {s2 with deep:=s2.deep+1,quiet:=s2.quiet};rw[ex]at hK ht px;have px:Syn.phi s3<=Syn.phi s2:=px;simp only[R.bind]at hK ht;have L1:=L1.eff U;have L4:=L4.eff U;have Lr:=Lr.eff U;have L5:=L5.eff U;have U:=j.trans U;refine⟨L5.ld rfl rfl,?_⟩;rw[qS];refine⟨by omega,by omega,?_⟩;rw[bW,aX];refine Lr.st (off:=1) rfl (by simp) λw12 Lr hh yn=>?_;have yk:=yl.one hh Lr.2;have L1:=L1.one hh (by omega);have L4:=L4.one hh (by omega);have L5:=L5.one hh (by omega);have xm:=U.one hh (by omega);refine L1.ld rfl ?_;refine yJ yk g3.ws hN g3.l (λs4 e4 w13 xg J=>?_) λc a' e4=>ht c a' (by rw[e4]);have pw:=lI s3 [58];rw[e4]at hK ht pw;have pw:Syn.phi s4+1<=Syn.phi s3:=pw;simp only at hK ht;obtain⟨g4,_⟩:=g3.want e4;have L1:=(L1.eff J).drew;have L4:=(L4.eff J).drew;have Lr:=(Lr.eff J).drew;have L5:=(L5.eff J).drew;have xg:=xg.drew;have J:=(xm.trans J).x (dE w13);refine L5.ld rfl ?_;refine L1.ld rfl ?_;refine hE d rfl w13.drew p M3 vt _ top N _ xg g4 (λy s5 ey M5 w14 yj I=>?_) λc a' ey=>ht c a' (by rw[ey]);obtain⟨g5,_⟩:=g4.e hF ey;have py:=hF.z s4;rw[ey]at hK py;have py:Syn.phi s5<=Syn.phi s4:=py;simp only at hK;have L1:=L1.eff I;have L4:=L4.eff I;have Lr:=Lr.eff I;have L5:=L5.eff I;have I:=J.trans I;refine⟨L5.ld rfl rfl,?_⟩;rw[qS];refine⟨by omega,by omega,?_⟩;rw[bW,aX];refine Lr.st (off:=2) rfl (by simp) λw15 Lr hc ym=>?_;have yi:=yj.one hc Lr.2;have L1:=L1.one hc (by omega);have L4:=L4.one hc (by omega);have L5:=L5.one hc (by omega);have xl:=I.one hc (by omega);have g5l:=g5.lev;refine⟨M5,s5,yi,by omega,λw16 yh o=>?_⟩;have L1:=L1.eff o;have L4:=L4.eff o;have Lr:=Lr.eff o;have L5:=L5.eff o;have o:=xl.trans o;refine L1.ld rfl ?_;refine L5.ld rfl ?_;refine L4.ldf rfl ?_;simp only[dI,eY,gU,cW,aB,aN,aY,bB,Nat.reduceAdd,Nat.reduceLT,dV,aA];have g16:=xc.back (q:=s2.quiet) g5;have hR:Ro w0 w16 p f M5 vt w.heap.size jD 1 (.slice (some ⟨r,0,none⟩) 3 3) 3 (ints [a,x,y]):=
  ⟨Rw (cs:=ints [a,x,y]) Lr.1 Lr.2.1.1 rfl (by omega),λk hk=>by simp only[Value.ownBlock,bF]at hk;subst hk;exact Lr.2,λk hk=>by simp only[Value.ownBlock,bF]at hk;omega⟩
 refine JS (e:=⟨28,[],[a,x,y],[],(cur s1).a⟩) yh o (ER.noK rfl hR) g16 λM6 w17 yg xk _=>?_;exact hK _ _ rfl M6 w17 yg xk
theorem wN:rW dead:=⟨An,zH⟩
theorem Fz(d:Nat):rW (tT d).1/\rW (tT d).2:=⟨⟨λN=>(tS N d).1,(xM d).1⟩,⟨λN=>(tS N d).2,(xM d).2⟩⟩
theorem NY(j:zN w0 f):∀dl,EC w0 f 82 (tT dl).1 dl/\EC w0 f 151 (tT dl).2 dl
 |0=>⟨SL j (λd e=>by omega) (λd e=>by omega) wN wN,Ma j (λd e=>by omega) (λd e=>by omega) wN wN⟩
 |d+1=>by
  have ih:=NY j d
  have hf:=Fz d
  have hE:∀d',d+1=d'+1->EC w0 f 82 (tT d).1 d':=λd' e=>by
   have e:d'=d:=by omega
   subst e;exact ih.1
  have o:∀d',d+1=d'+1->EC w0 f 151 (tT d).2 d':=λd' e=>by
   have e:d'=d:=by omega
   subst e;exact ih.2
  exact⟨SL j hE o hf.1 hf.2,Ma j hE o hf.1 hf.2⟩
end
end
end Go.Proofs.YtghhmpppnmoeoaaGreatDoor
namespace Go.Syn
section
open Go Go.Eng Go.Lex
variable{w:World}{K:Q0}{cs:List Value}{G:Nat->Prop}{T:TypeId}{i:Nat}{n:Nat}{v:Value}{w':World}{P:Program}{c:UInt8}{S:Nat->Prop}
abbrev blL(bl:List Blk):List (List Nat):=bl.map (·.blocks)
abbrev KS(bl:List Blk):List Nat:=bl.flatMap λb=>b.attrs.map (·.e)
def HY(us:List Atr):Prop:=∀a∈us,a.n≠[]
structure FI(s:PS)(pe pb:List Nat):Prop where
 ex:cX (exL s.ex) (KS s.bl++pe)
 bl:cX (blL s.bl) pb
 nm:∀b∈s.bl,HY b.attrs
theorem FI.perm{s:PS}{pe pe' pb pb':List Nat}(h:FI s pe pb)(h1:pe.Perm pe')(j:pb.Perm pb'):FI s pe' pb':=⟨h.ex.perm (h1.append_left _),h.bl.perm j,h.nm⟩
theorem FI.same{s s':PS}{pe pb:List Nat}(h:FI s pe pb)(h1:s'.ex=s.ex)(j:s'.bl=s.bl):FI s' pe pb:=⟨by rw[h1,j];exact h.ex,by rw[j];exact h.bl,by rw[j];exact h.nm⟩
theorem FI.expr{s s':PS}{x:Nat}{pe pb:List Nat}(h:FI s pe pb)(j:s'.bl=s.bl)(hf:∀roots,cX (exL s.ex) roots->cX (exL s'.ex) (x::roots)):FI s' (x::pe) pb:=
 ⟨by rw[j];exact(hf _ h.ex).perm (qG).symm,by rw[j];exact h.bl,by rw[j];exact h.nm⟩
def BOk(N:Int)(B:PS->R Nat):Prop:=∀s,WS N s->Sat (B s) (λx s'=>Later N s s'/\∀pe pb,FI s pe pb->FI s' pe (x::pb)) (InN N)
section
variable{N:Int}{E B:PS->R Nat}
theorem Fa:∀(n:Nat) (s:PS) (ls:List Str),WS N s->Sat (sH n s ls) (λ_ s'=>Go1 N s s'/\s'.ex=s.ex/\s'.bl=s.bl) (InN N)
 |0,s,_,h=>⟨oV _,h.pN⟩
 |n+1,s,ls,h=>by
  have j:=kH h
  have n1:=sF h
  simp only[sH]
  split
  ·refine(GP (n1.1.ws h) (t:=cur s) ⟨j.1,j.2.1⟩).bind λl s1 e1=>?_
   subst e1
   exact(Fa n _ (ls++[l]) (n1.1.ws h)).mono λ_ s2 ⟨g,e,b⟩=>⟨n1.1.trans g,e.trans n1.2.2.1,b.trans n1.2.2.2⟩
  ·exact⟨gI h,(iK s).1,(iK s).2⟩
theorem Sj(hE:EOk N E)(hB:BOk N B){s:PS}(h:WS N s)(us:List Atr)(bs:List Nat)(hn:HY us):
  Sat (Df E B s us bs) (λx s'=>Later N s s'/\HY x.1/\∀pe pb,FI s (us.map (·.e)++pe) (bs++pb)->FI s' (x.1.map (·.e)++pe) (x.2++pb)) (InN N):=by
 unfold Df;refine(mG h 1 (by decide)).bind λt s1 ⟨g1,x1,b1,U,hk⟩=>?_;have o:=g1.1.ws h;have t1:=jT o [61];have I:=t1.1.ws o;have hc:=kH h;split
 ·refine(hE _ I).bind λx s2 ⟨g2,b2,f2⟩=>?_;refine⟨⟨g1.1.trans (t1.1.trans g2.1),by have:=g1.2;have:=t1.1.le;have:=g2.2;omega⟩,λa j=>?_,λpe pb hf=>?_⟩
  ·rcases dH.1 j with j|j
   ·exact hn a j
   ·rw[bK]at j;subst j;rw[U];exact hc.2.2.2.2 (by rw[<-U];exact hk)
  ·have:=(hf.same (s':=(bX s1 [61]).2) (t1.2.2.1.trans x1) (t1.2.2.2.trans b1)).expr b2 f2;refine this.perm ?_ (List.Perm.refl _);simp only[fE,dC,oS,fP];exact(qG).symm
 ·have hi:=g1.2;have hh:=t1.1.le;have J:Go1 N s {(bX s1 [61]).2 with i:=(bX s1 [61]).2.i-1}:=by
   have g:=g1.1.trans t1.1;refine⟨g.toks,g.off,g.deep,g.quiet,?_,?_,g.exs⟩
   ·show s.i<=(bX s1 [61]).2.i-1;omega
   ·show(bX s1 [61]).2.i-1<(bX s1 [61]).2.toks.length;have:=g.lt;omega
  refine(hB _ (J.ws h)).bind λx s2 ⟨g2,f2⟩=>?_;refine⟨⟨J.trans g2.1,by have:=J.le;have:=g2.2;omega⟩,hn,λpe pb hf=>?_⟩;have:=f2 _ _ (hf.same (s':={(bX s1 [61]).2 with i:=(bX s1 [61]).2.i-1}) (t1.2.2.1.trans x1) (t1.2.2.2.trans b1));refine this.perm (List.Perm.refl _) ?_;simp only[fP];exact(qG).symm
theorem Hi(hE:EOk N E)(hB:BOk N B):∀(n:Nat) (s:PS) (us:List Atr) (bs:List Nat),WS N s->HY us->
  Sat (rS E B n s us bs) (λx s'=>Later N s s'/\HY x.1/\∀pe pb,FI s (us.map (·.e)++pe) (bs++pb)->FI s' (x.1.map (·.e)++pe) (x.2++pb)) (InN N)
 |0,s,_,_,h,_=>⟨oV _,h.pN⟩
 |n+1,s,us,bs,h,hn=>by
  have t1:=jT h [125]
  have I:=t1.1.ws h
  simp only[rS]
  split
  ·rename_i J
   exact⟨⟨t1.1,t1.2.1 J⟩,hn,λpe pb hf=>hf.same t1.2.2.1 t1.2.2.2⟩
  refine(Sj hE hB I us bs hn).bind λx s1 ⟨g1,n1,f1⟩=>?_
  have o:=g1.1.ws I
  have m1:=gI o
  have j:=m1.ws o
  split
  ·have:=kH j
   exact⟨this.1,this.2.1⟩
  have l1:=nG j
  refine(Hi hE hB n _ x.1 x.2 (l1.1.ws j) n1).mono λy s2 ⟨g2,n2,f2⟩=>⟨⟨t1.1.trans (g1.1.trans (m1.trans (l1.1.trans g2.1))),by have:=t1.1.le;have:=g1.2;have:=m1.le;have:=l1.1.le;have:=g2.2;omega⟩,n2,λpe pb hf=>f2 pe pb ?_⟩
  exact(f1 pe pb (hf.same t1.2.2.1 t1.2.2.2)).same (l1.2.1.trans (iK _).1) (l1.2.2.trans (iK _).2)
theorem HO(hE:EOk N E)(hB:BOk N B):BOk N (zL E B):=by
 intro s h;unfold zL;refine(mG h 1 (by decide)).bind λt s1 ⟨g1,x1,b1,ht,hk⟩=>?_;have I:=g1.1.ws h;refine(Fa _ s1 [] I).bind λls s2 ⟨g2,x2,b2⟩=>?_;have j:=g2.ws I;have n2:=gI j;have U:=n2.ws j;have J:=kH j;split
 ·exact⟨J.1,J.2.1⟩
 rename_i hi;have hi:isS s2 [123]=true:=by simpa using hi
 have e3:(bE s2).ex=s.ex:=(iK _).1.trans (x2.trans x1);have b3:(bE s2).bl=s.bl:=(iK _).2.trans (b2.trans b1);refine Sat.bind (lU U (a:=(cur s2).a) (q:=false) ⟨J.1,J.2.1⟩ (P:=λ(x:List Atr×List Nat) s'=>Go1 N {bE s2 with deep:=(bE s2).deep+1,quiet:=false} s'/\HY x.1/\∀pe pb,FI s pe pb->FI s' (x.1.map (·.e)++pe) (x.2++pb)) λhw=>?_) λx s3 ⟨q,⟨g4,m4,f4⟩,e4⟩=>?_
 ·have hh:=oZ j hi ((bE s2).deep+1) false;have h4:=jU hw hh.2.1;rw[hh.1]at h4;have o:=h4.1.ws hw;have l4:=nG o;refine(Hi hE hB _ _ [] [] (l4.1.ws o) (λa ha=>by cases ha)).mono λx s' ⟨g,m,f⟩=>⟨h4.1.trans (l4.1.trans g.1),m,λpe pb hf=>f pe pb ?_⟩;exact hf.same (l4.2.1.trans e3) (l4.2.2.trans b3)
 ·subst e4;have g4':=g4.back;have g:=g1.1.trans (g2.trans (n2.trans g4'));refine⟨⟨⟨g.toks,g.off,g.deep,g.quiet,g.le,g.lt,g.exs⟩,by have:=g1.2;have:=g2.le;have:=n2.le;have:=g4'.le;show s.i<q.i;simp only at this;omega⟩,λpe pb hf=>?_⟩;have hq:=f4 pe pb hf;refine⟨?_,?_,?_⟩
  ·show cX (exL q.ex) (KS (q.bl++[⟨t.t,ls,x.1,x.2,t.a⟩])++pe);have e:KS (q.bl++[⟨t.t,ls,x.1,x.2,t.a⟩])++pe=KS q.bl++(x.1.map (·.e)++pe):=by simp[KS]
   rw[e];exact hq.ex
  ·show cX (blL (q.bl++[⟨t.t,ls,x.1,x.2,t.a⟩])) (q.bl.length::pb);have:=hq.bl.put;rw[cD]at this;simpa[blL]using this
  ·intro b hb;have hb:b∈q.bl++[⟨t.t,ls,x.1,x.2,t.a⟩]:=hb;rcases dH.1 hb with hb|hb
   ·exact hq.nm b hb
   ·rw[bK]at hb;subst hb;exact m4
end
theorem Lh(N:Int):BOk N dead:=λ_ h=>⟨oV _,h.pN⟩
theorem HP(N:Int):∀d,BOk N (CO d)
 |0=>HO (An N) (Lh N)
 |d+1=>HO (tS N d).1 (HP N d)
end
end Go.Syn
namespace Go.Proofs.YtghhmpppnmoeoaaGreatDoor
section
open Go Go.Eng Go.RowKit Go.Syn Go.Lex
variable{w:World}{K:Q0}{cs:List Value}{G:Nat->Prop}{T:TypeId}{i:Nat}{n:Nat}{v:Value}{w':World}{P:Program}{c:UInt8}{S:Nat->Prop}
section
variable{w0 w w1 w2:World}{p f:Nat}{M:Lay}{vt:Value}{s:PS}{top:List Nat}
theorem PR.putB(h:PR w0 w p f M vt s top){wb:World}{M0:Lay}(J:Eff p f M0 M wb w){e:Blk}{d:List Value}{v':Value}(hd:BkR w w0.heap.size e d)(U:∀k∈ub d,Off w0 w p f M vt k)(hn:(ub d).Nodup)(hh:∀k∈ub d,wb.heap.size<=k)
  (hO:Own w1 w0.heap.size BkT 5 v' (s.bl.length+1) (M.cB++d))(hr:Chg (λk=>M.vB.ownBlock=some k) w w1)(o:∀k,v'.ownBlock=some k->M.vB.ownBlock=some k\/w.heap.size<=k)
  (hc:Chg (One f) w1 w2)(hf:w2.heap[f]?=some (.cells [M.vE,v',M.vT].toArray FlT (0,0))):PR w0 w2 p f {M with vB:=v',cB:=M.cB++d} vt {s with bl:=s.bl++[e]} top/\Eff p f M0 {M with vB:=v',cB:=M.cB++d} wb w2:=by
 have hb:=h.base;have xb:=J.chg.size;have pB:=LP M f;have use:∀k,M.vB.ownBlock=some k->k∈M.uses f:=λk j=>aR _ (lD (v:=M.vB) (by simp) j);have I:=pB.nodup_iff.1 h.fr.nd;have hi:=I;rw[jP,fD]at hi;obtain⟨nf,_,nb,nab⟩:=hi;have inU:∀k∈ub ([M.vE,M.vT]++(M.cE++M.cB)),k∈M.uses f:=λk j=>pB.mem_iff.2 (aR _ (dB _ j));have rest:∀k∈ub ([M.vE,M.vT]++(M.cE++M.cB)),M.vB.ownBlock≠some k/\k≠f/\k<w.heap.size:=λk j=>
  ⟨λe=>nab k (gW.2 e) k j rfl,λe=>nf (e▸dB _ j),h.fr.lt k (inU k j)⟩
 have c12:Chg (λk=>M.vB.ownBlock=some k\/k=f) w w2:=(hr.mono λk _ e=>.inl e).trans (hc.mono λk _ e=>.inr e);have sub:∀v∈[M.vE,M.vT]++(M.cE++M.cB),∀k,v.ownBlock=some k->¬(M.vB.ownBlock=some k\/k=f):=λv o k j e=>by
  have:=rest k (lD o j);exact e.elim this.1 this.2.1
 have hs:∀k,v'.ownBlock=some k->k≠f:=λk j e=>by
  subst e;rcases o k j with e|e
  ·exact nf (eZ _ (gW.2 e))
  ·have:=fA h.fr.hf;omega
 have nE:M.vB.ownBlock≠some p:=λe=>h.np (use p e);have pf:p≠f:=λe=>h.np (e▸bA);have perm:=TV M f v' d;have hN:(f::(ub [v']++(ub d++ub ([M.vE,M.vT]++(M.cE++M.cB))))).Nodup:=IF (n:=w.heap.size) (a:=ub [M.vB]) I (λk j=>h.fr.lt k (pB.mem_iff.2 j)) (mL _) (λk j=>(o k (gW.1 j)).imp (λe=>gW.2 e) id) hn λk j=>⟨(U k j).1.2,λe=>(U k j).2.2.1 (pB.mem_iff.2 e)⟩;have hz:=c12.size;have mem:∀k∈({M with vB:=v',cB:=M.cB++d}:Lay).uses f,k=f\/v'.ownBlock=some k\/k∈ub d\/k∈ub ([M.vE,M.vT]++(M.cE++M.cB)):=λk j=>by
  have j:=perm.mem_iff.1 j;rcases bM.1 j with e|e
  ·exact .inl e
  rcases dH.1 e with e|e
  ·exact .inr (.inl (gW.1 e))
  rcases dH.1 e with e|e
  ·exact .inr (.inr (.inl e))
  ·exact .inr (.inr (.inr e))
 have cT:Chg (Tn p f M) w w2:=c12.mono λk _ e=>e.elim (λe=>.inr (.inr (.inr e))) λe=>.inr (.inl e);refine⟨⟨?_,⟨hf,?_,?_,?_,?_,?_,perm.nodup_iff.2 hN,λk j=>?_,λk j=>?_⟩,?_,?_,λe=>?_,h.lo,λk j=>?_⟩,⟨(J.trans (Eff.of cT)).chg,λk j=>?_,J.hE,λk j=>(o k j).elim (J.hB k) λe=>.inr (by omega),J.hT⟩⟩
 ·refine h.ch.then c12 λk j e=>?_;rcases e with e|e
  ·exact(h.fr.lo k (use k e)).resolve_right (by omega)
  ·exact e
 ·exact jO h.fr.oE c12 (sub _ (by simp))
 ·rw[aU];exact jO hO hc λk j e=>hs k j e
 ·exact jO h.fr.oT c12 (sub _ (by simp))
 ·refine h.fr.ee.imp λx d hd hx=>hx.at_ c12 λk j=>?_;obtain⟨v,o,j⟩:=gT.1 j;exact sub v (by simp[hd v o]) k j
 ·refine pI.snoc ?_ (hd.at_ c12 λk j e=>?_) (by obtain⟨vl,va,vk,rfl,_⟩:=hd;rfl)
  ·refine h.fr.bb.imp λx d hd hx=>hx.at_ c12 λk j=>?_;obtain⟨v,o,j⟩:=gT.1 j;exact sub v (by simp[hd v o]) k j
  ·have ho:=(U k j).2.2.1;rcases e with e|e
   ·exact ho (use k e)
   ·exact ho (e▸bA)
 ·rcases mem k j with e|e|e|e
  ·rw[e];exact fA hf
  ·exact cR (rP hO e).1 hc.size
  ·exact cR (U k e).1.2 hz
  ·exact cR (rest k e).2.2 hz
 ·rcases mem k j with e|e|e|e
  ·exact .inl e
  ·exact .inr (rP hO e).2
  ·exact .inr (U k e).1.1
  ·exact h.fr.lo k (inU k e)
 ·exact c12.at h.ps λe=>e.elim nE pf
 ·exact zS h.tk c12 λk j e=>by
   have:=(h.nt k j).1;rcases e with e|e
   ·exact this (use k e)
   ·exact this (e▸bA)
 ·rcases mem p e with e|e|e|e
  ·exact pf e
  ·exact(o p e).elim nE λe=>by have:=h.lt;omega
  ·exact(U p e).2.1 rfl
  ·exact h.np (inU p e)
 ·have ht:=h.nt k j;refine⟨λe=>?_,ht.2.1,cR ht.2.2 hz⟩;rcases mem k e with e|e|e|e
  ·exact ht.1 (e▸bA)
  ·exact(o k e).elim (λe=>ht.1 (use k e)) λe=>by omega
  ·exact(U k e).2.2.2 j
  ·exact ht.1 (inU k e)
 ·rcases mem k j with e|e|e|e
  ·exact J.us k (e▸bA)
  ·exact(o k e).elim (λe=>J.us k (use k e)) λe=>.inr (by omega)
  ·exact .inr (hh k e)
  ·exact J.us k (inU k e)
end
structure HZ(F:PS->R Nat):Prop where
 ok:∀N,BOk N F
 z:EZ F
theorem Gd.bk{x:Nat}{s s':PS}{N:Int}{dl:Nat}{F:PS->R Nat}(h:Gd N s dl)(j:HZ F)(e:F s=.ok x s'):Gd N s' dl/\s.i<s'.i/\s'.toks=s.toks:=by
 have h1:=j.ok N s h.ws;have o:=j.z s;rw[e]at h1 o;exact⟨h.go h1.1.1 o,h1.1.2,h1.1.1.toks⟩
section
variable [HX]
variable{w0 w w' w1:World}{p f b:Nat}{M M' M0:Lay}{vt:Value}{s:PS}{top:List Nat}{N:Int}{K:Q0}{e:Ex}{wbn:Nat}{wb:World}{dl:Nat}
structure BL(w0 w:World)(p f:Nat)(M:Lay)(vt:Value)(B1 b4:Nat)(typ:Str)(a:Int)(vl va vb:Value)(ls:List Str)(av:List Atr)(bs:List Nat):Prop where
 l4:Loc w0 w p f M vt b4 BkT [str typ,vl,va,vb,i64 a]
 rL:Ro w0 w p f M vt B1 StT 1 vl ls.length (strs ls)
 rA:Ro w0 w p f M vt B1 AtT 3 va av.length (Qm av)
 rB:Ro w0 w p f M vt B1 jD 1 vb bs.length (ints bs)
 d1:∀k,vl.ownBlock=some k->va.ownBlock≠some k
 d2:∀k,vl.ownBlock=some k->vb.ownBlock≠some k
 d3:∀k,va.ownBlock=some k->vb.ownBlock≠some k
 lt:b4<B1/\B1<=w.heap.size
section
variable{B1 b4:Nat}{typ:Str}{a:Int}{vl va vb:Value}{ls:List Str}{av:List Atr}{bs:List Nat}
theorem BL.eff(h:BL w0 w p f M vt B1 b4 typ a vl va vb ls av bs)(j:Eff p f M M' w w'):BL w0 w' p f M' vt B1 b4 typ a vl va vb ls av bs:=
 ⟨h.l4.eff j,h.rL.eff j,h.rA.eff j,h.rB.eff j,h.d1,h.d2,h.d3,h.lt.1,cC h.lt.2 j.chg.size⟩
theorem BL.ext(h:BL w0 w p f M vt B1 b4 typ a vl va vb ls av bs)(j:Ext w w'):BL w0 w' p f M vt B1 b4 typ a vl va vb ls av bs:=h.eff (Eff.ext j)
theorem BL.one(h:BL w0 w p f M vt B1 b4 typ a vl va vb ls av bs)(j:Chg (One b) w w')(hb:b≠b4)(o:vl.ownBlock≠some b)(I:va.ownBlock≠some b)(hB:vb.ownBlock≠some b):BL w0 w' p f M vt B1 b4 typ a vl va vb ls av bs:=
 ⟨h.l4.one j (tA hb),h.rL.one j o,h.rA.one j I,h.rB.one j hB,h.d1,h.d2,h.d3,h.lt.1,cC h.lt.2 j.size⟩
theorem BL.fresh(h:BL w0 w p f M vt B1 b4 typ a vl va vb ls av bs){k:Nat}(j:w.heap.size<=k):k≠b4/\vl.ownBlock≠some k/\va.ownBlock≠some k/\vb.ownBlock≠some k:=
 ⟨λe=>by have:=h.l4.lt;omega,λe=>by have:=(h.rL.off k e).1.2;omega,λe=>by have:=(h.rA.off k e).1.2;omega,λe=>by have:=(h.rB.off k e).1.2;omega⟩
theorem BL.no4(h:BL w0 w p f M vt B1 b4 typ a vl va vb ls av bs):vl.ownBlock≠some b4/\va.ownBlock≠some b4/\vb.ownBlock≠some b4:=
 ⟨λe=>by have:=h.rL.new _ e;have:=h.lt.1;omega,λe=>by have:=h.rA.new _ e;have:=h.lt.1;omega,λe=>by have:=h.rB.new _ e;have:=h.lt.1;omega⟩
theorem BL.appL{x:Str}{r:Nat}{ty:TypeId}{KW:World->Prop}(h:BL w0 w p f M vt B1 b4 typ a vl va vb ls av bs)(hp:PR w0 w p f M vt s top)(hr:w.heap[r]?=some (.cells [str x].toArray StT (0,0)))(hn:ls.length<=1000000)
  (hK:∀vl' w',BL w0 w' p f M vt B1 b4 typ a vl' va vb (ls++[x]) av bs->PR w0 w' p f M vt s top->Chg (λk=>vl.ownBlock=some k\/k=b4) w w'->(∀b T cs,Loc w0 w p f M vt b T cs->b≠b4->vl.ownBlock≠some b->Loc w0 w' p f M vt b T cs)->(∀k,vl'.ownBlock=some k->vl.ownBlock=some k\/w.heap.size<=k)->KW w'):
  dF P0 (Builtin.append_ #[24,24] ty #[vl,.slice (some ⟨r,0,none⟩) 1 1]) w λt62 w36=>aZ 1 (.pointer (some ⟨b4,0,none⟩)) λt63=>stW 1 t63 t62 w36 KW:=by
 refine Ro.app SQ h.rL hp hr rfl (λu hu=>by simp only[bK]at hu;subst hu;rfl) hn (by decide) h.lt.2 λv' w2 o J hv hh=>?_;have e1:(ls++[x]).length=ls.length+1:=by simp
 rw[<-e1,show strs ls++[str x]=strs (ls++[x])from by simp[strs]]at o;rw[bT,bW,aX];obtain⟨vp,vc,ev,_⟩:=o.own.sl.shape;obtain⟨n1,n2,n3⟩:=h.no4;have n1':v'.ownBlock≠some b4:=λe=>by have:=o.new b4 e;have:=h.lt.1;omega
 refine(h.l4.row J n1).st (by rw[ev];rfl) (by simp) λw3 L3 j hj=>?_;have z:=J.size;refine hK v' w3 ⟨L3,o.one j n1',(h.rA.row J λk I e=>h.d1 k e I).one j n2,(h.rB.row J λk I e=>h.d2 k e I).one j n3,λk I=>?_,λk I=>?_,h.d3,h.lt.1,by have:=h.lt.2;omega⟩ (hh.one j L3.2) ((J.mono λk _ e=>.inl e).trans (j.mono λk _ e=>.inr e)) (λb T cs hL hb U=>(hL.row J U).one j hb) hv
 ·exact(hv k I).elim (h.d1 k) λe e'=>by have:=(h.rA.off k e').1.2;omega
 ·exact(hv k I).elim (h.d2 k) λe e'=>by have:=(h.rB.off k e').1.2;omega
theorem BL.appA{x:Atr}{r:Nat}{ty:TypeId}{KW:World->Prop}(h:BL w0 w p f M vt B1 b4 typ a vl va vb ls av bs)(hp:PR w0 w p f M vt s top)(hr:w.heap[r]?=some (.cells [str x.n,i64 (x.e:Nat),i64 x.a].toArray AtT (0,0)))(hn:av.length<=1000000)
  (hK:∀va' w',BL w0 w' p f M vt B1 b4 typ a vl va' vb ls (av++[x]) bs->PR w0 w' p f M vt s top->Chg (λk=>va.ownBlock=some k\/k=b4) w w'->(∀b T cs,Loc w0 w p f M vt b T cs->b≠b4->va.ownBlock≠some b->Loc w0 w' p f M vt b T cs)->(∀k,va'.ownBlock=some k->va.ownBlock=some k\/w.heap.size<=k)->KW w'):
  dF P0 (Builtin.append_ #[84,84] ty #[va,.slice (some ⟨r,0,none⟩) 1 1]) w λt62 w36=>eF (.pointer (some ⟨b4,0,none⟩)) λt63=>aZ 2 t63 λt63=>stW 1 t63 t62 w36 KW:=by
 refine Ro.app aD4 h.rA hp hr rfl (λu hu=>by simp only[bM,eA,mO]at hu;rcases hu with rfl|rfl|rfl<;>rfl) hn (by decide) h.lt.2 λv' w2 o J hv hh=>?_;have e1:(av++[x]).length=av.length+1:=by simp
 rw[<-e1,show Qm av++[str x.n,i64 (x.e:Nat),i64 x.a]=Qm (av++[x])from by simp[Qm]]at o;rw[eD,bT,bW,aX];obtain⟨vp,vc,ev,_⟩:=o.own.sl.shape;obtain⟨n1,n2,n3⟩:=h.no4;have n2':v'.ownBlock≠some b4:=λe=>by have:=o.new b4 e;have:=h.lt.1;omega
 refine(h.l4.row J n2).st (by rw[ev];rfl) (by simp) λw3 L3 j hj=>?_;have z:=J.size;refine hK v' w3 ⟨L3,(h.rL.row J λk I e=>h.d1 k I e).one j n1,o.one j n2',(h.rB.row J λk I e=>h.d3 k e I).one j n3,λk I e=>?_,h.d2,λk I=>?_,h.lt.1,by have:=h.lt.2;omega⟩ (hh.one j L3.2) ((J.mono λk _ e=>.inl e).trans (j.mono λk _ e=>.inr e)) (λb T cs hL hb U=>(hL.row J U).one j hb) hv
 ·exact(hv k e).elim (λe=>h.d1 k I e) λe=>by have:=(h.rL.off k I).1.2;omega
 ·exact(hv k I).elim (h.d3 k) λe e'=>by have:=(h.rB.off k e').1.2;omega
theorem BL.appB{x:Nat}{r:Nat}{ty:TypeId}{KW:World->Prop}(h:BL w0 w p f M vt B1 b4 typ a vl va vb ls av bs)(hp:PR w0 w p f M vt s top)(hr:w.heap[r]?=some (.cells [i64 (x:Nat)].toArray jD (0,0)))(hn:bs.length<=1000000)
  (hK:∀vb' w',BL w0 w' p f M vt B1 b4 typ a vl va vb' ls av (bs++[x])->PR w0 w' p f M vt s top->Chg (λk=>vb.ownBlock=some k\/k=b4) w w'->(∀b T cs,Loc w0 w p f M vt b T cs->b≠b4->vb.ownBlock≠some b->Loc w0 w' p f M vt b T cs)->(∀k,vb'.ownBlock=some k->vb.ownBlock=some k\/w.heap.size<=k)->KW w'):
  dF P0 (Builtin.append_ #[30,30] ty #[vb,.slice (some ⟨r,0,none⟩) 1 1]) w λt62 w36=>eF (.pointer (some ⟨b4,0,none⟩)) λt63=>aZ 3 t63 λt63=>stW 1 t63 t62 w36 KW:=by
 refine Ro.app CB h.rB hp hr rfl (λu hu=>by simp only[bK]at hu;subst hu;rfl) hn (by decide) h.lt.2 λv' w2 I J hv hh=>?_;have e1:(bs++[x]).length=bs.length+1:=by simp
 rw[<-e1,show ints bs++[i64 (x:Nat)]=ints (bs++[x])from by simp[ints]]at I;rw[eD,bT,bW,aX];obtain⟨vp,vc,ev,_⟩:=I.own.sl.shape;obtain⟨n1,n2,n3⟩:=h.no4;have n3':v'.ownBlock≠some b4:=λe=>by have:=I.new b4 e;have:=h.lt.1;omega
 refine(h.l4.row J n3).st (by rw[ev];rfl) (by simp) λw3 L3 j hj=>?_;have z:=J.size;refine hK v' w3 ⟨L3,(h.rL.row J λk o e=>h.d2 k o e).one j n1,(h.rA.row J λk o e=>h.d3 k o e).one j n2,I.one j n3',h.d1,λk o e=>?_,λk o e=>?_,h.lt.1,by have:=h.lt.2;omega⟩ (hh.one j L3.2) ((J.mono λk _ e=>.inl e).trans (j.mono λk _ e=>.inr e)) (λb T cs hL hb U=>(hL.row J U).one j hb) hv
 ·exact(hv k e).elim (λe=>h.d2 k o e) λe=>by have:=(h.rL.off k o).1.2;omega
 ·exact(hv k e).elim (λe=>h.d3 k o e) λe=>by have:=(h.rA.off k o).1.2;omega
theorem Gd.etoks{x:Nat}{s':PS}{F:PS->R Nat}(h:Gd N s dl)(j:rW F)(e:F s=.ok x s'):s'.toks=s.toks:=by
 have h1:=j.ok N s h.ws;rw[e]at h1;exact h1.1.1.toks
theorem Gd.name_back{t:Tok}{s1:PS}(J:Gd N s dl)(e:mH s 1=.ok t s1)(hn:(bX s1 [61]).1=false):
  Gd N {(bX s1 [61]).2 with i:=(bX s1 [61]).2.i-1} dl/\s.i<=(bX s1 [61]).2.i-1/\1<=(bX s1 [61]).2.i/\(bX s1 [61]).2.toks=s.toks:=by
 have o:=J.kind (by decide) e;have j:=mG J.ws 1 (by decide);rw[e]at j;have e1:s1=step1 (bE s):=by
  unfold mH at e;split at e
  ·rename_i o;injection e with _ e
   rw[<-e];unfold jE;rw[aJ (by rw[o];decide)]
  ·cases e
 have t1:=jT o.1.ws [61];have e2:(bX s1 [61]).2=bE s1:=by
  unfold bX at hn⊢;split
  ·rename_i hi;rw[aJ hi]at hn;cases hn
  ·rfl
 have hc:=o.2.1;have U:=t1.1.le;have I:Go1 N s {(bX s1 [61]).2 with i:=(bX s1 [61]).2.i-1}:=by
  have g:=j.1.1.trans t1.1;refine⟨g.toks,g.off,g.deep,g.quiet,?_,?_,g.exs⟩
  ·show s.i<=(bX s1 [61]).2.i-1;omega
  ·show(bX s1 [61]).2.i-1<(bX s1 [61]).2.toks.length;have:=g.lt;omega
 refine⟨J.go I ?_,by omega,by omega,(t1.1.toks).trans j.1.1.toks⟩;have hi:s.i<=(bE s1).i-1:=by rw[<-e2];omega
 have x1:(bE s1).ex=s.ex:=(iK s1).1.trans (by rw[e1];exact(iK s).1);have x2:(bE s1).bl=s.bl:=(iK s1).2.trans (by rw[e1];exact(iK s).2);have x3:(bE s1).toks=s.toks:=by
  have h1:∀s:PS,(bE s).toks=s.toks:=λs=>by unfold bE;split<;>rfl
  rw[h1,e1];exact h1 s
 rw[e2];unfold Syn.phi;simp only;rw[x1,x2,x3];have:=LK s.toks hi;omega
theorem aBO{E B:PS->R Nat}(hE:EC w0 f 82 E dl)(hB:EC w0 f 30 B dl)(hF:rW E)(yd:HZ B)(h:PR w0 w p f M vt s top)(hg:Gd N s dl)(hL:BL w0 w p f M vt B1 b4 typ a vl va vb ls av bs)(xz:av.length<=1000000)(xx:bs.length<=1000000)
  {M0:Lay}{wb:World}(xc:Eff p f M0 M wb w)(yo:wb.heap.size<=b4)(yl:wb.heap.size<=B1)
  (hK:∀x s',Df E B s av bs=.ok x s'->∀M' va' vb' w',PR w0 w' p f M' vt s' top->Gd N s' dl->s.i<s'.i->s'.toks=s.toks->x.1.length<=av.length+1->x.2.length<=bs.length+1->Eff p f M0 M' wb w'->BL w0 w' p f M' vt B1 b4 typ a vl va' vb' ls x.1 x.2->
    (∀b T cs,Loc w0 w p f M vt b T cs->b≠b4->va.ownBlock≠some b->vb.ownBlock≠some b->Loc w0 w' p f M' vt b T cs)->(∀k,va'.ownBlock=some k->va.ownBlock=some k\/w.heap.size<=k)->(∀k,vb'.ownBlock=some k->vb.ownBlock=some k\/w.heap.size<=k)->K (.tuple #[]) w')
  (ht:∀c a',Df E B s av bs=.err c a'->Thr w0 f c a'):
  aC P0 53 [.pointer (some ⟨p,0,none⟩),.pointer (some ⟨b4,0,none⟩)] w K:=by
 refine aCK ?_;unfold W53;have hN:=hg.hN;unfold Df at hK ht;refine yZ h hg.ws hN hg.l (λt s1 et w1 h1 xb=>?_) λc a' et=>ht c a' (by rw[et];rfl);rw[et]at hK ht;simp only[R.bind]at hK ht;have J:=hg.kind (by decide) et;have xh:=mG hg.ws 1 (by decide);rw[et]at xh;have xk:=hL.eff xb;refine bI λb5 w2 xy xn xj hx=>?_;have h2:=h1.ext hx;have L5:=h1.loc xn xy xj;have fr5:=xk.fresh (k:=b5) (by omega);refine cK (l:=fS t) L5.1 rfl rfl rfl λw3 yi xi xd=>?_;have L5:Loc w0 w3 p f M vt b5 TkT (fS t):=⟨xi,L5.2.up (by omega)⟩;have h3:=h2.one xd L5.2;have yb:=(xk.ext hx).one xd fr5.1 fr5.2.1 fr5.2.2.1 fr5.2.2.2;have yj:=xb.chg.size;have xu:Eff p f M M w w3:=(xb.x hx).one xd (by omega);refine vL h3 J.1.ws hN J.1.l λw4 h4 I=>?_;have L5:=L5.eff I;have hi:=yb.eff I;have I:=xu.trans I;have U:=J.1.take [61];have tg:=jT J.1.ws [61];have zz:=xc.chg.size;rw[bY];refine⟨λhy=>?_,λhn=>?_⟩
 ·
  rw[aJ hy]at hK ht;have L5:=L5.drew;have hi:=hi.ext (dE w4);have h4:=h4.drew;have I:=I.x (dE w4);rw[eD,bT,bW,aX];refine hi.l4.ld rfl ?_;rw[bT,bW,aX];refine L5.ld rfl ?_;rw[bT,bW,aX];refine L5.ld rfl ?_;refine hE w4.drew p M vt _ top N _ h4 U (λx s2 ex M2 w5 h5 j=>?_) λc a' ex=>ht c a' (by rw[ex]);rw[ex]at hK;simp only at hK;obtain⟨g2,i2⟩:=U.e hF ex;have t2:=U.etoks hF ex;have L5:=L5.eff j;have hh:=hi.eff j;have j:=I.trans j;refine⟨L5.ld rfl rfl,L5.ld rfl rfl,hh.l4.ld rfl rfl,?_⟩;simp only[dI,eY,cW,aB,aN,aY,bB,Nat.reduceAdd,Nat.reduceLT,dV,aA];refine BU (d:=[str t.t,i64 ((x:Nat):Int),i64 t.a]) rfl rfl λr w6 hr yg hz hv=>?_;have hc:=hh.ext hv;have o:=j.x hv;have yn:=o.chg.size;refine⟨hc.l4.ld rfl rfl,?_⟩;refine hc.appA (x:=⟨t.t,x,t.a⟩) (h5.ext hv) hz xz λva' w7 ho h7 xw xr xp=>?_;refine hK _ _ rfl M2 va' vb w7 h7 g2 (by have:=tg.1.le;have:=J.2.1;omega) (t2.trans (tg.1.toks.trans xh.1.1.toks)) (by simp) (by simp) (((xc.trans o).then xw λk xt e=>?_)) ho (λb T cs hl hb xg xf=>xr b T cs (hl.eff o) hb xg) (λk J=>(xp k J).imp id λe=>by omega) λk J=>.inl J;rcases e with e|e
  ·have:=hL.rA.new k e;omega
  ·omega
 ·
  have hn:(bX s1 [61]).1=false:=by simpa using hn
  rw[aE (by rw[hn];decide)]at hK ht;obtain⟨gb,ib,i1,tb⟩:=hg.name_back et hn;refine h4.ld rfl ?_;have yq:=U.ws.lt;have yp:=U.few;rw[kW,cN (by omega) (by omega),show(((bX s1 [61]).2.i:Nat):Int)-1=(((bX s1 [61]).2.i-1:Nat):Int)by omega];refine h4.st_i λw5 h5 j yh=>?_;have hh:=(hi.eff j).ext (dE w5);have h5:=h5.drew;have j:=(I.trans j).x (dE w5);rw[eD,bT,bW,aX];refine hh.l4.ld rfl ?_;refine hB w5.drew p M vt _ top N _ h5 gb (λx s2 ex M2 w6 h6 o=>?_) λc a' ex=>ht c a' (by rw[ex]);rw[ex]at hK;simp only at hK;obtain⟨g2,i2,t2⟩:=gb.bk yd ex;have hc:=hh.eff o;have o:=j.trans o;refine⟨hc.l4.ld rfl rfl,?_⟩;refine kE λr w7 hr yf hz hs=>?_;have ho:=hc.ext hs;have xa:=o.x hs;have ym:=xa.chg.size;refine⟨ho.l4.ld rfl rfl,?_⟩;refine ho.appB (h6.ext hs) hz xx λvb' w8 ya h8 xv xq xo=>?_;refine hK _ _ rfl M2 va vb' w8 h8 g2 (by have i2:(bX s1 [61]).2.i-1<s2.i:=i2;omega) (t2.trans tb) (by simp) (by simp) ((xc.trans xa).then xv λk xt e=>?_) ya (λb T cs hl hb xg xf=>xq b T cs (hl.eff xa) hb xf) (λk J=>.inl J) λk J=>(xo k J).imp id λe=>by omega
  rcases e with e|e
  ·have:=hL.rB.new k e;omega
  ·omega
end
end
section
variable [HX]
variable{w0 w w' w1:World}{p f:Nat}{M M' M0:Lay}{vt:Value}{s:PS}{top:List Nat}{N:Int}{K:Q0}{e:Ex}{wbn:Nat}{wb:World}{dl:Nat}{B1 b4:Nat}{typ:Str}{a:Int}{vl va vb:Value}{ls:List Str}{av:List Atr}{bs:List Nat}
theorem Pq(s:PS):jE (bE s)=jE s:=by unfold jE;rw[lC,gV]
theorem Gd.plain{N:Int}{s s':PS}{t:Tok}{l:Str}(e:qO s t=.ok l s'):s'=s:=by
 unfold qO at e;split at e
 ·cases e
 ·injection e with _ e;exact e.symm
theorem WT{E B:PS->R Nat}{b1:Nat}(hE:EC w0 f 82 E dl)(hB:EC w0 f 30 B dl)(hF:rW E)(xv:HZ B)(h:PR w0 w p f M vt s top)(hg:Gd N s dl)(xr:(cur s).k≠0)(xc:bE s=s)
  (hL:BL w0 w p f M vt B1 b4 typ a vl (.slice none 0 0) (.slice none 0 0) ls [] [])(L1:Loc w0 w p f M vt b1 PpT [.pointer (some ⟨p,0,none⟩)])(ho:b1<B1/\b1≠b4)
  {M0:Lay}{wb:World}(xh:Eff p f M0 M wb w)(xm:wb.heap.size<=b4)(xl:wb.heap.size<=B1)
  (hK:∀x s',rS E B (s.toks.length+1) (gM (step1 s)) [] []=.ok x s'->∀M' va' vb' w',PR w0 w' p f M' vt s' top->Gd N s' dl->Eff p f M0 M' wb w'->BL w0 w' p f M' vt B1 b4 typ a vl va' vb' ls x.1 x.2->Loc w0 w' p f M' vt b1 PpT [.pointer (some ⟨p,0,none⟩)]->K (.tuple #[]) w')
  (ht:∀c a',rS E B (s.toks.length+1) (gM (step1 s)) [] []=.err c a'->Thr w0 f c a'):
  aC P0 51 [.pointer (some ⟨b1,0,none⟩),.pointer (some ⟨b4,0,none⟩)] w K:=by
 refine aCM ?_;unfold W51;have hN:=hg.hN;have hv:Gd N (step1 s) dl:=by have:=hg.step xr;rw[xc]at this;exact this
 have zz:=xh.chg.size;refine L1.ld rfl ?_;refine h.go (wsi hg.ws hg.l) λw1 h1 hk ye=>?_;have L1:=L1.eff hk;have hL:=hL.eff hk;have hk:=xh.trans hk;refine L1.ld rfl ?_;refine Ac h1 hv.ws hN hv.l λw2 h2 hj=>?_;have L1:=L1.eff hj;have hL:=hL.eff hj;have hj:=hk.trans hj;have xo:=hv.lines;have et2:=congrArg List.length (nG hv.ws).1.toks;generalize hR:rS E B (s.toks.length+1) (gM (step1 s)) [] []=R0 at hK ht;refine cY.go (λst w'=>st=[]/\∃s1 M1 av bs va vb n,PR w0 w' p f M1 vt s1 top/\Gd N s1 dl/\Eff p f M0 M1 wb w'/\Loc w0 w' p f M1 vt b1 PpT [.pointer (some ⟨p,0,none⟩)]/\BL w0 w' p f M1 vt B1 b4 typ a vl va vb ls av bs/\rS E B n s1 av bs=R0/\s1.toks.length<n+s1.i/\av.length<=s1.i/\bs.length<=s1.i/\s1.toks.length=s.toks.length) (λ_ w'=>s.toks.length-AP w' p)
  ⟨rfl,_,M,[],[],_,_,s.toks.length+1,h2,xo,hj,L1,hL,hR,by rw[et2];show s.toks.length<_;omega,by simp,by simp,by rw[et2];rfl⟩ ?_
 clear hL L1 h1 h2 hk hj;rintro st g w3 ⟨rfl,s1,M1,av,bs,va,vb,n,h3,hh,xq,L1,hL,j,hn,yn,ym,yj⟩;have xz:=hh.ws.lt;obtain⟨n,rfl⟩:∃m,n=m+1:=⟨n-1,by omega⟩;simp only[rS]at j;refine L1.ld rfl ?_;refine vL h3 hh.ws hN hh.l λw4 h4 hi=>?_;have L1:=L1.eff hi;have hL:=hL.eff hi;have hi:=xq.trans hi;have xg:=hh.take [125];have tg:=jT hh.ws [125];have tgt:=congrArg List.length tg.1.toks;rw[eP,bY];refine⟨λxa=>?_,λhy=>?_⟩
 ·have xa:(bX s1 [125]).1=false:=by simpa using xa
  rw[aE (by rw[xa];decide)]at j;have few:=hh.few;refine L1.ld rfl ?_;refine aBO hE hB hF xv h4 xg hL (by omega) (by omega) hi xm xl (λx s2 ex M2 va2 vb2 w5 h5 hs yk xb yg yf xp xu xe yh yi=>?_) λc a' ex=>ht c a' (by rw[<-j,ex];rfl);rw[ex]at j;simp only[R.bind]at j;have xb:=congrArg List.length xb;have L1:=xe _ _ _ L1 ho.2 (λe=>by have:=hL.rA.new _ e;have:=ho.1;omega) (λe=>by have:=hL.rB.new _ e;have:=ho.1;omega);have I:=hs.now;have xd:=gI hs.ws;have xw:=congrArg List.length xd.toks;have xx:=xd.le;refine bU.cut (λ_ w'=>PR w0 w' p f M2 vt (bE s2) top/\Eff p f M2 M2 w5 w'/\rS E B n (gM (bE s2)) x.1 x.2=R0) ?_ ?_
  ·refine L1.ld rfl ?_;refine nR h5 hs.ws hN hs.l λw6 h6 U=>?_;refine⟨i64 (cur s2).k,rfl,?_⟩;dsimp only;rw[gD];have L1:=L1.eff U;by_cases hr:(cur s2).k≠5
   ·rw[bH hr];simp only[fQ];refine GdW.act (!isS (bE s2) [125]) (λw'=>PR w0 w' p f M2 vt (bE s2) top/\Eff p f M2 M2 w5 w') (λe=>by cases e) (λ_ J hJ=>?_) λg5 w7 xt=>?_
    ·refine L1.ld rfl ?_;refine BH h6 I λw7 h7 o=>?_;rw[eP];rw[gV]at h7;exact hJ w7 ⟨h7,U.trans o⟩
    obtain⟨h7,o⟩:=xt;simp only[aG,aM,lH];rw[bY];refine⟨λhq=>?_,λhq=>?_⟩
    ·have hq:isS (bE s2) [125]=false:=by simpa using hq
     have L1:Loc w0 w7 p f M2 vt b1 PpT [.pointer (some ⟨p,0,none⟩)]:=(xe _ _ _ ‹Loc w0 w4 p f M1 vt b1 PpT [.pointer (some ⟨p,0,none⟩)]› ho.2 (λe=>by have:=hL.rA.new _ e;have:=ho.1;omega) (λe=>by have:=hL.rB.new _ e;have:=ho.1;omega)).eff o;refine L1.ld rfl ?_;refine nR h7 I.ws hN I.l λw8 h8 yl=>?_;refine⟨i64 (cur (bE s2)).a,rfl,?_⟩;refine qU h8 (ht 50 _ ?_);rw[<-j,aJ ⟨hr,hq⟩]
    ·have hq:isS (bE s2) [125]=true:=by simpa using hq
     rw[aE (λh=>by rw[h.2]at hq;cases hq)]at j;exact⟨h7,o,j⟩
   ·rw[cH hr];simp only[fQ,AL];intro g5;rw[tK,cP];rw[aE (λh=>hr h.1)]at j;exact⟨h6,U,j⟩
  rintro _ g4 w6 ⟨h6,U,j⟩;have L1:=L1.eff U;refine L1.ld rfl ?_;refine Ac h6 I.ws hN I.l λw7 h7 o=>?_;have lg:=nG I.ws;have lgt:=congrArg List.length lg.1.toks;have lgi:=lg.1.le;have tgi:=tg.1.le;have xf:=I.lines;have xy:=xf.ws.lt;refine⟨⟨rfl,gM (bE s2),M2,x.1,x.2,va2,vb2,n,h7,xf,(xp.trans U).trans o,L1.eff o,(xu.eff U).eff o,j,by omega,by omega,by omega,by omega⟩,?_⟩;rw[h7.at_,h3.at_];omega
 ·have hy:(bX s1 [125]).1=true:=by simpa using hy
  rw[aJ hy]at j;exact hK _ _ j.symm M1 va vb w4 h4 xg hi hL L1
theorem On{E B:PS->R Nat}(hE:∀d,dl=d+1->EC w0 f 82 E d)(hB:∀d,dl=d+1->EC w0 f 30 B d)(hF:rW E)(zu:HZ B):EC w0 f 30 (zL E B) dl:=by
 intro w p M vt s top N K h hg hK ht;refine aCZ ?_;unfold W30;have hN:=hg.hN;refine tW rfl λb1 w1 zt zj zc yf=>?_;have h1:=h.ext yf;have L1:=h.loc zj zt zc;unfold zL at hK ht;refine L1.ld rfl ?_;refine yZ h1 hg.ws hN hg.l (λt s1 et w2 h2 xg=>?_) λc a' et=>ht c a' (by rw[et];rfl);rw[et]at hK ht;simp only[R.bind]at hK ht;obtain⟨yo,vh,_⟩:=hg.kind (by decide) et;have yl:=mG hg.ws 1 (by decide);have xm:=oC s 1;rw[et]at yl xm;have xm:=xm.2 (by decide);have zn:=congrArg List.length yl.1.1.toks;have L1:=L1.eff xg;have xg:=(Eff.ext yf).trans xg;have lt1:=L1.lt;have uz:=xg.chg.size;refine bI λb3 w3 zs zi zb xt=>?_;have h3:=h2.ext xt;have L3:=h2.loc zi zs zb;have L1:=L1.ext xt;refine cK (l:=fS t) L3.1 rfl rfl rfl λw4 uw za xx=>?_;have L3:Loc w0 w4 p f M vt b3 TkT (fS t):=⟨za,L3.2.up (by omega)⟩;have h4:=h3.one xx L3.2;have L1:=L1.one xx (by omega);have ys:=(xg.x xt).one xx (by omega);refine L3.ldf rfl ?_;refine L3.ldf rfl ?_;simp only[dI,eY,cW,aB,aN,aY,bB,Nat.reduceAdd,Nat.reduceLT,dV,aA];refine bI λb4 w5 zr zh yz xr=>?_;have h5:=h4.ext xr;have L4:=h4.loc zh zr yz;have L1:=L1.ext xr;refine cK (l:=[str t.t,.slice none 0 0,.slice none 0 0,.slice none 0 0,i64 t.a]) L4.1 rfl rfl rfl λw6 uv yy xw=>?_;have L4:Loc w0 w6 p f M vt b4 BkT [str t.t,.slice none 0 0,.slice none 0 0,.slice none 0 0,i64 t.a]:=⟨yy,L4.2.up (by omega)⟩;have h6:=h5.one xw L4.2;have L1:=L1.one xw (by omega);have xv:=(ys.x xr).one xw (by omega);have uy:=xv.chg.size;obtain⟨B1,vm⟩:∃B1,B1=w6.heap.size:=⟨_,rfl⟩;have j:BL w0 w6 p f M vt B1 b4 t.t t.a (.slice none 0 0) (.slice none 0 0) (.slice none 0 0) [] [] []:=
  ⟨L4,Ro.nil _ _,Ro.nil _ _,Ro.nil _ _,λk hk=>by simp[Value.ownBlock]at hk,λk hk=>by simp[Value.ownBlock]at hk,λk hk=>by simp[Value.ownBlock]at hk,by omega,by omega⟩
 have xk:b1<B1/\b1≠b4:=⟨by omega,by omega⟩;have zk:w.heap.size<=B1:=by omega
 have zl:w.heap.size<=b4:=by omega
 clear L3 L4 h2 h3 h4 h5 xg ys;generalize hR:sH (s.toks.length+1) s1 []=R0 at hK ht;refine cY.go (λst w'=>st=[]/\∃s2 M1 ls vl n,PR w0 w' p f M1 vt s2 top/\Gd N s2 dl/\Eff p f M M1 w w'/\Loc w0 w' p f M1 vt b1 PpT [.pointer (some ⟨p,0,none⟩)]/\BL w0 w' p f M1 vt B1 b4 t.t t.a vl (.slice none 0 0) (.slice none 0 0) ls [] []/\sH n s2 ls=R0/\s2.toks.length<n+s2.i/\ls.length<=s2.i/\s2.toks.length=s.toks.length/\Syn.phi s2+1<=Syn.phi s) (λ_ w'=>s.toks.length-AP w' p)
  ⟨rfl,s1,M,[],_,s.toks.length+1,h6,yo,xv,L1,j,hR,by have:=yo.ws.lt;omega,by simp,zn,xm⟩ ?_
 clear j L1 h6 xv;rintro st g w7 ⟨rfl,s2,M1,ls,vl,n,h7,hc,zo,L1,j,ho,hn,vg,vd,vf⟩;have ui:=hc.ws.lt;obtain⟨n,rfl⟩:∃m,n=m+1:=⟨n-1,by omega⟩;simp only[sH]at ho;refine L1.ld rfl ?_;refine nR h7 hc.ws hN hc.l λw8 h8 hq=>?_;have L1:=L1.eff hq;have j:=j.eff hq;have hq:=zo.trans hq;have hv:=hc.now;refine⟨i64 (cur s2).k,rfl,?_⟩;dsimp only;rw[bO,aO];refine⟨λxi=>?_,λxi=>?_⟩
 ·rw[aJ xi]at ho;have zm:=hc.tx xi;have L1:=L1.drew;have j:=j.ext (dE w8);have h8:=h8.drew;have hq:=hq.x (dE w8);rw[bT,bW,aX];refine j.l4.ld rfl ?_;refine L1.ld rfl ?_;refine L1.ld rfl ?_;refine Mt h8 hv.ws hN hv.l λw9 h9 J=>?_;rw[Pq]at h9;rw[lC];have L1:=L1.eff J;have j:=j.eff J;have J:=hq.trans J;refine⟨L1.ld rfl rfl,j.l4.ld rfl rfl,?_⟩;have ym:=hc.next;refine Nz h9 zm.1 (by omega) (λl s3 el w10 o=>?_) λc a' el=>ht c a' (by rw[<-ho,el];rfl);have e3:=Gd.plain (N:=N) el;subst e3;rw[el]at ho;simp only[R.bind]at ho;have L1:=L1.ext o;have j:=j.ext o;have yc:=h9.ext o;have yw:=J.x o;refine⟨j.l4.ld rfl rfl,?_⟩;refine xR λr w11 hr yd xu xb=>?_;have L1:=L1.ext xb;have j:=j.ext xb;have xe:=yw.x xb;have uf:=xe.chg.size;refine⟨j.l4.ld rfl rfl,?_⟩;have few:=hc.few;refine j.appL (yc.ext xb) xu (by omega) λvl' w12 ze hs yx yk ug=>?_;have L1:=yk _ _ _ L1 xk.2 λe=>by have:=j.rL.new _ e;have:=xk.1;omega
  have ng:=sF hc.ws;have ngt:=congrArg List.length ng.1.toks;have ngi:=ng.2.1 (by rw[xi];decide);have ngl:=ym.ws.lt;have nph:=(wE s2).1;refine⟨⟨rfl,jE s2,M1,ls++[l],vl',n,hs,ym,xe.then yx λk hk e=>?_,L1,ze,ho,by omega,by rw[aU,aB,aN];omega,by omega,by omega⟩,?_⟩
  ·rcases e with e|e
   ·have:=j.rL.new k e;omega
   ·omega
  ·rw[hs.at_,h7.at_];omega
 ·rw[aE xi]at ho;rw[<-ho]at hK ht;simp only at hK ht;simp only[iQ,lC,gV]at hK ht;refine L1.ld rfl ?_;refine nR h8 hv.ws hN hv.l λw9 h9 J=>?_;rw[gV]at h9;rw[lC];have L1:=L1.eff J;have j:=j.eff J;have J:=hq.trans J;refine bI λb5 w10 zq ye xz o=>?_;have yc:=h9.ext o;have L5:=h9.loc ye zq xz;have fr:=j.fresh (k:=b5) (by omega);have lt1:=L1.lt;have ux:=J.chg.size;refine cK (l:=fS (cur s2)) L5.1 rfl rfl rfl λw11 yd xy xf=>?_;have L5:Loc w0 w11 p f M1 vt b5 TkT (fS (cur s2)):=⟨xy,L5.2.up (by omega)⟩;have ua:=yc.one xf L5.2;have L1:=(L1.ext o).one xf (by omega);have j:=(j.ext o).one xf fr.1 fr.2.1 fr.2.2.1 fr.2.2.2;have xe:=(J.x o).one xf (by omega);refine bU.cut (λ_ w'=>PR w0 w' p f M1 vt (bE s2) top/\Eff p f M1 M1 w11 w'/\isS s2 [123]=true) ?_ ?_
  ·refine L1.ld rfl ?_;refine BH ua hv λw12 hs I=>?_;rw[gV]at hs;rw[iQ,eP,bY];refine⟨λhi=>?_,λhi=>⟨hs,I,by simpa using hi⟩⟩;have hi:isS s2 [123]=false:=by simpa using hi
   refine(L5.eff I).ldf rfl ?_;exact qU hs (ht _ _ (by rw[aJ hi]))
  rintro _ g2 w12 ⟨hs,I,hi⟩;rw[aE (by rw[hi];decide)]at hK ht;have L1:=L1.eff I;have L5:=L5.eff I;have j:=j.eff I;have I:=xe.trans I;refine L1.ld rfl ?_;refine L5.ldf rfl ?_;have uj:=hv.lev;refine pL hs (by omega) (λhd=>ht 7 _ (by rw[uI hd])) λhd w13 zz xj=>?_;obtain⟨d,rfl⟩:∃d,dl=d+1:=⟨dl-1,by omega⟩;rw[yI hd]at hK ht;obtain⟨q1,q2,q3,q4⟩:=hc.sign hi false;have ntl:=congrArg List.length (gI hc.ws).toks;refine kD (caps:=[.pointer (some ⟨b1,0,none⟩),.pointer (some ⟨b4,0,none⟩)]) ?_;have ph2:Syn.phi (bE s2)<=Syn.phi s2:=kF s2;have efuel:({bE s2 with deep:=(bE s2).deep+1,quiet:=false}:PS).toks.length+1=s.toks.length+1:=by show(bE s2).toks.length+1=_;omega
  have efuel2:(bE s2).toks.length+1=s.toks.length+1:=by omega
  refine WT (hE d rfl) (hB d rfl) hF zu zz q1 q3 q2 (j.eff xj) (L1.eff xj) xk (I.trans xj) zl zk (λx s3 ex M3 va vb w14 zy xn yu zd L1=>?_) λc a' ex=>ht c a' ?_
  ·rw[efuel]at ex;rw[ex]at hK;simp only[R.bind]at hK;have g14l:=xn.lev;refine⟨M3,s3,zy,by omega,λw15 hj hh=>?_⟩;have L1:=(L1.eff hh).drew;have j:=(zd.eff hh).ext (dE w15);have hj:=hj.drew;have hh:=(yu.trans hh).x (dE w15);have yn:Gd N {s3 with deep:=(bE s2).deep,quiet:=(bE s2).quiet} (d+1):=hv.back xn;generalize yi:({s3 with deep:=(bE s2).deep,quiet:=(bE s2).quiet}:PS)=s4 at*
   have s4b:s4.bl=s3.bl:=by rw[<-yi]
   have vi:=yn.ex.2;have ue:=hh.chg.size;have cF:∀{w':World},w'.heap[p]?=some (.cells [vt,i64 (s4.i:Nat),i64 s4.off,.pointer (some ⟨f,0,none⟩),i64 (s4.deep:Nat),.bool s4.quiet].toArray PsT (0,0))->w'.cell? ((⟨p,0,none⟩:Addr).add 3)=some (.pointer (some ⟨f,0,none⟩)):=by
    intro w' h;rw[bW,cG,h,cJ];rfl
   have cB:∀{w':World} {u v:Value} {r:List Value},w'.heap[f]?=some (.cells (u::v::r).toArray FlT (0,0))->w'.cell? ((⟨f,0,none⟩:Addr).add 1)=some v:=by
    intro w' u v r h;rw[bW,cG,h,cJ];rfl
   have ld1:∀{w':World} {M':Lay},Loc w0 w' p f M' vt b1 PpT [.pointer (some ⟨p,0,none⟩)]->ldW false 1 (.pointer (some ⟨b1,0,none⟩)) w' λx=>x=.pointer (some ⟨p,0,none⟩):=λL=>L.ld rfl rfl;have use:∀k,M3.vB.ownBlock=some k->k∈M3.uses f:=λk hk=>aR _ (lD (v:=M3.vB) (by simp) hk);have nE:¬M3.vB.ownBlock=some p:=λe=>hj.np (use p e);have nF:¬M3.vB.ownBlock=some f:=λe=>by
    have xl:=(LP M3 f).nodup_iff.1 hj.fr.nd;rw[jP]at xl;exact xl.1 (eZ _ (gW.2 e))
   have n1:¬M3.vB.ownBlock=some b1:=λe=>L1.2.2.2.1 (use b1 e);refine L1.ld rfl ?_;rw[eD,bT,dY];refine⟨_,cF hj.ps,?_⟩;refine L1.ld rfl ?_;rw[eD,bT,dY];refine⟨_,cF hj.ps,?_⟩;rw[eD,bT,dY];refine⟨_,cB hj.fr.hf,?_⟩;refine bZ j.l4.1 rfl ?_;refine BU rfl rfl λr w16 hr ud xu xa=>?_;have hz:=hj.ext xa;have L16:=L1.ext xa;refine⟨by rw[dY];exact⟨_,cB hz.fr.hf,rfl⟩,by rw[dY];exact⟨_,cF hz.ps,rfl⟩,ld1 L16,by rw[dY];exact⟨_,cF hz.ps,rfl⟩,ld1 L16,?_⟩;have zp:Chg (λk=>M3.vB.ownBlock=some k) w15.drew w16:=Chg.of_ext xa;obtain⟨lp,lc,el1,_⟩:=j.rL.own.sl.shape;obtain⟨ap,ac,ea1,_⟩:=j.rA.own.sl.shape;obtain⟨bp,bc,eb1,_⟩:=j.rB.own.sl.shape;refine iF aD3 hz.fr.oB (sS (n:=1) (T:=BkT) xu) rfl (λu hu=>by
    simp only[bM,eA,mO]at hu;rcases hu with rfl|rfl|rfl|rfl|rfl
    ·rfl
    ·rw[el1];rfl
    ·rw[ea1];rfl
    ·rw[eb1];rfl
    ·rfl) (by omega) (by omega) hz.base λv' w17 xp U yg=>?_
   have yj:=U.at hz.ps nE;have yr:=U.at hz.fr.hf nF;refine⟨by rw[dY];exact⟨_,cF yj,rfl⟩,ld1 (M':=M3) ⟨U.at L16.1 n1,L16.2.up U.size⟩,?_⟩;rw[eD,bT,bW,aX];obtain⟨vp,vc,ev,_⟩:=xp.sl.shape;refine iO yr (by rw[ev];rfl) (by simp) λw18 uc yq xo=>?_;have L18:Loc w0 w17 p f M3 vt b1 PpT [.pointer (some ⟨p,0,none⟩)]:=⟨U.at L16.1 n1,L16.2.up U.size⟩;have nf1:b1≠f:=λe=>L16.2.2.2.1 (e▸bA);have L19:=L18.one xo nf1;have uu:=xa.size;have yh:∀k,k∈ub [str t.t,vl,va,vb,i64 t.a]↔vl.ownBlock=some k\/va.ownBlock=some k\/vb.ownBlock=some k:=λk=>by
    rw[show [str t.t,vl,va,vb,i64 t.a]=[str t.t]++([vl]++([va]++([vb]++[i64 t.a])))from rfl];simp only[vK,dH,gW];simp[Value.ownBlock]
   have xl:(ub [str t.t,vl,va,vb,i64 t.a]).Nodup:=by
    rw[show [str t.t,vl,va,vb,i64 t.a]=[str t.t]++([vl]++([va]++([vb]++[i64 t.a])))from rfl];simp only[vK];rw[show ub [str t.t]=[]from rfl,show ub [i64 t.a]=[]from rfl,fO,eG];refine fD.2 ⟨mL _,fD.2 ⟨mL _,mL _,λx hx y hy e=>by subst e;exact j.d3 x (gW.1 hx) (gW.1 hy)⟩,λx hx y hy e=>?_⟩;subst e;rcases dH.1 hy with hy|hy
    ·exact j.d1 x (gW.1 hx) (gW.1 hy)
    ·exact j.d2 x (gW.1 hx) (gW.1 hy)
   obtain⟨yb,yt⟩:=hj.putB (w1:=w17) (w2:=w18) (v':=v') hh (e:=⟨t.t,ls,x.1,x.2,t.a⟩) ⟨vl,va,vb,rfl,j.rL.own,j.rA.own,j.rB.own⟩ (λk hk=>by
    rcases(yh k).1 hk with e|e|e
    ·exact j.rL.off k e
    ·exact j.rA.off k e
    ·exact j.rB.off k e) xl (λk hk=>by
    rcases(yh k).1 hk with e|e|e
    ·have:=j.rL.new k e;omega
    ·have:=j.rA.new k e;omega
    ·have:=j.rB.new k e;omega) xp (zp.trans U) (λk hk=>(yg k hk).imp id λe=>by omega) xo (by rw[yq];simp)
   refine L19.ld rfl ?_;rw[eD,bT,dY];refine⟨_,cF yb.ps,?_⟩;rw[eD,bT,dY];refine⟨_,cB yb.fr.hf,?_⟩;dsimp only;rw[ev,xJ,kW,cN (by omega) (by omega)];have e1:((s4.bl.length+1:Nat):Int)-1=(s4.bl.length:Nat):=by omega
   rw[e1];subst yi;exact hK _ _ rfl _ w18 yb yt
  ·rw[efuel]at ex;rw[ex];rfl
theorem MR:HZ dead:=⟨Lh,zH⟩
theorem Dj(d:Nat):HZ (CO d):=⟨λN=>HP N d,Lt d⟩
theorem Lu(j:zN w0 f):∀dl,EC w0 f 30 (CO dl) dl
 |0=>On (λd e=>by omega) (λd e=>by omega) wN MR
 |d+1=>by
  have ih:=Lu j d
  refine On (λd' e=>?_) (λd' e=>?_) (Fz d).1 (Dj d)
  ·have e:d'=d:=by omega
   subst e;exact(NY j d').1
  ·have e:d'=d:=by omega
   subst e;exact ih
end
theorem Ot(v:Value)(w:World):(Instr.typeAssert (.iface DT v) 20 DT false).run P0 w=.ok v w:=by kernel_rfl
theorem RG(w:World)(K:Value->Prop):eqQ P0 .neq 20 false true .nilIface .nilIface w K↔K (.bool false):=by
 have h:(do eqGuard .neq 20 (rX false) (rX true) .nilIface .nilIface;binOp .neq 20 .nilIface .nilIface:Sem Value).run P0 w=.ok (.bool false) w:=by kernel_rfl
 unfold eqQ nZ;rw[h];exact⟨λ⟨v,h1,j⟩=>by cases h1;exact j,λj=>⟨_,rfl,j⟩⟩
theorem Ms(v:Value)(w:World)(K:Value->Prop):eqQ P0 .neq 20 false true (.iface DT v) .nilIface w K↔K (.bool true):=by
 have h:(do eqGuard .neq 20 (rX false) (rX true) (.iface DT v) .nilIface;binOp .neq 20 (.iface DT v) .nilIface:Sem Value).run P0 w=.ok (.bool true) w:=by kernel_rfl
 unfold eqQ nZ;rw[h];exact⟨λ⟨v,h1,j⟩=>by cases h1;exact j,λj=>⟨_,rfl,j⟩⟩
theorem Rf{a b:Value}{K:World->Prop}(j:K w):yF P0 27 [a,b] .returning w K:=by
 letI:=noX;refine TF .idle ?_;unfold R27;rw[RG,cP];exact j
theorem Mi{a b d:Nat}{Ta Tb:TypeId}{K:World->Prop}(ha:w.heap[a]?=some (.cells cs.toArray Ta (0,0)))(hl:cs.length=3)(hb:w.heap[b]?=some (.cells [v].toArray Tb (0,0)))(I:a≠b)
  (hK:∀w',Chg (λk=>k=a\/k=b) w w'->w'.heap[a]?=some (.cells [.slice none 0 0,.slice none 0 0,.slice none 0 0].toArray Ta (0,0))->w'.heap[b]?=some (.cells [.pointer (some ⟨d,0,none⟩)].toArray Tb (0,0))->K w'):
  yF P0 27 [.pointer (some ⟨a,0,none⟩),.pointer (some ⟨b,0,none⟩)] (.panicking [{v:=.iface DT (.pointer (some ⟨d,0,none⟩)),recovered:=false}]) w K:=by
 letI:=noX;refine TF (.thrown _) ?_;unfold R27;rw[Ms,dS,cW];refine⟨_,Ot _ _,?_⟩;refine cK (l:=[.slice none 0 0,.slice none 0 0,.slice none 0 0]) (w:=w.drew) ha rfl hl rfl λw2 hh hc o=>?_;refine⟨⟨_,Ot _ _,rfl⟩,?_⟩;have U:=o.at (w:=w.drew) hb (λe=>I e.symm);refine iO U rfl (by simp) λw3 hg J j=>?_;refine hK w3 ?_ (j.at hc I) (by rw[J];simp);exact((Chg.drew (Chg.refl _ w)).trans (o.mono λk _ e=>.inl e)).trans (j.mono λk _ e=>.inr e)
structure FO(w:World)(B:Nat)(M:Lay)(fl:Fl):Prop where
 oE:Own w B ExT 5 M.vE fl.ex.length M.cE
 oB:Own w B BkT 5 M.vB fl.bl.length M.cB
 oT:Own w B jD 1 M.vT fl.top.length (ints fl.top)
 ee:pI (ExR w B) 5 fl.ex M.cE
 bb:pI (BkR w B) 5 fl.bl M.cB
 nd:(ub ([M.vE,M.vB,M.vT]++(M.cE++M.cB))).Nodup
 lt:∀k∈ub ([M.vE,M.vB,M.vT]++(M.cE++M.cB)),k<w.heap.size
 lo:∀k∈ub ([M.vE,M.vB,M.vT]++(M.cE++M.cB)),B<=k
theorem FR.out{B f:Nat}{M:Lay}{ex:List Ex}{bl:List Blk}{top:List Nat}(h:FR w B f M ex bl top):FO w B M ⟨ex,bl,top⟩:=by
 have hn:=h.nd;unfold Lay.uses at hn;rw[jP]at hn;exact⟨h.oE,h.oB,h.oT,h.ee,h.bb,hn.2,λk j=>h.lt k (aR _ j),λk j=>(h.lo k (aR _ j)).resolve_left λe=>hn.1 (e▸j)⟩
theorem FO.keep{B:Nat}{M:Lay}{fl:Fl}(h:FO w B M fl)(I:Chg S w w')(hS:∀k,B<=k->k<w.heap.size->k∈ub ([M.vE,M.vB,M.vT]++(M.cE++M.cB))->¬S k):FO w' B M fl:=by
 have J:∀v∈[M.vE,M.vB,M.vT]++(M.cE++M.cB),∀k,v.ownBlock=some k->¬S k:=λv o k j=>hS k (h.lo k (lD o j)) (h.lt k (lD o j)) (lD o j);refine⟨jO h.oE I (J _ (by simp)),jO h.oB I (J _ (by simp)),jO h.oT I (J _ (by simp)),?_,?_,h.nd,λk j=>cR (h.lt k j) I.size,h.lo⟩
 ·refine h.ee.imp λx d hd U=>U.at_ I λk j=>?_;obtain⟨v,o,j⟩:=gT.1 j;exact J v (by simp[hd v o]) k j
 ·refine h.bb.imp λx d hd U=>U.at_ I λk j=>?_;obtain⟨v,o,j⟩:=gT.1 j;exact J v (by simp[hd v o]) k j
theorem ExR.low{B B':Nat}{e:Ex}{d:List Value}(h:ExR w B e d)(hb:B'<=B):ExR w B' e d:=by
 obtain⟨va,vk,e1,h1,j⟩:=h;exact⟨va,vk,e1,h1.base hb,j.base hb⟩
theorem BkR.low{B B':Nat}{e:Blk}{d:List Value}(h:BkR w B e d)(hb:B'<=B):BkR w B' e d:=by
 obtain⟨vl,va,vk,e1,h1,o,j⟩:=h;exact⟨vl,va,vk,e1,h1.base hb,o.base hb,j.base hb⟩
theorem FO.low{B B':Nat}{M:Lay}{fl:Fl}(h:FO w B M fl)(hb:B'<=B):FO w B' M fl:=
 ⟨h.oE.base hb,h.oB.base hb,h.oT.base hb,h.ee.imp λx d _ j=>j.low hb,h.bb.imp λx d _ j=>j.low hb,h.nd,h.lt,λk o=>cC hb (h.lo k o)⟩
section
variable{w0 w w1 w2:World}{p f:Nat}{M:Lay}{vt:Value}{s:PS}{top:List Nat}
theorem LN(M:Lay)(f:Nat):(M.uses f).Perm (f::(ub [M.vT]++ub ([M.vE,M.vB]++(M.cE++M.cB)))):=by
 rw[DX];intro a;unfold Lay.uses;simp only[vK,mD,Dx];rw[wX M.vE,wX M.vB,wX M.vE [M.vB]];simp only[mD];omega
theorem PR.putT(h:PR w0 w p f M vt s top){x:Nat}{v':Value}(hO:Own w1 w0.heap.size jD 1 v' (top.length+1) (ints top++[i64 (x:Nat)]))(hh:Chg (λk=>M.vT.ownBlock=some k) w w1)(o:∀k,v'.ownBlock=some k->M.vT.ownBlock=some k\/w.heap.size<=k)
  (J:Chg (One f) w1 w2)(hf:w2.heap[f]?=some (.cells [M.vE,M.vB,v'].toArray FlT (0,0))):PR w0 w2 p f {M with vT:=v'} vt s (top++[x]):=by
 have hb:=h.base;have pT:=LN M f;have use:∀k,M.vT.ownBlock=some k->k∈M.uses f:=λk j=>aR _ (lD (v:=M.vT) (by simp) j);have I:=pT.nodup_iff.1 h.fr.nd;have hc:=I;rw[jP,fD]at hc;obtain⟨nf,_,nb,nab⟩:=hc;have inU:∀k∈ub ([M.vE,M.vB]++(M.cE++M.cB)),k∈M.uses f:=λk j=>pT.mem_iff.2 (aR _ (dB _ j));have rest:∀k∈ub ([M.vE,M.vB]++(M.cE++M.cB)),M.vT.ownBlock≠some k/\k≠f/\k<w.heap.size:=λk j=>
  ⟨λe=>nab k (gW.2 e) k j rfl,λe=>nf (e▸dB _ j),h.fr.lt k (inU k j)⟩
 have c12:Chg (λk=>M.vT.ownBlock=some k\/k=f) w w2:=(hh.mono λk _ e=>.inl e).trans (J.mono λk _ e=>.inr e);have sub:∀v∈[M.vE,M.vB]++(M.cE++M.cB),∀k,v.ownBlock=some k->¬(M.vT.ownBlock=some k\/k=f):=λv o k j e=>by
  have:=rest k (lD o j);exact e.elim this.1 this.2.1
 have hi:∀k,v'.ownBlock=some k->k≠f:=λk j e=>by
  subst e;rcases o k j with e|e
  ·exact nf (eZ _ (gW.2 e))
  ·have:=fA h.fr.hf;omega
 have nE:M.vT.ownBlock≠some p:=λe=>h.np (use p e);have pf:p≠f:=λe=>h.np (e▸bA);have perm:=LN {M with vT:=v'} f;have hN:(f::(ub [v']++([]++ub ([M.vE,M.vB]++(M.cE++M.cB))))).Nodup:=IF (n:=w.heap.size) (a:=ub [M.vT]) I (λk j=>h.fr.lt k (pT.mem_iff.2 j)) (mL _) (λk j=>(o k (gW.1 j)).imp (λe=>gW.2 e) id) List.nodup_nil λk j=>by cases j
 have hz:=c12.size;have mem:∀k∈({M with vT:=v'}:Lay).uses f,k=f\/v'.ownBlock=some k\/k∈ub ([M.vE,M.vB]++(M.cE++M.cB)):=λk j=>by
  have j:=perm.mem_iff.1 j;rcases bM.1 j with e|e
  ·exact .inl e
  rcases dH.1 e with e|e
  ·exact .inr (.inl (gW.1 e))
  ·exact .inr (.inr e)
 refine⟨?_,⟨hf,?_,?_,?_,?_,?_,perm.nodup_iff.2 hN,λk j=>?_,λk j=>?_⟩,?_,?_,λe=>?_,h.lo,λk j=>?_⟩
 ·refine h.ch.then c12 λk j e=>?_;rcases e with e|e
  ·exact(h.fr.lo k (use k e)).resolve_right (by omega)
  ·exact e
 ·exact jO h.fr.oE c12 (sub _ (by simp))
 ·exact jO h.fr.oB c12 (sub _ (by simp))
 ·rw[aU,aB,aN,Fe];exact jO hO J λk j e=>hi k j e
 ·refine h.fr.ee.imp λx d hd hx=>hx.at_ c12 λk j=>?_;obtain⟨v,o,j⟩:=gT.1 j;exact sub v (by simp[hd v o]) k j
 ·refine h.fr.bb.imp λx d hd hx=>hx.at_ c12 λk j=>?_;obtain⟨v,o,j⟩:=gT.1 j;exact sub v (by simp[hd v o]) k j
 ·rcases mem k j with e|e|e
  ·rw[e];exact fA hf
  ·exact cR (rP hO e).1 J.size
  ·exact cR (rest k e).2.2 hz
 ·rcases mem k j with e|e|e
  ·exact .inl e
  ·exact .inr (rP hO e).2
  ·exact h.fr.lo k (inU k e)
 ·exact c12.at h.ps λe=>e.elim nE pf
 ·exact zS h.tk c12 λk j e=>by
   have:=(h.nt k j).1;rcases e with e|e
   ·exact this (use k e)
   ·exact this (e▸bA)
 ·rcases mem p e with e|e|e
  ·exact pf e
  ·exact(o p e).elim nE λe=>by have:=h.lt;omega
  ·exact h.np (inU p e)
 ·have U:=h.nt k j;refine⟨λe=>?_,U.2.1,cR U.2.2 hz⟩;rcases mem k e with e|e|e
  ·exact U.1 (e▸bA)
  ·exact(o k e).elim (λe=>U.1 (use k e)) λe=>by omega
  ·exact U.1 (inU k e)
end
def zM(w:World):Prop:=∃m,w.cell? ⟨0,0,none⟩=some (.int .i64 m)
section
variable [HX]
def aAf:Prop:=∀(w:World) (K:Q0) (s:Str),zM w->s.length<=1000000->
 (∀l,rC s=.ok l->∀v w',Ext w w'->SlAt w' TkT v l.length (toks l)->(∀k,v.ownBlock=some k->w.heap.size<=k/\k<w'.heap.size)->K (.tuple #[v,.pointer none]) w')->
 (∀c a,rC s=.bad c a->∀d w',Ext w w'->w.heap.size<=d->w'.heap[d]?=some (.cells [i64 c,str [],i64 a].toArray 53 (0,0))->K (.tuple #[.slice none 0 0,.pointer (some ⟨d,0,none⟩)]) w')->
 aC P0 26 [str s] w K
end
theorem zM.chg{f:Nat}(h:zM w)(I:Chg (Of f) w w')(hf:w.heap[f]?=some (.cells cs.toArray FlT (0,0)))(h0:∀m,cs[0]?≠some (.int .i64 m)):zM w':=by
 obtain⟨m,h⟩:=h;refine⟨m,?_⟩;rw[cG]at h⊢;cases j:w.heap[0]? with
 |none=>rw[j]at h;cases h
 |some o=>
  rw[I.at j ?_]
  ·rw[j]at h;exact h
  ·intro e;have e:0=f:=e;subst e;rw[hf,cJ]at h;exact h0 m (by simpa using h)
theorem Wo[HX](hS:∀[HX],aAf){t:Str}{K:Q0}(hT:zM w)(hl:t.length<=1000000)
  (ht:∀fl,parseM t=.ok fl->∀M w',Ext w w'->FO w' w.heap.size M fl->(fl.ex.length<=100000/\fl.bl.length<=100000/\fl.top.length<=100000)->K (.tuple #[.agg [M.vE,M.vB,M.vT].toArray,.pointer none]) w')
  (J:∀c a,parseM t=.bad c a->∀d w',Ext w w'->w.heap.size<=d->w'.heap[d]?=some (.cells [i64 c,str [],i64 a].toArray 53 (0,0))->K (.tuple #[.agg [.slice none 0 0,.slice none 0 0,.slice none 0 0].toArray,.pointer (some ⟨d,0,none⟩)]) w'):
  aC P0 10 [str t] w K:=by
 refine aDh ?_;unfold W10;refine bI λf w1 hf uq yy zc=>?_;refine bI λbd w2 vb uo xr yg=>?_;have xb:=zc.trans yg;have yo:=yg.at yy id;have zt:zM w2:=by
  obtain⟨m,h⟩:=hT;refine⟨m,?_⟩;rw[cG]at h⊢;cases hx:w.heap[0]? with
  |none=>rw[hx]at h;cases h
  |some o=>rw[xb.at hx id];rw[hx]at h;exact h
 unfold parseM at ht J;refine hS w2 _ t zt hl (λl hi v w3 hg hv yh=>?_) (λc a hi d w3 hg hd xy=>?_)
 ·rw[bL];refine⟨v,rfl,?_⟩;rw[bL];refine⟨.pointer none,rfl,?_⟩;have xf:=hg.at xr id;have xx:=hg.at yo id;refine iO xf rfl (by simp) λw4 zb I hq=>?_;have I:w4.heap[bd]?=some (.cells [.pointer none].toArray 33 (0,0)):=by rw[I];simp
  have xd:=hq.at xx (by omega);refine⟨.pointer none,by rw[cG,I];rfl,?_⟩;show aS (.bool false) _ _;rw[cP];have xa:Ext w w4:=(xb.trans hg).new (hq.mono λk _ e=>e) (by omega);have ud:=fA xd;have zs:zM w4:=by
   obtain⟨m,h⟩:=hT;refine⟨m,?_⟩;rw[cG]at h⊢;cases hx:w.heap[0]? with
   |none=>rw[hx]at h;cases h
   |some o=>rw[xa.at hx id];rw[hx]at h;exact h
  have zd:SlAt w4 TkT v l.length (toks l):=zS hv hq λk hk e=>by have:=(yh k hk).1;have e:k=bd:=e;omega
  letI inst:HX:=⟨λch x10=>yF P0 27 [.pointer (some ⟨f,0,none⟩),.pointer (some ⟨bd,0,none⟩)] (.panicking ch) x10 λw10=>
   ldW true 3 (.pointer (some ⟨f,0,none⟩)) w10 λr11=>
   ldW false 1 (.pointer (some ⟨bd,0,none⟩)) w10 λr12=>
   K (.tuple #[r11,r12]) w10⟩
  have zu:zN w4 f:=λw' KK s hc ze h1 h2=>hS w' KK s (zs.chg hc xd (by simp)) ze h1 h2;have xt:∀c a,(∀d w',Ext w w'->w.heap.size<=d->w'.heap[d]?=some (.cells [i64 c,str [],i64 a].toArray 53 (0,0))->K (.tuple #[.agg [.slice none 0 0,.slice none 0 0,.slice none 0 0].toArray,.pointer (some ⟨d,0,none⟩)]) w')->Thr w4 f c a:=by
   intro c a hb d w' cs hc hd zo zp xy;have yd:=xa.size;refine Mi zp zo (hc.at I (by show¬bd=f;omega)) (by omega) λw5 hy zr zq=>?_;refine bZ zr rfl ?_;refine⟨_,by rw[cG,zq];rfl,?_⟩;have va:w4.heap.size<=d:=hd;have yc:=hg.size;refine hb d w5 ?_ (by omega) (hy.at xy (by show¬(d=f\/d=bd);omega));refine(xa.then hc λk hk e=>?_).then hy λk hk e=>?_
   ·have e:k=f:=e;omega
   ·omega
  obtain⟨q,cap,ev,_⟩:=hv.shape;subst ev;simp only[gU,dI,Iu,cW,aB,aN,aY,bB,Nat.reduceAdd,Nat.reduceLT,dV,aA];refine fY (z:=[.slice q l.length cap,i64 0,i64 0,.pointer (some ⟨f,0,none⟩),i64 0,.bool false]) λp w5 hp za zg xi=>?_;have yc:=hg.size;have xw:=xi.at xd id;have uf:=xi.at I id;let M0:Lay:=⟨.slice none 0 0,.slice none 0 0,.slice none 0 0,[],[]⟩;have hh:M0.uses f=[f]:=rfl;have zw:PR w4 w5 p f M0 (.slice q l.length cap) ⟨l,0,0,0,false,[],[]⟩ []:=
   ⟨Chg.of_ext xi,⟨xw,⟨by simp[M0],.inl ⟨rfl,rfl⟩⟩,⟨by simp[M0],.inl ⟨rfl,rfl⟩⟩,⟨by simp[ints],.inl ⟨rfl,rfl⟩⟩,pI.nil _ _,pI.nil _ _,by rw[hh];simp,by rw[hh];intro k hk;simp only[bK]at hk;omega,by rw[hh];intro k hk;simp only[bK]at hk;exact .inl hk⟩,
    zg,zd.ext xi,by rw[hh];simp only[bK];omega,by omega,λk hk=>by
     have hb:=yh k hk;rw[hh];simp only[bK];omega⟩
  have yj:=Im (N:=(t.length:Nat)) (off:=0) hi (oV _) (by omega);have yn:=Jz hi;have uu:=Il hi;have xc:Gd (t.length:Nat) ⟨l,0,0,0,false,[],[]⟩ 24:=⟨⟨yj,dQ.2 yj.ne,by omega⟩,by omega,yn.1,Ns hi,by unfold Syn.phi;simp only[aN,cZ];omega,rfl⟩;rw[hi]at ht J;simp only at ht J;have hN:=xc.hN;refine Ac zw xc.ws hN xc.l λw6 h6 uz=>?_;have zi:=xc.lines;have et1:=congrArg List.length (nG xc.ws).1.toks;generalize hR:OH (l.length+1) (gM ⟨l,0,0,0,false,[],[]⟩) []=R0 at ht J;have yw:∀{w':World},Chg (Of f) w4 w'->w'.heap[bd]?=some (.cells [.pointer none].toArray 33 (0,0)):=λhc=>hc.at I (by show¬bd=f;omega);refine cY.go (λst w'=>st=[]/\∃s1 M1 top n,PR w4 w' p f M1 (.slice q l.length cap) s1 top/\Gd (t.length:Nat) s1 24/\OH n s1 top=R0/\s1.toks.length<n+s1.i/\top.length<=s1.i/\s1.toks.length=l.length) (λ_ w'=>l.length-AP w' p)
   ⟨rfl,_,M0,[],l.length+1,h6,zi,hR,by rw[et1];show l.length<_;omega,by simp,by rw[et1]⟩ ?_
  rintro st g w7 ⟨rfl,s1,M1,top,n,h7,ho,j,hn,uv,uw⟩;have uc:=ho.ws.lt;obtain⟨n,rfl⟩:∃m,n=m+1:=⟨n-1,by omega⟩;simp only[OH]at j;have xj:=ho.now;have ng:=gI ho.ws;have ngt:=congrArg List.length ng.toks;have ngi:=ng.le;refine nR h7 ho.ws hN ho.l λw8 h8 uy=>?_;refine⟨i64 (cur s1).k,rfl,?_⟩;dsimp only;rw[gD,aO];refine⟨λhj=>?_,λhj=>?_⟩
  ·have hj:(cur s1).k≠0:=hj;rw[aE hj]at j;have h8:=h8.drew;rw[bT,dY];refine⟨M1.vT,by rw[bW,cG,h8.fr.hf,cJ];rfl,?_⟩;refine Lu zu 24 w8.drew p M1 _ _ top _ _ h8 xj (λx s2 ex M2 w9 h9 zl=>?_) λc a' ex=>xt c a' (J c a' (by rw[<-j,ex];rfl));rw[ex]at j;simp only[R.bind]at j;obtain⟨xk,ux,yk⟩:=xj.bk (Dj 24) ex;have yk:=congrArg List.length yk;have eT:=zl.hT;have ldT:∀{w':World},w'.heap[f]?=some (.cells [M2.vE,M2.vB,M2.vT].toArray FlT (0,0))->ldW false 1 (.pointer (some ((⟨f,0,none⟩:Addr).add 2))) w' λx=>x=M1.vT:=λh=>by
    rw[dY];exact⟨M2.vT,by rw[bW,cG,h,cJ];rfl,eT⟩
   refine⟨ldT h9.fr.hf,?_⟩;refine kE λr w10 hr ye zf xn=>?_;have hz:=h9.ext xn;refine⟨ldT hz.fr.hf,?_⟩;have few:=ho.few;have uj:=xn.size;have nF:¬M2.vT.ownBlock=some f:=λe=>by
    have yl:=(LN M2 f).nodup_iff.1 hz.fr.nd;rw[jP]at yl;exact yl.1 (eZ _ (gW.2 e))
   rw[<-eT];refine iF CB hz.fr.oT (sS (n:=1) (T:=jD) zf) rfl (λu hu=>by simp only[bK]at hu;subst hu;rfl) (by omega) (by omega) hz.base λv' w11 xu xp yi=>?_;have yq:=xp.at hz.fr.hf nF;rw[bT,bW,aX];obtain⟨vp,vc,ev,_⟩:=xu.sl.shape;refine iO yq (by rw[ev];rfl) (by simp) λw12 zy yp yu=>?_;have zx:=hz.putT (w1:=w11) (w2:=w12) (x:=x) xu xp yi yu (by rw[yp];simp);have U:=xk.now;have ng9:=gI xk.ws;have ng9t:=congrArg List.length ng9.toks;have ng9i:=ng9.le;refine bU.cut (λ_ w'=>PR w4 w' p f {M2 with vT:=v'} (.slice q l.length cap) (bE s2) (top++[x])/\OH n (gM (bE s2)) (top++[x])=R0) ?_ ?_
   ·refine nR zx xk.ws hN xk.l λw13 xm ue=>?_;refine⟨i64 (cur s2).k,rfl,?_⟩;dsimp only;rw[gD];simp only[fQ,gD,qB];intro g2;simp only[aG];rw[fK,bY];refine⟨λhb=>?_,λhb=>?_⟩
    ·have hb:(cur s2).k≠5/\(cur s2).k≠0:=by simpa using hb
     rw[aJ hb]at j;refine nR xm U.ws hN U.l λw14 xl ys=>?_;refine⟨i64 (cur (bE s2)).a,rfl,?_⟩;exact qU xl (xt 50 _ (J 50 _ (by rw[<-j])))
    ·have hb:¬((cur s2).k≠5/\(cur s2).k≠0):=by simpa using hb
     rw[aE hb]at j;exact⟨xm,j⟩
   rintro _ g2 w13 ⟨xm,j⟩;refine Ac xm U.ws hN U.l λw14 xl ys=>?_;have lg:=nG U.ws;have lgt:=congrArg List.length lg.1.toks;have lgi:=lg.1.le;have ym:=U.lines;have ua:=ym.ws.lt;refine⟨⟨rfl,gM (bE s2),_,top++[x],n,xl,ym,j,by omega,by rw[aU,aB,aN];omega,by omega⟩,?_⟩;rw[xl.at_,h7.at_];omega
  ·have hj:(cur s1).k=0:=by
    by_cases h:(cur s1).k=0
    ·exact h
    ·exact absurd h hj
   rw[aJ hj]at j;refine bZ h8.fr.hf rfl ?_;obtain⟨ep,ec,e1,_⟩:=h8.fr.oE.sl.shape;obtain⟨bp,bc,e2,_⟩:=h8.fr.oB.sl.shape;obtain⟨tp,tc,e3,_⟩:=h8.fr.oT.sl.shape;refine cK (l:=[M1.vE,M1.vB,M1.vT]) h8.fr.hf rfl rfl (by rw[e1,e2,e3];rfl) λw9 uk zj yt=>?_;have xo:Chg (Of f) w4 w9:=h8.ch.trans (yt.mono λk _ e=>e);refine iO (yw xo) rfl (by simp) λw10 ye ya xe=>?_;have yr:=xe.at zj (by omega);refine Rf ?_;refine bZ yr rfl ?_;refine⟨.pointer none,by rw[cG,ya];rfl,?_⟩;have xg:=h8.fr.out;have xg:=xg.keep yt λk hk zh hu e=>by have e:k=f:=e;omega
   have xg:=xg.keep xe λk hk zh hu e=>by have e:k=bd:=e;omega
   have yd:=xa.size;rw[<-j]at ht;have few:=ho.few;refine ht _ rfl M1 w10 ?_ (xg.low yd) ⟨xj.ex.1,xj.ex.2,by show top.length<=_;omega⟩;refine(xa.then xo λk hk e=>?_).then xe λk hk e=>?_
   ·have e:k=f:=e;omega
   ·have e:k=bd:=e;omega
 ·rw[bL];refine⟨.slice none 0 0,rfl,?_⟩;rw[bL];refine⟨.pointer (some ⟨d,0,none⟩),rfl,?_⟩;have xf:=hg.at xr id;have xx:=hg.at yo id;refine iO xf rfl (by simp) λw4 zb I hq=>?_;have I:w4.heap[bd]?=some (.cells [.pointer (some ⟨d,0,none⟩)].toArray 33 (0,0)):=by rw[I];simp
  have xd:=hq.at xx (by omega);refine⟨.pointer (some ⟨d,0,none⟩),by rw[cG,I];rfl,?_⟩;show aS (.bool true) _ _;rw[dS,cW];refine⟨.pointer (some ⟨d,0,none⟩),by rw[cG,heap_drew,I];rfl,?_⟩;refine cK (w:=w4.drew) (l:=[.slice none 0 0,.slice none 0 0,.slice none 0 0]) xd rfl rfl rfl λw5 za xw hy=>?_;have xq:=hy.at (w:=w4.drew) I (by omega);refine⟨⟨.pointer (some ⟨d,0,none⟩),by rw[cG,xq];rfl,rfl⟩,?_⟩;refine iO xq rfl (by simp) λw6 um yx xz=>?_;have zk:=xz.at xw (by omega);refine bZ zk rfl ?_;refine⟨.pointer (some ⟨d,0,none⟩),by rw[cG,yx];rfl,?_⟩;have yf:=xb.trans hg;have zn:=hq.at xy (by omega);have zm:=hy.at (w:=w4.drew) zn (by omega);refine J c a (by rw[hi]) d w6 ?_ (by omega) (xz.at zm (by omega));exact(((yf.new hq (by omega)).trans (dE w4)).new hy (by omega)).new xz (by omega)
abbrev cv(c:UInt8):Value:=.int .u8 (c.toNat:Nat)
theorem Cr(a c:UInt8):decide (((a.toNat:Nat):Int)<=((c.toNat:Nat):Int))=decide (a<=c):=by
 rw[decide_eq_decide,UInt8.le_iff_toNat_le];omega
theorem AX(a c:UInt8):decide (((c.toNat:Nat):Int)=((a.toNat:Nat):Int))=(c==a):=by
 rw[mK,decide_eq_true_iff,fV,<-kO];omega
section
variable [HX]
theorem yX{K:Q0}(j:K (.bool (jR c)) w):aC P0 72 [cv c] w K:=by
 refine aCA ?_;unfold W72;have e1:decide ((97:Int)<=((c.toNat:Nat):Int))=decide (97<=c):=Cr 97 c;have e2:decide (((c.toNat:Nat):Int)<=122)=decide (c<=122):=Cr c 122;have e3:decide ((65:Int)<=((c.toNat:Nat):Int))=decide (65<=c):=Cr 65 c;have e4:decide (((c.toNat:Nat):Int)<=90)=decide (c<=90):=Cr c 90;have e5:decide (((c.toNat:Nat):Int)=95)=(c==95):=AX 95 c;simp only[mX,vH,bO,e1,e2,e3,e4,e5];unfold jR at j;generalize decide (97<=c)=a at*
 generalize decide (c<=122)=b at*
 generalize decide (65<=c)=d at*
 generalize decide (c<=90)=e at*
 generalize (c==95)=g at*
 cases a<;>cases b<;>cases d<;>cases e<;>cases g<;>
  (simp only[fQ,mI,Sm,AL,qB,aM,aK,lH,tK,aG,iW,iS];intros;exact j)
theorem DO{K:Q0}(j:K (.bool (jL c)) w):aC P0 74 [cv c] w K:=by
 refine aCy ?_;unfold W74;have e1:decide ((48:Int)<=((c.toNat:Nat):Int))=decide (48<=c):=Cr 48 c;have e2:decide (((c.toNat:Nat):Int)<=57)=decide (c<=57):=Cr c 57;simp only[mX,vH,e1,e2];unfold jL at j;generalize decide (48<=c)=a at*
 generalize decide (c<=57)=b at*
 cases a<;>cases b<;>
  (simp only[fQ,mI,Sm,AL,qB,aM,aK,lH,tK,aG,iW,iS];intros;exact j)
theorem Aq{g:FuncId}{args:List Value}{K:Q0}(h:aC P g args w K):pG P (.func (.func g) #[] #[]) args w K:=kD (caps:=[]) (by rw[eG];exact h)
theorem WB{K:Q0}(j:K (.bool (jV c)) w):aC P0 73 [cv c] w K:=by
 refine aCz ?_;unfold W73;refine yX ?_;have e5:decide (((c.toNat:Nat):Int)=45)=(c==45):=AX 45 c;unfold jV at j;simp only[mI,bO,e5];refine GdW.look (jL c) (λ_ J o=>DO o) λg=>?_;simp only[aG];rw[fU];simp only[mI,qB,aG];intro g2;rw[fU];exact j
theorem WA{K:Q0}(j:K (.bool (jV c)) w):aC P0 109 [cv c] w K:=by
 refine Zp ?_;unfold aFv;refine yX ?_;have e5:decide (((c.toNat:Nat):Int)=45)=(c==45):=AX 45 c;unfold jV at j;simp only[mI,bO,e5];refine GdW.look (jL c) (λ_ J o=>DO o) λg=>?_;simp only[aG];rw[fU];simp only[mI,qB,aG];intro g2;rw[fU];exact j
theorem WL{K:Q0}(j:K (.bool (c !=10)) w):aC P0 70 [cv c] w K:=by
 refine aCB ?_;unfold W70;rw[gD];have e:decide (((c.toNat:Nat):Int)≠10)=(c !=10):=by
  have e5:decide (((c.toNat:Nat):Int)=10)=(c==10):=AX 10 c;rw[bne,<-e5,yD]
 rw[e];exact j
theorem Nu{q:UInt8->Bool}{fv:Value}{s:Str}{K:Q0}(hl:s.length<=1000000)(U:∀c {w:World} {K:Q0},K (.bool (q c)) w->pG P0 fv [cv c] w K)(I:K (i64 (eS q s:Nat)) w):aC P0 69 [str s,fv] w K:=by
 refine aCC ?_;unfold W69;rw[gC];refine cY.go (λst w'=>∃i:Nat,st=[i64 (i:Nat)]/\i<=s.length/\w'=w/\i+eS q (s.drop i)=eS q s) (λst _=>match st with|[.int _ i]=>s.length-i.toNat|_=>0) ⟨0,rfl,by omega,rfl,by simp⟩ ?_;rintro st g w' ⟨i,rfl,hi,rfl,j⟩;simp only[aG];rw[dU,aO];refine⟨λo=>?_,λhc=>?_⟩
 ·have o:i<s.length:=by omega
  rw[iZ o]at j;simp only[eS]at j;refine sA o ?_;refine U _ ?_;rw[eP,bY];refine⟨λhn=>?_,λJ=>?_⟩
  ·rw[aE (by simpa using hn),eU]at j;rw[j];exact I
  ·rw[aJ (by simpa using J)]at j;rw[cI,upi (by omega)];refine⟨⟨i+1,rfl,by omega,rfl,by omega⟩,?_⟩;simp only[aW];omega
 ·obtain rfl:i=s.length:=by omega
  rw[eJ]at j;simp only[eS,eU]at j;rw[gC,j];exact I
theorem Fh{l:Str}{K:Q0}(j:K (i64 (Lib.indexByte l c)) w):aC P0 68 [str l,cv c] w K:=by
 refine fX (args:=#[str l,cv c]) Tryz.call68 ((Tryz.strings_IndexByte (ofL l) (c.toNat:Nat) w).mono ?_);rintro e w' ⟨rfl,rfl⟩;refine⟨_,rfl,?_⟩;rw[eM];simpa using j
theorem Sy{s:Str}{K:Q0}(hT:zM w)(hl:s.length<=1000000)(j:K (i64 (Lib.index s [42,47])) w):aC P0 71 [str s,str [42,47]] w K:=by
 obtain⟨m,hm⟩:=hT;refine fX (args:=#[str s,str [42,47]]) Tryz.call71 ((Tryz.strings_Index (ofL s) (ofL [42,47]) m w (by rw[fT];omega) hm).mono ?_);rintro e w' ⟨rfl,rfl⟩;rw[eM,eM];exact⟨_,rfl,j⟩
end
theorem aB6(c:UInt8):decide (0<=Lib.indexByte [32,9,13] c)=(c==32||c==9||c==13):=by
 have:∀m:Fin 256,decide (0<=Lib.indexByte [32,9,13] (UInt8.ofNat m.val))=(UInt8.ofNat m.val==32||UInt8.ofNat m.val==9||UInt8.ofNat m.val==13):=by decide+kernel
 have h:=this ⟨c.toNat,uD c⟩;rwa[sZ]at h
theorem aFN(c:UInt8):decide (Lib.indexByte [34,92,110,116,114,36] c<0)=!Lex.escOk c:=by
 have:∀m:Fin 256,decide (Lib.indexByte [34,92,110,116,114,36] (UInt8.ofNat m.val)<0)=!Lex.escOk (UInt8.ofNat m.val):=by decide+kernel
 have h:=this ⟨c.toNat,uD c⟩;rwa[sZ]at h
theorem aAt(c:UInt8):decide (0<=Lib.indexByte [123,125,91,93,40,41,61,43,45,42,47,37,60,62,33,63,58,44,46] c)=Cd.contains c:=by
 have:∀m:Fin 256,decide (0<=Lib.indexByte [123,125,91,93,40,41,61,43,45,42,47,37,60,62,33,63,58,44,46] (UInt8.ofNat m.val))=Cd.contains (UInt8.ofNat m.val):=by decide+kernel
 have h:=this ⟨c.toNat,uD c⟩;rwa[sZ]at h
theorem GA(n:Nat)(c:UInt8)(r:Str):fW (n+1) (c::r)=(if(c==32||c==9||c==13)=true then((fW n r).1+1,(fW n r).2)else if(c==35||Lib.hasPrefix (c::r) [47,47])=true then((fW n ((c::r).drop (eS (λb=>b !=10) (c::r)))).1+eS (λb=>b !=10) (c::r),(fW n ((c::r).drop (eS (λb=>b !=10) (c::r)))).2)
  else if Lib.hasPrefix (c::r) [47,42]=true then(if Lib.index (r.drop 1) [42,47]<0 then(0,40)else((fW n ((c::r).drop ((Lib.index (r.drop 1) [42,47]).toNat+4))).1+((Lib.index (r.drop 1) [42,47]).toNat+4),(fW n ((c::r).drop ((Lib.index (r.drop 1) [42,47]).toNat+4))).2))else(0,0)):=by
 simp only[fW,cQ,fV];rfl
theorem Rb{q:UInt8->Bool}{r:Str}(h:q c=true):1<=eS q (c::r):=by simp only[eS];rw[aJ h];omega
theorem add_add(i j:Nat)(x:Nat×Int):nK i (nK j x)=nK (i+j) x:=by
 unfold nK;by_cases h:x.2=0
 ·simp only[h,gF];rw[show x.1+j+i=x.1+(i+j)by omega]
 ·simp only[aE h]
section
variable [HX]
theorem aAs{s:Str}{K:Q0}(hT:zM w)(hl:s.length<=1000000)(hK:K (.tuple #[i64 ((fW (s.length+1) s).1:Nat),i64 (fW (s.length+1) s).2]) w):aC P0 44 [str s] w K:=by
 refine aCT ?_;unfold W44;generalize hR:fW (s.length+1) s=R0 at hK;refine cY.go (λst w'=>∃i n:Nat,st=[i64 (i:Nat)]/\i<=s.length/\w'=w/\((fW n (s.drop i)).1+i,(fW n (s.drop i)).2)=R0/\s.length<n+i) (λst _=>match st with|[.int _ i]=>s.length-i.toNat|_=>0) ⟨0,s.length+1,rfl,by omega,rfl,by rw[cZ,hR];rfl,by omega⟩ ?_;rintro st g w' ⟨i,n,rfl,hi,rfl,o,hn⟩;obtain⟨n,rfl⟩:∃m,n=m+1:=⟨n-1,by omega⟩;simp only[aG];rw[gC,dU,aO];refine⟨λU=>?_,λhy=>?_⟩
 ·have U:i<s.length:=by omega
  have hd:=iZ U;rw[hd,GA]at o;rw[gB,fM,eR];refine⟨by omega,by omega,?_⟩;rw[bR,aW];refine sA U ?_;refine Fh ?_;rw[mX,aB6,bY];refine⟨λhb=>?_,λhb=>?_⟩
  ·rw[aJ hb]at o;rw[cI,upi (by omega)];refine⟨⟨i+1,n,rfl,by omega,rfl,?_,by omega⟩,?_⟩
   ·rw[<-o];simp only[gE,lP];omega
   ·simp only[aW];omega
  rw[aE (by rw[hb];decide)]at o;have ho:=hd;rw[hd];generalize hc:s[i]=c at*
  generalize hx:s.drop (i+1)=r at*
  have hq:(c::r).length=s.length-i:=by rw[<-hd,aP]
  simp only[aB]at hq;refine bU.cut (λst w2=>st=[.bool (c==35||Lib.hasPrefix (c::r) [47,47])]/\w2=w') ?_ ?_
  ·refine sA U ?_;rw[hc];have e5:decide (((c.toNat:Nat):Int)=35)=(c==35):=AX 35 c;rw[bO,e5,bY];refine⟨λh=>⟨by rw[h];rfl,rfl⟩,λh=>?_⟩;refine AV ?_;exact⟨by rw[h,pJ],rfl⟩
  rintro st g2 w2 ⟨rfl,rfl⟩;simp only[aG];rw[bY];refine⟨λJ=>?_,λJ=>?_⟩
  ·rw[aJ J]at o;refine Nu (q:=λb=>b !=10) (by simp only[aB];omega) (λc {w K} h=>Aq (WL h)) ?_;have hs:=rN (λb=>b !=10) (c::r);have hg:1<=eS (λb=>b !=10) (c::r):=Rb (by
    rw[cQ]at J;rcases J with h|h
    ·rw[fV]at h;subst h;rfl
    ·simp only[Lib.hasPrefix,List.isPrefixOf,aL,fV]at h;rw[<-h.1];rfl)
   simp only[aB]at hs;rw[cI,cN (by omega) (by omega)];generalize eS (λb=>b !=10) (c::r)=k at*
   refine⟨⟨i+k,n,by simp only[dX,Value.int.injEq,dV,lP];omega,by omega,rfl,?_,by omega⟩,?_⟩
   ·rw[<-o,<-gA,ho];simp only[gE,lP];omega
   ·simp only[aW];omega
  rw[aE (by rw[J];decide)]at o;refine AV ?_;rw[bY];refine⟨λI=>?_,λI=>?_⟩
  ·rw[aJ I]at o;rw[gB,fM,eR];have h2:2<=(c::r).length:=Iw (p:=[47,42]) (s:=c::r) I;simp only[aB]at h2;refine⟨by omega,by simp only[aB];omega,?_⟩;rw[bR];show aC P0 71 [str (r.drop 1),str [42,47]] w2 _;refine Sy hT (by rw[aP];omega) ?_;rw[dU,aO];refine⟨λhk=>?_,λhg=>?_⟩
   ·rw[aJ hk]at o;rw[<-o,aX]at hK;exact hK
   ·rw[aE hg]at o;obtain⟨j,hj⟩:=Int.eq_ofNat_of_zero_le (show 0<=Lib.index (r.drop 1) [42,47]by omega);have ht:=IM _ _ hj;rw[aP]at ht;rw[hj]at o⊢;rw[cI,cN (by omega) (by omega),cI,cN (by omega) (by omega)];rw[aW]at o;refine⟨⟨i+(j+4),n,by simp only[dX,Value.int.injEq,dV,lP];omega,by omega,rfl,?_,by omega⟩,?_⟩
    ·rw[<-o,<-gA,ho];simp only[gE,lP];omega
    ·simp only[aW];omega
  ·rw[aE (by rw[I];decide),aX]at o;rw[<-o]at hK;exact hK
 ·obtain rfl:i=s.length:=by omega
  rw[eJ]at o;simp only[fW,aX]at o;rw[<-o]at hK;exact hK
def qP(x:Nat×Int):List Value:=if x.2=0 then [i64 ((x.1+1:Nat):Int),i64 0]else [i64 0,i64 x.2]
def TxC(n:Nat):Prop:=∀(c:UInt8) (r:Str) (d:Nat) (w:World) (K:Q0),r.length<n->r.length<=1000000->d<=24->K (.tuple (qP (gL r d)).toArray) w->aC P0 76 [str (c::r),i64 (d:Nat)] w K
def InC(n:Nat):Prop:=∀(c:UInt8) (r:Str) (d:Nat) (w:World) (K:Q0),r.length<n->r.length<=1000000->d<=25->K (.tuple (qP (if 24<d then(0,7)else kK r d)).toArray) w->aC P0 108 [str (c::r),i64 (d:Nat)] w K
theorem oL{x:Nat×Int}:qP (nK i x)=if x.2=0 then [i64 ((i+x.1+1:Nat):Int),i64 0]else [i64 0,i64 x.2]:=by
 unfold qP nK;by_cases h:x.2=0
 ·simp only[h,gF];rw[show x.1+i+1=i+x.1+1 by omega]
 ·simp only[aE h]
theorem TX(hi:InC n):TxC (n+1):=by
 intro c r d w K hn hl hv I;refine aCw ?_;unfold W76;have o:(c::r).length=r.length+1:=rfl;generalize hR:qP (gL r d)=R0 at I;have cond:∀{c:UInt8} (k:Nat),k<256->(((c.toNat:Nat):Int)=(k:Int)↔c=UInt8.ofNat k):=λ{c} k hk=>by
  have:=Gu c k hk;rwa[decide_eq_decide]at this
 refine cY.go (λst w'=>∃i:Nat,st=[i64 ((i+1:Nat):Int)]/\w'=w/\i<=r.length/\qP (nK i (gL (r.drop i) d))=R0) (λst _=>match st with|[.int _ i]=>r.length+1-i.toNat|_=>0) ⟨0,rfl,rfl,by omega,by rw[cZ,oL,<-hR];unfold qP;rw[aX]⟩ ?_;rintro st g w2 ⟨i,rfl,rfl,hz,j⟩;simp only[aG];rw[gC,dU,aO,o];refine⟨λhj=>?_,λxa=>?_⟩
 ·have hj:i<r.length:=by omega
  have hd:=iZ hj;rw[hd,qM]at j;simp only[fV]at j;have ix:∀{KK:Value->Prop},KK (cv r[i])->qE (str (c::r)) (i64 ((i+1:Nat):Int)) KK:=λh=>sA (s:=c::r) (i:=i+1) (by rw[o];omega) h;refine ix ?_;rw[bO,aO];refine⟨λe=>?_,λe=>?_⟩
  ·have e:r[i]=34:=(cond 34 (by omega)).1 e;rw[aJ e,oL,aJ rfl]at j;rw[cI,upi (by omega)];rw[<-j]at I;exact I
  have e:¬r[i]=34:=λh=>e ((cond 34 (by omega)).2 h);rw[aE e]at j;refine ix ?_;rw[bO,aO];refine⟨λe=>?_,λe=>?_⟩
  ·have e:r[i]=10:=(cond 10 (by omega)).1 e;rw[aJ e,oL,aE (by simp)]at j;rw[<-j]at I;exact I
  have e:¬r[i]=10:=λh=>e ((cond 10 (by omega)).2 h);rw[aE e]at j;refine ix ?_;rw[bO,aO];refine⟨λe=>?_,λe=>?_⟩
  ·have e:r[i]=92:=(cond 92 (by omega)).1 e;rw[aJ e]at j;rw[cI,upi (by omega),gC,mX,o];simp only[mI];by_cases ho:r.length<=i+1
   ·have e0:r.drop (i+1)=[]:=fH ho;rw[e0]at j;simp only at j;rw[oL,aE (by simp)]at j;rw[bH (by omega),iW,AL];intro g2;rw[lH,dS];rw[<-j]at I;exact I
   ·have U:i+1<r.length:=by omega
    have hc:=iZ U;rw[hc]at j;simp only at j;rw[cH (by omega),iS];refine GdW.look (!Lex.escOk r[i+1]) (λ_ J hJ=>?_) λg2=>?_
    ·rw[cI,upi (by omega)];refine sA (s:=c::r) (i:=i+2) (by rw[o];omega) ?_;refine Fh ?_;rw[dU];have:=aFN r[i+1];rw[show(c::r)[i+2]=r[i+1]from rfl,this];exact hJ
    simp only[aG,aM,tK];rw[bY];refine⟨λhb=>?_,λhg=>?_⟩
    ·have hb:¬Lex.escOk r[i+1]=true:=by simpa using hb
     rw[aE hb,oL,aE (by simp)]at j;rw[<-j]at I;exact I
    ·have hg:Lex.escOk r[i+1]=true:=by simpa using hg
     rw[aJ hg,add_add]at j;rw[cI,cN (by omega) (by omega)];refine⟨⟨i+2,by simp only[dX,Value.int.injEq,dV,lP];omega,trivial,by omega,j⟩,?_⟩;simp only[aW];omega
  have e:¬r[i]=92:=λh=>e ((cond 92 (by omega)).2 h);rw[aE e]at j;rw[gB,fM,eR];refine⟨by omega,by rw[o];omega,?_⟩;rw[bR,aW,cU,hd];refine AV ?_;rw[pre_eq,bY];refine⟨λe=>?_,λe=>?_⟩
  ·rw[aJ e]at j;have h2:=Iw e;have U:i+1<r.length:=by
    simp only[aB,aN,aP]at h2;omega
   have hc:=iZ U;rw[cI,upi (by omega),gB,fM,eR];refine⟨by omega,by rw[o];omega,?_⟩;rw[bR,aW,cU,hc,cI,upi (by omega)];have ht:(r.drop (i+1)).drop 1=r.drop (i+2):=by rw[gA]
   rw[ht]at j;have hx:(r.drop (i+2)).length=r.length-(i+2):=aP ..;refine hi _ _ (d+1) _ _ (by show(r.drop (i+2)).length<n;omega) (by show(r.drop (i+2)).length<=_;omega) (by omega) ?_;have hq:∃x:Nat×Int,x=(if 24<d+1 then((0:Nat),(7:Int))else kK (r.drop (i+2)) (d+1))/\qP (nK i (if x.2=0 then nK (x.1+2) (gL ((r.drop (i+2)).drop x.1) d)else(0,x.2)))=R0/\(x.2=0->x.1<=(r.drop (i+2)).length):=by
    refine⟨_,rfl,?_,?_⟩
    ·by_cases h:24<d+1
     ·rw[aJ h]at j⊢;exact j
     ·rw[aE h]at j⊢;exact j
    ·by_cases h:24<d+1
     ·rw[aJ h];intro h;exact absurd h (by simp)
     ·rw[aE h];intro h0;exact((jM _ (r.drop (i+2)) (aV _)).2 (d+1) _ (fZ rfl h0)).1.2
   obtain⟨x,ex,j,hh⟩:=hq;rw[show r.drop (i+1+1)=r.drop (i+2)from rfl,<-ex];by_cases h0:x.2=0
   ·have eo:qP x=[i64 ((x.1+1:Nat):Int),i64 0]:=by unfold qP;rw[aJ h0]
    have hh:=hh h0;rw[aJ h0,add_add,gA]at j;rw[eo,bL];refine⟨i64 ((x.1+1:Nat):Int),rfl,?_⟩;rw[bL];refine⟨i64 0,rfl,?_⟩;rw[gD,aO];refine⟨λh=>absurd rfl h,λ_=>?_⟩;rw[cI,cN (by omega) (by omega),cI,cN (by omega) (by omega)];refine⟨⟨i+(x.1+2),by simp only[dX,Value.int.injEq,dV,lP];omega,rfl,by omega,by rw[show i+(x.1+2)=i+2+x.1 by omega]at j⊢;exact j⟩,?_⟩;simp only[aW];omega
   ·have eo:qP x=[i64 0,i64 x.2]:=by unfold qP;rw[aE h0]
    rw[aE h0,oL,aE h0]at j;rw[eo,bL];refine⟨i64 0,rfl,?_⟩;rw[bL];refine⟨i64 x.2,rfl,?_⟩;rw[gD,aO];refine⟨λ_=>by rw[<-j]at I;exact I,λh=>absurd h0 h⟩
  ·rw[aE (by rw[e];decide),add_add]at j;rw[cI,upi (by omega)];refine⟨⟨i+1,rfl,rfl,by omega,j⟩,?_⟩;simp only[aW];omega
 ·obtain rfl:i=r.length:=by omega
  rw[eJ,qL,oL,aE (by simp)]at j;rw[<-j]at I;exact I
theorem Xc(hi:InC n)(hj:TxC n):InC (n+1):=by
 intro c r d w K hn hl ho I;refine Zq ?_;unfold aFw;rw[mB,aO];refine⟨λh=>?_,λh=>?_⟩
 ·rw[aJ (by omega)]at I;exact I
 have hh:d<=24:=by omega
 rw[aE (by omega)]at I;have o:(c::r).length=r.length+1:=rfl;generalize hR:qP (kK r d)=R0 at I;have cond:∀{c:UInt8} (k:Nat),k<256->(((c.toNat:Nat):Int)=(k:Int)↔c=UInt8.ofNat k):=λ{c} k hk=>by
  have:=Gu c k hk;rwa[decide_eq_decide]at this
 refine cY.go (λst w'=>∃i:Nat,st=[i64 ((i+1:Nat):Int)]/\w'=w/\i<=r.length/\qP (nK i (kK (r.drop i) d))=R0) (λst _=>match st with|[.int _ i]=>r.length+1-i.toNat|_=>0) ⟨0,rfl,rfl,by omega,by rw[cZ,oL,<-hR];unfold qP;rw[aX]⟩ ?_;rintro st g w2 ⟨i,rfl,rfl,ht,j⟩;simp only[aG];rw[gC,dU,aO,o];refine⟨λhg=>?_,λhv=>?_⟩
 ·have hg:i<r.length:=by omega
  have hd:=iZ hg;rw[hd,Cs]at j;simp only[fV]at j;have hq:(r.drop (i+1)).length=r.length-(i+1):=aP ..;refine bU.cut (λst w'=>w'=w2/\∃(k:Nat) (e:Int),st=[i64 (if e=0 then((k+1:Nat):Int)else 0),i64 e]/\(e=0->i+(k+1)<=r.length/\qP (nK (i+(k+1)) (kK (r.drop (i+(k+1))) d))=R0)/\(e≠0->[i64 0,i64 e]=R0)) ?_ ?_
  ·refine sA (s:=c::r) (i:=i+1) (by rw[o];omega) ?_;show aQ .eql (cv r[i]) _ _;rw[bO,aO];refine⟨λe=>?_,λe=>?_⟩
   ·have e:r[i]=125:=(cond 125 (by omega)).1 e;rw[aJ e,oL,aJ rfl]at j;rw[cI,upi (by omega)];rw[<-j]at I;exact I
   have e:¬r[i]=125:=λh=>e ((cond 125 (by omega)).2 h);rw[aE e]at j;rw[bO,aO];refine⟨λe=>?_,λe=>?_⟩
   ·have e:r[i]=10:=(cond 10 (by omega)).1 e;rw[aJ e,oL,aE (by simp)]at j;rw[<-j]at I;exact I
   have e:¬r[i]=10:=λh=>e ((cond 10 (by omega)).2 h);rw[aE e]at j;have sub:∀(x:Nat×Int),qP (nK i (if x.2=0 then nK (x.1+1) (kK ((r.drop (i+1)).drop x.1) d)else(0,x.2)))=R0->(x.2=0->x.1<=(r.drop (i+1)).length)->dO 0 (.tuple (qP x).toArray) λt33=>dO 1 (.tuple (qP x).toArray) λt34=>(λ(st:List Value) (w':World)=>w'=w2/\∃(k:Nat) (e:Int),st=[i64 (if e=0 then((k+1:Nat):Int)else 0),i64 e]/\(e=0->i+(k+1)<=r.length/\qP (nK (i+(k+1)) (kK (r.drop (i+(k+1))) d))=R0)/\(e≠0->[i64 0,i64 e]=R0)) [t33,t34] w2:=λx hx U=>by
    by_cases h0:x.2=0
    ·have eo:qP x=[i64 ((x.1+1:Nat):Int),i64 0]:=by unfold qP;rw[aJ h0]
     have U:=U h0;rw[aJ h0,add_add,gA]at hx;rw[eo,bL];refine⟨i64 ((x.1+1:Nat):Int),rfl,?_⟩;rw[bL];refine⟨i64 0,rfl,rfl,x.1,0,by rw[aJ rfl],λ_=>⟨by omega,by rw[show i+(x.1+1)=i+1+x.1 by omega]at hx⊢;exact hx⟩,λh=>absurd rfl h⟩
    ·have eo:qP x=[i64 0,i64 x.2]:=by unfold qP;rw[aE h0]
     rw[aE h0,oL,aE h0]at hx;rw[eo,bL];refine⟨i64 0,rfl,?_⟩;rw[bL];exact⟨i64 x.2,rfl,rfl,0,x.2,by rw[aE h0],λh=>absurd h h0,λ_=>hx⟩
   rw[bO,aO];refine⟨λe=>?_,λe=>?_⟩
   ·have e:r[i]=123:=(cond 123 (by omega)).1 e;rw[aJ e]at j;rw[gB,fM,eR];refine⟨by omega,by rw[o];omega,?_⟩;rw[bR,aW,cU,hd,cI,upi (by omega)];refine hi _ _ (d+1) _ _ (by omega) (by omega) (by omega) ?_;refine sub _ ?_ ?_
    ·by_cases h:24<d+1
     ·rw[aJ h]at j⊢;exact j
     ·rw[aE h]at j⊢;exact j
    ·by_cases h:24<d+1
     ·rw[aJ h];intro h;exact absurd h (by simp)
     ·rw[aE h];intro h0;exact((jM _ (r.drop (i+1)) (aV _)).2 (d+1) _ (fZ rfl h0)).1.2
   have e:¬r[i]=123:=λh=>e ((cond 123 (by omega)).2 h);rw[aE e]at j;rw[bO,aO];refine⟨λe=>?_,λe=>?_⟩
   ·have e:r[i]=34:=(cond 34 (by omega)).1 e;rw[aJ e]at j;rw[gB,fM,eR];refine⟨by omega,by rw[o];omega,?_⟩;rw[bR,aW,cU,hd];refine hj _ _ d _ _ (by omega) (by omega) hh ?_;refine sub _ j λh0=>?_;exact((jM _ (r.drop (i+1)) (aV _)).1 d _ (fZ rfl h0)).2.2
   ·have e:¬r[i]=34:=λh=>e ((cond 34 (by omega)).2 h);rw[aE e,add_add]at j;exact⟨rfl,0,0,rfl,λ_=>⟨by omega,j⟩,λh=>absurd rfl h⟩
  rintro st g2 w3 ⟨rfl,k,e,rfl,h1,h2⟩;simp only[aG,cS];rw[gD,aO];refine⟨λJ=>by rw[<-h2 J]at I;exact I,λJ=>?_⟩;have J:e=0:=by
   by_cases h:e=0
   ·exact h
   ·exact absurd h J
  obtain⟨g1,g2⟩:=h1 J;rw[aJ J,cI,cN (by omega) (by omega)];refine⟨⟨i+(k+1),by simp only[dX,Value.int.injEq,dV,lP];omega,trivial,g1,g2⟩,?_⟩;simp only[aW];omega
 ·obtain rfl:i=r.length:=by omega
  rw[eJ,Fg,oL,aE (by simp)]at j;rw[<-j]at I;exact I
theorem No:∀n,TxC n/\InC n
 |0=>⟨λ_ _ _ _ _ h=>by omega,λ_ _ _ _ _ h=>by omega⟩
 |n+1=>⟨TX (No n).2,Xc (No n).2 (No n).1⟩
theorem WK{r:Str}{d:Nat}{K:Q0}(hl:r.length<=1000000)(hd:d<=24)(j:K (.tuple (qP (gL r d)).toArray) w):aC P0 76 [str (c::r),i64 (d:Nat)] w K:=(No (r.length+1)).1 c r d w K (by omega) hl hd j
end
theorem Uw(c d:UInt8)(r:Str):[d].isPrefixOf (c::r)=(d==c):=by simp[List.isPrefixOf]
theorem PD(s:Str):Lib.index s [10]=if eS (λb=>b !=10) s<s.length then((eS (λb=>b !=10) s:Nat):Int)else-1:=by
 induction s with
 |nil=>rfl
 |cons c r ih=>
  simp only[Lib.index,Uw];by_cases h:c=10
  ·subst h;rfl
  ·have h1:((10:UInt8)==c)=false:=by rw[beq_eq_false_iff_ne];exactλe=>h e.symm
   have I:(c !=10)=true:=by simp[h]
   have e2:eS (λb=>b !=10) (c::r)=eS (λb=>b !=10) r+1:=by simp only[eS];rw[aJ I]
   obtain⟨k,j⟩:∃k,k=eS (λb=>b !=10) r:=⟨_,rfl⟩;have ih':Lib.index r [10]=if k<r.length then(k:Int)else-1:=by rw[j];exact ih
   rw[h1,aE (by decide),ih',e2,<-j];simp only[aB];by_cases o:k<r.length
   ·have e3:(if k<r.length then(k:Int)else-1)=k:=aJ o;have e4:(if k+1<r.length+1 then((k+1:Nat):Int)else-1)=((k+1:Nat):Int):=aJ (by omega);rw[e3,e4,aE (by simp only[fV];omega)];rfl
   ·have e3:(if k<r.length then(k:Int)else-1)=-1:=aE o;have e4:(if k+1<r.length+1 then((k+1:Nat):Int)else-1)=-1:=aE (by omega);rw[e3,e4];rfl
theorem Xu(s:Str):(Lib.cut s [10]).1=s.take (eS (λb=>b !=10) s)/\(Lib.cut s [10]).2.2=decide (eS (λb=>b !=10) s<s.length):=by
 have j:=rN (λb=>b !=10) s;unfold Lib.cut;rw[PD];by_cases h:eS (λb=>b !=10) s<s.length
 ·rw[aJ h,aJ (by omega),aW];exact⟨rfl,by simp[h]⟩
 ·rw[aE h,aE (by omega)];exact⟨by rw[dW (by omega)],by simp[h]⟩
theorem QD(l:Str):Lib.trimLeftS l [32,9]=l.drop (eS (λb=>b==32||b==9) l):=by
 unfold Lib.trimLeftS;induction l with
 |nil=>rfl
 |cons c r ih=>
  simp only[List.dropWhile_cons,eS];have e:([32,9]:Str).contains c=(c==32||c==9):=by simp[List.contains,List.elem];cases(c==32)<;>cases(c==9)<;>rfl
  rw[e];by_cases hb:(c==32||c==9)=true
  ·rw[aJ hb,aJ hb];exact ih
  ·rw[aE hb,aE hb];rfl
theorem PK(a b:Str):kU (a++b)=kU a++kU b:=by
 induction a with
 |nil=>rfl
 |cons c r ih=>
  simp only[dD,kU]
  (repeat' split)<;>simp only[dD,ih]
theorem MH{u:Str}(h:∀c∈u,128<=c.toNat):kU u=u:=by
 induction u with
 |nil=>rfl
 |cons c r ih=>
  have I:=h c bA;have n:∀k:UInt8,k.toNat<128->(c==k)=false:=λk o=>by
   rw[beq_eq_false_iff_ne];intro e;subst e;omega
  simp only[kU,n 92 (by decide),n 34 (by decide),n 36 (by decide),n 9 (by decide),n 13 (by decide),Bool.or_self,fF,kL,ih λx j=>h x (aR _ j)]
theorem vP{r:Str}(h:Utf (c::r))(U:c.toNat<128):Utf r:=by
 generalize j:c::r=z at h;cases h with
 |nil=>cases j
 |@cons u r' o I=>
  rcases o.cases with⟨x,rfl,_⟩|J
  ·simp only[dD,fO,dX]at j;rw[j.2];exact I
  ·cases u with
   |nil=>exact absurd rfl o.1
   |cons y u'=>
    simp only[dD,dX]at j;have:=J y bA;rw[<-j.1]at this;omega
theorem OE{t:Str}(h:Utf t):∀{a b:Str} {c:UInt8},t=a++c::b->c.toNat<128->Utf a/\Utf (c::b):=by
 induction h with
 |nil=>intro a b c e;simp at e
 |@cons u r I U ih=>
  intro a b c e hc;by_cases o:u.length<=a.length
  ·have h1:a=u++a.drop u.length:=by
    have:=congrArg (List.take u.length) e;rw[List.take_left,qX o]at this;have J:=iH u.length a;rw[<-this]at J;exact J.symm
   rw[h1,fP]at e;have e:=List.append_cancel_left e;obtain⟨i1,i2⟩:=ih e hc;rw[h1];exact⟨.cons I i1,i2⟩
  ·have j:c∈u:=by
    have:(u++r)[a.length]?=some c:=by rw[e];simp
    rw[List.getElem?_append_left (by omega)]at this;exact bG this
   rcases I.cases with⟨x,rfl,_⟩|hh
   ·have ha:a=[]:=bC (by simp only[aB,aN]at o;omega);subst ha;simp only[fO]at e;rw[<-e];exact⟨.nil,.cons I U⟩
   ·have:=hh c j;omega
theorem Bg{t:Str}(h:Utf t){b:Str}(hd:t.drop i=c::b)(j:c.toNat<128):Utf (t.take i)/\Utf (c::b):=
 OE h (by rw[<-hd,iH]) j
theorem Qv{s:Str}(h:Utf s):Utf (s.take (eS (λb=>b !=10) s))/\(eS (λb=>b !=10) s<s.length->Utf (s.drop (eS (λb=>b !=10) s+1))):=by
 have stop:∀s:Str,∀b,(s.drop (eS (λb=>b !=10) s)).head?=some b->b=10:=by
  intro s;induction s with
  |nil=>intro b hb;simp[eS]at hb
  |cons c r ih=>
   intro b hb;simp only[eS]at hb;by_cases o:(c !=10)=true
   ·rw[aJ o,cU]at hb;exact ih b hb
   ·rw[aE o]at hb;simp only[cZ,List.head?_cons,bF]at hb;rw[<-hb];simpa using o
 by_cases I:eS (λb=>b !=10) s<s.length
 ·have hd:=iZ I;have j:=stop s s[eS (λb=>b !=10) s] (by rw[hd];rfl);obtain⟨h1,J⟩:=Bg h hd (by rw[j];decide);exact⟨h1,λ_=>vP J (by rw[j];decide)⟩
 ·exact⟨by rw[dW (by omega)];exact h,λe=>absurd e I⟩
theorem zM.ext(h:zM w)(I:Ext w w'):zM w':=by
 obtain⟨m,h⟩:=h;refine⟨m,?_⟩;rw[cG]at h⊢;cases j:w.heap[0]? with
 |none=>rw[j]at h;cases h
 |some o=>rw[I.at j id];rw[j]at h;exact h
section
variable [HX]
theorem EM{l:Str}{K:Q0}(o:K (.pointer (some ⟨w.heap.size,0,none⟩)) (w.alloc (.stringIter (ofL l) 0))):dF P0 (Instr.range 9 (str l)) w K:=by
 have hT:Tryz.prog.underlying 9=some .string:=by kernel_rfl
 have j:(Instr.range 9 (str l)).run P0 w=.ok (.pointer (some ⟨w.heap.size,0,none⟩)) (w.alloc (.stringIter (ofL l) 0)):=by
  simp[Instr.range,run_bind,bJ hT,run_pure,newObj,Sem.run]
 unfold dF;rw[j];exact o
theorem RX{r:Nat}{o:Obj}(h:r<w.heap.size):Chg (· =r) w {w with heap:=w.heap.setIfInBounds r o}:=
 ⟨rfl,rfl,rfl,by simp,λk _ j=>by
  show(w.heap.setIfInBounds r o)[k]?=_
  rw[Array.getElem?_setIfInBounds_ne (by omega)]⟩
theorem Hf{r pos:Nat}{l:Str}{K:Q0}(I:w.heap[r]?=some (.stringIter (ofL l) pos))
  (h0:l.length<=pos->K (.tuple #[.bool false]) w)
  (h1:pos<l.length->∀w',w'.heap[r]?=some (.stringIter (ofL l) (pos+(Utf8.decode (ofL l) pos).2))->Chg (· =r) w w'->w'.heap.size=w.heap.size->K (.tuple #[.bool true,i64 pos,.int .i32 (Utf8.decode (ofL l) pos).1]) w'):
  dF P0 (Instr.next (.pointer (some ⟨r,0,none⟩)) true T) w K:=by
 have J:(getObj r).run P0 w=.ok (.stringIter (ofL l) pos) w:=by simp[getObj,Sem.run,I]
 have o:r<w.heap.size:=(Array.getElem?_eq_some_iff.1 I).1;unfold dF;simp only[Instr.next,run_bind,J,fT];by_cases hp:pos<l.length
 ·have j:(setObj r (.stringIter (ofL l) (pos+(Utf8.decode (ofL l) pos).2))).run P0 w=.ok () {w with heap:=w.heap.setIfInBounds r (.stringIter (ofL l) (pos+(Utf8.decode (ofL l) pos).2))}:=by simp[setObj,Sem.run,I]
  rw[aJ hp];simp only[run_bind,j,run_pure];exact h1 hp _ (by simp[o]) (RX o) (by simp)
 ·rw[aE hp];simp only[run_pure];exact h0 (by omega)
theorem QS{r:Str}{K:Q0}(hl:r.length<=1000000)(j:K (str (vX (c::r))) w):aC P0 78 [str (c::r)] w K:=by
 refine aCu ?_;unfold W78;unfold vX at j;refine bU.cut (λ_ w'=>w'=w/\yQ.contains ((c::r).take 2)=false) ?_ ?_
 ·rw[gC,mB,aO];refine⟨λo=>?_,λo=>⟨rfl,?_⟩⟩
  ·rw[gB,eR];refine⟨by omega,by omega,?_⟩;rw[fM,cZ];rw[show(c::r).take (Int.toNat 2)=(c::r).take 2 from rfl];generalize J:(c::r).take 2=x at j⊢;refine bU.cut (λst w'=>st=[.bool (yQ.contains x)]/\w'=w) ?_ ?_
   ·unfold yQ;simp only[List.contains_cons,List.contains_nil,Bool.or_false];have eqd:∀y:Str,decide (x=y)=(x==y):=λy=>by rw[mK];simp
    simp only[sL,eqd];generalize (x==[61,61])=a1;generalize (x==[33,61])=a2;generalize (x==[60,61])=a3;generalize (x==[62,61])=a4;generalize (x==[38,38])=a5;generalize (x==[124,124])=a6;cases a1<;>simp only[dS,cP,Ax,pJ,and_self];cases a2<;>simp only[dS,cP,Ax,pJ,and_self];cases a3<;>simp only[dS,cP,Ax,pJ,and_self];cases a4<;>simp only[dS,cP,Ax,pJ,and_self];cases a5<;>simp only[dS,cP,Ax,pJ,and_self]
   rintro st g w' ⟨rfl,rfl⟩;simp only[aG];rw[bY];refine⟨λI=>?_,λhn=>⟨trivial,hn⟩⟩;rw[aJ I]at j;rw[gB,eR];refine⟨by omega,by omega,?_⟩;rw[fM,cZ];show K (str ((c::r).take 2)) w';rw[J];exact j
  ·have:r=[]:=bC (by simp only[aB]at o;omega);subst this;simp[yQ]
 rintro _ g w' ⟨rfl,hn⟩;rw[aE (by rw[hn];decide)]at j;refine sA (s:=c::r) (i:=0) (by simp) ?_;show aC P0 68 [_,cv c] w' _;refine Fh ?_;rw[mX,aAt,bY];have j:K (str (if Cd.contains c=true then(c::r).take 1 else [])) w':=j;refine⟨λI=>?_,λI=>?_⟩
 ·rw[aJ I]at j;rw[gB,eR];refine⟨by omega,by simp only[aB];omega,?_⟩;rw[fM,cZ];exact j
 ·rw[aE (by rw[I];decide)]at j;exact j
theorem aB2{t:Str}{K:Q0}(hT:zM w)(hl:t.length<=1000000)(j:∀x w',Ext w w'->K (.tuple #[str (t.take (eS (λb=>b !=10) t)),x,.bool (decide (eS (λb=>b !=10) t<t.length))]) w'):aC P0 110 [str t,str [10]] w K:=by
 obtain⟨m,hm⟩:=hT;refine fX (args:=#[str t,str [10]]) Tryz.call110 ((Tryz.strings_Cut (ofL t) (ofL [10]) m w (by rw[fT];omega) hm).mono ?_);rintro e w' ⟨rfl,n,rfl⟩;obtain⟨h1,o⟩:=Xu t;rw[eM,eM];refine⟨_,rfl,?_⟩;rw[show(⟨(Lib.cut t [10]).1.toArray⟩:ByteArray)=ofL (t.take (eS (λb=>b !=10) t))from by rw[h1];rfl,o];refine j _ _ ?_;exact⟨rfl,rfl,rfl,aV _,λ_ _ _=>rfl⟩
theorem TY{t:Str}{K:Q0}(hl:t.length<=1000000)(o:∀w',Ext w w'->K (str (t.drop (eS (λb=>b==32||b==9) t))) w'):aC P0 111 [str t,str [32,9]] w K:=by
 refine fX (args:=#[str t,str [32,9]]) Tryz.call111 ((Tryz.strings_TrimLeft_laid (ofL t) (ofL [32,9]) w (by rw[fT];decide) (λj b hb=>?_)).mono ?_)
 ·rw[eM]at hb;have:=bG hb;simp only[bM,eA,mO]at this;rcases this with rfl|rfl<;>decide
 rintro e w' ⟨rfl,hb⟩;rw[eM,eM,QD];exact⟨_,rfl,o w' (Chg.of_below hb)⟩
end
end
end Go.Proofs.YtghhmpppnmoeoaaGreatDoor
