/- One plain sentence: contracts and plain laws that the claim rests on. Conditions: those that each states. -/
import Derived.Test.YtghhmpppnmoeoaaGreatDoorXLazy3
set_option linter.all false
set_option linter.unusedSimpArgs false
set_option linter.unusedVariables false
set_option linter.unusedSectionVars false
set_option maxRecDepth 100000
namespace Go.Syn
section
open Go Go.Eng Go.Lex
variable{w:World}{K:Q0}{cs:List Value}{G:Nat->Prop}{T:TypeId}{i:Nat}{n:Nat}{v:Value}{w':World}{P:Program}{c:UInt8}{S:Nat->Prop}
def rQ:Str->Bool
 |[]=>true
 |[c]=>c !=92
 |c::e::r=>if c=92 then rQ r else rQ (e::r)
theorem Oj{r:Str}(hc:c≠92)(h:rQ r=true):rQ (c::r)=true:=by
 cases r with
 |nil=>simp[rQ,hc]
 |cons e r=>simp only[rQ];rw[aE hc];exact h
theorem Dw:∀(n:Nat) (t:Str),t.length<=n->noD t=true->rQ t=true
 |_,[],_,_=>rfl
 |_,[c],_,h=>by simp only[noD,aL]at h;exact h.1
 |0,c::e::r,h,_=>by simp at h
 |n+1,c::e::r,h,hd=>by
  simp only[noD]at hd
  simp only[aB]at h
  simp only[rQ]
  split at hd
  ·rename_i hc
   rw[aJ hc]
   exact Dw n r (by omega) hd
  ·rename_i hc
   rw[aE hc]
   simp only[aL]at hd
   exact Dw n (e::r) (by simp only[aB];omega) hd.2
theorem rJ{c':UInt8}{r r':Str}{k:Nat}(h:(c'::r').take (k+1)=(c::r).take (k+1)):c'=c/\r'.take k=r.take k:=by
 simp only[pG,eF]at h;exact h
theorem mV{r r':Str}{k j m:Nat}(h:r'.take k=r.take k)(hk:j+m<=k):(r'.drop j).take m=(r.drop j).take m:=by
 have e:∀s:Str,(s.drop j).take m=((s.take k).drop j).take m:=λs=>by
  rw[List.drop_take,zO,kA (by omega)]
 rw[e r',e r,h]
theorem IK{x x':UInt8}{r r':Str}(h:x=x'):pH [36,123] (c::x::r)=pH [36,123] (c::x'::r'):=by
 subst h;simp[pH,List.isPrefixOf]
theorem KD:∀(N:Nat) (r r':Str),r.length<=N->
  (∀d k,gG r d=(k,0)->r'.take k=r.take k->k<=r'.length->gG r' d=(k,0))/\
  (∀d k,jW r d=(k,0)->r'.take k=r.take k->k<=r'.length->jW r' d=(k,0)):=by
 intro N;induction N with
 |zero=>
  intro r r' hr;have:r=[]:=bG (by omega);subst this;exact⟨λd k h=>(by rw[pO]at h;cases h),λd k h=>(by rw[DU]at h;cases h)⟩
 |succ N ih=>
  intro r r' hr;cases r with
  |nil=>exact ih [] r' (by simp)
  |cons c r=>
   simp only[aB]at hr;have hr:r.length<=N:=by omega
   have sh:∀{k:Nat},1<=k->r'.take k=(c::r).take k->k<=r'.length->∃r2,r'=c::r2/\r2.take (k-1)=r.take (k-1)/\k-1<=r2.length:=λ{k} hk ht hl=>by
    cases r' with
    |nil=>simp at hl;omega
    |cons c' r2=>
     obtain⟨j,rfl⟩:∃j,k=j+1:=⟨k-1,by omega⟩;obtain⟨rfl,h2⟩:=rJ ht;exact⟨r2,rfl,h2,by simpa using hl⟩
   refine⟨λd k h ht hl=>?_,λd k h ht hl=>?_⟩
   ·have hk:=((jC _ (c::r) (aS _)).1 d k h).2.1;obtain⟨r2,rfl,h2,hl2⟩:=sh hk ht hl;rw[pP]at h⊢;simp only[fO]at h⊢;split at h
    ·rename_i e;rw[aJ e];exact h
    rename_i e;rw[aE e];split at h
    ·cases h
    rename_i e1;rw[aE e1];split at h
    ·rename_i e2;rw[aJ e2];cases r with
     |nil=>cases h
     |cons x rr=>
      simp only at h;split at h
      ·rename_i e3;obtain⟨g1,g2⟩:=lY h;have gk:=((jC _ rr (aS _)).1 d _ g1).2.1;cases r2 with
       |nil=>simp at hl2;omega
       |cons x' rr'=>
        obtain⟨j,rfl⟩:∃j,k=j+2:=⟨k-2,by omega⟩;rw[show j+2-1=j+1 by omega]at h2 hl2;obtain⟨rfl,h3⟩:=rJ h2;simp only[aJ e3];have:=(ih rr rr' (by simp at hr;omega)).1 d j (by simpa using g1) h3 (by simpa using hl2);rw[this];unfold mS;simp
      ·cases h
    rename_i e2;rw[aE e2];split at h
    ·rename_i e3;split at h
     ·cases h
     rename_i e24;split at h
     ·rename_i e4;obtain⟨g1,g2⟩:=lY h;have gk:=((jC _ _ (aS _)).1 d _ g1).2;have gi:=((jC _ (r.drop 1) (aS _)).2 (d+1) _ (fU rfl e4)).1;cases r with
      |nil=>simp[pH]at e3
      |cons x rr=>
       cases r2 with
       |nil=>simp at hl2;omega
       |cons x' rr'=>
        obtain⟨j,rfl⟩:∃j,k=j+2:=⟨k-2,by omega⟩;rw[show j+2-1=j+1 by omega]at h2 hl2;obtain⟨rfl,h3⟩:=rJ h2;simp only[cQ,cV]at g1 gk gi e4⊢;have hl3:j<=rr'.length:=by simpa using hl2
        have hp:pH [36,123] (c::x'::rr')=true:=by rw[IK (r':=rr) rfl];exact e3
        have hrr:rr.length<=N:=by simp at hr;omega
        have hi:=(ih rr rr' hrr).2 (d+1) (jW rr (d+1)).1 (fU rfl e4) (by have:=mV (j:=0) (m:=(jW rr (d+1)).1) h3 (by omega);simpa using this) (by omega);rw[aJ hp,aE e24,hi];simp only;have ht:=(ih (rr.drop (jW rr (d+1)).1) (rr'.drop (jW rr (d+1)).1) (kN _ hrr)).1 d _ g1 (mV h3 (by omega)) (by rw[aQ];omega);rw[ht];unfold mS;simp;omega
     ·rename_i e4;injection h with _ h2
      exact absurd h2 e4
    ·rename_i e3;obtain⟨g1,g2⟩:=lY h;have gk:=((jC _ _ (aS _)).1 d _ g1).2;have hp:¬pH [36,123] (c::r2)=true:=by
      cases r with
      |nil=>rw[pO]at g1;exact absurd (congrArg Prod.snd g1) (by simp)
      |cons x rr=>
       cases r2 with
       |nil=>simp at hl2;omega
       |cons x' rr'=>
        obtain⟨j,hj⟩:∃j,k-1=j+1:=⟨k-2,by omega⟩;rw[hj]at h2;obtain⟨rfl,_⟩:=rJ h2;rw[IK (r':=rr) rfl];exact e3
     rw[aE hp];have:=(ih r r2 hr).1 d (k-1) g1 h2 hl2;rw[this];unfold mS;simp;omega
   ·have hk:=((jC _ (c::r) (aS _)).2 d k h).1.1;obtain⟨r2,rfl,h2,hl2⟩:=sh hk ht hl;rw[BD]at h⊢;simp only[fO]at h⊢;split at h
    ·rename_i e;rw[aJ e];exact h
    rename_i e;rw[aE e];split at h
    ·cases h
    rename_i e1;rw[aE e1];split at h
    ·rename_i e2;rw[aJ e2];split at h
     ·cases h
     rename_i e24;rw[aE e24];split at h
     ·rename_i e4;obtain⟨g1,g2⟩:=lY h;have gk:=((jC _ _ (aS _)).2 d _ g1).1;have hi:=(ih r r2 hr).2 (d+1) (jW r (d+1)).1 (fU rfl e4) (by have:=mV (j:=0) (m:=(jW r (d+1)).1) h2 (by omega);simpa using this) (by omega);rw[hi];simp only[gM];have ht:=(ih (r.drop (jW r (d+1)).1) (r2.drop (jW r (d+1)).1) (kN _ hr)).2 d _ g1 (mV h2 (by omega)) (by rw[aQ];omega);rw[ht];unfold mS;simp;omega
     ·rename_i e4;injection h with _ h2
      exact absurd h2 e4
    rename_i e2;rw[aE e2];split at h
    ·rename_i e3;rw[aJ e3];split at h
     ·rename_i e4;obtain⟨g1,g2⟩:=lY h;have gk:=((jC _ _ (aS _)).2 d _ g1).1;have hi:=(ih r r2 hr).1 d (gG r d).1 (fU rfl e4) (by have:=mV (j:=0) (m:=(gG r d).1) h2 (by omega);simpa using this) (by omega);rw[hi];simp only[gM];have ht:=(ih (r.drop (gG r d).1) (r2.drop (gG r d).1) (kN _ hr)).2 d _ g1 (mV h2 (by omega)) (by rw[aQ];omega);rw[ht];unfold mS;simp;omega
     ·rename_i e4;injection h with _ h2
      exact absurd h2 e4
    ·rename_i e3;rw[aE e3];obtain⟨g1,g2⟩:=lY h;have:=(ih r r2 hr).2 d (k-1) g1 h2 hl2;rw[this];unfold mS;simp;omega
def Scd(t:Str):Prop:=∃d,gG (t++[34]) d=(t.length+1,0)
theorem Pn{r:Str}{d k:Nat}(h:gG r d=(k,0))(hl:∀b,r[k-1]?=some b->b=34):Scd (r.take (k-1)):=by
 obtain⟨_,h1,h2⟩:=(jC _ r (aS _)).1 d k h;obtain⟨j,rfl⟩:∃j,k=j+1:=⟨k-1,by omega⟩;rw[EN]at hl⊢;have e1:(r.take j).length=j:=by rw[bU];omega
 have hlt:j<r.length:=by omega
 have e2:r.take j++[34]=r.take (j+1):=by
  have:=hl _ (List.getElem?_eq_getElem hlt);rw[dH,List.getElem?_eq_getElem hlt,this];rfl
 refine⟨d,?_⟩;rw[e2,e1];exact(KD _ r (r.take (j+1)) (aS _)).1 d (j+1) h (by rw[zO,Nat.min_self]) (by rw[bU];omega)
theorem xJ:∀(N:Nat) (r:Str) (d k:Nat),r.length<=N->gG r d=(k,0)->r[k-1]?=some 34
 |0,r,d,k,hr,h=>by
  have:r=[]:=bG (by omega)
  subst this
  rw[pO]at h;cases h
 |N+1,[],d,k,_,h=>by rw[pO]at h;cases h
 |N+1,c::r,d,k,hr,h=>by
  simp only[aB]at hr
  have hr:r.length<=N:=by omega
  rw[pP]at h
  simp only[fO]at h
  split at h
  ·rename_i e
   injection h with h1 _
   subst h1 e
   rfl
  split at h
  ·cases h
  split at h
  ·cases r with
   |nil=>cases h
   |cons x rr=>
    simp only at h
    split at h
    ·obtain⟨g1,g2⟩:=lY h
     have gk:=((jC _ rr (aS _)).1 d _ g1).2.1
     have:=xJ N rr d _ (by simp at hr;omega) g1
     rw[show k-1=(k-2-1)+2 by omega]
     exact this
    ·cases h
  split at h
  ·rename_i e3
   split at h
   ·cases h
   split at h
   ·obtain⟨g1,g2⟩:=lY h
    have gk:=((jC _ _ (aS _)).1 d _ g1).2.1
    have:=xJ N _ d _ (kN _ (kN 1 hr)) g1
    rw[List.getElem?_drop,List.getElem?_drop]at this
    rw[show k-1=1+((jW (r.drop 1) (d+1)).1+(k-((jW (r.drop 1) (d+1)).1+2)-1))+1 by omega]
    exact this
   ·rename_i e4
    injection h with _ h2
    exact absurd h2 e4
  ·obtain⟨g1,g2⟩:=lY h
   have gk:=((jC _ r (aS _)).1 d _ g1).2.1
   have:=xJ N r d _ hr g1
   rw[show k-1=(k-1-1)+1 by omega]
   exact this
theorem GN:∀(N:Nat) (t:Str),t.length<=N->Scd t->(insP t=none->rQ t=true)/\∀i e,insP t=some (i,e)->rQ (t.take i)=true/\i+3<=e/\e<=t.length/\Scd (t.drop e)
 |_,[],_,_=>⟨λ_=>rfl,λi e h=>by simp[insP]at h⟩
 |0,_::_,h,_=>by simp at h
 |N+1,[c],_,⟨d,h⟩=>by
  refine⟨λ_=>?_,λi e h=>by simp[insP]at h⟩
  simp only[rQ,bne_iff_ne,bL]
  intro e
  subst e
  simp only[dA,fF]at h
  rw[pP]at h
  simp[Lex.escOk,mS,pO]at h
 |N+1,c::x::r,hN,⟨d,h⟩=>by
  simp only[aB]at hN
  simp only[dA]at h
  rw[pP]at h
  simp only[fO]at h
  split at h
  ·injection h with h1 _
   simp at h1
  split at h
  ·cases h
  simp only[insP,rQ]
  split at h
  ·rename_i e92
   rw[aJ e92,aJ e92]
   split at h
   ·obtain⟨g1,g2⟩:=lY h
    have sr:Scd r:=⟨d,by rw[g1];simp⟩
    obtain⟨i1,i2⟩:=GN N r (by omega) sr
    refine⟨λhn=>i1 (by cases hr:insP r with|none=>rfl|some y=>rw[hr]at hn;cases hn),λi e hi=>?_⟩
    cases hr:insP r with
    |none=>rw[hr]at hi;cases hi
    |some y=>
     rw[hr]at hi
     simp only[gF,bE,fZ]at hi
     obtain⟨rfl,rfl⟩:=hi
     obtain⟨j1,j2,j3,j4⟩:=i2 _ _ hr
     refine⟨?_,by omega,by simp only[aB];omega,by rw[show y.2+2=y.2+1+1 by omega,cQ,cQ];exact j4⟩
     rw[show y.1+2=y.1+1+1 by omega,pG,pG]
     simp only[rQ]
     rw[aJ e92]
     exact j1
   ·cases h
  rename_i e92
  rw[aE e92,aE e92]
  split at h
  ·rename_i e3
   have hc:c=36/\x=123:=by
    simp[pH,List.isPrefixOf]at e3;exact⟨e3.1.symm,e3.2.symm⟩
   rw[aJ hc];refine⟨λhn=>(by cases hn),λi e hi=>?_⟩;simp only[bE,fZ]at hi;obtain⟨rfl,rfl⟩:=hi;split at h
   ·cases h
   split at h
   ·rename_i e4;simp only[cQ,cV]at h e4;obtain⟨k1,e5⟩:∃k1,jW (r++[34]) (d+1)=(k1,0):=⟨_,fU rfl e4⟩;simp only[e5]at h;obtain⟨g1,g2⟩:=lY h;have gk:=((jC _ _ (aS _)).1 d _ g1).2;have gi:=((jC _ (r++[34]) (aS _)).2 (d+1) _ e5).1;simp only[aB]at g1 gk g2;have hle:k1<=r.length:=by omega
    have hs:=(KD _ (r++[34]) r (aS _)).2 (d+1) _ e5 (by rw[qE hle]) hle;have hb:=((jC _ r (aS _)).2 (d+1) _ hs).2 1 (by omega);rw[aJ rfl]at hb;have eb:Kb (x::r)=1+k1:=by
     show qC (x::r) 0=_;rw[oO,aJ hc.2,show(0:Int)+1=1 from rfl,hb]
    rw[eb];refine⟨rfl,by omega,by simp only[aB];omega,?_⟩;rw[show 1+(1+k1)=k1+1+1 by omega,cQ,cQ];refine⟨d,?_⟩;rw[<-BY hle,g1,aQ];simp only[fZ,kX];omega
   ·rename_i e4;injection h with _ h2
    exact absurd h2 e4
  ·rename_i e3;have hc:¬(c=36/\x=123):=λe=>e3 (by simp[pH,List.isPrefixOf,e.1,e.2]);rw[aE hc];obtain⟨g1,g2⟩:=lY h;have sr:Scd (x::r):=⟨d,by simp only[dA];rw[g1];simp⟩;obtain⟨i1,i2⟩:=GN N (x::r) (by simp only[aB];omega) sr;refine⟨λhn=>i1 (by cases hr:insP (x::r)with|none=>rfl|some y=>rw[hr]at hn;cases hn),λi e hi=>?_⟩;cases hr:insP (x::r)with
   |none=>rw[hr]at hi;cases hi
   |some y=>
    rw[hr]at hi;simp only[gF,bE,fZ]at hi;obtain⟨rfl,rfl⟩:=hi;obtain⟨j1,j2,j3,j4⟩:=i2 _ _ hr;refine⟨?_,by omega,by simp only[aB]at j3⊢;omega,by rw[cQ];exact j4⟩;rw[pG];exact Oj e92 j1
def EL(t:Str):Prop:=noD t=true\/Scd t
theorem Ky{t:Str}(h:EL t):(insP t=none->rQ t=true)/\∀i e,insP t=some (i,e)->rQ (t.take i)=true/\i+3<=e/\e<=t.length/\EL (t.drop e):=by
 rcases h with h|h
 ·exact⟨λ_=>Dw _ t (aS _) h,λi e hi=>by rw[CJ _ t (aS _) h]at hi;cases hi⟩
 ·obtain⟨h1,h2⟩:=GN _ t (aS _) h;exact⟨h1,λi e hi=>by obtain⟨a,b,c,d⟩:=h2 i e hi;exact⟨a,b,c,.inr d⟩⟩
def TS(l:List Tok):Prop:=∀t∈l,t.k=3->EL t.t/\t.t.length<=100000
theorem vS:∀s:Str,(kF s).length<=2*s.length
 |[]=>aS _
 |c::r=>by
  have:=vS r
  simp only[kF]
  split
  ·simp only[aB];omega
  split
  ·simp only[aB];omega
  split
  ·simp only[aB];omega
  ·simp only[aB];omega
theorem FS:∀(n:Nat) (name s:Str),(mA n name s).1.length<=2*s.length
 |0,_,_=>by simp[mA]
 |n+1,name,s=>by
  have hr:=qS (λb=>b !=10) s
  simp only[mA]
  split
  ·simp
  split
  ·simp
  rename_i hlen
  split
  ·have h1:=FS n name (s.drop (eK (λb=>b !=10) s+1))
   have h2:=vS (s.take (eK (λb=>b !=10) s))
   rw[aQ]at h1
   rw[bU]at h2
   simp only[aX,aB,aM]
   omega
  ·simp
theorem Jr(s:Str):(iI s).1.length<=2*s.length:=by
 unfold iI;simp only;generalize (if jH ((s.drop 2).headD 0)=true then eK jL (s.drop 2)else 0)=n;split
 ·simp
 split
 ·have h1:=FS (s.length+1) ((s.drop 2).take n) (s.drop (2+n+1));rw[aQ]at h1;split
  ·show(mA (s.length+1) ((s.drop 2).take n) (s.drop (2+n+1))).1.length<=_;omega
  ·simp
 ·simp
theorem aAL{s:Str}{t:Tok}{k:Nat}(h:oW s=(t,k,0))(hk:t.k=3):EL t.t/\t.t.length<=2*s.length:=by
 unfold oW at h;simp only at h;split at h
 ·injection h with h1 _;subst h1;cases hk
 split at h
 ·injection h with h1 _;subst h1;cases hk
 split at h
 ·injection h with h1 _;subst h1;cases hk
 split at h
 ·split at h
  ·rename_i hq he;injection h with h1 _
   subst h1;have hx:oI (s.length+1) (s.drop 1) 0=gG (s.drop 1) 0:=tN (by rw[aQ];omega);rw[hx]at he⊢;refine⟨.inr (Pn (d:=0) (fU rfl he) λb hb=>?_),by simp only[bU,aQ];omega⟩;rw[xJ _ (s.drop 1) 0 _ (aS _) (fU rfl he)]at hb;injection hb with hb
   exact hb.symm
  ·rename_i he;injection h with h1 h2
   injection h2 with _ h2
   exact absurd h2 he
 split at h
 ·injection h with h1 h2
  injection h2 with h2 h3
  obtain⟨i1,i2,i3⟩:=DX (s:=s) (t:=(iI s).1) (k:=(iI s).2.1) (fU rfl (fU rfl h3));subst h1;exact⟨.inl i3,Jr s⟩
 ·injection h with h1 _;subst h1;cases hk
theorem It:∀(n:Nat) (s:Str) (a cnt:Nat) (l:List Tok),s.length<=16384->nC n s a cnt=.ok l->TS l
 |0,_,_,_,_,_,h=>by simp[nC]at h
 |n+1,s,a,cnt,l,hl,h=>by
  simp only[nC]at h
  split at h
  ·cases h
  split at h
  ·injection h with h
   subst h
   intro t ht hk
   simp only[bP]at ht
   subst ht
   cases hk
  split at h
  ·cases h
  rename_i ho
  split at h
  ·cases h
  split at h
  ·rename_i l' hl'
   injection h with h
   subst h
   intro t ht hk
   rcases bQ.1 ht with rfl|ht
   ·have h1:=aAL (t:=(oW (s.drop (fQ (s.length+1) s).1)).1) (k:=(oW (s.drop (fQ (s.length+1) s).1)).2.1) (fU rfl (fU rfl (sD.1 ho))) hk
    rw[aQ]at h1
    exact⟨h1.1,by simp only;omega⟩
   ·exact It n _ _ _ _ (by rw[aQ,aQ];omega) hl' t ht hk
  ·rename_i hne
   exact absurd h (hne l)
theorem Me{s:Str}{l:List Tok}(h:qH s=.ok l):TS l:=by
 unfold qH at h;split at h
 ·cases h
 rename_i hl;split at h
 ·cases h
 exact It _ _ _ _ _ (by omega) h
theorem Fh:∀(n:Nat) (s:Str) (a cnt:Nat) (l:List Tok),cnt<=4096->nC n s a cnt=.ok l->cnt+l.length<=4097
 |0,_,_,_,_,_,h=>by simp[nC]at h
 |n+1,s,a,cnt,l,hc,h=>by
  simp only[nC]at h
  split at h
  ·cases h
  split at h
  ·injection h with h
   subst h
   simp only[aB,aM];omega
  split at h
  ·cases h
  split at h
  ·cases h
  rename_i hne
  split at h
  ·rename_i l' hl'
   injection h with h
   subst h
   have:=Fh n _ _ _ _ (by omega) hl'
   simp only[aB];omega
  ·rename_i hne
   exact absurd h (hne l)
theorem Iq{s:Str}{l:List Tok}(h:qH s=.ok l):l.length<=4097/\s.length<=16384:=by
 unfold qH at h;split at h
 ·cases h
 rename_i hl;split at h
 ·cases h
 have:=Fh _ _ _ _ _ (gA _) h;omega
end
end Go.Syn
namespace Go.Proofs.YtghhmpppnmoeoaaGreatDoor
section
open Go Go.Eng Go.RowKit Go.Syn Go.Lex
variable{w:World}{K:Q0}{cs:List Value}{G:Nat->Prop}{T:TypeId}{i:Nat}{n:Nat}{v:Value}{w':World}{P:Program}{c:UInt8}{S:Nat->Prop}
theorem VQ{B b:Nat}{l:Str}(h:Bld w B b l):Lib.IsBuilderF BdT U8 B b (Lib.byteCells l) w:=by
 obtain⟨p,v,h1,h2,h3,h4⟩:=h;have hO:w.ownsRow B U8 1 v (u8s l).length (u8s l):=by rw[mH];exact h3
 have:Lib.BuilderAt BdT U8 B b p (u8s l) w:=⟨h4,v,h1,hO,λe=>Ke h1 (h3.block b e)⟩;rcases h2 with rfl|rfl
 ·exact .inl (Lib.BuilderAtF.of this)
 ·exact .inr (Lib.BuilderAtF.of this)
theorem jR[HX]{g:FuncId}{args caps:List Value}{K:Q0}(h:aC P g (args++caps) w K):oN P (.func (.func g) #[] caps.toArray) args w K:=by
 unfold oN Pm;unfold aC at h;have:(do let d<-(Deferred.ofValue (.func (.func g) #[] caps.toArray) args.toArray);invoke d.target d.args:Sem Next)=callFunc g (args++caps).toArray:=by
  show callFunc g (#[]++args.toArray++caps.toArray)=_;simp
 rw[this];exact h
theorem iR{s:Str}(h:i<s.length):s.drop i=s[i]::s.drop (i+1):=cA h
theorem pre_eq(s:Str):Lib.hasPrefix s [36,123]=pH [36,123] s:=rfl
section
variable [HX]
theorem BU{B b:Nat}{l:Str}{K:Q0}(h:Bld w B b l)(hB:B<=w.heap.size)(hK:∀w',Chg (λk=>B<=k) w w'->K (str l) w'):aC P0 64 [.pointer (some ⟨b,0,none⟩)] w K:=by
 refine gX (args:=#[.pointer (some ⟨b,0,none⟩)]) Tryz.call64 ((Tryz.Builder_String_any_k B b l w (VQ h) hB).mono ?_);rintro e w' ⟨rfl,_,hb,_⟩;exact⟨_,rfl,hK w' ⟨hb.os,hb.tape,hb.output,hb.size,λk _ hn=>hb.block k (by omega)⟩⟩
theorem Ap{s q:Str}{K:Q0}(hK:K (.bool (Lib.hasPrefix s q)) w):aC P0 43 [str s,str q] w K:=by
 refine gX (args:=#[str s,str q]) Tryz.call43 ((Tryz.strings_HasPrefix (ofL s) (ofL q) w).mono ?_);rintro e w' ⟨rfl,rfl⟩;rw[eO,eO];exact⟨_,rfl,hK⟩
theorem rH{s:Str}{K:Value->Prop}(h:i<s.length)(hK:K (.int .u8 (s[i].toNat:Nat))):pI (str s) (i64 (i:Nat)) K:=by
 rw[Hk];exact⟨by omega,s[i],by simpa using List.getElem?_eq_getElem h,hK⟩
theorem EV(c:UInt8)(k:Nat)(hk:k<256):decide (((c.toNat:Nat):Int)=(k:Int))=decide (c=UInt8.ofNat k):=by
 rw[decide_eq_decide];constructor
 ·intro h;have h:c.toNat=k:=by omega
  rw[<-h];simp
 ·intro h;subst h;rw[iK];omega
theorem KJ{s:Str}{K:Q0}(he:rQ s=true)(hl:s.length<=1000000)(hK:∀w',Ext w w'->K (str (kD s)) w'):aC P0 80 [str s] w K:=by
 refine aBz ?_;unfold W80;refine aBb (B:=w.heap.size) (aS _) λb w1 hb hB1 hx1=>?_;have hz1:=hx1.size;refine cZ.go (λst w'=>∃i out,st=[i64 (i:Nat)]/\i<=s.length/\Bld w' w.heap.size b out/\Ext w w'/\out++kD (s.drop i)=kD s/\out.length<=i/\rQ (s.drop i)=true) (λst _=>match st with|[.int _ i]=>s.length-i.toNat|_=>0)
  ⟨0,[],rfl,by omega,hB1,hx1,rfl,aS _,he⟩ ?_
 rintro st g w2 ⟨i,out,rfl,hi,hB2,hx2,hs,ho,hes⟩;have hz2:=hx2.size;simp only[aG];rw[fX,eC,aO];have fin:∀{w3:World} {l:Str} {j:Nat} (c:UInt8),Chg (BCh w2 w.heap.size b) w2 w3->Bld w3 w.heap.size b (out++[c])->i<=j->j<s.length->(out++[c])++kD (s.drop (j+1))=kD s->rQ (s.drop (j+1))=true->
   (∃i' out',[i64 ((j+1:Nat))]=[i64 (i':Nat)]/\i'<=s.length/\Bld w3 w.heap.size b out'/\Ext w w3/\out'++kD (s.drop i')=kD s/\out'.length<=i'/\rQ (s.drop i')=true)/\s.length-((j+1:Nat):Int).toNat<s.length-((i:Nat):Int).toNat:=λ{w3 l j} c hc hB3 hij hj he1 he2=>by
  refine⟨⟨j+1,out++[c],rfl,by omega,hB3,BCh.new hx2 (aS _) (by omega) hc,he1,by simp;omega,he2⟩,?_⟩;simp only[aW];omega
 refine⟨λhlt=>?_,λhge=>?_⟩
 ·have hlt:i<s.length:=by omega
  refine rH hlt ?_;have hd:=iR hlt;have he0:=hes;rw[hd]at hes hs;refine bS.cut (λst w'=>w'=w2/\∃(j:Nat) (c:UInt8),st=[i64 (j:Nat),.int .u8 (c.toNat:Nat)]/\i<=j/\j<s.length/\(out++[c])++kD (s.drop (j+1))=kD s/\rQ (s.drop (j+1))=true) ?_ ?_
  ·rw[bM,aO];refine⟨λe=>?_,λe=>?_⟩
   ·have ec:s[i]=92:=jZ.1 (by have e:(s[i].toNat:Int)=92:=e;show s[i].toNat=92;omega);have hlt2:i+1<s.length:=by
     by_cases h2:i+1<s.length
     ·exact h2
     ·rw[fB (by omega),ec]at hes;simp[rQ]at hes
    have hd2:=iR hlt2;rw[hd2,ec]at hes hs;simp only[rQ,gM]at hes;simp only[kD,gM]at hs;rw[cC,upi (by omega)];refine rH hlt2 ?_;rw[bM,aO];refine⟨λe1=>?_,λe1=>?_⟩
    ·have e1:s[i+1]=110:=jZ.1 (by have e:(s[i+1].toNat:Int)=110:=e1;show s[i+1].toNat=110;omega);rw[aJ e1]at hs;exact⟨rfl,i+1,10,rfl,by omega,hlt2,by rw[<-hs];simp,hes⟩
    have e1':s[i+1]≠110:=λh=>e1 (by rw[h];rfl);rw[bM,aO];rw[aE e1']at hs;refine⟨λe2=>?_,λe2=>?_⟩
    ·have e2:s[i+1]=116:=jZ.1 (by have e:(s[i+1].toNat:Int)=116:=e2;show s[i+1].toNat=116;omega);rw[aJ e2]at hs;exact⟨rfl,i+1,9,rfl,by omega,hlt2,by rw[<-hs];simp,hes⟩
    have e2':s[i+1]≠116:=λh=>e2 (by rw[h];rfl);rw[bM,aO];rw[aE e2']at hs;refine⟨λe3=>?_,λe3=>?_⟩
    ·have e3:s[i+1]=114:=jZ.1 (by have e:(s[i+1].toNat:Int)=114:=e3;show s[i+1].toNat=114;omega);rw[aJ e3]at hs;exact⟨rfl,i+1,13,rfl,by omega,hlt2,by rw[<-hs];simp,hes⟩
    have e3':s[i+1]≠114:=λh=>e3 (by rw[h];rfl);rw[aE e3']at hs;exact⟨rfl,i+1,s[i+1],rfl,by omega,hlt2,by rw[<-hs];simp,hes⟩
   ·have ec:s[i]≠92:=λh=>e (by rw[h];rfl);refine⟨rfl,i,s[i],rfl,aS _,hlt,?_,?_⟩
    ·rw[<-hs];cases hr:s.drop (i+1)with
     |nil=>simp only[kD];rw[aE ec];simp
     |cons x r=>simp only[kD];rw[aE ec];simp
    ·cases hr:s.drop (i+1)with
     |nil=>rfl
     |cons x r=>rw[hr]at hes;simp only[rQ]at hes;rw[aE ec]at hes;exact hes
  rintro st g2 w3 ⟨rfl,j,c,rfl,hij,hj,he1,he2⟩;simp only[aG,dE];refine CG (n:=c.toNat) hB2 hz2 (by omega) (pJ c) λw4 hB4 hc4=>?_;rw[cC,upi (by omega)];rw[sC]at hB4;exact fin (l:=[]) c hc4 hB4 hij hj he1 he2
 ·obtain rfl:i=s.length:=by omega
  rw[dR]at hs;simp only[kD,dV]at hs;subst hs;refine BU hB2 hz2 λw3 hc3=>?_;exact hK w3 (hx2.then hc3 λk hk e=>by omega)
end
theorem fV(s:Str)(i j:Nat):(s.drop i).drop j=s.drop (i+j):=gT
section
variable [HX]
def aCt(n:Nat):Prop:=∀(s:Str) (w:World) (K:Q0),s.length<=n->s.length<=1000000->K (i64 (qC s 0:Nat)) w->aC P0 112 [str s] w K
def XR(n:Nat):Prop:=∀(c:UInt8) (r:Str) (w:World) (K:Q0),r.length<n->r.length<=1000000->K (i64 ((1+sJ r:Nat):Int)) w->aC P0 150 [str (c::r)] w K
theorem Ka(hq:XR n):aCt n:=by
 intro s w K hn hl hK;refine XH ?_;unfold aEu;refine cZ.go (λst w'=>∃(d:Int) (i:Nat),st=[i64 d,i64 (i:Nat)]/\i<=s.length/\w'=w/\i+qC (s.drop i) d=qC s 0/\-(i:Int)<=d/\d<=i) (λst _=>match st with|[_,.int _ i]=>s.length-i.toNat|_=>0) ⟨0,0,rfl,by omega,rfl,by simp,by omega,by omega⟩ ?_;rintro st g w2 ⟨d,i,rfl,hi,rfl,hb,hd1,hd2⟩;simp only[aG,dE];rw[fX,eC,aO];refine⟨λhlt=>?_,λhge=>?_⟩
 ·have hlt:i<s.length:=by omega
  have hd:=iR hlt;rw[hd,oO]at hb;have cond:∀(k:Nat),k<256->(((s[i].toNat:Nat):Int)=(k:Int)↔s[i]=UInt8.ofNat k):=λk hk=>by
   have:=EV s[i] k hk;rwa[decide_eq_decide]at this
  refine bS.cut (λst w'=>w'=w2/\∃(d':Int) (j:Nat),st=[i64 d',i64 (j:Nat)]/\i<=j/\j<s.length/\j+1+qC (s.drop (j+1)) d'=qC s 0/\-((j+1:Nat):Int)<=d'/\d'<=((j+1:Nat):Int)) ?_ ?_
  ·refine rH hlt ?_;rw[bM,aO];refine⟨λe=>?_,λe=>?_⟩
   ·have e:s[i]=123:=(cond 123 (by omega)).1 e;rw[aJ e]at hb;rw[cC,cN (by omega) (by omega)];exact⟨rfl,d+1,i,rfl,aS _,hlt,by omega,by omega,by omega⟩
   have e:¬s[i]=123:=λh=>e ((cond 123 (by omega)).2 h);rw[aE e]at hb;rw[bM,aO];refine⟨λe=>?_,λe=>?_⟩
   ·have e:s[i]=125:=(cond 125 (by omega)).1 e;rw[aJ e]at hb;rw[mB,cN (by omega) (by omega),bM,aO];refine⟨λh0=>?_,λh0=>?_⟩
    ·rw[aJ h0]at hb;rw[cC,upi (by omega),hb];exact hK
    ·rw[aE h0]at hb;exact⟨rfl,d-1,i,rfl,aS _,hlt,by omega,by omega,by omega⟩
   have e:¬s[i]=125:=λh=>e ((cond 125 (by omega)).2 h);rw[aE e]at hb;rw[bM,aO];refine⟨λe=>?_,λe=>?_⟩
   ·have e:s[i]=34:=(cond 34 (by omega)).1 e;rw[aJ e]at hb;rw[gH,fI,eX];refine⟨by omega,by omega,?_⟩;rw[bO,aW,hd];refine hq _ _ _ _ (by rw[aQ];omega) (by rw[aQ];omega) ?_;have hle:=(Yu _ (s.drop (i+1)) (aS _)).2;rw[aQ]at hle;rw[mB,cN (by omega) (by omega),cC,cN (by omega) (by omega)];rw[fV]at hb;refine⟨rfl,d,i+sJ (s.drop (i+1)),?_,by omega,?_,?_,by omega,by omega⟩
    ·simp only[eF,Value.int.injEq,dM,kX];omega
    ·omega
    ·rw[show i+sJ (s.drop (i+1))+1=i+1+sJ (s.drop (i+1))by omega];omega
   have e:¬s[i]=34:=λh=>e ((cond 34 (by omega)).2 h);rw[aE e]at hb;exact⟨rfl,d,i,rfl,aS _,hlt,by omega,by omega,by omega⟩
  rintro st g2 w3 ⟨rfl,d',j,rfl,hij,hj,hb',h1,h2⟩;simp only[aG,dE];rw[cC,upi (by omega)];refine⟨⟨d',j+1,rfl,by omega,trivial,by omega,by omega,by omega⟩,?_⟩;simp only[aW];omega
 ·obtain rfl:i=s.length:=by omega
  rw[dR,RE]at hb;rw[<-hb]at hK;exact hK
theorem Pz(hbr:aCt n):XR (n+1):=by
 intro c r w K hn hl hK;refine Xg ?_;unfold aD5;have hlen:(c::r).length=r.length+1:=rfl;refine cZ.go (λst w'=>∃(i:Nat),st=[i64 ((i+1:Nat):Int)]/\w'=w/\((i<=r.length/\i+sJ (r.drop i)=sJ r)\/(i=r.length+1/\sJ r=r.length))) (λst _=>match st with|[.int _ i]=>r.length+2-i.toNat|_=>0) ⟨0,rfl,rfl,.inl ⟨by omega,by simp⟩⟩ ?_;rintro st g w2 ⟨i,rfl,rfl,hbi⟩;simp only[aG,dE];rw[fX,eC,aO,hlen];refine⟨λhlt=>?_,λhge=>?_⟩
 ·have hlt:i<r.length:=by omega
  obtain⟨hi,hb⟩:=hbi.resolve_right (by omega);have hd:=iR hlt;rw[hd,Bq]at hb;have cond:∀(k:Nat),k<256->(((r[i].toNat:Nat):Int)=(k:Int)↔r[i]=UInt8.ofNat k):=λk hk=>by
   have:=EV r[i] k hk;rwa[decide_eq_decide]at this
  have ix:∀{KK:Value->Prop},KK (.int .u8 (r[i].toNat:Nat))->pI (str (c::r)) (i64 ((i+1:Nat):Int)) KK:=λh=>rH (s:=c::r) (i:=i+1) (by rw[hlen];omega) h;refine bS.cut (λst w'=>w'=w2/\∃(j:Nat),st=[i64 ((j+1:Nat):Int)]/\i<=j/\((j+1<=r.length/\j+1+sJ (r.drop (j+1))=sJ r)\/(j+1=r.length+1/\sJ r=r.length))) ?_ ?_
  ·refine ix ?_;rw[bM,aO];refine⟨λe=>?_,λe=>?_⟩
   ·have e:r[i]=34:=(cond 34 (by omega)).1 e;rw[aJ e]at hb;rw[cC,upi (by omega)];rw[<-hb,show 1+(i+1)=i+1+1 by omega]at hK;exact hK
   have e:¬r[i]=34:=λh=>e ((cond 34 (by omega)).2 h);rw[aE e]at hb;refine ix ?_;rw[bM,aO];refine⟨λe=>?_,λe=>?_⟩
   ·have e:r[i]=92:=(cond 92 (by omega)).1 e;rw[aJ e]at hb;rw[cC,upi (by omega)];refine⟨rfl,i+1,rfl,by omega,?_⟩;cases hr:r.drop (i+1)with
    |nil=>
     rw[hr]at hb;have hle:r.length<=i+1:=by
      have:=congrArg List.length hr;rw[aQ,aM]at this;omega
     simp only at hb;exact .inr ⟨by omega,by omega⟩
    |cons x rr=>
     rw[hr]at hb;simp only at hb;have e2:r.drop (i+1+1)=rr:=by rw[<-fV,hr];rfl
     have e3:=congrArg List.length hr;rw[aQ,aB]at e3;exact .inl ⟨by omega,by rw[e2];omega⟩
   have e:¬r[i]=92:=λh=>e ((cond 92 (by omega)).2 h);rw[aE e]at hb;rw[gH,fI,eX];refine⟨by omega,by rw[hlen];omega,?_⟩;rw[bO,aW,cQ,hd];refine Ap ?_;rw[pre_eq,bT];refine⟨λe=>?_,λe=>?_⟩
   ·rw[aJ e]at hb;rw[cC,upi (by omega),gH,fI,eX];refine⟨by omega,by rw[hlen];omega,?_⟩;rw[bO,aW,cQ];refine hbr _ _ _ (by rw[aQ];omega) (by rw[aQ];omega) ?_;have hle:=HP (r.drop (i+1)) 0;rw[aQ]at hle;rw[cC,cN (by omega) (by omega)];rw[fV]at hb;refine⟨rfl,i+qC (r.drop (i+1)) 0,?_,by omega,.inl ⟨by omega,?_⟩⟩
    ·simp only[eF,Value.int.injEq,dM,kX];omega
    ·rw[show i+qC (r.drop (i+1)) 0+1=i+1+qC (r.drop (i+1)) 0 by omega];omega
   ·rw[aE (by rw[e];decide)]at hb;exact⟨rfl,i,rfl,aS _,.inl ⟨by omega,by omega⟩⟩
  rintro st g2 w3 ⟨rfl,j,rfl,hij,hb'⟩;simp only[aG,dE];rw[cC,upi (by omega)];refine⟨⟨j+1,rfl,trivial,hb'⟩,?_⟩;simp only[aW];omega
 ·have hq:sJ r=r.length:=by
   rcases hbi with⟨hi,hb⟩|h
   ·rw[fB (by omega),PC]at hb;omega
   ·exact h.2
  rw[hq,show 1+r.length=r.length+1 by omega]at hK;exact hK
theorem MS:∀n,aCt n/\XR n
 |0=>have hq:XR 0:=λ_ _ _ _ h=>by omega
  ⟨Ka hq,hq⟩
 |n+1=>have hq:=Pz (MS n).1
  ⟨Ka hq,hq⟩
theorem RD{s:Str}{K:Q0}(hl:s.length<=1000000)(hK:K (i64 (Kb s:Nat)) w):aC P0 112 [str s] w K:=(MS s.length).1 s w K (aS _) hl hK
def BE(s:Str):List Value:=match Syn.insP s with|some (i,e)=>[i64 (i:Nat),i64 (e:Nat)]|none=>[i64 (-1),i64 0]
theorem NW(c:UInt8)(r:Str):Syn.insP (c::r)=if c=92 then(Syn.insP (r.drop 1)).map (λx=>(x.1+2,x.2+2))else if pH [36,123] (c::r)=true then some (0,1+Kb r)else(Syn.insP r).map λx=>(x.1+1,x.2+1):=by
 cases r with
 |nil=>
  simp only[Syn.insP,List.drop_nil,Option.map_none];split
  ·rfl
  ·simp[pH,List.isPrefixOf]
 |cons e r=>
  simp only[Syn.insP,cQ,cV];split
  ·rfl
  ·have:(c=36/\e=123)↔pH [36,123] (c::e::r)=true:=by
    simp[pH,List.isPrefixOf];exact⟨λh=>⟨h.1.symm,h.2.symm⟩,λh=>⟨h.1.symm,h.2.symm⟩⟩
   by_cases h:c=36/\e=123
   ·rw[aJ h,aJ (this.1 h)]
   ·rw[aE h,aE (λx=>h (this.2 x))]
theorem xW{s:Str}{K:Q0}(hl:s.length<=1000000)(hK:K (.tuple (BE s).toArray) w):aC P0 79 [str s] w K:=by
 refine aBA ?_;unfold W79;refine cZ.go (λst w'=>∃(i:Nat),st=[i64 (i:Nat)]/\w'=w/\Syn.insP s=(Syn.insP (s.drop i)).map λx=>(x.1+i,x.2+i)) (λst _=>match st with|[.int _ i]=>s.length+1-i.toNat|_=>0) ⟨0,rfl,rfl,by rw[cV];cases Syn.insP s<;>rfl⟩ ?_;rintro st g w2 ⟨i,rfl,rfl,hb⟩;simp only[aG];rw[fX,eC,aO];unfold BE at hK;refine⟨λhlt=>?_,λhge=>?_⟩
 ·have hlt:i<s.length:=by omega
  have hd:=iR hlt;rw[hd,NW]at hb;have cond:∀(k:Nat),k<256->(((s[i].toNat:Nat):Int)=(k:Int)↔s[i]=UInt8.ofNat k):=λk hk=>by
   have:=EV s[i] k hk;rwa[decide_eq_decide]at this
  refine bS.cut (λst w'=>w'=w2/\∃(j:Nat),st=[i64 (j:Nat)]/\i<=j/\j<=i+1/\Syn.insP s=(Syn.insP (s.drop (j+1))).map λx=>(x.1+(j+1),x.2+(j+1))) ?_ ?_
  ·refine rH hlt ?_;rw[bM,aO];refine⟨λe=>?_,λe=>?_⟩
   ·have e:s[i]=92:=(cond 92 (by omega)).1 e;rw[aJ e,fV]at hb;rw[cC,upi (by omega)];refine⟨rfl,i+1,rfl,by omega,by omega,?_⟩;rw[hb,Option.map_map];congr 1;funext x;simp only[Function.comp,fZ];omega
   have e:¬s[i]=92:=λh=>e ((cond 92 (by omega)).2 h);rw[aE e]at hb;rw[gH,fI,eX];refine⟨by omega,by omega,?_⟩;rw[bO,aW,hd];refine Ap ?_;rw[pre_eq,bT];refine⟨λe=>?_,λe=>?_⟩
   ·rw[aJ e]at hb;rw[cC,upi (by omega),cC,upi (by omega),gH,fI,eX];refine⟨by omega,by omega,?_⟩;rw[bO,aW];refine RD (by rw[aQ];omega) ?_;have hle:=HP (s.drop (i+1)) 0;have eb:Kb (s.drop (i+1))=qC (s.drop (i+1)) 0:=rfl;rw[aQ]at hle;rw[cC,cN (by omega) (by omega)];rw[hb]at hK;simp only[gF]at hK;have e1:((0+i:Nat):Int)=(i:Int):=by omega
    have e2:((1+Kb (s.drop (i+1))+i:Nat):Int)=((i+1:Nat):Int)+(Kb (s.drop (i+1)):Nat):=by omega
    rw[e1,e2]at hK;exact hK
   ·rw[aE (by rw[e];decide)]at hb;refine⟨rfl,i,rfl,by omega,by omega,?_⟩;rw[hb,Option.map_map];congr 1;funext x;simp only[Function.comp,fZ];omega
  rintro st g2 w3 ⟨rfl,j,rfl,hij,hj,hb'⟩;simp only[aG];rw[cC,upi (by omega)];refine⟨⟨j+1,rfl,trivial,hb'⟩,?_⟩;simp only[aW];omega
 ·rw[fB (by omega)]at hb;rw[hb]at hK;exact hK
end
def xO:List Str:=[[124,124],[38,38],[61,61],[33,61],[60],[62],[60,61],[62,61],[43],[45],[42],[47],[37]]
def CM(x:Int):Int:=if x=0 then 27 else if x=101 then 26 else if x=202 then 20 else if x=203 then 21 else if x=304 then 22 else if x=305 then 23 else if x=306 then 24 else if x=307 then 25 else if x=408 then 15 else if x=409 then 16 else if x=510 then 17 else if x=511 then 18 else if x=512 then 19 else 0
theorem QF:∀k:Fin 13,∀n:Fin 6,CM ((n.val:Int)*100+(k.val:Int))=Jm n.val (xO[k.val]'k.isLt):=by decide+kernel
theorem Bm(x:Str):∀(l:List Str) (i:Nat),(∃k,l[k]?=some x/\rF l x i=((i+k:Nat):Int))\/(x∉l/\rF l x i=-1)
 |[],i=>.inr ⟨by simp,rfl⟩
 |a::r,i=>by
  simp only[rF]
  split
  ·rename_i h
   exact .inl ⟨0,by simp[h],rfl⟩
  ·rename_i h
   rcases Bm x r (i+1)with⟨k,h1,h2⟩|⟨h1,h2⟩
   ·exact .inl ⟨k+1,by simpa using h1,by rw[h2];omega⟩
   ·exact .inr ⟨by simp[h,h1],h2⟩
theorem QI{x:Str}(h:x∉xO):Jm n x=0:=by
 simp only[xO,bQ,fD,qV,not_or]at h;obtain⟨h1,h2,h3,h4,h5,h6,h7,h8,h9,h10,h11,h12,h13⟩:=h;unfold Jm;simp only[aE h1,aE h2,aE h3,aE h4,aE h5,aE h6,aE h7,aE h8,aE h9,aE h10,aE h11,aE h12,aE h13,ite_self]
theorem Lj(hn:n<=5)(x:Str):CM ((n:Int)*100+rF xO x 0)=Jm n x:=by
 rcases Bm x xO 0 with⟨k,h1,h2⟩|⟨h1,h2⟩
 ·have hk:k<13:=(List.getElem?_eq_some_iff.1 h1).1;have:=QF ⟨k,hk⟩ ⟨n,by omega⟩;rw[h2,aV,this];congr 1;exact(List.getElem?_eq_some_iff.1 h1).2
 ·rw[h2,QI h1];have:∀m:Fin 6,CM ((m.val:Int)*100+-1)=0:=by decide+kernel
  exact this ⟨n,by omega⟩
section
variable [HX]
theorem UR{x:Str}{K:Q0}(hK:K (i64 (xS x)) w):aC P0 259 [str x] w K:=by
 refine Wl ?_;unfold aDw;unfold xS at hK;rw[rR,aO];refine⟨λh=>by rw[aJ h]at hK;exact hK,λh=>?_⟩;rw[aE h]at hK;rw[rR,aO];refine⟨λh=>by rw[aJ h]at hK;exact hK,λh=>?_⟩;rw[aE h]at hK;rw[rR,aO];refine⟨λh=>by rw[aJ h]at hK;exact hK,λh=>?_⟩;rw[aE h]at hK;exact hK
theorem SF{K:Q0}(h:∀v w',SlAt w' T v n cs->Ext w w'->K v w')(hn:cs.length=n):K (.slice (some ⟨w.heap.size,0,none⟩) n n) (w.alloc (.cells cs.toArray T)):=
 row_new λa w' ha hz hb hx _=>h _ w' (AF hb hn) hx
theorem Nt{K:Q0}(hK:∀v w',SlAt w' StT v 13 (strs xO)->Ext w w'->K v w'):
  dJ StT 13 (List.replicate 13 (.string (ofL []))) [(0,1,(.string (ofL [124,124]))),(1,1,(.string (ofL [38,38]))),(2,1,(.string (ofL [61,61]))),(3,1,(.string (ofL [33,61]))),(4,1,(.string (ofL [60]))),(5,1,(.string (ofL [62]))),(6,1,(.string (ofL [60,61]))),(7,1,(.string (ofL [62,61]))),(8,1,(.string (ofL [43]))),(9,1,(.string (ofL [45]))),(10,1,(.string (ofL [42]))),(11,1,(.string (ofL [47]))),(12,1,(.string (ofL [37])))] w K:=by
 rw[dJ];simp only[List.replicate,eJ,cU,aB,aM,aY,bB,Nat.reduceAdd,Nat.reduceLT,dM,aA];exact SF hK rfl
theorem Vd{t:Tok}{K:Q0}(hn:n<=5)(hK:∀w',Ext w w'->K (i64 (wL t n)) w'):aC P0 152 [.agg (fK t).toArray,i64 (n:Nat)] w K:=by
 refine Xe ?_;unfold aD3;refine fS (z:=fK t) λb w1 hb hz1 hbb hx1=>?_;unfold wL at hK;have ldc:∀{w':World} {off:Nat} {v:Value} {KK:Value->Prop},w'.heap[b]?=some (.cells (fK t).toArray TkT (0,0))->(fK t)[off]?=some v->KK v->aZ off (.pointer (some ⟨b,0,none⟩)) λx=>ldW false 1 x w' KK:=λh hv hk=>by
  rw[bR,bZ,aV,dX];exact⟨_,by rw[cD,h,cH];simpa using hv,hk⟩
 refine ldc hbb rfl ?_;rw[fT,aO];refine⟨λh=>?_,λh=>?_⟩
 ·rw[aE h]at hK;exact hK w1 hx1
 have h:t.k=4:=by omega
 rw[aJ h,<-Lj hn]at hK;rw[HS,cN (by omega) (by omega)];refine Nt λv w2 hv hx2=>?_;refine ldc (hx2.at hbb id) rfl ?_;refine Mw (l:=xO) hv (by decide) ?_;have hr:-1<=rF xO t.t 0/\rF xO t.t 0<=12:=by
  rcases Bm t.t xO 0 with⟨k,h1,h2⟩|⟨h1,h2⟩
  ·have hk:k<13:=(List.getElem?_eq_some_iff.1 h1).1;rw[h2];omega
  ·rw[h2];omega
 rw[cC,cN (by omega) (by omega)];generalize (n:Int)*100+rF xO t.t 0=x at*
 have hx:=hK w2 (hx1.trans hx2);unfold CM at hx;have step:∀{k r e:Int} {A B:Prop},((if x=k then r else e)=r->A)->(¬x=k->B)->aR (.bool (decide (x=k))) A B:=λh1 h2=>by
  rw[aO];exact⟨λe=>h1 (aJ e),h2⟩
 iterate 13
  rw[bM,aO];refine⟨λe=>by rw[aJ e]at hx;exact hx,λe=>?_⟩;rw[aE e]at hx
 exact hx
theorem rX{b:Nat}(h:w.heap[b]?=some (.cells cs.toArray T (0,0)))(hn:0<n:=by omega):SlAt w T (.slice (some ⟨b,0,none⟩) n n) n cs:=
 ⟨_,_,rfl,aS _,λe=>(by cases e),λ_=>⟨b,0,cs.toArray,_,rfl,h,λi _=>by simp⟩⟩
section
variable{w0 w:World}{p f:Nat}{M:Lay}{vt:Value}{s:PS}{top:List Nat}{N:Int}{K:Q0}
theorem Mk{t:Tok}(h:PR w0 w p f M vt s top)(hx:EL t.t)(hl:t.t.length<=1000000)(hK:∀l s',pS s t=.ok l s'->∀w',Ext w w'->K (str l) w')(ht:∀c a,pS s t=.err c a->Thr w0 f c a):
  aC P0 47 [.pointer (some ⟨p,0,none⟩),.agg (fK t).toArray] w K:=by
 refine aBY ?_;unfold W47;refine fS (z:=fK t) λb w1 hb hz1 hbb hx1=>?_;have h1:=h.ext hx1;have L1:=h.loc hz1 hb hbb;unfold pS at hK ht;refine bS.cut (λ_ w'=>w'=w1/\(Syn.insP t.t).isSome=false) ?_ ?_
 ·refine L1.ldf rfl ?_;refine xW hl ?_;rw[bK];unfold BE;cases hi:Syn.insP t.t with
  |none=>
   refine⟨i64 (-1),rfl,?_⟩;rw[bK];refine⟨i64 0,rfl,?_⟩;rw[lF,aO];exact⟨λe=>by omega,λ_=>⟨rfl,rfl⟩⟩
  |some x=>
   refine⟨i64 (x.1:Nat),rfl,?_⟩;rw[bK];refine⟨i64 (x.2:Nat),rfl,?_⟩;rw[lF,aO];refine⟨λ_=>?_,λe=>by omega⟩;refine L1.ldf rfl ?_;exact qB h1 (ht _ _ (by rw[hi];rfl))
 rintro st g w2 ⟨rfl,hi⟩;rw[aE (by rw[hi];decide)]at hK;refine L1.ldf rfl ?_;refine KJ ((Ky hx).1 (by cases hr:Syn.insP t.t with|none=>rfl|some x=>rw[hr]at hi;cases hi)) hl λw3 hx3=>?_;exact hK _ _ rfl w3 (hx1.trans hx3)
theorem Li{s:PS}(h:(cur s).k=5):gI (step1 (bC s))=gI s:=by
 have ht:(bC s).toks=s.toks:=by unfold bC;split<;>rfl
 have hk:(lW (bC s)).k=5:=h;have hlt:(bC s).i<(bC s).toks.length:=by
  by_cases hl:(bC s).i<(bC s).toks.length
  ·exact hl
  ·unfold lW at hk;rw[List.getD_eq_getElem?_getD,List.getElem?_eq_none (by omega)]at hk;cases hk
 have hg:(bC s).toks[(bC s).i]?=some (lW (bC s)):=by unfold lW;rw[List.getD_eq_getElem?_getD,List.getElem?_eq_getElem hlt];rfl
 have e:=uA hg;rw[aJ hk]at e;have hq:s.quiet=false:=by
  by_cases hq:s.quiet=true
  ·exfalso;have e2:bC (bC s)=bC s:=gP s;have hq2:(bC s).quiet=true:=by unfold bC;split<;>exact hq
   have e3:(bC (bC s)).i=(bC s).i+gZ ((bC s).toks.drop (bC s).i):=by
    rw[bC,aJ hq2]
   rw[e2]at e3;omega
  ·simpa using hq
 have n1:∀s:PS,s.quiet=false->bC s=s:=λs h=>by unfold bC;rw[h];rfl
 have h1:=n1 s hq;rw[h1]at e⊢;have h2:=n1 (step1 s) hq;unfold gI;rw[h1,h2];show({s with i:=s.i+1+gZ (s.toks.drop (s.i+1))}:PS)={s with i:=s.i+gZ (s.toks.drop s.i)};rw[e];congr 1;omega
theorem Lh{N:Int}{s:PS}(hs:WS N s)(h:(cur s).k≠5):gI s=bC s:=by
 have hn:=(gE hs).ws hs;have e:=uA (xI hn);have hk:(lW (bC s)).k≠5:=h;rw[aE hk,(gE hs).toks]at e;unfold gI;rw[e];rfl
theorem zA(h:PR w0 w p f M vt s top)(hs:WS N s)(hN:N<=1000000)(hl:s.toks.length<=100000)(hK:∀w',PR w0 w' p f M vt (gI s) top->Eff p f M M w w'->K (.tuple #[]) w'):
  aC P0 28 [.pointer (some ⟨p,0,none⟩)] w K:=by
 refine aB9 ?_;unfold W28;refine cZ.go (λst w'=>st=[]/\∃s1,PR w0 w' p f M vt s1 top/\WS N s1/\s1.toks=s.toks/\gI s1=gI s/\Eff p f M M w w') (λ_ w'=>s.toks.length-Ai w' p) ⟨rfl,s,h,hs,rfl,rfl,Eff.refl _ _ _ _⟩ ?_;rintro st g w2 ⟨rfl,s1,h2,hs1,et,el,he2⟩;refine nD h2 hs1 hN (by rw[et];exact hl) λw3 h3 he3=>?_;refine⟨i64 (cur s1).k,rfl,?_⟩;dsimp only;rw[bM,aO];have hg:=gE hs1;have hsn:=hg.ws hs1;refine⟨λhk=>?_,λhk=>?_⟩
 ·have hk0:(cur s1).k≠0:=by rw[hk];decide
  have hst:=jJ hs1 hk0;refine h3.go (wsi hsn (by rw[hg.toks,et];exact hl)) λw4 h4 he4 hz4=>?_;refine⟨⟨rfl,_,h4,hst.1.ws hs1,hst.1.toks.trans et,(Li hk).trans el,(he2.trans he3).trans he4⟩,?_⟩;rw[h4.at_,h2.at_];have:=hst.2;have h5:=hst.1.lt;rw[hst.1.toks,et]at h5;omega
 ·rw[Lh hs1 hk]at el;rw[el]at h3;exact hK w3 h3 (he2.trans he3)
theorem oR{a:Int}{q:Bool}{fv:Value}(h:PR w0 w p f M vt s top)(hd:s.deep<=24)(hbad:s.deep=24->Thr w0 f 7 a)
  (hf:s.deep≠24->∀w1,PR w0 w1 p f M vt {s with deep:=s.deep+1,quiet:=q} top->Eff p f M M w w1->oN P0 fv [] w1 λ_ w2=>∃M2 s2,PR w0 w2 p f M2 vt s2 top/\s2.deep=s.deep+1/\
    ∀w3,PR w0 w3 p f M2 vt {s2 with deep:=s.deep,quiet:=s.quiet} top->Eff p f M2 M2 w2 w3->K (.tuple #[]) w3):
  aC P0 50 [.pointer (some ⟨p,0,none⟩),i64 a,.bool q,fv] w K:=by
 refine aBV ?_;unfold W50;refine bS.cut (λ_ w'=>w'=w/\s.deep≠24) ?_ ?_
 ·refine h.ld rfl ?_;rw[bM,aO];refine⟨λe=>?_,λe=>⟨rfl,λh=>e (by rw[h];rfl)⟩⟩;exact qB h (hbad (by omega))
 rintro st g w1 ⟨rfl,hne⟩;refine h.ld rfl ?_;refine h.ld rfl ?_;rw[cC,upi (by omega)];refine h.st_deep λw2 h2 he2 hz2=>?_;refine h2.st_quiet (q:=q) λw3 h3 he3 hz3=>?_;have hc:=hf hne w3 h3 (he2.trans he3);refine Res.mono ?_ hc;rintro v w4 ⟨M2,s2,h4,e4,hk⟩;refine h4.ld rfl ?_;rw[mB,cN (by omega) (by omega)];have e:((s2.deep:Nat):Int)-1=((s.deep:Nat):Int):=by omega
 rw[e];refine h4.st_deep λw5 h5 he5 hz5=>?_;refine h5.st_quiet (q:=s.quiet) λw6 h6 he6 hz6=>?_;exact hk w6 h6 (he5.trans he6)
theorem KU{M0:Lay}{wb:World}{e:Ex}{d:List Value}(h:PR w0 w p f M vt s top)(he:Eff p f M0 M wb w)(hd:ExR w w0.heap.size e d)(hu:∀k∈ub d,Off w0 w p f M vt k)(hn:(ub d).Nodup)(hnew:∀k∈ub d,wb.heap.size<=k)(hlen:s.ex.length<=1000000)
  (hK:∀M' w',PR w0 w' p f M' vt {s with ex:=s.ex++[e]} top->Eff p f M0 M' wb w'->(∀b T cs,Loc w0 w p f M vt b T cs->b∉ub d->Loc w0 w' p f M' vt b T cs)->K (i64 (s.ex.length:Nat)) w'):
  aC P0 117 [.pointer (some ⟨p,0,none⟩),.agg d.toArray] w K:=by
 refine XD ?_;unfold aEq;have hdl:d.length=5:=by obtain⟨va,vk,rfl,_⟩:=hd;rfl
 have hd1:∀u∈d,fG u=true:=by
  obtain⟨va,vk,rfl,h1,h2⟩:=hd;obtain⟨_,_,rfl,_⟩:=h1.sl.shape;obtain⟨_,_,rfl,_⟩:=h2.sl.shape;intro u hu;simp only[bQ,fD,qV]at hu;rcases hu with rfl|rfl|rfl|rfl|rfl<;>rfl
 refine fS (z:=d) λb w1 hb hz1 hbb hx1=>?_;have h1:=(h.ext hx1).drew;have hx1':Ext w w1.drew:=hx1.trans (dB _);have L1:=(h.loc hz1 hb hbb).drew;have ldF:∀{w':World},w'.heap[p]?=some (.cells [vt,i64 (s.i:Nat),i64 s.off,.pointer (some ⟨f,0,none⟩),i64 (s.deep:Nat),.bool s.quiet].toArray PsT (0,0))->ldW false 1 (.pointer (some ((⟨p,0,none⟩:Addr).add 3))) w' λx=>x=.pointer (some ⟨f,0,none⟩):=by
  intro w' h;rw[dX];exact⟨_,by rw[bZ,cD,h,cH];rfl,rfl⟩
 have ldE:∀{w':World} {v:Value} {r:List Value},w'.heap[f]?=some (.cells (v::r).toArray FlT (0,0))->w'.cell? ((⟨f,0,none⟩:Addr).add 0)=some v:=by
  intro w' v r h;rw[bZ,cD,h,cH];rfl
 have use:∀k,M.vE.ownBlock=some k->k∈M.uses f:=λk hk=>aU _ (kP (v:=M.vE) (by simp) hk);have nE:¬M.vE.ownBlock=some p:=λe=>h.np (use p e);have nF:¬M.vE.ownBlock=some f:=λe=>by
  have hnd:=h.fr.nd;rw[Kw,jF]at hnd;exact hnd.1 (eP _ (gR.2 e))
 have pf:p≠f:=λe=>h.np (e▸bD);have cF:∀{w':World},w'.heap[p]?=some (.cells [vt,i64 (s.i:Nat),i64 s.off,.pointer (some ⟨f,0,none⟩),i64 (s.deep:Nat),.bool s.quiet].toArray PsT (0,0))->w'.cell? ((⟨p,0,none⟩:Addr).add 3)=some (.pointer (some ⟨f,0,none⟩)):=by
  intro w' h;rw[bZ,cD,h,cH];rfl
 rw[dW,bR,dX];refine⟨_,cF h1.ps,?_⟩;rw[dW,bR,dX];refine⟨_,cF h1.ps,?_⟩;rw[dW,bR,dX];refine⟨_,ldE h1.fr.hf,?_⟩;refine bY L1.1 hdl ?_;refine Ba hdl rfl λr w2 hr hz2 hrb hx2=>?_;have h2:=h1.ext hx2;refine⟨by rw[dX];exact⟨_,ldE h2.fr.hf,rfl⟩,ldF h2.ps,ldF h2.ps,?_⟩;have hx02:Ext w w2:=hx1'.trans hx2;have hc0:Chg (λk=>M.vE.ownBlock=some k) w w2:=Chg.of_ext hx02;refine jO aC5 h2.fr.oE (rX (n:=1) (T:=ExT) (cs:=d) hrb) (by rw[hdl]) hd1 (by omega) (by omega) h2.base λv' w3 hO3 hc3 hv3=>?_;have hp3:=hc3.at h2.ps nE;have hf3:=hc3.at h2.fr.hf nF;refine⟨ldF hp3,?_⟩;rw[dW,bR,bZ,aV];obtain⟨vp,vc,ev,_⟩:=hO3.sl.shape;refine iU hf3 (by rw[ev];rfl) (by simp) λw4 hz4 hf4 hc4=>?_;have hz02:=hx02.size;obtain⟨h4,he4,hk4⟩:=h.putE (w1:=w3) (w2:=w4) (v':=v') he hd hu hn hnew hO3 (hc0.trans hc3) (λk hk=>(hv3 k hk).imp id λe=>by omega) hc4 (by rw[hf4];simp);rw[dW,bR,dX];refine⟨_,cF h4.ps,?_⟩;rw[dW,bR,dX];refine⟨_,ldE h4.fr.hf,?_⟩;dsimp only;rw[ev,zD,mB,cN (by omega) (by omega)];have e1:((s.ex.length+1:Nat):Int)-1=(s.ex.length:Nat):=by omega
 rw[e1];exact hK _ w4 h4 he4 hk4
end
end
structure Gd(N:Int)(s:PS)(dl:Nat):Prop where
 ws:WS N s
 hN:N<=1000000
 few:s.toks.length<=4097
 ts:TS s.toks
 phi:phi s<=100000
 lev:s.deep+dl=24
theorem Gd.l{N:Int}{s:PS}{dl:Nat}(h:Gd N s dl):s.toks.length<=100000:=by have:=h.few;omega
theorem Gd.go{N:Int}{s s':PS}{dl:Nat}(h:Gd N s dl)(hg:Go1 N s s')(hp:Syn.phi s'<=Syn.phi s):Gd N s' dl:=
 ⟨hg.ws h.ws,h.hN,by rw[hg.toks];exact h.few,by rw[hg.toks];exact h.ts,cI hp h.phi,by rw[hg.deep];exact h.lev⟩
theorem Gd.frame{N:Int}{s:PS}{dl:Nat}(h:Gd N s (dl+1))(q:Bool):Gd N {s with deep:=s.deep+1,quiet:=q} dl:=⟨xF h.ws _ _,h.hN,h.few,h.ts,h.phi,by have:=h.lev;show s.deep+1+dl=24;omega⟩
theorem Gd.back{N:Int}{s s':PS}{dl:Nat}{q:Bool}(h:Gd N s (dl+1))(h':Gd N s' dl):Gd N {s' with deep:=s.deep,quiet:=q} (dl+1):=⟨xF h'.ws _ _,h.hN,h'.few,h'.ts,h'.phi,h.lev⟩
theorem Gd.now{N:Int}{s:PS}{dl:Nat}(h:Gd N s dl):Gd N (bC s) dl:=h.go (gE h.ws) (jT s)
theorem Gd.take{N:Int}{s:PS}{dl:Nat}(h:Gd N s dl)(w:Str):Gd N (bX s w).2 dl:=h.go (jI h.ws w).1 (kR s w).1
theorem Gd.lines{N:Int}{s:PS}{dl:Nat}(h:Gd N s dl):Gd N (gI s) dl:=h.go (mL h.ws).1 (vL s)
theorem Gd.next{N:Int}{s:PS}{dl:Nat}(h:Gd N s dl):Gd N (iW s) dl:=h.go (rM h.ws).1 (vK s).1
theorem Gd.step{N:Int}{s:PS}{dl:Nat}(h:Gd N s dl)(hk:(cur s).k≠0):Gd N (step1 (bC s)) dl:=h.go (jJ h.ws hk).1 (by have:=(oV hk).2;omega)
theorem Gd.want{N:Int}{s s':PS}{dl:Nat}(h:Gd N s dl){w:Str}(e:oH s w=.ok () s'):Gd N s' dl/\s.i<s'.i/\s'.ex=s.ex/\s'.bl=s.bl:=by
 have h1:=kB h.ws w;have h2:=kQ s w;rw[e]at h1 h2;obtain⟨g,x,b⟩:=h1;exact⟨h.go g.1 (by have h2:Syn.phi s'+1<=Syn.phi s:=h2;omega),g.2,x,b⟩
theorem Gd.kind{N:Int}{s s':PS}{dl:Nat}{t:Tok}{k:Int}(h:Gd N s dl)(hk:k≠0)(e:lO s k=.ok t s'):Gd N s' dl/\s.i<s'.i/\s'.ex=s.ex/\s'.bl=s.bl/\t=cur s/\t.k=k:=by
 have h1:=lN h.ws k hk;have h2:=nP s k;rw[e]at h1 h2;obtain⟨g,x,b,ht,hk⟩:=h1;exact⟨h.go g.1 h2.1,g.2,x,b,ht,hk⟩
theorem Gd.ex{N:Int}{s:PS}{dl:Nat}(h:Gd N s dl):s.ex.length<=100000/\s.bl.length<=100000:=by have:=aAJ s;have:=h.phi;omega
structure rD(F:PS->R Nat):Prop where
 ok:∀N,EOk N F
 z:EZ F
theorem Gd.e{N:Int}{s s':PS}{dl x:Nat}{F:PS->R Nat}(h:Gd N s dl)(hF:rD F)(e:F s=.ok x s'):Gd N s' dl/\s.i<s'.i:=by
 have h1:=hF.ok N s h.ws;have h2:=hF.z s;rw[e]at h1 h2;exact⟨h.go h1.1.1 h2,h1.1.2⟩
theorem Gd.at0{N:Int}{s:PS}{dl:Nat}(h:Gd N s dl):0<=(cur s).a/\(cur s).a<=1000000:=by have:=jU h.ws;have:=h.hN;omega
section
variable [HX]
def yK(w0:World)(f:Nat):Prop:=∀(w:World) (K:Q0) (s:Str),Chg (Of f) w0 w->s.length<=1000000->
 (∀l,qH s=.ok l->∀v w',Ext w w'->SlAt w' TkT v l.length (toks l)->(∀k,v.ownBlock=some k->w.heap.size<=k/\k<w'.heap.size)->K (.tuple #[v,.pointer none]) w')->
 (∀c a,qH s=.bad c a->∀d w',Ext w w'->w.heap.size<=d->w'.heap[d]?=some (.cells [i64 c,str [],i64 a].toArray 53 (0,0))->K (.tuple #[.slice none 0 0,.pointer (some ⟨d,0,none⟩)]) w')->
 aC P0 26 [str s] w K
def EC(w0:World)(f:Nat)(g:FuncId)(F:PS->R Nat)(dl:Nat):Prop:=∀(w:World) (p:Nat) (M:Lay) (vt:Value) (s:PS) (top:List Nat) (N:Int) (K:Q0),PR w0 w p f M vt s top->Gd N s dl->
 (∀x s',F s=.ok x s'->∀M' w',PR w0 w' p f M' vt s' top->Eff p f M M' w w'->K (i64 (x:Nat)) w')->(∀c a,F s=.err c a->Thr w0 f c a)->aC P0 g [.pointer (some ⟨p,0,none⟩)] w K
structure Ro(w0 w:World)(p f:Nat)(M:Lay)(vt:Value)(wb:Nat)(T:TypeId)(m:Nat)(v:Value)(n:Nat)(xs:List Value):Prop where
 own:Own w w0.heap.size T m v n xs
 off:∀k,v.ownBlock=some k->Off w0 w p f M vt k
 new:∀k,v.ownBlock=some k->wb<=k
section
variable{w0 w w' w1:World}{p f b:Nat}{M M':Lay}{vt:Value}{s:PS}{top:List Nat}{N:Int}{K:Q0}{wb:Nat}{T:TypeId}{m:Nat}{v:Value}{n:Nat}{xs:List Value}
theorem Ro.nil(T:TypeId)(m:Nat):Ro w0 w p f M vt wb T m (.slice none 0 0) 0 []:=⟨⟨by simp,.inl ⟨rfl,rfl⟩⟩,λk hk=>by simp[Value.ownBlock]at hk,λk hk=>by simp[Value.ownBlock]at hk⟩
theorem Ro.eff(h:Ro w0 w p f M vt wb T m v n xs)(he:Eff p f M M' w w'):Ro w0 w' p f M' vt wb T m v n xs:=⟨he.own h.own h.off,λk hk=>(h.off k hk).eff he,h.new⟩
theorem Ro.ext(h:Ro w0 w p f M vt wb T m v n xs)(hx:Ext w w'):Ro w0 w' p f M vt wb T m v n xs:=h.eff (Eff.ext hx)
theorem Ro.one(h:Ro w0 w p f M vt wb T m v n xs)(hc:Chg (One b) w w')(hb:v.ownBlock≠some b):Ro w0 w' p f M vt wb T m v n xs:=
 ⟨jE h.own hc λk hk e=>hb (by have e:k=b:=e;rw[hk,e]),λk hk=>(h.off k hk).up hc.size,h.new⟩
theorem Ro.row{u:Value}(h:Ro w0 w p f M vt wb T m v n xs)(hc:Chg (λk=>u.ownBlock=some k) w w')(hb:∀k,v.ownBlock=some k->u.ownBlock≠some k):Ro w0 w' p f M vt wb T m v n xs:=
 ⟨jE h.own hc λk hk e=>hb k hk e,λk hk=>(h.off k hk).up hc.size,h.new⟩
theorem Loc.row{u:Value}(h:Loc w0 w p f M vt b T cs)(hc:Chg (λk=>u.ownBlock=some k) w w')(hb:u.ownBlock≠some b):Loc w0 w' p f M vt b T cs:=⟨hc.at h.1 hb,h.2.up hc.size⟩
theorem PR.row{u:Value}(h:PR w0 w p f M vt s top)(hc:Chg (λk=>u.ownBlock=some k) w w')(hb:∀k,u.ownBlock=some k->Off w0 w p f M vt k):PR w0 w' p f M vt s top:=
 h.keep hc (λk hk e=>by have:=(hb k e).1.1;omega) (λk hk e=>(hb k e).2.2.1 hk) (λe=>(hb p e).2.1 rfl) λk hk e=>(hb k e).2.2.2 hk
theorem Ro.app{t:TypeId}{bytes:Nat}{r:Nat}{news:List Value}{ty:TypeId}(hT:qQ P0 t T m bytes)(hR:Ro w0 w p f M vt wb T m v n xs)(hp:PR w0 w p f M vt s top)(hr:w.heap[r]?=some (.cells news.toArray T (0,0)))(hl:news.length=m)(h1:∀u∈news,fG u=true)(hn:n<=1000000)(hby:bytes<=1000)(hwb:wb<=w.heap.size)
  (hK:∀v' w',Ro w0 w' p f M vt wb T m v' (n+1) (xs++news)->Chg (λk=>v.ownBlock=some k) w w'->(∀k,v'.ownBlock=some k->v.ownBlock=some k\/w.heap.size<=k)->PR w0 w' p f M vt s top->K v' w'):
  dF P0 (Builtin.append_ #[t,t] ty #[v,.slice (some ⟨r,0,none⟩) 1 1]) w K:=by
 have hb:=hp.base;have hbt:(n+1)*bytes<=140737488355328:=cI (tE (show n+1<=1000001 by omega) hby) (by decide);refine jO hT hR.own (rX (n:=1) hr) (by rw[hl];omega) h1 (by omega) hbt hb λv' w' hO hc hv=>?_;refine hK v' w' ⟨hO,λk hk=>?_,λk hk=>?_⟩ hc hv (hp.row hc hR.off)
 ·rcases hv k hk with e|e
  ·exact(hR.off k e).up hc.size
  ·exact hp.off_new e (qU hO hk).1
 ·rcases hv k hk with e|e
  ·exact hR.new k e
  ·omega
theorem PR.inner{q:Nat}{q':PS}(h:PR w0 w p f M vt s top)(hx:Ext w w1)(hq:PR w0 w' q f M' v q' top)(he:Eff q f M M' w1 w')(hqn:w.heap.size<=q):
  PR w0 w' p f M' vt {s with ex:=q'.ex,bl:=q'.bl} top/\Eff p f M M' w w':=by
 have he':Eff p f M M' w w':=Eff.anew hx he hqn;have hz:=hx.size;have h1:=h.ext hx;refine⟨⟨hq.ch,hq.fr,?_,?_,λe=>?_,h.lo,λk hk=>⟨λe=>?_,(h.nt k hk).2.1,cO (h.nt k hk).2.2 he'.chg.size⟩⟩,he'⟩
 ·exact he.chg.at h1.ps λe=>by
   rcases KA e with e|e
   ·have:=h.lt;omega
   ·exact h.np e
 ·exact yQ h1.tk he.chg λk hk e=>by
   rcases KA e with e|e
   ·have:=(h.nt k hk).2.2;omega
   ·exact(h.nt k hk).1 e
 ·exact(he'.us p e).elim h.np λe=>by have:=h.lt;omega
 ·exact(he'.us k e).elim (h.nt k hk).1 λe=>by have:=(h.nt k hk).2.2;omega
theorem Vm{E:PS->R Nat}{dl:Nat}{t:Str}{a:Int}(hS:yK w0 f)(hE:EC w0 f 82 E dl)(hF:rD E)(h:PR w0 w p f M vt s top)(hg:Gd N s dl)(h0:0<=a)(h1:a+t.length<=N)(hphi:Syn.phi s+t.length<=100000)
  (hK:∀x s',oZ E s t a=.ok x s'->∀M' w',PR w0 w' p f M' vt s' top->Eff p f M M' w w'->K (i64 (x:Nat)) w')(ht:∀c a',oZ E s t a=.err c a'->Thr w0 f c a'):
  aC P0 279 [.pointer (some ⟨p,0,none⟩),str t,i64 a] w K:=by
 refine Wb ?_;unfold aDn;have hN:=hg.hN;refine hS w _ t h.ch (by omega) (λl hl v w1 hx1 hv hvn=>?_) (λc b hb d w1 hx1 hd hdb=>?_)
 ·rw[bK];refine⟨v,rfl,?_⟩;rw[bK];refine⟨.pointer none,rfl,?_⟩;refine bS.cut (λ_ w'=>w'=w1) ?_ ?_
  ·show aR (.bool false) _ _;rw[cX]
  rintro st g w2 rfl;have h2:=(h.ext hx1).drew;have hx2:=hx1.trans (dB w2);refine h2.ld rfl ?_;refine h2.ld rfl ?_;obtain⟨q,cap,ev,_⟩:=hv.shape;subst ev;simp only[gO,dD,GX,cU,aB,aM,aY,bB,Nat.reduceAdd,Nat.reduceLT,dM,aA];refine fS (z:=[.slice q l.length cap,i64 0,i64 a,.pointer (some ⟨f,0,none⟩),i64 (s.deep:Nat),.bool false]) λqb w3 hq hz3 hqb hx3=>?_;have hx03:=hx2.trans hx3;have h3:=h2.ext hx3;have z2:w2.drew.heap.size=w2.heap.size:=rfl;have hz1:=hx1.size;have hq3:PR w0 w3 qb f M (.slice q l.length cap) ⟨l,0,a,s.deep,false,s.ex,s.bl⟩ top:=
   ⟨h3.ch,h3.fr,hqb,hv.ext ((dB w2).trans hx3),λe=>by have:=h.fr.lt _ e;omega,by have:=h.base;omega,λk hk=>by
    have hb:=hvn k hk;exact⟨λe=>by have:=h.fr.lt _ e;omega,by omega,by omega⟩⟩
  have htg:=GP hl h0 h1;have hw:=GO hl;have hgq:Gd N ⟨l,0,a,s.deep,false,s.ex,s.bl⟩ dl:=⟨⟨htg,dP.2 htg.ne,hg.ws.pN⟩,hN,(Iq hl).1,Me hl,by
   unfold Syn.phi at hphi⊢;simp only[cV];omega,hg.lev⟩
  unfold oZ at hK ht;simp only[hl]at hK ht;refine hE w3 qb M _ _ top N _ hq3 hgq (λx q1 e1 M' w4 h4 he4=>?_) λc a' e1=>ht c a' (by rw[e1];rfl);rw[e1]at hK ht;simp only[R.bind]at hK ht;obtain⟨hg1,_⟩:=hgq.e hF e1;refine xV h4 hg1.ws hN hg1.l (λt' q2 e2 w5 h5 he5=>?_) λc a' e2=>ht c a' (by rw[e2]);rw[e2]at hK;obtain⟨h6,he6⟩:=h.inner hx03 h5 (he4.trans he5) (by omega);exact hK x _ rfl M' w5 h6 he6
 ·rw[bK];refine⟨.slice none 0 0,rfl,?_⟩;rw[bK];refine⟨.pointer (some ⟨d,0,none⟩),rfl,?_⟩;refine bS.cut (λ_ _=>False) ?_ (λ_ _ _ h=>h.elim);show aR (.bool true) _ _;rw[dY,dW,bR,dX];refine⟨i64 c,by rw[bZ,cD,heap_drew,hdb,cH];rfl,?_⟩;rw[dW,bR,dX];refine⟨i64 b,by rw[bZ,cD,heap_drew,hdb,cH];rfl,?_⟩;have hsb:=Ir hb;rw[cC,cN (by omega) (by omega)];refine qB (h.ext hx1).drew (ht _ _ ?_);unfold oZ;rw[hb]
end
end
def kW(rest:Str):Nat×Nat:=match Syn.insP rest with|some x=>x|none=>(rest.length,rest.length)
def wI(s:PS)(rest:Str)(a:Int):PS:=if 0<(kW rest).1 then{s with ex:=s.ex++[⟨5,kD (rest.take (kW rest).1),[],[],a⟩]}else s
theorem IQ{E:PS->R Nat}{s:PS}{rest:Str}{a:Int}{av:List Nat}{ks:List Str}(hr:rest≠[])(hn:rest.length<n+1):
  nI E (n+1) s rest a av ks=
   (if(kW rest).1<(kW rest).2 then(within (wI s rest a) (a+(kW rest).1) false λq=>oZ E q ((rest.drop ((kW rest).1+2)).take ((kW rest).2-1-((kW rest).1+2))) (a+(kW rest).1+2)).bind λx s2=>
     nI E n s2 (rest.drop (kW rest).2) (a+(kW rest).2) ((if 0<(kW rest).1 then av++[s.ex.length]else av)++[x]) ((if 0<(kW rest).1 then ks++[[116]]else ks)++[[101]])
   else nI E n (wI s rest a) (rest.drop (kW rest).2) (a+(kW rest).2) (if 0<(kW rest).1 then av++[s.ex.length]else av) (if 0<(kW rest).1 then ks++[[116]]else ks)):=by
 simp only[nI];rw[aE hr];have hpos:0<rest.length:=dP.2 hr;unfold kW wI kW;cases hi:Syn.insP rest with
 |none=>
  simp only;rw[aE (Nat.lt_irrefl _),aJ hpos,aJ hpos,aJ hpos,dR,bO];obtain⟨m,rfl⟩:∃m,n=m+1:=⟨n-1,by omega⟩;simp only[nI,gM]
 |some x=>rfl
theorem Vl{rest:Str}(hx:EL rest):(kW rest).1<=rest.length/\(kW rest).2<=rest.length/\rQ (rest.take (kW rest).1)=true/\EL (rest.drop (kW rest).2)/\((kW rest).1<(kW rest).2->(kW rest).1+3<=(kW rest).2)/\(rest≠[]->0<(kW rest).2)/\(kW rest).1<=(kW rest).2:=by
 obtain⟨h1,h2⟩:=Ky hx;unfold kW;cases hi:Syn.insP rest with
 |none=>
  simp only;exact⟨aS _,aS _,by rw[bO];exact h1 hi,by rw[dR];exact .inl rfl,λe=>absurd e (Nat.lt_irrefl _),λh=>dP.2 h,aS _⟩
 |some x=>
  obtain⟨a,b,c,d⟩:=h2 x.1 x.2 hi;simp only;exact⟨by omega,c,a,d,λ_=>b,λ_=>by omega,by omega⟩
section
variable [HX]
variable{w0 w w' w1:World}{p f b:Nat}{M M':Lay}{vt:Value}{s:PS}{top:List Nat}{N:Int}{K:Q0}
abbrev PpT:TypeId:=67
structure TL(w0 w:World)(p f:Nat)(M:Lay)(vt:Value)(B1 b2 b7 b8 b9:Nat)(ta:Int)(rest:Str)(a:Int)(va vk:Value)(av:List Nat)(ks:List Str):Prop where
 l2:Loc w0 w p f M vt b2 PpT [.pointer (some ⟨p,0,none⟩)]
 l7:Loc w0 w p f M vt b7 ExT [i64 6,str [],va,vk,i64 ta]
 l8:Loc w0 w p f M vt b8 StT [str rest]
 l9:Loc w0 w p f M vt b9 iT [i64 a]
 rA:Ro w0 w p f M vt B1 iT 1 va av.length (ints av)
 rK:Ro w0 w p f M vt B1 StT 1 vk ks.length (strs ks)
 dd:∀k,va.ownBlock=some k->vk.ownBlock≠some k
 lt:b2<B1/\b7<B1/\b8<B1/\b9<B1/\B1<=w.heap.size
 ne:b2≠b7/\b2≠b8/\b2≠b9/\b7≠b8/\b7≠b9/\b8≠b9
section
variable{B1 b2 b7 b8 b9:Nat}{ta:Int}{rest:Str}{a:Int}{va vk:Value}{av:List Nat}{ks:List Str}
theorem TL.eff(h:TL w0 w p f M vt B1 b2 b7 b8 b9 ta rest a va vk av ks)(he:Eff p f M M' w w'):TL w0 w' p f M' vt B1 b2 b7 b8 b9 ta rest a va vk av ks:=
 ⟨h.l2.eff he,h.l7.eff he,h.l8.eff he,h.l9.eff he,h.rA.eff he,h.rK.eff he,h.dd,⟨h.lt.1,h.lt.2.1,h.lt.2.2.1,h.lt.2.2.2.1,cI h.lt.2.2.2.2 he.chg.size⟩,h.ne⟩
theorem TL.ext(h:TL w0 w p f M vt B1 b2 b7 b8 b9 ta rest a va vk av ks)(hx:Ext w w'):TL w0 w' p f M vt B1 b2 b7 b8 b9 ta rest a va vk av ks:=h.eff (Eff.ext hx)
theorem TL.one(h:TL w0 w p f M vt B1 b2 b7 b8 b9 ta rest a va vk av ks)(hc:Chg (One b) w w')(hb:B1<=b)(hA:va.ownBlock≠some b)(hK:vk.ownBlock≠some b):TL w0 w' p f M vt B1 b2 b7 b8 b9 ta rest a va vk av ks:=by
 obtain⟨q1,q2,q3,q4,q5⟩:=h.lt;exact⟨h.l2.one hc (by omega),h.l7.one hc (by omega),h.l8.one hc (by omega),h.l9.one hc (by omega),h.rA.one hc hA,h.rK.one hc hK,h.dd,⟨q1,q2,q3,q4,cI q5 hc.size⟩,h.ne⟩
theorem TL.noA(h:TL w0 w p f M vt B1 b2 b7 b8 b9 ta rest a va vk av ks){k:Nat}(hk:k<B1):va.ownBlock≠some k/\vk.ownBlock≠some k:=
 ⟨λe=>by have:=h.rA.new k e;omega,λe=>by have:=h.rK.new k e;omega⟩
theorem TL.args{w2 w3:World}{va':Value}{x:Nat}(h:TL w0 w p f M vt B1 b2 b7 b8 b9 ta rest a va vk av ks)(hR:Ro w0 w2 p f M vt B1 iT 1 va' (av++[x]).length (ints (av++[x])))(hc:Chg (λk=>va.ownBlock=some k) w w2)(hv:∀k,va'.ownBlock=some k->va.ownBlock=some k\/w.heap.size<=k)
  (hc3:Chg (One b7) w2 w3)(hb:w3.heap[b7]?=some (.cells [i64 6,str [],va',vk,i64 ta].toArray ExT (0,0))):TL w0 w3 p f M vt B1 b2 b7 b8 b9 ta rest a va' vk (av++[x]) ks:=by
 obtain⟨q1,q2,q3,q4,q5⟩:=h.lt;obtain⟨n1,n2,n3,n4,n5,n6⟩:=h.ne;have z:=hc3.size;have o7:=((h.l7.row hc (h.noA q2).1).2).up z;refine⟨(h.l2.row hc (h.noA q1).1).one hc3 n1,⟨hb,o7⟩,(h.l8.row hc (h.noA q3).1).one hc3 (uP n4),(h.l9.row hc (h.noA q4).1).one hc3 (uP n5),hR.one hc3 λe=>by have:=hR.new b7 e;omega,
  (h.rK.row hc λk hk e=>h.dd k e hk).one hc3 (h.noA q2).2,λk hk=>?_,⟨q1,q2,q3,q4,cI q5 (cI hc.size z)⟩,h.ne⟩
 rcases hv k hk with e|e
 ·exact h.dd k e
 ·intro e';have:=(h.rK.off k e').1.2;omega
theorem TL.keys{w2 w3:World}{vk':Value}{x:Str}(h:TL w0 w p f M vt B1 b2 b7 b8 b9 ta rest a va vk av ks)(hR:Ro w0 w2 p f M vt B1 StT 1 vk' (ks++[x]).length (strs (ks++[x])))(hc:Chg (λk=>vk.ownBlock=some k) w w2)(hv:∀k,vk'.ownBlock=some k->vk.ownBlock=some k\/w.heap.size<=k)
  (hc3:Chg (One b7) w2 w3)(hb:w3.heap[b7]?=some (.cells [i64 6,str [],va,vk',i64 ta].toArray ExT (0,0))):TL w0 w3 p f M vt B1 b2 b7 b8 b9 ta rest a va vk' av (ks++[x]):=by
 obtain⟨q1,q2,q3,q4,q5⟩:=h.lt;obtain⟨n1,n2,n3,n4,n5,n6⟩:=h.ne;have z:=hc3.size;have o7:=((h.l7.row hc (h.noA q2).2).2).up z;refine⟨(h.l2.row hc (h.noA q1).2).one hc3 n1,⟨hb,o7⟩,(h.l8.row hc (h.noA q3).2).one hc3 (uP n4),(h.l9.row hc (h.noA q4).2).one hc3 (uP n5),(h.rA.row hc λk hk e=>h.dd k hk e).one hc3 (h.noA q2).1,
  hR.one hc3 λe=>by have:=hR.new b7 e;omega,λk hk e'=>?_,⟨q1,q2,q3,q4,cI q5 (cI hc.size z)⟩,h.ne⟩
 rcases hv k e' with e|e
 ·exact h.dd k hk e
 ·have:=(h.rA.off k hk).1.2;omega
theorem TL.appA{x:Nat}{r:Nat}{ty:TypeId}{KW:World->Prop}(h:TL w0 w p f M vt B1 b2 b7 b8 b9 ta rest a va vk av ks)(hp:PR w0 w p f M vt s top)(hr:w.heap[r]?=some (.cells [i64 (x:Nat)].toArray iT (0,0)))(hn:av.length<=1000000)
  (hK:∀va' w',TL w0 w' p f M vt B1 b2 b7 b8 b9 ta rest a va' vk (av++[x]) ks->PR w0 w' p f M vt s top->Chg (λk=>va.ownBlock=some k\/k=b7) w w'->(∀k,va'.ownBlock=some k->va.ownBlock=some k\/w.heap.size<=k)->KW w'):
  dF P0 (Builtin.append_ #[30,30] ty #[va,.slice (some ⟨r,0,none⟩) 1 1]) w λt62 w36=>aZ 2 (.pointer (some ⟨b7,0,none⟩)) λt63=>stW 1 t63 t62 w36 KW:=by
 obtain⟨q1,q2,q3,q4,q5⟩:=h.lt;refine Ro.app BJ h.rA hp hr rfl (λu hu=>by simp only[bP]at hu;subst hu;rfl) hn (by decide) q5 λv' w2 hR hc hv hp2=>?_;have e1:(av++[x]).length=av.length+1:=by simp
 have e2:ints (av++[x])=ints av++[i64 (x:Nat)]:=by simp[ints]
 rw[<-e1,<-e2]at hR;rw[bR,bZ,aV];obtain⟨vp,vc,ev,_⟩:=hR.own.sl.shape;refine(h.l7.row hc (h.noA q2).1).st (by rw[ev];rfl) (by simp) λw3 L3 hc3 hz3=>?_;exact hK v' w3 (h.args hR hc hv hc3 (by rw[L3.1];rfl)) (hp2.one hc3 ⟨⟨L3.2.1.1,by have:=L3.2.1.2;omega⟩,L3.2.2⟩) ((hc.mono λk _ e=>.inl e).trans (hc3.mono λk _ e=>.inr e)) hv
theorem TL.appK{x:Str}{r:Nat}{ty:TypeId}{KW:World->Prop}(h:TL w0 w p f M vt B1 b2 b7 b8 b9 ta rest a va vk av ks)(hp:PR w0 w p f M vt s top)(hr:w.heap[r]?=some (.cells [str x].toArray StT (0,0)))(hn:ks.length<=1000000)
  (hK:∀vk' w',TL w0 w' p f M vt B1 b2 b7 b8 b9 ta rest a va vk' av (ks++[x])->PR w0 w' p f M vt s top->Chg (λk=>vk.ownBlock=some k\/k=b7) w w'->(∀k,vk'.ownBlock=some k->vk.ownBlock=some k\/w.heap.size<=k)->KW w'):
  dF P0 (Builtin.append_ #[24,24] ty #[vk,.slice (some ⟨r,0,none⟩) 1 1]) w λt62 w36=>aZ 3 (.pointer (some ⟨b7,0,none⟩)) λt63=>stW 1 t63 t62 w36 KW:=by
 obtain⟨q1,q2,q3,q4,q5⟩:=h.lt;refine Ro.app Rm h.rK hp hr rfl (λu hu=>by simp only[bP]at hu;subst hu;rfl) hn (by decide) q5 λv' w2 hR hc hv hp2=>?_;have e1:(ks++[x]).length=ks.length+1:=by simp
 have e2:strs (ks++[x])=strs ks++[str x]:=by simp[strs]
 rw[<-e1,<-e2]at hR;rw[bR,bZ,aV];obtain⟨vp,vc,ev,_⟩:=hR.own.sl.shape;refine(h.l7.row hc (h.noA q2).2).st (by rw[ev];rfl) (by simp) λw3 L3 hc3 hz3=>?_;exact hK v' w3 (h.keys hR hc hv hc3 (by rw[L3.1];rfl)) (hp2.one hc3 ⟨⟨L3.2.1.1,by have:=L3.2.1.2;omega⟩,L3.2.2⟩) ((hc.mono λk _ e=>.inl e).trans (hc3.mono λk _ e=>.inr e)) hv
theorem YA{E:PS->R Nat}{dl e b10 b11:Nat}{M0:Lay}{wb:World}(he0:Eff p f M0 M wb w)(hw7:wb.heap.size<=b7)(hwB:wb.heap.size<=B1)(hS:yK w0 f)(hE:EC w0 f 82 E dl)(hF:rD E)(h:PR w0 w p f M vt s top)(hg:Gd N s dl)(hT:TL w0 w p f M vt B1 b2 b7 b8 b9 ta rest a va vk av ks)
  (l10:Loc w0 w p f M vt b10 iT [i64 (i:Nat)])(l11:Loc w0 w p f M vt b11 iT [i64 (e:Nat)])(n10:va.ownBlock≠some b10/\vk.ownBlock≠some b10/\b10≠b7)(n11:va.ownBlock≠some b11/\vk.ownBlock≠some b11/\b11≠b7)
  (hie:i+3<=e)(hel:e<=rest.length)(h0:0<=a)(h1:a+rest.length+1<=N)(hphi:Syn.phi s+(e-1-(i+2))<=100000)(hn:av.length<=1000000)
  (hK:∀x s',oZ E s ((rest.drop (i+2)).take (e-1-(i+2))) (a+i+2)=.ok x s'->∀M' va' w',PR w0 w' p f M' vt s' top->Eff p f M0 M' wb w'->TL w0 w' p f M' vt B1 b2 b7 b8 b9 ta rest a va' vk (av++[x]) ks->
    Loc w0 w' p f M' vt b10 iT [i64 (i:Nat)]->Loc w0 w' p f M' vt b11 iT [i64 (e:Nat)]->(va'.ownBlock≠some b10/\va'.ownBlock≠some b11)->K (.tuple #[]) w')
  (ht:∀c a',oZ E s ((rest.drop (i+2)).take (e-1-(i+2))) (a+i+2)=.err c a'->Thr w0 f c a'):
  aC P0 278 [.pointer (some ⟨b7,0,none⟩),.pointer (some ⟨b2,0,none⟩),.pointer (some ⟨b8,0,none⟩),.pointer (some ⟨b10,0,none⟩),.pointer (some ⟨b11,0,none⟩),.pointer (some ⟨b9,0,none⟩)] w K:=by
 refine Wc ?_;unfold aDo;have hN:=hg.hN;have T1:=hT.ext (dB w);have h1':=h.drew;have k10:=l10.drew;have k11:=l11.drew;rw[bR,bZ,aV];refine T1.l7.ld rfl ?_;refine T1.l2.ld rfl ?_;refine T1.l8.ld rfl ?_;refine k10.ld rfl ?_;rw[cC,cN (by omega) (by omega)];refine k11.ld rfl ?_;rw[mB,cN (by omega) (by omega),gH,eX];refine⟨by omega,by omega,?_⟩;rw[eX];refine⟨by omega,by omega,?_⟩;refine T1.l9.ld rfl ?_;refine k10.ld rfl ?_;rw[cC,cN (by omega) (by omega),cC,cN (by omega) (by omega)];have et:(rest.take ((e:Int)-1).toNat).drop ((i:Int)+2).toNat=(rest.drop (i+2)).take (e-1-(i+2)):=by
  rw[show((e:Int)-1).toNat=e-1 by omega,show((i:Int)+2).toNat=i+2 by omega,List.drop_take]
 rw[et];have hlen:((rest.drop (i+2)).take (e-1-(i+2))).length=e-1-(i+2):=by rw[bU,aQ];omega
 refine Vm hS hE hF h1' hg (by omega) (by rw[hlen];omega) (by rw[hlen];exact hphi) (λx s' hx M' w2 h2 he2=>?_) ht;have T2:=T1.eff he2;have ld7:∀{w3:World},TL w0 w3 p f M' vt B1 b2 b7 b8 b9 ta rest a va vk av ks->ldW false 1 (.pointer (some ⟨b7,2,none⟩)) w3 λx=>x=va:=λT=>T.l7.ld rfl rfl;refine⟨ld7 T2,?_⟩;refine jS λr w3 hr hz3 hrb hx3=>?_;have T3:=T2.ext hx3;refine⟨ld7 T3,?_⟩;refine T3.appA (h2.ext hx3) hrb hn λva' w4 T4 h4 hc4 hv4=>?_;have he23:=(Eff.ext (dB w)).trans (he2.x hx3);have z3:=he23.chg.size;have j10:=(k10.eff he2).ext hx3;have j11:=(k11.eff he2).ext hx3;have b7o:=T3.l7.2;have heb:Eff p f M0 M' wb w4:=(he0.trans he23).then hc4 λk hk e=>by
  rcases e with e|e
  ·have:=hT.rA.new k e;omega
  ·omega
 exact hK x s' hx M' va' w4 h4 heb T4 ⟨hc4.at j10.1 λe=>e.elim n10.1 n10.2.2,j10.2.up hc4.size⟩ ⟨hc4.at j11.1 λe=>e.elim n11.1 n11.2.2,j11.2.up hc4.size⟩ ⟨λe=>(hv4 _ e).elim n10.1 λe=>by have:=j10.lt;omega,λe=>(hv4 _ e).elim n11.1 λe=>by have:=j11.lt;omega⟩
end
end
def Pb(w:World)(b:Nat):Nat:=match w.heap[b]? with|some (.cells c _ _)=>(match(c[0]?:Option Value)with|some (Value.string t)=>t.size|_=>0)|_=>0
section
variable [HX]
variable{w0 w w' w1:World}{p f b:Nat}{M M':Lay}{vt:Value}{s:PS}{top:List Nat}{N:Int}{K:Q0}
theorem Loc.strat{rest:Str}(h:Loc w0 w p f M vt b StT [str rest]):Pb w b=rest.length:=by
 unfold Pb;rw[h.1];simp[fL]
theorem sY{K:Q0}(h1:fG v=true)(h:∀a w',a=w.heap.size->w'.heap.size=w.heap.size+1->w'.heap[a]?=some (.cells [v].toArray T (0,0))->Ext w w'->K (.pointer (some ⟨a,0,none⟩)) w'):eL T v w K:=by
 have hc:v.cells=#[v]:=by cases v<;>first|rfl|(simp[fG]at h1)
 unfold eL;rw[hc];exact h _ _ rfl (by simp) (gQ _ _ _ rfl) (Chg.alloc (Chg.refl _ _) _)
theorem Gd.put{N:Int}{s:PS}{dl:Nat}(h:Gd N s dl){e:Ex}(hp:Syn.phi s+1<=100000):Gd N {s with ex:=s.ex++[e]} dl:=⟨⟨h.ws.tg,h.ws.lt,h.ws.pN⟩,h.hN,h.few,h.ts,cI (kK s e) hp,h.lev⟩
theorem II{M0:Lay}{wb:World}{l:Str}{a:Int}(h:PR w0 w p f M vt s top)(he:Eff p f M0 M wb w)(hlen:s.ex.length<=1000000)
  (hK:∀M' w',PR w0 w' p f M' vt {s with ex:=s.ex++[⟨5,l,[],[],a⟩]} top->Eff p f M0 M' wb w'->(∀b T cs,Loc w0 w p f M vt b T cs->Loc w0 w' p f M' vt b T cs)->(∀wb T m v n xs,Ro w0 w p f M vt wb T m v n xs->Ro w0 w' p f M' vt wb T m v n xs)->w.heap.size<=w'.heap.size->K (i64 (s.ex.length:Nat)) w'):
  aC P0 117 [.pointer (some ⟨p,0,none⟩),.agg [i64 5,str l,.slice none 0 0,.slice none 0 0,i64 a].toArray] w K:=by
 have hub:ub [i64 5,str l,.slice none 0 0,.slice none 0 0,i64 a]=[]:=rfl;refine KU (M0:=M) (wb:=w) (e:=⟨5,l,[],[],a⟩) h (Eff.refl _ _ _ _) ⟨.slice none 0 0,.slice none 0 0,rfl,⟨by simp[ints],.inl ⟨rfl,rfl⟩⟩,⟨by simp[strs],.inl ⟨rfl,rfl⟩⟩⟩ (by rw[hub];intro k hk;cases hk) (by rw[hub];exact List.nodup_nil) (by rw[hub];intro k hk;cases hk) hlen λM' w' h' he' hl'=>?_;exact hK M' w' h' (he.trans he') (λb T cs hL=>hl' b T cs hL (by rw[hub];exact fD)) (λwb T m v n xs hR=>hR.eff he') he'.chg.size
theorem YT{E:PS->R Nat}{dl:Nat}{t:Tok}(hS:yK w0 f)(hE:∀d,dl=d+1->EC w0 f 82 E d)(hF:rD E)(h:PR w0 w p f M vt s top)(hg:Gd N s dl)(hx:EL t.t)(hl:t.t.length<=100000)
  (ha:0<=t.a/\t.a<=N)(hte:HZ N t.a t.t)(hphi:Syn.phi s+wt {t with k:=3}<=100000)
  (hK:∀x s',Cd E s t=.ok x s'->∀M' w',PR w0 w' p f M' vt s' top->Eff p f M M' w w'->K (i64 (x:Nat)) w')(ht:∀c a',Cd E s t=.err c a'->Thr w0 f c a'):
  aC P0 258 [.pointer (some ⟨p,0,none⟩),.agg (fK t).toArray] w K:=by
 refine Wm ?_;unfold aDx;have hN:=hg.hN;refine sY rfl λb2 w1 hb2 hz1 hbb1 hx1=>?_;have h1:=h.ext hx1;have L1:=h.loc hz1 hb2 hbb1;refine fS (z:=fK t) λb3 w2 hb3 hz2 hbb2 hx2=>?_;have h2:=h1.ext hx2;have L12:=L1.ext hx2;have L2:=h1.loc hz2 hb3 hbb2;have he2:Eff p f M M w w2:=(Eff.ext hx1).x hx2;refine L2.ldf rfl ?_;refine xW (by omega) ?_;rw[bK];unfold Cd at hK ht;cases hi:Syn.insP t.t with
 |none=>
  have ei:BE t.t=[i64 (-1),i64 0]:=by unfold BE;rw[hi]
  rw[ei];refine⟨i64 (-1),rfl,?_⟩;rw[bK];refine⟨i64 0,rfl,?_⟩;rw[eC,aO];refine⟨λ_=>?_,λe=>by omega⟩;rw[hi]at hK ht;simp only[Option.isSome_none,fH,kH]at hK ht;refine L12.drew.ld rfl ?_;refine L2.drew.ldf rfl ?_;rw[bR,bZ,aV];refine L2.drew.ld rfl ?_;refine KJ ((Ky hx).1 hi) (by omega) λw3 hx3=>?_;have L3:=L2.drew.ext hx3;have L13:=L12.drew.ext hx3;refine⟨L3.ld rfl rfl,L13.ld rfl rfl,?_⟩;simp only[dD,eJ,cU,aB,aM,aY,bB,Nat.reduceAdd,Nat.reduceLT,dM,aA];have h3:=h2.drew.ext hx3;refine II h3 ((he2.x (dB w2)).x hx3) (by have:=hg.ex;omega) λM' w4 h4 he4 _ _ _=>?_;exact hK _ _ rfl M' w4 h4 he4
 |some ie=>
  have ei:BE t.t=[i64 (ie.1:Nat),i64 (ie.2:Nat)]:=by unfold BE;rw[hi]
  rw[ei];refine⟨i64 (ie.1:Nat),rfl,?_⟩;rw[bK];refine⟨i64 (ie.2:Nat),rfl,?_⟩;rw[eC,aO];refine⟨λe=>by omega,λ_=>?_⟩;rw[hi]at hK ht;simp only[Option.isSome_some,gM]at hK ht;have hte:t.a+t.t.length+2<=N:=hte.resolve_left λe=>by rw[e]at hi;cases hi
  have hwt:wt {t with k:=3}=t.t.length+2:=by unfold wt;rw[aE (by simp),aJ ⟨rfl,by rw[hi];rfl⟩]
  rw[hwt]at hphi;refine L2.ldf rfl ?_;simp only[dD,eJ,cU,aB,aM,aY,bB,Nat.reduceAdd,Nat.reduceLT,dM,aA];refine bF λb7 w3 hb7 hz3 hbb3 hx3=>?_;have h3:=h2.ext hx3;have L3:=h2.loc hz3 hb7 hbb3;refine cG (l:=[i64 6,str [],.slice none 0 0,.slice none 0 0,i64 t.a]) hbb3 rfl rfl rfl λw4 hz4 hbb4 hc4=>?_;have L4:Loc w0 w4 p f M vt b7 ExT [i64 6,str [],.slice none 0 0,.slice none 0 0,i64 t.a]:=⟨hbb4,L3.2.up (by omega)⟩;have h4:=h3.one hc4 L3.2;have L14:=(L12.ext hx3).one hc4 (by omega);have L24:=(L2.ext hx3).one hc4 (by omega);have he4:Eff p f M M w w4:=(he2.x hx3).one hc4 (by omega);refine bS.cut (λst w'=>∃b8 b9 B1,st=[.pointer (some ⟨b8,0,none⟩),.pointer (some ⟨b9,0,none⟩)]/\TL w0 w' p f M vt B1 b2 b7 b8 b9 t.a t.t (t.a+1) (.slice none 0 0) (.slice none 0 0) [] []/\PR w0 w' p f M vt s top/\Eff p f M M w w'/\w.heap.size<=B1/\w.heap.size<=b8/\w.heap.size<=b9) ?_ ?_
  ·have L4d:=L4.drew;have L14d:=L14.drew;have L24d:=L24.drew;have h4d:=h4.drew;have he4d:=he4.x (dB w4);have ld1:∀{w':World},Loc w0 w' p f M vt b3 TkT (fK t)->ldW false 1 (.pointer (some ⟨b3,1,none⟩)) w' λx=>x=str t.t:=λL=>L.ld rfl rfl;have ld2:∀{w':World},Loc w0 w' p f M vt b3 TkT (fK t)->ldW false 1 (.pointer (some ⟨b3,2,none⟩)) w' λx=>x=i64 t.a:=λL=>L.ld rfl rfl;rw[bR,bZ,aV];refine L24d.ld rfl ?_;rw[bR,bZ,aV];refine L24d.ld rfl ?_;rw[cC,cN (by omega) (by omega)];have zd:w4.drew.heap.size=w4.heap.size:=rfl;have fin:∀{w5:World} {b8 b9:Nat},PR w0 w5 p f M vt s top->Eff p f M M w w5->Loc w0 w5 p f M vt b2 PpT [.pointer (some ⟨p,0,none⟩)]->Loc w0 w5 p f M vt b7 ExT [i64 6,str [],.slice none 0 0,.slice none 0 0,i64 t.a]->Loc w0 w5 p f M vt b8 StT [str t.t]->Loc w0 w5 p f M vt b9 iT [i64 (t.a+1)]->w4.heap.size<=b8->w4.heap.size<=b9->b8≠b9->
     ∃b8' b9' B1,[Value.pointer (some ⟨b8,0,none⟩),.pointer (some ⟨b9,0,none⟩)]=[.pointer (some ⟨b8',0,none⟩),.pointer (some ⟨b9',0,none⟩)]/\TL w0 w5 p f M vt B1 b2 b7 b8' b9' t.a t.t (t.a+1) (.slice none 0 0) (.slice none 0 0) [] []/\PR w0 w5 p f M vt s top/\Eff p f M M w w5/\w.heap.size<=B1/\w.heap.size<=b8'/\w.heap.size<=b9':=λ{w5 b8 b9} hp he l2 l7 l8 l9 g8 g9 gn=>
    ⟨b8,b9,w5.heap.size,rfl,⟨l2,l7,l8,l9,Ro.nil _ _,Ro.nil _ _,λk hk=>by simp[Value.ownBlock]at hk,⟨l2.lt,l7.lt,l8.lt,l9.lt,aS _⟩,⟨by omega,by omega,by omega,by omega,by omega,gn⟩⟩,hp,he,he.chg.size,by omega,by omega⟩
   refine⟨?_,?_⟩
   ·refine bF λb8 w5 hb8 hz5 hbb5 hx5=>?_;have L8:=h4d.loc hz5 hb8 hbb5;have h5:=h4d.ext hx5;have T5:=L24d.ext hx5;refine⟨ld2 T5,ld1 T5,?_⟩;refine bF λb9 w6 hb9 hz6 hbb6 hx6=>?_;have L9:=h5.loc hz6 hb9 hbb6;have h6:=h5.ext hx6;have T6:=T5.ext hx6;refine⟨ld2 T6,ld1 T6,?_⟩;refine(L8.ext hx6).st rfl (by simp) λw7 L87 hc7 hz7=>?_;have h7:=h6.one hc7 (L8.ext hx6).2;have T7:=T6.one hc7 (by omega);refine⟨ld2 T7,?_⟩;refine(L9.one hc7 (by omega)).st rfl (by simp) λw8 L98 hc8 hz8=>?_;have h8:=h7.one hc8 (L9.one hc7 (by omega)).2;exact fin h8 ((((he4d.x hx5).x hx6).one hc7 (by omega)).one hc8 (by omega)) ((((L14d.ext hx5).ext hx6).one hc7 (by omega)).one hc8 (by omega)) ((((L4d.ext hx5).ext hx6).one hc7 (by omega)).one hc8 (by omega)) (L87.one hc8 (by omega)) L98 (by omega) (by omega) (by omega)
   ·refine bF λb9 w5 hb9 hz5 hbb5 hx5=>?_;have L9:=h4d.loc hz5 hb9 hbb5;have h5:=h4d.ext hx5;have T5:=L24d.ext hx5;refine⟨ld2 T5,ld1 T5,?_⟩;refine bF λb8 w6 hb8 hz6 hbb6 hx6=>?_;have L8:=h5.loc hz6 hb8 hbb6;have h6:=h5.ext hx6;have T6:=T5.ext hx6;refine⟨ld2 T6,ld1 T6,?_⟩;refine L8.st rfl (by simp) λw7 L87 hc7 hz7=>?_;have h7:=h6.one hc7 L8.2;have T7:=T6.one hc7 (by omega);refine⟨ld2 T7,?_⟩;refine((L9.ext hx6).one hc7 (by omega)).st rfl (by simp) λw8 L98 hc8 hz8=>?_;have h8:=h7.one hc8 ((L9.ext hx6).one hc7 (by omega)).2;exact fin h8 ((((he4d.x hx5).x hx6).one hc7 (by omega)).one hc8 (by omega)) ((((L14d.ext hx5).ext hx6).one hc7 (by omega)).one hc8 (by omega)) ((((L4d.ext hx5).ext hx6).one hc7 (by omega)).one hc8 (by omega)) (L87.one hc8 (by omega)) L98 (by omega) (by omega) (by omega)
  rintro st g w5 ⟨b8,b9,B1,rfl,T5,h5,he5,hB1,hB8,hB9⟩;simp only[aG,dE];clear L1 L12 L2 L3 L4 L14 L24;have hz5:=he5.chg.size;generalize hR:nI E (t.t.length+1) s t.t (t.a+1) [] []=R0 at hK ht;refine cZ.go (λst w'=>st=[]/\∃s1 M1 rest a va vk av ks n,PR w0 w' p f M1 vt s1 top/\Gd N s1 dl/\Eff p f M M1 w w'/\TL w0 w' p f M1 vt B1 b2 b7 b8 b9 t.a rest a va vk av ks/\nI E n s1 rest a av ks=R0/\rest.length<n/\EL rest/\0<=a/\a+rest.length+1<=N/\Syn.phi s1+rest.length+1<=100000/\av.length+2*rest.length<=2*t.t.length/\ks.length=av.length)
   (λ_ w'=>Pb w' b8) ⟨rfl,s,M,t.t,t.a+1,_,_,[],[],t.t.length+1,h5,hg,he5,T5,hR,by omega,hx,by omega,by omega,by omega,by simp,rfl⟩ ?_
  rintro st g2 w6 ⟨rfl,s1,M1,rest,a,va,vk,av,ks,n,h6,hg1,he6,T6,hpf,hn,hxr,ha0,haN,hph,hav,hks⟩;have hw6:=he6.chg.size;refine T6.l8.ld rfl ?_;rw[wT,aO];refine⟨λhne=>?_,λhne=>?_⟩
  ·obtain⟨n,rfl⟩:∃m,n=m+1:=⟨n-1,by omega⟩;rw[IQ hne hn]at hpf;obtain⟨i1,i2,i3,i4,i5,i6,i7⟩:=Vl hxr;have i6:=i6 hne;refine T6.l8.ld rfl ?_;refine xW (by omega) ?_;have hlen:rest.length<=100000:=by omega
   have two:∃u v:Int,BE rest=[i64 u,i64 v]/\((Syn.insP rest=none/\u=-1)\/(Syn.insP rest≠none/\u=((kW rest).1:Nat)/\v=((kW rest).2:Nat))):=by
    unfold kW BE;cases hr:Syn.insP rest with
    |none=>exact⟨-1,0,rfl,.inl ⟨rfl,rfl⟩⟩
    |some x=>exact⟨_,_,rfl,.inr ⟨by simp,rfl,rfl⟩⟩
   obtain⟨u,v,euv,huv⟩:=two;rw[euv,bK];refine⟨i64 u,rfl,?_⟩;rw[bK];refine⟨i64 v,rfl,?_⟩;refine bF λb10 w7 hb10 hz7 hbb7 hx7=>?_;have h7:=h6.ext hx7;have T7:=T6.ext hx7;have l10:=h6.loc hz7 hb10 hbb7;refine bF λb11 w8 hb11 hz8 hbb8 hx8=>?_;have h8:=h7.ext hx8;have T8:=T7.ext hx8;have l11:=h7.loc hz8 hb11 hbb8;have hB6:=T6.lt.2.2.2.2;have nA10:∀k,va.ownBlock=some k->k<w6.heap.size:=λk hk=>(T6.rA.off k hk).1.2;have nK10:∀k,vk.ownBlock=some k->k<w6.heap.size:=λk hk=>(T6.rK.off k hk).1.2;have no10:va.ownBlock≠some b10/\vk.ownBlock≠some b10:=⟨λe=>by have:=nA10 _ e;omega,λe=>by have:=nK10 _ e;omega⟩;have no11:va.ownBlock≠some b11/\vk.ownBlock≠some b11:=⟨λe=>by have:=nA10 _ e;omega,λe=>by have:=nK10 _ e;omega⟩;refine(l10.ext hx8).st rfl (by simp) λw9 l10 hc9 hz9=>?_;have h9:=h8.one hc9 l10.2;have T9:=T8.one hc9 (by omega) no10.1 no10.2;refine(l11.one hc9 (by omega)).st rfl (by simp) λw10 l11 hc10 hz10=>?_;have l10:=l10.one hc10 (by omega);have h10:=h9.one hc10 l11.2;have T10:=T9.one hc10 (by omega) no11.1 no11.2;have he10:Eff p f M M1 w w10:=(((he6.x hx7).x hx8).one hc9 (by omega)).one hc10 (by omega);simp only[aY]at l10 l11;refine bS.cut (λ_ w'=>Loc w0 w' p f M1 vt b10 iT [i64 ((kW rest).1:Nat)]/\Loc w0 w' p f M1 vt b11 iT [i64 ((kW rest).2:Nat)]/\PR w0 w' p f M1 vt s1 top/\TL w0 w' p f M1 vt B1 b2 b7 b8 b9 t.a rest a va vk av ks/\Eff p f M M1 w w'/\w10.heap.size<=w'.heap.size) ?_ ?_
   ·refine l10.ld rfl ?_;rw[eC,aO];refine⟨λhlt=>?_,λhge=>?_⟩
    ·have hnone:Syn.insP rest=none:=by
      rcases huv with h|h
      ·exact h.1
      ·omega
     have eI:kW rest=(rest.length,rest.length):=by unfold kW;rw[hnone]
     have T11:=T10.ext (dB w10);refine T11.l8.ld rfl ?_;rw[fX];refine T11.l8.ld rfl ?_;rw[fX];refine l10.drew.st rfl (by simp) λw12 l10 hc12 hz12=>?_;have h12:=h10.drew.one hc12 l10.2;have T12:=T11.one hc12 (by omega) no10.1 no10.2;refine⟨T12.l8.ld rfl rfl,?_⟩;have zd:w10.drew.heap.size=w10.heap.size:=rfl;refine(l11.drew.one hc12 (by omega)).st rfl (by simp) λw13 l11 hc13 hz13=>?_;have h13:=h12.one hc13 l11.2;have T13:=T12.one hc13 (by omega) no11.1 no11.2;have l10:=l10.one hc13 (by omega);simp only[aY]at l10 l11;rw[eI];exact⟨l10,l11,h13,T13,((he10.x (dB _)).one hc12 (by omega)).one hc13 (by omega),by omega⟩
    ·rcases huv with h|⟨_,e1,e2⟩
     ·omega
     ·rw[e1]at l10;rw[e2]at l11;exact⟨l10,l11,h10,T10,he10,aS _⟩
   rintro _ g3 w14 ⟨l10,l11,h14,T14,he14,hz14⟩;clear hc9 hc10 h7 h8 h9 h10 T7 T8 T9 T10 he10;generalize hI:(kW rest).1=I at*
   generalize hE':(kW rest).2=E' at*
   have hw14:=he14.chg.size;refine bS.cut (λ_ w'=>∃M2 va2 vk2,PR w0 w' p f M2 vt (wI s1 rest a) top/\Eff p f M M2 w w'/\TL w0 w' p f M2 vt B1 b2 b7 b8 b9 t.a rest a va2 vk2 (if 0<I then av++[s1.ex.length]else av) (if 0<I then ks++[[116]]else ks)/\Loc w0 w' p f M2 vt b10 iT [i64 (I:Nat)]/\Loc w0 w' p f M2 vt b11 iT [i64 (E':Nat)]/\(va2.ownBlock≠some b10/\vk2.ownBlock≠some b10)/\(va2.ownBlock≠some b11/\vk2.ownBlock≠some b11)) ?_ ?_
   ·refine l10.ld rfl ?_;rw[mC,aO];unfold wI;rw[hI];refine⟨λhpos=>?_,λhpos=>?_⟩
    ·have hpos:0<I:=by omega
     simp only[aJ hpos];have T15:=T14.ext (dB w14);have h15:=h14.drew;have l10:=l10.drew;have l11:=l11.drew;rw[bR,bZ,aV];refine T15.l7.ld rfl ?_;refine T15.l2.ld rfl ?_;refine T15.l8.ld rfl ?_;refine l10.ld rfl ?_;rw[gH,eX];refine⟨by omega,by omega,?_⟩;rw[fI,cV,aW];refine T15.l9.ld rfl ?_;refine KJ i3 (by rw[bU];omega) λw16 hx16=>?_;have T16:=T15.ext hx16;have h16:=h15.ext hx16;have l10:=l10.ext hx16;have l11:=l11.ext hx16;refine⟨T16.l9.ld rfl rfl,T16.l2.ld rfl rfl,T16.l7.ld rfl rfl,?_⟩;simp only[dD,eJ,cU,aB,aM,aY,bB,Nat.reduceAdd,Nat.reduceLT,dM,aA];have he16:=(he14.x (dB w14)).x hx16;refine II h16 he16 (by have:=hg1.ex;omega) λM2 w17 h17 he17 hl17 hr17 hz17=>?_;have T17:TL w0 w17 p f M2 vt B1 b2 b7 b8 b9 t.a rest a va vk av ks:=⟨hl17 _ _ _ T16.l2,hl17 _ _ _ T16.l7,hl17 _ _ _ T16.l8,hl17 _ _ _ T16.l9,hr17 _ _ _ _ _ _ T16.rA,hr17 _ _ _ _ _ _ T16.rK,T16.dd,⟨T16.lt.1,T16.lt.2.1,T16.lt.2.2.1,T16.lt.2.2.2.1,cI T16.lt.2.2.2.2 hz17⟩,T16.ne⟩;have l10:=hl17 _ _ _ l10;have l11:=hl17 _ _ _ l11;refine⟨T17.l7.ld rfl rfl,?_⟩;refine jS λr w18 hr hz18 hrb hx18=>?_;have T18:=T17.ext hx18;refine⟨T18.l7.ld rfl rfl,?_⟩;refine T18.appA (h17.ext hx18) hrb (by omega) λva2 w19 T19 h19 hc19 hv19=>?_;have n7:=T18.lt.2.1;have l10':Loc w0 w19 p f M2 vt b10 iT [i64 (I:Nat)]:=⟨hc19.at (l10.ext hx18).1 λe=>e.elim no10.1 (by omega),(l10.ext hx18).2.up hc19.size⟩;have l11':Loc w0 w19 p f M2 vt b11 iT [i64 (E':Nat)]:=⟨hc19.at (l11.ext hx18).1 λe=>e.elim no11.1 (by omega),(l11.ext hx18).2.up hc19.size⟩;have a10:va2.ownBlock≠some b10:=λe=>(hv19 _ e).elim no10.1 λe=>by have:=(l10.ext hx18).lt;omega
     have a11:va2.ownBlock≠some b11:=λe=>(hv19 _ e).elim no11.1 λe=>by have:=(l11.ext hx18).lt;omega
     have hw16:=he16.chg.size;have he19:Eff p f M M2 w w19:=(he17.x hx18).then hc19 λk hk e=>by
      rcases e with e|e
      ·have:=T6.rA.new k e;omega
      ·omega
     rw[bR,bZ,aV];refine T19.l7.ld rfl ?_;refine wS λr2 w20 hr2 hz20 hrb2 hx20=>?_;have T20:=T19.ext hx20;refine T20.appK (h19.ext hx20) hrb2 (by omega) λvk2 w21 T21 h21 hc21 hv21=>?_;have hw19:=he19.chg.size;refine⟨M2,va2,vk2,h21,(he19.x hx20).then hc21 λk hk e=>?_,T21,⟨hc21.at (l10'.ext hx20).1 λe=>e.elim no10.2 (by omega),(l10'.ext hx20).2.up hc21.size⟩,⟨hc21.at (l11'.ext hx20).1 λe=>e.elim no11.2 (by omega),(l11'.ext hx20).2.up hc21.size⟩,
      ⟨a10,λe=>(hv21 _ e).elim no10.2 λe=>by have:=(l10'.ext hx20).lt;omega⟩,⟨a11,λe=>(hv21 _ e).elim no11.2 λe=>by have:=(l11'.ext hx20).lt;omega⟩⟩
     rcases e with e|e
     ·have:=T6.rK.new k e;omega
     ·omega
    ·simp only[aE (show¬0<I by omega)];exact⟨M1,va,vk,h14,he14,T14,l10,l11,no10,no11⟩
   rintro _ g4 w15 ⟨M2,va2,vk2,h15,he15,T15,l10,l11,no10,no11⟩;have hg2:Gd N (wI s1 rest a) dl/\Syn.phi (wI s1 rest a)<=Syn.phi s1+I:=by
    unfold wI;rw[hI];split
    ·have hp:=kK s1 ⟨5,kD (rest.take I),[],[],a⟩;have hp:Syn.phi {s1 with ex:=s1.ex++[⟨5,kD (rest.take I),[],[],a⟩]}<=Syn.phi s1+1:=hp;exact⟨hg1.put (by omega),by omega⟩
    ·exact⟨hg1,by omega⟩
   obtain⟨hg2,hp2⟩:=hg2;have hav2:(if 0<I then av++[s1.ex.length]else av).length<=av.length+(if 0<I then 1 else 0):=by split<;>simp
   have hks2:(if 0<I then ks++[[116]]else ks).length=(if 0<I then av++[s1.ex.length]else av).length:=by split<;>simp[hks]
   generalize (if 0<I then av++[s1.ex.length]else av)=av2 at*
   generalize (if 0<I then ks++[[116]]else ks)=ks2 at*
   generalize wI s1 rest a=s2 at*
   have hw15:=he15.chg.size;refine bS.cut (λ_ w'=>∃s3 M3 va3 vk3 av3 ks3,PR w0 w' p f M3 vt s3 top/\Gd N s3 dl/\Eff p f M M3 w w'/\TL w0 w' p f M3 vt B1 b2 b7 b8 b9 t.a rest a va3 vk3 av3 ks3/\Loc w0 w' p f M3 vt b11 iT [i64 (E':Nat)]/\nI E n s3 (rest.drop E') (a+E') av3 ks3=R0/\Syn.phi s3+(rest.length-E')+1<=100000/\av3.length+2*(rest.length-E')<=2*t.t.length/\ks3.length=av3.length) ?_ ?_
   ·refine l10.ld rfl ?_;refine l11.ld rfl ?_;rw[eC,aO];refine⟨λhlt=>?_,λhge=>?_⟩
    ·have hlt:I<E':=by omega
     have i5:=i5 hlt;rw[aJ hlt]at hpf;refine T15.l2.ld rfl ?_;refine T15.l9.ld rfl ?_;refine l10.ld rfl ?_;rw[cC,cN (by omega) (by omega)];have hlev:=hg2.lev;have hsat:=λ(d:Nat) (hd:dl=d+1)=>FP (hF.ok N) (s:={s2 with deep:=s2.deep+1,quiet:=false}) (xF hg2.ws _ _) (t:=(rest.drop (I+2)).take (E'-1-(I+2))) (a:=a+I+2) (by omega) (by rw[bU,aQ];omega);refine oR h15 (by omega) (λhd=>ht 7 (a+I) ?_) λhd w16 h16 he16=>?_
     ·rw[<-hpf];unfold within;rw[aJ hd];rfl
     obtain⟨d,rfl⟩:∃d,dl=d+1:=⟨dl-1,by omega⟩;have hgi:=hg2.frame false;have hwin:within s2 (a+I) false (λq=>oZ E q ((rest.drop (I+2)).take (E'-1-(I+2))) (a+I+2))=(oZ E {s2 with deep:=s2.deep+1,quiet:=false} ((rest.drop (I+2)).take (E'-1-(I+2))) (a+I+2)).bind λx s'=>.ok x {s' with deep:=s2.deep,quiet:=s2.quiet}:=by
      unfold within;rw[aE hd]
     rw[hwin]at hpf;refine jR (caps:=[.pointer (some ⟨b7,0,none⟩),.pointer (some ⟨b2,0,none⟩),.pointer (some ⟨b8,0,none⟩),.pointer (some ⟨b10,0,none⟩),.pointer (some ⟨b11,0,none⟩),.pointer (some ⟨b9,0,none⟩)]) ?_;have n7:=T15.lt.2.1;have hphi':Syn.phi {s2 with deep:=s2.deep+1,quiet:=false}=Syn.phi s2:=rfl;refine YA (he15.trans he16) (by omega) hB1 hS (hE d rfl) hF h16 hgi (T15.eff he16) (l10.eff he16) (l11.eff he16) ⟨no10.1,no10.2,by omega⟩ ⟨no11.1,no11.2,by omega⟩ i5 i2 ha0 haN (by show Syn.phi s2+_<=_;omega) (by split at hav2<;>omega) (λx s' hx' M3 va3 w17 h17 he17 T17 k10 k11 hno=>?_) λc a' hx'=>ht c a' ?_
     ·rw[hx']at hpf;simp only[R.bind]at hpf;have hs1:=hsat d rfl;have hs2:=Fz hF.z {s2 with deep:=s2.deep+1,quiet:=false} ((rest.drop (I+2)).take (E'-1-(I+2))) (a+I+2);rw[hx']at hs1 hs2;have hs2:Syn.phi s'<=Syn.phi s2+((rest.drop (I+2)).take (E'-1-(I+2))).length:=hs2;rw[bU,aQ]at hs2;have hgs':Gd N s' d:=⟨hs1.1.ws hgi.ws,hN,by rw[hs1.1.toks];exact hgi.few,by rw[hs1.1.toks];exact hgi.ts,by omega,by rw[hs1.1.deep];exact hgi.lev⟩;refine⟨M3,s',h17,hs1.1.deep,λw18 h18 he18=>?_⟩;have T18:=T17.eff he18;rw[bR,bZ,aV];refine T18.l7.ld rfl ?_;refine wS λr2 w20 hr2 hz20 hrb2 hx20=>?_;have T20:=T18.ext hx20;have k11:=(k11.eff he18).ext hx20;refine T20.appK (h18.ext hx20) hrb2 (by split at hav2<;>omega) λvk3 w21 T21 h21 hc21 hv21=>?_;refine⟨_,M3,va3,vk3,av2++[x],ks2++[[101]],h21,hg2.back hgs',((he17.trans he18).x hx20).then hc21 λk hk e=>?_,T21,⟨hc21.at k11.1 λe=>e.elim no11.2 (by omega),k11.2.up hc21.size⟩,hpf,?_,?_,by simp[hks2]⟩
      ·rcases e with e|e
       ·have:=T17.rK.new k e;omega
       ·omega
      ·show Syn.phi s'+_+1<=_;omega
      ·simp only[aX,aB,aM];split at hav2<;>omega
     ·rw[hx']at hpf;rw[<-hpf];rfl
    ·have hge:¬I<E':=by omega
     rw[aE hge]at hpf;refine⟨s2,M2,va2,vk2,av2,ks2,h15,hg2,he15,T15,l11,hpf,by omega,?_,hks2⟩;split at hav2<;>omega
   rintro _ g5 w22 ⟨s3,M3,va3,vk3,av3,ks3,h22,hg3,he22,T22,l11,hpf3,hp3,hav3,hks3⟩;have T23:=T22.ext (dB w22);have l11:=l11.drew;have h23:=h22.drew;have hw22:=he22.chg.size;refine T23.l8.ld rfl ?_;refine l11.ld rfl ?_;rw[gH,fI,eX];refine⟨by omega,by omega,?_⟩;rw[bO,aW];refine T23.l9.ld rfl ?_;refine l11.ld rfl ?_;rw[cC,cN (by omega) (by omega)];obtain⟨q1,q2,q3,q4,q5⟩:=T23.lt;obtain⟨m1,m2,m3,m4,m5,m6⟩:=T23.ne;refine T23.l8.st rfl (by simp) λw24 l8 hc24 hz24=>?_;have h24:=h23.one hc24 l8.2;have l9:=T23.l9.one hc24 (uP m6);have l11:=l11.one hc24 (by omega);refine⟨l11.ld rfl rfl,l9.ld rfl rfl,?_⟩;refine l9.st rfl (by simp) λw25 l9 hc25 hz25=>?_;have h25:=h24.one hc25 l9.2;have l8:=l8.one hc25 m6;simp only[aY]at l8 l9;have T25:TL w0 w25 p f M3 vt B1 b2 b7 b8 b9 t.a (rest.drop E') (a+E') va3 vk3 av3 ks3:=
    ⟨(T23.l2.one hc24 m2).one hc25 m3,(T23.l7.one hc24 m4).one hc25 m5,l8,l9,(T23.rA.one hc24 (T23.noA q3).1).one hc25 (T23.noA q4).1,(T23.rK.one hc24 (T23.noA q3).2).one hc25 (T23.noA q4).2,T23.dd,⟨q1,q2,q3,q4,by omega⟩,T23.ne⟩
   have zd:w22.drew.heap.size=w22.heap.size:=rfl;refine⟨⟨rfl,s3,M3,rest.drop E',a+E',va3,vk3,av3,ks3,n,h25,hg3,((he22.x (dB _)).one hc24 (by omega)).one hc25 (by omega),T25,hpf3,?_,i4,by omega,?_,?_,?_,hks3⟩,?_⟩
   ·rw[aQ];omega
   ·rw[aQ];omega
   ·rw[aQ];exact hp3
   ·rw[aQ];exact hav3
   ·rw[T25.l8.strat,T6.l8.strat,aQ];omega
  ·have hnil:rest=[]:=by
    by_cases h:rest=[]
    ·exact h
    ·exact absurd h hne
   subst hnil;obtain⟨n,rfl⟩:∃m,n=m+1:=⟨n-1,by omega⟩;simp only[nI,gM]at hpf;rw[<-hpf]at hK ht;refine T6.l2.ld rfl ?_;refine bY T6.l7.1 rfl ?_;have hub:∀k,k∈ub [i64 6,str [],va,vk,i64 t.a]↔va.ownBlock=some k\/vk.ownBlock=some k:=λk=>by
    rw[show [i64 6,str [],va,vk,i64 t.a]=[i64 6,str []]++([va]++([vk]++[i64 t.a]))from rfl];simp only[uI,dC,gR];simp[ub,Value.ownBlock]
   have hnd:(ub [i64 6,str [],va,vk,i64 t.a]).Nodup:=by
    rw[show [i64 6,str [],va,vk,i64 t.a]=[i64 6,str []]++([va]++([vk]++[i64 t.a]))from rfl];simp only[uI];rw[show ub [i64 6,str []]=[]from rfl,show ub [i64 t.a]=[]from rfl,fF,dV];exact eU.2 ⟨lS _,lS _,λx hx y hy e=>by subst e;exact T6.dd x (gR.1 hx) (gR.1 hy)⟩
   refine KU (e:=⟨6,[],av,ks,t.a⟩) h6 he6 ⟨va,vk,rfl,T6.rA.own,T6.rK.own⟩ (λk hk=>((hub k).1 hk).elim (T6.rA.off k) (T6.rK.off k)) hnd (λk hk=>?_) (by have:=hg1.ex;omega) λM' w7 h7 he7 _=>?_
   ·rcases(hub k).1 hk with e|e
    ·have:=T6.rA.new k e;omega
    ·have:=T6.rK.new k e;omega
   ·exact hK _ _ rfl M' w7 h7 he7
end
section
variable [HX]
structure ER(w0 w:World)(p f:Nat)(M:Lay)(vt:Value)(wb:Nat)(e:Ex)(va vk:Value):Prop where
 rA:Ro w0 w p f M vt wb iT 1 va e.args.length (ints e.args)
 rK:Ro w0 w p f M vt wb StT 1 vk e.keys.length (strs e.keys)
 dd:∀k,va.ownBlock=some k->vk.ownBlock≠some k
def exc(e:Ex)(va vk:Value):List Value:=[i64 e.k,str e.t,va,vk,i64 e.a]
section
variable{w0 w w' w1:World}{p f b:Nat}{M M' M0:Lay}{vt:Value}{s:PS}{top:List Nat}{N:Int}{K:Q0}{e:Ex}{va vk:Value}{wbn:Nat}{wb:World}{dl:Nat}
theorem MJ(h:ER w0 w p f M vt wbn e va vk):(exc e va vk).all fG=true:=by
 obtain⟨_,_,e1,_⟩:=h.rA.own.sl.shape;obtain⟨_,_,e2,_⟩:=h.rK.own.sl.shape;subst e1 e2;rfl
theorem ER.eff(h:ER w0 w p f M vt wbn e va vk)(he:Eff p f M M' w w'):ER w0 w' p f M' vt wbn e va vk:=⟨h.rA.eff he,h.rK.eff he,h.dd⟩
theorem ER.one(h:ER w0 w p f M vt wbn e va vk)(hc:Chg (One b) w w')(hA:va.ownBlock≠some b)(hK:vk.ownBlock≠some b):ER w0 w' p f M vt wbn e va vk:=⟨h.rA.one hc hA,h.rK.one hc hK,h.dd⟩
theorem Ro.le{m:Nat}{xs:List Value}{k:Nat}(h:Ro w0 w p f M vt wbn T m v n xs)(hk:k<=wbn):Ro w0 w p f M vt k T m v n xs:=⟨h.own,h.off,λj hj=>cI hk (h.new j hj)⟩
theorem ER.le{k:Nat}(h:ER w0 w p f M vt wbn e va vk)(hk:k<=wbn):ER w0 w p f M vt k e va vk:=⟨h.rA.le hk,h.rK.le hk,h.dd⟩
theorem ER.noK(hk:e.keys=[])(h:Ro w0 w p f M vt wbn iT 1 va e.args.length (ints e.args)):ER w0 w p f M vt wbn e va (.slice none 0 0):=⟨h,by rw[hk];exact Ro.nil _ _,λk _=>by simp[Value.ownBlock]⟩
theorem ER.leaf(h1:e.args=[])(h2:e.keys=[]):ER w0 w p f M vt wbn e (.slice none 0 0) (.slice none 0 0):=⟨by rw[h1];exact Ro.nil _ _,by rw[h2];exact Ro.nil _ _,λk hk=>by simp[Value.ownBlock]at hk⟩
theorem ON(e:Ex)(va vk:Value):ub (exc e va vk)=ub [va]++ub [vk]:=by
 rw[show exc e va vk=[i64 e.k,str e.t]++([va]++([vk]++[i64 e.a]))from rfl];simp only[uI];rw[show ub [i64 e.k,str e.t]=[]from rfl,show ub [i64 e.a]=[]from rfl,fF,dV]
theorem IJ(h:PR w0 w p f M vt s top)(he:Eff p f M0 M wb w)(hE:ER w0 w p f M vt wb.heap.size e va vk)(hg:Gd N s dl)
  (hK:∀M' w',PR w0 w' p f M' vt {s with ex:=s.ex++[e]} top->Eff p f M0 M' wb w'->(∀b T cs,Loc w0 w p f M vt b T cs->va.ownBlock≠some b->vk.ownBlock≠some b->Loc w0 w' p f M' vt b T cs)->K (i64 (s.ex.length:Nat)) w'):
  aC P0 117 [.pointer (some ⟨p,0,none⟩),.agg (exc e va vk).toArray] w K:=by
 have hub:∀k,k∈ub (exc e va vk)↔va.ownBlock=some k\/vk.ownBlock=some k:=λk=>by rw[ON,dC,gR,gR]
 have hnd:(ub (exc e va vk)).Nodup:=by
  rw[ON];exact eU.2 ⟨lS _,lS _,λx hx y hy e=>by subst e;exact hE.dd x (gR.1 hx) (gR.1 hy)⟩
 refine KU (e:=e) h he ⟨va,vk,rfl,hE.rA.own,hE.rK.own⟩ (λk hk=>((hub k).1 hk).elim (hE.rA.off k) (hE.rK.off k)) hnd (λk hk=>((hub k).1 hk).elim (hE.rA.new k) (hE.rK.new k)) (by have:=hg.ex;omega) λM' w' h' he' hl=>?_;exact hK M' w' h' he' λb T cs hL h1 h2=>hl b T cs hL λhm=>((hub b).1 hm).elim h1 h2
theorem RJ{E:PS->R Nat}{x:Str}(hE:EC w0 f 82 E dl)(hF:rD E)(h:PR w0 w p f M vt s top)(hg:Gd N s dl)
  (hK:∀l s',Eu E x s=.ok l s'->∀M' v w',PR w0 w' p f M' vt s' top->Gd N s' dl->Eff p f M M' w w'->Ro w0 w' p f M' vt w.heap.size iT 1 v l.length (ints l)->K v w')(ht:∀c a',Eu E x s=.err c a'->Thr w0 f c a'):
  aC P0 261 [.pointer (some ⟨p,0,none⟩),str x] w K:=by
 refine Wj ?_;unfold aDu;unfold Eu at hK ht;generalize hR:tA E x (s.toks.length+1) s []=R0 at hK ht;have hN:=hg.hN;refine cZ.go (λst w'=>∃v s1 M1 out n,st=[v]/\PR w0 w' p f M1 vt s1 top/\Gd N s1 dl/\Eff p f M M1 w w'/\Ro w0 w' p f M1 vt w.heap.size iT 1 v out.length (ints out)/\tA E x n s1 out=R0/\s1.toks.length<n+s1.i/\out.length<=s1.i/\s1.toks.length=s.toks.length) (λ_ w'=>s.toks.length-Ai w' p)
  ⟨_,s,M,[],s.toks.length+1,rfl,h,hg,Eff.refl _ _ _ _,Ro.nil _ _,hR,by omega,by simp,rfl⟩ ?_
 rintro st g w2 ⟨v,s1,M1,out,n,rfl,h2,hg2,he2,hr2,hF2,hn,ho,htl⟩;have hlt2:=hg2.ws.lt;obtain⟨n,rfl⟩:∃m,n=m+1:=⟨n-1,by omega⟩;simp only[aG];refine uJ h2 hg2.ws hN hg2.l λw3 h3 he3=>?_;simp only[tA]at hF2;have hg3:=hg2.take x;have tg:=jI hg2.ws x;have hr3:=hr2.eff he3;have he23:=he2.trans he3;have hw3:=he23.chg.size;have more:∀{s4:PS} {w4:World},PR w0 w4 p f M1 vt s4 top->Gd N s4 dl->Eff p f M M1 w w4->Ro w0 w4 p f M1 vt w.heap.size iT 1 v out.length (ints out)->((E s4).bind λx' s'=>tA E x n s' (out++[x']))=R0->s1.i<=s4.i->s4.toks.length=s.toks.length->
   aC P0 82 [.pointer (some ⟨p,0,none⟩)] w4 λt20 w8=>dJ iT 1 [(.int .i64 0)] [(0,1,t20)] w8 λt21 w9=>dF P0 (Builtin.append_ #[30,30] 30 #[v,t21]) w9 λt22 w10=>
    (∃v s1 M1 out n,[t22]=[v]/\PR w0 w10 p f M1 vt s1 top/\Gd N s1 dl/\Eff p f M M1 w w10/\Ro w0 w10 p f M1 vt w.heap.size iT 1 v out.length (ints out)/\tA E x n s1 out=R0/\s1.toks.length<n+s1.i/\out.length<=s1.i/\s1.toks.length=s.toks.length)/\s.toks.length-Ai w10 p<s.toks.length-Ai w2 p:=λ{s4 w4} h4 hg4 he4 hr4 hF4 hi4 ht4=>by
  refine hE w4 p M1 vt s4 top N _ h4 hg4 (λy s5 e5 M5 w5 h5 he5=>?_) λc a' e5=>ht c a' (by rw[<-hF4,e5];rfl);rw[e5]at hF4;simp only[R.bind]at hF4;obtain⟨hg5,hi5⟩:=hg4.e hF e5;have htk:s5.toks.length=s4.toks.length:=by
   have:=hF.ok N s4 hg4.ws;rw[e5]at this;exact congrArg List.length this.1.1.toks
  refine jS λr w6 hr hz6 hrb hx6=>?_;have h6:=h5.ext hx6;have hr6:=(hr4.eff he5).ext hx6;have he46:=(he4.trans he5).x hx6;refine Ro.app BJ hr6 h6 hrb rfl (λu hu=>by simp only[bP]at hu;subst hu;rfl) (by have:=hg4.few;have:=hg4.ws.lt;omega) (by decide) he46.chg.size λv' w7 hR7 hc7 hv7 h7=>?_;have hlt5:=hg5.ws.lt;refine⟨⟨v',s5,M5,out++[y],n,rfl,h7,hg5,he46.then hc7 λk hk e=>by have:=hr6.new k e;omega,?_,hF4,by omega,by rw[aX,aB,aM];omega,by omega⟩,?_⟩
  ·rw[aX,aB,aM,DO];exact hR7
  ·rw[h7.at_,h2.at_];omega
 have ht3:(bX s1 x).2.toks.length=s.toks.length:=by rw[tg.1.toks];exact htl
 rw[eM,bT];refine⟨λhnt=>?_,λhyt=>?_⟩
 ·have hnt:(bX s1 x).1=false:=by simpa using hnt
  rw[aE (by rw[hnt];decide)]at hF2;by_cases hout:out=[]
  ·rw[aJ hout]at hF2;refine bS.cut (λ_ w'=>w'=w3) ?_ ?_
   ·rw[fY hr3.own.sl,mC,aO];exact⟨λe=>by rw[hout]at e;simp at e,λ_=>rfl⟩
   rintro _ g2 w4 rfl;exact more h3 hg3 he23 hr3 hF2 tg.1.le ht3
  ·rw[aE hout]at hF2;have hpos:0<out.length:=dP.2 hout;refine bS.cut (λ_ w'=>∃s4,PR w0 w' p f M1 vt s4 top/\Gd N s4 dl/\Eff p f M M1 w w'/\Ro w0 w' p f M1 vt w.heap.size iT 1 v out.length (ints out)/\((E s4).bind λx' s'=>tA E x n s' (out++[x']))=R0/\s1.i<=s4.i/\s4.toks.length=s.toks.length) ?_ ?_
   ·rw[fY hr3.own.sl,mC,aO];refine⟨λ_=>?_,λe=>absurd (by omega) e⟩;refine xH h3 hg3.ws hN hg3.l (λs4 e4 w4 h4 he4=>?_) λc a' e4=>ht c a' (by rw[<-hF2,e4];rfl);rw[e4]at hF2;simp only[R.bind]at hF2;obtain⟨hg4,hi4,_⟩:=hg3.want e4;have hto4:=kB hg3.ws [44];rw[e4]at hto4;refine uJ h4 hg4.ws hN hg4.l λw5 h5 he5=>?_;have hr5:=(hr3.eff he4).eff he5;have he25:=(he23.trans he4).trans he5;have tg5:=jI hg4.ws x;rw[bT];refine⟨λhy=>?_,λhy=>?_⟩
    ·rw[aJ hy]at hF2;exact hK out _ hF2.symm M1 v w5 h5 (hg4.take x) he25 hr5
    ·rw[aE (by rw[hy];decide)]at hF2;exact⟨_,h5,hg4.take x,he25,hr5,hF2,by have:=tg.1.le;have:=tg5.1.le;omega,by rw[tg5.1.toks,hto4.1.1.toks];exact ht3⟩
   rintro _ g2 w4 ⟨s4,h4,hg4,he4,hr4,hF4,hi4,ht4⟩;exact more h4 hg4 he4 hr4 hF4 hi4 ht4
 ·have hyt:(bX s1 x).1=true:=by simpa using hyt
  rw[aJ hyt]at hF2;exact hK out _ hF2.symm M1 v w3 h3 hg3 he23 hr3
end
end
section
variable [HX]
variable{w0 w w' w1:World}{p f b:Nat}{M M' M0:Lay}{vt:Value}{s:PS}{top:List Nat}{N:Int}{K:Q0}{e:Ex}{va vk:Value}{wbn:Nat}{wb:World}{dl:Nat}
theorem KP(hp:PR w0 w p f M vt s top)(hL:Loc w0 w p f M vt b ExT cs)(hc:cs.length=5)(hE:ER w0 w p f M vt wbn e va vk)(hA:va.ownBlock≠some b)(hK':vk.ownBlock≠some b)
  (hK:∀w',PR w0 w' p f M vt s top->Chg (One b) w w'->ER w0 w' p f M vt wbn e va vk->K (.agg (exc e va vk).toArray) w'):
  stW 5 (.pointer (some ⟨b,0,none⟩)) (.agg (exc e va vk).toArray) w λw5=>ldW true 5 (.pointer (some ⟨b,0,none⟩)) w5 λr6=>K r6 w5:=
 iP hL.1 rfl hc (MJ hE) λw' hcw=>hK w' (hp.one hcw hL.2) hcw (hE.one hcw hA hK')
theorem Na{x r:Nat}{ty:TypeId}{k a:Int}{l:Str}{av:List Nat}{KW:World->Prop}(hL:Loc w0 w p f M vt b ExT [i64 k,str l,va,vk,i64 a])(hR:Ro w0 w p f M vt wbn iT 1 va av.length (ints av))(hp:PR w0 w p f M vt s top)(hr:w.heap[r]?=some (.cells [i64 (x:Nat)].toArray iT (0,0)))
  (hn:av.length<=1000000)(hB:b<wbn)(hw:wbn<=w.heap.size)
  (hK:∀va' w',Loc w0 w' p f M vt b ExT [i64 k,str l,va',vk,i64 a]->Ro w0 w' p f M vt wbn iT 1 va' (av++[x]).length (ints (av++[x]))->PR w0 w' p f M vt s top->Chg (λk=>va.ownBlock=some k\/k=b) w w'->(∀k,va'.ownBlock=some k->va.ownBlock=some k\/w.heap.size<=k)->KW w'):
  dF P0 (Builtin.append_ #[30,30] ty #[va,.slice (some ⟨r,0,none⟩) 1 1]) w λt62 w36=>aZ 2 (.pointer (some ⟨b,0,none⟩)) λt63=>stW 1 t63 t62 w36 KW:=by
 refine Ro.app BJ hR hp hr rfl (λu hu=>by simp only[bP]at hu;subst hu;rfl) hn (by decide) hw λv' w2 hR2 hc hv hp2=>?_;have e1:(av++[x]).length=av.length+1:=by simp
 rw[<-e1,show ints av++[i64 (x:Nat)]=ints (av++[x])from by simp[ints]]at hR2;rw[bR,bZ,aV];obtain⟨vp,vc,ev,_⟩:=hR2.own.sl.shape;refine(hL.row hc λe=>by have:=hR.new b e;omega).st (by rw[ev];rfl) (by simp) λw3 L3 hc3 hz3=>?_;exact hK v' w3 L3 (hR2.one hc3 λe=>by have:=hR2.new b e;omega) (hp2.one hc3 L3.2) ((hc.mono λk _ e=>.inl e).trans (hc3.mono λk _ e=>.inr e)) hv
theorem aAR{E:PS->R Nat}{t:Tok}(hE:EC w0 f 82 E dl)(hF:rD E)(h:PR w0 w p f M vt s top)(hg:Gd N s dl)(hc0:(cur s).k≠0)(hnow:bC s=s)
  (hK:∀e s',Ci E s t.a=.ok e s'->∀M' va vk w',PR w0 w' p f M' vt s' top->Gd N s' dl->Eff p f M M' w w'->ER w0 w' p f M' vt w.heap.size e va vk->K (.agg (exc e va vk).toArray) w')(ht:∀c a',Ci E s t.a=.err c a'->Thr w0 f c a'):
  aC P0 264 [.pointer (some ⟨p,0,none⟩),.agg (fK t).toArray] w K:=by
 refine Wg ?_;unfold aDr;have hN:=hg.hN;have hg1:Gd N (step1 s) dl:=by have:=hg.step hc0;rw[hnow]at this;exact this
 refine fS (z:=fK t) λb3 w1 hb3 hz1 hbb1 hx1=>?_;have h1:=h.ext hx1;have L3:=h.loc hz1 hb3 hbb1;refine bF λb4 w2 hb4 hz2 hbb2 hx2=>?_;have h2:=h1.ext hx2;have L4:=h1.loc hz2 hb4 hbb2;have L3:=L3.ext hx2;have he2:Eff p f M M w w2:=(Eff.ext hx1).x hx2;refine h2.go (wsi hg.ws hg.l) λw3 h3 he3 hz3=>?_;have L3:=L3.eff he3;have L4:=L4.eff he3;have he3:=he2.trans he3;refine nD h3 hg1.ws hN hg1.l λw4 h4 he4=>?_;have L3:=L3.eff he4;have L4:=L4.eff he4;have he4:=he3.trans he4;have lt3:=L3.lt;have lt4:=L4.lt;refine bF λb5 w5 hb5 hz5 hbb5 hx5=>?_;have h5:=h4.ext hx5;have L5:=h4.loc hz5 hb5 hbb5;have L3:=L3.ext hx5;have L4:=L4.ext hx5;have he5:=he4.x hx5;have hw4:=he4.chg.size;refine cG (l:=fK (cur (step1 s))) L5.1 rfl rfl rfl λw6 hz6 hb6 hc6=>?_;have L5:Loc w0 w6 p f M vt b5 TkT (fK (cur (step1 s))):=⟨hb6,L5.2.up (by omega)⟩;have h6:=h5.one hc6 L5.2;have L3:=L3.one hc6 (by omega);have L4:=L4.one hc6 (by omega);have he6:=he5.one hc6 (by omega);have hw6:=he6.chg.size;have hgn:=hg1.now;refine L5.ldf rfl ?_;rw[fT];simp only[lP];refine GdW.look (decide ((cur (step1 s)).t≠Jl)) (λ_ J hJ=>?_) λg=>?_
 ·refine L5.ldf rfl ?_;rw[wT];exact hJ
 simp only[aG];rw[fN,bT];unfold Ci at hK ht;simp only at hK ht;refine⟨λhcc=>?_,λhcc=>?_⟩
 ·have hc:(cur (step1 s)).k≠1\/(cur (step1 s)).t≠Jl:=by simpa using hcc
  rw[aJ hc]at hK ht;have L3:=L3.drew;rw[bR,bZ,aV];refine L3.ld rfl ?_;refine RJ hE hF h6.drew hgn (λl s' el M' v w7 h7 hg7 he7 hr7=>?_) λc a' el=>ht c a' (by rw[el];rfl);rw[el]at hK;simp only[R.bind]at hK;have L3:=L3.eff he7;refine⟨L3.ld rfl rfl,?_⟩;obtain⟨q,cap,ev,_⟩:=hr7.own.sl.shape;subst ev;simp only[dD,gO,cU,aB,aM,aY,bB,Nat.reduceAdd,Nat.reduceLT,dM,aA];have zd:w6.drew.heap.size=w6.heap.size:=rfl;have hER:ER w0 w7 p f M' vt w6.heap.size ⟨7,[],l,[],t.a⟩ (.slice q l.length cap) (.slice none 0 0):=ER.noK rfl hr7;refine KP (e:=⟨7,[],l,[],t.a⟩) h7 (L4.drew.eff he7) rfl hER (λe=>by have:=hr7.new _ e;omega) (by simp[Value.ownBlock]) λw8 h8 hc8 hE8=>?_;exact hK _ _ rfl M' _ _ w8 h8 hg7 (((he6.x (dB w6)).trans he7).one hc8 (by omega)) (hE8.le (by omega))
 ·have hc:¬((cur (step1 s)).k≠1\/(cur (step1 s)).t≠Jl):=by simpa using hcc
  rw[aE hc]at hK ht;have hk1:(cur (step1 s)).k≠0:=λe=>hc (.inl (by rw[e];decide));have hgs:=hg1.step hk1;refine h6.go (wsi hgn.ws hgn.l) λw7 h7 he7 hz7=>?_;have L3:=L3.eff he7;have L4:=L4.eff he7;have he7:=he6.trans he7;refine bS.cut (λst w'=>∃b6 u s2,st=[.pointer (some ⟨b6,0,none⟩)]/\lO (step1 (bC (step1 s))) 1=.ok u s2/\PR w0 w' p f M vt s2 top/\Gd N s2 dl/\Eff p f M M w w'/\Loc w0 w' p f M vt b6 ExT [i64 29,str u.t,.slice none 0 0,.slice none 0 0,i64 t.a]/\Loc w0 w' p f M vt b4 ExT [.int .i64 0,.string (ofL []),.slice none 0 0,.slice none 0 0,.int .i64 0]/\b4<b6/\w.heap.size<=b6) ?_ ?_
  ·have L3:=L3.drew;have L4:=L4.drew;have h7:=h7.drew;have he7:=he7.x (dB w7);have zd:w7.drew.heap.size=w7.heap.size:=rfl;have ld3:∀{w':World},Loc w0 w' p f M vt b3 TkT (fK t)->ldW false 1 (.pointer (some ⟨b3,2,none⟩)) w' λx=>x=i64 t.a:=λL=>L.ld rfl rfl;rw[bR,bZ,aV];refine L3.ld rfl ?_;refine⟨?_,?_⟩
   ·refine xV h7 hgs.ws hN hgs.l (λu s2 eu w8 h8 he8=>?_) λc a' eu=>ht c a' (by rw[eu];rfl);have L3:=L3.eff he8;have L4:=L4.eff he8;have he8:=he7.trans he8;refine⟨ld3 L3,str u.t,rfl,?_⟩;simp only[dD,eJ,cU,aB,aM,aY,bB,Nat.reduceAdd,Nat.reduceLT,dM,aA];refine bF λb6 w9 hb6' hz9 hbb9 hx9=>?_;have L6:=h8.loc hz9 hb6' hbb9;refine⟨ld3 (L3.ext hx9),?_⟩;refine cG (l:=[i64 29,str u.t,.slice none 0 0,.slice none 0 0,i64 t.a]) L6.1 rfl rfl rfl λw10 hz10 hbb10 hc10=>?_;have lt4':=L4.lt;have hw8:=he8.chg.size;exact⟨b6,u,s2,rfl,eu,(h8.ext hx9).one hc10 L6.2,(hgs.kind (by decide) eu).1,(he8.x hx9).one hc10 (by omega),⟨hbb10,L6.2.up (by omega)⟩,(L4.ext hx9).one hc10 (by omega),by omega,by omega⟩
   ·refine bF λb6 w9 hb6' hz9 hbb9 hx9=>?_;have L6:=h7.loc hz9 hb6' hbb9;have L3:=L3.ext hx9;have lt4':=L4.lt;have hw8:=he7.chg.size;refine⟨ld3 L3,?_⟩;refine xV (h7.ext hx9) hgs.ws hN hgs.l (λu s2 eu w8 h8 he8=>?_) λc a' eu=>ht c a' (by rw[eu];rfl);have L3:=L3.eff he8;have L4:=(L4.ext hx9).eff he8;have L6:=L6.eff he8;have he8:=(he7.x hx9).trans he8;refine⟨ld3 L3,str u.t,rfl,?_⟩;simp only[dD,eJ,cU,aB,aM,aY,bB,Nat.reduceAdd,Nat.reduceLT,dM,aA];refine cG (l:=[i64 29,str u.t,.slice none 0 0,.slice none 0 0,i64 t.a]) L6.1 rfl rfl rfl λw10 hz10 hbb10 hc10=>?_;exact⟨b6,u,s2,rfl,eu,h8.one hc10 L6.2,(hgs.kind (by decide) eu).1,he8.one hc10 (by omega),⟨hbb10,L6.2.up (by omega)⟩,L4.one hc10 (by omega),by omega,by omega⟩
  rintro st g2 w8 ⟨b6,u,s2,rfl,eu,h8,hg8,he8,L6,L4,hb46,hwb6⟩;simp only[aG];rw[eu]at hK ht;simp only[R.bind]at hK ht;refine bS.cut (λ_ w'=>∃v s3,lO s2 1=.ok v s3/\v.t=kIn/\PR w0 w' p f M vt s3 top/\Gd N s3 dl/\Eff p f M M w8 w') ?_ ?_
  ·refine xV h8 hg8.ws hN hg8.l (λv s3 ev w9 h9 he9=>?_) λc a' ev=>ht c a' (by rw[ev]);refine bF λb7 w10 hb7 hz10 hbb10 hx10=>?_;have h10:=h9.ext hx10;have L7:=h9.loc hz10 hb7 hbb10;refine cG (l:=fK v) L7.1 rfl rfl rfl λw11 hz11 hbb11 hc11=>?_;have L7:Loc w0 w11 p f M vt b7 TkT (fK v):=⟨hbb11,L7.2.up (by omega)⟩;have h11:=h10.one hc11 L7.2;have z9:=he9.chg.size;refine L7.ldf rfl ?_;rw[wT,aO];refine⟨λhne=>?_,λhne=>⟨v,s3,ev,?_,h11,(hg8.kind (by decide) ev).1,(he9.x hx10).one hc11 (by omega)⟩⟩
   ·refine L7.ldf rfl ?_;exact qB h11 (ht _ _ (by rw[ev];simp only;exact aJ hne))
   ·by_cases h:v.t=[105,110]
    ·exact h
    ·exact absurd h hne
  rintro _ g3 w9 ⟨v,s3,ev,hvt,h9,hg9,he9⟩;rw[ev]at hK ht;simp only[aE (show¬v.t≠kIn fromλh=>h hvt)]at hK ht;have L6:=(L6.eff he9).drew;have L4:=(L4.eff he9).drew;have h9:=h9.drew;have he9:=(he8.trans he9).x (dB w9);have zd:w9.drew.heap.size=w9.heap.size:=rfl;have hw9:=he9.chg.size;have lt6:=L6.lt;rw[bR,bZ,aV];refine L6.ld rfl ?_;refine hE w9.drew p M vt s3 top N _ h9 hg9 (λx s4 ex M4 w10 h10 he10=>?_) λc a' ex=>ht c a' (by rw[ex]);rw[ex]at hK ht;simp only at hK ht;obtain⟨hg10,_⟩:=hg9.e hF ex;have L6:=L6.eff he10;have L4:=L4.eff he10;have he10:=he9.trans he10;refine⟨L6.ld rfl rfl,?_⟩;refine jS λr w11 hr hz11 hrb hx11=>?_;have L6:=L6.ext hx11;have L4:=L4.ext hx11;have h11:=h10.ext hx11;have he11:=he10.x hx11;have hw11:=he11.chg.size;have lt6:=L6.lt;have lt4:=L4.lt;refine⟨L6.ld rfl rfl,?_⟩;refine Na (wbn:=w11.heap.size) (av:=[]) L6 (Ro.nil _ _) h11 hrb (by simp) lt6 (aS _) λva1 w12 L6 hR12 h12 hc12 hv12=>?_;have he12:=he11.then hc12 λk hk e=>by
   rcases e with e|e
   ·simp[Value.ownBlock]at e
   ·omega
  have hw12:=he12.chg.size;have L4:Loc w0 w12 p f M4 vt b4 ExT [.int .i64 0,.string (ofL []),.slice none 0 0,.slice none 0 0,.int .i64 0]:=⟨hc12.at L4.1 λe=>e.elim (by simp[Value.ownBlock]) (by omega),L4.2.up hc12.size⟩;have hz12:=hc12.size;refine xH h12 hg10.ws hN hg10.l (λs5 e5 w13 h13 he13=>?_) λc a' e5=>ht c a' (by rw[e5]);rw[e5]at hK ht;simp only at hK ht;obtain⟨hg13,_⟩:=hg10.want e5;have L6:=(L6.eff he13).drew;have L4:=(L4.eff he13).drew;have hR13:=(hR12.eff he13).ext (dB w13);have h13:=h13.drew;have zd13:w13.drew.heap.size=w13.heap.size:=rfl;have hz13:=he13.chg.size;have he13:=(he12.trans he13).x (dB w13);rw[bR,bZ,aV];refine L6.ld rfl ?_;refine hE w13.drew p M4 vt s5 top N _ h13 hg13 (λy s6 ey M6 w14 h14 he14=>?_) λc a' ey=>ht c a' (by rw[ey]);rw[ey]at hK ht;simp only at hK ht;obtain⟨hg14,_⟩:=hg13.e hF ey;have L6:=L6.eff he14;have L4:=L4.eff he14;have hR14:=hR13.eff he14;have hz14:=he14.chg.size;have he14:=he13.trans he14;refine⟨L6.ld rfl rfl,?_⟩;refine jS λr2 w15 hr2 hz15 hrb2 hx15=>?_;have L6:=L6.ext hx15;have L4:=L4.ext hx15;have h15:=h14.ext hx15;have he15:=he14.x hx15;refine⟨L6.ld rfl rfl,?_⟩;refine Na (wbn:=w11.heap.size) (av:=[x]) L6 (hR14.ext hx15) h15 hrb2 (by simp) (by omega) (by omega) λva2 w16 L6 hR16 h16 hc16 hv16=>?_;have he16:=he15.then hc16 λk hk e=>by
   rcases e with e|e
   ·have:=hR14.new k e;omega
   ·omega
  have L4:Loc w0 w16 p f M6 vt b4 ExT [.int .i64 0,.string (ofL []),.slice none 0 0,.slice none 0 0,.int .i64 0]:=⟨hc16.at L4.1 λe=>e.elim (λe=>by have:=hR14.new _ e;omega) (by omega),L4.2.up hc16.size⟩;refine xH h16 hg14.ws hN hg14.l (λs7 e7 w17 h17 he17=>?_) λc a' e7=>ht c a' (by rw[e7]);rw[e7]at hK;simp only at hK;obtain⟨hg17,_⟩:=hg14.want e7;have L6:=L6.eff he17;have L4:=L4.eff he17;have hR17:=hR16.eff he17;have he17:=he16.trans he17;refine bY L6.1 rfl ?_;refine KP (e:=⟨29,u.t,[x,y],[],t.a⟩) h17 L4 rfl (ER.noK rfl hR17) (λe=>by have:=hR17.new _ e;omega) (by simp[Value.ownBlock]) λw18 h18 hc18 hE18=>?_;exact hK _ _ rfl M6 _ _ w18 h18 hg17 (he17.one hc18 (by omega)) (hE18.le (by omega))
end
theorem Gd.tx{N:Int}{s:PS}{dl:Nat}(h:Gd N s dl)(hk:(cur s).k=3):EL (cur s).t/\(cur s).t.length<=100000:=by
 have hn:=h.now;have hm:=bJ (xI hn.ws);have:=hn.ts _ hm (show(lW (bC s)).k=3 from hk);exact this
section
variable [HX]
variable{w0 w w' w1:World}{p f b:Nat}{M M' M0:Lay}{vt:Value}{s:PS}{top:List Nat}{N:Int}{K:Q0}{e:Ex}{va vk:Value}{wbn:Nat}{wb:World}{dl:Nat}
theorem PZ{E:PS->R Nat}{t:Tok}(hE:EC w0 f 82 E dl)(hF:rD E)(h:PR w0 w p f M vt s top)(hg:Gd N s dl)(hc0:(cur s).k≠0)(hnow:bC s=s)
  (hK:∀e s',NK E s t.a=.ok e s'->∀M' va vk w',PR w0 w' p f M' vt s' top->Gd N s' dl->Eff p f M M' w w'->ER w0 w' p f M' vt w.heap.size e va vk->K (.agg (exc e va vk).toArray) w')(ht:∀c a',NK E s t.a=.err c a'->Thr w0 f c a'):
  aC P0 266 [.pointer (some ⟨p,0,none⟩),.agg (fK t).toArray] w K:=by
 refine Wd ?_;unfold aDp;have hN:=hg.hN;have hg1:Gd N (step1 s) dl:=by have:=hg.step hc0;rw[hnow]at this;exact this
 refine fS (z:=fK t) λb3 w1 hb3 hz1 hbb1 hx1=>?_;have h1:=h.ext hx1;have L3:=h.loc hz1 hb3 hbb1;refine bF λb4 w2 hb4 hz2 hbb2 hx2=>?_;have h2:=h1.ext hx2;have L4:=h1.loc hz2 hb4 hbb2;have L3:=L3.ext hx2;have he2:Eff p f M M w w2:=(Eff.ext hx1).x hx2;refine h2.go (wsi hg.ws hg.l) λw3 h3 he3 hz3=>?_;have L3:=L3.eff he3;have L4:=L4.eff he3;have he3:=he2.trans he3;refine L3.ldf rfl ?_;simp only[dD,eJ,cU,aB,aM,aY,bB,Nat.reduceAdd,Nat.reduceLT,dM,aA];have lt4:=L4.lt;refine bF λb5 w4 hb5 hz4 hbb4 hx4=>?_;have L5:=h3.loc hz4 hb5 hbb4;have h4:=h3.ext hx4;have L4:=L4.ext hx4;refine cG (l:=[i64 8,str [],.slice none 0 0,.slice none 0 0,i64 t.a]) L5.1 rfl rfl rfl λw5 hz5 hbb5 hc5=>?_;have L5:Loc w0 w5 p f M vt b5 ExT [i64 8,str [],.slice none 0 0,.slice none 0 0,i64 t.a]:=⟨hbb5,L5.2.up (by omega)⟩;have h5:=h4.one hc5 L5.2;have L4:=L4.one hc5 (by omega);have he5:Eff p f M M w w5:=(he3.x hx4).one hc5 (by have:=he3.chg.size;omega);refine zA h5 hg1.ws hN hg1.l λw6 h6 he6=>?_;have L4:=L4.eff he6;have L5:=L5.eff he6;have he6:=he5.trans he6;have hg6:=hg1.lines;unfold NK at hK ht;generalize hR:EE E t.a (s.toks.length+1) (gI (step1 s)) [] []=R0 at hK ht;have hw6:=he6.chg.size;obtain⟨B1,hB1⟩:∃B1,B1=w6.heap.size:=⟨_,rfl⟩;have lt5:=L5.lt;have lt4:=L4.lt;have hw3:=he3.chg.size;have htl0:(gI (step1 s)).toks.length=s.toks.length:=congrArg List.length ((mL hg1.ws).1.toks);refine cZ.go (λst w'=>st=[]/\∃s1 M1 av ks va vk n,PR w0 w' p f M1 vt s1 top/\Gd N s1 dl/\Eff p f M M1 w w'/\Loc w0 w' p f M1 vt b5 ExT [i64 8,str [],va,vk,i64 t.a]/\Loc w0 w' p f M1 vt b4 ExT [.int .i64 0,.string (ofL []),.slice none 0 0,.slice none 0 0,.int .i64 0]/\
   Ro w0 w' p f M1 vt B1 iT 1 va av.length (ints av)/\Ro w0 w' p f M1 vt B1 StT 1 vk ks.length (strs ks)/\(∀k,va.ownBlock=some k->vk.ownBlock≠some k)/\B1<=w'.heap.size/\EE E t.a n s1 av ks=R0/\s1.toks.length<n+s1.i/\av.length<=s1.i/\ks.length=av.length/\s1.toks.length=s.toks.length) (λ_ w'=>s.toks.length-Ai w' p)
  ⟨rfl,_,M,[],[],_,_,s.toks.length+1,h6,hg6,he6,L5,L4,Ro.nil _ _,Ro.nil _ _,λk hk=>by simp[Value.ownBlock]at hk,by omega,hR,by omega,by simp,rfl,htl0⟩ ?_
 rintro st g w7 ⟨rfl,s1,M1,av,ks,va,vk,n,h7,hg7,he7,L5,L4,rA,rK,dd,hz7,hob,hn,hav,hks,htl⟩;have hlt7:=hg7.ws.lt;obtain⟨n,rfl⟩:∃m,n=m+1:=⟨n-1,by omega⟩;refine uJ h7 hg7.ws hN hg7.l λw8 h8 he8=>?_;have L4:=L4.eff he8;have L5:=L5.eff he8;have rA:=rA.eff he8;have rK:=rK.eff he8;have hz8:=he8.chg.size;have he8:=he7.trans he8;have hg8:=hg7.take [125];have tg:=jI hg7.ws [125];have tgt:=congrArg List.length tg.1.toks;simp only[EE]at hob;rw[eM,bT];refine⟨λhnt=>?_,λhyt=>?_⟩
 ·have hnt:(bX s1 [125]).1=false:=by simpa using hnt
  rw[aE (by rw[hnt];decide)]at hob;generalize hs2:(bX s1 [125]).2=s2 at*
  refine Le h8 hg8.ws hN hg8.l λw9 h9 he9=>?_;have L4:=L4.eff he9;have L5:=L5.eff he9;have rA:=rA.eff he9;have rK:=rK.eff he9;have hz9:=he9.chg.size;have he9:=he8.trans he9;have hg9:=hg8.next;have ng:=rM hg8.ws;have ngt:=congrArg List.length ng.1.toks;have hc2:=hg8.at0;have lt5:=L5.lt;have lt4:=L4.lt;refine bF λb6 w10 hb6 hz10 hbb10 hx10=>?_;have L6:=h9.loc hz10 hb6 hbb10;have h10:=h9.ext hx10;have L4:=L4.ext hx10;have L5:=L5.ext hx10;have nA6:va.ownBlock≠some b6:=λe=>by have:=(rA.off _ e).1.2;omega
  have nK6:vk.ownBlock≠some b6:=λe=>by have:=(rK.off _ e).1.2;omega
  have rA:=rA.ext hx10;have rK:=rK.ext hx10;refine cG (l:=fK (cur s2)) L6.1 rfl rfl rfl λw11 hz11 hbb11 hc11=>?_;have L6:Loc w0 w11 p f M1 vt b6 TkT (fK (cur s2)):=⟨hbb11,L6.2.up (by omega)⟩;have h11:=h10.one hc11 L6.2;have L4:=L4.one hc11 (by omega);have L5:=L5.one hc11 (by omega);have rA:=rA.one hc11 nA6;have rK:=rK.one hc11 nK6;have he11:Eff p f M M1 w w11:=(he9.x hx10).one hc11 (by have:=he9.chg.size;omega);have hw11:=he11.chg.size;refine bS.cut (λ_ w'=>∃k s3,(if(cur s2).k=3 then pS (iW s2) (cur s2)else if(cur s2).k=1 then .ok (cur s2).t (iW s2)else .err 50 (cur s2).a)=.ok k s3/\s3=iW s2/\PR w0 w' p f M1 vt (iW s2) top/\Loc w0 w' p f M1 vt b6 TkT [i64 (cur s2).k,str k,i64 (cur s2).a]/\Eff p f M M1 w w'/\Loc w0 w' p f M1 vt b5 ExT [i64 8,str [],va,vk,i64 t.a]/\Loc w0 w' p f M1 vt b4 ExT [.int .i64 0,.string (ofL []),.slice none 0 0,.slice none 0 0,.int .i64 0]/\Ro w0 w' p f M1 vt B1 iT 1 va av.length (ints av)/\Ro w0 w' p f M1 vt B1 StT 1 vk ks.length (strs ks)/\w11.heap.size<=w'.heap.size) ?_ ?_
  ·refine L6.ldf rfl ?_;rw[bM,aO];refine⟨λhk3=>?_,λhk3=>?_⟩
   ·have htx:=hg8.tx hk3;rw[aJ hk3]at hob;refine bY L6.1 rfl ?_;refine Mk h11 htx.1 (by omega) (λl s3 el w12 hx12=>?_) λc a' el=>ht c a' (by rw[<-hob,el];rfl);rw[bR,bZ,aV];refine(L6.ext hx12).st rfl (by simp[fK]) λw13 L6 hc13 hz13=>?_;have h13:=(h11.ext hx12).one hc13 L6.2;have e3:s3=iW s2:=by
     unfold pS at el;split at el
     ·cases el
     ·injection el with _ el;exact el.symm
    exact⟨l,s3,by rw[aJ hk3];exact el,e3,h13,L6,(he11.x hx12).one hc13 (by have:=he9.chg.size;omega),(L5.ext hx12).one hc13 (by omega),(L4.ext hx12).one hc13 (by omega),(rA.ext hx12).one hc13 nA6,(rK.ext hx12).one hc13 nK6,by have:=hx12.size;omega⟩
   ·rw[bM,aO];refine⟨λhk1=>?_,λhk1=>?_⟩
    ·exact⟨_,_,by rw[aE hk3,aJ hk1],rfl,h11,L6,he11,L5,L4,rA,rK,aS _⟩
    ·refine L6.ldf rfl ?_;refine qB h11 (ht 50 (cur s2).a ?_);rw[<-hob,aE hk3,aE hk1];rfl
  rintro _ g2 w12 ⟨k,s3,ek,rfl,h12,L6,he12,L5,L4,rA,rK,hz12⟩;rw[ek]at hob;simp only[R.bind]at hob;refine bS.cut (λ_ w'=>w'=w12/\ks.contains k=false) ?_ ?_
  ·rw[bR,bZ,aV];refine L5.ld rfl ?_;refine L6.ldf rfl ?_;refine Ct rK.own.sl (by have:=hg7.few;omega) ?_;rw[aO];refine⟨λhm=>?_,λhm=>⟨rfl,by simpa using hm⟩⟩;refine L6.ldf rfl ?_;refine qB h12 (ht 2 (cur s2).a ?_);rw[<-hob,aJ (by simpa using hm)]
  rintro _ g3 w13 ⟨rfl,hnk⟩;rw[aE (by rw[hnk];decide)]at hob;refine xH h12 hg9.ws hN hg9.l (λs4 e4 w14 h14 he14=>?_) λc a' e4=>ht c a' (by rw[<-hob,e4]);rw[e4]at hob;simp only at hob;obtain⟨hg14,hi14,_⟩:=hg9.want e4;have w14s:=kB hg9.ws [61];rw[e4]at w14s;have w14t:=congrArg List.length w14s.1.1.toks;have L4:=(L4.eff he14).drew;have L5:=(L5.eff he14).drew;have L6:=(L6.eff he14).drew;have rA:=(rA.eff he14).ext (dB w14);have rK:=(rK.eff he14).ext (dB w14);have hz14:=he14.chg.size;have zd14:w14.drew.heap.size=w14.heap.size:=rfl;have he14:=(he12.trans he14).x (dB w14);have h14:=h14.drew;rw[bR,bZ,aV];refine L5.ld rfl ?_;refine L6.ldf rfl ?_;rw[bR,bZ,aV];refine L5.ld rfl ?_;refine wS λr w15 hr hz15 hrb hx15=>?_;have L4:=L4.ext hx15;have L5:=L5.ext hx15;have rA:=rA.ext hx15;have rK:=rK.ext hx15;have h15:=h14.ext hx15;have he15:=he14.x hx15;have hw15:=he15.chg.size;refine⟨L5.ld rfl rfl,L5.ld rfl rfl,?_⟩;refine Ro.app Rm rK h15 hrb rfl (λu hu=>by simp only[bP]at hu;subst hu;rfl) (by have:=hg7.few;omega) (by decide) (by omega) λvk' w16 rK' hc16 hv16 h16=>?_;have L5:=L5.row hc16 λe=>by have:=rK.new b5 e;omega
  have L4:=L4.row hc16 λe=>by have:=rK.new b4 e;omega
  have dd':∀k,va.ownBlock=some k->vk'.ownBlock≠some k:=λk hk e=>(hv16 k e).elim (dd k hk) λe=>by have:=(rA.off k hk).1.2;omega
  have rA:=rA.row hc16 dd;have he16:=he15.then hc16 λk hk e=>by have:=rK.new k e;omega
  have hz16:=hc16.size;refine⟨L5.ld rfl rfl,?_⟩;rw[bR,bZ,aV];refine hE w16 p M1 vt s4 top N _ h16 hg14 (λx s5 ex M5 w17 h17 he17=>?_) λc a' ex=>ht c a' (by rw[<-hob,ex]);rw[ex]at hob;simp only at hob;obtain⟨hg17,hi17⟩:=hg14.e hF ex;have e17t:=hF.ok N s4 hg14.ws;rw[ex]at e17t;have e17t:=congrArg List.length e17t.1.1.toks;have L4:=L4.eff he17;have L5:=L5.eff he17;have rA:=rA.eff he17;have rK:=rK'.eff he17;have hz17:=he17.chg.size;have he17:=he16.trans he17;refine⟨L5.ld rfl rfl,?_⟩;refine jS λr2 w18 hr2 hz18 hrb2 hx18=>?_;have L4:=L4.ext hx18;have L5:=L5.ext hx18;have rA:=rA.ext hx18;have rK:=rK.ext hx18;have h18:=h17.ext hx18;have he18:=he17.x hx18;have hw18:=he18.chg.size;refine⟨L5.ld rfl rfl,?_⟩;refine Ro.app BJ rA h18 hrb2 rfl (λu hu=>by simp only[bP]at hu;subst hu;rfl) (by have:=hg7.few;omega) (by decide) (by omega) λva' w19 rA' hc19 hv19 h19=>?_;have L5:=L5.row hc19 λe=>by have:=rA.new b5 e;omega
  have L4:=L4.row hc19 λe=>by have:=rA.new b4 e;omega
  have dd2:∀k,va'.ownBlock=some k->vk'.ownBlock≠some k:=λk hk e=>(hv19 k hk).elim (λh=>dd' k h e) λh=>by have:=(rK.off k e).1.2;omega
  have rK:=rK.row hc19 λk hk e=>dd' k e hk;have he19:=he18.then hc19 λk hk e=>by have:=rA.new k e;omega
  have hz19:=hc19.size;obtain⟨vp,vc,ev,_⟩:=rK.own.sl.shape;refine L5.st (by rw[ev];rfl) (by simp) λw20 L5 hc20 hz20=>?_;have h20:=h19.one hc20 L5.2;have L4:=L4.one hc20 (by omega);have nA5:va'.ownBlock≠some b5:=λe=>by have:=rA'.new b5 e;omega
  have nK5:vk'.ownBlock≠some b5:=λe=>by have:=rK.new b5 e;omega
  have rA:=rA'.one hc20 nA5;have rK:=rK.one hc20 nK5;rw[bR,bZ,aV];obtain⟨vp2,vc2,ev2,_⟩:=rA.own.sl.shape;refine L5.st (by rw[ev2];rfl) (by simp) λw21 L5 hc21 hz21=>?_;have h21:=h20.one hc21 L5.2;have L4:=L4.one hc21 (by omega);have rA:=rA.one hc21 nA5;have rK:=rK.one hc21 nK5;have hw5:w.heap.size<=b5:=by omega
  have he21:=(he19.one hc20 hw5).one hc21 hw5;simp only[aY,bB]at L5;have hg5:=hg17.take [44];have tg5:=jI hg17.ws [44];have tg5t:=congrArg List.length tg5.1.toks;refine bS.cut (λ_ w'=>∃s6,(s6=(bX s5 [44]).2\/s6=bC (bX s5 [44]).2)/\EE E t.a n (gI s6) (av++[x]) (ks++[k])=R0/\PR w0 w' p f M5 vt s6 top/\Eff p f M5 M5 w21 w') ?_ ?_
  ·refine uJ h21 hg17.ws hN hg17.l λw22 h22 he22=>?_;rw[eM];simp only[iD];by_cases hy:(bX s5 [44]).1=true
   ·rw[hy,kU,Ad];intro g4;rw[sL];simp only[iD,Ad];intro g5;rw[sL,cX];rw[aE (λh=>by rw[hy]at h;exact absurd h.1 (by decide)),aJ hy]at hob;exact⟨_,.inl rfl,hob,h22,he22⟩
   ·have hy:(bX s5 [44]).1=false:=by simpa using hy
    rw[hy,iL];have hyn:(if(bX s5 [44]).1=true then(bX s5 [44]).2 else bC (bX s5 [44]).2)=bC (bX s5 [44]).2:=aE (by rw[hy];decide);rw[hyn]at hob;refine GdW.act (decide ((cur (bX s5 [44]).2).k≠5)) (λw'=>PR w0 w' p f M5 vt (bC (bX s5 [44]).2) top/\Eff p f M5 M5 w21 w') (λe=>by cases e) (λ_ J hJ=>?_) λg4 w23 hR23=>?_
    ·refine nD h22 hg5.ws hN hg5.l λw23 h23 he23=>?_;refine⟨i64 (cur (bX s5 [44]).2).k,rfl,?_⟩;dsimp only;rw[fT];exact hJ w23 ⟨h23,he22.trans he23⟩
    simp only[aG,aN,mJ];obtain⟨h23,he23⟩:=hR23;have hgn:=hg5.now;by_cases h5:(cur (bX s5 [44]).2).k≠5
    ·rw[bI h5];simp only[iD];refine GdW.act (!isS (bC (bX s5 [44]).2) [125]) (λw'=>PR w0 w' p f M5 vt (bC (bX s5 [44]).2) top/\Eff p f M5 M5 w21 w') (λe=>by cases e) (λ_ J hJ=>?_) λg5 w24 hR24=>?_
     ·refine wS λb w24 hb hz24 hbb hx24=>?_;have h24:=h23.ext hx24;have L:=h23.loc hz24 hb hbb;refine aAU h24 hgn.ws hN hgn.l ⟨AF hbb rfl,λk hk=>by simp only[Value.ownBlock,bE]at hk;subst hk;exact L.2⟩ λw25 h25 he25=>?_;rw[eM];rw[gP]at h25;exact hJ w25 ⟨h25,(he23.x hx24).trans he25⟩
     obtain⟨h24,he24⟩:=hR24;simp only[aG,aN,mJ];rw[bT];refine⟨λhn'=>?_,λhn'=>?_⟩
     ·have hn':isS (bC (bX s5 [44]).2) [125]=false:=by simpa using hn'
      refine nD h24 hgn.ws hN hgn.l λw25 h25 he25=>?_;refine⟨i64 (cur (bC (bX s5 [44]).2)).a,rfl,?_⟩;refine qB h25 (ht 50 _ ?_);rw[<-hob,aJ ⟨hy,h5,hn'⟩]
     ·have hn':isS (bC (bX s5 [44]).2) [125]=true:=by simpa using hn'
      rw[aE (λh=>by rw[h.2.2]at hn';cases hn')]at hob;exact⟨_,.inr rfl,hob,h24,he24⟩
    ·rw[cP h5];simp only[iD,Ad];intro g5;rw[sL,cX];rw[aE (λh=>h5 h.2.1)]at hob;exact⟨_,.inr rfl,hob,h23,he23⟩
  rintro _ g4 w22 ⟨s6,es6,hob6,h22,he22⟩;have hg6:Gd N s6 dl/\(bX s5 [44]).2.i<=s6.i/\s6.toks=(bX s5 [44]).2.toks:=by
   rcases es6 with rfl|rfl
   ·exact⟨hg5,aS _,rfl⟩
   ·exact⟨hg5.now,IW _,(gE hg5.ws).toks⟩
  obtain⟨hg6,hi6,et6⟩:=hg6;have et6:=congrArg List.length et6;refine zA h22 hg6.ws hN hg6.l λw23 h23 he23=>?_;have lg:=mL hg6.ws;have lgt:=congrArg List.length lg.1.toks;have he223:=he22.trans he23;have hz22:=he223.chg.size;have i1:=tg.1.le;have i2:=ng.1.le;have i3:=tg5.1.le;have i4:=lg.1.le;have hg23:=hg6.lines;have hlt23:=hg23.ws.lt;refine⟨⟨rfl,gI s6,M5,av++[x],ks++[k],va',vk',n,h23,hg23,he21.trans he223,L5.eff he223,L4.eff he223,?_,?_,dd2,by omega,hob6,by omega,?_,by simp[hks],by omega⟩,?_⟩
  ·rw[aX,aB,aM,DO];exact rA.eff he223
  ·rw[aX,aB,aM,OZ];exact rK.eff he223
  ·rw[aX,aB,aM];omega
  ·rw[h23.at_,h7.at_];omega
 ·have hyt:(bX s1 [125]).1=true:=by simpa using hyt
  rw[aJ hyt]at hob;refine bY L5.1 rfl ?_;have hE8:ER w0 w8 p f M1 vt B1 ⟨8,[],av,ks,t.a⟩ va vk:=⟨rA,rK,dd⟩;refine KP (e:=⟨8,[],av,ks,t.a⟩) h8 L4 rfl hE8 (λe=>by have:=rA.new b4 e;omega) (λe=>by have:=rK.new b4 e;omega) λw9 h9 hc9 hE9=>?_;exact hK _ _ hob.symm M1 _ _ w9 h9 hg8 (he8.one hc9 (by omega)) (hE9.le (by omega))
end
theorem xG{α:Type}{s:PS}{a:Int}{q:Bool}{f:PS->R α}(hd:s.deep≠24):within s a q f=(f {s with deep:=s.deep+1,quiet:=q}).bind λx s'=>.ok x {s' with deep:=s.deep,quiet:=s.quiet}:=by
 unfold within;rw[aE hd]
theorem tK{α:Type}{s:PS}{a:Int}{q:Bool}{f:PS->R α}(hd:s.deep=24):within s a q f=.err 7 a:=by
 unfold within;rw[aJ hd]
theorem iH(s:PS)(w:Str):isS (bC s) w=isS s w:=by unfold isS;rw[kO]
section
variable [HX]
variable{w0 w w' w1:World}{p f b:Nat}{M M' M0:Lay}{vt:Value}{s:PS}{top:List Nat}{N:Int}{K:Q0}{e:Ex}{va vk:Value}{wbn:Nat}{wb:World}{dl:Nat}
theorem Gd.sign{x:Str}(hg:Gd N s (dl+1))(hi:isS s x=true)(q:Bool):
  Gd N {bC s with deep:=(bC s).deep+1,quiet:=q} dl/\bC {bC s with deep:=(bC s).deep+1,quiet:=q}={bC s with deep:=(bC s).deep+1,quiet:=q}/\(cur {bC s with deep:=(bC s).deep+1,quiet:=q}).k≠0/\Gd N (step1 {bC s with deep:=(bC s).deep+1,quiet:=q}) dl:=by
 have h1:=hg.now.frame q;obtain⟨a,b,c⟩:=oJ hg.ws hi ((bC s).deep+1) q;have h2:=h1.step b;rw[a]at h2;exact⟨h1,a,b,h2⟩
theorem AR{x:Str}{KK:Q0}(h:PR w0 w p f M vt s top)(hg:Gd N s dl)(hK:∀w',PR w0 w' p f M vt (bC s) top->Eff p f M M w w'->KK (.bool (isS s x)) w'):
  dJ StT 1 [(.string (ofL []))] [(0,1,str x)] w λt60 w17=>aC P0 49 [.pointer (some ⟨p,0,none⟩),t60] w17 KK:=by
 refine wS λb w1 hb hz1 hbb hx1=>?_;have L1:=h.loc hz1 hb hbb;refine aAU (h.ext hx1) hg.ws hg.hN hg.l ⟨AF hbb rfl,λk hk=>by simp only[Value.ownBlock,bE]at hk;subst hk;exact L1.2⟩ λw2 h2 he2=>hK w2 h2 ((Eff.ext hx1).trans he2)
theorem aBe{E:PS->R Nat}(hS:yK w0 f)(hE:∀d,dl=d+1->EC w0 f 82 E d)(hF:rD E):EC w0 f 236 (Be E) dl:=by
 intro w p M vt s top N K h hg hK ht;refine Ws ?_;unfold aDB;have hN:=hg.hN;have hat:=hg.at0;refine sY rfl λb1 w1 hb1 hz1 hbb1 hx1=>?_;have h1:=h.ext hx1;have L1:=h.loc hz1 hb1 hbb1;refine L1.ld rfl ?_;refine nD h1 hg.ws hN hg.l λw2 h2 he2=>?_;have L1:=L1.eff he2;have he2:=(Eff.ext hx1).trans he2;have lt1:=L1.lt;refine bF λb3 w3 hb3 hz3 hbb3 hx3=>?_;have h3:=h2.ext hx3;have L3:=h2.loc hz3 hb3 hbb3;have L1:=L1.ext hx3;refine cG (l:=fK (cur s)) L3.1 rfl rfl rfl λw4 hz4 hbb4 hc4=>?_;have L3:Loc w0 w4 p f M vt b3 TkT (fK (cur s)):=⟨hbb4,L3.2.up (by omega)⟩;have h4:=h3.one hc4 L3.2;have L1:=L1.one hc4 (by omega);have hw2:=he2.chg.size;have he4:=(he2.x hx3).one hc4 (by omega);refine L3.ldf rfl ?_;simp only[dD,eJ,cU,aB,aM,aY,bB,Nat.reduceAdd,Nat.reduceLT,dM,aA];have lt3:=L3.lt;refine bF λb4 w5 hb4 hz5 hbb5 hx5=>?_;have h5:=h4.ext hx5;have L4:=h4.loc hz5 hb4 hbb5;have L1:=L1.ext hx5;have L3:=L3.ext hx5;refine cG (l:=[i64 0,str [],.slice none 0 0,.slice none 0 0,i64 (cur s).a]) L4.1 rfl rfl rfl λw6 hz6 hbb6 hc6=>?_;have L4:Loc w0 w6 p f M vt b4 ExT [i64 0,str [],.slice none 0 0,.slice none 0 0,i64 (cur s).a]:=⟨hbb6,L4.2.up (by omega)⟩;have h6:=h5.one hc6 L4.2;have L1:=L1.one hc6 (by omega);have L3:=L3.one hc6 (by omega);have he6:=(he4.x hx5).one hc6 (by omega);have hw6:=he6.chg.size;have hgn:=hg.now;have hi1:=wsi hgn.ws hgn.l;have hb14:b1≠b4:=by omega
 have hb34:b3≠b4:=by omega
 have hwb4:w.heap.size<=b4:=by omega
 have hlev:=hgn.lev;have hd24:(bC s).deep<=24:=by omega
 refine bS.cut (λ_ w'=>∃M1 s1 e va vk,PR w0 w' p f M1 vt s1 top/\Gd N s1 dl/\Eff p f M M1 w w'/\Loc w0 w' p f M1 vt b1 PpT [.pointer (some ⟨p,0,none⟩)]/\Loc w0 w' p f M1 vt b4 ExT (exc e va vk)/\ER w0 w' p f M1 vt w.heap.size e va vk/\Be E s=qT s1 e) ?_ ?_
 ·unfold Be at hK ht⊢;simp only at hK ht⊢;refine L3.ldf rfl ?_;rw[bM,aO];refine⟨λhk=>?_,λhk=>?_⟩
  ·
   have hk0:(cur s).k≠0:=by rw[hk];decide
   refine L1.ld rfl ?_;refine h6.go hi1 λw7 h7 he7 hz7=>?_;have L1:=L1.eff he7;have L3:=(L3.eff he7).drew;have L4:=(L4.eff he7).drew;have h7:=h7.drew;have he7:=(he6.trans he7).x (dB w7);rw[bR,bZ,aV];refine L3.ld rfl ?_;rw[bR,bZ,aV];refine L4.st rfl (by simp) λw8 L4 hc8 hz8=>?_;have L3:=L3.one hc8 hb34;refine⟨L3.ld rfl rfl,?_⟩;rw[bR,bZ,aV];refine L4.st rfl (by simp) λw9 L4 hc9 hz9=>?_;have h9:=(h7.one hc8 L4.2).one hc9 L4.2;refine⟨M,_,⟨4,(cur s).t,[],[],(cur s).a⟩,.slice none 0 0,.slice none 0 0,h9,hg.step hk0,(he7.one hc8 hwb4).one hc9 hwb4,(L1.drew.one hc8 hb14).one hc9 hb14,L4,ER.leaf rfl rfl,by rw[aJ hk]⟩
  rw[aE hk]at hK ht⊢;refine L3.ldf rfl ?_;rw[bM,aO];refine⟨λhk3=>?_,λhk3=>?_⟩
  ·
   rw[aJ hk3]at hK ht;have hk0:(cur s).k≠0:=by rw[hk3];decide
   refine L1.ld rfl ?_;refine h6.go hi1 λw7 h7 he7 hz7=>?_;have L1:=L1.eff he7;have L3:=L3.eff he7;have he7:=he6.trans he7;refine L1.ld rfl ?_;refine bY L3.1 rfl ?_;have htx:=hg.tx hk3;have hcp:=jU hg.ws;have hph:=(oV hk0).1;have hwt:wt {cur s with k:=3}=wt (lW (bC s)):=by
    have e3:(lW (bC s)).k=3:=hk3;unfold wt;simp only[e3];rfl
   refine YT hS hE hF h7 (hg.step hk0) htx.1 htx.2 ⟨hcp.1,hcp.2.1⟩ (hcp.2.2.2.1 hk3) (by rw[hwt];have:=hg.phi;omega) (λx s' ex M' w8 h8 he8=>?_) λc a' ex=>ht c a' ex;exact hK x s' ex M' w8 h8 (he7.trans he8)
  rw[aE hk3]at hK ht⊢;refine L3.ldf rfl ?_;rw[bM];simp only[iD];refine GdW.look (decide ((cur s).t≠Jl)) (λ_ J hJ=>?_) λg=>?_
  ·refine L3.ldf rfl ?_;rw[wT];exact hJ
  simp only[aG];rw[fC,bT];refine⟨λhcc=>?_,λhcc=>?_⟩
  ·
   have hc:(cur s).k=1/\(cur s).t≠Jl:=by simpa using hcc
   rw[aJ hc]at hK ht⊢;have hk0:(cur s).k≠0:=by rw[hc.1];decide
   have hgs:=hg.step hk0;refine L1.ld rfl ?_;refine h6.go hi1 λw7 h7 he7 hz7=>?_;have L1:=L1.eff he7;have L3:=L3.eff he7;have L4:=L4.eff he7;have he7:=he6.trans he7;refine L1.ld rfl ?_;refine AR h7 hgs λw8 h8 he8=>?_;have L1:=L1.eff he8;have L3:=L3.eff he8;have L4:=L4.eff he8;have he8:=he7.trans he8;rw[eM,bT];refine⟨λhn=>?_,λhy=>?_⟩
   ·have hn:isS (step1 (bC s)) [40]=false:=by simpa using hn
    rw[aE (by rw[hn];decide)];refine L3.ldf rfl ?_;refine UR ?_;rw[bR,bZ,aV];refine L4.st rfl (by simp) λw9 L4 hc9 hz9=>?_;have h9:=h8.one hc9 L4.2;have L1:=L1.one hc9 hb14;have L3:=L3.one hc9 hb34;have he9:=he8.one hc9 hwb4;refine L4.ldf rfl ?_;rw[bM,aO];refine⟨λh9k=>?_,λh9k=>?_⟩
    ·refine L3.ldf rfl ?_;rw[bR,bZ,aV];refine L4.st rfl (by simp) λw10 L4 hc10 hz10=>?_;refine⟨M,_,⟨xS (cur s).t,(cur s).t,[],[],(cur s).a⟩,.slice none 0 0,.slice none 0 0,h9.one hc10 L4.2,hgs.now,he9.one hc10 hwb4,L1.one hc10 hb14,L4,ER.leaf rfl rfl,by rw[aJ h9k]⟩
    ·refine⟨M,_,⟨xS (cur s).t,[],[],[],(cur s).a⟩,.slice none 0 0,.slice none 0 0,h9,hgs.now,he9,L1,L4,ER.leaf rfl rfl,by rw[aE h9k]⟩
   ·have hy:isS (step1 (bC s)) [40]=true:=by simpa using hy
    rw[aJ hy]at hK ht⊢;have L1:=L1.drew;have L3:=L3.drew;have L4:=L4.drew;have h8:=h8.drew;have he8:=he8.x (dB w8);rw[bR,bZ,aV];refine L3.ld rfl ?_;rw[bR,bZ,aV];refine L4.st rfl (by simp) λw9 L4 hc9 hz9=>?_;have h9:=h8.one hc9 L4.2;have L1:=L1.one hc9 hb14;have L3:=L3.one hc9 hb34;have he9:=he8.one hc9 hwb4;refine⟨L3.ld rfl rfl,?_⟩;rw[bR,bZ,aV];refine L4.st rfl (by simp) λw10 L4 hc10 hz10=>?_;have h10:=(h9.one hc10 L4.2).drew;have L1:=(L1.one hc10 hb14).drew;have L4:=L4.drew;have he10:=(he9.one hc10 hwb4).x (dB w10);simp only[aY,bB]at L4;refine L1.ld rfl ?_;refine L1.ld rfl ?_;have hgq:=hgs.now;refine nD h10 hgq.ws hN hgq.l λw11 h11 he11=>?_;rw[gP]at h11;rw[kO];have L1:=L1.eff he11;have L4:=L4.eff he11;have he11:=he10.trans he11;refine⟨L1.ld rfl rfl,i64 (cur (step1 (bC s))).a,rfl,?_⟩;have hql:=hgq.lev;refine oR h11 (by omega) (λhd=>ht 7 _ (by rw[tK hd];rfl)) λhd w12 h12 he12=>?_;obtain⟨d,rfl⟩:∃d,dl=d+1:=⟨dl-1,by omega⟩;rw[xG hd]at ht⊢;obtain⟨q1,q2,q3,q4⟩:=hgs.sign hy true;have L1:=L1.eff he12;have L4:=L4.eff he12;have he12:=he11.trans he12;refine jR (caps:=[.pointer (some ⟨b1,0,none⟩),.pointer (some ⟨b4,0,none⟩)]) ?_;refine Wk ?_;unfold aDv;refine L1.ld rfl ?_;refine h12.go (wsi q1.ws q1.l) λw13 h13 he13 hz13=>?_;have L1:=L1.eff he13;have L4:=L4.eff he13;have he13:=he12.trans he13;refine L1.ld rfl ?_;have lt4':=L4.lt;refine RJ (hE d rfl) hF h13 q4 (λl s' el M' v w14 h14 hg14 he14 hr14=>?_) λc a' el=>ht c a' (by rw[el];rfl);have L1:=L1.eff he14;have L4:=L4.eff he14;have hw13:=he13.chg.size;obtain⟨vp,vc,ev,_⟩:=hr14.own.sl.shape;have nv4:v.ownBlock≠some b4:=λe=>by have:=hr14.new b4 e;omega
    rw[bR,bZ,aV];refine L4.st (by rw[ev];rfl) (by simp) λw15 L4 hc15 hz15=>?_;have h15:=h14.one hc15 L4.2;have L1:=L1.one hc15 hb14;have hr15:=hr14.one hc15 nv4;have he15:=(he13.trans he14).one hc15 hwb4;have hg14l:=hg14.lev;refine⟨M',s',h15,by omega,λw16 h16 he16=>?_⟩;refine⟨M',_,⟨12,(cur s).t,l,[],(cur s).a⟩,v,.slice none 0 0,h16,hgs.now.back hg14,he15.trans he16,L1.eff he16,L4.eff he16,(ER.noK rfl (hr15.le (by omega))).eff he16,by rw[el];rfl⟩
  ·
   have hc:¬((cur s).k=1/\(cur s).t≠Jl):=by simpa using hcc
   rw[aE hc]at hK ht⊢;simp only[iH]at hK ht⊢;have ret5:∀{w7 w8:World} {M':Lay} {s':PS} {e:Ex} {va vk:Value},PR w0 w7 p f M' vt s' top->Loc w0 w7 p f M' vt b1 PpT [.pointer (some ⟨p,0,none⟩)]->Loc w0 w7 p f M' vt b4 ExT [i64 0,str [],.slice none 0 0,.slice none 0 0,i64 (cur s).a]->ER w0 w7 p f M' vt w8.heap.size e va vk->b4<w8.heap.size->w.heap.size<=w8.heap.size->∀{KW:World->Prop},
     (∀w9,PR w0 w9 p f M' vt s' top->Chg (One b4) w7 w9->Loc w0 w9 p f M' vt b1 PpT [.pointer (some ⟨p,0,none⟩)]->Loc w0 w9 p f M' vt b4 ExT (exc e va vk)->ER w0 w9 p f M' vt w.heap.size e va vk->KW w9)->stW 5 (.pointer (some ⟨b4,0,none⟩)) (.agg (exc e va vk).toArray) w7 KW:=λ{w7 w8 M' s' e va vk} h7 L1 L4 hE7 hb hw {KW} hKW=>by
    refine cG (l:=exc e va vk) L4.1 rfl rfl (MJ hE7) λw9 hz9 hb9 hc9=>?_;exact hKW w9 (h7.one hc9 L4.2) hc9 (L1.one hc9 hb14) ⟨hb9,L4.2.up (by omega)⟩ ((hE7.one hc9 (λe=>by have:=hE7.rA.new b4 e;omega) (λe=>by have:=hE7.rK.new b4 e;omega)).le hw)
   refine L1.ld rfl ?_;refine AR h6 hgn λw7 h7 he7=>?_;rw[gP]at h7;have L1:=L1.eff he7;have L3:=L3.eff he7;have L4:=L4.eff he7;have he7:=he6.trans he7;rw[iH,bT];refine⟨λhi=>?_,λhi=>?_⟩
   ·rw[aJ hi]at hK ht;have lt1:=L1.lt;have hw7:=he7.chg.size;refine bF λb5 w8 hb5 hz8 hbb8 hx8=>?_;have h8:=h7.ext hx8;have L5:=h7.loc hz8 hb5 hbb8;refine L5.st rfl (by simp) λw9 L5 hc9 hz9=>?_;have h9:=h8.one hc9 L5.2;have L1:=(L1.ext hx8).one hc9 (by omega);have L3:=(L3.ext hx8).one hc9 (by have:=L3.lt;omega);have he9:=(he7.x hx8).one hc9 (by omega);refine L1.ld rfl ?_;refine L3.ldf rfl ?_;refine oR h9 hd24 (λhd=>ht 7 _ (by rw[tK hd])) λhd w10 h10 he10=>?_;obtain⟨d,rfl⟩:∃d,dl=d+1:=⟨dl-1,by omega⟩;rw[xG hd]at ht hK;obtain⟨q1,q2,q3,q4⟩:=hg.sign hi true;have L1:=L1.eff he10;have L5:=L5.eff he10;have he10:=he9.trans he10;refine jR (caps:=[.pointer (some ⟨b1,0,none⟩),.pointer (some ⟨b5,0,none⟩)]) ?_;refine Wi ?_;unfold aDt;refine L1.ld rfl ?_;refine h10.go (wsi q1.ws q1.l) λw11 h11 he11 hz11=>?_;have L1:=L1.eff he11;have L5:=L5.eff he11;have he11:=he10.trans he11;refine L1.ld rfl ?_;refine hE d rfl w11 p M vt _ top N _ h11 q4 (λx s' ex M' w12 h12 he12=>?_) λc a' ex=>ht c a' (by rw[ex];rfl);obtain⟨g12,_⟩:=q4.e hF ex;rw[ex]at hK ht;simp only[R.bind]at hK ht;have L1:=L1.eff he12;have L5:=L5.eff he12;have he12:=he11.trans he12;refine L5.st rfl (by simp) λw13 L5 hc13 hz13=>?_;have h13:=h12.one hc13 L5.2;have L1:=L1.one hc13 (by omega);have he13:=he12.one hc13 (by omega);refine L1.ld rfl ?_;refine xH h13 g12.ws hN g12.l (λs3 e3 w14 h14 he14=>?_) λc a' e3=>ht c a' (by rw[e3]);rw[e3]at hK;simp only at hK;obtain⟨g14,_⟩:=g12.want e3;have g14l:=g14.lev;refine⟨M',s3,h14,by omega,λw15 h15 he15=>?_⟩;refine((L5.eff he14).eff he15).ld rfl ?_;exact hK x _ rfl M' w15 h15 ((he13.trans he14).trans he15)
   rw[aE (by rw[hi];decide)]at hK ht⊢;refine L1.ld rfl ?_;refine AR h7 hgn λw8 h8 he8=>?_;rw[gP]at h8;have L1:=L1.eff he8;have L3:=L3.eff he8;have L4:=L4.eff he8;have he8:=he7.trans he8;rw[iH,bT];refine⟨λhi=>?_,λhi=>?_⟩
   ·rw[aJ hi]at hK ht⊢;refine L1.ld rfl ?_;refine L3.ldf rfl ?_;refine oR h8 hd24 (λhd=>ht 7 _ (by rw[tK hd];rfl)) λhd w10 h10 he10=>?_;obtain⟨d,rfl⟩:∃d,dl=d+1:=⟨dl-1,by omega⟩;rw[xG hd]at ht⊢;obtain⟨q1,q2,q3,q4⟩:=hg.sign hi true;have L1:=L1.eff he10;have L3:=L3.eff he10;have L4:=L4.eff he10;have he10:=he8.trans he10;refine jR (caps:=[.pointer (some ⟨b1,0,none⟩),.pointer (some ⟨b3,0,none⟩),.pointer (some ⟨b4,0,none⟩)]) ?_;refine Wh ?_;unfold aDs;refine L1.ld rfl ?_;refine bY L3.1 rfl ?_;have lt4':=L4.lt;refine aAR (hE d rfl) hF h10 q1 q3 q2 (λe s' el M' va vk w12 h12 g12 he12 hE12=>?_) λc a' el=>ht c a' (by rw[el];rfl);refine ret5 h12 (L1.eff he12) (L4.eff he12) hE12 lt4' he10.chg.size λw13 h13 hc13 L1 L4 hE13=>?_;have g12l:=g12.lev;refine⟨M',s',h13,by omega,λw14 h14 he14=>?_⟩;exact⟨M',_,e,va,vk,h14,hgn.back g12,((he10.trans he12).one hc13 hwb4).trans he14,L1.eff he14,L4.eff he14,hE13.eff he14,by rw[el];rfl⟩
   rw[aE (by rw[hi];decide)]at hK ht⊢;refine L1.ld rfl ?_;refine AR h8 hgn λw9 h9 he9=>?_;rw[gP]at h9;have L1:=L1.eff he9;have L3:=L3.eff he9;have L4:=L4.eff he9;have he9:=he8.trans he9;rw[iH,bT];refine⟨λhi=>?_,λhi=>?_⟩
   ·rw[aJ hi]at hK ht⊢;refine L1.ld rfl ?_;refine L3.ldf rfl ?_;refine oR h9 hd24 (λhd=>ht 7 _ (by rw[tK hd];rfl)) λhd w10 h10 he10=>?_;obtain⟨d,rfl⟩:∃d,dl=d+1:=⟨dl-1,by omega⟩;rw[xG hd]at ht⊢;obtain⟨q1,q2,q3,q4⟩:=hg.sign hi false;have L1:=L1.eff he10;have L3:=L3.eff he10;have L4:=L4.eff he10;have he10:=he9.trans he10;refine jR (caps:=[.pointer (some ⟨b1,0,none⟩),.pointer (some ⟨b3,0,none⟩),.pointer (some ⟨b4,0,none⟩)]) ?_;refine We ?_;unfold aDq;refine L1.ld rfl ?_;refine bY L3.1 rfl ?_;have lt4':=L4.lt;refine PZ (hE d rfl) hF h10 q1 q3 q2 (λe s' el M' va vk w12 h12 g12 he12 hE12=>?_) λc a' el=>ht c a' (by rw[el];rfl);refine ret5 h12 (L1.eff he12) (L4.eff he12) hE12 lt4' he10.chg.size λw13 h13 hc13 L1 L4 hE13=>?_;have g12l:=g12.lev;refine⟨M',s',h13,by omega,λw14 h14 he14=>?_⟩;exact⟨M',_,e,va,vk,h14,hgn.back g12,((he10.trans he12).one hc13 hwb4).trans he14,L1.eff he14,L4.eff he14,hE13.eff he14,by rw[el];rfl⟩
   ·rw[aE (by rw[hi];decide)]at ht;refine L3.ldf rfl ?_;exact qB h9 (ht _ _ rfl)
 ·rintro _ g w7 ⟨M1,s1,e,va,vk,h7,hg7,he7,L1,L4,hE7,ea⟩;rw[ea]at hK;refine L1.ld rfl ?_;refine bY L4.1 rfl ?_;refine IJ h7 he7 hE7 hg7 λM' w8 h8 he8 _=>?_;exact hK _ _ rfl M' w8 h8 he8
end
section
variable [HX]
variable{w0 w w' w1:World}{p f b:Nat}{M M' M0:Lay}{vt:Value}{s:PS}{top:List Nat}{N:Int}{K:Q0}{e:Ex}{va vk:Value}{wbn:Nat}{wb:World}{dl:Nat}
theorem PR.row_new{l:List Nat}(h:PR w0 w p f M vt s top){r:Nat}(hr:r=w.heap.size)(hz:w'.heap.size=w.heap.size+1)(hb:w'.heap[r]?=some (.cells (ints l).toArray iT (0,0)))(hl:l.length<=1000000):
  Ro w0 w' p f M vt w.heap.size iT 1 (.slice (some ⟨r,0,none⟩) l.length l.length) l.length (ints l):=
 ⟨PU hb (by have:=h.base;omega) (QQ l) hl,λk hk=>by simp only[Value.ownBlock,bE]at hk;subst hk;exact h.off_new (by omega) (by omega),λk hk=>by simp only[Value.ownBlock,bE]at hk;omega⟩
theorem Zv{E:PS->R Nat}(hS:yK w0 f)(hE:∀d,dl=d+1->EC w0 f 82 E d)(hF:rD E):EC w0 f 205 (Dq E) dl:=by
 intro w p M vt s top N K h hg hK ht;refine WC ?_;unfold aDI;have hN:=hg.hN;refine sY rfl λb1 w1 hb1 hz1 hbb1 hx1=>?_;have h1:=h.ext hx1;have L1:=h.loc hz1 hb1 hbb1;refine L1.ld rfl ?_;unfold Dq at hK ht;refine aBe hS hE hF w1 p M vt s top N _ h1 hg (λx s1 ex M1 w2 h2 he2=>?_) λc a' ex=>ht c a' (by rw[ex];rfl);rw[ex]at hK ht;simp only[R.bind]at hK ht;have hA:rD (Be E):=⟨λN=>Kg (hF.ok N),IN hF.z⟩;obtain⟨hg1,hi1⟩:=hg.e hA ex;have etl:=(hA.ok N) s hg.ws;rw[ex]at etl;have etl:=congrArg List.length etl.1.1.toks;have L1:=L1.eff he2;have he2:=(Eff.ext hx1).trans he2;generalize hR:rG E (s.toks.length+1) s1 x=R0 at hK ht;refine cZ.go (λst w'=>∃s1 M1 x n,st=[i64 ((x:Nat):Int)]/\PR w0 w' p f M1 vt s1 top/\Gd N s1 dl/\Eff p f M M1 w w'/\Loc w0 w' p f M1 vt b1 PpT [.pointer (some ⟨p,0,none⟩)]/\rG E n s1 x=R0/\s1.toks.length<n+s1.i/\s1.toks.length=s.toks.length) (λ_ w'=>s.toks.length-Ai w' p)
  ⟨s1,M1,x,s.toks.length+1,rfl,h2,hg1,he2,L1,hR,by have:=hg1.ws.lt;omega,etl⟩ ?_
 clear he2 L1 h2 ex hg1 hi1 etl hR;rintro st g w2 ⟨s2,M2,y,n,rfl,h2,hg2,he2,L1,hpf,hn,htl⟩;simp only[aG];have hlt2:=hg2.ws.lt;have hat:=hg2.at0;obtain⟨n,rfl⟩:∃m,n=m+1:=⟨n-1,by omega⟩;simp only[rG]at hpf;refine L1.ld rfl ?_;refine nD h2 hg2.ws hN hg2.l λw3 h3 he3=>?_;have L1:=L1.eff he3;have he3:=he2.trans he3;have hgn:=hg2.now;have lt1:=L1.lt;have hw3:=he3.chg.size;refine bF λb4 w4 hb4 hz4 hbb4 hx4=>?_;have h4:=h3.ext hx4;have L4:=h3.loc hz4 hb4 hbb4;have L1:=L1.ext hx4;refine cG (l:=fK (cur s2)) L4.1 rfl rfl rfl λw5 hz5 hbb5 hc5=>?_;have L4:Loc w0 w5 p f M2 vt b4 TkT (fK (cur s2)):=⟨hbb5,L4.2.up (by omega)⟩;have h5:=h4.one hc5 L4.2;have L1:=L1.one hc5 (by omega);have he5:=(he3.x hx4).one hc5 (by omega);have hwb1:b1=w.heap.size:=hb1;have fin:∀{w6:World} {M6:Lay} {s6:PS} {e:Ex} {va:Value},PR w0 w6 p f M6 vt s6 top->Gd N s6 dl->Eff p f M M6 w w6->Loc w0 w6 p f M6 vt b1 PpT [.pointer (some ⟨p,0,none⟩)]->Ro w0 w6 p f M6 vt w1.heap.size iT 1 va e.args.length (ints e.args)->e.keys=[]->s2.i<s6.i->Syn.phi s6+1<=Syn.phi s2->s6.toks.length=s.toks.length->((qT s6 e).bind λy s3=>rG E n s3 y)=R0->
   aC P0 117 [.pointer (some ⟨p,0,none⟩),.agg (exc e va (.slice none 0 0)).toArray] w6 λt24 w12=>(∃s1 M1 x n,[t24]=[i64 ((x:Nat):Int)]/\PR w0 w12 p f M1 vt s1 top/\Gd N s1 dl/\Eff p f M M1 w w12/\Loc w0 w12 p f M1 vt b1 PpT [.pointer (some ⟨p,0,none⟩)]/\rG E n s1 x=R0/\s1.toks.length<n+s1.i/\s1.toks.length=s.toks.length)/\s.toks.length-Ai w12 p<s.toks.length-Ai w2 p:=λ{w6 M6 s6 e va} h6 hg6 he6 L1 hr hk hi hph htl6 hp6=>by
  refine IJ h6 he6 (ER.noK hk (hr.le (by omega))) hg6 λM' w7 h7 he7 hl7=>?_;have hlt6:=hg6.ws.lt;refine⟨⟨_,M',_,n,rfl,h7,?_,he7,hl7 _ _ _ L1 (λe=>by have:=hr.new b1 e;omega) (by simp[Value.ownBlock]),hp6,by show s6.toks.length<n+s6.i;omega,htl6⟩,?_⟩
  ·exact hg6.put (by have:=hg2.phi;omega)
  ·rw[h7.at_,h2.at_];show s.toks.length-s6.i<_;omega
 have hn1:=gE hg2.ws;have hn1t:=congrArg List.length hn1.toks;refine L1.ld rfl ?_;refine uJ h5 hgn.ws hN hgn.l λw6 h6 he6=>?_;have L1:=L1.eff he6;have L4:=L4.eff he6;have he6:=he5.trans he6;have tg:=jI hgn.ws [46];have tgt:=congrArg List.length tg.1.toks;have hg6:=hgn.take [46];have tp:=kR (bC s2) [46];have np:=jT s2;rw[bT];refine⟨λhy=>?_,λhn'=>?_⟩
 ·
  rw[aJ hy]at hpf;have tp:=tp.2 hy;have ti:=tg.2.1 hy;have L1:=L1.drew;have L4:=L4.drew;have h6:=h6.drew;have he6:=he6.x (dB w6);have ld1:∀{w':World} {M':Lay},Loc w0 w' p f M' vt b1 PpT [.pointer (some ⟨p,0,none⟩)]->ldW false 1 (.pointer (some ⟨b1,0,none⟩)) w' λx=>x=.pointer (some ⟨p,0,none⟩):=λL=>L.ld rfl rfl;have ld4:∀{w':World} {M':Lay},Loc w0 w' p f M' vt b4 TkT (fK (cur s2))->ldW false 1 (.pointer (some ⟨b4,2,none⟩)) w' λx=>x=i64 (cur s2).a:=λL=>L.ld rfl rfl;refine L1.ld rfl ?_;refine L1.ld rfl ?_;rw[bR,bZ,aV];refine L4.ld rfl ?_;have hw6:=he6.chg.size;have hz1':w1.heap.size<=w6.drew.heap.size:=by have:=he6.chg.size;have:=L1.lt;omega
  have kd:∀{w':World} {KK:Q0},PR w0 w' p f M2 vt (bX (bC s2) [46]).2 top->(∀u s7,lO (bX (bC s2) [46]).2 1=.ok u s7->∀w'',PR w0 w'' p f M2 vt s7 top->Eff p f M2 M2 w' w''->KK (.agg (fK u).toArray) w'')->aC P0 46 [.pointer (some ⟨p,0,none⟩),.int .i64 1] w' KK:=λ{w' KK} h hKK=>
   xV h hg6.ws hN hg6.l hKK λc a' eu=>ht c a' (by rw[<-hpf,eu];rfl)
  have done:∀{u:Tok} {s7:PS},lO (bX (bC s2) [46]).2 1=.ok u s7->Gd N s7 dl/\s2.i<s7.i/\Syn.phi s7+1<=Syn.phi s2/\s7.toks.length=s.toks.length/\((qT s7 ⟨10,u.t,[y],[],(cur s2).a⟩).bind λy s3=>rG E n s3 y)=R0:=λ{u s7} eu=>by
   have hk:=hg6.kind (by decide) eu;have hks:=lN hg6.ws 1 (by decide);have hkp:=nP (bX (bC s2) [46]).2 1;rw[eu]at hks hkp hpf;have hkt:=congrArg List.length hks.1.1.toks;have hkp:=hkp.1;have h1:=hn1.le;exact⟨hk.1,by have:=hk.2.1;omega,by omega,by omega,hpf⟩
  refine⟨?_,?_,?_,?_,?_,?_⟩
  ·refine kd h6 λu s7 eu w7 h7 he7=>?_;have L1:=L1.eff he7;have L4:=L4.eff he7;have he7':=he6.trans he7;refine⟨ld4 L4,ld1 L1,str u.t,rfl,ld4 L4,ld1 L1,?_⟩;refine jS λr w8 hr hz8 hrb hx8=>?_;refine⟨ld4 (L4.ext hx8),ld1 (L1.ext hx8),?_⟩;simp only[dD,eJ,gO,cU,aB,aM,aY,bB,Nat.reduceAdd,Nat.reduceLT,dM,aA];obtain⟨d1,d2,d3,d4,d5⟩:=done eu;exact fin (e:=⟨10,u.t,[y],[],(cur s2).a⟩) (h7.ext hx8) d1 (he7'.x hx8) (L1.ext hx8) ((h7.row_new (l:=[y]) hr hz8 hrb (by simp)).le (by have:=he7.chg.size;omega)) rfl d2 d3 d4 d5
  ·exact ld4 L4
  ·exact ld1 L1
  ·exact ld1 L1
  ·refine kd h6 λu s7 eu w7 h7 he7=>?_;have L1:=L1.eff he7;have L4:=L4.eff he7;have he7':=he6.trans he7;refine⟨ld4 L4,ld1 L1,str u.t,rfl,?_⟩;refine jS λr w8 hr hz8 hrb hx8=>?_;refine⟨ld4 (L4.ext hx8),ld1 (L1.ext hx8),?_⟩;simp only[dD,eJ,gO,cU,aB,aM,aY,bB,Nat.reduceAdd,Nat.reduceLT,dM,aA];obtain⟨d1,d2,d3,d4,d5⟩:=done eu;exact fin (e:=⟨10,u.t,[y],[],(cur s2).a⟩) (h7.ext hx8) d1 (he7'.x hx8) (L1.ext hx8) ((h7.row_new (l:=[y]) hr hz8 hrb (by simp)).le (by have:=he7.chg.size;omega)) rfl d2 d3 d4 d5
  ·refine jS λr w8 hr hz8 hrb hx8=>?_;have L1:=L1.ext hx8;have L4:=L4.ext hx8;have rw8:=h6.row_new (l:=[y]) hr hz8 hrb (by simp);refine⟨ld4 L4,ld1 L1,ld1 L1,?_⟩;refine kd (h6.ext hx8) λu s7 eu w7 h7 he7=>?_;have L1:=L1.eff he7;have L4:=L4.eff he7;refine⟨ld4 L4,ld1 L1,str u.t,rfl,?_⟩;simp only[dD,eJ,gO,cU,aB,aM,aY,bB,Nat.reduceAdd,Nat.reduceLT,dM,aA];obtain⟨d1,d2,d3,d4,d5⟩:=done eu;exact fin (e:=⟨10,u.t,[y],[],(cur s2).a⟩) h7 d1 ((he6.x hx8).trans he7) L1 ((rw8.eff he7).le (by omega)) rfl d2 d3 d4 d5
 ·have hn':(bX (bC s2) [46]).1=false:=by simpa using hn'
  rw[aE (by rw[hn'];decide)]at hpf;have e6:(bX (bC s2) [46]).2=bC s2:=by
   unfold bX at hn'⊢;split
   ·rename_i hi;rw[aJ hi]at hn';cases hn'
   ·exact gP s2
  rw[e6]at h6;refine L1.ld rfl ?_;refine AR h6 hgn λw7 h7 he7=>?_;rw[gP]at h7;have L1:=L1.eff he7;have L4:=L4.eff he7;have he7:=he6.trans he7;simp only[iH]at hpf⊢;rw[bT];refine⟨λhi=>?_,λhi=>?_⟩
  ·rw[aJ hi]at hpf;have hw7:=he7.chg.size;have lt1:=L1.lt;have lt4:=L4.lt;refine bF λb5 w8 hb5 hz8 hbb8 hx8=>?_;have h8:=h7.ext hx8;have L5:=h7.loc hz8 hb5 hbb8;have L1:=L1.ext hx8;have L4:=L4.ext hx8;refine bF λb6 w9 hb6 hz9 hbb9 hx9=>?_;have h9:=h8.ext hx9;have L6:=h8.loc hz9 hb6 hbb9;have L1:=L1.ext hx9;have L4:=L4.ext hx9;have L5:=L5.ext hx9;refine L5.st rfl (by simp) λw10 L5 hc10 hz10=>?_;have h10:=h9.one hc10 L5.2;have L1:=L1.one hc10 (by omega);have L4:=L4.one hc10 (by omega);have L6:=L6.one hc10 (by omega);refine L6.st rfl (by simp) λw11 L6 hc11 hz11=>?_;have h11:=h10.one hc11 L6.2;have L1:=L1.one hc11 (by omega);have L4:=L4.one hc11 (by omega);have L5:=L5.one hc11 (by omega);have he11:=(((he7.x hx8).x hx9).one hc10 (by omega)).one hc11 (by omega);refine L1.ld rfl ?_;refine L4.ldf rfl ?_;have hlev:=hgn.lev;refine oR h11 (by omega) (λhd=>ht 7 _ (by rw[<-hpf,tK hd];rfl)) λhd w12 h12 he12=>?_;obtain⟨d,rfl⟩:∃d,dl=d+1:=⟨dl-1,by omega⟩;rw[xG hd]at hpf;obtain⟨q1,q2,q3,q4⟩:=hg2.sign hi true;have L1:=L1.eff he12;have L4:=L4.eff he12;have L5:=L5.eff he12;have L6:=L6.eff he12;have he12:=he11.trans he12;refine jR (caps:=[.pointer (some ⟨b1,0,none⟩),.pointer (some ⟨b6,0,none⟩),.pointer (some ⟨b5,0,none⟩)]) ?_;refine Wr ?_;unfold aDA;refine L1.ld rfl ?_;refine h12.go (wsi q1.ws q1.l) λw13 h13 he13 hz13=>?_;have L1:=L1.eff he13;have L4:=L4.eff he13;have L5:=L5.eff he13;have L6:=L6.eff he13;have he13:=he12.trans he13;generalize hq0:({bC s2 with deep:=(bC s2).deep+1,quiet:=true}:PS)=q0 at*
   have hq0':∀x:PS,x=(⟨(bC s2).toks,(bC s2).i,(bC s2).off,(bC s2).deep+1,true,(bC s2).ex,(bC s2).bl⟩:PS)->x=q0:=λx hx=>hx.trans hq0;have q0p:Syn.phi q0=Syn.phi (bC s2):=by rw[<-hq0];rfl
   have q0i:q0.i=(bC s2).i:=by rw[<-hq0]
   have q0t:q0.toks=(bC s2).toks:=by rw[<-hq0]
   have st0:=jJ q1.ws q3;rw[q2]at st0;have sp0:=(oV q3).2;rw[q2]at sp0;have q4l:=q4.lev;have n1le:=hn1.le;have tg5:=jI q4.ws [42];have tp5:=kR (step1 q0) [42];have g5:=q4.take [42];have tg5t:=congrArg List.length tg5.1.toks;have st0t:=congrArg List.length st0.1.toks;have q0tl:=congrArg List.length q0t;refine bS.cut (λ_ w'=>∃M6 o s6,(((if(bX (step1 q0) [42]).1=true then .ok none (bX (step1 q0) [42]).2 else(E (bX (step1 q0) [42]).2).bind λy q1=>.ok (some y) q1):R (Option Nat))=.ok o s6)/\PR w0 w' p f M6 vt s6 top/\Gd N s6 d/\Eff p f M M6 w w'/\Loc w0 w' p f M6 vt b1 PpT [.pointer (some ⟨p,0,none⟩)]/\Loc w0 w' p f M6 vt b4 TkT (fK (cur s2))/\Loc w0 w' p f M6 vt b6 4 [.bool o.isNone]/\Loc w0 w' p f M6 vt b5 iT [i64 ((o.getD 0:Nat):Int)]/\s6.i>=(step1 q0).i/\Syn.phi s6<=Syn.phi (step1 q0)/\s6.toks.length=s.toks.length) ?_ ?_
   ·refine L1.ld rfl ?_;refine uJ h13 q4.ws hN q4.l λw14 h14 he14=>?_;have L1:=L1.eff he14;have L4:=L4.eff he14;have L5:=L5.eff he14;have L6:=L6.eff he14;have he14:=he13.trans he14;refine L6.st rfl (by simp) λw15 L6 hc15 hz15=>?_;have h15:=h14.one hc15 L6.2;have L1:=L1.one hc15 (by omega);have L4:=L4.one hc15 (by omega);have L5:=L5.one hc15 (by omega);have he15:=he14.one hc15 (by omega);refine L6.ld rfl ?_;rw[eM,bT];refine⟨λhns=>?_,λhsp=>?_⟩
    ·have hns:(bX (step1 q0) [42]).1=false:=by simpa using hns
     rw[hns]at L6;refine L1.ld rfl ?_;refine hE d rfl w15 p M2 vt _ top N _ h15 g5 (λz s6 ez M6 w16 h16 he16=>?_) λc a' ez=>ht c a' ?_
     ·obtain⟨g6,i6⟩:=g5.e hF ez;have ep:=hF.z (bX (step1 q0) [42]).2;have eo:=hF.ok N _ g5.ws;rw[ez]at ep eo;have eot:=congrArg List.length eo.1.1.toks;have ep:Syn.phi s6<=Syn.phi (bX (step1 q0) [42]).2:=ep;have L1:=L1.eff he16;have L4:=L4.eff he16;have L5:=L5.eff he16;have L6:=L6.eff he16;refine L5.st rfl (by simp) λw17 L5 hc17 hz17=>?_;refine⟨M6,some z,s6,?_,h16.one hc17 L5.2,g6,(he15.trans he16).one hc17 (by omega),L1.one hc17 (by omega),L4.one hc17 (by omega),L6.one hc17 (by omega),L5,by have:=tg5.1.le;omega,by have:=tp5.1;omega,by omega⟩;rw[aE (by rw[hns];decide),ez];rfl
     ·rw[<-hpf];rw[aE (by rw[hns];decide),ez];rfl
    ·have hsp:(bX (step1 q0) [42]).1=true:=by simpa using hsp
     rw[hsp]at L6;exact⟨M2,none,_,by rw[aJ hsp],h15,g5,he15,L1,L4,L6,L5,tg5.1.le,tp5.1,by omega⟩
   rintro _ g2 w14 ⟨M6,o,s6,eo,h14,g6,he14,L1,L4,L6,L5,i6,p6,t6⟩;have hpf2:((oH s6 [93]).bind λ_ q2=>.ok o q2)=(if(bX (step1 q0) [42]).1=true then(oH (bX (step1 q0) [42]).2 [93]).bind λ_ q2=>.ok none q2 else(E (bX (step1 q0) [42]).2).bind λy q1=>(oH q1 [93]).bind λ_ q2=>.ok (some y) q2):=by
    by_cases hsp:(bX (step1 q0) [42]).1=true
    ·rw[aJ hsp]at eo⊢;injection eo with e1 e2
     subst e1 e2;rfl
    ·rw[aE hsp]at eo⊢;cases hez:E (bX (step1 q0) [42]).2 with
     |err c a=>rw[hez]at eo;cases eo
     |ok z s7=>
      rw[hez]at eo;simp only[R.bind]at eo;injection eo with e1 e2
      subst e1 e2;rfl
   rw[<-hpf2]at hpf;refine L1.ld rfl ?_;refine xH h14 g6.ws hN g6.l (λs7 e7 w15 h15 he15=>?_) λc a' e7=>ht c a' (by rw[<-hpf,e7];rfl);rw[e7]at hpf;simp only[R.bind]at hpf;obtain⟨g7,i7,_⟩:=g6.want e7;have w7:=kQ s6 [93];have w7s:=kB g6.ws [93];rw[e7]at w7 w7s;have w7:Syn.phi s7+1<=Syn.phi s6:=w7;have w7t:=congrArg List.length w7s.1.1.toks;have g7l:=g7.lev;have L1:=L1.eff he15;have L4:=L4.eff he15;have L5:=L5.eff he15;have L6:=L6.eff he15;have he15:=he14.trans he15;refine⟨M6,s7,h15,by omega,λw16 h16 he16=>?_⟩;have L1:=L1.eff he16;have L4:=L4.eff he16;have L5:=L5.eff he16;have L6:=L6.eff he16;have he16:=he15.trans he16;have g8:Gd N {s7 with deep:=(bC s2).deep,quiet:=(bC s2).quiet} (d+1):=hgn.back g7;have st1i:(step1 q0).i=(bC s2).i+1:=by show q0.i+1=_;rw[q0i]
   refine L6.ld rfl ?_;rw[eM,bT];cases o with
   |some z=>
    refine⟨λ_=>?_,λe=>by cases e⟩;simp only at hpf;refine L1.ld rfl ?_;refine L5.ld rfl ?_;have hz1':w1.heap.size<=w16.heap.size:=by have:=L1.lt;omega
    refine JZ λr w17 hr hz17 hrb hx17=>?_;refine(L4.ext hx17).ldf rfl ?_;simp only[dD,eJ,gO,cU,aB,aM,aY,bB,Nat.reduceAdd,Nat.reduceLT,dM,aA];refine fin (e:=⟨11,[],[y,z],[],(cur s2).a⟩) (h16.ext hx17) g8 (he16.x hx17) (L1.ext hx17) ((h16.row_new (l:=[y,z]) hr hz17 hrb (by simp)).le hz1') rfl ?_ ?_ ?_ hpf
    ·show s2.i<s7.i;omega
    ·show Syn.phi s7+1<=_;omega
    ·show s7.toks.length=_;omega
   |none=>
    refine⟨λe=>(by cases e),λ_=>?_⟩;simp only at hpf;refine L1.ld rfl ?_;refine xH h16 g8.ws hN g8.l (λs9 e9 w17 h17 he17=>?_) λc a' e9=>ht c a' (by rw[<-hpf,e9]);rw[e9]at hpf;simp only[R.bind]at hpf;obtain⟨g9,i9,_⟩:=g8.want e9;generalize hs8:({s7 with deep:=(bC s2).deep,quiet:=(bC s2).quiet}:PS)=s8 at*
    have s8p:Syn.phi s8=Syn.phi s7:=by rw[<-hs8];rfl
    have s8i:s8.i=s7.i:=by rw[<-hs8]
    have s8t:s8.toks=s7.toks:=by rw[<-hs8]
    have s8t:=congrArg List.length s8t;have w9:=kQ s8 [46];have w9s:=kB g8.ws [46];rw[e9]at w9 w9s;have w9:Syn.phi s9+1<=Syn.phi s8:=w9;have w9t:=congrArg List.length w9s.1.1.toks;have L1:=(L1.eff he17).drew;have L4:=(L4.eff he17).drew;have h17:=h17.drew;have he17':=(he16.trans he17).x (dB w17);have hz1':w1.heap.size<=w17.drew.heap.size:=by have:=L1.lt;omega
    have ld1:∀{w':World} {M':Lay},Loc w0 w' p f M' vt b1 PpT [.pointer (some ⟨p,0,none⟩)]->ldW false 1 (.pointer (some ⟨b1,0,none⟩)) w' λx=>x=.pointer (some ⟨p,0,none⟩):=λL=>L.ld rfl rfl;have ld4:∀{w':World} {M':Lay},Loc w0 w' p f M' vt b4 TkT (fK (cur s2))->ldW false 1 (.pointer (some ⟨b4,2,none⟩)) w' λx=>x=i64 (cur s2).a:=λL=>L.ld rfl rfl;refine L1.ld rfl ?_;refine L1.ld rfl ?_;rw[bR,bZ,aV];refine L4.ld rfl ?_;have kd:∀{w':World} {KK:Q0},PR w0 w' p f M6 vt s9 top->(∀u s7,lO s9 1=.ok u s7->∀w'',PR w0 w'' p f M6 vt s7 top->Eff p f M6 M6 w' w''->KK (.agg (fK u).toArray) w'')->aC P0 46 [.pointer (some ⟨p,0,none⟩),.int .i64 1] w' KK:=λ{w' KK} h hKK=>
     xV h g9.ws hN g9.l hKK λc a' eu=>ht c a' (by rw[<-hpf,eu])
    have done:∀{u:Tok} {sa:PS},lO s9 1=.ok u sa->Gd N sa (d+1)/\s2.i<sa.i/\Syn.phi sa+1<=Syn.phi s2/\sa.toks.length=s.toks.length/\((qT sa ⟨30,u.t,[y],[],(cur s2).a⟩).bind λy s3=>rG E n s3 y)=R0:=λ{u sa} eu=>by
     have hk:=g9.kind (by decide) eu;have hks:=lN g9.ws 1 (by decide);have hkp:=nP s9 1;rw[eu]at hks hkp hpf;have hkt:=congrArg List.length hks.1.1.toks;have hkp:=hkp.1;exact⟨hk.1,by have:=hk.2.1;omega,by omega,by omega,hpf⟩
    refine⟨?_,?_,?_,?_,?_,?_⟩
    ·refine kd h17 λu sa eu wa ha hea=>?_;have L1:=L1.eff hea;have L4:=L4.eff hea;refine⟨ld4 L4,ld1 L1,str u.t,rfl,ld4 L4,ld1 L1,?_⟩;refine jS λr wb hr hzb hrb hxb=>?_;refine⟨ld4 (L4.ext hxb),ld1 (L1.ext hxb),?_⟩;simp only[dD,eJ,gO,cU,aB,aM,aY,bB,Nat.reduceAdd,Nat.reduceLT,dM,aA];obtain⟨d1,d2,d3,d4,d5⟩:=done eu;exact fin (e:=⟨30,u.t,[y],[],(cur s2).a⟩) (ha.ext hxb) d1 ((he17'.trans hea).x hxb) (L1.ext hxb) ((ha.row_new (l:=[y]) hr hzb hrb (by simp)).le (by have:=hea.chg.size;omega)) rfl d2 d3 d4 d5
    ·exact ld4 L4
    ·exact ld1 L1
    ·exact ld1 L1
    ·refine kd h17 λu sa eu wa ha hea=>?_;have L1:=L1.eff hea;have L4:=L4.eff hea;refine⟨ld4 L4,ld1 L1,str u.t,rfl,?_⟩;refine jS λr wb hr hzb hrb hxb=>?_;refine⟨ld4 (L4.ext hxb),ld1 (L1.ext hxb),?_⟩;simp only[dD,eJ,gO,cU,aB,aM,aY,bB,Nat.reduceAdd,Nat.reduceLT,dM,aA];obtain⟨d1,d2,d3,d4,d5⟩:=done eu;exact fin (e:=⟨30,u.t,[y],[],(cur s2).a⟩) (ha.ext hxb) d1 ((he17'.trans hea).x hxb) (L1.ext hxb) ((ha.row_new (l:=[y]) hr hzb hrb (by simp)).le (by have:=hea.chg.size;omega)) rfl d2 d3 d4 d5
    ·refine jS λr wb hr hzb hrb hxb=>?_;have L1:=L1.ext hxb;have L4:=L4.ext hxb;have rwb:=h17.row_new (l:=[y]) hr hzb hrb (by simp);refine⟨ld4 L4,ld1 L1,ld1 L1,?_⟩;refine kd (h17.ext hxb) λu sa eu wa ha hea=>?_;have L1:=L1.eff hea;have L4:=L4.eff hea;refine⟨ld4 L4,ld1 L1,str u.t,rfl,?_⟩;simp only[dD,eJ,gO,cU,aB,aM,aY,bB,Nat.reduceAdd,Nat.reduceLT,dM,aA];obtain⟨d1,d2,d3,d4,d5⟩:=done eu;exact fin (e:=⟨30,u.t,[y],[],(cur s2).a⟩) ha d1 ((he17'.x hxb).trans hea) L1 ((rwb.eff hea).le (by omega)) rfl d2 d3 d4 d5
  ·have hi:isS s2 [91]=false:=by simpa using hi
   rw[aE (by rw[hi];decide)]at hpf;exact hK y _ hpf.symm M2 w7 h7 he7
end
section
variable [HX]
variable{w0 w w' w1:World}{p f b:Nat}{M M' M0:Lay}{vt:Value}{s:PS}{top:List Nat}{N:Int}{K:Q0}{e:Ex}{va vk:Value}{wbn:Nat}{wb:World}{dl:Nat}
theorem KI{E S:PS->R Nat}(hS:yK w0 f)(hE:∀d,dl=d+1->EC w0 f 82 E d)(hG:∀d,dl=d+1->EC w0 f 151 S d)(hF:rD E)(hFS:rD S):EC w0 f 151 (zV E S) dl:=by
 intro w p M vt s top N K h hg hK ht;refine Xf ?_;unfold aD4;have hN:=hg.hN;refine sY rfl λb1 w1 hb1 hz1 hbb1 hx1=>?_;have h1:=h.ext hx1;have L1:=h.loc hz1 hb1 hbb1;refine L1.ld rfl ?_;refine nD h1 hg.ws hN hg.l λw2 h2 he2=>?_;have L1:=L1.eff he2;have he2:=(Eff.ext hx1).trans he2;have lt1:=L1.lt;have hgn:=hg.now;refine bF λb3 w3 hb3 hz3 hbb3 hx3=>?_;have h3:=h2.ext hx3;have L3:=h2.loc hz3 hb3 hbb3;have L1:=L1.ext hx3;refine cG (l:=fK (cur s)) L3.1 rfl rfl rfl λw4 hz4 hbb4 hc4=>?_;have L3:Loc w0 w4 p f M vt b3 TkT (fK (cur s)):=⟨hbb4,L3.2.up (by omega)⟩;have h4:=h3.one hc4 L3.2;have L1:=L1.one hc4 (by omega);have hw2:=he2.chg.size;have he4:=(he2.x hx3).one hc4 (by omega);refine bS.cut (λst w'=>∃(k:Int) (x:Str),st=[i64 k]/\isS s x=true/\zV E S s=((within (bC s) (cur s).a (bC s).quiet λq=>S (step1 q)).bind λx s2=>qT s2 ⟨k,[],[x],[],(cur s).a⟩)/\PR w0 w' p f M vt (bC s) top/\Eff p f M M w w'/\Loc w0 w' p f M vt b1 PpT [.pointer (some ⟨p,0,none⟩)]/\Loc w0 w' p f M vt b3 TkT (fK (cur s))) ?_ ?_
 ·unfold zV at hK ht⊢;simp only[iH]at hK ht⊢;refine L1.ld rfl ?_;refine AR h4 hgn λw5 h5 he5=>?_;rw[gP]at h5;have L1:=L1.eff he5;have L3:=L3.eff he5;have he5:=he4.trans he5;rw[iH,bT];refine⟨λhi=>⟨14,[33],rfl,hi,by rw[aJ hi],h5,he5,L1,L3⟩,λhi=>?_⟩;rw[aE (by rw[hi];decide)]at hK ht⊢;refine L1.ld rfl ?_;refine AR h5 hgn λw6 h6 he6=>?_;rw[gP]at h6;have L1:=L1.eff he6;have L3:=L3.eff he6;have he6:=he5.trans he6;rw[iH,bT];refine⟨λhi=>⟨13,[45],rfl,hi,by rw[aJ hi],h6,he6,L1,L3⟩,λhi=>?_⟩;rw[aE (by rw[hi];decide)]at hK ht;refine L1.ld rfl ?_;exact Zv hS hE hF w6 p M vt _ top N _ h6 hgn (λx s' ex M' w7 h7 he7=>hK x s' ex M' w7 h7 (he6.trans he7)) ht
 rintro st g w5 ⟨k,x,rfl,hi,es,h5,he5,L1,L3⟩;rw[es]at hK ht;simp only[aG];have hw5:=he5.chg.size;have lt1:=L1.lt;have lt3:=L3.lt;refine bF λb5 w6 hb5 hz6 hbb6 hx6=>?_;have h6:=h5.ext hx6;have L5:=h5.loc hz6 hb5 hbb6;have L1:=L1.ext hx6;have L3:=L3.ext hx6;refine L5.st rfl (by simp) λw7 L5 hc7 hz7=>?_;have h7:=(h6.one hc7 L5.2).drew;have L1:=(L1.one hc7 (by omega)).drew;have L3:=(L3.one hc7 (by omega)).drew;have L5:=L5.drew;have he7:=((he5.x hx6).one hc7 (by omega)).x (dB w7);refine L1.ld rfl ?_;rw[bR,bZ,aV];refine L3.ld rfl ?_;refine L1.ld rfl ?_;refine h7.ld rfl ?_;have hlev:=hgn.lev;refine oR h7 (by omega) (λhd=>ht 7 _ (by rw[tK hd];rfl)) λhd w8 h8 he8=>?_;obtain⟨d,rfl⟩:∃d,dl=d+1:=⟨dl-1,by omega⟩;rw[xG hd]at hK ht;obtain⟨q1,q2,q3,q4⟩:=hg.sign hi (bC s).quiet;have L1:=L1.eff he8;have L3:=L3.eff he8;have L5:=L5.eff he8;have he8:=he7.trans he8;refine jR (caps:=[.pointer (some ⟨b1,0,none⟩),.pointer (some ⟨b5,0,none⟩)]) ?_;refine WE ?_;unfold aDJ;refine L1.ld rfl ?_;refine h8.go (wsi q1.ws q1.l) λw9 h9 he9 hz9=>?_;have L1:=L1.eff he9;have L3:=L3.eff he9;have L5:=L5.eff he9;have he9:=he8.trans he9;refine L1.ld rfl ?_;refine hG d rfl w9 p M vt _ top N _ h9 q4 (λy s' ey M' w10 h10 he10=>?_) λc a' ey=>ht c a' (by rw[ey];rfl);obtain⟨g10,_⟩:=q4.e hFS ey;have pz:=hFS.z (step1 {bC s with deep:=(bC s).deep+1,quiet:=(bC s).quiet});rw[ey]at hK pz;have pz:Syn.phi s'<=Syn.phi (step1 (⟨(bC s).toks,(bC s).i,(bC s).off,(bC s).deep+1,(bC s).quiet,(bC s).ex,(bC s).bl⟩:PS)):=pz;have ps:=(oV q3).2;rw[q2]at ps;have pn:=jT s;have pe:Syn.phi (⟨(bC s).toks,(bC s).i,(bC s).off,(bC s).deep+1,(bC s).quiet,(bC s).ex,(bC s).bl⟩:PS)=Syn.phi (bC s):=rfl;simp only[R.bind]at hK;have L1:=L1.eff he10;have L3:=L3.eff he10;have L5:=L5.eff he10;have he10:=he9.trans he10;refine L5.st rfl (by simp) λw11 L5 hc11 hz11=>?_;have h11:=h10.one hc11 L5.2;have L1:=L1.one hc11 (by omega);have L3:=L3.one hc11 (by omega);have he11:=he10.one hc11 (by omega);have g10l:=g10.lev;refine⟨M',s',h11,by omega,λw12 h12 he12=>?_⟩;have L1:=L1.eff he12;have L3:=L3.eff he12;have L5:=L5.eff he12;have he12:=he11.trans he12;refine L1.ld rfl ?_;refine L5.ld rfl ?_;refine jS λr w13 hr hz13 hrb hx13=>?_;refine(L3.ext hx13).ldf rfl ?_;simp only[dD,eJ,gO,cU,aB,aM,aY,bB,Nat.reduceAdd,Nat.reduceLT,dM,aA];have hg12:=hgn.back (q:=(bC s).quiet) g10;refine IJ (e:=⟨k,[],[y],[],(cur s).a⟩) (h12.ext hx13) (he12.x hx13) (ER.noK rfl ((h12.row_new (l:=[y]) hr hz13 hrb (by simp)).le he12.chg.size)) hg12 λM2 w14 h14 he14 _=>?_;exact hK _ _ rfl M2 w14 h14 he14
theorem DN{E S:PS->R Nat}(hS:yK w0 f)(hE:∀d,dl=d+1->EC w0 f 82 E d)(hG:∀d,dl=d+1->EC w0 f 151 S d)(hF:rD E)(hFS:rD S):∀(m:Nat),m<=6->∀(w:World) (p:Nat) (M:Lay) (vt:Value) (s:PS) (top:List Nat) (N:Int) (K:Q0),PR w0 w p f M vt s top->Gd N s dl->
  (∀x s',uB E S m s=.ok x s'->∀M' w',PR w0 w' p f M' vt s' top->Eff p f M M' w w'->K (i64 (x:Nat)) w')->(∀c a,uB E S m s=.err c a->Thr w0 f c a)->aC P0 114 [.pointer (some ⟨p,0,none⟩),i64 ((6-m:Nat):Int)] w K
 |0,_,w,p,M,vt,s,top,N,K,h,hg,hK,ht=>by
  refine Nc ?_
  unfold aCm
  rw[bM,aO]
  refine⟨λ_=>?_,λe=>absurd rfl e⟩
  exact KI hS hE hG hF hFS w p M vt s top N _ h hg hK ht
 |m+1,hm,w,p,M,vt,s,top,N,K,h,hg,hK,ht=>by
  refine Nc ?_
  unfold aCm
  have hN:=hg.hN
  have hJ:rD (uB E S m):=⟨λN=>vP (hF.ok N) (hFS.ok N) m,vM hF.z hFS.z m⟩
  simp only[uB]at hK ht
  rw[bM,aO]
  refine⟨λe=>by omega,λ_=>?_⟩
  have up:∀{KK:Value->Prop},KK (i64 ((6-m:Nat):Int))->aP .add (i64 ((6-(m+1):Nat):Int)) (.int .i64 1) KK:=λh=>by
   rw[cC,cN (by omega) (by omega),show((6-(m+1):Nat):Int)+1=((6-m:Nat):Int)by omega];exact h
  refine up ?_
  refine DN hS hE hG hF hFS m (by omega) w p M vt s top N _ h hg (λx s1 ex M1 w2 h2 he2=>?_) λc a' ex=>ht c a' (by rw[ex];rfl)
  rw[ex]at hK ht
  simp only[R.bind]at hK ht
  obtain⟨hg1,hi1⟩:=hg.e hJ ex
  have etl:=(hJ.ok N) s hg.ws
  rw[ex]at etl
  have etl:=congrArg List.length etl.1.1.toks
  generalize hR:AQ (uB E S m) (5-m) (s.toks.length+1) s1 x=R0 at hK ht
  refine cZ.go (λst w'=>∃s1 M1 x n,st=[i64 ((x:Nat):Int)]/\PR w0 w' p f M1 vt s1 top/\Gd N s1 dl/\Eff p f M M1 w w'/\AQ (uB E S m) (5-m) n s1 x=R0/\s1.toks.length<n+s1.i/\s1.toks.length=s.toks.length) (λ_ w'=>s.toks.length-Ai w' p)
   ⟨s1,M1,x,s.toks.length+1,rfl,h2,hg1,he2,hR,by have:=hg1.ws.lt;omega,etl⟩ ?_
  clear he2 h2 ex hg1 hi1 etl hR
  rintro st g w2 ⟨s2,M2,y,n,rfl,h2,hg2,he2,hpf,hn,htl⟩
  simp only[aG]
  have hlt2:=hg2.ws.lt
  obtain⟨n,rfl⟩:∃m,n=m+1:=⟨n-1,by omega⟩
  simp only[AQ]at hpf
  refine nD h2 hg2.ws hN hg2.l λw3 h3 he3=>?_
  have he3:=he2.trans he3
  have hw3:=he3.chg.size
  have hgn:=hg2.now
  refine bF λb6 w4 hb6 hz4 hbb4 hx4=>?_
  have h4:=h3.ext hx4
  have L6:=h3.loc hz4 hb6 hbb4
  refine cG (l:=fK (cur s2)) L6.1 rfl rfl rfl λw5 hz5 hbb5 hc5=>?_
  have L6:Loc w0 w5 p f M2 vt b6 TkT (fK (cur s2)):=⟨hbb5,L6.2.up (by omega)⟩
  have h5:=h4.one hc5 L6.2
  have he5:=(he3.x hx4).one hc5 (by omega)
  refine bY L6.1 rfl ?_
  refine Vd (by omega) λw6 hx6=>?_
  have h6:=h5.ext hx6
  have L6:=L6.ext hx6
  have he6:=he5.x hx6
  have en:(6-(m+1):Nat)=5-m:=by omega
  rw[en,bM,aO]
  refine⟨λh0=>?_,λh0=>?_⟩
  ·rw[aJ h0]at hpf
   exact hK y _ hpf.symm M2 w6 h6 he6
  ·rw[aE h0]at hpf
   have hk0:(cur s2).k≠0:=λe=>h0 (by unfold wL;rw[e];rfl)
   have hgs:=hg2.step hk0
   have sg:=jJ hg2.ws hk0
   have sp:=(oV hk0).2
   refine h6.go (wsi hgn.ws hgn.l) λw7 h7 he7 hz7=>?_
   have L6:=L6.eff he7
   have he7:=he6.trans he7
   have up2:∀{KK:Value->Prop},KK (i64 ((6-m:Nat):Int))->aP .add (i64 ((5-m:Nat):Int)) (.int .i64 1) KK:=λh=>by
    rw[<-en];exact up h
   refine up2 ?_
   refine DN hS hE hG hF hFS m (by omega) w7 p M2 vt _ top N _ h7 hgs (λz s3 ez M3 w8 h8 he8=>?_) λc a' ez=>ht c a' (by rw[<-hpf,ez];rfl)
   obtain⟨g8,i8⟩:=hgs.e hJ ez
   have pz:=hJ.z (step1 (bC s2))
   have oz:=hJ.ok N _ hgs.ws
   rw[ez]at hpf pz oz
   have pz:Syn.phi s3<=Syn.phi (step1 (bC s2)):=pz
   have tz:=congrArg List.length oz.1.1.toks
   have tz2:=congrArg List.length sg.1.toks
   simp only[R.bind]at hpf
   have L6:=L6.eff he8
   have he8:=he7.trans he8
   have hw8:=he8.chg.size
   refine JZ λr w9 hr hz9 hrb hx9=>?_
   refine(L6.ext hx9).ldf rfl ?_
   simp only[dD,eJ,gO,cU,aB,aM,aY,bB,Nat.reduceAdd,Nat.reduceLT,dM,aA]
   refine IJ (e:=⟨wL (cur s2) (5-m),[],[y,z],[],(cur s2).a⟩) (h8.ext hx9) (he8.x hx9) (ER.noK rfl ((h8.row_new (l:=[y,z]) hr hz9 hrb (by simp)).le hw8)) g8 λM4 w10 h10 he10 _=>?_
   have hlt8:=g8.ws.lt
   have hph:=hg2.phi
   refine⟨⟨_,M4,_,n,rfl,h10,g8.put (by omega),he10,hpf,by show s3.toks.length<n+s3.i;omega,by show s3.toks.length=_;omega⟩,?_⟩
   rw[h10.at_,h2.at_]
   show s.toks.length-s3.i<_
   have:=sg.2
   omega
end
theorem OV(s:PS)(w:Str):bX (bC s) w=bX s w:=by unfold bX;rw[iH,gP]
section
variable [HX]
variable{w0 w w' w1:World}{p f b:Nat}{M M' M0:Lay}{vt:Value}{s:PS}{top:List Nat}{N:Int}{K:Q0}{e:Ex}{va vk:Value}{wbn:Nat}{wb:World}{dl:Nat}
theorem Rj{E S:PS->R Nat}(hS:yK w0 f)(hE:∀d,dl=d+1->EC w0 f 82 E d)(hG:∀d,dl=d+1->EC w0 f 151 S d)(hF:rD E)(hFS:rD S):EC w0 f 82 (Cr E S) dl:=by
 intro w p M vt s top N K h hg hK ht;refine aBx ?_;unfold W82;have hN:=hg.hN;have hJ:rD (uB E S 6):=⟨λN=>vP (hF.ok N) (hFS.ok N) 6,vM hF.z hFS.z 6⟩;refine sY rfl λb1 w1 hb1 hz1 hbb1 hx1=>?_;have h1:=h.ext hx1;have L1:=h.loc hz1 hb1 hbb1;refine L1.ld rfl ?_;unfold Cr at hK ht;refine DN hS hE hG hF hFS 6 (aS _) w1 p M vt s top N _ h1 hg (λa s1 ea M1 w2 h2 he2=>?_) λc a' ea=>ht c a' (by rw[ea];rfl);rw[ea]at hK ht;simp only[R.bind]at hK ht;obtain⟨hg1,hi1⟩:=hg.e hJ ea;have L1:=L1.eff he2;have he2:=(Eff.ext hx1).trans he2;refine L1.ld rfl ?_;refine nD h2 hg1.ws hN hg1.l λw3 h3 he3=>?_;have L1:=L1.eff he3;have he3:=he2.trans he3;have lt1:=L1.lt;have hw3:=he3.chg.size;have hgn:=hg1.now;refine bF λb4 w4 hb4 hz4 hbb4 hx4=>?_;have h4:=h3.ext hx4;have L4:=h3.loc hz4 hb4 hbb4;have L1:=L1.ext hx4;refine cG (l:=fK (cur s1)) L4.1 rfl rfl rfl λw5 hz5 hbb5 hc5=>?_;have L4:Loc w0 w5 p f M1 vt b4 TkT (fK (cur s1)):=⟨hbb5,L4.2.up (by omega)⟩;have h5:=h4.one hc5 L4.2;have L1:=L1.one hc5 (by omega);have he5:=(he3.x hx4).one hc5 (by omega);refine L1.ld rfl ?_;refine uJ h5 hgn.ws hN hgn.l λw6 h6 he6=>?_;rw[OV]at h6⊢;have L1:=L1.eff he6;have L4:=L4.eff he6;have he6:=he5.trans he6;rw[eM,bT];refine⟨λhn=>?_,λhy=>?_⟩
 ·have hn:(bX s1 [63]).1=false:=by simpa using hn
  rw[aE (by rw[hn];decide)]at hK;exact hK a _ rfl M1 w6 h6 he6
 have hy:(bX s1 [63]).1=true:=by simpa using hy
 rw[aJ hy]at hK ht;have hgt:=hg1.take [63];have tp:=(kR s1 [63]).2 hy;generalize hs2:(bX s1 [63]).2=s2 at*
 have lt1:=L1.lt;have lt4:=L4.lt;have hw6:=he6.chg.size;refine RB λr w7 hr hz7 hrb hx7=>?_;have h7:=h6.ext hx7;have Lr:=h6.loc hz7 hr hrb;have L1:=L1.ext hx7;have L4:=L4.ext hx7;refine bF λb5 w8 hb5 hz8 hbb8 hx8=>?_;have h8:=h7.ext hx8;have L5:=h7.loc hz8 hb5 hbb8;have L1:=L1.ext hx8;have L4:=L4.ext hx8;have Lr:=Lr.ext hx8;refine L5.st rfl (by simp) λw9 L5 hc9 hz9=>?_;have h9:=(h8.one hc9 L5.2).drew;have L1:=(L1.one hc9 (by omega)).drew;have L4:=(L4.one hc9 (by omega)).drew;have Lr:=(Lr.one hc9 (by omega)).drew;have L5:=L5.drew;have he9:=(((he6.x hx7).x hx8).one hc9 (by omega)).x (dB w9);refine L1.ld rfl ?_;rw[bR,bZ,aV];refine L4.ld rfl ?_;refine L1.ld rfl ?_;refine h9.ld rfl ?_;have hlev:=hgt.lev;refine oR h9 (by omega) (λhd=>ht 7 _ (by rw[tK hd])) λhd w10 h10 he10=>?_;obtain⟨d,rfl⟩:∃d,dl=d+1:=⟨dl-1,by omega⟩;rw[xG hd]at hK ht;have q1:=hgt.frame s2.quiet;have L1:=L1.eff he10;have L4:=L4.eff he10;have Lr:=Lr.eff he10;have L5:=L5.eff he10;have he10:=he9.trans he10;refine jR (caps:=[.pointer (some ⟨b1,0,none⟩),.pointer (some ⟨b5,0,none⟩)]) ?_;refine XF ?_;unfold aEs;have L1:=L1.drew;have L4:=L4.drew;have Lr:=Lr.drew;have L5:=L5.drew;have h10:=h10.drew;have he10:=he10.x (dB w10);refine L5.ld rfl ?_;refine L1.ld rfl ?_;refine hE d rfl w10.drew p M1 vt _ top N _ h10 q1 (λx s3 ex M3 w11 h11 he11=>?_) λc a' ex=>ht c a' (by rw[ex];rfl);obtain⟨g3,_⟩:=q1.e hF ex;have px:=hF.z {s2 with deep:=s2.deep+1,quiet:=s2.quiet};rw[ex]at hK ht px;have px:Syn.phi s3<=Syn.phi s2:=px;simp only[R.bind]at hK ht;have L1:=L1.eff he11;have L4:=L4.eff he11;have Lr:=Lr.eff he11;have L5:=L5.eff he11;have he11:=he10.trans he11;refine⟨L5.ld rfl rfl,?_⟩;rw[pY];refine⟨by omega,by omega,?_⟩;rw[bZ,aV];refine Lr.st (off:=1) rfl (by simp) λw12 Lr hc12 hz12=>?_;have h12:=h11.one hc12 Lr.2;have L1:=L1.one hc12 (by omega);have L4:=L4.one hc12 (by omega);have L5:=L5.one hc12 (by omega);have he12:=he11.one hc12 (by omega);refine L1.ld rfl ?_;refine xH h12 g3.ws hN g3.l (λs4 e4 w13 h13 he13=>?_) λc a' e4=>ht c a' (by rw[e4]);have pw:=kQ s3 [58];rw[e4]at hK ht pw;have pw:Syn.phi s4+1<=Syn.phi s3:=pw;simp only at hK ht;obtain⟨g4,_⟩:=g3.want e4;have L1:=(L1.eff he13).drew;have L4:=(L4.eff he13).drew;have Lr:=(Lr.eff he13).drew;have L5:=(L5.eff he13).drew;have h13:=h13.drew;have he13:=(he12.trans he13).x (dB w13);refine L5.ld rfl ?_;refine L1.ld rfl ?_;refine hE d rfl w13.drew p M3 vt _ top N _ h13 g4 (λy s5 ey M5 w14 h14 he14=>?_) λc a' ey=>ht c a' (by rw[ey]);obtain⟨g5,_⟩:=g4.e hF ey;have py:=hF.z s4;rw[ey]at hK py;have py:Syn.phi s5<=Syn.phi s4:=py;simp only at hK;have L1:=L1.eff he14;have L4:=L4.eff he14;have Lr:=Lr.eff he14;have L5:=L5.eff he14;have he14:=he13.trans he14;refine⟨L5.ld rfl rfl,?_⟩;rw[pY];refine⟨by omega,by omega,?_⟩;rw[bZ,aV];refine Lr.st (off:=2) rfl (by simp) λw15 Lr hc15 hz15=>?_;have h15:=h14.one hc15 Lr.2;have L1:=L1.one hc15 (by omega);have L4:=L4.one hc15 (by omega);have L5:=L5.one hc15 (by omega);have he15:=he14.one hc15 (by omega);have g5l:=g5.lev;refine⟨M5,s5,h15,by omega,λw16 h16 he16=>?_⟩;have L1:=L1.eff he16;have L4:=L4.eff he16;have Lr:=Lr.eff he16;have L5:=L5.eff he16;have he16:=he15.trans he16;refine L1.ld rfl ?_;refine L5.ld rfl ?_;refine L4.ldf rfl ?_;simp only[dD,eJ,gO,cU,aB,aM,aY,bB,Nat.reduceAdd,Nat.reduceLT,dM,aA];have g16:=hgt.back (q:=s2.quiet) g5;have hR:Ro w0 w16 p f M5 vt w.heap.size iT 1 (.slice (some ⟨r,0,none⟩) 3 3) 3 (ints [a,x,y]):=
  ⟨PU (cs:=ints [a,x,y]) Lr.1 Lr.2.1.1 rfl (by omega),λk hk=>by simp only[Value.ownBlock,bE]at hk;subst hk;exact Lr.2,λk hk=>by simp only[Value.ownBlock,bE]at hk;omega⟩
 refine IJ (e:=⟨28,[],[a,x,y],[],(cur s1).a⟩) h16 he16 (ER.noK rfl hR) g16 λM6 w17 h17 he17 _=>?_;exact hK _ _ rfl M6 w17 h17 he17
theorem vU:rD dead:=⟨zJ,yC⟩
theorem Ei(d:Nat):rD (sV d).1/\rD (sV d).2:=⟨⟨λN=>(sU N d).1,(wN d).1⟩,⟨λN=>(sU N d).2,(wN d).2⟩⟩
theorem MI(hS:yK w0 f):∀dl,EC w0 f 82 (sV dl).1 dl/\EC w0 f 151 (sV dl).2 dl
 |0=>⟨Rj hS (λd e=>by omega) (λd e=>by omega) vU vU,KI hS (λd e=>by omega) (λd e=>by omega) vU vU⟩
 |d+1=>by
  have ih:=MI hS d
  have hf:=Ei d
  have hE:∀d',d+1=d'+1->EC w0 f 82 (sV d).1 d':=λd' e=>by
   have e:d'=d:=by omega
   subst e;exact ih.1
  have hG:∀d',d+1=d'+1->EC w0 f 151 (sV d).2 d':=λd' e=>by
   have e:d'=d:=by omega
   subst e;exact ih.2
  exact⟨Rj hS hE hG hf.1 hf.2,KI hS hE hG hf.1 hf.2⟩
end
end
end Go.Proofs.YtghhmpppnmoeoaaGreatDoor
namespace Go.Syn
section
open Go Go.Eng Go.Lex
variable{w:World}{K:Q0}{cs:List Value}{G:Nat->Prop}{T:TypeId}{i:Nat}{n:Nat}{v:Value}{w':World}{P:Program}{c:UInt8}{S:Nat->Prop}
abbrev blL(bl:List Blk):List (List Nat):=bl.map (·.blocks)
abbrev JH(bl:List Blk):List Nat:=bl.flatMap λb=>b.attrs.map (·.e)
def GA(us:List Atr):Prop:=∀a∈us,a.n≠[]
structure FI(s:PS)(pe pb:List Nat):Prop where
 ex:cS (exL s.ex) (JH s.bl++pe)
 bl:cS (blL s.bl) pb
 nm:∀b∈s.bl,GA b.attrs
theorem FI.perm{s:PS}{pe pe' pb pb':List Nat}(h:FI s pe pb)(h1:pe.Perm pe')(h2:pb.Perm pb'):FI s pe' pb':=⟨h.ex.perm (h1.append_left _),h.bl.perm h2,h.nm⟩
theorem FI.same{s s':PS}{pe pb:List Nat}(h:FI s pe pb)(h1:s'.ex=s.ex)(h2:s'.bl=s.bl):FI s' pe pb:=⟨by rw[h1,h2];exact h.ex,by rw[h2];exact h.bl,by rw[h2];exact h.nm⟩
theorem FI.expr{s s':PS}{x:Nat}{pe pb:List Nat}(h:FI s pe pb)(h2:s'.bl=s.bl)(hf:∀roots,cS (exL s.ex) roots->cS (exL s'.ex) (x::roots)):FI s' (x::pe) pb:=
 ⟨by rw[h2];exact(hf _ h.ex).perm (pK).symm,by rw[h2];exact h.bl,by rw[h2];exact h.nm⟩
def BOk(N:Int)(B:PS->R Nat):Prop:=∀s,WS N s->Sat (B s) (λx s'=>Later N s s'/\∀pe pb,FI s pe pb->FI s' pe (x::pb)) (InN N)
section
variable{N:Int}{E B:PS->R Nat}
theorem DL:∀(n:Nat) (s:PS) (ls:List Str),WS N s->Sat (rO n s ls) (λ_ s'=>Go1 N s s'/\s'.ex=s.ex/\s'.bl=s.bl) (InN N)
 |0,s,_,h=>⟨oF _,h.pN⟩
 |n+1,s,ls,h=>by
  have hc:=jU h
  have n1:=rM h
  simp only[rO]
  split
  ·refine(Fv (n1.1.ws h) (t:=cur s) ⟨hc.1,hc.2.1⟩).bind λl s1 e1=>?_
   subst e1
   exact(DL n _ (ls++[l]) (n1.1.ws h)).mono λ_ s2 ⟨g,e,b⟩=>⟨n1.1.trans g,e.trans n1.2.2.1,b.trans n1.2.2.2⟩
  ·exact⟨gE h,(iA s).1,(iA s).2⟩
theorem QK(hE:EOk N E)(hB:BOk N B){s:PS}(h:WS N s)(us:List Atr)(bs:List Nat)(hn:GA us):
  Sat (Ck E B s us bs) (λx s'=>Later N s s'/\GA x.1/\∀pe pb,FI s (us.map (·.e)++pe) (bs++pb)->FI s' (x.1.map (·.e)++pe) (x.2++pb)) (InN N):=by
 unfold Ck;refine(lN h 1 (by decide)).bind λt s1 ⟨g1,x1,b1,ht,hk⟩=>?_;have hw1:=g1.1.ws h;have t1:=jI hw1 [61];have hw2:=t1.1.ws hw1;have hc:=jU h;split
 ·refine(hE _ hw2).bind λx s2 ⟨g2,b2,f2⟩=>?_;refine⟨⟨g1.1.trans (t1.1.trans g2.1),by have:=g1.2;have:=t1.1.le;have:=g2.2;omega⟩,λa ha=>?_,λpe pb hf=>?_⟩
  ·rcases dC.1 ha with ha|ha
   ·exact hn a ha
   ·rw[bP]at ha;subst ha;rw[ht];exact hc.2.2.2.2 (by rw[<-ht];exact hk)
  ·have:=(hf.same (s':=(bX s1 [61]).2) (t1.2.2.1.trans x1) (t1.2.2.2.trans b1)).expr b2 f2;refine this.perm ?_ (List.Perm.refl _);simp only[fR,dG,oD,eV];exact(pK).symm
 ·have hle:=g1.2;have hle2:=t1.1.le;have hg:Go1 N s {(bX s1 [61]).2 with i:=(bX s1 [61]).2.i-1}:=by
   have g:=g1.1.trans t1.1;refine⟨g.toks,g.off,g.deep,g.quiet,?_,?_,g.exs⟩
   ·show s.i<=(bX s1 [61]).2.i-1;omega
   ·show(bX s1 [61]).2.i-1<(bX s1 [61]).2.toks.length;have:=g.lt;omega
  refine(hB _ (hg.ws h)).bind λx s2 ⟨g2,f2⟩=>?_;refine⟨⟨hg.trans g2.1,by have:=hg.le;have:=g2.2;omega⟩,hn,λpe pb hf=>?_⟩;have:=f2 _ _ (hf.same (s':={(bX s1 [61]).2 with i:=(bX s1 [61]).2.i-1}) (t1.2.2.1.trans x1) (t1.2.2.2.trans b1));refine this.perm (List.Perm.refl _) ?_;simp only[eV];exact(pK).symm
theorem FM(hE:EOk N E)(hB:BOk N B):∀(n:Nat) (s:PS) (us:List Atr) (bs:List Nat),WS N s->GA us->
  Sat (qX E B n s us bs) (λx s'=>Later N s s'/\GA x.1/\∀pe pb,FI s (us.map (·.e)++pe) (bs++pb)->FI s' (x.1.map (·.e)++pe) (x.2++pb)) (InN N)
 |0,s,_,_,h,_=>⟨oF _,h.pN⟩
 |n+1,s,us,bs,h,hn=>by
  have t1:=jI h [125]
  have hw1:=t1.1.ws h
  simp only[qX]
  split
  ·rename_i ht
   exact⟨⟨t1.1,t1.2.1 ht⟩,hn,λpe pb hf=>hf.same t1.2.2.1 t1.2.2.2⟩
  refine(QK hE hB hw1 us bs hn).bind λx s1 ⟨g1,n1,f1⟩=>?_
  have hw2:=g1.1.ws hw1
  have m1:=gE hw2
  have hw3:=m1.ws hw2
  split
  ·have:=jU hw3
   exact⟨this.1,this.2.1⟩
  have l1:=mL hw3
  refine(FM hE hB n _ x.1 x.2 (l1.1.ws hw3) n1).mono λy s2 ⟨g2,n2,f2⟩=>⟨⟨t1.1.trans (g1.1.trans (m1.trans (l1.1.trans g2.1))),by have:=t1.1.le;have:=g1.2;have:=m1.le;have:=l1.1.le;have:=g2.2;omega⟩,n2,λpe pb hf=>f2 pe pb ?_⟩
  exact(f1 pe pb (hf.same t1.2.2.1 t1.2.2.2)).same (l1.2.1.trans (iA _).1) (l1.2.2.trans (iA _).2)
theorem Gt(hE:EOk N E)(hB:BOk N B):BOk N (yI E B):=by
 intro s h;unfold yI;refine(lN h 1 (by decide)).bind λt s1 ⟨g1,x1,b1,ht,hk⟩=>?_;have hw1:=g1.1.ws h;refine(DL _ s1 [] hw1).bind λls s2 ⟨g2,x2,b2⟩=>?_;have hw2:=g2.ws hw1;have n2:=gE hw2;have hw3:=n2.ws hw2;have hc:=jU hw2;split
 ·exact⟨hc.1,hc.2.1⟩
 rename_i hi;have hi:isS s2 [123]=true:=by simpa using hi
 have e3:(bC s2).ex=s.ex:=(iA _).1.trans (x2.trans x1);have b3:(bC s2).bl=s.bl:=(iA _).2.trans (b2.trans b1);refine Sat.bind (lA hw3 (a:=(cur s2).a) (q:=false) ⟨hc.1,hc.2.1⟩ (P:=λ(x:List Atr×List Nat) s'=>Go1 N {bC s2 with deep:=(bC s2).deep+1,quiet:=false} s'/\GA x.1/\∀pe pb,FI s pe pb->FI s' (x.1.map (·.e)++pe) (x.2++pb)) λhw=>?_) λx s3 ⟨q,⟨g4,m4,f4⟩,e4⟩=>?_
 ·have hh:=oJ hw2 hi ((bC s2).deep+1) false;have h4:=jJ hw hh.2.1;rw[hh.1]at h4;have hw4:=h4.1.ws hw;have l4:=mL hw4;refine(FM hE hB _ _ [] [] (l4.1.ws hw4) (λa ha=>by cases ha)).mono λx s' ⟨g,m,f⟩=>⟨h4.1.trans (l4.1.trans g.1),m,λpe pb hf=>f pe pb ?_⟩;exact hf.same (l4.2.1.trans e3) (l4.2.2.trans b3)
 ·subst e4;have g4':=g4.back;have g:=g1.1.trans (g2.trans (n2.trans g4'));refine⟨⟨⟨g.toks,g.off,g.deep,g.quiet,g.le,g.lt,g.exs⟩,by have:=g1.2;have:=g2.le;have:=n2.le;have:=g4'.le;show s.i<q.i;simp only at this;omega⟩,λpe pb hf=>?_⟩;have hq:=f4 pe pb hf;refine⟨?_,?_,?_⟩
  ·show cS (exL q.ex) (JH (q.bl++[⟨t.t,ls,x.1,x.2,t.a⟩])++pe);have e:JH (q.bl++[⟨t.t,ls,x.1,x.2,t.a⟩])++pe=JH q.bl++(x.1.map (·.e)++pe):=by simp[JH]
   rw[e];exact hq.ex
  ·show cS (blL (q.bl++[⟨t.t,ls,x.1,x.2,t.a⟩])) (q.bl.length::pb);have:=hq.bl.put;rw[dL]at this;simpa[blL]using this
  ·intro b hb;have hb:b∈q.bl++[⟨t.t,ls,x.1,x.2,t.a⟩]:=hb;rcases dC.1 hb with hb|hb
   ·exact hq.nm b hb
   ·rw[bP]at hb;subst hb;exact m4
end
theorem JS(N:Int):BOk N dead:=λ_ h=>⟨oF _,h.pN⟩
theorem Gu(N:Int):∀d,BOk N (BV d)
 |0=>Gt (zJ N) (JS N)
 |d+1=>Gt (sU N d).1 (Gu N d)
end
end Go.Syn
namespace Go.Proofs.YtghhmpppnmoeoaaGreatDoor
section
open Go Go.Eng Go.RowKit Go.Syn Go.Lex
variable{w:World}{K:Q0}{cs:List Value}{G:Nat->Prop}{T:TypeId}{i:Nat}{n:Nat}{v:Value}{w':World}{P:Program}{c:UInt8}{S:Nat->Prop}
section
variable{w0 w w1 w2:World}{p f:Nat}{M:Lay}{vt:Value}{s:PS}{top:List Nat}
theorem PR.putB(h:PR w0 w p f M vt s top){wb:World}{M0:Lay}(he:Eff p f M0 M wb w){e:Blk}{d:List Value}{v':Value}(hd:BkR w w0.heap.size e d)(hu:∀k∈ub d,Off w0 w p f M vt k)(hn:(ub d).Nodup)(hnew:∀k∈ub d,wb.heap.size<=k)
  (hO:Own w1 w0.heap.size BkT 5 v' (s.bl.length+1) (M.cB++d))(hc1:Chg (λk=>M.vB.ownBlock=some k) w w1)(hv:∀k,v'.ownBlock=some k->M.vB.ownBlock=some k\/w.heap.size<=k)
  (hc2:Chg (One f) w1 w2)(hf:w2.heap[f]?=some (.cells [M.vE,v',M.vT].toArray FlT (0,0))):PR w0 w2 p f {M with vB:=v',cB:=M.cB++d} vt {s with bl:=s.bl++[e]} top/\Eff p f M0 {M with vB:=v',cB:=M.cB++d} wb w2:=by
 have hb:=h.base;have hzb:=he.chg.size;have pB:=Kx M f;have use:∀k,M.vB.ownBlock=some k->k∈M.uses f:=λk hk=>aU _ (kP (v:=M.vB) (by simp) hk);have hnd0:=pB.nodup_iff.1 h.fr.nd;have hnd:=hnd0;rw[jF,eU]at hnd;obtain⟨nf,_,nb,nab⟩:=hnd;have inU:∀k∈ub ([M.vE,M.vT]++(M.cE++M.cB)),k∈M.uses f:=λk hk=>pB.mem_iff.2 (aU _ (cW _ hk));have rest:∀k∈ub ([M.vE,M.vT]++(M.cE++M.cB)),M.vB.ownBlock≠some k/\k≠f/\k<w.heap.size:=λk hk=>
  ⟨λe=>nab k (gR.2 e) k hk rfl,λe=>nf (e▸cW _ hk),h.fr.lt k (inU k hk)⟩
 have c12:Chg (λk=>M.vB.ownBlock=some k\/k=f) w w2:=(hc1.mono λk _ e=>.inl e).trans (hc2.mono λk _ e=>.inr e);have sub:∀v∈[M.vE,M.vT]++(M.cE++M.cB),∀k,v.ownBlock=some k->¬(M.vB.ownBlock=some k\/k=f):=λv hv k hk e=>by
  have:=rest k (kP hv hk);exact e.elim this.1 this.2.1
 have hOf:∀k,v'.ownBlock=some k->k≠f:=λk hk e=>by
  subst e;rcases hv k hk with e|e
  ·exact nf (eP _ (gR.2 e))
  ·have:=fJ h.fr.hf;omega
 have nE:M.vB.ownBlock≠some p:=λe=>h.np (use p e);have pf:p≠f:=λe=>h.np (e▸bD);have perm:=Sm M f v' d;have hN:(f::(ub [v']++(ub d++ub ([M.vE,M.vT]++(M.cE++M.cB))))).Nodup:=Hh (n:=w.heap.size) (a:=ub [M.vB]) hnd0 (λk hk=>h.fr.lt k (pB.mem_iff.2 hk)) (lS _) (λk hk=>(hv k (gR.1 hk)).imp (λe=>gR.2 e) id) hn λk hk=>⟨(hu k hk).1.2,λe=>(hu k hk).2.2.1 (pB.mem_iff.2 e)⟩;have hz:=c12.size;have mem:∀k∈({M with vB:=v',cB:=M.cB++d}:Lay).uses f,k=f\/v'.ownBlock=some k\/k∈ub d\/k∈ub ([M.vE,M.vT]++(M.cE++M.cB)):=λk hk=>by
  have hk:=perm.mem_iff.1 hk;rcases bQ.1 hk with e|e
  ·exact .inl e
  rcases dC.1 e with e|e
  ·exact .inr (.inl (gR.1 e))
  rcases dC.1 e with e|e
  ·exact .inr (.inr (.inl e))
  ·exact .inr (.inr (.inr e))
 have cT:Chg (Tn p f M) w w2:=c12.mono λk _ e=>e.elim (λe=>.inr (.inr (.inr e))) λe=>.inr (.inl e);refine⟨⟨?_,⟨hf,?_,?_,?_,?_,?_,perm.nodup_iff.2 hN,λk hk=>?_,λk hk=>?_⟩,?_,?_,λe=>?_,h.lo,λk hk=>?_⟩,⟨(he.trans (Eff.of cT)).chg,λk hk=>?_,he.hE,λk hk=>(hv k hk).elim (he.hB k) λe=>.inr (by omega),he.hT⟩⟩
 ·refine h.ch.then c12 λk hk e=>?_;rcases e with e|e
  ·exact(h.fr.lo k (use k e)).resolve_right (by omega)
  ·exact e
 ·exact jE h.fr.oE c12 (sub _ (by simp))
 ·rw[aX];exact jE hO hc2 λk hk e=>hOf k hk e
 ·exact jE h.fr.oT c12 (sub _ (by simp))
 ·refine h.fr.ee.imp λx d hd hx=>hx.at_ c12 λk hk=>?_;obtain⟨v,hv,hk⟩:=gN.1 hk;exact sub v (by simp[hd v hv]) k hk
 ·refine oP.snoc ?_ (hd.at_ c12 λk hk e=>?_) (by obtain⟨vl,va,vk,rfl,_⟩:=hd;rfl)
  ·refine h.fr.bb.imp λx d hd hx=>hx.at_ c12 λk hk=>?_;obtain⟨v,hv,hk⟩:=gN.1 hk;exact sub v (by simp[hd v hv]) k hk
  ·have ho:=(hu k hk).2.2.1;rcases e with e|e
   ·exact ho (use k e)
   ·exact ho (e▸bD)
 ·rcases mem k hk with e|e|e|e
  ·rw[e];exact fJ hf
  ·exact cO (qU hO e).1 hc2.size
  ·exact cO (hu k e).1.2 hz
  ·exact cO (rest k e).2.2 hz
 ·rcases mem k hk with e|e|e|e
  ·exact .inl e
  ·exact .inr (qU hO e).2
  ·exact .inr (hu k e).1.1
  ·exact h.fr.lo k (inU k e)
 ·exact c12.at h.ps λe=>e.elim nE pf
 ·exact yQ h.tk c12 λk hk e=>by
   have:=(h.nt k hk).1;rcases e with e|e
   ·exact this (use k e)
   ·exact this (e▸bD)
 ·rcases mem p e with e|e|e|e
  ·exact pf e
  ·exact(hv p e).elim nE λe=>by have:=h.lt;omega
  ·exact(hu p e).2.1 rfl
  ·exact h.np (inU p e)
 ·have ht:=h.nt k hk;refine⟨λe=>?_,ht.2.1,cO ht.2.2 hz⟩;rcases mem k e with e|e|e|e
  ·exact ht.1 (e▸bD)
  ·exact(hv k e).elim (λe=>ht.1 (use k e)) λe=>by omega
  ·exact(hu k e).2.2.2 hk
  ·exact ht.1 (inU k e)
 ·rcases mem k hk with e|e|e|e
  ·exact he.us k (e▸bD)
  ·exact(hv k e).elim (λe=>he.us k (use k e)) λe=>.inr (by omega)
  ·exact .inr (hnew k e)
  ·exact he.us k (inU k e)
end
structure GC(F:PS->R Nat):Prop where
 ok:∀N,BOk N F
 z:EZ F
theorem Gd.bk{x:Nat}{s s':PS}{N:Int}{dl:Nat}{F:PS->R Nat}(h:Gd N s dl)(hF:GC F)(e:F s=.ok x s'):Gd N s' dl/\s.i<s'.i/\s'.toks=s.toks:=by
 have h1:=hF.ok N s h.ws;have h2:=hF.z s;rw[e]at h1 h2;exact⟨h.go h1.1.1 h2,h1.1.2,h1.1.1.toks⟩
section
variable [HX]
variable{w0 w w' w1:World}{p f b:Nat}{M M' M0:Lay}{vt:Value}{s:PS}{top:List Nat}{N:Int}{K:Q0}{e:Ex}{wbn:Nat}{wb:World}{dl:Nat}
structure BL(w0 w:World)(p f:Nat)(M:Lay)(vt:Value)(B1 b4:Nat)(typ:Str)(a:Int)(vl va vb:Value)(ls:List Str)(av:List Atr)(bs:List Nat):Prop where
 l4:Loc w0 w p f M vt b4 BkT [str typ,vl,va,vb,i64 a]
 rL:Ro w0 w p f M vt B1 StT 1 vl ls.length (strs ls)
 rA:Ro w0 w p f M vt B1 AtT 3 va av.length (OB av)
 rB:Ro w0 w p f M vt B1 iT 1 vb bs.length (ints bs)
 d1:∀k,vl.ownBlock=some k->va.ownBlock≠some k
 d2:∀k,vl.ownBlock=some k->vb.ownBlock≠some k
 d3:∀k,va.ownBlock=some k->vb.ownBlock≠some k
 lt:b4<B1/\B1<=w.heap.size
section
variable{B1 b4:Nat}{typ:Str}{a:Int}{vl va vb:Value}{ls:List Str}{av:List Atr}{bs:List Nat}
theorem BL.eff(h:BL w0 w p f M vt B1 b4 typ a vl va vb ls av bs)(he:Eff p f M M' w w'):BL w0 w' p f M' vt B1 b4 typ a vl va vb ls av bs:=
 ⟨h.l4.eff he,h.rL.eff he,h.rA.eff he,h.rB.eff he,h.d1,h.d2,h.d3,h.lt.1,cI h.lt.2 he.chg.size⟩
theorem BL.ext(h:BL w0 w p f M vt B1 b4 typ a vl va vb ls av bs)(hx:Ext w w'):BL w0 w' p f M vt B1 b4 typ a vl va vb ls av bs:=h.eff (Eff.ext hx)
theorem BL.one(h:BL w0 w p f M vt B1 b4 typ a vl va vb ls av bs)(hc:Chg (One b) w w')(hb:b≠b4)(hL:vl.ownBlock≠some b)(hA:va.ownBlock≠some b)(hB:vb.ownBlock≠some b):BL w0 w' p f M vt B1 b4 typ a vl va vb ls av bs:=
 ⟨h.l4.one hc (uP hb),h.rL.one hc hL,h.rA.one hc hA,h.rB.one hc hB,h.d1,h.d2,h.d3,h.lt.1,cI h.lt.2 hc.size⟩
theorem BL.fresh(h:BL w0 w p f M vt B1 b4 typ a vl va vb ls av bs){k:Nat}(hk:w.heap.size<=k):k≠b4/\vl.ownBlock≠some k/\va.ownBlock≠some k/\vb.ownBlock≠some k:=
 ⟨λe=>by have:=h.l4.lt;omega,λe=>by have:=(h.rL.off k e).1.2;omega,λe=>by have:=(h.rA.off k e).1.2;omega,λe=>by have:=(h.rB.off k e).1.2;omega⟩
theorem BL.no4(h:BL w0 w p f M vt B1 b4 typ a vl va vb ls av bs):vl.ownBlock≠some b4/\va.ownBlock≠some b4/\vb.ownBlock≠some b4:=
 ⟨λe=>by have:=h.rL.new _ e;have:=h.lt.1;omega,λe=>by have:=h.rA.new _ e;have:=h.lt.1;omega,λe=>by have:=h.rB.new _ e;have:=h.lt.1;omega⟩
theorem BL.appL{x:Str}{r:Nat}{ty:TypeId}{KW:World->Prop}(h:BL w0 w p f M vt B1 b4 typ a vl va vb ls av bs)(hp:PR w0 w p f M vt s top)(hr:w.heap[r]?=some (.cells [str x].toArray StT (0,0)))(hn:ls.length<=1000000)
  (hK:∀vl' w',BL w0 w' p f M vt B1 b4 typ a vl' va vb (ls++[x]) av bs->PR w0 w' p f M vt s top->Chg (λk=>vl.ownBlock=some k\/k=b4) w w'->(∀b T cs,Loc w0 w p f M vt b T cs->b≠b4->vl.ownBlock≠some b->Loc w0 w' p f M vt b T cs)->(∀k,vl'.ownBlock=some k->vl.ownBlock=some k\/w.heap.size<=k)->KW w'):
  dF P0 (Builtin.append_ #[24,24] ty #[vl,.slice (some ⟨r,0,none⟩) 1 1]) w λt62 w36=>aZ 1 (.pointer (some ⟨b4,0,none⟩)) λt63=>stW 1 t63 t62 w36 KW:=by
 refine Ro.app Rm h.rL hp hr rfl (λu hu=>by simp only[bP]at hu;subst hu;rfl) hn (by decide) h.lt.2 λv' w2 hR2 hc hv hp2=>?_;have e1:(ls++[x]).length=ls.length+1:=by simp
 rw[<-e1,show strs ls++[str x]=strs (ls++[x])from by simp[strs]]at hR2;rw[bR,bZ,aV];obtain⟨vp,vc,ev,_⟩:=hR2.own.sl.shape;obtain⟨n1,n2,n3⟩:=h.no4;have n1':v'.ownBlock≠some b4:=λe=>by have:=hR2.new b4 e;have:=h.lt.1;omega
 refine(h.l4.row hc n1).st (by rw[ev];rfl) (by simp) λw3 L3 hc3 hz3=>?_;have z:=hc.size;refine hK v' w3 ⟨L3,hR2.one hc3 n1',(h.rA.row hc λk hk e=>h.d1 k e hk).one hc3 n2,(h.rB.row hc λk hk e=>h.d2 k e hk).one hc3 n3,λk hk=>?_,λk hk=>?_,h.d3,h.lt.1,by have:=h.lt.2;omega⟩ (hp2.one hc3 L3.2) ((hc.mono λk _ e=>.inl e).trans (hc3.mono λk _ e=>.inr e)) (λb T cs hL hb hvb=>(hL.row hc hvb).one hc3 hb) hv
 ·exact(hv k hk).elim (h.d1 k) λe e'=>by have:=(h.rA.off k e').1.2;omega
 ·exact(hv k hk).elim (h.d2 k) λe e'=>by have:=(h.rB.off k e').1.2;omega
theorem BL.appA{x:Atr}{r:Nat}{ty:TypeId}{KW:World->Prop}(h:BL w0 w p f M vt B1 b4 typ a vl va vb ls av bs)(hp:PR w0 w p f M vt s top)(hr:w.heap[r]?=some (.cells [str x.n,i64 (x.e:Nat),i64 x.a].toArray AtT (0,0)))(hn:av.length<=1000000)
  (hK:∀va' w',BL w0 w' p f M vt B1 b4 typ a vl va' vb ls (av++[x]) bs->PR w0 w' p f M vt s top->Chg (λk=>va.ownBlock=some k\/k=b4) w w'->(∀b T cs,Loc w0 w p f M vt b T cs->b≠b4->va.ownBlock≠some b->Loc w0 w' p f M vt b T cs)->(∀k,va'.ownBlock=some k->va.ownBlock=some k\/w.heap.size<=k)->KW w'):
  dF P0 (Builtin.append_ #[84,84] ty #[va,.slice (some ⟨r,0,none⟩) 1 1]) w λt62 w36=>dU (.pointer (some ⟨b4,0,none⟩)) λt63=>aZ 2 t63 λt63=>stW 1 t63 t62 w36 KW:=by
 refine Ro.app aC7 h.rA hp hr rfl (λu hu=>by simp only[bQ,fD,qV]at hu;rcases hu with rfl|rfl|rfl<;>rfl) hn (by decide) h.lt.2 λv' w2 hR2 hc hv hp2=>?_;have e1:(av++[x]).length=av.length+1:=by simp
 rw[<-e1,show OB av++[str x.n,i64 (x.e:Nat),i64 x.a]=OB (av++[x])from by simp[OB]]at hR2;rw[dW,bR,bZ,aV];obtain⟨vp,vc,ev,_⟩:=hR2.own.sl.shape;obtain⟨n1,n2,n3⟩:=h.no4;have n2':v'.ownBlock≠some b4:=λe=>by have:=hR2.new b4 e;have:=h.lt.1;omega
 refine(h.l4.row hc n2).st (by rw[ev];rfl) (by simp) λw3 L3 hc3 hz3=>?_;have z:=hc.size;refine hK v' w3 ⟨L3,(h.rL.row hc λk hk e=>h.d1 k hk e).one hc3 n1,hR2.one hc3 n2',(h.rB.row hc λk hk e=>h.d3 k e hk).one hc3 n3,λk hk e=>?_,h.d2,λk hk=>?_,h.lt.1,by have:=h.lt.2;omega⟩ (hp2.one hc3 L3.2) ((hc.mono λk _ e=>.inl e).trans (hc3.mono λk _ e=>.inr e)) (λb T cs hL hb hvb=>(hL.row hc hvb).one hc3 hb) hv
 ·exact(hv k e).elim (λe=>h.d1 k hk e) λe=>by have:=(h.rL.off k hk).1.2;omega
 ·exact(hv k hk).elim (h.d3 k) λe e'=>by have:=(h.rB.off k e').1.2;omega
theorem BL.appB{x:Nat}{r:Nat}{ty:TypeId}{KW:World->Prop}(h:BL w0 w p f M vt B1 b4 typ a vl va vb ls av bs)(hp:PR w0 w p f M vt s top)(hr:w.heap[r]?=some (.cells [i64 (x:Nat)].toArray iT (0,0)))(hn:bs.length<=1000000)
  (hK:∀vb' w',BL w0 w' p f M vt B1 b4 typ a vl va vb' ls av (bs++[x])->PR w0 w' p f M vt s top->Chg (λk=>vb.ownBlock=some k\/k=b4) w w'->(∀b T cs,Loc w0 w p f M vt b T cs->b≠b4->vb.ownBlock≠some b->Loc w0 w' p f M vt b T cs)->(∀k,vb'.ownBlock=some k->vb.ownBlock=some k\/w.heap.size<=k)->KW w'):
  dF P0 (Builtin.append_ #[30,30] ty #[vb,.slice (some ⟨r,0,none⟩) 1 1]) w λt62 w36=>dU (.pointer (some ⟨b4,0,none⟩)) λt63=>aZ 3 t63 λt63=>stW 1 t63 t62 w36 KW:=by
 refine Ro.app BJ h.rB hp hr rfl (λu hu=>by simp only[bP]at hu;subst hu;rfl) hn (by decide) h.lt.2 λv' w2 hR2 hc hv hp2=>?_;have e1:(bs++[x]).length=bs.length+1:=by simp
 rw[<-e1,show ints bs++[i64 (x:Nat)]=ints (bs++[x])from by simp[ints]]at hR2;rw[dW,bR,bZ,aV];obtain⟨vp,vc,ev,_⟩:=hR2.own.sl.shape;obtain⟨n1,n2,n3⟩:=h.no4;have n3':v'.ownBlock≠some b4:=λe=>by have:=hR2.new b4 e;have:=h.lt.1;omega
 refine(h.l4.row hc n3).st (by rw[ev];rfl) (by simp) λw3 L3 hc3 hz3=>?_;have z:=hc.size;refine hK v' w3 ⟨L3,(h.rL.row hc λk hk e=>h.d2 k hk e).one hc3 n1,(h.rA.row hc λk hk e=>h.d3 k hk e).one hc3 n2,hR2.one hc3 n3',h.d1,λk hk e=>?_,λk hk e=>?_,h.lt.1,by have:=h.lt.2;omega⟩ (hp2.one hc3 L3.2) ((hc.mono λk _ e=>.inl e).trans (hc3.mono λk _ e=>.inr e)) (λb T cs hL hb hvb=>(hL.row hc hvb).one hc3 hb) hv
 ·exact(hv k e).elim (λe=>h.d2 k hk e) λe=>by have:=(h.rL.off k hk).1.2;omega
 ·exact(hv k e).elim (λe=>h.d3 k hk e) λe=>by have:=(h.rA.off k hk).1.2;omega
theorem Gd.etoks{x:Nat}{s':PS}{F:PS->R Nat}(h:Gd N s dl)(hF:rD F)(e:F s=.ok x s'):s'.toks=s.toks:=by
 have h1:=hF.ok N s h.ws;rw[e]at h1;exact h1.1.1.toks
theorem Gd.name_back{t:Tok}{s1:PS}(hg:Gd N s dl)(e:lO s 1=.ok t s1)(hn:(bX s1 [61]).1=false):
  Gd N {(bX s1 [61]).2 with i:=(bX s1 [61]).2.i-1} dl/\s.i<=(bX s1 [61]).2.i-1/\1<=(bX s1 [61]).2.i/\(bX s1 [61]).2.toks=s.toks:=by
 have hk:=hg.kind (by decide) e;have hks:=lN hg.ws 1 (by decide);rw[e]at hks;have e1:s1=step1 (bC s):=by
  unfold lO at e;split at e
  ·rename_i hk;injection e with _ e
   rw[<-e];unfold iW;rw[aJ (by rw[hk];decide)]
  ·cases e
 have t1:=jI hk.1.ws [61];have e2:(bX s1 [61]).2=bC s1:=by
  unfold bX at hn⊢;split
  ·rename_i hi;rw[aJ hi]at hn;cases hn
  ·rfl
 have hi1:=hk.2.1;have hi2:=t1.1.le;have hgo:Go1 N s {(bX s1 [61]).2 with i:=(bX s1 [61]).2.i-1}:=by
  have g:=hks.1.1.trans t1.1;refine⟨g.toks,g.off,g.deep,g.quiet,?_,?_,g.exs⟩
  ·show s.i<=(bX s1 [61]).2.i-1;omega
  ·show(bX s1 [61]).2.i-1<(bX s1 [61]).2.toks.length;have:=g.lt;omega
 refine⟨hg.go hgo ?_,by omega,by omega,(t1.1.toks).trans hks.1.1.toks⟩;have hi:s.i<=(bC s1).i-1:=by rw[<-e2];omega
 have x1:(bC s1).ex=s.ex:=(iA s1).1.trans (by rw[e1];exact(iA s).1);have x2:(bC s1).bl=s.bl:=(iA s1).2.trans (by rw[e1];exact(iA s).2);have x3:(bC s1).toks=s.toks:=by
  have h1:∀s:PS,(bC s).toks=s.toks:=λs=>by unfold bC;split<;>rfl
  rw[h1,e1];exact h1 s
 rw[e2];unfold Syn.phi;simp only;rw[x1,x2,x3];have:=Ks s.toks hi;omega
theorem aAT{E B:PS->R Nat}(hE:EC w0 f 82 E dl)(hB:EC w0 f 30 B dl)(hF:rD E)(hFB:GC B)(h:PR w0 w p f M vt s top)(hg:Gd N s dl)(hL:BL w0 w p f M vt B1 b4 typ a vl va vb ls av bs)(hal:av.length<=1000000)(hbl:bs.length<=1000000)
  {M0:Lay}{wb:World}(he0:Eff p f M0 M wb w)(hw4:wb.heap.size<=b4)(hwB:wb.heap.size<=B1)
  (hK:∀x s',Ck E B s av bs=.ok x s'->∀M' va' vb' w',PR w0 w' p f M' vt s' top->Gd N s' dl->s.i<s'.i->s'.toks=s.toks->x.1.length<=av.length+1->x.2.length<=bs.length+1->Eff p f M0 M' wb w'->BL w0 w' p f M' vt B1 b4 typ a vl va' vb' ls x.1 x.2->
    (∀b T cs,Loc w0 w p f M vt b T cs->b≠b4->va.ownBlock≠some b->vb.ownBlock≠some b->Loc w0 w' p f M' vt b T cs)->(∀k,va'.ownBlock=some k->va.ownBlock=some k\/w.heap.size<=k)->(∀k,vb'.ownBlock=some k->vb.ownBlock=some k\/w.heap.size<=k)->K (.tuple #[]) w')
  (ht:∀c a',Ck E B s av bs=.err c a'->Thr w0 f c a'):
  aC P0 53 [.pointer (some ⟨p,0,none⟩),.pointer (some ⟨b4,0,none⟩)] w K:=by
 refine aBS ?_;unfold W53;have hN:=hg.hN;unfold Ck at hK ht;refine xV h hg.ws hN hg.l (λt s1 et w1 h1 he1=>?_) λc a' et=>ht c a' (by rw[et];rfl);rw[et]at hK ht;simp only[R.bind]at hK ht;have hk:=hg.kind (by decide) et;have hks:=lN hg.ws 1 (by decide);rw[et]at hks;have hL1:=hL.eff he1;refine bF λb5 w2 hb5 hz2 hbb2 hx2=>?_;have h2:=h1.ext hx2;have L5:=h1.loc hz2 hb5 hbb2;have fr5:=hL1.fresh (k:=b5) (by omega);refine cG (l:=fK t) L5.1 rfl rfl rfl λw3 hz3 hbb3 hc3=>?_;have L5:Loc w0 w3 p f M vt b5 TkT (fK t):=⟨hbb3,L5.2.up (by omega)⟩;have h3:=h2.one hc3 L5.2;have hL3:=(hL1.ext hx2).one hc3 fr5.1 fr5.2.1 fr5.2.2.1 fr5.2.2.2;have hz1:=he1.chg.size;have he3:Eff p f M M w w3:=(he1.x hx2).one hc3 (by omega);refine uJ h3 hk.1.ws hN hk.1.l λw4 h4 he4=>?_;have L5:=L5.eff he4;have hL4:=hL3.eff he4;have he4:=he3.trans he4;have hgt:=hk.1.take [61];have tg:=jI hk.1.ws [61];have zz:=he0.chg.size;rw[bT];refine⟨λhy=>?_,λhn=>?_⟩
 ·
  rw[aJ hy]at hK ht;have L5:=L5.drew;have hL4:=hL4.ext (dB w4);have h4:=h4.drew;have he4:=he4.x (dB w4);rw[dW,bR,bZ,aV];refine hL4.l4.ld rfl ?_;rw[bR,bZ,aV];refine L5.ld rfl ?_;rw[bR,bZ,aV];refine L5.ld rfl ?_;refine hE w4.drew p M vt _ top N _ h4 hgt (λx s2 ex M2 w5 h5 he5=>?_) λc a' ex=>ht c a' (by rw[ex]);rw[ex]at hK;simp only at hK;obtain⟨g2,i2⟩:=hgt.e hF ex;have t2:=hgt.etoks hF ex;have L5:=L5.eff he5;have hL5:=hL4.eff he5;have he5:=he4.trans he5;refine⟨L5.ld rfl rfl,L5.ld rfl rfl,hL5.l4.ld rfl rfl,?_⟩;simp only[dD,eJ,cU,aB,aM,aY,bB,Nat.reduceAdd,Nat.reduceLT,dM,aA];refine Ba (d:=[str t.t,i64 ((x:Nat):Int),i64 t.a]) rfl rfl λr w6 hr hz6 hrb hx6=>?_;have hL6:=hL5.ext hx6;have he6:=he5.x hx6;have hw6:=he6.chg.size;refine⟨hL6.l4.ld rfl rfl,?_⟩;refine hL6.appA (x:=⟨t.t,x,t.a⟩) (h5.ext hx6) hrb hal λva' w7 hL7 h7 hc7 hl7 hv7=>?_;refine hK _ _ rfl M2 va' vb w7 h7 g2 (by have:=tg.1.le;have:=hk.2.1;omega) (t2.trans (tg.1.toks.trans hks.1.1.toks)) (by simp) (by simp) (((he0.trans he6).then hc7 λk hk' e=>?_)) hL7 (λb T cs hl hb hva hvb=>hl7 b T cs (hl.eff he6) hb hva) (λk hk=>(hv7 k hk).imp id λe=>by omega) λk hk=>.inl hk;rcases e with e|e
  ·have:=hL.rA.new k e;omega
  ·omega
 ·
  have hn:(bX s1 [61]).1=false:=by simpa using hn
  rw[aE (by rw[hn];decide)]at hK ht;obtain⟨gb,ib,i1,tb⟩:=hg.name_back et hn;refine h4.ld rfl ?_;have hti:=hgt.ws.lt;have htl:=hgt.few;rw[mB,cN (by omega) (by omega),show(((bX s1 [61]).2.i:Nat):Int)-1=(((bX s1 [61]).2.i-1:Nat):Int)by omega];refine h4.st_i λw5 h5 he5 hz5=>?_;have hL5:=(hL4.eff he5).ext (dB w5);have h5:=h5.drew;have he5:=(he4.trans he5).x (dB w5);rw[dW,bR,bZ,aV];refine hL5.l4.ld rfl ?_;refine hB w5.drew p M vt _ top N _ h5 gb (λx s2 ex M2 w6 h6 he6=>?_) λc a' ex=>ht c a' (by rw[ex]);rw[ex]at hK;simp only at hK;obtain⟨g2,i2,t2⟩:=gb.bk hFB ex;have hL6:=hL5.eff he6;have he6:=he5.trans he6;refine⟨hL6.l4.ld rfl rfl,?_⟩;refine jS λr w7 hr hz7 hrb hx7=>?_;have hL7:=hL6.ext hx7;have he7:=he6.x hx7;have hw7:=he7.chg.size;refine⟨hL7.l4.ld rfl rfl,?_⟩;refine hL7.appB (h6.ext hx7) hrb hbl λvb' w8 hL8 h8 hc8 hl8 hv8=>?_;refine hK _ _ rfl M2 va vb' w8 h8 g2 (by have i2:(bX s1 [61]).2.i-1<s2.i:=i2;omega) (t2.trans tb) (by simp) (by simp) ((he0.trans he7).then hc8 λk hk' e=>?_) hL8 (λb T cs hl hb hva hvb=>hl8 b T cs (hl.eff he7) hb hvb) (λk hk=>.inl hk) λk hk=>(hv8 k hk).imp id λe=>by omega
  rcases e with e|e
  ·have:=hL.rB.new k e;omega
  ·omega
end
end
section
variable [HX]
variable{w0 w w' w1:World}{p f:Nat}{M M' M0:Lay}{vt:Value}{s:PS}{top:List Nat}{N:Int}{K:Q0}{e:Ex}{wbn:Nat}{wb:World}{dl:Nat}{B1 b4:Nat}{typ:Str}{a:Int}{vl va vb:Value}{ls:List Str}{av:List Atr}{bs:List Nat}
theorem NN(s:PS):iW (bC s)=iW s:=by unfold iW;rw[kO,gP]
theorem Gd.plain{N:Int}{s s':PS}{t:Tok}{l:Str}(e:pS s t=.ok l s'):s'=s:=by
 unfold pS at e;split at e
 ·cases e
 ·injection e with _ e;exact e.symm
theorem Vi{E B:PS->R Nat}{b1:Nat}(hE:EC w0 f 82 E dl)(hB:EC w0 f 30 B dl)(hF:rD E)(hFB:GC B)(h:PR w0 w p f M vt s top)(hg:Gd N s dl)(hc0:(cur s).k≠0)(hnow:bC s=s)
  (hL:BL w0 w p f M vt B1 b4 typ a vl (.slice none 0 0) (.slice none 0 0) ls [] [])(L1:Loc w0 w p f M vt b1 PpT [.pointer (some ⟨p,0,none⟩)])(hb1:b1<B1/\b1≠b4)
  {M0:Lay}{wb:World}(he0:Eff p f M0 M wb w)(hw4:wb.heap.size<=b4)(hwB:wb.heap.size<=B1)
  (hK:∀x s',qX E B (s.toks.length+1) (gI (step1 s)) [] []=.ok x s'->∀M' va' vb' w',PR w0 w' p f M' vt s' top->Gd N s' dl->Eff p f M0 M' wb w'->BL w0 w' p f M' vt B1 b4 typ a vl va' vb' ls x.1 x.2->Loc w0 w' p f M' vt b1 PpT [.pointer (some ⟨p,0,none⟩)]->K (.tuple #[]) w')
  (ht:∀c a',qX E B (s.toks.length+1) (gI (step1 s)) [] []=.err c a'->Thr w0 f c a'):
  aC P0 51 [.pointer (some ⟨b1,0,none⟩),.pointer (some ⟨b4,0,none⟩)] w K:=by
 refine aBU ?_;unfold W51;have hN:=hg.hN;have hg1:Gd N (step1 s) dl:=by have:=hg.step hc0;rw[hnow]at this;exact this
 have zz:=he0.chg.size;refine L1.ld rfl ?_;refine h.go (wsi hg.ws hg.l) λw1 h1 he1 hz1=>?_;have L1:=L1.eff he1;have hL:=hL.eff he1;have he1:=he0.trans he1;refine L1.ld rfl ?_;refine zA h1 hg1.ws hN hg1.l λw2 h2 he2=>?_;have L1:=L1.eff he2;have hL:=hL.eff he2;have he2:=he1.trans he2;have hg2:=hg1.lines;have et2:=congrArg List.length (mL hg1.ws).1.toks;generalize hR:qX E B (s.toks.length+1) (gI (step1 s)) [] []=R0 at hK ht;refine cZ.go (λst w'=>st=[]/\∃s1 M1 av bs va vb n,PR w0 w' p f M1 vt s1 top/\Gd N s1 dl/\Eff p f M0 M1 wb w'/\Loc w0 w' p f M1 vt b1 PpT [.pointer (some ⟨p,0,none⟩)]/\BL w0 w' p f M1 vt B1 b4 typ a vl va vb ls av bs/\qX E B n s1 av bs=R0/\s1.toks.length<n+s1.i/\av.length<=s1.i/\bs.length<=s1.i/\s1.toks.length=s.toks.length) (λ_ w'=>s.toks.length-Ai w' p)
  ⟨rfl,_,M,[],[],_,_,s.toks.length+1,h2,hg2,he2,L1,hL,hR,by rw[et2];show s.toks.length<_;omega,by simp,by simp,by rw[et2];rfl⟩ ?_
 clear hL L1 h1 h2 he1 he2;rintro st g w3 ⟨rfl,s1,M1,av,bs,va,vb,n,h3,hg3,he3,L1,hL,hit,hn,hal,hbl,htl⟩;have hlt3:=hg3.ws.lt;obtain⟨n,rfl⟩:∃m,n=m+1:=⟨n-1,by omega⟩;simp only[qX]at hit;refine L1.ld rfl ?_;refine uJ h3 hg3.ws hN hg3.l λw4 h4 he4=>?_;have L1:=L1.eff he4;have hL:=hL.eff he4;have he4:=he3.trans he4;have hg4:=hg3.take [125];have tg:=jI hg3.ws [125];have tgt:=congrArg List.length tg.1.toks;rw[eM,bT];refine⟨λhn'=>?_,λhy=>?_⟩
 ·have hn':(bX s1 [125]).1=false:=by simpa using hn'
  rw[aE (by rw[hn'];decide)]at hit;have few:=hg3.few;refine L1.ld rfl ?_;refine aAT hE hB hF hFB h4 hg4 hL (by omega) (by omega) he4 hw4 hwB (λx s2 ex M2 va2 vb2 w5 h5 hg5 hi5 ht5 hxa hxb he5 hL5 hl5 hv5 hu5=>?_) λc a' ex=>ht c a' (by rw[<-hit,ex];rfl);rw[ex]at hit;simp only[R.bind]at hit;have ht5:=congrArg List.length ht5;have L1:=hl5 _ _ _ L1 hb1.2 (λe=>by have:=hL.rA.new _ e;have:=hb1.1;omega) (λe=>by have:=hL.rB.new _ e;have:=hb1.1;omega);have hgn:=hg5.now;have hng:=gE hg5.ws;have hngt:=congrArg List.length hng.toks;have hngi:=hng.le;refine bS.cut (λ_ w'=>PR w0 w' p f M2 vt (bC s2) top/\Eff p f M2 M2 w5 w'/\qX E B n (gI (bC s2)) x.1 x.2=R0) ?_ ?_
  ·refine L1.ld rfl ?_;refine nD h5 hg5.ws hN hg5.l λw6 h6 he6=>?_;refine⟨i64 (cur s2).k,rfl,?_⟩;dsimp only;rw[fT];have L1:=L1.eff he6;by_cases hk5:(cur s2).k≠5
   ·rw[bI hk5];simp only[iD];refine GdW.act (!isS (bC s2) [125]) (λw'=>PR w0 w' p f M2 vt (bC s2) top/\Eff p f M2 M2 w5 w') (λe=>by cases e) (λ_ J hJ=>?_) λg5 w7 hR7=>?_
    ·refine L1.ld rfl ?_;refine AR h6 hgn λw7 h7 he7=>?_;rw[eM];rw[gP]at h7;exact hJ w7 ⟨h7,he6.trans he7⟩
    obtain⟨h7,he7⟩:=hR7;simp only[aG,aN,mJ];rw[bT];refine⟨λhq=>?_,λhq=>?_⟩
    ·have hq:isS (bC s2) [125]=false:=by simpa using hq
     have L1:Loc w0 w7 p f M2 vt b1 PpT [.pointer (some ⟨p,0,none⟩)]:=(hl5 _ _ _ ‹Loc w0 w4 p f M1 vt b1 PpT [.pointer (some ⟨p,0,none⟩)]› hb1.2 (λe=>by have:=hL.rA.new _ e;have:=hb1.1;omega) (λe=>by have:=hL.rB.new _ e;have:=hb1.1;omega)).eff he7;refine L1.ld rfl ?_;refine nD h7 hgn.ws hN hgn.l λw8 h8 he8=>?_;refine⟨i64 (cur (bC s2)).a,rfl,?_⟩;refine qB h8 (ht 50 _ ?_);rw[<-hit,aJ ⟨hk5,hq⟩]
    ·have hq:isS (bC s2) [125]=true:=by simpa using hq
     rw[aE (λh=>by rw[h.2]at hq;cases hq)]at hit;exact⟨h7,he7,hit⟩
   ·rw[cP hk5];simp only[iD,Ad];intro g5;rw[sL,cX];rw[aE (λh=>hk5 h.1)]at hit;exact⟨h6,he6,hit⟩
  rintro _ g4 w6 ⟨h6,he6,hit⟩;have L1:=L1.eff he6;refine L1.ld rfl ?_;refine zA h6 hgn.ws hN hgn.l λw7 h7 he7=>?_;have lg:=mL hgn.ws;have lgt:=congrArg List.length lg.1.toks;have lgi:=lg.1.le;have tgi:=tg.1.le;have hgl:=hgn.lines;have hltl:=hgl.ws.lt;refine⟨⟨rfl,gI (bC s2),M2,x.1,x.2,va2,vb2,n,h7,hgl,(he5.trans he6).trans he7,L1.eff he7,(hL5.eff he6).eff he7,hit,by omega,by omega,by omega,by omega⟩,?_⟩;rw[h7.at_,h3.at_];omega
 ·have hy:(bX s1 [125]).1=true:=by simpa using hy
  rw[aJ hy]at hit;exact hK _ _ hit.symm M1 va vb w4 h4 hg4 he4 hL L1
theorem MV{E B:PS->R Nat}(hE:∀d,dl=d+1->EC w0 f 82 E d)(hB:∀d,dl=d+1->EC w0 f 30 B d)(hF:rD E)(hFB:GC B):EC w0 f 30 (yI E B) dl:=by
 intro w p M vt s top N K h hg hK ht;refine aB7 ?_;unfold W30;have hN:=hg.hN;refine sY rfl λb1 w1 hb1 hz1 hbb1 hx1=>?_;have h1:=h.ext hx1;have L1:=h.loc hz1 hb1 hbb1;unfold yI at hK ht;refine L1.ld rfl ?_;refine xV h1 hg.ws hN hg.l (λt s1 et w2 h2 he2=>?_) λc a' et=>ht c a' (by rw[et];rfl);rw[et]at hK ht;simp only[R.bind]at hK ht;obtain⟨hg1,hi1,_⟩:=hg.kind (by decide) et;have hks:=lN hg.ws 1 (by decide);have hkp:=nP s 1;rw[et]at hks hkp;have hkp:=hkp.2 (by decide);have hkt:=congrArg List.length hks.1.1.toks;have L1:=L1.eff he2;have he2:=(Eff.ext hx1).trans he2;have lt1:=L1.lt;have hw2:=he2.chg.size;refine bF λb3 w3 hb3 hz3 hbb3 hx3=>?_;have h3:=h2.ext hx3;have L3:=h2.loc hz3 hb3 hbb3;have L1:=L1.ext hx3;refine cG (l:=fK t) L3.1 rfl rfl rfl λw4 hz4 hbb4 hc4=>?_;have L3:Loc w0 w4 p f M vt b3 TkT (fK t):=⟨hbb4,L3.2.up (by omega)⟩;have h4:=h3.one hc4 L3.2;have L1:=L1.one hc4 (by omega);have he4:=(he2.x hx3).one hc4 (by omega);refine L3.ldf rfl ?_;refine L3.ldf rfl ?_;simp only[dD,eJ,cU,aB,aM,aY,bB,Nat.reduceAdd,Nat.reduceLT,dM,aA];refine bF λb4 w5 hb4 hz5 hbb5 hx5=>?_;have h5:=h4.ext hx5;have L4:=h4.loc hz5 hb4 hbb5;have L1:=L1.ext hx5;refine cG (l:=[str t.t,.slice none 0 0,.slice none 0 0,.slice none 0 0,i64 t.a]) L4.1 rfl rfl rfl λw6 hz6 hbb6 hc6=>?_;have L4:Loc w0 w6 p f M vt b4 BkT [str t.t,.slice none 0 0,.slice none 0 0,.slice none 0 0,i64 t.a]:=⟨hbb6,L4.2.up (by omega)⟩;have h6:=h5.one hc6 L4.2;have L1:=L1.one hc6 (by omega);have he6:=(he4.x hx5).one hc6 (by omega);have hw6:=he6.chg.size;obtain⟨B1,hB1⟩:∃B1,B1=w6.heap.size:=⟨_,rfl⟩;have hL:BL w0 w6 p f M vt B1 b4 t.t t.a (.slice none 0 0) (.slice none 0 0) (.slice none 0 0) [] [] []:=
  ⟨L4,Ro.nil _ _,Ro.nil _ _,Ro.nil _ _,λk hk=>by simp[Value.ownBlock]at hk,λk hk=>by simp[Value.ownBlock]at hk,λk hk=>by simp[Value.ownBlock]at hk,by omega,by omega⟩
 have hb14:b1<B1/\b1≠b4:=⟨by omega,by omega⟩;have hwB:w.heap.size<=B1:=by omega
 have hw4:w.heap.size<=b4:=by omega
 clear L3 L4 h2 h3 h4 h5 he2 he4;generalize hR:rO (s.toks.length+1) s1 []=R0 at hK ht;refine cZ.go (λst w'=>st=[]/\∃s2 M1 ls vl n,PR w0 w' p f M1 vt s2 top/\Gd N s2 dl/\Eff p f M M1 w w'/\Loc w0 w' p f M1 vt b1 PpT [.pointer (some ⟨p,0,none⟩)]/\BL w0 w' p f M1 vt B1 b4 t.t t.a vl (.slice none 0 0) (.slice none 0 0) ls [] []/\rO n s2 ls=R0/\s2.toks.length<n+s2.i/\ls.length<=s2.i/\s2.toks.length=s.toks.length/\Syn.phi s2+1<=Syn.phi s) (λ_ w'=>s.toks.length-Ai w' p)
  ⟨rfl,s1,M,[],_,s.toks.length+1,h6,hg1,he6,L1,hL,hR,by have:=hg1.ws.lt;omega,by simp,hkt,hkp⟩ ?_
 clear hL L1 h6 he6;rintro st g w7 ⟨rfl,s2,M1,ls,vl,n,h7,hg7,he7,L1,hL,hla,hn,hll,htl,hph⟩;have hlt7:=hg7.ws.lt;obtain⟨n,rfl⟩:∃m,n=m+1:=⟨n-1,by omega⟩;simp only[rO]at hla;refine L1.ld rfl ?_;refine nD h7 hg7.ws hN hg7.l λw8 h8 he8=>?_;have L1:=L1.eff he8;have hL:=hL.eff he8;have he8:=he7.trans he8;have hgn:=hg7.now;refine⟨i64 (cur s2).k,rfl,?_⟩;dsimp only;rw[bM,aO];refine⟨λhk3=>?_,λhk3=>?_⟩
 ·rw[aJ hk3]at hla;have htx:=hg7.tx hk3;have L1:=L1.drew;have hL:=hL.ext (dB w8);have h8:=h8.drew;have he8:=he8.x (dB w8);rw[bR,bZ,aV];refine hL.l4.ld rfl ?_;refine L1.ld rfl ?_;refine L1.ld rfl ?_;refine Le h8 hgn.ws hN hgn.l λw9 h9 he9=>?_;rw[NN]at h9;rw[kO];have L1:=L1.eff he9;have hL:=hL.eff he9;have he9:=he8.trans he9;refine⟨L1.ld rfl rfl,hL.l4.ld rfl rfl,?_⟩;have hgx:=hg7.next;refine Mk h9 htx.1 (by omega) (λl s3 el w10 hx10=>?_) λc a' el=>ht c a' (by rw[<-hla,el];rfl);have e3:=Gd.plain (N:=N) el;subst e3;rw[el]at hla;simp only[R.bind]at hla;have L1:=L1.ext hx10;have hL:=hL.ext hx10;have h10:=h9.ext hx10;have he10:=he9.x hx10;refine⟨hL.l4.ld rfl rfl,?_⟩;refine wS λr w11 hr hz11 hrb hx11=>?_;have L1:=L1.ext hx11;have hL:=hL.ext hx11;have he11:=he10.x hx11;have hw11:=he11.chg.size;refine⟨hL.l4.ld rfl rfl,?_⟩;have few:=hg7.few;refine hL.appL (h10.ext hx11) hrb (by omega) λvl' w12 hL12 h12 hc12 hl12 hv12=>?_;have L1:=hl12 _ _ _ L1 hb14.2 λe=>by have:=hL.rL.new _ e;have:=hb14.1;omega
  have ng:=rM hg7.ws;have ngt:=congrArg List.length ng.1.toks;have ngi:=ng.2.1 (by rw[hk3];decide);have ngl:=hgx.ws.lt;have nph:=(vK s2).1;refine⟨⟨rfl,iW s2,M1,ls++[l],vl',n,h12,hgx,he11.then hc12 λk hk e=>?_,L1,hL12,hla,by omega,by rw[aX,aB,aM];omega,by omega,by omega⟩,?_⟩
  ·rcases e with e|e
   ·have:=hL.rL.new k e;omega
   ·omega
  ·rw[h12.at_,h7.at_];omega
 ·rw[aE hk3]at hla;rw[<-hla]at hK ht;simp only at hK ht;simp only[iH,kO,gP]at hK ht;refine L1.ld rfl ?_;refine nD h8 hgn.ws hN hgn.l λw9 h9 he9=>?_;rw[gP]at h9;rw[kO];have L1:=L1.eff he9;have hL:=hL.eff he9;have he9:=he8.trans he9;refine bF λb5 w10 hb5 hz10 hbb10 hx10=>?_;have h10:=h9.ext hx10;have L5:=h9.loc hz10 hb5 hbb10;have fr:=hL.fresh (k:=b5) (by omega);have lt1:=L1.lt;have hw9:=he9.chg.size;refine cG (l:=fK (cur s2)) L5.1 rfl rfl rfl λw11 hz11 hbb11 hc11=>?_;have L5:Loc w0 w11 p f M1 vt b5 TkT (fK (cur s2)):=⟨hbb11,L5.2.up (by omega)⟩;have h11:=h10.one hc11 L5.2;have L1:=(L1.ext hx10).one hc11 (by omega);have hL:=(hL.ext hx10).one hc11 fr.1 fr.2.1 fr.2.2.1 fr.2.2.2;have he11:=(he9.x hx10).one hc11 (by omega);refine bS.cut (λ_ w'=>PR w0 w' p f M1 vt (bC s2) top/\Eff p f M1 M1 w11 w'/\isS s2 [123]=true) ?_ ?_
  ·refine L1.ld rfl ?_;refine AR h11 hgn λw12 h12 he12=>?_;rw[gP]at h12;rw[iH,eM,bT];refine⟨λhi=>?_,λhi=>⟨h12,he12,by simpa using hi⟩⟩;have hi:isS s2 [123]=false:=by simpa using hi
   refine(L5.eff he12).ldf rfl ?_;exact qB h12 (ht _ _ (by rw[aJ hi]))
  rintro _ g2 w12 ⟨h12,he12,hi⟩;rw[aE (by rw[hi];decide)]at hK ht;have L1:=L1.eff he12;have L5:=L5.eff he12;have hL:=hL.eff he12;have he12:=he11.trans he12;refine L1.ld rfl ?_;refine L5.ldf rfl ?_;have hlev:=hgn.lev;refine oR h12 (by omega) (λhd=>ht 7 _ (by rw[tK hd])) λhd w13 h13 he13=>?_;obtain⟨d,rfl⟩:∃d,dl=d+1:=⟨dl-1,by omega⟩;rw[xG hd]at hK ht;obtain⟨q1,q2,q3,q4⟩:=hg7.sign hi false;have ntl:=congrArg List.length (gE hg7.ws).toks;refine jR (caps:=[.pointer (some ⟨b1,0,none⟩),.pointer (some ⟨b4,0,none⟩)]) ?_;have ph2:Syn.phi (bC s2)<=Syn.phi s2:=jT s2;have efuel:({bC s2 with deep:=(bC s2).deep+1,quiet:=false}:PS).toks.length+1=s.toks.length+1:=by show(bC s2).toks.length+1=_;omega
  have efuel2:(bC s2).toks.length+1=s.toks.length+1:=by omega
  refine Vi (hE d rfl) (hB d rfl) hF hFB h13 q1 q3 q2 (hL.eff he13) (L1.eff he13) hb14 (he12.trans he13) hw4 hwB (λx s3 ex M3 va vb w14 h14 hg14 he14 hL14 L1=>?_) λc a' ex=>ht c a' ?_
  ·rw[efuel]at ex;rw[ex]at hK;simp only[R.bind]at hK;have g14l:=hg14.lev;refine⟨M3,s3,h14,by omega,λw15 h15 he15=>?_⟩;have L1:=(L1.eff he15).drew;have hL:=(hL14.eff he15).ext (dB w15);have h15:=h15.drew;have he15:=(he14.trans he15).x (dB w15);have hg15:Gd N {s3 with deep:=(bC s2).deep,quiet:=(bC s2).quiet} (d+1):=hgn.back hg14;generalize hs4:({s3 with deep:=(bC s2).deep,quiet:=(bC s2).quiet}:PS)=s4 at*
   have s4b:s4.bl=s3.bl:=by rw[<-hs4]
   have hbl:=hg15.ex.2;have hw15:=he15.chg.size;have cF:∀{w':World},w'.heap[p]?=some (.cells [vt,i64 (s4.i:Nat),i64 s4.off,.pointer (some ⟨f,0,none⟩),i64 (s4.deep:Nat),.bool s4.quiet].toArray PsT (0,0))->w'.cell? ((⟨p,0,none⟩:Addr).add 3)=some (.pointer (some ⟨f,0,none⟩)):=by
    intro w' h;rw[bZ,cD,h,cH];rfl
   have cB:∀{w':World} {u v:Value} {r:List Value},w'.heap[f]?=some (.cells (u::v::r).toArray FlT (0,0))->w'.cell? ((⟨f,0,none⟩:Addr).add 1)=some v:=by
    intro w' u v r h;rw[bZ,cD,h,cH];rfl
   have ld1:∀{w':World} {M':Lay},Loc w0 w' p f M' vt b1 PpT [.pointer (some ⟨p,0,none⟩)]->ldW false 1 (.pointer (some ⟨b1,0,none⟩)) w' λx=>x=.pointer (some ⟨p,0,none⟩):=λL=>L.ld rfl rfl;have use:∀k,M3.vB.ownBlock=some k->k∈M3.uses f:=λk hk=>aU _ (kP (v:=M3.vB) (by simp) hk);have nE:¬M3.vB.ownBlock=some p:=λe=>h15.np (use p e);have nF:¬M3.vB.ownBlock=some f:=λe=>by
    have hnd:=(Kx M3 f).nodup_iff.1 h15.fr.nd;rw[jF]at hnd;exact hnd.1 (eP _ (gR.2 e))
   have n1:¬M3.vB.ownBlock=some b1:=λe=>L1.2.2.2.1 (use b1 e);refine L1.ld rfl ?_;rw[dW,bR,dX];refine⟨_,cF h15.ps,?_⟩;refine L1.ld rfl ?_;rw[dW,bR,dX];refine⟨_,cF h15.ps,?_⟩;rw[dW,bR,dX];refine⟨_,cB h15.fr.hf,?_⟩;refine bY hL.l4.1 rfl ?_;refine Ba rfl rfl λr w16 hr hz16 hrb hx16=>?_;have h16:=h15.ext hx16;have L16:=L1.ext hx16;refine⟨by rw[dX];exact⟨_,cB h16.fr.hf,rfl⟩,by rw[dX];exact⟨_,cF h16.ps,rfl⟩,ld1 L16,by rw[dX];exact⟨_,cF h16.ps,rfl⟩,ld1 L16,?_⟩;have hc0:Chg (λk=>M3.vB.ownBlock=some k) w15.drew w16:=Chg.of_ext hx16;obtain⟨lp,lc,el1,_⟩:=hL.rL.own.sl.shape;obtain⟨ap,ac,ea1,_⟩:=hL.rA.own.sl.shape;obtain⟨bp,bc,eb1,_⟩:=hL.rB.own.sl.shape;refine jO aC6 h16.fr.oB (rX (n:=1) (T:=BkT) hrb) rfl (λu hu=>by
    simp only[bQ,fD,qV]at hu;rcases hu with rfl|rfl|rfl|rfl|rfl
    ·rfl
    ·rw[el1];rfl
    ·rw[ea1];rfl
    ·rw[eb1];rfl
    ·rfl) (by omega) (by omega) h16.base λv' w17 hO17 hc17 hv17=>?_
   have hp17:=hc17.at h16.ps nE;have hf17:=hc17.at h16.fr.hf nF;refine⟨by rw[dX];exact⟨_,cF hp17,rfl⟩,ld1 (M':=M3) ⟨hc17.at L16.1 n1,L16.2.up hc17.size⟩,?_⟩;rw[dW,bR,bZ,aV];obtain⟨vp,vc,ev,_⟩:=hO17.sl.shape;refine iU hf17 (by rw[ev];rfl) (by simp) λw18 hz18 hf18 hc18=>?_;have L18:Loc w0 w17 p f M3 vt b1 PpT [.pointer (some ⟨p,0,none⟩)]:=⟨hc17.at L16.1 n1,L16.2.up hc17.size⟩;have nf1:b1≠f:=λe=>L16.2.2.2.1 (e▸bD);have L19:=L18.one hc18 nf1;have hzx:=hx16.size;have hub:∀k,k∈ub [str t.t,vl,va,vb,i64 t.a]↔vl.ownBlock=some k\/va.ownBlock=some k\/vb.ownBlock=some k:=λk=>by
    rw[show [str t.t,vl,va,vb,i64 t.a]=[str t.t]++([vl]++([va]++([vb]++[i64 t.a])))from rfl];simp only[uI,dC,gR];simp[Value.ownBlock]
   have hnd:(ub [str t.t,vl,va,vb,i64 t.a]).Nodup:=by
    rw[show [str t.t,vl,va,vb,i64 t.a]=[str t.t]++([vl]++([va]++([vb]++[i64 t.a])))from rfl];simp only[uI];rw[show ub [str t.t]=[]from rfl,show ub [i64 t.a]=[]from rfl,fF,dV];refine eU.2 ⟨lS _,eU.2 ⟨lS _,lS _,λx hx y hy e=>by subst e;exact hL.d3 x (gR.1 hx) (gR.1 hy)⟩,λx hx y hy e=>?_⟩;subst e;rcases dC.1 hy with hy|hy
    ·exact hL.d1 x (gR.1 hx) (gR.1 hy)
    ·exact hL.d2 x (gR.1 hx) (gR.1 hy)
   obtain⟨h20,he20⟩:=h15.putB (w1:=w17) (w2:=w18) (v':=v') he15 (e:=⟨t.t,ls,x.1,x.2,t.a⟩) ⟨vl,va,vb,rfl,hL.rL.own,hL.rA.own,hL.rB.own⟩ (λk hk=>by
    rcases(hub k).1 hk with e|e|e
    ·exact hL.rL.off k e
    ·exact hL.rA.off k e
    ·exact hL.rB.off k e) hnd (λk hk=>by
    rcases(hub k).1 hk with e|e|e
    ·have:=hL.rL.new k e;omega
    ·have:=hL.rA.new k e;omega
    ·have:=hL.rB.new k e;omega) hO17 (hc0.trans hc17) (λk hk=>(hv17 k hk).imp id λe=>by omega) hc18 (by rw[hf18];simp)
   refine L19.ld rfl ?_;rw[dW,bR,dX];refine⟨_,cF h20.ps,?_⟩;rw[dW,bR,dX];refine⟨_,cB h20.fr.hf,?_⟩;dsimp only;rw[ev,zD,mB,cN (by omega) (by omega)];have e1:((s4.bl.length+1:Nat):Int)-1=(s4.bl.length:Nat):=by omega
   rw[e1];subst hs4;exact hK _ _ rfl _ w18 h20 he20
  ·rw[efuel]at ex;rw[ex];rfl
theorem LD:GC dead:=⟨JS,yC⟩
theorem Cn(d:Nat):GC (BV d):=⟨λN=>Gu N d,Kc d⟩
theorem Kd(hS:yK w0 f):∀dl,EC w0 f 30 (BV dl) dl
 |0=>MV (λd e=>by omega) (λd e=>by omega) vU LD
 |d+1=>by
  have ih:=Kd hS d
  refine MV (λd' e=>?_) (λd' e=>?_) (Ei d).1 (Cn d)
  ·have e:d'=d:=by omega
   subst e;exact(MI hS d').1
  ·have e:d'=d:=by omega
   subst e;exact ih
end
theorem MY(v:Value)(w:World):(Instr.typeAssert (.iface DT v) 20 DT false).run P0 w=.ok v w:=by kernel_rfl
theorem Qd(w:World)(K:Value->Prop):eqQ P0 .neq 20 false true .nilIface .nilIface w K↔K (.bool false):=by
 have h:(do eqGuard .neq 20 (rE false) (rE true) .nilIface .nilIface;binOp .neq 20 .nilIface .nilIface:Sem Value).run P0 w=.ok (.bool false) w:=by kernel_rfl
 unfold eqQ nH;rw[h];exact⟨λ⟨v,h1,h2⟩=>by cases h1;exact h2,λh2=>⟨_,rfl,h2⟩⟩
theorem Ld(v:Value)(w:World)(K:Value->Prop):eqQ P0 .neq 20 false true (.iface DT v) .nilIface w K↔K (.bool true):=by
 have h:(do eqGuard .neq 20 (rE false) (rE true) (.iface DT v) .nilIface;binOp .neq 20 (.iface DT v) .nilIface:Sem Value).run P0 w=.ok (.bool true) w:=by kernel_rfl
 unfold eqQ nH;rw[h];exact⟨λ⟨v,h1,h2⟩=>by cases h1;exact h2,λh2=>⟨_,rfl,h2⟩⟩
theorem Py{a b:Value}{K:World->Prop}(hK:K w):xD P0 27 [a,b] .returning w K:=by
 letI:=noX;refine RX .idle ?_;unfold R27;rw[Qd,cX];exact hK
theorem KR{a b d:Nat}{Ta Tb:TypeId}{K:World->Prop}(ha:w.heap[a]?=some (.cells cs.toArray Ta (0,0)))(hl:cs.length=3)(hb:w.heap[b]?=some (.cells [v].toArray Tb (0,0)))(hab:a≠b)
  (hK:∀w',Chg (λk=>k=a\/k=b) w w'->w'.heap[a]?=some (.cells [.slice none 0 0,.slice none 0 0,.slice none 0 0].toArray Ta (0,0))->w'.heap[b]?=some (.cells [.pointer (some ⟨d,0,none⟩)].toArray Tb (0,0))->K w'):
  xD P0 27 [.pointer (some ⟨a,0,none⟩),.pointer (some ⟨b,0,none⟩)] (.panicking [{v:=.iface DT (.pointer (some ⟨d,0,none⟩)),recovered:=false}]) w K:=by
 letI:=noX;refine RX (.thrown _) ?_;unfold R27;rw[Ld,dY,cU];refine⟨_,MY _ _,?_⟩;refine cG (l:=[.slice none 0 0,.slice none 0 0,.slice none 0 0]) (w:=w.drew) ha rfl hl rfl λw2 hz2 ha2 hc2=>?_;refine⟨⟨_,MY _ _,rfl⟩,?_⟩;have hb2:=hc2.at (w:=w.drew) hb (λe=>hab e.symm);refine iU hb2 rfl (by simp) λw3 hz3 hb3 hc3=>?_;refine hK w3 ?_ (hc3.at ha2 hab) (by rw[hb3];simp);exact((Chg.drew (Chg.refl _ w)).trans (hc2.mono λk _ e=>.inl e)).trans (hc3.mono λk _ e=>.inr e)
structure FO(w:World)(B:Nat)(M:Lay)(fl:Fl):Prop where
 oE:Own w B ExT 5 M.vE fl.ex.length M.cE
 oB:Own w B BkT 5 M.vB fl.bl.length M.cB
 oT:Own w B iT 1 M.vT fl.top.length (ints fl.top)
 ee:oP (ExR w B) 5 fl.ex M.cE
 bb:oP (BkR w B) 5 fl.bl M.cB
 nd:(ub ([M.vE,M.vB,M.vT]++(M.cE++M.cB))).Nodup
 lt:∀k∈ub ([M.vE,M.vB,M.vT]++(M.cE++M.cB)),k<w.heap.size
 lo:∀k∈ub ([M.vE,M.vB,M.vT]++(M.cE++M.cB)),B<=k
theorem FR.out{B f:Nat}{M:Lay}{ex:List Ex}{bl:List Blk}{top:List Nat}(h:FR w B f M ex bl top):FO w B M ⟨ex,bl,top⟩:=by
 have hn:=h.nd;unfold Lay.uses at hn;rw[jF]at hn;exact⟨h.oE,h.oB,h.oT,h.ee,h.bb,hn.2,λk hk=>h.lt k (aU _ hk),λk hk=>(h.lo k (aU _ hk)).resolve_left λe=>hn.1 (e▸hk)⟩
theorem FO.keep{B:Nat}{M:Lay}{fl:Fl}(h:FO w B M fl)(hc:Chg S w w')(hS:∀k,B<=k->k<w.heap.size->k∈ub ([M.vE,M.vB,M.vT]++(M.cE++M.cB))->¬S k):FO w' B M fl:=by
 have hu:∀v∈[M.vE,M.vB,M.vT]++(M.cE++M.cB),∀k,v.ownBlock=some k->¬S k:=λv hv k hk=>hS k (h.lo k (kP hv hk)) (h.lt k (kP hv hk)) (kP hv hk);refine⟨jE h.oE hc (hu _ (by simp)),jE h.oB hc (hu _ (by simp)),jE h.oT hc (hu _ (by simp)),?_,?_,h.nd,λk hk=>cO (h.lt k hk) hc.size,h.lo⟩
 ·refine h.ee.imp λx d hd hx=>hx.at_ hc λk hk=>?_;obtain⟨v,hv,hk⟩:=gN.1 hk;exact hu v (by simp[hd v hv]) k hk
 ·refine h.bb.imp λx d hd hx=>hx.at_ hc λk hk=>?_;obtain⟨v,hv,hk⟩:=gN.1 hk;exact hu v (by simp[hd v hv]) k hk
theorem ExR.low{B B':Nat}{e:Ex}{d:List Value}(h:ExR w B e d)(hb:B'<=B):ExR w B' e d:=by
 obtain⟨va,vk,e1,h1,h2⟩:=h;exact⟨va,vk,e1,h1.base hb,h2.base hb⟩
theorem BkR.low{B B':Nat}{e:Blk}{d:List Value}(h:BkR w B e d)(hb:B'<=B):BkR w B' e d:=by
 obtain⟨vl,va,vk,e1,h1,h2,h3⟩:=h;exact⟨vl,va,vk,e1,h1.base hb,h2.base hb,h3.base hb⟩
theorem FO.low{B B':Nat}{M:Lay}{fl:Fl}(h:FO w B M fl)(hb:B'<=B):FO w B' M fl:=
 ⟨h.oE.base hb,h.oB.base hb,h.oT.base hb,h.ee.imp λx d _ hx=>hx.low hb,h.bb.imp λx d _ hx=>hx.low hb,h.nd,h.lt,λk hk=>cI hb (h.lo k hk)⟩
section
variable{w0 w w1 w2:World}{p f:Nat}{M:Lay}{vt:Value}{s:PS}{top:List Nat}
theorem Kv(M:Lay)(f:Nat):(M.uses f).Perm (f::(ub [M.vT]++ub ([M.vE,M.vB]++(M.cE++M.cB)))):=by
 rw[CU];intro a;unfold Lay.uses;simp only[uI,lI,CC];rw[wC M.vE,wC M.vB,wC M.vE [M.vB]];simp only[lI];omega
theorem PR.putT(h:PR w0 w p f M vt s top){x:Nat}{v':Value}(hO:Own w1 w0.heap.size iT 1 v' (top.length+1) (ints top++[i64 (x:Nat)]))(hc1:Chg (λk=>M.vT.ownBlock=some k) w w1)(hv:∀k,v'.ownBlock=some k->M.vT.ownBlock=some k\/w.heap.size<=k)
  (hc2:Chg (One f) w1 w2)(hf:w2.heap[f]?=some (.cells [M.vE,M.vB,v'].toArray FlT (0,0))):PR w0 w2 p f {M with vT:=v'} vt s (top++[x]):=by
 have hb:=h.base;have pT:=Kv M f;have use:∀k,M.vT.ownBlock=some k->k∈M.uses f:=λk hk=>aU _ (kP (v:=M.vT) (by simp) hk);have hnd0:=pT.nodup_iff.1 h.fr.nd;have hnd:=hnd0;rw[jF,eU]at hnd;obtain⟨nf,_,nb,nab⟩:=hnd;have inU:∀k∈ub ([M.vE,M.vB]++(M.cE++M.cB)),k∈M.uses f:=λk hk=>pT.mem_iff.2 (aU _ (cW _ hk));have rest:∀k∈ub ([M.vE,M.vB]++(M.cE++M.cB)),M.vT.ownBlock≠some k/\k≠f/\k<w.heap.size:=λk hk=>
  ⟨λe=>nab k (gR.2 e) k hk rfl,λe=>nf (e▸cW _ hk),h.fr.lt k (inU k hk)⟩
 have c12:Chg (λk=>M.vT.ownBlock=some k\/k=f) w w2:=(hc1.mono λk _ e=>.inl e).trans (hc2.mono λk _ e=>.inr e);have sub:∀v∈[M.vE,M.vB]++(M.cE++M.cB),∀k,v.ownBlock=some k->¬(M.vT.ownBlock=some k\/k=f):=λv hv k hk e=>by
  have:=rest k (kP hv hk);exact e.elim this.1 this.2.1
 have hOf:∀k,v'.ownBlock=some k->k≠f:=λk hk e=>by
  subst e;rcases hv k hk with e|e
  ·exact nf (eP _ (gR.2 e))
  ·have:=fJ h.fr.hf;omega
 have nE:M.vT.ownBlock≠some p:=λe=>h.np (use p e);have pf:p≠f:=λe=>h.np (e▸bD);have perm:=Kv {M with vT:=v'} f;have hN:(f::(ub [v']++([]++ub ([M.vE,M.vB]++(M.cE++M.cB))))).Nodup:=Hh (n:=w.heap.size) (a:=ub [M.vT]) hnd0 (λk hk=>h.fr.lt k (pT.mem_iff.2 hk)) (lS _) (λk hk=>(hv k (gR.1 hk)).imp (λe=>gR.2 e) id) List.nodup_nil λk hk=>by cases hk
 have hz:=c12.size;have mem:∀k∈({M with vT:=v'}:Lay).uses f,k=f\/v'.ownBlock=some k\/k∈ub ([M.vE,M.vB]++(M.cE++M.cB)):=λk hk=>by
  have hk:=perm.mem_iff.1 hk;rcases bQ.1 hk with e|e
  ·exact .inl e
  rcases dC.1 e with e|e
  ·exact .inr (.inl (gR.1 e))
  ·exact .inr (.inr e)
 refine⟨?_,⟨hf,?_,?_,?_,?_,?_,perm.nodup_iff.2 hN,λk hk=>?_,λk hk=>?_⟩,?_,?_,λe=>?_,h.lo,λk hk=>?_⟩
 ·refine h.ch.then c12 λk hk e=>?_;rcases e with e|e
  ·exact(h.fr.lo k (use k e)).resolve_right (by omega)
  ·exact e
 ·exact jE h.fr.oE c12 (sub _ (by simp))
 ·exact jE h.fr.oB c12 (sub _ (by simp))
 ·rw[aX,aB,aM,DO];exact jE hO hc2 λk hk e=>hOf k hk e
 ·refine h.fr.ee.imp λx d hd hx=>hx.at_ c12 λk hk=>?_;obtain⟨v,hv,hk⟩:=gN.1 hk;exact sub v (by simp[hd v hv]) k hk
 ·refine h.fr.bb.imp λx d hd hx=>hx.at_ c12 λk hk=>?_;obtain⟨v,hv,hk⟩:=gN.1 hk;exact sub v (by simp[hd v hv]) k hk
 ·rcases mem k hk with e|e|e
  ·rw[e];exact fJ hf
  ·exact cO (qU hO e).1 hc2.size
  ·exact cO (rest k e).2.2 hz
 ·rcases mem k hk with e|e|e
  ·exact .inl e
  ·exact .inr (qU hO e).2
  ·exact h.fr.lo k (inU k e)
 ·exact c12.at h.ps λe=>e.elim nE pf
 ·exact yQ h.tk c12 λk hk e=>by
   have:=(h.nt k hk).1;rcases e with e|e
   ·exact this (use k e)
   ·exact this (e▸bD)
 ·rcases mem p e with e|e|e
  ·exact pf e
  ·exact(hv p e).elim nE λe=>by have:=h.lt;omega
  ·exact h.np (inU p e)
 ·have ht:=h.nt k hk;refine⟨λe=>?_,ht.2.1,cO ht.2.2 hz⟩;rcases mem k e with e|e|e
  ·exact ht.1 (e▸bD)
  ·exact(hv k e).elim (λe=>ht.1 (use k e)) λe=>by omega
  ·exact ht.1 (inU k e)
end
def yJ(w:World):Prop:=∃m,w.cell? ⟨0,0,none⟩=some (.int .i64 m)
section
variable [HX]
def Yw:Prop:=∀(w:World) (K:Q0) (s:Str),yJ w->s.length<=1000000->
 (∀l,qH s=.ok l->∀v w',Ext w w'->SlAt w' TkT v l.length (toks l)->(∀k,v.ownBlock=some k->w.heap.size<=k/\k<w'.heap.size)->K (.tuple #[v,.pointer none]) w')->
 (∀c a,qH s=.bad c a->∀d w',Ext w w'->w.heap.size<=d->w'.heap[d]?=some (.cells [i64 c,str [],i64 a].toArray 53 (0,0))->K (.tuple #[.slice none 0 0,.pointer (some ⟨d,0,none⟩)]) w')->
 aC P0 26 [str s] w K
end
theorem yJ.chg{f:Nat}(h:yJ w)(hc:Chg (Of f) w w')(hf:w.heap[f]?=some (.cells cs.toArray FlT (0,0)))(h0:∀m,cs[0]?≠some (.int .i64 m)):yJ w':=by
 obtain⟨m,h⟩:=h;refine⟨m,?_⟩;rw[cD]at h⊢;cases hx:w.heap[0]? with
 |none=>rw[hx]at h;cases h
 |some o=>
  rw[hc.at hx ?_]
  ·rw[hx]at h;exact h
  ·intro e;have e:0=f:=e;subst e;rw[hf,cH]at h;exact h0 m (by simpa using h)
theorem UH[HX](hS:∀[HX],Yw){t:Str}{K:Q0}(hT:yJ w)(hl:t.length<=1000000)
  (hok:∀fl,parseM t=.ok fl->∀M w',Ext w w'->FO w' w.heap.size M fl->(fl.ex.length<=100000/\fl.bl.length<=100000/\fl.top.length<=100000)->K (.tuple #[.agg [M.vE,M.vB,M.vT].toArray,.pointer none]) w')
  (hbad:∀c a,parseM t=.bad c a->∀d w',Ext w w'->w.heap.size<=d->w'.heap[d]?=some (.cells [i64 c,str [],i64 a].toArray 53 (0,0))->K (.tuple #[.agg [.slice none 0 0,.slice none 0 0,.slice none 0 0].toArray,.pointer (some ⟨d,0,none⟩)]) w'):
  aC P0 10 [str t] w K:=by
 refine aCn ?_;unfold W10;refine bF λf w1 hf hz1 hbb1 hx1=>?_;refine bF λbd w2 hbd hz2 hbb2 hx2=>?_;have hx02:=hx1.trans hx2;have hf2:=hx2.at hbb1 id;have hT2:yJ w2:=by
  obtain⟨m,h⟩:=hT;refine⟨m,?_⟩;rw[cD]at h⊢;cases hx:w.heap[0]? with
  |none=>rw[hx]at h;cases h
  |some o=>rw[hx02.at hx id];rw[hx]at h;exact h
 unfold parseM at hok hbad;refine hS w2 _ t hT2 hl (λl hsc v w3 hx3 hv hvn=>?_) (λc a hsc d w3 hx3 hd hdb=>?_)
 ·rw[bK];refine⟨v,rfl,?_⟩;rw[bK];refine⟨.pointer none,rfl,?_⟩;have hbd3:=hx3.at hbb2 id;have hf3:=hx3.at hf2 id;refine iU hbd3 rfl (by simp) λw4 hz4 hbb4 hc4=>?_;have hbb4:w4.heap[bd]?=some (.cells [.pointer none].toArray 33 (0,0)):=by rw[hbb4];simp
  have hf4:=hc4.at hf3 (by omega);refine⟨.pointer none,by rw[cD,hbb4];rfl,?_⟩;show aR (.bool false) _ _;rw[cX];have hx4:Ext w w4:=(hx02.trans hx3).new (hc4.mono λk _ e=>e) (by omega);have hlt4:=fJ hf4;have hT4:yJ w4:=by
   obtain⟨m,h⟩:=hT;refine⟨m,?_⟩;rw[cD]at h⊢;cases hx:w.heap[0]? with
   |none=>rw[hx]at h;cases h
   |some o=>rw[hx4.at hx id];rw[hx]at h;exact h
  have hv4:SlAt w4 TkT v l.length (toks l):=yQ hv hc4 λk hk e=>by have:=(hvn k hk).1;have e:k=bd:=e;omega
  letI inst:HX:=⟨λch x10=>xD P0 27 [.pointer (some ⟨f,0,none⟩),.pointer (some ⟨bd,0,none⟩)] (.panicking ch) x10 λw10=>
   ldW true 3 (.pointer (some ⟨f,0,none⟩)) w10 λr11=>
   ldW false 1 (.pointer (some ⟨bd,0,none⟩)) w10 λr12=>
   K (.tuple #[r11,r12]) w10⟩
  have hSC:yK w4 f:=λw' KK s hc hsl h1 h2=>hS w' KK s (hT4.chg hc hf4 (by simp)) hsl h1 h2;have hThr:∀c a,(∀d w',Ext w w'->w.heap.size<=d->w'.heap[d]?=some (.cells [i64 c,str [],i64 a].toArray 53 (0,0))->K (.tuple #[.agg [.slice none 0 0,.slice none 0 0,.slice none 0 0].toArray,.pointer (some ⟨d,0,none⟩)]) w')->Thr w4 f c a:=by
   intro c a hb d w' cs hc hd hcs hcf hdb;have hzc:=hx4.size;refine KR hcf hcs (hc.at hbb4 (by show¬bd=f;omega)) (by omega) λw5 hc5 ha5 hb5=>?_;refine bY ha5 rfl ?_;refine⟨_,by rw[cD,hb5];rfl,?_⟩;have hd':w4.heap.size<=d:=hd;have hzx3:=hx3.size;refine hb d w5 ?_ (by omega) (hc5.at hdb (by show¬(d=f\/d=bd);omega));refine(hx4.then hc λk hk e=>?_).then hc5 λk hk e=>?_
   ·have e:k=f:=e;omega
   ·omega
  obtain⟨q,cap,ev,_⟩:=hv.shape;subst ev;simp only[gO,dD,GX,cU,aB,aM,aY,bB,Nat.reduceAdd,Nat.reduceLT,dM,aA];refine fS (z:=[.slice q l.length cap,i64 0,i64 0,.pointer (some ⟨f,0,none⟩),i64 0,.bool false]) λp w5 hp hz5 hpb hx5=>?_;have hzx3:=hx3.size;have hf5:=hx5.at hf4 id;have hbd5:=hx5.at hbb4 id;let M0:Lay:=⟨.slice none 0 0,.slice none 0 0,.slice none 0 0,[],[]⟩;have huse:M0.uses f=[f]:=rfl;have hPR:PR w4 w5 p f M0 (.slice q l.length cap) ⟨l,0,0,0,false,[],[]⟩ []:=
   ⟨Chg.of_ext hx5,⟨hf5,⟨by simp[M0],.inl ⟨rfl,rfl⟩⟩,⟨by simp[M0],.inl ⟨rfl,rfl⟩⟩,⟨by simp[ints],.inl ⟨rfl,rfl⟩⟩,oP.nil _ _,oP.nil _ _,by rw[huse];simp,by rw[huse];intro k hk;simp only[bP]at hk;omega,by rw[huse];intro k hk;simp only[bP]at hk;exact .inl hk⟩,
    hpb,hv4.ext hx5,by rw[huse];simp only[bP];omega,by omega,λk hk=>by
     have hb:=hvn k hk;rw[huse];simp only[bP];omega⟩
  have htg:=GP (N:=(t.length:Nat)) (off:=0) hsc (oF _) (by omega);have hfew:=Iq hsc;have hwt:=GO hsc;have hg0:Gd (t.length:Nat) ⟨l,0,0,0,false,[],[]⟩ 24:=⟨⟨htg,dP.2 htg.ne,by omega⟩,by omega,hfew.1,Me hsc,by unfold Syn.phi;simp only[aM,cV];omega,rfl⟩;rw[hsc]at hok hbad;simp only at hok hbad;have hN:=hg0.hN;refine zA hPR hg0.ws hN hg0.l λw6 h6 he6=>?_;have hg1:=hg0.lines;have et1:=congrArg List.length (mL hg0.ws).1.toks;generalize hR:Nk (l.length+1) (gI ⟨l,0,0,0,false,[],[]⟩) []=R0 at hok hbad;have hbdk:∀{w':World},Chg (Of f) w4 w'->w'.heap[bd]?=some (.cells [.pointer none].toArray 33 (0,0)):=λhc=>hc.at hbb4 (by show¬bd=f;omega);refine cZ.go (λst w'=>st=[]/\∃s1 M1 top n,PR w4 w' p f M1 (.slice q l.length cap) s1 top/\Gd (t.length:Nat) s1 24/\Nk n s1 top=R0/\s1.toks.length<n+s1.i/\top.length<=s1.i/\s1.toks.length=l.length) (λ_ w'=>l.length-Ai w' p)
   ⟨rfl,_,M0,[],l.length+1,h6,hg1,hR,by rw[et1];show l.length<_;omega,by simp,by rw[et1]⟩ ?_
  rintro st g w7 ⟨rfl,s1,M1,top,n,h7,hg7,htop,hn,htl,htk⟩;have hlt7:=hg7.ws.lt;obtain⟨n,rfl⟩:∃m,n=m+1:=⟨n-1,by omega⟩;simp only[Nk]at htop;have hgn:=hg7.now;have ng:=gE hg7.ws;have ngt:=congrArg List.length ng.toks;have ngi:=ng.le;refine nD h7 hg7.ws hN hg7.l λw8 h8 he8=>?_;refine⟨i64 (cur s1).k,rfl,?_⟩;dsimp only;rw[fT,aO];refine⟨λhk0=>?_,λhk0=>?_⟩
  ·have hk0:(cur s1).k≠0:=hk0;rw[aE hk0]at htop;have h8:=h8.drew;rw[bR,dX];refine⟨M1.vT,by rw[bZ,cD,h8.fr.hf,cH];rfl,?_⟩;refine Kd hSC 24 w8.drew p M1 _ _ top _ _ h8 hgn (λx s2 ex M2 w9 h9 he9=>?_) λc a' ex=>hThr c a' (hbad c a' (by rw[<-htop,ex];rfl));rw[ex]at htop;simp only[R.bind]at htop;obtain⟨hg9,hi9,ht9⟩:=hgn.bk (Cn 24) ex;have ht9:=congrArg List.length ht9;have eT:=he9.hT;have ldT:∀{w':World},w'.heap[f]?=some (.cells [M2.vE,M2.vB,M2.vT].toArray FlT (0,0))->ldW false 1 (.pointer (some ((⟨f,0,none⟩:Addr).add 2))) w' λx=>x=M1.vT:=λh=>by
    rw[dX];exact⟨M2.vT,by rw[bZ,cD,h,cH];rfl,eT⟩
   refine⟨ldT h9.fr.hf,?_⟩;refine jS λr w10 hr hz10 hrb hx10=>?_;have h10:=h9.ext hx10;refine⟨ldT h10.fr.hf,?_⟩;have few:=hg7.few;have hzx:=hx10.size;have nF:¬M2.vT.ownBlock=some f:=λe=>by
    have hnd:=(Kv M2 f).nodup_iff.1 h10.fr.nd;rw[jF]at hnd;exact hnd.1 (eP _ (gR.2 e))
   rw[<-eT];refine jO BJ h10.fr.oT (rX (n:=1) (T:=iT) hrb) rfl (λu hu=>by simp only[bP]at hu;subst hu;rfl) (by omega) (by omega) h10.base λv' w11 hO11 hc11 hv11=>?_;have hf11:=hc11.at h10.fr.hf nF;rw[bR,bZ,aV];obtain⟨vp,vc,ev,_⟩:=hO11.sl.shape;refine iU hf11 (by rw[ev];rfl) (by simp) λw12 hz12 hf12 hc12=>?_;have h12:=h10.putT (w1:=w11) (w2:=w12) (x:=x) hO11 hc11 hv11 hc12 (by rw[hf12];simp);have hg10:=hg9.now;have ng9:=gE hg9.ws;have ng9t:=congrArg List.length ng9.toks;have ng9i:=ng9.le;refine bS.cut (λ_ w'=>PR w4 w' p f {M2 with vT:=v'} (.slice q l.length cap) (bC s2) (top++[x])/\Nk n (gI (bC s2)) (top++[x])=R0) ?_ ?_
   ·refine nD h12 hg9.ws hN hg9.l λw13 h13 he13=>?_;refine⟨i64 (cur s2).k,rfl,?_⟩;dsimp only;rw[fT];simp only[iD,fT,nX];intro g2;simp only[aG];rw[fC,bT];refine⟨λhb=>?_,λhb=>?_⟩
    ·have hb:(cur s2).k≠5/\(cur s2).k≠0:=by simpa using hb
     rw[aJ hb]at htop;refine nD h13 hg10.ws hN hg10.l λw14 h14 he14=>?_;refine⟨i64 (cur (bC s2)).a,rfl,?_⟩;exact qB h14 (hThr 50 _ (hbad 50 _ (by rw[<-htop])))
    ·have hb:¬((cur s2).k≠5/\(cur s2).k≠0):=by simpa using hb
     rw[aE hb]at htop;exact⟨h13,htop⟩
   rintro _ g2 w13 ⟨h13,htop⟩;refine zA h13 hg10.ws hN hg10.l λw14 h14 he14=>?_;have lg:=mL hg10.ws;have lgt:=congrArg List.length lg.1.toks;have lgi:=lg.1.le;have hgl:=hg10.lines;have hltl:=hgl.ws.lt;refine⟨⟨rfl,gI (bC s2),_,top++[x],n,h14,hgl,htop,by omega,by rw[aX,aB,aM];omega,by omega⟩,?_⟩;rw[h14.at_,h7.at_];omega
  ·have hk0:(cur s1).k=0:=by
    by_cases h:(cur s1).k=0
    ·exact h
    ·exact absurd h hk0
   rw[aJ hk0]at htop;refine bY h8.fr.hf rfl ?_;obtain⟨ep,ec,e1,_⟩:=h8.fr.oE.sl.shape;obtain⟨bp,bc,e2,_⟩:=h8.fr.oB.sl.shape;obtain⟨tp,tc,e3,_⟩:=h8.fr.oT.sl.shape;refine cG (l:=[M1.vE,M1.vB,M1.vT]) h8.fr.hf rfl rfl (by rw[e1,e2,e3];rfl) λw9 hz9 hf9 hc9=>?_;have hc49:Chg (Of f) w4 w9:=h8.ch.trans (hc9.mono λk _ e=>e);refine iU (hbdk hc49) rfl (by simp) λw10 hz10 hbd10 hc10=>?_;have hf10:=hc10.at hf9 (by omega);refine Py ?_;refine bY hf10 rfl ?_;refine⟨.pointer none,by rw[cD,hbd10];rfl,?_⟩;have hFO:=h8.fr.out;have hFO:=hFO.keep hc9 λk hk hlt hu e=>by have e:k=f:=e;omega
   have hFO:=hFO.keep hc10 λk hk hlt hu e=>by have e:k=bd:=e;omega
   have hzc:=hx4.size;rw[<-htop]at hok;have few:=hg7.few;refine hok _ rfl M1 w10 ?_ (hFO.low hzc) ⟨hgn.ex.1,hgn.ex.2,by show top.length<=_;omega⟩;refine(hx4.then hc49 λk hk e=>?_).then hc10 λk hk e=>?_
   ·have e:k=f:=e;omega
   ·have e:k=bd:=e;omega
 ·rw[bK];refine⟨.slice none 0 0,rfl,?_⟩;rw[bK];refine⟨.pointer (some ⟨d,0,none⟩),rfl,?_⟩;have hbd3:=hx3.at hbb2 id;have hf3:=hx3.at hf2 id;refine iU hbd3 rfl (by simp) λw4 hz4 hbb4 hc4=>?_;have hbb4:w4.heap[bd]?=some (.cells [.pointer (some ⟨d,0,none⟩)].toArray 33 (0,0)):=by rw[hbb4];simp
  have hf4:=hc4.at hf3 (by omega);refine⟨.pointer (some ⟨d,0,none⟩),by rw[cD,hbb4];rfl,?_⟩;show aR (.bool true) _ _;rw[dY,cU];refine⟨.pointer (some ⟨d,0,none⟩),by rw[cD,heap_drew,hbb4];rfl,?_⟩;refine cG (w:=w4.drew) (l:=[.slice none 0 0,.slice none 0 0,.slice none 0 0]) hf4 rfl rfl rfl λw5 hz5 hf5 hc5=>?_;have hbb5:=hc5.at (w:=w4.drew) hbb4 (by omega);refine⟨⟨.pointer (some ⟨d,0,none⟩),by rw[cD,hbb5];rfl,rfl⟩,?_⟩;refine iU hbb5 rfl (by simp) λw6 hz6 hbb6 hc6=>?_;have hf6:=hc6.at hf5 (by omega);refine bY hf6 rfl ?_;refine⟨.pointer (some ⟨d,0,none⟩),by rw[cD,hbb6];rfl,?_⟩;have hx3':=hx02.trans hx3;have hd4:=hc4.at hdb (by omega);have hd5:=hc5.at (w:=w4.drew) hd4 (by omega);refine hbad c a (by rw[hsc]) d w6 ?_ (by omega) (hc6.at hd5 (by omega));exact(((hx3'.new hc4 (by omega)).trans (dB w4)).new hc5 (by omega)).new hc6 (by omega)
abbrev cv(c:UInt8):Value:=.int .u8 (c.toNat:Nat)
theorem BC(a c:UInt8):decide (((a.toNat:Nat):Int)<=((c.toNat:Nat):Int))=decide (a<=c):=by
 rw[decide_eq_decide,UInt8.le_iff_toNat_le];omega
theorem Aq(a c:UInt8):decide (((c.toNat:Nat):Int)=((a.toNat:Nat):Int))=(c==a):=by
 rw[lR,decide_eq_true_iff,fO,<-jZ];omega
section
variable [HX]
theorem xU{K:Q0}(hK:K (.bool (jH c)) w):aC P0 72 [cv c] w K:=by
 refine aBH ?_;unfold W72;have e1:decide ((97:Int)<=((c.toNat:Nat):Int))=decide (97<=c):=BC 97 c;have e2:decide (((c.toNat:Nat):Int)<=122)=decide (c<=122):=BC c 122;have e3:decide ((65:Int)<=((c.toNat:Nat):Int))=decide (65<=c):=BC 65 c;have e4:decide (((c.toNat:Nat):Int)<=90)=decide (c<=90):=BC c 90;have e5:decide (((c.toNat:Nat):Int)=95)=(c==95):=Aq 95 c;simp only[lF,uF,bM,e1,e2,e3,e4,e5];unfold jH at hK;generalize decide (97<=c)=a at*
 generalize decide (c<=122)=b at*
 generalize decide (65<=c)=d at*
 generalize decide (c<=90)=e at*
 generalize (c==95)=g at*
 cases a<;>cases b<;>cases d<;>cases e<;>cases g<;>
  (simp only[iD,lP,QN,Ad,nX,aN,aK,mJ,sL,aG,kU,iL];intros;exact hK)
theorem CO{K:Q0}(hK:K (.bool (jB c)) w):aC P0 74 [cv c] w K:=by
 refine aBF ?_;unfold W74;have e1:decide ((48:Int)<=((c.toNat:Nat):Int))=decide (48<=c):=BC 48 c;have e2:decide (((c.toNat:Nat):Int)<=57)=decide (c<=57):=BC c 57;simp only[lF,uF,e1,e2];unfold jB at hK;generalize decide (48<=c)=a at*
 generalize decide (c<=57)=b at*
 cases a<;>cases b<;>
  (simp only[iD,lP,QN,Ad,nX,aN,aK,mJ,sL,aG,kU,iL];intros;exact hK)
theorem zL{g:FuncId}{args:List Value}{K:Q0}(h:aC P g args w K):oN P (.func (.func g) #[] #[]) args w K:=jR (caps:=[]) (by rw[dV];exact h)
theorem UT{K:Q0}(hK:K (.bool (jL c)) w):aC P0 73 [cv c] w K:=by
 refine aBG ?_;unfold W73;refine xU ?_;have e5:decide (((c.toNat:Nat):Int)=45)=(c==45):=Aq 45 c;unfold jL at hK;simp only[lP,bM,e5];refine GdW.look (jB c) (λ_ J hJ=>CO hJ) λg=>?_;simp only[aG];rw[fN];simp only[lP,nX,aG];intro g2;rw[fN];exact hK
theorem US{K:Q0}(hK:K (.bool (jL c)) w):aC P0 109 [cv c] w K:=by
 refine XJ ?_;unfold aEv;refine xU ?_;have e5:decide (((c.toNat:Nat):Int)=45)=(c==45):=Aq 45 c;unfold jL at hK;simp only[lP,bM,e5];refine GdW.look (jB c) (λ_ J hJ=>CO hJ) λg=>?_;simp only[aG];rw[fN];simp only[lP,nX,aG];intro g2;rw[fN];exact hK
theorem Va{K:Q0}(hK:K (.bool (c !=10)) w):aC P0 70 [cv c] w K:=by
 refine aBI ?_;unfold W70;rw[fT];have e:decide (((c.toNat:Nat):Int)≠10)=(c !=10):=by
  have e5:decide (((c.toNat:Nat):Int)=10)=(c==10):=Aq 10 c;rw[bne,<-e5,xC]
 rw[e];exact hK
theorem Mf{q:UInt8->Bool}{fv:Value}{s:Str}{K:Q0}(hl:s.length<=1000000)(hq:∀c {w:World} {K:Q0},K (.bool (q c)) w->oN P0 fv [cv c] w K)(hK:K (i64 (eK q s:Nat)) w):aC P0 69 [str s,fv] w K:=by
 refine aBJ ?_;unfold W69;rw[fX];refine cZ.go (λst w'=>∃i:Nat,st=[i64 (i:Nat)]/\i<=s.length/\w'=w/\i+eK q (s.drop i)=eK q s) (λst _=>match st with|[.int _ i]=>s.length-i.toNat|_=>0) ⟨0,rfl,by omega,rfl,by simp⟩ ?_;rintro st g w' ⟨i,rfl,hi,rfl,hr⟩;simp only[aG];rw[eC,aO];refine⟨λhlt=>?_,λhge=>?_⟩
 ·have hlt:i<s.length:=by omega
  rw[iR hlt]at hr;simp only[eK]at hr;refine rH hlt ?_;refine hq _ ?_;rw[eM,bT];refine⟨λhn=>?_,λhy=>?_⟩
  ·rw[aE (by simpa using hn),eS]at hr;rw[hr];exact hK
  ·rw[aJ (by simpa using hy)]at hr;rw[cC,upi (by omega)];refine⟨⟨i+1,rfl,by omega,rfl,by omega⟩,?_⟩;simp only[aW];omega
 ·obtain rfl:i=s.length:=by omega
  rw[dR]at hr;simp only[eK,eS]at hr;rw[fX,hr];exact hK
theorem DV{l:Str}{K:Q0}(hK:K (i64 (Lib.indexByte l c)) w):aC P0 68 [str l,cv c] w K:=by
 refine gX (args:=#[str l,cv c]) Tryz.call68 ((Tryz.strings_IndexByte (ofL l) (c.toNat:Nat) w).mono ?_);rintro e w' ⟨rfl,rfl⟩;refine⟨_,rfl,?_⟩;rw[eO];simpa using hK
theorem QU{s:Str}{K:Q0}(hT:yJ w)(hl:s.length<=1000000)(hK:K (i64 (Lib.index s [42,47])) w):aC P0 71 [str s,str [42,47]] w K:=by
 obtain⟨m,hm⟩:=hT;refine gX (args:=#[str s,str [42,47]]) Tryz.call71 ((Tryz.strings_Index (ofL s) (ofL [42,47]) m w (by rw[fL];omega) hm).mono ?_);rintro e w' ⟨rfl,rfl⟩;rw[eO,eO];exact⟨_,rfl,hK⟩
end
theorem aBc(c:UInt8):decide (0<=Lib.indexByte [32,9,13] c)=(c==32||c==9||c==13):=by
 have:∀m:Fin 256,decide (0<=Lib.indexByte [32,9,13] (UInt8.ofNat m.val))=(UInt8.ofNat m.val==32||UInt8.ofNat m.val==9||UInt8.ofNat m.val==13):=by decide+kernel
 have h:=this ⟨c.toNat,pJ c⟩;rwa[sC]at h
theorem aEN(c:UInt8):decide (Lib.indexByte [34,92,110,116,114,36] c<0)=!Lex.escOk c:=by
 have:∀m:Fin 256,decide (Lib.indexByte [34,92,110,116,114,36] (UInt8.ofNat m.val)<0)=!Lex.escOk (UInt8.ofNat m.val):=by decide+kernel
 have h:=this ⟨c.toNat,pJ c⟩;rwa[sC]at h
theorem Zb(c:UInt8):decide (0<=Lib.indexByte [123,125,91,93,40,41,61,43,45,42,47,37,60,62,33,63,58,44,46] c)=Bl.contains c:=by
 have:∀m:Fin 256,decide (0<=Lib.indexByte [123,125,91,93,40,41,61,43,45,42,47,37,60,62,33,63,58,44,46] (UInt8.ofNat m.val))=Bl.contains (UInt8.ofNat m.val):=by decide+kernel
 have h:=this ⟨c.toNat,pJ c⟩;rwa[sC]at h
theorem Fb(n:Nat)(c:UInt8)(r:Str):fQ (n+1) (c::r)=(if(c==32||c==9||c==13)=true then((fQ n r).1+1,(fQ n r).2)else if(c==35||Lib.hasPrefix (c::r) [47,47])=true then((fQ n ((c::r).drop (eK (λb=>b !=10) (c::r)))).1+eK (λb=>b !=10) (c::r),(fQ n ((c::r).drop (eK (λb=>b !=10) (c::r)))).2)
  else if Lib.hasPrefix (c::r) [47,42]=true then(if Lib.index (r.drop 1) [42,47]<0 then(0,40)else((fQ n ((c::r).drop ((Lib.index (r.drop 1) [42,47]).toNat+4))).1+((Lib.index (r.drop 1) [42,47]).toNat+4),(fQ n ((c::r).drop ((Lib.index (r.drop 1) [42,47]).toNat+4))).2))else(0,0)):=by
 simp only[fQ,cM,fO];rfl
theorem Ps{q:UInt8->Bool}{r:Str}(h:q c=true):1<=eK q (c::r):=by simp only[eK];rw[aJ h];omega
theorem add_add(i j:Nat)(x:Nat×Int):mS i (mS j x)=mS (i+j) x:=by
 unfold mS;by_cases h:x.2=0
 ·simp only[h,gM];rw[show x.1+j+i=x.1+(i+j)by omega]
 ·simp only[aE h]
section
variable [HX]
theorem Za{s:Str}{K:Q0}(hT:yJ w)(hl:s.length<=1000000)(hK:K (.tuple #[i64 ((fQ (s.length+1) s).1:Nat),i64 (fQ (s.length+1) s).2]) w):aC P0 44 [str s] w K:=by
 refine aB1 ?_;unfold W44;generalize hR:fQ (s.length+1) s=R0 at hK;refine cZ.go (λst w'=>∃i n:Nat,st=[i64 (i:Nat)]/\i<=s.length/\w'=w/\((fQ n (s.drop i)).1+i,(fQ n (s.drop i)).2)=R0/\s.length<n+i) (λst _=>match st with|[.int _ i]=>s.length-i.toNat|_=>0) ⟨0,s.length+1,rfl,by omega,rfl,by rw[cV,hR];rfl,by omega⟩ ?_;rintro st g w' ⟨i,n,rfl,hi,rfl,hr,hn⟩;obtain⟨n,rfl⟩:∃m,n=m+1:=⟨n-1,by omega⟩;simp only[aG];rw[fX,eC,aO];refine⟨λhlt=>?_,λhge=>?_⟩
 ·have hlt:i<s.length:=by omega
  have hd:=iR hlt;rw[hd,Fb]at hr;rw[gH,fI,eX];refine⟨by omega,by omega,?_⟩;rw[bO,aW];refine rH hlt ?_;refine DV ?_;rw[lF,aBc,bT];refine⟨λhb=>?_,λhb=>?_⟩
  ·rw[aJ hb]at hr;rw[cC,upi (by omega)];refine⟨⟨i+1,n,rfl,by omega,rfl,?_,by omega⟩,?_⟩
   ·rw[<-hr];simp only[fZ,kX];omega
   ·simp only[aW];omega
  rw[aE (by rw[hb];decide)]at hr;have hd':=hd;rw[hd];generalize hc:s[i]=c at*
  generalize hrr:s.drop (i+1)=r at*
  have hrl:(c::r).length=s.length-i:=by rw[<-hd,aQ]
  simp only[aB]at hrl;refine bS.cut (λst w2=>st=[.bool (c==35||Lib.hasPrefix (c::r) [47,47])]/\w2=w') ?_ ?_
  ·refine rH hlt ?_;rw[hc];have e5:decide (((c.toNat:Nat):Int)=35)=(c==35):=Aq 35 c;rw[bM,e5,bT];refine⟨λh=>⟨by rw[h];rfl,rfl⟩,λh=>?_⟩;refine Ap ?_;exact⟨by rw[h,mF],rfl⟩
  rintro st g2 w2 ⟨rfl,rfl⟩;simp only[aG];rw[bT];refine⟨λhcm=>?_,λhcm=>?_⟩
  ·rw[aJ hcm]at hr;refine Mf (q:=λb=>b !=10) (by simp only[aB];omega) (λc {w K} h=>zL (Va h)) ?_;have hle:=qS (λb=>b !=10) (c::r);have hpos:1<=eK (λb=>b !=10) (c::r):=Ps (by
    rw[cM]at hcm;rcases hcm with h|h
    ·rw[fO]at h;subst h;rfl
    ·simp only[Lib.hasPrefix,List.isPrefixOf,aL,fO]at h;rw[<-h.1];rfl)
   simp only[aB]at hle;rw[cC,cN (by omega) (by omega)];generalize eK (λb=>b !=10) (c::r)=k at*
   refine⟨⟨i+k,n,by simp only[eF,Value.int.injEq,dM,kX];omega,by omega,rfl,?_,by omega⟩,?_⟩
   ·rw[<-hr,<-fV,hd'];simp only[fZ,kX];omega
   ·simp only[aW];omega
  rw[aE (by rw[hcm];decide)]at hr;refine Ap ?_;rw[bT];refine⟨λhcm2=>?_,λhcm2=>?_⟩
  ·rw[aJ hcm2]at hr;rw[gH,fI,eX];have h2:2<=(c::r).length:=GZ (p:=[47,42]) (s:=c::r) hcm2;simp only[aB]at h2;refine⟨by omega,by simp only[aB];omega,?_⟩;rw[bO];show aC P0 71 [str (r.drop 1),str [42,47]] w2 _;refine QU hT (by rw[aQ];omega) ?_;rw[eC,aO];refine⟨λhneg=>?_,λhpos=>?_⟩
   ·rw[aJ hneg]at hr;rw[<-hr,aV]at hK;exact hK
   ·rw[aE hpos]at hr;obtain⟨j,hj⟩:=Int.eq_ofNat_of_zero_le (show 0<=Lib.index (r.drop 1) [42,47]by omega);have hjl:=Hn _ _ hj;rw[aQ]at hjl;rw[hj]at hr⊢;rw[cC,cN (by omega) (by omega),cC,cN (by omega) (by omega)];rw[aW]at hr;refine⟨⟨i+(j+4),n,by simp only[eF,Value.int.injEq,dM,kX];omega,by omega,rfl,?_,by omega⟩,?_⟩
    ·rw[<-hr,<-fV,hd'];simp only[fZ,kX];omega
    ·simp only[aW];omega
  ·rw[aE (by rw[hcm2];decide),aV]at hr;rw[<-hr]at hK;exact hK
 ·obtain rfl:i=s.length:=by omega
  rw[dR]at hr;simp only[fQ,aV]at hr;rw[<-hr]at hK;exact hK
def pV(x:Nat×Int):List Value:=if x.2=0 then [i64 ((x.1+1:Nat):Int),i64 0]else [i64 0,i64 x.2]
def TxC(n:Nat):Prop:=∀(c:UInt8) (r:Str) (d:Nat) (w:World) (K:Q0),r.length<n->r.length<=1000000->d<=24->K (.tuple (pV (gG r d)).toArray) w->aC P0 76 [str (c::r),i64 (d:Nat)] w K
def InC(n:Nat):Prop:=∀(c:UInt8) (r:Str) (d:Nat) (w:World) (K:Q0),r.length<n->r.length<=1000000->d<=25->K (.tuple (pV (if 24<d then(0,7)else jW r d)).toArray) w->aC P0 108 [str (c::r),i64 (d:Nat)] w K
theorem nY{x:Nat×Int}:pV (mS i x)=if x.2=0 then [i64 ((i+x.1+1:Nat):Int),i64 0]else [i64 0,i64 x.2]:=by
 unfold pV mS;by_cases h:x.2=0
 ·simp only[h,gM];rw[show x.1+i+1=i+x.1+1 by omega]
 ·simp only[aE h]
theorem Sr(hi:InC n):TxC (n+1):=by
 intro c r d w K hn hl hd24 hK;refine aBD ?_;unfold W76;have hlen:(c::r).length=r.length+1:=rfl;generalize hR:pV (gG r d)=R0 at hK;have cond:∀{c:UInt8} (k:Nat),k<256->(((c.toNat:Nat):Int)=(k:Int)↔c=UInt8.ofNat k):=λ{c} k hk=>by
  have:=EV c k hk;rwa[decide_eq_decide]at this
 refine cZ.go (λst w'=>∃i:Nat,st=[i64 ((i+1:Nat):Int)]/\w'=w/\i<=r.length/\pV (mS i (gG (r.drop i) d))=R0) (λst _=>match st with|[.int _ i]=>r.length+1-i.toNat|_=>0) ⟨0,rfl,rfl,by omega,by rw[cV,nY,<-hR];unfold pV;rw[aV]⟩ ?_;rintro st g w2 ⟨i,rfl,rfl,hi',hr⟩;simp only[aG];rw[fX,eC,aO,hlen];refine⟨λhlt=>?_,λhge=>?_⟩
 ·have hlt:i<r.length:=by omega
  have hd:=iR hlt;rw[hd,pP]at hr;simp only[fO]at hr;have ix:∀{KK:Value->Prop},KK (cv r[i])->pI (str (c::r)) (i64 ((i+1:Nat):Int)) KK:=λh=>rH (s:=c::r) (i:=i+1) (by rw[hlen];omega) h;refine ix ?_;rw[bM,aO];refine⟨λe=>?_,λe=>?_⟩
  ·have e:r[i]=34:=(cond 34 (by omega)).1 e;rw[aJ e,nY,aJ rfl]at hr;rw[cC,upi (by omega)];rw[<-hr]at hK;exact hK
  have e:¬r[i]=34:=λh=>e ((cond 34 (by omega)).2 h);rw[aE e]at hr;refine ix ?_;rw[bM,aO];refine⟨λe=>?_,λe=>?_⟩
  ·have e:r[i]=10:=(cond 10 (by omega)).1 e;rw[aJ e,nY,aE (by simp)]at hr;rw[<-hr]at hK;exact hK
  have e:¬r[i]=10:=λh=>e ((cond 10 (by omega)).2 h);rw[aE e]at hr;refine ix ?_;rw[bM,aO];refine⟨λe=>?_,λe=>?_⟩
  ·have e:r[i]=92:=(cond 92 (by omega)).1 e;rw[aJ e]at hr;rw[cC,upi (by omega),fX,lF,hlen];simp only[lP];by_cases hend:r.length<=i+1
   ·have e0:r.drop (i+1)=[]:=fB hend;rw[e0]at hr;simp only at hr;rw[nY,aE (by simp)]at hr;rw[bI (by omega),kU,Ad];intro g2;rw[mJ,dY];rw[<-hr]at hK;exact hK
   ·have hlt2:i+1<r.length:=by omega
    have hd2:=iR hlt2;rw[hd2]at hr;simp only at hr;rw[cP (by omega),iL];refine GdW.look (!Lex.escOk r[i+1]) (λ_ J hJ=>?_) λg2=>?_
    ·rw[cC,upi (by omega)];refine rH (s:=c::r) (i:=i+2) (by rw[hlen];omega) ?_;refine DV ?_;rw[eC];have:=aEN r[i+1];rw[show(c::r)[i+2]=r[i+1]from rfl,this];exact hJ
    simp only[aG,aN,sL];rw[bT];refine⟨λhb=>?_,λhg=>?_⟩
    ·have hb:¬Lex.escOk r[i+1]=true:=by simpa using hb
     rw[aE hb,nY,aE (by simp)]at hr;rw[<-hr]at hK;exact hK
    ·have hg:Lex.escOk r[i+1]=true:=by simpa using hg
     rw[aJ hg,add_add]at hr;rw[cC,cN (by omega) (by omega)];refine⟨⟨i+2,by simp only[eF,Value.int.injEq,dM,kX];omega,trivial,by omega,hr⟩,?_⟩;simp only[aW];omega
  have e:¬r[i]=92:=λh=>e ((cond 92 (by omega)).2 h);rw[aE e]at hr;rw[gH,fI,eX];refine⟨by omega,by rw[hlen];omega,?_⟩;rw[bO,aW,cQ,hd];refine Ap ?_;rw[pre_eq,bT];refine⟨λe=>?_,λe=>?_⟩
  ·rw[aJ e]at hr;have h2:=GZ e;have hlt2:i+1<r.length:=by
    simp only[aB,aM,aQ]at h2;omega
   have hd2:=iR hlt2;rw[cC,upi (by omega),gH,fI,eX];refine⟨by omega,by rw[hlen];omega,?_⟩;rw[bO,aW,cQ,hd2,cC,upi (by omega)];have hdd:(r.drop (i+1)).drop 1=r.drop (i+2):=by rw[fV]
   rw[hdd]at hr;have hll:(r.drop (i+2)).length=r.length-(i+2):=aQ ..;refine hi _ _ (d+1) _ _ (by show(r.drop (i+2)).length<n;omega) (by show(r.drop (i+2)).length<=_;omega) (by omega) ?_;have hx':∃x:Nat×Int,x=(if 24<d+1 then((0:Nat),(7:Int))else jW (r.drop (i+2)) (d+1))/\pV (mS i (if x.2=0 then mS (x.1+2) (gG ((r.drop (i+2)).drop x.1) d)else(0,x.2)))=R0/\(x.2=0->x.1<=(r.drop (i+2)).length):=by
    refine⟨_,rfl,?_,?_⟩
    ·by_cases h:24<d+1
     ·rw[aJ h]at hr⊢;exact hr
     ·rw[aE h]at hr⊢;exact hr
    ·by_cases h:24<d+1
     ·rw[aJ h];intro h;exact absurd h (by simp)
     ·rw[aE h];intro h0;exact((jC _ (r.drop (i+2)) (aS _)).2 (d+1) _ (fU rfl h0)).1.2
   obtain⟨x,ex,hr,hxl⟩:=hx';rw[show r.drop (i+1+1)=r.drop (i+2)from rfl,<-ex];by_cases h0:x.2=0
   ·have eo:pV x=[i64 ((x.1+1:Nat):Int),i64 0]:=by unfold pV;rw[aJ h0]
    have hxl:=hxl h0;rw[aJ h0,add_add,fV]at hr;rw[eo,bK];refine⟨i64 ((x.1+1:Nat):Int),rfl,?_⟩;rw[bK];refine⟨i64 0,rfl,?_⟩;rw[fT,aO];refine⟨λh=>absurd rfl h,λ_=>?_⟩;rw[cC,cN (by omega) (by omega),cC,cN (by omega) (by omega)];refine⟨⟨i+(x.1+2),by simp only[eF,Value.int.injEq,dM,kX];omega,rfl,by omega,by rw[show i+(x.1+2)=i+2+x.1 by omega]at hr⊢;exact hr⟩,?_⟩;simp only[aW];omega
   ·have eo:pV x=[i64 0,i64 x.2]:=by unfold pV;rw[aE h0]
    rw[aE h0,nY,aE h0]at hr;rw[eo,bK];refine⟨i64 0,rfl,?_⟩;rw[bK];refine⟨i64 x.2,rfl,?_⟩;rw[fT,aO];refine⟨λ_=>by rw[<-hr]at hK;exact hK,λh=>absurd h0 h⟩
  ·rw[aE (by rw[e];decide),add_add]at hr;rw[cC,upi (by omega)];refine⟨⟨i+1,rfl,rfl,by omega,hr⟩,?_⟩;simp only[aW];omega
 ·obtain rfl:i=r.length:=by omega
  rw[dR,pO,nY,aE (by simp)]at hr;rw[<-hr]at hK;exact hK
theorem Vq(hi:InC n)(htx:TxC n):InC (n+1):=by
 intro c r d w K hn hl hd25 hK;refine XK ?_;unfold aEw;rw[mC,aO];refine⟨λh=>?_,λh=>?_⟩
 ·rw[aJ (by omega)]at hK;exact hK
 have hd24:d<=24:=by omega
 rw[aE (by omega)]at hK;have hlen:(c::r).length=r.length+1:=rfl;generalize hR:pV (jW r d)=R0 at hK;have cond:∀{c:UInt8} (k:Nat),k<256->(((c.toNat:Nat):Int)=(k:Int)↔c=UInt8.ofNat k):=λ{c} k hk=>by
  have:=EV c k hk;rwa[decide_eq_decide]at this
 refine cZ.go (λst w'=>∃i:Nat,st=[i64 ((i+1:Nat):Int)]/\w'=w/\i<=r.length/\pV (mS i (jW (r.drop i) d))=R0) (λst _=>match st with|[.int _ i]=>r.length+1-i.toNat|_=>0) ⟨0,rfl,rfl,by omega,by rw[cV,nY,<-hR];unfold pV;rw[aV]⟩ ?_;rintro st g w2 ⟨i,rfl,rfl,hi',hr⟩;simp only[aG];rw[fX,eC,aO,hlen];refine⟨λhlt=>?_,λhge=>?_⟩
 ·have hlt:i<r.length:=by omega
  have hd:=iR hlt;rw[hd,BD]at hr;simp only[fO]at hr;have hll:(r.drop (i+1)).length=r.length-(i+1):=aQ ..;refine bS.cut (λst w'=>w'=w2/\∃(k:Nat) (e:Int),st=[i64 (if e=0 then((k+1:Nat):Int)else 0),i64 e]/\(e=0->i+(k+1)<=r.length/\pV (mS (i+(k+1)) (jW (r.drop (i+(k+1))) d))=R0)/\(e≠0->[i64 0,i64 e]=R0)) ?_ ?_
  ·refine rH (s:=c::r) (i:=i+1) (by rw[hlen];omega) ?_;show aP .eql (cv r[i]) _ _;rw[bM,aO];refine⟨λe=>?_,λe=>?_⟩
   ·have e:r[i]=125:=(cond 125 (by omega)).1 e;rw[aJ e,nY,aJ rfl]at hr;rw[cC,upi (by omega)];rw[<-hr]at hK;exact hK
   have e:¬r[i]=125:=λh=>e ((cond 125 (by omega)).2 h);rw[aE e]at hr;rw[bM,aO];refine⟨λe=>?_,λe=>?_⟩
   ·have e:r[i]=10:=(cond 10 (by omega)).1 e;rw[aJ e,nY,aE (by simp)]at hr;rw[<-hr]at hK;exact hK
   have e:¬r[i]=10:=λh=>e ((cond 10 (by omega)).2 h);rw[aE e]at hr;have sub:∀(x:Nat×Int),pV (mS i (if x.2=0 then mS (x.1+1) (jW ((r.drop (i+1)).drop x.1) d)else(0,x.2)))=R0->(x.2=0->x.1<=(r.drop (i+1)).length)->dK 0 (.tuple (pV x).toArray) λt33=>dK 1 (.tuple (pV x).toArray) λt34=>(λ(st:List Value) (w':World)=>w'=w2/\∃(k:Nat) (e:Int),st=[i64 (if e=0 then((k+1:Nat):Int)else 0),i64 e]/\(e=0->i+(k+1)<=r.length/\pV (mS (i+(k+1)) (jW (r.drop (i+(k+1))) d))=R0)/\(e≠0->[i64 0,i64 e]=R0)) [t33,t34] w2:=λx hx hxl=>by
    by_cases h0:x.2=0
    ·have eo:pV x=[i64 ((x.1+1:Nat):Int),i64 0]:=by unfold pV;rw[aJ h0]
     have hxl:=hxl h0;rw[aJ h0,add_add,fV]at hx;rw[eo,bK];refine⟨i64 ((x.1+1:Nat):Int),rfl,?_⟩;rw[bK];refine⟨i64 0,rfl,rfl,x.1,0,by rw[aJ rfl],λ_=>⟨by omega,by rw[show i+(x.1+1)=i+1+x.1 by omega]at hx⊢;exact hx⟩,λh=>absurd rfl h⟩
    ·have eo:pV x=[i64 0,i64 x.2]:=by unfold pV;rw[aE h0]
     rw[aE h0,nY,aE h0]at hx;rw[eo,bK];refine⟨i64 0,rfl,?_⟩;rw[bK];exact⟨i64 x.2,rfl,rfl,0,x.2,by rw[aE h0],λh=>absurd h h0,λ_=>hx⟩
   rw[bM,aO];refine⟨λe=>?_,λe=>?_⟩
   ·have e:r[i]=123:=(cond 123 (by omega)).1 e;rw[aJ e]at hr;rw[gH,fI,eX];refine⟨by omega,by rw[hlen];omega,?_⟩;rw[bO,aW,cQ,hd,cC,upi (by omega)];refine hi _ _ (d+1) _ _ (by omega) (by omega) (by omega) ?_;refine sub _ ?_ ?_
    ·by_cases h:24<d+1
     ·rw[aJ h]at hr⊢;exact hr
     ·rw[aE h]at hr⊢;exact hr
    ·by_cases h:24<d+1
     ·rw[aJ h];intro h;exact absurd h (by simp)
     ·rw[aE h];intro h0;exact((jC _ (r.drop (i+1)) (aS _)).2 (d+1) _ (fU rfl h0)).1.2
   have e:¬r[i]=123:=λh=>e ((cond 123 (by omega)).2 h);rw[aE e]at hr;rw[bM,aO];refine⟨λe=>?_,λe=>?_⟩
   ·have e:r[i]=34:=(cond 34 (by omega)).1 e;rw[aJ e]at hr;rw[gH,fI,eX];refine⟨by omega,by rw[hlen];omega,?_⟩;rw[bO,aW,cQ,hd];refine htx _ _ d _ _ (by omega) (by omega) hd24 ?_;refine sub _ hr λh0=>?_;exact((jC _ (r.drop (i+1)) (aS _)).1 d _ (fU rfl h0)).2.2
   ·have e:¬r[i]=34:=λh=>e ((cond 34 (by omega)).2 h);rw[aE e,add_add]at hr;exact⟨rfl,0,0,rfl,λ_=>⟨by omega,hr⟩,λh=>absurd rfl h⟩
  rintro st g2 w3 ⟨rfl,k,e,rfl,h1,h2⟩;simp only[aG,dE];rw[fT,aO];refine⟨λhe=>by rw[<-h2 he]at hK;exact hK,λhe=>?_⟩;have he:e=0:=by
   by_cases h:e=0
   ·exact h
   ·exact absurd h he
  obtain⟨g1,g2⟩:=h1 he;rw[aJ he,cC,cN (by omega) (by omega)];refine⟨⟨i+(k+1),by simp only[eF,Value.int.injEq,dM,kX];omega,trivial,g1,g2⟩,?_⟩;simp only[aW];omega
 ·obtain rfl:i=r.length:=by omega
  rw[dR,DU,nY,aE (by simp)]at hr;rw[<-hr]at hK;exact hK
theorem LZ:∀n,TxC n/\InC n
 |0=>⟨λ_ _ _ _ _ h=>by omega,λ_ _ _ _ _ h=>by omega⟩
 |n+1=>⟨Sr (LZ n).2,Vq (LZ n).2 (LZ n).1⟩
theorem UZ{r:Str}{d:Nat}{K:Q0}(hl:r.length<=1000000)(hd:d<=24)(hK:K (.tuple (pV (gG r d)).toArray) w):aC P0 76 [str (c::r),i64 (d:Nat)] w K:=(LZ (r.length+1)).1 c r d w K (by omega) hl hd hK
end
theorem SK(c d:UInt8)(r:Str):[d].isPrefixOf (c::r)=(d==c):=by simp[List.isPrefixOf]
theorem NX(s:Str):Lib.index s [10]=if eK (λb=>b !=10) s<s.length then((eK (λb=>b !=10) s:Nat):Int)else-1:=by
 induction s with
 |nil=>rfl
 |cons c r ih=>
  simp only[Lib.index,SK];by_cases h:c=10
  ·subst h;rfl
  ·have h1:((10:UInt8)==c)=false:=by rw[beq_eq_false_iff_ne];exactλe=>h e.symm
   have h2:(c !=10)=true:=by simp[h]
   have e2:eK (λb=>b !=10) (c::r)=eK (λb=>b !=10) r+1:=by simp only[eK];rw[aJ h2]
   obtain⟨k,hk0⟩:∃k,k=eK (λb=>b !=10) r:=⟨_,rfl⟩;have ih':Lib.index r [10]=if k<r.length then(k:Int)else-1:=by rw[hk0];exact ih
   rw[h1,aE (by decide),ih',e2,<-hk0];simp only[aB];by_cases hk:k<r.length
   ·have e3:(if k<r.length then(k:Int)else-1)=k:=aJ hk;have e4:(if k+1<r.length+1 then((k+1:Nat):Int)else-1)=((k+1:Nat):Int):=aJ (by omega);rw[e3,e4,aE (by simp only[fO];omega)];rfl
   ·have e3:(if k<r.length then(k:Int)else-1)=-1:=aE hk;have e4:(if k+1<r.length+1 then((k+1:Nat):Int)else-1)=-1:=aE (by omega);rw[e3,e4];rfl
theorem VH(s:Str):(Lib.cut s [10]).1=s.take (eK (λb=>b !=10) s)/\(Lib.cut s [10]).2.2=decide (eK (λb=>b !=10) s<s.length):=by
 have hle:=qS (λb=>b !=10) s;unfold Lib.cut;rw[NX];by_cases h:eK (λb=>b !=10) s<s.length
 ·rw[aJ h,aJ (by omega),aW];exact⟨rfl,by simp[h]⟩
 ·rw[aE h,aE (by omega)];exact⟨by rw[dZ (by omega)],by simp[h]⟩
theorem OQ(l:Str):Lib.trimLeftS l [32,9]=l.drop (eK (λb=>b==32||b==9) l):=by
 unfold Lib.trimLeftS;induction l with
 |nil=>rfl
 |cons c r ih=>
  simp only[List.dropWhile_cons,eK];have e:([32,9]:Str).contains c=(c==32||c==9):=by simp[List.contains,List.elem];cases(c==32)<;>cases(c==9)<;>rfl
  rw[e];by_cases hb:(c==32||c==9)=true
  ·rw[aJ hb,aJ hb];exact ih
  ·rw[aE hb,aE hb];rfl
theorem Oc(a b:Str):kF (a++b)=kF a++kF b:=by
 induction a with
 |nil=>rfl
 |cons c r ih=>
  simp only[dA,kF]
  (repeat' split)<;>simp only[dA,ih]
theorem Lt{u:Str}(h:∀c∈u,128<=c.toNat):kF u=u:=by
 induction u with
 |nil=>rfl
 |cons c r ih=>
  have hc:=h c bD;have n:∀k:UInt8,k.toNat<128->(c==k)=false:=λk hk=>by
   rw[beq_eq_false_iff_ne];intro e;subst e;omega
  simp only[kF,n 92 (by decide),n 34 (by decide),n 36 (by decide),n 9 (by decide),n 13 (by decide),Bool.or_self,fH,kH,ih λx hx=>h x (aU _ hx)]
theorem uT{r:Str}(h:Utf (c::r))(hc:c.toNat<128):Utf r:=by
 generalize he:c::r=z at h;cases h with
 |nil=>cases he
 |@cons u r' hu hr=>
  rcases hu.cases with⟨x,rfl,_⟩|hh
  ·simp only[dA,fF,eF]at he;rw[he.2];exact hr
  ·cases u with
   |nil=>exact absurd rfl hu.1
   |cons y u'=>
    simp only[dA,eF]at he;have:=hh y bD;rw[<-he.1]at this;omega
theorem Nh{t:Str}(h:Utf t):∀{a b:Str} {c:UInt8},t=a++c::b->c.toNat<128->Utf a/\Utf (c::b):=by
 induction h with
 |nil=>intro a b c e;simp at e
 |@cons u r hu hr ih=>
  intro a b c e hc;by_cases hle:u.length<=a.length
  ·have h1:a=u++a.drop u.length:=by
    have:=congrArg (List.take u.length) e;rw[List.take_left,qE hle]at this;have h2:=kI u.length a;rw[<-this]at h2;exact h2.symm
   rw[h1,eV]at e;have e:=List.append_cancel_left e;obtain⟨i1,i2⟩:=ih e hc;rw[h1];exact⟨.cons hu i1,i2⟩
  ·have hmem:c∈u:=by
    have:(u++r)[a.length]?=some c:=by rw[e];simp
    rw[List.getElem?_append_left (by omega)]at this;exact bJ this
   rcases hu.cases with⟨x,rfl,_⟩|hh
   ·have ha:a=[]:=bG (by simp only[aB,aM]at hle;omega);subst ha;simp only[fF]at e;rw[<-e];exact⟨.nil,.cons hu hr⟩
   ·have:=hh c hmem;omega
theorem AA{t:Str}(h:Utf t){b:Str}(hd:t.drop i=c::b)(hc:c.toNat<128):Utf (t.take i)/\Utf (c::b):=
 Nh h (by rw[<-hd,kI]) hc
theorem OJ{s:Str}(h:Utf s):Utf (s.take (eK (λb=>b !=10) s))/\(eK (λb=>b !=10) s<s.length->Utf (s.drop (eK (λb=>b !=10) s+1))):=by
 have stop:∀s:Str,∀b,(s.drop (eK (λb=>b !=10) s)).head?=some b->b=10:=by
  intro s;induction s with
  |nil=>intro b hb;simp[eK]at hb
  |cons c r ih=>
   intro b hb;simp only[eK]at hb;by_cases hc:(c !=10)=true
   ·rw[aJ hc,cQ]at hb;exact ih b hb
   ·rw[aE hc]at hb;simp only[cV,List.head?_cons,bE]at hb;rw[<-hb];simpa using hc
 by_cases hk:eK (λb=>b !=10) s<s.length
 ·have hd:=iR hk;have h10:=stop s s[eK (λb=>b !=10) s] (by rw[hd];rfl);obtain⟨h1,h2⟩:=AA h hd (by rw[h10];decide);exact⟨h1,λ_=>uT h2 (by rw[h10];decide)⟩
 ·exact⟨by rw[dZ (by omega)];exact h,λe=>absurd e hk⟩
theorem yJ.ext(h:yJ w)(hx:Ext w w'):yJ w':=by
 obtain⟨m,h⟩:=h;refine⟨m,?_⟩;rw[cD]at h⊢;cases hh:w.heap[0]? with
 |none=>rw[hh]at h;cases h
 |some o=>rw[hx.at hh id];rw[hh]at h;exact h
section
variable [HX]
theorem Dz{l:Str}{K:Q0}(hK:K (.pointer (some ⟨w.heap.size,0,none⟩)) (w.alloc (.stringIter (ofL l) 0))):dF P0 (Instr.range 9 (str l)) w K:=by
 have hT:Tryz.prog.underlying 9=some .string:=by kernel_rfl
 have hr:(Instr.range 9 (str l)).run P0 w=.ok (.pointer (some ⟨w.heap.size,0,none⟩)) (w.alloc (.stringIter (ofL l) 0)):=by
  simp[Instr.range,run_bind,bH hT,run_pure,newObj,Sem.run]
 unfold dF;rw[hr];exact hK
theorem Qt{r:Nat}{o:Obj}(h:r<w.heap.size):Chg (· =r) w {w with heap:=w.heap.setIfInBounds r o}:=
 ⟨rfl,rfl,rfl,by simp,λk _ hk=>by
  show(w.heap.setIfInBounds r o)[k]?=_
  rw[Array.getElem?_setIfInBounds_ne (by omega)]⟩
theorem FK{r pos:Nat}{l:Str}{K:Q0}(hw:w.heap[r]?=some (.stringIter (ofL l) pos))
  (h0:l.length<=pos->K (.tuple #[.bool false]) w)
  (h1:pos<l.length->∀w',w'.heap[r]?=some (.stringIter (ofL l) (pos+(Utf8.decode (ofL l) pos).2))->Chg (· =r) w w'->w'.heap.size=w.heap.size->K (.tuple #[.bool true,i64 pos,.int .i32 (Utf8.decode (ofL l) pos).1]) w'):
  dF P0 (Instr.next (.pointer (some ⟨r,0,none⟩)) true T) w K:=by
 have hg:(getObj r).run P0 w=.ok (.stringIter (ofL l) pos) w:=by simp[getObj,Sem.run,hw]
 have hlt:r<w.heap.size:=(Array.getElem?_eq_some_iff.1 hw).1;unfold dF;simp only[Instr.next,run_bind,hg,fL];by_cases hp:pos<l.length
 ·have hset:(setObj r (.stringIter (ofL l) (pos+(Utf8.decode (ofL l) pos).2))).run P0 w=.ok () {w with heap:=w.heap.setIfInBounds r (.stringIter (ofL l) (pos+(Utf8.decode (ofL l) pos).2))}:=by simp[setObj,Sem.run,hw]
  rw[aJ hp];simp only[run_bind,hset,run_pure];exact h1 hp _ (by simp[hlt]) (Qt hlt) (by simp)
 ·rw[aE hp];simp only[run_pure];exact h0 (by omega)
theorem Pi{r:Str}{K:Q0}(hl:r.length<=1000000)(hK:K (str (vF (c::r))) w):aC P0 78 [str (c::r)] w K:=by
 refine aBB ?_;unfold W78;unfold vF at hK;refine bS.cut (λ_ w'=>w'=w/\xN.contains ((c::r).take 2)=false) ?_ ?_
 ·rw[fX,mC,aO];refine⟨λhlen=>?_,λhlen=>⟨rfl,?_⟩⟩
  ·rw[gH,eX];refine⟨by omega,by omega,?_⟩;rw[fI,cV];rw[show(c::r).take (Int.toNat 2)=(c::r).take 2 from rfl];generalize hx:(c::r).take 2=x at hK⊢;refine bS.cut (λst w'=>st=[.bool (xN.contains x)]/\w'=w) ?_ ?_
   ·unfold xN;simp only[List.contains_cons,List.contains_nil,Bool.or_false];have eqd:∀y:Str,decide (x=y)=(x==y):=λy=>by rw[lR];simp
    simp only[rR,eqd];generalize (x==[61,61])=a1;generalize (x==[33,61])=a2;generalize (x==[60,61])=a3;generalize (x==[62,61])=a4;generalize (x==[38,38])=a5;generalize (x==[124,124])=a6;cases a1<;>simp only[dY,cX,zR,mF,and_self];cases a2<;>simp only[dY,cX,zR,mF,and_self];cases a3<;>simp only[dY,cX,zR,mF,and_self];cases a4<;>simp only[dY,cX,zR,mF,and_self];cases a5<;>simp only[dY,cX,zR,mF,and_self]
   rintro st g w' ⟨rfl,rfl⟩;simp only[aG];rw[bT];refine⟨λhy=>?_,λhn=>⟨trivial,hn⟩⟩;rw[aJ hy]at hK;rw[gH,eX];refine⟨by omega,by omega,?_⟩;rw[fI,cV];show K (str ((c::r).take 2)) w';rw[hx];exact hK
  ·have:r=[]:=bG (by simp only[aB]at hlen;omega);subst this;simp[xN]
 rintro _ g w' ⟨rfl,hn⟩;rw[aE (by rw[hn];decide)]at hK;refine rH (s:=c::r) (i:=0) (by simp) ?_;show aC P0 68 [_,cv c] w' _;refine DV ?_;rw[lF,Zb,bT];have hK:K (str (if Bl.contains c=true then(c::r).take 1 else [])) w':=hK;refine⟨λhy=>?_,λhy=>?_⟩
 ·rw[aJ hy]at hK;rw[gH,eX];refine⟨by omega,by simp only[aB];omega,?_⟩;rw[fI,cV];exact hK
 ·rw[aE (by rw[hy];decide)]at hK;exact hK
theorem aA7{t:Str}{K:Q0}(hT:yJ w)(hl:t.length<=1000000)(hK:∀x w',Ext w w'->K (.tuple #[str (t.take (eK (λb=>b !=10) t)),x,.bool (decide (eK (λb=>b !=10) t<t.length))]) w'):aC P0 110 [str t,str [10]] w K:=by
 obtain⟨m,hm⟩:=hT;refine gX (args:=#[str t,str [10]]) Tryz.call110 ((Tryz.strings_Cut (ofL t) (ofL [10]) m w (by rw[fL];omega) hm).mono ?_);rintro e w' ⟨rfl,n,rfl⟩;obtain⟨h1,h2⟩:=VH t;rw[eO,eO];refine⟨_,rfl,?_⟩;rw[show(⟨(Lib.cut t [10]).1.toArray⟩:ByteArray)=ofL (t.take (eK (λb=>b !=10) t))from by rw[h1];rfl,h2];refine hK _ _ ?_;exact⟨rfl,rfl,rfl,aS _,λ_ _ _=>rfl⟩
theorem Ss{t:Str}{K:Q0}(hl:t.length<=1000000)(hK:∀w',Ext w w'->K (str (t.drop (eK (λb=>b==32||b==9) t))) w'):aC P0 111 [str t,str [32,9]] w K:=by
 refine gX (args:=#[str t,str [32,9]]) Tryz.call111 ((Tryz.strings_TrimLeft_laid (ofL t) (ofL [32,9]) w (by rw[fL];decide) (λj b hb=>?_)).mono ?_)
 ·rw[eO]at hb;have:=bJ hb;simp only[bQ,fD,qV]at this;rcases this with rfl|rfl<;>decide
 rintro e w' ⟨rfl,hb⟩;rw[eO,eO,OQ];exact⟨_,rfl,hK w' (Chg.of_below hb)⟩
end
theorem vS(s:Str):(kF s).length<=2*s.length:=by
 induction s with
 |nil=>simp[kF]
 |cons c r ih=>simp only[kF];(repeat' split)<;>simp only[aB]<;>omega
def mO(c:Nat):Str×Nat:=if c=92\/c=34\/c=36 then([92],c)else if c=9 then([92],116)else if c=13 then([92],114)else([],c)
theorem Oa(x:UInt8)(h:wrM x.toNat=[x]):kF [x]=(mO x.toNat).1++wrM (mO x.toNat).2:=by
 have e:∀k:UInt8,(x==k)=decide (x.toNat=k.toNat):=λk=>by
  rw[lR,fO,decide_eq_true_iff,jZ]
 simp only[kF,e];unfold mO;by_cases h1:x.toNat=92\/x.toNat=34\/x.toNat=36
 ·rw[aJ (by simp only[cM,decide_eq_true_iff];rcases h1 with h|h|h;exact .inl (.inl h);exact .inl (.inr h);exact .inr h),aJ h1];show _=[92]++wrM x.toNat;rw[h];rfl
 rw[aE (by simp only[cM,decide_eq_true_iff];rintro((h|h)|h);exact h1 (.inl h);exact h1 (.inr (.inl h));exact h1 (.inr (.inr h))),aE h1];by_cases h2:x.toNat=9
 ·rw[aJ (by simpa using h2),aJ h2];rfl
 rw[aE (by simpa using h2),aE h2];by_cases h3:x.toNat=13
 ·rw[aJ (by simpa using h3),aJ h3];rfl
 rw[aE (by simpa using h3),aE h3];exact h.symm
theorem Ls{c:Nat}(h:128<=c):mO c=([],c):=by
 unfold mO;rw[aE (by omega),aE (by omega),aE (by omega)]
theorem QW{c:Nat}(h:c<55296\/57343<c/\c<=1114111):(mO c).2<55296\/57343<(mO c).2/\(mO c).2<=1114111:=by
 unfold mO
 (repeat' split)<;>(dsimp only;omega)
theorem Ob(c:Nat):(mO c).1.length<=1:=by unfold mO;(repeat' split)<;>simp
def mN(l:Str)(at_:Nat)(x:Str×Nat×Int):Str×Nat×Int:=if x.2.2=0 then(l++x.1,x.2.1+at_,0)else([],0,x.2.2)
theorem NY(l m:Str)(a b:Nat)(x:Str×Nat×Int):mN l a (if x.2.2=0 then(m++x.1,x.2.1+b,0)else([],0,x.2.2))=mN (l++m) (a+b) x:=by
 unfold mN;by_cases h:x.2.2=0
 ·simp only[h,gM,eV];rw[show x.2.1+b+a=x.2.1+(a+b)by omega]
 ·simp only[aE h]
theorem FQ(n:Nat)(name s:Str):mA (n+1) name s=(if(s.take (eK (λb=>b !=10) s)).drop (eK (λb=>b==32||b==9) (s.take (eK (λb=>b !=10) s)))=name then([],eK (λb=>b !=10) s,0)else if s.length<=eK (λb=>b !=10) s then([],0,40)else
 (if(mA n name (s.drop (eK (λb=>b !=10) s+1))).2.2=0 then(kF (s.take (eK (λb=>b !=10) s))++[92,110]++(mA n name (s.drop (eK (λb=>b !=10) s+1))).1,(mA n name (s.drop (eK (λb=>b !=10) s+1))).2.1+(eK (λb=>b !=10) s+1),0)else([],0,(mA n name (s.drop (eK (λb=>b !=10) s+1))).2.2))):=rfl
section
variable [HX]
theorem NZ{s:Str}{K:Q0}(hT:yJ w)(hU:Utf s)(hl:s.length<=1000000)(h2:2<=s.length)
  (hK:∀w',Ext w w'->K (.tuple #[str (iI s).1,i64 ((iI s).2.1:Nat),i64 (iI s).2.2]) w'):aC P0 77 [str s] w K:=by
 refine aBC ?_;unfold W77;unfold iI at hK;dsimp only at hK;generalize hn:(if jH ((s.drop 2).headD 0)then eK jL (s.drop 2)else 0)=n at hK;have hnl:n+2<=s.length:=by
  have:=qS jL (s.drop 2);rw[aQ]at this;rw[<-hn];split<;>omega
 refine bS.cut (λst w'=>st=[i64 (n:Nat)]/\w'=w) ?_ ?_
 ·rw[fX,mC];refine GdW.look (jH ((s.drop 2).headD 0)) (λhg J hJ=>?_) λg=>?_
  ·rw[iD,decide_eq_true_iff]at hg;have hlt:2<s.length:=by omega
   refine rH (i:=2) hlt ?_;refine xU ?_;rw[iR hlt]at hJ;exact hJ
  ·simp only[aG,iD];rw[fC,bT];refine⟨λhy=>?_,λhno=>?_⟩
   ·rw[aL]at hy;rw[aJ hy.2]at hn;rw[gH,fI,eX];refine⟨by omega,by omega,?_⟩;rw[bO];show aC P0 69 [str (s.drop 2),_] w _;refine Mf (q:=jL) (by rw[aQ];omega) (λc {w K} h=>zL (US h)) ?_;rw[hn];exact⟨rfl,rfl⟩
   ·have:n=0:=by
     rw[<-hn];by_cases hlet:jH ((s.drop 2).headD 0)=true
     ·rw[hlet,kV,decide_eq_false_iff_not]at hno;rw[aJ hlet,List.drop_eq_nil_of_le (by omega)];rfl
     ·rw[aE hlet]
    rw[this];exact⟨rfl,trivial⟩
 rintro st g w' ⟨rfl,rfl⟩;simp only[aG];rw[cC,cN (by omega) (by omega)];rw[gH,eX,eX];refine⟨by omega,by omega,by omega,by omega,?_⟩;have hnm:(s.take (Int.toNat (2+(n:Nat)))).drop (Int.toNat 2)=(s.drop 2).take n:=by
  rw[show Int.toNat (2+(n:Nat))=2+n by omega,show Int.toNat 2=2 from rfl,List.drop_take];rw[show 2+n-2=n by omega]
 rw[hnm,cC,cN (by omega) (by omega),show(2+(n:Nat):Int)=((2+n:Nat):Int)by omega];generalize (s.drop 2).take n=nm at*
 rw[bM];simp only[lP];refine GdW.look (decide (s.length<=2+n)) (λ_ J hJ=>?_) λg1=>?_
 ·rw[fX,lF,show decide (((s.length:Nat):Int)<=((2+n:Nat):Int))=decide (s.length<=2+n)by rw[decide_eq_decide];omega];exact hJ
 simp only[aG];rw[fN];simp only[lP];refine GdW.look (decide ((s.drop (2+n)).head?≠some 10)) (λhg J hJ=>?_) λg2=>?_
 ·have hlt:2+n<s.length:=by
   simp only[dQ,kY,decide_eq_false_iff_not]at hg;omega
  refine rH hlt ?_;have e5:decide (((s[2+n].toNat:Nat):Int)=10)=(s[2+n]==10):=Aq 10 _;rw[fT];rw[iR hlt]at hJ;have:decide (((s[2+n].toNat:Nat):Int)≠10)=decide ((s[2+n]::s.drop (2+n+1)).head?≠some 10):=by
   have e6:∀(c:UInt8) (r:Str),(c==10)=decide ((c::r).head?=some 10):=λc r=>by rw[lR];simp
   rw[xC,e5,xC,e6 _ (s.drop (2+n+1))]
  rw[this];exact hJ
 simp only[aG];rw[fN,bT];refine⟨λhbad=>?_,λhok=>?_⟩
 ·have hb:n=0\/¬(s.drop (2+n)).head?=some 10:=by
   simp only[cM,decide_eq_true_iff]at hbad;rcases hbad with(h|h)|h
   ·exact .inl (by omega)
   ·right;rw[List.drop_eq_nil_of_le (by omega)];simp
   ·exact .inr h
  have hK:=hK w' (Chg.refl _ _);rcases hb with h|h
  ·rw[aJ h]at hK;exact hK
  ·rw[aE h]at hK;split at hK<;>exact hK
 simp only[kY,decide_eq_false_iff_not,bL,oG]at hok;obtain⟨⟨hn0,hlt⟩,h10⟩:=hok;have hlt:2+n<s.length:=by omega
 rw[aE (by omega),aJ h10]at hK;rw[cC,upi (by omega)];have hUs:Utf (s.drop (2+n+1)):=by
  have hd:=iR hlt;rw[hd]at h10;simp only[List.head?_cons,bE]at h10;exact uT (AA hU hd (by rw[h10];decide)).2 (by rw[h10];decide)
 generalize hR:mA (s.length+1) nm (s.drop (2+n+1))=X at hK;have hR2:mN [] (2+n+1) X=if X.2.2=0 then(X.1,X.2.1+(2+n+1),0)else([],0,X.2.2):=by unfold mN;rw[fF]
 rw[<-hR2]at hK;refine aBb (B:=w'.heap.size) (aS _) λb w1 hb h1 hx1=>?_;generalize hR0:mN [] (2+n+1) X=R0 at hK;refine cZ.go (λst w2=>∃(i m:Nat) (l:Str),st=[i64 (i:Nat)]/\i<=s.length/\Utf (s.drop i)/\Bld w2 w'.heap.size b l/\Ext w' w2/\l.length<=2*i/\mN l i (mA m nm (s.drop i))=R0/\s.length<m+i) (λst _=>match st with|[.int _ i]=>s.length+1-i.toNat|_=>0) ⟨2+n+1,s.length+1,[],rfl,by omega,hUs,h1,hx1,by simp,by rw[hR,hR0],by omega⟩ ?_;rintro st g3 w2 ⟨i,m,l,rfl,hi,hu,hB,hx,hll,hr,hm⟩;obtain⟨m,rfl⟩:∃k,m=k+1:=⟨m-1,by omega⟩;rw[FQ]at hr;simp only[aG];rw[gH,fI,eX];refine⟨by omega,by omega,?_⟩;rw[bO,aW];have hsl:(s.drop i).length=s.length-i:=aQ;refine aA7 (hT.ext hx) (by omega) λx w3 hx3=>?_;rw[bK];refine⟨_,rfl,?_⟩;rw[bK];refine⟨_,rfl,?_⟩;rw[bK];refine⟨_,rfl,?_⟩;obtain⟨ul,ur⟩:=OJ hu;have hkl:=qS (λb=>b !=10) (s.drop i);have htk:((s.drop i).take (eK (λb=>b !=10) (s.drop i))).length=eK (λb=>b !=10) (s.drop i):=by rw[bU];omega
 generalize eK (λb=>b !=10) (s.drop i)=k at*
 generalize hln:(s.drop i).take k=ln at*
 refine Ss (by omega) λw4 hx4=>?_;have hx':Ext w' w4:=(hx.trans hx3).trans hx4;have hB4:Bld w4 w'.heap.size b l:=(hB.ext hx3).ext hx4;rw[rR,aO];refine⟨λhy=>?_,λhno=>?_⟩
 ·rw[aJ hy]at hr;refine BU hB4 hx'.size λw5 hc5=>?_;rw[fX,cC,cN (by omega) (by omega)];have hfx:Ext w' w5:=hx'.then hc5 λk hk e=>by omega
  have hK:=hK w5 hfx;rw[<-hr]at hK;simp only[mN,gM,dV]at hK;rw[show(i:Int)+(ln.length:Nat)=((k+i:Nat):Int)by omega];exact hK
 rw[aE hno]at hr;rw[eM,bT];refine⟨λhend=>?_,λhmore=>?_⟩
 ·rw[aJ (by simpa using hend)]at hr;have hK:=hK w4 hx';rw[<-hr]at hK;exact hK
 have hk:k<(s.drop i).length:=by simpa using hmore
 rw[aE (by omega)]at hr;rw[NY]at hr;have hun:=ur hk;clear ur;have hlk:(s.drop i).length=s.length-i:=aQ;refine Dz ?_;have hz4:=hx'.size;have hbb:=hB4.lt;refine cZ.go (λst w5=>∃p,p<=ln.length/\st=[]/\Utf (ln.drop p)/\w5.heap[w4.heap.size]?=some (.stringIter (ofL ln) p)/\Bld w5 w'.heap.size b (l++kF (ln.take p))/\Ext w' w5)
  (λ_ w5=>match w5.heap[w4.heap.size]? with|some (.stringIter _ p)=>ln.length-p|_=>0)
  ⟨0,gA _,rfl,by rw[cV];exact ul,gQ _ _ _ rfl,by rw[EO];show Bld _ _ _ (l++[]);rw[dV];exact hB4.ext (Chg.alloc (Chg.refl _ _) _),hx'.trans (Chg.alloc (Chg.refl _ _) _)⟩ ?_
 rintro st g4 w5 ⟨p,hp,rfl,hup,hit,hB5,hx5⟩;have hz5:=hx5.size;have hl5:(l++kF (ln.take p)).length<=2*i+2*k:=by
  have:=vS (ln.take p);have:(ln.take p).length<=k:=by rw[bU];omega
  rw[aX];omega
 refine FK hit (λhpe=>?_) (λhpl w6 hit6 hc6 hz6=>?_)
 ·rw[bK];refine⟨.bool false,rfl,?_⟩;rw[cX];obtain rfl:p=ln.length:=by omega
  rw[bO]at hB5 hl5;refine Kt hB5 hz5 (by simp only[aB,aM];omega) λv w6 h6 hc6=>?_;have hx6:Ext w' w6:=BCh.new hx5 (aS _) (by omega) hc6;rw[fX,cC,cN (by omega) (by omega),cC,cN (by omega) (by omega)];have hgl:=vS ln;refine⟨⟨i+(k+1),m,l++kF ln++[92,110],by simp only[eF,Value.int.injEq,dM,kX];omega,by omega,?_,h6,hx6,?_,?_,by omega⟩,?_⟩
  ·rw[<-fV];exact hun
  ·simp only[aX,aB,aM];omega
  ·rw[<-hr,fV,eV]
  ·simp only[aW];omega
 ·have hne:ln.drop p≠[]:=λe=>by have:=dS.1 e;omega
  obtain⟨u,r,hru,hur,hdr⟩:∃u r,Rn u/\Utf r/\ln.drop p=u++r:=by
   cases hd:ln.drop p with
   |nil=>exact absurd hd hne
   |cons x y=>
    rw[hd]at hup;generalize he:x::y=z at hup;cases hup with
    |nil=>cases he
    |cons h1 h2=>exact⟨_,_,h1,h2,rfl⟩
  have hrm:iF ln p=u.length:=hru.at hdr;have huz:=hru.pos;obtain⟨c,hc⟩:=vH hpl (by omega);rw[hrm]at hc;have htk2:(ln.drop p).take u.length=u:=by rw[hdr,List.take_left]
  have hnext:ln.take (p+u.length)=ln.take p++u:=by rw[List.take_add,htk2]
  have hdr2:ln.drop (p+u.length)=r:=Rq hdr;have hdec:=hc.dec;have hct:=hc.top;have hcv:=hc.val;have hcu:wrM c=u:=by rw[<-Yz (by omega),hc.bytes,htk2]
  rw[hdec]at hit6;have hfit:=hc.fits;have hB6:Bld w6 w'.heap.size b (l++kF (ln.take p)):=hB5.chg hc6 (λe=>by have:=e;omega) λk hk e=>by
   obtain⟨_,c',hc'⟩:=hk;have e:k=w4.heap.size:=e;rw[e,hit]at hc';cases hc'
  have hx6:Ext w' w6:=hx5.then hc6 λk hk e=>by omega
  have hu2:kF u=(mO c).1++wrM (mO c).2:=by
   rcases hru.cases with⟨x,hx,hxl⟩|hh
   ·subst hx;have hcx:c=x.toNat:=by
     have:=(hc.low rfl).1;rw[this];have e:=nW hpl;rw[Go.Eng.byte_at (show ln.drop p=x::r from hdr)]at e;omega
    subst hcx;exact Oa x hcu
   ·have hc128:128<=c:=by
     have hb0:=sB (j:=0) hdr huz;have h128:=hh u[0] (uR ..);rw[eS,nW hpl]at hb0;by_cases h1:u.length=1
     ·have:=hc.low h1;omega
     ·exact(hc.high (by omega)).1
    rw[Ls hc128,Lt hh,hcu];rfl
  have hok:=QW (c:=c) (by omega);have hl1:=Ob c;rw[bK];refine⟨.bool true,rfl,?_⟩;rw[dY,bK];refine⟨.int .i32 (c:Int),by rw[hdec];rfl,?_⟩;refine bS.cut (λst w7=>st=[.int .i32 ((mO c).2:Nat)]/\Bld w7 w'.heap.size b (l++kF (ln.take p)++(mO c).1)/\w7.heap[w4.heap.size]?=some (.stringIter (ofL ln) (p+u.length))/\Ext w' w7) ?_ ?_
  ·have wr:∀(x:Nat) (w7:World),mO c=([92],x)->Bld w7 w'.heap.size b (l++kF (ln.take p)++[92])->Chg (BCh w6 w'.heap.size b) w6 w7->[Value.int .i32 (x:Int)]=[.int .i32 ((mO c).2:Nat)]/\Bld w7 w'.heap.size b (l++kF (ln.take p)++(mO c).1)/\w7.heap[w4.heap.size]?=some (.stringIter (ofL ln) (p+u.length))/\Ext w' w7:=by
    intro x w7 e h7 hc7;rw[e];exact⟨rfl,h7,BCh.iter hc7 hit6 (by omega),BCh.new hx6 (aS _) (by omega) hc7⟩
   refine bS.cut (λst w7=>st=[.bool (decide (c=92\/c=34\/c=36))]/\w7=w6) ?_ ?_
   ·rw[bM,aO];refine⟨λh=>?_,λh=>?_⟩
    ·rw[bI h,bI (.inl (by omega))];exact⟨rfl,rfl⟩
    rw[bM,aO];refine⟨λh'=>?_,λh'=>?_⟩
    ·rw[bI h',bI (.inr (.inl (by omega)))];exact⟨rfl,rfl⟩
    rw[bM];rw[show decide (((c:Nat):Int)=36)=decide (c=92\/c=34\/c=36)by rw[decide_eq_decide];omega];exact⟨rfl,rfl⟩
   rintro st g5 w7 ⟨rfl,rfl⟩;simp only[aG];rw[aO];refine⟨λh=>?_,λh=>?_⟩
   ·refine CG (n:=92) hB6 (by omega) (by omega) (by omega) λw8 h8 hc8=>?_;exact wr c w8 (by unfold mO;rw[aJ h]) h8 hc8
   rw[bM,aO];refine⟨λh'=>?_,λh'=>?_⟩
   ·refine CG (n:=92) hB6 (by omega) (by omega) (by omega) λw8 h8 hc8=>?_;exact wr 116 w8 (by unfold mO;rw[aE h,aJ (by omega)]) h8 hc8
   rw[bM,aO];refine⟨λh''=>?_,λh''=>?_⟩
   ·refine CG (n:=92) hB6 (by omega) (by omega) (by omega) λw8 h8 hc8=>?_;exact wr 114 w8 (by unfold mO;rw[aE h,aE (by omega),aJ (by omega)]) h8 hc8
   have e:mO c=([],c):=by unfold mO;rw[aE h,aE (by omega),aE (by omega)]
   rw[e,dV];exact⟨rfl,hB6,hit6,hx6⟩
  rintro st g5 w7 ⟨rfl,hB7,hit7,hx7⟩;simp only[aG];have hz7:=hx7.size;refine Sd hB7 hz7 (by rw[aX];omega) hok λv w8 h8 hc8=>?_;have hit8:=BCh.iter hc8 hit7 (by omega);refine⟨⟨p+u.length,hfit,trivial,by rw[hdr2];exact hur,hit8,?_,BCh.new hx7 (aS _) (by omega) hc8⟩,?_⟩
  ·rw[hnext,Oc,hu2,<-eV,<-eV];exact h8
  ·rw[hit8,hit];show ln.length-(p+u.length)<ln.length-p;omega
end
theorem Dc{r:Str}{d:Nat}(h:(gG r d).2=0):1<=(gG r d).1/\(gG r d).1<=r.length:=by
 exact((jC _ r (aS _)).1 d _ (fU rfl h)).2
theorem IS(c:UInt8)(r:Str):oW (c::r)=
 (if(c==10)=true then(⟨5,[10],0⟩,1,0)
 else if jH c=true then(⟨1,(c::r).take (eK jL (c::r)),0⟩,eK jL (c::r),if 32<eK jL (c::r)then 3 else 0)
 else if jB c=true then
  (⟨2,(c::r).take (eK jB (c::r)),0⟩,eK jB (c::r),if((eK jB (c::r)<(c::r).length&&jH (((c::r).drop (eK jB (c::r))).headD 0))||(c==48&&1<eK jB (c::r)))=true then 40 else if Num.goodN ((c::r).take (eK jB (c::r)))=true then 0 else 3)
 else if(c==34)=true then
  (if(oI ((c::r).length+1) r 0).2=0 then(⟨3,r.take ((oI ((c::r).length+1) r 0).1-1),0⟩,(oI ((c::r).length+1) r 0).1+1,0)else(⟨0,[],0⟩,0,(oI ((c::r).length+1) r 0).2))
 else if pH [60,60] (c::r)=true then(⟨3,(iI (c::r)).1,0⟩,(iI (c::r)).2.1,(iI (c::r)).2.2)
 else(⟨4,vF (c::r),0⟩,(vF (c::r)).length,if(vF (c::r)).length=0 then 40 else 0)):=rfl
section
variable [HX]
theorem aCU{r:Str}{K:Q0}(hT:yJ w)(hU:Utf (c::r))(hl:r.length<=100000)
  (hK:∀w',Ext w w'->K (.tuple #[.agg (fK (oW (c::r)).1).toArray,i64 ((oW (c::r)).2.1:Nat),i64 (oW (c::r)).2.2]) w'):aC P0 45 [str (c::r)] w K:=by
 refine aB0 ?_;unfold W45;have hlen:(c::r).length=r.length+1:=rfl;refine bF λa w1 ha hz1 hab1 hx1=>?_;refine bF λb w2 hb hz2 hbb2 hx2=>?_;have hx02:=hx1.trans hx2;have hab2:=hx2.at hab1 id;have cond:∀(k:Nat),k<256->(((c.toNat:Nat):Int)=(k:Int)↔c=UInt8.ofNat k):=λk hk=>by
  have:=EV c k hk;rwa[decide_eq_decide]at this
 generalize ho:oW (c::r)=o at hK;rw[IS]at ho;refine bS.cut (λst w'=>st=[i64 o.2.2,i64 (o.2.1:Nat)]/\Ext w w'/\w'.heap[a]?=some (.cells [i64 0,str [],i64 0].toArray TkT (0,0))/\w'.heap[b]?=some (.cells (fK o.1).toArray TkT (0,0))) ?_ ?_
 ·
  have put:∀{w3:World} {t:Tok} {old:List Value} {K':World->Prop},Ext w w3->w3.heap[a]?=some (.cells [i64 0,str [],i64 0].toArray TkT (0,0))->w3.heap[b]?=some (.cells old.toArray TkT (0,0))->old.length=3->
    (∀w4,Ext w w4->w4.heap[a]?=some (.cells [i64 0,str [],i64 0].toArray TkT (0,0))->w4.heap[b]?=some (.cells (fK t).toArray TkT (0,0))->K' w4)->stW 3 (.pointer (some ⟨b,0,none⟩)) (.agg (fK t).toArray) w3 K':=by
   intro w3 t old K' hx ha3 hb3 ho3 h;refine cG hb3 rfl ho3 rfl λw4 hz4 hb4 hc4=>?_;exact h w4 (hx.new hc4 (by omega)) (hc4.at ha3 (by omega)) hb4
  refine rH (i:=0) (by rw[hlen];omega) ?_;simp only[List.getElem_cons_zero];rw[bM,aO];refine⟨λe=>?_,λe=>?_⟩
  ·have e:c=10:=(cond 10 (by omega)).1 e;subst e;simp only[beq_self_eq_true,gM]at ho;subst ho;simp only[dD,eJ,aB,aM,aY,bB,Nat.reduceAdd,Nat.reduceLT,dM,aA];refine cG (l:=[i64 5,str [10],i64 0]) hab2 rfl rfl rfl λw3 hz3 hab3 hc3=>?_;refine bY hab3 rfl ?_;exact hK w3 (hx02.new hc3 (by omega))
  have e:¬(c==10)=true:=λh=>e ((cond 10 (by omega)).2 (by simpa using h));rw[aE e]at ho;refine xU ?_;rw[bT];refine⟨λhy=>?_,λhno=>?_⟩
  ·rw[aJ hy]at ho;refine Mf (q:=jL) (by rw[hlen];omega) (λc {w K} h=>zL (UT h)) ?_;have hle:=qS jL (c::r);rw[hlen]at hle;generalize eK jL (c::r)=n at*
   rw[gH,eX];refine⟨by omega,by rw[hlen];omega,?_⟩;rw[fI,cV,aW];simp only[dD,eJ,aB,aM,aY,bB,Nat.reduceAdd,Nat.reduceLT,dM,aA];refine put (t:=⟨1,(c::r).take n,0⟩) hx02 hab2 hbb2 rfl λw4 hx4 ha4 hb4=>?_;rw[mC,aO];subst ho;refine⟨λh=>?_,λh=>?_⟩
   ·exact⟨by rw[aJ (by omega)],hx4,ha4,hb4⟩
   ·exact⟨by rw[aE (by omega)],hx4,ha4,hb4⟩
  rw[aE (by rw[hno];decide)]at ho;refine CO ?_;rw[bT];refine⟨λhy=>?_,λhno=>?_⟩
  ·rw[aJ hy]at ho;refine Mf (q:=jB) (by rw[hlen];omega) (λc {w K} h=>zL (CO h)) ?_;have hle:=qS jB (c::r);rw[hlen]at hle;generalize eK jB (c::r)=n at*
   rw[gH,eX];refine⟨by omega,by rw[hlen];omega,?_⟩;rw[fI,cV,aW];simp only[dD,eJ,aB,aM,aY,bB,Nat.reduceAdd,Nat.reduceLT,dM,aA];refine put (t:=⟨2,(c::r).take n,0⟩) hx02 hab2 hbb2 rfl λw4 hx4 ha4 hb4=>?_;refine bS.cut (λst w'=>st=[.bool ((n<(c::r).length&&jH (((c::r).drop n).headD 0))||(c==48&&1<n))]/\w'=w4) ?_ ?_
   ·rw[fX,eC,show decide (((n:Nat):Int)<(((c::r).length:Nat):Int))=decide (n<(c::r).length)by rw[decide_eq_decide];omega];simp only[iD];refine GdW.look (jH (((c::r).drop n).headD 0)) (λhg J hJ=>?_) λg=>?_
    ·have hlt:n<(c::r).length:=by simpa using hg
     refine rH hlt ?_;refine xU ?_;rw[iR hlt]at hJ;exact hJ
    simp only[aG];rw[fC,bT];refine⟨λh=>by rw[h,zR];exact⟨rfl,trivial⟩,λh=>?_⟩;have e5:decide (((c.toNat:Nat):Int)=48)=(c==48):=Aq 48 c;rw[bM,e5];simp only[iD,mC,nX,aG];intro g2;rw[fC,h,mF];refine⟨?_,trivial⟩;rw[show decide ((1:Int)<((n:Nat):Int))=decide (1<n)by rw[decide_eq_decide];omega]
   rintro st g w5 ⟨rfl,rfl⟩;simp only[aG];rw[bT];refine⟨λh=>?_,λh=>?_⟩
   ·rw[aJ h]at ho;subst ho;exact⟨rfl,hx4,ha4,hb4⟩
   rw[aE (by rw[h];decide)]at ho;rw[bR,dX];refine⟨str ((c::r).take n),by rw[bZ,cD,hb4];rfl,?_⟩;refine mK (by have:((c::r).take n).length<=n:=(by rw[bU];omega);omega) λw6 hx6=>?_;rw[eM,bT];subst ho;refine⟨λh=>?_,λh=>?_⟩
   ·exact⟨by rw[aE (by simpa using h)],hx4.trans hx6,hx6.at ha4 id,hx6.at hb4 id⟩
   ·exact⟨by rw[aJ (by simpa using h)],hx4.trans hx6,hx6.at ha4 id,hx6.at hb4 id⟩
  rw[aE (by rw[hno];decide)]at ho;rw[bM,aO];refine⟨λe=>?_,λe=>?_⟩
  ·have e:c=34:=(cond 34 (by omega)).1 e;rw[aJ (by rw[e];rfl),tN (by omega)]at ho;refine UZ (d:=0) (by omega) (by omega) ?_;by_cases h0:(gG r 0).2=0
   ·rw[aJ h0]at ho;have hf:=Dc h0;unfold pV;rw[aJ h0,bK];refine⟨_,rfl,?_⟩;rw[bK];refine⟨_,rfl,?_⟩;rw[bM,aO];refine⟨λ_=>?_,λh=>absurd rfl h⟩;rw[mB,cN (by omega) (by omega),gH,eX,eX];refine⟨by omega,by rw[hlen];omega,by omega,by omega,?_⟩;have et:((c::r).take (Int.toNat (((gG r 0).1+1:Nat)-1))).drop (Int.toNat 1)=r.take ((gG r 0).1-1):=by
     rw[show Int.toNat ((((gG r 0).1+1:Nat):Int)-1)=((gG r 0).1-1)+1 by omega];rfl
    rw[et];simp only[dD,eJ,aB,aM,aY,bB,Nat.reduceAdd,Nat.reduceLT,dM,aA];refine put (t:=⟨3,r.take ((gG r 0).1-1),0⟩) hx02 hab2 hbb2 rfl λw4 hx4 ha4 hb4=>?_;subst ho;exact⟨rfl,hx4,ha4,hb4⟩
   ·rw[aE h0]at ho;unfold pV;rw[aE h0,bK];refine⟨_,rfl,?_⟩;rw[bK];refine⟨_,rfl,?_⟩;rw[bM,aO];refine⟨λh=>absurd h h0,λh=>?_⟩;subst ho;exact⟨rfl,hx02,hab2,hbb2⟩
  have e:¬(c==34)=true:=λh=>e ((cond 34 (by omega)).2 (by simpa using h));rw[aE e]at ho;refine Ap ?_;rw[bT];refine⟨λhy=>?_,λhno=>?_⟩
  ·rw[aJ (show pH [60,60] (c::r)=true from hy)]at ho;have h2:2<=(c::r).length:=GZ (p:=[60,60]) (s:=c::r) hy;rw[bR,bZ,aV];refine iU hbb2 rfl (by simp) λw3 hz3 hb3 hc3=>?_;have hx3:=hx02.new hc3 (by omega);have ha3:=hc3.at hab2 (by omega);refine NZ (hT.ext hx3) hU (by rw[hlen];omega) h2 λw4 hx4=>?_;rw[bK];refine⟨_,rfl,?_⟩;rw[bK];refine⟨_,rfl,?_⟩;rw[bK];refine⟨_,rfl,?_⟩;have hb4:=hx4.at hb3 id;rw[bR,bZ,aV];refine iU hb4 rfl (by simp) λw5 hz5 hb5 hc5=>?_;subst ho;exact⟨rfl,(hx3.trans hx4).new hc5 (by omega),hc5.at (hx4.at ha3 id) (by omega),by rw[hb5];simp[fK]⟩
  ·rw[aE (show¬pH [60,60] (c::r)=true from by rw[show pH [60,60] (c::r)=false from hno];decide)]at ho;refine Pi (by omega) ?_;simp only[dD,eJ,aB,aM,aY,bB,Nat.reduceAdd,Nat.reduceLT,dM,aA];refine put (t:=⟨4,vF (c::r),0⟩) hx02 hab2 hbb2 rfl λw4 hx4 ha4 hb4=>?_;rw[bR,dX];refine⟨str (vF (c::r)),by rw[bZ,cD,hb4];rfl,?_⟩;rw[fX,bM,aO];subst ho;refine⟨λh=>?_,λh=>?_⟩
   ·exact⟨by rw[aJ (by omega)],hx4,ha4,hb4⟩
   ·exact⟨by rw[aE (by omega)],hx4,ha4,hb4⟩
 rintro st g w3 ⟨rfl,hx3,ha3,hb3⟩;refine bY hb3 rfl ?_;refine cG (l:=fK o.1) ha3 rfl rfl rfl λw4 hz4 ha4 hc4=>?_;refine bY ha4 rfl ?_;exact hK w4 (hx3.new hc4 (by omega))
end
theorem OK{s:Str}{k:Nat}(h:Utf s)(hc:∀c,(s.drop k).head?=some c->c.toNat<128):Utf (s.drop k):=by
 cases hd:s.drop k with
 |nil=>exact .nil
 |cons c b=>exact(AA h hd (hc c (by rw[hd];rfl))).2
theorem Az{s:Str}{k:Nat}(h:Utf s)(hk:s[k]?=some c)(hc:c.toNat<128):Utf (s.drop (k+1)):=by
 obtain⟨hlt,e⟩:=List.getElem?_eq_some_iff.1 hk;have hd:=iR hlt;rw[e]at hd;exact uT (AA h hd hc).2 hc
theorem Dk(q:UInt8->Bool):∀(s:Str) (b:UInt8),(s.drop (eK q s)).head?=some b->q b=false
 |[],b,h=>by simp[eK]at h
 |c::r,b,h=>by
  simp only[eK]at h
  by_cases hc:q c=true
  ·rw[aJ hc,cQ]at h;exact Dk q r b h
  ·rw[aE hc]at h
   simp only[cV,List.head?_cons,bE]at h
   rw[<-h];simpa using hc
theorem Iz(q:UInt8->Bool):∀(s:Str) (k:Nat),eK q s=k+1->∃c,s[k]?=some c/\q c=true
 |[],k,h=>by simp[eK]at h
 |c::r,k,h=>by
  simp only[eK]at h
  by_cases hc:q c=true
  ·rw[aJ hc]at h
   cases k with
   |zero=>exact⟨c,rfl,hc⟩
   |succ k=>
    obtain⟨x,h1,h2⟩:=Iz q r k (by omega)
    exact⟨x,by simpa using h1,h2⟩
  ·rw[aE hc]at h;omega
theorem My:∀(s:Str) (i:Nat),Lib.index s [42,47]=(i:Int)->s[i+1]?=some 47
 |[],i,h=>by
  unfold Lib.index at h
  simp at h
 |b::l,i,h=>by
  unfold Lib.index at h
  split at h
  ·rename_i hp
   have hi:i=0:=by omega
   subst hi
   cases l with
   |nil=>simp[List.isPrefixOf]at hp
   |cons c l=>
    simp only[List.isPrefixOf,aL,fO,kV]at hp
    simp[hp.2]
  ·split at h
   ·omega
   ·rename_i hq
    have h1:Lib.index l [42,47]≠-1:=by simpa using hq
    have hg:=Lib.index_ge l [42,47]
    have:=My l (i-1) (by omega)
    have hi:1<=i:=by omega
    rw[show i-1+1=i by omega]at this
    simpa using this
theorem Ni{s:Str}(h:Utf s):Utf (s.drop (eK (λb=>b !=10) s)):=
 OK h λc hc=>by
  have:=Dk _ _ _ hc
  have:c=10:=by simpa using this
  subst this;decide
theorem AG:∀(n:Nat) (s:Str),Utf s->Utf (s.drop (fQ n s).1)
 |0,s,h=>by simpa[fQ]using h
 |n+1,[],h=>by simpa[fQ]using h
 |n+1,c::r,h=>by
  rw[Fb]
  split
  ·rename_i hb
   have hc:c.toNat<128:=by
    simp only[cM,fO]at hb;rcases hb with(rfl|rfl)|rfl<;>decide
   rw[cQ];exact AG n r (uT h hc)
  split
  ·have:=AG n _ (Ni h);rw[fV]at this;rw[uQ];exact this
  split
  ·rename_i hp;split
   ·simpa using h
   ·rename_i hn;obtain⟨j,hj⟩:=Int.eq_ofNat_of_zero_le (show 0<=Lib.index (r.drop 1) [42,47]by omega);have he:=My _ _ hj;have hu:Utf ((c::r).drop ((Lib.index (r.drop 1) [42,47]).toNat+4)):=by
     rw[hj,aW];refine Az (k:=j+3) (c:=47) h ?_ (by decide);rw[List.getElem?_drop]at he;rw[List.getElem?_cons_succ,<-he];congr 1;omega
    have:=AG n _ hu;rw[fV]at this;rw[uQ];exact this
  ·simpa using h
theorem DY:∀(n:Nat) (name s:Str) (c:UInt8),(mA n name s).2.2=0->(s.drop (mA n name s).2.1).head?=some c->c=10
 |0,_,_,_,h,_=>by simp[mA]at h
 |n+1,name,s,c,h,hc=>by
  rw[FQ]at h hc
  split at h
  ·rename_i h1
   rw[aJ h1]at hc
   have:=Dk _ _ _ hc
   simpa using this
  rename_i h1
  rw[aE h1]at hc
  split at h
  ·cases h
  rename_i h2
  rw[aE h2]at hc
  split at h
  ·rename_i h3
   rw[aJ h3]at hc
   refine DY n name _ c h3 ?_
   rw[fV]
   rw[show eK (λb=>b !=10) s+1+(mA n name (s.drop (eK (λb=>b !=10) s+1))).2.1=(mA n name (s.drop (eK (λb=>b !=10) s+1))).2.1+(eK (λb=>b !=10) s+1)by omega]
   exact hc
  ·rename_i h3;exact absurd h h3
theorem Ho{s:Str}(h:(iI s).2.2=0)(hc:(s.drop (iI s).2.1).head?=some c):c=10:=by
 unfold iI at h hc;simp only at h hc;generalize (if jH ((s.drop 2).headD 0)=true then eK jL (s.drop 2)else 0)=n at h hc;split at h
 ·cases h
 rename_i h1;rw[aE h1]at hc;split at h
 ·rename_i h2;rw[aJ h2]at hc;split at h
  ·rename_i h3;rw[aJ h3]at hc;refine DY _ _ _ c h3 ?_;rw[fV,uQ];exact hc
  ·rename_i h3;exact absurd h h3
 ·cases h
theorem Jc(h:jL c=true):c.toNat<128:=by
 have:∀m:Fin 256,jL (UInt8.ofNat m.val)=true->(UInt8.ofNat m.val).toNat<128:=by decide+kernel
 have h':=this ⟨c.toNat,pJ c⟩;rw[sC]at h';exact h' h
theorem Ot(h:jB c=true):c.toNat<128:=Jc (by unfold jL;rw[h];simp)
theorem Pj(h:Bl.contains c=true):c.toNat<128:=by
 have:∀m:Fin 256,Bl.contains (UInt8.ofNat m.val)=true->(UInt8.ofNat m.val).toNat<128:=by decide+kernel
 have h':=this ⟨c.toNat,pJ c⟩;rw[sC]at h';exact h' h
theorem Nv{x:Str}(h:xN.contains x=true):x.length=2/\∃c,x[1]?=some c/\c.toNat<128:=by
 have:x∈xN:=by simpa using h
 simp only[xN,bQ,fD,qV]at this;rcases this with rfl|rfl|rfl|rfl|rfl|rfl<;>exact⟨rfl,_,rfl,by decide⟩
theorem UJ{r:Str}(h:Utf (c::r))(h0:(oW (c::r)).2.2=0):Utf ((c::r).drop (oW (c::r)).2.1):=by
 have run:∀q:UInt8->Bool,(∀c,q c=true->c.toNat<128)->Utf ((c::r).drop (eK q (c::r))):=λq hq=>by
  cases hk:eK q (c::r)with
  |zero=>exact h
  |succ k=>
   obtain⟨x,h1,h2⟩:=Iz q _ _ hk;exact Az h h1 (hq x h2)
 rw[IS]at h0⊢;split
 ·rename_i e;have e:c=10:=by simpa using e
  exact uT h (by rw[e];decide)
 rename_i n1;rw[aE n1]at h0;split
 ·exact run _ λc=>Jc
 rename_i n2;rw[aE n2]at h0;split
 ·exact run _ λc=>Ot
 rename_i n3;rw[aE n3]at h0;split
 ·rename_i e;rw[aJ e]at h0;split
  ·rename_i h1;rw[tN (by simp only[aB];omega)]at h1⊢;have hf:=Dc h1;have he:=xJ _ r 0 _ (aS _) (fU rfl h1:gG r 0=((gG r 0).1,0));refine Az (c:=34) h ?_ (by decide);rw[show(gG r 0).1=(gG r 0).1-1+1 by omega,List.getElem?_cons_succ];exact he
  ·rename_i h1;rw[aE h1]at h0;exact absurd h0 h1
 rename_i n4;rw[aE n4]at h0;split
 ·rename_i h1;rw[aJ h1]at h0;exact OK h λx hx=>by rw[Ho h0 hx];decide
 rename_i n5;rw[aE n5]at h0;show Utf ((c::r).drop (vF (c::r)).length);unfold vF;split
 ·rename_i h1;obtain⟨e1,x,e2,e3⟩:=Nv h1;rw[e1];refine Az (k:=1) (c:=x) h ?_ e3;rw[<-e2,List.getElem?_take_of_lt (by omega)]
 split
 ·rename_i h1;exact uT h (Pj h1)
 ·exact h
theorem Kf{s:Str}:∀(n i:Nat),s.length<n+i->EI n s i=none->Utf (s.drop i)
 |0,i,hl,_=>by rw[fB (by omega)];exact .nil
 |n+1,i,hl,h=>by
  rw[EI]at h
  split at h
  ·rename_i hi;rw[fB hi];exact .nil
  split at h
  ·cases h
  ·rename_i hi h0
   have hs:uY s i=iF s i:=by unfold uY;omega
   rw[hs]at h
   have:=Utf.cons (Rn.of h0) (Kf n (i+iF s i) (by omega) h)
   rwa[<-gT,kI]at this
theorem RF{s:Str}(h:iF s i=0):Lib.hasPrefix (s.drop i) [239,191,189]=false:=by
 rw[Bool.eq_false_iff];intro hp;obtain⟨r,hr⟩:=EP.1 hp;have hn:Rn [239,191,189]:=⟨by decide,by decide⟩;have:=hn.at hr.symm;rw[h]at this;cases this
theorem Og{s:Str}(h:RU s i n 65533):Lib.hasPrefix (s.drop i) [239,191,189]=true:=by
 have hb:=h.bytes;refine EP.2 ?_;have e:Lib.encodeRune ((65533:Nat):Int)=[239,191,189]:=by decide
 rw[e]at hb;rw[hb];exact List.take_prefix _ _
end
end Go.Proofs.YtghhmpppnmoeoaaGreatDoor
