/- One plain sentence: contracts and plain laws that the claim rests on. Conditions: those that each states. -/
import Derived.Test.YtghhmpppnmoeoaaGreatDoorXNumbers4
import Derived.Test.YtghhmpppnmoeoaaGreatDoorXNumbers1
import Derived.Lib.ItoaNum
import Derived.Test.YtghhmpppnmoeoaaGreatDoorXNumbers2
import Derived.Test.YtghhmpppnmoeoaaGreatDoorXNumbers3
set_option linter.all false
set_option linter.unusedSimpArgs false
set_option linter.unusedVariables false
set_option linter.unusedSectionVars false
set_option maxRecDepth 100000
namespace Go.Proofs.YtghhmpppnmoeoaaGreatDoor
section
open Go Go.Eng Go.Num Go.RowKit Go.Syn
variable{w:World}{K:Q0}{cs:List Value}{G:Nat->Prop}{T:TypeId}{i:Nat}{n:Nat}{v:Value}{w':World}{P:Program}{c:UInt8}{S:Nat->Prop}
section
variable [HX]
theorem oQ{w0:World}{b:Nat}{ds:List Value}{k:Int}{s:Bool}{t:Str}{K:Q0}(hb:w.heap[b]?=some (.cells ds.toArray VT (0,0)))(hd:ds.length=5)(hl:w0.heap.size<=b)(hx:Ext w0 w)(ht:t.length<=9223372036854775807)
  (hK:∀w',Ext w0 w'->cL G w' (.mk k s t [] []) (flat k s t)->K (.agg (flat k s t).toArray) w'):stW 5 (.pointer (some ⟨b,0,none⟩)) (.agg (flat k s t).toArray) w λw5=>ldW true 5 (.pointer (some ⟨b,0,none⟩)) w5 λr6=>K r6 w5:=
 zW (G:=G) (v:=.mk k s t [] []) hb hd hl hx (gU ht) hK
theorem aAu{k:Int}{t:Str}{a:Int}{x y:JV}{va vk:Value}{ds:List Value}{w0:World}{K:Q0}(o1:gC va=true)(o2:gC vk=true)(hx:cL G w x cs)(hy:cL G w y ds)(h0:Ext w0 w)(hK:MdK w0 (GF (decide (k=27)) a x y) G w K):
  aC P0 99 [.agg [i64 k,str t,va,vk,i64 a].toArray,.agg cs.toArray,.agg ds.toArray] w K:=by
 refine aAB ?_;unfold W99;refine fU (z:=[i64 k,str t,va,vk,i64 a]) λb3 w1 hb3 hz1 hbb3 hx1=>?_;refine Bg (hx.ext' hx1) λb4 w2 sv kv hcs hb4 hz2 hbb4 hx2=>?_;subst hcs;refine Bg (hy.ext' (hx1.trans hx2)) λb5 w3 sv' kv' hds hb5 hz3 hbb5 hx3=>?_;subst hds;refine bE λb6 w4 hb6 hz4 hbb6 hx4=>?_;have hx04:=hx1.trans (hx2.trans (hx3.trans hx4));have hb34:=(hx2.trans (hx3.trans hx4)).at hbb3 id;have hb44:=(hx3.trans hx4).at hbb4 id;have hb54:=hx4.at hbb5 id;have hx':=hx.ext' hx04;have hy':=hy.ext' hx04;clear hx hy;refine bT.cut (λst w'=>Ext w4 w'/\gF 2 x=true/\gF 2 y=true) ?_ ?_
 ·refine bX hb44 rfl ?_;refine bX hb54 rfl ?_;refine HF hx'.rep hy'.rep λtt w6 hI6 hx6 _=>?_;refine Lz hI6 λw7 hx7=>?_;have e:[x,y].all (gF 2)=(gF 2 x&&gF 2 y):=by simp
  rw[e,eP,bR];refine⟨λh=>?_,λh=>?_⟩
  ·have hr:GF (decide (k=27)) a x y=.err 81 a:=by unfold GF;rw[aE (λe=>by rw[e]at h;cases h)]
   refine eC (off:=4) ((hx6.trans hx7).at hb34 id) rfl ?_;exact kM (h0.trans (hx04.trans (hx6.trans hx7))) (hK.err hr)
  ·have h:(gF 2 x&&gF 2 y)=true:=by cases hq:(gF 2 x&&gF 2 y)<;>simp[hq]at h⊢
   rw[aL]at h;exact⟨hx6.trans hx7,h.1,h.2⟩
 rintro st g w9 ⟨hx9,f1,f2⟩;have hm:GF (decide (k=27)) a x y=if(x.k≠1/\x.b=decide (k=27))\/(y.k≠1/\y.b=decide (k=27))then .ok (bV (decide (k=27)))else if x.k=1\/y.k=1 then .ok uV else .ok (bV (!decide (k=27))):=by
  unfold GF;rw[aI (by rw[f1,f2];rfl)]
 rw[hm]at hK;refine eC (off:=0) (hx9.at hb34 id) rfl ?_;rw[bM];generalize hor:decide (k=27)=or at*
 refine bX (hx9.at hb44 id) rfl ?_;refine bX (hx9.at hb54 id) rfl ?_;refine HF (hx'.ext' hx9).rep (hy'.ext' hx9).rep λtt w10 hI10 hx10 _=>?_;rw[hI10.len];have hx410:=hx9.trans hx10;have hx010:=hx04.trans hx410;refine cZ.go (λst w'=>∃i:Nat,st=[i64 (i:Nat)]/\i<=2/\Ext w10 w'/\∀j z,j<i->[x,y][j]?=some z->¬(z.k≠1/\z.b=or)) (λst _=>match st with|[.int _ i]=>2-i.toNat|_=>0) ⟨0,rfl,by omega,Chg.refl _ _,λj z hj=>by omega⟩ ?_;rintro st g2 w12 ⟨i,rfl,hi,hx12,hno⟩;simp only[aG];have hx412:=hx410.trans hx12;have hx012:=hx04.trans hx412;have hl6:=fC hbb6;have ends:∀{z:JV} {k':Int} {s:Bool} {w':World},z=.mk k' s [] [] []->Ext w12 w'->(if(x.k≠1/\x.b=or)\/(y.k≠1/\y.b=or)then MdR.ok (bV or)else if x.k=1\/y.k=1 then .ok uV else .ok (bV (!or)))=.ok z->
   stW 5 (.pointer (some ⟨b6,0,none⟩)) (.agg (flat k' s []).toArray) w' λw5=>ldW true 5 (.pointer (some ⟨b6,0,none⟩)) w5 λr6=>K r6 w5:=λ{z k' s w'} hz hxx hr=>by
  subst hz;have hx0':=hx012.trans hxx;refine oQ (G:=G) ((hx412.trans hxx).at hbb6 id) rfl (by omega) hx0' (by simp) λw'' hx'' h''=>hK.ok hr _ w'' hx'' h''
 rw[show([x,y].length:Nat)=2 from rfl,eG,aO];refine⟨λhlt=>?_,λhge=>?_⟩
 ·have hlt:i<2:=by omega
  obtain⟨z,hz⟩:∃z,[x,y][i]?=some z:=⟨_,List.getElem?_eq_getElem hlt⟩;refine(hI10.ext hx12).at hz λes hes=>?_;refine mG hes.len hes.all_one λb9 w14 hb9 hz14 hbb9 hx14=>?_;obtain⟨sv9,kv9,_,_,_,rfl,_⟩:=hes.out;refine bX hbb9 rfl ?_;refine uK (hes.ext hx14) λw15 hx15 _=>?_;rw[eP];have hb915:=hx15.at hbb9 id;refine GdW.look (decide (z.b=or)) (λ_ J hJ=>?_) λg3=>?_
  ·refine eC (off:=1) hb915 rfl ?_;have:∀K:Value->Prop,K (.bool (decide (z.b=or)))->eqW .bool false (.bool z.b) (.bool or) K:=λK h=>by
    cases hb:z.b<;>cases or<;>simp[hb]at h⊢<;>exact h
   exact this _ hJ
  simp only[aG,iG];rw[eX,bR];refine⟨λhyes=>?_,λhn=>?_⟩
  ·simp only[aL,dV,decide_eq_false_iff_not,bB]at hyes;refine oZ λw18 hx18=>?_;refine ends (z:=bV or) rfl (hx14.trans (hx15.trans hx18)) ?_;rw[aI]
   match i,hlt,hz with
   |0,_,hz=>cases hz;exact .inl hyes
   |1,_,hz=>cases hz;exact .inr hyes
  ·rw[cG,up1 (by omega)];refine⟨⟨i+1,rfl,hlt,hx12.trans (hx14.trans hx15),λj u hj hu=>?_⟩,by simp only[aW];omega⟩;by_cases hji:j<i
   ·exact hno j u hji hu
   ·obtain rfl:j=i:=by omega
    rw[hz]at hu;cases hu;rintro⟨h1,h2⟩;simp[h1,h2]at hn
 ·obtain rfl:i=2:=by omega
  have n1:=hno 0 x (by omega) rfl;have n2:=hno 1 y (by omega) rfl;refine bX (hx412.at hb44 id) rfl ?_;refine uK (hx'.ext' hx412).rep λw21 hx21 _=>?_;have hx421:=hx412.trans hx21;simp only[kX];refine GdW.act (decide (y.k=1)) (λw'=>Ext w21 w') (λ_=>Chg.refl _ _) (λ_ J hJ=>?_) λg3 w24 hx24=>?_
  ·refine bX (hx421.at hb54 id) rfl ?_;exact uK (hy'.ext' hx421).rep λw23 hx23 _=>hJ w23 hx23
  simp only[aG];rw[eZ,bR];refine⟨λhyes=>?_,λhn=>?_⟩
  ·simp only[cO,bB]at hyes;refine rH λw25 hx25=>?_;refine ends (z:=uV) rfl (hx21.trans (hx24.trans hx25)) ?_;rw[aE (λe=>e.elim n1 n2),aI hyes]
  ·simp only[jM,decide_eq_false_iff_not]at hn;rw[eP];refine oZ λw25 hx25=>?_;refine ends (z:=bV (!or)) rfl (hx21.trans (hx24.trans hx25)) ?_;rw[aE (λe=>e.elim n1 n2),aE (λe=>e.elim hn.1 hn.2)]
end
end
end Go.Proofs.YtghhmpppnmoeoaaGreatDoor
namespace Go.Num
section
open Go Go.Eng
variable{w:World}{K:Q0}{cs:List Value}{G:Nat->Prop}{T:TypeId}{i:Nat}{n:Nat}{v:Value}{w':World}{P:Program}{c:UInt8}{S:Nat->Prop}
theorem BV:∀(n u:Nat),u<n->(Lib.decDigits u).all isDig=true/\(Lib.decDigits u)≠[]/\((Lib.decDigits u).head?=some 48->u=0):=by
 intro n;induction n with
 |zero=>intro u h;omega
 |succ n ih=>
  intro u h;rw[Lib.decDigits];have hd:∀k,k<10->isDig (UInt8.ofNat (48+k))=true:=by
   intro k hk;have:∀k:Fin 10,isDig (UInt8.ofNat (48+k.val))=true:=by decide
   exact this ⟨k,hk⟩
  split
  ·rename_i h10;refine⟨by rw[gE,hd u h10];rfl,by simp,λe=>?_⟩;have:∀k:Fin 10,([UInt8.ofNat (48+k.val)].head?=some 48)->k.val=0:=by decide
   exact this ⟨u,h10⟩ e
  ·have hi:=ih (u/10) (by omega);refine⟨by rw[CM,hi.1,gE,hd (u%10) (by omega)];rfl,by simp,λe=>?_⟩;have e:(Lib.decDigits (u/10)).head?=some 48:=by
    cases hq:Lib.decDigits (u/10)with
    |nil=>exact absurd hq hi.2.1
    |cons x y=>rw[hq]at e;simpa using e
   have:=hi.2.2 e;omega
theorem HK:∀(n u:Nat),u<n->dec (Lib.decDigits u)=u:=by
 intro n;induction n with
 |zero=>intro u h;omega
 |succ n ih=>
  intro u h;have hv:∀k,k<10->dval (UInt8.ofNat (48+k))=k:=λk hk=>by
   have:∀k:Fin 10,dval (UInt8.ofNat (48+k.val))=k.val:=by decide
   exact this ⟨k,hk⟩
  rw[Lib.decDigits];split
  ·rename_i h10;show 0*10+dval (UInt8.ofNat (48+u))=u;rw[hv u h10];omega
  ·rw[wL,ih (u/10) (by omega)];simp only[List.length_singleton,dec,CK,List.foldl_nil,hv (u%10) (by omega)];omega
theorem xX:∀(k u:Nat),u<10^k->1<=k->(Lib.decDigits u).length<=k:=by
 intro k;induction k with
 |zero=>intro u _ h;omega
 |succ k ih=>
  intro u h _;rw[Lib.decDigits];split
  ·simp
  ·have:=ih (u/10) (by rw[qI]at h;omega) (by
    rcases mS k with rfl|h0
    ·simp at h;omega
    ·exact h0)
   rw[bG,List.length_singleton];omega
theorem aCu{s:Str}(h:s.all isDig=true)(h0:s.head?=some 48->s=[48])(hne:s≠[]):Lib.decDigits (dec s)=s:=by
 obtain⟨a1,a2,a3⟩:=BV _ (dec s) (eH _);refine MO a1 h (λe=>?_) h0 a2 hne (HK _ _ (eH _));have:=a3 e;rw[this,Lib.decDigits,dif_pos (by omega)];rfl
theorem MP:Lib.decDigits 0=[48]:=by rw[Lib.decDigits,dif_pos (by omega)];rfl
theorem Gw:∀n:Nat,dec (List.replicate n (48:UInt8))=0
 |0=>rfl
 |n+1=>by rw[vR,vN,Gw n];simp[dval]
def KX(x:Nat):Str:=List.replicate (9-(Lib.decDigits x).length) 48++Lib.decDigits x
theorem BB{x:Nat}(h:x<1000000000):(KX x).length=9/\dec (KX x)=x/\(KX x).all isDig=true:=by
 have hl:=xX 9 x h (by omega);obtain⟨a1,a2,a3⟩:=BV _ x (eH _);unfold KX;refine⟨by rw[bG,List.length_replicate];omega,?_,?_⟩
 ·rw[wL,Gw,HK _ x (eH _)];omega
 ·rw[CM,a1,kT,bW];intro c hc;obtain rfl:=List.eq_of_mem_replicate hc;decide
def lH:List Nat->Str
 |[]=>[]
 |x::r=>if r=[]then Lib.decDigits x else lH r++KX x
theorem Fq(x:Nat):lH [x]=Lib.decDigits x:=by simp[lH]
theorem Dp{x:Nat}{r:List Nat}(h:r≠[]):lH (x::r)=lH r++KX x:=by rw[lH,aE h]
theorem Do:∀{l:List Nat},Lim l->Top l->l≠[]->(lH l).all isDig=true/\dec (lH l)=val l/\lH l≠[]/\(lH l).head?≠some 48
 |[],_,_,h=>absurd rfl h
 |[x],hl,ht,_=>by
  have hx:x≠0:=by have:=ht (by simp);simpa using this
  obtain⟨a1,a2,a3⟩:=BV _ x (eH _)
  rw[Fq]
  exact⟨a1,by rw[HK _ x (eH _)];simp[val],a2,λe=>hx (a3 e)⟩
 |x::y::r,hl,ht,_=>by
  obtain⟨b1,b2,b3,b4⟩:=Do (l:=y::r) (λz hz=>hl z (aS _ hz)) (λh=>by have:=ht (by simp);simpa using this) (by simp)
  obtain⟨p1,p2,p3⟩:=BB (hl x (by simp))
  rw[Dp (by simp)]
  refine⟨by rw[CM,b1,p3];rfl,?_,by simp[b3],?_⟩
  ·rw[wL,p1,p2,b2]
   show _=x+1000000000*val (y::r)
   omega
  ·cases hq:lH (y::r)with
   |nil=>exact absurd hq b3
   |cons c d=>rw[hq]at b4;simpa using b4
theorem Ft{l:List Nat}(h:Lim l)(ht:Top l)(hne:l≠[]):lH l=Lib.decDigits (val l):=by
 obtain⟨a,b,c,d⟩:=Do h ht hne;rw[<-b,aCu a (λe=>absurd e d) c]
theorem Fs:∀(l:List Nat),Lim l->(lH l).length<=9*l.length
 |[],_=>by simp[lH]
 |x::r,hl=>by
  have hx:=hl x (by simp)
  unfold lH
  split
  ·have:=xX 9 x hx (by omega);simp only[aB];omega
  ·have:=Fs r λz hz=>hl z (aS _ hz)
   have:=(BB hx).1
   rw[bG,aB];omega
theorem ok_int{z:Big}(h:z.Ok):(z.l=[]/\z.int=0)\/(z.l≠[]/\z.int≠0/\val z.l≠0/\Lib.itoa z.int=(if z.below=true then [45]else [])++lH z.l):=by
 obtain⟨h1,h2,h3⟩:=h;by_cases he:z.l=[]
 ·exact .inl ⟨he,by unfold Big.int;rw[he];simp[val]⟩
 ·have hv:val z.l≠0:=λe=>he ((AC h2).1 e);refine .inr ⟨he,?_,hv,?_⟩
  ·unfold Big.int;split<;>omega
  ·rw[Ft h1 h2 he];unfold Lib.itoa Big.int;cases z.below with
   |true=>simp only[fY];rw[aI (by omega)];simp
   |false=>simp only[eU,jV];rw[aE (by omega)];simp
theorem vM(n:Int):dig (Lib.itoa n)=Lib.decDigits n.natAbs:=by
 unfold Lib.itoa;split
 ·simp[dig]
 ·rename_i h;have e:n.toNat=n.natAbs:=by omega
  rw[e];obtain⟨a1,a2,a3⟩:=BV _ n.natAbs (eH _);cases hq:Lib.decDigits n.natAbs with
  |nil=>exact absurd hq a2
  |cons c d=>
   have hc:c≠45:=by
    rintro rfl;rw[hq]at a1;simp[isDig]at a1
   simp[dig,hc]
theorem Qc(n:Int):neg (Lib.itoa n)=decide (n<0):=by
 unfold Lib.itoa;split
 ·rename_i h;simp[neg,h]
 ·rename_i h;obtain⟨a1,a2,a3⟩:=BV _ n.toNat (eH _);cases hq:Lib.decDigits n.toNat with
  |nil=>exact absurd hq a2
  |cons c d=>
   have hc:c≠45:=by
    rintro rfl;rw[hq]at a1;simp[isDig]at a1
   simp[neg,hc,h]
theorem iN(n:Int):num (Lib.itoa n)=n:=by
 unfold num;rw[vM,Qc,HK _ _ (eH _)];by_cases h:n<0
 ·simp[h];omega
 ·simp[h];omega
theorem sF{n:Int}(h:n.natAbs<10^100):goodN (Lib.itoa n)=true:=by
 obtain⟨a1,a2,a3⟩:=BV _ n.natAbs (eH _);have hl:=xX 100 n.natAbs h (by omega);have hp:=dM.2 a2;unfold goodN;rw[vM,a1,bF (by omega),bF hl];simp only[iJ,kT,cO,dV,bB,beq_eq_false_iff_ne,bN];by_cases h0:(Lib.decDigits n.natAbs).head?=some 48
 ·right;have:=a3 h0;have hn:n=0:=by omega
  subst hn;unfold Lib.itoa;rw[aE (by omega)];exact MP
 ·exact .inl h0
theorem BD{a:Str}(h:goodN a=true):(num a).natAbs<10^100:=by
 obtain⟨g1,g2,g3,g4⟩:=iZ h;have:=BU g4;have:=jK (n:=10) (by omega) g2;unfold num;split<;>omega
theorem NQ{a:Str}(h:goodN a=true):Lib.itoa (num a)=a:=Hp (sF (BD h)) h (iN _)
theorem RF(n:Nat):val (List.replicate n 0)=0:=by
 induction n with
 |zero=>rfl
 |succ n ih=>rw[vR,val,ih]
theorem LW:∀(l:List Nat) (i x:Nat),i<l.length->val (l.set i x)+l.getD i 0*1000000000^i=val l+x*1000000000^i
 |[],i,x,h=>by simp at h
 |a::l,0,x,_=>by simp[val];omega
 |a::l,i+1,x,h=>by
  have ih:=LW l i x (by simpa using h)
  simp only[aZ,val,dC,qI]
  have e1:l.getD i 0*(1000000000^i*1000000000)=1000000000*(l.getD i 0*1000000000^i):=by rw[<-Nat.mul_assoc,lZ 1000000000]
  have e2:x*(1000000000^i*1000000000)=1000000000*(x*1000000000^i):=by rw[<-Nat.mul_assoc,lZ 1000000000]
  rw[e1,e2]
  omega
theorem UP{l:List Nat}{x:Nat}(h:Lim l)(hx:x<1000000000):Lim (l.set i x):=λz hz=>by
 rcases List.mem_or_eq_of_mem_set hz with h1|rfl
 ·exact h z h1
 ·exact hx
theorem tU{l:List Nat}(h:i<l.length):val (l.take (i+1))=val (l.take i)+l.getD i 0*1000000000^i:=by
 rw[List.take_succ,List.getElem?_eq_getElem h,GW,cH,nO (by omega)];simp[val,List.getD_eq_getElem?_getD,List.getElem?_eq_getElem h,lZ]
def ofInt(n:Int)(z:Big):Prop:=z.Ok/\z.int=n
theorem Ai{x:Big}(h:Lim x.l):ofInt x.int x.trim:=⟨yI h,uL x⟩
theorem NH{x y:Big}{a b:Int}(hx:ofInt a x)(hy:ofInt b y):ofInt (a+b) (Dr x y):=by
 obtain⟨h1,h2⟩:=Ie hx.1 hy.1;exact⟨h2,by rw[h1,hx.2,hy.2]⟩
theorem KY{x:Big}{a:Int}(hx:ofInt a x):ofInt (-a) (zT x):=by
 obtain⟨h1,h2⟩:=Fo hx.1;exact⟨h2,by rw[h1,hx.2]⟩
theorem pS{a:Str}(h:goodN a=true):ofInt (num a) (gR a):=by
 obtain⟨h1,h2⟩:=yN h;exact⟨h2,h1⟩
theorem Vm{A q r y:Nat}(h:A=q*y+r)(hr:r<y):A/y=q/\A%y=r:=by
 have hy:0<y:=by omega
 refine⟨?_,?_⟩
 ·rw[h,lZ,Nat.mul_add_div hy,Nat.div_eq_of_lt hr,fL]
 ·rw[h,lZ,Nat.mul_add_mod,kI hr]
theorem yY{l:List Nat}(h:Lim l)(i:Nat):l.getD i 0<1000000000:=by
 rw[List.getD_eq_getElem?_getD];cases hq:l[i]? with
 |none=>simp
 |some z=>exact h z (bI hq)
structure LS(x y:List Nat)(i k:Nat)(out:List Nat)(carry:Nat):Prop where
 lim:Lim out
 len:out.length=x.length+y.length+1
 car:carry<1000000000
 eq:val out+carry*1000000000^(i+k)=val (x.take i)*val y+x.getD i 0*val (y.take k)*1000000000^i
def Bo(x y out:List Nat)(i k carry:Nat):Nat:=carry+out.getD (i+k) 0+(if k<y.length then x.getD i 0*y.getD k 0 else 0)
section
variable{x y out:List Nat}{i k carry:Nat}
theorem Yn(h:LS x y i k out carry)(hi:i<x.length)(hx:Lim x)(hy:Lim y)(hk:k<y.length\/0<carry):i+k<out.length:=by
 rw[h.len];by_cases hm:k<y.length
 ·omega
 have hc:0<carry:=by omega
 have e:=h.eq;rw[fM (l:=y) (by omega)]at e;have e2:=tU (l:=x) (i:=i) hi;have e3:val (x.take (i+1))*val y=val (x.take i)*val y+x.getD i 0*val y*1000000000^i:=by rw[e2,mA,Nat.mul_right_comm]
 have b1:val (x.take (i+1))<1000000000^(i+1):=by
  have:=GU (l:=x.take (i+1)) (λz hz=>hx z (List.mem_of_mem_take hz));rwa[cH,nO (by omega)]at this
 have b2:=GU hy;have b3:val (x.take (i+1))*val y<1000000000^(i+1+y.length):=by
  rw[Nat.pow_add];exact Fb (gG _ (Nat.le_of_lt b1)) (Nat.mul_lt_mul_of_pos_left b2 (Nat.pow_pos (by omega)))
 have b4:1000000000^(i+k)<=carry*1000000000^(i+k):=Nat.le_mul_of_pos_left _ hc;have b5:1000000000^(i+k)<1000000000^(i+1+y.length):=by omega
 have:=(Nat.pow_lt_pow_iff_right (by omega)).1 b5;omega
theorem OR(h:LS x y i k out carry)(hx:Lim x)(hy:Lim y):Bo x y out i k carry<1000000000*1000000000:=by
 have h1:=h.car;have h2:=yY h.lim (i+k);have h3:x.getD i 0*y.getD k 0<=999999999*999999999:=mR (by have:=yY hx i;omega) (by have:=yY hy k;omega);unfold Bo;split<;>omega
theorem OQ(h:LS x y i k out carry)(hx:Lim x)(hy:Lim y)(hp:i+k<out.length):LS x y i (k+1) (out.set (i+k) (Bo x y out i k carry%1000000000)) (Bo x y out i k carry/1000000000):=by
 have hlt:=OR h hx hy;refine⟨UP h.lim (Nat.mod_lt _ (by omega)),by rw[List.length_set];exact h.len,Nat.div_lt_of_lt_mul hlt,?_⟩;have vs:=LW out (i+k) (Bo x y out i k carry%1000000000) hp;have e:=h.eq;have dm:=Nat.div_add_mod (Bo x y out i k carry) 1000000000;have t2:Bo x y out i k carry*1000000000^(i+k)=carry*1000000000^(i+k)+out.getD (i+k) 0*1000000000^(i+k)+(if k<y.length then x.getD i 0*y.getD k 0 else 0)*1000000000^(i+k):=by
  unfold Bo;rw[mA,mA]
 have t3:x.getD i 0*val (y.take (k+1))*1000000000^i=x.getD i 0*val (y.take k)*1000000000^i+(if k<y.length then x.getD i 0*y.getD k 0 else 0)*1000000000^(i+k):=by
  by_cases hk:k<y.length
  ·rw[aI hk,tU hk,sV,mA,Nat.pow_add];congr 1
   ac_rfl
  ·rw[aE hk,fM (by omega),fM (by omega)];omega
 generalize Bo x y out i k carry=c at*
 have t1:c/1000000000*1000000000^(i+(k+1))+c%1000000000*1000000000^(i+k)=c*1000000000^(i+k):=by
  have q:c*1000000000^(i+k)=(1000000000*(c/1000000000)+c%1000000000)*1000000000^(i+k):=by rw[dm]
  rw[q,mA,show i+(k+1)=i+k+1 by omega,qI];congr 1
  ac_rfl
 omega
theorem RQ(h:LS x y i k out 0)(hi:i<x.length)(hk:¬k<y.length):val out=val (x.take (i+1))*val y:=by
 have e:=h.eq;rw[fM (l:=y) (by omega)]at e;rw[tU hi,mA,Nat.mul_right_comm];omega
theorem Nl(hl:Lim out)(hn:out.length=x.length+y.length+1)(h:val out=val (x.take i)*val y):LS x y i 0 out 0:=
 ⟨hl,hn,by omega,by rw[h];simp[val]⟩
end
theorem IN{x y:Big}{a b:Int}{out:List Nat}(hx:ofInt a x)(hy:ofInt b y)(hl:Lim out)(h:val out=val x.l*val y.l):ofInt (a*b) (⟨x.below^^y.below,out⟩:Big).trim:=by
 have:=Ai (x:=⟨x.below^^y.below,out⟩) hl;have e:(⟨x.below^^y.below,out⟩:Big).int=a*b:=by
  obtain⟨_,rfl⟩:=hx;obtain⟨_,rfl⟩:=hy;unfold Big.int;simp only[h];cases x.below<;>cases y.below<;>simp[Int.natCast_mul,Int.neg_mul,Int.mul_neg]
 rwa[e]at this
theorem BC{z:Big}(h:ofInt n z):z.below=false/\val z.l=n:=by
 obtain⟨⟨h1,h2,h3⟩,h4⟩:=h;unfold Big.int at h4;cases hb:z.below with
 |false=>rw[hb]at h4;simp only[eU,jV]at h4;exact⟨rfl,by omega⟩
 |true=>
  rw[hb]at h4;simp only[fY]at h4;have hne:z.l≠[]:=λe=>by have:=h3 e;rw[hb]at this;cases this
  have hv:val z.l≠0:=λe=>hne ((AC h2).1 e);omega
theorem IP{l:List Nat}(h:Lim l):ofInt (val l:Nat) (⟨false,l⟩:Big).trim:=by
 have:=Ai (x:=⟨false,l⟩) h;exact this
theorem No{a b:Str}(ha:goodN a=true)(hb:goodN b=true):(num a).tdiv (num b)=(if(neg a^^neg b)=true then-(((dec (dig a))/(dec (dig b)):Nat):Int)else(((dec (dig a))/(dec (dig b)):Nat):Int))/\
  (num a).tmod (num b)=(if neg a=true then-(((dec (dig a))%(dec (dig b)):Nat):Int)else(((dec (dig a))%(dec (dig b)):Nat):Int)):=by
 unfold num;cases neg a<;>cases neg b<;>simp[Int.neg_tdiv,Int.tdiv_neg,Int.neg_tmod,Int.tmod_neg,Int.ofNat_tdiv]<;>exact Ff (Int.natCast_nonneg _)
end
end Go.Num
namespace Go.Proofs.YtghhmpppnmoeoaaGreatDoor
section
open Go Go.Eng Go.Num Go.RowKit
variable{w:World}{K:Q0}{cs:List Value}{G:Nat->Prop}{T:TypeId}{i:Nat}{n:Nat}{v:Value}{w':World}{P:Program}{c:UInt8}{S:Nat->Prop}
def CB(l:List Nat):List Value:=l.map u64
theorem CE{b:Nat}{c:List Value}{off:Nat}{K:Value->Prop}(hw:w.heap[b]?=some (.cells c.toArray T (0,0)))(hv:c[off]?=some v)(hk:K v):aX off (.pointer (some ⟨b,0,none⟩)) λt=>ldW false 1 t w K:=by
 rw[bS,dY];refine⟨v,?_,hk⟩;rw[bZ,cJ,hw,cP,aY,List.getElem?_toArray];exact hv
theorem Yu{b:Nat}(h:w.heap[b]?=some (.cells cs.toArray T (0,0)))(hn:cs.length=n):SlAt w T (.slice (some ⟨b,0,none⟩) n n) n cs:=
 ⟨some ⟨b,0,none⟩,n,rfl,aU _,λe=>(by cases e),λ_=>⟨b,0,cs.toArray,_,rfl,h,λj _=>by simp⟩⟩
section
variable [HX]
theorem ZT{K:Q0}(hm:n<=1000000)(hK:∀a w',a=w.heap.size->w'.heap.size=w.heap.size+1->w'.heap[a]?=some (.cells (CB (List.replicate n 0)).toArray U64 (0,0))->Ext w w'->K (.slice (some ⟨a,0,none⟩) n n) w'):
  eA P0 (Instr.makeSlice 196 (i64 (n:Nat)) (i64 (n:Nat))) w K:=by
 have hinf:((Tryz.prog.info? U64).bind (·.zero))=some (u64 0):=by kernel_rfl
 obtain⟨i,z,hi,hz,hsz,hbytes,hzs⟩:=QM.get;have hz0:z=u64 0:=by
  rw[hi]at hinf;simp only[Option.bind_some]at hinf;rw[hz]at hinf;exact fI hinf
 subst hz0;unfold eA;have hr:=run_makeSlice (P:=P0) (w:=w) 196 U64 i _ (by kernel_rfl) hi hz .i64 .i64 n n (by omega) (by omega) (by rw[hsz];omega) (by rw[hbytes];omega) (by omega);rw[hr,hsz];simp only[aW,Nat.mul_one];have hc:madeCells (Value.cells (u64 0)) n=(CB (List.replicate n 0)).toArray:=by
  apply Array.ext_getElem?;intro j;simp only[madeCells,Array.getElem?_map,List.getElem?_toArray,CB];by_cases hj:j<n
  ·rw[Array.getElem?_eq_getElem (by simpa using hj)];simp[Value.cells,hj,Nat.mod_one]
  ·rw[Array.getElem?_eq_none (by simp;omega)];simp[hj]
 rw[hc];exact hK _ _ rfl (Array.size_push ..) (gT _ _ _ rfl) (Chg.alloc (Chg.refl _ _) _)
theorem Sf{b:Nat}{l:List Nat}{K:Value->Prop}(hb:w.heap[b]?=some (.cells (CB l).toArray U64 (0,0)))(hn:l.length=n)(hi:i<n)(hK:K (u64 (l.getD i 0))):dG none 1 (.slice (some ⟨b,0,none⟩) n n) (i64 (i:Nat)) λt=>ldW false 1 t w K:=by
 rw[rQ];refine⟨by omega,by omega,?_⟩;rw[dY];refine⟨u64 (l.getD i 0),?_,hK⟩;rw[bZ,cJ,hb,cP,List.getElem?_toArray];simp only[aW,Nat.mul_one,aY,CB];rw[List.getElem?_map,List.getElem?_eq_getElem (by omega),List.getD_eq_getElem?_getD,List.getElem?_eq_getElem (by omega)];rfl
theorem PZ{b x:Nat}{l:List Nat}{K:World->Prop}(hb:w.heap[b]?=some (.cells (CB l).toArray U64 (0,0)))(hn:l.length=n)(hi:i<n)(hK:∀w',w'.heap.size=w.heap.size->w'.heap[b]?=some (.cells (CB (l.set i x)).toArray U64 (0,0))->Chg (λk=>k=b) w w'->K w'):dG none 1 (.slice (some ⟨b,0,none⟩) n n) (i64 (i:Nat)) λt=>stW 1 t (u64 x) w K:=by
 rw[rQ];refine⟨by omega,by omega,?_⟩;rw[bZ];simp only[aW,Nat.mul_one,aY];refine jD hb rfl (by simp[CB];omega) λw' hz hb' hc=>hK w' hz ?_ hc;rw[hb'];congr 2;apply Array.ext_getElem?;intro j;simp only[CB,List.setIfInBounds_toArray,List.getElem?_toArray,List.map_set]
theorem ON(h:n<18446744073709551616):IntKind.u64.wrap (n:Int)=(n:Int):=oO (by omega) (by omega)
theorem Fp{x y:Big}{a b:Int}{ds:List Value}{K:Q0}(h:iW w x cs)(h':iW w y ds)(hx:ofInt a x)(hy:ofInt b y)(hfew:x.l.length+y.l.length+1<=1000)
  (hK:∀z cs' w',Ext w w'->iW w' z cs'->ofInt (a*b) z->z.l.length<=x.l.length+y.l.length+1->K (.agg cs'.toArray) w'):aC P0 196 [.agg cs.toArray,.agg ds.toArray] w K:=by
 refine Wr ?_;unfold aDe;refine pC h λp w1 sv hB hx1 hp hz1=>?_;refine pC (h'.ext hx1) λq w2 sv' hC hx2 hq hz2=>?_;refine bE λc w3 hc hz3 hbc hx3=>?_;have hB3:=hB.ext (hx2.trans hx3);have hC3:=hC.ext hx3;have hx03:=hx1.trans (hx2.trans hx3);have hn:=hB.few;have hm:=hC.few;refine CE (off:=1) hB3.hb rfl ?_;rw[hB3.len];refine CE (off:=1) hC3.hb rfl ?_;rw[hC3.len,cG,cQ (by omega) (by omega),cG,cQ (by omega) (by omega)];rw[show((x.l.length:Int)+(y.l.length:Int)+1)=((x.l.length+y.l.length+1:Nat):Int)by omega];refine ZT (by omega) λo w4 ho hz4 hbo hx4=>?_;have hB4:=hB3.ext hx4;refine CE (off:=1) hB4.hb rfl ?_;rw[hB4.len];have hlx:Lim x.l:=hB.lim;have hly:Lim y.l:=hC.lim;have hl3:=fC hbc;have hne:∀{k:Nat} {o':Obj},w3.heap[k]?=some o'->k≠o:=λhk e=>by have:=fC hk;omega
 have s0:=hx03.size;refine cZ.go (λst w'=>∃(i:Nat) (out:List Nat),st=[i64 (i:Nat)]/\i<=x.l.length/\Chg (λk=>k=o) w4 w'/\w'.heap[o]?=some (.cells (CB out).toArray U64 (0,0))/\Lim out/\out.length=x.l.length+y.l.length+1/\val out=val (x.l.take i)*val y.l)
  (λst _=>match st with|[.int _ i]=>x.l.length-i.toNat|_=>0)
  ⟨0,List.replicate (x.l.length+y.l.length+1) 0,rfl,gQ _,Chg.refl _ _,hbo,λz hz=>by have:=List.eq_of_mem_replicate hz;omega,by simp,by rw[RF];simp[val]⟩ ?_
 rintro st g w6 ⟨i,out,rfl,hi,hc6,hb6,hL,hlen,hv⟩;simp only[aG];have hx36:Ext w3 w6:=hx4.then hc6 λk hk e=>by have e:k=o:=e;omega
 have hB6:=hB3.ext hx36;have hC6:=hC3.ext hx36;rw[eG,aO];refine⟨λhlt=>?_,λhge=>?_⟩
 ·have hlt:i<x.l.length:=by omega
  obtain⟨n,hn'⟩:∃n,x.l[i]?=some n:=⟨_,List.getElem?_eq_getElem hlt⟩;have hgn:x.l.getD i 0=n:=by rw[List.getD_eq_getElem?_getD,hn'];rfl
  refine hB6.at hn' ?_;refine cZ.go (λst w'=>∃(k carry:Nat) (out:List Nat),st=[u64 carry,i64 (k:Nat)]/\Chg (λk=>k=o) w4 w'/\w'.heap[o]?=some (.cells (CB out).toArray U64 (0,0))/\LS x.l y.l i k out carry/\k<=2000)
   (λst _=>match st with|[_,.int _ k]=>2001-k.toNat|_=>0)
   ⟨0,0,out,rfl,hc6,hb6,Nl hL hlen hv,by omega⟩ ?_
  rintro st g2 w8 ⟨k,carry,out2,rfl,hc8,hb8,hT,hk2⟩;simp only[aG,dC];have hx38:Ext w3 w8:=hx4.then hc8 λk hk e=>by have e:k=o:=e;omega
  have hC8:=hC3.ext hx38;refine CE (off:=1) hC8.hb rfl ?_;rw[hC8.len,eG];refine GdW.look (decide (0<carry)) (λ_ J hJ=>?_) λg3=>?_
  ·rw[lW];have e:decide ((0:Int)<(carry:Int))=decide (0<carry):=by rw[decide_eq_decide];omega
   rw[e];exact hJ
  simp only[aG,kX];rw[eZ,bR];have ek:decide ((k:Int)<(y.l.length:Int))=decide (k<y.l.length):=by rw[decide_eq_decide];omega
  rw[ek];refine⟨λhgo=>?_,λhend=>?_⟩
  ·have hgo:k<y.l.length\/0<carry:=by simpa using hgo
   have hpos:=Yn hT hlt hlx hly hgo;have hcl:=OR hT hlx hly;have hstep:=OQ hT hlx hly hpos;have hlen2:=hT.len;rw[cG,cQ (by omega) (by omega),show((i:Int)+(k:Int))=((i+k:Nat):Int)by omega];refine Sf hb8 hlen2 (by omega) ?_;have hcar:=hT.car;have hog:=yY hT.lim (i+k);rw[cG,show((carry:Int)+((out2.getD (i+k) 0:Nat):Int))=((carry+out2.getD (i+k) 0:Nat):Int)by omega,ON (by omega)];refine bT.cut (λst w'=>st=[u64 (Bo x.l y.l out2 i k carry)]/\w'=w8) ?_ ?_
   ·refine CE (off:=1) hC8.hb rfl ?_;rw[hC8.len,eG,aO];refine⟨λhky=>?_,λhky=>?_⟩
    ·have hky:k<y.l.length:=by omega
     obtain⟨m,hm'⟩:∃m,y.l[k]?=some m:=⟨_,List.getElem?_eq_getElem hky⟩;have hgm:y.l.getD k 0=m:=by rw[List.getD_eq_getElem?_getD,hm'];rfl
     refine CE (off:=1) hC8.hb rfl ?_;refine hC8.at hm' ?_;have hnl:=yY hlx i;have hml:=yY hly k;rw[hgn]at hnl;rw[hgm]at hml;have hnm:n*m<=999999999*999999999:=mR (by omega) (by omega);rw[Df,show((n:Int)*(m:Int))=((n*m:Nat):Int)by rw[Int.natCast_mul],ON (by omega)];rw[cG,show(((carry+out2.getD (i+k) 0:Nat):Int)+((n*m:Nat):Int))=((carry+out2.getD (i+k) 0+n*m:Nat):Int)by omega,ON (by omega)];refine⟨?_,rfl⟩;unfold Bo;rw[aI hky,hgn,hgm]
    ·refine⟨?_,rfl⟩;unfold Bo;rw[aE (by omega)];rfl
   rintro st g4 w12 ⟨rfl,rfl⟩;simp only[aG];generalize Bo x.l y.l out2 i k carry=cc at*
   rw[cG,cQ (by omega) (by omega),show((i:Int)+(k:Int))=((i+k:Nat):Int)by omega];rw[HN];refine⟨by omega,?_⟩;rw[show((cc:Int).tmod 1000000000)=((cc%1000000000:Nat):Int)by rw[Ff (by omega)];omega];refine PZ hb8 hlen2 (by omega) λw13 hz13 hb13 hc13=>?_;rw[HO];refine⟨by omega,?_⟩;rw[show((cc:Int).tdiv 1000000000)=((cc/1000000000:Nat):Int)by rw[Int.tdiv_eq_ediv_of_nonneg (by omega)];omega,ON (by omega)];rw[cG,cQ (by omega) (by omega),show((k:Int)+1)=((k+1:Nat):Int)by omega];refine⟨⟨k+1,_,_,rfl,hc8.then hc13 (λ_ _ e=>e),hb13,hstep,by omega⟩,by simp only[aW];omega⟩
  ·have hend:¬k<y.l.length/\carry=0:=by simp at hend;omega
   obtain⟨hk0,rfl⟩:=hend;rw[cG,up1 (by omega)];refine⟨⟨i+1,out2,rfl,hlt,hc8,hb8,hT.lim,hT.len,RQ hT hlt hk0⟩,by simp only[aW];omega⟩
 ·obtain rfl:i=x.l.length:=by omega
  rw[bO]at hv;refine CE (off:=0) hB6.hb rfl ?_;refine CE (off:=0) hC6.hb rfl ?_;have eqb:∀(s t:Bool) (K:Value->Prop),K (.bool (s^^t))->eqW .bool true (.bool s) (.bool t) K:=λs t K h=>by
   cases s<;>cases t<;>exact h
  refine eqb _ _ _ ?_;simp only[uY,gL,aB,aN,aV,aZ];refine⟨by omega,by omega,?_⟩;have hR:iW w6 ⟨x.below^^y.below,out⟩ [.bool (x.below^^y.below),.slice (some ⟨o,0,none⟩) (x.l.length+y.l.length+1) (x.l.length+y.l.length+1)]:=by
   refine⟨_,U64,rfl,?_,by show out.length<=1000;omega,hL⟩;have:=Yu hb6 (by simp only[CB,eJ];exact hlen);rw[<-hlen]at this⊢;exact this
  refine pZ hR λcs' w15 hx15 hz=>?_;refine Mf (w0:=w) (hx15.at (hx36.at hbc id) id) rfl (by omega) (hx03.trans (hx36.trans hx15)) hz.one hz.len λw17 hx17 hc17=>?_;refine hK _ cs' w17 hx17 (hz.keep (p:=false) (q:=.slice none 0 0) (hx15.at (hx36.at hbc id) id) (λn e=>by cases e) hc17) (IN hx hy hL hv) ?_;have:∀l:List Nat,(gZ l).length<=l.length:=λl=>by
   induction l using xG with
   |h0=>rw[rI];simp
   |h1 l x ih=>
    by_cases h:x=0
    ·subst h;rw[pK];simp;omega
    ·rw[uM h];simp
  have:=this out;show(gZ out).length<=_;omega
end
end
section
open Go Go.Eng Go.Num Go.RowKit Go.Sort
variable{w:World}{K:Q0}{cs:List Value}{G:Nat->Prop}{T:TypeId}{i:Nat}{n:Nat}{v:Value}{w':World}{P:Program}{c:UInt8}{S:Nat->Prop}
section
variable [HX]
theorem aAh{v:Nat}{K:Q0}(hT:wP w)(hv:v<1000000000000)(hK:∀w',Ext w w'->K (str (Lib.decDigits v)) w'):aC P0 228 [u64 v,i64 10] w K:=by
 refine Wh ?_;unfold aC5;refine VX ?_;unfold aCZ;rw[bM,show decide ((10:Int)=10)=true from rfl,eF,eG,aO];refine⟨λhs=>?_,λhs=>?_⟩
 ·rw[pA,cQ (by omega) (by omega)];refine gS (args:=#[i64 (v:Nat)]) Tryz.call274 ((Tryz.internal_strconv_small v (by omega) w).mono ?_);rintro e w' ⟨rfl,rfl⟩;exact⟨_,rfl,hK w' (Chg.refl _ _)⟩
 have h1:1<=v:=by omega
 have h64:v<18446744073709551616:=by omega
 have hnd:Lib.nDigits v<=20:=by have:=Lib.numDigits_eq v h1 h64;split at this<;>omega
 have hz24:List.replicate 24 (Value.int .u8 0)=Lib.zeros24.toList:=rfl;rw[hz24,Rm];have e0:(Lib.zeros24.toList).toArray=Lib.zeros24:=rfl;rw[e0];have hxa:Ext w (w.alloc (.cells Lib.zeros24 262)):=Chg.alloc (Chg.refl _ _) _;refine gS (args:=#[u64 v]) Tryz.call275 ((Tryz.internal_strconv_numDigits v h1 h64 _ (HY hxa hT.pow)).mono ?_);rintro e w2 ⟨rfl,rfl⟩;refine⟨_,rfl,?_⟩;have hH0:Holds (λ(b:UInt8)=>Value.int .u8 (b.toNat:Int)) (w.alloc (.cells Lib.zeros24 262)) w.heap.size 0 (Array.replicate (Lib.nDigits v) (0:UInt8)):=λj hj=>by
  have hj':j<Lib.nDigits v:=by simpa using hj
  refine⟨?_,World.frozen?_alloc_new _ _ _ _⟩;rw[World.cell?_alloc_new,aY,Lib.zeros24_at _ (by omega),getElem!_pos _ j hj];simp
 have hsl:∀{K:Value->Prop},K (.slice (some ⟨w.heap.size,0,none⟩) (Lib.nDigits v) 24)->Nr 24 1 (.pointer (some ⟨w.heap.size,0,none⟩)) none (some (i64 (Lib.nDigits v))) none K:=λ{K} h=>by
  unfold Nr;simp only[gJ,fA];refine⟨by omega,by omega,?_⟩;have e:(⟨w.heap.size,0,none⟩:Addr).add 0=⟨w.heap.size,0,none⟩:=rfl;simpa[e]using h
 refine hsl ?_;have hfmt:=Tryz.internal_strconv_formatBase10 w.heap.size 0 24 v (Array.replicate (Lib.nDigits v) 0) _ hH0 (by rw[Cf];exact Lib.lt_pow_nDigits v) h64 (by rw[Cf];omega);rw[Cf]at hfmt;refine gS (args:=#[.slice (some ⟨w.heap.size,0,none⟩) (Lib.nDigits v) 24,u64 v]) Tryz.call276 (hfmt.mono ?_);rintro e w4 ⟨rfl,k,v',dk,rfl,hF⟩;refine⟨_,rfl,?_⟩;refine hsl ?_;have h:=run_convert_bytes_back (P:=P0) ((putRow (λ(b:UInt8)=>Value.int .u8 (b.toNat:Int)) (w.alloc (.cells Lib.zeros24 262)) w.heap.size 0 dk).drewN k) 89 9 5 ⟨w.heap.size,0,none⟩ 24 (Lib.decDigits v) (by kernel_rfl) (by kernel_rfl) (by kernel_rfl) (λj hj=>by
  rw[Lib.row_is_numeral hF j hj,Lib.add_plain,World.cell?_drewN];exact cell?_putRow (λ(b:UInt8)=>Value.int .u8 (b.toNat:Int)) _ w.heap.size 0 _ dk hH0 (by rw[hF.size,Cf]) j (by rw[hF.size];rw[Lib.decDigits_length]at hj;exact hj))
 rw[Lib.decDigits_length]at h;refine⟨_,h,?_⟩;obtain⟨os',_,eg⟩:=putRow_grow_new (λ(b:UInt8)=>Value.int .u8 (b.toNat:Int)) w #[.cells Lib.zeros24 262] w.heap.size 0 dk (aU _);rw[alloc_eq_grow,eg];exact hK _ (Oe w k os')
end
end
end Go.Proofs.YtghhmpppnmoeoaaGreatDoor
namespace Go.Eng
section
open Go
variable{w:World}{K:Q0}{cs:List Value}{G:Nat->Prop}{T:TypeId}{i:Nat}{n:Nat}{v:Value}{w':World}{P:Program}{c:UInt8}{S:Nat->Prop}
abbrev Ent:=Str×Value×Nat
def mkE(x:Ent):MapEntry:={key:=str x.1,val:=x.2.1,born:=x.2.2}
def wU(l:List Ent):List MapEntry:=l.map mkE
def kA:List Ent->Str->Option Value
 |[],_=>none
 |x::m,k=>if k=x.1 then some x.2.1 else kA m k
def Au(w:World)(b:Nat)(look:Str->Option Value):Prop:=
 ∃l n,w.heap[b]?=some (.map (wU l).toArray n)/\(l.map (·.1)).Nodup/\∀s,kA l s=look s
theorem sD{k:Str}:∀{l:List Ent},kA l k=none↔k∉l.map (·.1)
 |[]=>by simp[kA]
 |x::m=>by
  unfold kA
  by_cases h:k=x.1
  ·rw[aI h];simp[h]
  ·rw[aE h,sD (l:=m)];simp[h]
theorem rO{k:Str}:∀(l m:List Ent),kA (l++m) k=match kA l k with|some v=>some v|none=>kA m k
 |[],m=>rfl
 |x::l,m=>by
  simp only[dB,kA]
  by_cases h:k=x.1
  ·rw[aI h,aI h]
  ·rw[aE h,aE h,rO l m]
theorem FW{α:Type}(f:α->α):∀(a:List α) (x:α) (c:List α),(a++x::c).modify a.length f=a++f x::c
 |[],x,c=>rfl
 |y::a,x,c=>by
  have:=FW f a x c
  simp only[dB,aB,List.modify_succ_cons,this]
theorem Ir(k a:Str):Instr.sameNow .string (str k) (str a)=some (decide (k=a)):=by
 have hs:Instr.sameNow .string (str k) (str a)=some (ofL k==ofL a):=rfl;rw[hs];by_cases h:k=a
 ·subst h;rw[(MapKept.bytes_beq (ofL k) (ofL k)).2 rfl];simp
 ·have hne:(ofL k==ofL a)=false:=by
   cases hc:(ofL k==ofL a)with
   |false=>rfl
   |true=>exact absurd (Mk.1 ((MapKept.bytes_beq _ _).1 hc)) h
  rw[hne];simp[h]
theorem sG(k:Str):∀(l:List Ent) (j:Nat),(kA l k=none->Instr.findNow .string (str k) (wU l) j=some none)/\
  ∀v,kA l k=some v->∃a b c,l=a++(k,v,b)::c/\k∉a.map (·.1)/\Instr.findNow .string (str k) (wU l) j=some (some (j+a.length,v))
 |[],j=>⟨λ_=>rfl,λv h=>by cases h⟩
 |(a,x,n)::m,j=>by
  by_cases h:k=a
  ·subst h
   refine⟨λe=>by simp[kA]at e,λv e=>?_⟩
   simp only[kA,fY,bD]at e
   subst e
   refine⟨[],n,m,rfl,by simp,?_⟩
   simp only[wU,dT,mkE,Instr.findNow,Ir,aJ,aN,fL]
  ·obtain⟨h1,h2⟩:=sG k m (j+1)
   have hf:Instr.findNow .string (str k) (wU ((a,x,n)::m)) j=Instr.findNow .string (str k) (wU m) (j+1):=by
    simp only[wU,dT,mkE,Instr.findNow,Ir,bY h]
   rw[hf];simp only[kA,aE h];refine⟨h1,λv e=>?_⟩;obtain⟨a',b',c',r1,r2,r3⟩:=h2 v e;refine⟨(a,x,n)::a',b',c',by rw[r1];rfl,by simp[h,r2],?_⟩;rw[r3,aB];congr 3;omega
section
variable{P:Program}{T KT ET:TypeId}{w:World}{look:Str->Option Value}
theorem Au.at_{b:Nat}(h:Au w b look)(hc:Chg S w w')(hS:¬S b):Au w' b look:=by
 obtain⟨l,n,h1,h2⟩:=h;exact⟨l,n,hc.at h1 hS,h2⟩
theorem Au.lt{b:Nat}(h:Au w b look):b<w.heap.size:=by obtain⟨l,n,h1,h2⟩:=h;exact fC h1
theorem Au.congr{b:Nat}{look':Str->Option Value}(h:Au w b look)(he:∀s,look s=look' s):Au w b look':=by
 obtain⟨l,n,h1,h2,h3⟩:=h;exact⟨l,n,h1,h2,λs=>(h3 s).trans (he s)⟩
theorem Qj{b:Nat}(h:Kk w b []):Au w b λ_=>none:=⟨[],0,h,List.nodup_nil,λ_=>rfl⟩
theorem DU{b:Nat}{k:Str}{z:Value}{K:Value->Prop}(hT:P.underlying T=some (.map KT ET))(hKT:P.underlying KT=some .string)(hz:Ci P ET=some z)(hb:Au w b look)
  (h1:∀v,look k=some v->K (.tuple #[v,.bool true]))(h0:look k=none->K (.tuple #[z,.bool false])):nC P (Instr.lookup T (.map (some b)) (str k) true) w K:=by
 obtain⟨l,n,hb,hn,hl⟩:=hb;rw[<-hl]at h1 h0;cases he:kA l k with
 |none=>
  refine⟨_,?_,h0 he⟩;simp only[Instr.lookup,run_bind,bH hT,MapKept.run_getObj_map hb,run_pure,MapKept.run_checkKey hKT (show MapKept.IsKey .string (str k)from trivial),MapKept.run_findKey hKT ((sG k l 0).1 he),rG hz,fY]
 |some v=>
  obtain⟨a,b',c,e1,e2,hf⟩:=(sG k l 0).2 v he;refine⟨_,?_,h1 v he⟩;simp only[Instr.lookup,run_bind,bH hT,MapKept.run_getObj_map hb,run_pure,MapKept.run_checkKey hKT (show MapKept.IsKey .string (str k)from trivial),MapKept.run_findKey hKT hf,fY]
theorem CR{b:Nat}{o o':Obj}(hb:w.heap[b]?=some o):Chg (λq=>q=b) w {w with heap:=w.heap.setIfInBounds b o'}:=
 ⟨rfl,rfl,rfl,by simp,λq _ hq=>(MapKept.heap_set hb).2 q hq⟩
theorem Qi{b:Nat}{k:Str}{K:World->Prop}(hT:P.underlying T=some (.map KT ET))(hKT:P.underlying KT=some .string)(hb:Au w b look)
  (hK:∀w',w'.heap.size=w.heap.size->Au w' b (λs=>if s=k then some v else look s)->Chg (λq=>q=b) w w'->K w'):nB P (Instr.mapUpdate T (.map (some b)) (str k) v) w K:=by
 obtain⟨l,n,hb,hn,hl⟩:=hb;cases he:kA l k with
 |none=>
  have hf:=(sG k l 0).1 he;have hrun:(Instr.mapUpdate T (.map (some b)) (str k) v).run P w=.ok () {w with heap:=w.heap.setIfInBounds b (.map ((wU l).toArray.push {key:=str k,val:=v,born:=n}) (n+1))}:=by
   simp only[Instr.mapUpdate,run_bind,bH hT,MapKept.run_getObj_map hb,MapKept.run_checkKey hKT (show MapKept.IsKey .string (str k)from trivial),MapKept.run_findKey hKT hf,MapKept.run_setObj_map _ hb]
  unfold nB;rw[hrun];refine hK _ (by simp) ⟨l++[(k,v,n)],n+1,?_,?_,λs=>?_⟩ (CR hb)
  ·show(w.heap.setIfInBounds b _)[b]?=_;rw[(MapKept.heap_set hb).1];simp[wU,mkE]
  ·rw[fZ,fN];refine⟨hn,by simp,λx hx y hy=>?_⟩;have:=sD.1 he;simp only[dT,nT,bQ]at hy;subst hy;rintro rfl;exact this hx
  ·show kA _ s=if s=k then some v else look s;rw[rO,<-hl];by_cases hs:s=k
   ·subst hs;rw[he,aI rfl];simp[kA]
   ·rw[aE hs];cases kA l s with
    |none=>simp[kA,hs]
    |some x=>rfl
 |some u=>
  obtain⟨a,m,c,e1,e2,hf⟩:=(sG k l 0).2 u he;rw[aY]at hf;have hg:(wU l).toArray[a.length]?=some {key:=str k,val:=u,born:=m}:=by
   rw[e1];simp[wU,mkE]
  have hrun:(Instr.mapUpdate T (.map (some b)) (str k) v).run P w=.ok () {w with heap:=w.heap.setIfInBounds b (.map ((wU l).toArray.modify a.length λe=>{e with key:=str k,val:=v}) n)}:=by
   have hkt:=MapKept.run_keyThatStays (P:=P) (w:=w) (d:=.string) (k:=str k) trivial;simp only[Instr.mapUpdate,run_bind,bH hT,MapKept.run_getObj_map hb,MapKept.run_checkKey hKT (show MapKept.IsKey .string (str k)from trivial),MapKept.run_findKey hKT hf,hg,iI,Option.getD_some,hkt,MapKept.run_setObj_map _ hb]
  unfold nB;rw[hrun];refine hK _ (by simp) ⟨a++(k,v,m)::c,n,?_,?_,λs=>?_⟩ (CR hb)
  ·show(w.heap.setIfInBounds b _)[b]?=_;rw[(MapKept.heap_set hb).1,e1];congr 2;apply Bj;rw[Array.toList_modify];simp only[wU,fZ,dT];have:=FW (λe:MapEntry=>{e with key:=str k,val:=v}) (a.map mkE) (mkE (k,u,m)) (c.map mkE);rw[eJ]at this;exact this
  ·rw[e1]at hn;simpa using hn
  ·show kA _ s=if s=k then some v else look s;rw[<-hl,e1,rO,rO];by_cases hs:s=k
   ·subst hs;rw[aI rfl,sD.2 e2];simp[kA]
   ·rw[aE hs];cases kA a s with
    |none=>simp[kA,hs]
    |some x=>rfl
theorem Qk{b:Nat}{k:Str}{ty:TypeId}{K:Q0}(hT:P.underlying T=some (.map KT ET))(hKT:P.underlying KT=some .string)(hb:Au w b look)
  (hK:∀w',w'.heap.size=w.heap.size->Au w' b (λs=>if s=k then none else look s)->Chg (λq=>q=b) w w'->K (.tuple #[]) w'):eA P (Builtin.delete_ #[T,KT] ty #[.map (some b),str k]) w K:=by
 obtain⟨l,n,hb,hn,hl⟩:=hb;cases he:kA l k with
 |none=>
  have hf:=(sG k l 0).1 he;have hrun:(Builtin.delete_ #[T,KT] ty #[.map (some b),str k]).run P w=.ok (.tuple #[]) {w with heap:=w.heap.setIfInBounds b (.map (wU l).toArray n)}:=by
   simp[Builtin.delete_,run_bind,bH hT,MapKept.run_getObj_map hb,MapKept.run_checkKey hKT (show MapKept.IsKey .string (str k)from trivial),MapKept.run_findKey hKT hf,MapKept.run_setObj_map _ hb,Result.andThen]
  unfold eA;rw[hrun];refine hK _ (by simp) ⟨l,n,(MapKept.heap_set hb).1,hn,λs=>?_⟩ (CR hb);show kA _ s=if s=k then none else look s;rw[<-hl];by_cases hs:s=k
  ·subst hs;rw[aI rfl,he]
  ·rw[aE hs]
 |some u=>
  obtain⟨a,m,c,e1,e2,hf⟩:=(sG k l 0).2 u he;rw[aY]at hf;have hrun:(Builtin.delete_ #[T,KT] ty #[.map (some b),str k]).run P w=.ok (.tuple #[]) {w with heap:=w.heap.setIfInBounds b (.map ((wU l).toArray.eraseIdxIfInBounds a.length) n)}:=by
   simp[Builtin.delete_,run_bind,bH hT,MapKept.run_getObj_map hb,MapKept.run_checkKey hKT (show MapKept.IsKey .string (str k)from trivial),MapKept.run_findKey hKT hf,MapKept.run_setObj_map _ hb,Result.andThen]
  unfold eA;rw[hrun];rw[e1]at hn;rw[fZ,fN]at hn;obtain⟨n1,n2,n3⟩:=hn;rw[dT,jB]at n2;refine hK _ (by simp) ⟨a++c,n,?_,?_,λs=>?_⟩ (CR hb)
  ·show(w.heap.setIfInBounds b _)[b]?=_;rw[(MapKept.heap_set hb).1,e1];congr 2;have hlt:a.length<(wU (a++(k,u,m)::c)).toArray.size:=by simp[wU]
   unfold Array.eraseIdxIfInBounds;rw[dif_pos hlt];apply Bj;rw[Array.toList_eraseIdx];simp only[wU,fZ,dT];rw[List.eraseIdx_append_of_length_le (by simp)];simp
  ·rw[fZ,fN];exact⟨n1,n2.2,λx hx y hy=>n3 x hx y (aS _ hy)⟩
  ·show kA _ s=if s=k then none else look s;rw[<-hl,e1,rO,rO];by_cases hs:s=k
   ·subst hs;rw[aI rfl,sD.2 e2,sD.2 n2.1]
   ·rw[aE hs];cases kA a s with
    |none=>simp[kA,hs]
    |some x=>rfl
end
end
section
open Go Go.Num Go.Syn
variable{w:World}{K:Q0}{cs:List Value}{G:Nat->Prop}{T:TypeId}{i:Nat}{n:Nat}{v:Value}{w':World}{P:Program}{c:UInt8}{S:Nat->Prop}
structure fE(ex:List Ex)(i:Nat)(env:Env)(v:JV)(s:Nat):Prop where
 ok:∀left,s<=left->tW ex (i+1) i env left=.ok v (left-s)
 no:∀left,left<s->∃a,tW ex (i+1) i env left=.err 3 a
inductive GN (ex:List Ex) (env:Env):List Nat->List JV->Nat->Prop where
 |nil:GN ex env [] [] 0
 |cons {a:Nat} {ags:List Nat} {v:JV} {vs:List JV} {s t:Nat}:fE ex a env v s->GN ex env ags vs t->GN ex env (a::ags) (v::vs) (s+t)
abbrev uX(ex:List Ex):Nat->Env->Nat->EvR JV:=λa env l=>tW ex (a+1) a env l
theorem DY{ex:List Ex}{env:Env}{ags:List Nat}{vs:List JV}{s:Nat}(h:GN ex env ags vs s):(∀left,s<=left->pH (uX ex) env ags left=.ok vs (left-s))/\(∀left,left<s->∃a,pH (uX ex) env ags left=.err 3 a):=by
 induction h with
 |nil=>exact⟨λleft _=>rfl,λleft h=>by omega⟩
 |@cons a ags v vs s t h1 h2 ih=>
  refine⟨λleft hl=>?_,λleft hl=>?_⟩
  ·unfold pH;show EvR.bind (tW ex (a+1) a env left) _=_;rw[h1.ok left (by omega)];show EvR.bind (pH (uX ex) env ags (left-s)) _=_;rw[ih.1 _ (by omega)];show EvR.ok _ _=_;congr 1;omega
  ·unfold pH;show∃b,EvR.bind (tW ex (a+1) a env left) _=_;by_cases hs:left<s
   ·obtain⟨b,hb⟩:=h1.no left hs;rw[hb];exact⟨b,rfl⟩
   ·rw[h1.ok left (by omega)];obtain⟨b,hb⟩:=ih.2 (left-s) (by omega);refine⟨b,?_⟩;show EvR.bind (pH (uX ex) env ags (left-s)) _=_;rw[hb];rfl
theorem FC{ex:List Ex}{s:Nat}{e:Ex}{env:Env}{v:JV}(hE:kJ ex)(he:ex[i]?=some e)(hg:dX v=true)
  (h1:∀left,s<=left->sM (uX ex) ex e env left=.ok v (left-s))(h2:∀left,left<s->∃a,sM (uX ex) ex e env left=.err 3 a):fE ex i env v (s+1):=by
 refine⟨λleft hl=>?_,λleft hl=>?_⟩
 ·rw[yG hE he (eH _)];unfold xE;rw[aE (by omega)];show EvR.bind (sM (uX ex) ex e env (left-1)) _=_;rw[h1 (left-1) (by omega)];show(if dX v=true then EvR.ok v (left-1-s)else _)=_;rw[aI hg];congr 1;omega
 ·rw[yG hE he (eH _)];unfold xE;by_cases h0:left=0
  ·exact⟨e.a,by rw[aI h0]⟩
  ·obtain⟨a,ha⟩:=h2 (left-1) (by omega);refine⟨a,?_⟩;rw[aE h0];show EvR.bind (sM (uX ex) ex e env (left-1)) _=_;rw[ha];rfl
theorem yL{ex:List Ex}{s:Nat}{e:Ex}{env:Env}{vs:List JV}{v:JV}(hE:kJ ex)(he:ex[i]?=some e)(h28:e.k≠28)(h29:e.k≠29)(hl:GN ex env e.args vs s)(hm:kH ex e env vs=.ok v)(hg:dX v=true):fE ex i env v (s+1):=by
 obtain⟨h1,h2⟩:=DY hl;refine FC hE he hg (λleft hle=>?_) λleft hlt=>?_
 ·unfold sM;rw[aE h28,aE h29,h1 left hle];show(kH ex e env vs).at_ _=_;rw[hm];rfl
 ·unfold sM;rw[aE h28,aE h29];obtain⟨a,ha⟩:=h2 left hlt;exact⟨a,by rw[ha];rfl⟩
theorem yM{ex:List Ex}{s t c a b:Nat}{e:Ex}{env:Env}{v:JV}{y:Bool}(hE:kJ ex)(he:ex[i]?=some e)(h28:e.k=28)(ha:e.args=[c,a,b])(hc:fE ex c env (bV y) s)(hb:fE ex (if y=true then a else b) env v t)(hg:dX v=true):fE ex i env v (s+t+1):=by
 have e0:lY e 0=c:=by unfold lY;rw[ha];rfl
 have e1:lY e 1=a:=by unfold lY;rw[ha];rfl
 have e2:lY e 2=b:=by unfold lY;rw[ha];rfl
 have hbr:∀l,(if(bV y).b=true then uX ex a env l else uX ex b env l)=uX ex (if y=true then a else b) env l:=λl=>by cases y<;>rfl
 have hbody:∀left,sM (uX ex) ex e env left=(uX ex c env left).bind λx l=>if x.k=1 then .ok x l else if x.k≠2 then .err 81 e.a else if x.b=true then uX ex a env l else uX ex b env l:=λleft=>by
  unfold sM Gy;rw[aI h28,e0,e1,e2]
 refine FC hE he hg (λleft hle=>?_) λleft hlt=>?_
 ·rw[hbody];show EvR.bind (tW ex (c+1) c env left) _=_;rw[hc.ok left (by omega)];show(if(bV y).b=true then uX ex a env (left-s)else uX ex b env (left-s))=_;rw[hbr];show tW ex _ _ env (left-s)=_;rw[hb.ok _ (by omega)];congr 1;omega
 ·rw[hbody];show∃q,EvR.bind (tW ex (c+1) c env left) _=_;by_cases hs:left<s
  ·obtain⟨q,hq⟩:=hc.no left hs;rw[hq];exact⟨q,rfl⟩
  ·rw[hc.ok left (by omega)];obtain⟨q,hq⟩:=hb.no (left-s) (by omega);refine⟨q,?_⟩;show(if(bV y).b=true then uX ex a env (left-s)else uX ex b env (left-s))=_;rw[hbr];exact hq
theorem BP{f:Fl}{s:Nat}{scope v:JV}(h:fE f.ex i (qD scope.ks scope.xs) v s)(hs:s<=20000):zZ f i scope=.ok v:=by
 unfold zZ;rw[h.ok 20000 hs]
def Jz:Nat->List Ex->Bool
 |_,[]=>true
 |i,e::r=>e.args.all (λa=>decide (a<i))&&(!decide (e.k=28)||decide (3<=e.args.length))&&(!decide (e.k=29)||decide (2<=e.args.length))&&Jz (i+1) r
theorem zC:∀{l:List Ex} {j:Nat},Jz j l=true->∀(i:Nat) (e:Ex),l[i]?=some e->(∀a∈e.args,a<j+i)/\(e.k=28->3<=e.args.length)/\(e.k=29->2<=e.args.length)
 |[],_,_,i,e,he=>by simp at he
 |x::r,j,h,0,e,he=>by
  simp only[List.getElem?_cons_zero,bD]at he
  subst he
  simp only[Jz,aL,bW,bB,cO,dV,decide_eq_false_iff_not]at h
  exact⟨h.1.1.1,λhk=>h.1.1.2.resolve_left λhn=>hn hk,λhk=>h.1.2.resolve_left λhn=>hn hk⟩
 |x::r,j,h,i+1,e,he=>by
  rw[List.getElem?_cons_succ]at he
  simp only[Jz,aL]at h
  obtain⟨h1,h2⟩:=zC h.2 i e he
  exact⟨λa ha=>by have:=h1 a ha;omega,h2⟩
theorem kL{l:List Ex}(h:Jz 0 l=true):kJ l:=by
 refine⟨λi e he a ha=>?_,λe he hk=>?_,λe he hk=>?_⟩
 ·have:=(zC h i e he).1 a ha;omega
 ·obtain⟨i,hi⟩:=List.getElem?_of_mem he;exact(zC h i e hi).2.1 hk
 ·obtain⟨i,hi⟩:=List.getElem?_of_mem he;exact(zC h i e hi).2.2 hk
theorem Vt(v:JV):mZ v=1+nI v.xs:=by cases v;simp only[mZ,JV.xs]
theorem Pe:∀(xs:List JV),(∀x∈xs,mZ x<=2000->qA x=mZ x)->∀n:Int,1<=n->n+(nI xs:Int)<=2000->lA xs n=n+nI xs
 |[],_,n,_,_=>by simp[lA,nI]
 |x::xs,h,n,h1,h2=>by
  simp only[nI]at h2
  have hx:=h x (by simp) (by omega)
  simp only[lA,nI]
  rw[aI (by omega),hx,cQ (by omega) (by omega),Pe xs (λy hy=>h y (aS _ hy)) _ (by omega) (by omega)]
  omega
theorem aBW(v:JV):mZ v<=2000->qA v=mZ v:=by
 refine JV.ind' (p:=λv=>mZ v<=2000->qA v=mZ v) (λv ih h=>?_) v;rw[Vt]at h;rw[uR,Pe v.xs ih 1 (by omega) (by omega),Vt];omega
theorem XW{v:JV}(hd:qF v 24=true)(hc:mZ v<=2000)(hp:kE v=true):dX v=true:=by
 unfold dX;rw[hd,hp,kT,kT,bB,aBW v hc];omega
theorem oY(b:Bool):dX (bV b)=true:=by cases b<;>decide
theorem Mw{s:Str}(h:goodN s=true):dX (nV s)=true:=by
 refine XW rfl (by rw[Vt];simp[nI,JV.xs]) ?_;rw[mN];simp[nQ,JV.k,JV.b,JV.t,JV.ks,JV.xs,jI,mV,h]
theorem wG{s:Str}(h:s.length<=16384):dX (tV s)=true:=by
 refine XW rfl (by rw[Vt];simp[nI,JV.xs]) ?_;rw[mN];simp[nQ,JV.k,JV.b,JV.t,JV.ks,JV.xs,jI,mV,h]
theorem cK{n:Int}(h:n.natAbs<10^100):dX (iV n)=true:=Mw (sF h)
theorem xL{v:JV}(h:dX v=true):kE v=true:=by unfold dX at h;simp only[aL]at h;exact h.2
theorem mM{n:Int}(h:n.natAbs<10^100):kE (iV n)=true:=xL (cK h)
theorem ZX(b:Bool):iB (bV b)=true:=by cases b<;>decide
theorem oW(s:Str):iB (nV s)=true:=by rw[BH];rfl
theorem XV(s:Str):iB (tV s)=true:=by rw[BH];rfl
section
variable{ex:List Ex}{env:Env}{i:Nat}{e:Ex}
theorem Du(hE:kJ ex)(he:ex[i]?=some e)(h28:e.k≠28)(h29:e.k≠29)(ha:e.args=[]){v:JV}(hm:kH ex e env []=.ok v)(hg:dX v=true):fE ex i env v 1:=
 yL hE he h28 h29 (by rw[ha];exact .nil) hm hg
theorem Iq(hE:kJ ex)(he:ex[i]?=some e)(h28:e.k≠28)(h29:e.k≠29){a s:Nat}(ha:e.args=[a]){x v:JV}(h:fE ex a env x s)(hm:kH ex e env [x]=.ok v)(hg:dX v=true):fE ex i env v (s+1):=
 yL hE he h28 h29 (s:=s) (by rw[ha];exact .cons h .nil) hm hg
theorem uT(hE:kJ ex)(he:ex[i]?=some e)(h28:e.k≠28)(h29:e.k≠29){a b s t:Nat}(ha:e.args=[a,b]){x y v:JV}(h:fE ex a env x s)(h':fE ex b env y t)(hm:kH ex e env [x,y]=.ok v)(hg:dX v=true):fE ex i env v (s+t+1):=
 yL hE he h28 h29 (s:=s+t) (by rw[ha];exact .cons h (.cons h' .nil)) hm hg
theorem NO{v:JV}{l:List JV}(hk:e.k=9)(h:env e.t=some v):kH ex e env l=.ok v:=by
 unfold kH;simp[hk,h]
theorem cM{v:JV}(hE:kJ ex)(he:ex[i]?=some e)(hk:e.k=9)(ha:e.args=[])(h:env e.t=some v)(hg:dX v=true):fE ex i env v 1:=
 Du hE he (by omega) (by omega) ha (NO hk h) hg
theorem Ql{l:List JV}(hk:e.k=4):kH ex e env l=.ok (nV e.t):=by unfold kH;simp[hk]
theorem qC(hE:kJ ex)(he:ex[i]?=some e)(hk:e.k=4)(ha:e.args=[]){n:Int}(hg:goodN e.t=true)(hn:num e.t=n):fE ex i env (iV n) 1:=by
 have h:Lib.itoa n=e.t:=by rw[<-hn];exact NQ hg
 show fE ex i env (nV (Lib.itoa n)) 1;rw[h];exact Du hE he (by omega) (by omega) ha (Ql hk) (Mw hg)
theorem FB(hE:kJ ex)(he:ex[i]?=some e)(hk:e.k=2)(ha:e.args=[]):fE ex i env (bV true) 1:=
 Du hE he (by omega) (by omega) ha (by unfold kH;simp[hk]) (oY _)
theorem oV{x y:Int}(hk:15<=e.k/\e.k<=19\/22<=e.k/\e.k<=25):kH ex e env [iV x,iV y]=IU e.k e.a (iV x) (iV y):=by
 unfold kH;have n1:e.k≠1:=by omega
 have n2:¬(e.k=2\/e.k=3):=by omega
 have n4:e.k≠4:=by omega
 have n5:e.k≠5:=by omega
 have n9:e.k≠9:=by omega
 have n6:e.k≠6:=by omega
 have n7:e.k≠7:=by omega
 have n8:e.k≠8:=by omega
 have n10:e.k≠10:=by omega
 have n30:e.k≠30:=by omega
 have n11:e.k≠11:=by omega
 have n12:e.k≠12:=by omega
 have n13:¬(e.k=13\/e.k=14):=by omega
 have n20:¬(e.k=20\/e.k=21):=by omega
 have n26:¬(e.k=26\/e.k=27):=by omega
 rw[aE n1,aE n2,aE n4,aE n5,aE n9,aE n6,aE n7,aE n8,aE n10,aE n30,aE n11,aE n12,aE n13,aE n20,aE n26];rfl
theorem yJ{n:Int}(h:n.natAbs<10^100):gP n=(Lib.itoa n,0):=by
 unfold gP;rw[vM,aE];have:=xX 100 n.natAbs h (by omega);omega
theorem oU(k a x y:Int):IU k a (iV x) (iV y)=if k=22 then .ok (bV (decide (mP (Lib.itoa x) (Lib.itoa y)<0)))
  else if k=23 then .ok (bV (decide (0<mP (Lib.itoa x) (Lib.itoa y))))
  else if k=24 then .ok (bV (decide (mP (Lib.itoa x) (Lib.itoa y)<=0)))
  else if k=25 then .ok (bV (decide (0<=mP (Lib.itoa x) (Lib.itoa y))))
  else if k=15 then wT a (gP (x+y))
  else if k=16 then wT a (gP (x-y))
  else if k=17 then wT a (gP (x*y))
  else if k=18 then wT a (CF (Lib.itoa x) (Lib.itoa y))
  else if k=19 then wT a (DR (Lib.itoa x) (Lib.itoa y))
  else .ok (nV []):=by
 show(if(gF 3 (iV x)&&gF 3 (iV y))=true then _ else _)=_;rw[aI (show(gF 3 (iV x)&&gF 3 (iV y))=true from rfl)];simp only[JV.t,iN];rfl
theorem oP{x y:Int}{a b s t:Nat}(hE:kJ ex)(he:ex[i]?=some e)(hk:e.k=15)(ha:e.args=[a,b])(h:fE ex a env (iV x) s)(h':fE ex b env (iV y) t)(hb:(x+y).natAbs<10^100):fE ex i env (iV (x+y)) (s+t+1):=
 uT hE he (by omega) (by omega) ha h h' (by rw[oV (by omega),oU,hk,yJ hb];rfl) (cK hb)
theorem Pl{x y:Int}{a b s t:Nat}(hE:kJ ex)(he:ex[i]?=some e)(hk:e.k=16)(ha:e.args=[a,b])(h:fE ex a env (iV x) s)(h':fE ex b env (iV y) t)(hb:(x-y).natAbs<10^100):fE ex i env (iV (x-y)) (s+t+1):=
 uT hE he (by omega) (by omega) ha h h' (by rw[oV (by omega),oU,hk,yJ hb];rfl) (cK hb)
theorem xJ{x y:Int}{a b s t:Nat}(hE:kJ ex)(he:ex[i]?=some e)(hk:e.k=17)(ha:e.args=[a,b])(h:fE ex a env (iV x) s)(h':fE ex b env (iV y) t)(hb:(x*y).natAbs<10^100):fE ex i env (iV (x*y)) (s+t+1):=
 uT hE he (by omega) (by omega) ha h h' (by rw[oV (by omega),oU,hk,yJ hb];rfl) (cK hb)
theorem Po{x y:Int}{a b s t:Nat}(hE:kJ ex)(he:ex[i]?=some e)(hk:e.k=18)(ha:e.args=[a,b])(h:fE ex a env (iV x) s)(h':fE ex b env (iV y) t)(h0:y≠0)(hb:(x.tdiv y).natAbs<10^100):fE ex i env (iV (x.tdiv y)) (s+t+1):=
 uT hE he (by omega) (by omega) ha h h' (by rw[oV (by omega),oU,hk];unfold CF;rw[iN,iN,aE h0,yJ hb];rfl) (cK hb)
theorem Pn{x y:Int}{a b s t:Nat}(hE:kJ ex)(he:ex[i]?=some e)(hk:e.k=19)(ha:e.args=[a,b])(h:fE ex a env (iV x) s)(h':fE ex b env (iV y) t)(h0:y≠0)(hb:(x.tmod y).natAbs<10^100):fE ex i env (iV (x.tmod y)) (s+t+1):=
 uT hE he (by omega) (by omega) ha h h' (by rw[oV (by omega),oU,hk];unfold DR;rw[iN,iN,aE h0,yJ hb];rfl) (cK hb)
theorem Ou{x y:Int}(hx:x.natAbs<10^100)(hy:y.natAbs<10^100):mP (Lib.itoa x) (Lib.itoa y)=if x=y then 0 else if x<y then-1 else 1:=by
 rw[JP (sF hx) (sF hy),iN,iN]
theorem Mc{x y:Int}{a b s t:Nat}(hE:kJ ex)(he:ex[i]?=some e)(hk:e.k=22)(ha:e.args=[a,b])(h:fE ex a env (iV x) s)(h':fE ex b env (iV y) t)(hx:x.natAbs<10^100)(hy:y.natAbs<10^100):fE ex i env (bV (decide (x<y))) (s+t+1):=
 uT hE he (by omega) (by omega) ha h h' (by
  rw[oV (by omega),oU,hk,Ou hx hy,aI rfl]
  congr 2
  rw[decide_eq_decide]
  split
  ·omega
  ·split<;>omega) (oY _)
theorem Md{x y:Int}{a b s t:Nat}(hE:kJ ex)(he:ex[i]?=some e)(hk:e.k=23)(ha:e.args=[a,b])(h:fE ex a env (iV x) s)(h':fE ex b env (iV y) t)(hx:x.natAbs<10^100)(hy:y.natAbs<10^100):fE ex i env (bV (decide (y<x))) (s+t+1):=
 uT hE he (by omega) (by omega) ha h h' (by
  rw[oV (by omega),oU,hk,Ou hx hy,aE (by decide),aI rfl]
  congr 2
  rw[decide_eq_decide]
  split
  ·omega
  ·split<;>omega) (oY _)
theorem Sb{x y:Int}{a b s t:Nat}(hE:kJ ex)(he:ex[i]?=some e)(hk:e.k=24)(ha:e.args=[a,b])(h:fE ex a env (iV x) s)(h':fE ex b env (iV y) t)(hx:x.natAbs<10^100)(hy:y.natAbs<10^100):fE ex i env (bV (decide (x<=y))) (s+t+1):=
 uT hE he (by omega) (by omega) ha h h' (by
  rw[oV (by omega),oU,hk,Ou hx hy,aE (by decide),aE (by decide),aI rfl]
  congr 2
  rw[decide_eq_decide]
  split
  ·omega
  ·split<;>omega) (oY _)
theorem Sc{x y:Int}{a b s t:Nat}(hE:kJ ex)(he:ex[i]?=some e)(hk:e.k=25)(ha:e.args=[a,b])(h:fE ex a env (iV x) s)(h':fE ex b env (iV y) t)(hx:x.natAbs<10^100)(hy:y.natAbs<10^100):fE ex i env (bV (decide (y<=x))) (s+t+1):=
 uT hE he (by omega) (by omega) ha h h' (by
  rw[oV (by omega),oU,hk,Ou hx hy,aE (by decide),aE (by decide),aE (by decide),aI rfl]
  congr 2
  rw[decide_eq_decide]
  split
  ·omega
  ·split<;>omega) (oY _)
theorem Mm{x y:JV}(hk:e.k=20\/e.k=21)(kx:iB x=true)(ky:iB y=true):kH ex e env [x,y]=.ok (bV (decide (CH x y=0)==decide (e.k=20))):=by
 unfold kH;have n1:e.k≠1:=by omega
 have n2:¬(e.k=2\/e.k=3):=by omega
 have n4:e.k≠4:=by omega
 have n5:e.k≠5:=by omega
 have n9:e.k≠9:=by omega
 have n6:e.k≠6:=by omega
 have n7:e.k≠7:=by omega
 have n8:e.k≠8:=by omega
 have n10:e.k≠10:=by omega
 have n30:e.k≠30:=by omega
 have n11:e.k≠11:=by omega
 have n12:e.k≠12:=by omega
 have n13:¬(e.k=13\/e.k=14):=by omega
 rw[aE n1,aE n2,aE n4,aE n5,aE n9,aE n6,aE n7,aE n8,aE n10,aE n30,aE n11,aE n12,aE n13,aI hk];exact aI ⟨kx,ky⟩
theorem CS{x y:JV}{p:Prop}[Decidable p]{a b s t:Nat}(hE:kJ ex)(he:ex[i]?=some e)(hk:e.k=20)(ha:e.args=[a,b])(h:fE ex a env x s)(h':fE ex b env y t)(kx:iB x=true)(ky:iB y=true)(hx:kE x=true)(hy:kE y=true)(hp:x=y↔p):fE ex i env (bV (decide p)) (s+t+1):=
 uT hE he (by omega) (by omega) ha h h' (by
  rw[Mm (.inl hk) kx ky,bF hk]
  congr 2
  have hd:decide (CH x y=0)=decide p:=by rw[decide_eq_decide,EF x y hx hy,hp]
  rw[hd]
  cases decide p<;>rfl) (oY _)
theorem mL{x y:JV}{a b s t:Nat}(hE:kJ ex)(he:ex[i]?=some e)(hk:e.k=20)(ha:e.args=[a,b])(h:fE ex a env x s)(h':fE ex b env y t)(kx:iB x=true)(hx:kE x=true)(hp:x=y):fE ex i env (bV true) (s+t+1):=by
 have:=CS (p:=True) hE he hk ha h h' kx (hp▸kx) hx (hp▸hx) (by simp[hp]);simpa using this
theorem KH{x y:JV}{a b s t:Nat}(hE:kJ ex)(he:ex[i]?=some e)(hk:e.k=21)(ha:e.args=[a,b])(h:fE ex a env x s)(h':fE ex b env y t)(kx:iB x=true)(ky:iB y=true)(hx:kE x=true)(hy:kE y=true)(hp:x≠y):fE ex i env (bV true) (s+t+1):=
 uT hE he (by omega) (by omega) ha h h' (by
  rw[Mm (.inr hk) kx ky,bY (show¬e.k=20 by omega),bY (show¬CH x y=0 fromλh0=>hp ((EF x y hx hy).1 h0))]
  rfl) (oY _)
theorem rV{a b s t:Nat}{p q:Bool}(hE:kJ ex)(he:ex[i]?=some e)(hk:e.k=26)(ha:e.args=[a,b])(h:fE ex a env (bV p) s)(h':fE ex b env (bV q) t):fE ex i env (bV (p&&q)) (s+t+1):=
 uT hE he (by omega) (by omega) ha h h' (by unfold kH;rw[hk];cases p<;>cases q<;>rfl) (oY _)
theorem Pm{a s:Nat}{p:Bool}(hE:kJ ex)(he:ex[i]?=some e)(hk:e.k=14)(ha:e.args=[a])(h:fE ex a env (bV p) s):fE ex i env (bV (!p)) (s+1):=
 Iq hE he (by omega) (by omega) ha h (by unfold kH;rw[hk];cases p<;>rfl) (oY _)
theorem Ip{a s:Nat}{x:Int}(hE:kJ ex)(he:ex[i]?=some e)(hk:e.k=13)(ha:e.args=[a])(h:fE ex a env (iV x) s)(hb:x.natAbs<10^100):fE ex i env (iV (-x)) (s+1):=by
 have hm:kH ex e env [iV x]=.ok (nV (gP (-num (Lib.itoa x))).1):=by unfold kH;rw[hk];rfl
 rw[iN,yJ (by omega)]at hm;exact Iq hE he (by omega) (by omega) ha h hm (cK (by omega))
theorem FY{l:List JV}(hk:e.k=12):kH ex e env l=if(qG e.t l).2=0 then .ok (qG e.t l).1 else .err (qG e.t l).2 e.a:=by unfold kH;simp[hk]
theorem JS{name:Str}{a:List JV}{f:FnM}{v:JV}(hl:AN fnT name=some f)(hg:∀x∈a,dX x=true)(hk:∀x∈a,iB x=true)(hf:tO f a=true)(ha:f.act a=some v)(hv:dX v=true):qG name a=(v,0):=by
 unfold qG;have h1:a.any (λx=> !dX x)=false:=by rw[nU];intro x hx;simp[hg x hx]
 have h2:a.any (λx=> !iB x)=false:=by rw[nU];intro x hx;simp[hk x hx]
 rw[h1,hl];simp only[eU,jV,h2,hf,jT,ha,hv,fY]
theorem Ae{a s:Nat}{x v:JV}{f:FnM}(hE:kJ ex)(he:ex[i]?=some e)(hk:e.k=12)(ha:e.args=[a])(h:fE ex a env x s)(hl:AN fnT e.t=some f)(hg:dX x=true)(hkn:iB x=true)(hf:tO f [x]=true)(hact:f.act [x]=some v)(hv:dX v=true):fE ex i env v (s+1):=
 Iq hE he (by omega) (by omega) ha h (by
  rw[FY hk,JS hl (λz hz=>by rw[bQ.1 hz];exact hg) (λz hz=>by rw[bQ.1 hz];exact hkn) hf hact hv]
  rfl) hv
theorem Dt{a b s t:Nat}{x y v:JV}{f:FnM}(hE:kJ ex)(he:ex[i]?=some e)(hk:e.k=12)(ha:e.args=[a,b])(h:fE ex a env x s)(h':fE ex b env y t)(hl:AN fnT e.t=some f)(hg:dX x=true)(hkn:iB x=true)(hg':dX y=true)(hkn':iB y=true)(hf:tO f [x,y]=true)(hact:f.act [x,y]=some v)(hv:dX v=true):fE ex i env v (s+t+1):=
 uT hE he (by omega) (by omega) ha h h' (by
  rw[FY hk,JS hl (λz hz=>by simp only[bP,dN,lQ]at hz;rcases hz with rfl|rfl<;>assumption) (λz hz=>by simp only[bP,dN,lQ]at hz;rcases hz with rfl|rfl<;>assumption) hf hact hv]
  rfl) hv
end
def uI(s:Str):Str:=[97,32,123,10,32,32,120,32,61,32]++s++[10,125]
def I63(n:Int):Prop:=-9223372036854775808<=n/\n<=9223372036854775807
theorem I63.abs{n:Int}(h:I63 n):n.natAbs<=9223372036854775808:=by obtain⟨h1,h2⟩:=h;omega
theorem Kh{sg:Int}{x y:Int}(hx:x.natAbs<10^100)(hy:y.natAbs<10^100)(hs:sg=1\/sg=-1):AM sg [iV x,iV y]=if 0<(if y=x then 0 else if y<x then-1 else 1)*sg then iV y else iV x:=by
 have e1:mP (Lib.itoa x) (Lib.itoa x)=0:=by rw[Ou hx hx,aI rfl]
 show(if 0<mP (Lib.itoa y) (if 0<mP (Lib.itoa x) (Lib.itoa x)*sg then iV x else iV x).t*sg then iV y else(if 0<mP (Lib.itoa x) (Lib.itoa x)*sg then iV x else iV x))=_;rw[e1];have e2:(if(0:Int)<0*sg then iV x else iV x)=iV x:=by split<;>rfl
 rw[e2];show(if 0<mP (Lib.itoa y) (Lib.itoa x)*sg then iV y else iV x)=_;rw[Ou hy hx]
theorem VI{x y:Int}(hx:x.natAbs<10^100)(hy:y.natAbs<10^100):BM.act [iV x,iV y]=some (iV (if x<y then y else x)):=by
 show some (AM 1 [iV x,iV y])=_;rw[Kh hx hy (.inl rfl)];by_cases h:x<y
 ·rw[aI h,aE (show¬y=x by omega),aE (show¬y<x by omega),aI (by decide)]
 ·rw[aE h];by_cases h':y=x
  ·rw[aI h',aE (by decide)]
  ·rw[aE h',aI (show y<x by omega),aE (by decide)]
theorem VH{x y:Int}(hx:x.natAbs<10^100)(hy:y.natAbs<10^100):BK.act [iV x,iV y]=some (iV (if x<y then x else y)):=by
 show some (AM (-1) [iV x,iV y])=_;rw[Kh hx hy (.inr rfl)];by_cases h:x<y
 ·rw[aI h,aE (show¬y=x by omega),aE (show¬y<x by omega),aE (by decide)]
 ·rw[aE h];by_cases h':y=x
  ·rw[aI h',aE (by decide),h']
  ·rw[aE h',aI (show y<x by omega),aI (by decide)]
theorem VJ(x:Int):BN.act [iV x]=some (iV (x.natAbs:Int)):=by
 show some (nV (dig (Lib.itoa x)))=some (nV (Lib.itoa (x.natAbs:Int)));rw[vM];unfold Lib.itoa;rw[aE (by omega),aW]
theorem Am{n:Int}(h:n.natAbs<10^100):(Lib.itoa n).length<=101:=by
 have h1:=xX 100 n.natAbs h (by omega);unfold Lib.itoa;split
 ·simp only[aB];omega
 ·have:n.toNat=n.natAbs:=by omega
  rw[this];omega
theorem OA(x:Int):oD.act [iV x]=some (tV (Lib.itoa x)):=rfl
theorem OB{x:Int}(h:x.natAbs<10^100):vJ.act [tV (Lib.itoa x)]=some (iV x):=by
 show Bn _=_;unfold Bn;rw[aI ⟨.inr rfl,sF h⟩];rfl
def MI:List Ex:=[⟨9,[97],[],[],10⟩,⟨9,[98],[],[],14⟩,⟨15,[],[0,1],[],12⟩,⟨9,[98],[],[],19⟩,⟨9,[97],[],[],23⟩,⟨15,[],[3,4],[],21⟩,⟨20,[],[2,5],[],16⟩,⟨9,[97],[],[],29⟩,⟨9,[98],[],[],33⟩,⟨15,[],[7,8],[],31⟩,⟨9,[98],[],[],38⟩,⟨16,[],[9,10],[],36⟩,⟨9,[97],[],[],43⟩,⟨20,[],[11,12],[],40⟩,⟨26,[],[6,13],[],25⟩,⟨9,[97],[],[],48⟩,⟨9,[98],[],[],53⟩,⟨9,[99],[],[],57⟩,⟨15,[],[16,17],[],55⟩,⟨17,[],[15,18],[],50⟩,⟨9,[97],[],[],63⟩,⟨9,[98],[],[],67⟩,⟨17,[],[20,21],[],65⟩,⟨9,[97],[],[],71⟩,⟨9,[99],[],[],75⟩,⟨17,[],[23,24],[],73⟩,⟨15,[],[22,25],[],69⟩,⟨20,[],[19,26],[],60⟩,⟨26,[],[14,27],[],45⟩]
def XM:Str:=[97,32,43,32,98,32,61,61,32,98,32,43,32,97,32,38,38,32,40,97,32,43,32,98,41,32,45,32,98,32,61,61,32,97,32,38,38,32,97,32,42,32,40,98,32,43,32,99,41,32,61,61,32,97,32,42,32,98,32,43,32,97,32,42,32,99]
theorem aB7:Go.Syn.parseM (uI XM)=.ok ⟨MI,[⟨[97],[],[⟨[120],28,6⟩],[],0⟩],[0]⟩:=by decide+kernel
def MH:List Ex:=[⟨9,[97],[],[],11⟩,⟨9,[98],[],[],15⟩,⟨22,[],[0,1],[],13⟩,⟨9,[98],[],[],22⟩,⟨9,[97],[],[],26⟩,⟨23,[],[3,4],[],24⟩,⟨20,[],[2,5],[],18⟩,⟨9,[97],[],[],33⟩,⟨9,[98],[],[],38⟩,⟨24,[],[7,8],[],35⟩,⟨9,[97],[],[],45⟩,⟨9,[98],[],[],49⟩,⟨23,[],[10,11],[],47⟩,⟨21,[],[9,12],[],41⟩,⟨26,[],[6,13],[],29⟩,⟨9,[97],[],[],57⟩,⟨9,[97],[],[],61⟩,⟨22,[],[15,16],[],59⟩,⟨14,[],[17],[],55⟩,⟨26,[],[14,18],[],52⟩]
def XL:Str:=[40,97,32,60,32,98,41,32,61,61,32,40,98,32,62,32,97,41,32,38,38,32,40,97,32,60,61,32,98,41,32,33,61,32,40,97,32,62,32,98,41,32,38,38,32,33,40,97,32,60,32,97,41]
theorem aB6:Go.Syn.parseM (uI XL)=.ok ⟨MH,[⟨[97],[],[⟨[120],19,6⟩],[],0⟩],[0]⟩:=by decide+kernel
def MG:List Ex:=[⟨9,[98],[],[],10⟩,⟨4,[48],[],[],15⟩,⟨20,[],[0,1],[],12⟩,⟨2,[],[],[],19⟩,⟨9,[97],[],[],26⟩,⟨9,[98],[],[],31⟩,⟨4,[48],[],[],36⟩,⟨20,[],[5,6],[],33⟩,⟨4,[49],[],[],40⟩,⟨9,[98],[],[],44⟩,⟨28,[],[7,8,9],[],38⟩,⟨18,[],[4,10],[],28⟩,⟨9,[98],[],[],49⟩,⟨17,[],[11,12],[],47⟩,⟨9,[97],[],[],53⟩,⟨9,[98],[],[],58⟩,⟨4,[48],[],[],63⟩,⟨20,[],[15,16],[],60⟩,⟨4,[49],[],[],67⟩,⟨9,[98],[],[],71⟩,⟨28,[],[17,18,19],[],65⟩,⟨19,[],[14,20],[],55⟩,⟨15,[],[13,21],[],51⟩,⟨9,[97],[],[],77⟩,⟨20,[],[22,23],[],74⟩,⟨28,[],[2,3,24],[],17⟩]
def XK:Str:=[98,32,61,61,32,48,32,63,32,116,114,117,101,32,58,32,97,32,47,32,40,98,32,61,61,32,48,32,63,32,49,32,58,32,98,41,32,42,32,98,32,43,32,97,32,37,32,40,98,32,61,61,32,48,32,63,32,49,32,58,32,98,41,32,61,61,32,97]
theorem aB5:Go.Syn.parseM (uI XK)=.ok ⟨MG,[⟨[97],[],[⟨[120],25,6⟩],[],0⟩],[0]⟩:=by decide+kernel
def Gu:List Ex:=[⟨9,[97],[],[],14⟩,⟨9,[98],[],[],17⟩,⟨12,[109,97,120],[0,1],[],10⟩,⟨9,[97],[],[],26⟩,⟨9,[98],[],[],29⟩,⟨12,[109,105,110],[3,4],[],22⟩,⟨15,[],[2,5],[],20⟩,⟨9,[97],[],[],35⟩,⟨9,[98],[],[],39⟩,⟨15,[],[7,8],[],37⟩,⟨20,[],[6,9],[],32⟩,⟨9,[97],[],[],47⟩,⟨13,[],[11],[],46⟩,⟨13,[],[12],[],44⟩,⟨9,[97],[],[],53⟩,⟨20,[],[13,14],[],50⟩,⟨26,[],[10,15],[],41⟩,⟨9,[97],[],[],62⟩,⟨12,[97,98,115],[17],[],58⟩,⟨9,[97],[],[],68⟩,⟨25,[],[18,19],[],65⟩,⟨26,[],[16,20],[],55⟩]
def XJ:Str:=[109,97,120,40,97,44,32,98,41,32,43,32,109,105,110,40,97,44,32,98,41,32,61,61,32,97,32,43,32,98,32,38,38,32,45,40,45,97,41,32,61,61,32,97,32,38,38,32,97,98,115,40,97,41,32,62,61,32,97]
theorem aB4:Go.Syn.parseM (uI XJ)=.ok ⟨Gu,[⟨[97],[],[⟨[120],21,6⟩],[],0⟩],[0]⟩:=by decide+kernel
def Gt:List Ex:=[⟨9,[97],[],[],13⟩,⟨6,[],[0],[[101]],10⟩,⟨9,[97],[],[],29⟩,⟨12,[116,111,115,116,114,105,110,103],[2],[],20⟩,⟨20,[],[1,3],[],17⟩,⟨9,[98],[],[],44⟩,⟨6,[],[5],[[101]],41⟩,⟨12,[116,111,105,110,116],[6],[],35⟩,⟨9,[98],[],[],52⟩,⟨20,[],[7,8],[],49⟩,⟨26,[],[4,9],[],32⟩]
def XI:Str:=[34,36,123,97,125,34,32,61,61,32,116,111,115,116,114,105,110,103,40,97,41,32,38,38,32,116,111,105,110,116,40,34,36,123,98,125,34,41,32,61,61,32,98]
theorem aB3:Go.Syn.parseM (uI XI)=.ok ⟨Gt,[⟨[97],[],[⟨[120],10,6⟩],[],0⟩],[0]⟩:=by decide+kernel
def Jy:List Ex:=[⟨4,[49],[],[],10⟩,⟨4,[50],[],[],14⟩,⟨4,[51],[],[],18⟩,⟨17,[],[1,2],[],16⟩,⟨15,[],[0,3],[],12⟩]
def XH:Str:=[49,32,43,32,50,32,42,32,51]
theorem aB2:Go.Syn.parseM (uI XH)=.ok ⟨Jy,[⟨[97],[],[⟨[120],4,6⟩],[],0⟩],[0]⟩:=by decide+kernel
def Cx:List Ex:=[⟨5,[97],[],[],11⟩,⟨4,[49],[],[],14⟩,⟨2,[],[],[],18⟩,⟨6,[],[0,1,2],[[116],[101],[101]],10⟩]
def XG:Str:=[34,97,36,123,49,125,36,123,116,114,117,101,125,34]
theorem aB1:Go.Syn.parseM (uI XG)=.ok ⟨Cx,[⟨[97],[],[⟨[120],3,6⟩],[],0⟩],[0]⟩:=by decide+kernel
def Ez:List Ex:=[⟨4,[49],[],[],10⟩,⟨4,[48],[],[],14⟩,⟨18,[],[0,1],[],12⟩]
def XF:Str:=[49,32,47,32,48]
theorem aB0:Go.Syn.parseM (uI XF)=.ok ⟨Ez,[⟨[97],[],[⟨[120],2,6⟩],[],0⟩],[0]⟩:=by decide+kernel
theorem UH{a b c:Int}(ha:I63 a)(hb:I63 b)(hc:I63 c){env:Env}(ea:env [97]=some (iV a))(eb:env [98]=some (iV b))(ec:env [99]=some (iV c)):∃s,s<=1000/\fE MI 28 env (bV true) s:=by
 have hE:kJ MI:=kL (by decide);have a1:=ha.abs;have b1:=hb.abs;have c1:=hc.abs;have m1:(a*b).natAbs<=9223372036854775808*9223372036854775808:=by rw[Int.natAbs_mul];exact mR a1 b1
 have m2:(a*c).natAbs<=9223372036854775808*9223372036854775808:=by rw[Int.natAbs_mul];exact mR a1 c1
 have m3:(a*(b+c)).natAbs<=9223372036854775808*18446744073709551616:=by rw[Int.natAbs_mul];exact mR a1 (by omega)
 have h0:=cM hE (i:=0) rfl rfl rfl ea (cK (by omega));have h1:=cM hE (i:=1) rfl rfl rfl eb (cK (by omega));have h2:=oP hE (i:=2) rfl rfl rfl h0 h1 (by omega);have h3:=cM hE (i:=3) rfl rfl rfl eb (cK (by omega));have h4:=cM hE (i:=4) rfl rfl rfl ea (cK (by omega));have h5:=oP hE (i:=5) rfl rfl rfl h3 h4 (by omega);have h6:=mL hE (i:=6) rfl rfl rfl h2 h5 (oW _) (mM (by omega)) (congrArg (λn:Int=>iV n) (by omega));have h7:=cM hE (i:=7) rfl rfl rfl ea (cK (by omega));have h8:=cM hE (i:=8) rfl rfl rfl eb (cK (by omega));have h9:=oP hE (i:=9) rfl rfl rfl h7 h8 (by omega);have h10:=cM hE (i:=10) rfl rfl rfl eb (cK (by omega));have h11:=Pl hE (i:=11) rfl rfl rfl h9 h10 (by omega);have h12:=cM hE (i:=12) rfl rfl rfl ea (cK (by omega));have h13:=mL hE (i:=13) rfl rfl rfl h11 h12 (oW _) (mM (by omega)) (congrArg (λn:Int=>iV n) (by omega));have h14:=rV hE (i:=14) rfl rfl rfl h6 h13;have h15:=cM hE (i:=15) rfl rfl rfl ea (cK (by omega));have h16:=cM hE (i:=16) rfl rfl rfl eb (cK (by omega));have h17:=cM hE (i:=17) rfl rfl rfl ec (cK (by omega));have h18:=oP hE (i:=18) rfl rfl rfl h16 h17 (by omega);have h19:=xJ hE (i:=19) rfl rfl rfl h15 h18 (by omega);have h20:=cM hE (i:=20) rfl rfl rfl ea (cK (by omega));have h21:=cM hE (i:=21) rfl rfl rfl eb (cK (by omega));have h22:=xJ hE (i:=22) rfl rfl rfl h20 h21 (by omega);have h23:=cM hE (i:=23) rfl rfl rfl ea (cK (by omega));have h24:=cM hE (i:=24) rfl rfl rfl ec (cK (by omega));have h25:=xJ hE (i:=25) rfl rfl rfl h23 h24 (by omega);have h26:=oP hE (i:=26) rfl rfl rfl h22 h25 (by omega);have h27:=mL hE (i:=27) rfl rfl rfl h19 h26 (oW _) (mM (by omega)) (congrArg (λn:Int=>iV n) (Int.mul_add a b c));have h28:=rV hE (i:=28) rfl rfl rfl h14 h27;exact⟨_,by decide,h28⟩
theorem UG{a b c:Int}(ha:I63 a)(hb:I63 b)(hc:I63 c){env:Env}(ea:env [97]=some (iV a))(eb:env [98]=some (iV b))(ec:env [99]=some (iV c)):∃s,s<=1000/\fE MH 19 env (bV true) s:=by
 have hE:kJ MH:=kL (by decide);have a1:=ha.abs;have b1:=hb.abs;have c1:=hc.abs;have h0:=cM hE (i:=0) rfl rfl rfl ea (cK (by omega));have h1:=cM hE (i:=1) rfl rfl rfl eb (cK (by omega));have h2:=Mc hE (i:=2) rfl rfl rfl h0 h1 (by omega) (by omega);have h3:=cM hE (i:=3) rfl rfl rfl eb (cK (by omega));have h4:=cM hE (i:=4) rfl rfl rfl ea (cK (by omega));have h5:=Md hE (i:=5) rfl rfl rfl h3 h4 (by omega) (by omega);have h6:=mL hE (i:=6) rfl rfl rfl h2 h5 (ZX _) (xL (oY _)) (rfl);have h7:=cM hE (i:=7) rfl rfl rfl ea (cK (by omega));have h8:=cM hE (i:=8) rfl rfl rfl eb (cK (by omega));have h9:=Sb hE (i:=9) rfl rfl rfl h7 h8 (by omega) (by omega);have h10:=cM hE (i:=10) rfl rfl rfl ea (cK (by omega));have h11:=cM hE (i:=11) rfl rfl rfl eb (cK (by omega));have h12:=Md hE (i:=12) rfl rfl rfl h10 h11 (by omega) (by omega);have h13:=KH hE (i:=13) rfl rfl rfl h9 h12 (ZX _) (ZX _) (xL (oY _)) (xL (oY _)) (λhe=>by have h2:=congrArg JV.b he;have h3:decide (a<=b)=decide (b<a):=h2;rw[decide_eq_decide]at h3;omega);have h14:=rV hE (i:=14) rfl rfl rfl h6 h13;have h15:=cM hE (i:=15) rfl rfl rfl ea (cK (by omega));have h16:=cM hE (i:=16) rfl rfl rfl ea (cK (by omega));have h17:=Mc hE (i:=17) rfl rfl rfl h15 h16 (by omega) (by omega);have h18:=Pm hE (i:=18) rfl rfl rfl h17;have h19:=rV hE (i:=19) rfl rfl rfl h14 h18;have ht:((true&&true)&&!decide (a<a))=true:=by simp
 rw[ht]at h19;exact⟨_,by decide,h19⟩
theorem UF{a b c:Int}(ha:I63 a)(hb:I63 b)(hc:I63 c){env:Env}(ea:env [97]=some (iV a))(eb:env [98]=some (iV b))(ec:env [99]=some (iV c)):∃s,s<=1000/\fE MG 25 env (bV true) s:=by
 have hE:kJ MG:=kL (by decide);have a1:=ha.abs;have b1:=hb.abs;have c1:=hc.abs;have h0:=cM hE (i:=0) rfl rfl rfl eb (cK (by omega));have h1:=qC (env:=env) hE (i:=1) (n:=0) rfl rfl rfl (by decide) (by decide);have h2:=CS (p:=b=0) hE (i:=2) rfl rfl rfl h0 h1 (oW _) (oW _) (mM (by omega)) (mM (by decide)) ⟨λhe=>by have h2:=congrArg JV.t he;have h3:=congrArg num h2;change num (Lib.itoa b)=num (Lib.itoa 0)at h3;rwa[iN,iN]at h3,λhe=>by rw[he]⟩;have h3:=FB (env:=env) hE (i:=3) rfl rfl rfl;by_cases hb0:b=0
 ·rw[bF hb0]at h2;have h25:=yM hE (i:=25) rfl rfl rfl h2 h3 (oY _);exact⟨_,by decide,h25⟩
 have q1:(a.tdiv b).natAbs<=9223372036854775808:=by rw[Int.natAbs_tdiv];exact cD (Nat.div_le_self _ _) a1
 have q2:(a.tmod b).natAbs<=9223372036854775808:=by rw[Int.natAbs_tmod];exact cD (Nat.mod_le _ _) a1
 have q3:(a.tdiv b*b).natAbs<=9223372036854775808*9223372036854775808:=by rw[Int.natAbs_mul];exact mR q1 b1
 have h4:=cM hE (i:=4) rfl rfl rfl ea (cK (by omega));have h5:=cM hE (i:=5) rfl rfl rfl eb (cK (by omega));have h6:=qC (env:=env) hE (i:=6) (n:=0) rfl rfl rfl (by decide) (by decide);have h7:=CS (p:=b=0) hE (i:=7) rfl rfl rfl h5 h6 (oW _) (oW _) (mM (by omega)) (mM (by decide)) ⟨λhe=>by have h2:=congrArg JV.t he;have h3:=congrArg num h2;change num (Lib.itoa b)=num (Lib.itoa 0)at h3;rwa[iN,iN]at h3,λhe=>by rw[he]⟩;rw[bY hb0]at h7;have h8:=qC (env:=env) hE (i:=8) (n:=1) rfl rfl rfl (by decide) (by decide);have h9:=cM hE (i:=9) rfl rfl rfl eb (cK (by omega));have h10:=yM hE (i:=10) rfl rfl rfl h7 h9 (cK (by omega));have h11:=Po hE (i:=11) rfl rfl rfl h4 h10 hb0 (by omega);have h12:=cM hE (i:=12) rfl rfl rfl eb (cK (by omega));have h13:=xJ hE (i:=13) rfl rfl rfl h11 h12 (by omega);have h14:=cM hE (i:=14) rfl rfl rfl ea (cK (by omega));have h15:=cM hE (i:=15) rfl rfl rfl eb (cK (by omega));have h16:=qC (env:=env) hE (i:=16) (n:=0) rfl rfl rfl (by decide) (by decide);have h17:=CS (p:=b=0) hE (i:=17) rfl rfl rfl h15 h16 (oW _) (oW _) (mM (by omega)) (mM (by decide)) ⟨λhe=>by have h2:=congrArg JV.t he;have h3:=congrArg num h2;change num (Lib.itoa b)=num (Lib.itoa 0)at h3;rwa[iN,iN]at h3,λhe=>by rw[he]⟩;rw[bY hb0]at h17;have h18:=qC (env:=env) hE (i:=18) (n:=1) rfl rfl rfl (by decide) (by decide);have h19:=cM hE (i:=19) rfl rfl rfl eb (cK (by omega));have h20:=yM hE (i:=20) rfl rfl rfl h17 h19 (cK (by omega));have h21:=Pn hE (i:=21) rfl rfl rfl h14 h20 hb0 (by omega);have h22:=oP hE (i:=22) rfl rfl rfl h13 h21 (by omega);have h23:=cM hE (i:=23) rfl rfl rfl ea (cK (by omega));have h24:=mL hE (i:=24) rfl rfl rfl h22 h23 (oW _) (mM (by omega)) (congrArg (λn:Int=>iV n) (by have:=Int.tmod_add_mul_tdiv a b;rw[Int.mul_comm (a.tdiv b)];omega));rw[bY hb0]at h2;have h25:=yM hE (i:=25) rfl rfl rfl h2 h24 (oY _);exact⟨_,by decide,h25⟩
theorem UD{a b c:Int}(ha:I63 a)(hb:I63 b)(hc:I63 c){env:Env}(ea:env [97]=some (iV a))(eb:env [98]=some (iV b))(ec:env [99]=some (iV c)):∃s,s<=1000/\fE Gu 21 env (bV true) s:=by
 have hE:kJ Gu:=kL (by decide);have a1:=ha.abs;have b1:=hb.abs;have c1:=hc.abs;have h0:=cM hE (i:=0) rfl rfl rfl ea (cK (by omega));have h1:=cM hE (i:=1) rfl rfl rfl eb (cK (by omega));have x2:(if a<b then b else a).natAbs<=9223372036854775808:=by split<;>assumption
 have h2:=Dt (f:=BM) hE (i:=2) rfl rfl rfl h0 h1 rfl (cK (by omega)) (oW _) (cK (by omega)) (oW _) rfl (VI (by omega) (by omega)) (cK (by omega));have h3:=cM hE (i:=3) rfl rfl rfl ea (cK (by omega));have h4:=cM hE (i:=4) rfl rfl rfl eb (cK (by omega));have x5:(if a<b then a else b).natAbs<=9223372036854775808:=by split<;>assumption
 have h5:=Dt (f:=BK) hE (i:=5) rfl rfl rfl h3 h4 rfl (cK (by omega)) (oW _) (cK (by omega)) (oW _) rfl (VH (by omega) (by omega)) (cK (by omega));have h6:=oP hE (i:=6) rfl rfl rfl h2 h5 (by omega);have h7:=cM hE (i:=7) rfl rfl rfl ea (cK (by omega));have h8:=cM hE (i:=8) rfl rfl rfl eb (cK (by omega));have h9:=oP hE (i:=9) rfl rfl rfl h7 h8 (by omega);have h10:=mL hE (i:=10) rfl rfl rfl h6 h9 (oW _) (mM (by omega)) (congrArg (λn:Int=>iV n) (by split<;>omega));have h11:=cM hE (i:=11) rfl rfl rfl ea (cK (by omega));have h12:=Ip hE (i:=12) rfl rfl rfl h11 (by omega);have h13:=Ip hE (i:=13) rfl rfl rfl h12 (by omega);have h14:=cM hE (i:=14) rfl rfl rfl ea (cK (by omega));have h15:=mL hE (i:=15) rfl rfl rfl h13 h14 (oW _) (mM (by omega)) (congrArg (λn:Int=>iV n) (by omega));have h16:=rV hE (i:=16) rfl rfl rfl h10 h15;have h17:=cM hE (i:=17) rfl rfl rfl ea (cK (by omega));have h18:=Ae (f:=BN) hE (i:=18) rfl rfl rfl h17 rfl (cK (by omega)) (oW _) rfl (VJ a) (cK (by omega));have h19:=cM hE (i:=19) rfl rfl rfl ea (cK (by omega));have h20:=Sc hE (i:=20) rfl rfl rfl h18 h19 (by omega) (by omega);have h21:=rV hE (i:=21) rfl rfl rfl h16 h20;have ht:((true&&true)&&decide (a<=(a.natAbs:Int)))=true:=by rw[bF (by omega)];rfl
 rw[ht]at h21;exact⟨_,by decide,h21⟩
theorem UB{a b c:Int}(ha:I63 a)(hb:I63 b)(hc:I63 c){env:Env}(ea:env [97]=some (iV a))(eb:env [98]=some (iV b))(ec:env [99]=some (iV c)):∃s,s<=1000/\fE Gt 10 env (bV true) s:=by
 have hE:kJ Gt:=kL (by decide);have a1:=ha.abs;have b1:=hb.abs;have c1:=hc.abs;have l1:=Am (n:=a) (by omega);have l2:=Am (n:=b) (by omega);have h0:=cM hE (i:=0) rfl rfl rfl ea (cK (by omega));have h1:=Iq hE (i:=1) rfl (by decide) (by decide) rfl h0 (show kH _ _ env [iV a]=.ok (tV (Lib.itoa a))from rfl) (wG (by omega));have h2:=cM hE (i:=2) rfl rfl rfl ea (cK (by omega));have h3:=Ae (f:=oD) hE (i:=3) rfl rfl rfl h2 rfl (cK (by omega)) (oW _) rfl (OA a) (wG (by omega));have h4:=mL hE (i:=4) rfl rfl rfl h1 h3 (XV _) (xL (wG (by omega))) (rfl);have h5:=cM hE (i:=5) rfl rfl rfl eb (cK (by omega));have h6:=Iq hE (i:=6) rfl (by decide) (by decide) rfl h5 (show kH _ _ env [iV b]=.ok (tV (Lib.itoa b))from rfl) (wG (by omega));have h7:=Ae (f:=vJ) hE (i:=7) rfl rfl rfl h6 rfl (wG (by omega)) (XV _) rfl (OB (by omega)) (cK (by omega));have h8:=cM hE (i:=8) rfl rfl rfl eb (cK (by omega));have h9:=mL hE (i:=9) rfl rfl rfl h7 h8 (oW _) (mM (by omega)) (rfl);have h10:=rV hE (i:=10) rfl rfl rfl h4 h9;exact⟨_,by decide,h10⟩
end
section
open Go Go.Num Go.Syn
def more(n:Nat)(a:Int):Int:=if n<10 then a else a+1
end
section
open Go Go.Num Go.Syn
variable{w:World}{K:Q0}{cs:List Value}{G:Nat->Prop}{T:TypeId}{i:Nat}{n:Nat}{v:Value}{w':World}{P:Program}{c:UInt8}{S:Nat->Prop}
def Rx(ex:List Ex)(i:Nat)(env:Env)(c a:Int)(s:Nat):Prop:=∀left,s<=left->tW ex (i+1) i env left=.err c a
theorem LC{ex:List Ex}{s:Nat}{e:Ex}{env:Env}{vs:List JV}{c a:Int}(hE:kJ ex)(he:ex[i]?=some e)(h28:e.k≠28)(h29:e.k≠29)(hl:GN ex env e.args vs s)(hm:kH ex e env vs=.err c a):Rx ex i env c a (s+1):=by
 obtain⟨h1,_⟩:=DY hl;intro left hle;rw[yG hE he (eH _)];unfold xE;rw[aE (by omega)];show EvR.bind (sM (uX ex) ex e env (left-1)) _=_;unfold sM;rw[aE h28,aE h29,h1 _ (by omega)];show EvR.bind ((kH ex e env vs).at_ _) _=_;rw[hm];rfl
theorem Og{f:Fl}{s:Nat}{scope:JV}{c a:Int}(h:Rx f.ex i (qD scope.ks scope.xs) c a s)(hs:s<=20000):zZ f i scope=.err c a:=by
 unfold zZ;rw[h 20000 hs]
theorem RD(env:Env):fE Jy 4 env (iV 7) 5:=by
 have hE:kJ Jy:=kL (by decide);have h0:=qC (env:=env) hE (i:=0) (n:=1) rfl rfl rfl (by decide) (by decide);have h1:=qC (env:=env) hE (i:=1) (n:=2) rfl rfl rfl (by decide) (by decide);have h2:=qC (env:=env) hE (i:=2) (n:=3) rfl rfl rfl (by decide) (by decide);have h3:=xJ hE (i:=3) rfl rfl rfl h1 h2 (by omega);exact oP hE (i:=4) rfl rfl rfl h0 h3 (by omega)
theorem RB(env:Env):fE Cx 3 env (tV [97,49,116,114,117,101]) 4:=by
 have hE:kJ Cx:=kL (by decide);have h0:fE Cx 0 env (tV [97]) 1:=Du hE rfl (by decide) (by decide) rfl rfl (wG (by decide));have h1:fE Cx 1 env (nV [49]) 1:=Du hE rfl (by decide) (by decide) rfl rfl (by decide);have h2:fE Cx 2 env (bV true) 1:=FB hE rfl rfl rfl;exact yL hE (i:=3) (s:=3) rfl (by decide) (by decide) (.cons h0 (.cons h1 (.cons h2 .nil))) rfl (wG (by decide))
theorem RA(env:Env):Rx Ez 2 env 10 12 3:=by
 have hE:kJ Ez:=kL (by decide);have h0:fE Ez 0 env (nV [49]) 1:=Du hE rfl (by decide) (by decide) rfl rfl (by decide);have h1:fE Ez 1 env (nV [48]) 1:=Du hE rfl (by decide) (by decide) rfl rfl (by decide);exact LC hE rfl (by decide) (by decide) (.cons h0 (.cons h1 .nil)) rfl
end
end Go.Eng
namespace Go.Proofs.YtghhmpppnmoeoaaGreatDoor
section
open Go Go.Eng Go.Num Go.RowKit
variable{w:World}{K:Q0}{cs:List Value}{G:Nat->Prop}{T:TypeId}{i:Nat}{n:Nat}{v:Value}{w':World}{P:Program}{c:UInt8}{S:Nat->Prop}
theorem MN(u:Nat):Lib.decDigits u≠[]:=by
 rw[Lib.decDigits];split<;>simp
theorem QU(u:Nat)(h:0<u):Lib.decDigits u=(if u/10=0 then []else Lib.decDigits (u/10))++[UInt8.ofNat (48+u%10)]:=by
 rw[Lib.decDigits];split
 ·rw[aI (by omega),kI (by omega)];rfl
 ·rw[aE (by omega)]
theorem Oq{u:Nat}(h:Lib.decDigits u=[48]):u=0:=by
 rw[Lib.decDigits]at h;split at h
 ·rename_i hu;have:=List.head_eq_of_cons_eq h;have e:=congrArg UInt8.toNat this;rw[jF]at e;have:(48:UInt8).toNat=48:=rfl;omega
 ·rename_i hu;have:=congrArg List.length h;rw[bG]at this;have h0:0<(Lib.decDigits (u/10)).length:=dM.2 (MN _);simp at this;exact absurd this (MN _)
theorem JJ:∀(k u:Nat),u<10^k->(Lib.decDigits u).length<=k+1:=by
 intro k;induction k with
 |zero=>intro u h;rw[Lib.decDigits,dif_pos (by omega)];simp
 |succ k ih=>
  intro u h;rw[Lib.decDigits];split
  ·simp
  ·have:=ih (u/10) (by rw[qI]at h;omega);rw[bG,List.length_singleton];omega
section
variable [HX]
theorem Nu{n:Int}{K:Q0}(hn:n≠0)(h1:-9223372036854775808<=n)(h2:n<=9223372036854775807)(hK:K (str (Lib.itoa n)) w):aC P0 38 [.bool (decide (n<0)),str (Lib.decDigits n.natAbs)] w K:=by
 refine aBl ?_;unfold W38;have hne:Lib.decDigits n.natAbs≠[48]:=λe=>by have:=Oq e;omega
 unfold Lib.itoa at hK;by_cases hneg:n<0
 ·rw[aI hneg]at hK;rw[bF hneg];refine GdW.look true (λ_ J hJ=>?_) λg=>?_
  ·rw[wN,bF hne];exact hJ
  show aP (.bool true) _ _;rw[eF,yC];have:=JJ 19 n.natAbs (by omega);have em:IntKind.i64.max=9223372036854775807:=by decide
  refine⟨by rw[em];simp only[aB,aN];omega,?_⟩;exact hK
 ·rw[aE hneg]at hK;rw[bY hneg];refine GdW.f λg=>?_;show aP (.bool false) _ _;rw[dD];rw[show n.natAbs=n.toNat by omega];exact hK
theorem JH{n:Int}{K:Q0}(h1:-9223372036854775808<=n)(h2:n<=9223372036854775807)(hK:∀w',Ext w w'->K (str (Lib.itoa n)) w'):aC P0 22 [i64 n] w K:=by
 refine aBw ?_;unfold W22;rw[bM,aO];refine⟨λh0=>?_,λh0=>?_⟩
 ·subst h0;have e:Lib.itoa 0=[48]:=by unfold Lib.itoa;rw[aE (by decide),Lib.decDigits,dif_pos (by decide)];rfl
  rw[e]at hK;exact hK w (Chg.refl _ _)
 refine⟨λs w'=>∃(m:Int) (out:Str),s=[str out,i64 m]/\Ext w w'/\(if m=0 then []else Lib.decDigits m.natAbs)++out=Lib.decDigits n.natAbs/\-9223372036854775808<=m/\m<=9223372036854775807,
  λs _=>match s with|[_,.int _ i]=>i.natAbs|_=>0,⟨n,[],rfl,Chg.refl _ _,by rw[aE h0,eS],h1,h2⟩,?_⟩
 rintro s g w2 ⟨m,out,rfl,hx,he,hm1,hm2⟩;simp only[aG,dC];rw[fJ,aO];refine⟨λhne=>?_,λhe0=>?_⟩
 ·have hol:out.length<=25:=by
   have:=JJ 19 n.natAbs (by omega);rw[<-he,bG]at this;omega
  rw[aE hne,QU _ (by omega),fO]at he;rw[HN];refine⟨by decide,?_⟩;have hd:(m.tmod 10).natAbs=m.natAbs%10:=by rw[Int.natAbs_tmod];rfl
  have hq:(m.tdiv 10).natAbs=m.natAbs/10:=by rw[Int.natAbs_tdiv];rfl
  refine bT.cut (λs' w'=>s'=[i64 ((m.natAbs%10:Nat):Int)]/\w'=w2) ?_ ?_
  ·rw[eG,aO];refine⟨λh=>?_,λh=>?_⟩
   ·rw[OK,cQ (by omega) (by omega),show 0-m.tmod 10=((m.natAbs%10:Nat):Int)by omega];exact⟨rfl,rfl⟩
   ·rw[show m.tmod 10=((m.natAbs%10:Nat):Int)by omega];exact⟨rfl,rfl⟩
  rintro s' g2 w3 ⟨rfl,rfl⟩;simp only[aG];rw[cG,cQ (by omega) (by omega),pA,show(48:Int)+((m.natAbs%10:Nat):Int)=((48+m.natAbs%10:Nat):Int)by omega,yH,kI (by omega)];refine Hc λt w4 ht hx4=>?_;have hb:Byt w4 U8 t [UInt8.ofNat (48+m.natAbs%10)]:=by
   have e1:u8s [UInt8.ofNat (48+m.natAbs%10)]=[.int .u8 ((48+m.natAbs%10:Nat):Int)]:=by
    simp only[u8s,dT,nT,jF];rw[kI (by omega)]
   unfold Byt;rw[e1];exact ht
  rw[ED (l:=[UInt8.ofNat (48+m.natAbs%10)]) (e:=U8) (by kernel_rfl) (by kernel_rfl) (by kernel_rfl) hb,yC];have em:IntKind.i64.max=9223372036854775807:=by decide
  refine⟨by rw[em];simp only[aB,aN];omega,?_⟩;rw[HO];refine⟨by decide,?_⟩;rw[cQ (by omega) (by omega)];refine⟨⟨m.tdiv 10,_,rfl,hx.trans hx4,?_,by omega,by omega⟩,?_⟩
  ·rw[<-he,<-hq];by_cases hz:m.tdiv 10=0
   ·rw[aI hz,aI (by omega)]
   ·rw[aE hz,aE (by omega)]
  ·show(m.tdiv 10).natAbs<m.natAbs;omega
 ·have he0:m=0:=fF he0;rw[aI he0,eY]at he;rw[eG,he];exact Nu h0 h1 h2 (hK w2 hx)
theorem AR{n:Int}{K:Q0}(h1:-9223372036854775808<=n)(h2:n<=9223372036854775807)(hK:∀w',Ext w w'->K (.agg (flat 3 false (Lib.itoa n)).toArray) w'):aC P0 18 [i64 n] w K:=by
 refine aBA ?_;unfold W18;refine bE λb w1 hb hz hbb hx=>?_;refine JH h1 h2 λw2 hx2=>?_;simp only[wsv,wsg,wsh,wsl,aM,aK,aD,eV,Nat.reduceAdd,Nat.reduceLT,aF,aA,aJ,aH,bN,reduceCtorEq];exact iP (hx2.at hbb id) rfl rfl rfl λw' hc=>hK w' ((hx.trans hx2).new hc (by omega))
end
end
end Go.Proofs.YtghhmpppnmoeoaaGreatDoor
