/- One plain sentence: contracts and plain laws that the claim rests on. Conditions: those that each states. -/
import Derived.Test.YtjblfcfdeaagpaaGreatDoorXS3
import Derived.Test.YtjblfcfdeaagpaaGreatDoorXS2
import Derived.Test.YtjblfcfdeaagpaaGreatDoorXS1
import Derived.Lib.Join
import Derived.ChangeKeysEq
import Derived.Laws.StructEq
import Derived.Test.YtjblfcfdeaagpaaGreatDoorRows
import Derived.Below
import Derived.RowKit
import Derived.ChangeMaps5
import Derived.MakeChecks
import Derived.Lib.LaidTab
import Derived.Lib.LaidU8
import Derived.SizedLaws
import Derived.Shelf.Vars
set_option linter.all false
set_option linter.unusedSimpArgs false
set_option linter.unusedVariables false
set_option linter.unusedSectionVars false
set_option maxRecDepth 100000
namespace Go.Proofs.YtjblfcfdeaagpaaGreatDoor
section
open Go Go.Eng Go.Lex Go.Syn
variable{w:World}{K:Q0}{cs:List Value}{G:Nat->Prop}{T:TypeId}{i:Nat}{n:Nat}{v:Value}{w':World}{P:Program}{c:UInt8}{S:Nat->Prop}
section
variable{N n:Nat}{f:List Ex}{s:PS}{E:PS->R Nat}{k:Int}{w t:Str}{F G:List KT}
theorem Mz(h:gX s=(2,t)::F):iL E s=lL (step1 s) ⟨4,t,[],[],(cur s).a⟩:=by
 obtain⟨h1,h2,h3⟩:=eF h (.inr (by decide));unfold iL;simp only;rw[h1,h2,h3,aF rfl]
theorem Gz(h:gX s=(3,t)::F):iL E s=qT E (step1 s) (cur s):=by
 obtain⟨h1,h2,h3⟩:=eF h (.inr (by decide));unfold iL;simp only;rw[h1,h2,aD (by decide),aF rfl]
theorem Kd(h:gX s=(1,t)::(k,w)::F)(hf:t≠oH)(hn:¬(k=4/\w=[40]))(hq:Qt s k):iL E s=lL (step1 s) ⟨kJ t,if kJ t=9 then t else [],[],[],(cur s).a⟩:=by
 obtain⟨h1,h2,h3⟩:=eF h (.inr (by decide));have hs:=dE h;have hq':Qt (step1 s) k:=hq;unfold iL;simp only;rw[h1,h2,h3,aD (by decide),aD (by decide),aF ⟨rfl,hf⟩,nX hs hq' hn,aD (by decide),(eF hs hq').1]
theorem Ke(h:gX s=(1,t)::(4,[40])::F)(hf:t≠oH):iL E s=(within (step1 s) (cur (step1 s)).a true λq=>xF E [41] (step1 q)).bind λus s2=>lL s2 ⟨12,t,us,[],(cur s).a⟩:=by
 obtain⟨h1,h2,h3⟩:=eF h (.inr (by decide));have hs:=dE h;unfold iL;simp only;rw[h1,h2,h3,aD (by decide),aD (by decide),aF ⟨rfl,hf⟩,jM hs,aF rfl,(eF hs (xS _)).1]
theorem Kc(h:gX s=(4,[40])::F):iL E s=within s (cur s).a true λq=>(E (step1 q)).bind λx q1=>(jR q1 [41]).bind λ_ q2=>.ok x q2:=by
 obtain⟨h1,h2,h3⟩:=eF h (xS s);unfold iL;simp only;rw[h1,h2,aD (by decide),aD (by decide),aD (λe=>absurd e.1 (by decide)),jM h,aF rfl]
theorem GB(h:gX s=(4,[91])::F):iL E s=(within s (cur s).a true λq=>qY E q (cur s).a).bind λe s2=>lL s2 e:=by
 obtain⟨h1,h2,h3⟩:=eF h (xS s);unfold iL;simp only;rw[h1,h2,aD (by decide),aD (by decide),aD (λe=>absurd e.1 (by decide)),nX h (xS s) (by decide),aD (by decide),jM h,aF rfl]
theorem HL(h:gX s=(4,[123])::F):iL E s=(within s (cur s).a false λq=>BE E q (cur s).a).bind λe s2=>lL s2 e:=by
 obtain⟨h1,h2,h3⟩:=eF h (xS s);unfold iL;simp only;rw[h1,h2,aD (by decide),aD (by decide),aD (λe=>absurd e.1 (by decide)),nX h (xS s) (by decide),aD (by decide),nX h (xS s) (by decide),aD (by decide),jM h,aF rfl]
theorem yO{x j:Nat}(h:gX s=(k,w)::G)(hn:¬(k=4/\(w=[46]\/w=[91]\/w=[40])))(hq:Qt s k):iV E (j+1) s x=.ok x s:=by
 have n1:¬(k=4/\w=[46]):=λe=>hn ⟨e.1,.inl e.2⟩;have n2:¬(k=4/\w=[91]):=λe=>hn ⟨e.1,.inr (.inl e.2)⟩;simp only[iV];rw[(eF h hq).1,jB h hq n1,nX h hq n2];simp only;rw[aD (by decide),aD (by decide)]
end
def Stp(k:Int)(w:Str):Prop:=¬(k=4/\(w=[46]\/w=[91]\/w=[40]))
theorem nS{N:Nat}{f:List Ex}{T:List KT}(h:∀(n:Nat) (s:PS) (k:Int) (w:Str) (G:List KT),gX s=T++(k,w)::G->Stp k w->Qt s k->s.deep+n=24->kE N (iL (zR n) s) (λx s'=>Mv s s' ((k,w)::G)/\sH f s'.ex i x)):Pp N f i T:=λn s k w G hs hn hq hd=>by
 refine kE.bind (r:=iL (zR n) s) (h n s k w G hs hn hq hd) λx s1 hx=>?_
 have h1:=hx.1
 show kE N (iV (zR n) (s.toks.length+1) s1 x) _
 rw[yO h1.fr hn (h1.qt hq)]
 exact hx
theorem wI{N:Nat}{s:PS}{X F:List KT}{Q:Nat->List Ex->Prop}(h:gX s=(4,[40])::(X++(4,[41])::F))(hd:s.deep+n=24)(hE:∀(m:Nat) (s1:PS),gX s1=X++(4,[41])::F->s1.deep+m=24->kE N ((gV m).1 s1) (λx s2=>Mv s1 s2 ((4,[41])::F)/\Q x s2.ex)):kE N (iL (zR n) s) (λx s'=>Mv s s' F/\Q x s'.ex):=by
 rw[Kc h];refine(jA hd (P:=λx s2=>Mv {s with deep:=s.deep+1,quiet:=true} s2 F/\Q x s2.ex) λm hm=>?_).mono λx s' hx=>?_
 ·subst hm;have h0:gX (step1 {s with deep:=s.deep+1,quiet:=true})=X++(4,[41])::F:=dE (s:={s with deep:=s.deep+1,quiet:=true}) h;have m0:Mv {s with deep:=s.deep+1,quiet:=true} (step1 {s with deep:=s.deep+1,quiet:=true}) (X++(4,[41])::F):=cW (s:={s with deep:=s.deep+1,quiet:=true}) h;refine(hE m _ h0 (by show s.deep+1+m=24;omega)).bind λx q1 ⟨hm1,hq1⟩=>?_;rw[qK hm1.fr];exact⟨(m0.trans hm1).trans (cW hm1.fr),hq1⟩
 ·obtain⟨s2,⟨hm,hq⟩,rfl⟩:=hx;exact⟨xC hm,hq⟩
section
variable{N:Nat}{f:List Ex}
theorem RO{t:Str}{a:Int}(hi:f[i]?=some ⟨4,t,[],[],a⟩):Pp N f i [(2,t)]:=nS λn s k w G hs hn hq hd=>by
 have hs:gX s=(2,t)::(k,w)::G:=hs
 rw[Mz hs]
 exact kE.mono (nR (b:=⟨_,_,[],[],(cur s).a⟩) (dE hs) hi rfl rfl rfl (uK.nil _ _)) λx s' hx=>⟨(cW hs).trans hx.1,hx.2⟩
theorem Ik{t u:Str}{kk:Int}{a:Int}(hi:f[i]?=some ⟨kk,u,[],[],a⟩)(hk:kJ t=kk)(hu:(if kJ t=9 then t else [])=u)(hf:t≠oH):Pp N f i [(1,t)]:=nS λn s k w G hs hn hq hd=>by
 have hs:gX s=(1,t)::(k,w)::G:=hs
 rw[Kd hs hf (λe=>hn ⟨e.1,.inr (.inr e.2)⟩) hq]
 exact kE.mono (nR (b:=⟨_,_,[],[],(cur s).a⟩) (dE hs) hi hk hu rfl (uK.nil _ _)) λx s' hx=>⟨(cW hs).trans hx.1,hx.2⟩
theorem Nk{t:Str}{a:Int}(hi:f[i]?=some ⟨5,t,[],[],a⟩):Pp N f i [(3,Syn.plainM t)]:=nS λn s k w G hs hn hq hd=>by
 have hs:gX s=(3,Syn.plainM t)::(k,w)::G:=hs
 have hc:=(eF hs (.inr (show(3:Int)≠5 by decide))).2.2
 rw[Gz hs]
 unfold qT
 rw[hc,wN,qW,aD (by decide)]
 exact kE.mono (nR (b:=⟨_,_,[],[],(cur s).a⟩) (dE hs) hi rfl rfl rfl (uK.nil _ _)) λx s' hx=>⟨(cW hs).trans hx.1,hx.2⟩
structure AP(N:Nat)(f:List Ex)(u:Nat)(T:List KT):Prop where
 pp:Pp N f u T
 ht:HT T
theorem AP.take_no{u:Nat}{T F:List KT}(h:AP N f u T){s:PS}{w:Str}(hs:gX s=T++F)(hw:w∈Cf\/w=[42]):aW s w=(false,s):=by
 obtain⟨k0,w0,U,e,h5,_,h4,_⟩:=h.ht.head (F:=F);refine jB (hs.trans e) (.inr h5) λe=>?_;have hne:∀w,(w∈Cf\/w=[42])->w≠[40]/\w≠[91]/\w≠[123]:=by
  rintro w (hw|rfl)
  ·exact(show∀w∈Cf,w≠[40]/\w≠[91]/\w≠[123]by decide) w hw
  ·decide
 obtain⟨n1,n2,n3⟩:=hne w hw;rcases h4 e.1 with h|h|h<;>rw[h]at e
 ·exact n1 e.2.symm
 ·exact n2 e.2.symm
 ·exact n3 e.2.symm
theorem IX{w:Str}{m:Nat}{F:List KT}{τ:Nat->List KT}(hw:w=[41]\/w=[93]):∀(us:List Nat),(∀u∈us,AP N f u (τ u))->∀(j:Nat) (done out:List Nat) (s:PS),us.length<j->out≠[]->gX s=(us.flatMap λu=>(4,[44])::τ u)++(4,w)::F->s.deep+m=24->uK f s.ex done out->
  kE N (lQ (gV m).1 w j s out) (λl s'=>Mv s s' F/\uK f s'.ex (done++us) l)
 |[],_,j,done,out,s,hj,ho,hs,hd,ha=>by
  obtain⟨j,rfl⟩:∃i,j=i+1:=⟨j-1,by omega⟩
  have hs:gX s=(4,w)::F:=hs
  simp only[lQ]
  rw[jS hs]
  simp only
  rw[aF trivial,cH]
  exact⟨cW hs,ha⟩
 |u::us,hP,j,done,out,s,hj,ho,hs,hd,ha=>by
  obtain⟨j,rfl⟩:∃i,j=i+1:=⟨j-1,by omega⟩
  have hu:=hP u (by simp)
  have hs:gX s=(4,[44])::(τ u++((us.flatMap λu=>(4,[44])::τ u)++(4,w)::F)):=by rw[hs];simp
  have hne:¬((4:Int)=4/\([44]:Str)=w):=λe=>by rcases hw with h|h<;>(rw[h]at e;exact absurd e.2 (by decide))
  have hs1:=dE hs
  simp only[lQ]
  rw[jB hs (xS s) hne,aD (λe=>by cases e),aD ho]
  simp only
  rw[qK hs]
  show kE N (if(aW (step1 s) w).1=true then _ else _) _
  rw[hu.take_no hs1 (.inl (by rcases hw with h|h<;>(rw[h];decide))),aD (λe=>by cases e)]
  simp only
  obtain⟨kn,wn,Gn,en,hkn,hwn⟩:∃kn wn Gn,(us.flatMap λu=>((4:Int),([44]:Str))::τ u)++(4,w)::F=(kn,wn)::Gn/\kn=4/\wn∈Cf:=by
   cases us with
   |nil=>exact⟨4,w,F,rfl,rfl,by rcases hw with h|h<;>(rw[h];decide)⟩
   |cons v us=>exact⟨4,[44],_,rfl,rfl,by decide⟩
  have hs1':=hs1;rw[en]at hs1';refine(hu.pp.expr hu.ht hs1' (λ_=>hwn) (.inr (by rw[hkn];decide)) (show(step1 s).deep+m=24 from hd)).bind λx s2 ⟨h1,h2⟩=>?_;have hs2:=h1.fr;rw[<-en]at hs2;have:=IX (m:=m) (F:=F) (τ:=τ) hw us (λv hv=>hP v (aK _ hv)) j (done++[u]) (out++[x]) s2 (by simp only[aA]at hj;omega) (by simp) hs2 (by rw[h1.deep];exact hd) ((ha.mono h1.ex).snoc h2);refine this.mono λl s' hx=>⟨((cW hs).trans h1).trans hx.1,?_⟩;have:=hx.2;rw[bB]at this;exact this
theorem Dt(τ:Nat->List KT):∀us:List Nat,us.length<=(us.flatMap λu=>((4:Int),([44]:Str))::τ u).length
 |[]=>cX _
 |v::us=>by have:=Dt τ us;simp only[dL,aB,aA]at this⊢;omega
theorem Co{w:Str}{m:Nat}{F:List KT}{τ:Nat->List KT}(hw:w=[41]\/w=[93]){us:List Nat}(hP:∀u∈us,AP N f u (τ u)){s:PS}(hs:gX s=jt (us.map τ)++(4,w)::F)(hd:s.deep+m=24):kE N (xF (gV m).1 w s) (λl s'=>Mv s s' F/\uK f s'.ex us l):=by
 unfold xF;cases us with
 |nil=>
  have hs:gX s=(4,w)::F:=hs;simp only[lQ];rw[jS hs];simp only;rw[aF trivial];exact⟨cW hs,uK.nil _ _⟩
 |cons u us=>
  have hu:=hP u (by simp);have hs:gX s=τ u++((us.flatMap λu=>(4,[44])::τ u)++(4,w)::F):=by
   rw[hs,bS,tU,bB,zP]
  have hlen:us.length<s.toks.length:=by
   have:=BZ hs;simp only[aB,aA]at this;have h2:=Dt τ us;omega
  simp only[lQ];rw[hu.take_no hs (.inl (by rcases hw with h|h<;>(rw[h];decide))),aD (λe=>by cases e)];simp only[gY];obtain⟨kn,wn,Gn,en,hkn,hwn⟩:∃kn wn Gn,(us.flatMap λu=>((4:Int),([44]:Str))::τ u)++(4,w)::F=(kn,wn)::Gn/\kn=4/\wn∈Cf:=by
   cases us with
   |nil=>exact⟨4,w,F,rfl,rfl,by rcases hw with h|h<;>(rw[h];decide)⟩
   |cons v us=>exact⟨4,[44],_,rfl,rfl,by decide⟩
  have hs1:=hs;rw[en]at hs1;refine(hu.pp.expr hu.ht hs1 (λ_=>hwn) (.inr (by rw[hkn];decide)) hd).bind λx s2 ⟨h1,h2⟩=>?_;have hs2:=h1.fr;rw[<-en]at hs2;exact(IX (m:=m) (F:=F) (τ:=τ) hw us (λv hv=>hP v (aK _ hv)) s.toks.length [u] ([]++[x]) s2 hlen (by simp) hs2 (by rw[h1.deep];exact hd) ((uK.nil f s2.ex).snoc h2)).mono λl s' hx=>⟨h1.trans hx.1,hx.2⟩
theorem No{t:Str}{us:List Nat}{a:Int}{τ:Nat->List KT}(hi:f[i]?=some ⟨12,t,us,[],a⟩)(hf:t≠oH)(hP:∀u∈us,AP N f u (τ u)):Pp N f i ((1,t)::(4,[40])::(jt (us.map τ)++[(4,[41])])):=nS λn s k w G hs hn hq hd=>by
 have hs:gX s=(1,t)::(4,[40])::(jt (us.map τ)++(4,[41])::(k,w)::G):=by rw[hs];simp
 have hs1:=dE hs
 rw[Ke hs hf]
 refine(jA (s:=step1 s) hd (P:=λl s2=>Mv {step1 s with deep:=s.deep+1,quiet:=true} s2 ((k,w)::G)/\uK f s2.ex us l) λm hm=>?_).bind λl s' hx=>?_
 ·subst hm
  have h0:gX ({step1 s with deep:=s.deep+1,quiet:=true}:PS)=(4,[40])::(jt (us.map τ)++(4,[41])::(k,w)::G):=hs1
  refine(Co (.inl rfl) hP (dE h0) (by show s.deep+1+m=24;omega)).mono λl s2 hx=>⟨(cW h0).trans hx.1,hx.2⟩
 ·obtain⟨s2,⟨hm,hl⟩,rfl⟩:=hx
  have hm':=xC (s:=step1 s) hm
  exact kE.mono (nR (a:=⟨12,t,us,[],a⟩) (b:=⟨12,t,l,[],(cur s).a⟩) hm'.fr hi rfl rfl rfl hl) λx s' hx=>⟨((cW hs).trans hm').trans hx.1,hx.2⟩
theorem Nm{us:List Nat}{a:Int}{τ:Nat->List KT}(hi:f[i]?=some ⟨7,[],us,[],a⟩)(hP:∀u∈us,AP N f u (τ u)):Pp N f i ((4,[91])::(jt (us.map τ)++[(4,[93])])):=nS λn s k w G hs hn hq hd=>by
 have hs:gX s=(4,[91])::(jt (us.map τ)++(4,[93])::(k,w)::G):=by rw[hs];simp
 rw[GB hs]
 refine(jA hd (P:=λe s2=>Mv {s with deep:=s.deep+1,quiet:=true} s2 ((k,w)::G)/\e.k=7/\e.t=[]/\e.keys=[]/\uK f s2.ex us e.args) λm hm=>?_).bind λe s' hx=>?_
 ·subst hm
  have h0:gX ({s with deep:=s.deep+1,quiet:=true}:PS)=(4,[91])::(jt (us.map τ)++(4,[93])::(k,w)::G):=hs
  have h1:=dE h0
  obtain⟨k0,w0,U,e0,h5,hf0⟩:∃k0 w0 U,jt (us.map τ)++(4,[93])::(k,w)::G=(k0,w0)::U/\k0≠5/\(k0≠1\/w0≠oH):=by
   cases us with
   |nil=>exact⟨4,[93],_,rfl,by decide,.inl (by decide)⟩
   |cons u us=>
    obtain⟨k0,w0,U,e,h5,_,_,h1⟩:=(hP u (by simp)).ht.head (F:=(us.flatMap λu=>((4:Int),([44]:Str))::τ u)++(4,[93])::(k,w)::G);refine⟨k0,w0,U,?_,h5,?_⟩
    ·rw[<-e,bS,tU,bB,zP]
    ·by_cases hk:k0=1
     ·exact .inr (h1 hk)
     ·exact .inl hk
  have h1':=h1;rw[e0]at h1';obtain⟨g1,g2,g3⟩:=eF h1' (.inr h5);unfold qY;simp only;rw[aF (by rw[g2,g3];exact hf0),g1];refine(Co (.inr rfl) hP h1 (by show s.deep+1+m=24;omega)).bind λl s2 hx=>?_;exact⟨(cW h0).trans hx.1,rfl,rfl,rfl,hx.2⟩
 ·obtain⟨s2,⟨hm,e1,e2,e3,hl⟩,rfl⟩:=hx;have hm':=xC hm;exact kE.mono (nR hm'.fr hi e1 e2 e3 hl) λx s' hx=>⟨hm'.trans hx.1,hx.2⟩
theorem VR{g:List Ex}{u x:Nat}(h:sH f g u x):uK f g [u] [x]:=(uK.nil f g).snoc h
theorem VQ{g:List Ex}{u v x y:Nat}(h:sH f g u x)(h':sH f g v y):uK f g [u,v] [x,y]:=(VR h).snoc h'
theorem Wj{g:List Ex}{u v z x y y':Nat}(h:sH f g u x)(h':sH f g v y)(h2:sH f g z y'):uK f g [u,v,z] [x,y,y']:=(VQ h h').snoc h2
theorem AP.at_{u:Nat}{T:List KT}(h:AP N f u T){m:Nat}{s1:PS}{w:Str}{F:List KT}(hw:w∈Cf)(hs:gX s1=T++(4,w)::F)(hd:s1.deep+m=24):kE N ((gV m).1 s1) (λx s2=>Mv s1 s2 ((4,w)::F)/\sH f s2.ex u x):=h.pp.expr h.ht hs (λ_=>hw) (xS _) hd
theorem GL{s:PS}{x:KT}{F:List KT}(h:gX s=x::F):∃j,s.toks.length=j+1:=⟨s.toks.length-1,by have:=BZ h;simp only[aA]at this;omega⟩
theorem Np{u:Nat}{t:Str}{a:Int}{T:List KT}(hi:f[i]?=some ⟨10,t,[u],[],a⟩)(hu:AP N f u T):Pp N f i ((4,[40])::(T++[(4,[41]),(4,[46]),(1,t)])):=λn s k w G hs hn hq hd=>by
 have hs:gX s=(4,[40])::(T++(4,[41])::(4,[46])::(1,t)::(k,w)::G):=by rw[hs];simp
 obtain⟨j,hj⟩:=GL hs
 refine kE.bind (r:=iL (zR n) s) (wI (Q:=λx ex=>sH f ex u x) hs hd λm s1 h1 h2=>hu.at_ (by decide) h1 h2) λx s1 ⟨h1,h2⟩=>?_
 show kE N (iV (zR n) (s.toks.length+1) s1 x) _
 rw[hj,iV]
 rw[(eF h1.fr (xS _)).1,jS h1.fr]
 simp only[gY]
 have h3:=dE h1.fr
 obtain⟨t',e1,e2,e3⟩:=tW h3 (.inr (by decide)) (by decide)
 rw[e1]
 have h4:=dE h3
 show kE N ((lL (step1 (step1 s1)) ⟨10,t'.t,[x],[],(cur s1).a⟩).bind λy s3=>iV (zR n) (j+1) s3 y) _
 refine kE.bind (nR (a:=⟨10,t,[u],[],a⟩) (b:=⟨10,t'.t,[x],[],(cur s1).a⟩) h4 hi rfl e3 rfl (VR h2)) λy s3 ⟨h5,h6⟩=>?_
 rw[yO h5.fr hn (h5.qt (show Qt s1 k from h1.qt hq))]
 exact⟨(((h1.trans (cW h1.fr)).trans (cW h3))).trans h5,h6⟩
theorem KY{u:Nat}{t:Str}{a:Int}{T:List KT}(hi:f[i]?=some ⟨30,t,[u],[],a⟩)(hu:AP N f u T):Pp N f i ((4,[40])::(T++[(4,[41]),(4,[91]),(4,[42]),(4,[93]),(4,[46]),(1,t)])):=λn s k w G hs hn hq hd=>by
 have hs:gX s=(4,[40])::(T++(4,[41])::(4,[91])::(4,[42])::(4,[93])::(4,[46])::(1,t)::(k,w)::G):=by rw[hs];simp
 obtain⟨j,hj⟩:=GL hs
 refine kE.bind (r:=iL (zR n) s) (wI (Q:=λx ex=>sH f ex u x) hs hd λm s1 h1 h2=>hu.at_ (by decide) h1 h2) λx s1 ⟨h1,h2⟩=>?_
 show kE N (iV (zR n) (s.toks.length+1) s1 x) _
 rw[hj,iV]
 rw[(eF h1.fr (xS _)).1,jB h1.fr (xS _) (by decide),jM h1.fr]
 simp only[gY]
 rw[aD (by decide)]
 refine(jA (s:=s1) (by rw[h1.deep];exact hd) (P:=λo s2=>o=none/\Mv {s1 with deep:=s1.deep+1,quiet:=true} s2 ((4,[46])::(1,t)::(k,w)::G)) λm hm=>?_).bind λo s' hx=>?_
 ·have h0:gX ({s1 with deep:=s1.deep+1,quiet:=true}:PS)=(4,[91])::(4,[42])::(4,[93])::(4,[46])::(1,t)::(k,w)::G:=h1.fr
  have h3:=dE h0
  rw[jS h3]
  simp only[gY]
  have h4:=dE h3
  rw[qK h4]
  exact⟨rfl,((cW h0).trans (cW h3)).trans (cW h4)⟩
 ·obtain⟨s2,⟨rfl,hm⟩,rfl⟩:=hx
  have hm':=xC hm
  show kE N ((jR _ [46]).bind _) _
  rw[qK hm'.fr]
  have h3:=dE hm'.fr
  obtain⟨t',e1,e2,e3⟩:=tW h3 (.inr (by decide)) (by decide)
  show kE N ((iC _ 1).bind _) _
  rw[e1]
  have h4:=dE h3
  show kE N ((lL _ ⟨30,t'.t,[x],[],(cur s1).a⟩).bind λy s3=>iV (zR n) (j+1) s3 y) _
  refine(nR (a:=⟨30,t,[u],[],a⟩) (b:=⟨30,t'.t,[x],[],(cur s1).a⟩) h4 hi rfl e3 rfl (VR (h2.mono hm'.ex))).bind λy s3 ⟨h5,h6⟩=>?_
  rw[yO h5.fr hn (h5.qt (show Qt s1 k from h1.qt hq))]
  exact⟨(((h1.trans hm').trans (cW hm'.fr)).trans (cW h3)).trans h5,h6⟩
theorem KZ{u v:Nat}{a:Int}{T U:List KT}(hi:f[i]?=some ⟨11,[],[u,v],[],a⟩)(hu:AP N f u T)(hv:AP N f v U):Pp N f i ((4,[40])::(T++(4,[41])::(4,[91])::(U++[(4,[93])]))):=λn s k w G hs hn hq hd=>by
 have hs:gX s=(4,[40])::(T++(4,[41])::(4,[91])::(U++(4,[93])::(k,w)::G)):=by rw[hs];simp
 obtain⟨j,hj⟩:=GL hs
 refine kE.bind (r:=iL (zR n) s) (wI (Q:=λx ex=>sH f ex u x) hs hd λm s1 h1 h2=>hu.at_ (by decide) h1 h2) λx s1 ⟨h1,h2⟩=>?_
 show kE N (iV (zR n) (s.toks.length+1) s1 x) _
 rw[hj,iV]
 rw[(eF h1.fr (xS _)).1,jB h1.fr (xS _) (by decide),jM h1.fr]
 simp only[gY]
 rw[aD (by decide)]
 refine(jA (s:=s1) (by rw[h1.deep];exact hd) (P:=λo s2=>(∃y,o=some y/\sH f s2.ex v y)/\Mv {s1 with deep:=s1.deep+1,quiet:=true} s2 ((k,w)::G)) λm hm=>?_).bind λo s' hx=>?_
 ·have h0:gX ({s1 with deep:=s1.deep+1,quiet:=true}:PS)=(4,[91])::(U++(4,[93])::(k,w)::G):=h1.fr
  have h3:=dE h0
  rw[hv.take_no h3 (.inr rfl)]
  simp only
  rw[aD (by decide)]
  subst hm
  refine(hv.at_ (m:=m) (by decide) h3 (by show s1.deep+1+m=24;rw[h1.deep];omega)).bind λy s2 ⟨h4,h5⟩=>?_
  rw[qK h4.fr]
  exact⟨⟨y,rfl,h5⟩,((cW h0).trans h4).trans (cW h4.fr)⟩
 ·obtain⟨s2,⟨⟨y,rfl,hy⟩,hm⟩,rfl⟩:=hx
  have hm':=xC hm
  show kE N ((lL _ ⟨11,[],[x,y],[],(cur s1).a⟩).bind λy s3=>iV (zR n) (j+1) s3 y) _
  refine(nR (a:=⟨11,[],[u,v],[],a⟩) (b:=⟨11,[],[x,y],[],(cur s1).a⟩) hm'.fr hi rfl rfl rfl (VQ (h2.mono hm'.ex) hy)).bind λz s3 ⟨h5,h6⟩=>?_
  rw[yO h5.fr hn (h5.qt (show Qt s1 k from h1.qt hq))]
  exact⟨(h1.trans hm').trans h5,h6⟩
theorem Eo{w:Str}(hw:w∈Cf):∀n,n<6->lev 4 w n=0:=λn hn=>by unfold lev;rw[aF rfl];exact IJ w hw n hn
theorem Ko{m l:Nat}{s:PS}{F:List KT}{Q:Nat->List Ex->Prop}(hl:l<=6)(h:kE N (iD (zR m) (MD m) l s) (λx s'=>Mv s s' ((4,[41])::F)/\Q x s'.ex)):kE N ((gV m).1 s) (λx s'=>Mv s s' ((4,[41])::F)/\Q x s'.ex):=by
 rw[Ai];refine Dq (k:=4) (w:=[41]) (G:=F) (λx s' hx=>⟨hx.1.fr,xS _⟩) (by decide) ?_;have:=Kn (k:=4) (w:=[41]) (G:=F) (λx s' hx=>⟨hx.1.fr,xS _⟩) h (6-l) (λn h1 h2=>Eo (by decide) n (by omega)) (by omega);rwa[show l+(6-l)=6 by omega]at this
theorem Uy{u:Nat}{kk:Int}{sg:Str}{a:Int}{T:List KT}(hk:kk=13/\sg=[45]\/kk=14/\sg=[33])(hi:f[i]?=some ⟨kk,[],[u],[],a⟩)(hu:AP N f u T):Pp N f i ((4,[40])::(4,sg)::(T++[(4,[41])])):=nS λn s k w G hs hn hq hd=>by
 have hs:gX s=(4,[40])::((4,sg)::T++(4,[41])::(k,w)::G):=by rw[hs];simp
 refine wI (Q:=λx ex=>sH f ex i x) hs hd λm s1 h1 h2=>?_
 refine Ko (Q:=λx ex=>sH f ex i x) (l:=0) (by omega) ?_
 show kE N (nN (zR m) (MD m) s1) _
 have h1:gX s1=(4,sg)::(T++(4,[41])::(k,w)::G):=h1
 have body:∀kb:Int,kb=kk->kE N ((within s1 (cur s1).a s1.quiet λq=>MD m (step1 q)).bind λx s2=>lL s2 ⟨kb,[],[x],[],(cur s1).a⟩) (λx s'=>Mv s1 s' ((4,[41])::(k,w)::G)/\sH f s'.ex i x):=λkb hkb=>by
  refine(jA h2 (P:=λx s2=>Mv {s1 with deep:=s1.deep+1,quiet:=s1.quiet} s2 ((4,[41])::(k,w)::G)/\sH f s2.ex u x) λm' hm=>?_).bind λx s' hx=>?_
  ·subst hm
   have h0:gX ({s1 with deep:=s1.deep+1,quiet:=s1.quiet}:PS)=(4,sg)::(T++(4,[41])::(k,w)::G):=h1
   have h3:=dE h0
   show kE N ((gV m').2 _) _
   rw[JQ]
   refine(hu.pp.sign hu.ht h3 (by decide) (xS _) (by show s1.deep+1+m'=24;omega)).mono λx s2 hx=>⟨(cW h0).trans hx.1,hx.2⟩
  ·obtain⟨s2,⟨hm,hx⟩,rfl⟩:=hx
   have hm':=xC hm
   exact kE.mono (nR (a:=⟨kk,[],[u],[],a⟩) (b:=⟨kb,[],[x],[],(cur s1).a⟩) hm'.fr hi hkb rfl rfl (VR hx)) λx s' hx=>⟨hm'.trans hx.1,hx.2⟩
 unfold nN
 simp only
 rw[(eF h1 (xS _)).1]
 rcases hk with⟨rfl,rfl⟩|⟨rfl,rfl⟩
 ·rw[nX h1 (xS _) (by decide),aD (by decide),jM h1,aF rfl]
  exact body 13 rfl
 ·rw[jM h1,aF rfl]
  exact body 14 rfl
def Bp(k:Int):Str:=mW.getD (k-15).toNat []
theorem KG:∀j,j<13->∃l,l<6/\sT l (mW.getD j [])=15+(j:Int)/\(∀n,n<6->l<n->sT n (mW.getD j [])=0)/\mW.getD j []∈mW/\mW.getD j []≠[46]/\mW.getD j []≠[91]/\mW.getD j []≠[40]:=by
 have h:∀j,j<13->((List.range 6).any λl=>decide (sT l (mW.getD j [])=15+(j:Int))&&(List.range 6).all λn=>decide (l<n->sT n (mW.getD j [])=0))=true/\mW.getD j []∈mW/\mW.getD j []≠[46]/\mW.getD j []≠[91]/\mW.getD j []≠[40]:=by decide
 intro j hj;obtain⟨h1,h2⟩:=h j hj;obtain⟨l,hl,hb⟩:=List.any_eq_true.1 h1;rw[aZ,jE,eR]at hb;exact⟨l,dS.1 hl,hb.1,λn hn=>of_decide_eq_true (hb.2 n (dS.2 hn)),h2⟩
theorem RP{u v:Nat}{kk:Int}{a:Int}{T U:List KT}(hk:15<=kk/\kk<=27)(hi:f[i]?=some ⟨kk,[],[u,v],[],a⟩)(hu:AP N f u T)(hv:AP N f v U):Pp N f i ((4,[40])::(T++(4,Bp kk)::(U++[(4,[41])]))):=nS λn s k w G hs hn hq hd=>by
 obtain⟨j,hj,rfl⟩:∃j:Nat,j<13/\kk=15+(j:Int):=⟨(kk-15).toNat,by omega,by omega⟩
 have esg:Bp (15+(j:Int))=mW.getD j []:=by unfold Bp;rw[show(15+(j:Int)-15).toNat=j by omega]
 obtain⟨l,hl,hjk,hup,_,n1,n2,n3⟩:=KG j hj
 rw[esg]at hs
 generalize mW.getD j []=sg at hs hjk hup n1 n2 n3
 have hs:gX s=(4,[40])::((T++(4,sg)::U)++(4,[41])::(k,w)::G):=by rw[hs];simp
 refine wI (Q:=λx ex=>sH f ex i x) hs hd λm s1 h1 h2=>?_
 refine Ko (Q:=λx ex=>sH f ex i x) (l:=5-l+1) (by omega) ?_
 have h1:gX s1=T++(4,sg)::(U++(4,[41])::(k,w)::G):=by rw[h1];simp
 have hst:¬((4:Int)=4/\(sg=[46]\/sg=[91]\/sg=[40])):=λe=>by rcases e.2 with h|h|h;exact n1 h;exact n2 h;exact n3 h
 refine kE.bind (r:=iD (zR m) (MD m) (5-l) s1) (hu.pp.join hu.ht h1 hst (xS _) h2 (by omega) λp h3 h4=>by unfold lev;rw[aF rfl];exact hup p h4 (by omega)) λx s2 ⟨g1,g2⟩=>?_
 obtain⟨c1,c2,c3⟩:=eF g1.fr (xS _)
 have hlv:lA (cur s2) (5-(5-l))=15+(j:Int):=by
  rw[show 5-(5-l)=l by omega];unfold lA;rw[c2,c3,aF rfl,hjk]
 obtain⟨q,hq1⟩:∃q,s1.toks.length=q+1:=⟨s1.toks.length-1,by have:=BZ h1;simp only[aB,aA]at this;omega⟩;show kE N (nW (iD (zR m) (MD m) (5-l)) (5-(5-l)) (s1.toks.length+1) s2 x) _;rw[hq1,nW];rw[hlv,aD (by omega),c1];have g3:=dE g1.fr;refine(hv.pp.join hv.ht g3 (by decide) (xS _) (by show s2.deep+m=24;rw[g1.deep];exact h2) (by omega) λp _ h4=>Eo (by decide) p h4).bind λy s3 ⟨g4,g5⟩=>?_;have mv:=(g1.trans (cW g1.fr)).trans g4;refine(nR (a:=⟨15+(j:Int),[],[u,v],[],a⟩) (b:=⟨15+(j:Int),[],[x,y],[],(cur s2).a⟩) g4.fr hi rfl rfl rfl (VQ (g2.mono ((cW g1.fr).trans g4).ex) g5)).bind λz s4 ⟨g6,g7⟩=>?_;obtain⟨d1,d2,d3⟩:=eF g6.fr (xS _);rw[nW];rw[show lA (cur s4) (5-(5-l))=lev 4 [41] (5-(5-l))by unfold lA lev;rw[d2,d3],Eo (by decide) _ (by omega),aF rfl,d1];exact⟨mv.trans g6,g7⟩
theorem Nn{u v z:Nat}{a:Int}{T U V:List KT}(hi:f[i]?=some ⟨28,[],[u,v,z],[],a⟩)(hu:AP N f u T)(hv:AP N f v U)(hz:AP N f z V):Pp N f i ((4,[40])::(T++(4,[63])::(U++(4,[58])::(V++[(4,[41])])))):=nS λn s k w G hs hn hq hd=>by
 have hs:gX s=(4,[40])::((T++(4,[63])::(U++(4,[58])::V))++(4,[41])::(k,w)::G):=by rw[hs];simp
 refine wI (Q:=λx ex=>sH f ex i x) hs hd λm s1 h1 h2=>?_
 have h1:gX s1=T++(4,[63])::(U++(4,[58])::(V++(4,[41])::(k,w)::G)):=by rw[h1];simp
 rw[Ai]
 refine kE.bind (r:=iD (zR m) (MD m) 6 s1) (hu.pp.join hu.ht h1 (by decide) (xS _) h2 (aL _) λp _ h4=>by unfold lev;rw[aF rfl];exact(show∀p,p<6->sT p [63]=0 by decide) p h4) λx s2 ⟨g1,g2⟩=>?_
 simp only
 rw[jS g1.fr]
 simp only[gY]
 have g3:=dE g1.fr
 refine(jA (s:=step1 s2) (by show s2.deep+m=24;rw[g1.deep];exact h2) (P:=λp s3=>Mv {step1 s2 with deep:=s2.deep+1,quiet:=s2.quiet} s3 ((4,[41])::(k,w)::G)/\sH f s3.ex v p.1/\sH f s3.ex z p.2) λm' hm=>?_).bind λp s' hx=>?_
 ·subst hm
  have hd0:({step1 s2 with deep:=s2.deep+1,quiet:=s2.quiet}:PS).deep+m'=24:=by show s2.deep+1+m'=24;rw[g1.deep];omega
  have h0:gX ({step1 s2 with deep:=s2.deep+1,quiet:=s2.quiet}:PS)=U++(4,[58])::(V++(4,[41])::(k,w)::G):=g3
  refine(hv.at_ (m:=m') (by decide) h0 hd0).bind λy s3 ⟨g4,g5⟩=>?_
  rw[qK g4.fr]
  have g6:=dE g4.fr
  refine(hz.at_ (m:=m') (by decide) g6 (by show s3.deep+m'=24;rw[g4.deep];exact hd0)).bind λy2 s4 ⟨g7,g8⟩=>?_
  exact⟨(g4.trans (cW g4.fr)).trans g7,g5.mono ((cW g4.fr).trans g7).ex,g8⟩
 ·obtain⟨s3,⟨hm,e1,e2⟩,rfl⟩:=hx
  have hm':=xC (s:=step1 s2) hm
  exact kE.mono (nR (a:=⟨28,[],[u,v,z],[],a⟩) (b:=⟨28,[],[x,p.1,p.2],[],(cur s2).a⟩) hm'.fr hi rfl rfl rfl (Wj (g2.mono ((cW g1.fr).trans hm').ex) e1 e2)) λx s' hx=>⟨((g1.trans (cW g1.fr)).trans hm').trans hx.1,hx.2⟩
theorem Nl{u v:Nat}{t:Str}{a:Int}{T U:List KT}(hi:f[i]?=some ⟨29,t,[u,v],[],a⟩)(hu:AP N f u T)(hv:AP N f v U):Pp N f i ((4,[91])::(1,oH)::(1,t)::(1,kIn)::(T++(4,[58])::(U++[(4,[93])]))):=nS λn s k w G hs hn hq hd=>by
 have hs:gX s=(4,[91])::(1,oH)::(1,t)::(1,kIn)::(T++(4,[58])::(U++(4,[93])::(k,w)::G)):=by rw[hs];simp
 rw[GB hs]
 refine(jA hd (P:=λe s2=>Mv {s with deep:=s.deep+1,quiet:=true} s2 ((k,w)::G)/\e.k=29/\e.t=t/\e.keys=[]/\uK f s2.ex [u,v] e.args) λm hm=>?_).bind λe s' hx=>?_
 ·subst hm
  have h0:gX ({s with deep:=s.deep+1,quiet:=true}:PS)=(4,[91])::(1,oH)::(1,t)::(1,kIn)::(T++(4,[58])::(U++(4,[93])::(k,w)::G)):=hs
  have h1:=dE h0
  have h2:=dE h1
  have h3:=dE h2
  have h4:=dE h3
  obtain⟨c1,c2,c3⟩:=eF h1 (.inr (by decide))
  obtain⟨t1,a1,a2,a3⟩:=tW h2 (.inr (by decide)) (by decide)
  obtain⟨t2,b1,b2,b3⟩:=tW h3 (.inr (by decide)) (by decide)
  unfold qY
  simp only
  rw[aD (by rw[c2,c3];exactλe=>e.elim (λe=>e rfl) (λe=>e rfl)),c1,a1]
  simp only[R.bind]
  rw[b1]
  simp only[R.bind]
  rw[aD (by rw[b3];exactλe=>e rfl)]
  have hd4:(step1 (step1 (step1 (step1 ({s with deep:=s.deep+1,quiet:=true}:PS))))).deep+m=24:=by show s.deep+1+m=24;omega
  have mv4:=(((cW h0).trans (cW h1)).trans (cW h2)).trans (cW h3)
  refine(hu.at_ (m:=m) (by decide) h4 hd4).bind λx s2 ⟨g1,g2⟩=>?_
  rw[qK g1.fr]
  have g3:=dE g1.fr
  refine(hv.at_ (m:=m) (by decide) g3 (by show s2.deep+m=24;rw[g1.deep];exact hd4)).bind λy s3 ⟨g4,g5⟩=>?_
  rw[qK g4.fr]
  exact⟨(((mv4.trans g1).trans (cW g1.fr)).trans g4).trans (cW g4.fr),rfl,a3,rfl,VQ (g2.mono ((cW g1.fr).trans g4).ex) g5⟩
 ·obtain⟨s2,⟨hm,e1,e2,e3,hl⟩,rfl⟩:=hx
  have hm':=xC hm
  exact kE.mono (nR hm'.fr hi e1 e2 e3 hl) λx s' hx=>⟨hm'.trans hx.1,hx.2⟩
end
section
variable{N:Nat}{f:List Ex}
def BQ(τ:Nat->List KT)(p:Nat×Str):List KT:=(3,Syn.plainM p.2)::(4,[61])::τ p.1
theorem CY{s:PS}{t:Tok}{x:Str}(h:t.t=Syn.plainM x):kX s t=.ok x s:=by
 unfold kX;rw[h,wN,qW,aD (by decide)]
theorem Lp{m:Nat}{F:List KT}{τ:Nat->List KT}{a:Int}:∀(l:List (Nat×Str)),(∀p∈l,AP N f p.1 (τ p.1))->∀(j:Nat) (done out:List Nat) (dk:List Str) (s:PS),l.length<j->(dk++l.map (·.2)).Nodup->gX s=jt (l.map (BQ τ))++(4,[125])::F->s.deep+m=24->s.quiet=false->uK f s.ex done out->
  kE N (tQ (gV m).1 a j s out dk) (λe s'=>Mv s s' F/\e.k=8/\e.t=[]/\e.keys=dk++l.map (·.2)/\uK f s'.ex (done++l.map (·.1)) e.args)
 |[],_,j,done,out,dk,s,hj,hn,hs,hd,hq,ha=>by
  obtain⟨j,rfl⟩:∃i,j=i+1:=⟨j-1,by simp at hj;omega⟩
  have hs:gX s=(4,[125])::F:=hs
  rw[tQ,jS hs,aF rfl]
  simp only[pR,cH]
  exact⟨cW hs,rfl,rfl,rfl,ha⟩
 |p::l,hP,j,done,out,dk,s,hj,hn,hs,hd,hq,ha=>by
  obtain⟨j,rfl⟩:∃i,j=i+1:=⟨j-1,by simp at hj;omega⟩
  have hp:=hP p (by simp)
  have hs:gX s=(3,Syn.plainM p.2)::(4,[61])::(τ p.1++((l.flatMap λq=>(4,[44])::BQ τ q)++(4,[125])::F)):=by
   rw[hs,bS,tU,zP];simp[BQ]
  have q3:Qt s 3:=.inl hq;obtain⟨c1,c2,c3⟩:=eF hs q3;have hs1:=dE hs;have hs2:=dE hs1;rw[tQ,jB hs q3 (λe=>absurd e.1 (by decide)),aD (λe=>by cases e)];dsimp only;rw[c2,aF rfl,EA hs q3 (by decide),CY c3];have hnk:dk.contains p.2=false:=by
   rw[Bool.eq_false_iff];intro hc;have hm:=xV.1 hc;rw[bS,fL]at hn;exact hn.2.2 p.2 hm p.2 (by simp) rfl
  show kE N (if dk.contains p.2=true then _ else(jR (step1 s) [61]).bind _) _;rw[hnk,aD (by decide),qK hs1];obtain⟨wn,Gn,en,hwn⟩:∃wn Gn,(l.flatMap λq=>((4:Int),([44]:Str))::BQ τ q)++(4,[125])::F=(4,wn)::Gn/\wn∈Cf:=by
   cases l with
   |nil=>exact⟨[125],F,rfl,by decide⟩
   |cons v us=>exact⟨[44],_,rfl,by decide⟩
  have hs2':=hs2;rw[en]at hs2';have mv2:=(cW hs).trans (cW hs1);refine(hp.at_ (m:=m) hwn hs2' (show s.deep+m=24 from hd)).bind λx s5 ⟨h1,h2⟩=>?_;have hs5:=h1.fr;rw[<-en]at hs5;have hd5:s5.deep+m=24:=by rw[h1.deep];exact hd
  have hq5:s5.quiet=false:=h1.quiet.trans hq;have hal:=(ha.mono (mv2.trans h1).ex).snoc h2;have fin:∀{s6:PS},Mv s5 s6 (jt (l.map (BQ τ))++(4,[125])::F)->kE N (tQ (gV m).1 a j s6 (out++[x]) (dk++[p.2])) (λe s'=>Mv s s' F/\e.k=8/\e.t=[]/\e.keys=dk++(p::l).map (·.2)/\uK f s'.ex (done++(p::l).map (·.1)) e.args):=λ{s6} h6=>by
   refine(Lp (m:=m) (F:=F) (τ:=τ) (a:=a) l (λq hq=>hP q (aK _ hq)) j (done++[p.1]) (out++[x]) (dk++[p.2]) s6 (by simp only[aA]at hj;omega) (by simpa using hn) h6.fr (by rw[h6.deep];exact hd5) (h6.quiet.trans hq5) (hal.mono h6.ex)).mono λe s' hx=>?_;obtain⟨g1,g2,g3,g4,g5⟩:=hx;refine⟨((mv2.trans h1).trans h6).trans g1,g2,g3,by rw[g4];simp,?_⟩;rw[bB]at g5;exact g5
  cases l with
  |nil=>
   have hs5:gX s5=(4,[125])::F:=hs5;rw[jB hs5 (xS _) (by decide),(eF hs5 (xS _)).1,jM hs5,aD (λe=>absurd e.2.2 (by decide)),aD (λe=>by cases e)];rw[zC hs5 (by decide)];exact fin ⟨rfl,rfl,rfl,rfl,iU _,hs5⟩
  |cons q r=>
   have hs5:gX s5=(4,[44])::((3,Syn.plainM q.2)::((4,[61])::τ q.1++((r.flatMap λq=>(4,[44])::BQ τ q)++(4,[125])::F))):=by rw[hs5];simp[BQ]
   have hs6:=dE hs5;rw[jS hs5,aD (λe=>by cases e.1),aF rfl];rw[zC hs6 (by decide)];refine fin ⟨rfl,rfl,rfl,rfl,iU _,?_⟩;rw[hs6,bS,tU,zP];simp[BQ]
theorem RN{us:List Nat}{ks:List Str}{a:Int}{τ:Nat->List KT}(hi:f[i]?=some ⟨8,[],us,ks,a⟩)(hl:us.length=ks.length)(hn:ks.Nodup)(hP:∀u∈us,AP N f u (τ u)):Pp N f i ((4,[123])::(jt ((us.zip ks).map (BQ τ))++[(4,[125])])):=nS λn s k w G hs hn2 hq hd=>by
 have hs:gX s=(4,[123])::(jt ((us.zip ks).map (BQ τ))++(4,[125])::(k,w)::G):=by rw[hs];simp
 have z1:(us.zip ks).map (·.1)=us:=by rw[List.map_fst_zip];omega
 have z2:(us.zip ks).map (·.2)=ks:=by rw[List.map_snd_zip];omega
 rw[HL hs]
 refine(jA hd (P:=λe s2=>Mv {s with deep:=s.deep+1,quiet:=false} s2 ((k,w)::G)/\e.k=8/\e.t=[]/\e.keys=ks/\uK f s2.ex us e.args) λm hm=>?_).bind λe s' hx=>?_
 ·subst hm
  have h0:gX ({s with deep:=s.deep+1,quiet:=false}:PS)=(4,[123])::(jt ((us.zip ks).map (BQ τ))++(4,[125])::(k,w)::G):=hs
  have h1:=dE h0
  obtain⟨k0,w0,U,e0,h5⟩:∃k0 w0 U,jt ((us.zip ks).map (BQ τ))++(4,[125])::(k,w)::G=(k0,w0)::U/\k0≠5:=by
   cases us.zip ks with
   |nil=>exact⟨4,[125],_,rfl,by decide⟩
   |cons p l=>exact⟨3,Syn.plainM p.2,(4,[61])::τ p.1++((l.map (BQ τ)).flatMap λb=>(4,[44])::b)++(4,[125])::(k,w)::G,by rw[bS,tU];simp[BQ],by decide⟩
  have h1':=h1;rw[e0]at h1';show kE N (tQ (gV m).1 (cur s).a (s.toks.length+1) (dG (step1 {s with deep:=s.deep+1,quiet:=false})) [] []) _;rw[zC h1' h5];have hlen:(us.zip ks).length<s.toks.length+1:=by
   have h2:=BZ hs;have h3:∀l:List (Nat×Str),l.length<=(jt (l.map (BQ τ))).length:=λl=>by
    cases l with
    |nil=>exact cX _
    |cons p l=>
     rw[bS,tU,zP];have:∀l:List (Nat×Str),l.length<=(l.flatMap λq=>((4:Int),([44]:Str))::BQ τ q).length:=λl=>by
      induction l with
      |nil=>exact cX _
      |cons q l ih=>simp only[dL,aB,aA]at ih⊢;omega
     have:=this l;have hi:1<=(BQ τ p).length:=by simp[BQ]
     simp only[aB,aA];omega
   have:=h3 (us.zip ks);simp only[aA,aB]at h2;omega
  refine(Lp (m:=m) (F:=(k,w)::G) (τ:=τ) (a:=(cur s).a) (us.zip ks) (λp hp=>hP p.1 (List.of_mem_zip (a:=p.1) (b:=p.2) hp).1) (s.toks.length+1) [] [] [] _ hlen (by rw[cI,z2];exact hn) h1 (by show s.deep+1+m=24;omega) rfl (uK.nil _ _)).mono λe s2 hx=>?_;obtain⟨g1,g2,g3,g4,g5⟩:=hx;rw[z2]at g4;rw[z1]at g5;exact⟨(cW h0).trans g1,g2,g3,g4,g5⟩
 ·obtain⟨s2,⟨hm,e1,e2,e3,hl⟩,rfl⟩:=hx;have hm':=xC hm;exact kE.mono (nR hm'.fr hi e1 e2 e3 hl) λx s' hx=>⟨hm'.trans hx.1,hx.2⟩
structure IP(N:Nat)(f:List Ex)(A:Str)(u:Nat)(T:List KT):Prop where
 ap:AP N f u T
 sg:Sg N A T []
 utf:Utf A
 le:A.length<=N
 br:Br A
theorem OO{A:Str}{u:Nat}{T:List KT}(h:IP N f A u T){s:PS}{a b:Int}(hd:s.deep+n=24):kE N (within s a false λq=>jU (zR n) q A b) (λx s'=>Mv s s' (gX s)/\sH f s'.ex u x):=by
 refine(jA hd (P:=λx s2=>Mv {s with deep:=s.deep+1,quiet:=false} s2 (gX s)/\sH f s2.ex u x) λm hm=>?_).mono λx s' hx=>?_
 ·subst hm;unfold jU;have hsc:=Fe h.sg h.utf h.le;cases hl:iI A with
  |bad c a=>rw[hl]at hsc;exact hsc
  |ok l=>
   rw[hl]at hsc;have hsc:l.map kt=T++[(0,[])]:=hsc;have h0:gX (⟨l,0,b,s.deep+1,false,s.ex,s.bl⟩:PS)=T++(0,[])::[]:=hsc;refine(h.ap.pp.expr h.ap.ht (n:=m) h0 (λe=>absurd e (by decide)) (.inl rfl) (by show s.deep+1+m=24;omega)).bind λx q ⟨h1,h2⟩=>?_;obtain⟨t,e⟩:=Tf h1.fr;rw[e];exact⟨⟨rfl,rfl,rfl,h1.bl,h1.ex,rfl⟩,h2⟩
 ·obtain⟨s2,⟨hm,hx⟩,rfl⟩:=hx;exact⟨xC hm,hx⟩
def wV(f:List Ex)(sh:Nat->Str):List Nat->List Str->Str
 |u::us,k::ks=>(if k=[116]then Syn.plainM (f.getD u ⟨0,[],[],[],0⟩).t else [36,123]++sh u++[125])++wV f sh us ks
 |_,_=>[]
theorem Ku{sh:Nat->Str}{u:Nat}{x:Str}{a:Int}{us:List Nat}{ks:List Str}(h:f[u]?=some ⟨5,x,[],[],a⟩):wV f sh (u::us) ([116]::ks)=Syn.plainM x++wV f sh us ks:=by
 rw[wV,aF rfl,aH,h];rfl
theorem HV{sh:Nat->Str}{u:Nat}{us:List Nat}{ks:List Str}:wV f sh (u::us) ([101]::ks)=[36,123]++sh u++[125]++wV f sh us ks:=by
 rw[wV,aD (by decide)]
theorem Ju{x:Str}(h:x≠[]):0<(Syn.plainM x).length:=by
 cases x with
 |nil=>exact absurd rfl h
 |cons c s=>
  rw[iZ,aB];have:0<(kG c).length:=by
   have:=qI c;generalize kG c=p at this;cases this<;>simp
  omega
theorem Rj{s:PS}{u:Nat}{x:Str}{a b:Int}(h:f[u]?=some ⟨5,x,[],[],a⟩):sH f (s.ex++[⟨5,x,[],[],b⟩]) u s.ex.length:=by
 refine .mk h (b:=⟨5,x,[],[],b⟩) ?_ rfl rfl rfl rfl λj hj=>by cases hj
 rw[cJ (aL _),Nat.sub_self];rfl
theorem FJ{sh:Nat->Str}{u:Nat}{T:List KT}{us:List Nat}{ks:List Str}{j:Nat}{s1:PS}{rest x:Str}{a:Int}{out done:List Nat}{dk:List Str}(hI:IP N f (sh u) u T)(hr:rest=Syn.plainM x++([36,123]++sh u++[125]++wV f sh us ks))(hd:s1.deep+n=24)(ha:uK f s1.ex done out)
  (ih:∀(s:PS) (a:Int) (out:List Nat),s.deep+n=24->uK f s.ex (done++[u]) out->kE N (gT (zR n) j s (wV f sh us ks) a out (dk++[[101]])) (λp s'=>Mv s s' (gX s)/\p.2=(dk++[[101]])++ks/\uK f s'.ex ((done++[u])++us) p.1)):
  kE N ((within s1 (a+(Syn.plainM x).length) false λq=>jU (zR n) q ((rest.drop ((Syn.plainM x).length+2)).take ((Syn.plainM x).length+((sh u).length+3)-1-((Syn.plainM x).length+2))) (a+(Syn.plainM x).length+2)).bind λy s2=>gT (zR n) j s2 (rest.drop ((Syn.plainM x).length+((sh u).length+3))) (a+((Syn.plainM x).length+((sh u).length+3):Nat)) (out++[y]) (dk++[[101]])) (λp s'=>Mv s1 s' (gX s1)/\p.2=dk++[101]::ks/\uK f s'.ex (done++u::us) p.1):=by
 have e1:(rest.drop ((Syn.plainM x).length+2)).take ((Syn.plainM x).length+((sh u).length+3)-1-((Syn.plainM x).length+2))=sh u:=by
  rw[hr,<-dY,oU,show(Syn.plainM x).length+((sh u).length+3)-1-((Syn.plainM x).length+2)=(sh u).length by omega];simp
 have e2:rest.drop ((Syn.plainM x).length+((sh u).length+3))=wV f sh us ks:=by
  rw[hr,<-dY,oU];have:([36,123]++sh u++[125]).length=(sh u).length+3:=by simp
  rw[<-this];exact oU
 rw[e1,e2];refine(OO hI hd).bind λy s2 ⟨h1,h2⟩=>?_;refine(ih s2 _ (out++[y]) (by rw[h1.deep];exact hd) ((ha.mono h1.ex).snoc h2)).mono λp s' hx=>?_;obtain⟨g1,g2,g3⟩:=hx;refine⟨?_,by rw[g2];simp,by simpa using g3⟩;have:=h1.trans g1;rw[h1.fr]at this;exact this
theorem BB{sh:Nat->Str}{τ:Nat->List KT}{n:Nat}:∀(q:Nat) (us:List Nat) (ks:List Str),us.length<=q->Tp f true us ks->(∀u∈us,(∃x a,f[u]?=some ⟨5,x,[],[],a⟩)\/IP N f (sh u) u (τ u))->(∀(j:Nat) (u:Nat),us[j]?=some u->ks[j]?=some [101]->IP N f (sh u) u (τ u))->
  ∀(j:Nat) (s:PS) (a:Int) (done out:List Nat) (dk:List Str),(wV f sh us ks).length<j->s.deep+n=24->uK f s.ex done out->kE N (gT (zR n) j s (wV f sh us ks) a out dk) (λp s'=>Mv s s' (gX s)/\p.2=dk++ks/\uK f s'.ex (done++us) p.1)
 |q,us,ks,hq,hT,hP,hE,j,s,a,done,out,dk,hj,hd,ha=>by
  obtain⟨j,rfl⟩:∃i,j=i+1:=⟨j-1,by omega⟩
  cases hT with
  |nil b=>
   rw[gT,aF (show wV f sh [] []=[]from rfl)]
   exact⟨⟨rfl,rfl,rfl,rfl,iU _,rfl⟩,by simp,by simpa using ha⟩
  |@e _ u us ks h=>
   obtain⟨q,rfl⟩:∃i,q=i+1:=⟨q-1,by simp at hq;omega⟩
   have hI:=hE 0 u rfl rfl
   have hr:wV f sh (u::us) ([101]::ks)=Syn.plainM []++([36,123]++sh u++[125]++wV f sh us ks):=HV
   have hin:=wO hI.br (wV f sh us ks) []
   rw[<-hr]at hin
   rw[gT,aD (by rw[hr];simp),hin]
   dsimp only
   have h0:¬0<(Syn.plainM []).length:=λe=>by cases e
   rw[aD h0,aD h0,aD h0,aF (by omega)]
   refine FJ hI hr hd ha λs' a' out' hd' ha'=>?_
   refine BB q us ks (by simp at hq;omega) h (λv hv=>hP v (aK _ hv)) (λi v h1 h2=>hE (i+1) v h1 h2) j s' a' (done++[u]) out' (dk++[[101]]) ?_ hd' ha'
   rw[hr]at hj
   simp only[aB,aA]at hj
   omega
  |@t u a0 x us ks hu hx h=>
   have hpos:=Ju hx
   have hal:uK f (s.ex++[⟨5,x,[],[],a⟩]) (done++[u]) (out++[s.ex.length]):=(ha.mono (iM _ _)).snoc (Rj hu)
   have mv0:Mv s {s with ex:=s.ex++[⟨5,x,[],[],a⟩]} (gX s):=⟨rfl,rfl,rfl,rfl,iM _ _,rfl⟩
   rw[Ku hu]at hj⊢
   cases h with
   |nil b=>
    have e:wV f sh [] []=[]:=rfl
    rw[e,cH,gT,aD (λe=>by rw[e]at hpos;cases hpos),wN,qW]
    exact⟨mv0,by simp,by simpa using hal⟩
   |@e _ v us ks h=>
    obtain⟨q,rfl⟩:∃i,q=i+2:=⟨q-2,by simp at hq;omega⟩
    have hI:=hE 1 v rfl rfl
    generalize hrest:Syn.plainM x++wV f sh (v::us) ([101]::ks)=rest at hj
    have hr:rest=Syn.plainM x++([36,123]++sh v++[125]++wV f sh us ks):=by rw[<-hrest,HV]
    have hin:=wO hI.br (wV f sh us ks) x
    rw[<-hr]at hin
    have htk:rest.take (Syn.plainM x).length=Syn.plainM x:=by rw[hr];exact rG
    rw[gT,aD (by rw[hr];intro e;rw[List.append_eq_nil_iff]at e;rw[e.1]at hpos;cases hpos),hin]
    dsimp only
    rw[aF hpos,aF hpos,aF hpos,aF (by omega),htk,qW]
    refine(FJ (s1:={s with ex:=s.ex++[⟨5,x,[],[],a⟩]}) (dk:=dk++[[116]]) hI hr hd hal λs' a' out' hd' ha'=>?_).mono λp s' hx=>?_
    ·refine BB q us ks (by simp at hq;omega) h (λv hv=>hP v (by simp[hv])) (λi v h1 h2=>hE (i+2) v h1 h2) j s' a' ((done++[u])++[v]) out' ((dk++[[116]])++[[101]]) ?_ hd' ha'
     rw[hr]at hj
     simp only[aB,aA]at hj
     omega
    ·obtain⟨g1,g2,g3⟩:=hx
     exact⟨mv0.trans g1,by rw[g2];simp,by simpa using g3⟩
theorem Rm{b:Bool}{us:List Nat}{ks:List Str}(h:Tp f b us ks):us.length=ks.length:=by
 induction h with
 |nil b=>rfl
 |t h hn h' ih=>simp[ih]
 |e h ih=>simp[ih]
theorem JE{sh:Nat->Str}{b:Bool}{us:List Nat}{ks:List Str}(h:Tp f b us ks)(he:[101]∈ks)(hB:∀(j:Nat) (u:Nat),us[j]?=some u->ks[j]?=some [101]->Br (sh u)):∀pre:Str,(Syn.insP (Syn.plainM pre++wV f sh us ks)).isSome=true:=by
 induction h with
 |nil b=>cases he
 |@t u a x us ks h hn h' ih=>
  intro pre;rw[Ku h];have:[101]∈ks:=by
   rcases bC.1 he with e|e
   ·exact absurd e (by decide)
   ·exact e
  have:=ih this (λj v h1 h2=>hB (j+1) v h1 h2) (pre++x);rwa[show Syn.plainM (pre++x)=Syn.plainM pre++Syn.plainM x by unfold Syn.plainM;rw[List.flatMap_append],bB]at this
 |@e b u us ks h ih=>
  intro pre;rw[HV,wO (hB 0 u rfl rfl)];rfl
theorem RJ{sh:Nat->Str}{τ:Nat->List KT}{us:List Nat}{ks:List Str}{a:Int}(hi:f[i]?=some ⟨6,[],us,ks,a⟩)(hT:Tp f true us ks)(he:[101]∈ks)(hE:∀(j:Nat) (u:Nat),us[j]?=some u->ks[j]?=some [101]->IP N f (sh u) u (τ u)):Pp N f i [(3,wV f sh us ks)]:=nS λn s k w G hs hn hq hd=>by
 have hs:gX s=(3,wV f sh us ks)::(k,w)::G:=hs
 have hc:=(eF hs (.inr (show(3:Int)≠5 by decide))).2.2
 have hin:=JE (sh:=sh) hT he (λj u h1 h2=>(hE j u h1 h2).br) []
 have hin:(Syn.insP (wV f sh us ks)).isSome=true:=hin
 have hP:∀{b:Bool} {us:List Nat} {ks:List Str},Tp f b us ks->(∀(j:Nat) (u:Nat),us[j]?=some u->ks[j]?=some [101]->IP N f (sh u) u (τ u))->∀u∈us,(∃x a,f[u]?=some ⟨5,x,[],[],a⟩)\/IP N f (sh u) u (τ u):=λ{b} {us} {ks} h=>by
  induction h with
  |nil b=>intro _ u hu;cases hu
  |t h hn h' ih=>
   intro hE u hu
   rcases bC.1 hu with rfl|hu
   ·exact .inl ⟨_,_,h⟩
   ·exact ih (λj v h1 h2=>hE (j+1) v h1 h2) u hu
  |e h ih=>
   intro hE u hu
   rcases bC.1 hu with rfl|hu
   ·exact .inr (hE 0 _ rfl rfl)
   ·exact ih (λj v h1 h2=>hE (j+1) v h1 h2) u hu
 rw[Gz hs]
 unfold qT
 rw[hc,hin,aF rfl]
 have h1:=dE hs
 refine(BB us.length us ks (aL _) hT (hP hT hE) hE ((wV f sh us ks).length+1) (step1 s) ((cur s).a+1) [] [] [] (zN _) hd (uK.nil _ _)).bind λp s' hx=>?_
 obtain⟨g1,g2,g3⟩:=hx
 rw[h1]at g1
 exact kE.mono (nR (a:=⟨6,[],us,ks,a⟩) (b:=⟨6,[],p.1,p.2,(cur s).a⟩) g1.fr hi rfl rfl g2 g3) λx s' hx=>⟨((cW hs).trans g1).trans hx.1,hx.2⟩
end
theorem Hh(h:c.toNat<128):∀d∈kG c,d.toNat<128:=by
 intro d hd;have hp:=qI c;generalize kG c=q at hp hd;cases hp with
 |esc e h2 _=>
  simp only[bC,dH,mD]at hd;rcases hd with rfl|rfl
  ·decide
  ·unfold Lex.escOk at h2;simp only[eB,fI]at h2;rcases h2 with((((rfl|rfl)|rfl)|rfl)|rfl)|rfl<;>decide
 |lit _ _ _ _=>
  rw[aU]at hd;subst hd;exact h
theorem FA(h:128<=c.toNat):kG c=[c]:=by
 have hne:∀n:UInt8,n.toNat<128->c≠n:=λn hn e=>by rw[e]at h;omega
 unfold kG;rw[aD (λe=>by rcases e with e|e|e;exact hne 92 (by decide) e;exact hne 34 (by decide) e;exact hne 36 (by decide) e),aD (hne 10 (by decide)),aD (hne 9 (by decide)),aD (hne 13 (by decide))]
theorem On(a b:Str):Syn.plainM (a++b)=Syn.plainM a++Syn.plainM b:=by unfold Syn.plainM;rw[List.flatMap_append]
theorem wD{s:Str}(h:Utf s):Utf (Syn.plainM s):=by
 induction h with
 |nil=>exact .nil
 |@cons u r hu hr ih=>
  rw[On];refine Utf.app ?_ ih;rcases hu.cases with⟨x,rfl,hx⟩|hh
  ·refine gM λc hc=>?_;rw[iZ,show Syn.plainM []=[]from rfl,cH]at hc;exact Hh hx c hc
  ·have:Syn.plainM u=u:=by
    clear hu;induction u with
    |nil=>rfl
    |cons c u ih2=>rw[iZ,FA (hh c (by simp)),ih2 λd hd=>hh d (aK _ hd)];rfl
   rw[this];exact Utf.one hu
structure DD(N:Nat)(f:Fl)(u:Nat)(T:List KT):Prop where
 pc:Pc N (bL f u) T zQ
 hd:∃c r,bL f u=c::r/\c≠61
 ht:HT T
 pp:(bL f u).length<=N->Pp N f.ex u T
theorem DD.ap{N:Nat}{f:Fl}{u:Nat}{T:List KT}(h:DD N f u T)(hl:(bL f u).length<=N):AP N f.ex u T:=⟨h.pp hl,h.ht⟩
theorem DD.ip{N:Nat}{f:Fl}{u:Nat}{T:List KT}(h:DD N f u T)(hl:(bL f u).length<=N):IP N f.ex (bL f u) u T:=⟨h.ap hl,h.pc.sg [] OV,h.pc.utf,hl,h.pc.br⟩
theorem kP{e:Ex}(h:e.k≠8)(s:Nat->Str):gB e s=e.args.map s:=by
 unfold gB xR;simp only[aD h,cI];apply mB (by simp);intro j h1 h2;simp only[cD]at h2;simp[aH,aG h2]
theorem Hr{a:Str}:∀{l:List Str},a∈l->a.length<=(jn l).length
 |[],h=>by cases h
 |[b],h=>by rw[aU.1 h];exact aL _
 |b::c::l,h=>by
  rw[jn]
  rcases bC.1 h with rfl|h
  ·simp only[aB];omega
  ·have:=Hr (l:=c::l) h
   simp only[aB];omega
section
variable{N:Nat}{f:Fl}{i:Nat}
theorem Ee{t:Str}{T:List KT}(hx:bL f i=t)(hp:Pc N t T NF)(hd:∃c r,t=c::r/\c≠61)(ht:HT T)(pp:Pp N f.ex i T):DD N f i T:=
 ⟨by rw[hx];exact hp.weak λr hr=>hr.nf,by rw[hx];exact hd,ht,λ_=>pp⟩
theorem En{t:Str}(h:nI t):∃c r,t=c::r/\c≠61:=by
 obtain⟨c,r,rfl,hc⟩:=h.hd;exact⟨c,r,rfl,by rintro rfl;exact absurd hc (by decide)⟩
theorem SN{t:Str}(h:MI t):∃c r,t=c::r/\c≠61:=by
 obtain⟨c,r,rfl⟩:=h.hd;exact⟨c,r,rfl,by rintro rfl;exact absurd (h.al 61 (by simp)) (by decide)⟩
theorem yL{A:Str}{T:List KT}{r:Str}{w:Str}{U:List KT}(hx:bL f i=A)(hp:Pc N A T zQ)(hA:A=c::r)(hc:c≠61)(hT:T=(4,w)::U)(hw:w=[40]\/w=[91]\/w=[123])(pp:(bL f i).length<=N->Pp N f.ex i T):DD N f i T:=
 ⟨by rw[hx];exact hp,by rw[hx,hA];exact⟨c,r,rfl,hc⟩,⟨4,w,U,hT,.inr (.inr (.inr ⟨rfl,hw⟩))⟩,pp⟩
theorem KH{kk:Int}{us:List Nat}{a:Int}{l:List Str}(h:15<=kk/\kk<=27):fZ f ⟨kk,[],us,[],a⟩ l=[40]++l.getD 0 []++[32]++Bp kk++[32]++l.getD 1 []++[41]:=by
 unfold fZ;dsimp only;rw[aD (by omega),aD (by omega),aD (by omega),aD (by omega),aD (by omega),aD (by omega),aD (by omega),aD (by omega),aD (by omega),aD (by omega),aD (by omega),aD (by omega),aD (by omega),aD (by omega),aD (by omega),aD (by omega)];rfl
theorem SI{us:List Nat}{τ:Nat->List KT}(hne:us≠[])(hP:∀u∈us,DD N f u (τ u)):Pc N (jn (us.map (bL f))) (jt (us.map τ)) zQ:=by
 have:=Li (N:=N) (us.map λu=>(bL f u,τ u)) (by simpa using hne) (λp hp=>by
  obtain⟨u,hu,rfl⟩:=eU.1 hp;exact(hP u hu).pc)
 rw[gQ,gQ]at this;exact this
theorem Im{A:Str}{T:List KT}{o:UInt8}(ho:o∈Bn/\o≠123/\o≠125)(hc:c∈Bn/\c≠123/\c≠125)(hf:c∈OW)(h:A=[]/\T=[]\/Pc N A T zQ):Pc N ([o]++A++[c]) ([(4,[o])]++T++[(4,[c])]) pQ:=by
 rcases h with⟨rfl,rfl⟩|h
 ·rw[cH,cH];exact(kA ho.1 ho.2).app (kA hc.1 hc.2) λ_ _=>trivial
 ·exact((kA ho.1 ho.2).app h λ_ _=>trivial).app (kA hc.1 hc.2) λr _=>Cc hf r
theorem MB{us:List Nat}{τ:Nat->List KT}(hP:∀u∈us,DD N f u (τ u)):jn (us.map (bL f))=[]/\jt (us.map τ)=[]\/Pc N (jn (us.map (bL f))) (jt (us.map τ)) zQ:=by
 by_cases hne:us=[]
 ·subst hne;exact .inl ⟨rfl,rfl⟩
 ·exact .inr (SI hne hP)
theorem Lx{us:List Nat}{A:Str}{M:Nat}(h:(jn (us.map (bL f))).length<=A.length)(hA:A.length<=M):∀u∈us,(bL f u).length<=M:=λu hu=>by
 have:=Hr (eU.2 ⟨u,hu,rfl⟩:bL f u∈us.map (bL f))
 omega
theorem MW{τ:Nat->List KT}{b:Bool}{us:List Nat}{ks:List Str}(h:Tp f.ex b us ks)(hP:∀u∈us,DD N f u (τ u))(hU:∀(u:Nat) (x:Str) (a:Int),f.ex[u]?=some ⟨5,x,[],[],a⟩->Utf x):Tx (wV f.ex (bL f) us ks)/\Qu (wV f.ex (bL f) us ks)/\Utf (wV f.ex (bL f) us ks)/\∀(j u:Nat),us[j]?=some u->ks[j]?=some [101]->(bL f u).length<=(wV f.ex (bL f) us ks).length:=by
 induction h with
 |nil b=>exact⟨Tx.nil,Qu.nil,.nil,λj u h=>by cases h⟩
 |@t u a x us ks h hn h' ih=>
  obtain⟨h1,h2,h3,h4⟩:=ih λv hv=>hP v (aK _ hv);rw[Ku h];refine⟨(yB x).app h1,(Bv x).app h2,(wD (hU u x a h)).app h3,λj v e1 e2=>?_⟩;cases j with
  |zero=>injection e2 with e2;exact absurd e2 (by decide)
  |succ j=>have:=h4 j v e1 e2;rw[aB];omega
 |@e b u us ks h ih=>
  obtain⟨h1,h2,h3,h4⟩:=ih λv hv=>hP v (aK _ hv);have hu:=(hP u (by simp)).pc;rw[HV];refine⟨(MU hu.in_).app h1,(RE hu.br).app h2,(((gM (s:=[36,123]) (by decide)).app hu.utf).app (gM (by decide))).app h3,λj v e1 e2=>?_⟩;cases j with
  |zero=>injection e1 with e1;subst e1;simp only[aB];omega
  |succ j=>have:=h4 j v e1 e2;rw[aB];omega
theorem Rl{e:Ex}(hl:e.args.length=e.keys.length)(sh:Nat->Str):tF f e (e.args.map sh) (e.args.map sh).length=wV f.ex sh e.args e.keys:=by
 unfold tF;rw[cD];generalize e.args=us at hl;generalize e.keys=ks at hl;induction us generalizing ks with
 |nil=>cases ks<;>rfl
 |cons u us ih=>
  cases ks with
  |nil=>cases hl
  |cons k ks=>
   rw[wV,aA,List.range_succ_eq_map,bS,eV,gQ];have:=ih ks (by simpa using hl);rw[<-this];congr 1
def LL(f:Fl)(p:Nat×Str):Str:=[34]++Syn.plainM p.2++[34]++[32]++[61]++[32]++bL f p.1
theorem Lq{us:List Nat}{ks:List Str}{a:Int}(hl:us.length=ks.length):gB ⟨8,[],us,ks,a⟩ (bL f)=(us.zip ks).map (LL f):=by
 unfold gB xR;apply mB (by simp[hl]);intro j h1 h2;simp only[cD,lD]at h1;have hk:j<ks.length:=by omega
 simp only[oQ,List.getElem_range,List.getElem_zip,gY,aH,aG h1,aG hk,Option.getD_some,LL];simp
theorem UA{τ:Nat->List KT}{p:Nat×Str}(h:DD N f p.1 (τ p.1))(hu:Utf p.2):Pc N (LL f p) (BQ τ p) zQ:=by
 have h1:Pc N ([34]++Syn.plainM p.2++[34]) [(3,Syn.plainM p.2)] pQ:=Ei (yB _) (Bv _) (wD hu);have h2:Pc N ([34]++Syn.plainM p.2++[34]++[32]) ([(3,Syn.plainM p.2)]++[]) pQ:=h1.app pO λ_ _=>trivial;have h3:Pc N ([61]++[32]) ([(4,[61])]++[]) pQ:=(QJ (w:=[61]) (by decide)).app pO λr _=>⟨r,rfl⟩;have:=(h2.app h3 λ_ _=>trivial).app h.pc λ_ _=>trivial;unfold LL BQ;simpa using this
end
section
variable{N:Nat}{f:Fl}{i:Nat}
theorem Hd{kk:Int}{a:Int}{t:Str}(hi:f.ex[i]?=some ⟨kk,[],[],[],a⟩)(hx:bL f i=t)(ht:nI t)(hk:kJ t=kk)(h9:kk≠9)(hf:t≠oH):DD N f i [(1,t)]:=
 Ee hx (rP ht) (En ht) ⟨1,t,[],rfl,.inl ⟨rfl,hf⟩⟩ (Ik hi hk (by rw[hk,aD h9]) hf)
theorem e8{e:Ex}{k:Int}(h:decide (k≠8)=true)(he:e.k=k):e.k≠8:=by rw[he];exact of_decide_eq_true h
theorem SH{A t:Str}{T:List KT}(h:Pc N A T zQ)(ht:nI t):Pc N ([40]++A++[41]++[46]++t) ([(4,[40])]++T++[(4,[41])]++[(4,[46])]++[(1,t)]) zQ:=
 (((Aa h Dp).app (kA (by decide) (by decide)) λ_ _=>trivial).app (rP ht) λ_ _=>trivial).weak λ_ hr=>hr.nf
theorem RI(hS:SA f.ex)(hA:∀(i:Nat) (e:Ex),f.ex[i]?=some e->∀a∈e.args,a<i):∀i,i<f.ex.length->∃T,DD N f i T:=by
 have hU:∀(u:Nat) (x:Str) (a:Int),f.ex[u]?=some ⟨5,x,[],[],a⟩->Utf x:=λu x a h=>by
  have:=hS _ (bW h);cases this with
  |lit=>rename_i h5;rcases h5 with h5|h5|h5<;>cases h5
  |text=>rename_i h5;exact h5
 intro i;induction i using Nat.strongRecOn with
 |ind i ih=>
  intro hil;obtain⟨e,he⟩:∃e,f.ex[i]?=some e:=⟨_,aG hil⟩;have hSE:=hS e (bW he);have hx:=zF hA he;have hlt:=hA i e he;obtain⟨τ,hτ⟩:∃τ:Nat->List KT,∀u∈e.args,DD N f u (τ u):=by
   classical
   have ih':∀u∈e.args,∃T,DD N f u T:=λu hu=>ih u (hlt u hu) (by have:=hlt u hu;omega);exact⟨λu=>if h:∃T,DD N f u T then Classical.choose h else [],λu hu=>by
    have h:=ih' u hu;simp only[dif_pos h];exact Classical.choose_spec h⟩
  clear ih;cases hSE with
  |lit a h=>
   rcases h with rfl|rfl|rfl
   ·exact⟨_,Hd (t:=[110,117,108,108]) he hx ⟨⟨110,[117,108,108],rfl,by decide⟩,by decide,by decide⟩ (by decide) (by decide) (by decide)⟩
   ·exact⟨_,Hd (t:=[116,114,117,101]) he hx ⟨⟨116,[114,117,101],rfl,by decide⟩,by decide,by decide⟩ (by decide) (by decide) (by decide)⟩
   ·exact⟨_,Hd (t:=[102,97,108,115,101]) he hx ⟨⟨102,[97,108,115,101],rfl,by decide⟩,by decide,by decide⟩ (by decide) (by decide) (by decide)⟩
  |@int t a h=>exact⟨_,Ee (t:=t) hx (SG h) (SN h) ⟨2,t,[],rfl,.inr (.inl rfl)⟩ (RO he)⟩
  |@text t a h=>
   have hx:bL f i=[34]++Syn.plainM t++[34]:=hx;exact⟨[(3,Syn.plainM t)],⟨by rw[hx];exact(Ei (yB t) (Bv t) (wD h)).weak λ_ _=>trivial,by rw[hx];exact⟨34,_,rfl,by decide⟩,⟨3,_,[],rfl,.inr (.inr (.inl rfl))⟩,λ_=>Nk he⟩⟩
  |@tpl us ks a h hin=>
   have hl:=Rm h;have hx:bL f i=[34]++wV f.ex (bL f) us ks++[34]:=by
    rw[hx,kP (e8 (k:=6) rfl rfl)];have:=Rl (f:=f) (e:=⟨6,[],us,ks,a⟩) hl (bL f);rw[<-this];rfl
   obtain⟨h1,h2,h3,h4⟩:=MW h hτ hU;refine⟨[(3,wV f.ex (bL f) us ks)],⟨by rw[hx];exact(Ei h1 h2 h3).weak λ_ _=>trivial,by rw[hx];exact⟨34,_,rfl,by decide⟩,⟨3,_,[],rfl,.inr (.inr (.inl rfl))⟩,λhN=>?_⟩⟩;refine RJ (τ:=τ) he h hin λj u e1 e2=>(hτ u (bW e1)).ip ?_;have:=h4 j u e1 e2;rw[hx]at hN;simp only[aB]at hN;omega
  |list us a=>
   have hx:bL f i=[91]++jn (us.map (bL f))++[93]:=by rw[hx,kP (e8 (k:=7) rfl rfl),<-Dh];rfl
   exact⟨_,yL hx ((Im (o:=91) (c:=93) (by decide) (by decide) (by decide) (MB hτ)).weak λ_ _=>trivial) rfl (by decide) rfl (.inr (.inl rfl)) λhN=>Nm he λu hu=>(hτ u hu).ap (Lx (f:=f) (A:=bL f i) (by rw[hx];simp only[aB];omega) hN u hu)⟩
  |@obj us ks a hl hn hu=>
   have hx:bL f i=[123]++jn ((us.zip ks).map (LL f))++[125]:=by rw[hx,Lq hl,<-Dh];rfl
   have hz:∀p∈us.zip ks,p.1∈us/\p.2∈ks:=λp hp=>List.of_mem_zip (a:=p.1) (b:=p.2) hp;have hor:jn ((us.zip ks).map (LL f))=[]/\jt ((us.zip ks).map (BQ τ))=[]\/Pc N (jn ((us.zip ks).map (LL f))) (jt ((us.zip ks).map (BQ τ))) zQ:=by
    by_cases hne:us.zip ks=[]
    ·rw[hne];exact .inl ⟨rfl,rfl⟩
    ·right;have:=Li (N:=N) ((us.zip ks).map λp=>(LL f p,BQ τ p)) (by simpa using hne) (λq hq=>by
      obtain⟨p,hp,rfl⟩:=eU.1 hq;exact UA (hτ p.1 (hz p hp).1) (hu p.2 (hz p hp).2))
     rw[gQ,gQ]at this;exact this
   refine⟨_,yL hx ((Lj hor Tg).weak λ_ _=>trivial) rfl (by decide) rfl (.inr (.inr rfl)) λhN=>RN he hl hn λu hu2=>(hτ u hu2).ap ?_⟩;obtain⟨j,hj⟩:=List.getElem?_of_mem hu2;have hjl:=(bF.1 hj).1;have hp:(u,ks[j]'(by omega))∈us.zip ks:=bW (i:=j) (by rw[List.getElem?_zip_eq_some];exact⟨hj,aG _⟩);have h1:=Hr (eU.2 ⟨_,hp,rfl⟩:LL f (u,ks[j]'(by omega))∈(us.zip ks).map (LL f));rw[hx]at hN;simp only[aB,LL]at h1 hN;omega
  |@name t a h h9 hf=>exact⟨_,Ee (t:=t) hx (rP h) (En h) ⟨1,t,[],rfl,.inl ⟨rfl,hf⟩⟩ (Ik he h9 (by rw[h9];rfl) hf)⟩
  |@attr t u a h=>
   have hu:=hτ u (by simp);have hx:bL f i=[40]++bL f u++[41]++[46]++t:=by
    rw[hx,kP (e8 (k:=10) rfl rfl)];show [40]++bL f u++[41,46]++t=_;simp
   exact⟨(4,[40])::(τ u++[(4,[41]),(4,[46]),(1,t)]),yL hx (by have:=SH hu.pc h;simpa using this) rfl (by decide) rfl (.inl rfl) λhN=>Np he (hu.ap (by rw[hx]at hN;simp only[aB]at hN;omega))⟩
  |index u v a=>
   have hu:=hτ u (by simp);have hv:=hτ v (by simp);have hx:bL f i=[40]++bL f u++[41]++([91]++bL f v++[93]):=by
    rw[hx,kP (e8 (k:=11) rfl rfl)];show [40]++bL f u++[41,91]++bL f v++[93]=_;simp
   refine⟨(4,[40])::(τ u++(4,[41])::(4,[91])::(τ v++[(4,[93])])),yL hx ?_ rfl (by decide) rfl (.inl rfl) λhN=>KZ he (hu.ap (by rw[hx]at hN;simp only[aB]at hN;omega)) (hv.ap (by rw[hx]at hN;simp only[aB]at hN;omega))⟩;have:=((Aa hu.pc Dp).app (Hi hv.pc QO) λ_ _=>trivial).weak (ok':=zQ) λ_ _=>trivial;simpa using this
  |@call t us a h hf=>
   have hx:bL f i=t++([40]++jn (us.map (bL f))++[41]):=by
    rw[hx,kP (e8 (k:=12) rfl rfl),<-Dh];show t++[40]++_++[41]=_;simp only[bB]
   have hp:Pc N (t++([40]++jn (us.map (bL f))++[41])) ([(1,t)]++([(4,[40])]++jt (us.map τ)++[(4,[41])])) zQ:=
    ((rP h).app (Im (o:=40) (c:=41) (by decide) (by decide) (by decide) (MB hτ)) λr _=>Lu (by decide) _).weak λ_ _=>trivial
   obtain⟨c,r,ec,hc⟩:=En h;refine⟨(1,t)::(4,[40])::(jt (us.map τ)++[(4,[41])]),⟨by rw[hx];simpa using hp,by rw[hx,ec];exact⟨c,_,rfl,hc⟩,⟨1,t,_,rfl,.inl ⟨rfl,hf⟩⟩,λhN=>No he hf λu hu=>(hτ u hu).ap (Lx (f:=f) (A:=bL f i) (by rw[hx];simp only[aB];omega) hN u hu)⟩⟩
  |@un kk u a h=>
   have hu:=hτ u (by simp);obtain⟨sg,hk,hx,hp⟩:∃sg,(kk=13/\sg=[45]\/kk=14/\sg=[33])/\bL f i=[40]++(sg++bL f u)++[41]/\Pc N (sg++bL f u) ([(4,sg)]++τ u) zQ:=by
    rcases h with rfl|rfl
    ·refine⟨[45],.inl ⟨rfl,rfl⟩,?_,(kA (by decide) (by decide)).app hu.pc λ_ _=>trivial⟩;rw[hx,kP (e8 (k:=13) rfl rfl)];show [40,45]++joinL [bL f u] [44,32]++[41]=_;rw[Dh,jn];simp
    ·refine⟨[33],.inr ⟨rfl,rfl⟩,?_,?_⟩
     ·rw[hx,kP (e8 (k:=14) rfl rfl)];show [40,33]++joinL [bL f u] [44,32]++[41]=_;rw[Dh,jn];simp
     ·obtain⟨c,r,ec,hc⟩:=hu.hd;have h1:Pc N [33] [(4,[33])] (λr=>∃c x,r=c::x/\c≠61):=⟨gM (by decide),λr ⟨c,x,e,h⟩=>by rw[e];exact Rx h x,LU (by decide),Pg (by decide)⟩;exact h1.app hu.pc λs _=>⟨c,r++s,by rw[ec];rfl,hc⟩
   refine⟨(4,[40])::(4,sg)::(τ u++[(4,[41])]),yL hx ?_ rfl (by decide) rfl (.inl rfl) λhN=>Uy hk he (hu.ap (by rw[hx]at hN;simp only[aB]at hN;omega))⟩;have:=(Aa hp Dp).weak (ok':=zQ) λ_ _=>trivial;simpa using this
  |@bin kk u v a h=>
   have hu:=hτ u (by simp);have hv:=hτ v (by simp);have hx:bL f i=[40]++(bL f u++[32]++Bp kk++[32]++bL f v)++[41]:=by
    rw[hx,kP (by show kk≠8;omega),KH h];show [40]++bL f u++[32]++Bp kk++[32]++bL f v++[41]=_;simp
   have hw:Pc N (Bp kk) [(4,Bp kk)] Uj:=by
    obtain⟨j,hj,rfl⟩:∃j:Nat,j<13/\kk=15+(j:Int):=⟨(kk-15).toNat,by omega,by omega⟩;have esg:Bp (15+(j:Int))=mW.getD j []:=by unfold Bp;rw[show(15+(j:Int)-15).toNat=j by omega]
    obtain⟨l,_,_,_,hm,_⟩:=KG j hj;rw[esg];exact QJ (aK _ hm)
   refine⟨(4,[40])::(τ u++(4,Bp kk)::(τ v++[(4,[41])])),yL hx ?_ rfl (by decide) rfl (.inl rfl) λhN=>RP h he (hu.ap (by rw[hx]at hN;simp only[aB]at hN;omega)) (hv.ap (by rw[hx]at hN;simp only[aB]at hN;omega))⟩;have:=(Aa (Ej hu.pc hw hv.pc) Dp).weak (ok':=zQ) λ_ _=>trivial;simpa using this
  |cond u v z a=>
   have hu:=hτ u (by simp);have hv:=hτ v (by simp);have hz:=hτ z (by simp);have hx:bL f i=[40]++(bL f u++[32]++[63]++[32]++(bL f v++[32]++[58]++[32]++bL f z))++[41]:=by
    rw[hx,kP (e8 (k:=28) rfl rfl)];show [40]++bL f u++[32,63,32]++bL f v++[32,58,32]++bL f z++[41]=_;simp
   have s1:Pc N [63] [(4,[63])] Uj:=(kA (by decide) (by decide)).weak λ_ _=>trivial;have s2:Pc N [58] [(4,[58])] Uj:=(kA (by decide) (by decide)).weak λ_ _=>trivial;refine⟨(4,[40])::(τ u++(4,[63])::(τ v++(4,[58])::(τ z++[(4,[41])]))),yL hx ?_ rfl (by decide) rfl (.inl rfl) λhN=>Nn he (hu.ap (by rw[hx]at hN;simp only[aB]at hN;omega)) (hv.ap (by rw[hx]at hN;simp only[aB]at hN;omega)) (hz.ap (by rw[hx]at hN;simp only[aB]at hN;omega))⟩;have:=(Aa (Ej hu.pc s1 (Ej hv.pc s2 hz.pc)) Dp).weak (ok':=zQ) λ_ _=>trivial;simpa using this
  |@loop t u v a h=>
   have hu:=hτ u (by simp);have hv:=hτ v (by simp);have hx:bL f i=[91]++(oH++[32]++t++[32]++(kIn++[32])++(bL f u++[32]++[58]++[32]++bL f v))++[93]:=by
    rw[hx,kP (e8 (k:=29) rfl rfl)];show [91,102,111,114,32]++t++[32,105,110,32]++bL f u++[32,58,32]++bL f v++[93]=_;simp[oH,kIn]
   have s2:Pc N [58] [(4,[58])] Uj:=(kA (by decide) (by decide)).weak λ_ _=>trivial;have wf:Pc N oH [(1,oH)] NF:=rP ⟨⟨102,[111,114],rfl,by decide⟩,by decide,by decide⟩;have wi:Pc N kIn [(1,kIn)] NF:=rP ⟨⟨105,[110],rfl,by decide⟩,by decide,by decide⟩;have b1:Pc N (oH++[32]) ([(1,oH)]++[]) pQ:=wf.app pO λr _=>Lu (by decide) _;have b2:Pc N (t++[32]) ([(1,t)]++[]) pQ:=(rP h).app pO λr _=>Lu (by decide) _;have b3:Pc N (kIn++[32]) ([(1,kIn)]++[]) pQ:=wi.app pO λr _=>Lu (by decide) _;refine⟨(4,[91])::(1,oH)::(1,t)::(1,kIn)::(τ u++(4,[58])::(τ v++[(4,[93])])),yL hx ?_ rfl (by decide) rfl (.inr (.inl rfl)) λhN=>Nl he (hu.ap (by rw[hx]at hN;simp only[aB]at hN;omega)) (hv.ap (by rw[hx]at hN;simp only[aB]at hN;omega))⟩;have:=(Hi (((b1.app b2 λ_ _=>trivial).app b3 λ_ _=>trivial).app (Ej hu.pc s2 hv.pc) λ_ _=>trivial) QO).weak (ok':=zQ) λ_ _=>trivial;simpa using this
  |@splat t u a h=>
   have hu:=hτ u (by simp);have hx:bL f i=[40]++bL f u++[41]++([91]++[42]++[93])++[46]++t:=by
    rw[hx,kP (e8 (k:=30) rfl rfl)];show [40]++bL f u++[41,91,42,93,46]++t=_;simp
   refine⟨(4,[40])::(τ u++[(4,[41]),(4,[91]),(4,[42]),(4,[93]),(4,[46]),(1,t)]),yL hx ?_ rfl (by decide) rfl (.inl rfl) λhN=>KY he (hu.ap (by rw[hx]at hN;simp only[aB]at hN;omega))⟩;have hst:Pc N [42] [(4,[42])] pQ:=kA (by decide) (by decide);have:=((((Aa hu.pc Dp).app (Hi hst λ_=>trivial) λ_ _=>trivial).app (kA (c:=46) (by decide) (by decide)) λ_ _=>trivial).app (rP h) λ_ _=>trivial).weak (ok':=zQ) λ_ hr=>hr.nf;simpa using this
end
def HN(f g:List Ex)(us l:List Atr):Prop:=l.length=us.length/\∀(j:Nat) (a b:Atr),us[j]?=some a->l[j]?=some b->b.n=a.n/\sH f g a.e b.e
theorem HN.mono{f g g':List Ex}(hp:g<+:g'){us l:List Atr}(h:HN f g us l):HN f g' us l:=⟨h.1,λj a b h1 h2=>⟨(h.2 j a b h1 h2).1,(h.2 j a b h1 h2).2.mono hp⟩⟩
theorem HN.nil(f g:List Ex):HN f g [] []:=⟨rfl,λj a b h=>by cases h⟩
theorem HN.snoc{f g:List Ex}{us l:List Atr}{u x:Atr}(h:HN f g us l)(hn:x.n=u.n)(hx:sH f g u.e x.e):HN f g (us++[u]) (l++[x]):=by
 have hl:=h.1;refine⟨by simp[hl],λj a b h1 h2=>?_⟩;by_cases hlt:j<us.length
 ·rw[dA hlt]at h1;rw[dA (by omega)]at h2;exact h.2 j a b h1 h2
 ·rw[cJ (by omega)]at h1;rw[cJ (by omega)]at h2;have hj:j-us.length=0:=by have:=(bF.1 h1).1;simp only[aA,aC]at this;omega
  rw[hl,hj]at h2;rw[hj]at h1;simp only[dV,bD]at h1 h2;subst h1 h2;exact⟨hn,hx⟩
inductive Jc (f:Fl) (ex:List Ex) (bl:List Blk):Nat->Nat->Prop
 |mk {i x:Nat} {a b:Blk} (hf:f.bl[i]?=some a) (hg:bl[x]?=some b) (ht:b.typ=a.typ) (hl:b.labels=a.labels) (ha:HN f.ex ex a.attrs b.attrs) (hb:b.blocks.length=a.blocks.length) (h:∀j,j<a.blocks.length->Jc f ex bl (a.blocks.getD j 0) (b.blocks.getD j 0)):Jc f ex bl i x
theorem Jc.mono{f:Fl}{ex ex':List Ex}{bl bl':List Blk}(h1:ex<+:ex')(h2:bl<+:bl'){x:Nat}(h:Jc f ex bl i x):Jc f ex' bl' i x:=by
 induction h with
 |mk hf hg ht hl ha hb h ih=>exact .mk hf (yN h2 hg) ht hl (ha.mono h1) hb ih
def EP(f:Fl)(ex:List Ex)(bl:List Blk)(us l:List Nat):Prop:=l.length=us.length/\∀j,j<us.length->Jc f ex bl (us.getD j 0) (l.getD j 0)
theorem EP.mono{f:Fl}{ex ex':List Ex}{bl bl':List Blk}(h1:ex<+:ex')(h2:bl<+:bl'){us l:List Nat}(h:EP f ex bl us l):EP f ex' bl' us l:=⟨h.1,λj hj=>(h.2 j hj).mono h1 h2⟩
theorem EP.nil(f:Fl)(ex:List Ex)(bl:List Blk):EP f ex bl [] []:=⟨rfl,λj h=>by cases h⟩
theorem EP.snoc{f:Fl}{ex:List Ex}{bl:List Blk}{us l:List Nat}{u x:Nat}(h:EP f ex bl us l)(hx:Jc f ex bl u x):EP f ex bl (us++[u]) (l++[x]):=by
 have hl:=h.1;refine⟨by simp[h.1],λj hj=>?_⟩;simp only[aB,aA,aC]at hj;by_cases hlt:j<us.length
 ·have:=h.2 j hlt;rw[aH,aH,dA hlt,dA (by rw[h.1];exact hlt),<-aH,<-aH];exact this
 ·have:j=us.length:=by omega
  subst this;rw[aH,aH,cJ (aL _),cJ (by omega),h.1];simpa using hx
structure Mw(s s':PS)(F:List KT):Prop where
 toks:s'.toks=s.toks
 deep:s'.deep=s.deep
 quiet:s'.quiet=s.quiet
 bl:s.bl<+:s'.bl
 ex:s.ex<+:s'.ex
 fr:gX s'=F
theorem Mv.tw{s s':PS}{F:List KT}(h:Mv s s' F):Mw s s' F:=⟨h.toks,h.deep,h.quiet,by rw[h.bl];exact iU _,h.ex,h.fr⟩
theorem Mw.trans{s s1 s2:PS}{F G:List KT}(h1:Mw s s1 F)(h2:Mw s1 s2 G):Mw s s2 G:=
 ⟨h2.toks.trans h1.toks,h2.deep.trans h1.deep,h2.quiet.trans h1.quiet,h1.bl.trans h2.bl,h1.ex.trans h2.ex,h2.fr⟩
theorem UI{s s2:PS}{q:Bool}{F:List KT}(h:Mw {s with deep:=s.deep+1,quiet:=q} s2 F):Mw s {s2 with deep:=s.deep,quiet:=s.quiet} F:=
 ⟨h.toks,rfl,rfl,h.bl,h.ex,h.fr⟩
def Hp(ls:List Str):List KT:=ls.map λl=>(3,Syn.plainM l)
def AK(τ:Nat->List KT)(a:Atr):List KT:=(1,a.n)::(4,[61])::(τ a.e++[(5,[10])])
def Kb(τ β:Nat->List KT)(b:Blk):List KT:=(1,b.typ)::(Hp b.labels++(4,[123])::(5,[10])::((b.attrs.flatMap (AK τ))++((b.blocks.flatMap λk=>β k++[(5,[10])])++[(4,[125])])))
theorem De{N:Nat}{k:Int}{w:Str}{F:List KT}(hk:k≠3):∀(ls:List Str) (n:Nat) (s:PS) (out:List Str),ls.length<n->gX s=Hp ls++(k,w)::F->s.quiet=false->kE N (kB n s out) (λx s'=>Mv s s' ((k,w)::F)/\x=out++ls)
 |[],n,s,out,hn,hs,hq=>by
  obtain⟨n,rfl⟩:∃m,n=m+1:=⟨n-1,by omega⟩
  have hs:gX s=(k,w)::F:=hs
  obtain⟨c1,c2,c3⟩:=eF hs (.inl hq)
  rw[kB,c2,aD hk,c1]
  exact⟨⟨rfl,rfl,rfl,rfl,iU _,hs⟩,by simp⟩
 |l::ls,n,s,out,hn,hs,hq=>by
  obtain⟨n,rfl⟩:∃m,n=m+1:=⟨n-1,by omega⟩
  have hs:gX s=(3,Syn.plainM l)::(Hp ls++(k,w)::F):=hs
  obtain⟨c1,c2,c3⟩:=eF hs (.inl hq)
  rw[kB,c2,aF rfl,EA hs (.inl hq) (by decide),CY c3]
  refine(De hk ls n (step1 s) (out++[l]) (by simp only[aA]at hn;omega) (dE hs) hq).mono λx s' hx=>?_
  exact⟨(cW hs).trans hx.1,by rw[hx.2];simp⟩
section
variable{N:Nat}{f:Fl}{τ β:Nat->List KT}{E B:PS->R Nat}
def We(N:Nat)(f:Fl)(E:PS->R Nat)(d:Nat)(τ:Nat->List KT)(a:Atr):Prop:=∀(s:PS) (F:List KT),gX s=τ a.e++(5,[10])::F->s.deep=d->s.quiet=false->kE N (E s) (λx s'=>Mv s s' ((5,[10])::F)/\sH f.ex s'.ex a.e x)
def VS(N:Nat)(f:Fl)(B:PS->R Nat)(d:Nat)(β:Nat->List KT)(k:Nat):Prop:=(∃t u,β k=(1,t)::u/\(∃k2 w2 v,u=(k2,w2)::v/\¬(k2=4/\w2=[61])))/\∀(s:PS) (F:List KT),gX s=β k++(5,[10])::F->s.deep=d->s.quiet=false->kE N (B s) (λx s'=>Mw s s' ((5,[10])::F)/\Jc f s'.ex s'.bl k x)
theorem yY{d:Nat}{F:List KT}:∀(ks:List Nat),(∀k∈ks,VS N f B d β k)->∀(n:Nat) (s:PS) (us:List Atr) (ua:List Atr) (done bs:List Nat),ks.length<n->gX s=(ks.flatMap λk=>β k++[(5,[10])])++(4,[125])::F->s.deep=d->s.quiet=false->HN f.ex s.ex ua us->EP f s.ex s.bl done bs->
  kE N (jT E B n s us bs) (λx s'=>Mw s s' F/\HN f.ex s'.ex ua x.1/\EP f s'.ex s'.bl (done++ks) x.2)
 |[],_,n,s,us,ua,done,bs,hn,hs,hd,hq,h1,h2=>by
  obtain⟨n,rfl⟩:∃m,n=m+1:=⟨n-1,by omega⟩
  have hs:gX s=(4,[125])::F:=hs
  rw[jT,jS hs,aF rfl,cH]
  exact⟨(cW hs).tw,h1,h2⟩
 |k::ks,hB,n,s,us,ua,done,bs,hn,hs,hd,hq,h1,h2=>by
  obtain⟨n,rfl⟩:∃m,n=m+1:=⟨n-1,by omega⟩
  obtain⟨⟨t,u,e1,k2,w2,v,e2,hne⟩,hb⟩:=hB k (by simp)
  have hs0:gX s=β k++(5,[10])::((ks.flatMap λk=>β k++[(5,[10])])++(4,[125])::F):=by rw[hs];simp
  have hs1:gX s=(1,t)::(k2,w2)::(v++(5,[10])::((ks.flatMap λk=>β k++[(5,[10])])++(4,[125])::F)):=by rw[hs0,e1,e2];rfl
  obtain⟨t',a1,a2,a3⟩:=tW hs1 (.inl hq) (by decide)
  have hs2:=dE hs1
  rw[jT,jB hs1 (.inl hq) (λe=>absurd e.1 (by decide)),aD (λe=>by cases e)]
  dsimp only
  have hitem:kE N (qF E B s us bs) (λx s'=>Mw s s' ((5,[10])::((ks.flatMap λk=>β k++[(5,[10])])++(4,[125])::F))/\x.1=us/\∃y,x.2=bs++[y]/\Jc f s'.ex s'.bl k y):=by
   unfold qF;rw[a1];show kE N (if(aW (step1 s) [61]).1=true then _ else _) _;rw[jB hs2 (show Qt (step1 s) k2 from .inl hq) hne,aD (λe=>by cases e)];have es:({step1 s with i:=(step1 s).i-1}:PS)=s:=rfl;dsimp only;rw[es];exact(hb s _ hs0 hd hq).bind λx s' hx=>⟨hx.1,rfl,x,rfl,hx.2⟩
  refine hitem.bind λx s1 hx=>?_;obtain⟨m1,ex1,y,ey,hy⟩:=hx;have hq1:s1.quiet=false:=m1.quiet.trans hq;obtain⟨c1,c2,c3⟩:=eF m1.fr (.inl hq1);rw[c2,aD (λe=>e.1 rfl),c1];obtain⟨kn,wn,Gn,en,h5⟩:∃kn wn Gn,(ks.flatMap λk=>β k++[((5:Int),([10]:Str))])++(4,[125])::F=(kn,wn)::Gn/\kn≠5:=by
   cases ks with
   |nil=>exact⟨4,[125],F,rfl,by decide⟩
   |cons k' ks'=>
    obtain⟨⟨t,u,e1,_⟩,_⟩:=hB k' (by simp);refine⟨1,t,u++[(5,[10])]++((ks'.flatMap λk=>β k++[((5:Int),([10]:Str))])++(4,[125])::F),?_,by decide⟩;rw[dL,e1];simp
  have hf1:=m1.fr;rw[en]at hf1;rw[zD hf1 h5 hq1];have hs3:=dE m1.fr;rw[ex1,ey];have:=yY (F:=F) ks (λk hk=>hB k (aK _ hk)) n (step1 s1) us ua (done++[k]) (bs++[y]) (by simp only[aA]at hn;omega) hs3 (m1.deep.trans hd) hq1 (h1.mono m1.ex) ((h2.mono m1.ex m1.bl).snoc hy);refine this.mono λz s' hz=>?_;exact⟨(m1.trans (cW m1.fr).tw).trans hz.1,hz.2.1,by have:=hz.2.2;rwa[bB]at this⟩
theorem Dj{d:Nat}{F:List KT}{ks:List Nat}(hB:∀k∈ks,VS N f B d β k):∀(al:List Atr),(∀a∈al,We N f E d τ a)->∀(n:Nat) (s:PS) (us ua:List Atr),al.length+ks.length<n->gX s=(al.flatMap (AK τ))++((ks.flatMap λk=>β k++[(5,[10])])++(4,[125])::F)->s.deep=d->s.quiet=false->HN f.ex s.ex ua us->
  kE N (jT E B n s us []) (λx s'=>Mw s s' F/\HN f.ex s'.ex (ua++al) x.1/\EP f s'.ex s'.bl ks x.2)
 |[],_,n,s,us,ua,hn,hs,hd,hq,h1=>by
  have:=yY (F:=F) (E:=E) ks hB n s us ua [] [] (by simpa using hn) hs hd hq h1 (EP.nil _ _ _)
  simpa using this
 |a::al,hA,n,s,us,ua,hn,hs,hd,hq,h1=>by
  obtain⟨n,rfl⟩:∃m,n=m+1:=⟨n-1,by omega⟩
  have ha:=hA a (by simp)
  generalize hR:(al.flatMap (AK τ))++((ks.flatMap λk=>β k++[((5:Int),([10]:Str))])++(4,[125])::F)=X0
  have hs1:gX s=(1,a.n)::(4,[61])::(τ a.e++(5,[10])::X0):=by rw[hs,<-hR];simp[AK]
  obtain⟨t',a1,a2,a3⟩:=tW hs1 (.inl hq) (by decide)
  have hs2:=dE hs1
  have hs3:=dE hs2
  rw[jT,jB hs1 (.inl hq) (λe=>absurd e.1 (by decide)),aD (λe=>by cases e)]
  dsimp only
  have hitem:kE N (qF E B s us []) (λx s'=>Mw s s' ((5,[10])::X0)/\x.2=[]/\∃y,x.1=us++[y]/\y.n=a.n/\sH f.ex s'.ex a.e y.e):=by
   unfold qF;rw[a1];show kE N (if(aW (step1 s) [61]).1=true then _ else _) _;rw[jS hs2,aF rfl];exact(ha _ X0 hs3 hd hq).bind λx s' hx=>⟨(((cW hs1).trans (cW hs2)).trans hx.1).tw,rfl,⟨t'.t,x,t'.a⟩,rfl,a3,hx.2⟩
  refine hitem.bind λx s1 hx=>?_;obtain⟨m1,ex2,y,ey,hyn,hy⟩:=hx;have hq1:s1.quiet=false:=m1.quiet.trans hq;obtain⟨c1,c2,c3⟩:=eF m1.fr (.inl hq1);rw[c2,aD (λe=>e.1 rfl),c1];obtain⟨kn,wn,Gn,en,h5⟩:∃kn wn Gn,X0=(kn,wn)::Gn/\kn≠5:=by
   rw[<-hR];cases al with
   |cons a' al'=>exact⟨1,a'.n,_,rfl,by decide⟩
   |nil=>
    cases ks with
    |nil=>exact⟨4,[125],F,rfl,by decide⟩
    |cons k' ks'=>
     obtain⟨⟨t,u,e1,_⟩,_⟩:=hB k' (by simp);refine⟨1,t,u++[(5,[10])]++((ks'.flatMap λk=>β k++[((5:Int),([10]:Str))])++(4,[125])::F),?_,by decide⟩;rw[List.flatMap_nil,cI,dL,e1];simp
  have hf1:=m1.fr;rw[en]at hf1;rw[zD hf1 h5 hq1,ex2,ey];have hs4:=dE m1.fr;rw[<-hR]at hs4;have:=Dj (F:=F) hB al (λa h=>hA a (aK _ h)) n (step1 s1) (us++[y]) (ua++[a]) (by simp only[aA]at hn;omega) hs4 (m1.deep.trans hd) hq1 ((h1.mono m1.ex).snoc hyn hy);refine this.mono λz s' hz=>?_;exact⟨(m1.trans (cW m1.fr).tw).trans hz.1,by have:=hz.2.1;rwa[bB]at this,hz.2.2⟩
theorem Mt(b:Blk):b.labels.length+b.attrs.length+b.blocks.length+3<=(Kb τ β b).length:=by
 have h1:∀l:List Atr,l.length<=(l.flatMap (AK τ)).length:=λl=>by
  induction l with
  |nil=>exact cX _
  |cons a l ih=>
   have hh:1<=(AK τ a).length:=by simp[AK]
   simp only[dL,aB,aA];omega
 have h2:∀l:List Nat,l.length<=(l.flatMap λk=>β k++[((5:Int),([10]:Str))]).length:=λl=>by
  induction l with
  |nil=>exact cX _
  |cons a l ih=>simp only[dL,aB,aA]at ih⊢;omega
 have:=h1 b.attrs;have:=h2 b.blocks;unfold Kb Hp;simp only[aA,aB,cD,aC];omega
theorem Ms{d:Nat}{b:Blk}(hi:f.bl[i]?=some b)(hA:∀m,d=m+1->∀a∈b.attrs,We N f (gV m).1 (24-m) τ a)(hB:∀m,d=m+1->∀k∈b.blocks,VS N f (pY m) (24-m) β k){s:PS}{F:List KT}(hs:gX s=Kb τ β b++(5,[10])::F)(hd:s.deep+d=24)(hq:s.quiet=false):kE N (pY d s) (λx s'=>Mw s s' ((5,[10])::F)/\Jc f s'.ex s'.bl i x):=by
 have hlen:=Mt (τ:=τ) (β:=β) b;have hfl:=BZ hs;simp only[aB,aA]at hfl;have hs0:gX s=(1,b.typ)::(Hp b.labels++(4,[123])::(5,[10])::((b.attrs.flatMap (AK τ))++((b.blocks.flatMap λk=>β k++[(5,[10])])++(4,[125])::(5,[10])::F))):=by rw[hs];simp[Kb]
 generalize hR:(b.attrs.flatMap (AK τ))++((b.blocks.flatMap λk=>β k++[((5:Int),([10]:Str))])++(4,[125])::(5,[10])::F)=X0 at hs0;obtain⟨t',a1,a2,a3⟩:=tW hs0 (.inl hq) (by decide);have hs1:=dE hs0;have key:∀(E B:PS->R Nat),(∀m,d=m+1->(∀a∈b.attrs,We N f E (24-m) τ a)/\∀k∈b.blocks,VS N f B (24-m) β k)->kE N (nY E B s) (λx s'=>Mw s s' ((5,[10])::F)/\Jc f s'.ex s'.bl i x):=by
  intro E B hEB;unfold nY;rw[a1];refine(De (N:=N) (k:=4) (w:=[123]) (F:=(5,[10])::X0) (by decide) b.labels (s.toks.length+1) (step1 s) [] (by omega) hs1 hq).bind λls s2 hx=>?_;obtain⟨m2,els⟩:=hx;have hq2:s2.quiet=false:=m2.quiet.trans hq;have hd2:s2.deep+d=24:=by rw[m2.deep];exact hd
  rw[jM m2.fr,aD (λe=>by cases e),(eF m2.fr (xS _)).1];refine(jA (s:=s2) hd2 (P:=λx s3=>Mw {s2 with deep:=s2.deep+1,quiet:=false} s3 ((5,[10])::F)/\HN f.ex s3.ex b.attrs x.1/\EP f s3.ex s3.bl b.blocks x.2) λm hm=>?_).bind λx s' hx=>?_
  ·obtain⟨hE,hBl⟩:=hEB m hm;have h0:gX ({s2 with deep:=s2.deep+1,quiet:=false}:PS)=(4,[123])::(5,[10])::X0:=m2.fr;have h1:=dE h0;obtain⟨kn,wn,Gn,en,h5⟩:∃kn wn Gn,X0=(kn,wn)::Gn/\kn≠5:=by
    rw[<-hR];cases b.attrs with
    |cons a' al'=>exact⟨1,a'.n,_,rfl,by decide⟩
    |nil=>
     cases hbb:b.blocks with
     |nil=>exact⟨4,[125],_,rfl,by decide⟩
     |cons k' ks'=>
      obtain⟨⟨t,u,e1,_⟩,_⟩:=hBl k' (by rw[hbb];simp);refine⟨1,t,u++[(5,[10])]++((ks'.flatMap λk=>β k++[((5:Int),([10]:Str))])++(4,[125])::(5,[10])::F),?_,by decide⟩;rw[List.flatMap_nil,cI,dL,e1];simp
   have h1':=h1;rw[en]at h1';rw[zD h1' h5 rfl];have h2:=dE h1;rw[<-hR]at h2;refine(Dj (F:=(5,[10])::F) hBl b.attrs hE (s.toks.length+1) _ [] [] (by omega) h2 (by show s2.deep+1=24-m;omega) rfl (HN.nil _ _)).mono λx s3 hx=>?_;exact⟨((cW h0).trans (cW h1)).tw.trans hx.1,by simpa using hx.2.1,hx.2.2⟩
  ·obtain⟨s3,⟨m3,hat,hbl⟩,rfl⟩:=hx;have m3':=UI m3;have mm:=((cW hs0).trans m2).tw.trans m3';have hp:s3.bl<+:s3.bl++[⟨t'.t,ls,x.1,x.2,t'.a⟩]:=iM _ _;refine⟨⟨mm.toks,mm.deep,mm.quiet,mm.bl.trans hp,mm.ex,mm.fr⟩,?_⟩;refine .mk hi (b:=⟨t'.t,ls,x.1,x.2,t'.a⟩) ?_ a3 (by rw[els];rfl) hat hbl.1 λj hj=>(hbl.2 j hj).mono (iU _) hp;show(s3.bl++[_])[s3.bl.length]?=_;rw[cJ (aL _),Nat.sub_self];rfl
 cases d with
 |zero=>exact key dead dead λm h=>by cases h
 |succ m=>exact key (gV m).1 (pY m) λm' h=>by injection h with h;subst h;exact⟨hA m rfl,hB m rfl⟩
end
theorem yH{α:Type}{N:Nat}{S:α->Str}{T:α->List KT}:∀l:List α,(∀a∈l,∀r,Sg N (S a) (T a) r)->∀r,Sg N ((l.map S).flatten) (l.flatMap T) r
 |[],_,r=>Sg.nil N r
 |a::l,h,r=>by
  rw[bS,eV,dL]
  exact(h a (by simp) _).app (yH l (λb hb=>h b (aK _ hb)) r)
theorem uQ{α:Type}{S:α->Str}:∀l:List α,(∀a∈l,Utf (S a))->Utf ((l.map S).flatten)
 |[],_=>.nil
 |a::l,h=>by
  rw[bS,eV]
  exact(h a (by simp)).app (uQ l λb hb=>h b (aK _ hb))
theorem yW{α:Type}{S:α->Str}:∀{l:List α} {a:α},a∈l->(S a).length<=((l.map S).flatten).length
 |b::l,a,h=>by
  rw[bS,eV,aB]
  rcases bC.1 h with rfl|h
  ·omega
  ·have:=yW (S:=S) h;omega
theorem vX(N:Nat)(r:Str):∀n,Sg N (Cu n) [] r
 |0=>Sg.nil N r
 |n+1=>by
  have e:Cu (n+1)=[32]++([32]++Cu n):=by unfold Cu;rw[Bh,eV];rfl
  rw[e]
  exact Sg.app (T:=[]) (U:=[]) (nP N _) (Sg.app (T:=[]) (U:=[]) (nP N _) (vX N r n))
theorem xG(n:Nat):Utf (Cu n):=gM λc hc=>by
 unfold Cu at hc
 obtain⟨l,hl,hc⟩:=zO.1 hc
 rw[List.eq_of_mem_replicate hl]at hc
 simp only[bC,dH,mD]at hc
 rcases hc with rfl|rfl<;>decide
theorem rJ{s:Str}(h:s.all (λc=>decide (c.toNat<128))=true):Utf s:=gM λc hc=>by simpa using eR.1 h c hc
structure QZ(N:Nat)(f:Fl)(i:Nat)(T:List KT):Prop where
 sg:∀n r,Sg N (gI f i n) (T++[(5,[10])]) r
 utf:∀n,Utf (gI f i n)
 hd:∃t u,T=(1,t)::u/\(∃k2 w2 v,u=(k2,w2)::v/\¬(k2=4/\w2=[61]))
 go:∀n,(gI f i n).length<=N->∀(d:Nat) (s:PS) (F:List KT),gX s=T++(5,[10])::F->s.deep+d=24->s.quiet=false->kE N (pY d s) (λx s'=>Mw s s' ((5,[10])::F)/\Jc f s'.ex s'.bl i x)
section
variable{N:Nat}{f:Fl}
theorem Ry{τ:Nat->List KT}{a:Atr}(hn:nI a.n)(hp:DD N f a.e (τ a.e))(r:Str):Sg N (rE f n a) (AK τ a) r:=by
 have h4:Sg N (bL f a.e++[10]) (τ a.e++[(5,[10])]) r:=(hp.pc.sg _ (Cc (by decide) _)).app (KI N r);have h3:Sg N ([61]++([32]++(bL f a.e++[10]))) ([(4,[61])]++([]++(τ a.e++[(5,[10])]))) r:=(QG (w:=[61]) (by decide) _).app ((nP N _).app h4);have h2:Sg N (a.n++([32]++([61]++([32]++(bL f a.e++[10]))))) ([(1,a.n)]++([]++([(4,[61])]++([]++(τ a.e++[(5,[10])]))))) r:=(DO hn (Lu (by decide) _)).app ((nP N _).app h3);have h1:=(vX N _ n).app ((nP N _).app ((nP N _).app h2));unfold rE AK;simpa using h1
theorem MK{T:List KT}{a:Atr}(hn:nI a.n)(hp:DD N f a.e T):Utf (rE f n a):=by
 unfold rE;exact(((((xG n).app (rJ (by decide))).app (gM λd hd=>(yS (hn.al d hd)).1)).app (rJ (by decide))).app hp.pc.utf).app (rJ (by decide))
theorem Iu(l:List Str):qD l=(l.map λs=>[32]++([34]++Syn.plainM s++[34])).flatten:=by
 unfold qD;congr 1
theorem OK(l:List Str):Hp l=l.flatMap λs=>[(3,Syn.plainM s)]:=by
 unfold Hp;induction l with
 |nil=>rfl
 |cons a l ih=>rw[bS,dL,ih];rfl
theorem SJ(hS:SA f.ex)(hA:DG f)(hB:∀b∈f.bl,SB b)(hE:∀b∈f.bl,∀a∈b.attrs,a.e<f.ex.length):∀i,i<f.bl.length->∃T,QZ N f i T:=by
 obtain⟨τ,hτ⟩:∃τ:Nat->List KT,∀u,u<f.ex.length->DD N f u (τ u):=by
  classical
  have ih':∀u,u<f.ex.length->∃T,DD N f u T:=RI hS hA.1;exact⟨λu=>if h:∃T,DD N f u T then Classical.choose h else [],λu hu=>by
   have h:=ih' u hu;simp only[dif_pos h];exact Classical.choose_spec h⟩
 intro i;induction i using Nat.strongRecOn with
 |ind i ih=>
  intro hil;obtain⟨b,hb⟩:∃b,f.bl[i]?=some b:=⟨_,aG hil⟩;have hbm:=bW hb;have hsb:=hB b hbm;have hlt:=hA.2 i b hb;obtain⟨β,hβ⟩:∃β:Nat->List KT,∀k∈b.blocks,QZ N f k (β k):=by
   classical
   have ih':∀k∈b.blocks,∃T,QZ N f k T:=λk hk=>ih k (hlt k hk) (by have:=hlt k hk;omega);exact⟨λu=>if h:∃T,QZ N f u T then Classical.choose h else [],λu hu=>by
    have h:=ih' u hu;simp only[dif_pos h];exact Classical.choose_spec h⟩
  clear ih;refine⟨Kb τ β b,?_,?_,?_,?_⟩
  ·intro n r;rw[rD hA.2 hb];have h6:Sg N (Cu n++([125]++[10])) ([]++([(4,[125])]++[(5,[10])])) r:=(vX N _ n).app ((yG (by decide) _).app (KI N r));have h5:=(yH (S:=λk=>gI f k (n+1)) (T:=λk=>β k++[(5,[10])]) b.blocks (λk hk r=>(hβ k hk).sg (n+1) r) _).app h6;have h4:=(yH (S:=rE f n) (T:=AK τ) b.attrs (λa ha r=>Ry (hsb.at_ a ha) (hτ a.e (hE b hbm a ha)) r) _).app h5;have h3:=(nP N _).app ((yG (N:=N) (c:=123) (by decide) _).app ((KI N _).app h4));have h2:=(yH (S:=λs=>[32]++([34]++Syn.plainM s++[34])) (T:=λs=>[]++[(3,Syn.plainM s)]) b.labels (λs hs r=>(nP N _).app (Ia (yB s) r)) _).app h3;have h1:=(vX N _ n).app ((DO (N:=N) hsb.ty (by
    intro c x e;cases hl:b.labels with
    |nil=>rw[hl]at e;injection e with e _;rw[<-e];decide
    |cons l ls=>rw[hl]at e;injection e with e _;rw[<-e];decide)).app h2)
   unfold Kb;rw[Iu,OK];simpa using h1
  ·intro n;rw[rD hA.2 hb];refine(((((((xG n).app (gM λd hd=>(yS (hsb.ty.al d hd)).1)).app ?_).app (rJ (by decide))).app (uQ b.attrs λa ha=>MK (hsb.at_ a ha) (hτ a.e (hE b hbm a ha)))).app (uQ b.blocks λk hk=>(hβ k hk).utf (n+1))).app (xG n)).app (rJ (by decide));rw[Iu];exact uQ b.labels λs hs=>(rJ (by decide)).app (((rJ (by decide)).app (wD (hsb.lb s hs))).app (rJ (by decide)))
  ·refine⟨b.typ,_,rfl,?_⟩;cases b.labels with
   |nil=>exact⟨4,[123],_,rfl,by decide⟩
   |cons l ls=>exact⟨3,Syn.plainM l,_,rfl,λe=>absurd e.1 (by decide)⟩
  ·intro n hN d s F hs hd hq;rw[rD hA.2 hb]at hN;simp only[aB]at hN;refine Ms hb (λm hm a ha=>?_) (λm hm k hk=>⟨(hβ k hk).hd,λs F hs hd hq=>?_⟩) hs hd hq
   ·intro s F hs hd hq;have hp:=hτ a.e (hE b hbm a ha);have hl:(bL f a.e).length<=N:=by
     have:=yW (S:=rE f n) ha;unfold rE at this;simp only[aB]at this;unfold rE at hN;omega
    exact(hp.pp hl).expr hp.ht hs (λe=>absurd e (by decide)) (.inl hq) (by omega)
   ·refine(hβ k hk).go (n+1) ?_ m s F hs (by omega) hq;have:=yW (S:=λk=>gI f k (n+1)) hk;omega
theorem HW{β:Nat->List KT}:∀(ks:List Nat),(∀k∈ks,QZ N f k (β k)/\(gI f k 0).length<=N)->∀(n:Nat) (s:PS) (done out:List Nat),ks.length<n->gX s=(ks.flatMap λk=>β k++[(5,[10])])++[(0,[])]->s.deep=0->s.quiet=false->EP f s.ex s.bl done out->
  kE N (tG n s out) (λx s'=>EP f s'.ex s'.bl (done++ks) x)
 |[],_,n,s,done,out,hn,hs,hd,hq,h2=>by
  obtain⟨n,rfl⟩:∃m,n=m+1:=⟨n-1,by omega⟩
  have hs:gX s=(0,[])::[]:=hs
  obtain⟨c1,c2,c3⟩:=eF hs (.inl hq)
  rw[tG,c2,aF rfl,c1,cH]
  exact h2
 |k::ks,hB,n,s,done,out,hn,hs,hd,hq,h2=>by
  obtain⟨n,rfl⟩:∃m,n=m+1:=⟨n-1,by omega⟩
  obtain⟨hb,hN⟩:=hB k (by simp)
  obtain⟨t,u,e1,_⟩:=hb.hd
  have hs0:gX s=β k++(5,[10])::((ks.flatMap λk=>β k++[(5,[10])])++[(0,[])]):=by rw[hs];simp
  have hs1:gX s=(1,t)::(u++(5,[10])::((ks.flatMap λk=>β k++[(5,[10])])++[(0,[])])):=by rw[hs0,e1];rfl
  obtain⟨c1,c2,c3⟩:=eF hs1 (.inl hq)
  rw[tG,c2,aD (by decide),c1]
  refine(hb.go 0 hN 24 s _ hs0 (by omega) hq).bind λx s1 ⟨m1,hx⟩=>?_
  have hq1:s1.quiet=false:=m1.quiet.trans hq
  obtain⟨d1,d2,d3⟩:=eF m1.fr (.inl hq1)
  rw[d2,aD (λe=>e.1 rfl),d1]
  obtain⟨kn,wn,Gn,en,h5⟩:∃kn wn Gn,(ks.flatMap λk=>β k++[((5:Int),([10]:Str))])++[(0,[])]=(kn,wn)::Gn/\kn≠5:=by
   cases ks with
   |nil=>exact⟨0,[],[],rfl,by decide⟩
   |cons k' ks'=>
    obtain⟨t,u,e1,_⟩:=(hB k' (by simp)).1.hd;refine⟨1,t,u++[(5,[10])]++((ks'.flatMap λk=>β k++[((5:Int),([10]:Str))])++[(0,[])]),?_,by decide⟩;rw[dL,e1];simp
  have hf1:=m1.fr;rw[en]at hf1;rw[zD hf1 h5 hq1];have:=HW ks (λk hk=>hB k (aK _ hk)) n (step1 s1) (done++[k]) (out++[x]) (by simp only[aA]at hn;omega) (dE m1.fr) (m1.deep.trans hd) hq1 ((h2.mono m1.ex m1.bl).snoc hx);rwa[bB]at this
end
theorem Jn{f g:Fl}{a b:Ex}{l:List Str}(hk:b.k=a.k)(ht:b.t=a.t)(hs:b.keys=a.keys)(hp:tF f a l l.length=tF g b l l.length):fZ f a l=fZ g b l:=by
 unfold fZ;rw[hk,ht,hp]
theorem JP{f g:Fl}(hf:DG f)(hg:DG g){x:Nat}(h:sH f.ex g.ex i x):bL f i=bL g x/\(f.ex.getD i ⟨0,[],[],[],0⟩).t=(g.ex.getD x ⟨0,[],[],[],0⟩).t:=by
 induction h with
 |@mk i x a b h1 h2 hk ht hs hl h ih=>
  refine⟨?_,by rw[aH,aH,h1,h2];exact ht.symm⟩;rw[zF hf.1 h1,zF hg.1 h2];have hargs:gB a (bL f)=gB b (bL g):=by
   unfold gB;rw[hl];apply dN;intro k hk2;rw[dS]at hk2;unfold xR;rw[hk,hs,(ih k hk2).1]
  rw[hargs];refine Jn hk ht hs ?_;unfold tF;congr 1;apply dN;intro k hk2;rw[dS]at hk2;have hk3:k<a.args.length:=by
   unfold gB at hk2;rw[cD,lD,hl]at hk2;exact hk2
  rw[hs,(ih k hk3).2]
theorem HJ{f g:Fl}(hf:DG f)(hg:DG g){x:Nat}(h:Jc f g.ex g.bl i x):∀n,gI f i n=gI g x n:=by
 induction h with
 |@mk i x a b h1 h2 ht hl ha hb h ih=>
  intro n;rw[rD hf.2 h1,rD hg.2 h2,ht,hl];have e1:a.attrs.map (rE f n)=b.attrs.map (rE g n):=by
   apply mB (by simp[ha.1]);intro j j1 j2;simp only[cD]at j1 j2;rw[oQ,oQ];obtain⟨q1,q2⟩:=ha.2 j _ _ (aG j1) (aG j2);unfold rE;rw[q1,(JP hf hg q2).1]
  have e2:a.blocks.map (λk=>gI f k (n+1))=b.blocks.map (λk=>gI g k (n+1)):=by
   apply mB (by simp[hb]);intro j j1 j2;simp only[cD]at j1 j2;rw[oQ,oQ];have:=ih j j1 (n+1);rw[aH,aH,aG j1,aG j2]at this;exact this
  rw[e1,e2]
theorem Ay{t:Str}{f:Fl}(h:gD t=.ok f):DG f/\(∀b∈f.bl,∀a∈b.attrs,a.e<f.ex.length)/\∀k∈f.top,k<f.bl.length:=by
 have hp:=vG t;rw[h]at hp;obtain⟨_,f1,f2,_⟩:=hp;have hlx:(exL f.ex).length=f.ex.length:=by simp[exL]
 have hlb:(blL f.bl).length=f.bl.length:=by simp[blL]
 refine⟨⟨λi e he a ha=>f1.ahead i e.args (by unfold exL;rw[fM,he];rfl) a ha,λi b hb a ha=>f2.ahead i b.blocks (by unfold blL;rw[fM,hb];rfl) a ha⟩,λb hb a ha=>?_,λk hk=>by have:=f2.low k hk;rwa[hlb]at this⟩;have:=f1.low a.e (by unfold uG;exact List.mem_flatMap.2 ⟨b,hb,eU.2 ⟨a,ha,rfl⟩⟩);rwa[hlx]at this
theorem HK{t:Str}{f:Fl}(h:gD t=.ok f):match gD (nD f)with
  |.bad c _=>VP (nD f).length c
  |.ok g=>EP f g.ex g.bl f.top g.top/\nD g=nD f:=by
 obtain⟨hS,hB⟩:=FP h;obtain⟨hA,hE,hT⟩:=Ay h;generalize hN:(nD f).length=N;obtain⟨β,hβ⟩:∃β:Nat->List KT,∀k∈f.top,QZ N f k (β k):=by
  classical
  have ih':∀k∈f.top,∃T,QZ N f k T:=λk hk=>SJ hS hA hB hE k (hT k hk);exact⟨λu=>if h:∃T,QZ N f u T then Classical.choose h else [],λu hu=>by
   have h:=ih' u hu;simp only[dif_pos h];exact Classical.choose_spec h⟩
 have hsg:Sg N (nD f) (f.top.flatMap λk=>β k++[(5,[10])]) []:=yH f.top (λk hk r=>(hβ k hk).sg 0 r) [];have hsc:=Fe hsg (uQ f.top λk hk=>(hβ k hk).utf 0) (by omega);have key:match gD (nD f)with
  |.bad c _=>VP N c
  |.ok g=>EP f g.ex g.bl f.top g.top:=by
  unfold gD;cases hl:iI (nD f)with
  |bad c a=>rw[hl]at hsc;exact hsc
  |ok l=>
   rw[hl]at hsc;have hsc:l.map kt=(f.top.flatMap λk=>β k++[(5,[10])])++[(0,[])]:=hsc;have h0:gX (⟨l,0,0,0,false,[],[]⟩:PS)=(f.top.flatMap λk=>β k++[(5,[10])])++[(0,[])]:=hsc;obtain⟨kn,wn,Gn,en,h5⟩:∃kn wn Gn,(f.top.flatMap λk=>β k++[((5:Int),([10]:Str))])++[(0,[])]=(kn,wn)::Gn/\kn≠5:=by
    cases ht:f.top with
    |nil=>exact⟨0,[],[],rfl,by decide⟩
    |cons k' ks'=>
     obtain⟨t,u,e1,_⟩:=(hβ k' (by rw[ht];simp)).hd;refine⟨1,t,u++[(5,[10])]++((ks'.flatMap λk=>β k++[((5:Int),([10]:Str))])++[(0,[])]),?_,by decide⟩;rw[dL,e1];simp
   have h0':=h0;rw[en]at h0';simp only;rw[zC h0' h5];have hlen:f.top.length<l.length+1:=by
    have h2:=congrArg List.length hsc;rw[cD,aB]at h2;have h3:∀l:List Nat,l.length<=(l.flatMap λk=>β k++[((5:Int),([10]:Str))]).length:=λl=>by
     induction l with
     |nil=>exact cX _
     |cons a l ih=>simp only[dL,aB,aA]at ih⊢;omega
    have:=h3 f.top;omega
   have:=HW f.top (λk hk=>⟨hβ k hk,by have:=yW (S:=λi=>gI f i 0) hk;unfold nD at hN;omega⟩) (l.length+1) _ [] [] hlen h0 rfl rfl (EP.nil f [] []);cases hr:tG (l.length+1) ⟨l,0,0,0,false,[],[]⟩ []with
   |err c a=>rw[hr]at this;exact this
   |ok top s'=>rw[hr]at this;exact this
 cases hg:gD (nD f)with
 |bad c a=>rw[hg]at key;exact key
 |ok g=>
  rw[hg]at key;refine⟨key,?_⟩;have hAg:=(Ay hg).1;unfold nD;congr 1;apply mB (by simp[key.1]);intro j j1 j2;simp only[cD]at j1 j2;rw[oQ,oQ];have:=HJ hA hAg (key.2 j j2) 0;rw[aH,aH,aG j1,aG j2]at this;exact this.symm
end
section
open Go Go.Eng Go.RowKit Go.Syn Go.Lex
variable{w:World}{K:Q0}{cs:List Value}{G:Nat->Prop}{T:TypeId}{i:Nat}{n:Nat}{v:Value}{w':World}{P:Program}{c:UInt8}{S:Nat->Prop}
def Jp(acc:List Tok):RS->RS
 |.ok l=>.ok (acc++l)
 |.bad c a=>.bad c a
theorem Jo(acc:List Tok)(t:Tok)(x:RS):Jp acc (match x with|.ok l=>.ok (t::l)|x=>x)=Jp (acc++[t]) x:=by
 cases x<;>simp[Jp]
theorem EX(a:List Tok)(t:Tok):toks (a++[t])=toks a++eK t:=by simp[toks,eK]
section
variable [HX]
theorem RD:QY:=by
 intro w K s hT hl hok hbad;refine TW ?_;unfold W28;rw[eQ,mU,aN];unfold iI at hok hbad;have bad:∀{w1:World} (c:Int) (i:Nat) {K':Q0},(∀d w',Ext w w'->w.heap.size<=d->w'.heap[d]?=some (.cells [i64 c,str [],i64 (i:Nat)].toArray 48 (0,0))->K (.tuple #[.slice none 0 0,.pointer (some ⟨d,0,none⟩)]) w')->Ext w w1->
   mR 48 (.agg [i64 c,str [],i64 (i:Nat)].toArray) w1 λt16 w2=>K (.tuple #[.slice none 0 0,t16]) w2:=by
  intro w1 c i _ h hx;refine iS (z:=[i64 c,str [],i64 (i:Nat)]) λd w2 hd hz hdb hx2=>?_;have:=hx.size;exact h d w2 (hx.trans hx2) (by omega) hdb
 refine⟨λh=>?_,λh=>?_⟩
 ·rw[aF (by omega)]at hbad;simp only[dJ,eA,aA,aC,aR,aV,Nat.reduceAdd,Nat.reduceLT,dB,aY];exact bad (K':=K) 3 0 (λd w'=>hbad 3 0 rfl d w') (Chg.refl _ _)
 have hls:s.length<=16384:=by omega
 rw[aD (by omega)]at hok hbad;generalize hB:zL (s.length+1) s 0=Bd at hok hbad;refine BI ?_;refine dD.go (λst w5=>∃p m,p<=s.length/\st=[]/\w5.heap[w.heap.size]?=some (.stringIter (ofL s) p)/\Ext w w5/\zL m s p=Bd/\s.length<m+p)
  (λ_ w5=>match w5.heap[w.heap.size]? with|some (.stringIter _ p)=>s.length-p|_=>0)
  ⟨0,s.length+1,cX _,rfl,kO _ _ _ rfl,Chg.alloc (Chg.refl _ _) _,hB,by omega⟩ ?_
 rintro st g w5 ⟨p,m,hp,rfl,hit,hx5,hbf,hm⟩;obtain⟨m,rfl⟩:∃k,m=k+1:=⟨m-1,by omega⟩;rw[zL]at hbf;have hz5:=hx5.size;refine Dd hit (λhpe=>?_) (λhpl w6 hit6 hc6 hz6=>?_)
 ·
  rw[bK];refine⟨.bool false,rfl,?_⟩;rw[cQ];rw[aF hpe]at hbf;subst hbf;simp only at hok hbad;have hU:Utf s:=by
   have:=Cn (s:=s) (s.length+1) 0 (by omega) hB;rwa[bJ]at this
  generalize hR:iJ (s.length+1) s 0 0=R0 at hok hbad;refine dD.go (λst w7=>∃(i m:Nat) (acc:List Tok) (v:Value),st=[v,i64 (i:Nat)]/\i<=s.length/\Utf (s.drop i)/\Ext w w7/\Own w7 w.heap.size TkT 3 v acc.length (toks acc)/\Jp acc (iJ m (s.drop i) i acc.length)=R0/\s.length<m+i/\acc.length<=4096)
   (λst _=>match st with|[_,.int _ i]=>s.length-i.toNat|_=>0)
   ⟨0,s.length+1,[],_,rfl,cX _,by rw[bJ];exact hU,hx5,⟨by simp[toks],.inl ⟨rfl,rfl⟩⟩,by rw[bJ,aC,hR];cases R0<;>rfl,by omega,by simp⟩ ?_
  rintro st g2 w7 ⟨i,m2,acc,v,rfl,hi,hu,hx7,hO,hr,hm2,hcnt⟩;obtain⟨m2,rfl⟩:∃k,m2=k+1:=⟨m2-1,by omega⟩;simp only[iJ]at hr;simp only[aE,dX];have hz7:=hx7.size;have hsl:(s.drop i).length=s.length-i:=aJ;rw[fC,fR,eM];refine⟨by omega,by omega,?_⟩;rw[bP,aP];refine Ru (hT.ext hx7) (by omega) ?_;have hku:=uV ((s.drop i).length+1) _ hu;have hkl:=tJ ((s.drop i).length+1) (s.drop i);rw[eX]at hku hr;generalize cZ ((s.drop i).length+1) (s.drop i)=k at*
  obtain⟨k,kc⟩:=k;simp only at hku hkl hr⊢;rw[bK];refine⟨_,rfl,?_⟩;rw[bK];refine⟨_,rfl,?_⟩;rw[bU,dF (by omega) (by omega),show(i:Int)+(k:Nat)=((i+k:Nat):Int)by omega,bI];simp only[lI];refine GdW.look (decide (i+k=s.length)) (λ_ J hJ=>?_) λg3=>?_
  ·rw[eQ,bI,show decide (((i+k:Nat):Int)=((s.length:Nat):Int))=decide (i+k=s.length)by rw[decide_eq_decide];omega];exact hJ
  simp only[aE];rw[iW,cU];refine⟨λhend=>?_,λhgo=>?_⟩
  ·simp only[aZ,decide_eq_true_iff]at hend;rw[aD (by rw[hend.1];simp),aF (gR (by omega))]at hr;simp only[dJ,eA,aA,aC,aR,aV,Nat.reduceAdd,Nat.reduceLT,dB,aY];rw[dQ];refine zJ (d:=eK ⟨0,[],((i+k:Nat):Int)⟩) rfl rfl λb w8 hb hz8 hbb hx8=>?_;refine mA QQ (hO.ext hx8) (oY (n:=1) hbb) rfl (λu hu=>by simp only[eK,bC,dH,mD]at hu;rcases hu with rfl|rfl|rfl<;>rfl) (by omega) (by omega) (by have:=hx8.size;omega) λv' w9 hO9 hc9 hv9=>?_;have e:toks acc++eK ⟨0,[],((i+k:Nat):Int)⟩=toks (acc++[⟨0,[],((i+k:Nat):Int)⟩]):=(EX _ _).symm;rw[e]at hO9;have hx9:Ext w w9:=(hx7.trans hx8).then hc9 λq hq e=>by have:=(pF hO e).2;omega
   refine hok (acc++[⟨0,[],((i+k:Nat):Int)⟩]) (by rw[<-hr];rfl) v' w9 hx9 (by rw[aB];exact hO9.sl) λq hq=>⟨(pF hO9 hq).2,(pF hO9 hq).1⟩
  ·have hgo:¬(kc=0/\i+k=s.length):=by
    rintro⟨h1,h2⟩;rw[h1,h2]at hgo;simp at hgo
   refine bN λa w8 ha hz8 hab8 hx8=>?_;have hx78:=hx7.trans hx8;refine cK.cut (λst w9=>Ext w w9/\Own w9 w.heap.size TkT 3 v acc.length (toks acc)/\w8.heap.size<=w9.heap.size/\v.ownBlock≠some a/\∃(t:Tok) (n:Nat) (e:Int),st=[i64 e,i64 (n:Nat)]/\w9.heap[a]?=some (.cells (eK t).toArray TkT (0,0))/\
    ((e≠0/\R0=.bad e ((i+k:Nat):Int))\/(e=0/\1<=n/\i+k+n<=s.length/\Utf (s.drop (i+k+n))/\Jp acc (if acc.length=4096 then .bad 3 ((i+k:Nat):Int)else match iJ m2 (s.drop (i+k+n)) (i+k+n) (acc.length+1)with|.ok l=>.ok (⟨t.k,t.t,((i+k:Nat):Int)⟩::l)|x=>x)=R0))) ?_ ?_
   ·have hva:v.ownBlock≠some a:=λe=>by have:=(pF hO e).1;omega
    rw[bI,aN];refine⟨λh0=>?_,λh0=>?_⟩
    ·rw[aD (by rw[h0];simp)]at hr;have hlt:i+k<s.length:=by
      rcases mZ (i+k) s.length with h|h
      ·exact h
      ·exact absurd ⟨h0,by omega⟩ hgo
     have hd:=gP hlt;rw[aD (λe=>by rw[hd]at e;cases e)]at hr;rw[fC,fR,eM];refine⟨by omega,by omega,?_⟩;rw[bP,aP];have hrl:(s.drop (i+k+1)).length=s.length-(i+k+1):=aJ;rw[hd]at hr hku⊢;generalize s[i+k]=c at*
     generalize hrr:s.drop (i+k+1)=r at*
     refine UG (hT.ext hx78) hku (by omega) λw9 hx9=>?_;rw[bK];refine⟨_,rfl,?_⟩;rw[bK];refine⟨_,rfl,?_⟩;rw[bK];refine⟨_,rfl,?_⟩;have hou:=Iq hku;have hok1:=@El (c::r);generalize iH (c::r)=o at*
     obtain⟨t,n,e⟩:=o;simp only at hou hr⊢;refine cL (l:=eK t) (hx9.at hab8 id) rfl rfl rfl λw10 hz10 ha10 hc10=>?_;have hO9:=(hO.ext hx8).ext hx9;refine⟨(hx78.trans hx9).new hc10 (by omega),iG hO9 hc10 λq hq e=>hva (e▸hq),by have:=hx9.size;omega,hva,?_⟩;by_cases he:e=0
     ·subst he;rw[aD (by simp)]at hr;obtain⟨n1,n2,_⟩:=hok1 (t:=t) (k:=n) (by simp) rfl;simp only[aA]at n2;refine⟨t,n,0,rfl,ha10,.inr ⟨rfl,n1,by omega,?_,?_⟩⟩
      ·rw[<-eX,hd];exact hou rfl
      ·rw[<-eX,hd];exact hr
     ·rw[aF he]at hr;exact⟨t,n,e,rfl,ha10,.inl ⟨he,hr.symm⟩⟩
    ·rw[aF h0]at hr;exact⟨hx78,hO.ext hx8,aL _,hva,⟨0,[],0⟩,0,kc,rfl,hab8,.inl ⟨h0,hr.symm⟩⟩
   rintro st g4 w9 ⟨hx9,hO9,hz9,hva,t,n,e,rfl,ha9,hcase⟩;simp only[aE,dX];refine cK.cut (λst w'=>w'=w9/\∃e':Int,st=[i64 e']/\((e'≠0/\R0=.bad e' ((i+k:Nat):Int))\/(e'=0/\1<=n/\i+k+n<=s.length/\Utf (s.drop (i+k+n))/\acc.length<4096/\Jp acc (match iJ m2 (s.drop (i+k+n)) (i+k+n) (acc.length+1)with|.ok l=>.ok (⟨t.k,t.t,((i+k:Nat):Int)⟩::l)|x=>x)=R0))) ?_ ?_
   ·rw[bI];simp only[lI];refine GdW.look (decide (acc.length=4096)) (λ_ J hJ=>?_) λg5=>?_
    ·obtain⟨q,cap,ev,_⟩:=hO9.sl.shape;rw[ev,AZ,bI,show decide (((acc.length:Nat):Int)=4096)=decide (acc.length=4096)by rw[decide_eq_decide];omega];exact hJ
    simp only[aE];rw[iW,cU];refine⟨λhb=>?_,λhb=>?_⟩
    ·simp only[aZ,decide_eq_true_iff]at hb;refine⟨trivial,3,rfl,.inl ⟨by decide,?_⟩⟩;rcases hcase with⟨h1,h2⟩|⟨h1,h2,h3,h4,h5⟩
     ·exact absurd hb.1 h1
     ·rw[aF hb.2]at h5;exact h5.symm
    ·refine⟨trivial,e,rfl,?_⟩;rcases hcase with h|⟨h1,h2,h3,h4,h5⟩
     ·exact .inl h
     ·have:acc.length≠4096:=λh=>by rw[h1,h]at hb;simp at hb
      rw[aD this]at h5;exact .inr ⟨h1,h2,h3,h4,by omega,h5⟩
   rintro st g5 w10 ⟨rfl,e',rfl,hcase⟩;simp only[aE];rw[gL,aN];refine⟨λhne=>?_,λheq=>?_⟩
   ·rcases hcase with⟨h1,h2⟩|⟨h1,_⟩
    ·simp only[dJ,eA,aA,aC,aR,aV,Nat.reduceAdd,Nat.reduceLT,dB,aY];exact bad (K':=K) e' (i+k) (λd w'=>hbad e' _ h2 d w') hx9
    ·exact absurd h1 hne
   ·rcases hcase with⟨h1,_⟩|⟨h1,n1,n2,hu2,hc4,hr⟩
    ·exact absurd (by simpa using heq) h1
    rw[bH,bO,aQ];refine qA ha9 rfl (by simp[eK]) λw11 hz11 ha11 hc11=>?_;have ha11:w11.heap[a]?=some (.cells (eK ⟨t.k,t.t,((i+k:Nat):Int)⟩).toArray TkT (0,0)):=by rw[ha11];simp[eK]
    have hO11:=iG hO9 hc11 λq hq e=>hva (e▸hq);have hx11:=hx9.new hc11 (by omega);refine fY ha11 rfl ?_;refine zJ (d:=eK ⟨t.k,t.t,((i+k:Nat):Int)⟩) rfl rfl λb w12 hb hz12 hbb hx12=>?_;refine mA QQ (hO11.ext hx12) (oY (n:=1) hbb) rfl (λu hu=>by simp only[eK,bC,dH,mD]at hu;rcases hu with rfl|rfl|rfl<;>rfl) (by omega) (by omega) (by have:=hx11.size;have:=hx12.size;omega) λv' w13 hO13 hc13 hv13=>?_;rw[<-EX]at hO13;rw[bU,dF (by omega) (by omega)];refine⟨⟨i+k+n,m2,acc++[⟨t.k,t.t,((i+k:Nat):Int)⟩],v',by simp only[fF,Value.int.injEq,dB,oI];omega,by omega,hu2,(hx11.trans hx12).then hc13 λq hq e=>?_,by rw[aB];exact hO13,?_,by omega,by rw[aB,aA,aC];omega⟩,?_⟩
    ·have:=(pF hO11 e).2;omega
    ·rw[aB,<-Jo];exact hr
    ·simp only[aP];omega
 ·
  have hge:¬s.length<=p:=by omega
  rw[aD hge]at hbf;have hx6:Ext w w6:=hx5.then hc6 λq hq e=>by have e:q=w.heap.size:=e;omega
  rw[bK];refine⟨.bool true,rfl,?_⟩;rw[fP,bK];refine⟨i64 (p:Nat),rfl,?_⟩;rw[bK];refine⟨_,rfl,?_⟩;have hdc:(Utf8.decode (ofL s) p).1=65533/\Lib.hasPrefix (s.drop p) [239,191,189]=false↔fK s p=0:=by
   constructor
   ·rintro⟨h1,h2⟩;by_cases h0:fK s p=0
    ·exact h0
    ·obtain⟨c,hc⟩:=qM hpl h0;have hd:=hc.dec;rw[hd]at h1;have h1:c=65533:=h1;subst h1;rw[JO hc]at h2;cases h2
   ·intro h0;rw[Fi hpl h0];exact⟨rfl,Mu h0⟩
  rw[Mi hpl]at hit6;generalize (Utf8.decode (ofL s) p).1=c at*
  rw[bI,show decide (((c:Nat):Int)=65533)=decide (c=65533)by rw[decide_eq_decide];omega];simp only[lI];refine GdW.look (!Lib.hasPrefix (s.drop p) [239,191,189]) (λ_ J hJ=>?_) λg3=>?_
  ·rw[fC,fR,eM];refine⟨by omega,by omega,?_⟩;rw[bP,aP];refine xN ?_;rw[iN];exact hJ
  simp only[aE];rw[iW,cU];refine⟨λhb=>?_,λhb=>?_⟩
  ·have h0:fK s p=0:=hdc.1 (by simpa using hb);rw[aF h0]at hbf;subst hbf;simp only[dJ,eA,aA,aC,aR,aV,Nat.reduceAdd,Nat.reduceLT,dB,aY];exact bad (K':=K) 31 p (λd w'=>hbad 31 _ rfl d w') hx6
  ·have h0:fK s p≠0:=λh=>by
    have:=hdc.2 h;rw[cO this.1,this.2]at hb;cases hb
   rw[aD h0]at hbf;have hfit:=Ji hpl;have hpos:=KD s p;refine⟨⟨p+sK s p,m,hfit,trivial,hit6,hx6,hbf,by omega⟩,?_⟩;rw[hit6,hit];show s.length-(p+sK s p)<s.length-p;omega
end
abbrev DgT:TypeId:=48
def AI:Syn.PR->Fl
 |.ok f=>f
 |.bad _ _=>⟨[],[],[]⟩
def okP:Syn.PR->Bool
 |.ok _=>true
 |.bad _ _=>false
def HM(w:World)(d:Value):Syn.PR->Prop
 |.ok _=>d=.pointer none
 |.bad c a=>∃b,d=.pointer (some ⟨b,0,none⟩)/\w.heap[b]?=some (.cells [i64 c,str [],i64 a].toArray DgT (0,0))
theorem HM.ext{d:Value}{r:Syn.PR}(h:HM w d r)(hx:Ext w w'):HM w' d r:=by
 cases r with
 |ok f=>exact h
 |bad c a=>obtain⟨b,h1,h2⟩:=h;exact⟨b,h1,hx.at h2 id⟩
theorem HM.eq{d:Value}{r:Syn.PR}(h:HM w d r)(n:Bool)(K:Value->Prop):eqW .ptr n d (.pointer none) K↔K (.bool (n^^okP r)):=by
 cases r with
 |ok f=>have h:d=.pointer none:=h;rw[h];cases n<;>exact jI
 |bad c a=>obtain⟨b,rfl,_⟩:=h;cases n<;>exact jI
theorem FO.ext{B:Nat}{M:Lay}{fl:Fl}(h:FO w B M fl)(hx:Ext w w'):FO w' B M fl:=h.keep hx λ_ _ _ _ e=>e
theorem Tj(w:World)(B:Nat):FO w B ⟨.slice none 0 0,.slice none 0 0,.slice none 0 0,[],[]⟩ ⟨[],[],[]⟩:=
 ⟨⟨by simp,.inl ⟨rfl,rfl⟩⟩,⟨by simp,.inl ⟨rfl,rfl⟩⟩,⟨by simp[ints],.inl ⟨rfl,rfl⟩⟩,nH.nil _ _,nH.nil _ _,List.nodup_nil,λk hk=>by simp[ub,Value.ownBlock]at hk,λk hk=>by simp[ub,Value.ownBlock]at hk⟩
section
variable [HX]
theorem FN{t:Str}{K:Q0}(hT:TabI w)(hl:t.length<=9223372036854775807)
  (hK:∀M d w',Ext w w'->FO w' w.heap.size M (AI (gD t))->HM w' d (gD t)->((AI (gD t)).ex.length<=100000/\(AI (gD t)).bl.length<=100000/\(AI (gD t)).top.length<=100000)->K (.tuple #[.agg [M.vE,M.vB,M.vT].toArray,d]) w'):aI P0 12 [str t] w K:=by
 refine Lk (λ{_}=>RD) hT hl (λfl h M w' hx hF hfew=>?_) (λc a h d w' hx hd hdb=>?_)
 ·rw[h]at hK;exact hK M _ w' hx hF rfl hfew
 ·rw[h]at hK;exact hK ⟨.slice none 0 0,.slice none 0 0,.slice none 0 0,[],[]⟩ _ w' hx (Tj _ _) ⟨d,rfl,hdb⟩ (by simp[AI])
theorem Io{t:Str}{K:Q0}(hT:TabI w)(hl:t.length<=1000000)
 (hK:∀M d w',Ext w w'->FO w' w.heap.size M (AI (gD t))->HM w' d (gD t)->((AI (gD t)).ex.length<=100000/\(AI (gD t)).bl.length<=100000/\(AI (gD t)).top.length<=100000)->K (.tuple #[.agg [M.vE,M.vB,M.vT].toArray,d]) w'):aI P0 12 [str t] w K:=FN hT (by omega) hK
end
def ex1:Str:=[114,32,34,116,34,32,34,110,34,32,123,32,120,32,61,32,49,32,43,32,121,46,122,32,125]
def ex2:Str:=[97,32,123,32,120,32,61,32,49,32,121,32,61,32,50,32,125]
section
variable [HX]
theorem To{s:Str}{K:Q0}(hl:s.length<=9223372036854775807)(hK:K (str (s.take 6000)) w):aI P0 11 [str s] w K:=by
 refine Ue ?_;unfold W11;rw[eQ,Is,fC,eM];by_cases h:6000<(s.length:Int)
 ·rw[aF h];refine⟨by omega,by omega,?_⟩;rw[fR,bJ];exact hK
 ·rw[aD h];refine⟨by omega,by omega,?_⟩;rw[fR,bJ,aP,bP];rw[lT (by omega)]at hK;exact hK
end
end
section
open Go Go.Eng Go.RowKit Go.Syn Go.Lex
variable{w:World}{K:Q0}{cs:List Value}{G:Nat->Prop}{T:TypeId}{i:Nat}{n:Nat}{v:Value}{w':World}{P:Program}{c:UInt8}{S:Nat->Prop}
def cnt(n:Nat)(l:List Nat):List Nat:=(List.range n).map λj=>l.count j
theorem CZ:∀(n:Nat) (l:List Nat),l.Nodup->(∀x∈l,x<n)->l.length<=n
 |0,l,_,h=>by
  cases l with
  |nil=>simp
  |cons x r=>have:=h x (by simp);omega
 |n+1,l,hd,h=>by
  have:=CZ n (l.erase n) (hd.erase n) (λx hx=>by
   have h1:=(hd.mem_erase_iff).1 hx
   have:=h x h1.2
   have:=h1.1
   omega)
  have:=@List.length_erase Nat _ _ n l
  split at this<;>omega
structure MH(n:Nat)(l:List Nat):Prop where
 one:∀j,j<n->l.count j=1
 lt:∀x∈l,x<n
theorem MH.nodup{l:List Nat}(h:MH n l):l.Nodup:=List.nodup_iff_count.2 λa=>by
 by_cases ha:a<n
 ·rw[h.one a ha];omega
 ·rw[Aw (λhm=>ha (h.lt a hm))];omega
theorem MH.len{l:List Nat}(h:MH n l):l.length<=n:=CZ n l h.nodup h.lt
theorem wH{L:List (List Nat)}{r:List Nat}(h:bR L r):MH L.length (L.flatten++r):=
 ⟨λj hj=>by rw[jH];exact h.once j hj,λx hx=>(bQ.1 hx).elim (h.flat_lt x) (h.low x)⟩
section
variable [HX]
end
variable{w0 w w':World}{B a ea eb:Nat}{M:Lay}{fl:Fl}{lE lB:List Nat}
end
section
open Go Go.Eng Go.RowKit Go.Syn Go.Lex
variable{w:World}{K:Q0}{cs:List Value}{G:Nat->Prop}{T:TypeId}{i:Nat}{n:Nat}{v:Value}{w':World}{P:Program}{c:UInt8}{S:Nat->Prop}
theorem Ao{w:World}{b o:Nat}{c:Array Value}{T:TypeId}{fr:Nat×Nat}{d:List Value}(hb:w.heap[b]?=some (.cells c T fr))(hd:∀j,j<d.length->c[o+j]?=d[j]?):∀(n i:Nat),i+n=d.length->iR w ⟨b,o,none⟩ i n=some (d.drop i)
 |0,i,h=>by simp only[iR];rw[dO (by omega)]
 |n+1,i,h=>by
  have hi:i<d.length:=by omega
  simp only[iR,bO,cP,hb,cM,hd i hi,aG hi]
  rw[Ao hb hd n (i+1) (by omega)]
  simp
theorem Ba{size:Nat}{d:List Value}{k:IntKind}{K:Value->Prop}(h:gE w T v n cs)(hl:cs.length=n*size)(hs:0<size)(hi:i<n)(hd:(cs.drop (i*size)).take size=d)(hK:K (.agg d.toArray)):
  fO none size v (.int k i) λt=>ldW true size t w K:=by
 have hlt:i*size+size<=n*size:=by rw[<-Cq];exact kS _ hi
 have hdl:d.length=size:=by rw[<-hd,cG,aJ];omega
 refine BP h hl hs hi λb o c fr hb hc=>?_;rw[BM];refine⟨d,?_,hK⟩;have:=Ao (d:=d) hb (λj hj=>by rw[hc j (by omega),<-hd,uE (by omega),fU]) size 0 (by omega);simpa using this
theorem Ps{l:List Atr}{a:Atr}(h:l[i]?=some a):((AJ l).drop (i*3)).take 3=[str a.n,i64 (a.e:Nat),i64 a.a]:=by
 have g:∀j,j<3->(AJ l)[i*3+j]?=[str a.n,i64 (a.e:Nat),i64 a.a][j]?:=λj hj=>wQ _ (λ_=>rfl) l i j a h hj;apply List.ext_getElem?;intro j;by_cases hj:j<3
 ·rw[uE hj,fU,g j hj]
 ·rw[cA (by rw[cG];omega),cA (by simp;omega)]
theorem Bb{l:List Nat}{x:Nat}(h:l[i]?=some x):(ints l)[i]?=some (i64 (x:Nat)):=by simp[ints,h]
variable [HX]
end
section
open Go Go.Eng Go.RowKit Go.Syn Go.Lex
variable{w:World}{K:Q0}{cs:List Value}{G:Nat->Prop}{T:TypeId}{i:Nat}{n:Nat}{v:Value}{w':World}{P:Program}{c:UInt8}{S:Nat->Prop}
theorem UJ{len k:Nat}{l:List Value}{x:Value}{K:Value->Prop}(hk:k<len)(hx:l[k]?=some x)(h:K x):LJ len false 1 (.agg l.toArray) (i64 (k:Nat)) K:=by
 refine⟨by omega,by omega,?_⟩;show∃c,l.toArray[((k:Nat):Int).toNat*1]?=some c/\K c;exact⟨x,by rw[aP,Nat.mul_one,eJ];exact hx,h⟩
theorem qU{l:List Str}{k:Nat}(h:k<l.length):(strs l)[k]?=some (str (l.getD k [])):=by
 rw[strs,fM,aG h,aH,aG h];rfl
theorem Ez(off:Nat)(ad:Addr)(B:Value->Prop):GqW true (λk=>bA off (.pointer (some ad)) k) B↔B (.pointer (some (ad.add off))):=by
 rw[Jb];constructor
 ·rintro⟨v,h,hb⟩;have h:Value.pointer (some (ad.add off))=v:=h;rw[h];exact hb
 ·intro h;exact⟨_,rfl,h⟩
theorem vF{A:(Value->Prop)->Prop}{B:Value->Prop}(h1:A (λx=>x=v))(h2:B v):GqW true A B:=(Jb A B).2 ⟨v,h1,h2⟩
theorem wL{s:Nat}{i:Value}{F:Value->Prop}(h:fO none s v i F):∃p,fO none s v i (λx=>x=p)/\F p:=by
 unfold fO at h⊢;split at h
 all_goals first
  |exact h.elim
  |exact⟨_,⟨h.1,h.2.1,rfl⟩,h.2.2⟩
section
variable [HX]
end
def ExV(w:World)(e:Ex)(c:List Value):Prop:=
 ∃va vk,c=[i64 e.k,str e.t,va,vk,i64 e.a]/\gE w gS va e.args.length (ints e.args)/\gE w StT vk e.keys.length (strs e.keys)
def BkV(w:World)(b:Blk)(c:List Value):Prop:=
 ∃vl va vb,c=[str b.typ,vl,va,vb,i64 b.a]/\gE w StT vl b.labels.length (strs b.labels)/\gE w AtT va b.attrs.length (AJ b.attrs)/\gE w gS vb b.blocks.length (ints b.blocks)
structure FV(w:World)(M:Lay)(fl:Fl):Prop where
 oE:gE w ExT M.vE fl.ex.length M.cE
 oB:gE w BkT M.vB fl.bl.length M.cB
 oT:gE w gS M.vT fl.top.length (ints fl.top)
 ee:nH (ExV w) 5 fl.ex M.cE
 bb:nH (BkV w) 5 fl.bl M.cB
theorem FO.fv{B:Nat}{M:Lay}{fl:Fl}(h:FO w B M fl):FV w M fl:=
 ⟨h.oE.sl,h.oB.sl,h.oT.sl,h.ee.imp λ_ _ _ ⟨va,vk,e,h1,h2⟩=>⟨va,vk,e,h1.sl,h2.sl⟩,h.bb.imp λ_ _ _ ⟨vl,va,vb,e,h0,h1,h2⟩=>⟨vl,va,vb,e,h0.sl,h1.sl,h2.sl⟩⟩
theorem FV.ext{M:Lay}{fl:Fl}(h:FV w M fl)(hx:Ext w w'):FV w' M fl:=
 ⟨h.oE.ext hx,h.oB.ext hx,h.oT.ext hx,h.ee.imp λ_ _ _ ⟨va,vk,e,h1,h2⟩=>⟨va,vk,e,h1.ext hx,h2.ext hx⟩,h.bb.imp λ_ _ _ ⟨vl,va,vb,e,h0,h1,h2⟩=>⟨vl,va,vb,e,h0.ext hx,h1.ext hx,h2.ext hx⟩⟩
theorem FV.exI{M:Lay}{fl:Fl}{e:Ex}{k:IntKind}(h:FV w M fl)(hi:fl.ex[i]?=some e):∃va vk,gE w gS va e.args.length (ints e.args)/\gE w StT vk e.keys.length (strs e.keys)/\∃p,fO none 5 M.vE (.int k i) (λx=>x=p)/\ldW true 5 p w λx=>x=.agg [i64 e.k,str e.t,va,vk,i64 e.a].toArray:=by
 obtain⟨va,vk,ec,h1,h2⟩:=h.ee.2 i e hi;exact⟨va,vk,h1,h2,wL (Ba (K:=λx=>x=_) h.oE h.ee.1 (by omega) (bF.1 hi).1 ec rfl)⟩
theorem FV.bkI{M:Lay}{fl:Fl}{e:Blk}{k:IntKind}(h:FV w M fl)(hi:fl.bl[i]?=some e):∃vl va vb,gE w StT vl e.labels.length (strs e.labels)/\gE w AtT va e.attrs.length (AJ e.attrs)/\gE w gS vb e.blocks.length (ints e.blocks)/\∃p,fO none 5 M.vB (.int k i) (λx=>x=p)/\ldW true 5 p w λx=>x=.agg [str e.typ,vl,va,vb,i64 e.a].toArray:=by
 obtain⟨vl,va,vb,ec,h1,h2,h3⟩:=h.bb.2 i e hi;exact⟨vl,va,vb,h1,h2,h3,wL (Ba (K:=λx=>x=_) h.oB h.bb.1 (by omega) (bF.1 hi).1 ec rfl)⟩
theorem rW{agg:Bool}{p:Value}{K:Value->Prop}(h:ldW agg n p w λx=>x=v)(hK:K v):ldW agg n p w K:=by
 unfold ldW at h⊢;split at h
 ·cases agg with
  |true=>obtain⟨l,h1,rfl⟩:=h;exact⟨l,h1,hK⟩
  |false=>obtain⟨x,h1,rfl⟩:=h;exact⟨x,h1,hK⟩
 ·exact h.elim
theorem tV{s:Nat}{i p:Value}{K:Value->Prop}(h:fO none s v i λx=>x=p)(hK:K p):fO none s v i K:=by
 unfold fO at h⊢;split at h
 all_goals first
  |exact h.elim
  |exact⟨h.1,h.2.1,by have e:=h.2.2;rw[e];exact hK⟩
theorem upj(h:i<9223372036854775807):IntKind.i64.wrap ((i:Int)+1)=((i+1:Nat):Int):=by rw[dF (by omega) (by omega)];rfl
theorem rR{B m:Nat}{xs:List Value}(h:Own w B T m v n xs):n<=9223372036854775807:=by
 obtain⟨_,⟨_,rfl⟩|⟨g,cap,cur,_,_,_,h2,h3,_⟩⟩:=h
 ·omega
 ·unfold maxLen at h3;omega
theorem FO.few{B:Nat}{M:Lay}{fl:Fl}(h:FO w B M fl):(fl.ex.length<=9223372036854775807/\fl.bl.length<=9223372036854775807/\fl.top.length<=9223372036854775807)/\(∀e∈fl.ex,e.args.length<=9223372036854775807/\e.keys.length<=9223372036854775807)/\∀b∈fl.bl,b.labels.length<=9223372036854775807/\b.attrs.length<=9223372036854775807/\b.blocks.length<=9223372036854775807:=by
 refine⟨⟨rR h.oE,rR h.oB,rR h.oT⟩,λe he=>?_,λb hb=>?_⟩
 ·obtain⟨i,hi⟩:=xU.1 he;obtain⟨va,vk,_,h1,h2⟩:=h.ee.2 i e hi;exact⟨rR h1,rR h2⟩
 ·obtain⟨i,hi⟩:=xU.1 hb;obtain⟨vl,va,vb,_,h1,h2,h3⟩:=h.bb.2 i b hi;exact⟨rR h1,rR h2,rR h3⟩
section
variable [HX]
theorem HZ{u:Value}{T1 T2:TypeId}{m:List Str}{K:Q0}(h1:gE w T1 u m.length (strs m))(h2:gE w T2 v m.length (strs m))(hl:m.length<=9223372036854775807)(hK:∀w',Ext w w'->K (.bool true) w'):aI P0 25 [u,v] w K:=by
 refine TX ?_;unfold W25;rw[fD h1,fD h2,gL,cV (by simp),cQ,fD h1];refine dD.go (λst w'=>∃i:Nat,st=[i64 (i:Nat)]/\i<=m.length/\Ext w w') (λst _=>match st with|[.int _ i]=>m.length-i.toNat|_=>0) ⟨0,rfl,by omega,Chg.refl _ _⟩ ?_;rintro st g w1 ⟨i,rfl,hi,hx⟩;simp only[aE];rw[eL,aN];refine⟨λhlt=>?_,λhge=>hK w1 hx⟩;have hlt:i<m.length:=by omega
 have hg:=qU hlt;have hxd:=hx.trans (bM w1);refine kM (h1.ext hxd) (by simp[strs]) hg ?_;refine kM (h2.ext hxd) (by simp[strs]) hg ?_;rw[pM,cV (by simp),cQ,bU,upj (by omega)];refine⟨⟨i+1,rfl,by omega,hxd⟩,?_⟩;simp only[aP];omega
end
theorem Du{ad:Addr}(hx:Ext w w')(h:w.cell? ad=some v):w'.cell? ad=some v:=by
 unfold World.cell? at h⊢;cases ho:w.heap[ad.block]? with
 |none=>rw[ho]at h;cases h
 |some o=>rw[hx.at ho id];rw[ho]at h;exact h
theorem Dv{w w':World}{ad:Addr}(hx:Ext w w'):∀(n i:Nat) (l:List Value),iR w ad i n=some l->iR w' ad i n=some l
 |0,_,_,h=>h
 |n+1,i,l,h=>by
  simp only[iR]at h⊢
  cases hc:w.cell? (ad.add i)with
  |none=>rw[hc]at h;cases h
  |some v=>
   rw[hc]at h
   rw[Du hx hc]
   cases hr:iR w ad (i+1) n with
   |none=>simp only[hr]at h;cases h
   |some m=>
    simp only[hr]at h
    simp only[Dv hx n (i+1) m hr]
    exact h
theorem kL{agg:Bool}{p:Value}(hx:Ext w w')(h:ldW agg n p w λx=>x=v):ldW agg n p w' λx=>x=v:=by
 unfold ldW at h⊢;split at h
 ·cases agg with
  |true=>obtain⟨l,h1,h2⟩:=h;exact⟨l,Dv hx _ _ _ h1,h2⟩
  |false=>obtain⟨x,h1,h2⟩:=h;exact⟨x,Du hx h1,h2⟩
 ·exact h.elim
theorem gK{b:Nat}{c:List Value}{off:Nat}{K:Value->Prop}(hw:w.heap[b]?=some (.cells c.toArray T (0,0)))(hv:c[off]?=some v)(hk:K v):bA off (.pointer (some ⟨b,0,none⟩)) λt=>ldW false 1 t w K:=by
 rw[bH,eC];refine⟨v,?_,hk⟩;rw[bO,cP,hw,cM,aQ,eJ];exact hv
theorem ld5{b:Nat}{c:List Value}{off:Nat}(hw:w.heap[b]?=some (.cells c.toArray T (0,0)))(hv:c[off]?=some v):ldW false 1 (.pointer (some ((⟨b,0,none⟩:Addr).add off))) w λx=>x=v:=by
 have:=gK (K:=λx=>x=v) hw hv rfl;rwa[bH]at this
theorem HU{z c c':List Value}{p1 p2 p3 p4 x1 x3:Value}{J:List Value->World->Prop}(hz:z.length=n)(hc:c.length=n)(hc':c'.length=n)(o1:c.all nK=true)(o2:c'.all nK=true)
  (h1:ldW false 1 p1 w λx=>x=x1)(h2:ldW true n p2 w λx=>x=.agg c.toArray)(h3:ldW false 1 p3 w λx=>x=x3)(h4:ldW true n p4 w λx=>x=.agg c'.toArray)
  (hJ:∀a b w',Ext w w'->a≠b->w'.heap[a]?=some (.cells c.toArray T (0,0))->w'.heap[b]?=some (.cells c'.toArray T (0,0))->J [.pointer (some ⟨a,0,none⟩),.pointer (some ⟨b,0,none⟩)] w'):
  (cN T z w λt8 w11=>(ldW true n p4 w11 λx=>x=.agg c'.toArray)/\(ldW false 1 p3 w11 λx=>x=x3)/\(ldW true n p2 w11 λx=>x=.agg c.toArray)/\(ldW false 1 p1 w11 λx=>x=x1)/\
    cN T z w11 λt9 w12=>(ldW true n p4 w12 λx=>x=.agg c'.toArray)/\(ldW false 1 p3 w12 λx=>x=x3)/\(ldW true n p2 w12 λx=>x=.agg c.toArray)/\(ldW false 1 p1 w12 λx=>x=x1)/\
    stW n t8 (.agg c.toArray) w12 λw13=>(ldW true n p4 w13 λx=>x=.agg c'.toArray)/\(ldW false 1 p3 w13 λx=>x=x3)/\stW n t9 (.agg c'.toArray) w13 λw14=>J [t8,t9] w14)/\
  (cN T z w λt9 w11=>(ldW true n p4 w11 λx=>x=.agg c'.toArray)/\(ldW false 1 p3 w11 λx=>x=x3)/\(ldW true n p2 w11 λx=>x=.agg c.toArray)/\(ldW false 1 p1 w11 λx=>x=x1)/\
    cN T z w11 λt8 w12=>(ldW true n p4 w12 λx=>x=.agg c'.toArray)/\(ldW false 1 p3 w12 λx=>x=x3)/\(ldW true n p2 w12 λx=>x=.agg c.toArray)/\(ldW false 1 p1 w12 λx=>x=x1)/\
    stW n t8 (.agg c.toArray) w12 λw13=>(ldW true n p4 w13 λx=>x=.agg c'.toArray)/\(ldW false 1 p3 w13 λx=>x=x3)/\stW n t9 (.agg c'.toArray) w13 λw14=>J [t8,t9] w14):=by
 constructor
 ·refine bN λa w1 ha hz1 hb1 hx1=>?_;refine⟨kL hx1 h4,kL hx1 h3,kL hx1 h2,kL hx1 h1,?_⟩;refine bN λb w2 hb hz2 hb2 hx2=>?_;have hx12:=hx1.trans hx2;refine⟨kL hx12 h4,kL hx12 h3,kL hx12 h2,kL hx12 h1,?_⟩;refine cL (hx2.at hb1 id) hc hz o1 λw3 hz3 hb3 hc3=>?_;have hx3:Ext w w3:=hx12.new hc3 (by omega);refine⟨kL hx3 h4,kL hx3 h3,?_⟩;refine cL (hc3.at hb2 (by omega)) hc' hz o2 λw4 hz4 hb4 hc4=>?_;exact hJ a b w4 (hx3.new hc4 (by omega)) (by omega) (hc4.at hb3 (by omega)) hb4
 ·refine bN λb w1 ha hz1 hb1 hx1=>?_;refine⟨kL hx1 h4,kL hx1 h3,kL hx1 h2,kL hx1 h1,?_⟩;refine bN λa w2 hb hz2 hb2 hx2=>?_;have hx12:=hx1.trans hx2;refine⟨kL hx12 h4,kL hx12 h3,kL hx12 h2,kL hx12 h1,?_⟩;refine cL hb2 hc hz o1 λw3 hz3 hb3 hc3=>?_;have hx3:Ext w w3:=hx12.new hc3 (by omega);refine⟨kL hx3 h4,kL hx3 h3,?_⟩;refine cL (hc3.at (hx2.at hb1 id) (by omega)) hc' hz o2 λw4 hz4 hb4 hc4=>?_;exact hJ a b w4 (hx3.new hc4 (by omega)) (by omega) (hc4.at hb3 (by omega)) hb4
theorem My{l:List Atr}{j:Nat}{x:Atr}(h:gE w T v l.length (AJ l))(hi:l[j]?=some x):∃ad:Addr,fO none 3 v (i64 (j:Nat)) (λy=>y=.pointer (some ad))/\(ldW false 1 (.pointer (some (ad.add 0))) w λy=>y=str x.n)/\(ldW false 1 (.pointer (some (ad.add 1))) w λy=>y=i64 (x.e:Nat))/\(ldW false 1 (.pointer (some (ad.add 2))) w λy=>y=i64 x.a):=by
 have hlt:=(bF.1 hi).1;have g:∀j',j'<3->(AJ l)[j*3+j']?=[str x.n,i64 (x.e:Nat),i64 x.a][j']?:=λj' hj=>wQ _ (λ_=>rfl) l j j' x hi hj;have:=wL (BP (k:=.i64) (K:=λp=>∃ad:Addr,p=.pointer (some ad)/\(ldW false 1 (.pointer (some (ad.add 0))) w λy=>y=str x.n)/\(ldW false 1 (.pointer (some (ad.add 1))) w λy=>y=i64 (x.e:Nat))/\(ldW false 1 (.pointer (some (ad.add 2))) w λy=>y=i64 x.a)) h (by rw[Gy]) (by omega) hlt λb o c fr hb hc=>by
  refine⟨⟨b,o,none⟩,rfl,?_,?_,?_⟩
  ·rw[eC];exact⟨_,by rw[bO,cP,hb,cM,hc 0 (by omega),g 0 (by omega)];rfl,rfl⟩
  ·rw[eC];exact⟨_,by rw[bO,cP,hb,cM,hc 1 (by omega),g 1 (by omega)];rfl,rfl⟩
  ·rw[eC];exact⟨_,by rw[bO,cP,hb,cM,hc 2 (by omega),g 2 (by omega)];rfl,rfl⟩)
 obtain⟨p,h1,ad,rfl,h2⟩:=this;exact⟨ad,h1,h2⟩
def PJ(w0:World)(T:TypeId)(c c':List Value)(st:List Value)(w':World):Prop:=∃a b,st=[.pointer (some ⟨a,0,none⟩),.pointer (some ⟨b,0,none⟩)]/\Ext w0 w'/\w'.heap[a]?=some (.cells c.toArray T (0,0))/\w'.heap[b]?=some (.cells c'.toArray T (0,0))
section
variable [HX]
end
theorem sU{l:List Nat}{j:Nat}(h:j<l.length):(ints l)[j]?=some (i64 ((l.getD j 0:Nat):Int)):=by
 unfold ints;rw[fM,aG h,aH,aG h];rfl
theorem Ae(l:List Nat):(ints l).length=l.length:=by unfold ints;rw[cD]
section
variable [HX]
theorem Pv{f g:Fl}{M N:Lay}(fewE:∀e∈f.ex,e.args.length<=9223372036854775807/\e.keys.length<=9223372036854775807){x:Nat}(h:sH f.ex g.ex i x):∀{w:World} {K:Q0},FV w M f->FV w N g->(∀w',Ext w w'->K (.bool true) w')->aI P0 45 [.agg [M.vE,M.vB,M.vT].toArray,i64 (i:Nat),.agg [N.vE,N.vB,N.vT].toArray,i64 (x:Nat)] w K:=by
 induction h with
 |@mk i x e e' ge ge' hk ht hs hl h ih=>
  intro w K hf hg hK;refine TK ?_;unfold W45;refine iS (z:=[M.vE,M.vB,M.vT]) λp w1 hp hz1 hb1 hx1=>?_;refine iS (z:=[N.vE,N.vB,N.vT]) λp' w2 hp' hz2 hb2 hx2=>?_;have hxd:=(hx1.trans hx2).trans (bM w2);have hb1d:=(hx2.trans (bM w2)).at hb1 id;have hb2d:=(bM w2).at hb2 id;have hfd:=hf.ext hxd;have hgd:=hg.ext hxd;have fe:=fewE e (bW ge);obtain⟨va,vk,o1,o2,pp,a1,a2⟩:=hfd.exI (k:=.i64) ge;obtain⟨va',vk',o1',o2',pp',a1',a2'⟩:=hgd.exI (k:=.i64) ge';have l1:∃c1 c2,va=.slice c1 e.args.length c2:=by obtain⟨x,y,z,_⟩:=o1.shape;exact⟨x,y,z⟩
  have l2:∃c1 c2,vk=.slice c1 e.keys.length c2:=by obtain⟨x,y,z,_⟩:=o2.shape;exact⟨x,y,z⟩
  have l1':∃c1 c2,va'=.slice c1 e'.args.length c2:=by obtain⟨x,y,z,_⟩:=o1'.shape;exact⟨x,y,z⟩
  have l2':∃c1 c2,vk'=.slice c1 e'.keys.length c2:=by obtain⟨x,y,z,_⟩:=o2'.shape;exact⟨x,y,z⟩
  refine cK.cut (PJ w2.drew ExT [i64 e.k,str e.t,va,vk,i64 e.a] [i64 e'.k,str e'.t,va',vk',i64 e'.a]) ?_ ?_
  ·rw[bH];refine rW (ld5 (off:=0) hb1d rfl) ?_;refine tV a1 ?_;refine rW a2 ?_;rw[bH];refine rW (ld5 (off:=0) hb2d rfl) ?_;refine tV a1' ?_;refine rW a2' ?_;refine HU (J:=PJ w2.drew ExT [i64 e.k,str e.t,va,vk,i64 e.a] [i64 e'.k,str e'.t,va',vk',i64 e'.a]) (T:=ExT) (n:=5) (z:=[.int .i64 0,.string (ofL []),.slice none 0 0,.slice none 0 0,.int .i64 0]) (c:=[i64 e.k,str e.t,va,vk,i64 e.a]) (c':=[i64 e'.k,str e'.t,va',vk',i64 e'.a]) rfl rfl rfl ?_ ?_ (ld5 (off:=0) hb1d rfl) a2 (ld5 (off:=0) hb2d rfl) a2' λa b w5 hx5 _ ha hb=>⟨a,b,rfl,hx5,ha,hb⟩
   ·obtain⟨_,_,rfl⟩:=l1;obtain⟨_,_,rfl⟩:=l2;rfl
   ·obtain⟨_,_,rfl⟩:=l1';obtain⟨_,_,rfl⟩:=l2';rfl
  rintro st g3 w5 ⟨a,b,rfl,hx5,ha,hb⟩;simp only[aE,dX];refine gK (off:=0) ha rfl ?_;refine gK (off:=0) hb rfl ?_;rw[gL,cV (by rw[hk];simp)];simp only[mH,fJ];refine GdW.look false (λ_ J hJ=>?_) λ_=>?_
  ·refine gK (off:=1) ha rfl ?_;refine gK (off:=1) hb rfl ?_;rw[pM,cV (by rw[ht];simp)];exact hJ
  simp only[aE,cY];rw[kY];simp only[mH,fJ];refine GdW.act false (λw'=>Ext w5 w') (λe=>by cases e) ?_ ?_
  ·intro _ J hJ;refine gK (off:=3) ha rfl ?_;refine gK (off:=3) hb rfl ?_;rw[hs]at o2';refine HZ (o2.ext hx5) (o2'.ext hx5) fe.2 λw7 hx7=>?_;rw[iN];exact hJ _ hx7
  rintro g5 w7 hx7;have ha7:=hx7.at ha id;have hb7:=hx7.at hb id;have hx57:=hx5.trans hx7;simp only[aE,cY];rw[kY];simp only[mH,fJ];refine GdW.look false (λ_ J hJ=>?_) λ_=>?_
  ·refine gK (off:=2) ha7 rfl ?_;rw[fD (o1.ext hx57)];refine gK (off:=2) hb7 rfl ?_;rw[fD (o1'.ext hx57),gL,cV (by omega)];exact hJ
  simp only[aE,cY];rw[kY,cQ];refine gK (off:=2) ha7 rfl ?_;rw[fD (o1.ext hx57)];refine dD.go (λst w'=>∃j:Nat,st=[i64 (j:Nat)]/\j<=e.args.length/\Ext w7 w') (λst _=>match st with|[.int _ j]=>e.args.length-j.toNat|_=>0) ⟨0,rfl,by omega,Chg.refl _ _⟩ ?_;rintro st g7 w8 ⟨j,rfl,hj,hx8⟩;simp only[aE];rw[eL,aN];refine⟨λhlt2=>?_,λhge2=>hK w8 ((hxd.trans hx57).trans hx8)⟩;have hlt2:j<e.args.length:=by omega
  have hx8d:=hx8.trans (bM w8);have hx58:=hx57.trans hx8d;have ha8:=hx8d.at ha7 id;have hb8:=hx8d.at hb7 id;refine fY (hx58.at hb1d id) rfl ?_;refine gK (off:=2) ha8 rfl ?_;refine kM (o1.ext hx58) (Ae _) (sU hlt2) ?_;refine fY (hx58.at hb2d id) rfl ?_;refine gK (off:=2) hb8 rfl ?_;refine kM (o1'.ext hx58) (Ae _) (sU (by omega)) ?_;refine ih j hlt2 (hfd.ext hx58) (hgd.ext hx58) λw9 hx9=>?_;rw[iN,lU,cQ,bU,upj (by omega)];exact⟨⟨j+1,rfl,by omega,hx8d.trans hx9⟩,by simp only[aP];omega⟩
theorem Mr{f g:Fl}{M N:Lay}(fewE:∀e∈f.ex,e.args.length<=9223372036854775807/\e.keys.length<=9223372036854775807)(fewB:∀b∈f.bl,b.labels.length<=9223372036854775807/\b.attrs.length<=9223372036854775807/\b.blocks.length<=9223372036854775807){x:Nat}(h:Jc f g.ex g.bl i x):∀{w:World} {K:Q0},FV w M f->FV w N g->(∀w',Ext w w'->K (.bool true) w')->aI P0 17 [.agg [M.vE,M.vB,M.vT].toArray,i64 (i:Nat),.agg [N.vE,N.vB,N.vT].toArray,i64 (x:Nat)] w K:=by
 induction h with
 |@mk i x e e' ge ge' ht hlb hat hl h ih=>
  intro w K hf hg hK;refine TY ?_;unfold W17;refine iS (z:=[M.vE,M.vB,M.vT]) λp w1 hp hz1 hb1 hx1=>?_;refine iS (z:=[N.vE,N.vB,N.vT]) λp' w2 hp' hz2 hb2 hx2=>?_;have hxd:=(hx1.trans hx2).trans (bM w2);have hb1d:=(hx2.trans (bM w2)).at hb1 id;have hb2d:=(bM w2).at hb2 id;have hfd:=hf.ext hxd;have hgd:=hg.ext hxd;have fe:=fewB e (bW ge);obtain⟨vl,va,vb,o1,o2,o3,pp,a1,a2⟩:=hfd.bkI (k:=.i64) ge;obtain⟨vl',va',vb',o1',o2',o3',pp',a1',a2'⟩:=hgd.bkI (k:=.i64) ge';refine cK.cut (PJ w2.drew BkT [str e.typ,vl,va,vb,i64 e.a] [str e'.typ,vl',va',vb',i64 e'.a]) ?_ ?_
  ·rw[bH];refine rW (ld5 (off:=1) hb1d rfl) ?_;refine tV a1 ?_;refine rW a2 ?_;rw[bH];refine rW (ld5 (off:=1) hb2d rfl) ?_;refine tV a1' ?_;refine rW a2' ?_;refine HU (J:=PJ w2.drew BkT [str e.typ,vl,va,vb,i64 e.a] [str e'.typ,vl',va',vb',i64 e'.a]) (T:=BkT) (n:=5) (z:=[.string (ofL []),.slice none 0 0,.slice none 0 0,.slice none 0 0,.int .i64 0]) (c:=[str e.typ,vl,va,vb,i64 e.a]) (c':=[str e'.typ,vl',va',vb',i64 e'.a]) rfl rfl rfl ?_ ?_ (ld5 (off:=1) hb1d rfl) a2 (ld5 (off:=1) hb2d rfl) a2' λa b w5 hx5 _ ha hb=>⟨a,b,rfl,hx5,ha,hb⟩
   ·obtain⟨_,_,rfl,_⟩:=o1.shape;obtain⟨_,_,rfl,_⟩:=o2.shape;obtain⟨_,_,rfl,_⟩:=o3.shape;rfl
   ·obtain⟨_,_,rfl,_⟩:=o1'.shape;obtain⟨_,_,rfl,_⟩:=o2'.shape;obtain⟨_,_,rfl,_⟩:=o3'.shape;rfl
  rintro st g3 w5 ⟨a,b,rfl,hx5,ha,hb⟩;simp only[aE,dX];refine gK (off:=0) ha rfl ?_;refine gK (off:=0) hb rfl ?_;rw[pM,cV (by rw[ht];simp)];simp only[mH,fJ];refine GdW.act false (λw'=>Ext w5 w') (λe=>by cases e) ?_ ?_
  ·intro _ J hJ;refine gK (off:=1) ha rfl ?_;refine gK (off:=1) hb rfl ?_;rw[hlb]at o1';refine HZ (o1.ext hx5) (o1'.ext hx5) fe.1 λw6 hx6=>?_;rw[iN];exact hJ _ hx6
  rintro g4 w7 hx7;have ha7:=hx7.at ha id;have hb7:=hx7.at hb id;have hx57:=hx5.trans hx7;have hal:=hat.1;simp only[aE,cY];rw[kY];simp only[mH,fJ];refine GdW.look false (λ_ J hJ=>?_) λ_=>?_
  ·refine gK (off:=2) ha7 rfl ?_;rw[fD (o2.ext hx57)];refine gK (off:=2) hb7 rfl ?_;rw[fD (o2'.ext hx57),gL,cV (by omega)];exact hJ
  simp only[aE,cY];rw[kY];simp only[mH,fJ];refine GdW.look false (λ_ J hJ=>?_) λ_=>?_
  ·refine gK (off:=3) ha7 rfl ?_;rw[fD (o3.ext hx57)];refine gK (off:=3) hb7 rfl ?_;rw[fD (o3'.ext hx57),gL,cV (by omega)];exact hJ
  simp only[aE,cY];rw[kY,cQ];refine gK (off:=2) ha7 rfl ?_;rw[fD (o2.ext hx57)];refine dD.go (λst w'=>∃j:Nat,st=[i64 (j:Nat)]/\j<=e.attrs.length/\Ext w7 w') (λst _=>match st with|[.int _ j]=>e.attrs.length-j.toNat|_=>0) ⟨0,rfl,by omega,Chg.refl _ _⟩ ?_;rintro st g7 w8 ⟨j,rfl,hj,hx8⟩;simp only[aE];rw[eL,aN];refine⟨λhlt2=>?_,λhge2=>?_⟩
  ·have hlt2:j<e.attrs.length:=by omega
   have hx8d:=hx8.trans (bM w8);have hx58:=hx57.trans hx8d;have ha8:=hx8d.at ha7 id;have hb8:=hx8d.at hb7 id;have gx:=aG hlt2;have gx':=aG (show j<e'.attrs.length by omega);generalize e.attrs[j]=x at gx;generalize e'.attrs[j]=x' at gx';obtain⟨s1,s2⟩:=hat.2 j x x' gx gx';obtain⟨ad,i1,i2,i3,i4⟩:=My (o2.ext hx58) gx;obtain⟨ad',i1',i2',i3',i4'⟩:=My (o2'.ext hx58) gx';refine gK (off:=2) ha8 rfl ?_;refine tV i1 ?_;rw[bH];refine rW i2 ?_;refine gK (off:=2) hb8 rfl ?_;refine tV i1' ?_;rw[bH];refine rW i2' ?_;rw[pM,cV (by rw[s1];simp)];simp only[mH,fJ];refine vF (v:=.agg [M.vE,M.vB,M.vT].toArray) (fY (hx58.at hb1d id) rfl rfl) ?_;rw[Ez];refine vF (ld5 (off:=2) ha8 rfl) ?_;refine vF rfl ?_;refine vF i1 ?_;rw[Ez];refine vF i3 ?_;refine vF (v:=.agg [N.vE,N.vB,N.vT].toArray) (fY (hx58.at hb2d id) rfl rfl) ?_;rw[Ez];refine vF (ld5 (off:=2) hb8 rfl) ?_;refine vF rfl ?_;refine vF i1' ?_;rw[Ez];refine vF i3' ?_;refine⟨λ_=>?_,λe=>(by cases e)⟩;refine Pv fewE s2 (hfd.ext hx58) (hgd.ext hx58) λw9 hx9=>?_;refine vF (v:=.bool false) rfl ?_;rw[kY,cQ,bU,upj (by omega)];exact⟨⟨j+1,rfl,by omega,hx8d.trans hx9⟩,by simp only[aP];omega⟩
  ·have hx58:=hx57.trans hx8;have ha8:=hx8.at ha7 id;refine gK (off:=3) ha8 rfl ?_;rw[fD (o3.ext hx58)];refine dD.go (λst w'=>∃j:Nat,st=[i64 (j:Nat)]/\j<=e.blocks.length/\Ext w8 w') (λst _=>match st with|[.int _ j]=>e.blocks.length-j.toNat|_=>0) ⟨0,rfl,by omega,Chg.refl _ _⟩ ?_;rintro st g9 w10 ⟨q,rfl,hq,hx10⟩;simp only[aE];rw[eL,aN];refine⟨λhlt2=>?_,λhge2=>hK w10 ((hxd.trans hx58).trans hx10)⟩;have hlt2:q<e.blocks.length:=by omega
   have hx10d:=hx10.trans (bM w10);have hx510:=hx58.trans hx10d;have ha10:=hx10d.at ha8 id;have hb10:=(hx8.trans hx10d).at hb7 id;refine fY (hx510.at hb1d id) rfl ?_;refine gK (off:=3) ha10 rfl ?_;refine kM (o3.ext hx510) (Ae _) (sU hlt2) ?_;refine fY (hx510.at hb2d id) rfl ?_;refine gK (off:=3) hb10 rfl ?_;refine kM (o3'.ext hx510) (Ae _) (sU (by omega)) ?_;refine ih q hlt2 (hfd.ext hx510) (hgd.ext hx510) λw11 hx11=>?_;rw[iN,lU,cQ,bU,upj (by omega)];exact⟨⟨q+1,rfl,by omega,hx10d.trans hx11⟩,by simp only[aP];omega⟩
end
end
section
open Go Go.Eng Go.Lex Go.Syn
variable{w:World}{K:Q0}{cs:List Value}{G:Nat->Prop}{T:TypeId}{i:Nat}{n:Nat}{v:Value}{w':World}{P:Program}{c:UInt8}{S:Nat->Prop}
def eZ(l:List Nat):Nat:=l.foldr (· +·) 0
theorem fV(a:Nat)(l:List Nat):eZ (a::l)=a+eZ l:=rfl
theorem yD:∀a b:List Nat,eZ (a++b)=eZ a+eZ b
 |[],b=>by rw[cI];show _=0+_;omega
 |x::a,b=>by rw[dC,fV,fV,yD a b];omega
theorem Jg{a b:List Nat}(h:a.Perm b):eZ a=eZ b:=by
 induction h with
 |nil=>rfl
 |cons x _ ih=>rw[fV,fV,ih]
 |swap x y l=>simp only[fV];omega
 |trans _ _ i1 i2=>rw[i1,i2]
theorem uS{x:Nat}{l:List Nat}(h:x∈l):x<=eZ l:=by
 induction l with
 |nil=>cases h
 |cons y l ih=>
  rw[fV];rcases bC.1 h with rfl|h
  ·omega
  ·have:=ih h;omega
theorem tH{α:Type}(l:List α)(F G:α->Nat)(h:∀x∈l,F x<=G x):eZ (l.map F)<=eZ (l.map G):=by
 induction l with
 |nil=>exact aL _
 |cons x l ih=>
  rw[bS,bS,fV,fV];have h1:=h x (by simp);have h2:=ih λy hy=>h y (aK _ hy);omega
theorem sJ{α:Type}(l:List α)(F G:α->Nat):eZ (l.map λx=>F x+G x)=eZ (l.map F)+eZ (l.map G):=by
 induction l with
 |nil=>rfl
 |cons x l ih=>rw[bS,bS,bS,fV,fV,fV,ih];omega
theorem oX{α:Type}(l:List α)(c:Nat):eZ (l.map λ_=>c)=l.length*c:=by
 induction l with
 |nil=>simp[eZ]
 |cons x l ih=>rw[bS,fV,ih,aA,Cq];omega
theorem Kz{α:Type}(l:List α)(c:Nat)(F:α->Nat):eZ (l.map λx=>c*F x)=c*eZ (l.map F):=by
 induction l with
 |nil=>rfl
 |cons x l ih=>rw[bS,bS,fV,fV,ih,Nat.mul_add]
theorem CC(W:Nat->Nat):∀(L:List (List Nat)),eZ (L.map λus=>eZ (us.map W))=eZ (L.flatten.map W)
 |[]=>rfl
 |us::L=>by rw[bS,fV,eV,jP,yD,CC W L]
theorem zY{α:Type}(l:List α)(F:Option α->Nat):eZ ((List.range l.length).map λi=>F l[i]?)=eZ (l.map λx=>F (some x)):=by
 have:(List.range l.length).map (λi=>F l[i]?)=l.map λx=>F (some x):=by
  apply mB (by simp);intro i h1 h2;simp only[cD]at h2;simp[aG h2]
 rw[this]
theorem AB{L:List (List Nat)}{r:List Nat}(h:bR L r):(L.flatten++r).Perm (List.range L.length):=by
 have ho:=wH h;rw[tB];intro a;by_cases ha:a<L.length
 ·have h1:=List.nodup_iff_count.1 (List.nodup_range (n:=L.length)) a;have h2:=List.count_pos_iff.2 (dS.2 ha);rw[ho.one a ha];omega
 ·rw[Aw (λhm=>ha (ho.lt a hm)),Aw (λhm=>ha (dS.1 hm))]
theorem xO{L:List (List Nat)}{r:List Nat}(h:bR L r)(own W:Nat->Nat)(hW:∀i us,L[i]?=some us->W i=own i+eZ (us.map W)):eZ (r.map W)=eZ ((List.range L.length).map own):=by
 have h1:=Jg ((AB h).map W);rw[jP,yD]at h1;have h2:eZ ((List.range L.length).map W)=eZ ((List.range L.length).map own)+eZ (L.flatten.map W):=by
  have e:(List.range L.length).map W=(List.range L.length).map λi=>own i+(match L[i]? with|some us=>eZ (us.map W)|none=>0):=by
   apply dN;intro i hi;rw[dS]at hi;rw[aG hi];exact hW i _ (aG hi)
  rw[e,sJ,zY L (λo=>match o with|some us=>eZ (us.map W)|none=>0),CC]
 omega
theorem Ge{L:List (List Nat)}{r:List Nat}(h:bR L r)(own W:Nat->Nat)(hW:∀i us,L[i]?=some us->W i=own i+eZ (us.map W)):∀(k i:Nat),i+k+1=L.length->W i<=eZ ((List.range L.length).map own):=by
 intro k;induction k using Nat.strongRecOn with
 |ind k ih=>
  intro i hi;have hs:=xO h own W hW;have hm:i∈L.flatten++r:=(AB h).mem_iff.2 (dS.2 (by omega));rcases bQ.1 hm with hm|hm
  ·obtain⟨us,hus,hiu⟩:=zO.1 hm;obtain⟨p,hp⟩:=xU.1 hus;have hlt:=h.ahead p us hp i hiu;have hpl:=(bF.1 hp).1;have h1:=ih (L.length-1-p) (by omega) p (by omega);have h2:=hW p us hp;have h3:=uS (eU.2 ⟨i,hiu,rfl⟩:W i∈us.map W);omega
  ·have:=uS (eU.2 ⟨i,hm,rfl⟩:W i∈r.map W);omega
end
section
open Go Go.Eng Go.RowKit
variable{w:World}{K:Q0}{cs:List Value}{G:Nat->Prop}{T:TypeId}{i:Nat}{n:Nat}{v:Value}{w':World}{P:Program}{c:UInt8}{S:Nat->Prop}
section
variable [HX]
theorem Js{l:Str}{K:Q0}(hK:K (.pointer (some ⟨w.heap.size,0,none⟩)) (w.alloc (.stringIter (ofL l) 0))):fG P0 (Instr.range 9 (str l)) w K:=by
 have hT:Tryz.prog.underlying 9=some .string:=by kernel_rfl
 have hr:(Instr.range 9 (str l)).run P0 w=.ok (.pointer (some ⟨w.heap.size,0,none⟩)) (w.alloc (.stringIter (ofL l) 0)):=by
  simp[Instr.range,run_bind,bE hT,run_pure,newObj,Sem.run]
 unfold fG;rw[hr];exact hK
theorem Fc{r:Nat}{o:Obj}(h:r<w.heap.size):Chg (· =r) w {w with heap:=w.heap.setIfInBounds r o}:=
 ⟨rfl,rfl,rfl,by simp,λk _ hk=>by
  show(w.heap.setIfInBounds r o)[k]?=_
  rw[Array.getElem?_setIfInBounds_ne (by omega)]⟩
theorem Lv{r pos:Nat}{l:Str}{K:Q0}(hw:w.heap[r]?=some (.stringIter (ofL l) pos))
  (h0:l.length<=pos->K (.tuple #[.bool false]) w)
  (h1:pos<l.length->∀w',w'.heap[r]?=some (.stringIter (ofL l) (pos+(Utf8.decode (ofL l) pos).2))->Chg (· =r) w w'->w'.heap.size=w.heap.size->K (.tuple #[.bool true,i64 pos,.int .i32 (Utf8.decode (ofL l) pos).1]) w'):
  fG P0 (Instr.next (.pointer (some ⟨r,0,none⟩)) true T) w K:=by
 have hg:(getObj r).run P0 w=.ok (.stringIter (ofL l) pos) w:=by simp[getObj,Sem.run,hw]
 have hlt:r<w.heap.size:=(jJ.1 hw).1;unfold fG;simp only[Instr.next,run_bind,hg,gN];by_cases hp:pos<l.length
 ·have hset:(setObj r (.stringIter (ofL l) (pos+(Utf8.decode (ofL l) pos).2))).run P0 w=.ok () {w with heap:=w.heap.setIfInBounds r (.stringIter (ofL l) (pos+(Utf8.decode (ofL l) pos).2))}:=by simp[setObj,Sem.run,hw]
  rw[aF hp];simp only[run_bind,hset,run_pure];exact h1 hp _ (by simp[hlt]) (Fc hlt) (by simp)
 ·rw[aD hp];simp only[run_pure];exact h0 (by omega)
end
end
section
open Go Go.Eng Go.RowKit Go.Syn Go.Lex
variable{w:World}{K:Q0}{cs:List Value}{G:Nat->Prop}{T:TypeId}{i:Nat}{n:Nat}{v:Value}{w':World}{P:Program}{c:UInt8}{S:Nat->Prop}
variable [HX]
theorem Hg{u:Str}(h:∀c∈u,c≠92/\c≠34/\c≠36/\c≠10/\c≠9/\c≠13):plainM u=u:=by
 induction u with
 |nil=>rfl
 |cons c u ih=>
  have h1:=h c (by simp);rw[iZ,ih λd hd=>h d (aK _ hd)];unfold kG;rw[aD (by rintro(e|e|e);exact h1.1 e;exact h1.2.1 e;exact h1.2.2.1 e),aD h1.2.2.2.1,aD h1.2.2.2.2.1,aD h1.2.2.2.2.2];rfl
theorem Jv(a b:Str):plainM (a++b)=plainM a++plainM b:=List.flatMap_append
theorem CQ(s:Str):(plainM s).length<=2*s.length:=by
 induction s with
 |nil=>exact aL _
 |cons c s ih=>
  rw[iZ,aB,aA];have:(kG c).length<=2:=by
   have:=qI c;generalize kG c=p at this;cases this<;>simp
  omega
theorem yE{s:Str}{K:Q0}(hs:Utf s)(hl:s.length<=1000000000)(hK:∀w',Ext w w'->K (str (plainM s)) w'):aI P0 83 [str s] w K:=by
 refine Tw ?_;unfold W83;refine Mq (B:=w.heap.size) (aL _) λb w1 hbb h1 hx1=>?_;have hz1:=hx1.size;have hb1:=h1.lt;refine Js ?_;have hc2:Chg (BCh w1 w.heap.size b) w1 (w1.alloc (.stringIter (ofL s) 0)):=Chg.of_ext (Chg.alloc (Chg.refl _ _) _);refine⟨λs' w4=>∃p,p<=s.length/\Utf (s.drop p)/\w4.heap[w1.heap.size]?=some (.stringIter (ofL s) p)/\Bld w4 w.heap.size b (plainM (s.take p))/\Chg (BCh w1 w.heap.size b) w1 w4,
  λ_ w4=>match w4.heap[w1.heap.size]? with|some (.stringIter _ p)=>s.length-p|_=>0,
  ⟨0,cX _,by rw[bJ];exact hs,kO _ _ _ rfl,by rw[oN];exact h1.ext (Chg.alloc (Chg.refl _ _) _),hc2⟩,?_⟩
 rintro s' g w4 ⟨p,hp,hu,hit,h4,hc4⟩;have hz4:=hc4.size;have hfl:=CQ (s.take p);have htl:(s.take p).length=p:=by rw[cG];omega
 refine Lv hit (λhpe=>?_) (λhpl w5 hit5 hc5 hz5=>?_)
 ·rw[bK];refine⟨.bool false,rfl,?_⟩;rw[cQ];obtain rfl:p=s.length:=by omega
  rw[bP]at h4;refine sY h4 (by omega) λw6 hc6=>?_;refine hK w6 ((BCh.new hx1 (aL _) h1.base hc4).then hc6 λk hk e=>by omega)
 ·have hne:s.drop p≠[]:=λe=>by have:=Au.1 e;omega
  obtain⟨u,r,hru,hur,hdr⟩:∃u r,Rn u/\Utf r/\s.drop p=u++r:=by
   cases hd:s.drop p with
   |nil=>exact absurd hd hne
   |cons x y=>
    rw[hd]at hu;generalize he:x::y=z at hu;cases hu with
    |nil=>cases he
    |cons h1 h2=>exact⟨_,_,h1,h2,rfl⟩
  have hrm:fK s p=u.length:=hru.at hdr;have hup:=hru.pos;obtain⟨c,hc⟩:=qM hpl (by omega);rw[hrm]at hc;have htk:(s.drop p).take u.length=u:=by rw[hdr,rG]
  have hnext:s.take (p+u.length)=s.take p++u:=by rw[List.take_add,htk]
  have hdr2:s.drop (p+u.length)=r:=Ci hdr;have hdec:=hc.dec;have hct:=hc.top;have hcv:=hc.val;have hcu:wrM c=u:=by rw[<-Kj (by omega),hc.bytes,htk]
  rw[hdec]at hit5;have h5:Bld w5 w.heap.size b (plainM (s.take p)):=h4.chg hc5 (λe=>by have:=e;omega) λk hk e=>by
   obtain⟨_,c',hc'⟩:=hk;have e:k=w1.heap.size:=e;rw[e,hit]at hc';cases hc'
  have hc5':Chg (BCh w1 w.heap.size b) w1 w5:=hc4.then hc5 λk hk e=>by omega
  have hfit:=hc.fits;have fin:∀w6,Bld w6 w.heap.size b (plainM (s.take p)++plainM u)->Chg (BCh w5 w.heap.size b) w5 w6->(λ(s':List Value) w4=>∃p,p<=s.length/\Utf (s.drop p)/\w4.heap[w1.heap.size]?=some (.stringIter (ofL s) p)/\Bld w4 w.heap.size b (plainM (s.take p))/\Chg (BCh w1 w.heap.size b) w1 w4) [] w6/\
    (match w6.heap[w1.heap.size]? with|some (.stringIter _ p)=>s.length-p|_=>0)<(match w4.heap[w1.heap.size]? with|some (.stringIter _ p)=>s.length-p|_=>0):=by
   intro w6 h6 hc6;have hit6:=BCh.iter hc6 hit5 (by omega);refine⟨⟨p+u.length,hfit,by rw[hdr2];exact hur,hit6,?_,BCh.trans hc5' hc6⟩,?_⟩
   ·rw[hnext,Jv];exact h6
   ·rw[hit6,hit];show s.length-(p+u.length)<s.length-p;omega
  rw[bK];refine⟨.bool true,rfl,?_⟩;rw[fP,bK];refine⟨.int .i32 (c:Int),by rw[hdec];rfl,?_⟩;have same:c≠92->c≠34->c≠36->c≠10->c≠9->c≠13->plainM u=u:=λa1 a2 a3 a4 a5 a6=>by
   refine Hg λd hd=>?_;have key:∀k:UInt8,k.toNat<128->c≠k.toNat->d≠k:=λk hk hck e=>by
    subst e;rcases hru.cases with⟨x,hx,hxl⟩|hh
    ·subst hx;rw[aU]at hd;subst hd;have hcx:c=d.toNat:=by
      have:=(hc.low rfl).1;rw[this];have e:=lZ hpl;rw[Go.Eng.byte_at (show s.drop p=d::r from hdr)]at e;omega
     exact hck hcx
    ·have:=hh d hd;omega
   exact⟨key 92 (by decide) a1,key 34 (by decide) a2,key 36 (by decide) a3,key 10 (by decide) a4,key 9 (by decide) a5,key 13 (by decide) a6⟩
  refine cK.cut (λst w'=>∃(c':Nat) (pre:Str),st=[.int .i32 (c':Int)]/\(c'<55296\/57343<c'/\c'<=1114111)/\pre.length<=1/\pre++wrM c'=plainM u/\Bld w' w.heap.size b (plainM (s.take p)++pre)/\Chg (BCh w5 w.heap.size b) w5 w') ?_ ?_
  ·refine cK.cut (λst w'=>st=[.bool (decide (c=92\/c=34\/c=36))]/\w'=w5) ?_ ?_
   ·rw[bI,aN];refine⟨λh=>?_,λh=>?_⟩
    ·rw[cO h,cO (.inl (by omega))];exact⟨rfl,rfl⟩
    rw[bI,aN];refine⟨λh=>?_,λh=>?_⟩
    ·rw[cO h,cO (.inr (.inl (by omega)))];exact⟨rfl,rfl⟩
    rw[bI];rw[show decide ((c:Int)=36)=decide (c=92\/c=34\/c=36)by rw[decide_eq_decide];omega];exact⟨rfl,rfl⟩
   rintro st g7 w8 ⟨rfl,rfl⟩;simp only[aE];have wr:∀{c':Nat},c'<128->∀w9,Bld w9 w.heap.size b (plainM (s.take p)++[UInt8.ofNat 92])->Chg (BCh w8 w.heap.size b) w8 w9->[92]++wrM c'=plainM u->∃(c'':Nat) (pre:Str),[Value.int .i32 (c':Int)]=[.int .i32 (c'':Int)]/\(c''<55296\/57343<c''/\c''<=1114111)/\pre.length<=1/\pre++wrM c''=plainM u/\Bld w9 w.heap.size b (plainM (s.take p)++pre)/\Chg (BCh w8 w.heap.size b) w8 w9:=
    λ{c'} h1 w9 h2 h3 h4=>⟨c',[92],rfl,.inl (by omega),aL _,h4,h2,h3⟩
   rw[aN];refine⟨λh=>?_,λh=>?_⟩
   ·refine pJ (n:=92) h5 (by omega) (by omega) (by omega) λw9 h9 hc9=>?_;refine wr (by omega) w9 h9 hc9 ?_;rw[<-hcu];rcases h with rfl|rfl|rfl<;>rfl
   rw[bI,aN];refine⟨λh2=>?_,λh2=>?_⟩
   ·refine pJ (n:=92) h5 (by omega) (by omega) (by omega) λw9 h9 hc9=>?_;refine wr (c':=110) (by omega) w9 h9 hc9 ?_;rw[<-hcu,show c=10 by omega];rfl
   rw[bI,aN];refine⟨λh3=>?_,λh3=>?_⟩
   ·refine pJ (n:=92) h5 (by omega) (by omega) (by omega) λw9 h9 hc9=>?_;refine wr (c':=116) (by omega) w9 h9 hc9 ?_;rw[<-hcu,show c=9 by omega];rfl
   rw[bI,aN];refine⟨λh4=>?_,λh4=>?_⟩
   ·refine pJ (n:=92) h5 (by omega) (by omega) (by omega) λw9 h9 hc9=>?_;refine wr (c':=114) (by omega) w9 h9 hc9 ?_;rw[<-hcu,show c=13 by omega];rfl
   refine⟨c,[],rfl,by omega,cX _,?_,by rw[cH];exact h5,Chg.refl _ _⟩;rw[cI,hcu];exact(same (by omega) (by omega) (by omega) (by omega) (by omega) (by omega)).symm
  rintro st g6 w13 ⟨c',pre,rfl,hcv',hpl',hw,h13,hc13⟩;simp only[aE];have hz13:=hc13.size;refine HO h13 (by omega) (by rw[aB];omega) hcv' λv w14 h14 hc14=>?_;rw[bB,hw]at h14;exact fin w14 h14 (BCh.trans hc13 hc14)
end
section
open Go Go.Eng Go.RowKit Go.Syn Go.Lex
variable{w:World}{K:Q0}{cs:List Value}{G:Nat->Prop}{T:TypeId}{i:Nat}{n:Nat}{v:Value}{w':World}{P:Program}{c:UInt8}{S:Nat->Prop}
section
variable{w w':World}{B g r p:Nat}{M:Lay}{fl:Fl}{v:Value}
theorem tR{a:Nat}{d:List Value}{K:Value->Prop}(h:w.heap[a]?=some (.cells d.toArray T (0,0)))(hn:d.length=n)(hK:K (.agg d.toArray)):ldW true n (.pointer (some ⟨a,0,none⟩)) w K:=by
 rw[BM];refine⟨d,?_,hK⟩;have:=Ao (o:=0) (d:=d) h (λj hj=>by rw[aQ];simp) n 0 (by omega);simpa using this
end
end
section
open Go Go.Eng Go.RowKit Go.Syn Go.Lex
structure JV(w0 w:World)(B a9 a12 n m:Nat)(M:Lay)(fl:Fl)(vE vB vT:Value)(i j:Nat)(t:List Nat):Prop where
 F:FO w B M fl
 h9:w.heap[a9]?=some (.cells [M.vE,M.vB,M.vT].toArray FlT (0,0))
 h12:w.heap[a12]?=some (.cells [vE,vB,vT].toArray FlT (0,0))
 oE:Own w (a12+1) ExT 5 vE i ((M.cE.drop (n*5)).take (i*5))
 oB:Own w (a12+1) BkT 5 vB j ((M.cB.drop (m*5)).take (j*5))
 oT:Own w (a12+1) gS 1 vT t.length (ints t)
 ch:Ext w0 w
 lo:w0.heap.size<=B/\B<=a9/\a9<a12
 lt:∀k∈ub ([M.vE,M.vB,M.vT]++(M.cE++M.cB)),k<a9
 dEB:∀k,vE.ownBlock=some k->vB.ownBlock≠some k
 dET:∀k,vE.ownBlock=some k->vT.ownBlock≠some k
 dBT:∀k,vB.ownBlock=some k->vT.ownBlock≠some k
section
variable{w0 w w' w1 w2:World}{B a9 a12 n m g:Nat}{M:Lay}{fl fl':Fl}{vE vB vT v':Value}{i j:Nat}{t:List Nat}
end
end
section
open Go Go.Eng Go.RowKit Go.Syn Go.Lex
variable{w:World}{K:Q0}{cs:List Value}{G:Nat->Prop}{T:TypeId}{i:Nat}{n:Nat}{v:Value}{w':World}{P:Program}{c:UInt8}{S:Nat->Prop}
theorem FL{t:Str}{y:Fl}(h:gD t=.ok y):(∀e∈y.ex,∀a∈e.args,a<y.ex.length)/\(∀b∈y.bl,(∀u∈b.attrs,u.e<y.ex.length)/\∀c∈b.blocks,c<y.bl.length)/\∀k∈y.top,k<y.bl.length:=by
 have hf:=vG t;rw[h]at hf;obtain⟨_,hfe,hfb,_⟩:=hf;have hE:=wH hfe;have hB:=wH hfb;rw[cD]at hE hB;refine⟨λe he a ha=>hE.lt a (dI _ (zO.2 ⟨_,eU.2 ⟨e,he,rfl⟩,ha⟩)),λb hb=>⟨λu hu=>hE.lt _ (bV _ ?_),λc hc=>hB.lt c (dI _ (zO.2 ⟨_,eU.2 ⟨b,hb,rfl⟩,hc⟩))⟩,λk hk=>hB.lt k (bV _ hk)⟩;exact List.mem_flatMap.2 ⟨b,hb,eU.2 ⟨u,hu,rfl⟩⟩
theorem FO.one{B:Nat}{M:Lay}{fl:Fl}(h:FO w B M fl):[M.vE,M.vB,M.vT].all nK=true:=by
 obtain⟨p1,c1,e1,_⟩:=h.oE.sl.shape;obtain⟨p2,c2,e2,_⟩:=h.oB.sl.shape;obtain⟨p3,c3,e3,_⟩:=h.oT.sl.shape;rw[e1,e2,e3];rfl
end
section
open Go Go.Eng Go.RowKit Go.Syn Go.Lex
variable{w:World}{K:Q0}{cs:List Value}{G:Nat->Prop}{T:TypeId}{i:Nat}{n:Nat}{v:Value}{w':World}{P:Program}{c:UInt8}{S:Nat->Prop}
variable [HX]
def Jf(f:Fl)(e:Ex)(l:List Str)(k:Nat):Str:=if e.keys.getD k []=[116]then plainM (f.ex.getD (e.args.getD k 0) ⟨0,[],[],[],0⟩).t else [36,123]++l.getD k []++[125]
theorem EV(f:Fl)(e:Ex)(l:List Str)(k:Nat):tF f e l (k+1)=tF f e l k++Jf f e l k:=by
 unfold tF;rw[List.range_succ,jP,tC];simp[Jf]
theorem GJ(f:Fl)(e:Ex)(l:List Str):∀(n k:Nat),k<=n->(tF f e l k).length<=(tF f e l n).length
 |0,k,h=>by obtain rfl:k=0:=by omega
            exact aL _
 |n+1,k,h=>by
  by_cases e1:k=n+1
  ·rw[e1];exact aL _
  ·have:=GJ f e l n k (by omega)
   rw[EV,aB];omega
theorem Rv{k:Int}{K:Q0}(h1:15<=k)(h2:k<=27)(hK:K (str (mW.getD (k-15).toNat [])) w):aI P0 86 [i64 k] w K:=by
 refine Tu ?_;unfold W86;simp only[Bh,List.replicate_zero,eA,dQ,aA,aC,aR,aV,Nat.reduceAdd,Nat.reduceLT,dB,aY];rw[nZ,dF (by omega) (by omega)];obtain⟨n,hn⟩:∃n:Nat,k-15=(n:Nat):=⟨(k-15).toNat,by omega⟩;rw[hn];rw[hn,aP]at hK;show LJ 13 false 1 (.agg (strs mW).toArray) (i64 (n:Nat)) λt6=>K t6 w;refine UJ (len:=13) (l:=strs mW) (k:=n) (x:=str (mW.getD n [])) ?_ ?_ ?_
 ·omega
 ·exact qU (by show n<13;omega)
 ·exact hK
theorem GN{f:Fl}{e:Ex}{M:Lay}{va vk vl:Value}{l:List Str}{K:Q0}(hf:FV w M f)(ha:gE w gS va e.args.length (ints e.args))(hk:gE w StT vk e.keys.length (strs e.keys))(hl:gE w StT vl l.length (strs l))
  (h1:l.length=e.args.length)(h2:e.keys.length=e.args.length)(hin:∀a∈e.args,a<f.ex.length)(hut:∀x∈f.ex,Utf x.t/\x.t.length<=1000000000)(hfew:l.length<=1000000)(hL:(tF f e l l.length).length<=10000000000000)
  (hK:∀w',Ext w w'->K (str ([34]++tF f e l l.length++[34])) w'):aI P0 85 [.agg [M.vE,M.vB,M.vT].toArray,.agg [i64 e.k,str e.t,va,vk,i64 e.a].toArray,vl] w K:=by
 refine Tv ?_;unfold W85;have emax:IntKind.i64.max=9223372036854775807:=by decide
 refine iS (z:=[M.vE,M.vB,M.vT]) λp w1 hp hz1 hb1 hx1=>?_;refine iS (z:=[i64 e.k,str e.t,va,vk,i64 e.a]) λp2 w2 hp2 hz2 hb2 hx2=>?_;have hb1:=hx2.at hb1 id;have hx12:=hx1.trans hx2;have hf:=hf.ext hx12;have ha:=ha.ext hx12;have hk:=hk.ext hx12;have hl:=hl.ext hx12;refine Mq (B:=w2.heap.size) (aL _) λb w3 hbb h3 hx3=>?_;have hz3:=hx3.size;have hb3:=h3.lt;refine pJ (n:=34) h3 (by omega) (by simp) (by omega) λw4 h4 hc4=>?_;rw[fD hl];refine dD.go (λst w'=>∃k:Nat,st=[i64 (k:Nat)]/\k<=l.length/\Bld w' w2.heap.size b ([34]++tF f e l k)/\Chg (BCh w3 w2.heap.size b) w3 w') (λst _=>match st with|[.int _ k]=>l.length-k.toNat|_=>0) ⟨0,rfl,by omega,h4,hc4⟩ ?_;rintro st g w6 ⟨k,rfl,hkl,h6,hc6⟩;have hx6:Ext w2 w6:=BCh.new hx3 (aL _) h3.base hc6;have hz6:=hx6.size;simp only[aE];rw[eL,aN];have hle:=GJ f e l l.length k hkl;refine⟨λhlt=>?_,λhge=>?_⟩
 ·have hlt:k<l.length:=by omega
  have hnx:=EV f e l k;have hle2:=GJ f e l l.length (k+1) (by omega);rw[hnx,aB]at hle2;refine cK.cut (λst w'=>st=[]/\Bld w' w2.heap.size b ([34]++tF f e l (k+1))/\Chg (BCh w3 w2.heap.size b) w3 w') ?_ ?_
  ·refine kM (hl.ext hx6) (by simp[strs]) (qU hlt) ?_;refine gK (off:=3) (hx6.at hb2 id) rfl ?_;refine kM (hk.ext hx6) (by simp[strs]) (qU (show k<e.keys.length by omega)) ?_;rw[oD,aN];refine⟨λht=>?_,λht=>?_⟩
   ·have hp:Jf f e l k=plainM (f.ex.getD (e.args.getD k 0) ⟨0,[],[],[],0⟩).t:=by unfold Jf;rw[aF ht]
    have hx6d:=hx6.trans (bM w6);refine gK (off:=0) (hx6d.at hb1 id) rfl ?_;refine gK (off:=2) (hx6d.at hb2 id) rfl ?_;have hk2:k<e.args.length:=by omega
    have ge:=aG hk2;have hd:e.args.getD k 0=e.args[k]:=by rw[aH,ge];rfl
    rw[hd]at hp;have hai:=hin e.args[k] (dU hk2);generalize e.args[k]=a at ge hp hai;refine kM (ha.ext hx6d) (by simp[ints]) (Bb ge) ?_;have gx:=aG hai;have hdx:f.ex.getD a ⟨0,[],[],[],0⟩=f.ex[a]:=by rw[aH,gx];rfl
    rw[hdx]at hp;have hu:=hut f.ex[a] (dU hai);generalize f.ex[a]=x at gx hp hu;obtain⟨va',vk',_,_,pp,q1,q2⟩:=(hf.ext hx6d).exI (k:=.i64) gx;have ld:∀{K':Value->Prop},K' (str x.t)->fO none 5 M.vE (i64 (a:Nat)) λt=>bA 1 t λt=>ldW false 1 t w6.drew K':=λ{K'} hk'=>by
     obtain⟨va2,vk2,ec,_,_⟩:=(hf.ext hx6d).ee.2 a x gx;refine BP (hf.ext hx6d).oE (hf.ext hx6d).ee.1 (by omega) hai λbb o c fr hbb hcs=>?_;rw[bH,eC];have h0:=hcs 1 (by omega);have h1:=congrArg (λl=>l[1]?) ec;simp only[uE (show 1<5 by omega),fU,dV,dK]at h1;exact⟨_,by rw[bO,cP,hbb,cM,h0];exact h1,hk'⟩
    refine ld ?_;refine yE hu.1 hu.2 λw8 hx8=>?_;have h8:=(h6.ext (bM w6)).ext hx8;have hz8:=hx8.size;have hzd:w6.drew.heap.size=w6.heap.size:=rfl;rw[hp]at hnx hle2;refine uM h8 (by omega) (by simp only[aB,aA,aC];omega) λv w9 h9 hc9=>?_;refine⟨rfl,?_,BCh.trans (BCh.ext (BCh.ext hc6 (bM w6)) hx8) hc9⟩;rw[hnx,<-bB];exact h9
   ·have hp:Jf f e l k=[36,123]++l.getD k []++[125]:=by unfold Jf;rw[aD ht]
    rw[hp]at hnx hle2;simp only[aB,aA,aC]at hle2;rw[bT];refine⟨by rw[emax];simp only[aB,aA,aC];omega,?_⟩;rw[bT];refine⟨by rw[emax];simp only[aB,aA,aC];omega,?_⟩;refine uM h6 (by omega) (by simp only[aB,aA,aC];omega) λv w9 h9 hc9=>?_;refine⟨rfl,?_,BCh.trans hc6 hc9⟩;rw[hnx,<-bB];exact h9
  ·rintro st g7 w11 ⟨rfl,h11,hc11⟩;rw[bU,upi (by omega)];refine⟨⟨k+1,rfl,by omega,h11,hc11⟩,?_⟩;simp only[aP];omega
 ·obtain rfl:k=l.length:=by omega
  refine pJ (n:=34) h6 (by omega) (by simp only[aB,aA,aC];omega) (by omega) λw12 h12 hc12=>?_;have hz12:=hc12.size;refine sY h12 (by omega) λw13 hc13=>?_;exact hK w13 (hx12.trans ((BCh.new hx3 (aL _) h3.base (BCh.trans hc6 hc12)).then hc13 λk hk e=>by omega))
end
section
open Go Go.Eng Go.RowKit Go.Syn Go.Lex
set_option maxHeartbeats 1000000
variable{w:World}{K:Q0}{cs:List Value}{G:Nat->Prop}{T:TypeId}{i:Nat}{n:Nat}{v:Value}{w':World}{P:Program}{c:UInt8}{S:Nat->Prop}
structure Wh(e:Ex):Prop where
 lo:1<=e.k
 hi:e.k<=30
 ut:Utf e.t/\e.t.length<=1000000000
 uk:∀s∈e.keys,Utf s/\s.length<=1000000000
 few:e.args.length<=100000
 a6:e.k=6->e.keys.length=e.args.length
 a8:e.k=8->e.keys.length=e.args.length
 a1:e.k=10\/e.k=30->1<=e.args.length
 a2:e.k=11\/e.k=29\/15<=e.k/\e.k<=27->2<=e.args.length
 a3:e.k=28->3<=e.args.length
structure Uk(f:Fl):Prop where
 ahead:∀(i:Nat) (e:Ex),f.ex[i]?=some e->∀a∈e.args,a<i
 xs:∀e∈f.ex,Wh e
 few:f.ex.length<=100000
 len:∀i,(bL f i).length<=1000000000000
 keyl:∀e∈f.ex,e.k=8->∀s∈e.keys,s.length<=10000000
 join:∀e∈f.ex,(joinL (gB e (bL f)) [44,32]).length<=100000000000000
variable [HX]
theorem MX{l:List Str}{sep:Str}{K:Q0}(h:gE w T v l.length (l.map str))(hl:l.length<=1000000)(hs:(joinL l sep).length<=140737488355328)(hK:∀w',Ext w w'->K (str (joinL l sep)) w'):
  aI P0 84 [v,str sep] w K:=by
 obtain⟨p,cap,rfl,hc,hp,hcells⟩:=h;have hm:(l.map ofL).map (λx=>x.data.toList)=l:=by rw[gQ];exact(dN (λx _=>by simp[ofL])).trans (List.map_id l)
 by_cases hne:l=[]
 ·subst hne;refine lG (args:=#[.slice p 0 cap,str sep]) Tryz.call84 ((Tryz.strings_Join_none p cap (ofL sep) w).mono ?_);rintro e w' ⟨rfl,rfl⟩;exact⟨_,rfl,hK _ (Chg.refl _ _)⟩
 ·obtain⟨b,off,c,fr,rfl,hb,hcs⟩:=hcells (by simpa using hne);have hll:(l.map ofL).length=l.length:=cD _;refine lG (args:=#[.slice (some ⟨b,off,none⟩) l.length cap,str sep]) Tryz.call84 ?_;have:=Tryz.strings_Join b off cap (l.map ofL) (ofL sep) w (λj x hx=>?_) (vP hb) (by rw[hll];omega) (by rw[hll];exact hc) (by rw[hm,eP];exact hs)
  ·rw[hll,hm,eP]at this;refine this.mono ?_;rintro e w' ⟨rfl,hbl⟩;exact⟨_,rfl,hK _ (Chg.of_below hbl)⟩
  ·rw[fM,jG]at hx;obtain⟨y,hy,rfl⟩:=hx;have hj:=(bF.1 hy).1;rw[cP,hb,cM,hcs j (by simpa using hj),fM,hy];rfl
theorem DL{f:Fl}{M:Lay}(hO:Uk f):∀(i:Nat) (w:World) (K:Q0),i<=1000000->FV w M f->(∀w',Ext w w'->K (str (bL f i)) w')->aI P0 42 [.agg [M.vE,M.vB,M.vT].toArray,i64 (i:Nat)] w K:=by
 intro i;induction i using Nat.strongRecOn with
 |ind i ih=>
 intro w K hi hf hK;refine TN ?_;unfold W42;have emax:IntKind.i64.max=9223372036854775807:=by decide
 refine iS (z:=[M.vE,M.vB,M.vT]) λp w1 hp hz1 hb1 hx1=>?_;have hf1:=hf.ext hx1;rw[eL,cV (by omega)];refine GdW.look (decide (f.ex.length<=i)) (λ_ J hJ=>?_) λg=>?_
 ·refine gK (off:=0) hb1 rfl ?_;rw[fD hf1.oE,oF];have:decide ((f.ex.length:Int)<=(i:Int))=decide (f.ex.length<=i):=by rw[decide_eq_decide];omega
  rw[this];exact hJ
 rw[mH,fJ,cY,aE,kY,aN];refine⟨λhge=>?_,λhlt=>?_⟩
 ·have:bL f i=[]:=by
   unfold bL;rw[zG,cA hge]
  rw[this]at hK;exact hK _ hx1
 have hlt:i<f.ex.length:=by omega
 have ge:=aG hlt;generalize f.ex[i]=e at ge;have hm:=bW ge;have hX:=hO.xs e hm;have hah:=hO.ahead i e ge;have hL:=hO.len i;have heq:=zF hO.ahead ge;rw[heq]at hK hL;obtain⟨va,vk,oA,oK,pp,q1,q2⟩:=hf1.exI (k:=.i64) ge;refine gK (off:=0) hb1 rfl ?_;refine tV q1 ?_;refine rW q2 ?_;have one5:[i64 e.k,str e.t,va,vk,i64 e.a].all nK=true:=by
  obtain⟨p1,c1,e1,_⟩:=oA.shape;obtain⟨p2,c2,e2,_⟩:=oK.shape;rw[e1,e2];rfl
 refine bN λa5 w4 ha5 hz4 hb4 hx4=>?_;refine cL (l:=[i64 e.k,str e.t,va,vk,i64 e.a]) hb4 rfl rfl one5 λw5 hz5 hb5 hc5=>?_;have hx15:Ext w1 w5:=hx4.new hc5 (by omega);have hb1:=hx15.at hb1 id;have hf:=hf1.ext hx15;have oA:=oA.ext hx15;have oK:=oK.ext hx15;have hx5:=hx1.trans hx15;clear hf1 hx15 hc5 hb4 hx4 q1 q2;refine gK (off:=2) hb5 rfl ?_;rw[fD oA];have hal:(gB e (bL f)).length=e.args.length:=by unfold gB;rw[cD,lD]
 have hag:∀k,k<e.args.length->(gB e (bL f))[k]?=some (xR e (bL f) k):=λk hk=>by
  unfold gB;rw[fM,List.getElem?_range hk];rfl
 have harg:∀k,k<e.args.length->(xR e (bL f) k).length<=2000000000000:=λk hk=>by
  unfold xR;have h1:=hO.len (e.args.getD k 0);rw[aB];split
  ·rename_i h8;have h2:=hX.a8 h8;have h3:=hO.keyl e hm h8 (e.keys.getD k []) (by rw[aH,aG (show k<e.keys.length by omega)];exact dU _);have h4:=CQ (e.keys.getD k []);simp only[aB,aA,aC];omega
  ·simp only[aC];omega
 have hfewA:=hX.few;refine dD.go (λst w'=>∃(k:Nat) (v:Value),st=[v,i64 (k:Nat)]/\k<=e.args.length/\Own w' w5.heap.size StT 1 v k (strs ((gB e (bL f)).take k))/\Ext w5 w') (λst _=>match st with|[_,.int _ k]=>e.args.length-k.toNat|_=>0) ⟨0,.slice none 0 0,rfl,by omega,⟨by simp[strs],.inl ⟨rfl,rfl⟩⟩,Chg.refl _ _⟩ ?_;rintro st g w7 ⟨k,v,rfl,hk,hO7,hx7⟩;simp only[aE,dX];rw[eL,aN];refine⟨λhlt2=>?_,λhge2=>?_⟩
 ·have hlt2:k<e.args.length:=by omega
  have gk:=aG hlt2;have hgd:e.args.getD k 0=e.args[k]:=by rw[aH,gk];rfl
  have hai:=hah e.args[k] (dU hlt2);have hak:=hag k hlt2;have hargk:=harg k hlt2;unfold xR at hak hargk;rw[hgd]at hak hargk;generalize e.args[k]=q at gk hai hak hargk;refine kM (oA.ext hx7) (by simp[ints]) (Bb gk) ?_;refine tR (hx7.at hb1 id) rfl ?_;refine ih q hai w7 _ (by omega) (hf.ext hx7) λw8 hx8=>?_;have hx58:=hx7.trans hx8;refine cK.cut (λst w'=>st=[str ((if e.k=8 then [34]++plainM (e.keys.getD k [])++[34,32,61,32]else [])++bL f q)]/\Ext w8 w') ?_ ?_
  ·refine gK (off:=0) (hx58.at hb5 id) rfl ?_;rw[bI,aN];refine⟨λh8=>?_,λh8=>?_⟩
   ·rw[aF h8]at hargk⊢;have hkl:k<e.keys.length:=by have:=hX.a8 h8;omega
    refine gK (off:=3) (hx58.at hb5 id) rfl ?_;refine kM (oK.ext hx58) (by simp[strs]) (qU hkl) ?_;have hu:=hX.uk (e.keys.getD k []) (by rw[aH,aG hkl];exact dU _);refine yE hu.1 hu.2 λw10 hx10=>?_;simp only[aB,aA,aC]at hargk;rw[bT];refine⟨by rw[emax,aA,aC];omega,?_⟩;rw[bT];refine⟨by rw[emax];simp only[aB,aA,aC];omega,?_⟩;rw[bT];refine⟨by rw[emax];simp only[aB,aA,aC];omega,?_⟩;exact⟨rfl,hx10⟩
   ·rw[aD h8];exact⟨rfl,Chg.refl _ _⟩
  ·rintro st g9 w11 ⟨rfl,hx11⟩;simp only[aE];refine sA λr w12 hr hz12 hrb hx12=>?_;have hx712:=(hx8.trans hx11).trans hx12;have hz712:=hx712.size;have hz57:=hx7.size;refine mA IK (hO7.ext hx712) (oY (n:=1) (T:=StT) hrb) rfl (λu hu=>by simp only[aU]at hu;subst hu;rfl) (by omega) (by omega) (by omega) λv' w13 hO13 hc13 hv13=>?_;rw[bU,upi (by omega)];refine⟨⟨k+1,v',rfl,by omega,?_,(hx7.trans hx712).then hc13 λb hb hv=>by have:=(pF hO7 hv).2;omega⟩,?_⟩
   ·have e1:strs ((gB e (bL f)).take (k+1))=strs ((gB e (bL f)).take k)++[str ((if e.k=8 then [34]++plainM (e.keys.getD k [])++[34,32,61,32]else [])++bL f q)]:=by
     rw[qP,hak];simp[strs]
    rw[e1];exact hO13
   ·simp only[aP];omega
 obtain rfl:k=e.args.length:=by omega
 rw[<-hal,bP]at hO7;have hsl:=hO7.sl;have hgl:∀k,k<e.args.length->(strs (gB e (bL f)))[k]?=some (str ((gB e (bL f)).getD k [])):=λk hk=>qU (by omega);have hjb:(joinL (gB e (bL f)) [44,32]).length<=140737488355328:=bZ (hO.join e hm) (by decide);clear harg hag;generalize gB e (bL f)=l at*
 refine MX (l:=l) (T:=StT) hsl (by omega) hjb λw14 hx14=>?_;have hx514:=hx7.trans hx14;have hxT:=hx5.trans hx514;have hxD:=hxT.trans (bM w14);have hb5d:=(hx514.trans (bM w14)).at hb5 id;have hb1:=hx514.at hb1 id;have hb5:=hx514.at hb5 id;have hsl:=hsl.ext hx14;have hsd:=hsl.ext (bM w14);have gl:∀{k:Nat} {K':Value->Prop},k<e.args.length->K' (str (l.getD k []))->fO none 1 v (i64 (k:Nat)) λt=>ldW false 1 t w14.drew K':=λ{k} {K'} hk h=>kM hsd (by simp[strs]) (hgl k hk) h;have gp:∀{k:Nat},k<e.args.length->∃q,fO none 1 v (i64 (k:Nat)) (λx=>x=q)/\ldW false 1 q w14.drew λx=>x=str (l.getD k []):=λ{k} hk=>wL (kM (K:=λx=>x=str (l.getD k [])) hsd (by simp[strs]) (hgl k hk) rfl);clear hgl ih hO7 hx7 hx14;refine gK (off:=0) hb5 rfl ?_;rw[bI,aN];refine⟨λh1=>?_,λn1=>?_⟩
 ·rw[show fZ f e l=[110,117,108,108]by unfold fZ;rw[h1];rfl]at hK;exact hK _ hxT
 rw[bI,aN];refine⟨λh1=>?_,λn2=>?_⟩
 ·rw[show fZ f e l=[116,114,117,101]by unfold fZ;rw[h1];rfl]at hK;exact hK _ hxT
 rw[bI,aN];refine⟨λh1=>?_,λn3=>?_⟩
 ·rw[show fZ f e l=[102,97,108,115,101]by unfold fZ;rw[h1];rfl]at hK;exact hK _ hxT
 refine cK.cut (λst w'=>st=[.bool (decide (e.k=4\/e.k=9))]/\w'=w14) ?_ ?_
 ·rw[bI,aN];refine⟨λh=>?_,λh=>?_⟩
  ·rw[cO h,cO (.inl h)];exact⟨rfl,rfl⟩
  ·rw[bI,show decide (e.k=9)=decide (e.k=4\/e.k=9)by rw[decide_eq_decide];omega];exact⟨rfl,rfl⟩
 rintro st g15 w16 ⟨rfl,rfl⟩;simp only[aE];rw[aN];refine⟨λh1=>?_,λn4=>?_⟩
 ·rw[show fZ f e l=e.t by unfold fZ;rw[aD n1,aD n2,aD n3,aF h1]]at hK;refine gK (off:=1) hb5 rfl ?_;exact hK _ hxT
 rw[bI,aN];refine⟨λh1=>?_,λn5=>?_⟩
 ·have hs:fZ f e l=[34]++plainM e.t++[34]:=by unfold fZ;rw[h1];rfl
  rw[hs]at hK hL;refine gK (off:=1) hb5 rfl ?_;refine yE hX.ut.1 hX.ut.2 λw17 hx17=>?_;rw[bT];refine⟨by rw[emax];simp only[aB,aA,aC]at hL⊢;omega,?_⟩;rw[bT];refine⟨by rw[emax];simp only[aB,aA,aC]at hL⊢;omega,?_⟩;exact hK _ (hxT.trans hx17)
 rw[bI,aN];refine⟨λh1=>?_,λn6=>?_⟩
 ·have hs:fZ f e l=[34]++tF f e l l.length++[34]:=by unfold fZ;rw[h1];rfl
  rw[hs]at hK hL;simp only[aB,aA,aC]at hL;refine tR hb1 rfl ?_;refine tR hb5 rfl ?_;refine GN (hf.ext hx514) (oA.ext hx514) (oK.ext hx514) hsl hal (hX.a6 h1) (λa ha=>by have:=hah a ha;omega) (λx hx=>(hO.xs x hx).ut) (by omega) (by omega) λw18 hx18=>?_;exact hK _ (hxT.trans hx18)
 rw[bI,aN];refine⟨λh1=>?_,λn7=>?_⟩
 ·have hs:fZ f e l=[91]++joinL l [44,32]++[93]:=by unfold fZ;rw[h1];rfl
  rw[hs]at hK hL;rw[bT];refine⟨by rw[emax];simp only[aB,aA,aC]at hL⊢;omega,?_⟩;rw[bT];refine⟨by rw[emax];simp only[aB,aA,aC]at hL⊢;omega,?_⟩;exact hK _ hxT
 rw[bI,aN];refine⟨λh1=>?_,λn8=>?_⟩
 ·have hs:fZ f e l=[123]++joinL l [44,32]++[125]:=by unfold fZ;rw[h1];rfl
  rw[hs]at hK hL;rw[bT];refine⟨by rw[emax];simp only[aB,aA,aC]at hL⊢;omega,?_⟩;rw[bT];refine⟨by rw[emax];simp only[aB,aA,aC]at hL⊢;omega,?_⟩;exact hK _ hxT
 rw[bI,aN];refine⟨λh1=>?_,λn10=>?_⟩
 ·have hs:fZ f e l=[40]++l.getD 0 []++[41,46]++e.t:=by unfold fZ;rw[h1];rfl
  rw[hs]at hK hL;have ha:=hX.a1 (.inl h1);refine gl (k:=0) (by omega) ?_;rw[bT];refine⟨by rw[emax];simp only[aB,aA,aC]at hL⊢;omega,?_⟩;rw[bT];refine⟨by rw[emax];simp only[aB,aA,aC]at hL⊢;omega,?_⟩;refine gK (off:=1) hb5d rfl ?_;rw[bT];refine⟨by rw[emax];simp only[aB,aA,aC]at hL⊢;omega,?_⟩;exact hK _ hxD
 rw[bI,aN];refine⟨λh1=>?_,λn30=>?_⟩
 ·have hs:fZ f e l=[40]++l.getD 0 []++[41,91,42,93,46]++e.t:=by unfold fZ;rw[h1];rfl
  rw[hs]at hK hL;have ha:=hX.a1 (.inr h1);refine gl (k:=0) (by omega) ?_;rw[bT];refine⟨by rw[emax];simp only[aB,aA,aC]at hL⊢;omega,?_⟩;rw[bT];refine⟨by rw[emax];simp only[aB,aA,aC]at hL⊢;omega,?_⟩;refine gK (off:=1) hb5d rfl ?_;rw[bT];refine⟨by rw[emax];simp only[aB,aA,aC]at hL⊢;omega,?_⟩;exact hK _ hxD
 rw[bI,aN];refine⟨λh1=>?_,λn11=>?_⟩
 ·have hs:fZ f e l=[40]++l.getD 0 []++[41,91]++l.getD 1 []++[93]:=by unfold fZ;rw[h1];rfl
  rw[hs]at hK hL;have ha:=hX.a2 (.inl h1);refine gl (k:=0) (by omega) ?_;rw[bT];refine⟨by rw[emax];simp only[aB,aA,aC]at hL⊢;omega,?_⟩;rw[bT];refine⟨by rw[emax];simp only[aB,aA,aC]at hL⊢;omega,?_⟩;refine gl (k:=1) (by omega) ?_;rw[bT];refine⟨by rw[emax];simp only[aB,aA,aC]at hL⊢;omega,?_⟩;rw[bT];refine⟨by rw[emax];simp only[aB,aA,aC]at hL⊢;omega,?_⟩;exact hK _ hxD
 rw[bI,aN];refine⟨λh1=>?_,λn12=>?_⟩
 ·have hs:fZ f e l=e.t++[40]++joinL l [44,32]++[41]:=by unfold fZ;rw[h1];rfl
  rw[hs]at hK hL;refine gK (off:=1) hb5 rfl ?_;rw[bT];refine⟨by rw[emax];simp only[aB,aA,aC]at hL⊢;omega,?_⟩;rw[bT];refine⟨by rw[emax];simp only[aB,aA,aC]at hL⊢;omega,?_⟩;rw[bT];refine⟨by rw[emax];simp only[aB,aA,aC]at hL⊢;omega,?_⟩;exact hK _ hxT
 rw[bI,aN];refine⟨λh1=>?_,λn13=>?_⟩
 ·have hs:fZ f e l=[40,45]++joinL l [44,32]++[41]:=by unfold fZ;rw[h1];rfl
  rw[hs]at hK hL;rw[bT];refine⟨by rw[emax];simp only[aB,aA,aC]at hL⊢;omega,?_⟩;rw[bT];refine⟨by rw[emax];simp only[aB,aA,aC]at hL⊢;omega,?_⟩;exact hK _ hxT
 rw[bI,aN];refine⟨λh1=>?_,λn14=>?_⟩
 ·have hs:fZ f e l=[40,33]++joinL l [44,32]++[41]:=by unfold fZ;rw[h1];rfl
  rw[hs]at hK hL;rw[bT];refine⟨by rw[emax];simp only[aB,aA,aC]at hL⊢;omega,?_⟩;rw[bT];refine⟨by rw[emax];simp only[aB,aA,aC]at hL⊢;omega,?_⟩;exact hK _ hxT
 rw[bI,aN];refine⟨λh1=>?_,λn28=>?_⟩
 ·have hs:fZ f e l=[40]++l.getD 0 []++[32,63,32]++l.getD 1 []++[32,58,32]++l.getD 2 []++[41]:=by unfold fZ;rw[h1];rfl
  rw[hs]at hK hL;have ha:=hX.a3 h1;refine gl (k:=0) (by omega) ?_;rw[bT];refine⟨by rw[emax];simp only[aB,aA,aC]at hL⊢;omega,?_⟩;rw[bT];refine⟨by rw[emax];simp only[aB,aA,aC]at hL⊢;omega,?_⟩;refine gl (k:=1) (by omega) ?_;rw[bT];refine⟨by rw[emax];simp only[aB,aA,aC]at hL⊢;omega,?_⟩;rw[bT];refine⟨by rw[emax];simp only[aB,aA,aC]at hL⊢;omega,?_⟩;refine gl (k:=2) (by omega) ?_;rw[bT];refine⟨by rw[emax];simp only[aB,aA,aC]at hL⊢;omega,?_⟩;rw[bT];refine⟨by rw[emax];simp only[aB,aA,aC]at hL⊢;omega,?_⟩;exact hK _ hxD
 rw[bI,aN];refine⟨λh1=>?_,λn29=>?_⟩
 ·have hs:fZ f e l=[91,102,111,114,32]++e.t++[32,105,110,32]++l.getD 0 []++[32,58,32]++l.getD 1 []++[93]:=by unfold fZ;rw[h1];rfl
  rw[hs]at hK hL;have ha:=hX.a2 (.inr (.inl h1));refine gK (off:=1) hb5d rfl ?_;rw[bT];refine⟨by rw[emax];simp only[aB,aA,aC]at hL⊢;omega,?_⟩;rw[bT];refine⟨by rw[emax];simp only[aB,aA,aC]at hL⊢;omega,?_⟩;refine gl (k:=0) (by omega) ?_;rw[bT];refine⟨by rw[emax];simp only[aB,aA,aC]at hL⊢;omega,?_⟩;rw[bT];refine⟨by rw[emax];simp only[aB,aA,aC]at hL⊢;omega,?_⟩;refine gl (k:=1) (by omega) ?_;rw[bT];refine⟨by rw[emax];simp only[aB,aA,aC]at hL⊢;omega,?_⟩;rw[bT];refine⟨by rw[emax];simp only[aB,aA,aC]at hL⊢;omega,?_⟩;exact hK _ hxD
 have hlo:=hX.lo;have hhi:=hX.hi;have hrange:15<=e.k/\e.k<=27:=by omega
 have ha:=hX.a2 (.inr (.inr hrange));have hs:fZ f e l=[40]++l.getD 0 []++[32]++mW.getD (e.k-15).toNat []++[32]++l.getD 1 []++[41]:=by
  unfold fZ;rw[aD n1,aD n2,aD n3,aD n4,aD n5,aD n6,aD n7,aD n8,aD n10,aD n30,aD n11,aD n12,aD n13,aD n14,aD n28,aD n29]
 rw[hs]at hK hL;obtain⟨p0,i0,l0⟩:=gp (k:=0) (by omega);obtain⟨p1,i1,l1⟩:=gp (k:=1) (by omega);refine tV i0 ?_;refine rW l0 ?_;rw[bT];refine⟨by rw[emax];simp only[aB,aA,aC]at hL⊢;omega,?_⟩;rw[bT];refine⟨by rw[emax];simp only[aB,aA,aC]at hL⊢;omega,?_⟩;refine gK (off:=0) hb5d rfl ?_;refine tV i1 ?_;refine rW l1 ?_;refine Rv hrange.1 hrange.2 ?_;refine⟨l1,l0,?_⟩;rw[bT];refine⟨by rw[emax];simp only[aB,aA,aC]at hL⊢;omega,?_⟩;rw[bT];refine⟨by rw[emax];simp only[aB,aA,aC]at hL⊢;omega,?_⟩;rw[bT];refine⟨by rw[emax];simp only[aB,aA,aC]at hL⊢;omega,?_⟩;rw[bT];refine⟨by rw[emax];simp only[aB,aA,aC]at hL⊢;omega,?_⟩;exact hK _ hxD
end
section
open Go Go.Eng Go.RowKit Go.Syn Go.Lex
set_option maxHeartbeats 1000000
variable{w:World}{K:Q0}{cs:List Value}{G:Nat->Prop}{T:TypeId}{i:Nat}{n:Nat}{v:Value}{w':World}{P:Program}{c:UInt8}{S:Nat->Prop}
structure BOk(f:Fl):Prop where
 ahead:∀(i:Nat) (b:Blk),f.bl[i]?=some b->∀a∈b.blocks,a<i
 few:f.bl.length<=100000/\f.top.length<=100000/\∀b∈f.bl,b.labels.length<=1000000/\b.attrs.length<=1000000/\b.blocks.length<=1000000
 ut:∀b∈f.bl,∀s∈b.labels,Utf s/\s.length<=1000000000
 at_:∀b∈f.bl,∀a∈b.attrs,a.e<=1000000
theorem JB{l:List Str}{k:Nat}{s:Str}(h:l[k]?=some s):qD (l.take (k+1))=qD (l.take k)++([32,34]++plainM s++[34]):=by
 unfold qD;rw[qP,h,jP,tC];simp
theorem Af{α:Type}(F:α->Str){l:List α}{k:Nat}{s:α}(h:l[k]?=some s):((l.take (k+1)).map F).flatten=((l.take k).map F).flatten++F s:=by
 rw[qP,h,jP,tC];simp
theorem mE{α:Type}(F:α->Str)(l:List α)(k:Nat):((l.take k).map F).flatten.length<=(l.map F).flatten.length:=by
 have:l.map F=(l.take k).map F++(l.drop k).map F:=by rw[<-jP,mI]
 rw[this,tC,aB];omega
theorem yX(l:List Str)(k:Nat):(qD (l.take k)).length<=(qD l).length:=mE _ l k
theorem LS(n:Nat):(Cu n).length=2*n:=by
 unfold Cu;induction n with
 |zero=>rfl
 |succ n ih=>rw[Bh,eV,aB,ih];simp;omega
theorem QF(l:Str):∀n,Lib.repeatL l n=(List.replicate n l).flatten
 |0=>rfl
 |n+1=>by rw[Lib.repeatL,QF l n,Bh,eV]
variable [HX]
theorem Jj{s:Str}{K:Q0}(hs:s.length<=1000)(hn:n<=1000000)(hK:∀w',Ext w w'->K (str (List.replicate n s).flatten) w'):aI P0 87 [str s,i64 (n:Nat)] w K:=by
 refine lG (args:=#[str s,i64 (n:Nat)]) Tryz.call87 ((Tryz.strings_Repeat (ofL s) n w (by omega) (by rw[gN];exact bZ (Nat.mul_le_mul hs hn) (by decide))).mono ?_);rintro e w' ⟨rfl,hb⟩;rw[eP,QF];exact⟨_,rfl,hK _ (Chg.of_below hb)⟩
theorem MY{f:Fl}{M:Lay}(hO:Uk f)(hB:BOk f){w0:World}(hf:FV w0 M f):∀(i:Nat) (w:World) (K:Q0) (B b:Nat) (l:Str) (n:Nat),i<f.bl.length->n+i<=1000000->Bld w B b l->Ext w0 w->w0.heap.size<=B->B<=w.heap.size->l.length+(gI f i n).length<=120000000000000->
  (∀w',Bld w' B b (l++gI f i n)->Chg (BCh w B b) w w'->K (.tuple #[]) w')->aI P0 43 [.pointer (some ⟨b,0,none⟩),.agg [M.vE,M.vB,M.vT].toArray,i64 (i:Nat),i64 (n:Nat)] w K:=by
 intro i;induction i using Nat.strongRecOn with
 |ind i ih=>
 intro w K B b l n hi hn hbl h0 hB0 hBw hL hK;refine TM ?_;unfold W43;have emax:IntKind.i64.max=9223372036854775807:=by decide
 have hbB:=hbl.base;refine iS (z:=[M.vE,M.vB,M.vT]) λp w1 hp hz1 hb1 hx1=>?_;have hbw:=hbl.lt;have hbl1:=hbl.ext hx1;have hf1:=hf.ext (h0.trans hx1);have ge:=aG hi;generalize f.bl[i]=x at ge;have hm:=bW ge;have hah:=hB.ahead i x ge;have heq:=rD hB.ahead ge n;rw[heq]at hK hL;obtain⟨few1,few2,few3⟩:=hB.few.2.2 x hm;have hut:=hB.ut x hm;have hat:=hB.at_ x hm;have hin:=LS n;obtain⟨vl,va,vb,erow,oL,oA,oB⟩:=hf.bb.2 i x ge;refine gK (off:=1) hb1 rfl ?_;refine Ba (d:=[str x.typ,vl,va,vb,i64 x.a]) hf1.oB hf1.bb.1 (by omega) hi erow ?_;have one5:[str x.typ,vl,va,vb,i64 x.a].all nK=true:=by
  obtain⟨p0,c0,e0,_⟩:=oL.shape;obtain⟨p1,c1,e1,_⟩:=oA.shape;obtain⟨p2,c2,e2,_⟩:=oB.shape;rw[e0,e1,e2];rfl
 refine bN λa8 w2 ha8 hz2 hb2 hx2=>?_;refine cL (l:=[str x.typ,vl,va,vb,i64 x.a]) hb2 rfl rfl one5 λw3 hz3 hb3 hc3=>?_;have hx13:Ext w1 w3:=hx2.new hc3 (by omega);have hz13:=hx13.size;refine Jj (by simp) (by omega) λw4 hx4=>?_;rw[show(List.replicate n ([32,32]:Str)).flatten=Cu n from rfl];have hx14:=hx13.trans hx4;have hx04:=(h0.trans hx1).trans hx14;have hbl4:=hbl1.ext hx14;have hb14:=hx14.at hb1 id;have hb84:=hx4.at hb3 id;have hz4:=hx14.size;have hpb:p≠b:=by omega
 have h8b:a8≠b:=by omega
 have hxw4:Ext w w4:=hx1.trans hx14;simp only[aB,aA,aC]at hL;have hKc:∀w',Bld w' B b (l++(Cu n++x.typ++qD x.labels++[32,123,10]++(x.attrs.map (rE f n)).flatten++(x.blocks.map λk=>gI f k (n+1)).flatten++Cu n++[125,10]))->Chg (BCh w4 B b) w4 w'->K (.tuple #[]) w':=λw' h1 h2=>hK w' h1 (BCh.from hxw4 h2);clear hK hb1 hb2 hb3 hc3 hx2 hx13 hbl1 hf1 hx1 hx14 hx4 hz13;have st:∀{w'},Chg (BCh w4 B b) w4 w'->w'.heap[p]?=some (.cells [M.vE,M.vB,M.vT].toArray FlT (0,0))/\w'.heap[a8]?=some (.cells [str x.typ,vl,va,vb,i64 x.a].toArray BkT (0,0))/\Ext w0 w'/\w4.heap.size<=w'.heap.size:=λ{w'} hc=>
  ⟨BCh.keep hc hb14 hpb (by decide),BCh.keep hc hb84 h8b (by decide),BCh.new hx04 hB0 hbB hc,hc.size⟩
 have far:∀{v:Value} {T:TypeId} {c:Nat} {cs:List Value} {w'},gE w0 T v c cs->Chg (BCh w4 B b) w4 w'->gE w' T v c cs:=λhs hc=>hs.ext (BCh.new hx04 hB0 hbB hc);refine gK (off:=0) hb84 rfl ?_;rw[bT];refine⟨by rw[emax];omega,?_⟩;refine uM hbl4 (by omega) (by rw[aB];omega) λv5 w5 h5 hc5=>?_;obtain⟨s5p,s5a,s5x,s5z⟩:=st hc5;refine gK (off:=1) s5a rfl ?_;rw[fD (far oL hc5)];refine dD.go (λst w'=>∃k:Nat,st=[i64 (k:Nat)]/\k<=x.labels.length/\Bld w' B b (l++(Cu n++x.typ)++qD (x.labels.take k))/\Chg (BCh w4 B b) w4 w') (λst _=>match st with|[.int _ k]=>x.labels.length-k.toNat|_=>0) ⟨0,rfl,by omega,by rw[oN];simpa[qD]using h5,hc5⟩ ?_;clear h5 hc5 s5p s5a s5x s5z;rintro st' g w7 ⟨k,rfl,hk,h7,hc7⟩;obtain⟨s7p,s7a,s7x,s7z⟩:=st hc7;simp only[aE];rw[eL,aN];have hlk:=yX x.labels k;refine⟨λhlt=>?_,λhge=>?_⟩
 ·have hlt:k<x.labels.length:=by omega
  have gk:=aG hlt;have hgd:x.labels.getD k []=x.labels[k]:=by rw[aH,gk];rfl
  have hu:=hut x.labels[k] (dU hlt);have hsg:=qU hlt;rw[hgd]at hsg;have hnx:=JB gk;have hle:=yX x.labels (k+1);generalize x.labels[k]=s at gk hu hsg hnx;rw[hnx]at hle;simp only[aB,aA,aC]at hle;refine kM (far oL hc7) (by simp[strs]) hsg ?_;refine yE hu.1 hu.2 λw8 hx8=>?_;rw[bT];refine⟨by rw[emax];simp only[aB,aA,aC];omega,?_⟩;rw[bT];refine⟨by rw[emax];simp only[aB,aA,aC];omega,?_⟩;have hz8:=hx8.size;refine uM (h7.ext hx8) (by omega) (by simp only[aB,aA,aC];omega) λv9 w9 h9 hc9=>?_;rw[bU,upi (by omega)];refine⟨⟨k+1,rfl,by omega,by rw[hnx,<-bB];exact h9,BCh.trans (BCh.ext hc7 hx8) hc9⟩,?_⟩;simp only[aP];omega
 obtain rfl:k=x.labels.length:=by omega
 rw[bP]at h7;refine uM h7 (by omega) (by simp only[aB,aA,aC];omega) λv10 w10 h10 hc10=>?_;have hc10:=BCh.trans hc7 hc10;clear h7 hc7 s7p s7a s7x s7z hlk hge;obtain⟨s5p,s5a,s5x,s5z⟩:=st hc10;refine gK (off:=2) s5a rfl ?_;rw[fD (far oA hc10)];refine dD.go (λst w'=>∃k:Nat,st=[i64 (k:Nat)]/\k<=x.attrs.length/\Bld w' B b (l++(Cu n++x.typ)++qD x.labels++[32,123,10]++((x.attrs.take k).map (rE f n)).flatten)/\Chg (BCh w4 B b) w4 w') (λst _=>match st with|[.int _ k]=>x.attrs.length-k.toNat|_=>0) ⟨0,rfl,by omega,by rw[oN];simpa using h10,hc10⟩ ?_;clear h10 hc10 s5p s5a s5x s5z;rintro st' g w12 ⟨k,rfl,hk,h12,hc12⟩;obtain⟨s7p,s7a,s7x,s7z⟩:=st hc12;simp only[aE];rw[eL,aN];have hlk:=mE (rE f n) x.attrs k;refine⟨λhlt=>?_,λhge=>?_⟩
 ·have hlt:k<x.attrs.length:=by omega
  have gk:=aG hlt;have hae:=hat x.attrs[k] (dU hlt);have hnx:=Af (rE f n) gk;have hle:=mE (rE f n) x.attrs (k+1);generalize x.attrs[k]=a at gk hae hnx;rw[hnx]at hle;have heA:rE f n a=Cu n++[32,32]++a.n++[32,61,32]++bL f a.e++[10]:=rfl;rw[heA]at hle;simp only[aB,aA,aC]at hle;refine Ba (d:=[str a.n,i64 (a.e:Nat),i64 a.a]) (far oA hc12) (Gy _) (by omega) hlt (Ps gk) ?_;refine bN λa13 w13 ha13 hz13 hb13 hx13=>?_;refine cL (l:=[str a.n,i64 (a.e:Nat),i64 a.a]) hb13 rfl rfl rfl λw14 hz14 hb14' hc14=>?_;have hx14:Ext w12 w14:=hx13.new hc14 (by omega);have hx14d:=hx14.trans (bM w14);have hb14d:=(bM w14).at hb14' id;rw[bT];refine⟨by rw[emax];simp only[aB,aA,aC];omega,?_⟩;rw[bH];refine rW (ld5 (off:=0) hb14d rfl) ?_;rw[bT];refine⟨by rw[emax];simp only[aB,aA,aC];omega,?_⟩;rw[bT];refine⟨by rw[emax];simp only[aB,aA,aC];omega,?_⟩;refine tR (hx14d.at s7p id) rfl ?_;refine gK (off:=1) hb14d rfl ?_;refine DL hO a.e _ _ hae (hf.ext (s7x.trans hx14d)) λw15 hx15=>?_;refine⟨ld5 (off:=0) (hx15.at hb14d id) rfl,?_⟩;rw[bT];refine⟨by rw[emax];simp only[aB,aA,aC];omega,?_⟩;rw[bT];refine⟨by rw[emax];simp only[aB,aA,aC];omega,?_⟩;have hx1215:=hx14d.trans hx15;have hz15:=hx1215.size;refine uM (h12.ext hx1215) (by omega) (by simp only[aB,aA,aC];omega) λv16 w16 h16 hc16=>?_;rw[bU,upi (by omega)];refine⟨⟨k+1,rfl,by omega,by rw[hnx,<-bB];exact h16,BCh.trans (BCh.ext hc12 hx1215) hc16⟩,?_⟩;simp only[aP];omega
 obtain rfl:k=x.attrs.length:=by omega
 rw[bP]at h12;refine gK (off:=3) s7a rfl ?_;rw[fD (far oB hc12)];refine dD.go (λst w'=>∃k:Nat,st=[i64 (k:Nat)]/\k<=x.blocks.length/\Bld w' B b (l++(Cu n++x.typ)++qD x.labels++[32,123,10]++(x.attrs.map (rE f n)).flatten++((x.blocks.take k).map λk=>gI f k (n+1)).flatten)/\Chg (BCh w4 B b) w4 w') (λst _=>match st with|[.int _ k]=>x.blocks.length-k.toNat|_=>0) ⟨0,rfl,by omega,by rw[oN];simpa using h12,hc12⟩ ?_;clear h12 hc12 s7p s7a s7x s7z hlk hge;rintro st' g w18 ⟨k,rfl,hk,h18,hc18⟩;obtain⟨s7p,s7a,s7x,s7z⟩:=st hc18;simp only[aE];rw[eL,aN];have hlk:=mE (λk=>gI f k (n+1)) x.blocks k;refine⟨λhlt=>?_,λhge=>?_⟩
 ·have hlt:k<x.blocks.length:=by omega
  have gk:=aG hlt;have hai:=hah x.blocks[k] (dU hlt);have hnx:=Af (λk=>gI f k (n+1)) gk;have hle:=mE (λk=>gI f k (n+1)) x.blocks (k+1);generalize x.blocks[k]=q at gk hai hnx;rw[hnx]at hle;simp only[aB]at hle;refine kM (far oB hc18) (by simp[ints]) (Bb gk) ?_;refine tR s7p rfl ?_;rw[bU,upi (by omega)];refine ih q hai w18 _ B b _ (n+1) (by omega) (by omega) h18 s7x hB0 (by omega) (by simp only[aB,aA,aC];omega) λw19 h19 hc19=>?_;rw[bU,upi (by omega)];refine⟨⟨k+1,rfl,by omega,by rw[hnx,<-bB];exact h19,BCh.trans hc18 hc19⟩,?_⟩;simp only[aP];omega
 obtain rfl:k=x.blocks.length:=by omega
 rw[bP]at h18;rw[bT];refine⟨by rw[emax];simp only[aB,aA,aC];omega,?_⟩;refine uM h18 (by omega) (by simp only[aB,aA,aC];omega) λv20 w20 h20 hc20=>?_;refine hKc w20 ?_ (BCh.trans hc18 hc20);simpa only[bB]using h20
theorem DN{f:Fl}{M:Lay}(hO:Uk f)(hB:BOk f){K:Q0}(hf:FV w M f)(hin:∀i∈f.top,i<f.bl.length)(hL:(nD f).length<=120000000000000)(hK:∀w',Ext w w'->K (str (nD f)) w'):aI P0 16 [.agg [M.vE,M.vB,M.vT].toArray] w K:=by
 refine TZ ?_;unfold W16;refine iS (z:=[M.vE,M.vB,M.vT]) λp w1 hp hz1 hb1 hx1=>?_;refine Mq (B:=w1.heap.size) (aL _) λb w2 hbb h2 hx2=>?_;have hz2:=hx2.size;have hb2:=h2.lt;have hf1:=hf.ext hx1;have few:=hB.few;refine gK (off:=2) (hx2.at hb1 id) rfl ?_;rw[fD (hf1.ext hx2).oT];refine dD.go (λst w'=>∃k:Nat,st=[i64 (k:Nat)]/\k<=f.top.length/\Bld w' w1.heap.size b ((f.top.take k).map λi=>gI f i 0).flatten/\Chg (BCh w2 w1.heap.size b) w2 w') (λst _=>match st with|[.int _ k]=>f.top.length-k.toNat|_=>0) ⟨0,rfl,by omega,h2,Chg.refl _ _⟩ ?_;rintro st g w4 ⟨k,rfl,hk,h4,hc4⟩;have hx4:Ext w1 w4:=BCh.new hx2 (aL _) h2.base hc4;have hz4:=hx4.size;simp only[aE];rw[eL,aN];refine⟨λhlt=>?_,λhge=>?_⟩
 ·have hlt:k<f.top.length:=by omega
  have gk:=aG hlt;have hai:=hin f.top[k] (dU hlt);have hnx:=Af (λi=>gI f i 0) gk;have hle:=mE (λi=>gI f i 0) f.top (k+1);generalize f.top[k]=q at gk hai hnx;rw[hnx]at hle;unfold nD at hL;simp only[aB]at hle;refine kM (hf1.ext hx4).oT (by simp[ints]) (Bb gk) ?_;refine tR (hx4.at hb1 id) rfl ?_;refine MY hO hB hf1 q w4 _ w1.heap.size b _ 0 hai (by omega) h4 hx4 (aL _) (by omega) (by omega) λw5 h5 hc5=>?_;rw[bU,upi (by omega)];refine⟨⟨k+1,rfl,by omega,by rw[hnx];exact h5,BCh.trans hc4 hc5⟩,?_⟩;simp only[aP];omega
 ·obtain rfl:k=f.top.length:=by omega
  rw[bP]at h4;refine sY h4 (by omega) λw6 hc6=>?_;exact hK w6 (hx1.trans (hx4.then hc6 λk hk e=>by omega))
end
section
open Go Go.Eng Go.Lex Go.Syn
def Wi:List Str:=[[124,124],[38,38],[61,61],[33,61],[60],[62],[60,61],[62,61],[43],[45],[42],[47],[37]]
def sg(s:Nat):Str:=Wi.getD s [41]
end
section
open Go Go.Eng Go.Lex Go.Syn
variable{w:World}{K:Q0}{cs:List Value}{G:Nat->Prop}{T:TypeId}{i:Nat}{n:Nat}{v:Value}{w':World}{P:Program}{c:UInt8}{S:Nat->Prop}
section
variable{L:List Tok}{i d:Nat}{q:Bool}{ex:List Ex}{bl:List Blk}{t n:Tok}{r:List Tok}
theorem take_no{s:PS}{w:Str}(h:isS s w=false):aW s w=(false,aM s):=by unfold aW;rw[h,aD (by decide)]
end
theorem tN(s:Str):(plainM s).length<=2*s.length:=by
 induction s with
 |nil=>exact aL _
 |cons c s ih=>
  rw[iZ,aB,aA];have:(kG c).length<=2:=by
   have:=qI c;generalize kG c=p at this;cases this<;>simp
  omega
def sR(l:List Str):Nat:=eZ (l.map List.length)
theorem qN:∀l:List Str,l.flatten.length=sR l
 |[]=>rfl
 |x::l=>by
  unfold sR
  rw[eV,aB,bS,fV,qN l];rfl
theorem Ad(sep:Str):∀l:List Str,(joinL l sep).length<=sR l+l.length*sep.length
 |[]=>by simp[joinL]
 |[x]=>by simp[joinL,List.intercalate,sR,eZ]
 |x::y::r=>by
  have ih:=Ad sep (y::r)
  have e:joinL (x::y::r) sep=x++sep++joinL (y::r) sep:=by simp[joinL,List.intercalate]
  have e2:sR (x::y::r)=x.length+sR (y::r):=rfl
  rw[e,aB,aB,e2,show(x::y::r).length=(y::r).length+1 from rfl,Cq]
  omega
theorem GM:∀l:List Str,(l.getD 0 []).length+(l.getD 1 []).length+(l.getD 2 []).length<=sR l
 |[]=>by simp[sR,eZ]
 |[a]=>by simp[sR,eZ]
 |[a,b]=>by simp[sR,eZ]
 |a::b::c::r=>by simp[sR,eZ];omega
def wF(f:Fl):Nat->Nat->Nat
 |0,_=>0
 |n+1,i=>match f.ex[i]? with
  |none=>0
  |some e=>(60+2*e.t.length+200100*e.args.length)+eZ (e.args.map (wF f n))
def wE(f:Fl)(i:Nat):Nat:=wF f (i+1) i
def Jw(f:Fl)(i:Nat):Nat:=match f.ex[i]? with
 |none=>0
 |some e=>60+2*e.t.length+200100*e.args.length
def Uh(f:Fl):Prop:=∀(i:Nat) (e:Ex),f.ex[i]?=some e->∀a∈e.args,a<i
section
variable{f:Fl}
theorem Ur(hah:Uh f):∀(n i:Nat),i<n->wF f n i=wE f i:=by
 intro n i;induction i using Nat.strongRecOn generalizing n with
 |ind i ih=>
  intro hi;obtain⟨n,rfl⟩:∃m,n=m+1:=⟨n-1,by omega⟩;unfold wE;simp only[wF];cases he:f.ex[i]? with
  |none=>rfl
  |some e=>
   simp only;congr 2;apply dN;intro a ha;have:=hah i e he a ha;rw[ih a this n (by omega),ih a this i this]
theorem HP(hah:Uh f){e:Ex}(he:f.ex[i]?=some e):wE f i=(60+2*e.t.length+200100*e.args.length)+eZ (e.args.map (wE f)):=by
 show wF f (i+1) i=_;simp only[wF,he];congr 2;apply dN;intro a ha;exact Ur hah i a (hah i e he a ha)
theorem Dy(hah:Uh f){e:Ex}(hx:XE e)(hle:∀a∈e.args,(bL f a).length<=wE f a):sR (gB e (bL f))<=200005*e.args.length+eZ (e.args.map (wE f))/\(e.k≠8->sR (gB e (bL f))<=eZ (e.args.map (wE f))):=by
 have key:∀(c:Nat),(∀k,k<e.args.length->(xR e (bL f) k).length<=c+(bL f (e.args.getD k 0)).length)->sR (gB e (bL f))<=c*e.args.length+eZ (e.args.map (wE f)):=λc hc=>by
  unfold sR gB;rw[gQ];refine bZ (tH _ _ (λk=>c+wE f (e.args.getD k 0)) λk hk=>?_) ?_
  ·rw[dS]at hk;have h1:=hc k hk;have h2:=hle (e.args.getD k 0) (by rw[aH,aG hk];exact dU _);simp only[Function.comp];omega
  ·rw[sJ,oX,lD];have:(List.range e.args.length).map (λk=>wE f (e.args.getD k 0))=e.args.map (wE f):=by
    apply mB (by simp);intro i h1 h2;simp only[cD]at h2;simp[aG h2]
   rw[this,Nat.mul_comm];exact aL _
 refine⟨key 200005 λk hk=>?_,λh8=>?_⟩
 ·unfold xR;rw[aB];split
  ·rename_i h8;have h2:=hx.a6 (.inr h8);have h3:=(hx.uk (e.keys.getD k []) (by rw[aH,aG (show k<e.keys.length by omega)];exact dU _)).2;have h4:=tN (e.keys.getD k []);simp only[aB,aA,aC];omega
  ·simp
 ·have:=key 0 λk hk=>by unfold xR;rw[aD h8];simp
  omega
theorem Kt(hah:Uh f){e:Ex}{l:List Str}(hl:l=gB e (bL f))(h8:e.k≠8)(hle:∀a∈e.args,(bL f a).length<=wE f a):(tF f e l l.length).length<=3*e.args.length+eZ (e.args.map (wE f)):=by
 have hal:l.length=e.args.length:=by rw[hl];unfold gB;rw[cD,lD]
 unfold tF;rw[qN,hal];unfold sR;rw[gQ];refine bZ (tH _ _ (λk=>3+wE f (e.args.getD k 0)) λk hk=>?_) ?_
 ·rw[dS]at hk;have hm:e.args.getD k 0∈e.args:=by rw[aH,aG hk];exact dU _
  have h2:=hle _ hm;simp only[Function.comp];split
  ·have h3:=tN (f.ex.getD (e.args.getD k 0) ⟨0,[],[],[],0⟩).t;generalize e.args.getD k 0=a at*
   cases hg:f.ex[a]? with
   |none=>
    rw[aH,hg];show(plainM []).length<=_;exact cX _
   |some x=>
    rw[aH,hg]at h3⊢;simp only[Option.getD_some]at h3⊢;have:=HP hah hg;omega
  ·have hg:l.getD k []=bL f (e.args.getD k 0):=by
    rw[hl];unfold gB;rw[aH,fM,List.getElem?_range hk];show xR e (bL f) k=_;unfold xR;rw[aD h8];rfl
   rw[hg];simp only[aB,aA,aC];omega
 ·rw[sJ,oX,lD];have:(List.range e.args.length).map (λk=>wE f (e.args.getD k 0))=e.args.map (wE f):=by
   apply mB (by simp);intro i h1 h2;simp only[cD]at h2;simp[aG h2]
  rw[this,Nat.mul_comm];exact aL _
theorem EB(hah:Uh f)(hX:∀e∈f.ex,XE e):∀i,(bL f i).length<=wE f i:=by
 intro i;induction i using Nat.strongRecOn with
 |ind i ih=>
  cases he:f.ex[i]? with
  |none=>
   unfold bL;rw[zG,he];exact cX _
  |some e=>
   have hx:=hX e (bW he);have hle:∀a∈e.args,(bL f a).length<=wE f a:=λa ha=>ih a (hah i e he a ha);obtain⟨a1,a2⟩:=Dy hah hx hle;have hal:(gB e (bL f)).length=e.args.length:=by unfold gB;rw[cD,lD]
   rw[zF hah he,HP hah he];have h3:=GM (gB e (bL f));have hj:=Ad [44,32] (gB e (bL f));have hp:=tN e.t;have ht:e.k=6->(tF f e (gB e (bL f)) (gB e (bL f)).length).length<=3*e.args.length+eZ (e.args.map (wE f)):=λh6=>Kt hah rfl (by omega) hle;have hsg:(mW.getD (e.k-15).toNat []).length<=2:=by
    have:∀s∈mW,s.length<=2:=by decide
    rw[aH];cases hg:mW[(e.k-15).toNat]? with
    |none=>exact cX _
    |some s=>exact this s (bW hg)
   simp only[aA,aC]at hj;generalize gB e (bL f)=l at*
   generalize eZ (e.args.map (wE f))=S at*
   unfold fZ;simp only;by_cases n1:e.k=1
   ·rw[aF n1];simp only[aB,aA,aC];omega
   rw[aD n1];by_cases n2:e.k=2
   ·rw[aF n2];simp only[aB,aA,aC];omega
   rw[aD n2];by_cases n3:e.k=3
   ·rw[aF n3];simp only[aB,aA,aC];omega
   rw[aD n3];by_cases n4:e.k=4\/e.k=9
   ·rw[aF n4];omega
   rw[aD n4];by_cases n5:e.k=5
   ·rw[aF n5];unfold Syn.quotM;simp only[aB,aA,aC];omega
   rw[aD n5];by_cases n6:e.k=6
   ·rw[aF n6];have:=ht n6;simp only[aB,aA,aC];omega
   rw[aD n6];by_cases n7:e.k=7
   ·rw[aF n7];simp only[aB,aA,aC];omega
   rw[aD n7];by_cases n8:e.k=8
   ·rw[aF n8];simp only[aB,aA,aC];omega
   rw[aD n8];by_cases n10:e.k=10
   ·rw[aF n10];simp only[aB,aA,aC];omega
   rw[aD n10];by_cases n30:e.k=30
   ·rw[aF n30];simp only[aB,aA,aC];omega
   rw[aD n30];by_cases n11:e.k=11
   ·rw[aF n11];simp only[aB,aA,aC];omega
   rw[aD n11];by_cases n12:e.k=12
   ·rw[aF n12];simp only[aB,aA,aC];omega
   rw[aD n12];by_cases n13:e.k=13
   ·rw[aF n13];simp only[aB,aA,aC];omega
   rw[aD n13];by_cases n14:e.k=14
   ·rw[aF n14];simp only[aB,aA,aC];omega
   rw[aD n14];by_cases n28:e.k=28
   ·rw[aF n28];simp only[aB,aA,aC];omega
   rw[aD n28];by_cases n29:e.k=29
   ·rw[aF n29];simp only[aB,aA,aC];omega
   rw[aD n29];simp only[aB,aA,aC];omega
end
theorem OY{f:Fl}{us:List Nat}(h:(exL f.ex)[i]?=some us):∃e,f.ex[i]?=some e/\us=e.args:=by
 unfold exL at h;rw[fM,jG]at h;obtain⟨e,h1,h2⟩:=h;exact⟨e,h1,h2.symm⟩
theorem Pi{f:Fl}{us:List Nat}(h:(blL f.bl)[i]?=some us):∃e,f.bl[i]?=some e/\us=e.blocks:=by
 unfold blL at h;rw[fM,jG]at h;obtain⟨e,h1,h2⟩:=h;exact⟨e,h1,h2.symm⟩
theorem zE(L:List (List Nat)):eZ (L.map List.length)=L.flatten.length:=by
 induction L with
 |nil=>rfl
 |cons x L ih=>rw[bS,fV,eV,aB,ih]
theorem Oo{f:Fl}(hX:∀e∈f.ex,XE e){r:List Nat}(h:bR (exL f.ex) r)(few:f.ex.length<=100000):eZ ((List.range f.ex.length).map (Jw f))<=45000000000:=by
 have e1:=zY f.ex (λo=>match o with|none=>0|some e=>60+2*e.t.length+200100*e.args.length);have e2:eZ ((List.range f.ex.length).map (Jw f))=eZ (f.ex.map λe=>60+2*e.t.length+200100*e.args.length):=e1;rw[e2];refine bZ (tH _ _ (λe=>200060+200100*e.args.length) λe he=>?_) ?_
 ·have:=(hX e he).ut.2;omega
 ·rw[sJ,oX,Kz];have h1:eZ (f.ex.map λe=>e.args.length)=(exL f.ex).flatten.length:=by
   rw[<-zE];unfold exL;rw[gQ];rfl
  have h2:=(wH h).len;rw[aB]at h2;have h3:(exL f.ex).length=f.ex.length:=by unfold exL;rw[cD]
  rw[h1];have h4:f.ex.length*200060<=20006000000:=bZ (kS 200060 few) (by decide);generalize f.ex.length*200060=X at*
  generalize (exL f.ex).flatten.length=Y at*
  clear h1;omega
def Ui(f:Fl):Nat->Nat->Nat
 |0,_=>0
 |n+1,i=>match f.bl[i]? with
  |none=>0
  |some b=>(1000115300+eZ (b.attrs.map λa=>100100+wE f a.e))+eZ (b.blocks.map (Ui f n))
def wB(f:Fl)(i:Nat):Nat:=Ui f (i+1) i
def ownB(f:Fl)(i:Nat):Nat:=match f.bl[i]? with
 |none=>0
 |some b=>1000115300+eZ (b.attrs.map λa=>100100+wE f a.e)
def VT(f:Fl):Prop:=∀(i:Nat) (b:Blk),f.bl[i]?=some b->∀a∈b.blocks,a<i
theorem Re{f:Fl}(hah:VT f):∀(n i:Nat),i<n->Ui f n i=wB f i:=by
 intro n i;induction i using Nat.strongRecOn generalizing n with
 |ind i ih=>
  intro hi;obtain⟨n,rfl⟩:∃m,n=m+1:=⟨n-1,by omega⟩;unfold wB;simp only[Ui];cases he:f.bl[i]? with
  |none=>rfl
  |some e=>
   simp only;congr 2;apply dN;intro a ha;have:=hah i e he a ha;rw[ih a this n (by omega),ih a this i this]
theorem QD{f:Fl}(hah:VT f){b:Blk}(he:f.bl[i]?=some b):wB f i=(1000115300+eZ (b.attrs.map λa=>100100+wE f a.e))+eZ (b.blocks.map (wB f)):=by
 show Ui f (i+1) i=_;simp only[Ui,he];congr 2;apply dN;intro a ha;exact Re hah i a (hah i b he a ha)
theorem Gv{f:Fl}(hE:Uh f)(hX:∀e∈f.ex,XE e)(hah:VT f)(hB:∀b∈f.bl,XB b):∀(d i n:Nat),HB d f.bl i->n+d<=26->(gI f i n).length<=wB f i
 |0,_,_,h,_=>h.elim
 |d+1,i,n,⟨b,h1,h2⟩,hn=>by
  have hb:=hB b (bW h1)
  rw[rD hah h1 n,QD hah h1]
  have hin:=LS n
  have hlab:(qD b.labels).length<=5000*200003:=by
   unfold qD;rw[qN];unfold sR;rw[gQ];refine bZ (tH _ _ (λ_=>200003) λs hs=>?_) ?_
   ·have h3:=(hb.lb s hs).2;have h4:=tN s;simp only[Function.comp,aB,aA,aC];omega
   ·rw[oX];exact kS _ hb.few
  have hat:((b.attrs.map (rE f n)).flatten).length<=eZ (b.attrs.map λa=>100100+wE f a.e):=by
   rw[qN];unfold sR;rw[gQ];refine tH _ _ _ λa ha=>?_;have h3:=(hb.at_ a ha).2.2;have h4:=EB hE hX a.e;unfold rE;simp only[Function.comp,aB,aA,aC];omega
  have hbl:((b.blocks.map λk=>gI f k (n+1)).flatten).length<=eZ (b.blocks.map (wB f)):=by
   rw[qN];unfold sR;rw[gQ];exact tH _ _ _ λk hk=>Gv hE hX hah hB d k (n+1) (h2 k hk) (by omega)
  have hty:=hb.ty.2.2;simp only[aB,aA,aC];omega
theorem Jh{α:Type}(F:α->List Nat)(W:Nat->Nat)(l:List α):eZ (l.map λx=>eZ ((F x).map W))=eZ ((l.flatMap F).map W):=by
 induction l with
 |nil=>rfl
 |cons x l ih=>rw[bS,fV,ih,dL,jP,yD]
theorem Ce{t:Str}{f:Fl}(h:gD t=.ok f)(few:f.ex.length<=100000/\f.bl.length<=100000/\f.top.length<=100000):Uk f/\BOk f/\(∀i∈f.top,i<f.bl.length)/\(nD f).length<=120000000000000:=by
 obtain⟨hX,hB,hT⟩:=FM h;have hf:=vG t;rw[h]at hf;obtain⟨_,hfe,hfb,_⟩:=hf;obtain⟨sm1,sm2,sm3⟩:=FL h;have hE:Uh f:=λi e he a ha=>hfe.ahead i e.args (by unfold exL;rw[fM,he];rfl) a ha;have hA:VT f:=λi b he a ha=>hfb.ahead i b.blocks (by unfold blL;rw[fM,he];rfl) a ha;have lE:(exL f.ex).length=f.ex.length:=by unfold exL;rw[cD]
 have lB:(blL f.bl).length=f.bl.length:=by unfold blL;rw[cD]
 have own:=Oo hX hfe few.1;have hWE:∀i us,(exL f.ex)[i]?=some us->wE f i=Jw f i+eZ (us.map (wE f)):=λi us hi=>by
  obtain⟨e,h1,rfl⟩:=OY hi;rw[HP hE h1];unfold Jw;rw[h1]
 have hWB:∀i us,(blL f.bl)[i]?=some us->wB f i=ownB f i+eZ (us.map (wB f)):=λi us hi=>by
  obtain⟨e,h1,rfl⟩:=Pi hi;rw[QD hA h1];unfold ownB;rw[h1]
 have each:∀i,i<f.ex.length->wE f i<=45000000000:=λi hi=>by
  have:=Ge hfe (Jw f) (wE f) hWE (f.ex.length-1-i) i (by omega);rw[lE]at this;omega
 have oE:=(wH hfe).len;have oB:=(wH hfb).len;rw[aB,lE]at oE;rw[aB,lB]at oB;have argl:∀e∈f.ex,e.args.length<=100000:=λe he=>by
  have h1:e.args.length<=(exL f.ex).flatten.length:=by
   rw[<-zE];exact uS (eU.2 ⟨e.args,eU.2 ⟨e,he,rfl⟩,rfl⟩)
  omega
 refine⟨⟨hE,λe he=>?_,few.1,λi=>?_,λe he h8 s hs=>by have:=((hX e he).uk s hs).2;omega,λe he=>?_⟩,⟨hA,⟨few.2.1,few.2.2,λb hb=>⟨by have:=(hB b hb).few;omega,?_,?_⟩⟩,λb hb s hs=>?_,λb hb a ha=>by have:=(sm2 b hb).1 a ha;omega⟩,sm3,?_⟩
 ·have hx:=hX e he;exact⟨hx.kd.1,hx.kd.2,⟨hx.ut.1,by have:=hx.ut.2;omega⟩,λs hs=>⟨(hx.uk s hs).1,by have:=(hx.uk s hs).2;omega⟩,argl e he,λh=>hx.a6 (.inl h),λh=>hx.a6 (.inr h),hx.a1,hx.a2,hx.a3⟩
 ·by_cases hi:i<f.ex.length
  ·have h1:=EB hE hX i;have h2:=each i hi;omega
  ·unfold bL;rw[zG,cA (by omega)];exact cX _
 ·obtain⟨i,hi⟩:=xU.1 he;have h1:=(Dy hE (hX e he) λa _=>EB hE hX a).1;have h2:=Ad [44,32] (gB e (bL f));have h3:=HP hE hi;have h4:=each i (bF.1 hi).1;have hal:(gB e (bL f)).length=e.args.length:=by unfold gB;rw[cD,lD]
  rw[hal]at h2;simp only[aA,aC]at h2;omega
 ·have h1:b.attrs.length<=(uG f.bl).length:=by
   have:(b.attrs.map (·.e)).length<=(uG f.bl).length:=by
    unfold uG;rw[List.flatMap_def,<-zE];exact uS (eU.2 ⟨b.attrs.map (·.e),eU.2 ⟨b,hb,rfl⟩,rfl⟩)
   rwa[cD]at this
  omega
 ·have h1:b.blocks.length<=(blL f.bl).flatten.length:=by
   rw[<-zE];exact uS (eU.2 ⟨b.blocks,eU.2 ⟨b,hb,rfl⟩,rfl⟩)
  omega
 ·have:=(hB b hb).lb s hs;exact⟨this.1,by omega⟩
 ·have h1:(nD f).length<=eZ (f.top.map (wB f)):=by
   unfold nD;rw[qN];unfold sR;rw[gQ];exact tH _ _ _ λk hk=>Gv hE hX hA hB 25 k 0 (hT k hk) (by omega)
  have h2:=xO hfb (ownB f) (wB f) hWB;rw[lB]at h2;have h3:eZ ((List.range f.bl.length).map (ownB f))=eZ (f.bl.map λb=>1000115300+eZ (b.attrs.map λa=>100100+wE f a.e)):=zY f.bl (λo=>match o with|none=>0|some b=>1000115300+eZ (b.attrs.map λa=>100100+wE f a.e));have h4:eZ (f.bl.map λb=>eZ (b.attrs.map λa=>100100+wE f a.e))=100100*(uG f.bl).length+eZ ((uG f.bl).map (wE f)):=by
   have e1:(f.bl.map λb=>eZ (b.attrs.map λa=>100100+wE f a.e))=f.bl.map λb=>eZ ((b.attrs.map (·.e)).map λx=>100100+wE f x):=by
    apply dN;intro b _;rw[gQ];rfl
   rw[e1,Jh (λb:Blk=>b.attrs.map (·.e)) (λx=>100100+wE f x),sJ,oX,Nat.mul_comm]
  have h5:=xO hfe (Jw f) (wE f) hWE;rw[lE]at h5;rw[h3,sJ,oX,h4,h5]at h2;have h6:=kS 1000115300 few.2.1;omega
end
section
open Go Go.Eng Go.RowKit Go.Syn Go.Lex
variable{w:World}{K:Q0}{cs:List Value}{G:Nat->Prop}{T:TypeId}{i:Nat}{n:Nat}{v:Value}{w':World}{P:Program}{c:UInt8}{S:Nat->Prop}
def Rc(e:Ex):Bool:=decide (1<=e.k)&&decide (e.k<=30)&&Rh e.t&&decide (e.t.length<=1000000000)&&e.keys.all (λs=>Rh s&&decide (s.length<=10000000))&&decide (e.args.length<=100000)&&
 (decide (e.k≠6)||decide (e.keys.length=e.args.length))&&(decide (e.k≠8)||decide (e.keys.length=e.args.length))&&(!(decide (e.k=10)||decide (e.k=30))||decide (1<=e.args.length))&&
 (!(decide (e.k=11)||decide (e.k=29)||(decide (15<=e.k)&&decide (e.k<=27)))||decide (2<=e.args.length))&&(decide (e.k≠28)||decide (3<=e.args.length))
theorem HQ{s:Str}(h:Rh s=true):Utf s:=by have:=Rf h;rwa[bJ]at this
theorem Ki{e:Ex}(h:Rc e=true):Wh e/\∀s∈e.keys,s.length<=10000000:=by
 unfold Rc at h;simp only[aZ,decide_eq_true_iff,eB,gZ,rH,Bool.and_eq_false_iff,decide_eq_false_iff_not,eR]at h;obtain⟨⟨⟨⟨⟨⟨⟨⟨⟨⟨h1,h2⟩,h3⟩,h4⟩,h5⟩,h6⟩,h7⟩,h8⟩,h9⟩,h10⟩,h11⟩:=h;exact⟨⟨h1,h2,⟨HQ h3,h4⟩,λs hs=>⟨HQ (h5 s hs).1,by have:=(h5 s hs).2;omega⟩,h6,λe=>h7.resolve_left (λn=>n e),λe=>h8.resolve_left (λn=>n e),λe=>h9.resolve_left (by omega),λe=>h10.resolve_left (by omega),λe=>h11.resolve_left (λn=>n e)⟩,λs hs=>(h5 s hs).2⟩
theorem Ti{f:Fl}(h1:∀i,i<f.ex.length->∀a∈(f.ex.getD i ⟨0,[],[],[],0⟩).args,a<i)(h2:∀e∈f.ex,Rc e=true)(h3:f.ex.length<=100000)(h4:∀i,i<f.ex.length->(bL f i).length<=100000000)(h5:∀e∈f.ex,(joinL (gB e (bL f)) [44,32]).length<=100000000):Uk f:=by
 refine⟨λi e he=>?_,λe he=>(Ki (h2 e he)).1,h3,λi=>?_,λe he _=>(Ki (h2 e he)).2,λe he=>bZ (h5 e he) (by decide)⟩
 ·have:=h1 i (bF.1 he).1;rw[aH,he]at this;exact this
 ·by_cases hi:i<f.ex.length
  ·exact bZ (h4 i hi) (by decide)
  ·unfold bL;rw[zG,cA (by omega)];exact cX _
def Wg:Str:=[97,32,123,120,61,49,43,121,46,122,42,50,125]
def f6:Fl:=⟨[⟨4,[49],[],[],5⟩,⟨9,[121],[],[],7⟩,⟨10,[122],[1],[],8⟩,⟨4,[50],[],[],11⟩,⟨17,[],[2,3],[],10⟩,⟨15,[],[0,4],[],6⟩],[⟨[97],[],[⟨[120],5,3⟩],[],0⟩],[0]⟩
theorem Tk:gD Wg=.ok f6:=by decide+kernel
def t6:Str:=[97,32,123,10,32,32,120,32,61,32,40,49,32,43,32,40,40,121,41,46,122,32,42,32,50,41,41,10,125,10]
theorem OX:nD f6=t6/\bL f6 0=[49]/\bL f6 99=[]:=by decide+kernel
theorem Mb:Uk f6:=Ti (by decide) (by decide+kernel) (by decide) (by decide+kernel) (by decide+kernel)
theorem UR:BOk f6:=by
 refine⟨λi b hb a ha=>?_,by decide,λb hb s hs=>?_,by decide⟩
 rotate_left
 ·have:∀b∈f6.bl,b.labels=[]:=by decide
  rw[this b hb]at hs;cases hs
 have:i=0:=by
  have:=(bF.1 hb).1;have e:f6.bl.length=1:=rfl;omega
 subst this;injection hb with hb
 rw[<-hb]at ha;cases ha
variable [HX]
theorem Mx{K:Q0}(hT:TabI w)(hK:∀w',Ext w w'->K (.bool true) w'):aI P0 15 [] w K:=by
 refine Ua ?_;unfold W15;refine Io (t:=Wg) hT (by decide) λM d w1 hx1 hF1 hd1 _=>?_;rw[Tk]at hF1 hd1;simp only[AI]at hF1;rw[bK];refine⟨_,rfl,?_⟩;rw[bK];refine⟨_,rfl,?_⟩;refine bN λa w2 ha hz2 hb2 hx2=>?_;refine cL (l:=[M.vE,M.vB,M.vT]) hb2 rfl rfl hF1.one λw3 hz3 hb3 hc3=>?_;have hx13:Ext w1 w3:=hx2.new hc3 (by omega);have hd3:=hd1.ext hx13;have hfv:=(hF1.ext hx13).fv;have hx3:=hx1.trans hx13;obtain⟨e1,e2,e3⟩:=OX;rw[hd3.eq,show(false^^okP (PR.ok f6))=true from rfl];refine GdW.act true (λw'=>Ext w3 w') (λe=>by cases e) ?_ ?_
 ·intro _ J hJ;refine tR hb3 rfl ?_;refine DN Mb UR hfv (by decide) (by rw[e1];decide) λw5 hx5=>?_;rw[e1,oD];exact hJ _ hx5
 rintro g4 w6 hx6;rw[lI,cY,aE,pD,lI];refine GdW.act true (λw'=>Ext w6 w') (λe=>by cases e) ?_ ?_
 ·intro _ J hJ;refine tR (hx6.at hb3 id) rfl ?_;refine DL Mb 0 _ _ (by omega) (hfv.ext hx6) λw8 hx8=>?_;rw[e2,oD];exact hJ _ hx8
 rintro g7 w9 hx9;rw[cY,aE,pD,lI];have hx69:=hx6.trans hx9;refine GdW.act true (λw'=>Ext w9 w') (λe=>by cases e) ?_ ?_
 ·intro _ J hJ;refine tR (hx69.at hb3 id) rfl ?_;refine DL Mb 99 _ _ (by omega) (hfv.ext hx69) λw11 hx11=>?_;rw[e3,oD];exact hJ _ hx11
 rintro g10 w12 hx12;rw[cY,aE,pD];exact hK _ (hx3.trans (hx69.trans hx12))
end
section
open Go Go.Eng Go.RowKit Go.Lex Go.Syn
variable{w:World}{K:Q0}{cs:List Value}{G:Nat->Prop}{T:TypeId}{i:Nat}{n:Nat}{v:Value}{w':World}{P:Program}{c:UInt8}{S:Nat->Prop}
section
variable [HX]
theorem sback_true{s:Str}{K:Q0}(hT:TabI w)(hl:s.length<=9223372036854775807)(hK:∀w',Ext w w'->K (.bool true) w'):aI P0 4 [str s] w K:=by
 refine UU ?_;unfold W4;refine Mx hT λw1 hx1=>?_;rw[iN,lU,cQ];refine To hl ?_;have hsl:(s.take 6000).length<=6000:=by rw[cG];omega
 generalize s.take 6000=t at*
 refine Io (hT.ext hx1) (by omega) λM d w3 hx3 hF hd hfew=>?_;rw[bK];refine⟨_,rfl,?_⟩;rw[bK];refine⟨_,rfl,?_⟩;refine bN λa3 w4 ha3 hz4 hb4 hx4=>?_;refine cL (l:=[M.vE,M.vB,M.vT]) hb4 rfl rfl hF.one λw5 hz5 hb5 hc5=>?_;have hx35:Ext w3 w5:=hx4.new hc5 (by omega);have hx5:=(hx1.trans hx3).trans hx35;have hd:=hd.ext hx35;have hF:=hF.ext hx35;rw[hd.eq];cases hp:gD t with
 |bad c p=>
  rw[show(true^^okP (PR.bad c p))=true from rfl,fP];exact hK _ hx5
 |ok f=>
 rw[show(true^^okP (PR.ok f))=false from rfl,cQ];rw[hp]at hF hfew;simp only[AI]at hF hfew;have hfv:=hF.fv;obtain⟨fo,bo,hin,hlen⟩:=Ce hp hfew;have hbk:=HK hp;refine fY hb5 rfl ?_;refine DN fo bo hfv hin hlen λw6 hx6=>?_;refine FN (hT.ext (hx5.trans hx6)) (by omega) λM' d' w7 hx7 hF' hd' hfew'=>?_;rw[bK];refine⟨_,rfl,?_⟩;rw[bK];refine⟨_,rfl,?_⟩;refine bN λa8 w8 ha8 hz8 hb8 hx8=>?_;refine cL (l:=[M'.vE,M'.vB,M'.vT]) hb8 rfl rfl hF'.one λw9 hz9 hb9 hc9=>?_;have hx79:Ext w7 w9:=hx8.new hc9 (by omega);have hx59:=(hx6.trans hx7).trans hx79;have hx9:=hx5.trans hx59;have hd':=hd'.ext hx79;have hF':=hF'.ext hx79;rw[hd'.eq];cases hp':gD (nD f)with
 |bad c p=>
  rw[hp']at hbk hd';rw[show(true^^okP (PR.bad c p))=true from rfl,fP];obtain⟨dd,rfl,hdb⟩:=hd';have hbk:VP (nD f).length c:=hbk;rcases hbk with rfl|⟨rfl,hlong⟩
  ·rw[dZ];refine gK (off:=0) hdb rfl ?_;rw[bI,cO rfl];simp only[mH,lU];refine GdW.f λ_=>?_;simp only[aE];rw[Iy];refine GdW.f λ_=>?_;refine GdW.f λ_=>?_;simp only[aE];rw[pD];exact hK _ hx9
  ·rw[dZ];refine gK (off:=0) hdb rfl ?_;rw[bI,cV (by decide)];simp only[mH,fJ];refine GdW.look true (λ_ J hJ=>?_) λ_=>?_
   ·rw[dZ];refine gK (off:=0) hdb rfl ?_;rw[bI,cO rfl];exact hJ
   simp only[aE,cY,lI];refine GdW.look true (λ_ J hJ=>?_) λ_=>?_
   ·rw[eQ,mU,cO (by omega)];exact hJ
   simp only[aE,cY];refine GdW.look true (λ_ J hJ=>?_) λ_=>?_
   ·rw[pD];exact hJ
   simp only[aE,cY];rw[kY];exact hK _ hx9
 |ok g=>
 rw[show(true^^okP (PR.ok g))=false from rfl,cQ];rw[hp']at hbk hF' hfew';simp only[AI]at hF' hfew';obtain⟨hbl,hsame⟩:=hbk;obtain⟨fo',bo',hin',hlen'⟩:=Ce hp' hfew';refine fY hb9 rfl ?_;refine DN fo' bo' hF'.fv hin' hlen' λw16 hx16=>?_;rw[hsame,pM,cV (by simp)];simp only[mH,fJ];have hfv:=hfv.ext (hx59.trans hx16);have hgv:=hF'.fv.ext hx16;have hb5:=(hx59.trans hx16).at hb5 id;have hb9:=hx16.at hb9 id;have hx16':=hx9.trans hx16;have hfw:=hF.few;have htl:=hbl.1;refine GdW.look false (λ_ J hJ=>?_) λ_=>?_
 ·refine gK (off:=2) hb5 rfl ?_;rw[fD hfv.oT];refine gK (off:=2) hb9 rfl ?_;rw[fD hgv.oT,gL,cV (by omega)];exact hJ
 simp only[aE,cY];rw[kY,cQ];refine gK (off:=2) hb5 rfl ?_;rw[fD hfv.oT];refine dD.go (λst w'=>∃j:Nat,st=[i64 (j:Nat)]/\j<=f.top.length/\Ext w16 w') (λst _=>match st with|[.int _ j]=>f.top.length-j.toNat|_=>0) ⟨0,rfl,by omega,Chg.refl _ _⟩ ?_;rintro st g7 w20 ⟨j,rfl,hj,hx20⟩;simp only[aE];rw[eL,aN];refine⟨λhlt2=>?_,λhge2=>hK w20 (hx16'.trans hx20)⟩;have hlt2:j<f.top.length:=by omega
 have hx20d:=hx20.trans (bM w20);have fewt:=hfew.2.2;refine fY (hx20d.at hb5 id) rfl ?_;refine gK (off:=2) (hx20d.at hb5 id) rfl ?_;refine kM (hfv.oT.ext hx20d) (Ae _) (sU hlt2) ?_;refine fY (hx20d.at hb9 id) rfl ?_;refine gK (off:=2) (hx20d.at hb9 id) rfl ?_;refine kM (hgv.oT.ext hx20d) (Ae _) (sU (by omega)) ?_;refine Mr hfw.2.1 hfw.2.2 (hbl.2 j hlt2) (hfv.ext hx20d) (hgv.ext hx20d) λw21 hx21=>?_;rw[iN,lU,cQ,bU,upj (by omega)];exact⟨⟨j+1,rfl,by omega,hx20d.trans hx21⟩,by simp only[aP];omega⟩
end
end
section
open Go Go.RowKit Go.Eng
variable{w:World}{K:Q0}{cs:List Value}{G:Nat->Prop}{T:TypeId}{i:Nat}{n:Nat}{v:Value}{w':World}{P:Program}{c:UInt8}{S:Nat->Prop}
theorem tabi_of(hsh:w.ShapedOpen P0):TabI w:=
 Go.Proofs.cell_of_shapedOpen_int (t:=3) (zero:=#[.int .i64 0]) hsh (of_decide_eq_true (by kernel_rfl)) (by kernel_rfl) rfl (by kernel_rfl) (by kernel_rfl) Tryz.underlying3
theorem handed_and_shaped{H:Type}{enc:TypeId×Value->H}{a:Assume}{C:Checked}{os:Os}{f:FuncId}{fn:Func}{s:ChangeSpec}{conds:List PathCond}{apart fresh handsOn again:Bool}{X:World->Array Value->Prop}
  (hX:∀(w w':World) (args:Array Value),w.heap=w'.heap->X w args->X w' args)
  (own:ownKnob C.prog.godebug=none)(started:os.Started)(noInit:C.prog.inits.idxOf? f=none)(hfn:C.prog.funcs[f]?=some fn)
  (witness:∃(w:World) (tape:Tape) (i:Input),w.os=os/\(w.forCall tape i).Shaped C.prog/\i.vars=[]/\Input.okWide C.prog (w.forCall tape i) .any w.heap.size f i/\
    ((s.pre enc C.prog fn conds apart (w.forCall tape i).memory i.args/\X (w.forCall tape i).memory i.args)/\sizedMet enc C.prog fn (OpenSpec.ofChange s) apart (w.forCall tape i).memory i.args)/\a.holds C.prog (lone (Frame.enter C.prog f i.args .normal) [] (w.forCall tape i)))
  (contract:∀(W:World) (base:Nat) (args:Array Value) (ds gs:List (DataW H)) (before:List MemPlace),
    (∀(j:Nat) t v,fn.params[j]?=some t->args[j]?=some v->Value.okWide C.prog W .any base t v)->
    DataW.Whole enc C.prog fn.params.toList s.vars apart W args.toList ds gs before->
    conds.all (PathCond.test C.prog ⟨fn.params.toList,ds,s.plain.varTypes C.prog,gs⟩)=true->
    (DataW.weightsEach C.prog (fn.params.toList++s.plain.varTypes C.prog) (ds++gs)).all (· <=reachBytes)=true->X W args->W.ShapedOpen C.prog->
    a.holds C.prog (lone (Frame.enter C.prog f args .normal) [] W)->
    Calls C.prog f args W λe W'=>∃v,e=.returned v/\s.post enc C.prog fn apart fresh handsOn again W args v W'):
  ReturnsInHanded a C os f .any (λw args=>(s.pre enc C.prog fn conds apart w args/\X w args)/\sizedMet enc C.prog fn (OpenSpec.ofChange s) apart w args) (s.post enc C.prog fn apart fresh handsOn again):=by
 refine returnsInHanded_of_calls own started noInit witness ?_;intro w tape i _ hsh _ hok hpre hholds;obtain⟨_,_,_,fn',hfn',_,_,_,_,hval⟩:=hok;have e:fn'=fn:=Option.some.inj (hfn'.symm.trans hfn);subst e;obtain⟨⟨⟨ds,gs,before,hw,hc⟩,hx⟩,hz⟩:=hpre;have hw':=DataW.Whole.of_heap (w':=w.forCall tape i) (by rfl) hw;refine(contract (w.forCall tape i) w.heap.size i.args ds gs before hval hw' hc (hz.weights hw) (hX _ _ _ (by rfl) hx) hsh hholds).mono λe W' ⟨v,he,hp⟩=>?_;subst he;exact ChangeSpec.post_blind hp
section
variable{H:Type}{enc:TypeId×Value->H}{w:World}{base:Nat}{spare:Nat->Bool}{held:Bool}
theorem fopen_s{d:DataW H}{ps:List MemPlace}{r:Reach}{b0:Nat}(hval:Value.okWide P0 w r b0 9 v)(h:DataW.Trod enc P0 w base spare held 9 v d ps):∃s:Str,v=str s/\s.length<=9223372036854775807:=by
 obtain⟨s,rfl,_,_,hs⟩:=Go.ChangeMaps.open_string Tryz.underlying9 hval h;exact⟨s.data.toList,by simp[ofL],by unfold maxLen at hs;simpa using hs⟩
end
end
end Go.Proofs.YtjblfcfdeaagpaaGreatDoor
