/- One plain sentence: contracts and plain laws that the claim rests on. Conditions: those that each states. -/
import Derived.Test.YtjblfcfdeaagpaaGreatDoorXA4
import Derived.Test.YtjblfcfdeaagpaaGreatDoorXA3
import Derived.Lib.SlBytesConst
import Derived.Laws.MakeOwn
import Derived.Shelf.Strconv.Clone
import Derived.Shelf.LaysM
import Derived.Ground.SlgmProg
import Derived.Test.YtjblfcfdeaagpaaGreatDoorProg
import Derived.Test.YtjblfcfdeaagpaaGreatDoorXA1
import Derived.Laws.StructEq
import Derived.ChangeKeysEq
import Derived.Test.YtjblfcfdeaagpaaGreatDoorRows
import Derived.Below
import Derived.RowKit
import Derived.ChangeMaps5
import Derived.MakeChecks
import Derived.Lib.LaidTab
import Derived.Lib.LaidU8
import Derived.SizedLaws
import Derived.Shelf.Vars
import Derived.Deep.Slices
import Derived.DataReads
import Derived.ChangeArms
set_option linter.all false
set_option linter.unusedSimpArgs false
set_option linter.unusedVariables false
set_option linter.unusedSectionVars false
set_option maxRecDepth 100000
namespace Go.Cfg
section
open Go Go.Eng Go.Lex Go.Syn
variable{w:World}{K:Q0}{cs:List Value}{G:Nat->Prop}{T:TypeId}{i:Nat}{n:Nat}{v:Value}{w':World}{P:Program}{c:UInt8}{S:Nat->Prop}
theorem bind_ok{α β:Type}{r:RC α}{f:α->RC β}{y:β}(h:r.bind f=.ok y):∃x,r=.ok x/\f x=.ok y:=by
 cases r with
 |ok x=>exact⟨x,rfl,h⟩
 |bad c a=>cases h
theorem pI{σ:Type}{f:Fl}{take:σ->Atr->Ex->RC σ}{P:σ->Prop}:∀(l seen:List Atr) (s s':σ),(∀s a s',a∈l->P s->take s a (lH f a.e)=.ok s'->P s')->P s->lQ f take seen l s=.ok s'->P s'
 |[],_,s,s',_,h,e=>by
  simp only[lQ]at e
  injection e with e
  exact e▸h
 |a::l,seen,s,s',hP,h,e=>by
  simp only[lQ]at e
  split at e
  ·cases e
  ·obtain⟨s1,h1,h2⟩:=bind_ok e
   exact pI l _ s1 s' (λs a s' ha=>hP s a s' (aD _ ha)) (hP s a s1 aW h h1) h2
def AOk(f:Fl):Prop:=∀b∈f.bl,∀a∈b.attrs,a.e<f.ex.length
theorem AOk.at{f:Fl}(h:AOk f)(k:Nat):∀a∈(kC f k).attrs,a.e<f.ex.length:=by
 unfold kC;intro a ha;by_cases hk:k<f.bl.length
 ·rw[bR,aG hk]at ha;exact h _ (Bi hk) a ha
 ·rw[bR,eW (by omega)]at ha;cases ha
structure ROk(n:Nat)(r:Rs):Prop where
 one:r.count<0\/r.each<0
 cn:r.count<(n:Int)
 en:r.each<(n:Int)
structure MOk(s:MS):Prop where
 vn:(s.m.vars.map (·.n)).Nodup
 ln:(s.m.locs.map (·.n)).Nodup
 on:(s.m.outs.map (·.n)).Nodup
 rn:(s.m.res.map λr=>(r.ty,r.n)).Nodup
 cn:(s.m.calls.map (·.n)).Nodup
 rv:∀r∈s.m.res,kS r.ty=true/\r.ty∉oD/\ROk s.m.fl.ex.length r
 vd:∀v∈s.m.vars,-1<=v.d/\v.d<(s.m.fl.ex.length:Int)
 sl:s.src.length=s.m.calls.length
 sn:∀d∈s.src,kS d=true
theorem tG{α β:Type}[DecidableEq β]{g:α->β}{l:List α}{x:α}(h:(l.map g).Nodup)(hx:¬l.any (λy=>decide (g y=g x))=true):((l++[x]).map g).Nodup:=by
 rw[List.map_append,iA];refine⟨h,by simp,?_⟩;intro a ha b hb e;simp only[fW,kV,bX]at hb;subst hb e;obtain⟨y,hy,e⟩:=gE.1 ha;exact hx (mU.2 ⟨y,hy,by simpa using e⟩)
theorem Ga{s s':MS}{b:Blk}(h:MOk s)(ha:∀a∈b.attrs,a.e<s.m.fl.ex.length)(e:nY s b=.ok s'):MOk s'/\s'.m.fl=s.m.fl/\s'.m.dir=s.m.dir:=by
 unfold nY at e;obtain⟨d,h1,e⟩:=bind_ok e;obtain⟨_,_,e⟩:=bind_ok e;have hd:-1<=d/\d<(s.m.fl.ex.length:Int):=by
  refine pI (P:=λd:Int=>-1<=d/\d<(s.m.fl.ex.length:Int)) b.attrs [] (-1) d (λd a d' hm _ ht=>?_) ⟨by omega,by omega⟩ h1;simp only[KY]at ht;split at ht
  ·injection ht with ht
   have:=ha a hm;omega
  ·cases ht
 split at e
 ·cases e
 ·rename_i hn;injection e with e
  subst e;refine⟨⟨tG h.vn hn,h.ln,h.on,h.rn,h.cn,h.rv,λv hv=>?_,h.sl,h.sn⟩,rfl,rfl⟩;rcases bK.1 hv with hv|hv
  ·exact h.vd v hv
  ·rw[bX.1 hv];exact hd
theorem Jh{s s':MS}{b:Blk}(h:MOk s)(e:rT s b=.ok s'):MOk s'/\s'.m.fl=s.m.fl/\s'.m.dir=s.m.dir:=by
 unfold rT at e;obtain⟨l,h1,e⟩:=bind_ok e;obtain⟨_,_,e⟩:=bind_ok e;have hd:(l.map (·.n)).Nodup:=by
  refine pI (P:=λl:List Atr=>(l.map (·.n)).Nodup) b.attrs [] s.m.locs l (λl a l' hm hl ht=>?_) h.ln h1;simp only[Gz]at ht;split at ht
  ·cases ht
  ·rename_i hn;injection ht with ht
   subst ht;exact tG hl hn
 injection e with e
 subst e;exact⟨⟨h.vn,hd,h.on,h.rn,h.cn,h.rv,h.vd,h.sl,h.sn⟩,rfl,rfl⟩
theorem Je{s s':MS}{b:Blk}(h:MOk s)(e:rS s b=.ok s'):MOk s'/\s'.m.fl=s.m.fl/\s'.m.dir=s.m.dir:=by
 unfold rS at e;obtain⟨d,h1,e⟩:=bind_ok e;obtain⟨_,_,e⟩:=bind_ok e;split at e
 ·cases e
 ·split at e
  ·cases e
  ·rename_i hn;injection e with e
   subst e;exact⟨⟨h.vn,h.ln,tG h.on hn,h.rn,h.cn,h.rv,h.vd,h.sl,h.sn⟩,rfl,rfl⟩
theorem NH{f:Fl}{r r':Rs}{a:Atr}{e:Ex}(h:uV r a e=.ok r'):r'.ty=r.ty/\r'.n=r.n/\r'.count=r.count/\r'.each=r.each:=by
 simp only[uV]at h;split at h
 ·split at h
  ·injection h with h;subst h;exact⟨rfl,rfl,rfl,rfl⟩
  ·cases h
 ·split at h
  ·split at h
   ·injection h with h;subst h;exact⟨rfl,rfl,rfl,rfl⟩
   ·cases h
  ·cases h
theorem Dl{f:Fl}:∀(l:List Nat) (i:Nat) (r r':Rs),zQ f i l r=.ok r'->r'.ty=r.ty/\r'.n=r.n/\r'.count=r.count/\r'.each=r.each
 |[],i,r,r',h=>by
  simp only[zQ]at h
  injection h with h;subst h;exact⟨rfl,rfl,rfl,rfl⟩
 |k::l,i,r,r',h=>by
  simp only[zQ]at h
  split at h
  ·cases h
  ·split at h
   ·cases h
   ·obtain⟨r1,h1,h⟩:=bind_ok h
    obtain⟨_,_,h⟩:=bind_ok h
    have g:=Dl l _ r1 r' h
    have g1:r1.ty=r.ty/\r1.n=r.n/\r1.count=r.count/\r1.each=r.each:=
     pI (P:=λx:Rs=>x.ty=r.ty/\x.n=r.n/\x.count=r.count/\x.each=r.each) _ [] r r1 (λx a x' _ hx ht=>by
      obtain⟨a1,a2,a3,a4⟩:=NH (f:=f) ht
      exact⟨a1.trans hx.1,a2.trans hx.2.1,a3.trans hx.2.2.1,a4.trans hx.2.2.2⟩) ⟨rfl,rfl,rfl,rfl⟩ h1
    exact⟨g.1.trans g1.1,g.2.1.trans g1.2.1,g.2.2.1.trans g1.2.2.1,g.2.2.2.trans g1.2.2.2⟩
theorem yQ{r r':Rs}{a:Atr}(h:oneOf r a=.ok r'):r'=r/\(r.count<0\/r.each<0):=by
 simp only[oneOf]at h;split at h
 ·injection h with h;exact⟨h.symm,by assumption⟩
 ·cases h
theorem Pi{f:Fl}{r r':Rs}{a:Atr}{e:Ex}(ha:a.e<f.ex.length)(hr:ROk f.ex.length r)(h:uD f r a e=.ok r'):ROk f.ex.length r'/\r'.ty=r.ty/\r'.n=r.n:=by
 simp only[uD]at h;split at h
 ·cases h
 ·split at h
  ·obtain⟨rfl,g⟩:=yQ h;exact⟨⟨g,by simp;omega,hr.en⟩,rfl,rfl⟩
  ·split at h
   ·obtain⟨rfl,g⟩:=yQ h;exact⟨⟨g,hr.cn,by simp;omega⟩,rfl,rfl⟩
   ·split at h
    ·split at h
     ·cases h
     ·split at h
      ·injection h with h;subst h;exact⟨⟨hr.one,hr.cn,hr.en⟩,rfl,rfl⟩
      ·cases h
    ·obtain⟨rfl,g⟩:=yQ h;exact⟨⟨g,hr.cn,hr.en⟩,rfl,rfl⟩
theorem Gj{s s':MS}{b:Blk}(h:MOk s)(ha:∀a∈b.attrs,a.e<s.m.fl.ex.length)(hn:kS (b.labels.getD 0 [])=true)(hr:b.labels.getD 0 []∉oD)(e:oA s b=.ok s'):MOk s'/\s'.m.fl=s.m.fl/\s'.m.dir=s.m.dir:=by
 unfold oA at e;obtain⟨r,h1,e⟩:=bind_ok e;obtain⟨r2,h2,e⟩:=bind_ok e;have g1:ROk s.m.fl.ex.length r/\r.ty=b.labels.getD 0 []/\r.n=b.labels.getD 1 []:=
  pI (P:=λx:Rs=>ROk s.m.fl.ex.length x/\x.ty=b.labels.getD 0 []/\x.n=b.labels.getD 1 []) _ [] _ r (λx a x' hm hx ht=>by
   obtain⟨a1,a2,a3⟩:=Pi (ha a hm) hx.1 ht;exact⟨a1,a2.trans hx.2.1,a3.trans hx.2.2⟩) ⟨⟨.inl (show(-1:Int)<0 by decide),by simp;omega,by simp;omega⟩,rfl,rfl⟩ h1
 obtain⟨l1,l2,l3,l4⟩:=Dl _ _ _ _ h2;split at e
 ·cases e
 ·rename_i hx;injection e with e
  subst e;refine⟨⟨h.vn,h.ln,h.on,?_,h.cn,λx hx=>?_,h.vd,h.sl,h.sn⟩,rfl,rfl⟩
  ·refine tG h.rn λhy=>hx ?_;obtain⟨y,hy,he⟩:=mU.1 hy;simp only[gS,fN]at he;exact mU.2 ⟨y,hy,by simp[he.1,he.2]⟩
  ·rcases bK.1 hx with hx|hx
   ·exact h.rv x hx
   ·rw[bX.1 hx,l1,g1.2.1];exact⟨hn,hr,⟨by rw[l3,l4];exact g1.1.one,by rw[l3];exact g1.1.cn,by rw[l4];exact g1.1.en⟩⟩
theorem On{s s':MS}{b:Blk}(h:MOk s)(e:zW s b=.ok s'):MOk s'/\s'.m.fl=s.m.fl/\s'.m.dir=s.m.dir:=by
 unfold zW at e;obtain⟨r,h1,e⟩:=bind_ok e;obtain⟨_,_,e⟩:=bind_ok e;have g1:r.2=[]\/kS r.2=true:=
  pI (P:=λx:List Atr×Str=>x.2=[]\/kS x.2=true) _ [] _ r (λx a x' hm hx ht=>by
   simp only[yC]at ht;split at ht
   ·split at ht
    ·rename_i h5;injection ht with ht;subst ht;exact .inr h5.2
    ·cases ht
   ·injection ht with ht;subst ht;exact hx) (.inl rfl) h1
 split at e
 ·cases e
 ·rename_i hs;split at e
  ·cases e
  ·rename_i hn;injection e with e
   subst e;refine⟨⟨h.vn,h.ln,h.on,h.rn,tG h.cn hn,h.rv,h.vd,by simp[h.sl],λd hd=>?_⟩,rfl,rfl⟩;rcases bK.1 hd with hd|hd
   ·exact h.sn d hd
   ·rw[bX.1 hd];exact g1.resolve_left hs
theorem Mh{s s':MS}{b:Blk}(h:MOk s)(ha:∀a∈b.attrs,a.e<s.m.fl.ex.length)(e:qV s b=.ok s'):MOk s'/\s'.m.fl=s.m.fl/\s'.m.dir=s.m.dir:=by
 unfold qV at e;split at e
 ·cases e
 ·rename_i hg;split at e
  ·exact Ga h ha e
  split at e
  ·exact Jh h e
  split at e
  ·exact Je h e
  split at e
  ·rename_i hr;have hk:tX b.typ=b.labels.length:=lI λhh=>hg (.inl hh);have hl:¬b.labels.any (λl=> !kS l)=true:=λhh=>hg (.inr (.inl hh));have hv:¬(b.typ=kR/\b.labels.getD 0 []∈oD):=λhh=>hg (.inr (.inr hh));rw[hr]at hk;have h2:b.labels.length=2:=by
    have:tX kR=2:=by decide
    rw[this]at hk;omega
   refine Gj h ha ?_ (λhh=>hv ⟨hr,hh⟩) e;cases hn:kS (b.labels.getD 0 [])with
   |true=>rfl
   |false=>
    refine absurd (mU.2 ⟨b.labels.getD 0 [],?_,by rw[hn];rfl⟩) hl;rw[bR,aG (by omega)];exact Bi _
  split at e
  ·exact On h e
  ·injection e with e;subst e;exact⟨h,rfl,rfl⟩
theorem Am:∀(l:List Nat) (s s':MS),MOk s->AOk s.m.fl->lL l s=.ok s'->MOk s'/\s'.m.fl=s.m.fl/\s'.m.dir=s.m.dir
 |[],s,s',h,_,e=>by
  simp only[lL]at e
  injection e with e;subst e;exact⟨h,rfl,rfl⟩
 |k::l,s,s',h,hA,e=>by
  simp only[lL]at e
  obtain⟨s1,h1,e⟩:=bind_ok e
  obtain⟨g1,g2,g3⟩:=Mh h (hA.at k) h1
  obtain⟨f1,f2,f3⟩:=Am l s1 s' g1 (by rw[g2];exact hA) e
  exact⟨f1,f2.trans g2,f3.trans g3⟩
theorem Kk(dir:Str)(f:Fl):MOk ⟨⟨dir,f,[],[],[],[],[]⟩,[]⟩:=
 ⟨mI,mI,mI,mI,mI,by simp,by simp,rfl,by simp⟩
def oW(ds:List Str):Str:=ds.flatMap λd=>d++[47]
theorem JB(ds:List Str)(d:Str):oW (ds++[d])=oW ds++d++[47]:=by simp[oW]
theorem Ew{f:Fl}{top:List Nat}{dir:Str}{s:MS}(h:lL top ⟨⟨dir,f,[],[],[],[],[]⟩,[]⟩=.ok s):∀d∈s.src,kS d=true:=by
 have:∀(l:List Nat) (s s':MS),(∀d∈s.src,kS d=true)->lL l s=.ok s'->∀d∈s'.src,kS d=true:=by
  intro l;induction l with
  |nil=>
   intro s s' h e;simp only[lL]at e;injection e with e;subst e;exact h
  |cons k l ih=>
   intro s s' h e;simp only[lL]at e;obtain⟨s1,h1,e⟩:=bind_ok e;refine ih s1 s' ?_ e;unfold qV at h1;split at h1
   ·cases h1
   split at h1
   ·unfold nY at h1;obtain⟨_,_,h1⟩:=bind_ok h1;obtain⟨_,_,h1⟩:=bind_ok h1;split at h1
    ·cases h1
    ·injection h1 with h1;subst h1;exact h
   split at h1
   ·unfold rT at h1;obtain⟨_,_,h1⟩:=bind_ok h1;obtain⟨_,_,h1⟩:=bind_ok h1;injection h1 with h1;subst h1;exact h
   split at h1
   ·unfold rS at h1;obtain⟨_,_,h1⟩:=bind_ok h1;obtain⟨_,_,h1⟩:=bind_ok h1;split at h1
    ·cases h1
    split at h1
    ·cases h1
    ·injection h1 with h1;subst h1;exact h
   split at h1
   ·unfold oA at h1;obtain⟨_,_,h1⟩:=bind_ok h1;obtain⟨_,_,h1⟩:=bind_ok h1;split at h1
    ·cases h1
    ·injection h1 with h1;subst h1;exact h
   split at h1
   ·unfold zW at h1;obtain⟨r,hr,h1⟩:=bind_ok h1;obtain⟨_,_,h1⟩:=bind_ok h1;have g1:r.2=[]\/kS r.2=true:=
     pI (P:=λx:List Atr×Str=>x.2=[]\/kS x.2=true) _ [] _ r (λx a x' hm hx ht=>by
      simp only[yC]at ht;split at ht
      ·split at ht
       ·rename_i h5;injection ht with ht;subst ht;exact .inr h5.2
       ·cases ht
      ·injection ht with ht;subst ht;exact hx) (.inl rfl) hr
    split at h1
    ·cases h1
    rename_i hs;split at h1
    ·cases h1
    ·injection h1 with h1;subst h1
     intro d hd;rcases bK.1 hd with hd|hd
     ·exact h d hd
     ·rw[bX.1 hd];exact g1.resolve_left hs
   ·injection h1 with h1;subst h1;exact h
 exact this _ _ _ (by simp) h
theorem LD{rd rd':Str->Option Str}(h:∀ds:List Str,(∀d∈ds,kS d=true)->rd' (oW ds++pW)=rd (oW ds++pW)):
  ∀(n:Nat) (ds:List Str) (mods:List Md),(∀d∈ds,kS d=true)->rD rd' n (oW ds) mods=rD rd n (oW ds) mods:=by
 have step:∀(sub sub':Option (Str->List Md->RL (List Md))),(sub=none/\sub'=none\/∃a b,sub=some a/\sub'=some b/\∀ds mods,(∀d∈ds,kS d=true)->b (oW ds) mods=a (oW ds) mods)->
   ∀(ds:List Str) (mods:List Md),(∀d∈ds,kS d=true)->sR rd' sub' (oW ds) mods=sR rd sub (oW ds) mods:=by
  intro sub sub' hs ds mods hd;unfold sR;rw[h ds hd];cases hrd:rd (oW ds++pW)with
  |none=>rfl
  |some data=>
   simp only;cases hp:pO data with
   |bad c a=>rfl
   |ok fl=>
    simp only;cases hb:lL fl.top ⟨⟨oW ds,fl,[],[],[],[],[]⟩,[]⟩with
    |bad c a=>rfl
    |ok s=>
     simp only;have hsn:=Ew hb;have:∀(l:List (Cl×Str)) (done:List Cl) (mods:List Md),(∀x∈l,kS x.2=true)->lP sub' (oW ds++pW) (oW ds) l done mods=lP sub (oW ds++pW) (oW ds) l done mods:=by
      intro l;induction l with
      |nil=>intro _ _ _;simp only[lP]
      |cons x l ih=>
       intro done mods hx;obtain⟨c,src⟩:=x;rcases hs with⟨rfl,rfl⟩|⟨a,b,rfl,rfl,hab⟩
       ·simp only[lP]
       ·simp only[lP];rw[<-JB,hab _ _ (λd hm=>?_)]
        ·split
         ·rfl
         ·cases a (oW (ds++[src])) mods with
          |bad k p a=>rfl
          |ok mods'=>
           simp only;cases Bg (mods'.getD mods.length Ab).vars c.args with
           |some a=>rfl
           |none=>
            simp only;split
            ·rfl
            ·exact ih _ _ λy hy=>hx y (aD _ hy)
        ·rcases bK.1 hm with hm|hm
         ·exact hd d hm
         ·rw[bX.1 hm];exact hx _ aW
     rw[this _ _ _ λx hx=>hsn _ (List.of_mem_zip hx).2]
 intro n;induction n with
 |zero=>exact step none none (.inl ⟨rfl,rfl⟩)
 |succ n ih=>exact step (some _) (some _) (.inr ⟨_,_,rfl,rfl,ih⟩)
def BM:Str:=[120,45,57,47,45,47,109,97,105,110,46,104,99,108]
theorem De{d:Str}(h:kS d=true):47∉d:=by
 cases d with
 |nil=>cases h
 |cons c r=>
  simp only[kS,bU,iD,fN]at h;intro hm;rcases bC.1 hm with e|e
  ·subst e;exact absurd h.1.1 (by decide)
  ·exact absurd (h.1.2 _ e) (by decide)
theorem xH{k:UInt8}:∀{a b x y:Str},k∉a->k∉b->a++k::x=b++k::y->a=b/\x=y
 |[],[],_,_,_,_,h=>by simp at h;exact⟨rfl,h⟩
 |[],c::b,_,_,_,hb,h=>by simp at h;exact absurd (by rw[<-h.1];exact aW) hb
 |d::a,[],_,_,ha,_,h=>by simp at h;exact absurd (by rw[h.1];exact aW) ha
 |d::a,c::b,x,y,ha,hb,h=>by
  injection h with h1 h2
  obtain⟨e1,e2⟩:=xH (a:=a) (b:=b) (λhm=>ha (aD _ hm)) (λhm=>hb (aD _ hm)) h2
  exact⟨by rw[h1,e1],e2⟩
theorem SA(ds:List Str)(hd:∀d∈ds,kS d=true):oW ds++pW≠BM:=by
 intro h;cases ds with
 |nil=>exact absurd h (by decide)
 |cons d ds=>
  have hd1:=De (hd d aW);have h:d++47::(oW ds++pW)=[120,45,57]++47::([45]++47::pW):=by
   rw[show([120,45,57]++47::([45]++47::pW):Str)=BM by decide,<-h];simp[oW]
  obtain⟨_,h⟩:=xH hd1 (by decide) h;cases ds with
  |nil=>exact absurd h (by decide)
  |cons e ds=>
   have he:=hd e (aD _ aW);have h:e++47::(oW ds++pW)=[45]++47::pW:=by rw[<-h];simp[oW]
   obtain⟨rfl,_⟩:=xH (De he) (by decide) h;exact absurd he (by decide)
theorem Ji{rd rd':Str->Option Str}(h:∀p,p≠BM->rd' p=rd p)(n:Nat):rD rd' n [] []=rD rd n [] []:=
 LD (λds hd=>h _ (SA ds hd)) n [] [] (by simp)
def Bv:Str:=[118,97,114,32]
def zZ:Str:=[108,111,99,97,108,32]
def yP:Str:=[111,117,116,112,117,116,32]
def AJ:Str:=[109,111,100,117,108,101,32]
def Gw(m:Md):List Str:=
 m.vars.map (λv=>Bv++v.n)++m.locs.map (λa=>zZ++a.n)++m.outs.map (λa=>yP++a.n)++m.res.map (λr=>r.ty++[32]++r.n++[32,114])++m.calls.map (λc=>AJ++c.n)
theorem uU{α β γ:Type}{l:List α}{g:α->β}{h:α->γ}(hn:(l.map g).Nodup)(hi:∀a∈l,∀b∈l,h a=h b->g a=g b):(l.map h).Nodup:=by
 induction l with
 |nil=>exact mI
 |cons x l ih=>
  rw[fW,dK]at hn⊢;refine⟨λhm=>?_,ih hn.2 λa ha b hb=>hi a (aD _ ha) b (aD _ hb)⟩;obtain⟨y,hy,e⟩:=gE.1 hm;exact hn.1 (gE.2 ⟨y,hy,hi y (aD _ hy) x aW e⟩)
theorem Ac{d:Str}(h:kS d=true):32∉d:=by
 cases d with
 |nil=>cases h
 |cons c r=>
  simp only[kS,bU,iD,fN]at h;intro hm;rcases bC.1 hm with e|e
  ·subst e;exact absurd h.1.1 (by decide)
  ·exact absurd (h.1.2 _ e) (by decide)
theorem HJ{m:Md}{src:List Str}(h:MOk ⟨m,src⟩):(Gw m).Nodup:=by
 have hv:∀(p q:Str),32∉q->q∈oD->p=q++[32]->∀(x:Str),∀r∈m.res,p++x≠r.ty++[32]++r.n++[32,114]:=by
  intro p q hq hqr hp x r hr e;obtain⟨h1,h2,_⟩:=h.rv r hr;have e:q++32::x=r.ty++32::(r.n++[32,114]):=by rw[hp]at e;simpa using e
  obtain⟨rfl,_⟩:=xH hq (Ac h1) e;exact h2 hqr
 have dj:∀{l1 l2:List Str},l1.Nodup->l2.Nodup->(∀a∈l1,∀b∈l2,a≠b)->(l1++l2).Nodup:=λh1 h2 h3=>iA.2 ⟨h1,h2,h3⟩;unfold Gw;refine dj (dj (dj (dj ?_ ?_ ?_) ?_ ?_) ?_ ?_) ?_ ?_
 ·exact uU h.vn λa _ b _ e=>qZ e
 ·exact uU h.ln λa _ b _ e=>qZ e
 ·intro a ha b hb e;obtain⟨x,_,rfl⟩:=gE.1 ha;obtain⟨y,_,rfl⟩:=gE.1 hb;simp[Bv,zZ]at e
 ·exact uU h.on λa _ b _ e=>qZ e
 ·intro a ha b hb e;obtain⟨y,_,rfl⟩:=gE.1 hb;rcases bK.1 ha with ha|ha<;>obtain⟨x,_,rfl⟩:=gE.1 ha<;>simp[Bv,zZ,yP]at e
 ·refine uU h.rn λa ha b hb e=>?_;have e:a.ty++32::(a.n++[32,114])=b.ty++32::(b.n++[32,114]):=by simpa using e
  obtain⟨e1,e2⟩:=xH (Ac (h.rv a ha).1) (Ac (h.rv b hb).1) e;have:=List.append_cancel_right e2;simp[e1,this]
 ·intro a ha b hb e;obtain⟨y,hy,rfl⟩:=gE.1 hb;rcases bK.1 ha with ha|ha
  ·rcases bK.1 ha with ha|ha<;>obtain⟨x,_,rfl⟩:=gE.1 ha
   ·exact hv Bv Yx (by decide) (by decide) (by decide) _ y hy e
   ·exact hv zZ MV (by decide) (by decide) (by decide) _ y hy e
  ·obtain⟨x,_,rfl⟩:=gE.1 ha;exact hv yP oJ (by decide) (by decide) (by decide) _ y hy e
 ·exact uU h.cn λa _ b _ e=>qZ e
 ·intro a ha b hb e;obtain⟨y,_,rfl⟩:=gE.1 hb;rcases bK.1 ha with ha|ha
  ·rcases bK.1 ha with ha|ha
   ·rcases bK.1 ha with ha|ha<;>obtain⟨x,_,rfl⟩:=gE.1 ha<;>simp[Bv,zZ,AJ]at e
   ·obtain⟨x,_,rfl⟩:=gE.1 ha;simp[yP,AJ]at e
  ·obtain⟨x,hx,rfl⟩:=gE.1 ha;exact hv AJ qD (by decide) (by decide) (by decide) _ x hx e.symm
def nR(l:List Md):List Nat:=l.flatMap λm=>m.calls.map (·.mod)
structure LOk(base:Nat)(new:List Md):Prop where
 ok:∀m∈new,∃src,MOk ⟨m,src⟩
 ct:∀j,(nR new).count j=if base<j/\j<base+new.length then 1 else 0
 up:∀i m,new[i]?=some m->∀c∈m.calls,base+i<c.mod
def Mn(ld:Str->List Md->RL (List Md)):Prop:=∀dir mods mods',mods.length<=15->ld dir mods=.ok mods'->∃new,mods'=mods++new/\new≠[]/\mods'.length<=16/\LOk mods.length new
theorem Ho(a b:List Md):nR (a++b)=nR a++nR b:=by simp[nR]
theorem Is{sub:Option (Str->List Md->RL (List Md))}(hs:∀ld,sub=some ld->Mn ld)(path dir:Str):∀(l:List (Cl×Str)) (done:List Cl) (mods:List Md) (cs:List Cl) (mods':List Md),mods.length<=16->lP sub path dir l done mods=.ok (cs,mods')->
  ∃new cs',mods'=mods++new/\cs=done++cs'/\cs'.map (·.n)=l.map (·.1.n)/\mods'.length<=16/\(∀m∈new,∃src,MOk ⟨m,src⟩)/\(∀j,(cs'.map (·.mod)).count j+(nR new).count j=if mods.length<=j/\j<mods'.length then 1 else 0)/\(∀c∈cs',mods.length<=c.mod)/\∀i m,new[i]?=some m->∀c∈m.calls,mods.length+i<c.mod
 |[],done,mods,cs,mods',hm,e=>by
  simp only[lP]at e
  injection e with e
  simp only[gS]at e
  obtain⟨rfl,rfl⟩:=e
  refine⟨[],[],by simp,by simp,rfl,hm,by simp,λj=>?_,by simp,by simp⟩
  rw[aL (by omega)]
  simp[nR]
 |(c,src)::l,done,mods,cs,mods',hm,e=>by
  simp only[lP]at e
  cases sub with
  |none=>cases e
  |some ld=>
   simp only at e
   split at e
   ·cases e
   rename_i h16
   cases hl:ld (dir++src++[47]) mods with
   |bad k p a=>rw[hl]at e;cases e
   |ok m1=>
    rw[hl]at e
    simp only at e
    obtain⟨new1,rfl,hne,h1,hL⟩:=hs ld rfl _ _ _ (by omega) hl
    split at e
    ·cases e
    split at e
    ·cases e
    obtain⟨new,cs',rfl,rfl,g1,g2,g3,g4,g5,g6⟩:=Is hs path dir l _ _ cs mods' h1 e
    have hpos:0<new1.length:=iG.2 hne
    refine⟨new1++new,{c with mod:=mods.length}::cs',by simp,by simp,by simp[g1],g2,λm hm=>?_,λj=>?_,λx hx=>?_,λi m hi x hx=>?_⟩
    ·exact(bK.1 hm).elim (hL.ok m) (g3 m)
    ·have e1:=hL.ct j
     have e2:=g4 j
     simp only[aP]at e2⊢
     rw[Ho,kH,e1,fW,wR]
     simp only[iK]
     split at e2<;>(repeat' split)<;>omega
    ·rcases bC.1 hx with rfl|hx
     ·exact aZ _
     ·have:=g5 x hx
      rw[aP]at this
      omega
    ·by_cases hin:i<new1.length
     ·rw[fQ hin]at hi
      exact hL.up i m hi x hx
     ·rw[fU (by omega)]at hi
      have:=g6 _ m hi x hx
      rw[aP]at this
      omega
theorem It{s:MS}{cs:List Cl}(h:MOk s)(hn:cs.map (·.n)=(s.m.calls.zip s.src).map (·.1.n)):MOk ⟨{s.m with calls:=cs},s.src⟩:=by
 have e:(s.m.calls.zip s.src).map (·.1.n)=s.m.calls.map (·.n):=by
  have:(s.m.calls.zip s.src).map (·.1)=s.m.calls:=by rw[List.map_fst_zip];rw[h.sl];exact aZ _
  rw[<-this,uJ,this];rfl
 rw[e]at hn;have hl:cs.length=s.m.calls.length:=by simpa using congrArg List.length hn
 exact⟨h.vn,h.ln,h.on,h.rn,by show(cs.map (·.n)).Nodup;rw[hn];exact h.cn,h.rv,h.vd,by show s.src.length=cs.length;rw[hl];exact h.sl,h.sn⟩
theorem Kn{rd:Str->Option Str}(hA:∀t fl,pO t=.ok fl->AOk fl):∀n,Mn (rD rd n):=by
 have step:∀sub:Option (Str->List Md->RL (List Md)),(∀ld,sub=some ld->Mn ld)->Mn (sR rd sub):=by
  intro sub hs dir mods mods' hm e;unfold sR at e;split at e
  ·cases e
  split at e
  ·cases e
  rename_i hp;split at e
  ·cases e
  rename_i s hb;have hk:=Am _ _ _ (Kk dir _) (hA _ _ hp) hb;split at e
  ·cases e
  rename_i cs m1 hc;injection e with e
  subst e;obtain⟨new,cs',rfl,hcs,g1,g2,g3,g4,g5,g6⟩:=Is hs _ _ _ _ _ _ _ (by simp;omega) hc;simp only[gB]at hcs;subst hcs;refine⟨{s.m with calls:=cs}::new,?_,by simp,by simpa using g2,λm hm=>?_,λj=>?_,λi m hi c hcm=>?_⟩
  ·rw[fE,List.set_append_right _ _ (aZ _),Nat.sub_self];rfl
  ·rcases bC.1 hm with rfl|hm
   ·exact⟨s.src,It hk.1 g1⟩
   ·exact g3 m hm
  ·have:=g4 j;simp only[aP,aB,aK]at this⊢;rw[show nR ({s.m with calls:=cs}::new)=cs.map (·.mod)++nR new by simp[nR],kH,this];split
   ·rw[aU (by omega)]
   ·rw[aL (by omega)]
  ·cases i with
   |zero=>
    simp only[bG,bA]at hi;subst hi;have:=g5 c hcm;simp only[aP,aB,aK]at this;omega
   |succ i=>
    rw[bF]at hi;have:=g6 i m hi c hcm;simp only[aP,aB,aK]at this;omega
 intro n;induction n with
 |zero=>exact step none (by simp)
 |succ n ih=>exact step _ (by intro ld h;injection h with h;subst h;exact ih)
end
end Go.Cfg
namespace Go.Proofs.YtjblfcfdeaagpaaGreatDoor
section
open Go Go.Eng Go.RowKit Go.Syn Go.Lex Go.Cfg
variable{w:World}{K:Q0}{cs:List Value}{G:Nat->Prop}{T:TypeId}{i:Nat}{n:Nat}{v:Value}{w':World}{P:Program}{c:UInt8}{S:Nat->Prop}
theorem tH:∀(n:Nat) (l:List Nat),l.Nodup->(∀x∈l,x<n)->l.length<=n
 |0,l,_,h=>by
  cases l with
  |nil=>exact aZ _
  |cons x l=>exact absurd (h x aW) (Nat.not_lt_zero _)
 |n+1,l,hn,h=>by
  by_cases hm:n∈l
  ·have h1:=tH n (l.erase n) (hn.erase n) λx hx=>by
    have h2:=h x (List.mem_of_mem_erase hx)
    have h3:x≠n:=λe=>by
     subst e
     exact(List.Nodup.not_mem_erase hn) hx
    omega
   rw[List.length_erase_of_mem hm]at h1
   omega
  ·have:=tH n l hn λx hx=>by
    have h2:=h x hx
    have h3:x≠n:=λe=>hm (e▸hx)
    omega
   omega
theorem BZ{l:List Nat}(h:∀j,l.count j<=1):l.Nodup:=List.nodup_iff_count.2 h
theorem DC{L:List (List Nat)}{roots:List Nat}(h:eU L roots):roots.length<=L.length/\∀us∈L,us.length<=L.length:=by
 have hr:roots.Nodup:=BZ λj=>by
  by_cases hj:j<L.length
  ·have:=h.once j hj;omega
  ·rw[wW.2 λhm=>hj (h.low j hm)];omega
 have hf:L.flatten.Nodup:=BZ λj=>by
  by_cases hj:j<L.length
  ·have:=h.once j hj;omega
  ·rw[wW.2 λhm=>hj (h.flat_lt j hm)];omega
 refine⟨tH _ _ hr h.low,λus hus=>tH _ _ (hf.sublist (List.sublist_flatten_of_mem hus)) λx hx=>h.flat_lt x (List.mem_flatten.2 ⟨us,hus,hx⟩)⟩
structure aAL(fl:Fl):Prop where
 fa:∀M,FlA fl M
 ll:∀k,k<fl.bl.length->∀x∈(kC fl k).labels,x.length<=1000000
 top:∀k∈fl.top,k<fl.bl.length
 aok:AOk fl
theorem BP{t:Str}{fl:Fl}(h:pO t=.ok fl)(hfew:fl.ex.length<=100000/\fl.bl.length<=100000/\fl.top.length<=100000):aAL fl:=by
 have hp:=BX t;rw[h]at hp;obtain⟨_,f1,f2,_⟩:=hp;obtain⟨s1,s2,_⟩:=BO h;obtain⟨g1,g2⟩:=DC f1;obtain⟨g3,g4⟩:=DC f2;have hlx:(exL fl.ex).length=fl.ex.length:=by simp[exL]
 have hlb:(blL fl.bl).length=fl.bl.length:=by simp[blL]
 rw[hlx]at g1 g2;rw[hlb]at g3 g4;have aok:AOk fl:=λb hb a ha=>by
  have:=f1.low a.e (by unfold zU;exact List.mem_flatMap.2 ⟨b,hb,gE.2 ⟨a,ha,rfl⟩⟩);rw[hlx]at this;exact this
 have mem:∀k,k<fl.bl.length->kC fl k∈fl.bl:=λk hk=>bI (DR hk);have bat:∀k,k<fl.bl.length->(kC fl k).attrs.length<=100000:=λk hk=>by
  have:((kC fl k).attrs.map (·.e)).Sublist (zU fl.bl):=by
   unfold zU;exact List.sublist_flatten_of_mem (gE.2 ⟨_,mem k hk,rfl⟩)
  have:=this.length_le;rw[fP]at this;omega
 refine⟨λM=>⟨λk hk=>⟨hk,aok _ (mem k hk),λj hj=>?_,?_,?_,?_⟩,⟨λi e hi a ha=>?_,λe he hk=>(s1 e he).a1 (.inl hk),λe he=>⟨?_,(s1 e he).ut.2⟩⟩,hfew.1,bat⟩,λk hk x hx=>?_,λk hk=>?_,aok⟩
 ·have:=f2.ahead k (kC fl k).blocks (by unfold blL;rw[fO,DR hk];rfl) j hj;omega
 ·have:=bat k hk;omega
 ·have:=g4 (kC fl k).blocks (by unfold blL;exact gE.2 ⟨_,mem k hk,rfl⟩);omega
 ·have:=(s2 _ (mem k hk)).few;omega
 ·exact f1.ahead i e.args (by unfold exL;rw[fO,hi];rfl) a ha
 ·have:=g2 e.args (by unfold exL;exact gE.2 ⟨e,he,rfl⟩);omega
 ·have:=((s2 _ (mem k hk)).lb x hx).2;omega
 ·have:=f2.low k hk;rw[hlb]at this;exact this
end
end Go.Proofs.YtjblfcfdeaagpaaGreatDoor
namespace Go.Proofs.YtjblfcfdeaagpaaGreatDoor.Fx
section
open Go Go.Eng Go.Vfs
def one(p:Str):Option MF->Files
 |some y=>[(p,y)]
 |none=>[]
end
section
open Go Go.Eng Go.Vfs
variable{w:World}{K:Q0}{cs:List Value}{G:Nat->Prop}{T:TypeId}{i:Nat}{n:Nat}{v:Value}{w':World}{P:Program}{c:UInt8}{S:Nat->Prop}
structure Fs(w0 w:World)(b m:Nat)(s:MS):Prop where
 fs:FsB w b m s
 ok:Ok s
 gb:w0.heap.size<=b
 gm:w0.heap.size<=m
 ext:Ext w0 w
abbrev fp(b:Nat):Value:=.pointer (some ⟨b,0,none⟩)
theorem Fs.mut{w0:World}{b m:Nat}{s s':MS}(h:Fs w0 w b m s)(h':FsB w' b m s')(ok:Ok s')(hc:Chg (λk=>k=b\/k=m) w w'):Fs w0 w' b m s':=
 ⟨h',ok,h.gb,h.gm,h.ext.then hc λk hk e=>by have:=h.gb;have:=h.gm;omega⟩
theorem Fs.more{w0:World}{b m:Nat}{s:MS}(h:Fs w0 w b m s)(hx:Ext w w'):Fs w0 w' b m s:=⟨h.fs.ext hx,h.ok,h.gb,h.gm,h.ext.trans hx⟩
abbrev M2(b m:Nat):Nat->Prop:=λk=>k=b\/k=m
section
variable{w0 w:World}{b m:Nat}{s:MS}{K:Q0}
theorem fnew[HX](hK:∀b m w',Fs w w' b m newM->K (fp b) w'):aJ P0 47 [] w K:=Wx λb m w' h hx hb hm=>hK b m w' ⟨h,Wu,hb,hm,hx⟩
theorem fwrite[HX](h:Fs w0 w b m s){p data:Str}{dv:Value}(hd:Byt w T dv data)(hK:∀w',Fs w0 w' b m (writeM s p data false).1->Chg (M2 b m) w w'->K (i64 (writeM s p data false).2) w'):aJ P0 23 [fp b,str p,dv] w K:=
 Mq h.fs h.ok hd λw' h' hc=>hK w' (h.mut h' (Np h.ok _ _ _) hc) hc
theorem fremove[HX](h:Fs w0 w b m s){p:Str}(hK:∀w',Fs w0 w' b m (removeM s p).1->Chg (M2 b m) w w'->K (i64 (removeM s p).2) w'):aJ P0 46 [fp b,str p] w K:=
 Lq h.fs h.ok λw' h' hc=>hK w' (h.mut h' (Lw h.ok _) hc) hc
end
theorem conv_b{l:Str}{K:Value->Prop}(h:Byt w T v l):pV P0 (convert 80 9 v) w K↔K (str l):=JD (e:=UT) (by kernel_rfl) (by kernel_rfl) (by kernel_rfl) h
theorem eq_pn(a:Addr)(K:Value->Prop):eqW .ptr false (.pointer (some a)) (.pointer none) K↔K (.bool false):=iO
theorem ne_pn(a:Addr)(K:Value->Prop):eqW .ptr true (.pointer (some a)) (.pointer none) K↔K (.bool true):=iO
end
end Go.Proofs.YtjblfcfdeaagpaaGreatDoor.Fx
namespace Go.Proofs.YtjblfcfdeaagpaaGreatDoor
section
open Go Go.Eng Go.RowKit Go.Syn Go.Lex Go.Cfg
variable{w:World}{K:Q0}{cs:List Value}{G:Nat->Prop}{T:TypeId}{i:Nat}{n:Nat}{v:Value}{w':World}{P:Program}{c:UInt8}{S:Nat->Prop}
abbrev LoT:TypeId:=124
theorem Fv{α:Type}{n:Nat}{f:α->List Value}(h:∀a,(f a).length=n):∀l:List α,(l.flatMap f).length=l.length*n
 |[]=>by simp
 |a::l=>by rw[gL,aP,h,Fv h l,aB,mM,Nat.one_mul,zJ]
theorem Fu{α:Type}{n:Nat}{f:α->List Value}(h:∀a,(f a).length=n):∀{l:List α} {i:Nat} {x:α},l[i]?=some x->((l.flatMap f).drop (i*n)).take n=f x
 |[],i,x,hi=>by simp at hi
 |a::l,0,x,hi=>by
  simp only[bG,bA]at hi
  subst hi
  rw[Ef,eZ,gL,<-h a,List.take_left]
 |a::l,i+1,x,hi=>by
  rw[bF]at hi
  rw[gL,mM,Nat.one_mul,zJ,<-kP,<-h a,List.drop_left,h a]
  exact Fu h hi
def mdC(Ls:List ML)(mods:List Md):List Value:=(Ls.zip mods).flatMap λx=>x.1.cells x.2.dir
theorem Gx{Ls:List ML}{mods:List Md}(h:Ls.length=mods.length):(mdC Ls mods).length=mods.length*9:=by
 unfold mdC;rw[Fv (n:=9) (λ_=>rfl),Ci,h,Nat.min_self]
theorem AO{Ls:List ML}{mods:List Md}{L:ML}{m:Md}(h1:Ls[i]?=some L)(h2:mods[i]?=some m):((mdC Ls mods).drop (i*9)).take 9=L.cells m.dir:=by
 unfold mdC;exact Fu (n:=9) (f:=λx:ML×Md=>x.1.cells x.2.dir) (λ_=>rfl) (x:=(L,m)) (by rw[List.getElem?_zip_eq_some];exact⟨h1,h2⟩)
theorem Ru{Ls Ls':List ML}{mods mods':List Md}(h:Ls.length=mods.length):mdC (Ls++Ls') (mods++mods')=mdC Ls mods++mdC Ls' mods':=by
 unfold mdC;rw[List.zip_append h,List.flatMap_append]
structure LR(w:World)(B lp fb:Nat)(vM:Value)(Ls:List ML)(mods:List Md):Prop where
 hl:w.heap[lp]?=some (.cells [pA fb,vM].toArray LoT (0,0))
 len:Ls.length=mods.length
 ow:Own w B MdT 9 vM mods.length (mdC Ls mods)
 md:∀(i:Nat) (L:ML) (m:Md),Ls[i]?=some L->mods[i]?=some m->MdR w B L m
 sep:∀L∈Ls,∀k∈ub L.vals,k≠lp/\vM.ownBlock≠some k
 np:vM.ownBlock≠some lp
 lo:B<=lp
section
variable{w w' w1 w2:World}{B lp fb:Nat}{vM:Value}{Ls:List ML}{mods:List Md}
theorem LR.keep(h:LR w B lp fb vM Ls mods)(hc:Chg S w w')(h1:¬S lp)(h2:∀k,vM.ownBlock=some k->¬S k)(h3:∀L∈Ls,∀k∈ub L.vals,¬S k):LR w' B lp fb vM Ls mods:=
 ⟨hc.at h.hl h1,h.len,eG h.ow hc h2,λi L m hL hm=>(h.md i L m hL hm).keep hc (h3 L (bI hL)),h.sep,h.np,h.lo⟩
theorem LR.ext(h:LR w B lp fb vM Ls mods)(hx:Ext w w'):LR w' B lp fb vM Ls mods:=h.keep hx (λe=>e) (λ_ _ e=>e) λ_ _ _ _ e=>e
theorem LR.in_(h:LR w B lp fb vM Ls mods):∀L∈Ls,∀k∈ub L.vals,k<w.heap.size/\B<=k:=λL hL k hk=>by
 obtain⟨i,hi⟩:=tP hL
 have hil:=(bS.1 hi).1
 exact(h.md i L _ hi (aG (by rw[<-h.len];exact hil))).lt k hk
theorem LR.lplt(h:LR w B lp fb vM Ls mods):lp<w.heap.size:=mB h.hl
def Lx:ML:=⟨⟨.slice none 0 0,.slice none 0 0,.slice none 0 0,[],[]⟩,.slice none 0 0,.slice none 0 0,.slice none 0 0,.slice none 0 0,.slice none 0 0,[],[]⟩
theorem rJ(w:World)(B:Nat)(e:TypeId)(n:Nat):Own w B e n (.slice none 0 0) 0 []:=⟨by simp,.inl ⟨rfl,rfl⟩⟩
theorem Gt:ub Lx.vals=[]:=rfl
theorem Ww(w:World)(B:Nat):MdR w B Lx Ab:=
 ⟨Oa w B,rJ _ _ _ _,rJ _ _ _ _,rJ _ _ _ _,rJ _ _ _ _,rJ _ _ _ _,kO.nil _ _,kO.nil _ _,λk hk=>by rw[Gt]at hk;cases hk⟩
abbrev LT(lp:Nat)(vM:Value):Nat->Prop:=λk=>k=lp\/vM.ownBlock=some k
theorem LR.push[HX]{KW:World->Prop}(h:LR w B lp fb vM Ls mods)(hB:B<=w.heap.size)(hfew:mods.length<=1000000)(hK:∀vM' w',LR w' B lp fb vM' (Ls++[Lx]) (mods++[Ab])->Chg (LT lp vM) w w'->(∀k,vM'.ownBlock=some k->vM.ownBlock=some k\/w.heap.size<=k)->KW w'):
  gO MdT 1 (Lx.cells []) [(0,9,.agg (Lx.cells []).toArray)] w λt96 w19=>fY P0 (Builtin.append_ #[58,58] 58 #[vM,t96]) w19 λt97 w20=>stW 1 (.pointer (some ⟨lp,1,none⟩)) t97 w20 KW:=by
 refine row_one rfl rfl (by omega) λt w1 ht hx1=>?_;have h1:=h.ext hx1;have hz1:=hx1.size;refine jL YS h1.ow ht rfl (λu hu=>by simp only[Lx,ML.cells,bC,cA,gG]at hu;rcases hu with rfl|rfl|rfl|rfl|rfl|rfl|rfl|rfl|rfl<;>rfl) (by omega) (by omega) (by omega) λv' w2 hO hc hn=>?_;have hl2:=hc.at h1.hl h1.np;have hz2:=hc.size;refine kQ hl2 (fV hO.sl) (by simp) λw3 hz3 hb3 hc3=>?_;have hvp:∀k,v'.ownBlock=some k->k≠lp:=λk hk e=>by
  rcases hn k hk with h0|h0
  ·exact h1.np (by rw[<-e];exact h0)
  ·have:=h1.lplt;omega
 have hcc:Chg (LT lp vM) w1 w3:=(hc.mono λ_ _ e=>.inr e).trans (hc3.mono λ_ _ e=>.inl e);refine hK v' w3 ⟨by rw[hb3];simp,by simp[h.len],?_,λi L m hL hm=>?_,λL hL k hk=>?_,λe=>hvp lp e rfl,h.lo⟩ ((Chg.of_ext hx1).trans hcc) λk hk=>(hn k hk).imp id (by omega)
 ·rw[Ru h.len,aP];exact eG hO hc3 λk hk=>hvp k hk
 ·by_cases hi:i<Ls.length
  ·rw[fQ hi]at hL;rw[fQ (by rw[<-h.len];exact hi)]at hm;exact(h1.md i L m hL hm).keep hcc λk hk e=>e.elim (h1.sep L (bI hL) k hk).1 (h1.sep L (bI hL) k hk).2
  ·rw[fU (by omega)]at hL;rw[fU (by rw[<-h.len];omega)]at hm;have e1:=bX.1 (bI hL);have e2:=bX.1 (bI hm);subst e1 e2;exact Ww w3 B
 ·rcases bK.1 hL with hL|hL
  ·refine⟨(h.sep L hL k hk).1,λe=>?_⟩;rcases hn k e with h0|h0
   ·exact(h.sep L hL k hk).2 h0
   ·have:=(h.in_ L hL k hk).1;omega
  ·rw[bX.1 hL,Gt]at hk;cases hk
end
theorem OW{g off:Nat}{l:List Value}{c:Array Value}{K:World->Prop}(hb:w.heap[g]?=some (.cells c T (0,0)))(hl:l.length=n)(h1:l.all jM=true)(ho:off+n<=c.size)
  (hK:∀w' c',w'.heap[g]?=some (.cells c' T (0,0))->c'.size=c.size->(∀j,j<n->c'[off+j]?=l[j]?)->(∀q,q<off\/off+n<=q->c'[q]?=c[q]?)->Chg (λk=>k=g) w w'->w'.heap.size=w.heap.size->K w'):
  stW n (.pointer (some ⟨g,off,none⟩)) (.agg l.toArray) w K:=by
 rw[Gf];refine⟨hl,?_⟩;have key:∀(r:List Value) (i:Nat) (w1:World) (c1:Array Value),i+r.length=n->r.all jM=true->w1.heap[g]?=some (.cells c1 T (0,0))->c1.size=c.size->Chg (λk=>k=g) w w1->w1.heap.size=w.heap.size->
   (∀w' c',w'.heap[g]?=some (.cells c' T (0,0))->c'.size=c.size->(∀j,j<r.length->c'[off+i+j]?=r[j]?)->(∀q,q<off+i\/off+n<=q->c'[q]?=c1[q]?)->Chg (λk=>k=g) w w'->w'.heap.size=w.heap.size->K w')->lS ⟨g,off,none⟩ r i w1 K:=by
  intro r;induction r with
  |nil=>
   intro i w1 c1 hi _ hb1 hs1 hc1 hz1 hK1;exact hK1 w1 c1 hb1 hs1 (λj hj=>by simp at hj) (λq _=>rfl) hc1 hz1
  |cons v r ih=>
   intro i w1 c1 hi h1 hb1 hs1 hc1 hz1 hK1;simp only[wM,bU]at h1;simp only[aB]at hi;simp only[lS,bL];refine⟨h1.1,by rw[cM,hb1,bT];simp;omega,by rw[fL,hb1,gJ],?_⟩;refine ih (i+1) _ (c1.setIfInBounds (off+i) v) (by omega) h1.2 (by rw[oF,hb1,fR]) (by simp[hs1]) (hc1.set (.inl rfl) v) (by simp[hz1]) λw' c' hb' hs' hj' hq' hc' hz'=>?_;refine hK1 w' c' hb' hs' (λj hj=>?_) (λq hq=>?_) hc' hz'
   ·cases j with
    |zero=>
     rw[bJ,hq' (off+i) (.inl (by omega)),bG,Array.getElem?_setIfInBounds_self_of_lt (by omega)]
    |succ j=>
     have:=hj' j (by simpa using hj);rw[bF,<-this];congr 1;omega
   ·rw[hq' q (by omega),Array.getElem?_setIfInBounds_ne (by omega)]
 exact key l 0 w c (by omega) h1 hb rfl (Chg.refl _ _) rfl λw' c' h2 h3 h4 h5 h6 h7=>hK w' c' h2 h3 (λj hj=>by have:=h4 j (by omega);rwa[bJ]at this) (λq hq=>h5 q (by omega)) h6 h7
theorem Re{m B:Nat}{d:List Value}{K:World->Prop}(h:Own w B T m v n cs)(hi:i<n)(hm:0<m)(hd:d.length=m)(h1:d.all jM=true)
  (hK:∀w',Chg (λk=>v.ownBlock=some k) w w'->w'.heap.size=w.heap.size->Own w' B T m v n (cs.take (i*m)++d++cs.drop (i*m+m))->K w'):fK none m v (i64 (i:Nat)) λt=>stW m t (.agg d.toArray) w K:=by
 obtain⟨hl,⟨rfl,rfl⟩|⟨g,cap,cur,rfl,hb,hg,h2,h3,h4,h5⟩⟩:=h
 ·omega
 have him:i*m+m<=n*m:=by rw[<-Nat.succ_mul];exact fB _ hi
 have hcl:cs.length<=cur.size:=by
  have:=congrArg List.length h5;rw[cO]at this;have e:cur.toList.length=cur.size:=rfl;omega
 rw[eY];refine⟨by omega,by omega,?_⟩;rw[bL,aV,aI];refine OW hg hd h1 (by omega) λw' c' hb' hs' hj hq hc hz=>?_;have hget:∀j,j<cs.length->cur[j]?=cs[j]?:=λj hj=>by
  rw[<-h5,gT (by omega)];simp
 refine hK w' (hc.mono λk _ e=>by have e:k=g:=e;rw[e];rfl) hz ⟨?_,.inr ⟨g,cap,c',rfl,hb,hb',h2,h3,by rw[hs'];exact h4,?_⟩⟩
 ·rw[aP,aP,cO,aX,hd];omega
 ·apply List.ext_getElem?;intro j;by_cases hjn:j<n*m
  ·rw[gT hjn,Array.getElem?_toList];by_cases h6:j<i*m
   ·rw[fE,fQ (by rw[cO];omega),gT h6,hq j (.inl h6),hget j (by omega)]
   ·by_cases h7:j<i*m+m
    ·rw[fE,fU (by rw[cO];omega),cO,fQ (by omega)];have:=hj (j-i*m) (by omega);rw[show i*m+(j-i*m)=j by omega]at this;rw[this];congr 1;omega
    ·rw[fU (by rw[aP,cO];omega),aP,cO,jG,hq j (.inr (by omega)),hget j (by omega)];congr 1;omega
  ·rw[eW (by rw[cO];omega),eW (by rw[aP,aP,cO,aX,hd];omega)]
theorem Gp{m g cap o B:Nat}{u:Value}{K:Value->Prop}(h:Own w B T m (.slice (some ⟨g,0,none⟩) n cap) n cs)(hu:cs[o]?=some u)(hK:K u):ldW false 1 (.pointer (some ⟨g,o,none⟩)) w K:=by
 obtain⟨q,c,e,h1,h2,h3⟩:=h.sl;have hne:cs≠[]:=λe=>by rw[e]at hu;simp at hu
 obtain⟨b,off,cc,fr,hq,hb,hcs⟩:=h3 hne;injection e with e1 e2 e3
 rw[hq]at e1;injection e1 with e1
 injection e1 with e4 e5
 subst e4;rw[eD];refine⟨u,?_,hK⟩;rw[cM,hb,bT];have:=hcs o (bS.1 hu).1;rw[<-e5,aI]at this;rw[this];exact hu
theorem Fq{α:Type}{n:Nat}{f:α->List Value}(h:∀a,(f a).length=n):∀{l:List α} {i:Nat} {x:α},i<l.length->(l.set i x).flatMap f=(l.flatMap f).take (i*n)++f x++(l.flatMap f).drop (i*n+n)
 |[],i,x,hi=>by simp at hi
 |a::l,0,x,_=>by
  rw[aM,gL,gL,Ef,List.take_zero,aI,gB,<-h a,List.drop_left]
 |a::l,i+1,x,hi=>by
  rw[aQ,gL,gL,Fq h (by simpa using hi),mM,Nat.one_mul]
  have ha:=h a
  have e1:(f a).take (i*n+n)=f a:=iH (by omega)
  rw[List.take_append,List.drop_append,ha,e1,sI (by omega:(f a).length<=i*n+n+n),gB]
  rw[show i*n+n-n=i*n by omega,show i*n+n+n-n=i*n+n by omega]
  simp
theorem JN{α β:Type}:∀(l:List α) (m:List β) (i:Nat) (x:α) (y:β),(l.set i x).zip (m.set i y)=(l.zip m).set i (x,y)
 |[],_,_,_,_=>by simp
 |_::_,[],_,_,_=>by simp
 |a::l,b::m,0,x,y=>by simp
 |a::l,b::m,i+1,x,y=>by simp[JN l m i x y]
theorem LR.store[HX]{B lp fb:Nat}{vM:Value}{Ls:List ML}{mods:List Md}{L:ML}{m:Md}{KW:World->Prop}(h:LR w B lp fb vM Ls mods)(hi:i<mods.length)(hm:MdR w B L m)(hs:∀k∈ub L.vals,k≠lp/\vM.ownBlock≠some k)(h1:(L.cells m.dir).all jM=true)
  (hK:∀w',LR w' B lp fb vM (Ls.set i L) (mods.set i m)->Chg (LT lp vM) w w'->KW w'):fK none 9 vM (i64 (i:Nat)) λt=>stW 9 t (.agg (L.cells m.dir).toArray) w KW:=by
 refine Re h.ow hi (by omega) rfl h1 λw' hc hz hO=>?_;refine hK w' ⟨hc.at h.hl h.np,by rw[lV,lV];exact h.len,?_,λj L' m' hL' hm'=>?_,λL' hL' k hk=>?_,h.np,h.lo⟩ (hc.mono λ_ _ e=>.inr e)
 ·rw[lV];have:mdC (Ls.set i L) (mods.set i m)=(mdC Ls mods).take (i*9)++L.cells m.dir++(mdC Ls mods).drop (i*9+9):=by
   unfold mdC;rw[JN];exact Fq (n:=9) (f:=λx:ML×Md=>x.1.cells x.2.dir) (λ_=>rfl) (x:=(L,m)) (by rw[Ci,h.len,Nat.min_self];exact hi)
  rw[this];exact hO
 ·have keep:∀{L' m'},MdR w B L' m'->(∀k∈ub L'.vals,k≠lp/\vM.ownBlock≠some k)->MdR w' B L' m':=λhx hn=>hx.keep hc λk hk e=>(hn k hk).2 e;by_cases hij:i=j
  ·subst hij;rw[sH (by rw[h.len];exact hi)]at hL';rw[sH hi]at hm';injection hL' with hL'
   injection hm' with hm'
   subst hL' hm';exact keep hm hs
  ·rw[List.getElem?_set_ne hij]at hL' hm';exact keep (h.md j L' m' hL' hm') (h.sep L' (bI hL'))
 ·rcases qB hL' with hL'|rfl
  ·exact h.sep L' hL' k hk
  ·exact hs k hk
theorem Ll{α:Type}{R:α->List Value->Prop}{j:Nat}{xs:List α}{c:List Value}{x':α}(h:kO R n xs c)(hi:i<xs.length)(hj:j<n)(hx':R x' (((c.drop (i*n)).take n).set j v)):kO R n (xs.set i x') (c.set (i*n+j) v):=by
 refine⟨by rw[lV,lV];exact h.1,λq y hy=>?_⟩;by_cases hq:i=q
 ·subst hq;rw[sH hi]at hy;injection hy with hy
  subst hy;have:((c.set (i*n+j) v).drop (i*n)).take n=((c.drop (i*n)).take n).set j v:=by
   rw[List.drop_set,aL (by omega),List.take_set,show i*n+j-i*n=j by omega]
  rw[this];exact hx'
 ·rw[List.getElem?_set_ne hq]at hy;have:((c.set (i*n+j) v).drop (q*n)).take n=(c.drop (q*n)).take n:=by
   rcases Nat.lt_or_gt_of_ne hq with h1|h1
   ·have:(i+1)*n<=q*n:=fB _ h1;rw[mM,Nat.one_mul]at this;rw[List.drop_set_of_lt (by omega)]
   ·have:(q+1)*n<=i*n:=fB _ h1;rw[mM,Nat.one_mul]at this;rw[List.drop_set,aL (by omega),List.take_set_of_le (by omega)]
  rw[this];exact h.2 q y hy
theorem JY{a:Nat}{T:TypeId}:∀(new old pre post:List Value) (o i:Nat) {w:World} {K:World->Prop},w.heap[a]?=some (.cells (pre++old++post).toArray T (0,0))->o+i=pre.length->old.length=new.length->(∀v∈new,jM v=true)->
  (∀w',w'.heap.size=w.heap.size->w'.heap[a]?=some (.cells (pre++new++post).toArray T (0,0))->Chg (λk=>k=a) w w'->K w')->lS ⟨a,o,none⟩ new i w K
 |[],old,pre,post,o,i,w,K,hb,_,hl,_,hK=>by
  have:old=[]:=cW hl
  subst this
  exact hK w rfl hb (Chg.refl _ _)
 |v::r,[],pre,post,o,i,w,K,hb,ho,hl,h1,hK=>by simp at hl
 |v::r,u::old,pre,post,o,i,w,K,hb,ho,hl,h1,hK=>by
  have hadd:(⟨a,o,none⟩:Addr).add i=⟨a,pre.length,none⟩:=by rw[bL,ho]
  simp only[aB,Nat.add_right_cancel_iff]at hl
  simp only[lS,hadd]
  refine⟨h1 v aW,?_,?_,?_⟩
  ·rw[cM,hb,bT];simp
  ·rw[fL,hb,gJ]
  ·have e:(pre++(u::old)++post).set pre.length v=(pre++[v])++old++post:=by
    rw[fE,List.set_append_right _ _ (aZ _)];simp
   have hb':(w.setCell ⟨a,pre.length,none⟩ v).heap[a]?=some (.cells ((pre++[v])++old++post).toArray T (0,0)):=by
    rw[oF,hb,fR,<-e];simp
   refine JY r old (pre++[v]) post o (i+1) hb' (by rw[aP,List.length_singleton];omega) hl (λx hx=>h1 x (aD _ hx)) λw' hz hb2 hc=>?_;refine hK w' (by rw[hz];simp) ?_ ((Chg.set (S:=λk=>k=a) (Chg.refl _ _) (.inl rfl) _).trans hc);rw[hb2];simp
theorem OY{a o:Nat}{new old pre post:List Value}{K:World->Prop}(hb:w.heap[a]?=some (.cells (pre++old++post).toArray T (0,0)))(ho:o=pre.length)(hn:new.length=n)(hl:old.length=n)(h1:new.all jM=true)
  (hK:∀w',w'.heap.size=w.heap.size->w'.heap[a]?=some (.cells (pre++new++post).toArray T (0,0))->Chg (λk=>k=a) w w'->K w'):stW n (.pointer (some ⟨a,o,none⟩)) (.agg new.toArray) w K:=by
 rw[Gf];exact⟨hn,JY new old pre post o 0 hb (by omega) (by omega) (λv hv=>iD.1 h1 v hv) hK⟩
theorem pU(h:TabI w)(hx:Ext w w'):TabI w':=by
 obtain⟨m,hm⟩:=h;refine⟨m,?_⟩;rw[cM]at hm⊢;cases hb:w.heap[0]? with
 |none=>rw[hb]at hm;cases hm
 |some x=>rw[hb]at hm;rw[hx.at hb id];exact hm
def rdF(fs:Vfs.MS)(p:Str):Option Str:=(Vfs.lkM fs.files p).map (·.data)
section
variable [HX]
def LdC(w00:World)(fb:Nat)(fs:Vfs.MS)(d:Nat)(ld:Str->List Md->RL (List Md)):Prop:=
 ∀(dir:Str) (mods:List Md) (w:World) (lp:Nat) (vM:Value) (Ls:List ML) (K:Q0),Ext w00 w->LR w w00.heap.size lp fb vM Ls mods->dir.length<=1000+40*d->mods.length<=15->
  (∀mods' Ls' vM' w',ld dir mods=.ok mods'->LR w' w00.heap.size lp fb vM' Ls' mods'->Chg (LT lp vM) w w'->(∀k,vM'.ownBlock=some k->vM.ownBlock=some k\/w.heap.size<=k)->(∀L'∈Ls',∀k∈ub L'.vals,(∃L0∈Ls,k∈ub L0.vals)\/w.heap.size<=k)->K (i64 (mods.length:Nat)) w')->
  (∀c p a,ld dir mods=.bad c p a->TC w00 p c a)->aJ P0 51 [pA lp,str dir,i64 (d:Nat)] w K
theorem TC.low{w00 w0:World}{path:Str}{c a:Int}(h:TC w00 path c a)(hx:Ext w00 w0):TC w0 path c a:=λd w' hx' hd hb=>h d w' (hx.trans hx') (by have:=hx.size;omega) hb
theorem GH{M:Lay}:ub (ML.vals ⟨M,.slice none 0 0,.slice none 0 0,.slice none 0 0,.slice none 0 0,.slice none 0 0,[],[]⟩)=ub ([M.vE,M.vB,M.vT]++(M.cE++M.cB)):=by
 unfold ML.vals;rw[nL];exact fX _
end
section
variable [HX]
theorem Ob{p:Nat}{path:Str}{c a:Int}{K:Q0}(hp:w.heap[p]?=some (.cells cs.toArray MoT (0,0)))(h9:cs[9]?=some (str path))(ht:TC w path c a):aJ P0 94 [pA p,i64 c,i64 a] w K:=by
 refine OE ?_;unfold W94;rw[dB,bE,bL,aI,eD];refine⟨str path,by rw[cM,hp,bT];simpa using h9,?_⟩;simp only[dP,dW,dN,aB,aK,aM,aQ];refine⟨by omega,by omega,by omega,?_⟩;refine fZ (z:=[i64 c,str path,i64 a]) λd w' hd hz hb hx=>?_;exact ht d w' hx (by omega) hb
theorem JJ{vars:List Vr}{a:Atr}{l:List Atr}:Bg vars (a::l)=if vars.any (λv=>decide (v.n=a.n))=true then Bg vars l else some a.a:=rfl
theorem Sn{vars:List Vr}{args:List Atr}{tv ta:Value}{p:Nat}{path:Str}{K:World->Prop}(hv:SlAt w VrT tv vars.length (vrs vars))(ha:SlAt w AtT ta args.length (kK args))(hvl:vars.length<=9223372036854775807)(hal:args.length<=9223372036854775807)
  (hp:w.heap[p]?=some (.cells cs.toArray MoT (0,0)))(h9:cs[9]?=some (str path))(hbad:∀a,Bg vars args=some a->TC w path 80 a)(hK:Bg vars args=none->∀w',Ext w w'->K w'):
  fI ta λt164=>dL [(.int .i64 0)] w λs31 _ w32 L31=>
   aS .lss (s31.getD 0 undef) t164 λt166=>
   bB t166 (
    dE (λJ33=>
     fK none 3 ta (s31.getD 0 undef) λt167=>
     ldW true 3 t167 w32 λt168=>
     dA AtT [(.string (ofL [])),(.int .i64 0),(.int .i64 0)] w32 λt19 w34=>
     stW 3 t19 t168 w34 λw35=>
     aJ P0 96 [tv,(.func (.func 97) #[] #[t19])] w35 λt171 w36=>
     unW .not t171 λt172=>
     bB t172 (
      aR 2 t19 λt174=>
      ldW false 1 t174 w36 λt175=>
      aJ P0 94 [pA p,(.int .i64 80),t175] w36 λt176 w37=>
      J33 [] w37) (
      J33 [] w36))
    λs33 _ w38=>
    aS .add (s31.getD 0 undef) (.int .i64 1) λt177=>
    L31 [t177] w38) (K w32):=by
 rw[eO ha];refine yS args.length (λi w'=>Ext w w'/\Bg vars (args.drop i)=Bg vars args) ⟨Chg.refl _ _,rfl⟩ ?_ ?_
 ·rintro i w2 g L hi ⟨hx2,hno⟩ hL;obtain⟨x,hxi⟩:∃x,args[i]?=some x:=⟨_,aG hi⟩;have hlt:((i:Int)<(args.length:Int)):=by omega
  simp only[wsv,wsg,wsh,wsl,aO,aN,aF,kL,Nat.reduceAdd,Nat.reduceLT,cG,aY,dF,cU,cV,reduceCtorEq,hlt];have hdr:args.drop i=x::args.drop (i+1):=by
   rw[eB hi];rw[aG hi]at hxi;injection hxi with hxi
   rw[hxi]
  rw[hdr,JJ]at hno;refine dE.cut (λst w'=>st=[]/\Ext w2 w'/\vars.any (λv=>decide (v.n=x.n))=true) ?_ ?_
  ·refine lZ (ha.ext hx2) (sE args) (by omega) hi ?_;have e:((kK args).drop (i*3)).take 3=[str x.n,i64 (x.e:Nat),i64 x.a]:=yF hxi;rw[e];refine cK λb w3 hb hz hbb hx3=>?_;refine cY (l:=[str x.n,i64 (x.e:Nat),i64 x.a]) hbb rfl rfl rfl λw4 hz4 hbb4 hc4=>?_;have hx4:Ext w2 w4:=hx3.new hc4 (by omega);refine Ca (l:=vars) (q:=λv=>decide (v.n=x.n)) (hv.ext (hx2.trans hx4)) (by omega) (λy hy c hc {w8 K8} hx8 hK8=>hY (caps:=[pA b]) ?_) λw7 hx7=>?_
   ·have hc:c=[str y.n,i64 y.d,i64 y.a]:=hc;subst hc;refine Xi ?_;unfold W97;exact rH (hx8.at hbb4 id) hK8
   ·rw[fH,eJ];refine⟨λh=>?_,λh=>⟨by trivial,hx4.trans hx7,by simpa using h⟩⟩;have h:vars.any (λv=>decide (v.n=x.n))=false:=by simpa using h
    rw[aL (by rw[h];decide)]at hno;simp only[bE,bL,aI];refine ldb (hx7.at hbb4 id) (v:=i64 x.a) rfl ?_;have hx:=hx2.trans (hx4.trans hx7);exact Ob (hx.at hp id) h9 ((hbad x.a hno.symm).low hx)
  rintro st g2 w9 ⟨rfl,hx9,hany⟩;rw[aU hany]at hno;rw[up1 (by omega)];exact hL w9 ⟨hx2.trans hx9,hno⟩
 ·rintro w2 g L ⟨hx2,hno⟩;simp only[wsv,wsg,wsh,wsl,aO,aN,aF,kL,Nat.reduceAdd,Nat.reduceLT,cG,aY,dF,cU,cV,reduceCtorEq,Bm];rw[gU]at hno;exact hK hno.symm w2 hx2
theorem WI{vars:List Vr}{args:List Atr}{tv ta:Value}{p g o:Nat}{gc:Array Value}{path:Str}{a:Int}{K:World->Prop}(hv:SlAt w VrT tv vars.length (vrs vars))(ha:SlAt w AtT ta args.length (kK args))(hvl:vars.length<=9223372036854775807)(hal:args.length<=9223372036854775807)
  (hp:w.heap[p]?=some (.cells cs.toArray MoT (0,0)))(h9:cs[9]?=some (str path))(hg:w.heap[g]?=some (.cells gc T (0,0)))(hg2:gc[o+2]?=some ta)(hg3:gc[o+3]?=some (i64 a))(hbad:BW args vars=true->TC w path 110 a)(hK:BW args vars=false->∀w',Ext w w'->K w'):
  fI tv λt179=>dL [(.int .i64 0)] w λs39 _ w40 L39=>
   aS .lss (s39.getD 0 undef) t179 λt181=>
   bB t181 (
    dE (λJ41=>
     fK none 3 tv (s39.getD 0 undef) λt182=>
     ldW true 3 t182 w40 λt183=>
     dA VrT [(.string (ofL [])),(.int .i64 0),(.int .i64 0)] w40 λt21 w42=>
     stW 3 t21 t183 w42 λw43=>
     aR 1 t21 λt184=>
     ldW false 1 t184 w43 λt185=>
     aS .lss t185 (.int .i64 0) λt186=>
     GdW (isB t186 true) [undef] w43 (λJ44=>
      eC (.pointer (some ⟨g,o,none⟩)) λt189=>
      aR 2 t189 λt190=>
      ldW false 1 t190 w43 λt191=>
      aJ P0 98 [t191,(.func (.func 99) #[] #[t21])] w43 λt193 w45=>
      unW .not t193 λt194=>
      J44 [t194] w45)
     λs44 _ w46=>
     cZ t186 (s44.getD 0 undef) (.bool false) λt195=>
     bB t195 (
      eC (.pointer (some ⟨g,o,none⟩)) λt198=>
      aR 3 t198 λt199=>
      ldW false 1 t199 w46 λt200=>
      aJ P0 94 [pA p,(.int .i64 110),t200] w46 λt201 w47=>
      J41 [] w47) (
      J41 [] w46))
    λs41 _ w48=>
    aS .add (s39.getD 0 undef) (.int .i64 1) λt202=>
    L39 [t202] w48) (K w40):=by
 have ldg:∀{w':World} {j:Nat} {u:Value} {K:Value->Prop},w'.heap[g]?=some (.cells gc T (0,0))->gc[o+j]?=some u->K u->ldW false 1 (.pointer (some ⟨g,o+j,none⟩)) w' K:=λhb hu hK=>by
  rw[eD];exact⟨_,by rw[cM,hb,bT];exact hu,hK⟩
 rw[eO hv];refine yS vars.length (λi w'=>Ext w w'/\BW args (vars.drop i)=BW args vars) ⟨Chg.refl _ _,rfl⟩ ?_ ?_
 ·rintro i w2 gg L hi ⟨hx2,hno⟩ hL;obtain⟨x,hxi⟩:∃x,vars[i]?=some x:=⟨_,aG hi⟩;have hlt:((i:Int)<(vars.length:Int)):=by omega
  simp only[wsv,wsg,wsh,wsl,aO,aN,aF,kL,Nat.reduceAdd,Nat.reduceLT,cG,aY,dF,cU,cV,reduceCtorEq,hlt];have hdr:vars.drop i=x::vars.drop (i+1):=by
   rw[eB hi];rw[aG hi]at hxi;injection hxi with hxi
   rw[hxi]
  have hlc:BW args (x::vars.drop (i+1))=((decide (x.d<0)&&!args.any (λa=>decide (a.n=x.n)))||BW args (vars.drop (i+1))):=by simp only[BW,List.any_cons]
  rw[hdr,hlc]at hno;refine dE.cut (λst w'=>st=[]/\Ext w2 w'/\(decide (x.d<0)&&!args.any (λa=>decide (a.n=x.n)))=false) ?_ ?_
  ·refine lZ (hv.ext hx2) (Aq vars) (by omega) hi ?_;have e:((vrs vars).drop (i*3)).take 3=[str x.n,i64 x.d,i64 x.a]:=Cm hxi;rw[e];refine cK λb w3 hb hz hbb hx3=>?_;refine cY (l:=[str x.n,i64 x.d,i64 x.a]) hbb rfl rfl rfl λw4 hz4 hbb4 hc4=>?_;have hx4:Ext w2 w4:=hx3.new hc4 (by omega);have hx04:=hx2.trans hx4;simp only[dB,bE,bL,aI];refine ldb hbb4 (v:=i64 x.d) rfl ?_;rw[dI,fT];refine GdW.act (!args.any (λa=>decide (a.n=x.n))) (λw'=>Ext w4 w') (λ_=>Chg.refl _ _) (λ_ J hJ=>?_) λg2 w7 hx7=>?_
   ·refine ldg (hx04.at hg id) hg2 ?_;refine tY (l:=args) (q:=λa=>decide (a.n=x.n)) (ha.ext hx04) (by omega) (λy hy c hc {w8 K8} hx8 hK8=>hY (caps:=[pA b]) ?_) λw7 hx7=>?_
    ·have hc:c=[str y.n,i64 (y.e:Nat),i64 y.a]:=hc;subst hc;refine Xg ?_;unfold W99;exact rH (hx8.at hbb4 id) hK8
    ·rw[fH];exact hJ w7 hx7
   ·simp only[aC];rw[fG,eJ];refine⟨λh=>?_,λh=>⟨by trivial,hx4.trans hx7,h⟩⟩;have hx:=hx04.trans hx7;refine ldg (hx.at hg id) hg3 ?_;rw[h,dX]at hno;exact Ob (hx.at hp id) h9 ((hbad hno.symm).low hx)
  rintro st g2 w9 ⟨rfl,hx9,hany⟩;rw[hany,dC]at hno;rw[up1 (by omega)];exact hL w9 ⟨hx2.trans hx9,hno⟩
 ·rintro w2 g L ⟨hx2,hno⟩;simp only[wsv,wsg,wsh,wsl,aO,aN,aF,kL,Nat.reduceAdd,Nat.reduceLT,cG,aY,dF,cU,cV,reduceCtorEq,Bm];rw[gU]at hno;exact hK hno.symm w2 hx2
end
theorem AL{B m:Nat}(h:Own w B T m v n cs)(hn:0<n):
  ∃g cap cur,v=.slice (some ⟨g,0,none⟩) n cap/\w.heap[g]?=some (.cells cur T (0,0))/\∀j,j<cs.length->cur[j]?=cs[j]?:=by
 obtain⟨hl,⟨rfl,rfl⟩|⟨g,cap,cur,rfl,hb,hg,h2,h3,h4,h5⟩⟩:=h
 ·omega
 refine⟨g,cap,cur,rfl,hg,λj hj=>?_⟩;rw[<-h5,gT (by omega)];simp
theorem Rf{B g cap:Nat}{m o:Nat}{x:Value}{K:World->Prop}(h:Own w B T m (.slice (some ⟨g,0,none⟩) n cap) n cs)(ho:o<cs.length)(h1:jM x=true)
  (hK:∀w',Chg (One g) w w'->w'.heap.size=w.heap.size->Own w' B T m (.slice (some ⟨g,0,none⟩) n cap) n (cs.set o x)->K w'):stW 1 (.pointer (some ⟨g,o,none⟩)) x w K:=by
 obtain⟨hl,⟨e,_⟩|⟨g',cap',cur,e,hb,hg,h2,h3,h4,h5⟩⟩:=h
 ·cases e
 simp only[Value.slice.injEq,bA,Addr.mk.injEq,fM,dJ]at e;obtain⟨rfl,rfl⟩:=e;have hcl:cs.length<=cur.size:=by
  have:=congrArg List.length h5;rw[cO]at this;have e:cur.toList.length=cur.size:=rfl;omega
 refine kQ hg h1 (by omega) λw' hz hb' hc=>hK w' hc hz ?_;refine⟨by rw[lV];exact hl,.inr ⟨g,cap,_,rfl,hb,hb',h2,h3,?_,?_⟩⟩
 ·rw[Array.size_setIfInBounds];exact h4
 ·rw[Array.toList_setIfInBounds,<-h5,List.take_set]
theorem JP:∀(c:List Value) (j:Nat) {u v:Value},c[j]?=some u->u.ownBlock=none->v.ownBlock=none->ub (c.set j v)=ub c
 |[],_,_,_,h,_,_=>by simp at h
 |a::c,0,u,v,h,hu,hv=>by
  simp only[bG,bA]at h
  subst h
  rw[aM]
  unfold ub
  rw[gM,gM,hu,hv]
 |a::c,j+1,u,v,h,hu,hv=>by
  rw[bF]at h
  have ih:=JP c j h hu hv
  rw[aQ]
  unfold ub at ih⊢
  rw[gM,gM,ih]
section
variable [HX]
structure CP(B0:Nat)(w w':World)(p lp fb:Nat)(vM vM':Value)(Ls Ls':List ML)(mods':List Md)(L:ML)(vS:Value)(path:Str)(m:Md)(src:List Str):Prop where
 pm:w'.heap[p]?=some (.cells (L.cells m.dir++[str path,vS]).toArray MoT (0,0))
 md:MdR w' w.heap.size L m
 oS:Own w' w.heap.size StT 1 vS src.length (strs src)
 nd:(usM p L vS).Nodup
 lo:w.heap.size<=p
 lr:LR w' B0 lp fb vM' Ls' mods'
 cg:Chg (LT lp vM) w w'
 nw:∀k,vM'.ownBlock=some k->vM.ownBlock=some k\/w.heap.size<=k
 vn:∀k∈usM p L vS,k≠lp/\vM'.ownBlock≠some k/\∀L'∈Ls',k∉ub L'.vals
 ls:∀L'∈Ls',∀k∈ub L'.vals,(∃L0∈Ls,k∈ub L0.vals)\/w.heap.size<=k
section
variable{B0:Nat}{w w' w'':World}{p lp fb:Nat}{vM vM' vM'':Value}{Ls Ls' Ls'':List ML}{mods mods' mods'':List Md}{L:ML}{vS:Value}{path:Str}{m:Md}{src:List Str}
theorem CP.in_(h:CP B0 w w' p lp fb vM vM' Ls Ls' mods' L vS path m src):∀k∈usM p L vS,k<w'.heap.size/\w.heap.size<=k:=by
 intro k hk;unfold usM at hk;rcases bC.1 hk with rfl|hk
 ·exact⟨mB h.pm,h.lo⟩
 rcases bK.1 hk with hk|hk
 ·exact kJ h.oS (jW.1 hk)
 ·exact h.md.lt k hk
theorem CP.child(h:CP B0 w w' p lp fb vM vM' Ls Ls' mods' L vS path m src)(hl:LR w'' B0 lp fb vM'' Ls'' mods'')(hc:Chg (LT lp vM') w' w'')(hn:∀k,vM''.ownBlock=some k->vM'.ownBlock=some k\/w'.heap.size<=k)
  (hs:∀L'∈Ls'',∀k∈ub L'.vals,(∃L0∈Ls',k∈ub L0.vals)\/w'.heap.size<=k):CP B0 w w'' p lp fb vM vM'' Ls Ls'' mods'' L vS path m src:=by
 have hv:∀k∈usM p L vS,¬LT lp vM' k:=λk hk e=>e.elim (h.vn k hk).1 (h.vn k hk).2.1;have z1:=h.cg.size;have hps:∀k∈ub L.vals,k∈usM p L vS:=λk hk=>by simp[usM,hk]
 refine⟨hc.at h.pm (hv p (by simp[usM])),h.md.keep hc λk hk=>hv k (hps k hk),eG h.oS hc λk hk=>hv k (by simp[usM,jW.2 hk]),h.nd,h.lo,hl,h.cg.then hc λk hk e=>?_,λk hk=>?_,λk hk=>⟨(h.vn k hk).1,λe=>?_,λL' hL e=>?_⟩,λL' hL k hk=>?_⟩
 ·rcases e with e|e
  ·exact .inl e
  ·exact .inr ((h.nw k e).resolve_right (by omega))
 ·rcases hn k hk with e|e
  ·exact h.nw k e
  ·exact .inr (by omega)
 ·rcases hn k e with e|e
  ·exact(h.vn k hk).2.1 e
  ·have:=(h.in_ k hk).1;omega
 ·rcases hs L' hL k e with⟨L0,h0,e⟩|e
  ·exact(h.vn k hk).2.2 L0 h0 e
  ·have:=(h.in_ k hk).1;omega
 ·rcases hs L' hL k hk with⟨L0,h0,e⟩|e
  ·exact h.ls L0 h0 k e
  ·exact .inr (by omega)
theorem CP.ext(h:CP B0 w w' p lp fb vM vM' Ls Ls' mods' L vS path m src)(hx:Ext w' w''):CP B0 w w'' p lp fb vM vM' Ls Ls' mods' L vS path m src:=
 h.child (h.lr.ext hx) (Chg.of_ext hx) (λ_ e=>.inl e) λL' hL _ hk=>.inl ⟨L',hL,hk⟩
theorem CP.of[FK]{s:MS}(h:MR w w' p L vS path s)(hl:LR w B0 lp fb vM Ls mods)(hB:B0<=w.heap.size):CP B0 w w' p lp fb vM vM Ls Ls mods L vS path s.m s.src:=
 ⟨h.pm,h.md,h.oS,h.nd,h.lp,hl.ext h.ch,Chg.of_ext h.ch,λ_ e=>.inl e,λk hk=>⟨λe=>by have:=(h.in_ k hk).2;have:=hl.lplt;omega,λe=>by have:=(h.in_ k hk).2;have:=(kJ hl.ow e).1;omega,λL' hL e=>by have:=(h.in_ k hk).2;have:=(hl.in_ L' hL k e).1;omega⟩,λL' hL k hk=>.inl ⟨L',hL,hk⟩⟩
theorem CP.ext0(h:CP B0 w w' p lp fb vM vM' Ls Ls' mods' L vS path m src){w0:World}(hx:Ext w0 w)(hl:LR w w0.heap.size lp fb vM Ls mods):Ext w0 w':=by
 refine hx.then h.cg λk hk e=>?_;rcases e with e|e
 ·have:=hl.lo;omega
 ·have:=(kJ hl.ow e).2;omega
theorem CP.setmod{y:Nat}{c:Cl}{K:World->Prop}(h:CP B0 w w' p lp fb vM vM' Ls Ls' mods' L vS path m src)(hi:m.calls[i]?=some c){g cap:Nat}(hv:L.vC=.slice (some ⟨g,0,none⟩) m.calls.length cap)
  (hK:∀w'',CP B0 w w'' p lp fb vM vM' Ls Ls' mods' {L with cC:=L.cC.set (i*4+1) (i64 (y:Nat))} vS path {m with calls:=m.calls.set i {c with mod:=y}} src->K w''):
  stW 1 (.pointer (some ⟨g,i*4+1,none⟩)) (i64 (y:Nat)) w' K:=by
 have hil:i<m.calls.length:=(bS.1 hi).1;have hcl:=h.md.cc.1;have hO:=h.md.oC;rw[hv]at hO;have hbd:i*4+4<=m.calls.length*4:=by omega
 refine Rf hO (by omega) rfl λw2 hc hz hO2=>?_;refine hK w2 ?_;letI:FK:=⟨λ_ _=>False⟩;have hgC:L.vC.ownBlock=some g:=by rw[hv];rfl
 have hnd:=h.nd;rw[kB]at hnd;have eA:[vS]++L.vals=([vS]++(([L.M.vE,L.M.vB,L.M.vT]++(L.M.cE++L.M.cB))++[L.vV,L.vL,L.vO,L.vR]))++L.vC::(L.cR++L.cC):=by simp[ML.vals]
 rw[eA]at hnd;have oth:∀v∈([vS]++(([L.M.vE,L.M.vB,L.M.vT]++(L.M.cE++L.M.cB))++[L.vV,L.vL,L.vO,L.vR]))++(L.cR++L.cC),∀k,v.ownBlock=some k->¬One g k:=λv hv k hk e=>rY hnd v hv k hk (.inl (by have e:k=g:=e;rw[e];exact hgC));have hgu:g∈usM p L vS:=by rw[kB,eA];exact aD _ (eF (v:=L.vC) (by simp) hgC)
 have hgp:g≠p:=λe=>(dK.1 hnd).1 (by rw[<-e];exact eF (v:=L.vC) (by simp) hgC);obtain⟨v1,v2,v3⟩:=h.vn g hgu;have row:=h.md.cc.2 i c hi;obtain⟨va,hrow,hva⟩:=row;have hcell:L.cC[i*4+1]?=some (i64 (c.mod:Nat)):=by
  have:((L.cC.drop (i*4)).take 4)[1]?=some (i64 (c.mod:Nat)):=by rw[hrow];rfl
  rwa[gT (by omega),jG]at this
 have hub:ub (L.cC.set (i*4+1) (i64 (y:Nat)))=ub L.cC:=JP _ _ hcell rfl rfl;have hubv:ub (ML.vals {L with cC:=L.cC.set (i*4+1) (i64 (y:Nat))})=ub L.vals:=by
  simp only[ML.vals,nL];rw[hub]
 have hus:usM p {L with cC:=L.cC.set (i*4+1) (i64 (y:Nat))} vS=usM p L vS:=by
  unfold usM;rw[hubv]
 have hcc:kO (ClR w2 w.heap.size) 4 m.calls L.cC:=h.md.cc.imp λy e he hy=>hy.at_ hc λk hk=>by
  obtain⟨v,hv,hk⟩:=bZ.1 hk;exact oth v (by simp[he v hv]) k hk
 have hps:∀k∈ub L.vals,k∈usM p L vS:=λk hk=>by simp[usM,hk]
 refine⟨hc.at h.pm (λe=>hgp (by have e:p=g:=e;exact e.symm)),⟨h.md.fo.keep hc λk _ _ hk=>?_,eG h.md.oV hc (oth _ (by simp)),eG h.md.oL hc (oth _ (by simp)),eG h.md.oO hc (oth _ (by simp)),eG h.md.oR hc (oth _ (by simp)),?_,h.md.rr.imp λy e he hy=>hy.at_ hc λk hk=>?_,?_,λk hk=>?_⟩,eG h.oS hc (oth _ (by simp)),by rw[hus];exact h.nd,h.lo,h.lr.keep hc (λe=>v1 (by have e:lp=g:=e;exact e.symm)) (λk hk e=>v2 (by have e:k=g:=e;rw[<-e];exact hk)) (λL' hL k hk e=>v3 L' hL (by have e:k=g:=e;rw[<-e];exact hk)),
  h.cg.then hc (λk hk e=>by have e:k=g:=e;have:=(h.in_ g hgu).2;omega),h.nw,λk hk=>by rw[hus]at hk;exact h.vn k hk,h.ls⟩
 ·obtain⟨v,hv,hk⟩:=bZ.1 hk;exact oth v (cD _ (bP _ (cD _ hv))) k hk
 ·show Own w2 _ _ _ L.vC (m.calls.set i _).length _;rw[lV,hv];exact hO2
 ·obtain⟨v,hv,hk⟩:=bZ.1 hk;exact oth v (by simp[he v hv]) k hk
 ·refine Ll (n:=4) (j:=1) hcc hil (by omega) ?_;obtain⟨va2,hrow2,hva2⟩:=hcc.2 i c hi;rw[hrow2];exact⟨va2,rfl,hva2⟩
 ·rw[hubv]at hk;have:=h.md.lt k hk;exact⟨by rw[hz];exact this.1,this.2⟩
end
end
theorem uQ{c r:List Value}(h:(c.drop (i*n)).take n=r){j:Nat}(hj:j<n):c[i*n+j]?=r[j]?:=by
 rw[<-h,gT hj,jG]
section
variable [HX]
theorem Sp{w00 w21:World}{p lp fb d:Nat}{fs:Vfs.MS}{vM vM1:Value}{Ls Ls1:List ML}{mods0 mods1:List Md}{L:ML}{vS:Value}{path dir:Str}{m:Md}{src:List Str}{sub:Option (Str->List Md->RL (List Md))}{K:World->Prop}
  (hsub:(d=4/\sub=none)\/(d<4/\∃ld,sub=some ld/\LdC w00 fb fs (d+1) ld/\Mn ld))(hxw:Ext w00 w)(hl0:LR w w00.heap.size lp fb vM Ls mods0)(h:CP w00.heap.size w w21 p lp fb vM vM1 Ls Ls1 mods1 L vS path m src)(hd:d<=4)(hsl:src.length=m.calls.length)(hcl:m.calls.length<=1000000)
  (hsn:∀x∈src,x.length<=32)(h16:mods1.length<=16)(hdir:dir.length<=1000+40*d)
  (hK:∀cs mods' L' vM' Ls' w',lP sub path dir (m.calls.zip src) [] mods1=.ok (cs,mods')->CP w00.heap.size w w' p lp fb vM vM' Ls Ls' mods' L' vS path {m with calls:=cs} src->mods1.length<=mods'.length->K w')
  (hbad:∀c q a,lP sub path dir (m.calls.zip src) [] mods1=.bad c q a->TC w00 q c a):
  eC (pA p) λt101=>
  aR 0 t101 λt102=>
  aR 8 t102 λt103=>
  ldW false 1 t103 w21 λt104=>
  fI t104 λt105=>
  dL [(.int .i64 0)] w21 λs22 _ w23 L22=>
   aS .lss (s22.getD 0 undef) t105 λt107=>
   bB t107 (
    eC (pA p) λt110=>
    aR 0 t110 λt111=>
    aR 8 t111 λt112=>
    ldW false 1 t112 w23 λt113=>
    fK none 4 t113 (s22.getD 0 undef) λt115=>
    dE (λJ24=>
     aS .eql (i64 (d:Nat)) (.int .i64 4) λt117=>
     GdW (isB t117 false) [undef] w23 (λJ25=>
      eC (pA lp) λt120=>
      aR 1 t120 λt121=>
      ldW false 1 t121 w23 λt122=>
      fI t122 λt123=>
      aS .eql t123 (.int .i64 16) λt124=>
      J25 [t124] w23)
     λs25 _ w26=>
     cZ t117 (.bool true) (s25.getD 0 undef) λt125=>
     bB t125 (
      eC t115 λt128=>
      aR 3 t128 λt129=>
      ldW false 1 t129 w26 λt130=>
      aJ P0 94 [pA p,(.int .i64 111),t130] w26 λt131 w27=>
      J24 [] w27) (
      J24 [] w26))
    λs24 _ w28=>
    eC (pA p) λt136=>
    aR 10 t136 λt137=>
    ldW false 1 t137 w28 λt138=>
    fK none 1 t138 (s22.getD 0 undef) λt140=>
    ldW false 1 t140 w28 λt141=>
    aS .add (str dir) t141 λt142=>
    aS .add t142 (.string (ofL [47])) λt143=>
    aS .add (i64 (d:Nat)) (.int .i64 1) λt145=>
    aJ P0 51 [pA lp,t143,t145] w28 λt146 w29=>
    eC t115 λt147=>
    aR 1 t147 λt148=>
    stW 1 t148 t146 w29 λw30=>
    eC (pA lp) λt150=>
    aR 1 t150 λt151=>
    ldW false 1 t151 w30.drew λt152=>
    eC t115 λt154=>
    aR 1 t154 λt155=>
    ldW false 1 t155 w30.drew λt156=>
    fK none 9 t152 t156 λt157=>
    aR 4 t157 λt158=>
    ldW false 1 t158 w30.drew λt159=>
    eC t115 λt161=>
    aR 2 t161 λt162=>
    ldW false 1 t162 w30.drew λt163=>
    fI t163 λt164=>
    dL [(.int .i64 0)] w30.drew λs31 _ w32 L31=>
     aS .lss (s31.getD 0 undef) t164 λt166=>
     bB t166 (
      dE (λJ33=>
       fK none 3 t163 (s31.getD 0 undef) λt167=>
       ldW true 3 t167 w32 λt168=>
       dA AtT [(.string (ofL [])),(.int .i64 0),(.int .i64 0)] w32 λt19 w34=>
       stW 3 t19 t168 w34 λw35=>
       aJ P0 96 [t159,(.func (.func 97) #[] #[t19])] w35 λt171 w36=>
       unW .not t171 λt172=>
       bB t172 (
        aR 2 t19 λt174=>
        ldW false 1 t174 w36 λt175=>
        aJ P0 94 [pA p,(.int .i64 80),t175] w36 λt176 w37=>
        J33 [] w37) (
        J33 [] w36))
      λs33 _ w38=>
      aS .add (s31.getD 0 undef) (.int .i64 1) λt177=>
      L31 [t177] w38) (
      fI t159 λt179=>
      dL [(.int .i64 0)] w32 λs39 _ w40 L39=>
       aS .lss (s39.getD 0 undef) t179 λt181=>
       bB t181 (
        dE (λJ41=>
         fK none 3 t159 (s39.getD 0 undef) λt182=>
         ldW true 3 t182 w40 λt183=>
         dA VrT [(.string (ofL [])),(.int .i64 0),(.int .i64 0)] w40 λt21 w42=>
         stW 3 t21 t183 w42 λw43=>
         aR 1 t21 λt184=>
         ldW false 1 t184 w43 λt185=>
         aS .lss t185 (.int .i64 0) λt186=>
         GdW (isB t186 true) [undef] w43 (λJ44=>
          eC t115 λt189=>
          aR 2 t189 λt190=>
          ldW false 1 t190 w43 λt191=>
          aJ P0 98 [t191,(.func (.func 99) #[] #[t21])] w43 λt193 w45=>
          unW .not t193 λt194=>
          J44 [t194] w45)
         λs44 _ w46=>
         cZ t186 (s44.getD 0 undef) (.bool false) λt195=>
         bB t195 (
          eC t115 λt198=>
          aR 3 t198 λt199=>
          ldW false 1 t199 w46 λt200=>
          aJ P0 94 [pA p,(.int .i64 110),t200] w46 λt201 w47=>
          J41 [] w47) (
          J41 [] w46))
        λs41 _ w48=>
        aS .add (s39.getD 0 undef) (.int .i64 1) λt202=>
        L39 [t202] w48) (
        aS .add (s22.getD 0 undef) (.int .i64 1) λt203=>
        L22 [t203] w40))) (K w23):=by
 simp only[dB,bE,bL,aI];refine ldb h.pm (v:=L.vC) rfl ?_;rw[eO h.md.oC.sl];generalize hQ:lP sub path dir (m.calls.zip src) [] mods1=Q at hK hbad;refine yS m.calls.length (λi w'=>∃done L' vM' Ls' mods',CP w00.heap.size w w' p lp fb vM vM' Ls Ls' mods' L' vS path {m with calls:=done++m.calls.drop i} src/\lP sub path dir ((m.calls.zip src).drop i) done mods'=Q/\done.length=i/\mods'.length<=16/\mods1.length<=mods'.length)
  ⟨[],L,vM1,Ls1,mods1,h,hQ,rfl,h16,aZ _⟩ ?_ ?_
 ·rintro i w2 g L2 hi ⟨done,L',vM',Ls',mods',hcp,hq,hdl,hm16,hml⟩ hL;obtain⟨c,hci⟩:∃c,m.calls[i]?=some c:=⟨_,aG hi⟩;obtain⟨x,hxi⟩:∃x,src[i]?=some x:=⟨_,aG (by omega)⟩;have hxl:=hsn x (bI hxi);have hlt:((i:Int)<(m.calls.length:Int)):=by omega
  simp only[aC];rw[dI,bW hlt,dG];have hdr:m.calls.drop i=c::m.calls.drop (i+1):=by
   rw[eB hi];rw[aG hi]at hci;injection hci with hci
   rw[hci]
  have hzi:(m.calls.zip src)[i]?=some (c,x):=by rw[List.getElem?_zip_eq_some];exact⟨hci,hxi⟩
  have hzl:i<(m.calls.zip src).length:=(bS.1 hzi).1;have hzd:(m.calls.zip src).drop i=(c,x)::(m.calls.zip src).drop (i+1):=by
   rw[eB hzl];rw[aG hzl]at hzi;injection hzi with hzi
   rw[hzi]
  rw[hzd]at hq;have hlen:(done++m.calls.drop i).length=m.calls.length:=by rw[aP,aX];omega
  have hcd:(done++m.calls.drop i)[i]?=some c:=by rw[fU (by omega),hdl,Nat.sub_self,hdr];rfl
  have hoC:=hcp.md.oC;obtain⟨gb,cap,cur,hvC,hgb,hcur⟩:=AL hoC (by show 0<(done++m.calls.drop i).length;omega);have hccl:L'.cC.length=m.calls.length*4:=by rw[<-hlen];exact hcp.md.cc.1
  obtain⟨va,hrow,hva⟩:=hcp.md.cc.2 i c hcd;refine ldb hcp.pm (v:=L'.vC) rfl ?_;rw[hvC,eY];refine⟨by omega,by show(i:Int)<(((done++m.calls.drop i).length:Nat):Int);omega,?_⟩;simp only[bL,aV,aI,dB,bE];have hpp:(L'.cells m.dir++[str path,vS])[9]?=some (str path):=rfl;refine dE.cut (λst w'=>st=[]/\w'=w2/\d≠4/\mods'.length≠16) ?_ ?_
  ·rw[cL,iB];refine GdW.look (decide (mods'.length=16)) (λ_ J hJ=>?_) λg3=>?_
   ·refine ldb hcp.lr.hl (v:=vM') rfl ?_;rw[eO hcp.lr.ow.sl,cL];have e:decide (((mods'.length:Nat):Int)=16)=decide (mods'.length=16):=decide_eq_decide.2 (by omega);rw[e];exact hJ
   ·simp only[aC];rw[lG,eJ];refine⟨λhb=>?_,λhb=>⟨by trivial,by trivial,?_⟩⟩
    ·rw[eD];refine⟨i64 c.a,by rw[cM,hgb,bT,hcur _ (by omega),uQ hrow (by omega)];rfl,?_⟩;refine Ob hcp.pm hpp (TC.low ?_ (hcp.ext0 hxw hl0));refine hbad 111 path c.a ?_;rw[<-hq];rcases hsub with⟨_,rfl⟩|⟨hd4,ld,rfl,_⟩
     ·rfl
     ·have:mods'.length=16:=by
       have e1:decide (((d:Nat):Int)=4)=false:=bH (by omega);rw[e1,dC]at hb;exact eK hb
      simp only[lP];rw[aU this]
    ·rw[Bool.or_eq_false_iff]at hb;exact⟨λe=>by have:=of_decide_eq_false hb.1;omega,of_decide_eq_false hb.2⟩
  rintro st g3 w28 ⟨rfl,rfl,hd4,hn16⟩;obtain⟨hdlt,ld,rfl,hld,hldk⟩:=hsub.resolve_left (λe=>hd4 e.1);simp only[lP]at hq;rw[aL hn16]at hq;refine ldb hcp.pm (v:=vS) rfl ?_;refine mR (i:=i) (x:=str x) hcp.oS.sl (by unfold strs;rw[fP]) (by unfold strs;rw[fO,hxi];rfl) ?_;rw[fJ];refine⟨by show(_:Int)<=9223372036854775807;omega,?_⟩;rw[fJ];refine⟨by simp only[aP,aB,aK];show(_:Int)<=9223372036854775807;omega,?_⟩;rw[cJ,upi (by omega)];have hx2:=hcp.ext0 hxw hl0;refine hld (dir++x++[47]) mods' w28 lp vM' Ls' _ hx2 hcp.lr (by simp only[aP,aB,aK];omega) (by omega) (λmods2 Ls2 vM2 w29 hok hlr2 hc2 hn2 hs2=>?_) (λk q a hb=>?_)
  rotate_left
  ·rw[hb]at hq;exact hbad k q a hq.symm
  rw[hok]at hq;simp only at hq;obtain⟨new,hnew,hne,hm2,_⟩:=hldk _ _ _ (by omega) hok;have hnl:0<new.length:=iG.2 hne;have hm2l:mods2.length=mods'.length+new.length:=by rw[hnew,aP]
  have hcp2:=hcp.child hlr2 hc2 hn2 hs2;have hvC2:L'.vC=.slice (some ⟨gb,0,none⟩) ({m with calls:=done++m.calls.drop i}:Md).calls.length cap:=hvC;refine hcp2.setmod (c:=c) (y:=mods'.length) hcd hvC2 λw30 hcp3=>?_;have hcp4:=hcp3.ext (cQ w30);generalize hw4:w30.drew=w4 at hcp4;have hset:(done++m.calls.drop i).set i {c with mod:=mods'.length}=(done++[{c with mod:=mods'.length}])++m.calls.drop (i+1):=by
   rw[List.set_append_right _ _ (by omega),hdl,Nat.sub_self,hdr,aM];simp
  have hlen2:((done++m.calls.drop i).set i {c with mod:=mods'.length}).length=m.calls.length:=by rw[lV];exact hlen
  obtain⟨gb2,cap2,cur2,hvC3,hgb2,hcur2⟩:=AL hcp4.md.oC (by show 0<((done++m.calls.drop i).set i _).length;omega);have hgg:gb2=gb:=by
   have e:L'.vC=_:=hvC3;rw[hvC]at e;simp only[Value.slice.injEq,bA,Addr.mk.injEq,fM]at e;exact e.1.symm
  subst hgg;obtain⟨va2,hrow2,hva2⟩:=hcp4.md.cc.2 i {c with mod:=mods'.length} (by show((done++m.calls.drop i).set i _)[i]?=_;rw[sH (by omega)]);have hcl4:(L'.cC.set (i*4+1) (i64 (mods'.length:Nat))).length=m.calls.length*4:=by rw[lV];exact hccl
  have hgc:∀j,j<4->cur2[i*4+j]?=([str c.n,i64 (mods'.length:Nat),va2,i64 c.a]:List Value)[j]?:=λj hj=>by
   rw[hcur2 _ (by show _<(L'.cC.set (i*4+1) (i64 (mods'.length:Nat))).length;omega)];exact uQ hrow2 hj
  have ldg:∀{j:Nat} {u:Value} {K:Value->Prop},cur2[i*4+j]?=some u->K u->ldW false 1 (.pointer (some ⟨gb2,i*4+j,none⟩)) w4 K:=λhu hK=>by
   rw[eD];exact⟨_,by rw[cM,hgb2,bT];exact hu,hK⟩
  refine ldb hcp4.lr.hl (v:=vM2) rfl ?_;refine ldg (u:=i64 (mods'.length:Nat)) (hgc 1 (by omega)) ?_;obtain⟨gm,capm,curm,hvM,hgm,hcurm⟩:=AL hcp4.lr.ow (by omega);have howm:=hcp4.lr.ow;rw[hvM]at howm⊢;rw[eY];refine⟨by omega,by omega,?_⟩;simp only[bL,aV,aI];obtain⟨LC,hLC⟩:∃LC,Ls2[mods'.length]?=some LC:=⟨_,aG (by rw[hcp4.lr.len];omega)⟩;obtain⟨mc,hmc⟩:∃mc,mods2[mods'.length]?=some mc:=⟨_,aG (by omega)⟩;have hmcD:mods2.getD mods'.length Ab=mc:=by rw[bR,hmc];rfl
  rw[hmcD]at hq;have hmd:=hcp4.lr.md _ LC mc hLC hmc;refine Gp howm (u:=LC.vV) (by rw[uQ (n:=9) (j:=4) (AO hLC hmc) (by omega)];rfl) ?_;refine ldg (u:=va2) (hgc 2 (by omega)) ?_;have hx4:=hcp4.ext0 hxw hl0;refine Sn (vars:=mc.vars) (args:=c.args) (p:=p) (path:=path) hmd.oV.sl hva2.sl (lJ hmd.oV) (lJ hva2) hcp4.pm hpp (λa ha=>TC.low (hbad 80 path a ?_) hx4) λhno w32 hx32=>?_
  ·rw[ha]at hq;exact hq.symm
  rw[hno]at hq;simp only at hq;refine WI (vars:=mc.vars) (args:=c.args) (p:=p) (path:=path) (gc:=cur2) (a:=c.a) (hmd.oV.sl.ext hx32) (hva2.sl.ext hx32) (lJ hmd.oV) (lJ hva2) (hx32.at hcp4.pm id) hpp (hx32.at hgb2 id) (hgc 2 (by omega)) (hgc 3 (by omega)) (λhl=>TC.low (hbad 110 path c.a ?_) (hx4.trans hx32)) λhno2 w40 hx40=>?_
  ·rw[aU hl]at hq;exact hq.symm
  rw[aL (by rw[hno2];decide)]at hq;rw[cJ,up1 (by omega)];refine hL w40 ⟨done++[{c with mod:=mods'.length}],{L' with cC:=L'.cC.set (i*4+1) (i64 (mods'.length:Nat))},vM2,Ls2,mods2,?_,hq,by simp[hdl],hm2,by omega⟩;have:=(hcp4.ext hx32).ext hx40;rw[<-hset];exact this
 ·rintro w2 g L2 ⟨done,L',vM',Ls',mods',hcp,hq,hdl,hm16,hml⟩;simp only[aC];rw[dI,bH (Bm _),bQ];have hz:(m.calls.zip src).length=m.calls.length:=by rw[Ci,hsl,Nat.min_self]
  rw[<-hz,gU]at hq;simp only[lP]at hq;rw[gU,fX]at hcp;exact hK done mods' L' vM' Ls' w2 hq.symm hcp hml
end
theorem WH{a:Nat}{l r:List Value}{fr:Nat×Nat}{K:Value->Prop}(hb:w.heap[a]?=some (.cells (l++r).toArray T fr))(hn:l.length=n)(hK:K (.agg l.toArray)):ldW true n (.pointer (some ⟨a,0,none⟩)) w K:=by
 rw[xP];refine⟨l,?_,hK⟩;have:∀(n i:Nat),i+n=l.length->bV w ⟨a,0,none⟩ i n=some (l.drop i):=by
  intro n;induction n with
  |zero=>intro i h;simp only[bV];rw[iI (by omega)]
  |succ n ih=>
   intro i h;have hi:i<l.length:=by omega
   have hg:(l++r)[i]?=some l[i]:=by rw[fQ hi,aG hi]
   simp only[bV,bL,cM,hb,bT,aI,bN,hg];rw[ih (i+1) (by omega)];simp
 rw[this n 0 (by omega)];rfl
theorem Nt{d:Str}(h:kS d=true):d.length<=32:=by
 cases d with
 |nil=>cases h
 |cons c r=>
  simp only[kS,bU,fN]at h;have:=h.2;simp only[aB];omega
section
variable [HX]
theorem ND{w00:World}{fb fm:Nat}{fs:Vfs.MS}{sub:Option (Str->List Md->RL (List Md))}{d:Nat}(hT:TabI w00)(hfs:Fx.FsB w00 fb fm fs)(hfo:Vfs.Ok fs)(hd:d<=4)
  (hsub:(d=4/\sub=none)\/(d<4/\∃ld,sub=some ld/\LdC w00 fb fs (d+1) ld/\Mn ld)):LdC w00 fb fs d (sR (rdF fs) sub):=by
 intro dir mods w lp vM Ls K hxw hL hdir hmods hok hbad;refine XJ ?_;unfold W51;have hbase:=hxw.size;generalize hR:sR (rdF fs) sub dir mods=R at hok hbad;unfold sR at hR;rw[fJ];refine⟨by simp only[aB,aK];show(_:Int)<=9223372036854775807;omega,?_⟩
 have hpl:(dir++pW).length<=2000:=by rw[aP];have:pW.length=8:=by decide
                                     omega
 have hpe:dir++[109,97,105,110,46,104,99,108]=dir++pW:=rfl;rw[hpe];generalize hpath:dir++pW=path at*
 simp only[dW,dN,aB,aK,aM,aQ];refine⟨by omega,?_⟩;refine fZ (z:=[str [],.slice none 0 0,.slice none 0 0,.slice none 0 0,.slice none 0 0,.slice none 0 0,.slice none 0 0,.slice none 0 0,.slice none 0 0,str path,.slice none 0 0]) λp w2 hp hz2 hbp hx2=>?_;simp only[dB,bE,bL,aI];refine kQ hbp rfl (by simp) λw3 hz3 hbp3 hc3=>?_;have hx3:Ext w w3.drew:=(hx2.new hc3 (by omega)).trans (cQ w3);have hbp4:w3.drew.heap[p]?=some (.cells [str dir,.slice none 0 0,.slice none 0 0,.slice none 0 0,.slice none 0 0,.slice none 0 0,.slice none 0 0,.slice none 0 0,.slice none 0 0,str path,.slice none 0 0].toArray MoT (0,0)):=by
  show w3.heap[p]?=_;rw[hbp3];simp
 have hMf0:∀{w'},Ext w w'->w'.heap[p]?=some (.cells [str dir,.slice none 0 0,.slice none 0 0,.slice none 0 0,.slice none 0 0,.slice none 0 0,.slice none 0 0,.slice none 0 0,.slice none 0 0,str path,.slice none 0 0].toArray MoT (0,0))->Mf w w' p ⟨.slice none 0 0,.slice none 0 0,.slice none 0 0,[],[]⟩ path ⟨[],[],[]⟩:=λhx hb=>⟨hx,⟨_,hb,rfl,rfl,rfl,rfl⟩,Oa _ _⟩;refine ldb (hL.ext hx3).hl (v:=pA fb) rfl ?_;refine ldb hbp4 (v:=str path) rfl ?_;refine Fx.read_fs (hfs.ext (hxw.trans hx3)) hfo λdv w4 hdv hx4=>?_;simp only[bY];refine⟨_,rfl,_,rfl,?_⟩;have hx04:=hx3.trans hx4;have hbp5:=hx4.at hbp4 id;refine dE.cut (λst w'=>st=[]/\w'=w4/\∃x,Vfs.lkM fs.files path=some x) ?_ ?_
 ·rw[fH,eJ];refine⟨λh=>?_,λh=>⟨by trivial,by trivial,?_⟩⟩
  ·have:rdF fs path=none:=by
    unfold rdF;cases hl:Vfs.lkM fs.files path with
    |none=>rfl
    |some x=>rw[hl]at h;cases h
   rw[this]at hR;exact mP (hMf0 hx04 hbp5) ((hbad 111 path 0 hR.symm).low hxw)
  ·cases hl:Vfs.lkM fs.files path with
   |none=>rw[hl]at h;cases h
   |some x=>exact⟨x,rfl⟩
 rintro st g w5 ⟨rfl,rfl,x,hxl⟩;have hrd:rdF fs path=some x.data:=by unfold rdF;rw[hxl];rfl
 rw[hrd]at hR;simp only at hR;rw[hxl]at hdv;have hdfe:Fx.df (some x)=x:=rfl;rw[hdfe]at hdv;have hdl:x.data.length<=65536:=(hfo.each _ (Vfs.lk_mem hxl)).2.1;rw[Fx.conv_b hdv];have hT5:=pU hT (hxw.trans hx04);refine Rc (λ{_}=>Vn) hT5 (by omega) (λfl hpl M w6 hx6 hF6 hfew=>?_) (λc a hpb dg w6 hx6 hdl hdb=>?_)
 rotate_left
 ·rw[hpb]at hR;simp only at hR;simp only[bY];refine⟨_,rfl,_,rfl,?_⟩;refine cK λb10 w9 hb10 hz9 hbb10 hx9=>?_;refine cY (l:=[.slice none 0 0,.slice none 0 0,.slice none 0 0]) hbb10 rfl rfl rfl λw10 hz10 hbb10 hc10=>?_;have hx10:Ext w6 w10.drew:=(hx9.new hc10 (by omega)).trans (cQ w10);refine dE.cut (λ_ _=>False) ?_ (λ_ _ _ h=>h.elim);show bB (.bool true) _ _;rw[dG];have hdb2:=hx10.at hdb id;simp only[dB,bE,bL,aI];refine ldb hdb2 (v:=i64 c) rfl ?_;refine ldb hdb2 (v:=i64 a) rfl ?_;exact mP (hMf0 (hx04.trans (hx6.trans hx10)) (hx10.at (hx6.at hbp5 id) id)) ((hbad c path a hR.symm).low hxw)
 rw[hpl]at hR;simp only at hR;have hfa:=BP hpl hfew;simp only[bY];refine⟨_,rfl,_,rfl,?_⟩;have hz3':w3.drew.heap.size=w3.heap.size:=rfl;have hz4:=hx4.size;have hz6:=hx6.size;refine cK λb10 w9 hb10 hz9 hbb10 hx9=>?_;have o1:=fV hF6.oE.sl;have o2:=fV hF6.oB.sl;have o3:=fV hF6.oT.sl;have hone3:([M.vE,M.vB,M.vT]:List Value).all jM=true:=by
  show(jM M.vE&&(jM M.vB&&(jM M.vT&&true)))=true;rw[o1,o2,o3];rfl
 refine cY (l:=[M.vE,M.vB,M.vT]) hbb10 rfl rfl hone3 λw10 hz10 hbb10 hc10=>?_;have hx10:Ext w6 w10:=hx9.new hc10 (by omega);refine dE.cut (λst w'=>st=[]/\w'=w10) ?_ ?_
 ·show bB (.bool false) _ _;rw[bQ];exact⟨by trivial,by trivial⟩
 rintro st g2 w11 ⟨rfl,rfl⟩;refine gF hbb10 rfl ?_;simp only[dB,bE,bL,aI];have hbp6:=hx10.at (hx6.at hbp5 id) id;refine OY (pre:=[str dir]) (old:=[.slice none 0 0,.slice none 0 0,.slice none 0 0]) (post:=[.slice none 0 0,.slice none 0 0,.slice none 0 0,.slice none 0 0,.slice none 0 0,str path,.slice none 0 0]) (new:=[M.vE,M.vB,M.vT]) hbp6 rfl rfl rfl hone3 λw12 hz12 hbp12 hc12=>?_;have hx012:Ext w w12:=(hx04.trans (hx6.trans hx10)).then hc12 λk hk e=>by have e:k=p:=e;omega
 have hbb12:=hc12.at hbb10 (by omega);have hF12:FO w12 w5.heap.size M fl:=(hF6.keep hx10 λ_ _ _ _ e=>e).keep hc12 λk h1 _ _ e=>by have e:k=p:=e;omega
 letI:FK:=⟨λk o=>k=b10/\o=.cells [M.vE,M.vB,M.vT].toArray FlT (0,0)⟩;generalize hs0:(⟨⟨dir,fl,[],[],[],[],[]⟩,[]⟩:MS)=s0 at hR;have hm12:MR w w12 p ⟨M,.slice none 0 0,.slice none 0 0,.slice none 0 0,.slice none 0 0,.slice none 0 0,[],[]⟩ (.slice none 0 0) path s0:=by
  rw[<-hs0];have hup:∀k∈ub ([M.vE,M.vB,M.vT]++(M.cE++M.cB)),k<w6.heap.size/\w5.heap.size<=k:=λk hk=>⟨hF6.lt k hk,hF6.lo k hk⟩;refine⟨hx012,hbp12,⟨hF12.low (by omega),rJ _ _ _ _,rJ _ _ _ _,rJ _ _ _ _,rJ _ _ _ _,rJ _ _ _ _,kO.nil _ _,kO.nil _ _,λk hk=>?_⟩,rJ _ _ _ _,?_,by omega,?_⟩
  ·rw[GH]at hk;have:=hup k hk;omega
  ·show(p::([]++ub (ML.vals _))).Nodup;rw[GH,gB];exact dK.2 ⟨λhk=>by have:=hup p hk;omega,hF6.nd⟩
  ·rintro k o ⟨rfl,rfl⟩;refine⟨hbb12,λhk=>?_⟩;have hk:k∈p::([]++ub (ML.vals _)):=hk;rw[GH,gB]at hk;rcases bC.1 hk with e|hk
   ·omega
   ·have:=hup k hk;omega
 refine ldb hbb12 (v:=M.vT) rfl ?_;rw[eO hF12.oT.sl];have hL12:=hL.ext hx012;generalize hQ:lL fl.top s0=Q at hR;refine dL.go (λst w'=>∃(i:Nat) (s1:MS) (L:ML) (vS:Value),st=[i64 (i:Nat)]/\i<=fl.top.length/\MR w w' p L vS path s1/\L.M=M/\s1.m.fl=fl/\s1.m.dir=dir/\BdS s1 i/\lL (fl.top.drop i) s1=Q)
  (λst _=>match st with|[.int _ i]=>fl.top.length-i.toNat|_=>0) ⟨0,s0,_,_,rfl,dU _,hm12,rfl,by rw[<-hs0],by rw[<-hs0],by rw[<-hs0];exact⟨aZ _,dU _,aZ _,aZ _,aZ _,aZ _⟩,hQ⟩ ?_
 rintro st g3 w16 ⟨i,s1,L,vS,rfl,hi,hm16,hLM,hsf,hsd,hbds,hq⟩;have hb16:w16.heap[b10]?=some (.cells [M.vE,M.vB,M.vT].toArray FlT (0,0)):=(hm16.fk b10 _ ⟨rfl,rfl⟩).1;have hF16:FO w16 w.heap.size M fl:=by have:=hm16.md.fo;rw[hLM,hsf]at this;exact this
 simp only[aC];rw[dI,bD];refine⟨λhlt=>?_,λhge=>?_⟩
 ·have hlt:i<fl.top.length:=by omega
  obtain⟨k,hk⟩:∃k,fl.top[i]?=some k:=⟨_,aG hlt⟩;have hkl:=hfa.top k (bI hk);rw[eB hlt]at hq;have hk':=hk;rw[aG hlt]at hk';injection hk' with hk'
  rw[hk']at hq;simp only[lL,hsf]at hq;refine mR (i:=i) (x:=i64 (k:Nat)) hF16.oT.sl (by rw[tL];omega) (by unfold ints;rw[fO,hk];rfl) ?_;refine ldb hb16 (v:=M.vB) rfl ?_;refine lZ hF16.oB.sl hF16.bb.1 (by omega) hkl ?_;have:=Om (k:=k) (n:=i) (K:=λ_ w17=>aS .add (i64 (i:Nat)) (.int .i64 1) λt84=>(∃(i:Nat) (s1:MS) (L:ML) (vS:Value),[t84]=[i64 (i:Nat)]/\i<=fl.top.length/\MR w w17 p L vS path s1/\L.M=M/\s1.m.fl=fl/\s1.m.dir=dir/\BdS s1 i/\lL (fl.top.drop i) s1=Q)/\(match([t84]:List Value)with|[.int _ i]=>fl.top.length-i.toNat|_=>0)<(match([i64 (i:Nat)]:List Value)with|[.int _ i]=>fl.top.length-i.toNat|_=>0))
   hm16 (by rw[hsf,hLM];exact hfa.fa M) (by rw[hsf];exact hkl) hbds (by omega) (by rw[hsf];exact hfa.ll k hkl)
   (λs' L' vS' w17 hb' hM' hm17=>?_) (λc a hb'=>?_)
  ·rw[hLM]at this;exact this
  ·rw[hsf]at hb';obtain⟨b1,b2,b3⟩:=Iy hbds ((hfa.fa M).fa k hkl) hb';rw[hb']at hq;rw[cJ,upi (by omega)];exact⟨⟨i+1,s',L',vS',rfl,by omega,hm17,hM'.trans hLM,b2.trans hsf,b3.trans hsd,b1,hq⟩,by simp only[aV];omega⟩
  ·rw[hsf]at hb';rw[hb']at hq;have hq:RC.bad c a=Q:=hq;rw[<-hq]at hR;exact(hbad c path a hR.symm).low hxw
 ·obtain rfl:i=fl.top.length:=by omega
  rw[gU]at hq;simp only[lL]at hq;rw[<-hq]at hR hQ;simp only at hR;have hM0:=(Am fl.top s0 s1 (by rw[<-hs0];exact Kk _ _) (by rw[<-hs0];exact hfa.aok) hQ).1;have hsn:∀x∈s1.src,x.length<=32:=λx hx=>Nt (Ew (dir:=dir) (by rw[hs0];exact hQ) x hx);have hL16:=hL.ext hm16.ch;refine ldb hL16.hl (v:=vM) rfl ?_;rw[eO hL16.ow.sl];refine ldb hL16.hl (v:=vM) rfl ?_;refine hL16.push (by have:=hm16.ch.size;omega) (by omega) λvM1 w21 hL21 hc21 hn21=>?_;have hcp:=(CP.of hm16 hL hbase).child hL21 hc21 hn21 λL' hL' k hk=>by
   rcases bK.1 hL' with h|h
   ·exact .inl ⟨L',h,hk⟩
   ·rw[bX.1 h,Gt]at hk;cases hk
  have hcl2:s1.m.calls.length<=1000000:=by have:=hbds.2.2.2.2.1;have:=hfew.2.2;omega
  refine Sp hsub hxw hL hcp hd hM0.sl hcl2 hsn (by rw[aP];show _+1<=16;omega) (by omega) (λcs mods' L' vM' Ls' w23 hcall hcp2 hml=>?_) (λc q a hcall=>?_)
  ·rw[hcall]at hR;simp only at hR;have hml2:mods.length<mods'.length:=by rw[aP]at hml;have:([Ab]:List Md).length=1:=rfl;omega
   have hcp3:=hcp2.ext (cQ w23);generalize w23.drew=w24 at hcp3;refine ldb hcp3.lr.hl (v:=vM') rfl ?_;refine WH (l:=L'.cells s1.m.dir) hcp3.pm rfl ?_;have h1:(L'.cells s1.m.dir).all jM=true:=by
    have hd:=hcp3.md;simp only[ML.cells,wM,Ei,fV hd.fo.oE.sl,fV hd.fo.oB.sl,fV hd.fo.oT.sl,fV hd.oV.sl,fV hd.oL.sl,fV hd.oO.sl,fV hd.oR.sl,fV hd.oC.sl];rfl
   refine hcp3.lr.store (i:=mods.length) (L:=L') (m:={s1.m with calls:=cs}) hml2 (hcp3.md.low hbase) (λk hk=>?_) h1 λw49 hL49 hc49=>?_
   ·have:=hcp3.vn k (by simp[usM,hk]);exact⟨this.1,this.2.1⟩
   ·refine hok _ _ vM' w49 hR.symm hL49 (hcp3.cg.then hc49 λk hk e=>?_) hcp3.nw λL2 hL2 k hk=>?_
    ·rcases e with e|e
     ·exact .inl e
     ·exact .inr ((hcp3.nw k e).resolve_right (by omega))
    ·rcases qB hL2 with h|rfl
     ·exact hcp3.ls L2 h k hk
     ·exact .inr (hcp3.md.lt k hk).2
  ·rw[hcall]at hR;exact hbad c q a hR.symm
end
end
end Go.Proofs.YtjblfcfdeaagpaaGreatDoor
namespace Go.Proofs
section
open Go.Shelf
variable{w:World}{K:Q0}{cs:List Value}{G:Nat->Prop}{T:TypeId}{i:Nat}{n:Nat}{v:Value}{w':World}{P:Program}{c:UInt8}{S:Nat->Prop}
def Tryz.laysM316_ren:Go.Shelf.Ren:=⟨λ|316=>100|n=>n,λ|9=>9|3=>3|4=>4|37=>80|0=>0|127=>168|5=>5|n=>n,λ|n=>n⟩
theorem Tryz.laysM316:Go.Proofs.LaysM.n316 P0 Tryz.laysM316_ren:={
 mixed:=by kernel_rfl
 f316:=Tryz.func100.trans (congrArg some (by kernel_rfl))
 t0:=Tryz.underlying0
 a0:=Tryz.isAgg0
 z0:=Tryz.sizeOf0
 v0:=Tryz.zeroValue0
 t3:=Tryz.underlying3
 a3:=Tryz.isAgg3
 z3:=Tryz.sizeOf3
 v3:=Tryz.zeroValue3
 t4:=Tryz.underlying4
 a4:=Tryz.isAgg4
 z4:=Tryz.sizeOf4
 v4:=Tryz.zeroValue4
 t9:=Tryz.underlying9
 a9:=Tryz.isAgg9
 z9:=Tryz.sizeOf9
 v9:=Tryz.zeroValue9
 t37:=Tryz.underlying80
 a37:=Tryz.isAgg80
 z37:=Tryz.sizeOf80
 v37:=Tryz.zeroValue80
 t127:=Tryz.underlying168
 a127:=Tryz.isAgg168
 z127:=Tryz.sizeOf168
 v127:=Tryz.zeroValue168
 t5:=Tryz.underlying5
 a5:=Tryz.isAgg5
 z5:=Tryz.sizeOf5
 v5:=Tryz.zeroValue5
 i0:=by kernel_rfl
 i3:=by kernel_rfl
 i4:=by kernel_rfl
 i5:=by kernel_rfl
 i9:=by kernel_rfl
 i37:=by kernel_rfl
 i127:=by kernel_rfl}
open Go.RowKit in
theorem Tryz.stringslite_Clone(s:ByteArray)(w:World)(hlim:s.size<=281474976710656):
 Calls P0 100 #[.string s] w λe w'=>e=.returned (.string s)/\Below w.heap.size w w':=Any.stringslite_Clone Tryz.laysM316 s w hlim
end
end Go.Proofs
namespace Go.Proofs.YtjblfcfdeaagpaaGreatDoor
section
open Go Go.Eng Go.RowKit Go.Syn Go.Lex Go.Cfg
variable{w:World}{K:Q0}{cs:List Value}{G:Nat->Prop}{T:TypeId}{i:Nat}{n:Nat}{v:Value}{w':World}{P:Program}{c:UInt8}{S:Nat->Prop}
theorem EW(t:Str)(fl:Fl)(h:pO t=.ok fl):AOk fl:=by
 have hp:=BX t;rw[h]at hp;obtain⟨_,f1,_⟩:=hp;have hlx:(exL fl.ex).length=fl.ex.length:=by simp[exL]
 intro b hb a ha;have:=f1.low a.e (by unfold zU;exact List.mem_flatMap.2 ⟨b,hb,gE.2 ⟨a,ha,rfl⟩⟩);rw[hlx]at this;exact this
theorem Lt{a b:Value}{K:World->Prop}(hK:K w):wX P0 50 [a,b] .returning w K:=by
 letI:=noX;refine OG .idle ?_;unfold R50;rw[HH,bQ];exact hK
theorem Hp{a b d:Nat}{u:Value}{Ta Tb:TypeId}{K:World->Prop}(ha:w.heap[a]?=some (.cells [u].toArray Ta (0,0)))(hb:w.heap[b]?=some (.cells [v].toArray Tb (0,0)))(hab:a≠b)
  (hK:∀w',Chg (λk=>k=a\/k=b) w w'->w'.heap[a]?=some (.cells [.slice none 0 0].toArray Ta (0,0))->w'.heap[b]?=some (.cells [.pointer (some ⟨d,0,none⟩)].toArray Tb (0,0))->K w'):
  wX P0 50 [.pointer (some ⟨a,0,none⟩),.pointer (some ⟨b,0,none⟩)] (.panicking [{v:=.iface DgI (.pointer (some ⟨d,0,none⟩)),recovered:=false}]) w K:=by
 letI:=noX;refine OG (.thrown _) ?_;unfold R50;rw[Dd,dG,dN];refine⟨_,CG _ _,?_⟩;refine cY (l:=[.slice none 0 0]) (w:=w.drew) ha rfl rfl rfl λw2 hz2 ha2 hc2=>?_;refine⟨⟨_,CG _ _,rfl⟩,?_⟩;have hb2:=hc2.at (w:=w.drew) hb (λe=>hab e.symm);refine kQ hb2 rfl (by simp) λw3 hz3 hb3 hc3=>?_;refine hK w3 ?_ (hc3.at ha2 hab) (by rw[hb3];simp);exact((Chg.drew (Chg.refl _ w)).trans (hc2.mono λk _ e=>.inl e)).trans (hc3.mono λk _ e=>.inr e)
structure CfR(w:World)(B:Nat)(v:Value)(Ls:List ML)(mods:List Md):Prop where
 len:Ls.length=mods.length
 ow:Own w B MdT 9 v mods.length (mdC Ls mods)
 md:∀(i:Nat) (L:ML) (m:Md),Ls[i]?=some L->mods[i]?=some m->MdR w B L m
theorem CfR.ext{B:Nat}{Ls:List ML}{mods:List Md}(h:CfR w B v Ls mods)(hx:Ext w w'):CfR w' B v Ls mods:=
 ⟨h.len,eG h.ow hx λ_ _ e=>e,λi L m hL hm=>(h.md i L m hL hm).keep hx λ_ _ e=>e⟩
theorem CfR.keep{B:Nat}{Ls:List ML}{mods:List Md}(h:CfR w B v Ls mods)(hc:Chg S w w')(h1:∀k,v.ownBlock=some k->¬S k)(h2:∀L∈Ls,∀k∈ub L.vals,¬S k):CfR w' B v Ls mods:=
 ⟨h.len,eG h.ow hc h1,λi L m hL hm=>(h.md i L m hL hm).keep hc (h2 L (bI hL))⟩
theorem CfR.in_{B:Nat}{Ls:List ML}{mods:List Md}(h:CfR w B v Ls mods):(∀k,v.ownBlock=some k->B<=k)/\∀L∈Ls,∀k∈ub L.vals,B<=k:=by
 refine⟨λk hk=>(kJ h.ow hk).2,λL hL k hk=>?_⟩;obtain⟨i,hi⟩:=tP hL;have hil:=(bS.1 hi).1;exact((h.md i L _ hi (aG (by rw[<-h.len];exact hil))).lt k hk).2
theorem CfR.low{B B':Nat}{Ls:List ML}{mods:List Md}(h:CfR w B v Ls mods)(hb:B'<=B):CfR w B' v Ls mods:=
 ⟨h.len,h.ow.base hb,λi L m hL hm=>(h.md i L m hL hm).low hb⟩
section
variable [HX]
theorem HL{w00:World}{fb fm:Nat}{fs:Vfs.MS}(hT:TabI w00)(hfs:Fx.FsB w00 fb fm fs)(hfo:Vfs.Ok fs):∀n,n<=4->LdC w00 fb fs (4-n) (rD (rdF fs) n)
 |0,_=>ND hT hfs hfo (by omega) (.inl ⟨rfl,rfl⟩)
 |n+1,hn=>by
  refine ND (sub:=some (rD (rdF fs) n)) hT hfs hfo (by omega) (.inr ⟨by omega,_,rfl,?_,Kn EW n⟩)
  have:=HL hT hfs hfo n (by omega)
  rw[show 4-(n+1)+1=4-n by omega]
  exact this
theorem Oj{K:Q0}(hK:∀w',Ext w w'->K (str []) w'):aJ P0 52 [str []] w K:=by
 refine XI ?_;unfold W52;refine lN (args:=#[str []]) Tryz.call100 ((Tryz.stringslite_Clone (ofL []) w (by rw[jV];decide)).mono ?_);rintro e w' ⟨rfl,hb⟩;exact⟨_,rfl,hK w' (Chg.of_below hb)⟩
end
theorem By[HX]{fb fm:Nat}{fs:Vfs.MS}{K:Q0}(hT:TabI w)(hfs:Fx.FsB w fb fm fs)(hfo:Vfs.Ok fs)
  (hok:∀mods,rD (rdF fs) 4 [] []=.ok mods->∀v Ls w',Ext w w'->CfR w' w.heap.size v Ls mods->K (.tuple #[.agg [v].toArray,.pointer none]) w')
  (hbad:∀c p a,rD (rdF fs) 4 [] []=.bad c p a->∀d w',Ext w w'->w.heap.size<=d->w'.heap[d]?=some (.cells [i64 c,str p,i64 a].toArray 48 (0,0))->K (.tuple #[.agg [.slice none 0 0].toArray,.pointer (some ⟨d,0,none⟩)]) w'):
  aJ P0 20 [pA fb,str []] w K:=by
 refine XY ?_;unfold W20;refine cK λba w1 ha hz1 hba1 hx1=>?_;refine cK λbd w2 hbd hz2 hbd2 hx2=>?_;have hx02:=hx1.trans hx2;have hba2:=hx2.at hba1 id;letI inst:HX:=⟨λch x3=>wX P0 50 [.pointer (some ⟨ba,0,none⟩),.pointer (some ⟨bd,0,none⟩)] (.panicking ch) x3 λw3=>
  ldW true 1 (.pointer (some ⟨ba,0,none⟩)) w3 λr4=>
  ldW false 1 (.pointer (some ⟨bd,0,none⟩)) w3 λr5=>
  K (.tuple #[r4,r5]) w3⟩
 have hThr:∀c p a,rD (rdF fs) 4 [] []=.bad c p a->TC w2 p c a:=by
  intro c p a hb d w' hx hd hdb;refine Hp (hx.at hba2 id) (hx.at hbd2 id) (by omega) λw5 hc5 ha5 hb5=>?_;refine gF ha5 rfl ?_;refine⟨_,by rw[cM,hb5];rfl,?_⟩;have hz2':w2.heap.size<=d:=hd;refine hbad c p a hb d w5 ((hx02.trans hx).then hc5 λk hk e=>by omega) (by omega) (hc5.at hdb (by show¬(d=ba\/d=bd);omega))
 have hT2:TabI w2:=pU hT hx02;have hL:=HL hT2 (hfs.ext hx02) hfo 4 (by omega);simp only[iJ,dN,aB,aK,aM,aQ];refine⟨by omega,?_⟩;refine fZ (z:=[pA fb,.slice none 0 0]) λlp w7 hlp hz7 hlb hx7=>?_;refine Oj λw8 hx8=>?_;have hx28:=hx7.trans hx8;have hz28:=hx8.size;have hLR:LR w8 w2.heap.size lp fb (.slice none 0 0) [] []:=
  ⟨hx8.at hlb id,rfl,rJ _ _ _ _,λi L m h=>(by simp at h),λL h=>(by cases h),λe=>(by cases e),by omega⟩
 refine hL [] [] w8 lp (.slice none 0 0) [] _ hx28 hLR (by simp) (by simp) (λmods' Ls' vM' w9 hl hLR9 hc9 hn9 hs9=>?_) (λc p a hb=>hThr c p a hb);have hlo:∀k,k<w2.heap.size->¬LT lp (.slice none 0 0) k:=λk hk e=>e.elim (λe=>by omega) (λe=>by cases e);have hba9:=hc9.at (hx28.at hba2 id) (hlo ba (mB hba2));have hbd9:=hc9.at (hx28.at hbd2 id) (hlo bd (mB hbd2));have hx29:Ext w2 w9:=hx28.then hc9 λk hk e=>(hlo k hk e).elim;simp only[dB,bE,bL,aI];refine ldb hLR9.hl (v:=vM') rfl ?_;obtain⟨q,cap,ev,_⟩:=hLR9.ow.sl.shape;have ho:=hLR9.ow;rw[ev]at ho⊢;simp only[eP,dN,aB,aK,aM];refine⟨by omega,?_⟩;refine cY (l:=[.slice q mods'.length cap]) hba9 rfl rfl rfl λw11 hz11 hba11 hc11=>?_;have hbd11:=hc11.at hbd9 (by omega);refine kQ hbd11 rfl (by simp) λw12 hz12 hbd12 hc12=>?_;have hba12:=hc12.at hba11 (by omega);refine Lt ?_;refine gF hba12 rfl ?_;refine ldb (cs:=[.pointer none]) (T:=29) (by rw[hbd12];simp) (v:=.pointer none) rfl ?_;have hC9:CfR w9 w2.heap.size (.slice q mods'.length cap) Ls' mods':=⟨hLR9.len,ho,hLR9.md⟩;have c2:Chg (λk=>k=ba\/k=bd) w9 w12:=(hc11.mono λ_ _ e=>.inl e).trans (hc12.mono λ_ _ e=>.inr e);have hl2:=mB hba2;have hl3:=mB hbd2;refine hok mods' hl _ Ls' w12 ((hx02.trans hx29).then c2 λk hk e=>by omega) ((hC9.keep c2 (λk hk e=>?_) (λL hL k hk e=>?_)).low hx02.size)
 ·have:=hC9.in_.1 k hk;omega
 ·have:=hC9.in_.2 L hL k hk;omega
end
end Go.Proofs.YtjblfcfdeaagpaaGreatDoor
namespace Go.Proofs.YtjblfcfdeaagpaaGreatDoor.Fx
section
open Go Go.Eng Go.Vfs
variable{w:World}{K:Q0}{cs:List Value}{G:Nat->Prop}{T:TypeId}{i:Nat}{n:Nat}{v:Value}{w':World}{P:Program}{c:UInt8}{S:Nat->Prop}
abbrev RT:TypeId:=173
abbrev fc(y:Str×MF):List Value:=[str y.1,str y.2.data,str y.2.safe,.bool y.2.saved]
def fcs(l:Files):List Value:=l.flatMap fc
theorem Sa(l:Files):(fcs l).length=l.length*4:=by
 induction l with
 |nil=>rfl
 |cons y r ih=>simp only[fcs,gL,aP,aB,aK]at ih⊢;omega
theorem Sb(a b:Files):fcs (a++b)=fcs a++fcs b:=by simp[fcs]
theorem Kx:∀(l:Files) (i j:Nat) (y:Str×MF),j<4->l[i]?=some y->(fcs l)[i*4+j]?=(fc y)[j]?
 |[],i,_,_,_,h=>by simp at h
 |z::r,0,j,y,hj,h=>by
  simp only[bG,bA]at h
  subst h
  simp only[fcs,gL,Ef,aI]
  rw[fQ (by simpa using hj)]
 |z::r,i+1,j,y,hj,h=>by
  simp only[bF]at h
  have:=Kx r i j y hj h
  rw[<-this]
  simp only[fcs,gL]
  rw[fU (by simp;omega)]
  congr 1
  simp
  omega
theorem RZ(l:Files):∀u∈fcs l,jM u=true:=by
 intro u hu;obtain⟨y,_,hy⟩:=List.mem_flatMap.1 hu;simp only[fc,bC,cA,gG]at hy;rcases hy with rfl|rfl|rfl|rfl<;>rfl
abbrev FsL(w:World)(v:Value)(l:Files):Prop:=SlAt w RT v l.length (fcs l)
theorem WV:qW P0 53 RT 4 56:=⟨by kernel_rfl,by kernel_rfl,by decide⟩
theorem ixf{l:Files}{y:Str×MF}{K:Value->Prop}(h:FsL w v l)(hi:l[i]?=some y)
  (hK:∀b o c fr,w.heap[b]?=some (.cells c RT fr)->c[o]?=some (str y.1)->c[o+1]?=some (str y.2.data)->c[o+2]?=some (str y.2.safe)->c[o+3]?=some (.bool y.2.saved)->K (.pointer (some ⟨b,o,none⟩))):fK none 4 v (i64 i) K:=by
 refine Bz (size:=4) h (Sa l) (by omega) (bS.1 hi).1 λb o c fr hb hc=>?_;have g:=λj (hj:j<4)=>(hc j hj).trans (Kx l i j y hj hi);exact hK b o c fr hb (g 0 (by omega)) (g 1 (by omega)) (g 2 (by omega)) (g 3 (by omega))
theorem yL{z l:List Value}{K:List Value->Prop}(hz:z.length=n)(hl:l.length=n)(hK:K l):jS z [(0,n,.agg l.toArray)] K:=by
 refine⟨by simp[Value.cells,hl],by omega,?_⟩;have:List.take 0 z++((Value.agg l.toArray).cells.toList++List.drop (0+n) z)=l:=by
  rw[aI,iI (by omega)];simp[Value.cells]
 rw[this];exact hK
theorem Ke(w:World)(base:Nat):Own w base RT 4 (.slice none 0 0) 0 (fcs []):=⟨rfl,.inl ⟨rfl,rfl⟩⟩
theorem vG{base:Nat}{l:Files}{y:Str×MF}{K:Q0}(h:Own w base RT 4 v l.length (fcs l))(hb:base<=w.heap.size)(hl:l.length<=1000000)
  (hK:∀v' w',Own w' base RT 4 v' (l++[y]).length (fcs (l++[y]))->Chg (En w base RT) w w'->K v' w'):
  fY P0 (Builtin.append_ #[53,53] 53 #[v,.slice (some ⟨w.heap.size,0,none⟩) 1 1]) (w.alloc (.cells (fc y).toArray RT)) K:=by
 have hx:Ext w (w.alloc (.cells (fc y).toArray RT)):=(by repeat (first|assumption|exact Chg.refl _ _|refine Chg.drew ?_|refine Chg.alloc ?_ _|refine Chg.set ?_ (by first|exact .inl rfl|exact .inr (by omega)|exact .inr (by simp only[dT,size_alloc,size_drew];omega)|(left;simp;done)) _|exact Chg.of_ext (by assumption)));have hs:=(AK (w:=w) (base:=base) (e:=RT) (size:=4) (n:=1) (cs:=fc y) hb rfl (by omega)).sl;refine DZ WV (base:=base) (h.ext hx) hs (m:=1) rfl (λu hu=>RZ [y] u (by simpa[fcs]using hu)) (by omega) (by omega) (by rw[size_alloc];omega) λv' w' h' hc _=>?_;refine hK v' w' ?_ (Chg.then (S:=En w base RT) (Chg.of_ext hx) hc ?_)
 ·rw[Sb,aP];have:fcs [y]=fc y:=by simp[fcs]
  rw[this];exact h'
 ·rintro k hk ⟨h1,c,h2⟩;exact⟨h1,c,by rw[BB _ _ _ (by omega)]at h2;exact h2⟩
theorem Dx(p:Str):good p=(!p.any badB&&(decide (1<=p.length)&&decide (p.length<=64))):=by
 unfold good;cases p.any badB<;>simp
theorem LU[HX]{p:Str}{K:Q0}(hp:p.length<=9223372036854775807)(hK:K (.bool (good p)) w):aJ P0 90 [str p] w K:=by
 refine Xo ?_;unfold W90;refine dL.go (λst w'=>∃i,i<=p.length/\st=[i64 (i:Nat)]/\w'=w/\(p.take i).any badB=false) (λst _=>match st with|[.int _ i]=>p.length-i.toNat|_=>0) ⟨0,dU _,rfl,rfl,rfl⟩ ?_;rintro st g w' ⟨i,hi,rfl,rfl,hno⟩;simp(disch:=omega)only[wfx,kL,Nat.reduceLT,aO,aN,bV,aF,aH,aE,aA,Nat.reduceAdd,cV,reduceCtorEq,bJ,bD];refine⟨λhlt=>?_,λhge=>?_⟩
 ·have hlt:i<p.length:=by omega
  obtain⟨c,hc⟩:∃c,p[i]?=some c:=⟨_,aG hlt⟩;have hcs:∀{P:UInt8->Prop},P c->∃x,p[((i:Nat):Int).toNat]?=some x/\P x:=λh=>⟨c,by simpa using hc,h⟩;refine⟨by omega,c,by simpa using hc,?_⟩;have hbad:badB c=(decide (((c.toNat:Nat):Int)=0)||(decide (((c.toNat:Nat):Int)=10)||decide (((c.toNat:Nat):Int)=32))):=by
   have e:∀y:UInt8,(c==y)=decide (((c.toNat:Nat):Int)=y.toNat):=by
    intro y;rw[nX,iK,fN];constructor
    ·rintro rfl;rfl
    ·intro h;exact mL.1 (by omega)
   unfold badB;rw[e 0,e 10,e 32,Bool.or_assoc];rfl
  have hnext:(p.take (i+1)).any badB=badB c:=by
   rw[jT,hc,List.any_append,hno];simp
  have AU:badB c=true->good p=false:=by
   intro hb;rw[Dx];have:p.any badB=true:=mU.2 ⟨c,bI hc,hb⟩;simp[this]
  by_cases h0:((c.toNat:Nat):Int)=0
  ·have e0:decide (((c.toNat:Nat):Int)=0)=true:=bW h0;have hb:badB c=true:=by rw[hbad,e0];rfl
   (try simp(disch:=omega)only[wfx,kL,Nat.reduceLT,aO,aN,bV,aF,aH,aE,aA,Nat.reduceAdd,cV,reduceCtorEq,bJ,e0])
   refine GdW.f λg=>?_
   (try simp(disch:=omega)only[wfx,kL,Nat.reduceLT,aO,aN,bV,aF,aH,aE,aA,Nat.reduceAdd,cV,reduceCtorEq,bJ])
   refine GdW.f λg=>?_
   (try simp(disch:=omega)only[wfx,kL,Nat.reduceLT,aO,aN,bV,aF,aH,aE,aA,Nat.reduceAdd,cV,reduceCtorEq,bJ])
   rw[<-AU hb];exact hK
  ·have e0:decide (((c.toNat:Nat):Int)=0)=false:=bH h0
   (try simp(disch:=omega)only[wfx,kL,Nat.reduceLT,aO,aN,bV,aF,aH,aE,aA,Nat.reduceAdd,cV,reduceCtorEq,bJ,e0])
   refine GdW.t ?_
   (try simp(disch:=omega)only[wfx,kL,Nat.reduceLT,aO,aN,bV,aF,aH,aE,aA,Nat.reduceAdd,cV,reduceCtorEq,bJ])
   refine⟨by omega,c,by simpa using hc,?_⟩;intro g
   (try simp(disch:=omega)only[wfx,kL,Nat.reduceLT,aO,aN,bV,aF,aH,aE,aA,Nat.reduceAdd,cV,reduceCtorEq,bJ])
   by_cases h1:((c.toNat:Nat):Int)=10
   ·have e1:decide (((c.toNat:Nat):Int)=10)=true:=bW h1;have hb:badB c=true:=by rw[hbad,e1];simp
    (try simp(disch:=omega)only[wfx,kL,Nat.reduceLT,aO,aN,bV,aF,aH,aE,aA,Nat.reduceAdd,cV,reduceCtorEq,bJ,e1])
    refine GdW.f λg=>?_
    (try simp(disch:=omega)only[wfx,kL,Nat.reduceLT,aO,aN,bV,aF,aH,aE,aA,Nat.reduceAdd,cV,reduceCtorEq,bJ])
    rw[<-AU hb];exact hK
   ·have e1:decide (((c.toNat:Nat):Int)=10)=false:=bH h1
    (try simp(disch:=omega)only[wfx,kL,Nat.reduceLT,aO,aN,bV,aF,aH,aE,aA,Nat.reduceAdd,cV,reduceCtorEq,bJ,e1])
    refine GdW.t ?_
    (try simp(disch:=omega)only[wfx,kL,Nat.reduceLT,aO,aN,bV,aF,aH,aE,aA,Nat.reduceAdd,cV,reduceCtorEq,bJ])
    refine⟨by omega,c,by simpa using hc,?_⟩;intro g;by_cases h2:((c.toNat:Nat):Int)=32
    ·have e2:decide (((c.toNat:Nat):Int)=32)=true:=bW h2;have hb:badB c=true:=by rw[hbad,e2];simp
     (try simp(disch:=omega)only[wfx,kL,Nat.reduceLT,aO,aN,bV,aF,aH,aE,aA,Nat.reduceAdd,cV,reduceCtorEq,bJ,e2])
     rw[<-AU hb];exact hK
    ·have e2:decide (((c.toNat:Nat):Int)=32)=false:=bH h2;have hb:badB c=false:=by rw[hbad,e0,e1,e2];rfl
     (try simp(disch:=omega)only[wfx,kL,Nat.reduceLT,aO,aN,bV,aF,aH,aE,aA,Nat.reduceAdd,cV,reduceCtorEq,bJ,e2])
     have hw:IntKind.i64.wrap ((i:Int)+1)=((i+1:Nat):Int):=by rw[gI (by omega) (by omega)];simp
     rw[hw];exact⟨⟨i+1,by omega,rfl,by rw[hnext];exact hb⟩,by simp only[aV];omega⟩
 ·rw[iH (by omega)]at hno;by_cases h1:1<=p.length
  ·have e1:decide ((1:Int)<=(p.length:Int))=true:=bW (by omega)
   (try simp(disch:=omega)only[wfx,kL,Nat.reduceLT,aO,aN,bV,aF,aH,aE,aA,Nat.reduceAdd,cV,reduceCtorEq,bJ,e1])
   refine GdW.t ?_
   (try simp(disch:=omega)only[wfx,kL,Nat.reduceLT,aO,aN,bV,aF,aH,aE,aA,Nat.reduceAdd,cV,reduceCtorEq,bJ])
   intro g
   (try simp(disch:=omega)only[wfx,kL,Nat.reduceLT,aO,aN,bV,aF,aH,aE,aA,Nat.reduceAdd,cV,reduceCtorEq,bJ])
   have:good p=decide ((p.length:Int)<=64):=by
    rw[Dx,hno];simp only[cH,dS,h1,dF];rw[decide_eq_decide];omega
   rw[<-this];exact hK
  ·have e1:decide ((1:Int)<=(p.length:Int))=false:=bH (by omega)
   (try simp(disch:=omega)only[wfx,kL,Nat.reduceLT,aO,aN,bV,aF,aH,aE,aA,Nat.reduceAdd,cV,reduceCtorEq,bJ,e1])
   refine GdW.f λg=>?_
   (try simp(disch:=omega)only[wfx,kL,Nat.reduceLT,aO,aN,bV,aF,aH,aE,aA,Nat.reduceAdd,cV,reduceCtorEq,bJ])
   have:good p=false:=by rw[Dx];simp[h1]
   rw[<-this];exact hK
def RefV(w:World)(v:Value)(s:MS):Prop:=∃p c,v=.agg [.slice p s.files.length c,i64 s.steps,i64 s.left,.bool s.dead].toArray/\FsL w (.slice p s.files.length c) s.files
theorem RefV.chg{s:MS}(h:RefV w v s)(hc:Chg S w w')(hS:∀k c fr,S k->w.heap[k]?≠some (.cells c RT fr)):RefV w' v s:=by
 obtain⟨p,c,e,h⟩:=h;exact⟨p,c,e,h.chg hc hS⟩
theorem RefV.ext{s:MS}(h:RefV w v s)(hc:Ext w w'):RefV w' v s:=h.chg hc λ_ _ _ e=>e.elim
theorem NF(a b:Files)(p:Str):lkM (a++b) p=(lkM a p).or (lkM b p):=by
 induction a with
 |nil=>simp[lkM]
 |cons y r ih=>
  obtain⟨k,x⟩:=y;simp only[iC,lkM];split
  ·rfl
  ·exact ih
theorem Mu(a b:Files)(p:Str):wo (a++b) p=wo a p++wo b p:=by
 induction a with
 |nil=>rfl
 |cons y r ih=>
  obtain⟨k,x⟩:=y;simp only[iC,wo];split
  ·exact ih
  ·rw[ih];rfl
theorem WZ{l:Files}{y:Str×MF}(h:l[i]?=some y):l=l.take i++y::l.drop (i+1):=by
 have h1:l.drop i=y::l.drop (i+1):=by
  obtain⟨hi,e⟩:=bS.1 h;rw[eB hi,e]
 rw[<-h1,pM]
theorem yJ{l:Files}{y:Str×MF}(h:l[i]?=some y):l.take (i+1)=l.take i++[y]:=by rw[jT,h];rfl
theorem Sd[HX]{s:MS}{p:Str}{K:Q0}(h:RefV w v s)(hn:s.files.length<=64)
  (hK:∀r w',Ext w w'->((r=-1/\lkM s.files p=none)\/∃(i:Nat) (x:MF),r=(i:Int)/\s.files[i]?=some (p,x)/\lkM s.files p=some x)->K (i64 r) w'):aJ P0 89 [v,str p] w K:=by
 obtain⟨sp,sc,rfl,hl⟩:=h;refine Xp ?_;unfold W89;simp(disch:=omega)only[wfx,kL,Nat.reduceLT,aO,aN,bV,aF,aH,aE,aA,Nat.reduceAdd,cV,reduceCtorEq,bJ];generalize hw1:(World.alloc _ _)=w1;have hx:Ext w w1:=by subst hw1;exact(by repeat (first|assumption|exact Chg.refl _ _|refine Chg.drew ?_|refine Chg.alloc ?_ _|refine Chg.set ?_ (by first|exact .inl rfl|exact .inr (by omega)|exact .inr (by simp only[dT,size_alloc,size_drew];omega)|(left;simp;done)) _|exact Chg.of_ext (by assumption)))
 have hbl:w1.heap[w.heap.size]?=some (.cells #[.slice sp s.files.length sc,i64 s.steps,i64 s.left,.bool s.dead] 55 (0,0)):=by subst hw1;simp(disch:=omega)only[wfx,kL,Nat.reduceLT,aO,aN,bV,aF,aH,aE,aA,Nat.reduceAdd,cV,reduceCtorEq,bJ]
 clear hw1;refine dL.go (λst w'=>∃i,i<=s.files.length/\st=[i64 (i:Nat)]/\w'=w1/\lkM (s.files.take i) p=none) (λst _=>match st with|[.int _ i]=>s.files.length-i.toNat|_=>0) ⟨0,dU _,rfl,rfl,rfl⟩ ?_;rintro st g w' ⟨i,hi,rfl,rfl,hno⟩;simp(disch:=omega)only[wfx,kL,Nat.reduceLT,aO,aN,bV,aF,aH,aE,aA,Nat.reduceAdd,cV,reduceCtorEq,bJ,bD,hbl];refine⟨λhlt=>?_,λhge=>?_⟩
 ·have hlt:i<s.files.length:=by omega
  obtain⟨⟨q,x⟩,hget⟩:∃y,s.files[i]?=some y:=⟨_,aG hlt⟩;refine ixf (hl.ext hx) hget λb o c fr hb h0 _ _ _=>?_;simp(disch:=omega)only[wfx,kL,Nat.reduceLT,aO,aN,bV,aF,aH,aE,aA,Nat.reduceAdd,cV,reduceCtorEq,bJ,hb,h0,bD];refine⟨λhq=>?_,λhq=>?_⟩
  ·subst hq;refine hK _ _ hx (.inr ⟨i,x,rfl,hget,?_⟩);rw[WZ hget,NF,hno];simp[lkM]
  ·have hw:IntKind.i64.wrap ((i:Int)+1)=((i+1:Nat):Int):=by rw[gI (by omega) (by omega)];simp
   rw[hw];refine⟨⟨i+1,by omega,rfl,?_⟩,by simp only[aV];omega⟩;rw[yJ hget,NF,hno];simp[lkM,hq]
 ·rw[iH (by omega)]at hno;exact hK _ _ hx (.inl ⟨rfl,hno⟩)
theorem GT[HX]{l:Files}{p:Str}{K:Q0}(h:FsL w v l)(hn:l.length<=100)
  (hK:∀v' w',FsL w' v' (wo l p)->Ext w w'->K v' w'):aJ P0 132 [v,str p] w K:=by
 refine Uf ?_;unfold aAs;rw[eO h];refine dL.go (λst w'=>∃i u,i<=l.length/\st=[u,i64 (i:Nat)]/\Own w' w.heap.size RT 4 u (wo (l.take i) p).length (fcs (wo (l.take i) p))/\Ext w w') (λst _=>match st with|[_,.int _ i]=>l.length-i.toNat|_=>0)
  ⟨0,_,dU _,rfl,Ke _ _,Chg.refl _ _⟩ ?_
 rintro st g w' ⟨i,u,hi,rfl,hu,hx⟩;have hl':=SlAt.ext h hx;simp(disch:=omega)only[wfx,kL,Nat.reduceLT,aO,aN,bV,aF,aH,aE,aA,Nat.reduceAdd,cV,reduceCtorEq,bJ,bD];refine⟨λhlt=>?_,λhge=>?_⟩
 ·have hlt:i<l.length:=by omega
  obtain⟨⟨q,x⟩,hget⟩:∃y,l[i]?=some y:=⟨_,aG hlt⟩;have hwl:(wo (l.take i) p).length<=100:=by have:=(wo_sub (l.take i) p).length_le;rw[cO]at this;omega
  refine dE.cut (λs3 w3=>∃u,s3=[u]/\Own w3 w.heap.size RT 4 u (wo (l.take (i+1)) p).length (fcs (wo (l.take (i+1)) p))/\Ext w w3) ?_ ?_
  ·refine ixf hl' hget λb o c fr hb h0 _ _ _=>?_;simp(disch:=omega)only[wfx,kL,Nat.reduceLT,aO,aN,bV,aF,aH,aE,aA,Nat.reduceAdd,cV,reduceCtorEq,bJ,hb,h0,bD];refine⟨λhq=>?_,λhq=>?_⟩
   ·refine ixf hl' hget λb o c fr hb h0 h1 h2 h3=>?_;simp(disch:=omega)only[wfx,kL,Nat.reduceLT,aO,aN,bV,aF,aH,aE,aA,Nat.reduceAdd,cV,reduceCtorEq,bJ,hb,h0,h1,h2,h3];refine yL rfl rfl ?_;refine vG (y:=(q,x)) hu (by have:=hx.size;omega) (by omega) λu' w3 hu' hc=>?_;refine⟨u',rfl,?_,hx.then hc λk hk e=>by have:=e.1;omega⟩;rw[yJ hget,Mu];simp only[wo,aL hq];exact hu'
   ·have hq:q=p:=by simpa using hq
    refine⟨u,rfl,?_,hx⟩;rw[yJ hget,Mu];simp only[wo,aU hq,fX];exact hu
  ·rintro s3 g3 w3 ⟨u',rfl,hu',hx'⟩;have hw:IntKind.i64.wrap ((i:Int)+1)=((i+1:Nat):Int):=by rw[gI (by omega) (by omega)];simp
   simp(disch:=omega)only[wfx,kL,Nat.reduceLT,aO,aN,bV,aF,aH,aE,aA,Nat.reduceAdd,cV,reduceCtorEq,bJ,hw];exact⟨⟨i+1,u',by omega,rfl,hu',hx'⟩,by simp only[aV];omega⟩
 ·rw[iH (by omega)]at hu;exact hK _ _ hu.sl hx
theorem Dq(a b:Files)(p:Str)(x:MF)(h:∀y∈a,Op.bytesLess p y.1=false):ins (a++b) p x=a++ins b p x:=by
 induction a with
 |nil=>rfl
 |cons y r ih=>
  obtain⟨k,u⟩:=y;have:=h _ aW;simp only[iC,ins,this,mV,qY];rw[ih λz hz=>h z (aD _ hz)]
theorem HS(a b:Files)(p:Str)(x:MF)(h:∃y∈a,Op.bytesLess p y.1=true):ins (a++b) p x=ins a p x++b:=by
 induction a with
 |nil=>obtain⟨y,hy,_⟩:=h;cases hy
 |cons y r ih=>
  obtain⟨k,u⟩:=y;simp only[iC,ins];split
  ·rfl
  ·rename_i hn;obtain⟨z,hz,hlt⟩:=h;rcases bC.1 hz with rfl|hz
   ·exact absurd hlt hn
   ·rw[ih ⟨z,hz,hlt⟩];rfl
theorem NR(a:Files)(p:Str)(x:MF)(h:∀y∈a,Op.bytesLess p y.1=false):ins a p x=a++[(p,x)]:=by
 have:=Dq a [] p x h;simpa[ins]using this
theorem RE{s:Nat}{i:Value}{Φ:Value->Prop}(h:fK none s v i Φ):∃x,Φ x/\∀K:Value->Prop,K x->fK none s v i K:=by
 unfold fK at h⊢;split at h
 all_goals first
  |exact h.elim
  |exact⟨_,h.2.2,λK hk=>⟨h.1,h.2.1,hk⟩⟩
theorem GqW.t{A:(Value->Prop)->Prop}{B:Value->Prop}(v:Value)(h1:A (λx=>x=v))(h2:B v):GqW true A B:=⟨v,λ_=>h1,(λh=>by cases h),h2⟩
theorem GqW.f{A:(Value->Prop)->Prop}{B:Value->Prop}(h:B undef):GqW false A B:=⟨undef,(λh=>by cases h),λ_=>rfl,h⟩
theorem Mv[HX]{l:Files}{p:Str}{x:MF}{K:Q0}(h:FsL w v l)(hn:l.length<=100)
  (hK:∀v' w',FsL w' v' (wth l p x)->Ext w w'->K v' w'):aJ P0 92 [v,.agg (fc (p,x)).toArray] w K:=by
 refine Xm ?_;unfold W92;simp(disch:=omega)only[wfx,kL,Nat.reduceLT,aO,aN,bV,aF,aH,aE,aA,Nat.reduceAdd,cV,reduceCtorEq,bJ];generalize hw1:(World.alloc _ _)=w1;have hx1:Ext w w1:=by subst hw1;exact(by repeat (first|assumption|exact Chg.refl _ _|refine Chg.drew ?_|refine Chg.alloc ?_ _|refine Chg.set ?_ (by first|exact .inl rfl|exact .inr (by omega)|exact .inr (by simp only[dT,size_alloc,size_drew];omega)|(left;simp;done)) _|exact Chg.of_ext (by assumption)))
 have hbl:w1.heap[w.heap.size]?=some (.cells #[str p,str x.data,str x.safe,.bool x.saved] 173 (0,0)):=by subst hw1;simp(disch:=omega)only[wfx,kL,Nat.reduceLT,aO,aN,bV,aF,aH,aE,aA,Nat.reduceAdd,cV,reduceCtorEq,bJ]
 clear hw1;have hlt1:w.heap.size<w1.heap.size:=(gH.1 hbl).1;refine GT (h.ext hx1) hn λt w2 ht hx2=>?_;have hln:(wo l p).length<=100:=dR (wo_sub l p).length_le hn;have hbl2:w2.heap[w.heap.size]?=_:=(hx2.heap _ hlt1 id).trans hbl;have hlt2:=dD hlt1 hx2.size;have hx12:=hx1.trans hx2;rw[eO ht];have hdef:wth l p x=ins (wo l p) p x:=rfl;rw[hdef]at hK;generalize wo l p=L at*
 refine dL.go (λst w'=>∃i u d,i<=L.length/\st=[u,.bool d,i64 (i:Nat)]/\Ext w2 w'/\
   ((d=false/\(∀y∈L.take i,Op.bytesLess p y.1=false)/\Own w' w2.heap.size RT 4 u (L.take i).length (fcs (L.take i)))\/
    (d=true/\(∃y∈L.take i,Op.bytesLess p y.1=true)/\Own w' w2.heap.size RT 4 u (ins (L.take i) p x).length (fcs (ins (L.take i) p x))))) (λst _=>match st with|[_,_,.int _ i]=>L.length-i.toNat|_=>0)
  ⟨0,_,false,dU _,rfl,Chg.refl _ _,.inl ⟨rfl,by simp,Ke _ _⟩⟩ ?_
 rintro st g w' ⟨i,u,d,hi,rfl,hx,hst⟩;have hl':=SlAt.ext ht hx;have hbl':w'.heap[w.heap.size]?=_:=(hx.heap _ hlt2 id).trans hbl2;have hins:∀j,(ins (L.take j) p x).length<=102:=λj=>by
  rw[(ins_perm _ _ _).length_eq];rw[aB,cO];omega
 simp(disch:=omega)only[wfx,kL,Nat.reduceLT,aO,aN,bV,aF,aH,aE,aA,Nat.reduceAdd,cV,reduceCtorEq,bJ,bD];refine⟨λhlt=>?_,λhge=>?_⟩
 ·have hlt:i<L.length:=by omega
  obtain⟨y,hget⟩:∃y,L[i]?=some y:=⟨_,aG hlt⟩;have hnx:=yJ hget;have hti:(L.take i).length<=100:=by rw[cO];omega
  refine dE.cut (λs5 w5=>∃u5 d5,s5=[u5,.bool d5]/\Ext w2 w5/\
   ((d5=false/\Op.bytesLess p y.1=false/\(∀y∈L.take i,Op.bytesLess p y.1=false)/\Own w5 w2.heap.size RT 4 u5 (L.take i).length (fcs (L.take i)))\/
    (d5=true/\((∃y∈L.take i,Op.bytesLess p y.1=true)/\Own w5 w2.heap.size RT 4 u5 (ins (L.take i) p x).length (fcs (ins (L.take i) p x))\/
      Op.bytesLess p y.1=true/\(∀y∈L.take i,Op.bytesLess p y.1=false)/\Own w5 w2.heap.size RT 4 u5 (L.take i++[(p,x)]).length (fcs (L.take i++[(p,x)])))))) ?_ ?_
  ·rcases hst with⟨rfl,hno,hu⟩|⟨rfl,hyes,hu⟩
   ·(try simp(disch:=omega)only[wfx,kL,Nat.reduceLT,aO,aN,bV,aF,aH,aE,aA,Nat.reduceAdd,cV,reduceCtorEq,bJ])
    refine GqW.t (.pointer (some ⟨w.heap.size,0,none⟩)) rfl ?_;refine GqW.t (str p) (by simp(disch:=omega)only[wfx,kL,Nat.reduceLT,aO,aN,bV,aF,aH,aE,aA,Nat.reduceAdd,cV,reduceCtorEq,bJ,hbl']) ?_;refine GqW.t t rfl ?_;refine GqW.t (i64 (i:Nat)) rfl ?_;obtain⟨px,⟨b,o,c,fr,rfl,hb,h0⟩,hpx⟩:=RE (ixf (K:=λz=>∃b o c fr,z=.pointer (some ⟨b,o,none⟩)/\w'.heap[b]?=some (.cells c RT fr)/\c[o]?=some (str y.1)) hl' hget λb o c fr hb h0 _ _ _=>⟨b,o,c,fr,rfl,hb,h0⟩);refine GqW.t _ (hpx _ rfl) ?_;refine GqW.t (.pointer (some ⟨b,o,none⟩)) rfl ?_;refine GqW.t (str y.1) (by simp(disch:=omega)only[wfx,kL,Nat.reduceLT,aO,aN,bV,aF,aH,aE,aA,Nat.reduceAdd,cV,reduceCtorEq,bJ,hb,h0]) ?_;refine GqW.t (.bool (Op.bytesLess p y.1)) (by simp(disch:=omega)only[wfx,kL,Nat.reduceLT,aO,aN,bV,aF,aH,aE,aA,Nat.reduceAdd,cV,reduceCtorEq,bJ]) ?_;cases hlt:Op.bytesLess p y.1 with
    |true=>
     simp(disch:=omega)only[wfx,kL,Nat.reduceLT,aO,aN,bV,aF,aH,aE,aA,Nat.reduceAdd,cV,reduceCtorEq,bJ,hbl'];refine yL rfl rfl ?_;have hxd:Ext w' w'.drew:=(by repeat (first|assumption|exact Chg.refl _ _|refine Chg.drew ?_|refine Chg.alloc ?_ _|refine Chg.set ?_ (by first|exact .inl rfl|exact .inr (by omega)|exact .inr (by simp only[dT,size_alloc,size_drew];omega)|(left;simp;done)) _|exact Chg.of_ext (by assumption)));refine vG (w:=w'.drew) (y:=(p,x)) (hu.ext hxd) (by have:=hx.size;simp only[size_drew];omega) (by omega) λu' w3 hu' hc=>?_;exact⟨u',true,rfl,(hx.trans hxd).then hc λk hk e=>by have:=e.1;omega,.inr ⟨rfl,.inr ⟨hno,hu'⟩⟩⟩
    |false=>
     simp(disch:=omega)only[wfx,kL,Nat.reduceLT,aO,aN,bV,aF,aH,aE,aA,Nat.reduceAdd,cV,reduceCtorEq,bJ];exact⟨u,false,rfl,hx.drew,.inl ⟨rfl,hno,hu.ext (by repeat (first|assumption|exact Chg.refl _ _|refine Chg.drew ?_|refine Chg.alloc ?_ _|refine Chg.set ?_ (by first|exact .inl rfl|exact .inr (by omega)|exact .inr (by simp only[dT,size_alloc,size_drew];omega)|(left;simp;done)) _|exact Chg.of_ext (by assumption)))⟩⟩
   ·(try simp(disch:=omega)only[wfx,kL,Nat.reduceLT,aO,aN,bV,aF,aH,aE,aA,Nat.reduceAdd,cV,reduceCtorEq,bJ])
    refine GqW.f ?_;refine GqW.f ?_;refine GqW.f ?_;refine GqW.f ?_;refine GqW.f ?_;refine GqW.f ?_;refine GqW.f ?_;refine GqW.f ?_
    (try simp(disch:=omega)only[wfx,kL,Nat.reduceLT,aO,aN,bV,aF,aH,aE,aA,Nat.reduceAdd,cV,reduceCtorEq,bJ])
    exact⟨u,true,rfl,hx.drew,.inr ⟨rfl,.inl ⟨hyes,hu.ext (by repeat (first|assumption|exact Chg.refl _ _|refine Chg.drew ?_|refine Chg.alloc ?_ _|refine Chg.set ?_ (by first|exact .inl rfl|exact .inr (by omega)|exact .inr (by simp only[dT,size_alloc,size_drew];omega)|(left;simp;done)) _|exact Chg.of_ext (by assumption)))⟩⟩⟩
  ·rintro s5 g5 w5 ⟨u5,d5,rfl,hx5,hst5⟩;simp(disch:=omega)only[wfx,kL,Nat.reduceLT,aO,aN,bV,aF,aH,aE,aA,Nat.reduceAdd,cV,reduceCtorEq,bJ];refine ixf (SlAt.ext ht hx5) hget λb o c fr hb h0 h1 h2 h3=>?_;simp(disch:=omega)only[wfx,kL,Nat.reduceLT,aO,aN,bV,aF,aH,aE,aA,Nat.reduceAdd,cV,reduceCtorEq,bJ,hb,h0,h1,h2,h3];refine yL rfl rfl ?_;have hw:IntKind.i64.wrap ((i:Int)+1)=((i+1:Nat):Int):=by rw[gI (by omega) (by omega)];simp
   rw[hw];rcases hst5 with⟨rfl,hlt,hno,hu⟩|⟨rfl,⟨hyes,hu⟩|⟨hlt,hno,hu⟩⟩
   ·refine vG (y:=y) hu (by have:=hx5.size;omega) (by omega) λu' w3 hu' hc=>?_;refine⟨⟨i+1,u',false,by omega,rfl,hx5.then hc λk hk e=>by have:=e.1;omega,.inl ⟨rfl,?_,?_⟩⟩,by simp only[aV];omega⟩
    ·rw[hnx];intro z hz;rcases bK.1 hz with hz|hz
     ·exact hno z hz
     ·simp only[bX]at hz;subst hz;exact hlt
    ·rw[hnx];exact hu'
   ·refine vG (y:=y) hu (by have:=hx5.size;omega) (by have:=hins i;omega) λu' w3 hu' hc=>?_;refine⟨⟨i+1,u',true,by omega,rfl,hx5.then hc λk hk e=>by have:=e.1;omega,.inr ⟨rfl,?_,?_⟩⟩,by simp only[aV];omega⟩
    ·obtain⟨z,hz,hzl⟩:=hyes;exact⟨z,by rw[hnx];exact cD _ hz,hzl⟩
    ·rw[hnx,HS _ _ _ _ hyes];exact hu'
   ·refine vG (y:=y) hu (by have:=hx5.size;omega) (by simp;omega) λu' w3 hu' hc=>?_;refine⟨⟨i+1,u',true,by omega,rfl,hx5.then hc λk hk e=>by have:=e.1;omega,.inr ⟨rfl,⟨y,by rw[hnx];simp,hlt⟩,?_⟩⟩,by simp only[aV];omega⟩;rw[hnx,Dq _ _ _ _ hno];have:ins [y] p x=[(p,x),y]:=by obtain⟨k,z⟩:=y;simp only[ins];rw[aU hlt]
    rw[this];simpa using hu'
 ·have hall:L.take i=L:=iH (by omega);rw[hall]at hst;rcases hst with⟨rfl,hno,hu⟩|⟨rfl,hyes,hu⟩
  ·simp(disch:=omega)only[wfx,kL,Nat.reduceLT,aO,aN,bV,aF,aH,aE,aA,Nat.reduceAdd,cV,reduceCtorEq,bJ,hbl'];refine yL rfl rfl ?_;refine vG (y:=(p,x)) hu (by have:=hx.size;omega) (by omega) λu' w3 hu' hc=>?_;refine hK _ _ ?_ ((hx12.trans hx).then hc λk hk e=>by have:=e.1;have:=hx12.size;omega);rw[NR _ _ _ hno];exact hu'.sl
  ·simp(disch:=omega)only[wfx,kL,Nat.reduceLT,aO,aN,bV,aF,aH,aE,aA,Nat.reduceAdd,cV,reduceCtorEq,bJ];exact hK _ _ hu.sl (hx12.trans hx)
abbrev rl(p:Option Addr)(n c:Nat)(s:MS):List Value:=[.slice p n c,i64 s.steps,i64 s.left,.bool s.dead]
abbrev rv(p:Option Addr)(n c:Nat)(s:MS):Value:=.agg (rl p n c s).toArray
abbrev rz:List Value:=[.slice none 0 0,i64 0,i64 0,.bool false]
theorem new_ref[HX]{K:Q0}(hK:∀v w',RefV w' v newM->Ext w w'->K v w'):aJ P0 48 [] w K:=by
 refine XL ?_;unfold W48;simp(disch:=omega)only[wfx,kL,Nat.reduceLT,aO,aN,bV,aF,aH,aE,aA,Nat.reduceAdd,cV,reduceCtorEq,bJ];exact hK _ _ ⟨none,0,rfl,SlAt.nil _ _⟩ (by repeat (first|assumption|exact Chg.refl _ _|refine Chg.drew ?_|refine Chg.alloc ?_ _|refine Chg.set ?_ (by first|exact .inl rfl|exact .inr (by omega)|exact .inr (by simp only[dT,size_alloc,size_drew];omega)|(left;simp;done)) _|exact Chg.of_ext (by assumption)))
theorem MJ[HX]{p:Option Addr}{c:Nat}{s:MS}{K:Q0}(hK:∀w',Ext w w'->K (.tuple [rv p n c (vstepM s).1,i64 (vstepM s).2].toArray) w'):aJ P0 91 [rv p n c s] w K:=by
 obtain⟨fs,st,lf,d⟩:=s;refine Xn ?_;unfold W91;refine fZ λa w1 ha hz1 hba hx1=>?_;refine cK λb w2 hb hz2 hbb hx2=>?_;have hba:=hx2.at hba id;have hx:=hx1.trans hx2;have hab:a≠b:=by omega
 have fin:∀s':MS,∀e:Int,vstepM ⟨fs,st,lf,d⟩=(s',e)->∀w3 w4,Ext w w3->Chg (λk=>k=b) w3 w4->K (.tuple [rv p n c s',i64 e].toArray) w4:=by
  intro s' e he w3 w4 h3 h4;have:=hK w4 (h3.new h4 (by omega));rw[he]at this;exact this
 clear hK;have hdead:vstepM ⟨fs,st,lf,d⟩=(⟨fs,st,lf,true⟩,5)->stW 1 (.pointer (some ⟨a,3,none⟩)) (.bool true) w2 (λw5=>ldW true 4 (.pointer (some ⟨a,0,none⟩)) w5 λt12=>stW 4 (.pointer (some ⟨b,0,none⟩)) t12 w5 λw6=>ldW true 4 (.pointer (some ⟨b,0,none⟩)) w6 λr7=>K (.tuple #[r7,.int .i64 5]) w6):=by
  intro he;refine kQ hba rfl (by simp) λw3 _ hba hc3=>?_;have hbb:=hc3.at hbb (kG hab);refine gF (l:=rl p n c ⟨fs,st,lf,true⟩) hba rfl ?_;exact vX (K:=λr w6=>K (.tuple #[r,.int .i64 5]) w6) hbb rfl rfl rfl λw4 hc4=>fin _ _ he w3 w4 (hx.new hc3 (by omega)) hc4
 simp only[dY,dO,dS,dM,fF,eH,dX,dC,dN,iP,dP,dW,gV,iJ,eP,cG,aY,Nat.reduceLT,cJ,gR,iN,jB,jA,cL,dQ,dI,gN,gD,fS,fJ,eQ,gA,iW,iY,iZ,iX,dB,bE,eD,iT,gW,iQ,gC,iR,iS,bY,eY,iV,iL,dV,gZ,fH,kD,gX,iF,iU,fC,eR,fA,kE,fT,iB,aO,aN,iE,eX,jC,gY,dG,bQ,bL,cM,bT,fL,gJ,fR,heap_drew,size_drew,dT,size_alloc,aF,bA,dJ,fM,cN,aH,bN,bG,bF,aE,aB,aK,aA,aM,aQ,aC,bO,aI,bJ,Nat.reduceAdd,dH,cH,cV,cP,cX,reduceCtorEq,dF,cU,hba,hbb];cases d with
 |true=>
  (try simp only[dY,dO,dS,dM,fF,eH,dX,dC,dN,iP,dP,dW,gV,iJ,eP,cG,aY,Nat.reduceLT,cJ,gR,iN,jB,jA,cL,dQ,dI,gN,gD,fS,fJ,eQ,gA,iW,iY,iZ,iX,dB,bE,eD,iT,gW,iQ,gC,iR,iS,bY,eY,iV,iL,dV,gZ,fH,kD,gX,iF,iU,fC,eR,fA,kE,fT,iB,aO,aN,iE,eX,jC,gY,dG,bQ,bL,cM,bT,fL,gJ,fR,heap_drew,size_drew,dT,size_alloc,aF,bA,dJ,fM,cN,aH,bN,bG,bF,aE,aB,aK,aA,aM,aQ,aC,bO,aI,bJ,Nat.reduceAdd,dH,cH,cV,cP,cX,reduceCtorEq,dF,cU])
  refine GdW.f λg=>?_
  (try simp only[dY,dO,dS,dM,fF,eH,dX,dC,dN,iP,dP,dW,gV,iJ,eP,cG,aY,Nat.reduceLT,cJ,gR,iN,jB,jA,cL,dQ,dI,gN,gD,fS,fJ,eQ,gA,iW,iY,iZ,iX,dB,bE,eD,iT,gW,iQ,gC,iR,iS,bY,eY,iV,iL,dV,gZ,fH,kD,gX,iF,iU,fC,eR,fA,kE,fT,iB,aO,aN,iE,eX,jC,gY,dG,bQ,bL,cM,bT,fL,gJ,fR,heap_drew,size_drew,dT,size_alloc,aF,bA,dJ,fM,cN,aH,bN,bG,bF,aE,aB,aK,aA,aM,aQ,aC,bO,aI,bJ,Nat.reduceAdd,dH,cH,cV,cP,cX,reduceCtorEq,dF,cU])
  exact hdead (by simp[vstepM])
 |false=>
  (try simp only[dY,dO,dS,dM,fF,eH,dX,dC,dN,iP,dP,dW,gV,iJ,eP,cG,aY,Nat.reduceLT,cJ,gR,iN,jB,jA,cL,dQ,dI,gN,gD,fS,fJ,eQ,gA,iW,iY,iZ,iX,dB,bE,eD,iT,gW,iQ,gC,iR,iS,bY,eY,iV,iL,dV,gZ,fH,kD,gX,iF,iU,fC,eR,fA,kE,fT,iB,aO,aN,iE,eX,jC,gY,dG,bQ,bL,cM,bT,fL,gJ,fR,heap_drew,size_drew,dT,size_alloc,aF,bA,dJ,fM,cN,aH,bN,bG,bF,aE,aB,aK,aA,aM,aQ,aC,bO,aI,bJ,Nat.reduceAdd,dH,cH,cV,cP,cX,reduceCtorEq,dF,cU])
  refine GdW.t ?_;intro g
  (try simp only[dY,dO,dS,dM,fF,eH,dX,dC,dN,iP,dP,dW,gV,iJ,eP,cG,aY,Nat.reduceLT,cJ,gR,iN,jB,jA,cL,dQ,dI,gN,gD,fS,fJ,eQ,gA,iW,iY,iZ,iX,dB,bE,eD,iT,gW,iQ,gC,iR,iS,bY,eY,iV,iL,dV,gZ,fH,kD,gX,iF,iU,fC,eR,fA,kE,fT,iB,aO,aN,iE,eX,jC,gY,dG,bQ,bL,cM,bT,fL,gJ,fR,heap_drew,size_drew,dT,size_alloc,aF,bA,dJ,fM,cN,aH,bN,bG,bF,aE,aB,aK,aA,aM,aQ,aC,bO,aI,bJ,Nat.reduceAdd,dH,cH,cV,cP,cX,reduceCtorEq,dF,cU])
  by_cases h0:lf=0
  ·have e0:decide (lf=0)=true:=bW h0
   (try simp only[dY,dO,dS,dM,fF,eH,dX,dC,dN,iP,dP,dW,gV,iJ,eP,cG,aY,Nat.reduceLT,cJ,gR,iN,jB,jA,cL,dQ,dI,gN,gD,fS,fJ,eQ,gA,iW,iY,iZ,iX,dB,bE,eD,iT,gW,iQ,gC,iR,iS,bY,eY,iV,iL,dV,gZ,fH,kD,gX,iF,iU,fC,eR,fA,kE,fT,iB,aO,aN,iE,eX,jC,gY,dG,bQ,bL,cM,bT,fL,gJ,fR,heap_drew,size_drew,dT,size_alloc,aF,bA,dJ,fM,cN,aH,bN,bG,bF,aE,aB,aK,aA,aM,aQ,aC,bO,aI,bJ,Nat.reduceAdd,dH,cH,cV,cP,cX,reduceCtorEq,dF,cU,e0])
   exact hdead (by simp[vstepM,h0])
  ·have e0:decide (lf=0)=false:=bH h0;have e:vstepM ⟨fs,st,lf,false⟩=(⟨fs,IntKind.i64.wrap (st+1),if lf>0 then IntKind.i64.wrap (lf-1)else lf,false⟩,0):=by simp[vstepM,h0]
   (try simp only[dY,dO,dS,dM,fF,eH,dX,dC,dN,iP,dP,dW,gV,iJ,eP,cG,aY,Nat.reduceLT,cJ,gR,iN,jB,jA,cL,dQ,dI,gN,gD,fS,fJ,eQ,gA,iW,iY,iZ,iX,dB,bE,eD,iT,gW,iQ,gC,iR,iS,bY,eY,iV,iL,dV,gZ,fH,kD,gX,iF,iU,fC,eR,fA,kE,fT,iB,aO,aN,iE,eX,jC,gY,dG,bQ,bL,cM,bT,fL,gJ,fR,heap_drew,size_drew,dT,size_alloc,aF,bA,dJ,fM,cN,aH,bN,bG,bF,aE,aB,aK,aA,aM,aQ,aC,bO,aI,bJ,Nat.reduceAdd,dH,cH,cV,cP,cX,reduceCtorEq,dF,cU,e0,hba])
   refine dE.cut (λ_ w'=>w'.heap[a]?=some (.cells [.slice p n c,i64 st,i64 (if lf>0 then IntKind.i64.wrap (lf-1)else lf),.bool false].toArray 55 (0,0))/\Chg (λk=>k=a) w2 w') ?_ ?_
   ·simp only[dY,dO,dS,dM,fF,eH,dX,dC,dN,iP,dP,dW,gV,iJ,eP,cG,aY,Nat.reduceLT,cJ,gR,iN,jB,jA,cL,dQ,dI,gN,gD,fS,fJ,eQ,gA,iW,iY,iZ,iX,dB,bE,eD,iT,gW,iQ,gC,iR,iS,bY,eY,iV,iL,dV,gZ,fH,kD,gX,iF,iU,fC,eR,fA,kE,fT,iB,aO,aN,iE,eX,jC,gY,dG,bQ,bL,cM,bT,fL,gJ,fR,heap_drew,size_drew,dT,size_alloc,aF,bA,dJ,fM,cN,aH,bN,bG,bF,aE,aB,aK,aA,aM,aQ,aC,bO,aI,bJ,Nat.reduceAdd,dH,cH,cV,cP,cX,reduceCtorEq,dF,cU,bD];refine⟨λh1=>?_,λh1=>⟨?_,Chg.refl _ _⟩⟩
    ·refine kQ hba rfl (by simp) λw3 _ hba hc3=>⟨?_,hc3⟩;rw[hba,aU h1];rfl
    ·rw[hba,aL (by omega)]
   ·rintro s8 g8 w3 ⟨hba,hc3⟩;simp only[dY,dO,dS,dM,fF,eH,dX,dC,dN,iP,dP,dW,gV,iJ,eP,cG,aY,Nat.reduceLT,cJ,gR,iN,jB,jA,cL,dQ,dI,gN,gD,fS,fJ,eQ,gA,iW,iY,iZ,iX,dB,bE,eD,iT,gW,iQ,gC,iR,iS,bY,eY,iV,iL,dV,gZ,fH,kD,gX,iF,iU,fC,eR,fA,kE,fT,iB,aO,aN,iE,eX,jC,gY,dG,bQ,bL,cM,bT,fL,gJ,fR,heap_drew,size_drew,dT,size_alloc,aF,bA,dJ,fM,cN,aH,bN,bG,bF,aE,aB,aK,aA,aM,aQ,aC,bO,aI,bJ,Nat.reduceAdd,dH,cH,cV,cP,cX,reduceCtorEq,dF,cU,hba];have hbb:=hc3.at hbb (kG hab);refine kQ hba rfl (by simp) λw4 _ hba hc4=>?_;have hbb:=hc4.at hbb (kG hab);refine gF (l:=rl p n c ⟨fs,IntKind.i64.wrap (st+1),if lf>0 then IntKind.i64.wrap (lf-1)else lf,false⟩) hba rfl ?_;exact vX (K:=λr w6=>K (.tuple #[r,.int .i64 0]) w6) hbb rfl rfl rfl λw5 hc5=>fin _ _ e w4 w5 ((hx.new hc3 (by omega)).new hc4 (by omega)) hc5
structure Frm(w w':World)(a b:Nat)(l z:List Value):Prop where
 ba:w'.heap[a]?=some (.cells l.toArray 55 (0,0))
 bb:w'.heap[b]?=some (.cells z.toArray 55 (0,0))
 ne:a≠b
 ga:w.heap.size<=a
 gb:w.heap.size<=b
 ext:Ext w w'
theorem Frm.more{w2:World}{a b:Nat}{l z:List Value}(h:Frm w w' a b l z)(hx:Ext w' w2):Frm w w2 a b l z:=⟨hx.at h.ba id,hx.at h.bb id,h.ne,h.ga,h.gb,h.ext.trans hx⟩
theorem RX{l:List Value}{KK:Value->Q0}(h:∀a b w',Frm w w' a b l rz->KK (.pointer (some ⟨a,0,none⟩)) (.pointer (some ⟨b,0,none⟩)) w'):
  jF 55 (.agg l.toArray) w λt2 w1=>dA 55 [(.slice none 0 0),(.int .i64 0),(.int .i64 0),(.bool false)] w1 λt4 w2=>KK t2 t4 w2:=by
 refine fZ λa w1 ha hz1 hba hx1=>?_;refine cK λb w2 hb hz2 hbb hx2=>?_;exact h a b w2 ⟨hx2.at hba id,hbb,by omega,by omega,by omega,hx1.trans hx2⟩
theorem Frm.set_all{a b:Nat}{l l2 z:List Value}{K:World->Prop}(h:Frm w w' a b l z)(hl:l.length=4)(hl2:l2.length=4)(h1:l2.all jM=true)(hK:∀w2,Frm w w2 a b l2 z->K w2):stW 4 (.pointer (some ⟨a,0,none⟩)) (.agg l2.toArray) w' K:=
 cY h.ba hl2 hl h1 λw2 _ hb hc=>hK w2 ⟨hb,hc.at h.bb (kG h.ne),h.ne,h.ga,h.gb,h.ext.new hc h.ga⟩
theorem Frm.set_one{a b off:Nat}{l z:List Value}{K:World->Prop}(h:Frm w w' a b l z)(h1:jM v=true)(ho:off<l.length)(hK:∀w2,Frm w w2 a b (l.set off v) z->Chg (λk=>k=a) w' w2->K w2):stW 1 (.pointer (some ⟨a,off,none⟩)) v w' K:=
 kQ h.ba h1 (by simpa using ho) λw2 _ hb hc=>hK w2 ⟨by simpa using hb,hc.at h.bb (kG h.ne),h.ne,h.ga,h.gb,h.ext.new hc h.ga⟩ hc
theorem Frm.ret{a b:Nat}{l:List Value}{e:Value}{K:Q0}(h:Frm w w' a b l rz)(hl:l.length=4)(h1:l.all jM=true)(hK:∀w2,Chg (λk=>k=b) w' w2->Ext w w2->K (.tuple #[.agg l.toArray,e]) w2):
  ldW true 4 (.pointer (some ⟨a,0,none⟩)) w' λt=>stW 4 (.pointer (some ⟨b,0,none⟩)) t w' λw5=>ldW true 4 (.pointer (some ⟨b,0,none⟩)) w5 λr=>K (.tuple #[r,e]) w5:=
 gF h.ba hl (vX (K:=λr w6=>K (.tuple #[r,e]) w6) h.bb hl rfl h1 λw2 hc=>hK w2 hc (h.ext.new hc h.gb))
theorem JZ{w2:World}{b:Nat}{l:Files}{z:List Value}(h:FsL w v l)(hb:w.heap[b]?=some (.cells z.toArray 55 (0,0)))(hc:Chg (λk=>k=b) w w2):FsL w2 v l:=
 SlAt.chg h hc (by rintro k c fr rfl e;rw[hb]at e;cases e)
end
section
open Go Go.Eng Go.Vfs
set_option maxHeartbeats 400000
variable{w:World}{K:Q0}{cs:List Value}{G:Nat->Prop}{T:TypeId}{i:Nat}{n:Nat}{v:Value}{w':World}{P:Program}{c:UInt8}{S:Nat->Prop}
theorem Frm.end'{w3:World}{a b:Nat}{sp:Option Addr}{sc:Nat}{s s2:MS}{e:Int}{K:Q0}(hl:FsL w (.slice sp s.files.length sc) s.files)(hF:Frm w w3 a b (rl sp s.files.length sc s2) rz)(h2:s2.files=s.files)
  (hk:∀v' w',RefV w' v' s2->Ext w w'->K (.tuple #[v',i64 e]) w'):
  ldW true 4 (.pointer (some ⟨a,0,none⟩)) w3 λt=>stW 4 (.pointer (some ⟨b,0,none⟩)) t w3 λw5=>ldW true 4 (.pointer (some ⟨b,0,none⟩)) w5 λr=>K (.tuple #[r,i64 e]) w5:=
 hF.ret rfl rfl λw4 hc hx=>hk _ _ ⟨sp,sc,by rw[h2],by rw[h2];exact SlAt.ext hl hx⟩ hx
theorem write_ref[HX]{s:MS}{p data:Str}{made:Bool}{K:Q0}(h:RefV w v s)(hs:Ok s)(hp:p.length<=9223372036854775807)
  (hK:∀v' w',RefV w' v' (writeM s p data made).1->Ext w w'->K (.tuple #[v',i64 (writeM s p data made).2]) w'):aJ P0 49 [v,str p,str data,.bool made] w K:=by
 have hR:=h;obtain⟨sp,sc,rfl,hl⟩:=h;refine XK ?_;unfold W49;refine RX λa b w2 hF=>?_;unfold writeM at hK;refine gF hF.ba rfl ?_;refine Sd (hR.ext hF.ext) hs.few λr w3 hx3 hr=>?_;have hF:=hF.more hx3;refine LU hp ?_;cases hg:good p with
 |false=>
  rw[aU hg]at hK
  (try simp only[dY,dO,dS,dM,fF,eH,dX,dC,dN,iP,dP,dW,gV,iJ,eP,cG,aY,Nat.reduceLT,cJ,gR,iN,jB,jA,cL,dQ,dI,gN,gD,fS,fJ,eQ,gA,iW,iY,iZ,iX,dB,bE,eD,iT,gW,iQ,gC,iR,iS,bY,eY,iV,iL,dV,gZ,fH,kD,gX,iF,iU,fC,eR,fA,kE,fT,iB,aO,aN,iE,eX,jC,gY,dG,bQ,bL,cM,bT,fL,gJ,fR,heap_drew,size_drew,dT,size_alloc,aF,bA,dJ,fM,cN,aH,bN,bG,bF,aE,aB,aK,aA,aM,aQ,aC,bO,aI,bJ,Nat.reduceAdd,dH,cH,cV,cP,cX,reduceCtorEq,dF,cU])
  exact Frm.end' (e:=6) hl hF rfl hK
 |true=>
 rw[aL (by simp[hg])]at hK
 (try simp only[dY,dO,dS,dM,fF,eH,dX,dC,dN,iP,dP,dW,gV,iJ,eP,cG,aY,Nat.reduceLT,cJ,gR,iN,jB,jA,cL,dQ,dI,gN,gD,fS,fJ,eQ,gA,iW,iY,iZ,iX,dB,bE,eD,iT,gW,iQ,gC,iR,iS,bY,eY,iV,iL,dV,gZ,fH,kD,gX,iF,iU,fC,eR,fA,kE,fT,iB,aO,aN,iE,eX,jC,gY,dG,bQ,bL,cM,bT,fL,gJ,fR,heap_drew,size_drew,dT,size_alloc,aF,bA,dJ,fM,cN,aH,bN,bG,bF,aE,aB,aK,aA,aM,aQ,aC,bO,aI,bJ,Nat.reduceAdd,dH,cH,cV,cP,cX,reduceCtorEq,dF,cU])
 by_cases h1:data.length>65536
 ·rw[aU (.inl h1)]at hK;have e1:decide ((65536:Int)<(data.length:Int))=true:=bW (by omega)
  (try simp only[dY,dO,dS,dM,fF,eH,dX,dC,dN,iP,dP,dW,gV,iJ,eP,cG,aY,Nat.reduceLT,cJ,gR,iN,jB,jA,cL,dQ,dI,gN,gD,fS,fJ,eQ,gA,iW,iY,iZ,iX,dB,bE,eD,iT,gW,iQ,gC,iR,iS,bY,eY,iV,iL,dV,gZ,fH,kD,gX,iF,iU,fC,eR,fA,kE,fT,iB,aO,aN,iE,eX,jC,gY,dG,bQ,bL,cM,bT,fL,gJ,fR,heap_drew,size_drew,dT,size_alloc,aF,bA,dJ,fM,cN,aH,bN,bG,bF,aE,aB,aK,aA,aM,aQ,aC,bO,aI,bJ,Nat.reduceAdd,dH,cH,cV,cP,cX,reduceCtorEq,dF,cU,e1])
  refine GdW.f λg=>?_
  (try simp only[dY,dO,dS,dM,fF,eH,dX,dC,dN,iP,dP,dW,gV,iJ,eP,cG,aY,Nat.reduceLT,cJ,gR,iN,jB,jA,cL,dQ,dI,gN,gD,fS,fJ,eQ,gA,iW,iY,iZ,iX,dB,bE,eD,iT,gW,iQ,gC,iR,iS,bY,eY,iV,iL,dV,gZ,fH,kD,gX,iF,iU,fC,eR,fA,kE,fT,iB,aO,aN,iE,eX,jC,gY,dG,bQ,bL,cM,bT,fL,gJ,fR,heap_drew,size_drew,dT,size_alloc,aF,bA,dJ,fM,cN,aH,bN,bG,bF,aE,aB,aK,aA,aM,aQ,aC,bO,aI,bJ,Nat.reduceAdd,dH,cH,cV,cP,cX,reduceCtorEq,dF,cU])
  have eu:isB undef true=false:=rfl
  (try simp only[eu])
  refine GdW.f λg=>?_;refine GdW.f λg=>?_
  (try simp only[dY,dO,dS,dM,fF,eH,dX,dC,dN,iP,dP,dW,gV,iJ,eP,cG,aY,Nat.reduceLT,cJ,gR,iN,jB,jA,cL,dQ,dI,gN,gD,fS,fJ,eQ,gA,iW,iY,iZ,iX,dB,bE,eD,iT,gW,iQ,gC,iR,iS,bY,eY,iV,iL,dV,gZ,fH,kD,gX,iF,iU,fC,eR,fA,kE,fT,iB,aO,aN,iE,eX,jC,gY,dG,bQ,bL,cM,bT,fL,gJ,fR,heap_drew,size_drew,dT,size_alloc,aF,bA,dJ,fM,cN,aH,bN,bG,bF,aE,aB,aK,aA,aM,aQ,aC,bO,aI,bJ,Nat.reduceAdd,dH,cH,cV,cP,cX,reduceCtorEq,dF,cU])
  exact Frm.end' (e:=3) hl hF rfl hK
 have e1:decide ((65536:Int)<(data.length:Int))=false:=bH (by omega)
 (try simp only[dY,dO,dS,dM,fF,eH,dX,dC,dN,iP,dP,dW,gV,iJ,eP,cG,aY,Nat.reduceLT,cJ,gR,iN,jB,jA,cL,dQ,dI,gN,gD,fS,fJ,eQ,gA,iW,iY,iZ,iX,dB,bE,eD,iT,gW,iQ,gC,iR,iS,bY,eY,iV,iL,dV,gZ,fH,kD,gX,iF,iU,fC,eR,fA,kE,fT,iB,aO,aN,iE,eX,jC,gY,dG,bQ,bL,cM,bT,fL,gJ,fR,heap_drew,size_drew,dT,size_alloc,aF,bA,dJ,fM,cN,aH,bN,bG,bF,aE,aB,aK,aA,aM,aQ,aC,bO,aI,bJ,Nat.reduceAdd,dH,cH,cV,cP,cX,reduceCtorEq,dF,cU,e1])
 refine GdW.t ?_
 (try simp only[dY,dO,dS,dM,fF,eH,dX,dC,dN,iP,dP,dW,gV,iJ,eP,cG,aY,Nat.reduceLT,cJ,gR,iN,jB,jA,cL,dQ,dI,gN,gD,fS,fJ,eQ,gA,iW,iY,iZ,iX,dB,bE,eD,iT,gW,iQ,gC,iR,iS,bY,eY,iV,iL,dV,gZ,fH,kD,gX,iF,iU,fC,eR,fA,kE,fT,iB,aO,aN,iE,eX,jC,gY,dG,bQ,bL,cM,bT,fL,gJ,fR,heap_drew,size_drew,dT,size_alloc,aF,bA,dJ,fM,cN,aH,bN,bG,bF,aE,aB,aK,aA,aM,aQ,aC,bO,aI,bJ,Nat.reduceAdd,dH,cH,cV,cP,cX,reduceCtorEq,dF,cU])
 intro g
 (try simp only[dY,dO,dS,dM,fF,eH,dX,dC,dN,iP,dP,dW,gV,iJ,eP,cG,aY,Nat.reduceLT,cJ,gR,iN,jB,jA,cL,dQ,dI,gN,gD,fS,fJ,eQ,gA,iW,iY,iZ,iX,dB,bE,eD,iT,gW,iQ,gC,iR,iS,bY,eY,iV,iL,dV,gZ,fH,kD,gX,iF,iU,fC,eR,fA,kE,fT,iB,aO,aN,iE,eX,jC,gY,dG,bQ,bL,cM,bT,fL,gJ,fR,heap_drew,size_drew,dT,size_alloc,aF,bA,dJ,fM,cN,aH,bN,bG,bF,aE,aB,aK,aA,aM,aQ,aC,bO,aI,bJ,Nat.reduceAdd,dH,cH,cV,cP,cX,reduceCtorEq,dF,cU])
 have hneg:decide (r<0)=(lkM s.files p).isNone:=by
  rcases hr with⟨rfl,hn⟩|⟨i,x,rfl,hget,hlk⟩
  ·rw[hn];rfl
  ·rw[hlk];exact bH (by omega)
 have hpos:decide (0<=r)=(lkM s.files p).isSome:=by
  rcases hr with⟨rfl,hn⟩|⟨i,x,rfl,hget,hlk⟩
  ·rw[hn];rfl
  ·rw[hlk];exact bW (by omega)
 have hc3:∀c:Bool,c=((lkM s.files p).isNone&&decide (64<=s.files.length))->(c=true->(data.length>65536\/(lkM s.files p=none/\64<=s.files.length)))/\(c=false->¬(data.length>65536\/(lkM s.files p=none/\64<=s.files.length))):=by
  rintro c rfl;simp only[bU,Option.isNone_iff_eq_none,fN,Bool.and_eq_false_iff];refine⟨λh=>.inr h,λh hh=>?_⟩;rcases hh with hh|hh
  ·exact h1 hh
  ·rcases h with h|h
   ·rw[hh.1]at h;cases h
   ·have:=hh.2;simp at h;omega
 have hd64:decide ((64:Int)<=(s.files.length:Int))=decide (64<=s.files.length):=by rw[decide_eq_decide];omega
 rw[hneg];refine GdW.meet [bif (lkM s.files p).isNone then .bool (decide (64<=s.files.length))else undef] (λh=>?_) (λh=>?_) (λg=>?_)
 ·have h:(lkM s.files p).isNone=true:=by simpa[isB]using h
  rw[h];simp only[dY,dO,dS,dM,fF,eH,dX,dC,dN,iP,dP,dW,gV,iJ,eP,cG,aY,Nat.reduceLT,cJ,gR,iN,jB,jA,cL,dQ,dI,gN,gD,fS,fJ,eQ,gA,iW,iY,iZ,iX,dB,bE,eD,iT,gW,iQ,gC,iR,iS,bY,eY,iV,iL,dV,gZ,fH,kD,gX,iF,iU,fC,eR,fA,kE,fT,iB,aO,aN,iE,eX,jC,gY,dG,bQ,bL,cM,bT,fL,gJ,fR,heap_drew,size_drew,dT,size_alloc,aF,bA,dJ,fM,cN,aH,bN,bG,bF,aE,aB,aK,aA,aM,aQ,aC,bO,aI,bJ,Nat.reduceAdd,dH,cH,cV,cP,cX,reduceCtorEq,dF,cU,hF.ba,hd64]
 ·have h:(lkM s.files p).isNone=false:=by simpa[isB]using h
  rw[h];rfl
 refine GdW.t ?_;have hpick:∀K:Value->Prop,K (.bool ((lkM s.files p).isNone&&decide (64<=s.files.length)))->cZ (.bool (lkM s.files p).isNone) (bif (lkM s.files p).isNone then .bool (decide (64<=s.files.length))else undef) (.bool false) K:=by
  intro K hk;cases hh:(lkM s.files p).isNone with
  |true=>rw[hh]at hk;simpa[cZ]using hk
  |false=>rw[hh]at hk;simpa[cZ]using hk
 refine hpick _ ?_;intro g
 (try simp only[dY,dO,dS,dM,fF,eH,dX,dC,dN,iP,dP,dW,gV,iJ,eP,cG,aY,Nat.reduceLT,cJ,gR,iN,jB,jA,cL,dQ,dI,gN,gD,fS,fJ,eQ,gA,iW,iY,iZ,iX,dB,bE,eD,iT,gW,iQ,gC,iR,iS,bY,eY,iV,iL,dV,gZ,fH,kD,gX,iF,iU,fC,eR,fA,kE,fT,iB,aO,aN,iE,eX,jC,gY,dG,bQ,bL,cM,bT,fL,gJ,fR,heap_drew,size_drew,dT,size_alloc,aF,bA,dJ,fM,cN,aH,bN,bG,bF,aE,aB,aK,aA,aM,aQ,aC,bO,aI,bJ,Nat.reduceAdd,dH,cH,cV,cP,cX,reduceCtorEq,dF,cU])
 have hc:=hc3 _ rfl;generalize ((lkM s.files p).isNone&&decide (64<=s.files.length))=c at hc;cases c with
 |true=>
  rw[aU (hc.1 rfl)]at hK
  (try simp only[dY,dO,dS,dM,fF,eH,dX,dC,dN,iP,dP,dW,gV,iJ,eP,cG,aY,Nat.reduceLT,cJ,gR,iN,jB,jA,cL,dQ,dI,gN,gD,fS,fJ,eQ,gA,iW,iY,iZ,iX,dB,bE,eD,iT,gW,iQ,gC,iR,iS,bY,eY,iV,iL,dV,gZ,fH,kD,gX,iF,iU,fC,eR,fA,kE,fT,iB,aO,aN,iE,eX,jC,gY,dG,bQ,bL,cM,bT,fL,gJ,fR,heap_drew,size_drew,dT,size_alloc,aF,bA,dJ,fM,cN,aH,bN,bG,bF,aE,aB,aK,aA,aM,aQ,aC,bO,aI,bJ,Nat.reduceAdd,dH,cH,cV,cP,cX,reduceCtorEq,dF,cU])
  exact Frm.end' (e:=3) hl hF rfl hK
 |false=>
 rw[aL (hc.2 rfl)]at hK
 (try simp only[dY,dO,dS,dM,fF,eH,dX,dC,dN,iP,dP,dW,gV,iJ,eP,cG,aY,Nat.reduceLT,cJ,gR,iN,jB,jA,cL,dQ,dI,gN,gD,fS,fJ,eQ,gA,iW,iY,iZ,iX,dB,bE,eD,iT,gW,iQ,gC,iR,iS,bY,eY,iV,iL,dV,gZ,fH,kD,gX,iF,iU,fC,eR,fA,kE,fT,iB,aO,aN,iE,eX,jC,gY,dG,bQ,bL,cM,bT,fL,gJ,fR,heap_drew,size_drew,dT,size_alloc,aF,bA,dJ,fM,cN,aH,bN,bG,bF,aE,aB,aK,aA,aM,aQ,aC,bO,aI,bJ,Nat.reduceAdd,dH,cH,cV,cP,cX,reduceCtorEq,dF,cU])
 clear hc hc3 hpick hneg hd64;refine GdW.meet [bif made then .bool (lkM s.files p).isSome else undef] (λh=>?_) (λh=>?_) (λg=>?_)
 ·have h:made=true:=by simpa[isB]using h
  rw[h];simp only[dY,dO,dS,dM,fF,eH,dX,dC,dN,iP,dP,dW,gV,iJ,eP,cG,aY,Nat.reduceLT,cJ,gR,iN,jB,jA,cL,dQ,dI,gN,gD,fS,fJ,eQ,gA,iW,iY,iZ,iX,dB,bE,eD,iT,gW,iQ,gC,iR,iS,bY,eY,iV,iL,dV,gZ,fH,kD,gX,iF,iU,fC,eR,fA,kE,fT,iB,aO,aN,iE,eX,jC,gY,dG,bQ,bL,cM,bT,fL,gJ,fR,heap_drew,size_drew,dT,size_alloc,aF,bA,dJ,fM,cN,aH,bN,bG,bF,aE,aB,aK,aA,aM,aQ,aC,bO,aI,bJ,Nat.reduceAdd,dH,cH,cV,cP,cX,reduceCtorEq,dF,cU,hpos]
 ·have h:made=false:=by simpa[isB]using h
  rw[h];rfl
 have hpick:∀K:Value->Prop,K (.bool (made&&(lkM s.files p).isSome))->cZ (.bool made) (bif made then .bool (lkM s.files p).isSome else undef) (.bool false) K:=by
  intro K hk;cases made<;>simpa[cZ]using hk
 refine hpick _ ?_;clear hpick;by_cases hm:made=true/\(lkM s.files p).isSome=true
 ·rw[aU hm]at hK;have e2:(made&&(lkM s.files p).isSome)=true:=by simp[hm.1,hm.2]
  rw[e2]
  (try simp only[dY,dO,dS,dM,fF,eH,dX,dC,dN,iP,dP,dW,gV,iJ,eP,cG,aY,Nat.reduceLT,cJ,gR,iN,jB,jA,cL,dQ,dI,gN,gD,fS,fJ,eQ,gA,iW,iY,iZ,iX,dB,bE,eD,iT,gW,iQ,gC,iR,iS,bY,eY,iV,iL,dV,gZ,fH,kD,gX,iF,iU,fC,eR,fA,kE,fT,iB,aO,aN,iE,eX,jC,gY,dG,bQ,bL,cM,bT,fL,gJ,fR,heap_drew,size_drew,dT,size_alloc,aF,bA,dJ,fM,cN,aH,bN,bG,bF,aE,aB,aK,aA,aM,aQ,aC,bO,aI,bJ,Nat.reduceAdd,dH,cH,cV,cP,cX,reduceCtorEq,dF,cU])
  exact Frm.end' (e:=2) hl hF rfl hK
 rw[aL hm]at hK;have e2:(made&&(lkM s.files p).isSome)=false:=by
  cases h:(made&&(lkM s.files p).isSome)with
  |false=>rfl
  |true=>exact absurd (by simpa using h) hm
 rw[e2]
 (try simp only[dY,dO,dS,dM,fF,eH,dX,dC,dN,iP,dP,dW,gV,iJ,eP,cG,aY,Nat.reduceLT,cJ,gR,iN,jB,jA,cL,dQ,dI,gN,gD,fS,fJ,eQ,gA,iW,iY,iZ,iX,dB,bE,eD,iT,gW,iQ,gC,iR,iS,bY,eY,iV,iL,dV,gZ,fH,kD,gX,iF,iU,fC,eR,fA,kE,fT,iB,aO,aN,iE,eX,jC,gY,dG,bQ,bL,cM,bT,fL,gJ,fR,heap_drew,size_drew,dT,size_alloc,aF,bA,dJ,fM,cN,aH,bN,bG,bF,aE,aB,aK,aA,aM,aQ,aC,bO,aI,bJ,Nat.reduceAdd,dH,cH,cV,cP,cX,reduceCtorEq,dF,cU])
 refine gF hF.ba rfl ?_;refine MJ (s:=s) λw4 hx4=>?_;have hF:=hF.more hx4;simp only[dY,dO,dS,dM,fF,eH,dX,dC,dN,iP,dP,dW,gV,iJ,eP,cG,aY,Nat.reduceLT,cJ,gR,iN,jB,jA,cL,dQ,dI,gN,gD,fS,fJ,eQ,gA,iW,iY,iZ,iX,dB,bE,eD,iT,gW,iQ,gC,iR,iS,bY,eY,iV,iL,dV,gZ,fH,kD,gX,iF,iU,fC,eR,fA,kE,fT,iB,aO,aN,iE,eX,jC,gY,dG,bQ,bL,cM,bT,fL,gJ,fR,heap_drew,size_drew,dT,size_alloc,aF,bA,dJ,fM,cN,aH,bN,bG,bF,aE,aB,aK,aA,aM,aQ,aC,bO,aI,bJ,Nat.reduceAdd,dH,cH,cV,cP,cX,reduceCtorEq,dF,cU];refine hF.set_all (l2:=rl sp s.files.length sc (vstepM s).1) rfl rfl rfl λw5 hF=>?_;simp only[bD];refine⟨λh0=>?_,λh0=>?_⟩
 ·have h0:(vstepM s).2≠0:=by simpa using h0
  simp only[aU h0]at hK;exact Frm.end' hl hF (tD s) hK
 have h0:(vstepM s).2=0:=by simpa using h0
 simp only[h0,cV,cP,qY]at hK
 (try simp only[dY,dO,dS,dM,fF,eH,dX,dC,dN,iP,dP,dW,gV,iJ,eP,cG,aY,Nat.reduceLT,cJ,gR,iN,jB,jA,cL,dQ,dI,gN,gD,fS,fJ,eQ,gA,iW,iY,iZ,iX,dB,bE,eD,iT,gW,iQ,gC,iR,iS,bY,eY,iV,iL,dV,gZ,fH,kD,gX,iF,iU,fC,eR,fA,kE,fT,iB,aO,aN,iE,eX,jC,gY,dG,bQ,bL,cM,bT,fL,gJ,fR,heap_drew,size_drew,dT,size_alloc,aF,bA,dJ,fM,cN,aH,bN,bG,bF,aE,aB,aK,aA,aM,aQ,aC,bO,aI,bJ,Nat.reduceAdd,dH,cH,cV,cP,cX,reduceCtorEq,dF,cU])
 refine cK λa8 w6 ha8 hz6 hb8 hx6=>?_;refine cY hb8 rfl rfl rfl λw7 _ hb8 hc7=>?_;have hx7:Ext w5 w7:=hx6.new hc7 (by omega);refine dE.cut (λ_ w'=>Ext w5 w'/\w'.heap[a8]?=some (.cells (fc (p,⟨data,((lkM s.files p).map (·.safe)).getD [],((lkM s.files p).map (·.saved)).getD false⟩)).toArray 173 (0,0))) ?_ ?_
 ·rcases hr with⟨rfl,hn⟩|⟨i,x,rfl,hget,hlk⟩
  ·rw[hn]
   (try simp only[dY,dO,dS,dM,fF,eH,dX,dC,dN,iP,dP,dW,gV,iJ,eP,cG,aY,Nat.reduceLT,cJ,gR,iN,jB,jA,cL,dQ,dI,gN,gD,fS,fJ,eQ,gA,iW,iY,iZ,iX,dB,bE,eD,iT,gW,iQ,gC,iR,iS,bY,eY,iV,iL,dV,gZ,fH,kD,gX,iF,iU,fC,eR,fA,kE,fT,iB,aO,aN,iE,eX,jC,gY,dG,bQ,bL,cM,bT,fL,gJ,fR,heap_drew,size_drew,dT,size_alloc,aF,bA,dJ,fM,cN,aH,bN,bG,bF,aE,aB,aK,aA,aM,aQ,aC,bO,aI,bJ,Nat.reduceAdd,dH,cH,cV,cP,cX,reduceCtorEq,dF,cU])
   exact⟨λh=>absurd h (by decide),λ_=>⟨hx7,hb8⟩⟩
  ·rw[hlk];have hF7:=hF.more hx7;simp only[dY,dO,dS,dM,fF,eH,dX,dC,dN,iP,dP,dW,gV,iJ,eP,cG,aY,Nat.reduceLT,cJ,gR,iN,jB,jA,cL,dQ,dI,gN,gD,fS,fJ,eQ,gA,iW,iY,iZ,iX,dB,bE,eD,iT,gW,iQ,gC,iR,iS,bY,eY,iV,iL,dV,gZ,fH,kD,gX,iF,iU,fC,eR,fA,kE,fT,iB,aO,aN,iE,eX,jC,gY,dG,bQ,bL,cM,bT,fL,gJ,fR,heap_drew,size_drew,dT,size_alloc,aF,bA,dJ,fM,cN,aH,bN,bG,bF,aE,aB,aK,aA,aM,aQ,aC,bO,aI,bJ,Nat.reduceAdd,dH,cH,cV,cP,cX,reduceCtorEq,dF,cU,hF7.ba];refine⟨λ_=>?_,λh=>absurd (by omega) h⟩;refine ixf (SlAt.ext hl hF7.ext) hget λbb o c fr hbb q0 q1 q2 q3=>?_;simp only[dY,dO,dS,dM,fF,eH,dX,dC,dN,iP,dP,dW,gV,iJ,eP,cG,aY,Nat.reduceLT,cJ,gR,iN,jB,jA,cL,dQ,dI,gN,gD,fS,fJ,eQ,gA,iW,iY,iZ,iX,dB,bE,eD,iT,gW,iQ,gC,iR,iS,bY,eY,iV,iL,dV,gZ,fH,kD,gX,iF,iU,fC,eR,fA,kE,fT,iB,aO,aN,iE,eX,jC,gY,dG,bQ,bL,cM,bT,fL,gJ,fR,heap_drew,size_drew,dT,size_alloc,aF,bA,dJ,fM,cN,aH,bN,bG,bF,aE,aB,aK,aA,aM,aQ,aC,bO,aI,bJ,Nat.reduceAdd,dH,cH,cV,cP,cX,reduceCtorEq,dF,cU,hbb,q2];refine kQ hb8 rfl (by simp) λw8 _ hb8 hc8=>?_;have hx8:=hx7.new hc8 (by omega);have hF8:=hF.more hx8;simp only[dY,dO,dS,dM,fF,eH,dX,dC,dN,iP,dP,dW,gV,iJ,eP,cG,aY,Nat.reduceLT,cJ,gR,iN,jB,jA,cL,dQ,dI,gN,gD,fS,fJ,eQ,gA,iW,iY,iZ,iX,dB,bE,eD,iT,gW,iQ,gC,iR,iS,bY,eY,iV,iL,dV,gZ,fH,kD,gX,iF,iU,fC,eR,fA,kE,fT,iB,aO,aN,iE,eX,jC,gY,dG,bQ,bL,cM,bT,fL,gJ,fR,heap_drew,size_drew,dT,size_alloc,aF,bA,dJ,fM,cN,aH,bN,bG,bF,aE,aB,aK,aA,aM,aQ,aC,bO,aI,bJ,Nat.reduceAdd,dH,cH,cV,cP,cX,reduceCtorEq,dF,cU,hF8.ba];refine ixf (SlAt.ext hl hF8.ext) hget λbb o c fr hbb q0 q1 q2 q3=>?_;simp only[dY,dO,dS,dM,fF,eH,dX,dC,dN,iP,dP,dW,gV,iJ,eP,cG,aY,Nat.reduceLT,cJ,gR,iN,jB,jA,cL,dQ,dI,gN,gD,fS,fJ,eQ,gA,iW,iY,iZ,iX,dB,bE,eD,iT,gW,iQ,gC,iR,iS,bY,eY,iV,iL,dV,gZ,fH,kD,gX,iF,iU,fC,eR,fA,kE,fT,iB,aO,aN,iE,eX,jC,gY,dG,bQ,bL,cM,bT,fL,gJ,fR,heap_drew,size_drew,dT,size_alloc,aF,bA,dJ,fM,cN,aH,bN,bG,bF,aE,aB,aK,aA,aM,aQ,aC,bO,aI,bJ,Nat.reduceAdd,dH,cH,cV,cP,cX,reduceCtorEq,dF,cU,hbb,q3];refine kQ hb8 rfl (by simp) λw9 _ hb8 hc9=>?_;exact⟨hx8.new hc9 (by omega),hb8⟩
 ·rintro s26 g26 w8 ⟨hx8,hb8⟩;have hF:=hF.more hx8;simp only[dY,dO,dS,dM,fF,eH,dX,dC,dN,iP,dP,dW,gV,iJ,eP,cG,aY,Nat.reduceLT,cJ,gR,iN,jB,jA,cL,dQ,dI,gN,gD,fS,fJ,eQ,gA,iW,iY,iZ,iX,dB,bE,eD,iT,gW,iQ,gC,iR,iS,bY,eY,iV,iL,dV,gZ,fH,kD,gX,iF,iU,fC,eR,fA,kE,fT,iB,aO,aN,iE,eX,jC,gY,dG,bQ,bL,cM,bT,fL,gJ,fR,heap_drew,size_drew,dT,size_alloc,aF,bA,dJ,fM,cN,aH,bN,bG,bF,aE,aB,aK,aA,aM,aQ,aC,bO,aI,bJ,Nat.reduceAdd,dH,cH,cV,cP,cX,reduceCtorEq,dF,cU,hF.ba];refine gF (l:=fc (p,⟨data,((lkM s.files p).map (·.safe)).getD [],((lkM s.files p).map (·.saved)).getD false⟩)) hb8 rfl ?_;refine Mv (p:=p) (SlAt.ext hl hF.ext) (by have:=hs.few;omega) λu w9 hu hx9=>?_;have hF:=hF.more hx9;obtain⟨up,uc,rfl,_⟩:=hu.shape;refine hF.set_one rfl (by simp) λw10 hF10 hc10=>?_;have hu:=JZ hu hF.ba hc10;refine hF10.ret rfl rfl λw11 hc hx=>hK _ _ ⟨up,uc,rfl,JZ hu hF10.bb hc⟩ hx
end
end Go.Proofs.YtjblfcfdeaagpaaGreatDoor.Fx
namespace Go.Proofs.YtjblfcfdeaagpaaGreatDoor
section
open Go Go.Eng Go.RowKit Go.Syn Go.Lex Go.Cfg
variable{w:World}{K:Q0}{cs:List Value}{G:Nat->Prop}{T:TypeId}{i:Nat}{n:Nat}{v:Value}{w':World}{P:Program}{c:UInt8}{S:Nat->Prop}
def yD:List (Str×Str)->Vfs.MS->Vfs.MS
 |[],s=>s
 |(p,t)::l,s=>yD l (Vfs.writeM s p (t.take 6000) false).1
def Ak(ps ts:List Str):Vfs.MS:=yD ((ps.zip ts).take 20) Vfs.newM
abbrev RfT:TypeId:=55
theorem Ba{a c:Array Value}{U:TypeId}{f g:Nat×Nat}(h:T≠U):some (Obj.cells a T f)≠some (Obj.cells c U g):=λe=>by
 injection e with e
 injection e with _ e
 exact h e
theorem RV{b m:Nat}{s:Vfs.MS}(h:Fx.FsB w b m s):∀k c fr,Fx.M2 b m k->w.heap[k]?≠some (.cells c Fx.RT fr):=by
 rintro k c fr (rfl|rfl) e
 ·rw[h.blk]at e;exact Ba (by decide) e
 ·obtain⟨A,⟨es,cl,hm,_⟩,_⟩:=h.fil;rw[hm]at e;cases e
section
variable [HX]
theorem GK{ps ts:List Str}{vp vt:Value}{T1 T2:TypeId}{K:Q0}(hps:SlAt w T1 vp ps.length (strs ps))(hts:SlAt w T2 vt ts.length (strs ts))(hpl:∀p∈ps,p.length<=9223372036854775807)
  (hK:∀b m (l:List Value) w',Fx.Fs w w' b m (Ak ps ts)->l.length=4->l.all jM=true->K (.tuple #[pA b,.agg l.toArray]) w'):aJ P0 19 [.agg [vp,vt].toArray] w K:=by
 refine Ya ?_;unfold W19;refine fZ (z:=[vp,vt]) λb1 w1 hb1 hz1 hbb1 hx1=>?_;refine cK λb3 w2 hb3 hz2 hbb3 hx2=>?_;have hx02:=hx1.trans hx2;refine Fx.fnew λb m w3 hfs3=>?_;refine Fx.new_ref λv4 w4 hv4 hx4=>?_;have hfs4:=hfs3.more hx4;refine cK λb5 w5 hb5 hz5 hbb5 hx5=>?_;have hfs5:=hfs4.more hx5;have hv5:=hv4.ext hx5;obtain⟨q,c,rfl,hsl⟩:=hv5;have hbm:=hfs4.gb;have hmm:=hfs4.gm;have hblt:=hfs4.fs.lt;have hmlt:=hfs4.fs.mlt;have hz4:=hx4.size;refine cY (l:=[.slice q Vfs.newM.files.length c,i64 Vfs.newM.steps,i64 Vfs.newM.left,.bool Vfs.newM.dead]) hbb5 rfl rfl rfl λw6 hz6 hbb6 hc6=>?_;have hx6:Ext w4 w6:=hx5.new hc6 (by omega);have hfs6:=hfs4.more hx6;have hb16:w6.heap[b1]?=some (.cells [vp,vt].toArray 51 (0,0)):=hx6.at (hfs4.ext.at (hx2.at hbb1 id) id) id;have hb36:w6.heap[b3]?=some (.cells [.slice none 0 0,i64 0,i64 0,.bool false].toArray RfT (0,0)):=hx6.at (hfs4.ext.at hbb3 id) id;have hsl6:Fx.RefV w6 (.agg [.slice q Vfs.newM.files.length c,i64 Vfs.newM.steps,i64 Vfs.newM.left,.bool Vfs.newM.dead].toArray) Vfs.newM:=hv4.ext hx6;have hn:((ps.zip ts).take 20).length=min 20 (min ps.length ts.length):=by rw[cO,Ci]
 generalize hP:(ps.zip ts).take 20=P at hn;have AU:Ak ps ts=yD P Vfs.newM:=by unfold Ak;rw[hP]
 rw[AU]at hK;refine dL.go (λst w'=>∃(i:Nat) (s:Vfs.MS) (l:List Value),st=[i64 (i:Nat)]/\i<=P.length/\Fx.Fs w2 w' b m s/\yD (P.drop i) s=yD P Vfs.newM/\w'.heap[b1]?=some (.cells [vp,vt].toArray 51 (0,0))/\w'.heap[b3]?=some (.cells [.slice none 0 0,i64 0,i64 0,.bool false].toArray RfT (0,0))/\w'.heap[b5]?=some (.cells l.toArray RfT (0,0))/\l.length=4/\l.all jM=true/\Fx.RefV w' (.agg l.toArray) s)
  (λst _=>match st with|[.int _ i]=>P.length-i.toNat|_=>0) ⟨0,Vfs.newM,_,rfl,dU _,hfs6,rfl,hb16,hb36,hbb6,rfl,rfl,hsl6⟩ ?_
 rintro st g w8 ⟨i,s,l,rfl,hi,hfs,hbl,hb1',hb3',hb5',hll,hl1,hrv⟩;have hx8:Ext w w8:=hx02.trans hfs.ext;simp only[dB,bE,bL,aI,aC];refine ldb hb1' (v:=vp) rfl ?_;rw[eO hps,dI,fT];refine GdW.look (decide (i<ts.length)) (λ_ J hJ=>?_) λg1=>?_
 ·refine ldb hb1' (v:=vt) rfl ?_;rw[eO hts,dI];have e:decide (((i:Nat):Int)<(ts.length:Nat))=decide (i<ts.length):=decide_eq_decide.2 (by omega);rw[e];exact hJ
 simp only[aC];rw[fG,fT];refine GdW.look (decide (i<20)) (λ_ J hJ=>?_) λg2=>?_
 ·rw[dI];have e:decide (((i:Nat):Int)<20)=decide (i<20):=decide_eq_decide.2 (by omega);rw[e];exact hJ
 simp only[aC];rw[fG,fT];refine GdW.look true (λ_ J hJ=>?_) λg3=>?_
 ·exact hJ
 simp only[aC];rw[fG,eJ];refine⟨λhb=>?_,λhb=>?_⟩
 ·simp only[bU,fN,fM]at hb;have hlt:i<P.length:=by omega
  obtain⟨p,hpi⟩:∃p,ps[i]?=some p:=⟨_,aG (by omega)⟩;obtain⟨t,hti⟩:∃t,ts[i]?=some t:=⟨_,aG (by omega)⟩;have hPi:P[i]?=some (p,t):=by
   rw[<-hP,gT (by omega),List.getElem?_zip_eq_some];exact⟨hpi,hti⟩
  have hdr:P.drop i=(p,t)::P.drop (i+1):=by
   rw[eB hlt];rw[aG hlt]at hPi;injection hPi with hPi
   rw[hPi]
  rw[hdr]at hbl;simp only[yD]at hbl;have hd8:=cQ w8;generalize w8.drew=w9 at hd8;have hx9:=hx8.trans hd8;have hb19:=hd8.at hb1' id;have st_i:∀{xs:List Str} {x:Str},xs[i]?=some x->(strs xs)[i]?=some (str x):=λh=>by unfold strs;rw[fO,h];rfl
  refine ldb hb19 (v:=vt) rfl ?_;refine mR (i:=i) (x:=str t) (hts.ext hx9) (by unfold strs;rw[fP]) (st_i hti) ?_;refine ldb hb19 (v:=vt) rfl ?_;refine mR (i:=i) (x:=str t) (hts.ext hx9) (by unfold strs;rw[fP]) (st_i hti) ?_;rw[dV,iF,fA,eR];have hmin:(if(6000:Int)<(t.length:Nat)then(6000:Int)else(t.length:Nat))=((min 6000 t.length:Nat):Int):=by split<;>omega
  rw[hmin];refine⟨by omega,by omega,?_⟩;rw[fC,eZ,aV];have htk:t.take (min 6000 t.length)=t.take 6000:=by rw[List.take_eq_take_iff];omega
  rw[htk];refine ldb hb19 (v:=vp) rfl ?_;refine mR (i:=i) (x:=str p) (hps.ext hx9) (by unfold strs;rw[fP]) (st_i hpi) ?_;refine Aw (by kernel_rfl) (by kernel_rfl) (by kernel_rfl) λdv w15 hdv hx15=>?_;have hfs15:=(hfs.more hd8).more hx15;refine Fx.fwrite hfs15 hdv λw16 hfs16 hc16=>?_;have hd16:=cQ w16;generalize w16.drew=w17 at hd16;have nb:∀k,k=b1\/k=b3\/k=b5->¬Fx.M2 b m k:=λk hk e=>by
   have e:k=b\/k=m:=e;omega
  have up:∀{k:Nat} {o:Obj},k=b1\/k=b3\/k=b5->w8.heap[k]?=some o->w17.heap[k]?=some o:=λhk h=>hd16.at (hc16.at (hx15.at (hd8.at h id) id) (nb _ hk)) id;have hb1f:=up (.inl rfl) hb1';have hb3f:=up (.inr (.inl rfl)) hb3';have hb5f:=up (.inr (.inr rfl)) hb5';have hrv17:Fx.RefV w17 (.agg l.toArray) s:=(((hrv.ext hd8).ext hx15).chg hc16 (RV hfs15.fs)).ext hd16;have hx17:Ext w w17:=hx02.trans ((hfs16.more hd16).ext);refine gF hb5f hll ?_;refine ldb hb1f (v:=vp) rfl ?_;refine mR (i:=i) (x:=str p) (hps.ext hx17) (by unfold strs;rw[fP]) (st_i hpi) ?_;refine Fx.write_ref hrv17 hfs.ok (hpl p (bI hpi)) λv' w18 hrv18 hx18=>?_;simp only[bY];refine⟨_,rfl,_,rfl,?_⟩;obtain⟨q',c',rfl,hsl'⟩:=hrv18;refine cY (l:=[.slice q' (Vfs.writeM s p (t.take 6000) false).1.files.length c',i64 (Vfs.writeM s p (t.take 6000) false).1.steps,i64 (Vfs.writeM s p (t.take 6000) false).1.left,.bool (Vfs.writeM s p (t.take 6000) false).1.dead]) (hx18.at hb5f id) rfl hll rfl λw19 hz19 hbb19 hc19=>?_;rw[cJ,upi (by omega)];have h5:∀k cc fr,k=b5->w18.heap[k]?≠some (.cells cc Fx.RT fr):=λk cc fr e h=>by
   subst e;rw[hx18.at hb5f id]at h;exact Ba (by decide) h
  refine⟨⟨i+1,(Vfs.writeM s p (t.take 6000) false).1,_,rfl,by omega,?_,hbl,?_,?_,hbb19,rfl,rfl,?_⟩,by simp only[aV];omega⟩
  ·have h18:=(hfs16.more hd16).more hx18;exact⟨h18.fs.chg hc19 (by omega) (by omega) (λk cc fr hk e=>by have hk:k=b5:=hk;subst hk;rw[hx18.at hb5f id]at e;exact Ba (by decide) e),h18.ok,h18.gb,h18.gm,h18.ext.then hc19 λk hk e=>by omega⟩
  ·exact hc19.at (hx18.at hb1f id) (by omega)
  ·exact hc19.at (hx18.at hb3f id) (by omega)
  ·exact Fx.RefV.chg ⟨q',c',rfl,hsl'⟩ hc19 h5
 ·have hie:i=P.length:=by
   simp only[dY,Bool.and_eq_false_iff,decide_eq_false_iff_not]at hb;omega
  subst hie;rw[gU]at hbl;simp only[yD]at hbl;have hd8:=cQ w8;generalize w8.drew=w9 at hd8;refine gF (hd8.at hb5' id) hll ?_;refine cY (hd8.at hb3' id) hll rfl hl1 λw19 hz19 hbb19 hc19=>?_;refine gF hbb19 hll ?_;have h9:=hfs.more hd8;rw[hbl]at h9;refine hK b m l w19 ⟨h9.fs.chg hc19 (by omega) (by omega) (λk cc fr hk=>?_),h9.ok,by have:=hx02.size;have:=h9.gb;omega,by have:=hx02.size;have:=h9.gm;omega,?_⟩ hll hl1
  ·intro e;have hk:k=b3:=hk;subst hk;rw[hd8.at hb3' id]at e;exact Ba (by decide) e
  ·exact(hx02.trans h9.ext).then hc19 λk hk e=>by omega
end
def OZ:Str:=[110,101,116,47,109,97,105,110,46,104,99,108]
def awP:List Str:=[[109,97,105,110,46,104,99,108],OZ]
def awT:List Str:=[[118,97,114,105,97,98,108,101,32,34,97,34,32,123,125,10,109,111,100,117,108,101,32,34,109,34,32,123,10,32,115,111,117,114,99,101,32,61,32,34,110,101,116,34,10,32,120,32,61,32,49,10,125,10],[118,97,114,105,97,98,108,101,32,34,120,34,32,123,125]]
def _root_.Go.Cfg.RL.test{α:Type}(r:RL α)(f:α->Bool):Bool:=match r with
 |.ok x=>f x
 |.bad _ _ _=>false
def _root_.Go.Cfg.RL.testB{α:Type}(r:RL α)(c:Int)(p:Str)(a:Int):Bool:=match r with
 |.ok _=>false
 |.bad c' p' a'=>decide (c'=c)&&decide (p'=p)&&decide (a'=a)
theorem _root_.Go.Cfg.RL.of_test{α:Type}{r:RL α}{f:α->Bool}(h:r.test f=true):∃x,r=.ok x/\f x=true:=by
 cases r with
 |ok x=>exact⟨x,rfl,h⟩
 |bad c p a=>cases h
theorem _root_.Go.Cfg.RL.of_testB{α:Type}{r:RL α}{c a:Int}{p:Str}(h:r.testB c p a=true):r=.bad c p a:=by
 cases r with
 |ok x=>cases h
 |bad c' p' a'=>
  simp only[Go.Cfg.RL.testB,bU,fN]at h;obtain⟨⟨rfl,rfl⟩,rfl⟩:=h;rfl
theorem Zb:(rD (rdF (Ak awP awT)) 4 [] []).test (λl=>match l with
 |[a,b]=>(match a.calls with
  |[c]=>decide (c.mod=1)
  |_=>false)
 |_=>false)=true:=by kernel_rfl
theorem UV:(rD (rdF (Vfs.removeM (Ak awP awT) OZ).1) 4 [] []).testB 111 OZ 0=true:=by kernel_rfl
theorem Bw(h:jM v=true):v.cells=#[v]:=by
 cases v<;>first|rfl|(simp[jM]at h)
theorem YB{a b u:Value}{K:List Value->Prop}(hu:jM u=true)(hv:jM v=true)(hK:K [u,v]):jS [a,b] [(0,1,u),(1,1,v)] K:=by
 have e1:=Bw hu;have e2:=Bw hv;simp only[jS,e1,e2];refine⟨rfl,by simp,rfl,by simp,?_⟩;exact hK
theorem Iv{x y:Str}{K:Q0}(hK:∀t w',SlAt w' StT t 2 (strs [x,y])->Ext w w'->K t w'):gO StT 2 [str [],str []] [(0,1,str x),(1,1,str y)] w K:=by
 rw[gO];refine YB rfl rfl ?_;exact hK _ _ (AK (w:=w) (base:=w.heap.size) (e:=StT) (size:=1) (n:=2) (cs:=[str x,str y]) (aZ _) rfl (by omega)).sl (Chg.alloc (Chg.refl _ _) _)
theorem UL(K:Value->Prop):eqW .ptr false (.pointer none) (.pointer none) K↔K (.bool true):=iO
theorem UE(K:Value->Prop):eqW .ptr true (.pointer none) (.pointer none) K↔K (.bool false):=iO
section
variable [HX]
theorem WO{d:Nat}{c a:Int}{p:Str}{K:Q0}(hc:c≠0)(hb:w.heap[d]?=some (.cells [i64 c,str p,i64 a].toArray 48 (0,0)))(hK:K (.bool true) w):aJ P0 21 [pA d,i64 c,str p,i64 a] w K:=by
 refine XX ?_;unfold W21;rw[cL,bH hc,bQ,Fx.ne_pn,fT];simp only[dB,bE,bL,aI];refine GdW.look true (λ_ J hJ=>?_) λg1=>?_
 ·refine ldb hb (v:=i64 c) rfl ?_;rw[cL,bW rfl];exact hJ
 simp only[aC];rw[fG,fT];refine GdW.look true (λ_ J hJ=>?_) λg2=>?_
 ·refine ldb hb (v:=str p) rfl ?_;rw[eQ,bW rfl];exact hJ
 simp only[aC];rw[fG,fT];refine GdW.look true (λ_ J hJ=>?_) λg3=>?_
 ·refine ldb hb (v:=i64 a) rfl ?_;rw[cL,bW rfl];exact hJ
 simp only[aC];rw[fG];exact hK
theorem CfR.field{B:Nat}{Ls:List ML}{mods:List Md}{j:Nat}{L:ML}{m:Md}{u:Value}{K:Value->Prop}(h:CfR w B v Ls mods)(hL:Ls[i]?=some L)(hm:mods[i]?=some m)(hj:j<9)(hu:(L.cells m.dir)[j]?=some u)(hK:K u):
  fK none 9 v (i64 (i:Nat)) λt=>aR j t λt2=>ldW false 1 t2 w K:=by
 have hil:=(bS.1 hm).1;obtain⟨g,cap,cur,e,hg,hcur⟩:=AL h.ow (by omega);have ho:=h.ow;rw[e]at ho⊢;rw[eY];refine⟨by omega,by omega,?_⟩;rw[bE];simp only[bL,aV,aI];exact Gp ho (by rw[uQ (n:=9) (j:=j) (AO hL hm) hj];exact hu) hK
theorem MdR.call_mod{B:Nat}{L:ML}{m:Md}{c:Cl}{K:Value->Prop}(h:MdR w B L m)(hc:m.calls[i]?=some c)(hK:K (i64 (c.mod:Nat))):fK none 4 L.vC (i64 (i:Nat)) λt=>aR 1 t λt2=>ldW false 1 t2 w K:=by
 have hil:=(bS.1 hc).1;obtain⟨g,cap,cur,e,hg,hcur⟩:=AL h.oC (by omega);have ho:=h.oC;rw[e]at ho⊢;rw[eY];refine⟨by omega,by omega,?_⟩;rw[bE];simp only[bL,aV,aI];obtain⟨va,hr,_⟩:=h.cc.2 i c hc;exact Gp ho (by rw[uQ (n:=4) (j:=1) hr (by omega)];rfl) hK
theorem KP{K:Q0}(hT:TabI w)(hK:∀w',Ext w w'->K (.bool true) w'):aJ P0 18 [] w K:=by
 refine Yb ?_;unfold W18;refine Iv λt8 w1 h8 hx1=>?_;refine Iv λt9 w2 h9 hx2=>?_;refine YB (fV h8) (fV h9) ?_;have hx02:=hx1.trans hx2;refine GK (ps:=awP) (ts:=awT) (h8.ext hx2) h9 (λp hp=>by simp only[awP,bC,cA,gG]at hp;rcases hp with rfl|rfl<;>decide) λb m l w4 hfs4 hll hl1=>?_;simp only[bY];refine⟨_,rfl,_,rfl,?_⟩;refine cK λb2 w5 hb2 hz5 hbb2 hx5=>?_;refine cY hbb2 hll rfl hl1 λw6 hz6 hbb26 hc6=>?_;have hx46:Ext w4 w6:=hx5.new hc6 (by omega);have hfs6:=hfs4.more hx46;rw[Fx.eq_pn,bQ];have hx06:Ext w w6:=hx02.trans hfs6.ext;obtain⟨mods,hmods,htest⟩:=RL.of_test Zb;refine By (pU hT hx06) hfs6.fs hfs6.ok (λmods' hl v Ls w7 hx7 hcf=>?_) (λc p a hl=>by rw[hmods]at hl;cases hl);obtain rfl:mods=mods':=by rw[hmods]at hl;injection hl
 have hfs7:=hfs6.more hx7;simp only[bY];refine⟨_,rfl,_,rfl,?_⟩;refine cK λb3 w8 hb3 hz8 hbb3 hx8=>?_;refine cY (l:=[v]) hbb3 rfl rfl (by simp[fV hcf.ow.sl]) λw9 hz9 hbb39 hc9=>?_;have hx79:Ext w7 w9:=hx8.new hc9 (by omega);have hfs9:=hfs7.more hx79;refine Fx.fremove (p:=OZ) hfs9 λw10 hfs10 hc10=>?_;have hgb:=hfs6.fs.lt;have hgm:=hfs6.fs.mlt;have hz7:=hx7.size;have hcf9:=hcf.ext hx79;have hcf10:CfR w10 w6.heap.size v Ls mods:=hcf9.keep hc10 (λk hk e=>by have:=hcf9.in_.1 k hk;have e:k=b\/k=m:=e;omega) (λL hL k hk e=>by have:=hcf9.in_.2 L hL k hk;have e:k=b\/k=m:=e;omega);have hbb310:=hc10.at hbb39 (λe=>by have e:b3=b\/b3=m:=e;omega);have hx010:Ext w w10:=hx02.trans hfs10.ext;refine By (pU hT hx010) hfs10.fs hfs10.ok (λmods' hl=>by have e:=RL.of_testB UV;rw[e]at hl;cases hl) (λc p a hl d w11 hx11 hd hdb=>?_);have hno:=RL.of_testB UV;rw[hno]at hl;injection hl with e1 e2 e3
 subst e1 e2 e3;simp only[bY];refine⟨_,rfl,_,rfl,?_⟩;refine cK λb5 w12 hb5 hz12 hbb5 hx12=>?_;refine cY (l:=[.slice none 0 0]) hbb5 rfl rfl rfl λw13 hz13 hbb513 hc13=>?_;have hx1113:Ext w11 w13:=hx12.new hc13 (by omega);have hx1013:=hx11.trans hx1113;have hcf13:=hcf10.ext hx1013;have hbb313:=hx1013.at hbb310 id;have hdb13:=hx1113.at hdb id;have hx013:=hx010.trans hx1013;rw[UL,fT];obtain⟨ma,mb,rfl⟩:∃ma mb,mods=[ma,mb]:=by
  revert htest;cases mods with
  |nil=>intro h;cases h
  |cons a l=>cases l with
   |nil=>intro h;cases h
   |cons b l=>cases l with
    |nil=>intro _;exact⟨a,b,rfl⟩
    |cons c l=>intro h;cases h
 obtain⟨c0,hc0,hm0⟩:∃c,ma.calls=[c]/\c.mod=1:=by
  simp only at htest;revert htest;cases ma.calls with
  |nil=>intro h;cases h
  |cons c l=>cases l with
   |nil=>intro h;exact⟨c,rfl,eK h⟩
   |cons d l=>intro h;cases h
 obtain⟨La,hLa⟩:∃La,Ls[0]?=some La:=⟨_,aG (by rw[hcf13.len];simp)⟩;have hmda:=hcf13.md 0 La ma hLa rfl;refine GdW.look true (λ_ J hJ=>?_) λg1=>?_
 ·rw[bE,bL,aI];refine ldb hbb313 (v:=v) rfl ?_;rw[eO hcf13.ow.sl,cL];exact hJ
 simp only[aC];rw[fG,fT];refine GdW.look true (λ_ J hJ=>?_) λg2=>?_
 ·rw[bE,bL,aI];refine ldb hbb313 (v:=v) rfl ?_;refine hcf13.field (i:=0) (j:=8) (u:=La.vC) hLa rfl (by omega) rfl ?_;rw[eO hmda.oC.sl,cL,hc0];exact hJ
 simp only[aC];rw[fG,fT];refine GdW.look true (λ_ J hJ=>?_) λg3=>?_
 ·rw[bE,bL,aI];refine ldb hbb313 (v:=v) rfl ?_;refine hcf13.field (i:=0) (j:=8) (u:=La.vC) hLa rfl (by omega) rfl ?_;refine hmda.call_mod (i:=0) (c:=c0) (by rw[hc0];rfl) ?_;rw[hm0,cL];exact hJ
 simp only[aC];rw[fG,fT];refine GdW.look true (λ_ J hJ=>?_) λg4=>?_
 ·refine WO (by decide) hdb13 ?_;exact hJ
 simp only[aC];rw[fG];exact hK w13 hx013
end
theorem Ib{P:Program}{w:World}{d:Nat}{xs:Array Value}:∀fs:List Field,(∀f∈fs,∃v,(part f.type xs f.offset).run P w=.ok v w/\(Op.equalIn d f.type v v).run P w=.ok true w)->(Op.eqFields d xs xs fs).run P w=.ok true w
 |[],_=>rfl
 |f::fs,h=>by
  have ih:=Ib fs λg hg=>h g (aD _ hg)
  obtain⟨v,hp,he⟩:=h f aW
  simp only[Op.eqFields]
  by_cases hn:f.name≠ "_"
  ·rw[aU hn]
   simp only[Sem.run_bind,hp,he,Result.andThen_ok,dH,mV,qY]
   exact ih
  ·rw[aL hn];exact ih
theorem KD{s:Str}{a b:Int}{K:Value->Prop}(hg:Tryz.prog.eqGuardType Tryz.prog.depth T=false)(hu:Tryz.prog.underlying T=some (.struct (Tryz.prog.fieldsOf T)))(hs:Tryz.prog.stoodInHeld T=false)
  (hf:(Tryz.prog.fieldsOf T).toList.all (λf=>(f.offset==0&&f.type==StT)||((f.offset==1||f.offset==2)&&f.type==jY))=true)(hK:K (.bool false)):
  eqQ P0 .neq T false false (.agg [str s,i64 a,i64 b].toArray) (.agg [str s,i64 a,i64 b].toArray) w K:=by
 have h1:(eqGuard .neq T (wN false) (wN false) (.agg [str s,i64 a,i64 b].toArray) (.agg [str s,i64 a,i64 b].toArray)).run P0 w=.ok () w:=run_eqGuard_agg w .neq T _ _ _ _ hg;have h2:(Op.equalIn 10000 T (.agg [str s,i64 a,i64 b].toArray) (.agg [str s,i64 a,i64 b].toArray)).run P0 w=.ok true w:=by
  rw[run_equalIn_struct w 9999 T _ _ hu hs];refine Ib _ λf hfm=>?_;have:=iD.1 hf f hfm;simp only[gK,bU,iK]at this;have hkS:Tryz.prog.plainKey StT=true:=by kernel_rfl
  have hkI:Tryz.prog.plainKey jY=true:=by kernel_rfl
  rcases this with⟨e1,e2⟩|⟨e1|e1,e2⟩
  ·rw[e1,e2];refine⟨str s,run_part_plain w hkS rfl,?_⟩;rw[run_equalIn_string w 9998 StT _ _ (by kernel_rfl)];simp
  ·rw[e1,e2];refine⟨i64 a,run_part_plain w hkI rfl,?_⟩;rw[run_equalIn_int w 9998 jY .i64 .i64 _ _ (by kernel_rfl)];simp
  ·rw[e1,e2];refine⟨i64 b,run_part_plain w hkI rfl,?_⟩;rw[run_equalIn_int w 9998 jY .i64 .i64 _ _ (by kernel_rfl)];simp
 have h3:(binOp .neq T (.agg [str s,i64 a,i64 b].toArray) (.agg [str s,i64 a,i64 b].toArray)).run P0 w=.ok (.bool false) w:=by
  rw[run_neq_struct,h2];rfl
 have hr:(do eqGuard .neq T (wN false) (wN false) (.agg [str s,i64 a,i64 b].toArray) (.agg [str s,i64 a,i64 b].toArray);binOp .neq T (.agg [str s,i64 a,i64 b].toArray) (.agg [str s,i64 a,i64 b].toArray):Sem Value).run P0 w=.ok (.bool false) w:=by
  simp only[Sem.run_bind,h1,Result.andThen_ok,h3]
 unfold eqQ pV;exact⟨_,hr,hK⟩
theorem YP{s:Str}{a b:Int}{K:Value->Prop}(hK:K (.bool false)):eqQ P0 .neq AtT false false (.agg [str s,i64 a,i64 b].toArray) (.agg [str s,i64 a,i64 b].toArray) w K:=KD (by kernel_rfl) (by kernel_rfl) (by kernel_rfl) (by kernel_rfl) hK
theorem YO{s:Str}{a b:Int}{K:Value->Prop}(hK:K (.bool false)):eqQ P0 .neq VrT false false (.agg [str s,i64 a,i64 b].toArray) (.agg [str s,i64 a,i64 b].toArray) w K:=KD (by kernel_rfl) (by kernel_rfl) (by kernel_rfl) (by kernel_rfl) hK
theorem mE{A:(List Value->World->Prop)->Prop}{B:List Value->Fr->World->Prop}(h1:∀J:List Value->World->Prop,J [.bool false] w->A J)(h2:∀g,B [.bool false] g w):GdW (isB (.bool false) false) [undef] w A B:=GdW.look false (λ_ J hJ=>h1 J hJ) λg=>h2 g
theorem zC{A:(List Value->World->Prop)->Prop}{B:List Value->Fr->World->Prop}(R:World->Prop)(h1:∀J:List Value->World->Prop,(∀w',R w'->J [.bool false] w')->A J)(h2:∀g w',R w'->B [.bool false] g w'):GdW (isB (.bool false) false) [undef] w A B:=
 GdW.act false R (λe=>by cases e) (λ_ J hJ=>h1 J hJ) λg w' hR=>h2 g w' hR
theorem Pg{α:Type}{R:α->List Value->Prop}{size:Nat}{xs:List α}{x:α}{c:List Value}(h:SlAt w T v xs.length c)(hr:kO R size xs c)(hs:0<size)(hi:xs[i]?=some x):
  ∃p,fK none size v (i64 (i:Nat)) (λy=>y=p)/\ldW true size p w λy=>y=.agg ((c.drop (i*size)).take size).toArray:=
 yV (Cy (K:=λy=>y=_) h hr.1 hs (bS.1 hi).1 rfl rfl)
section
variable [HX]
theorem CF{l:List Atr}{u:Value}{K:Q0}(h1:SlAt w AtT u l.length (kK l))(h2:SlAt w AtT v l.length (kK l))(hl:l.length<=9223372036854775807)(hK:∀w',Ext w w'->K (.bool true) w'):aJ P0 102 [u,v] w K:=by
 refine Uw ?_;unfold aAI;rw[eO h1,eO h2,dQ,bH (by simp),bQ,eO h1];refine dL.go (λst w'=>∃i:Nat,st=[i64 (i:Nat)]/\i<=l.length/\Ext w w') (λst _=>match st with|[.int _ i]=>l.length-i.toNat|_=>0) ⟨0,rfl,by omega,Chg.refl _ _⟩ ?_;rintro st g w1 ⟨i,rfl,hi,hx⟩;simp only[aC];rw[dI,bD];refine⟨λhlt=>?_,λhge=>hK w1 hx⟩;have hlt:i<l.length:=by omega
 have hxd:=hx.trans (cQ w1);obtain⟨x,hxi⟩:∃x,l[i]?=some x:=⟨_,aG hlt⟩;have e:((kK l).drop (i*3)).take 3=[str x.n,i64 (x.e:Nat),i64 x.a]:=yF hxi;refine lZ (h1.ext hxd) (sE l) (by omega) hlt ?_;refine lZ (h2.ext hxd) (sE l) (by omega) hlt ?_;rw[e];refine YP ?_;rw[bQ,cJ,upj (by omega)];refine⟨⟨i+1,rfl,by omega,hxd⟩,?_⟩;simp only[aV];omega
theorem GQ{α:Type}{R:α->α->Prop}(h:∀x,R x x)(l:List α):Alike R l l:=⟨rfl,λi x y hx hy=>by rw[hx]at hy;injection hy with hy;subst hy;exact h x⟩
theorem RY(f:Fl):flA true f f:=⟨GQ (λ_=>⟨rfl,rfl,rfl,rfl,λ_=>rfl⟩) _,GQ (λ_=>⟨rfl,rfl,rfl,GQ (λ_=>⟨rfl,rfl,λ_=>rfl⟩) _,λ_=>rfl⟩) _,rfl⟩
theorem UK(x y:Bool)(K:Value->Prop):eqW .bool true (.bool x) (.bool y) K↔K (.bool (x !=y)):=by cases x<;>cases y<;>exact iO
theorem Yz{r:Rs}{B B' a b:Nat}{c c':List Value}{T':TypeId}{KT KF:World->Prop}(hc:RsR w B r c)(hc':RsR w B' r c')(ha:w.heap[a]?=some (.cells c.toArray T (0,0)))(hb:w.heap[b]?=some (.cells c'.toArray T' (0,0)))(hK:∀w',Ext w w'->KT w'):
  aR 0 (pA a) λt102=>
  ldW false 1 t102 w λt103=>
  aR 0 (pA b) λt104=>
  ldW false 1 t104 w λt105=>
  aS .neq t103 t105 λt106=>
  GdW (isB t106 false) [undef] w (λJ32=>
   aR 1 (pA a) λt108=>
   ldW false 1 t108 w λt109=>
   aR 1 (pA b) λt110=>
   ldW false 1 t110 w λt111=>
   aS .neq t109 t111 λt112=>
   J32 [t112] w)
  λs32 _ w33=>
  cZ t106 (.bool true) (s32.getD 0 undef) λt113=>
  GdW (isB t113 false) [undef] w33 (λJ34=>
   aR 2 (pA a) λt115=>
   ldW false 1 t115 w33 λt116=>
   aR 2 (pA b) λt117=>
   ldW false 1 t117 w33 λt118=>
   aJ P0 102 [t116,t118] w33 λt119 w35=>
   unW .not t119 λt120=>
   J34 [t120] w35)
  λs34 _ w36=>
  cZ t113 (.bool true) (s34.getD 0 undef) λt121=>
  GdW (isB t121 false) [undef] w36 (λJ37=>
   aR 3 (pA a) λt123=>
   ldW false 1 t123 w36 λt124=>
   aR 3 (pA b) λt125=>
   ldW false 1 t125 w36 λt126=>
   aS .neq t124 t126 λt127=>
   J37 [t127] w36)
  λs37 _ w38=>
  cZ t121 (.bool true) (s37.getD 0 undef) λt128=>
  GdW (isB t128 false) [undef] w38 (λJ39=>
   aR 4 (pA a) λt130=>
   ldW false 1 t130 w38 λt131=>
   aR 4 (pA b) λt132=>
   ldW false 1 t132 w38 λt133=>
   aS .neq t131 t133 λt134=>
   J39 [t134] w38)
  λs39 _ w40=>
  cZ t128 (.bool true) (s39.getD 0 undef) λt135=>
  GdW (isB t135 false) [undef] w40 (λJ41=>
   aR 5 (pA a) λt137=>
   ldW false 1 t137 w40 λt138=>
   aR 5 (pA b) λt139=>
   ldW false 1 t139 w40 λt140=>
   eqW .bool true t138 t140 λt141=>
   J41 [t141] w40)
  λs41 _ w42=>
  cZ t135 (.bool true) (s41.getD 0 undef) λt142=>
  GdW (isB t142 false) [undef] w42 (λJ43=>
   aR 6 (pA a) λt144=>
   ldW false 1 t144 w42 λt145=>
   aR 6 (pA b) λt146=>
   ldW false 1 t146 w42 λt147=>
   eqW .bool true t145 t147 λt148=>
   J43 [t148] w42)
  λs43 _ w44=>
  cZ t142 (.bool true) (s43.getD 0 undef) λt149=>
  GdW (isB t149 false) [undef] w44 (λJ45=>
   aR 7 (pA a) λt151=>
   ldW false 1 t151 w44 λt152=>
   aR 7 (pA b) λt153=>
   ldW false 1 t153 w44 λt154=>
   aJ P0 25 [t152,t154] w44 λt155 w46=>
   unW .not t155 λt156=>
   J45 [t156] w46)
  λs45 _ w47=>
  cZ t149 (.bool true) (s45.getD 0 undef) λt157=>
  GdW (isB t157 false) [undef] w47 (λJ48=>
   aR 8 (pA a) λt159=>
   ldW false 1 t159 w47 λt160=>
   aR 8 (pA b) λt161=>
   ldW false 1 t161 w47 λt162=>
   aS .neq t160 t162 λt163=>
   J48 [t163] w47)
  λs48 _ w49=>
  cZ t157 (.bool true) (s48.getD 0 undef) λt164=>
  bB t164 (KF w49) (KT w49):=by
 obtain⟨va,vd,rfl,h1,h2⟩:=hc;obtain⟨va',vd',rfl,h1',h2'⟩:=hc';refine jK (off:=0) ha rfl ?_;refine jK (off:=0) hb rfl ?_;rw[gA,bH (by simp)];refine mE (λJ hJ=>?_) λ_=>?_
 ·refine jK (off:=1) ha rfl ?_;refine jK (off:=1) hb rfl ?_;rw[gA,bH (by simp)];exact hJ
 simp only[aC];rw[eX];refine zC (λw'=>Ext w w') (λJ hJ=>?_) λ_ w3 hx3=>?_
 ·refine jK (off:=2) ha rfl ?_;refine jK (off:=2) hb rfl ?_;refine CF h1.sl h1'.sl (lJ h1) λw' hx=>?_;rw[fH];exact hJ w' hx
 have ha3:=hx3.at ha id;have hb3:=hx3.at hb id;simp only[aC];rw[eX];refine mE (λJ hJ=>?_) λ_=>?_
 ·refine jK (off:=3) ha3 rfl ?_;refine jK (off:=3) hb3 rfl ?_;rw[dQ,bH (by simp)];exact hJ
 simp only[aC];rw[eX];refine mE (λJ hJ=>?_) λ_=>?_
 ·refine jK (off:=4) ha3 rfl ?_;refine jK (off:=4) hb3 rfl ?_;rw[dQ,bH (by simp)];exact hJ
 simp only[aC];rw[eX];refine mE (λJ hJ=>?_) λ_=>?_
 ·refine jK (off:=5) ha3 rfl ?_;refine jK (off:=5) hb3 rfl ?_;rw[UK,bne_self_eq_false];exact hJ
 simp only[aC];rw[eX];refine mE (λJ hJ=>?_) λ_=>?_
 ·refine jK (off:=6) ha3 rfl ?_;refine jK (off:=6) hb3 rfl ?_;rw[UK,bne_self_eq_false];exact hJ
 simp only[aC];rw[eX];refine zC (λw'=>Ext w w') (λJ hJ=>?_) λ_ w4 hx4=>?_
 ·refine jK (off:=7) ha3 rfl ?_;refine jK (off:=7) hb3 rfl ?_;refine Ge (h2.sl.ext hx3) (h2'.sl.ext hx3) (lJ h2) λw' hx=>?_;rw[fH];exact hJ w' (hx3.trans hx)
 simp only[aC];rw[eX];refine mE (λJ hJ=>?_) λ_=>?_
 ·refine jK (off:=8) (hx4.at ha id) rfl ?_;refine jK (off:=8) (hx4.at hb id) rfl ?_;rw[dQ,bH (by simp)];exact hJ
 simp only[aC];rw[eX,bQ];exact hK w4 hx4
theorem Xc{r:Cl}{B B' a b:Nat}{c c':List Value}{T':TypeId}{KT KF:World->Prop}(hc:ClR w B r c)(hc':ClR w B' r c')(ha:w.heap[a]?=some (.cells c.toArray T (0,0)))(hb:w.heap[b]?=some (.cells c'.toArray T' (0,0)))(hK:∀w',Ext w w'->KT w'):
  aR 0 (pA a) λt182=>
  ldW false 1 t182 w λt183=>
  aR 0 (pA b) λt184=>
  ldW false 1 t184 w λt185=>
  aS .neq t183 t185 λt186=>
  GdW (isB t186 false) [undef] w (λJ62=>
   aR 1 (pA a) λt188=>
   ldW false 1 t188 w λt189=>
   aR 1 (pA b) λt190=>
   ldW false 1 t190 w λt191=>
   aS .neq t189 t191 λt192=>
   J62 [t192] w)
  λs62 _ w63=>
  cZ t186 (.bool true) (s62.getD 0 undef) λt193=>
  GdW (isB t193 false) [undef] w63 (λJ64=>
   aR 2 (pA a) λt195=>
   ldW false 1 t195 w63 λt196=>
   aR 2 (pA b) λt197=>
   ldW false 1 t197 w63 λt198=>
   aJ P0 102 [t196,t198] w63 λt199 w65=>
   unW .not t199 λt200=>
   J64 [t200] w65)
  λs64 _ w66=>
  cZ t193 (.bool true) (s64.getD 0 undef) λt201=>
  GdW (isB t201 false) [undef] w66 (λJ67=>
   aR 3 (pA a) λt203=>
   ldW false 1 t203 w66 λt204=>
   aR 3 (pA b) λt205=>
   ldW false 1 t205 w66 λt206=>
   aS .neq t204 t206 λt207=>
   J67 [t207] w66)
  λs67 _ w68=>
  cZ t201 (.bool true) (s67.getD 0 undef) λt208=>
  bB t208 (KF w68) (KT w68):=by
 obtain⟨va,rfl,h1⟩:=hc;obtain⟨va',rfl,h1'⟩:=hc';refine jK (off:=0) ha rfl ?_;refine jK (off:=0) hb rfl ?_;rw[gA,bH (by simp)];refine mE (λJ hJ=>?_) λ_=>?_
 ·refine jK (off:=1) ha rfl ?_;refine jK (off:=1) hb rfl ?_;rw[dQ,bH (by simp)];exact hJ
 simp only[aC];rw[eX];refine zC (λw'=>Ext w w') (λJ hJ=>?_) λ_ w3 hx3=>?_
 ·refine jK (off:=2) ha rfl ?_;refine jK (off:=2) hb rfl ?_;refine CF h1.sl h1'.sl (lJ h1) λw' hx=>?_;rw[fH];exact hJ w' hx
 simp only[aC];rw[eX];refine mE (λJ hJ=>?_) λ_=>?_
 ·refine jK (off:=3) (hx3.at ha id) rfl ?_;refine jK (off:=3) (hx3.at hb id) rfl ?_;rw[dQ,bH (by simp)];exact hJ
 simp only[aC];rw[eX,bQ];exact hK w3 hx3
end
theorem Kb{B:Nat}{r:Rs}{c:List Value}(h:RsR w B r c):c.all jM=true/\c.length=9:=by
 obtain⟨va,vd,rfl,h1,h2⟩:=h;refine⟨?_,rfl⟩;simp only[wM,Ei,fV h1.sl,fV h2.sl];rfl
theorem KI{B:Nat}{r:Cl}{c:List Value}(h:ClR w B r c):c.all jM=true/\c.length=4:=by
 obtain⟨va,rfl,h1⟩:=h;refine⟨?_,rfl⟩;simp only[wM,Ei,fV h1.sl];rfl
theorem YL{b:Nat}{c:List Value}{x y z:Value}{K:Value->Prop}(hb:w.heap[b]?=some (.cells c.toArray T (0,0)))(h1:c[1]?=some x)(h2:c[2]?=some y)(h3:c[3]?=some z)(hK:K (.agg [x,y,z].toArray)):aR 1 (pA b) λt=>ldW true 3 t w K:=by
 rw[bE,xP];refine⟨[x,y,z],?_,hK⟩;simp only[bV,bL,cM,hb,bT,bN,aI,Nat.reduceAdd,h1,h2,h3];rfl
section
variable [HX]
theorem YK{m:Md}{L L':ML}{B B':Nat}{K:Q0}(h:MdR w B L m)(h':MdR w B' L' m)(hK:∀w',Ext w w'->K (.bool true) w'):
  aJ P0 58 [.agg (L.cells m.dir).toArray,.agg (L'.cells m.dir).toArray] w K:=by
 refine XC ?_;unfold W58;refine fZ λa w1 ha hz1 hba1 hx1=>?_;refine fZ λb w2 hb hz2 hbb hx2=>?_;have hx02:=hx1.trans hx2;have hba:=hx2.at hba1 id;refine jK (off:=0) (v:=str m.dir) hba rfl ?_;refine jK (off:=0) (v:=str m.dir) hbb rfl ?_;rw[gA,bH (by simp)];refine zC (λw'=>Ext w2 w') (λJ hJ=>?_) λ_ w3 hx3=>?_
 ·refine YL hba rfl rfl rfl ?_;refine YL hbb rfl rfl rfl ?_;have hf:=h.fo.few;refine Vo (f:=m.fl) (g:=m.fl) (h.fo.fv.ext hx02) (h'.fo.fv.ext hx02) (RY _) hf.1 hf.2.1 hf.2.2 λw' hx=>?_;rw[fH];exact hJ w' hx
 have hx03:=hx02.trans hx3;have hba3:=hx3.at hba id;have hbb3:=hx3.at hbb id;simp only[aC];rw[eX];refine mE (λJ hJ=>?_) λ_=>?_
 ·refine jK (off:=4) (v:=L.vV) hba3 rfl ?_;rw[eO h.oV.sl];refine jK (off:=4) (v:=L'.vV) hbb3 rfl ?_;rw[eO h'.oV.sl,dQ,bH (by simp)];exact hJ
 simp only[aC];rw[eX];refine zC (λw'=>Ext w3 w') (λJ hJ=>?_) λ_ w4 hx4=>?_
 ·refine jK (off:=5) (v:=L.vL) hba3 rfl ?_;refine jK (off:=5) (v:=L'.vL) hbb3 rfl ?_;refine CF (h.oL.sl.ext hx03) (h'.oL.sl.ext hx03) (lJ h.oL) λw' hx=>?_;rw[fH];exact hJ w' hx
 have hx04:=hx03.trans hx4;simp only[aC];rw[eX];refine zC (λw'=>Ext w3 w') (λJ hJ=>?_) λ_ w5 hx5=>?_
 ·refine jK (off:=6) (v:=L.vO) (hx4.at hba3 id) rfl ?_;refine jK (off:=6) (v:=L'.vO) (hx4.at hbb3 id) rfl ?_;refine CF (h.oO.sl.ext hx04) (h'.oO.sl.ext hx04) (lJ h.oO) λw' hx=>?_;rw[fH];exact hJ w' (hx4.trans hx)
 have hx05:=hx03.trans hx5;have hba5:=hx5.at hba3 id;have hbb5:=hx5.at hbb3 id;simp only[aC];rw[eX];refine mE (λJ hJ=>?_) λ_=>?_
 ·refine jK (off:=7) (v:=L.vR) hba5 rfl ?_;rw[eO h.oR.sl];refine jK (off:=7) (v:=L'.vR) hbb5 rfl ?_;rw[eO h'.oR.sl,dQ,bH (by simp)];exact hJ
 simp only[aC];rw[eX];refine mE (λJ hJ=>?_) λ_=>?_
 ·refine jK (off:=8) (v:=L.vC) hba5 rfl ?_;rw[eO h.oC.sl];refine jK (off:=8) (v:=L'.vC) hbb5 rfl ?_;rw[eO h'.oC.sl,dQ,bH (by simp)];exact hJ
 simp only[aC];rw[eX,bQ];refine jK (off:=4) (v:=L.vV) hba5 rfl ?_;rw[eO h.oV.sl];have few:=lJ h.oV;refine dL.go (λst w'=>∃i:Nat,st=[i64 (i:Nat)]/\i<=m.vars.length/\Ext w5 w') (λst _=>match st with|[.int _ i]=>m.vars.length-i.toNat|_=>0) ⟨0,rfl,by omega,Chg.refl _ _⟩ ?_;rintro st g w6 ⟨i,rfl,hi,hx6⟩;simp only[aC];rw[dI,bD];refine⟨λhlt=>?_,λhge=>?_⟩
 ·have hlt:i<m.vars.length:=by omega
  have hxd:=hx6.trans (cQ w6);generalize w6.drew=w7 at hxd;have hx07:=hx05.trans hxd;obtain⟨x,hxi⟩:∃x,m.vars[i]?=some x:=⟨_,aG hlt⟩;have e:((vrs m.vars).drop (i*3)).take 3=[str x.n,i64 x.d,i64 x.a]:=Cm hxi;refine jK (off:=4) (v:=L.vV) (hxd.at hba5 id) rfl ?_;refine lZ (h.oV.sl.ext hx07) (Aq _) (by omega) hlt ?_;refine jK (off:=4) (v:=L'.vV) (hxd.at hbb5 id) rfl ?_;refine lZ (h'.oV.sl.ext hx07) (Aq _) (by omega) hlt ?_;rw[e];refine YO ?_;rw[bQ,cJ,upj (by omega)];refine⟨⟨i+1,rfl,by omega,hxd⟩,?_⟩;simp only[aV];omega
 have hx06:=hx05.trans hx6;have hba6:=hx6.at hba5 id;have hbb6:=hx6.at hbb5 id;refine jK (off:=7) (v:=L.vR) hba6 rfl ?_;rw[eO h.oR.sl];have few:=lJ h.oR;refine dL.go (λst w'=>∃i:Nat,st=[i64 (i:Nat)]/\i<=m.res.length/\Ext w6 w') (λst _=>match st with|[.int _ i]=>m.res.length-i.toNat|_=>0) ⟨0,rfl,by omega,Chg.refl _ _⟩ ?_;rintro st g w7 ⟨i,rfl,hi,hx7⟩;simp only[aC];rw[dI,bD];refine⟨λhlt=>?_,λhge=>?_⟩
 ·have hlt:i<m.res.length:=by omega
  have hxd:=hx7.trans (cQ w7);generalize w7.drew=w8 at hxd;have hx08:=hx06.trans hxd;obtain⟨x,hxi⟩:∃x,m.res[i]?=some x:=⟨_,aG hlt⟩;have h8:=h.keep hx08 λ_ _ e=>e;have h8':=h'.keep hx08 λ_ _ e=>e;have r1:=h8.rr.2 i x hxi;have r2:=h8'.rr.2 i x hxi;obtain⟨p1,a1,a2⟩:=Pg h8.oR.sl h8.rr (by omega) hxi;obtain⟨p2,a1',a2'⟩:=Pg h8'.oR.sl h8'.rr (by omega) hxi;have ba:=hxd.at hba6 id;have bb:=hxd.at hbb6 id;obtain⟨o1,o2⟩:=Kb r1;obtain⟨o1',o2'⟩:=Kb r2;generalize (L.cR.drop (i*9)).take 9=c at*
  generalize (L'.cR.drop (i*9)).take 9=c' at*
  refine dE.cut (PJ w8 RsT c c') ?_ ?_
  ·rw[bE];refine rE (ld5 (off:=7) (v:=L.vR) ba rfl) ?_;refine uF a1 ?_;refine rE a2 ?_;rw[bE];refine rE (ld5 (off:=7) (v:=L'.vR) bb rfl) ?_;refine uF a1' ?_;refine rE a2' ?_;exact Co (J:=PJ w8 RsT c c') (T:=RsT) (n:=9) rfl o2 o2' o1 o1' (ld5 (off:=7) ba rfl) a2 (ld5 (off:=7) bb rfl) a2' λa b w5 hx5 _ ha hb=>⟨a,b,rfl,hx5,ha,hb⟩
  rintro st g3 w9 ⟨q1,q2,rfl,hx9,hq1,hq2⟩;simp only[aC,bO];refine Yz (r1.at_ hx9 λ_ _ e=>e) (r2.at_ hx9 λ_ _ e=>e) hq1 hq2 λw10 hx10=>?_;rw[cJ,upj (by omega)];refine⟨⟨i+1,rfl,by omega,(hxd.trans hx9).trans hx10⟩,?_⟩;simp only[aV];omega
 have hx07:=hx06.trans hx7;have hba7:=hx7.at hba6 id;have hbb7:=hx7.at hbb6 id;refine jK (off:=8) (v:=L.vC) hba7 rfl ?_;rw[eO h.oC.sl];have few:=lJ h.oC;refine dL.go (λst w'=>∃i:Nat,st=[i64 (i:Nat)]/\i<=m.calls.length/\Ext w7 w') (λst _=>match st with|[.int _ i]=>m.calls.length-i.toNat|_=>0) ⟨0,rfl,by omega,Chg.refl _ _⟩ ?_;rintro st g w8 ⟨i,rfl,hi,hx8⟩;simp only[aC];rw[dI,bD];refine⟨λhlt=>?_,λhge=>hK w8 (hx07.trans hx8)⟩;have hlt:i<m.calls.length:=by omega
 have hxd:=hx8.trans (cQ w8);generalize w8.drew=w9 at hxd;have hx09:=hx07.trans hxd;obtain⟨x,hxi⟩:∃x,m.calls[i]?=some x:=⟨_,aG hlt⟩;have h9:=h.keep hx09 λ_ _ e=>e;have h9':=h'.keep hx09 λ_ _ e=>e;have r1:=h9.cc.2 i x hxi;have r2:=h9'.cc.2 i x hxi;obtain⟨p1,a1,a2⟩:=Pg h9.oC.sl h9.cc (by omega) hxi;obtain⟨p2,a1',a2'⟩:=Pg h9'.oC.sl h9'.cc (by omega) hxi;have ba:=hxd.at hba7 id;have bb:=hxd.at hbb7 id;obtain⟨o1,o2⟩:=KI r1;obtain⟨o1',o2'⟩:=KI r2;generalize (L.cC.drop (i*4)).take 4=c at*
 generalize (L'.cC.drop (i*4)).take 4=c' at*
 refine dE.cut (PJ w9 ClT c c') ?_ ?_
 ·rw[bE];refine rE (ld5 (off:=8) (v:=L.vC) ba rfl) ?_;refine uF a1 ?_;refine rE a2 ?_;rw[bE];refine rE (ld5 (off:=8) (v:=L'.vC) bb rfl) ?_;refine uF a1' ?_;refine rE a2' ?_;exact Co (J:=PJ w9 ClT c c') (T:=ClT) (n:=4) rfl o2 o2' o1 o1' (ld5 (off:=8) ba rfl) a2 (ld5 (off:=8) bb rfl) a2' λa b w5 hx5 _ ha hb=>⟨a,b,rfl,hx5,ha,hb⟩
 rintro st g3 w10 ⟨q1,q2,rfl,hx10,hq1,hq2⟩;simp only[aC,bO];refine Xc (r1.at_ hx10 λ_ _ e=>e) (r2.at_ hx10 λ_ _ e=>e) hq1 hq2 λw11 hx11=>?_;rw[cJ,upj (by omega)];refine⟨⟨i+1,rfl,by omega,(hxd.trans hx10).trans hx11⟩,?_⟩;simp only[aV];omega
theorem YX{mods:List Md}{v':Value}{Ls Ls':List ML}{B B':Nat}{K:Q0}(h:CfR w B v Ls mods)(h':CfR w B' v' Ls' mods)(hK:∀w',Ext w w'->K (.bool true) w'):
  aJ P0 24 [.agg [v].toArray,.agg [v'].toArray] w K:=by
 refine XV ?_;unfold W24;refine fZ (z:=[v]) λa w1 ha hz1 hba1 hx1=>?_;refine fZ (z:=[v']) λb w2 hb hz2 hbb hx2=>?_;have hx02:=hx1.trans hx2;have hba:=hx2.at hba1 id;refine jK (off:=0) (v:=v) hba rfl ?_;rw[eO h.ow.sl];refine jK (off:=0) (v:=v') hbb rfl ?_;rw[eO h'.ow.sl,dQ,bH (by simp),bQ];refine jK (off:=0) (v:=v) hba rfl ?_;rw[eO h.ow.sl];have few:=lJ h.ow;refine dL.go (λst w'=>∃i:Nat,st=[i64 (i:Nat)]/\i<=mods.length/\Ext w2 w') (λst _=>match st with|[.int _ i]=>mods.length-i.toNat|_=>0) ⟨0,rfl,by omega,Chg.refl _ _⟩ ?_;rintro st g w3 ⟨i,rfl,hi,hx3⟩;simp only[aC];rw[dI,bD];refine⟨λhlt=>?_,λhge=>hK w3 (hx02.trans hx3)⟩;have hlt:i<mods.length:=by omega
 have hxd:=hx3.trans (cQ w3);generalize w3.drew=w4 at hxd;have hx04:=hx02.trans hxd;obtain⟨m,hmi⟩:∃m,mods[i]?=some m:=⟨_,aG hlt⟩;obtain⟨L,hL⟩:∃L,Ls[i]?=some L:=⟨_,aG (by rw[h.len];exact hlt)⟩;obtain⟨L',hL'⟩:∃L,Ls'[i]?=some L:=⟨_,aG (by rw[h'.len];exact hlt)⟩;have h4:=h.ext hx04;have h4':=h'.ext hx04;refine jK (off:=0) (v:=v) (hxd.at hba id) rfl ?_;refine lZ h4.ow.sl (Gx h.len) (by omega) hlt ?_;refine jK (off:=0) (v:=v') (hxd.at hbb id) rfl ?_;refine lZ h4'.ow.sl (Gx h'.len) (by omega) hlt ?_;rw[AO hL hmi,AO hL' hmi];refine YK (h4.md i L m hL hmi) (h4'.md i L' m hL' hmi) λw5 hx5=>?_;rw[fH,dH,bQ,cJ,upj (by omega)];refine⟨⟨i+1,rfl,by omega,hxd.trans hx5⟩,?_⟩;simp only[aV];omega
end
structure Calm(s:Vfs.MS)(n:Nat):Prop where
 live:s.dead=false
 left:s.left=-1
 few:s.files.length<=n
theorem OL(l:Vfs.Files)(p:Str)(x:Vfs.MF):(Vfs.wth l p x).length<=l.length+1:=by
 unfold Vfs.wth;rw[(Vfs.ins_perm _ p x).length_eq,aB];have:=(Vfs.wo_sub l p).length_le;omega
theorem Le{s:Vfs.MS}(h:Calm s n):Vfs.vstepM s=(⟨s.files,IntKind.i64.wrap (s.steps+1),-1,false⟩,0):=by
 obtain⟨fs,st,lf,d⟩:=s;have h1:d=false:=h.live;have h2:lf=-1:=h.left;subst h1 h2;unfold Vfs.vstepM;rw[aL (by simp),aL (by show¬((-1:Int)>0);omega)]
theorem CI{s:Vfs.MS}(h:Calm s n)(hn:n<64)(p data:Str):Calm (Vfs.writeM s p data false).1 (n+1)/\(Vfs.good p=true->data.length<=65536->(Vfs.writeM s p data false).2=0/\∀q,q≠p->Vfs.lkM (Vfs.writeM s p data false).1.files q=Vfs.lkM s.files q):=by
 have hs:=Le h;have hf:=h.few;have h1:Calm s (n+1):=⟨h.live,h.left,by omega⟩;unfold Vfs.writeM;by_cases c1:Vfs.good p=false
 ·rw[aU c1];exact⟨h1,λe=>by rw[c1]at e;cases e⟩
 rw[aL c1];by_cases c2:data.length>65536\/(Vfs.lkM s.files p=none/\64<=s.files.length)
 ·rw[aU c2];exact⟨h1,λ_ e=>by rcases c2 with c|c<;>omega⟩
 rw[aL c2,aL (by simp),hs,aL (by simp)];refine⟨⟨rfl,rfl,?_⟩,λ_ _=>⟨rfl,λq hq=>?_⟩⟩
 ·have:=OL s.files p ⟨data,((Vfs.lkM s.files p).map (·.safe)).getD [],((Vfs.lkM s.files p).map (·.saved)).getD false⟩;show(Vfs.wth s.files p _).length<=n+1;omega
 ·show Vfs.lkM (Vfs.wth s.files p _) q=_;rw[Vfs.lk_wth,aL hq]
theorem DL:∀(l:List (Str×Str)) (s:Vfs.MS) (n:Nat),Calm s n->n+l.length<=60->Calm (yD l s) (n+l.length)
 |[],s,n,h,_=>h
 |(p,t)::l,s,n,h,hn=>by
  simp only[aB]at hn⊢
  have:=DL l _ (n+1) (CI h (by omega) p (t.take 6000)).1 (by omega)
  rw[show n+(l.length+1)=n+1+l.length by omega]
  exact this
theorem Iu(ps ts:List Str):Calm (Ak ps ts) 60:=by
 have hl:((ps.zip ts).take 20).length<=20:=by rw[cO];omega
 have:=DL ((ps.zip ts).take 20) Vfs.newM 0 ⟨rfl,rfl,aZ _⟩ (by omega);exact⟨this.live,this.left,by have:=this.few;unfold Ak;omega⟩
theorem Mi{s:Vfs.MS}(h:Calm s 60)(d:Str)(hd:d.length<=65536):(Vfs.writeM s BM d false).2=0/\rD (rdF (Vfs.writeM s BM d false).1) 4 [] []=rD (rdF s) 4 [] []:=by
 obtain⟨h1,h2⟩:=(CI h (by omega) BM d).2 (by decide) hd;refine⟨h1,Ji (λp hp=>?_) 4⟩;unfold rdF;rw[h2 p hp]
section
variable [HX]
theorem capart_true{ps ts:List Str}{t:Str}{vp vt:Value}{T1 T2:TypeId}{K:Q0}(hT:TabI w)(hps:SlAt w T1 vp ps.length (strs ps))(hts:SlAt w T2 vt ts.length (strs ts))(hpl:∀p∈ps,p.length<=9223372036854775807)(_ht:t.length<=9223372036854775807)(hK:∀w',Ext w w'->K (.bool true) w'):
  aJ P0 8 [.agg [vp,vt].toArray,str t] w K:=by
 refine Zd ?_;unfold W8;refine fZ (z:=[vp,vt]) λb2 w1 hb2 hz1 hbb2 hx1=>?_;refine KP (pU hT hx1) λw2 hx2=>?_;have hx02:=hx1.trans hx2;rw[fH,dH,bQ];refine gF (hx2.at hbb2 id) rfl ?_;refine GK (ps:=ps) (ts:=ts) (hps.ext hx02) (hts.ext hx02) hpl λb m l w4 hfs4 hll hl1=>?_;simp only[bY];refine⟨_,rfl,_,rfl,?_⟩;refine cK λb6 w5 hb6 hz5 hbb6 hx5=>?_;refine cY hbb6 hll rfl hl1 λw6 hz6 hbb66 hc6=>?_;have hx46:Ext w4 w6:=hx5.new hc6 (by omega);have hfs6:=hfs4.more hx46;rw[Fx.eq_pn,bQ];have hx06:Ext w w6:=hx02.trans hfs6.ext;have hgb:=hfs6.fs.lt;have hgm:=hfs6.fs.mlt;have hcalm:=Iu ps ts;have hwr:=Mi hcalm (t.take 1000) (by rw[cO];omega);have hmin:(if(1000:Int)<(t.length:Nat)then(1000:Int)else(t.length:Nat))=((min 1000 t.length:Nat):Int):=by split<;>omega
 have htk:t.take (min 1000 t.length)=t.take 1000:=by rw[List.take_eq_take_iff];omega
 refine By (pU hT hx06) hfs6.fs hfs6.ok (λmods hl v Ls w7 hx7 hcf=>?_) (λc p a hl d w7 hx7 hd hdb=>?_)
 ·have hfs7:=hfs6.more hx7;have hz7:=hx7.size;simp only[bY];refine⟨_,rfl,_,rfl,?_⟩;refine cK λb7 w8 hb7 hz8 hbb7 hx8=>?_;refine cY (l:=[v]) hbb7 rfl rfl (by simp[fV hcf.ow.sl]) λw9 hz9 hbb79 hc9=>?_;have hx79:Ext w7 w9:=hx8.new hc9 (by omega);rw[dV,iF,fA,eR,hmin];refine⟨by omega,by omega,?_⟩;rw[fC,eZ,aV,htk];refine Aw (by kernel_rfl) (by kernel_rfl) (by kernel_rfl) λdv w10 hdv hx10=>?_;have hfs10:=(hfs7.more hx79).more hx10;have hcf10:=(hcf.ext hx79).ext hx10;refine Fx.fwrite (p:=BM) hfs10 hdv λw11 hfs11 hc11=>?_;have hcf11:CfR w11 w6.heap.size v Ls mods:=hcf10.keep hc11 (λk hk e=>by have:=hcf10.in_.1 k hk;have e:k=b\/k=m:=e;omega) (λL hL k hk e=>by have:=hcf10.in_.2 L hL k hk;have e:k=b\/k=m:=e;omega);have hbb711:=hc11.at (hx10.at hbb79 id) (λe=>by have e:b7=b\/b7=m:=e;omega);rw[hwr.1,dQ,bH (by simp),bQ];have hx011:Ext w w11:=hx02.trans hfs11.ext;refine By (pU hT hx011) hfs11.fs hfs11.ok (λmods' hl' v' Ls' w12 hx12 hcf'=>?_) (λc p a hl'=>by rw[hwr.2,hl]at hl';cases hl');obtain rfl:mods=mods':=by rw[hwr.2,hl]at hl';injection hl'
  simp only[bY];refine⟨_,rfl,_,rfl,?_⟩;refine cK λb9 w13 hb9 hz13 hbb9 hx13=>?_;refine cY (l:=[v']) hbb9 rfl rfl (by simp[fV hcf'.ow.sl]) λw14 hz14 hbb914 hc14=>?_;have hx1214:Ext w12 w14:=hx13.new hc14 (by omega);have hx1114:=hx12.trans hx1214;rw[UE,bQ,UL,fT];refine GdW.act true (λw'=>Ext w14 w') (λe=>by cases e) (λ_ J hJ=>?_) λg3 w15 hx15=>?_
  ·refine gF (hx1114.at hbb711 id) rfl ?_;refine gF hbb914 rfl ?_;exact YX (hcf11.ext hx1114) (hcf'.ext hx1214) λw' hx=>hJ w' hx
  ·simp only[aC];rw[fG];exact hK w15 ((hx011.trans hx1114).trans hx15)
 ·have hfs7:=hfs6.more hx7;have hz7:=hx7.size;simp only[bY];refine⟨_,rfl,_,rfl,?_⟩;refine cK λb7 w8 hb7 hz8 hbb7 hx8=>?_;refine cY (l:=[.slice none 0 0]) hbb7 rfl rfl rfl λw9 hz9 hbb79 hc9=>?_;have hx79:Ext w7 w9:=hx8.new hc9 (by omega);rw[dV,iF,fA,eR,hmin];refine⟨by omega,by omega,?_⟩;rw[fC,eZ,aV,htk];refine Aw (by kernel_rfl) (by kernel_rfl) (by kernel_rfl) λdv w10 hdv hx10=>?_;have hfs10:=(hfs7.more hx79).more hx10;refine Fx.fwrite (p:=BM) hfs10 hdv λw11 hfs11 hc11=>?_;have hdb11:=hc11.at (hx10.at (hx79.at hdb id) id) (λe=>by have e:d=b\/d=m:=e;omega);rw[hwr.1,dQ,bH (by simp),bQ];have hx011:Ext w w11:=hx02.trans hfs11.ext;refine By (pU hT hx011) hfs11.fs hfs11.ok (λmods' hl'=>by rw[hwr.2,hl]at hl';cases hl') (λc' p' a' hl' d' w12 hx12 hd' hdb'=>?_);obtain⟨rfl,rfl,rfl⟩:c=c'/\p=p'/\a=a':=by
   rw[hwr.2,hl]at hl';injection hl' with e1 e2 e3
   exact⟨e1,e2,e3⟩
  simp only[bY];refine⟨_,rfl,_,rfl,?_⟩;refine cK λb9 w13 hb9 hz13 hbb9 hx13=>?_;refine cY (l:=[.slice none 0 0]) hbb9 rfl rfl rfl λw14 hz14 hbb914 hc14=>?_;have hx1214:Ext w12 w14:=hx13.new hc14 (by omega);have hx1114:=hx12.trans hx1214;have hd1:=(hx1114.trans (cQ w14)).at hdb11 id;have hd2:=(hx1214.trans (cQ w14)).at hdb' id;have hxe:=(hx011.trans hx1114).trans (cQ w14);generalize w14.drew=w15 at hd1 hd2 hxe;rw[Fx.ne_pn,dG,Fx.ne_pn];simp only[fT];have fl:∀{x:Nat} {j:Nat} {u:Value} {B:Value->Prop},w15.heap[x]?=some (.cells [i64 c,str p,i64 a].toArray 48 (0,0))->([i64 c,str p,i64 a]:List Value)[j]?=some u->B u->
    GqW true (λk=>k (pA x)) λt44=>GqW true (λk=>eC t44 k) λt45=>GqW true (λk=>aR j t45 k) λt46=>GqW true (λk=>ldW false 1 t46 w15 k) B:=λhb hu hB=>by
   refine Fx.GqW.t (pA _) rfl ?_;refine Fx.GqW.t (pA _) rfl ?_;refine Fx.GqW.t (.pointer (some ⟨_,_,none⟩)) (by rw[bE,bL,aI]) ?_;exact Fx.GqW.t _ (ldb hb hu rfl) hB
  refine fl (j:=0) hd1 rfl ?_;refine fl (j:=0) hd2 rfl ?_;refine Fx.GqW.t (.bool true) (by rw[cL,bW rfl]) ?_;rw[iE];simp only[fT];refine fl (j:=1) hd1 rfl ?_;refine fl (j:=1) hd2 rfl ?_;refine Fx.GqW.t (.bool true) (by rw[eQ,bW rfl]) ?_;rw[iE];simp only[fT];refine fl (j:=2) hd1 rfl ?_;refine fl (j:=2) hd2 rfl ?_;refine Fx.GqW.t (.bool true) (by rw[cL,bW rfl]) ?_;rw[iE];exact hK w15 hxe
end
end
section
open Go Go.RowKit Go.Eng
variable{w:World}{K:Q0}{cs:List Value}{G:Nat->Prop}{T:TypeId}{i:Nat}{n:Nat}{v:Value}{w':World}{P:Program}{c:UInt8}{S:Nat->Prop}
theorem tabi_of(hsh:w.ShapedOpen P0):TabI w:=
 Go.Proofs.cell_of_shapedOpen_int (t:=3) (zero:=#[.int .i64 0]) hsh (eK (by kernel_rfl)) (by kernel_rfl) rfl (by kernel_rfl) (by kernel_rfl) Tryz.underlying3
theorem handed_and_shaped{H:Type}{enc:TypeId×Value->H}{a:Assume}{C:Checked}{os:Os}{f:FuncId}{fn:Func}{s:ChangeSpec}{conds:List PathCond}{apart fresh handsOn again:Bool}{X:World->Array Value->Prop}
  (hX:∀(w w':World) (args:Array Value),w.heap=w'.heap->X w args->X w' args)
  (own:ownKnob C.prog.godebug=none)(started:os.Started)(noInit:C.prog.inits.idxOf? f=none)(hfn:C.prog.funcs[f]?=some fn)
  (witness:∃(w:World) (tape:Tape) (i:Input),w.os=os/\(w.forCall tape i).Shaped C.prog/\i.vars=[]/\Input.okWide C.prog (w.forCall tape i) .any w.heap.size f i/\
    ((s.pre enc C.prog fn conds apart (w.forCall tape i).memory i.args/\X (w.forCall tape i).memory i.args)/\sizedMet enc C.prog fn (OpenSpec.ofChange s) apart (w.forCall tape i).memory i.args)/\a.holds C.prog (lone (Frame.enter C.prog f i.args .normal) [] (w.forCall tape i)))
  (contract:∀(W:World) (base:Nat) (args:Array Value) (ds gs:List (DataW H)) (before:List MemPlace),
    (∀(j:Nat) t v,fn.params[j]?=some t->args[j]?=some v->Value.okWide C.prog W .any base t v)->
    DataW.Whole enc C.prog fn.params.toList s.vars apart W args.toList ds gs before->
    conds.all (PathCond.test C.prog ⟨fn.params.toList,ds,s.plain.varTypes C.prog,gs⟩)=true->
    (DataW.weightsEach C.prog (fn.params.toList++s.plain.varTypes C.prog) (ds++gs)).all (· <=reachBytes)=true->X W args->W.ShapedOpen C.prog->
    a.holds C.prog (lone (Frame.enter C.prog f args .normal) [] W)->
    Calls C.prog f args W λe W'=>∃v,e=.returned v/\s.post enc C.prog fn apart fresh handsOn again W args v W'):
  ReturnsInHanded a C os f .any (λw args=>(s.pre enc C.prog fn conds apart w args/\X w args)/\sizedMet enc C.prog fn (OpenSpec.ofChange s) apart w args) (s.post enc C.prog fn apart fresh handsOn again):=by
 refine returnsInHanded_of_calls own started noInit witness ?_;intro w tape i _ hsh _ hok hpre hholds;obtain⟨_,_,_,fn',hfn',_,_,_,_,hval⟩:=hok;have e:fn'=fn:=Option.some.inj (hfn'.symm.trans hfn);subst e;obtain⟨⟨⟨ds,gs,before,hw,hc⟩,hx⟩,hz⟩:=hpre;have hw':=DataW.Whole.of_heap (w':=w.forCall tape i) (by rfl) hw;refine(contract (w.forCall tape i) w.heap.size i.args ds gs before hval hw' hc (hz.weights hw) (hX _ _ _ (by rfl) hx) hsh hholds).mono λe W' ⟨v,he,hp⟩=>?_;subst he;exact ChangeSpec.post_blind hp
section
variable{H:Type}{enc:TypeId×Value->H}{w:World}{base:Nat}{spare:Nat->Bool}{held:Bool}
theorem fopen_s{d:DataW H}{ps:List MemPlace}{r:Reach}{b0:Nat}(hval:Value.okWide P0 w r b0 9 v)(h:DataW.Trod enc P0 w base spare held 9 v d ps):∃s:Str,v=str s/\s.length<=9223372036854775807:=by
 obtain⟨s,rfl,_,_,hs⟩:=Go.ChangeMaps.open_string Tryz.underlying9 hval h;exact⟨s.data.toList,by simp[ofL],by unfold maxLen at hs;simpa using hs⟩
end
end
end Go.Proofs.YtjblfcfdeaagpaaGreatDoor
namespace Go.Eng
section
open Go Go.Deep
variable{w:World}{K:Q0}{cs:List Value}{G:Nat->Prop}{T:TypeId}{i:Nat}{n:Nat}{v:Value}{w':World}{P:Program}{c:UInt8}{S:Nat->Prop}
theorem flat_get{k:Nat}:∀(L:List (List Value)) (i r:Nat) (y:List Value),(∀z∈L,z.length=k)->r<k->L[i]?=some y->L.flatten[i*k+r]?=y[r]?
 |[],i,_,_,_,_,h=>by simp at h
 |z::L,0,r,y,hl,hr,h=>by
  simp only[bG,bA]at h
  subst h
  simp only[zK,Ef,aI]
  rw[fQ (by rw[hl z aW];exact hr)]
 |z::L,i+1,r,y,hl,hr,h=>by
  simp only[bF]at h
  have:=flat_get L i r y (λu hu=>hl u (aD _ hu)) hr h
  rw[<-this]
  simp only[zK]
  have hz:=hl z aW
  rw[fU (by rw[hz,mM];omega)]
  congr 1
  rw[hz,mM]
  omega
theorem HV{k:Nat}:∀(L:List (List Value)),(∀z∈L,z.length=k)->L.flatten.length=L.length*k
 |[],_=>by simp
 |z::L,hl=>by
  rw[zK,aP,HV L λu hu=>hl u (aD _ hu),hl z aW,aB,mM]
  omega
section
variable{H:Type}{enc:TypeId×Value->H}{P:Program}{w:World}{base:Nat}{spare:Nat->Bool}{held:Bool}
theorem Lv{t e:TypeId}{k fuel:Nat}{d:DataW H}{ps:List MemPlace}(ht:P.underlying t=some (.slice e))(hk:P.cellsOf e=k)(hk0:0<k)(h:DataW.trod enc P w base spare held fuel t [v]=some (d,ps)):
  ∃p n c T m,∃(f:Nat->List Value) (D:Nat->DataW H) (Pl:Nat->List MemPlace),v=.slice p n c/\SlAt w T (.slice p n c) n ((List.range n).map f).flatten/\
   (∀i,i<n->(f i).length=k/\DataW.trod enc P w base spare held m e (f i)=some (D i,Pl i))/\((n=0/\d=.nil)\/∃rest,d=.slice ((List.range n).map D) rest):=by
 rcases open_slice ht h with⟨hc,hx⟩|⟨a,len,cap,m,n,D,Pl,hc,_,hl,hm,hme,hx,hel⟩
 ·cases hc;cases hx;refine⟨none,0,0,0,0,λ_=>[],λ_=>.nil,λ_=>[],rfl,?_,λi hi=>by omega,.inl ⟨rfl,rfl⟩⟩;simpa using SlAt.nil w 0
 ·cases hc;cases hx;have hlm:len<=m:=by rw[hme];split<;>omega
  obtain⟨f,hf⟩:=choose_lt (n:=len) λi hi=>hel i (by omega);have hfl:∀i,i<len->(f i).length=k:=λi hi=>by rw[(World.cells?_some (hf i hi).1).2.1,hk]
  have hall:∀z∈(List.range len).map f,z.length=k:=by
   intro z hz;obtain⟨i,hi,rfl⟩:=gE.1 hz;exact hfl i (nJ.1 hi)
  have hcell:∀i r,i<len->r<k->w.cell? (a.add (i*k+r))=(f i)[r]?:=by
   intro i r hi hr;have:=(World.cells?_some (hf i hi).1).2.2 r (by omega);rw[add_add,hk]at this;exact this
  by_cases h0:len=0
  ·subst h0;refine⟨some a,0,cap,0,n,f,D,Pl,rfl,⟨some a,cap,rfl,dU _,(by intro e;cases e),(by simp)⟩,λi hi=>by omega,.inr ⟨_,rfl⟩⟩
  have h00:=hcell 0 0 (by omega) hk0;have hf0:=hfl 0 (by omega);rw[aG (by omega)]at h00;obtain⟨c,T,fr,hb,hsp⟩:∃c T fr,w.heap[a.block]?=some (.cells c T fr)/\a.spot=none:=by
   unfold World.cell? at h00;have e1:(a.add (0*k+0)).block=a.block:=by unfold Addr.add;split<;>rfl
   have e2:(a.add (0*k+0))=a:=by unfold Addr.add;simp
   rw[e2]at h00;split at h00
   ·rename_i c T fr hb;refine⟨c,T,fr,hb,?_⟩;cases hs:a.spot with
    |none=>rfl
    |some _=>simp[hs]at h00
   ·cases h00
  obtain⟨b,off,sp⟩:=a;simp only at hsp hb;subst hsp;refine⟨some ⟨b,off,none⟩,len,cap,T,n,f,D,Pl,rfl,⟨_,_,rfl,hl,(by intro e;cases e),λ_=>⟨b,off,c,fr,rfl,hb,λj hj=>?_⟩⟩,λi hi=>⟨hfl i hi,(hf i hi).2⟩,.inr ⟨_,rfl⟩⟩;rw[HV _ hall,fP,List.length_range]at hj;have hi:j/k<len:=by rw[Nat.div_lt_iff_lt_mul hk0];exact hj
  have hr:j%k<k:=Nat.mod_lt _ hk0;have hjj:j/k*k+j%k=j:=by rw[Nat.mul_comm];exact Nat.div_add_mod j k
  have h1:=hcell (j/k) (j%k) hi hr;rw[hjj,bL,cM,hb,bT]at h1;have h2:=flat_get ((List.range len).map f) (j/k) (j%k) (f (j/k)) hall hr (by simp[hi]);rw[hjj]at h2;rw[h1,h2]
end
end
end Go.Eng
namespace Go.Proofs.YtjblfcfdeaagpaaGreatDoor
section
open Go Go.RowKit Go.Eng Go.ChangeShapes
variable{w:World}{K:Q0}{cs:List Value}{G:Nat->Prop}{T:TypeId}{i:Nat}{n:Nat}{v:Value}{w':World}{P:Program}{c:UInt8}{S:Nat->Prop}
section
variable{H:Type}{enc:TypeId×Value->H}{w:World}{base:Nat}{spare:Nat->Bool}{held:Bool}
theorem LQ{t e:TypeId}{fuel:Nat}{p:Option Addr}{c:Nat}{x:DataW H×List MemPlace}(ht:P.underlying t=some (.slice e))(h:DataW.trod enc P w base spare held fuel t [.slice p n c]=some x):n<=9223372036854775807:=by
 rcases Deep.open_slice ht h with⟨hc,_⟩|⟨a,len,cap,m,n',D,Pl,hc,_,hl,hm,_⟩
 ·cases hc;omega
 ·cases hc;unfold maxLen at hm;omega
theorem BQ{t e:TypeId}{fuel:Nat}{d:DataW H}{ps:List MemPlace}(ht:P.underlying t=some (.slice e))(he:P.underlying e=some .string)(hk:P.cellsOf e=1)(h:DataW.trod enc P w base spare held fuel t [v]=some (d,ps)):
  ∃(T:TypeId) (l:List Str),SlAt w T v l.length (l.map str)/\l.length<=9223372036854775807/\(∀s∈l,s.length<=9223372036854775807)/\((l=[]/\d=.nil)\/∃ds rest,d=.slice ds rest/\ds.length=l.length):=by
 obtain⟨p,n,c,T,m,f,D,Pl,rfl,hs,hf,hd⟩:=Lv ht hk (by omega) h;have hn:=LQ ht h;have hex:∀i,i<n->∃b:Str,f i=[str b]/\b.length<=9223372036854775807:=by
  intro i hi;obtain⟨s,hx,_,hw⟩:=DataW.trod_string he (hf i hi).2;refine⟨s.data.toList,by rw[hx];simp[ofL],?_⟩;unfold maxLen at hw;simpa using hw
 obtain⟨g,hg⟩:=Deep.choose_lt hex;have hfl:((List.range n).map f).flatten=((List.range n).map g).map str:=by
  have:(List.range n).map f=(List.range n).map λi=>[str (g i)]:=List.map_congr_left λi hi=>(hg i (nJ.1 hi)).1;rw[this];simp only[uJ];generalize List.range n=L;induction L with
  |nil=>rfl
  |cons a L ih=>simp only[fW,zK,ih,Function.comp_apply];rfl
 rw[hfl]at hs;refine⟨T,(List.range n).map g,by simpa using hs,by simpa using hn,(λs hs=>?_),?_⟩
 ·obtain⟨i,hi,rfl⟩:=gE.1 hs;exact(hg i (nJ.1 hi)).2
 ·rcases hd with⟨rfl,hd⟩|⟨rest,hd⟩
  ·exact .inl ⟨rfl,hd⟩
  ·exact .inr ⟨_,rest,hd,by simp⟩
theorem open_tree{d:DataW H}{ps:List MemPlace}{r:Reach}{b0:Nat}(hval:Value.okWide P0 w r b0 51 v)(h:DataW.Trod enc P0 w base spare held 51 v d ps):
  ∃(T1 T2:TypeId) (vp vt:Value) (l1 l2:List Str),v=.agg [vp,vt].toArray/\SlAt w T1 vp l1.length (l1.map str)/\SlAt w T2 vt l2.length (l2.map str)/\∀s∈l1,s.length<=9223372036854775807:=by
 obtain⟨fuel,h⟩:=h;obtain⟨xs,n,hn,hx,hl,hlen,hf⟩:=DataW.trod_struct Tryz.underlying51 h;have hl7:v.cells.toList.length=2:=hl.trans (show Tryz.prog.cellsOf 51=2 by kernel_rfl);have k0:Tryz.prog.cellsOf 33=1:=by kernel_rfl
 have k1:Tryz.prog.cellsOf 9=1:=by kernel_rfl
 cases v with
 |agg arr=>
  obtain⟨cs⟩:=arr;simp only[Value.cells]at hl7 hf
  match cs,hl7 with
  |[c0,c1],_=>
  have f0:DataW.trod enc P0 w base spare held n 33 (([c0,c1].drop 0).take (Tryz.prog.cellsOf 33))=xs[0]?:=hf 0 _ rfl;rw[k0]at f0;have f0:DataW.trod enc P0 w base spare held n 33 [c0]=xs[0]?:=f0;have f1:DataW.trod enc P0 w base spare held n 33 (([c0,c1].drop 1).take (Tryz.prog.cellsOf 33))=xs[1]?:=hf 1 _ rfl;rw[k0]at f1;have f1:DataW.trod enc P0 w base spare held n 33 [c1]=xs[1]?:=f1;have hlx:xs.length=2:=by simpa using hlen
  match xs,hlx with
  |[x0,x1],_=>
  obtain⟨T1,l1,g1,_,g2,_⟩:=BQ Tryz.underlying33 Tryz.underlying9 k1 f0;obtain⟨T2,l2,g3,_,_,_⟩:=BQ Tryz.underlying33 Tryz.underlying9 k1 f1;exact⟨T1,T2,c0,c1,l1,l2,rfl,g1,g3,g2⟩
 |_=>simp[Value.cells]at hl7
end
end
section
open Go Go.Eng Go.RowKit Go.Syn Go.Lex Go.Cfg
variable{w:World}{K:Q0}{cs:List Value}{G:Nat->Prop}{T:TypeId}{i:Nat}{n:Nat}{v:Value}{w':World}{P:Program}{c:UInt8}{S:Nat->Prop}
theorem aAP{a u:Value}{K:List Value->Prop}(hu:jM u=true)(hK:K [u]):jS [a] [(0,1,u)] K:=by
 have e1:=Bw hu;simp only[jS,e1];exact⟨rfl,by simp,hK⟩
theorem Sr{x:Str}{K:Q0}(hK:∀t w',SlAt w' StT t 1 (strs [x])->(∀k,t.ownBlock=some k->w.heap.size<=k)->Ext w w'->K t w'):gO StT 1 [str []] [(0,1,str x)] w K:=by
 rw[gO];refine aAP rfl ?_;exact hK _ _ (AK (w:=w) (base:=w.heap.size) (e:=StT) (size:=1) (n:=1) (cs:=[str x]) (aZ _) rfl (by omega)).sl (λk hk=>by cases hk;exact aZ _) (Chg.alloc (Chg.refl _ _) _)
section
variable [HX]
end
end
end Go.Proofs.YtjblfcfdeaagpaaGreatDoor
namespace Go.Cfg
section
open Go Go.Eng Go.Lex Go.Syn
variable{w:World}{K:Q0}{cs:List Value}{G:Nat->Prop}{T:TypeId}{i:Nat}{n:Nat}{v:Value}{w':World}{P:Program}{c:UInt8}{S:Nat->Prop}
def UC(ld:Str->List Md->RL (List Md)):Prop:=∀dir mods c p a,ld dir mods=.bad c p a->p≠[]
theorem Cw(dir:Str):dir++pW≠[]:=by
 intro h;have:=(List.append_eq_nil_iff.1 h).2;cases this
theorem FJ{sub:Option (Str->List Md->RL (List Md))}(hs:∀ld,sub=some ld->UC ld){path dir:Str}(hp:path≠[]):∀(l:List (Cl×Str)) (done:List Cl) (mods:List Md) (c:Int) (p:Str) (a:Int),lP sub path dir l done mods=.bad c p a->p≠[]
 |[],_,_,_,_,_,e=>by simp only[lP]at e;cases e
 |(x,src)::l,done,mods,c,p,a,e=>by
  simp only[lP]at e
  cases sub with
  |none=>injection e with _ e _;rw[<-e];exact hp
  |some ld=>
   simp only at e
   split at e
   ·injection e with _ e _;rw[<-e];exact hp
   cases hl:ld (dir++src++[47]) mods with
   |bad k q b=>
    rw[hl]at e
    injection e with _ e _
    rw[<-e]
    exact hs ld rfl _ _ _ _ _ hl
   |ok m1=>
    rw[hl]at e
    simp only at e
    split at e
    ·injection e with _ e _;rw[<-e];exact hp
    split at e
    ·injection e with _ e _;rw[<-e];exact hp
    exact FJ hs hp l _ _ c p a e
theorem NC{rd:Str->Option Str}:∀n,UC (rD rd n):=by
 have step:∀sub:Option (Str->List Md->RL (List Md)),(∀ld,sub=some ld->UC ld)->UC (sR rd sub):=by
  intro sub hs dir mods c p a e;unfold sR at e;split at e
  ·injection e with _ e _;rw[<-e];exact Cw dir
  split at e
  ·injection e with _ e _;rw[<-e];exact Cw dir
  split at e
  ·injection e with _ e _;rw[<-e];exact Cw dir
  split at e
  ·rename_i hc;injection e with _ e _
   rw[<-e];exact FJ hs (Cw dir) _ _ _ _ _ _ hc
  ·cases e
 intro n;induction n with
 |zero=>exact step none λ_ h=>by cases h
 |succ n ih=>exact step _ λld h=>by cases h;exact ih
end
end Go.Cfg
namespace Go.Proofs.YtjblfcfdeaagpaaGreatDoor
section
open Go Go.Eng Go.RowKit Go.Syn Go.Lex
variable{w:World}{K:Q0}{cs:List Value}{G:Nat->Prop}{T:TypeId}{i:Nat}{n:Nat}{v:Value}{w':World}{P:Program}{c:UInt8}{S:Nat->Prop}
theorem GW{N:Int}{tl:Nat}:∀(n:Nat) (s:PS) (top top':List Nat) (s':PS),Gd N s 24->top.length<=s.i->s.toks.length=tl->zG n s top=.ok top' s'->s'.ex.length<=100000/\s'.bl.length<=100000/\top'.length<=tl
 |0,s,top,top',s',_,_,_,h=>by simp only[zG]at h;cases h
 |n+1,s,top,top',s',hg,ht,htl,h=>by
  simp only[zG]at h
  have hgn:=hg.now
  have ng:=jN hg.ws
  have ngt:=congrArg List.length ng.toks
  have ngi:=ng.le
  split at h
  ·injection h with e1 e2
   subst e1 e2
   have:=hg.ws.lt
   exact⟨hgn.ex.1,hgn.ex.2,by omega⟩
  cases ex:yE 24 (bM s)with
  |err c a=>rw[ex]at h;cases h
  |ok x s2=>
   rw[ex]at h
   simp only[R.bind]at h
   letI:=noX
   obtain⟨hg9,hi9,ht9⟩:=hgn.bk (xV 24) ex
   have ht9:=congrArg List.length ht9
   split at h
   ·cases h
   have hg10:=hg9.now
   have ng9:=jN hg9.ws
   have ng9t:=congrArg List.length ng9.toks
   have ng9i:=ng9.le
   have lg:=mD hg10.ws
   have lgt:=congrArg List.length lg.1.toks
   have lgi:=lg.1.le
   exact GW n _ _ _ _ hg10.lines (by rw[aP,aB,aK];omega) (by omega) h
theorem EV{t:Str}{fl:Fl}(h:pO t=.ok fl):fl.ex.length<=100000/\fl.bl.length<=100000/\fl.top.length<=100000:=by
 unfold pO at h;cases hsc:nP t with
 |bad c a=>rw[hsc]at h;cases h
 |ok l=>
  rw[hsc]at h;simp only at h;have hfew:=uN hsc;have htg:=AA (N:=(t.length:Nat)) (off:=0) hsc (mN _) (by omega);have hwt:=Cq hsc;have hg0:Gd (t.length:Nat) ⟨l,0,0,0,false,[],[]⟩ 24:=⟨⟨htg,iG.2 htg.ne,by omega⟩,by omega,hfew.1,Cr hsc,by unfold Syn.phi;simp only[aK,eZ];omega,rfl⟩;cases ex:zG (l.length+1) (jE ⟨l,0,0,0,false,[],[]⟩) []with
  |err c a=>rw[ex]at h;cases h
  |ok top s'=>
   rw[ex]at h;injection h with h
   subst h;have et1:=congrArg List.length (mD hg0.ws).1.toks;obtain⟨a1,a2,a3⟩:=GW (tl:=l.length) _ _ _ _ _ hg0.lines (dU _) (by rw[et1]) ex;exact⟨a1,a2,by show top.length<=_;omega⟩
end
section
open Go Go.Eng Go.RowKit Go.Syn Go.Lex Go.Cfg
variable{w:World}{K:Q0}{cs:List Value}{G:Nat->Prop}{T:TypeId}{i:Nat}{n:Nat}{v:Value}{w':World}{P:Program}{c:UInt8}{S:Nat->Prop}
structure OJ(m:Md):Prop where
 v:m.vars.length<=100000
 l:m.locs.length<=10000000000
 o:m.outs.length<=100000
 r:m.res.length<=100000
 c:m.calls.length<=100000
theorem WU:OJ Ab:=⟨dU _,dU _,dU _,dU _,dU _⟩
theorem FP:∀(l:List Nat) (n:Nat) (s s':MS),BdS s n->(∀k,(kC s.m.fl k).attrs.length<=100000)->lL l s=.ok s'->BdS s' (n+l.length)
 |[],n,s,s',h,_,e=>by
  simp only[lL]at e
  injection e with e
  subst e;exact h
 |k::l,n,s,s',h,ha,e=>by
  simp only[lL]at e
  cases hb:qV s (kC s.m.fl k)with
  |bad c a=>rw[hb]at e;cases e
  |ok s1=>
   rw[hb]at e
   obtain⟨h1,h2,h3⟩:=Iy h (ha k) hb
   have:=FP l (n+1) s1 s' h1 (by rw[h2];exact ha) e
   rw[aB,show n+(l.length+1)=n+1+l.length by omega]
   exact this
theorem Mj{t:Str}{fl:Fl}(h:pO t=.ok fl)(k:Nat):(kC fl k).attrs.length<=100000:=by
 by_cases hk:k<fl.bl.length
 ·have hf:=BP h (EV h);exact((hf.fa ⟨.slice none 0 0,.slice none 0 0,.slice none 0 0,[],[]⟩).fa k hk)
 ·unfold kC;rw[bR,eW (by omega)];exact dU _
def KU(ld:Str->List Md->RL (List Md)):Prop:=∀dir mods mods',(∀m∈mods,OJ m)->ld dir mods=.ok mods'->∀m∈mods',OJ m
theorem FH{sub:Option (Str->List Md->RL (List Md))}(hs:∀ld,sub=some ld->KU ld)(path dir:Str):∀(l:List (Cl×Str)) (done:List Cl) (mods:List Md) (cs:List Cl) (mods':List Md),(∀m∈mods,OJ m)->lP sub path dir l done mods=.ok (cs,mods')->(∀m∈mods',OJ m)/\cs.length=done.length+l.length
 |[],done,mods,cs,mods',hm,e=>by
  simp only[lP]at e
  injection e with e
  simp only[gS]at e
  obtain⟨rfl,rfl⟩:=e
  exact⟨hm,by simp⟩
 |(x,src)::l,done,mods,cs,mods',hm,e=>by
  simp only[lP]at e
  cases sub with
  |none=>cases e
  |some ld=>
   simp only at e
   split at e
   ·cases e
   cases hl:ld (dir++src++[47]) mods with
   |bad k p a=>rw[hl]at e;cases e
   |ok m1=>
    rw[hl]at e
    simp only at e
    split at e
    ·cases e
    split at e
    ·cases e
    obtain⟨g1,g2⟩:=FH hs path dir l _ _ cs mods' (hs ld rfl _ _ _ hm hl) e
    refine⟨g1,?_⟩
    rw[g2];simp;omega
theorem NB{rd:Str->Option Str}:∀n,KU (rD rd n):=by
 have step:∀sub:Option (Str->List Md->RL (List Md)),(∀ld,sub=some ld->KU ld)->KU (sR rd sub):=by
  intro sub hs dir mods mods' hm e;unfold sR at e;split at e
  ·cases e
  split at e
  ·cases e
  rename_i fl hp;split at e
  ·cases e
  rename_i s hb;split at e
  ·cases e
  rename_i cs m1 hc;injection e with e
  subst e;have hfew:=EV hp;have hbd:=FP _ 0 _ _ ⟨aZ _,dU _,aZ _,aZ _,aZ _,aZ _⟩ (Mj hp) hb;rw[aI]at hbd;obtain⟨b1,b2,b3,b4,b5,b6⟩:=hbd;obtain⟨g1,g2⟩:=FH hs _ _ _ _ _ _ _ (λm h=>(bK.1 h).elim (hm m) λh=>by rw[bX.1 h];exact WU) hc;have hz:(s.m.calls.zip s.src).length<=s.m.calls.length:=by rw[Ci];omega
  have h10:fl.top.length*100000<=100000*100000:=fB _ hfew.2.2;intro m h;rcases qB h with h|rfl
  ·exact g1 m h
  ·exact⟨by show s.m.vars.length<=_;omega,by show s.m.locs.length<=_;omega,by show s.m.outs.length<=_;omega,by show s.m.res.length<=_;omega,by show cs.length<=_;rw[g2];simp only[aK];omega⟩
 intro n;induction n with
 |zero=>exact step none λ_ h=>by cases h
 |succ n ih=>exact step _ λld h=>by cases h;exact ih
section
variable [HX]
theorem Gs{w0:World}{ns:List Str}{x:Str}{K:Q0}(hx0:Chg S w0 w)(h:Own w w0.heap.size StT 1 v ns.length (strs ns))(hl:ns.length<=100000000000)(hK:∀v' w',Chg S w0 w'->Own w' w0.heap.size StT 1 v' (ns++[x]).length (strs (ns++[x]))->(∀k,v.ownBlock≠some k->k<w.heap.size->w'.heap[k]?=w.heap[k]?)->(∀k,v'.ownBlock=some k->v.ownBlock=some k\/w.heap.size<=k)->K v' w'):
  gO StT 1 [str []] [(0,1,str x)] w λt79 w20=>fY P0 (Builtin.append_ #[33,33] 33 #[v,t79]) w20 K:=by
 have z:=hx0.size;refine Sr λt w1 ht nt hx1=>?_;have z1:=hx1.size;refine jL Fy (eG h hx1 λ_ _ e=>e) ht rfl (λu hu=>by simp only[strs,fW,kV,bC,cA,gG]at hu;subst hu;rfl) (by omega) (by omega) (by omega) λv' w' hO hc hn=>?_;refine hK v' w' ((hx0.trans (Chg.of_ext hx1)).then hc λk hk e=>?_) (by rw[Ay,aP];exact hO) (λk hk hlt=>?_) λk hk=>(hn k hk).imp id (by omega)
 ·have:=(kJ h e).2;omega
 ·rw[hc.heap k (by omega) hk,hx1.heap k hlt id]
theorem OO{w0:World}{tv:Value}{l:List Vr}{ns:List Str}{KF:World->Prop}{K:List Value->World->Prop}(hx0:Ext w0 w)(h:SlAt w0 T tv l.length (vrs l))(hv:Own w w0.heap.size StT 1 v ns.length (strs ns))(hl:l.length<=100000)(hn:ns.length<=10000000000)(hnm:∀x∈l,x.n.length<=1000000)(hd:∀x∈l,-1<=x.d/\x.d<(n:Int))
  (hK:∀v' w',Ext w0 w'->Own w' w0.heap.size StT 1 v' (ns++l.map λx=>Bv++x.n).length (strs (ns++l.map λx=>Bv++x.n))->K [v',i64 (l.length:Nat)] w'):
  fI tv λt70=>
  dL [v,(.int .i64 0)] w λs16 _ w17 L16=>
   aS .lss (s16.getD 1 undef) t70 λt72=>
   bB t72 (
    fK none 3 tv (s16.getD 1 undef) λt73=>
    ldW true 3 t73 w17 λt74=>
    dA VrT [(.string (ofL [])),(.int .i64 0),(.int .i64 0)] w17 λt13 w18=>
    stW 3 t13 t74 w18 λw19=>
    aR 0 t13 λt76=>
    ldW false 1 t76 w19 λt77=>
    aS .add (.string (ofL [118,97,114,32])) t77 λt78=>
    gO StT 1 [(.string (ofL []))] [(0,1,t78)] w19 λt79 w20=>
    fY P0 (Builtin.append_ #[33,33] 33 #[(s16.getD 0 undef),t79]) w20 λt80 w21=>
    aR 1 t13 λt81=>
    ldW false 1 t81 w21 λt82=>
    aS .lss t82 (.int .i64 (-1)) λt83=>
    GdW (isB t83 false) [undef] w21 (λJ22=>
     aR 1 t13 λt85=>
     ldW false 1 t85 w21 λt86=>
     aS .geq t86 (i64 (n:Nat)) λt88=>
     J22 [t88] w21)
    λs22 _ w23=>
    cZ t83 (.bool true) (s22.getD 0 undef) λt89=>
    bB t89 (KF w23) (
     aS .add (s16.getD 1 undef) (.int .i64 1) λt90=>
     L16 [t80,t90] w23)) (K s16 w17):=by
 rw[eO h];refine dL.go (λst w'=>∃(i:Nat) (v':Value),st=[v',i64 (i:Nat)]/\i<=l.length/\Ext w0 w'/\Own w' w0.heap.size StT 1 v' (ns++(l.take i).map λx=>Bv++x.n).length (strs (ns++(l.take i).map λx=>Bv++x.n))) (λst _=>match st with|[_,.int _ i]=>l.length-i.toNat|_=>0) ⟨0,v,rfl,dU _,hx0,by simpa using hv⟩ ?_;rintro st g w1 ⟨i,v',rfl,hi,hx1,hO⟩;have h1:=h.ext hx1;simp only[aC,bO];rw[dI,bD];refine⟨λhlt=>?_,λhge=>?_⟩
 ·have hlt:i<l.length:=by omega
  obtain⟨x,hxi⟩:∃x,l[i]?=some x:=⟨_,aG hlt⟩;have hxm:=bI hxi;have e:((vrs l).drop (i*3)).take 3=[str x.n,i64 x.d,i64 x.a]:=Cm hxi;refine lZ h1 (Aq _) (by omega) hlt ?_;rw[e];refine cK λb w2 hb hz2 hbb hx2=>?_;refine cY (l:=[str x.n,i64 x.d,i64 x.a]) hbb rfl rfl rfl λw3 hz3 hbb3 hc3=>?_;have hx3:Ext w1 w3:=hx2.new hc3 (by omega);simp only[bE,bL,aI];refine ldb hbb3 (v:=str x.n) rfl ?_;rw[fJ];refine⟨by have:=hnm x hxm;simp only[aB,aK];show(_:Int)<=9223372036854775807;omega,?_⟩;have z1:=hx1.size;refine Gs (hx1.trans hx3) (eG hO hx3 λ_ _ e=>e) (by simp only[aP,fP,cO];omega) λv2 w4 hx4 hO4 hk4 hn4=>?_;have hbb4:w4.heap[b]?=some (.cells [str x.n,i64 x.d,i64 x.a].toArray VrT (0,0)):=by
   rw[hk4 b (λe=>by have:=(kJ hO e).1;omega) (mB hbb3)];exact hbb3
  refine ldb hbb4 (v:=i64 x.d) rfl ?_;obtain⟨d1,d2⟩:=hd x hxm;rw[dI,bH (by omega)];refine mE (λJ hJ=>?_) λ_=>?_
  ·refine ldb hbb4 (v:=i64 x.d) rfl ?_;rw[fS,bH (by omega)];exact hJ
  simp only[aC];rw[eX,bQ,cJ,upi (by omega)];have ht:(l.take (i+1)).map (λx=>Bv++x.n)=(l.take i).map (λx=>Bv++x.n)++[Bv++x.n]:=by
   rw[jT,hxi];simp
  refine⟨⟨i+1,v2,rfl,by omega,hx4,?_⟩,by simp only[aV];omega⟩;rw[ht,<-fE];exact hO4
 ·obtain rfl:i=l.length:=by omega
  rw[dZ]at hO;exact hK v' w1 hx1 hO
theorem KQ{pre:Str}{w0:World}{tv:Value}{l:List Atr}{ns:List Str}{K:List Value->World->Prop}(hx0:Ext w0 w)(h:SlAt w0 T tv l.length (kK l))(hv:Own w w0.heap.size StT 1 v ns.length (strs ns))(hl:l.length<=10000000000)(hn:ns.length<=20000000000)(hnm:∀x∈l,x.n.length<=1000000)(hpre:pre.length<=100)
  (hK:∀v' w',Ext w0 w'->Own w' w0.heap.size StT 1 v' (ns++l.map λx=>pre++x.n).length (strs (ns++l.map λx=>pre++x.n))->K [v',i64 (l.length:Nat)] w'):
  fI tv λt70=>
  dL [v,(.int .i64 0)] w λs16 _ w17 L16=>
   aS .lss (s16.getD 1 undef) t70 λt72=>
   bB t72 (
    fK none 3 tv (s16.getD 1 undef) λt73=>
    ldW true 3 t73 w17 λt74=>
    dA AtT [(.string (ofL [])),(.int .i64 0),(.int .i64 0)] w17 λt13 w18=>
    stW 3 t13 t74 w18 λw19=>
    aR 0 t13 λt76=>
    ldW false 1 t76 w19 λt77=>
    aS .add (str pre) t77 λt78=>
    gO StT 1 [(.string (ofL []))] [(0,1,t78)] w19 λt79 w20=>
    fY P0 (Builtin.append_ #[33,33] 33 #[(s16.getD 0 undef),t79]) w20 λt80 w21=>
    aS .add (s16.getD 1 undef) (.int .i64 1) λt90=>
    L16 [t80,t90] w21) (K s16 w17):=by
 rw[eO h];refine dL.go (λst w'=>∃(i:Nat) (v':Value),st=[v',i64 (i:Nat)]/\i<=l.length/\Ext w0 w'/\Own w' w0.heap.size StT 1 v' (ns++(l.take i).map λx=>pre++x.n).length (strs (ns++(l.take i).map λx=>pre++x.n))) (λst _=>match st with|[_,.int _ i]=>l.length-i.toNat|_=>0) ⟨0,v,rfl,dU _,hx0,by simpa using hv⟩ ?_;rintro st g w1 ⟨i,v',rfl,hi,hx1,hO⟩;have h1:=h.ext hx1;simp only[aC,bO];rw[dI,bD];refine⟨λhlt=>?_,λhge=>?_⟩
 ·have hlt:i<l.length:=by omega
  obtain⟨x,hxi⟩:∃x,l[i]?=some x:=⟨_,aG hlt⟩;have hxm:=bI hxi;have e:((kK l).drop (i*3)).take 3=[str x.n,i64 (x.e:Nat),i64 x.a]:=yF hxi;refine lZ h1 (sE _) (by omega) hlt ?_;rw[e];refine cK λb w2 hb hz2 hbb hx2=>?_;refine cY (l:=[str x.n,i64 (x.e:Nat),i64 x.a]) hbb rfl rfl rfl λw3 hz3 hbb3 hc3=>?_;have hx3:Ext w1 w3:=hx2.new hc3 (by omega);simp only[bE,bL,aI];refine ldb hbb3 (v:=str x.n) rfl ?_;rw[fJ];refine⟨by have:=hnm x hxm;show(_:Int)<=9223372036854775807;omega,?_⟩;have z1:=hx1.size;refine Gs (hx1.trans hx3) (eG hO hx3 λ_ _ e=>e) (by simp only[aP,fP,cO];omega) λv2 w4 hx4 hO4 hk4 hn4=>?_;rw[cJ,upi (by omega)];have ht:(l.take (i+1)).map (λx=>pre++x.n)=(l.take i).map (λx=>pre++x.n)++[pre++x.n]:=by
   rw[jT,hxi];simp
  refine⟨⟨i+1,v2,rfl,by omega,hx4,?_⟩,by simp only[aV];omega⟩;rw[ht,<-fE];exact hO4
 ·obtain rfl:i=l.length:=by omega
  rw[dZ]at hO;exact hK v' w1 hx1 hO
def Hm(r:Rs):Str:=r.ty++[32]++r.n++[32,114]
theorem Vp{w0:World}{tv:Value}{l:List Rs}{ns:List Str}{B:Nat}{KF:World->Prop}{K:List Value->World->Prop}(hx0:Ext w0 w)(h:SlAt w0 T tv l.length cs)(hr:kO (RsR w0 B) 9 l cs)(hv:Own w w0.heap.size StT 1 v ns.length (strs ns))(hl:l.length<=100000)(hn:ns.length<=20000000000)(hnm:∀x∈l,x.n.length<=1000000/\x.ty.length<=1000000)(hd:∀x∈l,ROk n x)
  (hK:∀v' w',Ext w0 w'->Own w' w0.heap.size StT 1 v' (ns++l.map Hm).length (strs (ns++l.map Hm))->K [v',i64 (l.length:Nat)] w'):
  fI tv λt121=>
  dL [v,(.int .i64 0)] w λs36 _ w37 L36=>
   aS .lss (s36.getD 1 undef) t121 λt123=>
   bB t123 (
    fK none 9 tv (s36.getD 1 undef) λt124=>
    ldW true 9 t124 w37 λt125=>
    dA RsT [(.string (ofL [])),(.string (ofL [])),(.slice none 0 0),(.int .i64 0),(.int .i64 0),(.bool false),(.bool false),(.slice none 0 0),(.int .i64 0)] w37 λt19 w38=>
    stW 9 t19 t125 w38 λw39=>
    aR 0 t19 λt127=>
    ldW false 1 t127 w39 λt128=>
    aS .add t128 (.string (ofL [32])) λt129=>
    aR 1 t19 λt130=>
    ldW false 1 t130 w39 λt131=>
    aS .add t129 t131 λt132=>
    aS .add t132 (.string (ofL [32,114])) λt133=>
    gO StT 1 [(.string (ofL []))] [(0,1,t133)] w39 λt134 w40=>
    fY P0 (Builtin.append_ #[33,33] 33 #[(s36.getD 0 undef),t134]) w40 λt135 w41=>
    aR 3 t19 λt136=>
    ldW false 1 t136 w41 λt137=>
    aS .geq t137 (.int .i64 0) λt138=>
    GdW (isB t138 true) [undef] w41 (λJ42=>
     aR 4 t19 λt140=>
     ldW false 1 t140 w41 λt141=>
     aS .geq t141 (.int .i64 0) λt142=>
     J42 [t142] w41)
    λs42 _ w43=>
    cZ t138 (s42.getD 0 undef) (.bool false) λt143=>
    GdW (isB t143 false) [undef] w43 (λJ44=>
     aR 3 t19 λt145=>
     ldW false 1 t145 w43 λt146=>
     aS .geq t146 (i64 (n:Nat)) λt148=>
     J44 [t148] w43)
    λs44 _ w45=>
    cZ t143 (.bool true) (s44.getD 0 undef) λt149=>
    GdW (isB t149 false) [undef] w45 (λJ46=>
     aR 4 t19 λt151=>
     ldW false 1 t151 w45 λt152=>
     aS .geq t152 (i64 (n:Nat)) λt154=>
     J46 [t154] w45)
    λs46 _ w47=>
    cZ t149 (.bool true) (s46.getD 0 undef) λt155=>
    bB t155 (KF w47) (
     aS .add (s36.getD 1 undef) (.int .i64 1) λt156=>
     L36 [t135,t156] w47)) (K s36 w37):=by
 rw[eO h];refine dL.go (λst w'=>∃(i:Nat) (v':Value),st=[v',i64 (i:Nat)]/\i<=l.length/\Ext w0 w'/\Own w' w0.heap.size StT 1 v' (ns++(l.take i).map Hm).length (strs (ns++(l.take i).map Hm))) (λst _=>match st with|[_,.int _ i]=>l.length-i.toNat|_=>0) ⟨0,v,rfl,dU _,hx0,by simpa using hv⟩ ?_;rintro st g w1 ⟨i,v',rfl,hi,hx1,hO⟩;have h1:=h.ext hx1;simp only[aC,bO];rw[dI,bD];refine⟨λhlt=>?_,λhge=>?_⟩
 ·have hlt:i<l.length:=by omega
  obtain⟨x,hxi⟩:∃x,l[i]?=some x:=⟨_,aG hlt⟩;have hxm:=bI hxi;obtain⟨va,vd,e,o1,o2⟩:=hr.2 i x hxi;refine lZ h1 hr.1 (by omega) hlt ?_;rw[e];refine cK λb w2 hb hz2 hbb hx2=>?_;refine cY hbb rfl rfl (by simp only[wM,Ei,fV o1.sl,fV o2.sl];rfl) λw3 hz3 hbb3 hc3=>?_;have hx3:Ext w1 w3:=hx2.new hc3 (by omega);simp only[bE,bL,aI];refine ldb hbb3 (v:=str x.ty) rfl ?_;obtain⟨m1,m2⟩:=hnm x hxm;rw[fJ];refine⟨by simp only[aB,aK];show(_:Int)<=9223372036854775807;omega,?_⟩;refine ldb hbb3 (v:=str x.n) rfl ?_;rw[fJ];refine⟨by simp only[aP,aB,aK];show(_:Int)<=9223372036854775807;omega,?_⟩;rw[fJ];refine⟨by simp only[aP,aB,aK];show(_:Int)<=9223372036854775807;omega,?_⟩;have z1:=hx1.size;refine Gs (hx1.trans hx3) (eG hO hx3 λ_ _ e=>e) (by simp only[aP,fP,cO];omega) λv2 w4 hx4 hO4 hk4 hn4=>?_;have hbb4:w4.heap[b]?=some (.cells [str x.ty,str x.n,va,i64 x.count,i64 x.each,.bool x.swap,.bool x.prev,vd,i64 x.a].toArray RsT (0,0)):=by
   rw[hk4 b (λe=>by have:=(kJ hO e).1;omega) (mB hbb3)];exact hbb3
  obtain⟨d1,d2,d3⟩:=hd x hxm;refine ldb hbb4 (v:=i64 x.count) rfl ?_;rw[fS,fT];refine GdW.look (decide (0<=x.each)) (λ_ J hJ=>?_) λ_=>?_
  ·refine ldb hbb4 (v:=i64 x.each) rfl ?_;rw[fS];exact hJ
  simp only[aC];have hf:(decide (0<=x.count)&&decide (0<=x.each))=false:=by
   rcases d1 with d|d
   ·rw[bH (by omega:¬0<=x.count),dM]
   ·rw[bH (by omega:¬0<=x.each),dO]
  rw[fG,hf];refine mE (λJ hJ=>?_) λ_=>?_
  ·refine ldb hbb4 (v:=i64 x.count) rfl ?_;rw[fS,bH (by omega)];exact hJ
  simp only[aC];rw[eX];refine mE (λJ hJ=>?_) λ_=>?_
  ·refine ldb hbb4 (v:=i64 x.each) rfl ?_;rw[fS,bH (by omega)];exact hJ
  simp only[aC];rw[eX,bQ,cJ,upi (by omega)];have ht:(l.take (i+1)).map Hm=(l.take i).map Hm++[Hm x]:=by
   rw[jT,hxi];simp
  refine⟨⟨i+1,v2,rfl,by omega,hx4,?_⟩,by simp only[aV];omega⟩;rw[ht,<-fE];exact hO4
 ·obtain rfl:i=l.length:=by omega
  rw[dZ]at hO;exact hK v' w1 hx1 hO
def clN(c:Cl):Str:=AJ++c.n
theorem Xa{w0:World}{B e N b5:Nat}{tv vm:Value}{T5 T9:TypeId}{l:List Cl}{c9:List Value}{ns:List Str}{L0:List Nat}{KF:World->Prop}{K:List Value->World->Prop}(hx0:Chg (One e) w0 w)(h:SlAt w0 T tv l.length cs)(hoe:tv.ownBlock≠some e)(hr:kO (ClR w0 B) 4 l cs)
  (h5:w0.heap[b5]?=some (.cells [vm].toArray T5 (0,0)))(hb5:b5≠e)(hm9:SlAt w0 T9 vm N c9)(hme:vm.ownBlock≠some e)
  (hv:Own w w0.heap.size StT 1 v ns.length (strs ns))(he:w.heap[e]?=some (.cells (ints (cnt N L0)).toArray jY (0,0)))(hel:e<w0.heap.size)
  (hl:l.length<=100000)(hn:ns.length<=30000000000)(hnm:∀x∈l,x.n.length<=1000000)(hd:∀x∈l,i<x.mod/\x.mod<N)(hct:∀j,(L0++l.map (·.mod)).count j<=1000000)
  (hK:∀v' w',Chg (One e) w0 w'->Own w' w0.heap.size StT 1 v' (ns++l.map clN).length (strs (ns++l.map clN))->w'.heap[e]?=some (.cells (ints (cnt N (L0++l.map (·.mod)))).toArray jY (0,0))->K [v',i64 (l.length:Nat)] w'):
  fI tv λt159=>
  dL [v,(.int .i64 0)] w λs48 _ w49 L48=>
   aS .lss (s48.getD 1 undef) t159 λt161=>
   bB t161 (
    fK none 4 tv (s48.getD 1 undef) λt162=>
    ldW true 4 t162 w49 λt163=>
    dA ClT [(.string (ofL [])),(.int .i64 0),(.slice none 0 0),(.int .i64 0)] w49 λt21 w50=>
    stW 4 t21 t163 w50 λw51=>
    aR 0 t21 λt165=>
    ldW false 1 t165 w51 λt166=>
    aS .add (.string (ofL [109,111,100,117,108,101,32])) t166 λt167=>
    gO StT 1 [(.string (ofL []))] [(0,1,t167)] w51 λt168 w52=>
    fY P0 (Builtin.append_ #[33,33] 33 #[(s48.getD 0 undef),t168]) w52 λt169 w53=>
    aR 1 t21 λt170=>
    ldW false 1 t170 w53 λt171=>
    aS .leq t171 (i64 (i:Nat)) λt173=>
    GdW (isB t173 false) [undef] w53 (λJ54=>
     aR 1 t21 λt175=>
     ldW false 1 t175 w53 λt176=>
     aR 0 (pA b5) λt177=>
     ldW false 1 t177 w53 λt178=>
     fI t178 λt179=>
     aS .geq t176 t179 λt180=>
     J54 [t180] w53)
    λs54 _ w55=>
    cZ t173 (.bool true) (s54.getD 0 undef) λt181=>
    bB t181 (KF w55) (
     aR 1 t21 λt183=>
     ldW false 1 t183 w55 λt184=>
     fK none 1 (.slice (some ⟨e,0,none⟩) N N) t184 λt185=>
     ldW false 1 t185 w55 λt186=>
     aS .add t186 (.int .i64 1) λt187=>
     fK none 1 (.slice (some ⟨e,0,none⟩) N N) t184 λt188=>
     stW 1 t188 t187 w55 λw56=>
     aS .add (s48.getD 1 undef) (.int .i64 1) λt189=>
     L48 [t169,t189] w56)) (K s48 w49):=by
 rw[eO h];refine dL.go (λst w'=>∃(j:Nat) (v':Value),st=[v',i64 (j:Nat)]/\j<=l.length/\Chg (One e) w0 w'/\Own w' w0.heap.size StT 1 v' (ns++(l.take j).map clN).length (strs (ns++(l.take j).map clN))/\w'.heap[e]?=some (.cells (ints (cnt N (L0++(l.take j).map (·.mod)))).toArray jY (0,0))) (λst _=>match st with|[_,.int _ i]=>l.length-i.toNat|_=>0) ⟨0,v,rfl,dU _,hx0,by simpa using hv,by simpa using he⟩ ?_;rintro st g w1 ⟨j,v',rfl,hj,hx1,hO,hE⟩;have h1:=rR h hx1 λk hk e'=>hoe (by have e':k=e:=e';rw[hk,e']);simp only[aC,bO];rw[dI,bD];refine⟨λhlt=>?_,λhge=>?_⟩
 ·have hlt:j<l.length:=by omega
  obtain⟨x,hxi⟩:∃x,l[j]?=some x:=⟨_,aG hlt⟩;have hxm:=bI hxi;obtain⟨va,er,o1⟩:=hr.2 j x hxi;refine lZ h1 hr.1 (by omega) hlt ?_;rw[er];refine cK λb w2 hb hz2 hbb hx2=>?_;refine cY hbb rfl rfl (by simp only[wM,Ei,fV o1.sl];rfl) λw3 hz3 hbb3 hc3=>?_;have hx3:Ext w1 w3:=hx2.new hc3 (by omega);simp only[bE,bL,aI];refine ldb hbb3 (v:=str x.n) rfl ?_;rw[fJ];refine⟨by have:=hnm x hxm;simp only[aB,aK];show(_:Int)<=9223372036854775807;omega,?_⟩;have z1:=hx1.size;have hE3:=hx3.at hE id;have hel1:e<w1.heap.size:=mB hE;refine Gs (hx1.trans (Chg.of_ext hx3)) (eG hO hx3 λ_ _ e=>e) (by simp only[aP,fP,cO];omega) λv2 w4 hx4 hO4 hk4 hn4=>?_;have hbb4:w4.heap[b]?=some (.cells [str x.n,i64 (x.mod:Nat),va,i64 x.a].toArray ClT (0,0)):=by
   rw[hk4 b (λe=>by have:=(kJ hO e).1;omega) (mB hbb3)];exact hbb3
  have hE4:w4.heap[e]?=some (.cells (ints (cnt N (L0++(l.take j).map (·.mod)))).toArray jY (0,0)):=by
   rw[hk4 e (λe'=>by have:=(kJ hO e').2;omega) (mB hE3)];exact hE3
  have h54:=hx4.at h5 (λe'=>hb5 e');have h94:=rR hm9 hx4 λk hk e'=>hme (by have e':k=e:=e';rw[hk,e']);obtain⟨d1,d2⟩:=hd x hxm;refine ldb hbb4 (v:=i64 (x.mod:Nat)) rfl ?_;rw[gN,bH (by omega)];refine mE (λJ hJ=>?_) λ_=>?_
  ·refine ldb hbb4 (v:=i64 (x.mod:Nat)) rfl ?_;refine ldb h54 (v:=vm) rfl ?_;rw[eO h94,fS,bH (by omega)];exact hJ
  simp only[aC];rw[eX,bQ];refine ldb hbb4 (v:=i64 (x.mod:Nat)) rfl ?_;have ht:(l.take (j+1)).map clN=(l.take j).map clN++[clN x]:=by
   rw[jT,hxi];simp
  have ht2:(l.take (j+1)).map (·.mod)=(l.take j).map (·.mod)++[x.mod]:=by
   rw[jT,hxi];simp
  refine YN hE4 d2 ?_ λw5 hz5 hE5 hc5=>?_
  ·refine dR (List.Sublist.count_le _ ?_) (hct x.mod);exact qN ((List.take_sublist _ _).map _) _
  rw[cJ,upi (by omega)];refine⟨⟨j+1,v2,rfl,by omega,hx4.trans hc5,?_,?_⟩,by simp only[aV];omega⟩
  ·rw[ht,<-fE];exact eG hO4 hc5 λk hk e'=>by have e':k=e:=e';have:=(kJ hO4 hk).2;omega
  ·rw[ht2,<-fE];exact hE5
 ·obtain rfl:j=l.length:=by omega
  rw[dZ]at hO hE;exact hK v' w1 hx1 hO hE
theorem MC{l:List Str}{KF:World->Prop}{K:World->Prop}(h:SlAt w T v l.length (strs l))(hl:l.length<=9223372036854775807)(hn:l.Nodup)(hK:∀w',Ext w w'->K w'):
  fI v λt191=>
  dL [(.int .i64 0)] w λs57 _ w58 L57=>
   aS .lss (s57.getD 0 undef) t191 λt193=>
   bB t193 (
    dL [(.int .i64 0)] w58 λs59 _ w60 L59=>
     aS .lss (s59.getD 0 undef) (s57.getD 0 undef) λt197=>
     bB t197 (
      fK none 1 v (s57.getD 0 undef) λt202=>
      ldW false 1 t202 w60.drew λt203=>
      fK none 1 v (s59.getD 0 undef) λt206=>
      ldW false 1 t206 w60.drew λt207=>
      aS .eql t203 t207 λt208=>
      bB t208 (KF w60.drew) (
       aS .add (s59.getD 0 undef) (.int .i64 1) λt199=>
       L59 [t199] w60.drew)) (
      aS .add (s57.getD 0 undef) (.int .i64 1) λt209=>
      L57 [t209] w60)) (K w58):=by
 rw[eO h];refine dL.go (λst w'=>∃i:Nat,st=[i64 (i:Nat)]/\i<=l.length/\Ext w w') (λst _=>match st with|[.int _ i]=>l.length-i.toNat|_=>0) ⟨0,rfl,dU _,Chg.refl _ _⟩ ?_;rintro st g w1 ⟨i,rfl,hi,hx1⟩;simp only[aC];rw[dI,bD];refine⟨λhlt=>?_,λhge=>hK w1 hx1⟩;have hlt:i<l.length:=by omega
 refine dL.go (λst w'=>∃j:Nat,st=[i64 (j:Nat)]/\j<=i/\Ext w w') (λst _=>match st with|[.int _ j]=>i-j.toNat|_=>0) ⟨0,rfl,dU _,hx1⟩ ?_;rintro st g2 w2 ⟨k,rfl,hk,hx2⟩;simp only[aC];rw[dI,bD];refine⟨λhlk=>?_,λhgk=>?_⟩
 ·have hlk:k<i:=by omega
  have hxd:=hx2.trans (cQ w2);have gi:(strs l)[i]?=some (str l[i]):=by unfold strs;rw[fO,aG hlt];rfl
  have gk:(strs l)[k]?=some (str (l[k]'(by omega))):=by unfold strs;rw[fO,aG (by omega)];rfl
  refine mR (h.ext hxd) (by unfold strs;rw[fP]) gi ?_;refine mR (h.ext hxd) (by unfold strs;rw[fP]) gk ?_;have hne:l[i]≠l[k]'(by omega):=λe=>by
   exact(List.pairwise_iff_getElem.1 hn) k i (by omega) hlt hlk e.symm
  rw[eQ,bH hne,bQ,cJ,upj (by omega)];exact⟨⟨k+1,rfl,by omega,hxd⟩,by simp only[aV];omega⟩
 ·rw[cJ,upj (by omega)];exact⟨⟨i+1,rfl,by omega,hx2⟩,by simp only[aV];omega⟩
end
structure NmS(m:Md):Prop where
 v:∀x∈m.vars,x.n.length<=1000000
 l:∀x∈m.locs,x.n.length<=1000000
 o:∀x∈m.outs,x.n.length<=1000000
 r:∀x∈m.res,x.n.length<=1000000/\x.ty.length<=1000000
 c:∀x∈m.calls,x.n.length<=1000000
theorem Wv:NmS Ab:=⟨by simp[Ab],by simp[Ab],by simp[Ab],by simp[Ab],by simp[Ab]⟩
theorem tE{α:Type}{p:α->Prop}{l:List α}{x:α}(h:∀y∈l,p y)(hx:p x):∀y∈l++[x],p y:=λy hy=>(bK.1 hy).elim (h y) λhy=>by rw[bX.1 hy];exact hx
def ShB(b:Blk):Prop:=(∀s∈b.labels,s.length<=1000000)/\∀a∈b.attrs,a.n.length<=1000000
theorem ShB.lab{b:Blk}(h:ShB b)(i:Nat):(b.labels.getD i []).length<=1000000:=by
 rw[bR];cases hi:b.labels[i]? with
 |none=>exact dU _
 |some x=>exact h.1 x (bI hi)
theorem HC{t:Str}{fl:Fl}(h:pO t=.ok fl)(k:Nat):ShB (kC fl k):=by
 obtain⟨_,hb,_⟩:=BO h;unfold kC;rw[bR];cases hk:fl.bl[k]? with
 |none=>exact⟨by simp,by simp⟩
 |some b=>
  have hx:=hb b (bI hk);exact⟨λs hs=>by have:=(hx.lb s hs).2;show s.length<=_;omega,λa ha=>by have:=(hx.at_ a ha).2.2;show a.n.length<=_;omega⟩
theorem Ov{s s':MS}{b:Blk}(h:NmS s.m)(hb:ShB b)(e:qV s b=.ok s'):NmS s'.m/\s'.m.fl=s.m.fl:=by
 unfold qV at e;split at e
 ·cases e
 split at e
 ·unfold nY at e;obtain⟨_,_,e⟩:=bind_ok e;obtain⟨_,_,e⟩:=bind_ok e;split at e
  ·cases e
  ·injection e with e;subst e;exact⟨⟨tE h.v (hb.lab 0),h.l,h.o,h.r,h.c⟩,rfl⟩
 split at e
 ·unfold rT at e;obtain⟨l,h1,e⟩:=bind_ok e;obtain⟨_,_,e⟩:=bind_ok e;have hd:∀x∈l,x.n.length<=1000000:=by
   refine pI (P:=λl:List Atr=>∀x∈l,x.n.length<=1000000) b.attrs [] s.m.locs l (λl a l' hm hl ht=>?_) h.l h1;simp only[Gz]at ht;split at ht
   ·cases ht
   ·injection ht with ht
    subst ht;exact tE hl (hb.2 a hm)
  injection e with e;subst e;exact⟨⟨h.v,hd,h.o,h.r,h.c⟩,rfl⟩
 split at e
 ·unfold rS at e;obtain⟨_,_,e⟩:=bind_ok e;obtain⟨_,_,e⟩:=bind_ok e;split at e
  ·cases e
  split at e
  ·cases e
  ·injection e with e;subst e;exact⟨⟨h.v,h.l,tE h.o (hb.lab 0),h.r,h.c⟩,rfl⟩
 split at e
 ·unfold oA at e;obtain⟨r,h1,e⟩:=bind_ok e;obtain⟨r2,h2,e⟩:=bind_ok e;have g1:r.ty=b.labels.getD 0 []/\r.n=b.labels.getD 1 []:=by
   refine pI (P:=λx:Rs=>x.ty=b.labels.getD 0 []/\x.n=b.labels.getD 1 []) b.attrs [] _ r (λx a x' hm hx ht=>?_) ⟨rfl,rfl⟩ h1;simp only[uD]at ht;split at ht
   ·cases ht
   split at ht
   ·obtain⟨rfl,_⟩:=yQ ht;exact hx
   split at ht
   ·obtain⟨rfl,_⟩:=yQ ht;exact hx
   split at ht
   ·split at ht
    ·cases ht
    ·split at ht
     ·injection ht with ht;subst ht;exact hx
     ·cases ht
   ·obtain⟨rfl,_⟩:=yQ ht;exact hx
  obtain⟨l1,l2,_,_⟩:=Dl _ _ _ _ h2;split at e
  ·cases e
  ·injection e with e;subst e
   exact⟨⟨h.v,h.l,h.o,tE h.r ⟨by rw[l2,g1.2];exact hb.lab 1,by rw[l1,g1.1];exact hb.lab 0⟩,h.c⟩,rfl⟩
 split at e
 ·unfold zW at e;obtain⟨r,h1,e⟩:=bind_ok e;obtain⟨_,_,e⟩:=bind_ok e;split at e
  ·cases e
  split at e
  ·cases e
  ·injection e with e;subst e;exact⟨⟨h.v,h.l,h.o,h.r,tE h.c (hb.lab 0)⟩,rfl⟩
 ·injection e with e;subst e;exact⟨h,rfl⟩
theorem FN:∀(l:List Nat) (s s':MS),NmS s.m->(∀k,ShB (kC s.m.fl k))->lL l s=.ok s'->NmS s'.m
 |[],s,s',h,_,e=>by
  simp only[lL]at e
  injection e with e
  subst e;exact h
 |k::l,s,s',h,ha,e=>by
  simp only[lL]at e
  obtain⟨s1,h1,e⟩:=bind_ok e
  obtain⟨g1,g2⟩:=Ov h (ha k) h1
  exact FN l s1 s' g1 (by rw[g2];exact ha) e
def UB(ld:Str->List Md->RL (List Md)):Prop:=∀dir mods mods',(∀m∈mods,NmS m)->ld dir mods=.ok mods'->∀m∈mods',NmS m
theorem FG{sub:Option (Str->List Md->RL (List Md))}(hs:∀ld,sub=some ld->UB ld)(path dir:Str):∀(l:List (Cl×Str)) (done:List Cl) (mods:List Md) (cs:List Cl) (mods':List Md),(∀m∈mods,NmS m)->(∀c∈done,c.n.length<=1000000)->(∀x∈l,x.1.n.length<=1000000)->lP sub path dir l done mods=.ok (cs,mods')->(∀m∈mods',NmS m)/\∀c∈cs,c.n.length<=1000000
 |[],done,mods,cs,mods',hm,hd,hl,e=>by
  simp only[lP]at e
  injection e with e
  simp only[gS]at e
  obtain⟨rfl,rfl⟩:=e
  exact⟨hm,hd⟩
 |(x,src)::l,done,mods,cs,mods',hm,hd,hl,e=>by
  simp only[lP]at e
  cases sub with
  |none=>cases e
  |some ld=>
   simp only at e
   split at e
   ·cases e
   cases hc:ld (dir++src++[47]) mods with
   |bad k p a=>rw[hc]at e;cases e
   |ok m1=>
    rw[hc]at e
    simp only at e
    split at e
    ·cases e
    split at e
    ·cases e
    exact FG hs path dir l _ _ cs mods' (hs ld rfl _ _ _ hm hc) (tE (x:={x with mod:=mods.length}) hd (hl (x,src) (by simp))) (λy hy=>hl y (aD _ hy)) e
theorem Rw{rd:Str->Option Str}:∀n,UB (rD rd n):=by
 have step:∀sub:Option (Str->List Md->RL (List Md)),(∀ld,sub=some ld->UB ld)->UB (sR rd sub):=by
  intro sub hs dir mods mods' hm e;unfold sR at e;split at e
  ·cases e
  split at e
  ·cases e
  rename_i fl hp;split at e
  ·cases e
  rename_i s hb;split at e
  ·cases e
  rename_i cs m1 hc;injection e with e
  subst e;have hN:=FN _ _ _ (⟨by simp,by simp,by simp,by simp,by simp⟩:NmS ⟨dir,fl,[],[],[],[],[]⟩) (HC hp) hb;obtain⟨g1,g2⟩:=FG hs _ _ _ _ _ _ _ (tE hm Wv) (by simp) (λx hx=>hN.c x.1 (by
   have:=List.of_mem_zip (a:=x.1) (b:=x.2) hx;exact this.1)) hc
  intro m h;rcases qB h with h|rfl
  ·exact g1 m h
  ·exact⟨hN.v,hN.l,hN.o,hN.r,g2⟩
 intro n;induction n with
 |zero=>exact step none λ_ h=>by cases h
 |succ n ih=>exact step _ λld h=>by cases h;exact ih
theorem EI{mods:List Md}{m:Md}(h:mods[i]?=some m):nR (mods.take (i+1))=nR (mods.take i)++m.calls.map (·.mod):=by
 rw[jT,h];simp[nR]
theorem Pk(mods:List Md)(i x:Nat):(nR (mods.take i)).count x<=(nR mods).count x:=by
 have:nR mods=nR (mods.take i)++nR (mods.drop i):=by rw[<-Ho,pM]
 rw[this,kH];omega
theorem CfR.lt{B:Nat}{Ls:List ML}{mods:List Md}(h:CfR w B v Ls mods):(∀k,v.ownBlock=some k->k<w.heap.size)/\∀L∈Ls,∀k∈ub L.vals,k<w.heap.size:=by
 refine⟨λk hk=>(kJ h.ow hk).1,λL hL k hk=>?_⟩;obtain⟨i,hi⟩:=tP hL;have hil:=(bS.1 hi).1;exact((h.md i L _ hi (aG (by rw[<-h.len];exact hil))).lt k hk).1
section
variable [HX]
theorem conce_true{ps ts:List Str}{vp vt:Value}{T1 T2:TypeId}{K:Q0}(hT:TabI w)(hps:SlAt w T1 vp ps.length (strs ps))(hts:SlAt w T2 vt ts.length (strs ts))(hpl:∀p∈ps,p.length<=9223372036854775807)(hK:∀w',Ext w w'->K (.bool true) w'):
  aJ P0 5 [.agg [vp,vt].toArray] w K:=by
 refine Ze ?_;unfold W5;refine fZ (z:=[vp,vt]) λb1 w1 hb1 hz1 hbb1 hx1=>?_;refine KP (pU hT hx1) λw2 hx2=>?_;have hx02:=hx1.trans hx2;rw[fH,dH,bQ];refine gF (hx2.at hbb1 id) rfl ?_;refine GK (ps:=ps) (ts:=ts) (hps.ext hx02) (hts.ext hx02) hpl λb m l w3 hfs3 hll hl1=>?_;simp only[bY];refine⟨_,rfl,_,rfl,?_⟩;refine cK λb4 w4 hb4 hz4 hbb4 hx4=>?_;refine cY hbb4 hll rfl hl1 λw5 hz5 hbb45 hc5=>?_;have hx35:Ext w3 w5:=hx4.new hc5 (by omega);have hfs5:=hfs3.more hx35;rw[Fx.eq_pn,bQ];have hx05:Ext w w5:=hx02.trans hfs5.ext;refine By (pU hT hx05) hfs5.fs hfs5.ok (λmods hl v Ls w6 hx6 hcf=>?_) (λc p a hl d w6 hx6 hd hdb=>?_)
 ·have hx06:=hx05.trans hx6;have z06:=hx06.size;simp only[bY];refine⟨_,rfl,_,rfl,?_⟩;refine cK λb5 w7 hb5 hz7 hbb7 hx7=>?_;refine cY (l:=[v]) hbb7 rfl rfl (by simp[fV hcf.ow.sl]) λw8 hz8 hbb8 hc8=>?_;have hx68:Ext w6 w8:=hx7.new hc8 (by omega);have hcf8:=hcf.ext hx68;have hLO:LOk 0 mods/\mods≠[]/\mods.length<=16:=by
   obtain⟨new,hnew,hne,h16,hLO⟩:=Kn EW 4 _ _ _ (dU _) hl;rw[gB]at hnew;subst hnew;exact⟨hLO,hne,h16⟩
  have hfew:=NB 4 _ _ _ (λm h=>by cases h) hl;have hnms:=Rw 4 _ _ _ (λm h=>by cases h) hl;have hpos:0<mods.length:=iG.2 hLO.2.1;have h16:=hLO.2.2;rw[UE,bQ,bE,bL];refine ldb hbb8 (v:=v) rfl ?_;rw[eO hcf8.ow.sl];refine WA (n:=mods.length) (by omega) λe w9 he hz9 hE9 hx9=>?_;have hcf9:=hcf8.ext hx9;have hbb9:=hx9.at hbb8 id;have hne5:b5≠e:=by have:=mB hbb8;omega
  rw[bE,bL];refine ldb hbb9 (v:=v) rfl ?_;rw[eO hcf9.ow.sl];rw[<-Sk]at hE9;have hct:∀j,(nR mods).count j<=1:=λj=>by rw[hLO.1.ct j];split<;>omega
  refine dL.go (λst w'=>∃i:Nat,st=[i64 (i:Nat)]/\i<=mods.length/\Chg (One e) w9 w'/\w'.heap[e]?=some (.cells (ints (cnt mods.length (nR (mods.take i)))).toArray jY (0,0))) (λst _=>match st with|[.int _ i]=>mods.length-i.toNat|_=>0) ⟨0,rfl,dU _,Chg.refl _ _,by simpa[nR]using hE9⟩ ?_;rintro st g w10 ⟨i,rfl,hi,hx10,hE10⟩;have hcf10:=hcf9.keep hx10 (λk hk e'=>by have e':k=e:=e';have:=hcf8.lt.1 k hk;omega) (λL hL k hk e'=>by have e':k=e:=e';have:=hcf8.lt.2 L hL k hk;omega);have hbb10:=hx10.at hbb9 (λe'=>hne5 e');simp only[aC];rw[dI,bD];refine⟨λhlt=>?_,λhge=>?_⟩
  ·have hlt:i<mods.length:=by omega
   obtain⟨md,hmi⟩:∃m,mods[i]?=some m:=⟨_,aG hlt⟩;obtain⟨L,hLi⟩:∃L,Ls[i]?=some L:=⟨_,aG (by rw[hcf10.len];exact hlt)⟩;have hmm:=bI hmi;have hmd:=hcf10.md i L md hLi hmi;have hnm:=hnms md hmm;have hf:=hfew md hmm;obtain⟨src,hok⟩:=hLO.1.ok md hmm;have hu8:=hcf8.lt.2 L (bI hLi);refine lZ hcf10.ow.sl (Gx hcf10.len) (by omega) hlt ?_;rw[AO hLi hmi];refine cK λb9 w11 hb9 hz11 hbb11 hx11=>?_;refine cY (l:=L.cells md.dir) hbb11 rfl rfl (by simp only[ML.cells,wM,Ei,fV hmd.fo.oE.sl,fV hmd.fo.oB.sl,fV hmd.fo.oT.sl,fV hmd.oV.sl,fV hmd.oL.sl,fV hmd.oO.sl,fV hmd.oR.sl,fV hmd.oC.sl];rfl) λw12 hz12 hbb12 hc12=>?_;have hx12:Ext w10 w12:=hx11.new hc12 (by omega);have hmd12:=hmd.keep hx12 λ_ _ e=>e;rw[bE,bL,bE,bL];refine ldb hbb12 (v:=L.M.vE) rfl ?_;rw[eO hmd12.fo.oE.sl,bE,bL];refine ldb hbb12 (v:=L.vV) rfl ?_;refine OO (w0:=w12) (n:=md.fl.ex.length) (ns:=[]) (Chg.refl _ _) hmd12.oV.sl (rJ _ _ _ _) hf.v (by simp) hnm.v hok.vd λv1 w13 hx13 hO13=>?_;simp only[aC];rw[bE,bL];refine ldb (hx13.at hbb12 id) (v:=L.vL) rfl ?_;refine KQ (pre:=zZ) hx13 hmd12.oL.sl hO13 hf.l (by have:=hf.v;simp only[gB,fP];omega) hnm.l (by decide) λv2 w14 hx14 hO14=>?_;simp only[aC];rw[bE,bL];refine ldb (hx14.at hbb12 id) (v:=L.vO) rfl ?_;refine KQ (pre:=yP) hx14 hmd12.oO.sl hO14 (by have:=hf.o;omega) (by have:=hf.v;have:=hf.l;simp only[gB,aP,fP];omega) hnm.o (by decide) λv3 w15 hx15 hO15=>?_;simp only[aC];rw[bE,bL];refine ldb (hx15.at hbb12 id) (v:=L.vR) rfl ?_;refine Vp (n:=md.fl.ex.length) hx15 hmd12.oR.sl hmd12.rr hO15 hf.r (by have:=hf.v;have:=hf.l;have:=hf.o;simp only[gB,aP,fP];omega) hnm.r (λx hx=>(hok.rv x hx).2.2) λv4 w16 hx16 hO16=>?_;simp only[aC];rw[bE,bL];refine ldb (hx16.at hbb12 id) (v:=L.vC) rfl ?_;have hE12:=hx12.at hE10 id;refine Xa (i:=i) (N:=mods.length) (e:=e) (b5:=b5) (L0:=nR (mods.take i)) (Chg.of_ext hx16) hmd12.oC.sl (λh=>by have:=hu8 e (eF (v:=L.vC) (by simp[ML.vals]) h);omega) hmd12.cc (hx12.at hbb10 id) hne5 (hcf10.ow.sl.ext hx12) (λh=>by have:=hcf8.lt.1 e h;omega) hO16 (hx16.at hE12 id) (mB hE12) hf.c (by have:=hf.v;have:=hf.l;have:=hf.o;have:=hf.r;simp only[gB,aP,fP];omega) hnm.c (λx hx=>?_) (λj=>?_) λv5 w17 hx17 hO17 hE17=>?_
   ·have h1:=hLO.1.up i md hmi x hx;have h2:0<(nR mods).count x.mod:=List.count_pos_iff.2 (List.mem_flatMap.2 ⟨md,hmm,gE.2 ⟨x,hx,rfl⟩⟩);rw[hLO.1.ct]at h2;refine⟨by omega,?_⟩;refine lI λhn=>?_;rw[aL (by omega)]at h2;omega
   ·rw[<-EI hmi];have:=Pk mods (i+1) j;have:=hct j;omega
   simp only[aC];have hnn:[]++md.vars.map (λx=>Bv++x.n)++md.locs.map (λx=>zZ++x.n)++md.outs.map (λx=>yP++x.n)++md.res.map Hm++md.calls.map clN=Gw md:=rfl;rw[hnn]at hO17;refine MC hO17.sl (by have:=hf.v;have:=hf.l;have:=hf.o;have:=hf.r;have:=hf.c;simp only[Gw,aP,fP];omega) (HJ hok) λw18 hx18=>?_;rw[cJ,upi (by omega)];refine⟨⟨i+1,rfl,by omega,hx10.trans ((Chg.of_ext hx12).trans (hx17.trans (Chg.of_ext hx18))),?_⟩,by simp only[aV];omega⟩;rw[EI hmi];exact hx18.at hE17 id
  ·obtain rfl:i=mods.length:=by omega
   rw[dZ]at hE10;have hO:=Rh (B:=0) hE10 (dU _) (by omega);rw[gZ];refine dL.go (λst w'=>∃j:Nat,st=[i64 (j:Nat)]/\j<=mods.length/\w'=w10) (λst _=>match st with|[.int _ i]=>mods.length-i.toNat|_=>0) ⟨0,rfl,dU _,rfl⟩ ?_;rintro st g2 w' ⟨j,rfl,hj,hw⟩;obtain rfl:w10=w':=hw.symm;simp only[aC];rw[dI,bD];refine⟨λhlt=>?_,λhge=>?_⟩
   ·have hlt:j<mods.length:=by omega
    refine mR hO.sl (by simp[ints,AY]) (x:=i64 ((nR mods).count j:Nat)) (by simp[ints,KH _ hlt]) ?_;have hc:=hLO.1.ct j;have he:(((nR mods).count j:Nat):Int)=if(1:Int)<(j:Nat)then(1:Int)else(j:Nat):=by
     rw[hc];by_cases h0:j=0
     ·subst h0;simp
     ·rw[aU (by omega)];split<;>omega
    rw[iF,dQ,bH (by rw[he];simp),bQ,cJ,upi (by omega)];exact⟨⟨j+1,rfl,by omega,by first|rfl|trivial⟩,by simp only[aV];omega⟩
   ·have hxe:Ext w w10:=((hx06.trans hx68).trans hx9).new hx10 (by have:=hx68.size;omega);rw[bE,bL];refine ldb hbb10 (v:=v) rfl ?_;rw[eO hcf10.ow.sl,fS,bW (by omega),fT];refine GdW.look true (λ_ J hJ=>?_) λg3=>?_
    ·rw[bE,bL];refine ldb hbb10 (v:=v) rfl ?_;rw[eO hcf10.ow.sl,gN,bW (by omega)];exact hJ
    simp only[aC];rw[fG];exact hK w10 hxe
 ·simp only[bY];refine⟨_,rfl,_,rfl,?_⟩;refine cK λb5 w7 hb5 hz7 hbb7 hx7=>?_;refine cY (l:=[.slice none 0 0]) hbb7 rfl rfl rfl λw8 hz8 hbb8 hc8=>?_;have hx68:Ext w6 w8:=hx7.new hc8 (by omega);rw[Fx.ne_pn,dG,bE,bL];refine ldb hbb8 (v:=.slice none 0 0) rfl ?_;rw[gZ,cL,bW (show((0:Nat):Int)=0 from rfl),fT];refine GdW.look true (λ_ J hJ=>?_) λg1=>?_
  ·rw[dB,bE,bL];refine ldb (hx68.at hdb id) (v:=str p) rfl ?_;rw[gA,bW (NC 4 _ _ _ _ _ hl)];exact hJ
  simp only[aC];rw[fG];exact hK w8 ((hx05.trans hx6).trans hx68)
end
end
end Go.Proofs.YtjblfcfdeaagpaaGreatDoor
