/- One plain sentence: contracts and plain laws that the claim rests on. Conditions: those that each states. -/
import Derived.Test.YtjblfcfdeaagpaaGreatDoorXW1
import Derived.Test.YtjblfcfdeaagpaaGreatDoorXW3
import Derived.Test.YtjblfcfdeaagpaaGreatDoorXW2
import Derived.Lib.MapLaws
set_option linter.all false
set_option linter.unusedSimpArgs false
set_option linter.unusedVariables false
set_option linter.unusedSectionVars false
set_option maxRecDepth 100000
variable{w W:Go.World}{K:Go.Value->Go.World->Prop}{cs d D:List Go.Value}{G S:Nat->Prop}{T U:Go.TypeId}{i n m j p q r A:Nat}{v g:Go.Value}{P:Go.Program}{c:UInt8}{s y o B:Str}{u:List Nat}{a z:Int}{F:Go.Value->Prop}{H:Go.World->Prop}{E:Bool}{L:List Str}{α β:Type}{v0 v1 v2 v3 v4 v5:Go.Value}
namespace Go.Syn
section
open Go Go.Eng Go.Lex
def pP(c:UInt8):Str:=if c=92\/c=34\/c=36 then [92,c]else if c=10 then [92,110]else if c=9 then [92,116]else if c=13 then [92,114]else [c]
def plainM(s:Str):Str:=s.flatMap pP
def quotM(s:Str):Str:=[34]++plainM s++[34]
def sQ:List Str:=[[43],[45],[42],[47],[37],[61,61],[33,61],[60],[62],[60,61],[62,61],[38,38],[124,124]]
def Af(f:Fl)(e:Ex)(l:List Str)(n:Nat):Str:=
 ((List.range n).map λk=>if e.keys.getD k []=[116]then plainM (f.ex.getD (e.args.getD k 0) ⟨0,[],[],[],0⟩).t else [36,123]++l.getD k []++[125]).flatten
def joinL(l:List Str)(sep:Str):Str:=sep.intercalate l
def lL(f:Fl)(e:Ex)(l:List Str):Str:=
 let all:=joinL l [44,32]
 if e.k=1 then [110,117,108,108]
 else if e.k=2 then [116,114,117,101]
 else if e.k=3 then [102,97,108,115,101]
 else if e.k=4\/e.k=9 then e.t
 else if e.k=5 then quotM e.t
 else if e.k=6 then [34]++Af f e l l.length++[34]
 else if e.k=7 then [91]++all++[93]
 else if e.k=8 then [123]++all++[125]
 else if e.k=10 then [40]++l.getD 0 []++[41,46]++e.t
 else if e.k=30 then [40]++l.getD 0 []++[41,91,42,93,46]++e.t
 else if e.k=11 then [40]++l.getD 0 []++[41,91]++l.getD 1 []++[93]
 else if e.k=12 then e.t++[40]++all++[41]
 else if e.k=13 then [40,45]++all++[41]
 else if e.k=14 then [40,33]++all++[41]
 else if e.k=28 then [40]++l.getD 0 []++[32,63,32]++l.getD 1 []++[32,58,32]++l.getD 2 []++[41]
 else if e.k=29 then [91,102,111,114,32]++e.t++[32,105,110,32]++l.getD 0 []++[32,58,32]++l.getD 1 []++[93]
 else [40]++l.getD 0 []++[32]++sQ.getD (e.k-15).toNat []++[32]++l.getD 1 []++[41]
def CL(e:Ex)(s:Nat->Str)(k:Nat):Str:=(if e.k=8 then [34]++plainM (e.keys.getD k [])++[34,32,61,32]else [])++s (e.args.getD k 0)
def lQ(e:Ex)(s:Nat->Str):List Str:=(List.range e.args.length).map (CL e s)
def Fq:Nat->Fl->Nat->Str
 |0,_,_=>[]
 |n+1,f,i=>match f.ex[i]? with
  |none=>[]
  |some e=>lL f e (lQ e (Fq n f))
def eO(f:Fl)(i:Nat):Str:=Fq (i+1) f i
def inM(n:Nat):Str:=(List.replicate n [32,32]).flatten
def vW(l:List Str):Str:=(l.map λs=>[32,34]++plainM s++[34]).flatten
def xN(f:Fl)(n:Nat)(a:Atr):Str:=inM n++[32,32]++a.n++[32,61,32]++eO f a.e++[10]
def AF:Nat->Fl->Nat->Nat->Str
 |0,_,_,_=>[]
 |m+1,f,i,n=>match f.bl[i]? with
  |none=>[]
  |some b=>inM n++b.typ++vW b.labels++[32,123,10]++(b.attrs.map (xN f n)).flatten++(b.blocks.map λk=>AF m f k (n+1)).flatten++inM n++[125,10]
def lY(f:Fl)(i n:Nat):Str:=AF (i+1) f i n
def nB(f:Fl):Str:=(f.top.map λi=>lY f i 0).flatten
def wC(f:Fl):Prop:=(∀(i:Nat) (e:Ex),f.ex[i]?=some e->∀a∈e.args,a<i)/\∀(i:Nat) (b:Blk),f.bl[i]?=some b->∀a∈b.blocks,a<i
def Vh{f:Fl}(h:∀(i:Nat) (e:Ex),f.ex[i]?=some e->∀a∈e.args,a<i):∀(n i:Nat),i<n->Fq n f i=eO f i:=by
 intro n i;induction i using Nat.strongRecOn generalizing n with
 |ind i ih=>
  intro g;obtain⟨n,rfl⟩:∃m,n=m+1:=⟨n-1,by omega⟩;unfold eO;simp only[Fq];cases d:f.ex[i]? with
  |none=>rfl
  |some e=>
   simp only;congr 1;unfold lQ;apply gS;intro k b;rw[gW]at b;unfold CL;congr 1;have c:=h i e d (e.args.getD k 0) (by rw[aM,aH b];exact gE b);rw[ih _ c n (by omega),ih _ c i c]
def DX{f:Fl}(h:∀(i:Nat) (e:Ex),f.ex[i]?=some e->∀a∈e.args,a<i){e:Ex}(c:f.ex[i]?=some e):eO f i=lL f e (lQ e (eO f)):=by
 unfold eO;simp only[Fq,c];congr 1;unfold lQ;apply gS;intro k b;rw[gW]at b;unfold CL;congr 1;have d:=h i e c (e.args.getD k 0) (by rw[aM,aH b];exact gE b);exact Vh h i _ d
def Se{f:Fl}(h:∀(i:Nat) (b:Blk),f.bl[i]?=some b->∀a∈b.blocks,a<i):∀(n i l:Nat),i<n->AF n f i l=lY f i l:=by
 intro n i;induction i using Nat.strongRecOn generalizing n with
 |ind i ih=>
  intro l j;obtain⟨n,rfl⟩:∃m,n=m+1:=⟨n-1,by omega⟩;unfold lY;simp only[AF];cases g:f.bl[i]? with
  |none=>rfl
  |some b=>
   simp only;have e:b.blocks.map (λk=>AF n f k (l+1))=b.blocks.map (λk=>AF i f k (l+1)):=by
    apply gS;intro k d;have c:=h i b g k d;rw[ih _ c n _ (by omega),ih _ c i _ c]
   rw[e]
def xM{f:Fl}(h:∀(i:Nat) (b:Blk),f.bl[i]?=some b->∀a∈b.blocks,a<i){b:Blk}(c:f.bl[i]?=some b)(n:Nat):
  lY f i n=inM n++b.typ++vW b.labels++[32,123,10]++(b.attrs.map (xN f n)).flatten++(b.blocks.map λk=>lY f k (n+1)).flatten++inM n++[125,10]:=by
 show AF (i+1) f i n=_;simp only[AF,c];have e:b.blocks.map (λk=>AF i f k (n+1))=b.blocks.map (λk=>lY f k (n+1)):=by
  apply gS;intro k d;exact Se h i k _ (h i b c k d)
 rw[e]
end
end Go.Syn
namespace Go.Proofs.YtjblfcfdeaagpaaGreatDoor
section
open Go Go.Eng Go.Lex
def Nw(n:Nat)(s:Str)(at_ cnt:Nat):nA n (32::s) at_ cnt=nA n s (at_+1) cnt:=by
 cases n with
 |zero=>rfl
 |succ n=>
  rw[BN,BN];have e:gU ((32::s).length+1) (32::s)=((gU (s.length+1) s).1+1,(gU (s.length+1) s).2):=rfl;rw[e];generalize gU (s.length+1) s=k;simp only[dI];rw[show at_+(k.1+1)=at_+1+k.1 by omega]
end
section
open Go Go.Eng Go.Lex Go.Syn
abbrev KT:=Int×Str
def kt(t:Tok):KT:=(t.k,t.t)
def Far(N:Nat)(c:Int):Prop:=c=7\/(c=3/\4000<N)
def SR(N:Nat)(x:RS)(P:List Tok->Prop):Prop:=match x with
 |.ok l=>P l
 |.bad c _=>Far N c
def SR.mono{N:Nat}{x:RS}{P Q:List Tok->Prop}(h:SR N x P)(b:∀l,P l->Q l):SR N x Q:=by
 cases x with
 |ok l=>exact b l h
 |bad c a=>exact h
structure Sg(N:Nat)(A:Str)(T:List KT)(r:Str):Prop where
 len:T.length<=A.length
 go:∀(n a cnt:Nat) (Q:List Tok->Prop),(A++r).length<n->cnt<=a->a+(A++r).length<=N->(∀n',r.length<n'->SR N (nA n' r (a+A.length) (cnt+T.length)) Q)->SR N (nA n (A++r) a cnt) (λl=>∃l1 l2,l=l1++l2/\l1.map kt=T/\Q l2)
def Sg.app{N:Nat}{A:Str}{T U:List KT}{r:Str}(f:Sg N A T (B++r))(h:Sg N B U r):Sg N (A++B) (T++U) r:=by
 refine⟨by have:=f.len;have:=h.len;simp only[aB];omega,λn a cnt Q g k e j=>?_⟩;rw[cD]at g e⊢;refine(f.go n a cnt (λl=>∃l1 l2,l=l1++l2/\l1.map kt=U/\Q l2) g k e λn' d=>?_).mono ?_
 .have p:=f.len;refine h.go n' _ _ Q d (by omega) (by simp only[aB]at e⊢;omega) λc b=>?_;have:=j c b;simp only[aB]at this;rwa[<-Nat.add_assoc,<-Nat.add_assoc]at this
 .rintro l ⟨l1,l2,rfl,o,l3,l4,rfl,m,i⟩;exact⟨l1++l3,l4,by rw[cD],by rw[kT,o,m],i⟩
def Sg.nil(N:Nat)(r:Str):Sg N [] [] r:=⟨aQ _,λn a cnt Q b e f d=>by
 rw[dS]at b⊢
 exact(d n b).mono λl c=>⟨[],l,rfl,rfl,c⟩⟩
def tG(N:Nat)(r:Str):Sg N [32] [] r:=⟨cZ _,λn a cnt Q b e f d=>by
 rw[fS,dS,Nw]
 exact(d n (by simp at b;omega)).mono λl c=>⟨[],l,rfl,rfl,c⟩⟩
def Cz{N:Nat}{A r:Str}{k:Int}{t:Str}(g:1<=A.length)(f:∀m,gU (m+1) (A++r)=(0,0))(d:mY (A++r)=(⟨k,t,0⟩,A.length,0)\/(mY (A++r)).2.2=7):Sg N A [(k,t)] r:=by
 refine⟨g,λn a cnt Q j q p o=>?_⟩;obtain⟨n,rfl⟩:∃m,n=m+1:=⟨n-1,by omega⟩;rw[BN,f,dZ,aE (by decide),aE (by intro e;rw[List.append_eq_nil_iff]at e;rw[e.1]at g;simp at g)];rcases d with d|d
 .rw[d,aE (λe=>e rfl)];simp only[aB]at p j;by_cases h:cnt=4096
  .rw[aO h];exact .inr ⟨rfl,by omega⟩
  .rw[aE h];have:=o n (by omega);simp only[bL,qB];simp only[aA,aD,aN]at this;cases i:nA n r (a+A.length) (cnt+1)with
   |ok l=>rw[i]at this;exact⟨[_],l,rfl,rfl,this⟩
   |bad c b=>rw[i]at this;exact this
 .rw[aO (by rw[d];decide),d];exact .inl rfl
def BK(r:Str)(h:c≠32/\c≠9/\c≠13/\c≠35/\c≠47)(m:Nat):gU (m+1) (c::r)=(0,0):=by
 obtain⟨g,f,d,b,a⟩:=h;have j:qF [47,47] (c::r)=false:=by
  unfold qF;simp only[List.isPrefixOf];rw[show((47:UInt8)==c)=false by simp;exactλe=>a e.symm];rfl
 have i:qF [47,42] (c::r)=false:=by
  unfold qF;simp only[List.isPrefixOf];rw[show((47:UInt8)==c)=false by simp;exactλe=>a e.symm];rfl
 rw[gU,j,i];simp[g,f,d,b]
def Gv:List UInt8:=[123,125,91,93,40,41,43,45,42,37,63,58,44,46]
def De{N:Nat}(h:c∈Gv)(r:Str):Sg N [c] [(4,[c])] r:=by
 have a:∀c∈Gv,(c≠32/\c≠9/\c≠13/\c≠35/\c≠47):=by decide
 refine Cz (aQ _) (BK r (a c h)) (.inl ?_);simp only[Gv,aX,bU,fT]at h;cases r with
 |nil=>rcases h with rfl|rfl|rfl|rfl|rfl|rfl|rfl|rfl|rfl|rfl|rfl|rfl|rfl|rfl<;>rfl
 |cons d r=>rcases h with rfl|rfl|rfl|rfl|rfl|rfl|rfl|rfl|rfl|rfl|rfl|rfl|rfl|rfl<;>rfl
def To(N:Nat)(r:Str):Sg N [10] [(5,[10])] r:=Cz (aQ _) (BK r (by decide)) (.inl rfl)
def aBG{N:Nat}{w:Str}(h:w∈[61]::sQ)(r:Str):Sg N w [(4,w)] (32::r):=by
 simp only[sQ,aX,bU,fT]at h;refine Cz ?_ ?_ (.inl ?_)
 .rcases h with rfl|rfl|rfl|rfl|rfl|rfl|rfl|rfl|rfl|rfl|rfl|rfl|rfl|rfl<;>simp
 .rcases h with rfl|rfl|rfl|rfl|rfl|rfl|rfl|rfl|rfl|rfl|rfl|rfl|rfl|rfl<;>exactλ_=>rfl
 .rcases h with rfl|rfl|rfl|rfl|rfl|rfl|rfl|rfl|rfl|rfl|rfl|rfl|rfl|rfl<;>rfl
def aCm{N:Nat}(h:c≠61)(r:Str):Sg N [33] [(4,[33])] (c::r):=by
 refine Cz (aQ _) (BK _ (by decide)) (.inl ?_);have e:tF (33::c::r)=[33]:=by
  unfold tF;have:wX.contains ((33::c::r).take 2)=false:=by
   simp only[oG,rU];rw[Bool.eq_false_iff];intro d;have:=CQ.1 d;simp only[wX,aX,bU,fT,gC,fQ]at this;rcases this with a|a|a|a|a|a
   .exact absurd a.1 (by decide)
   .exact h a.2
   .exact absurd a.1 (by decide)
   .exact absurd a.1 (by decide)
   .exact absurd a.1 (by decide)
   .exact absurd a.1 (by decide)
  rw[this,aE (by decide)];rfl
 have b:([33]:Str)++c::r=33::c::r:=rfl;rw[b];unfold mY;simp only[FG];rw[aE (by decide),aE (by decide),aE (by decide),aE (by decide)];have:qF [60,60] (33::c::r)=false:=rfl;rw[this,aE (by decide),e];rfl
def Nz{q:UInt8->Bool}:∀{t r:Str},(∀d∈t,q d=true)->(∀c x,r=c::x->q c=false)->gD q (t++r)=t.length
 |[],r,_,a=>by
  cases r with
  |nil=>rfl
  |cons c x=>
   show gD q (c::x)=0
   rw[gD,a c x rfl,aE (by decide)]
 |d::t,r,h,a=>by
  show gD q (d::(t++r))=t.length+1
  rw[gD,aO (h d (by simp)),Nz (λx b=>h x (aF _ b)) a]
def NF(r:Str):Prop:=∀c x,r=c::x->gY c=false
def Rj(h:gV c=true):c≠10/\c≠32/\c≠9/\c≠13/\c≠35/\c≠47:=by
 refine⟨?_,?_,?_,?_,?_,?_⟩<;>(rintro rfl;exact absurd h (by decide))
def Vk(h:jY c=true):gV c=false/\c≠10/\c≠32/\c≠9/\c≠13/\c≠35/\c≠47:=by
 refine⟨?_,?_,?_,?_,?_,?_,?_⟩
 .simp only[jY,bV,fK,UInt8.le_iff_toNat_le]at h;simp only[gV,xQ,CS,decide_eq_false_iff_not,UInt8.le_iff_toNat_le,beq_eq_false_iff_ne,cY,<-mZ];have i:(48:UInt8).toNat=48:=rfl;have g:(57:UInt8).toNat=57:=rfl;have f:(97:UInt8).toNat=97:=rfl;have e:(122:UInt8).toNat=122:=rfl;have d:(65:UInt8).toNat=65:=rfl;have b:(90:UInt8).toNat=90:=rfl;have a:(95:UInt8).toNat=95:=rfl;omega
 all_goals(rintro rfl;exact absurd h (by decide))
def JD{N:Nat}{t r:Str}(h:sZ t)(g:NF r):Sg N t [(1,t)] r:=by
 obtain⟨⟨c,x,rfl,b⟩,a,i⟩:=h;obtain⟨f,d,n3,n4,n5,n6⟩:=Rj b;refine Cz (by simp) (λm=>BK _ ⟨d,n3,n4,n5,n6⟩ m) (.inl ?_);have e:=Nz (q:=gY) a g;unfold mY;simp only[fS,FG];rw[aE (by simpa using f),aO b];have e:gD gY (c::(x++r))=(c::x).length:=e;simp only[e];rw[aE (by omega)];have:(c::(x++r)).take (c::x).length=c::x:=by rw[<-fS];exact uA
 rw[this]
def YN(a:s.headD 0≠10)(c:gV (s.headD 0)=false)(e:jY (s.headD 0)=true)(b:gD jY s=n)(f:((decide (n<s.length)&&gV ((s.drop n).headD 0))||(s.headD 0==48&&decide (1<n)))=false)(d:Num.goodN (s.take n)=true):mY s=(⟨2,s.take n,0⟩,n,0):=by
 subst b;unfold mY;simp only;rw[aE (by simpa using a),aE (by rw[c];decide),aO e,aE (by rw[f];decide),aO d]
def Wy{N:Nat}{t r:Str}(h:VX t)(u:NF r):Sg N t [(2,t)] r:=by
 obtain⟨⟨c,x,rfl⟩,g,p,v⟩:=h;have j:=g c (by simp);obtain⟨o,l,k,n3,n4,n5,n6⟩:=Vk j;have f:∀c x,r=c::x->jY c=false/\gV c=false:=λc x e=>by
  have:=u c x e;simp only[gY,xQ]at this;exact⟨this.1.2,this.1.1⟩
 refine Cz (by simp) (λm=>BK _ ⟨k,n3,n4,n5,n6⟩ m) (.inl ?_);have e:=Nz (q:=jY) g (λc x e=>(f c x e).1);have b:(c::x++r).drop (c::x).length=r:=qB;have a:(c::x++r).take (c::x).length=c::x:=uA;have w:(decide ((c::x).length<(c::x++r).length)&&gV (r.headD 0))=false:=by
  cases r with
  |nil=>simp
  |cons d y=>rw[show(d::y).headD 0=d from rfl,(f d y rfl).2,eL]
 have b2:(c==48&&decide (1<(c::x).length))=false:=by
  by_cases i:c=48
  .have:=p i;rw[this];simp
  .rw[show(c==48)=false by simpa using i];rfl
 have:=YN (s:=c::x++r) (n:=(c::x).length) l o j e (by rw[b,w];exact b2) (by rw[a];exact v);rwa[a]at this
def Zy:List UInt8:=[41,93,44,32,125,10]
def Fol(r:Str):Prop:=r=[]\/∃c x,r=c::x/\c∈Zy
def Fol.nf{r:Str}(h:Fol r):NF r:=by
 intro c x e;rcases h with rfl|⟨d,y,rfl,a⟩
 .cases e
 .injection e with b _
  subst b;exact(show∀c∈Zy,gY c=false by decide) d a
def Ho(h:c∈Zy)(r:Str):Fol (c::r):=.inr ⟨c,r,rfl,h⟩
def Zx:Fol []:=.inl rfl
def Uh(h:gY c=false)(r:Str):NF (c::r):=λd x e=>by injection e with a _;rw[<-a];exact h
def Li{N:Nat}{A:Str}{T:List KT}(h:Sg N A T [])(c:Utf A)(f:A.length<=N):SR N (mS A) (λl=>l.map kt=T++[(0,[])]):=by
 unfold mS;by_cases b:16384<A.length
 .rw[aO b];exact .inr ⟨rfl,by omega⟩
 rw[aE b,ZW c (s:=A) (i:=0) (by rw[dZ])];simp only;have:=h.go (A.length+1) 0 0 (λl=>l.map kt=[(0,[])]) (by rw[dL];omega) (aQ _) (by rw[dL];omega) λn' a=>by
  obtain⟨n',rfl⟩:∃m,n'=m+1:=⟨n'-1,by simp at a;omega⟩;exact(show([⟨0,[],_⟩]:List Tok).map kt=[(0,[])]from rfl)
 rw[dL]at this;refine this.mono ?_;rintro l ⟨l1,l2,rfl,e,d⟩;rw[kT,e,d]
end
end Go.Proofs.YtjblfcfdeaagpaaGreatDoor
namespace Go.Syn
section
open Go Go.Eng Go.Lex
inductive PlB (c:UInt8):Str->Prop where
 |esc (e:UInt8) (h:Lex.escOk e=true) (h2:(if e=110 then(10:UInt8)else if e=116 then 9 else if e=114 then 13 else e)=c):PlB c [92,e]
 |lit (h1:c≠92) (h2:c≠34) (h3:c≠36) (h4:c≠10):PlB c [c]
def wG(c:UInt8):PlB c (pP c):=by
 unfold pP;by_cases a:c=92\/c=34\/c=36
 .rw[aO a];rcases a with rfl|rfl|rfl<;>exact .esc _ (by decide) (by decide)
 rw[aE a];by_cases b:c=10
 .rw[aO b];subst b;exact .esc _ (by decide) (by decide)
 rw[aE b];by_cases f:c=9
 .rw[aO f];subst f;exact .esc _ (by decide) (by decide)
 rw[aE f];by_cases d:c=13
 .rw[aO d];subst d;exact .esc _ (by decide) (by decide)
 rw[aE d];exact .lit (λe=>a (.inl e)) (λe=>a (.inr (.inl e))) (λe=>a (.inr (.inr e))) b
def nP(c:UInt8)(s:Str):plainM (c::s)=pP c++plainM s:=rfl
def xA:∀s:Str,iW (plainM s)=s
 |[]=>rfl
 |c::s=>by
  rw[nP]
  have a:=xA s
  have f:=wG c
  generalize pP c=p at f
  cases f with
  |esc e h g=>
   show iW (92::e::plainM s)=_
   rw[iW,aO rfl,a,g]
  |lit i g k j=>
   show iW (c::plainM s)=_
   cases b:plainM s with
   |nil=>
    rw[b]at a
    rw[iW,aE i,<-a];rfl
   |cons d r=>
    rw[b]at a
    rw[iW,aE i,a]
def Ce:∀s:Str,insP (plainM s)=none
 |[]=>rfl
 |c::s=>by
  rw[nP]
  have a:=Ce s
  have b:=wG c
  generalize pP c=p at b
  cases b with
  |esc e h i=>
   show insP (92::e::plainM s)=_
   rw[insP,aO rfl,a];rfl
  |lit j i g k=>
   show insP (c::plainM s)=_
   cases f:plainM s with
   |nil=>rfl
   |cons d r=>
    rw[f]at a
    rw[insP,aE j,aE (λe=>g e.1),a];rfl
end
end Go.Syn
namespace Go.Proofs.YtjblfcfdeaagpaaGreatDoor
section
open Go Go.Eng Go.Lex Go.Syn
def Qp(j k:Nat)(x:Nat×Int):nJ j (nJ k x)=nJ (k+j) x:=by
 obtain⟨a,b⟩:=x;unfold nJ;by_cases h:b=0
 .simp only[h,mE];rw[Nat.add_assoc]
 .simp only[aE h]
def VN(x:Nat×Int)(h:x.2=0\/x.1=0):nJ 0 x=x:=by
 obtain⟨a,b⟩:=x;unfold nJ;by_cases c:b=0
 .simp only[c,mE,bL]
 .have d:a=0:=h.resolve_left c;subst d;simp only[aE c]
def aB3{k:Nat}{x:Nat×Int}(h:x.2=7):(nJ k x).2=7:=by
 unfold nJ;rw[aE (by rw[h];decide)];exact h
def KO(j k:Nat):nJ j (k,0)=(k+j,0):=rfl
def In(A:Str):Prop:=∀(r:Str) (d:Nat),(∃y,mP (A++r) d=y/\y.2=7)\/mP (A++r) d=nJ A.length (mP r d)
def Tx(A:Str):Prop:=∀(r:Str) (d:Nat),(∃y,jC (A++r) d=y/\y.2=7)\/jC (A++r) d=nJ A.length (jC r d)
def aAc{k:Nat}{x:Nat×Int}(h:(nJ k x).2≠0):(nJ k x).1=0:=by
 unfold nJ at h⊢;split at h
 .exact absurd rfl h
 .rename_i a;rw[aE a]
def SX(r:Str)(d:Nat):(jC r d).2≠0->(jC r d).1=0:=by
 cases r with
 |nil=>intro _;rfl
 |cons c r=>
  rw[mX]
  repeat' split
  all_goals first
   |exactλh=>absurd rfl h
   |exactλ_=>rfl
   |exact aAc
def Tx.nil:Tx []:=λr d=>by
 right
 rw[dS,aD,VN]
 by_cases h:(jC r d).2=0
 .exact .inl h
 .exact .inr (SX r d h)
def In.app{A:Str}(c:In A)(b:In B):In (A++B):=λr d=>by
 rw[cD]
 rcases c (B++r) d with h|h
 .exact .inl h
 rcases b r d with⟨y,e,a⟩|e
 .exact .inl ⟨_,h,aB3 (by rw[e];exact a)⟩
 .right
  rw[h,e,Qp,aB,nX]
def Tx.app{A:Str}(c:Tx A)(b:Tx B):Tx (A++B):=λr d=>by
 rw[cD]
 rcases c (B++r) d with h|h
 .exact .inl h
 rcases b r d with⟨y,e,a⟩|e
 .exact .inl ⟨_,h,aB3 (by rw[e];exact a)⟩
 .right
  rw[h,e,Qp,aB,nX]
def UQ(h:c≠125/\c≠10/\c≠123/\c≠34):In [c]:=λr d=>by
 obtain⟨f,e,b,a⟩:=h
 right
 rw[fS,dS,sX]
 simp[f,e,b,a]
def US{A:Str}(h:∀c∈A,c≠125/\c≠10/\c≠123/\c≠34)(e:A≠[]):In A:=by
 induction A with
 |nil=>exact absurd rfl e
 |cons c A ih=>
  by_cases a:A=[]
  .subst a;exact UQ (h c (by simp))
  .exact(UQ (h c (by simp))).app (ih (λd b=>h d (aF _ b)) a)
def UR{A:Str}(h:A=[]\/In A):In ([123]++A++[125]):=λr d=>by
 have e:[123]++A++[125]++r=123::(A++125::r):=by simp
 rw[e,sX]
 rw[aE (by decide),aE (by decide),aO (by decide)]
 by_cases a:24<d+1
 .rw[aO a];exact .inl ⟨_,rfl,rfl⟩
 rw[aE a]
 have c:mP (125::r) (d+1)=(1,0):=by rw[sX,aO (by decide)]
 have g:(∃y,mP (A++125::r) (d+1)=y/\y.2=7)\/mP (A++125::r) (d+1)=(A.length+1,0):=by
  rcases h with rfl|h
  .right;rw[dS,c];rfl
  .rcases h (125::r) (d+1)with h|h
   .exact .inl h
   .right;rw[h,c,KO,nX]
 rcases g with⟨y,b,f⟩|b
 .rw[b,aE (by rw[f];decide)];exact .inl ⟨_,rfl,f⟩
 .right;rw[b,aO rfl];have:(A++125::r).drop (A.length+1)=r:=by rw[Ei,lG (by omega),dS,show A.length+1-A.length=0+1 by omega,dI,dZ]
  rw[this];congr 1;simp
def Zq{A:Str}(h:Tx A):In ([34]++A++[34]):=λr d=>by
 have e:[34]++A++[34]++r=34::(A++34::r):=by simp
 rw[e,sX]
 rw[aE (by decide),aE (by decide),aE (by decide),aO (by decide)]
 have c:jC (34::r) d=(1,0):=by rw[mX,aO (by decide)]
 rcases h (34::r) d with⟨y,a,b⟩|a
 .rw[a,aE (by rw[b];decide)]
  exact .inl ⟨_,rfl,b⟩
 .right
  rw[a,c,KO,aO rfl]
  have:(A++34::r).drop (1+A.length)=r:=by rw[nX,Ei,lG (by omega),dS,show A.length+1-A.length=0+1 by omega,dI,dZ]
  rw[this]
  congr 1
  simp;omega
def CZ(s:Str):Tx (Syn.plainM s):=by
 induction s with
 |nil=>exact Tx.nil
 |cons c s ih=>
  rw[nP];refine Tx.app (λr d=>?_) ih;right;have b:=wG c;generalize pP c=p at b;cases b with
  |esc e h f=>
   show jC (92::e::r) d=_;rw[mX];rw[aE (by decide),aE (by decide),aO (by decide)];simp only[h,mE];rfl
  |lit j f i g=>
   show jC (c::r) d=_;rw[mX];rw[aE (by simpa using f),aE (by simpa using g),aE (by simpa using j)];have a:qF [36,123] (c::r)=false:=by
    unfold qF;simp only[List.isPrefixOf];rw[show((36:UInt8)==c)=false by simp;exactλe=>i e.symm];rfl
   rw[a,aE (by decide)];rfl
def Wm{A:Str}(h:In A):Tx ([36,123]++A++[125]):=λr d=>by
 have e:[36,123]++A++[125]++r=36::123::(A++125::r):=by simp
 rw[e,mX]
 rw[aE (by decide),aE (by decide),aE (by decide)]
 have a:qF [36,123] (36::123::(A++125::r))=true:=rfl
 rw[a,aO rfl]
 by_cases b:24<d+1
 .rw[aO b];exact .inl ⟨_,rfl,rfl⟩
 rw[aE b]
 simp only[dI,dZ]
 have g:mP (125::r) (d+1)=(1,0):=by rw[sX,aO (by decide)]
 rcases h (125::r) (d+1)with⟨y,c,f⟩|c
 .rw[c,aE (by rw[f];decide)]
  exact .inl ⟨_,rfl,f⟩
 .right
  rw[c,g,KO,aO rfl]
  have:(A++125::r).drop (1+A.length)=r:=by rw[nX,Ei,lG (by omega),dS,show A.length+1-A.length=0+1 by omega,dI,dZ]
  rw[this]
  congr 1
  simp;omega
def Ph{N:Nat}{A:Str}(h:Tx A)(r:Str):Sg N ([34]++A++[34]) [(3,A)] r:=by
 have e:[34]++A++[34]++r=34::(A++34::r):=by simp
 refine Cz (by simp) (λm=>by rw[e];exact BK _ (by decide) m) ?_;rw[e];unfold mY;simp only[FG,dI,dZ];rw[aE (by decide),aE (by decide),aE (by decide),aO (by decide)];have d:sD ((34::(A++34::r)).length+1) (A++34::r) 0=jC (A++34::r) 0:=uQ (by simp;omega);rw[d];have a:jC (34::r) 0=(1,0):=by rw[mX,aO (by decide)]
 rcases h (34::r) 0 with⟨y,b,c⟩|b
 .right;rw[b,aE (by rw[c];decide)];exact c
 .left;rw[b,a,KO,aO rfl];have:(A++34::r).take (1+A.length-1)=A:=by rw[Nat.add_sub_cancel_left];exact uA
  rw[this];simp;omega
def Br(A:Str):Prop:=∀(r:Str) (d:Int),1<=d->qY (A++r) d=A.length+qY r d
def Qu(A:Str):Prop:=∀r:Str,tB (A++r)=A.length+tB r
def Br.app{A:Str}(c:Br A)(b:Br B):Br (A++B):=λr d a=>by
 rw[cD,c _ d a,b _ d a,aB];omega
def Qu.app{A:Str}(b:Qu A)(a:Qu B):Qu (A++B):=λr=>by
 rw[cD,b,a,aB];omega
def Br.nil:Br []:=λr d _=>by simp
def Qu.nil:Qu []:=λr=>by simp
def ZN(h:c≠125/\c≠123/\c≠34):Br [c]:=λr d _=>by
 rw[fS,dS,mL,aE h.2.1,aE h.1,aE h.2.2];rfl
def Vy{A:Str}(h:∀c∈A,c≠125/\c≠123/\c≠34):Br A:=by
 induction A with
 |nil=>exact Br.nil
 |cons c A ih=>exact(ZN (h c (by simp))).app (ih λd a=>h d (aF _ a))
def Vx{A:Str}(h:Br A):Br ([123]++A++[125]):=λr d a=>by
 have e:[123]++A++[125]++r=123::(A++125::r):=by simp
 rw[e,mL,aO rfl,h _ _ (by omega),mL,aE (by decide),aO rfl,aE (by omega),show d+1-1=d by omega]
 simp;omega
def RP(A:Str)(c:UInt8)(r:Str):(A++c::r).drop (A.length+1)=r:=by rw[Ei,lG (by omega),dS,show A.length+1-A.length=0+1 by omega,dI,dZ]
def ZM{A:Str}(h:Qu A):Br ([34]++A++[34]):=λr d a=>by
 have e:[34]++A++[34]++r=34::(A++34::r):=by simp
 have q:tB (A++34::r)=A.length+1:=by rw[h,uJ,aO rfl]
 rw[e,mL,aE (by decide),aE (by decide),aO rfl,q,RP]
 simp;omega
def GC(s:Str):Qu (Syn.plainM s):=by
 induction s with
 |nil=>exact Qu.nil
 |cons c s ih=>
  rw[nP];refine Qu.app (λr=>?_) ih;have b:=wG c;generalize pP c=p at b;cases b with
  |esc e h d=>
   show tB (92::e::r)=_;rw[uJ,aE (by decide),aO rfl];rfl
  |lit g d f i=>
   show tB (c::r)=_;have a:qF [36,123] (c::r)=false:=by
    unfold qF;simp only[List.isPrefixOf];rw[show((36:UInt8)==c)=false by simp;exactλe=>f e.symm];rfl
   rw[uJ,aE d,aE g,a,aE (by decide)];rfl
def Qj{A:Str}(h:Br A)(r:Str):EO ([123]++A++[125]++r)=A.length+2:=by
 have e:[123]++A++[125]++r=123::(A++125::r):=by simp
 show qY _ 0=_;rw[e,mL,aO rfl,h _ _ (by omega),mL,aE (by decide),aO rfl,aO (by omega)];omega
def aCw{A:Str}(h:Br A):Qu ([36,123]++A++[125]):=λr=>by
 have e:[36,123]++A++[125]++r=36::([123]++A++[125]++r):=by simp
 have c:qY ([123]++A++[125]++r) 0=A.length+2:=Qj h r
 have a:qF [36,123] (36::([123]++A++[125]++r))=true:=rfl
 rw[e,uJ,aE (by decide),aE (by decide),a,aO rfl,c]
 have b:([123]++A++[125]++r).drop (A.length+2)=r:=by
  have:([123]++A++[125]).length=A.length+2:=by simp
  rw[<-this];exact qB
 rw[b];simp;omega
def Cf{A:Str}(h:Br A)(r:Str):∀s:Str,Syn.insP (Syn.plainM s++([36,123]++A++[125]++r))=some ((Syn.plainM s).length,(Syn.plainM s).length+(A.length+3))
 |[]=>by
  have e:Syn.plainM []++([36,123]++A++[125]++r)=36::123::(A++[125]++r):=by simp[Syn.plainM]
  have i:EO (123::(A++[125]++r))=A.length+2:=by have:=Qj h r;simpa using this
  rw[e,Syn.insP,aE (by decide),aO ⟨rfl,rfl⟩,i]
  show some (0,_)=some (0,0+_)
  rw[aN,nX]
 |c::s=>by
  rw[nP,cD]
  have a:=Cf h r s
  have f:=wG c
  generalize pP c=p at f
  generalize j:Syn.plainM s++([36,123]++A++[125]++r)=R at a
  have b:R≠[]:=by rw[<-j];simp
  cases f with
  |esc e g l=>
   show Syn.insP (92::e::R)=_
   rw[Syn.insP,aO rfl,a]
   show some (_,_)=some (_,_)
   simp only[aB,aA,aD]
   congr 2<;>omega
  |lit g l k m=>
   show Syn.insP (c::R)=_
   cases R with
   |nil=>exact absurd rfl b
   |cons d R=>
    rw[Syn.insP,aE g,aE (λe=>k e.1),a]
    show some (_,_)=some (_,_)
    simp only[aB,aA,aD]
    congr 2<;>omega
def Frt(s:PS):List KT:=(s.toks.drop s.i).map kt
structure Mv(s s':PS)(F:List KT):Prop where
 toks:s'.toks=s.toks
 deep:s'.deep=s.deep
 quiet:s'.quiet=s.quiet
 bl:s'.bl=s.bl
 ex:s.ex<+:s'.ex
 fr:Frt s'=F
def Mv.trans{s s1 c:PS}{F G:List KT}(b:Mv s s1 F)(a:Mv s1 c G):Mv s c G:=
 ⟨a.toks.trans b.toks,a.deep.trans b.deep,a.quiet.trans b.quiet,a.bl.trans b.bl,b.ex.trans a.ex,a.fr⟩
def OKR{α:Type}(N:Nat)(r:R α)(P:α->PS->Prop):Prop:=match r with
 |.ok x s=>P x s
 |.err c _=>Far N c
def OKR.bind{N:Nat}{r:R α}{f:α->PS->R β}{P:α->PS->Prop}{Q:β->PS->Prop}(h:OKR N r P)(b:∀x s,P x s->OKR N (f x s) Q):OKR N (r.bind f) Q:=by
 cases r with
 |ok x s=>exact b x s h
 |err c a=>exact h
def OKR.mono{N:Nat}{r:R α}{P Q:α->PS->Prop}(h:OKR N r P)(b:∀x s,P x s->Q x s):OKR N r Q:=by
 cases r with
 |ok x s=>exact b x s h
 |err c a=>exact h
def Qt(s:PS)(k:Int):Prop:=s.quiet=false\/k≠5
def Mv.qt{s s':PS}{F:List KT}{k:Int}(h:Mv s s' F)(a:Qt s k):Qt s' k:=by unfold Qt;rw[h.quiet];exact a
def Ox{s:PS}{k:Int}{w:Str}{F:List KT}(h:Frt s=(k,w)::F):∃t r,s.toks.drop s.i=t::r/\t.k=k/\t.t=w/\r.map kt=F:=by
 unfold Frt at h;cases a:s.toks.drop s.i with
 |nil=>rw[a]at h;cases h
 |cons t r=>
  rw[a]at h;simp only[cJ,gC,kt,gA]at h;exact⟨t,r,rfl,h.1.1,h.1.2,h.2⟩
def jX{s:PS}{k:Int}{w:Str}{F:List KT}(h:Frt s=(k,w)::F)(g:Qt s k):bK s=s/\(cur s).k=k/\(cur s).t=w:=by
 obtain⟨t,r,c,b,f,_⟩:=Ox h;have e:bK s=s:=by
  unfold bK;by_cases a:s.quiet=true
  .rw[aO a];have:kK (s.toks.drop s.i)=0:=by
    rw[c];simp only[kK];rw[aE (by rw[b];exact g.resolve_left (by rw[a];decide))]
   rw[this];rfl
  .rw[aE a]
 have d:pH s=t:=by
  unfold pH;have:=congrArg (λl=>l[0]?) c;simp only[iF,bL,bG]at this;rw[aM,this];rfl
 refine⟨e,?_,?_⟩
 .unfold cur;rw[e,d];exact b
 .unfold cur;rw[e,d];exact f
def gZ{s:PS}{x:KT}{F:List KT}(h:Frt s=x::F):Frt (step1 s)=F:=by
 unfold Frt at h⊢;show(s.toks.drop (s.i+1)).map kt=F;rw[<-jI,List.map_drop,h];rfl
def gJ{s:PS}{x:KT}{F:List KT}(h:Frt s=x::F):Mv s (step1 s) F:=⟨rfl,rfl,rfl,rfl,mI _,gZ h⟩
def aBQ{s:PS}{k:Int}{w:Str}{F:List KT}(h:Frt s=(k,w)::F)(a:Qt s k)(v:Str):isS s v=(decide (k=4)&&decide (w=v)):=by
 obtain⟨_,c,b⟩:=jX h a;unfold isS;rw[c,b]
def qt4(s:PS):Qt s 4:=.inr (by decide)
def oP{s:PS}{w:Str}{F:List KT}(h:Frt s=(4,w)::F):isS s w=true:=by rw[aBQ h (qt4 s)];simp
def tS{s:PS}{k:Int}{w v:Str}{F:List KT}(h:Frt s=(k,w)::F)(b:Qt s k)(c:¬(k=4/\w=v)):isS s v=false:=by
 rw[aBQ h b,CS,decide_eq_false_iff_not,decide_eq_false_iff_not];by_cases a:k=4
 .exact .inr λe=>c ⟨a,e⟩
 .exact .inl a
def oY{s:PS}{w:Str}{F:List KT}(h:Frt s=(4,w)::F):cN s w=(true,step1 s):=by
 unfold cN;rw[oP h,aO rfl,(jX h (qt4 s)).1]
def nT{s:PS}{k:Int}{w v:Str}{F:List KT}(h:Frt s=(k,w)::F)(a:Qt s k)(b:¬(k=4/\w=v)):cN s v=(false,s):=by
 unfold cN;rw[tS h a b,aE (by decide),(jX h a).1]
def wI{s:PS}{w:Str}{F:List KT}(h:Frt s=(4,w)::F):oX s w=.ok () (step1 s):=by
 unfold oX;rw[oP h,aO rfl,(jX h (qt4 s)).1]
def Kw{s:PS}{k:Int}{w:Str}{F:List KT}(h:Frt s=(k,w)::F)(a:Qt s k)(b:k≠0):kP s=step1 s:=by
 obtain⟨d,c,_⟩:=jX h a;unfold kP;rw[c,aO b,d]
def Ay{s:PS}{k:Int}{w:Str}{F:List KT}(h:Frt s=(k,w)::F)(a:Qt s k)(c:k≠0):∃t,mT s k=.ok t (step1 s)/\t.k=k/\t.t=w:=by
 obtain⟨e,b,d⟩:=jX h a;unfold mT;rw[b,aO rfl,Kw h a c];exact⟨_,rfl,b,d⟩
def aD1{s:PS}{w:Str}{F:List KT}(h:Frt s=(0,w)::F):∃t,mT s 0=.ok t s:=by
 obtain⟨b,a,c⟩:=jX h (.inr (by decide));unfold mT kP;rw[a,aO rfl,aE (λe=>e rfl),b];exact⟨_,rfl⟩
def Vb{s:PS}{k:Int}{w:Str}{F:List KT}(h:Frt s=(k,w)::F)(b:k≠5):kK (s.toks.drop s.i)=0:=by
 obtain⟨t,r,c,a,_,_⟩:=Ox h;rw[c];simp only[kK];rw[aE (by rw[a];exact b)]
def DR{s:PS}{k:Int}{w:Str}{F:List KT}(h:Frt s=(k,w)::F)(a:k≠5):hY s=s:=by
 have e:=(jX h (.inr a)).1;unfold hY;rw[e,Vb h a];rfl
def DU{s:PS}{k:Int}{w v:Str}{F:List KT}(h:Frt s=(5,v)::(k,w)::F)(g:k≠5)(f:s.quiet=false):hY s=step1 s:=by
 have e:=(jX h (.inl f)).1;obtain⟨t,r,c,b,_,j⟩:=Ox h;unfold hY;have:kK (s.toks.drop s.i)=1:=by
  have d:=Vb (gZ h) g;have a:(step1 s).toks.drop (step1 s).i=r:=by
   show s.toks.drop (s.i+1)=r;rw[<-jI,c];rfl
  rw[a]at d;rw[c];simp only[kK];rw[aO b,d]
 rw[e,this];rfl
def Hl{s:PS}{F:List KT}(h:Frt s=F):F.length<=s.toks.length:=by
 rw[<-h];unfold Frt;rw[cK,aW];omega
def nQ{N:Nat}{s:PS}{q:Bool}{f:PS->R α}{P:α->PS->Prop}(e:s.deep+n=24)(h:∀m,n=m+1->OKR N (f {s with deep:=s.deep+1,quiet:=q}) P):OKR N (within s a q f) (λx s'=>∃c,P x c/\s'={c with deep:=s.deep,quiet:=s.quiet}):=by
 unfold within;by_cases b:s.deep=24
 .rw[aO b];exact .inl rfl
 .rw[aE b];obtain⟨m,rfl⟩:∃m,n=m+1:=⟨n-1,by omega⟩;exact(h m rfl).bind λx c d=>⟨c,d,rfl⟩
def Cu{s a:PS}{q:Bool}{F:List KT}(h:Mv {s with deep:=s.deep+1,quiet:=q} a F):Mv s {a with deep:=s.deep,quiet:=s.quiet} F:=
 ⟨h.toks,rfl,rfl,h.bl,h.ex,h.fr⟩
inductive AlE (f g:List Ex):Nat->Nat->Prop
 |mk {i x:Nat} {a b:Ex} (hf:f[i]?=some a) (hg:g[x]?=some b) (hk:b.k=a.k) (ht:b.t=a.t) (hs:b.keys=a.keys) (hl:b.args.length=a.args.length) (h:∀j,j<a.args.length->AlE f g (a.args.getD j 0) (b.args.getD j 0)):AlE f g i x
def AlE.mono{f g a:List Ex}(d:g<+:a){x:Nat}(h:AlE f g i x):AlE f a i x:=by
 induction h with
 |mk l k j b c e h ih=>exact .mk l (BU d k) j b c e ih
def ALs(f g:List Ex)(us l:List Nat):Prop:=l.length=us.length/\∀j,j<us.length->AlE f g (us.getD j 0) (l.getD j 0)
def ALs.mono{f g a:List Ex}(b:g<+:a){l:List Nat}(h:ALs f g u l):ALs f a u l:=⟨h.1,λj c=>(h.2 j c).mono b⟩
def ALs.nil(f g:List Ex):ALs f g [] []:=⟨rfl,λj h=>by cases h⟩
def ALs.snoc{f g:List Ex}{us l:List Nat}{u x:Nat}(h:ALs f g us l)(b:AlE f g u x):ALs f g (us++[u]) (l++[x]):=by
 have d:=h.1;refine⟨by simp[h.1],λj c=>?_⟩;simp only[aB,aA,aD]at c;by_cases a:j<us.length
 .have:=h.2 j a;rw[aM,aM,dR a,dR (by rw[h.1];exact a),<-aM,<-aM];exact this
 .have:j=us.length:=by omega
  subst this;rw[aM,aM,dB (aQ _),dB (by omega),h.1];simpa using b
def tJ{f:List Ex}{N:Nat}{s:PS}{a b:Ex}{k:Int}{w:Str}{G:List KT}(h:Frt s=(k,w)::G)(n:f[i]?=some a)(l:b.k=a.k)(g:b.t=a.t)(e:b.keys=a.keys)(d:ALs f s.ex a.args b.args):OKR N (qS s b) (λx s'=>Mv s s' ((k,w)::G)/\AlE f s'.ex i x):=by
 have c:s.ex<+:s.ex++[b]:=lZ _ _;refine⟨⟨rfl,rfl,rfl,rfl,c,h⟩,.mk n (b:=b) ?_ l g e d.1 λj m=>(d.2 j m).mono c⟩;rw[dB (aQ _),yQ];rfl
def Eof:Nat->PS->R Nat
 |0=>dead
 |n+1=>(mM n).1
def Sof:Nat->PS->R Nat
 |0=>dead
 |n+1=>(mM n).2
def EH(n:Nat):(mM n).1=yF (Eof n) (Sof n):=by cases n<;>rfl
def RH(n:Nat):(mM n).2=tE (Eof n) (Sof n):=by cases n<;>rfl
def lev(k:Int)(w:Str)(n:Nat):Int:=if k=4 then zK n w else 0
section
variable{N:Nat}{E S:PS->R Nat}{s:PS}{k:Int}{w:Str}{G:List KT}{Q:Nat->PS->Prop}
def Wi(d:∀x s',Q x s'->Frt s'=(k,w)::G/\Qt s' k)(c:lev k w (5-m)=0)(h:OKR N (mU E S m s) Q):OKR N (mU E S (m+1) s) Q:=by
 refine OKR.bind (r:=mU E S m s) h λx a b=>?_;obtain⟨f,e⟩:=d x a b;obtain⟨j,i,g⟩:=jX f e;simp only[tR];rw[show qI (cur a) (5-m)=lev k w (5-m)by unfold qI lev;rw[i,g],c,aO rfl,j];exact b
def SN(b:∀x s',Q x s'->Frt s'=(k,w)::G/\Qt s' k){m:Nat}(h:OKR N (mU E S m s) Q):∀j,(∀n,6-(m+j)<=n->n<6-m->lev k w n=0)->m+j<=6->OKR N (mU E S (m+j) s) Q
 |0,_,_=>h
 |j+1,a,d=>by
  show OKR N (mU E S ((m+j)+1) s) Q
  exact Wi b (a (5-(m+j)) (by omega) (by omega)) (SN b h j (λn e c=>a n (by omega) c) (by omega))
def Jc(d:∀x s',Q x s'->Frt s'=(k,w)::G/\Qt s' k)(c:¬(k=4/\w=[63]))(h:OKR N (mU E S 6 s) Q):OKR N (yF E S s) Q:=by
 refine OKR.bind (r:=mU E S 6 s) h λx b a=>?_;obtain⟨f,e⟩:=d x b a;rw[nT f e c];simp only;rw[aE (by decide)];exact a
end
def Hq:List Str:=[[41],[93],[44],[125],[58]]
def Qf:∀w∈Hq,∀n,n<6->zK n w=0:=by decide
def Vj:∀w∈Hq,w≠[46]/\w≠[91]/\w≠[40]/\w≠[63]:=by decide
def HT(T:List KT):Prop:=∃k w U,T=(k,w)::U/\((k=1/\w≠tX)\/k=2\/k=3\/(k=4/\(w=[40]\/w=[91]\/w=[123])))
def HT.head{T F:List KT}(h:HT T):∃k w U,T++F=(k,w)::U/\k≠5/\k≠0/\(k=4->w=[40]\/w=[91]\/w=[123])/\(k=1->w≠tX):=by
 obtain⟨k,w,U,rfl,h⟩:=h;refine⟨k,w,U++F,rfl,?_,?_,?_,?_⟩
 .rcases h with h|h|h|h<;>omega
 .rcases h with h|h|h|h<;>omega
 .intro a;rcases h with h|h|h|h
  .omega
  .omega
  .omega
  .exact h.2
 .intro b;rcases h with h|h|h|h
  .exact h.2
  .omega
  .omega
  .omega
def Pp(N:Nat)(f:List Ex)(i:Nat)(T:List KT):Prop:=∀(n:Nat) (s:PS) (k:Int) (w:Str) (G:List KT),Frt s=T++(k,w)::G->¬(k=4/\(w=[46]\/w=[91]\/w=[40]))->Qt s k->s.deep+n=24->OKR N (Ct (Eof n) s) (λx s'=>Mv s s' ((k,w)::G)/\AlE f s'.ex i x)
section
variable{N:Nat}{f:List Ex}{i:Nat}{T:List KT}
def Pp.sign(h:Pp N f i T)(o:HT T){s:PS}{k:Int}{w:Str}{G:List KT}(c:Frt s=T++(k,w)::G)(l:¬(k=4/\(w=[46]\/w=[91]\/w=[40])))(j:Qt s k)(m:s.deep+n=24):OKR N (tE (Eof n) (Sof n) s) (λx s'=>Mv s s' ((k,w)::G)/\AlE f s'.ex i x):=by
 obtain⟨g,w0,U,e,p,_,d,_⟩:=o.head (F:=(k,w)::G);have a:=c.trans e;have b:Qt s g:=.inr p;unfold tE;simp only[(jX a b).1];rw[tS a b (λe=>by rcases d e.1 with h|h|h<;>(rw[h]at e;exact absurd e.2 (by decide))),tS a b (λe=>by rcases d e.1 with h|h|h<;>(rw[h]at e;exact absurd e.2 (by decide))),aE (by decide),aE (by decide)];exact h n s k w G c l j m
def Pp.join(h:Pp N f i T)(l:HT T){s:PS}{k:Int}{w:Str}{G:List KT}(c:Frt s=T++(k,w)::G)(d:¬(k=4/\(w=[46]\/w=[91]\/w=[40])))(b:Qt s k)(g:s.deep+n=24)(p:m<=6)(e:∀j,6-m<=j->j<6->lev k w j=0):OKR N (mU (Eof n) (Sof n) m s) (λx s'=>Mv s s' ((k,w)::G)/\AlE f s'.ex i x):=by
 have o:OKR N (mU (Eof n) (Sof n) 0 s) (λx s'=>Mv s s' ((k,w)::G)/\AlE f s'.ex i x):=h.sign l c d b g;have:=SN (k:=k) (w:=w) (G:=G) (λx s' a=>⟨a.1.fr,a.1.qt b⟩) o m (λn r q=>e n (by omega) (by omega)) (by omega);rwa[aN]at this
def Pp.expr(h:Pp N f i T)(o:HT T){s:PS}{k:Int}{w:Str}{G:List KT}(g:Frt s=T++(k,w)::G)(a:k=4->w∈Hq)(d:Qt s k)(m:s.deep+n=24):OKR N ((mM n).1 s) (λx s'=>Mv s s' ((k,w)::G)/\AlE f s'.ex i x):=by
 rw[EH];refine Jc (k:=k) (w:=w) (G:=G) (λx s' c=>⟨c.1.fr,c.1.qt d⟩) (λe=>(Vj w (a e.1)).2.2.2 e.2) ?_;refine h.join o g (λe=>by obtain⟨r,q,p,_⟩:=Vj w (a e.1);rcases e.2 with h|h|h;exact r h;exact q h;exact p h) d m (aQ _) λj _ l=>?_;unfold lev;by_cases b:k=4
 .rw[aO b];exact Qf w (a b) j l
 .rw[aE b]
end
structure Pc(N:Nat)(A:Str)(T:List KT)(ok:Str->Prop):Prop where
 utf:Utf A
 sg:∀r,ok r->Sg N A T r
 in_:In A
 br:Br A
def vA:Str->Prop:=λ_=>True
def blR(r:Str):Prop:=∃x,r=32::x
def Pc.app{N:Nat}{A:Str}{T U:List KT}{ok ok':Str->Prop}(b:Pc N A T ok)(a:Pc N B U ok')(h:∀r,ok' r->ok (B++r)):Pc N (A++B) (T++U) ok':=
 ⟨b.utf.app a.utf,λr c=>(b.sg _ (h r c)).app (a.sg r c),b.in_.app a.in_,b.br.app a.br⟩
def Pc.weak{N:Nat}{A:Str}{T:List KT}{ok ok':Str->Prop}(h:Pc N A T ok)(b:∀r,ok' r->ok r):Pc N A T ok':=⟨h.utf,λr a=>h.sg r (b r a),h.in_,h.br⟩
def pK{N:Nat}(h:c∈Gv)(a:c≠123/\c≠125):Pc N [c] [(4,[c])] vA:=by
 have e:∀c∈Gv,c.toNat<128/\c≠10/\c≠34:=by decide
 obtain⟨i,g,b⟩:=e c h;exact⟨mD λd f=>by rw[bO.1 f];exact i,λr _=>De h r,UQ ⟨a.2,g,a.1,b⟩,ZN ⟨a.2,a.1,b⟩⟩
def uS{N:Nat}:Pc N [32] [] vA:=⟨mD (by decide),λr _=>tG N r,UQ (by decide),ZN (by decide)⟩
def aBJ{N:Nat}{w:Str}(h:w∈[61]::sQ):Pc N w [(4,w)] blR:=by
 have f:∀w∈[61]::sQ,w≠[]/\∀c∈w,c.toNat<128/\c≠125/\c≠10/\c≠123/\c≠34:=by decide
 obtain⟨i,b⟩:=f w h;exact⟨mD λd g=>(b d g).1,λr ⟨x,e⟩=>by rw[e];exact aBG h x,US (λc a=>(b c a).2) i,Vy λc a=>⟨(b c a).2.1,(b c a).2.2.2.1,(b c a).2.2.2.2⟩⟩
def Dy(h:gY c=true):c.toNat<128/\c≠125/\c≠10/\c≠123/\c≠34:=by
 refine⟨Dz h,?_,?_,?_,?_⟩<;>(rintro rfl;exact absurd h (by decide))
def LK{N:Nat}{t:Str}{k:Int}(b:t≠[])(h:∀d∈t,gY d=true)(e:∀r,NF r->Sg N t [(k,t)] r):Pc N t [(k,t)] NF:=
 ⟨mD λd f=>(Dy (h d f)).1,e,US (λc a=>(Dy (h c a)).2) b,Vy λc a=>by have:=Dy (h c a);exact⟨this.2.1,this.2.2.2.1,this.2.2.2.2⟩⟩
def xY{N:Nat}{t:Str}(h:sZ t):Pc N t [(1,t)] NF:=LK (by obtain⟨c,r,rfl,_⟩:=h.hd;simp) h.al λ_ a=>JD h a
def aDx{N:Nat}{t:Str}(h:VX t):Pc N t [(2,t)] NF:=LK (by obtain⟨c,r,rfl⟩:=h.hd;simp) (λd b=>by have:=h.al d b;unfold gY;rw[this];simp) λ_ a=>Wy h a
def JX{N:Nat}{A:Str}(a:Tx A)(c:Qu A)(b:Utf A):Pc N ([34]++A++[34]) [(3,A)] vA:=
 ⟨((mD (s:=[34]) (by decide)).app b).app (mD (by decide)),λr _=>Ph a r,Zq a,ZM c⟩
def TW{N:Nat}{A:Str}{T:List KT}{ok:Str->Prop}(h:A=[]/\T=[]\/Pc N A T ok)(b:∀r,ok (125::r)):Pc N ([123]++A++[125]) ([(4,[123])]++T++[(4,[125])]) vA:=by
 have a:Utf A:=by rcases h with⟨rfl,_⟩|h;exact .nil;exact h.utf
 have c:A=[]\/In A:=by rcases h with⟨rfl,_⟩|h;exact .inl rfl;exact .inr h.in_
 have d:Br A:=by rcases h with⟨rfl,_⟩|h;exact Br.nil;exact h.br
 refine⟨((mD (s:=[123]) (by decide)).app a).app (mD (by decide)),λr _=>?_,UR c,Vx d⟩;refine Sg.app (Sg.app (De (by decide) _) ?_) (De (by decide) _);rcases h with⟨rfl,rfl⟩|h
 .exact Sg.nil _ _
 .exact h.sg _ (b r)
def jn:List Str->Str
 |[]=>[]
 |[a]=>a
 |a::b::l=>a++[44,32]++jn (b::l)
def IL:∀l:List Str,joinL l [44,32]=jn l
 |[]=>rfl
 |[a]=>by simp[joinL,jn,List.intercalate]
 |a::b::l=>by
  have c:=IL (b::l)
  unfold joinL List.intercalate at c⊢
  rw[List.intersperse_cons₂,iG,iG,c,jn,cD]
def jt:List (List KT)->List KT
 |[]=>[]
 |[a]=>a
 |a::b::l=>a++[(4,[44])]++jt (b::l)
def Ax:∀(a:List KT) (l:List (List KT)),jt (a::l)=a++l.flatMap λb=>(4,[44])::b
 |a,[]=>by simp[jt]
 |a,b::l=>by rw[jt,Ax b l];simp
def TV{N:Nat}:∀l:List (Str×List KT),l≠[]->(∀p∈l,Pc N p.1 p.2 Fol)->Pc N (jn (l.map (·.1))) (jt (l.map (·.2))) Fol
 |[],h,_=>absurd rfl h
 |[p],_,h=>h p (by simp)
 |p::q::l,_,h=>by
  have a:=TV (q::l) (by simp) λx b=>h x (aF _ b)
  have c:=h p (by simp)
  show Pc N (p.1++[44,32]++jn ((q::l).map (·.1))) (p.2++[(4,[44])]++jt ((q::l).map (·.2))) Fol
  refine Pc.app (Pc.app c (U:=[(4,[44])]) (ok':=vA) ?_ λr _=>Ho (by decide) _) a λ_ _=>trivial
  exact Pc.app (A:=[44]) (B:=[32]) (T:=[(4,[44])]) (U:=[]) (pK (by decide) (by decide)) uS λ_ _=>trivial
def Ew{N:Nat}{A:Str}{T:List KT}{ok:Str->Prop}(h:Pc N A T ok)(a:∀r,ok (41::r)):Pc N ([40]++A++[41]) ([(4,[40])]++T++[(4,[41])]) vA:=
 Pc.app (Pc.app (pK (by decide) (by decide)) h λ_ _=>trivial) (pK (by decide) (by decide)) λr _=>a r
def NV{N:Nat}{A:Str}{T:List KT}{ok:Str->Prop}(h:Pc N A T ok)(a:∀r,ok (93::r)):Pc N ([91]++A++[93]) ([(4,[91])]++T++[(4,[93])]) vA:=
 Pc.app (Pc.app (pK (by decide) (by decide)) h λ_ _=>trivial) (pK (by decide) (by decide)) λr _=>a r
def IY(r:Str):Fol (41::r):=Ho (by decide) r
def aBR(r:Str):Fol (93::r):=Ho (by decide) r
def aFD(r:Str):Fol (32::r):=Ho (by decide) r
def aD2(r:Str):Fol (125::r):=Ho (by decide) r
def JY{N:Nat}{A w:Str}{T U:List KT}{ok:Str->Prop}(e:Pc N A T Fol)(a:Pc N w [(4,w)] blR)(d:Pc N B U ok):Pc N (A++[32]++w++[32]++B) (T++[(4,w)]++U) ok:=by
 have b:Pc N (w++[32]) ([(4,w)]++[]) vA:=a.app uS λr _=>⟨r,rfl⟩;have c:Pc N (A++[32]) (T++[]) vA:=e.app uS λr _=>aFD _;have:=(c.app b λ_ _=>trivial).app d λ_ _=>trivial;simpa using this
section
variable{N n:Nat}{f:List Ex}{s:PS}{E:PS->R Nat}{k:Int}{w t:Str}{F G:List KT}
def VI(h:Frt s=(2,t)::F):nC E s=qS (step1 s) ⟨4,t,[],[],(cur s).a⟩:=by
 obtain⟨d,c,b⟩:=jX h (.inr (by decide));unfold nC;simp only;rw[d,c,b,aO rfl]
def MX(h:Frt s=(3,t)::F):nC E s=wS E (step1 s) (cur s):=by
 obtain⟨b,a,c⟩:=jX h (.inr (by decide));unfold nC;simp only;rw[b,a,aE (by decide),aO rfl]
def Sk(h:Frt s=(1,t)::(k,w)::F)(f:t≠tX)(e:¬(k=4/\w=[40]))(d:Qt s k):nC E s=qS (step1 s) ⟨pS t,if pS t=9 then t else [],[],[],(cur s).a⟩:=by
 obtain⟨j,i,g⟩:=jX h (.inr (by decide));have c:=gZ h;have b:Qt (step1 s) k:=d;unfold nC;simp only;rw[j,i,g,aE (by decide),aE (by decide),aO ⟨rfl,f⟩,tS c b e,aE (by decide),(jX c b).1]
def Sl(h:Frt s=(1,t)::(4,[40])::F)(d:t≠tX):nC E s=(within (step1 s) (cur (step1 s)).a true λq=>Cx E [41] (step1 q)).bind λus c=>qS c ⟨12,t,us,[],(cur s).a⟩:=by
 obtain⟨g,f,e⟩:=jX h (.inr (by decide));have b:=gZ h;unfold nC;simp only;rw[g,f,e,aE (by decide),aE (by decide),aO ⟨rfl,d⟩,oP b,aO rfl,(jX b (qt4 _)).1]
def Sj(h:Frt s=(4,[40])::F):nC E s=within s (cur s).a true λq=>(E (step1 q)).bind λx c=>(oX c [41]).bind λ_ b=>.ok x b:=by
 obtain⟨f,d,g⟩:=jX h (qt4 s);unfold nC;simp only;rw[f,d,aE (by decide),aE (by decide),aE (λe=>absurd e.1 (by decide)),oP h,aO rfl]
def MZ(h:Frt s=(4,[91])::F):nC E s=(within s (cur s).a true λq=>xE E q (cur s).a).bind λe b=>qS b e:=by
 obtain⟨d,c,f⟩:=jX h (qt4 s);unfold nC;simp only;rw[d,c,aE (by decide),aE (by decide),aE (λe=>absurd e.1 (by decide)),tS h (qt4 s) (by decide),aE (by decide),oP h,aO rfl]
def OJ(h:Frt s=(4,[123])::F):nC E s=(within s (cur s).a false λq=>GK E q (cur s).a).bind λe b=>qS b e:=by
 obtain⟨d,c,f⟩:=jX h (qt4 s);unfold nC;simp only;rw[d,c,aE (by decide),aE (by decide),aE (λe=>absurd e.1 (by decide)),tS h (qt4 s) (by decide),aE (by decide),tS h (qt4 s) (by decide),aE (by decide),oP h,aO rfl]
def Dq{x:Nat}(h:Frt s=(k,w)::G)(b:¬(k=4/\(w=[46]\/w=[91]\/w=[40])))(a:Qt s k):nN E (j+1) s x=.ok x s:=by
 have d:¬(k=4/\w=[46]):=λe=>b ⟨e.1,.inl e.2⟩;have c:¬(k=4/\w=[91]):=λe=>b ⟨e.1,.inr (.inl e.2)⟩;simp only[nN];rw[(jX h a).1,nT h a d,tS h a c];simp only;rw[aE (by decide),aE (by decide)]
end
def Stp(k:Int)(w:Str):Prop:=¬(k=4/\(w=[46]\/w=[91]\/w=[40]))
def tK{N:Nat}{f:List Ex}{T:List KT}(h:∀(n:Nat) (s:PS) (k:Int) (w:Str) (G:List KT),Frt s=T++(k,w)::G->Stp k w->Qt s k->s.deep+n=24->OKR N (nC (Eof n) s) (λx s'=>Mv s s' ((k,w)::G)/\AlE f s'.ex i x)):Pp N f i T:=λn s k w G g c b j=>by
 refine OKR.bind (r:=nC (Eof n) s) (h n s k w G g c b j) λx e a=>?_
 have d:=a.1
 show OKR N (nN (Eof n) (s.toks.length+1) e x) _
 rw[Dq d.fr c (d.qt b)]
 exact a
def BZ{N:Nat}{s:PS}{X F:List KT}{Q:Nat->List Ex->Prop}(h:Frt s=(4,[40])::(X++(4,[41])::F))(g:s.deep+n=24)(i:∀(m:Nat) (s1:PS),Frt s1=X++(4,[41])::F->s1.deep+m=24->OKR N ((mM m).1 s1) (λx b=>Mv s1 b ((4,[41])::F)/\Q x b.ex)):OKR N (nC (Eof n) s) (λx s'=>Mv s s' F/\Q x s'.ex):=by
 rw[Sj h];refine(nQ g (P:=λx b=>Mv {s with deep:=s.deep+1,quiet:=true} b F/\Q x b.ex) λm d=>?_).mono λx s' e=>?_
 .subst d;have j:Frt (step1 {s with deep:=s.deep+1,quiet:=true})=X++(4,[41])::F:=gZ (s:={s with deep:=s.deep+1,quiet:=true}) h;have m0:Mv {s with deep:=s.deep+1,quiet:=true} (step1 {s with deep:=s.deep+1,quiet:=true}) (X++(4,[41])::F):=gJ (s:={s with deep:=s.deep+1,quiet:=true}) h;refine(i m _ j (by show s.deep+1+m=24;omega)).bind λx k ⟨a,c⟩=>?_;rw[wI a.fr];exact⟨(m0.trans a).trans (gJ a.fr),c⟩
 .obtain⟨b,⟨d,f⟩,rfl⟩:=e;exact⟨Cu d,f⟩
section
variable{N:Nat}{f:List Ex}
def aCE{t:Str}(e:f[i]?=some ⟨4,t,[],[],a⟩):Pp N f i [(2,t)]:=tK λn s k w G c h g j=>by
 have c:Frt s=(2,t)::(k,w)::G:=c
 rw[VI c]
 exact OKR.mono (tJ (b:=⟨_,_,[],[],(cur s).a⟩) (gZ c) e rfl rfl rfl (ALs.nil _ _)) λx s' d=>⟨(gJ c).trans d.1,d.2⟩
def Pt{t u:Str}(m:f[i]?=some ⟨z,u,[],[],a⟩)(l:pS t=z)(g:(if pS t=9 then t else [])=u)(o:t≠tX):Pp N f i [(1,t)]:=tK λn s k w G c j h p=>by
 have c:Frt s=(1,t)::(k,w)::G:=c
 rw[Sk c o (λe=>j ⟨e.1,.inr (.inr e.2)⟩) h]
 exact OKR.mono (tJ (b:=⟨_,_,[],[],(cur s).a⟩) (gZ c) m l g rfl (ALs.nil _ _)) λx s' d=>⟨(gJ c).trans d.1,d.2⟩
def WR{t:Str}(e:f[i]?=some ⟨5,t,[],[],a⟩):Pp N f i [(3,Syn.plainM t)]:=tK λn s k w G c j h l=>by
 have c:Frt s=(3,Syn.plainM t)::(k,w)::G:=c
 have g:=(jX c (.inr (show(3:Int)≠5 by decide))).2.2
 rw[MX c]
 unfold wS
 rw[g,Ce,xA,aE (by decide)]
 exact OKR.mono (tJ (b:=⟨_,_,[],[],(cur s).a⟩) (gZ c) e rfl rfl rfl (ALs.nil _ _)) λx s' d=>⟨(gJ c).trans d.1,d.2⟩
structure AP(N:Nat)(f:List Ex)(u:Nat)(T:List KT):Prop where
 pp:Pp N f u T
 ht:HT T
def AP.take_no{u:Nat}{T F:List KT}(h:AP N f u T){s:PS}{w:Str}(g:Frt s=T++F)(a:w∈Hq\/w=[42]):cN s w=(false,s):=by
 obtain⟨k,w0,U,e,i,_,j,_⟩:=h.ht.head (F:=F);refine nT (g.trans e) (.inr i) λe=>?_;have b:∀w,(w∈Hq\/w=[42])->w≠[40]/\w≠[91]/\w≠[123]:=by
  rintro w (a|rfl)
  .exact(show∀w∈Hq,w≠[40]/\w≠[91]/\w≠[123]by decide) w a
  .decide
 obtain⟨d,c,n3⟩:=b w a;rcases j e.1 with h|h|h<;>rw[h]at e
 .exact d e.2.symm
 .exact c e.2.symm
 .exact n3 e.2.symm
theorem Qn{w:Str}{m:Nat}{F:List KT}{τ:Nat->List KT}(g:w=[41]\/w=[93]):∀(us:List Nat),(∀u∈us,AP N f u (τ u))->∀(j:Nat) (done out:List Nat) (s:PS),us.length<j->out≠[]->Frt s=(us.flatMap λu=>(4,[44])::τ u)++(4,w)::F->s.deep+m=24->ALs f s.ex done out->
  OKR N (qX (mM m).1 w j s out) (λl s'=>Mv s s' F/\ALs f s'.ex (done++us) l)
 |[],_,j,done,out,s,B,A,a,hd,y=>by
  obtain⟨j,rfl⟩:∃i,j=i+1:=⟨j-1,by omega⟩
  have a:Frt s=(4,w)::F:=a
  simp only[qX]
  rw[oY a]
  simp only
  rw[aO trivial,dL]
  exact⟨gJ a,y⟩
 |u::us,C,j,done,out,s,B,A,a,hd,y=>by
  obtain⟨j,rfl⟩:∃i,j=i+1:=⟨j-1,by omega⟩
  have q:=C u (by simp)
  have a:Frt s=(4,[44])::(τ u++((us.flatMap λu=>(4,[44])::τ u)++(4,w)::F)):=by rw[a];simp
  have r:¬((4:Int)=4/\([44]:Str)=w):=λe=>by rcases g with h|h<;>(rw[h]at e;exact absurd e.2 (by decide))
  have d:=gZ a
  simp only[qX]
  rw[nT a (qt4 s) r,aE (λe=>by cases e),aE A]
  simp only
  rw[wI a]
  show OKR N (if(cN (step1 s) w).1=true then _ else _) _
  rw[q.take_no d (.inl (by rcases g with h|h<;>(rw[h];decide))),aE (λe=>by cases e)]
  simp only
  obtain⟨o,n,D,en,t,p⟩:∃o n D,(us.flatMap λu=>((4:Int),([44]:Str))::τ u)++(4,w)::F=(o,n)::D/\o=4/\n∈Hq:=by
   cases us with
   |nil=>exact⟨4,w,F,rfl,rfl,by rcases g with h|h<;>(rw[h];decide)⟩
   |cons v us=>exact⟨4,[44],_,rfl,rfl,by decide⟩
  have b:=d;rw[en]at b;refine(q.pp.expr q.ht b (λ_=>p) (.inr (by rw[t];decide)) (show(step1 s).deep+m=24 from hd)).bind λx E ⟨k,H⟩=>?_;have c:=k.fr;rw[<-en]at c;have:=Qn (m:=m) (F:=F) (τ:=τ) g us (λv G=>C v (aF _ G)) j (done++[u]) (out++[x]) E (by simp only[aA]at B;omega) (by simp) c (by rw[k.deep];exact hd) ((y.mono k.ex).snoc H);refine this.mono λl s' z=>⟨((gJ a).trans k).trans z.1,?_⟩;have:=z.2;rw[cD]at this;exact this
def Jg(τ:Nat->List KT):∀us:List Nat,us.length<=(us.flatMap λu=>((4:Int),([44]:Str))::τ u).length
 |[]=>cZ _
 |v::us=>by have:=Jg τ us;simp only[dC,aB,aA]at this⊢;omega
theorem HH{w:Str}{F:List KT}{τ:Nat->List KT}(k:w=[41]\/w=[93]){us:List Nat}(y:∀u∈us,AP N f u (τ u)){s:PS}(a:Frt s=jt (us.map τ)++(4,w)::F)(t:s.deep+m=24):OKR N (Cx (mM m).1 w s) (λl s'=>Mv s s' F/\ALs f s'.ex us l):=by
 unfold Cx;cases us with
 |nil=>
  have a:Frt s=(4,w)::F:=a;simp only[qX];rw[oY a];simp only;rw[aO trivial];exact⟨gJ a,ALs.nil _ _⟩
 |cons u us=>
  have n:=y u (by simp);have a:Frt s=τ u++((us.flatMap λu=>(4,[44])::τ u)++(4,w)::F):=by
   rw[a,cJ,Ax,cD,yV]
  have d:us.length<s.toks.length:=by
   have:=Hl a;simp only[aB,aA]at this;have z:=Jg τ us;omega
  simp only[qX];rw[n.take_no a (.inl (by rcases k with h|h<;>(rw[h];decide))),aE (λe=>by cases e)];simp only[mE];obtain⟨i,g,A,en,o,j⟩:∃i g A,(us.flatMap λu=>((4:Int),([44]:Str))::τ u)++(4,w)::F=(i,g)::A/\i=4/\g∈Hq:=by
   cases us with
   |nil=>exact⟨4,w,F,rfl,rfl,by rcases k with h|h<;>(rw[h];decide)⟩
   |cons v us=>exact⟨4,[44],_,rfl,rfl,by decide⟩
  have c:=a;rw[en]at c;refine(n.pp.expr n.ht c (λ_=>j) (.inr (by rw[o];decide)) t).bind λx q ⟨p,z⟩=>?_;have b:=p.fr;rw[<-en]at b;exact(Qn (m:=m) (F:=F) (τ:=τ) k us (λv B=>y v (aF _ B)) s.toks.length [u] ([]++[x]) q d (by simp) b (by rw[p.deep];exact t) ((ALs.nil f q.ex).snoc z)).mono λl s' r=>⟨p.trans r.1,r.2⟩
def WW{t:Str}{us:List Nat}{τ:Nat->List KT}(q:f[i]?=some ⟨12,t,us,[],a⟩)(r:t≠tX)(y:∀u∈us,AP N f u (τ u)):Pp N f i ((1,t)::(4,[40])::(jt (us.map τ)++[(4,[41])])):=tK λn s k w G d A z v=>by
 have d:Frt s=(1,t)::(4,[40])::(jt (us.map τ)++(4,[41])::(k,w)::G):=by rw[d];simp
 have h:=gZ d
 rw[Sl d r]
 refine(nQ (s:=step1 s) v (P:=λl g=>Mv {step1 s with deep:=s.deep+1,quiet:=true} g ((k,w)::G)/\ALs f g.ex us l) λm j=>?_).bind λl s' c=>?_
 .subst j
  have o:Frt ({step1 s with deep:=s.deep+1,quiet:=true}:PS)=(4,[40])::(jt (us.map τ)++(4,[41])::(k,w)::G):=h
  refine(HH (.inl rfl) y (gZ o) (by show s.deep+1+m=24;omega)).mono λl g c=>⟨(gJ o).trans c.1,c.2⟩
 .obtain⟨g,⟨j,p⟩,rfl⟩:=c
  have e:=Cu (s:=step1 s) j
  exact OKR.mono (tJ (a:=⟨12,t,us,[],a⟩) (b:=⟨12,t,l,[],(cur s).a⟩) e.fr q rfl rfl rfl p) λx s' c=>⟨((gJ d).trans e).trans c.1,c.2⟩
theorem WU{us:List Nat}{τ:Nat->List KT}(B:f[i]?=some ⟨7,[],us,[],a⟩)(y:∀u∈us,AP N f u (τ u)):Pp N f i ((4,[91])::(jt (us.map τ)++[(4,[93])])):=tK λn s k w G j K J C=>by
 have j:Frt s=(4,[91])::(jt (us.map τ)++(4,[93])::(k,w)::G):=by rw[j];simp
 rw[MZ j]
 refine(nQ C (P:=λe h=>Mv {s with deep:=s.deep+1,quiet:=true} h ((k,w)::G)/\e.k=7/\e.t=[]/\e.keys=[]/\ALs f h.ex us e.args) λm p=>?_).bind λe s' c=>?_
 .subst p
  have z:Frt ({s with deep:=s.deep+1,quiet:=true}:PS)=(4,[91])::(jt (us.map τ)++(4,[93])::(k,w)::G):=j
  have o:=gZ z
  obtain⟨b,w0,U,I,r,q⟩:∃b w0 U,jt (us.map τ)++(4,[93])::(k,w)::G=(b,w0)::U/\b≠5/\(b≠1\/w0≠tX):=by
   cases us with
   |nil=>exact⟨4,[93],_,rfl,by decide,.inl (by decide)⟩
   |cons u us=>
    obtain⟨b,w0,U,e,r,_,_,o⟩:=(y u (by simp)).ht.head (F:=(us.flatMap λu=>((4:Int),([44]:Str))::τ u)++(4,[93])::(k,w)::G);refine⟨b,w0,U,?_,r,?_⟩
    .rw[<-e,cJ,Ax,cD,yV]
    .by_cases v:b=1
     .exact .inr (o v)
     .exact .inl v
  have g:=o;rw[I]at g;obtain⟨g1,g2,g3⟩:=jX g (.inr r);unfold xE;simp only;rw[aO (by rw[g2,g3];exact q),g1];refine(HH (.inr rfl) y o (by show s.deep+1+m=24;omega)).bind λl h c=>?_;exact⟨(gJ z).trans c.1,rfl,rfl,rfl,c.2⟩
 .obtain⟨h,⟨p,H,E,D,A⟩,rfl⟩:=c;have d:=Cu p;exact OKR.mono (tJ d.fr B H E D A) λx s' c=>⟨d.trans c.1,c.2⟩
def al1{g:List Ex}{u x:Nat}(h:AlE f g u x):ALs f g [u] [x]:=(ALs.nil f g).snoc h
def al2{g:List Ex}{u v x y:Nat}(h:AlE f g u x)(a:AlE f g v y):ALs f g [u,v] [x,y]:=(al1 h).snoc a
def al3{g:List Ex}{u v z x y:Nat}(h:AlE f g u x)(b:AlE f g v y)(a:AlE f g z i):ALs f g [u,v,z] [x,y,i]:=(al2 h b).snoc a
def AP.at_{u:Nat}{T:List KT}(h:AP N f u T){s1:PS}{w:Str}{F:List KT}(b:w∈Hq)(c:Frt s1=T++(4,w)::F)(d:s1.deep+m=24):OKR N ((mM m).1 s1) (λx a=>Mv s1 a ((4,w)::F)/\AlE f a.ex u x):=h.pp.expr h.ht c (λ_=>b) (qt4 _) d
def Nr{s:PS}{x:KT}{F:List KT}(h:Frt s=x::F):∃j,s.toks.length=j+1:=⟨s.toks.length-1,by have:=Hl h;simp only[aA]at this;omega⟩
def WX{u:Nat}{t:Str}{T:List KT}(B:f[i]?=some ⟨10,t,[u],[],a⟩)(q:AP N f u T):Pp N f i ((4,[40])::(T++[(4,[41]),(4,[46]),(1,t)])):=λn s k w G e z v C=>by
 have e:Frt s=(4,[40])::(T++(4,[41])::(4,[46])::(1,t)::(k,w)::G):=by rw[e];simp
 obtain⟨j,A⟩:=Nr e
 refine OKR.bind (r:=nC (Eof n) s) (BZ (Q:=λx ex=>AlE f ex u x) e C λm d c l=>q.at_ (by decide) c l) λx d ⟨c,l⟩=>?_
 show OKR N (nN (Eof n) (s.toks.length+1) d x) _
 rw[A,nN]
 rw[(jX c.fr (qt4 _)).1,oY c.fr]
 simp only[mE]
 have h:=gZ c.fr
 obtain⟨o,H,I,F⟩:=Ay h (.inr (by decide)) (by decide)
 rw[H]
 have E:=gZ h
 show OKR N ((qS (step1 (step1 d)) ⟨10,o.t,[x],[],(cur d).a⟩).bind λy p=>nN (Eof n) (j+1) p y) _
 refine OKR.bind (tJ (a:=⟨10,t,[u],[],a⟩) (b:=⟨10,o.t,[x],[],(cur d).a⟩) E B rfl F rfl (al1 l)) λy p ⟨g,D⟩=>?_
 rw[Dq g.fr z (g.qt (show Qt d k from c.qt v))]
 exact⟨(((c.trans (gJ c.fr)).trans (gJ h))).trans g,D⟩
theorem TF{u:Nat}{t:Str}{T:List KT}(K:f[i]?=some ⟨30,t,[u],[],a⟩)(F:AP N f u T):Pp N f i ((4,[40])::(T++[(4,[41]),(4,[91]),(4,[42]),(4,[93]),(4,[46]),(1,t)])):=λn s k w G h I H C=>by
 have h:Frt s=(4,[40])::(T++(4,[41])::(4,[91])::(4,[42])::(4,[93])::(4,[46])::(1,t)::(k,w)::G):=by rw[h];simp
 obtain⟨j,J⟩:=Nr h
 refine OKR.bind (r:=nC (Eof n) s) (BZ (Q:=λx ex=>AlE f ex u x) h C λm d e q=>F.at_ (by decide) e q) λx d ⟨e,q⟩=>?_
 show OKR N (nN (Eof n) (s.toks.length+1) d x) _
 rw[J,nN]
 rw[(jX e.fr (qt4 _)).1,nT e.fr (qt4 _) (by decide),oP e.fr]
 simp only[mE]
 rw[aE (by decide)]
 refine(nQ (s:=d) (by rw[e.deep];exact C) (P:=λo A=>o=none/\Mv {d with deep:=d.deep+1,quiet:=true} A ((4,[46])::(1,t)::(k,w)::G)) λm B=>?_).bind λo s' E=>?_
 .have D:Frt ({d with deep:=d.deep+1,quiet:=true}:PS)=(4,[91])::(4,[42])::(4,[93])::(4,[46])::(1,t)::(k,w)::G:=e.fr
  have g:=gZ D
  rw[oY g]
  simp only[mE]
  have l:=gZ g
  rw[wI l]
  exact⟨rfl,((gJ D).trans (gJ g)).trans (gJ l)⟩
 .obtain⟨A,⟨rfl,B⟩,rfl⟩:=E
  have c:=Cu B
  show OKR N ((oX _ [46]).bind _) _
  rw[wI c.fr]
  have g:=gZ c.fr
  obtain⟨v,O,R,M⟩:=Ay g (.inr (by decide)) (by decide)
  show OKR N ((mT _ 1).bind _) _
  rw[O]
  have l:=gZ g
  show OKR N ((qS _ ⟨30,v.t,[x],[],(cur d).a⟩).bind λy z=>nN (Eof n) (j+1) z y) _
  refine(tJ (a:=⟨30,t,[u],[],a⟩) (b:=⟨30,v.t,[x],[],(cur d).a⟩) l K rfl M rfl (al1 (q.mono c.ex))).bind λy z ⟨p,L⟩=>?_
  rw[Dq p.fr I (p.qt (show Qt d k from e.qt H))]
  exact⟨(((e.trans c).trans (gJ c.fr)).trans (gJ g)).trans p,L⟩
theorem TH{u v:Nat}{T U:List KT}(M:f[i]?=some ⟨11,[],[u,v],[],a⟩)(I:AP N f u T)(B:AP N f v U):Pp N f i ((4,[40])::(T++(4,[41])::(4,[91])::(U++[(4,[93])]))):=λn s k w G l K J C=>by
 have l:Frt s=(4,[40])::(T++(4,[41])::(4,[91])::(U++(4,[93])::(k,w)::G)):=by rw[l];simp
 obtain⟨j,L⟩:=Nr l
 refine OKR.bind (r:=nC (Eof n) s) (BZ (Q:=λx ex=>AlE f ex u x) l C λm c d t=>I.at_ (by decide) d t) λx c ⟨d,t⟩=>?_
 show OKR N (nN (Eof n) (s.toks.length+1) c x) _
 rw[L,nN]
 rw[(jX d.fr (qt4 _)).1,nT d.fr (qt4 _) (by decide),oP d.fr]
 simp only[mE]
 rw[aE (by decide)]
 refine(nQ (s:=c) (by rw[d.deep];exact C) (P:=λo h=>(∃y,o=some y/\AlE f h.ex v y)/\Mv {c with deep:=c.deep+1,quiet:=true} h ((k,w)::G)) λm p=>?_).bind λo s' H=>?_
 .have E:Frt ({c with deep:=c.deep+1,quiet:=true}:PS)=(4,[91])::(U++(4,[93])::(k,w)::G):=d.fr
  have D:=gZ E
  rw[B.take_no D (.inr rfl)]
  simp only
  rw[aE (by decide)]
  subst p
  refine(B.at_ (m:=m) (by decide) D (by show c.deep+1+m=24;rw[d.deep];omega)).bind λy h ⟨q,g⟩=>?_
  rw[wI q.fr]
  exact⟨⟨y,rfl,g⟩,((gJ E).trans q).trans (gJ q.fr)⟩
 .obtain⟨h,⟨⟨y,rfl,F⟩,p⟩,rfl⟩:=H
  have e:=Cu p
  show OKR N ((qS _ ⟨11,[],[x,y],[],(cur c).a⟩).bind λy A=>nN (Eof n) (j+1) A y) _
  refine(tJ (a:=⟨11,[],[u,v],[],a⟩) (b:=⟨11,[],[x,y],[],(cur c).a⟩) e.fr M rfl rfl rfl (al2 (t.mono e.ex) F)).bind λz A ⟨g,O⟩=>?_
  rw[Dq g.fr K (g.qt (show Qt c k from d.qt J))]
  exact⟨(d.trans e).trans g,O⟩
def Kl{w:Str}(a:w∈Hq):∀n,n<6->lev 4 w n=0:=λn b=>by unfold lev;rw[aO rfl];exact Qf w a n b
def SO{l:Nat}{s:PS}{F:List KT}{Q:Nat->List Ex->Prop}(b:l<=6)(h:OKR N (mU (Eof m) (Sof m) l s) (λx s'=>Mv s s' ((4,[41])::F)/\Q x s'.ex)):OKR N ((mM m).1 s) (λx s'=>Mv s s' ((4,[41])::F)/\Q x s'.ex):=by
 rw[EH];refine Jc (k:=4) (w:=[41]) (G:=F) (λx s' a=>⟨a.1.fr,qt4 _⟩) (by decide) ?_;have:=SN (k:=4) (w:=[41]) (G:=F) (λx s' a=>⟨a.1.fr,qt4 _⟩) h (6-l) (λn d c=>Kl (by decide) n (by omega)) (by omega);rwa[show l+(6-l)=6 by omega]at this
theorem aFr{u:Nat}{T:List KT}(A:z=13/\y=[45]\/z=14/\y=[33])(B:f[i]?=some ⟨z,[],[u],[],a⟩)(t:AP N f u T):Pp N f i ((4,[40])::(4,y)::(T++[(4,[41])])):=tK λn s k w G o H F C=>by
 have o:Frt s=(4,[40])::((4,y)::T++(4,[41])::(k,w)::G):=by rw[o];simp
 refine BZ (Q:=λx ex=>AlE f ex i x) o C λm c e E=>?_
 refine SO (Q:=λx ex=>AlE f ex i x) (l:=0) (by omega) ?_
 show OKR N (tE (Eof m) (Sof m) c) _
 have e:Frt c=(4,y)::(T++(4,[41])::(k,w)::G):=e
 have body:∀j:Int,j=z->OKR N ((within c (cur c).a c.quiet λq=>Sof m (step1 q)).bind λx g=>qS g ⟨j,[],[x],[],(cur c).a⟩) (λx s'=>Mv c s' ((4,[41])::(k,w)::G)/\AlE f s'.ex i x):=λj r=>by
  refine(nQ E (P:=λx g=>Mv {c with deep:=c.deep+1,quiet:=c.quiet} g ((4,[41])::(k,w)::G)/\AlE f g.ex u x) λm' p=>?_).bind λx s' d=>?_
  .subst p
   have v:Frt ({c with deep:=c.deep+1,quiet:=c.quiet}:PS)=(4,y)::(T++(4,[41])::(k,w)::G):=e
   have D:=gZ v
   show OKR N ((mM m').2 _) _
   rw[RH]
   refine(t.pp.sign t.ht D (by decide) (qt4 _) (by show c.deep+1+m'=24;omega)).mono λx g d=>⟨(gJ v).trans d.1,d.2⟩
  .obtain⟨g,⟨p,d⟩,rfl⟩:=d
   have h:=Cu p
   exact OKR.mono (tJ (a:=⟨z,[],[u],[],a⟩) (b:=⟨j,[],[x],[],(cur c).a⟩) h.fr B r rfl rfl (al1 d)) λx s' d=>⟨h.trans d.1,d.2⟩
 unfold tE
 simp only
 rw[(jX e (qt4 _)).1]
 rcases A with⟨rfl,rfl⟩|⟨rfl,rfl⟩
 .rw[tS e (qt4 _) (by decide),aE (by decide),oP e,aO rfl]
  exact body 13 rfl
 .rw[oP e,aO rfl]
  exact body 14 rfl
def Gx(k:Int):Str:=sQ.getD (k-15).toNat []
def Tk:∀j,j<13->∃l,l<6/\zK l (sQ.getD j [])=15+(j:Int)/\(∀n,n<6->l<n->zK n (sQ.getD j [])=0)/\sQ.getD j []∈sQ/\sQ.getD j []≠[46]/\sQ.getD j []≠[91]/\sQ.getD j []≠[40]:=by
 have h:∀j,j<13->((List.range 6).any λl=>decide (zK l (sQ.getD j [])=15+(j:Int))&&(List.range 6).all λn=>decide (l<n->zK n (sQ.getD j [])=0))=true/\sQ.getD j []∈sQ/\sQ.getD j []≠[46]/\sQ.getD j []≠[91]/\sQ.getD j []≠[40]:=by decide
 intro j d;obtain⟨f,e⟩:=h j d;obtain⟨l,c,a⟩:=nL.1 f;rw[bV,fK,jB]at a;exact⟨l,gW.1 c,a.1,λn b=>fP (a.2 n (gW.2 b)),e⟩
theorem aCF{u v:Nat}{c:Int}{T U:List KT}(hk:15<=c/\c<=27)(S:f[i]?=some ⟨c,[],[u,v],[],a⟩)(L:AP N f u T)(K:AP N f v U):Pp N f i ((4,[40])::(T++(4,Gx c)::(U++[(4,[41])]))):=tK λn s k w G o hn Z V=>by
 obtain⟨j,R,rfl⟩:∃j:Nat,j<13/\c=15+(j:Int):=⟨(c-15).toNat,by omega,by omega⟩
 have H:Gx (15+(j:Int))=sQ.getD j []:=by unfold Gx;rw[show(15+(j:Int)-15).toNat=j by omega]
 obtain⟨l,hl,t,g,_,J,I,n3⟩:=Tk j R
 rw[H]at o
 generalize sQ.getD j []=sg at o t g J I n3
 have o:Frt s=(4,[40])::((T++(4,sg)::U)++(4,[41])::(k,w)::G):=by rw[o];simp
 refine BZ (Q:=λx ex=>AlE f ex i x) o V λm d B M=>?_
 refine SO (Q:=λx ex=>AlE f ex i x) (l:=5-l+1) (by omega) ?_
 have B:Frt d=T++(4,sg)::(U++(4,[41])::(k,w)::G):=by rw[B];simp
 have C:¬((4:Int)=4/\(sg=[46]\/sg=[91]\/sg=[40])):=λe=>by rcases e.2 with h|h|h;exact J h;exact I h;exact n3 h
 refine OKR.bind (r:=mU (Eof m) (Sof m) (5-l) d) (L.pp.join L.ht B C (qt4 _) M (by omega) λp h3 F=>by unfold lev;rw[aO rfl];exact g p F (by omega)) λx A ⟨g1,g2⟩=>?_
 obtain⟨X,W,c3⟩:=jX g1.fr (qt4 _)
 have E:qI (cur A) (5-(5-l))=15+(j:Int):=by
  rw[show 5-(5-l)=l by omega];unfold qI;rw[W,c3,aO rfl,t]
 obtain⟨q,D⟩:∃q,d.toks.length=q+1:=⟨d.toks.length-1,by have:=Hl B;simp only[aB,aA]at this;omega⟩;show OKR N (tR (mU (Eof m) (Sof m) (5-l)) (5-(5-l)) (d.toks.length+1) A x) _;rw[D,tR];rw[E,aE (by omega),X];have g3:=gZ g1.fr;refine(K.pp.join K.ht g3 (by decide) (qt4 _) (by show A.deep+m=24;rw[g1.deep];exact M) (by omega) λp _ F=>Kl (by decide) p F).bind λy Y ⟨g4,g5⟩=>?_;have P:=(g1.trans (gJ g1.fr)).trans g4;refine(tJ (a:=⟨15+(j:Int),[],[u,v],[],a⟩) (b:=⟨15+(j:Int),[],[x,y],[],(cur A).a⟩) g4.fr S rfl rfl rfl (al2 (g2.mono ((gJ g1.fr).trans g4).ex) g5)).bind λz O ⟨g6,g7⟩=>?_;obtain⟨d1,d2,d3⟩:=jX g6.fr (qt4 _);rw[tR];rw[show qI (cur O) (5-(5-l))=lev 4 [41] (5-(5-l))by unfold qI lev;rw[d2,d3],Kl (by decide) _ (by omega),aO rfl,d1];exact⟨P.trans g6,g7⟩
theorem WV{u v z:Nat}{T U V:List KT}(D:f[i]?=some ⟨28,[],[u,v,z],[],a⟩)(t:AP N f u T)(C:AP N f v U)(B:AP N f z V):Pp N f i ((4,[40])::(T++(4,[63])::(U++(4,[58])::(V++[(4,[41])])))):=tK λn s k w G j O M E=>by
 have j:Frt s=(4,[40])::((T++(4,[63])::(U++(4,[58])::V))++(4,[41])::(k,w)::G):=by rw[j];simp
 refine BZ (Q:=λx ex=>AlE f ex i x) j E λm q o A=>?_
 have o:Frt q=T++(4,[63])::(U++(4,[58])::(V++(4,[41])::(k,w)::G)):=by rw[o];simp
 rw[EH]
 refine OKR.bind (r:=mU (Eof m) (Sof m) 6 q) (t.pp.join t.ht o (by decide) (qt4 _) A (aQ _) λp _ F=>by unfold lev;rw[aO rfl];exact(show∀p,p<6->zK p [63]=0 by decide) p F) λx c ⟨g1,g2⟩=>?_
 simp only
 rw[oY g1.fr]
 simp only[mE]
 have g3:=gZ g1.fr
 refine(nQ (s:=step1 c) (by show c.deep+m=24;rw[g1.deep];exact A) (P:=λp e=>Mv {step1 c with deep:=c.deep+1,quiet:=c.quiet} e ((4,[41])::(k,w)::G)/\AlE f e.ex v p.1/\AlE f e.ex z p.2) λm' l=>?_).bind λp s' h=>?_
 .subst l
  have g:({step1 c with deep:=c.deep+1,quiet:=c.quiet}:PS).deep+m'=24:=by show c.deep+1+m'=24;rw[g1.deep];omega
  have H:Frt ({step1 c with deep:=c.deep+1,quiet:=c.quiet}:PS)=U++(4,[58])::(V++(4,[41])::(k,w)::G):=g3
  refine(C.at_ (m:=m') (by decide) H g).bind λy e ⟨g4,g5⟩=>?_
  rw[wI g4.fr]
  have g6:=gZ g4.fr
  refine(B.at_ (m:=m') (by decide) g6 (by show e.deep+m'=24;rw[g4.deep];exact g)).bind λK L ⟨g7,g8⟩=>?_
  exact⟨(g4.trans (gJ g4.fr)).trans g7,g5.mono ((gJ g4.fr).trans g7).ex,g8⟩
 .obtain⟨e,⟨l,J,I⟩,rfl⟩:=h
  have d:=Cu (s:=step1 c) l
  exact OKR.mono (tJ (a:=⟨28,[],[u,v,z],[],a⟩) (b:=⟨28,[],[x,p.1,p.2],[],(cur c).a⟩) d.fr D rfl rfl rfl (al3 (g2.mono ((gJ g1.fr).trans d).ex) J I)) λx s' h=>⟨((g1.trans (gJ g1.fr)).trans d).trans h.1,h.2⟩
theorem WT{u v:Nat}{t:Str}{T U:List KT}(C:f[i]?=some ⟨29,t,[u,v],[],a⟩)(A:AP N f u T)(z:AP N f v U):Pp N f i ((4,[91])::(1,tX)::(1,t)::(1,kIn)::(T++(4,[58])::(U++[(4,[93])]))):=tK λn s k w G h S Q D=>by
 have h:Frt s=(4,[91])::(1,tX)::(1,t)::(1,kIn)::(T++(4,[58])::(U++(4,[93])::(k,w)::G)):=by rw[h];simp
 rw[MZ h]
 refine(nQ D (P:=λe b=>Mv {s with deep:=s.deep+1,quiet:=true} b ((k,w)::G)/\e.k=29/\e.t=t/\e.keys=[]/\ALs f b.ex [u,v] e.args) λm l=>?_).bind λe s' g=>?_
 .subst l
  have r:Frt ({s with deep:=s.deep+1,quiet:=true}:PS)=(4,[91])::(1,tX)::(1,t)::(1,kIn)::(T++(4,[58])::(U++(4,[93])::(k,w)::G)):=h
  have q:=gZ r
  have p:=gZ q
  have o:=gZ p
  have E:=gZ o
  obtain⟨K,J,c3⟩:=jX q (.inr (by decide))
  obtain⟨t1,a1,a2,a3⟩:=Ay p (.inr (by decide)) (by decide)
  obtain⟨t2,M,b2,L⟩:=Ay o (.inr (by decide)) (by decide)
  unfold xE
  simp only
  rw[aE (by rw[J,c3];exactλe=>e.elim (λe=>e rfl) (λe=>e rfl)),K,a1]
  simp only[R.bind]
  rw[M]
  simp only[R.bind]
  rw[aE (by rw[L];exactλe=>e rfl)]
  have d:(step1 (step1 (step1 (step1 ({s with deep:=s.deep+1,quiet:=true}:PS))))).deep+m=24:=by show s.deep+1+m=24;omega
  have j:=(((gJ r).trans (gJ q)).trans (gJ p)).trans (gJ o)
  refine(A.at_ (m:=m) (by decide) E d).bind λx b ⟨g1,g2⟩=>?_
  rw[wI g1.fr]
  have g3:=gZ g1.fr
  refine(z.at_ (m:=m) (by decide) g3 (by show b.deep+m=24;rw[g1.deep];exact d)).bind λy O ⟨g4,g5⟩=>?_
  rw[wI g4.fr]
  exact⟨(((j.trans g1).trans (gJ g1.fr)).trans g4).trans (gJ g4.fr),rfl,a3,rfl,al2 (g2.mono ((gJ g1.fr).trans g4).ex) g5⟩
 .obtain⟨b,⟨l,I,H,F,B⟩,rfl⟩:=g
  have c:=Cu l
  exact OKR.mono (tJ c.fr C I H F B) λx s' g=>⟨c.trans g.1,g.2⟩
end
section
variable{N:Nat}{f:List Ex}
def itT(τ:Nat->List KT)(p:Nat×Str):List KT:=(3,Syn.plainM p.2)::(4,[61])::τ p.1
def IB{s:PS}{t:Tok}{x:Str}(h:t.t=Syn.plainM x):qG s t=.ok x s:=by
 unfold qG;rw[h,Ce,xA,aE (by decide)]
theorem Ud{m:Nat}{F:List KT}{τ:Nat->List KT}{a:Int}:∀(l:List (Nat×Str)),(∀p∈l,AP N f p.1 (τ p.1))->∀(j:Nat) (done out:List Nat) (d:List Str) (s:PS),l.length<j->(d++l.map (·.2)).Nodup->Frt s=jt (l.map (itT τ))++(4,[125])::F->s.deep+m=24->s.quiet=false->ALs f s.ex done out->
  OKR N (Ar (mM m).1 a j s out d) (λe s'=>Mv s s' F/\e.k=8/\e.t=[]/\e.keys=d++l.map (·.2)/\ALs f s'.ex (done++l.map (·.1)) e.args)
 |[],_,j,done,out,d,s,C,B,c,hd,w,M=>by
  obtain⟨j,rfl⟩:∃i,j=i+1:=⟨j-1,by simp at C;omega⟩
  have c:Frt s=(4,[125])::F:=c
  rw[Ar,oY c,aO rfl]
  simp only[kA,dL]
  exact⟨gJ c,rfl,rfl,rfl,M⟩
 |p::l,O,j,done,out,d,s,C,B,c,hd,w,M=>by
  obtain⟨j,rfl⟩:∃i,j=i+1:=⟨j-1,by simp at C;omega⟩
  have R:=O p (by simp)
  have c:Frt s=(3,Syn.plainM p.2)::(4,[61])::(τ p.1++((l.flatMap λq=>(4,[44])::itT τ q)++(4,[125])::F)):=by
   rw[c,cJ,Ax,yV];simp[itT]
  have E:Qt s 3:=.inl w;obtain⟨W,V,c3⟩:=jX c E;have h:=gZ c;have H:=gZ h;rw[Ar,nT c E (λe=>absurd e.1 (by decide)),aE (λe=>by cases e)];dsimp only;rw[V,aO rfl,Kw c E (by decide),IB c3];have J:d.contains p.2=false:=by
   rw[Bool.eq_false_iff];intro T;have S:=CQ.1 T;rw[cJ,iE]at B;exact B.2.2 p.2 S p.2 (by simp) rfl
  show OKR N (if d.contains p.2=true then _ else(oX (step1 s) [61]).bind _) _;rw[J,aE (by decide),wI h];obtain⟨D,P,en,G⟩:∃D P,(l.flatMap λq=>((4:Int),([44]:Str))::itT τ q)++(4,[125])::F=(4,D)::P/\D∈Hq:=by
   cases l with
   |nil=>exact⟨[125],F,rfl,by decide⟩
   |cons v us=>exact⟨[44],_,rfl,by decide⟩
  have g:=H;rw[en]at g;have o:=(gJ c).trans (gJ h);refine(R.at_ (m:=m) G g (show s.deep+m=24 from hd)).bind λx n ⟨z,U⟩=>?_;have b:=z.fr;rw[<-en]at b;have K:n.deep+m=24:=by rw[z.deep];exact hd
  have I:n.quiet=false:=z.quiet.trans w;have L:=(M.mono (o.trans z).ex).snoc U;have fin:∀{A:PS},Mv n A (jt (l.map (itT τ))++(4,[125])::F)->OKR N (Ar (mM m).1 a j A (out++[x]) (d++[p.2])) (λe s'=>Mv s s' F/\e.k=8/\e.t=[]/\e.keys=d++(p::l).map (·.2)/\ALs f s'.ex (done++(p::l).map (·.1)) e.args):=λ{A} y=>by
   refine(Ud (m:=m) (F:=F) (τ:=τ) (a:=a) l (λq w=>O q (aF _ w)) j (done++[p.1]) (out++[x]) (d++[p.2]) A (by simp only[aA]at C;omega) (by simpa using B) y.fr (by rw[y.deep];exact K) (y.quiet.trans I) (L.mono y.ex)).mono λe s' Q=>?_;obtain⟨g1,g2,g3,g4,g5⟩:=Q;refine⟨((o.trans z).trans y).trans g1,g2,g3,by rw[g4];simp,?_⟩;rw[cD]at g5;exact g5
  cases l with
  |nil=>
   have b:Frt n=(4,[125])::F:=b;rw[nT b (qt4 _) (by decide),(jX b (qt4 _)).1,oP b,aE (λe=>absurd e.2.2 (by decide)),aE (λe=>by cases e)];rw[DR b (by decide)];exact fin ⟨rfl,rfl,rfl,rfl,mI _,b⟩
  |cons q r=>
   have b:Frt n=(4,[44])::((3,Syn.plainM q.2)::((4,[61])::τ q.1++((r.flatMap λq=>(4,[44])::itT τ q)++(4,[125])::F))):=by rw[b];simp[itT]
   have u:=gZ b;rw[oY b,aE (λe=>by cases e.1),aO rfl];rw[DR u (by decide)];refine fin ⟨rfl,rfl,rfl,rfl,mI _,?_⟩;rw[u,cJ,Ax,yV];simp[itT]
theorem aCD{us:List Nat}{τ:Nat->List KT}(z:f[i]?=some ⟨8,[],us,L,a⟩)(y:us.length=L.length)(H:L.Nodup)(J:∀u∈us,AP N f u (τ u)):Pp N f i ((4,[123])::(jt ((us.zip L).map (itT τ))++[(4,[125])])):=tK λn s k w G d E V I=>by
 have d:Frt s=(4,[123])::(jt ((us.zip L).map (itT τ))++(4,[125])::(k,w)::G):=by rw[d];simp
 have C:(us.zip L).map (·.1)=us:=by rw[List.map_fst_zip];omega
 have z2:(us.zip L).map (·.2)=L:=by rw[List.map_snd_zip];omega
 rw[OJ d]
 refine(nQ I (P:=λe o=>Mv {s with deep:=s.deep+1,quiet:=false} o ((k,w)::G)/\e.k=8/\e.t=[]/\e.keys=L/\ALs f o.ex us e.args) λm v=>?_).bind λe s' c=>?_
 .subst v
  have B:Frt ({s with deep:=s.deep+1,quiet:=false}:PS)=(4,[123])::(jt ((us.zip L).map (itT τ))++(4,[125])::(k,w)::G):=d
  have A:=gZ B
  obtain⟨r,w0,U,T,K⟩:∃r w0 U,jt ((us.zip L).map (itT τ))++(4,[125])::(k,w)::G=(r,w0)::U/\r≠5:=by
   cases us.zip L with
   |nil=>exact⟨4,[125],_,rfl,by decide⟩
   |cons p l=>exact⟨3,Syn.plainM p.2,(4,[61])::τ p.1++((l.map (itT τ)).flatMap λb=>(4,[44])::b)++(4,[125])::(k,w)::G,by rw[cJ,Ax];simp[itT],by decide⟩
  have j:=A;rw[T]at j;show OKR N (Ar (mM m).1 (cur s).a (s.toks.length+1) (hY (step1 {s with deep:=s.deep+1,quiet:=false})) [] []) _;rw[DR j K];have h:(us.zip L).length<s.toks.length+1:=by
   have O:=Hl d;have M:∀l:List (Nat×Str),l.length<=(jt (l.map (itT τ))).length:=λl=>by
    cases l with
    |nil=>exact cZ _
    |cons p l=>
     rw[cJ,Ax,yV];have:∀l:List (Nat×Str),l.length<=(l.flatMap λq=>((4:Int),([44]:Str))::itT τ q).length:=λl=>by
      induction l with
      |nil=>exact cZ _
      |cons q l ih=>simp only[dC,aB,aA]at ih⊢;omega
     have:=this l;have z:1<=(itT τ p).length:=by simp[itT]
     simp only[aB,aA];omega
   have:=M (us.zip L);simp only[aA,aB]at O;omega
  refine(Ud (m:=m) (F:=(k,w)::G) (τ:=τ) (a:=(cur s).a) (us.zip L) (λp D=>J p.1 (List.of_mem_zip (a:=p.1) (b:=p.2) D).1) (s.toks.length+1) [] [] [] _ h (by rw[dS,z2];exact H) A (by show s.deep+1+m=24;omega) rfl (ALs.nil _ _)).mono λe o c=>?_;obtain⟨g1,g2,g3,g4,g5⟩:=c;rw[z2]at g4;rw[C]at g5;exact⟨(gJ B).trans g1,g2,g3,g4,g5⟩
 .obtain⟨o,⟨v,S,R,Q,y⟩,rfl⟩:=c;have g:=Cu v;exact OKR.mono (tJ g.fr z S R Q y) λx s' c=>⟨g.trans c.1,c.2⟩
structure IP(N:Nat)(f:List Ex)(A:Str)(u:Nat)(T:List KT):Prop where
 ap:AP N f u T
 sg:Sg N A T []
 utf:Utf A
 le:A.length<=N
 br:Br A
def Zn{A:Str}{u:Nat}{T:List KT}(h:IP N f A u T){s:PS}{b:Int}(p:s.deep+n=24):OKR N (within s a false λq=>pF (Eof n) q A b) (λx s'=>Mv s s' (Frt s)/\AlE f s'.ex u x):=by
 refine(nQ p (P:=λx g=>Mv {s with deep:=s.deep+1,quiet:=false} g (Frt s)/\AlE f g.ex u x) λm j=>?_).mono λx s' i=>?_
 .subst j;unfold pF;have d:=Li h.sg h.utf h.le;cases o:mS A with
  |bad c a=>rw[o]at d;exact d
  |ok l=>
   rw[o]at d;have d:l.map kt=T++[(0,[])]:=d;have v:Frt (⟨l,0,b,s.deep+1,false,s.ex,s.bl⟩:PS)=T++(0,[])::[]:=d;refine(h.ap.pp.expr h.ap.ht (n:=m) v (λe=>absurd e (by decide)) (.inl rfl) (by show s.deep+1+m=24;omega)).bind λx q ⟨k,r⟩=>?_;obtain⟨t,e⟩:=aD1 k.fr;rw[e];exact⟨⟨rfl,rfl,rfl,k.bl,k.ex,rfl⟩,r⟩
 .obtain⟨g,⟨j,i⟩,rfl⟩:=i;exact⟨Cu j,i⟩
def tpR(f:List Ex)(sh:Nat->Str):List Nat->List Str->Str
 |u::us,k::ks=>(if k=[116]then Syn.plainM (f.getD u ⟨0,[],[],[],0⟩).t else [36,123]++sh u++[125])++tpR f sh us ks
 |_,_=>[]
def SU{sh:Nat->Str}{u:Nat}{x:Str}{us:List Nat}(h:f[u]?=some ⟨5,x,[],[],a⟩):tpR f sh (u::us) ([116]::L)=Syn.plainM x++tpR f sh us L:=by
 rw[tpR,aO rfl,aM,h];rfl
def OW{sh:Nat->Str}{u:Nat}{us:List Nat}:tpR f sh (u::us) ([101]::L)=[36,123]++sh u++[125]++tpR f sh us L:=by
 rw[tpR,aE (by decide)]
def QW{x:Str}(h:x≠[]):0<(Syn.plainM x).length:=by
 cases x with
 |nil=>exact absurd rfl h
 |cons c s=>
  rw[nP,aB];have:0<(pP c).length:=by
   have:=wG c;generalize pP c=p at this;cases this<;>simp
  omega
def aB8{s:PS}{u:Nat}{x:Str}{b:Int}(h:f[u]?=some ⟨5,x,[],[],a⟩):AlE f (s.ex++[⟨5,x,[],[],b⟩]) u s.ex.length:=by
 refine .mk h (b:=⟨5,x,[],[],b⟩) ?_ rfl rfl rfl rfl λj c=>by cases c
 rw[dB (aQ _),yQ];rfl
theorem LN{sh:Nat->Str}{u:Nat}{T:List KT}{us:List Nat}{s1:PS}{x:Str}{out done:List Nat}{dk:List Str}(k:IP N f (sh u) u T)(d:o=Syn.plainM x++([36,123]++sh u++[125]++tpR f sh us L))(e:s1.deep+n=24)(i:ALs f s1.ex done out)
  (g:∀(s:PS) (a:Int) (out:List Nat),s.deep+n=24->ALs f s.ex (done++[u]) out->OKR N (mK (Eof n) j s (tpR f sh us L) a out (dk++[[101]])) (λp s'=>Mv s s' (Frt s)/\p.2=(dk++[[101]])++L/\ALs f s'.ex ((done++[u])++us) p.1)):
  OKR N ((within s1 (a+(Syn.plainM x).length) false λq=>pF (Eof n) q ((o.drop ((Syn.plainM x).length+2)).take ((Syn.plainM x).length+((sh u).length+3)-1-((Syn.plainM x).length+2))) (a+(Syn.plainM x).length+2)).bind λy c=>mK (Eof n) j c (o.drop ((Syn.plainM x).length+((sh u).length+3))) (a+((Syn.plainM x).length+((sh u).length+3):Nat)) (out++[y]) (dk++[[101]])) (λp s'=>Mv s1 s' (Frt s1)/\p.2=dk++[101]::L/\ALs f s'.ex (done++u::us) p.1):=by
 have r:(o.drop ((Syn.plainM x).length+2)).take ((Syn.plainM x).length+((sh u).length+3)-1-((Syn.plainM x).length+2))=sh u:=by
  rw[d,<-jI,qB,show(Syn.plainM x).length+((sh u).length+3)-1-((Syn.plainM x).length+2)=(sh u).length by omega];simp
 have m:o.drop ((Syn.plainM x).length+((sh u).length+3))=tpR f sh us L:=by
  rw[d,<-jI,qB];have:([36,123]++sh u++[125]).length=(sh u).length+3:=by simp
  rw[<-this];exact qB
 rw[r,m];refine(Zn k e).bind λy c ⟨b,l⟩=>?_;refine(g c _ (out++[y]) (by rw[b.deep];exact e) ((i.mono b.ex).snoc l)).mono λp s' h=>?_;obtain⟨g1,g2,g3⟩:=h;refine⟨?_,by rw[g2];simp,by simpa using g3⟩;have:=b.trans g1;rw[b.fr]at this;exact this
theorem GH{sh:Nat->Str}{τ:Nat->List KT}{n:Nat}:∀(q:Nat) (us:List Nat) (ks:List Str),us.length<=q->Tp f true us ks->(∀u∈us,(∃x a,f[u]?=some ⟨5,x,[],[],a⟩)\/IP N f (sh u) u (τ u))->(∀(j:Nat) (u:Nat),us[j]?=some u->ks[j]?=some [101]->IP N f (sh u) u (τ u))->
  ∀(j:Nat) (s:PS) (a:Int) (done out:List Nat) (dk:List Str),(tpR f sh us ks).length<j->s.deep+n=24->ALs f s.ex done out->OKR N (mK (Eof n) j s (tpR f sh us ks) a out dk) (λp s'=>Mv s s' (Frt s)/\p.2=dk++ks/\ALs f s'.ex (done++us) p.1)
 |q,us,ks,A,M,L,B,j,s,a,done,out,dk,r,hd,F=>by
  obtain⟨j,rfl⟩:∃i,j=i+1:=⟨j-1,by omega⟩
  cases M with
  |nil b=>
   rw[mK,aO (show tpR f sh [] []=[]from rfl)]
   exact⟨⟨rfl,rfl,rfl,rfl,mI _,rfl⟩,by simp,by simpa using F⟩
  |@e _ u us ks h=>
   obtain⟨q,rfl⟩:∃i,q=i+1:=⟨q-1,by simp at A;omega⟩
   have z:=B 0 u rfl rfl
   have k:tpR f sh (u::us) ([101]::ks)=Syn.plainM []++([36,123]++sh u++[125]++tpR f sh us ks):=OW
   have g:=Cf z.br (tpR f sh us ks) []
   rw[<-k]at g
   rw[mK,aE (by rw[k];simp),g]
   dsimp only
   have I:¬0<(Syn.plainM []).length:=λe=>by cases e
   rw[aE I,aE I,aE I,aO (by omega)]
   refine LN z k hd F λs' J d m o=>?_
   refine GH q us ks (by simp at A;omega) h (λv D=>L v (aF _ D)) (λi v H G=>B (i+1) v H G) j s' J (done++[u]) d (dk++[[101]]) ?_ m o
   rw[k]at r
   simp only[aB,aA]at r
   omega
  |@t u a0 x us ks K C h=>
   have c:=QW C
   have y:ALs f (s.ex++[⟨5,x,[],[],a⟩]) (done++[u]) (out++[s.ex.length]):=(F.mono (lZ _ _)).snoc (aB8 K)
   have w:Mv s {s with ex:=s.ex++[⟨5,x,[],[],a⟩]} (Frt s):=⟨rfl,rfl,rfl,rfl,lZ _ _,rfl⟩
   rw[SU K]at r⊢
   cases h with
   |nil b=>
    have e:tpR f sh [] []=[]:=rfl
    rw[e,dL,mK,aE (λe=>by rw[e]at c;cases c),Ce,xA]
    exact⟨w,by simp,by simpa using y⟩
   |@e _ v us ks h=>
    obtain⟨q,rfl⟩:∃i,q=i+2:=⟨q-2,by simp at A;omega⟩
    have z:=B 1 v rfl rfl
    generalize l:Syn.plainM x++tpR f sh (v::us) ([101]::ks)=rest at r
    have k:rest=Syn.plainM x++([36,123]++sh v++[125]++tpR f sh us ks):=by rw[<-l,OW]
    have g:=Cf z.br (tpR f sh us ks) x
    rw[<-k]at g
    have E:rest.take (Syn.plainM x).length=Syn.plainM x:=by rw[k];exact uA
    rw[mK,aE (by rw[k];intro e;rw[List.append_eq_nil_iff]at e;rw[e.1]at c;cases c),g]
    dsimp only
    rw[aO c,aO c,aO c,aO (by omega),E,xA]
    refine(LN (s1:={s with ex:=s.ex++[⟨5,x,[],[],a⟩]}) (dk:=dk++[[116]]) z k hd y λs' J d m o=>?_).mono λp s' C=>?_
    .refine GH q us ks (by simp at A;omega) h (λv D=>L v (by simp[D])) (λi v H G=>B (i+2) v H G) j s' J ((done++[u])++[v]) d ((dk++[[116]])++[[101]]) ?_ m o
     rw[k]at r
     simp only[aB,aA]at r
     omega
    .obtain⟨g1,g2,g3⟩:=C
     exact⟨w.trans g1,by rw[g2];simp,by simpa using g3⟩
def aCb{b:Bool}(h:Tp f b u L):u.length=L.length:=by
 induction h with
 |nil b=>rfl
 |t h a c ih=>simp[ih]
 |e h ih=>simp[ih]
def Rp{sh:Nat->Str}{b:Bool}{us:List Nat}(h:Tp f b us L)(c:[101]∈L)(d:∀(j:Nat) (u:Nat),us[j]?=some u->L[j]?=some [101]->Br (sh u)):∀pre:Str,(Syn.insP (Syn.plainM pre++tpR f sh us L)).isSome=true:=by
 induction h with
 |nil b=>cases c
 |@t u a x us L h k l ih=>
  intro pre;rw[SU h];have:[101]∈L:=by
   rcases aX.1 c with e|e
   .exact absurd e (by decide)
   .exact e
  have:=ih this (λj v i g=>d (j+1) v i g) (pre++x);rwa[show Syn.plainM (pre++x)=Syn.plainM pre++Syn.plainM x by unfold Syn.plainM;rw[tW],cD]at this
 |@e b u us L h ih=>
  intro pre;rw[OW,Cf (d 0 u rfl rfl)];rfl
theorem aCC{sh:Nat->Str}{τ:Nat->List KT}{us:List Nat}(z:f[i]?=some ⟨6,[],us,L,a⟩)(r:Tp f true us L)(A:[101]∈L)(d:∀(j:Nat) (u:Nat),us[j]?=some u->L[j]?=some [101]->IP N f (sh u) u (τ u)):Pp N f i [(3,tpR f sh us L)]:=tK λn s k w G m y E B=>by
 have m:Frt s=(3,tpR f sh us L)::(k,w)::G:=m
 have C:=(jX m (.inr (show(3:Int)≠5 by decide))).2.2
 have g:=Rp (sh:=sh) r A (λj u l o=>(d j u l o).br) []
 have g:(Syn.insP (tpR f sh us L)).isSome=true:=g
 have D:∀{b:Bool} {us:List Nat} {L:List Str},Tp f b us L->(∀(j:Nat) (u:Nat),us[j]?=some u->L[j]?=some [101]->IP N f (sh u) u (τ u))->∀u∈us,(∃x a,f[u]?=some ⟨5,x,[],[],a⟩)\/IP N f (sh u) u (τ u):=λ{b} {us} {L} h=>by
  induction h with
  |nil b=>intro _ u c;cases c
  |t h y F ih=>
   intro d u c
   rcases aX.1 c with rfl|c
   .exact .inl ⟨_,_,h⟩
   .exact ih (λj v l o=>d (j+1) v l o) u c
  |e h ih=>
   intro d u c
   rcases aX.1 c with rfl|c
   .exact .inr (d 0 _ rfl rfl)
   .exact ih (λj v l o=>d (j+1) v l o) u c
 rw[MX m]
 unfold wS
 rw[C,g,aO rfl]
 have l:=gZ m
 refine(GH us.length us L (aQ _) r (D r d) d ((tpR f sh us L).length+1) (step1 s) ((cur s).a+1) [] [] [] (rI _) B (ALs.nil _ _)).bind λp s' q=>?_
 obtain⟨g1,g2,g3⟩:=q
 rw[l]at g1
 exact OKR.mono (tJ (a:=⟨6,[],us,L,a⟩) (b:=⟨6,[],p.1,p.2,(cur s).a⟩) g1.fr z rfl rfl g2 g3) λx s' q=>⟨((gJ m).trans g1).trans q.1,q.2⟩
end
def NU(h:c.toNat<128):∀d∈pP c,d.toNat<128:=by
 intro d a;have f:=wG c;generalize pP c=q at f a;cases f with
 |esc e b _=>
  simp only[aX,bU,fT]at a;rcases a with rfl|rfl
  .decide
  .unfold Lex.escOk at b;simp only[gH,iU]at b;rcases b with((((rfl|rfl)|rfl)|rfl)|rfl)|rfl<;>decide
 |lit _ _ _ _=>
  rw[bO]at a;subst a;exact h
def LF(h:128<=c.toNat):pP c=[c]:=by
 have a:∀n:UInt8,n.toNat<128->c≠n:=λn b e=>by rw[e]at h;omega
 unfold pP;rw[aE (λe=>by rcases e with e|e|e;exact a 92 (by decide) e;exact a 34 (by decide) e;exact a 36 (by decide) e),aE (a 10 (by decide)),aE (a 9 (by decide)),aE (a 13 (by decide))]
def YF(a b:Str):Syn.plainM (a++b)=Syn.plainM a++Syn.plainM b:=by unfold Syn.plainM;rw[tW]
def BV(h:Utf s):Utf (Syn.plainM s):=by
 induction h with
 |nil=>exact .nil
 |@cons u r a i ih=>
  rw[YF];refine Utf.app ?_ ih;rcases a.cases with⟨x,rfl,f⟩|b
  .refine mD λc e=>?_;rw[nP,show Syn.plainM []=[]from rfl,dL]at e;exact NU f c e
  .have:Syn.plainM u=u:=by
    clear a;induction u with
    |nil=>rfl
    |cons c u ih2=>rw[nP,LF (b c (by simp)),ih2 λd g=>b d (aF _ g)];rfl
   rw[this];exact Utf.one a
structure PXp(N:Nat)(f:Fl)(u:Nat)(T:List KT):Prop where
 pc:Pc N (eO f u) T Fol
 hd:∃c r,eO f u=c::r/\c≠61
 ht:HT T
 pp:(eO f u).length<=N->Pp N f.ex u T
def PXp.ap{N:Nat}{f:Fl}{u:Nat}{T:List KT}(h:PXp N f u T)(a:(eO f u).length<=N):AP N f.ex u T:=⟨h.pp a,h.ht⟩
def PXp.ip{N:Nat}{f:Fl}{u:Nat}{T:List KT}(h:PXp N f u T)(a:(eO f u).length<=N):IP N f.ex (eO f u) u T:=⟨h.ap a,h.pc.sg [] Zx,h.pc.utf,a,h.pc.br⟩
def pX{e:Ex}(h:e.k≠8)(s:Nat->Str):lQ e s=e.args.map s:=by
 unfold lQ CL;simp only[aE h,dS];apply rM (by simp);intro j b a;simp only[cK]at a;simp[aM,aH a]
def Oi{a:Str}:∀{l:List Str},a∈l->a.length<=(jn l).length
 |[],h=>by cases h
 |[b],h=>by rw[bO.1 h];exact aQ _
 |b::c::l,h=>by
  rw[jn]
  rcases aX.1 h with rfl|h
  .simp only[aB];omega
  .have:=Oi (l:=c::l) h
   simp only[aB];omega
section
variable{N:Nat}{f:Fl}{i:Nat}
def JS{t:Str}{T:List KT}(a:eO f i=t)(e:Pc N t T NF)(g:∃c r,t=c::r/\c≠61)(b:HT T)(pp:Pp N f.ex i T):PXp N f i T:=
 ⟨by rw[a];exact e.weak λr d=>d.nf,by rw[a];exact g,b,λ_=>pp⟩
def Ki{t:Str}(h:sZ t):∃c r,t=c::r/\c≠61:=by
 obtain⟨c,r,rfl,a⟩:=h.hd;exact⟨c,r,rfl,by rintro rfl;exact absurd a (by decide)⟩
def aDE{t:Str}(h:VX t):∃c r,t=c::r/\c≠61:=by
 obtain⟨c,r,rfl⟩:=h.hd;exact⟨c,r,rfl,by rintro rfl;exact absurd (h.al 61 (by simp)) (by decide)⟩
def Do{A:Str}{T:List KT}{r:Str}{w:Str}{U:List KT}(a:eO f i=A)(d:Pc N A T Fol)(h:A=c::r)(e:c≠61)(g:T=(4,w)::U)(b:w=[40]\/w=[91]\/w=[123])(pp:(eO f i).length<=N->Pp N f.ex i T):PXp N f i T:=
 ⟨by rw[a];exact d,by rw[a,h];exact⟨c,r,rfl,e⟩,⟨4,w,U,g,.inr (.inr (.inr ⟨rfl,b⟩))⟩,pp⟩
def Tm{l:List Str}(h:15<=z/\z<=27):lL f ⟨z,[],u,[],a⟩ l=[40]++l.getD 0 []++[32]++Gx z++[32]++l.getD 1 []++[41]:=by
 unfold lL;dsimp only;rw[aE (by omega),aE (by omega),aE (by omega),aE (by omega),aE (by omega),aE (by omega),aE (by omega),aE (by omega),aE (by omega),aE (by omega),aE (by omega),aE (by omega),aE (by omega),aE (by omega),aE (by omega),aE (by omega)];rfl
def aDz{us:List Nat}{τ:Nat->List KT}(a:us≠[])(d:∀u∈us,PXp N f u (τ u)):Pc N (jn (us.map (eO f))) (jt (us.map τ)) Fol:=by
 have:=TV (N:=N) (us.map λu=>(eO f u,τ u)) (by simpa using a) (λp c=>by
  obtain⟨u,b,rfl⟩:=fL.1 c;exact(d u b).pc)
 rw[iP,iP]at this;exact this
def Pv{A:Str}{T:List KT}{o:UInt8}(a:o∈Gv/\o≠123/\o≠125)(b:c∈Gv/\c≠123/\c≠125)(d:c∈Zy)(h:A=[]/\T=[]\/Pc N A T Fol):Pc N ([o]++A++[c]) ([(4,[o])]++T++[(4,[c])]) vA:=by
 rcases h with⟨rfl,rfl⟩|h
 .rw[dL,dL];exact(pK a.1 a.2).app (pK b.1 b.2) λ_ _=>trivial
 .exact((pK a.1 a.2).app h λ_ _=>trivial).app (pK b.1 b.2) λr _=>Ho d r
def VM{us:List Nat}{τ:Nat->List KT}(b:∀u∈us,PXp N f u (τ u)):jn (us.map (eO f))=[]/\jt (us.map τ)=[]\/Pc N (jn (us.map (eO f))) (jt (us.map τ)) Fol:=by
 by_cases a:us=[]
 .subst a;exact .inl ⟨rfl,rfl⟩
 .exact .inr (aDz a b)
def Um{us:List Nat}{A:Str}{M:Nat}(h:(jn (us.map (eO f))).length<=A.length)(b:A.length<=M):∀u∈us,(eO f u).length<=M:=λu a=>by
 have:=Oi (fL.2 ⟨u,a,rfl⟩:eO f u∈us.map (eO f))
 omega
def Wo{τ:Nat->List KT}{b:Bool}{us:List Nat}(h:Tp f.ex b us L)(k:∀u∈us,PXp N f u (τ u))(p:∀(u:Nat) (x:Str) (a:Int),f.ex[u]?=some ⟨5,x,[],[],a⟩->Utf x):Tx (tpR f.ex (eO f) us L)/\Qu (tpR f.ex (eO f) us L)/\Utf (tpR f.ex (eO f) us L)/\∀(j u:Nat),us[j]?=some u->L[j]?=some [101]->(eO f u).length<=(tpR f.ex (eO f) us L).length:=by
 induction h with
 |nil b=>exact⟨Tx.nil,Qu.nil,.nil,λj u h=>by cases h⟩
 |@t u a x us L h q r ih=>
  obtain⟨o,n,m,l⟩:=ih λv g=>k v (aF _ g);rw[SU h];refine⟨(CZ x).app o,(GC x).app n,(BV (p u x a h)).app m,λj v d c=>?_⟩;cases j with
  |zero=>injection c with c;exact absurd c (by decide)
  |succ j=>have:=l j v d c;rw[aB];omega
 |@e b u us L h ih=>
  obtain⟨o,n,m,l⟩:=ih λv g=>k v (aF _ g);have i:=(k u (by simp)).pc;rw[OW];refine⟨(Wm i.in_).app o,(aCw i.br).app n,(((mD (s:=[36,123]) (by decide)).app i.utf).app (mD (by decide))).app m,λj v d c=>?_⟩;cases j with
  |zero=>injection d with d;subst d;simp only[aB];omega
  |succ j=>have:=l j v d c;rw[aB];omega
def aCa{e:Ex}(a:e.args.length=e.keys.length)(sh:Nat->Str):Af f e (e.args.map sh) (e.args.map sh).length=tpR f.ex sh e.args e.keys:=by
 unfold Af;rw[cK];generalize e.args=us at a;generalize e.keys=ks at a;induction us generalizing ks with
 |nil=>cases ks<;>rfl
 |cons u us ih=>
  cases ks with
  |nil=>cases a
  |cons k ks=>
   rw[tpR,aA,List.range_succ_eq_map,cJ,iG,iP];have:=ih ks (by simpa using a);rw[<-this];congr 1
def itS(f:Fl)(p:Nat×Str):Str:=[34]++Syn.plainM p.2++[34]++[32]++[61]++[32]++eO f p.1
def Ue(c:u.length=L.length):lQ ⟨8,[],u,L,a⟩ (eO f)=(u.zip L).map (itS f):=by
 unfold lQ CL;apply rM (by simp[c]);intro j b e;simp only[cK,nZ]at b;have d:j<L.length:=by omega
 simp only[uB,List.getElem_range,List.getElem_zip,mE,aM,aH b,aH d,tY,itS];simp
def aFt{τ:Nat->List KT}{p:Nat×Str}(h:PXp N f p.1 (τ p.1))(a:Utf p.2):Pc N (itS f p) (itT τ p) Fol:=by
 have d:Pc N ([34]++Syn.plainM p.2++[34]) [(3,Syn.plainM p.2)] vA:=JX (CZ _) (GC _) (BV a);have c:Pc N ([34]++Syn.plainM p.2++[34]++[32]) ([(3,Syn.plainM p.2)]++[]) vA:=d.app uS λ_ _=>trivial;have b:Pc N ([61]++[32]) ([(4,[61])]++[]) vA:=(aBJ (w:=[61]) (by decide)).app uS λr _=>⟨r,rfl⟩;have:=(c.app b λ_ _=>trivial).app h.pc λ_ _=>trivial;unfold itS itT;simpa using this
end
section
variable{N:Nat}{f:Fl}{i:Nat}
def NP{t:Str}(g:f.ex[i]?=some ⟨z,[],[],[],a⟩)(e:eO f i=t)(b:sZ t)(c:pS t=z)(h:z≠9)(d:t≠tX):PXp N f i [(1,t)]:=
 JS e (xY b) (Ki b) ⟨1,t,[],rfl,.inl ⟨rfl,d⟩⟩ (Pt g c (by rw[c,aE h]) d)
def e8{e:Ex}{k:Int}(h:decide (k≠8)=true)(a:e.k=k):e.k≠8:=by rw[a];exact fP h
def aDy{A t:Str}{T:List KT}(h:Pc N A T Fol)(a:sZ t):Pc N ([40]++A++[41]++[46]++t) ([(4,[40])]++T++[(4,[41])]++[(4,[46])]++[(1,t)]) Fol:=
 (((Ew h IY).app (pK (by decide) (by decide)) λ_ _=>trivial).app (xY a) λ_ _=>trivial).weak λ_ b=>b.nf
theorem aCA(W:SA f.ex)(X:∀(i:Nat) (e:Ex),f.ex[i]?=some e->∀a∈e.args,a<i):∀i,i<f.ex.length->∃T,PXp N f i T:=by
 have hU:∀(u:Nat) (x:Str) (a:Int),f.ex[u]?=some ⟨5,x,[],[],a⟩->Utf x:=λu x a h=>by
  have:=W _ (bA h);cases this with
  |lit=>rename_i B;rcases B with B|B|B<;>cases B
  |text=>rename_i B;exact B
 intro i;induction i using Nat.strongRecOn with
 |ind i ih=>
  intro Q;obtain⟨e,n⟩:∃e,f.ex[i]?=some e:=⟨_,aH Q⟩;have S:=W e (bA n);have d:=DX X n;have F:=X i e n;obtain⟨τ,hτ⟩:∃τ:Nat->List KT,∀u∈e.args,PXp N f u (τ u):=by
   classical
   have L:∀u∈e.args,∃T,PXp N f u T:=λu m=>ih u (F u m) (by have:=F u m;omega);exact⟨λu=>if h:∃T,PXp N f u T then Classical.choose h else [],λu m=>by
    have h:=L u m;simp only[dif_pos h];exact CR h⟩
  clear ih;cases S with
  |lit a h=>
   rcases h with rfl|rfl|rfl
   .exact⟨_,NP (t:=[110,117,108,108]) n d ⟨⟨110,[117,108,108],rfl,by decide⟩,by decide,by decide⟩ (by decide) (by decide) (by decide)⟩
   .exact⟨_,NP (t:=[116,114,117,101]) n d ⟨⟨116,[114,117,101],rfl,by decide⟩,by decide,by decide⟩ (by decide) (by decide) (by decide)⟩
   .exact⟨_,NP (t:=[102,97,108,115,101]) n d ⟨⟨102,[97,108,115,101],rfl,by decide⟩,by decide,by decide⟩ (by decide) (by decide) (by decide)⟩
  |@int t a h=>exact⟨_,JS (t:=t) d (aDx h) (aDE h) ⟨2,t,[],rfl,.inr (.inl rfl)⟩ (aCE n)⟩
  |@text t a h=>
   have d:eO f i=[34]++Syn.plainM t++[34]:=d;exact⟨[(3,Syn.plainM t)],⟨by rw[d];exact(JX (CZ t) (GC t) (BV h)).weak λ_ _=>trivial,by rw[d];exact⟨34,_,rfl,by decide⟩,⟨3,_,[],rfl,.inr (.inr (.inl rfl))⟩,λ_=>WR n⟩⟩
  |@tpl us ks a h P=>
   have I:=aCb h;have d:eO f i=[34]++tpR f.ex (eO f) us ks++[34]:=by
    rw[d,pX (e8 (k:=6) rfl rfl)];have:=aCa (f:=f) (e:=⟨6,[],us,ks,a⟩) I (eO f);rw[<-this];rfl
   obtain⟨H,h2,h3,h4⟩:=Wo h hτ hU;refine⟨[(3,tpR f.ex (eO f) us ks)],⟨by rw[d];exact(JX H h2 h3).weak λ_ _=>trivial,by rw[d];exact⟨34,_,rfl,by decide⟩,⟨3,_,[],rfl,.inr (.inr (.inl rfl))⟩,λg=>?_⟩⟩;refine aCC (τ:=τ) n h P λj u Z e2=>(hτ u (bA Z)).ip ?_;have:=h4 j u Z e2;rw[d]at g;simp only[aB]at g;omega
  |list us a=>
   have d:eO f i=[91]++jn (us.map (eO f))++[93]:=by rw[d,pX (e8 (k:=7) rfl rfl),<-IL];rfl
   exact⟨_,Do d ((Pv (o:=91) (c:=93) (by decide) (by decide) (by decide) (VM hτ)).weak λ_ _=>trivial) rfl (by decide) rfl (.inr (.inl rfl)) λg=>WU n λu m=>(hτ u m).ap (Um (f:=f) (A:=eO f i) (by rw[d];simp only[aB];omega) g u m)⟩
  |@obj us ks a I hn m=>
   have d:eO f i=[123]++jn ((us.zip ks).map (itS f))++[125]:=by rw[d,Ue I,<-IL];rfl
   have C:∀p∈us.zip ks,p.1∈us/\p.2∈ks:=λp y=>List.of_mem_zip (a:=p.1) (b:=p.2) y;have O:jn ((us.zip ks).map (itS f))=[]/\jt ((us.zip ks).map (itT τ))=[]\/Pc N (jn ((us.zip ks).map (itS f))) (jt ((us.zip ks).map (itT τ))) Fol:=by
    by_cases E:us.zip ks=[]
    .rw[E];exact .inl ⟨rfl,rfl⟩
    .right;have:=TV (N:=N) ((us.zip ks).map λp=>(itS f p,itT τ p)) (by simpa using E) (λq hq=>by
      obtain⟨p,y,rfl⟩:=fL.1 hq;exact aFt (hτ p.1 (C p y).1) (m p.2 (C p y).2))
     rw[iP,iP]at this;exact this
   refine⟨_,Do d ((TW O aD2).weak λ_ _=>trivial) rfl (by decide) rfl (.inr (.inr rfl)) λg=>aCD n I hn λu D=>(hτ u D).ap ?_⟩;obtain⟨j,J⟩:=nK D;have hy:=(bJ.1 J).1;have y:(u,ks[j]'(by omega))∈us.zip ks:=bA (i:=j) (by rw[yX];exact⟨J,aH _⟩);have H:=Oi (fL.2 ⟨_,y,rfl⟩:itS f (u,ks[j]'(by omega))∈(us.zip ks).map (itS f));rw[d]at g;simp only[aB,itS]at H g;omega
  |@name t a h Y G=>exact⟨_,JS (t:=t) d (xY h) (Ki h) ⟨1,t,[],rfl,.inl ⟨rfl,G⟩⟩ (Pt n Y (by rw[Y];rfl) G)⟩
  |@attr t u a h=>
   have m:=hτ u (by simp);have d:eO f i=[40]++eO f u++[41]++[46]++t:=by
    rw[d,pX (e8 (k:=10) rfl rfl)];show [40]++eO f u++[41,46]++t=_;simp
   exact⟨(4,[40])::(τ u++[(4,[41]),(4,[46]),(1,t)]),Do d (by have:=aDy m.pc h;simpa using this) rfl (by decide) rfl (.inl rfl) λg=>WX n (m.ap (by rw[d]at g;simp only[aB]at g;omega))⟩
  |index u v a=>
   have m:=hτ u (by simp);have w:=hτ v (by simp);have d:eO f i=[40]++eO f u++[41]++([91]++eO f v++[93]):=by
    rw[d,pX (e8 (k:=11) rfl rfl)];show [40]++eO f u++[41,91]++eO f v++[93]=_;simp
   refine⟨(4,[40])::(τ u++(4,[41])::(4,[91])::(τ v++[(4,[93])])),Do d ?_ rfl (by decide) rfl (.inl rfl) λg=>TH n (m.ap (by rw[d]at g;simp only[aB]at g;omega)) (w.ap (by rw[d]at g;simp only[aB]at g;omega))⟩;have:=((Ew m.pc IY).app (NV w.pc aBR) λ_ _=>trivial).weak (ok':=Fol) λ_ _=>trivial;simpa using this
  |@call t us a h G=>
   have d:eO f i=t++([40]++jn (us.map (eO f))++[41]):=by
    rw[d,pX (e8 (k:=12) rfl rfl),<-IL];show t++[40]++_++[41]=_;simp only[cD]
   have y:Pc N (t++([40]++jn (us.map (eO f))++[41])) ([(1,t)]++([(4,[40])]++jt (us.map τ)++[(4,[41])])) Fol:=
    ((xY h).app (Pv (o:=40) (c:=41) (by decide) (by decide) (by decide) (VM hτ)) λr _=>Uh (by decide) _).weak λ_ _=>trivial
   obtain⟨c,r,V,R⟩:=Ki h;refine⟨(1,t)::(4,[40])::(jt (us.map τ)++[(4,[41])]),⟨by rw[d];simpa using y,by rw[d,V];exact⟨c,_,rfl,R⟩,⟨1,t,_,rfl,.inl ⟨rfl,G⟩⟩,λg=>WW n G λu m=>(hτ u m).ap (Um (f:=f) (A:=eO f i) (by rw[d];simp only[aB];omega) g u m)⟩⟩
  |@un kk u a h=>
   have m:=hτ u (by simp);obtain⟨sg,hk,d,y⟩:∃sg,(kk=13/\sg=[45]\/kk=14/\sg=[33])/\eO f i=[40]++(sg++eO f u)++[41]/\Pc N (sg++eO f u) ([(4,sg)]++τ u) Fol:=by
    rcases h with rfl|rfl
    .refine⟨[45],.inl ⟨rfl,rfl⟩,?_,(pK (by decide) (by decide)).app m.pc λ_ _=>trivial⟩;rw[d,pX (e8 (k:=13) rfl rfl)];show [40,45]++joinL [eO f u] [44,32]++[41]=_;rw[IL,jn];simp
    .refine⟨[33],.inr ⟨rfl,rfl⟩,?_,?_⟩
     .rw[d,pX (e8 (k:=14) rfl rfl)];show [40,33]++joinL [eO f u] [44,32]++[41]=_;rw[IL,jn];simp
     .obtain⟨c,r,V,R⟩:=m.hd;have H:Pc N [33] [(4,[33])] (λr=>∃c x,r=c::x/\c≠61):=⟨mD (by decide),λr ⟨c,x,e,h⟩=>by rw[e];exact aCm h x,UQ (by decide),ZN (by decide)⟩;exact H.app m.pc λs _=>⟨c,r++s,by rw[V];rfl,R⟩
   refine⟨(4,[40])::(4,sg)::(τ u++[(4,[41])]),Do d ?_ rfl (by decide) rfl (.inl rfl) λg=>aFr hk n (m.ap (by rw[d]at g;simp only[aB]at g;omega))⟩;have:=(Ew y IY).weak (ok':=Fol) λ_ _=>trivial;simpa using this
  |@bin kk u v a h=>
   have m:=hτ u (by simp);have w:=hτ v (by simp);have d:eO f i=[40]++(eO f u++[32]++Gx kk++[32]++eO f v)++[41]:=by
    rw[d,pX (by show kk≠8;omega),Tm h];show [40]++eO f u++[32]++Gx kk++[32]++eO f v++[41]=_;simp
   have hw:Pc N (Gx kk) [(4,Gx kk)] blR:=by
    obtain⟨j,J,rfl⟩:∃j:Nat,j<13/\kk=15+(j:Int):=⟨(kk-15).toNat,by omega,by omega⟩;have U:Gx (15+(j:Int))=sQ.getD j []:=by unfold Gx;rw[show(15+(j:Int)-15).toNat=j by omega]
    obtain⟨l,_,_,_,hm,_⟩:=Tk j J;rw[U];exact aBJ (aF _ hm)
   refine⟨(4,[40])::(τ u++(4,Gx kk)::(τ v++[(4,[41])])),Do d ?_ rfl (by decide) rfl (.inl rfl) λg=>aCF h n (m.ap (by rw[d]at g;simp only[aB]at g;omega)) (w.ap (by rw[d]at g;simp only[aB]at g;omega))⟩;have:=(Ew (JY m.pc hw w.pc) IY).weak (ok':=Fol) λ_ _=>trivial;simpa using this
  |cond u v z a=>
   have m:=hτ u (by simp);have w:=hτ v (by simp);have C:=hτ z (by simp);have d:eO f i=[40]++(eO f u++[32]++[63]++[32]++(eO f v++[32]++[58]++[32]++eO f z))++[41]:=by
    rw[d,pX (e8 (k:=28) rfl rfl)];show [40]++eO f u++[32,63,32]++eO f v++[32,58,32]++eO f z++[41]=_;simp
   have s1:Pc N [63] [(4,[63])] blR:=(pK (by decide) (by decide)).weak λ_ _=>trivial;have K:Pc N [58] [(4,[58])] blR:=(pK (by decide) (by decide)).weak λ_ _=>trivial;refine⟨(4,[40])::(τ u++(4,[63])::(τ v++(4,[58])::(τ z++[(4,[41])]))),Do d ?_ rfl (by decide) rfl (.inl rfl) λg=>WV n (m.ap (by rw[d]at g;simp only[aB]at g;omega)) (w.ap (by rw[d]at g;simp only[aB]at g;omega)) (C.ap (by rw[d]at g;simp only[aB]at g;omega))⟩;have:=(Ew (JY m.pc s1 (JY w.pc K C.pc)) IY).weak (ok':=Fol) λ_ _=>trivial;simpa using this
  |@loop t u v a h=>
   have m:=hτ u (by simp);have w:=hτ v (by simp);have d:eO f i=[91]++(tX++[32]++t++[32]++(kIn++[32])++(eO f u++[32]++[58]++[32]++eO f v))++[93]:=by
    rw[d,pX (e8 (k:=29) rfl rfl)];show [91,102,111,114,32]++t++[32,105,110,32]++eO f u++[32,58,32]++eO f v++[93]=_;simp[tX,kIn]
   have K:Pc N [58] [(4,[58])] blR:=(pK (by decide) (by decide)).weak λ_ _=>trivial;have wf:Pc N tX [(1,tX)] NF:=xY ⟨⟨102,[111,114],rfl,by decide⟩,by decide,by decide⟩;have wi:Pc N kIn [(1,kIn)] NF:=xY ⟨⟨105,[110],rfl,by decide⟩,by decide,by decide⟩;have b1:Pc N (tX++[32]) ([(1,tX)]++[]) vA:=wf.app uS λr _=>Uh (by decide) _;have b2:Pc N (t++[32]) ([(1,t)]++[]) vA:=(xY h).app uS λr _=>Uh (by decide) _;have b3:Pc N (kIn++[32]) ([(1,kIn)]++[]) vA:=wi.app uS λr _=>Uh (by decide) _;refine⟨(4,[91])::(1,tX)::(1,t)::(1,kIn)::(τ u++(4,[58])::(τ v++[(4,[93])])),Do d ?_ rfl (by decide) rfl (.inr (.inl rfl)) λg=>WT n (m.ap (by rw[d]at g;simp only[aB]at g;omega)) (w.ap (by rw[d]at g;simp only[aB]at g;omega))⟩;have:=(NV (((b1.app b2 λ_ _=>trivial).app b3 λ_ _=>trivial).app (JY m.pc K w.pc) λ_ _=>trivial) aBR).weak (ok':=Fol) λ_ _=>trivial;simpa using this
  |@splat t u a h=>
   have m:=hτ u (by simp);have d:eO f i=[40]++eO f u++[41]++([91]++[42]++[93])++[46]++t:=by
    rw[d,pX (e8 (k:=30) rfl rfl)];show [40]++eO f u++[41,91,42,93,46]++t=_;simp
   refine⟨(4,[40])::(τ u++[(4,[41]),(4,[91]),(4,[42]),(4,[93]),(4,[46]),(1,t)]),Do d ?_ rfl (by decide) rfl (.inl rfl) λg=>TF n (m.ap (by rw[d]at g;simp only[aB]at g;omega))⟩;have M:Pc N [42] [(4,[42])] vA:=pK (by decide) (by decide);have:=((((Ew m.pc IY).app (NV M λ_=>trivial) λ_ _=>trivial).app (pK (c:=46) (by decide) (by decide)) λ_ _=>trivial).app (xY h) λ_ _=>trivial).weak (ok':=Fol) λ_ hr=>hr.nf;simpa using this
end
def AtA(f g:List Ex)(us l:List Atr):Prop:=l.length=us.length/\∀(j:Nat) (a b:Atr),us[j]?=some a->l[j]?=some b->b.n=a.n/\AlE f g a.e b.e
def AtA.mono{f g e:List Ex}(i:g<+:e){us l:List Atr}(h:AtA f g us l):AtA f e us l:=⟨h.1,λj a b d c=>⟨(h.2 j a b d c).1,(h.2 j a b d c).2.mono i⟩⟩
def AtA.nil(f g:List Ex):AtA f g [] []:=⟨rfl,λj a b h=>by cases h⟩
def AtA.snoc{f g:List Ex}{us l:List Atr}{u x:Atr}(h:AtA f g us l)(p:x.n=u.n)(o:AlE f g u.e x.e):AtA f g (us++[u]) (l++[x]):=by
 have k:=h.1;refine⟨by simp[k],λj a b c d=>?_⟩;by_cases i:j<us.length
 .rw[dR i]at c;rw[dR (by omega)]at d;exact h.2 j a b c d
 .rw[dB (by omega)]at c;rw[dB (by omega)]at d;have m:j-us.length=0:=by have:=(bJ.1 c).1;simp only[aA,aD]at this;omega
  rw[k,m]at d;rw[m]at c;simp only[bG,bB]at c d;subst c d;exact⟨p,o⟩
inductive AlB (f:Fl) (ex:List Ex) (bl:List Blk):Nat->Nat->Prop
 |mk {i x:Nat} {a b:Blk} (hf:f.bl[i]?=some a) (hg:bl[x]?=some b) (ht:b.typ=a.typ) (hl:b.labels=a.labels) (ha:AtA f.ex ex a.attrs b.attrs) (hb:b.blocks.length=a.blocks.length) (h:∀j,j<a.blocks.length->AlB f ex bl (a.blocks.getD j 0) (b.blocks.getD j 0)):AlB f ex bl i x
def AlB.mono{f:Fl}{ex a:List Ex}{bl b:List Blk}(m:ex<+:a)(l:bl<+:b){x:Nat}(h:AlB f ex bl i x):AlB f a b i x:=by
 induction h with
 |mk g e c d k j h ih=>exact .mk g (BU l e) c d (k.mono m) j ih
def BLs(f:Fl)(ex:List Ex)(bl:List Blk)(us l:List Nat):Prop:=l.length=us.length/\∀j,j<us.length->AlB f ex bl (us.getD j 0) (l.getD j 0)
def BLs.mono{f:Fl}{ex a:List Ex}{bl b:List Blk}(e:ex<+:a)(d:bl<+:b){l:List Nat}(h:BLs f ex bl u l):BLs f a b u l:=⟨h.1,λj c=>(h.2 j c).mono e d⟩
def BLs.nil(f:Fl)(ex:List Ex)(bl:List Blk):BLs f ex bl [] []:=⟨rfl,λj h=>by cases h⟩
def BLs.snoc{f:Fl}{ex:List Ex}{bl:List Blk}{us l:List Nat}{u x:Nat}(h:BLs f ex bl us l)(b:AlB f ex bl u x):BLs f ex bl (us++[u]) (l++[x]):=by
 have d:=h.1;refine⟨by simp[h.1],λj c=>?_⟩;simp only[aB,aA,aD]at c;by_cases a:j<us.length
 .have:=h.2 j a;rw[aM,aM,dR a,dR (by rw[h.1];exact a),<-aM,<-aM];exact this
 .have:j=us.length:=by omega
  subst this;rw[aM,aM,dB (aQ _),dB (by omega),h.1];simpa using b
structure Mw(s s':PS)(F:List KT):Prop where
 toks:s'.toks=s.toks
 deep:s'.deep=s.deep
 quiet:s'.quiet=s.quiet
 bl:s.bl<+:s'.bl
 ex:s.ex<+:s'.ex
 fr:Frt s'=F
def Mv.tw{s s':PS}{F:List KT}(h:Mv s s' F):Mw s s' F:=⟨h.toks,h.deep,h.quiet,by rw[h.bl];exact mI _,h.ex,h.fr⟩
def Mw.trans{s s1 c:PS}{F G:List KT}(b:Mw s s1 F)(a:Mw s1 c G):Mw s c G:=
 ⟨a.toks.trans b.toks,a.deep.trans b.deep,a.quiet.trans b.quiet,b.bl.trans a.bl,b.ex.trans a.ex,a.fr⟩
def aFB{s a:PS}{q:Bool}{F:List KT}(h:Mw {s with deep:=s.deep+1,quiet:=q} a F):Mw s {a with deep:=s.deep,quiet:=s.quiet} F:=
 ⟨h.toks,rfl,rfl,h.bl,h.ex,h.fr⟩
def Og(ls:List Str):List KT:=ls.map λl=>(3,Syn.plainM l)
def FE(τ:Nat->List KT)(a:Atr):List KT:=(1,a.n)::(4,[61])::(τ a.e++[(5,[10])])
def Sf(τ β:Nat->List KT)(b:Blk):List KT:=(1,b.typ)::(Og b.labels++(4,[123])::(5,[10])::((b.attrs.flatMap (FE τ))++((b.blocks.flatMap λk=>β k++[(5,[10])])++[(4,[125])])))
def IJ{N:Nat}{k:Int}{w:Str}{F:List KT}(f:k≠3):∀(ls:List Str) (n:Nat) (s:PS) (out:List Str),ls.length<n->Frt s=Og ls++(k,w)::F->s.quiet=false->OKR N (pL n s out) (λx s'=>Mv s s' ((k,w)::F)/\x=out++ls)
 |[],n,s,out,e,a,b=>by
  obtain⟨n,rfl⟩:∃m,n=m+1:=⟨n-1,by omega⟩
  have a:Frt s=(k,w)::F:=a
  obtain⟨g,c,c3⟩:=jX a (.inl b)
  rw[pL,c,aE f,g]
  exact⟨⟨rfl,rfl,rfl,rfl,mI _,a⟩,by simp⟩
 |l::ls,n,s,out,e,a,b=>by
  obtain⟨n,rfl⟩:∃m,n=m+1:=⟨n-1,by omega⟩
  have a:Frt s=(3,Syn.plainM l)::(Og ls++(k,w)::F):=a
  obtain⟨g,c,c3⟩:=jX a (.inl b)
  rw[pL,c,aO rfl,Kw a (.inl b) (by decide),IB c3]
  refine(IJ f ls n (step1 s) (out++[l]) (by simp only[aA]at e;omega) (gZ a) b).mono λx s' d=>?_
  exact⟨(gJ a).trans d.1,by rw[d.2];simp⟩
section
variable{N:Nat}{f:Fl}{τ β:Nat->List KT}{E B:PS->R Nat}
def AtP(N:Nat)(f:Fl)(E:PS->R Nat)(d:Nat)(τ:Nat->List KT)(a:Atr):Prop:=∀(s:PS) (F:List KT),Frt s=τ a.e++(5,[10])::F->s.deep=d->s.quiet=false->OKR N (E s) (λx s'=>Mv s s' ((5,[10])::F)/\AlE f.ex s'.ex a.e x)
def BlP(N:Nat)(f:Fl)(B:PS->R Nat)(d:Nat)(β:Nat->List KT)(k:Nat):Prop:=(∃t u,β k=(1,t)::u/\(∃k2 w2 v,u=(k2,w2)::v/\¬(k2=4/\w2=[61])))/\∀(s:PS) (F:List KT),Frt s=β k++(5,[10])::F->s.deep=d->s.quiet=false->OKR N (B s) (λx s'=>Mw s s' ((5,[10])::F)/\AlB f s'.ex s'.bl k x)
theorem DI{d:Nat}{F:List KT}:∀(ks:List Nat),(∀k∈ks,BlP N f B d β k)->∀(n:Nat) (s:PS) (us:List Atr) (j:List Atr) (done bs:List Nat),ks.length<n->Frt s=(ks.flatMap λk=>β k++[(5,[10])])++(4,[125])::F->s.deep=d->s.quiet=false->AtA f.ex s.ex j us->BLs f s.ex s.bl done bs->
  OKR N (pD E B n s us bs) (λx s'=>Mw s s' F/\AtA f.ex s'.ex j x.1/\BLs f s'.ex s'.bl (done++ks) x.2)
 |[],_,n,s,us,j,done,bs,L,g,hd,h,H,G=>by
  obtain⟨n,rfl⟩:∃m,n=m+1:=⟨n-1,by omega⟩
  have g:Frt s=(4,[125])::F:=g
  rw[pD,oY g,aO rfl,dL]
  exact⟨(gJ g).tw,H,G⟩
 |k::ks,D,n,s,us,j,done,bs,L,g,hd,h,H,G=>by
  obtain⟨n,rfl⟩:∃m,n=m+1:=⟨n-1,by omega⟩
  obtain⟨⟨t,u,I,k2,w2,v,T,C⟩,Q⟩:=D k (by simp)
  have l:Frt s=β k++(5,[10])::((ks.flatMap λk=>β k++[(5,[10])])++(4,[125])::F):=by rw[g];simp
  have a:Frt s=(1,t)::(k2,w2)::(v++(5,[10])::((ks.flatMap λk=>β k++[(5,[10])])++(4,[125])::F)):=by rw[l,I,T];rfl
  obtain⟨W,a1,a2,a3⟩:=Ay a (.inl h) (by decide)
  have A:=gZ a
  rw[pD,nT a (.inl h) (λe=>absurd e.1 (by decide)),aE (λe=>by cases e)]
  dsimp only
  have c:OKR N (vX E B s us bs) (λx s'=>Mw s s' ((5,[10])::((ks.flatMap λk=>β k++[(5,[10])])++(4,[125])::F))/\x.1=us/\∃y,x.2=bs++[y]/\AlB f s'.ex s'.bl k y):=by
   unfold vX;rw[a1];show OKR N (if(cN (step1 s) [61]).1=true then _ else _) _;rw[nT A (show Qt (step1 s) k2 from .inl h) C,aE (λe=>by cases e)];have es:({step1 s with i:=(step1 s).i-1}:PS)=s:=rfl;dsimp only;rw[es];exact(Q s _ l hd h).bind λx s' p=>⟨p.1,rfl,x,rfl,p.2⟩
  refine c.bind λx K p=>?_;obtain⟨m1,ex1,y,S,O⟩:=p;have b:K.quiet=false:=m1.quiet.trans h;obtain⟨V,U,c3⟩:=jX m1.fr (.inl b);rw[U,aE (λe=>e.1 rfl),V];obtain⟨q,J,M,en,R⟩:∃q J M,(ks.flatMap λk=>β k++[((5:Int),([10]:Str))])++(4,[125])::F=(q,J)::M/\q≠5:=by
   cases ks with
   |nil=>exact⟨4,[125],F,rfl,by decide⟩
   |cons k' ks'=>
    obtain⟨⟨t,u,I,_⟩,_⟩:=D k' (by simp);refine⟨1,t,u++[(5,[10])]++((ks'.flatMap λk=>β k++[((5:Int),([10]:Str))])++(4,[125])::F),?_,by decide⟩;rw[dC,I];simp
  have o:=m1.fr;rw[en]at o;rw[DU o R b];have w:=gZ m1.fr;rw[ex1,S];have:=DI (F:=F) ks (λk P=>D k (aF _ P)) n (step1 K) us j (done++[k]) (bs++[y]) (by simp only[aA]at L;omega) w (m1.deep.trans hd) b (H.mono m1.ex) ((G.mono m1.ex m1.bl).snoc O);refine this.mono λz s' r=>?_;exact⟨(m1.trans (gJ m1.fr).tw).trans r.1,r.2.1,by have:=r.2.2;rwa[cD]at this⟩
theorem IQ{d:Nat}{F:List KT}{ks:List Nat}(H:∀k∈ks,BlP N f B d β k):∀(al:List Atr),(∀a∈al,AtP N f E d τ a)->∀(n:Nat) (s:PS) (us j:List Atr),al.length+ks.length<n->Frt s=(al.flatMap (FE τ))++((ks.flatMap λk=>β k++[(5,[10])])++(4,[125])::F)->s.deep=d->s.quiet=false->AtA f.ex s.ex j us->
  OKR N (pD E B n s us []) (λx s'=>Mw s s' F/\AtA f.ex s'.ex (j++al) x.1/\BLs f s'.ex s'.bl ks x.2)
 |[],_,n,s,us,j,D,C,hd,l,I=>by
  have:=DI (F:=F) (E:=E) ks H n s us j [] [] (by simpa using D) C hd l I (BLs.nil _ _ _)
  simpa using this
 |a::al,M,n,s,us,j,D,C,hd,l,I=>by
  obtain⟨n,rfl⟩:∃m,n=m+1:=⟨n-1,by omega⟩
  have Q:=M a (by simp)
  generalize G:(al.flatMap (FE τ))++((ks.flatMap λk=>β k++[((5:Int),([10]:Str))])++(4,[125])::F)=X0
  have b:Frt s=(1,a.n)::(4,[61])::(τ a.e++(5,[10])::X0):=by rw[C,<-G];simp[FE]
  obtain⟨K,a1,a2,a3⟩:=Ay b (.inl l) (by decide)
  have c:=gZ b
  have A:=gZ c
  rw[pD,nT b (.inl l) (λe=>absurd e.1 (by decide)),aE (λe=>by cases e)]
  dsimp only
  have i:OKR N (vX E B s us []) (λx s'=>Mw s s' ((5,[10])::X0)/\x.2=[]/\∃y,x.1=us++[y]/\y.n=a.n/\AlE f.ex s'.ex a.e y.e):=by
   unfold vX;rw[a1];show OKR N (if(cN (step1 s) [61]).1=true then _ else _) _;rw[oY c,aO rfl];exact(Q _ X0 A hd l).bind λx s' q=>⟨(((gJ b).trans (gJ c)).trans q.1).tw,rfl,⟨K.t,x,K.a⟩,rfl,a3,q.2⟩
  refine i.bind λx L q=>?_;obtain⟨m1,ex2,y,S,w,P⟩:=q;have g:L.quiet=false:=m1.quiet.trans l;obtain⟨V,U,c3⟩:=jX m1.fr (.inl g);rw[U,aE (λe=>e.1 rfl),V];obtain⟨r,J,O,en,R⟩:∃r J O,X0=(r,J)::O/\r≠5:=by
   rw[<-G];cases al with
   |cons a' al'=>exact⟨1,a'.n,_,rfl,by decide⟩
   |nil=>
    cases ks with
    |nil=>exact⟨4,[125],F,rfl,by decide⟩
    |cons k' ks'=>
     obtain⟨⟨t,u,T,_⟩,_⟩:=H k' (by simp);refine⟨1,t,u++[(5,[10])]++((ks'.flatMap λk=>β k++[((5:Int),([10]:Str))])++(4,[125])::F),?_,by decide⟩;rw[uC,dS,dC,T];simp
  have p:=m1.fr;rw[en]at p;rw[DU p R g,ex2,S];have o:=gZ m1.fr;rw[<-G]at o;have:=IQ (F:=F) H al (λa h=>M a (aF _ h)) n (step1 L) (us++[y]) (j++[a]) (by simp only[aA]at D;omega) o (m1.deep.trans hd) g ((I.mono m1.ex).snoc w P);refine this.mono λz s' v=>?_;exact⟨(m1.trans (gJ m1.fr).tw).trans v.1,by have:=v.2.1;rwa[cD]at this,v.2.2⟩
def VG(b:Blk):b.labels.length+b.attrs.length+b.blocks.length+3<=(Sf τ β b).length:=by
 have d:∀l:List Atr,l.length<=(l.flatMap (FE τ)).length:=λl=>by
  induction l with
  |nil=>exact cZ _
  |cons a l ih=>
   have e:1<=(FE τ a).length:=by simp[FE]
   simp only[dC,aB,aA];omega
 have c:∀l:List Nat,l.length<=(l.flatMap λk=>β k++[((5:Int),([10]:Str))]).length:=λl=>by
  induction l with
  |nil=>exact cZ _
  |cons a l ih=>simp only[dC,aB,aA]at ih⊢;omega
 have:=d b.attrs;have:=c b.blocks;unfold Sf Og;simp only[aA,aB,cK,aD];omega
theorem VD{d:Nat}{b:Blk}(hi:f.bl[i]?=some b)(hA:∀m,d=m+1->∀a∈b.attrs,AtP N f (mM m).1 (24-m) τ a)(hB:∀m,d=m+1->∀k∈b.blocks,BlP N f (uN m) (24-m) β k){s:PS}{F:List KT}(Q:Frt s=Sf τ β b++(5,[10])::F)(hd:s.deep+d=24)(D:s.quiet=false):OKR N (uN d s) (λx s'=>Mw s s' ((5,[10])::F)/\AlB f s'.ex s'.bl i x):=by
 have T:=VG (τ:=τ) (β:=β) b;have G:=Hl Q;simp only[aB,aA]at G;have g:Frt s=(1,b.typ)::(Og b.labels++(4,[123])::(5,[10])::((b.attrs.flatMap (FE τ))++((b.blocks.flatMap λk=>β k++[(5,[10])])++(4,[125])::(5,[10])::F))):=by rw[Q];simp[Sf]
 generalize U:(b.attrs.flatMap (FE τ))++((b.blocks.flatMap λk=>β k++[((5:Int),([10]:Str))])++(4,[125])::(5,[10])::F)=X0 at g;obtain⟨y,a1,a2,a3⟩:=Ay g (.inl D) (by decide);have C:=gZ g;have key:∀(E B:PS->R Nat),(∀m,d=m+1->(∀a∈b.attrs,AtP N f E (24-m) τ a)/\∀k∈b.blocks,BlP N f B (24-m) β k)->OKR N (tU E B s) (λx s'=>Mw s s' ((5,[10])::F)/\AlB f s'.ex s'.bl i x):=by
  intro E B K;unfold tU;rw[a1];refine(IJ (N:=N) (k:=4) (w:=[123]) (F:=(5,[10])::X0) (by decide) b.labels (s.toks.length+1) (step1 s) [] (by omega) C D).bind λls l o=>?_;obtain⟨m2,M⟩:=o;have Y:l.quiet=false:=m2.quiet.trans D;have H:l.deep+d=24:=by rw[m2.deep];exact hd
  rw[oP m2.fr,aE (λe=>by cases e),(jX m2.fr (qt4 _)).1];refine(nQ (s:=l) H (P:=λx c=>Mw {l with deep:=l.deep+1,quiet:=false} c ((5,[10])::F)/\AtA f.ex c.ex b.attrs x.1/\BLs f c.ex c.bl b.blocks x.2) λm Z=>?_).bind λx s' o=>?_
  .obtain⟨hE,r⟩:=K m Z;have W:Frt ({l with deep:=l.deep+1,quiet:=false}:PS)=(4,[123])::(5,[10])::X0:=m2.fr;have L:=gZ W;obtain⟨A,O,X,en,h5⟩:∃A O X,X0=(A,O)::X/\A≠5:=by
    rw[<-U];cases b.attrs with
    |cons a' al'=>exact⟨1,a'.n,_,rfl,by decide⟩
    |nil=>
     cases I:b.blocks with
     |nil=>exact⟨4,[125],_,rfl,by decide⟩
     |cons k' ks'=>
      obtain⟨⟨t,u,e1,_⟩,_⟩:=r k' (by rw[I];simp);refine⟨1,t,u++[(5,[10])]++((ks'.flatMap λk=>β k++[((5:Int),([10]:Str))])++(4,[125])::(5,[10])::F),?_,by decide⟩;rw[uC,dS,dC,e1];simp
   have v:=L;rw[en]at v;rw[DU v h5 rfl];have V:=gZ L;rw[<-U]at V;refine(IQ (F:=(5,[10])::F) r b.attrs hE (s.toks.length+1) _ [] [] (by omega) V (by show l.deep+1=24-m;omega) rfl (AtA.nil _ _)).mono λx c o=>?_;exact⟨((gJ W).trans (gJ L)).tw.trans o.1,by simpa using o.2.1,o.2.2⟩
  .obtain⟨c,⟨m3,J,q⟩,rfl⟩:=o;have z:=aFB m3;have p:=((gJ g).trans m2).tw.trans z;have S:c.bl<+:c.bl++[⟨y.t,ls,x.1,x.2,y.a⟩]:=lZ _ _;refine⟨⟨p.toks,p.deep,p.quiet,p.bl.trans S,p.ex,p.fr⟩,?_⟩;refine .mk hi (b:=⟨y.t,ls,x.1,x.2,y.a⟩) ?_ a3 (by rw[M];rfl) J q.1 λj hj=>(q.2 j hj).mono (mI _) S;show(c.bl++[_])[c.bl.length]?=_;rw[dB (aQ _),yQ];rfl
 cases d with
 |zero=>exact key dead dead λm h=>by cases h
 |succ m=>exact key (mM m).1 (uN m) λm' h=>by injection h with h;subst h;exact⟨hA m rfl,hB m rfl⟩
end
def Df{α:Type}{N:Nat}{S:α->Str}{T:α->List KT}:∀l:List α,(∀a∈l,∀r,Sg N (S a) (T a) r)->∀r,Sg N ((l.map S).flatten) (l.flatMap T) r
 |[],_,r=>Sg.nil N r
 |a::l,h,r=>by
  rw[cJ,iG,dC]
  exact(h a (by simp) _).app (Df l (λb c=>h b (aF _ c)) r)
def AY{α:Type}{S:α->Str}:∀l:List α,(∀a∈l,Utf (S a))->Utf ((l.map S).flatten)
 |[],_=>.nil
 |a::l,h=>by
  rw[cJ,iG]
  exact(h a (by simp)).app (AY l λb c=>h b (aF _ c))
def DF{α:Type}{S:α->Str}:∀{l:List α} {a:α},a∈l->(S a).length<=((l.map S).flatten).length
 |b::l,a,h=>by
  rw[cJ,iG,aB]
  rcases aX.1 h with rfl|h
  .omega
  .have:=DF (S:=S) h;omega
def BM(N:Nat)(r:Str):∀n,Sg N (inM n) [] r
 |0=>Sg.nil N r
 |n+1=>by
  have e:inM (n+1)=[32]++([32]++inM n):=by unfold inM;rw[Gm,iG];rfl
  rw[e]
  exact Sg.app (T:=[]) (U:=[]) (tG N _) (Sg.app (T:=[]) (U:=[]) (tG N _) (BM N r n))
def Cy(n:Nat):Utf (inM n):=mD λc a=>by
 unfold inM at a
 obtain⟨l,b,a⟩:=yS.1 a
 rw[List.eq_of_mem_replicate b]at a
 simp only[aX,bU,fT]at a
 rcases a with rfl|rfl<;>decide
def xS(h:s.all (λc=>decide (c.toNat<128))=true):Utf s:=mD λc a=>by simpa using jB.1 h c a
structure PBk(N:Nat)(f:Fl)(i:Nat)(T:List KT):Prop where
 sg:∀n r,Sg N (lY f i n) (T++[(5,[10])]) r
 utf:∀n,Utf (lY f i n)
 hd:∃t u,T=(1,t)::u/\(∃k2 w2 v,u=(k2,w2)::v/\¬(k2=4/\w2=[61]))
 go:∀n,(lY f i n).length<=N->∀(d:Nat) (s:PS) (F:List KT),Frt s=T++(5,[10])::F->s.deep+d=24->s.quiet=false->OKR N (uN d s) (λx s'=>Mw s s' ((5,[10])::F)/\AlB f s'.ex s'.bl i x)
section
variable{N:Nat}{f:Fl}
def aCn{τ:Nat->List KT}{a:Atr}(c:sZ a.n)(b:PXp N f a.e (τ a.e))(r:Str):Sg N (xN f n a) (FE τ a) r:=by
 have d:Sg N (eO f a.e++[10]) (τ a.e++[(5,[10])]) r:=(b.pc.sg _ (Ho (by decide) _)).app (To N r);have g:Sg N ([61]++([32]++(eO f a.e++[10]))) ([(4,[61])]++([]++(τ a.e++[(5,[10])]))) r:=(aBG (w:=[61]) (by decide) _).app ((tG N _).app d);have h:Sg N (a.n++([32]++([61]++([32]++(eO f a.e++[10]))))) ([(1,a.n)]++([]++([(4,[61])]++([]++(τ a.e++[(5,[10])]))))) r:=(JD c (Uh (by decide) _)).app ((tG N _).app g);have i:=(BM N _ n).app ((tG N _).app ((tG N _).app h));unfold xN FE;simpa using i
def We{T:List KT}{a:Atr}(c:sZ a.n)(b:PXp N f a.e T):Utf (xN f n a):=by
 unfold xN;exact(((((Cy n).app (xS (by decide))).app (mD λd g=>(Dy (c.al d g)).1)).app (xS (by decide))).app b.pc.utf).app (xS (by decide))
def PN(l:List Str):vW l=(l.map λs=>[32]++([34]++Syn.plainM s++[34])).flatten:=by
 unfold vW;congr 1
def Zh(l:List Str):Og l=l.flatMap λs=>[(3,Syn.plainM s)]:=by
 unfold Og;induction l with
 |nil=>rfl
 |cons a l ih=>rw[cJ,dC,ih];rfl
theorem aDA(I:SA f.ex)(z:wC f)(J:∀b∈f.bl,SB b)(E:∀b∈f.bl,∀a∈b.attrs,a.e<f.ex.length):∀i,i<f.bl.length->∃T,PBk N f i T:=by
 obtain⟨τ,hτ⟩:∃τ:Nat->List KT,∀u,u<f.ex.length->PXp N f u (τ u):=by
  classical
  have t:∀u,u<f.ex.length->∃T,PXp N f u T:=aCA I z.1;exact⟨λu=>if h:∃T,PXp N f u T then Classical.choose h else [],λu B=>by
   have h:=t u B;simp only[dif_pos h];exact CR h⟩
 intro i;induction i using Nat.strongRecOn with
 |ind i ih=>
  intro C;obtain⟨b,v⟩:∃b,f.bl[i]?=some b:=⟨_,aH C⟩;have o:=bA v;have g:=J b o;have y:=z.2 i b v;obtain⟨β,hβ⟩:∃β:Nat->List KT,∀k∈b.blocks,PBk N f k (β k):=by
   classical
   have t:∀k∈b.blocks,∃T,PBk N f k T:=λk j=>ih k (y k j) (by have:=y k j;omega);exact⟨λu=>if h:∃T,PBk N f u T then Classical.choose h else [],λu B=>by
    have h:=t u B;simp only[dif_pos h];exact CR h⟩
  clear ih;refine⟨Sf τ β b,?_,?_,?_,?_⟩
  .intro n r;rw[xM z.2 v];have K:Sg N (inM n++([125]++[10])) ([]++([(4,[125])]++[(5,[10])])) r:=(BM N _ n).app ((De (by decide) _).app (To N r));have L:=(Df (S:=λk=>lY f k (n+1)) (T:=λk=>β k++[(5,[10])]) b.blocks (λk j r=>(hβ k j).sg (n+1) r) _).app K;have M:=(Df (S:=xN f n) (T:=FE τ) b.attrs (λa q r=>aCn (g.at_ a q) (hτ a.e (E b o a q)) r) _).app L;have O:=(tG N _).app ((De (N:=N) (c:=123) (by decide) _).app ((To N _).app M));have P:=(Df (S:=λs=>[32]++([34]++Syn.plainM s++[34])) (T:=λs=>[]++[(3,Syn.plainM s)]) b.labels (λs p r=>(tG N _).app (Ph (CZ s) r)) _).app O;have Q:=(BM N _ n).app ((JD (N:=N) g.ty (by
    intro c x e;cases A:b.labels with
    |nil=>rw[A]at e;injection e with e _;rw[<-e];decide
    |cons l ls=>rw[A]at e;injection e with e _;rw[<-e];decide)).app P)
   unfold Sf;rw[PN,Zh];simpa using Q
  .intro n;rw[xM z.2 v];refine(((((((Cy n).app (mD λd hd=>(Dy (g.ty.al d hd)).1)).app ?_).app (xS (by decide))).app (AY b.attrs λa q=>We (g.at_ a q) (hτ a.e (E b o a q)))).app (AY b.blocks λk j=>(hβ k j).utf (n+1))).app (Cy n)).app (xS (by decide));rw[PN];exact AY b.labels λs p=>(xS (by decide)).app (((xS (by decide)).app (BV (g.lb s p))).app (xS (by decide)))
  .refine⟨b.typ,_,rfl,?_⟩;cases b.labels with
   |nil=>exact⟨4,[123],_,rfl,by decide⟩
   |cons l ls=>exact⟨3,Syn.plainM l,_,rfl,λe=>absurd e.1 (by decide)⟩
  .intro n D d s F p hd w;rw[xM z.2 v]at D;simp only[aB]at D;refine VD v (λm H a q=>?_) (λm H k j=>⟨(hβ k j).hd,λs F p hd w=>?_⟩) p hd w
   .intro s F p hd w;have G:=hτ a.e (E b o a q);have A:(eO f a.e).length<=N:=by
     have:=DF (S:=xN f n) q;unfold xN at this;simp only[aB]at this;unfold xN at D;omega
    exact(G.pp A).expr G.ht p (λe=>absurd e (by decide)) (.inl w) (by omega)
   .refine(hβ k j).go (n+1) ?_ m s F p (by omega) w;have:=DF (S:=λk=>lY f k (n+1)) j;omega
theorem OX{β:Nat->List KT}:∀(ks:List Nat),(∀k∈ks,PBk N f k (β k)/\(lY f k 0).length<=N)->∀(n:Nat) (s:PS) (done out:List Nat),ks.length<n->Frt s=(ks.flatMap λk=>β k++[(5,[10])])++[(0,[])]->s.deep=0->s.quiet=false->BLs f s.ex s.bl done out->
  OKR N (wR n s out) (λx s'=>BLs f s'.ex s'.bl (done++ks) x)
 |[],_,n,s,done,out,w,c,hd,d,l=>by
  obtain⟨n,rfl⟩:∃m,n=m+1:=⟨n-1,by omega⟩
  have c:Frt s=(0,[])::[]:=c
  obtain⟨q,p,c3⟩:=jX c (.inl d)
  rw[wR,p,aO rfl,q,dL]
  exact l
 |k::ks,j,n,s,done,out,w,c,hd,d,l=>by
  obtain⟨n,rfl⟩:∃m,n=m+1:=⟨n-1,by omega⟩
  obtain⟨y,C⟩:=j k (by simp)
  obtain⟨t,u,o,_⟩:=y.hd
  have b:Frt s=β k++(5,[10])::((ks.flatMap λk=>β k++[(5,[10])])++[(0,[])]):=by rw[c];simp
  have i:Frt s=(1,t)::(u++(5,[10])::((ks.flatMap λk=>β k++[(5,[10])])++[(0,[])])):=by rw[b,o];rfl
  obtain⟨q,p,c3⟩:=jX i (.inl d)
  rw[wR,p,aE (by decide),q]
  refine(y.go 0 C 24 s _ b (by omega) d).bind λx v ⟨m1,A⟩=>?_
  have a:v.quiet=false:=m1.quiet.trans d
  obtain⟨d1,d2,d3⟩:=jX m1.fr (.inl a)
  rw[d2,aE (λe=>e.1 rfl),d1]
  obtain⟨h,r,z,en,D⟩:∃h r z,(ks.flatMap λk=>β k++[((5:Int),([10]:Str))])++[(0,[])]=(h,r)::z/\h≠5:=by
   cases ks with
   |nil=>exact⟨0,[],[],rfl,by decide⟩
   |cons k' ks'=>
    obtain⟨t,u,o,_⟩:=(j k' (by simp)).1.hd;refine⟨1,t,u++[(5,[10])]++((ks'.flatMap λk=>β k++[((5:Int),([10]:Str))])++[(0,[])]),?_,by decide⟩;rw[dC,o];simp
  have g:=m1.fr;rw[en]at g;rw[DU g D a];have:=OX ks (λk B=>j k (aF _ B)) n (step1 v) (done++[k]) (out++[x]) (by simp only[aA]at w;omega) (gZ m1.fr) (m1.deep.trans hd) a ((l.mono m1.ex m1.bl).snoc A);rwa[cD]at this
end
def QJ{f g:Fl}{a b:Ex}{l:List Str}(e:b.k=a.k)(c:b.t=a.t)(h:b.keys=a.keys)(d:Af f a l l.length=Af g b l l.length):lL f a l=lL g b l:=by
 unfold lL;rw[e,c,d]
def RG{f g:Fl}(r:wC f)(q:wC g){x:Nat}(h:AlE f.ex g.ex i x):eO f i=eO g x/\(f.ex.getD i ⟨0,[],[],[],0⟩).t=(g.ex.getD x ⟨0,[],[],[],0⟩).t:=by
 induction h with
 |@mk i x a b p o n l e m h ih=>
  refine⟨?_,by rw[aM,aM,p,o];exact l.symm⟩;rw[DX r.1 p,DX q.1 o];have d:lQ a (eO f)=lQ b (eO g):=by
   unfold lQ;rw[m];apply gS;intro k c;rw[gW]at c;unfold CL;rw[n,e,(ih k c).1]
  rw[d];refine QJ n l e ?_;unfold Af;congr 1;apply gS;intro k c;rw[gW]at c;have j:k<a.args.length:=by
   unfold lQ at c;rw[cK,nZ,m]at c;exact c
  rw[e,(ih k j).2]
def OH{f g:Fl}(l:wC f)(e:wC g){x:Nat}(h:AlB f g.ex g.bl i x):∀n,lY f i n=lY g x n:=by
 induction h with
 |@mk i x a b u t q r m s h ih=>
  intro n;rw[xM l.2 u,xM e.2 t,q,r];have w:a.attrs.map (xN f n)=b.attrs.map (xN g n):=by
   apply rM (by simp[m.1]);intro j c d;simp only[cK]at c d;rw[uB,uB];obtain⟨p,o⟩:=m.2 j _ _ (aH c) (aH d);unfold xN;rw[p,(RG l e o).1]
  have v:a.blocks.map (λk=>lY f k (n+1))=b.blocks.map (λk=>lY g k (n+1)):=by
   apply rM (by simp[s]);intro j c d;simp only[cK]at c d;rw[uB,uB];have:=ih j c (n+1);rw[aM,aM,aH c,aH d]at this;exact this
  rw[w,v]
def sV{t:Str}{f:Fl}(h:lS t=.ok f):wC f/\(∀b∈f.bl,∀a∈b.attrs,a.e<f.ex.length)/\∀k∈f.top,k<f.bl.length:=by
 have l:=uW t;rw[h]at l;obtain⟨_,f1,f2,_⟩:=l;have d:(exL f.ex).length=f.ex.length:=by simp[exL]
 have g:(blL f.bl).length=f.bl.length:=by simp[blL]
 refine⟨⟨λi e n a c=>f1.ahead i e.args (by unfold exL;rw[dV,n];rfl) a c,λi b j a c=>f2.ahead i b.blocks (by unfold blL;rw[dV,j];rfl) a c⟩,λb j a c=>?_,λk m=>by have:=f2.low k m;rwa[g]at this⟩;have:=f1.low a.e (by unfold vY;exact yU.2 ⟨b,j,fL.2 ⟨a,c,rfl⟩⟩);rwa[d]at this
theorem OI{t:Str}{f:Fl}(h:lS t=.ok f):match lS (nB f)with
  |.bad c _=>Far (nB f).length c
  |.ok g=>BLs f g.ex g.bl f.top g.top/\nB g=nB f:=by
 obtain⟨G,J⟩:=Bm h;obtain⟨A,I,F⟩:=sV h;generalize H:(nB f).length=N;obtain⟨β,hβ⟩:∃β:Nat->List KT,∀k∈f.top,PBk N f k (β k):=by
  classical
  have p:∀k∈f.top,∃T,PBk N f k T:=λk d=>aDA G A J I k (F k d);exact⟨λu=>if h:∃T,PBk N f u T then Classical.choose h else [],λu D=>by
   have h:=p u D;simp only[dif_pos h];exact CR h⟩
 have q:Sg N (nB f) (f.top.flatMap λk=>β k++[(5,[10])]) []:=Df f.top (λk d r=>(hβ k d).sg 0 r) [];have b:=Li q (AY f.top λk d=>(hβ k d).utf 0) (by omega);have key:match lS (nB f)with
  |.bad c _=>Far N c
  |.ok g=>BLs f g.ex g.bl f.top g.top:=by
  unfold lS;cases z:mS (nB f)with
  |bad c a=>rw[z]at b;exact b
  |ok l=>
   rw[z]at b;have b:l.map kt=(f.top.flatMap λk=>β k++[(5,[10])])++[(0,[])]:=b;have B:Frt (⟨l,0,0,0,false,[],[]⟩:PS)=(f.top.flatMap λk=>β k++[(5,[10])])++[(0,[])]:=b;obtain⟨n,w,C,en,K⟩:∃n w C,(f.top.flatMap λk=>β k++[((5:Int),([10]:Str))])++[(0,[])]=(n,w)::C/\n≠5:=by
    cases E:f.top with
    |nil=>exact⟨0,[],[],rfl,by decide⟩
    |cons k' ks'=>
     obtain⟨t,u,O,_⟩:=(hβ k' (by rw[E];simp)).hd;refine⟨1,t,u++[(5,[10])]++((ks'.flatMap λk=>β k++[((5:Int),([10]:Str))])++[(0,[])]),?_,by decide⟩;rw[dC,O];simp
   have m:=B;rw[en]at m;simp only;rw[DR m K];have e:f.top.length<l.length+1:=by
    have M:=congrArg List.length b;rw[cK,aB]at M;have L:∀l:List Nat,l.length<=(l.flatMap λk=>β k++[((5:Int),([10]:Str))]).length:=λl=>by
     induction l with
     |nil=>exact cZ _
     |cons a l ih=>simp only[dC,aB,aA]at ih⊢;omega
    have:=L f.top;omega
   have:=OX f.top (λk d=>⟨hβ k d,by have:=DF (S:=λi=>lY f i 0) d;unfold nB at H;omega⟩) (l.length+1) _ [] [] e B rfl rfl (BLs.nil f [] []);cases y:wR (l.length+1) ⟨l,0,0,0,false,[],[]⟩ []with
   |err c a=>rw[y]at this;exact this
   |ok top s'=>rw[y]at this;exact this
 cases s:lS (nB f)with
 |bad c a=>rw[s]at key;exact key
 |ok g=>
  rw[s]at key;refine⟨key,?_⟩;have v:=(sV s).1;unfold nB;congr 1;apply rM (by simp[key.1]);intro j x o;simp only[cK]at x o;rw[uB,uB];have:=OH A v (key.2 j o) 0;rw[aM,aM,aH x,aH o]at this;exact this.symm
end
end Go.Proofs.YtjblfcfdeaagpaaGreatDoor
namespace Go.Cfg
section
open Go Go.Eng Go.Lex Go.Syn
structure Vr where
 n:Str
 d:Int
 a:Int
deriving DecidableEq
structure Rs where
 ty:Str
 n:Str
 attrs:List Atr
 count:Int
 each:Int
 swap:Bool
 prev:Bool
 deps:List Str
 a:Int
deriving DecidableEq
structure Cl where
 n:Str
 mod:Nat
 args:List Atr
 a:Int
deriving DecidableEq
structure Md where
 dir:Str
 fl:Fl
 vars:List Vr
 locs:List Atr
 outs:List Atr
 res:List Rs
 calls:List Cl
deriving DecidableEq
def As:Md:=⟨[],⟨[],[],[]⟩,[],[],[],[],[]⟩
structure MS where
 m:Md
 src:List Str
deriving DecidableEq
inductive RC (α:Type) where
 |ok (x:α)
 |bad (c a:Int)
def RC.bind{α β:Type}(r:RC α)(f:α->RC β):RC β:=match r with
 |.ok x=>f x
 |.bad c a=>.bad c a
def nM:Str:=[109,97,105,110,46,104,99,108]
def Aj:Str:=[108,111,99,97,108,115]
def oM:Str:=[118,97,114,105,97,98,108,101]
def rP:Str:=[111,117,116,112,117,116]
def tI:Str:=[109,111,100,117,108,101]
def lN:Str:=[114,101,115,111,117,114,99,101]
def Ln:Str:=[100,101,102,97,117,108,116]
def Tr:Str:=[118,97,108,117,101]
def sId:Str:=[105,100]
def Bh:Str:=[99,111,117,110,116]
def zD:Str:=[102,111,114,95,101,97,99,104]
def Bg:Str:=[100,101,112,101,110,100,115,95,111,110]
def Fb:Str:=[108,105,102,101,99,121,99,108,101]
def Im:Str:=[99,114,101,97,116,101,95,98,101,102,111,114,101,95,100,101,115,116,114,111,121]
def Lm:Str:=[112,114,101,118,101,110,116,95,100,101,115,116,114,111,121]
def Dj:Str:=[115,111,117,114,99,101]
def aHe:Str:=[118,97,114]
def aCr:Str:=[108,111,99,97,108]
def aFo:Str:=[101,97,99,104]
def nR:Str->Bool
 |[]=>false
 |c::r=>gV c&&r.all gY&&decide (r.length<=31)
def yE(t:Str):Int:=if t=Aj then 0 else if t=oM\/t=rP\/t=tI then 1 else if t=lN then 2 else-1
def rQ:List Str:=[aHe,aCr,tI,rP,aFo,Bh]
def jU(f:Fl)(i:Nat):Ex:=f.ex.getD i ⟨0,[],[],[],0⟩
def iY(f:Fl)(i:Nat):Blk:=f.bl.getD i ⟨[],[],[],[],0⟩
def pV(f:Fl):Nat->Nat->Str->Option Str
 |0,_,_=>none
 |n+1,i,s=>
  if(jU f i).k=10 then pV f n ((jU f i).args.getD 0 0) (46::((jU f i).t++s))
  else if(jU f i).k=9 then some ((jU f i).t++s)else none
def xK(f:Fl)(i:Nat):Option Str:=pV f (i+1) i []
def lA{σ:Type}(f:Fl)(take:σ->Atr->Ex->RC σ):List Atr->List Atr->σ->RC σ
 |_,[],s=>.ok s
 |seen,a::l,s=>if seen.any (λx=>decide (x.n=a.n))=true then .bad 2 a.a else(take s a (jU f a.e)).bind (lA f take (seen++[a]) l)
def uE(f:Fl)(b:Blk):RC Unit:=match b.blocks with
 |[]=>.ok ()
 |k::_=>.bad 110 (iY f k).a
def Gp(_:Int)(a:Atr)(_:Ex):RC Int:=if a.n=Ln then .ok a.e else .bad 110 a.a
def oJ(s:MS)(b:Blk):RC MS:=
 (lA s.m.fl Gp [] b.attrs (-1)).bind λd=>(uE s.m.fl b).bind λ_=>
   if s.m.vars.any (λx=>decide (x.n=b.labels.getD 0 []))=true then .bad 2 b.a
   else .ok {s with m:={s.m with vars:=s.m.vars++[⟨b.labels.getD 0 [],d,b.a⟩]}}
def DC(l:List Atr)(a:Atr)(_:Ex):RC (List Atr):=if l.any (λx=>decide (x.n=a.n))=true then .bad 2 a.a else .ok (l++[a])
def sP(s:MS)(b:Blk):RC MS:=
 (lA s.m.fl DC [] b.attrs s.m.locs).bind λl=>(uE s.m.fl b).bind λ_=>.ok {s with m:={s.m with locs:=l}}
def outT(_:Int)(a:Atr)(_:Ex):RC Int:=if a.n=Tr then .ok a.e else .bad 110 a.a
def sL(s:MS)(b:Blk):RC MS:=
 (lA s.m.fl outT [] b.attrs (-1)).bind λd=>(uE s.m.fl b).bind λ_=>
   if d<0 then .bad 110 b.a
   else if s.m.outs.any (λx=>decide (x.n=b.labels.getD 0 []))=true then .bad 2 b.a
   else .ok {s with m:={s.m with outs:=s.m.outs++[⟨b.labels.getD 0 [],d.toNat,b.a⟩]}}
def uD(f:Fl):List Nat->List Str->Option (List Str)
 |[],ds=>some ds
 |x::l,ds=>match xK f x with
  |none=>none
  |some t=>uD f l (ds++[t])
def oneOf(r:Rs)(a:Atr):RC Rs:=if r.count<0\/r.each<0 then .ok r else .bad 110 a.a
def tA(f:Fl)(r:Rs)(a:Atr)(e:Ex):RC Rs:=
 if a.n=sId then .bad 110 a.a
 else if a.n=Bh then oneOf {r with count:=a.e} a
 else if a.n=zD then oneOf {r with each:=a.e} a
 else if a.n=Bg then(match uD f e.args r.deps with
  |none=>.bad 110 a.a
  |some ds=>if e.k=7 then .ok {r with deps:=ds}else .bad 110 a.a)
 else oneOf {r with attrs:=r.attrs++[a]} a
def tO(r:Rs)(a:Atr)(e:Ex):RC Rs:=
 if a.n=Im then(if e.k=2\/e.k=3 then .ok {r with swap:=decide (e.k=2)}else .bad 110 a.a)
 else if a.n=Lm then(if e.k=2\/e.k=3 then .ok {r with prev:=decide (e.k=2)}else .bad 110 a.a)
 else .bad 110 a.a
def uU(f:Fl):Nat->List Nat->Rs->RC Rs
 |_,[],r=>.ok r
 |i,k::l,r=>
  if 0<i/\(iY f k).typ=Fb then .bad 2 (iY f k).a
  else if(iY f k).typ≠Fb\/(iY f k).labels≠[]then .bad 110 (iY f k).a
  else(lA f tO [] (iY f k).attrs r).bind λr=>(uE f (iY f k)).bind λ_=>uU f (i+1) l r
def oN(s:MS)(b:Blk):RC MS:=
 (lA s.m.fl (tA s.m.fl) [] b.attrs ⟨b.labels.getD 0 [],b.labels.getD 1 [],[],-1,-1,false,false,[],b.a⟩).bind λr=>(uU s.m.fl 0 b.blocks r).bind λr=>
   if s.m.res.any (λx=>decide (x.ty=r.ty)&&decide (x.n=r.n))=true then .bad 2 b.a
   else .ok {s with m:={s.m with res:=s.m.res++[r]}}
def vZ(s:List Atr×Str)(a:Atr)(e:Ex):RC (List Atr×Str):=
 if a.n=Dj then(if e.k=5/\nR e.t=true then .ok (s.1,e.t)else .bad 110 a.a)else .ok (s.1++[a],s.2)
def AL(s:MS)(b:Blk):RC MS:=
 (lA s.m.fl vZ [] b.attrs ([],[])).bind λr=>(uE s.m.fl b).bind λ_=>
   if r.2=[]then .bad 110 b.a
   else if s.m.calls.any (λx=>decide (x.n=b.labels.getD 0 []))=true then .bad 2 b.a
   else .ok ⟨{s.m with calls:=s.m.calls++[⟨b.labels.getD 0 [],0,r.1,b.a⟩]},s.src++[r.2]⟩
def blockMc(s:MS)(b:Blk):RC MS:=
 if yE b.typ≠b.labels.length\/b.labels.any (λl=> !nR l)=true\/(b.typ=lN/\b.labels.getD 0 []∈rQ)then .bad 110 b.a
 else if b.typ=oM then oJ s b
 else if b.typ=Aj then sP s b
 else if b.typ=rP then sL s b
 else if b.typ=lN then oN s b
 else if b.typ=tI then AL s b
 else .ok s
def kX:List Nat->MS->RC MS
 |[],s=>.ok s
 |k::l,s=>(blockMc s (iY s.m.fl k)).bind (kX l)
inductive RL (α:Type) where
 |ok (x:α)
 |bad (c:Int) (file:Str) (a:Int)
def BF(vars:List Vr):List Atr->Option Int
 |[]=>none
 |a::l=>if vars.any (λv=>decide (v.n=a.n))=true then BF vars l else some a.a
def Bq(args:List Atr)(vars:List Vr):Bool:=vars.any λv=>decide (v.d<0)&&!args.any (λa=>decide (a.n=v.n))
def lX(sub:Option (Str->List Md->RL (List Md)))(path dir:Str):List (Cl×Str)->List Cl->List Md->RL (List Cl×List Md)
 |[],done,mods=>.ok (done,mods)
 |(c,src)::l,done,mods=>match sub with
  |none=>.bad 111 path c.a
  |some ld=>if mods.length=16 then .bad 111 path c.a else match ld (dir++src++[47]) mods with
   |.bad k p a=>.bad k p a
   |.ok mods'=>match BF (mods'.getD mods.length As).vars c.args with
    |some a=>.bad 80 path a
    |none=>if Bq c.args (mods'.getD mods.length As).vars=true then .bad 110 path c.a
     else lX sub path dir l (done++[{c with mod:=mods.length}]) mods'
def tM(rd:Str->Option Str)(sub:Option (Str->List Md->RL (List Md)))(dir:Str)(mods:List Md):RL (List Md):=
 match rd (dir++nM)with
 |none=>.bad 111 (dir++nM) 0
 |some data=>match lS data with
  |.bad c a=>.bad c (dir++nM) a
  |.ok fl=>match kX fl.top ⟨⟨dir,fl,[],[],[],[],[]⟩,[]⟩with
   |.bad c a=>.bad c (dir++nM) a
   |.ok s=>match lX sub (dir++nM) dir (s.m.calls.zip s.src) [] (mods++[As])with
    |.bad c p a=>.bad c p a
    |.ok (cs,mods')=>.ok (mods'.set mods.length {s.m with calls:=cs})
def tN(rd:Str->Option Str):Nat->Str->List Md->RL (List Md)
 |0=>tM rd none
 |n+1=>tM rd (some (tN rd n))
def bind_ok{r:RC α}{f:α->RC β}{y:β}(h:r.bind f=.ok y):∃x,r=.ok x/\f x=.ok y:=by
 cases r with
 |ok x=>exact⟨x,rfl,h⟩
 |bad c a=>cases h
def pW{σ:Type}{f:Fl}{take:σ->Atr->Ex->RC σ}{P:σ->Prop}:∀(l seen:List Atr) (s s':σ),(∀s a s',a∈l->P s->take s a (jU f a.e)=.ok s'->P s')->P s->lA f take seen l s=.ok s'->P s'
 |[],_,s,s',_,h,e=>by
  simp only[lA]at e
  injection e with e
  exact e▸h
 |a::l,seen,s,s',c,h,e=>by
  simp only[lA]at e
  split at e
  .cases e
  .obtain⟨b,i,g⟩:=bind_ok e
   exact pW l _ b s' (λs a s' d=>c s a s' (aF _ d)) (c s a b bC h i) g
def AOk(f:Fl):Prop:=∀b∈f.bl,∀a∈b.attrs,a.e<f.ex.length
def AOk.at{f:Fl}(h:AOk f)(k:Nat):∀a∈(iY f k).attrs,a.e<f.ex.length:=by
 unfold iY;intro a b;by_cases c:k<f.bl.length
 .rw[aM,aH c]at b;exact h _ (gE c) a b
 .rw[aM,dY (by omega)]at b;cases b
structure ROk(n:Nat)(r:Rs):Prop where
 one:r.count<0\/r.each<0
 cn:r.count<(n:Int)
 en:r.each<(n:Int)
structure MOk(s:MS):Prop where
 vn:(s.m.vars.map (·.n)).Nodup
 ln:(s.m.locs.map (·.n)).Nodup
 on:(s.m.outs.map (·.n)).Nodup
 rn:(s.m.res.map λr=>(r.ty,r.n)).Nodup
 cn:(s.m.calls.map (·.n)).Nodup
 rv:∀r∈s.m.res,nR r.ty=true/\r.ty∉rQ/\ROk s.m.fl.ex.length r
 vd:∀v∈s.m.vars,-1<=v.d/\v.d<(s.m.fl.ex.length:Int)
 sl:s.src.length=s.m.calls.length
 sn:∀d∈s.src,nR d=true
def xB[DecidableEq β]{g:α->β}{l:List α}{x:α}(h:(l.map g).Nodup)(f:¬l.any (λy=>decide (g y=g x))=true):((l++[x]).map g).Nodup:=by
 rw[kT,iE];refine⟨h,by simp,?_⟩;intro a i b c e;simp only[cJ,kA,bO]at c;subst c e;obtain⟨y,d,e⟩:=fL.1 i;exact f (nL.2 ⟨y,d,by simpa using e⟩)
def Jy{s s':MS}{b:Blk}(h:MOk s)(k:∀a∈b.attrs,a.e<s.m.fl.ex.length)(e:oJ s b=.ok s'):MOk s'/\s'.m.fl=s.m.fl/\s'.m.dir=s.m.dir:=by
 unfold oJ at e;obtain⟨d,l,e⟩:=bind_ok e;obtain⟨_,_,e⟩:=bind_ok e;have j:-1<=d/\d<(s.m.fl.ex.length:Int):=by
  refine pW (P:=λd:Int=>-1<=d/\d<(s.m.fl.ex.length:Int)) b.attrs [] (-1) d (λd a n i _ f=>?_) ⟨by omega,by omega⟩ l;simp only[Gp]at f;split at f
  .injection f with f
   have:=k a i;omega
  .cases f
 split at e
 .cases e
 .rename_i g;injection e with e
  subst e;refine⟨⟨xB h.vn g,h.ln,h.on,h.rn,h.cn,h.rv,λv c=>?_,h.sl,h.sn⟩,rfl,rfl⟩;rcases bM.1 c with c|c
  .exact h.vd v c
  .rw[bO.1 c];exact j
def NZ{s s':MS}{b:Blk}(h:MOk s)(e:sP s b=.ok s'):MOk s'/\s'.m.fl=s.m.fl/\s'.m.dir=s.m.dir:=by
 unfold sP at e;obtain⟨l,i,e⟩:=bind_ok e;obtain⟨_,_,e⟩:=bind_ok e;have g:(l.map (·.n)).Nodup:=by
  refine pW (P:=λl:List Atr=>(l.map (·.n)).Nodup) b.attrs [] s.m.locs l (λl a j k f c=>?_) h.ln i;simp only[DC]at c;split at c
  .cases c
  .rename_i d;injection c with c
   subst c;exact xB f d
 injection e with e
 subst e;exact⟨⟨h.vn,g,h.on,h.rn,h.cn,h.rv,h.vd,h.sl,h.sn⟩,rfl,rfl⟩
def NW{s s':MS}{b:Blk}(h:MOk s)(e:sL s b=.ok s'):MOk s'/\s'.m.fl=s.m.fl/\s'.m.dir=s.m.dir:=by
 unfold sL at e;obtain⟨d,c,e⟩:=bind_ok e;obtain⟨_,_,e⟩:=bind_ok e;split at e
 .cases e
 .split at e
  .cases e
  .rename_i a;injection e with e
   subst e;exact⟨⟨h.vn,h.ln,xB h.on a,h.rn,h.cn,h.rv,h.vd,h.sl,h.sn⟩,rfl,rfl⟩
def Uy{f:Fl}{r r':Rs}{a:Atr}{e:Ex}(h:tO r a e=.ok r'):r'.ty=r.ty/\r'.n=r.n/\r'.count=r.count/\r'.each=r.each:=by
 simp only[tO]at h;split at h
 .split at h
  .injection h with h;subst h;exact⟨rfl,rfl,rfl,rfl⟩
  .cases h
 .split at h
  .split at h
   .injection h with h;subst h;exact⟨rfl,rfl,rfl,rfl⟩
   .cases h
  .cases h
def GV{f:Fl}:∀(l:List Nat) (i:Nat) (r r':Rs),uU f i l r=.ok r'->r'.ty=r.ty/\r'.n=r.n/\r'.count=r.count/\r'.each=r.each
 |[],i,r,r',h=>by
  simp only[uU]at h
  injection h with h;subst h;exact⟨rfl,rfl,rfl,rfl⟩
 |k::l,i,r,r',h=>by
  simp only[uU]at h
  split at h
  .cases h
  .split at h
   .cases h
   .obtain⟨b,e,h⟩:=bind_ok h
    obtain⟨_,_,h⟩:=bind_ok h
    have g:=GV l _ b r' h
    have g1:b.ty=r.ty/\b.n=r.n/\b.count=r.count/\b.each=r.each:=
     pW (P:=λx:Rs=>x.ty=r.ty/\x.n=r.n/\x.count=r.count/\x.each=r.each) _ [] r b (λx a j _ c d=>by
      obtain⟨a1,a2,a3,a4⟩:=Uy (f:=f) d
      exact⟨a1.trans c.1,a2.trans c.2.1,a3.trans c.2.2.1,a4.trans c.2.2.2⟩) ⟨rfl,rfl,rfl,rfl⟩ e
    exact⟨g.1.trans g1.1,g.2.1.trans g1.2.1,g.2.2.1.trans g1.2.2.1,g.2.2.2.trans g1.2.2.2⟩
def sO{r r':Rs}{a:Atr}(h:oneOf r a=.ok r'):r'=r/\(r.count<0\/r.each<0):=by
 simp only[oneOf]at h;split at h
 .injection h with h;exact⟨h.symm,by assumption⟩
 .cases h
def WK{f:Fl}{r r':Rs}{a:Atr}{e:Ex}(c:a.e<f.ex.length)(b:ROk f.ex.length r)(h:tA f r a e=.ok r'):ROk f.ex.length r'/\r'.ty=r.ty/\r'.n=r.n:=by
 simp only[tA]at h;split at h
 .cases h
 .split at h
  .obtain⟨rfl,g⟩:=sO h;exact⟨⟨g,by simp;omega,b.en⟩,rfl,rfl⟩
  .split at h
   .obtain⟨rfl,g⟩:=sO h;exact⟨⟨g,b.cn,by simp;omega⟩,rfl,rfl⟩
   .split at h
    .split at h
     .cases h
     .split at h
      .injection h with h;subst h;exact⟨⟨b.one,b.cn,b.en⟩,rfl,rfl⟩
      .cases h
    .obtain⟨rfl,g⟩:=sO h;exact⟨⟨g,b.cn,b.en⟩,rfl,rfl⟩
def JH{s s':MS}{b:Blk}(h:MOk s)(l:∀a∈b.attrs,a.e<s.m.fl.ex.length)(j:nR (b.labels.getD 0 [])=true)(i:b.labels.getD 0 []∉rQ)(e:oN s b=.ok s'):MOk s'/\s'.m.fl=s.m.fl/\s'.m.dir=s.m.dir:=by
 unfold oN at e;obtain⟨r,p,e⟩:=bind_ok e;obtain⟨t,o,e⟩:=bind_ok e;have g1:ROk s.m.fl.ex.length r/\r.ty=b.labels.getD 0 []/\r.n=b.labels.getD 1 []:=
  pW (P:=λx:Rs=>ROk s.m.fl.ex.length x/\x.ty=b.labels.getD 0 []/\x.n=b.labels.getD 1 []) _ [] _ r (λx a q k c g=>by
   obtain⟨a1,a2,a3⟩:=WK (l a k) c.1 g;exact⟨a1,a2.trans c.2.1,a3.trans c.2.2⟩) ⟨⟨.inl (show(-1:Int)<0 by decide),by simp;omega,by simp;omega⟩,rfl,rfl⟩ p
 obtain⟨l1,l2,l3,l4⟩:=GV _ _ _ _ o;split at e
 .cases e
 .rename_i c;injection e with e
  subst e;refine⟨⟨h.vn,h.ln,h.on,?_,h.cn,λx c=>?_,h.vd,h.sl,h.sn⟩,rfl,rfl⟩
  .refine xB h.rn λd=>c ?_;obtain⟨y,d,f⟩:=nL.1 d;simp only[gA,fK]at f;exact nL.2 ⟨y,d,by simp[f.1,f.2]⟩
  .rcases bM.1 c with c|c
   .exact h.rv x c
   .rw[bO.1 c,l1,g1.2.1];exact⟨j,i,⟨by rw[l3,l4];exact g1.1.one,by rw[l3];exact g1.1.cn,by rw[l4];exact g1.1.en⟩⟩
def Vt{s s':MS}{b:Blk}(h:MOk s)(e:AL s b=.ok s'):MOk s'/\s'.m.fl=s.m.fl/\s'.m.dir=s.m.dir:=by
 unfold AL at e;obtain⟨r,l,e⟩:=bind_ok e;obtain⟨_,_,e⟩:=bind_ok e;have g1:r.2=[]\/nR r.2=true:=
  pW (P:=λx:List Atr×Str=>x.2=[]\/nR x.2=true) _ [] _ r (λx a n o g c=>by
   simp only[vZ]at c;split at c
   .split at c
    .rename_i k;injection c with c;subst c;exact .inr k.2
    .cases c
   .injection c with c;subst c;exact g) (.inl rfl) l
 split at e
 .cases e
 .rename_i i;split at e
  .cases e
  .rename_i j;injection e with e
   subst e;refine⟨⟨h.vn,h.ln,h.on,h.rn,xB h.cn j,h.rv,h.vd,by simp[h.sl],λd f=>?_⟩,rfl,rfl⟩;rcases bM.1 f with f|f
   .exact h.sn d f
   .rw[bO.1 f];exact g1.resolve_left i
def Sd{s s':MS}{b:Blk}(h:MOk s)(i:∀a∈b.attrs,a.e<s.m.fl.ex.length)(e:blockMc s b=.ok s'):MOk s'/\s'.m.fl=s.m.fl/\s'.m.dir=s.m.dir:=by
 unfold blockMc at e;split at e
 .cases e
 .rename_i d;split at e
  .exact Jy h i e
  split at e
  .exact NZ h e
  split at e
  .exact NW h e
  split at e
  .rename_i f;have g:yE b.typ=b.labels.length:=kI λc=>d (.inl c);have n:¬b.labels.any (λl=> !nR l)=true:=λc=>d (.inr (.inl c));have j:¬(b.typ=lN/\b.labels.getD 0 []∈rQ):=λc=>d (.inr (.inr c));rw[f]at g;have o:b.labels.length=2:=by
    have:yE lN=2:=by decide
    rw[this]at g;omega
   refine JH h i ?_ (λc=>j ⟨f,c⟩) e;cases k:nR (b.labels.getD 0 [])with
   |true=>rfl
   |false=>
    refine absurd (nL.2 ⟨b.labels.getD 0 [],?_,by rw[k];rfl⟩) n;rw[aM,aH (by omega)];exact gE _
  split at e
  .exact Vt h e
  .injection e with e;subst e;exact⟨h,rfl,rfl⟩
def xL:∀(l:List Nat) (s s':MS),MOk s->AOk s.m.fl->kX l s=.ok s'->MOk s'/\s'.m.fl=s.m.fl/\s'.m.dir=s.m.dir
 |[],s,s',h,_,e=>by
  simp only[kX]at e
  injection e with e;subst e;exact⟨h,rfl,rfl⟩
 |k::l,s,s',h,a,e=>by
  simp only[kX]at e
  obtain⟨b,c,e⟩:=bind_ok e
  obtain⟨g1,g2,g3⟩:=Sd h (a.at k) c
  obtain⟨f1,f2,f3⟩:=xL l b s' g1 (by rw[g2];exact a) e
  exact⟨f1,f2.trans g2,f3.trans g3⟩
def Ga(dir:Str)(f:Fl):MOk ⟨⟨dir,f,[],[],[],[],[]⟩,[]⟩:=
 ⟨nY,nY,nY,nY,nY,by simp,by simp,rfl,by simp⟩
theorem QF{f:Fl}{dir:Str}{s:MS}(h:kX u ⟨⟨dir,f,[],[],[],[],[]⟩,[]⟩=.ok s):∀d∈s.src,nR d=true:=by
 have:∀(l:List Nat) (s s':MS),(∀d∈s.src,nR d=true)->kX l s=.ok s'->∀d∈s'.src,nR d=true:=by
  intro l;induction l with
  |nil=>
   intro s s' h e;simp only[kX]at e;injection e with e;subst e;exact h
  |cons k l ih=>
   intro s s' h e;simp only[kX]at e;obtain⟨i,b,e⟩:=bind_ok e;refine ih i s' ?_ e;unfold blockMc at b;split at b
   .cases b
   split at b
   .unfold oJ at b;obtain⟨_,_,b⟩:=bind_ok b;obtain⟨_,_,b⟩:=bind_ok b;split at b
    .cases b
    .injection b with b;subst b;exact h
   split at b
   .unfold sP at b;obtain⟨_,_,b⟩:=bind_ok b;obtain⟨_,_,b⟩:=bind_ok b;injection b with b;subst b;exact h
   split at b
   .unfold sL at b;obtain⟨_,_,b⟩:=bind_ok b;obtain⟨_,_,b⟩:=bind_ok b;split at b
    .cases b
    split at b
    .cases b
    .injection b with b;subst b;exact h
   split at b
   .unfold oN at b;obtain⟨_,_,b⟩:=bind_ok b;obtain⟨_,_,b⟩:=bind_ok b;split at b
    .cases b
    .injection b with b;subst b;exact h
   split at b
   .unfold AL at b;obtain⟨r,n,b⟩:=bind_ok b;obtain⟨_,_,b⟩:=bind_ok b;have g1:r.2=[]\/nR r.2=true:=
     pW (P:=λx:List Atr×Str=>x.2=[]\/nR x.2=true) _ [] _ r (λx a p q j c=>by
      simp only[vZ]at c;split at c
      .split at c
       .rename_i o;injection c with c;subst c;exact .inr o.2
       .cases c
      .injection c with c;subst c;exact j) (.inl rfl) n
    split at b
    .cases b
    rename_i m;split at b
    .cases b
    .injection b with b;subst b
     intro d g;rcases bM.1 g with g|g
     .exact h d g
     .rw[bO.1 g];exact g1.resolve_left m
   .injection b with b;subst b;exact h
 exact this _ _ _ (by simp) h
def QZ:Str:=[118,97,114,32]
def JZ:Str:=[108,111,99,97,108,32]
def FP:Str:=[111,117,116,112,117,116,32]
def FQ:Str:=[109,111,100,117,108,101,32]
def Bi(l:List Md):List Nat:=l.flatMap λm=>m.calls.map (·.mod)
structure LOk(base:Nat)(new:List Md):Prop where
 ok:∀m∈new,∃src,MOk ⟨m,src⟩
 ct:∀j,(Bi new).count j=if base<j/\j<base+new.length then 1 else 0
 up:∀i m,new[i]?=some m->∀c∈m.calls,base+i<c.mod
def Ss(ld:Str->List Md->RL (List Md)):Prop:=∀dir mods mods',mods.length<=15->ld dir mods=.ok mods'->∃new,mods'=mods++new/\new≠[]/\mods'.length<=16/\LOk mods.length new
def Tu(a b:List Md):Bi (a++b)=Bi a++Bi b:=by simp[Bi]
theorem MJ{sub:Option (Str->List Md->RL (List Md))}(t:∀ld,sub=some ld->Ss ld)(path dir:Str):∀(l:List (Cl×Str)) (done:List Cl) (mods:List Md) (cs:List Cl) (mods':List Md),mods.length<=16->lX sub path dir l done mods=.ok (cs,mods')->
  ∃new b,mods'=mods++new/\cs=done++b/\b.map (·.n)=l.map (·.1.n)/\mods'.length<=16/\(∀m∈new,∃src,MOk ⟨m,src⟩)/\(∀j,(b.map (·.mod)).count j+(Bi new).count j=if mods.length<=j/\j<mods'.length then 1 else 0)/\(∀c∈b,mods.length<=c.mod)/\∀i m,new[i]?=some m->∀c∈m.calls,mods.length+i<c.mod
 |[],done,mods,cs,mods',g,e=>by
  simp only[lX]at e
  injection e with e
  simp only[gA]at e
  obtain⟨rfl,rfl⟩:=e
  refine⟨[],[],by simp,by simp,rfl,g,by simp,λj=>?_,by simp,by simp⟩
  rw[aE (by omega)]
  simp[Bi]
 |(c,src)::l,done,mods,cs,mods',g,e=>by
  simp only[lX]at e
  cases sub with
  |none=>cases e
  |some ld=>
   simp only at e
   split at e
   .cases e
   rename_i w
   cases q:ld (dir++src++[47]) mods with
   |bad k p a=>rw[q]at e;cases e
   |ok m1=>
    rw[q]at e
    simp only at e
    obtain⟨d,rfl,o,y,s⟩:=t ld rfl _ _ _ (by omega) q
    split at e
    .cases e
    split at e
    .cases e
    obtain⟨new,b,rfl,rfl,g1,g2,g3,g4,g5,g6⟩:=MJ t path dir l _ _ cs mods' y e
    have u:0<d.length:=iO.2 o
    refine⟨d++new,{c with mod:=mods.length}::b,by simp,by simp,by simp[g1],g2,λm g=>?_,λj=>?_,λx f=>?_,λi m h x f=>?_⟩
    .exact(bM.1 g).elim (s.ok m) (g3 m)
    .have z:=s.ct j
     have v:=g4 j
     simp only[aB]at v⊢
     rw[Tu,lT,z,cJ,AM]
     simp only[iU]
     split at v<;>(repeat' split)<;>omega
    .rcases aX.1 f with rfl|f
     .exact aQ _
     .have:=g5 x f
      rw[aB]at this
      omega
    .by_cases r:i<d.length
     .rw[dR r]at h
      exact s.up i m h x f
     .rw[dB (by omega)]at h
      have:=g6 _ m h x f
      rw[aB]at this
      omega
def MK{s:MS}{cs:List Cl}(h:MOk s)(a:cs.map (·.n)=(s.m.calls.zip s.src).map (·.1.n)):MOk ⟨{s.m with calls:=cs},s.src⟩:=by
 have e:(s.m.calls.zip s.src).map (·.1.n)=s.m.calls.map (·.n):=by
  have:(s.m.calls.zip s.src).map (·.1)=s.m.calls:=by rw[List.map_fst_zip];rw[h.sl];exact aQ _
  rw[<-this,iP,this];rfl
 rw[e]at a;have b:cs.length=s.m.calls.length:=by simpa using congrArg List.length a
 exact⟨h.vn,h.ln,h.on,h.rn,by show(cs.map (·.n)).Nodup;rw[a];exact h.cn,h.rv,h.vd,by show s.src.length=cs.length;rw[b];exact h.sl,h.sn⟩
def PK{rd:Str->Option Str}(q:∀t fl,lS t=.ok fl->AOk fl):∀n,Ss (tN rd n):=by
 have step:∀sub:Option (Str->List Md->RL (List Md)),(∀ld,sub=some ld->Ss ld)->Ss (tM rd sub):=by
  intro sub g dir mods mods' d e;unfold tM at e;split at e
  .cases e
  split at e
  .cases e
  rename_i k;split at e
  .cases e
  rename_i s p;have l:=xL _ _ _ (Ga dir _) (q _ _ k) p;split at e
  .cases e
  rename_i cs m1 o;injection e with e
  subst e;obtain⟨new,r,rfl,a,g1,g2,g3,g4,g5,g6⟩:=MJ g _ _ _ _ _ _ _ (by simp;omega) o;simp only[dS]at a;subst a;refine⟨{s.m with calls:=cs}::new,?_,by simp,by simpa using g2,λm d=>?_,λj=>?_,λi m f c b=>?_⟩
  .rw[cD,CO _ _ (aQ _),yQ];rfl
  .rcases aX.1 d with rfl|d
   .exact⟨s.src,MK l.1 g1⟩
   .exact g3 m d
  .have:=g4 j;simp only[aB,aA,aD]at this⊢;rw[show Bi ({s.m with calls:=cs}::new)=cs.map (·.mod)++Bi new by simp[Bi],lT,this];split
   .rw[aO (by omega)]
   .rw[aE (by omega)]
  .cases i with
   |zero=>
    simp only[bG,bB]at f;subst f;have:=g5 c b;simp only[aB,aA,aD]at this;omega
   |succ i=>
    rw[bI]at f;have:=g6 i m f c b;simp only[aB,aA,aD]at this;omega
 intro n;induction n with
 |zero=>exact step none (by simp)
 |succ n ih=>exact step _ (by intro ld h;injection h with h;subst h;exact ih)
end
end Go.Cfg
namespace Go.Proofs.YtjblfcfdeaagpaaGreatDoor
section
open Go Go.Eng Go.Lex Go.Syn Go.Cfg
def nmA(l:List Atr):List Str:=l.map (·.n)
structure RsL(r r':Rs):Prop where
 ty:r'.ty=r.ty
 n:r'.n=r.n
 at_:nmA r'.attrs=nmA r.attrs
 ct:r'.count<0↔r.count<0
 ea:r'.each<0↔r.each<0
 sw:r'.swap=r.swap
 pv:r'.prev=r.prev
 dp:r'.deps=r.deps
inductive L2 {α β:Type} (R:α->β->Prop):List α->List β->Prop
 |nil:L2 R [] []
 |cons {a:α} {b:β} {l:List α} {m:List β} (h:R a b) (h':L2 R l m):L2 R (a::l) (b::m)
def L2.snoc{R:α->β->Prop}{l:List α}{m:List β}{a:α}{b:β}(h:L2 R l m)(c:R a b):L2 R (l++[a]) (m++[b]):=by
 induction h with
 |nil=>exact .cons c .nil
 |cons h d ih=>exact .cons h ih
def L2.len{R:α->β->Prop}{l:List α}{m:List β}(h:L2 R l m):m.length=l.length:=by
 induction h with
 |nil=>rfl
 |cons h a ih=>simp[ih]
def L2.any{R:α->β->Prop}{l:List α}{m:List β}{p:α->Bool}{q:β->Bool}(h:L2 R l m)(c:∀a b,R a b->q b=p a):m.any q=l.any p:=by
 induction h with
 |nil=>rfl
 |cons h d ih=>rw[List.any_cons,List.any_cons,c _ _ h,ih]
def L2.map{γ:Type}{R:α->β->Prop}{l:List α}{m:List β}{p:α->γ}{q:β->γ}(h:L2 R l m)(c:∀a b,R a b->q b=p a):m.map q=l.map p:=by
 induction h with
 |nil=>rfl
 |cons h d ih=>rw[cJ,cJ,c _ _ h,ih]
def VrL(v v':Vr):Prop:=v'.n=v.n/\(v'.d<0↔v.d<0)
def ClL(v v':Cl):Prop:=v'.n=v.n/\v'.mod=v.mod/\nmA v'.args=nmA v.args
structure MdL(m m':Md):Prop where
 dir:m'.dir=m.dir
 v:L2 VrL m.vars m'.vars
 l:nmA m'.locs=nmA m.locs
 o:nmA m'.outs=nmA m.outs
 r:L2 RsL m.res m'.res
 c:L2 ClL m.calls m'.calls
structure MsL(s s':MS):Prop where
 m:MdL s.m s'.m
 src:s'.src=s.src
def Ke{l a:List Atr}(h:nmA a=nmA l)(x:Str):a.any (λy=>decide (y.n=x))=l.any (λy=>decide (y.n=x)):=by
 have e:∀l:List Atr,l.any (λy=>decide (y.n=x))=(nmA l).any λy=>decide (y=x):=λl=>by
  unfold nmA;rw[List.any_map];rfl
 rw[e,e,h]
def Dv{l b:List Atr}{a c:Atr}(h:nmA b=nmA l)(d:c.n=a.n):nmA (b++[c])=nmA (l++[a]):=by
 unfold nmA at h⊢;rw[kT,kT,h,cJ,cJ,d]
section
variable{f g:Fl}
def Vi{x:Nat}(h:AlE f.ex g.ex i x):(jU g x).k=(jU f i).k/\(jU g x).t=(jU f i).t/\ALs f.ex g.ex (jU f i).args (jU g x).args:=by
 cases h with
 |@mk _ _ a b l j e c o d h=>
  have n:jU f i=a:=by unfold jU;rw[aM,l];rfl
  have m:jU g x=b:=by unfold jU;rw[aM,j];rfl
  rw[n,m];exact⟨e,c,d,h⟩
def aFP{us l:List Atr}(h:AtA f.ex g.ex us l):L2 (λa c=>c.n=a.n/\AlE f.ex g.ex a.e c.e) us l:=by
 induction us generalizing l with
 |nil=>
  cases l with
  |nil=>exact .nil
  |cons a l=>have:=h.1;simp at this
 |cons u us ih=>
  cases l with
  |nil=>have:=h.1;simp at this
  |cons a l=>
   exact .cons (h.2 0 u a rfl rfl) (ih ⟨by have:=h.1;simpa using this,λj a b i d=>h.2 (j+1) a b i d⟩)
def wN{σ:Type}{R:σ->α->Prop}{take:σ->Atr->Ex->RC σ}{take':α->Atr->Ex->RC α}(q:∀s s' a c r,R s s'->c.n=a.n->AlE f.ex g.ex a.e c.e->take s a (jU f a.e)=.ok r->∃r',take' s' c (jU g c.e)=.ok r'/\R r r'):
  ∀{l d:List Atr},L2 (λa c=>c.n=a.n/\AlE f.ex g.ex a.e c.e) l d->∀(seen b:List Atr) (s:σ) (s':α) (r:σ),nmA b=nmA seen->R s s'->lA f take seen l s=.ok r->∃r',lA g take' b d s'=.ok r'/\R r r':=by
 intro l d h;induction h with
 |nil=>
  intro seen b s s' r _ m e;simp only[lA]at e;injection e with e
  exact⟨s',rfl,by rw[<-e];exact m⟩
 |@cons a c l d h w ih=>
  intro seen b s s' r p m e;simp only[lA]at e⊢;rw[h.1,Ke p];split at e
  .cases e
  .rename_i t;rw[aE t];obtain⟨o,v,u⟩:=bind_ok e;obtain⟨i,g1,k⟩:=q s s' a c o m h.1 h.2 v;obtain⟨r',g2,j⟩:=ih (seen++[a]) (b++[c]) o i r (Dv p h.1) k u;rw[g1];exact⟨r',g2,j⟩
def DL(d a:Int):Prop:=a<0↔d<0
def Wd{s s':Int}{a b:Atr}{e f:Ex}{r:Int}(c:b.n=a.n)(h:Gp s a e=.ok r):∃r',Gp s' b f=.ok r'/\DL r r':=by
 simp only[Gp]at h⊢;rw[c];split at h
 .rename_i d;rw[aO d];injection h with h
  exact⟨_,rfl,by unfold DL;omega⟩
 .cases h
def YK{s s':Int}{a b:Atr}{e f:Ex}{r:Int}(c:b.n=a.n)(h:outT s a e=.ok r):∃r',outT s' b f=.ok r'/\DL r r':=by
 simp only[outT]at h⊢;rw[c];split at h
 .rename_i d;rw[aO d];injection h with h
  exact⟨_,rfl,by unfold DL;omega⟩
 .cases h
def Zb{s s':List Atr}{a d:Atr}{e g:Ex}{r:List Atr}(b:nmA s'=nmA s)(c:d.n=a.n)(h:DC s a e=.ok r):∃r',DC s' d g=.ok r'/\nmA r'=nmA r:=by
 simp only[DC]at h⊢;rw[c,Ke b];split at h
 .cases h
 .rename_i f;rw[aE f];injection h with h
  exact⟨_,rfl,by rw[<-h];exact Dv b c⟩
def Kc{r r' q:Rs}{a e:Atr}(b:RsL r r')(h:oneOf r a=.ok q):∃c,oneOf r' e=.ok c/\RsL q c:=by
 simp only[oneOf]at h⊢;split at h
 .rename_i d;rw[aO (d.imp b.ct.2 b.ea.2)];injection h with h
  subst h;exact⟨r',rfl,b⟩
 .cases h
def RV(v:SA f.ex)(t:wC f)(r:wC g){x:Nat}(h:AlE f.ex g.ex i x):∀(n m:Nat) (s:Str),i<n->x<m->pV g m x s=pV f n i s:=by
 induction h with
 |@mk i x a b j o q p z C h ih=>
  intro n m s A B;obtain⟨n,rfl⟩:∃k,n=k+1:=⟨n-1,by omega⟩;obtain⟨m,rfl⟩:∃k,m=k+1:=⟨m-1,by omega⟩;have y:jU f i=a:=by unfold jU;rw[aM,j];rfl
  have w:jU g x=b:=by unfold jU;rw[aM,o];rfl
  simp only[pV];rw[y,w,q,p];by_cases c:a.k=10
  .rw[aO c,aO c];have e:0<a.args.length:=by
    have:=v a (bA j);cases this with
    |attr u a h=>exact Nat.zero_lt_one
    |lit=>rename_i l;simp only at c;omega
    |un=>rename_i l;simp only at c;omega
    |bin=>rename_i l;simp only at c;omega
    |_=>simp only at c;omega
   have a1:=t.1 i a j (a.args.getD 0 0) (by rw[aM,aH e];exact gE e);have d:0<b.args.length:=by omega
   have a2:=r.1 x b o (b.args.getD 0 0) (by rw[aM,aH d];exact gE d);exact ih 0 e n m _ (by omega) (by omega)
  .rw[aE c,aE c]
def Mt(c:SA f.ex)(b:wC f)(a:wC g):∀(us l:List Nat) (ds:List Str),ALs f.ex g.ex us l->uD g l ds=uD f us ds
 |[],[],ds,h=>rfl
 |[],x::l,ds,h=>by have:=h.1;simp at this
 |u::us,[],ds,h=>by have:=h.1;simp at this
 |u::us,x::l,ds,h=>by
  have e:=h.2 0 (by simp)
  have d:ALs f.ex g.ex us l:=⟨by have:=h.1;simpa using this,λj i=>h.2 (j+1) (by simp;omega)⟩
  simp only[uD]
  have:xK g x=xK f u:=RV c b a e _ _ _ (rI _) (rI _)
  rw[this]
  cases xK f u with
  |none=>rfl
  |some t=>exact Mt c b a us l _ d
def WJ(u:SA f.ex)(p:wC f)(o:wC g){s s' q:Rs}{a c:Atr}(b:RsL s s')(k:c.n=a.n)(r:AlE f.ex g.ex a.e c.e)(h:tA f s a (jU f a.e)=.ok q):∃j,tA g s' c (jU g c.e)=.ok j/\RsL q j:=by
 obtain⟨m,k2,k3⟩:=Vi r;simp only[tA]at h⊢;rw[k];split at h
 .cases h
 rename_i l;rw[aE l];split at h
 .rename_i i;rw[aO i];have d:RsL {s with count:=(a.e:Int)} {s' with count:=(c.e:Int)}:=⟨b.ty,b.n,b.at_,by simp only;omega,b.ea,b.sw,b.pv,b.dp⟩;exact Kc d h
 rename_i i;rw[aE i];split at h
 .rename_i n3;rw[aO n3];have d:RsL {s with each:=(a.e:Int)} {s' with each:=(c.e:Int)}:=⟨b.ty,b.n,b.at_,b.ct,by simp only;omega,b.sw,b.pv,b.dp⟩;exact Kc d h
 rename_i n3;rw[aE n3];split at h
 .rename_i n4;rw[aO n4,b.dp,Mt u p o _ _ _ k3];split at h
  .cases h
  .rename_i ds t;split at h
   .rename_i v;injection h with h
    subst h;rw[aO (by rw[m];exact v)];exact⟨_,rfl,b.ty,b.n,b.at_,b.ct,b.ea,b.sw,b.pv,rfl⟩
   .cases h
 .rename_i n4;rw[aE n4];have d:RsL {s with attrs:=s.attrs++[a]} {s' with attrs:=s'.attrs++[c]}:=⟨b.ty,b.n,Dv b.at_ k,b.ct,b.ea,b.sw,b.pv,b.dp⟩;exact Kc d h
def Ux{s s' q:Rs}{a c:Atr}(b:RsL s s')(l:c.n=a.n)(m:AlE f.ex g.ex a.e c.e)(h:tO s a (jU f a.e)=.ok q):∃j,tO s' c (jU g c.e)=.ok j/\RsL q j:=by
 obtain⟨k,k2,k3⟩:=Vi m;simp only[tO]at h⊢;rw[l,k];split at h
 .rename_i i;rw[aO i];split at h
  .rename_i d;rw[aO d];injection h with h
   subst h;exact⟨_,rfl,b.ty,b.n,b.at_,b.ct,b.ea,rfl,b.pv,b.dp⟩
  .cases h
 rename_i i;rw[aE i];split at h
 .rename_i n3;rw[aO n3];split at h
  .rename_i d;rw[aO d];injection h with h
   subst h;exact⟨_,rfl,b.ty,b.n,b.at_,b.ct,b.ea,b.sw,rfl,b.dp⟩
  .cases h
 .cases h
def CtL(x a:List Atr×Str):Prop:=nmA a.1=nmA x.1/\a.2=x.2
def RY{s s' q:List Atr×Str}{a b:Atr}(d:CtL s s')(j:b.n=a.n)(m:AlE f.ex g.ex a.e b.e)(h:vZ s a (jU f a.e)=.ok q):∃i,vZ s' b (jU g b.e)=.ok i/\CtL q i:=by
 obtain⟨l,k2,k3⟩:=Vi m;simp only[vZ]at h⊢;rw[j,l,k2];split at h
 .rename_i c;rw[aO c];split at h
  .rename_i k;rw[aO k];injection h with h
   subst h;exact⟨_,rfl,d.1,rfl⟩
  .cases h
 .rename_i c;rw[aE c];injection h with h
  subst h;exact⟨_,rfl,Dv d.1 j,d.2⟩
end
section
variable{f g:Fl}
def aB0{x:Nat}(h:AlB f g.ex g.bl i x):(iY g x).typ=(iY f i).typ/\(iY g x).labels=(iY f i).labels/\L2 (λa c=>c.n=a.n/\AlE f.ex g.ex a.e c.e) (iY f i).attrs (iY g x).attrs/\BLs f g.ex g.bl (iY f i).blocks (iY g x).blocks:=by
 cases h with
 |@mk _ _ a b o m d j l k h=>
  have q:iY f i=a:=by unfold iY;rw[aM,o];rfl
  have p:iY g x=b:=by unfold iY;rw[aM,m];rfl
  rw[q,p];exact⟨d,j,aFP l,k,h⟩
def BE{b a:Blk}(h:BLs f g.ex g.bl b.blocks a.blocks)(e:uE f b=.ok ()):uE g a=.ok ():=by
 unfold uE at e⊢;have c:=h.1;cases d:b.blocks with
 |cons k l=>rw[d]at e;cases e
 |nil=>
  rw[d]at c;have:a.blocks=[]:=cW c;rw[this]
def II(v:SA f.ex):∀(us l:List Nat),BLs f g.ex g.bl us l->∀(i:Nat) (r r' q:Rs),RsL r r'->uU f i us r=.ok q->∃b,uU g i l r'=.ok b/\RsL q b
 |[],[],_,i,r,r',q,k,e=>by
  simp only[uU]at e
  injection e with e
  subst e
  exact⟨r',rfl,k⟩
 |[],x::l,h,_,_,_,_,_,_=>by have:=h.1;simp at this
 |u::us,[],h,_,_,_,_,_,_=>by have:=h.1;simp at this
 |u::us,x::l,h,i,r,r',q,k,e=>by
  have B:AlB f g.ex g.bl u x:=h.2 0 (by simp)
  have p:BLs f g.ex g.bl us l:=⟨by have:=h.1;simpa using this,λj G=>h.2 (j+1) (by simp;omega)⟩
  obtain⟨F,b2,E,b4⟩:=aB0 B
  simp only[uU]at e⊢
  rw[F,b2]
  split at e
  .cases e
  rename_i o
  rw[aE o]
  split at e
  .cases e
  rename_i n
  rw[aE n]
  obtain⟨m,D,e⟩:=bind_ok e
  obtain⟨_,C,e⟩:=bind_ok e
  obtain⟨c,g1,d⟩:=wN (R:=RsL) (take:=tO) (take':=tO) (λs s' a H q A z y w=>Ux A z y w) E [] [] r r' m rfl k D
  obtain⟨b,g2,t⟩:=II v us l p (i+1) m c q d e
  rw[g1]
  simp only[RC.bind]
  rw[BE b4 C]
  exact⟨b,g2,t⟩
theorem VF(P:SA f.ex)(U:wC f)(T:wC g){s s' q:MS}{x:Nat}(u:s.m.fl=f)(k:s'.m.fl=g)(j:MsL s s')(V:AlB f g.ex g.bl i x)(e:Cfg.blockMc s (iY f i)=.ok q):∃L,Cfg.blockMc s' (iY g x)=.ok L/\MsL q L/\q.m.fl=f/\L.m.fl=g:=by
 obtain⟨X,b2,H,b4⟩:=aB0 V;generalize iY f i=b at*
 generalize iY g x=b' at*
 unfold Cfg.blockMc at e⊢;rw[X,b2];split at e
 .cases e
 rename_i Q;rw[aE Q];split at e
 .rename_i M;rw[aO M];unfold oJ at e⊢;obtain⟨d,t,e⟩:=bind_ok e;obtain⟨_,p,e⟩:=bind_ok e;rw[u]at t p;obtain⟨N,g1,B⟩:=wN (R:=DL) (take:=Gp) (take':=Gp) (λs s' a J q C z D w=>Wd z w) H [] [] (-1) (-1) d rfl iR t;rw[k,g1];simp only[RC.bind];rw[BE b4 p];simp only;rw[b2];have G:s'.m.vars.any (λy=>decide (y.n=b.labels.getD 0 []))=s.m.vars.any (λy=>decide (y.n=b.labels.getD 0 [])):=j.m.v.any λv O h=>by rw[h.1]
  rw[G];split at e
  .cases e
  .rename_i F;rw[aE F];injection e with e
   subst e;exact⟨_,rfl,⟨⟨j.m.dir,j.m.v.snoc ⟨rfl,B⟩,j.m.l,j.m.o,j.m.r,j.m.c⟩,j.src⟩,u,k⟩
 rename_i M;rw[aE M];split at e
 .rename_i F;rw[aO F];unfold sP at e⊢;obtain⟨d,t,e⟩:=bind_ok e;obtain⟨_,p,e⟩:=bind_ok e;rw[u]at t p;obtain⟨N,g1,B⟩:=wN (R:=λl S=>nmA S=nmA l) (take:=DC) (take':=DC) (λs s' a J q C z D w=>Zb C z w) H [] [] s.m.locs s'.m.locs d rfl j.m.l t;rw[k,g1];simp only[RC.bind];rw[BE b4 p];simp only;injection e with e
  subst e;exact⟨_,rfl,⟨⟨j.m.dir,j.m.v,B,j.m.o,j.m.r,j.m.c⟩,j.src⟩,u,k⟩
 rename_i F;rw[aE F];split at e
 .rename_i n3;rw[aO n3];unfold sL at e⊢;obtain⟨d,t,e⟩:=bind_ok e;obtain⟨_,p,e⟩:=bind_ok e;rw[u]at t p;obtain⟨N,g1,B⟩:=wN (R:=DL) (take:=outT) (take':=outT) (λs s' a J q C z D w=>YK z w) H [] [] (-1) (-1) d rfl iR t;rw[k,g1];simp only[RC.bind];rw[BE b4 p];simp only;have B:N<0↔d<0:=B;split at e
  .cases e
  .rename_i n4;rw[aE (λh=>n4 (B.1 h)),b2,Ke j.m.o];split at e
   .cases e
   .rename_i n5;rw[aE n5];injection e with e
    subst e;exact⟨_,rfl,⟨⟨j.m.dir,j.m.v,j.m.l,Dv j.m.o rfl,j.m.r,j.m.c⟩,j.src⟩,u,k⟩
 rename_i n3;rw[aE n3];split at e
 .rename_i n4;rw[aO n4];unfold oN at e⊢;obtain⟨r,t,e⟩:=bind_ok e;obtain⟨K,p,e⟩:=bind_ok e;rw[u]at t p;have W:RsL ⟨b.labels.getD 0 [],b.labels.getD 1 [],[],-1,-1,false,false,[],b.a⟩ ⟨b.labels.getD 0 [],b.labels.getD 1 [],[],-1,-1,false,false,[],b'.a⟩:=⟨rfl,rfl,rfl,iR,iR,rfl,rfl,rfl⟩;obtain⟨r',g1,I⟩:=wN (R:=RsL) (take:=tA f) (take':=tA g) (λs s' a J q C z D w=>WJ P U T C z D w) H [] [] _ _ r rfl W t;obtain⟨E,g2,A⟩:=II P b.blocks b'.blocks b4 0 r r' K I p;rw[k,b2,g1];simp only[RC.bind];rw[g2];simp only;have G:s'.m.res.any (λy=>decide (y.ty=E.ty)&&decide (y.n=E.n))=s.m.res.any (λy=>decide (y.ty=K.ty)&&decide (y.n=K.n)):=j.m.r.any λv O h=>by rw[h.ty,h.n,A.ty,A.n]
  rw[G];split at e
  .cases e
  .rename_i n5;rw[aE n5];injection e with e
   subst e;exact⟨_,rfl,⟨⟨j.m.dir,j.m.v,j.m.l,j.m.o,j.m.r.snoc A,j.m.c⟩,j.src⟩,u,k⟩
 rename_i n4;rw[aE n4];split at e
 .rename_i n5;rw[aO n5];unfold AL at e⊢;obtain⟨r,t,e⟩:=bind_ok e;obtain⟨_,p,e⟩:=bind_ok e;rw[u]at t p;obtain⟨r',g1,I⟩:=wN (R:=CtL) (take:=vZ) (take':=vZ) (λs s' a J q C z D w=>RY C z D w) H [] [] ([],[]) ([],[]) r rfl ⟨rfl,rfl⟩ t;rw[k,g1];simp only[RC.bind];rw[BE b4 p];simp only;rw[I.2,b2];have G:s'.m.calls.any (λy=>decide (y.n=b.labels.getD 0 []))=s.m.calls.any (λy=>decide (y.n=b.labels.getD 0 [])):=j.m.c.any λv O h=>by rw[h.1]
  rw[G];split at e
  .cases e
  .rename_i n6;rw[aE n6];split at e
   .cases e
   .rename_i n7;rw[aE n7];injection e with e
    subst e;exact⟨_,rfl,⟨⟨j.m.dir,j.m.v,j.m.l,j.m.o,j.m.r,j.m.c.snoc ⟨rfl,rfl,I.1⟩⟩,by show s'.src++_=s.src++_;rw[j.src]⟩,u,k⟩
 .rename_i n5;rw[aE n5];injection e with e
  subst e;exact⟨s',rfl,j,u,k⟩
def HC(p:SA f.ex)(o:wC f)(n:wC g):∀(us l:List Nat),BLs f g.ex g.bl us l->∀(s s' q:MS),s.m.fl=f->s'.m.fl=g->MsL s s'->kX us s=.ok q->∃i,kX l s'=.ok i/\MsL q i
 |[],[],_,s,s',q,_,_,d,e=>by
  simp only[kX]at e
  injection e with e
  subst e
  exact⟨s',rfl,d⟩
 |[],x::l,h,_,_,_,_,_,_,_=>by have:=h.1;simp at this
 |u::us,[],h,_,_,_,_,_,_,_=>by have:=h.1;simp at this
 |u::us,x::l,h,s,s',q,k,a,d,e=>by
  have z:AlB f g.ex g.bl u x:=h.2 0 (by simp)
  have v:BLs f g.ex g.bl us l:=⟨by have:=h.1;simpa using this,λj A=>h.2 (j+1) (by simp;omega)⟩
  simp only[kX]at e⊢
  obtain⟨t,r,e⟩:=bind_ok e
  rw[k]at r
  obtain⟨b,g1,c,y,w⟩:=VF p o n k a d z r
  rw[a,g1]
  exact HC p o n us l v t b q y w c e
end
def Mls(l a:List Md):Prop:=L2 MdL l a
def MdL.no:MdL As As:=⟨rfl,.nil,rfl,rfl,.nil,.nil⟩
def L2.getD{R:α->β->Prop}{l:List α}{m:List β}{a:α}{b:β}(h:L2 R l m)(c:R a b)(i:Nat):R (l.getD i a) (m.getD i b):=by
 induction h generalizing i with
 |nil=>exact c
 |cons h d ih=>
  cases i with
  |zero=>exact h
  |succ i=>exact ih i
def L2.set{R:α->β->Prop}{l:List α}{m:List β}{a:α}{b:β}(h:L2 R l m)(c:R a b)(i:Nat):L2 R (l.set i a) (m.set i b):=by
 induction h generalizing i with
 |nil=>exact .nil
 |cons h d ih=>
  cases i with
  |zero=>exact .cons c d
  |succ i=>exact .cons h (ih i)
def Fz(ld:Str->List Md->RL (List Md)):Prop:=∀dir mods M,ld dir mods=.ok M->mods<+:M/\mods.length<M.length
def zS{sub:Option (Str->List Md->RL (List Md))}(d:∀ld,sub=some ld->Fz ld)(path dir:Str):∀(l:List (Cl×Str)) (done:List Cl) (mods:List Md) (cs:List Cl) (M:List Md),lX sub path dir l done mods=.ok (cs,M)->mods<+:M
 |[],done,mods,cs,M,e=>by
  simp only[lX]at e
  injection e with e
  simp only[gA]at e
  rw[e.2];exact mI _
 |(c,src)::l,done,mods,cs,M,e=>by
  simp only[lX]at e
  cases sub with
  |none=>cases e
  |some ld=>
   simp only at e
   split at e
   .cases e
   cases b:ld (dir++src++[47]) mods with
   |bad k p a=>rw[b]at e;cases e
   |ok m1=>
    rw[b]at e
    simp only at e
    split at e
    .cases e
    split at e
    .cases e
    exact(d ld rfl _ _ _ b).1.trans (zS d path dir l _ m1 cs M e)
def LX{rd:Str->Option Str}:∀n,Fz (tN rd n):=by
 have step:∀sub:Option (Str->List Md->RL (List Md)),(∀ld,sub=some ld->Fz ld)->Fz (tM rd sub):=by
  intro sub b dir mods M e;unfold tM at e;split at e
  .cases e
  split at e
  .cases e
  split at e
  .cases e
  split at e
  .cases e
  rename_i c;injection e with e
  subst e;obtain⟨t,a⟩:=zS b _ _ _ _ _ _ _ c;subst a;rw[cD,CO _ _ (aQ _),yQ];exact⟨lZ _ _,by simp⟩
 intro n;induction n with
 |zero=>exact step none λ_ h=>by cases h
 |succ n ih=>exact step _ λld h=>by cases h;exact ih
def Sn{g d:List Vr}{f bs:List Atr}(i:L2 VrL g d)(c:nmA bs=nmA f)(h:BF g f=none):BF d bs=none:=by
 induction f generalizing bs with
 |nil=>
  have:bs=[]:=by unfold nmA at c;simpa using c
  rw[this];rfl
 |cons a l ih=>
  cases bs with
  |nil=>unfold nmA at c;simp at c
  |cons b m=>
   unfold nmA at c;simp only[cJ,gC]at c;simp only[BF]at h⊢;have e:d.any (λv=>decide (v.n=b.n))=g.any (λv=>decide (v.n=a.n)):=i.any λv o j=>by rw[j.1,c.1]
   rw[e];split at h
   .rename_i k;rw[aO k];exact ih c.2 h
   .cases h
def UE{b a:List Vr}{l m:List Atr}(c:L2 VrL b a)(d:nmA m=nmA l):Bq m a=Bq l b:=by
 unfold Bq;refine c.any λv e h=>?_;rw[h.1,Ke d];congr 1;exact decide_eq_decide.2 h.2
def Fa(c:Int):Prop:=c=7\/c=3
def aBC(a:Str->Option Str)(ld b:Str->List Md->RL (List Md)):Prop:=∀dir mods mods' M,Mls mods mods'->ld dir mods=.ok M->(∀i m,mods.length<=i->M[i]?=some m->a (m.dir++nM)=some (nB m.fl))->match b dir mods' with
 |.bad c _ _=>Fa c
 |.ok M'=>Mls M M'
theorem Vs{t:Str->Option Str}{sub f:Option (Str->List Md->RL (List Md))}(K:(sub=none/\f=none)\/∃ld g,sub=some ld/\f=some g/\Fz ld/\aBC t ld g)(path dir:Str):
  ∀(l z:List (Cl×Str)),L2 (λa b=>ClL a.1 b.1/\b.2=a.2) l z->∀(done d:List Cl) (mods mods':List Md) (cs:List Cl) (M:List Md),L2 ClL done d->Mls mods mods'->lX sub path dir l done mods=.ok (cs,M)->(∀i m,mods.length<=i->M[i]?=some m->t (m.dir++nM)=some (nB m.fl))->
  match lX f path dir z d mods' with
  |.bad c _ _=>Fa c
  |.ok (cs',M')=>Mls M M'/\L2 ClL cs cs':=by
 intro l z h;induction h with
 |nil=>
  intro done d mods mods' cs M E A e G;simp only[lX]at e⊢;injection e with e
  simp only[gA]at e;obtain⟨rfl,rfl⟩:=e;exact⟨A,E⟩
 |@cons a b l z h Q ih=>
  obtain⟨c,src⟩:=a;obtain⟨P,n⟩:=b;obtain⟨⟨y,F,j⟩,o⟩:=h;simp only at y F j o;subst o;intro done d mods mods' cs M E A e G;simp only[lX]at e⊢;rcases K with⟨rfl,rfl⟩|⟨ld,g,rfl,rfl,q,C⟩
  .cases e
  .simp only at e⊢;have u:=A.len;rw[u];split at e
   .cases e
   rename_i n16;rw[aE n16];cases B:ld (dir++n++[47]) mods with
   |bad k p x=>rw[B]at e;cases e
   |ok m1=>
    rw[B]at e;simp only at e;split at e
    .cases e
    rename_i O;split at e
    .cases e
    rename_i N;have L:=q _ _ _ B;have D:=zS (λx J=>by cases J;exact q) path dir l _ m1 cs M e;have s:=C _ _ mods' _ A B λi m H r=>G i m H (BU D r);cases w:g (dir++n++[47]) mods' with
    |bad k p x=>rw[w]at s;exact s
    |ok m1'=>
     rw[w]at s;have s:Mls m1 m1':=s;simp only;have I:=s.getD MdL.no mods.length;rw[Sn I.v j O];simp only;rw[UE I.v j,aE N];exact ih (done++[{c with mod:=mods.length}]) (d++[{P with mod:=mods.length}]) m1 m1' cs M (E.snoc ⟨y,rfl,j⟩) s e λi m H r=>G i m (by omega) r
def aB5{l:List Cl}{m:List Cl}(h:L2 ClL l m):∀s:List Str,L2 (λa b=>ClL a.1 b.1/\b.2=a.2) (l.zip s) (m.zip s):=by
 induction h with
 |nil=>intro s;exact .nil
 |cons h c ih=>
  intro s;cases s with
  |nil=>exact .nil
  |cons x s=>exact .cons ⟨h,rfl⟩ (ih s)
theorem Zc{rd j:Str->Option Str}:∀n,aBC j (tN rd n) (tN j n):=by
 have step:∀sub d:Option (Str->List Md->RL (List Md)),((sub=none/\d=none)\/∃ld t,sub=some ld/\d=some t/\Fz ld/\aBC j ld t)->aBC j (tM rd sub) (tM j d):=by
  intro sub d N dir mods mods' M O e S;unfold tM at e;split at e
  .cases e
  split at e
  .cases e
  rename_i fl C;split at e
  .cases e
  rename_i s R;split at e
  .cases e
  rename_i cs m1 Q;injection e with e
  have y:=zS (λld z=>by
   rcases N with⟨rfl,_⟩|⟨U,t,rfl,_,K,_⟩
   .cases z
   .cases z;exact K) _ _ _ _ _ _ _ Q
  have E:=y.length_le;rw[aB,aA,aD]at E;have q:=xL _ _ _ (Ga dir fl) (λb I a W=>(sV C).2.1 b I a W) R;have G:s.m.fl=fl:=q.2.1;have A:s.m.dir=dir:=q.2.2;have u:=S mods.length {s.m with calls:=cs} (aQ _) (by rw[<-e,oD (by omega)]);simp only at u;rw[G,A]at u;unfold tM;rw[u];simp only;have f:=OI C;cases F:lS (nB fl)with
  |bad c a=>
   rw[F]at f;have f:Far _ c:=f;exact f.imp id λh=>h.1
  |ok g=>
   rw[F]at f;obtain⟨H,_⟩:=f;simp only;obtain⟨x,V,w⟩:=HC (Bm C).1 (sV C).1 (sV F).1 _ _ H ⟨⟨dir,fl,[],[],[],[],[]⟩,[]⟩ ⟨⟨dir,g,[],[],[],[],[]⟩,[]⟩ s rfl rfl ⟨⟨rfl,.nil,rfl,rfl,.nil,.nil⟩,rfl⟩ R;rw[V];simp only;have k:=Vs N (dir++nM) dir _ (x.m.calls.zip x.src) (by rw[w.src];exact aB5 w.m.c s.src) [] [] (mods++[As]) (mods'++[As]) cs m1 .nil (O.snoc MdL.no) Q (λi m P D=>S i m (by simp at P;omega) (by
    rw[<-e,EU (by simp at P;omega)];exact D))
   cases B:lX d (dir++nM) dir (x.m.calls.zip x.src) [] (mods'++[As])with
   |bad c p a=>rw[B]at k;exact k
   |ok r=>
    obtain⟨L,T⟩:=r;rw[B]at k;obtain⟨K,X⟩:=k;simp only;rw[<-e,O.len];have J:MdL {s.m with calls:=cs} {x.m with calls:=L}:=⟨w.m.dir,w.m.v,w.m.l,w.m.o,w.m.r,X⟩;exact K.set J _
 intro n;induction n with
 |zero=>exact step none none (.inl ⟨rfl,rfl⟩)
 |succ n ih=>exact step _ _ (.inr ⟨_,_,rfl,rfl,LX n,ih⟩)
def Lg{rd a:Str->Option Str}{mods:List Md}(h:tN rd 4 [] []=.ok mods)(d:∀m∈mods,a (m.dir++nM)=some (nB m.fl)):match tN a 4 [] []with
 |.bad c _ _=>Fa c
 |.ok M'=>Mls mods M':=Zc 4 [] [] [] mods .nil h λi m _ b=>d m (bA b)
end
section
open Go Go.Eng Go.RowKit Go.Syn Go.Lex
def QL(b:List Tok):RS->RS
 |.ok l=>.ok (b++l)
 |.bad c a=>.bad c a
def QK(a:List Tok)(t:Tok)(x:RS):QL a (match x with|.ok l=>.ok (t::l)|x=>x)=QL (a++[t]) x:=by
 cases x<;>simp[QL]
def KZ(a:List Tok)(t:Tok):toks (a++[t])=toks a++kB t:=by simp[toks,kB]
section
variable [HX]
theorem aCq:VS:=by
 intro w K s hT hl H j;refine aES ?_;unfold W28;rw[eR,gG,aY];unfold mS at H j;have bad:∀{w1:World} (c:Int) (i:Nat) {K':Q0},(∀d W,Ext w W->w.heap.size<=d->W.heap[d]?=some (.cells [i64 c,str [],i64 (i:Nat)].toArray 48 (0,0))->K (.tuple #[.slice none 0 0,.pointer (some ⟨d,0,none⟩)]) W)->Ext w w1->
   jZ 48 (.agg [i64 c,str [],i64 (i:Nat)].toArray) w1 λt16 w2=>K (.tuple #[.slice none 0 0,t16]) w2:=by
  intro w1 c i _ h hx;refine gF (z:=[i64 c,str [],i64 (i:Nat)]) λd w2 hd hz xy xq=>?_;have:=hx.size;exact h d w2 (hx.trans xq) (by omega) xy
 refine⟨λh=>?_,λh=>?_⟩
 .rw[aO (by omega)]at j;simp only[eG,eP,aA,aD,aP,aU,Nat.reduceAdd,Nat.reduceLT,dQ,aZ];exact bad (K':=K) 3 0 (λd W=>j 3 0 rfl d W) (Chg.refl _ _)
 have ze:s.length<=16384:=by omega
 rw[aE (by omega)]at H j;generalize hB:Ee (s.length+1) s 0=Bd at H j;refine GQ ?_;refine eK.go (λst w5=>∃p m,p<=s.length/\st=[]/\w5.heap[w.heap.size]?=some (.stringIter (ofL s) p)/\Ext w w5/\Ee m s p=Bd/\s.length<m+p)
  (λ_ w5=>match w5.heap[w.heap.size]? with|some (.stringIter _ p)=>s.length-p|_=>0)
  ⟨0,s.length+1,cZ _,rfl,kV _ _ _ rfl,Chg.alloc (Chg.refl _ _) _,hB,by omega⟩ ?_
 rintro st g w5 ⟨p,m,hp,rfl,xd,ho,E,hm⟩;obtain⟨m,rfl⟩:∃k,m=k+1:=⟨m-1,by omega⟩;rw[Ee]at E;have yy:=ho.size;refine IH xd (λxs=>?_) (λV w6 P ya yx=>?_)
 ·
  rw[bX];refine⟨.bool false,rfl,?_⟩;rw[cI];rw[aO xs]at E;subst E;simp only at H j;have hU:Utf s:=by
   have:=HF (s:=s) (s.length+1) 0 (by omega) hB;rwa[dZ]at this
  generalize hR:nA (s.length+1) s 0 0=R0 at H j;refine eK.go (λst w7=>∃(i m:Nat) (f:List Tok) (v:Value),st=[v,i64 (i:Nat)]/\i<=s.length/\Utf (s.drop i)/\Ext w w7/\Own w7 w.heap.size TkT 3 v f.length (toks f)/\QL f (nA m (s.drop i) i f.length)=R0/\s.length<m+i/\f.length<=4096)
   (λst _=>match st with|[_,.int _ i]=>s.length-i.toNat|_=>0)
   ⟨0,s.length+1,[],_,rfl,cZ _,by rw[dZ];exact hU,ho,⟨by simp[toks],.inl ⟨rfl,rfl⟩⟩,by rw[dZ,aD,hR];cases R0<;>rfl,by omega,by simp⟩ ?_
  rintro st g2 w7 ⟨i,m2,f,v,rfl,hi,hu,T,hO,D,zd,ym⟩;obtain⟨m2,rfl⟩:∃k,m2=k+1:=⟨m2-1,by omega⟩;simp only[nA]at D;simp only[aG,bQ];have yw:=T.size;have za:(s.drop i).length=s.length-i:=aW;rw[fH,fJ,fF];refine⟨by omega,by omega,?_⟩;rw[dP,bD];refine aCj (hT.ext T) (by omega) ?_;have O:=Be ((s.drop i).length+1) _ hu;have xv:=Ai ((s.drop i).length+1) (s.drop i);rw[kL]at O D;generalize gU ((s.drop i).length+1) (s.drop i)=k at*
  obtain⟨k,kc⟩:=k;simp only at O xv D⊢;rw[bX];refine⟨_,rfl,?_⟩;rw[bX];refine⟨_,rfl,?_⟩;rw[cP,fZ (by omega) (by omega),show(i:Int)+(k:Nat)=((i+k:Nat):Int)by omega,bW];simp only[gX];refine GdW.look (decide (i+k=s.length)) (λ_ J hJ=>?_) λg3=>?_
  .rw[eR,bW,show decide (((i+k:Nat):Int)=((s.length:Nat):Int))=decide (i+k=s.length)by rw[decide_eq_decide];omega];exact hJ
  simp only[aG];rw[gM,fC];refine⟨λZ=>?_,λX=>?_⟩
  .simp only[bV,decide_eq_true_iff]at Z;rw[aE (by rw[Z.1];simp),aO (lG (by omega))]at D;simp only[eG,eP,aA,aD,aP,aU,Nat.reduceAdd,Nat.reduceLT,dQ,aZ];rw[dW];refine Ec (d:=kB ⟨0,[],((i+k:Nat):Int)⟩) rfl rfl λb w8 I xp hv F=>?_;refine iV aBT (hO.ext F) (uH (n:=1) hv) rfl (λu hu=>by simp only[kB,aX,bU,fT]at hu;rcases hu with rfl|rfl|rfl<;>rfl) (by omega) (by omega) (by have:=F.size;omega) λv' R B xz yz=>?_;have e:toks f++kB ⟨0,[],((i+k:Nat):Int)⟩=toks (f++[⟨0,[],((i+k:Nat):Int)⟩]):=(KZ _ _).symm;rw[e]at B;have A:Ext w R:=(T.trans F).then xz λq U e=>by have:=(lK hO e).2;omega
   refine H (f++[⟨0,[],((i+k:Nat):Int)⟩]) (by rw[<-D];rfl) v' R A (by rw[aB];exact B.sl) λq U=>⟨(lK B U).2,(lK B U).1⟩
  .have X:¬(kc=0/\i+k=s.length):=by
    rintro⟨C,S⟩;rw[C,S]at X;simp at X
   refine cO λa w8 ha xp hh F=>?_;have L:=T.trans F;refine dE.cut (λst R=>Ext w R/\Own R w.heap.size TkT 3 v f.length (toks f)/\w8.heap.size<=R.heap.size/\v.ownBlock≠some a/\∃(t:Tok) (n:Nat) (e:Int),st=[i64 e,i64 (n:Nat)]/\R.heap[a]?=some (.cells (kB t).toArray TkT (0,0))/\
    ((e≠0/\R0=.bad e ((i+k:Nat):Int))\/(e=0/\1<=n/\i+k+n<=s.length/\Utf (s.drop (i+k+n))/\QL f (if f.length=4096 then .bad 3 ((i+k:Nat):Int)else match nA m2 (s.drop (i+k+n)) (i+k+n) (f.length+1)with|.ok l=>.ok (⟨t.k,t.t,((i+k:Nat):Int)⟩::l)|x=>x)=R0))) ?_ ?_
   .have N:v.ownBlock≠some a:=λe=>by have:=(lK hO e).1;omega
    rw[bW,aY];refine⟨λG=>?_,λG=>?_⟩
    .rw[aE (by rw[G];simp)]at D;have xu:i+k<s.length:=by
      rcases qZ (i+k) s.length with h|h
      .exact h
      .exact absurd ⟨G,by omega⟩ X
     have hd:=mG xu;rw[aE (λe=>by rw[hd]at e;cases e)]at D;rw[fH,fJ,fF];refine⟨by omega,by omega,?_⟩;rw[dP,bD];have zc:(s.drop (i+k+1)).length=s.length-(i+k+1):=aW;rw[hd]at D O⊢;generalize s[i+k]=c at*
     generalize zb:s.drop (i+k+1)=r at*
     refine aFz (hT.ext L) O (by omega) λR A=>?_;rw[bX];refine⟨_,rfl,?_⟩;rw[bX];refine⟨_,rfl,?_⟩;rw[bX];refine⟨_,rfl,?_⟩;have xb:=Py O;have xc:=@Kd (c::r);generalize mY (c::r)=o at*
     obtain⟨t,n,e⟩:=o;simp only at xb D⊢;refine dH (l:=kB t) (A.at hh id) rfl rfl rfl λxm yi hj hg=>?_;have B:=(hO.ext F).ext A;refine⟨(L.trans A).new hg (by omega),eJ B hg λq U e=>N (e▸U),by have:=A.size;omega,N,?_⟩;by_cases he:e=0
     .subst he;rw[aE (by simp)]at D;obtain⟨n1,n2,_⟩:=xc (t:=t) (k:=n) (by simp) rfl;simp only[aA]at n2;refine⟨t,n,0,rfl,hj,.inr ⟨rfl,n1,by omega,?_,?_⟩⟩
      .rw[<-kL,hd];exact xb rfl
      .rw[<-kL,hd];exact D
     .rw[aO he]at D;exact⟨t,n,e,rfl,hj,.inl ⟨he,D.symm⟩⟩
    .rw[aO G]at D;exact⟨L,hO.ext F,aQ _,N,⟨0,[],0⟩,0,kc,rfl,hh,.inl ⟨G,D.symm⟩⟩
   rintro st g4 R ⟨A,B,yv,N,t,n,e,rfl,yb,y⟩;simp only[aG,bQ];refine dE.cut (λst W=>W=R/\∃e':Int,st=[i64 e']/\((e'≠0/\R0=.bad e' ((i+k:Nat):Int))\/(e'=0/\1<=n/\i+k+n<=s.length/\Utf (s.drop (i+k+n))/\f.length<4096/\QL f (match nA m2 (s.drop (i+k+n)) (i+k+n) (f.length+1)with|.ok l=>.ok (⟨t.k,t.t,((i+k:Nat):Int)⟩::l)|x=>x)=R0))) ?_ ?_
   .rw[bW];simp only[gX];refine GdW.look (decide (f.length=4096)) (λ_ J hJ=>?_) λg5=>?_
    .obtain⟨q,cap,ev,_⟩:=B.sl.shape;rw[ev,iT,bW,show decide (((f.length:Nat):Int)=4096)=decide (f.length=4096)by rw[decide_eq_decide];omega];exact hJ
    simp only[aG];rw[gM,fC];refine⟨λI=>?_,λI=>?_⟩
    .simp only[bV,decide_eq_true_iff]at I;refine⟨trivial,3,rfl,.inl ⟨by decide,?_⟩⟩;rcases y with⟨C,S⟩|⟨C,S,h3,h4,h5⟩
     .exact absurd I.1 C
     .rw[aO I.2]at h5;exact h5.symm
    .refine⟨trivial,e,rfl,?_⟩;rcases y with h|⟨C,S,h3,h4,h5⟩
     .exact .inl h
     .have:f.length≠4096:=λh=>by rw[C,h]at I;simp at I
      rw[aE this]at h5;exact .inr ⟨C,S,h3,h4,by omega,h5⟩
   rintro st g5 xm ⟨rfl,e',rfl,y⟩;simp only[aG];rw[fR,aY];refine⟨λxt=>?_,λheq=>?_⟩
   .rcases y with⟨C,S⟩|⟨C,_⟩
    .simp only[eG,eP,aA,aD,aP,aU,Nat.reduceAdd,Nat.reduceLT,dQ,aZ];exact bad (K':=K) e' (i+k) (λd W=>j e' _ S d W) A
    .exact absurd C xt
   .rcases y with⟨C,_⟩|⟨C,n1,n2,xr,zf,D⟩
    .exact absurd (by simpa using heq) C
    rw[bH,bN,aN];refine lJ yb rfl (by simp[kB]) λxl yh Q hf=>?_;have Q:xl.heap[a]?=some (.cells (kB ⟨t.k,t.t,((i+k:Nat):Int)⟩).toArray TkT (0,0)):=by rw[Q];simp[kB]
    have hn:=eJ B hf λq U e=>N (e▸U);have Y:=A.new hf (by omega);refine gL Q rfl ?_;refine Ec (d:=kB ⟨t.k,t.t,((i+k:Nat):Int)⟩) rfl rfl λb yu I yg hv M=>?_;refine iV aBT (hn.ext M) (uH (n:=1) hv) rfl (λu hu=>by simp only[kB,aX,bU,fT]at hu;rcases hu with rfl|rfl|rfl<;>rfl) (by omega) (by omega) (by have:=Y.size;have:=M.size;omega) λv' yt hk xg yk=>?_;rw[<-KZ]at hk;rw[cP,fZ (by omega) (by omega)];refine⟨⟨i+k+n,m2,f++[⟨t.k,t.t,((i+k:Nat):Int)⟩],v',by simp only[gC,Value.int.injEq,dQ,fQ];omega,by omega,xr,(Y.trans M).then xg λq U e=>?_,by rw[aB];exact hk,?_,by omega,by rw[aB,aA,aD];omega⟩,?_⟩
    .have:=(lK hn e).2;omega
    .rw[aB,<-QK];exact D
    .simp only[bD];omega
 ·
  have xw:¬s.length<=p:=by omega
  rw[aE xw]at E;have xa:Ext w w6:=ho.then ya λq U e=>by have e:q=w.heap.size:=e;omega
  rw[bX];refine⟨.bool true,rfl,?_⟩;rw[dF,bX];refine⟨i64 (p:Nat),rfl,?_⟩;rw[bX];refine⟨_,rfl,?_⟩;have xf:(Utf8.decode (ofL s) p).1=65533/\Lib.hasPrefix (s.drop p) [239,191,189]=false↔lD s p=0:=by
   constructor
   .rintro⟨C,S⟩;by_cases G:lD s p=0
    .exact G
    .obtain⟨c,hc⟩:=wK V G;have hd:=hc.dec;rw[hd]at C;have C:c=65533:=C;subst C;rw[RD hc]at S;cases S
   .intro G;rw[Lo V G];exact⟨rfl,VH G⟩
  rw[Vl V]at P;generalize (Utf8.decode (ofL s) p).1=c at*
  rw[bW,show decide (((c:Nat):Int)=65533)=decide (c=65533)by rw[decide_eq_decide];omega];simp only[gX];refine GdW.look (!Lib.hasPrefix (s.drop p) [239,191,189]) (λ_ J hJ=>?_) λg3=>?_
  .rw[fH,fJ,fF];refine⟨by omega,by omega,?_⟩;rw[dP,bD];refine CI ?_;rw[gK];exact hJ
  simp only[aG];rw[gM,fC];refine⟨λI=>?_,λI=>?_⟩
  .have G:lD s p=0:=xf.1 (by simpa using I);rw[aO G]at E;subst E;simp only[eG,eP,aA,aD,aP,aU,Nat.reduceAdd,Nat.reduceLT,dQ,aZ];exact bad (K':=K) 31 p (λd W=>j 31 _ rfl d W) xa
  .have G:lD s p≠0:=λh=>by
    have:=xf.2 h;rw[bS this.1,this.2]at I;cases I
   rw[aE G]at E;have xe:=QC V;have yl:=Te s p;refine⟨⟨p+zB s p,m,xe,trivial,P,xa,E,by omega⟩,?_⟩;rw[P,xd];show s.length-(p+zB s p)<s.length-p;omega
end
def Vd(w:World)(B:Nat):FO w B ⟨.slice none 0 0,.slice none 0 0,.slice none 0 0,[],[]⟩ ⟨[],[],[]⟩:=
 ⟨⟨by simp,.inl ⟨rfl,rfl⟩⟩,⟨by simp,.inl ⟨rfl,rfl⟩⟩,⟨by simp[ints],.inl ⟨rfl,rfl⟩⟩,lV.nil _ _,lV.nil _ _,nY,λk a=>by simp[ub,Value.ownBlock]at a,λk a=>by simp[ub,Value.ownBlock]at a⟩
section
variable [HX]
end
def ex1:Str:=[114,32,34,116,34,32,34,110,34,32,123,32,120,32,61,32,49,32,43,32,121,46,122,32,125]
def ex2:Str:=[97,32,123,32,120,32,61,32,49,32,121,32,61,32,50,32,125]
section
variable [HX]
end
end
section
open Go Go.Eng Go.RowKit Go.Syn Go.Lex
def cnt(n:Nat)(l:List Nat):List Nat:=(List.range n).map λj=>l.count j
def IC:∀(n:Nat) (l:List Nat),l.Nodup->(∀x∈l,x<n)->l.length<=n
 |0,l,_,h=>by
  cases l with
  |nil=>simp
  |cons x r=>have:=h x (by simp);omega
 |n+1,l,hd,h=>by
  have:=IC n (l.erase n) (hd.erase n) (λx b=>by
   have a:=(hd.mem_erase_iff).1 b
   have:=h x a.2
   have:=a.1
   omega)
  have:=@List.length_erase Nat _ _ n l
  split at this<;>omega
structure VW(n:Nat)(l:List Nat):Prop where
 one:∀j,j<n->l.count j=1
 lt:∀x∈l,x<n
def VW.nodup{l:List Nat}(h:VW n l):l.Nodup:=List.nodup_iff_count.2 λa=>by
 by_cases b:a<n
 .rw[h.one a b];omega
 .rw[EX (λc=>b (h.lt a c))];omega
def VW.len{l:List Nat}(h:VW n l):l.length<=n:=IC n l h.nodup h.lt
def BY{L:List (List Nat)}{r:List Nat}(h:eX L r):VW L.length (L.flatten++r):=
 ⟨λj b=>by rw[lT];exact h.once j b,λx a=>(bM.1 a).elim (h.flat_lt x) (h.low x)⟩
section
variable [HX]
end
variable{w0 w w':World}{B a ea eb:Nat}{M:Lay}{fl:Fl}{lE lB:List Nat}
end
section
open Go Go.Eng Go.RowKit Go.Syn Go.Lex
def EN{w:World}{b o:Nat}{c:Array Value}{T:TypeId}{fr:Nat×Nat}{d:List Value}(f:w.heap[b]?=some (.cells c T fr))(e:∀j,j<d.length->c[o+j]?=d[j]?):∀(n i:Nat),i+n=d.length->bZ w ⟨b,o,none⟩ i n=some (d.drop i)
 |0,i,h=>by simp only[bZ];rw[iQ (by omega)]
 |n+1,i,h=>by
  have a:i<d.length:=by omega
  simp only[bZ,bN,cS,f,bT,e i a,aH a]
  rw[EN f e n (i+1) (by omega)]
  simp
def Ge{size:Nat}{k:IntKind}{K:Value->Prop}(h:SlAt w T v n cs)(l:cs.length=n*size)(f:0<size)(a:i<n)(e:(cs.drop (i*size)).take size=d)(r:K (.agg d.toArray)):
  fX none size v (.int k i) λt=>ldW true size t w K:=by
 have g:i*size+size<=n*size:=by rw[<-sT];exact dU _ a
 have m:d.length=size:=by rw[<-e,cG,aW];omega
 refine ED h l f a λb o c fr q p=>?_;rw[Au];refine⟨d,?_,r⟩;have:=EN (d:=d) q (λj s=>by rw[p j (by omega),<-e,gB (by omega),iF]) size 0 (by omega);simpa using this
def ZZ{l:List Atr}{a:Atr}(h:l[i]?=some a):((lP l).drop (i*3)).take 3=[str a.n,i64 (a.e:Nat),i64 a.a]:=by
 have g:∀j,j<3->(lP l)[i*3+j]?=[str a.n,i64 (a.e:Nat),i64 a.a][j]?:=λj b=>Ch _ (λ_=>rfl) l i j a h b;apply Cp;intro j;by_cases b:j<3
 .rw[gB b,iF,g j b]
 .rw[dY (by rw[cG];omega),dY (by simp;omega)]
def Gf{l:List Nat}{x:Nat}(h:l[i]?=some x):(ints l)[i]?=some (i64 (x:Nat)):=by simp[ints,h]
variable [HX]
end
section
open Go Go.Eng Go.RowKit Go.Syn Go.Lex
def aFC{len k:Nat}{l:List Value}{x:Value}{K:Value->Prop}(b:k<len)(a:l[k]?=some x)(h:K x):UK len false 1 (.agg l.toArray) (i64 (k:Nat)) K:=by
 refine⟨by omega,by omega,?_⟩;show∃c,l.toArray[((k:Nat):Int).toNat*1]?=some c/\K c;exact⟨x,by rw[bD,Nat.mul_one,bP];exact a,h⟩
def wV{l:List Str}{k:Nat}(h:k<l.length):(strs l)[k]?=some (str (l.getD k [])):=by
 rw[strs,dV,aH h,aM,aH h];rfl
def AK{A:(Value->Prop)->Prop}{B:Value->Prop}(b:A (λx=>x=v))(a:B v):GqW true A B:=(VZ A B).2 ⟨v,b,a⟩
def OM{A:(Q0)->Prop}{B:Q0}(h:A B):GeW true w A B:=⟨λ_=>h,(λe=>by cases e)⟩
def IM{s:Nat}{i:Value}(h:fX none s v i F):∃p,fX none s v i (λx=>x=p)/\F p:=by
 unfold fX at h⊢;split at h
 all_goals first
  |exact h.elim
  |exact⟨_,⟨h.1,h.2.1,rfl⟩,h.2.2⟩
section
variable [HX]
end
def ExV(w:World)(e:Ex)(c:List Value):Prop:=
 ∃va vk,c=[i64 e.k,str e.t,va,vk,i64 e.a]/\SlAt w mA va e.args.length (ints e.args)/\SlAt w StT vk e.keys.length (strs e.keys)
def BkV(w:World)(b:Blk)(c:List Value):Prop:=
 ∃vl va vb,c=[str b.typ,vl,va,vb,i64 b.a]/\SlAt w StT vl b.labels.length (strs b.labels)/\SlAt w AtT va b.attrs.length (lP b.attrs)/\SlAt w mA vb b.blocks.length (ints b.blocks)
structure FV(w:World)(M:Lay)(fl:Fl):Prop where
 oE:SlAt w ExT M.vE fl.ex.length M.cE
 oB:SlAt w BkT M.vB fl.bl.length M.cB
 oT:SlAt w mA M.vT fl.top.length (ints fl.top)
 ee:lV (ExV w) 5 fl.ex M.cE
 bb:lV (BkV w) 5 fl.bl M.cB
def FO.fv{B:Nat}{M:Lay}{fl:Fl}(h:FO w B M fl):FV w M fl:=
 ⟨h.oE.sl,h.oB.sl,h.oT.sl,h.ee.imp λ_ _ _ ⟨va,vk,e,b,a⟩=>⟨va,vk,e,b.sl,a.sl⟩,h.bb.imp λ_ _ _ ⟨vl,va,vb,e,c,b,a⟩=>⟨vl,va,vb,e,c.sl,b.sl,a.sl⟩⟩
def FV.ext{M:Lay}{fl:Fl}(h:FV w M fl)(a:Ext w W):FV W M fl:=
 ⟨h.oE.ext a,h.oB.ext a,h.oT.ext a,h.ee.imp λ_ _ _ ⟨va,vk,e,c,b⟩=>⟨va,vk,e,c.ext a,b.ext a⟩,h.bb.imp λ_ _ _ ⟨vl,va,vb,e,d,c,b⟩=>⟨vl,va,vb,e,d.ext a,c.ext a,b.ext a⟩⟩
def FV.exI{M:Lay}{fl:Fl}{e:Ex}{k:IntKind}(h:FV w M fl)(b:fl.ex[i]?=some e):∃va vk,SlAt w mA va e.args.length (ints e.args)/\SlAt w StT vk e.keys.length (strs e.keys)/\∃p,fX none 5 M.vE (.int k i) (λx=>x=p)/\ldW true 5 p w λx=>x=.agg [i64 e.k,str e.t,va,vk,i64 e.a].toArray:=by
 obtain⟨va,vk,f,d,c⟩:=h.ee.2 i e b;exact⟨va,vk,d,c,IM (Ge (K:=λx=>x=_) h.oE h.ee.1 (by omega) (bJ.1 b).1 f rfl)⟩
def PM{p:Value}{K:Value->Prop}(h:ldW E n p w λx=>x=v)(b:K v):ldW E n p w K:=by
 unfold ldW at h⊢;split at h
 .cases E with
  |true=>obtain⟨l,a,rfl⟩:=h;exact⟨l,a,b⟩
  |false=>obtain⟨x,a,rfl⟩:=h;exact⟨x,a,b⟩
 .exact h.elim
def Oj{s:Nat}{i p:Value}{K:Value->Prop}(h:fX none s v i λx=>x=p)(a:K p):fX none s v i K:=by
 unfold fX at h⊢;split at h
 all_goals first
  |exact h.elim
  |exact⟨h.1,h.2.1,by have e:=h.2.2;rw[e];exact a⟩
def upj(h:i<9223372036854775807):IntKind.i64.wrap ((i:Int)+1)=((i+1:Nat):Int):=by rw[fZ (by omega) (by omega)];rfl
def FS{B:Nat}{xs:List Value}(h:Own w B T m v n xs):n<=9223372036854775807:=by
 obtain⟨_,⟨_,rfl⟩|⟨g,cap,cur,_,_,_,b,a,_⟩⟩:=h
 .omega
 .unfold maxLen at a;omega
section
variable [HX]
def Wp{u:Value}{m:List Str}(c:SlAt w T u m.length (strs m))(h:SlAt w U v m.length (strs m))(l:m.length<=9223372036854775807)(k:∀W,Ext w W->K (.bool true) W):aL P0 25 [u,v] w K:=by
 refine aEU ?_;unfold W25;rw[gQ c,gQ h,fR,cX (by simp),cI,gQ c];refine eK.go (λst W=>∃i:Nat,st=[i64 (i:Nat)]/\i<=m.length/\Ext w W) (λst _=>match st with|[.int _ i]=>m.length-i.toNat|_=>0) ⟨0,rfl,by omega,Chg.refl _ _⟩ ?_;rintro st g d ⟨i,rfl,n,e⟩;simp only[aG];rw[eC,aY];refine⟨λb=>?_,λj=>k d e⟩;have b:i<m.length:=by omega
 have f:=wV b;have a:=e.trans (cQ d);refine mC (c.ext a) (by simp[strs]) f ?_;refine mC (h.ext a) (by simp[strs]) f ?_;rw[iB,cX (by simp),cI,cP,upj (by omega)];refine⟨⟨i+1,rfl,by omega,a⟩,?_⟩;simp only[bD];omega
end
end
section
open Go Go.Eng Go.RowKit Go.Syn Go.Lex Go.Cfg
abbrev VrT:TypeId:=69
abbrev RsT:TypeId:=71
abbrev ClT:TypeId:=73
abbrev MdT:TypeId:=67
abbrev MoT:TypeId:=177
def aFG:tV P0 63 VrT 3 32:=⟨by kernel_rfl,by kernel_rfl,by decide⟩
def aFH:tV P0 64 RsT 9 112:=⟨by kernel_rfl,by kernel_rfl,by decide⟩
def aFK:tV P0 65 ClT 4 56:=⟨by kernel_rfl,by kernel_rfl,by decide⟩
def aFI:tV P0 58 MdT 9 208:=⟨by kernel_rfl,by kernel_rfl,by decide⟩
def fO(h:SlAt w T v n cs):kJ v=true:=by
 obtain⟨q,cap,rfl,_⟩:=h.shape;rfl
def vrs(l:List Vr):List Value:=l.flatMap λv=>[str v.n,i64 v.d,i64 v.a]
def OT(l:List Vr):(vrs l).length=l.length*3:=zN _ (λ_=>rfl) l
def Wc(a b:List Vr):vrs (a++b)=vrs a++vrs b:=by simp[vrs]
def RsR(w:World)(B:Nat)(r:Rs)(c:List Value):Prop:=
 ∃va vd,c=[str r.ty,str r.n,va,i64 r.count,i64 r.each,.bool r.swap,.bool r.prev,vd,i64 r.a]/\Own w B AtT 3 va r.attrs.length (lP r.attrs)/\Own w B StT 1 vd r.deps.length (strs r.deps)
def ClR(w:World)(B:Nat)(r:Cl)(c:List Value):Prop:=
 ∃va,c=[str r.n,i64 (r.mod:Nat),va,i64 r.a]/\Own w B AtT 3 va r.args.length (lP r.args)
def RsR.at_{B:Nat}{e:Rs}{c:List Value}(h:RsR w B e c)(b:Chg S w W)(d:∀k∈ub c,¬S k):RsR W B e c:=by
 obtain⟨va,vk,rfl,g,f⟩:=h;exact⟨va,vk,rfl,eJ g b λk a=>d k (eZ (v:=va) (by simp) a),eJ f b λk a=>d k (eZ (v:=vk) (by simp) a)⟩
def ClR.at_{B:Nat}{e:Cl}{c:List Value}(h:ClR w B e c)(b:Chg S w W)(d:∀k∈ub c,¬S k):ClR W B e c:=by
 obtain⟨va,rfl,f⟩:=h;exact⟨va,rfl,eJ f b λk a=>d k (eZ (v:=va) (by simp) a)⟩
def RsR.low{B:Nat}{e:Rs}{c:List Value}(h:RsR w B e c)(a:i<=B):RsR w i e c:=by
 obtain⟨va,vk,rfl,d,b⟩:=h;exact⟨va,vk,rfl,d.base a,b.base a⟩
def ClR.low{B:Nat}{e:Cl}{c:List Value}(h:ClR w B e c)(a:i<=B):ClR w i e c:=by
 obtain⟨va,rfl,b⟩:=h;exact⟨va,rfl,b.base a⟩
structure ML where
 M:Lay
 vV:Value
 vL:Value
 vO:Value
 vR:Value
 vC:Value
 cR:List Value
 cC:List Value
def ML.vals(L:ML):List Value:=[L.M.vE,L.M.vB,L.M.vT]++(L.M.cE++L.M.cB)++([L.vV,L.vL,L.vO,L.vR,L.vC]++(L.cR++L.cC))
def ML.cells(L:ML)(dir:Str):List Value:=[str dir,L.M.vE,L.M.vB,L.M.vT,L.vV,L.vL,L.vO,L.vR,L.vC]
structure MdR(w:World)(B:Nat)(L:ML)(m:Md):Prop where
 fo:FO w B L.M m.fl
 oV:Own w B VrT 3 L.vV m.vars.length (vrs m.vars)
 oL:Own w B AtT 3 L.vL m.locs.length (lP m.locs)
 oO:Own w B AtT 3 L.vO m.outs.length (lP m.outs)
 oR:Own w B RsT 9 L.vR m.res.length L.cR
 oC:Own w B ClT 4 L.vC m.calls.length L.cC
 rr:lV (RsR w B) 9 m.res L.cR
 cc:lV (ClR w B) 4 m.calls L.cC
 lt:∀k∈ub L.vals,k<w.heap.size/\B<=k
def ML.file(L:ML):∀v∈[L.M.vE,L.M.vB,L.M.vT]++(L.M.cE++L.M.cB),v∈L.vals:=λv a=>cH _ a
def MdR.keep{B:Nat}{L:ML}{m:Md}(h:MdR w B L m)(b:Chg S w W)(f:∀k∈ub L.vals,¬S k):MdR W B L m:=by
 have e:∀v∈L.vals,∀k,v.ownBlock=some k->¬S k:=λv c k a=>f k (eZ c a);refine⟨h.fo.keep b λk _ _ a=>f k (Gs L.file k a),eJ h.oV b (e _ (by simp[ML.vals])),eJ h.oL b (e _ (by simp[ML.vals])),eJ h.oO b (e _ (by simp[ML.vals])),eJ h.oR b (e _ (by simp[ML.vals])),eJ h.oC b (e _ (by simp[ML.vals])),?_,?_,λk a=>⟨dM (h.lt k a).1 b.size,(h.lt k a).2⟩⟩
 .exact h.rr.imp λx d i g=>g.at_ b λk a=>f k (Gs (λv c=>by simp[ML.vals,i v c]) k a)
 .exact h.cc.imp λx d i g=>g.at_ b λk a=>f k (Gs (λv c=>by simp[ML.vals,i v c]) k a)
def MdR.low{B:Nat}{L:ML}{m:Md}(h:MdR w B L m)(a:i<=B):MdR w i L m:=
 ⟨h.fo.low a,h.oV.base a,h.oL.base a,h.oO.base a,h.oR.base a,h.oC.base a,h.rr.imp λ_ _ _ b=>b.low a,h.cc.imp λ_ _ _ b=>b.low a,λk c=>⟨(h.lt k c).1,dN a (h.lt k c).2⟩⟩
class FK where
 F:Nat->Obj->Prop
def usM(p:Nat)(L:ML)(vS:Value):List Nat:=p::(ub [vS]++ub L.vals)
structure MR[FK](w0 w:World)(p:Nat)(L:ML)(vS:Value)(path:Str)(s:MS):Prop where
 ch:Ext w0 w
 pm:w.heap[p]?=some (.cells (L.cells s.m.dir++[str path,vS]).toArray MoT (0,0))
 md:MdR w w0.heap.size L s.m
 oS:Own w w0.heap.size StT 1 vS s.src.length (strs s.src)
 nd:(usM p L vS).Nodup
 lp:w0.heap.size<=p
 fk:∀k o,FK.F k o->w.heap[k]?=some o/\k∉usM p L vS
section
variable [FK]{w0 w w' w1 w2:World}{p:Nat}{L:ML}{vS:Value}{path:Str}{s:MS}
def MR.plt(h:MR w0 w p L vS path s):p<w.heap.size:=pC h.pm
def MR.in_(h:MR w0 w p L vS path s):∀k∈usM p L vS,k<w.heap.size/\w0.heap.size<=k:=by
 intro k a;unfold usM at a;rcases aX.1 a with rfl|a
 .exact⟨h.plt,h.lp⟩
 rcases bM.1 a with a|a
 .obtain⟨g1,g2⟩:=lK h.oS (kM.1 a);exact⟨g1,g2⟩
 .exact h.md.lt k a
def MR.keep(h:MR w0 w p L vS path s)(b:Chg S w W)(d:∀k∈usM p L vS,¬S k)(g:∀k,k<w0.heap.size->¬S k)(f:∀k o,FK.F k o->¬S k):MR w0 W p L vS path s:=
 ⟨h.ch.then b λk a e=>(g k a e).elim,b.at h.pm (d p (by simp[usM])),h.md.keep b λk a=>d k (by simp[usM,a]),eJ h.oS b λk a=>d k (by simp[usM,eZ (v:=vS) (c:=[vS]) (by simp) a]),h.nd,h.lp,λk o a=>⟨b.at (h.fk k o a).1 (f k o a),(h.fk k o a).2⟩⟩
def MR.ext(h:MR w0 w p L vS path s)(a:Ext w W):MR w0 W p L vS path s:=h.keep a (λ_ _ e=>e) (λ_ _ e=>e) λ_ _ _ e=>e
def MR.drew(h:MR w0 w p L vS path s):MR w0 w.drew p L vS path s:=h.ext (cQ w)
def yP(w0 w:World)(p:Nat)(L:ML)(vS:Value)(k:Nat):Prop:=w0.heap.size<=k/\k<w.heap.size/\k∉usM p L vS/\∀o,¬FK.F k o
def MR.off_new(h:MR w0 w p L vS path s){k:Nat}(b:w.heap.size<=k)(a:k<W.heap.size):yP w0 W p L vS k:=
 ⟨by have:=h.ch.size;omega,a,λe=>by have:=(h.in_ k e).1;omega,λo e=>by have:=pC (h.fk k o e).1;omega⟩
def yP.up{k:Nat}(h:yP w0 w p L vS k)(a:w.heap.size<=W.heap.size):yP w0 W p L vS k:=⟨h.1,dM h.2.1 a,h.2.2⟩
def MR.one{b:Nat}{d:World}(h:MR w0 w p L vS path s)(f:Chg (One b) w W)(c:yP w0 d p L vS b):MR w0 W p L vS path s:=
 h.keep f (λk a e=>c.2.2.1 (by have e:k=b:=e;exact e▸a)) (λk a e=>by have e:k=b:=e;have:=c.1;omega) λk o a e=>c.2.2.2 o (by have e:k=b:=e;exact e▸a)
structure Mf(w0 w:World)(p:Nat)(M:Lay)(path:Str)(fl:Fl):Prop where
 ch:Ext w0 w
 pE:∃cs:List Value,w.heap[p]?=some (.cells cs.toArray MoT (0,0))/\cs[1]?=some M.vE/\cs[2]?=some M.vB/\cs[3]?=some M.vT/\cs[9]?=some (str path)
 fo:FO w w0.heap.size M fl
def MR.mf(h:MR w0 w p L vS path s):Mf w0 w p L.M path s.m.fl:=⟨h.ch,⟨_,h.pm,rfl,rfl,rfl,rfl⟩,h.md.fo⟩
def MR.ld{off:Nat}{K:Value->Prop}(h:MR w0 w p L vS path s)(a:(L.cells s.m.dir++[str path,vS])[off]?=some v)(b:K v):ldW false 1 (.pointer (some ⟨p,off,none⟩)) w K:=by
 rw[fB];refine⟨v,?_,b⟩;rw[cS,h.pm,bT];simpa using a
def CX{A B:List Value}{z:Nat}{v':Value}(b:(p::(ub (A++v::B))).Nodup)(j:∀k,v'.ownBlock=some k->v.ownBlock=some k\/z<=k)(d:∀k∈p::ub (A++v::B),k<z):(p::ub (A++v'::B)).Nodup:=by
 have e:∀u:Value,ub (A++u::B)=ub A++(u.ownBlock.toList++ub B):=λu=>by
  rw[qE];congr 1;unfold ub;rw[gT];cases u.ownBlock<;>rfl
 rw[e]at b d⊢;cases f:v'.ownBlock with
 |none=>
  refine b.sublist ?_;simp only[Option.toList_none,dS];exact(AI (yW _ _) _).cons_cons _
 |some k=>
  rcases j k f with h|h
  .rw[h]at b;exact b
  .have i:∀x∈p::(ub A++ub B),x≠k:=λx a e=>by
    have a:x∈p::(ub A++(v.ownBlock.toList++ub B)):=by
     rcases aX.1 a with rfl|a
     .exact bC
     .rcases bM.1 a with a|a
      .simp[a]
      .simp[a]
    have:=d x a;omega
   have c:(p::(ub A++ub B)).Nodup:=b.sublist ((AI (yW _ _) _).cons_cons _);have:(p::(ub A++([k]++ub B))).Perm (k::p::(ub A++ub B)):=by
    refine(List.Perm.cons p ?_).trans (List.Perm.swap _ _ _);exact pI
   exact(this.nodup_iff).2 (dX.2 ⟨λg=>i k g rfl,c⟩)
def uT{A B:List Value}(d:(p::ub (A++v::B)).Nodup):∀u∈A++B,∀k,u.ownBlock=some k->¬(v.ownBlock=some k\/k=p):=by
 intro u a k b e;have c:∀x∈ub (A++v::B),x≠p:=λx h e=>(dX.1 d).1 (e▸h);rcases e with e|e
 .have g:=(dX.1 d).2;rw[qE,iE]at g;obtain⟨_,f,j⟩:=g;have i:k∈ub (v::B):=eZ (v:=v) (by simp) e;rcases bM.1 a with a|a
  .exact j k (eZ a b) k i rfl
  .have l:ub (v::B)=k::ub B:=by unfold ub;rw[gT,e]
   rw[l]at f;exact(dX.1 f).1 (eZ a b)
 .subst e;rcases bM.1 a with a|a
  .exact c k (eZ (cH _ a) b) rfl
  .exact c k (eZ (bR _ (aF _ a)) b) rfl
def SL{A B:List Value}(d:(p::ub (A++B)).Nodup)(f:(ub D).Nodup)(c:∀k∈ub D,k∉p::ub (A++B)):(p::ub (A++(D++B))).Nodup:=by
 have e:(p::ub (A++(D++B))).Perm (ub D++(p::ub (A++B))):=by
  rw[qE,qE,qE];refine(List.Perm.cons p ?_).trans List.perm_middle.symm;rw[<-cD,<-cD];exact List.Perm.append_right _ List.perm_append_comm
 rw[e.nodup_iff,iE];exact⟨f,d,λa h b g e=>c a h (e▸g)⟩
def kR(p:Nat)(L:ML)(vS:Value):usM p L vS=p::ub ([vS]++L.vals):=by unfold usM;rw[qE]
def FL(b:Chg (λk=>v.ownBlock=some k) w w1)(a:Chg (One p) w1 w2):Chg (λk=>v.ownBlock=some k\/k=p) w w2:=(b.mono λ_ _ e=>.inl e).trans (a.mono λ_ _ e=>.inr e)
def new_ne{v':Value}(c:∀k,v'.ownBlock=some k->v.ownBlock=some k\/w.heap.size<=k)(a:∀k,v.ownBlock=some k->k≠p)(d:p<w.heap.size):∀k,v'.ownBlock=some k->¬One p k:=λk b e=>by
 have e:k=p:=e
 subst e
 rcases c k b with h|h
 .exact a k h rfl
 .omega
theorem MR.put_V{v':Value}{x:Vr}(h:MR w0 w p L vS path s)(D:Own w1 w0.heap.size VrT 3 v' (s.m.vars.length+1) (vrs s.m.vars++vrs [x]))(G:Chg (λk=>L.vV.ownBlock=some k) w w1)(l:∀k,v'.ownBlock=some k->L.vV.ownBlock=some k\/w.heap.size<=k)
  (F:w2.heap[p]?=some (.cells (({L with vV:=v'}:ML).cells s.m.dir++[str path,vS]).toArray MoT (0,0)))(j:Chg (One p) w1 w2):MR w0 w2 p {L with vV:=v'} vS path {s with m:={s.m with vars:=s.m.vars++[x]}}:=by
 have E:[vS]++L.vals=([vS]++(([L.M.vE,L.M.vB,L.M.vT]++(L.M.cE++L.M.cB))++[]))++L.vV::([L.vL,L.vO,L.vR,L.vC]++(L.cR++L.cC)):=by simp[ML.vals]
 have i:=h.nd;have g:=h.in_;rw[kR,E]at i g;have b:=uT i;have c:=FL G j;have I:=c.size;have r:∀k,L.vV.ownBlock=some k->k≠p:=λk d e=>(dX.1 i).1 (by rw[<-e];exact eZ (v:=L.vV) (by simp) d);have A:FO w2 w0.heap.size L.M s.m.fl:=h.md.fo.keep c λk _ _ d=>by
  obtain⟨v,a,d⟩:=cA.1 d;exact b v (cH _ (bR _ (cH _ a))) k d
 have u:lV (RsR w2 w0.heap.size) 9 s.m.res L.cR:=h.md.rr.imp λy e B q=>q.at_ c λk d=>by
  obtain⟨v,a,d⟩:=cA.1 d;exact b v (bR _ (by simp[B v a])) k d
 have C:lV (ClR w2 w0.heap.size) 4 s.m.calls L.cC:=h.md.cc.imp λy e B q=>q.at_ c λk d=>by
  obtain⟨v,a,d⟩:=cA.1 d;exact b v (bR _ (by simp[B v a])) k d
 refine⟨h.ch.then c λk d e=>?_,F,⟨A,by rw[Wc,aB];exact eJ D j (new_ne l r h.plt),eJ h.md.oL c (b _ (by simp)),eJ h.md.oO c (b _ (by simp)),eJ h.md.oR c (b _ (by simp)),eJ h.md.oC c (b _ (by simp)),u,C,λk d=>?_⟩,eJ h.oS c (b _ (by simp)),?_,h.lp,?_⟩
 .rcases e with e|e
  .have:=(g k (aF _ (eZ (v:=L.vV) (by simp) e))).2;omega
  .have:=h.lp;omega
 .obtain⟨v,a,f⟩:=cA.1 d;have a:v=v'\/v∈([vS]++(([L.M.vE,L.M.vB,L.M.vT]++(L.M.cE++L.M.cB))++[]))++([L.vL,L.vO,L.vR,L.vC]++(L.cR++L.cC)):=by
   simp only[ML.vals,bM,aX,bU,fT]at a⊢
   try simp only[or_assoc]at a⊢
   grind
  rcases a with rfl|a
  .rcases l k f with e|e
   .have:=g k (aF _ (eZ (v:=L.vV) (by simp) e));omega
   .have N:=lK D f;have K:=j.size;have J:=h.ch.size;omega
  .have:v∈([vS]++(([L.M.vE,L.M.vB,L.M.vT]++(L.M.cE++L.M.cB))++[]))++L.vV::([L.vL,L.vO,L.vR,L.vC]++(L.cR++L.cC)):=by
    rcases bM.1 a with a|a
    .exact cH _ a
    .exact bR _ (aF _ a)
   have:=g k (aF _ (eZ this f));omega
 .have t:=CX (v':=v') (z:=w.heap.size) i l λk d=>(g k d).1;rw[kR];have H:[vS]++({L with vV:=v'}:ML).vals=([vS]++(([L.M.vE,L.M.vB,L.M.vT]++(L.M.cE++L.M.cB))++[]))++v'::([L.vL,L.vO,L.vR,L.vC]++(L.cR++L.cC)):=by simp[ML.vals]
  rw[H];exact t
 .intro k o d;obtain⟨g1,g2⟩:=h.fk k o d;have g3:=pC g1;rw[kR,E]at g2;refine⟨c.at g1 λe=>?_,λn=>?_⟩
  .rcases e with e|e
   .exact g2 (aF _ (eZ (v:=L.vV) (by simp) e))
   .exact g2 (by rw[e];exact bC)
  .rw[kR]at n;rcases aX.1 n with e|n
   .exact g2 (by rw[e];exact bC)
   obtain⟨v,a,f⟩:=cA.1 n;have a:v=v'\/v∈([vS]++(([L.M.vE,L.M.vB,L.M.vT]++(L.M.cE++L.M.cB))++[]))++([L.vL,L.vO,L.vR,L.vC]++(L.cR++L.cC)):=by
    simp only[ML.vals,bM,aX,bU,fT]at a⊢
    try simp only[or_assoc]at a⊢
    grind
   rcases a with rfl|a
   .rcases l k f with e|e
    .exact g2 (aF _ (eZ (v:=L.vV) (by simp) e))
    .omega
   .refine g2 (aF _ (eZ ?_ f));rcases bM.1 a with a|a
    .exact cH _ a
    .exact bR _ (aF _ a)
theorem MR.put_L{v':Value}{x:Atr}(h:MR w0 w p L vS path s)(D:Own w1 w0.heap.size AtT 3 v' (s.m.locs.length+1) (lP s.m.locs++lP [x]))(G:Chg (λk=>L.vL.ownBlock=some k) w w1)(l:∀k,v'.ownBlock=some k->L.vL.ownBlock=some k\/w.heap.size<=k)
  (F:w2.heap[p]?=some (.cells (({L with vL:=v'}:ML).cells s.m.dir++[str path,vS]).toArray MoT (0,0)))(j:Chg (One p) w1 w2):MR w0 w2 p {L with vL:=v'} vS path {s with m:={s.m with locs:=s.m.locs++[x]}}:=by
 have E:[vS]++L.vals=([vS]++(([L.M.vE,L.M.vB,L.M.vT]++(L.M.cE++L.M.cB))++[L.vV]))++L.vL::([L.vO,L.vR,L.vC]++(L.cR++L.cC)):=by simp[ML.vals]
 have i:=h.nd;have g:=h.in_;rw[kR,E]at i g;have b:=uT i;have c:=FL G j;have I:=c.size;have r:∀k,L.vL.ownBlock=some k->k≠p:=λk d e=>(dX.1 i).1 (by rw[<-e];exact eZ (v:=L.vL) (by simp) d);have A:FO w2 w0.heap.size L.M s.m.fl:=h.md.fo.keep c λk _ _ d=>by
  obtain⟨v,a,d⟩:=cA.1 d;exact b v (cH _ (bR _ (cH _ a))) k d
 have u:lV (RsR w2 w0.heap.size) 9 s.m.res L.cR:=h.md.rr.imp λy e B q=>q.at_ c λk d=>by
  obtain⟨v,a,d⟩:=cA.1 d;exact b v (bR _ (by simp[B v a])) k d
 have C:lV (ClR w2 w0.heap.size) 4 s.m.calls L.cC:=h.md.cc.imp λy e B q=>q.at_ c λk d=>by
  obtain⟨v,a,d⟩:=cA.1 d;exact b v (bR _ (by simp[B v a])) k d
 refine⟨h.ch.then c λk d e=>?_,F,⟨A,eJ h.md.oV c (b _ (by simp)),by rw[Eg,aB];exact eJ D j (new_ne l r h.plt),eJ h.md.oO c (b _ (by simp)),eJ h.md.oR c (b _ (by simp)),eJ h.md.oC c (b _ (by simp)),u,C,λk d=>?_⟩,eJ h.oS c (b _ (by simp)),?_,h.lp,?_⟩
 .rcases e with e|e
  .have:=(g k (aF _ (eZ (v:=L.vL) (by simp) e))).2;omega
  .have:=h.lp;omega
 .obtain⟨v,a,f⟩:=cA.1 d;have a:v=v'\/v∈([vS]++(([L.M.vE,L.M.vB,L.M.vT]++(L.M.cE++L.M.cB))++[L.vV]))++([L.vO,L.vR,L.vC]++(L.cR++L.cC)):=by
   simp only[ML.vals,bM,aX,bU,fT]at a⊢
   try simp only[or_assoc]at a⊢
   grind
  rcases a with rfl|a
  .rcases l k f with e|e
   .have:=g k (aF _ (eZ (v:=L.vL) (by simp) e));omega
   .have N:=lK D f;have K:=j.size;have J:=h.ch.size;omega
  .have:v∈([vS]++(([L.M.vE,L.M.vB,L.M.vT]++(L.M.cE++L.M.cB))++[L.vV]))++L.vL::([L.vO,L.vR,L.vC]++(L.cR++L.cC)):=by
    rcases bM.1 a with a|a
    .exact cH _ a
    .exact bR _ (aF _ a)
   have:=g k (aF _ (eZ this f));omega
 .have t:=CX (v':=v') (z:=w.heap.size) i l λk d=>(g k d).1;rw[kR];have H:[vS]++({L with vL:=v'}:ML).vals=([vS]++(([L.M.vE,L.M.vB,L.M.vT]++(L.M.cE++L.M.cB))++[L.vV]))++v'::([L.vO,L.vR,L.vC]++(L.cR++L.cC)):=by simp[ML.vals]
  rw[H];exact t
 .intro k o d;obtain⟨g1,g2⟩:=h.fk k o d;have g3:=pC g1;rw[kR,E]at g2;refine⟨c.at g1 λe=>?_,λn=>?_⟩
  .rcases e with e|e
   .exact g2 (aF _ (eZ (v:=L.vL) (by simp) e))
   .exact g2 (by rw[e];exact bC)
  .rw[kR]at n;rcases aX.1 n with e|n
   .exact g2 (by rw[e];exact bC)
   obtain⟨v,a,f⟩:=cA.1 n;have a:v=v'\/v∈([vS]++(([L.M.vE,L.M.vB,L.M.vT]++(L.M.cE++L.M.cB))++[L.vV]))++([L.vO,L.vR,L.vC]++(L.cR++L.cC)):=by
    simp only[ML.vals,bM,aX,bU,fT]at a⊢
    try simp only[or_assoc]at a⊢
    grind
   rcases a with rfl|a
   .rcases l k f with e|e
    .exact g2 (aF _ (eZ (v:=L.vL) (by simp) e))
    .omega
   .refine g2 (aF _ (eZ ?_ f));rcases bM.1 a with a|a
    .exact cH _ a
    .exact bR _ (aF _ a)
theorem MR.put_O{v':Value}{x:Atr}(h:MR w0 w p L vS path s)(D:Own w1 w0.heap.size AtT 3 v' (s.m.outs.length+1) (lP s.m.outs++lP [x]))(G:Chg (λk=>L.vO.ownBlock=some k) w w1)(l:∀k,v'.ownBlock=some k->L.vO.ownBlock=some k\/w.heap.size<=k)
  (F:w2.heap[p]?=some (.cells (({L with vO:=v'}:ML).cells s.m.dir++[str path,vS]).toArray MoT (0,0)))(j:Chg (One p) w1 w2):MR w0 w2 p {L with vO:=v'} vS path {s with m:={s.m with outs:=s.m.outs++[x]}}:=by
 have E:[vS]++L.vals=([vS]++(([L.M.vE,L.M.vB,L.M.vT]++(L.M.cE++L.M.cB))++[L.vV,L.vL]))++L.vO::([L.vR,L.vC]++(L.cR++L.cC)):=by simp[ML.vals]
 have i:=h.nd;have g:=h.in_;rw[kR,E]at i g;have b:=uT i;have c:=FL G j;have I:=c.size;have r:∀k,L.vO.ownBlock=some k->k≠p:=λk d e=>(dX.1 i).1 (by rw[<-e];exact eZ (v:=L.vO) (by simp) d);have A:FO w2 w0.heap.size L.M s.m.fl:=h.md.fo.keep c λk _ _ d=>by
  obtain⟨v,a,d⟩:=cA.1 d;exact b v (cH _ (bR _ (cH _ a))) k d
 have u:lV (RsR w2 w0.heap.size) 9 s.m.res L.cR:=h.md.rr.imp λy e B q=>q.at_ c λk d=>by
  obtain⟨v,a,d⟩:=cA.1 d;exact b v (bR _ (by simp[B v a])) k d
 have C:lV (ClR w2 w0.heap.size) 4 s.m.calls L.cC:=h.md.cc.imp λy e B q=>q.at_ c λk d=>by
  obtain⟨v,a,d⟩:=cA.1 d;exact b v (bR _ (by simp[B v a])) k d
 refine⟨h.ch.then c λk d e=>?_,F,⟨A,eJ h.md.oV c (b _ (by simp)),eJ h.md.oL c (b _ (by simp)),by rw[Eg,aB];exact eJ D j (new_ne l r h.plt),eJ h.md.oR c (b _ (by simp)),eJ h.md.oC c (b _ (by simp)),u,C,λk d=>?_⟩,eJ h.oS c (b _ (by simp)),?_,h.lp,?_⟩
 .rcases e with e|e
  .have:=(g k (aF _ (eZ (v:=L.vO) (by simp) e))).2;omega
  .have:=h.lp;omega
 .obtain⟨v,a,f⟩:=cA.1 d;have a:v=v'\/v∈([vS]++(([L.M.vE,L.M.vB,L.M.vT]++(L.M.cE++L.M.cB))++[L.vV,L.vL]))++([L.vR,L.vC]++(L.cR++L.cC)):=by
   simp only[ML.vals,bM,aX,bU,fT]at a⊢
   try simp only[or_assoc]at a⊢
   grind
  rcases a with rfl|a
  .rcases l k f with e|e
   .have:=g k (aF _ (eZ (v:=L.vO) (by simp) e));omega
   .have N:=lK D f;have K:=j.size;have J:=h.ch.size;omega
  .have:v∈([vS]++(([L.M.vE,L.M.vB,L.M.vT]++(L.M.cE++L.M.cB))++[L.vV,L.vL]))++L.vO::([L.vR,L.vC]++(L.cR++L.cC)):=by
    rcases bM.1 a with a|a
    .exact cH _ a
    .exact bR _ (aF _ a)
   have:=g k (aF _ (eZ this f));omega
 .have t:=CX (v':=v') (z:=w.heap.size) i l λk d=>(g k d).1;rw[kR];have H:[vS]++({L with vO:=v'}:ML).vals=([vS]++(([L.M.vE,L.M.vB,L.M.vT]++(L.M.cE++L.M.cB))++[L.vV,L.vL]))++v'::([L.vR,L.vC]++(L.cR++L.cC)):=by simp[ML.vals]
  rw[H];exact t
 .intro k o d;obtain⟨g1,g2⟩:=h.fk k o d;have g3:=pC g1;rw[kR,E]at g2;refine⟨c.at g1 λe=>?_,λn=>?_⟩
  .rcases e with e|e
   .exact g2 (aF _ (eZ (v:=L.vO) (by simp) e))
   .exact g2 (by rw[e];exact bC)
  .rw[kR]at n;rcases aX.1 n with e|n
   .exact g2 (by rw[e];exact bC)
   obtain⟨v,a,f⟩:=cA.1 n;have a:v=v'\/v∈([vS]++(([L.M.vE,L.M.vB,L.M.vT]++(L.M.cE++L.M.cB))++[L.vV,L.vL]))++([L.vR,L.vC]++(L.cR++L.cC)):=by
    simp only[ML.vals,bM,aX,bU,fT]at a⊢
    try simp only[or_assoc]at a⊢
    grind
   rcases a with rfl|a
   .rcases l k f with e|e
    .exact g2 (aF _ (eZ (v:=L.vO) (by simp) e))
    .omega
   .refine g2 (aF _ (eZ ?_ f));rcases bM.1 a with a|a
    .exact cH _ a
    .exact bR _ (aF _ a)
theorem MR.put_R{v':Value}{x:Rs}(h:MR w0 w p L vS path s)(J:Own w1 w0.heap.size RsT 9 v' (s.m.res.length+1) (L.cR++d))(S:Chg (λk=>L.vR.ownBlock=some k) w w1)(u:∀k,v'.ownBlock=some k->L.vR.ownBlock=some k\/w.heap.size<=k)(O:RsR w w0.heap.size x d)(Q:d.length=9)(R:(ub d).Nodup)(A:∀k∈ub d,yP w0 w p L vS k)
  (P:w2.heap[p]?=some (.cells (({L with vR:=v',cR:=L.cR++d}:ML).cells s.m.dir++[str path,vS]).toArray MoT (0,0)))(q:Chg (One p) w1 w2):MR w0 w2 p {L with vR:=v',cR:=L.cR++d} vS path {s with m:={s.m with res:=s.m.res++[x]}}:=by
 have B:[vS]++L.vals=([vS]++(([L.M.vE,L.M.vB,L.M.vT]++(L.M.cE++L.M.cB))++[L.vV,L.vL,L.vO]))++L.vR::([L.vC]++(L.cR++L.cC)):=by simp[ML.vals]
 have l:=h.nd;have i:=h.in_;rw[kR,B]at l i;have b:=uT l;have g:=FL S q;have N:=g.size;have E:∀k,L.vR.ownBlock=some k->k≠p:=λk f e=>(dX.1 l).1 (by rw[<-e];exact eZ (v:=L.vR) (by simp) f);have G:FO w2 w0.heap.size L.M s.m.fl:=h.md.fo.keep g λk _ _ f=>by
  obtain⟨v,a,f⟩:=cA.1 f;exact b v (cH _ (bR _ (cH _ a))) k f
 have F:lV (RsR w2 w0.heap.size) 9 s.m.res L.cR:=h.md.rr.imp λy e H C=>C.at_ g λk f=>by
  obtain⟨v,a,f⟩:=cA.1 f;exact b v (bR _ (by simp[H v a])) k f
 have I:lV (ClR w2 w0.heap.size) 4 s.m.calls L.cC:=h.md.cc.imp λy e H C=>C.at_ g λk f=>by
  obtain⟨v,a,f⟩:=cA.1 f;exact b v (bR _ (by simp[H v a])) k f
 have D:=O.at_ g (λk f e=>by
  have r:=A k f;have j:=r.2.2.1;rw[kR,B]at j;rcases e with e|e
  .exact j (aF _ (eZ (v:=L.vR) (by simp) e))
  .exact j (by rw[e];exact bC))
 refine⟨h.ch.then g λk f e=>?_,P,⟨G,eJ h.md.oV g (b _ (by simp)),eJ h.md.oL g (b _ (by simp)),eJ h.md.oO g (b _ (by simp)),by rw[aB];exact eJ J q (new_ne u E h.plt),eJ h.md.oC g (b _ (by simp)),F.snoc D Q,I,λk f=>?_⟩,eJ h.oS g (b _ (by simp)),?_,h.lp,?_⟩
 .rcases e with e|e
  .have:=(i k (aF _ (eZ (v:=L.vR) (by simp) e))).2;omega
  .have:=h.lp;omega
 .obtain⟨v,a,c⟩:=cA.1 f;have a:v=v'\/v∈([vS]++(([L.M.vE,L.M.vB,L.M.vT]++(L.M.cE++L.M.cB))++[L.vV,L.vL,L.vO]))++([L.vC]++(L.cR++L.cC))\/v∈d:=by
   simp only[ML.vals,bM,aX,bU,fT]at a⊢
   try simp only[or_assoc]at a⊢
   grind
  rcases a with rfl|a|a
  .rcases u k c with e|e
   .have:=i k (aF _ (eZ (v:=L.vR) (by simp) e));omega
   .have j:=lK J c;have V:=q.size;have U:=h.ch.size;omega
  .have:v∈([vS]++(([L.M.vE,L.M.vB,L.M.vT]++(L.M.cE++L.M.cB))++[L.vV,L.vL,L.vO]))++L.vR::([L.vC]++(L.cR++L.cC)):=by
    rcases bM.1 a with a|a
    .exact cH _ a
    .exact bR _ (aF _ a)
   have:=i k (aF _ (eZ this c));omega
  .have r:=A k (eZ a c);exact⟨dM r.2.1 N,r.1⟩
 .have t:=CX (v':=v') (z:=w.heap.size) l u λk f=>(i k f).1;rw[kR];have K:([vS]++(([L.M.vE,L.M.vB,L.M.vT]++(L.M.cE++L.M.cB))++[L.vV,L.vL,L.vO]))++v'::([L.vC]++(L.cR++L.cC))=(([vS]++(([L.M.vE,L.M.vB,L.M.vT]++(L.M.cE++L.M.cB))++[L.vV,L.vL,L.vO]))++v'::([L.vC]++L.cR))++(L.cC):=by simp
  have T:[vS]++({L with vR:=v',cR:=L.cR++d}:ML).vals=(([vS]++(([L.M.vE,L.M.vB,L.M.vT]++(L.M.cE++L.M.cB))++[L.vV,L.vL,L.vO]))++v'::([L.vC]++L.cR))++(d++(L.cC)):=by simp[ML.vals]
  rw[K]at t;rw[T];refine SL t R λk f n=>?_;have r:=A k f;have j:=r.2.2.1;rw[kR,B]at j;rw[<-K]at n;rcases aX.1 n with rfl|n
  .exact j bC
  .obtain⟨v,a,c⟩:=cA.1 n;rcases bM.1 a with a|a
   .exact j (aF _ (eZ (cH _ a) c))
   .rcases aX.1 a with rfl|a
    .rcases u k c with e|e
     .exact j (aF _ (eZ (v:=L.vR) (by simp) e))
     .have:=r.2.1;omega
    .exact j (aF _ (eZ (bR _ (aF _ a)) c))
 .intro k o f;obtain⟨g1,g2⟩:=h.fk k o f;have g3:=pC g1;rw[kR,B]at g2;refine⟨g.at g1 λe=>?_,λn=>?_⟩
  .rcases e with e|e
   .exact g2 (aF _ (eZ (v:=L.vR) (by simp) e))
   .exact g2 (by rw[e];exact bC)
  .rw[kR]at n;rcases aX.1 n with e|n
   .exact g2 (by rw[e];exact bC)
   obtain⟨v,a,c⟩:=cA.1 n;have a:v=v'\/v∈([vS]++(([L.M.vE,L.M.vB,L.M.vT]++(L.M.cE++L.M.cB))++[L.vV,L.vL,L.vO]))++([L.vC]++(L.cR++L.cC))\/v∈d:=by
    simp only[ML.vals,bM,aX,bU,fT]at a⊢
    try simp only[or_assoc]at a⊢
    grind
   rcases a with rfl|a|a
   .rcases u k c with e|e
    .exact g2 (aF _ (eZ (v:=L.vR) (by simp) e))
    .omega
   .refine g2 (aF _ (eZ ?_ c));rcases bM.1 a with a|a
    .exact cH _ a
    .exact bR _ (aF _ a)
   .exact(A k (eZ a c)).2.2.2 o f
def MR.base(h:MR w0 w p L vS path s):w0.heap.size<=w.heap.size:=h.ch.size
def MR.val_ne(h:MR w0 w p L vS path s)(b:v∈[vS]++L.vals):∀k,v.ownBlock=some k->k≠p:=λk c e=>by
 have a:=h.nd
 rw[kR]at a
 exact(dX.1 a).1 (by rw[<-e];exact eZ b c)
def MR.app_V{x:Vr}{t:Value}(h:MR w0 w p L vS path s)(c:SlAt w VrT t 1 (vrs [x]))(b:s.m.vars.length<=100000000000)
  (d:∀v' w1,Own w1 w0.heap.size VrT 3 v' (s.m.vars.length+1) (vrs s.m.vars++vrs [x])->Chg (λk=>L.vV.ownBlock=some k) w w1->(∀k,v'.ownBlock=some k->L.vV.ownBlock=some k\/w.heap.size<=k)->K v' w1):fV P0 (Builtin.append_ #[63,63] 63 #[L.vV,t]) w K:=by
 refine iV aFG h.md.oV c (by rfl) (λu a=>by simp only[vrs,lP,strs,cJ,kA,dC,uC,dL,aX,bU,fT]at a;rcases a with rfl|rfl|rfl<;>rfl) (by omega) (by omega) h.base d
def MR.st_V{v':Value}{x:Vr}{KW:World->Prop}(h:MR w0 w p L vS path s)(f:Own w1 w0.heap.size VrT 3 v' (s.m.vars.length+1) (vrs s.m.vars++vrs [x]))(g:Chg (λk=>L.vV.ownBlock=some k) w w1)(i:∀k,v'.ownBlock=some k->L.vV.ownBlock=some k\/w.heap.size<=k)
  (j:∀w2,MR w0 w2 p {L with vV:=v'} vS path {s with m:={s.m with vars:=s.m.vars++[x]}}->Chg (One p) w1 w2->w2.heap.size=w1.heap.size->KW w2):stW 1 (.pointer (some ⟨p,4,none⟩)) v' w1 KW:=by
 have c:=g.at h.pm (λe=>h.val_ne (v:=L.vV) (by simp[ML.vals]) p e rfl);refine lJ c (fO f.sl) (by simp[ML.cells]) λw2 b d a=>j w2 (h.put_V f g i (by rw[d];simp[ML.cells]) a) a b
def MR.app_L{x:Atr}{t:Value}(h:MR w0 w p L vS path s)(c:SlAt w AtT t 1 (lP [x]))(b:s.m.locs.length<=100000000000)
  (d:∀v' w1,Own w1 w0.heap.size AtT 3 v' (s.m.locs.length+1) (lP s.m.locs++lP [x])->Chg (λk=>L.vL.ownBlock=some k) w w1->(∀k,v'.ownBlock=some k->L.vL.ownBlock=some k\/w.heap.size<=k)->K v' w1):fV P0 (Builtin.append_ #[36,36] 36 #[L.vL,t]) w K:=by
 refine iV Mq h.md.oL c (by rfl) (λu a=>by simp only[vrs,lP,strs,cJ,kA,dC,uC,dL,aX,bU,fT]at a;rcases a with rfl|rfl|rfl<;>rfl) (by omega) (by omega) h.base d
def MR.st_L{v':Value}{x:Atr}{KW:World->Prop}(h:MR w0 w p L vS path s)(f:Own w1 w0.heap.size AtT 3 v' (s.m.locs.length+1) (lP s.m.locs++lP [x]))(g:Chg (λk=>L.vL.ownBlock=some k) w w1)(i:∀k,v'.ownBlock=some k->L.vL.ownBlock=some k\/w.heap.size<=k)
  (j:∀w2,MR w0 w2 p {L with vL:=v'} vS path {s with m:={s.m with locs:=s.m.locs++[x]}}->Chg (One p) w1 w2->w2.heap.size=w1.heap.size->KW w2):stW 1 (.pointer (some ⟨p,5,none⟩)) v' w1 KW:=by
 have c:=g.at h.pm (λe=>h.val_ne (v:=L.vL) (by simp[ML.vals]) p e rfl);refine lJ c (fO f.sl) (by simp[ML.cells]) λw2 b d a=>j w2 (h.put_L f g i (by rw[d];simp[ML.cells]) a) a b
def MR.app_O{x:Atr}{t:Value}(h:MR w0 w p L vS path s)(c:SlAt w AtT t 1 (lP [x]))(b:s.m.outs.length<=100000000000)
  (d:∀v' w1,Own w1 w0.heap.size AtT 3 v' (s.m.outs.length+1) (lP s.m.outs++lP [x])->Chg (λk=>L.vO.ownBlock=some k) w w1->(∀k,v'.ownBlock=some k->L.vO.ownBlock=some k\/w.heap.size<=k)->K v' w1):fV P0 (Builtin.append_ #[36,36] 36 #[L.vO,t]) w K:=by
 refine iV Mq h.md.oO c (by rfl) (λu a=>by simp only[vrs,lP,strs,cJ,kA,dC,uC,dL,aX,bU,fT]at a;rcases a with rfl|rfl|rfl<;>rfl) (by omega) (by omega) h.base d
def MR.st_O{v':Value}{x:Atr}{KW:World->Prop}(h:MR w0 w p L vS path s)(f:Own w1 w0.heap.size AtT 3 v' (s.m.outs.length+1) (lP s.m.outs++lP [x]))(g:Chg (λk=>L.vO.ownBlock=some k) w w1)(i:∀k,v'.ownBlock=some k->L.vO.ownBlock=some k\/w.heap.size<=k)
  (j:∀w2,MR w0 w2 p {L with vO:=v'} vS path {s with m:={s.m with outs:=s.m.outs++[x]}}->Chg (One p) w1 w2->w2.heap.size=w1.heap.size->KW w2):stW 1 (.pointer (some ⟨p,6,none⟩)) v' w1 KW:=by
 have c:=g.at h.pm (λe=>h.val_ne (v:=L.vO) (by simp[ML.vals]) p e rfl);refine lJ c (fO f.sl) (by simp[ML.cells]) λw2 b d a=>j w2 (h.put_O f g i (by rw[d];simp[ML.cells]) a) a b
def MR.app_R{x:Rs}{t:Value}(h:MR w0 w p L vS path s)(b:SlAt w RsT t 1 (d))(c:d.length=9)(f:∀u∈d,kJ u=true)(a:s.m.res.length<=100000000000)
  (e:∀v' w1,Own w1 w0.heap.size RsT 9 v' (s.m.res.length+1) (L.cR++d)->Chg (λk=>L.vR.ownBlock=some k) w w1->(∀k,v'.ownBlock=some k->L.vR.ownBlock=some k\/w.heap.size<=k)->K v' w1):fV P0 (Builtin.append_ #[64,64] 64 #[L.vR,t]) w K:=by
 refine iV aFH h.md.oR b (by rw[c]) f (by omega) (by omega) h.base e
def MR.st_R{v':Value}{x:Rs}{KW:World->Prop}(h:MR w0 w p L vS path s)(g:Own w1 w0.heap.size RsT 9 v' (s.m.res.length+1) (L.cR++d))(i:Chg (λk=>L.vR.ownBlock=some k) w w1)(l:∀k,v'.ownBlock=some k->L.vR.ownBlock=some k\/w.heap.size<=k)(j:RsR w w0.heap.size x d)(n:d.length=9)(q:(ub d).Nodup)(o:∀k∈ub d,yP w0 w p L vS k)
  (r:∀w2,MR w0 w2 p {L with vR:=v',cR:=L.cR++d} vS path {s with m:={s.m with res:=s.m.res++[x]}}->Chg (One p) w1 w2->w2.heap.size=w1.heap.size->KW w2):stW 1 (.pointer (some ⟨p,7,none⟩)) v' w1 KW:=by
 have c:=i.at h.pm (λe=>h.val_ne (v:=L.vR) (by simp[ML.vals]) p e rfl);refine lJ c (fO g.sl) (by simp[ML.cells]) λw2 b f a=>r w2 (h.put_R g i l j n q o (by rw[f];simp[ML.cells]) a) a b
def MR.app_C{x:Cl}{t:Value}(h:MR w0 w p L vS path s)(b:SlAt w ClT t 1 (d))(c:d.length=4)(f:∀u∈d,kJ u=true)(a:s.m.calls.length<=100000000000)
  (e:∀v' w1,Own w1 w0.heap.size ClT 4 v' (s.m.calls.length+1) (L.cC++d)->Chg (λk=>L.vC.ownBlock=some k) w w1->(∀k,v'.ownBlock=some k->L.vC.ownBlock=some k\/w.heap.size<=k)->K v' w1):fV P0 (Builtin.append_ #[65,65] 65 #[L.vC,t]) w K:=by
 refine iV aFK h.md.oC b (by rw[c]) f (by omega) (by omega) h.base e
end
end
section
open Go Go.Eng Go.Num
section
variable [HX]
def Mm{α:Type}(p:α->Bool)(xs:List α):Int:=match xs.findIdx? p with|some i=>i|none=>-1
def DW(p:α->Bool)(xs:List α):decide ((0:Int)<=Mm p xs)=xs.any p:=by
 unfold Mm;cases h:xs.findIdx? p with
 |none=>
  have:=List.findIdx?_eq_none_iff.1 h;have:xs.any p=false:=Cq.2 λx a=>by simp[this x a]
  rw[this];decide
 |some i=>
  obtain⟨c,b,_⟩:=List.findIdx?_eq_some_iff_getElem.1 h;rw[nL.2 ⟨_,gE c,b⟩];exact bS (by simp)
def Ml{p:α->Bool}{xs:List α}{x:α}(h:(xs.take i).any p=false)(d:xs[i]?=some x)(a:p x=true):xs.findIdx? p=some i:=by
 obtain⟨b,e⟩:=bJ.1 d;rw[List.findIdx?_eq_some_iff_getElem];refine⟨b,by rw[e];exact a,λj c=>?_⟩;have:=Cq.1 h xs[j] (bA (i:=j) (by rw[AO,aO c];exact aH _));simpa using this
end
end
section
open Go Go.Eng Go.RowKit Go.Syn Go.Lex Go.Cfg
abbrev DgI:TypeId:=29
section
variable [HX]
def TC(w0:World)(path:Str)(code at_:Int):Prop:=
 ∀(d:Nat) (w':World),Ext w0 w'->w0.heap.size<=d->w'.heap[d]?=some (.cells [i64 code,str path,i64 at_].toArray 48 (0,0))->HX.X [{v:=.iface DgI (.pointer (some ⟨d,0,none⟩)),recovered:=false}] w'
abbrev pA(p:Nat):Value:=.pointer (some ⟨p,0,none⟩)
section
variable{w0 w:World}{p:Nat}{M:Lay}{path:Str}{fl:Fl}{K:Q0}
def oZ{c:Int}(h:Mf w0 w p M path fl)(e:TC w0 path c a):aL P0 94 [pA p,i64 c,i64 a] w K:=by
 refine VQ ?_;unfold W94;obtain⟨cs,f,_,_,_,i⟩:=h.pE;rw[dJ,bH,bN,aN,fB];refine⟨str path,by rw[cS,f,bT];simpa using i,?_⟩;simp only[eG,eP,dW,aA,aD,aP,aU];refine⟨by omega,by omega,by omega,?_⟩;refine gF (z:=[i64 c,str path,i64 a]) λd W k j g b=>?_;exact e d W (h.ch.trans b) (by have:=h.ch.size;omega) g
end
def aBK(s:Str)(i:Nat):Prop:=∀j c,j<i->s[j]?=some c->gY c=true/\(j=0->gV c=true)
def Uk(h:aBK s s.length):nR s=(decide (1<=s.length)&&decide (s.length<=32)):=by
 cases s with
 |nil=>rfl
 |cons c r=>
  have g:gV c=true:=(h 0 c (by simp) rfl).2 rfl;have f:r.all gY=true:=jB.2 λd b=>by
   obtain⟨j,a,e⟩:=List.getElem_of_mem b;exact(h (j+1) d (by simp;omega) (by simp[e,a])).1
  show(gV c&&r.all gY&&decide (r.length<=31))=_;rw[g,f,eF,eF,bS (by simp:1<=(c::r).length),eF];simp only[aA];exact decide_eq_decide.2 (by omega)
def Ul(a:s[i]?=some c)(h:gY c=false\/i=0/\gV c=false):nR s=false:=by
 cases b:nR s with
 |false=>rfl
 |true=>
  cases s with
  |nil=>cases b
  |cons d r=>
   simp only[nR,bV,jB]at b;rcases h with h|⟨rfl,h⟩
   .cases i with
    |zero=>
     simp only[bG,bB]at a;subst a;unfold gY at h;rw[b.1.1]at h;cases h
    |succ i=>
     rw[bI]at a;rw[b.1.2 c (bA a)]at h;cases h
   .simp only[bG,bB]at a;subst a;rw[b.1.1]at h;cases h
def Un(a c:UInt8):decide (((a.toNat:Nat):Int)<((c.toNat:Nat):Int))=!decide (c<=a):=by
 rw[<-xF,qP];simp
def aDJ(a c:UInt8):decide (((c.toNat:Nat):Int)≠((a.toNat:Nat):Int))=!(c==a):=by
 rw[<-AB,qP];simp
theorem PF(B:s.length<=1000000)(f:K (.bool (nR s)) w):aL P0 136 [str s] w K:=by
 refine aBd ?_;unfold aGR;rw[eR];refine eK.go (λst W=>W=w/\∃i:Nat,st=[i64 (i:Nat)]/\i<=s.length/\aBK s i) (λst _=>match st with|[.int _ i]=>s.length-i.toNat|_=>0) ⟨rfl,0,rfl,cZ _,λj c t=>by omega⟩ ?_;rintro st g w2 ⟨rfl,i,rfl,C,p⟩;simp only[aG];rw[eC,aY];refine⟨λh=>?_,λh=>?_⟩
 .have b:i<s.length:=by omega
  refine uV b ?_;have e:s[i]?=some s[i]:=aH b;generalize D:s[i]=c at*
  have o:decide ((97:Int)<=((c.toNat:Nat):Int))=decide (97<=c):=xF 97 c;have n:decide (((c.toNat:Nat):Int)<=122)=decide (c<=122):=xF c 122;have A:decide ((65:Int)<=((c.toNat:Nat):Int))=decide (65<=c):=xF 65 c;have z:decide (((c.toNat:Nat):Int)<=90)=decide (c<=90):=xF c 90;have y:decide (((c.toNat:Nat):Int)=95)=(c==95):=AB 95 c;have x:decide (((c.toNat:Nat):Int)≠45)=!(c==45):=aDJ 45 c;have v:decide (((c.toNat:Nat):Int)<48)=!decide (48<=c):=Un c 48;have e8:decide ((57:Int)<((c.toNat:Nat):Int))=!decide (c<=57):=Un 57 c;simp only[gN,iC,bW,fR,eC,gG,o,n,A,z,y,x,v,e8,gX,jV,rN,aG,gM,Ej,FA,mJ,Mc,Me,gK];intros;have u:(decide (97<=c)&&decide (c<=122)||decide (65<=c)&&decide (c<=90)||(c==95))=gV c:=rfl;simp only[u];have en:gY c=(gV c||(decide (48<=c)&&decide (c<=57))||c==45):=rfl;rw[fC];refine⟨λa=>?_,λa=>?_⟩
  .have k:nR s=false:=by
    refine Ul e ?_;rw[en];cases q:gV c with
    |true=>rw[q]at a;simp at a
    |false=>
     rw[q]at a;by_cases m:i=0
     .exact .inr ⟨m,rfl⟩
     .left;have:decide (((i:Nat):Int)=0)=false:=cX (by omega);rw[this]at a;revert a;cases(c==45)<;>cases decide (48<=c)<;>cases decide (c<=57)<;>simp
   rw[k]at f;exact f
  .rw[cP,upi (by omega)];refine⟨⟨trivial,i+1,rfl,by omega,λj d t l=>?_⟩,?_⟩
   .rcases qZ j i with r|r
    .exact p j d r l
    .obtain rfl:j=i:=by omega
     rw[e]at l;cases l;rw[en];revert a;by_cases m:j=0
     .have:decide (((j:Nat):Int)=0)=true:=bS (by omega);rw[this];cases gV c<;>simp
     .have:decide (((j:Nat):Int)=0)=false:=cX (by omega);rw[this];cases gV c<;>cases(c==45)<;>cases decide (48<=c)<;>cases decide (c<=57)<;>simp[m]
   .simp only[bD];omega
 .obtain rfl:i=s.length:=by omega
  rw[eR,gN];simp only[eR,iC,gX,rN,aG,gM];intros;rw[Uk p]at f;have o:decide ((1:Int)<=(s.length:Int))=decide (1<=s.length):=decide_eq_decide.2 (by omega);have n:decide ((s.length:Int)<=32)=decide (s.length<=32):=decide_eq_decide.2 (by omega);rw[o,n];exact f
def Zi(c:K (i64 (yE s)) w):aL P0 133 [str s] w K:=by
 refine aBg ?_;unfold aGU;unfold yE at c;rw[fE,aY];refine⟨λd=>?_,λd=>?_⟩
 .have d:s=Aj:=d;rw[aO d]at c;exact c
 have d:¬s=Aj:=d;rw[aE d]at c;refine dE.cut (λst W=>st=[.bool (decide (s=oM\/s=rP\/s=tI))]/\W=w) ?_ ?_
 .rw[fE,aY];refine⟨λb=>?_,λb=>?_⟩
  .have b:s=oM:=b;exact⟨by rw[bS (Or.inl b:s=oM\/s=rP\/s=tI),bS (show s=[118,97,114,105,97,98,108,101]from b)],rfl⟩
  have b:¬s=oM:=b;rw[fE,aY];refine⟨λa=>?_,λa=>?_⟩
  .have a:s=rP:=a;exact⟨by rw[bS (Or.inr (Or.inl a):s=oM\/s=rP\/s=tI),bS (show s=[111,117,116,112,117,116]from a)],rfl⟩
  have a:¬s=rP:=a;rw[fE];refine⟨?_,rfl⟩;have:decide (s=[109,111,100,117,108,101])=decide (s=oM\/s=rP\/s=tI):=decide_eq_decide.2 ⟨λh=>.inr (.inr h),λh=>(h.resolve_left b).resolve_left a⟩;rw[this]
 rintro st g W ⟨rfl,rfl⟩;simp only[aG];rw[aY];refine⟨λb=>?_,λb=>?_⟩
 .rw[aO b]at c;exact c
 rw[aE b]at c;rw[fE,aY];refine⟨λa=>?_,λa=>?_⟩
 .have a:s=lN:=a;rw[aO a]at c;exact c
 .have a:¬s=lN:=a;rw[aE a]at c;exact c
def NH(a:∀t W,SlAt W StT t rQ.length (strs rQ)->Ext w W->K t W):aL P0 137 [] w K:=by
 refine aBc ?_;unfold aGQ;rw[gP];simp only[eP,dW,aA,aD,aP,aU];refine⟨by omega,by omega,by omega,by omega,by omega,by omega,?_⟩;refine a _ _ ⟨_,_,rfl,aQ _,λe=>(by cases e),λ_=>⟨_,_,_,_,rfl,kV _ _ _ rfl,λi _=>by rw[aN,bP];rfl⟩⟩ (Chg.alloc (Chg.refl _ _) _)
def row_one(b:d.length=n)(f:cs.length=n)(g:0<n)(a:∀t W,SlAt W T t 1 cs->Ext w W->K t W):gP T 1 d [(0,n,.agg cs.toArray)] w K:=by
 unfold gP;have c:∀K:List Value->Prop,K cs->kE d [(0,n,.agg cs.toArray)] K:=by
  intro K a;refine⟨by simp[Value.cells,f],by omega,?_⟩;have:List.take 0 d++((Value.agg cs.toArray).cells.toList++List.drop (0+n) d)=cs:=by simp[Value.cells,<-b]
  rw[this];exact a
 refine c _ ?_;exact a _ _ (Ds (w:=w) (base:=w.heap.size) (e:=T) (size:=n) (n:=1) (cs:=cs) (aQ _) (by omega) (by omega)).sl (Chg.alloc (Chg.refl _ _) _)
def qV{size:Nat}{k:IntKind}{K:Value->Prop}(h:SlAt w T v n cs)(b:cs.length=n*size)(a:0<size)(c:i<n)(d:K (.agg ((cs.drop (i*size)).take size).toArray)):fX none size v (.int k i) λp=>ldW true size p w K:=by
 refine Ge h b a c rfl d
theorem Cg{xs:List α}{f:Value}{cell:α->List Value->Prop}{q:α->Bool}
  (h:SlAt w T v xs.length cs)(t:cs.length=xs.length*n)(l:0<n)(o:xs.length<=9223372036854775807)(y:∀i x,xs[i]?=some x->cell x ((cs.drop (i*n)).take n))
  (u:∀x∈xs,∀c,cell x c->∀{w1:World} {K:Q0},Ext w w1->(∀W,Ext w1 W->K (.bool (q x)) W)->qN P0 f [.agg c.toArray] w1 K)(r:∀W,Ext w W->K (i64 (Mm q xs)) W):
  iL v λt7=>eK [(.int .i64 0)] w λk _ w2 A=>aS .lss (k.getD 0 undef) t7 λt9=>bE t9 (fX none n v (k.getD 0 undef) λt14=>ldW true n t14 w2 λt15=>qN P0 f [t15] w2 λt16 e=>bE t16 (K (k.getD 0 undef) e) (aS .add (k.getD 0 undef) (.int .i64 1) λt18=>A [t18] e)) (K (.int .i64 (-1)) w2):=by
 rw[gQ h];refine Cb xs.length (λi W=>Ext w W/\(xs.take i).any q=false) ⟨Chg.refl _ _,by simp⟩ ?_ ?_
 .rintro i w2 g L p ⟨a,b⟩ z;obtain⟨x,d⟩:∃x,xs[i]?=some x:=⟨_,aH p⟩;have m:((i:Int)<(xs.length:Int)):=by omega
  simp only[wsv,wsg,wsh,wsl,aV,aR,aJ,lC,Nat.reduceAdd,Nat.reduceLT,cM,aZ,dO,dA,cY,reduceCtorEq,m];refine qV (h.ext a) t l p ?_;refine u x (bA d) _ (y i x d) a λe j=>?_;rw[fC];refine⟨λs=>?_,λl=>?_⟩
  .have:=r e (a.trans j);unfold Mm at this;rw[Ml b d s]at this;exact this
  .rw[up1 (by omega)];exact z e ⟨a.trans j,by rw[Nb d,b,l];rfl⟩
 .rintro w2 g L ⟨a,b⟩;simp only[wsv,wsg,wsh,wsl,aV,aR,aJ,lC,Nat.reduceAdd,Nat.reduceLT,cM,aZ,dO,dA,cY,reduceCtorEq,El];rw[dP]at b;have:=r w2 a;unfold Mm at this;rw[List.findIdx?_eq_none_iff.2 λx o=>by simpa using Cq.1 b x o]at this;exact this
def atC(a:Atr)(c:List Value):Prop:=c=[str a.n,i64 (a.e:Nat),i64 a.a]
def vrC(a:Vr)(c:List Value):Prop:=c=[str a.n,i64 a.d,i64 a.a]
def EG{f:α->List Value}(h:∀a,(f a).length=3){l:List α}{x:α}(c:l[i]?=some x):((l.flatMap f).drop (i*3)).take 3=f x:=by
 apply Cp;intro j;by_cases b:j<3
 .rw[gB b,iF];exact Ch f h l i j x c b
 .rw[dY (by rw[cG];omega),dY (by rw[h];omega)]
def Ef{l:List Atr}{x:Atr}(a:l[i]?=some x):atC x (((lP l).drop (i*3)).take 3):=EG (λ_=>rfl) a
def OS{l:List Vr}{x:Vr}(a:l[i]?=some x):vrC x (((vrs l).drop (i*3)).take 3):=EG (λ_=>rfl) a
def yG{l:List Atr}{f:Value}{q:Atr->Bool}(h:SlAt w AtT v l.length (lP l))(b:l.length<=9223372036854775807)
  (e:∀x∈l,∀c,atC x c->∀{w1:World} {K:Q0},Ext w w1->(∀W,Ext w1 W->K (.bool (q x)) W)->qN P0 f [.agg c.toArray] w1 K)(g:∀W,Ext w W->K (.bool (l.any q)) W):aL P0 98 [v,f] w K:=by
 refine aEe ?_;unfold W98;refine aA5 ?_;unfold aGJ;refine Cg (K:=λt7 w1=>aS .geq t7 (.int .i64 0) λt8=>K t8 w1) (cell:=atC) h (zW l) (by omega) b (λi x d=>Ef d) e λw1 a=>?_;simp only[wsv,wsg,wsh,wsl,aV,aR,aJ,lC,Nat.reduceAdd,Nat.reduceLT,cM,aZ,dO,dA,cY,reduceCtorEq,DW];exact g w1 a
def Fv{l:List Vr}{f:Value}{q:Vr->Bool}(h:SlAt w VrT v l.length (vrs l))(b:l.length<=9223372036854775807)
  (e:∀x∈l,∀c,vrC x c->∀{w1:World} {K:Q0},Ext w w1->(∀W,Ext w1 W->K (.bool (q x)) W)->qN P0 f [.agg c.toArray] w1 K)(g:∀W,Ext w W->K (.bool (l.any q)) W):aL P0 96 [v,f] w K:=by
 refine aEg ?_;unfold W96;refine aA6 ?_;unfold aGK;refine Cg (K:=λt7 w1=>aS .geq t7 (.int .i64 0) λt8=>K t8 w1) (cell:=vrC) h (OT l) (by omega) b (λi x d=>OS d) e λw1 a=>?_;simp only[wsv,wsg,wsh,wsl,aV,aR,aJ,lC,Nat.reduceAdd,Nat.reduceLT,cM,aZ,dO,dA,cY,reduceCtorEq,DW];exact g w1 a
def MB{l:List Rs}{f:Value}{B:Nat}{q:Rs->Bool}(h:SlAt w RsT v l.length cs)(b:lV (RsR w B) 9 l cs)(d:l.length<=9223372036854775807)
  (g:∀x∈l,∀c,RsR w B x c->∀{w1:World} {K:Q0},Ext w w1->(∀W,Ext w1 W->K (.bool (q x)) W)->qN P0 f [.agg c.toArray] w1 K)(j:∀W,Ext w W->K (.bool (l.any q)) W):aL P0 184 [v,f] w K:=by
 refine aAH ?_;unfold aGl;refine aAt ?_;unfold aF8;refine Cg (K:=λt7 w1=>aS .geq t7 (.int .i64 0) λt8=>K t8 w1) (cell:=RsR w B) h b.1 (by omega) d (λi x e=>b.2 i x e) g λw1 a=>?_;simp only[wsv,wsg,wsh,wsl,aV,aR,aJ,lC,Nat.reduceAdd,Nat.reduceLT,cM,aZ,dO,dA,cY,reduceCtorEq,DW];exact j w1 a
def MC{l:List Cl}{f:Value}{B:Nat}{q:Cl->Bool}(h:SlAt w ClT v l.length cs)(b:lV (ClR w B) 4 l cs)(d:l.length<=9223372036854775807)
  (g:∀x∈l,∀c,ClR w B x c->∀{w1:World} {K:Q0},Ext w w1->(∀W,Ext w1 W->K (.bool (q x)) W)->qN P0 f [.agg c.toArray] w1 K)(j:∀W,Ext w W->K (.bool (l.any q)) W):aL P0 187 [v,f] w K:=by
 refine aAE ?_;unfold aGi;refine aAs ?_;unfold aF7;refine Cg (K:=λt7 w1=>aS .geq t7 (.int .i64 0) λt8=>K t8 w1) (cell:=ClR w B) h b.1 (by omega) d (λi x e=>b.2 i x e) g λw1 a=>?_;simp only[wsv,wsg,wsh,wsl,aV,aR,aJ,lC,Nat.reduceAdd,Nat.reduceLT,cM,aZ,dO,dA,cY,reduceCtorEq,DW];exact j w1 a
def uI{b:Nat}{x:Str}{r:List Value}(g:w.heap[b]?=some (.cells (str y::cs).toArray U (0,0)))(h:∀W,Ext w W->K (.bool (decide (x=y))) W):
  jZ T (.agg (str x::r).toArray) w λt2 a=>bF 0 t2 λt4=>ldW false 1 t4 a λt5=>bF 0 (.pointer (some ⟨b,0,none⟩)) λt6=>ldW false 1 t6 a λt7=>aS .eql t5 t7 λt8=>K t8 a:=by
 refine gF λd a j i c f=>?_;have e:=f.at g id;rw[bH,bN,aN,fB];refine⟨str x,by rw[cS,c,bT];rfl,?_⟩;rw[bH,bN,aN,fB];refine⟨str y,by rw[cS,e,bT];rfl,?_⟩;rw[fE];exact h a f
end
end
section
open Go Go.Eng Go.RowKit Go.Syn Go.Lex
def uX{b:Nat}{c:List Value}{off:Nat}{K:Value->Prop}(a:w.heap[b]?=some (.cells c.toArray T (0,0)))(d:c[off]?=some v)(e:K v):bF off (.pointer (some ⟨b,0,none⟩)) λt=>ldW false 1 t w K:=by
 rw[bH,fB];refine⟨v,?_,e⟩;rw[bN,cS,a,bT,aN,bP];exact d
def ld5{b:Nat}{c:List Value}{off:Nat}(a:w.heap[b]?=some (.cells c.toArray T (0,0)))(d:c[off]?=some v):ldW false 1 (.pointer (some ((⟨b,0,none⟩:Addr).add off))) w λx=>x=v:=by
 have:=uX (K:=λx=>x=v) a d rfl;rwa[bH]at this
section
variable [HX]
end
section
variable{w w':World}{B g r p:Nat}{M:Lay}{fl:Fl}{v:Value}
def EA{a:Nat}{K:Value->Prop}(h:w.heap[a]?=some (.cells d.toArray T (0,0)))(c:d.length=n)(b:K (.agg d.toArray)):ldW true n (.pointer (some ⟨a,0,none⟩)) w K:=by
 rw[Au];refine⟨d,?_,b⟩;have:=EN (o:=0) (d:=d) h (λj e=>by rw[aN];simp) n 0 (by omega);simpa using this
def aFn{l size:Nat}{K:Value->Prop}(h:SlAt w T v n cs)(k:cs.length=n*size)(t:l<=n)(r:∀u,SlAt w T u l (cs.take (l*size))->K u):Ti size v none (some (i64 (l:Nat))) none K:=by
 obtain⟨q,cap,rfl,x,m,s⟩:=h;rw[kU,fJ,fF,fJ];refine⟨by omega,by omega,r _ ?_⟩;rw[bD];refine⟨_,_,rfl,by omega,λg=>?_,λd=>?_⟩
 .split at g
  .have:=m g;omega
  .cases q with
   |none=>have:=m rfl;omega
   |some a=>cases g
 .have f:cs≠[]:=λe=>d (by rw[e];simp);obtain⟨b,off,c,fr,rfl,p,j⟩:=s f;refine⟨b,off,c,fr,?_,p,λi o=>?_⟩
  .split
   .rfl
   .rw[aK,bN,HP,bL]
  .rw[cG]at o;rw[gB (by omega),j _ (by omega)]
end
end
section
open Go Go.Eng Go.RowKit Go.Syn Go.Lex Go.Cfg
def xcc(M:Lay)(i:Nat):List Value:=(M.cE.drop (i*5)).take 5
def bcc(M:Lay)(i:Nat):List Value:=(M.cB.drop (i*5)).take 5
def xJ{fl:Fl}(a:i<fl.ex.length):fl.ex[i]?=some (jU fl i):=by
 unfold jU;rw[aM,aH a];rfl
def HD{fl:Fl}(a:i<fl.bl.length):fl.bl[i]?=some (iY fl i):=by
 unfold iY;rw[aM,aH a];rfl
def AT{B:Nat}{M:Lay}{fl:Fl}(h:FO w B M fl)(a:i<fl.ex.length):ExR w B (jU fl i) (xcc M i):=h.ee.2 i _ (xJ a)
def uZ{B:Nat}{M:Lay}{fl:Fl}(h:FO w B M fl)(a:i<fl.bl.length):BkR w B (iY fl i) (bcc M i):=h.bb.2 i _ (HD a)
def Si(l:List Atr)(i:Nat):(lP l).take (i*3)=lP (l.take i):=by
 induction i generalizing l with
 |zero=>simp[lP]
 |succ i ih=>
  cases l with
  |nil=>simp[lP]
  |cons a l=>
   have e:lP (a::l)=[str a.n,i64 (a.e:Nat),i64 a.a]++lP l:=rfl;rw[e,oG,show(i+1)*3=[str a.n,i64 (a.e:Nat),i64 a.a].length+i*3 by simp;omega,List.take_length_add_append,ih];rfl
section
variable [HX]
def ZY{b:Nat}{x:Atr}{c:List Value}(d:atC x c)(f:w.heap[b]?=some (.cells (str y::cs).toArray T (0,0)))(g:∀W,Ext w W->K (.bool (decide (x.n=y))) W):aL P0 209 [.agg c.toArray,pA b] w K:=by
 have d:c=[str x.n,i64 (x.e:Nat),i64 x.a]:=d;subst d;refine aAw ?_;unfold aGa;exact uI f g
theorem Cm{σ:Type}{w0:World}{M:Lay}{path:Str}{fl:Fl}{Inv:Nat->World->σ->Prop}{take:σ->Atr->Ex->RC σ}{f:Value}{l:List Atr}{s:σ}
  (C:∀j w s,Inv j w s->Mf w0 w p M path fl)(o:∀j w W s,Inv j w s->Ext w W->Inv j W s)(F:∀w,FO w w0.heap.size M fl->SlAt w AtT v l.length (lP l))(hl:l.length<=1000000)(he:∀a∈l,a.e<fl.ex.length)
  (G:∀j a,l[j]?=some a->∀s V w1 (K':Q0),Inv j V s->Ext V w1->(∀s' W,take s a (jU fl a.e)=.ok s'->Inv (j+1) W s'->K' (.bool true) W)->(∀W,take s a (jU fl a.e)=.bad 110 a.a->Mf w0 W p M path fl->(∀k,V.heap.size<=k->k<w1.heap.size->W.heap[k]?=w1.heap[k]?)->K' (.bool false) W)->
    (∀c b,take s a (jU fl a.e)=.bad c b->TC w0 path c b)->qN P0 f [.agg [str a.n,i64 (a.e:Nat),i64 a.a].toArray,.agg (xcc M a.e).toArray] w1 K')
  (h:Inv 0 w s)(P:∀s' W,lA fl take [] l s=.ok s'->Inv l.length W s'->K (.tuple #[]) W)(t:∀c b,lA fl take [] l s=.bad c b->TC w0 path c b):
  aL P0 172 [pA p,v,f] w K:=by
 refine aAT ?_;unfold aGx;rw[gQ (F w (C _ _ _ h).fo)];generalize hR:lA fl take [] l s=R at P t;refine eK.go (λst W=>∃(i:Nat) (I:σ),st=[i64 (i:Nat)]/\i<=l.length/\Inv i W I/\lA fl take (l.take i) (l.drop i) I=R) (λst _=>match st with|[.int _ i]=>l.length-i.toNat|_=>0)
  ⟨0,s,rfl,cZ _,h,by simpa using hR⟩ ?_
 rintro st g w2 ⟨i,I,rfl,hi,U,d⟩;simp only[aG];rw[eC,aY];refine⟨λy=>?_,λhy=>?_⟩
 .have y:i<l.length:=by omega
  have hf:=F w2 (C _ _ _ U).fo;obtain⟨a,E⟩:∃a,l[i]?=some a:=⟨_,aH y⟩;have hm:a∈l:=bA E;have hd:l.drop i=a::l.drop (i+1):=by
   rw[eW y];rw[aH y]at E;injection E with E
   rw[E]
  rw[hd]at d;simp only[lA]at d;refine dE.cut (λst W=>st=[]/\∃T,Inv (i+1) W T/\lA fl take (l.take (i+1)) (l.drop (i+1)) T=R) ?_ ?_
  .refine qV hf (zW l) (by omega) y ?_;have O:((lP l).drop (i*3)).take 3=[str a.n,i64 (a.e:Nat),i64 a.a]:=Ef E;rw[O];refine cO λb w4 hb hv S Y=>?_;refine dH (l:=[str a.n,i64 (a.e:Nat),i64 a.a]) S rfl rfl rfl λX ht A hj=>?_;have L:Ext w2 X:=Y.new hj (by omega);have h5:=o _ _ _ _ U L;have N:=F X (C _ _ _ h5).fo;refine dE.cut (λst W=>st=[]/\Ext X W/\(take I a (jU fl a.e)).bind (lA fl take (l.take i++[a]) (l.drop (i+1)))=R) ?_ ?_
   .refine aFn N (zW l) (Nat.le_of_lt y) λu hu=>?_;rw[Si]at hu;have D:(l.take i).length=i:=by rw[cG];omega
    refine yG (l:=l.take i) (q:=λx=>decide (x.n=a.n)) (by rw[D];exact hu) (by rw[D];omega) (λx hx c hc {w1 K} Z hK=>iM (caps:=[pA b]) (ZY hc (Z.at A id) hK)) λJ m=>?_;rw[fC];refine⟨λB=>?_,λB=>?_⟩
    .rw[aO B]at d;rw[bH,bN,aN,fB];refine⟨i64 a.a,by rw[cS,m.at A id,bT];rfl,?_⟩;exact oZ (C _ _ _ (o _ _ _ _ h5 m)) (t 2 a.a d.symm)
    .rw[aE (by rw[B];decide)]at d;exact⟨rfl,m,d⟩
   rintro st g3 J ⟨rfl,m,d⟩;have h6:=o _ _ _ _ h5 m;have h7:=o _ _ _ _ h6 (cQ J);have Q:=m.at A id;have r:J.drew.heap[b]?=some (.cells [str a.n,i64 (a.e:Nat),i64 a.a].toArray AtT (0,0)):=Q;refine gL r rfl ?_;have H:=C _ _ _ h7;obtain⟨pc,hp,hE,_⟩:=H.pE;simp only[dJ,bH,bN,aN];rw[fB];refine⟨M.vE,by rw[cS,hp,bT];simpa using hE,?_⟩;rw[fB];refine⟨i64 (a.e:Nat),by rw[cS,r,bT];rfl,?_⟩;refine qV H.fo.oE.sl H.fo.ee.1 (by omega) (he a hm) ?_;refine G i a E I w2 _ _ U (L.trans (m.trans (cQ J))) (λs' W z h'=>?_) (λW z hn hh=>?_) (λc b' z=>?_)
   .rw[gK,fC];refine⟨λe=>(by cases e),λ_=>⟨trivial,s',h',?_⟩⟩;rw[z]at d;rw[jA,E];exact d
   .rw[gK,fC];refine⟨λ_=>?_,λe=>(by cases e)⟩;rw[z]at d;have hk:W.heap[b]?=some (.cells [str a.n,i64 (a.e:Nat),i64 a.a].toArray AtT (0,0)):=by rw[hh b (by omega) (pC r)];exact r
    rw[fB];refine⟨i64 a.a,by rw[cS,hk,bT];rfl,?_⟩;exact oZ hn (t 110 a.a d.symm)
   .rw[z]at d;exact t c b' d.symm
  rintro st g3 J ⟨rfl,T,h6,hg⟩;rw[cP,upi (by omega)];exact⟨⟨i+1,T,rfl,by omega,h6,hg⟩,by simp only[bD];omega⟩
 .obtain rfl:i=l.length:=by omega
  rw[iH]at d;simp only[lA]at d;exact P I w2 d.symm U
end
def WG{u:Value}(c:(cs.drop (i*n)).take n=d)(b:j<n)(a:d[j]?=some u):cs[i*n+j]?=some u:=by
 rw[<-c,gB b,iF]at a;exact a
def Dl{size off:Nat}{k:IntKind}{u:Value}{K:Value->Prop}(h:SlAt w T v n cs)(g:cs.length=n*size)(j:i<n)(l:(cs.drop (i*size)).take size=d)(e:off<size)(f:d[off]?=some u)(r:K u):fX none size v (.int k i) λp=>bF off p λq=>ldW false 1 q w K:=by
 refine ED h g (by omega) j λb o c fr m a=>?_;rw[bH,fB];refine⟨u,?_,r⟩;rw[bN,cS,m,bT,a off e];exact WG l e f
def zR{u:Value}{k:IntKind}(h:SlAt w T v n cs)(o:cs.length=n)(g:cs[i]?=some u):∃q,(∀K:Value->Prop,K q->fX none 1 v (.int k i) K)/\∀(W:World) (K:Value->Prop),Ext w W->K u->ldW false 1 q W K:=by
 obtain⟨p,cap,rfl,s,r,m⟩:=h;have a:i<cs.length:=(bJ.1 g).1;obtain⟨b,off,c,fr,rfl,l,d⟩:=m (λe=>by rw[e]at a;simp at a);refine⟨.pointer (some ((⟨b,off,none⟩:Addr).add (i*1))),λK f=>?_,λW K j f=>?_⟩
 .rw[fI];exact⟨by omega,by omega,by simpa using f⟩
 .rw[fB];refine⟨u,?_,f⟩;rw[bN,cS,j.at l id,bT,Nat.mul_one,d i a];exact g
def ldb{b off:Nat}{K:Value->Prop}(c:w.heap[b]?=some (.cells cs.toArray T (0,0)))(a:cs[off]?=some v)(d:K v):ldW false 1 (.pointer (some ⟨b,off,none⟩)) w K:=by
 rw[fB];exact⟨v,by rw[cS,c,bT];simpa using a,d⟩
section
variable [HX]
section
variable{w0 w:World}{p:Nat}{M:Lay}{path:Str}{fl:Fl}{K:Q0}
def Mf.ext(h:Mf w0 w p M path fl)(a:Ext w W):Mf w0 W p M path fl:=by
 obtain⟨cs,c,b⟩:=h.pE;exact⟨h.ch.trans a,⟨cs,a.at c id,b⟩,h.fo.keep a λ_ _ _ _ e=>e⟩
def Mf.drew(h:Mf w0 w p M path fl):Mf w0 w.drew p M path fl:=h.ext (cQ w)
def HE{b:Blk}{c:List Value}(h:Mf w0 w p M path fl)(z:BkR w w0.heap.size b c)(A:∀j∈b.blocks,j<fl.bl.length)(G:b.blocks.length<=1000000)(t:∀W,uE fl b=.ok ()->Ext w W->K (.tuple #[]) W)(n:∀c a,uE fl b=.bad c a->TC w0 path c a):
  aL P0 174 [pA p,.agg c.toArray] w K:=by
 obtain⟨vl,va,vb,rfl,J,I,y⟩:=z;refine aAR ?_;unfold aGv;refine gF λd o H F m q=>?_;simp only[bH,dJ,bN,aN];refine ldb m (v:=vb) rfl ?_;rw[gQ (y.sl.ext q),gG,aY];refine⟨λg=>?_,λg=>?_⟩
 .have f:=(h.ext q).drew;obtain⟨pc,s,_,B,_⟩:=f.pE;refine ldb s B ?_;have l:o.drew.heap[d]?=some (.cells [str b.typ,vl,va,vb,i64 b.a].toArray 38 (0,0)):=m;refine ldb l (v:=vb) rfl ?_;cases e:b.blocks with
  |nil=>rw[e]at g;simp at g
  |cons k r=>
   have u:=A k (by rw[e];exact bC);refine mC (i:=0) (x:=i64 (k:Nat)) ((y.sl.ext q).ext (cQ o)) (by rw[xH];omega) (by rw[e];rfl) ?_;obtain⟨D,E,wb,C,_⟩:=uZ f.fo u;have:=Dl (off:=4) (k:=.i64) (K:=λt21=>aL P0 94 [pA p,.int .i64 110,t21] o.drew λt22 w2=>K (.tuple #[]) w2) f.fo.oB.sl f.fo.bb.1 u C (by omega) rfl;refine this (oZ f (n 110 _ ?_));unfold uE;rw[e]
 .refine t o ?_ q;unfold uE;cases e:b.blocks with
  |nil=>rfl
  |cons k r=>rw[e]at g;simp at g
end
section
variable [FK]{w0 w:World}{p:Nat}{L:ML}{vS:Value}{path:Str}{s:MS}{K:Q0}
structure rJ(w0 w:World)(p:Nat)(L:ML)(vS:Value)(b:Nat)(T:TypeId)(cs:List Value):Prop where
 at_:w.heap[b]?=some (.cells cs.toArray T (0,0))
 off:yP w0 w p L vS b
variable{b b':Nat}{T:TypeId}{cs:List Value}
def rJ.ext(h:rJ w0 w p L vS b T cs)(a:Ext w W):rJ w0 W p L vS b T cs:=⟨a.at h.at_ id,h.off.up a.size⟩
def rJ.one(h:rJ w0 w p L vS b T cs)(c:Chg (One b') w W)(a:b≠b'):rJ w0 W p L vS b T cs:=⟨c.at h.at_ a,h.off.up c.size⟩
def rJ.lt(h:rJ w0 w p L vS b T cs):b<w.heap.size:=h.off.2.1
def MR.loc(h:MR w0 w p L vS path s)(c:W.heap.size=w.heap.size+1)(d:b=w.heap.size)(a:W.heap[b]?=some (.cells cs.toArray T (0,0))):rJ w0 W p L vS b T cs:=⟨a,h.off_new (by omega) (by omega)⟩
structure BkA(fl:Fl)(M:Lay)(k:Nat):Prop where
 lt:k<fl.bl.length
 at_:∀a∈(iY fl k).attrs,a.e<fl.ex.length
 bs:∀j∈(iY fl k).blocks,j<fl.bl.length
 few:(iY fl k).attrs.length<=1000000/\(iY fl k).blocks.length<=1000000/\(iY fl k).labels.length<=1000000
theorem Nl{k:Nat}(h:MR w0 w p L vS path s)(hk:BkA s.m.fl L.M k)(hl:1<=(iY s.m.fl k).labels.length)(hv:s.m.vars.length<=100000000000)
  (u:∀s' L' xf W,oJ s (iY s.m.fl k)=.ok s'->L'.M=L.M->MR w0 W p L' xf path s'->K (.tuple #[]) W)(f:∀c a,oJ s (iY s.m.fl k)=.bad c a->TC w0 path c a):
  aL P0 138 [pA p,.agg (bcc L.M k).toArray] w K:=by
 obtain⟨vl,va,vb,ec,h1,h2,h3⟩:=uZ h.md.fo hk.lt;obtain⟨Q,R,hu,hs,hr,yf⟩:=hk;generalize hb:iY s.m.fl k=b at*
 rw[ec];refine aBb ?_;unfold aGP;refine gF λb3 w1 xu xk z hj=>?_;have hp:=(h.ext hj).drew;have l3:rJ w0 w1.drew p L vS b3 BkT _:=(h.loc xk xu z).ext (cQ w1);have z:=l3.at_;have xy:=(h1.sl.ext hj).ext (cQ w1);obtain⟨x,hx⟩:∃x,b.labels[0]?=some x:=⟨_,aH (by omega)⟩;have xm:b.labels.getD 0 []=x:=by rw[aM,hx];rfl
 have xl:(strs b.labels)[0]?=some (str x):=by unfold strs;rw[dV,hx];rfl
 simp only[bH,bN,aN];refine ldb z (v:=vl) rfl ?_;obtain⟨pl,xp,P⟩:=zR (k:=.i64) xy (by rw[wU];omega) xl;refine xp _ (P _ _ (Chg.refl _ _) ?_);refine ldb z (v:=i64 b.a) rfl ?_;simp only[eG,eP,dW,aA,aD,aP,aU];refine⟨by omega,by omega,by omega,?_⟩;refine cO λb4 w3 xt xj G V=>?_;have xs:=hp.ext V;have l3:=l3.ext V;have l4:rJ w0 w3 p L vS b4 VrT _:=hp.loc xj xt G;have S:b3≠b4:=by have:w1.drew.heap.size=w1.heap.size:=rfl;omega
 refine⟨ldb l3.at_ rfl rfl,P _ _ V rfl,ldb l3.at_ rfl rfl,?_⟩;refine dH (l:=[str x,i64 (-1),i64 b.a]) l4.at_ rfl rfl rfl λw4 ys G X=>?_;have xr:=xs.one X l4.off;have l3:=l3.one X S;have l4:rJ w0 w4 p L vS b4 VrT [str x,i64 (-1),i64 b.a]:=⟨G,l4.off.up X.size⟩;refine ldb l3.at_ (v:=va) rfl ?_;have xn:∀w,FO w w0.heap.size L.M s.m.fl->SlAt w AtT va b.attrs.length (lP b.attrs):=λw hw=>by
  obtain⟨yl,yn,ym,Z,_,g2,_⟩:=uZ hw Q;rw[ec,hb]at Z;simp only[gC]at Z;rw[Z.2.2.1];rw[hb]at g2;exact g2.sl
 have J:oJ s b=(lA s.m.fl Gp [] b.attrs (-1)).bind λd=>(uE s.m.fl b).bind λ_=>if s.m.vars.any (λy=>decide (y.n=x))=true then .bad 2 b.a else .ok {s with m:={s.m with vars:=s.m.vars++[⟨x,d,b.a⟩]}}:=by
  rw[<-xm];rfl
 rw[J]at u f;refine Cm (σ:=Int) (M:=L.M) (fl:=s.m.fl) (path:=path) (Inv:=λ_ w d=>MR w0 w p L vS path s/\rJ w0 w p L vS b3 BkT [str b.typ,vl,va,vb,i64 b.a]/\rJ w0 w p L vS b4 VrT [str x,i64 d,i64 b.a]) (take:=Gp) (l:=b.attrs) (s:=-1)
  (λ_ w d Y=>Y.1.mf) (λ_ w W d Y hx=>⟨Y.1.ext hx,Y.2.1.ext hx,Y.2.2.ext hx⟩) xn hs R ?_ ⟨xr,l3,l4⟩ ?_ ?_
 .intro j a ha d wz w5 K' Y U hi xq yw;obtain⟨i1,i2,i3⟩:=Y;have xw:=R a (bA ha);have B:=i1.ext U;have I:=i2.ext U;have H:=i3.ext U;refine iM (caps:=[pA b4]) ?_;refine aAS ?_;unfold aGw;refine gF λb6 w6 yy yr xc D=>?_;obtain⟨ua,uk,eu,_⟩:=AT B.md.fo xw;rw[eu];refine gF λb7 w7 yx yq yh i=>?_;have o:=D.trans i;have F:=i.at xc id;simp only[bH,bN,aN];refine ldb F (v:=i64 (a.e:Nat)) rfl ?_;have C:=H.ext o;refine lJ C.at_ rfl (by simp) λw8 yp xb E=>?_;have hb6n:b6≠b4:=by have:=H.lt;omega
  refine ldb (E.at F hb6n) (v:=str a.n) rfl ?_;rw[fE];have A:=(B.ext o).one E C.off;have xh:=(I.ext o).one E S;have xg:rJ w0 w8 p L vS b4 VrT [str x,i64 (a.e:Nat),i64 b.a]:=⟨by rw[xb];simp,C.off.up E.size⟩;by_cases hd:a.n=Ln
  .rw[bS (show a.n=[100,101,102,97,117,108,116]from hd)];refine hi a.e w8 ?_ ⟨A,xh,xg⟩;unfold Gp;rw[aO hd]
  .rw[cX (show¬a.n=[100,101,102,97,117,108,116]from hd)];refine xq w8 (by unfold Gp;rw[aE hd]) A.mf λq hq xo=>?_;have h4:=i3.lt;rw[E.heap q (by have:=o.size;omega) (λe=>by have e:q=b4:=e;omega),o.heap q xo id]
 .intro d w5 hR ⟨B,I,H⟩;rw[hR]at u f;simp only[RC.bind]at u f;refine gL I.at_ rfl ?_;have xa:BkR w5 w0.heap.size b [str b.typ,vl,va,vb,i64 b.a]:=by
   have:=uZ B.md.fo Q;rw[ec,hb]at this;exact this
  refine HE B.mf xa hu hr (λw6 hB D=>?_) λc a hB=>f c a (by rw[hB]);rw[hB]at u f;simp only at u f;have N:=B.ext D;have xi:=I.ext D;have hh:=H.ext D;refine dE.cut (λst W=>st=[]/\Ext w6 W/\s.m.vars.any (λy=>decide (y.n=x))=false) ?_ ?_
  .simp only[dJ,bH,bN,aN];refine N.ld rfl ?_;refine Fv (l:=s.m.vars) (q:=λy=>decide (y.n=x)) N.md.oV.sl (by omega) (λy hy c hc {w8 K8} T xz=>iM (caps:=[pA b4]) ?_) λw7 i=>?_
   .have hc:c=[str y.n,i64 y.d,i64 y.a]:=hc;subst hc;refine aAQ ?_;unfold aGu;exact uI (T.at hh.at_ id) xz
   .rw[fC];refine⟨λr=>?_,λr=>⟨trivial,i,r⟩⟩;refine ldb (i.at xi.at_ id) (v:=i64 b.a) rfl ?_;exact oZ (N.mf.ext i) (f 2 b.a (by rw[aO r]))
  rintro st g w7 ⟨rfl,i,r⟩;rw[aE (by rw[r];decide)]at u;have O:=i.trans (cQ w7);have hm:=N.ext O;have C:=hh.ext O;simp only[dJ,bH,bN,aN];refine hm.ld rfl ?_;refine gL C.at_ rfl ?_;refine row_one (by rfl) (by rfl) (by omega) λt w8 ht T=>?_;have A:=hm.ext T;refine⟨A.ld rfl rfl,?_⟩;refine A.app_V (x:=⟨x,d,b.a⟩) ht hv λv' w9 hO hc hn=>?_;exact A.st_V hO hc hn λyk ho _ _=>u _ {L with vV:=v'} vS _ rfl rfl ho
 .intro c a hR;exact f c a (by rw[hR];rfl)
theorem TZ{k:Nat}(h:MR w0 w p L vS path s)(hk:BkA s.m.fl L.M k)(hl:1<=(iY s.m.fl k).labels.length)(xa:s.m.outs.length<=100000000000)
  (r:∀s' L' xi W,sL s (iY s.m.fl k)=.ok s'->L'.M=L.M->MR w0 W p L' xi path s'->K (.tuple #[]) W)(f:∀c a,sL s (iY s.m.fl k)=.bad c a->TC w0 path c a):
  aL P0 140 [pA p,.agg (bcc L.M k).toArray] w K:=by
 obtain⟨vl,va,vb,ec,h1,h2,h3⟩:=uZ h.md.fo hk.lt;obtain⟨Q,R,hz,hv,hu,yh⟩:=hk;generalize hb:iY s.m.fl k=b at*
 rw[ec];refine aA9 ?_;unfold aGN;refine gF λb3 w1 xw xm z ho=>?_;have hs:=(h.ext ho).drew;have l3:rJ w0 w1.drew p L vS b3 BkT _:=(h.loc xm xw z).ext (cQ w1);have z:=l3.at_;have ya:=(h1.sl.ext ho).ext (cQ w1);obtain⟨x,hx⟩:∃x,b.labels[0]?=some x:=⟨_,aH (by omega)⟩;have xo:b.labels.getD 0 []=x:=by rw[aM,hx];rfl
 have xn:(strs b.labels)[0]?=some (str x):=by unfold strs;rw[dV,hx];rfl
 simp only[bH,bN,aN];refine ldb z (v:=vl) rfl ?_;obtain⟨pl,xr,P⟩:=zR (k:=.i64) ya (by rw[wU];omega) xn;refine xr _ (P _ _ (Chg.refl _ _) ?_);refine ldb z (v:=i64 b.a) rfl ?_;simp only[eG,eP,dW,aA,aD,aP,aU];refine⟨by omega,by omega,by omega,?_⟩;refine cO λb4 w3 xv xl H Y=>?_;have xu:=hs.ext Y;have l3:=l3.ext Y;have l4:rJ w0 w3 p L vS b4 AtT _:=hs.loc xl xv H;have T:b3≠b4:=by have:w1.drew.heap.size=w1.heap.size:=rfl;omega
 refine⟨ldb l3.at_ rfl rfl,P _ _ Y rfl,ldb l3.at_ rfl rfl,?_⟩;refine dH (l:=[str x,i64 (-1),i64 b.a]) l4.at_ rfl rfl rfl λw4 yu H Z=>?_;have xt:=xu.one Z l4.off;have l3:=l3.one Z T;have l4:rJ w0 w4 p L vS b4 AtT [str x,i64 (-1),i64 b.a]:=⟨H,l4.off.up Z.size⟩;refine ldb l3.at_ (v:=va) rfl ?_;have xp:∀w,FO w w0.heap.size L.M s.m.fl->SlAt w AtT va b.attrs.length (lP b.attrs):=λw hw=>by
  obtain⟨yn,yp,yo,hf,_,g2,_⟩:=uZ hw Q;rw[ec,hb]at hf;simp only[gC]at hf;rw[hf.2.2.1];rw[hb]at g2;exact g2.sl
 have N:sL s b=(lA s.m.fl outT [] b.attrs (-1)).bind λd=>(uE s.m.fl b).bind λ_=>if d<0 then .bad 110 b.a else if s.m.outs.any (λy=>decide (y.n=x))=true then .bad 2 b.a else .ok {s with m:={s.m with outs:=s.m.outs++[⟨x,d.toNat,b.a⟩]}}:=by
  rw[<-xo];rfl
 rw[N]at r f;refine Cm (σ:=Int) (M:=L.M) (fl:=s.m.fl) (path:=path) (Inv:=λ_ w d=>MR w0 w p L vS path s/\rJ w0 w p L vS b3 BkT [str b.typ,vl,va,vb,i64 b.a]/\rJ w0 w p L vS b4 AtT [str x,i64 d,i64 b.a]) (take:=outT) (l:=b.attrs) (s:=-1)
  (λ_ w d hI=>hI.1.mf) (λ_ w W d hI hx=>⟨hI.1.ext hx,hI.2.1.ext hx,hI.2.2.ext hx⟩) xp hv R ?_ ⟨xt,l3,l4⟩ ?_ ?_
 .intro j a ha d wz w5 K' hI X hm xs yx;obtain⟨i1,i2,i3⟩:=hI;have xy:=R a (bA ha);have B:=i1.ext X;have J:=i2.ext X;have I:=i3.ext X;refine iM (caps:=[pA b4]) ?_;refine aAN ?_;unfold aGr;refine gF λb6 w6 yz yt xf D=>?_;obtain⟨ua,uk,eu,_⟩:=AT B.md.fo xy;rw[eu];refine gF λb7 w7 yy ys yj i=>?_;have o:=D.trans i;have G:=i.at xf id;simp only[bH,bN,aN];refine ldb G (v:=i64 (a.e:Nat)) rfl ?_;have C:=I.ext o;refine lJ C.at_ rfl (by simp) λw8 yr xe F=>?_;have hb6n:b6≠b4:=by have:=I.lt;omega
  refine ldb (F.at G hb6n) (v:=str a.n) rfl ?_;rw[fE];have A:=(B.ext o).one F C.off;have xk:=(J.ext o).one F T;have xj:rJ w0 w8 p L vS b4 AtT [str x,i64 (a.e:Nat),i64 b.a]:=⟨by rw[xe];simp,C.off.up F.size⟩;by_cases S:a.n=Tr
  .rw[bS (show a.n=[118,97,108,117,101]from S)];refine hm a.e w8 ?_ ⟨A,xk,xj⟩;unfold outT;rw[aO S]
  .rw[cX (show¬a.n=[118,97,108,117,101]from S)];refine xs w8 (by unfold outT;rw[aE S]) A.mf λq hq xq=>?_;have h4:=i3.lt;rw[F.heap q (by have:=o.size;omega) (λe=>by have e:q=b4:=e;omega),o.heap q xq id]
 .intro d w5 hR ⟨B,J,I⟩;rw[hR]at r f;simp only[RC.bind]at r f;refine gL J.at_ rfl ?_;have xd:BkR w5 w0.heap.size b [str b.typ,vl,va,vb,i64 b.a]:=by
   have:=uZ B.md.fo Q;rw[ec,hb]at this;exact this
  refine HE B.mf xd hz hu (λw6 hB D=>?_) λc a hB=>f c a (by rw[hB]);rw[hB]at r f;simp only at r f;have E:=B.ext D;have hj:=J.ext D;have U:=I.ext D;refine dE.cut (λst W=>st=[]/\W=w6/\¬d<0) ?_ ?_
  .simp only[bH,bN,aN];refine ldb U.at_ (v:=i64 d) rfl ?_;rw[eC,aY];refine⟨λS=>?_,λS=>⟨trivial,trivial,S⟩⟩;refine ldb hj.at_ (v:=i64 b.a) rfl ?_;exact oZ E.mf (f 110 b.a (by rw[aO S]))
  rintro st g w6 ⟨rfl,rfl,xb⟩;rw[aE xb]at r f;refine dE.cut (λst W=>st=[]/\Ext w6 W/\s.m.outs.any (λy=>decide (y.n=x))=false) ?_ ?_
  .simp only[dJ,bH,bN,aN];refine E.ld rfl ?_;refine yG (l:=s.m.outs) (q:=λy=>decide (y.n=x)) E.md.oO.sl (by omega) (λy hy c hc {w8 K8} V yb=>iM (caps:=[pA b4]) ?_) λw7 i=>?_
   .have hc:c=[str y.n,i64 (y.e:Nat),i64 y.a]:=hc;subst hc;refine aAM ?_;unfold aGq;exact uI (V.at U.at_ id) yb
   .rw[fC];refine⟨λu=>?_,λu=>⟨trivial,i,u⟩⟩;refine ldb (i.at hj.at_ id) (v:=i64 b.a) rfl ?_;exact oZ (E.mf.ext i) (f 2 b.a (by rw[aO u]))
  rintro st g w7 ⟨rfl,i,u⟩;rw[aE (by rw[u];decide)]at r;have O:=i.trans (cQ w7);have hp:=E.ext O;have C:=U.ext O;simp only[dJ,bH,bN,aN];refine hp.ld rfl ?_;refine gL C.at_ rfl ?_;refine row_one (by rfl) (by rfl) (by omega) λt w8 ht V=>?_;rw[<-Int.toNat_of_nonneg (Int.not_lt.1 xb)]at ht;have A:=hp.ext V;refine⟨A.ld rfl rfl,?_⟩;refine A.app_O (x:=⟨x,d.toNat,b.a⟩) ht xa λv' w9 hO hc hn=>?_;exact A.st_O hO hc hn λym hr _ _=>r _ {L with vO:=v'} vS _ rfl rfl hr
 .intro c a hR;exact f c a (by rw[hR];rfl)
end
end
section
variable [FK]{w0 w w1 w2:World}{p:Nat}{L:ML}{vS:Value}{path:Str}{s:MS}{b:Nat}{T:TypeId}{cs:List Value}
def yP.ne(h:yP w0 w p L vS b)(a:v∈[vS]++L.vals):v.ownBlock≠some b:=λe=>h.2.2.1 (by rw[kR];exact aF _ (eZ a e))
def yP.np(h:yP w0 w p L vS b):b≠p:=λe=>h.2.2.1 (by rw[kR,e];exact bC)
def rJ.put_L{v':Value}(h:rJ w0 w p L vS b T cs)(i:Chg (λk=>L.vL.ownBlock=some k) w w1)(c:Chg (One p) w1 w2)(j:∀k,v'.ownBlock=some k->L.vL.ownBlock=some k\/w.heap.size<=k):rJ w0 w2 p {L with vL:=v'} vS b T cs:=by
 have f:L.vL.ownBlock≠some b:=h.off.ne (by simp[ML.vals]);refine⟨c.at (i.at h.at_ f) h.off.np,h.off.1,dM h.off.2.1 (dN i.size c.size),λd=>?_,h.off.2.2.2⟩;rw[kR]at d;rcases aX.1 d with e|d
 .exact h.off.np e
 obtain⟨v,a,g⟩:=cA.1 d;have:v=v'\/v∈[vS]++L.vals:=by
  simp only[ML.vals,bM,aX,bU,fT]at a⊢
  grind
 rcases this with rfl|a
 .rcases j b g with e|e
  .exact f e
  .have:=h.off.2.1;omega
 .exact h.off.ne a g
end
abbrev MpT:TypeId:=175
section
variable [HX]
variable [FK]{w0 w:World}{p:Nat}{L:ML}{vS:Value}{path:Str}{s:MS}{K:Q0}
def aBZ(h:∀a W,a=w.heap.size->W.heap.size=w.heap.size+1->W.heap[a]?=some (.cells [pA q].toArray T (0,0))->Ext w W->K (.pointer (some ⟨a,0,none⟩)) W):jZ T (pA q) w K:=gF (z:=[pA q]) h
def LoI(w0:World)(p:Nat)(L:ML)(vS:Value)(path:Str)(s:MS)(b2 a:Nat)(c3:List Value)(j:Nat)(w:World)(l:List Atr):Prop:=
 ∃L':ML,L'.M=L.M/\MR w0 w p L' vS path {s with m:={s.m with locs:=l}}/\rJ w0 w p L' vS b2 MpT [pA p]/\rJ w0 w p L' vS a BkT c3/\l.length<=s.m.locs.length+j
theorem Us{k:Nat}(h:MR w0 w p L vS path s)(hk:BkA s.m.fl L.M k)(xt:s.m.locs.length<=10000000000)
  (B:∀s' L' hp W,sP s (iY s.m.fl k)=.ok s'->L'.M=L.M->MR w0 W p L' hp path s'->K (.tuple #[]) W)(i:∀c a,sP s (iY s.m.fl k)=.bad c a->TC w0 path c a):
  aL P0 139 [pA p,.agg (bcc L.M k).toArray] w K:=by
 obtain⟨vl,va,vb,ec,h1,h2,h3⟩:=uZ h.md.fo hk.lt;obtain⟨F,G,hf,he,hd,xr⟩:=hk;generalize hb:iY s.m.fl k=b at*
 rw[ec];refine aBa ?_;unfold aGO;refine aBZ λb2 w1 xj xb hl xc=>?_;have Z:=h.ext xc;have l2:rJ w0 w1 p L vS b2 MpT _:=h.loc xb xj hl;refine gF λb3 w2 xi xa hj V=>?_;have xg:=Z.ext V;have l3:rJ w0 w2 p L vS b3 BkT _:=Z.loc xa xi hj;have l2:=l2.ext V;refine ldb l2.at_ (v:=pA p) rfl ?_;simp only[bH,bN,aN];refine ldb l3.at_ (v:=va) rfl ?_;have xe:∀w,FO w w0.heap.size L.M s.m.fl->SlAt w AtT va b.attrs.length (lP b.attrs):=λw hw=>by
  obtain⟨yc,ye,yd,R,_,g2,_⟩:=uZ hw F;rw[ec,hb]at R;simp only[gC]at R;rw[R.2.2.1];rw[hb]at g2;exact g2.sl
 have D:sP s b=(lA s.m.fl DC [] b.attrs s.m.locs).bind λl=>(uE s.m.fl b).bind λ_=>.ok {s with m:={s.m with locs:=l}}:=rfl;rw[D]at B i;refine Cm (M:=L.M) (fl:=s.m.fl) (path:=path) (Inv:=LoI w0 p L vS path s b2 b3 [str b.typ,vl,va,vb,i64 b.a]) (take:=DC) (l:=b.attrs) (s:=s.m.locs)
  (λ_ w l ⟨L',e,g,_⟩=>by rw[<-e];exact g.mf) (λ_ w W l ⟨L',e,g1,g2,g3,g4⟩ hx=>⟨L',e,g1.ext hx,g2.ext hx,g3.ext hx,g4⟩) xe he G ?_ ⟨L,rfl,xg,l2,l3,by omega⟩ ?_ ?_
 .rintro j a ha l wz w5 K' ⟨L',S,i1,i2,i3,i4⟩ O T yk xh;have yl:j<b.attrs.length:=(bJ.1 ha).1;have xl:=G a (bA ha);refine iM (caps:=[pA b2]) ?_;refine aAP ?_;unfold aGt;refine gF λb6 w6 yn yh hi N=>?_;obtain⟨ua,uk,eu,_⟩:=AT (i1.ext O).md.fo xl;rw[<-S,eu];refine gF λb7 w7 ym yg xu U=>?_;have z:=O.trans (N.trans U);have E:=i1.ext z;have J:=i2.ext z;have hu:=i3.ext z;have r:=U.at hi id;have hr:rJ w0 w7 p L' vS b6 AtT [str a.n,i64 (a.e:Nat),i64 a.a]:=⟨r,(i1.ext O).off_new (by omega) (by omega)⟩;refine dE.cut (λst W=>st=[]/\Ext w7 W/\l.any (λy=>decide (y.n=a.n))=false) ?_ ?_
  .refine ldb J.at_ (v:=pA p) rfl ?_;simp only[dJ,bH,bN,aN];refine E.ld rfl ?_;refine yG (l:=l) (q:=λy=>decide (y.n=a.n)) E.md.oL.sl (by omega) (λy hy c H {w8 K8} f xn=>iM (caps:=[pA b6]) ?_) λw8 f=>?_
   .have H:c=[str y.n,i64 (y.e:Nat),i64 y.a]:=H;subst H;refine aAO ?_;unfold aGs;exact uI (f.at r id) xn
   .rw[fC];refine⟨λo=>?_,λo=>⟨trivial,f,o⟩⟩;refine ldb (J.ext f).at_ (v:=pA p) rfl ?_;refine ldb (f.at r id) (v:=i64 a.a) rfl ?_;have hM:=(E.ext f).mf;rw[S]at hM;exact oZ hM (xh 2 a.a (by unfold DC;rw[aO o]))
  rintro st g w8 ⟨rfl,f,o⟩;have u:=f.trans (cQ w8);have X:=E.ext u;have I:=J.ext u;have hs:=hu.ext u;have hq:=hr.ext u;refine ldb I.at_ (v:=pA p) rfl ?_;refine ldb I.at_ (v:=pA p) rfl ?_;simp only[dJ,bH,bN,aN];refine X.ld rfl ?_;refine gL hq.at_ rfl ?_;refine row_one (by rfl) (by rfl) (by omega) λt yb ht A=>?_;have C:=X.ext A;have d:=I.ext A;refine⟨C.ld rfl rfl,ldb d.at_ rfl rfl,ldb d.at_ rfl rfl,?_⟩;refine C.app_L (x:=a) ht (by show l.length<=_;omega) λv' ya hO H hn=>?_;refine⟨ldb (H.at d.at_ (d.off.ne (by simp[ML.vals]))) rfl rfl,?_⟩;refine C.st_L hO H hn λho Y hg _=>?_;refine T (l++[a]) ho (by unfold DC;rw[aE (by rw[o];decide)]) ⟨{L' with vL:=v'},S,Y,d.put_L H hg hn,(hs.ext A).put_L H hg hn,by rw[aB,aA,aD];omega⟩
 .rintro l w5 hR ⟨L',S,P,hz,hv,_⟩;rw[hR]at B i;simp only[RC.bind]at B i;refine ldb hz.at_ (v:=pA p) rfl ?_;refine gL hv.at_ rfl ?_;have hh:BkR w5 w0.heap.size b [str b.typ,vl,va,vb,i64 b.a]:=by
   have:=uZ P.md.fo F;rw[S]at this;have e2:iY {s with m:={s.m with locs:=l}}.m.fl k=b:=hb;rw[ec,e2]at this;exact this
  refine HE (M:=L'.M) P.mf hh hf hd (λw6 Q N=>?_) λc a Q=>i c a (by
   have Q:uE s.m.fl b=.bad c a:=Q;rw[Q])
  have Q:uE s.m.fl b=.ok ():=Q;rw[Q]at B;exact B _ L' vS _ rfl S (P.ext N)
 .intro c a hR;exact i c a (by rw[hR];rfl)
end
end
end Go.Proofs.YtjblfcfdeaagpaaGreatDoor
namespace Go.Vfs
section
open Go Go.Eng
structure MF where
 data:Str
 safe:Str
 saved:Bool
abbrev Files:=List (Str×MF)
structure MS where
 files:Files
 steps:Int
 left:Int
 dead:Bool
def newM:MS:=⟨[],0,-1,false⟩
def badB(c:UInt8):Bool:=c==0||c==10||c==32
def good(p:Str):Bool:=decide (1<=p.length)&&decide (p.length<=64)&&!p.any badB
def lkM:Files->Str->Option MF
 |[],_=>none
 |(k,x)::r,p=>if k=p then some x else lkM r p
def wo:Files->Str->Files
 |[],_=>[]
 |(k,x)::r,p=>if k=p then wo r p else(k,x)::wo r p
def ins:Files->Str->MF->Files
 |[],p,x=>[(p,x)]
 |(k,y)::r,p,x=>if Op.bytesLess p k=true then(p,x)::(k,y)::r else(k,y)::ins r p x
def wth(l:Files)(p:Str)(x:MF):Files:=ins (wo l p) p x
def vstepM(s:MS):MS×Int:=
 if s.dead=true\/s.left=0 then({s with dead:=true},5)
 else({s with left:=if s.left>0 then IntKind.i64.wrap (s.left-1)else s.left,steps:=IntKind.i64.wrap (s.steps+1)},0)
def writeM(s:MS)(p data:Str)(made:Bool):MS×Int:=
 if good p=false then(s,6)
 else if data.length>65536\/(lkM s.files p=none/\64<=s.files.length)then(s,3)
 else if made=true/\(lkM s.files p).isSome=true then(s,2)
 else if(vstepM s).2≠0 then vstepM s
 else({(vstepM s).1 with files:=wth s.files p ⟨data,((lkM s.files p).map (·.safe)).getD [],((lkM s.files p).map (·.saved)).getD false⟩},0)
def removeM(s:MS)(p:Str):MS×Int:=
 if good p=false then(s,6)
 else match lkM s.files p with
  |none=>(s,4)
  |some _=>if(vstepM s).2≠0 then vstepM s else({(vstepM s).1 with files:=wo s.files p},0)
def Fi:∀a:Str,Op.bytesLess a a=false
 |[]=>rfl
 |x::a=>by simp[Op.bytesLess,Fi a,UInt8.lt_irrefl]
def GW:∀{a b c:Str},Op.bytesLess a b=true->Op.bytesLess b c=true->Op.bytesLess a c=true
 |_,_,[],_,h=>by cases ‹List UInt8›<;>simp[Op.bytesLess]at h
 |[],_,_::_,_,_=>rfl
 |x::a,[],z::c,h,_=>by simp[Op.bytesLess]at h
 |x::a,y::b,z::c,e,d=>by
  simp only[Op.bytesLess,gH,fK,bV,iU]at e d⊢
  rcases e with e|⟨rfl,e⟩<;>rcases d with d|⟨rfl,d⟩
  .exact .inl (UInt8.lt_trans e d)
  .exact .inl e
  .exact .inl d
  .exact .inr ⟨rfl,GW e d⟩
def CH:∀(a b:Str),a≠b->Op.bytesLess a b=true\/Op.bytesLess b a=true
 |[],[],h=>absurd rfl h
 |[],_::_,_=>.inl rfl
 |_::_,[],_=>.inr rfl
 |x::a,y::b,h=>by
  simp only[Op.bytesLess,gH,fK,bV,iU]
  by_cases d:x=y
  .subst d
   have:a≠b:=λe=>h (by rw[e])
   rcases CH a b this with c|c
   .exact .inl (.inr ⟨rfl,c⟩)
   .exact .inr (.inr ⟨rfl,c⟩)
  .have:x<y\/y<x:=by
    simp only[UInt8.lt_iff_toNat_lt];have:x.toNat≠y.toNat:=λe=>d (mZ.1 e);omega
   rcases this with c|c
   .exact .inl (.inl c)
   .exact .inr (.inl c)
def Srt(l:Files):Prop:=(l.map (·.1)).Pairwise (λa b=>Op.bytesLess a b=true)
def Srt.tail{x:Str×MF}{l:Files}(h:Srt (x::l)):Srt l:=(vF.1 h).2
def wo_sub(l:Files)(p:Str):List.Sublist (wo l p) l:=by
 induction l with
 |nil=>exact List.Sublist.refl _
 |cons x r ih=>
  obtain⟨k,y⟩:=x;simp only[wo];split
  .exact ih.cons _
  .exact ih.cons_cons _
def Sz{l:Files}(p:Str)(h:Srt l):Srt (wo l p):=List.Pairwise.sublist ((wo_sub l p).map _) h
def SC(l:Files)(p:Str):p∉(wo l p).map (·.1):=by
 induction l with
 |nil=>simp[wo]
 |cons x r ih=>
  obtain⟨k,y⟩:=x;simp only[wo];split
  .exact ih
  .rename_i h;simp only[cJ,aX,not_or];exact⟨λe=>h e.symm,ih⟩
def aBN(l:Files)(p q:Str):lkM (wo l p) q=if q=p then none else lkM l q:=by
 induction l with
 |nil=>simp[wo,lkM]
 |cons x r ih=>
  obtain⟨k,y⟩:=x;simp only[wo,lkM];by_cases h:k=p
  .rw[aO h,ih];by_cases b:q=p
   .simp[b]
   .rw[aE b,aE b,aE (λe=>b (by rw[<-h,e]))]
  .rw[aE h];simp only[lkM,ih];by_cases a:k=q
   .rw[aO a,aO a,aE (λe=>h (by rw[a,e]))]
   .rw[aE a,aE a]
def PG(l:Files)(p:Str)(x:MF)(y:Str×MF):y∈ins l p x↔y=(p,x)\/y∈l:=by
 induction l with
 |nil=>simp[ins]
 |cons z r ih=>
  obtain⟨k,u⟩:=z;simp only[ins];split
  .simp
  .simp only[aX,ih];constructor
   .rintro(h|h|h)
    .exact .inr (.inl h)
    .exact .inl h
    .exact .inr (.inr h)
   .rintro(h|h|h)
    .exact .inr (.inl h)
    .exact .inl h
    .exact .inr (.inr h)
def ins_perm(l:Files)(p:Str)(x:MF):(ins l p x).Perm ((p,x)::l):=by
 induction l with
 |nil=>exact HY _
 |cons z r ih=>
  obtain⟨k,u⟩:=z;simp only[ins];split
  .exact HY _
  .exact(List.Perm.cons _ ih).trans (List.Perm.swap _ _ _)
def Zm{l:Files}{p:Str}(x:MF)(h:Srt l)(g:p∉l.map (·.1)):Srt (ins l p x):=by
 induction l with
 |nil=>simp[ins,Srt]
 |cons z r ih=>
  obtain⟨k,u⟩:=z;have f:p≠k:=λe=>g (by simp[e]);have d:p∉r.map (·.1):=λe=>g (by simp[e]);simp only[ins];split
  .rename_i a;refine vF.2 ⟨?_,h⟩;intro y b;rcases aX.1 b with rfl|b
   .exact a
   .exact GW a ((vF.1 h).1 y b)
  .rename_i a;refine vF.2 ⟨?_,ih h.tail d⟩;intro y b;obtain⟨z,c,rfl⟩:=fL.1 b;rcases(PG r p x z).1 c with rfl|c
   .exact(CH p k f).resolve_left a
   .exact(vF.1 h).1 z.1 (List.mem_map_of_mem c)
def Wa{l:Files}(p:Str)(x:MF)(h:Srt l):Srt (wth l p x):=Zm x (Sz p h) (SC l p)
def aDL(l:Files)(p q:Str)(x:MF)(d:p∉l.map (·.1)):lkM (ins l p x) q=if q=p then some x else lkM l q:=by
 induction l with
 |nil=>
  simp only[ins,lkM];by_cases h:p=q
  .simp[h]
  .rw[aE h,aE (kY h)]
 |cons z r ih=>
  obtain⟨k,u⟩:=z;have b:p≠k:=λe=>d (by simp[e]);have a:p∉r.map (·.1):=λe=>d (by simp[e]);simp only[ins];split
  .simp only[lkM];by_cases h:p=q
   .simp[h]
   .rw[aE h,aE (kY h)]
  .simp only[lkM,ih a];by_cases c:k=q
   .subst c;simp[kY b]
   .rw[aE c,aE c]
def lk_wth(l:Files)(p q:Str)(x:MF):lkM (wth l p x) q=if q=p then some x else lkM l q:=by
 unfold wth;rw[aDL _ _ _ _ (SC l p),aBN];split<;>rfl
def Ze{l:Files}{p:Str}:lkM l p=none↔p∉l.map (·.1):=by
 induction l with
 |nil=>simp[lkM]
 |cons x r ih=>
  obtain⟨k,v⟩:=x;simp only[lkM];by_cases h:k=p
  .simp[h]
  .simp only[aE h,ih,cJ,aX];exact⟨λb a=>a.elim (λe=>h e.symm) b,λb a=>b (.inr a)⟩
def SD{l:Files}{p:Str}(h:Srt l):(wo l p).length=if(lkM l p).isSome=true then l.length-1 else l.length:=by
 induction l with
 |nil=>simp[wo,lkM]
 |cons x r a=>
  obtain⟨k,y⟩:=x;have a:=a h.tail;simp only[wo,lkM];by_cases b:k=p
  .have:lkM r p=none:=by
    rw[Ze];intro d;have:=(vF.1 h).1 p d;rw[b,Fi]at this;cases this
   rw[this]at a;simp at a;simp[b,a]
  .simp only[aE b,aA,a];split
   .rename_i c;have:r.length≠0:=λe=>by
     have:r=[]:=cW e;subst this;simp[lkM]at c
    omega
   .rfl
def OP{l:Files}{p:Str}{x:MF}(h:Srt l):(wth l p x).length=if(lkM l p).isSome=true then l.length else l.length+1:=by
 have b:(wth l p x).length=(wo l p).length+1:=by unfold wth;rw[(ins_perm _ _ _).length_eq];rfl
 rw[b,SD h];split
 .rename_i a;have:l.length≠0:=λe=>by
   have:l=[]:=cW e;subst this;simp[lkM]at a
  omega
 .rfl
structure Ok(s:MS):Prop where
 srt:Srt s.files
 few:s.files.length<=64
 each:∀y∈s.files,good y.1=true/\y.2.data.length<=65536/\y.2.safe.length<=65536
def lk_mem{l:Files}{p:Str}{x:MF}(h:lkM l p=some x):(p,x)∈l:=by
 induction l with
 |nil=>cases h
 |cons z r ih=>
  obtain⟨k,y⟩:=z;simp only[lkM]at h;by_cases a:k=p
  .rw[aO a]at h;cases h;subst a;exact bC
  .rw[aE a]at h;exact aF _ (ih h)
def aDD:Ok newM:=⟨List.Pairwise.nil,by simp[newM],by simp[newM]⟩
def Pz{s:MS}(h:Ok s):Ok (vstepM s).1:=by
 unfold vstepM;split<;>exact⟨h.srt,h.few,h.each⟩
def wW(s:MS):(vstepM s).1.files=s.files:=by unfold vstepM;split<;>rfl
def YV{l:Files}{p:Str}{x:MF}{y:Str×MF}(h:y∈wth l p x):y=(p,x)\/y∈l:=by
 rcases(PG _ _ _ _).1 h with h|h
 .exact .inl h
 .exact .inr ((wo_sub l p).subset h)
def Ub{s:MS}(h:Ok s)(p data:Str)(made:Bool):Ok (writeM s p data made).1:=by
 unfold writeM;split
 .exact h
 .rename_i e;split
  .exact h
  .rename_i c;split
   .exact h
   .split
    .exact Pz h
    .refine⟨Wa _ _ h.srt,?_,?_⟩
     .show(wth s.files p _).length<=64;rw[OP h.srt];have:=h.few;split
      .exact this
      .rename_i d;have:lkM s.files p=none:=by cases b:lkM s.files p with
        |none=>rfl
        |some _=>rw[b]at d;simp at d
       simp only[not_or,not_and,Nat.not_le]at c;exact c.2 this
     .intro y a;rcases YV a with rfl|a
      .refine⟨by simpa using e,by show data.length<=65536;simp only[not_or]at c;omega,?_⟩;cases b:lkM s.files p with
       |none=>simp
       |some x=>simpa using(h.each _ (lk_mem b)).2.2
      .exact h.each y a
def Rc{s:MS}(h:Ok s)(p:Str):Ok (removeM s p).1:=by
 unfold removeM;split
 .exact h
 .split
  .exact h
  .split
   .exact Pz h
   .exact⟨Sz p h.srt,dN (wo_sub _ _).length_le h.few,λy a=>h.each y ((wo_sub _ _).subset a)⟩
end
end Go.Vfs
namespace Go.Proofs.YtjblfcfdeaagpaaGreatDoor.Fx
section
open Go Go.Eng
def aFg:=And.intro @eU<|And.intro @eL<|And.intro @eF<|And.intro @eB<|And.intro @fM<|And.intro @eY<|And.intro @eQ<|And.intro @dK<|And.intro @dW<|And.intro @jJ<|And.intro @eG<|And.intro @eP<|And.intro @iI<|And.intro @iS<|And.intro @fD<|And.intro @cM<|And.intro @aZ<|And.intro @cP<|And.intro @gR<|And.intro @jH<|And.intro @jG<|And.intro @jF<|And.intro @bW<|And.intro @fR<|And.intro @eC<|And.intro @iC<|And.intro @gG<|And.intro @gN<|And.intro @bY<|And.intro @fE<|And.intro @iB<|And.intro @jQ<|And.intro @jS<|And.intro @jT<|And.intro @jR<|And.intro @dJ<|And.intro @bH<|And.intro @fB<|And.intro @Au<|And.intro @aCh<|And.intro @Ws<|And.intro @aCd<|And.intro @Tg<|And.intro @aCf<|And.intro @aCg<|And.intro @JC<|And.intro @Wq<|And.intro @Tf<|And.intro @jN<|And.intro @iJ<|And.intro @jK<|And.intro @gI<|And.intro @jL<|And.intro @jM<|And.intro @bX<|And.intro @fI<|And.intro @jP<|And.intro @jE<|And.intro @eR<|And.intro @iT<|And.intro @gK<|And.intro @kS<|And.intro @iA<|And.intro @jD<|And.intro @jO<|And.intro @VL<|And.intro @ZS<|And.intro @ZR<|And.intro @Vz<|And.intro @ZO<|And.intro @Sb<|And.intro @ZP<|And.intro @ZQ<|And.intro @fJ<|And.intro @fF<|And.intro @fH<|And.intro @kU<|And.intro @gX<|And.intro @jV<|And.intro @iZ<|And.intro @iN<|And.intro @jW<|And.intro @iK<|And.intro @dF<|And.intro @cI<|And.intro @bN<|And.intro @cS<|And.intro @bT<|And.intro @fU<|And.intro @gO<|And.intro @qR<|And.intro @Bu<|And.intro @fW<|And.intro @kV<|And.intro @EE<|And.intro @heap_drew<|And.intro @size_drew<|And.intro @eH<|And.intro @size_alloc<|And.intro @dQ<|And.intro @fQ<|And.intro @dT<|And.intro @dG<|And.intro @cV<|And.intro @dD<|And.intro @dO @dA
def wfx:type_of%aFg:=aFg
end
section
open Go Go.Eng Go.Vfs
def Cj:tV P0 80 5 1 1:=⟨by kernel_rfl,by kernel_rfl,by decide⟩
def Fw[HX]{l:Str}(h:Byt w T v l)(r:l.length<=1000000000000)
  (i:∀v' W,Byt W 5 v' l->Ext w W->K v' W):aL P0 57 [v] w K:=by
 refine aEB ?_;unfold W57;obtain⟨p,cap,rfl,g,d,c⟩:=h;cases p with
 |none=>
  obtain⟨q,_⟩:=d rfl;have:l=[]:=cW q;subst this;simp only[eqW,Option.isNone_none,Bool.false_xor,dF];exact i _ _ (SlAt.nil _ _) (Chg.refl _ _)
 |some a=>
  simp only[eqW,cI,gP,kE];have f:Byt (w.alloc (.cells ([]:List Value).toArray 5)) T (.slice (some a) l.length cap) l:=SlAt.ext ⟨_,_,rfl,g,d,c⟩ (by repeat (first|assumption|exact Chg.refl _ _|refine Chg.drew ?_|refine Chg.alloc ?_ _|refine Chg.set ?_ (by first|exact .inl rfl|exact .inr (by omega)|exact .inr (by simp only[eH,size_alloc,size_drew];omega)|(left;simp;done)) _|exact Chg.of_ext (by assumption)));have b:=Ds (w:=w) (base:=w.heap.size) (e:=5) (size:=1) (n:=0) (cs:=[]) (aQ _) rfl (by omega);refine HJ Cj (base:=w.heap.size) b f (by simp[u8s]) (Wj l) (by omega) (by omega) (by simp) ?_;intro v' W b o _;have j:=b.sl;simp only[aN,dS]at j;refine i v' W j (Chg.then (S:=λ_=>False) (T:=HV _ w.heap.size 5) (by repeat (first|assumption|exact Chg.refl _ _|refine Chg.drew ?_|refine Chg.alloc ?_ _|refine Chg.set ?_ (by first|exact .inl rfl|exact .inr (by omega)|exact .inr (by simp only[eH,size_alloc,size_drew];omega)|(left;simp;done)) _|exact Chg.of_ext (by assumption))) o ?_);intro k s m;exact absurd m.1 (by omega)
end
section
open Go Go.Eng
def lO[HX]{g:FuncId}{args:Array Value}(b:∀(a:Array Value) (w:World),(callFunc g a).run P0 w=.ok (.enter g a) w)
  (h:Calls P0 g args w λe W=>∃v,e=.returned v/\K v W):aL P0 g args.toList w K:=by
 unfold aL;rw[show args.toList.toArray=args from by simp,b];refine h.mono ?_;rintro e W ⟨v,rfl,c⟩;exact c
def UX(l:Str)(i:Nat):(ofL l).get! i=l.getD i 0:=by
 simp only[ofL,ByteArray.get!,aM];show(l.toArray)[i]! =_;simp only[List.getElem!_toArray,List.getElem!_eq_getElem?_getD];rfl
theorem Je(l:Str)(pos:Nat)(w:pos<l.length):
  ((l.getD pos 0).toNat<128->Utf8.decode (ofL l) pos=((l.getD pos 0).toNat,1))/\
  (128<=(l.getD pos 0).toNat->128<=(Utf8.decode (ofL l) pos).1/\((Utf8.decode (ofL l) pos).1<55296\/(57344<=(Utf8.decode (ofL l) pos).1/\(Utf8.decode (ofL l) pos).1<=1114111))/\1<=(Utf8.decode (ofL l) pos).2/\
    pos+(Utf8.decode (ofL l) pos).2<=l.length/\∀k,pos<=k->k<pos+(Utf8.decode (ofL l) pos).2->128<=(l.getD k 0).toNat):=by
 have g:=Lib.decode_at (ofL l) pos;rw[kD]at g;simp only[UX]at g;have j:∀i,(l.getD i 0).toNat<256:=λi=>rT _;have y:=j pos;have n:=j (pos+1);have m:=j (pos+2);have x:=j (pos+3);have r:=Lib.decodeN_shape (l.length-pos) (l.getD pos 0).toNat (l.getD (pos+1) 0).toNat (l.getD (pos+2) 0).toNat (l.getD (pos+3) 0).toNat;rw[<-g]at r;have e:(l.getD pos 0).toNat<128->Utf8.decode (ofL l) pos=((l.getD pos 0).toNat,1):=λh=>by rw[g];unfold Lib.decodeN;rw[aO h]
 refine⟨e,?_⟩;clear e;generalize Utf8.decode (ofL l) pos=d at*
 obtain⟨c,wd⟩:=d;clear g j;have one:∀k,pos<=k->k<pos+1->k=pos:=λk n m=>by omega
 have two:∀k,pos<=k->k<pos+2->k=pos\/k=pos+1:=λk n m=>by omega
 have three:∀k,pos<=k->k<pos+3->k=pos\/k=pos+1\/k=pos+2:=λk n m=>by omega
 have four:∀k,pos<=k->k<pos+4->k=pos\/k=pos+1\/k=pos+2\/k=pos+3:=λk n m=>by omega
 rcases r with⟨p,f⟩|⟨p,s,q,o,f⟩|⟨p,s,q,o,u,t,f⟩|⟨p,s,q,o,u,t,v,f⟩|f<;>simp only[gA]at f<;>obtain⟨rfl,rfl⟩:=f
 .exactλh=>by omega
 .refineλh=>⟨o,.inl (by omega),by omega,by omega,λk b a=>?_⟩;rcases two k b a with rfl|rfl<;>omega
 .refineλh=>⟨by omega,by omega,by omega,by omega,λk b a=>?_⟩;rcases three k b a with rfl|rfl|rfl<;>omega
 .refineλh=>⟨by omega,by omega,by omega,by omega,λk b a=>?_⟩;rcases four k b a with rfl|rfl|rfl|rfl<;>omega
 .refineλh=>⟨by omega,by omega,by omega,by omega,λk b a=>?_⟩;rw[one k b a];exact h
def BP(b:Tryz.prog.underlying T=some .string){l:Str}
  (c:K (.pointer (some ⟨w.heap.size,0,none⟩)) (w.alloc (.stringIter (ofL l) 0))):fV P0 (Instr.range T (str l)) w K:=by
 have a:(Instr.range T (str l)).run P0 w=.ok (.pointer (some ⟨w.heap.size,0,none⟩)) (w.alloc (.stringIter (ofL l) 0)):=by
  simp[Instr.range,run_bind,cL b,run_pure,newObj,Sem.run]
 unfold fV;rw[a];exact c
def Dx{l:Str}(b:w.heap[r]?=some (.stringIter (ofL l) i))
  (g:l.length<=i->K (.tuple #[.bool false]) w)
  (f:i<l.length->∀W,W.heap[r]?=some (.stringIter (ofL l) (i+(Utf8.decode (ofL l) i).2))->Chg (· =r) w W->K (.tuple #[.bool true,i64 i,.int .i32 (Utf8.decode (ofL l) i).1]) W):
  fV P0 (Instr.next (.pointer (some ⟨r,0,none⟩)) true T) w K:=by
 have e:(getObj r).run P0 w=.ok (.stringIter (ofL l) i) w:=by simp[getObj,Sem.run,b]
 have d:r<w.heap.size:=(fY.1 b).1;unfold fV;simp only[Instr.next,run_bind,e,kD];by_cases c:i<l.length
 .have a:(setObj r (.stringIter (ofL l) (i+(Utf8.decode (ofL l) i).2))).run P0 w=.ok () {w with heap:=w.heap.setIfInBounds r (.stringIter (ofL l) (i+(Utf8.decode (ofL l) i).2))}:=by simp[setObj,Sem.run,b]
  rw[aO c];simp only[run_bind,a,run_pure];exact f c _ (by simp[d]) wY
 .rw[aE c];simp only[run_pure];exact g (by omega)
def uO:Str:=[0,10,32]
def He[HX]{c:Int}(a:K (i64 (Lib.indexByte s c.toNat.toUInt8)) w):aL P0 104 [str s,.int .u8 c] w K:=by
 refine lO (args:=#[str s,.int .u8 c]) Tryz.call104 ((Tryz.strings_IndexByte (ofL s) c w).mono ?_);rintro e W ⟨rfl,rfl⟩;rw[iX];exact⟨_,rfl,a⟩
def RN{c:Int}(e:128<=c)(d:c<55296\/(57344<=c/\c<=1114111)):∃l:Str,Utf8.encode c=ofL l/\2<=l.length/\l.length<=4/\∃b,l[l.length-1]?=some b/\128<=b.toNat:=by
 obtain⟨n,rfl⟩:=AS (show 0<=c by omega);have a:Utf8.valid (n:Int)=true:=by
  simp only[Utf8.valid,gH,bV,fK];omega
 have last:∀m:Nat,128<=(UInt8.ofNat (0x80+m%64)).toNat:=by
  intro m;rw[vD];omega
 unfold Utf8.encode;simp only[a,mE,bD];rw[aE (by omega)];split
 .exact⟨[_,_],rfl,by simp,by simp,_,rfl,last _⟩
 .split
  .exact⟨[_,_,_],rfl,by simp,by simp,_,rfl,last _⟩
  .exact⟨[_,_,_,_],rfl,by simp,by simp,_,rfl,last _⟩
def ZG{k:IntKind}{c:Int}{K:Value->Prop}:RU (.int k c) K↔K (.string (Utf8.encode c)):=iR
def UV(l:Str)(b:UInt8)(h:∀x∈l,x.toNat<128)(g:128<=b.toNat):Lib.indexByte l b=-1:=by
 induction l with
 |nil=>rfl
 |cons x l a=>
  have f:=h x bC;have a:=a λy d=>h y (aF _ d);have c:(x==b)=false:=by
   rw[beq_eq_false_iff_ne];intro e;subst e;omega
  simp[Lib.indexByte,c,a]
def Zs(n:Nat)(a:n<128):(0<=Lib.indexByte uO (n.toUInt8)↔n=0\/n=10\/n=32):=by
 have:∀m:Fin 128,(0<=Lib.indexByte uO (m.val.toUInt8)↔m.val=0\/m.val=10\/m.val=32):=by decide+kernel
 exact this ⟨n,a⟩
theorem Oo[HX]{c:Int}(R:0<=c)(H:c<55296\/(57344<=c/\c<=1114111))
  (u:∀r:Int,∀W,(0<=r↔c=0\/c=10\/c=32)->Ext w W->K (i64 r) W):aL P0 189 [str uO,.int .i32 c] w K:=by
 refine aAC ?_;unfold aGg;simp(disch:=omega)only[wfx,lC,Nat.reduceLT,aV,aR,bZ,aJ,aK,aI,aC,Nat.reduceAdd,cY,reduceCtorEq,bS R];refine GdW.t ?_;simp(disch:=omega)only[wfx,lC,Nat.reduceLT,aV,aR,bZ,aJ,aK,aI,aC,Nat.reduceAdd,cY,reduceCtorEq];intro g;by_cases i:c<128
 .simp(disch:=omega)only[wfx,lC,Nat.reduceLT,aV,aR,bZ,aJ,aK,aI,aC,Nat.reduceAdd,cY,reduceCtorEq,bS i];refine He ?_;refine u _ _ ?_ (Chg.refl _ _);have C:IntKind.u8.wrap c=c:=by
   have C:(2:Int)^8=256:=by decide
   simp only[IntKind.wrap,IntKind.bits,IntKind.signed,eB,C];simp;omega
  rw[C,Zs c.toNat (by omega)];omega
 .have I:¬(c=0\/c=10\/c=32):=by omega
  simp(disch:=omega)only[wfx,lC,Nat.reduceLT,aV,aR,bZ,aJ,aK,aI,aC,Nat.reduceAdd,cY,reduceCtorEq,cX i,aY];refine⟨λF=>?_,λF=>?_⟩
  .subst F;refine BP (by kernel_rfl) ?_;refine eK.go (λ_ W=>∃pos,W.heap[w.heap.size]?=some (.stringIter (ofL uO) pos)/\pos<=3/\Ext w W) (λ_ W=>match W.heap[w.heap.size]? with|some (.stringIter _ pos)=>3-pos|_=>0) ?_ ?_
   .exact⟨0,kV _ _ _ rfl,by omega,(by repeat (first|assumption|exact Chg.refl _ _|refine Chg.drew ?_|refine Chg.alloc ?_ _|refine Chg.set ?_ (by first|exact .inl rfl|exact .inr (by omega)|exact .inr (by simp only[eH,size_alloc,size_drew];omega)|(left;simp;done)) _|exact Chg.of_ext (by assumption)))⟩
   .rintro s g W ⟨pos,D,S,f⟩;refine Dx D (λJ=>?_) (λo G m P=>?_)
    .simp(disch:=omega)only[wfx,lC,Nat.reduceLT,aV,aR,bZ,aJ,aK,aI,aC,Nat.reduceAdd,cY,reduceCtorEq];exact u (-1) _ (by omega) f
    .have E:pos<3:=o;have q:Utf8.decode (ofL uO) pos=((uO.getD pos 0).toNat,1)/\(uO.getD pos 0).toNat<128:=by
      have:(uO.getD pos 0).toNat<128:=by
       rcases(show pos=0\/pos=1\/pos=2 by omega)with rfl|rfl|rfl<;>decide
      exact⟨(Je uO pos o).1 this,this⟩
     have a:¬(((Utf8.decode (ofL uO) pos).1:Nat):Int)=65533:=by rw[q.1];have:=q.2;simp only;omega
     simp(disch:=omega)only[wfx,lC,Nat.reduceLT,aV,aR,bZ,aJ,aK,aI,aC,Nat.reduceAdd,cY,reduceCtorEq,cX a];have y:Ext w G:=Chg.then f P λk T e=>by omega
     rw[q.1]at m;refine⟨⟨_,m,by simp only;omega,y⟩,?_⟩;rw[m,D];simp only;omega
  .refine lO (args:=#[.int .i32 c]) Tryz.call215 ((Tryz.utf8_ValidRune c w).mono ?_);rintro e W ⟨rfl,rfl⟩;have z:Lib.validRune c=true:=by simp only[Lib.validRune,fK];omega
   refine⟨_,rfl,?_⟩;rw[z];obtain⟨l,N,M,L,b,Q,n⟩:=RN (show 128<=c by omega) H;simp(disch:=omega)only[wfx,lC,Nat.reduceLT,aV,aR,bZ,aJ,aK,aI,aC,Nat.reduceAdd,cY,reduceCtorEq,ZG,N];rw[fZ (by omega) (by omega)];refine eK.go (λs j=>s=[i64 ((l.length:Int)-1)]/\j=W) (λ_ _=>0) ⟨rfl,rfl⟩ ?_;rintro s g j ⟨rfl,rfl⟩;simp(disch:=omega)only[wfx,lC,Nat.reduceLT,aV,aR,bZ,aJ,aK,aI,aC,Nat.reduceAdd,cY,reduceCtorEq,aY,show uO.length=3 from rfl];refine⟨λU=>?_,λ_=>u (-1) _ (by omega) (Chg.refl _ _)⟩;refine dE.cut (λ_ _=>False) ?_ (λ_ _ _ h=>h.elim);have O:((l.length:Int)-1).toNat=l.length-1:=by omega
   have p:l.length=2\/l.length=3:=by omega
   have d:∀x:UInt8,x.toNat<128->¬((x.toNat:Int)=b.toNat):=λx f e=>by omega
   have q:∀k,Lib.indexByte (uO.drop k) b=-1:=λk=>UV _ b (λx f=>by
    have f:=List.mem_of_mem_drop f;simp only[uO,aX,bU,fT]at f;rcases f with rfl|rfl|rfl<;>decide) n
   have A:((b.toNat:Int)).toNat.toUInt8=b:=by simp
   have fin:∀(x:UInt8) (k:Nat),x.toNat<128->k<=3->(¬((x.toNat:Int)=b.toNat)->aL P0 104 [str (uO.drop k),.int .u8 b.toNat] j.drew.drew λt41 v=>
     aS BinOp.lss t41 (Value.int IntKind.i64 0) λt43=>bE t43 (K (Value.int IntKind.i64 (-1)) v) (aS BinOp.add t41 (Value.int IntKind.i64 1) λt46=>aS BinOp.add (i64 ((l.length:Int)-1)) t46 λt47=>False)):=by
    intro x k _ _ _;refine He ?_;rw[A,q k];simp(disch:=omega)only[wfx,lC,Nat.reduceLT,aV,aR,bZ,aJ,aK,aI,aC,Nat.reduceAdd,cY,reduceCtorEq,aY];exact⟨λ_=>u (-1) _ (by omega) (by repeat (first|assumption|exact Chg.refl _ _|refine Chg.drew ?_|refine Chg.alloc ?_ _|refine Chg.set ?_ (by first|exact .inl rfl|exact .inr (by omega)|exact .inr (by simp only[eH,size_alloc,size_drew];omega)|(left;simp;done)) _|exact Chg.of_ext (by assumption))),λh=>absurd (by decide) h⟩
   simp only[O,Q];rcases p with B|B
   .simp only[B]at*
    refine⟨by omega,10,rfl,by omega,b,rfl,λa=>?_,λh=>h (d 10 (by decide))⟩;simp(disch:=omega)only[wfx,lC,Nat.reduceLT,aV,aR,bZ,aJ,aK,aI,aC,Nat.reduceAdd,cY,reduceCtorEq];rw[show IntKind.i64.wrap (((2:Nat):Int)-1+1)=2 from by decide];exact⟨by decide,by decide,by decide,fin 10 2 (by decide) (by omega) a⟩
   .simp only[B]at*
    refine⟨by omega,32,rfl,by omega,b,rfl,λa=>?_,λh=>h (d 32 (by decide))⟩;simp(disch:=omega)only[wfx,lC,Nat.reduceLT,aV,aR,bZ,aJ,aK,aI,aC,Nat.reduceAdd,cY,reduceCtorEq];rw[show IntKind.i64.wrap (((3:Nat):Int)-1+1)=3 from by decide];exact⟨by decide,by decide,by decide,fin 32 3 (by decide) (by omega) a⟩
theorem Rt[HX]{l:Str}(V:l.length<=1000000)(I:∀r:Int,∀W,(0<=r↔l.any Vfs.badB=true)->Ext w W->K (i64 r) W):aL P0 145 [str l,str uO] w K:=by
 by_cases S:8<l.length
 .refine lO (args:=#[str l,str uO]) Tryz.call145 ((Tryz.strings_IndexAny_long (by intro w;kernel_rfl) (ofL l) (ofL uO) w (by rw[kD];decide) (by rw[kD];exact S) (by rw[kD];omega) (by rw[kD];decide) ?_).mono ?_)
  .intro j b f;rw[iX]at f;have N:=bA f;simp only[uO,aX,bU,fT]at N;rcases N with rfl|rfl|rfl<;>decide
  .rintro e W ⟨rfl,rfl⟩;rw[iX,iX];refine⟨_,rfl,I _ _ ?_ (by repeat (first|assumption|exact Chg.refl _ _|refine Chg.drew ?_|refine Chg.alloc ?_ _|refine Chg.set ?_ (by first|exact .inl rfl|exact .inr (by omega)|exact .inr (by simp only[eH,size_alloc,size_drew];omega)|(left;simp;done)) _|exact Chg.of_ext (by assumption)))⟩;have key:∀m:Str,0<=Lib.indexAny m uO↔m.any Vfs.badB=true:=by
    intro m;induction m with
    |nil=>simp[Lib.indexAny]
    |cons x m ih=>
     have B:uO.contains x=Vfs.badB x:=by simp[uO,Vfs.badB,Bool.or_assoc,Gk]
     simp only[Lib.indexAny,B,List.any_cons];cases f:Vfs.badB x with
     |true=>simp
     |false=>
      have Q:=Lib.indexAny_ge uO m;simp only[rV,vJ,dK,<-ih];by_cases o:Lib.indexAny m uO=-1
      .simp[o]
      .rw[aE (by simpa using o)];omega
   exact key l
 .refine aA4 ?_;unfold aGI;simp(disch:=omega)only[wfx,lC,Nat.reduceLT,aV,aR,bZ,aJ,aK,aI,aC,Nat.reduceAdd,cY,reduceCtorEq,show(uO=[])=False from by simp[uO],show uO.length=3 from rfl,show(((3:Nat):Int)=1)=False from by decide];refine dE.go ?_;refine lO (args:=#[i64 l.length]) Tryz.call190 ((Tryz.strings_shouldUseASCIISet l.length w).mono ?_);rintro e W ⟨rfl,rfl⟩;refine⟨_,rfl,?_⟩;rw[cX (show¬(8<(l.length:Int))by omega)];simp(disch:=omega)only[wfx,lC,Nat.reduceLT,aV,aR,bZ,aJ,aK,aI,aC,Nat.reduceAdd,cY,reduceCtorEq];intro _;refine BP (by kernel_rfl) ?_;refine eK.go (λ_ p=>∃pos,p.heap[W.heap.size]?=some (.stringIter (ofL l) pos)/\pos<=l.length/\Ext W p/\(l.take pos).any Vfs.badB=false)
   (λ_ p=>match p.heap[W.heap.size]? with|some (.stringIter _ pos)=>l.length-pos|_=>0) ?_ ?_
  .exact⟨0,kV _ _ _ rfl,by omega,(by repeat (first|assumption|exact Chg.refl _ _|refine Chg.drew ?_|refine Chg.alloc ?_ _|refine Chg.set ?_ (by first|exact .inl rfl|exact .inr (by omega)|exact .inr (by simp only[eH,size_alloc,size_drew];omega)|(left;simp;done)) _|exact Chg.of_ext (by assumption))),rfl⟩
  .rintro s g p ⟨pos,M,U,B,a⟩;refine Dx M (λd=>?_) (λc w2 v R=>?_)
   .simp(disch:=omega)only[wfx,lC,Nat.reduceLT,aV,aR,bZ,aJ,aK,aI,aC,Nat.reduceAdd,cY,reduceCtorEq];rw[iD d]at a;exact I (-1) _ (by simp[a]) B
   .have E:Ext W w2:=Chg.then B R λk n e=>by omega
    obtain⟨f1,f2⟩:=Je l pos c;have z:l[pos]?=some (l.getD pos 0):=by simp[c]
    simp(disch:=omega)only[wfx,lC,Nat.reduceLT,aV,aR,bZ,aJ,aK,aI,aC,Nat.reduceAdd,cY,reduceCtorEq];have H:(((Utf8.decode (ofL l) pos).1:Nat):Int)<55296\/(57344<=(((Utf8.decode (ofL l) pos).1:Nat):Int)/\(((Utf8.decode (ofL l) pos).1:Nat):Int)<=1114111):=by
     by_cases h:(l.getD pos 0).toNat<128
     .rw[f1 h];simp only;omega
     .have:=(f2 (by omega)).2.1;omega
    refine Oo (by omega) H λr L C t=>?_;simp(disch:=omega)only[wfx,lC,Nat.reduceLT,aV,aR,bZ,aJ,aK,aI,aC,Nat.reduceAdd,cY,reduceCtorEq,aY];have A:(((Utf8.decode (ofL l) pos).1:Nat):Int)=0\/(((Utf8.decode (ofL l) pos).1:Nat):Int)=10\/(((Utf8.decode (ofL l) pos).1:Nat):Int)=32->Vfs.badB (l.getD pos 0)=true:=by
     intro h;by_cases o:(l.getD pos 0).toNat<128
     .rw[f1 o]at h;simp only at h;generalize l.getD pos 0=x at*
      have:∀y:UInt8,x.toNat=y.toNat->x=y:=λy e=>mZ.1 e;rcases h with h|h|h
      .rw[this 0 (by simp;omega)];rfl
      .rw[this 10 (by simp;omega)];rfl
      .rw[this 32 (by simp;omega)];rfl
     .have:=(f2 (by omega)).1;omega
    have q:Ext W L:=E.trans t;refine⟨λJ=>I pos _ ?_ q,λJ=>?_⟩
    .refine⟨λ_=>?_,λ_=>by omega⟩;exact nL.2 ⟨_,bA z,A (C.1 J)⟩
    .have d:pos+(Utf8.decode (ofL l) pos).2<=l.length/\1<=(Utf8.decode (ofL l) pos).2/\(l.take (pos+(Utf8.decode (ofL l) pos).2)).any Vfs.badB=false:=by
      by_cases o:(l.getD pos 0).toNat<128
      .rw[f1 o]at C⊢;simp only at C⊢;refine⟨by omega,by omega,?_⟩;rw[List.take_succ_eq_append_getElem c,List.any_append,a];have D:l[pos]=l.getD pos 0:=by simp[c]
       simp only[List.any_cons,List.any_nil,eY,dK,D];generalize l.getD pos 0=x at*
       cases f:Vfs.badB x with
       |false=>rfl
       |true=>
        exfalso;simp only[Vfs.badB,gH,iU]at f;refine J (C.2 ?_);rcases f with(rfl|rfl)|rfl
        .exact .inl rfl
        .exact .inr (.inl rfl)
        .exact .inr (.inr rfl)
      .obtain⟨_,_,g1,g2,g3⟩:=f2 (by omega);refine⟨g2,g1,?_⟩;rw[Cq];intro y P;obtain⟨k,n⟩:=nK P;rw[AO]at n;split at n
       .rename_i G;by_cases F:k<pos
        .have:=Cq.1 a y (bA (i:=k) (by rw[AO,aO F];exact n));exact this
        .have O:=g3 k (by omega) G;have T:l.getD k 0=y:=by simp[n]
         rw[T]at O;intro f;simp only[Vfs.badB,gH,iU]at f;rcases f with(rfl|rfl)|rfl<;>simp at O
       .cases n
     have u:L.heap[W.heap.size]?=some (.stringIter (ofL l) (pos+(Utf8.decode (ofL l) pos).2)):=by
      rw[t.heap _ (fY.1 v).1 id];exact v
     refine⟨⟨_,u,d.1,q,d.2.2⟩,?_⟩;rw[u,M];simp only;omega
def KC[HX]{l:Str}(d:l.length<=1000000)(e:∀W,Ext w W->K (.bool (l.any Vfs.badB)) W):aL P0 101 [str l,str uO] w K:=by
 refine aBy ?_;unfold aHb;refine Rt d λr W b c=>?_;simp(disch:=omega)only[wfx,lC,Nat.reduceLT,aV,aR,bZ,aJ,aK,aI,aC,Nat.reduceAdd,cY,reduceCtorEq];have:decide (0<=r)=l.any Vfs.badB:=by
  cases a:l.any Vfs.badB with
  |true=>exact bS (b.2 a)
  |false=>exact cX λh=>by rw[b.1 h]at a;cases a
 rw[this];exact e W c
end
end Go.Proofs.YtjblfcfdeaagpaaGreatDoor.Fx
