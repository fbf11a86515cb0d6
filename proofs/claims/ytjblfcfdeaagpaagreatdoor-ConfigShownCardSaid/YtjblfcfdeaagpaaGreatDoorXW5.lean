/- One plain sentence: contracts and plain laws that the claim rests on. Conditions: those that each states. -/
import Derived.Test.YtjblfcfdeaagpaaGreatDoorXW4
import Derived.Shelf.SlIter.Nil
import Derived.Shelf.SortM.Plain
import Derived.Shelf.SortM.SortNone
import Derived.Test.YtjblfcfdeaagpaaGreatDoorProg
import Derived.Test.YtjblfcfdeaagpaaGreatDoorXW3
import Derived.Lib.SlBytesConst
import Derived.Laws.MakeOwn
import Derived.Shelf.Strconv.Clone
import Derived.Shelf.LaysM
import Derived.Ground.SlgmProg
import Derived.Test.YtjblfcfdeaagpaaGreatDoorXW1
import Derived.Laws.StructEq
import Derived.ChangeKeysEq
import Derived.Lib.ItoaNum
set_option linter.all false
set_option linter.unusedSimpArgs false
set_option linter.unusedVariables false
set_option linter.unusedSectionVars false
set_option maxRecDepth 100000
variable{w W:Go.World}{K:Go.Value->Go.World->Prop}{cs d D:List Go.Value}{G S:Nat->Prop}{T U:Go.TypeId}{i n m j p q r A:Nat}{v g:Go.Value}{P:Go.Program}{c:UInt8}{s y o B:Str}{u:List Nat}{a z:Int}{F:Go.Value->Prop}{H:Go.World->Prop}{E:Bool}{L:List Str}{α β:Type}{v0 v1 v2 v3 v4 v5:Go.Value}
namespace Go.Proofs.YtjblfcfdeaagpaaGreatDoor.Fx
section
open Go Go.Eng Go.Vfs
abbrev sv(b:Bool):Int:=if b=true then 1 else 0
abbrev FT:TypeId:=133
abbrev UT:TypeId:=5
def AN(w:World)(v:Value)(x:MF):Prop:=
 ∃dp c a b,v=.agg [.slice dp x.data.length c,.slice a x.safe.length b,i64 (sv x.saved)].toArray/\Byt w UT (.slice dp x.data.length c) x.data/\Byt w UT (.slice a x.safe.length b) x.safe
def FC(w:World):Option Value->Option MF->Prop
 |none,none=>True
 |some v,some x=>AN w v x
 |_,_=>False
structure FsB(w:World)(b m:Nat)(s:MS):Prop where
 blk:w.heap[b]?=some (.cells #[.map (some m),i64 s.steps,i64 s.left,.bool s.dead] FT (0,0))
 fil:∃A,MapAt w m A/\A.length=s.files.length/\∀p,FC w (mH A p) (lkM s.files p)
def Sep(w:World)(S:Nat->Prop):Prop:=∀k c fr,S k->w.heap[k]?≠some (.cells c UT fr)
def AN.chg{x:MF}(h:AN w v x)(b:Chg S w W)(a:Sep w S):AN W v x:=by
 obtain⟨dp,i,c,d,e,g,f⟩:=h;exact⟨dp,i,c,d,e,g.chg b a,f.chg b a⟩
def FC.chg{v:Option Value}{x:Option MF}(h:FC w v x)(b:Chg S w W)(a:Sep w S):FC W v x:=by
 cases v<;>cases x<;>first|exact h|exact AN.chg h b a
def FsB.lt{b:Nat}{s:MS}(h:FsB w b m s):b<w.heap.size:=(fY.1 h.blk).1
def FsB.mlt{b:Nat}{s:MS}(h:FsB w b m s):m<w.heap.size:=by obtain⟨A,a,_⟩:=h.fil;exact a.lt
def FsB.ne{b:Nat}{s:MS}(h:FsB w b m s):m≠b:=by obtain⟨A,a,_⟩:=h.fil;exact a.ne h.blk
def FsB.chg{b:Nat}{s:MS}(h:FsB w b m s)(a:Chg S w W)(g:¬S b)(d:¬S m)(c:Sep w S):FsB W b m s:=by
 obtain⟨A,i,e,f⟩:=h.fil;exact⟨by rw[a.heap b h.lt g];exact h.blk,A,i.chg a d,e,λp=>(f p).chg a c⟩
def Sep.none(w:World):Sep w (λ_=>False):=λ_ _ _ h=>h.elim
def FsB.ext{b:Nat}{s:MS}(h:FsB w b m s)(a:Ext w W):FsB W b m s:=h.chg a id id (Sep.none w)
def FsB.sep{b:Nat}{s:MS}(h:FsB w b m s):Sep w (λk=>k=b\/k=m):=by
 rintro k c fr (rfl|rfl) e
 .rw[h.blk]at e;cases e
 .obtain⟨A,⟨es,d,a,_⟩,_⟩:=h.fil;rw[a]at e;cases e
def Byt.mut{b:Nat}{s:MS}{l:Str}(h:Byt w T v l)(g:FsB w b m s)(q:Chg (λk=>k=b\/k=m) w W):Byt W T v l:=by
 obtain⟨p,cap,n,y,u,t⟩:=h;refine⟨p,cap,n,y,u,λa=>?_⟩;obtain⟨k,off,c,fr,z,d,j⟩:=t a;have o:¬(k=b\/k=m):=by
  rintro(e|e)
  .have i:=g.blk;rw[<-e,d]at i;cases i;cases l with
   |nil=>exact a rfl
   |cons x r=>
    have:=j 0 (by simp[u8s]);rw[FJ]at this;simp only[bL,bG,aK]at this;rcases off with _|_|_|_|off<;>simp at this
  .obtain⟨A,⟨es,B,f,_⟩,_⟩:=g.fil;rw[<-e,d]at f;cases f
 exact⟨k,off,c,fr,z,by rw[q.heap k (fY.1 d).1 o];exact d,j⟩
abbrev zf:Value:=.agg [.slice none 0 0,.slice none 0 0,i64 0].toArray
abbrev df(o:Option MF):MF:=o.getD ⟨[],[],false⟩
def aE9(w:World):AN w zf ⟨[],[],false⟩:=⟨none,0,none,0,rfl,SlAt.nil _ _,SlAt.nil _ _⟩
def FC.get{v:Option Value}{x:Option MF}(h:FC w v x):AN w (v.getD zf) (df x)/\v.isSome=x.isSome:=by
 cases v<;>cases x<;>first|exact h.elim|exact⟨aE9 w,rfl⟩|exact⟨h,rfl⟩
def Fg{A:List (Str×Value)}{p:Str}{K:Value->Prop}(h:MapAt w m A):
  sF P0 (Instr.lookup 131 (.map (some m)) (str p) E) w K↔K (bif E then .tuple #[(mH A p).getD zf,.bool (mH A p).isSome]else(mH A p).getD zf):=
 IG (kt:=9) (et:=130) (by kernel_rfl) (by kernel_rfl) (z:=zf) (λw=>by kernel_rfl) h
def Kj{b:Nat}{s:MS}{p:Str}{K:Value->Prop}(h:FsB w b m s)(c:∀v,AN w v (df (lkM s.files p))->K (.tuple [v,.bool (lkM s.files p).isSome].toArray)):
  sF P0 (Instr.lookup 131 (.map (some m)) (str p) true) w K:=by
 obtain⟨A,d,_,a⟩:=h.fil;have:=(a p).get;rw[Fg d,aV,this.2];exact c _ this.1
def Ur{b:Nat}{s:MS}{p:Str}{K:Value->Prop}(h:FsB w b m s)(c:∀v,AN w v (df (lkM s.files p))->K v):
  sF P0 (Instr.lookup 131 (.map (some m)) (str p) false) w K:=by
 obtain⟨A,d,_,a⟩:=h.fil;have:=(a p).get;rw[Fg d];exact c _ this.1
def aDN{b:Nat}{s:MS}{K:Value->Prop}(h:FsB w b m s)(c:K (i64 s.files.length)):sF P0 (Builtin.len_ #[131] T #[.map (some m)]) w K:=by
 obtain⟨A,d,a,_⟩:=h.fil;rw[aDO (kt:=9) (et:=130) (by kernel_rfl) d,a];exact c
def Sp{A:List (Str×Value)}{x:Str}:mH (Co A x v) y=if y=x then some v else mH A y:=by
 induction A with
 |nil=>
  simp only[Co,mH];by_cases h:x=y
  .simp[h]
  .rw[aE h,aE (kY h)]
 |cons p r ih=>
  obtain⟨k,u⟩:=p;simp only[Co];by_cases h:k=x
  .rw[aO h];simp only[mH];subst h;by_cases a:k=y
   .simp[a]
   .rw[aE a,aE (kY a),aE a]
  .rw[aE h];simp only[mH,ih];by_cases a:k=y
   .subst a;simp[h]
   .rw[aE a,aE a]
def Sr{A:List (Str×Value)}{x:Str}(c:(A.map (·.1)).Nodup):mH (AG A x) y=if y=x then none else mH A y:=by
 induction A with
 |nil=>simp[AG,mH]
 |cons p r ih=>
  obtain⟨k,u⟩:=p;have b:=(dX.1 c);simp only[AG];by_cases h:k=x
  .subst h;rw[aO rfl];simp only[mH];by_cases a:k=y
   .subst a;rw[aO rfl,HM];exact b.1
   .rw[aE a,aE (kY a)]
  .rw[aE h];simp only[mH,ih b.2];by_cases a:k=y
   .subst a;simp[h]
   .rw[aE a,aE a]
def HL{A:List (Str×Value)}{x:Str}:(mH A x).isSome=true↔x∈A.map (·.1):=by
 have:=HM (A:=A) (x:=x);cases h:mH A x with
 |none=>simp[this.1 h]
 |some v=>rw[h]at this;simp only[cU,true_iff];exact kI λa=>by cases this.2 a
def VK{A:List (Str×Value)}{x:Str}:(Co A x v).length=if(mH A x).isSome=true then A.length else A.length+1:=by
 have h:=congrArg List.length (Ju (A:=A) (x:=x) (v:=v));rw[cK]at h;rw[h];by_cases a:x∈A.map (·.1)
 .rw[aO a,aO (HL.2 a),cK]
 .rw[aE a,aE (λe=>a (HL.1 e))];simp
def VP{A:List (Str×Value)}{x:Str}:(AG A x).length=if(mH A x).isSome=true then A.length-1 else A.length:=by
 induction A with
 |nil=>simp[AG,mH]
 |cons p r ih=>
  obtain⟨k,u⟩:=p;by_cases h:k=x
  .simp[AG,mH,h]
  .have c:AG ((k,u)::r) x=(k,u)::AG r x:=by simp[AG,h]
   have b:mH ((k,u)::r) x=mH r x:=by simp[mH,h]
   rw[c,b,aA,ih];split
   .rename_i a;have:r.length≠0:=λe=>by
     have:r=[]:=cW e;subst this;simp[mH]at a
    simp only[aA];omega
   .rfl
def aCB{b:Nat}{s:MS}{p:Str}{x:MF}{K:World->Prop}(h:FsB w b m s)(i:Srt s.files)(g:AN w v x)
  (l:∀W,FsB W b m {s with files:=wth s.files p x}->Chg (λk=>k=b\/k=m) w W->K W):Gy P0 (Instr.mapUpdate 131 (.map (some m)) (str p) v) w K:=by
 obtain⟨A,n,j,d⟩:=h.fil;refine Ic (kt:=9) (et:=130) (by kernel_rfl) (by kernel_rfl) n λW c f=>?_;have a:Chg (λk=>k=b\/k=m) w W:=f.mono λk _ e=>.inr e;refine l W ⟨by rw[f.heap b h.lt (kY h.ne)];exact h.blk,_,c,?_,λq=>?_⟩ a
 .show _=(wth s.files p x).length;rw[VK,OP i,j,((d p).get).2]
 .show FC _ _ (lkM (wth s.files p x) q);rw[Sp,lk_wth];split
  .exact g.chg a h.sep
  .exact(d q).chg a h.sep
def aD6{b:Nat}{s:MS}{p:Str}(h:FsB w b m s)(i:Srt s.files)
  (l:∀W,FsB W b m {s with files:=wo s.files p}->Chg (λk=>k=b\/k=m) w W->K (.tuple #[]) W):fV P0 (Builtin.delete_ #[131,9] T #[.map (some m),str p]) w K:=by
 obtain⟨A,g,j,d⟩:=h.fil;refine RQ (kt:=9) (et:=130) (by kernel_rfl) (by kernel_rfl) g rfl λW c f=>?_;have a:Chg (λk=>k=b\/k=m) w W:=f.mono λk _ e=>.inr e;refine l W ⟨by rw[f.heap b h.lt (kY h.ne)];exact h.blk,_,c,?_,λq=>?_⟩ a
 .show _=(wo s.files p).length;rw[VP,SD i,j,((d p).get).2]
 .show FC _ _ (lkM (wo s.files p) q);rw[Sr g.nodup,aBN];split
  .trivial
  .exact(d q).chg a h.sep
theorem IX[HX]{p:Str}(c:∀W,Ext w W->K (.bool (good p)) W):aL P0 54 [str p] w K:=by
 refine aEE ?_;unfold W54;by_cases e:1<=p.length
 .by_cases d:p.length<=64
  .have b:decide ((1:Int)<=(p.length:Int))=true:=bS (by omega);have a:decide ((p.length:Int)<=64)=true:=bS (by omega);simp(disch:=omega)only[wfx,lC,Nat.reduceLT,aV,aR,bZ,aJ,aK,aI,aC,Nat.reduceAdd,cY,reduceCtorEq,b,a];refine GdW.t ?_;simp(disch:=omega)only[wfx,lC,Nat.reduceLT,aV,aR,bZ,aJ,aK,aI,aC,Nat.reduceAdd,cY,reduceCtorEq,a];intro g;refine GdW.t ?_;refine KC (by omega) λW h=>?_;simp(disch:=omega)only[wfx,lC,Nat.reduceLT,aV,aR,bZ,aJ,aK,aI,aC,Nat.reduceAdd,cY,reduceCtorEq];intro g;have:good p=!p.any badB:=by simp[good,e,d]
   rw[<-this];exact c W h
  .have b:decide ((1:Int)<=(p.length:Int))=true:=bS (by omega);have a:decide ((p.length:Int)<=64)=false:=cX (by omega);simp(disch:=omega)only[wfx,lC,Nat.reduceLT,aV,aR,bZ,aJ,aK,aI,aC,Nat.reduceAdd,cY,reduceCtorEq,b,a];refine GdW.t ?_;simp(disch:=omega)only[wfx,lC,Nat.reduceLT,aV,aR,bZ,aJ,aK,aI,aC,Nat.reduceAdd,cY,reduceCtorEq,a];intro g;refine GdW.f λg=>?_
   (try simp(disch:=omega)only[wfx,lC,Nat.reduceLT,aV,aR,bZ,aJ,aK,aI,aC,Nat.reduceAdd,cY,reduceCtorEq])
   have:good p=false:=by simp[good,d]
   rw[<-this];exact c w (Chg.refl _ _)
 .have b:decide ((1:Int)<=(p.length:Int))=false:=cX (by omega);simp(disch:=omega)only[wfx,lC,Nat.reduceLT,aV,aR,bZ,aJ,aK,aI,aC,Nat.reduceAdd,cY,reduceCtorEq,b];refine GdW.f λg=>?_
  (try simp(disch:=omega)only[wfx,lC,Nat.reduceLT,aV,aR,bZ,aJ,aK,aI,aC,Nat.reduceAdd,cY,reduceCtorEq])
  refine GdW.f λg=>?_
  (try simp(disch:=omega)only[wfx,lC,Nat.reduceLT,aV,aR,bZ,aJ,aK,aI,aC,Nat.reduceAdd,cY,reduceCtorEq])
  have:good p=false:=by simp[good,e]
  rw[<-this];exact c w (Chg.refl _ _)
theorem Pe[HX]{b:Nat}{s:MS}(h:FsB w b m s)
  (q:∀W,FsB W b m (vstepM s).1->Chg (λk=>k=b\/k=m) w W->K (i64 (vstepM s).2) W):aL P0 56 [.pointer (some ⟨b,0,none⟩)] w K:=by
 have f:=h.blk;have i:∀e st a d W,vstepM s=(⟨s.files,st,a,d⟩,e)->W.heap[b]?=some (.cells #[.map (some m),i64 st,i64 a,.bool d] FT (0,0))->Chg (· =b) w W->K (i64 e) W:=by
  intro e st a d W u c l;have:=q W;rw[u]at this;obtain⟨A,v,r,t⟩:=h.fil;have j:Chg (λk=>k=b\/k=m) w W:=l.mono λk _ e=>.inl e;exact this ⟨c,A,v.chg l h.ne,r,λp=>(t p).chg j h.sep⟩ j
 clear q h;obtain⟨fs,st,a,d⟩:=s;refine aEC ?_;unfold W56;simp(disch:=omega)only[wfx,lC,Nat.reduceLT,aV,aR,bZ,aJ,aK,aI,aC,Nat.reduceAdd,cY,reduceCtorEq,f];refine GdW.meet [bif d then undef else .bool (decide (a=0))] (λh=>?_) (λh=>?_) (λg=>?_)
 .cases d<;>simp at h⊢
 .cases d<;>simp at h⊢
 .cases d with
  |true=>
   simp(disch:=omega)only[wfx,lC,Nat.reduceLT,aV,aR,bZ,aJ,aK,aI,aC,Nat.reduceAdd,cY,reduceCtorEq,f,fN];exact i 5 st a true _ (by simp[vstepM]) (by simp(disch:=omega)only[wfx,lC,Nat.reduceLT,aV,aR,bZ,aJ,aK,aI,aC,Nat.reduceAdd,cY,reduceCtorEq,f]) (by repeat (first|assumption|exact Chg.refl _ _|refine Chg.drew ?_|refine Chg.alloc ?_ _|refine Chg.set ?_ (by first|exact .inl rfl|exact .inr (by omega)|exact .inr (by simp only[eH,size_alloc,size_drew];omega)|(left;simp;done)) _|exact Chg.of_ext (by assumption)))
  |false=>
   simp(disch:=omega)only[wfx,lC,Nat.reduceLT,aV,aR,bZ,aJ,aK,aI,aC,Nat.reduceAdd,cY,reduceCtorEq,f,fN,aY];refine⟨λo=>?_,λo=>?_⟩
   .exact i 5 st a true _ (by simp[vstepM,o]) (by simp(disch:=omega)only[wfx,lC,Nat.reduceLT,aV,aR,bZ,aJ,aK,aI,aC,Nat.reduceAdd,cY,reduceCtorEq,f]) (by repeat (first|assumption|exact Chg.refl _ _|refine Chg.drew ?_|refine Chg.alloc ?_ _|refine Chg.set ?_ (by first|exact .inl rfl|exact .inr (by omega)|exact .inr (by simp only[eH,size_alloc,size_drew];omega)|(left;simp;done)) _|exact Chg.of_ext (by assumption)))
   .refine dE.cut (λs W=>W.heap[b]?=some (.cells #[.map (some m),i64 st,i64 (if a>0 then IntKind.i64.wrap (a-1)else a),.bool false] FT (0,0))/\Chg (· =b) w W) ?_ ?_
    .refine⟨λn=>⟨?_,(by repeat (first|assumption|exact Chg.refl _ _|refine Chg.drew ?_|refine Chg.alloc ?_ _|refine Chg.set ?_ (by first|exact .inl rfl|exact .inr (by omega)|exact .inr (by simp only[eH,size_alloc,size_drew];omega)|(left;simp;done)) _|exact Chg.of_ext (by assumption)))⟩,λn=>⟨?_,Chg.refl _ _⟩⟩
     .simp(disch:=omega)only[wfx,lC,Nat.reduceLT,aV,aR,bZ,aJ,aK,aI,aC,Nat.reduceAdd,cY,reduceCtorEq,f];rw[aO n]
     .rw[f,aE n]
    .rintro s g W ⟨c,l⟩;simp(disch:=omega)only[wfx,lC,Nat.reduceLT,aV,aR,bZ,aJ,aK,aI,aC,Nat.reduceAdd,cY,reduceCtorEq,c];exact i 0 (IntKind.i64.wrap (st+1)) (if a>0 then IntKind.i64.wrap (a-1)else a) false _ (by simp[vstepM,o]) (by simp(disch:=omega)only[wfx,lC,Nat.reduceLT,aV,aR,bZ,aJ,aK,aI,aC,Nat.reduceAdd,cY,reduceCtorEq,c]) (by repeat (first|assumption|exact Chg.refl _ _|refine Chg.drew ?_|refine Chg.alloc ?_ _|refine Chg.set ?_ (by first|exact .inl rfl|exact .inr (by omega)|exact .inr (by simp only[eH,size_alloc,size_drew];omega)|(left;simp;done)) _|exact Chg.of_ext (by assumption)))
def AN.shape{x:MF}(h:AN w v x):∃dp c a b,v=.agg [.slice dp x.data.length c,.slice a x.safe.length b,i64 (sv x.saved)].toArray:=by
 obtain⟨dp,c,a,b,e,_⟩:=h;exact⟨dp,c,a,b,e⟩
theorem WI[HX]{b:Nat}{s:MS}{p:Str}{r:Value}(h:FsB w b m s)(n:Byt w T r y)
  (k:∀W,Ext w W->K (.bool (decide ¬(y.length>65536\/(lkM s.files p=none/\64<=s.files.length)))) W):aL P0 55 [.pointer (some ⟨b,0,none⟩),str p,r] w K:=by
 have o:=h.blk;refine aED ?_;unfold W55;simp(disch:=omega)only[wfx,lC,Nat.reduceLT,aV,aR,bZ,aJ,aK,aI,aC,Nat.reduceAdd,cY,reduceCtorEq,o];refine Kj h λv u=>?_;obtain⟨dp,B,z,A,rfl⟩:=u.shape;have x:=λW (a:Ext w W)=>SlAt.ext n a;simp(disch:=omega)only[wfx,lC,Nat.reduceLT,aV,aR,bZ,aJ,aK,aI,aC,Nat.reduceAdd,cY,reduceCtorEq,o,gQ n];generalize c:(World.setCell _ _ _)=w1;have a:Ext w w1:=by subst c;exact(by repeat (first|assumption|exact Chg.refl _ _|refine Chg.drew ?_|refine Chg.alloc ?_ _|refine Chg.set ?_ (by first|exact .inl rfl|exact .inr (by omega)|exact .inr (by simp only[eH,size_alloc,size_drew];omega)|(left;simp;done)) _|exact Chg.of_ext (by assumption)))
 have q:=h.ext a;have d:=q.blk;clear c;by_cases C:y.length<=65536
 .have l:decide ((y.length:Int)<=65536)=true:=bS (by omega);simp(disch:=omega)only[wfx,lC,Nat.reduceLT,aV,aR,bZ,aJ,aK,aI,aC,Nat.reduceAdd,cY,reduceCtorEq,l];refine GdW.t ?_;intro g
  (try simp(disch:=omega)only[wfx,lC,Nat.reduceLT,aV,aR,bZ,aJ,aK,aI,aC,Nat.reduceAdd,cY,reduceCtorEq])
  cases i:(lkM s.files p).isSome with
  |true=>
   (try simp(disch:=omega)only[wfx,lC,Nat.reduceLT,aV,aR,bZ,aJ,aK,aI,aC,Nat.reduceAdd,cY,reduceCtorEq])
   refine GdW.f λg=>?_
   (try simp(disch:=omega)only[wfx,lC,Nat.reduceLT,aV,aR,bZ,aJ,aK,aI,aC,Nat.reduceAdd,cY,reduceCtorEq])
   refine GdW.t ?_
   (try simp(disch:=omega)only[wfx,lC,Nat.reduceLT,aV,aR,bZ,aJ,aK,aI,aC,Nat.reduceAdd,cY,reduceCtorEq])
   intro g
   (try simp(disch:=omega)only[wfx,lC,Nat.reduceLT,aV,aR,bZ,aJ,aK,aI,aC,Nat.reduceAdd,cY,reduceCtorEq])
   have:(decide ¬(y.length>65536\/(lkM s.files p=none/\64<=s.files.length)))=true:=by
    refine bS ?_;rw[not_or];exact⟨by omega,λe=>by rw[e.1]at i;cases i⟩
   rw[<-this];exact k _ a
  |false=>
   (try simp(disch:=omega)only[wfx,lC,Nat.reduceLT,aV,aR,bZ,aJ,aK,aI,aC,Nat.reduceAdd,cY,reduceCtorEq])
   refine GdW.t ?_
   (try simp(disch:=omega)only[wfx,lC,Nat.reduceLT,aV,aR,bZ,aJ,aK,aI,aC,Nat.reduceAdd,cY,reduceCtorEq,d])
   refine aDN q ?_
   (try simp(disch:=omega)only[wfx,lC,Nat.reduceLT,aV,aR,bZ,aJ,aK,aI,aC,Nat.reduceAdd,cY,reduceCtorEq,d])
   intro g
   (try simp(disch:=omega)only[wfx,lC,Nat.reduceLT,aV,aR,bZ,aJ,aK,aI,aC,Nat.reduceAdd,cY,reduceCtorEq])
   refine GdW.t ?_
   (try simp(disch:=omega)only[wfx,lC,Nat.reduceLT,aV,aR,bZ,aJ,aK,aI,aC,Nat.reduceAdd,cY,reduceCtorEq])
   intro g
   (try simp(disch:=omega)only[wfx,lC,Nat.reduceLT,aV,aR,bZ,aJ,aK,aI,aC,Nat.reduceAdd,cY,reduceCtorEq])
   have:(decide ¬(y.length>65536\/(lkM s.files p=none/\64<=s.files.length)))=decide ((s.files.length:Int)<64):=by
    have j:lkM s.files p=none:=by cases a:lkM s.files p with
     |none=>rfl
     |some _=>rw[a]at i;cases i
    rw[decide_eq_decide,j];simp only[dQ];omega
   rw[<-this];exact k _ a
 .have l:decide ((y.length:Int)<=65536)=false:=cX (by omega);simp(disch:=omega)only[wfx,lC,Nat.reduceLT,aV,aR,bZ,aJ,aK,aI,aC,Nat.reduceAdd,cY,reduceCtorEq,l];refine GdW.f λg=>?_
  (try simp(disch:=omega)only[wfx,lC,Nat.reduceLT,aV,aR,bZ,aJ,aK,aI,aC,Nat.reduceAdd,cY,reduceCtorEq])
  have ea:isB undef false=false:=rfl
  (try simp(disch:=omega)only[wfx,lC,Nat.reduceLT,aV,aR,bZ,aJ,aK,aI,aC,Nat.reduceAdd,cY,reduceCtorEq,ea])
  refine GdW.f λg=>?_
  (try simp(disch:=omega)only[wfx,lC,Nat.reduceLT,aV,aR,bZ,aJ,aK,aI,aC,Nat.reduceAdd,cY,reduceCtorEq])
  refine GdW.f λg=>?_
  (try simp(disch:=omega)only[wfx,lC,Nat.reduceLT,aV,aR,bZ,aJ,aK,aI,aC,Nat.reduceAdd,cY,reduceCtorEq])
  have:(decide ¬(y.length>65536\/(lkM s.files p=none/\64<=s.files.length)))=false:=cX (λj=>j (.inl (by omega)));rw[<-this];exact k _ a
def Ld{s:MS}(h:Srt s.files):Srt (vstepM s).1.files:=by rw[wW];exact h
def aDI[HX](c:∀b m W,FsB W b m newM->Ext w W->w.heap.size<=b->w.heap.size<=m->K (.pointer (some ⟨b,0,none⟩)) W):aL P0 47 [] w K:=by
 refine aEK ?_;unfold W47;refine CG λa=>?_;simp(disch:=omega)only[wfx,lC,Nat.reduceLT,aV,aR,bZ,aJ,aK,aI,aC,Nat.reduceAdd,cY,reduceCtorEq];refine c (w.heap.size+1) w.heap.size _ ?_ ?_ ?_ ?_
 .refine⟨kV _ _ _ (by simp),[],a.chg (S:=λ_=>False) (by repeat (first|assumption|exact Chg.refl _ _|refine Chg.drew ?_|refine Chg.alloc ?_ _|refine Chg.set ?_ (by first|exact .inl rfl|exact .inr (by omega)|exact .inr (by simp only[eH,size_alloc,size_drew];omega)|(left;simp;done)) _|exact Chg.of_ext (by assumption))) id,rfl,λp=>trivial⟩
 .exact(by repeat (first|assumption|exact Chg.refl _ _|refine Chg.drew ?_|refine Chg.alloc ?_ _|refine Chg.set ?_ (by first|exact .inl rfl|exact .inr (by omega)|exact .inr (by simp only[eH,size_alloc,size_drew];omega)|(left;simp;done)) _|exact Chg.of_ext (by assumption)))
 .omega
 .omega
theorem Sw[HX]{b:Nat}{s:MS}{p:Str}(h:FsB w b m s)(hs:Ok s)(Y:Byt w T g y)
  (l:∀W,FsB W b m (writeM s p y false).1->Chg (λk=>k=b\/k=m) w W->K (i64 (writeM s p y false).2) W):aL P0 23 [.pointer (some ⟨b,0,none⟩),str p,g] w K:=by
 refine aEV ?_;unfold W23;refine IX λw1 q=>?_;have h1:=h.ext q;cases F:good p with
 |false=>
  simp(disch:=omega)only[wfx,lC,Nat.reduceLT,aV,aR,bZ,aJ,aK,aI,aC,Nat.reduceAdd,cY,reduceCtorEq];have e:writeM s p y false=(s,6):=by simp[writeM,F]
  rw[e]at l;exact l _ h1 (by repeat (first|assumption|exact Chg.refl _ _|refine Chg.drew ?_|refine Chg.alloc ?_ _|refine Chg.set ?_ (by first|exact .inl rfl|exact .inr (by omega)|exact .inr (by simp only[eH,size_alloc,size_drew];omega)|(left;simp;done)) _|exact Chg.of_ext (by assumption)))
 |true=>
  simp(disch:=omega)only[wfx,lC,Nat.reduceLT,aV,aR,bZ,aJ,aK,aI,aC,Nat.reduceAdd,cY,reduceCtorEq];refine WI h1 (SlAt.ext Y q) λw2 I=>?_;have n:=q.trans I;have h2:=h.ext n;by_cases D:y.length>65536\/(lkM s.files p=none/\64<=s.files.length)
  .have V:(decide ¬(y.length>65536\/(lkM s.files p=none/\64<=s.files.length)))=false:=cX (λhn=>hn D);rw[V];simp(disch:=omega)only[wfx,lC,Nat.reduceLT,aV,aR,bZ,aJ,aK,aI,aC,Nat.reduceAdd,cY,reduceCtorEq];have e:writeM s p y false=(s,3):=by unfold writeM;rw[aE (by simp[F]),aO D]
   rw[e]at l;exact l _ h2 (by repeat (first|assumption|exact Chg.refl _ _|refine Chg.drew ?_|refine Chg.alloc ?_ _|refine Chg.set ?_ (by first|exact .inl rfl|exact .inr (by omega)|exact .inr (by simp only[eH,size_alloc,size_drew];omega)|(left;simp;done)) _|exact Chg.of_ext (by assumption)))
  .have V:(decide ¬(y.length>65536\/(lkM s.files p=none/\64<=s.files.length)))=true:=bS D;rw[V];simp(disch:=omega)only[wfx,lC,Nat.reduceLT,aV,aR,bZ,aJ,aK,aI,aC,Nat.reduceAdd,cY,reduceCtorEq];refine Pe h2 λd u Q=>?_;have R:Chg (λk=>k=b\/k=m) w d:=Chg.then (S:=λk=>k=b\/k=m) (Chg.of_ext n) Q λk _ e=>e;by_cases j:(vstepM s).2≠0
   .have e:writeM s p y false=vstepM s:=by unfold writeM;rw[aE (by simp[F]),aE D,aE (by simp),aO j]
    rw[e]at l;have:decide ((vstepM s).2≠0)=true:=bS j;simp only[fR,this,dF];exact l _ u R
   .have:decide ((vstepM s).2≠0)=false:=cX j;simp only[fR,this,cI];have e:writeM s p y false=({(vstepM s).1 with files:=wth s.files p ⟨y,((lkM s.files p).map (·.safe)).getD [],((lkM s.files p).map (·.saved)).getD false⟩},0):=by
     unfold writeM;rw[aE (by simp[F]),aE D,aE (by simp),aE j]
    rw[e]at l;have t:=u.blk;simp(disch:=omega)only[wfx,lC,Nat.reduceLT,aV,aR,bZ,aJ,aK,aI,aC,Nat.reduceAdd,cY,reduceCtorEq,t];refine Ur u λv M=>?_;rw[wW]at M;have hj:=M;obtain⟨dp,dc,G,H,rfl,hi,L⟩:=M;simp(disch:=omega)only[wfx,lC,Nat.reduceLT,aV,aR,bZ,aJ,aK,aI,aC,Nat.reduceAdd,cY,reduceCtorEq,t];generalize r:(World.setCell (World.setCell (World.setCell _ _ _) _ _) _ _)=w4;have A:Ext d w4:=by subst r;exact(by repeat (first|assumption|exact Chg.refl _ _|refine Chg.drew ?_|refine Chg.alloc ?_ _|refine Chg.set ?_ (by first|exact .inl rfl|exact .inr (by omega)|exact .inr (by simp only[eH,size_alloc,size_drew];omega)|(left;simp;done)) _|exact Chg.of_ext (by assumption)))
    have O:Byt w4 T g y:=SlAt.ext (Byt.mut Y h R) A;have E:w4.heap[d.heap.size]?=some (.cells #[.slice dp (df (lkM s.files p)).data.length dc,.slice G (df (lkM s.files p)).safe.length H,i64 (sv (df (lkM s.files p)).saved)] 130 (0,0)):=by
     subst r;simp(disch:=omega)only[wfx,lC,Nat.reduceLT,aV,aR,bZ,aJ,aK,aI,aC,Nat.reduceAdd,cY,reduceCtorEq,t]
    clear r;refine Fw O (by omega) λv' w5 C z=>?_;obtain⟨X,cc,rfl,_⟩:=C.shape;have N:d.heap.size<w4.heap.size:=(fY.1 E).1;have a:w5.heap[d.heap.size]?=_:=(z.heap _ N id).trans E;have B:=A.trans z;have h5:=u.ext B;have U:=h5.blk;have hl:b≠d.heap.size:=Nat.ne_of_lt u.lt;simp(disch:=omega)only[wfx,lC,Nat.reduceLT,aV,aR,bZ,aJ,aK,aI,aC,Nat.reduceAdd,cY,reduceCtorEq,U,a];generalize i:(World.setCell _ _ _)=w6;have o:Ext d w6:=by subst i;exact(by repeat (first|assumption|exact Chg.refl _ _|refine Chg.drew ?_|refine Chg.alloc ?_ _|refine Chg.set ?_ (by first|exact .inl rfl|exact .inr (by omega)|exact .inr (by simp only[eH,size_alloc,size_drew];omega)|(left;simp;done)) _|exact Chg.of_ext (by assumption)))
    have Z:w6.heap[d.heap.size]?=some (.cells #[.slice X y.length cc,.slice G (df (lkM s.files p)).safe.length H,i64 (sv (df (lkM s.files p)).saved)] 130 (0,0)):=by
     subst i;simp(disch:=omega)only[wfx,lC,Nat.reduceLT,aV,aR,bZ,aJ,aK,aI,aC,Nat.reduceAdd,cY,reduceCtorEq,a]
    have J:Byt w6 UT (.slice X y.length cc) y:=by
     subst i;refine SlAt.chg (S:=λk=>k=d.heap.size) C (Chg.set (S:=λk=>k=d.heap.size) (Chg.refl _ _) (.inl rfl) _) ?_;rintro k c fr rfl e;rw[a]at e;cases e
    have h6:=u.ext o;have ho:=h6.blk;clear i;have eS:((lkM s.files p).map (·.safe)).getD []=(df (lkM s.files p)).safe:=by cases lkM s.files p<;>rfl
    have eV:((lkM s.files p).map (·.saved)).getD false=(df (lkM s.files p)).saved:=by cases lkM s.files p<;>rfl
    rw[eS,eV]at l;have f:Ext w6 w6.drew:=(by repeat (first|assumption|exact Chg.refl _ _|refine Chg.drew ?_|refine Chg.alloc ?_ _|refine Chg.set ?_ (by first|exact .inl rfl|exact .inr (by omega)|exact .inr (by simp only[eH,size_alloc,size_drew];omega)|(left;simp;done)) _|exact Chg.of_ext (by assumption)));refine aCB (x:=⟨y,(df (lkM s.files p)).safe,(df (lkM s.files p)).saved⟩) (h6.ext f) (Ld hs.srt) ⟨X,cc,G,H,rfl,SlAt.ext J f,SlAt.ext L (o.trans f)⟩ λw8 h8 P=>?_;rw[wW]at h8;refine l _ h8 (Chg.then (S:=λk=>k=b\/k=m) (Chg.then (S:=λk=>k=b\/k=m) R (o.trans f) λ_ _ e=>e.elim) P λ_ _ e=>e)
def QA[HX]{b:Nat}{s:MS}{w1:World}{KA:World->Prop}{e:Q0}(j:Ext w w1)(h:FsB w1 b m s)
  (n:(vstepM s).2≠0->∀W,FsB W b m (vstepM s).1->Chg (λk=>k=b\/k=m) w W->e (i64 (vstepM s).2) W)
  (l:(vstepM s).2=0->∀W,FsB W b m (vstepM s).1->Chg (λk=>k=b\/k=m) w W->Chg (λk=>k=b\/k=m) w1 W->H W):
  aL P0 56 [.pointer (some ⟨b,0,none⟩)] w1 λt W=>aS .neq t (.int .i64 0) λc=>bE c (e t W) (H W):=by
 refine Pe h λi g a=>?_;have f:Chg (λk=>k=b\/k=m) w i:=Chg.then (S:=λk=>k=b\/k=m) (Chg.of_ext j) a λk _ e=>e;simp only[fR,aY];exact⟨λd=>n d _ g f,λd=>l (kI d) _ g f a⟩
theorem QS[HX]{b:Nat}{s:MS}{p:Str}(h:FsB w b m s)(z:Ok s)
  (a:∀W,FsB W b m (removeM s p).1->Chg (λk=>k=b\/k=m) w W->K (i64 (removeM s p).2) W):aL P0 46 [.pointer (some ⟨b,0,none⟩),str p] w K:=by
 have t:=h.blk;refine aEL ?_;unfold W46;simp(disch:=omega)only[wfx,lC,Nat.reduceLT,aV,aR,bZ,aJ,aK,aI,aC,Nat.reduceAdd,cY,reduceCtorEq,t];refine Kj h λv y=>?_;obtain⟨dp,E,C,D,rfl⟩:=y.shape;simp(disch:=omega)only[wfx,lC,Nat.reduceLT,aV,aR,bZ,aJ,aK,aI,aC,Nat.reduceAdd,cY,reduceCtorEq,t];generalize c:(World.setCell _ _ _)=w1;have d:Ext w w1:=by subst c;exact(by repeat (first|assumption|exact Chg.refl _ _|refine Chg.drew ?_|refine Chg.alloc ?_ _|refine Chg.set ?_ (by first|exact .inl rfl|exact .inr (by omega)|exact .inr (by simp only[eH,size_alloc,size_drew];omega)|(left;simp;done)) _|exact Chg.of_ext (by assumption)))
 clear c;refine IX λw2 g=>?_;have d:=d.trans g;have n:=h.ext d;unfold removeM at a;cases r:good p with
 |false=>
  simp(disch:=omega)only[wfx,lC,Nat.reduceLT,aV,aR,bZ,aJ,aK,aI,aC,Nat.reduceAdd,cY,reduceCtorEq];rw[aO r]at a;exact a _ n (by repeat (first|assumption|exact Chg.refl _ _|refine Chg.drew ?_|refine Chg.alloc ?_ _|refine Chg.set ?_ (by first|exact .inl rfl|exact .inr (by omega)|exact .inr (by simp only[eH,size_alloc,size_drew];omega)|(left;simp;done)) _|exact Chg.of_ext (by assumption)))
 |true=>
  simp(disch:=omega)only[wfx,lC,Nat.reduceLT,aV,aR,bZ,aJ,aK,aI,aC,Nat.reduceAdd,cY,reduceCtorEq];rw[aE (by simp[r])]at a;cases q:lkM s.files p with
  |none=>
   rw[q]at a
   (try simp only[Option.isSome_none])
   simp(disch:=omega)only[wfx,lC,Nat.reduceLT,aV,aR,bZ,aJ,aK,aI,aC,Nat.reduceAdd,cY,reduceCtorEq];exact a _ n (by repeat (first|assumption|exact Chg.refl _ _|refine Chg.drew ?_|refine Chg.alloc ?_ _|refine Chg.set ?_ (by first|exact .inl rfl|exact .inr (by omega)|exact .inr (by simp only[eH,size_alloc,size_drew];omega)|(left;simp;done)) _|exact Chg.of_ext (by assumption)))
  |some x=>
   rw[q]at a
   (try simp only[cU])
   (try simp(disch:=omega)only[wfx,lC,Nat.reduceLT,aV,aR,bZ,aJ,aK,aI,aC,Nat.reduceAdd,cY,reduceCtorEq])
   refine QA (KA:=λ_=>True) d n (λo W f j=>?_) (λo W f j A=>?_)
   .rw[show(if(vstepM s).2≠0 then vstepM s else({(vstepM s).1 with files:=wo s.files p},0))=vstepM s from aO o]at a;exact a _ f j
   .simp only[o,cY,cV,vJ]at a;have l:=f.blk;simp(disch:=omega)only[wfx,lC,Nat.reduceLT,aV,aR,bZ,aJ,aK,aI,aC,Nat.reduceAdd,cY,reduceCtorEq,l];refine aD6 f (Ld z.srt) λB u i=>?_;rw[wW]at u;exact a _ u (Chg.then (S:=λk=>k=b\/k=m) j i λ_ _ e=>e)
def read_fs[HX]{b:Nat}{s:MS}{p:Str}(h:FsB w b m s)(l:Ok s)
  (o:∀i W,Byt W UT i (df (lkM s.files p)).data->Ext w W->K (.tuple [i,.bool (lkM s.files p).isSome].toArray) W):aL P0 93 [.pointer (some ⟨b,0,none⟩),str p] w K:=by
 have g:=h.blk;refine aEi ?_;unfold W93;simp(disch:=omega)only[wfx,lC,Nat.reduceLT,aV,aR,bZ,aJ,aK,aI,aC,Nat.reduceAdd,cY,reduceCtorEq,g];refine Kj h λv k=>?_;obtain⟨dp,u,r,t,rfl,d,j⟩:=k;simp(disch:=omega)only[wfx,lC,Nat.reduceLT,aV,aR,bZ,aJ,aK,aI,aC,Nat.reduceAdd,cY,reduceCtorEq,g];generalize a:(World.setCell _ _ _)=w1;have f:Ext w w1:=by subst a;exact(by repeat (first|assumption|exact Chg.refl _ _|refine Chg.drew ?_|refine Chg.alloc ?_ _|refine Chg.set ?_ (by first|exact .inl rfl|exact .inr (by omega)|exact .inr (by simp only[eH,size_alloc,size_drew];omega)|(left;simp;done)) _|exact Chg.of_ext (by assumption)))
 clear a;refine Fw (d.ext f) ?_ λq W e c=>?_
 .cases n:lkM s.files p with
  |none=>simp
  |some x=>have:=(l.each _ (lk_mem n)).2.1;simp only[tY]at this⊢;omega
 .exact o _ _ e (f.trans c)
end
end Go.Proofs.YtjblfcfdeaagpaaGreatDoor.Fx
namespace Go.Proofs
section
open Go.RowKit Go.Maps Go.Sort Go.Shelf
def Tryz.keys212_ren:Go.Shelf.Ren:=⟨λ|7=>212|10=>224|n=>n,λ|23=>252|26=>9|3=>3|28=>256|0=>0|27=>255|33=>44|4=>4|n=>n,λn=>n⟩
def Tryz.keys212:Go.Proofs.SlLaysZ.n7 P0 Tryz.keys212_ren:=by constructor<;>first|kernel_rfl|exactλ_=>rfl|rfl|exact⟨_,fP (by kernel_rfl),rfl⟩
def Tryz.sorted211_ren:Go.Shelf.Ren:=⟨λ|6=>211|8=>222|9=>223|11=>229|13=>231|12=>230|23=>254|24=>255|14=>245|15=>246|16=>247|17=>248|18=>249|19=>250|20=>251|21=>252|22=>253|25=>260|26=>261|27=>262|28=>263|29=>264|30=>265|31=>266|n=>n,λ|26=>9|28=>256|24=>33|0=>0|3=>3|37=>75|48=>224|50=>227|4=>4|40=>284|39=>283|45=>148|5=>5|9=>9|51=>292|55=>296|57=>298|58=>194|33=>44|n=>n,λn=>n⟩
def Tryz.sorted211:Go.Proofs.SlLaysZ.n6 P0 Tryz.sorted211_ren:=by constructor<;>first|kernel_rfl|exactλ_=>rfl|rfl|exact⟨_,fP (by kernel_rfl),rfl⟩
def Tryz.sort223_ren:Go.Shelf.Ren:=⟨λ|6=>223|8=>231|9=>230|19=>254|20=>255|21=>245|22=>246|23=>247|24=>248|25=>249|26=>250|27=>251|28=>252|29=>253|36=>260|31=>261|32=>262|37=>263|38=>264|39=>265|41=>266|n=>n,λ|27=>33|29=>9|3=>3|32=>75|26=>33|0=>0|44=>224|46=>227|4=>4|36=>284|35=>283|41=>148|5=>5|9=>9|53=>292|57=>296|63=>298|64=>194|n=>n,λn=>n⟩
def Tryz.sort223:Go.Proofs.SlLaysM.n6 P0 Tryz.sort223_ren:=by constructor<;>first|kernel_rfl|exactλ_=>rfl|rfl|exact⟨_,fP (by kernel_rfl),rfl⟩
def Tryz.sorts211(m:Nat):AnyZ.SortsIn P0 Tryz.sorted211_ren Fence.wide m:=
 ⟨λblk off cap c W d a b=>callsIn_wide.2 (AnyM.slices_Sort_string Tryz.sort223 blk off cap c W d a b),
  λp cap W=>callsIn_wide.2 (AnyM.slices_Sort_string_none Tryz.sort223 p cap W)⟩
def Tryz.maps_Keys_212(a:Option Nat)(W:World):CallsIn Fence.wide 5 P0 212 #[.map a] W λe w'=>e=.returned (.func (.func 224) #[] #[.pointer (some ⟨W.heap.size,0,none⟩)])/\w'=W.alloc (.cells #[.map a] 252):=
 AnyZ.keys_in Tryz.keys212 Fence.wide 5 trivial rfl a W
set_option maxHeartbeats 1000000 in
def Tryz.slices_Sorted_keys_211_212(b j:Nat)(d:DataW α)(R:Value->Option (DataW α×List MemPlace))(w:World)(c:w.ownsMap P0 9 R b j d)(h:Maps.size d<=maxLen)(a:Maps.size d*16<=140737488355328):
  CallsIn Fence.wide 5 P0 211 #[.func (.func 224) #[] #[.pointer (some ⟨w.heap.size,0,none⟩)]] (w.alloc (.cells #[.map (some b)] 252)) λe W=>∃(v:Value) (f:List (List UInt8)),e=.returned v/\f.Perm (strKeys d)/\
   W.ownsRow (w.alloc (.cells #[.map (some b)] 252)).heap.size 9 1 v f.length ((f.mergeSort (λx y=>decide (x<=y))).map encStr)/\(v=.slice none 0 0↔f=[])/\Below (w.alloc (.cells #[.map (some b)] 252)).heap.size (w.alloc (.cells #[.map (some b)] 252)) W:=by
 have i:=c.lt;have g:SeqGives Fence.wide 2 P0 224 #[.pointer (some ⟨w.heap.size,0,none⟩)] encStr (λf=>f.Perm (strKeys d)) (Maps.size d) (w.alloc (.cells #[.map (some b)] 252)):=
  AnyZ.keys_gives (ρ:=Tryz.keys212_ren) {Tryz.keys212 with} Fence.wide _ trivial rfl (by omega) w.heap.size b j d _ (by simp) (by simp) (by
   obtain⟨es,clock,l,n,k,m⟩:=c;exact⟨es,clock,(Below.heap_alloc _ _ b i).trans l,n,k,m⟩)
 exact AnyZ.sorted_in Tryz.sorted211 Fence.wide 5 trivial trivial trivial trivial rfl (by omega) (Tryz.sorts211 _) (enters_of Tryz.func223 (by kernel_rfl) rfl) 224 #[.pointer (some ⟨w.heap.size,0,none⟩)] trivial (enters_of Tryz.func224 (by kernel_rfl) rfl) _ _ h a _ g
end
end Go.Proofs
namespace Go.Proofs.YtjblfcfdeaagpaaGreatDoor.Fx
section
open Go Go.Eng Go.Vfs Go.Maps
def Nc:Value->Option (DataW Unit×List MemPlace):=λ_=>some (.nil,[])
theorem owns_of_map{A:List (Str×Value)}(h:MapAt w m A)(o:∀x∈A.map (·.1),x.length<=maxLen)(F:A.length<=maxLen):
  ∃D:DataW Unit,w.ownsMap P0 9 Nc m A.length D/\(strKeys D).Perm (A.map (·.1))/\Maps.size D=A.length:=by
 obtain⟨es,clock,B,u,z,f,n⟩:=h;have d:es.toList.length=A.length:=by simpa using congrArg List.length u
 have c:es.toList.map (·.key)=A.map (λp=>str p.1):=by
  have:=congrArg (List.map Prod.fst) u;simpa[iP,Function.comp_def]using this
 have i:∀x∈es.toList,∃l:Str,x.key=str l/\l∈A.map (·.1)/\WideElems.rd P0 9 Nc x=some (.string l,.nil):=by
  intro x g;have:x.key∈A.map (λp=>str p.1):=by rw[<-c];exact List.mem_map_of_mem g
  obtain⟨p,y,e⟩:=fL.1 this;have t:p.1∈A.map (·.1):=List.mem_map_of_mem y;refine⟨p.1,e.symm,t,?_⟩;have j:=WideMaps.keyOf_string_mk (P:=P0) (k:=9) (by kernel_rfl) (s:=ofL p.1) (by rw[kD];exact o _ t);rw[iX]at j;unfold WideElems.rd;rw[<-e,j];rfl
 have v:es.size=A.length:=by simpa using d
 refine⟨.map ((es.toList.map (WideElems.rg P0 9 Nc)).foldr DataW.insert []),⟨es,clock,B,⟨by omega,⟨n,f,?_⟩,λx g=>?_⟩,by omega,rfl⟩,?_,?_⟩
 .rw[c];have:(A.map (λp=>str p.1))=(A.map (·.1)).map str:=by rw[iP];rfl
  rw[this];refine List.Pairwise.map _ (λa b q e=>q ?_) z;exact OZ.1 e
 .obtain⟨l,_,_,o⟩:=i x g;exact⟨_,o⟩
 .show(((es.toList.map (WideElems.rg P0 9 Nc)).foldr DataW.insert []).map λp=>strOf p.1).Perm _;refine((WideShapes.sorted_perm _).map _).trans ?_;rw[iP];have:es.toList.map ((λp:Lit×DataW Unit=>strOf p.1)∘WideElems.rg P0 9 Nc)=A.map (·.1):=by
   have C:(es.toList.map ((λp:Lit×DataW Unit=>strOf p.1)∘WideElems.rg P0 9 Nc)).map str=(A.map (·.1)).map str:=by
    rw[iP,iP];have r:es.toList.map (str∘((λp:Lit×DataW Unit=>strOf p.1)∘WideElems.rg P0 9 Nc))=es.toList.map (·.key):=by
     refine gS λx g=>?_;obtain⟨l,E,_,r⟩:=i x g;simp only[Function.comp_apply,WideElems.rg_of r,strOf];exact E.symm
    rw[r,c];rfl
   exact(List.map_inj_right (λa b e=>OZ.1 e)).1 C
  rw[this]
 .show((es.toList.map (WideElems.rg P0 9 Nc)).foldr DataW.insert []).length=_;rw[(WideShapes.sorted_perm _).length_eq,cK,d]
end
end Go.Proofs.YtjblfcfdeaagpaaGreatDoor.Fx
namespace Go.Proofs.YtjblfcfdeaagpaaGreatDoor
section
open Go Go.Eng Go.RowKit Go.Syn Go.Lex Go.Cfg
structure ChA(fl:Fl):Prop where
 lt:∀(i:Nat) (e:Ex),fl.ex[i]?=some e->∀a∈e.args,a<i
 one:∀e∈fl.ex,e.k=10->1<=e.args.length
 few:∀e∈fl.ex,e.args.length<=1000000/\e.t.length<=100000
def ChA.arg{fl:Fl}(h:ChA fl)(f:i<fl.ex.length)(d:(jU fl i).k=10):(jU fl i).args.getD 0 0<i/\(jU fl i).args[0]?=some ((jU fl i).args.getD 0 0):=by
 have c:=xJ f;have g:=h.one _ (bA c) d;obtain⟨a,b⟩:∃a,(jU fl i).args[0]?=some a:=⟨_,aH (by omega)⟩;have e:(jU fl i).args.getD 0 0=a:=by rw[aM,b];rfl
 rw[e];exact⟨h.lt i _ c a (bA b),b⟩
def OD{fl:Fl}(h:ChA fl):∀(n m i:Nat) (s:Str),i<fl.ex.length->i<n->i<m->pV fl n i s=pV fl m i s:=by
 intro n;induction n with
 |zero=>intro m i s _ c;omega
 |succ n ih=>
  intro m i s b c d;obtain⟨m,rfl⟩:∃q,m=q+1:=⟨m-1,by omega⟩;simp only[pV];by_cases a:(jU fl i).k=10
  .rw[aO a,aO a];have:=(h.arg b a).1;exact ih m _ _ (by omega) (by omega) (by omega)
  .rw[aE a,aE a]
def Hw{fl:Fl}:∀(n i:Nat) (s t:Str),(pV fl n i s).isSome=(pV fl n i t).isSome
 |0,_,_,_=>rfl
 |n+1,i,s,t=>by
  simp only[pV]
  split
  .exact Hw n _ _ _
  .split<;>rfl
def Jh{fl:Fl}(h:ChA fl):∀(n i:Nat) (s t:Str),i<fl.ex.length->i<n->pV fl n i s=some t->t.length<=s.length+(i+1)*100001
 |0,_,_,_,_,_,e=>by cases e
 |n+1,i,s,t,a,c,e=>by
  have f:=(h.few _ (bA (xJ a))).2
  simp only[pV]at e
  split at e
  .rename_i b
   have g:=(h.arg a b).1
   have:=Jh h n _ _ t (by omega) (by omega) e
   have d:((jU fl i).args.getD 0 0+1)*100001<=i*100001:=dU _ (by omega)
   simp only[aA,aB]at this
   rw[oQ]
   omega
  .split at e
   .injection e with e
    subst e
    rw[aB,oQ]
    omega
   .cases e
abbrev FlV(M:Lay):Value:=.agg [M.vE,M.vB,M.vT].toArray
abbrev aHc:TypeId:=252
def Uq{A:List (Str×Value)}{p:Str}{K:Value->Prop}(h:MapAt w m A):sF P0 (Instr.lookup aHc (.map (some m)) (str p) false) w K↔K ((mH A p).getD (i64 0)):=
 IG (kt:=9) (et:=3) (by kernel_rfl) (by kernel_rfl) (z:=i64 0) (λw=>by kernel_rfl) h
def TE{A:List (Str×Value)}{x:Str}{K:World->Prop}(h:MapAt w m A)(a:∀W,MapAt W m (Co A x v)->Chg (· =m) w W->K W):Gy P0 (Instr.mapUpdate aHc (.map (some m)) (str x) v) w K:=
 Ic (kt:=9) (et:=3) (by kernel_rfl) (by kernel_rfl) h a
section
variable [HX]
variable{w:World}{B:Nat}{M:Lay}{fl:Fl}{K:Q0}
theorem ZI(y:FO w B M fl)(o:ChA fl)(s:i<fl.ex.length)(t:∀W,Ext w W->K (.bool (xK fl i).isSome) W):aL P0 181 [FlV M,i64 (i:Nat)] w K:=by
 refine aAK ?_;unfold aGo;refine gF λb p A z c n=>?_;have a:=y.keep n λ_ _ _ _ e=>e;refine eK.go (λst W=>W=p/\∃j:Nat,st=[i64 (j:Nat)]/\j<fl.ex.length/\(pV fl (j+1) j []).isSome=(xK fl i).isSome) (λst _=>match st with|[.int _ j]=>j.toNat|_=>0) ⟨rfl,i,rfl,s,rfl⟩ ?_;rintro st g w2 ⟨rfl,j,rfl,f,d⟩;simp only[aG];obtain⟨q,uk,m,r,_⟩:=AT a f;rw[bH,bN,aN];refine ldb c (v:=M.vE) rfl ?_;refine Dl a.oE.sl a.ee.1 f m (by omega) rfl ?_;simp only[pV]at d;rw[bW,aY];refine⟨λh=>?_,λh=>?_⟩
 .rw[aO h]at d;obtain⟨a1,a2⟩:=o.arg f h;rw[bH,bN,aN];refine ldb c (v:=M.vE) rfl ?_;refine Dl a.oE.sl a.ee.1 f m (by omega) (u:=q) rfl ?_;refine mC (i:=0) (x:=i64 (((jU fl j).args.getD 0 0:Nat):Int)) r.sl (by rw[xH];omega) (by unfold ints;rw[dV,a2];rfl) ?_;refine⟨⟨trivial,_,rfl,by omega,?_⟩,by simp only[bD];exact a1⟩;rw[<-d,OD o _ j _ _ (by omega) (by omega) (by omega)];exact Hw _ _ _ _
 .rw[aE h]at d;rw[bH,bN,aN];refine ldb c (v:=M.vE) rfl ?_;refine Dl a.oE.sl a.ee.1 f m (by omega) rfl ?_;rw[bW];have:=t w2 n;rw[<-d]at this;by_cases l:(jU fl j).k=9
  .rw[bS l];rw[aO l]at this;exact this
  .rw[cX l];rw[aE l]at this;exact this
theorem aB6:∀(n i:Nat) (s t:Str) {w:World} {K:Q0} {I mf:Nat},FO w B M fl->ChA fl->i<fl.ex.length->i<n->s.length<=100000000000*(100000-i)->fl.ex.length<=100000->pV fl n i s=some t->MapAt w I []->MapAt w mf []->
  (∀W,MapAt W mf [(t,i64 1)]->Chg (One mf) w W->K (.tuple #[]) W)->aL P0 210 [FlV M,i64 (i:Nat),str s,.map (some I),.map (some mf)] w K:=by
 intro n;induction n with
 |zero=>intro i s t w K I mf _ _ _ h;omega
 |succ n ih=>
  intro i s t w K I mf Z Q A hn V D m hb hf Y;refine aAu ?_;unfold aF9;refine gF λb5 w1 ht hl q C=>?_;have p:=Z.keep C λ_ _ _ _ e=>e;obtain⟨z,uk,S,U,_⟩:=AT p A;have hp:=(Q.few _ (bA (xJ A))).2;rw[bH,bN,aN];refine ldb q (v:=M.vE) rfl ?_;refine qV p.oE.sl p.ee.1 (by omega) A ?_;have R:(M.cE.drop (i*5)).take 5=_:=S;rw[R];refine cO λT w2 X hk b r=>?_;obtain⟨q1,c1,e1,_⟩:=U.sl.shape;have h1:kJ z=true:=by rw[e1];rfl
  have h2:kJ uk=true:=by
   obtain⟨_,_,_,_,h3⟩:=AT p A;rename_i va vk y _;rw[S]at y;simp only[gC]at y;rw[y.2.2.2.1];exact fO h3.sl
  refine dH (l:=[i64 (jU fl i).k,str (jU fl i).t,z,uk,i64 (jU fl i).a]) b rfl rfl (by show(true&&(true&&(kJ z&&(kJ uk&&(true&&true)))))=true;rw[h1,h2];rfl) λj hj b F=>?_;have d:Ext w j:=C.trans (r.new F (by omega));have H:=Z.keep d λ_ _ _ _ e=>e;have G:=hb.chg d id;have E:=hf.chg d id;have u:j.heap[b5]?=some (.cells [M.vE,M.vB,M.vT].toArray 28 (0,0)):=F.at (r.at q id) (by omega);simp only[bH,bN,aN];refine ldb b (v:=i64 (jU fl i).k) rfl ?_;simp only[pV]at m;rw[bW,aY];by_cases g:(jU fl i).k=10
  .rw[aO g]at m;obtain⟨a1,a2⟩:=Q.arg A g;refine⟨λL=>by rw[g]at L;exact absurd L (by decide),λ_=>?_⟩;rw[bW,aY];refine⟨λ_=>?_,λf=>absurd g f⟩;have o:j.drew.heap[b5]?=some (.cells [M.vE,M.vB,M.vT].toArray 28 (0,0)):=u;have c:j.drew.heap[T]?=some (.cells [i64 (jU fl i).k,str (jU fl i).t,z,uk,i64 (jU fl i).a].toArray 35 (0,0)):=b;refine gL o rfl ?_;refine ldb c (v:=z) rfl ?_;have ho:=(U.sl.ext r);have N:SlAt j.drew mA z (jU fl i).args.length (ints (jU fl i).args):=by
    obtain⟨hh,hg,y,g1,_⟩:=AT H A;rw[S]at y;simp only[gC]at y;rw[y.2.2.1];exact g1.sl
   refine mC (i:=0) (x:=i64 (((jU fl i).args.getD 0 0:Nat):Int)) N (by rw[xH];omega) (by unfold ints;rw[dV,a2];rfl) ?_;refine ldb c (v:=str (jU fl i).t) rfl ?_;have O:s.length<=10000000000000000:=dN V (Nat.mul_le_mul_left _ (by omega:100000-i<=100000));rw[bY];refine⟨by simp only[aA,aD];show(_:Int)<=9223372036854775807;omega,?_⟩;rw[bY];refine⟨by simp only[aA,aD,aB];show(_:Int)<=9223372036854775807;omega,?_⟩;refine ih ((jU fl i).args.getD 0 0) (46::((jU fl i).t++s)) t (H.keep (cQ j) λ_ _ _ _ e=>e) Q (by omega) (by omega) ?_ D m (G.chg (cQ j) id) (E.chg (cQ j) id) λW J P=>?_
   .simp only[aA,aB];have hd:100000-i+1<=100000-(jU fl i).args.getD 0 0:=by omega
    have:=Nat.mul_le_mul_left 100000000000 hd;rw[Nat.mul_add]at this;omega
   .refine Y W J ?_;exact(Chg.of_ext (d.trans (cQ j))).trans P
  .rw[aE g]at m;split at m
   .rename_i L;injection m with m
    refine⟨λ_=>?_,λf=>absurd L f⟩;refine ldb b (v:=str (jU fl i).t) rfl ?_;rw[Uq G];show aS .eql (i64 0) (i64 0) _;rw[bW,aY];refine⟨λ_=>?_,λf=>absurd rfl f⟩;refine ldb b (v:=str (jU fl i).t) rfl ?_;have O:s.length<=10000000000000000:=dN V (Nat.mul_le_mul_left _ (by omega:100000-i<=100000));rw[bY];refine⟨by show(_:Int)<=9223372036854775807;omega,?_⟩;refine TE E λw4 J P=>?_;rw[m]at J;exact Y w4 J ((Chg.of_ext d).trans P)
   .cases m
theorem aCv{t:Str}(X:FO w B M fl)(P:ChA fl)(N:i<fl.ex.length)(q:fl.ex.length<=100000)(O:xK fl i=some t)(V:∀v W,SlAt W StT v 1 (strs [t])->Ext w W->K v W):aL P0 182 [FlV M,i64 (i:Nat)] w K:=by
 refine aAJ ?_;unfold aGn;refine gF λb u hb T I j=>?_;refine CG λE=>?_;generalize m:u.alloc (.map #[] 0)=w2 at*
 have h:Ext u w2:=by rw[<-m];exact Chg.alloc (Chg.refl _ _) _
 have S:w2.heap.size=u.heap.size+1:=by rw[<-m];simp
 generalize hf:u.heap.size=f at*
 refine gL (h.at I id) rfl ?_;refine CG λC=>?_;generalize y:w2.alloc (.map #[] 0)=w3 at*
 have g:Ext w2 w3:=by rw[<-y];exact Chg.alloc (Chg.refl _ _) _
 have c:=j.trans (h.trans g);have R:=j.size;refine aB6 (i+1) i [] t (X.keep c λ_ _ _ _ e=>e) P N (by omega) (by simp) q O C (E.chg g id) λs F H=>?_;have l:Ext w s:=c.then H λk Z e=>by have e:k=f:=e;omega
 have p:=Jh P (i+1) i [] t N (by omega) O;have G:t.length<=maxLen:=by
  have:(i+1)*100001<=100000*100001:=dU _ (by omega);simp only[aD]at p;unfold maxLen;omega
 obtain⟨D,Y,d,a⟩:=Fx.owns_of_map F (by intro x J;simp at J;rw[J];exact G) (by unfold maxLen;simp);refine lO (args:=#[.map (some f)]) Tryz.call212 ((callsIn_wide.1 (Tryz.maps_Keys_212 (some f) s)).mono ?_);rintro e W ⟨rfl,rfl⟩;refine⟨_,rfl,?_⟩;refine lO (args:=#[.func (.func 224) #[] #[.pointer (some ⟨s.heap.size,0,none⟩)]]) Tryz.call211 ((callsIn_wide.1 (Tryz.slices_Sorted_keys_211_212 f _ D _ s Y (by rw[a];unfold maxLen;simp) (by rw[a];simp))).mono ?_);rintro e W ⟨v,Q,rfl,z,o,L,r⟩;refine⟨_,rfl,?_⟩;have n:=Own.sl o;have U:=z.trans d;have A:Q=[t]:=List.perm_singleton.1 U;subst A;rw[List.mergeSort_singleton]at n;refine V _ _ n (l.trans (Chg.trans (Chg.alloc (Chg.refl _ _) _) (Chg.of_below r)))
end
def rsC(r:Rs)(va vd:Value):List Value:=[str r.ty,str r.n,va,i64 r.count,i64 r.each,.bool r.swap,.bool r.prev,vd,i64 r.a]
def Kp(O:Nat->Prop)(w w':World):Prop:=w.heap.size<=w'.heap.size/\∀k,O k->w'.heap[k]?=w.heap[k]?
def Kp.refl(O:Nat->Prop)(w:World):Kp O w w:=⟨aQ _,λ_ _=>rfl⟩
def Kp.trans{w1 w2:World}(h:Kp G w w1)(b:Kp G w1 w2):Kp G w w2:=⟨dN h.1 b.1,λk a=>(b.2 k a).trans (h.2 k a)⟩
def Kp.at{k:Nat}{o:Obj}(h:Kp G w W)(a:w.heap[k]?=some o)(b:G k):W.heap[k]?=some o:=by rw[h.2 k b];exact a
section
variable [HX][FK]{w0 w w1 w2 w':World}{p:Nat}{L:ML}{vS:Value}{path:Str}{s:MS}{b4:Nat}{r:Rs}{va vd:Value}{O:Nat->Prop}
structure rH(w0 w:World)(p:Nat)(L:ML)(vS:Value)(path:Str)(s:MS)(b4:Nat)(r:Rs)(va vd:Value)(O:Nat->Prop):Prop where
 mr:MR w0 w p L vS path s
 at_:rJ w0 w p L vS b4 RsT (rsC r va vd)
 oa:Own w w0.heap.size AtT 3 va r.attrs.length (lP r.attrs)
 od:Own w w0.heap.size StT 1 vd r.deps.length (strs r.deps)
 nd:(b4::ub [va,vd]).Nodup
 off:∀k∈ub [va,vd],yP w0 w p L vS k
 ox:∀k,O k->k<w.heap.size/\k∉b4::ub [va,vd]
def Vf(a:Ext w W)(c:∀k,O k->k<w.heap.size):Kp O w W:=⟨a.size,λk b=>a.heap k (c k b) id⟩
def rH.ext(h:rH w0 w p L vS path s b4 r va vd O)(a:Ext w W):rH w0 W p L vS path s b4 r va vd O:=
 ⟨h.mr.ext a,h.at_.ext a,h.oa.ext a,h.od.ext a,h.nd,λk b=>(h.off k b).up a.size,λk b=>⟨dM (h.ox k b).1 a.size,(h.ox k b).2⟩⟩
def rH.kp(h:rH w0 w p L vS path s b4 r va vd O)(a:Ext w W):Kp O w W:=Vf a λk b=>(h.ox k b).1
def rH.less(h:rH w0 w p L vS path s b4 r va vd O)(b:∀k,G k->O k):rH w0 w p L vS path s b4 r va vd G:=⟨h.mr,h.at_,h.oa,h.od,h.nd,h.off,λk a=>h.ox k (b k a)⟩
def rH.wide{z1 z2:Nat}(h:rH w0 w p L vS path s b4 r va vd O)(c:∀k∈b4::ub [va,vd],k<z1)(d:z2<=w.heap.size):rH w0 w p L vS path s b4 r va vd (λk=>O k\/(z1<=k/\k<z2)):=
 ⟨h.mr,h.at_,h.oa,h.od,h.nd,h.off,λk b=>b.elim (h.ox k) λe=>⟨by omega,λa=>by have:=c k a;omega⟩⟩
def rH.in_(h:rH w0 w p L vS path s b4 r va vd O):∀k∈b4::ub [va,vd],yP w0 w p L vS k:=λk a=>(aX.1 a).elim (λe=>e▸h.at_.off) (h.off k)
def rH.lt(h:rH w0 w p L vS path s b4 r va vd O):∀k∈b4::ub [va,vd],k<w.heap.size:=λk a=>(h.in_ k a).2.1
def yI(h:MR w0 w p L vS path s)(c:Chg S w W)(b:∀k,S k->yP w0 w p L vS k):MR w0 W p L vS path s:=
 h.keep c (λk a e=>(b k e).2.2.1 a) (λk a e=>by have:=(b k e).1;omega) λk o a e=>(b k e).2.2.2 o a
def mN{k:Nat}:k∈ub [va,vd]↔va.ownBlock=some k\/vd.ownBlock=some k:=by
 unfold ub;rw[cA];simp
def rH.st{off:Nat}{r':Rs}{KW:World->Prop}(h:rH w0 w p L vS path s b4 r va vd O)(n:kJ v=true)(d:off<9)(g:(rsC r va vd).set off v=rsC r' va vd)(l:r'.attrs=r.attrs)(i:r'.deps=r.deps)
  (m:∀W,rH w0 W p L vS path s b4 r' va vd O->Kp O w W->KW W):stW 1 (.pointer (some ⟨b4,off,none⟩)) v w KW:=by
 refine lJ h.at_.at_ n (by simp[rsC];omega) λW f j b=>?_;have c:∀k∈ub [va,vd],k≠b4:=λk a e=>(dX.1 h.nd).1 (e▸a);refine m W ⟨yI h.mr b λk e=>by have e:k=b4:=e;exact e▸h.at_.off,⟨by rw[j,aC,g],h.at_.off.up b.size⟩,?_,?_,h.nd,λk a=>(h.off k a).up b.size,λk a=>⟨by rw[f];exact(h.ox k a).1,(h.ox k a).2⟩⟩ ⟨b.size,λk a=>b.heap k (h.ox k a).1 λe=>(h.ox k a).2 (by have e:k=b4:=e;rw[e];exact bC)⟩
 .rw[l];exact eJ h.oa b λk a=>c k (mN.2 (.inl a))
 .rw[i];exact eJ h.od b λk a=>c k (mN.2 (.inr a))
def Kg{v':Value}(h:MR w0 w p L vS path s)(b:w.heap.size<=W.heap.size)(f:∀k,v'.ownBlock=some k->v.ownBlock=some k\/w.heap.size<=k)(c:∀k,v.ownBlock=some k->yP w0 w p L vS k)(d:∀k,v'.ownBlock=some k->k<W.heap.size):∀k,v'.ownBlock=some k->yP w0 W p L vS k:=λk a=>
 (f k a).elim (λe=>(c k e).up b) λe=>h.off_new e (d k a)
theorem rH.pushA{a:Atr}{t:Value}{KW:World->Prop}(h:rH w0 w p L vS path s b4 r va vd O)(K:SlAt w AtT t 1 (lP [a]))(H:r.attrs.length<=10000000000)
  (N:∀B W,rH w0 W p L vS path s b4 {r with attrs:=r.attrs++[a]} B vd O->Kp O w W->KW W):
  fV P0 (Builtin.append_ #[36,36] 36 #[va,t]) w λt15 A=>bF 2 (.pointer (some ⟨b4,0,none⟩)) λt16=>stW 1 t16 t15 A KW:=by
 refine iV Mq h.oa K rfl (λu G=>by simp only[lP,dC,uC,dL,aX,bU,fT]at G;rcases G with rfl|rfl|rfl<;>rfl) (by omega) (by omega) h.mr.base λv w1 F i z=>?_;have n:=h.nd;have f:b4∉ub [va,vd]:=(dX.1 n).1;have d:∀k,va.ownBlock=some k->yP w0 w p L vS k:=λk b=>h.off k (mN.2 (.inl b));have q:va.ownBlock≠some b4:=λe=>f (mN.2 (.inl e));have l:∀k,vd.ownBlock=some k->va.ownBlock≠some k:=λk b e=>by
  have j:=(dX.1 n).2;unfold ub at j;simp only[gT,e,b,nD,dX,aX,bU,fT]at j;exact j.1 trivial
 have M:∀k,va.ownBlock=some k->k<w.heap.size:=λk b=>(d k b).2.1;have D:=yI h.mr i d;have C:=Kg h.mr i.size z d λk b=>(lK F b).1;have m:∀k,v.ownBlock=some k->k≠b4:=λk b e=>by
  subst e;exact(z k b).elim q λe=>by have:=h.at_.lt;omega
 rw[bH,bN,aN];refine lJ (i.at h.at_.at_ q) (fO F.sl) (by simp[rsC]) λw2 I E c=>?_;have J:=i.size;refine N v w2 ⟨yI D c λk e=>by have e:k=b4:=e;exact e▸h.at_.off.up J,⟨by rw[E,aC];rfl,h.at_.off.up (by omega)⟩,?_,?_,?_,λk b=>?_,λk b=>⟨by have:=(h.ox k b).1;omega,λo=>?_⟩⟩ ⟨by omega,λk b=>?_⟩
 .show Own w2 _ _ _ v (r.attrs++[a]).length (lP (r.attrs++[a]));rw[Eg,aB];exact eJ F c λk b=>m k b
 .exact eJ (eJ h.od i λk b=>l k b) c λk b e=>f (by have e:k=b4:=e;rw[<-e];exact mN.2 (.inr b))
 .refine dX.2 ⟨λo=>?_,?_⟩
  .rcases mN.1 o with e|e
   .exact m b4 e rfl
   .exact f (mN.2 (.inr e))
  .unfold ub;simp only[gT,nD];cases P:v.ownBlock with
   |none=>cases vd.ownBlock<;>simp
   |some x=>
    cases j:vd.ownBlock with
    |none=>simp
    |some y=>
     simp only[dX,aX,bU,fT,dD,nY,fQ];rintro rfl;rcases z x P with e|e
     .exact l x j e
     .have:=(h.off x (mN.2 (.inr j))).2.1;omega
 .rcases mN.1 b with e|e
  .exact(C k e).up (by omega)
  .exact(h.off k (mN.2 (.inr e))).up (by omega)
 .have g:=h.ox k b;rcases aX.1 o with e|o
  .exact g.2 (e▸bC)
  .rcases mN.1 o with e|e
   .rcases z k e with e|e
    .exact g.2 (aF _ (mN.2 (.inl e)))
    .omega
   .exact g.2 (aF _ (mN.2 (.inr e)))
 .have g:=h.ox k b;rw[c.heap k (by omega) (λe=>g.2 (by have e:k=b4:=e;rw[e];exact bC)),i.heap k g.1 (λe=>g.2 (aF _ (mN.2 (.inl e))))]
theorem rH.pushD{a:Str}{t:Value}{KW:World->Prop}(h:rH w0 w p L vS path s b4 r va vd O)(M:SlAt w StT t 1 (strs [a]))(H:r.deps.length<=1000000000000)
  (N:∀B W,rH w0 W p L vS path s b4 {r with deps:=r.deps++[a]} va B O->Kp O w W->KW W):
  fV P0 (Builtin.append_ #[33,33] 33 #[vd,t]) w λt15 A=>bF 7 (.pointer (some ⟨b4,0,none⟩)) λt16=>stW 1 t16 t15 A KW:=by
 refine iV DY h.od M rfl (λu G=>by simp only[strs,cJ,kA,aX,bU,fT]at G;subst G;rfl) (by omega) (by omega) h.mr.base λi w1 F g z=>?_;have n:=h.nd;have d:b4∉ub [va,vd]:=(dX.1 n).1;have j:∀k,vd.ownBlock=some k->yP w0 w p L vS k:=λk b=>h.off k (mN.2 (.inr b));have q:vd.ownBlock≠some b4:=λe=>d (mN.2 (.inr e));have m:∀k,va.ownBlock=some k->vd.ownBlock≠some k:=λk b e=>by
  have v:=(dX.1 n).2;unfold ub at v;simp only[gT,e,b,nD,dX,aX,bU,fT]at v;exact v.1 trivial
 have D:=yI h.mr g j;have C:=Kg h.mr g.size z j λk b=>(lK F b).1;have l:∀k,i.ownBlock=some k->k≠b4:=λk b e=>by
  subst e;exact(z k b).elim q λe=>by have:=h.at_.lt;omega
 rw[bH,bN,aN];refine lJ (g.at h.at_.at_ q) (fO F.sl) (by simp[rsC]) λw2 J E c=>?_;have K:=g.size;refine N i w2 ⟨yI D c λk e=>by have e:k=b4:=e;exact e▸h.at_.off.up K,⟨by rw[E,aC];rfl,h.at_.off.up (by omega)⟩,?_,?_,?_,λk b=>?_,λk b=>⟨by have:=(h.ox k b).1;omega,λo=>?_⟩⟩ ⟨by omega,λk b=>?_⟩
 .exact eJ (eJ h.oa g λk b=>m k b) c λk b e=>d (by have e:k=b4:=e;rw[<-e];exact mN.2 (.inl b))
 .show Own w2 _ _ _ i (r.deps++[a]).length (strs (r.deps++[a]));rw[zA,aB];exact eJ F c λk b=>l k b
 .refine dX.2 ⟨λo=>?_,?_⟩
  .rcases mN.1 o with e|e
   .exact d (mN.2 (.inl e))
   .exact l b4 e rfl
  .unfold ub;simp only[gT,nD];cases I:va.ownBlock with
   |none=>cases i.ownBlock<;>simp
   |some x=>
    cases v:i.ownBlock with
    |none=>simp
    |some y=>
     simp only[dX,aX,bU,fT,dD,nY,fQ];rintro rfl;rcases z x v with e|e
     .exact m x I e
     .have:=(h.off x (mN.2 (.inl I))).2.1;omega
 .rcases mN.1 b with e|e
  .exact(h.off k (mN.2 (.inl e))).up (by omega)
  .exact(C k e).up (by omega)
 .have f:=h.ox k b;rcases aX.1 o with e|o
  .exact f.2 (e▸bC)
  .rcases mN.1 o with e|e
   .exact f.2 (aF _ (mN.2 (.inl e)))
   .rcases z k e with e|e
    .exact f.2 (aF _ (mN.2 (.inr e)))
    .omega
 .have f:=h.ox k b;rw[c.heap k (by omega) (λe=>f.2 (by have e:k=b4:=e;rw[e];exact bC)),g.heap k f.1 (λe=>f.2 (aF _ (mN.2 (.inr e))))]
end
def WM{f:Fl}{r:Rs}{a:Atr}{e:Ex}(h:a.n=sId):tA f r a e=.bad 110 a.a:=by unfold tA;rw[aO h]
def NI{f:Fl}{r:Rs}{a:Atr}{e:Ex}(b:¬a.n=sId)(h:a.n=Bh):tA f r a e=oneOf {r with count:=(a.e:Nat)} a:=by unfold tA;rw[aE b,aO h]
def QQ{f:Fl}{r:Rs}{a:Atr}{e:Ex}(c:¬a.n=sId)(b:¬a.n=Bh)(h:a.n=zD):tA f r a e=oneOf {r with each:=(a.e:Nat)} a:=by unfold tA;rw[aE c,aE b,aO h]
def QR{f:Fl}{r:Rs}{a:Atr}{e:Ex}(c:¬a.n=sId)(b:¬a.n=Bh)(n3:¬a.n=zD)(h:a.n=Bg):tA f r a e=(match uD f e.args r.deps with|none=>.bad 110 a.a|some ds=>if e.k=7 then .ok {r with deps:=ds}else .bad 110 a.a):=by
 unfold tA;exact(aE c).trans ((aE b).trans ((aE n3).trans (aO h)))
def QP{f:Fl}{r:Rs}{a:Atr}{e:Ex}(c:¬a.n=sId)(b:¬a.n=Bh)(n3:¬a.n=zD)(h:¬a.n=Bg):tA f r a e=oneOf {r with attrs:=r.attrs++[a]} a:=by unfold tA;rw[aE c,aE b,aE n3,aE h]
def Oc{r:Rs}{a:Atr}{e:Ex}(h:a.n=Im):tO r a e=if e.k=2\/e.k=3 then .ok {r with swap:=decide (e.k=2)}else .bad 110 a.a:=by unfold tO;rw[aO h]
def Od{r:Rs}{a:Atr}{e:Ex}(b:¬a.n=Im)(h:a.n=Lm):tO r a e=if e.k=2\/e.k=3 then .ok {r with prev:=decide (e.k=2)}else .bad 110 a.a:=by unfold tO;rw[aE b,aO h]
def UA{r:Rs}{a:Atr}{e:Ex}(c:¬a.n=Im)(b:¬a.n=Lm):tO r a e=.bad 110 a.a:=by unfold tO;rw[aE c,aE b]
section
variable [HX]
variable [FK]{w0 w w1:World}{p:Nat}{L:ML}{vS:Value}{path:Str}{s:MS}{b2 b3 b4 b7:Nat}{c3 c7:List Value}
def MR.ldF{K:Value->Prop}(h:MR w0 w p L vS path s)(a:K (FlV L.M)):ldW true 3 (.pointer (some ⟨p,1,none⟩)) w K:=by
 rw[Au];refine⟨[L.M.vE,L.M.vB,L.M.vT],?_,a⟩;simp only[bZ,bN,cS,h.pm,bT];simp[ML.cells]
def xua{M:Lay}{fl:Fl}{B:Nat}(e:i<fl.ex.length)(f:xcc M i=[i64 (jU fl i).k,str (jU fl i).t,v,g,i64 (jU fl i).a])(h:FO w B M fl):SlAt w mA v (jU fl i).args.length (ints (jU fl i).args):=by
 obtain⟨d,c,b,g1,_⟩:=AT h e;rw[f]at b;simp only[gC]at b;rw[b.2.2.1];exact g1.sl
def RsI(w0:World)(p:Nat)(L:ML)(vS:Value)(path:Str)(s:MS)(b2 b3 b4:Nat)(c3:List Value)(j:Nat)(w:World)(r:Rs):Prop:=
 ∃va vd,rH w0 w p L vS path s b4 r va vd (λk=>k=b2\/k=b3)/\w.heap[b2]?=some (.cells [pA p].toArray MpT (0,0))/\w.heap[b3]?=some (.cells c3.toArray BkT (0,0))/\r.attrs.length<=j/\r.deps.length<=j*1000000
def RsI.ext{r:Rs}(h:RsI w0 p L vS path s b2 b3 b4 c3 j w r)(a:Ext w W):RsI w0 p L vS path s b2 b3 b4 c3 j W r:=by
 obtain⟨va,vd,g1,g2,g3,g4⟩:=h;exact⟨va,vd,g1.ext a,a.at g2 id,a.at g3 id,g4⟩
theorem aCu{a:Atr}{r:Rs}{T:World}{K':Q0}(hA:ChA s.m.fl)(hj:j<=100000)(xa:s.m.fl.ex.length<=100000)(K:a.e<s.m.fl.ex.length)(hI:RsI w0 p L vS path s b2 b3 b4 c3 j T r)(hr:Ext T w1)
  (hl:∀r' W,tA s.m.fl r a (jU s.m.fl a.e)=.ok r'->RsI w0 p L vS path s b2 b3 b4 c3 (j+1) W r'->K' (.bool true) W)
  (y:∀W,tA s.m.fl r a (jU s.m.fl a.e)=.bad 110 a.a->Mf w0 W p L.M path s.m.fl->(∀k,T.heap.size<=k->k<w1.heap.size->W.heap[k]?=w1.heap[k]?)->K' (.bool false) W):
  qN P0 (.func (.func 180) #[] [pA b4,pA b2].toArray) [.agg [str a.n,i64 (a.e:Nat),i64 a.a].toArray,.agg (xcc L.M a.e).toArray] w1 K':=by
 obtain⟨va,vd,Z,F,Y,hw,X⟩:=hI;refine iM (caps:=[pA b4,pA b2]) ?_;refine aAL ?_;unfold aGp;refine gF λb6 w6 yn ye q xn=>?_;obtain⟨ua,uk,eu,hu,_⟩:=AT Z.mr.md.fo K;rw[eu];refine gF λb7 H ym yd R hq=>?_;have D:=xn.trans hq;have V:=hr.trans D;have q:=hq.at q id;have yf:=hr.size;have hs:=λ{w:World} (h:FO w w0.heap.size L.M s.m.fl)=>xua K eu h;generalize he:jU s.m.fl a.e=e at*
 have xo:e.args.length<=1000000:=by rw[<-he];exact(hA.few _ (bA (xJ K))).1
 have N:=(Z.ext V).wide (z1:=T.heap.size) (z2:=H.heap.size) Z.lt (aQ _);generalize hO:(λk=>(k=b2\/k=b3)\/(T.heap.size<=k/\k<H.heap.size))=O at N;have o2:O b2:=by rw[<-hO];exact .inl (.inl rfl)
 have o3:O b3:=by rw[<-hO];exact .inl (.inr rfl)
 have oz:∀k,T.heap.size<=k->k<H.heap.size->O k:=λk h1 h2=>by rw[<-hO];exact .inr ⟨h1,h2⟩
 have ol:∀k,(k=b2\/k=b3)->O k:=λk h=>by rw[<-hO];exact .inl h
 have F:=V.at F id;have Y:=V.at Y id;have o6:=oz b6 (by omega) (by omega);have o7:=oz b7 (by omega) (by omega);have fin:∀{W:World},Kp O H W->∀k,T.heap.size<=k->k<w1.heap.size->W.heap[k]?=w1.heap[k]?:=λhk k h1 h2=>by
  have:=D.size;rw[hk.2 k (oz k h1 (by omega)),D.heap k h2 id]
 have hg:∀{r':Rs} {l b:Value} {W:World},tA s.m.fl r a e=.ok r'->rH w0 W p L vS path s b4 r' l b O->Kp O H W->r'.attrs.length<=j+1->r'.deps.length<=(j+1)*1000000->K' (.bool true) W:=λ{r' l b W} h1 h2 h3 h4 h5=>
  hl r' W h1 ⟨l,b,h2.less ol,h3.at F o2,h3.at Y o3,h4,h5⟩
 have hm:j*1000000+1000000=(j+1)*1000000:=by rw[oQ]
 refine dE.cut (λst W=>st=[]/\∃r' l b,rH w0 W p L vS path s b4 r' l b O/\Kp O H W/\tA s.m.fl r a e=oneOf r' a/\r'.attrs.length<=j+1/\r'.deps.length<=(j+1)*1000000) ?_ ?_
 .simp only[bH,bN,aN];refine ldb q (v:=str a.n) rfl ?_;rw[fE,aY];refine⟨λe1=>?_,λn1=>?_⟩
  .have e1:a.n=sId:=e1;exact y H (WM e1) N.mr.mf (fin (Kp.refl _ _))
  have n1:¬a.n=sId:=n1;rw[fE,aY];refine⟨λe2=>?_,λn2=>?_⟩
  .have e2:a.n=Bh:=e2;refine ldb q (v:=i64 (a.e:Nat)) rfl ?_;refine N.st (off:=3) (r':={r with count:=(a.e:Nat)}) rfl (by omega) rfl rfl rfl λW ha hb=>⟨by trivial,_,va,vd,ha,hb,NI n1 e2,?_,?_⟩
   .exact Nat.le_succ_of_le hw
   .exact dN X (dU _ (qA j))
  have n2:¬a.n=Bh:=n2;rw[fE,aY];refine⟨λe3=>?_,λn3=>?_⟩
  .have e3:a.n=zD:=e3;refine ldb q (v:=i64 (a.e:Nat)) rfl ?_;refine N.st (off:=4) (r':={r with each:=(a.e:Nat)}) rfl (by omega) rfl rfl rfl λW ha hb=>⟨by trivial,_,va,vd,ha,hb,QQ n1 n2 e3,?_,?_⟩
   .exact Nat.le_succ_of_le hw
   .exact dN X (dU _ (qA j))
  have n3:¬a.n=zD:=n3;rw[fE,aY];refine⟨λe4=>?_,λn4=>?_⟩
  .have e4:a.n=Bg:=e4;have z:=QR (f:=s.m.fl) (r:=r) (e:=e) n1 n2 n3 e4;rw[z]at y;refine ldb R (v:=ua) rfl ?_;rw[gQ (hs N.mr.md.fo)];refine eK.go (λst W=>∃(i:Nat) (ds:List Str) (b:Value),st=[i64 (i:Nat)]/\i<=e.args.length/\rH w0 W p L vS path s b4 {r with deps:=ds} va b O/\Kp O H W/\uD s.m.fl (e.args.drop i) ds=uD s.m.fl e.args r.deps/\ds.length<=r.deps.length+i) (λst _=>match st with|[.int _ i]=>e.args.length-i.toNat|_=>0)
    ⟨0,r.deps,vd,rfl,cZ _,N,Kp.refl _ _,rfl,aQ _⟩ ?_
   rintro st g w8 ⟨i,ds,b,rfl,hi,c,o,d,yl⟩;simp only[aG];rw[eC,aY];refine⟨λE=>?_,λyk=>?_⟩
   .have E:i<e.args.length:=by omega
    obtain⟨x,hx⟩:∃x,e.args[i]?=some x:=⟨_,aH E⟩;have hn:x<s.m.fl.ex.length:=by
     have:=hA.lt a.e e (by rw[<-he];exact xJ K) x (bA hx);omega
    rw[eW E]at d;rw[aH E]at hx;injection hx with hx
    rw[hx]at d;simp only[uD]at d;refine mC (i:=i) (x:=i64 (x:Nat)) (hs c.mr.md.fo) (by rw[xH];omega) (by unfold ints;rw[dV,aH E,hx];rfl) ?_;refine ldb (o.at F o2) (v:=pA p) rfl ?_;simp only[dJ,bH,bN,aN];refine c.mr.ldF ?_;refine ZI c.mr.md.fo hA hn λw9 ho=>?_;rw[gK,fC];have G:=c.ext ho;have I:=o.trans (c.kp ho);refine⟨λhc=>?_,λhc=>?_⟩
    .cases C:xK s.m.fl x with
     |some t=>rw[C]at hc;cases hc
     |none=>
      rw[C]at d;exact y w9 (by rw[<-d]) G.mr.mf (fin I)
    .cases C:xK s.m.fl x with
     |none=>rw[C]at hc;cases hc
     |some t=>
      rw[C]at d;simp only at d;have A:=G.ext (cQ w9);have Q:=I.trans (G.kp (cQ w9));refine ldb A.at_.at_ (v:=b) rfl ?_;refine ldb (Q.at F o2) (v:=pA p) rfl ?_;rw[dJ,bH,bH,bN,bN,aN];refine A.mr.ldF ?_;refine aCv A.mr.md.fo hA hn xa C λv U hv P=>?_;have S:=A.ext P;have hz:=Q.trans (A.kp P);refine⟨ldb S.at_.at_ (v:=b) rfl rfl,?_⟩;have:=S.pushD (a:=t) (KW:=λU=>aS .add (i64 (i:Nat)) (.int .i64 1) λt57=>(∃(i:Nat) (ds:List Str) (b:Value),[t57]=[i64 (i:Nat)]/\i<=e.args.length/\rH w0 U p L vS path s b4 {r with deps:=ds} va b O/\Kp O H U/\uD s.m.fl (e.args.drop i) ds=uD s.m.fl e.args r.deps/\ds.length<=r.deps.length+i)/\(match([t57]:List Value)with|[.int _ i]=>e.args.length-i.toNat|_=>0)<(match([i64 (i:Nat)]:List Value)with|[.int _ i]=>e.args.length-i.toNat|_=>0)) hv (by show ds.length<=_;have:j*1000000<=100000*1000000:=dU _ hj;omega) λxk xy xc hy=>?_
      .simp only[bH,bN,aN]at this;exact this
      .rw[cP,upi (by omega)];exact⟨⟨i+1,ds++[t],xk,rfl,by omega,xc,hz.trans hy,d,by rw[aB,aA,aD];omega⟩,by simp only[bD];omega⟩
   .obtain rfl:i=e.args.length:=by omega
    rw[iH]at d;simp only[uD]at d;rw[<-d]at z y;simp only at z y;refine ldb (o.at R o7) (v:=i64 e.k) rfl ?_;rw[bW];by_cases h7:e.k=7
    .rw[aO h7]at z;rw[bS h7];exact hg z c o (by show r.attrs.length<=_;omega) (by show ds.length<=_;omega)
    .rw[aE h7]at y;rw[cX h7];exact y w8 rfl c.mr.mf (fin o)
  have n4:¬a.n=Bg:=n4;refine ldb N.at_.at_ (v:=va) rfl ?_;refine gL q rfl ?_;refine row_one (by rfl) (by rfl) (by omega) λt w8 ht hp=>?_;have c:=N.ext hp;have o:=N.kp hp;have:=c.pushA (a:=a) (KW:=λW=>([]:List Value)=[]/\∃r' l b,rH w0 W p L vS path s b4 r' l b O/\Kp O H W/\tA s.m.fl r a e=oneOf r' a/\r'.attrs.length<=j+1/\r'.deps.length<=(j+1)*1000000) ht (by omega) λl w9 G I=>⟨rfl,_,l,vd,G,o.trans I,QP n1 n2 n3 n4,by simp;omega,dN X (dU _ (qA j))⟩;simp only[bH,bN,aN]at this;exact this
 rintro st g w8 ⟨rfl,r',l,b,c,o,u,h4,h5⟩;simp only[bH,bN,aN];refine ldb c.at_.at_ (v:=i64 r'.count) rfl ?_;rw[eC];refine GdW.look (decide (r'.each<0)) (λ_ J hJ=>?_) λg2=>?_
 .refine ldb c.at_.at_ (v:=i64 r'.each) rfl ?_;rw[eC];exact hJ
 simp only[aG,jV];rw[mJ];unfold oneOf at u;by_cases B:r'.count<0\/r'.each<0
 .rw[aO B]at u;have:(decide (r'.count<0)||decide (r'.each<0))=true:=by simpa using B
  rw[this];exact hg u c o h4 h5
 .rw[aE B]at u;have:(decide (r'.count<0)||decide (r'.each<0))=false:=by simpa using B
  rw[this];exact y w8 u c.mr.mf (fin o)
def LfI(w0:World)(p:Nat)(L:ML)(vS:Value)(path:Str)(s:MS)(b2 b3 b4 b7:Nat)(c3 c7:List Value)(a:Rs)(j:Nat)(w:World)(r:Rs):Prop:=
 ∃va vd,rH w0 w p L vS path s b4 r va vd (λk=>k=b2\/k=b3\/k=b7)/\w.heap[b2]?=some (.cells [pA p].toArray MpT (0,0))/\w.heap[b3]?=some (.cells c3.toArray BkT (0,0))/\w.heap[b7]?=some (.cells c7.toArray BkT (0,0))
def LfI.ext{r b:Rs}(h:LfI w0 p L vS path s b2 b3 b4 b7 c3 c7 b j w r)(a:Ext w W):LfI w0 p L vS path s b2 b3 b4 b7 c3 c7 b j W r:=by
 obtain⟨va,vd,g1,g2,g3,g4⟩:=h;exact⟨va,vd,g1.ext a,a.at g2 id,a.at g3 id,a.at g4 id⟩
theorem aCt{a:Atr}{r V:Rs}{K':Q0}(P:a.e<s.m.fl.ex.length)(hI:LfI w0 p L vS path s b2 b3 b4 b7 c3 c7 V j w r)(D:Ext w w1)
  (B:∀r' W,tO r a (jU s.m.fl a.e)=.ok r'->LfI w0 p L vS path s b2 b3 b4 b7 c3 c7 V (j+1) W r'->K' (.bool true) W)
  (E:∀W,tO r a (jU s.m.fl a.e)=.bad 110 a.a->Mf w0 W p L.M path s.m.fl->(∀k,w.heap.size<=k->k<w1.heap.size->W.heap[k]?=w1.heap[k]?)->K' (.bool false) W):
  qN P0 (.func (.func 183) #[] [pA b4].toArray) [.agg [str a.n,i64 (a.e:Nat),i64 a.a].toArray,.agg (xcc L.M a.e).toArray] w1 K':=by
 obtain⟨va,vd,x,u,t,q⟩:=hI;refine iM (caps:=[pA b4]) ?_;refine aAI ?_;unfold aGm;refine gF λb8 w6 hj hf l N=>?_;obtain⟨ua,uk,eu,hu,_⟩:=AT x.mr.md.fo P;rw[eu];refine gF λb9 A hi hd d C=>?_;have i:=N.trans C;have o:=D.trans i;have l:=C.at l id;have hg:=D.size;generalize he:jU s.m.fl a.e=e at*
 have I:=(x.ext o).wide (z1:=w.heap.size) (z2:=A.heap.size) x.lt (aQ _);generalize G:(λk=>(k=b2\/k=b3\/k=b7)\/(w.heap.size<=k/\k<A.heap.size))=O at I;have o2:O b2:=by rw[<-G];exact .inl (.inl rfl)
 have o3:O b3:=by rw[<-G];exact .inl (.inr (.inl rfl))
 have o7:O b7:=by rw[<-G];exact .inl (.inr (.inr rfl))
 have X:∀k,w.heap.size<=k->k<A.heap.size->O k:=λk R Q=>by rw[<-G];exact .inr ⟨R,Q⟩
 have Z:∀k,(k=b2\/k=b3\/k=b7)->O k:=λk h=>by rw[<-G];exact .inl h
 have Y:=X b9 (by omega) (by omega);have u:=o.at u id;have t:=o.at t id;have q:=o.at q id;have fin:∀{W:World},Kp O A W->∀k,w.heap.size<=k->k<w1.heap.size->W.heap[k]?=w1.heap[k]?:=λhk k R Q=>by
  have:=i.size;rw[hk.2 k (X k R (by omega)),i.heap k Q id]
 refine dE.cut (λst W=>st=[]/\∃r',rH w0 W p L vS path s b4 r' va vd O/\Kp O A W/\tO r a e=if e.k=2\/e.k=3 then .ok r' else .bad 110 a.a) ?_ ?_
 .simp only[bH,bN,aN];refine ldb l (v:=str a.n) rfl ?_;rw[fE,aY];refine⟨λT=>?_,λH=>?_⟩
  .have T:a.n=Im:=T;refine ldb d (v:=i64 e.k) rfl ?_;rw[bW];refine I.st (off:=5) (r':={r with swap:=decide (e.k=2)}) rfl (by omega) rfl rfl rfl λW y z=>⟨by trivial,_,y,z,Oc T⟩
  have H:¬a.n=Im:=H;rw[fE,aY];refine⟨λS=>?_,λK=>?_⟩
  .have S:a.n=Lm:=S;refine ldb d (v:=i64 e.k) rfl ?_;rw[bW];refine I.st (off:=6) (r':={r with prev:=decide (e.k=2)}) rfl (by omega) rfl rfl rfl λW y z=>⟨by trivial,_,y,z,Od H S⟩
  have K:¬a.n=Lm:=K;exact E A (UA H K) I.mr.mf (fin (Kp.refl _ _))
 rintro st g U ⟨rfl,r',F,f,b⟩;simp only[bH,bN,aN];refine ldb (f.at d Y) (v:=i64 e.k) rfl ?_;rw[bW];refine GdW.look (decide (e.k=3)) (λ_ J hJ=>?_) λg2=>?_
 .refine ldb (f.at d Y) (v:=i64 e.k) rfl ?_;rw[bW];exact hJ
 simp only[aG,jV];rw[mJ];by_cases c:e.k=2\/e.k=3
 .rw[aO c]at b;have:(decide (e.k=2)||decide (e.k=3))=true:=by simpa using c
  rw[this];exact B r' U b ⟨va,vd,F.less Z,f.at u o2,f.at t o3,f.at q o7⟩
 .rw[aE c]at b;have:(decide (e.k=2)||decide (e.k=3))=false:=by simpa using c
  rw[this];exact E U b F.mr.mf (fin f)
end
def Gj{fl:Fl}{M:Lay}{k:Nat}{vb:Value}{B:Nat}(f:k<fl.bl.length)(i:bcc M k=[str (iY fl k).typ,v,g,vb,i64 (iY fl k).a])(h:FO w B M fl):SlAt w StT v (iY fl k).labels.length (strs (iY fl k).labels)/\SlAt w AtT g (iY fl k).attrs.length (lP (iY fl k).attrs)/\SlAt w mA vb (iY fl k).blocks.length (ints (iY fl k).blocks):=by
 obtain⟨c,e,d,b,g1,g2,g3⟩:=uZ h f;rw[i]at b;simp only[gC]at b;rw[b.2.1,b.2.2.1,b.2.2.2.1];exact⟨g1.sl,g2.sl,g3.sl⟩
def Jz:ub [.slice none 0 0,.slice none 0 0]=[]:=rfl
structure FlA(fl:Fl)(M:Lay):Prop where
 bk:∀k,k<fl.bl.length->BkA fl M k
 ch:ChA fl
 few:fl.ex.length<=100000
 fa:∀k,k<fl.bl.length->(iY fl k).attrs.length<=100000
section
variable [HX]
variable [FK]{w0 w:World}{p:Nat}{L:ML}{vS:Value}{path:Str}{s:MS}{K:Q0}
theorem NG{k:Nat}(h:MR w0 w p L vS path s)(hj:FlA s.m.fl L.M)(U:k<s.m.fl.bl.length)(hl:2<=(iY s.m.fl k).labels.length)(xx:s.m.res.length<=100000000000)
  (T:∀s' L' ys W,oN s (iY s.m.fl k)=.ok s'->L'.M=L.M->MR w0 W p L' ys path s'->K (.tuple #[]) W)(D:∀c a,oN s (iY s.m.fl k)=.bad c a->TC w0 path c a):
  aL P0 141 [pA p,.agg (bcc L.M k).toArray] w K:=by
 obtain⟨vl,va,vb,ec,h1,h2,h3⟩:=uZ h.md.fo U;obtain⟨zt,hz,xw,xv,zv,zu⟩:=hj.bk k U;have ut:=hj.fa k U;have V:=λ{w:World} (hF:FO w w0.heap.size L.M s.m.fl)=>Gj U ec hF;generalize hb:iY s.m.fl k=b at*
 rw[ec];refine aA8 ?_;unfold aGM;refine aBZ λb2 w1 ux un f xr=>?_;refine gF λb3 w2 uw um o xq=>?_;have xs:=(xr.trans xq).trans (cQ w2);have hp:=h.ext xs;have f:w2.drew.heap[b2]?=_:=xq.at f id;have o:w2.drew.heap[b3]?=some (.cells [str b.typ,vl,va,vb,i64 b.a].toArray BkT (0,0)):=o;obtain⟨x,hx⟩:∃x,b.labels[0]?=some x:=⟨_,aH (by omega)⟩;obtain⟨y,hy⟩:∃y,b.labels[1]?=some y:=⟨_,aH (by omega)⟩;have yv:b.labels.getD 0 []=x:=by rw[aM,hx];rfl
 have yu:b.labels.getD 1 []=y:=by rw[aM,hy];rfl
 have hL:=(V hp.md.fo).1;obtain⟨p0,za,hw⟩:=zR (k:=.i64) (i:=0) (u:=str x) hL (by rw[wU];omega) (by unfold strs;rw[dV,hx];rfl);obtain⟨p1,yz,hv⟩:=zR (k:=.i64) (i:=1) (u:=str y) hL (by rw[wU];omega) (by unfold strs;rw[dV,hy];rfl);simp only[bH,bN,aN];refine ldb o (v:=vl) rfl (za _ (hw _ _ (Chg.refl _ _) ?_));refine ldb o (v:=vl) rfl (yz _ (hv _ _ (Chg.refl _ _) ?_));refine ldb o (v:=i64 b.a) rfl ?_;simp only[eG,eP,dW,aA,aD,aP,aU];refine⟨by omega,by omega,by omega,by omega,by omega,?_⟩;refine cO λb4 w4 zg yt yb Z=>?_;have f:=Z.at f id;have o:=Z.at o id;refine⟨ldb o rfl rfl,hv _ _ Z rfl,ldb o rfl rfl,hw _ _ Z rfl,ldb o rfl rfl,?_⟩;have ze:=hp.ext Z;have l4:rJ w0 w4 p L vS b4 RsT _:=hp.loc yt zg yb;have zp:w2.drew.heap.size=w2.heap.size:=rfl;have zq:=xr.size;refine dH (l:=[str x,str y,.slice none 0 0,i64 (-1),i64 (-1),.bool false,.bool false,.slice none 0 0,i64 b.a]) l4.at_ rfl rfl rfl λw5 ul xz hr=>?_;have zd:=ze.one hr l4.off;have f:=hr.at f (by omega);have o:=hr.at o (by omega);have ho:oN s b=(lA s.m.fl (tA s.m.fl) [] b.attrs ⟨x,y,[],-1,-1,false,false,[],b.a⟩).bind λr=>(uU s.m.fl 0 b.blocks r).bind λr=>if s.m.res.any (λx=>decide (x.ty=r.ty)&&decide (x.n=r.n))=true then .bad 2 b.a else .ok {s with m:={s.m with res:=s.m.res++[r]}}:=by
  rw[<-yv,<-yu];rfl
 rw[ho]at T D;have zh:rH w0 w5 p L vS path s b4 ⟨x,y,[],-1,-1,false,false,[],b.a⟩ (.slice none 0 0) (.slice none 0 0) (λk=>k=b2\/k=b3):=
  ⟨zd,⟨xz,l4.off.up hr.size⟩,⟨by simp[lP],.inl ⟨rfl,rfl⟩⟩,⟨by simp[strs],.inl ⟨rfl,rfl⟩⟩,by rw[Jz];simp,by rw[Jz];simp,λk U=>⟨by omega,by rw[Jz];simp;omega⟩⟩
 refine ldb f (v:=pA p) rfl ?_;refine ldb o (v:=va) rfl ?_;refine Cm (M:=L.M) (fl:=s.m.fl) (path:=path) (Inv:=RsI w0 p L vS path s b2 b3 b4 [str b.typ,vl,va,vb,i64 b.a]) (take:=tA s.m.fl) (l:=b.attrs) (s:=⟨x,y,[],-1,-1,false,false,[],b.a⟩)
  (λ_ w r ⟨_,_,g,_⟩=>g.mr.mf) (λ_ w W r hI hx=>hI.ext hx) (λw hF=>(V hF).2.1) xv hz
  (λj a ha r wz w1 K' hI hx Y xe _=>aCu hj.ch (by have:=(bJ.1 ha).1;omega) hj.few (hz a (bA ha)) hI hx Y xe)
  ⟨_,_,zh,f,o,by simp,by simp⟩ ?_ (λc a hR=>D c a (by rw[hR];rfl))
 intro r1 w6 yy ⟨yq,yn,yc,f,o,_,_⟩;rw[yy]at T D;simp only[RC.bind]at T D;refine ldb o (v:=vb) rfl ?_;rw[gQ (V yc.mr.md.fo).2.2];generalize hQ:uU s.m.fl 0 b.blocks r1=Q at*
 refine eK.go (λst W=>∃(i:Nat) (r:Rs) (yr yo:Value),st=[i64 (i:Nat)]/\i<=b.blocks.length/\rH w0 W p L vS path s b4 r yr yo (λk=>k=b2\/k=b3)/\W.heap[b2]?=some (.cells [pA p].toArray MpT (0,0))/\W.heap[b3]?=some (.cells [str b.typ,vl,va,vb,i64 b.a].toArray BkT (0,0))/\uU s.m.fl i (b.blocks.drop i) r=Q)
  (λst _=>match st with|[.int _ i]=>b.blocks.length-i.toNat|_=>0) ⟨0,r1,yq,yn,rfl,cZ _,yc,f,o,hQ⟩ ?_
 rintro st g w8 ⟨i,r,S,R,rfl,hi,G,f,o,N⟩;simp only[aG];rw[eC,aY];refine⟨λhg=>?_,λus=>?_⟩
 .have hg:i<b.blocks.length:=by omega
  obtain⟨k2,X⟩:∃z,b.blocks[i]?=some z:=⟨_,aH hg⟩;have O:=xw k2 (bA X);obtain⟨ql,qa,qb,eq,q1,q2,q3⟩:=uZ G.mr.md.fo O;obtain⟨zx,xc,yi,yh,yg,zy⟩:=hj.bk k2 O;have grow:=λ{w:World} (hF:FO w w0.heap.size L.M s.m.fl)=>Gj O eq hF;rw[eW hg]at N;rw[aH hg]at X;injection X with X
  rw[X]at N;simp only[uU]at N;generalize yw:iY s.m.fl k2=xb at*
  refine mC (i:=i) (x:=i64 (k2:Nat)) (V G.mr.md.fo).2.2 (by rw[xH];omega) (by unfold ints;rw[dV,aH hg,X];rfl) ?_;refine ldb f (v:=pA p) rfl ?_;simp only[dJ,bH,bN,aN];refine G.mr.ld rfl ?_;refine qV G.mr.md.fo.oB.sl G.mr.md.fo.bb.1 (by omega) O ?_;have zl:(L.M.cB.drop (k2*5)).take 5=_:=eq;rw[zl];refine cO λb7 w9 uv uk C H=>?_;have hf:([str xb.typ,ql,qa,qb,i64 xb.a]:List Value).all kJ=true:=by
   show(true&&(kJ ql&&(kJ qa&&(kJ qb&&(true&&true)))))=true;rw[fO q1.sl,fO q2.sl,fO q3.sl];rfl
  refine dH (l:=[str xb.typ,ql,qa,qb,i64 xb.a]) C rfl rfl hf λxd xp C xy=>?_;have E:Ext w8 xd:=H.new xy (by omega);have A:=G.ext E;have f:=E.at f id;have o:=E.at o id;refine dE.cut (λst W=>st=[]/\W=xd/\¬(0<i/\xb.typ=Fb)) ?_ ?_
  .rw[gG];refine GdW.look (decide (xb.typ=Fb)) (λ_ J hJ=>?_) λg2=>?_
   .refine ldb C (v:=str xb.typ) rfl ?_;rw[fE];exact hJ
   simp only[aG,gX];rw[gM,fC];refine⟨λI=>?_,λI=>⟨by trivial,by trivial,λh=>?_⟩⟩
   .have I:0<i/\xb.typ=Fb:=by
     simp only[bV,fK]at I;exact⟨by omega,I.2⟩
    rw[aO I]at N;refine ldb f (v:=pA p) rfl ?_;refine ldb C (v:=i64 xb.a) rfl ?_;exact oZ A.mr.mf (D 2 xb.a (by rw[<-N]))
   .have:(decide ((0:Int)<(i:Int))&&decide (xb.typ=Fb))=true:=by
     simp only[bV,fK];exact⟨by omega,h.2⟩
    rw[this]at I;cases I
  rintro st g3 xn ⟨rfl,rfl,zc⟩;rw[aE zc]at N;refine dE.cut (λst W=>st=[]/\W=xn/\¬(xb.typ≠Fb\/xb.labels≠[])) ?_ ?_
  .refine ldb C (v:=str xb.typ) rfl ?_;rw[iB];have xu:=gQ (grow A.mr.md.fo).1;refine GdW.look (decide (xb.labels≠[])) (λ_ J hJ=>?_) λg2=>?_
   .refine ldb C (v:=ql) rfl ?_;rw[xu,gG];have e:decide ((0:Int)<(xb.labels.length:Int))=decide (xb.labels≠[]):=decide_eq_decide.2 ⟨λh e=>by rw[e]at h;simp at h,λh=>by have:=iO.2 h;omega⟩;rw[e];exact hJ
   simp only[aG,jV];rw[mJ,fC];refine⟨λI=>?_,λI=>⟨by trivial,by trivial,λh=>?_⟩⟩
   .have I:xb.typ≠Fb\/xb.labels≠[]:=by
     simp only[gH,fK]at I;exact I
    rw[aO I]at N;refine ldb f (v:=pA p) rfl ?_;refine ldb C (v:=i64 xb.a) rfl ?_;exact oZ A.mr.mf (D 110 xb.a (by rw[<-N]))
   .have:(decide (xb.typ≠[108,105,102,101,99,121,99,108,101])||decide (xb.labels≠[]))=true:=by
     simp only[gH,fK];exact h
    rw[this]at I;cases I
  rintro st g4 xm ⟨rfl,rfl,zb⟩;rw[aE zb]at N;refine ldb f (v:=pA p) rfl ?_;refine ldb C (v:=qa) rfl ?_;have ye:rH w0 xm p L vS path s b4 r S R (λk=>k=b2\/k=b3\/k=b7):=
   ⟨A.mr,A.at_,A.oa,A.od,A.nd,A.off,λk U=>by
    rcases U with U|U|U
    .exact A.ox k (.inl U)
    .exact A.ox k (.inr U)
    .subst U;exact⟨pC C,λhm=>by have:=G.lt k hm;omega⟩⟩
  refine Cm (M:=L.M) (fl:=s.m.fl) (path:=path) (Inv:=LfI w0 p L vS path s b2 b3 b4 b7 [str b.typ,vl,va,vb,i64 b.a] [str xb.typ,ql,qa,qb,i64 xb.a] r) (take:=tO) (l:=xb.attrs) (s:=r)
   (λ_ w r ⟨_,_,g,_⟩=>g.mr.mf) (λ_ w W r hI hx=>hI.ext hx) (λw hF=>(grow hF).2.1) yh xc
   (λj a ha r wz w1 K' hI hx Y xe _=>aCt (xc a (bA ha)) hI hx Y xe)
   ⟨_,_,ye,f,o,C⟩ ?_ (λc a hR=>D c a (by rw[<-N,hR];rfl))
  intro r3 xl yx ⟨yp,ym,hh,f,o,C⟩;rw[yx]at N;simp only[RC.bind]at N;refine ldb f (v:=pA p) rfl ?_;refine gL C rfl ?_;have zf:BkR xl w0.heap.size xb [str xb.typ,ql,qa,qb,i64 xb.a]:=by
   have:=uZ hh.mr.md.fo O;rw[eq,yw]at this;exact this
  refine HE hh.mr.mf zf yi yg (λue hB hd=>?_) λc a hB=>D c a (by rw[<-N,hB]);rw[hB]at N;simp only at N;rw[cP,upi (by omega)];exact⟨⟨i+1,r3,yp,ym,rfl,by omega,(hh.ext hd).less (λk U=>U.elim .inl λe=>.inr (.inl e)),hd.at f id,hd.at o id,N⟩,by simp only[bD];omega⟩
 .obtain rfl:i=b.blocks.length:=by omega
  rw[iH]at N;simp only[uU]at N;rw[<-N]at T D;simp only at T D;refine dE.cut (λst W=>st=[]/\Ext w8 W/\s.m.res.any (λx=>decide (x.ty=r.ty)&&decide (x.n=r.n))=false) ?_ ?_
  .refine ldb f (v:=pA p) rfl ?_;simp only[dJ,bH,bN,aN];refine G.mr.ld rfl ?_;refine MB (l:=s.m.res) (B:=w0.heap.size) (cs:=L.cR) (q:=λx=>decide (x.ty=r.ty)&&decide (x.n=r.n)) G.mr.md.oR.sl G.mr.md.rr (by omega) (λx hx c I {w9 K9} H zj=>iM (caps:=[pA b4]) ?_) λw9 H=>?_
   .obtain⟨ya,yd,rfl,_,_⟩:=I;refine aAG ?_;unfold aGk;refine gF λb9 xd uu xp xa E=>?_;have l4:=E.at (H.at G.at_.at_ id) id;simp only[bH,bN,aN];refine ldb xa (v:=str x.ty) rfl ?_;refine ldb l4 (v:=str r.ty) rfl ?_;rw[fE];refine GdW.look (decide (x.n=r.n)) (λ_ J hJ=>?_) λg2=>?_
    .refine ldb xa (v:=str x.n) rfl ?_;refine ldb l4 (v:=str r.n) rfl ?_;rw[fE];exact hJ
    simp only[aG,gX];rw[gM];exact zj _ E
   .rw[fC];refine⟨λP=>?_,λP=>⟨by trivial,H,P⟩⟩;refine ldb (H.at f id) (v:=pA p) rfl ?_;refine ldb (H.at o id) (v:=i64 b.a) rfl ?_;exact oZ (G.mr.mf.ext H) (D 2 b.a (by rw[aO P]))
  rintro st g3 w9 ⟨rfl,H,P⟩;rw[aE (by rw[P];decide)]at T;have E:=H.trans (cQ w9);have A:=G.ext E;have f:=E.at f id;refine ldb f (v:=pA p) rfl ?_;refine ldb f (v:=pA p) rfl ?_;simp only[dJ,bH,bN,aN];refine A.mr.ld rfl ?_;refine gL A.at_.at_ rfl ?_;refine row_one (by rfl) (by rfl) (by omega) λt xn ht hs=>?_;have F:=A.ext hs;have f:=hs.at f id;refine⟨F.mr.ld rfl rfl,ldb f rfl rfl,ldb f rfl rfl,?_⟩;have hf:∀u∈rsC r S R,kJ u=true:=λu hu=>by
   simp only[rsC,aX,bU,fT]at hu;rcases hu with rfl|rfl|rfl|rfl|rfl|rfl|rfl|rfl|rfl<;>first|rfl|exact fO F.oa.sl|exact fO F.od.sl
  refine F.mr.app_R (x:=r) ht rfl hf xx λv' xm hO I hn=>?_;have xf:=I.at f (λe=>by
   have e:L.vR.ownBlock=some b2:=e;have h0:=hp.in_ b2 (by rw[kR];exact aF _ (eZ (v:=L.vR) (by simp[ML.vals]) e));have h1:=h.in_ b2 (by rw[kR];exact aF _ (eZ (v:=L.vR) (by simp[ML.vals]) e));omega)
  refine⟨ldb xf rfl rfl,?_⟩;have yj:ub (rsC r S R)=ub [S,R]:=by
   unfold rsC ub;simp only[gT,nD];rfl
  refine F.mr.st_R (x:=r) (d:=rsC r S R) hO I hn ⟨S,R,rfl,F.oa,F.od⟩ rfl (by rw[yj];exact(dX.1 F.nd).2) (by rw[yj];exact F.off) λxl xt _ _=>?_;exact T _ {L with vR:=v',cR:=L.cR++rsC r S R} vS _ rfl rfl xt
end
def SK{A B:List Value}{v':Value}(b:(p::ub (A++v::B)).Nodup)(d:∀k,v'.ownBlock=some k->v.ownBlock=some k\/k∉p::ub (A++v::B)):(p::ub (A++v'::B)).Nodup:=by
 have e:∀u:Value,ub (A++u::B)=ub A++(u.ownBlock.toList++ub B):=λu=>by
  rw[qE];congr 1;unfold ub;rw[gT];cases u.ownBlock<;>rfl
 rw[e]at b d⊢;cases f:v'.ownBlock with
 |none=>
  refine b.sublist ?_;simp only[Option.toList_none,dS];exact(AI (yW _ _) _).cons_cons _
 |some k=>
  rcases d k f with h|h
  .rw[h]at b;exact b
  .have c:(p::(ub A++ub B)).Nodup:=b.sublist ((AI (yW _ _) _).cons_cons _);have:(p::(ub A++([k]++ub B))).Perm (k::p::(ub A++ub B)):=by
    refine(List.Perm.cons p ?_).trans (List.Perm.swap _ _ _);exact pI
   refine(this.nodup_iff).2 (dX.2 ⟨λa=>h ?_,c⟩);rcases aX.1 a with e|a
   .rw[e];exact bC
   .refine aF _ ?_;rcases bM.1 a with a|a
    .exact cH _ a
    .exact bR _ (bR _ a)
theorem MR.put_CS[FK]{w0 w2:World}{L:ML}{path:Str}{s:MS}{i c:Value}{x:Cl}(h:MR w0 w p L g path s)(G:Own w2 w0.heap.size ClT 4 i (s.m.calls.length+1) (L.cC++d))(O:Own w2 w0.heap.size StT 1 c (s.src.length+1) (strs s.src++strs [y]))
  (A:Chg (λk=>L.vC.ownBlock=some k\/g.ownBlock=some k\/k=p) w w2)(D:∀k,i.ownBlock=some k->L.vC.ownBlock=some k\/w.heap.size<=k)(C:∀k,c.ownBlock=some k->g.ownBlock=some k\/w.heap.size<=k)(P:∀k,i.ownBlock=some k->c.ownBlock≠some k)
  (X:ClR w w0.heap.size x d)(Z:d.length=4)(hd:(ub d).Nodup)(I:∀k∈ub d,yP w0 w p L g k)(Y:w2.heap[p]?=some (.cells (({L with vC:=i,cC:=L.cC++d}:ML).cells s.m.dir++[str path,c]).toArray MoT (0,0))):
  MR w0 w2 p {L with vC:=i,cC:=L.cC++d} c path ⟨{s.m with calls:=s.m.calls++[x]},s.src++[y]⟩:=by
 have B:=h.nd;have j:=h.in_;rw[kR]at B j;have W:=A.size;have eA:[g]++L.vals=([g]++(([L.M.vE,L.M.vB,L.M.vT]++(L.M.cE++L.M.cB))++[L.vV,L.vL,L.vO,L.vR]))++L.vC::(L.cR++L.cC):=by simp[ML.vals]
 have t:(p::ub ([]++g::L.vals)).Nodup:=B;have u:=B;rw[eA]at u;have E:=uT u;have r:=uT t;have oth:∀v∈([L.M.vE,L.M.vB,L.M.vT]++(L.M.cE++L.M.cB))++([L.vV,L.vL,L.vO,L.vR]++(L.cR++L.cC)),∀k,v.ownBlock=some k->¬(L.vC.ownBlock=some k\/g.ownBlock=some k\/k=p):=λv a k b e=>by
  have l:v∈([g]++(([L.M.vE,L.M.vB,L.M.vT]++(L.M.cE++L.M.cB))++[L.vV,L.vL,L.vO,L.vR]))++(L.cR++L.cC):=by
   simp only[bM,aX,bU,fT]at a⊢
   grind
  have S:v∈([]:List Value)++L.vals:=by
   simp only[ML.vals,bM,aX,bU,fT,false_or]at a⊢
   grind
  rcases e with e|e|e
  .exact E v l k b (.inl e)
  .exact r v S k b (.inl e)
  .exact r v S k b (.inr e)
 have own:∀{v:Value} {e:TypeId} {n m:Nat} {xs:List Value},Own w w0.heap.size e m v n xs->v∈([L.M.vE,L.M.vB,L.M.vT]++(L.M.cE++L.M.cB))++([L.vV,L.vL,L.vO,L.vR]++(L.cR++L.cC))->Own w2 w0.heap.size e m v n xs:=λh a=>eJ h A (oth _ a);have N:=X.at_ A λk b e=>by
  have l:=(I k b).2.2.1;rw[kR]at l;rcases e with e|e|e
  .exact l (aF _ (eZ (v:=L.vC) (by simp[ML.vals]) e))
  .exact l (aF _ (eZ (v:=g) (by simp) e))
  .exact l (by rw[e];exact bC)
 have R:lV (ClR w2 w0.heap.size) 4 s.m.calls L.cC:=h.md.cc.imp λy e Q K=>K.at_ A λk b=>by
  obtain⟨v,a,b⟩:=cA.1 b;exact oth v (by simp[Q v a]) k b
 refine⟨h.ch.then A λk b e=>?_,Y,⟨h.md.fo.keep A λk _ _ b=>?_,own h.md.oV (by simp),own h.md.oL (by simp),own h.md.oO (by simp),own h.md.oR (by simp),by rw[aB];exact G,h.md.rr.imp λy e Q K=>K.at_ A λk b=>?_,R.snoc N Z,λk b=>?_⟩,by rw[zA,aB];exact O,?_,h.lp,?_⟩
 .rcases e with e|e|e
  .have:=(j k (aF _ (eZ (v:=L.vC) (by simp[ML.vals]) e))).2;omega
  .have:=(j k (aF _ (eZ (v:=g) (by simp) e))).2;omega
  .have:=h.lp;omega
 .obtain⟨v,a,b⟩:=cA.1 b;exact oth v (cH _ a) k b
 .obtain⟨v,a,b⟩:=cA.1 b;exact oth v (by simp[Q v a]) k b
 .obtain⟨v,a,f⟩:=cA.1 b;have a:v=i\/v∈[g]++L.vals\/v∈d:=by
   simp only[ML.vals,bM,aX,bU,fT]at a⊢
   grind
  rcases a with rfl|a|a
  .exact lK G f
  .have:=j k (aF _ (eZ a f));omega
  .have H:=I k (eZ a f);exact⟨dM H.2.1 W,H.1⟩
 .have U:(p::ub ([]++c::L.vals)).Nodup:=CX (z:=w.heap.size) t C λk b=>(j k b).1;have e1:[]++c::L.vals=([c]++(([L.M.vE,L.M.vB,L.M.vT]++(L.M.cE++L.M.cB))++[L.vV,L.vL,L.vO,L.vR]))++L.vC::(L.cR++L.cC):=by simp[ML.vals]
  have J:∀k∈p::ub ([]++c::L.vals),k∈p::ub ([g]++L.vals)\/c.ownBlock=some k:=λk b=>by
   rcases aX.1 b with e|b
   .exact .inl (by rw[e];exact bC)
   .obtain⟨v,a,f⟩:=cA.1 b;rcases aX.1 a with rfl|a
    .exact .inr f
    .exact .inl (aF _ (eZ (bR _ a) f))
  have F:∀k∈p::ub ([]++c::L.vals),i.ownBlock=some k->w.heap.size<=k->False:=λk b a hw=>by
   rcases J k b with e|e
   .have:=(j k e).1;omega
   .exact P k a e
  rw[e1]at U F;have T:=SK (v':=i) U λk b=>(D k b).imp id λe q=>F k q b e;rw[kR];have V:([c]++(([L.M.vE,L.M.vB,L.M.vT]++(L.M.cE++L.M.cB))++[L.vV,L.vL,L.vO,L.vR]))++i::(L.cR++L.cC)=(([c]++(([L.M.vE,L.M.vB,L.M.vT]++(L.M.cE++L.M.cB))++[L.vV,L.vL,L.vO,L.vR]))++i::(L.cR++L.cC))++[]:=by simp
  have e3:[c]++({L with vC:=i,cC:=L.cC++d}:ML).vals=(([c]++(([L.M.vE,L.M.vB,L.M.vT]++(L.M.cE++L.M.cB))++[L.vV,L.vL,L.vO,L.vR]))++i::(L.cR++L.cC))++(d++[]):=by simp[ML.vals]
  rw[V]at T;rw[e3];refine SL T hd λk b q=>?_;have H:=I k b;have l:=H.2.2.1;rw[kR]at l;rw[<-V]at q;rcases aX.1 q with rfl|q
  .exact l bC
  .obtain⟨v,a,f⟩:=cA.1 q;have a:v=i\/v=c\/v∈[g]++L.vals:=by
    simp only[ML.vals,bM,aX,bU,fT]at a⊢
    grind
   have S:=H.2.1;rcases a with rfl|rfl|a
   .rcases D k f with e|e
    .exact l (aF _ (eZ (v:=L.vC) (by simp[ML.vals]) e))
    .omega
   .rcases C k f with e|e
    .exact l (aF _ (eZ (v:=g) (by simp) e))
    .omega
   .exact l (aF _ (eZ a f))
 .intro k o b;obtain⟨g1,g2⟩:=h.fk k o b;have g3:=pC g1;rw[kR]at g2;refine⟨A.at g1 λe=>?_,λq=>?_⟩
  .rcases e with e|e|e
   .exact g2 (aF _ (eZ (v:=L.vC) (by simp[ML.vals]) e))
   .exact g2 (aF _ (eZ (v:=g) (by simp) e))
   .exact g2 (by rw[e];exact bC)
  .rw[kR]at q;rcases aX.1 q with e|q
   .exact g2 (by rw[e];exact bC)
   obtain⟨v,a,f⟩:=cA.1 q;have a:v=i\/v=c\/v∈[g]++L.vals\/v∈d:=by
    simp only[ML.vals,bM,aX,bU,fT]at a⊢
    grind
   rcases a with rfl|rfl|a|a
   .rcases D k f with e|e
    .exact g2 (aF _ (eZ (v:=L.vC) (by simp[ML.vals]) e))
    .omega
   .rcases C k f with e|e
    .exact g2 (aF _ (eZ (v:=g) (by simp) e))
    .omega
   .exact g2 (aF _ (eZ a f))
   .exact(I k (eZ a f)).2.2.2 o b
section
variable [HX]
variable [FK]{w0 w w1 w':World}{p:Nat}{L:ML}{vS:Value}{path:Str}{s:MS}{b3 b4 b5:Nat}{n:Str}{ca:Int}{x:List Atr×Str}{va:Value}{O:Nat->Prop}
structure sK(w0 w:World)(p:Nat)(L:ML)(vS:Value)(path:Str)(s:MS)(b4 b5:Nat)(n:Str)(ca:Int)(x:List Atr×Str)(va:Value)(O:Nat->Prop):Prop where
 mr:MR w0 w p L vS path s
 at_:rJ w0 w p L vS b4 ClT [str n,i64 0,va,i64 ca]
 as_:rJ w0 w p L vS b5 StT [str x.2]
 oa:Own w w0.heap.size AtT 3 va x.1.length (lP x.1)
 nv:∀k,va.ownBlock=some k->yP w0 w p L vS k/\k≠b4/\k≠b5
 ne:b4≠b5
 ox:∀k,O k->k<w.heap.size/\k≠b4/\k≠b5/\va.ownBlock≠some k
def sK.ext(h:sK w0 w p L vS path s b4 b5 n ca x va O)(a:Ext w W):sK w0 W p L vS path s b4 b5 n ca x va O:=
 ⟨h.mr.ext a,h.at_.ext a,h.as_.ext a,h.oa.ext a,λk b=>⟨(h.nv k b).1.up a.size,(h.nv k b).2⟩,h.ne,λk b=>⟨dM (h.ox k b).1 a.size,(h.ox k b).2⟩⟩
def sK.kp(h:sK w0 w p L vS path s b4 b5 n ca x va O)(a:Ext w W):Kp O w W:=Vf a λk b=>(h.ox k b).1
def sK.less(h:sK w0 w p L vS path s b4 b5 n ca x va O)(b:∀k,G k->O k):sK w0 w p L vS path s b4 b5 n ca x va G:=⟨h.mr,h.at_,h.as_,h.oa,h.nv,h.ne,λk a=>h.ox k (b k a)⟩
def sK.wide{z1 z2:Nat}(h:sK w0 w p L vS path s b4 b5 n ca x va O)(f:b4<z1)(d:b5<z1)(a:∀k,va.ownBlock=some k->k<z1)(g:z2<=w.heap.size):sK w0 w p L vS path s b4 b5 n ca x va (λk=>O k\/(z1<=k/\k<z2)):=
 ⟨h.mr,h.at_,h.as_,h.oa,h.nv,h.ne,λk c=>c.elim (h.ox k) λe=>⟨by omega,by omega,by omega,λb=>by have:=a k b;omega⟩⟩
theorem sK.push{a:Atr}{t:Value}{KW:World->Prop}(h:sK w0 w p L vS path s b4 b5 n ca x va O)(C:SlAt w AtT t 1 (lP [a]))(A:x.1.length<=10000000000)
  (D:∀j W,sK w0 W p L vS path s b4 b5 n ca (x.1++[a],x.2) j O->Kp O w W->KW W):
  fV P0 (Builtin.append_ #[36,36] 36 #[va,t]) w λt15 i=>bF 2 (.pointer (some ⟨b4,0,none⟩)) λt16=>stW 1 t16 t15 i KW:=by
 refine iV Mq h.oa C rfl (λu z=>by simp only[lP,dC,uC,dL,aX,bU,fT]at z;rcases z with rfl|rfl|rfl<;>rfl) (by omega) (by omega) h.mr.base λl w1 v g o=>?_;have y:=g.size;have F:va.ownBlock≠some b4:=λe=>(h.nv b4 e).2.1 rfl;have E:va.ownBlock≠some b5:=λe=>(h.nv b5 e).2.2 rfl;have q:=yI h.mr g λk b=>(h.nv k b).1;have m:=Kg h.mr y o (λk b=>(h.nv k b).1) λk b=>(lK v b).1;have f:∀k,l.ownBlock=some k->k≠b4/\k≠b5:=λk b=>by
  have l4:=h.at_.lt;have l5:=h.as_.lt;rcases o k b with e|e
  .exact(h.nv k e).2
  .exact⟨by omega,by omega⟩
 rw[bH,bN,aN];refine lJ (g.at h.at_.at_ F) (fO v.sl) (by simp) λw2 B r c=>?_;refine D l w2 ⟨yI q c λk e=>by have e:k=b4:=e;exact e▸h.at_.off.up y,⟨by rw[r];simp,h.at_.off.up (by omega)⟩,⟨c.at (g.at h.as_.at_ E) (λe=>h.ne (by have e:b5=b4:=e;exact e.symm)),h.as_.off.up (by omega)⟩,?_,λk b=>⟨(m k b).up (by omega),f k b⟩,h.ne,λk b=>?_⟩ ⟨by omega,λk b=>?_⟩
 .show Own w2 _ _ _ l (x.1++[a]).length (lP (x.1++[a]));rw[Eg,aB];exact eJ v c λk b=>(f k b).1
 .have d:=h.ox k b;refine⟨by omega,d.2.1,d.2.2.1,λe=>?_⟩;rcases o k e with e|e
  .exact d.2.2.2 e
  .omega
 .have d:=h.ox k b;rw[c.heap k (by omega) d.2.1,g.heap k d.1 d.2.2.2]
def sK.src{KW:World->Prop}(h:sK w0 w p L vS path s b4 b5 n ca x va O)(f:∀W,sK w0 W p L vS path s b4 b5 n ca (x.1,y) va O->Kp O w W->KW W):stW 1 (.pointer (some ⟨b5,0,none⟩)) (str y) w KW:=by
 refine lJ h.as_.at_ rfl (by simp) λw2 c d a=>?_;refine f w2 ⟨yI h.mr a λk e=>by have e:k=b5:=e;exact e▸h.as_.off,⟨a.at h.at_.at_ h.ne,h.at_.off.up a.size⟩,⟨by rw[d];simp,h.as_.off.up a.size⟩,eJ h.oa a λk b=>(h.nv k b).2.2,λk b=>⟨(h.nv k b).1.up a.size,(h.nv k b).2⟩,h.ne,λk b=>⟨by rw[c];exact(h.ox k b).1,(h.ox k b).2⟩⟩ ⟨a.size,λk b=>a.heap k (h.ox k b).1 (h.ox k b).2.2.1⟩
def ClI(w0:World)(p:Nat)(L:ML)(vS:Value)(path:Str)(s:MS)(b3 b4 b5:Nat)(c3:List Value)(n:Str)(ca:Int)(j:Nat)(w:World)(x:List Atr×Str):Prop:=
 ∃va,sK w0 w p L vS path s b4 b5 n ca x va (λk=>k=b3)/\w.heap[b3]?=some (.cells c3.toArray BkT (0,0))/\x.1.length<=j
def ClI.ext(h:ClI w0 p L vS path s b3 b4 b5 cs n ca j w x)(a:Ext w W):ClI w0 p L vS path s b3 b4 b5 cs n ca j W x:=by
 obtain⟨va,g1,g2,g3⟩:=h;exact⟨va,g1.ext a,a.at g2 id,g3⟩
def OE{x:List Atr×Str}{a:Atr}{e:Ex}(h:¬a.n=Dj):vZ x a e=.ok (x.1++[a],x.2):=by unfold vZ;rw[aE h]
def RX{x:List Atr×Str}{a:Atr}{e:Ex}(h:a.n=Dj):vZ x a e=if e.k=5/\nR e.t=true then .ok (x.1,e.t)else .bad 110 a.a:=by unfold vZ;rw[aO h]
theorem ZL{a:Atr}{K':Q0}(hj:j<=1000000)(hA:ChA s.m.fl)(B:a.e<s.m.fl.ex.length)(hI:ClI w0 p L vS path s b3 b4 b5 cs n ca j w x)(A:Ext w w1)
  (q:∀U W,vZ x a (jU s.m.fl a.e)=.ok U->ClI w0 p L vS path s b3 b4 b5 cs n ca (j+1) W U->K' (.bool true) W)
  (P:∀W,vZ x a (jU s.m.fl a.e)=.bad 110 a.a->Mf w0 W p L.M path s.m.fl->(∀k,w.heap.size<=k->k<w1.heap.size->W.heap[k]?=w1.heap[k]?)->K' (.bool false) W):
  qN P0 (.func (.func 186) #[] [pA b4,pA b5].toArray) [.agg [str a.n,i64 (a.e:Nat),i64 a.a].toArray,.agg (xcc L.M a.e).toArray] w1 K':=by
 obtain⟨va,g,l,hg⟩:=hI;refine iM (caps:=[pA b4,pA b5]) ?_;refine aAF ?_;unfold aGj;refine gF λb6 w6 hl hc c N=>?_;obtain⟨ua,uk,eu,hu,_⟩:=AT g.mr.md.fo B;rw[eu];refine gF λb7 F hi hb f z=>?_;have d:=N.trans z;have u:=A.trans d;have c:=z.at c id;have hd:=A.size;have hh:=(hA.few _ (bA (xJ B))).2;generalize he:jU s.m.fl a.e=e at*
 have C:=(g.ext u).wide (z1:=w.heap.size) (z2:=F.heap.size) g.at_.lt g.as_.lt (λk R=>(g.nv k R).1.2.1) (aQ _);generalize T:(λk=>(k=b3)\/(w.heap.size<=k/\k<F.heap.size))=O at C;have Y:O b3:=by rw[<-T];exact .inl rfl
 have K:∀k,w.heap.size<=k->k<F.heap.size->O k:=λk E D=>by rw[<-T];exact .inr ⟨E,D⟩
 have V:∀k,(k=b3)->O k:=λk h=>by rw[<-T];exact .inl h
 have o6:=K b6 (by omega) (by omega);have X:=K b7 (by omega) (by omega);have l:=u.at l id;have fin:∀{W:World},Kp O F W->∀k,w.heap.size<=k->k<w1.heap.size->W.heap[k]?=w1.heap[k]?:=λR k E D=>by
  have:=d.size;rw[R.2 k (K k E (by omega)),d.heap k D id]
 simp only[bH,bN,aN];refine ldb c (v:=str a.n) rfl ?_;rw[iB,aY];refine⟨λr=>?_,λr=>?_⟩
 .have r:¬a.n=Dj:=r;refine ldb C.at_.at_ (v:=va) rfl ?_;refine gL c rfl ?_;refine row_one (by rfl) (by rfl) (by omega) λt H ht y=>?_;have o:=C.ext y;have:=o.push (a:=a) (KW:=λw5=>K' (.bool true) w5) ht (by omega) λI Z S Q=>q _ Z (OE r) ⟨I,S.less V,((C.kp y).trans Q).at l Y,by simp;omega⟩;simp only[bH,bN,aN]at this;exact this
 .have r:a.n=Dj:=kI r;refine ldb f (v:=str e.t) rfl ?_;refine C.src λH o i=>?_;refine ldb (i.at f X) (v:=i64 e.k) rfl ?_;rw[bW];refine GdW.look (nR e.t) (λ_ J hJ=>?_) λg2=>?_
  .refine ldb (i.at f X) (v:=str e.t) rfl ?_;exact PF (by omega) hJ
  simp only[aG,gX];rw[gM];have G:=RX (x:=x) (e:=e) r;by_cases b:e.k=5/\nR e.t=true
  .rw[aO b]at G;rw[bS b.1,b.2];exact q _ H G ⟨va,o.less V,i.at l Y,by show x.1.length<=_;omega⟩
  .rw[aE b]at G;have:(decide (e.k=5)&&nR e.t)=false:=by
    cases E:decide (e.k=5)with
    |false=>rfl
    |true=>
     cases D:nR e.t with
     |false=>rfl
     |true=>exact absurd ⟨fP E,D⟩ b
   rw[this];exact P H G o.mr.mf (fin i)
def NB{x:Str}(b:∀t W,SlAt W StT t 1 (strs [x])->(∀k,t.ownBlock=some k->w.heap.size<=k)->Ext w W->K t W):gP StT 1 [.string (ofL [])] [(0,1,str x)] w K:=by
 rw[gP];simp only[eP,dW,aA,aD,aP];refine⟨by omega,?_⟩;refine b _ _ ⟨_,_,rfl,aQ _,λe=>(by cases e),λ_=>⟨_,_,_,_,rfl,kV _ _ _ rfl,λi _=>by rw[aN,bP];rfl⟩⟩ (λk a=>by cases a;exact aQ _) (Chg.alloc (Chg.refl _ _) _)
theorem Vm{f:World}{t:Value}{KW:World->Prop}(U:sK w0 w p L vS path s b4 b5 n ca x va O)(V:Own W w0.heap.size ClT 4 g (s.m.calls.length+1) (L.cC++[str n,i64 0,va,i64 ca]))(R:Chg (λk=>L.vC.ownBlock=some k) w W)(S:∀k,g.ownBlock=some k->L.vC.ownBlock=some k\/w.heap.size<=k)
  (B:Ext W f)(ht:SlAt f StT t 1 (strs [x.2]))(hb:s.src.length<=100000000000)(hK:∀L' i b,L'.M=L.M->MR w0 b p L' i path ⟨{s.m with calls:=s.m.calls++[⟨n,0,x.1,ca⟩]},s.src++[x.2]⟩->KW b):
  fV P0 (Builtin.append_ #[33,33] 33 #[vS,t]) f λt54 l=>stW 1 (.pointer (some ⟨p,8,none⟩)) g l λA=>stW 1 (.pointer (some ⟨p,10,none⟩)) t54 A KW:=by
 have c:=U.mr;have o:vS∈[vS]++L.vals:=by simp
 have C:L.vC∈[vS]++L.vals:=by simp[ML.vals]
 have F:=c.nd;rw[kR]at F;have K:∀k,vS.ownBlock=some k->L.vC.ownBlock≠some k:=λk a e=>by
  have E:(p::ub ([]++vS::L.vals)).Nodup:=F;exact uT E L.vC (by simp[ML.vals]) k e (.inl a)
 have lt:∀{v:Value},v∈[vS]++L.vals->∀k,v.ownBlock=some k->k<w.heap.size:=λhv k a=>(c.in_ k (by rw[kR];exact aF _ (eZ hv a))).1;have r:=eJ c.oS R λk a=>K k a;have q:=r.ext B;have z1:=R.size;have z2:=B.size;have zb:=c.base;refine iV DY q ht rfl (λu hu=>by simp only[strs,cJ,kA,aX,bU,fT]at hu;subst hu;rfl) (by omega) (by omega) (by omega) λi l N j y=>?_;have z3:=j.size;have hf:=c.plt;have P:∀k,g.ownBlock=some k->vS.ownBlock≠some k:=λk a e=>by
  rcases S k a with h|h
  .exact K k e h
  .have:=lt o k e;omega
 have X:∀k,g.ownBlock=some k->k≠p:=λk a e=>by
  rcases S k a with h|h
  .exact c.val_ne C k h e
  .omega
 have T:∀k,i.ownBlock=some k->k≠p:=λk a e=>by
  rcases y k a with h|h
  .exact c.val_ne o k h e
  .omega
 have D:=j.at (B.at (R.at c.pm λe=>c.val_ne C p e rfl) id) λe=>c.val_ne o p e rfl;refine lJ D (fO V.sl) (by simp[ML.cells]) λA Z J H=>?_;refine lJ J (fO N.sl) (by simp[ML.cells]) λb Y I G=>?_;have z:Chg (One p) l b:=H.trans G;refine hK {L with vC:=g,cC:=L.cC++[str n,i64 0,va,i64 ca]} i b rfl ?_;have Q:ub [str n,i64 0,va,i64 ca]=ub [va]:=by
  unfold ub;simp only[gT,nD];rfl
 refine c.put_CS (x:=⟨n,0,x.1,ca⟩) (d:=[str n,i64 0,va,i64 ca]) (eJ (eJ (V.ext B) j λk a=>P k a) z λk a=>X k a) (eJ N z λk a=>T k a) ?_ S (λk a=>(y k a).imp id (by omega)) ?_ ⟨va,rfl,U.oa⟩ rfl ?_ ?_ ?_
 .have h1:Chg (λk=>L.vC.ownBlock=some k\/vS.ownBlock=some k\/k=p) w f:=(R.mono λ_ _ e=>.inl e).trans (Chg.of_ext B);exact(h1.trans (j.mono λ_ _ e=>.inr (.inl e))).trans (z.mono λ_ _ e=>.inr (.inr e))
 .intro k a e;rcases y k e with h|h
  .exact P k a h
  .have:=(lK V a).1;omega
 .rw[Q];unfold ub;simp only[gT,nD];cases va.ownBlock<;>simp
 .rw[Q];intro k a;exact(U.nv k (kM.1 a)).1
 .rw[I];simp[ML.cells]
theorem aD9{k:Nat}(h:MR w0 w p L vS path s)(xa:FlA s.m.fl L.M)(O:k<s.m.fl.bl.length)(hl:1<=(iY s.m.fl k).labels.length)(T:s.m.calls.length<=100000000000)(J:s.src.length<=100000000000)
  (G:∀s' L' Q W,AL s (iY s.m.fl k)=.ok s'->L'.M=L.M->MR w0 W p L' Q path s'->K (.tuple #[]) W)(f:∀c a,AL s (iY s.m.fl k)=.bad c a->TC w0 path c a):
  aL P0 142 [pA p,.agg (bcc L.M k).toArray] w K:=by
 obtain⟨vl,va,vb,ec,h1,h2,h3⟩:=uZ h.md.fo O;obtain⟨yr,hs,xl,xk,xj,ys⟩:=xa.bk k O;have zl:=xa.fa k O;have hp:=λ{w:World} (hF:FO w w0.heap.size L.M s.m.fl)=>Gj O ec hF;generalize hb:iY s.m.fl k=b at*
 rw[ec];refine aA7 ?_;unfold aGL;refine gF λb3 w1 zm zi d xw=>?_;have xg:=xw.trans (cQ w1);have hw:=h.ext xg;have d:w1.drew.heap[b3]?=some (.cells [str b.typ,vl,va,vb,i64 b.a].toArray BkT (0,0)):=d;obtain⟨x,hx⟩:∃x,b.labels[0]?=some x:=⟨_,aH (by omega)⟩;have xv:b.labels.getD 0 []=x:=by rw[aM,hx];rfl
 obtain⟨p0,xx,hq⟩:=zR (k:=.i64) (i:=0) (u:=str x) (hp hw.md.fo).1 (by rw[wU];omega) (by unfold strs;rw[dV,hx];rfl);simp only[bH,bN,aN];refine ldb d (v:=vl) rfl (xx _ (hq _ _ (Chg.refl _ _) ?_));refine ldb d (v:=i64 b.a) rfl ?_;simp only[eG,eP,dW,aA,aD,aP,aU];refine⟨by omega,by omega,?_⟩;refine cO λb4 w4 yg xu V hv=>?_;have d:=hv.at d id;refine⟨ldb d rfl rfl,hq _ _ hv rfl,ldb d rfl rfl,?_⟩;have yd:=hw.ext hv;have l4:rJ w0 w4 p L vS b4 ClT _:=hw.loc xu yg V;have yo:w1.drew.heap.size=w1.heap.size:=rfl;refine dH (l:=[str x,i64 0,.slice none 0 0,i64 b.a]) l4.at_ rfl rfl rfl λw5 zh xp xm=>?_;have xi:=yd.one xm l4.off;have d:=xm.at d (by omega);refine cO λb5 w6 yf xt xo ht=>?_;have yc:=xi.ext ht;have l5:rJ w0 w6 p L vS b5 StT _:=xi.loc xt yf xo;refine lJ l5.at_ rfl (by simp) λw7 zg xn he=>?_;have yb:=yc.one he l5.off;have d:=he.at (ht.at d id) (by omega);have V:=he.at (ht.at xp id) (by omega);have hd:AL s b=(lA s.m.fl vZ [] b.attrs ([],[])).bind λr=>(uE s.m.fl b).bind λ_=>if r.2=[]then .bad 110 b.a else if s.m.calls.any (λy=>decide (y.n=x))=true then .bad 2 b.a else .ok ⟨{s.m with calls:=s.m.calls++[⟨x,0,r.1,b.a⟩]},s.src++[r.2]⟩:=by
  rw[<-xv];rfl
 rw[hd]at G f;have yh:sK w0 w7 p L vS path s b4 b5 x b.a ([],[]) (.slice none 0 0) (λk=>k=b3):=
  ⟨yb,⟨V,l4.off.up (W:=w7) (by omega)⟩,⟨by rw[xn];simp,l5.off.up he.size⟩,⟨by simp[lP],.inl ⟨rfl,rfl⟩⟩,λk O=>(by cases O),by omega,λk O=>⟨by omega,by omega,by omega,λe=>(by cases e)⟩⟩
 refine ldb d (v:=va) rfl ?_;refine Cm (M:=L.M) (fl:=s.m.fl) (path:=path) (Inv:=ClI w0 p L vS path s b3 b4 b5 [str b.typ,vl,va,vb,i64 b.a] x b.a) (take:=vZ) (l:=b.attrs) (s:=([],[]))
  (λ_ w r ⟨_,g,_⟩=>g.mr.mf) (λ_ w W r hI hx=>hI.ext hx) (λw hF=>(hp hF).2.1) xk hs
  (λj a ha r wz w1 K' hI hx xd xy _=>ZL (by have:=(bJ.1 ha).1;omega) xa.ch (hs a (bA ha)) hI hx xd xy)
  ⟨_,yh,d,by simp⟩ ?_ (λc a hR=>f c a (by rw[hR];rfl))
 intro r w8 hr ⟨E,hz,d,yt⟩;rw[hr]at G f;simp only[RC.bind]at G f;refine gL d rfl ?_;have ye:BkR w8 w0.heap.size b [str b.typ,vl,va,vb,i64 b.a]:=by
  have:=uZ hz.mr.md.fo O;rw[ec,hb]at this;exact this
 refine HE hz.mr.mf ye xl xj (λw9 hB xe=>?_) λc a hB=>f c a (by rw[hB]);rw[hB]at G f;simp only at G f;have I:=hz.ext xe;have d:=xe.at d id;refine dE.cut (λst W=>st=[]/\W=w9/\¬r.2=[]) ?_ ?_
 .refine ldb I.as_.at_ (v:=str r.2) rfl ?_;rw[fE,aY];refine⟨λe=>?_,λe=>⟨by trivial,by trivial,e⟩⟩;refine ldb d (v:=i64 b.a) rfl ?_;exact oZ I.mr.mf (f 110 b.a (by rw[aO e]))
 rintro st g xs ⟨rfl,rfl,xz⟩;rw[aE xz]at G f;refine dE.cut (λst W=>st=[]/\Ext xs W/\s.m.calls.any (λy=>decide (y.n=x))=false) ?_ ?_
 .simp only[dJ,bH,bN,aN];refine I.mr.ld rfl ?_;refine MC (l:=s.m.calls) (B:=w0.heap.size) (cs:=L.cC) (q:=λy=>decide (y.n=x)) I.mr.md.oC.sl I.mr.md.cc (by omega) (λy hy c P {Z zr} z xr=>iM (caps:=[pA b4]) ?_) λZ z=>?_
  .obtain⟨ya,rfl,_⟩:=P;refine aAD ?_;unfold aGh;exact uI (z.at I.at_.at_ id) xr
  .rw[fC];refine⟨λH=>?_,λH=>⟨by trivial,z,H⟩⟩;refine ldb (z.at d id) (v:=i64 b.a) rfl ?_;exact oZ (I.mr.mf.ext z) (f 2 b.a (by rw[aO H]))
 rintro st g3 Z ⟨rfl,z,H⟩;rw[aE (by rw[H];decide)]at G;have xf:=z.trans (cQ Z);have t:=I.ext xf;generalize Z.drew=w12 at*
 have S:∀(y:Value),∀u∈([str x,i64 0,E,i64 b.a]:List Value),kJ u=true:=λy u hu=>by
  simp only[aX,bU,fT]at hu;rcases hu with rfl|rfl|rfl|rfl<;>first|rfl|exact fO t.oa.sl
 have zq:ub [str x,i64 0,E,i64 b.a]=ub [E]:=by
  unfold ub;simp only[gT,nD];rfl
 have yq:(ub [E]).Nodup:=by
  unfold ub;simp only[gT,nD];cases E.ownBlock<;>simp
 simp only[dJ,bH,bN,aN];refine t.mr.ld rfl ?_;refine gL t.at_.at_ rfl ?_;refine t.mr.ld rfl ?_;refine ldb t.as_.at_ (v:=str r.2) rfl ?_;have hf:∀{wB:World},Ext w12 wB->sK w0 wB p L vS path s b4 b5 x b.a r E (λk=>k=b3):=λhx=>t.ext hx;have fin:∀L' Q Y,L'.M=L.M->MR w0 Y p L' Q path ⟨{s.m with calls:=s.m.calls++[⟨x,0,r.1,b.a⟩]},s.src++[r.2]⟩->K (.tuple #[]) Y:=λL' Q Y hM hm=>G _ L' Q Y rfl hM hm;have xc:∀k,L.vC.ownBlock=some k->k<w12.heap.size:=λk O=>(t.mr.in_ k (by rw[kR];exact aF _ (eZ (v:=L.vC) (by simp[ML.vals]) O))).1;have n5:L.vC.ownBlock≠some b5:=t.as_.off.ne (by simp[ML.vals]);refine⟨?_,?_⟩
 .refine row_one (by rfl) (by rfl) (by omega) λt46 zf N R=>?_;have o:=hf R;refine⟨ldb o.as_.at_ rfl rfl,o.mr.ld rfl rfl,o.mr.ld rfl rfl,?_,?_⟩
  .refine o.mr.app_C (x:=⟨x,0,r.1,b.a⟩) N rfl (S E) T λv' xb hO P hn=>?_;have A:=P.at o.mr.pm (λe=>o.mr.val_ne (v:=L.vC) (by simp[ML.vals]) p e rfl);refine⟨ldb (P.at o.as_.at_ n5) rfl rfl,ldb A rfl rfl,?_⟩;refine NB λt53 ze F _ hj=>?_;refine⟨ldb (hj.at A id) rfl rfl,?_⟩;exact Vm o hO P hn hj F J fin
  .refine NB λt53 zd F U hi=>?_;have D:=hf (R.trans hi);refine⟨D.mr.ld rfl rfl,D.mr.ld rfl rfl,?_⟩;refine D.mr.app_C (x:=⟨x,0,r.1,b.a⟩) (N.ext hi) rfl (S E) T λv' xb hO P hn=>?_;have A:=P.at D.mr.pm (λe=>D.mr.val_ne (v:=L.vC) (by simp[ML.vals]) p e rfl);refine⟨ldb A rfl rfl,?_⟩;exact Vm D hO P hn (Chg.refl _ _) (xU F P λk O e=>by have h1:=U k O;have h2:=xc k e;have:=R.size;omega) J fin
 .refine NB λt53 zc F U hh=>?_;have X:=hf hh;refine⟨X.mr.ld rfl rfl,gL X.at_.at_ rfl rfl,X.mr.ld rfl rfl,?_⟩;refine row_one (by rfl) (by rfl) (by omega) λt46 zb N hg=>?_;have C:=hf (hh.trans hg);refine⟨C.mr.ld rfl rfl,C.mr.ld rfl rfl,?_⟩;refine C.mr.app_C (x:=⟨x,0,r.1,b.a⟩) N rfl (S E) T λv' xb hO P hn=>?_;have A:=P.at C.mr.pm (λe=>C.mr.val_ne (v:=L.vC) (by simp[ML.vals]) p e rfl);refine⟨ldb A rfl rfl,?_⟩;exact Vm C hO P hn (Chg.refl _ _) (xU (F.ext hg) P λk O e=>by have h1:=U k O;have h2:=xc k e;omega) J fin
end
end
end Go.Proofs.YtjblfcfdeaagpaaGreatDoor
namespace Go.Cfg
section
open Go Go.Eng Go.Lex Go.Syn
def BdS(s:MS)(n:Nat):Prop:=s.m.vars.length<=n/\s.m.locs.length<=n*100000/\s.m.outs.length<=n/\s.m.res.length<=n/\s.m.calls.length<=n/\s.src.length<=n
def rF{r:RC α}{f:α->RC β}{y:β}(h:r.bind f=.ok y):∃x,r=.ok x/\f x=.ok y:=by
 cases r with
 |ok x=>exact⟨x,rfl,h⟩
 |bad c a=>cases h
def PI{f:Fl}:∀(l seen:List Atr) (s s':List Atr),lA f DC seen l s=.ok s'->s'.length<=s.length+l.length
 |[],_,s,s',e=>by
  simp only[lA]at e
  injection e with e
  subst e;exact aQ _
 |a::l,seen,s,s',e=>by
  simp only[lA]at e
  split at e
  .cases e
  .obtain⟨d,b,c⟩:=rF e
   simp only[DC]at b
   split at b
   .cases b
   .injection b with b
    subst b
    have:=PI l _ _ _ c
    rw[aB,aA,aD]at this
    rw[aA];omega
theorem MU{s s':MS}{b:Blk}(h:BdS s n)(f:b.attrs.length<=100000)(e:blockMc s b=.ok s'):BdS s' (n+1)/\s'.m.fl=s.m.fl/\s'.m.dir=s.m.dir:=by
 obtain⟨o,a,k,j,i,g⟩:=h;have c:(n+1)*100000=n*100000+100000:=by rw[oQ,Nat.one_mul]
 unfold blockMc at e;split at e
 .cases e
 split at e
 .unfold oJ at e;obtain⟨_,_,e⟩:=rF e;obtain⟨_,_,e⟩:=rF e;split at e
  .cases e
  .injection e with e;subst e;exact⟨⟨by simp;omega,dN a (dU _ (qA n)),by simp only;omega,by simp only;omega,by simp only;omega,by simp only;omega⟩,rfl,rfl⟩
 split at e
 .unfold sP at e;obtain⟨l,d,e⟩:=rF e;obtain⟨_,_,e⟩:=rF e;have:=PI _ _ _ _ d;injection e with e;subst e;exact⟨⟨by simp only;omega,by simp only;rw[c];omega,by simp only;omega,by simp only;omega,by simp only;omega,by simp only;omega⟩,rfl,rfl⟩
 split at e
 .unfold sL at e;obtain⟨_,_,e⟩:=rF e;obtain⟨_,_,e⟩:=rF e;split at e
  .cases e
  split at e
  .cases e
  .injection e with e;subst e;exact⟨⟨by simp only;omega,dN a (dU _ (qA n)),by simp;omega,by simp only;omega,by simp only;omega,by simp only;omega⟩,rfl,rfl⟩
 split at e
 .unfold oN at e;obtain⟨_,_,e⟩:=rF e;obtain⟨_,_,e⟩:=rF e;split at e
  .cases e
  .injection e with e;subst e;exact⟨⟨by simp only;omega,dN a (dU _ (qA n)),by simp only;omega,by simp;omega,by simp only;omega,by simp only;omega⟩,rfl,rfl⟩
 split at e
 .unfold AL at e;obtain⟨_,_,e⟩:=rF e;obtain⟨_,_,e⟩:=rF e;split at e
  .cases e
  split at e
  .cases e
  .injection e with e;subst e;exact⟨⟨by simp only;omega,dN a (dU _ (qA n)),by simp only;omega,by simp only;omega,by simp;omega,by simp;omega⟩,rfl,rfl⟩
 .injection e with e;subst e;exact⟨⟨by omega,dN a (dU _ (qA n)),by omega,by omega,by omega,by omega⟩,rfl,rfl⟩
end
end Go.Cfg
namespace Go.Proofs.YtjblfcfdeaagpaaGreatDoor
section
open Go Go.Eng Go.RowKit Go.Syn Go.Lex Go.Cfg
section
variable [HX]
variable [FK]{w0 w:World}{p:Nat}{L:ML}{vS:Value}{path:Str}{s:MS}{K:Q0}
def ON(w:World)(A:(Q0)->Prop)(B:Q0):GeW false w A B↔B undef w:=⟨λh=>h.2 rfl,λh=>⟨λe=>(by cases e),λ_=>h⟩⟩
theorem MA{l:List Str}{f:Value}{q:Str->Bool}(h:SlAt w StT v l.length (strs l))(u:l.length<=9223372036854775806)
  (r:∀x∈l,∀{w1:World} {K:Q0},Ext w w1->(∀W,Ext w1 W->K (.bool (q x)) W)->qN P0 f [str x] w1 K)(m:∀W,Ext w W->K (.bool (l.any q)) W):aL P0 134 [v,f] w K:=by
 refine aBf ?_;unfold aGT;refine aAU ?_;unfold aGy;rw[gQ h];refine Cb l.length (λi W=>Ext w W/\(l.take i).any q=false) ⟨Chg.refl _ _,by simp⟩ ?_ ?_
 .rintro i w2 g L p ⟨a,c⟩ s;obtain⟨x,b⟩:∃x,l[i]?=some x:=⟨_,aH p⟩;have j:((i:Int)<(l.length:Int)):=by omega
  simp only[wsv,wsg,wsh,wsl,aV,aR,aJ,lC,Nat.reduceAdd,Nat.reduceLT,cM,aZ,dO,dA,cY,reduceCtorEq,j];refine mC (i:=i) (x:=str x) (h.ext a) (by rw[wU];omega) (by unfold strs;rw[dV,b];rfl) ?_;refine r x (bA b) a λk d=>?_;rw[fC];refine⟨λn=>?_,λo=>?_⟩
  .have:=m k (a.trans d);have t:l.any q=true:=nL.2 ⟨x,bA b,n⟩;rw[t]at this;have e:decide ((0:Int)<=(i:Int))=true:=bS (by omega);rw[e];exact this
  .rw[up1 (by omega)];exact s k ⟨a.trans d,by rw[Nb b,c,o];rfl⟩
 .rintro w2 g L ⟨a,c⟩;simp only[wsv,wsg,wsh,wsl,aV,aR,aJ,lC,Nat.reduceAdd,Nat.reduceLT,cM,aZ,dO,dA,cY,reduceCtorEq,El];rw[dP]at c;have:=m w2 a;rw[c]at this;exact this
def VE{x:Str}(a:x.length<=1000000)(b:K (.bool (!nR x)) w):aL P0 135 [str x] w K:=by
 refine aBe ?_;unfold aGS;refine PF a ?_;rw[gK];exact b
theorem Vq{k:Nat}(h:MR w0 w p L vS path s)(F:FlA s.m.fl L.M)(Q:k<s.m.fl.bl.length)(hl:BdS s n)(hn:n<=100000)(hj:∀x∈(iY s.m.fl k).labels,x.length<=1000000)
  (j:∀s' L' r W,blockMc s (iY s.m.fl k)=.ok s'->L'.M=L.M->MR w0 W p L' r path s'->K (.tuple #[]) W)(d:∀c a,blockMc s (iY s.m.fl k)=.bad c a->TC w0 path c a):
  aL P0 95 [pA p,.agg (bcc L.M k).toArray] w K:=by
 obtain⟨d1,d2,d3,d4,d5,d6⟩:=hl;have xe:n*100000<=100000*100000:=dU _ hn;obtain⟨vl,va,vb,ec,h1,h2,h3⟩:=uZ h.md.fo Q;obtain⟨hs,hz,hy,hw,hv,hu⟩:=F.bk k Q;have H:=λ{w:World} (hF:FO w w0.heap.size L.M s.m.fl)=>(Gj Q ec hF).1;have hq:([str (iY s.m.fl k).typ,vl,va,vb,i64 (iY s.m.fl k).a]:List Value).all kJ=true:=by
  show(true&&(kJ vl&&(kJ va&&(kJ vb&&(true&&true)))))=true;rw[fO h1.sl,fO h2.sl,fO h3.sl];rfl
 refine aEh ?_;unfold W95;have I:=ec;rw[ec];refine gF λY w1 xf xc V he=>?_;have o:w1.drew.heap[Y]?=some (.cells [str (iY s.m.fl k).typ,vl,va,vb,i64 (iY s.m.fl k).a].toArray BkT (0,0)):=V;have hx1d:=he.trans (cQ w1);have N:=h.ext hx1d;generalize D:iY s.m.fl k=b at*
 generalize R:(yE b.typ≠b.labels.length\/b.labels.any (λl=> !nR l)=true\/(b.typ=lN/\b.labels.getD 0 []∈rQ))=G;have y:G->TC w0 path 110 b.a:=λhG=>d 110 b.a (by unfold blockMc;rw[aO (by rw[R];exact hG)]);refine dE.cut (λst W=>st=[]/\Ext w W/\W.heap[Y]?=some (.cells [str b.typ,vl,va,vb,i64 b.a].toArray BkT (0,0))/\¬G) ?_ ?_
 .simp only[bH,bN,aN];refine ldb o (v:=str b.typ) rfl ?_;refine ldb o (v:=vl) rfl ?_;rw[gQ (H N.md.fo)];refine Zi ?_;refine⟨ldb o rfl rfl,?_⟩;rw[fR];by_cases X:yE b.typ≠b.labels.length
  .rw[bS X];simp only[gX,jV,Mb,Ng,ON,iZ,dT];rw[dF];refine⟨λe=>(by cases e),λe=>(by cases e),?_⟩;refine ldb o (v:=i64 b.a) rfl ?_;exact oZ N.mf (y (by rw[<-R];exact .inl X))
  rw[cX X];simp only[jV,dG];refine AK (v:=.pointer (some ⟨Y,1,none⟩)) rfl ?_;refine AK (v:=vl) (ldb o rfl rfl) ?_;refine OM ?_;refine MA (l:=b.labels) (q:=λl=> !nR l) (H N.md.fo) (by omega) (λx Z {w2 K2} C hm=>zT (VE (hj x Z) (hm _ (Chg.refl _ _)))) λw2 C=>?_;have f:=C.at o id;have A:=N.ext C;rw[iN];cases c2:b.labels.any (λl=> !nR l)with
  |true=>
   simp only[gX,jV,Mb,Ng,ON,iZ,dT];rw[dF];refine⟨λe=>(by cases e),λe=>(by cases e),?_⟩;refine ldb f (v:=i64 b.a) rfl ?_;exact oZ A.mf (y (by rw[<-R];exact .inr (.inl c2)))
  |false=>
   simp only[jV,dG];refine AK (v:=.pointer (some ⟨Y,0,none⟩)) rfl ?_;refine AK (v:=str b.typ) (ldb f rfl rfl) ?_;refine AK (v:=.bool (decide (b.typ=lN))) (by rw[fE];rfl) ?_;refine AK (v:=.bool (decide (b.typ=lN))) rfl ?_;have S:¬(b.typ=lN/\b.labels.getD 0 []∈rQ)->¬G:=λhn hG=>by
    rw[<-R]at hG;rcases hG with e|e|e
    .exact X e
    .rw[c2]at e;cases e
    .exact hn e
   by_cases c3:b.typ=lN
   .rw[bS c3];simp only[gX];have hr:b.labels.length=2:=by
     have:yE b.typ=b.labels.length:=kI X;rw[c3]at this;have e2:yE lN=2:=by decide
     rw[e2]at this;omega
    obtain⟨x,Z⟩:∃x,b.labels[0]?=some x:=⟨_,aH (by omega)⟩;have T:b.labels.getD 0 []=x:=by rw[aM,Z];rfl
    obtain⟨p0,hf,P⟩:=zR (k:=.i64) (i:=0) (u:=str x) (H A.md.fo) (by rw[wU];omega) (by unfold strs;rw[dV,Z];rfl);refine AK (v:=.pointer (some ⟨Y,1,none⟩)) rfl ?_;refine AK (v:=vl) (ldb f rfl rfl) ?_;refine AK (v:=p0) (hf _ rfl) ?_;refine AK (v:=str x) (P _ _ (Chg.refl _ _) rfl) ?_;refine OM ?_;refine NH λt w3 ht E=>?_;refine⟨λ_=>P _ _ E rfl,λ_=>ldb (E.at f id) rfl rfl,?_⟩;refine OM ?_;refine BC ht (by decide) ?_;refine AK (v:=.bool (decide (x∈rQ))) (by rw[iZ]) ?_;rw[iN,fC];have hi:=A.ext E;refine⟨λO=>?_,λO=>?_⟩
    .refine ldb (E.at f id) (v:=i64 b.a) rfl ?_;exact oZ hi.mf (y (by rw[<-R];exact .inr (.inr ⟨c3,by rw[T];exact fP O⟩)))
    .exact⟨by trivial,hx1d.trans (C.trans E),E.at f id,S λe=>by rw[T]at e;rw[bS e.2]at O;cases O⟩
   .rw[cX c3];simp only[gX,Ng,ON];refine⟨λe=>(by cases e),λe=>(by cases e),?_⟩;refine AK (v:=.bool false) (by rw[iN]) ?_;rw[iN,cI];exact⟨by trivial,hx1d.trans C,f,S λe=>c3 e.1⟩
 rintro st g w2 ⟨rfl,C,f,U⟩;have A:=h.ext C;have J:blockMc s b=if b.typ=oM then oJ s b else if b.typ=Aj then sP s b else if b.typ=rP then sL s b else if b.typ=lN then oN s b else if b.typ=tI then AL s b else .ok s:=by
  unfold blockMc;rw[aE (by rw[R];exact U)]
 have B:yE b.typ=b.labels.length:=kI λe=>U (by rw[<-R];exact .inl e);rw[J]at j d;simp only[bH,bN,aN];refine ldb f (v:=str b.typ) rfl ?_;rw[fE,aY];refine⟨λz=>?_,λn1=>?_⟩
 .have z:b.typ=oM:=z;rw[aO z]at j d;refine gL f rfl ?_;have:=Nl (K:=λ_ w=>K (.tuple #[]) w) (k:=k) A (F.bk k Q) (by rw[D];rw[z,show yE oM=1 by decide]at B;omega) (by omega) (by rw[D];exactλs' L' r W a b c=>j s' L' r W a b c) (by rw[D];exact d);rw[I]at this;exact this
 have n1:¬b.typ=oM:=n1;rw[aE n1]at j d;rw[fE,aY];refine⟨λz=>?_,λn2=>?_⟩
 .have z:b.typ=Aj:=z;rw[aO z]at j d;refine gL f rfl ?_;have:=Us (K:=λ_ w=>K (.tuple #[]) w) (k:=k) A (F.bk k Q) (by omega) (by rw[D];exactλs' L' r W a b c=>j s' L' r W a b c) (by rw[D];exact d);rw[I]at this;exact this
 have n2:¬b.typ=Aj:=n2;rw[aE n2]at j d;rw[fE,aY];refine⟨λz=>?_,λn3=>?_⟩
 .have z:b.typ=rP:=z;rw[aO z]at j d;refine gL f rfl ?_;have:=TZ (K:=λ_ w=>K (.tuple #[]) w) (k:=k) A (F.bk k Q) (by rw[D];rw[z,show yE rP=1 by decide]at B;omega) (by omega) (by rw[D];exactλs' L' r W a b c=>j s' L' r W a b c) (by rw[D];exact d);rw[I]at this;exact this
 have n3:¬b.typ=rP:=n3;rw[aE n3]at j d;rw[fE,aY];refine⟨λz=>?_,λn4=>?_⟩
 .have z:b.typ=lN:=z;rw[aO z]at j d;refine gL f rfl ?_;have:=NG (K:=λ_ w=>K (.tuple #[]) w) (k:=k) A F Q (by rw[D];rw[z,show yE lN=2 by decide]at B;omega) (by omega) (by rw[D];exactλs' L' r W a b c=>j s' L' r W a b c) (by rw[D];exact d);rw[I]at this;exact this
 have n4:¬b.typ=lN:=n4;rw[aE n4]at j d;rw[fE,aY];refine⟨λz=>?_,λn5=>?_⟩
 .have z:b.typ=tI:=z;rw[aO z]at j d;refine gL f rfl ?_;have:=aD9 (K:=λ_ w=>K (.tuple #[]) w) (k:=k) A F Q (by rw[D];rw[z,show yE tI=1 by decide]at B;omega) (by omega) (by omega) (by rw[D];exactλs' L' r W a b c=>j s' L' r W a b c) (by rw[D];exact d);rw[I]at this;exact this
 have n5:¬b.typ=tI:=n5;rw[aE n5]at j;exact j s L vS w2 rfl rfl A
end
def xC:∀(n:Nat) (l:List Nat),l.Nodup->(∀x∈l,x<n)->l.length<=n
 |0,l,_,h=>by
  cases l with
  |nil=>exact aQ _
  |cons x l=>exact absurd (h x bC) (Nat.not_lt_zero _)
 |n+1,l,b,h=>by
  by_cases c:n∈l
  .have g:=xC n (l.erase n) (b.erase n) λx a=>by
    have f:=h x (List.mem_of_mem_erase a)
    have d:x≠n:=λe=>by
     subst e
     exact(List.Nodup.not_mem_erase b) a
    omega
   rw[List.length_erase_of_mem c]at g
   omega
  .have:=xC n l b λx a=>by
    have f:=h x a
    have d:x≠n:=λe=>c (e▸a)
    omega
   omega
def Fu{l:List Nat}(h:∀j,l.count j<=1):l.Nodup:=List.nodup_iff_count.2 h
def Hn{L:List (List Nat)}{roots:List Nat}(h:eX L roots):roots.length<=L.length/\∀us∈L,us.length<=L.length:=by
 have e:roots.Nodup:=Fu λj=>by
  by_cases b:j<L.length
  .have:=h.once j b;omega
  .rw[AQ.2 λc=>b (h.low j c)];omega
 have f:L.flatten.Nodup:=Fu λj=>by
  by_cases b:j<L.length
  .have:=h.once j b;omega
  .rw[AQ.2 λc=>b (h.flat_lt j c)];omega
 refine⟨xC _ _ e h.low,λus a=>xC _ _ (f.sublist (List.sublist_flatten_of_mem a)) λx d=>h.flat_lt x (yS.2 ⟨us,a,d⟩)⟩
structure aHd(fl:Fl):Prop where
 fa:∀M,FlA fl M
 ll:∀k,k<fl.bl.length->∀x∈(iY fl k).labels,x.length<=1000000
 top:∀k∈fl.top,k<fl.bl.length
 aok:AOk fl
theorem Bl{t:Str}{fl:Fl}(h:lS t=.ok fl)(g:fl.ex.length<=100000/\fl.bl.length<=100000/\fl.top.length<=100000):aHd fl:=by
 have q:=uW t;rw[h]at q;obtain⟨_,f1,f2,_⟩:=q;obtain⟨p,o,_⟩:=Bj h;obtain⟨g1,g2⟩:=Hn f1;obtain⟨g3,g4⟩:=Hn f2;have d:(exL fl.ex).length=fl.ex.length:=by simp[exL]
 have f:(blL fl.bl).length=fl.bl.length:=by simp[blL]
 rw[d]at g1 g2;rw[f]at g3 g4;have aok:AOk fl:=λb v a n=>by
  have:=f1.low a.e (by unfold vY;exact yU.2 ⟨b,v,fL.2 ⟨a,n,rfl⟩⟩);rw[d]at this;exact this
 have mem:∀k,k<fl.bl.length->iY fl k∈fl.bl:=λk c=>bA (HD c);have l:∀k,k<fl.bl.length->(iY fl k).attrs.length<=100000:=λk c=>by
  have:((iY fl k).attrs.map (·.e)).Sublist (vY fl.bl):=by
   unfold vY;exact List.sublist_flatten_of_mem (fL.2 ⟨_,mem k c,rfl⟩)
  have:=this.length_le;rw[cK]at this;omega
 refine⟨λM=>⟨λk c=>⟨c,aok _ (mem k c),λj s=>?_,?_,?_,?_⟩,⟨λi e u a n=>?_,λe m c=>(p e m).a1 (.inl c),λe m=>⟨?_,(p e m).ut.2⟩⟩,g.1,l⟩,λk c x r=>?_,λk c=>?_,aok⟩
 .have:=f2.ahead k (iY fl k).blocks (by unfold blL;rw[dV,HD c];rfl) j s;omega
 .have:=l k c;omega
 .have:=g4 (iY fl k).blocks (by unfold blL;exact fL.2 ⟨_,mem k c,rfl⟩);omega
 .have:=(o _ (mem k c)).few;omega
 .exact f1.ahead i e.args (by unfold exL;rw[dV,u];rfl) a n
 .have:=g2 e.args (by unfold exL;exact fL.2 ⟨e,m,rfl⟩);omega
 .have:=((o _ (mem k c)).lb x r).2;omega
 .have:=f2.low k c;rw[f]at this;exact this
end
section
open Go Go.Eng Go.RowKit Go.Syn Go.Lex
def KX{N:Int}{tl:Nat}:∀(n:Nat) (s:PS) (top b:List Nat) (s':PS),Gd N s 24->top.length<=s.i->s.toks.length=tl->wR n s top=.ok b s'->s'.ex.length<=100000/\s'.bl.length<=100000/\b.length<=tl
 |0,s,top,b,s',_,_,_,h=>by simp only[wR]at h;cases h
 |n+1,s,top,b,s',k,y,t,h=>by
  simp only[wR]at h
  have e:=k.now
  have l:=kF k.ws
  have o:=congrArg List.length l.toks
  have p:=l.le
  split at h
  .injection h with w v
   subst w v
   have:=k.ws.lt
   exact⟨e.ex.1,e.ex.2,by omega⟩
  cases ex:uN 24 (bK s)with
  |err c a=>rw[ex]at h;cases h
  |ok x s2=>
   rw[ex]at h
   simp only[R.bind]at h
   letI:=noX
   obtain⟨j,u,g⟩:=e.bk (Bv 24) ex
   have g:=congrArg List.length g
   split at h
   .cases h
   have d:=j.now
   have f:=kF j.ws
   have ng9t:=congrArg List.length f.toks
   have ng9i:=f.le
   have m:=nS d.ws
   have q:=congrArg List.length m.1.toks
   have r:=m.1.le
   exact KX n _ _ _ _ d.lines (by rw[aB,aA,aD];omega) (by omega) h
def BX{t:Str}{fl:Fl}(h:lS t=.ok fl):fl.ex.length<=100000/\fl.bl.length<=100000/\fl.top.length<=100000:=by
 unfold lS at h;cases b:mS t with
 |bad c a=>rw[b]at h;cases h
 |ok l=>
  rw[b]at h;simp only at h;have f:=wZ b;have d:=Di (N:=(t.length:Nat)) (off:=0) b (oU _) (by omega);have i:=FM b;have e:Gd (t.length:Nat) ⟨l,0,0,0,false,[],[]⟩ 24:=⟨⟨d,iO.2 d.ne,by omega⟩,by omega,f.1,Dh b,by unfold Syn.phi;simp only[aD,dZ];omega,rfl⟩;cases ex:wR (l.length+1) (hY ⟨l,0,0,0,false,[],[]⟩) []with
  |err c a=>rw[ex]at h;cases h
  |ok top s'=>
   rw[ex]at h;injection h with h
   subst h;have g:=congrArg List.length (nS e.ws).1.toks;obtain⟨a1,a2,a3⟩:=KX (tl:=l.length) _ _ _ _ _ e.lines (cZ _) (by rw[g]) ex;exact⟨a1,a2,by show top.length<=_;omega⟩
end
section
open Go Go.Eng Go.RowKit Go.Syn Go.Lex Go.Cfg
structure Nh(m:Md):Prop where
 v:m.vars.length<=100000
 l:m.locs.length<=10000000000
 o:m.outs.length<=100000
 r:m.res.length<=100000
 c:m.calls.length<=100000
def aD3:Nh As:=⟨cZ _,cZ _,cZ _,cZ _,cZ _⟩
def Jp:∀(l:List Nat) (n:Nat) (s s':MS),BdS s n->(∀k,(iY s.m.fl k).attrs.length<=100000)->kX l s=.ok s'->BdS s' (n+l.length)
 |[],n,s,s',h,_,e=>by
  simp only[kX]at e
  injection e with e
  subst e;exact h
 |k::l,n,s,s',h,d,e=>by
  simp only[kX]at e
  cases b:blockMc s (iY s.m.fl k)with
  |bad c a=>rw[b]at e;cases e
  |ok s1=>
   rw[b]at e
   obtain⟨g,f,i⟩:=MU h (d k) b
   have:=Jp l (n+1) s1 s' g (by rw[f];exact d) e
   rw[aA,show n+(l.length+1)=n+1+l.length by omega]
   exact this
def Jr{t:Str}{fl:Fl}(h:lS t=.ok fl)(k:Nat):(iY fl k).attrs.length<=100000:=by
 by_cases a:k<fl.bl.length
 .have b:=Bl h (BX h);exact((b.fa ⟨.slice none 0 0,.slice none 0 0,.slice none 0 0,[],[]⟩).fa k a)
 .unfold iY;rw[aM,dY (by omega)];exact cZ _
def Qs(ld:Str->List Md->RL (List Md)):Prop:=∀dir mods mods',(∀m∈mods,Nh m)->ld dir mods=.ok mods'->∀m∈mods',Nh m
def Jl{sub:Option (Str->List Md->RL (List Md))}(d:∀ld,sub=some ld->Qs ld)(path dir:Str):∀(l:List (Cl×Str)) (done:List Cl) (mods:List Md) (cs:List Cl) (mods':List Md),(∀m∈mods,Nh m)->lX sub path dir l done mods=.ok (cs,mods')->(∀m∈mods',Nh m)/\cs.length=done.length+l.length
 |[],done,mods,cs,mods',b,e=>by
  simp only[lX]at e
  injection e with e
  simp only[gA]at e
  obtain⟨rfl,rfl⟩:=e
  exact⟨b,by simp⟩
 |(x,src)::l,done,mods,cs,mods',b,e=>by
  simp only[lX]at e
  cases sub with
  |none=>cases e
  |some ld=>
   simp only at e
   split at e
   .cases e
   cases c:ld (dir++src++[47]) mods with
   |bad k p a=>rw[c]at e;cases e
   |ok m1=>
    rw[c]at e
    simp only at e
    split at e
    .cases e
    split at e
    .cases e
    obtain⟨g1,g2⟩:=Jl d path dir l _ _ cs mods' (d ld rfl _ _ _ b c) e
    refine⟨g1,?_⟩
    rw[g2];simp;omega
def Ut{rd:Str->Option Str}:∀n,Qs (tN rd n):=by
 have step:∀sub:Option (Str->List Md->RL (List Md)),(∀ld,sub=some ld->Qs ld)->Qs (tM rd sub):=by
  intro sub d dir mods mods' f e;unfold tM at e;split at e
  .cases e
  split at e
  .cases e
  rename_i fl c;split at e
  .cases e
  rename_i s i;split at e
  .cases e
  rename_i cs m1 g;injection e with e
  subst e;have a:=BX c;have b:=Jp _ 0 _ _ ⟨aQ _,cZ _,aQ _,aQ _,aQ _,aQ _⟩ (Jr c) i;rw[aN]at b;obtain⟨p,b2,o,b4,b5,l⟩:=b;obtain⟨g1,g2⟩:=Jl d _ _ _ _ _ _ _ (λm h=>(bM.1 h).elim (f m) λh=>by rw[bO.1 h];exact aD3) g;have k:(s.m.calls.zip s.src).length<=s.m.calls.length:=by rw[FF];omega
  have j:fl.top.length*100000<=100000*100000:=dU _ a.2.2;intro m h;rcases sJ h with h|rfl
  .exact g1 m h
  .exact⟨by show s.m.vars.length<=_;omega,by show s.m.locs.length<=_;omega,by show s.m.outs.length<=_;omega,by show s.m.res.length<=_;omega,by show cs.length<=_;rw[g2];simp only[aD];omega⟩
 intro n;induction n with
 |zero=>exact step none λ_ h=>by cases h
 |succ n ih=>exact step _ λld h=>by cases h;exact ih
structure NmS(m:Md):Prop where
 v:∀x∈m.vars,x.n.length<=1000000
 l:∀x∈m.locs,x.n.length<=1000000
 o:∀x∈m.outs,x.n.length<=1000000
 r:∀x∈m.res,x.n.length<=1000000/\x.ty.length<=1000000
 c:∀x∈m.calls,x.n.length<=1000000
def aDF:NmS As:=⟨by simp[As],by simp[As],by simp[As],by simp[As],by simp[As]⟩
def sE{p:α->Prop}{l:List α}{x:α}(h:∀y∈l,p y)(b:p x):∀y∈l++[x],p y:=λy a=>(bM.1 a).elim (h y) λa=>by rw[bO.1 a];exact b
def ShB(b:Blk):Prop:=(∀s∈b.labels,s.length<=1000000)/\∀a∈b.attrs,a.n.length<=1000000
def ShB.lab{b:Blk}(h:ShB b)(i:Nat):(b.labels.getD i []).length<=1000000:=by
 rw[aM];cases a:b.labels[i]? with
 |none=>exact cZ _
 |some x=>exact h.1 x (bA a)
def Fc{t:Str}{fl:Fl}(h:lS t=.ok fl)(k:Nat):ShB (iY fl k):=by
 obtain⟨_,f,_⟩:=Bj h;unfold iY;rw[aM];cases e:fl.bl[k]? with
 |none=>exact⟨by simp,by simp⟩
 |some b=>
  have c:=f b (bA e);exact⟨λs d=>by have:=(c.lb s d).2;show s.length<=_;omega,λa g=>by have:=(c.at_ a g).2.2;show a.n.length<=_;omega⟩
theorem VC{s s':MS}{b:Blk}(h:NmS s.m)(f:ShB b)(e:blockMc s b=.ok s'):NmS s'.m/\s'.m.fl=s.m.fl:=by
 unfold blockMc at e;split at e
 .cases e
 split at e
 .unfold oJ at e;obtain⟨_,_,e⟩:=bind_ok e;obtain⟨_,_,e⟩:=bind_ok e;split at e
  .cases e
  .injection e with e;subst e;exact⟨⟨sE h.v (f.lab 0),h.l,h.o,h.r,h.c⟩,rfl⟩
 split at e
 .unfold sP at e;obtain⟨l,i,e⟩:=bind_ok e;obtain⟨_,_,e⟩:=bind_ok e;have p:∀x∈l,x.n.length<=1000000:=by
   refine pW (P:=λl:List Atr=>∀x∈l,x.n.length<=1000000) b.attrs [] s.m.locs l (λl a w j k d=>?_) h.l i;simp only[DC]at d;split at d
   .cases d
   .injection d with d
    subst d;exact sE k (f.2 a j)
  injection e with e;subst e;exact⟨⟨h.v,p,h.o,h.r,h.c⟩,rfl⟩
 split at e
 .unfold sL at e;obtain⟨_,_,e⟩:=bind_ok e;obtain⟨_,_,e⟩:=bind_ok e;split at e
  .cases e
  split at e
  .cases e
  .injection e with e;subst e;exact⟨⟨h.v,h.l,sE h.o (f.lab 0),h.r,h.c⟩,rfl⟩
 split at e
 .unfold oN at e;obtain⟨r,i,e⟩:=bind_ok e;obtain⟨u,q,e⟩:=bind_ok e;have g1:r.ty=b.labels.getD 0 []/\r.n=b.labels.getD 1 []:=by
   refine pW (P:=λx:Rs=>x.ty=b.labels.getD 0 []/\x.n=b.labels.getD 1 []) b.attrs [] _ r (λx a t j g d=>?_) ⟨rfl,rfl⟩ i;simp only[tA]at d;split at d
   .cases d
   split at d
   .obtain⟨rfl,_⟩:=sO d;exact g
   split at d
   .obtain⟨rfl,_⟩:=sO d;exact g
   split at d
   .split at d
    .cases d
    .split at d
     .injection d with d;subst d;exact g
     .cases d
   .obtain⟨rfl,_⟩:=sO d;exact g
  obtain⟨l1,l2,_,_⟩:=GV _ _ _ _ q;split at e
  .cases e
  .injection e with e;subst e
   exact⟨⟨h.v,h.l,h.o,sE h.r ⟨by rw[l2,g1.2];exact f.lab 1,by rw[l1,g1.1];exact f.lab 0⟩,h.c⟩,rfl⟩
 split at e
 .unfold AL at e;obtain⟨r,i,e⟩:=bind_ok e;obtain⟨_,_,e⟩:=bind_ok e;split at e
  .cases e
  split at e
  .cases e
  .injection e with e;subst e;exact⟨⟨h.v,h.l,h.o,h.r,sE h.c (f.lab 0)⟩,rfl⟩
 .injection e with e;subst e;exact⟨h,rfl⟩
def Jo:∀(l:List Nat) (s s':MS),NmS s.m->(∀k,ShB (iY s.m.fl k))->kX l s=.ok s'->NmS s'.m
 |[],s,s',h,_,e=>by
  simp only[kX]at e
  injection e with e
  subst e;exact h
 |k::l,s,s',h,a,e=>by
  simp only[kX]at e
  obtain⟨b,c,e⟩:=bind_ok e
  obtain⟨g1,g2⟩:=VC h (a k) c
  exact Jo l b s' g1 (by rw[g2];exact a) e
def aBD(ld:Str->List Md->RL (List Md)):Prop:=∀dir mods mods',(∀m∈mods,NmS m)->ld dir mods=.ok mods'->∀m∈mods',NmS m
def Jk{sub:Option (Str->List Md->RL (List Md))}(g:∀ld,sub=some ld->aBD ld)(path dir:Str):∀(l:List (Cl×Str)) (done:List Cl) (mods:List Md) (cs:List Cl) (mods':List Md),(∀m∈mods,NmS m)->(∀c∈done,c.n.length<=1000000)->(∀x∈l,x.1.n.length<=1000000)->lX sub path dir l done mods=.ok (cs,mods')->(∀m∈mods',NmS m)/\∀c∈cs,c.n.length<=1000000
 |[],done,mods,cs,mods',b,hd,d,e=>by
  simp only[lX]at e
  injection e with e
  simp only[gA]at e
  obtain⟨rfl,rfl⟩:=e
  exact⟨b,hd⟩
 |(x,src)::l,done,mods,cs,mods',b,hd,d,e=>by
  simp only[lX]at e
  cases sub with
  |none=>cases e
  |some ld=>
   simp only at e
   split at e
   .cases e
   cases f:ld (dir++src++[47]) mods with
   |bad k p a=>rw[f]at e;cases e
   |ok m1=>
    rw[f]at e
    simp only at e
    split at e
    .cases e
    split at e
    .cases e
    exact Jk g path dir l _ _ cs mods' (g ld rfl _ _ _ b f) (sE (x:={x with mod:=mods.length}) hd (d (x,src) (by simp))) (λy h=>d y (aF _ h)) e
def Zd{rd:Str->Option Str}:∀n,aBD (tN rd n):=by
 have step:∀sub:Option (Str->List Md->RL (List Md)),(∀ld,sub=some ld->aBD ld)->aBD (tM rd sub):=by
  intro sub g dir mods mods' j e;unfold tM at e;split at e
  .cases e
  split at e
  .cases e
  rename_i fl i;split at e
  .cases e
  rename_i s p;split at e
  .cases e
  rename_i cs m1 k;injection e with e
  subst e;have d:=Jo _ _ _ (⟨by simp,by simp,by simp,by simp,by simp⟩:NmS ⟨dir,fl,[],[],[],[],[]⟩) (Fc i) p;obtain⟨g1,g2⟩:=Jk g _ _ _ _ _ _ _ (sE j aDF) (by simp) (λx f=>d.c x.1 (by
   have:=List.of_mem_zip (a:=x.1) (b:=x.2) f;exact this.1)) k
  intro m h;rcases sJ h with h|rfl
  .exact g1 m h
  .exact⟨d.v,d.l,d.o,d.r,g2⟩
 intro n;induction n with
 |zero=>exact step none λ_ h=>by cases h
 |succ n ih=>exact step _ λld h=>by cases h;exact ih
end
end Go.Proofs.YtjblfcfdeaagpaaGreatDoor
namespace Go.Proofs.YtjblfcfdeaagpaaGreatDoor.Fx
section
open Go Go.Eng Go.Vfs
def one(p:Str):Option MF->Files
 |some y=>[(p,y)]
 |none=>[]
structure Fs(w0 w:World)(b m:Nat)(s:MS):Prop where
 fs:FsB w b m s
 ok:Ok s
 gb:w0.heap.size<=b
 gm:w0.heap.size<=m
 ext:Ext w0 w
abbrev fp(b:Nat):Value:=.pointer (some ⟨b,0,none⟩)
def Fs.mut{w0:World}{b:Nat}{s s':MS}(h:Fs w0 w b m s)(c:FsB W b m s')(ok:Ok s')(a:Chg (λk=>k=b\/k=m) w W):Fs w0 W b m s':=
 ⟨c,ok,h.gb,h.gm,h.ext.then a λk d e=>by have:=h.gb;have:=h.gm;omega⟩
def Fs.more{w0:World}{b:Nat}{s:MS}(h:Fs w0 w b m s)(a:Ext w W):Fs w0 W b m s:=⟨h.fs.ext a,h.ok,h.gb,h.gm,h.ext.trans a⟩
abbrev M2(b m:Nat):Nat->Prop:=λk=>k=b\/k=m
section
variable{w0 w:World}{b m:Nat}{s:MS}{K:Q0}
def fnew[HX](e:∀b m W,Fs w W b m newM->K (fp b) W):aL P0 47 [] w K:=aDI λb m W h a d c=>e b m W ⟨h,aDD,d,c,a⟩
def fwrite[HX](h:Fs w0 w b m s){p:Str}(c:Byt w T v y)(d:∀W,Fs w0 W b m (writeM s p y false).1->Chg (M2 b m) w W->K (i64 (writeM s p y false).2) W):aL P0 23 [fp b,str p,v] w K:=
 Sw h.fs h.ok c λW e a=>d W (h.mut e (Ub h.ok _ _ _) a) a
def fremove[HX](h:Fs w0 w b m s){p:Str}(c:∀W,Fs w0 W b m (removeM s p).1->Chg (M2 b m) w W->K (i64 (removeM s p).2) W):aL P0 46 [fp b,str p] w K:=
 QS h.fs h.ok λW d a=>c W (h.mut d (Rc h.ok _) a) a
end
def conv_b{l:Str}{K:Value->Prop}(h:Byt w T v l):sF P0 (convert 80 9 v) w K↔K (str l):=Hu (e:=UT) (by kernel_rfl) (by kernel_rfl) (by kernel_rfl) h
def eq_pn(a:Addr)(K:Value->Prop):eqW .ptr false (.pointer (some a)) (.pointer none) K↔K (.bool false):=iR
def ne_pn(a:Addr)(K:Value->Prop):eqW .ptr true (.pointer (some a)) (.pointer none) K↔K (.bool true):=iR
end
end Go.Proofs.YtjblfcfdeaagpaaGreatDoor.Fx
namespace Go.Proofs.YtjblfcfdeaagpaaGreatDoor
section
open Go Go.Eng Go.RowKit Go.Syn Go.Lex Go.Cfg
abbrev LoT:TypeId:=124
def Jb{α:Type}{n:Nat}{f:α->List Value}(h:∀a,(f a).length=n):∀l:List α,(l.flatMap f).length=l.length*n
 |[]=>by simp
 |a::l=>by rw[dC,aB,h,Jb h l,aA,oQ,Nat.one_mul,nX]
def Ja{α:Type}{n:Nat}{f:α->List Value}(h:∀a,(f a).length=n):∀{l:List α} {i:Nat} {x:α},l[i]?=some x->((l.flatMap f).drop (i*n)).take n=f x
 |[],i,x,b=>by simp at b
 |a::l,0,x,b=>by
  simp only[bG,bB]at b
  subst b
  rw[HP,dZ,dC,<-h a,uA]
 |a::l,i+1,x,b=>by
  rw[bI]at b
  rw[dC,oQ,Nat.one_mul,nX,<-jI,<-h a,qB,h a]
  exact Ja h b
def mdC(Ls:List ML)(mods:List Md):List Value:=(Ls.zip mods).flatMap λx=>x.1.cells x.2.dir
def PH{Ls:List ML}{mods:List Md}(h:Ls.length=mods.length):(mdC Ls mods).length=mods.length*9:=by
 unfold mdC;rw[Jb (n:=9) (λ_=>rfl),FF,h,Nat.min_self]
def Gb{Ls:List ML}{mods:List Md}{L:ML}{m:Md}(b:Ls[i]?=some L)(a:mods[i]?=some m):((mdC Ls mods).drop (i*9)).take 9=L.cells m.dir:=by
 unfold mdC;exact Ja (n:=9) (f:=λx:ML×Md=>x.1.cells x.2.dir) (λ_=>rfl) (x:=(L,m)) (by rw[yX];exact⟨b,a⟩)
def YZ{Ls Ls':List ML}{mods mods':List Md}(h:Ls.length=mods.length):mdC (Ls++Ls') (mods++mods')=mdC Ls mods++mdC Ls' mods':=by
 unfold mdC;rw[List.zip_append h,tW]
structure LR(w:World)(B lp fb:Nat)(vM:Value)(Ls:List ML)(mods:List Md):Prop where
 hl:w.heap[lp]?=some (.cells [pA fb,vM].toArray LoT (0,0))
 len:Ls.length=mods.length
 ow:Own w B MdT 9 vM mods.length (mdC Ls mods)
 md:∀(i:Nat) (L:ML) (m:Md),Ls[i]?=some L->mods[i]?=some m->MdR w B L m
 sep:∀L∈Ls,∀k∈ub L.vals,k≠lp/\vM.ownBlock≠some k
 np:vM.ownBlock≠some lp
 lo:B<=lp
section
variable{w w' w1 w2:World}{B lp fb:Nat}{vM:Value}{Ls:List ML}{mods:List Md}
def LR.keep(h:LR w B lp fb vM Ls mods)(a:Chg S w W)(f:¬S lp)(e:∀k,vM.ownBlock=some k->¬S k)(d:∀L∈Ls,∀k∈ub L.vals,¬S k):LR W B lp fb vM Ls mods:=
 ⟨a.at h.hl f,h.len,eJ h.ow a e,λi L m b c=>(h.md i L m b c).keep a (d L (bA b)),h.sep,h.np,h.lo⟩
def LR.ext(h:LR w B lp fb vM Ls mods)(a:Ext w W):LR W B lp fb vM Ls mods:=h.keep a (λe=>e) (λ_ _ e=>e) λ_ _ _ _ e=>e
def LR.in_(h:LR w B lp fb vM Ls mods):∀L∈Ls,∀k∈ub L.vals,k<w.heap.size/\B<=k:=λL d k c=>by
 obtain⟨i,b⟩:=nK d
 have a:=(bJ.1 b).1
 exact(h.md i L _ b (aH (by rw[<-h.len];exact a))).lt k c
def LR.lplt(h:LR w B lp fb vM Ls mods):lp<w.heap.size:=pC h.hl
def Re:ML:=⟨⟨.slice none 0 0,.slice none 0 0,.slice none 0 0,[],[]⟩,.slice none 0 0,.slice none 0 0,.slice none 0 0,.slice none 0 0,.slice none 0 0,[],[]⟩
def sA(w:World)(B:Nat)(e:TypeId)(n:Nat):Own w B e n (.slice none 0 0) 0 []:=⟨by simp,.inl ⟨rfl,rfl⟩⟩
def Kf:ub Re.vals=[]:=rfl
def aDH(w:World)(B:Nat):MdR w B Re As:=
 ⟨Vd w B,sA _ _ _ _,sA _ _ _ _,sA _ _ _ _,sA _ _ _ _,sA _ _ _ _,lV.nil _ _,lV.nil _ _,λk a=>by rw[Kf]at a;cases a⟩
abbrev LT(lp:Nat)(vM:Value):Nat->Prop:=λk=>k=lp\/vM.ownBlock=some k
theorem LR.push[HX]{KW:World->Prop}(h:LR w B lp fb vM Ls mods)(M:B<=w.heap.size)(C:mods.length<=1000000)(I:∀vM' W,LR W B lp fb vM' (Ls++[Re]) (mods++[As])->Chg (LT lp vM) w W->(∀k,vM'.ownBlock=some k->vM.ownBlock=some k\/w.heap.size<=k)->KW W):
  gP MdT 1 (Re.cells []) [(0,9,.agg (Re.cells []).toArray)] w λt96 q=>fV P0 (Builtin.append_ #[58,58] 58 #[vM,t96]) q λt97 p=>stW 1 (.pointer (some ⟨lp,1,none⟩)) t97 p KW:=by
 refine row_one rfl rfl (by omega) λt w1 H d=>?_;have c:=h.ext d;have G:=d.size;refine iV aFI c.ow H rfl (λu z=>by simp only[Re,ML.cells,aX,bU,fT]at z;rcases z with rfl|rfl|rfl|rfl|rfl|rfl|rfl|rfl|rfl<;>rfl) (by omega) (by omega) (by omega) λy w2 D v r=>?_;have s:=v.at c.hl c.np;have F:=v.size;refine lJ s (fO D.sl) (by simp) λo E x j=>?_;have f:∀k,y.ownBlock=some k->k≠lp:=λk a e=>by
  rcases r k a with l|l
  .exact c.np (by rw[<-e];exact l)
  .have:=c.lplt;omega
 have g:Chg (LT lp vM) w1 o:=(v.mono λ_ _ e=>.inr e).trans (j.mono λ_ _ e=>.inl e);refine I y o ⟨by rw[x];simp,by simp[h.len],?_,λi L m b n=>?_,λL b k a=>?_,λe=>f lp e rfl,h.lo⟩ ((Chg.of_ext d).trans g) λk a=>(r k a).imp id (by omega)
 .rw[YZ h.len,aB];exact eJ D j λk a=>f k a
 .by_cases A:i<Ls.length
  .rw[dR A]at b;rw[dR (by rw[<-h.len];exact A)]at n;exact(c.md i L m b n).keep g λk a e=>e.elim (c.sep L (bA b) k a).1 (c.sep L (bA b) k a).2
  .rw[dB (by omega)]at b;rw[dB (by rw[<-h.len];omega)]at n;have K:=bO.1 (bA b);have J:=bO.1 (bA n);subst K J;exact aDH o B
 .rcases bM.1 b with b|b
  .refine⟨(h.sep L b k a).1,λe=>?_⟩;rcases r k e with l|l
   .exact(h.sep L b k a).2 l
   .have:=(h.in_ L b k a).1;omega
  .rw[bO.1 b,Kf]at a;cases a
end
theorem Wr{g off:Nat}{l:List Value}{c:Array Value}{K:World->Prop}(D:w.heap[g]?=some (.cells c T (0,0)))(C:l.length=n)(p:l.all kJ=true)(M:off+n<=c.size)
  (E:∀W c',W.heap[g]?=some (.cells c' T (0,0))->c'.size=c.size->(∀j,j<n->c'[off+j]?=l[j]?)->(∀q,q<off\/off+n<=q->c'[q]?=c[q]?)->Chg (λk=>k=g) w W->W.heap.size=w.heap.size->K W):
  stW n (.pointer (some ⟨g,off,none⟩)) (.agg l.toArray) w K:=by
 rw[JC];refine⟨C,?_⟩;have key:∀(r:List Value) (i:Nat) (b:World) (m:Array Value),i+r.length=n->r.all kJ=true->b.heap[g]?=some (.cells m T (0,0))->m.size=c.size->Chg (λk=>k=g) w b->b.heap.size=w.heap.size->
   (∀W c',W.heap[g]?=some (.cells c' T (0,0))->c'.size=c.size->(∀j,j<r.length->c'[off+i+j]?=r[j]?)->(∀q,q<off+i\/off+n<=q->c'[q]?=m[q]?)->Chg (λk=>k=g) w W->W.heap.size=w.heap.size->K W)->mR ⟨g,off,none⟩ r i b K:=by
  intro r;induction r with
  |nil=>
   intro i b m A _ a e f d h;exact h b m a e (λj s=>by simp at s) (λq _=>rfl) f d
  |cons v r ih=>
   intro i b m A p a e f d h;simp only[Ek,bV]at p;simp only[aA]at A;simp only[mR,bN];refine⟨p.1,by rw[cS,a,bT];simp;omega,by rw[fU,a,gO],?_⟩;refine ih (i+1) _ (m.setIfInBounds (off+i) v) (by omega) p.2 (by rw[qR,a,fW]) (by simp[e]) (f.set (.inl rfl) v) (by simp[d]) λW c' z u x o y t=>?_;refine h W c' z u (λj s=>?_) (λq B=>?_) y t
   .cases j with
    |zero=>
     rw[bL,o (off+i) (.inl (by omega)),bG,Array.getElem?_setIfInBounds_self_of_lt (by omega)]
    |succ j=>
     have:=x j (by simpa using s);rw[bI,<-this];congr 1;omega
   .rw[o q (by omega),CN (by omega)]
 exact key l 0 w c (by omega) p D rfl (Chg.refl _ _) rfl λW c' L J I H G F=>E W c' L J (λj s=>by have:=I j (by omega);rwa[bL]at this) (λq B=>H q (by omega)) G F
theorem YI{B:Nat}{K:World->Prop}(h:Own w B T m v n cs)(x:i<n)(J:0<m)(f:d.length=m)(H:d.all kJ=true)
  (D:∀W,Chg (λk=>v.ownBlock=some k) w W->W.heap.size=w.heap.size->Own W B T m v n (cs.take (i*m)++d++cs.drop (i*m+m))->K W):fX none m v (i64 (i:Nat)) λt=>stW m t (.agg d.toArray) w K:=by
 obtain⟨L,⟨rfl,rfl⟩|⟨g,cap,cur,rfl,C,y,G,F,E,r⟩⟩:=h
 .omega
 have u:i*m+m<=n*m:=by rw[<-sT];exact dU _ x
 have z:cs.length<=cur.size:=by
  have:=congrArg List.length r;rw[cG]at this;have e:cur.toList.length=cur.size:=rfl;omega
 rw[fI];refine⟨by omega,by omega,?_⟩;rw[bN,bD,aN];refine Wr y f H (by omega) λW I l b p o A s=>?_;have a:∀j,j<cs.length->cur[j]?=cs[j]?:=λj p=>by
  rw[<-r,gB (by omega)];simp
 refine D W (A.mono λk _ e=>by have e:k=g:=e;rw[e];rfl) s ⟨?_,.inr ⟨g,cap,I,rfl,C,l,G,F,by rw[b];exact E,?_⟩⟩
 .rw[aB,aB,cG,aW,f];omega
 .apply Cp;intro j;by_cases c:j<n*m
  .rw[gB c,Array.getElem?_toList];by_cases q:j<i*m
   .rw[cD,dR (by rw[cG];omega),gB q,o j (.inl q),a j (by omega)]
   .by_cases M:j<i*m+m
    .rw[cD,dB (by rw[cG];omega),cG,dR (by omega)];have:=p (j-i*m) (by omega);rw[show i*m+(j-i*m)=j by omega]at this;rw[this];congr 1;omega
    .rw[dB (by rw[aB,cG];omega),aB,cG,iF,o j (.inr (by omega)),a j (by omega)];congr 1;omega
  .rw[dY (by rw[cG];omega),dY (by rw[aB,aB,cG,aW,f];omega)]
def Ka{g o B:Nat}{u:Value}{K:Value->Prop}(h:Own w B T m (.slice (some ⟨g,0,none⟩) n i) n cs)(a:cs[o]?=some u)(p:K u):ldW false 1 (.pointer (some ⟨g,o,none⟩)) w K:=by
 obtain⟨q,c,e,x,v,r⟩:=h.sl;have f:cs≠[]:=λe=>by rw[e]at a;simp at a
 obtain⟨b,off,cc,fr,k,l,j⟩:=r f;injection e with d z y
 rw[k]at d;injection d with d
 injection d with t s
 subst t;rw[fB];refine⟨u,?_,p⟩;rw[cS,l,bT];have:=j o (bJ.1 a).1;rw[<-s,aN]at this;rw[this];exact a
def IZ{α:Type}{n:Nat}{f:α->List Value}(h:∀a,(f a).length=n):∀{l:List α} {i:Nat} {x:α},i<l.length->(l.set i x).flatMap f=(l.flatMap f).take (i*n)++f x++(l.flatMap f).drop (i*n+n)
 |[],i,x,b=>by simp at b
 |a::l,0,x,_=>by
  rw[aP,dC,dC,HP,rU,aN,dS,<-h a,qB]
 |a::l,i+1,x,b=>by
  rw[aU,dC,dC,IZ h (by simpa using b),oQ,Nat.one_mul]
  have c:=h a
  have d:(f a).take (i*n+n)=f a:=iD (by omega)
  rw[List.take_append,Ei,c,d,lG (by omega:(f a).length<=i*n+n+n),dS]
  rw[show i*n+n-n=i*n by omega,show i*n+n+n-n=i*n+n by omega]
  simp
def OO{α β:Type}:∀(l:List α) (m:List β) (i:Nat) (x:α) (y:β),(l.set i x).zip (m.set i y)=(l.zip m).set i (x,y)
 |[],_,_,_,_=>by simp
 |_::_,[],_,_,_=>by simp
 |a::l,b::m,0,x,y=>by simp
 |a::l,b::m,i+1,x,y=>by simp[OO l m i x y]
theorem LR.store[HX]{B:Nat}{Ls:List ML}{mods:List Md}{L:ML}{m:Md}{KW:World->Prop}(h:LR w B p q v Ls mods)(g:i<mods.length)(u:MdR w B L m)(o:∀k∈ub L.vals,k≠p/\v.ownBlock≠some k)(A:(L.cells m.dir).all kJ=true)
  (z:∀W,LR W B p q v (Ls.set i L) (mods.set i m)->Chg (LT p v) w W->KW W):fX none 9 v (i64 (i:Nat)) λt=>stW 9 t (.agg (L.cells m.dir).toArray) w KW:=by
 refine YI h.ow g (by omega) rfl A λW l C y=>?_;refine z W ⟨l.at h.hl h.np,by rw[mB,mB];exact h.len,?_,λj L' m' a b=>?_,λL' a k d=>?_,h.np,h.lo⟩ (l.mono λ_ _ e=>.inr e)
 .rw[mB];have:mdC (Ls.set i L) (mods.set i m)=(mdC Ls mods).take (i*9)++L.cells m.dir++(mdC Ls mods).drop (i*9+9):=by
   unfold mdC;rw[OO];exact IZ (n:=9) (f:=λx:ML×Md=>x.1.cells x.2.dir) (λ_=>rfl) (x:=(L,m)) (by rw[FF,h.len,Nat.min_self];exact g)
  rw[this];exact y
 .have keep:∀{L' m'},MdR w B L' m'->(∀k∈ub L'.vals,k≠p/\v.ownBlock≠some k)->MdR W B L' m':=λr s=>r.keep l λk d e=>(s k d).2 e;by_cases c:i=j
  .subst c;rw[oD (by rw[h.len];exact g)]at a;rw[oD g]at b;injection a with a
   injection b with b
   subst a b;exact keep u o
  .rw[EU c]at a b;exact keep (h.md j L' m' a b) (h.sep L' (bA a))
 .rcases sJ a with a|rfl
  .exact h.sep L' a k d
  .exact o k d
def QN{R:α->List Value->Prop}{xs:List α}{c:List Value}{f:α}(h:lV R n xs c)(g:i<xs.length)(k:j<n)(b:R f (((c.drop (i*n)).take n).set j v)):lV R n (xs.set i f) (c.set (i*n+j) v):=by
 refine⟨by rw[mB,mB];exact h.1,λq y a=>?_⟩;by_cases d:i=q
 .subst d;rw[oD g]at a;injection a with a
  subst a;have:((c.set (i*n+j) v).drop (i*n)).take n=((c.drop (i*n)).take n).set j v:=by
   rw[List.drop_set,aE (by omega),List.take_set,show i*n+j-i*n=j by omega]
  rw[this];exact b
 .rw[EU d]at a;have:((c.set (i*n+j) v).drop (q*n)).take n=(c.drop (q*n)).take n:=by
   rcases Nat.lt_or_gt_of_ne d with e|e
   .have:(i+1)*n<=q*n:=dU _ e;rw[oQ,Nat.one_mul]at this;rw[List.drop_set_of_lt (by omega)]
   .have:(q+1)*n<=i*n:=dU _ e;rw[oQ,Nat.one_mul]at this;rw[List.drop_set,aE (by omega),List.take_set_of_le (by omega)]
  rw[this];exact h.2 q y a
theorem Pf{a:Nat}{T:TypeId}:∀(new b pre post:List Value) (o i:Nat) {w:World} {K:World->Prop},w.heap[a]?=some (.cells (pre++b++post).toArray T (0,0))->o+i=pre.length->b.length=new.length->(∀v∈new,kJ v=true)->
  (∀W,W.heap.size=w.heap.size->W.heap[a]?=some (.cells (pre++new++post).toArray T (0,0))->Chg (λk=>k=a) w W->K W)->mR ⟨a,o,none⟩ new i w K
 |[],b,pre,post,o,i,w,K,d,_,c,_,g=>by
  have:b=[]:=cW c
  subst this
  exact g w rfl d (Chg.refl _ _)
 |v::r,[],pre,post,o,i,w,K,d,m,c,l,g=>by simp at c
 |v::r,u::b,pre,post,o,i,w,K,d,m,c,l,g=>by
  have f:(⟨a,o,none⟩:Addr).add i=⟨a,pre.length,none⟩:=by rw[bN,m]
  simp only[aA,Nat.add_right_cancel_iff]at c
  simp only[mR,f]
  refine⟨l v bC,?_,?_,?_⟩
  .rw[cS,d,bT];simp
  .rw[fU,d,gO]
  .have e:(pre++(u::b)++post).set pre.length v=(pre++[v])++b++post:=by
    rw[cD,CO _ _ (aQ _)];simp
   have j:(w.setCell ⟨a,pre.length,none⟩ v).heap[a]?=some (.cells ((pre++[v])++b++post).toArray T (0,0)):=by
    rw[qR,d,fW,<-e];simp
   refine Pf r b (pre++[v]) post o (i+1) j (by rw[aB,List.length_singleton];omega) c (λx p=>l x (aF _ p)) λW n h q=>?_;refine g W (by rw[n];simp) ?_ ((Chg.set (S:=λk=>k=a) (Chg.refl _ _) (.inl rfl) _).trans q);rw[h];simp
def Wt{a o:Nat}{new old pre post:List Value}{K:World->Prop}(d:w.heap[a]?=some (.cells (pre++old++post).toArray T (0,0)))(g:o=pre.length)(c:new.length=n)(h:old.length=n)(f:new.all kJ=true)
  (e:∀W,W.heap.size=w.heap.size->W.heap[a]?=some (.cells (pre++new++post).toArray T (0,0))->Chg (λk=>k=a) w W->K W):stW n (.pointer (some ⟨a,o,none⟩)) (.agg new.toArray) w K:=by
 rw[JC];exact⟨c,Pf new old pre post o 0 d (by omega) (by omega) (λv b=>jB.1 f v b) e⟩
def wT(h:TabI w)(c:Ext w W):TabI W:=by
 obtain⟨m,a⟩:=h;refine⟨m,?_⟩;rw[cS]at a⊢;cases b:w.heap[0]? with
 |none=>rw[b]at a;cases a
 |some x=>rw[b]at a;rw[c.at b id];exact a
def rdF(fs:Vfs.MS)(p:Str):Option Str:=(Vfs.lkM fs.files p).map (·.data)
section
variable [HX]
def LdC(b:World)(fb:Nat)(fs:Vfs.MS)(d:Nat)(ld:Str->List Md->RL (List Md)):Prop:=
 ∀(dir:Str) (mods:List Md) (w:World) (lp:Nat) (vM:Value) (Ls:List ML) (K:Q0),Ext b w->LR w b.heap.size lp fb vM Ls mods->dir.length<=1000+40*d->mods.length<=15->
  (∀mods' Ls' vM' w',ld dir mods=.ok mods'->LR w' b.heap.size lp fb vM' Ls' mods'->Chg (LT lp vM) w w'->(∀k,vM'.ownBlock=some k->vM.ownBlock=some k\/w.heap.size<=k)->(∀L'∈Ls',∀k∈ub L'.vals,(∃L0∈Ls,k∈ub L0.vals)\/w.heap.size<=k)->K (i64 (mods.length:Nat)) w')->
  (∀c p a,ld dir mods=.bad c p a->TC b p c a)->aL P0 51 [pA lp,str dir,i64 (d:Nat)] w K
def TC.low{w0:World}{path:Str}{c:Int}(h:TC w path c a)(e:Ext w w0):TC w0 path c a:=λd W b g f=>h d W (e.trans b) (by have:=e.size;omega) f
def Ky{M:Lay}:ub (ML.vals ⟨M,.slice none 0 0,.slice none 0 0,.slice none 0 0,.slice none 0 0,.slice none 0 0,[],[]⟩)=ub ([M.vE,M.vB,M.vT]++(M.cE++M.cB)):=by
 unfold ML.vals;rw[qE];exact dL _
end
section
variable [HX]
def Ve{path:Str}{c:Int}(f:w.heap[p]?=some (.cells cs.toArray MoT (0,0)))(h:cs[9]?=some (str path))(e:TC w path c a):aL P0 94 [pA p,i64 c,i64 a] w K:=by
 refine VQ ?_;unfold W94;rw[dJ,bH,bN,aN,fB];refine⟨str path,by rw[cS,f,bT];simpa using h,?_⟩;simp only[eG,eP,dW,aA,aD,aP,aU];refine⟨by omega,by omega,by omega,?_⟩;refine gF (z:=[i64 c,str path,i64 a]) λd W j i g b=>?_;exact e d W b (by omega) g
def OK{vars:List Vr}{a:Atr}{l:List Atr}:BF vars (a::l)=if vars.any (λv=>decide (v.n=a.n))=true then BF vars l else some a.a:=rfl
theorem ZJ{vars:List Vr}{args:List Atr}{T ta:Value}{path:Str}{K:World->Prop}(hv:SlAt w VrT T vars.length (vrs vars))(V:SlAt w AtT ta args.length (lP args))(he:vars.length<=9223372036854775807)(hh:args.length<=9223372036854775807)
  (hp:w.heap[p]?=some (.cells cs.toArray MoT (0,0)))(h9:cs[9]?=some (str path))(z:∀a,BF vars args=some a->TC w path 80 a)(hK:BF vars args=none->∀W,Ext w W->K W):
  iL ta λt164=>eK [(.int .i64 0)] w λs _ r S=>
   aS .lss (s.getD 0 undef) t164 λt166=>
   bE t166 (
    dE (λB=>
     fX none 3 ta (s.getD 0 undef) λt167=>
     ldW true 3 t167 r λt168=>
     eD AtT [(.string (ofL [])),(.int .i64 0),(.int .i64 0)] r λt19 G=>
     stW 3 t19 t168 G λF=>
     aL P0 96 [T,(.func (.func 97) #[] #[t19])] F λt171 o=>
     unW .not t171 λt172=>
     bE t172 (
      bF 2 t19 λt174=>
      ldW false 1 t174 o λt175=>
      aL P0 94 [pA p,(.int .i64 80),t175] o λt176 E=>
      B [] E) (
      B [] o))
    λZ _ D=>
    aS .add (s.getD 0 undef) (.int .i64 1) λt177=>
    S [t177] D) (K r):=by
 rw[gQ V];refine Cb args.length (λi W=>Ext w W/\BF vars (args.drop i)=BF vars args) ⟨Chg.refl _ _,rfl⟩ ?_ ?_
 .rintro i w2 g L C ⟨j,f⟩ hL;obtain⟨x,k⟩:∃x,args[i]?=some x:=⟨_,aH C⟩;have M:((i:Int)<(args.length:Int)):=by omega
  simp only[wsv,wsg,wsh,wsl,aV,aR,aJ,lC,Nat.reduceAdd,Nat.reduceLT,cM,aZ,dO,dA,cY,reduceCtorEq,M];have N:args.drop i=x::args.drop (i+1):=by
   rw[eW C];rw[aH C]at k;injection k with k
   rw[k]
  rw[N,OK]at f;refine dE.cut (λst W=>st=[]/\Ext w2 W/\vars.any (λv=>decide (v.n=x.n))=true) ?_ ?_
  .refine qV (V.ext j) (zW args) (by omega) C ?_;have e:((lP args).drop (i*3)).take 3=[str x.n,i64 (x.e:Nat),i64 x.a]:=Ef k;rw[e];refine cO λb w3 hb hz Q J=>?_;refine dH (l:=[str x.n,i64 (x.e:Nat),i64 x.a]) Q rfl rfl rfl λY hd m O=>?_;have u:Ext w2 Y:=J.new O (by omega);refine Fv (l:=vars) (q:=λv=>decide (v.n=x.n)) (hv.ext (j.trans u)) (by omega) (λy hy c P {w8 K8} I R=>iM (caps:=[pA b]) ?_) λw7 t=>?_
   .have P:c=[str y.n,i64 y.d,i64 y.a]:=P;subst P;refine aEf ?_;unfold W97;exact uI (I.at m id) R
   .rw[gK,fC];refine⟨λh=>?_,λh=>⟨by trivial,u.trans t,by simpa using h⟩⟩;have h:vars.any (λv=>decide (v.n=x.n))=false:=by simpa using h
    rw[aE (by rw[h];decide)]at f;simp only[bH,bN,aN];refine ldb (t.at m id) (v:=i64 x.a) rfl ?_;have U:=j.trans (u.trans t);exact Ve (U.at hp id) h9 ((z x.a f.symm).low U)
  rintro st g2 X ⟨rfl,H,A⟩;rw[aO A]at f;rw[up1 (by omega)];exact hL X ⟨j.trans H,f⟩
 .rintro w2 g L ⟨j,f⟩;simp only[wsv,wsg,wsh,wsl,aV,aR,aJ,lC,Nat.reduceAdd,Nat.reduceLT,cM,aZ,dO,dA,cY,reduceCtorEq,El];rw[iH]at f;exact hK f.symm w2 j
theorem aDQ{vars:List Vr}{args:List Atr}{Q ta:Value}{g o:Nat}{gc:Array Value}{path:Str}{K:World->Prop}(hv:SlAt w VrT Q vars.length (vrs vars))(ha:SlAt w AtT ta args.length (lP args))(xd:vars.length<=9223372036854775807)(xg:args.length<=9223372036854775807)
  (hp:w.heap[p]?=some (.cells cs.toArray MoT (0,0)))(h9:cs[9]?=some (str path))(hg:w.heap[g]?=some (.cells gc T (0,0)))(he:gc[o+2]?=some ta)(hd:gc[o+3]?=some (i64 a))(F:Bq args vars=true->TC w path 110 a)(hK:Bq args vars=false->∀W,Ext w W->K W):
  iL Q λt179=>eK [(.int .i64 0)] w λC _ B hn=>
   aS .lss (C.getD 0 undef) t179 λt181=>
   bE t181 (
    dE (λH=>
     fX none 3 Q (C.getD 0 undef) λt182=>
     ldW true 3 t182 B λt183=>
     eD VrT [(.string (ofL [])),(.int .i64 0),(.int .i64 0)] B λt21 P=>
     stW 3 t21 t183 P λs=>
     bF 1 t21 λt184=>
     ldW false 1 t184 s λt185=>
     aS .lss t185 (.int .i64 0) λt186=>
     GdW (isB t186 true) [undef] s (λho=>
      fA (.pointer (some ⟨g,o,none⟩)) λt189=>
      bF 2 t189 λt190=>
      ldW false 1 t190 s λt191=>
      aL P0 98 [t191,(.func (.func 99) #[] #[t21])] s λt193 O=>
      unW .not t193 λt194=>
      ho [t194] O)
     λR _ A=>
     fN t186 (R.getD 0 undef) (.bool false) λt195=>
     bE t195 (
      fA (.pointer (some ⟨g,o,none⟩)) λt198=>
      bF 3 t198 λt199=>
      ldW false 1 t199 A λt200=>
      aL P0 94 [pA p,(.int .i64 110),t200] A λt201 N=>
      H [] N) (
      H [] A))
    λxb _ M=>
    aS .add (C.getD 0 undef) (.int .i64 1) λt202=>
    hn [t202] M) (K B):=by
 have D:∀{W:World} {j:Nat} {u:Value} {K:Value->Prop},W.heap[g]?=some (.cells gc T (0,0))->gc[o+j]?=some u->K u->ldW false 1 (.pointer (some ⟨g,o+j,none⟩)) W K:=λhb hu hK=>by
  rw[fB];exact⟨_,by rw[cS,hb,bT];exact hu,hK⟩
 rw[gQ hv];refine Cb vars.length (λi W=>Ext w W/\Bq args (vars.drop i)=Bq args vars) ⟨Chg.refl _ _,rfl⟩ ?_ ?_
 .rintro i w2 gg L I ⟨m,f⟩ hL;obtain⟨x,k⟩:∃x,vars[i]?=some x:=⟨_,aH I⟩;have Y:((i:Int)<(vars.length:Int)):=by omega
  simp only[wsv,wsg,wsh,wsl,aV,aR,aJ,lC,Nat.reduceAdd,Nat.reduceLT,cM,aZ,dO,dA,cY,reduceCtorEq,Y];have hf:vars.drop i=x::vars.drop (i+1):=by
   rw[eW I];rw[aH I]at k;injection k with k
   rw[k]
  have Z:Bq args (x::vars.drop (i+1))=((decide (x.d<0)&&!args.any (λa=>decide (a.n=x.n)))||Bq args (vars.drop (i+1))):=by simp only[Bq,List.any_cons]
  rw[hf,Z]at f;refine dE.cut (λst W=>st=[]/\Ext w2 W/\(decide (x.d<0)&&!args.any (λa=>decide (a.n=x.n)))=false) ?_ ?_
  .refine qV (hv.ext m) (OT vars) (by omega) I ?_;have e:((vrs vars).drop (i*3)).take 3=[str x.n,i64 x.d,i64 x.a]:=OS k;rw[e];refine cO λb w3 hb hz hk V=>?_;refine dH (l:=[str x.n,i64 x.d,i64 x.a]) hk rfl rfl rfl λw4 xc z hh=>?_;have E:Ext w2 w4:=V.new hh (by omega);have r:=m.trans E;simp only[dJ,bH,bN,aN];refine ldb z (v:=i64 x.d) rfl ?_;rw[eC,gX];refine GdW.act (!args.any (λa=>decide (a.n=x.n))) (λW=>Ext w4 W) (λ_=>Chg.refl _ _) (λ_ J hJ=>?_) λg2 w7 t=>?_
   .refine D (r.at hg id) he ?_;refine yG (l:=args) (q:=λa=>decide (a.n=x.n)) (ha.ext r) (by omega) (λy hy c hc {w8 K8} U hl=>iM (caps:=[pA b]) ?_) λw7 t=>?_
    .have hc:c=[str y.n,i64 (y.e:Nat),i64 y.a]:=hc;subst hc;refine aEd ?_;unfold W99;exact uI (U.at z id) hl
    .rw[gK];exact hJ w7 t
   .simp only[aG];rw[gM,fC];refine⟨λh=>?_,λh=>⟨by trivial,E.trans t,h⟩⟩;have X:=r.trans t;refine D (X.at hg id) hd ?_;rw[h,eQ]at f;exact Ve (X.at hp id) h9 ((F f.symm).low X)
  rintro st g2 w9 ⟨rfl,S,G⟩;rw[G,dK]at f;rw[up1 (by omega)];exact hL w9 ⟨m.trans S,f⟩
 .rintro w2 g L ⟨m,f⟩;simp only[wsv,wsg,wsh,wsl,aV,aR,aJ,lC,Nat.reduceAdd,Nat.reduceLT,cM,aZ,dO,dA,cY,reduceCtorEq,El];rw[iH]at f;exact hK f.symm w2 m
end
def Dt{B m:Nat}(h:Own w B T m v n cs)(c:0<n):
  ∃g cap cur,v=.slice (some ⟨g,0,none⟩) n cap/\w.heap[g]?=some (.cells cur T (0,0))/\∀j,j<cs.length->cur[j]?=cs[j]?:=by
 obtain⟨d,⟨rfl,rfl⟩|⟨g,cap,cur,rfl,f,a,l,k,i,b⟩⟩:=h
 .omega
 refine⟨g,cap,cur,rfl,a,λj e=>?_⟩;rw[<-b,gB (by omega)];simp
def YJ{B g:Nat}{m o:Nat}{x:Value}{K:World->Prop}(h:Own w B T m (.slice (some ⟨g,0,none⟩) n i) n cs)(v:o<cs.length)(u:kJ x=true)
  (q:∀W,Chg (One g) w W->W.heap.size=w.heap.size->Own W B T m (.slice (some ⟨g,0,none⟩) n i) n (cs.set o x)->K W):stW 1 (.pointer (some ⟨g,o,none⟩)) x w K:=by
 obtain⟨f,⟨e,_⟩|⟨y,c,cur,e,p,j,t,s,r,b⟩⟩:=h
 .cases e
 simp only[Value.slice.injEq,bB,Addr.mk.injEq,fQ,dQ]at e;obtain⟨rfl,rfl⟩:=e;have k:cs.length<=cur.size:=by
  have:=congrArg List.length b;rw[cG]at this;have e:cur.toList.length=cur.size:=rfl;omega
 refine lJ j u (by omega) λW d a l=>q W l d ?_;refine⟨by rw[mB];exact f,.inr ⟨g,i,_,rfl,p,a,t,s,?_,?_⟩⟩
 .rw[Array.size_setIfInBounds];exact r
 .rw[Array.toList_setIfInBounds,<-b,List.take_set]
def OU:∀(c:List Value) (j:Nat) {u v:Value},c[j]?=some u->u.ownBlock=none->v.ownBlock=none->ub (c.set j v)=ub c
 |[],_,_,_,h,_,_=>by simp at h
 |a::c,0,u,v,h,d,b=>by
  simp only[bG,bB]at h
  subst h
  rw[aP]
  unfold ub
  rw[gT,gT,d,b]
 |a::c,j+1,u,v,h,d,b=>by
  rw[bI]at h
  have e:=OU c j h d b
  rw[aU]
  unfold ub at e⊢
  rw[gT,gT,e]
section
variable [HX]
structure CP(B0:Nat)(w w':World)(p lp fb:Nat)(vM vM':Value)(Ls Ls':List ML)(mods':List Md)(L:ML)(vS:Value)(path:Str)(m:Md)(src:List Str):Prop where
 pm:w'.heap[p]?=some (.cells (L.cells m.dir++[str path,vS]).toArray MoT (0,0))
 md:MdR w' w.heap.size L m
 oS:Own w' w.heap.size StT 1 vS src.length (strs src)
 nd:(usM p L vS).Nodup
 lo:w.heap.size<=p
 lr:LR w' B0 lp fb vM' Ls' mods'
 cg:Chg (LT lp vM) w w'
 nw:∀k,vM'.ownBlock=some k->vM.ownBlock=some k\/w.heap.size<=k
 vn:∀k∈usM p L vS,k≠lp/\vM'.ownBlock≠some k/\∀L'∈Ls',k∉ub L'.vals
 ls:∀L'∈Ls',∀k∈ub L'.vals,(∃L0∈Ls,k∈ub L0.vals)\/w.heap.size<=k
section
variable{B0:Nat}{w w' w'':World}{p lp fb:Nat}{vM vM' vM'':Value}{Ls Ls' Ls'':List ML}{mods mods' mods'':List Md}{L:ML}{vS:Value}{path:Str}{m:Md}{src:List Str}
def CP.in_(h:CP B0 w W p lp fb vM vM' Ls Ls' mods' L vS path m src):∀k∈usM p L vS,k<W.heap.size/\w.heap.size<=k:=by
 intro k a;unfold usM at a;rcases aX.1 a with rfl|a
 .exact⟨pC h.pm,h.lo⟩
 rcases bM.1 a with a|a
 .exact lK h.oS (kM.1 a)
 .exact h.md.lt k a
def CP.child(h:CP B0 w W p lp fb vM vM' Ls Ls' mods' L vS path m src)(l:LR w'' B0 lp fb vM'' Ls'' mods'')(b:Chg (LT lp vM') W w'')(j:∀k,vM''.ownBlock=some k->vM'.ownBlock=some k\/W.heap.size<=k)
  (i:∀L'∈Ls'',∀k∈ub L'.vals,(∃L0∈Ls',k∈ub L0.vals)\/W.heap.size<=k):CP B0 w w'' p lp fb vM vM'' Ls Ls'' mods'' L vS path m src:=by
 have c:∀k∈usM p L vS,¬LT lp vM' k:=λk a e=>e.elim (h.vn k a).1 (h.vn k a).2.1;have n:=h.cg.size;have d:∀k∈ub L.vals,k∈usM p L vS:=λk a=>by simp[usM,a]
 refine⟨b.at h.pm (c p (by simp[usM])),h.md.keep b λk a=>c k (d k a),eJ h.oS b λk a=>c k (by simp[usM,kM.2 a]),h.nd,h.lo,l,h.cg.then b λk a e=>?_,λk a=>?_,λk a=>⟨(h.vn k a).1,λe=>?_,λL' f e=>?_⟩,λL' f k a=>?_⟩
 .rcases e with e|e
  .exact .inl e
  .exact .inr ((h.nw k e).resolve_right (by omega))
 .rcases j k a with e|e
  .exact h.nw k e
  .exact .inr (by omega)
 .rcases j k e with e|e
  .exact(h.vn k a).2.1 e
  .have:=(h.in_ k a).1;omega
 .rcases i L' f k e with⟨L0,g,e⟩|e
  .exact(h.vn k a).2.2 L0 g e
  .have:=(h.in_ k a).1;omega
 .rcases i L' f k a with⟨L0,g,e⟩|e
  .exact h.ls L0 g k e
  .exact .inr (by omega)
def CP.ext(h:CP B0 w W p lp fb vM vM' Ls Ls' mods' L vS path m src)(a:Ext W w''):CP B0 w w'' p lp fb vM vM' Ls Ls' mods' L vS path m src:=
 h.child (h.lr.ext a) (Chg.of_ext a) (λ_ e=>.inl e) λL' c _ b=>.inl ⟨L',c,b⟩
def CP.of[FK]{s:MS}(h:MR w W p L vS path s)(b:LR w B0 lp fb vM Ls mods)(d:B0<=w.heap.size):CP B0 w W p lp fb vM vM Ls Ls mods L vS path s.m s.src:=
 ⟨h.pm,h.md,h.oS,h.nd,h.lp,b.ext h.ch,Chg.of_ext h.ch,λ_ e=>.inl e,λk a=>⟨λe=>by have:=(h.in_ k a).2;have:=b.lplt;omega,λe=>by have:=(h.in_ k a).2;have:=(lK b.ow e).1;omega,λL' c e=>by have:=(h.in_ k a).2;have:=(b.in_ L' c k e).1;omega⟩,λL' c k a=>.inl ⟨L',c,a⟩⟩
def CP.ext0(h:CP B0 w W p lp fb vM vM' Ls Ls' mods' L vS path m src){w0:World}(b:Ext w0 w)(a:LR w w0.heap.size lp fb vM Ls mods):Ext w0 W:=by
 refine b.then h.cg λk c e=>?_;rcases e with e|e
 .have:=a.lo;omega
 .have:=(lK a.ow e).2;omega
theorem CP.setmod{y:Nat}{c:Cl}{K:World->Prop}(h:CP B0 w W p lp fb vM vM' Ls Ls' mods' L vS path m src)(F:m.calls[i]?=some c){g:Nat}(b:L.vC=.slice (some ⟨g,0,none⟩) m.calls.length q)
  (V:∀w'',CP B0 w w'' p lp fb vM vM' Ls Ls' mods' {L with cC:=L.cC.set (i*4+1) (i64 (y:Nat))} vS path {m with calls:=m.calls.set i {c with mod:=y}} src->K w''):
  stW 1 (.pointer (some ⟨g,i*4+1,none⟩)) (i64 (y:Nat)) W K:=by
 have E:i<m.calls.length:=(bJ.1 F).1;have S:=h.md.cc.1;have J:=h.md.oC;rw[b]at J;have T:i*4+4<=m.calls.length*4:=by omega
 refine YJ J (by omega) rfl λw2 d P I=>?_;refine V w2 ?_;letI:FK:=⟨λ_ _=>False⟩;have r:L.vC.ownBlock=some g:=by rw[b];rfl
 have f:=h.nd;rw[kR]at f;have N:[vS]++L.vals=([vS]++(([L.M.vE,L.M.vB,L.M.vT]++(L.M.cE++L.M.cB))++[L.vV,L.vL,L.vO,L.vR]))++L.vC::(L.cR++L.cC):=by simp[ML.vals]
 rw[N]at f;have oth:∀v∈([vS]++(([L.M.vE,L.M.vB,L.M.vT]++(L.M.cE++L.M.cB))++[L.vV,L.vL,L.vO,L.vR]))++(L.cR++L.cC),∀k,v.ownBlock=some k->¬One g k:=λv b k a e=>uT f v b k a (.inl (by have e:k=g:=e;rw[e];exact r));have z:g∈usM p L vS:=by rw[kR,N];exact aF _ (eZ (v:=L.vC) (by simp) r)
 have G:g≠p:=λe=>(dX.1 f).1 (by rw[<-e];exact eZ (v:=L.vC) (by simp) r);obtain⟨O,v2,v3⟩:=h.vn g z;have row:=h.md.cc.2 i c F;obtain⟨va,x,Q⟩:=row;have s:L.cC[i*4+1]?=some (i64 (c.mod:Nat)):=by
  have:((L.cC.drop (i*4)).take 4)[1]?=some (i64 (c.mod:Nat)):=by rw[x];rfl
  rwa[gB (by omega),iF]at this
 have D:ub (L.cC.set (i*4+1) (i64 (y:Nat)))=ub L.cC:=OU _ _ s rfl rfl;have l:ub (ML.vals {L with cC:=L.cC.set (i*4+1) (i64 (y:Nat))})=ub L.vals:=by
  simp only[ML.vals,qE];rw[D]
 have u:usM p {L with cC:=L.cC.set (i*4+1) (i64 (y:Nat))} vS=usM p L vS:=by
  unfold usM;rw[l]
 have A:lV (ClR w2 w.heap.size) 4 m.calls L.cC:=h.md.cc.imp λy e H C=>C.at_ d λk a=>by
  obtain⟨v,b,a⟩:=cA.1 a;exact oth v (by simp[H v b]) k a
 have R:∀k∈ub L.vals,k∈usM p L vS:=λk a=>by simp[usM,a]
 refine⟨d.at h.pm (λe=>G (by have e:p=g:=e;exact e.symm)),⟨h.md.fo.keep d λk _ _ a=>?_,eJ h.md.oV d (oth _ (by simp)),eJ h.md.oL d (oth _ (by simp)),eJ h.md.oO d (oth _ (by simp)),eJ h.md.oR d (oth _ (by simp)),?_,h.md.rr.imp λy e H C=>C.at_ d λk a=>?_,?_,λk a=>?_⟩,eJ h.oS d (oth _ (by simp)),by rw[u];exact h.nd,h.lo,h.lr.keep d (λe=>O (by have e:lp=g:=e;exact e.symm)) (λk a e=>v2 (by have e:k=g:=e;rw[<-e];exact a)) (λL' U k a e=>v3 L' U (by have e:k=g:=e;rw[<-e];exact a)),
  h.cg.then d (λk a e=>by have e:k=g:=e;have:=(h.in_ g z).2;omega),h.nw,λk a=>by rw[u]at a;exact h.vn k a,h.ls⟩
 .obtain⟨v,b,a⟩:=cA.1 a;exact oth v (cH _ (bR _ (cH _ b))) k a
 .show Own w2 _ _ _ L.vC (m.calls.set i _).length _;rw[mB,b];exact I
 .obtain⟨v,b,a⟩:=cA.1 a;exact oth v (by simp[H v b]) k a
 .refine QN (n:=4) (j:=1) A E (by omega) ?_;obtain⟨B,o,t⟩:=A.2 i c F;rw[o];exact⟨B,rfl,t⟩
 .rw[l]at a;have:=h.md.lt k a;exact⟨by rw[P];exact this.1,this.2⟩
end
end
def zE{c r:List Value}(h:(c.drop (i*n)).take n=r)(a:j<n):c[i*n+j]?=r[j]?:=by
 rw[<-h,gB a,iF]
section
variable [HX]
theorem ZK{C hg:World}{d:Nat}{fs:Vfs.MS}{vM xc:Value}{Ls ye:List ML}{hm f:List Md}{L:ML}{vS:Value}{path dir:Str}{m:Md}{src:List Str}{sub:Option (Str->List Md->RL (List Md))}{K:World->Prop}
  (U:(d=4/\sub=none)\/(d<4/\∃ld,sub=some ld/\LdC C A fs (d+1) ld/\Ss ld))(hn:Ext C w)(hv:LR w C.heap.size r A vM Ls hm)(h:CP C.heap.size w hg p r A vM xc Ls ye f L vS path m src)(hd:d<=4)(yz:src.length=m.calls.length)(um:m.calls.length<=1000000)
  (yy:∀x∈src,x.length<=32)(zo:f.length<=16)(zv:dir.length<=1000+40*d)
  (hK:∀cs mods' L' vM' Ls' W,lX sub path dir (m.calls.zip src) [] f=.ok (cs,mods')->CP C.heap.size w W p r A vM vM' Ls Ls' mods' L' vS path {m with calls:=cs} src->f.length<=mods'.length->K W)
  (B:∀c q a,lX sub path dir (m.calls.zip src) [] f=.bad c q a->TC C q c a):
  fA (pA p) λt101=>
  bF 0 t101 λt102=>
  bF 8 t102 λt103=>
  ldW false 1 t103 hg λt104=>
  iL t104 λt105=>
  eK [(.int .i64 0)] hg λP _ G zr=>
   aS .lss (P.getD 0 undef) t105 λt107=>
   bE t107 (
    fA (pA p) λt110=>
    bF 0 t110 λt111=>
    bF 8 t111 λt112=>
    ldW false 1 t112 G λt113=>
    fX none 4 t113 (P.getD 0 undef) λt115=>
    dE (λyh=>
     aS .eql (i64 (d:Nat)) (.int .i64 4) λt117=>
     GdW (isB t117 false) [undef] G (λzt=>
      fA (pA r) λt120=>
      bF 1 t120 λt121=>
      ldW false 1 t121 G λt122=>
      iL t122 λt123=>
      aS .eql t123 (.int .i64 16) λt124=>
      zt [t124] G)
     λyu _ hf=>
     fN t117 (.bool true) (yu.getD 0 undef) λt125=>
     bE t125 (
      fA t115 λt128=>
      bF 3 t128 λt129=>
      ldW false 1 t129 hf λt130=>
      aL P0 94 [pA p,(.int .i64 111),t130] hf λt131 ys=>
      yh [] ys) (
      yh [] hf))
    λuc _ F=>
    fA (pA p) λt136=>
    bF 10 t136 λt137=>
    ldW false 1 t137 F λt138=>
    fX none 1 t138 (P.getD 0 undef) λt140=>
    ldW false 1 t140 F λt141=>
    aS .add (str dir) t141 λt142=>
    aS .add t142 (.string (ofL [47])) λt143=>
    aS .add (i64 (d:Nat)) (.int .i64 1) λt145=>
    aL P0 51 [pA r,t143,t145] F λt146 hy=>
    fA t115 λt147=>
    bF 1 t147 λt148=>
    stW 1 t148 t146 hy λz=>
    fA (pA r) λt150=>
    bF 1 t150 λt151=>
    ldW false 1 t151 z.drew λt152=>
    fA t115 λt154=>
    bF 1 t154 λt155=>
    ldW false 1 t155 z.drew λt156=>
    fX none 9 t152 t156 λt157=>
    bF 4 t157 λt158=>
    ldW false 1 t158 z.drew λt159=>
    fA t115 λt161=>
    bF 2 t161 λt162=>
    ldW false 1 t162 z.drew λt163=>
    iL t163 λt164=>
    eK [(.int .i64 0)] z.drew λhk _ O zq=>
     aS .lss (hk.getD 0 undef) t164 λt166=>
     bE t166 (
      dE (λyg=>
       fX none 3 t163 (hk.getD 0 undef) λt167=>
       ldW true 3 t167 O λt168=>
       eD AtT [(.string (ofL [])),(.int .i64 0),(.int .i64 0)] O λt19 yr=>
       stW 3 t19 t168 yr λyq=>
       aL P0 96 [t159,(.func (.func 97) #[] #[t19])] yq λt171 he=>
       unW .not t171 λt172=>
       bE t172 (
        bF 2 t19 λt174=>
        ldW false 1 t174 he λt175=>
        aL P0 94 [pA p,(.int .i64 80),t175] he λt176 yp=>
        yg [] yp) (
        yg [] he))
      λub _ yo=>
      aS .add (hk.getD 0 undef) (.int .i64 1) λt177=>
      zq [t177] yo) (
      iL t159 λt179=>
      eK [(.int .i64 0)] O λhh _ E zp=>
       aS .lss (hh.getD 0 undef) t179 λt181=>
       bE t181 (
        dE (λyf=>
         fX none 3 t159 (hh.getD 0 undef) λt182=>
         ldW true 3 t182 E λt183=>
         eD VrT [(.string (ofL [])),(.int .i64 0),(.int .i64 0)] E λt21 yn=>
         stW 3 t21 t183 yn λN=>
         bF 1 t21 λt184=>
         ldW false 1 t184 N λt185=>
         aS .lss t185 (.int .i64 0) λt186=>
         GdW (isB t186 true) [undef] N (λzs=>
          fA t115 λt189=>
          bF 2 t189 λt190=>
          ldW false 1 t190 N λt191=>
          aL P0 98 [t191,(.func (.func 99) #[] #[t21])] N λt193 ym=>
          unW .not t193 λt194=>
          zs [t194] ym)
         λyt _ hc=>
         fN t186 (yt.getD 0 undef) (.bool false) λt195=>
         bE t195 (
          fA t115 λt198=>
          bF 3 t198 λt199=>
          ldW false 1 t199 hc λt200=>
          aL P0 94 [pA p,(.int .i64 110),t200] hc λt201 yl=>
          yf [] yl) (
          yf [] hc))
        λua _ yk=>
        aS .add (hh.getD 0 undef) (.int .i64 1) λt202=>
        zp [t202] yk) (
        aS .add (P.getD 0 undef) (.int .i64 1) λt203=>
        zr [t203] E))) (K G):=by
 simp only[dJ,bH,bN,aN];refine ldb h.pm (v:=L.vC) rfl ?_;rw[gQ h.md.oC.sl];generalize hQ:lX sub path dir (m.calls.zip src) [] f=Q at hK B;refine Cb m.calls.length (λi W=>∃done L' vM' Ls' mods',CP C.heap.size w W p r A vM vM' Ls Ls' mods' L' vS path {m with calls:=done++m.calls.drop i} src/\lX sub path dir ((m.calls.zip src).drop i) done mods'=Q/\done.length=i/\mods'.length<=16/\f.length<=mods'.length)
  ⟨[],L,xc,ye,f,h,hQ,rfl,zo,aQ _⟩ ?_ ?_
 .rintro i w2 g L2 hi ⟨done,L',vM',Ls',mods',l,o,T,xr,xp⟩ hL;obtain⟨c,I⟩:∃c,m.calls[i]?=some c:=⟨_,aH hi⟩;obtain⟨x,ho⟩:∃x,src[i]?=some x:=⟨_,aH (by omega)⟩;have ue:=yy x (bA ho);have zg:((i:Int)<(m.calls.length:Int)):=by omega
  simp only[aG];rw[eC,bS zg,dF];have xu:m.calls.drop i=c::m.calls.drop (i+1):=by
   rw[eW hi];rw[aH hi]at I;injection I with I
   rw[I]
  have H:(m.calls.zip src)[i]?=some (c,x):=by rw[yX];exact⟨I,ho⟩
  have xe:i<(m.calls.zip src).length:=(bJ.1 H).1;have yv:(m.calls.zip src).drop i=(c,x)::(m.calls.zip src).drop (i+1):=by
   rw[eW xe];rw[aH xe]at H;injection H with H
   rw[H]
  rw[yv]at o;have X:(done++m.calls.drop i).length=m.calls.length:=by rw[aB,aW];omega
  have xz:(done++m.calls.drop i)[i]?=some c:=by rw[dB (by omega),T,yQ,xu];rfl
  have zb:=l.md.oC;obtain⟨gb,cap,cur,hp,zl,xw⟩:=Dt zb (by show 0<(done++m.calls.drop i).length;omega);have ya:L'.cC.length=m.calls.length*4:=by rw[<-X];exact l.md.cc.1
  obtain⟨va,xk,ug⟩:=l.md.cc.2 i c xz;refine ldb l.pm (v:=L'.vC) rfl ?_;rw[hp,fI];refine⟨by omega,by show(i:Int)<(((done++m.calls.drop i).length:Nat):Int);omega,?_⟩;simp only[bN,bD,aN,dJ,bH];have hs:(L'.cells m.dir++[str path,vS])[9]?=some (str path):=rfl;refine dE.cut (λst W=>st=[]/\W=w2/\d≠4/\mods'.length≠16) ?_ ?_
  .rw[bW,jV];refine GdW.look (decide (mods'.length=16)) (λ_ J hJ=>?_) λg3=>?_
   .refine ldb l.lr.hl (v:=vM') rfl ?_;rw[gQ l.lr.ow.sl,bW];have e:decide (((mods'.length:Nat):Int)=16)=decide (mods'.length=16):=decide_eq_decide.2 (by omega);rw[e];exact hJ
   .simp only[aG];rw[mJ,fC];refine⟨λZ=>?_,λZ=>⟨by trivial,by trivial,?_⟩⟩
    .rw[fB];refine⟨i64 c.a,by rw[cS,zl,bT,xw _ (by omega),zE xk (by omega)];rfl,?_⟩;refine Ve l.pm hs (TC.low ?_ (l.ext0 hn hv));refine B 111 path c.a ?_;rw[<-o];rcases U with⟨_,rfl⟩|⟨xv,ld,rfl,_⟩
     .rfl
     .have:mods'.length=16:=by
       have e1:decide (((d:Nat):Int)=4)=false:=cX (by omega);rw[e1,dK]at Z;exact fP Z
      simp only[lX];rw[aO this]
    .rw[xQ]at Z;exact⟨λe=>by have:=of_decide_eq_false Z.1;omega,of_decide_eq_false Z.2⟩
  rintro st g3 F ⟨rfl,rfl,xv,xo⟩;obtain⟨zu,ld,rfl,zi,xt⟩:=U.resolve_left (λe=>xv e.1);simp only[lX]at o;rw[aE xo]at o;refine ldb l.pm (v:=vS) rfl ?_;refine mC (i:=i) (x:=str x) l.oS.sl (by unfold strs;rw[cK]) (by unfold strs;rw[dV,ho];rfl) ?_;rw[bY];refine⟨by show(_:Int)<=9223372036854775807;omega,?_⟩;rw[bY];refine⟨by simp only[aB,aA,aD];show(_:Int)<=9223372036854775807;omega,?_⟩;rw[cP,upi (by omega)];have yw:=l.ext0 hn hv;refine zi (dir++x++[47]) mods' F r vM' Ls' _ yw l.lr (by simp only[aB,aA,aD];omega) (by omega) (λt yd xb hy xl xs zn ze za=>?_) (λk q a Z=>?_)
  rotate_left
  .rw[Z]at o;exact B k q a o.symm
  rw[xl]at o;simp only at o;obtain⟨new,xn,zd,zf,_⟩:=xt _ _ _ (by omega) xl;have ui:0<new.length:=iO.2 zd;have hm2l:t.length=mods'.length+new.length:=by rw[xn,aB]
  have xy:=l.child xs zn ze za;have xi:L'.vC=.slice (some ⟨gb,0,none⟩) ({m with calls:=done++m.calls.drop i}:Md).calls.length cap:=hp;refine xy.setmod (c:=c) (y:=mods'.length) xz xi λz xx=>?_;have b:=xx.ext (cQ z);generalize uf:z.drew=w4 at b;have xj:(done++m.calls.drop i).set i {c with mod:=mods'.length}=(done++[{c with mod:=mods'.length}])++m.calls.drop (i+1):=by
   rw[CO _ _ (by omega),T,yQ,xu,aP];simp
  have zh:((done++m.calls.drop i).set i {c with mod:=mods'.length}).length=m.calls.length:=by rw[mB];exact X
  obtain⟨yc,zz,M,xh,Y,hw⟩:=Dt b.md.oC (by show 0<((done++m.calls.drop i).set i _).length;omega);have zk:yc=gb:=by
   have e:L'.vC=_:=xh;rw[hp]at e;simp only[Value.slice.injEq,bB,Addr.mk.injEq,fQ]at e;exact e.1.symm
  subst zk;obtain⟨xa,hr,D⟩:=b.md.cc.2 i {c with mod:=mods'.length} (by show((done++m.calls.drop i).set i _)[i]?=_;rw[oD (by omega)]);have zw:(L'.cC.set (i*4+1) (i64 (mods'.length:Nat))).length=m.calls.length*4:=by rw[mB];exact ya
  have S:∀j,j<4->M[i*4+j]?=([str c.n,i64 (mods'.length:Nat),xa,i64 c.a]:List Value)[j]?:=λj hj=>by
   rw[hw _ (by show _<(L'.cC.set (i*4+1) (i64 (mods'.length:Nat))).length;omega)];exact zE hr hj
  have xd:∀{j:Nat} {u:Value} {K:Value->Prop},M[i*4+j]?=some u->K u->ldW false 1 (.pointer (some ⟨yc,i*4+j,none⟩)) w4 K:=λhu hK=>by
   rw[fB];exact⟨_,by rw[cS,Y,bT];exact hu,hK⟩
  refine ldb b.lr.hl (v:=xb) rfl ?_;refine xd (u:=i64 (mods'.length:Nat)) (S 1 (by omega)) ?_;obtain⟨gm,zy,zx,yx,ul,zm⟩:=Dt b.lr.ow (by omega);have V:=b.lr.ow;rw[yx]at V⊢;rw[fI];refine⟨by omega,by omega,?_⟩;simp only[bN,bD,aN];obtain⟨LC,yb⟩:∃LC,yd[mods'.length]?=some LC:=⟨_,aH (by rw[b.lr.len];omega)⟩;obtain⟨mc,ht⟩:∃mc,t[mods'.length]?=some mc:=⟨_,aH (by omega)⟩;have xq:t.getD mods'.length As=mc:=by rw[aM,ht];rfl
  rw[xq]at o;have R:=b.lr.md _ LC mc yb ht;refine Ka V (u:=LC.vV) (by rw[zE (n:=9) (j:=4) (Gb yb ht) (by omega)];rfl) ?_;refine xd (u:=xa) (S 2 (by omega)) ?_;have xg:=b.ext0 hn hv;refine ZJ (vars:=mc.vars) (args:=c.args) (p:=p) (path:=path) R.oV.sl D.sl (FS R.oV) (FS D) b.pm hs (λa ha=>TC.low (B 80 path a ?_) xg) λzc O s=>?_
  .rw[ha]at o;exact o.symm
  rw[zc]at o;simp only at o;refine aDQ (vars:=mc.vars) (args:=c.args) (p:=p) (path:=path) (gc:=M) (a:=c.a) (R.oV.sl.ext s) (D.sl.ext s) (FS R.oV) (FS D) (s.at b.pm id) hs (s.at Y id) (S 2 (by omega)) (S 3 (by omega)) (λhl=>TC.low (B 110 path c.a ?_) (xg.trans s)) λxm E xf=>?_
  .rw[aO hl]at o;exact o.symm
  rw[aE (by rw[xm];decide)]at o;rw[cP,up1 (by omega)];refine hL E ⟨done++[{c with mod:=mods'.length}],{L' with cC:=L'.cC.set (i*4+1) (i64 (mods'.length:Nat))},xb,yd,t,?_,o,by simp[T],zf,by omega⟩;have:=(b.ext s).ext xf;rw[<-xj];exact this
 .rintro w2 g L2 ⟨done,L',vM',Ls',mods',l,o,T,xr,xp⟩;simp only[aG];rw[eC,cX (El _),cI];have hz:(m.calls.zip src).length=m.calls.length:=by rw[FF,yz,Nat.min_self]
  rw[<-hz,iH]at o;simp only[lX]at o;rw[iH,dL]at l;exact hK done mods' L' vM' Ls' w2 o.symm l xp
end
def aDP{a:Nat}{l r:List Value}{fr:Nat×Nat}{K:Value->Prop}(d:w.heap[a]?=some (.cells (l++r).toArray T fr))(f:l.length=n)(e:K (.agg l.toArray)):ldW true n (.pointer (some ⟨a,0,none⟩)) w K:=by
 rw[Au];refine⟨l,?_,e⟩;have:∀(n i:Nat),i+n=l.length->bZ w ⟨a,0,none⟩ i n=some (l.drop i):=by
  intro n;induction n with
  |zero=>intro i h;simp only[bZ];rw[iQ (by omega)]
  |succ n ih=>
   intro i h;have b:i<l.length:=by omega
   have c:(l++r)[i]?=some l[i]:=by rw[dR b,aH b]
   simp only[bZ,bN,cS,d,bT,aN,bP,c];rw[ih (i+1) (by omega)];simp
 rw[this n 0 (by omega)];rfl
def Uj{d:Str}(h:nR d=true):d.length<=32:=by
 cases d with
 |nil=>cases h
 |cons c r=>
  simp only[nR,bV,fK]at h;have:=h.2;simp only[aA];omega
section
variable [HX]
theorem Uu{hg:World}{fs:Vfs.MS}{sub:Option (Str->List Md->RL (List Md))}{d:Nat}(hT:TabI hg)(yt:Fx.FsB hg j r fs)(xr:Vfs.Ok fs)(hd:d<=4)
  (xl:(d=4/\sub=none)\/(d<4/\∃ld,sub=some ld/\LdC hg j fs (d+1) ld/\Ss ld)):LdC hg j fs d (tM (rdF fs) sub):=by
 intro dir mods w lp vM Ls K D hL zh yr xm C;refine aEH ?_;unfold W51;have hc:=D.size;generalize u:tM (rdF fs) sub dir mods=R at xm C;unfold tM at u;rw[bY];refine⟨by simp only[aA,aD];show(_:Int)<=9223372036854775807;omega,?_⟩
 have xd:(dir++nM).length<=2000:=by rw[aB];have:nM.length=8:=by decide
                                    omega
 have yo:dir++[109,97,105,110,46,104,99,108]=dir++nM:=rfl;rw[yo];generalize yq:dir++nM=path at*
 simp only[eP,dW,aA,aD,aP,aU];refine⟨by omega,?_⟩;refine gF (z:=[str [],.slice none 0 0,.slice none 0 0,.slice none 0 0,.slice none 0 0,.slice none 0 0,.slice none 0 0,.slice none 0 0,.slice none 0 0,str path,.slice none 0 0]) λp w2 hp zv yy yj=>?_;simp only[dJ,bH,bN,aN];refine lJ yy rfl (by simp) λw3 zu xy yx=>?_;have xb:Ext w w3.drew:=(yj.new yx (by omega)).trans (cQ w3);have ht:w3.drew.heap[p]?=some (.cells [str dir,.slice none 0 0,.slice none 0 0,.slice none 0 0,.slice none 0 0,.slice none 0 0,.slice none 0 0,.slice none 0 0,.slice none 0 0,str path,.slice none 0 0].toArray MoT (0,0)):=by
  show w3.heap[p]?=_;rw[xy];simp
 have hu:∀{W},Ext w W->W.heap[p]?=some (.cells [str dir,.slice none 0 0,.slice none 0 0,.slice none 0 0,.slice none 0 0,.slice none 0 0,.slice none 0 0,.slice none 0 0,.slice none 0 0,str path,.slice none 0 0].toArray MoT (0,0))->Mf w W p ⟨.slice none 0 0,.slice none 0 0,.slice none 0 0,[],[]⟩ path ⟨[],[],[]⟩:=λhx hb=>⟨hx,⟨_,hb,rfl,rfl,rfl,rfl⟩,Vd _ _⟩;refine ldb (hL.ext xb).hl (v:=pA j) rfl ?_;refine ldb ht (v:=str path) rfl ?_;refine Fx.read_fs (yt.ext (D.trans xb)) xr λdv w4 xe xa=>?_;simp only[bX];refine⟨_,rfl,_,rfl,?_⟩;have H:=xb.trans xa;have Y:=xa.at ht id;refine dE.cut (λst W=>st=[]/\W=w4/\∃x,Vfs.lkM fs.files path=some x) ?_ ?_
 .rw[gK,fC];refine⟨λh=>?_,λh=>⟨by trivial,by trivial,?_⟩⟩
  .have:rdF fs path=none:=by
    unfold rdF;cases hl:Vfs.lkM fs.files path with
    |none=>rfl
    |some x=>rw[hl]at h;cases h
   rw[this]at u;exact oZ (hu H Y) ((C 111 path 0 u.symm).low D)
  .cases hl:Vfs.lkM fs.files path with
   |none=>rw[hl]at h;cases h
   |some x=>exact⟨x,rfl⟩
 rintro st g w5 ⟨rfl,rfl,x,hy⟩;have yn:rdF fs path=some x.data:=by unfold rdF;rw[hy];rfl
 rw[yn]at u;simp only at u;rw[hy]at xe;have xs:Fx.df (some x)=x:=rfl;rw[xs]at xe;have yu:x.data.length<=65536:=(xr.each _ (Vfs.lk_mem hy)).2.1;rw[Fx.conv_b xe];have yz:=wT hT (D.trans H);refine YG (λ{_}=>aCq) yz (by omega) (λfl xd M w6 J G hr=>?_) (λc a yp dg w6 J yu yv=>?_)
 rotate_left
 .rw[yp]at u;simp only at u;simp only[bX];refine⟨_,rfl,_,rfl,?_⟩;refine cO λho w9 ya yi f hz=>?_;refine dH (l:=[.slice none 0 0,.slice none 0 0,.slice none 0 0]) f rfl rfl rfl λP xk f X=>?_;have t:Ext w6 P.drew:=(hz.new X (by omega)).trans (cQ P);refine dE.cut (λ_ _=>False) ?_ (λ_ _ _ h=>h.elim);show bE (.bool true) _ _;rw[dF];have hs:=t.at yv id;simp only[dJ,bH,bN,aN];refine ldb hs (v:=i64 c) rfl ?_;refine ldb hs (v:=i64 a) rfl ?_;exact oZ (hu (H.trans (J.trans t)) (t.at (J.at Y id) id)) ((C c path a u.symm).low D)
 rw[xd]at u;simp only at u;have U:=Bl xd hr;simp only[bX];refine⟨_,rfl,_,rfl,?_⟩;have zf:w3.drew.heap.size=w3.heap.size:=rfl;have zt:=xa.size;have zs:=J.size;refine cO λho w9 ya yi f hz=>?_;have o1:=fO G.oE.sl;have o2:=fO G.oB.sl;have o3:=fO G.oT.sl;have T:([M.vE,M.vB,M.vT]:List Value).all kJ=true:=by
  show(kJ M.vE&&(kJ M.vB&&(kJ M.vT&&true)))=true;rw[o1,o2,o3];rfl
 refine dH (l:=[M.vE,M.vB,M.vT]) f rfl rfl T λP xk f X=>?_;have t:Ext w6 P:=hz.new X (by omega);refine dE.cut (λst W=>st=[]/\W=P) ?_ ?_
 .show bE (.bool false) _ _;rw[cI];exact⟨by trivial,by trivial⟩
 rintro st g2 zn ⟨rfl,rfl⟩;refine gL f rfl ?_;simp only[dJ,bH,bN,aN];have xx:=t.at (J.at Y id) id;refine Wt (pre:=[str dir]) (old:=[.slice none 0 0,.slice none 0 0,.slice none 0 0]) (post:=[.slice none 0 0,.slice none 0 0,.slice none 0 0,.slice none 0 0,.slice none 0 0,str path,.slice none 0 0]) (new:=[M.vE,M.vB,M.vT]) xx rfl rfl rfl T λhw zg xf V=>?_;have S:Ext w hw:=(H.trans (J.trans t)).then V λk s e=>by have e:k=p:=e;omega
 have ha:=V.at f (by omega);have hv:FO hw w5.heap.size M fl:=(G.keep t λ_ _ _ _ e=>e).keep V λk h1 _ _ e=>by have e:k=p:=e;omega
 letI:FK:=⟨λk o=>k=ho/\o=.cells [M.vE,M.vB,M.vT].toArray FlT (0,0)⟩;generalize E:(⟨⟨dir,fl,[],[],[],[],[]⟩,[]⟩:MS)=s0 at u;have xq:MR w hw p ⟨M,.slice none 0 0,.slice none 0 0,.slice none 0 0,.slice none 0 0,.slice none 0 0,[],[]⟩ (.slice none 0 0) path s0:=by
  rw[<-E];have xc:∀k∈ub ([M.vE,M.vB,M.vT]++(M.cE++M.cB)),k<w6.heap.size/\w5.heap.size<=k:=λk s=>⟨G.lt k s,G.lo k s⟩;refine⟨S,xf,⟨hv.low (by omega),sA _ _ _ _,sA _ _ _ _,sA _ _ _ _,sA _ _ _ _,sA _ _ _ _,lV.nil _ _,lV.nil _ _,λk s=>?_⟩,sA _ _ _ _,?_,by omega,?_⟩
  .rw[Ky]at s;have:=xc k s;omega
  .show(p::([]++ub (ML.vals _))).Nodup;rw[Ky,dS];exact dX.2 ⟨λs=>by have:=xc p s;omega,G.nd⟩
  .rintro k o ⟨rfl,rfl⟩;refine⟨ha,λs=>?_⟩;have s:k∈p::([]++ub (ML.vals _)):=s;rw[Ky,dS]at s;rcases aX.1 s with e|s
   .omega
   .have:=xc k s;omega
 refine ldb ha (v:=M.vT) rfl ?_;rw[gQ hv.oT.sl];have zi:=hL.ext S;generalize hQ:kX fl.top s0=Q at u;refine eK.go (λst W=>∃(i:Nat) (A:MS) (L:ML) (vS:Value),st=[i64 (i:Nat)]/\i<=fl.top.length/\MR w W p L vS path A/\L.M=M/\A.m.fl=fl/\A.m.dir=dir/\BdS A i/\kX (fl.top.drop i) A=Q)
  (λst _=>match st with|[.int _ i]=>fl.top.length-i.toNat|_=>0) ⟨0,s0,_,_,rfl,cZ _,xq,rfl,by rw[<-E],by rw[<-E],by rw[<-E];exact⟨aQ _,cZ _,aQ _,aQ _,aQ _,aQ _⟩,hQ⟩ ?_
 rintro st g3 xj ⟨i,A,L,vS,rfl,hi,y,hn,B,ym,Z,O⟩;have xz:xj.heap[ho]?=some (.cells [M.vE,M.vB,M.vT].toArray FlT (0,0)):=(y.fk ho _ ⟨rfl,rfl⟩).1;have he:FO xj w.heap.size M fl:=by have:=y.md.fo;rw[hn,B]at this;exact this
 simp only[aG];rw[eC,aY];refine⟨λhh=>?_,λzw=>?_⟩
 .have hh:i<fl.top.length:=by omega
  obtain⟨k,s⟩:∃k,fl.top[i]?=some k:=⟨_,aH hh⟩;have hj:=U.top k (bA s);rw[eW hh]at O;have hm:=s;rw[aH hh]at hm;injection hm with hm
  rw[hm]at O;simp only[kX,B]at O;refine mC (i:=i) (x:=i64 (k:Nat)) he.oT.sl (by rw[xH];omega) (by unfold ints;rw[dV,s];rfl) ?_;refine ldb xz (v:=M.vB) rfl ?_;refine qV he.oB.sl he.bb.1 (by omega) hj ?_;have:=Vq (k:=k) (n:=i) (K:=λ_ xi=>aS .add (i64 (i:Nat)) (.int .i64 1) λt84=>(∃(i:Nat) (A:MS) (L:ML) (vS:Value),[t84]=[i64 (i:Nat)]/\i<=fl.top.length/\MR w xi p L vS path A/\L.M=M/\A.m.fl=fl/\A.m.dir=dir/\BdS A i/\kX (fl.top.drop i) A=Q)/\(match([t84]:List Value)with|[.int _ i]=>fl.top.length-i.toNat|_=>0)<(match([i64 (i:Nat)]:List Value)with|[.int _ i]=>fl.top.length-i.toNat|_=>0))
   y (by rw[B,hn];exact U.fa M) (by rw[B];exact hj) Z (by omega) (by rw[B];exact U.ll k hj)
   (λs' L' yh xi N zb xp=>?_) (λc a N=>?_)
  .rw[hn]at this;exact this
  .rw[B]at N;obtain⟨b1,b2,b3⟩:=MU Z ((U.fa M).fa k hj) N;rw[N]at O;rw[cP,upi (by omega)];exact⟨⟨i+1,s',L',yh,rfl,by omega,xp,zb.trans hn,b2.trans B,b3.trans ym,b1,O⟩,by simp only[bD];omega⟩
  .rw[B]at N;rw[N]at O;have O:RC.bad c a=Q:=O;rw[<-O]at u;exact(C c path a u.symm).low D
 .obtain rfl:i=fl.top.length:=by omega
  rw[iH]at O;simp only[kX]at O;rw[<-O]at u hQ;simp only at u;have za:=(xL fl.top s0 A (by rw[<-E];exact Ga _ _) (by rw[<-E];exact U.aok) hQ).1;have yl:∀x∈A.src,x.length<=32:=λx hx=>Uj (QF (dir:=dir) (by rw[E];exact hQ) x hx);have I:=hL.ext y.ch;refine ldb I.hl (v:=vM) rfl ?_;rw[gQ I.ow.sl];refine ldb I.hl (v:=vM) rfl ?_;refine I.push (by have:=y.ch.size;omega) (by omega) λzo zm yc xw xn=>?_;have yw:=(CP.of y hL hc).child yc xw xn λL' zd k s=>by
   rcases bM.1 zd with h|h
   .exact .inl ⟨L',h,s⟩
   .rw[bO.1 h,Kf]at s;cases s
  have xu:A.m.calls.length<=1000000:=by have:=Z.2.2.2.2.1;have:=hr.2.2;omega
  refine ZK xl D hL yw hd za.sl xu yl (by rw[aB];show _+1<=16;omega) (by omega) (λcs mods' L' vM' Ls' xh F xt ys=>?_) (λc q a F=>?_)
  .rw[F]at u;simp only at u;have xo:mods.length<mods'.length:=by rw[aB]at ys;have:([As]:List Md).length=1:=rfl;omega
   have b:=xt.ext (cQ xh);generalize xh.drew=w24 at b;refine ldb b.lr.hl (v:=vM') rfl ?_;refine aDP (l:=L'.cells A.m.dir) b.pm rfl ?_;have h1:(L'.cells A.m.dir).all kJ=true:=by
    have hd:=b.md;simp only[ML.cells,Ek,List.all_nil,fO hd.fo.oE.sl,fO hd.fo.oB.sl,fO hd.fo.oT.sl,fO hd.oV.sl,fO hd.oL.sl,fO hd.oO.sl,fO hd.oR.sl,fO hd.oC.sl];rfl
   refine b.lr.store (i:=mods.length) (L:=L') (m:={A.m with calls:=cs}) xo (b.md.low hc) (λk s=>?_) h1 λyg yb xv=>?_
   .have:=b.vn k (by simp[usM,s]);exact⟨this.1,this.2.1⟩
   .refine xm _ _ vM' yg u.symm yb (b.cg.then xv λk s e=>?_) b.nw λL2 zc k s=>?_
    .rcases e with e|e
     .exact .inl e
     .exact .inr ((b.nw k e).resolve_right (by omega))
    .rcases sJ zc with h|rfl
     .exact b.ls L2 h k s
     .exact .inr (b.md.lt k s).2
  .rw[F]at u;exact C c q a u.symm
end
end
end Go.Proofs.YtjblfcfdeaagpaaGreatDoor
namespace Go.Proofs
section
open Go.Shelf
def Tryz.laysM316_ren:Go.Shelf.Ren:=⟨λ|316=>100|n=>n,λ|9=>9|3=>3|4=>4|37=>80|0=>0|127=>168|5=>5|n=>n,λ|n=>n⟩
def Tryz.laysM316:Go.Proofs.LaysM.n316 P0 Tryz.laysM316_ren:={
 mixed:=by kernel_rfl
 f316:=Tryz.func100.trans (congrArg some (by kernel_rfl))
 t0:=Tryz.underlying0
 a0:=Tryz.isAgg0
 z0:=Tryz.sizeOf0
 v0:=Tryz.zeroValue0
 t3:=Tryz.underlying3
 a3:=Tryz.isAgg3
 z3:=Tryz.sizeOf3
 v3:=Tryz.zeroValue3
 t4:=Tryz.underlying4
 a4:=Tryz.isAgg4
 z4:=Tryz.sizeOf4
 v4:=Tryz.zeroValue4
 t9:=Tryz.underlying9
 a9:=Tryz.isAgg9
 z9:=Tryz.sizeOf9
 v9:=Tryz.zeroValue9
 t37:=Tryz.underlying80
 a37:=Tryz.isAgg80
 z37:=Tryz.sizeOf80
 v37:=Tryz.zeroValue80
 t127:=Tryz.underlying168
 a127:=Tryz.isAgg168
 z127:=Tryz.sizeOf168
 v127:=Tryz.zeroValue168
 t5:=Tryz.underlying5
 a5:=Tryz.isAgg5
 z5:=Tryz.sizeOf5
 v5:=Tryz.zeroValue5
 i0:=by kernel_rfl
 i3:=by kernel_rfl
 i4:=by kernel_rfl
 i5:=by kernel_rfl
 i9:=by kernel_rfl
 i37:=by kernel_rfl
 i127:=by kernel_rfl}
open Go.RowKit in
def Tryz.stringslite_Clone(s:ByteArray)(w:World)(a:s.size<=281474976710656):
 Calls P0 100 #[.string s] w λe W=>e=.returned (.string s)/\Below w.heap.size w W:=Any.stringslite_Clone Tryz.laysM316 s w a
end
end Go.Proofs
namespace Go.Proofs.YtjblfcfdeaagpaaGreatDoor
section
open Go Go.Eng Go.RowKit Go.Syn Go.Lex Go.Cfg
def IA(t:Str)(fl:Fl)(h:lS t=.ok fl):AOk fl:=by
 have d:=uW t;rw[h]at d;obtain⟨_,f1,_⟩:=d;have c:(exL fl.ex).length=fl.ex.length:=by simp[exL]
 intro b f a g;have:=f1.low a.e (by unfold vY;exact yU.2 ⟨b,f,fL.2 ⟨a,g,rfl⟩⟩);rw[c]at this;exact this
def QT{a b:Value}{K:World->Prop}(c:K w):AR P0 50 [a,b] .returning w K:=by
 letI:=noX;refine VU .idle ?_;unfold R50;rw[LU,cI];exact c
def Lw{a b d:Nat}{u:Value}{K:World->Prop}(q:w.heap[a]?=some (.cells [u].toArray T (0,0)))(p:w.heap[b]?=some (.cells [v].toArray U (0,0)))(g:a≠b)
  (r:∀W,Chg (λk=>k=a\/k=b) w W->W.heap[a]?=some (.cells [.slice none 0 0].toArray T (0,0))->W.heap[b]?=some (.cells [.pointer (some ⟨d,0,none⟩)].toArray U (0,0))->K W):
  AR P0 50 [.pointer (some ⟨a,0,none⟩),.pointer (some ⟨b,0,none⟩)] (.panicking [{v:=.iface DgI (.pointer (some ⟨d,0,none⟩)),recovered:=false}]) w K:=by
 letI:=noX;refine VU (.thrown _) ?_;unfold R50;rw[GO,dF,dW];refine⟨_,Gl _ _,?_⟩;refine dH (l:=[.slice none 0 0]) (w:=w.drew) q rfl rfl rfl λw2 o j f=>?_;refine⟨⟨_,Gl _ _,rfl⟩,?_⟩;have i:=f.at (w:=w.drew) p (λe=>g e.symm);refine lJ i rfl (by simp) λm n h c=>?_;refine r m ?_ (c.at j g) (by rw[h];simp);exact((Chg.drew (Chg.refl _ w)).trans (f.mono λk _ e=>.inl e)).trans (c.mono λk _ e=>.inr e)
structure CfR(w:World)(B:Nat)(v:Value)(Ls:List ML)(mods:List Md):Prop where
 len:Ls.length=mods.length
 ow:Own w B MdT 9 v mods.length (mdC Ls mods)
 md:∀(i:Nat) (L:ML) (m:Md),Ls[i]?=some L->mods[i]?=some m->MdR w B L m
def CfR.ext{B:Nat}{Ls:List ML}{mods:List Md}(h:CfR w B v Ls mods)(a:Ext w W):CfR W B v Ls mods:=
 ⟨h.len,eJ h.ow a λ_ _ e=>e,λi L m c b=>(h.md i L m c b).keep a λ_ _ e=>e⟩
def CfR.keep{B:Nat}{Ls:List ML}{mods:List Md}(h:CfR w B v Ls mods)(a:Chg S w W)(e:∀k,v.ownBlock=some k->¬S k)(d:∀L∈Ls,∀k∈ub L.vals,¬S k):CfR W B v Ls mods:=
 ⟨h.len,eJ h.ow a e,λi L m b c=>(h.md i L m b c).keep a (d L (bA b))⟩
def CfR.in_{B:Nat}{Ls:List ML}{mods:List Md}(h:CfR w B v Ls mods):(∀k,v.ownBlock=some k->B<=k)/\∀L∈Ls,∀k∈ub L.vals,B<=k:=by
 refine⟨λk a=>(lK h.ow a).2,λL d k a=>?_⟩;obtain⟨i,c⟩:=nK d;have b:=(bJ.1 c).1;exact((h.md i L _ c (aH (by rw[<-h.len];exact b))).lt k a).2
def CfR.low{B:Nat}{Ls:List ML}{mods:List Md}(h:CfR w B v Ls mods)(a:n<=B):CfR w n v Ls mods:=
 ⟨h.len,h.ow.base a,λi L m c b=>(h.md i L m c b).low a⟩
section
variable [HX]
def LY{a:World}{fb e:Nat}{fs:Vfs.MS}(d:TabI a)(b:Fx.FsB a fb e fs)(c:Vfs.Ok fs):∀n,n<=4->LdC a fb fs (4-n) (tN (rdF fs) n)
 |0,_=>Uu d b c (by omega) (.inl ⟨rfl,rfl⟩)
 |n+1,f=>by
  refine Uu (sub:=some (tN (rdF fs) n)) d b c (by omega) (.inr ⟨by omega,_,rfl,?_,PK IA n⟩)
  have:=LY d b c n (by omega)
  rw[show 4-(n+1)+1=4-n by omega]
  exact this
def Vo(b:∀W,Ext w W->K (str []) W):aL P0 52 [str []] w K:=by
 refine aEG ?_;unfold W52;refine lO (args:=#[str []]) Tryz.call100 ((Tryz.stringslite_Clone (ofL []) w (by rw[kD];decide)).mono ?_);rintro e W ⟨rfl,a⟩;exact⟨_,rfl,b W (Chg.of_below a)⟩
end
theorem Kk[HX]{fs:Vfs.MS}(hT:TabI w)(he:Fx.FsB w n j fs)(hf:Vfs.Ok fs)
  (Z:∀mods,tN (rdF fs) 4 [] []=.ok mods->∀v Ls W,Ext w W->CfR W w.heap.size v Ls mods->K (.tuple #[.agg [v].toArray,.pointer none]) W)
  (N:∀c p a,tN (rdF fs) 4 [] []=.bad c p a->∀d W,Ext w W->w.heap.size<=d->W.heap[d]?=some (.cells [i64 c,str p,i64 a].toArray 48 (0,0))->K (.tuple #[.agg [.slice none 0 0].toArray,.pointer (some ⟨d,0,none⟩)]) W):
  aL P0 20 [pA n,str []] w K:=by
 refine aEY ?_;unfold W20;refine cO λba w1 ha xg P X=>?_;refine cO λR w2 xo xf o I=>?_;have b:=X.trans I;have r:=I.at P id;letI hr:HX:=⟨λch x3=>AR P0 50 [.pointer (some ⟨ba,0,none⟩),.pointer (some ⟨R,0,none⟩)] (.panicking ch) x3 λU=>
  ldW true 1 (.pointer (some ⟨ba,0,none⟩)) U λr4=>
  ldW false 1 (.pointer (some ⟨R,0,none⟩)) U λr5=>
  K (.tuple #[r4,r5]) U⟩
 have Q:∀c p a,tN (rdF fs) 4 [] []=.bad c p a->TC w2 p c a:=by
  intro c p a hb d W Y hd hg;refine Lw (Y.at r id) (Y.at o id) (by omega) λw5 J hj hh=>?_;refine gL hj rfl ?_;refine⟨_,by rw[cS,hh];rfl,?_⟩;have ht:w2.heap.size<=d:=hd;refine N c p a hb d w5 ((b.trans Y).then J λk s e=>by omega) (by omega) (J.at hg (by show¬(d=ba\/d=R);omega))
 have hm:TabI w2:=wT hT b;have hL:=LY hm (he.ext b) hf 4 (by omega);simp only[iS,dW,aA,aD,aP,aU];refine⟨by omega,?_⟩;refine gF (z:=[pA n,.slice none 0 0]) λlp w7 xj xe hc V=>?_;refine Vo λw8 x=>?_;have g:=V.trans x;have hs:=x.size;have hn:LR w8 w2.heap.size lp n (.slice none 0 0) [] []:=
  ⟨x.at hc id,rfl,sA _ _ _ _,λi L m h=>(by simp at h),λL h=>(by cases h),λe=>(by cases e),by omega⟩
 refine hL [] [] w8 lp (.slice none 0 0) [] _ g hn (by simp) (by simp) (λmods' Ls' vM' S hl f A xi xh=>?_) (λc p a hb=>Q c p a hb);have y:∀k,k<w2.heap.size->¬LT lp (.slice none 0 0) k:=λk s e=>e.elim (λe=>by omega) (λe=>by cases e);have O:=A.at (g.at r id) (y ba (pC r));have M:=A.at (g.at o id) (y R (pC o));have H:Ext w2 S:=g.then A λk s e=>(y k s e).elim;simp only[dJ,bH,bN,aN];refine ldb f.hl (v:=vM') rfl ?_;obtain⟨q,cap,ev,_⟩:=f.ow.sl.shape;have ho:=f.ow;rw[ev]at ho⊢;simp only[fD,dW,aA,aD,aP];refine⟨by omega,?_⟩;refine dH (l:=[.slice q mods'.length cap]) O rfl rfl rfl λxb hv E u=>?_;have C:=u.at M (by omega);refine lJ C rfl (by simp) λG hu B t=>?_;have D:=t.at E (by omega);refine QT ?_;refine gL D rfl ?_;refine ldb (cs:=[.pointer none]) (T:=29) (by rw[B];simp) (v:=.pointer none) rfl ?_;have F:CfR S w2.heap.size (.slice q mods'.length cap) Ls' mods':=⟨f.len,ho,f.md⟩;have c2:Chg (λk=>k=ba\/k=R) S G:=(u.mono λ_ _ e=>.inl e).trans (t.mono λ_ _ e=>.inr e);have xl:=pC r;have xk:=pC o;refine Z mods' hl _ Ls' G ((b.trans H).then c2 λk s e=>by omega) ((F.keep c2 (λk s e=>?_) (λL hL k s e=>?_)).low b.size)
 .have:=F.in_.1 k s;omega
 .have:=F.in_.2 L hL k s;omega
end
end Go.Proofs.YtjblfcfdeaagpaaGreatDoor
namespace Go.Proofs.YtjblfcfdeaagpaaGreatDoor.Fx
section
open Go Go.Eng Go.Vfs
abbrev RT:TypeId:=173
abbrev fc(y:Str×MF):List Value:=[str y.1,str y.2.data,str y.2.safe,.bool y.2.saved]
def fcs(l:Files):List Value:=l.flatMap fc
def ZA(l:Files):(fcs l).length=l.length*4:=by
 induction l with
 |nil=>rfl
 |cons y r ih=>simp only[fcs,dC,aB,aA,aD]at ih⊢;omega
def ZB(a b:Files):fcs (a++b)=fcs a++fcs b:=by simp[fcs]
def Qb:∀(l:Files) (i j:Nat) (y:Str×MF),j<4->l[i]?=some y->(fcs l)[i*4+j]?=(fc y)[j]?
 |[],i,_,_,_,h=>by simp at h
 |z::r,0,j,y,a,h=>by
  simp only[bG,bB]at h
  subst h
  simp only[fcs,dC,HP,aN]
  rw[dR (by simpa using a)]
 |z::r,i+1,j,y,a,h=>by
  simp only[bI]at h
  have:=Qb r i j y a h
  rw[<-this]
  simp only[fcs,dC]
  rw[dB (by simp;omega)]
  congr 1
  simp
  omega
def Zz(l:Files):∀u∈fcs l,kJ u=true:=by
 intro u b;obtain⟨y,_,a⟩:=yU.1 b;simp only[fc,aX,bU,fT]at a;rcases a with rfl|rfl|rfl|rfl<;>rfl
abbrev FsL(w:World)(v:Value)(l:Files):Prop:=SlAt w RT v l.length (fcs l)
def aD4:tV P0 53 RT 4 56:=⟨by kernel_rfl,by kernel_rfl,by decide⟩
def ixf{l:Files}{y:Str×MF}{K:Value->Prop}(h:FsL w v l)(d:l[i]?=some y)
  (k:∀b o c fr,w.heap[b]?=some (.cells c RT fr)->c[o]?=some (str y.1)->c[o+1]?=some (str y.2.data)->c[o+2]?=some (str y.2.safe)->c[o+3]?=some (.bool y.2.saved)->K (.pointer (some ⟨b,o,none⟩))):fX none 4 v (i64 i) K:=by
 refine ED (size:=4) h (ZA l) (by omega) (bJ.1 d).1 λb o c fr f e=>?_;have g:=λj (a:j<4)=>(e j a).trans (Qb l i j y a d);exact k b o c fr f (g 0 (by omega)) (g 1 (by omega)) (g 2 (by omega)) (g 3 (by omega))
def BQ{z l:List Value}{K:List Value->Prop}(c:z.length=n)(a:l.length=n)(b:K l):kE z [(0,n,.agg l.toArray)] K:=by
 refine⟨by simp[Value.cells,a],by omega,?_⟩;have:List.take 0 z++((Value.agg l.toArray).cells.toList++List.drop (0+n) z)=l:=by
  rw[aN,iQ (by omega)];simp[Value.cells]
 rw[this];exact b
def Pw(w:World)(base:Nat):Own w base RT 4 (.slice none 0 0) 0 (fcs []):=⟨rfl,.inl ⟨rfl,rfl⟩⟩
def zX{base:Nat}{l:Files}{y:Str×MF}(h:Own w base RT 4 v l.length (fcs l))(i:base<=w.heap.size)(q:l.length<=1000000)
  (j:∀v' W,Own W base RT 4 v' (l++[y]).length (fcs (l++[y]))->Chg (HV w base RT) w W->K v' W):
  fV P0 (Builtin.append_ #[53,53] 53 #[v,.slice (some ⟨w.heap.size,0,none⟩) 1 1]) (w.alloc (.cells (fc y).toArray RT)) K:=by
 have a:Ext w (w.alloc (.cells (fc y).toArray RT)):=(by repeat (first|assumption|exact Chg.refl _ _|refine Chg.drew ?_|refine Chg.alloc ?_ _|refine Chg.set ?_ (by first|exact .inl rfl|exact .inr (by omega)|exact .inr (by simp only[eH,size_alloc,size_drew];omega)|(left;simp;done)) _|exact Chg.of_ext (by assumption)));have f:=(Ds (w:=w) (base:=base) (e:=RT) (size:=4) (n:=1) (cs:=fc y) i rfl (by omega)).sl;refine HJ aD4 (base:=base) (h.ext a) f (m:=1) rfl (λu d=>Zz [y] u (by simpa[fcs]using d)) (by omega) (by omega) (by rw[size_alloc];omega) λv' W p g _=>?_;refine j v' W ?_ (Chg.then (S:=HV w base RT) (Chg.of_ext a) g ?_)
 .rw[ZB,aB];have:fcs [y]=fc y:=by simp[fcs]
  rw[this];exact p
 .rintro k r ⟨o,c,b⟩;exact⟨o,c,by rw[EE _ _ _ (by omega)]at b;exact b⟩
def Hi(p:Str):good p=(!p.any badB&&(decide (1<=p.length)&&decide (p.length<=64))):=by
 unfold good;cases p.any badB<;>simp
theorem RF[HX]{p:Str}(B:p.length<=9223372036854775807)(n:K (.bool (good p)) w):aL P0 90 [str p] w K:=by
 refine aEl ?_;unfold W90;refine eK.go (λst W=>∃i,i<=p.length/\st=[i64 (i:Nat)]/\W=w/\(p.take i).any badB=false) (λst _=>match st with|[.int _ i]=>p.length-i.toNat|_=>0) ⟨0,cZ _,rfl,rfl,rfl⟩ ?_;rintro st g W ⟨i,C,rfl,rfl,j⟩;simp(disch:=omega)only[wfx,lC,Nat.reduceLT,aV,aR,bZ,aJ,aK,aI,aC,Nat.reduceAdd,cY,reduceCtorEq,bL,aY];refine⟨λm=>?_,λz=>?_⟩
 .have m:i<p.length:=by omega
  obtain⟨c,l⟩:∃c,p[i]?=some c:=⟨_,aH m⟩;have A:∀{P:UInt8->Prop},P c->∃x,p[((i:Nat):Int).toNat]?=some x/\P x:=λh=>⟨c,by simpa using l,h⟩;refine⟨by omega,c,by simpa using l,?_⟩;have a:badB c=(decide (((c.toNat:Nat):Int)=0)||(decide (((c.toNat:Nat):Int)=10)||decide (((c.toNat:Nat):Int)=32))):=by
   have e:∀y:UInt8,(c==y)=decide (((c.toNat:Nat):Int)=y.toNat):=by
    intro y;rw[qP,iU,fK];constructor
    .rintro rfl;rfl
    .intro h;exact mZ.1 (by omega)
   unfold badB;rw[e 0,e 10,e 32,Bool.or_assoc];rfl
  have k:(p.take (i+1)).any badB=badB c:=by
   rw[jA,l,List.any_append,j];simp
  have DO:badB c=true->good p=false:=by
   intro b;rw[Hi];have:p.any badB=true:=nL.2 ⟨c,bA l,b⟩;simp[this]
  by_cases u:((c.toNat:Nat):Int)=0
  .have r:decide (((c.toNat:Nat):Int)=0)=true:=bS u;have b:badB c=true:=by rw[a,r];rfl
   (try simp(disch:=omega)only[wfx,lC,Nat.reduceLT,aV,aR,bZ,aJ,aK,aI,aC,Nat.reduceAdd,cY,reduceCtorEq,bL,r])
   refine GdW.f λg=>?_
   (try simp(disch:=omega)only[wfx,lC,Nat.reduceLT,aV,aR,bZ,aJ,aK,aI,aC,Nat.reduceAdd,cY,reduceCtorEq,bL])
   refine GdW.f λg=>?_
   (try simp(disch:=omega)only[wfx,lC,Nat.reduceLT,aV,aR,bZ,aJ,aK,aI,aC,Nat.reduceAdd,cY,reduceCtorEq,bL])
   rw[<-DO b];exact n
  .have r:decide (((c.toNat:Nat):Int)=0)=false:=cX u
   (try simp(disch:=omega)only[wfx,lC,Nat.reduceLT,aV,aR,bZ,aJ,aK,aI,aC,Nat.reduceAdd,cY,reduceCtorEq,bL,r])
   refine GdW.t ?_
   (try simp(disch:=omega)only[wfx,lC,Nat.reduceLT,aV,aR,bZ,aJ,aK,aI,aC,Nat.reduceAdd,cY,reduceCtorEq,bL])
   refine⟨by omega,c,by simpa using l,?_⟩;intro g
   (try simp(disch:=omega)only[wfx,lC,Nat.reduceLT,aV,aR,bZ,aJ,aK,aI,aC,Nat.reduceAdd,cY,reduceCtorEq,bL])
   by_cases o:((c.toNat:Nat):Int)=10
   .have d:decide (((c.toNat:Nat):Int)=10)=true:=bS o;have b:badB c=true:=by rw[a,d];simp
    (try simp(disch:=omega)only[wfx,lC,Nat.reduceLT,aV,aR,bZ,aJ,aK,aI,aC,Nat.reduceAdd,cY,reduceCtorEq,bL,d])
    refine GdW.f λg=>?_
    (try simp(disch:=omega)only[wfx,lC,Nat.reduceLT,aV,aR,bZ,aJ,aK,aI,aC,Nat.reduceAdd,cY,reduceCtorEq,bL])
    rw[<-DO b];exact n
   .have d:decide (((c.toNat:Nat):Int)=10)=false:=cX o
    (try simp(disch:=omega)only[wfx,lC,Nat.reduceLT,aV,aR,bZ,aJ,aK,aI,aC,Nat.reduceAdd,cY,reduceCtorEq,bL,d])
    refine GdW.t ?_
    (try simp(disch:=omega)only[wfx,lC,Nat.reduceLT,aV,aR,bZ,aJ,aK,aI,aC,Nat.reduceAdd,cY,reduceCtorEq,bL])
    refine⟨by omega,c,by simpa using l,?_⟩;intro g;by_cases s:((c.toNat:Nat):Int)=32
    .have q:decide (((c.toNat:Nat):Int)=32)=true:=bS s;have b:badB c=true:=by rw[a,q];simp
     (try simp(disch:=omega)only[wfx,lC,Nat.reduceLT,aV,aR,bZ,aJ,aK,aI,aC,Nat.reduceAdd,cY,reduceCtorEq,bL,q])
     rw[<-DO b];exact n
    .have q:decide (((c.toNat:Nat):Int)=32)=false:=cX s;have b:badB c=false:=by rw[a,r,d,q];rfl
     (try simp(disch:=omega)only[wfx,lC,Nat.reduceLT,aV,aR,bZ,aJ,aK,aI,aC,Nat.reduceAdd,cY,reduceCtorEq,bL,q])
     have v:IntKind.i64.wrap ((i:Int)+1)=((i+1:Nat):Int):=by rw[fZ (by omega) (by omega)];simp
     rw[v];exact⟨⟨i+1,by omega,rfl,by rw[k];exact b⟩,by simp only[bD];omega⟩
 .rw[iD (by omega)]at j;by_cases o:1<=p.length
  .have d:decide ((1:Int)<=(p.length:Int))=true:=bS (by omega)
   (try simp(disch:=omega)only[wfx,lC,Nat.reduceLT,aV,aR,bZ,aJ,aK,aI,aC,Nat.reduceAdd,cY,reduceCtorEq,bL,d])
   refine GdW.t ?_
   (try simp(disch:=omega)only[wfx,lC,Nat.reduceLT,aV,aR,bZ,aJ,aK,aI,aC,Nat.reduceAdd,cY,reduceCtorEq,bL])
   intro g
   (try simp(disch:=omega)only[wfx,lC,Nat.reduceLT,aV,aR,bZ,aJ,aK,aI,aC,Nat.reduceAdd,cY,reduceCtorEq,bL])
   have:good p=decide ((p.length:Int)<=64):=by
    rw[Hi,j];simp only[dG,eF,o,dO];rw[decide_eq_decide];omega
   rw[<-this];exact n
  .have d:decide ((1:Int)<=(p.length:Int))=false:=cX (by omega)
   (try simp(disch:=omega)only[wfx,lC,Nat.reduceLT,aV,aR,bZ,aJ,aK,aI,aC,Nat.reduceAdd,cY,reduceCtorEq,bL,d])
   refine GdW.f λg=>?_
   (try simp(disch:=omega)only[wfx,lC,Nat.reduceLT,aV,aR,bZ,aJ,aK,aI,aC,Nat.reduceAdd,cY,reduceCtorEq,bL])
   have:good p=false:=by rw[Hi];simp[o]
   rw[<-this];exact n
def RefV(w:World)(v:Value)(s:MS):Prop:=∃p c,v=.agg [.slice p s.files.length c,i64 s.steps,i64 s.left,.bool s.dead].toArray/\FsL w (.slice p s.files.length c) s.files
def RefV.chg{s:MS}(h:RefV w v s)(a:Chg S w W)(b:∀k c fr,S k->w.heap[k]?≠some (.cells c RT fr)):RefV W v s:=by
 obtain⟨p,c,e,h⟩:=h;exact⟨p,c,e,h.chg a b⟩
def RefV.ext{s:MS}(h:RefV w v s)(a:Ext w W):RefV W v s:=h.chg a λ_ _ _ e=>e.elim
def Uv(a b:Files)(p:Str):lkM (a++b) p=(lkM a p).or (lkM b p):=by
 induction a with
 |nil=>simp[lkM]
 |cons y r ih=>
  obtain⟨k,x⟩:=y;simp only[fS,lkM];split
  .rfl
  .exact ih
def SF(a b:Files)(p:Str):wo (a++b) p=wo a p++wo b p:=by
 induction a with
 |nil=>rfl
 |cons y r ih=>
  obtain⟨k,x⟩:=y;simp only[fS,wo];split
  .exact ih
  .rw[ih];rfl
def aD8{l:Files}{y:Str×MF}(h:l[i]?=some y):l=l.take i++y::l.drop (i+1):=by
 have b:l.drop i=y::l.drop (i+1):=by
  obtain⟨a,e⟩:=bJ.1 h;rw[eW a,e]
 rw[<-b,rX]
def BJ{l:Files}{y:Str×MF}(h:l[i]?=some y):l.take (i+1)=l.take i++[y]:=by rw[jA,h];rfl
theorem ZC[HX]{s:MS}{p:Str}(h:RefV w v s)(D:s.files.length<=64)
  (m:∀r W,Ext w W->((r=-1/\lkM s.files p=none)\/∃(i:Nat) (x:MF),r=(i:Int)/\s.files[i]?=some (p,x)/\lkM s.files p=some x)->K (i64 r) W):aL P0 89 [v,str p] w K:=by
 obtain⟨n,t,rfl,z⟩:=h;refine aEm ?_;unfold W89;simp(disch:=omega)only[wfx,lC,Nat.reduceLT,aV,aR,bZ,aJ,aK,aI,aC,Nat.reduceAdd,cY,reduceCtorEq,bL];generalize e:(World.alloc _ _)=w1;have j:Ext w w1:=by subst e;exact(by repeat (first|assumption|exact Chg.refl _ _|refine Chg.drew ?_|refine Chg.alloc ?_ _|refine Chg.set ?_ (by first|exact .inl rfl|exact .inr (by omega)|exact .inr (by simp only[eH,size_alloc,size_drew];omega)|(left;simp;done)) _|exact Chg.of_ext (by assumption)))
 have l:w1.heap[w.heap.size]?=some (.cells #[.slice n s.files.length t,i64 s.steps,i64 s.left,.bool s.dead] 55 (0,0)):=by subst e;simp(disch:=omega)only[wfx,lC,Nat.reduceLT,aV,aR,bZ,aJ,aK,aI,aC,Nat.reduceAdd,cY,reduceCtorEq,bL]
 clear e;refine eK.go (λst W=>∃i,i<=s.files.length/\st=[i64 (i:Nat)]/\W=w1/\lkM (s.files.take i) p=none) (λst _=>match st with|[.int _ i]=>s.files.length-i.toNat|_=>0) ⟨0,cZ _,rfl,rfl,rfl⟩ ?_;rintro st g W ⟨i,E,rfl,rfl,d⟩;simp(disch:=omega)only[wfx,lC,Nat.reduceLT,aV,aR,bZ,aJ,aK,aI,aC,Nat.reduceAdd,cY,reduceCtorEq,bL,aY,l];refine⟨λf=>?_,λA=>?_⟩
 .have f:i<s.files.length:=by omega
  obtain⟨⟨q,x⟩,a⟩:∃y,s.files[i]?=some y:=⟨_,aH f⟩;refine ixf (z.ext j) a λb o c fr B C _ _ _=>?_;simp(disch:=omega)only[wfx,lC,Nat.reduceLT,aV,aR,bZ,aJ,aK,aI,aC,Nat.reduceAdd,cY,reduceCtorEq,bL,B,C,aY];refine⟨λk=>?_,λk=>?_⟩
  .subst k;refine m _ _ j (.inr ⟨i,x,rfl,a,?_⟩);rw[aD8 a,Uv,d];simp[lkM]
  .have u:IntKind.i64.wrap ((i:Int)+1)=((i+1:Nat):Int):=by rw[fZ (by omega) (by omega)];simp
   rw[u];refine⟨⟨i+1,by omega,rfl,?_⟩,by simp only[bD];omega⟩;rw[BJ a,Uv,d];simp[lkM,k]
 .rw[iD (by omega)]at d;exact m _ _ j (.inl ⟨rfl,d⟩)
theorem KQ[HX]{l:Files}{p:Str}(h:FsL w v l)(M:l.length<=100)
  (H:∀v' W,FsL W v' (wo l p)->Ext w W->K v' W):aL P0 132 [v,str p] w K:=by
 refine aBh ?_;unfold aGV;rw[gQ h];refine eK.go (λst W=>∃i u,i<=l.length/\st=[u,i64 (i:Nat)]/\Own W w.heap.size RT 4 u (wo (l.take i) p).length (fcs (wo (l.take i) p))/\Ext w W) (λst _=>match st with|[_,.int _ i]=>l.length-i.toNat|_=>0)
  ⟨0,_,cZ _,rfl,Pw _ _,Chg.refl _ _⟩ ?_
 rintro st g W ⟨i,u,O,rfl,s,f⟩;have n:=SlAt.ext h f;simp(disch:=omega)only[wfx,lC,Nat.reduceLT,aV,aR,bZ,aJ,aK,aI,aC,Nat.reduceAdd,cY,reduceCtorEq,bL,aY];refine⟨λm=>?_,λF=>?_⟩
 .have m:i<l.length:=by omega
  obtain⟨⟨q,x⟩,a⟩:∃y,l[i]?=some y:=⟨_,aH m⟩;have D:(wo (l.take i) p).length<=100:=by have:=(wo_sub (l.take i) p).length_le;rw[cG]at this;omega
  refine dE.cut (λC r=>∃u,C=[u]/\Own r w.heap.size RT 4 u (wo (l.take (i+1)) p).length (fcs (wo (l.take (i+1)) p))/\Ext w r) ?_ ?_
  .refine ixf n a λb o c fr A B _ _ _=>?_;simp(disch:=omega)only[wfx,lC,Nat.reduceLT,aV,aR,bZ,aJ,aK,aI,aC,Nat.reduceAdd,cY,reduceCtorEq,bL,A,B,aY];refine⟨λj=>?_,λj=>?_⟩
   .refine ixf n a λb o c fr A B L J I=>?_;simp(disch:=omega)only[wfx,lC,Nat.reduceLT,aV,aR,bZ,aJ,aK,aI,aC,Nat.reduceAdd,cY,reduceCtorEq,bL,A,B,L,J,I];refine BQ rfl rfl ?_;refine zX (y:=(q,x)) s (by have:=f.size;omega) (by omega) λt r d G=>?_;refine⟨t,rfl,?_,f.then G λk N e=>by have:=e.1;omega⟩;rw[BJ a,SF];simp only[wo,aE j];exact d
   .have j:q=p:=by simpa using j
    refine⟨u,rfl,?_,f⟩;rw[BJ a,SF];simp only[wo,aO j,dL];exact s
  .rintro C g3 r ⟨t,rfl,d,z⟩;have E:IntKind.i64.wrap ((i:Int)+1)=((i+1:Nat):Int):=by rw[fZ (by omega) (by omega)];simp
   simp(disch:=omega)only[wfx,lC,Nat.reduceLT,aV,aR,bZ,aJ,aK,aI,aC,Nat.reduceAdd,cY,reduceCtorEq,bL,E];exact⟨⟨i+1,t,by omega,rfl,d,z⟩,by simp only[bD];omega⟩
 .rw[iD (by omega)]at s;exact H _ _ s.sl f
def Ha(a b:Files)(p:Str)(x:MF)(h:∀y∈a,Op.bytesLess p y.1=false):ins (a++b) p x=a++ins b p x:=by
 induction a with
 |nil=>rfl
 |cons y r ih=>
  obtain⟨k,u⟩:=y;have:=h _ bC;simp only[fS,ins,this,rV,vJ];rw[ih λz c=>h z (aF _ c)]
def Mg(a b:Files)(p:Str)(x:MF)(h:∃y∈a,Op.bytesLess p y.1=true):ins (a++b) p x=ins a p x++b:=by
 induction a with
 |nil=>obtain⟨y,e,_⟩:=h;cases e
 |cons y r ih=>
  obtain⟨k,u⟩:=y;simp only[fS,ins];split
  .rfl
  .rename_i f;obtain⟨z,d,c⟩:=h;rcases aX.1 d with rfl|d
   .exact absurd c f
   .rw[ih ⟨z,d,c⟩];rfl
def UM(a:Files)(p:Str)(x:MF)(h:∀y∈a,Op.bytesLess p y.1=false):ins a p x=a++[(p,x)]:=by
 have:=Ha a [] p x h;simpa[ins]using this
def Zk{s:Nat}{i:Value}(h:fX none s v i F):∃x,F x/\∀K:Value->Prop,K x->fX none s v i K:=by
 unfold fX at h⊢;split at h
 all_goals first
  |exact h.elim
  |exact⟨_,h.2.2,λK a=>⟨h.1,h.2.1,a⟩⟩
def GqW.t{A:(Value->Prop)->Prop}{B:Value->Prop}(v:Value)(b:A (λx=>x=v))(a:B v):GqW true A B:=⟨v,λ_=>b,(λh=>by cases h),a⟩
def GqW.f{A:(Value->Prop)->Prop}{B:Value->Prop}(h:B undef):GqW false A B:=⟨undef,(λh=>by cases h),λ_=>rfl,h⟩
theorem SG[HX]{l:Files}{p:Str}{x:MF}(h:FsL w v l)(hn:l.length<=100)
  (hK:∀v' W,FsL W v' (wth l p x)->Ext w W->K v' W):aL P0 92 [v,.agg (fc (p,x)).toArray] w K:=by
 refine aEj ?_;unfold W92;simp(disch:=omega)only[wfx,lC,Nat.reduceLT,aV,aR,bZ,aJ,aK,aI,aC,Nat.reduceAdd,cY,reduceCtorEq,bL];generalize M:(World.alloc _ _)=w1;have R:Ext w w1:=by subst M;exact(by repeat (first|assumption|exact Chg.refl _ _|refine Chg.drew ?_|refine Chg.alloc ?_ _|refine Chg.set ?_ (by first|exact .inl rfl|exact .inr (by omega)|exact .inr (by simp only[eH,size_alloc,size_drew];omega)|(left;simp;done)) _|exact Chg.of_ext (by assumption)))
 have Y:w1.heap[w.heap.size]?=some (.cells #[str p,str x.data,str x.safe,.bool x.saved] 173 (0,0)):=by subst M;simp(disch:=omega)only[wfx,lC,Nat.reduceLT,aV,aR,bZ,aJ,aK,aI,aC,Nat.reduceAdd,cY,reduceCtorEq,bL]
 clear M;have I:w.heap.size<w1.heap.size:=(fY.1 Y).1;refine KQ (h.ext R) hn λt w2 ht J=>?_;have hs:(wo l p).length<=100:=dN (wo_sub l p).length_le hn;have X:w2.heap[w.heap.size]?=_:=(J.heap _ I id).trans Y;have T:=dM I J.size;have B:=R.trans J;rw[gQ ht];have V:wth l p x=ins (wo l p) p x:=rfl;rw[V]at hK;generalize wo l p=L at*
 refine eK.go (λst W=>∃i u d,i<=L.length/\st=[u,.bool d,i64 (i:Nat)]/\Ext w2 W/\
   ((d=false/\(∀y∈L.take i,Op.bytesLess p y.1=false)/\Own W w2.heap.size RT 4 u (L.take i).length (fcs (L.take i)))\/
    (d=true/\(∃y∈L.take i,Op.bytesLess p y.1=true)/\Own W w2.heap.size RT 4 u (ins (L.take i) p x).length (fcs (ins (L.take i) p x))))) (λst _=>match st with|[_,_,.int _ i]=>L.length-i.toNat|_=>0)
  ⟨0,_,false,cZ _,rfl,Chg.refl _ _,.inl ⟨rfl,by simp,Pw _ _⟩⟩ ?_
 rintro st g W ⟨i,u,d,hi,rfl,E,N⟩;have hl:=SlAt.ext ht E;have D:W.heap[w.heap.size]?=_:=(E.heap _ T id).trans X;have U:∀j,(ins (L.take j) p x).length<=102:=λj=>by
  rw[(ins_perm _ _ _).length_eq];rw[aA,cG];omega
 simp(disch:=omega)only[wfx,lC,Nat.reduceLT,aV,aR,bZ,aJ,aK,aI,aC,Nat.reduceAdd,cY,reduceCtorEq,bL,aY];refine⟨λq=>?_,λhv=>?_⟩
 .have q:i<L.length:=by omega
  obtain⟨y,C⟩:∃y,L[i]?=some y:=⟨_,aH q⟩;have A:=BJ C;have hr:(L.take i).length<=100:=by rw[cG];omega
  refine dE.cut (λs5 O=>∃P d5,s5=[P,.bool d5]/\Ext w2 O/\
   ((d5=false/\Op.bytesLess p y.1=false/\(∀y∈L.take i,Op.bytesLess p y.1=false)/\Own O w2.heap.size RT 4 P (L.take i).length (fcs (L.take i)))\/
    (d5=true/\((∃y∈L.take i,Op.bytesLess p y.1=true)/\Own O w2.heap.size RT 4 P (ins (L.take i) p x).length (fcs (ins (L.take i) p x))\/
      Op.bytesLess p y.1=true/\(∀y∈L.take i,Op.bytesLess p y.1=false)/\Own O w2.heap.size RT 4 P (L.take i++[(p,x)]).length (fcs (L.take i++[(p,x)])))))) ?_ ?_
  .rcases N with⟨rfl,n,s⟩|⟨rfl,m,s⟩
   ·(try simp(disch:=omega)only[wfx,lC,Nat.reduceLT,aV,aR,bZ,aJ,aK,aI,aC,Nat.reduceAdd,cY,reduceCtorEq,bL])
    refine GqW.t (.pointer (some ⟨w.heap.size,0,none⟩)) rfl ?_;refine GqW.t (str p) (by simp(disch:=omega)only[wfx,lC,Nat.reduceLT,aV,aR,bZ,aJ,aK,aI,aC,Nat.reduceAdd,cY,reduceCtorEq,bL,D]) ?_;refine GqW.t t rfl ?_;refine GqW.t (i64 (i:Nat)) rfl ?_;obtain⟨px,⟨b,o,c,fr,rfl,Z,h0⟩,hj⟩:=Zk (ixf (K:=λz=>∃b o c fr,z=.pointer (some ⟨b,o,none⟩)/\W.heap[b]?=some (.cells c RT fr)/\c[o]?=some (str y.1)) hl C λb o c fr Z h0 _ _ _=>⟨b,o,c,fr,rfl,Z,h0⟩);refine GqW.t _ (hj _ rfl) ?_;refine GqW.t (.pointer (some ⟨b,o,none⟩)) rfl ?_;refine GqW.t (str y.1) (by simp(disch:=omega)only[wfx,lC,Nat.reduceLT,aV,aR,bZ,aJ,aK,aI,aC,Nat.reduceAdd,cY,reduceCtorEq,bL,Z,h0]) ?_;refine GqW.t (.bool (Op.bytesLess p y.1)) (by simp(disch:=omega)only[wfx,lC,Nat.reduceLT,aV,aR,bZ,aJ,aK,aI,aC,Nat.reduceAdd,cY,reduceCtorEq,bL]) ?_;cases q:Op.bytesLess p y.1 with
    |true=>
     simp(disch:=omega)only[wfx,lC,Nat.reduceLT,aV,aR,bZ,aJ,aK,aI,aC,Nat.reduceAdd,cY,reduceCtorEq,bL,D];refine BQ rfl rfl ?_;have Q:Ext W W.drew:=(by repeat (first|assumption|exact Chg.refl _ _|refine Chg.drew ?_|refine Chg.alloc ?_ _|refine Chg.set ?_ (by first|exact .inl rfl|exact .inr (by omega)|exact .inr (by simp only[eH,size_alloc,size_drew];omega)|(left;simp;done)) _|exact Chg.of_ext (by assumption)));refine zX (w:=W.drew) (y:=(p,x)) (s.ext Q) (by have:=E.size;simp only[size_drew];omega) (by omega) λG w3 a F=>?_;exact⟨G,true,rfl,(E.trans Q).then F λk hk e=>by have:=e.1;omega,.inr ⟨rfl,.inr ⟨n,a⟩⟩⟩
    |false=>
     simp(disch:=omega)only[wfx,lC,Nat.reduceLT,aV,aR,bZ,aJ,aK,aI,aC,Nat.reduceAdd,cY,reduceCtorEq,bL];exact⟨u,false,rfl,E.drew,.inl ⟨rfl,n,s.ext (by repeat (first|assumption|exact Chg.refl _ _|refine Chg.drew ?_|refine Chg.alloc ?_ _|refine Chg.set ?_ (by first|exact .inl rfl|exact .inr (by omega)|exact .inr (by simp only[eH,size_alloc,size_drew];omega)|(left;simp;done)) _|exact Chg.of_ext (by assumption)))⟩⟩
   ·(try simp(disch:=omega)only[wfx,lC,Nat.reduceLT,aV,aR,bZ,aJ,aK,aI,aC,Nat.reduceAdd,cY,reduceCtorEq,bL])
    refine GqW.f ?_;refine GqW.f ?_;refine GqW.f ?_;refine GqW.f ?_;refine GqW.f ?_;refine GqW.f ?_;refine GqW.f ?_;refine GqW.f ?_
    (try simp(disch:=omega)only[wfx,lC,Nat.reduceLT,aV,aR,bZ,aJ,aK,aI,aC,Nat.reduceAdd,cY,reduceCtorEq,bL])
    exact⟨u,true,rfl,E.drew,.inr ⟨rfl,.inl ⟨m,s.ext (by repeat (first|assumption|exact Chg.refl _ _|refine Chg.drew ?_|refine Chg.alloc ?_ _|refine Chg.set ?_ (by first|exact .inl rfl|exact .inr (by omega)|exact .inr (by simp only[eH,size_alloc,size_drew];omega)|(left;simp;done)) _|exact Chg.of_ext (by assumption)))⟩⟩⟩
  .rintro s5 g5 O ⟨P,d5,rfl,r,S⟩;simp(disch:=omega)only[wfx,lC,Nat.reduceLT,aV,aR,bZ,aJ,aK,aI,aC,Nat.reduceAdd,cY,reduceCtorEq,bL];refine ixf (SlAt.ext ht r) C λb o c fr Z h0 h1 h2 h3=>?_;simp(disch:=omega)only[wfx,lC,Nat.reduceLT,aV,aR,bZ,aJ,aK,aI,aC,Nat.reduceAdd,cY,reduceCtorEq,bL,Z,h0,h1,h2,h3];refine BQ rfl rfl ?_;have hw:IntKind.i64.wrap ((i:Int)+1)=((i+1:Nat):Int):=by rw[fZ (by omega) (by omega)];simp
   rw[hw];rcases S with⟨rfl,q,n,s⟩|⟨rfl,⟨m,s⟩|⟨q,n,s⟩⟩
   .refine zX (y:=y) s (by have:=r.size;omega) (by omega) λG w3 a F=>?_;refine⟨⟨i+1,G,false,by omega,rfl,r.then F λk hk e=>by have:=e.1;omega,.inl ⟨rfl,?_,?_⟩⟩,by simp only[bD];omega⟩
    .rw[A];intro z H;rcases bM.1 H with H|H
     .exact n z H
     .simp only[bO]at H;subst H;exact q
    .rw[A];exact a
   .refine zX (y:=y) s (by have:=r.size;omega) (by have:=U i;omega) λG w3 a F=>?_;refine⟨⟨i+1,G,true,by omega,rfl,r.then F λk hk e=>by have:=e.1;omega,.inr ⟨rfl,?_,?_⟩⟩,by simp only[bD];omega⟩
    .obtain⟨z,H,hg⟩:=m;exact⟨z,by rw[A];exact cH _ H,hg⟩
    .rw[A,Mg _ _ _ _ m];exact a
   .refine zX (y:=y) s (by have:=r.size;omega) (by simp;omega) λG w3 a F=>?_;refine⟨⟨i+1,G,true,by omega,rfl,r.then F λk hk e=>by have:=e.1;omega,.inr ⟨rfl,⟨y,by rw[A];simp,q⟩,?_⟩⟩,by simp only[bD];omega⟩;rw[A,Ha _ _ _ _ n];have:ins [y] p x=[(p,x),y]:=by obtain⟨k,z⟩:=y;simp only[ins];rw[aO q]
    rw[this];simpa using a
 .have ha:L.take i=L:=iD (by omega);rw[ha]at N;rcases N with⟨rfl,n,s⟩|⟨rfl,m,s⟩
  .simp(disch:=omega)only[wfx,lC,Nat.reduceLT,aV,aR,bZ,aJ,aK,aI,aC,Nat.reduceAdd,cY,reduceCtorEq,bL,D];refine BQ rfl rfl ?_;refine zX (y:=(p,x)) s (by have:=E.size;omega) (by omega) λG w3 a F=>?_;refine hK _ _ ?_ ((B.trans E).then F λk hk e=>by have:=e.1;have:=B.size;omega);rw[UM _ _ _ n];exact a.sl
  .simp(disch:=omega)only[wfx,lC,Nat.reduceLT,aV,aR,bZ,aJ,aK,aI,aC,Nat.reduceAdd,cY,reduceCtorEq,bL];exact hK _ _ s.sl (B.trans E)
abbrev rl(p:Option Addr)(n c:Nat)(s:MS):List Value:=[.slice p n c,i64 s.steps,i64 s.left,.bool s.dead]
abbrev rv(p:Option Addr)(n c:Nat)(s:MS):Value:=.agg (rl p n c s).toArray
abbrev rz:List Value:=[.slice none 0 0,i64 0,i64 0,.bool false]
def new_ref[HX](a:∀v W,RefV W v newM->Ext w W->K v W):aL P0 48 [] w K:=by
 refine aEJ ?_;unfold W48;simp(disch:=omega)only[wfx,lC,Nat.reduceLT,aV,aR,bZ,aJ,aK,aI,aC,Nat.reduceAdd,cY,reduceCtorEq,bL];exact a _ _ ⟨none,0,rfl,SlAt.nil _ _⟩ (by repeat (first|assumption|exact Chg.refl _ _|refine Chg.drew ?_|refine Chg.alloc ?_ _|refine Chg.set ?_ (by first|exact .inl rfl|exact .inr (by omega)|exact .inr (by simp only[eH,size_alloc,size_drew];omega)|(left;simp;done)) _|exact Chg.of_ext (by assumption)))
theorem Td[HX]{p:Option Addr}{c:Nat}{s:MS}(H:∀W,Ext w W->K (.tuple [rv p n c (vstepM s).1,i64 (vstepM s).2].toArray) W):aL P0 91 [rv p n c s] w K:=by
 obtain⟨fs,st,j,d⟩:=s;refine aEk ?_;unfold W91;refine gF λa P S M h C=>?_;refine cO λb w2 R L i z=>?_;have h:=z.at h id;have G:=C.trans z;have x:a≠b:=by omega
 have fin:∀s':MS,∀e:Int,vstepM ⟨fs,st,j,d⟩=(s',e)->∀v u,Ext w v->Chg (λk=>k=b) v u->K (.tuple [rv p n c s',i64 e].toArray) u:=by
  intro s' e D v u O N;have:=H u (O.new N (by omega));rw[D]at this;exact this
 clear H;have o:vstepM ⟨fs,st,j,d⟩=(⟨fs,st,j,true⟩,5)->stW 1 (.pointer (some ⟨a,3,none⟩)) (.bool true) w2 (λA=>ldW true 4 (.pointer (some ⟨a,0,none⟩)) A λt12=>stW 4 (.pointer (some ⟨b,0,none⟩)) t12 A λy=>ldW true 4 (.pointer (some ⟨b,0,none⟩)) y λJ=>K (.tuple #[J,.int .i64 5]) y):=by
  intro D;refine lJ h rfl (by simp) λv _ h m=>?_;have i:=m.at i (kY x);refine gL (l:=rl p n c ⟨fs,st,j,true⟩) h rfl ?_;exact Am (K:=λr y=>K (.tuple #[r,.int .i64 5]) y) i rfl rfl rfl λu q=>fin _ _ D v u (G.new m (by omega)) q
 simp only[eU,eL,eF,eB,fM,eY,eQ,dK,dW,jJ,eG,eP,iI,iS,fD,cM,aZ,Nat.reduceLT,cP,gR,jH,jG,jF,bW,fR,eC,iC,gG,gN,bY,fE,iB,jQ,jS,jT,jR,dJ,bH,fB,jN,iJ,jK,gI,jL,jM,bX,fI,jP,jE,eR,iT,gK,kS,iA,jD,jO,fJ,fF,fH,kU,gX,jV,aV,aR,iZ,iN,jW,iK,dF,cI,bN,cS,bT,fU,gO,fW,heap_drew,size_drew,eH,size_alloc,aJ,bB,dQ,fQ,cU,aK,bP,bG,bI,aI,aA,aD,aC,aP,aU,aG,bQ,aN,bL,Nat.reduceAdd,dT,dG,cY,cV,dD,reduceCtorEq,dO,dA,h,i];cases d with
 |true=>
  (try simp only[eU,eL,eF,eB,fM,eY,eQ,dK,dW,jJ,eG,eP,iI,iS,fD,cM,aZ,Nat.reduceLT,cP,gR,jH,jG,jF,bW,fR,eC,iC,gG,gN,bY,fE,iB,jQ,jS,jT,jR,dJ,bH,fB,jN,iJ,jK,gI,jL,jM,bX,fI,jP,jE,eR,iT,gK,kS,iA,jD,jO,fJ,fF,fH,kU,gX,jV,aV,aR,iZ,iN,jW,iK,dF,cI,bN,cS,bT,fU,gO,fW,heap_drew,size_drew,eH,size_alloc,aJ,bB,dQ,fQ,cU,aK,bP,bG,bI,aI,aA,aD,aC,aP,aU,aG,bQ,aN,bL,Nat.reduceAdd,dT,dG,cY,cV,dD,reduceCtorEq,dO,dA])
  refine GdW.f λg=>?_
  (try simp only[eU,eL,eF,eB,fM,eY,eQ,dK,dW,jJ,eG,eP,iI,iS,fD,cM,aZ,Nat.reduceLT,cP,gR,jH,jG,jF,bW,fR,eC,iC,gG,gN,bY,fE,iB,jQ,jS,jT,jR,dJ,bH,fB,jN,iJ,jK,gI,jL,jM,bX,fI,jP,jE,eR,iT,gK,kS,iA,jD,jO,fJ,fF,fH,kU,gX,jV,aV,aR,iZ,iN,jW,iK,dF,cI,bN,cS,bT,fU,gO,fW,heap_drew,size_drew,eH,size_alloc,aJ,bB,dQ,fQ,cU,aK,bP,bG,bI,aI,aA,aD,aC,aP,aU,aG,bQ,aN,bL,Nat.reduceAdd,dT,dG,cY,cV,dD,reduceCtorEq,dO,dA])
  exact o (by simp[vstepM])
 |false=>
  (try simp only[eU,eL,eF,eB,fM,eY,eQ,dK,dW,jJ,eG,eP,iI,iS,fD,cM,aZ,Nat.reduceLT,cP,gR,jH,jG,jF,bW,fR,eC,iC,gG,gN,bY,fE,iB,jQ,jS,jT,jR,dJ,bH,fB,jN,iJ,jK,gI,jL,jM,bX,fI,jP,jE,eR,iT,gK,kS,iA,jD,jO,fJ,fF,fH,kU,gX,jV,aV,aR,iZ,iN,jW,iK,dF,cI,bN,cS,bT,fU,gO,fW,heap_drew,size_drew,eH,size_alloc,aJ,bB,dQ,fQ,cU,aK,bP,bG,bI,aI,aA,aD,aC,aP,aU,aG,bQ,aN,bL,Nat.reduceAdd,dT,dG,cY,cV,dD,reduceCtorEq,dO,dA])
  refine GdW.t ?_;intro g
  (try simp only[eU,eL,eF,eB,fM,eY,eQ,dK,dW,jJ,eG,eP,iI,iS,fD,cM,aZ,Nat.reduceLT,cP,gR,jH,jG,jF,bW,fR,eC,iC,gG,gN,bY,fE,iB,jQ,jS,jT,jR,dJ,bH,fB,jN,iJ,jK,gI,jL,jM,bX,fI,jP,jE,eR,iT,gK,kS,iA,jD,jO,fJ,fF,fH,kU,gX,jV,aV,aR,iZ,iN,jW,iK,dF,cI,bN,cS,bT,fU,gO,fW,heap_drew,size_drew,eH,size_alloc,aJ,bB,dQ,fQ,cU,aK,bP,bG,bI,aI,aA,aD,aC,aP,aU,aG,bQ,aN,bL,Nat.reduceAdd,dT,dG,cY,cV,dD,reduceCtorEq,dO,dA])
  by_cases B:j=0
  .have F:decide (j=0)=true:=bS B
   (try simp only[eU,eL,eF,eB,fM,eY,eQ,dK,dW,jJ,eG,eP,iI,iS,fD,cM,aZ,Nat.reduceLT,cP,gR,jH,jG,jF,bW,fR,eC,iC,gG,gN,bY,fE,iB,jQ,jS,jT,jR,dJ,bH,fB,jN,iJ,jK,gI,jL,jM,bX,fI,jP,jE,eR,iT,gK,kS,iA,jD,jO,fJ,fF,fH,kU,gX,jV,aV,aR,iZ,iN,jW,iK,dF,cI,bN,cS,bT,fU,gO,fW,heap_drew,size_drew,eH,size_alloc,aJ,bB,dQ,fQ,cU,aK,bP,bG,bI,aI,aA,aD,aC,aP,aU,aG,bQ,aN,bL,Nat.reduceAdd,dT,dG,cY,cV,dD,reduceCtorEq,dO,dA,F])
   exact o (by simp[vstepM,B])
  .have F:decide (j=0)=false:=cX B;have e:vstepM ⟨fs,st,j,false⟩=(⟨fs,IntKind.i64.wrap (st+1),if j>0 then IntKind.i64.wrap (j-1)else j,false⟩,0):=by simp[vstepM,B]
   (try simp only[eU,eL,eF,eB,fM,eY,eQ,dK,dW,jJ,eG,eP,iI,iS,fD,cM,aZ,Nat.reduceLT,cP,gR,jH,jG,jF,bW,fR,eC,iC,gG,gN,bY,fE,iB,jQ,jS,jT,jR,dJ,bH,fB,jN,iJ,jK,gI,jL,jM,bX,fI,jP,jE,eR,iT,gK,kS,iA,jD,jO,fJ,fF,fH,kU,gX,jV,aV,aR,iZ,iN,jW,iK,dF,cI,bN,cS,bT,fU,gO,fW,heap_drew,size_drew,eH,size_alloc,aJ,bB,dQ,fQ,cU,aK,bP,bG,bI,aI,aA,aD,aC,aP,aU,aG,bQ,aN,bL,Nat.reduceAdd,dT,dG,cY,cV,dD,reduceCtorEq,dO,dA,F,h])
   refine dE.cut (λ_ W=>W.heap[a]?=some (.cells [.slice p n c,i64 st,i64 (if j>0 then IntKind.i64.wrap (j-1)else j),.bool false].toArray 55 (0,0))/\Chg (λk=>k=a) w2 W) ?_ ?_
   .simp only[eU,eL,eF,eB,fM,eY,eQ,dK,dW,jJ,eG,eP,iI,iS,fD,cM,aZ,Nat.reduceLT,cP,gR,jH,jG,jF,bW,fR,eC,iC,gG,gN,bY,fE,iB,jQ,jS,jT,jR,dJ,bH,fB,jN,iJ,jK,gI,jL,jM,bX,fI,jP,jE,eR,iT,gK,kS,iA,jD,jO,fJ,fF,fH,kU,gX,jV,aV,aR,iZ,iN,jW,iK,dF,cI,bN,cS,bT,fU,gO,fW,heap_drew,size_drew,eH,size_alloc,aJ,bB,dQ,fQ,cU,aK,bP,bG,bI,aI,aA,aD,aC,aP,aU,aG,bQ,aN,bL,Nat.reduceAdd,dT,dG,cY,cV,dD,reduceCtorEq,dO,dA,aY];refine⟨λI=>?_,λI=>⟨?_,Chg.refl _ _⟩⟩
    .refine lJ h rfl (by simp) λv _ h m=>⟨?_,m⟩;rw[h,aO I];rfl
    .rw[h,aE (by omega)]
   .rintro Q g8 v ⟨h,m⟩;simp only[eU,eL,eF,eB,fM,eY,eQ,dK,dW,jJ,eG,eP,iI,iS,fD,cM,aZ,Nat.reduceLT,cP,gR,jH,jG,jF,bW,fR,eC,iC,gG,gN,bY,fE,iB,jQ,jS,jT,jR,dJ,bH,fB,jN,iJ,jK,gI,jL,jM,bX,fI,jP,jE,eR,iT,gK,kS,iA,jD,jO,fJ,fF,fH,kU,gX,jV,aV,aR,iZ,iN,jW,iK,dF,cI,bN,cS,bT,fU,gO,fW,heap_drew,size_drew,eH,size_alloc,aJ,bB,dQ,fQ,cU,aK,bP,bG,bI,aI,aA,aD,aC,aP,aU,aG,bQ,aN,bL,Nat.reduceAdd,dT,dG,cY,cV,dD,reduceCtorEq,dO,dA,h];have i:=m.at i (kY x);refine lJ h rfl (by simp) λu _ h q=>?_;have i:=q.at i (kY x);refine gL (l:=rl p n c ⟨fs,IntKind.i64.wrap (st+1),if j>0 then IntKind.i64.wrap (j-1)else j,false⟩) h rfl ?_;exact Am (K:=λr y=>K (.tuple #[r,.int .i64 0]) y) i rfl rfl rfl λA E=>fin _ _ e u A ((G.new m (by omega)).new q (by omega)) E
structure Frm(w w':World)(a b:Nat)(l z:List Value):Prop where
 ba:w'.heap[a]?=some (.cells l.toArray 55 (0,0))
 bb:w'.heap[b]?=some (.cells z.toArray 55 (0,0))
 ne:a≠b
 ga:w.heap.size<=a
 gb:w.heap.size<=b
 ext:Ext w w'
def Frm.more{w2:World}{a b:Nat}{l z:List Value}(h:Frm w W a b l z)(c:Ext W w2):Frm w w2 a b l z:=⟨c.at h.ba id,c.at h.bb id,h.ne,h.ga,h.gb,h.ext.trans c⟩
def Zw{l:List Value}{i:Value->Q0}(h:∀a b W,Frm w W a b l rz->i (.pointer (some ⟨a,0,none⟩)) (.pointer (some ⟨b,0,none⟩)) W):
  jZ 55 (.agg l.toArray) w λt2 g=>eD 55 [(.slice none 0 0),(.int .i64 0),(.int .i64 0),(.bool false)] g λt4 w2=>i t2 t4 w2:=by
 refine gF λa g n k f d=>?_;refine cO λb w2 m j e c=>?_;exact h a b w2 ⟨c.at f id,e,by omega,by omega,by omega,d.trans c⟩
def Frm.set_all{a b:Nat}{l l2 z:List Value}{K:World->Prop}(h:Frm w W a b l z)(e:l.length=4)(c:l2.length=4)(i:l2.all kJ=true)(g:∀w2,Frm w w2 a b l2 z->K w2):stW 4 (.pointer (some ⟨a,0,none⟩)) (.agg l2.toArray) W K:=
 dH h.ba c e i λw2 _ f d=>g w2 ⟨f,d.at h.bb (kY h.ne),h.ne,h.ga,h.gb,h.ext.new d h.ga⟩
def Frm.set_one{a b off:Nat}{l z:List Value}{K:World->Prop}(h:Frm w W a b l z)(g:kJ v=true)(d:off<l.length)(f:∀w2,Frm w w2 a b (l.set off v) z->Chg (λk=>k=a) W w2->K w2):stW 1 (.pointer (some ⟨a,off,none⟩)) v W K:=
 lJ h.ba g (by simpa using d) λw2 _ e c=>f w2 ⟨by simpa using e,c.at h.bb (kY h.ne),h.ne,h.ga,h.gb,h.ext.new c h.ga⟩ c
def Frm.ret{a b:Nat}{l:List Value}{e:Value}(h:Frm w W a b l rz)(d:l.length=4)(j:l.all kJ=true)(i:∀w2,Chg (λk=>k=b) W w2->Ext w w2->K (.tuple #[.agg l.toArray,e]) w2):
  ldW true 4 (.pointer (some ⟨a,0,none⟩)) W λt=>stW 4 (.pointer (some ⟨b,0,none⟩)) t W λc=>ldW true 4 (.pointer (some ⟨b,0,none⟩)) c λr=>K (.tuple #[r,e]) c:=
 gL h.ba d (Am (K:=λr g=>K (.tuple #[r,e]) g) h.bb d rfl j λw2 f=>i w2 f (h.ext.new f h.gb))
def Pg{w2:World}{b:Nat}{l:Files}{z:List Value}(h:FsL w v l)(d:w.heap[b]?=some (.cells z.toArray 55 (0,0)))(a:Chg (λk=>k=b) w w2):FsL w2 v l:=
 SlAt.chg h a (by rintro k c fr rfl e;rw[d]at e;cases e)
end
section
open Go Go.Eng Go.Vfs
set_option maxHeartbeats 400000
def Frm.end'{c:World}{a b:Nat}{d:Option Addr}{s f:MS}{e:Int}(k:FsL w (.slice d s.files.length i) s.files)(m:Frm w c a b (rl d s.files.length i f) rz)(j:f.files=s.files)
  (l:∀v' W,RefV W v' f->Ext w W->K (.tuple #[v',i64 e]) W):
  ldW true 4 (.pointer (some ⟨a,0,none⟩)) c λt=>stW 4 (.pointer (some ⟨b,0,none⟩)) t c λg=>ldW true 4 (.pointer (some ⟨b,0,none⟩)) g λr=>K (.tuple #[r,i64 e]) g:=
 m.ret rfl rfl λn o h=>l _ _ ⟨d,i,by rw[j],by rw[j];exact SlAt.ext k h⟩ h
theorem write_ref[HX]{s:MS}{p:Str}(h:RefV w v s)(hs:Ok s)(hp:p.length<=9223372036854775807)
  (m:∀v' W,RefV W v' (writeM s p y E).1->Ext w W->K (.tuple #[v',i64 (writeM s p y E).2]) W):aL P0 49 [v,str p,str y,.bool E] w K:=by
 have hR:=h;obtain⟨sp,sc,rfl,C⟩:=h;refine aEI ?_;unfold W49;refine Zw λa b w2 d=>?_;unfold writeM at m;refine gL d.ba rfl ?_;refine ZC (hR.ext d.ext) hs.few λr w3 Y Z=>?_;have d:=d.more Y;refine RF hp ?_;cases hg:good p with
 |false=>
  rw[aO hg]at m
  (try simp only[eU,eL,eF,eB,fM,eY,eQ,dK,dW,jJ,eG,eP,iI,iS,fD,cM,aZ,Nat.reduceLT,cP,gR,jH,jG,jF,bW,fR,eC,iC,gG,gN,bY,fE,iB,jQ,jS,jT,jR,dJ,bH,fB,jN,iJ,jK,gI,jL,jM,bX,fI,jP,jE,eR,iT,gK,kS,iA,jD,jO,fJ,fF,fH,kU,gX,jV,aV,aR,iZ,iN,jW,iK,dF,cI,bN,cS,bT,fU,gO,fW,heap_drew,size_drew,eH,size_alloc,aJ,bB,dQ,fQ,cU,aK,bP,bG,bI,aI,aA,aD,aC,aP,aU,aG,bQ,aN,bL,Nat.reduceAdd,dT,dG,cY,cV,dD,reduceCtorEq,dO,dA])
  exact Frm.end' (e:=6) C d rfl m
 |true=>
 rw[aE (by simp[hg])]at m
 (try simp only[eU,eL,eF,eB,fM,eY,eQ,dK,dW,jJ,eG,eP,iI,iS,fD,cM,aZ,Nat.reduceLT,cP,gR,jH,jG,jF,bW,fR,eC,iC,gG,gN,bY,fE,iB,jQ,jS,jT,jR,dJ,bH,fB,jN,iJ,jK,gI,jL,jM,bX,fI,jP,jE,eR,iT,gK,kS,iA,jD,jO,fJ,fF,fH,kU,gX,jV,aV,aR,iZ,iN,jW,iK,dF,cI,bN,cS,bT,fU,gO,fW,heap_drew,size_drew,eH,size_alloc,aJ,bB,dQ,fQ,cU,aK,bP,bG,bI,aI,aA,aD,aC,aP,aU,aG,bQ,aN,bL,Nat.reduceAdd,dT,dG,cY,cV,dD,reduceCtorEq,dO,dA])
 by_cases h1:y.length>65536
 .rw[aO (.inl h1)]at m;have e1:decide ((65536:Int)<(y.length:Int))=true:=bS (by omega)
  (try simp only[eU,eL,eF,eB,fM,eY,eQ,dK,dW,jJ,eG,eP,iI,iS,fD,cM,aZ,Nat.reduceLT,cP,gR,jH,jG,jF,bW,fR,eC,iC,gG,gN,bY,fE,iB,jQ,jS,jT,jR,dJ,bH,fB,jN,iJ,jK,gI,jL,jM,bX,fI,jP,jE,eR,iT,gK,kS,iA,jD,jO,fJ,fF,fH,kU,gX,jV,aV,aR,iZ,iN,jW,iK,dF,cI,bN,cS,bT,fU,gO,fW,heap_drew,size_drew,eH,size_alloc,aJ,bB,dQ,fQ,cU,aK,bP,bG,bI,aI,aA,aD,aC,aP,aU,aG,bQ,aN,bL,Nat.reduceAdd,dT,dG,cY,cV,dD,reduceCtorEq,dO,dA,e1])
  refine GdW.f λg=>?_
  (try simp only[eU,eL,eF,eB,fM,eY,eQ,dK,dW,jJ,eG,eP,iI,iS,fD,cM,aZ,Nat.reduceLT,cP,gR,jH,jG,jF,bW,fR,eC,iC,gG,gN,bY,fE,iB,jQ,jS,jT,jR,dJ,bH,fB,jN,iJ,jK,gI,jL,jM,bX,fI,jP,jE,eR,iT,gK,kS,iA,jD,jO,fJ,fF,fH,kU,gX,jV,aV,aR,iZ,iN,jW,iK,dF,cI,bN,cS,bT,fU,gO,fW,heap_drew,size_drew,eH,size_alloc,aJ,bB,dQ,fQ,cU,aK,bP,bG,bI,aI,aA,aD,aC,aP,aU,aG,bQ,aN,bL,Nat.reduceAdd,dT,dG,cY,cV,dD,reduceCtorEq,dO,dA])
  have eu:isB undef true=false:=rfl
  (try simp only[eu])
  refine GdW.f λg=>?_;refine GdW.f λg=>?_
  (try simp only[eU,eL,eF,eB,fM,eY,eQ,dK,dW,jJ,eG,eP,iI,iS,fD,cM,aZ,Nat.reduceLT,cP,gR,jH,jG,jF,bW,fR,eC,iC,gG,gN,bY,fE,iB,jQ,jS,jT,jR,dJ,bH,fB,jN,iJ,jK,gI,jL,jM,bX,fI,jP,jE,eR,iT,gK,kS,iA,jD,jO,fJ,fF,fH,kU,gX,jV,aV,aR,iZ,iN,jW,iK,dF,cI,bN,cS,bT,fU,gO,fW,heap_drew,size_drew,eH,size_alloc,aJ,bB,dQ,fQ,cU,aK,bP,bG,bI,aI,aA,aD,aC,aP,aU,aG,bQ,aN,bL,Nat.reduceAdd,dT,dG,cY,cV,dD,reduceCtorEq,dO,dA])
  exact Frm.end' (e:=3) C d rfl m
 have e1:decide ((65536:Int)<(y.length:Int))=false:=cX (by omega)
 (try simp only[eU,eL,eF,eB,fM,eY,eQ,dK,dW,jJ,eG,eP,iI,iS,fD,cM,aZ,Nat.reduceLT,cP,gR,jH,jG,jF,bW,fR,eC,iC,gG,gN,bY,fE,iB,jQ,jS,jT,jR,dJ,bH,fB,jN,iJ,jK,gI,jL,jM,bX,fI,jP,jE,eR,iT,gK,kS,iA,jD,jO,fJ,fF,fH,kU,gX,jV,aV,aR,iZ,iN,jW,iK,dF,cI,bN,cS,bT,fU,gO,fW,heap_drew,size_drew,eH,size_alloc,aJ,bB,dQ,fQ,cU,aK,bP,bG,bI,aI,aA,aD,aC,aP,aU,aG,bQ,aN,bL,Nat.reduceAdd,dT,dG,cY,cV,dD,reduceCtorEq,dO,dA,e1])
 refine GdW.t ?_
 (try simp only[eU,eL,eF,eB,fM,eY,eQ,dK,dW,jJ,eG,eP,iI,iS,fD,cM,aZ,Nat.reduceLT,cP,gR,jH,jG,jF,bW,fR,eC,iC,gG,gN,bY,fE,iB,jQ,jS,jT,jR,dJ,bH,fB,jN,iJ,jK,gI,jL,jM,bX,fI,jP,jE,eR,iT,gK,kS,iA,jD,jO,fJ,fF,fH,kU,gX,jV,aV,aR,iZ,iN,jW,iK,dF,cI,bN,cS,bT,fU,gO,fW,heap_drew,size_drew,eH,size_alloc,aJ,bB,dQ,fQ,cU,aK,bP,bG,bI,aI,aA,aD,aC,aP,aU,aG,bQ,aN,bL,Nat.reduceAdd,dT,dG,cY,cV,dD,reduceCtorEq,dO,dA])
 intro g
 (try simp only[eU,eL,eF,eB,fM,eY,eQ,dK,dW,jJ,eG,eP,iI,iS,fD,cM,aZ,Nat.reduceLT,cP,gR,jH,jG,jF,bW,fR,eC,iC,gG,gN,bY,fE,iB,jQ,jS,jT,jR,dJ,bH,fB,jN,iJ,jK,gI,jL,jM,bX,fI,jP,jE,eR,iT,gK,kS,iA,jD,jO,fJ,fF,fH,kU,gX,jV,aV,aR,iZ,iN,jW,iK,dF,cI,bN,cS,bT,fU,gO,fW,heap_drew,size_drew,eH,size_alloc,aJ,bB,dQ,fQ,cU,aK,bP,bG,bI,aI,aA,aD,aC,aP,aU,aG,bQ,aN,bL,Nat.reduceAdd,dT,dG,cY,cV,dD,reduceCtorEq,dO,dA])
 have B:decide (r<0)=(lkM s.files p).isNone:=by
  rcases Z with⟨rfl,N⟩|⟨i,x,rfl,n,q⟩
  .rw[N];rfl
  .rw[q];exact cX (by omega)
 have M:decide (0<=r)=(lkM s.files p).isSome:=by
  rcases Z with⟨rfl,N⟩|⟨i,x,rfl,n,q⟩
  .rw[N];rfl
  .rw[q];exact bS (by omega)
 have P:∀c:Bool,c=((lkM s.files p).isNone&&decide (64<=s.files.length))->(c=true->(y.length>65536\/(lkM s.files p=none/\64<=s.files.length)))/\(c=false->¬(y.length>65536\/(lkM s.files p=none/\64<=s.files.length))):=by
  rintro c rfl;simp only[bV,Option.isNone_iff_eq_none,fK,CS];refine⟨λh=>.inr h,λh A=>?_⟩;rcases A with A|A
  .exact h1 A
  .rcases h with h|h
   .rw[A.1]at h;cases h
   .have:=A.2;simp at h;omega
 have D:decide ((64:Int)<=(s.files.length:Int))=decide (64<=s.files.length):=by rw[decide_eq_decide];omega
 rw[B];refine GdW.meet [bif (lkM s.files p).isNone then .bool (decide (64<=s.files.length))else undef] (λh=>?_) (λh=>?_) (λg=>?_)
 .have h:(lkM s.files p).isNone=true:=by simpa[isB]using h
  rw[h];simp only[eU,eL,eF,eB,fM,eY,eQ,dK,dW,jJ,eG,eP,iI,iS,fD,cM,aZ,Nat.reduceLT,cP,gR,jH,jG,jF,bW,fR,eC,iC,gG,gN,bY,fE,iB,jQ,jS,jT,jR,dJ,bH,fB,jN,iJ,jK,gI,jL,jM,bX,fI,jP,jE,eR,iT,gK,kS,iA,jD,jO,fJ,fF,fH,kU,gX,jV,aV,aR,iZ,iN,jW,iK,dF,cI,bN,cS,bT,fU,gO,fW,heap_drew,size_drew,eH,size_alloc,aJ,bB,dQ,fQ,cU,aK,bP,bG,bI,aI,aA,aD,aC,aP,aU,aG,bQ,aN,bL,Nat.reduceAdd,dT,dG,cY,cV,dD,reduceCtorEq,dO,dA,d.ba,D]
 .have h:(lkM s.files p).isNone=false:=by simpa[isB]using h
  rw[h];rfl
 refine GdW.t ?_;have j:∀K:Value->Prop,K (.bool ((lkM s.files p).isNone&&decide (64<=s.files.length)))->fN (.bool (lkM s.files p).isNone) (bif (lkM s.files p).isNone then .bool (decide (64<=s.files.length))else undef) (.bool false) K:=by
  intro K J;cases A:(lkM s.files p).isNone with
  |true=>rw[A]at J;simpa[fN]using J
  |false=>rw[A]at J;simpa[fN]using J
 refine j _ ?_;intro g
 (try simp only[eU,eL,eF,eB,fM,eY,eQ,dK,dW,jJ,eG,eP,iI,iS,fD,cM,aZ,Nat.reduceLT,cP,gR,jH,jG,jF,bW,fR,eC,iC,gG,gN,bY,fE,iB,jQ,jS,jT,jR,dJ,bH,fB,jN,iJ,jK,gI,jL,jM,bX,fI,jP,jE,eR,iT,gK,kS,iA,jD,jO,fJ,fF,fH,kU,gX,jV,aV,aR,iZ,iN,jW,iK,dF,cI,bN,cS,bT,fU,gO,fW,heap_drew,size_drew,eH,size_alloc,aJ,bB,dQ,fQ,cU,aK,bP,bG,bI,aI,aA,aD,aC,aP,aU,aG,bQ,aN,bL,Nat.reduceAdd,dT,dG,cY,cV,dD,reduceCtorEq,dO,dA])
 have L:=P _ rfl;generalize ((lkM s.files p).isNone&&decide (64<=s.files.length))=c at L;cases c with
 |true=>
  rw[aO (L.1 rfl)]at m
  (try simp only[eU,eL,eF,eB,fM,eY,eQ,dK,dW,jJ,eG,eP,iI,iS,fD,cM,aZ,Nat.reduceLT,cP,gR,jH,jG,jF,bW,fR,eC,iC,gG,gN,bY,fE,iB,jQ,jS,jT,jR,dJ,bH,fB,jN,iJ,jK,gI,jL,jM,bX,fI,jP,jE,eR,iT,gK,kS,iA,jD,jO,fJ,fF,fH,kU,gX,jV,aV,aR,iZ,iN,jW,iK,dF,cI,bN,cS,bT,fU,gO,fW,heap_drew,size_drew,eH,size_alloc,aJ,bB,dQ,fQ,cU,aK,bP,bG,bI,aI,aA,aD,aC,aP,aU,aG,bQ,aN,bL,Nat.reduceAdd,dT,dG,cY,cV,dD,reduceCtorEq,dO,dA])
  exact Frm.end' (e:=3) C d rfl m
 |false=>
 rw[aE (L.2 rfl)]at m
 (try simp only[eU,eL,eF,eB,fM,eY,eQ,dK,dW,jJ,eG,eP,iI,iS,fD,cM,aZ,Nat.reduceLT,cP,gR,jH,jG,jF,bW,fR,eC,iC,gG,gN,bY,fE,iB,jQ,jS,jT,jR,dJ,bH,fB,jN,iJ,jK,gI,jL,jM,bX,fI,jP,jE,eR,iT,gK,kS,iA,jD,jO,fJ,fF,fH,kU,gX,jV,aV,aR,iZ,iN,jW,iK,dF,cI,bN,cS,bT,fU,gO,fW,heap_drew,size_drew,eH,size_alloc,aJ,bB,dQ,fQ,cU,aK,bP,bG,bI,aI,aA,aD,aC,aP,aU,aG,bQ,aN,bL,Nat.reduceAdd,dT,dG,cY,cV,dD,reduceCtorEq,dO,dA])
 clear L P j B D;refine GdW.meet [bif E then .bool (lkM s.files p).isSome else undef] (λh=>?_) (λh=>?_) (λg=>?_)
 .have h:E=true:=by simpa[isB]using h
  rw[h];simp only[eU,eL,eF,eB,fM,eY,eQ,dK,dW,jJ,eG,eP,iI,iS,fD,cM,aZ,Nat.reduceLT,cP,gR,jH,jG,jF,bW,fR,eC,iC,gG,gN,bY,fE,iB,jQ,jS,jT,jR,dJ,bH,fB,jN,iJ,jK,gI,jL,jM,bX,fI,jP,jE,eR,iT,gK,kS,iA,jD,jO,fJ,fF,fH,kU,gX,jV,aV,aR,iZ,iN,jW,iK,dF,cI,bN,cS,bT,fU,gO,fW,heap_drew,size_drew,eH,size_alloc,aJ,bB,dQ,fQ,cU,aK,bP,bG,bI,aI,aA,aD,aC,aP,aU,aG,bQ,aN,bL,Nat.reduceAdd,dT,dG,cY,cV,dD,reduceCtorEq,dO,dA,M]
 .have h:E=false:=by simpa[isB]using h
  rw[h];rfl
 have j:∀K:Value->Prop,K (.bool (E&&(lkM s.files p).isSome))->fN (.bool E) (bif E then .bool (lkM s.files p).isSome else undef) (.bool false) K:=by
  intro K J;cases E<;>simpa[fN]using J
 refine j _ ?_;clear j;by_cases O:E=true/\(lkM s.files p).isSome=true
 .rw[aO O]at m;have e2:(E&&(lkM s.files p).isSome)=true:=by simp[O.1,O.2]
  rw[e2]
  (try simp only[eU,eL,eF,eB,fM,eY,eQ,dK,dW,jJ,eG,eP,iI,iS,fD,cM,aZ,Nat.reduceLT,cP,gR,jH,jG,jF,bW,fR,eC,iC,gG,gN,bY,fE,iB,jQ,jS,jT,jR,dJ,bH,fB,jN,iJ,jK,gI,jL,jM,bX,fI,jP,jE,eR,iT,gK,kS,iA,jD,jO,fJ,fF,fH,kU,gX,jV,aV,aR,iZ,iN,jW,iK,dF,cI,bN,cS,bT,fU,gO,fW,heap_drew,size_drew,eH,size_alloc,aJ,bB,dQ,fQ,cU,aK,bP,bG,bI,aI,aA,aD,aC,aP,aU,aG,bQ,aN,bL,Nat.reduceAdd,dT,dG,cY,cV,dD,reduceCtorEq,dO,dA])
  exact Frm.end' (e:=2) C d rfl m
 rw[aE O]at m;have e2:(E&&(lkM s.files p).isSome)=false:=by
  cases h:(E&&(lkM s.files p).isSome)with
  |false=>rfl
  |true=>exact absurd (by simpa using h) O
 rw[e2]
 (try simp only[eU,eL,eF,eB,fM,eY,eQ,dK,dW,jJ,eG,eP,iI,iS,fD,cM,aZ,Nat.reduceLT,cP,gR,jH,jG,jF,bW,fR,eC,iC,gG,gN,bY,fE,iB,jQ,jS,jT,jR,dJ,bH,fB,jN,iJ,jK,gI,jL,jM,bX,fI,jP,jE,eR,iT,gK,kS,iA,jD,jO,fJ,fF,fH,kU,gX,jV,aV,aR,iZ,iN,jW,iK,dF,cI,bN,cS,bT,fU,gO,fW,heap_drew,size_drew,eH,size_alloc,aJ,bB,dQ,fQ,cU,aK,bP,bG,bI,aI,aA,aD,aC,aP,aU,aG,bQ,aN,bL,Nat.reduceAdd,dT,dG,cY,cV,dD,reduceCtorEq,dO,dA])
 refine gL d.ba rfl ?_;refine Td (s:=s) λw4 X=>?_;have d:=d.more X;simp only[eU,eL,eF,eB,fM,eY,eQ,dK,dW,jJ,eG,eP,iI,iS,fD,cM,aZ,Nat.reduceLT,cP,gR,jH,jG,jF,bW,fR,eC,iC,gG,gN,bY,fE,iB,jQ,jS,jT,jR,dJ,bH,fB,jN,iJ,jK,gI,jL,jM,bX,fI,jP,jE,eR,iT,gK,kS,iA,jD,jO,fJ,fF,fH,kU,gX,jV,aV,aR,iZ,iN,jW,iK,dF,cI,bN,cS,bT,fU,gO,fW,heap_drew,size_drew,eH,size_alloc,aJ,bB,dQ,fQ,cU,aK,bP,bG,bI,aI,aA,aD,aC,aP,aU,aG,bQ,aN,bL,Nat.reduceAdd,dT,dG,cY,cV,dD,reduceCtorEq,dO,dA];refine d.set_all (l2:=rl sp s.files.length sc (vstepM s).1) rfl rfl rfl λw5 d=>?_;simp only[aY];refine⟨λI=>?_,λI=>?_⟩
 .have I:(vstepM s).2≠0:=by simpa using I
  simp only[aO I]at m;exact Frm.end' C d (wW s) m
 have I:(vstepM s).2=0:=by simpa using I
 simp only[I,cY,cV,vJ]at m
 (try simp only[eU,eL,eF,eB,fM,eY,eQ,dK,dW,jJ,eG,eP,iI,iS,fD,cM,aZ,Nat.reduceLT,cP,gR,jH,jG,jF,bW,fR,eC,iC,gG,gN,bY,fE,iB,jQ,jS,jT,jR,dJ,bH,fB,jN,iJ,jK,gI,jL,jM,bX,fI,jP,jE,eR,iT,gK,kS,iA,jD,jO,fJ,fF,fH,kU,gX,jV,aV,aR,iZ,iN,jW,iK,dF,cI,bN,cS,bT,fU,gO,fW,heap_drew,size_drew,eH,size_alloc,aJ,bB,dQ,fQ,cU,aK,bP,bG,bI,aI,aA,aD,aC,aP,aU,aG,bQ,aN,bL,Nat.reduceAdd,dT,dG,cY,cV,dD,reduceCtorEq,dO,dA])
 refine cO λa8 w6 xl xi k V=>?_;refine dH k rfl rfl rfl λw7 _ k hd=>?_;have G:Ext w5 w7:=V.new hd (by omega);refine dE.cut (λ_ W=>Ext w5 W/\W.heap[a8]?=some (.cells (fc (p,⟨y,((lkM s.files p).map (·.safe)).getD [],((lkM s.files p).map (·.saved)).getD false⟩)).toArray 173 (0,0))) ?_ ?_
 .rcases Z with⟨rfl,N⟩|⟨i,x,rfl,n,q⟩
  .rw[N]
   (try simp only[eU,eL,eF,eB,fM,eY,eQ,dK,dW,jJ,eG,eP,iI,iS,fD,cM,aZ,Nat.reduceLT,cP,gR,jH,jG,jF,bW,fR,eC,iC,gG,gN,bY,fE,iB,jQ,jS,jT,jR,dJ,bH,fB,jN,iJ,jK,gI,jL,jM,bX,fI,jP,jE,eR,iT,gK,kS,iA,jD,jO,fJ,fF,fH,kU,gX,jV,aV,aR,iZ,iN,jW,iK,dF,cI,bN,cS,bT,fU,gO,fW,heap_drew,size_drew,eH,size_alloc,aJ,bB,dQ,fQ,cU,aK,bP,bG,bI,aI,aA,aD,aC,aP,aU,aG,bQ,aN,bL,Nat.reduceAdd,dT,dG,cY,cV,dD,reduceCtorEq,dO,dA])
   exact⟨λh=>absurd h (by decide),λ_=>⟨G,k⟩⟩
  .rw[q];have S:=d.more G;simp only[eU,eL,eF,eB,fM,eY,eQ,dK,dW,jJ,eG,eP,iI,iS,fD,cM,aZ,Nat.reduceLT,cP,gR,jH,jG,jF,bW,fR,eC,iC,gG,gN,bY,fE,iB,jQ,jS,jT,jR,dJ,bH,fB,jN,iJ,jK,gI,jL,jM,bX,fI,jP,jE,eR,iT,gK,kS,iA,jD,jO,fJ,fF,fH,kU,gX,jV,aV,aR,iZ,iN,jW,iK,dF,cI,bN,cS,bT,fU,gO,fW,heap_drew,size_drew,eH,size_alloc,aJ,bB,dQ,fQ,cU,aK,bP,bG,bI,aI,aA,aD,aC,aP,aU,aG,bQ,aN,bL,Nat.reduceAdd,dT,dG,cY,cV,dD,reduceCtorEq,dO,dA,S.ba];refine⟨λ_=>?_,λh=>absurd (by omega) h⟩;refine ixf (SlAt.ext C S.ext) n λbb o c fr H q0 q1 q2 q3=>?_;simp only[eU,eL,eF,eB,fM,eY,eQ,dK,dW,jJ,eG,eP,iI,iS,fD,cM,aZ,Nat.reduceLT,cP,gR,jH,jG,jF,bW,fR,eC,iC,gG,gN,bY,fE,iB,jQ,jS,jT,jR,dJ,bH,fB,jN,iJ,jK,gI,jL,jM,bX,fI,jP,jE,eR,iT,gK,kS,iA,jD,jO,fJ,fF,fH,kU,gX,jV,aV,aR,iZ,iN,jW,iK,dF,cI,bN,cS,bT,fU,gO,fW,heap_drew,size_drew,eH,size_alloc,aJ,bB,dQ,fQ,cU,aK,bP,bG,bI,aI,aA,aD,aC,aP,aU,aG,bQ,aN,bL,Nat.reduceAdd,dT,dG,cY,cV,dD,reduceCtorEq,dO,dA,H,q2];refine lJ k rfl (by simp) λw8 _ k hb=>?_;have z:=G.new hb (by omega);have R:=d.more z;simp only[eU,eL,eF,eB,fM,eY,eQ,dK,dW,jJ,eG,eP,iI,iS,fD,cM,aZ,Nat.reduceLT,cP,gR,jH,jG,jF,bW,fR,eC,iC,gG,gN,bY,fE,iB,jQ,jS,jT,jR,dJ,bH,fB,jN,iJ,jK,gI,jL,jM,bX,fI,jP,jE,eR,iT,gK,kS,iA,jD,jO,fJ,fF,fH,kU,gX,jV,aV,aR,iZ,iN,jW,iK,dF,cI,bN,cS,bT,fU,gO,fW,heap_drew,size_drew,eH,size_alloc,aJ,bB,dQ,fQ,cU,aK,bP,bG,bI,aI,aA,aD,aC,aP,aU,aG,bQ,aN,bL,Nat.reduceAdd,dT,dG,cY,cV,dD,reduceCtorEq,dO,dA,R.ba];refine ixf (SlAt.ext C R.ext) n λbb o c fr H q0 q1 q2 q3=>?_;simp only[eU,eL,eF,eB,fM,eY,eQ,dK,dW,jJ,eG,eP,iI,iS,fD,cM,aZ,Nat.reduceLT,cP,gR,jH,jG,jF,bW,fR,eC,iC,gG,gN,bY,fE,iB,jQ,jS,jT,jR,dJ,bH,fB,jN,iJ,jK,gI,jL,jM,bX,fI,jP,jE,eR,iT,gK,kS,iA,jD,jO,fJ,fF,fH,kU,gX,jV,aV,aR,iZ,iN,jW,iK,dF,cI,bN,cS,bT,fU,gO,fW,heap_drew,size_drew,eH,size_alloc,aJ,bB,dQ,fQ,cU,aK,bP,bG,bI,aI,aA,aD,aC,aP,aU,aG,bQ,aN,bL,Nat.reduceAdd,dT,dG,cY,cV,dD,reduceCtorEq,dO,dA,H,q3];refine lJ k rfl (by simp) λw9 _ k ha=>?_;exact⟨z.new ha (by omega),k⟩
 .rintro xf xn w8 ⟨z,k⟩;have d:=d.more z;simp only[eU,eL,eF,eB,fM,eY,eQ,dK,dW,jJ,eG,eP,iI,iS,fD,cM,aZ,Nat.reduceLT,cP,gR,jH,jG,jF,bW,fR,eC,iC,gG,gN,bY,fE,iB,jQ,jS,jT,jR,dJ,bH,fB,jN,iJ,jK,gI,jL,jM,bX,fI,jP,jE,eR,iT,gK,kS,iA,jD,jO,fJ,fF,fH,kU,gX,jV,aV,aR,iZ,iN,jW,iK,dF,cI,bN,cS,bT,fU,gO,fW,heap_drew,size_drew,eH,size_alloc,aJ,bB,dQ,fQ,cU,aK,bP,bG,bI,aI,aA,aD,aC,aP,aU,aG,bQ,aN,bL,Nat.reduceAdd,dT,dG,cY,cV,dD,reduceCtorEq,dO,dA,d.ba];refine gL (l:=fc (p,⟨y,((lkM s.files p).map (·.safe)).getD [],((lkM s.files p).map (·.saved)).getD false⟩)) k rfl ?_;refine SG (p:=p) (SlAt.ext C d.ext) (by have:=hs.few;omega) λu w9 T U=>?_;have d:=d.more U;obtain⟨up,uc,rfl,_⟩:=T.shape;refine d.set_one rfl (by simp) λxb F Q=>?_;have T:=Pg T d.ba Q;refine F.ret rfl rfl λxa L hx=>m _ _ ⟨up,uc,rfl,Pg T F.bb L⟩ hx
end
end Go.Proofs.YtjblfcfdeaagpaaGreatDoor.Fx
namespace Go.Proofs.YtjblfcfdeaagpaaGreatDoor
section
open Go Go.Eng Go.RowKit Go.Syn Go.Lex Go.Cfg
def yO:List (Str×Str)->Vfs.MS->Vfs.MS
 |[],s=>s
 |(p,t)::l,s=>yO l (Vfs.writeM s p (t.take 6000) false).1
def tT(ps ts:List Str):Vfs.MS:=yO ((ps.zip ts).take 20) Vfs.newM
abbrev RfT:TypeId:=55
def zQ{a c:Array Value}{f g:Nat×Nat}(h:T≠U):some (Obj.cells a T f)≠some (Obj.cells c U g):=λe=>by
 injection e with e
 injection e with _ e
 exact h e
def Zv{b:Nat}{s:Vfs.MS}(h:Fx.FsB w b m s):∀k c fr,Fx.M2 b m k->w.heap[k]?≠some (.cells c Fx.RT fr):=by
 rintro k c fr (rfl|rfl) e
 .rw[h.blk]at e;exact zQ (by decide) e
 .obtain⟨A,⟨es,d,a,_⟩,_⟩:=h.fil;rw[a]at e;cases e
section
variable [HX]
theorem KF{ps ts:List Str}{vp vt:Value}(hc:SlAt w T vp ps.length (strs ps))(X:SlAt w U vt ts.length (strs ts))(xm:∀p∈ps,p.length<=9223372036854775807)
  (hK:∀b m (l:List Value) W,Fx.Fs w W b m (tT ps ts)->l.length=4->l.all kJ=true->K (.tuple #[pA b,.agg l.toArray]) W):aL P0 19 [.agg [vp,vt].toArray] w K:=by
 refine aE0 ?_;unfold W19;refine gF (z:=[vp,vt]) λb1 w1 yo yh hz xi=>?_;refine cO λb3 w2 yn yg hy hl=>?_;have n:=xi.trans hl;refine Fx.fnew λb m w3 hv=>?_;refine Fx.new_ref λv4 w4 ho hj=>?_;have a:=hv.more hj;refine cO λb5 w5 ym ye hx V=>?_;have xv:=a.more V;have xj:=ho.ext V;obtain⟨q,c,rfl,yi⟩:=xj;have yl:=a.gb;have yk:=a.gm;have xw:=a.fs.lt;have xu:=a.fs.mlt;have yf:=hj.size;refine dH (l:=[.slice q Vfs.newM.files.length c,i64 Vfs.newM.steps,i64 Vfs.newM.left,.bool Vfs.newM.dead]) hx rfl rfl rfl λw6 yd hw xq=>?_;have L:Ext w4 w6:=V.new xq (by omega);have hu:=a.more L;have xb:w6.heap[b1]?=some (.cells [vp,vt].toArray 51 (0,0)):=L.at (a.ext.at (hl.at hz id) id) id;have xa:w6.heap[b3]?=some (.cells [.slice none 0 0,i64 0,i64 0,.bool false].toArray RfT (0,0)):=L.at (a.ext.at hy id) id;have hp:Fx.RefV w6 (.agg [.slice q Vfs.newM.files.length c,i64 Vfs.newM.steps,i64 Vfs.newM.left,.bool Vfs.newM.dead].toArray) Vfs.newM:=ho.ext L;have hn:((ps.zip ts).take 20).length=min 20 (min ps.length ts.length):=by rw[cG,FF]
 generalize hP:(ps.zip ts).take 20=P at hn;have DO:tT ps ts=yO P Vfs.newM:=by unfold tT;rw[hP]
 rw[DO]at hK;refine eK.go (λst W=>∃(i:Nat) (s:Vfs.MS) (l:List Value),st=[i64 (i:Nat)]/\i<=P.length/\Fx.Fs w2 W b m s/\yO (P.drop i) s=yO P Vfs.newM/\W.heap[b1]?=some (.cells [vp,vt].toArray 51 (0,0))/\W.heap[b3]?=some (.cells [.slice none 0 0,i64 0,i64 0,.bool false].toArray RfT (0,0))/\W.heap[b5]?=some (.cells l.toArray RfT (0,0))/\l.length=4/\l.all kJ=true/\Fx.RefV W (.agg l.toArray) s)
  (λst _=>match st with|[.int _ i]=>P.length-i.toNat|_=>0) ⟨0,Vfs.newM,_,rfl,cZ _,hu,rfl,xb,xa,hw,rfl,rfl,hp⟩ ?_
 rintro st g w8 ⟨i,s,l,rfl,hi,N,B,y,G,R,A,ht,xl⟩;have xh:Ext w w8:=n.trans N.ext;simp only[dJ,bH,bN,aN,aG];refine ldb y (v:=vp) rfl ?_;rw[gQ hc,eC,gX];refine GdW.look (decide (i<ts.length)) (λ_ J hJ=>?_) λg1=>?_
 .refine ldb y (v:=vt) rfl ?_;rw[gQ X,eC];have e:decide (((i:Nat):Int)<(ts.length:Nat))=decide (i<ts.length):=decide_eq_decide.2 (by omega);rw[e];exact hJ
 simp only[aG];rw[gM,gX];refine GdW.look (decide (i<20)) (λ_ J hJ=>?_) λg2=>?_
 .rw[eC];have e:decide (((i:Nat):Int)<20)=decide (i<20):=decide_eq_decide.2 (by omega);rw[e];exact hJ
 simp only[aG];rw[gM,gX];refine GdW.look true (λ_ J hJ=>?_) λg3=>?_
 .exact hJ
 simp only[aG];rw[gM,fC];refine⟨λhb=>?_,λhb=>?_⟩
 .simp only[bV,fK,fQ]at hb;have hs:i<P.length:=by omega
  obtain⟨p,M⟩:∃p,ps[i]?=some p:=⟨_,aH (by omega)⟩;obtain⟨t,Y⟩:∃t,ts[i]?=some t:=⟨_,aH (by omega)⟩;have O:P[i]?=some (p,t):=by
   rw[<-hP,gB (by omega),yX];exact⟨M,Y⟩
  have xp:P.drop i=(p,t)::P.drop (i+1):=by
   rw[eW hs];rw[aH hs]at O;injection O with O
   rw[O]
  rw[xp]at B;simp only[yO]at B;have f:=cQ w8;generalize w8.drew=w9 at f;have S:=xh.trans f;have H:=f.at y id;have st_i:∀{xs:List Str} {x:Str},xs[i]?=some x->(strs xs)[i]?=some (str x):=λh=>by unfold strs;rw[dV,h];rfl
  refine ldb H (v:=vt) rfl ?_;refine mC (i:=i) (x:=str t) (X.ext S) (by unfold strs;rw[cK]) (st_i Y) ?_;refine ldb H (v:=vt) rfl ?_;refine mC (i:=i) (x:=str t) (X.ext S) (by unfold strs;rw[cK]) (st_i Y) ?_;rw[eR,jD,fH,fF];have hr:(if(6000:Int)<(t.length:Nat)then(6000:Int)else(t.length:Nat))=((min 6000 t.length:Nat):Int):=by split<;>omega
  rw[hr];refine⟨by omega,by omega,?_⟩;rw[fJ,dZ,bD];have xk:t.take (min 6000 t.length)=t.take 6000:=by rw[List.take_eq_take_iff];omega
  rw[xk];refine ldb H (v:=vp) rfl ?_;refine mC (i:=i) (x:=str p) (hc.ext S) (by unfold strs;rw[cK]) (st_i M) ?_;refine Lb (by kernel_rfl) (by kernel_rfl) (by kernel_rfl) λdv yb xo D=>?_;have F:=(N.more f).more D;refine Fx.fwrite F xo λhg E Q=>?_;have r:=cQ hg;generalize hg.drew=w17 at r;have nb:∀k,k=b1\/k=b3\/k=b5->¬Fx.M2 b m k:=λk C e=>by
   have e:k=b\/k=m:=e;omega
  have up:∀{k:Nat} {o:Obj},k=b1\/k=b3\/k=b5->w8.heap[k]?=some o->w17.heap[k]?=some o:=λC h=>r.at (Q.at (D.at (f.at h id) id) (nb _ C)) id;have hb1f:=up (.inl rfl) y;have hb3f:=up (.inr (.inl rfl)) G;have hb5f:=up (.inr (.inr rfl)) R;have ha:Fx.RefV w17 (.agg l.toArray) s:=(((xl.ext f).ext D).chg Q (Zv F.fs)).ext r;have hm:Ext w w17:=n.trans ((E.more r).ext);refine gL hb5f A ?_;refine ldb hb1f (v:=vp) rfl ?_;refine mC (i:=i) (x:=str p) (hc.ext hm) (by unfold strs;rw[cK]) (st_i M) ?_;refine Fx.write_ref ha N.ok (xm p (bA M)) λv' xg Z j=>?_;simp only[bX];refine⟨_,rfl,_,rfl,?_⟩;obtain⟨q',c',rfl,hq⟩:=Z;refine dH (l:=[.slice q' (Vfs.writeM s p (t.take 6000) false).1.files.length c',i64 (Vfs.writeM s p (t.take 6000) false).1.steps,i64 (Vfs.writeM s p (t.take 6000) false).1.left,.bool (Vfs.writeM s p (t.take 6000) false).1.dead]) (j.at hb5f id) rfl A rfl λhf hh u d=>?_;rw[cP,upi (by omega)];have h5:∀k cc fr,k=b5->xg.heap[k]?≠some (.cells cc Fx.RT fr):=λk cc fr e h=>by
   subst e;rw[j.at hb5f id]at h;exact zQ (by decide) h
  refine⟨⟨i+1,(Vfs.writeM s p (t.take 6000) false).1,_,rfl,by omega,?_,B,?_,?_,u,rfl,rfl,?_⟩,by simp only[bD];omega⟩
  .have I:=(E.more r).more j;exact⟨I.fs.chg d (by omega) (by omega) (λk cc fr C e=>by have C:k=b5:=C;subst C;rw[j.at hb5f id]at e;exact zQ (by decide) e),I.ok,I.gb,I.gm,I.ext.then d λk C e=>by omega⟩
  .exact d.at (j.at hb1f id) (by omega)
  .exact d.at (j.at hb3f id) (by omega)
  .exact Fx.RefV.chg ⟨q',c',rfl,hq⟩ d h5
 .have xn:i=P.length:=by
   simp only[eU,CS,decide_eq_false_iff_not]at hb;omega
  subst xn;rw[iH]at B;simp only[yO]at B;have f:=cQ w8;generalize w8.drew=w9 at f;refine gL (f.at R id) A ?_;refine dH (f.at G id) A rfl ht λhf hh u d=>?_;refine gL u A ?_;have h9:=N.more f;rw[B]at h9;refine hK b m l hf ⟨h9.fs.chg d (by omega) (by omega) (λk cc fr C=>?_),h9.ok,by have:=n.size;have:=h9.gb;omega,by have:=n.size;have:=h9.gm;omega,?_⟩ A ht
  .intro e;have C:k=b3:=C;subst C;rw[f.at G id]at e;exact zQ (by decide) e
  .exact(n.trans h9.ext).then d λk C e=>by omega
end
def WA:Str:=[110,101,116,47,109,97,105,110,46,104,99,108]
def awP:List Str:=[[109,97,105,110,46,104,99,108],WA]
def awT:List Str:=[[118,97,114,105,97,98,108,101,32,34,97,34,32,123,125,10,109,111,100,117,108,101,32,34,109,34,32,123,10,32,115,111,117,114,99,101,32,61,32,34,110,101,116,34,10,32,120,32,61,32,49,10,125,10],[118,97,114,105,97,98,108,101,32,34,120,34,32,123,125]]
def _root_.Go.Cfg.RL.test{α:Type}(r:RL α)(f:α->Bool):Bool:=match r with
 |.ok x=>f x
 |.bad _ _ _=>false
def _root_.Go.Cfg.RL.testB{α:Type}(r:RL α)(c:Int)(p:Str)(a:Int):Bool:=match r with
 |.ok _=>false
 |.bad c' p' a'=>decide (c'=c)&&decide (p'=p)&&decide (a'=a)
def _root_.Go.Cfg.RL.of_test{r:RL α}{f:α->Bool}(h:r.test f=true):∃x,r=.ok x/\f x=true:=by
 cases r with
 |ok x=>exact⟨x,rfl,h⟩
 |bad c p a=>cases h
def _root_.Go.Cfg.RL.of_testB{r:RL α}{c:Int}{p:Str}(h:r.testB c p a=true):r=.bad c p a:=by
 cases r with
 |ok x=>cases h
 |bad c' p' a'=>
  simp only[Go.Cfg.RL.testB,bV,fK]at h;obtain⟨⟨rfl,rfl⟩,rfl⟩:=h;rfl
def aFO:(tN (rdF (tT awP awT)) 4 [] []).test (λl=>match l with
 |[a,b]=>(match a.calls with
  |[c]=>decide (c.mod=1)
  |_=>false)
 |_=>false)=true:=by kernel_rfl
def aB2:(tN (rdF (Vfs.removeM (tT awP awT) WA).1) 4 [] []).testB 111 WA 0=true:=by kernel_rfl
def Ez(h:kJ v=true):v.cells=#[v]:=by
 cases v<;>first|rfl|(simp[kJ]at h)
def aFq{a b u:Value}{K:List Value->Prop}(d:kJ u=true)(c:kJ v=true)(e:K [u,v]):kE [a,b] [(0,1,u),(1,1,v)] K:=by
 have g:=Ez d;have f:=Ez c;simp only[kE,g,f];refine⟨rfl,by simp,rfl,by simp,?_⟩;exact e
def MN{x:Str}(a:∀t W,SlAt W StT t 2 (strs [x,y])->Ext w W->K t W):gP StT 2 [str [],str []] [(0,1,str x),(1,1,str y)] w K:=by
 rw[gP];refine aFq rfl rfl ?_;exact a _ _ (Ds (w:=w) (base:=w.heap.size) (e:=StT) (size:=1) (n:=2) (cs:=[str x,str y]) (aQ _) rfl (by omega)).sl (Chg.alloc (Chg.refl _ _) _)
def aFF(K:Value->Prop):eqW .ptr false (.pointer none) (.pointer none) K↔K (.bool true):=iR
def aBL(K:Value->Prop):eqW .ptr true (.pointer none) (.pointer none) K↔K (.bool false):=iR
section
variable [HX]
def aDW{d:Nat}{c:Int}{p:Str}(f:c≠0)(e:w.heap[d]?=some (.cells [i64 c,str p,i64 a].toArray 48 (0,0)))(g:K (.bool true) w):aL P0 21 [pA d,i64 c,str p,i64 a] w K:=by
 refine aEX ?_;unfold W21;rw[bW,cX f,cI,Fx.ne_pn,gX];simp only[dJ,bH,bN,aN];refine GdW.look true (λ_ J b=>?_) λg1=>?_
 .refine ldb e (v:=i64 c) rfl ?_;rw[bW,bS rfl];exact b
 simp only[aG];rw[gM,gX];refine GdW.look true (λ_ J b=>?_) λg2=>?_
 .refine ldb e (v:=str p) rfl ?_;rw[fE,bS rfl];exact b
 simp only[aG];rw[gM,gX];refine GdW.look true (λ_ J b=>?_) λg3=>?_
 .refine ldb e (v:=i64 a) rfl ?_;rw[bW,bS rfl];exact b
 simp only[aG];rw[gM];exact g
def CfR.field{B:Nat}{Ls:List ML}{mods:List Md}{L:ML}{m:Md}{u:Value}{K:Value->Prop}(h:CfR w B v Ls mods)(l:Ls[i]?=some L)(b:mods[i]?=some m)(f:j<9)(d:(L.cells m.dir)[j]?=some u)(o:K u):
  fX none 9 v (i64 (i:Nat)) λt=>bF j t λt2=>ldW false 1 t2 w K:=by
 have k:=(bJ.1 b).1;obtain⟨g,cap,cur,e,p,c⟩:=Dt h.ow (by omega);have a:=h.ow;rw[e]at a⊢;rw[fI];refine⟨by omega,by omega,?_⟩;rw[bH];simp only[bN,bD,aN];exact Ka a (by rw[zE (n:=9) (j:=j) (Gb l b) f];exact d) o
def MdR.call_mod{B:Nat}{L:ML}{m:Md}{c:Cl}{K:Value->Prop}(h:MdR w B L m)(d:m.calls[i]?=some c)(l:K (i64 (c.mod:Nat))):fX none 4 L.vC (i64 (i:Nat)) λt=>bF 1 t λt2=>ldW false 1 t2 w K:=by
 have k:=(bJ.1 d).1;obtain⟨g,cap,cur,e,o,b⟩:=Dt h.oC (by omega);have a:=h.oC;rw[e]at a⊢;rw[fI];refine⟨by omega,by omega,?_⟩;rw[bH];simp only[bN,bD,aN];obtain⟨va,f,_⟩:=h.cc.2 i c d;exact Ka a (by rw[zE (n:=4) (j:=1) f (by omega)];rfl) l
theorem ZX(hT:TabI w)(hK:∀W,Ext w W->K (.bool true) W):aL P0 18 [] w K:=by
 refine aE1 ?_;unfold W18;refine MN λt8 w1 h8 hr=>?_;refine MN λt9 w2 h9 T=>?_;refine aFq (fO h8) (fO h9) ?_;have C:=hr.trans T;refine KF (ps:=awP) (ts:=awT) (h8.ext T) h9 (λp hp=>by simp only[awP,aX,bU,fT]at hp;rcases hp with rfl|rfl<;>decide) λb m l w4 ha hu hv=>?_;simp only[bX];refine⟨_,rfl,_,rfl,?_⟩;refine cO λb2 w5 xw xr hh hq=>?_;refine dH hh hu rfl hv λw6 xq xa hz=>?_;have S:Ext w4 w6:=hq.new hz (by omega);have g:=ha.more S;rw[Fx.eq_pn,cI];have X:Ext w w6:=C.trans g.ext;obtain⟨mods,x,q⟩:=RL.of_test aFO;refine Kk (wT hT X) g.fs g.ok (λmods' y v Ls w7 R hb=>?_) (λc p a y=>by rw[x]at y;cases y);obtain rfl:mods=mods':=by rw[x]at y;injection y
 have Z:=g.more R;simp only[bX];refine⟨_,rfl,_,rfl,?_⟩;refine cO λb3 w8 xv xo hg ho=>?_;refine dH (l:=[v]) hg rfl rfl (by simp[fO hb.ow.sl]) λw9 xn I hy=>?_;have B:Ext w7 w9:=ho.new hy (by omega);have Y:=Z.more B;refine Fx.fremove (p:=WA) Y λP r E=>?_;have xt:=g.fs.lt;have xs:=g.fs.mlt;have xp:=R.size;have z:=hb.ext B;have H:CfR P w6.heap.size v Ls mods:=z.keep E (λk hk e=>by have:=z.in_.1 k hk;have e:k=b\/k=m:=e;omega) (λL hL k hk e=>by have:=z.in_.2 L hL k hk;have e:k=b\/k=m:=e;omega);have A:=E.at I (λe=>by have e:b3=b\/b3=m:=e;omega);have t:Ext w P:=C.trans r.ext;refine Kk (wT hT t) r.fs r.ok (λmods' y=>by have e:=RL.of_testB aB2;rw[e]at y;cases y) (λc p a y d hn V hd hx=>?_);have hs:=RL.of_testB aB2;rw[hs]at y;injection y with e1 e2 e3
 subst e1 e2 e3;simp only[bX];refine⟨_,rfl,_,rfl,?_⟩;refine cO λb5 xm xu xd hf U=>?_;refine dH (l:=[.slice none 0 0]) hf rfl rfl rfl λO xc hj hc=>?_;have s:Ext hn O:=U.new hc (by omega);have n:=V.trans s;have f:=H.ext n;have o:=n.at A id;have G:=s.at hx id;have F:=t.trans n;rw[aFF,gX];obtain⟨Q,mb,rfl⟩:∃Q mb,mods=[Q,mb]:=by
  revert q;cases mods with
  |nil=>intro h;cases h
  |cons a l=>cases l with
   |nil=>intro h;cases h
   |cons b l=>cases l with
    |nil=>intro _;exact⟨a,b,rfl⟩
    |cons c l=>intro h;cases h
 obtain⟨c0,he,ht⟩:∃c,Q.calls=[c]/\c.mod=1:=by
  simp only at q;revert q;cases Q.calls with
  |nil=>intro h;cases h
  |cons c l=>cases l with
   |nil=>intro h;exact⟨c,rfl,fP h⟩
   |cons d l=>intro h;cases h
 obtain⟨La,M⟩:∃La,Ls[0]?=some La:=⟨_,aH (by rw[f.len];simp)⟩;have D:=f.md 0 La Q M rfl;refine GdW.look true (λ_ J N=>?_) λg1=>?_
 .rw[bH,bN,aN];refine ldb o (v:=v) rfl ?_;rw[gQ f.ow.sl,bW];exact N
 simp only[aG];rw[gM,gX];refine GdW.look true (λ_ J N=>?_) λg2=>?_
 .rw[bH,bN,aN];refine ldb o (v:=v) rfl ?_;refine f.field (i:=0) (j:=8) (u:=La.vC) M rfl (by omega) rfl ?_;rw[gQ D.oC.sl,bW,he];exact N
 simp only[aG];rw[gM,gX];refine GdW.look true (λ_ J N=>?_) λg3=>?_
 .rw[bH,bN,aN];refine ldb o (v:=v) rfl ?_;refine f.field (i:=0) (j:=8) (u:=La.vC) M rfl (by omega) rfl ?_;refine D.call_mod (i:=0) (c:=c0) (by rw[he];rfl) ?_;rw[ht,bW];exact N
 simp only[aG];rw[gM,gX];refine GdW.look true (λ_ J N=>?_) λg4=>?_
 .refine aDW (by decide) G ?_;exact N
 simp only[aG];rw[gM];exact hK O F
end
structure Calm(s:Vfs.MS)(n:Nat):Prop where
 live:s.dead=false
 left:s.left=-1
 few:s.files.length<=n
def Wb(l:Vfs.Files)(p:Str)(x:Vfs.MF):(Vfs.wth l p x).length<=l.length+1:=by
 unfold Vfs.wth;rw[(Vfs.ins_perm _ p x).length_eq,aA];have:=(Vfs.wo_sub l p).length_le;omega
def Ig{s:Vfs.MS}(h:Calm s n):Vfs.vstepM s=(⟨s.files,IntKind.i64.wrap (s.steps+1),-1,false⟩,0):=by
 obtain⟨fs,st,a,d⟩:=s;have c:d=false:=h.live;have b:a=-1:=h.left;subst c b;unfold Vfs.vstepM;rw[aE (by simp),aE (by show¬((-1:Int)>0);omega)]
def Nk{s:Vfs.MS}(h:Calm s n)(i:n<64)(p data:Str):Calm (Vfs.writeM s p data false).1 (n+1)/\(Vfs.good p=true->data.length<=65536->(Vfs.writeM s p data false).2=0/\∀q,q≠p->Vfs.lkM (Vfs.writeM s p data false).1.files q=Vfs.lkM s.files q):=by
 have f:=Ig h;have j:=h.few;have d:Calm s (n+1):=⟨h.live,h.left,by omega⟩;unfold Vfs.writeM;by_cases b:Vfs.good p=false
 .rw[aO b];exact⟨d,λe=>by rw[b]at e;cases e⟩
 rw[aE b];by_cases a:data.length>65536\/(Vfs.lkM s.files p=none/\64<=s.files.length)
 .rw[aO a];exact⟨d,λ_ e=>by rcases a with c|c<;>omega⟩
 rw[aE a,aE (by simp),f,aE (by simp)];refine⟨⟨rfl,rfl,?_⟩,λ_ _=>⟨rfl,λq g=>?_⟩⟩
 .have:=Wb s.files p ⟨data,((Vfs.lkM s.files p).map (·.safe)).getD [],((Vfs.lkM s.files p).map (·.saved)).getD false⟩;show(Vfs.wth s.files p _).length<=n+1;omega
 .show Vfs.lkM (Vfs.wth s.files p _) q=_;rw[Vfs.lk_wth,aE g]
section
variable [HX]
end
end
section
open Go Go.Eng Go.Lex Go.Syn Go.Cfg
structure RsB(r:Rs):Prop where
 a1:r.attrs.length<=100000000000
 a2:∀x∈r.attrs,x.n.length<=1000000
 d1:r.deps.length<=100000000000
 d2:∀x∈r.deps,x.length<=4000000
def HG{σ:Type}{f:Fl}{take:σ->Atr->Ex->RC σ}{μ:σ->Nat}{c:Nat}(h:∀s a s',take s a (jU f a.e)=.ok s'->μ s'<=μ s+c):∀(l seen:List Atr) (s s':σ),lA f take seen l s=.ok s'->μ s'<=μ s+l.length*c
 |[],_,s,s',e=>by
  simp only[lA]at e
  injection e with e
  rw[e];omega
 |a::l,seen,s,s',e=>by
  simp only[lA]at e
  split at e
  .cases e
  obtain⟨b,g,d⟩:=bind_ok e
  have j:=h s a b g
  have i:=HG h l _ b s' d
  rw[aA,sT]
  omega
structure FlB(f:Fl):Prop where
 ex:f.ex.length<=100000
 args:∀i,(jU f i).args.length<=1000000
 nm:∀i,(jU f i).k=10\/(jU f i).k=9->(jU f i).t.length<=32/\i<f.ex.length
def QY{t:Str}{f:Fl}(h:lS t=.ok f):FlB f:=by
 have g:=BX h;have k:=(Bl h g).fa ⟨.slice none 0 0,.slice none 0 0,.slice none 0 0,[],[]⟩;have j:=(Bm h).1;refine⟨g.1,λi=>?_,λi b=>?_⟩
 .unfold jU;rw[aM];cases c:f.ex[i]? with
  |none=>exact cZ _
  |some e=>exact(k.ch.few e (bA c)).1
 .unfold jU at b⊢;rw[aM]at b⊢;cases c:f.ex[i]? with
  |none=>rw[c]at b;rcases b with b|b<;>cases b
  |some e=>
   rw[c]at b;refine⟨?_,(bJ.1 c).1⟩;have d:=j e (bA c);simp only[tY]at b⊢;cases d with
   |name a h=>exact h.le
   |attr u a h=>exact h.le
   |lit=>simp
   |text=>rcases b with b|b<;>cases b
   |int=>rcases b with b|b<;>cases b
   |call us a h=>rcases b with b|b<;>cases b
   |loop u v a h=>rcases b with b|b<;>cases b
   |splat u a h=>rcases b with b|b<;>cases b
   |_=>simp
def Ji{f:Fl}(b:FlB f):∀(n i:Nat) (s t:Str),pV f n i s=some t->t.length<=s.length+n*33
 |0,_,_,_,h=>by cases h
 |n+1,i,s,t,h=>by
  simp only[pV]at h
  split at h
  .rename_i a
   have c:=(b.nm i (.inl a)).1
   have:=Ji b n _ _ t h
   simp only[aA,aB]at this
   omega
  .split at h
   .rename_i a
    have c:=(b.nm i (.inr a)).1
    injection h with h
    rw[<-h,aB]
    omega
   .cases h
def Mu{f:Fl}(b:FlB f):∀(us:List Nat) (ds r:List Str),uD f us ds=some r->(∀x∈ds,x.length<=4000000)->r.length=ds.length+us.length/\∀x∈r,x.length<=4000000
 |[],ds,r,h,hd=>by
  simp only[uD]at h
  injection h with h
  subst h
  exact⟨rfl,hd⟩
 |u::us,ds,r,h,hd=>by
  simp only[uD]at h
  cases a:xK f u with
  |none=>rw[a]at h;cases h
  |some t=>
   rw[a]at h
   have i:u<f.ex.length:=by
    unfold xK at a;simp only[pV]at a;split at a
    .rename_i c;exact(b.nm u (.inl c)).2
    .split at a
     .rename_i c;exact(b.nm u (.inr c)).2
     .cases a
   have d:=Ji b (u+1) u [] t a;have:=b.ex;simp only[aD]at d;obtain⟨g,e⟩:=Mu b us (ds++[t]) r h (sE hd (by omega));exact⟨by rw[g];simp;omega,e⟩
def aCs{f:Fl}(i:FlB f){r r':Rs}{a:Atr}(g:a.n.length<=1000000)(h:tA f r a (jU f a.e)=.ok r'):((∀x∈r.attrs,x.n.length<=1000000)->∀x∈r'.attrs,x.n.length<=1000000)/\((∀x∈r.deps,x.length<=4000000)->∀x∈r'.deps,x.length<=4000000):=by
 simp only[tA]at h;split at h
 .cases h
 split at h
 .obtain⟨rfl,_⟩:=sO h;exact⟨id,id⟩
 split at h
 .obtain⟨rfl,_⟩:=sO h;exact⟨id,id⟩
 split at h
 .split at h
  .cases h
  .rename_i ds b;split at h
   .injection h with h;subst h
    exact⟨id,λd=>(Mu i _ _ _ b d).2⟩
   .cases h
 .obtain⟨rfl,_⟩:=sO h;exact⟨λc=>sE c g,id⟩
def Tt{f:Fl}(d:FlB f){r r':Rs}{a:Atr}(h:tA f r a (jU f a.e)=.ok r'):r'.attrs.length<=r.attrs.length+1/\r'.deps.length<=r.deps.length+1000000:=by
 have g:=d.args a.e;simp only[tA]at h;split at h
 .cases h
 split at h
 .obtain⟨rfl,_⟩:=sO h;exact⟨qA _,yR _ _⟩
 split at h
 .obtain⟨rfl,_⟩:=sO h;exact⟨qA _,yR _ _⟩
 split at h
 .split at h
  .cases h
  .rename_i ds b;split at h
   .injection h with h;subst h
    refine⟨qA _,?_⟩;have c:∀(us:List Nat) (ds r:List Str),uD f us ds=some r->r.length=ds.length+us.length:=λus=>by
     induction us with
     |nil=>intro ds r h;simp only[uD]at h;injection h with h;rw[h];rfl
     |cons u us ih=>
      intro ds r h;simp only[uD]at h;split at h
      .cases h
      .rw[ih _ _ h];simp;omega
    have:=c _ _ _ b;show ds.length<=_;omega
   .cases h
 .obtain⟨rfl,_⟩:=sO h;exact⟨by simp,yR _ _⟩
def Uz{f:Fl}:∀(l:List Nat) (i:Nat) (r r':Rs),uU f i l r=.ok r'->r'.attrs=r.attrs/\r'.deps=r.deps
 |[],i,r,r',h=>by
  simp only[uU]at h
  injection h with h;subst h;exact⟨rfl,rfl⟩
 |k::l,i,r,r',h=>by
  simp only[uU]at h
  split at h
  .cases h
  split at h
  .cases h
  obtain⟨c,e,h⟩:=bind_ok h
  obtain⟨_,_,h⟩:=bind_ok h
  have g:=Uz l _ c r' h
  have g1:c.attrs=r.attrs/\c.deps=r.deps:=
   pW (P:=λx:Rs=>x.attrs=r.attrs/\x.deps=r.deps) _ [] r c (λx a j _ d b=>by
    simp only[tO]at b
    split at b
    .split at b
     .injection b with b;subst b;exact d
     .cases b
    split at b
    .split at b
     .injection b with b;subst b;exact d
     .cases b
    .cases b) ⟨rfl,rfl⟩ e
  exact⟨g.1.trans g1.1,g.2.trans g1.2⟩
theorem VB{s s':MS}{k:Nat}(g:FlB s.m.fl)(d:ShB (iY s.m.fl k))(f:(iY s.m.fl k).attrs.length<=100000)(h:∀r∈s.m.res,RsB r)(e:Cfg.blockMc s (iY s.m.fl k)=.ok s'):(∀r∈s'.m.res,RsB r)/\s'.m.fl=s.m.fl:=by
 generalize iY s.m.fl k=b at*
 unfold Cfg.blockMc at e;split at e
 .cases e
 split at e
 .unfold oJ at e;obtain⟨_,_,e⟩:=bind_ok e;obtain⟨_,_,e⟩:=bind_ok e;split at e
  .cases e
  .injection e with e;subst e;exact⟨h,rfl⟩
 split at e
 .unfold sP at e;obtain⟨_,_,e⟩:=bind_ok e;obtain⟨_,_,e⟩:=bind_ok e;injection e with e;subst e;exact⟨h,rfl⟩
 split at e
 .unfold sL at e;obtain⟨_,_,e⟩:=bind_ok e;obtain⟨_,_,e⟩:=bind_ok e;split at e
  .cases e
  split at e
  .cases e
  .injection e with e;subst e;exact⟨h,rfl⟩
 split at e
 .unfold oN at e;obtain⟨r,i,e⟩:=bind_ok e;obtain⟨u,q,e⟩:=bind_ok e;have g1:=HG (μ:=λr:Rs=>r.attrs.length) (λs a s' c=>(Tt g c).1) _ _ _ _ i;have g2:=HG (μ:=λr:Rs=>r.deps.length) (λs a s' c=>(Tt g c).2) _ _ _ _ i;have g3:(∀x∈r.attrs,x.n.length<=1000000)/\∀x∈r.deps,x.length<=4000000:=
   pW (P:=λx:Rs=>(∀y∈x.attrs,y.n.length<=1000000)/\∀y∈x.deps,y.length<=4000000) b.attrs [] _ r (λx a t p j c=>by
    obtain⟨o,l⟩:=aCs g (d.2 a p) c;exact⟨o j.1,l j.2⟩) ⟨by simp,by simp⟩ i
  obtain⟨l1,l2⟩:=Uz _ _ _ _ q;simp only[aD]at g1 g2;have g4:b.attrs.length*1000000<=100000*1000000:=dU _ f;split at e
  .cases e
  .injection e with e;subst e
   exact⟨sE h ⟨by rw[l1];omega,by rw[l1];exact g3.1,by rw[l2];omega,by rw[l2];exact g3.2⟩,rfl⟩
 split at e
 .unfold AL at e;obtain⟨_,_,e⟩:=bind_ok e;obtain⟨_,_,e⟩:=bind_ok e;split at e
  .cases e
  split at e
  .cases e
  .injection e with e;subst e;exact⟨h,rfl⟩
 .injection e with e;subst e;exact⟨h,rfl⟩
def Jn:∀(l:List Nat) (s s':MS),FlB s.m.fl->(∀k,ShB (iY s.m.fl k))->(∀k,(iY s.m.fl k).attrs.length<=100000)->(∀r∈s.m.res,RsB r)->kX l s=.ok s'->∀r∈s'.m.res,RsB r
 |[],s,s',_,_,_,h,e=>by
  simp only[kX]at e
  injection e with e
  subst e;exact h
 |k::l,s,s',c,a,b,h,e=>by
  simp only[kX]at e
  obtain⟨d,f,e⟩:=bind_ok e
  obtain⟨g1,g2⟩:=VB c (a k) (b k) h f
  exact Jn l d s' (by rw[g2];exact c) (by rw[g2];exact a) (by rw[g2];exact b) g1 e
structure VR(rd:Str->Option Str)(m:Md):Prop where
 src:∃data,rd (m.dir++nM)=some data/\lS data=.ok m.fl
 rs:∀r∈m.res,RsB r
def Qr(rd:Str->Option Str)(ld:Str->List Md->RL (List Md)):Prop:=∀dir mods M,ld dir mods=.ok M->∀i m,mods.length<=i->M[i]?=some m->VR rd m
def Jj{rd:Str->Option Str}{sub:Option (Str->List Md->RL (List Md))}(d:∀ld,sub=some ld->Fz ld/\Qr rd ld)(path dir:Str):∀(l:List (Cl×Str)) (done:List Cl) (mods:List Md) (cs:List Cl) (M:List Md),lX sub path dir l done mods=.ok (cs,M)->∀i m,mods.length<=i->M[i]?=some m->VR rd m
 |[],done,mods,cs,M,e=>by
  simp only[lX]at e
  injection e with e
  simp only[gA]at e
  rw[<-e.2]
  intro i m h b
  have:=(bJ.1 b).1
  omega
 |(c,src)::l,done,mods,cs,M,e=>by
  simp only[lX]at e
  cases sub with
  |none=>cases e
  |some ld=>
   simp only at e
   split at e
   .cases e
   cases g:ld (dir++src++[47]) mods with
   |bad k p a=>rw[g]at e;cases e
   |ok m1=>
    rw[g]at e
    simp only at e
    split at e
    .cases e
    split at e
    .cases e
    intro i m h b
    by_cases f:i<m1.length
    .have o:=zS (λx j=>(d x j).1) path dir l _ m1 cs M e
     refine(d ld rfl).2 _ _ _ g i m h ?_
     obtain⟨t,n⟩:=o
     rw[<-n,dR f]at b
     exact b
    .exact Jj d path dir l _ m1 cs M e i m (by omega) b
def GT{rd:Str->Option Str}:∀n,Qr rd (tN rd n):=by
 have step:∀sub:Option (Str->List Md->RL (List Md)),(∀ld,sub=some ld->Fz ld/\Qr rd ld)->Qr rd (tM rd sub):=by
  intro sub u dir mods M e;unfold tM at e;split at e
  .cases e
  rename_i data l;split at e
  .cases e
  rename_i fl f;split at e
  .cases e
  rename_i s q;split at e
  .cases e
  rename_i cs m1 v;injection e with e
  subst e;have c:=xL _ _ _ (Ga dir fl) (λb p a w=>(sV f).2.1 b p a w) q;have o:s.m.fl=fl:=c.2.1;have j:s.m.dir=dir:=c.2.2;have k:=Jn _ ⟨⟨dir,fl,[],[],[],[],[]⟩,[]⟩ _ (QY f) (Fc f) (Jr f) (λr h=>by cases h) q;intro i m x d;by_cases t:i=mods.length
  .subst t;have g:=(bJ.1 d).1;rw[mB]at g;rw[oD g]at d;injection d with d
   subst d;exact⟨⟨data,by show rd (s.m.dir++nM)=_;rw[j];exact l,by show _=PR.ok s.m.fl;rw[o];exact f⟩,k⟩
  .rw[EU (λh=>t h.symm)]at d;exact Jj u _ _ _ _ _ _ _ v i m (by simp;omega) d
 intro n;induction n with
 |zero=>exact step none λ_ h=>by cases h
 |succ n ih=>exact step _ λld h=>by cases h;exact⟨LX n,ih⟩
def Sx{s:Vfs.MS}(h:Calm s n)(c:n<64){p:Str}(b:Vfs.good p=true)(f:y.length<=65536):rdF (Vfs.writeM s p y false).1 p=some y:=by
 have a:=Ig h;have d:=h.few;unfold rdF Vfs.writeM;rw[aE (by rw[b];decide),aE (by intro e;rcases e with e|e<;>omega),aE (by simp),a,aE (by simp)];show(Vfs.lkM (Vfs.wth s.files p _) p).map (·.data)=_;rw[Vfs.lk_wth,aO rfl];rfl
def MM(D:Str->Str):∀(l:List (Str×Str)) (s:Vfs.MS) (n:Nat),Calm s n->n+l.length<=60->(∀x∈l,Vfs.good x.1=true/\x.2.length<=6000/\D x.1=x.2)->∀p,((∃x∈l,x.1=p)\/rdF s p=some (D p))->rdF (yO l s) p=some (D p)
 |[],s,n,h,_,_,p,a=>by
  rcases a with⟨x,b,_⟩|a
  .cases b
  .exact a
 |(p0,t0)::l,s,n,h,j,i,p,a=>by
  simp only[aA]at j
  obtain⟨d1,d2,d3⟩:=i (p0,t0) (by simp)
  simp only at d1 d2 d3
  have d:t0.take 6000=t0:=iD d2
  have g:=Nk h (by omega) p0 (t0.take 6000)
  refine MM D l _ (n+1) g.1 (by omega) (λx b=>i x (aF _ b)) p ?_
  have e:=Sx h (by omega) d1 (show(t0.take 6000).length<=65536 by rw[d];omega)
  by_cases f:p=p0
  .subst f
   right
   rw[e,d,<-d3]
  .rcases a with⟨x,b,c⟩|a
   .rcases aX.1 b with rfl|b
    .exact absurd c.symm f
    .exact .inl ⟨x,b,c⟩
   .right
    have:=(g.2 d1 (by rw[d];omega)).2 p f
    unfold rdF at a⊢
    rw[this];exact a
def Nj{s:Vfs.MS}(h:∀p x,Vfs.lkM s.files p=some x->Vfs.good p=true)(q d:Str):∀p x,Vfs.lkM (Vfs.writeM s q d false).1.files p=some x->Vfs.good p=true:=by
 unfold Vfs.writeM;split
 .exact h
 rename_i b;split
 .exact h
 split
 .exact h
 split
 .intro p x a;unfold Vfs.vstepM at a;split at a<;>exact h p x a
 .intro p x a;simp only at a;rw[Vfs.lk_wth]at a;split at a
  .rename_i e;subst e;simpa using b
  .exact h p x a
def Hz:∀(l:List (Str×Str)) (s:Vfs.MS),(∀p x,Vfs.lkM s.files p=some x->Vfs.good p=true)->∀p x,Vfs.lkM (yO l s).files p=some x->Vfs.good p=true
 |[],s,h=>h
 |(q,t)::l,s,h=>Hz l _ (Nj h q _)
def Po{ps ts:List Str}{p d:Str}(h:rdF (tT ps ts) p=some d):Vfs.good p=true:=by
 unfold rdF tT at h;cases a:Vfs.lkM (yO ((ps.zip ts).take 20) Vfs.newM).files p with
 |none=>rw[a]at h;cases h
 |some x=>exact Hz _ Vfs.newM (λp x h=>by cases h) p x a
def mPs(mods:List Md):List Str:=mods.map λm=>m.dir++nM
def mTs(mods:List Md):List Str:=mods.map λm=>nB m.fl
theorem Tl{ps ts:List Str}{mods:List Md}(h:tN (rdF (tT ps ts)) 4 [] []=.ok mods)(s:mods.length<=16)(f:∀m∈mods,(nB m.fl).length<=6000):∀m∈mods,rdF (tT (mPs mods) (mTs mods)) (m.dir++nM)=some (nB m.fl):=by
 have a:∀m∈mods,VR (rdF (tT ps ts)) m:=λm c=>by
  obtain⟨i,q⟩:=nK c;exact GT 4 _ _ _ h i m (cZ _) q
 let D:Str->Str:=λp=>match mods.find? λm=>decide (m.dir++nM=p)with|some m=>nB m.fl|none=>[]
 have n:∀m∈mods,D (m.dir++nM)=nB m.fl:=λm c=>by
  show(match mods.find? λm'=>decide (m'.dir++nM=m.dir++nM)with|some m=>nB m.fl|none=>[])=_;cases k:mods.find? λm'=>decide (m'.dir++nM=m.dir++nM)with
  |none=>
   have:=List.find?_eq_none.1 k m c;simp at this
  |some m'=>
   have t:=List.mem_of_find?_eq_some k;have r:m'.dir++nM=m.dir++nM:=by have:=List.find?_some k;simpa using this
   obtain⟨d,l,u⟩:=(a m c).src;obtain⟨v,j,g⟩:=(a m' t).src;rw[r,l]at j;injection j with j
   subst j;rw[u]at g;injection g with g
   rw[g]
 have e:(mPs mods).zip (mTs mods)=mods.map λm=>(m.dir++nM,nB m.fl):=by
  unfold mPs mTs;rw[List.zip_map']
 intro m c;unfold tT;rw[e,iD (by rw[cK];omega),<-n m c];refine MM D _ Vfs.newM 0 ⟨rfl,rfl,aQ _⟩ (by rw[cK];omega) (λx o=>?_) _ (.inl ⟨(m.dir++nM,nB m.fl),fL.2 ⟨m,c,rfl⟩,rfl⟩);obtain⟨m',b,rfl⟩:=fL.1 o;obtain⟨d,l,_⟩:=(a m' b).src;exact⟨Po l,f m' b,n m' b⟩
end
section
open Go Go.Eng Go.RowKit Go.Syn Go.Lex Go.Cfg
abbrev TrT:TypeId:=51
def aHi{a u:Value}{K:List Value->Prop}(b:kJ u=true)(c:K [u]):kE [a] [(0,1,u)] K:=by
 have d:=Ez b;simp only[kE,d];exact⟨rfl,by simp,c⟩
def KG{x:Str}(b:∀t W,SlAt W StT t 1 (strs [x])->(∀k,t.ownBlock=some k->w.heap.size<=k)->Ext w W->K t W):gP StT 1 [str []] [(0,1,str x)] w K:=by
 rw[gP];refine aHi rfl ?_;exact b _ _ (Ds (w:=w) (base:=w.heap.size) (e:=StT) (size:=1) (n:=1) (cs:=[str x]) (aQ _) rfl (by omega)).sl (λk a=>by cases a;exact aQ _) (Chg.alloc (Chg.refl _ _) _)
structure TR(w0 w:World)(b:Nat)(vp vt:Value)(ps ts:List Str):Prop where
 ch:Ext w0 w
 hb:w.heap[b]?=some (.cells [vp,vt].toArray TrT (0,0))
 op:Own w w0.heap.size StT 1 vp ps.length (strs ps)
 ot:Own w w0.heap.size StT 1 vt ts.length (strs ts)
 ne:∀k,vp.ownBlock=some k->vt.ownBlock≠some k/\k≠b
 nt:vt.ownBlock≠some b
 lo:w0.heap.size<=b
def TR.ext{w0:World}{b:Nat}{ps ts:List Str}(h:TR w0 w b v g ps ts)(a:Ext w W):TR w0 W b v g ps ts:=
 ⟨h.ch.trans a,a.at h.hb id,eJ h.op a λ_ _ e=>e,eJ h.ot a λ_ _ e=>e,h.ne,h.nt,h.lo⟩
structure TRP(w0 w:World)(b:Nat)(vp vp' vt:Value)(ps ts:List Str):Prop where
 ch:Ext w0 w
 hb:w.heap[b]?=some (.cells [vp,vt].toArray TrT (0,0))
 op:Own w w0.heap.size StT 1 vp' ps.length (strs ps)
 ot:Own w w0.heap.size StT 1 vt ts.length (strs ts)
 ne:∀k,vp'.ownBlock=some k->vt.ownBlock≠some k/\k≠b
 nt:vt.ownBlock≠some b
 lo:w0.heap.size<=b
def TRP.ext{w0:World}{b:Nat}{vt:Value}{ps ts:List Str}(h:TRP w0 w b v g vt ps ts)(a:Ext w W):TRP w0 W b v g vt ps ts:=
 ⟨h.ch.trans a,a.at h.hb id,eJ h.op a λ_ _ e=>e,eJ h.ot a λ_ _ e=>e,h.ne,h.nt,h.lo⟩
section
variable [HX]
def TR.app{w0:World}{b:Nat}{vt t:Value}{ps ts:List Str}{x:Str}(h:TR w0 w b g vt ps ts)(i:SlAt w StT t 1 (strs [x]))(o:ps.length<=1000)(m:∀v W,TRP w0 W b g v vt (ps++[x]) ts->Chg (λk=>g.ownBlock=some k) w W->K v W):
  fV P0 (Builtin.append_ #[33,33] 33 #[g,t]) w K:=by
 have z:=h.ch.size;refine iV DY h.op i rfl (λu d=>by simp only[strs,cJ,kA,aX,bU,fT]at d;subst d;rfl) (by omega) (by omega) (by omega) λf W l c j=>?_;refine m f W ⟨h.ch.then c λk a e=>?_,c.at h.hb (λe=>(h.ne b e).2 rfl),by rw[zA,aB];exact l,eJ h.ot c (λk a e=>(h.ne k e).1 a),λk a=>?_,h.nt,h.lo⟩ c
 .have:=(lK h.op e).2;omega
 .rcases j k a with e|e
  .exact h.ne k e
  .have p:=pC h.hb;exact⟨λn=>by have:=(lK h.ot n).1;omega,by omega⟩
theorem TRP.fin{w0:World}{b:Nat}{vp' vt t:Value}{ps ts:List Str}{KW:World->Prop}(h:TRP w0 w b g vp' vt ps ts)(E:SlAt w StT t 1 (strs [y]))(G:ts.length<=1000)(F:∀v W,TR w0 W b vp' v ps (ts++[y])->KW W):
  fV P0 (Builtin.append_ #[33,33] 33 #[vt,t]) w λt36 o=>
   stW 1 (.pointer (some ⟨b,0,none⟩)) vp' o λi=>stW 1 (.pointer (some ⟨b,1,none⟩)) t36 i KW:=by
 have z:=h.ch.size;refine iV DY h.ot E rfl (λu B=>by simp only[strs,cJ,kA,aX,bU,fT]at B;subst B;rfl) (by omega) (by omega) (by omega) λp W D q C=>?_;have r:=q.at h.hb (λe=>h.nt e);refine lJ r (fO h.op.sl) (by simp) λi A d m=>?_;have d:i.heap[b]?=some (.cells [vp',vt].toArray TrT (0,0)):=by rw[d];simp
 refine lJ d (fO D.sl) (by simp) λf x c l=>?_;have c:f.heap[b]?=some (.cells [vp',p].toArray TrT (0,0)):=by rw[c];simp
 have H:=pC h.hb;have j:∀k,p.ownBlock=some k->k≠b:=λk a e=>by
  rcases C k a with n|n
  .exact h.nt (by rw[<-e];exact n)
  .omega
 have s:Chg (λk=>k=b) W f:=m.trans l;refine F p f ⟨(h.ch.then q λk a e=>?_).then s λk a e=>?_,c,eJ (eJ h.op q λk a e=>(h.ne k a).1 e) s (λk a e=>(h.ne k a).2 e),?_,λk a=>⟨λe=>?_,(h.ne k a).2⟩,λe=>j b e rfl,h.lo⟩
 .have:=(lK h.ot e).2;omega
 .have:=h.lo;have e:k=b:=e;omega
 .rw[zA,aB];exact eJ D s λk a e=>j k a e
 .rcases C k e with n|n
  .exact(h.ne k a).1 n
  .have:=(lK h.op a).1;omega
end
section
variable [HX]
def aDG{w0:World}{ns:List Str}{x:Str}(b:Chg S w0 w)(h:Own w w0.heap.size StT 1 v ns.length (strs ns))(q:ns.length<=1000000000000)(n:∀v' W,Chg S w0 W->Own W w0.heap.size StT 1 v' (ns++[x]).length (strs (ns++[x]))->(∀k,v.ownBlock≠some k->k<w.heap.size->W.heap[k]?=w.heap[k]?)->(∀k,v'.ownBlock=some k->v.ownBlock=some k\/w.heap.size<=k)->K v' W):
  gP StT 1 [str []] [(0,1,str x)] w λt79 d=>fV P0 (Builtin.append_ #[33,33] 33 #[v,t79]) d K:=by
 have z:=b.size;refine KG λt p j nt a=>?_;have o:=a.size;refine iV DY (eJ h a λ_ _ e=>e) j rfl (λu g=>by simp only[strs,cJ,kA,aX,bU,fT]at g;subst g;rfl) (by omega) (by omega) (by omega) λv' W m i l=>?_;refine n v' W ((b.trans (Chg.of_ext a)).then i λk c e=>?_) (by rw[zA,aB];exact m) (λk c f=>?_) λk c=>(l k c).imp id (by omega)
 .have:=(lK h e).2;omega
 .rw[i.heap k (by omega) c,a.heap k f id]
end
end
section
open Go Go.Eng Go.RowKit
section
variable [HX]
def PY(u:Nat):Lib.decDigits u≠[]:=by
 rw[Lib.decDigits];split<;>simp
def UY(u:Nat)(h:0<u):Lib.decDigits u=(if u/10=0 then []else Lib.decDigits (u/10))++[UInt8.ofNat (48+u%10)]:=by
 rw[Lib.decDigits];split
 .rw[aO (by omega),tZ (by omega)];rfl
 .rw[aE (by omega)]
def RE{u:Nat}(h:Lib.decDigits u=[48]):u=0:=by
 rw[Lib.decDigits]at h;split at h
 .rename_i a;have:=List.head_eq_of_cons_eq h;have e:=congrArg UInt8.toNat this;rw[vD]at e;have:(48:UInt8).toNat=48:=rfl;omega
 .rename_i a;have:=congrArg List.length h;rw[aB]at this;have b:0<(Lib.decDigits (u/10)).length:=iO.2 (PY _);simp at this;exact absurd this (PY _)
def Hj:∀(k u:Nat),u<10^k->(Lib.decDigits u).length<=k+1:=by
 intro k;induction k with
 |zero=>intro u h;rw[Lib.decDigits,dif_pos (by omega)];simp
 |succ k ih=>
  intro u h;rw[Lib.decDigits];split
  .simp
  .have:=ih (u/10) (by rw[Nat.pow_succ]at h;omega);rw[aB,List.length_singleton];omega
def RA{n:Int}(i:n≠0)(k:-9223372036854775808<=n)(j:n<=9223372036854775807)(b:K (str (Lib.itoa n)) w):aL P0 53 [.bool (decide (n<0)),str (Lib.decDigits n.natAbs)] w K:=by
 refine aEF ?_;unfold W53;have c:Lib.decDigits n.natAbs≠[48]:=λe=>by have:=RE e;omega
 unfold Lib.itoa at b;by_cases a:n<0
 .rw[aO a]at b;rw[bS a];refine GdW.look true (λ_ J d=>?_) λg=>?_
  .rw[iB,bS c];exact d
  show bE (.bool true) _ _;rw[dF,bY];have:=Hj 19 n.natAbs (by omega);have h:IntKind.i64.max=9223372036854775807:=by decide
  refine⟨by rw[h];simp only[aA,aD];omega,?_⟩;exact b
 .rw[aE a]at b;rw[cX a];refine GdW.f λg=>?_;show bE (.bool false) _ _;rw[cI];rw[show n.natAbs=n.toNat by omega];exact b
theorem Fj{n:Int}(q:-9223372036854775808<=n)(p:n<=9223372036854775807)(j:∀W,Ext w W->K (str (Lib.itoa n)) W):aL P0 22 [i64 n] w K:=by
 refine aEW ?_;unfold W22;rw[bW,aY];refine⟨λc=>?_,λc=>?_⟩
 .subst c;have e:Lib.itoa 0=[48]:=by unfold Lib.itoa;rw[aE (by decide),Lib.decDigits,dif_pos (by decide)];rfl
  rw[e]at j;exact j w (Chg.refl _ _)
 refine⟨λs W=>∃(m:Int) (out:Str),s=[str out,i64 m]/\Ext w W/\(if m=0 then []else Lib.decDigits m.natAbs)++out=Lib.decDigits n.natAbs/\-9223372036854775808<=m/\m<=9223372036854775807,
  λs _=>match s with|[_,.int _ i]=>i.natAbs|_=>0,⟨n,[],rfl,Chg.refl _ _,by rw[aE c,dL],q,p⟩,?_⟩
 rintro s g w2 ⟨m,out,rfl,o,b,z,y⟩;simp only[aG,bQ];rw[fR,aY];refine⟨λf=>?_,λa=>?_⟩
 .have x:out.length<=25:=by
   have:=Hj 19 n.natAbs (by omega);rw[<-b,aB]at this;omega
  rw[aE f,UY _ (by omega),cD]at b;rw[jF];refine⟨by decide,?_⟩;have E:(m.tmod 10).natAbs=m.natAbs%10:=by rw[Int.natAbs_tmod];rfl
  have v:(m.tdiv 10).natAbs=m.natAbs/10:=by rw[Int.natAbs_tdiv];rfl
  refine dE.cut (λs' W=>s'=[i64 ((m.natAbs%10:Nat):Int)]/\W=w2) ?_ ?_
  .rw[eC,aY];refine⟨λh=>?_,λh=>?_⟩
   .rw[kS,fZ (by omega) (by omega),show 0-m.tmod 10=((m.natAbs%10:Nat):Int)by omega];exact⟨rfl,rfl⟩
   .rw[show m.tmod 10=((m.natAbs%10:Nat):Int)by omega];exact⟨rfl,rfl⟩
  rintro s' g2 D ⟨rfl,rfl⟩;simp only[aG];rw[cP,fZ (by omega) (by omega),iA,show(48:Int)+((m.natAbs%10:Nat):Int)=((48+m.natAbs%10:Nat):Int)by omega,BI,tZ (by omega)];refine NA λt r u d=>?_;have A:Byt r U8 t [UInt8.ofNat (48+m.natAbs%10)]:=by
   have C:u8s [UInt8.ofNat (48+m.natAbs%10)]=[.int .u8 ((48+m.natAbs%10:Nat):Int)]:=by
    simp only[u8s,cJ,kA,vD];rw[tZ (by omega)]
   unfold Byt;rw[C];exact u
  rw[Hu (l:=[UInt8.ofNat (48+m.natAbs%10)]) (e:=U8) (by kernel_rfl) (by kernel_rfl) (by kernel_rfl) A,bY];have B:IntKind.i64.max=9223372036854775807:=by decide
  refine⟨by rw[B];simp only[aA,aD];omega,?_⟩;rw[jG];refine⟨by decide,?_⟩;rw[fZ (by omega) (by omega)];refine⟨⟨m.tdiv 10,_,rfl,o.trans d,?_,by omega,by omega⟩,?_⟩
  .rw[<-b,<-v];by_cases k:m.tdiv 10=0
   .rw[aO k,aO (by omega)]
   .rw[aE k,aE (by omega)]
  .show(m.tdiv 10).natAbs<m.natAbs;omega
 .have a:m=0:=kI a;rw[aO a,dS]at b;rw[eC,b];exact RA c q p (j w2 o)
end
end
section
open Go Go.Eng Go.RowKit Go.Syn Go.Lex Go.Cfg
def pOn:Str:=[32,111,110,32]
def rsT(r:Rs):Str:=((r.ty++[32]++r.n++r.attrs.flatMap λa=>32::a.n)++r.deps.flatMap λd=>pOn++d)++(if r.swap=true then [32,115,119,97,112]else [])++(if r.prev=true then [32,112,114,101,118,101,110,116]else [])
def clT(c:Cl):Str:=[99,97,108,108,32]++c.n++[32]++Lib.itoa (c.mod:Nat)
def mdT(m:Md):List Str:=[FQ++m.dir]++m.vars.map (λx=>QZ++x.n)++m.locs.map (λx=>JZ++x.n)++m.outs.map (λx=>FP++x.n)++m.res.map rsT++m.calls.map clT
def PD(f:Str->α){l a:List Atr}(h:nmA a=nmA l):a.map (λx=>f x.n)=l.map λx=>f x.n:=by
 have e:∀l:List Atr,l.map (λx=>f x.n)=(nmA l).map f:=λl=>by unfold nmA;rw[iP];rfl
 rw[e,e,h]
def WE{r r':Rs}(h:RsL r r'):rsT r'=rsT r:=by
 unfold rsT;have e:∀l:List Atr,(l.flatMap λa=>32::a.n)=(nmA l).flatMap λn=>32::n:=λl=>by unfold nmA;rw[yV]
 rw[h.ty,h.n,h.dp,h.sw,h.pv,e,e,h.at_]
def YW{m m':Md}(h:MdL m m'):mdT m'=mdT m:=by
 unfold mdT;rw[h.dir,h.v.map (p:=λx=>QZ++x.n) (q:=λx=>QZ++x.n) (λa b d=>by rw[d.1]),PD _ h.l,PD _ h.o,h.r.map (p:=rsT) (q:=rsT) (λa b d=>WE d),h.c.map (p:=clT) (q:=clT) (λa b d=>by unfold clT;rw[d.1,d.2.1])]
def Ri{l a:List Md}(h:Mls l a):a.flatMap mdT=l.flatMap mdT:=by
 induction h with
 |nil=>rfl
 |cons h b ih=>rw[dC,dC,YW h,ih]
def Kx{α:Type}{g:α->Str}{c:Nat}:∀{l:List α},(∀x∈l,(g x).length<=c)->(l.flatMap g).length<=l.length*c
 |[],_=>cZ _
 |a::l,h=>by
  rw[dC,aB,aA,sT]
  have:=h a (by simp)
  have:=Kx λx b=>h x (aF _ b)
  omega
def zM(h:α->β)(l:List α):(l.flatMap λx=>[h x])=l.map h:=by
 induction l with
 |nil=>rfl
 |cons a l ih=>rw[dC,ih];rfl
def StP(P:World->Prop):Prop:=∀(w w':World) (B n:Nat) (v:Value) (xs:List Value),Own w B StT 1 v n xs->(∀k,v.ownBlock≠some k->k<w.heap.size->w'.heap[k]?=w.heap[k]?)->P w->P w'
def StP.ext{P:World->Prop}(h:StP P)(a:Ext w W)(b:P w):P W:=h w W 0 0 (.slice none 0 0) [] (sA _ _ _ _) (λk _ c=>a.heap k c id) b
def Pd{b:Nat}{o:List Value}(g:StT≠U):StP λw=>w.heap[b]?=some (.cells o.toArray U (0,0)):=λw W B n v xs h f a=>by
 have a:w.heap[b]?=some (.cells o.toArray U (0,0)):=a
 show W.heap[b]?=_
 rw[f b (λe=>by
  obtain⟨_,c,d⟩:=h.block b e
  rw[a]at d
  exact zQ (λe=>g e.symm) d) (pC a)]
 exact a
def StP.and{P Q:World->Prop}(h:StP P)(d:StP Q):StP λw=>P w/\Q w:=λw W B n v xs c b a=>⟨h w W B n v xs c b a.1,d w W B n v xs c b a.2⟩
section
variable [HX]
def FZ{w0:World}{ns:List Str}{x:Str}{P:World->Prop}(e:StP P)(d:P w)(b:Ext w0 w)(h:Own w w0.heap.size StT 1 v ns.length (strs ns))(c:ns.length<=1000000000000)(f:∀v' W,Ext w0 W->Own W w0.heap.size StT 1 v' (ns++[x]).length (strs (ns++[x]))->P W->K v' W):
  gP StT 1 [str []] [(0,1,str x)] w λt79 a=>fV P0 (Builtin.append_ #[33,33] 33 #[v,t79]) a K:=
 aDG b h c λv' W j i g _=>f v' W j i (e w W _ _ v _ h g d)
theorem FY{w0:World}{ns:List Str}{l:List α}{f:α->List Str}{P:World->Prop}{B:List Value->World->(List Value->World->Prop)->Prop}{K:List Value->World->Prop}(y:l.length<=9223372036854775800)(j:Ext w0 w)(p:Own w w0.heap.size StT 1 v ns.length (strs ns))(k:P w)
  (r:∀i x v' W L,l[i]?=some x->Ext w0 W->Own W w0.heap.size StT 1 v' (ns++(l.take i).flatMap f).length (strs (ns++(l.take i).flatMap f))->P W->(∀v2 w2,Ext w0 w2->Own w2 w0.heap.size StT 1 v2 ((ns++(l.take i).flatMap f)++f x).length (strs ((ns++(l.take i).flatMap f)++f x))->P w2->L [v2,i64 ((i+1:Nat):Int)] w2)->B [v',i64 (i:Nat)] W L)
  (u:∀v' W,Ext w0 W->Own W w0.heap.size StT 1 v' (ns++l.flatMap f).length (strs (ns++l.flatMap f))->P W->K [v',i64 (l.length:Nat)] W):
  eK [v,(.int .i64 0)] w λs _ W L=>aS .lss (s.getD 1 undef) (i64 (l.length:Nat)) λt=>bE t (B s W L) (K s W):=by
 refine eK.go (λst W=>∃(i:Nat) (v':Value),st=[v',i64 (i:Nat)]/\i<=l.length/\Ext w0 W/\Own W w0.heap.size StT 1 v' (ns++(l.take i).flatMap f).length (strs (ns++(l.take i).flatMap f))/\P W) (λst _=>match st with|[_,.int _ i]=>l.length-i.toNat|_=>0) ⟨0,v,rfl,cZ _,j,by simpa using p,k⟩ ?_;rintro st g o ⟨i,v',rfl,z,c,n,a⟩;simp only[aG,bQ];rw[eC,aY];refine⟨λd=>?_,λq=>?_⟩
 .have d:i<l.length:=by omega
  obtain⟨x,b⟩:∃x,l[i]?=some x:=⟨_,aH d⟩;refine r i x v' o _ b c n a λv2 w2 h e m=>⟨⟨i+1,v2,rfl,by omega,h,?_,m⟩,by simp only[bD];omega⟩;rw[cD]at e;rw[jA,b,tW];simpa using e
 .obtain rfl:i=l.length:=by omega
  rw[dP]at n;exact u v' o c n a
theorem GN{nm:α->Str}{cell:α->List Value}(b:∀x,∃a c:Int,cell x=[str (nm x),i64 a,i64 c]){z:List Value}(hz:z.length=3){pre:Str}{w0:World}{l:List α}{ns:List Str}{P:World->Prop}{K:List Value->World->Prop}(S:StP P)(I:P w)(D:Ext w0 w)(h:SlAt w0 T g l.length (l.flatMap cell))(hv:Own w w0.heap.size StT 1 v ns.length (strs ns))(hl:l.length<=10000000000)(hn:ns.length<=900000000000)(F:∀x∈l,(nm x).length<=1000000)(R:pre.length<=100)
  (hK:∀v' W,Ext w0 W->Own W w0.heap.size StT 1 v' (ns++l.map λx=>pre++nm x).length (strs (ns++l.map λx=>pre++nm x))->P W->K [v',i64 (l.length:Nat)] W):
  iL g λt70=>
  eK [v,(.int .i64 0)] w λd _ j Q=>
   aS .lss (d.getD 1 undef) t70 λt72=>
   bE t72 (
    fX none 3 g (d.getD 1 undef) λt73=>
    ldW true 3 t73 j λt74=>
    eD U z j λt13 A=>
    stW 3 t13 t74 A λn=>
    bF 0 t13 λt76=>
    ldW false 1 t76 n λt77=>
    aS .add (str pre) t77 λt78=>
    gP StT 1 [(.string (ofL []))] [(0,1,t78)] n λt79 y=>
    fV P0 (Builtin.append_ #[33,33] 33 #[(d.getD 0 undef),t79]) y λt80 u=>
    aS .add (d.getD 1 undef) (.int .i64 1) λt90=>
    Q [t80,t90] u) (K d j):=by
 rw[gQ h];refine FY (w0:=w0) (f:=λx=>[pre++nm x]) (by omega) D hv I (λi x v' X L k o hO M hL=>?_) λv' W E t N=>hK v' W E (by rw[zM (λx:α=>pre++nm x)]at t;exact t) N;have G:=(bJ.1 k).1;obtain⟨a,c,e⟩:=b x;simp only[aG,bQ];have q:(l.flatMap cell).length=l.length*3:=zN _ (λx=>by obtain⟨a,c,e⟩:=b x;rw[e];rfl) l;refine qV (h.ext o) q (by omega) G ?_;have p:((l.flatMap cell).drop (i*3)).take 3=cell x:=EG (λx=>by obtain⟨a,c,e⟩:=b x;rw[e];rfl) k;rw[p,e];refine cO λbb w2 hc Z s C=>?_;refine dH (l:=[str (nm x),i64 a,i64 c]) s rfl hz rfl λV Y r H=>?_;have m:Ext X V:=C.new H (by omega);rw[bH,bN];refine ldb r (v:=str (nm x)) rfl ?_;rw[bY];refine⟨by have:=F x (bA k);show(_:Int)<=9223372036854775807;omega,?_⟩;refine FZ S (S.ext m M) (o.trans m) (eJ hO m λ_ _ e=>e) (by rw[zM (λx:α=>pre++nm x)];simp only[aB,cK,cG];omega) λv2 w4 B O J=>?_;rw[cP,upi (by omega)];exact hL _ _ B O J
def Lc{w0:World}{l:List α}{g:α->Str}{B:List Value->World->(List Value->World->Prop)->Prop}{K:List Value->World->Prop}(m:l.length<=9223372036854775800)(e:Ext w0 w)
  (j:∀i x W L,l[i]?=some x->Ext w0 W->(∀w2,Ext w0 w2->L [str ((s++(l.take i).flatMap g)++g x),i64 ((i+1:Nat):Int)] w2)->B [str (s++(l.take i).flatMap g),i64 (i:Nat)] W L)
  (k:∀W,Ext w0 W->K [str (s++l.flatMap g),i64 (l.length:Nat)] W):
  eK [str s,(.int .i64 0)] w λst _ W L=>aS .lss (st.getD 1 undef) (i64 (l.length:Nat)) λt=>bE t (B st W L) (K st W):=by
 refine eK.go (λst W=>∃i:Nat,st=[str (s++(l.take i).flatMap g),i64 (i:Nat)]/\i<=l.length/\Ext w0 W) (λst _=>match st with|[_,.int _ i]=>l.length-i.toNat|_=>0) ⟨0,by simp,cZ _,e⟩ ?_;rintro st g2 f ⟨i,rfl,n,b⟩;simp only[bQ,aG];rw[eC,aY];refine⟨λc=>?_,λh=>?_⟩
 .have c:i<l.length:=by omega
  obtain⟨x,a⟩:∃x,l[i]?=some x:=⟨_,aH c⟩;refine j i x f _ a b λw2 d=>⟨⟨i+1,?_,by omega,d⟩,by simp only[bD];omega⟩;rw[jA,a,tW];simp
 .obtain rfl:i=l.length:=by omega
  rw[dP];exact k f b
def Er(h:n<=9223372036854775807):((n:Nat):Int)<=IntKind.i64.max:=by show(n:Int)<=9223372036854775807;omega
structure NmC(mods:List Md):Prop where
 few:∀m∈mods,Nh m
 nm:∀m∈mods,NmS m
 rs:∀m∈mods,∀r∈m.res,RsB r
 dir:∀m∈mods,m.dir.length<=1000000
 n:mods.length<=16
 cm:∀m∈mods,∀c∈m.calls,c.mod<=1000000
def YX{m:Md}(h:Nh m):(mdT m).length<=20000000000:=by
 have:=h.v;have:=h.l;have:=h.o;have:=h.r;have:=h.c;unfold mdT;simp only[aB,cK,aA,aD];omega
def LV{mods:List Md}(h:∀m∈mods,Nh m):(mods.flatMap mdT).length<=mods.length*20000000000:=by
 induction mods with
 |nil=>exact cZ _
 |cons m l ih=>
  rw[dC,aB,aA,sT];have:=YX (h m (by simp));have:=ih λx a=>h x (aF _ a);omega
def TwB(a b9:Nat)(v:Value)(c:List Value)(w:World):Prop:=w.heap[a]?=some (.cells [v].toArray 60 (0,0))/\w.heap[b9]?=some (.cells c.toArray MdT (0,0))
def Ol(h:n<=1000000):(Lib.itoa (n:Nat)).length<=30:=by
 have:=Hj 7 n (by omega);unfold Lib.itoa;rw[aE (by omega),bD];omega
theorem MG{B:Nat}{Ls:List ML}{mods:List Md}(xd:CfR w B v Ls mods)(hC:NmC mods)(hK:∀v' W,Ext w W->Own W w.heap.size StT 1 v' (mods.flatMap mdT).length (strs (mods.flatMap mdT))->K v' W):aL P0 26 [.agg [v].toArray] w K:=by
 refine aET ?_;unfold W26;refine gF (z:=[v]) λb1 w1 um ug hr xs=>?_;rw[bH,bN];refine ldb hr (v:=v) rfl ?_;have xz:=xd.ext xs;have ut:=hC.n;rw[gQ xz.ow.sl];have hM:StT≠MdT:=by decide
 have zp:StT≠60:=by decide
 refine FY (w0:=w) (ns:=[]) (l:=mods) (f:=mdT) (P:=λW=>W.heap[b1]?=some (.cells [v].toArray 60 (0,0))) (by omega) xs (sA _ _ _ _) hr (λi md v2 w3 L2 hd xq ye zc yh=>?_) λv' W yx zk _=>hK v' W yx (by simpa using zk);have O:=xd.ext xq;have xx:=(bJ.1 hd).1;obtain⟨L,xh⟩:∃L,Ls[i]?=some L:=⟨_,aH (by rw[O.len];exact xx)⟩;have hc:=bA hd;have E:=O.md i L md xh hd;have u:=xd.md i L md xh hd;have Z:=hC.nm md hc;have yz:=hC.rs md hc;obtain⟨fv,fl,fo,fr,fc⟩:=hC.few md hc;have za:([]++(mods.take i).flatMap mdT:List Str).length<=320000000000:=by
  have h1:=LV (mods:=mods.take i) λm hm=>hC.few m (xP hm);have I:(mods.take i).length*20000000000<=16*20000000000:=dU _ (by rw[cG];omega);simp only[dS];omega
 generalize ([]++(mods.take i).flatMap mdT:List Str)=ns at ye yh za;simp only[aG,bQ];refine qV O.ow.sl (PH O.len) (by omega) xx ?_;rw[Gb xh hd];refine cO λb9 hk ul zv xe t=>?_;refine dH (l:=L.cells md.dir) xe rfl rfl (by simp only[ML.cells,Ek,List.all_nil,fO E.fo.oE.sl,fO E.fo.oB.sl,fO E.fo.oT.sl,fO E.oV.sl,fO E.oL.sl,fO E.oO.sl,fO E.oR.sl,fO E.oC.sl];rfl) λS xm A ya=>?_;have X:Ext w3 S:=t.new ya (by omega);rw[bH,bN];refine ldb A (v:=str md.dir) rfl ?_;rw[bY];refine⟨Er (by have:=hC.dir md hc;simp only[aA,aD];omega),?_⟩;have hP:StP (TwB b1 b9 v (L.cells md.dir)):=(Pd (b:=b1) (o:=[v]) zp).and (Pd (b:=b9) (o:=L.cells md.dir) hM);refine FZ (x:=FQ++md.dir) hP ⟨X.at zc id,A⟩ (xq.trans X) (eJ ye X λ_ _ e=>e) (by omega) λv4 ud xr yf hp=>?_;rw[bH,bN];refine ldb hp.2 (v:=L.vV) rfl ?_;refine GN (nm:=λx:Vr=>x.n) (cell:=λx:Vr=>[str x.n,i64 x.d,i64 x.a]) (λx=>⟨_,_,rfl⟩) rfl (pre:=QZ) hP hp xr u.oV.sl yf (by omega) (by simp only[aB,aA,aD];omega) Z.v (by decide) λv5 w5 yw zj xv=>?_;simp only[aG];rw[bH,bN];refine ldb xv.2 (v:=L.vL) rfl ?_;refine GN (nm:=λx:Atr=>x.n) (cell:=λx:Atr=>[str x.n,i64 (x.e:Nat),i64 x.a]) (λx=>⟨_,_,rfl⟩) rfl (pre:=JZ) hP xv yw u.oL.sl zj (by omega) (by simp only[aB,aA,aD,cK];omega) Z.l (by decide) λv6 w6 yv zi xu=>?_;simp only[aG];rw[bH,bN];refine ldb xu.2 (v:=L.vO) rfl ?_;refine GN (nm:=λx:Atr=>x.n) (cell:=λx:Atr=>[str x.n,i64 (x.e:Nat),i64 x.a]) (λx=>⟨_,_,rfl⟩) rfl (pre:=FP) hP xu yv u.oO.sl zi (by omega) (by simp only[aB,aA,aD,cK];omega) Z.o (by decide) λv7 w7 yu yc xt=>?_;simp only[aG];rw[bH,bN];refine ldb xt.2 (v:=L.vR) rfl ?_;rw[gQ u.oR.sl];have xa:(ns++[FQ++md.dir]++md.vars.map (λx=>QZ++x.n)++md.locs.map (λx=>JZ++x.n)++md.outs.map (λx=>FP++x.n)).length<=400000000000:=by simp only[aB,aA,aD,cK];omega
 generalize zm:ns++[FQ++md.dir]++md.vars.map (λx=>QZ++x.n)++md.locs.map (λx=>JZ++x.n)++md.outs.map (λx=>FP++x.n)=ns7 at yc xa;refine FY (w0:=w) (ns:=ns7) (l:=md.res) (f:=λr=>[rsT r]) (P:=TwB b1 b9 v (L.cells md.dir)) (by omega) yu yc xt (λj x v8 w8 L8 G U hi hn zn=>?_) λv8 w8 U hi hn=>?_
 .have xb:=(bJ.1 G).1;obtain⟨va,vd,er,o1,o2⟩:=u.rr.2 j x G;have T:=bA G;obtain⟨m1,m2⟩:=Z.r x T;obtain⟨q1,q2,q3,q4⟩:=yz x T;simp only[aG,bQ];refine qV (u.oR.sl.ext U) u.rr.1 (by omega) xb ?_;rw[er];refine cO λb w9 hb uf xf R=>?_;refine dH xf rfl rfl (by simp only[Ek,List.all_nil,fO o1.sl,fO o2.sl];rfl) λhu xn C yb=>?_;have N:Ext w8 hu:=R.new yb (by omega);have Y:=U.trans N;rw[bH,bN];refine ldb C (v:=str x.ty) rfl ?_;rw[bY];refine⟨Er (by simp only[aA,aD];omega),?_⟩;rw[bH,bN];refine ldb C (v:=str x.n) rfl ?_;rw[bY];refine⟨Er (by simp only[aB,aA,aD];omega),?_⟩;rw[bH,bN];refine ldb C (v:=va) rfl ?_;rw[gQ o1.sl];have zh:(x.ty++[32]++x.n).length<=2000001:=by simp only[aB,aA,aD];omega
  have hA:∀k,((x.attrs.take k).flatMap λa=>32::a.n).length<=100000100000000000:=λk=>by
   have h1:=Kx (g:=λa:Atr=>32::a.n) (c:=1000001) (l:=x.attrs.take k) λa ha=>by have:=q2 a (xP ha);simp only[aA];omega
   have I:(x.attrs.take k).length<=100000000000:=by rw[cG];omega
   generalize (x.attrs.take k).length=q at h1 I;omega
  have hD:∀k,((x.deps.take k).flatMap λd=>pOn++d).length<=400000400000000000:=λk=>by
   have h1:=Kx (g:=λd:Str=>pOn++d) (c:=4000004) (l:=x.deps.take k) λa ha=>by have:=q4 a (xP ha);rw[aB];have:pOn.length=4:=rfl;omega
   have I:(x.deps.take k).length<=100000000000:=by rw[cG];omega
   generalize (x.deps.take k).length=q at h1 I;omega
  refine Lc (w0:=hu) (s:=x.ty++[32]++x.n) (l:=x.attrs) (g:=λa=>32::a.n) (by omega) (Chg.refl _ _) (λk a hk uz xg t yj=>?_) λhk t=>?_
  .have xy:=(bJ.1 xg).1;simp only[aG,bQ];refine qV (o1.sl.ext (Y.trans t)) (zW _) (by omega) xy ?_;rw[show((lP x.attrs).drop (k*3)).take 3=[str a.n,i64 (a.e:Nat),i64 a.a]from Ef xg];refine cO λb' S un xm ho p=>?_;refine dH (l:=[str a.n,i64 (a.e:Nat),i64 a.a]) ho rfl rfl rfl λQ xl H he=>?_;have V:Ext hk Q:=p.new he (by omega);rw[bH,bN];refine ldb H (v:=str a.n) rfl ?_;have up:=q2 a (bA xg);have:=hA k;rw[bY];refine⟨Er (by simp only[aA,aD];omega),?_⟩;rw[bY];refine⟨Er (by simp only[aB,aA,aD]at zh⊢;omega),?_⟩;rw[cP,upi (by omega)];exact yj _ (t.trans V)
  have zq:=hA x.attrs.length;rw[dP]at zq;simp only[aG];rw[bH,bN];refine ldb (t.at C id) (v:=vd) rfl ?_;rw[gQ o2.sl];have zg:(x.ty++[32]++x.n++x.attrs.flatMap λa:Atr=>32::a.n).length<=200000000000000000:=by rw[aB];omega
  generalize hS1e:(x.ty++[32]++x.n++x.attrs.flatMap λa:Atr=>32::a.n)=S1 at zg;refine Lc (w0:=hk) (s:=S1) (l:=x.deps) (g:=λd=>pOn++d) (by omega) (Chg.refl _ _) (λk d S uy xc p yi=>?_) λS p=>?_
  .have xy:=(bJ.1 xc).1;simp only[aG,bQ];refine mC (o2.sl.ext (Y.trans (t.trans p))) (by unfold strs;rw[cK]) (x:=str d) (by unfold strs;rw[dV,xc];rfl) ?_;have uj:=q4 d (bA xc);have:=hD k;rw[bY];refine⟨Er (by simp only[aA,aD];omega),?_⟩;rw[bY];refine⟨Er (by simp only[aB,aA,aD];omega),?_⟩;rw[cP,upi (by omega)];exact yi _ p
  have zo:=hD x.deps.length;rw[dP]at zo;simp only[aG];have M:=t.trans p;have A:=M.at C id;have zf:(S1++x.deps.flatMap λd=>pOn++d).length<=700000000000000000:=by rw[aB];omega
  generalize hS2e:(S1++x.deps.flatMap λd=>pOn++d)=S2 at zf;refine dE.cut (λst W=>st=[str (S2++if x.swap=true then [32,115,119,97,112]else [])]/\W=S) ?_ ?_
  .rw[bH,bN];refine ldb A (v:=.bool x.swap) rfl ?_;cases x.swap with
   |true=>
    rw[dF,bY];exact⟨Er (by simp only[aA,aD];omega),rfl,rfl⟩
   |false=>
    rw[cI,aE (by decide),dL];exact⟨rfl,rfl⟩
  rintro st uw yq ⟨rfl,rfl⟩;simp only[aG];have ze:(S2++if x.swap=true then [32,115,119,97,112]else []).length<=800000000000000000:=by rw[aB];split<;>simp only[aA,aD]<;>omega
  generalize hS3e:(S2++if x.swap=true then [32,115,119,97,112]else [])=S3 at ze;refine dE.cut (λst W=>st=[str (S3++if x.prev=true then [32,112,114,101,118,101,110,116]else [])]/\W=yq) ?_ ?_
  .rw[bH,bN];refine ldb A (v:=.bool x.prev) rfl ?_;cases x.prev with
   |true=>
    rw[dF,bY];exact⟨Er (by simp only[aA,aD];omega),rfl,rfl⟩
   |false=>
    rw[cI,aE (by decide),dL];exact⟨rfl,rfl⟩
  rintro st uv ub ⟨rfl,rfl⟩;simp only[aG];have hv:=N.trans M;have eS:S3++(if x.prev=true then [32,112,114,101,118,101,110,116]else [])=rsT x:=by rw[<-hS3e,<-hS2e,<-hS1e];rfl
  rw[eS];refine FZ hP (hP.ext hv hn) (U.trans hv) (eJ hi hv λ_ _ e=>e) (by rw[zM rsT];simp only[aB,cK,cG];omega) λv9 ua xp yd xw=>?_;rw[cP,upi (by omega)];exact zn _ _ xp yd xw
 simp only[aG];rw[zM rsT]at hi;rw[bH,bN];refine ldb hn.2 (v:=L.vC) rfl ?_;rw[gQ u.oC.sl];have hz:(ns7++md.res.map rsT).length<=500000000000:=by simp only[aB,cK];omega
 generalize zl:ns7++md.res.map rsT=ns8 at hi hz;refine FY (w0:=w) (ns:=ns8) (l:=md.calls) (f:=λc=>[clT c]) (P:=TwB b1 b9 v (L.cells md.dir)) (by omega) U hi hn (λj x v9 w9 L9 G R hg hy yg=>?_) λv9 w9 R hg hy=>?_
 .have xb:=(bJ.1 G).1;obtain⟨va,er,o1⟩:=u.cc.2 j x G;have T:=bA G;have uk:=Z.c x T;have zb:=hC.cm md hc x T;have ui:(Lib.itoa (x.mod:Nat)).length<=30:=Ol zb;have hq:(ns8++(md.calls.take j).flatMap λc=>[clT c]).length<=1000000000000:=by rw[zM clT];simp only[aB,cK,cG];omega
  generalize (ns8++(md.calls.take j).flatMap λc=>[clT c])=ns9 at hg yg hq;simp only[aG,bQ];obtain⟨JJ,yk⟩:∃JJ:List Value->World->Prop,JJ=(λst W=>∃v',st=[v']/\Ext w W/\Own W w.heap.size StT 1 v' (ns9++[clT x]).length (strs (ns9++[clT x]))/\TwB b1 b9 v (L.cells md.dir) W):=⟨_,rfl⟩;refine dE.cut JJ ?_ ?_
  .refine qV (u.oC.sl.ext R) u.cc.1 (by omega) xb ?_;rw[er];refine cO λb hu hb xn xf N=>?_;refine dH xf rfl rfl (by simp only[Ek,List.all_nil,fO o1.sl];rfl) λQ xl H he=>?_;have V:Ext w9 Q:=N.new he (by omega);have hf:=(cQ Q).at H id;have xo:=V.trans (cQ Q);generalize Q.drew=wd at hf xo;rw[bH,bN];refine ldb hf (v:=str x.n) rfl ?_;rw[bY];refine⟨Er (by simp only[aA,aD];omega),?_⟩;rw[bY];refine⟨Er (by simp only[aB,aA,aD];omega),?_⟩;rw[bH,bN];refine ldb hf (v:=i64 (x.mod:Nat)) rfl ?_;have hl:∀{W:World},Ext wd W->ldW false 1 (.pointer (some ⟨b,0+0,none⟩)) W λy=>y=str x.n:=λh=>ldb (h.at hf id) (v:=str x.n) rfl rfl;have ys:ldW false 1 (.pointer (some ⟨b,0+1,none⟩)) wd λy=>y=i64 (x.mod:Nat):=ldb hf (v:=i64 (x.mod:Nat)) rfl rfl;have fin:∀{W:World} {J:List Value->World->Prop},Ext wd W->(∀v' F,Ext w F->Own F w.heap.size StT 1 v' (ns9++[clT x]).length (strs (ns9++[clT x]))->TwB b1 b9 v (L.cells md.dir) F->J [v'] F)->
     aS .add (str ([99,97,108,108,32]++x.n++[32])) (str (Lib.itoa (x.mod:Nat))) λt142=>gP StT 1 [str []] [(0,1,t142)] W λt143 yp=>fV P0 (Builtin.append_ #[33,33] 33 #[v9,t143]) yp λt144 yo=>J [t144] yo:=λ{W} {J} hw hJ=>by
    rw[bY];refine⟨Er (by simp only[aB,aA,aD];omega),?_⟩;have hx:=xo.trans hw;exact FZ hP (hP.ext hx hy) (R.trans hx) (eJ hg hx λ_ _ e=>e) hq λv' F h1 I h3=>hJ v' F h1 I h3
   have ht:=λ{W:World} (hw:Ext wd W)=>fin (J:=JJ) hw λv' F h1 I h3=>by rw[yk];exact⟨v',rfl,h1,I,h3⟩
   refine⟨⟨ys,hl (Chg.refl _ _),?_⟩,?_⟩
   .refine Fj (by omega) (by omega) λyr D=>?_;exact⟨hl D,ht D⟩
   .refine Fj (by omega) (by omega) λyr D=>?_;refine⟨hl D,?_⟩;have I:=ht D;rw[bY]at I⊢;exact⟨I.1,⟨hl D,I.2⟩,I.2⟩
  rintro st uu zz hh;rw[yk]at hh;obtain⟨v',rfl,h1,I,h3⟩:=hh;simp only[aG];rw[cP,upi (by omega)];exact yg _ _ h1 I h3
 simp only[aG];rw[zM clT]at hg;rw[cP,upi (by omega)];refine yh _ _ R ?_ hy.1;have e:ns++mdT md=ns8++md.calls.map clT:=by rw[<-zl,<-zm];unfold mdT;simp only[cD]
 rw[e];exact hg
end
end
end Go.Proofs.YtjblfcfdeaagpaaGreatDoor
