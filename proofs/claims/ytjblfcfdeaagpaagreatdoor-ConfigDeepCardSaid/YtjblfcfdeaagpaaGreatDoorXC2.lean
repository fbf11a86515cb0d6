/- One plain sentence: contracts and plain laws that the claim rests on. Conditions: those that each states. -/
import Derived.Test.YtjblfcfdeaagpaaGreatDoorXC1
import Derived.Recover
import Derived.Shelf.Strings.BuilderK
import Derived.Shelf.Strings.Cut
import Derived.Shelf.Strings.Prefix
import Derived.Shelf.Strings.Search3
import Derived.Shelf.Strings.IndexAnyAll
import Derived.Shelf.Small.Strs
import Derived.Shelf.Strings.OnBuilder
import Derived.Shelf.Strings.Repeat
import Derived.Shelf.Strings.SlTrimAscii
import Derived.Shelf.Strings.IndexAny
import Derived.Shelf.Small.Utf8
import Derived.Shelf.Strings.BuilderX
import Derived.Shelf.Lays
import Derived.Ground.SlgmProg
import Derived.Test.YtjblfcfdeaagpaaGreatDoorProg
import Derived.Lib.ConvBytes
import Derived.Lib.ParseIntBCases
import Derived.Lib.Builder
import Derived.ProofKit
import Derived.WalkKit
import Derived.Lib.AppendStr
import Derived.Lib.RuneBytes
set_option linter.all false
set_option linter.unusedSimpArgs false
set_option linter.unusedVariables false
set_option linter.unusedSectionVars false
set_option maxRecDepth 100000
namespace Go.Eng
section
open Go
variable{w:World}{K:Value->World->Prop}{cs:List Value}{G:Nat->Prop}{T:TypeId}{i:Nat}{n:Nat}{v:Value}{w':World}{P:Program}{c:UInt8}{S:Nat->Prop}
section
variable{P:Program}
def vY(P:Program)(g:FuncId)(caps:List Value)(u:FrameMode)(w:World)(K:World->Prop):Prop:=
 CallsD P g caps.toArray u w λe u' w'=>(∃v,e=.returned v)/\settle u'=.returning/\K w'
def Hi:List Oper->Option (Nat×FuncId×List Operand)
 |[o1,o2]=>
  match o1.guard,o2.guard,o1.dst,o1.op,o2.dst,o2.op with
  |none,none,some t,.makeFunc (.func g) first caps,none,.defer c=>
   match first.toList,c.callee,c.args.toList with
   |[],.value (.tmp t'),[]=>bif Nat.beq t t' then some (t,g,caps.toList)else none
   |_,_,_=>none
  |_,_,_,_,_,_=>none
 |_=>none
def Kf(P:Program)(fn:Func)(R:Ending->World->Prop)(f:Fr)(w:World):Prop:=Bv P fn.results.toList f w λl=>R (.returned (one l)) w
def Hp(P:Program)(pl:eH)(fn:Func)(R:Ending->World->Prop):Nat->Code->Nat->Fr->World->Prop
 |0,.seq (.region _ ops _) b,i,f,w=>
  match Hi ops.toList with
  |some (t,g,caps)=>
   @pO ⟨λch w'=>vY P g (caps.map (ev f)) (.panicking ch) w' λw''=>Kf P fn R f w''⟩ P pl b (i+2) (upd f (some t) (.func (.func g) #[] (caps.map (ev f)).toArray)) w
    (λf' w'=>vY P g (caps.map (ev f)) .returning w' λw''=>Kf P fn R f' w'') (λ_ _ _=>False) (λf' w'=>vY P g (caps.map (ev f)) .returning w' λw''=>Kf P fn R f' w'')
  |none=>False
 |k+1,.seq a b,i,f,w=>@pO ⟨λch w'=>R (.panicked ch) w'⟩ P pl a (i+1) f w (λf' w'=>Hp P pl fn R k b (i+1+tA a) f' w') (λ_ _ _=>False) (λf' w'=>Kf P fn R f' w')
 |_,_,_,_,_=>False
def Xu(lo t:Nat):ResultVar->Bool
 |.tmp x=>Nat.blt x lo&&!(Nat.beq x t)
 |.cell x _=>Nat.blt x lo&&!(Nat.beq x t)
def Hr(P:Program)(fn:Func)(pl:eH)(lo gd:Nat):Nat->Code->Nat->Bool
 |0,.seq (.region _ ops draw) b,i=> !draw&&(lk pl.js i).isNone&&
  (match Hi ops.toList with
  |some (t,g,_)=>Nat.blt t fn.ntmps&&Nat.beq g gd&&fn.results.toList.all (Xu lo t)&&chk P fn.ntmps pl [] lo b (i+2)
  |none=>false)
 |k+1,.seq a b,i=>(lk pl.js i).isNone&&chk P fn.ntmps pl [] 0 a (i+1)&&Hr P fn pl lo gd k b (i+1+tA a)
 |_,_,_=>false
theorem MB{agg:Bool}{x:Value}{K K':Value->Prop}(I:∀v,K v->K' v)(h:ldW agg n x w K):ldW agg n x w K':=by
 cases x with
 |pointer a=>
  cases a with
  |none=>exact h
  |some a=>
   cases agg with
   |true=>obtain⟨l,o,j⟩:=h;exact⟨l,o,I _ j⟩
   |false=>obtain⟨l,o,j⟩:=h;exact⟨l,o,I _ j⟩
 |_=>exact h
theorem AG{f f':Fr}{w:World}:∀{l:List ResultVar} {K:List Value->Prop},(∀t,(∃r∈l,r=.tmp t\/∃T,r=.cell t T)->f t=f' t)->Bv P l f w K->Bv P l f' w K
 |[],_,_,h=>h
 |r::l,K,h,j=>by
  have hl:∀t,(∃r∈l,r=.tmp t\/∃T,r=.cell t T)->f t=f' t:=λt ⟨r',I,e⟩=>h t ⟨r',aE _ I,e⟩
  cases r with
  |tmp t=>simp only[Bv]at j⊢;rw[<-h t ⟨_,aW,.inl rfl⟩];exact AG hl j
  |cell t T=>
   simp only[Bv]at j⊢
   rw[<-h t ⟨_,aW,.inr ⟨T,rfl⟩⟩]
   obtain⟨U,J⟩:=mK.out j
   rw[U]
   exact MB (λv o=>AG hl o) J
theorem xA{fn:Func}{R:Ending->World->Prop}{g:FuncId}{caps:List Value}{u:FrameMode}{f:Fr}{a:Act}(hr:∀(ar:Array Value) (w:World),(callFunc g ar).run P w=.ok (.enter g ar) w)(J:u≠.run)
  (ha:∀t,(∃r∈fn.results.toList,r=.tmp t\/∃T,r=.cell t T)->f t=a.tmps.getD t undef)(h:vY P g caps u w λw''=>Kf P fn R f w''):
  Leaves P fn a.tmps R [{target:=.fn (.func g) caps.toArray,args:=#[]}] u w:=by
 refine leaves_cons (f:=g) (args:=caps.toArray) J ?_ (h.mono ?_)
 ·have:=hr (#[]++caps.toArray) w;rw[show(#[]++caps.toArray:Array Value)=caps.toArray from by simp]at this;show(callFunc g (#[]++caps.toArray)).run P w=_;rw[show(#[]++caps.toArray:Array Value)=caps.toArray from by simp];exact this
 ·rintro e u' w' ⟨⟨v,rfl⟩,U,hk⟩;show Leaves P fn a.tmps R [] (settle u') w';rw[U];have I:Ag a.tmps.size a.defers (λt=>a.tmps.getD t undef) a:=⟨rfl,rfl,λ_=>rfl⟩;letI:=noX;obtain⟨v',o,j⟩:=sY (fn:=fn) (K:=λv=>R (.returned v) w') I (AG ha hk);exact⟨v',j,o⟩
theorem II{l:List Oper}{t:Nat}{g:FuncId}{caps:List Operand}(h:Hi l=some (t,g,caps)):∃o1 o2 first cp c,l=[o1,o2]/\o1.guard=none/\o2.guard=none/\o1.dst=some t/\o1.op=.makeFunc (.func g) first cp/\first=#[]/\cp.toList=caps/\o2.dst=none/\o2.op=.defer c/\c.callee=.value (.tmp t)/\c.args=#[]:=by
 unfold Hi at h;split at h
 ·rename_i o1 o2;split at h
  ·rename_i t' g' first cp c e1 e2 e3 e4 e5 e6
   split at h
   ·rename_i t'' I o j;cases hb:Nat.beq t' t'' with
    |false=>rw[hb]at h;cases h
    |true=>
     rw[hb]at h;simp only[aQ,aV,gK]at h;obtain⟨rfl,rfl,rfl⟩:=h;have:t'=t'':=kE hb;subst this;exact⟨o1,o2,first,cp,c,rfl,e1,e2,e3,e4,by simpa using I,rfl,e5,e6,o,by simpa using j⟩
   ·cases h
  ·cases h
 ·cases h
theorem Ho(hm:P.follows .mixedOrders=true){pl:eH}{fn:Func}{R:Ending->World->Prop}{lo gd:Nat}(hr:∀(ar:Array Value) (w:World),(callFunc gd ar).run P w=.ok (.enter gd ar) w):
  ∀(k:Nat) (c:Code) (i:Nat) (f:Fr) (a:Act) (w:World),Hr P fn pl lo gd k c i=true->Ag fn.ntmps [] f a->Hp P pl fn R k c i f w->c.wp P (bodyPostD P fn R) a w:=by
 intro k;induction k with
 |zero=>
  intro c i f a w I J h;cases c with
  |seq x b=>
   cases x with
   |region id ops draw=>
    simp only[Hp]at h;simp only[Hr,bL,lR]at I;obtain⟨⟨xj,hl⟩,I⟩:=I;cases hd:Hi ops.toList with
    |none=>simp only[hd]at h
    |some x=>
     obtain⟨t,g,caps⟩:=x;simp only[hd,bL]at h I;obtain⟨⟨⟨ht,hg⟩,hq⟩,xa⟩:=I;obtain rfl:g=gd:=kE hg;obtain⟨o1,o2,first,cp,cl,hs,g1,g2,d1,p1,rfl,rfl,d2,p2,xk,xl⟩:=II hd;subst xj;refine wp_seq (wp_region_list ?_);have hj:ops=[o1,o2].toArray:=by rw[<-hs]
     subst hj;have xd:t<fn.ntmps:=by simpa using ht
     have hv:(cp.toList.map (ev f)).toArray=cp.map a.eval:=by
      rw[wZ J];apply Array.ext';simp
     show wpList P [o1,o2].toArray _ [o1,o2] a w;letI:=noX;refine Fe (K:=λv w'=>v=.func (.func g) #[] (cp.toList.map (ev f)).toArray/\w'=w) J (by simp[lY,g1]) ?_ ?_ (λ_ _ h=>h.elim)
     ·unfold FL;rw[p1];exact⟨rfl,rfl⟩
     ·rintro v w' ⟨rfl,rfl⟩;have o:=J.put (d:=some t) (λx hx=>by cases hx;exact xd) (.func (.func g) #[] (cp.toList.map (ev f)).toArray);rw[d1];unfold wpList;rw[aO (by rw[zI o];simp[lY,g2])];refine .inl ?_;unfold Oper.wp;have hz:(execOp (a.put (some t) (.func (.func g) #[] (cp.toList.map (ev f)).toArray)).eval o2).run P w'=.ok (.defer {target:=.fn (.func g) (cp.toList.map (ev f)).toArray,args:=#[]}) w':=by
       rw[wZ o];unfold execOp;rw[p2];have e:ev (upd f (some t) (.func (.func g) #[] (cp.toList.map (ev f)).toArray)) (.tmp t)=.func (.func g) #[] (cp.toList.map (ev f)).toArray:=by
        simp[ev,oQ]
       simp[resolve,xk,xl,Deferred.ofValue,run_bind,run_pure,e]
      rw[hz,Oper.upon_defer,d2];clear hz;have hh:Ag fn.ntmps [{target:=.fn (.func g) (cp.toList.map (ev f)).toArray,args:=#[]}] (upd f (some t) (.func (.func g) #[] (cp.toList.map (ev f)).toArray)) ({(a.put (some t) (.func (.func g) #[] (cp.toList.map (ev f)).toArray))with defers:={target:=.fn (.func g) (cp.toList.map (ev f)).toArray,args:=#[]}::(a.put (some t) (.func (.func g) #[] (cp.toList.map (ev f)).toArray)).defers}.put none undef):=by
       refine⟨?_,o.2.1,o.2.2⟩;show _::(a.put _ _).defers=_;rw[o.1]
      generalize ({(a.put (some t) (.func (.func g) #[] (cp.toList.map (ev f)).toArray))with defers:={target:=.fn (.func g) (cp.toList.map (ev f)).toArray,args:=#[]}::(a.put (some t) (.func (.func g) #[] (cp.toList.map (ev f)).toArray)).defers}.put none undef)=a2 at hh⊢;show b.wp P (bodyPostD P fn R) a2 w';refine@tG ⟨λch w'=>vY P g (cp.toList.map (ev f)) (.panicking ch) w' λw''=>Kf P fn R f w''⟩ P fn.ntmps [{target:=.fn (.func g) (cp.toList.map (ev f)).toArray,args:=#[]}] pl hm b [] lo (i+2) _ a2 w' _ _ _ _ xa hh h (λf' a' w' j _ U=>?_) (λ_ _ _ _ _ _ U=>U.elim) (λf' a' w' j _ U=>?_) (λch a' w' hd ht hx=>?_)
      ·show Leaves P fn a'.tmps R a'.defers .returning w';rw[j.1];exact xA hr (by simp) (λt _=>(j.2.2 t).symm) U
      ·show Leaves P fn a'.tmps R a'.defers .returning w';rw[j.1];exact xA hr (by simp) (λt _=>(j.2.2 t).symm) U
      ·show Leaves P fn a'.tmps R a'.defers (.panicking ch) w';rw[hd];refine xA (f:=f) hr (by simp) (λx xc=>?_) hx;have hy:x<lo/\x≠t:=by
        obtain⟨r,xf,hi⟩:=xc;have:=gI.1 hq r xf;have h2:(Nat.blt x lo&&!(Nat.beq x t))=true:=by
         rcases hi with rfl|⟨T,rfl⟩
         ·exact this
         ·exact this
        simp only[bL,lR]at h2;refine⟨by simpa using h2.1,λe=>?_⟩;rw[e]at h2;have h3:=h2.2;rw[Nat.beq_refl]at h3;cases h3
       have xh:Nat.ble lo x=false:=by
        cases hb:Nat.ble lo x with
        |false=>rfl
        |true=>exact absurd (cV hy.1 (lA hb)) (Nat.lt_irrefl _)
       rw[ht x (by unfold inS;rw[xh];rfl)];simp[oQ,hy.2]
   |_=>simp[Hr]at I
  |_=>simp[Hr]at I
 |succ k ih=>
  intro c i f a w I J h;cases c with
  |seq x y=>
   simp only[Hp]at h;simp only[Hr,bL]at I;obtain⟨⟨hl,xn⟩,xm⟩:=I;refine wp_seq ?_;letI:HX:=⟨λch w'=>R (.panicked ch) w'⟩;refine tG hm x [] 0 (i+1) f a w _ _ _ _ xn J h (λf' a' w' j _ h'=>ih y _ f' a' w' xm j h') (λ_ _ _ _ _ _ U=>U.elim) (λf' a' w' j _ U=>?_) (λch a' w' hd _ hx=>?_)
   ·show Leaves P fn a'.tmps R a'.defers .returning w';rw[j.1];obtain⟨v',xi,hi⟩:=sY (fn:=fn) (K:=λv=>R (.returned v) w') j U;exact⟨v',hi,xi⟩
   ·show Leaves P fn a'.tmps R a'.defers (.panicking ch) w';rw[hd];exact hx
  |_=>simp[Hr]at I
def MW(P:Program)(fn:Func)(pl:eH)(k:Nat)(args:List Value)(w:World)(R:Ending->World->Prop):Prop:=
 match fn.body with
 |some c=>Hp P pl fn R k c 0 (fr0 args) w
 |none=>False
def Ak(P:Program)(fn:Func)(pl:eH)(lo gd k na:Nat):Bool:=
 match fn.body with
 |some c=>Nat.ble na fn.ntmps&&Hr P fn pl lo gd k c 0
 |none=>false
theorem He{nt:Nat}{args:List Value}(o:args.length<=nt):Ag nt [] (fr0 args) {tmps:=args.toArray++Array.replicate (nt-args.toArray.size) undef,defers:=[]}:=by
 refine⟨rfl,by simp;omega,λt=>?_⟩;simp only[kG,Array.getElem?_append,aC,List.getElem?_toArray,Array.getElem?_replicate,fr0,List.getD_eq_getElem?_getD];split
 ·rfl
 ·rename_i j;rw[List.getElem?_eq_none (by omega)];split<;>rfl
theorem IF{g:FuncId}{fn:Func}{pl:eH}{args:List Value}{R:Ending->World->Prop}{lo gd k:Nat}(I:P.follows .mixedOrders=true)(hf:P.funcs[g]?=some fn)(o:∀(ar:Array Value) (w:World),(callFunc gd ar).run P w=.ok (.enter gd ar) w)
  (j:Ak P fn pl lo gd k args.length=true)(h:MW P fn pl k args w R):Calls P g args.toArray w R:=by
 unfold MW at h;unfold Ak at j;cases hb:fn.body with
 |none=>rw[hb]at h;exact h.elim
 |some c=>
  rw[hb]at h j;simp only[bL]at j;exact calls_of_wp_defers hf hb (Ho I o k c 0 _ _ w j.2 (He (lA j.1)) h)
theorem Xo[HX](P:Program)(g:FuncId)(fn:Func)(pl:eH)(args:List Value)(w:World)(K:Value->World->Prop)(lo gd k na:Nat)(X:Prop)(J:args.length=na)(I:P.follows .mixedOrders=true)(hf:P.funcs[g]?=some fn)
  (hc:Ak P fn pl lo gd k na=true)(U:MW P fn pl k args w (Dx K)=X)(o:∀(az:Array Value) (w:World),(callFunc g az).run P w=.ok (.enter g az) w)(j:∀(ar:Array Value) (w:World),(callFunc gd ar).run P w=.ok (.enter gd ar) w)(h:X):aI P g args w K:=by
 unfold aI;rw[o];exact IF I hf j (by rw[J];exact hc) (by rw[U];exact h)
end
section
variable{P:Program}
def Gr:List Oper->Option (Nat×Nat)
 |[o1,o2]=>
  match o1.guard,o2.guard,o1.dst,o1.op,o2.dst,o2.op with
  |none,none,some t,.call c,some t2,.assign (.tmp t')=>
   match c.callee,c.args.toList with
   |.builtin .recover,[]=>bif Nat.beq t t' then some (t,t2)else none
   |_,_=>none
  |_,_,_,_,_,_=>none
 |_=>none
theorem Ig{l:List Oper}{t t2:Nat}(h:Gr l=some (t,t2)):∃o1 o2 c,l=[o1,o2]/\o1.guard=none/\o2.guard=none/\o1.dst=some t/\o1.op=.call c/\o2.dst=some t2/\o2.op=.assign (.tmp t)/\c.callee=.builtin .recover/\c.args=#[]:=by
 unfold Gr at h;split at h
 ·rename_i o1 o2;split at h
  ·rename_i t0 c t2' t' e1 e2 e3 e4 e5 e6;split at h
   ·rename_i o j;cases hb:Nat.beq t0 t' with
    |false=>rw[hb]at h;cases h
    |true=>
     rw[hb]at h;simp only[aQ,aV,gK]at h;obtain⟨rfl,rfl⟩:=h;have:t0=t':=kE hb;subst this;exact⟨o1,o2,c,rfl,e1,e2,e3,e4,e5,e6,o,by simpa using j⟩
   ·cases h
  ·cases h
 ·cases h
def QG(P:Program)(fn:Func)(pl:eH)(args:List Value)(x:Value)(w:World)(K:World->Prop):Prop:=
 match fn.body with
 |some (.seq (.region _ ops _) b)=>
  match Gr ops.toList with
  |some (t,t2)=>@pO noX P pl b 2 (upd (upd (fr0 args) (some t) x) (some t2) x) w (λ_ w'=>K w') (λ_ _ _=>False) (λ_ w'=>K w')
  |none=>False
 |_=>False
def BK(P:Program)(fn:Func)(pl:eH)(na:Nat):Bool:=
 match fn.body with
 |some (.seq (.region _ ops draw) b)=> !draw&&Nat.ble na fn.ntmps&&fn.results.toList.isEmpty&&
  (match Gr ops.toList with
  |some (t,t2)=>Nat.blt t fn.ntmps&&Nat.blt t2 fn.ntmps&&chk P fn.ntmps pl [] 0 b 2
  |none=>false)
 |_=>false
inductive Finds:FrameMode->Value->Prop
 |idle:Finds .returning .nilIface
 |thrown (v:Value):Finds (.panicking [{v,recovered:=false}]) v
theorem CG{g:FuncId}{fn:Func}{pl:eH}{args:List Value}{x:Value}{u:FrameMode}{K:World->Prop}(hm:P.follows .mixedOrders=true)(hf:P.funcs[g]?=some fn)(hc:BK P fn pl args.length=true)
  (hu:Finds u x)(h:QG P fn pl args x w K):vY P g args u w K:=by
 unfold QG at h;unfold BK at hc;split at h
 ·rename_i id ops draw b hb;rw[hb]at hc;simp only[bL,lR]at hc;obtain⟨⟨⟨hd,xf⟩,hi⟩,hc⟩:=hc;subst hd;cases ho:Gr ops.toList with
  |none=>simp only[ho]at h
  |some y=>
   obtain⟨t,t2⟩:=y;simp only[ho,bL]at h hc;obtain⟨⟨ht,J⟩,xa⟩:=hc;obtain⟨o1,o2,c,hq,g1,g2,d1,p1,d2,p2,xg,xh⟩:=Ig ho;have U:ops=#[o1,o2]:=by
    apply Array.ext';rw[hq]
   subst U;letI:=noX;have hj:∀tmps w,(results fn tmps).run P w=.ok (.tuple #[]) w:=by
    intro tmps w;have h1:fn.results.toList=[]:=by simpa using hi
    obtain⟨v,hv,hr⟩:=sY (P:=P) (fn:=fn) (n:=tmps.size) (D:=[]) (f:=λt=>tmps.getD t undef) (a:={tmps:=tmps,defers:=[]}) (w:=w) (K:=λv=>v=.tuple #[]) ⟨rfl,rfl,λ_=>rfl⟩ (by rw[h1];rfl);rw[hr,hv]
   have hh:=He (nt:=fn.ntmps) (args:=args) (lA xf);have ht:t<fn.ntmps:=by simpa using ht
   have J:t2<fn.ntmps:=by simpa using J
   refine callsD_of_wpS hf hb λc₀ cs hmode=>?_;generalize ({tmps:=args.toArray++Array.replicate (fn.ntmps-args.toArray.size) undef,defers:=[]}:Act)=a0 at hh⊢;have j:=hh.put (d:=some t) (λy hy=>by cases hy;exact ht) x;have xb:=j.put (d:=some t2) (λy hy=>by cases hy;exact J) x;have w1:Region.wanted o1 (yielded #[o1,o2] a0.tmps)=true:=by
    have:=zI (ops:=[o1,o2]) (o:=o1) hh;rw[show([o1,o2]:List Oper).toArray=#[o1,o2]from rfl]at this;rw[this];simp[lY,g1]
   have w2:Region.wanted o2 (yielded #[o1,o2] (a0.put (some t) x).tmps)=true:=by
    have:=zI (ops:=[o1,o2]) (o:=o2) j;rw[show([o1,o2]:List Oper).toArray=#[o1,o2]from rfl]at this;rw[this];simp[lY,g2]
   have e1:(execOp a0.eval o1).run P w=.ok .recover w:=by
    unfold execOp;rw[p1];simp[resolve,xg,xh,invoke,builtin,run_bind,run_pure]
   have e2:(execOp (a0.put (some t) x).eval o2).run P w=.ok (.value x) w:=by
    rw[wZ j];unfold execOp;rw[p2];have e:ev (upd (fr0 args) (some t) x) (.tmp t)=x:=by simp[ev,oQ]
    simp[run_pure,e]
   have rest:∀u':FrameMode,settle u'=.returning->b.wpS P (bodyPostS P fn c₀ cs λe u' w'=>(∃v,e=.returned v)/\settle u'=.returning/\K w') ((a0.put (some t) x).put (some t2) x) ({c₀ with mode:=u'}::cs) w:=by
    intro u' hs;refine wpS_of_wp ?_;refine@tG noX P fn.ntmps [] pl hm b [] 0 2 _ _ w _ _ _ _ xa xb h (λf' a' w' I _ hk=>?_) (λ_ _ _ _ _ _ hk=>hk.elim) (λf' a' w' I _ hk=>?_) (λch a' w' hd ht hx=>hx.elim)
    ·exact⟨I.1,u',rfl,_,hj _ _,⟨_,rfl⟩,hs,hk⟩
    ·exact⟨I.1,u',rfl,_,hj _ _,⟨_,rfl⟩,hs,hk⟩
   refine wpS_seq (wpS_region ?_);show wpOpsS P #[o1,o2] _ [0,1] a0 (c₀::cs) w;have tail:∀c1:Frame,b.wpS P (bodyPostS P fn c₀ cs λe u' w'=>(∃v,e=.returned v)/\settle u'=.returning/\K w') ((a0.put (some t) x).put (some t2) x) (c1::cs) w->
     wpOpsS P #[o1,o2] (Exit.thenS (b.wpS P (bodyPostS P fn c₀ cs λe u' w'=>(∃v,e=.returned v)/\settle u'=.returning/\K w')) (bodyPostS P fn c₀ cs λe u' w'=>(∃v,e=.returned v)/\settle u'=.returning/\K w')) [1] (a0.put (some t) x) (c1::cs) w:=by
    intro c1 xi;unfold wpOpsS;rw[show(#[o1,o2]:Array Oper)[1]?=some o2 from rfl];show ite (Region.wanted o2 (yielded #[o1,o2] (a0.put (some t) x).tmps)=true) _ _;rw[aO w2,e2];simp only[Oper.upon_value,d2];exact xi
   unfold wpOpsS;rw[show(#[o1,o2]:Array Oper)[0]?=some o1 from rfl];show ite (Region.wanted o1 (yielded #[o1,o2] a0.tmps)=true) _ _;rw[aO w1,e1];cases hu with
   |idle=>
    have:recoverD (c₀::cs)=none:=by simp[recoverD,hmode]
    simp only[this,d1];have e:({c₀ with mode:=.returning}:Frame)=c₀:=by rw[<-hmode]
    have:=rest .returning rfl;rw[e]at this;exact tail c₀ this
   |thrown=>
    have:recoverD (c₀::cs)=some (x,{c₀ with mode:=.panicking [{v:=x,recovered:=true}]}::cs):=by simp[recoverD,hmode]
    simp only[this,d1];exact tail _ (rest (.panicking [{v:=x,recovered:=true}]) rfl)
 ·exact h.elim
end
end
end Go.Eng
namespace Go.Proofs.YtjblfcfdeaagpaaGreatDoor
section
open Go Go.Eng
variable{w:World}{K:Value->World->Prop}{cs:List Value}{G:Nat->Prop}{T:TypeId}{i:Nat}{n:Nat}{v:Value}{w':World}{P:Program}{c:UInt8}{S:Nat->Prop}{v0 v1 v2 v3 v4 v5:Value}
abbrev _root_.Q0:=Value->World->Prop
noncomputable abbrev _root_.P0:=Tryz.prog
abbrev _root_.sN:Value:=.slice none 0 0
abbrev _root_.zL0:List Value:=[(i64 0),(str []),(i64 0)]
abbrev _root_.zL1:List Value:=[(i64 0),(str []),sN,sN,(i64 0)]
abbrev _root_.zL2:List Value:=[sN,(i64 0),(i64 0),(.bool false)]
abbrev _root_.zL3:List Value:=[(str []),(i64 0),(i64 0)]
variable [HX]
def Va:eH:={js:=[(60,⟨[9],[9],12⟩),(62004,⟨[73],[],71⟩),(54,⟨[9,11],[9],11⟩),(44005,⟨[51],[],48⟩),(36,⟨[6,7],[],1⟩),(25006,⟨[30],[],26⟩),(14,⟨[],[2,3,4,5],19⟩)],ds:=[]}
def W28(v0:Value)(w:World)(K:Q0):=jM v0 λt13=>aU .gtr t13 (i64 16384) λt14=>bB t14 (iX [(i64 0),(str []),(i64 0)] [(0,1,(i64 3))] λc1=>jI 48 (.agg c1.toArray) w λt16 w2=>K (.tuple #[sN,t16]) w2) (fH P0 (Instr.range 9 v0) w λt18 w3=>eJ [] w3 λs4 _ w5 L4=>fH P0 (Instr.next t18 true 0) w5 λt19 w6=>jC 0 t19 λt20=>bB t20 (jC 1 t19 λt21=>jC 2 t19 λt22=>aU .eql t22 (.int .i32 65533) λt24=>GdW (isB t24 true) [undef] w6 (λJ7=>oK v0 (some t21) none λt28=>aI P0 59 [t28,(str [239,191,189])] w6 λt29 w8=>unW .not t29 λt30=>J7 [t30] w8) λs7 _ w9=>eO t24 (s7.getD 0 undef) (.bool false) λt31=>bB t31 (iX [(i64 0),(str []),(i64 0)] [(0,1,(i64 31)),(2,1,t21)] λc10=>jI 48 (.agg c10.toArray) w9 λt34 w11=>K (.tuple #[sN,t34]) w11) (L4 [] w9)) (eJ [sN,(i64 0)] w6 λs12 _ w13 L12=>oK v0 (some (s12.getD 1 undef)) none λt38=>aI P0 60 [t38] w13 λt39 w14=>jC 0 t39 λt40=>jC 1 t39 λt41=>aU .add (s12.getD 1 undef) t40 λt44=>aU .eql t41 (i64 0) λt46=>GdW (isB t46 true) [undef] w14 (λJ15=>jM v0 λt50=>aU .eql t44 t50 λt51=>J15 [t51] w14) λs15 _ w16=>eO t46 (s15.getD 0 undef) (.bool false) λt52=>bB t52 (iX [(i64 0),(str []),(i64 0)] [(2,1,t44)] λc17=>fV 95 1 [(i64 0),(str []),(i64 0)] [(0,3,(.agg c17.toArray))] w16 λt56 w18=>fH P0 (Builtin.append_ #[86,86] 86 #[(s12.getD 0 undef),t56]) w18 λt57 w19=>K (.tuple #[t57,(.pointer none)]) w19) (dY 95 zL0 w16 λt10 w20=>cX (λJ21=>aU .eql t41 (i64 0) λt59=>bB t59 (oK v0 (some t44) none λt63=>aI P0 61 [t63] w20 λt64 w22=>jC 0 t64 λt65=>jC 1 t64 λt66=>jC 2 t64 λt67=>stW 3 t10 t65 w22 λw23=>J21 [t67,t66] w23) (J21 [t41,(i64 0)] w20)) λs21 _ w24=>cX (λJ25=>aU .eql (s21.getD 0 undef) (i64 0) λt69=>GdW (isB t69 true) [undef] w24 (λJ26=>jN (s12.getD 0 undef) λt72=>aU .eql t72 (i64 4096) λt73=>J26 [t73] w24) λs26 _ w27=>eO t69 (s26.getD 0 undef) (.bool false) λt74=>bB t74 (J25 [(i64 3)] w27) (J25 [(s21.getD 0 undef)] w27)) λs25 _ w28=>aU .neq (s25.getD 0 undef) (i64 0) λt76=>bB t76 (iX [(i64 0),(str []),(i64 0)] [(0,1,(s25.getD 0 undef)),(2,1,t44)] λc29=>jI 48 (.agg c29.toArray) w28 λt80 w30=>K (.tuple #[sN,t80]) w30) (aZ 2 t10 λt82=>stW 1 t82 t44 w28 λw31=>ldW true 3 t10 w31 λt84=>fV 95 1 [(i64 0),(str []),(i64 0)] [(0,3,t84)] w31 λt85 w32=>fH P0 (Builtin.append_ #[86,86] 86 #[(s12.getD 0 undef),t85]) w32 λt86 w33=>aU .add t44 (s21.getD 1 undef) λt89=>L12 [t86,t89] w33))))
theorem WC{K:Q0}(h:W28 v0 w K):aI P0 28 [v0] w K:=
 tie _ 28 Tryz.f28 Va _ w K 1 _ rfl mixed Tryz.func28 (by kernel_rfl) (by kernel_rfl) Tryz.call28 h
def UJ:eH:={js:=[(21,⟨[23],[],6⟩),(6,⟨[4],[],1⟩)],ds:=[]}
def W60(v0:Value)(w:World)(K:Q0):=eJ [(i64 0)] w λs1 _ w2 L1=>jM v0 λt9=>aU .lss (s1.getD 0 undef) t9 λt10=>bB t10 (oK v0 (some (s1.getD 0 undef)) none λt13=>mX v0 (s1.getD 0 undef) λt18=>aI P0 104 [(str [32,9,13]),t18] w2 λt19 w3=>aU .geq t19 (i64 0) λt20=>bB t20 (aU .add (s1.getD 0 undef) (i64 1) λt22=>L1 [t22] w3) (cX (λJ4=>mX v0 (s1.getD 0 undef) λt26=>aU .eql t26 (.int .u8 35) λt27=>bB t27 (J4 [t27] w3) (aI P0 59 [t13,(str [47,47])] w3 λt29 w5=>J4 [t29] w5)) λs4 _ w6=>bB (s4.getD 0 undef) (aI P0 105 [t13,(.func (.func 106) #[] #[])] w6 λt32 w7=>aU .add (s1.getD 0 undef) t32 λt33=>L1 [t33] w7) (aI P0 59 [t13,(str [47,42])] w6 λt36 w8=>bB t36 (oK t13 (some (i64 2)) none λt38=>aI P0 107 [t38,(str [42,47])] w8 λt39 w9=>aU .lss t39 (i64 0) λt41=>bB t41 (K (.tuple #[(s1.getD 0 undef),(i64 40)]) w9) (aU .add t39 (i64 4) λt45=>aU .add (s1.getD 0 undef) t45 λt46=>L1 [t46] w9)) (K (.tuple #[(s1.getD 0 undef),(i64 0)]) w8)))) (K (.tuple #[(s1.getD 0 undef),(i64 0)]) w2)
theorem Wm{K:Q0}(h:W60 v0 w K):aI P0 60 [v0] w K:=
 tie _ 60 Tryz.f60 UJ _ w K 1 _ rfl mixed Tryz.func60 (by kernel_rfl) (by kernel_rfl) Tryz.call60 h
def UI:eH:={js:=[(8,⟨[6,7],[3,4],6⟩),(38,⟨[43],[],8⟩),(43004,⟨[58],[],57⟩),(40006,⟨[52],[],49⟩)],ds:=[]}
def W61(v0:Value)(w:World)(K:Q0):=dY 95 zL0 w λt2 w1=>dY 95 zL0 w1 λt5 w2=>cX (λJ3=>mX v0 (i64 0) λt10=>aU .eql t10 (.int .u8 10) λt21=>bB t21 (iX [(i64 0),(str []),(i64 0)] [(0,1,(i64 5)),(1,1,(str [10]))] λc4=>stW 3 t2 (.agg c4.toArray) w2 λw5=>ldW true 3 t2 w5 λr6=>K (.tuple #[r6,(i64 1),(i64 0)]) w5) (aI P0 108 [t10] w2 λt25 w7=>bB t25 (aI P0 105 [v0,(.func (.func 109) #[] #[])] w7 λt27 w8=>oK v0 none (some t27) λt30=>iX [(i64 0),(str []),(i64 0)] [(0,1,(i64 1)),(1,1,t30)] λc9=>stW 3 t5 (.agg c9.toArray) w8 λw10=>aU .gtr t27 (i64 32) λt33=>bB t33 (J3 [(i64 3),t27] w10) (J3 [(i64 0),t27] w10)) (aI P0 110 [t10] w7 λt36 w11=>bB t36 (aI P0 105 [v0,(.func (.func 110) #[] #[])] w11 λt38 w12=>oK v0 none (some t38) λt41=>iX [(i64 0),(str []),(i64 0)] [(0,1,(i64 2)),(1,1,t41)] λc13=>stW 3 t5 (.agg c13.toArray) w12 λw14=>cX (λJ15=>jM v0 λt46=>aU .lss t38 t46 λt47=>GdW (isB t47 true) [undef] w14 (λJ16=>mX v0 t38 λt51=>aI P0 108 [t51] w14 λt52 w17=>J16 [t52] w17) λs16 _ w18=>eO t47 (s16.getD 0 undef) (.bool false) λt53=>bB t53 (J15 [t53] w18) (aU .eql t10 (.int .u8 48) λt55=>GdW (isB t55 true) [undef] w18 (λJ19=>aU .gtr t38 (i64 1) λt58=>J19 [t58] w18) λs19 _ w20=>eO t55 (s19.getD 0 undef) (.bool false) λt59=>J15 [t59] w20)) λs15 _ w21=>bB (s15.getD 0 undef) (J3 [(i64 40),t38] w21) (aZ 1 t5 λt61=>ldW false 1 t61 w21 λt62=>aI P0 111 [t62] w21 λt63 w22=>unW .not t63 λt64=>bB t64 (J3 [(i64 3),t38] w22) (J3 [(i64 0),t38] w22))) (aU .eql t10 (.int .u8 34) λt67=>bB t67 (aI P0 112 [v0,(i64 0)] w11 λt70 w23=>jC 0 t70 λt71=>jC 1 t70 λt72=>aU .eql t72 (i64 0) λt74=>bB t74 (aU .sub t71 (i64 1) λt77=>oK v0 (some (i64 1)) (some t77) λt78=>iX [(i64 0),(str []),(i64 0)] [(0,1,(i64 3)),(1,1,t78)] λc24=>stW 3 t5 (.agg c24.toArray) w23 λw25=>J3 [t72,t71] w25) (J3 [t72,t71] w23)) (aI P0 59 [v0,(str [60,60])] w11 λt82 w26=>bB t82 (aZ 0 t5 λt83=>stW 1 t83 (i64 3) w26 λw27=>aI P0 113 [v0] w27 λt86 w28=>jC 0 t86 λt87=>jC 1 t86 λt88=>jC 2 t86 λt89=>aZ 1 t5 λt90=>stW 1 t90 t87 w28 λw29=>J3 [t89,t88] w29) (aI P0 114 [v0] w26 λt12 w30=>iX [(i64 0),(str []),(i64 0)] [(0,1,(i64 4)),(1,1,t12)] λc31=>stW 3 t5 (.agg c31.toArray) w30 λw32=>aZ 1 t5 λt14=>ldW false 1 t14 w32 λt15=>jM t15 λt16=>aU .eql t16 (i64 0) λt18=>bB t18 (J3 [(i64 40),t16] w32) (J3 [(i64 0),t16] w32))))))) λs3 _ w33=>ldW true 3 t5 w33 λt91=>stW 3 t2 t91 w33 λw34=>ldW true 3 t2 w34 λr35=>K (.tuple #[r35,(s3.getD 1 undef),(s3.getD 0 undef)]) w34
theorem Wl{K:Q0}(h:W61 v0 w K):aI P0 61 [v0] w K:=
 tie _ 61 Tryz.f61 UI _ w K 1 _ rfl mixed Tryz.func61 (by kernel_rfl) (by kernel_rfl) Tryz.call61 h
def PY:eH:={js:=[(6,⟨[8],[4,5],8⟩)],ds:=[]}
def Zy(v0 v1:Value)(w:World)(K:Q0):=jM v0 λt7=>eJ [(i64 0)] w λs1 _ w2 L1=>aU .lss (s1.getD 0 undef) t7 λt9=>bB t9 (mX v0 (s1.getD 0 undef) λt14=>mY P0 v1 [t14] w2 λt15 w3=>unW .not t15 λt16=>bB t16 (K (s1.getD 0 undef) w3) (aU .add (s1.getD 0 undef) (i64 1) λt18=>L1 [t18] w3)) (jM v0 λt20=>K t20 w2)
theorem Ti{K:Q0}(h:Zy v0 v1 w K):aI P0 105 [v0,v1] w K:=
 tie _ 105 Tryz.f105 PY _ w K 2 _ rfl mixed Tryz.func105 (by kernel_rfl) (by kernel_rfl) Tryz.call105 h
def PW:eH:={js:=[],ds:=[]}
def Zx(v0:Value)(w:World)(K:Q0):=aU .neq v0 (.int .u8 10) λt4=>K t4 w
theorem Tg{K:Q0}(h:Zx v0 w K):aI P0 106 [v0] w K:=
 tie _ 106 Tryz.f106 PW _ w K 1 _ rfl mixed Tryz.func106 (by kernel_rfl) (by kernel_rfl) Tryz.call106 h
def PV:eH:={js:=[(3004,⟨[19],[],18⟩),(3007,⟨[15],[],10⟩),(3009,⟨[14],[],13⟩),(3012,⟨[12],[],10⟩),(3016,⟨[7],[],6⟩)],ds:=[]}
def Zw(v0:Value)(w:World)(K:Q0):=aU .geq v0 (.int .u8 97) λt4=>GdW (isB t4 true) [undef] w (λJ1=>aU .leq v0 (.int .u8 122) λt7=>J1 [t7] w) λs1 _ w2=>eO t4 (s1.getD 0 undef) (.bool false) λt8=>GdW (isB t8 false) [undef] w2 (λJ3=>aU .geq v0 (.int .u8 65) λt11=>J3 [t11] w2) λs3 _ w4=>GdW (isB (s3.getD 0 undef) true) [undef] w4 (λJ5=>aU .leq v0 (.int .u8 90) λt14=>J5 [t14] w4) λs5 _ w6=>GdW (isB t8 false) [undef] w6 (λJ7=>eO (s3.getD 0 undef) (s5.getD 0 undef) (.bool false) λt15=>J7 [t15] w6) λs7 _ w8=>eO t8 (.bool true) (s7.getD 0 undef) λt16=>GdW (isB t16 false) [undef] w8 (λJ9=>aU .eql v0 (.int .u8 95) λt19=>J9 [t19] w8) λs9 _ w10=>eO t16 (.bool true) (s9.getD 0 undef) λt20=>K t20 w10
theorem Tf{K:Q0}(h:Zw v0 w K):aI P0 108 [v0] w K:=
 tie _ 108 Tryz.f108 PV _ w K 1 _ rfl mixed Tryz.func108 (by kernel_rfl) (by kernel_rfl) Tryz.call108 h
def PU:eH:={js:=[(3004,⟨[11],[],10⟩),(3008,⟨[7],[],6⟩)],ds:=[]}
def Zv(v0:Value)(w:World)(K:Q0):=aI P0 108 [v0] w λt4 w1=>GdW (isB t4 false) [undef] w1 (λJ2=>aI P0 110 [v0] w1 λt7 w3=>J2 [t7] w3) λs2 _ w4=>eO t4 (.bool true) (s2.getD 0 undef) λt8=>GdW (isB t8 false) [undef] w4 (λJ5=>aU .eql v0 (.int .u8 45) λt11=>J5 [t11] w4) λs5 _ w6=>eO t8 (.bool true) (s5.getD 0 undef) λt12=>K t12 w6
theorem Te{K:Q0}(h:Zv v0 w K):aI P0 109 [v0] w K:=
 tie _ 109 Tryz.f109 PU _ w K 1 _ rfl mixed Tryz.func109 (by kernel_rfl) (by kernel_rfl) Tryz.call109 h
def PT:eH:={js:=[(3004,⟨[7],[],6⟩)],ds:=[]}
def Zu(v0:Value)(w:World)(K:Q0):=aU .geq v0 (.int .u8 48) λt4=>GdW (isB t4 true) [undef] w (λJ1=>aU .leq v0 (.int .u8 57) λt7=>J1 [t7] w) λs1 _ w2=>eO t4 (s1.getD 0 undef) (.bool false) λt8=>K t8 w2
theorem Td{K:Q0}(h:Zu v0 w K):aI P0 110 [v0] w K:=
 tie _ 110 Tryz.f110 PT _ w K 1 _ rfl mixed Tryz.func110 (by kernel_rfl) (by kernel_rfl) Tryz.call110 h
def PP:eH:={js:=[(32007,⟨[43],[],38⟩),(6,⟨[6],[],2⟩)],ds:=[]}
def Zs(v0 v1:Value)(w:World)(K:Q0):=eJ [(i64 1)] w λs1 _ w2 L1=>jM v0 λt11=>aU .lss (s1.getD 0 undef) t11 λt12=>bB t12 (mX v0 (s1.getD 0 undef) λt18=>aU .eql t18 (.int .u8 34) λt19=>bB t19 (aU .add (s1.getD 0 undef) (i64 1) λt21=>K (.tuple #[t21,(i64 0)]) w2) (mX v0 (s1.getD 0 undef) λt25=>aU .eql t25 (.int .u8 10) λt26=>bB t26 (K (.tuple #[(i64 0),(i64 40)]) w2) (mX v0 (s1.getD 0 undef) λt30=>aU .eql t30 (.int .u8 92) λt31=>bB t31 (aU .add (s1.getD 0 undef) (i64 1) λt33=>jM v0 λt35=>aU .geq t33 t35 λt36=>GdW (isB t36 false) [undef] w2 (λJ3=>aU .add (s1.getD 0 undef) (i64 1) λt40=>mX v0 t40 λt41=>aI P0 104 [(str [34,92,110,116,114,36]),t41] w2 λt42 w4=>aU .lss t42 (i64 0) λt43=>J3 [t43] w4) λs3 _ w5=>eO t36 (.bool true) (s3.getD 0 undef) λt44=>bB t44 (K (.tuple #[(i64 0),(i64 40)]) w5) (aU .add (s1.getD 0 undef) (i64 2) λt46=>L1 [t46] w5)) (oK v0 (some (s1.getD 0 undef)) none λt50=>aI P0 59 [t50,(str [36,123])] w2 λt51 w6=>bB t51 (aU .add (s1.getD 0 undef) (i64 1) λt55=>oK v0 (some t55) none λt56=>aU .add v1 (i64 1) λt58=>aI P0 149 [t56,t58] w6 λt59 w7=>jC 0 t59 λt60=>jC 1 t59 λt61=>aU .neq t61 (i64 0) λt63=>bB t63 (K (.tuple #[(i64 0),t61]) w7) (aU .add t60 (i64 1) λt67=>aU .add (s1.getD 0 undef) t67 λt68=>L1 [t68] w7)) (aU .add (s1.getD 0 undef) (i64 1) λt14=>L1 [t14] w6))))) (K (.tuple #[(i64 0),(i64 40)]) w2)
theorem SZ{K:Q0}(h:Zs v0 v1 w K):aI P0 112 [v0,v1] w K:=
 tie _ 112 Tryz.f112 PP _ w K 2 _ rfl mixed Tryz.func112 (by kernel_rfl) (by kernel_rfl) Tryz.call112 h
def PO:eH:={js:=[(61,⟨[13],[13],68⟩),(65,⟨[72],[],72⟩),(51,⟨[],[13],68⟩),(27,⟨[7],[2,3,4,7],9⟩),(16005,⟨[43],[],40⟩),(16011,⟨[37],[],34⟩),(4,⟨[5],[],1⟩),(6004,⟨[20],[],18⟩)],ds:=[]}
def Zr(v0:Value)(w:World)(K:Q0):=cX (λJ1=>jM v0 λt15=>aU .gtr t15 (i64 2) λt16=>GdW (isB t16 true) [undef] w (λJ2=>mX v0 (i64 2) λt19=>aI P0 108 [t19] w λt20 w3=>J2 [t20] w3) λs2 _ w4=>eO t16 (s2.getD 0 undef) (.bool false) λt21=>bB t21 (oK v0 (some (i64 2)) none λt23=>aI P0 105 [t23,(.func (.func 150) #[] #[])] w4 λt24 w5=>J1 [t24] w5) (J1 [(i64 0)] w4)) λs1 _ w6=>aU .add (i64 2) (s1.getD 0 undef) λt27=>oK v0 (some (i64 2)) (some t27) λt28=>aU .add (i64 2) (s1.getD 0 undef) λt30=>aU .eql (s1.getD 0 undef) (i64 0) λt32=>GdW (isB t32 false) [undef] w6 (λJ7=>jM v0 λt36=>aU .geq t30 t36 λt37=>J7 [t37] w6) λs7 _ w8=>eO t32 (.bool true) (s7.getD 0 undef) λt38=>GdW (isB t38 false) [undef] w8 (λJ9=>mX v0 t30 λt42=>aU .neq t42 (.int .u8 10) λt43=>J9 [t43] w8) λs9 _ w10=>eO t38 (.bool true) (s9.getD 0 undef) λt44=>bB t44 (K (.tuple #[(str []),(i64 0),(i64 40)]) w10) (aU .add t30 (i64 1) λt46=>dY 114 [(.pointer none),sN] w10 λt8 w11=>eJ [t46] w11 λs12 _ w13 L12=>oK v0 (some (s12.getD 0 undef)) none λt50=>aI P0 151 [t50,(str [10])] w13 λt51 w14=>jC 0 t51 λt52=>jC 1 t51 λt53=>jC 2 t51 λt54=>aI P0 152 [t52,(str [32,9])] w14 λt56 w15=>aU .eql t56 t28 λt58=>bB t58 (aI P0 44 [t8] w15 λt59 w16=>jM t52 λt62=>aU .add (s12.getD 0 undef) t62 λt63=>K (.tuple #[t59,t63,(i64 0)]) w16) (unW .not t54 λt65=>bB t65 (K (.tuple #[(str []),(i64 0),(i64 40)]) w15) (fH P0 (Instr.range 9 t52) w15 λt67 w17=>eJ [] w17 λs18 _ w19 L18=>fH P0 (Instr.next t67 true 0) w19 λt68 w20=>jC 0 t68 λt69=>bB t69 (jC 2 t68 λt70=>cX (λJ21=>cX (λJ22=>aU .eql t70 (.int .i32 92) λt73=>bB t73 (J22 [t73] w20) (aU .eql t70 (.int .i32 34) λt74=>bB t74 (J22 [t74] w20) (aU .eql t70 (.int .i32 36) λt75=>J22 [t75] w20))) λs22 _ w23=>bB (s22.getD 0 undef) (aI P0 126 [t8,(.int .u8 92)] w23 λt76 w24=>J21 [t70] w24) (aU .eql t70 (.int .i32 9) λt78=>bB t78 (aI P0 126 [t8,(.int .u8 92)] w23 λt79 w25=>J21 [(.int .i32 116)] w25) (aU .eql t70 (.int .i32 13) λt81=>bB t81 (aI P0 126 [t8,(.int .u8 92)] w23 λt82 w26=>J21 [(.int .i32 114)] w26) (J21 [t70] w23)))) λs21 _ w27=>aI P0 127 [t8,(s21.getD 0 undef)] w27 λt84 w28=>L18 [] w28) (aI P0 88 [t8,(str [92,110])] w20 λt85 w29=>jM t52 λt88=>aU .add t88 (i64 1) λt89=>aU .add (s12.getD 0 undef) t89 λt90=>L12 [t90] w29))))
theorem SY{K:Q0}(h:Zr v0 w K):aI P0 113 [v0] w K:=
 tie _ 113 Tryz.f113 PO _ w K 1 _ rfl mixed Tryz.func113 (by kernel_rfl) (by kernel_rfl) Tryz.call113 h
def PN:eH:={js:=[(2,⟨[],[],1⟩),(9,⟨[8],[],1⟩)],ds:=[]}
def Zq(v0:Value)(w:World)(K:Q0):=cX (λJ1=>jM v0 λt4=>aU .gtr t4 (i64 1) λt5=>bB t5 (oK v0 none (some (i64 2)) λt7=>cX (λJ2=>aU .eql t7 (str [61,61]) λt9=>bB t9 (J2 [t9] w) (aU .eql t7 (str [33,61]) λt10=>bB t10 (J2 [t10] w) (aU .eql t7 (str [60,61]) λt11=>bB t11 (J2 [t11] w) (aU .eql t7 (str [62,61]) λt12=>bB t12 (J2 [t12] w) (aU .eql t7 (str [38,38]) λt13=>bB t13 (J2 [t13] w) (aU .eql t7 (str [124,124]) λt14=>J2 [t14] w)))))) λs2 _ w3=>bB (s2.getD 0 undef) (oK v0 none (some (i64 2)) λt16=>K t16 w3) (J1 [] w3)) (J1 [] w)) λs1 _ w4=>mX v0 (i64 0) λt18=>aI P0 104 [(str [123,125,91,93,40,41,61,43,45,42,47,37,60,62,33,63,58,44,46]),t18] w4 λt19 w5=>aU .geq t19 (i64 0) λt20=>bB t20 (oK v0 none (some (i64 1)) λt22=>K t22 w5) (K (str []) w5)
theorem SX{K:Q0}(h:Zq v0 w K):aI P0 114 [v0] w K:=
 tie _ 114 Tryz.f114 PN _ w K 1 _ rfl mixed Tryz.func114 (by kernel_rfl) (by kernel_rfl) Tryz.call114 h
def Pm:eH:={js:=[(24,⟨[7,8],[4,5],7⟩),(14,⟨[6],[],2⟩)],ds:=[]}
def YT(v0 v1:Value)(w:World)(K:Q0):=aU .gtr v1 (i64 24) λt10=>bB t10 (K (.tuple #[(i64 0),(i64 7)]) w) (eJ [(i64 1)] w λs1 _ w2 L1=>jM v0 λt13=>aU .lss (s1.getD 0 undef) t13 λt14=>bB t14 (cX (λJ3=>mX v0 (s1.getD 0 undef) λt17=>aU .eql t17 (.int .u8 125) λt19=>bB t19 (aU .add (s1.getD 0 undef) (i64 1) λt21=>K (.tuple #[t21,(i64 0)]) w2) (aU .eql t17 (.int .u8 10) λt23=>bB t23 (K (.tuple #[(i64 0),(i64 40)]) w2) (aU .eql t17 (.int .u8 123) λt25=>bB t25 (oK v0 (some (s1.getD 0 undef)) none λt29=>aU .add v1 (i64 1) λt31=>aI P0 149 [t29,t31] w2 λt32 w4=>jC 0 t32 λt33=>jC 1 t32 λt34=>J3 [t33,t34] w4) (aU .eql t17 (.int .u8 34) λt36=>bB t36 (oK v0 (some (s1.getD 0 undef)) none λt40=>aI P0 112 [t40,v1] w2 λt42 w5=>jC 0 t42 λt43=>jC 1 t42 λt44=>J3 [t43,t44] w5) (J3 [(i64 1),(i64 0)] w2))))) λs3 _ w6=>aU .neq (s3.getD 1 undef) (i64 0) λt46=>bB t46 (K (.tuple #[(i64 0),(s3.getD 1 undef)]) w6) (aU .add (s1.getD 0 undef) (s3.getD 0 undef) λt50=>L1 [t50] w6)) (K (.tuple #[(i64 0),(i64 40)]) w2))
theorem Sx{K:Q0}(h:YT v0 v1 w K):aI P0 149 [v0,v1] w K:=
 tie _ 149 Tryz.f149 Pm _ w K 2 _ rfl mixed Tryz.func149 (by kernel_rfl) (by kernel_rfl) Tryz.call149 h
def Pl:eH:={js:=[(3004,⟨[11],[],10⟩),(3008,⟨[7],[],6⟩)],ds:=[]}
def YS(v0:Value)(w:World)(K:Q0):=aI P0 108 [v0] w λt4 w1=>GdW (isB t4 false) [undef] w1 (λJ2=>aI P0 110 [v0] w1 λt7 w3=>J2 [t7] w3) λs2 _ w4=>eO t4 (.bool true) (s2.getD 0 undef) λt8=>GdW (isB t8 false) [undef] w4 (λJ5=>aU .eql v0 (.int .u8 45) λt11=>J5 [t11] w4) λs5 _ w6=>eO t8 (.bool true) (s5.getD 0 undef) λt12=>K t12 w6
theorem Sw{K:Q0}(h:YS v0 w K):aI P0 150 [v0] w K:=
 tie _ 150 Tryz.f150 Pl _ w K 1 _ rfl mixed Tryz.func150 (by kernel_rfl) (by kernel_rfl) Tryz.call150 h
end
section
open Go Go.Eng
variable{w:World}{K:Q0}{cs:List Value}{G:Nat->Prop}{T:TypeId}{i:Nat}{n:Nat}{v:Value}{w':World}{P:Program}{c:UInt8}{S:Nat->Prop}{v0 v1 v2 v3 v4 v5:Value}
variable [HX]
def Ij:eH:={js:=[(30,⟨[],[],6⟩),(34003,⟨[40],[],39⟩),(20,⟨[],[],6⟩)],ds:=[(29,⟨[0,1,2,6],[[],[0],[],[2],[2,3],[0,1,2,3,4],[0,1,2,3,4,5],[0,1,2,3,4,5,6]]⟩),(9,⟨[0,1],[[],[],[0],[0,1,2]]⟩)]}
def W12(v0:Value)(w:World)(K:Q0):=
 dY 28 [sN,sN,sN] w λt2 w1=>
 dY 29 [(.pointer none)] w1 λt3 w2=>
 aI P0 28 [v0] w2 λt9 w3=>
 jC 0 t9 λt10=>
 jC 1 t9 λt11=>
 stW 1 t3 t11 w3 λw4=>
 ldW false 1 t3 w4 λt12=>
 eqW .ptr true t12 (.pointer none) λt13=>
 bB t13 (
 iX [sN,sN,sN] [] λc5=>
 ldW false 1 t3 w4.drew λt15=>
 stW 3 t2 (.agg c5.toArray) w4.drew λw6=>
 (ldW false 1 t3 w6 λx=>x=t15)/\
 stW 1 t3 t15 w6 λw7=>
 ldW true 3 t2 w7 λr8=>
 ldW false 1 t3 w7 λr9=>
 K (.tuple #[r8,r9]) w7) (
 letI:HX:=⟨λch x10=>vY P0 29 [t2,t3] (.panicking ch) x10 λw10=>
 ldW true 3 t2 w10 λr11=>
 ldW false 1 t3 w10 λr12=>
 K (.tuple #[r11,r12]) w10⟩
 iX [sN,(i64 0),(i64 0),(.pointer none),(i64 0),(.bool false)] [(0,1,t10),(3,1,t2)] λc13=>
 jI 92 (.agg c13.toArray) w4 λt19 w14=>
 aI P0 30 [t19] w14 λt21 w15=>
 eJ [] w15 λs16 _ w17 L16=>
 aI P0 31 [t19] w17 λt23 w18=>
 mV false 0 1 t23 λt24=>
 aU .neq t24 (i64 0) λt25=>
 bB t25 (
 aZ 2 t2 λt26=>
 ldW false 1 t26 w18.drew λt27=>
 aI P0 32 [t19] w18.drew λt29 w19=>
 (ldW false 1 t26 w19 λx=>x=t27)/\
 fV 3 1 [(i64 0)] [(0,1,t29)] w19 λt30 w20=>
 (ldW false 1 t26 w20 λx=>x=t27)/\
 fH P0 (Builtin.append_ #[26,26] 26 #[t27,t30]) w20 λt31 w21=>
 aZ 2 t2 λt32=>
 stW 1 t32 t31 w21 λw22=>
 cX (λJ23=>
 aI P0 31 [t19] w22 λt34 w24=>
 mV false 0 1 t34 λt35=>
 aU .neq t35 (i64 5) λt37=>
 GdW (isB t37 true) [undef] w24 (λJ25=>
 aU .neq t35 (i64 0) λt40=>
 J25 [t40] w24)
 λs25 _ w26=>
 eO t37 (s25.getD 0 undef) (.bool false) λt41=>
 bB t41 (
 aI P0 31 [t19] w26 λt43 w27=>
 mV false 2 1 t43 λt44=>
 aI P0 33 [(i64 50),t44] w27 λt45 w28=>
 J23 [] w28) (
 J23 [] w26))
 λs23 _ w29=>
 aI P0 30 [t19] w29 λt47 w30=>
 L16 [] w30) (
 ldW true 3 t2 w18 λt48=>
 stW 3 t2 t48 w18 λw31=>
 stW 1 t3 (.pointer none) w31 λw32=>
 vY P0 29 [t2,t3] .returning w32 λw33=>
 ldW true 3 t2 w33 λr34=>
 ldW false 1 t3 w33 λr35=>
 K (.tuple #[r34,r35]) w33))
theorem WO(v0:Value)(w:World)(K:Q0):MW P0 Tryz.f12 Ij 3 [v0] w (Dx K)=W12 v0 w K:=by kernel_rfl
theorem SO:Ak P0 Tryz.f12 Ij 4 29 3 1=true:=by kernel_rfl
theorem WN{K:Q0}(h:W12 v0 w K):aI P0 12 [v0] w K:=
 Xo P0 12 Tryz.f12 Ij [v0] w K 4 29 3 1 (W12 v0 w K) rfl mixed Tryz.func12 SO (WO v0 w K) Tryz.call12 Tryz.call29 h
def LY:eH:={js:=[],ds:=[(5,⟨[0,1,2],[[],[],[1],[0],[0,1,2,3]]⟩)]}
def ZJ(v0 v1:Value)(x:Value)(w:World)(K:World->Prop):Prop:=
 letI:HX:=noX
 eqQ P0 .neq 20 false true x .nilIface w λt5=>
 bB t5 (
 iX [sN,sN,sN] [] λc1=>
 oU P0 (Instr.typeAssert x 20 29 false) w.drew λt8=>
 stW 3 v0 (.agg c1.toArray) w.drew λw2=>
 (oU P0 (Instr.typeAssert x 20 29 false) w2 λx=>x=t8)/\
 stW 1 v1 t8 w2 λw3=>
 K w3) (
 K w)
theorem WR(v0 v1:Value)(x:Value)(w:World)(K:World->Prop):QG P0 Tryz.f29 LY [v0,v1] x w K=ZJ v0 v1 x w K:=by kernel_rfl
theorem Tm:BK P0 Tryz.f29 LY 2=true:=by kernel_rfl
theorem NB{v0 v1:Value}{x:Value}{u:FrameMode}{K:World->Prop}(j:Finds u x)(h:ZJ v0 v1 x w K):vY P0 29 [v0,v1] u w K:=
 CG (args:=[v0,v1]) mixed Tryz.func29 Tm j (by rw[WR];exact h)
def UZ:eH:={js:=[(1,⟨[],[],1⟩)],ds:=[]}
def W30(v0:Value)(w:World)(K:Q0):=eJ [] w λs1 _ w2 L1=>aI P0 31 [v0] w2 λt3 w3=>mV false 0 1 t3 λt4=>aU .eql t4 (i64 5) λt5=>bB t5 (dV v0 λt7=>aZ 1 t7 λt8=>ldW false 1 t8 w3 λt9=>aU .add t9 (i64 1) λt10=>dV v0 λt11=>aZ 1 t11 λt12=>stW 1 t12 t10 w3 λw4=>L1 [] w4) (K (.tuple #[]) w3)
theorem WB{K:Q0}(h:W30 v0 w K):aI P0 30 [v0] w K:=
 tie _ 30 Tryz.f30 UZ _ w K 1 _ rfl mixed Tryz.func30 (by kernel_rfl) (by kernel_rfl) Tryz.call30 h
def UY:eH:={js:=[(4,⟨[],[],3⟩)],ds:=[(16,⟨[0,1,2,3,4,5,6,7],[[],[0],[],[2],[2,3],[2,3,4],[0,1,2,3,4,5],[0,1,2,3,4,5,6],[0,1,2,3,4,5,6,7]]⟩),(14,⟨[0,1,2,3,4,5,6,7,8,9],[[],[0],[0,1],[0,1,2],[],[4],[4,5],[4,5,6],[0,1,2,3,4,5,6,7],[0,1,2,3,4,5,6,7,8],[],[0,1,2,3,4,5,6,7,8,9,10]]⟩),(7,⟨[0,1,2,3,4,5,6,7,8,9,10,11,12,13,14,15,16,17],[[],[0],[0,1],[0,1,2],[0,1,2,3],[0,1,2,3,4],[0,1,2,3,4,5],[0,1,2,3,4,5,6],[0,1,2,3,4,5,6,7],[0,1,2,3,4],[0,1,2,3,4,9],[0,1,2,3,4,9,10],[0,1,2,3,4,9,10,11],[0,1,2,3,4,5,6,7,8,9,10,11,12],[0,1,2,3,4,5,6,7,8,9,10,11,12,13],[0,1,2,3,4,5,6,7,8,9,10,11,12,13,14],[0,1,2,3,4,5,6,7,8,9,10,11,12,13,14,15],[0,1,2,3,4,5,6,7,8,9,10,11,12,13,14,15,16]]⟩)]}
def W31(v0:Value)(w:World)(K:Q0):=dY 95 zL0 w λt2 w1=>eJ [] w1 λs2 _ w3 L2=>dV v0 λt5=>aZ 5 t5 λt6=>ldW false 1 t6 w3.drew λt7=>GqW (isB t7 true) (λk4=>k4 v0) λt9=>GqW (isB t7 true) (λk5=>dV t9 k5) λt10=>GqW (isB t7 true) (λk6=>aZ 0 t10 k6) λt11=>GqW (isB t7 true) (λk7=>ldW false 1 t11 w3.drew k7) λt12=>GqW (isB t7 true) (λk8=>k8 v0) λt13=>GqW (isB t7 true) (λk9=>dV t13 k9) λt14=>GqW (isB t7 true) (λk10=>aZ 1 t14 k10) λt15=>GqW (isB t7 true) (λk11=>ldW false 1 t15 w3.drew k11) λt16=>GqW (isB t7 true) (λk12=>iN none 3 t12 t16 k12) λt17=>GqW (isB t7 true) (λk13=>aZ 0 t17 k13) λt18=>GqW (isB t7 true) (λk14=>ldW false 1 t18 w3.drew k14) λt19=>GqW (isB t7 true) (λk15=>aU .eql t19 (i64 5) k15) λt20=>eO t7 t20 (.bool false) λt21=>bB t21 (dV v0 λt23=>aZ 1 t23 λt24=>ldW false 1 t24 w3.drew λt25=>aU .add t25 (i64 1) λt26=>dV v0 λt27=>aZ 1 t27 λt28=>stW 1 t28 t26 w3.drew λw16=>L2 [] w16) (dV v0 λt30=>aZ 0 t30 λt31=>ldW false 1 t31 w3.drew.drew λt32=>dV v0 λt34=>aZ 1 t34 λt35=>ldW false 1 t35 w3.drew.drew λt36=>iN none 3 t32 t36 λt37=>ldW true 3 t37 w3.drew.drew λt38=>dY 95 zL0 w3.drew.drew λt3 w17=>(ldW true 3 t37 w17 λx=>x=t38)/\(ldW false 1 t35 w17 λx=>x=t36)/\(ldW false 1 t31 w17 λx=>x=t32)/\stW 3 t3 t38 w17 λw18=>aZ 2 t3 λt39=>ldW false 1 t39 w18.drew λt40=>dV v0 λt42=>aZ 2 t42 λt43=>ldW false 1 t43 w18.drew λt44=>aU .add t40 t44 λt45=>aZ 2 t3 λt46=>stW 1 t46 t45 w18.drew λw19=>ldW true 3 t3 w19 λt47=>stW 3 t2 t47 w19 λw20=>ldW true 3 t2 w20 λr21=>K r21 w20)
theorem WA{K:Q0}(h:W31 v0 w K):aI P0 31 [v0] w K:=
 tie _ 31 Tryz.f31 UY _ w K 1 _ rfl mixed Tryz.func31 (by kernel_rfl) (by kernel_rfl) Tryz.call31 h
def UX:eH:={js:=[(19,⟨[],[],6⟩),(8,⟨[],[],5⟩)],ds:=[(28,⟨[0,1,2,3,4,5,6,7,8,9,10,11,14,15],[[],[0],[0,1],[0,1,2],[],[4],[4,5],[4,5,6],[4,5,6,7],[4,5,6,7,8],[4,5,6,7,8,9],[],[11],[4,5,6,7,8,9,10,11,12],[0,1,2,3,4,5,6,7,8,9,10,11,12,13],[0,1,2,3,4,5,6,7,8,9,10,11,12,13,14],[0,1,2,3,4,5,6,7,8,9,10,11,12,13,14,15]]⟩),(16,⟨[0,1,2,3,8],[[],[0],[],[],[3],[2,3,4],[2,3,4,5],[0,1,2,3,4,5,6],[0,1,2,3,4,5,6,7],[0,1,2,3,4,5,6,7,8]]⟩)]}
def W32(v0:Value)(w:World)(K:Q0):=jI 89 v0 w λt1 w1=>ldW false 1 t1 w1 λt6=>aI P0 62 [t6,(i64 1)] w1 λt7 w2=>dY 95 zL0 w2 λt3 w3=>stW 3 t3 t7 w3 λw4=>aZ 1 t3 λt8=>ldW false 1 t8 w4 λt9=>aZ 2 t3 λt10=>ldW false 1 t10 w4 λt11=>iX [(str []),sN,sN,sN,(i64 0)] [(0,1,t9),(4,1,t11)] λc5=>dY 38 [(str []),sN,sN,sN,(i64 0)] w4 λt4 w6=>stW 5 t4 (.agg c5.toArray) w6 λw7=>eJ [] w7 λs8 _ w9 L8=>ldW false 1 t1 w9 λt13=>aI P0 31 [t13] w9 λt14 w10=>mV false 0 1 t14 λt15=>aU .eql t15 (i64 3) λt16=>bB t16 (aZ 1 t4 λt17=>ldW false 1 t17 w10.drew λt18=>ldW false 1 t1 w10.drew λt19=>ldW false 1 t1 w10.drew λt20=>aI P0 64 [t20] w10.drew λt21 w11=>(ldW false 1 t1 w11 λx=>x=t19)/\(ldW false 1 t17 w11 λx=>x=t18)/\aI P0 63 [t19,t21] w11 λt22 w12=>(ldW false 1 t17 w12 λx=>x=t18)/\fV 9 1 [(str [])] [(0,1,t22)] w12 λt23 w13=>(ldW false 1 t17 w13 λx=>x=t18)/\fH P0 (Builtin.append_ #[33,33] 33 #[t18,t23]) w13 λt24 w14=>aZ 1 t4 λt25=>stW 1 t25 t24 w14 λw15=>L8 [] w15) (ldW false 1 t1 w10 λt26=>aI P0 31 [t26] w10 λt27 w16=>dY 95 zL0 w16 λt5 w17=>stW 3 t5 t27 w17 λw18=>cX (λJ19=>ldW false 1 t1 w18 λt28=>fV 9 1 [(str [])] [(0,1,(str [123]))] w18 λt29 w20=>aI P0 65 [t28,t29] w20 λt30 w21=>unW .not t30 λt31=>bB t31 (aZ 2 t5 λt32=>ldW false 1 t32 w21 λt33=>aI P0 33 [(i64 50),t33] w21 λt34 w22=>J19 [] w22) (J19 [] w21)) λs19 _ w23=>ldW false 1 t1 w23 λt35=>aZ 2 t5 λt36=>ldW false 1 t36 w23 λt37=>aI P0 66 [t35,t37,(.bool false),(.func (.func 67) #[] #[t1,t4])] w23 λt39 w24=>ldW false 1 t1 w24.drew λt40=>dV t40 λt41=>aZ 3 t41 λt42=>ldW false 1 t42 w24.drew λt43=>ldW false 1 t1 w24.drew λt44=>dV t44 λt45=>aZ 3 t45 λt46=>ldW false 1 t46 w24.drew λt47=>dV t47 λt48=>aZ 1 t48 λt49=>ldW false 1 t49 w24.drew λt50=>ldW true 5 t4 w24.drew λt51=>fV 38 1 [(str []),sN,sN,sN,(i64 0)] [(0,5,t51)] w24.drew λt52 w25=>(ldW false 1 t49 w25 λx=>x=t50)/\(ldW false 1 t46 w25 λx=>x=t47)/\(ldW false 1 t1 w25 λx=>x=t44)/\(ldW false 1 t42 w25 λx=>x=t43)/\(ldW false 1 t1 w25 λx=>x=t40)/\fH P0 (Builtin.append_ #[25,25] 25 #[t50,t52]) w25 λt53 w26=>(ldW false 1 t42 w26 λx=>x=t43)/\(ldW false 1 t1 w26 λx=>x=t40)/\dV t43 λt54=>aZ 1 t54 λt55=>stW 1 t55 t53 w26 λw27=>ldW false 1 t1 w27 λt56=>dV t56 λt57=>aZ 3 t57 λt58=>ldW false 1 t58 w27 λt59=>dV t59 λt60=>aZ 1 t60 λt61=>ldW false 1 t61 w27 λt62=>jN t62 λt63=>aU .sub t63 (i64 1) λt64=>K t64 w27)
theorem Wz{K:Q0}(h:W32 v0 w K):aI P0 32 [v0] w K:=
 tie _ 32 Tryz.f32 UX _ w K 1 _ rfl mixed Tryz.func32 (by kernel_rfl) (by kernel_rfl) Tryz.call32 h
def UW:eH:={js:=[],ds:=[]}
def W33(v0 v1:Value)(w:World)(K:Q0):=iX [(i64 0),(str []),(i64 0)] [(0,1,v0),(2,1,v1)] λc1=>jI 48 (.agg c1.toArray) w λt7 w2=>Kl (.iface 29 t7) w2
theorem Wy{K:Q0}(h:W33 v0 v1 w K):aI P0 33 [v0,v1] w K:=
 tie _ 33 Tryz.f33 UW _ w K 2 _ rfl mixed Tryz.func33 (by kernel_rfl) (by kernel_rfl) Tryz.call33 h
def UH:eH:={js:=[(2,⟨[],[],5⟩)],ds:=[]}
def W62(v0 v1:Value)(w:World)(K:Q0):=dY 95 zL0 w λt4 w1=>cX (λJ2=>aI P0 31 [v0] w1 λt6 w3=>mV false 0 1 t6 λt7=>aU .neq t7 v1 λt9=>bB t9 (aI P0 31 [v0] w3 λt11 w4=>mV false 2 1 t11 λt12=>aI P0 33 [(i64 50),t12] w4 λt13 w5=>J2 [] w5) (J2 [] w3)) λs2 _ w6=>aI P0 64 [v0] w6 λt15 w7=>stW 3 t4 t15 w7 λw8=>ldW true 3 t4 w8 λr9=>K r9 w8
theorem Wk{K:Q0}(h:W62 v0 v1 w K):aI P0 62 [v0,v1] w K:=
 tie _ 62 Tryz.f62 UH _ w K 2 _ rfl mixed Tryz.func62 (by kernel_rfl) (by kernel_rfl) Tryz.call62 h
def UG:eH:={js:=[(2,⟨[],[],4⟩)],ds:=[]}
def W63(v0 v1:Value)(w:World)(K:Q0):=jI 95 v1 w λt3 w1=>cX (λJ2=>aZ 1 t3 λt8=>ldW false 1 t8 w1 λt9=>aI P0 115 [t9] w1 λt10 w3=>jC 0 t10 λt11=>jC 1 t10 λt12=>aU .geq t11 (i64 0) λt14=>bB t14 (aZ 2 t3 λt15=>ldW false 1 t15 w3 λt16=>aI P0 33 [(i64 50),t16] w3 λt17 w4=>J2 [] w4) (J2 [] w3)) λs2 _ w5=>aZ 1 t3 λt18=>ldW false 1 t18 w5 λt19=>aI P0 116 [t19] w5 λt20 w6=>K t20 w6
theorem Wj{K:Q0}(h:W63 v0 v1 w K):aI P0 63 [v0,v1] w K:=
 tie _ 63 Tryz.f63 UG _ w K 2 _ rfl mixed Tryz.func63 (by kernel_rfl) (by kernel_rfl) Tryz.call63 h
def UF:eH:={js:=[(4,⟨[],[],4⟩)],ds:=[]}
def W64(v0:Value)(w:World)(K:Q0):=dY 95 zL0 w λt2 w1=>aI P0 31 [v0] w1 λt5 w2=>dY 95 zL0 w2 λt3 w3=>stW 3 t3 t5 w3 λw4=>cX (λJ5=>aZ 0 t3 λt6=>ldW false 1 t6 w4 λt7=>aU .neq t7 (i64 0) λt8=>bB t8 (dV v0 λt10=>aZ 1 t10 λt11=>ldW false 1 t11 w4 λt12=>aU .add t12 (i64 1) λt13=>dV v0 λt14=>aZ 1 t14 λt15=>stW 1 t15 t13 w4 λw6=>J5 [] w6) (J5 [] w4)) λs5 _ w7=>ldW true 3 t3 w7 λt16=>stW 3 t2 t16 w7 λw8=>ldW true 3 t2 w8 λr9=>K r9 w8
theorem Wi{K:Q0}(h:W64 v0 w K):aI P0 64 [v0] w K:=
 tie _ 64 Tryz.f64 UF _ w K 1 _ rfl mixed Tryz.func64 (by kernel_rfl) (by kernel_rfl) Tryz.call64 h
def UE:eH:={js:=[(5006,⟨[15],[],12⟩)],ds:=[]}
def W65(v0 v1:Value)(w:World)(K:Q0):=aI P0 31 [v0] w λt7 w1=>dY 95 zL0 w1 λt5 w2=>stW 3 t5 t7 w2 λw3=>aZ 0 t5 λt8=>ldW false 1 t8 w3 λt9=>aU .eql t9 (i64 4) λt10=>GdW (isB t10 true) [undef] w3 (λJ4=>aZ 1 t5 λt13=>ldW false 1 t13 w3 λt14=>aI P0 117 [v1,t14] w3 λt15 w5=>J4 [t15] w5) λs4 _ w6=>eO t10 (s4.getD 0 undef) (.bool false) λt16=>K t16 w6
theorem Wh{K:Q0}(h:W65 v0 v1 w K):aI P0 65 [v0,v1] w K:=
 tie _ 65 Tryz.f65 UE _ w K 2 _ rfl mixed Tryz.func65 (by kernel_rfl) (by kernel_rfl) Tryz.call65 h
def UD:eH:={js:=[(0,⟨[],[],4⟩)],ds:=[]}
def W66(v0 v1 v2 v3:Value)(w:World)(K:Q0):=cX (λJ1=>dV v0 λt10=>aZ 4 t10 λt11=>ldW false 1 t11 w λt12=>aU .eql t12 (i64 24) λt13=>bB t13 (aI P0 33 [(i64 7),v1] w λt15 w2=>J1 [] w2) (J1 [] w)) λs1 _ w3=>dV v0 λt17=>aZ 5 t17 λt18=>ldW false 1 t18 w3 λt19=>dV v0 λt21=>aZ 4 t21 λt22=>ldW false 1 t22 w3 λt23=>aU .add t23 (i64 1) λt24=>dV v0 λt25=>aZ 4 t25 λt26=>stW 1 t26 t24 w3 λw4=>dV v0 λt29=>aZ 5 t29 λt30=>stW 1 t30 v2 w4 λw5=>mY P0 v3 [] w5 λt32 w6=>dV v0 λt34=>aZ 4 t34 λt35=>ldW false 1 t35 w6 λt36=>aU .sub t36 (i64 1) λt37=>dV v0 λt38=>aZ 4 t38 λt39=>stW 1 t39 t37 w6 λw7=>dV v0 λt42=>aZ 5 t42 λt43=>stW 1 t43 t19 w7 λw8=>K (.tuple #[]) w8
theorem Wg{K:Q0}(h:W66 v0 v1 v2 v3 w K):aI P0 66 [v0,v1,v2,v3] w K:=
 tie _ 66 Tryz.f66 UD _ w K 4 _ rfl mixed Tryz.func66 (by kernel_rfl) (by kernel_rfl) Tryz.call66 h
def UC:eH:={js:=[(15,⟨[],[],2⟩),(17005,⟨[24],[],21⟩),(5,⟨[],[],2⟩)],ds:=[]}
def W67(v0 v1:Value)(w:World)(K:Q0):=ldW false 1 v0 w λt2=>dV t2 λt3=>aZ 1 t3 λt4=>ldW false 1 t4 w λt5=>aU .add t5 (i64 1) λt6=>dV t2 λt7=>aZ 1 t7 λt8=>stW 1 t8 t6 w λw1=>ldW false 1 v0 w1 λt9=>aI P0 30 [t9] w1 λt10 w2=>eJ [] w2 λs3 _ w4 L3=>ldW false 1 v0 w4 λt11=>aI P0 68 [t11,(str [125])] w4 λt12 w5=>unW .not t12 λt13=>bB t13 (ldW false 1 v0 w5 λt14=>aI P0 69 [t14,v1] w5 λt15 w6=>cX (λJ7=>ldW false 1 v0 w6 λt16=>aI P0 31 [t16] w6 λt17 w8=>mV false 0 1 t17 λt18=>aU .neq t18 (i64 5) λt19=>GdW (isB t19 true) [undef] w8 (λJ9=>ldW false 1 v0 w8 λt21=>fV 9 1 [(str [])] [(0,1,(str [125]))] w8 λt22 w10=>aI P0 65 [t21,t22] w10 λt23 w11=>unW .not t23 λt24=>J9 [t24] w11) λs9 _ w12=>eO t19 (s9.getD 0 undef) (.bool false) λt25=>bB t25 (ldW false 1 v0 w12 λt26=>aI P0 31 [t26] w12 λt27 w13=>mV false 2 1 t27 λt28=>aI P0 33 [(i64 50),t28] w13 λt29 w14=>J7 [] w14) (J7 [] w12)) λs7 _ w15=>ldW false 1 v0 w15 λt30=>aI P0 30 [t30] w15 λt31 w16=>L3 [] w16) (K (.tuple #[]) w5)
theorem We{K:Q0}(h:W67 v0 v1 w K):aI P0 67 [v0,v1] w K:=
 tie _ 67 Tryz.f67 UC _ w K 2 _ rfl mixed Tryz.func67 (by kernel_rfl) (by kernel_rfl) Tryz.call67 h
def UB:eH:={js:=[],ds:=[]}
def W68(v0 v1:Value)(w:World)(K:Q0):=fV 9 1 [(str [])] [(0,1,v1)] w λt7 w1=>aI P0 65 [v0,t7] w1 λt8 w2=>unW .not t8 λt9=>bB t9 (K (.bool false) w2) (dV v0 λt11=>aZ 1 t11 λt12=>ldW false 1 t12 w2 λt13=>aU .add t13 (i64 1) λt14=>dV v0 λt15=>aZ 1 t15 λt16=>stW 1 t16 t14 w2 λw3=>K (.bool true) w3)
theorem Wd{K:Q0}(h:W68 v0 v1 w K):aI P0 68 [v0,v1] w K:=
 tie _ 68 Tryz.f68 UB _ w K 2 _ rfl mixed Tryz.func68 (by kernel_rfl) (by kernel_rfl) Tryz.call68 h
def UA:eH:={js:=[],ds:=[(12,⟨[0,1,2,3,4,5,9,10],[[],[],[1],[1,2],[1,2,3],[],[5],[5,6],[1,2,3,4,5,6,7],[0,1,2,3,4,5,6,7,8],[0,1,2,3,4,5,6,7,8,9],[0,1,2,3,4,5,6,7,8,9,10]]⟩),(7,⟨[0,1,2,3,4,5,6,7,9,10,11,14,15],[[],[],[1],[1,2],[1,2,3],[],[5],[],[7],[],[9],[5,6,7,8,9,10],[5,6,7,8,9,10,11],[1,2,3,4,5,6,7,8,9,10,11,12],[0,1,2,3,4,5,6,7,8,9,10,11,12,13],[0,1,2,3,4,5,6,7,8,9,10,11,12,13,14],[0,1,2,3,4,5,6,7,8,9,10,11,12,13,14,15]]⟩)]}
def W69(v0 v1:Value)(w:World)(K:Q0):=aI P0 62 [v0,(i64 1)] w λt6 w1=>dY 95 zL0 w1 λt4 w2=>stW 3 t4 t6 w2 λw3=>aI P0 68 [v0,(str [61])] w3 λt8 w4=>bB t8 (dV v1 λt11=>aZ 2 t11 λt12=>ldW false 1 t12 w4.drew λt13=>aZ 1 t4 λt14=>ldW false 1 t14 w4.drew λt15=>aZ 2 t4 λt18=>ldW false 1 t18 w4.drew λt19=>aI P0 118 [v0] w4.drew λt17 w5=>(ldW false 1 t18 w5 λx=>x=t19)/\(ldW false 1 t14 w5 λx=>x=t15)/\(ldW false 1 t12 w5 λx=>x=t13)/\iX [(str []),(i64 0),(i64 0)] [(0,1,t15),(1,1,t17),(2,1,t19)] λc6=>fV 40 1 [(str []),(i64 0),(i64 0)] [(0,3,(.agg c6.toArray))] w5 λt21 w7=>(ldW false 1 t12 w7 λx=>x=t13)/\fH P0 (Builtin.append_ #[36,36] 36 #[t13,t21]) w7 λt22 w8=>dV v1 λt23=>aZ 2 t23 λt24=>stW 1 t24 t22 w8 λw9=>K (.tuple #[]) w9) (dV v0 λt26=>aZ 1 t26 λt27=>ldW false 1 t27 w4 λt28=>aU .sub t28 (i64 1) λt29=>dV v0 λt30=>aZ 1 t30 λt31=>stW 1 t31 t29 w4 λw10=>dV v1 λt34=>aZ 3 t34 λt35=>ldW false 1 t35 w10.drew λt36=>aI P0 32 [v0] w10.drew λt38 w11=>(ldW false 1 t35 w11 λx=>x=t36)/\fV 3 1 [(i64 0)] [(0,1,t38)] w11 λt39 w12=>(ldW false 1 t35 w12 λx=>x=t36)/\fH P0 (Builtin.append_ #[26,26] 26 #[t36,t39]) w12 λt40 w13=>dV v1 λt41=>aZ 3 t41 λt42=>stW 1 t42 t40 w13 λw14=>K (.tuple #[]) w14)
theorem Wc{K:Q0}(h:W69 v0 v1 w K):aI P0 69 [v0,v1] w K:=
 tie _ 69 Tryz.f69 UA _ w K 2 _ rfl mixed Tryz.func69 (by kernel_rfl) (by kernel_rfl) Tryz.call69 h
def PL:eH:={js:=[(13,⟨[4],[],1⟩),(6,⟨[4],[],1⟩)],ds:=[]}
def Zp(v0:Value)(w:World)(K:Q0):=eJ [(i64 0)] w λs1 _ w2 L1=>jM v0 λt7=>aU .lss (s1.getD 0 undef) t7 λt8=>bB t8 (cX (λJ3=>mX v0 (s1.getD 0 undef) λt13=>aU .eql t13 (.int .u8 92) λt14=>bB t14 (aU .add (s1.getD 0 undef) (i64 1) λt16=>J3 [t16] w2) (oK v0 (some (s1.getD 0 undef)) none λt19=>aI P0 59 [t19,(str [36,123])] w2 λt20 w4=>bB t20 (aU .add (s1.getD 0 undef) (i64 1) λt23=>aU .add (s1.getD 0 undef) (i64 1) λt26=>oK v0 (some t26) none λt27=>aI P0 153 [t27] w4 λt28 w5=>aU .add t23 t28 λt29=>K (.tuple #[(s1.getD 0 undef),t29]) w5) (J3 [(s1.getD 0 undef)] w4))) λs3 _ w6=>aU .add (s3.getD 0 undef) (i64 1) λt10=>L1 [t10] w6) (K (.tuple #[(.int .i64 (-1)),(i64 0)]) w2)
theorem SV{K:Q0}(h:Zp v0 w K):aI P0 115 [v0] w K:=
 tie _ 115 Tryz.f115 PL _ w K 1 _ rfl mixed Tryz.func115 (by kernel_rfl) (by kernel_rfl) Tryz.call115 h
def PK:eH:={js:=[(19,⟨[4,5],[],4⟩),(8,⟨[4],[],4⟩)],ds:=[]}
def Zo(v0:Value)(w:World)(K:Q0):=dY 114 [(.pointer none),sN] w λt3 w1=>eJ [(i64 0)] w1 λs2 _ w3 L2=>jM v0 λt8=>aU .lss (s2.getD 0 undef) t8 λt9=>bB t9 (mX v0 (s2.getD 0 undef) λt14=>cX (λJ4=>aU .eql t14 (.int .u8 92) λt16=>bB t16 (aU .add (s2.getD 0 undef) (i64 1) λt18=>mX v0 t18 λt21=>aU .eql t21 (.int .u8 110) λt24=>bB t24 (J4 [t18,(.int .u8 10)] w3) (aU .eql t21 (.int .u8 116) λt26=>bB t26 (J4 [t18,(.int .u8 9)] w3) (aU .eql t21 (.int .u8 114) λt28=>bB t28 (J4 [t18,(.int .u8 13)] w3) (J4 [t18,t21] w3)))) (J4 [(s2.getD 0 undef),t14] w3)) λs4 _ w5=>aI P0 126 [t3,(s4.getD 1 undef)] w5 λt30 w6=>aU .add (s4.getD 0 undef) (i64 1) λt11=>L2 [t11] w6) (aI P0 44 [t3] w3 λt31 w7=>K t31 w7)
theorem SU{K:Q0}(h:Zo v0 w K):aI P0 116 [v0] w K:=
 tie _ 116 Tryz.f116 PK _ w K 1 _ rfl mixed Tryz.func116 (by kernel_rfl) (by kernel_rfl) Tryz.call116 h
def PH:eH:={js:=[],ds:=[(17,⟨[0,1,2,3,4,5,6,7],[[],[],[1],[],[3],[3,4],[3,4,5],[],[0,1,2,3,4,5,6,7]]⟩)]}
def Zm(v0:Value)(w:World)(K:Q0):=jI 89 v0 w λt1 w1=>ldW false 1 t1 w1 λt6=>aI P0 155 [t6,(i64 0)] w1 λt7 w2=>ldW false 1 t1 w2 λt8=>aI P0 31 [t8] w2 λt9 w3=>dY 95 zL0 w3 λt4 w4=>stW 3 t4 t9 w4 λw5=>ldW false 1 t1 w5 λt10=>aI P0 68 [t10,(str [63])] w5 λt11 w6=>unW .not t11 λt12=>bB t12 (K t7 w6) (fV 3 3 [(i64 0),(i64 0),(i64 0)] [(0,1,t7),(1,1,(i64 0)),(2,1,(i64 0))] w6 λt15 w7=>dY 26 [sN] w7 λt5 w8=>stW 1 t5 t15 w8 λw9=>ldW false 1 t1 w9.drew λt16=>aZ 2 t4 λt17=>ldW false 1 t17 w9.drew λt18=>ldW false 1 t1 w9.drew λt19=>dV t19 λt20=>aZ 5 t20 λt21=>ldW false 1 t21 w9.drew λt22=>aI P0 66 [t16,t18,t22,(.func (.func 156) #[] #[t1,t5])] w9.drew λt24 w10=>ldW false 1 t1 w10 λt25=>ldW false 1 t5 w10 λt26=>aZ 2 t4 λt27=>ldW false 1 t27 w10 λt28=>iX [(i64 0),(str []),sN,sN,(i64 0)] [(0,1,(i64 28)),(2,1,t26),(4,1,t28)] λc11=>aI P0 158 [t25,(.agg c11.toArray)] w10 λt30 w12=>K t30 w12)
theorem SR{K:Q0}(h:Zm v0 w K):aI P0 118 [v0] w K:=
 tie _ 118 Tryz.f118 PH _ w K 1 _ rfl mixed Tryz.func118 (by kernel_rfl) (by kernel_rfl) Tryz.call118 h
def Pk:eH:={js:=[(15,⟨[3,4],[],1⟩),(8,⟨[3,4],[],1⟩)],ds:=[]}
def YR(v0:Value)(w:World)(K:Q0):=eJ [(i64 0),(i64 0)] w λs1 _ w2 L1=>jM v0 λt7=>aU .lss (s1.getD 1 undef) t7 λt8=>bB t8 (cX (λJ3=>mX v0 (s1.getD 1 undef) λt13=>aU .eql t13 (.int .u8 123) λt15=>bB t15 (aU .add (s1.getD 0 undef) (i64 1) λt17=>J3 [t17,(s1.getD 1 undef)] w2) (aU .eql t13 (.int .u8 125) λt19=>bB t19 (aU .sub (s1.getD 0 undef) (i64 1) λt21=>aU .eql t21 (i64 0) λt23=>bB t23 (aU .add (s1.getD 1 undef) (i64 1) λt25=>K t25 w2) (J3 [t21,(s1.getD 1 undef)] w2)) (aU .eql t13 (.int .u8 34) λt27=>bB t27 (oK v0 (some (s1.getD 1 undef)) none λt31=>aI P0 202 [t31] w2 λt32 w4=>aU .sub t32 (i64 1) λt33=>aU .add (s1.getD 1 undef) t33 λt34=>J3 [(s1.getD 0 undef),t34] w4) (J3 [(s1.getD 0 undef),(s1.getD 1 undef)] w2)))) λs3 _ w5=>aU .add (s3.getD 1 undef) (i64 1) λt10=>L1 [(s3.getD 0 undef),t10] w5) (jM v0 λt36=>K t36 w2)
theorem Sv{K:Q0}(h:YR v0 w K):aI P0 153 [v0] w K:=
 tie _ 153 Tryz.f153 Pk _ w K 1 _ rfl mixed Tryz.func153 (by kernel_rfl) (by kernel_rfl) Tryz.call153 h
def Pi:eH:={js:=[(13,⟨[5],[],2⟩)],ds:=[]}
def WM(v0 v1:Value)(w:World)(K:Q0):=aU .eql v1 (i64 6) λt10=>bB t10 (aI P0 203 [v0] w λt12 w1=>K t12 w1) (aU .add v1 (i64 1) λt15=>aI P0 155 [v0,t15] w λt16 w2=>eJ [t16] w2 λs3 _ w4 L3=>aI P0 31 [v0] w4 λt18 w5=>dY 95 zL0 w5 λt6 w6=>stW 3 t6 t18 w6 λw7=>ldW true 3 t6 w7 λt19=>aI P0 204 [t19,v1] w7 λt21 w8=>aU .eql t21 (i64 0) λt23=>bB t23 (K (s3.getD 0 undef) w8) (dV v0 λt26=>aZ 1 t26 λt27=>ldW false 1 t27 w8 λt28=>aU .add t28 (i64 1) λt29=>dV v0 λt30=>aZ 1 t30 λt31=>stW 1 t31 t29 w8 λw9=>aU .add v1 (i64 1) λt34=>aI P0 155 [v0,t34] w9 λt35 w10=>fV 3 2 [(i64 0),(i64 0)] [(0,1,(s3.getD 0 undef)),(1,1,t35)] w10 λt40 w11=>aZ 2 t6 λt41=>ldW false 1 t41 w11 λt42=>iX [(i64 0),(str []),sN,sN,(i64 0)] [(0,1,t21),(2,1,t40),(4,1,t42)] λc12=>aI P0 158 [v0,(.agg c12.toArray)] w11 λt44 w13=>L3 [t44] w13))
theorem JP{K:Q0}(h:WM v0 v1 w K):aI P0 155 [v0,v1] w K:=
 tie _ 155 Tryz.f155 Pi _ w K 2 _ rfl mixed Tryz.func155 (by kernel_rfl) (by kernel_rfl) Tryz.call155 h
def Ph:eH:={js:=[],ds:=[(4,⟨[0,1,3],[[],[],[1],[0,1,2],[0,1,2,3]]⟩),(1,⟨[0,1,3],[[],[],[1],[0,1,2],[0,1,2,3]]⟩)]}
def YP(v0 v1:Value)(w:World)(K:Q0):=ldW false 1 v1 w.drew λt2=>ldW false 1 v0 w.drew λt3=>aI P0 118 [t3] w.drew λt4 w1=>(ldW false 1 v1 w1 λx=>x=t2)/\iN none 1 t2 (i64 1) λt5=>stW 1 t5 t4 w1 λw2=>ldW false 1 v0 w2 λt6=>aI P0 157 [t6,(str [58])] w2 λt7 w3=>ldW false 1 v1 w3.drew λt8=>ldW false 1 v0 w3.drew λt9=>aI P0 118 [t9] w3.drew λt10 w4=>(ldW false 1 v1 w4 λx=>x=t8)/\iN none 1 t8 (i64 2) λt11=>stW 1 t11 t10 w4 λw5=>K (.tuple #[]) w5
theorem Ss{K:Q0}(h:YP v0 v1 w K):aI P0 156 [v0,v1] w K:=
 tie _ 156 Tryz.f156 Ph _ w K 2 _ rfl mixed Tryz.func156 (by kernel_rfl) (by kernel_rfl) Tryz.call156 h
def Pg:eH:={js:=[],ds:=[]}
def YO(v0 v1:Value)(w:World)(K:Q0):=aI P0 68 [v0,v1] w λt6 w1=>unW .not t6 λt7=>bB t7 (aI P0 31 [v0] w1 λt9 w2=>mV false 2 1 t9 λt10=>aI P0 33 [(i64 50),t10] w2 λt11 w3=>K (.tuple #[]) w3) (K (.tuple #[]) w1)
theorem Sr{K:Q0}(h:YO v0 v1 w K):aI P0 157 [v0,v1] w K:=
 tie _ 157 Tryz.f157 Pg _ w K 2 _ rfl mixed Tryz.func157 (by kernel_rfl) (by kernel_rfl) Tryz.call157 h
def Pf:eH:={js:=[],ds:=[(3,⟨[0,1,2,3,4,5,6,7,8,9,10,11,14,15],[[],[0],[0,1],[0,1,2],[],[4],[4,5],[4,5,6],[4,5,6,7],[4,5,6,7,8],[4,5,6,7,8,9],[],[11],[4,5,6,7,8,9,10,11,12],[0,1,2,3,4,5,6,7,8,9,10,11,12,13],[0,1,2,3,4,5,6,7,8,9,10,11,12,13,14],[0,1,2,3,4,5,6,7,8,9,10,11,12,13,14,15]]⟩)]}
def YN(v0 v1:Value)(w:World)(K:Q0):=jI 35 v1 w λt3 w1=>dV v0 λt6=>aZ 3 t6 λt7=>ldW false 1 t7 w1.drew λt8=>dV v0 λt10=>aZ 3 t10 λt11=>ldW false 1 t11 w1.drew λt12=>dV t12 λt13=>aZ 0 t13 λt14=>ldW false 1 t14 w1.drew λt15=>ldW true 5 t3 w1.drew λt16=>fV 35 1 [(i64 0),(str []),sN,sN,(i64 0)] [(0,5,t16)] w1.drew λt17 w2=>(ldW false 1 t14 w2 λx=>x=t15)/\(ldW false 1 t11 w2 λx=>x=t12)/\(ldW false 1 t7 w2 λx=>x=t8)/\fH P0 (Builtin.append_ #[24,24] 24 #[t15,t17]) w2 λt18 w3=>(ldW false 1 t7 w3 λx=>x=t8)/\dV t8 λt19=>aZ 0 t19 λt20=>stW 1 t20 t18 w3 λw4=>dV v0 λt22=>aZ 3 t22 λt23=>ldW false 1 t23 w4 λt24=>dV t24 λt25=>aZ 0 t25 λt26=>ldW false 1 t26 w4 λt27=>jN t27 λt28=>aU .sub t28 (i64 1) λt29=>K t29 w4
theorem Sq{K:Q0}(h:YN v0 v1 w K):aI P0 158 [v0,v1] w K:=
 tie _ 158 Tryz.f158 Pf _ w K 2 _ rfl mixed Tryz.func158 (by kernel_rfl) (by kernel_rfl) Tryz.call158 h
def OH:eH:={js:=[(13,⟨[3],[],1⟩),(6,⟨[3],[],1⟩)],ds:=[]}
def Yr(v0:Value)(w:World)(K:Q0):=eJ [(i64 1)] w λs1 _ w2 L1=>jM v0 λt6=>aU .lss (s1.getD 0 undef) t6 λt7=>bB t7 (cX (λJ3=>mX v0 (s1.getD 0 undef) λt13=>aU .eql t13 (.int .u8 34) λt14=>bB t14 (aU .add (s1.getD 0 undef) (i64 1) λt16=>K t16 w2) (mX v0 (s1.getD 0 undef) λt20=>aU .eql t20 (.int .u8 92) λt21=>bB t21 (aU .add (s1.getD 0 undef) (i64 1) λt23=>J3 [t23] w2) (oK v0 (some (s1.getD 0 undef)) none λt27=>aI P0 59 [t27,(str [36,123])] w2 λt28 w4=>bB t28 (aU .add (s1.getD 0 undef) (i64 1) λt32=>oK v0 (some t32) none λt33=>aI P0 153 [t33] w4 λt34 w5=>aU .add (s1.getD 0 undef) t34 λt35=>J3 [t35] w5) (J3 [(s1.getD 0 undef)] w4)))) λs3 _ w6=>aU .add (s3.getD 0 undef) (i64 1) λt9=>L1 [t9] w6) (jM v0 λt37=>K t37 w2)
theorem RN{K:Q0}(h:Yr v0 w K):aI P0 202 [v0] w K:=
 tie _ 202 Tryz.f202 OH _ w K 1 _ rfl mixed Tryz.func202 (by kernel_rfl) (by kernel_rfl) Tryz.call202 h
def OG:eH:={js:=[(8,⟨[4],[],4⟩)],ds:=[(30,⟨[0,1,2,3,4,5,6,7],[[],[],[1],[],[3],[3,4],[3,4,5],[],[0,1,2,3,4,5,6,7]]⟩)]}
def Yq(v0:Value)(w:World)(K:Q0):=jI 89 v0 w λt1 w1=>ldW false 1 t1 w1 λt6=>aI P0 31 [t6] w1 λt7 w2=>dY 95 zL0 w2 λt3 w3=>stW 3 t3 t7 w3 λw4=>cX (λJ5=>ldW false 1 t1 w4 λt9=>fV 9 1 [(str [])] [(0,1,(str [33]))] w4 λt10 w6=>aI P0 65 [t9,t10] w6 λt11 w7=>bB t11 (J5 [(i64 14)] w7) (ldW false 1 t1 w7 λt13=>fV 9 1 [(str [])] [(0,1,(str [45]))] w7 λt14 w8=>aI P0 65 [t13,t14] w8 λt15 w9=>bB t15 (J5 [(i64 13)] w9) (ldW false 1 t1 w9 λt33=>aI P0 220 [t33] w9 λt34 w10=>K t34 w10))) λs5 _ w11=>dY 3 [(i64 0)] w11 λt5 w12=>stW 1 t5 (i64 0) w12 λw13=>ldW false 1 t1 w13.drew λt16=>aZ 2 t3 λt17=>ldW false 1 t17 w13.drew λt18=>ldW false 1 t1 w13.drew λt19=>dV t19 λt20=>aZ 5 t20 λt21=>ldW false 1 t21 w13.drew λt22=>aI P0 66 [t16,t18,t22,(.func (.func 219) #[] #[t1,t5])] w13.drew λt24 w14=>ldW false 1 t1 w14 λt25=>ldW false 1 t5 w14 λt27=>fV 3 1 [(i64 0)] [(0,1,t27)] w14 λt28 w15=>aZ 2 t3 λt29=>ldW false 1 t29 w15 λt30=>iX [(i64 0),(str []),sN,sN,(i64 0)] [(0,1,(s5.getD 0 undef)),(2,1,t28),(4,1,t30)] λc16=>aI P0 158 [t25,(.agg c16.toArray)] w15 λt32 w17=>K t32 w17
theorem RJ{K:Q0}(h:Yq v0 w K):aI P0 203 [v0] w K:=
 tie _ 203 Tryz.f203 OG _ w K 1 _ rfl mixed Tryz.func203 (by kernel_rfl) (by kernel_rfl) Tryz.call203 h
def OF:eH:={js:=[],ds:=[]}
def Yp(v0 v1:Value)(w:World)(K:Q0):=jI 95 v0 w λt2 w1=>aZ 0 t2 λt5=>ldW false 1 t5 w1 λt6=>aU .neq t6 (i64 4) λt7=>bB t7 (K (i64 0) w1) (aU .mul v1 (i64 100) λt9=>fV 9 13 (List.replicate 13 (str [])) [(0,1,(str [124,124])),(1,1,(str [38,38])),(2,1,(str [61,61])),(3,1,(str [33,61])),(4,1,(str [60])),(5,1,(str [62])),(6,1,(str [60,61])),(7,1,(str [62,61])),(8,1,(str [43])),(9,1,(str [45])),(10,1,(str [42])),(11,1,(str [47])),(12,1,(str [37]))] w1 λt10 w2=>aZ 1 t2 λt11=>ldW false 1 t11 w2 λt12=>aI P0 154 [t10,t12] w2 λt13 w3=>aU .add t9 t13 λt14=>aU .eql t14 (i64 0) λt16=>bB t16 (K (i64 27) w3) (aU .eql t14 (i64 101) λt18=>bB t18 (K (i64 26) w3) (aU .eql t14 (i64 202) λt20=>bB t20 (K (i64 20) w3) (aU .eql t14 (i64 203) λt22=>bB t22 (K (i64 21) w3) (aU .eql t14 (i64 304) λt24=>bB t24 (K (i64 22) w3) (aU .eql t14 (i64 305) λt26=>bB t26 (K (i64 23) w3) (aU .eql t14 (i64 306) λt28=>bB t28 (K (i64 24) w3) (aU .eql t14 (i64 307) λt30=>bB t30 (K (i64 25) w3) (aU .eql t14 (i64 408) λt32=>bB t32 (K (i64 15) w3) (aU .eql t14 (i64 409) λt34=>bB t34 (K (i64 16) w3) (aU .eql t14 (i64 510) λt36=>bB t36 (K (i64 17) w3) (aU .eql t14 (i64 511) λt38=>bB t38 (K (i64 18) w3) (aU .eql t14 (i64 512) λt40=>bB t40 (K (i64 19) w3) (K (i64 0) w3))))))))))))))
theorem RI{K:Q0}(h:Yp v0 v1 w K):aI P0 204 [v0,v1] w K:=
 tie _ 204 Tryz.f204 OF _ w K 2 _ rfl mixed Tryz.func204 (by kernel_rfl) (by kernel_rfl) Tryz.call204 h
def Oz:eH:={js:=[],ds:=[]}
def Yj(v0 v1:Value)(w:World)(K:Q0):=ldW false 1 v0 w λt2=>dV t2 λt3=>aZ 1 t3 λt4=>ldW false 1 t4 w λt5=>aU .add t5 (i64 1) λt6=>dV t2 λt7=>aZ 1 t7 λt8=>stW 1 t8 t6 w λw1=>ldW false 1 v0 w1 λt9=>aI P0 203 [t9] w1 λt10 w2=>stW 1 v1 t10 w2 λw3=>K (.tuple #[]) w3
theorem RA{K:Q0}(h:Yj v0 v1 w K):aI P0 219 [v0,v1] w K:=
 tie _ 219 Tryz.f219 Oz _ w K 2 _ rfl mixed Tryz.func219 (by kernel_rfl) (by kernel_rfl) Tryz.call219 h
def Oy:eH:={js:=[(5,⟨[3],[],2⟩)],ds:=[(31,⟨[0,1,3,6,7,8],[[],[],[1],[1,2],[],[4],[],[6],[1,2,3,4,5,6,7],[0,1,2,3,4,5,6,7,8],[0,1,2,3,4,5,6,7,8,9]]⟩),(13,⟨[0,1,3,6,7,8],[[],[],[1],[1,2],[],[4],[],[6],[1,2,3,4,5,6,7],[0,1,2,3,4,5,6,7,8],[0,1,2,3,4,5,6,7,8,9]]⟩)]}
def Yi(v0:Value)(w:World)(K:Q0):=jI 89 v0 w λt1 w1=>ldW false 1 t1 w1 λt7=>aI P0 226 [t7] w1 λt8 w2=>eJ [t8] w2 λs3 _ w4 L3=>ldW false 1 t1 w4 λt9=>aI P0 31 [t9] w4 λt10 w5=>dY 95 zL0 w5 λt4 w6=>stW 3 t4 t10 w6 λw7=>ldW false 1 t1 w7 λt13=>aI P0 68 [t13,(str [46])] w7 λt14 w8=>bB t14 (ldW false 1 t1 w8.drew λt15=>ldW false 1 t1 w8.drew λt16=>aZ 2 t4 λt21=>ldW false 1 t21 w8.drew λt22=>(aI P0 62 [t16,(i64 1)] w8.drew λt17 w9=>(ldW false 1 t21 w9 λx=>x=t22)/\(ldW false 1 t1 w9 λx=>x=t15)/\mV false 1 1 t17 λt18=>(ldW false 1 t21 w9 λx=>x=t22)/\(ldW false 1 t1 w9 λx=>x=t15)/\fV 3 1 [(i64 0)] [(0,1,(s3.getD 0 undef))] w9 λt20 w10=>(ldW false 1 t21 w10 λx=>x=t22)/\(ldW false 1 t1 w10 λx=>x=t15)/\iX [(i64 0),(str []),sN,sN,(i64 0)] [(0,1,(i64 10)),(1,1,t18),(2,1,t20),(4,1,t22)] λc11=>aI P0 158 [t15,(.agg c11.toArray)] w10 λt24 w12=>L3 [t24] w12)/\((ldW false 1 t21 w8.drew λx=>x=t22)/\(ldW false 1 t1 w8.drew λx=>x=t16)/\(ldW false 1 t1 w8.drew λx=>x=t15)/\(aI P0 62 [t16,(i64 1)] w8.drew λt17 w13=>(ldW false 1 t21 w13 λx=>x=t22)/\(ldW false 1 t1 w13 λx=>x=t15)/\mV false 1 1 t17 λt18=>fV 3 1 [(i64 0)] [(0,1,(s3.getD 0 undef))] w13 λt20 w14=>(ldW false 1 t21 w14 λx=>x=t22)/\(ldW false 1 t1 w14 λx=>x=t15)/\iX [(i64 0),(str []),sN,sN,(i64 0)] [(0,1,(i64 10)),(1,1,t18),(2,1,t20),(4,1,t22)] λc15=>aI P0 158 [t15,(.agg c15.toArray)] w14 λt24 w16=>L3 [t24] w16)/\(fV 3 1 [(i64 0)] [(0,1,(s3.getD 0 undef))] w8.drew λt20 w17=>(ldW false 1 t21 w17 λx=>x=t22)/\(ldW false 1 t1 w17 λx=>x=t16)/\(ldW false 1 t1 w17 λx=>x=t15)/\aI P0 62 [t16,(i64 1)] w17 λt17 w18=>(ldW false 1 t21 w18 λx=>x=t22)/\(ldW false 1 t1 w18 λx=>x=t15)/\mV false 1 1 t17 λt18=>iX [(i64 0),(str []),sN,sN,(i64 0)] [(0,1,(i64 10)),(1,1,t18),(2,1,t20),(4,1,t22)] λc19=>aI P0 158 [t15,(.agg c19.toArray)] w18 λt24 w20=>L3 [t24] w20))) (ldW false 1 t1 w8 λt26=>fV 9 1 [(str [])] [(0,1,(str [91]))] w8 λt27 w21=>aI P0 65 [t26,t27] w21 λt28 w22=>bB t28 (dY 3 [(i64 0)] w22 λt5 w23=>dY 4 [(.bool false)] w23 λt6 w24=>stW 1 t5 (i64 0) w24 λw25=>stW 1 t6 (.bool false) w25 λw26=>ldW false 1 t1 w26 λt29=>aZ 2 t4 λt30=>ldW false 1 t30 w26 λt31=>aI P0 66 [t29,t31,(.bool true),(.func (.func 227) #[] #[t1,t6,t5])] w26 λt33 w27=>ldW false 1 t6 w27 λt34=>unW .not t34 λt35=>bB t35 (ldW false 1 t1 w27 λt36=>ldW false 1 t5 w27 λt38=>fV 3 2 [(i64 0),(i64 0)] [(0,1,(s3.getD 0 undef)),(1,1,t38)] w27 λt39 w28=>aZ 2 t4 λt40=>ldW false 1 t40 w28 λt41=>iX [(i64 0),(str []),sN,sN,(i64 0)] [(0,1,(i64 11)),(2,1,t39),(4,1,t41)] λc29=>aI P0 158 [t36,(.agg c29.toArray)] w28 λt43 w30=>L3 [t43] w30) (ldW false 1 t1 w27 λt44=>aI P0 157 [t44,(str [46])] w27 λt45 w31=>ldW false 1 t1 w31.drew λt46=>ldW false 1 t1 w31.drew λt47=>aZ 2 t4 λt52=>ldW false 1 t52 w31.drew λt53=>(aI P0 62 [t47,(i64 1)] w31.drew λt48 w32=>(ldW false 1 t52 w32 λx=>x=t53)/\(ldW false 1 t1 w32 λx=>x=t46)/\mV false 1 1 t48 λt49=>(ldW false 1 t52 w32 λx=>x=t53)/\(ldW false 1 t1 w32 λx=>x=t46)/\fV 3 1 [(i64 0)] [(0,1,(s3.getD 0 undef))] w32 λt51 w33=>(ldW false 1 t52 w33 λx=>x=t53)/\(ldW false 1 t1 w33 λx=>x=t46)/\iX [(i64 0),(str []),sN,sN,(i64 0)] [(0,1,(i64 30)),(1,1,t49),(2,1,t51),(4,1,t53)] λc34=>aI P0 158 [t46,(.agg c34.toArray)] w33 λt55 w35=>L3 [t55] w35)/\((ldW false 1 t52 w31.drew λx=>x=t53)/\(ldW false 1 t1 w31.drew λx=>x=t47)/\(ldW false 1 t1 w31.drew λx=>x=t46)/\(aI P0 62 [t47,(i64 1)] w31.drew λt48 w36=>(ldW false 1 t52 w36 λx=>x=t53)/\(ldW false 1 t1 w36 λx=>x=t46)/\mV false 1 1 t48 λt49=>fV 3 1 [(i64 0)] [(0,1,(s3.getD 0 undef))] w36 λt51 w37=>(ldW false 1 t52 w37 λx=>x=t53)/\(ldW false 1 t1 w37 λx=>x=t46)/\iX [(i64 0),(str []),sN,sN,(i64 0)] [(0,1,(i64 30)),(1,1,t49),(2,1,t51),(4,1,t53)] λc38=>aI P0 158 [t46,(.agg c38.toArray)] w37 λt55 w39=>L3 [t55] w39)/\(fV 3 1 [(i64 0)] [(0,1,(s3.getD 0 undef))] w31.drew λt51 w40=>(ldW false 1 t52 w40 λx=>x=t53)/\(ldW false 1 t1 w40 λx=>x=t47)/\(ldW false 1 t1 w40 λx=>x=t46)/\aI P0 62 [t47,(i64 1)] w40 λt48 w41=>(ldW false 1 t52 w41 λx=>x=t53)/\(ldW false 1 t1 w41 λx=>x=t46)/\mV false 1 1 t48 λt49=>iX [(i64 0),(str []),sN,sN,(i64 0)] [(0,1,(i64 30)),(1,1,t49),(2,1,t51),(4,1,t53)] λc42=>aI P0 158 [t46,(.agg c42.toArray)] w41 λt55 w43=>L3 [t55] w43)))) (K (s3.getD 0 undef) w22))
theorem Rz{K:Q0}(h:Yi v0 w K):aI P0 220 [v0] w K:=
 tie _ 220 Tryz.f220 Oy _ w K 1 _ rfl mixed Tryz.func220 (by kernel_rfl) (by kernel_rfl) Tryz.call220 h
def Ox:eH:={js:=[(6,⟨[],[2],5⟩),(23005,⟨[50],[],48⟩)],ds:=[(43,⟨[0,1,3,4],[[],[],[1],[1,2],[],[0,1,2,3,4]]⟩),(42,⟨[0,1,2,4],[[],[0],[],[2],[0,1,2,3],[0,1,2,3,4]]⟩),(13,⟨[0,1,2,4],[[],[0],[],[2],[0,1,2,3],[0,1,2,3,4]]⟩)]}
def Yh(v0:Value)(w:World)(K:Q0):=jI 89 v0 w λt1 w1=>ldW false 1 t1 w1 λt6=>aI P0 31 [t6] w1 λt7 w2=>dY 95 zL0 w2 λt3 w3=>stW 3 t3 t7 w3 λw4=>aZ 2 t3 λt8=>ldW false 1 t8 w4 λt9=>iX [(i64 0),(str []),sN,sN,(i64 0)] [(4,1,t9)] λc5=>dY 35 zL1 w4 λt4 w6=>stW 5 t4 (.agg c5.toArray) w6 λw7=>cX (λJ8=>aZ 0 t3 λt15=>ldW false 1 t15 w7 λt16=>aU .eql t16 (i64 2) λt17=>bB t17 (ldW false 1 t1 w7 λt18=>dV t18 λt19=>aZ 1 t19 λt20=>ldW false 1 t20 w7 λt21=>aU .add t21 (i64 1) λt22=>dV t18 λt23=>aZ 1 t23 λt24=>stW 1 t24 t22 w7 λw9=>aZ 1 t3 λt25=>ldW false 1 t25 w9.drew λt26=>aZ 0 t4 λt27=>stW 1 t27 (i64 4) w9.drew λw10=>(ldW false 1 t25 w10 λx=>x=t26)/\aZ 1 t4 λt28=>stW 1 t28 t26 w10 λw11=>J8 [] w11) (aZ 0 t3 λt30=>ldW false 1 t30 w7 λt31=>aU .eql t31 (i64 3) λt32=>bB t32 (ldW false 1 t1 w7 λt33=>dV t33 λt34=>aZ 1 t34 λt35=>ldW false 1 t35 w7 λt36=>aU .add t36 (i64 1) λt37=>dV t33 λt38=>aZ 1 t38 λt39=>stW 1 t39 t37 w7 λw12=>ldW false 1 t1 w12 λt40=>ldW true 3 t3 w12 λt41=>aI P0 232 [t40,t41] w12 λt42 w13=>K t42 w13) (aZ 0 t3 λt44=>ldW false 1 t44 w7 λt45=>aU .eql t45 (i64 1) λt46=>GdW (isB t46 true) [undef] w7 (λJ14=>aZ 1 t3 λt48=>ldW false 1 t48 w7 λt49=>aU .neq t49 (str [102,111,114]) λt50=>J14 [t50] w7) λs14 _ w15=>eO t46 (s14.getD 0 undef) (.bool false) λt51=>bB t51 (ldW false 1 t1 w15 λt52=>dV t52 λt53=>aZ 1 t53 λt54=>ldW false 1 t54 w15 λt55=>aU .add t55 (i64 1) λt56=>dV t52 λt57=>aZ 1 t57 λt58=>stW 1 t58 t56 w15 λw16=>ldW false 1 t1 w16 λt59=>fV 9 1 [(str [])] [(0,1,(str [40]))] w16 λt60 w17=>aI P0 65 [t59,t60] w17 λt61 w18=>unW .not t61 λt62=>bB t62 (aZ 1 t3 λt63=>ldW false 1 t63 w18 λt64=>aI P0 233 [t64] w18 λt65 w19=>aZ 0 t4 λt66=>stW 1 t66 t65 w19 λw20=>aZ 0 t4 λt67=>ldW false 1 t67 w20 λt68=>aU .eql t68 (i64 9) λt69=>bB t69 (aZ 1 t3 λt70=>ldW false 1 t70 w20 λt71=>aZ 1 t4 λt72=>stW 1 t72 t71 w20 λw21=>J8 [] w21) (J8 [] w20)) (aZ 1 t3 λt73=>ldW false 1 t73 w18.drew λt74=>aZ 0 t4 λt75=>stW 1 t75 (i64 12) w18.drew λw22=>(ldW false 1 t73 w22 λx=>x=t74)/\aZ 1 t4 λt76=>stW 1 t76 t74 w22 λw23=>ldW false 1 t1 w23.drew λt77=>ldW false 1 t1 w23.drew λt78=>aI P0 31 [t78] w23.drew λt79 w24=>(ldW false 1 t1 w24 λx=>x=t77)/\mV false 2 1 t79 λt80=>aI P0 66 [t77,t80,(.bool true),(.func (.func 234) #[] #[t1,t4])] w24 λt82 w25=>J8 [] w25)) (ldW false 1 t1 w15 λt84=>fV 9 1 [(str [])] [(0,1,(str [40]))] w15 λt85 w26=>aI P0 65 [t84,t85] w26 λt86 w27=>bB t86 (dY 3 [(i64 0)] w27 λt5 w28=>stW 1 t5 (i64 0) w28 λw29=>ldW false 1 t1 w29 λt87=>aZ 2 t3 λt88=>ldW false 1 t88 w29 λt89=>aI P0 66 [t87,t89,(.bool true),(.func (.func 236) #[] #[t1,t5])] w29 λt91 w30=>ldW false 1 t5 w30 λt92=>K t92 w30) (ldW false 1 t1 w27 λt94=>fV 9 1 [(str [])] [(0,1,(str [91]))] w27 λt95 w31=>aI P0 65 [t94,t95] w31 λt96 w32=>bB t96 (ldW false 1 t1 w32 λt97=>aZ 2 t3 λt98=>ldW false 1 t98 w32 λt99=>aI P0 66 [t97,t99,(.bool true),(.func (.func 237) #[] #[t1,t3,t4])] w32 λt101 w33=>J8 [] w33) (ldW false 1 t1 w32 λt103=>fV 9 1 [(str [])] [(0,1,(str [123]))] w32 λt104 w34=>aI P0 65 [t103,t104] w34 λt105 w35=>bB t105 (ldW false 1 t1 w35 λt106=>aZ 2 t3 λt107=>ldW false 1 t107 w35 λt108=>aI P0 66 [t106,t108,(.bool false),(.func (.func 239) #[] #[t1,t3,t4])] w35 λt110 w36=>J8 [] w36) (aZ 2 t3 λt11=>ldW false 1 t11 w35 λt12=>aI P0 33 [(i64 50),t12] w35 λt13 w37=>J8 [] w37))))))) λs8 _ w38=>ldW false 1 t1 w38 λt111=>ldW true 5 t4 w38 λt112=>aI P0 158 [t111,t112] w38 λt113 w39=>K t113 w39
theorem Ry{K:Q0}(h:Yh v0 w K):aI P0 226 [v0] w K:=
 tie _ 226 Tryz.f226 Ox _ w K 1 _ rfl mixed Tryz.func226 (by kernel_rfl) (by kernel_rfl) Tryz.call226 h
def Ow:eH:={js:=[(2,⟨[],[],1⟩)],ds:=[]}
def Yg(v0 v1 v2:Value)(w:World)(K:Q0):=ldW false 1 v0 w λt3=>dV t3 λt4=>aZ 1 t4 λt5=>ldW false 1 t5 w λt6=>aU .add t6 (i64 1) λt7=>dV t3 λt8=>aZ 1 t8 λt9=>stW 1 t9 t7 w λw1=>cX (λJ2=>ldW false 1 v0 w1 λt10=>aI P0 68 [t10,(str [42])] w1 λt11 w3=>stW 1 v1 t11 w3 λw4=>ldW false 1 v1 w4 λt12=>unW .not t12 λt13=>bB t13 (ldW false 1 v0 w4 λt14=>aI P0 118 [t14] w4 λt15 w5=>stW 1 v2 t15 w5 λw6=>J2 [] w6) (J2 [] w4)) λs2 _ w7=>ldW false 1 v0 w7 λt16=>aI P0 157 [t16,(str [93])] w7 λt17 w8=>K (.tuple #[]) w8
theorem Rx{K:Q0}(h:Yg v0 v1 v2 w K):aI P0 227 [v0,v1,v2] w K:=
 tie _ 227 Tryz.f227 Ow _ w K 3 _ rfl mixed Tryz.func227 (by kernel_rfl) (by kernel_rfl) Tryz.call227 h
def Ov:eH:={js:=[(42,⟨[],[],12⟩),(34,⟨[],[],12⟩),(28,⟨[],[],12⟩),(18,⟨[],[],10⟩),(14,⟨[8,9],[],8⟩)],ds:=[(50,⟨[0,1,2,3,4,5],[[],[],[0,1],[],[],[3,4],[0,1,2],[0,1,2,3,4,5,6]]⟩),(39,⟨[0,1,2,3,4,5,7,8,12],[[],[0],[],[],[],[3,4],[3,4,5],[],[3,4,5,6,7],[2,3,4,5,6,7,8],[2,3,4,5,6,7,8,9],[0,1,2,3,4,5,6,7,8,9,10],[0,1,2,3,4,5,6,7,8,9,10,11],[0,1,2,3,4,5,6,7,8,9,10,11,12]]⟩),(32,⟨[0,1,2,3],[[],[0],[],[2],[0,1],[0,1,2,3,4]]⟩),(15,⟨[0,1,2,3,4],[[],[0],[],[2],[2,3],[],[],[0,1,5,6],[0,1,2,3,4,5,6,7]]⟩),(9,⟨[0,1,2,4,5,6,8],[[],[],[1],[1,2],[],[4],[1,2,3,4,5],[0,1,2,3,4,5,6],[0,1,2,3,4,5,6,7]]⟩)]}
def Yf(v0 v1:Value)(w:World)(K:Q0):=jI 89 v0 w λt2 w1=>jI 95 v1 w1 λt3 w2=>aZ 1 t3 λt13=>ldW false 1 t13 w2 λt14=>aI P0 115 [t14] w2 λt15 w3=>jC 0 t15 λt16=>jC 1 t15 λt17=>aU .lss t16 (i64 0) λt19=>bB t19 (ldW false 1 t2 w3.drew λt20=>aZ 1 t3 λt21=>ldW false 1 t21 w3.drew λt22=>aZ 2 t3 λt24=>ldW false 1 t24 w3.drew λt25=>aI P0 116 [t22] w3.drew λt23 w4=>(ldW false 1 t24 w4 λx=>x=t25)/\(ldW false 1 t2 w4 λx=>x=t20)/\iX [(i64 0),(str []),sN,sN,(i64 0)] [(0,1,(i64 5)),(1,1,t23),(4,1,t25)] λc5=>aI P0 158 [t20,(.agg c5.toArray)] w4 λt27 w6=>K t27 w6) (aZ 2 t3 λt28=>ldW false 1 t28 w3 λt29=>iX [(i64 0),(str []),sN,sN,(i64 0)] [(0,1,(i64 6)),(4,1,t29)] λc7=>dY 35 zL1 w3 λt7 w8=>stW 5 t7 (.agg c7.toArray) w8 λw9=>cX (λJ10=>aZ 1 t3 λt31=>ldW false 1 t31 w9.drew λt32=>aZ 2 t3 λt33=>ldW false 1 t33 w9.drew λt34=>aU .add t34 (i64 1) λt35=>(dY 9 [(str [])] w9.drew λt8 w11=>(ldW false 1 t33 w11 λx=>x=t34)/\(ldW false 1 t31 w11 λx=>x=t32)/\dY 3 [(i64 0)] w11 λt9 w12=>(ldW false 1 t33 w12 λx=>x=t34)/\(ldW false 1 t31 w12 λx=>x=t32)/\stW 1 t8 t32 w12 λw13=>(ldW false 1 t33 w13 λx=>x=t34)/\stW 1 t9 t35 w13 λw14=>J10 [t8,t9] w14)/\(dY 3 [(i64 0)] w9.drew λt9 w15=>(ldW false 1 t33 w15 λx=>x=t34)/\(ldW false 1 t31 w15 λx=>x=t32)/\dY 9 [(str [])] w15 λt8 w16=>(ldW false 1 t33 w16 λx=>x=t34)/\(ldW false 1 t31 w16 λx=>x=t32)/\stW 1 t8 t32 w16 λw17=>(ldW false 1 t33 w17 λx=>x=t34)/\stW 1 t9 t35 w17 λw18=>J10 [t8,t9] w18)) λs10 _ w19=>eJ [] w19 λs20 _ w21 L20=>ldW false 1 (s10.getD 0 undef) w21 λt36=>aU .neq t36 (str []) λt37=>bB t37 (ldW false 1 (s10.getD 0 undef) w21 λt39=>aI P0 115 [t39] w21 λt40 w22=>jC 0 t40 λt41=>jC 1 t40 λt42=>dY 3 [(i64 0)] w22 λt10 w23=>dY 3 [(i64 0)] w23 λt11 w24=>stW 1 t10 t41 w24 λw25=>stW 1 t11 t42 w25 λw26=>cX (λJ27=>ldW false 1 t10 w26 λt43=>aU .lss t43 (i64 0) λt44=>bB t44 (ldW false 1 (s10.getD 0 undef) w26.drew λt45=>jM t45 λt46=>ldW false 1 (s10.getD 0 undef) w26.drew λt47=>jM t47 λt48=>stW 1 t10 t46 w26.drew λw28=>(ldW false 1 (s10.getD 0 undef) w28 λx=>x=t47)/\stW 1 t11 t48 w28 λw29=>J27 [] w29) (J27 [] w26)) λs27 _ w30=>cX (λJ31=>ldW false 1 t10 w30 λt49=>aU .gtr t49 (i64 0) λt50=>bB t50 (aZ 2 t7 λt51=>ldW false 1 t51 w30.drew λt52=>ldW false 1 t2 w30.drew λt53=>ldW false 1 (s10.getD 0 undef) w30.drew λt54=>ldW false 1 t10 w30.drew λt55=>oK t54 none (some t55) λt56=>ldW false 1 (s10.getD 1 undef) w30.drew λt58=>aI P0 116 [t56] w30.drew λt57 w32=>(ldW false 1 (s10.getD 1 undef) w32 λx=>x=t58)/\(ldW false 1 t2 w32 λx=>x=t53)/\(ldW false 1 t51 w32 λx=>x=t52)/\iX [(i64 0),(str []),sN,sN,(i64 0)] [(0,1,(i64 5)),(1,1,t57),(4,1,t58)] λc33=>aI P0 158 [t53,(.agg c33.toArray)] w32 λt60 w34=>(ldW false 1 t51 w34 λx=>x=t52)/\fV 3 1 [(i64 0)] [(0,1,t60)] w34 λt61 w35=>(ldW false 1 t51 w35 λx=>x=t52)/\fH P0 (Builtin.append_ #[26,26] 26 #[t52,t61]) w35 λt62 w36=>aZ 2 t7 λt63=>stW 1 t63 t62 w36 λw37=>aZ 3 t7 λt64=>ldW false 1 t64 w37 λt65=>fV 9 1 [(str [])] [(0,1,(str [116]))] w37 λt66 w38=>fH P0 (Builtin.append_ #[33,33] 33 #[t65,t66]) w38 λt67 w39=>aZ 3 t7 λt68=>stW 1 t68 t67 w39 λw40=>J31 [] w40) (J31 [] w30)) λs31 _ w41=>cX (λJ42=>ldW false 1 t10 w41 λt69=>ldW false 1 t11 w41 λt70=>aU .lss t69 t70 λt71=>bB t71 (ldW false 1 t2 w41 λt72=>ldW false 1 (s10.getD 1 undef) w41 λt73=>ldW false 1 t10 w41 λt74=>aU .add t73 t74 λt75=>aI P0 66 [t72,t75,(.bool false),(.func (.func 256) #[] #[t7,t2,(s10.getD 0 undef),t10,t11,(s10.getD 1 undef)])] w41 λt77 w43=>aZ 3 t7 λt78=>ldW false 1 t78 w43 λt79=>fV 9 1 [(str [])] [(0,1,(str [101]))] w43 λt80 w44=>fH P0 (Builtin.append_ #[33,33] 33 #[t79,t80]) w44 λt81 w45=>aZ 3 t7 λt82=>stW 1 t82 t81 w45 λw46=>J42 [] w46) (J42 [] w41)) λs42 _ w47=>ldW false 1 (s10.getD 0 undef) w47.drew λt83=>ldW false 1 t11 w47.drew λt84=>oK t83 (some t84) none λt85=>ldW false 1 (s10.getD 1 undef) w47.drew λt86=>ldW false 1 t11 w47.drew λt87=>aU .add t86 t87 λt88=>stW 1 (s10.getD 0 undef) t85 w47.drew λw48=>(ldW false 1 t11 w48 λx=>x=t87)/\(ldW false 1 (s10.getD 1 undef) w48 λx=>x=t86)/\stW 1 (s10.getD 1 undef) t88 w48 λw49=>L20 [] w49) (ldW false 1 t2 w21 λt89=>ldW true 5 t7 w21 λt90=>aI P0 158 [t89,t90] w21 λt91 w50=>K t91 w50))
theorem Rw{K:Q0}(h:Yf v0 v1 w K):aI P0 232 [v0,v1] w K:=
 tie _ 232 Tryz.f232 Ov _ w K 2 _ rfl mixed Tryz.func232 (by kernel_rfl) (by kernel_rfl) Tryz.call232 h
def Ou:eH:={js:=[],ds:=[]}
def Ye(v0:Value)(w:World)(K:Q0):=aU .eql v0 (str [110,117,108,108]) λt5=>bB t5 (K (i64 1) w) (aU .eql v0 (str [116,114,117,101]) λt7=>bB t7 (K (i64 2) w) (aU .eql v0 (str [102,97,108,115,101]) λt9=>bB t9 (K (i64 3) w) (K (i64 9) w)))
theorem Rv{K:Q0}(h:Ye v0 w K):aI P0 233 [v0] w K:=
 tie _ 233 Tryz.f233 Ou _ w K 1 _ rfl mixed Tryz.func233 (by kernel_rfl) (by kernel_rfl) Tryz.call233 h
def Ot:eH:={js:=[],ds:=[]}
def Yd(v0 v1:Value)(w:World)(K:Q0):=ldW false 1 v0 w λt2=>dV t2 λt3=>aZ 1 t3 λt4=>ldW false 1 t4 w λt5=>aU .add t5 (i64 1) λt6=>dV t2 λt7=>aZ 1 t7 λt8=>stW 1 t8 t6 w λw1=>ldW false 1 v0 w1 λt9=>aI P0 235 [t9,(str [41])] w1 λt10 w2=>aZ 2 v1 λt11=>stW 1 t11 t10 w2 λw3=>K (.tuple #[]) w3
theorem Ru{K:Q0}(h:Yd v0 v1 w K):aI P0 234 [v0,v1] w K:=
 tie _ 234 Tryz.f234 Ot _ w K 2 _ rfl mixed Tryz.func234 (by kernel_rfl) (by kernel_rfl) Tryz.call234 h
def Oq:eH:={js:=[(14,⟨[],[],6⟩),(6,⟨[5],[],2⟩)],ds:=[]}
def Yc(v0 v1:Value)(w:World)(K:Q0):=eJ [sN] w λs1 _ w2 L1=>aI P0 68 [v0,v1] w2 λt8 w3=>unW .not t8 λt9=>bB t9 (cX (λJ4=>jN (s1.getD 0 undef) λt11=>aU .gtr t11 (i64 0) λt12=>bB t12 (aI P0 157 [v0,(str [44])] w3 λt14 w5=>aI P0 68 [v0,v1] w5 λt17 w6=>bB t17 (K (s1.getD 0 undef) w6) (J4 [] w6)) (J4 [] w3)) λs4 _ w7=>aI P0 118 [v0] w7 λt20 w8=>fV 3 1 [(i64 0)] [(0,1,t20)] w8 λt21 w9=>fH P0 (Builtin.append_ #[26,26] 26 #[(s1.getD 0 undef),t21]) w9 λt22 w10=>L1 [t22] w10) (K (s1.getD 0 undef) w3)
theorem Rt{K:Q0}(h:Yc v0 v1 w K):aI P0 235 [v0,v1] w K:=
 tie _ 235 Tryz.f235 Oq _ w K 2 _ rfl mixed Tryz.func235 (by kernel_rfl) (by kernel_rfl) Tryz.call235 h
def Oo:eH:={js:=[],ds:=[]}
def Yb(v0 v1:Value)(w:World)(K:Q0):=ldW false 1 v0 w λt2=>dV t2 λt3=>aZ 1 t3 λt4=>ldW false 1 t4 w λt5=>aU .add t5 (i64 1) λt6=>dV t2 λt7=>aZ 1 t7 λt8=>stW 1 t8 t6 w λw1=>ldW false 1 v0 w1 λt9=>aI P0 118 [t9] w1 λt10 w2=>stW 1 v1 t10 w2 λw3=>ldW false 1 v0 w3 λt11=>aI P0 157 [t11,(str [41])] w3 λt12 w4=>K (.tuple #[]) w4
theorem Rr{K:Q0}(h:Yb v0 v1 w K):aI P0 236 [v0,v1] w K:=
 tie _ 236 Tryz.f236 Oo _ w K 2 _ rfl mixed Tryz.func236 (by kernel_rfl) (by kernel_rfl) Tryz.call236 h
def On:eH:={js:=[],ds:=[]}
def Ya(v0 v1 v2:Value)(w:World)(K:Q0):=ldW false 1 v0 w λt3=>ldW true 3 v1 w λt4=>aI P0 238 [t3,t4] w λt5 w1=>stW 5 v2 t5 w1 λw2=>K (.tuple #[]) w2
theorem Rq{K:Q0}(h:Ya v0 v1 v2 w K):aI P0 237 [v0,v1,v2] w K:=
 tie _ 237 Tryz.f237 On _ w K 3 _ rfl mixed Tryz.func237 (by kernel_rfl) (by kernel_rfl) Tryz.call237 h
def Om:eH:={js:=[(18,⟨[],[],7⟩),(16,⟨[6],[],5⟩),(8004,⟨[23],[],21⟩)],ds:=[(31,⟨[0,1,2,6],[[],[0],[],[2],[2,3],[0,1,2,3,4],[0,1,2,3,4,5],[0,1,2,3,4,5,6]]⟩),(27,⟨[0,1,2,6],[[],[0],[],[2],[2,3],[0,1,2,3,4],[0,1,2,3,4,5],[0,1,2,3,4,5,6]]⟩),(17,⟨[0,2,3,4,5],[[],[0],[0,1],[],[3],[0,1,2,3,4],[],[0,1,2,3,4,5,6]]⟩),(11,⟨[0,2,3,4],[[],[0],[],[2],[0,1,2,3],[0,1,2,3,4]]⟩)]}
def XZ(v0 v1:Value)(w:World)(K:Q0):=jI 95 v1 w λt3 w1=>dY 35 zL1 w1 λt4 w2=>dV v0 λt9=>aZ 1 t9 λt10=>ldW false 1 t10 w2 λt11=>aU .add t11 (i64 1) λt12=>dV v0 λt13=>aZ 1 t13 λt14=>stW 1 t14 t12 w2 λw3=>aI P0 31 [v0] w3 λt16 w4=>dY 95 zL0 w4 λt5 w5=>stW 3 t5 t16 w5 λw6=>aZ 0 t5 λt17=>ldW false 1 t17 w6 λt18=>aU .neq t18 (i64 1) λt19=>GdW (isB t19 false) [undef] w6 (λJ7=>aZ 1 t5 λt21=>ldW false 1 t21 w6 λt22=>aU .neq t22 (str [102,111,114]) λt23=>J7 [t23] w6) λs7 _ w8=>eO t19 (.bool true) (s7.getD 0 undef) λt24=>bB t24 (aZ 2 t3 λt27=>ldW false 1 t27 w8.drew λt28=>aI P0 235 [v0,(str [93])] w8.drew λt26 w9=>(ldW false 1 t27 w9 λx=>x=t28)/\iX [(i64 0),(str []),sN,sN,(i64 0)] [(0,1,(i64 7)),(2,1,t26),(4,1,t28)] λc10=>stW 5 t4 (.agg c10.toArray) w9 λw11=>ldW true 5 t4 w11 λr12=>K r12 w11) (dV v0 λt31=>aZ 1 t31 λt32=>ldW false 1 t32 w8 λt33=>aU .add t33 (i64 1) λt34=>dV v0 λt35=>aZ 1 t35 λt36=>stW 1 t36 t34 w8 λw13=>cX (λJ14=>aZ 2 t3 λt40=>ldW false 1 t40 w13.drew λt41=>(aI P0 62 [v0,(i64 1)] w13.drew λt38 w15=>(ldW false 1 t40 w15 λx=>x=t41)/\mV false 1 1 t38 λt39=>iX [(i64 0),(str []),sN,sN,(i64 0)] [(0,1,(i64 29)),(1,1,t39),(4,1,t41)] λc16=>dY 35 zL1 w15 λt6 w17=>(ldW false 1 t40 w17 λx=>x=t41)/\stW 5 t6 (.agg c16.toArray) w17 λw18=>J14 [t6] w18)/\(dY 35 zL1 w13.drew λt6 w19=>(ldW false 1 t40 w19 λx=>x=t41)/\aI P0 62 [v0,(i64 1)] w19 λt38 w20=>(ldW false 1 t40 w20 λx=>x=t41)/\mV false 1 1 t38 λt39=>iX [(i64 0),(str []),sN,sN,(i64 0)] [(0,1,(i64 29)),(1,1,t39),(4,1,t41)] λc21=>stW 5 t6 (.agg c21.toArray) w20 λw22=>J14 [t6] w22)) λs14 _ w23=>cX (λJ24=>aI P0 62 [v0,(i64 1)] w23 λt44 w25=>dY 95 zL0 w25 λt7 w26=>stW 3 t7 t44 w26 λw27=>aZ 1 t7 λt45=>ldW false 1 t45 w27 λt46=>aU .neq t46 (str [105,110]) λt47=>bB t47 (aZ 2 t7 λt48=>ldW false 1 t48 w27 λt49=>aI P0 33 [(i64 50),t49] w27 λt50 w28=>J24 [] w28) (J24 [] w27)) λs24 _ w29=>aZ 2 (s14.getD 0 undef) λt51=>ldW false 1 t51 w29.drew λt52=>aI P0 118 [v0] w29.drew λt54 w30=>(ldW false 1 t51 w30 λx=>x=t52)/\fV 3 1 [(i64 0)] [(0,1,t54)] w30 λt55 w31=>(ldW false 1 t51 w31 λx=>x=t52)/\fH P0 (Builtin.append_ #[26,26] 26 #[t52,t55]) w31 λt56 w32=>aZ 2 (s14.getD 0 undef) λt57=>stW 1 t57 t56 w32 λw33=>aI P0 157 [v0,(str [58])] w33 λt59 w34=>aZ 2 (s14.getD 0 undef) λt60=>ldW false 1 t60 w34.drew λt61=>aI P0 118 [v0] w34.drew λt63 w35=>(ldW false 1 t60 w35 λx=>x=t61)/\fV 3 1 [(i64 0)] [(0,1,t63)] w35 λt64 w36=>(ldW false 1 t60 w36 λx=>x=t61)/\fH P0 (Builtin.append_ #[26,26] 26 #[t61,t64]) w36 λt65 w37=>aZ 2 (s14.getD 0 undef) λt66=>stW 1 t66 t65 w37 λw38=>aI P0 157 [v0,(str [93])] w38 λt68 w39=>ldW true 5 (s14.getD 0 undef) w39 λt69=>stW 5 t4 t69 w39 λw40=>ldW true 5 t4 w40 λr41=>K r41 w40)
theorem Rp{K:Q0}(h:XZ v0 v1 w K):aI P0 238 [v0,v1] w K:=
 tie _ 238 Tryz.f238 Om _ w K 2 _ rfl mixed Tryz.func238 (by kernel_rfl) (by kernel_rfl) Tryz.call238 h
def Ol:eH:={js:=[],ds:=[]}
def XY(v0 v1 v2:Value)(w:World)(K:Q0):=ldW false 1 v0 w λt3=>ldW true 3 v1 w λt4=>aI P0 240 [t3,t4] w λt5 w1=>stW 5 v2 t5 w1 λw2=>K (.tuple #[]) w2
theorem Rm{K:Q0}(h:XY v0 v1 v2 w K):aI P0 239 [v0,v1,v2] w K:=
 tie _ 239 Tryz.f239 Ol _ w K 3 _ rfl mixed Tryz.func239 (by kernel_rfl) (by kernel_rfl) Tryz.call239 h
def Oj:eH:={js:=[(43,⟨[],[],6⟩),(45005,⟨[74],[],71⟩),(45011,⟨[68],[],65⟩),(33,⟨[],[],7⟩),(20,⟨[],[],7⟩),(10,⟨[],[],6⟩)],ds:=[(42,⟨[0,1,2,3,6,7,8,12,14],[[],[0],[],[2],[2,3],[0,1,2,3,4],[],[6],[],[0,1,2,3,4,5,8],[0,1,2,3,4,5,8,9],[0,1,2,3,4,5,6,7,8,9,10],[0,1,2,3,4,5,6,7],[0,1,2,3,4,5,6,7,8,9,10,11,12],[0,1,2,3,4,5,6,7,8,9,10,11,12,13],[0,1,2,3,4,5,6,7,8,9,10,11,12,13,14]]⟩)]}
def XX(v0 v1:Value)(w:World)(K:Q0):=jI 95 v1 w λt3 w1=>dY 35 zL1 w1 λt4 w2=>dV v0 λt8=>aZ 1 t8 λt9=>ldW false 1 t9 w2 λt10=>aU .add t10 (i64 1) λt11=>dV v0 λt12=>aZ 1 t12 λt13=>stW 1 t13 t11 w2 λw3=>aZ 2 t3 λt14=>ldW false 1 t14 w3 λt15=>iX [(i64 0),(str []),sN,sN,(i64 0)] [(0,1,(i64 8)),(4,1,t15)] λc4=>dY 35 zL1 w3 λt5 w5=>stW 5 t5 (.agg c4.toArray) w5 λw6=>aI P0 30 [v0] w6 λt18 w7=>eJ [] w7 λs8 _ w9 L8=>aI P0 68 [v0,(str [125])] w9 λt20 w10=>unW .not t20 λt21=>bB t21 (aI P0 64 [v0] w10 λt23 w11=>dY 95 zL0 w11 λt6 w12=>stW 3 t6 t23 w12 λw13=>cX (λJ14=>aZ 0 t6 λt24=>ldW false 1 t24 w13 λt25=>aU .eql t25 (i64 3) λt30=>bB t30 (ldW true 3 t6 w13 λt32=>aI P0 63 [v0,t32] w13 λt33 w15=>aZ 1 t6 λt34=>stW 1 t34 t33 w15 λw16=>J14 [] w16) (aU .eql t25 (i64 1) λt36=>bB t36 (J14 [] w13) (aZ 2 t6 λt26=>ldW false 1 t26 w13 λt27=>aI P0 33 [(i64 50),t27] w13 λt28 w17=>J14 [] w17))) λs14 _ w18=>cX (λJ19=>aZ 3 t5 λt37=>ldW false 1 t37 w18 λt38=>aZ 1 t6 λt39=>ldW false 1 t39 w18 λt40=>aI P0 117 [t38,t40] w18 λt41 w20=>bB t41 (aZ 2 t6 λt42=>ldW false 1 t42 w20 λt43=>aI P0 33 [(i64 2),t43] w20 λt44 w21=>J19 [] w21) (J19 [] w20)) λs19 _ w22=>aI P0 157 [v0,(str [61])] w22 λt46 w23=>aZ 3 t5 λt47=>ldW false 1 t47 w23.drew λt48=>aZ 1 t6 λt49=>ldW false 1 t49 w23.drew λt50=>aZ 2 t5 λt53=>ldW false 1 t53 w23.drew λt54=>fV 9 1 [(str [])] [(0,1,t50)] w23.drew λt51 w24=>(ldW false 1 t53 w24 λx=>x=t54)/\(ldW false 1 t47 w24 λx=>x=t48)/\fH P0 (Builtin.append_ #[33,33] 33 #[t48,t51]) w24 λt52 w25=>(ldW false 1 t53 w25 λx=>x=t54)/\aZ 3 t5 λt59=>aI P0 118 [v0] w25 λt56 w26=>(ldW false 1 t53 w26 λx=>x=t54)/\fV 3 1 [(i64 0)] [(0,1,t56)] w26 λt57 w27=>(ldW false 1 t53 w27 λx=>x=t54)/\fH P0 (Builtin.append_ #[26,26] 26 #[t54,t57]) w27 λt58 w28=>stW 1 t59 t52 w28 λw29=>aZ 2 t5 λt60=>stW 1 t60 t58 w29 λw30=>cX (λJ31=>aI P0 68 [v0,(str [44])] w30 λt62 w32=>unW .not t62 λt63=>GdW (isB t63 true) [undef] w32 (λJ33=>aI P0 31 [v0] w32 λt66 w34=>mV false 0 1 t66 λt67=>aU .neq t67 (i64 5) λt68=>J33 [t68] w34) λs33 _ w35=>eO t63 (s33.getD 0 undef) (.bool false) λt69=>GdW (isB t69 true) [undef] w35 (λJ36=>fV 9 1 [(str [])] [(0,1,(str [125]))] w35 λt72 w37=>aI P0 65 [v0,t72] w37 λt73 w38=>unW .not t73 λt74=>J36 [t74] w38) λs36 _ w39=>eO t69 (s36.getD 0 undef) (.bool false) λt75=>bB t75 (aI P0 31 [v0] w39 λt77 w40=>mV false 2 1 t77 λt78=>aI P0 33 [(i64 50),t78] w40 λt79 w41=>J31 [] w41) (J31 [] w39)) λs31 _ w42=>aI P0 30 [v0] w42 λt81 w43=>L8 [] w43) (ldW true 5 t5 w10 λt82=>stW 5 t4 t82 w10 λw44=>ldW true 5 t4 w44 λr45=>K r45 w44)
theorem Rl{K:Q0}(h:XX v0 v1 w K):aI P0 240 [v0,v1] w K:=
 tie _ 240 Tryz.f240 Oj _ w K 2 _ rfl mixed Tryz.func240 (by kernel_rfl) (by kernel_rfl) Tryz.call240 h
def Oi:eH:={js:=[],ds:=[(0,⟨[0,1,2,3,4,5,6,7,8,9,10,11,12,16],[[],[0],[],[],[],[4],[],[6],[3,4,5,6,7],[],[],[9,10],[9,10,11],[2,3,4,5,6,7,8,9,10,11,12],[2,3,4,5,6,7,8,9,10,11,12,13],[0,1,2,3,4,5,6,7,8,9,10,11,12,13,14],[0,1,2,3,4,5,6,7,8,9,10,11,12,13,14,15],[0,1,2,3,4,5,6,7,8,9,10,11,12,13,14,15,16]]⟩)]}
def XW(v0 v1 v2 v3 v4 v5:Value)(w:World)(K:Q0):=aZ 2 v0 λt6=>ldW false 1 t6 w.drew λt7=>ldW false 1 v1 w.drew λt8=>ldW false 1 v2 w.drew λt9=>ldW false 1 v3 w.drew λt10=>aU .add t10 (i64 2) λt11=>ldW false 1 v4 w.drew λt12=>aU .sub t12 (i64 1) λt13=>oK t9 (some t11) (some t13) λt14=>ldW false 1 v5 w.drew λt15=>ldW false 1 v3 w.drew λt16=>aU .add t15 t16 λt17=>aU .add t17 (i64 2) λt18=>aI P0 257 [t8,t14,t18] w.drew λt19 w1=>(ldW false 1 t6 w1 λx=>x=t7)/\fV 3 1 [(i64 0)] [(0,1,t19)] w1 λt20 w2=>(ldW false 1 t6 w2 λx=>x=t7)/\fH P0 (Builtin.append_ #[26,26] 26 #[t7,t20]) w2 λt21 w3=>aZ 2 v0 λt22=>stW 1 t22 t21 w3 λw4=>K (.tuple #[]) w4
theorem Rk{K:Q0}(h:XW v0 v1 v2 v3 v4 v5 w K):aI P0 256 [v0,v1,v2,v3,v4,v5] w K:=
 tie _ 256 Tryz.f256 Oi _ w K 6 _ rfl mixed Tryz.func256 (by kernel_rfl) (by kernel_rfl) Tryz.call256 h
def Oh:eH:={js:=[(4,⟨[],[],8⟩)],ds:=[(11,⟨[0,1,2,3,4,5,6,7,8,9,10,12],[[],[],[],[2],[2,3],[2,3,4],[],[6],[6,7],[6,7,8],[0,1,2,3,4,5,6,7,8,9],[0,1,2,3,4,5,6,7,8,9,10],[0,1,2,3,4,5,6,7,8,9,10,11]]⟩),(8,⟨[0,1,2,3,4,5,6,7,8,9],[[],[0],[0,1],[0,1,2],[],[],[5],[5,6],[5,6,7],[4,5,6,7,8],[0,1,2,3,4,5,6,7,8,9]]⟩)]}
def XV(v0 v1 v2:Value)(w:World)(K:Q0):=aI P0 28 [v1] w λt13 w1=>jC 0 t13 λt14=>jC 1 t13 λt15=>cX (λJ2=>eqW .ptr true t15 (.pointer none) λt17=>bB t17 (dV t15 λt19=>aZ 0 t19 λt20=>ldW false 1 t20 w1.drew λt21=>dV t15 λt24=>aZ 2 t24 λt25=>ldW false 1 t25 w1.drew λt26=>aU .add v2 t26 λt27=>aI P0 33 [t21,t27] w1.drew λt28 w3=>J2 [] w3) (J2 [] w1)) λs2 _ w4=>dV v0 λt32=>aZ 3 t32 λt33=>ldW false 1 t33 w4.drew λt34=>dV v0 λt36=>aZ 4 t36 λt37=>ldW false 1 t37 w4.drew λt38=>iX [sN,(i64 0),(i64 0),(.pointer none),(i64 0),(.bool false)] [(0,1,t14),(2,1,v2),(3,1,t34),(4,1,t38)] λc5=>jI 92 (.agg c5.toArray) w4.drew λt40 w6=>aI P0 118 [t40] w6 λt42 w7=>aI P0 62 [t40,(i64 0)] w7 λt44 w8=>K t42 w8
theorem Rj{K:Q0}(h:XV v0 v1 v2 w K):aI P0 257 [v0,v1,v2] w K:=
 tie _ 257 Tryz.f257 Oh _ w K 3 _ rfl mixed Tryz.func257 (by kernel_rfl) (by kernel_rfl) Tryz.call257 h
def PQ:eH:={js:=[(28003,⟨[36],[],35⟩),(16,⟨[28],[2,5],28⟩),(6002,⟨[23],[],17⟩),(6004,⟨[22],[],21⟩),(6008,⟨[20],[],17⟩),(6013,⟨[14],[],12⟩)],ds:=[]}
def Zt(v0:Value)(w:World)(K:Q0):=aI P0 148 [v0,(str [45])] w λt7 w1=>jM t7 λt9=>aU .lss t9 (i64 1) λt10=>GdW (isB t10 false) [undef] w1 (λJ2=>jM t7 λt13=>aU .gtr t13 (i64 100) λt14=>J2 [t14] w1) λs2 _ w3=>eO t10 (.bool true) (s2.getD 0 undef) λt15=>GdW (isB t15 false) [undef] w3 (λJ4=>mX t7 (i64 0) λt18=>aU .eql t18 (.int .u8 48) λt19=>J4 [t19] w3) λs4 _ w5=>GdW (isB (s4.getD 0 undef) true) [undef] w5 (λJ6=>aU .neq v0 (str [48]) λt22=>J6 [t22] w5) λs6 _ w7=>GdW (isB t15 false) [undef] w7 (λJ8=>eO (s4.getD 0 undef) (s6.getD 0 undef) (.bool false) λt23=>J8 [t23] w7) λs8 _ w9=>eO t15 (.bool true) (s8.getD 0 undef) λt24=>bB t24 (K (.bool false) w9) (fH P0 (convert 9 80 t7) w9 λt26 w10=>jN t26 λt27=>eJ [(i64 0)] w10 λs11 _ w12 L11=>aU .lss (s11.getD 0 undef) t27 λt29=>bB t29 (iN none 1 t26 (s11.getD 0 undef) λt30=>ldW false 1 t30 w12 λt31=>aU .lss t31 (.int .u8 48) λt33=>GdW (isB t33 false) [undef] w12 (λJ13=>aU .gtr t31 (.int .u8 57) λt36=>J13 [t36] w12) λs13 _ w14=>eO t33 (.bool true) (s13.getD 0 undef) λt37=>bB t37 (K (.bool false) w14) (aU .add (s11.getD 0 undef) (i64 1) λt38=>L11 [t38] w14)) (K (.bool true) w12))
theorem Tc{K:Q0}(h:Zt v0 w K):aI P0 111 [v0] w K:=
 tie _ 111 Tryz.f111 PQ _ w K 1 _ rfl mixed Tryz.func111 (by kernel_rfl) (by kernel_rfl) Tryz.call111 h
def Xw:eH:={js:=[(58008,⟨[63],[],58⟩),(37,⟨[],[],6⟩),(31,⟨[6],[],6⟩),(20,⟨[4,5],[],4⟩)],ds:=[(38,⟨[0,1,2,3,6,7,8,11,13],[[],[0],[],[2],[2,3],[0,1,2,3,4],[],[6],[],[8],[0,1,2,3,4,5,6,7,8,9],[0,1,2,3,4,5,6,7],[0,1,2,3,4,5,6,7,8,9,10,11],[0,1,2,3,4,5,6,7,8,9,10,11,12],[0,1,2,3,4,5,6,7,8,9,10,11,12,13]]⟩)]}
def W6(v0:Value)(w:World)(K:Q0):=aI P0 18 [] w λt11 w1=>unW .not t11 λt12=>bB t12 (K (.bool false) w1) (sT .u64 v0 λt14=>aU .rem t14 (.int .u64 7) λt15=>sT .i64 t15 λt16=>iX [sN,sN] [] λc2=>dY 51 [sN,sN] w1 λt3 w3=>stW 2 t3 (.agg c2.toArray) w3 λw4=>eJ [(str []),(i64 0)] w4 λs5 _ w6 L5=>aU .leq (s5.getD 1 undef) t16 λt20=>bB t20 (cX (λJ7=>aU .eql (s5.getD 1 undef) t16 λt25=>bB t25 (J7 [(str [108,111,99,97,108,115,32,123,10,32,97,32,61,32,49,10,125,10])] w6) (J7 [(str [109,111,100,117,108,101,32,34,109,34,32,123,10,32,115,111,117,114,99,101,32,61,32,34,115,34,10,125,10])] w6)) λs7 _ w8=>cX (λJ9=>aZ 0 t3 λt26=>ldW false 1 t26 w8.drew λt27=>aU .add (s5.getD 0 undef) (str [109,97,105,110,46,104,99,108]) λt29=>aZ 1 t3 λt32=>ldW false 1 t32 w8.drew λt33=>(fV 9 1 [(str [])] [(0,1,t29)] w8.drew λt30 w10=>(ldW false 1 t32 w10 λx=>x=t33)/\(ldW false 1 t26 w10 λx=>x=t27)/\(fH P0 (Builtin.append_ #[33,33] 33 #[t27,t30]) w10 λt31 w11=>(ldW false 1 t32 w11 λx=>x=t33)/\aZ 0 t3 λt37=>fV 9 1 [(str [])] [(0,1,(s7.getD 0 undef))] w11 λt35 w12=>(ldW false 1 t32 w12 λx=>x=t33)/\fH P0 (Builtin.append_ #[33,33] 33 #[t33,t35]) w12 λt36 w13=>stW 1 t37 t31 w13 λw14=>aZ 1 t3 λt38=>stW 1 t38 t36 w14 λw15=>J9 [] w15)/\(fV 9 1 [(str [])] [(0,1,(s7.getD 0 undef))] w10 λt35 w16=>(ldW false 1 t32 w16 λx=>x=t33)/\(ldW false 1 t26 w16 λx=>x=t27)/\fH P0 (Builtin.append_ #[33,33] 33 #[t27,t30]) w16 λt31 w17=>(ldW false 1 t32 w17 λx=>x=t33)/\aZ 0 t3 λt37=>fH P0 (Builtin.append_ #[33,33] 33 #[t33,t35]) w17 λt36 w18=>stW 1 t37 t31 w18 λw19=>aZ 1 t3 λt38=>stW 1 t38 t36 w19 λw20=>J9 [] w20))/\(fV 9 1 [(str [])] [(0,1,(s7.getD 0 undef))] w8.drew λt35 w21=>(ldW false 1 t32 w21 λx=>x=t33)/\(ldW false 1 t26 w21 λx=>x=t27)/\fV 9 1 [(str [])] [(0,1,t29)] w21 λt30 w22=>(ldW false 1 t32 w22 λx=>x=t33)/\(ldW false 1 t26 w22 λx=>x=t27)/\fH P0 (Builtin.append_ #[33,33] 33 #[t27,t30]) w22 λt31 w23=>(ldW false 1 t32 w23 λx=>x=t33)/\aZ 0 t3 λt37=>fH P0 (Builtin.append_ #[33,33] 33 #[t33,t35]) w23 λt36 w24=>stW 1 t37 t31 w24 λw25=>aZ 1 t3 λt38=>stW 1 t38 t36 w25 λw26=>J9 [] w26)) λs9 _ w27=>aU .add (s5.getD 0 undef) (str [115,47]) λt40=>aU .add (s5.getD 1 undef) (i64 1) λt22=>L5 [t40,t22] w27) (ldW true 2 t3 w6 λt42=>aI P0 19 [t42] w6 λt43 w28=>jC 0 t43 λt44=>jC 1 t43 λt45=>dY 55 zL2 w28 λt8 w29=>stW 4 t8 t45 w29 λw30=>eqW .ptr false t44 (.pointer none) λt47=>bB t47 (K (.bool false) w30) (aI P0 20 [t44,(str [])] w30 λt50 w31=>jC 0 t50 λt51=>jC 1 t50 λt52=>dY 60 [sN] w31 λt9 w32=>stW 1 t9 t51 w32 λw33=>aU .leq t16 (i64 4) λt54=>bB t54 (eqW .ptr false t52 (.pointer none) λt56=>GdW (isB t56 true) [undef] w33 (λJ34=>aZ 0 t9 λt58=>ldW false 1 t58 w33 λt59=>jN t59 λt60=>aU .add t16 (i64 1) λt62=>aU .eql t60 t62 λt63=>J34 [t63] w33) λs34 _ w35=>eO t56 (s34.getD 0 undef) (.bool false) λt64=>K t64 w35) (aI P0 21 [t52,(i64 111),(str [115,47,115,47,115,47,115,47,109,97,105,110,46,104,99,108]),(i64 0)] w33 λt66 w36=>K t66 w36))))
theorem XU{K:Q0}(h:W6 v0 w K):aI P0 6 [v0] w K:=
 tie _ 6 Tryz.f6 Xw _ w K 1 _ rfl mixed Tryz.func6 (by kernel_rfl) (by kernel_rfl) Tryz.call6 h
def Xv:eH:={js:=[(54008,⟨[56],[],51⟩),(29,⟨[4],[4],6⟩),(20,⟨[3,4,5],[],1⟩)],ds:=[]}
def W7(v0:Value)(w:World)(K:Q0):=aI P0 18 [] w λt10 w1=>unW .not t10 λt11=>bB t11 (K (.bool false) w1) (sT .u64 v0 λt13=>aU .rem t13 (.int .u64 20) λt14=>sT .i64 t14 λt15=>eJ [(str []),(i64 0),(i64 0)] w1 λs2 _ w3 L2=>aU .lss (s2.getD 2 undef) t15 λt18=>bB t18 (cX (λJ4=>aU .eql (s2.getD 2 undef) (i64 15) λt22=>bB t22 (jM (s2.getD 0 undef) λt24=>J4 [t24] w3) (J4 [(s2.getD 1 undef)] w3)) λs4 _ w5=>aI P0 22 [(s2.getD 2 undef)] w5 λt27 w6=>aU .add (str [109,111,100,117,108,101,32,34,109]) t27 λt28=>aU .add t28 (str [34,32,123,10,32,115,111,117,114,99,101,32,61,32,34,120,34,10,125,10]) λt29=>aU .add (s2.getD 0 undef) t29 λt30=>aU .add (s2.getD 2 undef) (i64 1) λt20=>L2 [t30,(s4.getD 0 undef),t20] w6) (fV 9 2 [(str []),(str [])] [(0,1,(str [109,97,105,110,46,104,99,108])),(1,1,(str [120,47,109,97,105,110,46,104,99,108]))] w3 λt32 w7=>fV 9 2 [(str []),(str [])] [(0,1,(s2.getD 0 undef)),(1,1,(str []))] w7 λt34 w8=>iX [sN,sN] [(0,1,t32),(1,1,t34)] λc9=>aI P0 19 [(.agg c9.toArray)] w8 λt36 w10=>jC 0 t36 λt37=>jC 1 t36 λt38=>dY 55 zL2 w10 λt7 w11=>stW 4 t7 t38 w11 λw12=>eqW .ptr false t37 (.pointer none) λt40=>bB t40 (K (.bool false) w12) (aI P0 20 [t37,(str [])] w12 λt43 w13=>jC 0 t43 λt44=>jC 1 t43 λt45=>dY 60 [sN] w13 λt8 w14=>stW 1 t8 t44 w14 λw15=>aU .leq t15 (i64 15) λt47=>bB t47 (eqW .ptr false t45 (.pointer none) λt49=>GdW (isB t49 true) [undef] w15 (λJ16=>aZ 0 t8 λt51=>ldW false 1 t51 w15 λt52=>jN t52 λt53=>aU .add t15 (i64 1) λt55=>aU .eql t53 t55 λt56=>J16 [t56] w15) λs16 _ w17=>eO t49 (s16.getD 0 undef) (.bool false) λt57=>K t57 w17) (aI P0 21 [t45,(i64 111),(str [109,97,105,110,46,104,99,108]),(s2.getD 1 undef)] w15 λt60 w18=>K t60 w18))))
theorem XT{K:Q0}(h:W7 v0 w K):aI P0 7 [v0] w K:=
 tie _ 7 Tryz.f7 Xv _ w K 1 _ rfl mixed Tryz.func7 (by kernel_rfl) (by kernel_rfl) Tryz.call7 h
def Vg:eH:={js:=[(19004,⟨[58],[],57⟩),(19015,⟨[54],[],46⟩),(19024,⟨[43],[],37⟩),(19030,⟨[34],[],31⟩)],ds:=[]}
def W18(w:World)(K:Q0):=fV 9 2 [(str []),(str [])] [(0,1,(str [109,97,105,110,46,104,99,108])),(1,1,(str [110,101,116,47,109,97,105,110,46,104,99,108]))] w λt8 w1=>fV 9 2 [(str []),(str [])] [(0,1,(str [118,97,114,105,97,98,108,101,32,34,97,34,32,123,125,10,109,111,100,117,108,101,32,34,109,34,32,123,10,32,115,111,117,114,99,101,32,61,32,34,110,101,116,34,10,32,120,32,61,32,49,10,125,10])),(1,1,(str [118,97,114,105,97,98,108,101,32,34,120,34,32,123,125]))] w1 λt9 w2=>iX [sN,sN] [(0,1,t8),(1,1,t9)] λc3=>aI P0 19 [(.agg c3.toArray)] w2 λt11 w4=>jC 0 t11 λt12=>jC 1 t11 λt13=>dY 55 zL2 w4 λt2 w5=>stW 4 t2 t13 w5 λw6=>eqW .ptr false t12 (.pointer none) λt15=>bB t15 (K (.bool false) w6) (aI P0 20 [t12,(str [])] w6 λt18 w7=>jC 0 t18 λt19=>jC 1 t18 λt20=>dY 60 [sN] w7 λt3 w8=>stW 1 t3 t19 w8 λw9=>aI P0 46 [t12,(str [110,101,116,47,109,97,105,110,46,104,99,108])] w9 λt22 w10=>aI P0 20 [t12,(str [])] w10 λt25 w11=>jC 0 t25 λt26=>jC 1 t25 λt27=>dY 60 [sN] w11 λt5 w12=>stW 1 t5 t26 w12 λw13=>eqW .ptr false t20 (.pointer none) λt29=>GdW (isB t29 true) [undef] w13 (λJ14=>aZ 0 t3 λt31=>ldW false 1 t31 w13 λt32=>jN t32 λt33=>aU .eql t33 (i64 2) λt34=>J14 [t34] w13) λs14 _ w15=>eO t29 (s14.getD 0 undef) (.bool false) λt35=>GdW (isB t35 true) [undef] w15 (λJ16=>aZ 0 t3 λt37=>ldW false 1 t37 w15 λt38=>iN none 9 t38 (i64 0) λt39=>aZ 8 t39 λt40=>ldW false 1 t40 w15 λt41=>jN t41 λt42=>aU .eql t42 (i64 1) λt43=>J16 [t43] w15) λs16 _ w17=>eO t35 (s16.getD 0 undef) (.bool false) λt44=>GdW (isB t44 true) [undef] w17 (λJ18=>aZ 0 t3 λt46=>ldW false 1 t46 w17 λt47=>iN none 9 t47 (i64 0) λt48=>aZ 8 t48 λt49=>ldW false 1 t49 w17 λt50=>iN none 4 t50 (i64 0) λt51=>aZ 1 t51 λt52=>ldW false 1 t52 w17 λt53=>aU .eql t53 (i64 1) λt54=>J18 [t54] w17) λs18 _ w19=>eO t44 (s18.getD 0 undef) (.bool false) λt55=>GdW (isB t55 true) [undef] w19 (λJ20=>aI P0 21 [t27,(i64 111),(str [110,101,116,47,109,97,105,110,46,104,99,108]),(i64 0)] w19 λt58 w21=>J20 [t58] w21) λs20 _ w22=>eO t55 (s20.getD 0 undef) (.bool false) λt59=>K t59 w22)
theorem WL{K:Q0}(h:W18 w K):aI P0 18 [] w K:=
 tie _ 18 Tryz.f18 Vg _ w K 0 _ rfl mixed Tryz.func18 (by kernel_rfl) (by kernel_rfl) Tryz.call18 h
def Vf:eH:={js:=[(11003,⟨[28],[],27⟩),(11007,⟨[24],[],23⟩),(11014,⟨[20],[],16⟩),(8,⟨[6],[],6⟩)],ds:=[(24,⟨[0,1,2],[[],[],[0],[0,1,2]]⟩),(21,⟨[0,1,2,3,4,5,6,8,9,10],[[],[],[1],[],[1,2,3],[1,2,3,4],[],[0,1,2,3,4,5,6],[0,1,2,3,4,5,6,7],[0,1,2,3,4,5,6,7,8],[0,1,2,3,4,5,6,7,8],[0,1,2,3,4,5,6,7,8,9]]⟩),(18,⟨[0,1,2,3,4,5,6,7,8,9,10,11,12,13],[[],[0],[],[0,1,2],[0,1,2,3],[],[5],[],[5,6,7],[5,6,7,8],[5,6,7,8,9],[5,6,7,8,9,10],[0,1,2,3,4,5,6,7,8,9,10,11],[0,1,2,3,4,5,6,7,8,9,10,11,12]]⟩)]}
def W19(v0:Value)(w:World)(K:Q0):=jI 51 v0 w λt1 w1=>dY 55 zL2 w1 λt3 w2=>aI P0 47 [] w2 λt8 w3=>aI P0 48 [] w3 λt9 w4=>dY 55 zL2 w4 λt5 w5=>stW 4 t5 t9 w5 λw6=>eJ [(i64 0)] w6 λs7 _ w8 L7=>aZ 0 t1 λt11=>ldW false 1 t11 w8 λt12=>jN t12 λt13=>aU .lss (s7.getD 0 undef) t13 λt14=>GdW (isB t14 true) [undef] w8 (λJ9=>aZ 1 t1 λt17=>ldW false 1 t17 w8 λt18=>jN t18 λt19=>aU .lss (s7.getD 0 undef) t19 λt20=>J9 [t20] w8) λs9 _ w10=>eO t14 (s9.getD 0 undef) (.bool false) λt21=>GdW (isB t21 true) [undef] w10 (λJ11=>aU .lss (s7.getD 0 undef) (i64 20) λt24=>J11 [t24] w10) λs11 _ w12=>eO t21 (s11.getD 0 undef) (.bool false) λt25=>GdW (isB t25 true) [undef] w12 (λJ13=>eqW .ptr true t8 (.pointer none) λt28=>J13 [t28] w12) λs13 _ w14=>eO t25 (s13.getD 0 undef) (.bool false) λt29=>bB t29 (aZ 1 t1 λt32=>ldW false 1 t32 w14.drew λt33=>iN none 1 t33 (s7.getD 0 undef) λt35=>ldW false 1 t35 w14.drew λt36=>aZ 1 t1 λt37=>ldW false 1 t37 w14.drew λt38=>iN none 1 t38 (s7.getD 0 undef) λt40=>ldW false 1 t40 w14.drew λt41=>jM t41 λt42=>Ql t42 (i64 6000) λt43=>oK t36 none (some t43) λt44=>aZ 0 t1 λt46=>ldW false 1 t46 w14.drew λt47=>iN none 1 t47 (s7.getD 0 undef) λt49=>ldW false 1 t49 w14.drew λt50=>fH P0 (convert 9 80 t44) w14.drew λt52 w15=>aI P0 23 [t8,t50,t52] w15 λt53 w16=>ldW true 4 t5 w16.drew λt55=>aZ 0 t1 λt56=>ldW false 1 t56 w16.drew λt57=>iN none 1 t57 (s7.getD 0 undef) λt59=>ldW false 1 t59 w16.drew λt60=>aI P0 49 [t55,t60,t44,(.bool false)] w16.drew λt62 w17=>jC 0 t62 λt63=>jC 1 t62 λt64=>stW 4 t5 t63 w17 λw18=>aU .add (s7.getD 0 undef) (i64 1) λt31=>L7 [t31] w18) (ldW true 4 t5 w14.drew λt66=>stW 4 t3 t66 w14.drew λw19=>ldW true 4 t3 w19 λr20=>K (.tuple #[t8,r20]) w19)
theorem WK{K:Q0}(h:W19 v0 w K):aI P0 19 [v0] w K:=
 tie _ 19 Tryz.f19 Vf _ w K 1 _ rfl mixed Tryz.func19 (by kernel_rfl) (by kernel_rfl) Tryz.call19 h
def Ii:eH:={js:=[],ds:=[]}
def W20(v0 v1:Value)(w:World)(K:Q0):=
 dY 60 [sN] w λt4 w1=>
 dY 29 [(.pointer none)] w1 λt5 w2=>
 letI:HX:=⟨λch x3=>vY P0 50 [t4,t5] (.panicking ch) x3 λw3=>
 ldW true 1 t4 w3 λr4=>
 ldW false 1 t5 w3 λr5=>
 K (.tuple #[r4,r5]) w3⟩
 iX [(.pointer none),sN] [(0,1,v0)] λc6=>
 jI 124 (.agg c6.toArray) w2 λt10 w7=>
 aI P0 52 [v1] w7 λt13 w8=>
 aI P0 51 [t10,t13,(i64 0)] w8 λt14 w9=>
 dV t10 λt16=>
 aZ 1 t16 λt17=>
 ldW false 1 t17 w9 λt18=>
 iX [sN] [(0,1,t18)] λc10=>
 stW 1 t4 (.agg c10.toArray) w9 λw11=>
 stW 1 t5 (.pointer none) w11 λw12=>
 vY P0 50 [t4,t5] .returning w12 λw13=>
 ldW true 1 t4 w13 λr14=>
 ldW false 1 t5 w13 λr15=>
 K (.tuple #[r14,r15]) w13
theorem WJ(v0 v1:Value)(w:World)(K:Q0):MW P0 Tryz.f20 Ii 1 [v0,v1] w (Dx K)=W20 v0 v1 w K:=by kernel_rfl
theorem RF:Ak P0 Tryz.f20 Ii 6 50 1 2=true:=by kernel_rfl
theorem WI{K:Q0}(h:W20 v0 v1 w K):aI P0 20 [v0,v1] w K:=
 Xo P0 20 Tryz.f20 Ii [v0,v1] w K 6 50 1 2 (W20 v0 v1 w K) rfl mixed Tryz.func20 RF (WJ v0 v1 w K) Tryz.call20 Tryz.call50 h
def Ve:eH:={js:=[(11008,⟨[37],[],32⟩),(11016,⟨[29],[],24⟩),(11024,⟨[21],[],16⟩)],ds:=[]}
def W21(v0 v1 v2 v3:Value)(w:World)(K:Q0):=aU .eql v1 (i64 0) λt10=>bB t10 (eqW .ptr false v0 (.pointer none) λt12=>K t12 w) (eqW .ptr true v0 (.pointer none) λt14=>GdW (isB t14 true) [undef] w (λJ1=>dV v0 λt17=>aZ 0 t17 λt18=>ldW false 1 t18 w λt19=>aU .eql t19 v1 λt21=>J1 [t21] w) λs1 _ w2=>eO t14 (s1.getD 0 undef) (.bool false) λt22=>GdW (isB t22 true) [undef] w2 (λJ3=>dV v0 λt25=>aZ 1 t25 λt26=>ldW false 1 t26 w2 λt27=>aU .eql t27 v2 λt29=>J3 [t29] w2) λs3 _ w4=>eO t22 (s3.getD 0 undef) (.bool false) λt30=>GdW (isB t30 true) [undef] w4 (λJ5=>dV v0 λt33=>aZ 2 t33 λt34=>ldW false 1 t34 w4 λt35=>aU .eql t35 v3 λt37=>J5 [t37] w4) λs5 _ w6=>eO t30 (s5.getD 0 undef) (.bool false) λt38=>K t38 w6)
theorem WH{K:Q0}(h:W21 v0 v1 v2 v3 w K):aI P0 21 [v0,v1,v2,v3] w K:=
 tie _ 21 Tryz.f21 Ve _ w K 4 _ rfl mixed Tryz.func21 (by kernel_rfl) (by kernel_rfl) Tryz.call21 h
def Vb:eH:={js:=[],ds:=[(33,⟨[0,1,2,3,4,5],[[],[0],[0,1],[0,1,2],[],[],[0,1,2,3,4,5]]⟩)]}
def W23(v0 v1 v2:Value)(w:World)(K:Q0):=aI P0 54 [v1] w λt10 w1=>unW .not t10 λt11=>bB t11 (K (i64 6) w1) (aI P0 55 [v0,v1,v2] w1 λt15 w2=>unW .not t15 λt16=>bB t16 (K (i64 3) w2) (aI P0 56 [v0] w2 λt18 w3=>aU .neq t18 (i64 0) λt20=>bB t20 (K t18 w3) (dV v0 λt23=>aZ 0 t23 λt24=>ldW false 1 t24 w3 λt25=>oU P0 (Instr.lookup 131 t25 v1 false) w3 λt27=>dY 130 [sN,sN,(i64 0)] w3 λt8 w4=>stW 3 t8 t27 w4 λw5=>aI P0 57 [v2] w5 λt29 w6=>aZ 0 t8 λt30=>stW 1 t30 t29 w6 λw7=>dV v0 λt32=>aZ 0 t32 λt33=>ldW false 1 t33 w7.drew λt34=>ldW true 3 t8 w7.drew λt36=>BX P0 (Instr.mapUpdate 131 t34 v1 t36) w7.drew λw8=>K (i64 0) w8)))
theorem WE{K:Q0}(h:W23 v0 v1 v2 w K):aI P0 23 [v0,v1,v2] w K:=
 tie _ 23 Tryz.f23 Vb _ w K 3 _ rfl mixed Tryz.func23 (by kernel_rfl) (by kernel_rfl) Tryz.call23 h
def UV:eH:={js:=[],ds:=[]}
def W46(v0 v1:Value)(w:World)(K:Q0):=dV v0 λt10=>aZ 0 t10 λt11=>ldW false 1 t11 w λt12=>oU P0 (Instr.lookup 131 t12 v1 true) w λt14=>jC 0 t14 λt15=>jC 1 t14 λt16=>dY 130 [sN,sN,(i64 0)] w λt5 w1=>stW 3 t5 t15 w1 λw2=>aI P0 54 [v1] w2 λt19 w3=>unW .not t19 λt20=>bB t20 (K (i64 6) w3) (unW .not t16 λt23=>bB t23 (K (i64 4) w3) (aI P0 56 [v0] w3 λt25 w4=>aU .neq t25 (i64 0) λt27=>bB t27 (K t25 w4) (dV v0 λt30=>aZ 0 t30 λt31=>ldW false 1 t31 w4 λt32=>fH P0 (Builtin.delete_ #[131,9] 0 #[t32,v1]) w4 λ_ w5=>K (i64 0) w5)))
theorem Wx{K:Q0}(h:W46 v0 v1 w K):aI P0 46 [v0,v1] w K:=
 tie _ 46 Tryz.f46 UV _ w K 2 _ rfl mixed Tryz.func46 (by kernel_rfl) (by kernel_rfl) Tryz.call46 h
def UU:eH:={js:=[],ds:=[]}
def W47(w:World)(K:Q0):=fH P0 (Instr.makeMap 131 none) w λt1 w1=>iX [(.map none),(i64 0),(i64 0),(.bool false)] [(0,1,t1),(2,1,(.int .i64 (-1)))] λc2=>jI 133 (.agg c2.toArray) w1 λt3 w3=>K t3 w3
theorem Ww{K:Q0}(h:W47 w K):aI P0 47 [] w K:=
 tie _ 47 Tryz.f47 UU _ w K 0 _ rfl mixed Tryz.func47 (by kernel_rfl) (by kernel_rfl) Tryz.call47 h
def LX:eH:={js:=[],ds:=[(5,⟨[0,1,2],[[],[],[1],[0],[0,1,2,3]]⟩)]}
def ZI(v0 v1:Value)(x:Value)(w:World)(K:World->Prop):Prop:=
 letI:HX:=noX
 eqQ P0 .neq 20 false true x .nilIface w λt5=>
 bB t5 (
 iX [sN] [] λc1=>
 oU P0 (Instr.typeAssert x 20 29 false) w.drew λt8=>
 stW 1 v0 (.agg c1.toArray) w.drew λw2=>
 (oU P0 (Instr.typeAssert x 20 29 false) w2 λx=>x=t8)/\
 stW 1 v1 t8 w2 λw3=>
 K w3) (
 K w)
theorem WQ(v0 v1:Value)(x:Value)(w:World)(K:World->Prop):QG P0 Tryz.f50 LX [v0,v1] x w K=ZI v0 v1 x w K:=by kernel_rfl
theorem Tl:BK P0 Tryz.f50 LX 2=true:=by kernel_rfl
theorem NA{v0 v1:Value}{x:Value}{u:FrameMode}{K:World->Prop}(j:Finds u x)(h:ZI v0 v1 x w K):vY P0 50 [v0,v1] u w K:=
 CG (args:=[v0,v1]) mixed Tryz.func50 Tl j (by rw[WQ];exact h)
def UQ:eH:={js:=[(103,⟨[],[21],181⟩),(108008,⟨[194],[],188⟩),(96,⟨[180],[21],180⟩),(83,⟨[],[19],166⟩),(76,⟨[165],[19],165⟩),(62,⟨[],[],107⟩),(64007,⟨[124],[],119⟩),(49,⟨[106],[15,16,17,19,21],106⟩),(28,⟨[73],[13],73⟩),(16,⟨[],[],11⟩),(8,⟨[],[],9⟩)],ds:=[(115,⟨[0,1,2,3,4,5,6,7,8,9],[[],[0],[0,1],[0,1,2],[],[],[5],[5,6],[5,6,7],[0,1,2,3,4,5,6,7,8],[0,1,2,3,4,5,6,7,8,9]]⟩),(71,⟨[0,1,2,3,4,5,6,7,8,9,10,11],[[],[0],[0,1],[0,1,2],[],[4],[4,5],[4,5,6],[0,1,2,3,4,5,6,7],[0,1,2,3,4,5,6,7,8],[0,1,2,3,4,5,6,7,8,9],[0,1,2,3,4,5,6,7,8,9,10]]⟩),(20,⟨[0,1,2,3,4,5,6,7,8],[[],[],[1],[1,2],[1,2,3],[],[5],[5,6],[5,6,7],[0,1,2,3,4,5,6,7,8]]⟩),(7,⟨[0,1,2,3,4,5,6,7,9,10,11,12,13],[[],[0],[0,1],[0,1,2],[],[4],[4,5],[4,5,6],[0,1,2,3,4,5,6,7],[0,1,2,3,4,5,6,7,8],[0,1,2,3,4,5,6,7,8,9],[0,1,2,3,4,5,6,7,8,9],[0,1,2,3,4,5,6,7,8,9,10],[0,1,2,3,4,5,6,7,8,9,10,11,12]]⟩)]}
def W51(v0 v1 v2:Value)(w:World)(K:Q0):=aU .add v1 (str [109,97,105,110,46,104,99,108]) λt23=>iX [(str []),sN,sN,sN,sN,sN,sN,sN,sN,(str []),sN] [(9,1,t23)] λc1=>jI 177 (.agg c1.toArray) w λt25 w2=>dV t25 λt28=>aZ 0 t28 λt29=>aZ 0 t29 λt30=>stW 1 t30 v1 w2 λw3=>dV v0 λt33=>aZ 0 t33 λt34=>ldW false 1 t34 w3.drew λt35=>dV t25 λt37=>aZ 9 t37 λt38=>ldW false 1 t38 w3.drew λt39=>aI P0 93 [t35,t39] w3.drew λt40 w4=>jC 0 t40 λt41=>jC 1 t40 λt42=>cX (λJ5=>unW .not t42 λt44=>bB t44 (aI P0 94 [t25,(i64 111),(i64 0)] w4 λt46 w6=>J5 [] w6) (J5 [] w4)) λs5 _ w7=>oU P0 (convert 80 9 t41) w7 λt49=>aI P0 12 [t49] w7 λt50 w8=>jC 0 t50 λt51=>jC 1 t50 λt52=>dY 28 [sN,sN,sN] w8 λt10 w9=>stW 3 t10 t51 w9 λw10=>cX (λJ11=>eqW .ptr true t52 (.pointer none) λt54=>bB t54 (dV t52 λt57=>aZ 0 t57 λt58=>ldW false 1 t58 w10.drew λt59=>dV t52 λt61=>aZ 2 t61 λt62=>ldW false 1 t62 w10.drew λt63=>aI P0 94 [t25,t59,t63] w10.drew λt64 w12=>J11 [] w12) (J11 [] w10)) λs11 _ w13=>ldW true 3 t10 w13 λt66=>dV t25 λt67=>aZ 0 t67 λt68=>aZ 1 t68 λt69=>stW 3 t69 t66 w13 λw14=>aZ 2 t10 λt70=>ldW false 1 t70 w14 λt71=>jN t71 λt72=>eJ [(i64 0)] w14 λs15 _ w16 L15=>aU .lss (s15.getD 0 undef) t72 λt74=>bB t74 (iN none 1 t71 (s15.getD 0 undef) λt75=>ldW false 1 t75 w16 λt76=>aZ 1 t10 λt78=>ldW false 1 t78 w16 λt79=>iN none 5 t79 t76 λt81=>ldW true 5 t81 w16 λt82=>aI P0 95 [t25,t82] w16 λt83 w17=>aU .add (s15.getD 0 undef) (i64 1) λt84=>L15 [t84] w17) (dV v0 λt86=>aZ 1 t86 λt87=>ldW false 1 t87 w16 λt88=>jN t88 λt89=>dV v0 λt92=>aZ 1 t92 λt93=>ldW false 1 t93 w16 λt94=>iX [(str []),sN,sN,sN,sN,sN,sN,sN,sN] [] λc18=>fV 67 1 [(str []),sN,sN,sN,sN,sN,sN,sN,sN] [(0,9,(.agg c18.toArray))] w16 λt96 w19=>fH P0 (Builtin.append_ #[58,58] 58 #[t94,t96]) w19 λt97 w20=>dV v0 λt98=>aZ 1 t98 λt99=>stW 1 t99 t97 w20 λw21=>dV t25 λt101=>aZ 0 t101 λt102=>aZ 8 t102 λt103=>ldW false 1 t103 w21 λt104=>jN t104 λt105=>eJ [(i64 0)] w21 λs22 _ w23 L22=>aU .lss (s22.getD 0 undef) t105 λt107=>bB t107 (dV t25 λt110=>aZ 0 t110 λt111=>aZ 8 t111 λt112=>ldW false 1 t112 w23 λt113=>iN none 4 t113 (s22.getD 0 undef) λt115=>cX (λJ24=>aU .eql v2 (i64 4) λt117=>GdW (isB t117 false) [undef] w23 (λJ25=>dV v0 λt120=>aZ 1 t120 λt121=>ldW false 1 t121 w23 λt122=>jN t122 λt123=>aU .eql t123 (i64 16) λt124=>J25 [t124] w23) λs25 _ w26=>eO t117 (.bool true) (s25.getD 0 undef) λt125=>bB t125 (dV t115 λt128=>aZ 3 t128 λt129=>ldW false 1 t129 w26 λt130=>aI P0 94 [t25,(i64 111),t130] w26 λt131 w27=>J24 [] w27) (J24 [] w26)) λs24 _ w28=>dV t25 λt136=>aZ 10 t136 λt137=>ldW false 1 t137 w28 λt138=>iN none 1 t138 (s22.getD 0 undef) λt140=>ldW false 1 t140 w28 λt141=>aU .add v1 t141 λt142=>aU .add t142 (str [47]) λt143=>aU .add v2 (i64 1) λt145=>aI P0 51 [v0,t143,t145] w28 λt146 w29=>dV t115 λt147=>aZ 1 t147 λt148=>stW 1 t148 t146 w29 λw30=>dV v0 λt150=>aZ 1 t150 λt151=>ldW false 1 t151 w30.drew λt152=>dV t115 λt154=>aZ 1 t154 λt155=>ldW false 1 t155 w30.drew λt156=>iN none 9 t152 t156 λt157=>aZ 4 t157 λt158=>ldW false 1 t158 w30.drew λt159=>dV t115 λt161=>aZ 2 t161 λt162=>ldW false 1 t162 w30.drew λt163=>jN t163 λt164=>eJ [(i64 0)] w30.drew λs31 _ w32 L31=>aU .lss (s31.getD 0 undef) t164 λt166=>bB t166 (cX (λJ33=>iN none 3 t163 (s31.getD 0 undef) λt167=>ldW true 3 t167 w32 λt168=>dY 40 zL3 w32 λt19 w34=>stW 3 t19 t168 w34 λw35=>aI P0 96 [t159,(.func (.func 97) #[] #[t19])] w35 λt171 w36=>unW .not t171 λt172=>bB t172 (aZ 2 t19 λt174=>ldW false 1 t174 w36 λt175=>aI P0 94 [t25,(i64 80),t175] w36 λt176 w37=>J33 [] w37) (J33 [] w36)) λs33 _ w38=>aU .add (s31.getD 0 undef) (i64 1) λt177=>L31 [t177] w38) (jN t159 λt179=>eJ [(i64 0)] w32 λs39 _ w40 L39=>aU .lss (s39.getD 0 undef) t179 λt181=>bB t181 (cX (λJ41=>iN none 3 t159 (s39.getD 0 undef) λt182=>ldW true 3 t182 w40 λt183=>dY 69 zL3 w40 λt21 w42=>stW 3 t21 t183 w42 λw43=>aZ 1 t21 λt184=>ldW false 1 t184 w43 λt185=>aU .lss t185 (i64 0) λt186=>GdW (isB t186 true) [undef] w43 (λJ44=>dV t115 λt189=>aZ 2 t189 λt190=>ldW false 1 t190 w43 λt191=>aI P0 98 [t191,(.func (.func 99) #[] #[t21])] w43 λt193 w45=>unW .not t193 λt194=>J44 [t194] w45) λs44 _ w46=>eO t186 (s44.getD 0 undef) (.bool false) λt195=>bB t195 (dV t115 λt198=>aZ 3 t198 λt199=>ldW false 1 t199 w46 λt200=>aI P0 94 [t25,(i64 110),t200] w46 λt201 w47=>J41 [] w47) (J41 [] w46)) λs41 _ w48=>aU .add (s39.getD 0 undef) (i64 1) λt202=>L39 [t202] w48) (aU .add (s22.getD 0 undef) (i64 1) λt203=>L22 [t203] w40))) (dV v0 λt205=>aZ 1 t205 λt206=>ldW false 1 t206 w23.drew λt207=>dV t25 λt210=>aZ 0 t210 λt211=>ldW true 9 t211 w23.drew λt212=>iN none 9 t207 t89 λt213=>stW 9 t213 t212 w23.drew λw49=>K t89 w49))
theorem Wt{K:Q0}(h:W51 v0 v1 v2 w K):aI P0 51 [v0,v1,v2] w K:=
 tie _ 51 Tryz.f51 UQ _ w K 3 _ rfl mixed Tryz.func51 (by kernel_rfl) (by kernel_rfl) Tryz.call51 h
def UN:eH:={js:=[(3005,⟨[14],[],12⟩),(3010,⟨[9],[],7⟩)],ds:=[]}
def W54(v0:Value)(w:World)(K:Q0):=jM v0 λt4=>aU .geq t4 (i64 1) λt5=>GdW (isB t5 true) [undef] w (λJ1=>jM v0 λt8=>aU .leq t8 (i64 64) λt9=>J1 [t9] w) λs1 _ w2=>eO t5 (s1.getD 0 undef) (.bool false) λt10=>GdW (isB t10 true) [undef] w2 (λJ3=>aI P0 101 [v0,(str [0,10,32])] w2 λt13 w4=>unW .not t13 λt14=>J3 [t14] w4) λs3 _ w5=>eO t10 (s3.getD 0 undef) (.bool false) λt15=>K t15 w5
theorem Wq{K:Q0}(h:W54 v0 w K):aI P0 54 [v0] w K:=
 tie _ 54 Tryz.f54 UN _ w K 1 _ rfl mixed Tryz.func54 (by kernel_rfl) (by kernel_rfl) Tryz.call54 h
def UM:eH:={js:=[(5003,⟨[30],[],22⟩),(5009,⟨[29],[],24⟩),(5011,⟨[23],[],22⟩)],ds:=[]}
def W55(v0 v1 v2:Value)(w:World)(K:Q0):=dV v0 λt11=>aZ 0 t11 λt12=>ldW false 1 t12 w λt13=>oU P0 (Instr.lookup 131 t13 v1 true) w λt15=>jC 0 t15 λt16=>jC 1 t15 λt17=>dY 130 [sN,sN,(i64 0)] w λt7 w1=>stW 3 t7 t16 w1 λw2=>jN v2 λt19=>aU .leq t19 (i64 65536) λt20=>GdW (isB t20 true) [undef] w2 (λJ3=>J3 [t17] w2) λs3 _ w4=>GdW (isB (s3.getD 0 undef) false) [undef] w4 (λJ5=>dV v0 λt25=>aZ 0 t25 λt26=>ldW false 1 t26 w4 λt27=>oU P0 (Builtin.len_ #[131] 3 #[t27]) w4 λt28=>aU .lss t28 (i64 64) λt29=>J5 [t29] w4) λs5 _ w6=>GdW (isB t20 true) [undef] w6 (λJ7=>eO (s3.getD 0 undef) (.bool true) (s5.getD 0 undef) λt30=>J7 [t30] w6) λs7 _ w8=>eO t20 (s7.getD 0 undef) (.bool false) λt31=>K t31 w8
theorem Wp{K:Q0}(h:W55 v0 v1 v2 w K):aI P0 55 [v0,v1,v2] w K:=
 tie _ 55 Tryz.f55 UM _ w K 3 _ rfl mixed Tryz.func55 (by kernel_rfl) (by kernel_rfl) Tryz.call55 h
def UL:eH:={js:=[(12,⟨[],[],1⟩),(4006,⟨[12],[],8⟩)],ds:=[]}
def W56(v0:Value)(w:World)(K:Q0):=dV v0 λt4=>aZ 3 t4 λt5=>ldW false 1 t5 w λt6=>GdW (isB t6 false) [undef] w (λJ1=>dV v0 λt9=>aZ 2 t9 λt10=>ldW false 1 t10 w λt11=>aU .eql t11 (i64 0) λt12=>J1 [t12] w) λs1 _ w2=>eO t6 (.bool true) (s1.getD 0 undef) λt13=>bB t13 (dV v0 λt15=>aZ 3 t15 λt16=>stW 1 t16 (.bool true) w2 λw3=>K (i64 5) w3) (cX (λJ4=>dV v0 λt18=>aZ 2 t18 λt19=>ldW false 1 t19 w2 λt20=>aU .gtr t20 (i64 0) λt21=>bB t21 (dV v0 λt23=>aZ 2 t23 λt24=>ldW false 1 t24 w2 λt25=>aU .sub t25 (i64 1) λt26=>dV v0 λt27=>aZ 2 t27 λt28=>stW 1 t28 t26 w2 λw5=>J4 [] w5) (J4 [] w2)) λs4 _ w6=>dV v0 λt30=>aZ 1 t30 λt31=>ldW false 1 t31 w6 λt32=>aU .add t32 (i64 1) λt33=>dV v0 λt34=>aZ 1 t34 λt35=>stW 1 t35 t33 w6 λw7=>K (i64 0) w7)
theorem Wo{K:Q0}(h:W56 v0 w K):aI P0 56 [v0] w K:=
 tie _ 56 Tryz.f56 UL _ w K 1 _ rfl mixed Tryz.func56 (by kernel_rfl) (by kernel_rfl) Tryz.call56 h
def Uu:eH:={js:=[],ds:=[]}
def W93(v0 v1:Value)(w:World)(K:Q0):=dV v0 λt10=>aZ 0 t10 λt11=>ldW false 1 t11 w λt12=>oU P0 (Instr.lookup 131 t12 v1 true) w λt14=>jC 0 t14 λt15=>jC 1 t14 λt16=>dY 130 [sN,sN,(i64 0)] w λt6 w1=>stW 3 t6 t15 w1 λw2=>aZ 0 t6 λt17=>ldW false 1 t17 w2 λt18=>aI P0 57 [t18] w2 λt19 w3=>K (.tuple #[t19,t16]) w3
theorem VW{K:Q0}(h:W93 v0 v1 w K):aI P0 93 [v0,v1] w K:=
 tie _ 93 Tryz.f93 Uu _ w K 2 _ rfl mixed Tryz.func93 (by kernel_rfl) (by kernel_rfl) Tryz.call93 h
def Ut:eH:={js:=[],ds:=[]}
def W94(v0 v1 v2:Value)(w:World)(K:Q0):=dV v0 λt8=>aZ 9 t8 λt9=>ldW false 1 t9 w λt10=>iX [(i64 0),(str []),(i64 0)] [(0,1,v1),(1,1,t10),(2,1,v2)] λc1=>jI 48 (.agg c1.toArray) w λt13 w2=>Kl (.iface 29 t13) w2
theorem Ny{K:Q0}(h:W94 v0 v1 v2 w K):aI P0 94 [v0,v1,v2] w K:=
 tie _ 94 Tryz.f94 Ut _ w K 3 _ rfl mixed Tryz.func94 (by kernel_rfl) (by kernel_rfl) Tryz.call94 h
def Us:eH:={js:=[(2,⟨[],[],4⟩)],ds:=[(4,⟨[0,1,3,4,5,6,7,8,9,11,12,13,14,15,16,18,19,20,21,23,24],[[],[0],[0,1],[],[3],[3,4],[0,1,2,3,4,5],[0,1,2,3,4,5,6],[0,1,2,3,4,5,6,7],[0,1,2,3,4,5,6,7,8],[0,1,2,3,4,5,6,7,8,9],[0,1,2,3,4,5,6,7,8,9,10],[0,1,2,3,4,5,6,7,8,9,10,11],[0,1,2,3,4,5,6,7,8,9,10,11,12],[0,1,2,3,4,5,6,7,8,9,10,11,12,13],[0,1,2,3,4,5,6,7,8,9,10,11,12,13,14],[0,1,2,3,4,5,6,7,8,9,10,11,12,13,14,15],[0,1,2,3,4,5,6,7,8,9,10,11,12,13,14,15,16],[0,1,2,3,4,5,6,7,8,9,10,11,12,13,14,15,16],[0,1,2,3,4,5,6,7,8,9,10,11,12,13,14,15,16,18],[0,1,2,3,4,5,6,7,8,9,10,11,12,13,14,15,16,18,19],[0,1,2,3,4,5,6,7,8,9,10,11,12,13,14,15,16,18,19,20],[0,1,2,3,4,5,6,7,8,9,10,11,12,13,14,15,16,17,18,19,20,21],[0,1,2,3,4,5,6,7,8,9,10,11,12,13,14,15,16,17,18,19,20,21,22],[0,1,2,3,4,5,6,7,8,9,10,11,12,13,14,15,16,17,18,19,20,21,22,23]]⟩)]}
def W95(v0 v1:Value)(w:World)(K:Q0):=jI 38 v1 w λt3 w1=>cX (λJ2=>aZ 0 t3 λt4=>ldW false 1 t4 w1.drew λt5=>aZ 1 t3 λt7=>ldW false 1 t7 w1.drew λt8=>jN t8 λt9=>aI P0 133 [t5] w1.drew λt6 w3=>(ldW false 1 t7 w3 λx=>x=t8)/\aU .neq t6 t9 λt10=>GqW (isB t10 false) (λk4=>aZ 1 t3 k4) λt12=>GqW (isB t10 false) (λk5=>ldW false 1 t12 w3 k5) λt13=>GeW (isB t10 false) w3 (λk6=>aI P0 134 [t13,(.func (.func 135) #[] #[])] w3 k6) λt14 w7=>eO t10 (.bool true) t14 λt15=>GqW (isB t15 false) (λk8=>aZ 0 t3 k8) λt17=>GqW (isB t15 false) (λk9=>ldW false 1 t17 w7 k9) λt18=>GqW (isB t15 false) (λk10=>aU .eql t18 (str [114,101,115,111,117,114,99,101]) k10) λt19=>GqW (isB t15 false) (λk11=>k11 t19) λt20=>GqW (isB t20 true) (λk12=>aZ 1 t3 k12) λt22=>GqW (isB t20 true) (λk13=>ldW false 1 t22 w7 k13) λt23=>GqW (isB t20 true) (λk14=>iN none 1 t23 (i64 0) k14) λt24=>GqW (isB t20 true) (λk15=>ldW false 1 t24 w7 k15) λt25=>GeW (isB t20 true) w7 (λk16=>aI P0 137 [] w7 k16) λt21 w17=>((isB t20 true)=true->ldW false 1 t24 w17 λx=>x=t25)/\((isB t20 true)=true->ldW false 1 t22 w17 λx=>x=t23)/\GeW (isB t20 true) w17 (λk18=>aI P0 117 [t21,t25] w17 k18) λt26 w19=>GqW (isB t15 false) (λk20=>eO t20 t26 (.bool false) k20) λt27=>eO t15 (.bool true) t27 λt28=>bB t28 (aZ 4 t3 λt30=>ldW false 1 t30 w19 λt31=>aI P0 94 [v0,(i64 110),t31] w19 λt32 w21=>J2 [] w21) (J2 [] w19)) λs2 _ w22=>aZ 0 t3 λt33=>ldW false 1 t33 w22 λt34=>aU .eql t34 (str [118,97,114,105,97,98,108,101]) λt36=>bB t36 (ldW true 5 t3 w22 λt38=>aI P0 138 [v0,t38] w22 λt39 w23=>K (.tuple #[]) w23) (aU .eql t34 (str [108,111,99,97,108,115]) λt41=>bB t41 (ldW true 5 t3 w22 λt43=>aI P0 139 [v0,t43] w22 λt44 w24=>K (.tuple #[]) w24) (aU .eql t34 (str [111,117,116,112,117,116]) λt46=>bB t46 (ldW true 5 t3 w22 λt48=>aI P0 140 [v0,t48] w22 λt49 w25=>K (.tuple #[]) w25) (aU .eql t34 (str [114,101,115,111,117,114,99,101]) λt51=>bB t51 (ldW true 5 t3 w22 λt53=>aI P0 141 [v0,t53] w22 λt54 w26=>K (.tuple #[]) w26) (aU .eql t34 (str [109,111,100,117,108,101]) λt56=>bB t56 (ldW true 5 t3 w22 λt58=>aI P0 142 [v0,t58] w22 λt59 w27=>K (.tuple #[]) w27) (K (.tuple #[]) w22)))))
theorem VV{K:Q0}(h:W95 v0 v1 w K):aI P0 95 [v0,v1] w K:=
 tie _ 95 Tryz.f95 Us _ w K 2 _ rfl mixed Tryz.func95 (by kernel_rfl) (by kernel_rfl) Tryz.call95 h
def Uq:eH:={js:=[],ds:=[]}
def W97(v0 v1:Value)(w:World)(K:Q0):=jI 69 v0 w λt2 w1=>aZ 0 t2 λt4=>ldW false 1 t4 w1 λt5=>aZ 0 v1 λt6=>ldW false 1 t6 w1 λt7=>aU .eql t5 t7 λt8=>K t8 w1
theorem VS{K:Q0}(h:W97 v0 v1 w K):aI P0 97 [v0,v1] w K:=
 tie _ 97 Tryz.f97 Uq _ w K 2 _ rfl mixed Tryz.func97 (by kernel_rfl) (by kernel_rfl) Tryz.call97 h
def Uo:eH:={js:=[],ds:=[]}
def W99(v0 v1:Value)(w:World)(K:Q0):=jI 40 v0 w λt2 w1=>aZ 0 t2 λt4=>ldW false 1 t4 w1 λt5=>aZ 0 v1 λt6=>ldW false 1 t6 w1 λt7=>aU .eql t5 t7 λt8=>K t8 w1
theorem VQ{K:Q0}(h:W99 v0 v1 w K):aI P0 99 [v0,v1] w K:=
 tie _ 99 Tryz.f99 Uo _ w K 2 _ rfl mixed Tryz.func99 (by kernel_rfl) (by kernel_rfl) Tryz.call99 h
def PC:eH:={js:=[(12,⟨[6],[],4⟩)],ds:=[]}
def Zi(v0:Value)(w:World)(K:Q0):=aU .eql v0 (str [108,111,99,97,108,115]) λt5=>bB t5 (K (i64 0) w) (cX (λJ1=>aU .eql v0 (str [118,97,114,105,97,98,108,101]) λt7=>bB t7 (J1 [t7] w) (aU .eql v0 (str [111,117,116,112,117,116]) λt8=>bB t8 (J1 [t8] w) (aU .eql v0 (str [109,111,100,117,108,101]) λt9=>J1 [t9] w))) λs1 _ w2=>bB (s1.getD 0 undef) (K (i64 1) w2) (aU .eql v0 (str [114,101,115,111,117,114,99,101]) λt11=>bB t11 (K (i64 2) w2) (K (.int .i64 (-1)) w2)))
theorem SL{K:Q0}(h:Zi v0 w K):aI P0 133 [v0] w K:=
 tie _ 133 Tryz.f133 PC _ w K 1 _ rfl mixed Tryz.func133 (by kernel_rfl) (by kernel_rfl) Tryz.call133 h
def Py:eH:={js:=[],ds:=[]}
def Zg(v0:Value)(w:World)(K:Q0):=aI P0 136 [v0] w λt4 w1=>unW .not t4 λt5=>K t5 w1
theorem SJ{K:Q0}(h:Zg v0 w K):aI P0 135 [v0] w K:=
 tie _ 135 Tryz.f135 Py _ w K 1 _ rfl mixed Tryz.func135 (by kernel_rfl) (by kernel_rfl) Tryz.call135 h
def Px:eH:={js:=[(30005,⟨[57],[],55⟩),(22002,⟨[48],[],35⟩),(22003,⟨[47],[],38⟩),(22004,⟨[46],[],41⟩),(22006,⟨[45],[],44⟩),(22009,⟨[43],[],41⟩),(22012,⟨[40],[],38⟩),(22015,⟨[37],[],35⟩),(20004,⟨[30],[],29⟩),(20007,⟨[26],[],21⟩),(20009,⟨[25],[],24⟩),(20012,⟨[23],[],21⟩),(20016,⟨[18],[],17⟩),(6,⟨[8],[2,3,4,5],8⟩)],ds:=[]}
def Zf(v0:Value)(w:World)(K:Q0):=jM v0 λt7=>eJ [(i64 0)] w λs1 _ w2 L1=>aU .lss (s1.getD 0 undef) t7 λt9=>bB t9 (mX v0 (s1.getD 0 undef) λt13=>aU .geq t13 (.int .u8 97) λt15=>GdW (isB t15 true) [undef] w2 (λJ3=>aU .leq t13 (.int .u8 122) λt18=>J3 [t18] w2) λs3 _ w4=>eO t15 (s3.getD 0 undef) (.bool false) λt19=>GdW (isB t19 false) [undef] w4 (λJ5=>aU .geq t13 (.int .u8 65) λt22=>J5 [t22] w4) λs5 _ w6=>GdW (isB (s5.getD 0 undef) true) [undef] w6 (λJ7=>aU .leq t13 (.int .u8 90) λt25=>J7 [t25] w6) λs7 _ w8=>GdW (isB t19 false) [undef] w8 (λJ9=>eO (s5.getD 0 undef) (s7.getD 0 undef) (.bool false) λt26=>J9 [t26] w8) λs9 _ w10=>eO t19 (.bool true) (s9.getD 0 undef) λt27=>GdW (isB t27 false) [undef] w10 (λJ11=>aU .eql t13 (.int .u8 95) λt30=>J11 [t30] w10) λs11 _ w12=>eO t27 (.bool true) (s11.getD 0 undef) λt31=>unW .not t31 λt33=>GdW (isB t33 true) [undef] w12 (λJ13=>aU .eql (s1.getD 0 undef) (i64 0) λt36=>J13 [t36] w12) λs13 _ w14=>GdW (isB (s13.getD 0 undef) false) [undef] w14 (λJ15=>aU .neq t13 (.int .u8 45) λt39=>J15 [t39] w14) λs15 _ w16=>GdW (isB (s15.getD 0 undef) true) [undef] w16 (λJ17=>aU .lss t13 (.int .u8 48) λt42=>J17 [t42] w16) λs17 _ w18=>GdW (isB (s17.getD 0 undef) false) [undef] w18 (λJ19=>aU .gtr t13 (.int .u8 57) λt45=>J19 [t45] w18) λs19 _ w20=>GdW (isB (s15.getD 0 undef) true) [undef] w20 (λJ21=>eO (s17.getD 0 undef) (.bool true) (s19.getD 0 undef) λt46=>J21 [t46] w20) λs21 _ w22=>GdW (isB (s13.getD 0 undef) false) [undef] w22 (λJ23=>eO (s15.getD 0 undef) (s21.getD 0 undef) (.bool false) λt47=>J23 [t47] w22) λs23 _ w24=>GdW (isB t33 true) [undef] w24 (λJ25=>eO (s13.getD 0 undef) (.bool true) (s23.getD 0 undef) λt48=>J25 [t48] w24) λs25 _ w26=>eO t33 (s25.getD 0 undef) (.bool false) λt49=>bB t49 (K (.bool false) w26) (aU .add (s1.getD 0 undef) (i64 1) λt50=>L1 [t50] w26)) (jM v0 λt52=>aU .geq t52 (i64 1) λt53=>GdW (isB t53 true) [undef] w2 (λJ27=>jM v0 λt56=>aU .leq t56 (i64 32) λt57=>J27 [t57] w2) λs27 _ w28=>eO t53 (s27.getD 0 undef) (.bool false) λt58=>K t58 w28)
theorem SI{K:Q0}(h:Zf v0 w K):aI P0 136 [v0] w K:=
 tie _ 136 Tryz.f136 Px _ w K 1 _ rfl mixed Tryz.func136 (by kernel_rfl) (by kernel_rfl) Tryz.call136 h
def Pw:eH:={js:=[],ds:=[]}
def Ze(w:World)(K:Q0):=fV 9 6 [(str []),(str []),(str []),(str []),(str []),(str [])] [(0,1,(str [118,97,114])),(1,1,(str [108,111,99,97,108])),(2,1,(str [109,111,100,117,108,101])),(3,1,(str [111,117,116,112,117,116])),(4,1,(str [101,97,99,104])),(5,1,(str [99,111,117,110,116]))] w λt1 w1=>K t1 w1
theorem SH{K:Q0}(h:Ze w K):aI P0 137 [] w K:=
 tie _ 137 Tryz.f137 Pw _ w K 0 _ rfl mixed Tryz.func137 (by kernel_rfl) (by kernel_rfl) Tryz.call137 h
def Pv:eH:={js:=[(8,⟨[],[],5⟩)],ds:=[(14,⟨[0,1,2,3,4,5,6,9,10,11],[[],[],[1],[1,2],[1,2,3],[1,2,3,4],[],[6],[1,2,3,4,5,6,7],[0,1,2,3,4,5,6,7,8],[0,1,2,3,4,5,6,7,8,9],[0,1,2,3,4,5,6,7,8,9,10],[0,1,2,3,4,5,6,7,8,9,10,11]]⟩),(3,⟨[0,1,2,3,4,5,6],[[],[0],[0,1],[0,1,2],[],[4],[0,1,2,3,4,5],[],[0,1,2,3,4,5,6,7]]⟩)]}
def Zd(v0 v1:Value)(w:World)(K:Q0):=jI 38 v1 w λt3 w1=>aZ 1 t3 λt5=>ldW false 1 t5 w1.drew λt6=>iN none 1 t6 (i64 0) λt7=>ldW false 1 t7 w1.drew λt8=>aZ 4 t3 λt9=>ldW false 1 t9 w1.drew λt10=>iX [(str []),(i64 0),(i64 0)] [(0,1,t8),(1,1,(.int .i64 (-1))),(2,1,t10)] λc2=>dY 69 zL3 w1.drew λt4 w3=>(ldW false 1 t9 w3 λx=>x=t10)/\(ldW false 1 t7 w3 λx=>x=t8)/\(ldW false 1 t5 w3 λx=>x=t6)/\stW 3 t4 (.agg c2.toArray) w3 λw4=>aZ 2 t3 λt13=>ldW false 1 t13 w4 λt14=>aI P0 172 [v0,t14,(.func (.func 173) #[] #[t4])] w4 λt16 w5=>ldW true 5 t3 w5 λt18=>aI P0 174 [v0,t18] w5 λt19 w6=>cX (λJ7=>dV v0 λt21=>aZ 0 t21 λt22=>aZ 4 t22 λt23=>ldW false 1 t23 w6 λt24=>aI P0 96 [t24,(.func (.func 175) #[] #[t4])] w6 λt26 w8=>bB t26 (aZ 4 t3 λt28=>ldW false 1 t28 w8 λt29=>aI P0 94 [v0,(i64 2),t29] w8 λt30 w9=>J7 [] w9) (J7 [] w8)) λs7 _ w10=>dV v0 λt33=>aZ 0 t33 λt34=>aZ 4 t34 λt35=>ldW false 1 t35 w10.drew λt36=>ldW true 3 t4 w10.drew λt37=>fV 69 1 [(str []),(i64 0),(i64 0)] [(0,3,t37)] w10.drew λt38 w11=>(ldW false 1 t35 w11 λx=>x=t36)/\fH P0 (Builtin.append_ #[63,63] 63 #[t36,t38]) w11 λt39 w12=>dV v0 λt40=>aZ 0 t40 λt41=>aZ 4 t41 λt42=>stW 1 t42 t39 w12 λw13=>K (.tuple #[]) w13
theorem SG{K:Q0}(h:Zd v0 v1 w K):aI P0 138 [v0,v1] w K:=
 tie _ 138 Tryz.f138 Pv _ w K 2 _ rfl mixed Tryz.func138 (by kernel_rfl) (by kernel_rfl) Tryz.call138 h
def Pu:eH:={js:=[],ds:=[]}
def Zc(v0 v1:Value)(w:World)(K:Q0):=jI 175 v0 w λt2 w1=>jI 38 v1 w1 λt3 w2=>ldW false 1 t2 w2 λt4=>aZ 2 t3 λt5=>ldW false 1 t5 w2 λt6=>aI P0 172 [t4,t6,(.func (.func 176) #[] #[t2])] w2 λt8 w3=>ldW false 1 t2 w3 λt9=>ldW true 5 t3 w3 λt10=>aI P0 174 [t9,t10] w3 λt11 w4=>K (.tuple #[]) w4
theorem SF{K:Q0}(h:Zc v0 v1 w K):aI P0 139 [v0,v1] w K:=
 tie _ 139 Tryz.f139 Pu _ w K 2 _ rfl mixed Tryz.func139 (by kernel_rfl) (by kernel_rfl) Tryz.call139 h
def Pt:eH:={js:=[(14,⟨[],[],5⟩),(8,⟨[],[],5⟩)],ds:=[(20,⟨[0,1,2,3,4,5,6,9,10,11],[[],[],[1],[1,2],[1,2,3],[1,2,3,4],[],[6],[1,2,3,4,5,6,7],[0,1,2,3,4,5,6,7,8],[0,1,2,3,4,5,6,7,8,9],[0,1,2,3,4,5,6,7,8,9,10],[0,1,2,3,4,5,6,7,8,9,10,11]]⟩),(3,⟨[0,1,2,3,4,5,6],[[],[0],[0,1],[0,1,2],[],[4],[0,1,2,3,4,5],[],[0,1,2,3,4,5,6,7]]⟩)]}
def Zb(v0 v1:Value)(w:World)(K:Q0):=jI 38 v1 w λt3 w1=>aZ 1 t3 λt5=>ldW false 1 t5 w1.drew λt6=>iN none 1 t6 (i64 0) λt7=>ldW false 1 t7 w1.drew λt8=>aZ 4 t3 λt9=>ldW false 1 t9 w1.drew λt10=>iX [(str []),(i64 0),(i64 0)] [(0,1,t8),(1,1,(.int .i64 (-1))),(2,1,t10)] λc2=>dY 40 zL3 w1.drew λt4 w3=>(ldW false 1 t9 w3 λx=>x=t10)/\(ldW false 1 t7 w3 λx=>x=t8)/\(ldW false 1 t5 w3 λx=>x=t6)/\stW 3 t4 (.agg c2.toArray) w3 λw4=>aZ 2 t3 λt13=>ldW false 1 t13 w4 λt14=>aI P0 172 [v0,t14,(.func (.func 178) #[] #[t4])] w4 λt16 w5=>ldW true 5 t3 w5 λt18=>aI P0 174 [v0,t18] w5 λt19 w6=>cX (λJ7=>aZ 1 t4 λt20=>ldW false 1 t20 w6 λt21=>aU .lss t21 (i64 0) λt22=>bB t22 (aZ 4 t3 λt24=>ldW false 1 t24 w6 λt25=>aI P0 94 [v0,(i64 110),t25] w6 λt26 w8=>J7 [] w8) (J7 [] w6)) λs7 _ w9=>cX (λJ10=>dV v0 λt28=>aZ 0 t28 λt29=>aZ 6 t29 λt30=>ldW false 1 t30 w9 λt31=>aI P0 98 [t31,(.func (.func 179) #[] #[t4])] w9 λt33 w11=>bB t33 (aZ 4 t3 λt35=>ldW false 1 t35 w11 λt36=>aI P0 94 [v0,(i64 2),t36] w11 λt37 w12=>J10 [] w12) (J10 [] w11)) λs10 _ w13=>dV v0 λt40=>aZ 0 t40 λt41=>aZ 6 t41 λt42=>ldW false 1 t42 w13.drew λt43=>ldW true 3 t4 w13.drew λt44=>fV 40 1 [(str []),(i64 0),(i64 0)] [(0,3,t44)] w13.drew λt45 w14=>(ldW false 1 t42 w14 λx=>x=t43)/\fH P0 (Builtin.append_ #[36,36] 36 #[t43,t45]) w14 λt46 w15=>dV v0 λt47=>aZ 0 t47 λt48=>aZ 6 t48 λt49=>stW 1 t49 t46 w15 λw16=>K (.tuple #[]) w16
theorem SE{K:Q0}(h:Zb v0 v1 w K):aI P0 140 [v0,v1] w K:=
 tie _ 140 Tryz.f140 Pt _ w K 2 _ rfl mixed Tryz.func140 (by kernel_rfl) (by kernel_rfl) Tryz.call140 h
def Ps:eH:={js:=[(39,⟨[],[],5⟩),(29,⟨[],[],28⟩),(31005,⟨[59],[],56⟩),(23,⟨[],[],28⟩),(25004,⟨[46],[],44⟩),(10,⟨[27],[5,6,7],27⟩)],ds:=[(45,⟨[0,1,2,3,4,5,6,9,10,11],[[],[],[1],[1,2],[1,2,3],[1,2,3,4],[],[6],[1,2,3,4,5,6,7],[0,1,2,3,4,5,6,7,8],[0,1,2,3,4,5,6,7,8,9],[0,1,2,3,4,5,6,7,8,9,10],[0,1,2,3,4,5,6,7,8,9,10,11]]⟩),(3,⟨[0,1,2,3,4,5,6,7,8,9,10],[[],[0],[0,1],[0,1,2],[],[4],[4,5],[4,5,6],[],[8],[0,1,2,3,4,5,6,7,8,9],[],[0,1,2,3,4,5,6,7,8,9,10,11]]⟩)]}
def Za(v0 v1:Value)(w:World)(K:Q0):=jI 175 v0 w λt2 w1=>jI 38 v1 w1 λt3 w2=>aZ 1 t3 λt8=>ldW false 1 t8 w2.drew λt9=>iN none 1 t9 (i64 0) λt10=>ldW false 1 t10 w2.drew λt11=>aZ 1 t3 λt12=>ldW false 1 t12 w2.drew λt13=>iN none 1 t13 (i64 1) λt14=>ldW false 1 t14 w2.drew λt15=>aZ 4 t3 λt16=>ldW false 1 t16 w2.drew λt17=>iX [(str []),(str []),sN,(i64 0),(i64 0),(.bool false),(.bool false),sN,(i64 0)] [(0,1,t11),(1,1,t15),(3,1,(.int .i64 (-1))),(4,1,(.int .i64 (-1))),(8,1,t17)] λc3=>dY 71 [(str []),(str []),sN,(i64 0),(i64 0),(.bool false),(.bool false),sN,(i64 0)] w2.drew λt4 w4=>(ldW false 1 t16 w4 λx=>x=t17)/\(ldW false 1 t14 w4 λx=>x=t15)/\(ldW false 1 t12 w4 λx=>x=t13)/\(ldW false 1 t10 w4 λx=>x=t11)/\(ldW false 1 t8 w4 λx=>x=t9)/\stW 9 t4 (.agg c3.toArray) w4 λw5=>ldW false 1 t2 w5 λt19=>aZ 2 t3 λt20=>ldW false 1 t20 w5 λt21=>aI P0 172 [t19,t21,(.func (.func 180) #[] #[t4,t2])] w5 λt23 w6=>aZ 3 t3 λt24=>ldW false 1 t24 w6 λt25=>jN t25 λt26=>eJ [(i64 0)] w6 λs7 _ w8 L7=>aU .lss (s7.getD 0 undef) t26 λt28=>bB t28 (iN none 1 t25 (s7.getD 0 undef) λt30=>ldW false 1 t30 w8 λt31=>ldW false 1 t2 w8 λt32=>dV t32 λt33=>aZ 0 t33 λt34=>aZ 1 t34 λt35=>aZ 1 t35 λt36=>ldW false 1 t36 w8 λt37=>iN none 5 t37 t31 λt39=>ldW true 5 t39 w8 λt40=>dY 38 [(str []),sN,sN,sN,(i64 0)] w8 λt7 w9=>stW 5 t7 t40 w9 λw10=>cX (λJ11=>aU .gtr (s7.getD 0 undef) (i64 0) λt42=>GdW (isB t42 true) [undef] w10 (λJ12=>aZ 0 t7 λt44=>ldW false 1 t44 w10 λt45=>aU .eql t45 (str [108,105,102,101,99,121,99,108,101]) λt46=>J12 [t46] w10) λs12 _ w13=>eO t42 (s12.getD 0 undef) (.bool false) λt47=>bB t47 (ldW false 1 t2 w13 λt48=>aZ 4 t7 λt49=>ldW false 1 t49 w13 λt50=>aI P0 94 [t48,(i64 2),t50] w13 λt51 w14=>J11 [] w14) (J11 [] w13)) λs11 _ w15=>cX (λJ16=>aZ 0 t7 λt52=>ldW false 1 t52 w15 λt53=>aU .neq t53 (str [108,105,102,101,99,121,99,108,101]) λt54=>GdW (isB t54 false) [undef] w15 (λJ17=>aZ 1 t7 λt56=>ldW false 1 t56 w15 λt57=>jN t57 λt58=>aU .gtr t58 (i64 0) λt59=>J17 [t59] w15) λs17 _ w18=>eO t54 (.bool true) (s17.getD 0 undef) λt60=>bB t60 (ldW false 1 t2 w18 λt61=>aZ 4 t7 λt62=>ldW false 1 t62 w18 λt63=>aI P0 94 [t61,(i64 110),t63] w18 λt64 w19=>J16 [] w19) (J16 [] w18)) λs16 _ w20=>ldW false 1 t2 w20 λt65=>aZ 2 t7 λt66=>ldW false 1 t66 w20 λt67=>aI P0 172 [t65,t67,(.func (.func 183) #[] #[t4])] w20 λt69 w21=>ldW false 1 t2 w21 λt70=>ldW true 5 t7 w21 λt71=>aI P0 174 [t70,t71] w21 λt72 w22=>aU .add (s7.getD 0 undef) (i64 1) λt73=>L7 [t73] w22) (cX (λJ23=>ldW false 1 t2 w8 λt74=>dV t74 λt75=>aZ 0 t75 λt76=>aZ 7 t76 λt77=>ldW false 1 t77 w8 λt78=>aI P0 184 [t78,(.func (.func 185) #[] #[t4])] w8 λt80 w24=>bB t80 (ldW false 1 t2 w24 λt81=>aZ 4 t3 λt82=>ldW false 1 t82 w24 λt83=>aI P0 94 [t81,(i64 2),t83] w24 λt84 w25=>J23 [] w25) (J23 [] w24)) λs23 _ w26=>ldW false 1 t2 w26.drew λt85=>ldW false 1 t2 w26.drew λt86=>dV t86 λt87=>aZ 0 t87 λt88=>aZ 7 t88 λt89=>ldW false 1 t89 w26.drew λt90=>ldW true 9 t4 w26.drew λt91=>fV 71 1 [(str []),(str []),sN,(i64 0),(i64 0),(.bool false),(.bool false),sN,(i64 0)] [(0,9,t91)] w26.drew λt92 w27=>(ldW false 1 t89 w27 λx=>x=t90)/\(ldW false 1 t2 w27 λx=>x=t86)/\(ldW false 1 t2 w27 λx=>x=t85)/\fH P0 (Builtin.append_ #[64,64] 64 #[t90,t92]) w27 λt93 w28=>(ldW false 1 t2 w28 λx=>x=t85)/\dV t85 λt94=>aZ 0 t94 λt95=>aZ 7 t95 λt96=>stW 1 t96 t93 w28 λw29=>K (.tuple #[]) w29)
theorem SD{K:Q0}(h:Za v0 v1 w K):aI P0 141 [v0,v1] w K:=
 tie _ 141 Tryz.f141 Ps _ w K 2 _ rfl mixed Tryz.func141 (by kernel_rfl) (by kernel_rfl) Tryz.call141 h
def Pr:eH:={js:=[(16,⟨[],[],6⟩),(10,⟨[],[],6⟩)],ds:=[(22,⟨[0,1,2,3,4,5,6,7,10,11,12,13,14,17,18,19,21,22],[[],[],[],[2],[2,3],[2,3,4],[2,3,4,5],[],[7],[2,3,4,5,6,7,8],[],[10],[10,11],[10,11,12],[],[14],[2,3,4,5,6,7,8,9,10,11,12,13,14,15],[0,2,3,4,5,6,7,8,9,10,11,12,13,14,15,16],[0,2,3,4,5,6,7,8,9,10,11,12,13,14,15,16,17],[0,2,3,4,5,6,7,8,9,10,11,12,13,14,15,16,17,18],[0,2,3,4,5,6,7,8,9,10,11,12,13,14,15,16,17,18,19],[0,1,2,3,4,5,6,7,8,9,10,11,12,13,14,15,16,17,18,19,20],[0,1,2,3,4,5,6,7,8,9,10,11,12,13,14,15,16,17,18,19,20,21],[0,1,2,3,4,5,6,7,8,9,10,11,12,13,14,15,16,17,18,19,20,21,22]]⟩),(3,⟨[0,1,2,3,4,5,6],[[],[0],[0,1],[0,1,2],[],[4],[0,1,2,3,4,5],[],[0,1,2,3,4,5,6,7]]⟩)]}
def YZ(v0 v1:Value)(w:World)(K:Q0):=jI 38 v1 w λt3 w1=>aZ 1 t3 λt6=>ldW false 1 t6 w1.drew λt7=>iN none 1 t7 (i64 0) λt8=>ldW false 1 t8 w1.drew λt9=>aZ 4 t3 λt10=>ldW false 1 t10 w1.drew λt11=>iX [(str []),(i64 0),sN,(i64 0)] [(0,1,t9),(3,1,t11)] λc2=>dY 73 [(str []),(i64 0),sN,(i64 0)] w1.drew λt4 w3=>(ldW false 1 t10 w3 λx=>x=t11)/\(ldW false 1 t8 w3 λx=>x=t9)/\(ldW false 1 t6 w3 λx=>x=t7)/\stW 4 t4 (.agg c2.toArray) w3 λw4=>dY 9 [(str [])] w4 λt5 w5=>stW 1 t5 (str []) w5 λw6=>aZ 2 t3 λt14=>ldW false 1 t14 w6 λt15=>aI P0 172 [v0,t15,(.func (.func 186) #[] #[t4,t5])] w6 λt17 w7=>ldW true 5 t3 w7 λt19=>aI P0 174 [v0,t19] w7 λt20 w8=>cX (λJ9=>ldW false 1 t5 w8 λt21=>aU .eql t21 (str []) λt22=>bB t22 (aZ 4 t3 λt24=>ldW false 1 t24 w8 λt25=>aI P0 94 [v0,(i64 110),t25] w8 λt26 w10=>J9 [] w10) (J9 [] w8)) λs9 _ w11=>cX (λJ12=>dV v0 λt28=>aZ 0 t28 λt29=>aZ 8 t29 λt30=>ldW false 1 t30 w11 λt31=>aI P0 187 [t31,(.func (.func 188) #[] #[t4])] w11 λt33 w13=>bB t33 (aZ 4 t3 λt35=>ldW false 1 t35 w13 λt36=>aI P0 94 [v0,(i64 2),t36] w13 λt37 w14=>J12 [] w14) (J12 [] w13)) λs12 _ w15=>dV v0 λt41=>aZ 0 t41 λt42=>aZ 8 t42 λt43=>ldW false 1 t43 w15.drew λt44=>ldW true 4 t4 w15.drew λt45=>dV v0 λt49=>aZ 10 t49 λt50=>ldW false 1 t50 w15.drew λt51=>ldW false 1 t5 w15.drew λt52=>(fV 73 1 [(str []),(i64 0),sN,(i64 0)] [(0,4,t45)] w15.drew λt46 w16=>(ldW false 1 t5 w16 λx=>x=t52)/\(ldW false 1 t50 w16 λx=>x=t51)/\(ldW false 1 t43 w16 λx=>x=t44)/\(fH P0 (Builtin.append_ #[65,65] 65 #[t44,t46]) w16 λt47 w17=>(ldW false 1 t5 w17 λx=>x=t52)/\(ldW false 1 t50 w17 λx=>x=t51)/\fV 9 1 [(str [])] [(0,1,t52)] w17 λt53 w18=>(ldW false 1 t50 w18 λx=>x=t51)/\fH P0 (Builtin.append_ #[33,33] 33 #[t51,t53]) w18 λt54 w19=>dV v0 λt55=>aZ 0 t55 λt56=>aZ 8 t56 λt57=>stW 1 t57 t47 w19 λw20=>dV v0 λt58=>aZ 10 t58 λt59=>stW 1 t59 t54 w20 λw21=>K (.tuple #[]) w21)/\(fV 9 1 [(str [])] [(0,1,t52)] w16 λt53 w22=>(ldW false 1 t50 w22 λx=>x=t51)/\(ldW false 1 t43 w22 λx=>x=t44)/\fH P0 (Builtin.append_ #[65,65] 65 #[t44,t46]) w22 λt47 w23=>(ldW false 1 t50 w23 λx=>x=t51)/\fH P0 (Builtin.append_ #[33,33] 33 #[t51,t53]) w23 λt54 w24=>dV v0 λt55=>aZ 0 t55 λt56=>aZ 8 t56 λt57=>stW 1 t57 t47 w24 λw25=>dV v0 λt58=>aZ 10 t58 λt59=>stW 1 t59 t54 w25 λw26=>K (.tuple #[]) w26))/\(fV 9 1 [(str [])] [(0,1,t52)] w15.drew λt53 w27=>(ldW false 1 t50 w27 λx=>x=t51)/\(ldW true 4 t4 w27 λx=>x=t45)/\(ldW false 1 t43 w27 λx=>x=t44)/\fV 73 1 [(str []),(i64 0),sN,(i64 0)] [(0,4,t45)] w27 λt46 w28=>(ldW false 1 t50 w28 λx=>x=t51)/\(ldW false 1 t43 w28 λx=>x=t44)/\fH P0 (Builtin.append_ #[65,65] 65 #[t44,t46]) w28 λt47 w29=>(ldW false 1 t50 w29 λx=>x=t51)/\fH P0 (Builtin.append_ #[33,33] 33 #[t51,t53]) w29 λt54 w30=>dV v0 λt55=>aZ 0 t55 λt56=>aZ 8 t56 λt57=>stW 1 t57 t47 w30 λw31=>dV v0 λt58=>aZ 10 t58 λt59=>stW 1 t59 t54 w31 λw32=>K (.tuple #[]) w32)
theorem SC{K:Q0}(h:YZ v0 v1 w K):aI P0 142 [v0,v1] w K:=
 tie _ 142 Tryz.f142 Pr _ w K 2 _ rfl mixed Tryz.func142 (by kernel_rfl) (by kernel_rfl) Tryz.call142 h
def Pb:eH:={js:=[(10,⟨[],[6,7],11⟩),(14,⟨[],[],11⟩),(3,⟨[10],[6,7],10⟩)],ds:=[(21,⟨[0,1,2,3,4,5,6,7,8,9,10,11,13],[[],[],[],[2],[2,3],[2,3,4],[2,3,4,5],[2,3,4,5,6],[],[8],[2,3,4,5,6,7,8,9],[2,3,4,5,6,7,8,9,10],[0,1,2,3,4,5,6,7,8,9,10,11],[0,1,2,3,4,5,6,7,8,9,10,11,12]]⟩)]}
def YK(v0 v1 v2:Value)(w:World)(K:Q0):=jN v1 λt9=>eJ [(i64 0)] w λs1 _ w2 L1=>aU .lss (s1.getD 0 undef) t9 λt11=>bB t11 (cX (λJ3=>iN none 3 v1 (s1.getD 0 undef) λt13=>ldW true 3 t13 w2 λt14=>dY 40 zL3 w2 λt7 w4=>stW 3 t7 t14 w4 λw5=>cX (λJ6=>LJ 3 v1 none (some (s1.getD 0 undef)) none λt17=>aI P0 98 [t17,(.func (.func 209) #[] #[t7])] w5 λt19 w7=>bB t19 (aZ 2 t7 λt21=>ldW false 1 t21 w7 λt22=>aI P0 94 [v0,(i64 2),t22] w7 λt23 w8=>J6 [] w8) (J6 [] w7)) λs6 _ w9=>ldW true 3 t7 w9.drew λt25=>dV v0 λt27=>aZ 0 t27 λt28=>aZ 1 t28 λt29=>aZ 0 t29 λt30=>ldW false 1 t30 w9.drew λt31=>aZ 1 t7 λt32=>ldW false 1 t32 w9.drew λt33=>iN none 5 t31 t33 λt34=>ldW true 5 t34 w9.drew λt35=>mY P0 v2 [t25,t35] w9.drew λt36 w10=>unW .not t36 λt37=>bB t37 (aZ 2 t7 λt39=>ldW false 1 t39 w10 λt40=>aI P0 94 [v0,(i64 110),t40] w10 λt41 w11=>J3 [] w11) (J3 [] w10)) λs3 _ w12=>aU .add (s1.getD 0 undef) (i64 1) λt42=>L1 [t42] w12) (K (.tuple #[]) w2)
theorem Sl{K:Q0}(h:YK v0 v1 v2 w K):aI P0 172 [v0,v1,v2] w K:=
 tie _ 172 Tryz.f172 Pb _ w K 3 _ rfl mixed Tryz.func172 (by kernel_rfl) (by kernel_rfl) Tryz.call172 h
def OZ:eH:={js:=[],ds:=[]}
def YJ(v0 v1 v2:Value)(w:World)(K:Q0):=jI 40 v0 w λt3 w1=>jI 35 v1 w1 λt4 w2=>aZ 1 t3 λt6=>ldW false 1 t6 w2 λt7=>aZ 1 v2 λt8=>stW 1 t8 t7 w2 λw3=>aZ 0 t3 λt9=>ldW false 1 t9 w3 λt10=>aU .eql t10 (str [100,101,102,97,117,108,116]) λt11=>K t11 w3
theorem Sk{K:Q0}(h:YJ v0 v1 v2 w K):aI P0 173 [v0,v1,v2] w K:=
 tie _ 173 Tryz.f173 OZ _ w K 3 _ rfl mixed Tryz.func173 (by kernel_rfl) (by kernel_rfl) Tryz.call173 h
def OY:eH:={js:=[],ds:=[(5,⟨[0,1,2,3,4,5,6,7,8,9,10,11,12,13],[[],[],[1],[1,2],[1,2,3],[1,2,3,4],[1,2,3,4,5],[],[7],[7,8],[7,8,9],[1,2,3,4,5,6,7,8,9,10],[1,2,3,4,5,6,7,8,9,10,11],[1,2,3,4,5,6,7,8,9,10,11,12],[0,1,2,3,4,5,6,7,8,9,10,11,12,13]]⟩)]}
def YI(v0 v1:Value)(w:World)(K:Q0):=jI 38 v1 w λt3 w1=>aZ 3 t3 λt4=>ldW false 1 t4 w1 λt5=>jN t5 λt6=>aU .gtr t6 (i64 0) λt7=>bB t7 (dV v0 λt10=>aZ 0 t10 λt11=>aZ 1 t11 λt12=>aZ 1 t12 λt13=>ldW false 1 t13 w1.drew λt14=>aZ 3 t3 λt15=>ldW false 1 t15 w1.drew λt16=>iN none 1 t16 (i64 0) λt17=>ldW false 1 t17 w1.drew λt18=>iN none 5 t14 t18 λt19=>aZ 4 t19 λt20=>ldW false 1 t20 w1.drew λt21=>aI P0 94 [v0,(i64 110),t21] w1.drew λt22 w2=>K (.tuple #[]) w2) (K (.tuple #[]) w1)
theorem Sj{K:Q0}(h:YI v0 v1 w K):aI P0 174 [v0,v1] w K:=
 tie _ 174 Tryz.f174 OY _ w K 2 _ rfl mixed Tryz.func174 (by kernel_rfl) (by kernel_rfl) Tryz.call174 h
def OX:eH:={js:=[],ds:=[]}
def YH(v0 v1:Value)(w:World)(K:Q0):=jI 69 v0 w λt2 w1=>aZ 0 t2 λt4=>ldW false 1 t4 w1 λt5=>aZ 0 v1 λt6=>ldW false 1 t6 w1 λt7=>aU .eql t5 t7 λt8=>K t8 w1
theorem Si{K:Q0}(h:YH v0 v1 w K):aI P0 175 [v0,v1] w K:=
 tie _ 175 Tryz.f175 OX _ w K 2 _ rfl mixed Tryz.func175 (by kernel_rfl) (by kernel_rfl) Tryz.call175 h
def OW:eH:={js:=[(2,⟨[],[],4⟩)],ds:=[(9,⟨[0,1,2,3,4,5,6,9,10,11],[[],[],[1],[1,2],[1,2,3],[1,2,3,4],[],[6],[1,2,3,4,5,6,7],[0,1,2,3,4,5,6,7,8],[0,1,2,3,4,5,6,7,8,9],[0,1,2,3,4,5,6,7,8,9,10],[0,1,2,3,4,5,6,7,8,9,10,11]]⟩)]}
def YG(v0 v1 v2:Value)(w:World)(K:Q0):=jI 40 v0 w λt3 w1=>jI 35 v1 w1 λt4 w2=>cX (λJ3=>ldW false 1 v2 w2 λt6=>dV t6 λt7=>aZ 0 t7 λt8=>aZ 5 t8 λt9=>ldW false 1 t9 w2 λt10=>aI P0 98 [t10,(.func (.func 177) #[] #[t3])] w2 λt12 w4=>bB t12 (ldW false 1 v2 w4 λt13=>aZ 2 t3 λt14=>ldW false 1 t14 w4 λt15=>aI P0 94 [t13,(i64 2),t15] w4 λt16 w5=>J3 [] w5) (J3 [] w4)) λs3 _ w6=>ldW false 1 v2 w6.drew λt17=>ldW false 1 v2 w6.drew λt18=>dV t18 λt19=>aZ 0 t19 λt20=>aZ 5 t20 λt21=>ldW false 1 t21 w6.drew λt22=>ldW true 3 t3 w6.drew λt23=>fV 40 1 [(str []),(i64 0),(i64 0)] [(0,3,t23)] w6.drew λt24 w7=>(ldW false 1 t21 w7 λx=>x=t22)/\(ldW false 1 v2 w7 λx=>x=t18)/\(ldW false 1 v2 w7 λx=>x=t17)/\fH P0 (Builtin.append_ #[36,36] 36 #[t22,t24]) w7 λt25 w8=>(ldW false 1 v2 w8 λx=>x=t17)/\dV t17 λt26=>aZ 0 t26 λt27=>aZ 5 t27 λt28=>stW 1 t28 t25 w8 λw9=>K (.bool true) w9
theorem Sg{K:Q0}(h:YG v0 v1 v2 w K):aI P0 176 [v0,v1,v2] w K:=
 tie _ 176 Tryz.f176 OW _ w K 3 _ rfl mixed Tryz.func176 (by kernel_rfl) (by kernel_rfl) Tryz.call176 h
def OV:eH:={js:=[],ds:=[]}
def YF(v0 v1:Value)(w:World)(K:Q0):=jI 40 v0 w λt2 w1=>aZ 0 t2 λt4=>ldW false 1 t4 w1 λt5=>aZ 0 v1 λt6=>ldW false 1 t6 w1 λt7=>aU .eql t5 t7 λt8=>K t8 w1
theorem Sf{K:Q0}(h:YF v0 v1 w K):aI P0 177 [v0,v1] w K:=
 tie _ 177 Tryz.f177 OV _ w K 2 _ rfl mixed Tryz.func177 (by kernel_rfl) (by kernel_rfl) Tryz.call177 h
def OU:eH:={js:=[],ds:=[]}
def YE(v0 v1 v2:Value)(w:World)(K:Q0):=jI 40 v0 w λt3 w1=>jI 35 v1 w1 λt4 w2=>aZ 1 t3 λt6=>ldW false 1 t6 w2 λt7=>aZ 1 v2 λt8=>stW 1 t8 t7 w2 λw3=>aZ 0 t3 λt9=>ldW false 1 t9 w3 λt10=>aU .eql t10 (str [118,97,108,117,101]) λt11=>K t11 w3
theorem Se{K:Q0}(h:YE v0 v1 v2 w K):aI P0 178 [v0,v1,v2] w K:=
 tie _ 178 Tryz.f178 OU _ w K 3 _ rfl mixed Tryz.func178 (by kernel_rfl) (by kernel_rfl) Tryz.call178 h
def OT:eH:={js:=[],ds:=[]}
def YD(v0 v1:Value)(w:World)(K:Q0):=jI 40 v0 w λt2 w1=>aZ 0 t2 λt4=>ldW false 1 t4 w1 λt5=>aZ 0 v1 λt6=>ldW false 1 t6 w1 λt7=>aU .eql t5 t7 λt8=>K t8 w1
theorem Sd{K:Q0}(h:YD v0 v1 w K):aI P0 179 [v0,v1] w K:=
 tie _ 179 Tryz.f179 OT _ w K 2 _ rfl mixed Tryz.func179 (by kernel_rfl) (by kernel_rfl) Tryz.call179 h
def OS:eH:={js:=[(53005,⟨[67],[],65⟩),(2,⟨[],[],3⟩),(27,⟨[34],[6,8],34⟩)],ds:=[(46,⟨[0,1,2,3,4,5,6,7,10],[[],[0],[],[2],[2,3],[2,3,4],[2,3,4,5],[],[2,3,4,5,6,7],[0,1,2,3,4,5,6,7,8],[0,1,2,3,4,5,6,7,8,9],[0,1,2,3,4,5,6,7,8,9,10]]⟩)]}
def YC(v0 v1 v2 v3:Value)(w:World)(K:Q0):=jI 40 v0 w λt4 w1=>jI 35 v1 w1 λt5 w2=>cX (λJ3=>aZ 0 t4 λt9=>ldW false 1 t9 w2 λt10=>aU .eql t10 (str [105,100]) λt18=>bB t18 (K (.bool false) w2) (aU .eql t10 (str [99,111,117,110,116]) λt20=>bB t20 (aZ 1 t4 λt21=>ldW false 1 t21 w2 λt22=>aZ 3 v2 λt23=>stW 1 t23 t22 w2 λw4=>J3 [] w4) (aU .eql t10 (str [102,111,114,95,101,97,99,104]) λt25=>bB t25 (aZ 1 t4 λt26=>ldW false 1 t26 w2 λt27=>aZ 4 v2 λt28=>stW 1 t28 t27 w2 λw5=>J3 [] w5) (aU .eql t10 (str [100,101,112,101,110,100,115,95,111,110]) λt30=>bB t30 (aZ 2 t5 λt31=>ldW false 1 t31 w2 λt32=>jN t32 λt33=>eJ [(i64 0)] w2 λs6 _ w7 L6=>aU .lss (s6.getD 0 undef) t33 λt35=>bB t35 (iN none 1 t32 (s6.getD 0 undef) λt36=>ldW false 1 t36 w7 λt37=>ldW false 1 v3 w7 λt38=>dV t38 λt39=>aZ 0 t39 λt40=>aZ 1 t40 λt41=>ldW true 3 t41 w7 λt42=>aI P0 181 [t42,t37] w7 λt44 w8=>unW .not t44 λt45=>bB t45 (K (.bool false) w8) (aZ 7 v2 λt46=>ldW false 1 t46 w8.drew λt47=>ldW false 1 v3 w8.drew λt48=>dV t48 λt49=>aZ 0 t49 λt50=>aZ 1 t50 λt51=>ldW true 3 t51 w8.drew λt52=>aI P0 182 [t52,t37] w8.drew λt54 w9=>(ldW false 1 t46 w9 λx=>x=t47)/\fH P0 (Builtin.append_ #[33,33] 33 #[t47,t54]) w9 λt55 w10=>aZ 7 v2 λt56=>stW 1 t56 t55 w10 λw11=>aU .add (s6.getD 0 undef) (i64 1) λt57=>L6 [t57] w11)) (aZ 0 t5 λt58=>ldW false 1 t58 w7 λt59=>aU .eql t59 (i64 7) λt60=>K t60 w7)) (aZ 2 v2 λt11=>ldW false 1 t11 w2 λt12=>ldW true 3 t4 w2 λt13=>fV 40 1 [(str []),(i64 0),(i64 0)] [(0,3,t13)] w2 λt14 w12=>fH P0 (Builtin.append_ #[36,36] 36 #[t12,t14]) w12 λt15 w13=>aZ 2 v2 λt16=>stW 1 t16 t15 w13 λw14=>J3 [] w14))))) λs3 _ w15=>aZ 3 v2 λt61=>ldW false 1 t61 w15 λt62=>aU .lss t62 (i64 0) λt63=>GdW (isB t63 false) [undef] w15 (λJ16=>aZ 4 v2 λt65=>ldW false 1 t65 w15 λt66=>aU .lss t66 (i64 0) λt67=>J16 [t67] w15) λs16 _ w17=>eO t63 (.bool true) (s16.getD 0 undef) λt68=>K t68 w17
theorem Sc{K:Q0}(h:YC v0 v1 v2 v3 w K):aI P0 180 [v0,v1,v2,v3] w K:=
 tie _ 180 Tryz.f180 OS _ w K 4 _ rfl mixed Tryz.func180 (by kernel_rfl) (by kernel_rfl) Tryz.call180 h
def OR:eH:={js:=[(4,⟨[1],[1],3⟩)],ds:=[]}
def YB(v0 v1:Value)(w:World)(K:Q0):=jI 28 v0 w λt2 w1=>eJ [v1] w1 λs2 _ w3 L2=>aZ 0 t2 λt5=>ldW false 1 t5 w3 λt6=>iN none 5 t6 (s2.getD 0 undef) λt8=>aZ 0 t8 λt9=>ldW false 1 t9 w3 λt10=>aU .eql t10 (i64 10) λt11=>bB t11 (aZ 0 t2 λt12=>ldW false 1 t12 w3 λt13=>iN none 5 t13 (s2.getD 0 undef) λt15=>aZ 2 t15 λt16=>ldW false 1 t16 w3 λt17=>iN none 1 t17 (i64 0) λt18=>ldW false 1 t18 w3 λt19=>L2 [t19] w3) (aZ 0 t2 λt20=>ldW false 1 t20 w3 λt21=>iN none 5 t21 (s2.getD 0 undef) λt23=>aZ 0 t23 λt24=>ldW false 1 t24 w3 λt25=>aU .eql t25 (i64 9) λt26=>K t26 w3)
theorem Sb{K:Q0}(h:YB v0 v1 w K):aI P0 181 [v0,v1] w K:=
 tie _ 181 Tryz.f181 OR _ w K 2 _ rfl mixed Tryz.func181 (by kernel_rfl) (by kernel_rfl) Tryz.call181 h
def OQ:eH:={js:=[],ds:=[]}
def YA(v0 v1:Value)(w:World)(K:Q0):=jI 28 v0 w λt2 w1=>fH P0 (Instr.makeMap 252 none) w1 λt6 w2=>ldW true 3 t2 w2 λt7=>fH P0 (Instr.makeMap 252 none) w2 λt9 w3=>aI P0 210 [t7,v1,(str []),t9,t6] w3 λt11 w4=>aI P0 212 [t6] w4 λt13 w5=>aI P0 211 [t13] w5 λt14 w6=>K t14 w6
theorem Sa{K:Q0}(h:YA v0 v1 w K):aI P0 182 [v0,v1] w K:=
 tie _ 182 Tryz.f182 OQ _ w K 2 _ rfl mixed Tryz.func182 (by kernel_rfl) (by kernel_rfl) Tryz.call182 h
def OP:eH:={js:=[(18005,⟨[26],[],24⟩),(2,⟨[],[],5⟩)],ds:=[]}
def Yz(v0 v1 v2:Value)(w:World)(K:Q0):=jI 40 v0 w λt3 w1=>jI 35 v1 w1 λt4 w2=>cX (λJ3=>aZ 0 t3 λt6=>ldW false 1 t6 w2 λt7=>aU .eql t7 (str [99,114,101,97,116,101,95,98,101,102,111,114,101,95,100,101,115,116,114,111,121]) λt9=>bB t9 (aZ 0 t4 λt10=>ldW false 1 t10 w2 λt11=>aU .eql t11 (i64 2) λt12=>aZ 5 v2 λt13=>stW 1 t13 t12 w2 λw4=>J3 [] w4) (aU .eql t7 (str [112,114,101,118,101,110,116,95,100,101,115,116,114,111,121]) λt15=>bB t15 (aZ 0 t4 λt16=>ldW false 1 t16 w2 λt17=>aU .eql t17 (i64 2) λt18=>aZ 6 v2 λt19=>stW 1 t19 t18 w2 λw5=>J3 [] w5) (K (.bool false) w2))) λs3 _ w6=>aZ 0 t4 λt20=>ldW false 1 t20 w6 λt21=>aU .eql t21 (i64 2) λt22=>GdW (isB t22 false) [undef] w6 (λJ7=>aZ 0 t4 λt24=>ldW false 1 t24 w6 λt25=>aU .eql t25 (i64 3) λt26=>J7 [t26] w6) λs7 _ w8=>eO t22 (.bool true) (s7.getD 0 undef) λt27=>K t27 w8
theorem RZ{K:Q0}(h:Yz v0 v1 v2 w K):aI P0 183 [v0,v1,v2] w K:=
 tie _ 183 Tryz.f183 OP _ w K 3 _ rfl mixed Tryz.func183 (by kernel_rfl) (by kernel_rfl) Tryz.call183 h
def ON:eH:={js:=[(3007,⟨[14],[],10⟩)],ds:=[]}
def Yx(v0 v1:Value)(w:World)(K:Q0):=jI 71 v0 w λt2 w1=>aZ 0 t2 λt4=>ldW false 1 t4 w1 λt5=>aZ 0 v1 λt6=>ldW false 1 t6 w1 λt7=>aU .eql t5 t7 λt8=>GdW (isB t8 true) [undef] w1 (λJ2=>aZ 1 t2 λt10=>ldW false 1 t10 w1 λt11=>aZ 1 v1 λt12=>ldW false 1 t12 w1 λt13=>aU .eql t11 t13 λt14=>J2 [t14] w1) λs2 _ w3=>eO t8 (s2.getD 0 undef) (.bool false) λt15=>K t15 w3
theorem RX{K:Q0}(h:Yx v0 v1 w K):aI P0 185 [v0,v1] w K:=
 tie _ 185 Tryz.f185 ON _ w K 2 _ rfl mixed Tryz.func185 (by kernel_rfl) (by kernel_rfl) Tryz.call185 h
def OM:eH:={js:=[(15005,⟨[24],[],22⟩)],ds:=[]}
def Yw(v0 v1 v2 v3:Value)(w:World)(K:Q0):=jI 40 v0 w λt4 w1=>jI 35 v1 w1 λt5 w2=>aZ 0 t4 λt7=>ldW false 1 t7 w2 λt8=>aU .neq t8 (str [115,111,117,114,99,101]) λt9=>bB t9 (aZ 2 v2 λt10=>ldW false 1 t10 w2 λt11=>ldW true 3 t4 w2 λt12=>fV 40 1 [(str []),(i64 0),(i64 0)] [(0,3,t12)] w2 λt13 w3=>fH P0 (Builtin.append_ #[36,36] 36 #[t11,t13]) w3 λt14 w4=>aZ 2 v2 λt15=>stW 1 t15 t14 w4 λw5=>K (.bool true) w5) (aZ 1 t5 λt16=>ldW false 1 t16 w2 λt17=>stW 1 v3 t17 w2 λw6=>aZ 0 t5 λt18=>ldW false 1 t18 w6 λt19=>aU .eql t19 (i64 5) λt20=>GdW (isB t20 true) [undef] w6 (λJ7=>aZ 1 t5 λt22=>ldW false 1 t22 w6 λt23=>aI P0 136 [t23] w6 λt24 w8=>J7 [t24] w8) λs7 _ w9=>eO t20 (s7.getD 0 undef) (.bool false) λt25=>K t25 w9)
theorem RV{K:Q0}(h:Yw v0 v1 v2 v3 w K):aI P0 186 [v0,v1,v2,v3] w K:=
 tie _ 186 Tryz.f186 OM _ w K 4 _ rfl mixed Tryz.func186 (by kernel_rfl) (by kernel_rfl) Tryz.call186 h
def OK:eH:={js:=[],ds:=[]}
def Yu(v0 v1:Value)(w:World)(K:Q0):=jI 73 v0 w λt2 w1=>aZ 0 t2 λt4=>ldW false 1 t4 w1 λt5=>aZ 0 v1 λt6=>ldW false 1 t6 w1 λt7=>aU .eql t5 t7 λt8=>K t8 w1
theorem RQ{K:Q0}(h:Yu v0 v1 w K):aI P0 188 [v0,v1] w K:=
 tie _ 188 Tryz.f188 OK _ w K 2 _ rfl mixed Tryz.func188 (by kernel_rfl) (by kernel_rfl) Tryz.call188 h
def OD:eH:={js:=[],ds:=[]}
def Yn(v0 v1:Value)(w:World)(K:Q0):=jI 40 v0 w λt2 w1=>aZ 0 t2 λt4=>ldW false 1 t4 w1 λt5=>aZ 0 v1 λt6=>ldW false 1 t6 w1 λt7=>aU .eql t5 t7 λt8=>K t8 w1
theorem RG{K:Q0}(h:Yn v0 v1 w K):aI P0 209 [v0,v1] w K:=
 tie _ 209 Tryz.f209 OD _ w K 2 _ rfl mixed Tryz.func209 (by kernel_rfl) (by kernel_rfl) Tryz.call209 h
def OC:eH:={js:=[(32,⟨[23],[12],23⟩)],ds:=[(27,⟨[0,1,2,3,4,5,6],[[],[],[1],[1,2],[1,2,3],[],[],[0,1,2,3,4,5,6]]⟩),(23,⟨[0,1,2,3,4,5,6],[[],[],[1],[1,2],[1,2,3],[],[],[0,1,2,3,4,5,6]]⟩),(18,⟨[0,1,2,3,4,5,6,7,8,9,10,11],[[],[],[1],[1,2],[1,2,3],[],[5],[5,6],[],[5,6,7,8],[],[],[0,1,2,3,4,5,6,7,8,9,10,11]]⟩)]}
def Ym(v0 v1 v2 v3 v4:Value)(w:World)(K:Q0):=jI 28 v0 w λt5 w1=>aZ 0 t5 λt13=>ldW false 1 t13 w1 λt14=>iN none 5 t14 v1 λt16=>ldW true 5 t16 w1 λt17=>dY 35 zL1 w1 λt10 w2=>stW 5 t10 t17 w2 λw3=>aZ 0 t10 λt18=>ldW false 1 t18 w3 λt19=>aU .eql t19 (i64 9) λt34=>bB t34 (aZ 1 t10 λt36=>ldW false 1 t36 w3 λt37=>oU P0 (Instr.lookup 252 v3 t37 false) w3 λt38=>aU .eql t38 (i64 0) λt39=>bB t39 (aZ 1 t10 λt41=>ldW false 1 t41 w3 λt42=>aU .add t42 v2 λt44=>BX P0 (Instr.mapUpdate 252 v4 t44 (i64 1)) w3 λw4=>K (.tuple #[]) w4) (K (.tuple #[]) w3)) (aU .eql t19 (i64 10) λt46=>bB t46 (ldW true 3 t5 w3.drew λt47=>aZ 2 t10 λt48=>ldW false 1 t48 w3.drew λt49=>iN none 1 t49 (i64 0) λt50=>ldW false 1 t50 w3.drew λt51=>aZ 1 t10 λt52=>ldW false 1 t52 w3.drew λt53=>aU .add (str [46]) t53 λt54=>aU .add t54 v2 λt56=>aI P0 210 [t47,t51,t56,v3,v4] w3.drew λt59 w5=>K (.tuple #[]) w5) (aU .eql t19 (i64 29) λt61=>bB t61 (ldW true 3 t5 w3.drew λt62=>aZ 2 t10 λt63=>ldW false 1 t63 w3.drew λt64=>iN none 1 t64 (i64 0) λt65=>ldW false 1 t65 w3.drew λt66=>aI P0 210 [t62,t66,(str []),v3,v4] w3.drew λt69 w6=>aZ 1 t10 λt71=>ldW false 1 t71 w6 λt72=>oU P0 (Instr.lookup 252 v3 t72 false) w6 λt73=>aU .add t73 (i64 1) λt74=>BX P0 (Instr.mapUpdate 252 v3 t72 t74) w6 λw7=>ldW true 3 t5 w7.drew λt75=>aZ 2 t10 λt76=>ldW false 1 t76 w7.drew λt77=>iN none 1 t77 (i64 1) λt78=>ldW false 1 t78 w7.drew λt79=>aI P0 210 [t75,t79,(str []),v3,v4] w7.drew λt82 w8=>aZ 1 t10 λt84=>ldW false 1 t84 w8 λt85=>oU P0 (Instr.lookup 252 v3 t85 false) w8 λt86=>aU .sub t86 (i64 1) λt87=>BX P0 (Instr.mapUpdate 252 v3 t85 t87) w8 λw9=>K (.tuple #[]) w9) (aZ 2 t10 λt20=>ldW false 1 t20 w3 λt21=>jN t21 λt22=>eJ [(i64 0)] w3 λs10 _ w11 L10=>aU .lss (s10.getD 0 undef) t22 λt24=>bB t24 (iN none 1 t21 (s10.getD 0 undef) λt25=>ldW false 1 t25 w11 λt26=>ldW true 3 t5 w11 λt27=>aI P0 210 [t27,t26,(str []),v3,v4] w11 λt31 w12=>aU .add (s10.getD 0 undef) (i64 1) λt32=>L10 [t32] w12) (K (.tuple #[]) w11))))
theorem RE{K:Q0}(h:Ym v0 v1 v2 v3 v4 w K):aI P0 210 [v0,v1,v2,v3,v4] w K:=
 tie _ 210 Tryz.f210 OC _ w K 5 _ rfl mixed Tryz.func210 (by kernel_rfl) (by kernel_rfl) Tryz.call210 h
def Vd:eH:={js:=[(27,⟨[5],[],5⟩),(16,⟨[3,4],[],1⟩)],ds:=[]}
def W22(v0:Value)(w:World)(K:Q0):=aU .eql v0 (i64 0) λt7=>bB t7 (K (str [48]) w) (eJ [(str []),v0] w λs1 _ w2 L1=>aU .neq (s1.getD 1 undef) (i64 0) λt10=>bB t10 (aU .rem (s1.getD 1 undef) (i64 10) λt14=>cX (λJ3=>aU .lss t14 (i64 0) λt16=>bB t16 (unW .neg t14 λt18=>J3 [t18] w2) (J3 [t14] w2)) λs3 _ w4=>aU .add (i64 48) (s3.getD 0 undef) λt20=>sT .u8 t20 λt21=>fV 5 1 [(.int .u8 0)] [(0,1,t21)] w4 λt22 w5=>oU P0 (convert 80 9 t22) w5 λt23=>aU .add t23 (s1.getD 0 undef) λt25=>aU .quo (s1.getD 1 undef) (i64 10) λt12=>L1 [t25,t12] w5) (aU .lss v0 (i64 0) λt27=>aI P0 53 [t27,(s1.getD 0 undef)] w2 λt29 w6=>K t29 w6))
theorem WG{K:Q0}(h:W22 v0 w K):aI P0 22 [v0] w K:=
 tie _ 22 Tryz.f22 Vd _ w K 1 _ rfl mixed Tryz.func22 (by kernel_rfl) (by kernel_rfl) Tryz.call22 h
def US:eH:={js:=[],ds:=[]}
def W48(w:World)(K:Q0):=dY 55 zL2 w λt0 w1=>iX [sN,(i64 0),(i64 0),(.bool false)] [(2,1,(.int .i64 (-1)))] λc2=>stW 4 t0 (.agg c2.toArray) w1 λw3=>ldW true 4 t0 w3 λr4=>K r4 w3
theorem Wv{K:Q0}(h:W48 w K):aI P0 48 [] w K:=
 tie _ 48 Tryz.f48 US _ w K 0 _ rfl mixed Tryz.func48 (by kernel_rfl) (by kernel_rfl) Tryz.call48 h
def UR:eH:={js:=[(40,⟨[],[],13⟩),(22003,⟨[37],[],36⟩),(14002,⟨[31],[],24⟩),(14006,⟨[30],[],27⟩),(14009,⟨[26],[],24⟩)],ds:=[]}
def W49(v0 v1 v2 v3:Value)(w:World)(K:Q0):=jI 55 v0 w λt4 w1=>dY 55 zL2 w1 λt8 w2=>ldW true 4 t4 w2 λt13=>aI P0 89 [t13,v1] w2 λt15 w3=>aI P0 90 [v1] w3 λt17 w4=>unW .not t17 λt18=>bB t18 (ldW true 4 t4 w4 λt19=>stW 4 t8 t19 w4 λw5=>ldW true 4 t8 w5 λr6=>K (.tuple #[r6,(i64 6)]) w5) (jM v2 λt21=>aU .gtr t21 (i64 65536) λt22=>GdW (isB t22 false) [undef] w4 (λJ7=>aU .lss t15 (i64 0) λt25=>J7 [t25] w4) λs7 _ w8=>GdW (isB (s7.getD 0 undef) true) [undef] w8 (λJ9=>aZ 0 t4 λt27=>ldW false 1 t27 w8 λt28=>jN t28 λt29=>aU .geq t29 (i64 64) λt30=>J9 [t30] w8) λs9 _ w10=>GdW (isB t22 false) [undef] w10 (λJ11=>eO (s7.getD 0 undef) (s9.getD 0 undef) (.bool false) λt31=>J11 [t31] w10) λs11 _ w12=>eO t22 (.bool true) (s11.getD 0 undef) λt32=>bB t32 (ldW true 4 t4 w12 λt33=>stW 4 t8 t33 w12 λw13=>ldW true 4 t8 w13 λr14=>K (.tuple #[r14,(i64 3)]) w13) (GdW (isB v3 true) [undef] w12 (λJ15=>aU .geq t15 (i64 0) λt37=>J15 [t37] w12) λs15 _ w16=>eO v3 (s15.getD 0 undef) (.bool false) λt38=>bB t38 (ldW true 4 t4 w16 λt39=>stW 4 t8 t39 w16 λw17=>ldW true 4 t8 w17 λr18=>K (.tuple #[r18,(i64 2)]) w17) (ldW true 4 t4 w16 λt41=>aI P0 91 [t41] w16 λt42 w19=>jC 0 t42 λt43=>jC 1 t42 λt44=>stW 4 t4 t43 w19 λw20=>aU .neq t44 (i64 0) λt46=>bB t46 (ldW true 4 t4 w20 λt47=>stW 4 t8 t47 w20 λw21=>ldW true 4 t8 w21 λr22=>K (.tuple #[r22,t44]) w21) (iX [(str []),(str []),(str []),(.bool false)] [(0,1,v1),(1,1,v2)] λc23=>dY 173 [(str []),(str []),(str []),(.bool false)] w20 λt12 w24=>stW 4 t12 (.agg c23.toArray) w24 λw25=>cX (λJ26=>aU .geq t15 (i64 0) λt53=>bB t53 (aZ 0 t4 λt54=>ldW false 1 t54 w25 λt55=>iN none 4 t55 t15 λt57=>aZ 2 t57 λt58=>ldW false 1 t58 w25 λt59=>aZ 2 t12 λt60=>stW 1 t60 t59 w25 λw27=>aZ 0 t4 λt61=>ldW false 1 t61 w27 λt62=>iN none 4 t62 t15 λt64=>aZ 3 t64 λt65=>ldW false 1 t65 w27 λt66=>aZ 3 t12 λt67=>stW 1 t67 t66 w27 λw28=>J26 [] w28) (J26 [] w25)) λs26 _ w29=>aZ 0 t4 λt68=>ldW false 1 t68 w29 λt69=>ldW true 4 t12 w29 λt70=>aI P0 92 [t69,t70] w29 λt71 w30=>aZ 0 t4 λt72=>stW 1 t72 t71 w30 λw31=>ldW true 4 t4 w31 λt73=>stW 4 t8 t73 w31 λw32=>ldW true 4 t8 w32 λr33=>K (.tuple #[r33,(i64 0)]) w32))))
theorem Wu{K:Q0}(h:W49 v0 v1 v2 v3 w K):aI P0 49 [v0,v1,v2,v3] w K:=
 tie _ 49 Tryz.f49 UR _ w K 4 _ rfl mixed Tryz.func49 (by kernel_rfl) (by kernel_rfl) Tryz.call49 h
def UO:eH:={js:=[(4003,⟨[8],[],7⟩)],ds:=[]}
def W53(v0 v1:Value)(w:World)(K:Q0):=GdW (isB v0 true) [undef] w (λJ1=>aU .neq v1 (str [48]) λt8=>J1 [t8] w) λs1 _ w2=>eO v0 (s1.getD 0 undef) (.bool false) λt9=>bB t9 (aU .add (str [45]) v1 λt11=>K t11 w2) (K v1 w2)
theorem Wr{K:Q0}(h:W53 v0 v1 w K):aI P0 53 [v0,v1] w K:=
 tie _ 53 Tryz.f53 UO _ w K 2 _ rfl mixed Tryz.func53 (by kernel_rfl) (by kernel_rfl) Tryz.call53 h
def Uy:eH:={js:=[(6,⟨[9],[4,5],9⟩)],ds:=[]}
def W89(v0 v1:Value)(w:World)(K:Q0):=jI 55 v0 w λt2 w1=>aZ 0 t2 λt6=>ldW false 1 t6 w1 λt7=>jN t7 λt8=>eJ [(i64 0)] w1 λs2 _ w3 L2=>aU .lss (s2.getD 0 undef) t8 λt10=>bB t10 (aZ 0 t2 λt12=>ldW false 1 t12 w3 λt13=>iN none 4 t13 (s2.getD 0 undef) λt15=>aZ 0 t15 λt16=>ldW false 1 t16 w3 λt17=>aU .eql t17 v1 λt19=>bB t19 (K (s2.getD 0 undef) w3) (aU .add (s2.getD 0 undef) (i64 1) λt21=>L2 [t21] w3)) (K (.int .i64 (-1)) w3)
theorem Wa{K:Q0}(h:W89 v0 v1 w K):aI P0 89 [v0,v1] w K:=
 tie _ 89 Tryz.f89 Uy _ w K 2 _ rfl mixed Tryz.func89 (by kernel_rfl) (by kernel_rfl) Tryz.call89 h
def Ux:eH:={js:=[(24005,⟨[32],[],30⟩),(16005,⟨[24],[],21⟩),(16011,⟨[18],[],15⟩),(6,⟨[3],[],1⟩)],ds:=[]}
def W90(v0:Value)(w:World)(K:Q0):=eJ [(i64 0)] w λs1 _ w2 L1=>jM v0 λt6=>aU .lss (s1.getD 0 undef) t6 λt7=>bB t7 (mX v0 (s1.getD 0 undef) λt12=>aU .eql t12 (.int .u8 0) λt13=>GdW (isB t13 false) [undef] w2 (λJ3=>mX v0 (s1.getD 0 undef) λt17=>aU .eql t17 (.int .u8 10) λt18=>J3 [t18] w2) λs3 _ w4=>eO t13 (.bool true) (s3.getD 0 undef) λt19=>GdW (isB t19 false) [undef] w4 (λJ5=>mX v0 (s1.getD 0 undef) λt23=>aU .eql t23 (.int .u8 32) λt24=>J5 [t24] w4) λs5 _ w6=>eO t19 (.bool true) (s5.getD 0 undef) λt25=>bB t25 (K (.bool false) w6) (aU .add (s1.getD 0 undef) (i64 1) λt9=>L1 [t9] w6)) (jM v0 λt27=>aU .geq t27 (i64 1) λt28=>GdW (isB t28 true) [undef] w2 (λJ7=>jM v0 λt31=>aU .leq t31 (i64 64) λt32=>J7 [t32] w2) λs7 _ w8=>eO t28 (s7.getD 0 undef) (.bool false) λt33=>K t33 w8)
theorem VZ{K:Q0}(h:W90 v0 w K):aI P0 90 [v0] w K:=
 tie _ 90 Tryz.f90 Ux _ w K 1 _ rfl mixed Tryz.func90 (by kernel_rfl) (by kernel_rfl) Tryz.call90 h
def Uw:eH:={js:=[(12,⟨[],[],3⟩),(4004,⟨[9],[],7⟩)],ds:=[]}
def W91(v0:Value)(w:World)(K:Q0):=jI 55 v0 w λt1 w1=>dY 55 zL2 w1 λt2 w2=>aZ 3 t1 λt4=>ldW false 1 t4 w2 λt5=>GdW (isB t5 false) [undef] w2 (λJ3=>aZ 2 t1 λt7=>ldW false 1 t7 w2 λt8=>aU .eql t8 (i64 0) λt9=>J3 [t9] w2) λs3 _ w4=>eO t5 (.bool true) (s3.getD 0 undef) λt10=>bB t10 (aZ 3 t1 λt11=>stW 1 t11 (.bool true) w4 λw5=>ldW true 4 t1 w5 λt12=>stW 4 t2 t12 w5 λw6=>ldW true 4 t2 w6 λr7=>K (.tuple #[r7,(i64 5)]) w6) (cX (λJ8=>aZ 2 t1 λt13=>ldW false 1 t13 w4 λt14=>aU .gtr t14 (i64 0) λt15=>bB t15 (aZ 2 t1 λt16=>ldW false 1 t16 w4 λt17=>aU .sub t17 (i64 1) λt18=>aZ 2 t1 λt19=>stW 1 t19 t18 w4 λw9=>J8 [] w9) (J8 [] w4)) λs8 _ w10=>aZ 1 t1 λt20=>ldW false 1 t20 w10 λt21=>aU .add t21 (i64 1) λt22=>aZ 1 t1 λt23=>stW 1 t23 t22 w10 λw11=>ldW true 4 t1 w11 λt24=>stW 4 t2 t24 w11 λw12=>ldW true 4 t2 w12 λr13=>K (.tuple #[r13,(i64 0)]) w12)
theorem VY{K:Q0}(h:W91 v0 w K):aI P0 91 [v0] w K:=
 tie _ 91 Tryz.f91 Uw _ w K 1 _ rfl mixed Tryz.func91 (by kernel_rfl) (by kernel_rfl) Tryz.call91 h
def Uv:eH:={js:=[(23,⟨[5,6],[5,6],15⟩),(12,⟨[5,6,14],[5,6,7],14⟩)],ds:=[(25,⟨[0,1,2,3,4,5,6,7,8,9,10,11],[[],[0],[0,1],[0,1,2],[0,1,2,3],[0,1,2],[0,1,2],[0,1,2,5,6],[0,1,2,5,6,7],[0,1,2,5,6,7,8],[0,1,2,3,4,5,6,7,8,9],[0,1,2,3,4,5,6,7,8,9,10]]⟩)]}
def W92(v0 v1:Value)(w:World)(K:Q0):=jI 173 v1 w λt3 w1=>aZ 0 t3 λt9=>ldW false 1 t9 w1 λt10=>aI P0 132 [v0,t10] w1 λt11 w2=>jN t11 λt13=>eJ [sN,(.bool false),(i64 0)] w2 λs3 _ w4 L3=>aU .lss (s3.getD 2 undef) t13 λt15=>bB t15 (cX (λJ5=>unW .not (s3.getD 1 undef) λt18=>GqW (isB t18 true) (λk6=>aZ 0 t3 k6) λt20=>GqW (isB t18 true) (λk7=>ldW false 1 t20 w4.drew k7) λt21=>GqW (isB t18 true) (λk8=>k8 t11) λt22=>GqW (isB t18 true) (λk9=>k9 (s3.getD 2 undef)) λt23=>GqW (isB t18 true) (λk10=>iN none 4 t22 t23 k10) λt24=>GqW (isB t18 true) (λk11=>aZ 0 t24 k11) λt25=>GqW (isB t18 true) (λk12=>ldW false 1 t25 w4.drew k12) λt26=>GqW (isB t18 true) (λk13=>aU .lss t21 t26 k13) λt27=>eO t18 t27 (.bool false) λt28=>bB t28 (ldW true 4 t3 w4.drew λt30=>fV 173 1 [(str []),(str []),(str []),(.bool false)] [(0,4,t30)] w4.drew λt31 w14=>fH P0 (Builtin.append_ #[53,53] 53 #[(s3.getD 0 undef),t31]) w14 λt32 w15=>J5 [t32,(.bool true)] w15) (J5 [(s3.getD 0 undef),(s3.getD 1 undef)] w4.drew)) λs5 _ w16=>iN none 4 t11 (s3.getD 2 undef) λt36=>ldW true 4 t36 w16 λt37=>fV 173 1 [(str []),(str []),(str []),(.bool false)] [(0,4,t37)] w16 λt38 w17=>fH P0 (Builtin.append_ #[53,53] 53 #[(s5.getD 0 undef),t38]) w17 λt39 w18=>aU .add (s3.getD 2 undef) (i64 1) λt40=>L3 [t39,(s5.getD 1 undef),t40] w18) (unW .not (s3.getD 1 undef) λt42=>bB t42 (ldW true 4 t3 w4 λt44=>fV 173 1 [(str []),(str []),(str []),(.bool false)] [(0,4,t44)] w4 λt45 w19=>fH P0 (Builtin.append_ #[53,53] 53 #[(s3.getD 0 undef),t45]) w19 λt46 w20=>K t46 w20) (K (s3.getD 0 undef) w4))
theorem VX{K:Q0}(h:W92 v0 v1 w K):aI P0 92 [v0,v1] w K:=
 tie _ 92 Tryz.f92 Uv _ w K 2 _ rfl mixed Tryz.func92 (by kernel_rfl) (by kernel_rfl) Tryz.call92 h
def PD:eH:={js:=[(15,⟨[5],[5,6],10⟩),(8,⟨[5,9],[5,6],9⟩)],ds:=[]}
def Zj(v0 v1:Value)(w:World)(K:Q0):=jN v0 λt8=>eJ [sN,(i64 0)] w λs1 _ w2 L1=>aU .lss (s1.getD 1 undef) t8 λt10=>bB t10 (cX (λJ3=>iN none 4 v0 (s1.getD 1 undef) λt14=>aZ 0 t14 λt15=>ldW false 1 t15 w2 λt16=>aU .neq t16 v1 λt18=>bB t18 (iN none 4 v0 (s1.getD 1 undef) λt22=>ldW true 4 t22 w2 λt23=>fV 173 1 [(str []),(str []),(str []),(.bool false)] [(0,4,t23)] w2 λt24 w4=>fH P0 (Builtin.append_ #[53,53] 53 #[(s1.getD 0 undef),t24]) w4 λt25 w5=>J3 [t25] w5) (J3 [(s1.getD 0 undef)] w2)) λs3 _ w6=>aU .add (s1.getD 1 undef) (i64 1) λt26=>L1 [(s3.getD 0 undef),t26] w6) (K (s1.getD 0 undef) w2)
theorem SN{K:Q0}(h:Zj v0 v1 w K):aI P0 132 [v0,v1] w K:=
 tie _ 132 Tryz.f132 PD _ w K 2 _ rfl mixed Tryz.func132 (by kernel_rfl) (by kernel_rfl) Tryz.call132 h
def UP:eH:={js:=[],ds:=[]}
def W52(v0:Value)(w:World)(K:Q0):=aI P0 100 [v0] w λt4 w1=>K t4 w1
theorem Ws{K:Q0}(h:W52 v0 w K):aI P0 52 [v0] w K:=
 tie _ 52 Tryz.f52 UP _ w K 1 _ rfl mixed Tryz.func52 (by kernel_rfl) (by kernel_rfl) Tryz.call52 h
def UK:eH:={js:=[],ds:=[]}
def W57(v0:Value)(w:World)(K:Q0):=eqW .slice false v0 sN λt4=>bB t4 (K sN w) (fV 5 0 [] [] w λt5 w1=>fH P0 (Builtin.append_ #[80,80] 80 #[t5,v0]) w1 λt7 w2=>K t7 w2)
theorem Wn{K:Q0}(h:W57 v0 w K):aI P0 57 [v0] w K:=
 tie _ 57 Tryz.f57 UK _ w K 1 _ rfl mixed Tryz.func57 (by kernel_rfl) (by kernel_rfl) Tryz.call57 h
def Uz:eH:={js:=[],ds:=[]}
def W88(v0 v1:Value)(w:World)(K:Q0):=aI P0 131 [v0] w λt7 w1=>dV v0 λt10=>aZ 1 t10 λt11=>ldW false 1 t11 w1 λt12=>fH P0 (Builtin.append_ #[80,9] 80 #[t12,v1]) w1 λt14 w2=>dV v0 λt15=>aZ 1 t15 λt16=>stW 1 t16 t14 w2 λw3=>jM v1 λt18=>K (.tuple #[t18,.nilIface]) w3
theorem Wb{K:Q0}(h:W88 v0 v1 w K):aI P0 88 [v0,v1] w K:=
 tie _ 88 Tryz.f88 Uz _ w K 2 _ rfl mixed Tryz.func88 (by kernel_rfl) (by kernel_rfl) Tryz.call88 h
def Ur:eH:={js:=[],ds:=[]}
def W96(v0 v1:Value)(w:World)(K:Q0):=aI P0 143 [v0,v1] w λt7 w1=>aU .geq t7 (i64 0) λt8=>K t8 w1
theorem VU{K:Q0}(h:W96 v0 v1 w K):aI P0 96 [v0,v1] w K:=
 tie _ 96 Tryz.f96 Ur _ w K 2 _ rfl mixed Tryz.func96 (by kernel_rfl) (by kernel_rfl) Tryz.call96 h
def Up:eH:={js:=[],ds:=[]}
def W98(v0 v1:Value)(w:World)(K:Q0):=aI P0 144 [v0,v1] w λt7 w1=>aU .geq t7 (i64 0) λt8=>K t8 w1
theorem VR{K:Q0}(h:W98 v0 v1 w K):aI P0 98 [v0,v1] w K:=
 tie _ 98 Tryz.f98 Up _ w K 2 _ rfl mixed Tryz.func98 (by kernel_rfl) (by kernel_rfl) Tryz.call98 h
def PZ:eH:={js:=[],ds:=[]}
def Zz(v0 v1:Value)(w:World)(K:Q0):=aI P0 145 [v0,v1] w λt7 w1=>aU .geq t7 (i64 0) λt8=>K t8 w1
theorem Tj{K:Q0}(h:Zz v0 v1 w K):aI P0 101 [v0,v1] w K:=
 tie _ 101 Tryz.f101 PZ _ w K 2 _ rfl mixed Tryz.func101 (by kernel_rfl) (by kernel_rfl) Tryz.call101 h
def PI:eH:={js:=[],ds:=[]}
def Zn(v0 v1:Value)(w:World)(K:Q0):=aI P0 154 [v0,v1] w λt7 w1=>aU .geq t7 (i64 0) λt8=>K t8 w1
theorem SS{K:Q0}(h:Zn v0 v1 w K):aI P0 117 [v0,v1] w K:=
 tie _ 117 Tryz.f117 PI _ w K 2 _ rfl mixed Tryz.func117 (by kernel_rfl) (by kernel_rfl) Tryz.call117 h
def PG:eH:={js:=[],ds:=[]}
def Zl(v0 v1:Value)(w:World)(K:Q0):=aI P0 131 [v0] w λt6 w1=>dV v0 λt9=>aZ 1 t9 λt10=>ldW false 1 t10 w1 λt11=>fV 5 1 [(.int .u8 0)] [(0,1,v1)] w1 λt13 w2=>fH P0 (Builtin.append_ #[80,80] 80 #[t11,t13]) w2 λt14 w3=>dV v0 λt15=>aZ 1 t15 λt16=>stW 1 t16 t14 w3 λw4=>K .nilIface w4
theorem SQ{K:Q0}(h:Zl v0 v1 w K):aI P0 126 [v0,v1] w K:=
 tie _ 126 Tryz.f126 PG _ w K 2 _ rfl mixed Tryz.func126 (by kernel_rfl) (by kernel_rfl) Tryz.call126 h
def PF:eH:={js:=[],ds:=[]}
def Zk(v0 v1:Value)(w:World)(K:Q0):=aI P0 131 [v0] w λt8 w1=>dV v0 λt10=>aZ 1 t10 λt11=>ldW false 1 t11 w1 λt12=>jN t12 λt13=>dV v0 λt16=>aZ 1 t16 λt17=>ldW false 1 t17 w1 λt18=>aI P0 166 [t18,v1] w1 λt20 w2=>dV v0 λt21=>aZ 1 t21 λt22=>stW 1 t22 t20 w2 λw3=>dV v0 λt24=>aZ 1 t24 λt25=>ldW false 1 t25 w3 λt26=>jN t26 λt27=>aU .sub t27 t13 λt29=>K (.tuple #[t29,.nilIface]) w3
theorem SP{K:Q0}(h:Zk v0 v1 w K):aI P0 127 [v0,v1] w K:=
 tie _ 127 Tryz.f127 PF _ w K 2 _ rfl mixed Tryz.func127 (by kernel_rfl) (by kernel_rfl) Tryz.call127 h
def Pz:eH:={js:=[],ds:=[]}
def Zh(v0 v1:Value)(w:World)(K:Q0):=aI P0 171 [v0,v1] w λt7 w1=>aU .geq t7 (i64 0) λt8=>K t8 w1
theorem SK{K:Q0}(h:Zh v0 v1 w K):aI P0 134 [v0,v1] w K:=
 tie _ 134 Tryz.f134 Pz _ w K 2 _ rfl mixed Tryz.func134 (by kernel_rfl) (by kernel_rfl) Tryz.call134 h
def Pq:eH:={js:=[(6,⟨[8],[4,5],8⟩)],ds:=[]}
def YX(v0 v1:Value)(w:World)(K:Q0):=jN v0 λt7=>eJ [(i64 0)] w λs1 _ w2 L1=>aU .lss (s1.getD 0 undef) t7 λt9=>bB t9 (iN none 3 v0 (s1.getD 0 undef) λt14=>ldW true 3 t14 w2 λt15=>mY P0 v1 [t15] w2 λt16 w3=>bB t16 (K (s1.getD 0 undef) w3) (aU .add (s1.getD 0 undef) (i64 1) λt18=>L1 [t18] w3)) (K (.int .i64 (-1)) w2)
theorem SB{K:Q0}(h:YX v0 v1 w K):aI P0 143 [v0,v1] w K:=
 tie _ 143 Tryz.f143 Pq _ w K 2 _ rfl mixed Tryz.func143 (by kernel_rfl) (by kernel_rfl) Tryz.call143 h
def Pp:eH:={js:=[(6,⟨[8],[4,5],8⟩)],ds:=[]}
def YW(v0 v1:Value)(w:World)(K:Q0):=jN v0 λt7=>eJ [(i64 0)] w λs1 _ w2 L1=>aU .lss (s1.getD 0 undef) t7 λt9=>bB t9 (iN none 3 v0 (s1.getD 0 undef) λt14=>ldW true 3 t14 w2 λt15=>mY P0 v1 [t15] w2 λt16 w3=>bB t16 (K (s1.getD 0 undef) w3) (aU .add (s1.getD 0 undef) (i64 1) λt18=>L1 [t18] w3)) (K (.int .i64 (-1)) w2)
theorem SA{K:Q0}(h:YW v0 v1 w K):aI P0 144 [v0,v1] w K:=
 tie _ 144 Tryz.f144 Pp _ w K 2 _ rfl mixed Tryz.func144 (by kernel_rfl) (by kernel_rfl) Tryz.call144 h
def Po:eH:={js:=[(65,⟨[],[4,9,10],46⟩),(26,⟨[],[],2⟩),(39,⟨[8],[4],7⟩),(16,⟨[5],[],1⟩)],ds:=[]}
def YV(v0 v1:Value)(w:World)(K:Q0):=aU .eql v1 (str []) λt12=>bB t12 (K (.int .i64 (-1)) w) (jM v1 λt14=>aU .eql t14 (i64 1) λt15=>bB t15 (mX v1 (i64 0) λt17=>sT .i32 t17 λt18=>cX (λJ1=>aU .geq t18 (.int .i32 128) λt20=>bB t20 (J1 [(.int .i32 65533)] w) (J1 [t18] w)) λs1 _ w2=>aI P0 189 [v0,(s1.getD 0 undef)] w2 λt23 w3=>K t23 w3) (cX (λJ4=>jM v0 λt25=>aI P0 190 [t25] w λt26 w5=>bB t26 (aI P0 191 [v1] w5 λt29 w6=>jC 0 t29 λt30=>jC 1 t29 λt31=>dY 243 (List.replicate 256 (.bool false)) w6 λt6 w7=>stW 256 t6 t30 w7 λw8=>bB t31 (eJ [(i64 0)] w8 λs9 _ w10 L9=>jM v0 λt35=>aU .lss (s9.getD 0 undef) t35 λt36=>bB t36 (mX v0 (s9.getD 0 undef) λt41=>aI P0 192 [t6,t41] w10 λt42 w11=>bB t42 (K (s9.getD 0 undef) w11) (aU .add (s9.getD 0 undef) (i64 1) λt38=>L9 [t38] w11)) (K (.int .i64 (-1)) w10)) (J4 [] w8)) (J4 [] w5)) λs4 _ w12=>fH P0 (Instr.range 9 v0) w12 λt45 w13=>eJ [] w13 λs14 _ w15 L14=>fH P0 (Instr.next t45 true 0) w15 λt46 w16=>jC 0 t46 λt47=>bB t47 (jC 1 t46 λt48=>jC 2 t46 λt49=>aI P0 189 [v1,t49] w16 λt52 w17=>aU .geq t52 (i64 0) λt53=>bB t53 (K t48 w17) (L14 [] w17)) (K (.int .i64 (-1)) w16)))
theorem Sz{K:Q0}(h:YV v0 v1 w K):aI P0 145 [v0,v1] w K:=
 tie _ 145 Tryz.f145 Po _ w K 2 _ rfl mixed Tryz.func145 (by kernel_rfl) (by kernel_rfl) Tryz.call145 h
def Pn:eH:={js:=[],ds:=[]}
def YU(v0 v1:Value)(w:World)(K:Q0):=aI P0 197 [v0,v1] w λt7 w1=>K t7 w1
theorem Sy{K:Q0}(h:YU v0 v1 w K):aI P0 148 [v0,v1] w K:=
 tie _ 148 Tryz.f148 Pn _ w K 2 _ rfl mixed Tryz.func148 (by kernel_rfl) (by kernel_rfl) Tryz.call148 h
def Pj:eH:={js:=[(6,⟨[8],[4,5],8⟩)],ds:=[]}
def YQ(v0 v1:Value)(w:World)(K:Q0):=jN v0 λt7=>eJ [(i64 0)] w λs1 _ w2 L1=>aU .lss (s1.getD 0 undef) t7 λt9=>bB t9 (iN none 1 v0 (s1.getD 0 undef) λt14=>ldW false 1 t14 w2 λt15=>aU .eql v1 t15 λt16=>bB t16 (K (s1.getD 0 undef) w2) (aU .add (s1.getD 0 undef) (i64 1) λt18=>L1 [t18] w2)) (K (.int .i64 (-1)) w2)
theorem Su{K:Q0}(h:YQ v0 v1 w K):aI P0 154 [v0,v1] w K:=
 tie _ 154 Tryz.f154 Pj _ w K 2 _ rfl mixed Tryz.func154 (by kernel_rfl) (by kernel_rfl) Tryz.call154 h
def Pe:eH:={js:=[],ds:=[]}
def YM(v0 v1:Value)(w:World)(K:Q0):=sT .u32 v1 λt6=>aU .leq t6 (.int .u32 127) λt7=>bB t7 (sT .u8 v1 λt10=>fV 5 1 [(.int .u8 0)] [(0,1,t10)] w λt11 w1=>fH P0 (Builtin.append_ #[80,80] 80 #[v0,t11]) w1 λt12 w2=>K t12 w2) (aI P0 207 [v0,v1] w λt15 w3=>K t15 w3)
theorem Sn{K:Q0}(h:YM v0 v1 w K):aI P0 166 [v0,v1] w K:=
 tie _ 166 Tryz.f166 Pe _ w K 2 _ rfl mixed Tryz.func166 (by kernel_rfl) (by kernel_rfl) Tryz.call166 h
def Pd:eH:={js:=[(6,⟨[8],[4,5],8⟩)],ds:=[]}
def YL(v0 v1:Value)(w:World)(K:Q0):=jN v0 λt7=>eJ [(i64 0)] w λs1 _ w2 L1=>aU .lss (s1.getD 0 undef) t7 λt9=>bB t9 (iN none 1 v0 (s1.getD 0 undef) λt14=>ldW false 1 t14 w2 λt15=>mY P0 v1 [t15] w2 λt16 w3=>bB t16 (K (s1.getD 0 undef) w3) (aU .add (s1.getD 0 undef) (i64 1) λt18=>L1 [t18] w3)) (K (.int .i64 (-1)) w2)
theorem Sm{K:Q0}(h:YL v0 v1 w K):aI P0 171 [v0,v1] w K:=
 tie _ 171 Tryz.f171 Pd _ w K 2 _ rfl mixed Tryz.func171 (by kernel_rfl) (by kernel_rfl) Tryz.call171 h
def OO:eH:={js:=[],ds:=[]}
def Yy(v0 v1:Value)(w:World)(K:Q0):=aI P0 213 [v0,v1] w λt7 w1=>aU .geq t7 (i64 0) λt8=>K t8 w1
theorem RY{K:Q0}(h:Yy v0 v1 w K):aI P0 184 [v0,v1] w K:=
 tie _ 184 Tryz.f184 OO _ w K 2 _ rfl mixed Tryz.func184 (by kernel_rfl) (by kernel_rfl) Tryz.call184 h
def OL:eH:={js:=[],ds:=[]}
def Yv(v0 v1:Value)(w:World)(K:Q0):=aI P0 214 [v0,v1] w λt7 w1=>aU .geq t7 (i64 0) λt8=>K t8 w1
theorem RU{K:Q0}(h:Yv v0 v1 w K):aI P0 187 [v0,v1] w K:=
 tie _ 187 Tryz.f187 OL _ w K 2 _ rfl mixed Tryz.func187 (by kernel_rfl) (by kernel_rfl) Tryz.call187 h
def OJ:eH:={js:=[(144,⟨[],[4],16⟩),(153,⟨[16],[],16⟩),(147007,⟨[138],[],133⟩),(137,⟨[9],[4,9],16⟩),(108002,⟨[97],[],85⟩),(108006,⟨[96],[],93⟩),(108008,⟨[92],[],85⟩),(108013,⟨[90],[],86⟩),(108014,⟨[85],[],85⟩),(108020,⟨[82],[],79⟩),(108026,⟨[76],[],73⟩),(82,⟨[12],[],10⟩),(62,⟨[9],[4],9⟩),(53,⟨[9],[4],9⟩),(16,⟨[],[4,5,6],176⟩),(4004,⟨[165],[],164⟩)],ds:=[(163,⟨[0,1,2,3,4,5,6,7,8,9,10],[[],[],[],[1,2],[0,1,2,3],[],[],[],[6,7],[5,6,7,8],[0,1,2,3,4,5,6,7,8,9]]⟩),(92,⟨[0,1,2,3,4,5,6,7,8,9,10],[[],[],[],[1,2],[0,1,2,3],[],[],[],[6,7],[5,6,7,8],[0,1,2,3,4,5,6,7,8,9]]⟩),(67,⟨[0,1,2,3,4,5,6,8],[[],[],[1],[0,1,2],[],[],[4,5],[0,1,2,3,4,5,6],[0,1,2,3,4,5,6,7]]⟩),(64,⟨[0,1,2,3,4,5,6],[[],[],[0,1],[],[],[3,4],[0,1,2,3,4,5]]⟩)]}
def Yt(v0 v1:Value)(w:World)(K:Q0):=aU .leq (.int .i32 0) v1 λt162=>GdW (isB t162 true) [undef] w (λJ1=>aU .lss v1 (.int .i32 128) λt165=>J1 [t165] w) λs1 _ w2=>eO t162 (s1.getD 0 undef) (.bool false) λt166=>bB t166 (sT .u8 v1 λt169=>aI P0 104 [v0,t169] w2 λt170 w3=>K t170 w3) (aU .eql v1 (.int .i32 65533) λt173=>bB t173 (fH P0 (Instr.range 9 v0) w2 λt175 w4=>eJ [] w4 λs5 _ w6 L5=>fH P0 (Instr.next t175 true 0) w6 λt176 w7=>jC 0 t176 λt177=>bB t177 (jC 1 t176 λt178=>jC 2 t176 λt179=>aU .eql t179 (.int .i32 65533) λt181=>bB t181 (K t178 w7) (L5 [] w7)) (K (.int .i64 (-1)) w7)) (aI P0 215 [v1] w2 λt185 w8=>unW .not t185 λt186=>bB t186 (K (.int .i64 (-1)) w8) (KS v1 λt18=>jM t18 λt20=>aU .sub t20 (i64 1) λt21=>eJ [t21] w8 λs9 _ w10 L9=>jM v0 λt25=>aU .lss (s9.getD 0 undef) t25 λt26=>bB t26 (cX (λJ11=>mX v0 (s9.getD 0 undef) λt29=>mX t18 t21 λt32=>aU .neq t29 t32 λt33=>bB t33 (aU .add (s9.getD 0 undef) (i64 1) λt36=>oK v0 (some t36) none λt37=>mX t18 t21 λt40=>aI P0 104 [t37,t40] w10.drew.drew λt41 w12=>aU .lss t41 (i64 0) λt43=>bB t43 (K (.int .i64 (-1)) w12) (aU .add t41 (i64 1) λt46=>aU .add (s9.getD 0 undef) t46 λt47=>J11 [t47] w12)) (J11 [(s9.getD 0 undef)] w10.drew)) λs11 _ w13=>eJ [(i64 1)] w13 λs14 _ w15 L14=>jM t18 λt50=>aU .lss (s14.getD 0 undef) t50 λt51=>bB t51 (aU .sub (s11.getD 0 undef) (s14.getD 0 undef) λt57=>mX v0 t57 λt58=>aU .sub t21 (s14.getD 0 undef) λt62=>mX t18 t62 λt63=>aU .neq t58 t63 λt64=>bB t64 (False) (aU .add (s14.getD 0 undef) (i64 1) λt53=>L14 [t53] w15.drew)) (aU .sub (s11.getD 0 undef) t21 λt67=>K t67 w15)) (K (.int .i64 (-1)) w10))))
theorem RP{K:Q0}(h:Yt v0 v1 w K):aI P0 189 [v0,v1] w K:=
 tie _ 189 Tryz.f189 OJ _ w K 2 _ rfl mixed Tryz.func189 (by kernel_rfl) (by kernel_rfl) Tryz.call189 h
def OI:eH:={js:=[],ds:=[]}
def Ys(v0 v1:Value)(w:World)(K:Q0):=aI P0 103 [v0,v1] w λt7 w1=>bB t7 (jM v1 λt10=>oK v0 (some t10) none λt11=>K t11 w1) (K v0 w1)
theorem RO{K:Q0}(h:Ys v0 v1 w K):aI P0 197 [v0,v1] w K:=
 tie _ 197 Tryz.f197 OI _ w K 2 _ rfl mixed Tryz.func197 (by kernel_rfl) (by kernel_rfl) Tryz.call197 h
def OE:eH:={js:=[(22004,⟨[55],[],54⟩),(11,⟨[25],[],6⟩),(16004,⟨[32],[],31⟩)],ds:=[]}
def Yo(v0 v1:Value)(w:World)(K:Q0):=sT .u32 v1 λt7=>aU .leq t7 (.int .u32 2047) λt13=>bB t13 (aU .shr v1 (.int .u64 6) λt16=>sT .u8 t16 λt17=>aU .or (.int .u8 192) t17 λt18=>sT .u8 v1 λt20=>aU .and t20 (.int .u8 63) λt21=>aU .or (.int .u8 128) t21 λt22=>fV 5 2 [(.int .u8 0),(.int .u8 0)] [(0,1,t18),(1,1,t22)] w λt23 w1=>fH P0 (Builtin.append_ #[80,80] 80 #[v0,t23]) w1 λt24 w2=>K t24 w2) (cX (λJ3=>aU .lss t7 (.int .u32 55296) λt27=>bB t27 (J3 [t27] w) (aU .lss (.int .u32 57343) t7 λt29=>GdW (isB t29 true) [undef] w (λJ4=>aU .leq t7 (.int .u32 65535) λt32=>J4 [t32] w) λs4 _ w5=>eO t29 (s4.getD 0 undef) (.bool false) λt33=>J3 [t33] w5)) λs3 _ w6=>bB (s3.getD 0 undef) (aU .shr v1 (.int .u64 12) λt36=>sT .u8 t36 λt37=>aU .or (.int .u8 224) t37 λt38=>aU .shr v1 (.int .u64 6) λt40=>sT .u8 t40 λt41=>aU .and t41 (.int .u8 63) λt42=>aU .or (.int .u8 128) t42 λt43=>sT .u8 v1 λt45=>aU .and t45 (.int .u8 63) λt46=>aU .or (.int .u8 128) t46 λt47=>fV 5 3 [(.int .u8 0),(.int .u8 0),(.int .u8 0)] [(0,1,t38),(1,1,t43),(2,1,t47)] w6 λt48 w7=>fH P0 (Builtin.append_ #[80,80] 80 #[v0,t48]) w7 λt49 w8=>K t49 w8) (aU .gtr t7 (.int .u32 65535) λt52=>GdW (isB t52 true) [undef] w6 (λJ9=>aU .leq t7 (.int .u32 1114111) λt55=>J9 [t55] w6) λs9 _ w10=>eO t52 (s9.getD 0 undef) (.bool false) λt56=>bB t56 (aU .shr v1 (.int .u64 18) λt59=>sT .u8 t59 λt60=>aU .or (.int .u8 240) t60 λt61=>aU .shr v1 (.int .u64 12) λt63=>sT .u8 t63 λt64=>aU .and t64 (.int .u8 63) λt65=>aU .or (.int .u8 128) t65 λt66=>aU .shr v1 (.int .u64 6) λt68=>sT .u8 t68 λt69=>aU .and t69 (.int .u8 63) λt70=>aU .or (.int .u8 128) t70 λt71=>sT .u8 v1 λt73=>aU .and t73 (.int .u8 63) λt74=>aU .or (.int .u8 128) t74 λt75=>fV 5 4 [(.int .u8 0),(.int .u8 0),(.int .u8 0),(.int .u8 0)] [(0,1,t61),(1,1,t66),(2,1,t71),(3,1,t75)] w10 λt76 w11=>fH P0 (Builtin.append_ #[80,80] 80 #[v0,t76]) w11 λt77 w12=>K t77 w12) (fV 5 3 [(.int .u8 0),(.int .u8 0),(.int .u8 0)] [(0,1,(.int .u8 239)),(1,1,(.int .u8 191)),(2,1,(.int .u8 189))] w10 λt9 w13=>fH P0 (Builtin.append_ #[80,80] 80 #[v0,t9]) w13 λt10 w14=>K t10 w14)))
theorem RH{K:Q0}(h:Yo v0 v1 w K):aI P0 207 [v0,v1] w K:=
 tie _ 207 Tryz.f207 OE _ w K 2 _ rfl mixed Tryz.func207 (by kernel_rfl) (by kernel_rfl) Tryz.call207 h
def OB:eH:={js:=[(6,⟨[8],[4,5],8⟩)],ds:=[]}
def Yl(v0 v1:Value)(w:World)(K:Q0):=jN v0 λt7=>eJ [(i64 0)] w λs1 _ w2 L1=>aU .lss (s1.getD 0 undef) t7 λt9=>bB t9 (iN none 9 v0 (s1.getD 0 undef) λt14=>ldW true 9 t14 w2 λt15=>mY P0 v1 [t15] w2 λt16 w3=>bB t16 (K (s1.getD 0 undef) w3) (aU .add (s1.getD 0 undef) (i64 1) λt18=>L1 [t18] w3)) (K (.int .i64 (-1)) w2)
theorem RD{K:Q0}(h:Yl v0 v1 w K):aI P0 213 [v0,v1] w K:=
 tie _ 213 Tryz.f213 OB _ w K 2 _ rfl mixed Tryz.func213 (by kernel_rfl) (by kernel_rfl) Tryz.call213 h
def OA:eH:={js:=[(6,⟨[8],[4,5],8⟩)],ds:=[]}
def Yk(v0 v1:Value)(w:World)(K:Q0):=jN v0 λt7=>eJ [(i64 0)] w λs1 _ w2 L1=>aU .lss (s1.getD 0 undef) t7 λt9=>bB t9 (iN none 4 v0 (s1.getD 0 undef) λt14=>ldW true 4 t14 w2 λt15=>mY P0 v1 [t15] w2 λt16 w3=>bB t16 (K (s1.getD 0 undef) w3) (aU .add (s1.getD 0 undef) (i64 1) λt18=>L1 [t18] w3)) (K (.int .i64 (-1)) w2)
theorem RB{K:Q0}(h:Yk v0 v1 w K):aI P0 214 [v0,v1] w K:=
 tie _ 214 Tryz.f214 OA _ w K 2 _ rfl mixed Tryz.func214 (by kernel_rfl) (by kernel_rfl) Tryz.call214 h
end
section
open Go Go.Eng Go.RowKit Go.Syn Go.Lex
variable{w:World}{K:Q0}{cs:List Value}{G:Nat->Prop}{T:TypeId}{i:Nat}{n:Nat}{v:Value}{w':World}{P:Program}{c:UInt8}{S:Nat->Prop}
abbrev DT:TypeId:=29
def iT(t:Tok):List Value:=[i64 t.k,str t.t,i64 t.a]
def yU(w:World)(p:Nat):Nat:=match w.heap[p]? with|some (.cells c _ _)=>(match(c[1]?:Option Value)with|some (Value.int _ i)=>i.toNat|_=>0)|_=>0
theorem PR.at_{w0:World}{p f:Nat}{M:Lay}{vt:Value}{s:PS}{top:List Nat}(h:PR w0 w p f M vt s top):yU w p=s.i:=by
 unfold yU;rw[h.ps];simp
theorem wsi{N:Int}{s:PS}(h:WS N s)(hN:s.toks.length<=100000):s.i<=1000000:=by have:=h.lt;omega
section
variable [HX]
def Thr(w0:World)(f:Nat)(code at_:Int):Prop:=
 ∀(d:Nat) (w':World) (cs:List Value),Chg (Of f) w0 w'->w0.heap.size<=d->cs.length=3->w'.heap[f]?=some (.cells cs.toArray FlT (0,0))->w'.heap[d]?=some (.cells [i64 code,str [],i64 at_].toArray 48 (0,0))->HX.X [{v:=.iface DT (.pointer (some ⟨d,0,none⟩)),recovered:=false}] w'
section
variable{w0 w:World}{p f:Nat}{M:Lay}{vt:Value}{s:PS}{top:List Nat}{N:Int}{K:Q0}
theorem qN{e a:Int}(h:PR w0 w p f M vt s top)(I:Thr w0 f e a):aI P0 33 [i64 e,i64 a] w K:=by
 refine Wy ?_;unfold W33;simp only[dF,dK,dC,aB,aK,aL,aN];refine⟨by omega,by omega,?_⟩;refine fX (z:=[i64 e,str [],i64 a]) λd w' hd J hb o=>?_;have j:=h.ext o;exact I d w' _ j.ch (by have:=h.base;omega) (by rfl) j.fr.hf hb
theorem tD:∀{l:List Tok} {i:Nat} {t:Tok},l[i]?=some t->kF (l.drop i)=if t.k=5 then kF (l.drop (i+1))+1 else 0:=by
 intro l i t h;have j:=(List.getElem?_eq_some_iff.1 h).1;rw[dQ j,(List.getElem?_eq_some_iff.1 h).2];rfl
theorem oJ(h:PR w0 w p f M vt s top)(hs:WS N s)(hN:N<=1000000)(hl:s.toks.length<=100000)(hK:∀w',PR w0 w' p f M vt (bE s) top->Eff p f M M w w'->K (.agg (iT (cur s)).toArray) w'):
  aI P0 31 [.pointer (some ⟨p,0,none⟩)] w K:=by
 refine WA ?_;unfold W31;refine cI λb w1 hb xp xu xe=>?_;have hp:=h.lt;have h1:=h.ext xe;have L1:=h.loc xp hb xu;refine eJ.go (λst w'=>st=[]/\∃j,PR w0 w' p f M vt {s with i:=j} top/\s.i<=j/\bE {s with i:=j}=bE s/\j<=(bE s).i/\Eff p f M M w w'/\Loc w0 w' p f M vt b TkT [i64 0,str [],i64 0]) (λ_ w'=>s.toks.length-yU w' p)
  ⟨rfl,s.i,h1,aY _,rfl,GF s,Eff.ext xe,L1⟩ ?_
 rintro st g w2 ⟨rfl,j,h2,hj,I,yi,hz,L2⟩;have hg:=jE hs;have hy:j<s.toks.length:=by have:=(hg.ws hs).lt;rw[hg.toks]at this;omega
 have xf:WS N {s with i:=j}:=⟨hs.tg,hy,hs.pN⟩;obtain⟨t,ht⟩:∃t,s.toks[j]?=some t:=⟨_,List.getElem?_eq_getElem hy⟩;have h3:=h2.drew;have sl:gD w2.drew TkT vt s.toks.length (toks s.toks):=h3.tk;have stop:bE {s with i:=j}={s with i:=j}->dV (.pointer (some ⟨p,0,none⟩)) (λt30=>aZ 0 t30 λt31=>ldW false 1 t31 w2.drew.drew λt32=>dV (.pointer (some ⟨p,0,none⟩)) λt34=>aZ 1 t34 λt35=>ldW false 1 t35 w2.drew.drew λt36=>iN none 3 t32 t36 λt37=>ldW true 3 t37 w2.drew.drew λt38=>dY TkT [(.int .i64 0),(.string (ofL [])),(.int .i64 0)] w2.drew.drew λt3 w17=>(ldW true 3 t37 w17 λx=>x=t38)/\(ldW false 1 t35 w17 λx=>x=t36)/\(ldW false 1 t31 w17 λx=>x=t32)/\stW 3 t3 t38 w17 λw18=>aZ 2 t3 λt39=>ldW false 1 t39 w18.drew λt40=>dV (.pointer (some ⟨p,0,none⟩)) λt42=>aZ 2 t42 λt43=>ldW false 1 t43 w18.drew λt44=>aU .add t40 t44 λt45=>aZ 2 t3 λt46=>stW 1 t46 t45 w18.drew λw19=>ldW true 3 t3 w19 λt47=>stW 3 (.pointer (some ⟨b,0,none⟩)) t47 w19 λw20=>ldW true 3 (.pointer (some ⟨b,0,none⟩)) w20 λr21=>K r21 w20):=λhn=>by
  have h4:=h3.drew;have ecur:cur s={t with a:=t.a+s.off}:=by
   unfold cur;rw[<-I,hn];have:mR {s with i:=j}=t:=by unfold mR;rw[List.getD_eq_getElem?_getD,ht];rfl
   rw[this]
  have xh:=xf.tg.pos j t ht;simp only at xh;have ldT:∀{w':World},PR w0 w' p f M vt {s with i:=j} top->ldW false 1 (.pointer (some ((⟨p,0,none⟩:Addr).add 0))) w' λx=>x=vt:=λh=>by
   rw[dX];exact⟨vt,by rw[bG,cA,h.ps,bM];rfl,rfl⟩
  have ldI:∀{w':World},PR w0 w' p f M vt {s with i:=j} top->ldW false 1 (.pointer (some ((⟨p,0,none⟩:Addr).add 1))) w' λx=>x=i64 (j:Nat):=λh=>by
   rw[dX];exact⟨_,by rw[bG,cA,h.ps,bM];rfl,rfl⟩
  refine h4.ld rfl ?_;refine h4.ld rfl ?_;refine Cu (size:=3) h4.tk (BU _) (by omega) hy λtb o c fr U hc=>?_;have hcell:∀i,i<3->c[o+i]?=(iT t)[i]?:=λi hi=>by rw[hc i hi];exact FX ht hi
  have three:∀{w':World},w'.heap[tb]?=some (.cells c TkT fr)->bN w' ⟨tb,o,none⟩ 0 3=some (iT t):=λh=>by
   have h0:=hcell 0 (by omega);have h1:=hcell 1 (by omega);have h2:=hcell 2 (by omega);simp only[iT,cN,List.getElem?_cons_zero,List.getElem?_cons_succ]at h0 h1 h2;simp only[bN,bG,cA,h,bM,cN,h0,h1,h2,aG,Nat.reduceAdd];rfl
  rw[yZ];refine⟨iT t,three U,?_⟩;refine cI λb2 w5 xw xo xk J=>?_;have h5:=h4.ext J;have L5:=h4.loc xo xw xk;have xg:=J.at U id;refine⟨by rw[yZ];exact⟨_,three xg,rfl⟩,ldI h5,ldT h5,?_⟩;refine dD (l:=iT t) L5.1 rfl rfl rfl λw6 ye xv xb=>?_;have L6:Loc w0 w6 p f M vt b2 TkT (iT t):=⟨xv,L5.2.up (by omega)⟩;have h6:=h5.one xb L5.2;refine L6.drew.ldf rfl ?_;refine h6.drew.ld (v:=i64 s.off) rfl ?_;rw[cG,fE (by omega) (by omega),bD,bG,aH];refine L6.drew.st rfl (by simp[iT]) λw7 L7 xa yd=>?_;have h7:=h6.drew.one xa L6.drew.2;refine fQ (l:=iT (cur s)) (by rw[L7.1,ecur];rfl) rfl ?_;have ho:b2≠b:=by have:=L2.lt;have:w2.drew.drew.heap.size=w2.heap.size:=rfl;omega
  have L2':=(((L2.drew.drew.ext J).one xb (jS ho)).drew.one xa (jS ho));refine uR (l:=iT (cur s)) L2'.1 rfl rfl rfl λw8 xj=>?_;have h8:=h7.one xj L2'.2;refine hK w8 (by rw[<-I,hn];exact h8) ?_;have yg:=hz.chg.size;have z1:w2.drew.drew.heap.size=w2.heap.size:=rfl;exact((((((hz.x (cP _)).x (cP _)).x J).one xb (by omega)).x (cP _)).one xa (by omega)).one xj (by omega)
 by_cases hq:s.quiet=true
 ·refine h3.ld (v:=.bool true) (by simp[hq]) ?_;simp only[fO,ND];refine⟨_,rfl,_,rfl,_,rfl,vt,by rw[dX];exact⟨vt,by rw[bG,cA,h3.ps,bM];rfl,rfl⟩,_,rfl,_,rfl,_,rfl,i64 (j:Nat),by rw[dX];exact⟨_,by rw[bG,cA,h3.ps,bM];rfl,rfl⟩,?_⟩;obtain⟨q,cap,hv,g1,g2,g3⟩:=sl;have xq:toks s.toks≠[]:=λe=>by have:=congrArg List.length e;rw[BU,aK]at this;omega
  obtain⟨tb,o,c,fr,rfl,U,xt⟩:=g3 xq;have xz:(toks s.toks).length=s.toks.length*3:=BU _;refine⟨.pointer (some ((⟨tb,o,none⟩:Addr).add (j*3))),?_,.pointer (some (((⟨tb,o,none⟩:Addr).add (j*3)).add 0)),rfl,i64 t.k,?_,.bool (decide (t.k=5)),by rw[bX],?_⟩
  ·rw[hv,eG];exact⟨by omega,by omega,by rw[bC]⟩
  ·rw[dX];refine⟨_,?_,rfl⟩;rw[bG,bG,cA,U,bM,cN,xt _ (by omega)];have:=FX (j:=0) ht (by omega);rw[cN]at this;exact this
  rw[gS,bA];refine⟨λhk=>?_,λhk=>stop ?_⟩
  ·have hh:bE {s with i:=j+1}=bE s:=by
    rw[<-I];unfold bE;simp only[hq,pH];have e:=tD ht;rw[aO hk]at e;rw[e];congr 1;omega
   refine h3.go (wsi xf hl) λw4 h4 xi yf=>?_;refine⟨⟨trivial,j+1,h4,by omega,hh,?_,(hz.x (cP _)).trans xi,L2.drew.eff xi⟩,?_⟩
   ·rw[<-hh];exact GF {s with i:=j+1}
   ·rw[h4.at_,h2.at_];simp only[step1];omega
  ·have e:=tD ht;rw[aJ hk]at e;unfold bE;simp only[hq,pH,e,cN]
 ·have hq:s.quiet=false:=by simpa using hq
  refine h3.ld (v:=.bool false) (by simp[hq]) ?_;simp only[fO,HG];rw[gP,bW];exact stop (by unfold bE;simp only[hq];rfl)
end
end
theorem qQ{xs:List Value}(h:gD w T v n xs)(U:Chg S w w')(hS:∀k,v.ownBlock=some k->¬S k):gD w' T v n xs:=by
 obtain⟨q,cap,I,h1,h2,h3⟩:=h;refine⟨q,cap,I,h1,h2,λj=>?_⟩;obtain⟨b,off,c,fr,J,hb,o⟩:=h3 j;exact⟨b,off,c,fr,J,U.at hb (hS b (by rw[I,J];rfl)),o⟩
def aAc(w0 w:World)(p f:Nat)(M:Lay)(vt:Value)(v:Value)(T:TypeId)(n:Nat)(cs:List Value):Prop:=gD w T v n cs/\∀k,v.ownBlock=some k->Off w0 w p f M vt k
theorem upi(h:i<=4611686018427387904):IntKind.i64.wrap ((i:Int)+1)=((i+1:Nat):Int):=by rw[fE (by omega) (by omega)];rfl
def rR:List Str->Str->Nat->Int
 |[],_,_=>-1
 |a::r,x,i=>if x=a then(i:Nat)else rR r x (i+1)
theorem Gc(x:Str):∀(l:List Str) (i:Nat),(0<=rR l x i↔x∈l)
 |[],i=>by simp[rR]
 |a::r,i=>by
  simp only[rR]
  split
  ·rename_i h
   simp[h]
  ·rename_i h
   rw[Gc x r (i+1)]
   simp[h]
theorem vG{x:Str}{K:Q0}(J:∀b w',b=w.heap.size->w'.heap.size=w.heap.size+1->w'.heap[b]?=some (.cells [str x].toArray StT (0,0))->Ext w w'->K (.slice (some ⟨b,0,none⟩) 1 1) w'):fV StT 1 [(.string (ofL []))] [(0,1,str x)] w K:=by
 rw[fV];simp only[dK,dC,aB,aK,aL];refine⟨by omega,?_⟩;exact row_new λa w' I j hb o _=>J a w' I j hb o
theorem lM{x:Int}{K:Q0}(J:∀b w',b=w.heap.size->w'.heap.size=w.heap.size+1->w'.heap[b]?=some (.cells [i64 x].toArray lC (0,0))->Ext w w'->K (.slice (some ⟨b,0,none⟩) 1 1) w'):fV lC 1 [(.int .i64 0)] [(0,1,i64 x)] w K:=by
 rw[fV];simp only[dF,dC,aB,aK,aL];refine⟨by omega,?_⟩;exact row_new λa w' I j hb o _=>J a w' I j hb o
theorem Hu{x y:Int}{K:Q0}(J:∀b w',b=w.heap.size->w'.heap.size=w.heap.size+1->w'.heap[b]?=some (.cells [i64 x,i64 y].toArray lC (0,0))->Ext w w'->K (.slice (some ⟨b,0,none⟩) 2 2) w'):fV lC 2 [(.int .i64 0),(.int .i64 0)] [(0,1,i64 x),(1,1,i64 y)] w K:=by
 rw[fV];simp only[dF,dC,aB,aK,aL,aN];refine⟨by omega,by omega,?_⟩;exact row_new λa w' I j hb o _=>J a w' I j hb o
theorem Nm{x y z:Int}{K:Q0}(J:∀b w',b=w.heap.size->w'.heap.size=w.heap.size+1->w'.heap[b]?=some (.cells [i64 x,i64 y,i64 z].toArray lC (0,0))->Ext w w'->K (.slice (some ⟨b,0,none⟩) 3 3) w'):fV lC 3 [(.int .i64 0),(.int .i64 0),(.int .i64 0)] [(0,1,i64 x),(1,1,i64 y),(2,1,i64 z)] w K:=by
 rw[fV];simp only[dF,dC,aB,aK,aL,aN];refine⟨by omega,by omega,by omega,?_⟩;exact row_new λa w' I j hb o _=>J a w' I j hb o
theorem Aq{z d:List Value}{K:Q0}(hd:d.length=n)(j:z.length=n)(U:∀b w',b=w.heap.size->w'.heap.size=w.heap.size+1->w'.heap[b]?=some (.cells d.toArray T (0,0))->Ext w w'->K (.slice (some ⟨b,0,none⟩) 1 1) w'):fV T 1 z [(0,n,.agg d.toArray)] w K:=by
 rw[fV];simp only[iX,Value.cells];refine⟨by simpa using hd,by omega,?_⟩;have e:(z.take 0++(d++z.drop (0+n)))=d:=by rw[List.take_zero,gJ,aH,<-j,fZ,eZ]
 rw[e];exact row_new λa w' J o hb I _=>U a w' J o hb I
theorem zN{b:Nat}(h:w.heap[b]?=some (.cells cs.toArray T (0,0)))(j:cs.length=n):gD w T (.slice (some ⟨b,0,none⟩) n n) n cs:=
 ⟨_,_,rfl,aY _,λe=>(by cases e),λ_=>⟨b,0,cs.toArray,_,rfl,h,λi _=>by simp⟩⟩
theorem Me{B b m:Nat}(h:w.heap[b]?=some (.cells cs.toArray T (0,0)))(hB:B<=b)(j:cs.length=n*m)(o:n<=1000000):Own w B T m (.slice (some ⟨b,0,none⟩) n n) n cs:=
 ⟨j,.inr ⟨b,n,cs.toArray,rfl,hB,h,aY _,by unfold maxLen;omega,by simpa using j,by simp[<-j]⟩⟩
theorem Fj{f:Nat}{a a' b d:List Nat}(h:(f::(a++b)).Nodup)(J:∀k∈f::(a++b),k<n)(hg:a'.Nodup)(hn:∀k∈a',k∈a\/n<=k)(hd:d.Nodup)(j:∀k∈d,k<n/\k∉f::(a++b)):(f::(a'++(d++b))).Nodup:=by
 rw[dB,gQ]at h;obtain⟨hf,_,hb,hc⟩:=h;have new:∀k∈a',k∉b/\k≠f/\k∉d:=λk I=>by
  rcases hn k I with I|I
  ·exact⟨λe=>hc k I k e rfl,λe=>hf (e▸bS _ I),λe=>(j k e).2 (aE _ (bS _ I))⟩
  ·exact⟨λe=>by have:=J k (aE _ (bF _ e));omega,λe=>by have:=J k (by rw[e];exact aW);omega,λe=>by have:=(j k e).1;omega⟩
 rw[dB];refine⟨λe=>?_,?_⟩
 ·rcases bH.1 e with e|e
  ·exact(new f e).2.1 rfl
  rcases bH.1 e with e|e
  ·exact(j f e).2 aW
  ·exact hf (bF _ e)
 ·refine gQ.2 ⟨hg,gQ.2 ⟨hd,hb,λx U y o e=>?_⟩,λx U y o e=>?_⟩
  ·subst e;exact(j x U).2 (aE _ (bF _ o))
  ·subst e;rcases bH.1 o with o|o
   ·exact(new x U).2.2 o
   ·exact(new x U).1 o
theorem uL(v:Value)(c:List Value):ub (v::c)=ub [v]++ub c:=by
 rw[<-mQ];rfl
theorem nB(v:Value):(ub [v]).Nodup:=by
 unfold ub;cases h:v.ownBlock with
 |none=>simp[h]
 |some k=>simp[h]
theorem HO(M:Lay)(f:Nat):M.uses f=f::(ub [M.vE]++ub ([M.vB,M.vT]++(M.cE++M.cB))):=by
 unfold Lay.uses;rw[gH,uL]
theorem NL(M:Lay)(f:Nat)(v:Value)(d:List Value):(({M with vE:=v,cE:=M.cE++d}:Lay).uses f).Perm (f::(ub [v]++(ub d++ub ([M.vB,M.vT]++(M.cE++M.cB))))):=by
 rw[BP];intro a;rw[HO];simp only[mQ,kV,vQ];omega
theorem HP(M:Lay)(f:Nat):(M.uses f).Perm (f::(ub [M.vB]++ub ([M.vE,M.vT]++(M.cE++M.cB)))):=by
 rw[BP];intro a;unfold Lay.uses;simp only[mQ,kV,vQ];rw[uL M.vE,uL M.vB,uL M.vE [M.vT]];simp only[kV];omega
theorem NM(M:Lay)(f:Nat)(v:Value)(d:List Value):(({M with vB:=v,cB:=M.cB++d}:Lay).uses f).Perm (f::(ub [v]++(ub d++ub ([M.vE,M.vT]++(M.cE++M.cB))))):=by
 rw[BP];intro a;rw[(HP _ f).count_eq];simp only[mQ,kV,vQ];omega
section
variable{w0 w w1 w2:World}{p f:Nat}{M:Lay}{vt:Value}{s:PS}{top:List Nat}
theorem PR.putE(h:PR w0 w p f M vt s top){wb:World}{M0:Lay}(I:Eff p f M0 M wb w){e:Ex}{d:List Value}{v':Value}(hd:ExR w w0.heap.size e d)(J:∀k∈ub d,Off w0 w p f M vt k)(hn:(ub d).Nodup)(hi:∀k∈ub d,wb.heap.size<=k)
  (hO:Own w1 w0.heap.size ExT 5 v' (s.ex.length+1) (M.cE++d))(hs:Chg (λk=>M.vE.ownBlock=some k) w w1)(o:∀k,v'.ownBlock=some k->M.vE.ownBlock=some k\/w.heap.size<=k)
  (hc:Chg (One f) w1 w2)(hf:w2.heap[f]?=some (.cells [v',M.vB,M.vT].toArray FlT (0,0))):PR w0 w2 p f {M with vE:=v',cE:=M.cE++d} vt {s with ex:=s.ex++[e]} top/\Eff p f M0 {M with vE:=v',cE:=M.cE++d} wb w2/\∀b T cs,Loc w0 w p f M vt b T cs->b∉ub d->Loc w0 w2 p f {M with vE:=v',cE:=M.cE++d} vt b T cs:=by
 have hb:=h.base;have xc:=I.chg.size;have eE:=HO M f;have use:∀k,M.vE.ownBlock=some k->k∈M.uses f:=λk j=>aE _ (dS (v:=M.vE) (by simp) j);have hj:=h.fr.nd;rw[eE,dB,gQ]at hj;obtain⟨nf,_,nb,nab⟩:=hj;have rest:∀k∈ub ([M.vB,M.vT]++(M.cE++M.cB)),M.vE.ownBlock≠some k/\k≠f/\k<w.heap.size:=λk j=>
  ⟨λe=>nab k (jJ.2 e) k j rfl,λe=>nf (e▸bF _ j),h.fr.lt k (by rw[eE];exact aE _ (bF _ j))⟩
 have c12:Chg (λk=>M.vE.ownBlock=some k\/k=f) w w2:=(hs.mono λk _ e=>.inl e).trans (hc.mono λk _ e=>.inr e);have sub:∀v∈[M.vB,M.vT]++(M.cE++M.cB),∀k,v.ownBlock=some k->¬(M.vE.ownBlock=some k\/k=f):=λv o k j e=>by
  have:=rest k (dS o j);exact e.elim this.1 this.2.1
 have xa:∀k,v'.ownBlock=some k->k≠f:=λk j e=>by
  subst e;rcases o k j with e|e
  ·exact nf (bS _ (jJ.2 e))
  ·have:=mJ h.fr.hf;omega
 have nE:M.vE.ownBlock≠some p:=λe=>h.np (use p e);have pf:p≠f:=λe=>h.np (e▸aW);have perm:=NL M f v' d;have hN:(f::(ub [v']++(ub d++ub ([M.vB,M.vT]++(M.cE++M.cB))))).Nodup:=Fj (n:=w.heap.size) (a:=ub [M.vE]) (by rw[<-eE];exact h.fr.nd) (λk j=>h.fr.lt k (by rw[eE];exact j)) (nB _) (λk j=>(o k (jJ.1 j)).imp (λe=>jJ.2 e) id) hn λk j=>⟨(J k j).1.2,by rw[<-eE];exact(J k j).2.2.1⟩;have hz:=c12.size;have mem:∀k∈({M with vE:=v',cE:=M.cE++d}:Lay).uses f,k=f\/v'.ownBlock=some k\/k∈ub d\/k∈ub ([M.vB,M.vT]++(M.cE++M.cB)):=λk j=>by
  have j:=perm.mem_iff.1 j;rcases aX.1 j with e|e
  ·exact .inl e
  rcases bH.1 e with e|e
  ·exact .inr (.inl (jJ.1 e))
  rcases bH.1 e with e|e
  ·exact .inr (.inr (.inl e))
  ·exact .inr (.inr (.inr e))
 have cT:Chg (Tn p f M) w w2:=c12.mono λk _ e=>e.elim (λe=>.inr (.inr (.inl e))) λe=>.inr (.inl e);refine⟨⟨?_,⟨hf,?_,?_,?_,?_,?_,perm.nodup_iff.2 hN,λk j=>?_,λk j=>?_⟩,?_,?_,λe=>?_,h.lo,λk j=>?_⟩,⟨(I.trans (Eff.of cT)).chg,λk j=>?_,λk j=>(o k j).elim (I.hE k) λe=>.inr (by omega),I.hB,I.hT⟩,λb T cs hL hy=>⟨cT.at hL.1 hL.2.no,⟨hL.2.1.1,cV hL.2.1.2 hz⟩,hL.2.2.1,λj=>?_,hL.2.2.2.2⟩⟩
 ·refine h.ch.then c12 λk j e=>?_;rcases e with e|e
  ·exact(h.fr.lo k (use k e)).resolve_right (by omega)
  ·exact e
 ·rw[aP];exact dP hO hc λk j e=>xa k j e
 ·exact dP h.fr.oB c12 (sub _ (by simp))
 ·exact dP h.fr.oT c12 (sub _ (by simp))
 ·refine kM.snoc ?_ (hd.at_ c12 λk j e=>?_) (by obtain⟨va,vk,rfl,_⟩:=hd;rfl)
  ·refine h.fr.ee.imp λx d hd hx=>hx.at_ c12 λk j=>?_;obtain⟨v,o,j⟩:=bO.1 j;exact sub v (by simp[hd v o]) k j
  ·have U:=(J k j).2.2.1;rcases e with e|e
   ·exact U (use k e)
   ·exact U (e▸aW)
 ·refine h.fr.bb.imp λx d hd hx=>hx.at_ c12 λk j=>?_;obtain⟨v,o,j⟩:=bO.1 j;exact sub v (by simp[hd v o]) k j
 ·rcases mem k j with e|e|e|e
  ·rw[e];exact mJ hf
  ·exact cV (kA hO e).1 hc.size
  ·exact cV (J k e).1.2 hz
  ·exact cV (rest k e).2.2 hz
 ·rcases mem k j with e|e|e|e
  ·exact .inl e
  ·exact .inr (kA hO e).2
  ·exact .inr (J k e).1.1
  ·exact h.fr.lo k (by rw[eE];exact aE _ (bF _ e))
 ·exact c12.at h.ps λe=>e.elim nE pf
 ·exact qQ h.tk c12 λk j e=>by
   have:=(h.nt k j).1;rcases e with e|e
   ·exact this (use k e)
   ·exact this (e▸aW)
 ·rcases mem p e with e|e|e|e
  ·exact pf e
  ·exact(o p e).elim nE λe=>by have:=h.lt;omega
  ·exact(J p e).2.1 rfl
  ·exact h.np (by rw[eE];exact aE _ (bF _ e))
 ·have ht:=h.nt k j;refine⟨λe=>?_,ht.2.1,cV ht.2.2 hz⟩;rcases mem k e with e|e|e|e
  ·exact ht.1 (e▸aW)
  ·exact(o k e).elim (λe=>ht.1 (use k e)) λe=>by omega
  ·exact(J k e).2.2.2 j
  ·exact ht.1 (by rw[eE];exact aE _ (bF _ e))
 ·rcases mem k j with e|e|e|e
  ·exact I.us k (e▸aW)
  ·exact(o k e).elim (λe=>I.us k (use k e)) λe=>.inr (by omega)
  ·exact .inr (hi k e)
  ·exact I.us k (by rw[eE];exact aE _ (bF _ e))
 ·have U:=hL.2;rcases mem b j with e|e|e|e
  ·exact U.2.2.1 (e▸aW)
  ·exact(o b e).elim (λe=>U.2.2.1 (use b e)) λe=>by have:=U.1.2;omega
  ·exact hy e
  ·exact U.2.2.1 (by rw[eE];exact aE _ (bF _ e))
end
section
variable [HX]
variable{w0 w:World}{p f:Nat}{M:Lay}{vt:Value}{s:PS}{top:List Nat}{N:Int}{K:Q0}
theorem Jx{l:List Str}{x:Str}{K:Q0}(h:gD w T v l.length (strs l))(hl:l.length<=1000000)(J:K (i64 (rR l x 0)) w):aI P0 154 [v,str x] w K:=by
 refine Su ?_;unfold YQ;rw[jH h];refine eJ.go (λst w'=>∃j:Nat,st=[i64 j]/\j<=l.length/\w'=w/\rR (l.drop j) x j=rR l x 0) (λst _=>match st with|[.int _ j]=>l.length-j.toNat|_=>0) ⟨0,rfl,by omega,rfl,rfl⟩ ?_;rintro st g w' ⟨j,rfl,hj,rfl,o⟩;simp only[aF];rw[dT,bA];refine⟨λI=>?_,λU=>?_⟩
 ·have I:j<l.length:=by omega
  refine pX (x:=str l[j]) h (by simp[strs]) (by simp[strs,I]) ?_;rw[dQ I]at o;simp only[rR]at o;rw[eC,bA];refine⟨λe=>?_,λe=>?_⟩
  ·rw[aO e]at o;rw[o];exact J
  ·rw[aJ e]at o;rw[cG,upi (by omega)];exact⟨⟨j+1,rfl,by omega,trivial,o⟩,by simp only[bC];omega⟩
 ·rw[gL (by omega)]at o;simp only[rR]at o;rw[o];exact J
theorem xE{l:List Str}{x:Str}{K:Q0}(h:gD w T v l.length (strs l))(hl:l.length<=1000000)(j:K (.bool (decide (x∈l))) w):aI P0 117 [v,str x] w K:=by
 refine SS ?_;unfold Zn;refine Jx h hl ?_;rw[fP];simp only[Gc];exact j
theorem Io(h:PR w0 w p f M vt s top)(hs:WS N s)(hN:N<=1000000)(hl:s.toks.length<=100000)(hK:∀w',PR w0 w' p f M vt (kI s) top->Eff p f M M w w'->K (.agg (iT (cur s)).toArray) w'):
  aI P0 64 [.pointer (some ⟨p,0,none⟩)] w K:=by
 refine Wi ?_;unfold W64;refine cI λb w1 hb hj ht U=>?_;have h1:=h.ext U;have L1:=h.loc hj hb ht;refine oJ h1 hs hN hl λw2 h2 I=>?_;have L2:=L1.eff I;refine cI λb2 w3 hx hi hg o=>?_;have h3:=h2.ext o;have L3:=h2.loc hi hx hg;have ho:b≠b2:=by have:=L2.lt;omega
 have L23:=L2.ext o;refine dD (l:=iT (cur s)) L3.1 rfl rfl rfl λw4 xb hv J=>?_;have L4:Loc w0 w4 p f M vt b2 TkT (iT (cur s)):=⟨hv,L3.2.up (by omega)⟩;have h4:=h3.one J L3.2;have L24:=L23.one J ho;have hr:Eff p f M M w w4:=(((Eff.ext U).trans I).x o).one J (by have:=I.chg.size;omega);refine cX.cut (λ_ w'=>PR w0 w' p f M vt (kI s) top/\Eff p f M M w4 w') ?_ ?_
 ·refine L4.ldf rfl ?_;rw[eX,bA];unfold kI;refine⟨λhk=>?_,λhk=>?_⟩
  ·rw[aO hk];exact h4.go (wsi ((jE hs).ws hs) (by rw[(jE hs).toks];exact hl)) λw5 h5 j _=>⟨h5,j⟩
  ·rw[aJ hk];exact⟨h4,Eff.refl _ _ _ _⟩
 rintro st g w5 ⟨h5,j⟩;have L5:=L4.eff j;have L25:=L24.eff j;refine fQ L5.1 rfl ?_;refine uR (l:=iT (cur s)) L25.1 rfl rfl rfl λw6 hc=>?_;exact hK w6 (h5.one hc L25.2) ((hr.trans j).one hc (by omega))
theorem VC{x:Str}(h:PR w0 w p f M vt s top)(hs:WS N s)(hN:N<=1000000)(hl:s.toks.length<=100000)(hv:aAc w0 w p f M vt v StT 1 [str x])(hK:∀w',PR w0 w' p f M vt (bE s) top->Eff p f M M w w'->K (.bool (isS s x)) w'):
  aI P0 65 [.pointer (some ⟨p,0,none⟩),v] w K:=by
 refine Wh ?_;unfold W65;refine oJ h hs hN hl λw1 h1 I=>?_;refine cI λb w2 hb hc hg j=>?_;have h2:=h1.ext j;have L2:=h1.loc hc hb hg;refine dD (l:=iT (cur s)) L2.1 rfl rfl rfl λw3 ho hh U=>?_;have L3:Loc w0 w3 p f M vt b TkT (iT (cur s)):=⟨hh,L2.2.up (by omega)⟩;have h3:=h2.one U L2.2;have o:Eff p f M M w w3:=(I.x j).one U (by have:=I.chg.size;omega);have sl3:gD w3 StT v 1 [str x]:=qQ hv.1 o.chg λk hk=>(hv.2 k hk).no;refine L3.ldf rfl ?_;rw[bX];refine GdW.look (decide ((cur s).t=x)) (λ_ J hJ=>?_) λg=>?_
 ·refine L3.ldf rfl ?_;refine xE (l:=[x]) sl3 (by simp) ?_;simpa using hJ
 ·simp only[aF,fO];rw[fB];exact hK w3 h3 o
theorem tJ{x:Str}(h:PR w0 w p f M vt s top)(J:WS N s)(hN:N<=1000000)(hl:s.toks.length<=100000)(I:∀w',PR w0 w' p f M vt (cD s x).2 top->Eff p f M M w w'->K (.bool (cD s x).1) w'):
  aI P0 68 [.pointer (some ⟨p,0,none⟩),str x] w K:=by
 refine Wd ?_;unfold W68;refine vG λb w1 hb U o j=>?_;have h1:=h.ext j;have L1:=h.loc U hb o;refine VC h1 J hN hl ⟨zN o rfl,λk hk=>by simp only[Value.ownBlock,aV]at hk;subst hk;exact L1.2⟩ λw2 h2 hg=>?_;have he:=(Eff.ext j).trans hg;unfold cD at I;rw[fG,dU];refine⟨λe=>?_,λe=>?_⟩
 ·have e:isS s x=false:=by simpa using e
  rw[aJ (by rw[e];decide)]at I;exact I w2 h2 he
 ·have e:isS s x=true:=by simpa using e
  rw[aO e]at I;exact h2.go (wsi ((jE J).ws J) (by rw[(jE J).toks];exact hl)) λw3 h3 hc _=>I w3 h3 (he.trans hc)
theorem wF{x:Str}(h:PR w0 w p f M vt s top)(J:WS N s)(hN:N<=1000000)(hl:s.toks.length<=100000)(U:∀s',oI s x=.ok () s'->∀w',PR w0 w' p f M vt s' top->Eff p f M M w w'->K (.tuple #[]) w')(I:∀c a,oI s x=.err c a->Thr w0 f c a):
  aI P0 157 [.pointer (some ⟨p,0,none⟩),str x] w K:=by
 refine Sr ?_;unfold YO;refine tJ h J hN hl λw1 o j=>?_;unfold cD at o j⊢;unfold oI at U I;rw[fG,dU];by_cases e:isS s x=true
 ·simp only[aO e]at o j U I⊢;exact⟨λe=>(by cases e),λ_=>U _ rfl w1 o j⟩
 ·simp only[aJ e]at o j U I⊢;refine⟨λ_=>?_,λe=>(by cases e)⟩;refine oJ o ((jE J).ws J) hN (by rw[(jE J).toks];exact hl) λw2 h2 hc=>?_;rw[mD];refine⟨i64 (cur s).a,rfl,?_⟩;exact qN h2 (I _ _ rfl)
theorem wV{k:Int}(h:PR w0 w p f M vt s top)(hs:WS N s)(hN:N<=1000000)(hl:s.toks.length<=100000)(hK:∀t s',mH s k=.ok t s'->∀w',PR w0 w' p f M vt s' top->Eff p f M M w w'->K (.agg (iT t).toArray) w')(ht:∀c a,mH s k=.err c a->Thr w0 f c a):
  aI P0 62 [.pointer (some ⟨p,0,none⟩),i64 k] w K:=by
 refine Wk ?_;unfold W62;refine cI λb w1 hb hj ho I=>?_;have h1:=h.ext I;have L1:=h.loc hj hb ho;have J:=(jE hs).ws hs;have U:(bE s).toks.length<=100000:=by rw[(jE hs).toks];exact hl
 unfold mH at hK ht;refine cX.cut (λ_ w'=>PR w0 w' p f M vt (bE s) top/\Eff p f M M w1 w'/\(cur s).k=k) ?_ ?_
 ·refine oJ h1 hs hN hl λw2 h2 j=>?_;refine⟨i64 (cur s).k,rfl,?_⟩;dsimp only;rw[eX,bA];refine⟨λe=>?_,λe=>⟨h2,j,by omega⟩⟩;refine oJ h2 J hN U λw3 h3 o=>?_;rw[mD];refine⟨i64 (cur s).a,rfl,?_⟩;exact qN h3 (ht _ _ (by rw[aJ e]))
 rintro st g w2 ⟨h2,j,hk⟩;rw[aO hk]at hK;refine Io h2 J hN U λw3 h3 o=>?_;rw[mD];have L3:=(L1.eff j).eff o;refine uR (l:=iT (cur s)) L3.1 rfl rfl rfl λw4 hc=>?_;have e:kI (bE s)=kI s:=by unfold kI;rw[mD,jX]
 rw[e]at h3;exact hK _ _ rfl w4 (h3.one hc L3.2) ((((Eff.ext I).trans j).trans o).one hc (by omega))
end
end
end Go.Proofs.YtjblfcfdeaagpaaGreatDoor
namespace Go.Syn
section
open Go Go.Eng Go.Lex
variable{w:World}{K:Q0}{cs:List Value}{G:Nat->Prop}{T:TypeId}{i:Nat}{n:Nat}{v:Value}{w':World}{P:Program}{c:UInt8}{S:Nat->Prop}
def rY:Str->Bool
 |[]=>true
 |[c]=>c !=92
 |c::e::r=>if c=92 then rY r else rY (e::r)
theorem KM{r:Str}(j:c≠92)(h:rY r=true):rY (c::r)=true:=by
 cases r with
 |nil=>simp[rY,j]
 |cons e r=>simp only[rY];rw[aJ j];exact h
theorem Ch:∀(n:Nat) (t:Str),t.length<=n->noD t=true->rY t=true
 |_,[],_,_=>rfl
 |_,[c],_,h=>by simp only[noD,bL]at h;exact h.1
 |0,c::e::r,h,_=>by simp at h
 |n+1,c::e::r,h,hd=>by
  simp only[noD]at hd
  simp only[aB]at h
  simp only[rY]
  split at hd
  ·rename_i j
   rw[aO j]
   exact Ch n r (by omega) hd
  ·rename_i j
   rw[aJ j]
   simp only[bL]at hd
   exact Ch n (e::r) (by simp only[aB];omega) hd.2
theorem rU{c':UInt8}{r r':Str}{k:Nat}(h:(c'::r').take (k+1)=(c::r).take (k+1)):c'=c/\r'.take k=r.take k:=by
 simp only[nH,fR]at h;exact h
theorem nX{r r':Str}{k j m:Nat}(h:r'.take k=r.take k)(o:j+m<=k):(r'.drop j).take m=(r.drop j).take m:=by
 have e:∀s:Str,(s.drop j).take m=((s.take k).drop j).take m:=λs=>by
  rw[List.drop_take,List.take_take,Nat.min_eq_left (by omega)]
 rw[e r',e r,h]
theorem Gu{x x':UInt8}{r r':Str}(h:x=x'):qC [36,123] (c::x::r)=qC [36,123] (c::x'::r'):=by
 subst h;simp[qC,List.isPrefixOf]
theorem Xq:∀(N:Nat) (r r':Str),r.length<=N->
  (∀d k,jL r d=(k,0)->r'.take k=r.take k->k<=r'.length->jL r' d=(k,0))/\
  (∀d k,lO r d=(k,0)->r'.take k=r.take k->k<=r'.length->lO r' d=(k,0)):=by
 intro N;induction N with
 |zero=>
  intro r r' U;have:r=[]:=cK (by omega);subst this;exact⟨λd k h=>(by rw[qG]at h;cases h),λd k h=>(by rw[Cx]at h;cases h)⟩
 |succ N ih=>
  intro r r' U;cases r with
  |nil=>exact ih [] r' (by simp)
  |cons c r=>
   simp only[aB]at U;have U:r.length<=N:=by omega
   have sh:∀{k:Nat},1<=k->r'.take k=(c::r).take k->k<=r'.length->∃r2,r'=c::r2/\r2.take (k-1)=r.take (k-1)/\k-1<=r2.length:=λ{k} hk J hl=>by
    cases r' with
    |nil=>simp at hl;omega
    |cons c' r2=>
     obtain⟨j,rfl⟩:∃j,k=j+1:=⟨k-1,by omega⟩;obtain⟨rfl,I⟩:=rU J;exact⟨r2,rfl,I,by simpa using hl⟩
   refine⟨λd k h J hl=>?_,λd k h J hl=>?_⟩
   ·have hk:=((lF _ (c::r) (aY _)).1 d k h).2.1;obtain⟨r2,rfl,I,o⟩:=sh hk J hl;rw[qH]at h⊢;simp only[gR]at h⊢;split at h
    ·rename_i e;rw[aO e];exact h
    rename_i e;rw[aJ e];split at h
    ·cases h
    rename_i e1;rw[aJ e1];split at h
    ·rename_i e2;rw[aO e2];cases r with
     |nil=>cases h
     |cons x rr=>
      simp only at h;split at h
      ·rename_i e3;obtain⟨g1,g2⟩:=nG h;have gk:=((lF _ rr (aY _)).1 d _ g1).2.1;cases r2 with
       |nil=>simp at o;omega
       |cons x' rr'=>
        obtain⟨j,rfl⟩:∃j,k=j+2:=⟨k-2,by omega⟩;rw[show j+2-1=j+1 by omega]at I o;obtain⟨rfl,h3⟩:=rU I;simp only[aO e3];have:=(ih rr rr' (by simp at U;omega)).1 d j (by simpa using g1) h3 (by simpa using o);rw[this];unfold nR;simp
      ·cases h
    rename_i e2;rw[aJ e2];split at h
    ·rename_i e3;split at h
     ·cases h
     rename_i e24;split at h
     ·rename_i e4;obtain⟨g1,g2⟩:=nG h;have gk:=((lF _ _ (aY _)).1 d _ g1).2;have gi:=((lF _ (r.drop 1) (aY _)).2 (d+1) _ (iY rfl e4)).1;cases r with
      |nil=>simp[qC]at e3
      |cons x rr=>
       cases r2 with
       |nil=>simp at o;omega
       |cons x' rr'=>
        obtain⟨j,rfl⟩:∃j,k=j+2:=⟨k-2,by omega⟩;rw[show j+2-1=j+1 by omega]at I o;obtain⟨rfl,h3⟩:=rU I;simp only[dW,eU]at g1 gk gi e4⊢;have hq:j<=rr'.length:=by simpa using o
        have hp:qC [36,123] (c::x'::rr')=true:=by rw[Gu (r':=rr) rfl];exact e3
        have hc:rr.length<=N:=by simp at U;omega
        have hi:=(ih rr rr' hc).2 (d+1) (lO rr (d+1)).1 (iY rfl e4) (by have:=nX (j:=0) (m:=(lO rr (d+1)).1) h3 (by omega);simpa using this) (by omega);rw[aO hp,aJ e24,hi];simp only;have J:=(ih (rr.drop (lO rr (d+1)).1) (rr'.drop (lO rr (d+1)).1) (mC _ hc)).1 d _ g1 (nX h3 (by omega)) (by rw[aR];omega);rw[J];unfold nR;simp;omega
     ·rename_i e4;injection h with _ I
      exact absurd I e4
    ·rename_i e3;obtain⟨g1,g2⟩:=nG h;have gk:=((lF _ _ (aY _)).1 d _ g1).2;have hp:¬qC [36,123] (c::r2)=true:=by
      cases r with
      |nil=>rw[qG]at g1;exact absurd (congrArg Prod.snd g1) (by simp)
      |cons x rr=>
       cases r2 with
       |nil=>simp at o;omega
       |cons x' rr'=>
        obtain⟨j,hj⟩:∃j,k-1=j+1:=⟨k-2,by omega⟩;rw[hj]at I;obtain⟨rfl,_⟩:=rU I;rw[Gu (r':=rr) rfl];exact e3
     rw[aJ hp];have:=(ih r r2 U).1 d (k-1) g1 I o;rw[this];unfold nR;simp;omega
   ·have hk:=((lF _ (c::r) (aY _)).2 d k h).1.1;obtain⟨r2,rfl,I,o⟩:=sh hk J hl;rw[AL]at h⊢;simp only[gR]at h⊢;split at h
    ·rename_i e;rw[aO e];exact h
    rename_i e;rw[aJ e];split at h
    ·cases h
    rename_i e1;rw[aJ e1];split at h
    ·rename_i e2;rw[aO e2];split at h
     ·cases h
     rename_i e24;rw[aJ e24];split at h
     ·rename_i e4;obtain⟨g1,g2⟩:=nG h;have gk:=((lF _ _ (aY _)).2 d _ g1).1;have hi:=(ih r r2 U).2 (d+1) (lO r (d+1)).1 (iY rfl e4) (by have:=nX (j:=0) (m:=(lO r (d+1)).1) I (by omega);simpa using this) (by omega);rw[hi];simp only[pH];have J:=(ih (r.drop (lO r (d+1)).1) (r2.drop (lO r (d+1)).1) (mC _ U)).2 d _ g1 (nX I (by omega)) (by rw[aR];omega);rw[J];unfold nR;simp;omega
     ·rename_i e4;injection h with _ I
      exact absurd I e4
    rename_i e2;rw[aJ e2];split at h
    ·rename_i e3;rw[aO e3];split at h
     ·rename_i e4;obtain⟨g1,g2⟩:=nG h;have gk:=((lF _ _ (aY _)).2 d _ g1).1;have hi:=(ih r r2 U).1 d (jL r d).1 (iY rfl e4) (by have:=nX (j:=0) (m:=(jL r d).1) I (by omega);simpa using this) (by omega);rw[hi];simp only[pH];have J:=(ih (r.drop (jL r d).1) (r2.drop (jL r d).1) (mC _ U)).2 d _ g1 (nX I (by omega)) (by rw[aR];omega);rw[J];unfold nR;simp;omega
     ·rename_i e4;injection h with _ I
      exact absurd I e4
    ·rename_i e3;rw[aJ e3];obtain⟨g1,g2⟩:=nG h;have:=(ih r r2 U).2 d (k-1) g1 I o;rw[this];unfold nR;simp;omega
def Scd(t:Str):Prop:=∃d,jL (t++[34]) d=(t.length+1,0)
theorem LL{r:Str}{d k:Nat}(h:jL r d=(k,0))(hl:∀b,r[k-1]?=some b->b=34):Scd (r.take (k-1)):=by
 obtain⟨_,J,I⟩:=(lF _ r (aY _)).1 d k h;obtain⟨j,rfl⟩:∃j,k=j+1:=⟨k-1,by omega⟩;rw[Nat.add_sub_cancel]at hl⊢;have e1:(r.take j).length=j:=by rw[cO];omega
 have o:j<r.length:=by omega
 have e2:r.take j++[34]=r.take (j+1):=by
  have:=hl _ (List.getElem?_eq_getElem o);rw[pJ,List.getElem?_eq_getElem o,this];rfl
 refine⟨d,?_⟩;rw[e2,e1];exact(Xq _ r (r.take (j+1)) (aY _)).1 d (j+1) h (by rw[List.take_take,Nat.min_self]) (by rw[cO];omega)
theorem tO:∀(N:Nat) (r:Str) (d k:Nat),r.length<=N->jL r d=(k,0)->r[k-1]?=some 34
 |0,r,d,k,j,h=>by
  have:r=[]:=cK (by omega)
  subst this
  rw[qG]at h;cases h
 |N+1,[],d,k,_,h=>by rw[qG]at h;cases h
 |N+1,c::r,d,k,j,h=>by
  simp only[aB]at j
  have j:r.length<=N:=by omega
  rw[qH]at h
  simp only[gR]at h
  split at h
  ·rename_i e
   injection h with I _
   subst I e
   rfl
  split at h
  ·cases h
  split at h
  ·cases r with
   |nil=>cases h
   |cons x rr=>
    simp only at h
    split at h
    ·obtain⟨g1,g2⟩:=nG h
     have gk:=((lF _ rr (aY _)).1 d _ g1).2.1
     have:=tO N rr d _ (by simp at j;omega) g1
     rw[show k-1=(k-2-1)+2 by omega]
     exact this
    ·cases h
  split at h
  ·rename_i e3
   split at h
   ·cases h
   split at h
   ·obtain⟨g1,g2⟩:=nG h
    have gk:=((lF _ _ (aY _)).1 d _ g1).2.1
    have:=tO N _ d _ (mC _ (mC 1 j)) g1
    rw[List.getElem?_drop,List.getElem?_drop]at this
    rw[show k-1=1+((lO (r.drop 1) (d+1)).1+(k-((lO (r.drop 1) (d+1)).1+2)-1))+1 by omega]
    exact this
   ·rename_i e4
    injection h with _ o
    exact absurd o e4
  ·obtain⟨g1,g2⟩:=nG h
   have gk:=((lF _ r (aY _)).1 d _ g1).2.1
   have:=tO N r d _ j g1
   rw[show k-1=(k-1-1)+1 by omega]
   exact this
theorem EP:∀(N:Nat) (t:Str),t.length<=N->Scd t->(insP t=none->rY t=true)/\∀i e,insP t=some (i,e)->rY (t.take i)=true/\i+3<=e/\e<=t.length/\Scd (t.drop e)
 |_,[],_,_=>⟨λ_=>rfl,λi e h=>by simp[insP]at h⟩
 |0,_::_,h,_=>by simp at h
 |N+1,[c],_,⟨d,h⟩=>by
  refine⟨λ_=>?_,λi e h=>by simp[insP]at h⟩
  simp only[rY,bne_iff_ne,cJ]
  intro e
  subst e
  simp only[gH,gJ]at h
  rw[qH]at h
  simp[Lex.escOk,nR,qG]at h
 |N+1,c::x::r,hN,⟨d,h⟩=>by
  simp only[aB]at hN
  simp only[gH]at h
  rw[qH]at h
  simp only[gR]at h
  split at h
  ·injection h with h1 _
   simp at h1
  split at h
  ·cases h
  simp only[insP,rY]
  split at h
  ·rename_i e92
   rw[aO e92,aO e92]
   split at h
   ·obtain⟨g1,g2⟩:=nG h
    have sr:Scd r:=⟨d,by rw[g1];simp⟩
    obtain⟨i1,i2⟩:=EP N r (by omega) sr
    refine⟨λo=>i1 (by cases j:insP r with|none=>rfl|some y=>rw[j]at o;cases o),λi e hi=>?_⟩
    cases j:insP r with
    |none=>rw[j]at hi;cases hi
    |some y=>
     rw[j]at hi
     simp only[aG,aV,gK]at hi
     obtain⟨rfl,rfl⟩:=hi
     obtain⟨j1,j2,j3,j4⟩:=i2 _ _ j
     refine⟨?_,by omega,by simp only[aB];omega,by rw[show y.2+2=y.2+1+1 by omega,dW,dW];exact j4⟩
     rw[show y.1+2=y.1+1+1 by omega,nH,nH]
     simp only[rY]
     rw[aO e92]
     exact j1
   ·cases h
  rename_i e92
  rw[aJ e92,aJ e92]
  split at h
  ·rename_i e3
   have J:c=36/\x=123:=by
    simp[qC,List.isPrefixOf]at e3;exact⟨e3.1.symm,e3.2.symm⟩
   rw[aO J];refine⟨λo=>(by cases o),λi e hi=>?_⟩;simp only[aV,gK]at hi;obtain⟨rfl,rfl⟩:=hi;split at h
   ·cases h
   split at h
   ·rename_i e4;simp only[dW,eU]at h e4;obtain⟨k1,e5⟩:∃k1,lO (r++[34]) (d+1)=(k1,0):=⟨_,iY rfl e4⟩;simp only[e5]at h;obtain⟨g1,g2⟩:=nG h;have gk:=((lF _ _ (aY _)).1 d _ g1).2;have gi:=((lF _ (r++[34]) (aY _)).2 (d+1) _ e5).1;simp only[aB]at g1 gk g2;have I:k1<=r.length:=by omega
    have U:=(Xq _ (r++[34]) r (aY _)).2 (d+1) _ e5 (by rw[AW I]) I;have hb:=((lF _ r (aY _)).2 (d+1) _ U).2 1 (by omega);rw[aO rfl]at hb;have eb:CW (x::r)=1+k1:=by
     show oZ (x::r) 0=_;rw[oF,aO J.2,show(0:Int)+1=1 from rfl,hb]
    rw[eb];refine⟨rfl,by omega,by simp only[aB];omega,?_⟩;rw[show 1+(1+k1)=k1+1+1 by omega,dW,dW];refine⟨d,?_⟩;rw[<-AX I,g1,aR];simp only[gK,eY];omega
   ·rename_i e4;injection h with _ h2
    exact absurd h2 e4
  ·rename_i e3;have J:¬(c=36/\x=123):=λe=>e3 (by simp[qC,List.isPrefixOf,e.1,e.2]);rw[aJ J];obtain⟨g1,g2⟩:=nG h;have sr:Scd (x::r):=⟨d,by simp only[gH];rw[g1];simp⟩;obtain⟨i1,i2⟩:=EP N (x::r) (by simp only[aB];omega) sr;refine⟨λo=>i1 (by cases j:insP (x::r)with|none=>rfl|some y=>rw[j]at o;cases o),λi e hi=>?_⟩;cases j:insP (x::r)with
   |none=>rw[j]at hi;cases hi
   |some y=>
    rw[j]at hi;simp only[aG,aV,gK]at hi;obtain⟨rfl,rfl⟩:=hi;obtain⟨j1,j2,j3,j4⟩:=i2 _ _ j;refine⟨?_,by omega,by simp only[aB]at j3⊢;omega,by rw[dW];exact j4⟩;rw[nH];exact KM e92 j1
def Dt(t:Str):Prop:=noD t=true\/Scd t
theorem HQ{t:Str}(h:Dt t):(insP t=none->rY t=true)/\∀i e,insP t=some (i,e)->rY (t.take i)=true/\i+3<=e/\e<=t.length/\Dt (t.drop e):=by
 rcases h with h|h
 ·exact⟨λ_=>Ch _ t (aY _) h,λi e hi=>by rw[BE _ t (aY _) h]at hi;cases hi⟩
 ·obtain⟨o,j⟩:=EP _ t (aY _) h;exact⟨o,λi e hi=>by obtain⟨a,b,c,d⟩:=j i e hi;exact⟨a,b,c,.inr d⟩⟩
def TS(l:List Tok):Prop:=∀t∈l,t.k=3->Dt t.t/\t.t.length<=100000
theorem uB:∀s:Str,(kP s).length<=2*s.length
 |[]=>aY _
 |c::r=>by
  have:=uB r
  simp only[kP]
  split
  ·simp only[aB];omega
  split
  ·simp only[aB];omega
  split
  ·simp only[aB];omega
  ·simp only[aB];omega
theorem Eo:∀(n:Nat) (name s:Str),(mI n name s).1.length<=2*s.length
 |0,_,_=>by simp[mI]
 |n+1,name,s=>by
  have J:=rJ (λb=>b !=10) s
  simp only[mI]
  split
  ·simp
  split
  ·simp
  rename_i j
  split
  ·have I:=Eo n name (s.drop (fT (λb=>b !=10) s+1))
   have o:=uB (s.take (fT (λb=>b !=10) s))
   rw[aR]at I
   rw[cO]at o
   simp only[aP,aB,aK]
   omega
  ·simp
theorem GX(s:Str):(jT s).1.length<=2*s.length:=by
 unfold jT;simp only;generalize (if gV ((s.drop 2).headD 0)=true then fT iS (s.drop 2)else 0)=n;split
 ·simp
 split
 ·have j:=Eo (s.length+1) ((s.drop 2).take n) (s.drop (2+n+1));rw[aR]at j;split
  ·show(mI (s.length+1) ((s.drop 2).take n) (s.drop (2+n+1))).1.length<=_;omega
  ·simp
 ·simp
theorem Vj{s:Str}{t:Tok}{k:Nat}(h:nM s=(t,k,0))(J:t.k=3):Dt t.t/\t.t.length<=2*s.length:=by
 unfold nM at h;simp only at h;split at h
 ·injection h with j _;subst j;cases J
 split at h
 ·injection h with j _;subst j;cases J
 split at h
 ·injection h with j _;subst j;cases J
 split at h
 ·split at h
  ·rename_i hq I;injection h with j _
   subst j;have U:pK (s.length+1) (s.drop 1) 0=jL (s.drop 1) 0:=rT (by rw[aR];omega);rw[U]at I⊢;refine⟨.inr (LL (d:=0) (iY rfl I) λb hb=>?_),by simp only[cO,aR];omega⟩;rw[tO _ (s.drop 1) 0 _ (aY _) (iY rfl I)]at hb;injection hb with hb
   exact hb.symm
  ·rename_i I;injection h with j o
   injection o with _ o
   exact absurd o I
 split at h
 ·injection h with j o
  injection o with o h3
  obtain⟨i1,i2,i3⟩:=CC (s:=s) (t:=(jT s).1) (k:=(jT s).2.1) (iY rfl (iY rfl h3));subst j;exact⟨.inl i3,GX s⟩
 ·injection h with j _;subst j;cases J
theorem Gf:∀(n:Nat) (s:Str) (a cnt:Nat) (l:List Tok),s.length<=16384->mU n s a cnt=.ok l->TS l
 |0,_,_,_,_,_,h=>by simp[mU]at h
 |n+1,s,a,cnt,l,hl,h=>by
  simp only[mU]at h
  split at h
  ·cases h
  split at h
  ·injection h with h
   subst h
   intro t j o
   simp only[bR]at j
   subst j
   cases o
  split at h
  ·cases h
  rename_i ho
  split at h
  ·cases h
  split at h
  ·rename_i l' J
   injection h with h
   subst h
   intro t j o
   rcases aX.1 j with rfl|j
   ·have U:=Vj (t:=(nM (s.drop (iZ (s.length+1) s).1)).1) (k:=(nM (s.drop (iZ (s.length+1) s).1)).2.1) (iY rfl (iY rfl (Classical.not_not.1 ho))) o
    rw[aR]at U
    exact⟨U.1,by simp only;omega⟩
   ·exact Gf n _ _ _ _ (by rw[aR,aR];omega) J t j o
  ·rename_i I
   exact absurd h (I l)
theorem ET{s:Str}{l:List Tok}(h:nI s=.ok l):TS l:=by
 unfold nI at h;split at h
 ·cases h
 rename_i hl;split at h
 ·cases h
 exact Gf _ _ _ _ _ (by omega) h
theorem DK:∀(n:Nat) (s:Str) (a cnt:Nat) (l:List Tok),cnt<=4096->mU n s a cnt=.ok l->cnt+l.length<=4097
 |0,_,_,_,_,_,h=>by simp[mU]at h
 |n+1,s,a,cnt,l,I,h=>by
  simp only[mU]at h
  split at h
  ·cases h
  split at h
  ·injection h with h
   subst h
   simp only[aB,aK];omega
  split at h
  ·cases h
  split at h
  ·cases h
  rename_i j
  split at h
  ·rename_i l' o
   injection h with h
   subst h
   have:=DK n _ _ _ _ (by omega) o
   simp only[aB];omega
  ·rename_i j
   exact absurd h (j l)
theorem wO{s:Str}{l:List Tok}(h:nI s=.ok l):l.length<=4097/\s.length<=16384:=by
 unfold nI at h;split at h
 ·cases h
 rename_i hl;split at h
 ·cases h
 have:=DK _ _ _ _ _ (fW _) h;omega
end
end Go.Syn
namespace Go.Proofs.YtjblfcfdeaagpaaGreatDoor
section
open Go Go.Eng Go.Num
variable{w:World}{K:Q0}{cs:List Value}{G:Nat->Prop}{T:TypeId}{i:Nat}{n:Nat}{v:Value}{w':World}{P:Program}{c:UInt8}{S:Nat->Prop}
theorem xS(n:Nat){w1:World}{B:List Value->Fr->World->(List Value->World->Prop)->Prop}(R:Nat->World->Prop)(J:R 0 w1)
  (step:∀i w g L,i<n->R i w->(∀w',R (i+1) w'->L [i64 ((i+1:Nat):Int)] w')->B [i64 (i:Nat)] g w L)
  (fin:∀w g L,R n w->B [i64 (n:Nat)] g w L):eJ [i64 0] w1 B:=by
 refine⟨λs w=>∃i,i<=n/\s=[i64 (i:Nat)]/\R i w,λs _=>match s with|[.int _ i]=>n-i.toNat|_=>0,⟨0,fW _,rfl,J⟩,?_⟩;rintro s g w ⟨i,hi,rfl,o⟩;rcases nL i n with j|I
 ·exact step i w g _ j o λw' U=>⟨⟨i+1,j,rfl,U⟩,by simp only[bC];omega⟩
 ·obtain rfl:i=n:=by omega
  exact fin w g _ o
theorem up1(h:(i:Int)<9223372036854775807):IntKind.i64.wrap ((i:Int)+1)=((i+1:Nat):Int):=by rw[fE (by omega) (by omega)];simp
section
variable [HX]
end
section
variable [HX]
theorem Ku(c:UInt8):(decide (((c.toNat:Nat):Int)<48)||decide ((57:Int)<((c.toNat:Nat):Int)))=!Num.isDig c:=by
 unfold Num.isDig;rcases nL c.toNat 48 with h|h
 ·rw[bK (by omega),cM (show¬48<=c.toNat by omega)];rfl
 ·rw[cM (show¬((c.toNat:Nat):Int)<48 by omega),bK (show 48<=c.toNat by omega)];rcases nL 57 c.toNat with j|j
  ·rw[bK (by omega),cM (show¬c.toNat<=57 by omega)];rfl
  ·rw[cM (by omega),bK (show c.toNat<=57 by omega)];rfl
theorem Xn(c:UInt8)(m:Int)(d:UInt8)(j:m=(d.toNat:Nat)):decide (((c.toNat:Nat):Int)=m)=(c==d):=by
 rw[nA,fD,gR,j];constructor
 ·intro h;exact lT.1 (by omega)
 ·intro h;rw[h]
end
end
section
open Go Go.Eng Go.Num
abbrev ptr(b:Nat):Value:=.pointer (some ⟨b,0,none⟩)
end
section
open Go Go.Eng Go.Num
variable{w:World}{K:Q0}{cs:List Value}{G:Nat->Prop}{T:TypeId}{i:Nat}{n:Nat}{v:Value}{w':World}{P:Program}{c:UInt8}{S:Nat->Prop}
section
variable [HX]
theorem HC{α:Type}{p:α->Bool}{xs:List α}{x:α}(hi:xs[i]?=some x):(xs.take (i+1)).any p=((xs.take i).any p||p x):=by
 rw[pJ,hi];simp
end
end
end Go.Proofs.YtjblfcfdeaagpaaGreatDoor
namespace Go.Proofs
section
open Go.Shelf
variable{w:World}{K:Q0}{cs:List Value}{G:Nat->Prop}{T:TypeId}{i:Nat}{n:Nat}{v:Value}{w':World}{P:Program}{c:UInt8}{S:Nat->Prop}
def Tryz.lays169_ren:Go.Shelf.Ren:=⟨λ|169=>44|n=>n,λ|70=>112|9=>9|0=>0|72=>114|37=>80|127=>168|3=>3|5=>5|n=>n,λ|n=>n⟩
theorem Tryz.lays169:Go.Proofs.Lays.n169 P0 Tryz.lays169_ren:={
 mixed:=by kernel_rfl
 f169:=Tryz.func44.trans (congrArg some (by kernel_rfl))
 t0:=Tryz.underlying0
 a0:=Tryz.isAgg0
 z0:=Tryz.sizeOf0
 v0:=Tryz.zeroValue0
 t3:=Tryz.underlying3
 a3:=Tryz.isAgg3
 z3:=Tryz.sizeOf3
 v3:=Tryz.zeroValue3
 t9:=Tryz.underlying9
 a9:=Tryz.isAgg9
 z9:=Tryz.sizeOf9
 v9:=Tryz.zeroValue9
 t37:=Tryz.underlying80
 a37:=Tryz.isAgg80
 z37:=Tryz.sizeOf80
 v37:=Tryz.zeroValue80
 t70:=Tryz.underlying112
 a70:=Tryz.isAgg112
 z70:=Tryz.sizeOf112
 v70:=Tryz.zeroValue112
 t72:=Tryz.underlying114
 a72:=Tryz.isAgg114
 z72:=Tryz.sizeOf114
 v72:=Tryz.zeroValue114
 t127:=Tryz.underlying168
 a127:=Tryz.isAgg168
 z127:=Tryz.sizeOf168
 v127:=Tryz.zeroValue168}
theorem Tryz.Builder_Extra_169:Builder.Extra P0 Tryz.lays169_ren:={
 sizeBuilder:=by kernel_rfl
 liesBuilder:=by kernel_rfl
 t5:=Tryz.underlying5
 a5:=Tryz.isAgg5
 z5:=Tryz.sizeOf5
 v5:=Tryz.zeroValue5
 infoByte:=by kernel_rfl
 cellsByte:=by kernel_rfl
 sizeByte:=by kernel_rfl
 neB5:=by decide}
def Tryz.lays161_ren:Go.Shelf.Ren:=⟨λ|161=>152|231=>199|227=>191|233=>200|235=>201|228=>192|197=>217|151=>218|260=>225|152=>189|137=>104|119=>215|224=>195|225=>194|217=>146|266=>193|n=>n,λ|9=>9|4=>4|3=>3|5=>5|117=>244|116=>243|0=>0|124=>248|105=>262|21=>21|119=>270|46=>75|139=>273|138=>272|n=>n,λ|3=>1|4=>2|n=>n⟩
theorem Tryz.lays161:Go.Proofs.Lays.n161 P0 Tryz.lays161_ren:={
 mixed:=by kernel_rfl
 f119:=Tryz.func215.trans (congrArg some (by kernel_rfl))
 f137:=Tryz.func104.trans (congrArg some (by kernel_rfl))
 f151:=Tryz.func218.trans (congrArg some (by kernel_rfl))
 f152:=Tryz.func189.trans (congrArg some (by kernel_rfl))
 f161:=Tryz.func152.trans (congrArg some (by kernel_rfl))
 f197:=Tryz.func217.trans (congrArg some (by kernel_rfl))
 f217:=Tryz.func146.trans (congrArg some (by kernel_rfl))
 f224:=Tryz.func195.trans (congrArg some (by kernel_rfl))
 f225:=Tryz.func194.trans (congrArg some (by kernel_rfl))
 f227:=Tryz.func191.trans (congrArg some (by kernel_rfl))
 f228:=Tryz.func192.trans (congrArg some (by kernel_rfl))
 f231:=Tryz.func199.trans (congrArg some (by kernel_rfl))
 f233:=Tryz.func200.trans (congrArg some (by kernel_rfl))
 f235:=Tryz.func201.trans (congrArg some (by kernel_rfl))
 f260:=Tryz.func225.trans (congrArg some (by kernel_rfl))
 f266:=Tryz.func193.trans (congrArg some (by kernel_rfl))
 t0:=Tryz.underlying0
 a0:=Tryz.isAgg0
 z0:=Tryz.sizeOf0
 v0:=Tryz.zeroValue0
 t3:=Tryz.underlying3
 a3:=Tryz.isAgg3
 z3:=Tryz.sizeOf3
 v3:=Tryz.zeroValue3
 t4:=Tryz.underlying4
 a4:=Tryz.isAgg4
 z4:=Tryz.sizeOf4
 v4:=Tryz.zeroValue4
 t5:=Tryz.underlying5
 a5:=Tryz.isAgg5
 z5:=Tryz.sizeOf5
 v5:=Tryz.zeroValue5
 t9:=Tryz.underlying9
 a9:=Tryz.isAgg9
 z9:=Tryz.sizeOf9
 v9:=Tryz.zeroValue9
 t21:=Tryz.underlying21
 a21:=Tryz.isAgg21
 z21:=Tryz.sizeOf21
 v21:=Tryz.zeroValue21
 t46:=Tryz.underlying75
 a46:=Tryz.isAgg75
 z46:=Tryz.sizeOf75
 v46:=Tryz.zeroValue75
 t105:=Tryz.underlying262
 a105:=Tryz.isAgg262
 z105:=Tryz.sizeOf262
 v105:=Tryz.zeroValue262
 t116:=Tryz.underlying243
 a116:=Tryz.isAgg243
 z116:=Tryz.sizeOf243
 t117:=Tryz.underlying244
 a117:=Tryz.isAgg244
 z117:=Tryz.sizeOf244
 v117:=Tryz.zeroValue244
 t119:=Tryz.underlying270
 a119:=Tryz.isAgg270
 z119:=Tryz.sizeOf270
 t124:=Tryz.underlying248
 a124:=Tryz.isAgg248
 z124:=Tryz.sizeOf248
 v124:=Tryz.zeroValue248
 t138:=Tryz.underlying272
 a138:=Tryz.isAgg272
 z138:=Tryz.sizeOf272
 v138:=Tryz.zeroValue272
 t139:=Tryz.underlying273
 a139:=Tryz.isAgg273
 z139:=Tryz.sizeOf273
 v139:=Tryz.zeroValue273
 g3:=by kernel_rfl
 g4:=by kernel_rfl}
def Tryz.lays119_ren:Go.Shelf.Ren:=⟨λ|119=>215|n=>n,λ|21=>21|4=>4|n=>n,λ|n=>n⟩
theorem Tryz.lays119:Go.Proofs.Lays.n119 P0 Tryz.lays119_ren:={
 mixed:=by kernel_rfl
 f119:=Tryz.func215.trans (congrArg some (by kernel_rfl))
 t4:=Tryz.underlying4
 a4:=Tryz.isAgg4
 z4:=Tryz.sizeOf4
 v4:=Tryz.zeroValue4
 t21:=Tryz.underlying21
 a21:=Tryz.isAgg21
 z21:=Tryz.sizeOf21
 v21:=Tryz.zeroValue21}
theorem Tryz.utf8_ValidRune(r:Int)(w:World):
 Calls P0 215 #[.int .i32 r] w λe w'=>e=.returned (.bool (Lib.validRune r))/\w'=w:=Any.utf8_ValidRune Tryz.lays119 r w
def Tryz.lays137_ren:Go.Shelf.Ren:=⟨λ|137=>104|217=>146|266=>193|n=>n,λ|9=>9|5=>5|3=>3|n=>n,λ|n=>n⟩
theorem Tryz.lays137:Go.Proofs.Lays.n137 P0 Tryz.lays137_ren:={
 mixed:=by kernel_rfl
 f137:=Tryz.func104.trans (congrArg some (by kernel_rfl))
 f217:=Tryz.func146.trans (congrArg some (by kernel_rfl))
 f266:=Tryz.func193.trans (congrArg some (by kernel_rfl))
 t3:=Tryz.underlying3
 a3:=Tryz.isAgg3
 z3:=Tryz.sizeOf3
 v3:=Tryz.zeroValue3
 t5:=Tryz.underlying5
 a5:=Tryz.isAgg5
 z5:=Tryz.sizeOf5
 v5:=Tryz.zeroValue5
 t9:=Tryz.underlying9
 a9:=Tryz.isAgg9
 z9:=Tryz.sizeOf9
 v9:=Tryz.zeroValue9}
open Go.RowKit in
theorem Tryz.strings_IndexByte(s:ByteArray)(c:Int)(w:World):
 Calls P0 104 #[.string s,.int .u8 c] w λe w'=>e=.returned (.int .i64 (Lib.indexByte s.data.toList c.toNat.toUInt8))/\w'=w:=Any.strings_IndexByte Tryz.lays137 s c w
open Go.RowKit in
theorem Tryz.Builder_String_any_k(B b:Nat)(l:List UInt8)(w:World)(h:Lib.IsBuilderF 114 5 B b (Lib.byteCells l) w)(j:B<=w.heap.size):
 Calls P0 44 #[.pointer (some ⟨b,0,none⟩)] w λe w'=>e=.returned (.string ⟨l.toArray⟩)/\(Lib.IsBuilderF 114 5 B b (Lib.byteCells l) w'/\Below B w w'/\Lib.OthersKept 5 (some b) w w'):=Any.Builder_String_any_k Tryz.lays169 Tryz.Builder_Extra_169 B b l w h j
def Tryz.lays143_ren:Go.Shelf.Ren:=⟨λ|143=>107|219=>147|217=>146|225=>194|224=>195|267=>196|266=>193|314=>216|n=>n,λ|9=>9|3=>3|4=>4|5=>5|46=>75|146=>225|51=>224|n=>n,λ|1=>0|n=>n⟩
theorem Tryz.lays143:Go.Proofs.Lays.n143 P0 Tryz.lays143_ren:={
 mixed:=by kernel_rfl
 f143:=Tryz.func107.trans (congrArg some (by kernel_rfl))
 f217:=Tryz.func146.trans (congrArg some (by kernel_rfl))
 f219:=Tryz.func147.trans (congrArg some (by kernel_rfl))
 f224:=Tryz.func195.trans (congrArg some (by kernel_rfl))
 f225:=Tryz.func194.trans (congrArg some (by kernel_rfl))
 f266:=Tryz.func193.trans (congrArg some (by kernel_rfl))
 f267:=Tryz.func196.trans (congrArg some (by kernel_rfl))
 f314:=Tryz.func216.trans (congrArg some (by kernel_rfl))
 t3:=Tryz.underlying3
 a3:=Tryz.isAgg3
 z3:=Tryz.sizeOf3
 v3:=Tryz.zeroValue3
 t4:=Tryz.underlying4
 a4:=Tryz.isAgg4
 z4:=Tryz.sizeOf4
 v4:=Tryz.zeroValue4
 t5:=Tryz.underlying5
 a5:=Tryz.isAgg5
 z5:=Tryz.sizeOf5
 v5:=Tryz.zeroValue5
 t9:=Tryz.underlying9
 a9:=Tryz.isAgg9
 z9:=Tryz.sizeOf9
 v9:=Tryz.zeroValue9
 t46:=Tryz.underlying75
 a46:=Tryz.isAgg75
 z46:=Tryz.sizeOf75
 v46:=Tryz.zeroValue75
 t51:=Tryz.underlying224
 a51:=Tryz.isAgg224
 z51:=Tryz.sizeOf224
 v51:=Tryz.zeroValue224
 t146:=Tryz.underlying225
 a146:=Tryz.isAgg225
 z146:=Tryz.sizeOf225
 v146:=Tryz.zeroValue225
 g1:=by kernel_rfl}
open Go.RowKit Go.Lib in
theorem Tryz.strings_Index(s sub:ByteArray)(m:Int)(w:World)(j:s.size<4294967281)(o:w.cell? ⟨0,0,none⟩=some (.int .i64 m)):
 Calls P0 107 #[.string s,.string sub] w λe w'=>e=.returned (.int .i64 (Lib.index s.data.toList sub.data.toList))/\w'=w:=Any.strings_Index Tryz.lays143 s sub m w j o
def Tryz.lays145_ren:Go.Shelf.Ren:=⟨λ|145=>151|220=>198|219=>147|217=>146|225=>194|224=>195|267=>196|266=>193|314=>216|n=>n,λ|9=>9|4=>4|59=>214|3=>3|5=>5|46=>75|146=>225|51=>224|n=>n,λ|1=>0|n=>n⟩
theorem Tryz.lays145:Go.Proofs.Lays.n145 P0 Tryz.lays145_ren:={
 mixed:=by kernel_rfl
 f145:=Tryz.func151.trans (congrArg some (by kernel_rfl))
 f217:=Tryz.func146.trans (congrArg some (by kernel_rfl))
 f219:=Tryz.func147.trans (congrArg some (by kernel_rfl))
 f220:=Tryz.func198.trans (congrArg some (by kernel_rfl))
 f224:=Tryz.func195.trans (congrArg some (by kernel_rfl))
 f225:=Tryz.func194.trans (congrArg some (by kernel_rfl))
 f266:=Tryz.func193.trans (congrArg some (by kernel_rfl))
 f267:=Tryz.func196.trans (congrArg some (by kernel_rfl))
 f314:=Tryz.func216.trans (congrArg some (by kernel_rfl))
 t3:=Tryz.underlying3
 a3:=Tryz.isAgg3
 z3:=Tryz.sizeOf3
 v3:=Tryz.zeroValue3
 t4:=Tryz.underlying4
 a4:=Tryz.isAgg4
 z4:=Tryz.sizeOf4
 v4:=Tryz.zeroValue4
 t5:=Tryz.underlying5
 a5:=Tryz.isAgg5
 z5:=Tryz.sizeOf5
 v5:=Tryz.zeroValue5
 t9:=Tryz.underlying9
 a9:=Tryz.isAgg9
 z9:=Tryz.sizeOf9
 v9:=Tryz.zeroValue9
 t46:=Tryz.underlying75
 a46:=Tryz.isAgg75
 z46:=Tryz.sizeOf75
 v46:=Tryz.zeroValue75
 t51:=Tryz.underlying224
 a51:=Tryz.isAgg224
 z51:=Tryz.sizeOf224
 v51:=Tryz.zeroValue224
 t59:=Tryz.underlying214
 a59:=Tryz.isAgg214
 z59:=Tryz.sizeOf214
 v59:=Tryz.zeroValue214
 t146:=Tryz.underlying225
 a146:=Tryz.isAgg225
 z146:=Tryz.sizeOf225
 v146:=Tryz.zeroValue225
 g1:=by kernel_rfl}
open Go.RowKit Go.Lib in
theorem Tryz.strings_Cut(s sep:ByteArray)(m:Int)(w:World)(j:s.size<4294967281)(o:w.cell? ⟨0,0,none⟩=some (.int .i64 m)):
 Calls P0 151 #[.string s,.string sep] w λe w'=>e=.returned (.tuple #[.string ⟨(Lib.cut s.data.toList sep.data.toList).1.toArray⟩,.string ⟨(Lib.cut s.data.toList sep.data.toList).2.1.toArray⟩,.bool (Lib.cut s.data.toList sep.data.toList).2.2])/\∃n,w'=w.drewN n:=Any.strings_Cut Tryz.lays145 s sep m w j o
def Tryz.lays206_ren:Go.Shelf.Ren:=⟨λ|206=>103|n=>n,λ|9=>9|4=>4|3=>3|n=>n,λ|n=>n⟩
theorem Tryz.lays206:Go.Proofs.Lays.n206 P0 Tryz.lays206_ren:={
 mixed:=by kernel_rfl
 f206:=Tryz.func103.trans (congrArg some (by kernel_rfl))
 t3:=Tryz.underlying3
 a3:=Tryz.isAgg3
 z3:=Tryz.sizeOf3
 v3:=Tryz.zeroValue3
 t4:=Tryz.underlying4
 a4:=Tryz.isAgg4
 z4:=Tryz.sizeOf4
 v4:=Tryz.zeroValue4
 t9:=Tryz.underlying9
 a9:=Tryz.isAgg9
 z9:=Tryz.sizeOf9
 v9:=Tryz.zeroValue9}
open Go.RowKit Go.Lib in
theorem Tryz.stringslite_HasPrefix(s p:ByteArray)(w:World):
 Calls P0 103 #[.string s,.string p] w λe w'=>e=.returned (.bool (Lib.hasPrefix s.data.toList p.data.toList))/\w'=w:=Any.stringslite_HasPrefix Tryz.lays206 s p w
def Tryz.lays99_ren:Go.Shelf.Ren:=⟨λ|99=>59|206=>103|n=>n,λ|9=>9|4=>4|3=>3|n=>n,λ|n=>n⟩
theorem Tryz.lays99:Go.Proofs.Lays.n99 P0 Tryz.lays99_ren:={
 mixed:=by kernel_rfl
 f99:=Tryz.func59.trans (congrArg some (by kernel_rfl))
 f206:=Tryz.func103.trans (congrArg some (by kernel_rfl))
 t3:=Tryz.underlying3
 a3:=Tryz.isAgg3
 z3:=Tryz.sizeOf3
 v3:=Tryz.zeroValue3
 t4:=Tryz.underlying4
 a4:=Tryz.isAgg4
 z4:=Tryz.sizeOf4
 v4:=Tryz.zeroValue4
 t9:=Tryz.underlying9
 a9:=Tryz.isAgg9
 z9:=Tryz.sizeOf9
 v9:=Tryz.zeroValue9}
open Go.RowKit Go.Lib in
theorem Tryz.strings_HasPrefix(s p:ByteArray)(w:World):
 Calls P0 59 #[.string s,.string p] w λe w'=>e=.returned (.bool (Lib.hasPrefix s.data.toList p.data.toList))/\w'=w:=Any.strings_HasPrefix Tryz.lays99 s p w
def Tryz.lays226_ren:Go.Shelf.Ren:=⟨λ|226=>190|n=>n,λ|3=>3|4=>4|n=>n,λ|n=>n⟩
theorem Tryz.lays226:Go.Proofs.Lays.n226 P0 Tryz.lays226_ren:={
 mixed:=by kernel_rfl
 f226:=Tryz.func190.trans (congrArg some (by kernel_rfl))
 t3:=Tryz.underlying3
 a3:=Tryz.isAgg3
 z3:=Tryz.sizeOf3
 v3:=Tryz.zeroValue3
 t4:=Tryz.underlying4
 a4:=Tryz.isAgg4
 z4:=Tryz.sizeOf4
 v4:=Tryz.zeroValue4}
open Go.RowKit Go.Lib in
theorem Tryz.strings_shouldUseASCIISet(n:Int)(w:World):
 Calls P0 190 #[.int .i64 n] w λe w'=>e=.returned (.bool (decide (8<n)))/\w'=w:=Any.strings_shouldUseASCIISet Tryz.lays226 n w
def Tryz.lays153_ren:Go.Shelf.Ren:=⟨λ|153=>145|152=>189|226=>190|227=>191|228=>192|137=>104|119=>215|224=>195|225=>194|217=>146|266=>193|n=>n,λ|9=>9|3=>3|4=>4|5=>5|21=>21|117=>244|116=>243|0=>0|46=>75|124=>248|n=>n,λ|n=>n⟩
theorem Tryz.lays153:Go.Proofs.Lays.n153 P0 Tryz.lays153_ren:={
 mixed:=by kernel_rfl
 f119:=Tryz.func215.trans (congrArg some (by kernel_rfl))
 f137:=Tryz.func104.trans (congrArg some (by kernel_rfl))
 f152:=Tryz.func189.trans (congrArg some (by kernel_rfl))
 f153:=Tryz.func145.trans (congrArg some (by kernel_rfl))
 f217:=Tryz.func146.trans (congrArg some (by kernel_rfl))
 f224:=Tryz.func195.trans (congrArg some (by kernel_rfl))
 f225:=Tryz.func194.trans (congrArg some (by kernel_rfl))
 f226:=Tryz.func190.trans (congrArg some (by kernel_rfl))
 f227:=Tryz.func191.trans (congrArg some (by kernel_rfl))
 f228:=Tryz.func192.trans (congrArg some (by kernel_rfl))
 f266:=Tryz.func193.trans (congrArg some (by kernel_rfl))
 t0:=Tryz.underlying0
 a0:=Tryz.isAgg0
 z0:=Tryz.sizeOf0
 v0:=Tryz.zeroValue0
 t3:=Tryz.underlying3
 a3:=Tryz.isAgg3
 z3:=Tryz.sizeOf3
 v3:=Tryz.zeroValue3
 t4:=Tryz.underlying4
 a4:=Tryz.isAgg4
 z4:=Tryz.sizeOf4
 v4:=Tryz.zeroValue4
 t5:=Tryz.underlying5
 a5:=Tryz.isAgg5
 z5:=Tryz.sizeOf5
 v5:=Tryz.zeroValue5
 t9:=Tryz.underlying9
 a9:=Tryz.isAgg9
 z9:=Tryz.sizeOf9
 v9:=Tryz.zeroValue9
 t21:=Tryz.underlying21
 a21:=Tryz.isAgg21
 z21:=Tryz.sizeOf21
 v21:=Tryz.zeroValue21
 t46:=Tryz.underlying75
 a46:=Tryz.isAgg75
 z46:=Tryz.sizeOf75
 v46:=Tryz.zeroValue75
 t116:=Tryz.underlying243
 a116:=Tryz.isAgg243
 z116:=Tryz.sizeOf243
 t117:=Tryz.underlying244
 a117:=Tryz.isAgg244
 z117:=Tryz.sizeOf244
 v117:=Tryz.zeroValue244
 t124:=Tryz.underlying248
 a124:=Tryz.isAgg248
 z124:=Tryz.sizeOf248
 v124:=Tryz.zeroValue248}
open Go.RowKit Go.Lib in
theorem Tryz.strings_IndexAny_long(o:∀w,(zeroValue 243).run P0 w=.ok (.agg (Array.replicate 256 (.bool false))) w)(s chars:ByteArray)(w:World)(h2:2<=chars.size)(U:8<s.size)(J:s.size<4294967281)(I:chars.size<4294967281)(hascii:∀(j:Nat) b,chars.data.toList[j]?=some b->b.toNat<128):
 Calls P0 145 #[.string s,.string chars] w λe w'=>e=.returned (.int .i64 (Lib.indexAny s.data.toList chars.data.toList))/\w'=((w.alloc (.cells (Lib.setCells chars.data.toList) 243)).alloc (.cells (Lib.setCells chars.data.toList) 243)):=Any.strings_IndexAny_long Tryz.lays153 o (by kernel_rfl) s chars w h2 U J I hascii
open Go.RowKit Go.Lib in
theorem Tryz.strings_TrimLeft_laid(s cutset:ByteArray)(w:World)(o:cutset.size<4294967281)(hascii:∀(j:Nat) b,cutset.data.toList[j]?=some b->b.toNat<128):
 Calls P0 152 #[.string s,.string cutset] w λe w'=>e=.returned (.string ⟨(Lib.trimLeftS s.data.toList cutset.data.toList).toArray⟩)/\Below w.heap.size w w':=Any.strings_TrimLeft_laid Tryz.lays161 (by kernel_rfl) s cutset w o hascii
end
end Go.Proofs
namespace Go.Proofs.YtjblfcfdeaagpaaGreatDoor
section
open Go Go.Eng Go.Num
variable{w:World}{K:Q0}{cs:List Value}{G:Nat->Prop}{T:TypeId}{i:Nat}{n:Nat}{v:Value}{w':World}{P:Program}{c:UInt8}{S:Nat->Prop}
abbrev u64(n:Nat):Value:=.int .u64 (n:Int)
abbrev U8:TypeId:=5
theorem KU(w:World)(e:TypeId)(s:ByteArray):Ext w (Lib.bytesWorld w e s):=
 ⟨rfl,rfl,rfl,by rw[Lib.bytesWorld_size];omega,λk j _=>Lib.bytesWorld_at_old w e s k j⟩
theorem FZ{l:Str}{src dst:TypeId}{K:Q0}(I:Tryz.prog.underlying src=some .string)(hd:Tryz.prog.underlying dst=some (.slice U8))(J:Tryz.prog.underlying U8=some (.int .u8))
  (U:∀v w',Byt w' U8 v l->Ext w w'->K v w'):fH P0 (convert src dst (str l)) w K:=by
 unfold fH;rw[Lib.run_convert_string_bytes w src dst U8 (ofL l) I hd J];refine U _ _ ?_ (KU _ _ _);have j:(ofL l).size<=grownCap w (ofL l).size 0 U8:=by
  exact grownCap_ge w (ofL l).size 0 U8
 refine⟨some ⟨w.heap.size,0,none⟩,grownCap w (ofL l).size 0 U8,by rw[jG],by rw[<-jG];exact j,(λe=>by cases e),λ_=>⟨w.heap.size,0,_,_,rfl,Lib.bytesWorld_at_new w U8 (ofL l),λi hi=>?_⟩⟩;have hi:i<(ofL l).size:=by rw[jG];simpa[uM]using hi
 have:=Lib.bytesWorld_cell w U8 (ofL l) i hi;rw[cA,Lib.bytesWorld_at_new,bM]at this;rw[aH,this,Bz,iP];have o:i<l.length:=by rw[jG]at hi;exact hi
 simp[List.getD_eq_getElem?_getD,List.getElem?_eq_getElem o]
theorem kX[HX]{g:FuncId}{args:Array Value}{K:Q0}(j:∀(ar:Array Value) (w:World),(callFunc g ar).run P0 w=.ok (.enter g ar) w)
  (h:Calls P0 g args w λe w'=>∃v,e=.returned v/\K v w'):aI P0 g args.toList w K:=by
 unfold aI;rw[show args.toList.toArray=args from by simp,j];refine h.mono ?_;rintro e w' ⟨v,rfl,o⟩;exact o
section
variable [HX]
theorem yY{a b:Str}(o:Op.bytesLess a b=false)(j:(!(Op.bytesLess a b||decide (a=b)))=false):a=b:=by
 rw[o]at j;simpa using j
theorem Od{s p:Str}{K:Q0}(o:s.length<=9223372036854775807)(j:K (.bool (p.isPrefixOf s)) w):aI P0 103 [str s,str p] w K:=by
 refine kX (args:=#[str s,str p]) Tryz.call103 ((Tryz.stringslite_HasPrefix (ofL s) (ofL p) w).mono ?_);rintro e w' ⟨rfl,rfl⟩;refine⟨_,rfl,?_⟩;rw[iP,iP];exact j
theorem FW{a:Str}{K:Q0}(I:a.length<=9223372036854775807)(j:K (str (dig a)) w):aI P0 148 [str a,str [45]] w K:=by
 refine Sy ?_;unfold YU;refine RO ?_;unfold Ys;refine Od I ?_;cases a with
 |nil=>
  rw[show([45]:Str).isPrefixOf []=false from rfl];simp only[wsv,wsg,wsh,wsl,aQ,aM,aD,jU,Nat.reduceAdd,Nat.reduceLT,bT,aS,cY,cH,cJ,reduceCtorEq];exact j
 |cons c r=>
  by_cases o:c=45
  ·subst o;have e:([45]:Str).isPrefixOf (45::r)=true:=by simp[List.isPrefixOf]
   have ed:dig (45::r)=r:=by simp[dig]
   rw[ed]at j;rw[e];have e1:((0+1:Nat):Int).toNat=1:=rfl;simp only[wsv,wsg,wsh,wsl,aQ,aM,aD,jU,Nat.reduceAdd,Nat.reduceLT,bT,aS,cY,cH,cJ,reduceCtorEq,e1];refine⟨by omega,by omega,?_⟩;rw[<-aB (a:=(45:UInt8)),eQ];exact j
  ·have e:([45]:Str).isPrefixOf (c::r)=false:=by simp[List.isPrefixOf,jS o]
   have ed:dig (c::r)=c::r:=by simp[dig,o]
   rw[ed]at j;rw[e];simp only[wsv,wsg,wsh,wsl,aQ,aM,aD,jU,Nat.reduceAdd,Nat.reduceLT,bT,aS,cY,cH,cJ,reduceCtorEq];exact j
theorem GE{a:Str}{K:Q0}(ha:a.length<=9223372036854775807)(I:∀w',Ext w w'->K (.bool (goodN a)) w'):aI P0 111 [str a] w K:=by
 refine Tc ?_;unfold Zt;refine FW ha ?_;have hg:goodN a=(!decide ((dig a).length<1)&&!decide (100<(dig a).length)&&!((dig a).head?==some 48&&!decide (a=[48]))&&(dig a).all Num.isDig):=by
  unfold goodN;have e1:decide (1<=(dig a).length)=!decide ((dig a).length<1):=by rw[<-decide_not];exact decide_eq_decide.2 (by omega)
  have e2:decide ((dig a).length<=100)=!decide (100<(dig a).length):=by rw[<-decide_not];exact decide_eq_decide.2 (by omega)
  rw[e1,e2];cases((dig a).head?==some 48)<;>cases decide (a=[48])<;>simp
 rw[hg]at I;have hk:(dig a).length<=a.length:=by
  cases a with
  |nil=>simp[dig]
  |cons c r=>simp only[dig];split<;>simp
 cases hd:dig a with
 |nil=>
  rw[hd]at I;have U:decide (((0:Nat):Int)<1)=true:=by decide
  simp only[wsv,wsg,wsh,wsl,aQ,aM,aD,jU,Nat.reduceAdd,Nat.reduceLT,bT,aS,cY,cH,cJ,reduceCtorEq,U];intros;exact I _ (Chg.refl _ _)
 |cons c r=>
  rw[hd]at I hk;have U:decide (((r.length+1:Nat):Int)<1)=false:=cM (by omega);simp only[wsv,wsg,wsh,wsl,aQ,aM,aD,jU,Nat.reduceAdd,Nat.reduceLT,bT,aS,cY,cH,cJ,reduceCtorEq,mN,Int.toNat_zero,Xn c 48 48 rfl,U];intros;rw[dU];have e1:decide ((100:Int)<((r.length+1:Nat):Int))=decide (100<(c::r).length):=decide_eq_decide.2 (by simp only[aB];omega);have e4:decide ((c::r).length<1)=false:=cM (by simp);have e5:((c::r).head?==some 48)=(c==48):=by simp
  rw[e1];rw[e4,e5]at I;simp only[decide_not];generalize decide (100<(c::r).length)=b1 at*
  generalize ((c==48)&&!decide (a=[48]))=b2 at*
  refine⟨λh=>?_,λh=>?_⟩
  ·have:=I _ (Chg.refl _ _);have e:(!false&&!b1&&!b2&&(c::r).all Num.isDig)=false:=by
    cases b1<;>cases b2<;>simp at h⊢
   rw[e]at this;exact this
  ·have hb:b1=false/\b2=false:=by simpa using h
   rw[hb.1,hb.2]at I;refine FZ (l:=c::r) (by kernel_rfl) (by kernel_rfl) (by kernel_rfl) λv w1 hv J=>?_;rw[jH hv];generalize c::r=D at*
   refine xS D.length (λi w2=>Ext w1 w2/\(D.take i).all Num.isDig=true) ⟨Chg.refl _ _,rfl⟩ ?_ ?_
   ·rintro i w2 g L hi ⟨o,j⟩ hL;obtain⟨e,he⟩:∃e,D[i]?=some e:=⟨_,List.getElem?_eq_getElem hi⟩;have hh:((i:Int)<((D.length:Nat):Int)):=by omega
    simp only[wsv,wsg,wsh,wsl,aQ,aM,aD,jU,Nat.reduceAdd,Nat.reduceLT,bT,aS,cY,cH,cJ,reduceCtorEq,hh];refine pX (hv.ext o) (by rw[uM]) (by rw[Bz,he];rfl) ?_;simp only[wsv,wsg,wsh,wsl,aQ,aM,aD,jU,Nat.reduceAdd,Nat.reduceLT,bT,aS,cY,cH,cJ,reduceCtorEq,Ku];intros;rw[dU];refine⟨λhf=>?_,λht=>?_⟩
    ·have hf:Num.isDig e=false:=by simpa using hf
     have:=I _ (J.trans o);rw[VP he hf]at this;exact this
    ·have ht:Num.isDig e=true:=by simpa using ht
     rw[up1 (by omega)];exact hL _ ⟨o,by rw[HE he,j,ht];rfl⟩
   ·rintro w2 g L ⟨o,j⟩;simp only[wsv,wsg,wsh,wsl,aQ,aM,aD,jU,Nat.reduceAdd,Nat.reduceLT,bT,aS,cY,cH,cJ,reduceCtorEq,Az];rw[eQ]at j;have:=I w2 (J.trans o);rw[j]at this;exact this
end
end
end Go.Proofs.YtjblfcfdeaagpaaGreatDoor
namespace Go.Proofs
section
open Go.RowKit Go.Lib Go.Shelf
variable{w:World}{K:Q0}{cs:List Value}{G:Nat->Prop}{T:TypeId}{i:Nat}{n:Nat}{v:Value}{w':World}{P:Program}{c:UInt8}{S:Nat->Prop}
abbrev BdT:TypeId:=114
set_option maxHeartbeats 1000000 in
set_option maxRecDepth 100000 in
theorem Tryz.check_used(b:Nat)(w:World)(I:w.cell? ⟨b,0,none⟩=some (.pointer (some ⟨b,0,none⟩))):
  Calls P0 131 #[.pointer (some ⟨b,0,none⟩)] w λe w'=>e=.returned (.tuple #[])/\w'=w:=by
 obtain⟨j,o,_⟩:=yE.1 (show(Tryz.prog.info? 114).map (·.size)=some 2 by kernel_rfl)
 go_enter Tryz.func131,Tryz.ntmps131
 go_wp2
 rw[Lib.run_neq_ptr_same w _ Tryz.underlying112 o]
 go_wp2
 go_end0
 exact⟨rfl,rfl⟩
set_option maxHeartbeats 1000000 in
set_option maxRecDepth 100000 in
theorem Tryz.check_fresh(b:Nat)(w:World)(h0:w.cell? ⟨b,0,none⟩=some (.pointer none))(o:w.shape? b=some (114,2))(U:w.frozen? ⟨b,0,none⟩=false):
  Calls P0 131 #[.pointer (some ⟨b,0,none⟩)] w λe w'=>e=.returned (.tuple #[])/\w'=w.setCell ⟨b,0,none⟩ (.pointer (some ⟨b,0,none⟩)):=by
 obtain⟨j,J,I⟩:=yE.1 (show(Tryz.prog.info? 114).map (·.size)=some 2 by kernel_rfl)
 go_enter Tryz.func131,Tryz.ntmps131
 go_wp2
 rw[Lib.run_to_unsafe w ⟨b,0,none⟩ Tryz.underlying112 Tryz.underlying230 J (by rw[I];decide) o (aS 1)];simp only[Result.andThen];rw[Oper.upon_value]
 go_wp2
 rw[run_callFunc_extern Tryz.func170 (by kernel_rfl) (by kernel_rfl) (by kernel_rfl) (e:=Extern.AbiNoEscape.same) (by kernel_rfl)];rw[Lib.run_noEscape];simp only[Result.andThen];rw[Oper.upon_value]
 go_wp2
 rw[Lib.run_from_unsafe w ⟨b,0,none⟩ Tryz.underlying230 Tryz.underlying112 J o (show liesAt P0 Tryz.prog.depth 114 (2/Tryz.prog.cellsOf 114) 0 114 1=true by kernel_rfl)];simp only[Result.andThen];rw[Oper.upon_value]
 go_wp2
 go_end0
 exact⟨rfl,rfl⟩
end
end Go.Proofs
namespace Go.Proofs.YtjblfcfdeaagpaaGreatDoor
section
open Go Go.Eng Go.RowKit
variable{w:World}{K:Q0}{cs:List Value}{G:Nat->Prop}{T:TypeId}{i:Nat}{n:Nat}{v:Value}{w':World}{P:Program}{c:UInt8}{S:Nat->Prop}
abbrev BdT:TypeId:=114
theorem xY:qB P0 80 U8 1 1:=⟨by kernel_rfl,by kernel_rfl,by decide⟩
def Bld(w:World)(B b:Nat)(l:Str):Prop:=
 ∃p v,w.heap[b]?=some (.cells [p,v].toArray BdT (0,0))/\(p=.pointer none\/p=.pointer (some ⟨b,0,none⟩))/\Own w B U8 1 v l.length (u8s l)/\B<=b
def BCh(w:World)(B b:Nat)(k:Nat):Prop:=k=b\/Du w B U8 k
theorem Bld.chg{B b:Nat}{l:Str}(h:Bld w B b l)(j:Chg S w w')(hb:¬S b)(o:∀k,Du w B U8 k->¬S k):Bld w' B b l:=by
 obtain⟨p,v,h1,U,J,I⟩:=h;exact⟨p,v,j.at h1 hb,U,J.chg j o,I⟩
theorem Bld.ext{B b:Nat}{l:Str}(h:Bld w B b l)(j:Ext w w'):Bld w' B b l:=h.chg j (λe=>e) λ_ _ e=>e
theorem Bld.lt{B b:Nat}{l:Str}(h:Bld w B b l):b<w.heap.size:=by
 obtain⟨p,v,j,_⟩:=h;exact mJ j
theorem Bld.base{B b:Nat}{l:Str}(h:Bld w B b l):B<=b:=by obtain⟨p,v,_,_,_,j⟩:=h;exact j
theorem JL{B b:Nat}{p:Value}(o:w.heap[b]?=some (.cells [p,v].toArray BdT (0,0))):¬Du w B U8 b:=by
 rintro⟨_,c,j⟩;rw[o]at j;simp only[aV,Obj.cells.injEq]at j;exact absurd j.2.1 (by decide)
theorem BCh.trans{w1 w2:World}{B b:Nat}(j:Chg (BCh w B b) w w1)(o:Chg (BCh w1 B b) w1 w2):Chg (BCh w B b) w w2:=by
 refine⟨o.os.trans j.os,o.tape.trans j.tape,o.output.trans j.output,dI j.size o.size,λk J I=>?_⟩;have e1:=j.heap k J I;rw[<-e1];refine o.heap k (cV J j.size) λe=>I ?_;rcases e with e|⟨e2,c,e3⟩
 ·exact .inl e
 ·exact .inr ⟨e2,c,by rw[<-e1];exact e3⟩
theorem BCh.from{w1 w2:World}{B b:Nat}(o:Ext w w1)(j:Chg (BCh w1 B b) w1 w2):Chg (BCh w B b) w w2:=BCh.trans (Chg.of_ext o) j
theorem BCh.new{w0:World}{B b:Nat}(j:Ext w0 w)(hB:w0.heap.size<=B)(hb:B<=b)(h:Chg (BCh w B b) w w'):Ext w0 w':=
 j.then h λk o e=>by
  rcases e with rfl|⟨e,_⟩
  ·omega
  ·omega
theorem BCh.iter{B b k p:Nat}{s:ByteArray}(h:Chg (BCh w B b) w w')(j:w.heap[k]?=some (.stringIter s p))(hb:k≠b):w'.heap[k]?=some (.stringIter s p):=
 h.at j λe=>by
  rcases e with e|⟨_,c',e⟩
  ·exact hb e
  ·rw[j]at e;cases e
section
variable [HX]
theorem XQ{B:Nat}{K:Q0}(hB:B<=w.heap.size)(I:∀b w',b=w.heap.size->Bld w' B b []->Ext w w'->K (.pointer (some ⟨b,0,none⟩)) w'):dY BdT [.pointer none,.slice none 0 0] w K:=
 cI λa w' o J hb j=>I a w' o ⟨_,_,hb,.inl rfl,⟨by simp[u8s],.inl ⟨rfl,rfl⟩⟩,by omega⟩ j
theorem FD{B b:Nat}{l:Str}{K:Q0}(h:Bld w B b l)
  (o:∀v w',w'.heap[b]?=some (.cells [.pointer (some ⟨b,0,none⟩),v].toArray BdT (0,0))->Own w' B U8 1 v l.length (u8s l)->w'.heap.size=w.heap.size->Chg (BCh w B b) w w'->K (.tuple #[]) w'):
  aI P0 131 [.pointer (some ⟨b,0,none⟩)] w K:=by
 obtain⟨p,v,j,U,I,h4⟩:=h;have c0:w.cell? ⟨b,0,none⟩=some p:=by rw[cA,j];rfl
 rcases U with rfl|rfl
 ·refine kX (args:=#[.pointer (some ⟨b,0,none⟩)]) Tryz.call131 ((Tryz.check_fresh b w c0 (by simp[World.shape?,j]) (by rw[eW,j];rfl)).mono ?_);rintro e w' ⟨rfl,rfl⟩;refine⟨_,rfl,o v _ ?_ ?_ (dH _ _ _) (Chg.set (Chg.refl _ _) (.inl (.inl rfl)) _)⟩
  ·rw[nC,j];rfl
  ·refine I.chg (Chg.set (S:=λk=>k=b) (Chg.refl _ _) (.inl rfl) _) λk J e=>?_;subst e;exact JL j J
 ·refine kX (args:=#[.pointer (some ⟨b,0,none⟩)]) Tryz.call131 ((Tryz.check_used b w c0).mono ?_);rintro e w' ⟨rfl,rfl⟩;exact⟨_,rfl,o v _ j I rfl (Chg.refl _ _)⟩
theorem IN{w3:World}{B b n:Nat}{l l':Str}{v':Value}{K:World->Prop}(h1:w.heap[b]?=some (.cells [.pointer (some ⟨b,0,none⟩),v].toArray BdT (0,0)))(hO:Own w B U8 1 v l.length (u8s l))(hb:B<=b)
  (hc:Chg (λk=>v.ownBlock=some k) w w3)(o:Own w3 B U8 1 v' l'.length (u8s l'))(hK:∀w',Bld w' B b l'->Chg (BCh w B b) w w'->w'.heap.size=w3.heap.size->K w'):
  stW 1 (.pointer (some ⟨b,1,none⟩)) v' w3 K:=by
 have J:¬v.ownBlock=some b:=λe=>JL h1 (hO.block b e);have h3:=hc.at h1 J;have I:jD v'=true:=by obtain⟨p,c,rfl,_⟩:=o.sl.shape;rfl
 refine jZ h3 I (by simp) λw4 hz U j=>?_;refine hK w4 ⟨.pointer (some ⟨b,0,none⟩),v',by rw[U];simp,.inr rfl,o.chg j λk hk e=>by subst e;exact JL h3 hk,hb⟩ ?_ hz;have s1:Chg (BCh w B b) w w3:=hc.mono λk _ e=>.inr (hO.block k e);exact s1.then j λk _ e=>.inl e
theorem TM{B b:Nat}{l s:Str}{K:Q0}(h:Bld w B b l)(hB:B<=w.heap.size)(hl:l.length+s.length<=140737488355328)
  (hK:∀v w',Bld w' B b (l++s)->Chg (BCh w B b) w w'->K v w'):aI P0 88 [.pointer (some ⟨b,0,none⟩),str s] w K:=by
 have hb:=h.base;refine Wb ?_;unfold W88;refine FD h λv w1 h1 hO hz hc=>?_;rw[cQ,bD,dX];refine⟨v,by rw[bG,cA,h1];rfl,?_⟩;obtain⟨i,z,hi,hk,h2,h3,h4⟩:=xY.get;have o:i.zero=some (.int .u8 0):=by
  have:(Tryz.prog.info? U8).map (·.zero)=some (some (.int .u8 0)):=by kernel_rfl
  rw[hi]at this;simpa using this
 obtain⟨v',w3,hr,j,hg,_⟩:=Lib.run_append_own_string (P:=P0) w1 B 80 9 80 U8 i xY.und (by kernel_rfl) hi o h2 h3 v l.length (u8s l) hO (ofL s) (by rw[jG];unfold maxLen;omega) (by rw[jG];omega) (by omega);unfold fH;rw[hr];dsimp only;rw[cQ,bD];have U:Own w3 B U8 1 v' (l++s).length (u8s (l++s)):=by
  rw[EN,aP];have e1:Lib.strCells (ofL s)=u8s s:=by unfold Lib.strCells u8s;rw[iP]
  rw[jG,e1]at j;exact j
 refine IN (n:=0) h1 hO hb (Chg.of_grown hg λk e=>e) U λw4 J I _=>?_;rw[dM];exact hK _ w4 J (BCh.trans hc I)
theorem HW{K:Q0}(j:∀t w',gD w' U8 t 1 [.int .u8 (n:Int)]->Ext w w'->K t w'):fV U8 1 [(.int .u8 0)] [(0,1,.int .u8 (n:Int))] w K:=by
 rw[fV];simp only[dF,dC,aB,aK,aL];refine⟨by omega,?_⟩;refine j _ _ ⟨_,_,rfl,aY _,λe=>(by cases e),λ_=>⟨_,_,_,_,rfl,jY _ _ _ rfl,λi _=>by rw[aH];simp⟩⟩ (Chg.alloc (Chg.refl _ _) _)
theorem By{B b:Nat}{l:Str}{K:Q0}(h:Bld w B b l)(hB:B<=w.heap.size)(hl:l.length+1<=140737488355328)(hn:n<256)
  (hK:∀w',Bld w' B b (l++[UInt8.ofNat n])->Chg (BCh w B b) w w'->K .nilIface w'):aI P0 126 [.pointer (some ⟨b,0,none⟩),.int .u8 (n:Int)] w K:=by
 have hb:=h.base;refine SQ ?_;unfold Zl;refine FD h λv w1 h1 hO hz hc=>?_;rw[cQ,bD,dX];refine⟨v,by rw[bG,cA,h1];rfl,?_⟩;refine HW λt w2 ht j=>?_;refine tI xY (hO.ext j) ht (m:=1) rfl (λu hu=>by simp only[bR]at hu;subst hu;rfl) (by omega) (by omega) (by have:=j.size;omega) λv' w3 U I _=>?_;rw[cQ,bD];have hg:Own w3 B U8 1 v' (l++[UInt8.ofNat n]).length (u8s (l++[UInt8.ofNat n])):=by
  rw[EN,aP];have e1:u8s [UInt8.ofNat n]=[.int .u8 (n:Int)]:=by
   simp only[u8s,fC,jQ,rF];rw[qD (by omega)]
  rw[e1];exact U
 refine IN (n:=0) (j.at h1 id) (hO.ext j) hb I hg λw4 J o _=>?_;exact hK w4 J (BCh.trans hc (BCh.from j o))
end
abbrev u8(n:Nat):Value:=.int .u8 (n:Int)
theorem Xz:∀x:Fin 32,IntKind.u8.wrap (BitVec.ofInt IntKind.u8.bits 192|||BitVec.ofInt IntKind.u8.bits ((x.val:Nat):Int)).toNat=((192+x.val:Nat):Int):=by decide+kernel
theorem Xy:∀x:Fin 16,IntKind.u8.wrap (BitVec.ofInt IntKind.u8.bits 224|||BitVec.ofInt IntKind.u8.bits ((x.val:Nat):Int)).toNat=((224+x.val:Nat):Int):=by decide+kernel
theorem Xx:∀x:Fin 8,IntKind.u8.wrap (BitVec.ofInt IntKind.u8.bits 240|||BitVec.ofInt IntKind.u8.bits ((x.val:Nat):Int)).toNat=((240+x.val:Nat):Int):=by decide+kernel
theorem XA:∀x:Fin 64,IntKind.u8.wrap (BitVec.ofInt IntKind.u8.bits 128|||BitVec.ofInt IntKind.u8.bits ((x.val:Nat):Int)).toNat=((128+x.val:Nat):Int):=by decide+kernel
theorem XS:∀x:Fin 256,IntKind.u8.wrap (BitVec.ofInt IntKind.u8.bits ((x.val:Nat):Int)&&&BitVec.ofInt IntKind.u8.bits 63).toNat=((x.val%64:Nat):Int):=by decide+kernel
theorem xK(n:Nat):IntKind.u8.wrap (n:Int)=((n%256:Nat):Int):=by
 simp only[IntKind.wrap,IntKind.bits,IntKind.signed,dE];rw[show(2:Int)^8=256 by decide];simp
theorem FU(h:n<4294967296):IntKind.u32.wrap (n:Int)=(n:Int):=by
 simp only[IntKind.wrap,IntKind.bits,IntKind.signed,dE];rw[show(2:Int)^32=4294967296 by decide];simp only[oH,rN];omega
theorem DG(r k:Nat)(j:k<=32)(K:Value->Prop):aU .shr (.int .i32 (r:Int)) (.int .u64 (k:Int)) K↔K (.int .i32 ((r/2^k:Nat):Int)):=by
 have e:(r:Int).fdiv (2^min (k:Int).toNat IntKind.i32.bits)=((r/2^k:Nat):Int):=by
  rw[bC,show min k IntKind.i32.bits=k from Nat.min_eq_left j,Int.fdiv_eq_ediv_of_nonneg _ (by exact Int.le_of_lt (Int.pow_pos (by decide)))];rw[Int.natCast_ediv,Int.natCast_pow];rfl
 simp only[aU];rw[e];constructor
 ·exactλh=>h.2
 ·exactλh=>⟨by omega,h⟩
theorem AC(x:Nat)(K:Value->Prop):(sT .u8 (.int .i32 (x:Int)) λt=>aU .and t (.int .u8 63) λt=>aU .or (.int .u8 128) t K)↔K (u8 (128+x%64)):=by
 rw[fM,xK,Re,XS ⟨x%256,by omega⟩,FH,XA ⟨x%256%64,by omega⟩];simp only;rw[show x%256%64=x%64 by omega]
theorem ZT{a b:Nat}{K:Q0}(j:∀t w',gD w' U8 t 2 [u8 a,u8 b]->Ext w w'->K t w'):fV U8 2 [(.int .u8 0),(.int .u8 0)] [(0,1,u8 a),(1,1,u8 b)] w K:=by
 rw[fV];simp only[dF,dC,aB,aK,aL,aN];refine⟨by omega,by omega,?_⟩;refine j _ _ ⟨_,_,rfl,aY _,λe=>(by cases e),λ_=>⟨_,_,_,_,rfl,jY _ _ _ rfl,λi _=>by rw[aH];simp⟩⟩ (Chg.alloc (Chg.refl _ _) _)
theorem ZS{a b c:Nat}{K:Q0}(j:∀t w',gD w' U8 t 3 [u8 a,u8 b,u8 c]->Ext w w'->K t w'):fV U8 3 [(.int .u8 0),(.int .u8 0),(.int .u8 0)] [(0,1,u8 a),(1,1,u8 b),(2,1,u8 c)] w K:=by
 rw[fV];simp only[dF,dC,aB,aK,aL,aN];refine⟨by omega,by omega,by omega,?_⟩;refine j _ _ ⟨_,_,rfl,aY _,λe=>(by cases e),λ_=>⟨_,_,_,_,rfl,jY _ _ _ rfl,λi _=>by rw[aH];simp⟩⟩ (Chg.alloc (Chg.refl _ _) _)
theorem ZR{a b c d:Nat}{K:Q0}(j:∀t w',gD w' U8 t 4 [u8 a,u8 b,u8 c,u8 d]->Ext w w'->K t w'):fV U8 4 [(.int .u8 0),(.int .u8 0),(.int .u8 0),(.int .u8 0)] [(0,1,u8 a),(1,1,u8 b),(2,1,u8 c),(3,1,u8 d)] w K:=by
 rw[fV];simp only[dF,dC,aB,aK,aL,aN];refine⟨by omega,by omega,by omega,by omega,?_⟩;refine j _ _ ⟨_,_,rfl,aY _,λe=>(by cases e),λ_=>⟨_,_,_,_,rfl,jY _ _ _ rfl,λi _=>by rw[aH];simp⟩⟩ (Chg.alloc (Chg.refl _ _) _)
theorem NO(l:List Nat)(h:∀x∈l,x<256):u8s (l.map b8)=l.map u8:=by
 unfold u8s;rw[yF];apply List.map_congr_left;intro x j;have:=h x j;simp only[Function.comp,b8,rF,u8];rw[qD (by omega)]
section
variable [HX]
theorem Rh{B r:Nat}{l:Str}{K:Q0}(hO:Own w B U8 1 v l.length (u8s l))(hB:B<=w.heap.size)(hl:l.length+4<=140737488355328)(hr:r<55296\/57343<r/\r<=1114111)
  (hK:∀v' w',Own w' B U8 1 v' (l++wrM r).length (u8s (l++wrM r))->(∀k,¬Du w B U8 k->k<w.heap.size->w'.heap[k]?=w.heap[k]?)->Chg (λk=>v.ownBlock=some k) w w'->K v' w'):
  aI P0 166 [v,.int .i32 (r:Int)] w K:=by
 have fin:∀(bs:List Nat) (t:Value) (w1:World),wrM r=bs.map b8->(∀x∈bs,x<256)->bs.length<=4->gD w1 U8 t bs.length (bs.map u8)->Ext w w1->fH P0 (Builtin.append_ #[80,80] 80 #[v,t]) w1 K:=by
  intro bs t w1 he I ho o j;refine tI xY (hO.ext j) o (m:=bs.length) (by simp) (λu hu=>by simp only[lQ]at hu;obtain⟨x,_,rfl⟩:=hu;rfl) (by omega) (by omega) (by have:=j.size;omega) λv' w3 hh hg _=>?_;have hc:Chg (λk=>v.ownBlock=some k) w w3:=(Chg.of_ext j).trans hg;refine hK v' w3 ?_ (λk hk I=>hc.heap k I λe=>hk (hO.block k e)) hc;rw[EN,he,NO bs I,aP,kN];exact hh
 refine Sn ?_;unfold YM;rw[fM,FU (by omega),fL,bA];refine⟨λh=>?_,λh=>?_⟩
 ·rw[fM,xK,qD (by omega)];refine HW λt w1 o j=>?_;refine fin [r] t w1 ?_ (λx j=>by simp only[bR]at j;omega) (by simp) o j;unfold wrM;rw[aO (by omega)];rfl
 refine RH ?_;unfold Yo;rw[fM,FU (by omega),fL,bA];refine⟨λh2=>?_,λh2=>?_⟩
 ·rw[show(6:Int)=((6:Nat):Int)from rfl,DG r 6 (by omega),fM,xK,show r/2^6%256=r/64 by omega,FH,Xz ⟨r/64,by omega⟩,AC];refine ZT λt w1 o j=>?_;refine fin [192+r/64,128+r%64] t w1 ?_ (λx j=>by simp only[aX,bQ,fF]at j;omega) (by simp) o j;unfold wrM;rw[aJ (by omega),aO (by omega)];rfl
 refine cX.cut (λs' w'=>s'=[.bool (decide (r<=65535))]/\w'=w) ?_ ?_
 ·rw[dT,bA];refine⟨λU=>?_,λU=>?_⟩
  ·rw[bK U,bK (by omega)];exact⟨rfl,rfl⟩
  ·rw[dT,bK (show(57343:Int)<(r:Int)by omega)];refine GdW.look (decide (r<=65535)) (λ_ J hJ=>?_) λg=>?_
   ·rw[fL];rw[show decide ((r:Int)<=65535)=decide (r<=65535)by rw[decide_eq_decide];omega];exact hJ
   ·exact⟨rfl,rfl⟩
 rintro s' g w' ⟨rfl,rfl⟩;simp only[aF];rw[bA];refine⟨λU=>?_,λU=>?_⟩
 ·rw[show(12:Int)=((12:Nat):Int)from rfl,DG r 12 (by omega),fM,xK,show r/2^12%256=r/4096 by omega,FH,Xy ⟨r/4096,by omega⟩,show(6:Int)=((6:Nat):Int)from rfl,DG r 6 (by omega),AC,AC];refine ZS λt w1 o j=>?_;refine fin [224+r/4096,128+r/64%64,128+r%64] t w1 ?_ (λx j=>by simp only[aX,bQ,fF]at j;omega) (by simp) o j;unfold wrM;rw[aJ (by omega),aJ (by omega),aO (by omega)];rfl
 rw[fJ,bK (show(65535:Int)<(r:Int)by omega)];refine GdW.look true (λ_ J hJ=>?_) λg=>?_
 ·rw[fL,bK (show(r:Int)<=1114111 by omega)];exact hJ
 show bB (.bool true) _ _;rw[cU];rw[show(18:Int)=((18:Nat):Int)from rfl,DG r 18 (by omega),fM,xK,show r/2^18%256=r/262144 by omega,FH,Xx ⟨r/262144,by omega⟩,show(12:Int)=((12:Nat):Int)from rfl,DG r 12 (by omega),AC,show(6:Int)=((6:Nat):Int)from rfl,DG r 6 (by omega),AC,AC];refine ZR λt w1 o j=>?_;refine fin [240+r/262144,128+r/4096%64,128+r/64%64,128+r%64] t w1 ?_ (λx j=>by simp only[aX,bQ,fF]at j;omega) (by simp) o j;unfold wrM;rw[aJ (by omega),aJ (by omega),aJ (by omega)];rfl
theorem NJ{B b r:Nat}{l:Str}{K:Q0}(h:Bld w B b l)(hB:B<=w.heap.size)(hl:l.length+4<=140737488355328)(hr:r<55296\/57343<r/\r<=1114111)
  (hK:∀v w',Bld w' B b (l++wrM r)->Chg (BCh w B b) w w'->K v w'):aI P0 127 [.pointer (some ⟨b,0,none⟩),.int .i32 (r:Int)] w K:=by
 have hb:=h.base;refine SP ?_;unfold Zk;refine FD h λv w1 o hO hz hc=>?_;have hj:w1.cell? (⟨b,0,none⟩:Addr)|>.isSome:=by rw[cA,o];rfl
 rw[cQ,bD,dX];refine⟨v,by rw[bG,cA,o];rfl,?_⟩;rw[jH hO.sl,cQ,bD,dX];refine⟨v,by rw[bG,cA,o];rfl,?_⟩;refine Rh hO (by omega) hl hr λv' w2 hg _ J=>?_;rw[cQ,bD];refine IN (n:=0) o hO hb J hg λw4 j I _=>?_;obtain⟨p,v4,h4,_,U,_⟩:=id j;rw[cQ,bD,dX];refine⟨v4,by rw[bG,cA,h4];rfl,?_⟩;rw[jH U.sl,fU];exact hK _ w4 j (BCh.trans hc I)
end
end
section
open Go Go.Eng Go.RowKit Go.Syn Go.Lex
variable{w:World}{K:Q0}{cs:List Value}{G:Nat->Prop}{T:TypeId}{i:Nat}{n:Nat}{v:Value}{w':World}{P:Program}{c:UInt8}{S:Nat->Prop}
theorem Rc{B b:Nat}{l:Str}(h:Bld w B b l):Lib.IsBuilderF BdT U8 B b (Lib.byteCells l) w:=by
 obtain⟨p,v,o,U,j,J⟩:=h;have I:w.ownsRow B U8 1 v (u8s l).length (u8s l):=by rw[uM];exact j
 have:Lib.BuilderAt BdT U8 B b p (u8s l) w:=⟨J,v,o,I,λe=>JL o (j.block b e)⟩;rcases U with rfl|rfl
 ·exact .inl (Lib.BuilderAtF.of this)
 ·exact .inr (Lib.BuilderAtF.of this)
theorem gG[HX]{g:FuncId}{args caps:List Value}{K:Q0}(h:aI P g (args++caps) w K):mY P (.func (.func g) #[] caps.toArray) args w K:=by
 unfold mY Uf;unfold aI at h;have:(do let d<-(Deferred.ofValue (.func (.func g) #[] caps.toArray) args.toArray);invoke d.target d.args:Sem Next)=callFunc g (args++caps).toArray:=by
  show callFunc g (#[]++args.toArray++caps.toArray)=_;simp
 rw[this];exact h
theorem kQ{s:Str}(h:i<s.length):s.drop i=s[i]::s.drop (i+1):=dQ h
theorem pre_eq(s:Str):Lib.hasPrefix s [36,123]=qC [36,123] s:=rfl
section
variable [HX]
theorem EE{B b:Nat}{l:Str}{K:Q0}(h:Bld w B b l)(hB:B<=w.heap.size)(j:∀w',Chg (λk=>B<=k) w w'->K (str l) w'):aI P0 44 [.pointer (some ⟨b,0,none⟩)] w K:=by
 refine kX (args:=#[.pointer (some ⟨b,0,none⟩)]) Tryz.call44 ((Tryz.Builder_String_any_k B b l w (Rc h) hB).mono ?_);rintro e w' ⟨rfl,_,hb,_⟩;exact⟨_,rfl,j w' ⟨hb.os,hb.tape,hb.output,hb.size,λk _ o=>hb.block k (by omega)⟩⟩
theorem zB{s q:Str}{K:Q0}(j:K (.bool (Lib.hasPrefix s q)) w):aI P0 59 [str s,str q] w K:=by
 refine kX (args:=#[str s,str q]) Tryz.call59 ((Tryz.strings_HasPrefix (ofL s) (ofL q) w).mono ?_);rintro e w' ⟨rfl,rfl⟩;rw[iP,iP];exact⟨_,rfl,j⟩
theorem qY{s:Str}{K:Value->Prop}(h:i<s.length)(j:K (.int .u8 (s[i].toNat:Nat))):mX (str s) (i64 (i:Nat)) K:=by
 rw[gU];exact⟨by omega,s[i],by simpa using List.getElem?_eq_getElem h,j⟩
theorem DD(c:UInt8)(k:Nat)(j:k<256):decide (((c.toNat:Nat):Int)=(k:Int))=decide (c=UInt8.ofNat k):=by
 rw[decide_eq_decide];constructor
 ·intro h;have h:c.toNat=k:=by omega
  rw[<-h];simp
 ·intro h;subst h;rw[rF];omega
theorem HU{s:Str}{K:Q0}(he:rY s=true)(hl:s.length<=1000000)(hK:∀w',Ext w w'->K (str (jB s)) w'):aI P0 116 [str s] w K:=by
 refine SU ?_;unfold Zo;refine XQ (B:=w.heap.size) (aY _) λb w1 hb xe hv=>?_;have xh:=hv.size;refine eJ.go (λst w'=>∃i out,st=[i64 (i:Nat)]/\i<=s.length/\Bld w' w.heap.size b out/\Ext w w'/\out++jB (s.drop i)=jB s/\out.length<=i/\rY (s.drop i)=true) (λst _=>match st with|[.int _ i]=>s.length-i.toNat|_=>0)
  ⟨0,[],rfl,by omega,xe,hv,rfl,aY _,he⟩ ?_
 rintro st g w2 ⟨i,out,rfl,hi,hz,hg,J,ho,o⟩;have ht:=hg.size;simp only[aF];rw[dM,dT,bA];have fin:∀{w3:World} {l:Str} {j:Nat} (c:UInt8),Chg (BCh w2 w.heap.size b) w2 w3->Bld w3 w.heap.size b (out++[c])->i<=j->j<s.length->(out++[c])++jB (s.drop (j+1))=jB s->rY (s.drop (j+1))=true->
   (∃i' out',[i64 ((j+1:Nat))]=[i64 (i':Nat)]/\i'<=s.length/\Bld w3 w.heap.size b out'/\Ext w w3/\out'++jB (s.drop i')=jB s/\out'.length<=i'/\rY (s.drop i')=true)/\s.length-((j+1:Nat):Int).toNat<s.length-((i:Nat):Int).toNat:=λ{w3 l j} c hc xd hx hj hq hh=>by
  refine⟨⟨j+1,out++[c],rfl,by omega,xd,BCh.new hg (aY _) (by omega) hc,hq,by simp;omega,hh⟩,?_⟩;simp only[bC];omega
 refine⟨λU=>?_,λxi=>?_⟩
 ·have U:i<s.length:=by omega
  refine qY U ?_;have hd:=kQ U;have xj:=o;rw[hd]at o J;refine cX.cut (λst w'=>w'=w2/\∃(j:Nat) (c:UInt8),st=[i64 (j:Nat),.int .u8 (c.toNat:Nat)]/\i<=j/\j<s.length/\(out++[c])++jB (s.drop (j+1))=jB s/\rY (s.drop (j+1))=true) ?_ ?_
  ·rw[bX,bA];refine⟨λe=>?_,λe=>?_⟩
   ·have ec:s[i]=92:=lT.1 (by have e:(s[i].toNat:Int)=92:=e;show s[i].toNat=92;omega);have I:i+1<s.length:=by
     by_cases h2:i+1<s.length
     ·exact h2
     ·rw[gL (by omega),ec]at o;simp[rY]at o
    have xa:=kQ I;rw[xa,ec]at o J;simp only[rY,pH]at o;simp only[jB,pH]at J;rw[cG,upi (by omega)];refine qY I ?_;rw[bX,bA];refine⟨λe1=>?_,λe1=>?_⟩
    ·have e1:s[i+1]=110:=lT.1 (by have e:(s[i+1].toNat:Int)=110:=e1;show s[i+1].toNat=110;omega);rw[aO e1]at J;exact⟨rfl,i+1,10,rfl,by omega,I,by rw[<-J];simp,o⟩
    have e1':s[i+1]≠110:=λh=>e1 (by rw[h];rfl);rw[bX,bA];rw[aJ e1']at J;refine⟨λe2=>?_,λe2=>?_⟩
    ·have e2:s[i+1]=116:=lT.1 (by have e:(s[i+1].toNat:Int)=116:=e2;show s[i+1].toNat=116;omega);rw[aO e2]at J;exact⟨rfl,i+1,9,rfl,by omega,I,by rw[<-J];simp,o⟩
    have e2':s[i+1]≠116:=λh=>e2 (by rw[h];rfl);rw[bX,bA];rw[aJ e2']at J;refine⟨λe3=>?_,λe3=>?_⟩
    ·have e3:s[i+1]=114:=lT.1 (by have e:(s[i+1].toNat:Int)=114:=e3;show s[i+1].toNat=114;omega);rw[aO e3]at J;exact⟨rfl,i+1,13,rfl,by omega,I,by rw[<-J];simp,o⟩
    have e3':s[i+1]≠114:=λh=>e3 (by rw[h];rfl);rw[aJ e3']at J;exact⟨rfl,i+1,s[i+1],rfl,by omega,I,by rw[<-J];simp,o⟩
   ·have ec:s[i]≠92:=λh=>e (by rw[h];rfl);refine⟨rfl,i,s[i],rfl,aY _,U,?_,?_⟩
    ·rw[<-J];cases hr:s.drop (i+1)with
     |nil=>simp only[jB];rw[aJ ec];simp
     |cons x r=>simp only[jB];rw[aJ ec];simp
    ·cases hr:s.drop (i+1)with
     |nil=>rfl
     |cons x r=>rw[hr]at o;simp only[rY]at o;rw[aJ ec]at o;exact o
  rintro st g2 w3 ⟨rfl,j,c,rfl,hx,hj,hq,hh⟩;simp only[aF,bJ];refine By (n:=c.toNat) hz ht (by omega) (oG c) λw4 hy xb=>?_;rw[cG,upi (by omega)];rw[pI]at hy;exact fin (l:=[]) c xb hy hx hj hq hh
 ·obtain rfl:i=s.length:=by omega
  rw[fZ]at J;simp only[jB,eZ]at J;subst J;refine EE hz ht λw3 xc=>?_;exact hK w3 (hg.then xc λk hk e=>by omega)
end
theorem jF(s:Str)(i j:Nat):(s.drop i).drop j=s.drop (i+j):=kB
section
variable [HX]
def WT(n:Nat):Prop:=∀(s:Str) (w:World) (K:Q0),s.length<=n->s.length<=1000000->K (i64 (oZ s 0:Nat)) w->aI P0 153 [str s] w K
def To(n:Nat):Prop:=∀(c:UInt8) (r:Str) (w:World) (K:Q0),r.length<n->r.length<=1000000->K (i64 ((1+rM r:Nat):Int)) w->aI P0 202 [str (c::r)] w K
theorem Hv(hq:To n):WT n:=by
 intro s w K hn hl J;refine Sv ?_;unfold YR;refine eJ.go (λst w'=>∃(d:Int) (i:Nat),st=[i64 d,i64 (i:Nat)]/\i<=s.length/\w'=w/\i+oZ (s.drop i) d=oZ s 0/\-(i:Int)<=d/\d<=i) (λst _=>match st with|[_,.int _ i]=>s.length-i.toNat|_=>0) ⟨0,0,rfl,by omega,rfl,by simp,by omega,by omega⟩ ?_;rintro st g w2 ⟨d,i,rfl,hi,rfl,hb,hs,hr⟩;simp only[aF,bJ];rw[dM,dT,bA];refine⟨λo=>?_,λho=>?_⟩
 ·have o:i<s.length:=by omega
  have hd:=kQ o;rw[hd,oF]at hb;have cond:∀(k:Nat),k<256->(((s[i].toNat:Nat):Int)=(k:Int)↔s[i]=UInt8.ofNat k):=λk hk=>by
   have:=DD s[i] k hk;rwa[decide_eq_decide]at this
  refine cX.cut (λst w'=>w'=w2/\∃(d':Int) (j:Nat),st=[i64 d',i64 (j:Nat)]/\i<=j/\j<s.length/\j+1+oZ (s.drop (j+1)) d'=oZ s 0/\-((j+1:Nat):Int)<=d'/\d'<=((j+1:Nat):Int)) ?_ ?_
  ·refine qY o ?_;rw[bX,bA];refine⟨λe=>?_,λe=>?_⟩
   ·have e:s[i]=123:=(cond 123 (by omega)).1 e;rw[aO e]at hb;rw[cG,fE (by omega) (by omega)];exact⟨rfl,d+1,i,rfl,aY _,o,by omega,by omega,by omega⟩
   have e:¬s[i]=123:=λh=>e ((cond 123 (by omega)).2 h);rw[aJ e]at hb;rw[bX,bA];refine⟨λe=>?_,λe=>?_⟩
   ·have e:s[i]=125:=(cond 125 (by omega)).1 e;rw[aO e]at hb;rw[fU,fE (by omega) (by omega),bX,bA];refine⟨λU=>?_,λU=>?_⟩
    ·rw[aO U]at hb;rw[cG,upi (by omega),hb];exact J
    ·rw[aJ U]at hb;exact⟨rfl,d-1,i,rfl,aY _,o,by omega,by omega,by omega⟩
   have e:¬s[i]=125:=λh=>e ((cond 125 (by omega)).2 h);rw[aJ e]at hb;rw[bX,bA];refine⟨λe=>?_,λe=>?_⟩
   ·have e:s[i]=34:=(cond 34 (by omega)).1 e;rw[aO e]at hb;rw[eF,eK,eD];refine⟨by omega,by omega,?_⟩;rw[eQ,bC,hd];refine hq _ _ _ _ (by rw[aR];omega) (by rw[aR];omega) ?_;have I:=(TE _ (s.drop (i+1)) (aY _)).2;rw[aR]at I;rw[fU,fE (by omega) (by omega),cG,fE (by omega) (by omega)];rw[jF]at hb;refine⟨rfl,d,i+rM (s.drop (i+1)),?_,by omega,?_,?_,by omega,by omega⟩
    ·simp only[fR,Value.int.injEq,cZ,eY];omega
    ·omega
    ·rw[show i+rM (s.drop (i+1))+1=i+1+rM (s.drop (i+1))by omega];omega
   have e:¬s[i]=34:=λh=>e ((cond 34 (by omega)).2 h);rw[aJ e]at hb;exact⟨rfl,d,i,rfl,aY _,o,by omega,by omega,by omega⟩
  rintro st g2 w3 ⟨rfl,d',j,rfl,hh,hj,ht,h1,h2⟩;simp only[aF,bJ];rw[cG,upi (by omega)];refine⟨⟨d',j+1,rfl,by omega,trivial,by omega,by omega,by omega⟩,?_⟩;simp only[bC];omega
 ·obtain rfl:i=s.length:=by omega
  rw[fZ,No]at hb;rw[<-hb]at J;exact J
theorem LQ(hh:WT n):To (n+1):=by
 intro c r w K hn hl hK;refine RN ?_;unfold Yr;have o:(c::r).length=r.length+1:=rfl;refine eJ.go (λst w'=>∃(i:Nat),st=[i64 ((i+1:Nat):Int)]/\w'=w/\((i<=r.length/\i+rM (r.drop i)=rM r)\/(i=r.length+1/\rM r=r.length))) (λst _=>match st with|[.int _ i]=>r.length+2-i.toNat|_=>0) ⟨0,rfl,rfl,.inl ⟨by omega,by simp⟩⟩ ?_;rintro st g w2 ⟨i,rfl,rfl,hc⟩;simp only[aF,bJ];rw[dM,dT,bA,o];refine⟨λJ=>?_,λhv=>?_⟩
 ·have J:i<r.length:=by omega
  obtain⟨hi,hb⟩:=hc.resolve_right (by omega);have hd:=kQ J;rw[hd,AH]at hb;have cond:∀(k:Nat),k<256->(((r[i].toNat:Nat):Int)=(k:Int)↔r[i]=UInt8.ofNat k):=λk hk=>by
   have:=DD r[i] k hk;rwa[decide_eq_decide]at this
  have ix:∀{KK:Value->Prop},KK (.int .u8 (r[i].toNat:Nat))->mX (str (c::r)) (i64 ((i+1:Nat):Int)) KK:=λh=>qY (s:=c::r) (i:=i+1) (by rw[o];omega) h;refine cX.cut (λst w'=>w'=w2/\∃(j:Nat),st=[i64 ((j+1:Nat):Int)]/\i<=j/\((j+1<=r.length/\j+1+rM (r.drop (j+1))=rM r)\/(j+1=r.length+1/\rM r=r.length))) ?_ ?_
  ·refine ix ?_;rw[bX,bA];refine⟨λe=>?_,λe=>?_⟩
   ·have e:r[i]=34:=(cond 34 (by omega)).1 e;rw[aO e]at hb;rw[cG,upi (by omega)];rw[<-hb,show 1+(i+1)=i+1+1 by omega]at hK;exact hK
   have e:¬r[i]=34:=λh=>e ((cond 34 (by omega)).2 h);rw[aJ e]at hb;refine ix ?_;rw[bX,bA];refine⟨λe=>?_,λe=>?_⟩
   ·have e:r[i]=92:=(cond 92 (by omega)).1 e;rw[aO e]at hb;rw[cG,upi (by omega)];refine⟨rfl,i+1,rfl,by omega,?_⟩;cases I:r.drop (i+1)with
    |nil=>
     rw[I]at hb;have U:r.length<=i+1:=by
      have:=congrArg List.length I;rw[aR,aK]at this;omega
     simp only at hb;exact .inr ⟨by omega,by omega⟩
    |cons x rr=>
     rw[I]at hb;simp only at hb;have e2:r.drop (i+1+1)=rr:=by rw[<-jF,I];rfl
     have e3:=congrArg List.length I;rw[aR,aB]at e3;exact .inl ⟨by omega,by rw[e2];omega⟩
   have e:¬r[i]=92:=λh=>e ((cond 92 (by omega)).2 h);rw[aJ e]at hb;rw[eF,eK,eD];refine⟨by omega,by rw[o];omega,?_⟩;rw[eQ,bC,dW,hd];refine zB ?_;rw[pre_eq,dU];refine⟨λe=>?_,λe=>?_⟩
   ·rw[aO e]at hb;rw[cG,upi (by omega),eF,eK,eD];refine⟨by omega,by rw[o];omega,?_⟩;rw[eQ,bC,dW];refine hh _ _ _ (by rw[aR];omega) (by rw[aR];omega) ?_;have U:=FG (r.drop (i+1)) 0;rw[aR]at U;rw[cG,fE (by omega) (by omega)];rw[jF]at hb;refine⟨rfl,i+oZ (r.drop (i+1)) 0,?_,by omega,.inl ⟨by omega,?_⟩⟩
    ·simp only[fR,Value.int.injEq,cZ,eY];omega
    ·rw[show i+oZ (r.drop (i+1)) 0+1=i+1+oZ (r.drop (i+1)) 0 by omega];omega
   ·rw[aJ (by rw[e];decide)]at hb;exact⟨rfl,i,rfl,aY _,.inl ⟨by omega,by omega⟩⟩
  rintro st g2 w3 ⟨rfl,j,rfl,ht,hj⟩;simp only[aF,bJ];rw[cG,upi (by omega)];refine⟨⟨j+1,rfl,trivial,hj⟩,?_⟩;simp only[bC];omega
 ·have hq:rM r=r.length:=by
   rcases hc with⟨hi,hb⟩|h
   ·rw[gL (by omega),LS]at hb;omega
   ·exact h.2
  rw[hq,show 1+r.length=r.length+1 by omega]at hK;exact hK
theorem JJ:∀n,WT n/\To n
 |0=>have j:To 0:=λ_ _ _ _ h=>by omega
  ⟨Hv j,j⟩
 |n+1=>have j:=LQ (JJ n).1
  ⟨Hv j,j⟩
theorem Nn{s:Str}{K:Q0}(hl:s.length<=1000000)(j:K (i64 (CW s:Nat)) w):aI P0 153 [str s] w K:=(JJ s.length).1 s w K (aY _) hl j
def Fy(s:Str):List Value:=match Syn.insP s with|some (i,e)=>[i64 (i:Nat),i64 (e:Nat)]|none=>[i64 (-1),i64 0]
theorem Kv(c:UInt8)(r:Str):Syn.insP (c::r)=if c=92 then(Syn.insP (r.drop 1)).map (λx=>(x.1+2,x.2+2))else if qC [36,123] (c::r)=true then some (0,1+CW r)else(Syn.insP r).map λx=>(x.1+1,x.2+1):=by
 cases r with
 |nil=>
  simp only[Syn.insP,List.drop_nil,Option.map_none];split
  ·rfl
  ·simp[qC,List.isPrefixOf]
 |cons e r=>
  simp only[Syn.insP,dW,eU];split
  ·rfl
  ·have:(c=36/\e=123)↔qC [36,123] (c::e::r)=true:=by
    simp[qC,List.isPrefixOf];exact⟨λh=>⟨h.1.symm,h.2.symm⟩,λh=>⟨h.1.symm,h.2.symm⟩⟩
   by_cases h:c=36/\e=123
   ·rw[aO h,aO (this.1 h)]
   ·rw[aJ h,aJ (λx=>h (this.2 x))]
theorem wW{s:Str}{K:Q0}(hl:s.length<=1000000)(I:K (.tuple (Fy s).toArray) w):aI P0 115 [str s] w K:=by
 refine SV ?_;unfold Zp;refine eJ.go (λst w'=>∃(i:Nat),st=[i64 (i:Nat)]/\w'=w/\Syn.insP s=(Syn.insP (s.drop i)).map λx=>(x.1+i,x.2+i)) (λst _=>match st with|[.int _ i]=>s.length+1-i.toNat|_=>0) ⟨0,rfl,rfl,by rw[eU];cases Syn.insP s<;>rfl⟩ ?_;rintro st g w2 ⟨i,rfl,rfl,hb⟩;simp only[aF];rw[dM,dT,bA];unfold Fy at I;refine⟨λo=>?_,λhh=>?_⟩
 ·have o:i<s.length:=by omega
  have hd:=kQ o;rw[hd,Kv]at hb;have cond:∀(k:Nat),k<256->(((s[i].toNat:Nat):Int)=(k:Int)↔s[i]=UInt8.ofNat k):=λk hk=>by
   have:=DD s[i] k hk;rwa[decide_eq_decide]at this
  refine cX.cut (λst w'=>w'=w2/\∃(j:Nat),st=[i64 (j:Nat)]/\i<=j/\j<=i+1/\Syn.insP s=(Syn.insP (s.drop (j+1))).map λx=>(x.1+(j+1),x.2+(j+1))) ?_ ?_
  ·refine qY o ?_;rw[bX,bA];refine⟨λe=>?_,λe=>?_⟩
   ·have e:s[i]=92:=(cond 92 (by omega)).1 e;rw[aO e,jF]at hb;rw[cG,upi (by omega)];refine⟨rfl,i+1,rfl,by omega,by omega,?_⟩;rw[hb,Option.map_map];congr 1;funext x;simp only[Function.comp,gK];omega
   have e:¬s[i]=92:=λh=>e ((cond 92 (by omega)).2 h);rw[aJ e]at hb;rw[eF,eK,eD];refine⟨by omega,by omega,?_⟩;rw[eQ,bC,hd];refine zB ?_;rw[pre_eq,dU];refine⟨λe=>?_,λe=>?_⟩
   ·rw[aO e]at hb;rw[cG,upi (by omega),cG,upi (by omega),eF,eK,eD];refine⟨by omega,by omega,?_⟩;rw[eQ,bC];refine Nn (by rw[aR];omega) ?_;have J:=FG (s.drop (i+1)) 0;have eb:CW (s.drop (i+1))=oZ (s.drop (i+1)) 0:=rfl;rw[aR]at J;rw[cG,fE (by omega) (by omega)];rw[hb]at I;simp only[aG]at I;have e1:((0+i:Nat):Int)=(i:Int):=by omega
    have e2:((1+CW (s.drop (i+1))+i:Nat):Int)=((i+1:Nat):Int)+(CW (s.drop (i+1)):Nat):=by omega
    rw[e1,e2]at I;exact I
   ·rw[aJ (by rw[e];decide)]at hb;refine⟨rfl,i,rfl,by omega,by omega,?_⟩;rw[hb,Option.map_map];congr 1;funext x;simp only[Function.comp,gK];omega
  rintro st g2 w3 ⟨rfl,j,rfl,hg,hj,U⟩;simp only[aF];rw[cG,upi (by omega)];refine⟨⟨j+1,rfl,trivial,U⟩,?_⟩;simp only[bC];omega
 ·rw[gL (by omega)]at hb;rw[hb]at I;exact I
end
def wN:List Str:=[[124,124],[38,38],[61,61],[33,61],[60],[62],[60,61],[62,61],[43],[45],[42],[47],[37]]
def BH(x:Int):Int:=if x=0 then 27 else if x=101 then 26 else if x=202 then 20 else if x=203 then 21 else if x=304 then 22 else if x=305 then 23 else if x=306 then 24 else if x=307 then 25 else if x=408 then 15 else if x=409 then 16 else if x=510 then 17 else if x=511 then 18 else if x=512 then 19 else 0
theorem Mz:∀k:Fin 13,∀n:Fin 6,BH ((n.val:Int)*100+(k.val:Int))=Ej n.val (wN[k.val]'k.isLt):=by decide+kernel
theorem AE(x:Str):∀(l:List Str) (i:Nat),(∃k,l[k]?=some x/\rR l x i=((i+k:Nat):Int))\/(x∉l/\rR l x i=-1)
 |[],i=>.inr ⟨by simp,rfl⟩
 |a::r,i=>by
  simp only[rR]
  split
  ·rename_i h
   exact .inl ⟨0,by simp[h],rfl⟩
  ·rename_i h
   rcases AE x r (i+1)with⟨k,o,j⟩|⟨o,j⟩
   ·exact .inl ⟨k+1,by simpa using o,by rw[j];omega⟩
   ·exact .inr ⟨by simp[h,o],j⟩
theorem MG{x:Str}(h:x∉wN):Ej n x=0:=by
 simp only[wN,aX,bQ,fF,not_or]at h;obtain⟨h1,h2,h3,h4,h5,h6,h7,h8,U,J,I,o,j⟩:=h;unfold Ej;simp only[aJ h1,aJ h2,aJ h3,aJ h4,aJ h5,aJ h6,aJ h7,aJ h8,aJ U,aJ J,aJ I,aJ o,aJ j,ite_self]
theorem Iu(J:n<=5)(x:Str):BH ((n:Int)*100+rR wN x 0)=Ej n x:=by
 rcases AE x wN 0 with⟨k,j,o⟩|⟨j,o⟩
 ·have I:k<13:=(List.getElem?_eq_some_iff.1 j).1;have:=Mz ⟨k,I⟩ ⟨n,by omega⟩;rw[o,aH,this];congr 1;exact(List.getElem?_eq_some_iff.1 j).2
 ·rw[o,MG j];have:∀m:Fin 6,BH ((m.val:Int)*100+-1)=0:=by decide+kernel
  exact this ⟨n,by omega⟩
section
variable [HX]
theorem Qi{x:Str}{K:Q0}(j:K (i64 (qL x)) w):aI P0 233 [str x] w K:=by
 refine Rv ?_;unfold Ye;unfold qL at j;rw[eC,bA];refine⟨λh=>by rw[aO h]at j;exact j,λh=>?_⟩;rw[aJ h]at j;rw[eC,bA];refine⟨λh=>by rw[aO h]at j;exact j,λh=>?_⟩;rw[aJ h]at j;rw[eC,bA];refine⟨λh=>by rw[aO h]at j;exact j,λh=>?_⟩;rw[aJ h]at j;exact j
theorem NZ{K:Q0}(h:∀v w',gD w' T v n cs->Ext w w'->K v w')(o:cs.length=n):K (.slice (some ⟨w.heap.size,0,none⟩) n n) (w.alloc (.cells cs.toArray T)):=
 row_new λa w' J I hb j _=>h _ w' (zN hb o) j
theorem JZ{K:Q0}(j:∀v w',gD w' StT v 13 (strs wN)->Ext w w'->K v w'):
  fV StT 13 (List.replicate 13 (.string (ofL []))) [(0,1,(.string (ofL [124,124]))),(1,1,(.string (ofL [38,38]))),(2,1,(.string (ofL [61,61]))),(3,1,(.string (ofL [33,61]))),(4,1,(.string (ofL [60]))),(5,1,(.string (ofL [62]))),(6,1,(.string (ofL [60,61]))),(7,1,(.string (ofL [62,61]))),(8,1,(.string (ofL [43]))),(9,1,(.string (ofL [45]))),(10,1,(.string (ofL [42]))),(11,1,(.string (ofL [47]))),(12,1,(.string (ofL [37])))] w K:=by
 rw[fV];simp only[List.replicate,dK,dC,aB,aK,aL,aN,Nat.reduceAdd,Nat.reduceLT,cZ,aS];exact NZ j rfl
theorem Qs{t:Tok}{K:Q0}(hn:n<=5)(U:∀w',Ext w w'->K (i64 (qM t n)) w'):aI P0 204 [.agg (iT t).toArray,i64 (n:Nat)] w K:=by
 refine RI ?_;unfold Yp;refine fX (z:=iT t) λb w1 hb hj J o=>?_;unfold qM at U;have ldc:∀{w':World} {off:Nat} {v:Value} {KK:Value->Prop},w'.heap[b]?=some (.cells (iT t).toArray TkT (0,0))->(iT t)[off]?=some v->KK v->aZ off (.pointer (some ⟨b,0,none⟩)) λx=>ldW false 1 x w' KK:=λh hv hk=>by
  rw[bD,bG,aH,dX];exact⟨_,by rw[cA,h,bM];simpa using hv,hk⟩
 refine ldc J rfl ?_;rw[eX,bA];refine⟨λh=>?_,λh=>?_⟩
 ·rw[aJ h]at U;exact U w1 o
 have h:t.k=4:=by omega
 rw[aO h,<-Iu hn]at U;rw[gX,fE (by omega) (by omega)];refine JZ λv w2 hv j=>?_;refine ldc (j.at J id) rfl ?_;refine Jx (l:=wN) hv (by decide) ?_;have hr:-1<=rR wN t.t 0/\rR wN t.t 0<=12:=by
  rcases AE t.t wN 0 with⟨k,h1,h2⟩|⟨h1,h2⟩
  ·have hk:k<13:=(List.getElem?_eq_some_iff.1 h1).1;rw[h2];omega
  ·rw[h2];omega
 rw[cG,fE (by omega) (by omega)];generalize (n:Int)*100+rR wN t.t 0=x at*
 have I:=U w2 (o.trans j);unfold BH at I;have step:∀{k r e:Int} {A B:Prop},((if x=k then r else e)=r->A)->(¬x=k->B)->bB (.bool (decide (x=k))) A B:=λh1 h2=>by
  rw[bA];exact⟨λe=>h1 (aO e),h2⟩
 iterate 13
  rw[bX,bA];refine⟨λe=>by rw[aO e]at I;exact I,λe=>?_⟩;rw[aJ e]at I
 exact I
theorem sB{b:Nat}(h:w.heap[b]?=some (.cells cs.toArray T (0,0)))(j:0<n:=by omega):gD w T (.slice (some ⟨b,0,none⟩) n n) n cs:=
 ⟨_,_,rfl,aY _,λe=>(by cases e),λ_=>⟨b,0,cs.toArray,_,rfl,h,λi _=>by simp⟩⟩
section
variable{w0 w:World}{p f:Nat}{M:Lay}{vt:Value}{s:PS}{top:List Nat}{N:Int}{K:Q0}
theorem Jk{t:Tok}(h:PR w0 w p f M vt s top)(hx:Dt t.t)(hl:t.t.length<=1000000)(U:∀l s',pF s t=.ok l s'->∀w',Ext w w'->K (str l) w')(ht:∀c a,pF s t=.err c a->Thr w0 f c a):
  aI P0 63 [.pointer (some ⟨p,0,none⟩),.agg (iT t).toArray] w K:=by
 refine Wj ?_;unfold W63;refine fX (z:=iT t) λb w1 hb o J j=>?_;have h1:=h.ext j;have L1:=h.loc o hb J;unfold pF at U ht;refine cX.cut (λ_ w'=>w'=w1/\(Syn.insP t.t).isSome=false) ?_ ?_
 ·refine L1.ldf rfl ?_;refine wW hl ?_;rw[bP];unfold Fy;cases hi:Syn.insP t.t with
  |none=>
   refine⟨i64 (-1),rfl,?_⟩;rw[bP];refine⟨i64 0,rfl,?_⟩;rw[fP,bA];exact⟨λe=>by omega,λ_=>⟨rfl,rfl⟩⟩
  |some x=>
   refine⟨i64 (x.1:Nat),rfl,?_⟩;rw[bP];refine⟨i64 (x.2:Nat),rfl,?_⟩;rw[fP,bA];refine⟨λ_=>?_,λe=>by omega⟩;refine L1.ldf rfl ?_;exact qN h1 (ht _ _ (by rw[hi];rfl))
 rintro st g w2 ⟨rfl,hi⟩;rw[aJ (by rw[hi];decide)]at U;refine L1.ldf rfl ?_;refine HU ((HQ hx).1 (by cases hr:Syn.insP t.t with|none=>rfl|some x=>rw[hr]at hi;cases hi)) hl λw3 I=>?_;exact U _ _ rfl w3 (j.trans I)
theorem Ir{s:PS}(h:(cur s).k=5):iR (step1 (bE s))=iR s:=by
 have ht:(bE s).toks=s.toks:=by unfold bE;split<;>rfl
 have o:(mR (bE s)).k=5:=h;have J:(bE s).i<(bE s).toks.length:=by
  by_cases hl:(bE s).i<(bE s).toks.length
  ·exact hl
  ·unfold mR at o;rw[List.getD_eq_getElem?_getD,List.getElem?_eq_none (by omega)]at o;cases o
 have hg:(bE s).toks[(bE s).i]?=some (mR (bE s)):=by unfold mR;rw[List.getD_eq_getElem?_getD,List.getElem?_eq_getElem J];rfl
 have e:=tD hg;rw[aO o]at e;have j:s.quiet=false:=by
  by_cases j:s.quiet=true
  ·exfalso;have e2:bE (bE s)=bE s:=jX s;have I:(bE s).quiet=true:=by unfold bE;split<;>exact j
   have e3:(bE (bE s)).i=(bE s).i+kF ((bE s).toks.drop (bE s).i):=by
    rw[bE,aO I]
   rw[e2]at e3;omega
  ·simpa using j
 have n1:∀s:PS,s.quiet=false->bE s=s:=λs h=>by unfold bE;rw[h];rfl
 have U:=n1 s j;rw[U]at e⊢;have h2:=n1 (step1 s) j;unfold iR;rw[U,h2];show({s with i:=s.i+1+kF (s.toks.drop (s.i+1))}:PS)={s with i:=s.i+kF (s.toks.drop s.i)};rw[e];congr 1;omega
theorem Iq{N:Int}{s:PS}(j:WS N s)(h:(cur s).k≠5):iR s=bE s:=by
 have o:=(jE j).ws j;have e:=tD (wG o);have I:(mR (bE s)).k≠5:=h;rw[aJ I,(jE j).toks]at e;unfold iR;rw[e];rfl
theorem xU(h:PR w0 w p f M vt s top)(hs:WS N s)(hN:N<=1000000)(hl:s.toks.length<=100000)(hK:∀w',PR w0 w' p f M vt (iR s) top->Eff p f M M w w'->K (.tuple #[]) w'):
  aI P0 30 [.pointer (some ⟨p,0,none⟩)] w K:=by
 refine WB ?_;unfold W30;refine eJ.go (λst w'=>st=[]/\∃s1,PR w0 w' p f M vt s1 top/\WS N s1/\s1.toks=s.toks/\iR s1=iR s/\Eff p f M M w w') (λ_ w'=>s.toks.length-yU w' p) ⟨rfl,s,h,hs,rfl,rfl,Eff.refl _ _ _ _⟩ ?_;rintro st g w2 ⟨rfl,s1,h2,j,et,el,J⟩;refine oJ h2 j hN (by rw[et];exact hl) λw3 h3 I=>?_;refine⟨i64 (cur s1).k,rfl,?_⟩;dsimp only;rw[bX,bA];have hg:=jE j;have hc:=hg.ws j;refine⟨λU=>?_,λU=>?_⟩
 ·have hh:(cur s1).k≠0:=by rw[U];decide
  have o:=lI j hh;refine h3.go (wsi hc (by rw[hg.toks,et];exact hl)) λw4 h4 hi ht=>?_;refine⟨⟨rfl,_,h4,o.1.ws j,o.1.toks.trans et,(Ir U).trans el,(J.trans I).trans hi⟩,?_⟩;rw[h4.at_,h2.at_];have:=o.2;have h5:=o.1.lt;rw[o.1.toks,et]at h5;omega
 ·rw[Iq j U]at el;rw[el]at h3;exact hK w3 h3 (J.trans I)
theorem pQ{a:Int}{q:Bool}{fv:Value}(h:PR w0 w p f M vt s top)(hd:s.deep<=24)(j:s.deep=24->Thr w0 f 7 a)
  (hf:s.deep≠24->∀w1,PR w0 w1 p f M vt {s with deep:=s.deep+1,quiet:=q} top->Eff p f M M w w1->mY P0 fv [] w1 λ_ w2=>∃M2 s2,PR w0 w2 p f M2 vt s2 top/\s2.deep=s.deep+1/\
    ∀w3,PR w0 w3 p f M2 vt {s2 with deep:=s.deep,quiet:=s.quiet} top->Eff p f M2 M2 w2 w3->K (.tuple #[]) w3):
  aI P0 66 [.pointer (some ⟨p,0,none⟩),i64 a,.bool q,fv] w K:=by
 refine Wg ?_;unfold W66;refine cX.cut (λ_ w'=>w'=w/\s.deep≠24) ?_ ?_
 ·refine h.ld rfl ?_;rw[bX,bA];refine⟨λe=>?_,λe=>⟨rfl,λh=>e (by rw[h];rfl)⟩⟩;exact qN h (j (by omega))
 rintro st g w1 ⟨rfl,o⟩;refine h.ld rfl ?_;refine h.ld rfl ?_;rw[cG,upi (by omega)];refine h.st_deep λw2 h2 hg hq=>?_;refine h2.st_quiet (q:=q) λw3 h3 U ho=>?_;have hc:=hf o w3 h3 (hg.trans U);refine Res.mono ?_ hc;rintro v w4 ⟨M2,s2,h4,e4,hk⟩;refine h4.ld rfl ?_;rw[fU,fE (by omega) (by omega)];have e:((s2.deep:Nat):Int)-1=((s.deep:Nat):Int):=by omega
 rw[e];refine h4.st_deep λw5 h5 J hj=>?_;refine h5.st_quiet (q:=s.quiet) λw6 h6 I hi=>?_;exact hk w6 h6 (J.trans I)
theorem Ih{M0:Lay}{wb:World}{e:Ex}{d:List Value}(h:PR w0 w p f M vt s top)(he:Eff p f M0 M wb w)(hd:ExR w w0.heap.size e d)(hu:∀k∈ub d,Off w0 w p f M vt k)(hn:(ub d).Nodup)(hi:∀k∈ub d,wb.heap.size<=k)(xj:s.ex.length<=1000000)
  (hK:∀M' w',PR w0 w' p f M' vt {s with ex:=s.ex++[e]} top->Eff p f M0 M' wb w'->(∀b T cs,Loc w0 w p f M vt b T cs->b∉ub d->Loc w0 w' p f M' vt b T cs)->K (i64 (s.ex.length:Nat)) w'):
  aI P0 158 [.pointer (some ⟨p,0,none⟩),.agg d.toArray] w K:=by
 refine Sq ?_;unfold YN;have I:d.length=5:=by obtain⟨va,vk,rfl,_⟩:=hd;rfl
 have xd:∀u∈d,jD u=true:=by
  obtain⟨va,vk,rfl,U,j⟩:=hd;obtain⟨_,_,rfl,_⟩:=U.sl.shape;obtain⟨_,_,rfl,_⟩:=j.sl.shape;intro u hu;simp only[aX,bQ,fF]at hu;rcases hu with rfl|rfl|rfl|rfl|rfl<;>rfl
 refine fX (z:=d) λb w1 hb hs xg hh=>?_;have U:=(h.ext hh).drew;have hg:Ext w w1.drew:=hh.trans (cP _);have L1:=(h.loc hs hb xg).drew;have ldF:∀{w':World},w'.heap[p]?=some (.cells [vt,i64 (s.i:Nat),i64 s.off,.pointer (some ⟨f,0,none⟩),i64 (s.deep:Nat),.bool s.quiet].toArray PsT (0,0))->ldW false 1 (.pointer (some ((⟨p,0,none⟩:Addr).add 3))) w' λx=>x=.pointer (some ⟨f,0,none⟩):=by
  intro w' h;rw[dX];exact⟨_,by rw[bG,cA,h,bM];rfl,rfl⟩
 have ldE:∀{w':World} {v:Value} {r:List Value},w'.heap[f]?=some (.cells (v::r).toArray FlT (0,0))->w'.cell? ((⟨f,0,none⟩:Addr).add 0)=some v:=by
  intro w' v r h;rw[bG,cA,h,bM];rfl
 have use:∀k,M.vE.ownBlock=some k->k∈M.uses f:=λk hk=>aE _ (dS (v:=M.vE) (by simp) hk);have nE:¬M.vE.ownBlock=some p:=λe=>h.np (use p e);have nF:¬M.vE.ownBlock=some f:=λe=>by
  have hj:=h.fr.nd;rw[HO,dB]at hj;exact hj.1 (bS _ (jJ.2 e))
 have pf:p≠f:=λe=>h.np (e▸aW);have cF:∀{w':World},w'.heap[p]?=some (.cells [vt,i64 (s.i:Nat),i64 s.off,.pointer (some ⟨f,0,none⟩),i64 (s.deep:Nat),.bool s.quiet].toArray PsT (0,0))->w'.cell? ((⟨p,0,none⟩:Addr).add 3)=some (.pointer (some ⟨f,0,none⟩)):=by
  intro w' h;rw[bG,cA,h,bM];rfl
 rw[cQ,bD,dX];refine⟨_,cF U.ps,?_⟩;rw[cQ,bD,dX];refine⟨_,cF U.ps,?_⟩;rw[cQ,bD,dX];refine⟨_,ldE U.fr.hf,?_⟩;refine fQ L1.1 I ?_;refine Aq I rfl λr w2 hr xl hv hc=>?_;have j:=U.ext hc;refine⟨by rw[dX];exact⟨_,ldE j.fr.hf,rfl⟩,ldF j.ps,ldF j.ps,?_⟩;have o:Ext w w2:=hg.trans hc;have xf:Chg (λk=>M.vE.ownBlock=some k) w w2:=Chg.of_ext o;refine iL XJ j.fr.oE (sB (n:=1) (T:=ExT) (cs:=d) hv) (by rw[I]) xd (by omega) (by omega) j.base λv' w3 ho J ht=>?_;have hx:=J.at j.ps nE;have xb:=J.at j.fr.hf nF;refine⟨ldF hx,?_⟩;rw[cQ,bD,bG,aH];obtain⟨vp,vc,ev,_⟩:=ho.sl.shape;refine jZ xb (by rw[ev];rfl) (by simp) λw4 xk xa xe=>?_;have xi:=o.size;obtain⟨h4,xc,hy⟩:=h.putE (w1:=w3) (w2:=w4) (v':=v') he hd hu hn hi ho (xf.trans J) (λk hk=>(ht k hk).imp id λe=>by omega) xe (by rw[xa];simp);rw[cQ,bD,dX];refine⟨_,cF h4.ps,?_⟩;rw[cQ,bD,dX];refine⟨_,ldE h4.fr.hf,?_⟩;dsimp only;rw[ev,gN,fU,fE (by omega) (by omega)];have e1:((s.ex.length+1:Nat):Int)-1=(s.ex.length:Nat):=by omega
 rw[e1];exact hK _ w4 h4 xc hy
end
end
structure Gd(N:Int)(s:PS)(dl:Nat):Prop where
 ws:WS N s
 hN:N<=1000000
 few:s.toks.length<=4097
 ts:TS s.toks
 phi:phi s<=100000
 lev:s.deep+dl=24
theorem Gd.l{N:Int}{s:PS}{dl:Nat}(h:Gd N s dl):s.toks.length<=100000:=by have:=h.few;omega
theorem Gd.go{N:Int}{s s':PS}{dl:Nat}(h:Gd N s dl)(j:Go1 N s s')(o:Syn.phi s'<=Syn.phi s):Gd N s' dl:=
 ⟨j.ws h.ws,h.hN,by rw[j.toks];exact h.few,by rw[j.toks];exact h.ts,dI o h.phi,by rw[j.deep];exact h.lev⟩
theorem Gd.frame{N:Int}{s:PS}{dl:Nat}(h:Gd N s (dl+1))(q:Bool):Gd N {s with deep:=s.deep+1,quiet:=q} dl:=⟨wD h.ws _ _,h.hN,h.few,h.ts,h.phi,by have:=h.lev;show s.deep+1+dl=24;omega⟩
theorem Gd.back{N:Int}{s s':PS}{dl:Nat}{q:Bool}(h:Gd N s (dl+1))(j:Gd N s' dl):Gd N {s' with deep:=s.deep,quiet:=q} (dl+1):=⟨wD j.ws _ _,h.hN,j.few,j.ts,j.phi,h.lev⟩
theorem Gd.now{N:Int}{s:PS}{dl:Nat}(h:Gd N s dl):Gd N (bE s) dl:=h.go (jE h.ws) (lN s)
theorem Gd.take{N:Int}{s:PS}{dl:Nat}(h:Gd N s dl)(w:Str):Gd N (cD s w).2 dl:=h.go (lH h.ws w).1 (mF s w).1
theorem Gd.lines{N:Int}{s:PS}{dl:Nat}(h:Gd N s dl):Gd N (iR s) dl:=h.go (mG h.ws).1 (tX s)
theorem Gd.next{N:Int}{s:PS}{dl:Nat}(h:Gd N s dl):Gd N (kI s) dl:=h.go (rW h.ws).1 (tW s).1
theorem Gd.step{N:Int}{s:PS}{dl:Nat}(h:Gd N s dl)(j:(cur s).k≠0):Gd N (step1 (bE s)) dl:=h.go (lI h.ws j).1 (by have:=(pS j).2;omega)
theorem Gd.want{N:Int}{s s':PS}{dl:Nat}(h:Gd N s dl){w:Str}(e:oI s w=.ok () s'):Gd N s' dl/\s.i<s'.i/\s'.ex=s.ex/\s'.bl=s.bl:=by
 have o:=lU h.ws w;have j:=mE s w;rw[e]at o j;obtain⟨g,x,b⟩:=o;exact⟨h.go g.1 (by have j:Syn.phi s'+1<=Syn.phi s:=j;omega),g.2,x,b⟩
theorem Gd.kind{N:Int}{s s':PS}{dl:Nat}{t:Tok}{k:Int}(h:Gd N s dl)(j:k≠0)(e:mH s k=.ok t s'):Gd N s' dl/\s.i<s'.i/\s'.ex=s.ex/\s'.bl=s.bl/\t=cur s/\t.k=k:=by
 have I:=mW h.ws k j;have o:=oW s k;rw[e]at I o;obtain⟨g,x,b,J,j⟩:=I;exact⟨h.go g.1 o.1,g.2,x,b,J,j⟩
theorem Gd.ex{N:Int}{s:PS}{dl:Nat}(h:Gd N s dl):s.ex.length<=100000/\s.bl.length<=100000:=by have:=Vh s;have:=h.phi;omega
structure rQ(F:PS->R Nat):Prop where
 ok:∀N,EOk N F
 z:EZ F
theorem Gd.e{N:Int}{s s':PS}{dl x:Nat}{F:PS->R Nat}(h:Gd N s dl)(o:rQ F)(e:F s=.ok x s'):Gd N s' dl/\s.i<s'.i:=by
 have j:=o.ok N s h.ws;have I:=o.z s;rw[e]at j I;exact⟨h.go j.1.1 I,j.1.2⟩
theorem Gd.at0{N:Int}{s:PS}{dl:Nat}(h:Gd N s dl):0<=(cur s).a/\(cur s).a<=1000000:=by have:=lJ h.ws;have:=h.hN;omega
section
variable [HX]
def xI(w0:World)(f:Nat):Prop:=∀(w:World) (K:Q0) (s:Str),Chg (Of f) w0 w->s.length<=1000000->
 (∀l,nI s=.ok l->∀v w',Ext w w'->gD w' TkT v l.length (toks l)->(∀k,v.ownBlock=some k->w.heap.size<=k/\k<w'.heap.size)->K (.tuple #[v,.pointer none]) w')->
 (∀c a,nI s=.bad c a->∀d w',Ext w w'->w.heap.size<=d->w'.heap[d]?=some (.cells [i64 c,str [],i64 a].toArray 48 (0,0))->K (.tuple #[.slice none 0 0,.pointer (some ⟨d,0,none⟩)]) w')->
 aI P0 28 [str s] w K
def EC(w0:World)(f:Nat)(g:FuncId)(F:PS->R Nat)(dl:Nat):Prop:=∀(w:World) (p:Nat) (M:Lay) (vt:Value) (s:PS) (top:List Nat) (N:Int) (K:Q0),PR w0 w p f M vt s top->Gd N s dl->
 (∀x s',F s=.ok x s'->∀M' w',PR w0 w' p f M' vt s' top->Eff p f M M' w w'->K (i64 (x:Nat)) w')->(∀c a,F s=.err c a->Thr w0 f c a)->aI P0 g [.pointer (some ⟨p,0,none⟩)] w K
structure Ro(w0 w:World)(p f:Nat)(M:Lay)(vt:Value)(wb:Nat)(T:TypeId)(m:Nat)(v:Value)(n:Nat)(xs:List Value):Prop where
 own:Own w w0.heap.size T m v n xs
 off:∀k,v.ownBlock=some k->Off w0 w p f M vt k
 new:∀k,v.ownBlock=some k->wb<=k
section
variable{w0 w w' w1:World}{p f b:Nat}{M M':Lay}{vt:Value}{s:PS}{top:List Nat}{N:Int}{K:Q0}{wb:Nat}{T:TypeId}{m:Nat}{v:Value}{n:Nat}{xs:List Value}
theorem Ro.nil(T:TypeId)(m:Nat):Ro w0 w p f M vt wb T m (.slice none 0 0) 0 []:=⟨⟨by simp,.inl ⟨rfl,rfl⟩⟩,λk j=>by simp[Value.ownBlock]at j,λk j=>by simp[Value.ownBlock]at j⟩
theorem Ro.eff(h:Ro w0 w p f M vt wb T m v n xs)(j:Eff p f M M' w w'):Ro w0 w' p f M' vt wb T m v n xs:=⟨j.own h.own h.off,λk o=>(h.off k o).eff j,h.new⟩
theorem Ro.ext(h:Ro w0 w p f M vt wb T m v n xs)(j:Ext w w'):Ro w0 w' p f M vt wb T m v n xs:=h.eff (Eff.ext j)
theorem Ro.one(h:Ro w0 w p f M vt wb T m v n xs)(o:Chg (One b) w w')(hb:v.ownBlock≠some b):Ro w0 w' p f M vt wb T m v n xs:=
 ⟨dP h.own o λk j e=>hb (by have e:k=b:=e;rw[j,e]),λk j=>(h.off k j).up o.size,h.new⟩
theorem Ro.row{u:Value}(h:Ro w0 w p f M vt wb T m v n xs)(o:Chg (λk=>u.ownBlock=some k) w w')(hb:∀k,v.ownBlock=some k->u.ownBlock≠some k):Ro w0 w' p f M vt wb T m v n xs:=
 ⟨dP h.own o λk j e=>hb k j e,λk j=>(h.off k j).up o.size,h.new⟩
theorem Loc.row{u:Value}(h:Loc w0 w p f M vt b T cs)(j:Chg (λk=>u.ownBlock=some k) w w')(hb:u.ownBlock≠some b):Loc w0 w' p f M vt b T cs:=⟨j.at h.1 hb,h.2.up j.size⟩
theorem PR.row{u:Value}(h:PR w0 w p f M vt s top)(o:Chg (λk=>u.ownBlock=some k) w w')(hb:∀k,u.ownBlock=some k->Off w0 w p f M vt k):PR w0 w' p f M vt s top:=
 h.keep o (λk j e=>by have:=(hb k e).1.1;omega) (λk j e=>(hb k e).2.2.1 j) (λe=>(hb p e).2.1 rfl) λk j e=>(hb k e).2.2.2 j
theorem Ro.app{t:TypeId}{bytes:Nat}{r:Nat}{news:List Value}{ty:TypeId}(hT:qB P0 t T m bytes)(o:Ro w0 w p f M vt wb T m v n xs)(J:PR w0 w p f M vt s top)(hr:w.heap[r]?=some (.cells news.toArray T (0,0)))(hl:news.length=m)(h1:∀u∈news,jD u=true)(hn:n<=1000000)(hg:bytes<=1000)(hj:wb<=w.heap.size)
  (hK:∀v' w',Ro w0 w' p f M vt wb T m v' (n+1) (xs++news)->Chg (λk=>v.ownBlock=some k) w w'->(∀k,v'.ownBlock=some k->v.ownBlock=some k\/w.heap.size<=k)->PR w0 w' p f M vt s top->K v' w'):
  fH P0 (Builtin.append_ #[t,t] ty #[v,.slice (some ⟨r,0,none⟩) 1 1]) w K:=by
 have hb:=J.base;have hh:(n+1)*bytes<=140737488355328:=dI (Nat.mul_le_mul (show n+1<=1000001 by omega) hg) (by decide);refine iL hT o.own (sB (n:=1) hr) (by rw[hl];omega) h1 (by omega) hh hb λv' w' hO U I=>?_;refine hK v' w' ⟨hO,λk j=>?_,λk j=>?_⟩ U I (J.row U o.off)
 ·rcases I k j with e|e
  ·exact(o.off k e).up U.size
  ·exact J.off_new e (kA hO j).1
 ·rcases I k j with e|e
  ·exact o.new k e
  ·omega
theorem PR.inner{q:Nat}{q':PS}(h:PR w0 w p f M vt s top)(I:Ext w w1)(hq:PR w0 w' q f M' v q' top)(U:Eff q f M M' w1 w')(J:w.heap.size<=q):
  PR w0 w' p f M' vt {s with ex:=q'.ex,bl:=q'.bl} top/\Eff p f M M' w w':=by
 have j:Eff p f M M' w w':=Eff.anew I U J;have hz:=I.size;have h1:=h.ext I;refine⟨⟨hq.ch,hq.fr,?_,?_,λe=>?_,h.lo,λk o=>⟨λe=>?_,(h.nt k o).2.1,cV (h.nt k o).2.2 j.chg.size⟩⟩,j⟩
 ·exact U.chg.at h1.ps λe=>by
   rcases HR e with e|e
   ·have:=h.lt;omega
   ·exact h.np e
 ·exact qQ h1.tk U.chg λk o e=>by
   rcases HR e with e|e
   ·have:=(h.nt k o).2.2;omega
   ·exact(h.nt k o).1 e
 ·exact(j.us p e).elim h.np λe=>by have:=h.lt;omega
 ·exact(j.us k e).elim (h.nt k o).1 λe=>by have:=(h.nt k o).2.2;omega
theorem QC{E:PS->R Nat}{dl:Nat}{t:Str}{a:Int}(hS:xI w0 f)(hE:EC w0 f 118 E dl)(hF:rQ E)(h:PR w0 w p f M vt s top)(hg:Gd N s dl)(h0:0<=a)(h1:a+t.length<=N)(hh:Syn.phi s+t.length<=100000)
  (J:∀x s',oP E s t a=.ok x s'->∀M' w',PR w0 w' p f M' vt s' top->Eff p f M M' w w'->K (i64 (x:Nat)) w')(I:∀c a',oP E s t a=.err c a'->Thr w0 f c a'):
  aI P0 257 [.pointer (some ⟨p,0,none⟩),str t,i64 a] w K:=by
 refine Rj ?_;unfold XV;have hN:=hg.hN;refine hS w _ t h.ch (by omega) (λl hl v w1 j hv hs=>?_) (λc b hb d w1 j hd ho=>?_)
 ·rw[bP];refine⟨v,rfl,?_⟩;rw[bP];refine⟨.pointer none,rfl,?_⟩;refine cX.cut (λ_ w'=>w'=w1) ?_ ?_
  ·show bB (.bool false) _ _;rw[bW]
  rintro st g w2 rfl;have h2:=(h.ext j).drew;have hr:=j.trans (cP w2);refine h2.ld rfl ?_;refine h2.ld rfl ?_;obtain⟨q,cap,ev,_⟩:=hv.shape;subst ev;simp only[dZ,dF,gM,dC,aB,aK,aL,aN,Nat.reduceAdd,Nat.reduceLT,cZ,aS];refine fX (z:=[.slice q l.length cap,i64 0,i64 a,.pointer (some ⟨f,0,none⟩),i64 (s.deep:Nat),.bool false]) λqb w3 hq xg hx o=>?_;have U:=hr.trans o;have h3:=h2.ext o;have z2:w2.drew.heap.size=w2.heap.size:=rfl;have xh:=j.size;have hy:PR w0 w3 qb f M (.slice q l.length cap) ⟨l,0,a,s.deep,false,s.ex,s.bl⟩ top:=
   ⟨h3.ch,h3.fr,hx,hv.ext ((cP w2).trans o),λe=>by have:=h.fr.lt _ e;omega,by have:=h.base;omega,λk hk=>by
    have hb:=hs k hk;exact⟨λe=>by have:=h.fr.lt _ e;omega,by omega,by omega⟩⟩
  have hc:=BB hl h0 h1;have hw:=ES hl;have hi:Gd N ⟨l,0,a,s.deep,false,s.ex,s.bl⟩ dl:=⟨⟨hc,gY.2 hc.ne,hg.ws.pN⟩,hN,(wO hl).1,ET hl,by
   unfold Syn.phi at hh⊢;simp only[eU];omega,hg.lev⟩
  unfold oP at J I;simp only[hl]at J I;refine hE w3 qb M _ _ top N _ hy hi (λx q1 e1 M' w4 h4 xc=>?_) λc a' e1=>I c a' (by rw[e1];rfl);rw[e1]at J I;simp only[R.bind]at J I;obtain⟨hj,_⟩:=hi.e hF e1;refine wV h4 hj.ws hN hj.l (λt' q2 e2 w5 h5 xb=>?_) λc a' e2=>I c a' (by rw[e2]);rw[e2]at J;obtain⟨h6,xa⟩:=h.inner U h5 (xc.trans xb) (by omega);exact J x _ rfl M' w5 h6 xa
 ·rw[bP];refine⟨.slice none 0 0,rfl,?_⟩;rw[bP];refine⟨.pointer (some ⟨d,0,none⟩),rfl,?_⟩;refine cX.cut (λ_ _=>False) ?_ (λ_ _ _ h=>h.elim);show bB (.bool true) _ _;rw[cU,cQ,bD,dX];refine⟨i64 c,by rw[bG,cA,heap_drew,ho,bM];rfl,?_⟩;rw[cQ,bD,dX];refine⟨i64 b,by rw[bG,cA,heap_drew,ho,bM];rfl,?_⟩;have xi:=BY hb;rw[cG,fE (by omega) (by omega)];refine qN (h.ext j).drew (I _ _ ?_);unfold oP;rw[hb]
end
end
end
end Go.Proofs.YtjblfcfdeaagpaaGreatDoor
