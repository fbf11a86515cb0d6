/- One plain sentence: contracts and plain laws that the claim rests on. Conditions: those that each states. -/
import Derived.Test.YtjblfcfdeaagpaaGreatDoorXA1
import Derived.Recover
import Derived.Shelf.Strings.BuilderK
import Derived.Shelf.Strings.Cut
import Derived.Shelf.Strings.Prefix
import Derived.Shelf.Strings.Search3
import Derived.Shelf.Strings.IndexAnyAll
import Derived.Shelf.Small.Strs
import Derived.Shelf.Strings.OnBuilder
import Derived.Shelf.Strings.Repeat
import Derived.Shelf.Strings.SlTrimAscii
import Derived.Shelf.Strings.IndexAny
import Derived.Shelf.Small.Utf8
import Derived.Shelf.Strings.BuilderX
import Derived.Shelf.Lays
import Derived.Ground.SlgmProg
import Derived.Test.YtjblfcfdeaagpaaGreatDoorProg
import Derived.Lib.ConvBytes
import Derived.Lib.ParseIntBCases
import Derived.Lib.Builder
import Derived.ProofKit
import Derived.WalkKit
import Derived.Lib.AppendStr
import Derived.Lib.RuneBytes
set_option linter.all false
set_option linter.unusedSimpArgs false
set_option linter.unusedVariables false
set_option linter.unusedSectionVars false
set_option maxRecDepth 100000
namespace Go.Eng
section
open Go
variable{w:World}{K:Value->World->Prop}{cs:List Value}{G:Nat->Prop}{T:TypeId}{i:Nat}{n:Nat}{v:Value}{w':World}{P:Program}{c:UInt8}{S:Nat->Prop}
section
variable{P:Program}
def wX(P:Program)(g:FuncId)(caps:List Value)(u:FrameMode)(w:World)(K:World->Prop):Prop:=
 CallsD P g caps.toArray u w λe u' w'=>(∃v,e=.returned v)/\settle u'=.returning/\K w'
def Ih:List Oper->Option (Nat×FuncId×List Operand)
 |[o1,o2]=>
  match o1.guard,o2.guard,o1.dst,o1.op,o2.dst,o2.op with
  |none,none,some t,.makeFunc (.func g) first caps,none,.defer c=>
   match first.toList,c.callee,c.args.toList with
   |[],.value (.tmp t'),[]=>bif Nat.beq t t' then some (t,g,caps.toList)else none
   |_,_,_=>none
  |_,_,_,_,_,_=>none
 |_=>none
def Lm(P:Program)(fn:Func)(R:Ending->World->Prop)(f:Fr)(w:World):Prop:=Cg P fn.results.toList f w λl=>R (.returned (one l)) w
def Ip(P:Program)(pl:fD)(fn:Func)(R:Ending->World->Prop):Nat->Code->Nat->Fr->World->Prop
 |0,.seq (.region _ ops _) b,i,f,w=>
  match Ih ops.toList with
  |some (t,g,caps)=>
   @qM ⟨λch w'=>wX P g (caps.map (ev f)) (.panicking ch) w' λw''=>Lm P fn R f w''⟩ P pl b (i+2) (upd f (some t) (.func (.func g) #[] (caps.map (ev f)).toArray)) w
    (λf' w'=>wX P g (caps.map (ev f)) .returning w' λw''=>Lm P fn R f' w'') (λ_ _ _=>False) (λf' w'=>wX P g (caps.map (ev f)) .returning w' λw''=>Lm P fn R f' w'')
  |none=>False
 |k+1,.seq a b,i,f,w=>@qM ⟨λch w'=>R (.panicked ch) w'⟩ P pl a (i+1) f w (λf' w'=>Ip P pl fn R k b (i+1+tT a) f' w') (λ_ _ _=>False) (λf' w'=>Lm P fn R f' w')
 |_,_,_,_,_=>False
def YA(lo t:Nat):ResultVar->Bool
 |.tmp x=>Nat.blt x lo&&!(Nat.beq x t)
 |.cell x _=>Nat.blt x lo&&!(Nat.beq x t)
def Ir(P:Program)(fn:Func)(pl:fD)(lo gd:Nat):Nat->Code->Nat->Bool
 |0,.seq (.region _ ops draw) b,i=> !draw&&(lk pl.js i).isNone&&
  (match Ih ops.toList with
  |some (t,g,_)=>Nat.blt t fn.ntmps&&Nat.beq g gd&&fn.results.toList.all (YA lo t)&&chk P fn.ntmps pl [] lo b (i+2)
  |none=>false)
 |k+1,.seq a b,i=>(lk pl.js i).isNone&&chk P fn.ntmps pl [] 0 a (i+1)&&Ir P fn pl lo gd k b (i+1+tT a)
 |_,_,_=>false
theorem NL{agg:Bool}{x:Value}{K K':Value->Prop}(hk:∀v,K v->K' v)(h:ldW agg n x w K):ldW agg n x w K':=by
 cases x with
 |pointer a=>
  cases a with
  |none=>exact h
  |some a=>
   cases agg with
   |true=>obtain⟨l,h1,h2⟩:=h;exact⟨l,h1,hk _ h2⟩
   |false=>obtain⟨l,h1,h2⟩:=h;exact⟨l,h1,hk _ h2⟩
 |_=>exact h
theorem Br{f f':Fr}{w:World}:∀{l:List ResultVar} {K:List Value->Prop},(∀t,(∃r∈l,r=.tmp t\/∃T,r=.cell t T)->f t=f' t)->Cg P l f w K->Cg P l f' w K
 |[],_,_,h=>h
 |r::l,K,h,hk=>by
  have hl:∀t,(∃r∈l,r=.tmp t\/∃T,r=.cell t T)->f t=f' t:=λt ⟨r',hr,e⟩=>h t ⟨r',aD _ hr,e⟩
  cases r with
  |tmp t=>simp only[Cg]at hk⊢;rw[<-h t ⟨_,aW,.inl rfl⟩];exact Br hl hk
  |cell t T=>
   simp only[Cg]at hk⊢
   rw[<-h t ⟨_,aW,.inr ⟨T,rfl⟩⟩]
   obtain⟨h1,h2⟩:=nG.out hk
   rw[h1]
   exact NL (λv hv=>Br hl hv) h2
theorem xX{fn:Func}{R:Ending->World->Prop}{g:FuncId}{caps:List Value}{u:FrameMode}{f:Fr}{a:Act}(hr:∀(ar:Array Value) (w:World),(callFunc g ar).run P w=.ok (.enter g ar) w)(hu:u≠.run)
  (ha:∀t,(∃r∈fn.results.toList,r=.tmp t\/∃T,r=.cell t T)->f t=a.tmps.getD t undef)(h:wX P g caps u w λw''=>Lm P fn R f w''):
  Leaves P fn a.tmps R [{target:=.fn (.func g) caps.toArray,args:=#[]}] u w:=by
 refine leaves_cons (f:=g) (args:=caps.toArray) hu ?_ (h.mono ?_)
 ·have:=hr (#[]++caps.toArray) w;rw[show(#[]++caps.toArray:Array Value)=caps.toArray from by simp]at this;show(callFunc g (#[]++caps.toArray)).run P w=_;rw[show(#[]++caps.toArray:Array Value)=caps.toArray from by simp];exact this
 ·rintro e u' w' ⟨⟨v,rfl⟩,hs,hk⟩;show Leaves P fn a.tmps R [] (settle u') w';rw[hs];have hag:Ag a.tmps.size a.defers (λt=>a.tmps.getD t undef) a:=⟨rfl,rfl,λ_=>rfl⟩;letI:=noX;obtain⟨v',hk',hr'⟩:=tR (fn:=fn) (K:=λv=>R (.returned v) w') hag (Br ha hk);exact⟨v',hr',hk'⟩
theorem JC{l:List Oper}{t:Nat}{g:FuncId}{caps:List Operand}(h:Ih l=some (t,g,caps)):∃o1 o2 first cp c,l=[o1,o2]/\o1.guard=none/\o2.guard=none/\o1.dst=some t/\o1.op=.makeFunc (.func g) first cp/\first=#[]/\cp.toList=caps/\o2.dst=none/\o2.op=.defer c/\c.callee=.value (.tmp t)/\c.args=#[]:=by
 unfold Ih at h;split at h
 ·rename_i o1 o2;split at h
  ·rename_i t' g' first cp c e1 e2 e3 e4 e5 e6
   split at h
   ·rename_i t'' h1 h2 h3;cases hb:Nat.beq t' t'' with
    |false=>rw[hb]at h;cases h
    |true=>
     rw[hb]at h;simp only[aO,bA,gS]at h;obtain⟨rfl,rfl,rfl⟩:=h;have:t'=t'':=kT hb;subst this;exact⟨o1,o2,first,cp,c,rfl,e1,e2,e3,e4,by simpa using h1,rfl,e5,e6,h2,by simpa using h3⟩
   ·cases h
  ·cases h
 ·cases h
theorem Io(hm:P.follows .mixedOrders=true){pl:fD}{fn:Func}{R:Ending->World->Prop}{lo gd:Nat}(hr:∀(ar:Array Value) (w:World),(callFunc gd ar).run P w=.ok (.enter gd ar) w):
  ∀(k:Nat) (c:Code) (i:Nat) (f:Fr) (a:Act) (w:World),Ir P fn pl lo gd k c i=true->Ag fn.ntmps [] f a->Ip P pl fn R k c i f w->c.wp P (bodyPostD P fn R) a w:=by
 intro k;induction k with
 |zero=>
  intro c i f a w hc hag h;cases c with
  |seq x b=>
   cases x with
   |region id ops draw=>
    simp only[Ip]at h;simp only[Ir,bU,mJ]at hc;obtain⟨⟨hdr,hl⟩,hc⟩:=hc;cases hd:Ih ops.toList with
    |none=>simp only[hd]at h
    |some x=>
     obtain⟨t,g,caps⟩:=x;simp only[hd,bU]at h hc;obtain⟨⟨⟨ht,hg⟩,hres⟩,hchk⟩:=hc;obtain rfl:g=gd:=kT hg;obtain⟨o1,o2,first,cp,cl,hops,g1,g2,d1,p1,rfl,rfl,d2,p2,hcl,hca⟩:=JC hd;subst hdr;refine wp_seq (wp_region_list ?_);have hops':ops=[o1,o2].toArray:=by rw[<-hops]
     subst hops';have htn:t<fn.ntmps:=by simpa using ht
     have hv:(cp.toList.map (ev f)).toArray=cp.map a.eval:=by
      rw[xW hag];apply Array.ext';simp
     show wpList P [o1,o2].toArray _ [o1,o2] a w;letI:=noX;refine Gq (K:=λv w'=>v=.func (.func g) #[] (cp.toList.map (ev f)).toArray/\w'=w) hag (by simp[mS,g1]) ?_ ?_ (λ_ _ h=>h.elim)
     ·unfold GP;rw[p1];exact⟨rfl,rfl⟩
     ·rintro v w' ⟨rfl,rfl⟩;have hag1:=hag.put (d:=some t) (λx hx=>by cases hx;exact htn) (.func (.func g) #[] (cp.toList.map (ev f)).toArray);rw[d1];unfold wpList;rw[aU (by rw[Ap hag1];simp[mS,g2])];refine .inl ?_;unfold Oper.wp;have hex:(execOp (a.put (some t) (.func (.func g) #[] (cp.toList.map (ev f)).toArray)).eval o2).run P w'=.ok (.defer {target:=.fn (.func g) (cp.toList.map (ev f)).toArray,args:=#[]}) w':=by
       rw[xW hag1];unfold execOp;rw[p2];have e:ev (upd f (some t) (.func (.func g) #[] (cp.toList.map (ev f)).toArray)) (.tmp t)=.func (.func g) #[] (cp.toList.map (ev f)).toArray:=by
        simp[ev,pS]
       simp[resolve,hcl,hca,Deferred.ofValue,run_bind,run_pure,e]
      rw[hex,Oper.upon_defer,d2];clear hex;have hag2:Ag fn.ntmps [{target:=.fn (.func g) (cp.toList.map (ev f)).toArray,args:=#[]}] (upd f (some t) (.func (.func g) #[] (cp.toList.map (ev f)).toArray)) ({(a.put (some t) (.func (.func g) #[] (cp.toList.map (ev f)).toArray))with defers:={target:=.fn (.func g) (cp.toList.map (ev f)).toArray,args:=#[]}::(a.put (some t) (.func (.func g) #[] (cp.toList.map (ev f)).toArray)).defers}.put none undef):=by
       refine⟨?_,hag1.2.1,hag1.2.2⟩;show _::(a.put _ _).defers=_;rw[hag1.1]
      generalize ({(a.put (some t) (.func (.func g) #[] (cp.toList.map (ev f)).toArray))with defers:={target:=.fn (.func g) (cp.toList.map (ev f)).toArray,args:=#[]}::(a.put (some t) (.func (.func g) #[] (cp.toList.map (ev f)).toArray)).defers}.put none undef)=a2 at hag2⊢;show b.wp P (bodyPostD P fn R) a2 w';refine@tZ ⟨λch w'=>wX P g (cp.toList.map (ev f)) (.panicking ch) w' λw''=>Lm P fn R f w''⟩ P fn.ntmps [{target:=.fn (.func g) (cp.toList.map (ev f)).toArray,args:=#[]}] pl hm b [] lo (i+2) _ a2 w' _ _ _ _ hchk hag2 h (λf' a' w' hag' _ hk=>?_) (λ_ _ _ _ _ _ hk=>hk.elim) (λf' a' w' hag' _ hk=>?_) (λch a' w' hd ht hx=>?_)
      ·show Leaves P fn a'.tmps R a'.defers .returning w';rw[hag'.1];exact xX hr (by simp) (λt _=>(hag'.2.2 t).symm) hk
      ·show Leaves P fn a'.tmps R a'.defers .returning w';rw[hag'.1];exact xX hr (by simp) (λt _=>(hag'.2.2 t).symm) hk
      ·show Leaves P fn a'.tmps R a'.defers (.panicking ch) w';rw[hd];refine xX (f:=f) hr (by simp) (λx hx'=>?_) hx;have hin:x<lo/\x≠t:=by
        obtain⟨r,hrm,hr'⟩:=hx';have:=iD.1 hres r hrm;have h2:(Nat.blt x lo&&!(Nat.beq x t))=true:=by
         rcases hr' with rfl|⟨T,rfl⟩
         ·exact this
         ·exact this
        simp only[bU,mJ]at h2;refine⟨by simpa using h2.1,λe=>?_⟩;rw[e]at h2;have h3:=h2.2;rw[Nat.beq_refl]at h3;cases h3
       have hlt:Nat.ble lo x=false:=by
        cases hb:Nat.ble lo x with
        |false=>rfl
        |true=>exact absurd (dD hin.1 (lR hb)) (Nat.lt_irrefl _)
       rw[ht x (by unfold inS;rw[hlt];rfl)];simp[pS,hin.2]
   |_=>simp[Ir]at hc
  |_=>simp[Ir]at hc
 |succ k ih=>
  intro c i f a w hc hag h;cases c with
  |seq x y=>
   simp only[Ip]at h;simp only[Ir,bU]at hc;obtain⟨⟨hl,hc1⟩,hc2⟩:=hc;refine wp_seq ?_;letI:HX:=⟨λch w'=>R (.panicked ch) w'⟩;refine tZ hm x [] 0 (i+1) f a w _ _ _ _ hc1 hag h (λf' a' w' hag' _ h'=>ih y _ f' a' w' hc2 hag' h') (λ_ _ _ _ _ _ hk=>hk.elim) (λf' a' w' hag' _ hk=>?_) (λch a' w' hd _ hx=>?_)
   ·show Leaves P fn a'.tmps R a'.defers .returning w';rw[hag'.1];obtain⟨v',hk',hr'⟩:=tR (fn:=fn) (K:=λv=>R (.returned v) w') hag' hk;exact⟨v',hr',hk'⟩
   ·show Leaves P fn a'.tmps R a'.defers (.panicking ch) w';rw[hd];exact hx
  |_=>simp[Ir]at hc
def NZ(P:Program)(fn:Func)(pl:fD)(k:Nat)(args:List Value)(w:World)(R:Ending->World->Prop):Prop:=
 match fn.body with
 |some c=>Ip P pl fn R k c 0 (fr0 args) w
 |none=>False
def AZ(P:Program)(fn:Func)(pl:fD)(lo gd k na:Nat):Bool:=
 match fn.body with
 |some c=>Nat.ble na fn.ntmps&&Ir P fn pl lo gd k c 0
 |none=>false
theorem Ic{nt:Nat}{args:List Value}(hle:args.length<=nt):Ag nt [] (fr0 args) {tmps:=args.toArray++Array.replicate (nt-args.toArray.size) undef,defers:=[]}:=by
 refine⟨rfl,by simp;omega,λt=>?_⟩;simp only[kW,Array.getElem?_append,aE,bN,Array.getElem?_replicate,fr0,bR];split
 ·rfl
 ·rename_i hlt;rw[eW (by omega)];split<;>rfl
theorem Jy{g:FuncId}{fn:Func}{pl:fD}{args:List Value}{R:Ending->World->Prop}{lo gd k:Nat}(hm:P.follows .mixedOrders=true)(hf:P.funcs[g]?=some fn)(hr:∀(ar:Array Value) (w:World),(callFunc gd ar).run P w=.ok (.enter gd ar) w)
  (hc:AZ P fn pl lo gd k args.length=true)(h:NZ P fn pl k args w R):Calls P g args.toArray w R:=by
 unfold NZ at h;unfold AZ at hc;cases hb:fn.body with
 |none=>rw[hb]at h;exact h.elim
 |some c=>
  rw[hb]at h hc;simp only[bU]at hc;exact calls_of_wp_defers hf hb (Io hm hr k c 0 _ _ w hc.2 (Ic (lR hc.1)) h)
theorem Ys[HX](P:Program)(g:FuncId)(fn:Func)(pl:fD)(args:List Value)(w:World)(K:Value->World->Prop)(lo gd k na:Nat)(X:Prop)(hk:args.length=na)(hm:P.follows .mixedOrders=true)(hf:P.funcs[g]?=some fn)
  (hc:AZ P fn pl lo gd k na=true)(he:NZ P fn pl k args w (Er K)=X)(hr:∀(az:Array Value) (w:World),(callFunc g az).run P w=.ok (.enter g az) w)(hrd:∀(ar:Array Value) (w:World),(callFunc gd ar).run P w=.ok (.enter gd ar) w)(h:X):aJ P g args w K:=by
 unfold aJ;rw[hr];exact Jy hm hf hrd (by rw[hk];exact hc) (by rw[he];exact h)
end
section
variable{P:Program}
def Hq:List Oper->Option (Nat×Nat)
 |[o1,o2]=>
  match o1.guard,o2.guard,o1.dst,o1.op,o2.dst,o2.op with
  |none,none,some t,.call c,some t2,.assign (.tmp t')=>
   match c.callee,c.args.toList with
   |.builtin .recover,[]=>bif Nat.beq t t' then some (t,t2)else none
   |_,_=>none
  |_,_,_,_,_,_=>none
 |_=>none
theorem Ja{l:List Oper}{t t2:Nat}(h:Hq l=some (t,t2)):∃o1 o2 c,l=[o1,o2]/\o1.guard=none/\o2.guard=none/\o1.dst=some t/\o1.op=.call c/\o2.dst=some t2/\o2.op=.assign (.tmp t)/\c.callee=.builtin .recover/\c.args=#[]:=by
 unfold Hq at h;split at h
 ·rename_i o1 o2;split at h
  ·rename_i t0 c t2' t' e1 e2 e3 e4 e5 e6;split at h
   ·rename_i h1 h2;cases hb:Nat.beq t0 t' with
    |false=>rw[hb]at h;cases h
    |true=>
     rw[hb]at h;simp only[aO,bA,gS]at h;obtain⟨rfl,rfl⟩:=h;have:t0=t':=kT hb;subst this;exact⟨o1,o2,c,rfl,e1,e2,e3,e4,e5,e6,h1,by simpa using h2⟩
   ·cases h
  ·cases h
 ·cases h
def RU(P:Program)(fn:Func)(pl:fD)(args:List Value)(x:Value)(w:World)(K:World->Prop):Prop:=
 match fn.body with
 |some (.seq (.region _ ops _) b)=>
  match Hq ops.toList with
  |some (t,t2)=>@qM noX P pl b 2 (upd (upd (fr0 args) (some t) x) (some t2) x) w (λ_ w'=>K w') (λ_ _ _=>False) (λ_ w'=>K w')
  |none=>False
 |_=>False
def CB(P:Program)(fn:Func)(pl:fD)(na:Nat):Bool:=
 match fn.body with
 |some (.seq (.region _ ops draw) b)=> !draw&&Nat.ble na fn.ntmps&&fn.results.toList.isEmpty&&
  (match Hq ops.toList with
  |some (t,t2)=>Nat.blt t fn.ntmps&&Nat.blt t2 fn.ntmps&&chk P fn.ntmps pl [] 0 b 2
  |none=>false)
 |_=>false
inductive Finds:FrameMode->Value->Prop
 |idle:Finds .returning .nilIface
 |thrown (v:Value):Finds (.panicking [{v,recovered:=false}]) v
theorem Dy{g:FuncId}{fn:Func}{pl:fD}{args:List Value}{x:Value}{u:FrameMode}{K:World->Prop}(hm:P.follows .mixedOrders=true)(hf:P.funcs[g]?=some fn)(hc:CB P fn pl args.length=true)
  (hu:Finds u x)(h:RU P fn pl args x w K):wX P g args u w K:=by
 unfold RU at h;unfold CB at hc;split at h
 ·rename_i id ops draw b hb;rw[hb]at hc;simp only[bU,mJ]at hc;obtain⟨⟨⟨hd,hle⟩,hres⟩,hc⟩:=hc;subst hd;cases ho:Hq ops.toList with
  |none=>simp only[ho]at h
  |some y=>
   obtain⟨t,t2⟩:=y;simp only[ho,bU]at h hc;obtain⟨⟨ht,ht2⟩,hchk⟩:=hc;obtain⟨o1,o2,c,hops,g1,g2,d1,p1,d2,p2,hcl,hca⟩:=Ja ho;have hops':ops=#[o1,o2]:=by
    apply Array.ext';rw[hops]
   subst hops';letI:=noX;have hr0:∀tmps w,(results fn tmps).run P w=.ok (.tuple #[]) w:=by
    intro tmps w;have h1:fn.results.toList=[]:=by simpa using hres
    obtain⟨v,hv,hr⟩:=tR (P:=P) (fn:=fn) (n:=tmps.size) (D:=[]) (f:=λt=>tmps.getD t undef) (a:={tmps:=tmps,defers:=[]}) (w:=w) (K:=λv=>v=.tuple #[]) ⟨rfl,rfl,λ_=>rfl⟩ (by rw[h1];rfl);rw[hr,hv]
   have hag:=Ic (nt:=fn.ntmps) (args:=args) (lR hle);have ht:t<fn.ntmps:=by simpa using ht
   have ht2:t2<fn.ntmps:=by simpa using ht2
   refine callsD_of_wpS hf hb λc₀ cs hmode=>?_;generalize ({tmps:=args.toArray++Array.replicate (fn.ntmps-args.toArray.size) undef,defers:=[]}:Act)=a0 at hag⊢;have hag1:=hag.put (d:=some t) (λy hy=>by cases hy;exact ht) x;have hag2:=hag1.put (d:=some t2) (λy hy=>by cases hy;exact ht2) x;have w1:Region.wanted o1 (yielded #[o1,o2] a0.tmps)=true:=by
    have:=Ap (ops:=[o1,o2]) (o:=o1) hag;rw[show([o1,o2]:List Oper).toArray=#[o1,o2]from rfl]at this;rw[this];simp[mS,g1]
   have w2:Region.wanted o2 (yielded #[o1,o2] (a0.put (some t) x).tmps)=true:=by
    have:=Ap (ops:=[o1,o2]) (o:=o2) hag1;rw[show([o1,o2]:List Oper).toArray=#[o1,o2]from rfl]at this;rw[this];simp[mS,g2]
   have e1:(execOp a0.eval o1).run P w=.ok .recover w:=by
    unfold execOp;rw[p1];simp[resolve,hcl,hca,invoke,builtin,run_bind,run_pure]
   have e2:(execOp (a0.put (some t) x).eval o2).run P w=.ok (.value x) w:=by
    rw[xW hag1];unfold execOp;rw[p2];have e:ev (upd (fr0 args) (some t) x) (.tmp t)=x:=by simp[ev,pS]
    simp[run_pure,e]
   have rest:∀u':FrameMode,settle u'=.returning->b.wpS P (bodyPostS P fn c₀ cs λe u' w'=>(∃v,e=.returned v)/\settle u'=.returning/\K w') ((a0.put (some t) x).put (some t2) x) ({c₀ with mode:=u'}::cs) w:=by
    intro u' hs;refine wpS_of_wp ?_;refine@tZ noX P fn.ntmps [] pl hm b [] 0 2 _ _ w _ _ _ _ hchk hag2 h (λf' a' w' hag' _ hk=>?_) (λ_ _ _ _ _ _ hk=>hk.elim) (λf' a' w' hag' _ hk=>?_) (λch a' w' hd ht hx=>hx.elim)
    ·exact⟨hag'.1,u',rfl,_,hr0 _ _,⟨_,rfl⟩,hs,hk⟩
    ·exact⟨hag'.1,u',rfl,_,hr0 _ _,⟨_,rfl⟩,hs,hk⟩
   refine wpS_seq (wpS_region ?_);show wpOpsS P #[o1,o2] _ [0,1] a0 (c₀::cs) w;have tail:∀c1:Frame,b.wpS P (bodyPostS P fn c₀ cs λe u' w'=>(∃v,e=.returned v)/\settle u'=.returning/\K w') ((a0.put (some t) x).put (some t2) x) (c1::cs) w->
     wpOpsS P #[o1,o2] (Exit.thenS (b.wpS P (bodyPostS P fn c₀ cs λe u' w'=>(∃v,e=.returned v)/\settle u'=.returning/\K w')) (bodyPostS P fn c₀ cs λe u' w'=>(∃v,e=.returned v)/\settle u'=.returning/\K w')) [1] (a0.put (some t) x) (c1::cs) w:=by
    intro c1 hb1;unfold wpOpsS;rw[show(#[o1,o2]:Array Oper)[1]?=some o2 from rfl];show ite (Region.wanted o2 (yielded #[o1,o2] (a0.put (some t) x).tmps)=true) _ _;rw[aU w2,e2];simp only[Oper.upon_value,d2];exact hb1
   unfold wpOpsS;rw[show(#[o1,o2]:Array Oper)[0]?=some o1 from rfl];show ite (Region.wanted o1 (yielded #[o1,o2] a0.tmps)=true) _ _;rw[aU w1,e1];cases hu with
   |idle=>
    have:recoverD (c₀::cs)=none:=by simp[recoverD,hmode]
    simp only[this,d1];have e:({c₀ with mode:=.returning}:Frame)=c₀:=by rw[<-hmode]
    have:=rest .returning rfl;rw[e]at this;exact tail c₀ this
   |thrown=>
    have:recoverD (c₀::cs)=some (x,{c₀ with mode:=.panicking [{v:=x,recovered:=true}]}::cs):=by simp[recoverD,hmode]
    simp only[this,d1];exact tail _ (rest (.panicking [{v:=x,recovered:=true}]) rfl)
 ·exact h.elim
end
end
end Go.Eng
namespace Go.Proofs.YtjblfcfdeaagpaaGreatDoor
section
open Go Go.Eng
variable{w:World}{K:Value->World->Prop}{cs:List Value}{G:Nat->Prop}{T:TypeId}{i:Nat}{n:Nat}{v:Value}{w':World}{P:Program}{c:UInt8}{S:Nat->Prop}{v0 v1 v2 v3 v4 v5:Value}
abbrev _root_.Q0:=Value->World->Prop
noncomputable abbrev _root_.P0:=Tryz.prog
abbrev _root_.sN:Value:=.slice none 0 0
abbrev _root_.zL0:List Value:=[(i64 0),(str []),(i64 0)]
abbrev _root_.zL1:List Value:=[(i64 0),(str []),sN,sN,(i64 0)]
abbrev _root_.zL2:List Value:=[sN,(i64 0),(i64 0),(.bool false)]
abbrev _root_.zL3:List Value:=[(str []),(i64 0),(i64 0)]
abbrev _root_.zL4:List Value:=[(str []),sN,sN,sN,(i64 0)]
abbrev _root_.zL5:List Value:=[(str []),(str []),sN,(i64 0),(i64 0),(.bool false),(.bool false),sN,(i64 0)]
abbrev _root_.zL6:List Value:=[(str []),(i64 0),sN,(i64 0)]
variable [HX]
def Wj:fD:={js:=[(60,⟨[9],[9],12⟩),(62004,⟨[73],[],71⟩),(54,⟨[9,11],[9],11⟩),(44005,⟨[51],[],48⟩),(36,⟨[6,7],[],1⟩),(25006,⟨[30],[],26⟩),(14,⟨[],[2,3,4,5],19⟩)],ds:=[]}
def W28(v0:Value)(w:World)(K:Q0):=kA v0 λt13=>aS .gtr t13 (i64 16384) λt14=>bB t14 (jS [(i64 0),(str []),(i64 0)] [(0,1,(i64 3))] λc1=>jF 48 (.agg c1.toArray) w λt16 w2=>K (.tuple #[sN,t16]) w2) (fY P0 (Instr.range 9 v0) w λt18 w3=>dL [] w3 λs4 _ w5 L4=>fY P0 (Instr.next t18 true 0) w5 λt19 w6=>jQ 0 t19 λt20=>bB t20 (jQ 1 t19 λt21=>jQ 2 t19 λt22=>aS .eql t22 (.int .i32 65533) λt24=>GdW (isB t24 true) [undef] w6 (λJ7=>pF v0 (some t21) none λt28=>aJ P0 59 [t28,(str [239,191,189])] w6 λt29 w8=>unW .not t29 λt30=>J7 [t30] w8) λs7 _ w9=>cZ t24 (s7.getD 0 undef) (.bool false) λt31=>bB t31 (jS [(i64 0),(str []),(i64 0)] [(0,1,(i64 31)),(2,1,t21)] λc10=>jF 48 (.agg c10.toArray) w9 λt34 w11=>K (.tuple #[sN,t34]) w11) (L4 [] w9)) (dL [sN,(i64 0)] w6 λs12 _ w13 L12=>pF v0 (some (s12.getD 1 undef)) none λt38=>aJ P0 60 [t38] w13 λt39 w14=>jQ 0 t39 λt40=>jQ 1 t39 λt41=>aS .add (s12.getD 1 undef) t40 λt44=>aS .eql t41 (i64 0) λt46=>GdW (isB t46 true) [undef] w14 (λJ15=>kA v0 λt50=>aS .eql t44 t50 λt51=>J15 [t51] w14) λs15 _ w16=>cZ t46 (s15.getD 0 undef) (.bool false) λt52=>bB t52 (jS [(i64 0),(str []),(i64 0)] [(2,1,t44)] λc17=>gO 95 1 [(i64 0),(str []),(i64 0)] [(0,3,(.agg c17.toArray))] w16 λt56 w18=>fY P0 (Builtin.append_ #[86,86] 86 #[(s12.getD 0 undef),t56]) w18 λt57 w19=>K (.tuple #[t57,(.pointer none)]) w19) (dA 95 zL0 w16 λt10 w20=>dE (λJ21=>aS .eql t41 (i64 0) λt59=>bB t59 (pF v0 (some t44) none λt63=>aJ P0 61 [t63] w20 λt64 w22=>jQ 0 t64 λt65=>jQ 1 t64 λt66=>jQ 2 t64 λt67=>stW 3 t10 t65 w22 λw23=>J21 [t67,t66] w23) (J21 [t41,(i64 0)] w20)) λs21 _ w24=>dE (λJ25=>aS .eql (s21.getD 0 undef) (i64 0) λt69=>GdW (isB t69 true) [undef] w24 (λJ26=>fI (s12.getD 0 undef) λt72=>aS .eql t72 (i64 4096) λt73=>J26 [t73] w24) λs26 _ w27=>cZ t69 (s26.getD 0 undef) (.bool false) λt74=>bB t74 (J25 [(i64 3)] w27) (J25 [(s21.getD 0 undef)] w27)) λs25 _ w28=>aS .neq (s25.getD 0 undef) (i64 0) λt76=>bB t76 (jS [(i64 0),(str []),(i64 0)] [(0,1,(s25.getD 0 undef)),(2,1,t44)] λc29=>jF 48 (.agg c29.toArray) w28 λt80 w30=>K (.tuple #[sN,t80]) w30) (aR 2 t10 λt82=>stW 1 t82 t44 w28 λw31=>ldW true 3 t10 w31 λt84=>gO 95 1 [(i64 0),(str []),(i64 0)] [(0,3,t84)] w31 λt85 w32=>fY P0 (Builtin.append_ #[86,86] 86 #[(s12.getD 0 undef),t85]) w32 λt86 w33=>aS .add t44 (s21.getD 1 undef) λt89=>L12 [t86,t89] w33))))
theorem XT{K:Q0}(h:W28 v0 w K):aJ P0 28 [v0] w K:=
 tie _ 28 Tryz.f28 Wj _ w K 1 _ rfl mixed Tryz.func28 (by kernel_rfl) (by kernel_rfl) Tryz.call28 h
def VR:fD:={js:=[(21,⟨[23],[],6⟩),(6,⟨[4],[],1⟩)],ds:=[]}
def W60(v0:Value)(w:World)(K:Q0):=dL [(i64 0)] w λs1 _ w2 L1=>kA v0 λt9=>aS .lss (s1.getD 0 undef) t9 λt10=>bB t10 (pF v0 (some (s1.getD 0 undef)) none λt13=>nU v0 (s1.getD 0 undef) λt18=>aJ P0 104 [(str [32,9,13]),t18] w2 λt19 w3=>aS .geq t19 (i64 0) λt20=>bB t20 (aS .add (s1.getD 0 undef) (i64 1) λt22=>L1 [t22] w3) (dE (λJ4=>nU v0 (s1.getD 0 undef) λt26=>aS .eql t26 (.int .u8 35) λt27=>bB t27 (J4 [t27] w3) (aJ P0 59 [t13,(str [47,47])] w3 λt29 w5=>J4 [t29] w5)) λs4 _ w6=>bB (s4.getD 0 undef) (aJ P0 105 [t13,(.func (.func 106) #[] #[])] w6 λt32 w7=>aS .add (s1.getD 0 undef) t32 λt33=>L1 [t33] w7) (aJ P0 59 [t13,(str [47,42])] w6 λt36 w8=>bB t36 (pF t13 (some (i64 2)) none λt38=>aJ P0 107 [t38,(str [42,47])] w8 λt39 w9=>aS .lss t39 (i64 0) λt41=>bB t41 (K (.tuple #[(s1.getD 0 undef),(i64 40)]) w9) (aS .add t39 (i64 4) λt45=>aS .add (s1.getD 0 undef) t45 λt46=>L1 [t46] w9)) (K (.tuple #[(s1.getD 0 undef),(i64 0)]) w8)))) (K (.tuple #[(s1.getD 0 undef),(i64 0)]) w2)
theorem XA{K:Q0}(h:W60 v0 w K):aJ P0 60 [v0] w K:=
 tie _ 60 Tryz.f60 VR _ w K 1 _ rfl mixed Tryz.func60 (by kernel_rfl) (by kernel_rfl) Tryz.call60 h
def VQ:fD:={js:=[(8,⟨[6,7],[3,4],6⟩),(38,⟨[43],[],8⟩),(43004,⟨[58],[],57⟩),(40006,⟨[52],[],49⟩)],ds:=[]}
def W61(v0:Value)(w:World)(K:Q0):=dA 95 zL0 w λt2 w1=>dA 95 zL0 w1 λt5 w2=>dE (λJ3=>nU v0 (i64 0) λt10=>aS .eql t10 (.int .u8 10) λt21=>bB t21 (jS [(i64 0),(str []),(i64 0)] [(0,1,(i64 5)),(1,1,(str [10]))] λc4=>stW 3 t2 (.agg c4.toArray) w2 λw5=>ldW true 3 t2 w5 λr6=>K (.tuple #[r6,(i64 1),(i64 0)]) w5) (aJ P0 108 [t10] w2 λt25 w7=>bB t25 (aJ P0 105 [v0,(.func (.func 109) #[] #[])] w7 λt27 w8=>pF v0 none (some t27) λt30=>jS [(i64 0),(str []),(i64 0)] [(0,1,(i64 1)),(1,1,t30)] λc9=>stW 3 t5 (.agg c9.toArray) w8 λw10=>aS .gtr t27 (i64 32) λt33=>bB t33 (J3 [(i64 3),t27] w10) (J3 [(i64 0),t27] w10)) (aJ P0 110 [t10] w7 λt36 w11=>bB t36 (aJ P0 105 [v0,(.func (.func 110) #[] #[])] w11 λt38 w12=>pF v0 none (some t38) λt41=>jS [(i64 0),(str []),(i64 0)] [(0,1,(i64 2)),(1,1,t41)] λc13=>stW 3 t5 (.agg c13.toArray) w12 λw14=>dE (λJ15=>kA v0 λt46=>aS .lss t38 t46 λt47=>GdW (isB t47 true) [undef] w14 (λJ16=>nU v0 t38 λt51=>aJ P0 108 [t51] w14 λt52 w17=>J16 [t52] w17) λs16 _ w18=>cZ t47 (s16.getD 0 undef) (.bool false) λt53=>bB t53 (J15 [t53] w18) (aS .eql t10 (.int .u8 48) λt55=>GdW (isB t55 true) [undef] w18 (λJ19=>aS .gtr t38 (i64 1) λt58=>J19 [t58] w18) λs19 _ w20=>cZ t55 (s19.getD 0 undef) (.bool false) λt59=>J15 [t59] w20)) λs15 _ w21=>bB (s15.getD 0 undef) (J3 [(i64 40),t38] w21) (aR 1 t5 λt61=>ldW false 1 t61 w21 λt62=>aJ P0 111 [t62] w21 λt63 w22=>unW .not t63 λt64=>bB t64 (J3 [(i64 3),t38] w22) (J3 [(i64 0),t38] w22))) (aS .eql t10 (.int .u8 34) λt67=>bB t67 (aJ P0 112 [v0,(i64 0)] w11 λt70 w23=>jQ 0 t70 λt71=>jQ 1 t70 λt72=>aS .eql t72 (i64 0) λt74=>bB t74 (aS .sub t71 (i64 1) λt77=>pF v0 (some (i64 1)) (some t77) λt78=>jS [(i64 0),(str []),(i64 0)] [(0,1,(i64 3)),(1,1,t78)] λc24=>stW 3 t5 (.agg c24.toArray) w23 λw25=>J3 [t72,t71] w25) (J3 [t72,t71] w23)) (aJ P0 59 [v0,(str [60,60])] w11 λt82 w26=>bB t82 (aR 0 t5 λt83=>stW 1 t83 (i64 3) w26 λw27=>aJ P0 113 [v0] w27 λt86 w28=>jQ 0 t86 λt87=>jQ 1 t86 λt88=>jQ 2 t86 λt89=>aR 1 t5 λt90=>stW 1 t90 t87 w28 λw29=>J3 [t89,t88] w29) (aJ P0 114 [v0] w26 λt12 w30=>jS [(i64 0),(str []),(i64 0)] [(0,1,(i64 4)),(1,1,t12)] λc31=>stW 3 t5 (.agg c31.toArray) w30 λw32=>aR 1 t5 λt14=>ldW false 1 t14 w32 λt15=>kA t15 λt16=>aS .eql t16 (i64 0) λt18=>bB t18 (J3 [(i64 40),t16] w32) (J3 [(i64 0),t16] w32))))))) λs3 _ w33=>ldW true 3 t5 w33 λt91=>stW 3 t2 t91 w33 λw34=>ldW true 3 t2 w34 λr35=>K (.tuple #[r35,(s3.getD 1 undef),(s3.getD 0 undef)]) w34
theorem Xz{K:Q0}(h:W61 v0 w K):aJ P0 61 [v0] w K:=
 tie _ 61 Tryz.f61 VQ _ w K 1 _ rfl mixed Tryz.func61 (by kernel_rfl) (by kernel_rfl) Tryz.call61 h
def QZ:fD:={js:=[(6,⟨[8],[4,5],8⟩)],ds:=[]}
def aAH(v0 v1:Value)(w:World)(K:Q0):=kA v0 λt7=>dL [(i64 0)] w λs1 _ w2 L1=>aS .lss (s1.getD 0 undef) t7 λt9=>bB t9 (nU v0 (s1.getD 0 undef) λt14=>nV P0 v1 [t14] w2 λt15 w3=>unW .not t15 λt16=>bB t16 (K (s1.getD 0 undef) w3) (aS .add (s1.getD 0 undef) (i64 1) λt18=>L1 [t18] w3)) (kA v0 λt20=>K t20 w2)
theorem Uv{K:Q0}(h:aAH v0 v1 w K):aJ P0 105 [v0,v1] w K:=
 tie _ 105 Tryz.f105 QZ _ w K 2 _ rfl mixed Tryz.func105 (by kernel_rfl) (by kernel_rfl) Tryz.call105 h
def QY:fD:={js:=[],ds:=[]}
def aAG(v0:Value)(w:World)(K:Q0):=aS .neq v0 (.int .u8 10) λt4=>K t4 w
theorem Uu{K:Q0}(h:aAG v0 w K):aJ P0 106 [v0] w K:=
 tie _ 106 Tryz.f106 QY _ w K 1 _ rfl mixed Tryz.func106 (by kernel_rfl) (by kernel_rfl) Tryz.call106 h
def QX:fD:={js:=[(3004,⟨[19],[],18⟩),(3007,⟨[15],[],10⟩),(3009,⟨[14],[],13⟩),(3012,⟨[12],[],10⟩),(3016,⟨[7],[],6⟩)],ds:=[]}
def aAF(v0:Value)(w:World)(K:Q0):=aS .geq v0 (.int .u8 97) λt4=>GdW (isB t4 true) [undef] w (λJ1=>aS .leq v0 (.int .u8 122) λt7=>J1 [t7] w) λs1 _ w2=>cZ t4 (s1.getD 0 undef) (.bool false) λt8=>GdW (isB t8 false) [undef] w2 (λJ3=>aS .geq v0 (.int .u8 65) λt11=>J3 [t11] w2) λs3 _ w4=>GdW (isB (s3.getD 0 undef) true) [undef] w4 (λJ5=>aS .leq v0 (.int .u8 90) λt14=>J5 [t14] w4) λs5 _ w6=>GdW (isB t8 false) [undef] w6 (λJ7=>cZ (s3.getD 0 undef) (s5.getD 0 undef) (.bool false) λt15=>J7 [t15] w6) λs7 _ w8=>cZ t8 (.bool true) (s7.getD 0 undef) λt16=>GdW (isB t16 false) [undef] w8 (λJ9=>aS .eql v0 (.int .u8 95) λt19=>J9 [t19] w8) λs9 _ w10=>cZ t16 (.bool true) (s9.getD 0 undef) λt20=>K t20 w10
theorem Ut{K:Q0}(h:aAF v0 w K):aJ P0 108 [v0] w K:=
 tie _ 108 Tryz.f108 QX _ w K 1 _ rfl mixed Tryz.func108 (by kernel_rfl) (by kernel_rfl) Tryz.call108 h
def QW:fD:={js:=[(3004,⟨[11],[],10⟩),(3008,⟨[7],[],6⟩)],ds:=[]}
def aAE(v0:Value)(w:World)(K:Q0):=aJ P0 108 [v0] w λt4 w1=>GdW (isB t4 false) [undef] w1 (λJ2=>aJ P0 110 [v0] w1 λt7 w3=>J2 [t7] w3) λs2 _ w4=>cZ t4 (.bool true) (s2.getD 0 undef) λt8=>GdW (isB t8 false) [undef] w4 (λJ5=>aS .eql v0 (.int .u8 45) λt11=>J5 [t11] w4) λs5 _ w6=>cZ t8 (.bool true) (s5.getD 0 undef) λt12=>K t12 w6
theorem Us{K:Q0}(h:aAE v0 w K):aJ P0 109 [v0] w K:=
 tie _ 109 Tryz.f109 QW _ w K 1 _ rfl mixed Tryz.func109 (by kernel_rfl) (by kernel_rfl) Tryz.call109 h
def QV:fD:={js:=[(3004,⟨[7],[],6⟩)],ds:=[]}
def aAD(v0:Value)(w:World)(K:Q0):=aS .geq v0 (.int .u8 48) λt4=>GdW (isB t4 true) [undef] w (λJ1=>aS .leq v0 (.int .u8 57) λt7=>J1 [t7] w) λs1 _ w2=>cZ t4 (s1.getD 0 undef) (.bool false) λt8=>K t8 w2
theorem Ur{K:Q0}(h:aAD v0 w K):aJ P0 110 [v0] w K:=
 tie _ 110 Tryz.f110 QV _ w K 1 _ rfl mixed Tryz.func110 (by kernel_rfl) (by kernel_rfl) Tryz.call110 h
def QT:fD:={js:=[(32007,⟨[43],[],38⟩),(6,⟨[6],[],2⟩)],ds:=[]}
def aAB(v0 v1:Value)(w:World)(K:Q0):=dL [(i64 1)] w λs1 _ w2 L1=>kA v0 λt11=>aS .lss (s1.getD 0 undef) t11 λt12=>bB t12 (nU v0 (s1.getD 0 undef) λt18=>aS .eql t18 (.int .u8 34) λt19=>bB t19 (aS .add (s1.getD 0 undef) (i64 1) λt21=>K (.tuple #[t21,(i64 0)]) w2) (nU v0 (s1.getD 0 undef) λt25=>aS .eql t25 (.int .u8 10) λt26=>bB t26 (K (.tuple #[(i64 0),(i64 40)]) w2) (nU v0 (s1.getD 0 undef) λt30=>aS .eql t30 (.int .u8 92) λt31=>bB t31 (aS .add (s1.getD 0 undef) (i64 1) λt33=>kA v0 λt35=>aS .geq t33 t35 λt36=>GdW (isB t36 false) [undef] w2 (λJ3=>aS .add (s1.getD 0 undef) (i64 1) λt40=>nU v0 t40 λt41=>aJ P0 104 [(str [34,92,110,116,114,36]),t41] w2 λt42 w4=>aS .lss t42 (i64 0) λt43=>J3 [t43] w4) λs3 _ w5=>cZ t36 (.bool true) (s3.getD 0 undef) λt44=>bB t44 (K (.tuple #[(i64 0),(i64 40)]) w5) (aS .add (s1.getD 0 undef) (i64 2) λt46=>L1 [t46] w5)) (pF v0 (some (s1.getD 0 undef)) none λt50=>aJ P0 59 [t50,(str [36,123])] w2 λt51 w6=>bB t51 (aS .add (s1.getD 0 undef) (i64 1) λt55=>pF v0 (some t55) none λt56=>aS .add v1 (i64 1) λt58=>aJ P0 149 [t56,t58] w6 λt59 w7=>jQ 0 t59 λt60=>jQ 1 t59 λt61=>aS .neq t61 (i64 0) λt63=>bB t63 (K (.tuple #[(i64 0),t61]) w7) (aS .add t60 (i64 1) λt67=>aS .add (s1.getD 0 undef) t67 λt68=>L1 [t68] w7)) (aS .add (s1.getD 0 undef) (i64 1) λt14=>L1 [t14] w6))))) (K (.tuple #[(i64 0),(i64 40)]) w2)
theorem Up{K:Q0}(h:aAB v0 v1 w K):aJ P0 112 [v0,v1] w K:=
 tie _ 112 Tryz.f112 QT _ w K 2 _ rfl mixed Tryz.func112 (by kernel_rfl) (by kernel_rfl) Tryz.call112 h
def QS:fD:={js:=[(61,⟨[13],[13],68⟩),(65,⟨[72],[],72⟩),(51,⟨[],[13],68⟩),(27,⟨[7],[2,3,4,7],9⟩),(16005,⟨[43],[],40⟩),(16011,⟨[37],[],34⟩),(4,⟨[5],[],1⟩),(6004,⟨[20],[],18⟩)],ds:=[]}
def aAA(v0:Value)(w:World)(K:Q0):=dE (λJ1=>kA v0 λt15=>aS .gtr t15 (i64 2) λt16=>GdW (isB t16 true) [undef] w (λJ2=>nU v0 (i64 2) λt19=>aJ P0 108 [t19] w λt20 w3=>J2 [t20] w3) λs2 _ w4=>cZ t16 (s2.getD 0 undef) (.bool false) λt21=>bB t21 (pF v0 (some (i64 2)) none λt23=>aJ P0 105 [t23,(.func (.func 150) #[] #[])] w4 λt24 w5=>J1 [t24] w5) (J1 [(i64 0)] w4)) λs1 _ w6=>aS .add (i64 2) (s1.getD 0 undef) λt27=>pF v0 (some (i64 2)) (some t27) λt28=>aS .add (i64 2) (s1.getD 0 undef) λt30=>aS .eql (s1.getD 0 undef) (i64 0) λt32=>GdW (isB t32 false) [undef] w6 (λJ7=>kA v0 λt36=>aS .geq t30 t36 λt37=>J7 [t37] w6) λs7 _ w8=>cZ t32 (.bool true) (s7.getD 0 undef) λt38=>GdW (isB t38 false) [undef] w8 (λJ9=>nU v0 t30 λt42=>aS .neq t42 (.int .u8 10) λt43=>J9 [t43] w8) λs9 _ w10=>cZ t38 (.bool true) (s9.getD 0 undef) λt44=>bB t44 (K (.tuple #[(str []),(i64 0),(i64 40)]) w10) (aS .add t30 (i64 1) λt46=>dA 114 [(.pointer none),sN] w10 λt8 w11=>dL [t46] w11 λs12 _ w13 L12=>pF v0 (some (s12.getD 0 undef)) none λt50=>aJ P0 151 [t50,(str [10])] w13 λt51 w14=>jQ 0 t51 λt52=>jQ 1 t51 λt53=>jQ 2 t51 λt54=>aJ P0 152 [t52,(str [32,9])] w14 λt56 w15=>aS .eql t56 t28 λt58=>bB t58 (aJ P0 44 [t8] w15 λt59 w16=>kA t52 λt62=>aS .add (s12.getD 0 undef) t62 λt63=>K (.tuple #[t59,t63,(i64 0)]) w16) (unW .not t54 λt65=>bB t65 (K (.tuple #[(str []),(i64 0),(i64 40)]) w15) (fY P0 (Instr.range 9 t52) w15 λt67 w17=>dL [] w17 λs18 _ w19 L18=>fY P0 (Instr.next t67 true 0) w19 λt68 w20=>jQ 0 t68 λt69=>bB t69 (jQ 2 t68 λt70=>dE (λJ21=>dE (λJ22=>aS .eql t70 (.int .i32 92) λt73=>bB t73 (J22 [t73] w20) (aS .eql t70 (.int .i32 34) λt74=>bB t74 (J22 [t74] w20) (aS .eql t70 (.int .i32 36) λt75=>J22 [t75] w20))) λs22 _ w23=>bB (s22.getD 0 undef) (aJ P0 126 [t8,(.int .u8 92)] w23 λt76 w24=>J21 [t70] w24) (aS .eql t70 (.int .i32 9) λt78=>bB t78 (aJ P0 126 [t8,(.int .u8 92)] w23 λt79 w25=>J21 [(.int .i32 116)] w25) (aS .eql t70 (.int .i32 13) λt81=>bB t81 (aJ P0 126 [t8,(.int .u8 92)] w23 λt82 w26=>J21 [(.int .i32 114)] w26) (J21 [t70] w23)))) λs21 _ w27=>aJ P0 127 [t8,(s21.getD 0 undef)] w27 λt84 w28=>L18 [] w28) (aJ P0 88 [t8,(str [92,110])] w20 λt85 w29=>kA t52 λt88=>aS .add t88 (i64 1) λt89=>aS .add (s12.getD 0 undef) t89 λt90=>L12 [t90] w29))))
theorem Uo{K:Q0}(h:aAA v0 w K):aJ P0 113 [v0] w K:=
 tie _ 113 Tryz.f113 QS _ w K 1 _ rfl mixed Tryz.func113 (by kernel_rfl) (by kernel_rfl) Tryz.call113 h
def QR:fD:={js:=[(2,⟨[],[],1⟩),(9,⟨[8],[],1⟩)],ds:=[]}
def aAz(v0:Value)(w:World)(K:Q0):=dE (λJ1=>kA v0 λt4=>aS .gtr t4 (i64 1) λt5=>bB t5 (pF v0 none (some (i64 2)) λt7=>dE (λJ2=>aS .eql t7 (str [61,61]) λt9=>bB t9 (J2 [t9] w) (aS .eql t7 (str [33,61]) λt10=>bB t10 (J2 [t10] w) (aS .eql t7 (str [60,61]) λt11=>bB t11 (J2 [t11] w) (aS .eql t7 (str [62,61]) λt12=>bB t12 (J2 [t12] w) (aS .eql t7 (str [38,38]) λt13=>bB t13 (J2 [t13] w) (aS .eql t7 (str [124,124]) λt14=>J2 [t14] w)))))) λs2 _ w3=>bB (s2.getD 0 undef) (pF v0 none (some (i64 2)) λt16=>K t16 w3) (J1 [] w3)) (J1 [] w)) λs1 _ w4=>nU v0 (i64 0) λt18=>aJ P0 104 [(str [123,125,91,93,40,41,61,43,45,42,47,37,60,62,33,63,58,44,46]),t18] w4 λt19 w5=>aS .geq t19 (i64 0) λt20=>bB t20 (pF v0 none (some (i64 1)) λt22=>K t22 w5) (K (str []) w5)
theorem Un{K:Q0}(h:aAz v0 w K):aJ P0 114 [v0] w K:=
 tie _ 114 Tryz.f114 QR _ w K 1 _ rfl mixed Tryz.func114 (by kernel_rfl) (by kernel_rfl) Tryz.call114 h
def Qv:fD:={js:=[(24,⟨[7,8],[4,5],7⟩),(14,⟨[6],[],2⟩)],ds:=[]}
def aAd(v0 v1:Value)(w:World)(K:Q0):=aS .gtr v1 (i64 24) λt10=>bB t10 (K (.tuple #[(i64 0),(i64 7)]) w) (dL [(i64 1)] w λs1 _ w2 L1=>kA v0 λt13=>aS .lss (s1.getD 0 undef) t13 λt14=>bB t14 (dE (λJ3=>nU v0 (s1.getD 0 undef) λt17=>aS .eql t17 (.int .u8 125) λt19=>bB t19 (aS .add (s1.getD 0 undef) (i64 1) λt21=>K (.tuple #[t21,(i64 0)]) w2) (aS .eql t17 (.int .u8 10) λt23=>bB t23 (K (.tuple #[(i64 0),(i64 40)]) w2) (aS .eql t17 (.int .u8 123) λt25=>bB t25 (pF v0 (some (s1.getD 0 undef)) none λt29=>aS .add v1 (i64 1) λt31=>aJ P0 149 [t29,t31] w2 λt32 w4=>jQ 0 t32 λt33=>jQ 1 t32 λt34=>J3 [t33,t34] w4) (aS .eql t17 (.int .u8 34) λt36=>bB t36 (pF v0 (some (s1.getD 0 undef)) none λt40=>aJ P0 112 [t40,v1] w2 λt42 w5=>jQ 0 t42 λt43=>jQ 1 t42 λt44=>J3 [t43,t44] w5) (J3 [(i64 1),(i64 0)] w2))))) λs3 _ w6=>aS .neq (s3.getD 1 undef) (i64 0) λt46=>bB t46 (K (.tuple #[(i64 0),(s3.getD 1 undef)]) w6) (aS .add (s1.getD 0 undef) (s3.getD 0 undef) λt50=>L1 [t50] w6)) (K (.tuple #[(i64 0),(i64 40)]) w2))
theorem TN{K:Q0}(h:aAd v0 v1 w K):aJ P0 149 [v0,v1] w K:=
 tie _ 149 Tryz.f149 Qv _ w K 2 _ rfl mixed Tryz.func149 (by kernel_rfl) (by kernel_rfl) Tryz.call149 h
def Qu:fD:={js:=[(3004,⟨[11],[],10⟩),(3008,⟨[7],[],6⟩)],ds:=[]}
def aAc(v0:Value)(w:World)(K:Q0):=aJ P0 108 [v0] w λt4 w1=>GdW (isB t4 false) [undef] w1 (λJ2=>aJ P0 110 [v0] w1 λt7 w3=>J2 [t7] w3) λs2 _ w4=>cZ t4 (.bool true) (s2.getD 0 undef) λt8=>GdW (isB t8 false) [undef] w4 (λJ5=>aS .eql v0 (.int .u8 45) λt11=>J5 [t11] w4) λs5 _ w6=>cZ t8 (.bool true) (s5.getD 0 undef) λt12=>K t12 w6
theorem TM{K:Q0}(h:aAc v0 w K):aJ P0 150 [v0] w K:=
 tie _ 150 Tryz.f150 Qu _ w K 1 _ rfl mixed Tryz.func150 (by kernel_rfl) (by kernel_rfl) Tryz.call150 h
end
section
open Go Go.Eng
variable{w:World}{K:Q0}{cs:List Value}{G:Nat->Prop}{T:TypeId}{i:Nat}{n:Nat}{v:Value}{w':World}{P:Program}{c:UInt8}{S:Nat->Prop}{v0 v1 v2 v3 v4 v5:Value}
variable [HX]
def Jd:fD:={js:=[(30,⟨[],[],6⟩),(34003,⟨[40],[],39⟩),(20,⟨[],[],6⟩)],ds:=[(29,⟨[0,1,2,6],[[],[0],[],[2],[2,3],[0,1,2,3,4],[0,1,2,3,4,5],[0,1,2,3,4,5,6]]⟩),(9,⟨[0,1],[[],[],[0],[0,1,2]]⟩)]}
def W12(v0:Value)(w:World)(K:Q0):=
 dA 28 [sN,sN,sN] w λt2 w1=>
 dA 29 [(.pointer none)] w1 λt3 w2=>
 aJ P0 28 [v0] w2 λt9 w3=>
 jQ 0 t9 λt10=>
 jQ 1 t9 λt11=>
 stW 1 t3 t11 w3 λw4=>
 ldW false 1 t3 w4 λt12=>
 eqW .ptr true t12 (.pointer none) λt13=>
 bB t13 (
 jS [sN,sN,sN] [] λc5=>
 ldW false 1 t3 w4.drew λt15=>
 stW 3 t2 (.agg c5.toArray) w4.drew λw6=>
 (ldW false 1 t3 w6 λx=>x=t15)/\
 stW 1 t3 t15 w6 λw7=>
 ldW true 3 t2 w7 λr8=>
 ldW false 1 t3 w7 λr9=>
 K (.tuple #[r8,r9]) w7) (
 letI:HX:=⟨λch x10=>wX P0 29 [t2,t3] (.panicking ch) x10 λw10=>
 ldW true 3 t2 w10 λr11=>
 ldW false 1 t3 w10 λr12=>
 K (.tuple #[r11,r12]) w10⟩
 jS [sN,(i64 0),(i64 0),(.pointer none),(i64 0),(.bool false)] [(0,1,t10),(3,1,t2)] λc13=>
 jF 92 (.agg c13.toArray) w4 λt19 w14=>
 aJ P0 30 [t19] w14 λt21 w15=>
 dL [] w15 λs16 _ w17 L16=>
 aJ P0 31 [t19] w17 λt23 w18=>
 nS false 0 1 t23 λt24=>
 aS .neq t24 (i64 0) λt25=>
 bB t25 (
 aR 2 t2 λt26=>
 ldW false 1 t26 w18.drew λt27=>
 aJ P0 32 [t19] w18.drew λt29 w19=>
 (ldW false 1 t26 w19 λx=>x=t27)/\
 gO 3 1 [(i64 0)] [(0,1,t29)] w19 λt30 w20=>
 (ldW false 1 t26 w20 λx=>x=t27)/\
 fY P0 (Builtin.append_ #[26,26] 26 #[t27,t30]) w20 λt31 w21=>
 aR 2 t2 λt32=>
 stW 1 t32 t31 w21 λw22=>
 dE (λJ23=>
 aJ P0 31 [t19] w22 λt34 w24=>
 nS false 0 1 t34 λt35=>
 aS .neq t35 (i64 5) λt37=>
 GdW (isB t37 true) [undef] w24 (λJ25=>
 aS .neq t35 (i64 0) λt40=>
 J25 [t40] w24)
 λs25 _ w26=>
 cZ t37 (s25.getD 0 undef) (.bool false) λt41=>
 bB t41 (
 aJ P0 31 [t19] w26 λt43 w27=>
 nS false 2 1 t43 λt44=>
 aJ P0 33 [(i64 50),t44] w27 λt45 w28=>
 J23 [] w28) (
 J23 [] w26))
 λs23 _ w29=>
 aJ P0 30 [t19] w29 λt47 w30=>
 L16 [] w30) (
 ldW true 3 t2 w18 λt48=>
 stW 3 t2 t48 w18 λw31=>
 stW 1 t3 (.pointer none) w31 λw32=>
 wX P0 29 [t2,t3] .returning w32 λw33=>
 ldW true 3 t2 w33 λr34=>
 ldW false 1 t3 w33 λr35=>
 K (.tuple #[r34,r35]) w33))
theorem Yf(v0:Value)(w:World)(K:Q0):NZ P0 Tryz.f12 Jd 3 [v0] w (Er K)=W12 v0 w K:=by kernel_rfl
theorem Ug:AZ P0 Tryz.f12 Jd 4 29 3 1=true:=by kernel_rfl
theorem Ye{K:Q0}(h:W12 v0 w K):aJ P0 12 [v0] w K:=
 Ys P0 12 Tryz.f12 Jd [v0] w K 4 29 3 1 (W12 v0 w K) rfl mixed Tryz.func12 Ug (Yf v0 w K) Tryz.call12 Tryz.call29 h
def Nh:fD:={js:=[],ds:=[(5,⟨[0,1,2],[[],[],[1],[0],[0,1,2,3]]⟩)]}
def R29(v0 v1:Value)(x:Value)(w:World)(K:World->Prop):Prop:=
 letI:HX:=noX
 eqQ P0 .neq 20 false true x .nilIface w λt5=>
 bB t5 (
 jS [sN,sN,sN] [] λc1=>
 pV P0 (Instr.typeAssert x 20 29 false) w.drew λt8=>
 stW 3 v0 (.agg c1.toArray) w.drew λw2=>
 (pV P0 (Instr.typeAssert x 20 29 false) w2 λx=>x=t8)/\
 stW 1 v1 t8 w2 λw3=>
 K w3) (
 K w)
theorem Yh(v0 v1:Value)(x:Value)(w:World)(K:World->Prop):RU P0 Tryz.f29 Nh [v0,v1] x w K=R29 v0 v1 x w K:=by kernel_rfl
theorem Uz:CB P0 Tryz.f29 Nh 2=true:=by kernel_rfl
theorem OH{v0 v1:Value}{x:Value}{u:FrameMode}{K:World->Prop}(hu:Finds u x)(h:R29 v0 v1 x w K):wX P0 29 [v0,v1] u w K:=
 Dy (args:=[v0,v1]) mixed Tryz.func29 Uz hu (by rw[Yh];exact h)
def Wi:fD:={js:=[(1,⟨[],[],1⟩)],ds:=[]}
def W30(v0:Value)(w:World)(K:Q0):=dL [] w λs1 _ w2 L1=>aJ P0 31 [v0] w2 λt3 w3=>nS false 0 1 t3 λt4=>aS .eql t4 (i64 5) λt5=>bB t5 (eC v0 λt7=>aR 1 t7 λt8=>ldW false 1 t8 w3 λt9=>aS .add t9 (i64 1) λt10=>eC v0 λt11=>aR 1 t11 λt12=>stW 1 t12 t10 w3 λw4=>L1 [] w4) (K (.tuple #[]) w3)
theorem XS{K:Q0}(h:W30 v0 w K):aJ P0 30 [v0] w K:=
 tie _ 30 Tryz.f30 Wi _ w K 1 _ rfl mixed Tryz.func30 (by kernel_rfl) (by kernel_rfl) Tryz.call30 h
def Wh:fD:={js:=[(4,⟨[],[],3⟩)],ds:=[(16,⟨[0,1,2,3,4,5,6,7],[[],[0],[],[2],[2,3],[2,3,4],[0,1,2,3,4,5],[0,1,2,3,4,5,6],[0,1,2,3,4,5,6,7]]⟩),(14,⟨[0,1,2,3,4,5,6,7,8,9],[[],[0],[0,1],[0,1,2],[],[4],[4,5],[4,5,6],[0,1,2,3,4,5,6,7],[0,1,2,3,4,5,6,7,8],[],[0,1,2,3,4,5,6,7,8,9,10]]⟩),(7,⟨[0,1,2,3,4,5,6,7,8,9,10,11,12,13,14,15,16,17],[[],[0],[0,1],[0,1,2],[0,1,2,3],[0,1,2,3,4],[0,1,2,3,4,5],[0,1,2,3,4,5,6],[0,1,2,3,4,5,6,7],[0,1,2,3,4],[0,1,2,3,4,9],[0,1,2,3,4,9,10],[0,1,2,3,4,9,10,11],[0,1,2,3,4,5,6,7,8,9,10,11,12],[0,1,2,3,4,5,6,7,8,9,10,11,12,13],[0,1,2,3,4,5,6,7,8,9,10,11,12,13,14],[0,1,2,3,4,5,6,7,8,9,10,11,12,13,14,15],[0,1,2,3,4,5,6,7,8,9,10,11,12,13,14,15,16]]⟩)]}
def W31(v0:Value)(w:World)(K:Q0):=dA 95 zL0 w λt2 w1=>dL [] w1 λs2 _ w3 L2=>eC v0 λt5=>aR 5 t5 λt6=>ldW false 1 t6 w3.drew λt7=>GqW (isB t7 true) (λk4=>k4 v0) λt9=>GqW (isB t7 true) (λk5=>eC t9 k5) λt10=>GqW (isB t7 true) (λk6=>aR 0 t10 k6) λt11=>GqW (isB t7 true) (λk7=>ldW false 1 t11 w3.drew k7) λt12=>GqW (isB t7 true) (λk8=>k8 v0) λt13=>GqW (isB t7 true) (λk9=>eC t13 k9) λt14=>GqW (isB t7 true) (λk10=>aR 1 t14 k10) λt15=>GqW (isB t7 true) (λk11=>ldW false 1 t15 w3.drew k11) λt16=>GqW (isB t7 true) (λk12=>fK none 3 t12 t16 k12) λt17=>GqW (isB t7 true) (λk13=>aR 0 t17 k13) λt18=>GqW (isB t7 true) (λk14=>ldW false 1 t18 w3.drew k14) λt19=>GqW (isB t7 true) (λk15=>aS .eql t19 (i64 5) k15) λt20=>cZ t7 t20 (.bool false) λt21=>bB t21 (eC v0 λt23=>aR 1 t23 λt24=>ldW false 1 t24 w3.drew λt25=>aS .add t25 (i64 1) λt26=>eC v0 λt27=>aR 1 t27 λt28=>stW 1 t28 t26 w3.drew λw16=>L2 [] w16) (eC v0 λt30=>aR 0 t30 λt31=>ldW false 1 t31 w3.drew.drew λt32=>eC v0 λt34=>aR 1 t34 λt35=>ldW false 1 t35 w3.drew.drew λt36=>fK none 3 t32 t36 λt37=>ldW true 3 t37 w3.drew.drew λt38=>dA 95 zL0 w3.drew.drew λt3 w17=>(ldW true 3 t37 w17 λx=>x=t38)/\(ldW false 1 t35 w17 λx=>x=t36)/\(ldW false 1 t31 w17 λx=>x=t32)/\stW 3 t3 t38 w17 λw18=>aR 2 t3 λt39=>ldW false 1 t39 w18.drew λt40=>eC v0 λt42=>aR 2 t42 λt43=>ldW false 1 t43 w18.drew λt44=>aS .add t40 t44 λt45=>aR 2 t3 λt46=>stW 1 t46 t45 w18.drew λw19=>ldW true 3 t3 w19 λt47=>stW 3 t2 t47 w19 λw20=>ldW true 3 t2 w20 λr21=>K r21 w20)
theorem XR{K:Q0}(h:W31 v0 w K):aJ P0 31 [v0] w K:=
 tie _ 31 Tryz.f31 Wh _ w K 1 _ rfl mixed Tryz.func31 (by kernel_rfl) (by kernel_rfl) Tryz.call31 h
def Wg:fD:={js:=[(19,⟨[],[],6⟩),(8,⟨[],[],5⟩)],ds:=[(28,⟨[0,1,2,3,4,5,6,7,8,9,10,11,14,15],[[],[0],[0,1],[0,1,2],[],[4],[4,5],[4,5,6],[4,5,6,7],[4,5,6,7,8],[4,5,6,7,8,9],[],[11],[4,5,6,7,8,9,10,11,12],[0,1,2,3,4,5,6,7,8,9,10,11,12,13],[0,1,2,3,4,5,6,7,8,9,10,11,12,13,14],[0,1,2,3,4,5,6,7,8,9,10,11,12,13,14,15]]⟩),(16,⟨[0,1,2,3,8],[[],[0],[],[],[3],[2,3,4],[2,3,4,5],[0,1,2,3,4,5,6],[0,1,2,3,4,5,6,7],[0,1,2,3,4,5,6,7,8]]⟩)]}
def W32(v0:Value)(w:World)(K:Q0):=jF 89 v0 w λt1 w1=>ldW false 1 t1 w1 λt6=>aJ P0 62 [t6,(i64 1)] w1 λt7 w2=>dA 95 zL0 w2 λt3 w3=>stW 3 t3 t7 w3 λw4=>aR 1 t3 λt8=>ldW false 1 t8 w4 λt9=>aR 2 t3 λt10=>ldW false 1 t10 w4 λt11=>jS [(str []),sN,sN,sN,(i64 0)] [(0,1,t9),(4,1,t11)] λc5=>dA 38 zL4 w4 λt4 w6=>stW 5 t4 (.agg c5.toArray) w6 λw7=>dL [] w7 λs8 _ w9 L8=>ldW false 1 t1 w9 λt13=>aJ P0 31 [t13] w9 λt14 w10=>nS false 0 1 t14 λt15=>aS .eql t15 (i64 3) λt16=>bB t16 (aR 1 t4 λt17=>ldW false 1 t17 w10.drew λt18=>ldW false 1 t1 w10.drew λt19=>ldW false 1 t1 w10.drew λt20=>aJ P0 64 [t20] w10.drew λt21 w11=>(ldW false 1 t1 w11 λx=>x=t19)/\(ldW false 1 t17 w11 λx=>x=t18)/\aJ P0 63 [t19,t21] w11 λt22 w12=>(ldW false 1 t17 w12 λx=>x=t18)/\gO 9 1 [(str [])] [(0,1,t22)] w12 λt23 w13=>(ldW false 1 t17 w13 λx=>x=t18)/\fY P0 (Builtin.append_ #[33,33] 33 #[t18,t23]) w13 λt24 w14=>aR 1 t4 λt25=>stW 1 t25 t24 w14 λw15=>L8 [] w15) (ldW false 1 t1 w10 λt26=>aJ P0 31 [t26] w10 λt27 w16=>dA 95 zL0 w16 λt5 w17=>stW 3 t5 t27 w17 λw18=>dE (λJ19=>ldW false 1 t1 w18 λt28=>gO 9 1 [(str [])] [(0,1,(str [123]))] w18 λt29 w20=>aJ P0 65 [t28,t29] w20 λt30 w21=>unW .not t30 λt31=>bB t31 (aR 2 t5 λt32=>ldW false 1 t32 w21 λt33=>aJ P0 33 [(i64 50),t33] w21 λt34 w22=>J19 [] w22) (J19 [] w21)) λs19 _ w23=>ldW false 1 t1 w23 λt35=>aR 2 t5 λt36=>ldW false 1 t36 w23 λt37=>aJ P0 66 [t35,t37,(.bool false),(.func (.func 67) #[] #[t1,t4])] w23 λt39 w24=>ldW false 1 t1 w24.drew λt40=>eC t40 λt41=>aR 3 t41 λt42=>ldW false 1 t42 w24.drew λt43=>ldW false 1 t1 w24.drew λt44=>eC t44 λt45=>aR 3 t45 λt46=>ldW false 1 t46 w24.drew λt47=>eC t47 λt48=>aR 1 t48 λt49=>ldW false 1 t49 w24.drew λt50=>ldW true 5 t4 w24.drew λt51=>gO 38 1 [(str []),sN,sN,sN,(i64 0)] [(0,5,t51)] w24.drew λt52 w25=>(ldW false 1 t49 w25 λx=>x=t50)/\(ldW false 1 t46 w25 λx=>x=t47)/\(ldW false 1 t1 w25 λx=>x=t44)/\(ldW false 1 t42 w25 λx=>x=t43)/\(ldW false 1 t1 w25 λx=>x=t40)/\fY P0 (Builtin.append_ #[25,25] 25 #[t50,t52]) w25 λt53 w26=>(ldW false 1 t42 w26 λx=>x=t43)/\(ldW false 1 t1 w26 λx=>x=t40)/\eC t43 λt54=>aR 1 t54 λt55=>stW 1 t55 t53 w26 λw27=>ldW false 1 t1 w27 λt56=>eC t56 λt57=>aR 3 t57 λt58=>ldW false 1 t58 w27 λt59=>eC t59 λt60=>aR 1 t60 λt61=>ldW false 1 t61 w27 λt62=>fI t62 λt63=>aS .sub t63 (i64 1) λt64=>K t64 w27)
theorem XQ{K:Q0}(h:W32 v0 w K):aJ P0 32 [v0] w K:=
 tie _ 32 Tryz.f32 Wg _ w K 1 _ rfl mixed Tryz.func32 (by kernel_rfl) (by kernel_rfl) Tryz.call32 h
def We:fD:={js:=[],ds:=[]}
def W33(v0 v1:Value)(w:World)(K:Q0):=jS [(i64 0),(str []),(i64 0)] [(0,1,v0),(2,1,v1)] λc1=>jF 48 (.agg c1.toArray) w λt7 w2=>Lu (.iface 29 t7) w2
theorem XP{K:Q0}(h:W33 v0 v1 w K):aJ P0 33 [v0,v1] w K:=
 tie _ 33 Tryz.f33 We _ w K 2 _ rfl mixed Tryz.func33 (by kernel_rfl) (by kernel_rfl) Tryz.call33 h
def VP:fD:={js:=[(2,⟨[],[],5⟩)],ds:=[]}
def W62(v0 v1:Value)(w:World)(K:Q0):=dA 95 zL0 w λt4 w1=>dE (λJ2=>aJ P0 31 [v0] w1 λt6 w3=>nS false 0 1 t6 λt7=>aS .neq t7 v1 λt9=>bB t9 (aJ P0 31 [v0] w3 λt11 w4=>nS false 2 1 t11 λt12=>aJ P0 33 [(i64 50),t12] w4 λt13 w5=>J2 [] w5) (J2 [] w3)) λs2 _ w6=>aJ P0 64 [v0] w6 λt15 w7=>stW 3 t4 t15 w7 λw8=>ldW true 3 t4 w8 λr9=>K r9 w8
theorem Xy{K:Q0}(h:W62 v0 v1 w K):aJ P0 62 [v0,v1] w K:=
 tie _ 62 Tryz.f62 VP _ w K 2 _ rfl mixed Tryz.func62 (by kernel_rfl) (by kernel_rfl) Tryz.call62 h
def VO:fD:={js:=[(2,⟨[],[],4⟩)],ds:=[]}
def W63(v0 v1:Value)(w:World)(K:Q0):=jF 95 v1 w λt3 w1=>dE (λJ2=>aR 1 t3 λt8=>ldW false 1 t8 w1 λt9=>aJ P0 115 [t9] w1 λt10 w3=>jQ 0 t10 λt11=>jQ 1 t10 λt12=>aS .geq t11 (i64 0) λt14=>bB t14 (aR 2 t3 λt15=>ldW false 1 t15 w3 λt16=>aJ P0 33 [(i64 50),t16] w3 λt17 w4=>J2 [] w4) (J2 [] w3)) λs2 _ w5=>aR 1 t3 λt18=>ldW false 1 t18 w5 λt19=>aJ P0 116 [t19] w5 λt20 w6=>K t20 w6
theorem Xx{K:Q0}(h:W63 v0 v1 w K):aJ P0 63 [v0,v1] w K:=
 tie _ 63 Tryz.f63 VO _ w K 2 _ rfl mixed Tryz.func63 (by kernel_rfl) (by kernel_rfl) Tryz.call63 h
def VN:fD:={js:=[(4,⟨[],[],4⟩)],ds:=[]}
def W64(v0:Value)(w:World)(K:Q0):=dA 95 zL0 w λt2 w1=>aJ P0 31 [v0] w1 λt5 w2=>dA 95 zL0 w2 λt3 w3=>stW 3 t3 t5 w3 λw4=>dE (λJ5=>aR 0 t3 λt6=>ldW false 1 t6 w4 λt7=>aS .neq t7 (i64 0) λt8=>bB t8 (eC v0 λt10=>aR 1 t10 λt11=>ldW false 1 t11 w4 λt12=>aS .add t12 (i64 1) λt13=>eC v0 λt14=>aR 1 t14 λt15=>stW 1 t15 t13 w4 λw6=>J5 [] w6) (J5 [] w4)) λs5 _ w7=>ldW true 3 t3 w7 λt16=>stW 3 t2 t16 w7 λw8=>ldW true 3 t2 w8 λr9=>K r9 w8
theorem Xw{K:Q0}(h:W64 v0 w K):aJ P0 64 [v0] w K:=
 tie _ 64 Tryz.f64 VN _ w K 1 _ rfl mixed Tryz.func64 (by kernel_rfl) (by kernel_rfl) Tryz.call64 h
def VM:fD:={js:=[(5006,⟨[15],[],12⟩)],ds:=[]}
def W65(v0 v1:Value)(w:World)(K:Q0):=aJ P0 31 [v0] w λt7 w1=>dA 95 zL0 w1 λt5 w2=>stW 3 t5 t7 w2 λw3=>aR 0 t5 λt8=>ldW false 1 t8 w3 λt9=>aS .eql t9 (i64 4) λt10=>GdW (isB t10 true) [undef] w3 (λJ4=>aR 1 t5 λt13=>ldW false 1 t13 w3 λt14=>aJ P0 117 [v1,t14] w3 λt15 w5=>J4 [t15] w5) λs4 _ w6=>cZ t10 (s4.getD 0 undef) (.bool false) λt16=>K t16 w6
theorem Xv{K:Q0}(h:W65 v0 v1 w K):aJ P0 65 [v0,v1] w K:=
 tie _ 65 Tryz.f65 VM _ w K 2 _ rfl mixed Tryz.func65 (by kernel_rfl) (by kernel_rfl) Tryz.call65 h
def VL:fD:={js:=[(0,⟨[],[],4⟩)],ds:=[]}
def W66(v0 v1 v2 v3:Value)(w:World)(K:Q0):=dE (λJ1=>eC v0 λt10=>aR 4 t10 λt11=>ldW false 1 t11 w λt12=>aS .eql t12 (i64 24) λt13=>bB t13 (aJ P0 33 [(i64 7),v1] w λt15 w2=>J1 [] w2) (J1 [] w)) λs1 _ w3=>eC v0 λt17=>aR 5 t17 λt18=>ldW false 1 t18 w3 λt19=>eC v0 λt21=>aR 4 t21 λt22=>ldW false 1 t22 w3 λt23=>aS .add t23 (i64 1) λt24=>eC v0 λt25=>aR 4 t25 λt26=>stW 1 t26 t24 w3 λw4=>eC v0 λt29=>aR 5 t29 λt30=>stW 1 t30 v2 w4 λw5=>nV P0 v3 [] w5 λt32 w6=>eC v0 λt34=>aR 4 t34 λt35=>ldW false 1 t35 w6 λt36=>aS .sub t36 (i64 1) λt37=>eC v0 λt38=>aR 4 t38 λt39=>stW 1 t39 t37 w6 λw7=>eC v0 λt42=>aR 5 t42 λt43=>stW 1 t43 t19 w7 λw8=>K (.tuple #[]) w8
theorem Xu{K:Q0}(h:W66 v0 v1 v2 v3 w K):aJ P0 66 [v0,v1,v2,v3] w K:=
 tie _ 66 Tryz.f66 VL _ w K 4 _ rfl mixed Tryz.func66 (by kernel_rfl) (by kernel_rfl) Tryz.call66 h
def VK:fD:={js:=[(15,⟨[],[],2⟩),(17005,⟨[24],[],21⟩),(5,⟨[],[],2⟩)],ds:=[]}
def W67(v0 v1:Value)(w:World)(K:Q0):=ldW false 1 v0 w λt2=>eC t2 λt3=>aR 1 t3 λt4=>ldW false 1 t4 w λt5=>aS .add t5 (i64 1) λt6=>eC t2 λt7=>aR 1 t7 λt8=>stW 1 t8 t6 w λw1=>ldW false 1 v0 w1 λt9=>aJ P0 30 [t9] w1 λt10 w2=>dL [] w2 λs3 _ w4 L3=>ldW false 1 v0 w4 λt11=>aJ P0 68 [t11,(str [125])] w4 λt12 w5=>unW .not t12 λt13=>bB t13 (ldW false 1 v0 w5 λt14=>aJ P0 69 [t14,v1] w5 λt15 w6=>dE (λJ7=>ldW false 1 v0 w6 λt16=>aJ P0 31 [t16] w6 λt17 w8=>nS false 0 1 t17 λt18=>aS .neq t18 (i64 5) λt19=>GdW (isB t19 true) [undef] w8 (λJ9=>ldW false 1 v0 w8 λt21=>gO 9 1 [(str [])] [(0,1,(str [125]))] w8 λt22 w10=>aJ P0 65 [t21,t22] w10 λt23 w11=>unW .not t23 λt24=>J9 [t24] w11) λs9 _ w12=>cZ t19 (s9.getD 0 undef) (.bool false) λt25=>bB t25 (ldW false 1 v0 w12 λt26=>aJ P0 31 [t26] w12 λt27 w13=>nS false 2 1 t27 λt28=>aJ P0 33 [(i64 50),t28] w13 λt29 w14=>J7 [] w14) (J7 [] w12)) λs7 _ w15=>ldW false 1 v0 w15 λt30=>aJ P0 30 [t30] w15 λt31 w16=>L3 [] w16) (K (.tuple #[]) w5)
theorem Xt{K:Q0}(h:W67 v0 v1 w K):aJ P0 67 [v0,v1] w K:=
 tie _ 67 Tryz.f67 VK _ w K 2 _ rfl mixed Tryz.func67 (by kernel_rfl) (by kernel_rfl) Tryz.call67 h
def VJ:fD:={js:=[],ds:=[]}
def W68(v0 v1:Value)(w:World)(K:Q0):=gO 9 1 [(str [])] [(0,1,v1)] w λt7 w1=>aJ P0 65 [v0,t7] w1 λt8 w2=>unW .not t8 λt9=>bB t9 (K (.bool false) w2) (eC v0 λt11=>aR 1 t11 λt12=>ldW false 1 t12 w2 λt13=>aS .add t13 (i64 1) λt14=>eC v0 λt15=>aR 1 t15 λt16=>stW 1 t16 t14 w2 λw3=>K (.bool true) w3)
theorem Xs{K:Q0}(h:W68 v0 v1 w K):aJ P0 68 [v0,v1] w K:=
 tie _ 68 Tryz.f68 VJ _ w K 2 _ rfl mixed Tryz.func68 (by kernel_rfl) (by kernel_rfl) Tryz.call68 h
def VI:fD:={js:=[],ds:=[(12,⟨[0,1,2,3,4,5,9,10],[[],[],[1],[1,2],[1,2,3],[],[5],[5,6],[1,2,3,4,5,6,7],[0,1,2,3,4,5,6,7,8],[0,1,2,3,4,5,6,7,8,9],[0,1,2,3,4,5,6,7,8,9,10]]⟩),(7,⟨[0,1,2,3,4,5,6,7,9,10,11,14,15],[[],[],[1],[1,2],[1,2,3],[],[5],[],[7],[],[9],[5,6,7,8,9,10],[5,6,7,8,9,10,11],[1,2,3,4,5,6,7,8,9,10,11,12],[0,1,2,3,4,5,6,7,8,9,10,11,12,13],[0,1,2,3,4,5,6,7,8,9,10,11,12,13,14],[0,1,2,3,4,5,6,7,8,9,10,11,12,13,14,15]]⟩)]}
def W69(v0 v1:Value)(w:World)(K:Q0):=aJ P0 62 [v0,(i64 1)] w λt6 w1=>dA 95 zL0 w1 λt4 w2=>stW 3 t4 t6 w2 λw3=>aJ P0 68 [v0,(str [61])] w3 λt8 w4=>bB t8 (eC v1 λt11=>aR 2 t11 λt12=>ldW false 1 t12 w4.drew λt13=>aR 1 t4 λt14=>ldW false 1 t14 w4.drew λt15=>aR 2 t4 λt18=>ldW false 1 t18 w4.drew λt19=>aJ P0 118 [v0] w4.drew λt17 w5=>(ldW false 1 t18 w5 λx=>x=t19)/\(ldW false 1 t14 w5 λx=>x=t15)/\(ldW false 1 t12 w5 λx=>x=t13)/\jS [(str []),(i64 0),(i64 0)] [(0,1,t15),(1,1,t17),(2,1,t19)] λc6=>gO 40 1 [(str []),(i64 0),(i64 0)] [(0,3,(.agg c6.toArray))] w5 λt21 w7=>(ldW false 1 t12 w7 λx=>x=t13)/\fY P0 (Builtin.append_ #[36,36] 36 #[t13,t21]) w7 λt22 w8=>eC v1 λt23=>aR 2 t23 λt24=>stW 1 t24 t22 w8 λw9=>K (.tuple #[]) w9) (eC v0 λt26=>aR 1 t26 λt27=>ldW false 1 t27 w4 λt28=>aS .sub t28 (i64 1) λt29=>eC v0 λt30=>aR 1 t30 λt31=>stW 1 t31 t29 w4 λw10=>eC v1 λt34=>aR 3 t34 λt35=>ldW false 1 t35 w10.drew λt36=>aJ P0 32 [v0] w10.drew λt38 w11=>(ldW false 1 t35 w11 λx=>x=t36)/\gO 3 1 [(i64 0)] [(0,1,t38)] w11 λt39 w12=>(ldW false 1 t35 w12 λx=>x=t36)/\fY P0 (Builtin.append_ #[26,26] 26 #[t36,t39]) w12 λt40 w13=>eC v1 λt41=>aR 3 t41 λt42=>stW 1 t42 t40 w13 λw14=>K (.tuple #[]) w14)
theorem Xr{K:Q0}(h:W69 v0 v1 w K):aJ P0 69 [v0,v1] w K:=
 tie _ 69 Tryz.f69 VI _ w K 2 _ rfl mixed Tryz.func69 (by kernel_rfl) (by kernel_rfl) Tryz.call69 h
def QQ:fD:={js:=[(13,⟨[4],[],1⟩),(6,⟨[4],[],1⟩)],ds:=[]}
def aAy(v0:Value)(w:World)(K:Q0):=dL [(i64 0)] w λs1 _ w2 L1=>kA v0 λt7=>aS .lss (s1.getD 0 undef) t7 λt8=>bB t8 (dE (λJ3=>nU v0 (s1.getD 0 undef) λt13=>aS .eql t13 (.int .u8 92) λt14=>bB t14 (aS .add (s1.getD 0 undef) (i64 1) λt16=>J3 [t16] w2) (pF v0 (some (s1.getD 0 undef)) none λt19=>aJ P0 59 [t19,(str [36,123])] w2 λt20 w4=>bB t20 (aS .add (s1.getD 0 undef) (i64 1) λt23=>aS .add (s1.getD 0 undef) (i64 1) λt26=>pF v0 (some t26) none λt27=>aJ P0 153 [t27] w4 λt28 w5=>aS .add t23 t28 λt29=>K (.tuple #[(s1.getD 0 undef),t29]) w5) (J3 [(s1.getD 0 undef)] w4))) λs3 _ w6=>aS .add (s3.getD 0 undef) (i64 1) λt10=>L1 [t10] w6) (K (.tuple #[(.int .i64 (-1)),(i64 0)]) w2)
theorem Um{K:Q0}(h:aAy v0 w K):aJ P0 115 [v0] w K:=
 tie _ 115 Tryz.f115 QQ _ w K 1 _ rfl mixed Tryz.func115 (by kernel_rfl) (by kernel_rfl) Tryz.call115 h
def QP:fD:={js:=[(19,⟨[4,5],[],4⟩),(8,⟨[4],[],4⟩)],ds:=[]}
def aAx(v0:Value)(w:World)(K:Q0):=dA 114 [(.pointer none),sN] w λt3 w1=>dL [(i64 0)] w1 λs2 _ w3 L2=>kA v0 λt8=>aS .lss (s2.getD 0 undef) t8 λt9=>bB t9 (nU v0 (s2.getD 0 undef) λt14=>dE (λJ4=>aS .eql t14 (.int .u8 92) λt16=>bB t16 (aS .add (s2.getD 0 undef) (i64 1) λt18=>nU v0 t18 λt21=>aS .eql t21 (.int .u8 110) λt24=>bB t24 (J4 [t18,(.int .u8 10)] w3) (aS .eql t21 (.int .u8 116) λt26=>bB t26 (J4 [t18,(.int .u8 9)] w3) (aS .eql t21 (.int .u8 114) λt28=>bB t28 (J4 [t18,(.int .u8 13)] w3) (J4 [t18,t21] w3)))) (J4 [(s2.getD 0 undef),t14] w3)) λs4 _ w5=>aJ P0 126 [t3,(s4.getD 1 undef)] w5 λt30 w6=>aS .add (s4.getD 0 undef) (i64 1) λt11=>L2 [t11] w6) (aJ P0 44 [t3] w3 λt31 w7=>K t31 w7)
theorem Ul{K:Q0}(h:aAx v0 w K):aJ P0 116 [v0] w K:=
 tie _ 116 Tryz.f116 QP _ w K 1 _ rfl mixed Tryz.func116 (by kernel_rfl) (by kernel_rfl) Tryz.call116 h
def QN:fD:={js:=[],ds:=[(17,⟨[0,1,2,3,4,5,6,7],[[],[],[1],[],[3],[3,4],[3,4,5],[],[0,1,2,3,4,5,6,7]]⟩)]}
def aAv(v0:Value)(w:World)(K:Q0):=jF 89 v0 w λt1 w1=>ldW false 1 t1 w1 λt6=>aJ P0 155 [t6,(i64 0)] w1 λt7 w2=>ldW false 1 t1 w2 λt8=>aJ P0 31 [t8] w2 λt9 w3=>dA 95 zL0 w3 λt4 w4=>stW 3 t4 t9 w4 λw5=>ldW false 1 t1 w5 λt10=>aJ P0 68 [t10,(str [63])] w5 λt11 w6=>unW .not t11 λt12=>bB t12 (K t7 w6) (gO 3 3 [(i64 0),(i64 0),(i64 0)] [(0,1,t7),(1,1,(i64 0)),(2,1,(i64 0))] w6 λt15 w7=>dA 26 [sN] w7 λt5 w8=>stW 1 t5 t15 w8 λw9=>ldW false 1 t1 w9.drew λt16=>aR 2 t4 λt17=>ldW false 1 t17 w9.drew λt18=>ldW false 1 t1 w9.drew λt19=>eC t19 λt20=>aR 5 t20 λt21=>ldW false 1 t21 w9.drew λt22=>aJ P0 66 [t16,t18,t22,(.func (.func 156) #[] #[t1,t5])] w9.drew λt24 w10=>ldW false 1 t1 w10 λt25=>ldW false 1 t5 w10 λt26=>aR 2 t4 λt27=>ldW false 1 t27 w10 λt28=>jS [(i64 0),(str []),sN,sN,(i64 0)] [(0,1,(i64 28)),(2,1,t26),(4,1,t28)] λc11=>aJ P0 158 [t25,(.agg c11.toArray)] w10 λt30 w12=>K t30 w12)
theorem Uj{K:Q0}(h:aAv v0 w K):aJ P0 118 [v0] w K:=
 tie _ 118 Tryz.f118 QN _ w K 1 _ rfl mixed Tryz.func118 (by kernel_rfl) (by kernel_rfl) Tryz.call118 h
def Qt:fD:={js:=[(15,⟨[3,4],[],1⟩),(8,⟨[3,4],[],1⟩)],ds:=[]}
def aAb(v0:Value)(w:World)(K:Q0):=dL [(i64 0),(i64 0)] w λs1 _ w2 L1=>kA v0 λt7=>aS .lss (s1.getD 1 undef) t7 λt8=>bB t8 (dE (λJ3=>nU v0 (s1.getD 1 undef) λt13=>aS .eql t13 (.int .u8 123) λt15=>bB t15 (aS .add (s1.getD 0 undef) (i64 1) λt17=>J3 [t17,(s1.getD 1 undef)] w2) (aS .eql t13 (.int .u8 125) λt19=>bB t19 (aS .sub (s1.getD 0 undef) (i64 1) λt21=>aS .eql t21 (i64 0) λt23=>bB t23 (aS .add (s1.getD 1 undef) (i64 1) λt25=>K t25 w2) (J3 [t21,(s1.getD 1 undef)] w2)) (aS .eql t13 (.int .u8 34) λt27=>bB t27 (pF v0 (some (s1.getD 1 undef)) none λt31=>aJ P0 202 [t31] w2 λt32 w4=>aS .sub t32 (i64 1) λt33=>aS .add (s1.getD 1 undef) t33 λt34=>J3 [(s1.getD 0 undef),t34] w4) (J3 [(s1.getD 0 undef),(s1.getD 1 undef)] w2)))) λs3 _ w5=>aS .add (s3.getD 1 undef) (i64 1) λt10=>L1 [(s3.getD 0 undef),t10] w5) (kA v0 λt36=>K t36 w2)
theorem TK{K:Q0}(h:aAb v0 w K):aJ P0 153 [v0] w K:=
 tie _ 153 Tryz.f153 Qt _ w K 1 _ rfl mixed Tryz.func153 (by kernel_rfl) (by kernel_rfl) Tryz.call153 h
def Qr:fD:={js:=[(13,⟨[5],[],2⟩)],ds:=[]}
def Yc(v0 v1:Value)(w:World)(K:Q0):=aS .eql v1 (i64 6) λt10=>bB t10 (aJ P0 203 [v0] w λt12 w1=>K t12 w1) (aS .add v1 (i64 1) λt15=>aJ P0 155 [v0,t15] w λt16 w2=>dL [t16] w2 λs3 _ w4 L3=>aJ P0 31 [v0] w4 λt18 w5=>dA 95 zL0 w5 λt6 w6=>stW 3 t6 t18 w6 λw7=>ldW true 3 t6 w7 λt19=>aJ P0 204 [t19,v1] w7 λt21 w8=>aS .eql t21 (i64 0) λt23=>bB t23 (K (s3.getD 0 undef) w8) (eC v0 λt26=>aR 1 t26 λt27=>ldW false 1 t27 w8 λt28=>aS .add t28 (i64 1) λt29=>eC v0 λt30=>aR 1 t30 λt31=>stW 1 t31 t29 w8 λw9=>aS .add v1 (i64 1) λt34=>aJ P0 155 [v0,t34] w9 λt35 w10=>gO 3 2 [(i64 0),(i64 0)] [(0,1,(s3.getD 0 undef)),(1,1,t35)] w10 λt40 w11=>aR 2 t6 λt41=>ldW false 1 t41 w11 λt42=>jS [(i64 0),(str []),sN,sN,(i64 0)] [(0,1,t21),(2,1,t40),(4,1,t42)] λc12=>aJ P0 158 [v0,(.agg c12.toArray)] w11 λt44 w13=>L3 [t44] w13))
theorem KS{K:Q0}(h:Yc v0 v1 w K):aJ P0 155 [v0,v1] w K:=
 tie _ 155 Tryz.f155 Qr _ w K 2 _ rfl mixed Tryz.func155 (by kernel_rfl) (by kernel_rfl) Tryz.call155 h
def Qq:fD:={js:=[],ds:=[(4,⟨[0,1,3],[[],[],[1],[0,1,2],[0,1,2,3]]⟩),(1,⟨[0,1,3],[[],[],[1],[0,1,2],[0,1,2,3]]⟩)]}
def ZZ(v0 v1:Value)(w:World)(K:Q0):=ldW false 1 v1 w.drew λt2=>ldW false 1 v0 w.drew λt3=>aJ P0 118 [t3] w.drew λt4 w1=>(ldW false 1 v1 w1 λx=>x=t2)/\fK none 1 t2 (i64 1) λt5=>stW 1 t5 t4 w1 λw2=>ldW false 1 v0 w2 λt6=>aJ P0 157 [t6,(str [58])] w2 λt7 w3=>ldW false 1 v1 w3.drew λt8=>ldW false 1 v0 w3.drew λt9=>aJ P0 118 [t9] w3.drew λt10 w4=>(ldW false 1 v1 w4 λx=>x=t8)/\fK none 1 t8 (i64 2) λt11=>stW 1 t11 t10 w4 λw5=>K (.tuple #[]) w5
theorem TI{K:Q0}(h:ZZ v0 v1 w K):aJ P0 156 [v0,v1] w K:=
 tie _ 156 Tryz.f156 Qq _ w K 2 _ rfl mixed Tryz.func156 (by kernel_rfl) (by kernel_rfl) Tryz.call156 h
def Qp:fD:={js:=[],ds:=[]}
def ZY(v0 v1:Value)(w:World)(K:Q0):=aJ P0 68 [v0,v1] w λt6 w1=>unW .not t6 λt7=>bB t7 (aJ P0 31 [v0] w1 λt9 w2=>nS false 2 1 t9 λt10=>aJ P0 33 [(i64 50),t10] w2 λt11 w3=>K (.tuple #[]) w3) (K (.tuple #[]) w1)
theorem TH{K:Q0}(h:ZY v0 v1 w K):aJ P0 157 [v0,v1] w K:=
 tie _ 157 Tryz.f157 Qp _ w K 2 _ rfl mixed Tryz.func157 (by kernel_rfl) (by kernel_rfl) Tryz.call157 h
def Qo:fD:={js:=[],ds:=[(3,⟨[0,1,2,3,4,5,6,7,8,9,10,11,14,15],[[],[0],[0,1],[0,1,2],[],[4],[4,5],[4,5,6],[4,5,6,7],[4,5,6,7,8],[4,5,6,7,8,9],[],[11],[4,5,6,7,8,9,10,11,12],[0,1,2,3,4,5,6,7,8,9,10,11,12,13],[0,1,2,3,4,5,6,7,8,9,10,11,12,13,14],[0,1,2,3,4,5,6,7,8,9,10,11,12,13,14,15]]⟩)]}
def ZX(v0 v1:Value)(w:World)(K:Q0):=jF 35 v1 w λt3 w1=>eC v0 λt6=>aR 3 t6 λt7=>ldW false 1 t7 w1.drew λt8=>eC v0 λt10=>aR 3 t10 λt11=>ldW false 1 t11 w1.drew λt12=>eC t12 λt13=>aR 0 t13 λt14=>ldW false 1 t14 w1.drew λt15=>ldW true 5 t3 w1.drew λt16=>gO 35 1 [(i64 0),(str []),sN,sN,(i64 0)] [(0,5,t16)] w1.drew λt17 w2=>(ldW false 1 t14 w2 λx=>x=t15)/\(ldW false 1 t11 w2 λx=>x=t12)/\(ldW false 1 t7 w2 λx=>x=t8)/\fY P0 (Builtin.append_ #[24,24] 24 #[t15,t17]) w2 λt18 w3=>(ldW false 1 t7 w3 λx=>x=t8)/\eC t8 λt19=>aR 0 t19 λt20=>stW 1 t20 t18 w3 λw4=>eC v0 λt22=>aR 3 t22 λt23=>ldW false 1 t23 w4 λt24=>eC t24 λt25=>aR 0 t25 λt26=>ldW false 1 t26 w4 λt27=>fI t27 λt28=>aS .sub t28 (i64 1) λt29=>K t29 w4
theorem TF{K:Q0}(h:ZX v0 v1 w K):aJ P0 158 [v0,v1] w K:=
 tie _ 158 Tryz.f158 Qo _ w K 2 _ rfl mixed Tryz.func158 (by kernel_rfl) (by kernel_rfl) Tryz.call158 h
def PP:fD:={js:=[(13,⟨[3],[],1⟩),(6,⟨[3],[],1⟩)],ds:=[]}
def ZB(v0:Value)(w:World)(K:Q0):=dL [(i64 1)] w λs1 _ w2 L1=>kA v0 λt6=>aS .lss (s1.getD 0 undef) t6 λt7=>bB t7 (dE (λJ3=>nU v0 (s1.getD 0 undef) λt13=>aS .eql t13 (.int .u8 34) λt14=>bB t14 (aS .add (s1.getD 0 undef) (i64 1) λt16=>K t16 w2) (nU v0 (s1.getD 0 undef) λt20=>aS .eql t20 (.int .u8 92) λt21=>bB t21 (aS .add (s1.getD 0 undef) (i64 1) λt23=>J3 [t23] w2) (pF v0 (some (s1.getD 0 undef)) none λt27=>aJ P0 59 [t27,(str [36,123])] w2 λt28 w4=>bB t28 (aS .add (s1.getD 0 undef) (i64 1) λt32=>pF v0 (some t32) none λt33=>aJ P0 153 [t33] w4 λt34 w5=>aS .add (s1.getD 0 undef) t34 λt35=>J3 [t35] w5) (J3 [(s1.getD 0 undef)] w4)))) λs3 _ w6=>aS .add (s3.getD 0 undef) (i64 1) λt9=>L1 [t9] w6) (kA v0 λt37=>K t37 w2)
theorem Tg{K:Q0}(h:ZB v0 w K):aJ P0 202 [v0] w K:=
 tie _ 202 Tryz.f202 PP _ w K 1 _ rfl mixed Tryz.func202 (by kernel_rfl) (by kernel_rfl) Tryz.call202 h
def PO:fD:={js:=[(8,⟨[4],[],4⟩)],ds:=[(30,⟨[0,1,2,3,4,5,6,7],[[],[],[1],[],[3],[3,4],[3,4,5],[],[0,1,2,3,4,5,6,7]]⟩)]}
def ZA(v0:Value)(w:World)(K:Q0):=jF 89 v0 w λt1 w1=>ldW false 1 t1 w1 λt6=>aJ P0 31 [t6] w1 λt7 w2=>dA 95 zL0 w2 λt3 w3=>stW 3 t3 t7 w3 λw4=>dE (λJ5=>ldW false 1 t1 w4 λt9=>gO 9 1 [(str [])] [(0,1,(str [33]))] w4 λt10 w6=>aJ P0 65 [t9,t10] w6 λt11 w7=>bB t11 (J5 [(i64 14)] w7) (ldW false 1 t1 w7 λt13=>gO 9 1 [(str [])] [(0,1,(str [45]))] w7 λt14 w8=>aJ P0 65 [t13,t14] w8 λt15 w9=>bB t15 (J5 [(i64 13)] w9) (ldW false 1 t1 w9 λt33=>aJ P0 220 [t33] w9 λt34 w10=>K t34 w10))) λs5 _ w11=>dA 3 [(i64 0)] w11 λt5 w12=>stW 1 t5 (i64 0) w12 λw13=>ldW false 1 t1 w13.drew λt16=>aR 2 t3 λt17=>ldW false 1 t17 w13.drew λt18=>ldW false 1 t1 w13.drew λt19=>eC t19 λt20=>aR 5 t20 λt21=>ldW false 1 t21 w13.drew λt22=>aJ P0 66 [t16,t18,t22,(.func (.func 219) #[] #[t1,t5])] w13.drew λt24 w14=>ldW false 1 t1 w14 λt25=>ldW false 1 t5 w14 λt27=>gO 3 1 [(i64 0)] [(0,1,t27)] w14 λt28 w15=>aR 2 t3 λt29=>ldW false 1 t29 w15 λt30=>jS [(i64 0),(str []),sN,sN,(i64 0)] [(0,1,(s5.getD 0 undef)),(2,1,t28),(4,1,t30)] λc16=>aJ P0 158 [t25,(.agg c16.toArray)] w15 λt32 w17=>K t32 w17
theorem Tf{K:Q0}(h:ZA v0 w K):aJ P0 203 [v0] w K:=
 tie _ 203 Tryz.f203 PO _ w K 1 _ rfl mixed Tryz.func203 (by kernel_rfl) (by kernel_rfl) Tryz.call203 h
def PN:fD:={js:=[],ds:=[]}
def Zz(v0 v1:Value)(w:World)(K:Q0):=jF 95 v0 w λt2 w1=>aR 0 t2 λt5=>ldW false 1 t5 w1 λt6=>aS .neq t6 (i64 4) λt7=>bB t7 (K (i64 0) w1) (aS .mul v1 (i64 100) λt9=>gO 9 13 (List.replicate 13 (str [])) [(0,1,(str [124,124])),(1,1,(str [38,38])),(2,1,(str [61,61])),(3,1,(str [33,61])),(4,1,(str [60])),(5,1,(str [62])),(6,1,(str [60,61])),(7,1,(str [62,61])),(8,1,(str [43])),(9,1,(str [45])),(10,1,(str [42])),(11,1,(str [47])),(12,1,(str [37]))] w1 λt10 w2=>aR 1 t2 λt11=>ldW false 1 t11 w2 λt12=>aJ P0 154 [t10,t12] w2 λt13 w3=>aS .add t9 t13 λt14=>aS .eql t14 (i64 0) λt16=>bB t16 (K (i64 27) w3) (aS .eql t14 (i64 101) λt18=>bB t18 (K (i64 26) w3) (aS .eql t14 (i64 202) λt20=>bB t20 (K (i64 20) w3) (aS .eql t14 (i64 203) λt22=>bB t22 (K (i64 21) w3) (aS .eql t14 (i64 304) λt24=>bB t24 (K (i64 22) w3) (aS .eql t14 (i64 305) λt26=>bB t26 (K (i64 23) w3) (aS .eql t14 (i64 306) λt28=>bB t28 (K (i64 24) w3) (aS .eql t14 (i64 307) λt30=>bB t30 (K (i64 25) w3) (aS .eql t14 (i64 408) λt32=>bB t32 (K (i64 15) w3) (aS .eql t14 (i64 409) λt34=>bB t34 (K (i64 16) w3) (aS .eql t14 (i64 510) λt36=>bB t36 (K (i64 17) w3) (aS .eql t14 (i64 511) λt38=>bB t38 (K (i64 18) w3) (aS .eql t14 (i64 512) λt40=>bB t40 (K (i64 19) w3) (K (i64 0) w3))))))))))))))
theorem Te{K:Q0}(h:Zz v0 v1 w K):aJ P0 204 [v0,v1] w K:=
 tie _ 204 Tryz.f204 PN _ w K 2 _ rfl mixed Tryz.func204 (by kernel_rfl) (by kernel_rfl) Tryz.call204 h
def PG:fD:={js:=[],ds:=[]}
def Zt(v0 v1:Value)(w:World)(K:Q0):=ldW false 1 v0 w λt2=>eC t2 λt3=>aR 1 t3 λt4=>ldW false 1 t4 w λt5=>aS .add t5 (i64 1) λt6=>eC t2 λt7=>aR 1 t7 λt8=>stW 1 t8 t6 w λw1=>ldW false 1 v0 w1 λt9=>aJ P0 203 [t9] w1 λt10 w2=>stW 1 v1 t10 w2 λw3=>K (.tuple #[]) w3
theorem SU{K:Q0}(h:Zt v0 v1 w K):aJ P0 219 [v0,v1] w K:=
 tie _ 219 Tryz.f219 PG _ w K 2 _ rfl mixed Tryz.func219 (by kernel_rfl) (by kernel_rfl) Tryz.call219 h
def PF:fD:={js:=[(5,⟨[3],[],2⟩)],ds:=[(31,⟨[0,1,3,6,7,8],[[],[],[1],[1,2],[],[4],[],[6],[1,2,3,4,5,6,7],[0,1,2,3,4,5,6,7,8],[0,1,2,3,4,5,6,7,8,9]]⟩),(13,⟨[0,1,3,6,7,8],[[],[],[1],[1,2],[],[4],[],[6],[1,2,3,4,5,6,7],[0,1,2,3,4,5,6,7,8],[0,1,2,3,4,5,6,7,8,9]]⟩)]}
def Zs(v0:Value)(w:World)(K:Q0):=jF 89 v0 w λt1 w1=>ldW false 1 t1 w1 λt7=>aJ P0 226 [t7] w1 λt8 w2=>dL [t8] w2 λs3 _ w4 L3=>ldW false 1 t1 w4 λt9=>aJ P0 31 [t9] w4 λt10 w5=>dA 95 zL0 w5 λt4 w6=>stW 3 t4 t10 w6 λw7=>ldW false 1 t1 w7 λt13=>aJ P0 68 [t13,(str [46])] w7 λt14 w8=>bB t14 (ldW false 1 t1 w8.drew λt15=>ldW false 1 t1 w8.drew λt16=>aR 2 t4 λt21=>ldW false 1 t21 w8.drew λt22=>(aJ P0 62 [t16,(i64 1)] w8.drew λt17 w9=>(ldW false 1 t21 w9 λx=>x=t22)/\(ldW false 1 t1 w9 λx=>x=t15)/\nS false 1 1 t17 λt18=>(ldW false 1 t21 w9 λx=>x=t22)/\(ldW false 1 t1 w9 λx=>x=t15)/\gO 3 1 [(i64 0)] [(0,1,(s3.getD 0 undef))] w9 λt20 w10=>(ldW false 1 t21 w10 λx=>x=t22)/\(ldW false 1 t1 w10 λx=>x=t15)/\jS [(i64 0),(str []),sN,sN,(i64 0)] [(0,1,(i64 10)),(1,1,t18),(2,1,t20),(4,1,t22)] λc11=>aJ P0 158 [t15,(.agg c11.toArray)] w10 λt24 w12=>L3 [t24] w12)/\((ldW false 1 t21 w8.drew λx=>x=t22)/\(ldW false 1 t1 w8.drew λx=>x=t16)/\(ldW false 1 t1 w8.drew λx=>x=t15)/\(aJ P0 62 [t16,(i64 1)] w8.drew λt17 w13=>(ldW false 1 t21 w13 λx=>x=t22)/\(ldW false 1 t1 w13 λx=>x=t15)/\nS false 1 1 t17 λt18=>gO 3 1 [(i64 0)] [(0,1,(s3.getD 0 undef))] w13 λt20 w14=>(ldW false 1 t21 w14 λx=>x=t22)/\(ldW false 1 t1 w14 λx=>x=t15)/\jS [(i64 0),(str []),sN,sN,(i64 0)] [(0,1,(i64 10)),(1,1,t18),(2,1,t20),(4,1,t22)] λc15=>aJ P0 158 [t15,(.agg c15.toArray)] w14 λt24 w16=>L3 [t24] w16)/\(gO 3 1 [(i64 0)] [(0,1,(s3.getD 0 undef))] w8.drew λt20 w17=>(ldW false 1 t21 w17 λx=>x=t22)/\(ldW false 1 t1 w17 λx=>x=t16)/\(ldW false 1 t1 w17 λx=>x=t15)/\aJ P0 62 [t16,(i64 1)] w17 λt17 w18=>(ldW false 1 t21 w18 λx=>x=t22)/\(ldW false 1 t1 w18 λx=>x=t15)/\nS false 1 1 t17 λt18=>jS [(i64 0),(str []),sN,sN,(i64 0)] [(0,1,(i64 10)),(1,1,t18),(2,1,t20),(4,1,t22)] λc19=>aJ P0 158 [t15,(.agg c19.toArray)] w18 λt24 w20=>L3 [t24] w20))) (ldW false 1 t1 w8 λt26=>gO 9 1 [(str [])] [(0,1,(str [91]))] w8 λt27 w21=>aJ P0 65 [t26,t27] w21 λt28 w22=>bB t28 (dA 3 [(i64 0)] w22 λt5 w23=>dA 4 [(.bool false)] w23 λt6 w24=>stW 1 t5 (i64 0) w24 λw25=>stW 1 t6 (.bool false) w25 λw26=>ldW false 1 t1 w26 λt29=>aR 2 t4 λt30=>ldW false 1 t30 w26 λt31=>aJ P0 66 [t29,t31,(.bool true),(.func (.func 227) #[] #[t1,t6,t5])] w26 λt33 w27=>ldW false 1 t6 w27 λt34=>unW .not t34 λt35=>bB t35 (ldW false 1 t1 w27 λt36=>ldW false 1 t5 w27 λt38=>gO 3 2 [(i64 0),(i64 0)] [(0,1,(s3.getD 0 undef)),(1,1,t38)] w27 λt39 w28=>aR 2 t4 λt40=>ldW false 1 t40 w28 λt41=>jS [(i64 0),(str []),sN,sN,(i64 0)] [(0,1,(i64 11)),(2,1,t39),(4,1,t41)] λc29=>aJ P0 158 [t36,(.agg c29.toArray)] w28 λt43 w30=>L3 [t43] w30) (ldW false 1 t1 w27 λt44=>aJ P0 157 [t44,(str [46])] w27 λt45 w31=>ldW false 1 t1 w31.drew λt46=>ldW false 1 t1 w31.drew λt47=>aR 2 t4 λt52=>ldW false 1 t52 w31.drew λt53=>(aJ P0 62 [t47,(i64 1)] w31.drew λt48 w32=>(ldW false 1 t52 w32 λx=>x=t53)/\(ldW false 1 t1 w32 λx=>x=t46)/\nS false 1 1 t48 λt49=>(ldW false 1 t52 w32 λx=>x=t53)/\(ldW false 1 t1 w32 λx=>x=t46)/\gO 3 1 [(i64 0)] [(0,1,(s3.getD 0 undef))] w32 λt51 w33=>(ldW false 1 t52 w33 λx=>x=t53)/\(ldW false 1 t1 w33 λx=>x=t46)/\jS [(i64 0),(str []),sN,sN,(i64 0)] [(0,1,(i64 30)),(1,1,t49),(2,1,t51),(4,1,t53)] λc34=>aJ P0 158 [t46,(.agg c34.toArray)] w33 λt55 w35=>L3 [t55] w35)/\((ldW false 1 t52 w31.drew λx=>x=t53)/\(ldW false 1 t1 w31.drew λx=>x=t47)/\(ldW false 1 t1 w31.drew λx=>x=t46)/\(aJ P0 62 [t47,(i64 1)] w31.drew λt48 w36=>(ldW false 1 t52 w36 λx=>x=t53)/\(ldW false 1 t1 w36 λx=>x=t46)/\nS false 1 1 t48 λt49=>gO 3 1 [(i64 0)] [(0,1,(s3.getD 0 undef))] w36 λt51 w37=>(ldW false 1 t52 w37 λx=>x=t53)/\(ldW false 1 t1 w37 λx=>x=t46)/\jS [(i64 0),(str []),sN,sN,(i64 0)] [(0,1,(i64 30)),(1,1,t49),(2,1,t51),(4,1,t53)] λc38=>aJ P0 158 [t46,(.agg c38.toArray)] w37 λt55 w39=>L3 [t55] w39)/\(gO 3 1 [(i64 0)] [(0,1,(s3.getD 0 undef))] w31.drew λt51 w40=>(ldW false 1 t52 w40 λx=>x=t53)/\(ldW false 1 t1 w40 λx=>x=t47)/\(ldW false 1 t1 w40 λx=>x=t46)/\aJ P0 62 [t47,(i64 1)] w40 λt48 w41=>(ldW false 1 t52 w41 λx=>x=t53)/\(ldW false 1 t1 w41 λx=>x=t46)/\nS false 1 1 t48 λt49=>jS [(i64 0),(str []),sN,sN,(i64 0)] [(0,1,(i64 30)),(1,1,t49),(2,1,t51),(4,1,t53)] λc42=>aJ P0 158 [t46,(.agg c42.toArray)] w41 λt55 w43=>L3 [t55] w43)))) (K (s3.getD 0 undef) w22))
theorem SS{K:Q0}(h:Zs v0 w K):aJ P0 220 [v0] w K:=
 tie _ 220 Tryz.f220 PF _ w K 1 _ rfl mixed Tryz.func220 (by kernel_rfl) (by kernel_rfl) Tryz.call220 h
def PD:fD:={js:=[(6,⟨[],[2],5⟩),(23005,⟨[50],[],48⟩)],ds:=[(43,⟨[0,1,3,4],[[],[],[1],[1,2],[],[0,1,2,3,4]]⟩),(42,⟨[0,1,2,4],[[],[0],[],[2],[0,1,2,3],[0,1,2,3,4]]⟩),(13,⟨[0,1,2,4],[[],[0],[],[2],[0,1,2,3],[0,1,2,3,4]]⟩)]}
def Zr(v0:Value)(w:World)(K:Q0):=jF 89 v0 w λt1 w1=>ldW false 1 t1 w1 λt6=>aJ P0 31 [t6] w1 λt7 w2=>dA 95 zL0 w2 λt3 w3=>stW 3 t3 t7 w3 λw4=>aR 2 t3 λt8=>ldW false 1 t8 w4 λt9=>jS [(i64 0),(str []),sN,sN,(i64 0)] [(4,1,t9)] λc5=>dA 35 zL1 w4 λt4 w6=>stW 5 t4 (.agg c5.toArray) w6 λw7=>dE (λJ8=>aR 0 t3 λt15=>ldW false 1 t15 w7 λt16=>aS .eql t16 (i64 2) λt17=>bB t17 (ldW false 1 t1 w7 λt18=>eC t18 λt19=>aR 1 t19 λt20=>ldW false 1 t20 w7 λt21=>aS .add t21 (i64 1) λt22=>eC t18 λt23=>aR 1 t23 λt24=>stW 1 t24 t22 w7 λw9=>aR 1 t3 λt25=>ldW false 1 t25 w9.drew λt26=>aR 0 t4 λt27=>stW 1 t27 (i64 4) w9.drew λw10=>(ldW false 1 t25 w10 λx=>x=t26)/\aR 1 t4 λt28=>stW 1 t28 t26 w10 λw11=>J8 [] w11) (aR 0 t3 λt30=>ldW false 1 t30 w7 λt31=>aS .eql t31 (i64 3) λt32=>bB t32 (ldW false 1 t1 w7 λt33=>eC t33 λt34=>aR 1 t34 λt35=>ldW false 1 t35 w7 λt36=>aS .add t36 (i64 1) λt37=>eC t33 λt38=>aR 1 t38 λt39=>stW 1 t39 t37 w7 λw12=>ldW false 1 t1 w12 λt40=>ldW true 3 t3 w12 λt41=>aJ P0 232 [t40,t41] w12 λt42 w13=>K t42 w13) (aR 0 t3 λt44=>ldW false 1 t44 w7 λt45=>aS .eql t45 (i64 1) λt46=>GdW (isB t46 true) [undef] w7 (λJ14=>aR 1 t3 λt48=>ldW false 1 t48 w7 λt49=>aS .neq t49 (str [102,111,114]) λt50=>J14 [t50] w7) λs14 _ w15=>cZ t46 (s14.getD 0 undef) (.bool false) λt51=>bB t51 (ldW false 1 t1 w15 λt52=>eC t52 λt53=>aR 1 t53 λt54=>ldW false 1 t54 w15 λt55=>aS .add t55 (i64 1) λt56=>eC t52 λt57=>aR 1 t57 λt58=>stW 1 t58 t56 w15 λw16=>ldW false 1 t1 w16 λt59=>gO 9 1 [(str [])] [(0,1,(str [40]))] w16 λt60 w17=>aJ P0 65 [t59,t60] w17 λt61 w18=>unW .not t61 λt62=>bB t62 (aR 1 t3 λt63=>ldW false 1 t63 w18 λt64=>aJ P0 233 [t64] w18 λt65 w19=>aR 0 t4 λt66=>stW 1 t66 t65 w19 λw20=>aR 0 t4 λt67=>ldW false 1 t67 w20 λt68=>aS .eql t68 (i64 9) λt69=>bB t69 (aR 1 t3 λt70=>ldW false 1 t70 w20 λt71=>aR 1 t4 λt72=>stW 1 t72 t71 w20 λw21=>J8 [] w21) (J8 [] w20)) (aR 1 t3 λt73=>ldW false 1 t73 w18.drew λt74=>aR 0 t4 λt75=>stW 1 t75 (i64 12) w18.drew λw22=>(ldW false 1 t73 w22 λx=>x=t74)/\aR 1 t4 λt76=>stW 1 t76 t74 w22 λw23=>ldW false 1 t1 w23.drew λt77=>ldW false 1 t1 w23.drew λt78=>aJ P0 31 [t78] w23.drew λt79 w24=>(ldW false 1 t1 w24 λx=>x=t77)/\nS false 2 1 t79 λt80=>aJ P0 66 [t77,t80,(.bool true),(.func (.func 234) #[] #[t1,t4])] w24 λt82 w25=>J8 [] w25)) (ldW false 1 t1 w15 λt84=>gO 9 1 [(str [])] [(0,1,(str [40]))] w15 λt85 w26=>aJ P0 65 [t84,t85] w26 λt86 w27=>bB t86 (dA 3 [(i64 0)] w27 λt5 w28=>stW 1 t5 (i64 0) w28 λw29=>ldW false 1 t1 w29 λt87=>aR 2 t3 λt88=>ldW false 1 t88 w29 λt89=>aJ P0 66 [t87,t89,(.bool true),(.func (.func 236) #[] #[t1,t5])] w29 λt91 w30=>ldW false 1 t5 w30 λt92=>K t92 w30) (ldW false 1 t1 w27 λt94=>gO 9 1 [(str [])] [(0,1,(str [91]))] w27 λt95 w31=>aJ P0 65 [t94,t95] w31 λt96 w32=>bB t96 (ldW false 1 t1 w32 λt97=>aR 2 t3 λt98=>ldW false 1 t98 w32 λt99=>aJ P0 66 [t97,t99,(.bool true),(.func (.func 237) #[] #[t1,t3,t4])] w32 λt101 w33=>J8 [] w33) (ldW false 1 t1 w32 λt103=>gO 9 1 [(str [])] [(0,1,(str [123]))] w32 λt104 w34=>aJ P0 65 [t103,t104] w34 λt105 w35=>bB t105 (ldW false 1 t1 w35 λt106=>aR 2 t3 λt107=>ldW false 1 t107 w35 λt108=>aJ P0 66 [t106,t108,(.bool false),(.func (.func 239) #[] #[t1,t3,t4])] w35 λt110 w36=>J8 [] w36) (aR 2 t3 λt11=>ldW false 1 t11 w35 λt12=>aJ P0 33 [(i64 50),t12] w35 λt13 w37=>J8 [] w37))))))) λs8 _ w38=>ldW false 1 t1 w38 λt111=>ldW true 5 t4 w38 λt112=>aJ P0 158 [t111,t112] w38 λt113 w39=>K t113 w39
theorem SR{K:Q0}(h:Zr v0 w K):aJ P0 226 [v0] w K:=
 tie _ 226 Tryz.f226 PD _ w K 1 _ rfl mixed Tryz.func226 (by kernel_rfl) (by kernel_rfl) Tryz.call226 h
def PC:fD:={js:=[(2,⟨[],[],1⟩)],ds:=[]}
def Zq(v0 v1 v2:Value)(w:World)(K:Q0):=ldW false 1 v0 w λt3=>eC t3 λt4=>aR 1 t4 λt5=>ldW false 1 t5 w λt6=>aS .add t6 (i64 1) λt7=>eC t3 λt8=>aR 1 t8 λt9=>stW 1 t9 t7 w λw1=>dE (λJ2=>ldW false 1 v0 w1 λt10=>aJ P0 68 [t10,(str [42])] w1 λt11 w3=>stW 1 v1 t11 w3 λw4=>ldW false 1 v1 w4 λt12=>unW .not t12 λt13=>bB t13 (ldW false 1 v0 w4 λt14=>aJ P0 118 [t14] w4 λt15 w5=>stW 1 v2 t15 w5 λw6=>J2 [] w6) (J2 [] w4)) λs2 _ w7=>ldW false 1 v0 w7 λt16=>aJ P0 157 [t16,(str [93])] w7 λt17 w8=>K (.tuple #[]) w8
theorem SQ{K:Q0}(h:Zq v0 v1 v2 w K):aJ P0 227 [v0,v1,v2] w K:=
 tie _ 227 Tryz.f227 PC _ w K 3 _ rfl mixed Tryz.func227 (by kernel_rfl) (by kernel_rfl) Tryz.call227 h
def Pz:fD:={js:=[(42,⟨[],[],12⟩),(34,⟨[],[],12⟩),(28,⟨[],[],12⟩),(18,⟨[],[],10⟩),(14,⟨[8,9],[],8⟩)],ds:=[(50,⟨[0,1,2,3,4,5],[[],[],[0,1],[],[],[3,4],[0,1,2],[0,1,2,3,4,5,6]]⟩),(39,⟨[0,1,2,3,4,5,7,8,12],[[],[0],[],[],[],[3,4],[3,4,5],[],[3,4,5,6,7],[2,3,4,5,6,7,8],[2,3,4,5,6,7,8,9],[0,1,2,3,4,5,6,7,8,9,10],[0,1,2,3,4,5,6,7,8,9,10,11],[0,1,2,3,4,5,6,7,8,9,10,11,12]]⟩),(32,⟨[0,1,2,3],[[],[0],[],[2],[0,1],[0,1,2,3,4]]⟩),(15,⟨[0,1,2,3,4],[[],[0],[],[2],[2,3],[],[],[0,1,5,6],[0,1,2,3,4,5,6,7]]⟩),(9,⟨[0,1,2,4,5,6,8],[[],[],[1],[1,2],[],[4],[1,2,3,4,5],[0,1,2,3,4,5,6],[0,1,2,3,4,5,6,7]]⟩)]}
def Zp(v0 v1:Value)(w:World)(K:Q0):=jF 89 v0 w λt2 w1=>jF 95 v1 w1 λt3 w2=>aR 1 t3 λt13=>ldW false 1 t13 w2 λt14=>aJ P0 115 [t14] w2 λt15 w3=>jQ 0 t15 λt16=>jQ 1 t15 λt17=>aS .lss t16 (i64 0) λt19=>bB t19 (ldW false 1 t2 w3.drew λt20=>aR 1 t3 λt21=>ldW false 1 t21 w3.drew λt22=>aR 2 t3 λt24=>ldW false 1 t24 w3.drew λt25=>aJ P0 116 [t22] w3.drew λt23 w4=>(ldW false 1 t24 w4 λx=>x=t25)/\(ldW false 1 t2 w4 λx=>x=t20)/\jS [(i64 0),(str []),sN,sN,(i64 0)] [(0,1,(i64 5)),(1,1,t23),(4,1,t25)] λc5=>aJ P0 158 [t20,(.agg c5.toArray)] w4 λt27 w6=>K t27 w6) (aR 2 t3 λt28=>ldW false 1 t28 w3 λt29=>jS [(i64 0),(str []),sN,sN,(i64 0)] [(0,1,(i64 6)),(4,1,t29)] λc7=>dA 35 zL1 w3 λt7 w8=>stW 5 t7 (.agg c7.toArray) w8 λw9=>dE (λJ10=>aR 1 t3 λt31=>ldW false 1 t31 w9.drew λt32=>aR 2 t3 λt33=>ldW false 1 t33 w9.drew λt34=>aS .add t34 (i64 1) λt35=>(dA 9 [(str [])] w9.drew λt8 w11=>(ldW false 1 t33 w11 λx=>x=t34)/\(ldW false 1 t31 w11 λx=>x=t32)/\dA 3 [(i64 0)] w11 λt9 w12=>(ldW false 1 t33 w12 λx=>x=t34)/\(ldW false 1 t31 w12 λx=>x=t32)/\stW 1 t8 t32 w12 λw13=>(ldW false 1 t33 w13 λx=>x=t34)/\stW 1 t9 t35 w13 λw14=>J10 [t8,t9] w14)/\(dA 3 [(i64 0)] w9.drew λt9 w15=>(ldW false 1 t33 w15 λx=>x=t34)/\(ldW false 1 t31 w15 λx=>x=t32)/\dA 9 [(str [])] w15 λt8 w16=>(ldW false 1 t33 w16 λx=>x=t34)/\(ldW false 1 t31 w16 λx=>x=t32)/\stW 1 t8 t32 w16 λw17=>(ldW false 1 t33 w17 λx=>x=t34)/\stW 1 t9 t35 w17 λw18=>J10 [t8,t9] w18)) λs10 _ w19=>dL [] w19 λs20 _ w21 L20=>ldW false 1 (s10.getD 0 undef) w21 λt36=>aS .neq t36 (str []) λt37=>bB t37 (ldW false 1 (s10.getD 0 undef) w21 λt39=>aJ P0 115 [t39] w21 λt40 w22=>jQ 0 t40 λt41=>jQ 1 t40 λt42=>dA 3 [(i64 0)] w22 λt10 w23=>dA 3 [(i64 0)] w23 λt11 w24=>stW 1 t10 t41 w24 λw25=>stW 1 t11 t42 w25 λw26=>dE (λJ27=>ldW false 1 t10 w26 λt43=>aS .lss t43 (i64 0) λt44=>bB t44 (ldW false 1 (s10.getD 0 undef) w26.drew λt45=>kA t45 λt46=>ldW false 1 (s10.getD 0 undef) w26.drew λt47=>kA t47 λt48=>stW 1 t10 t46 w26.drew λw28=>(ldW false 1 (s10.getD 0 undef) w28 λx=>x=t47)/\stW 1 t11 t48 w28 λw29=>J27 [] w29) (J27 [] w26)) λs27 _ w30=>dE (λJ31=>ldW false 1 t10 w30 λt49=>aS .gtr t49 (i64 0) λt50=>bB t50 (aR 2 t7 λt51=>ldW false 1 t51 w30.drew λt52=>ldW false 1 t2 w30.drew λt53=>ldW false 1 (s10.getD 0 undef) w30.drew λt54=>ldW false 1 t10 w30.drew λt55=>pF t54 none (some t55) λt56=>ldW false 1 (s10.getD 1 undef) w30.drew λt58=>aJ P0 116 [t56] w30.drew λt57 w32=>(ldW false 1 (s10.getD 1 undef) w32 λx=>x=t58)/\(ldW false 1 t2 w32 λx=>x=t53)/\(ldW false 1 t51 w32 λx=>x=t52)/\jS [(i64 0),(str []),sN,sN,(i64 0)] [(0,1,(i64 5)),(1,1,t57),(4,1,t58)] λc33=>aJ P0 158 [t53,(.agg c33.toArray)] w32 λt60 w34=>(ldW false 1 t51 w34 λx=>x=t52)/\gO 3 1 [(i64 0)] [(0,1,t60)] w34 λt61 w35=>(ldW false 1 t51 w35 λx=>x=t52)/\fY P0 (Builtin.append_ #[26,26] 26 #[t52,t61]) w35 λt62 w36=>aR 2 t7 λt63=>stW 1 t63 t62 w36 λw37=>aR 3 t7 λt64=>ldW false 1 t64 w37 λt65=>gO 9 1 [(str [])] [(0,1,(str [116]))] w37 λt66 w38=>fY P0 (Builtin.append_ #[33,33] 33 #[t65,t66]) w38 λt67 w39=>aR 3 t7 λt68=>stW 1 t68 t67 w39 λw40=>J31 [] w40) (J31 [] w30)) λs31 _ w41=>dE (λJ42=>ldW false 1 t10 w41 λt69=>ldW false 1 t11 w41 λt70=>aS .lss t69 t70 λt71=>bB t71 (ldW false 1 t2 w41 λt72=>ldW false 1 (s10.getD 1 undef) w41 λt73=>ldW false 1 t10 w41 λt74=>aS .add t73 t74 λt75=>aJ P0 66 [t72,t75,(.bool false),(.func (.func 256) #[] #[t7,t2,(s10.getD 0 undef),t10,t11,(s10.getD 1 undef)])] w41 λt77 w43=>aR 3 t7 λt78=>ldW false 1 t78 w43 λt79=>gO 9 1 [(str [])] [(0,1,(str [101]))] w43 λt80 w44=>fY P0 (Builtin.append_ #[33,33] 33 #[t79,t80]) w44 λt81 w45=>aR 3 t7 λt82=>stW 1 t82 t81 w45 λw46=>J42 [] w46) (J42 [] w41)) λs42 _ w47=>ldW false 1 (s10.getD 0 undef) w47.drew λt83=>ldW false 1 t11 w47.drew λt84=>pF t83 (some t84) none λt85=>ldW false 1 (s10.getD 1 undef) w47.drew λt86=>ldW false 1 t11 w47.drew λt87=>aS .add t86 t87 λt88=>stW 1 (s10.getD 0 undef) t85 w47.drew λw48=>(ldW false 1 t11 w48 λx=>x=t87)/\(ldW false 1 (s10.getD 1 undef) w48 λx=>x=t86)/\stW 1 (s10.getD 1 undef) t88 w48 λw49=>L20 [] w49) (ldW false 1 t2 w21 λt89=>ldW true 5 t7 w21 λt90=>aJ P0 158 [t89,t90] w21 λt91 w50=>K t91 w50))
theorem SP{K:Q0}(h:Zp v0 v1 w K):aJ P0 232 [v0,v1] w K:=
 tie _ 232 Tryz.f232 Pz _ w K 2 _ rfl mixed Tryz.func232 (by kernel_rfl) (by kernel_rfl) Tryz.call232 h
def Py:fD:={js:=[],ds:=[]}
def Zo(v0:Value)(w:World)(K:Q0):=aS .eql v0 (str [110,117,108,108]) λt5=>bB t5 (K (i64 1) w) (aS .eql v0 (str [116,114,117,101]) λt7=>bB t7 (K (i64 2) w) (aS .eql v0 (str [102,97,108,115,101]) λt9=>bB t9 (K (i64 3) w) (K (i64 9) w)))
theorem SO{K:Q0}(h:Zo v0 w K):aJ P0 233 [v0] w K:=
 tie _ 233 Tryz.f233 Py _ w K 1 _ rfl mixed Tryz.func233 (by kernel_rfl) (by kernel_rfl) Tryz.call233 h
def Px:fD:={js:=[],ds:=[]}
def Zn(v0 v1:Value)(w:World)(K:Q0):=ldW false 1 v0 w λt2=>eC t2 λt3=>aR 1 t3 λt4=>ldW false 1 t4 w λt5=>aS .add t5 (i64 1) λt6=>eC t2 λt7=>aR 1 t7 λt8=>stW 1 t8 t6 w λw1=>ldW false 1 v0 w1 λt9=>aJ P0 235 [t9,(str [41])] w1 λt10 w2=>aR 2 v1 λt11=>stW 1 t11 t10 w2 λw3=>K (.tuple #[]) w3
theorem SN{K:Q0}(h:Zn v0 v1 w K):aJ P0 234 [v0,v1] w K:=
 tie _ 234 Tryz.f234 Px _ w K 2 _ rfl mixed Tryz.func234 (by kernel_rfl) (by kernel_rfl) Tryz.call234 h
def Pw:fD:={js:=[(14,⟨[],[],6⟩),(6,⟨[5],[],2⟩)],ds:=[]}
def Zm(v0 v1:Value)(w:World)(K:Q0):=dL [sN] w λs1 _ w2 L1=>aJ P0 68 [v0,v1] w2 λt8 w3=>unW .not t8 λt9=>bB t9 (dE (λJ4=>fI (s1.getD 0 undef) λt11=>aS .gtr t11 (i64 0) λt12=>bB t12 (aJ P0 157 [v0,(str [44])] w3 λt14 w5=>aJ P0 68 [v0,v1] w5 λt17 w6=>bB t17 (K (s1.getD 0 undef) w6) (J4 [] w6)) (J4 [] w3)) λs4 _ w7=>aJ P0 118 [v0] w7 λt20 w8=>gO 3 1 [(i64 0)] [(0,1,t20)] w8 λt21 w9=>fY P0 (Builtin.append_ #[26,26] 26 #[(s1.getD 0 undef),t21]) w9 λt22 w10=>L1 [t22] w10) (K (s1.getD 0 undef) w3)
theorem SL{K:Q0}(h:Zm v0 v1 w K):aJ P0 235 [v0,v1] w K:=
 tie _ 235 Tryz.f235 Pw _ w K 2 _ rfl mixed Tryz.func235 (by kernel_rfl) (by kernel_rfl) Tryz.call235 h
def Pv:fD:={js:=[],ds:=[]}
def Zl(v0 v1:Value)(w:World)(K:Q0):=ldW false 1 v0 w λt2=>eC t2 λt3=>aR 1 t3 λt4=>ldW false 1 t4 w λt5=>aS .add t5 (i64 1) λt6=>eC t2 λt7=>aR 1 t7 λt8=>stW 1 t8 t6 w λw1=>ldW false 1 v0 w1 λt9=>aJ P0 118 [t9] w1 λt10 w2=>stW 1 v1 t10 w2 λw3=>ldW false 1 v0 w3 λt11=>aJ P0 157 [t11,(str [41])] w3 λt12 w4=>K (.tuple #[]) w4
theorem SK{K:Q0}(h:Zl v0 v1 w K):aJ P0 236 [v0,v1] w K:=
 tie _ 236 Tryz.f236 Pv _ w K 2 _ rfl mixed Tryz.func236 (by kernel_rfl) (by kernel_rfl) Tryz.call236 h
def Pu:fD:={js:=[],ds:=[]}
def Zk(v0 v1 v2:Value)(w:World)(K:Q0):=ldW false 1 v0 w λt3=>ldW true 3 v1 w λt4=>aJ P0 238 [t3,t4] w λt5 w1=>stW 5 v2 t5 w1 λw2=>K (.tuple #[]) w2
theorem SJ{K:Q0}(h:Zk v0 v1 v2 w K):aJ P0 237 [v0,v1,v2] w K:=
 tie _ 237 Tryz.f237 Pu _ w K 3 _ rfl mixed Tryz.func237 (by kernel_rfl) (by kernel_rfl) Tryz.call237 h
def Pt:fD:={js:=[(18,⟨[],[],7⟩),(16,⟨[6],[],5⟩),(8004,⟨[23],[],21⟩)],ds:=[(31,⟨[0,1,2,6],[[],[0],[],[2],[2,3],[0,1,2,3,4],[0,1,2,3,4,5],[0,1,2,3,4,5,6]]⟩),(27,⟨[0,1,2,6],[[],[0],[],[2],[2,3],[0,1,2,3,4],[0,1,2,3,4,5],[0,1,2,3,4,5,6]]⟩),(17,⟨[0,2,3,4,5],[[],[0],[0,1],[],[3],[0,1,2,3,4],[],[0,1,2,3,4,5,6]]⟩),(11,⟨[0,2,3,4],[[],[0],[],[2],[0,1,2,3],[0,1,2,3,4]]⟩)]}
def Zj(v0 v1:Value)(w:World)(K:Q0):=jF 95 v1 w λt3 w1=>dA 35 zL1 w1 λt4 w2=>eC v0 λt9=>aR 1 t9 λt10=>ldW false 1 t10 w2 λt11=>aS .add t11 (i64 1) λt12=>eC v0 λt13=>aR 1 t13 λt14=>stW 1 t14 t12 w2 λw3=>aJ P0 31 [v0] w3 λt16 w4=>dA 95 zL0 w4 λt5 w5=>stW 3 t5 t16 w5 λw6=>aR 0 t5 λt17=>ldW false 1 t17 w6 λt18=>aS .neq t18 (i64 1) λt19=>GdW (isB t19 false) [undef] w6 (λJ7=>aR 1 t5 λt21=>ldW false 1 t21 w6 λt22=>aS .neq t22 (str [102,111,114]) λt23=>J7 [t23] w6) λs7 _ w8=>cZ t19 (.bool true) (s7.getD 0 undef) λt24=>bB t24 (aR 2 t3 λt27=>ldW false 1 t27 w8.drew λt28=>aJ P0 235 [v0,(str [93])] w8.drew λt26 w9=>(ldW false 1 t27 w9 λx=>x=t28)/\jS [(i64 0),(str []),sN,sN,(i64 0)] [(0,1,(i64 7)),(2,1,t26),(4,1,t28)] λc10=>stW 5 t4 (.agg c10.toArray) w9 λw11=>ldW true 5 t4 w11 λr12=>K r12 w11) (eC v0 λt31=>aR 1 t31 λt32=>ldW false 1 t32 w8 λt33=>aS .add t33 (i64 1) λt34=>eC v0 λt35=>aR 1 t35 λt36=>stW 1 t36 t34 w8 λw13=>dE (λJ14=>aR 2 t3 λt40=>ldW false 1 t40 w13.drew λt41=>(aJ P0 62 [v0,(i64 1)] w13.drew λt38 w15=>(ldW false 1 t40 w15 λx=>x=t41)/\nS false 1 1 t38 λt39=>jS [(i64 0),(str []),sN,sN,(i64 0)] [(0,1,(i64 29)),(1,1,t39),(4,1,t41)] λc16=>dA 35 zL1 w15 λt6 w17=>(ldW false 1 t40 w17 λx=>x=t41)/\stW 5 t6 (.agg c16.toArray) w17 λw18=>J14 [t6] w18)/\(dA 35 zL1 w13.drew λt6 w19=>(ldW false 1 t40 w19 λx=>x=t41)/\aJ P0 62 [v0,(i64 1)] w19 λt38 w20=>(ldW false 1 t40 w20 λx=>x=t41)/\nS false 1 1 t38 λt39=>jS [(i64 0),(str []),sN,sN,(i64 0)] [(0,1,(i64 29)),(1,1,t39),(4,1,t41)] λc21=>stW 5 t6 (.agg c21.toArray) w20 λw22=>J14 [t6] w22)) λs14 _ w23=>dE (λJ24=>aJ P0 62 [v0,(i64 1)] w23 λt44 w25=>dA 95 zL0 w25 λt7 w26=>stW 3 t7 t44 w26 λw27=>aR 1 t7 λt45=>ldW false 1 t45 w27 λt46=>aS .neq t46 (str [105,110]) λt47=>bB t47 (aR 2 t7 λt48=>ldW false 1 t48 w27 λt49=>aJ P0 33 [(i64 50),t49] w27 λt50 w28=>J24 [] w28) (J24 [] w27)) λs24 _ w29=>aR 2 (s14.getD 0 undef) λt51=>ldW false 1 t51 w29.drew λt52=>aJ P0 118 [v0] w29.drew λt54 w30=>(ldW false 1 t51 w30 λx=>x=t52)/\gO 3 1 [(i64 0)] [(0,1,t54)] w30 λt55 w31=>(ldW false 1 t51 w31 λx=>x=t52)/\fY P0 (Builtin.append_ #[26,26] 26 #[t52,t55]) w31 λt56 w32=>aR 2 (s14.getD 0 undef) λt57=>stW 1 t57 t56 w32 λw33=>aJ P0 157 [v0,(str [58])] w33 λt59 w34=>aR 2 (s14.getD 0 undef) λt60=>ldW false 1 t60 w34.drew λt61=>aJ P0 118 [v0] w34.drew λt63 w35=>(ldW false 1 t60 w35 λx=>x=t61)/\gO 3 1 [(i64 0)] [(0,1,t63)] w35 λt64 w36=>(ldW false 1 t60 w36 λx=>x=t61)/\fY P0 (Builtin.append_ #[26,26] 26 #[t61,t64]) w36 λt65 w37=>aR 2 (s14.getD 0 undef) λt66=>stW 1 t66 t65 w37 λw38=>aJ P0 157 [v0,(str [93])] w38 λt68 w39=>ldW true 5 (s14.getD 0 undef) w39 λt69=>stW 5 t4 t69 w39 λw40=>ldW true 5 t4 w40 λr41=>K r41 w40)
theorem SI{K:Q0}(h:Zj v0 v1 w K):aJ P0 238 [v0,v1] w K:=
 tie _ 238 Tryz.f238 Pt _ w K 2 _ rfl mixed Tryz.func238 (by kernel_rfl) (by kernel_rfl) Tryz.call238 h
def Ps:fD:={js:=[],ds:=[]}
def Zi(v0 v1 v2:Value)(w:World)(K:Q0):=ldW false 1 v0 w λt3=>ldW true 3 v1 w λt4=>aJ P0 240 [t3,t4] w λt5 w1=>stW 5 v2 t5 w1 λw2=>K (.tuple #[]) w2
theorem SH{K:Q0}(h:Zi v0 v1 v2 w K):aJ P0 239 [v0,v1,v2] w K:=
 tie _ 239 Tryz.f239 Ps _ w K 3 _ rfl mixed Tryz.func239 (by kernel_rfl) (by kernel_rfl) Tryz.call239 h
def Pr:fD:={js:=[(43,⟨[],[],6⟩),(45005,⟨[74],[],71⟩),(45011,⟨[68],[],65⟩),(33,⟨[],[],7⟩),(20,⟨[],[],7⟩),(10,⟨[],[],6⟩)],ds:=[(42,⟨[0,1,2,3,6,7,8,12,14],[[],[0],[],[2],[2,3],[0,1,2,3,4],[],[6],[],[0,1,2,3,4,5,8],[0,1,2,3,4,5,8,9],[0,1,2,3,4,5,6,7,8,9,10],[0,1,2,3,4,5,6,7],[0,1,2,3,4,5,6,7,8,9,10,11,12],[0,1,2,3,4,5,6,7,8,9,10,11,12,13],[0,1,2,3,4,5,6,7,8,9,10,11,12,13,14]]⟩)]}
def Zh(v0 v1:Value)(w:World)(K:Q0):=jF 95 v1 w λt3 w1=>dA 35 zL1 w1 λt4 w2=>eC v0 λt8=>aR 1 t8 λt9=>ldW false 1 t9 w2 λt10=>aS .add t10 (i64 1) λt11=>eC v0 λt12=>aR 1 t12 λt13=>stW 1 t13 t11 w2 λw3=>aR 2 t3 λt14=>ldW false 1 t14 w3 λt15=>jS [(i64 0),(str []),sN,sN,(i64 0)] [(0,1,(i64 8)),(4,1,t15)] λc4=>dA 35 zL1 w3 λt5 w5=>stW 5 t5 (.agg c4.toArray) w5 λw6=>aJ P0 30 [v0] w6 λt18 w7=>dL [] w7 λs8 _ w9 L8=>aJ P0 68 [v0,(str [125])] w9 λt20 w10=>unW .not t20 λt21=>bB t21 (aJ P0 64 [v0] w10 λt23 w11=>dA 95 zL0 w11 λt6 w12=>stW 3 t6 t23 w12 λw13=>dE (λJ14=>aR 0 t6 λt24=>ldW false 1 t24 w13 λt25=>aS .eql t25 (i64 3) λt30=>bB t30 (ldW true 3 t6 w13 λt32=>aJ P0 63 [v0,t32] w13 λt33 w15=>aR 1 t6 λt34=>stW 1 t34 t33 w15 λw16=>J14 [] w16) (aS .eql t25 (i64 1) λt36=>bB t36 (J14 [] w13) (aR 2 t6 λt26=>ldW false 1 t26 w13 λt27=>aJ P0 33 [(i64 50),t27] w13 λt28 w17=>J14 [] w17))) λs14 _ w18=>dE (λJ19=>aR 3 t5 λt37=>ldW false 1 t37 w18 λt38=>aR 1 t6 λt39=>ldW false 1 t39 w18 λt40=>aJ P0 117 [t38,t40] w18 λt41 w20=>bB t41 (aR 2 t6 λt42=>ldW false 1 t42 w20 λt43=>aJ P0 33 [(i64 2),t43] w20 λt44 w21=>J19 [] w21) (J19 [] w20)) λs19 _ w22=>aJ P0 157 [v0,(str [61])] w22 λt46 w23=>aR 3 t5 λt47=>ldW false 1 t47 w23.drew λt48=>aR 1 t6 λt49=>ldW false 1 t49 w23.drew λt50=>aR 2 t5 λt53=>ldW false 1 t53 w23.drew λt54=>gO 9 1 [(str [])] [(0,1,t50)] w23.drew λt51 w24=>(ldW false 1 t53 w24 λx=>x=t54)/\(ldW false 1 t47 w24 λx=>x=t48)/\fY P0 (Builtin.append_ #[33,33] 33 #[t48,t51]) w24 λt52 w25=>(ldW false 1 t53 w25 λx=>x=t54)/\aR 3 t5 λt59=>aJ P0 118 [v0] w25 λt56 w26=>(ldW false 1 t53 w26 λx=>x=t54)/\gO 3 1 [(i64 0)] [(0,1,t56)] w26 λt57 w27=>(ldW false 1 t53 w27 λx=>x=t54)/\fY P0 (Builtin.append_ #[26,26] 26 #[t54,t57]) w27 λt58 w28=>stW 1 t59 t52 w28 λw29=>aR 2 t5 λt60=>stW 1 t60 t58 w29 λw30=>dE (λJ31=>aJ P0 68 [v0,(str [44])] w30 λt62 w32=>unW .not t62 λt63=>GdW (isB t63 true) [undef] w32 (λJ33=>aJ P0 31 [v0] w32 λt66 w34=>nS false 0 1 t66 λt67=>aS .neq t67 (i64 5) λt68=>J33 [t68] w34) λs33 _ w35=>cZ t63 (s33.getD 0 undef) (.bool false) λt69=>GdW (isB t69 true) [undef] w35 (λJ36=>gO 9 1 [(str [])] [(0,1,(str [125]))] w35 λt72 w37=>aJ P0 65 [v0,t72] w37 λt73 w38=>unW .not t73 λt74=>J36 [t74] w38) λs36 _ w39=>cZ t69 (s36.getD 0 undef) (.bool false) λt75=>bB t75 (aJ P0 31 [v0] w39 λt77 w40=>nS false 2 1 t77 λt78=>aJ P0 33 [(i64 50),t78] w40 λt79 w41=>J31 [] w41) (J31 [] w39)) λs31 _ w42=>aJ P0 30 [v0] w42 λt81 w43=>L8 [] w43) (ldW true 5 t5 w10 λt82=>stW 5 t4 t82 w10 λw44=>ldW true 5 t4 w44 λr45=>K r45 w44)
theorem SG{K:Q0}(h:Zh v0 v1 w K):aJ P0 240 [v0,v1] w K:=
 tie _ 240 Tryz.f240 Pr _ w K 2 _ rfl mixed Tryz.func240 (by kernel_rfl) (by kernel_rfl) Tryz.call240 h
def Pq:fD:={js:=[],ds:=[(0,⟨[0,1,2,3,4,5,6,7,8,9,10,11,12,16],[[],[0],[],[],[],[4],[],[6],[3,4,5,6,7],[],[],[9,10],[9,10,11],[2,3,4,5,6,7,8,9,10,11,12],[2,3,4,5,6,7,8,9,10,11,12,13],[0,1,2,3,4,5,6,7,8,9,10,11,12,13,14],[0,1,2,3,4,5,6,7,8,9,10,11,12,13,14,15],[0,1,2,3,4,5,6,7,8,9,10,11,12,13,14,15,16]]⟩)]}
def Zg(v0 v1 v2 v3 v4 v5:Value)(w:World)(K:Q0):=aR 2 v0 λt6=>ldW false 1 t6 w.drew λt7=>ldW false 1 v1 w.drew λt8=>ldW false 1 v2 w.drew λt9=>ldW false 1 v3 w.drew λt10=>aS .add t10 (i64 2) λt11=>ldW false 1 v4 w.drew λt12=>aS .sub t12 (i64 1) λt13=>pF t9 (some t11) (some t13) λt14=>ldW false 1 v5 w.drew λt15=>ldW false 1 v3 w.drew λt16=>aS .add t15 t16 λt17=>aS .add t17 (i64 2) λt18=>aJ P0 257 [t8,t14,t18] w.drew λt19 w1=>(ldW false 1 t6 w1 λx=>x=t7)/\gO 3 1 [(i64 0)] [(0,1,t19)] w1 λt20 w2=>(ldW false 1 t6 w2 λx=>x=t7)/\fY P0 (Builtin.append_ #[26,26] 26 #[t7,t20]) w2 λt21 w3=>aR 2 v0 λt22=>stW 1 t22 t21 w3 λw4=>K (.tuple #[]) w4
theorem SF{K:Q0}(h:Zg v0 v1 v2 v3 v4 v5 w K):aJ P0 256 [v0,v1,v2,v3,v4,v5] w K:=
 tie _ 256 Tryz.f256 Pq _ w K 6 _ rfl mixed Tryz.func256 (by kernel_rfl) (by kernel_rfl) Tryz.call256 h
def Pp:fD:={js:=[(4,⟨[],[],8⟩)],ds:=[(11,⟨[0,1,2,3,4,5,6,7,8,9,10,12],[[],[],[],[2],[2,3],[2,3,4],[],[6],[6,7],[6,7,8],[0,1,2,3,4,5,6,7,8,9],[0,1,2,3,4,5,6,7,8,9,10],[0,1,2,3,4,5,6,7,8,9,10,11]]⟩),(8,⟨[0,1,2,3,4,5,6,7,8,9],[[],[0],[0,1],[0,1,2],[],[],[5],[5,6],[5,6,7],[4,5,6,7,8],[0,1,2,3,4,5,6,7,8,9]]⟩)]}
def Zf(v0 v1 v2:Value)(w:World)(K:Q0):=aJ P0 28 [v1] w λt13 w1=>jQ 0 t13 λt14=>jQ 1 t13 λt15=>dE (λJ2=>eqW .ptr true t15 (.pointer none) λt17=>bB t17 (eC t15 λt19=>aR 0 t19 λt20=>ldW false 1 t20 w1.drew λt21=>eC t15 λt24=>aR 2 t24 λt25=>ldW false 1 t25 w1.drew λt26=>aS .add v2 t26 λt27=>aJ P0 33 [t21,t27] w1.drew λt28 w3=>J2 [] w3) (J2 [] w1)) λs2 _ w4=>eC v0 λt32=>aR 3 t32 λt33=>ldW false 1 t33 w4.drew λt34=>eC v0 λt36=>aR 4 t36 λt37=>ldW false 1 t37 w4.drew λt38=>jS [sN,(i64 0),(i64 0),(.pointer none),(i64 0),(.bool false)] [(0,1,t14),(2,1,v2),(3,1,t34),(4,1,t38)] λc5=>jF 92 (.agg c5.toArray) w4.drew λt40 w6=>aJ P0 118 [t40] w6 λt42 w7=>aJ P0 62 [t40,(i64 0)] w7 λt44 w8=>K t42 w8
theorem SE{K:Q0}(h:Zf v0 v1 v2 w K):aJ P0 257 [v0,v1,v2] w K:=
 tie _ 257 Tryz.f257 Pp _ w K 3 _ rfl mixed Tryz.func257 (by kernel_rfl) (by kernel_rfl) Tryz.call257 h
def QU:fD:={js:=[(28003,⟨[36],[],35⟩),(16,⟨[28],[2,5],28⟩),(6002,⟨[23],[],17⟩),(6004,⟨[22],[],21⟩),(6008,⟨[20],[],17⟩),(6013,⟨[14],[],12⟩)],ds:=[]}
def aAC(v0:Value)(w:World)(K:Q0):=aJ P0 148 [v0,(str [45])] w λt7 w1=>kA t7 λt9=>aS .lss t9 (i64 1) λt10=>GdW (isB t10 false) [undef] w1 (λJ2=>kA t7 λt13=>aS .gtr t13 (i64 100) λt14=>J2 [t14] w1) λs2 _ w3=>cZ t10 (.bool true) (s2.getD 0 undef) λt15=>GdW (isB t15 false) [undef] w3 (λJ4=>nU t7 (i64 0) λt18=>aS .eql t18 (.int .u8 48) λt19=>J4 [t19] w3) λs4 _ w5=>GdW (isB (s4.getD 0 undef) true) [undef] w5 (λJ6=>aS .neq v0 (str [48]) λt22=>J6 [t22] w5) λs6 _ w7=>GdW (isB t15 false) [undef] w7 (λJ8=>cZ (s4.getD 0 undef) (s6.getD 0 undef) (.bool false) λt23=>J8 [t23] w7) λs8 _ w9=>cZ t15 (.bool true) (s8.getD 0 undef) λt24=>bB t24 (K (.bool false) w9) (fY P0 (convert 9 80 t7) w9 λt26 w10=>fI t26 λt27=>dL [(i64 0)] w10 λs11 _ w12 L11=>aS .lss (s11.getD 0 undef) t27 λt29=>bB t29 (fK none 1 t26 (s11.getD 0 undef) λt30=>ldW false 1 t30 w12 λt31=>aS .lss t31 (.int .u8 48) λt33=>GdW (isB t33 false) [undef] w12 (λJ13=>aS .gtr t31 (.int .u8 57) λt36=>J13 [t36] w12) λs13 _ w14=>cZ t33 (.bool true) (s13.getD 0 undef) λt37=>bB t37 (K (.bool false) w14) (aS .add (s11.getD 0 undef) (i64 1) λt38=>L11 [t38] w14)) (K (.bool true) w12))
theorem Uq{K:Q0}(h:aAC v0 w K):aJ P0 111 [v0] w K:=
 tie _ 111 Tryz.f111 QU _ w K 1 _ rfl mixed Tryz.func111 (by kernel_rfl) (by kernel_rfl) Tryz.call111 h
def YD:fD:={js:=[(222006,⟨[232],[],229⟩),(202,⟨[213],[2,24],213⟩),(179,⟨[23],[2,23],193⟩),(165,⟨[192],[2,22,23],192⟩),(154007,⟨[180],[],175⟩),(139,⟨[10,160],[2,10,21],160⟩),(128005,⟨[154],[],151⟩),(128011,⟨[148],[],145⟩),(128016,⟨[142],[],140⟩),(114,⟨[10,122],[2,10,19],122⟩),(97,⟨[10,108],[10,17],108⟩),(80,⟨[10,94],[10,15],94⟩),(69005,⟨[88],[],85⟩),(55,⟨[10,71],[2,10,13],71⟩),(36,⟨[59],[2,8,9,10,11,13,15,17,19,21,22,23],59⟩),(27007,⟨[50],[],46⟩)],ds:=[(189,⟨[0,1,2,3,4,5,6,7,8],[[],[],[0,1],[0,1,2],[],[],[4,5],[4,5,6],[0,1,2,3,4,5,6,7]]⟩)]}
def W5(v0:Value)(w:World)(K:Q0):=jF 51 v0 w λt1 w1=>aJ P0 18 [] w1 λt25 w2=>unW .not t25 λt26=>bB t26 (K (.bool false) w2) (ldW true 2 t1 w2 λt28=>aJ P0 19 [t28] w2 λt29 w3=>jQ 0 t29 λt30=>jQ 1 t29 λt31=>dA 55 zL2 w3 λt4 w4=>stW 4 t4 t31 w4 λw5=>eqW .ptr false t30 (.pointer none) λt33=>bB t33 (K (.bool false) w5) (aJ P0 20 [t30,(str [])] w5 λt36 w6=>jQ 0 t36 λt37=>jQ 1 t36 λt38=>dA 60 [sN] w6 λt5 w7=>stW 1 t5 t37 w7 λw8=>eqW .ptr true t38 (.pointer none) λt40=>bB t40 (aR 0 t5 λt41=>ldW false 1 t41 w8 λt42=>fI t42 λt43=>aS .eql t43 (i64 0) λt44=>GdW (isB t44 true) [undef] w8 (λJ9=>eC t38 λt47=>aR 1 t47 λt48=>ldW false 1 t48 w8 λt49=>aS .neq t49 (str []) λt50=>J9 [t50] w8) λs9 _ w10=>cZ t44 (s9.getD 0 undef) (.bool false) λt51=>K t51 w10) (aR 0 t5 λt52=>ldW false 1 t52 w8 λt53=>fI t53 λt54=>fY P0 (Instr.makeSlice 26 t54 t54) w8 λt55 w11=>aR 0 t5 λt56=>ldW false 1 t56 w11 λt57=>fI t57 λt58=>dL [(i64 0)] w11 λs12 _ w13 L12=>aS .lss (s12.getD 0 undef) t58 λt60=>bB t60 (fK none 9 t57 (s12.getD 0 undef) λt62=>ldW true 9 t62 w13 λt63=>dA 67 [(str []),sN,sN,sN,sN,sN,sN,sN,sN] w13 λt9 w14=>stW 9 t9 t63 w14 λw15=>aR 1 t9 λt64=>aR 0 t64 λt65=>ldW false 1 t65 w15 λt66=>fI t66 λt67=>aR 4 t9 λt68=>ldW false 1 t68 w15 λt69=>fI t69 λt70=>dL [sN,(i64 0)] w15 λs16 _ w17 L16=>aS .lss (s16.getD 1 undef) t70 λt72=>bB t72 (fK none 3 t69 (s16.getD 1 undef) λt73=>ldW true 3 t73 w17 λt74=>dA 69 zL3 w17 λt13 w18=>stW 3 t13 t74 w18 λw19=>aR 0 t13 λt76=>ldW false 1 t76 w19 λt77=>aS .add (str [118,97,114,32]) t77 λt78=>gO 9 1 [(str [])] [(0,1,t78)] w19 λt79 w20=>fY P0 (Builtin.append_ #[33,33] 33 #[(s16.getD 0 undef),t79]) w20 λt80 w21=>aR 1 t13 λt81=>ldW false 1 t81 w21 λt82=>aS .lss t82 (.int .i64 (-1)) λt83=>GdW (isB t83 false) [undef] w21 (λJ22=>aR 1 t13 λt85=>ldW false 1 t85 w21 λt86=>aS .geq t86 t67 λt88=>J22 [t88] w21) λs22 _ w23=>cZ t83 (.bool true) (s22.getD 0 undef) λt89=>bB t89 (K (.bool false) w23) (aS .add (s16.getD 1 undef) (i64 1) λt90=>L16 [t80,t90] w23)) (aR 5 t9 λt91=>ldW false 1 t91 w17 λt92=>fI t92 λt93=>dL [(s16.getD 0 undef),(i64 0)] w17 λs24 _ w25 L24=>aS .lss (s24.getD 1 undef) t93 λt95=>bB t95 (fK none 3 t92 (s24.getD 1 undef) λt96=>ldW true 3 t96 w25 λt97=>dA 40 zL3 w25 λt15 w26=>stW 3 t15 t97 w26 λw27=>aR 0 t15 λt99=>ldW false 1 t99 w27 λt100=>aS .add (str [108,111,99,97,108,32]) t100 λt101=>gO 9 1 [(str [])] [(0,1,t101)] w27 λt102 w28=>fY P0 (Builtin.append_ #[33,33] 33 #[(s24.getD 0 undef),t102]) w28 λt103 w29=>aS .add (s24.getD 1 undef) (i64 1) λt104=>L24 [t103,t104] w29) (aR 6 t9 λt105=>ldW false 1 t105 w25 λt106=>fI t106 λt107=>dL [(s24.getD 0 undef),(i64 0)] w25 λs30 _ w31 L30=>aS .lss (s30.getD 1 undef) t107 λt109=>bB t109 (fK none 3 t106 (s30.getD 1 undef) λt110=>ldW true 3 t110 w31 λt111=>dA 40 zL3 w31 λt17 w32=>stW 3 t17 t111 w32 λw33=>aR 0 t17 λt113=>ldW false 1 t113 w33 λt114=>aS .add (str [111,117,116,112,117,116,32]) t114 λt115=>gO 9 1 [(str [])] [(0,1,t115)] w33 λt116 w34=>fY P0 (Builtin.append_ #[33,33] 33 #[(s30.getD 0 undef),t116]) w34 λt117 w35=>aS .add (s30.getD 1 undef) (i64 1) λt118=>L30 [t117,t118] w35) (aR 7 t9 λt119=>ldW false 1 t119 w31 λt120=>fI t120 λt121=>dL [(s30.getD 0 undef),(i64 0)] w31 λs36 _ w37 L36=>aS .lss (s36.getD 1 undef) t121 λt123=>bB t123 (fK none 9 t120 (s36.getD 1 undef) λt124=>ldW true 9 t124 w37 λt125=>dA 71 zL5 w37 λt19 w38=>stW 9 t19 t125 w38 λw39=>aR 0 t19 λt127=>ldW false 1 t127 w39 λt128=>aS .add t128 (str [32]) λt129=>aR 1 t19 λt130=>ldW false 1 t130 w39 λt131=>aS .add t129 t131 λt132=>aS .add t132 (str [32,114]) λt133=>gO 9 1 [(str [])] [(0,1,t133)] w39 λt134 w40=>fY P0 (Builtin.append_ #[33,33] 33 #[(s36.getD 0 undef),t134]) w40 λt135 w41=>aR 3 t19 λt136=>ldW false 1 t136 w41 λt137=>aS .geq t137 (i64 0) λt138=>GdW (isB t138 true) [undef] w41 (λJ42=>aR 4 t19 λt140=>ldW false 1 t140 w41 λt141=>aS .geq t141 (i64 0) λt142=>J42 [t142] w41) λs42 _ w43=>cZ t138 (s42.getD 0 undef) (.bool false) λt143=>GdW (isB t143 false) [undef] w43 (λJ44=>aR 3 t19 λt145=>ldW false 1 t145 w43 λt146=>aS .geq t146 t67 λt148=>J44 [t148] w43) λs44 _ w45=>cZ t143 (.bool true) (s44.getD 0 undef) λt149=>GdW (isB t149 false) [undef] w45 (λJ46=>aR 4 t19 λt151=>ldW false 1 t151 w45 λt152=>aS .geq t152 t67 λt154=>J46 [t154] w45) λs46 _ w47=>cZ t149 (.bool true) (s46.getD 0 undef) λt155=>bB t155 (K (.bool false) w47) (aS .add (s36.getD 1 undef) (i64 1) λt156=>L36 [t135,t156] w47)) (aR 8 t9 λt157=>ldW false 1 t157 w37 λt158=>fI t158 λt159=>dL [(s36.getD 0 undef),(i64 0)] w37 λs48 _ w49 L48=>aS .lss (s48.getD 1 undef) t159 λt161=>bB t161 (fK none 4 t158 (s48.getD 1 undef) λt162=>ldW true 4 t162 w49 λt163=>dA 73 zL6 w49 λt21 w50=>stW 4 t21 t163 w50 λw51=>aR 0 t21 λt165=>ldW false 1 t165 w51 λt166=>aS .add (str [109,111,100,117,108,101,32]) t166 λt167=>gO 9 1 [(str [])] [(0,1,t167)] w51 λt168 w52=>fY P0 (Builtin.append_ #[33,33] 33 #[(s48.getD 0 undef),t168]) w52 λt169 w53=>aR 1 t21 λt170=>ldW false 1 t170 w53 λt171=>aS .leq t171 (s12.getD 0 undef) λt173=>GdW (isB t173 false) [undef] w53 (λJ54=>aR 1 t21 λt175=>ldW false 1 t175 w53 λt176=>aR 0 t5 λt177=>ldW false 1 t177 w53 λt178=>fI t178 λt179=>aS .geq t176 t179 λt180=>J54 [t180] w53) λs54 _ w55=>cZ t173 (.bool true) (s54.getD 0 undef) λt181=>bB t181 (K (.bool false) w55) (aR 1 t21 λt183=>ldW false 1 t183 w55 λt184=>fK none 1 t55 t184 λt185=>ldW false 1 t185 w55 λt186=>aS .add t186 (i64 1) λt187=>fK none 1 t55 t184 λt188=>stW 1 t188 t187 w55 λw56=>aS .add (s48.getD 1 undef) (i64 1) λt189=>L48 [t169,t189] w56)) (fI (s48.getD 0 undef) λt191=>dL [(i64 0)] w49 λs57 _ w58 L57=>aS .lss (s57.getD 0 undef) t191 λt193=>bB t193 (dL [(i64 0)] w58 λs59 _ w60 L59=>aS .lss (s59.getD 0 undef) (s57.getD 0 undef) λt197=>bB t197 (fK none 1 (s48.getD 0 undef) (s57.getD 0 undef) λt202=>ldW false 1 t202 w60.drew λt203=>fK none 1 (s48.getD 0 undef) (s59.getD 0 undef) λt206=>ldW false 1 t206 w60.drew λt207=>aS .eql t203 t207 λt208=>bB t208 (K (.bool false) w60.drew) (aS .add (s59.getD 0 undef) (i64 1) λt199=>L59 [t199] w60.drew)) (aS .add (s57.getD 0 undef) (i64 1) λt209=>L57 [t209] w60)) (aS .add (s12.getD 0 undef) (i64 1) λt210=>L12 [t210] w58))))))) (fI t55 λt212=>dL [(i64 0)] w13 λs61 _ w62 L61=>aS .lss (s61.getD 0 undef) t212 λt214=>bB t214 (fK none 1 t55 (s61.getD 0 undef) λt218=>ldW false 1 t218 w62 λt219=>LB (s61.getD 0 undef) (i64 1) λt221=>aS .neq t219 t221 λt222=>bB t222 (K (.bool false) w62) (aS .add (s61.getD 0 undef) (i64 1) λt223=>L61 [t223] w62)) (aR 0 t5 λt224=>ldW false 1 t224 w62 λt225=>fI t225 λt226=>aS .geq t226 (i64 1) λt227=>GdW (isB t227 true) [undef] w62 (λJ63=>aR 0 t5 λt229=>ldW false 1 t229 w62 λt230=>fI t230 λt231=>aS .leq t231 (i64 16) λt232=>J63 [t232] w62) λs63 _ w64=>cZ t227 (s63.getD 0 undef) (.bool false) λt233=>K t233 w64)))))
theorem Ze{K:Q0}(h:W5 v0 w K):aJ P0 5 [v0] w K:=
 tie _ 5 Tryz.f5 YD _ w K 1 _ rfl mixed Tryz.func5 (by kernel_rfl) (by kernel_rfl) Tryz.call5 h
def YC:fD:={js:=[(41005,⟨[81],[],79⟩)],ds:=[(37,⟨[0,1,2,3,4,5,6,7,8,9,10,11,12,13,14,15,16,17,18,19,20,21,22,23,24,25,26,27,28,29,30,31,32,33,34,35],[[],[0],[0,1],[0,1,2],[0,1,2,3],[0,1,2,3,4],[0,1,2,3,4,5],[0,1,2],[0,1,2,7],[0,1,2,7,8],[0,1,2,7,8,9],[0,1,2,3,4,5,6,7,8,9,10],[0,1,2,3,4,5,6,7,8,9,10,11],[0,1,2,3,4,5,6,7,8,9,10,11,12],[0,1,2,3,4,5,6,7,8,9,10,11,12,13],[0,1,2,3,4,5,6,7,8,9,10,11,12,13,14],[0,1,2,3,4,5,6,7,8,9,10,11,12,13,14,15],[0,1,2,3,4,5,6,7,8,9,10,11,12,13,14,15,16],[0,1,2,3,4,5,6,7,8,9,10,11,12,13],[0,1,2,3,4,5,6,7,8,9,10,11,12,13,18],[0,1,2,3,4,5,6,7,8,9,10,11,12,13,18,19],[0,1,2,3,4,5,6,7,8,9,10,11,12,13,18,19,20],[0,1,2,3,4,5,6,7,8,9,10,11,12,13,14,15,16,17,18,19,20,21],[0,1,2,3,4,5,6,7,8,9,10,11,12,13,14,15,16,17,18,19,20,21,22],[0,1,2,3,4,5,6,7,8,9,10,11,12,13,14,15,16,17,18,19,20,21,22,23],[0,1,2,3,4,5,6,7,8,9,10,11,12,13,14,15,16,17,18,19,20,21,22,23,24],[0,1,2,3,4,5,6,7,8,9,10,11,12,13,14,15,16,17,18,19,20,21,22,23,24,25],[0,1,2,3,4,5,6,7,8,9,10,11,12,13,14,15,16,17,18,19,20,21,22,23,24,25,26],[0,1,2,3,4,5,6,7,8,9,10,11,12,13,14,15,16,17,18,19,20,21,22,23,24,25,26,27],[0,1,2,3,4,5,6,7,8,9,10,11,12,13,14,15,16,17,18,19,20,21,22,23,24],[0,1,2,3,4,5,6,7,8,9,10,11,12,13,14,15,16,17,18,19,20,21,22,23,24,29],[0,1,2,3,4,5,6,7,8,9,10,11,12,13,14,15,16,17,18,19,20,21,22,23,24,29,30],[0,1,2,3,4,5,6,7,8,9,10,11,12,13,14,15,16,17,18,19,20,21,22,23,24,29,30,31],[0,1,2,3,4,5,6,7,8,9,10,11,12,13,14,15,16,17,18,19,20,21,22,23,24,25,26,27,28,29,30,31,32],[0,1,2,3,4,5,6,7,8,9,10,11,12,13,14,15,16,17,18,19,20,21,22,23,24,25,26,27,28,29,30,31,32,33],[0,1,2,3,4,5,6,7,8,9,10,11,12,13,14,15,16,17,18,19,20,21,22,23,24,25,26,27,28,29,30,31,32,33,34]]⟩)]}
def W8(v0 v1:Value)(w:World)(K:Q0):=jF 51 v0 w λt2 w1=>aJ P0 18 [] w1 λt11 w2=>unW .not t11 λt12=>bB t12 (K (.bool false) w2) (ldW true 2 t2 w2 λt14=>aJ P0 19 [t14] w2 λt15 w3=>jQ 0 t15 λt16=>jQ 1 t15 λt17=>dA 55 zL2 w3 λt6 w4=>stW 4 t6 t17 w4 λw5=>eqW .ptr false t16 (.pointer none) λt19=>bB t19 (K (.bool false) w5) (aJ P0 20 [t16,(str [])] w5 λt22 w6=>jQ 0 t22 λt23=>jQ 1 t22 λt24=>dA 60 [sN] w6 λt7 w7=>stW 1 t7 t23 w7 λw8=>kA v1 λt28=>LB t28 (i64 1000) λt29=>pF v1 none (some t29) λt30=>fY P0 (convert 9 80 t30) w8 λt31 w9=>aJ P0 23 [t16,(str [120,45,57,47,45,47,109,97,105,110,46,104,99,108]),t31] w9 λt32 w10=>aS .neq t32 (i64 0) λt33=>bB t33 (K (.bool false) w10) (aJ P0 20 [t16,(str [])] w10 λt36 w11=>jQ 0 t36 λt37=>jQ 1 t36 λt38=>dA 60 [sN] w11 λt9 w12=>stW 1 t9 t37 w12 λw13=>eqW .ptr true t24 (.pointer none) λt40=>bB t40 (eqW .ptr true t38 (.pointer none) λt42=>GqW (isB t42 true) (λk14=>k14 t24) λt44=>GqW (isB t42 true) (λk15=>eC t44 k15) λt45=>GqW (isB t42 true) (λk16=>aR 0 t45 k16) λt46=>GqW (isB t42 true) (λk17=>ldW false 1 t46 w13.drew k17) λt47=>GqW (isB t42 true) (λk18=>k18 t38) λt48=>GqW (isB t42 true) (λk19=>eC t48 k19) λt49=>GqW (isB t42 true) (λk20=>aR 0 t49 k20) λt50=>GqW (isB t42 true) (λk21=>ldW false 1 t50 w13.drew k21) λt51=>GqW (isB t42 true) (λk22=>aS .eql t47 t51 k22) λt52=>cZ t42 t52 (.bool false) λt53=>GqW (isB t53 true) (λk23=>k23 t24) λt55=>GqW (isB t53 true) (λk24=>eC t55 k24) λt56=>GqW (isB t53 true) (λk25=>aR 1 t56 k25) λt57=>GqW (isB t53 true) (λk26=>ldW false 1 t57 w13.drew k26) λt58=>GqW (isB t53 true) (λk27=>k27 t38) λt59=>GqW (isB t53 true) (λk28=>eC t59 k28) λt60=>GqW (isB t53 true) (λk29=>aR 1 t60 k29) λt61=>GqW (isB t53 true) (λk30=>ldW false 1 t61 w13.drew k30) λt62=>GqW (isB t53 true) (λk31=>aS .eql t58 t62 k31) λt63=>cZ t53 t63 (.bool false) λt64=>GqW (isB t64 true) (λk32=>k32 t24) λt66=>GqW (isB t64 true) (λk33=>eC t66 k33) λt67=>GqW (isB t64 true) (λk34=>aR 2 t67 k34) λt68=>GqW (isB t64 true) (λk35=>ldW false 1 t68 w13.drew k35) λt69=>GqW (isB t64 true) (λk36=>k36 t38) λt70=>GqW (isB t64 true) (λk37=>eC t70 k37) λt71=>GqW (isB t64 true) (λk38=>aR 2 t71 k38) λt72=>GqW (isB t64 true) (λk39=>ldW false 1 t72 w13.drew k39) λt73=>GqW (isB t64 true) (λk40=>aS .eql t69 t73 k40) λt74=>cZ t64 t74 (.bool false) λt75=>K t75 w13.drew) (eqW .ptr false t38 (.pointer none) λt77=>GdW (isB t77 true) [undef] w13 (λJ41=>ldW true 1 t7 w13 λt79=>ldW true 1 t9 w13 λt80=>aJ P0 24 [t79,t80] w13 λt81 w42=>J41 [t81] w42) λs41 _ w43=>cZ t77 (s41.getD 0 undef) (.bool false) λt82=>K t82 w43))))
theorem Zd{K:Q0}(h:W8 v0 v1 w K):aJ P0 8 [v0,v1] w K:=
 tie _ 8 Tryz.f8 YC _ w K 2 _ rfl mixed Tryz.func8 (by kernel_rfl) (by kernel_rfl) Tryz.call8 h
def Wp:fD:={js:=[(19004,⟨[58],[],57⟩),(19015,⟨[54],[],46⟩),(19024,⟨[43],[],37⟩),(19030,⟨[34],[],31⟩)],ds:=[]}
def W18(w:World)(K:Q0):=gO 9 2 [(str []),(str [])] [(0,1,(str [109,97,105,110,46,104,99,108])),(1,1,(str [110,101,116,47,109,97,105,110,46,104,99,108]))] w λt8 w1=>gO 9 2 [(str []),(str [])] [(0,1,(str [118,97,114,105,97,98,108,101,32,34,97,34,32,123,125,10,109,111,100,117,108,101,32,34,109,34,32,123,10,32,115,111,117,114,99,101,32,61,32,34,110,101,116,34,10,32,120,32,61,32,49,10,125,10])),(1,1,(str [118,97,114,105,97,98,108,101,32,34,120,34,32,123,125]))] w1 λt9 w2=>jS [sN,sN] [(0,1,t8),(1,1,t9)] λc3=>aJ P0 19 [(.agg c3.toArray)] w2 λt11 w4=>jQ 0 t11 λt12=>jQ 1 t11 λt13=>dA 55 zL2 w4 λt2 w5=>stW 4 t2 t13 w5 λw6=>eqW .ptr false t12 (.pointer none) λt15=>bB t15 (K (.bool false) w6) (aJ P0 20 [t12,(str [])] w6 λt18 w7=>jQ 0 t18 λt19=>jQ 1 t18 λt20=>dA 60 [sN] w7 λt3 w8=>stW 1 t3 t19 w8 λw9=>aJ P0 46 [t12,(str [110,101,116,47,109,97,105,110,46,104,99,108])] w9 λt22 w10=>aJ P0 20 [t12,(str [])] w10 λt25 w11=>jQ 0 t25 λt26=>jQ 1 t25 λt27=>dA 60 [sN] w11 λt5 w12=>stW 1 t5 t26 w12 λw13=>eqW .ptr false t20 (.pointer none) λt29=>GdW (isB t29 true) [undef] w13 (λJ14=>aR 0 t3 λt31=>ldW false 1 t31 w13 λt32=>fI t32 λt33=>aS .eql t33 (i64 2) λt34=>J14 [t34] w13) λs14 _ w15=>cZ t29 (s14.getD 0 undef) (.bool false) λt35=>GdW (isB t35 true) [undef] w15 (λJ16=>aR 0 t3 λt37=>ldW false 1 t37 w15 λt38=>fK none 9 t38 (i64 0) λt39=>aR 8 t39 λt40=>ldW false 1 t40 w15 λt41=>fI t41 λt42=>aS .eql t42 (i64 1) λt43=>J16 [t43] w15) λs16 _ w17=>cZ t35 (s16.getD 0 undef) (.bool false) λt44=>GdW (isB t44 true) [undef] w17 (λJ18=>aR 0 t3 λt46=>ldW false 1 t46 w17 λt47=>fK none 9 t47 (i64 0) λt48=>aR 8 t48 λt49=>ldW false 1 t49 w17 λt50=>fK none 4 t50 (i64 0) λt51=>aR 1 t51 λt52=>ldW false 1 t52 w17 λt53=>aS .eql t53 (i64 1) λt54=>J18 [t54] w17) λs18 _ w19=>cZ t44 (s18.getD 0 undef) (.bool false) λt55=>GdW (isB t55 true) [undef] w19 (λJ20=>aJ P0 21 [t27,(i64 111),(str [110,101,116,47,109,97,105,110,46,104,99,108]),(i64 0)] w19 λt58 w21=>J20 [t58] w21) λs20 _ w22=>cZ t55 (s20.getD 0 undef) (.bool false) λt59=>K t59 w22)
theorem Yb{K:Q0}(h:W18 w K):aJ P0 18 [] w K:=
 tie _ 18 Tryz.f18 Wp _ w K 0 _ rfl mixed Tryz.func18 (by kernel_rfl) (by kernel_rfl) Tryz.call18 h
def Wo:fD:={js:=[(11003,⟨[28],[],27⟩),(11007,⟨[24],[],23⟩),(11014,⟨[20],[],16⟩),(8,⟨[6],[],6⟩)],ds:=[(24,⟨[0,1,2],[[],[],[0],[0,1,2]]⟩),(21,⟨[0,1,2,3,4,5,6,8,9,10],[[],[],[1],[],[1,2,3],[1,2,3,4],[],[0,1,2,3,4,5,6],[0,1,2,3,4,5,6,7],[0,1,2,3,4,5,6,7,8],[0,1,2,3,4,5,6,7,8],[0,1,2,3,4,5,6,7,8,9]]⟩),(18,⟨[0,1,2,3,4,5,6,7,8,9,10,11,12,13],[[],[0],[],[0,1,2],[0,1,2,3],[],[5],[],[5,6,7],[5,6,7,8],[5,6,7,8,9],[5,6,7,8,9,10],[0,1,2,3,4,5,6,7,8,9,10,11],[0,1,2,3,4,5,6,7,8,9,10,11,12]]⟩)]}
def W19(v0:Value)(w:World)(K:Q0):=jF 51 v0 w λt1 w1=>dA 55 zL2 w1 λt3 w2=>aJ P0 47 [] w2 λt8 w3=>aJ P0 48 [] w3 λt9 w4=>dA 55 zL2 w4 λt5 w5=>stW 4 t5 t9 w5 λw6=>dL [(i64 0)] w6 λs7 _ w8 L7=>aR 0 t1 λt11=>ldW false 1 t11 w8 λt12=>fI t12 λt13=>aS .lss (s7.getD 0 undef) t13 λt14=>GdW (isB t14 true) [undef] w8 (λJ9=>aR 1 t1 λt17=>ldW false 1 t17 w8 λt18=>fI t18 λt19=>aS .lss (s7.getD 0 undef) t19 λt20=>J9 [t20] w8) λs9 _ w10=>cZ t14 (s9.getD 0 undef) (.bool false) λt21=>GdW (isB t21 true) [undef] w10 (λJ11=>aS .lss (s7.getD 0 undef) (i64 20) λt24=>J11 [t24] w10) λs11 _ w12=>cZ t21 (s11.getD 0 undef) (.bool false) λt25=>GdW (isB t25 true) [undef] w12 (λJ13=>eqW .ptr true t8 (.pointer none) λt28=>J13 [t28] w12) λs13 _ w14=>cZ t25 (s13.getD 0 undef) (.bool false) λt29=>bB t29 (aR 1 t1 λt32=>ldW false 1 t32 w14.drew λt33=>fK none 1 t33 (s7.getD 0 undef) λt35=>ldW false 1 t35 w14.drew λt36=>aR 1 t1 λt37=>ldW false 1 t37 w14.drew λt38=>fK none 1 t38 (s7.getD 0 undef) λt40=>ldW false 1 t40 w14.drew λt41=>kA t41 λt42=>LB t42 (i64 6000) λt43=>pF t36 none (some t43) λt44=>aR 0 t1 λt46=>ldW false 1 t46 w14.drew λt47=>fK none 1 t47 (s7.getD 0 undef) λt49=>ldW false 1 t49 w14.drew λt50=>fY P0 (convert 9 80 t44) w14.drew λt52 w15=>aJ P0 23 [t8,t50,t52] w15 λt53 w16=>ldW true 4 t5 w16.drew λt55=>aR 0 t1 λt56=>ldW false 1 t56 w16.drew λt57=>fK none 1 t57 (s7.getD 0 undef) λt59=>ldW false 1 t59 w16.drew λt60=>aJ P0 49 [t55,t60,t44,(.bool false)] w16.drew λt62 w17=>jQ 0 t62 λt63=>jQ 1 t62 λt64=>stW 4 t5 t63 w17 λw18=>aS .add (s7.getD 0 undef) (i64 1) λt31=>L7 [t31] w18) (ldW true 4 t5 w14.drew λt66=>stW 4 t3 t66 w14.drew λw19=>ldW true 4 t3 w19 λr20=>K (.tuple #[t8,r20]) w19)
theorem Ya{K:Q0}(h:W19 v0 w K):aJ P0 19 [v0] w K:=
 tie _ 19 Tryz.f19 Wo _ w K 1 _ rfl mixed Tryz.func19 (by kernel_rfl) (by kernel_rfl) Tryz.call19 h
def Jc:fD:={js:=[],ds:=[]}
def W20(v0 v1:Value)(w:World)(K:Q0):=
 dA 60 [sN] w λt4 w1=>
 dA 29 [(.pointer none)] w1 λt5 w2=>
 letI:HX:=⟨λch x3=>wX P0 50 [t4,t5] (.panicking ch) x3 λw3=>
 ldW true 1 t4 w3 λr4=>
 ldW false 1 t5 w3 λr5=>
 K (.tuple #[r4,r5]) w3⟩
 jS [(.pointer none),sN] [(0,1,v0)] λc6=>
 jF 124 (.agg c6.toArray) w2 λt10 w7=>
 aJ P0 52 [v1] w7 λt13 w8=>
 aJ P0 51 [t10,t13,(i64 0)] w8 λt14 w9=>
 eC t10 λt16=>
 aR 1 t16 λt17=>
 ldW false 1 t17 w9 λt18=>
 jS [sN] [(0,1,t18)] λc10=>
 stW 1 t4 (.agg c10.toArray) w9 λw11=>
 stW 1 t5 (.pointer none) w11 λw12=>
 wX P0 50 [t4,t5] .returning w12 λw13=>
 ldW true 1 t4 w13 λr14=>
 ldW false 1 t5 w13 λr15=>
 K (.tuple #[r14,r15]) w13
theorem XZ(v0 v1:Value)(w:World)(K:Q0):NZ P0 Tryz.f20 Jc 1 [v0,v1] w (Er K)=W20 v0 v1 w K:=by kernel_rfl
theorem SZ:AZ P0 Tryz.f20 Jc 6 50 1 2=true:=by kernel_rfl
theorem XY{K:Q0}(h:W20 v0 v1 w K):aJ P0 20 [v0,v1] w K:=
 Ys P0 20 Tryz.f20 Jc [v0,v1] w K 6 50 1 2 (W20 v0 v1 w K) rfl mixed Tryz.func20 SZ (XZ v0 v1 w K) Tryz.call20 Tryz.call50 h
def Wn:fD:={js:=[(11008,⟨[37],[],32⟩),(11016,⟨[29],[],24⟩),(11024,⟨[21],[],16⟩)],ds:=[]}
def W21(v0 v1 v2 v3:Value)(w:World)(K:Q0):=aS .eql v1 (i64 0) λt10=>bB t10 (eqW .ptr false v0 (.pointer none) λt12=>K t12 w) (eqW .ptr true v0 (.pointer none) λt14=>GdW (isB t14 true) [undef] w (λJ1=>eC v0 λt17=>aR 0 t17 λt18=>ldW false 1 t18 w λt19=>aS .eql t19 v1 λt21=>J1 [t21] w) λs1 _ w2=>cZ t14 (s1.getD 0 undef) (.bool false) λt22=>GdW (isB t22 true) [undef] w2 (λJ3=>eC v0 λt25=>aR 1 t25 λt26=>ldW false 1 t26 w2 λt27=>aS .eql t27 v2 λt29=>J3 [t29] w2) λs3 _ w4=>cZ t22 (s3.getD 0 undef) (.bool false) λt30=>GdW (isB t30 true) [undef] w4 (λJ5=>eC v0 λt33=>aR 2 t33 λt34=>ldW false 1 t34 w4 λt35=>aS .eql t35 v3 λt37=>J5 [t37] w4) λs5 _ w6=>cZ t30 (s5.getD 0 undef) (.bool false) λt38=>K t38 w6)
theorem XX{K:Q0}(h:W21 v0 v1 v2 v3 w K):aJ P0 21 [v0,v1,v2,v3] w K:=
 tie _ 21 Tryz.f21 Wn _ w K 4 _ rfl mixed Tryz.func21 (by kernel_rfl) (by kernel_rfl) Tryz.call21 h
def Wm:fD:={js:=[],ds:=[(33,⟨[0,1,2,3,4,5],[[],[0],[0,1],[0,1,2],[],[],[0,1,2,3,4,5]]⟩)]}
def W23(v0 v1 v2:Value)(w:World)(K:Q0):=aJ P0 54 [v1] w λt10 w1=>unW .not t10 λt11=>bB t11 (K (i64 6) w1) (aJ P0 55 [v0,v1,v2] w1 λt15 w2=>unW .not t15 λt16=>bB t16 (K (i64 3) w2) (aJ P0 56 [v0] w2 λt18 w3=>aS .neq t18 (i64 0) λt20=>bB t20 (K t18 w3) (eC v0 λt23=>aR 0 t23 λt24=>ldW false 1 t24 w3 λt25=>pV P0 (Instr.lookup 131 t25 v1 false) w3 λt27=>dA 130 [sN,sN,(i64 0)] w3 λt8 w4=>stW 3 t8 t27 w4 λw5=>aJ P0 57 [v2] w5 λt29 w6=>aR 0 t8 λt30=>stW 1 t30 t29 w6 λw7=>eC v0 λt32=>aR 0 t32 λt33=>ldW false 1 t33 w7.drew λt34=>ldW true 3 t8 w7.drew λt36=>CQ P0 (Instr.mapUpdate 131 t34 v1 t36) w7.drew λw8=>K (i64 0) w8)))
theorem XW{K:Q0}(h:W23 v0 v1 v2 w K):aJ P0 23 [v0,v1,v2] w K:=
 tie _ 23 Tryz.f23 Wm _ w K 3 _ rfl mixed Tryz.func23 (by kernel_rfl) (by kernel_rfl) Tryz.call23 h
def Wc:fD:={js:=[],ds:=[]}
def W46(v0 v1:Value)(w:World)(K:Q0):=eC v0 λt10=>aR 0 t10 λt11=>ldW false 1 t11 w λt12=>pV P0 (Instr.lookup 131 t12 v1 true) w λt14=>jQ 0 t14 λt15=>jQ 1 t14 λt16=>dA 130 [sN,sN,(i64 0)] w λt5 w1=>stW 3 t5 t15 w1 λw2=>aJ P0 54 [v1] w2 λt19 w3=>unW .not t19 λt20=>bB t20 (K (i64 6) w3) (unW .not t16 λt23=>bB t23 (K (i64 4) w3) (aJ P0 56 [v0] w3 λt25 w4=>aS .neq t25 (i64 0) λt27=>bB t27 (K t25 w4) (eC v0 λt30=>aR 0 t30 λt31=>ldW false 1 t31 w4 λt32=>fY P0 (Builtin.delete_ #[131,9] 0 #[t32,v1]) w4 λ_ w5=>K (i64 0) w5)))
theorem XN{K:Q0}(h:W46 v0 v1 w K):aJ P0 46 [v0,v1] w K:=
 tie _ 46 Tryz.f46 Wc _ w K 2 _ rfl mixed Tryz.func46 (by kernel_rfl) (by kernel_rfl) Tryz.call46 h
def Wb:fD:={js:=[],ds:=[]}
def W47(w:World)(K:Q0):=fY P0 (Instr.makeMap 131 none) w λt1 w1=>jS [(.map none),(i64 0),(i64 0),(.bool false)] [(0,1,t1),(2,1,(.int .i64 (-1)))] λc2=>jF 133 (.agg c2.toArray) w1 λt3 w3=>K t3 w3
theorem XM{K:Q0}(h:W47 w K):aJ P0 47 [] w K:=
 tie _ 47 Tryz.f47 Wb _ w K 0 _ rfl mixed Tryz.func47 (by kernel_rfl) (by kernel_rfl) Tryz.call47 h
def Ng:fD:={js:=[],ds:=[(5,⟨[0,1,2],[[],[],[1],[0],[0,1,2,3]]⟩)]}
def R50(v0 v1:Value)(x:Value)(w:World)(K:World->Prop):Prop:=
 letI:HX:=noX
 eqQ P0 .neq 20 false true x .nilIface w λt5=>
 bB t5 (
 jS [sN] [] λc1=>
 pV P0 (Instr.typeAssert x 20 29 false) w.drew λt8=>
 stW 1 v0 (.agg c1.toArray) w.drew λw2=>
 (pV P0 (Instr.typeAssert x 20 29 false) w2 λx=>x=t8)/\
 stW 1 v1 t8 w2 λw3=>
 K w3) (
 K w)
theorem Yg(v0 v1:Value)(x:Value)(w:World)(K:World->Prop):RU P0 Tryz.f50 Ng [v0,v1] x w K=R50 v0 v1 x w K:=by kernel_rfl
theorem Uy:CB P0 Tryz.f50 Ng 2=true:=by kernel_rfl
theorem OG{v0 v1:Value}{x:Value}{u:FrameMode}{K:World->Prop}(hu:Finds u x)(h:R50 v0 v1 x w K):wX P0 50 [v0,v1] u w K:=
 Dy (args:=[v0,v1]) mixed Tryz.func50 Uy hu (by rw[Yg];exact h)
def VY:fD:={js:=[(103,⟨[],[21],181⟩),(108008,⟨[194],[],188⟩),(96,⟨[180],[21],180⟩),(83,⟨[],[19],166⟩),(76,⟨[165],[19],165⟩),(62,⟨[],[],107⟩),(64007,⟨[124],[],119⟩),(49,⟨[106],[15,16,17,19,21],106⟩),(28,⟨[73],[13],73⟩),(16,⟨[],[],11⟩),(8,⟨[],[],9⟩)],ds:=[(115,⟨[0,1,2,3,4,5,6,7,8,9],[[],[0],[0,1],[0,1,2],[],[],[5],[5,6],[5,6,7],[0,1,2,3,4,5,6,7,8],[0,1,2,3,4,5,6,7,8,9]]⟩),(71,⟨[0,1,2,3,4,5,6,7,8,9,10,11],[[],[0],[0,1],[0,1,2],[],[4],[4,5],[4,5,6],[0,1,2,3,4,5,6,7],[0,1,2,3,4,5,6,7,8],[0,1,2,3,4,5,6,7,8,9],[0,1,2,3,4,5,6,7,8,9,10]]⟩),(20,⟨[0,1,2,3,4,5,6,7,8],[[],[],[1],[1,2],[1,2,3],[],[5],[5,6],[5,6,7],[0,1,2,3,4,5,6,7,8]]⟩),(7,⟨[0,1,2,3,4,5,6,7,9,10,11,12,13],[[],[0],[0,1],[0,1,2],[],[4],[4,5],[4,5,6],[0,1,2,3,4,5,6,7],[0,1,2,3,4,5,6,7,8],[0,1,2,3,4,5,6,7,8,9],[0,1,2,3,4,5,6,7,8,9],[0,1,2,3,4,5,6,7,8,9,10],[0,1,2,3,4,5,6,7,8,9,10,11,12]]⟩)]}
def W51(v0 v1 v2:Value)(w:World)(K:Q0):=aS .add v1 (str [109,97,105,110,46,104,99,108]) λt23=>jS [(str []),sN,sN,sN,sN,sN,sN,sN,sN,(str []),sN] [(9,1,t23)] λc1=>jF 177 (.agg c1.toArray) w λt25 w2=>eC t25 λt28=>aR 0 t28 λt29=>aR 0 t29 λt30=>stW 1 t30 v1 w2 λw3=>eC v0 λt33=>aR 0 t33 λt34=>ldW false 1 t34 w3.drew λt35=>eC t25 λt37=>aR 9 t37 λt38=>ldW false 1 t38 w3.drew λt39=>aJ P0 93 [t35,t39] w3.drew λt40 w4=>jQ 0 t40 λt41=>jQ 1 t40 λt42=>dE (λJ5=>unW .not t42 λt44=>bB t44 (aJ P0 94 [t25,(i64 111),(i64 0)] w4 λt46 w6=>J5 [] w6) (J5 [] w4)) λs5 _ w7=>pV P0 (convert 80 9 t41) w7 λt49=>aJ P0 12 [t49] w7 λt50 w8=>jQ 0 t50 λt51=>jQ 1 t50 λt52=>dA 28 [sN,sN,sN] w8 λt10 w9=>stW 3 t10 t51 w9 λw10=>dE (λJ11=>eqW .ptr true t52 (.pointer none) λt54=>bB t54 (eC t52 λt57=>aR 0 t57 λt58=>ldW false 1 t58 w10.drew λt59=>eC t52 λt61=>aR 2 t61 λt62=>ldW false 1 t62 w10.drew λt63=>aJ P0 94 [t25,t59,t63] w10.drew λt64 w12=>J11 [] w12) (J11 [] w10)) λs11 _ w13=>ldW true 3 t10 w13 λt66=>eC t25 λt67=>aR 0 t67 λt68=>aR 1 t68 λt69=>stW 3 t69 t66 w13 λw14=>aR 2 t10 λt70=>ldW false 1 t70 w14 λt71=>fI t71 λt72=>dL [(i64 0)] w14 λs15 _ w16 L15=>aS .lss (s15.getD 0 undef) t72 λt74=>bB t74 (fK none 1 t71 (s15.getD 0 undef) λt75=>ldW false 1 t75 w16 λt76=>aR 1 t10 λt78=>ldW false 1 t78 w16 λt79=>fK none 5 t79 t76 λt81=>ldW true 5 t81 w16 λt82=>aJ P0 95 [t25,t82] w16 λt83 w17=>aS .add (s15.getD 0 undef) (i64 1) λt84=>L15 [t84] w17) (eC v0 λt86=>aR 1 t86 λt87=>ldW false 1 t87 w16 λt88=>fI t88 λt89=>eC v0 λt92=>aR 1 t92 λt93=>ldW false 1 t93 w16 λt94=>jS [(str []),sN,sN,sN,sN,sN,sN,sN,sN] [] λc18=>gO 67 1 [(str []),sN,sN,sN,sN,sN,sN,sN,sN] [(0,9,(.agg c18.toArray))] w16 λt96 w19=>fY P0 (Builtin.append_ #[58,58] 58 #[t94,t96]) w19 λt97 w20=>eC v0 λt98=>aR 1 t98 λt99=>stW 1 t99 t97 w20 λw21=>eC t25 λt101=>aR 0 t101 λt102=>aR 8 t102 λt103=>ldW false 1 t103 w21 λt104=>fI t104 λt105=>dL [(i64 0)] w21 λs22 _ w23 L22=>aS .lss (s22.getD 0 undef) t105 λt107=>bB t107 (eC t25 λt110=>aR 0 t110 λt111=>aR 8 t111 λt112=>ldW false 1 t112 w23 λt113=>fK none 4 t113 (s22.getD 0 undef) λt115=>dE (λJ24=>aS .eql v2 (i64 4) λt117=>GdW (isB t117 false) [undef] w23 (λJ25=>eC v0 λt120=>aR 1 t120 λt121=>ldW false 1 t121 w23 λt122=>fI t122 λt123=>aS .eql t123 (i64 16) λt124=>J25 [t124] w23) λs25 _ w26=>cZ t117 (.bool true) (s25.getD 0 undef) λt125=>bB t125 (eC t115 λt128=>aR 3 t128 λt129=>ldW false 1 t129 w26 λt130=>aJ P0 94 [t25,(i64 111),t130] w26 λt131 w27=>J24 [] w27) (J24 [] w26)) λs24 _ w28=>eC t25 λt136=>aR 10 t136 λt137=>ldW false 1 t137 w28 λt138=>fK none 1 t138 (s22.getD 0 undef) λt140=>ldW false 1 t140 w28 λt141=>aS .add v1 t141 λt142=>aS .add t142 (str [47]) λt143=>aS .add v2 (i64 1) λt145=>aJ P0 51 [v0,t143,t145] w28 λt146 w29=>eC t115 λt147=>aR 1 t147 λt148=>stW 1 t148 t146 w29 λw30=>eC v0 λt150=>aR 1 t150 λt151=>ldW false 1 t151 w30.drew λt152=>eC t115 λt154=>aR 1 t154 λt155=>ldW false 1 t155 w30.drew λt156=>fK none 9 t152 t156 λt157=>aR 4 t157 λt158=>ldW false 1 t158 w30.drew λt159=>eC t115 λt161=>aR 2 t161 λt162=>ldW false 1 t162 w30.drew λt163=>fI t163 λt164=>dL [(i64 0)] w30.drew λs31 _ w32 L31=>aS .lss (s31.getD 0 undef) t164 λt166=>bB t166 (dE (λJ33=>fK none 3 t163 (s31.getD 0 undef) λt167=>ldW true 3 t167 w32 λt168=>dA 40 zL3 w32 λt19 w34=>stW 3 t19 t168 w34 λw35=>aJ P0 96 [t159,(.func (.func 97) #[] #[t19])] w35 λt171 w36=>unW .not t171 λt172=>bB t172 (aR 2 t19 λt174=>ldW false 1 t174 w36 λt175=>aJ P0 94 [t25,(i64 80),t175] w36 λt176 w37=>J33 [] w37) (J33 [] w36)) λs33 _ w38=>aS .add (s31.getD 0 undef) (i64 1) λt177=>L31 [t177] w38) (fI t159 λt179=>dL [(i64 0)] w32 λs39 _ w40 L39=>aS .lss (s39.getD 0 undef) t179 λt181=>bB t181 (dE (λJ41=>fK none 3 t159 (s39.getD 0 undef) λt182=>ldW true 3 t182 w40 λt183=>dA 69 zL3 w40 λt21 w42=>stW 3 t21 t183 w42 λw43=>aR 1 t21 λt184=>ldW false 1 t184 w43 λt185=>aS .lss t185 (i64 0) λt186=>GdW (isB t186 true) [undef] w43 (λJ44=>eC t115 λt189=>aR 2 t189 λt190=>ldW false 1 t190 w43 λt191=>aJ P0 98 [t191,(.func (.func 99) #[] #[t21])] w43 λt193 w45=>unW .not t193 λt194=>J44 [t194] w45) λs44 _ w46=>cZ t186 (s44.getD 0 undef) (.bool false) λt195=>bB t195 (eC t115 λt198=>aR 3 t198 λt199=>ldW false 1 t199 w46 λt200=>aJ P0 94 [t25,(i64 110),t200] w46 λt201 w47=>J41 [] w47) (J41 [] w46)) λs41 _ w48=>aS .add (s39.getD 0 undef) (i64 1) λt202=>L39 [t202] w48) (aS .add (s22.getD 0 undef) (i64 1) λt203=>L22 [t203] w40))) (eC v0 λt205=>aR 1 t205 λt206=>ldW false 1 t206 w23.drew λt207=>eC t25 λt210=>aR 0 t210 λt211=>ldW true 9 t211 w23.drew λt212=>fK none 9 t207 t89 λt213=>stW 9 t213 t212 w23.drew λw49=>K t89 w49))
theorem XJ{K:Q0}(h:W51 v0 v1 v2 w K):aJ P0 51 [v0,v1,v2] w K:=
 tie _ 51 Tryz.f51 VY _ w K 3 _ rfl mixed Tryz.func51 (by kernel_rfl) (by kernel_rfl) Tryz.call51 h
def VW:fD:={js:=[(3005,⟨[14],[],12⟩),(3010,⟨[9],[],7⟩)],ds:=[]}
def W54(v0:Value)(w:World)(K:Q0):=kA v0 λt4=>aS .geq t4 (i64 1) λt5=>GdW (isB t5 true) [undef] w (λJ1=>kA v0 λt8=>aS .leq t8 (i64 64) λt9=>J1 [t9] w) λs1 _ w2=>cZ t5 (s1.getD 0 undef) (.bool false) λt10=>GdW (isB t10 true) [undef] w2 (λJ3=>aJ P0 101 [v0,(str [0,10,32])] w2 λt13 w4=>unW .not t13 λt14=>J3 [t14] w4) λs3 _ w5=>cZ t10 (s3.getD 0 undef) (.bool false) λt15=>K t15 w5
theorem XH{K:Q0}(h:W54 v0 w K):aJ P0 54 [v0] w K:=
 tie _ 54 Tryz.f54 VW _ w K 1 _ rfl mixed Tryz.func54 (by kernel_rfl) (by kernel_rfl) Tryz.call54 h
def VV:fD:={js:=[(5003,⟨[30],[],22⟩),(5009,⟨[29],[],24⟩),(5011,⟨[23],[],22⟩)],ds:=[]}
def W55(v0 v1 v2:Value)(w:World)(K:Q0):=eC v0 λt11=>aR 0 t11 λt12=>ldW false 1 t12 w λt13=>pV P0 (Instr.lookup 131 t13 v1 true) w λt15=>jQ 0 t15 λt16=>jQ 1 t15 λt17=>dA 130 [sN,sN,(i64 0)] w λt7 w1=>stW 3 t7 t16 w1 λw2=>fI v2 λt19=>aS .leq t19 (i64 65536) λt20=>GdW (isB t20 true) [undef] w2 (λJ3=>J3 [t17] w2) λs3 _ w4=>GdW (isB (s3.getD 0 undef) false) [undef] w4 (λJ5=>eC v0 λt25=>aR 0 t25 λt26=>ldW false 1 t26 w4 λt27=>pV P0 (Builtin.len_ #[131] 3 #[t27]) w4 λt28=>aS .lss t28 (i64 64) λt29=>J5 [t29] w4) λs5 _ w6=>GdW (isB t20 true) [undef] w6 (λJ7=>cZ (s3.getD 0 undef) (.bool true) (s5.getD 0 undef) λt30=>J7 [t30] w6) λs7 _ w8=>cZ t20 (s7.getD 0 undef) (.bool false) λt31=>K t31 w8
theorem XG{K:Q0}(h:W55 v0 v1 v2 w K):aJ P0 55 [v0,v1,v2] w K:=
 tie _ 55 Tryz.f55 VV _ w K 3 _ rfl mixed Tryz.func55 (by kernel_rfl) (by kernel_rfl) Tryz.call55 h
def VU:fD:={js:=[(12,⟨[],[],1⟩),(4006,⟨[12],[],8⟩)],ds:=[]}
def W56(v0:Value)(w:World)(K:Q0):=eC v0 λt4=>aR 3 t4 λt5=>ldW false 1 t5 w λt6=>GdW (isB t6 false) [undef] w (λJ1=>eC v0 λt9=>aR 2 t9 λt10=>ldW false 1 t10 w λt11=>aS .eql t11 (i64 0) λt12=>J1 [t12] w) λs1 _ w2=>cZ t6 (.bool true) (s1.getD 0 undef) λt13=>bB t13 (eC v0 λt15=>aR 3 t15 λt16=>stW 1 t16 (.bool true) w2 λw3=>K (i64 5) w3) (dE (λJ4=>eC v0 λt18=>aR 2 t18 λt19=>ldW false 1 t19 w2 λt20=>aS .gtr t20 (i64 0) λt21=>bB t21 (eC v0 λt23=>aR 2 t23 λt24=>ldW false 1 t24 w2 λt25=>aS .sub t25 (i64 1) λt26=>eC v0 λt27=>aR 2 t27 λt28=>stW 1 t28 t26 w2 λw5=>J4 [] w5) (J4 [] w2)) λs4 _ w6=>eC v0 λt30=>aR 1 t30 λt31=>ldW false 1 t31 w6 λt32=>aS .add t32 (i64 1) λt33=>eC v0 λt34=>aR 1 t34 λt35=>stW 1 t35 t33 w6 λw7=>K (i64 0) w7)
theorem XF{K:Q0}(h:W56 v0 w K):aJ P0 56 [v0] w K:=
 tie _ 56 Tryz.f56 VU _ w K 1 _ rfl mixed Tryz.func56 (by kernel_rfl) (by kernel_rfl) Tryz.call56 h
def VC:fD:={js:=[],ds:=[]}
def W93(v0 v1:Value)(w:World)(K:Q0):=eC v0 λt10=>aR 0 t10 λt11=>ldW false 1 t11 w λt12=>pV P0 (Instr.lookup 131 t12 v1 true) w λt14=>jQ 0 t14 λt15=>jQ 1 t14 λt16=>dA 130 [sN,sN,(i64 0)] w λt6 w1=>stW 3 t6 t15 w1 λw2=>aR 0 t6 λt17=>ldW false 1 t17 w2 λt18=>aJ P0 57 [t18] w2 λt19 w3=>K (.tuple #[t19,t16]) w3
theorem Xl{K:Q0}(h:W93 v0 v1 w K):aJ P0 93 [v0,v1] w K:=
 tie _ 93 Tryz.f93 VC _ w K 2 _ rfl mixed Tryz.func93 (by kernel_rfl) (by kernel_rfl) Tryz.call93 h
def VB:fD:={js:=[],ds:=[]}
def W94(v0 v1 v2:Value)(w:World)(K:Q0):=eC v0 λt8=>aR 9 t8 λt9=>ldW false 1 t9 w λt10=>jS [(i64 0),(str []),(i64 0)] [(0,1,v1),(1,1,t10),(2,1,v2)] λc1=>jF 48 (.agg c1.toArray) w λt13 w2=>Lu (.iface 29 t13) w2
theorem OE{K:Q0}(h:W94 v0 v1 v2 w K):aJ P0 94 [v0,v1,v2] w K:=
 tie _ 94 Tryz.f94 VB _ w K 3 _ rfl mixed Tryz.func94 (by kernel_rfl) (by kernel_rfl) Tryz.call94 h
def VA:fD:={js:=[(2,⟨[],[],4⟩)],ds:=[(4,⟨[0,1,3,4,5,6,7,8,9,11,12,13,14,15,16,18,19,20,21,23,24],[[],[0],[0,1],[],[3],[3,4],[0,1,2,3,4,5],[0,1,2,3,4,5,6],[0,1,2,3,4,5,6,7],[0,1,2,3,4,5,6,7,8],[0,1,2,3,4,5,6,7,8,9],[0,1,2,3,4,5,6,7,8,9,10],[0,1,2,3,4,5,6,7,8,9,10,11],[0,1,2,3,4,5,6,7,8,9,10,11,12],[0,1,2,3,4,5,6,7,8,9,10,11,12,13],[0,1,2,3,4,5,6,7,8,9,10,11,12,13,14],[0,1,2,3,4,5,6,7,8,9,10,11,12,13,14,15],[0,1,2,3,4,5,6,7,8,9,10,11,12,13,14,15,16],[0,1,2,3,4,5,6,7,8,9,10,11,12,13,14,15,16],[0,1,2,3,4,5,6,7,8,9,10,11,12,13,14,15,16,18],[0,1,2,3,4,5,6,7,8,9,10,11,12,13,14,15,16,18,19],[0,1,2,3,4,5,6,7,8,9,10,11,12,13,14,15,16,18,19,20],[0,1,2,3,4,5,6,7,8,9,10,11,12,13,14,15,16,17,18,19,20,21],[0,1,2,3,4,5,6,7,8,9,10,11,12,13,14,15,16,17,18,19,20,21,22],[0,1,2,3,4,5,6,7,8,9,10,11,12,13,14,15,16,17,18,19,20,21,22,23]]⟩)]}
def W95(v0 v1:Value)(w:World)(K:Q0):=jF 38 v1 w λt3 w1=>dE (λJ2=>aR 0 t3 λt4=>ldW false 1 t4 w1.drew λt5=>aR 1 t3 λt7=>ldW false 1 t7 w1.drew λt8=>fI t8 λt9=>aJ P0 133 [t5] w1.drew λt6 w3=>(ldW false 1 t7 w3 λx=>x=t8)/\aS .neq t6 t9 λt10=>GqW (isB t10 false) (λk4=>aR 1 t3 k4) λt12=>GqW (isB t10 false) (λk5=>ldW false 1 t12 w3 k5) λt13=>GeW (isB t10 false) w3 (λk6=>aJ P0 134 [t13,(.func (.func 135) #[] #[])] w3 k6) λt14 w7=>cZ t10 (.bool true) t14 λt15=>GqW (isB t15 false) (λk8=>aR 0 t3 k8) λt17=>GqW (isB t15 false) (λk9=>ldW false 1 t17 w7 k9) λt18=>GqW (isB t15 false) (λk10=>aS .eql t18 (str [114,101,115,111,117,114,99,101]) k10) λt19=>GqW (isB t15 false) (λk11=>k11 t19) λt20=>GqW (isB t20 true) (λk12=>aR 1 t3 k12) λt22=>GqW (isB t20 true) (λk13=>ldW false 1 t22 w7 k13) λt23=>GqW (isB t20 true) (λk14=>fK none 1 t23 (i64 0) k14) λt24=>GqW (isB t20 true) (λk15=>ldW false 1 t24 w7 k15) λt25=>GeW (isB t20 true) w7 (λk16=>aJ P0 137 [] w7 k16) λt21 w17=>((isB t20 true)=true->ldW false 1 t24 w17 λx=>x=t25)/\((isB t20 true)=true->ldW false 1 t22 w17 λx=>x=t23)/\GeW (isB t20 true) w17 (λk18=>aJ P0 117 [t21,t25] w17 k18) λt26 w19=>GqW (isB t15 false) (λk20=>cZ t20 t26 (.bool false) k20) λt27=>cZ t15 (.bool true) t27 λt28=>bB t28 (aR 4 t3 λt30=>ldW false 1 t30 w19 λt31=>aJ P0 94 [v0,(i64 110),t31] w19 λt32 w21=>J2 [] w21) (J2 [] w19)) λs2 _ w22=>aR 0 t3 λt33=>ldW false 1 t33 w22 λt34=>aS .eql t34 (str [118,97,114,105,97,98,108,101]) λt36=>bB t36 (ldW true 5 t3 w22 λt38=>aJ P0 138 [v0,t38] w22 λt39 w23=>K (.tuple #[]) w23) (aS .eql t34 (str [108,111,99,97,108,115]) λt41=>bB t41 (ldW true 5 t3 w22 λt43=>aJ P0 139 [v0,t43] w22 λt44 w24=>K (.tuple #[]) w24) (aS .eql t34 (str [111,117,116,112,117,116]) λt46=>bB t46 (ldW true 5 t3 w22 λt48=>aJ P0 140 [v0,t48] w22 λt49 w25=>K (.tuple #[]) w25) (aS .eql t34 (str [114,101,115,111,117,114,99,101]) λt51=>bB t51 (ldW true 5 t3 w22 λt53=>aJ P0 141 [v0,t53] w22 λt54 w26=>K (.tuple #[]) w26) (aS .eql t34 (str [109,111,100,117,108,101]) λt56=>bB t56 (ldW true 5 t3 w22 λt58=>aJ P0 142 [v0,t58] w22 λt59 w27=>K (.tuple #[]) w27) (K (.tuple #[]) w22)))))
theorem Xk{K:Q0}(h:W95 v0 v1 w K):aJ P0 95 [v0,v1] w K:=
 tie _ 95 Tryz.f95 VA _ w K 2 _ rfl mixed Tryz.func95 (by kernel_rfl) (by kernel_rfl) Tryz.call95 h
def Vy:fD:={js:=[],ds:=[]}
def W97(v0 v1:Value)(w:World)(K:Q0):=jF 69 v0 w λt2 w1=>aR 0 t2 λt4=>ldW false 1 t4 w1 λt5=>aR 0 v1 λt6=>ldW false 1 t6 w1 λt7=>aS .eql t5 t7 λt8=>K t8 w1
theorem Xi{K:Q0}(h:W97 v0 v1 w K):aJ P0 97 [v0,v1] w K:=
 tie _ 97 Tryz.f97 Vy _ w K 2 _ rfl mixed Tryz.func97 (by kernel_rfl) (by kernel_rfl) Tryz.call97 h
def Vw:fD:={js:=[],ds:=[]}
def W99(v0 v1:Value)(w:World)(K:Q0):=jF 40 v0 w λt2 w1=>aR 0 t2 λt4=>ldW false 1 t4 w1 λt5=>aR 0 v1 λt6=>ldW false 1 t6 w1 λt7=>aS .eql t5 t7 λt8=>K t8 w1
theorem Xg{K:Q0}(h:W99 v0 v1 w K):aJ P0 99 [v0,v1] w K:=
 tie _ 99 Tryz.f99 Vw _ w K 2 _ rfl mixed Tryz.func99 (by kernel_rfl) (by kernel_rfl) Tryz.call99 h
def QJ:fD:={js:=[(12,⟨[6],[],4⟩)],ds:=[]}
def aAr(v0:Value)(w:World)(K:Q0):=aS .eql v0 (str [108,111,99,97,108,115]) λt5=>bB t5 (K (i64 0) w) (dE (λJ1=>aS .eql v0 (str [118,97,114,105,97,98,108,101]) λt7=>bB t7 (J1 [t7] w) (aS .eql v0 (str [111,117,116,112,117,116]) λt8=>bB t8 (J1 [t8] w) (aS .eql v0 (str [109,111,100,117,108,101]) λt9=>J1 [t9] w))) λs1 _ w2=>bB (s1.getD 0 undef) (K (i64 1) w2) (aS .eql v0 (str [114,101,115,111,117,114,99,101]) λt11=>bB t11 (K (i64 2) w2) (K (.int .i64 (-1)) w2)))
theorem Ue{K:Q0}(h:aAr v0 w K):aJ P0 133 [v0] w K:=
 tie _ 133 Tryz.f133 QJ _ w K 1 _ rfl mixed Tryz.func133 (by kernel_rfl) (by kernel_rfl) Tryz.call133 h
def QH:fD:={js:=[],ds:=[]}
def aAp(v0:Value)(w:World)(K:Q0):=aJ P0 136 [v0] w λt4 w1=>unW .not t4 λt5=>K t5 w1
theorem Uc{K:Q0}(h:aAp v0 w K):aJ P0 135 [v0] w K:=
 tie _ 135 Tryz.f135 QH _ w K 1 _ rfl mixed Tryz.func135 (by kernel_rfl) (by kernel_rfl) Tryz.call135 h
def QG:fD:={js:=[(30005,⟨[57],[],55⟩),(22002,⟨[48],[],35⟩),(22003,⟨[47],[],38⟩),(22004,⟨[46],[],41⟩),(22006,⟨[45],[],44⟩),(22009,⟨[43],[],41⟩),(22012,⟨[40],[],38⟩),(22015,⟨[37],[],35⟩),(20004,⟨[30],[],29⟩),(20007,⟨[26],[],21⟩),(20009,⟨[25],[],24⟩),(20012,⟨[23],[],21⟩),(20016,⟨[18],[],17⟩),(6,⟨[8],[2,3,4,5],8⟩)],ds:=[]}
def aAo(v0:Value)(w:World)(K:Q0):=kA v0 λt7=>dL [(i64 0)] w λs1 _ w2 L1=>aS .lss (s1.getD 0 undef) t7 λt9=>bB t9 (nU v0 (s1.getD 0 undef) λt13=>aS .geq t13 (.int .u8 97) λt15=>GdW (isB t15 true) [undef] w2 (λJ3=>aS .leq t13 (.int .u8 122) λt18=>J3 [t18] w2) λs3 _ w4=>cZ t15 (s3.getD 0 undef) (.bool false) λt19=>GdW (isB t19 false) [undef] w4 (λJ5=>aS .geq t13 (.int .u8 65) λt22=>J5 [t22] w4) λs5 _ w6=>GdW (isB (s5.getD 0 undef) true) [undef] w6 (λJ7=>aS .leq t13 (.int .u8 90) λt25=>J7 [t25] w6) λs7 _ w8=>GdW (isB t19 false) [undef] w8 (λJ9=>cZ (s5.getD 0 undef) (s7.getD 0 undef) (.bool false) λt26=>J9 [t26] w8) λs9 _ w10=>cZ t19 (.bool true) (s9.getD 0 undef) λt27=>GdW (isB t27 false) [undef] w10 (λJ11=>aS .eql t13 (.int .u8 95) λt30=>J11 [t30] w10) λs11 _ w12=>cZ t27 (.bool true) (s11.getD 0 undef) λt31=>unW .not t31 λt33=>GdW (isB t33 true) [undef] w12 (λJ13=>aS .eql (s1.getD 0 undef) (i64 0) λt36=>J13 [t36] w12) λs13 _ w14=>GdW (isB (s13.getD 0 undef) false) [undef] w14 (λJ15=>aS .neq t13 (.int .u8 45) λt39=>J15 [t39] w14) λs15 _ w16=>GdW (isB (s15.getD 0 undef) true) [undef] w16 (λJ17=>aS .lss t13 (.int .u8 48) λt42=>J17 [t42] w16) λs17 _ w18=>GdW (isB (s17.getD 0 undef) false) [undef] w18 (λJ19=>aS .gtr t13 (.int .u8 57) λt45=>J19 [t45] w18) λs19 _ w20=>GdW (isB (s15.getD 0 undef) true) [undef] w20 (λJ21=>cZ (s17.getD 0 undef) (.bool true) (s19.getD 0 undef) λt46=>J21 [t46] w20) λs21 _ w22=>GdW (isB (s13.getD 0 undef) false) [undef] w22 (λJ23=>cZ (s15.getD 0 undef) (s21.getD 0 undef) (.bool false) λt47=>J23 [t47] w22) λs23 _ w24=>GdW (isB t33 true) [undef] w24 (λJ25=>cZ (s13.getD 0 undef) (.bool true) (s23.getD 0 undef) λt48=>J25 [t48] w24) λs25 _ w26=>cZ t33 (s25.getD 0 undef) (.bool false) λt49=>bB t49 (K (.bool false) w26) (aS .add (s1.getD 0 undef) (i64 1) λt50=>L1 [t50] w26)) (kA v0 λt52=>aS .geq t52 (i64 1) λt53=>GdW (isB t53 true) [undef] w2 (λJ27=>kA v0 λt56=>aS .leq t56 (i64 32) λt57=>J27 [t57] w2) λs27 _ w28=>cZ t53 (s27.getD 0 undef) (.bool false) λt58=>K t58 w28)
theorem Ub{K:Q0}(h:aAo v0 w K):aJ P0 136 [v0] w K:=
 tie _ 136 Tryz.f136 QG _ w K 1 _ rfl mixed Tryz.func136 (by kernel_rfl) (by kernel_rfl) Tryz.call136 h
def QF:fD:={js:=[],ds:=[]}
def aAn(w:World)(K:Q0):=gO 9 6 [(str []),(str []),(str []),(str []),(str []),(str [])] [(0,1,(str [118,97,114])),(1,1,(str [108,111,99,97,108])),(2,1,(str [109,111,100,117,108,101])),(3,1,(str [111,117,116,112,117,116])),(4,1,(str [101,97,99,104])),(5,1,(str [99,111,117,110,116]))] w λt1 w1=>K t1 w1
theorem Ua{K:Q0}(h:aAn w K):aJ P0 137 [] w K:=
 tie _ 137 Tryz.f137 QF _ w K 0 _ rfl mixed Tryz.func137 (by kernel_rfl) (by kernel_rfl) Tryz.call137 h
def QE:fD:={js:=[(8,⟨[],[],5⟩)],ds:=[(14,⟨[0,1,2,3,4,5,6,9,10,11],[[],[],[1],[1,2],[1,2,3],[1,2,3,4],[],[6],[1,2,3,4,5,6,7],[0,1,2,3,4,5,6,7,8],[0,1,2,3,4,5,6,7,8,9],[0,1,2,3,4,5,6,7,8,9,10],[0,1,2,3,4,5,6,7,8,9,10,11]]⟩),(3,⟨[0,1,2,3,4,5,6],[[],[0],[0,1],[0,1,2],[],[4],[0,1,2,3,4,5],[],[0,1,2,3,4,5,6,7]]⟩)]}
def aAm(v0 v1:Value)(w:World)(K:Q0):=jF 38 v1 w λt3 w1=>aR 1 t3 λt5=>ldW false 1 t5 w1.drew λt6=>fK none 1 t6 (i64 0) λt7=>ldW false 1 t7 w1.drew λt8=>aR 4 t3 λt9=>ldW false 1 t9 w1.drew λt10=>jS [(str []),(i64 0),(i64 0)] [(0,1,t8),(1,1,(.int .i64 (-1))),(2,1,t10)] λc2=>dA 69 zL3 w1.drew λt4 w3=>(ldW false 1 t9 w3 λx=>x=t10)/\(ldW false 1 t7 w3 λx=>x=t8)/\(ldW false 1 t5 w3 λx=>x=t6)/\stW 3 t4 (.agg c2.toArray) w3 λw4=>aR 2 t3 λt13=>ldW false 1 t13 w4 λt14=>aJ P0 172 [v0,t14,(.func (.func 173) #[] #[t4])] w4 λt16 w5=>ldW true 5 t3 w5 λt18=>aJ P0 174 [v0,t18] w5 λt19 w6=>dE (λJ7=>eC v0 λt21=>aR 0 t21 λt22=>aR 4 t22 λt23=>ldW false 1 t23 w6 λt24=>aJ P0 96 [t24,(.func (.func 175) #[] #[t4])] w6 λt26 w8=>bB t26 (aR 4 t3 λt28=>ldW false 1 t28 w8 λt29=>aJ P0 94 [v0,(i64 2),t29] w8 λt30 w9=>J7 [] w9) (J7 [] w8)) λs7 _ w10=>eC v0 λt33=>aR 0 t33 λt34=>aR 4 t34 λt35=>ldW false 1 t35 w10.drew λt36=>ldW true 3 t4 w10.drew λt37=>gO 69 1 [(str []),(i64 0),(i64 0)] [(0,3,t37)] w10.drew λt38 w11=>(ldW false 1 t35 w11 λx=>x=t36)/\fY P0 (Builtin.append_ #[63,63] 63 #[t36,t38]) w11 λt39 w12=>eC v0 λt40=>aR 0 t40 λt41=>aR 4 t41 λt42=>stW 1 t42 t39 w12 λw13=>K (.tuple #[]) w13
theorem TZ{K:Q0}(h:aAm v0 v1 w K):aJ P0 138 [v0,v1] w K:=
 tie _ 138 Tryz.f138 QE _ w K 2 _ rfl mixed Tryz.func138 (by kernel_rfl) (by kernel_rfl) Tryz.call138 h
def QD:fD:={js:=[],ds:=[]}
def aAl(v0 v1:Value)(w:World)(K:Q0):=jF 175 v0 w λt2 w1=>jF 38 v1 w1 λt3 w2=>ldW false 1 t2 w2 λt4=>aR 2 t3 λt5=>ldW false 1 t5 w2 λt6=>aJ P0 172 [t4,t6,(.func (.func 176) #[] #[t2])] w2 λt8 w3=>ldW false 1 t2 w3 λt9=>ldW true 5 t3 w3 λt10=>aJ P0 174 [t9,t10] w3 λt11 w4=>K (.tuple #[]) w4
theorem TY{K:Q0}(h:aAl v0 v1 w K):aJ P0 139 [v0,v1] w K:=
 tie _ 139 Tryz.f139 QD _ w K 2 _ rfl mixed Tryz.func139 (by kernel_rfl) (by kernel_rfl) Tryz.call139 h
def QC:fD:={js:=[(14,⟨[],[],5⟩),(8,⟨[],[],5⟩)],ds:=[(20,⟨[0,1,2,3,4,5,6,9,10,11],[[],[],[1],[1,2],[1,2,3],[1,2,3,4],[],[6],[1,2,3,4,5,6,7],[0,1,2,3,4,5,6,7,8],[0,1,2,3,4,5,6,7,8,9],[0,1,2,3,4,5,6,7,8,9,10],[0,1,2,3,4,5,6,7,8,9,10,11]]⟩),(3,⟨[0,1,2,3,4,5,6],[[],[0],[0,1],[0,1,2],[],[4],[0,1,2,3,4,5],[],[0,1,2,3,4,5,6,7]]⟩)]}
def aAk(v0 v1:Value)(w:World)(K:Q0):=jF 38 v1 w λt3 w1=>aR 1 t3 λt5=>ldW false 1 t5 w1.drew λt6=>fK none 1 t6 (i64 0) λt7=>ldW false 1 t7 w1.drew λt8=>aR 4 t3 λt9=>ldW false 1 t9 w1.drew λt10=>jS [(str []),(i64 0),(i64 0)] [(0,1,t8),(1,1,(.int .i64 (-1))),(2,1,t10)] λc2=>dA 40 zL3 w1.drew λt4 w3=>(ldW false 1 t9 w3 λx=>x=t10)/\(ldW false 1 t7 w3 λx=>x=t8)/\(ldW false 1 t5 w3 λx=>x=t6)/\stW 3 t4 (.agg c2.toArray) w3 λw4=>aR 2 t3 λt13=>ldW false 1 t13 w4 λt14=>aJ P0 172 [v0,t14,(.func (.func 178) #[] #[t4])] w4 λt16 w5=>ldW true 5 t3 w5 λt18=>aJ P0 174 [v0,t18] w5 λt19 w6=>dE (λJ7=>aR 1 t4 λt20=>ldW false 1 t20 w6 λt21=>aS .lss t21 (i64 0) λt22=>bB t22 (aR 4 t3 λt24=>ldW false 1 t24 w6 λt25=>aJ P0 94 [v0,(i64 110),t25] w6 λt26 w8=>J7 [] w8) (J7 [] w6)) λs7 _ w9=>dE (λJ10=>eC v0 λt28=>aR 0 t28 λt29=>aR 6 t29 λt30=>ldW false 1 t30 w9 λt31=>aJ P0 98 [t31,(.func (.func 179) #[] #[t4])] w9 λt33 w11=>bB t33 (aR 4 t3 λt35=>ldW false 1 t35 w11 λt36=>aJ P0 94 [v0,(i64 2),t36] w11 λt37 w12=>J10 [] w12) (J10 [] w11)) λs10 _ w13=>eC v0 λt40=>aR 0 t40 λt41=>aR 6 t41 λt42=>ldW false 1 t42 w13.drew λt43=>ldW true 3 t4 w13.drew λt44=>gO 40 1 [(str []),(i64 0),(i64 0)] [(0,3,t44)] w13.drew λt45 w14=>(ldW false 1 t42 w14 λx=>x=t43)/\fY P0 (Builtin.append_ #[36,36] 36 #[t43,t45]) w14 λt46 w15=>eC v0 λt47=>aR 0 t47 λt48=>aR 6 t48 λt49=>stW 1 t49 t46 w15 λw16=>K (.tuple #[]) w16
theorem TX{K:Q0}(h:aAk v0 v1 w K):aJ P0 140 [v0,v1] w K:=
 tie _ 140 Tryz.f140 QC _ w K 2 _ rfl mixed Tryz.func140 (by kernel_rfl) (by kernel_rfl) Tryz.call140 h
def QB:fD:={js:=[(39,⟨[],[],5⟩),(29,⟨[],[],28⟩),(31005,⟨[59],[],56⟩),(23,⟨[],[],28⟩),(25004,⟨[46],[],44⟩),(10,⟨[27],[5,6,7],27⟩)],ds:=[(45,⟨[0,1,2,3,4,5,6,9,10,11],[[],[],[1],[1,2],[1,2,3],[1,2,3,4],[],[6],[1,2,3,4,5,6,7],[0,1,2,3,4,5,6,7,8],[0,1,2,3,4,5,6,7,8,9],[0,1,2,3,4,5,6,7,8,9,10],[0,1,2,3,4,5,6,7,8,9,10,11]]⟩),(3,⟨[0,1,2,3,4,5,6,7,8,9,10],[[],[0],[0,1],[0,1,2],[],[4],[4,5],[4,5,6],[],[8],[0,1,2,3,4,5,6,7,8,9],[],[0,1,2,3,4,5,6,7,8,9,10,11]]⟩)]}
def aAj(v0 v1:Value)(w:World)(K:Q0):=jF 175 v0 w λt2 w1=>jF 38 v1 w1 λt3 w2=>aR 1 t3 λt8=>ldW false 1 t8 w2.drew λt9=>fK none 1 t9 (i64 0) λt10=>ldW false 1 t10 w2.drew λt11=>aR 1 t3 λt12=>ldW false 1 t12 w2.drew λt13=>fK none 1 t13 (i64 1) λt14=>ldW false 1 t14 w2.drew λt15=>aR 4 t3 λt16=>ldW false 1 t16 w2.drew λt17=>jS [(str []),(str []),sN,(i64 0),(i64 0),(.bool false),(.bool false),sN,(i64 0)] [(0,1,t11),(1,1,t15),(3,1,(.int .i64 (-1))),(4,1,(.int .i64 (-1))),(8,1,t17)] λc3=>dA 71 zL5 w2.drew λt4 w4=>(ldW false 1 t16 w4 λx=>x=t17)/\(ldW false 1 t14 w4 λx=>x=t15)/\(ldW false 1 t12 w4 λx=>x=t13)/\(ldW false 1 t10 w4 λx=>x=t11)/\(ldW false 1 t8 w4 λx=>x=t9)/\stW 9 t4 (.agg c3.toArray) w4 λw5=>ldW false 1 t2 w5 λt19=>aR 2 t3 λt20=>ldW false 1 t20 w5 λt21=>aJ P0 172 [t19,t21,(.func (.func 180) #[] #[t4,t2])] w5 λt23 w6=>aR 3 t3 λt24=>ldW false 1 t24 w6 λt25=>fI t25 λt26=>dL [(i64 0)] w6 λs7 _ w8 L7=>aS .lss (s7.getD 0 undef) t26 λt28=>bB t28 (fK none 1 t25 (s7.getD 0 undef) λt30=>ldW false 1 t30 w8 λt31=>ldW false 1 t2 w8 λt32=>eC t32 λt33=>aR 0 t33 λt34=>aR 1 t34 λt35=>aR 1 t35 λt36=>ldW false 1 t36 w8 λt37=>fK none 5 t37 t31 λt39=>ldW true 5 t39 w8 λt40=>dA 38 zL4 w8 λt7 w9=>stW 5 t7 t40 w9 λw10=>dE (λJ11=>aS .gtr (s7.getD 0 undef) (i64 0) λt42=>GdW (isB t42 true) [undef] w10 (λJ12=>aR 0 t7 λt44=>ldW false 1 t44 w10 λt45=>aS .eql t45 (str [108,105,102,101,99,121,99,108,101]) λt46=>J12 [t46] w10) λs12 _ w13=>cZ t42 (s12.getD 0 undef) (.bool false) λt47=>bB t47 (ldW false 1 t2 w13 λt48=>aR 4 t7 λt49=>ldW false 1 t49 w13 λt50=>aJ P0 94 [t48,(i64 2),t50] w13 λt51 w14=>J11 [] w14) (J11 [] w13)) λs11 _ w15=>dE (λJ16=>aR 0 t7 λt52=>ldW false 1 t52 w15 λt53=>aS .neq t53 (str [108,105,102,101,99,121,99,108,101]) λt54=>GdW (isB t54 false) [undef] w15 (λJ17=>aR 1 t7 λt56=>ldW false 1 t56 w15 λt57=>fI t57 λt58=>aS .gtr t58 (i64 0) λt59=>J17 [t59] w15) λs17 _ w18=>cZ t54 (.bool true) (s17.getD 0 undef) λt60=>bB t60 (ldW false 1 t2 w18 λt61=>aR 4 t7 λt62=>ldW false 1 t62 w18 λt63=>aJ P0 94 [t61,(i64 110),t63] w18 λt64 w19=>J16 [] w19) (J16 [] w18)) λs16 _ w20=>ldW false 1 t2 w20 λt65=>aR 2 t7 λt66=>ldW false 1 t66 w20 λt67=>aJ P0 172 [t65,t67,(.func (.func 183) #[] #[t4])] w20 λt69 w21=>ldW false 1 t2 w21 λt70=>ldW true 5 t7 w21 λt71=>aJ P0 174 [t70,t71] w21 λt72 w22=>aS .add (s7.getD 0 undef) (i64 1) λt73=>L7 [t73] w22) (dE (λJ23=>ldW false 1 t2 w8 λt74=>eC t74 λt75=>aR 0 t75 λt76=>aR 7 t76 λt77=>ldW false 1 t77 w8 λt78=>aJ P0 184 [t78,(.func (.func 185) #[] #[t4])] w8 λt80 w24=>bB t80 (ldW false 1 t2 w24 λt81=>aR 4 t3 λt82=>ldW false 1 t82 w24 λt83=>aJ P0 94 [t81,(i64 2),t83] w24 λt84 w25=>J23 [] w25) (J23 [] w24)) λs23 _ w26=>ldW false 1 t2 w26.drew λt85=>ldW false 1 t2 w26.drew λt86=>eC t86 λt87=>aR 0 t87 λt88=>aR 7 t88 λt89=>ldW false 1 t89 w26.drew λt90=>ldW true 9 t4 w26.drew λt91=>gO 71 1 [(str []),(str []),sN,(i64 0),(i64 0),(.bool false),(.bool false),sN,(i64 0)] [(0,9,t91)] w26.drew λt92 w27=>(ldW false 1 t89 w27 λx=>x=t90)/\(ldW false 1 t2 w27 λx=>x=t86)/\(ldW false 1 t2 w27 λx=>x=t85)/\fY P0 (Builtin.append_ #[64,64] 64 #[t90,t92]) w27 λt93 w28=>(ldW false 1 t2 w28 λx=>x=t85)/\eC t85 λt94=>aR 0 t94 λt95=>aR 7 t95 λt96=>stW 1 t96 t93 w28 λw29=>K (.tuple #[]) w29)
theorem TW{K:Q0}(h:aAj v0 v1 w K):aJ P0 141 [v0,v1] w K:=
 tie _ 141 Tryz.f141 QB _ w K 2 _ rfl mixed Tryz.func141 (by kernel_rfl) (by kernel_rfl) Tryz.call141 h
def QA:fD:={js:=[(16,⟨[],[],6⟩),(10,⟨[],[],6⟩)],ds:=[(22,⟨[0,1,2,3,4,5,6,7,10,11,12,13,14,17,18,19,21,22],[[],[],[],[2],[2,3],[2,3,4],[2,3,4,5],[],[7],[2,3,4,5,6,7,8],[],[10],[10,11],[10,11,12],[],[14],[2,3,4,5,6,7,8,9,10,11,12,13,14,15],[0,2,3,4,5,6,7,8,9,10,11,12,13,14,15,16],[0,2,3,4,5,6,7,8,9,10,11,12,13,14,15,16,17],[0,2,3,4,5,6,7,8,9,10,11,12,13,14,15,16,17,18],[0,2,3,4,5,6,7,8,9,10,11,12,13,14,15,16,17,18,19],[0,1,2,3,4,5,6,7,8,9,10,11,12,13,14,15,16,17,18,19,20],[0,1,2,3,4,5,6,7,8,9,10,11,12,13,14,15,16,17,18,19,20,21],[0,1,2,3,4,5,6,7,8,9,10,11,12,13,14,15,16,17,18,19,20,21,22]]⟩),(3,⟨[0,1,2,3,4,5,6],[[],[0],[0,1],[0,1,2],[],[4],[0,1,2,3,4,5],[],[0,1,2,3,4,5,6,7]]⟩)]}
def aAi(v0 v1:Value)(w:World)(K:Q0):=jF 38 v1 w λt3 w1=>aR 1 t3 λt6=>ldW false 1 t6 w1.drew λt7=>fK none 1 t7 (i64 0) λt8=>ldW false 1 t8 w1.drew λt9=>aR 4 t3 λt10=>ldW false 1 t10 w1.drew λt11=>jS [(str []),(i64 0),sN,(i64 0)] [(0,1,t9),(3,1,t11)] λc2=>dA 73 zL6 w1.drew λt4 w3=>(ldW false 1 t10 w3 λx=>x=t11)/\(ldW false 1 t8 w3 λx=>x=t9)/\(ldW false 1 t6 w3 λx=>x=t7)/\stW 4 t4 (.agg c2.toArray) w3 λw4=>dA 9 [(str [])] w4 λt5 w5=>stW 1 t5 (str []) w5 λw6=>aR 2 t3 λt14=>ldW false 1 t14 w6 λt15=>aJ P0 172 [v0,t15,(.func (.func 186) #[] #[t4,t5])] w6 λt17 w7=>ldW true 5 t3 w7 λt19=>aJ P0 174 [v0,t19] w7 λt20 w8=>dE (λJ9=>ldW false 1 t5 w8 λt21=>aS .eql t21 (str []) λt22=>bB t22 (aR 4 t3 λt24=>ldW false 1 t24 w8 λt25=>aJ P0 94 [v0,(i64 110),t25] w8 λt26 w10=>J9 [] w10) (J9 [] w8)) λs9 _ w11=>dE (λJ12=>eC v0 λt28=>aR 0 t28 λt29=>aR 8 t29 λt30=>ldW false 1 t30 w11 λt31=>aJ P0 187 [t31,(.func (.func 188) #[] #[t4])] w11 λt33 w13=>bB t33 (aR 4 t3 λt35=>ldW false 1 t35 w13 λt36=>aJ P0 94 [v0,(i64 2),t36] w13 λt37 w14=>J12 [] w14) (J12 [] w13)) λs12 _ w15=>eC v0 λt41=>aR 0 t41 λt42=>aR 8 t42 λt43=>ldW false 1 t43 w15.drew λt44=>ldW true 4 t4 w15.drew λt45=>eC v0 λt49=>aR 10 t49 λt50=>ldW false 1 t50 w15.drew λt51=>ldW false 1 t5 w15.drew λt52=>(gO 73 1 [(str []),(i64 0),sN,(i64 0)] [(0,4,t45)] w15.drew λt46 w16=>(ldW false 1 t5 w16 λx=>x=t52)/\(ldW false 1 t50 w16 λx=>x=t51)/\(ldW false 1 t43 w16 λx=>x=t44)/\(fY P0 (Builtin.append_ #[65,65] 65 #[t44,t46]) w16 λt47 w17=>(ldW false 1 t5 w17 λx=>x=t52)/\(ldW false 1 t50 w17 λx=>x=t51)/\gO 9 1 [(str [])] [(0,1,t52)] w17 λt53 w18=>(ldW false 1 t50 w18 λx=>x=t51)/\fY P0 (Builtin.append_ #[33,33] 33 #[t51,t53]) w18 λt54 w19=>eC v0 λt55=>aR 0 t55 λt56=>aR 8 t56 λt57=>stW 1 t57 t47 w19 λw20=>eC v0 λt58=>aR 10 t58 λt59=>stW 1 t59 t54 w20 λw21=>K (.tuple #[]) w21)/\(gO 9 1 [(str [])] [(0,1,t52)] w16 λt53 w22=>(ldW false 1 t50 w22 λx=>x=t51)/\(ldW false 1 t43 w22 λx=>x=t44)/\fY P0 (Builtin.append_ #[65,65] 65 #[t44,t46]) w22 λt47 w23=>(ldW false 1 t50 w23 λx=>x=t51)/\fY P0 (Builtin.append_ #[33,33] 33 #[t51,t53]) w23 λt54 w24=>eC v0 λt55=>aR 0 t55 λt56=>aR 8 t56 λt57=>stW 1 t57 t47 w24 λw25=>eC v0 λt58=>aR 10 t58 λt59=>stW 1 t59 t54 w25 λw26=>K (.tuple #[]) w26))/\(gO 9 1 [(str [])] [(0,1,t52)] w15.drew λt53 w27=>(ldW false 1 t50 w27 λx=>x=t51)/\(ldW true 4 t4 w27 λx=>x=t45)/\(ldW false 1 t43 w27 λx=>x=t44)/\gO 73 1 [(str []),(i64 0),sN,(i64 0)] [(0,4,t45)] w27 λt46 w28=>(ldW false 1 t50 w28 λx=>x=t51)/\(ldW false 1 t43 w28 λx=>x=t44)/\fY P0 (Builtin.append_ #[65,65] 65 #[t44,t46]) w28 λt47 w29=>(ldW false 1 t50 w29 λx=>x=t51)/\fY P0 (Builtin.append_ #[33,33] 33 #[t51,t53]) w29 λt54 w30=>eC v0 λt55=>aR 0 t55 λt56=>aR 8 t56 λt57=>stW 1 t57 t47 w30 λw31=>eC v0 λt58=>aR 10 t58 λt59=>stW 1 t59 t54 w31 λw32=>K (.tuple #[]) w32)
theorem TV{K:Q0}(h:aAi v0 v1 w K):aJ P0 142 [v0,v1] w K:=
 tie _ 142 Tryz.f142 QA _ w K 2 _ rfl mixed Tryz.func142 (by kernel_rfl) (by kernel_rfl) Tryz.call142 h
def Ql:fD:={js:=[(10,⟨[],[6,7],11⟩),(14,⟨[],[],11⟩),(3,⟨[10],[6,7],10⟩)],ds:=[(21,⟨[0,1,2,3,4,5,6,7,8,9,10,11,13],[[],[],[],[2],[2,3],[2,3,4],[2,3,4,5],[2,3,4,5,6],[],[8],[2,3,4,5,6,7,8,9],[2,3,4,5,6,7,8,9,10],[0,1,2,3,4,5,6,7,8,9,10,11],[0,1,2,3,4,5,6,7,8,9,10,11,12]]⟩)]}
def ZU(v0 v1 v2:Value)(w:World)(K:Q0):=fI v1 λt9=>dL [(i64 0)] w λs1 _ w2 L1=>aS .lss (s1.getD 0 undef) t9 λt11=>bB t11 (dE (λJ3=>fK none 3 v1 (s1.getD 0 undef) λt13=>ldW true 3 t13 w2 λt14=>dA 40 zL3 w2 λt7 w4=>stW 3 t7 t14 w4 λw5=>dE (λJ6=>MO 3 v1 none (some (s1.getD 0 undef)) none λt17=>aJ P0 98 [t17,(.func (.func 209) #[] #[t7])] w5 λt19 w7=>bB t19 (aR 2 t7 λt21=>ldW false 1 t21 w7 λt22=>aJ P0 94 [v0,(i64 2),t22] w7 λt23 w8=>J6 [] w8) (J6 [] w7)) λs6 _ w9=>ldW true 3 t7 w9.drew λt25=>eC v0 λt27=>aR 0 t27 λt28=>aR 1 t28 λt29=>aR 0 t29 λt30=>ldW false 1 t30 w9.drew λt31=>aR 1 t7 λt32=>ldW false 1 t32 w9.drew λt33=>fK none 5 t31 t33 λt34=>ldW true 5 t34 w9.drew λt35=>nV P0 v2 [t25,t35] w9.drew λt36 w10=>unW .not t36 λt37=>bB t37 (aR 2 t7 λt39=>ldW false 1 t39 w10 λt40=>aJ P0 94 [v0,(i64 110),t40] w10 λt41 w11=>J3 [] w11) (J3 [] w10)) λs3 _ w12=>aS .add (s1.getD 0 undef) (i64 1) λt42=>L1 [t42] w12) (K (.tuple #[]) w2)
theorem TB{K:Q0}(h:ZU v0 v1 v2 w K):aJ P0 172 [v0,v1,v2] w K:=
 tie _ 172 Tryz.f172 Ql _ w K 3 _ rfl mixed Tryz.func172 (by kernel_rfl) (by kernel_rfl) Tryz.call172 h
def Qk:fD:={js:=[],ds:=[]}
def ZT(v0 v1 v2:Value)(w:World)(K:Q0):=jF 40 v0 w λt3 w1=>jF 35 v1 w1 λt4 w2=>aR 1 t3 λt6=>ldW false 1 t6 w2 λt7=>aR 1 v2 λt8=>stW 1 t8 t7 w2 λw3=>aR 0 t3 λt9=>ldW false 1 t9 w3 λt10=>aS .eql t10 (str [100,101,102,97,117,108,116]) λt11=>K t11 w3
theorem TA{K:Q0}(h:ZT v0 v1 v2 w K):aJ P0 173 [v0,v1,v2] w K:=
 tie _ 173 Tryz.f173 Qk _ w K 3 _ rfl mixed Tryz.func173 (by kernel_rfl) (by kernel_rfl) Tryz.call173 h
def Qj:fD:={js:=[],ds:=[(5,⟨[0,1,2,3,4,5,6,7,8,9,10,11,12,13],[[],[],[1],[1,2],[1,2,3],[1,2,3,4],[1,2,3,4,5],[],[7],[7,8],[7,8,9],[1,2,3,4,5,6,7,8,9,10],[1,2,3,4,5,6,7,8,9,10,11],[1,2,3,4,5,6,7,8,9,10,11,12],[0,1,2,3,4,5,6,7,8,9,10,11,12,13]]⟩)]}
def ZS(v0 v1:Value)(w:World)(K:Q0):=jF 38 v1 w λt3 w1=>aR 3 t3 λt4=>ldW false 1 t4 w1 λt5=>fI t5 λt6=>aS .gtr t6 (i64 0) λt7=>bB t7 (eC v0 λt10=>aR 0 t10 λt11=>aR 1 t11 λt12=>aR 1 t12 λt13=>ldW false 1 t13 w1.drew λt14=>aR 3 t3 λt15=>ldW false 1 t15 w1.drew λt16=>fK none 1 t16 (i64 0) λt17=>ldW false 1 t17 w1.drew λt18=>fK none 5 t14 t18 λt19=>aR 4 t19 λt20=>ldW false 1 t20 w1.drew λt21=>aJ P0 94 [v0,(i64 110),t21] w1.drew λt22 w2=>K (.tuple #[]) w2) (K (.tuple #[]) w1)
theorem Tz{K:Q0}(h:ZS v0 v1 w K):aJ P0 174 [v0,v1] w K:=
 tie _ 174 Tryz.f174 Qj _ w K 2 _ rfl mixed Tryz.func174 (by kernel_rfl) (by kernel_rfl) Tryz.call174 h
def Qi:fD:={js:=[],ds:=[]}
def ZR(v0 v1:Value)(w:World)(K:Q0):=jF 69 v0 w λt2 w1=>aR 0 t2 λt4=>ldW false 1 t4 w1 λt5=>aR 0 v1 λt6=>ldW false 1 t6 w1 λt7=>aS .eql t5 t7 λt8=>K t8 w1
theorem Ty{K:Q0}(h:ZR v0 v1 w K):aJ P0 175 [v0,v1] w K:=
 tie _ 175 Tryz.f175 Qi _ w K 2 _ rfl mixed Tryz.func175 (by kernel_rfl) (by kernel_rfl) Tryz.call175 h
def Qh:fD:={js:=[(2,⟨[],[],4⟩)],ds:=[(9,⟨[0,1,2,3,4,5,6,9,10,11],[[],[],[1],[1,2],[1,2,3],[1,2,3,4],[],[6],[1,2,3,4,5,6,7],[0,1,2,3,4,5,6,7,8],[0,1,2,3,4,5,6,7,8,9],[0,1,2,3,4,5,6,7,8,9,10],[0,1,2,3,4,5,6,7,8,9,10,11]]⟩)]}
def ZQ(v0 v1 v2:Value)(w:World)(K:Q0):=jF 40 v0 w λt3 w1=>jF 35 v1 w1 λt4 w2=>dE (λJ3=>ldW false 1 v2 w2 λt6=>eC t6 λt7=>aR 0 t7 λt8=>aR 5 t8 λt9=>ldW false 1 t9 w2 λt10=>aJ P0 98 [t10,(.func (.func 177) #[] #[t3])] w2 λt12 w4=>bB t12 (ldW false 1 v2 w4 λt13=>aR 2 t3 λt14=>ldW false 1 t14 w4 λt15=>aJ P0 94 [t13,(i64 2),t15] w4 λt16 w5=>J3 [] w5) (J3 [] w4)) λs3 _ w6=>ldW false 1 v2 w6.drew λt17=>ldW false 1 v2 w6.drew λt18=>eC t18 λt19=>aR 0 t19 λt20=>aR 5 t20 λt21=>ldW false 1 t21 w6.drew λt22=>ldW true 3 t3 w6.drew λt23=>gO 40 1 [(str []),(i64 0),(i64 0)] [(0,3,t23)] w6.drew λt24 w7=>(ldW false 1 t21 w7 λx=>x=t22)/\(ldW false 1 v2 w7 λx=>x=t18)/\(ldW false 1 v2 w7 λx=>x=t17)/\fY P0 (Builtin.append_ #[36,36] 36 #[t22,t24]) w7 λt25 w8=>(ldW false 1 v2 w8 λx=>x=t17)/\eC t17 λt26=>aR 0 t26 λt27=>aR 5 t27 λt28=>stW 1 t28 t25 w8 λw9=>K (.bool true) w9
theorem Tx{K:Q0}(h:ZQ v0 v1 v2 w K):aJ P0 176 [v0,v1,v2] w K:=
 tie _ 176 Tryz.f176 Qh _ w K 3 _ rfl mixed Tryz.func176 (by kernel_rfl) (by kernel_rfl) Tryz.call176 h
def Qg:fD:={js:=[],ds:=[]}
def ZP(v0 v1:Value)(w:World)(K:Q0):=jF 40 v0 w λt2 w1=>aR 0 t2 λt4=>ldW false 1 t4 w1 λt5=>aR 0 v1 λt6=>ldW false 1 t6 w1 λt7=>aS .eql t5 t7 λt8=>K t8 w1
theorem Tw{K:Q0}(h:ZP v0 v1 w K):aJ P0 177 [v0,v1] w K:=
 tie _ 177 Tryz.f177 Qg _ w K 2 _ rfl mixed Tryz.func177 (by kernel_rfl) (by kernel_rfl) Tryz.call177 h
def Qf:fD:={js:=[],ds:=[]}
def ZO(v0 v1 v2:Value)(w:World)(K:Q0):=jF 40 v0 w λt3 w1=>jF 35 v1 w1 λt4 w2=>aR 1 t3 λt6=>ldW false 1 t6 w2 λt7=>aR 1 v2 λt8=>stW 1 t8 t7 w2 λw3=>aR 0 t3 λt9=>ldW false 1 t9 w3 λt10=>aS .eql t10 (str [118,97,108,117,101]) λt11=>K t11 w3
theorem Tv{K:Q0}(h:ZO v0 v1 v2 w K):aJ P0 178 [v0,v1,v2] w K:=
 tie _ 178 Tryz.f178 Qf _ w K 3 _ rfl mixed Tryz.func178 (by kernel_rfl) (by kernel_rfl) Tryz.call178 h
def Qe:fD:={js:=[],ds:=[]}
def ZN(v0 v1:Value)(w:World)(K:Q0):=jF 40 v0 w λt2 w1=>aR 0 t2 λt4=>ldW false 1 t4 w1 λt5=>aR 0 v1 λt6=>ldW false 1 t6 w1 λt7=>aS .eql t5 t7 λt8=>K t8 w1
theorem Tu{K:Q0}(h:ZN v0 v1 w K):aJ P0 179 [v0,v1] w K:=
 tie _ 179 Tryz.f179 Qe _ w K 2 _ rfl mixed Tryz.func179 (by kernel_rfl) (by kernel_rfl) Tryz.call179 h
def Qd:fD:={js:=[(53005,⟨[67],[],65⟩),(2,⟨[],[],3⟩),(27,⟨[34],[6,8],34⟩)],ds:=[(46,⟨[0,1,2,3,4,5,6,7,10],[[],[0],[],[2],[2,3],[2,3,4],[2,3,4,5],[],[2,3,4,5,6,7],[0,1,2,3,4,5,6,7,8],[0,1,2,3,4,5,6,7,8,9],[0,1,2,3,4,5,6,7,8,9,10]]⟩)]}
def ZM(v0 v1 v2 v3:Value)(w:World)(K:Q0):=jF 40 v0 w λt4 w1=>jF 35 v1 w1 λt5 w2=>dE (λJ3=>aR 0 t4 λt9=>ldW false 1 t9 w2 λt10=>aS .eql t10 (str [105,100]) λt18=>bB t18 (K (.bool false) w2) (aS .eql t10 (str [99,111,117,110,116]) λt20=>bB t20 (aR 1 t4 λt21=>ldW false 1 t21 w2 λt22=>aR 3 v2 λt23=>stW 1 t23 t22 w2 λw4=>J3 [] w4) (aS .eql t10 (str [102,111,114,95,101,97,99,104]) λt25=>bB t25 (aR 1 t4 λt26=>ldW false 1 t26 w2 λt27=>aR 4 v2 λt28=>stW 1 t28 t27 w2 λw5=>J3 [] w5) (aS .eql t10 (str [100,101,112,101,110,100,115,95,111,110]) λt30=>bB t30 (aR 2 t5 λt31=>ldW false 1 t31 w2 λt32=>fI t32 λt33=>dL [(i64 0)] w2 λs6 _ w7 L6=>aS .lss (s6.getD 0 undef) t33 λt35=>bB t35 (fK none 1 t32 (s6.getD 0 undef) λt36=>ldW false 1 t36 w7 λt37=>ldW false 1 v3 w7 λt38=>eC t38 λt39=>aR 0 t39 λt40=>aR 1 t40 λt41=>ldW true 3 t41 w7 λt42=>aJ P0 181 [t42,t37] w7 λt44 w8=>unW .not t44 λt45=>bB t45 (K (.bool false) w8) (aR 7 v2 λt46=>ldW false 1 t46 w8.drew λt47=>ldW false 1 v3 w8.drew λt48=>eC t48 λt49=>aR 0 t49 λt50=>aR 1 t50 λt51=>ldW true 3 t51 w8.drew λt52=>aJ P0 182 [t52,t37] w8.drew λt54 w9=>(ldW false 1 t46 w9 λx=>x=t47)/\fY P0 (Builtin.append_ #[33,33] 33 #[t47,t54]) w9 λt55 w10=>aR 7 v2 λt56=>stW 1 t56 t55 w10 λw11=>aS .add (s6.getD 0 undef) (i64 1) λt57=>L6 [t57] w11)) (aR 0 t5 λt58=>ldW false 1 t58 w7 λt59=>aS .eql t59 (i64 7) λt60=>K t60 w7)) (aR 2 v2 λt11=>ldW false 1 t11 w2 λt12=>ldW true 3 t4 w2 λt13=>gO 40 1 [(str []),(i64 0),(i64 0)] [(0,3,t13)] w2 λt14 w12=>fY P0 (Builtin.append_ #[36,36] 36 #[t12,t14]) w12 λt15 w13=>aR 2 v2 λt16=>stW 1 t16 t15 w13 λw14=>J3 [] w14))))) λs3 _ w15=>aR 3 v2 λt61=>ldW false 1 t61 w15 λt62=>aS .lss t62 (i64 0) λt63=>GdW (isB t63 false) [undef] w15 (λJ16=>aR 4 v2 λt65=>ldW false 1 t65 w15 λt66=>aS .lss t66 (i64 0) λt67=>J16 [t67] w15) λs16 _ w17=>cZ t63 (.bool true) (s16.getD 0 undef) λt68=>K t68 w17
theorem Tt{K:Q0}(h:ZM v0 v1 v2 v3 w K):aJ P0 180 [v0,v1,v2,v3] w K:=
 tie _ 180 Tryz.f180 Qd _ w K 4 _ rfl mixed Tryz.func180 (by kernel_rfl) (by kernel_rfl) Tryz.call180 h
def Qc:fD:={js:=[(4,⟨[1],[1],3⟩)],ds:=[]}
def ZL(v0 v1:Value)(w:World)(K:Q0):=jF 28 v0 w λt2 w1=>dL [v1] w1 λs2 _ w3 L2=>aR 0 t2 λt5=>ldW false 1 t5 w3 λt6=>fK none 5 t6 (s2.getD 0 undef) λt8=>aR 0 t8 λt9=>ldW false 1 t9 w3 λt10=>aS .eql t10 (i64 10) λt11=>bB t11 (aR 0 t2 λt12=>ldW false 1 t12 w3 λt13=>fK none 5 t13 (s2.getD 0 undef) λt15=>aR 2 t15 λt16=>ldW false 1 t16 w3 λt17=>fK none 1 t17 (i64 0) λt18=>ldW false 1 t18 w3 λt19=>L2 [t19] w3) (aR 0 t2 λt20=>ldW false 1 t20 w3 λt21=>fK none 5 t21 (s2.getD 0 undef) λt23=>aR 0 t23 λt24=>ldW false 1 t24 w3 λt25=>aS .eql t25 (i64 9) λt26=>K t26 w3)
theorem Ts{K:Q0}(h:ZL v0 v1 w K):aJ P0 181 [v0,v1] w K:=
 tie _ 181 Tryz.f181 Qc _ w K 2 _ rfl mixed Tryz.func181 (by kernel_rfl) (by kernel_rfl) Tryz.call181 h
def Qb:fD:={js:=[],ds:=[]}
def ZK(v0 v1:Value)(w:World)(K:Q0):=jF 28 v0 w λt2 w1=>fY P0 (Instr.makeMap 252 none) w1 λt6 w2=>ldW true 3 t2 w2 λt7=>fY P0 (Instr.makeMap 252 none) w2 λt9 w3=>aJ P0 210 [t7,v1,(str []),t9,t6] w3 λt11 w4=>aJ P0 212 [t6] w4 λt13 w5=>aJ P0 211 [t13] w5 λt14 w6=>K t14 w6
theorem Tr{K:Q0}(h:ZK v0 v1 w K):aJ P0 182 [v0,v1] w K:=
 tie _ 182 Tryz.f182 Qb _ w K 2 _ rfl mixed Tryz.func182 (by kernel_rfl) (by kernel_rfl) Tryz.call182 h
def Qa:fD:={js:=[(18005,⟨[26],[],24⟩),(2,⟨[],[],5⟩)],ds:=[]}
def ZJ(v0 v1 v2:Value)(w:World)(K:Q0):=jF 40 v0 w λt3 w1=>jF 35 v1 w1 λt4 w2=>dE (λJ3=>aR 0 t3 λt6=>ldW false 1 t6 w2 λt7=>aS .eql t7 (str [99,114,101,97,116,101,95,98,101,102,111,114,101,95,100,101,115,116,114,111,121]) λt9=>bB t9 (aR 0 t4 λt10=>ldW false 1 t10 w2 λt11=>aS .eql t11 (i64 2) λt12=>aR 5 v2 λt13=>stW 1 t13 t12 w2 λw4=>J3 [] w4) (aS .eql t7 (str [112,114,101,118,101,110,116,95,100,101,115,116,114,111,121]) λt15=>bB t15 (aR 0 t4 λt16=>ldW false 1 t16 w2 λt17=>aS .eql t17 (i64 2) λt18=>aR 6 v2 λt19=>stW 1 t19 t18 w2 λw5=>J3 [] w5) (K (.bool false) w2))) λs3 _ w6=>aR 0 t4 λt20=>ldW false 1 t20 w6 λt21=>aS .eql t21 (i64 2) λt22=>GdW (isB t22 false) [undef] w6 (λJ7=>aR 0 t4 λt24=>ldW false 1 t24 w6 λt25=>aS .eql t25 (i64 3) λt26=>J7 [t26] w6) λs7 _ w8=>cZ t22 (.bool true) (s7.getD 0 undef) λt27=>K t27 w8
theorem Tq{K:Q0}(h:ZJ v0 v1 v2 w K):aJ P0 183 [v0,v1,v2] w K:=
 tie _ 183 Tryz.f183 Qa _ w K 3 _ rfl mixed Tryz.func183 (by kernel_rfl) (by kernel_rfl) Tryz.call183 h
def PY:fD:={js:=[(3007,⟨[14],[],10⟩)],ds:=[]}
def ZH(v0 v1:Value)(w:World)(K:Q0):=jF 71 v0 w λt2 w1=>aR 0 t2 λt4=>ldW false 1 t4 w1 λt5=>aR 0 v1 λt6=>ldW false 1 t6 w1 λt7=>aS .eql t5 t7 λt8=>GdW (isB t8 true) [undef] w1 (λJ2=>aR 1 t2 λt10=>ldW false 1 t10 w1 λt11=>aR 1 v1 λt12=>ldW false 1 t12 w1 λt13=>aS .eql t11 t13 λt14=>J2 [t14] w1) λs2 _ w3=>cZ t8 (s2.getD 0 undef) (.bool false) λt15=>K t15 w3
theorem To{K:Q0}(h:ZH v0 v1 w K):aJ P0 185 [v0,v1] w K:=
 tie _ 185 Tryz.f185 PY _ w K 2 _ rfl mixed Tryz.func185 (by kernel_rfl) (by kernel_rfl) Tryz.call185 h
def PW:fD:={js:=[(15005,⟨[24],[],22⟩)],ds:=[]}
def ZG(v0 v1 v2 v3:Value)(w:World)(K:Q0):=jF 40 v0 w λt4 w1=>jF 35 v1 w1 λt5 w2=>aR 0 t4 λt7=>ldW false 1 t7 w2 λt8=>aS .neq t8 (str [115,111,117,114,99,101]) λt9=>bB t9 (aR 2 v2 λt10=>ldW false 1 t10 w2 λt11=>ldW true 3 t4 w2 λt12=>gO 40 1 [(str []),(i64 0),(i64 0)] [(0,3,t12)] w2 λt13 w3=>fY P0 (Builtin.append_ #[36,36] 36 #[t11,t13]) w3 λt14 w4=>aR 2 v2 λt15=>stW 1 t15 t14 w4 λw5=>K (.bool true) w5) (aR 1 t5 λt16=>ldW false 1 t16 w2 λt17=>stW 1 v3 t17 w2 λw6=>aR 0 t5 λt18=>ldW false 1 t18 w6 λt19=>aS .eql t19 (i64 5) λt20=>GdW (isB t20 true) [undef] w6 (λJ7=>aR 1 t5 λt22=>ldW false 1 t22 w6 λt23=>aJ P0 136 [t23] w6 λt24 w8=>J7 [t24] w8) λs7 _ w9=>cZ t20 (s7.getD 0 undef) (.bool false) λt25=>K t25 w9)
theorem Tm{K:Q0}(h:ZG v0 v1 v2 v3 w K):aJ P0 186 [v0,v1,v2,v3] w K:=
 tie _ 186 Tryz.f186 PW _ w K 4 _ rfl mixed Tryz.func186 (by kernel_rfl) (by kernel_rfl) Tryz.call186 h
def PU:fD:={js:=[],ds:=[]}
def ZE(v0 v1:Value)(w:World)(K:Q0):=jF 73 v0 w λt2 w1=>aR 0 t2 λt4=>ldW false 1 t4 w1 λt5=>aR 0 v1 λt6=>ldW false 1 t6 w1 λt7=>aS .eql t5 t7 λt8=>K t8 w1
theorem Tk{K:Q0}(h:ZE v0 v1 w K):aJ P0 188 [v0,v1] w K:=
 tie _ 188 Tryz.f188 PU _ w K 2 _ rfl mixed Tryz.func188 (by kernel_rfl) (by kernel_rfl) Tryz.call188 h
def PL:fD:={js:=[],ds:=[]}
def Zx(v0 v1:Value)(w:World)(K:Q0):=jF 40 v0 w λt2 w1=>aR 0 t2 λt4=>ldW false 1 t4 w1 λt5=>aR 0 v1 λt6=>ldW false 1 t6 w1 λt7=>aS .eql t5 t7 λt8=>K t8 w1
theorem Tc{K:Q0}(h:Zx v0 v1 w K):aJ P0 209 [v0,v1] w K:=
 tie _ 209 Tryz.f209 PL _ w K 2 _ rfl mixed Tryz.func209 (by kernel_rfl) (by kernel_rfl) Tryz.call209 h
def PK:fD:={js:=[(32,⟨[23],[12],23⟩)],ds:=[(27,⟨[0,1,2,3,4,5,6],[[],[],[1],[1,2],[1,2,3],[],[],[0,1,2,3,4,5,6]]⟩),(23,⟨[0,1,2,3,4,5,6],[[],[],[1],[1,2],[1,2,3],[],[],[0,1,2,3,4,5,6]]⟩),(18,⟨[0,1,2,3,4,5,6,7,8,9,10,11],[[],[],[1],[1,2],[1,2,3],[],[5],[5,6],[],[5,6,7,8],[],[],[0,1,2,3,4,5,6,7,8,9,10,11]]⟩)]}
def Zw(v0 v1 v2 v3 v4:Value)(w:World)(K:Q0):=jF 28 v0 w λt5 w1=>aR 0 t5 λt13=>ldW false 1 t13 w1 λt14=>fK none 5 t14 v1 λt16=>ldW true 5 t16 w1 λt17=>dA 35 zL1 w1 λt10 w2=>stW 5 t10 t17 w2 λw3=>aR 0 t10 λt18=>ldW false 1 t18 w3 λt19=>aS .eql t19 (i64 9) λt34=>bB t34 (aR 1 t10 λt36=>ldW false 1 t36 w3 λt37=>pV P0 (Instr.lookup 252 v3 t37 false) w3 λt38=>aS .eql t38 (i64 0) λt39=>bB t39 (aR 1 t10 λt41=>ldW false 1 t41 w3 λt42=>aS .add t42 v2 λt44=>CQ P0 (Instr.mapUpdate 252 v4 t44 (i64 1)) w3 λw4=>K (.tuple #[]) w4) (K (.tuple #[]) w3)) (aS .eql t19 (i64 10) λt46=>bB t46 (ldW true 3 t5 w3.drew λt47=>aR 2 t10 λt48=>ldW false 1 t48 w3.drew λt49=>fK none 1 t49 (i64 0) λt50=>ldW false 1 t50 w3.drew λt51=>aR 1 t10 λt52=>ldW false 1 t52 w3.drew λt53=>aS .add (str [46]) t53 λt54=>aS .add t54 v2 λt56=>aJ P0 210 [t47,t51,t56,v3,v4] w3.drew λt59 w5=>K (.tuple #[]) w5) (aS .eql t19 (i64 29) λt61=>bB t61 (ldW true 3 t5 w3.drew λt62=>aR 2 t10 λt63=>ldW false 1 t63 w3.drew λt64=>fK none 1 t64 (i64 0) λt65=>ldW false 1 t65 w3.drew λt66=>aJ P0 210 [t62,t66,(str []),v3,v4] w3.drew λt69 w6=>aR 1 t10 λt71=>ldW false 1 t71 w6 λt72=>pV P0 (Instr.lookup 252 v3 t72 false) w6 λt73=>aS .add t73 (i64 1) λt74=>CQ P0 (Instr.mapUpdate 252 v3 t72 t74) w6 λw7=>ldW true 3 t5 w7.drew λt75=>aR 2 t10 λt76=>ldW false 1 t76 w7.drew λt77=>fK none 1 t77 (i64 1) λt78=>ldW false 1 t78 w7.drew λt79=>aJ P0 210 [t75,t79,(str []),v3,v4] w7.drew λt82 w8=>aR 1 t10 λt84=>ldW false 1 t84 w8 λt85=>pV P0 (Instr.lookup 252 v3 t85 false) w8 λt86=>aS .sub t86 (i64 1) λt87=>CQ P0 (Instr.mapUpdate 252 v3 t85 t87) w8 λw9=>K (.tuple #[]) w9) (aR 2 t10 λt20=>ldW false 1 t20 w3 λt21=>fI t21 λt22=>dL [(i64 0)] w3 λs10 _ w11 L10=>aS .lss (s10.getD 0 undef) t22 λt24=>bB t24 (fK none 1 t21 (s10.getD 0 undef) λt25=>ldW false 1 t25 w11 λt26=>ldW true 3 t5 w11 λt27=>aJ P0 210 [t27,t26,(str []),v3,v4] w11 λt31 w12=>aS .add (s10.getD 0 undef) (i64 1) λt32=>L10 [t32] w12) (K (.tuple #[]) w11))))
theorem SY{K:Q0}(h:Zw v0 v1 v2 v3 v4 w K):aJ P0 210 [v0,v1,v2,v3,v4] w K:=
 tie _ 210 Tryz.f210 PK _ w K 5 _ rfl mixed Tryz.func210 (by kernel_rfl) (by kernel_rfl) Tryz.call210 h
def Wq:fD:={js:=[(63,⟨[152],[6,13],152⟩),(54002,⟨[147],[],140⟩),(54007,⟨[146],[],142⟩),(54009,⟨[141],[],140⟩),(54018,⟨[137],[],131⟩),(54026,⟨[128],[],123⟩),(54034,⟨[120],[],115⟩),(50,⟨[11,12],[11,12],97⟩),(39,⟨[96],[6,10,11,12,13],96⟩),(28002,⟨[90],[],83⟩),(28007,⟨[89],[],85⟩),(28009,⟨[84],[],83⟩),(28017,⟨[80],[],75⟩),(28025,⟨[72],[],67⟩),(28032,⟨[64],[],60⟩),(25,⟨[8,9],[8,9],42⟩),(14,⟨[41],[6,7,8,9],41⟩),(4007,⟨[36],[],31⟩),(4016,⟨[28],[],22⟩)],ds:=[(75,⟨[0,1,2,3,4,5,6,7,8,9,10,11,12,13,14,15,16,17,18,19,20,21,22,23,24,25,26,27,28,29,30,31,32,33,34,35,36,37,38,39,40,41,42,43,44,45],[[],[0],[],[0,1,2],[0,1,2,3],[0,1,2,3,4],[],[6],[],[6,7,8],[6,7,8,9],[6,7,8,9,10],[0,1,2,3,4,5,6,7,8,9,10,11],[0,1,2,3,4,5,6,7,8,9,10,11,12],[0,1,2,3,4,5,6,7,8,9,10,11,12,13],[0,1,2,3,4,5,6,7,8,9,10,11,12,13,14],[0,1,2,3,4,5,6,7,8,9,10,11,12,13],[0,1,2,3,4,5,6,7,8,9,10,11,12,13,14,15,16],[0,1,2,3,4,5,6,7,8,9,10,11,12,13,14,15,16,17],[0,1,2,3,4,5,6,7,8,9,10,11,12,13,14,15,16,17,18],[0,1,2,3,4,5,6,7,8,9,10,11,12,13],[0,1,2,3,4,5,6,7,8,9,10,11,12,13,20],[0,1,2,3,4,5,6,7,8,9,10,11,12,13],[0,1,2,3,4,5,6,7,8,9,10,11,12,13,20,21,22],[0,1,2,3,4,5,6,7,8,9,10,11,12,13,20,21,22,23],[0,1,2,3,4,5,6,7,8,9,10,11,12,13,20,21,22,23,24],[0,1,2,3,4,5,6,7,8,9,10,11,12,13,14,15,16,17,18,19,20,21,22,23,24,25],[0,1,2,3,4,5,6,7,8,9,10,11,12,13,14,15,16,17,18,19,20,21,22,23,24,25,26],[0,1,2,3,4,5,6,7,8,9,10,11,12,13,14,15,16,17,18,19,20,21,22,23,24,25,26,27],[0,1,2,3,4,5,6,7,8,9,10,11,12,13,14,15,16,17,18,19,20,21,22,23,24,25,26,27,28],[0,1,2,3,4,5,6,7,8,9,10,11,12,13,14,15,16,17,18,19,20,21,22,23,24,25,26,27,28,29],[0,1,2,3,4,5,6,7,8,9,10,11,12,13,14,15,16,17,18,19,20,21,22,23,24,25,26,27,28,29,30],[0,1,2,3,4,5,6,7,8,9,10,11,12,13,14,15,16,17,18,19,20,21,22,23,24,25,26,27,28,29,30,31],[0,1,2,3,4,5,6,7,8,9,10,11,12,13,14,15,16,17,18,19,20,21,22,23,24,25,26,27,28,29,30],[0,1,2,3,4,5,6,7,8,9,10,11,12,13,14,15,16,17,18,19,20,21,22,23,24,25,26,27,28,29,30,31,32,33],[0,1,2,3,4,5,6,7,8,9,10,11,12,13,14,15,16,17,18,19,20,21,22,23,24,25,26,27,28,29,30,31,32,33,34],[0,1,2,3,4,5,6,7,8,9,10,11,12,13,14,15,16,17,18,19,20,21,22,23,24,25,26,27,28,29,30,31,32,33,34,35],[0,1,2,3,4,5,6,7,8,9,10,11,12,13,14,15,16,17,18,19,20,21,22,23,24,25,26,27,28,29,30],[0,1,2,3,4,5,6,7,8,9,10,11,12,13,14,15,16,17,18,19,20,21,22,23,24,25,26,27,28,29,30,37],[0,1,2,3,4,5,6,7,8,9,10,11,12,13,14,15,16,17,18,19,20,21,22,23,24,25,26,27,28,29,30],[0,1,2,3,4,5,6,7,8,9,10,11,12,13,14,15,16,17,18,19,20,21,22,23,24,25,26,27,28,29,30,37,38,39],[0,1,2,3,4,5,6,7,8,9,10,11,12,13,14,15,16,17,18,19,20,21,22,23,24,25,26,27,28,29,30,37,38,39,40],[0,1,2,3,4,5,6,7,8,9,10,11,12,13,14,15,16,17,18,19,20,21,22,23,24,25,26,27,28,29,30,37,38,39,40,41],[0,1,2,3,4,5,6,7,8,9,10,11,12,13,14,15,16,17,18,19,20,21,22,23,24,25,26,27,28,29,30,31,32,33,34,35,36,37,38,39,40,41,42],[0,1,2,3,4,5,6,7,8,9,10,11,12,13,14,15,16,17,18,19,20,21,22,23,24,25,26,27,28,29,30,31,32,33,34,35,36,37,38,39,40,41,42,43],[0,1,2,3,4,5,6,7,8,9,10,11,12,13,14,15,16,17,18,19,20,21,22,23,24,25,26,27,28,29,30,31,32,33,34,35,36,37,38,39,40,41,42,43,44]]⟩),(51,⟨[0,1,2,3,4,5,6,7,8,9],[[],[0],[],[0,1,2],[0,1,2,3],[],[5],[],[5,6,7],[5,6,7,8],[],[],[0,1,2,3,4,10,11],[0,1,2,3,4,5,6,7,8,9,10,11,12]]⟩),(26,⟨[0,1,2,3,4,5,6,7,8,9],[[],[0],[],[0,1,2],[0,1,2,3],[],[5],[],[5,6,7],[5,6,7,8],[],[],[0,1,2,3,4,10,11],[0,1,2,3,4,5,6,7,8,9,10,11,12]]⟩)]}
def W14(v0 v1 v2:Value)(w:World)(K:Q0):=jF 28 v0 w λt3 w1=>jF 28 v1 w1 λt4 w2=>aR 0 t3 λt14=>ldW false 1 t14 w2 λt15=>fI t15 λt16=>aR 0 t4 λt17=>ldW false 1 t17 w2 λt18=>fI t18 λt19=>aS .neq t16 t19 λt20=>GdW (isB t20 false) [undef] w2 (λJ3=>aR 1 t3 λt22=>ldW false 1 t22 w2 λt23=>fI t23 λt24=>aR 1 t4 λt25=>ldW false 1 t25 w2 λt26=>fI t26 λt27=>aS .neq t24 t27 λt28=>J3 [t28] w2) λs3 _ w4=>cZ t20 (.bool true) (s3.getD 0 undef) λt29=>GdW (isB t29 false) [undef] w4 (λJ5=>aR 2 t3 λt31=>ldW false 1 t31 w4 λt32=>aR 2 t4 λt33=>ldW false 1 t33 w4 λt34=>aJ P0 41 [t32,t34] w4 λt35 w6=>unW .not t35 λt36=>J5 [t36] w6) λs5 _ w7=>cZ t29 (.bool true) (s5.getD 0 undef) λt37=>bB t37 (K (.bool false) w7) (aR 0 t3 λt38=>ldW false 1 t38 w7 λt39=>fI t39 λt40=>dL [(i64 0)] w7 λs8 _ w9 L8=>aS .lss (s8.getD 0 undef) t40 λt42=>bB t42 (dE (λJ10=>aR 0 t3 λt44=>ldW false 1 t44 w9.drew λt45=>fK none 5 t45 (s8.getD 0 undef) λt47=>ldW true 5 t47 w9.drew λt48=>aR 0 t4 λt49=>ldW false 1 t49 w9.drew λt50=>fK none 5 t50 (s8.getD 0 undef) λt52=>ldW true 5 t52 w9.drew λt53=>(dA 35 zL1 w9.drew λt8 w11=>(ldW true 5 t52 w11 λx=>x=t53)/\(ldW false 1 t49 w11 λx=>x=t50)/\(ldW true 5 t47 w11 λx=>x=t48)/\(ldW false 1 t44 w11 λx=>x=t45)/\dA 35 zL1 w11 λt9 w12=>(ldW true 5 t52 w12 λx=>x=t53)/\(ldW false 1 t49 w12 λx=>x=t50)/\(ldW true 5 t47 w12 λx=>x=t48)/\(ldW false 1 t44 w12 λx=>x=t45)/\stW 5 t8 t48 w12 λw13=>(ldW true 5 t52 w13 λx=>x=t53)/\(ldW false 1 t49 w13 λx=>x=t50)/\stW 5 t9 t53 w13 λw14=>J10 [t8,t9] w14)/\(dA 35 zL1 w9.drew λt9 w15=>(ldW true 5 t52 w15 λx=>x=t53)/\(ldW false 1 t49 w15 λx=>x=t50)/\(ldW true 5 t47 w15 λx=>x=t48)/\(ldW false 1 t44 w15 λx=>x=t45)/\dA 35 zL1 w15 λt8 w16=>(ldW true 5 t52 w16 λx=>x=t53)/\(ldW false 1 t49 w16 λx=>x=t50)/\(ldW true 5 t47 w16 λx=>x=t48)/\(ldW false 1 t44 w16 λx=>x=t45)/\stW 5 t8 t48 w16 λw17=>(ldW true 5 t52 w17 λx=>x=t53)/\(ldW false 1 t49 w17 λx=>x=t50)/\stW 5 t9 t53 w17 λw18=>J10 [t8,t9] w18)) λs10 _ w19=>aR 0 (s10.getD 0 undef) λt54=>ldW false 1 t54 w19 λt55=>aR 0 (s10.getD 1 undef) λt56=>ldW false 1 t56 w19 λt57=>aS .neq t55 t57 λt58=>GdW (isB t58 false) [undef] w19 (λJ20=>aR 1 (s10.getD 0 undef) λt60=>ldW false 1 t60 w19 λt61=>aR 1 (s10.getD 1 undef) λt62=>ldW false 1 t62 w19 λt63=>aS .neq t61 t63 λt64=>J20 [t64] w19) λs20 _ w21=>cZ t58 (.bool true) (s20.getD 0 undef) λt65=>GdW (isB t65 false) [undef] w21 (λJ22=>aR 2 (s10.getD 0 undef) λt67=>ldW false 1 t67 w21 λt68=>aR 2 (s10.getD 1 undef) λt69=>ldW false 1 t69 w21 λt70=>aJ P0 41 [t68,t70] w21 λt71 w23=>unW .not t71 λt72=>J22 [t72] w23) λs22 _ w24=>cZ t65 (.bool true) (s22.getD 0 undef) λt73=>GdW (isB t73 false) [undef] w24 (λJ25=>aR 3 (s10.getD 0 undef) λt75=>ldW false 1 t75 w24 λt76=>aR 3 (s10.getD 1 undef) λt77=>ldW false 1 t77 w24 λt78=>aJ P0 25 [t76,t78] w24 λt79 w26=>unW .not t79 λt80=>J25 [t80] w26) λs25 _ w27=>cZ t73 (.bool true) (s25.getD 0 undef) λt81=>GdW (isB t81 false) [undef] w27 (λJ28=>J28 [v2] w27) λs28 _ w29=>GdW (isB (s28.getD 0 undef) true) [undef] w29 (λJ30=>aR 4 (s10.getD 0 undef) λt85=>ldW false 1 t85 w29 λt86=>aR 4 (s10.getD 1 undef) λt87=>ldW false 1 t87 w29 λt88=>aS .neq t86 t88 λt89=>J30 [t89] w29) λs30 _ w31=>GdW (isB t81 false) [undef] w31 (λJ32=>cZ (s28.getD 0 undef) (s30.getD 0 undef) (.bool false) λt90=>J32 [t90] w31) λs32 _ w33=>cZ t81 (.bool true) (s32.getD 0 undef) λt91=>bB t91 (K (.bool false) w33) (aS .add (s8.getD 0 undef) (i64 1) λt92=>L8 [t92] w33)) (aR 1 t3 λt93=>ldW false 1 t93 w9 λt94=>fI t94 λt95=>dL [(i64 0)] w9 λs34 _ w35 L34=>aS .lss (s34.getD 0 undef) t95 λt97=>bB t97 (dE (λJ36=>aR 1 t3 λt99=>ldW false 1 t99 w35.drew λt100=>fK none 5 t100 (s34.getD 0 undef) λt102=>ldW true 5 t102 w35.drew λt103=>aR 1 t4 λt104=>ldW false 1 t104 w35.drew λt105=>fK none 5 t105 (s34.getD 0 undef) λt107=>ldW true 5 t107 w35.drew λt108=>(dA 38 zL4 w35.drew λt11 w37=>(ldW true 5 t107 w37 λx=>x=t108)/\(ldW false 1 t104 w37 λx=>x=t105)/\(ldW true 5 t102 w37 λx=>x=t103)/\(ldW false 1 t99 w37 λx=>x=t100)/\dA 38 zL4 w37 λt12 w38=>(ldW true 5 t107 w38 λx=>x=t108)/\(ldW false 1 t104 w38 λx=>x=t105)/\(ldW true 5 t102 w38 λx=>x=t103)/\(ldW false 1 t99 w38 λx=>x=t100)/\stW 5 t11 t103 w38 λw39=>(ldW true 5 t107 w39 λx=>x=t108)/\(ldW false 1 t104 w39 λx=>x=t105)/\stW 5 t12 t108 w39 λw40=>J36 [t11,t12] w40)/\(dA 38 zL4 w35.drew λt12 w41=>(ldW true 5 t107 w41 λx=>x=t108)/\(ldW false 1 t104 w41 λx=>x=t105)/\(ldW true 5 t102 w41 λx=>x=t103)/\(ldW false 1 t99 w41 λx=>x=t100)/\dA 38 zL4 w41 λt11 w42=>(ldW true 5 t107 w42 λx=>x=t108)/\(ldW false 1 t104 w42 λx=>x=t105)/\(ldW true 5 t102 w42 λx=>x=t103)/\(ldW false 1 t99 w42 λx=>x=t100)/\stW 5 t11 t103 w42 λw43=>(ldW true 5 t107 w43 λx=>x=t108)/\(ldW false 1 t104 w43 λx=>x=t105)/\stW 5 t12 t108 w43 λw44=>J36 [t11,t12] w44)) λs36 _ w45=>aR 0 (s36.getD 0 undef) λt109=>ldW false 1 t109 w45 λt110=>aR 0 (s36.getD 1 undef) λt111=>ldW false 1 t111 w45 λt112=>aS .neq t110 t112 λt113=>GdW (isB t113 false) [undef] w45 (λJ46=>aR 1 (s36.getD 0 undef) λt115=>ldW false 1 t115 w45 λt116=>aR 1 (s36.getD 1 undef) λt117=>ldW false 1 t117 w45 λt118=>aJ P0 25 [t116,t118] w45 λt119 w47=>unW .not t119 λt120=>J46 [t120] w47) λs46 _ w48=>cZ t113 (.bool true) (s46.getD 0 undef) λt121=>GdW (isB t121 false) [undef] w48 (λJ49=>aR 3 (s36.getD 0 undef) λt123=>ldW false 1 t123 w48 λt124=>aR 3 (s36.getD 1 undef) λt125=>ldW false 1 t125 w48 λt126=>aJ P0 41 [t124,t126] w48 λt127 w50=>unW .not t127 λt128=>J49 [t128] w50) λs49 _ w51=>cZ t121 (.bool true) (s49.getD 0 undef) λt129=>GdW (isB t129 false) [undef] w51 (λJ52=>aR 2 (s36.getD 0 undef) λt131=>ldW false 1 t131 w51 λt132=>fI t132 λt133=>aR 2 (s36.getD 1 undef) λt134=>ldW false 1 t134 w51 λt135=>fI t135 λt136=>aS .neq t133 t136 λt137=>J52 [t137] w51) λs52 _ w53=>cZ t129 (.bool true) (s52.getD 0 undef) λt138=>GdW (isB t138 false) [undef] w53 (λJ54=>J54 [v2] w53) λs54 _ w55=>GdW (isB (s54.getD 0 undef) true) [undef] w55 (λJ56=>aR 4 (s36.getD 0 undef) λt142=>ldW false 1 t142 w55 λt143=>aR 4 (s36.getD 1 undef) λt144=>ldW false 1 t144 w55 λt145=>aS .neq t143 t145 λt146=>J56 [t146] w55) λs56 _ w57=>GdW (isB t138 false) [undef] w57 (λJ58=>cZ (s54.getD 0 undef) (s56.getD 0 undef) (.bool false) λt147=>J58 [t147] w57) λs58 _ w59=>cZ t138 (.bool true) (s58.getD 0 undef) λt148=>bB t148 (K (.bool false) w59) (aR 2 (s36.getD 0 undef) λt149=>ldW false 1 t149 w59 λt150=>fI t150 λt151=>dL [(i64 0)] w59 λs60 _ w61 L60=>aS .lss (s60.getD 0 undef) t151 λt153=>bB t153 (aR 2 (s36.getD 0 undef) λt155=>ldW false 1 t155 w61.drew λt156=>fK none 3 t156 (s60.getD 0 undef) λt158=>aR 0 t158 λt159=>ldW false 1 t159 w61.drew λt160=>aR 2 (s36.getD 1 undef) λt161=>ldW false 1 t161 w61.drew λt162=>fK none 3 t162 (s60.getD 0 undef) λt164=>aR 0 t164 λt165=>ldW false 1 t165 w61.drew λt166=>aS .neq t160 t166 λt167=>GqW (isB t167 false) (λk62=>aR 2 (s36.getD 0 undef) k62) λt169=>GqW (isB t167 false) (λk63=>ldW false 1 t169 w61.drew k63) λt170=>GqW (isB t167 false) (λk64=>k64 (s60.getD 0 undef)) λt171=>GqW (isB t167 false) (λk65=>fK none 3 t170 t171 k65) λt172=>GqW (isB t167 false) (λk66=>aR 1 t172 k66) λt173=>GqW (isB t167 false) (λk67=>ldW false 1 t173 w61.drew k67) λt174=>GqW (isB t167 false) (λk68=>aR 2 (s36.getD 1 undef) k68) λt175=>GqW (isB t167 false) (λk69=>ldW false 1 t175 w61.drew k69) λt176=>GqW (isB t167 false) (λk70=>k70 (s60.getD 0 undef)) λt177=>GqW (isB t167 false) (λk71=>fK none 3 t176 t177 k71) λt178=>GqW (isB t167 false) (λk72=>aR 1 t178 k72) λt179=>GqW (isB t167 false) (λk73=>ldW false 1 t179 w61.drew k73) λt180=>GqW (isB t167 false) (λk74=>aS .neq t174 t180 k74) λt181=>cZ t167 (.bool true) t181 λt182=>GqW (isB t182 false) (λk75=>k75 v2) λt184=>GqW (isB t182 false) (λk76=>k76 t184) λt185=>GqW (isB t185 true) (λk77=>aR 2 (s36.getD 0 undef) k77) λt186=>GqW (isB t185 true) (λk78=>ldW false 1 t186 w61.drew k78) λt187=>GqW (isB t185 true) (λk79=>k79 (s60.getD 0 undef)) λt188=>GqW (isB t185 true) (λk80=>fK none 3 t187 t188 k80) λt189=>GqW (isB t185 true) (λk81=>aR 2 t189 k81) λt190=>GqW (isB t185 true) (λk82=>ldW false 1 t190 w61.drew k82) λt191=>GqW (isB t185 true) (λk83=>aR 2 (s36.getD 1 undef) k83) λt192=>GqW (isB t185 true) (λk84=>ldW false 1 t192 w61.drew k84) λt193=>GqW (isB t185 true) (λk85=>k85 (s60.getD 0 undef)) λt194=>GqW (isB t185 true) (λk86=>fK none 3 t193 t194 k86) λt195=>GqW (isB t185 true) (λk87=>aR 2 t195 k87) λt196=>GqW (isB t185 true) (λk88=>ldW false 1 t196 w61.drew k88) λt197=>GqW (isB t185 true) (λk89=>aS .neq t191 t197 k89) λt198=>GqW (isB t182 false) (λk90=>cZ t185 t198 (.bool false) k90) λt199=>cZ t182 (.bool true) t199 λt200=>bB t200 (K (.bool false) w61.drew) (aS .add (s60.getD 0 undef) (i64 1) λt201=>L60 [t201] w61.drew)) (aS .add (s34.getD 0 undef) (i64 1) λt202=>L34 [t202] w61))) (K (.bool true) w35)))
theorem Yd{K:Q0}(h:W14 v0 v1 v2 w K):aJ P0 14 [v0,v1,v2] w K:=
 tie _ 14 Tryz.f14 Wq _ w K 3 _ rfl mixed Tryz.func14 (by kernel_rfl) (by kernel_rfl) Tryz.call14 h
def Wl:fD:={js:=[(14,⟨[16],[4,5],16⟩)],ds:=[(26,⟨[0,1,2,3,4,5,6,7,8,9,11],[[],[0],[],[0,1,2],[0,1,2,3],[],[5],[],[5,6,7],[5,6,7,8],[0,1,2,3,4,5,6,7,8,9],[0,1,2,3,4,5,6,7,8,9,10]]⟩)]}
def W24(v0 v1:Value)(w:World)(K:Q0):=jF 60 v0 w λt2 w1=>jF 60 v1 w1 λt3 w2=>aR 0 t2 λt6=>ldW false 1 t6 w2 λt7=>fI t7 λt8=>aR 0 t3 λt9=>ldW false 1 t9 w2 λt10=>fI t10 λt11=>aS .neq t8 t11 λt12=>bB t12 (K (.bool false) w2) (aR 0 t2 λt13=>ldW false 1 t13 w2 λt14=>fI t14 λt15=>dL [(i64 0)] w2 λs3 _ w4 L3=>aS .lss (s3.getD 0 undef) t15 λt17=>bB t17 (aR 0 t2 λt19=>ldW false 1 t19 w4.drew λt20=>fK none 9 t20 (s3.getD 0 undef) λt22=>ldW true 9 t22 w4.drew λt23=>aR 0 t3 λt24=>ldW false 1 t24 w4.drew λt25=>fK none 9 t25 (s3.getD 0 undef) λt27=>ldW true 9 t27 w4.drew λt28=>aJ P0 58 [t23,t28] w4.drew λt29 w5=>unW .not t29 λt30=>bB t30 (K (.bool false) w5) (aS .add (s3.getD 0 undef) (i64 1) λt31=>L3 [t31] w5)) (K (.bool true) w4))
theorem XV{K:Q0}(h:W24 v0 v1 w K):aJ P0 24 [v0,v1] w K:=
 tie _ 24 Tryz.f24 Wl _ w K 2 _ rfl mixed Tryz.func24 (by kernel_rfl) (by kernel_rfl) Tryz.call24 h
def Wk:fD:={js:=[(14,⟨[13],[4,5],13⟩)],ds:=[(26,⟨[0,1,2,3,4,5,6,7,8],[[],[],[0,1],[0,1,2],[],[],[4,5],[4,5,6],[0,1,2,3,4,5,6,7]]⟩)]}
def W25(v0 v1:Value)(w:World)(K:Q0):=fI v0 λt7=>fI v1 λt9=>aS .neq t7 t9 λt10=>bB t10 (K (.bool false) w) (fI v0 λt12=>dL [(i64 0)] w λs1 _ w2 L1=>aS .lss (s1.getD 0 undef) t12 λt14=>bB t14 (fK none 1 v0 (s1.getD 0 undef) λt18=>ldW false 1 t18 w2.drew λt19=>fK none 1 v1 (s1.getD 0 undef) λt22=>ldW false 1 t22 w2.drew λt23=>aS .neq t19 t23 λt24=>bB t24 (K (.bool false) w2.drew) (aS .add (s1.getD 0 undef) (i64 1) λt25=>L1 [t25] w2.drew)) (K (.bool true) w2))
theorem XU{K:Q0}(h:W25 v0 v1 w K):aJ P0 25 [v0,v1] w K:=
 tie _ 25 Tryz.f25 Wk _ w K 2 _ rfl mixed Tryz.func25 (by kernel_rfl) (by kernel_rfl) Tryz.call25 h
def Wd:fD:={js:=[(14,⟨[13],[4,5],13⟩)],ds:=[(26,⟨[0,1,2,3,4,5,6,7,8],[[],[],[0,1],[0,1,2],[],[],[4,5],[4,5,6],[0,1,2,3,4,5,6,7]]⟩)]}
def W41(v0 v1:Value)(w:World)(K:Q0):=fI v0 λt7=>fI v1 λt9=>aS .neq t7 t9 λt10=>bB t10 (K (.bool false) w) (fI v0 λt12=>dL [(i64 0)] w λs1 _ w2 L1=>aS .lss (s1.getD 0 undef) t12 λt14=>bB t14 (fK none 1 v0 (s1.getD 0 undef) λt18=>ldW false 1 t18 w2.drew λt19=>fK none 1 v1 (s1.getD 0 undef) λt22=>ldW false 1 t22 w2.drew λt23=>aS .neq t19 t23 λt24=>bB t24 (K (.bool false) w2.drew) (aS .add (s1.getD 0 undef) (i64 1) λt25=>L1 [t25] w2.drew)) (K (.bool true) w2))
theorem XO{K:Q0}(h:W41 v0 v1 w K):aJ P0 41 [v0,v1] w K:=
 tie _ 41 Tryz.f41 Wd _ w K 2 _ rfl mixed Tryz.func41 (by kernel_rfl) (by kernel_rfl) Tryz.call41 h
def Wa:fD:={js:=[],ds:=[]}
def W48(w:World)(K:Q0):=dA 55 zL2 w λt0 w1=>jS [sN,(i64 0),(i64 0),(.bool false)] [(2,1,(.int .i64 (-1)))] λc2=>stW 4 t0 (.agg c2.toArray) w1 λw3=>ldW true 4 t0 w3 λr4=>K r4 w3
theorem XL{K:Q0}(h:W48 w K):aJ P0 48 [] w K:=
 tie _ 48 Tryz.f48 Wa _ w K 0 _ rfl mixed Tryz.func48 (by kernel_rfl) (by kernel_rfl) Tryz.call48 h
def VZ:fD:={js:=[(40,⟨[],[],13⟩),(22003,⟨[37],[],36⟩),(14002,⟨[31],[],24⟩),(14006,⟨[30],[],27⟩),(14009,⟨[26],[],24⟩)],ds:=[]}
def W49(v0 v1 v2 v3:Value)(w:World)(K:Q0):=jF 55 v0 w λt4 w1=>dA 55 zL2 w1 λt8 w2=>ldW true 4 t4 w2 λt13=>aJ P0 89 [t13,v1] w2 λt15 w3=>aJ P0 90 [v1] w3 λt17 w4=>unW .not t17 λt18=>bB t18 (ldW true 4 t4 w4 λt19=>stW 4 t8 t19 w4 λw5=>ldW true 4 t8 w5 λr6=>K (.tuple #[r6,(i64 6)]) w5) (kA v2 λt21=>aS .gtr t21 (i64 65536) λt22=>GdW (isB t22 false) [undef] w4 (λJ7=>aS .lss t15 (i64 0) λt25=>J7 [t25] w4) λs7 _ w8=>GdW (isB (s7.getD 0 undef) true) [undef] w8 (λJ9=>aR 0 t4 λt27=>ldW false 1 t27 w8 λt28=>fI t28 λt29=>aS .geq t29 (i64 64) λt30=>J9 [t30] w8) λs9 _ w10=>GdW (isB t22 false) [undef] w10 (λJ11=>cZ (s7.getD 0 undef) (s9.getD 0 undef) (.bool false) λt31=>J11 [t31] w10) λs11 _ w12=>cZ t22 (.bool true) (s11.getD 0 undef) λt32=>bB t32 (ldW true 4 t4 w12 λt33=>stW 4 t8 t33 w12 λw13=>ldW true 4 t8 w13 λr14=>K (.tuple #[r14,(i64 3)]) w13) (GdW (isB v3 true) [undef] w12 (λJ15=>aS .geq t15 (i64 0) λt37=>J15 [t37] w12) λs15 _ w16=>cZ v3 (s15.getD 0 undef) (.bool false) λt38=>bB t38 (ldW true 4 t4 w16 λt39=>stW 4 t8 t39 w16 λw17=>ldW true 4 t8 w17 λr18=>K (.tuple #[r18,(i64 2)]) w17) (ldW true 4 t4 w16 λt41=>aJ P0 91 [t41] w16 λt42 w19=>jQ 0 t42 λt43=>jQ 1 t42 λt44=>stW 4 t4 t43 w19 λw20=>aS .neq t44 (i64 0) λt46=>bB t46 (ldW true 4 t4 w20 λt47=>stW 4 t8 t47 w20 λw21=>ldW true 4 t8 w21 λr22=>K (.tuple #[r22,t44]) w21) (jS [(str []),(str []),(str []),(.bool false)] [(0,1,v1),(1,1,v2)] λc23=>dA 173 [(str []),(str []),(str []),(.bool false)] w20 λt12 w24=>stW 4 t12 (.agg c23.toArray) w24 λw25=>dE (λJ26=>aS .geq t15 (i64 0) λt53=>bB t53 (aR 0 t4 λt54=>ldW false 1 t54 w25 λt55=>fK none 4 t55 t15 λt57=>aR 2 t57 λt58=>ldW false 1 t58 w25 λt59=>aR 2 t12 λt60=>stW 1 t60 t59 w25 λw27=>aR 0 t4 λt61=>ldW false 1 t61 w27 λt62=>fK none 4 t62 t15 λt64=>aR 3 t64 λt65=>ldW false 1 t65 w27 λt66=>aR 3 t12 λt67=>stW 1 t67 t66 w27 λw28=>J26 [] w28) (J26 [] w25)) λs26 _ w29=>aR 0 t4 λt68=>ldW false 1 t68 w29 λt69=>ldW true 4 t12 w29 λt70=>aJ P0 92 [t69,t70] w29 λt71 w30=>aR 0 t4 λt72=>stW 1 t72 t71 w30 λw31=>ldW true 4 t4 w31 λt73=>stW 4 t8 t73 w31 λw32=>ldW true 4 t8 w32 λr33=>K (.tuple #[r33,(i64 0)]) w32))))
theorem XK{K:Q0}(h:W49 v0 v1 v2 v3 w K):aJ P0 49 [v0,v1,v2,v3] w K:=
 tie _ 49 Tryz.f49 VZ _ w K 4 _ rfl mixed Tryz.func49 (by kernel_rfl) (by kernel_rfl) Tryz.call49 h
def VS:fD:={js:=[(76006,⟨[207],[],203⟩),(76014,⟨[200],[],195⟩),(76021,⟨[192],[],188⟩),(73,⟨[10,11],[10,11],170⟩),(62,⟨[169],[4,9,10,11],169⟩),(51006,⟨[163],[],159⟩),(51014,⟨[156],[],151⟩),(51021,⟨[148],[],144⟩),(51028,⟨[141],[],137⟩),(51035,⟨[134],[],130⟩),(51042,⟨[127],[],123⟩),(51050,⟨[120],[],115⟩),(51057,⟨[112],[],108⟩),(48,⟨[7,8],[7,8],90⟩),(37,⟨[89],[4,6,7,8],89⟩),(14,⟨[71],[4,5],71⟩),(4008,⟨[66],[],60⟩),(4017,⟨[57],[],51⟩),(4025,⟨[48],[],43⟩),(4033,⟨[40],[],35⟩),(4042,⟨[32],[],26⟩),(4050,⟨[23],[],18⟩)],ds:=[(74,⟨[0,1,2,3,4,5,6,7,8,9],[[],[0],[],[0,1,2],[0,1,2,3],[],[5],[],[5,6,7],[5,6,7,8],[],[],[0,1,2,3,4,10,11],[0,1,2,3,4,5,6,7,8,9,10,11,12]]⟩),(49,⟨[0,1,2,3,4,5,6,7,8,9],[[],[0],[],[0,1,2],[0,1,2,3],[],[5],[],[5,6,7],[5,6,7,8],[],[],[0,1,2,3,4,10,11],[0,1,2,3,4,5,6,7,8,9,10,11,12]]⟩),(26,⟨[0,1,2,3,4,5,6,7,8,9,10],[[],[0],[],[0,1,2],[0,1,2,3],[],[5],[],[5,6,7],[5,6,7,8],[0,1,2,3,4,5,6,7,8,9]]⟩)]}
def W58(v0 v1:Value)(w:World)(K:Q0):=jF 67 v0 w λt2 w1=>jF 67 v1 w1 λt3 w2=>aR 0 t2 λt12=>ldW false 1 t12 w2 λt13=>aR 0 t3 λt14=>ldW false 1 t14 w2 λt15=>aS .neq t13 t15 λt16=>GdW (isB t16 false) [undef] w2 (λJ3=>aR 1 t2 λt18=>ldW true 3 t18 w2 λt19=>aR 1 t3 λt20=>ldW true 3 t20 w2 λt21=>aJ P0 14 [t19,t21,(.bool true)] w2 λt22 w4=>unW .not t22 λt23=>J3 [t23] w4) λs3 _ w5=>cZ t16 (.bool true) (s3.getD 0 undef) λt24=>GdW (isB t24 false) [undef] w5 (λJ6=>aR 4 t2 λt26=>ldW false 1 t26 w5 λt27=>fI t27 λt28=>aR 4 t3 λt29=>ldW false 1 t29 w5 λt30=>fI t30 λt31=>aS .neq t28 t31 λt32=>J6 [t32] w5) λs6 _ w7=>cZ t24 (.bool true) (s6.getD 0 undef) λt33=>GdW (isB t33 false) [undef] w7 (λJ8=>aR 5 t2 λt35=>ldW false 1 t35 w7 λt36=>aR 5 t3 λt37=>ldW false 1 t37 w7 λt38=>aJ P0 102 [t36,t38] w7 λt39 w9=>unW .not t39 λt40=>J8 [t40] w9) λs8 _ w10=>cZ t33 (.bool true) (s8.getD 0 undef) λt41=>GdW (isB t41 false) [undef] w10 (λJ11=>aR 6 t2 λt43=>ldW false 1 t43 w10 λt44=>aR 6 t3 λt45=>ldW false 1 t45 w10 λt46=>aJ P0 102 [t44,t46] w10 λt47 w12=>unW .not t47 λt48=>J11 [t48] w12) λs11 _ w13=>cZ t41 (.bool true) (s11.getD 0 undef) λt49=>GdW (isB t49 false) [undef] w13 (λJ14=>aR 7 t2 λt51=>ldW false 1 t51 w13 λt52=>fI t52 λt53=>aR 7 t3 λt54=>ldW false 1 t54 w13 λt55=>fI t55 λt56=>aS .neq t53 t56 λt57=>J14 [t57] w13) λs14 _ w15=>cZ t49 (.bool true) (s14.getD 0 undef) λt58=>GdW (isB t58 false) [undef] w15 (λJ16=>aR 8 t2 λt60=>ldW false 1 t60 w15 λt61=>fI t61 λt62=>aR 8 t3 λt63=>ldW false 1 t63 w15 λt64=>fI t64 λt65=>aS .neq t62 t65 λt66=>J16 [t66] w15) λs16 _ w17=>cZ t58 (.bool true) (s16.getD 0 undef) λt67=>bB t67 (K (.bool false) w17) (aR 4 t2 λt68=>ldW false 1 t68 w17 λt69=>fI t69 λt70=>dL [(i64 0)] w17 λs18 _ w19 L18=>aS .lss (s18.getD 0 undef) t70 λt72=>bB t72 (aR 4 t2 λt74=>ldW false 1 t74 w19.drew λt75=>fK none 3 t75 (s18.getD 0 undef) λt77=>ldW true 3 t77 w19.drew λt78=>aR 4 t3 λt79=>ldW false 1 t79 w19.drew λt80=>fK none 3 t80 (s18.getD 0 undef) λt82=>ldW true 3 t82 w19.drew λt83=>eqQ P0 .neq 69 false false t78 t83 w19.drew λt84=>bB t84 (K (.bool false) w19.drew) (aS .add (s18.getD 0 undef) (i64 1) λt85=>L18 [t85] w19.drew)) (aR 7 t2 λt86=>ldW false 1 t86 w19 λt87=>fI t87 λt88=>dL [(i64 0)] w19 λs20 _ w21 L20=>aS .lss (s20.getD 0 undef) t88 λt90=>bB t90 (dE (λJ22=>aR 7 t2 λt92=>ldW false 1 t92 w21.drew λt93=>fK none 9 t93 (s20.getD 0 undef) λt95=>ldW true 9 t95 w21.drew λt96=>aR 7 t3 λt97=>ldW false 1 t97 w21.drew λt98=>fK none 9 t98 (s20.getD 0 undef) λt100=>ldW true 9 t100 w21.drew λt101=>(dA 71 zL5 w21.drew λt7 w23=>(ldW true 9 t100 w23 λx=>x=t101)/\(ldW false 1 t97 w23 λx=>x=t98)/\(ldW true 9 t95 w23 λx=>x=t96)/\(ldW false 1 t92 w23 λx=>x=t93)/\dA 71 zL5 w23 λt8 w24=>(ldW true 9 t100 w24 λx=>x=t101)/\(ldW false 1 t97 w24 λx=>x=t98)/\(ldW true 9 t95 w24 λx=>x=t96)/\(ldW false 1 t92 w24 λx=>x=t93)/\stW 9 t7 t96 w24 λw25=>(ldW true 9 t100 w25 λx=>x=t101)/\(ldW false 1 t97 w25 λx=>x=t98)/\stW 9 t8 t101 w25 λw26=>J22 [t7,t8] w26)/\(dA 71 zL5 w21.drew λt8 w27=>(ldW true 9 t100 w27 λx=>x=t101)/\(ldW false 1 t97 w27 λx=>x=t98)/\(ldW true 9 t95 w27 λx=>x=t96)/\(ldW false 1 t92 w27 λx=>x=t93)/\dA 71 zL5 w27 λt7 w28=>(ldW true 9 t100 w28 λx=>x=t101)/\(ldW false 1 t97 w28 λx=>x=t98)/\(ldW true 9 t95 w28 λx=>x=t96)/\(ldW false 1 t92 w28 λx=>x=t93)/\stW 9 t7 t96 w28 λw29=>(ldW true 9 t100 w29 λx=>x=t101)/\(ldW false 1 t97 w29 λx=>x=t98)/\stW 9 t8 t101 w29 λw30=>J22 [t7,t8] w30)) λs22 _ w31=>aR 0 (s22.getD 0 undef) λt102=>ldW false 1 t102 w31 λt103=>aR 0 (s22.getD 1 undef) λt104=>ldW false 1 t104 w31 λt105=>aS .neq t103 t105 λt106=>GdW (isB t106 false) [undef] w31 (λJ32=>aR 1 (s22.getD 0 undef) λt108=>ldW false 1 t108 w31 λt109=>aR 1 (s22.getD 1 undef) λt110=>ldW false 1 t110 w31 λt111=>aS .neq t109 t111 λt112=>J32 [t112] w31) λs32 _ w33=>cZ t106 (.bool true) (s32.getD 0 undef) λt113=>GdW (isB t113 false) [undef] w33 (λJ34=>aR 2 (s22.getD 0 undef) λt115=>ldW false 1 t115 w33 λt116=>aR 2 (s22.getD 1 undef) λt117=>ldW false 1 t117 w33 λt118=>aJ P0 102 [t116,t118] w33 λt119 w35=>unW .not t119 λt120=>J34 [t120] w35) λs34 _ w36=>cZ t113 (.bool true) (s34.getD 0 undef) λt121=>GdW (isB t121 false) [undef] w36 (λJ37=>aR 3 (s22.getD 0 undef) λt123=>ldW false 1 t123 w36 λt124=>aR 3 (s22.getD 1 undef) λt125=>ldW false 1 t125 w36 λt126=>aS .neq t124 t126 λt127=>J37 [t127] w36) λs37 _ w38=>cZ t121 (.bool true) (s37.getD 0 undef) λt128=>GdW (isB t128 false) [undef] w38 (λJ39=>aR 4 (s22.getD 0 undef) λt130=>ldW false 1 t130 w38 λt131=>aR 4 (s22.getD 1 undef) λt132=>ldW false 1 t132 w38 λt133=>aS .neq t131 t133 λt134=>J39 [t134] w38) λs39 _ w40=>cZ t128 (.bool true) (s39.getD 0 undef) λt135=>GdW (isB t135 false) [undef] w40 (λJ41=>aR 5 (s22.getD 0 undef) λt137=>ldW false 1 t137 w40 λt138=>aR 5 (s22.getD 1 undef) λt139=>ldW false 1 t139 w40 λt140=>eqW .bool true t138 t140 λt141=>J41 [t141] w40) λs41 _ w42=>cZ t135 (.bool true) (s41.getD 0 undef) λt142=>GdW (isB t142 false) [undef] w42 (λJ43=>aR 6 (s22.getD 0 undef) λt144=>ldW false 1 t144 w42 λt145=>aR 6 (s22.getD 1 undef) λt146=>ldW false 1 t146 w42 λt147=>eqW .bool true t145 t147 λt148=>J43 [t148] w42) λs43 _ w44=>cZ t142 (.bool true) (s43.getD 0 undef) λt149=>GdW (isB t149 false) [undef] w44 (λJ45=>aR 7 (s22.getD 0 undef) λt151=>ldW false 1 t151 w44 λt152=>aR 7 (s22.getD 1 undef) λt153=>ldW false 1 t153 w44 λt154=>aJ P0 25 [t152,t154] w44 λt155 w46=>unW .not t155 λt156=>J45 [t156] w46) λs45 _ w47=>cZ t149 (.bool true) (s45.getD 0 undef) λt157=>GdW (isB t157 false) [undef] w47 (λJ48=>aR 8 (s22.getD 0 undef) λt159=>ldW false 1 t159 w47 λt160=>aR 8 (s22.getD 1 undef) λt161=>ldW false 1 t161 w47 λt162=>aS .neq t160 t162 λt163=>J48 [t163] w47) λs48 _ w49=>cZ t157 (.bool true) (s48.getD 0 undef) λt164=>bB t164 (K (.bool false) w49) (aS .add (s20.getD 0 undef) (i64 1) λt165=>L20 [t165] w49)) (aR 8 t2 λt166=>ldW false 1 t166 w21 λt167=>fI t167 λt168=>dL [(i64 0)] w21 λs50 _ w51 L50=>aS .lss (s50.getD 0 undef) t168 λt170=>bB t170 (dE (λJ52=>aR 8 t2 λt172=>ldW false 1 t172 w51.drew λt173=>fK none 4 t173 (s50.getD 0 undef) λt175=>ldW true 4 t175 w51.drew λt176=>aR 8 t3 λt177=>ldW false 1 t177 w51.drew λt178=>fK none 4 t178 (s50.getD 0 undef) λt180=>ldW true 4 t180 w51.drew λt181=>(dA 73 zL6 w51.drew λt10 w53=>(ldW true 4 t180 w53 λx=>x=t181)/\(ldW false 1 t177 w53 λx=>x=t178)/\(ldW true 4 t175 w53 λx=>x=t176)/\(ldW false 1 t172 w53 λx=>x=t173)/\dA 73 zL6 w53 λt11 w54=>(ldW true 4 t180 w54 λx=>x=t181)/\(ldW false 1 t177 w54 λx=>x=t178)/\(ldW true 4 t175 w54 λx=>x=t176)/\(ldW false 1 t172 w54 λx=>x=t173)/\stW 4 t10 t176 w54 λw55=>(ldW true 4 t180 w55 λx=>x=t181)/\(ldW false 1 t177 w55 λx=>x=t178)/\stW 4 t11 t181 w55 λw56=>J52 [t10,t11] w56)/\(dA 73 zL6 w51.drew λt11 w57=>(ldW true 4 t180 w57 λx=>x=t181)/\(ldW false 1 t177 w57 λx=>x=t178)/\(ldW true 4 t175 w57 λx=>x=t176)/\(ldW false 1 t172 w57 λx=>x=t173)/\dA 73 zL6 w57 λt10 w58=>(ldW true 4 t180 w58 λx=>x=t181)/\(ldW false 1 t177 w58 λx=>x=t178)/\(ldW true 4 t175 w58 λx=>x=t176)/\(ldW false 1 t172 w58 λx=>x=t173)/\stW 4 t10 t176 w58 λw59=>(ldW true 4 t180 w59 λx=>x=t181)/\(ldW false 1 t177 w59 λx=>x=t178)/\stW 4 t11 t181 w59 λw60=>J52 [t10,t11] w60)) λs52 _ w61=>aR 0 (s52.getD 0 undef) λt182=>ldW false 1 t182 w61 λt183=>aR 0 (s52.getD 1 undef) λt184=>ldW false 1 t184 w61 λt185=>aS .neq t183 t185 λt186=>GdW (isB t186 false) [undef] w61 (λJ62=>aR 1 (s52.getD 0 undef) λt188=>ldW false 1 t188 w61 λt189=>aR 1 (s52.getD 1 undef) λt190=>ldW false 1 t190 w61 λt191=>aS .neq t189 t191 λt192=>J62 [t192] w61) λs62 _ w63=>cZ t186 (.bool true) (s62.getD 0 undef) λt193=>GdW (isB t193 false) [undef] w63 (λJ64=>aR 2 (s52.getD 0 undef) λt195=>ldW false 1 t195 w63 λt196=>aR 2 (s52.getD 1 undef) λt197=>ldW false 1 t197 w63 λt198=>aJ P0 102 [t196,t198] w63 λt199 w65=>unW .not t199 λt200=>J64 [t200] w65) λs64 _ w66=>cZ t193 (.bool true) (s64.getD 0 undef) λt201=>GdW (isB t201 false) [undef] w66 (λJ67=>aR 3 (s52.getD 0 undef) λt203=>ldW false 1 t203 w66 λt204=>aR 3 (s52.getD 1 undef) λt205=>ldW false 1 t205 w66 λt206=>aS .neq t204 t206 λt207=>J67 [t207] w66) λs67 _ w68=>cZ t201 (.bool true) (s67.getD 0 undef) λt208=>bB t208 (K (.bool false) w68) (aS .add (s50.getD 0 undef) (i64 1) λt209=>L50 [t209] w68)) (K (.bool true) w51))))
theorem XC{K:Q0}(h:W58 v0 v1 w K):aJ P0 58 [v0,v1] w K:=
 tie _ 58 Tryz.f58 VS _ w K 2 _ rfl mixed Tryz.func58 (by kernel_rfl) (by kernel_rfl) Tryz.call58 h
def VG:fD:={js:=[(6,⟨[9],[4,5],9⟩)],ds:=[]}
def W89(v0 v1:Value)(w:World)(K:Q0):=jF 55 v0 w λt2 w1=>aR 0 t2 λt6=>ldW false 1 t6 w1 λt7=>fI t7 λt8=>dL [(i64 0)] w1 λs2 _ w3 L2=>aS .lss (s2.getD 0 undef) t8 λt10=>bB t10 (aR 0 t2 λt12=>ldW false 1 t12 w3 λt13=>fK none 4 t13 (s2.getD 0 undef) λt15=>aR 0 t15 λt16=>ldW false 1 t16 w3 λt17=>aS .eql t17 v1 λt19=>bB t19 (K (s2.getD 0 undef) w3) (aS .add (s2.getD 0 undef) (i64 1) λt21=>L2 [t21] w3)) (K (.int .i64 (-1)) w3)
theorem Xp{K:Q0}(h:W89 v0 v1 w K):aJ P0 89 [v0,v1] w K:=
 tie _ 89 Tryz.f89 VG _ w K 2 _ rfl mixed Tryz.func89 (by kernel_rfl) (by kernel_rfl) Tryz.call89 h
def VF:fD:={js:=[(24005,⟨[32],[],30⟩),(16005,⟨[24],[],21⟩),(16011,⟨[18],[],15⟩),(6,⟨[3],[],1⟩)],ds:=[]}
def W90(v0:Value)(w:World)(K:Q0):=dL [(i64 0)] w λs1 _ w2 L1=>kA v0 λt6=>aS .lss (s1.getD 0 undef) t6 λt7=>bB t7 (nU v0 (s1.getD 0 undef) λt12=>aS .eql t12 (.int .u8 0) λt13=>GdW (isB t13 false) [undef] w2 (λJ3=>nU v0 (s1.getD 0 undef) λt17=>aS .eql t17 (.int .u8 10) λt18=>J3 [t18] w2) λs3 _ w4=>cZ t13 (.bool true) (s3.getD 0 undef) λt19=>GdW (isB t19 false) [undef] w4 (λJ5=>nU v0 (s1.getD 0 undef) λt23=>aS .eql t23 (.int .u8 32) λt24=>J5 [t24] w4) λs5 _ w6=>cZ t19 (.bool true) (s5.getD 0 undef) λt25=>bB t25 (K (.bool false) w6) (aS .add (s1.getD 0 undef) (i64 1) λt9=>L1 [t9] w6)) (kA v0 λt27=>aS .geq t27 (i64 1) λt28=>GdW (isB t28 true) [undef] w2 (λJ7=>kA v0 λt31=>aS .leq t31 (i64 64) λt32=>J7 [t32] w2) λs7 _ w8=>cZ t28 (s7.getD 0 undef) (.bool false) λt33=>K t33 w8)
theorem Xo{K:Q0}(h:W90 v0 w K):aJ P0 90 [v0] w K:=
 tie _ 90 Tryz.f90 VF _ w K 1 _ rfl mixed Tryz.func90 (by kernel_rfl) (by kernel_rfl) Tryz.call90 h
def VE:fD:={js:=[(12,⟨[],[],3⟩),(4004,⟨[9],[],7⟩)],ds:=[]}
def W91(v0:Value)(w:World)(K:Q0):=jF 55 v0 w λt1 w1=>dA 55 zL2 w1 λt2 w2=>aR 3 t1 λt4=>ldW false 1 t4 w2 λt5=>GdW (isB t5 false) [undef] w2 (λJ3=>aR 2 t1 λt7=>ldW false 1 t7 w2 λt8=>aS .eql t8 (i64 0) λt9=>J3 [t9] w2) λs3 _ w4=>cZ t5 (.bool true) (s3.getD 0 undef) λt10=>bB t10 (aR 3 t1 λt11=>stW 1 t11 (.bool true) w4 λw5=>ldW true 4 t1 w5 λt12=>stW 4 t2 t12 w5 λw6=>ldW true 4 t2 w6 λr7=>K (.tuple #[r7,(i64 5)]) w6) (dE (λJ8=>aR 2 t1 λt13=>ldW false 1 t13 w4 λt14=>aS .gtr t14 (i64 0) λt15=>bB t15 (aR 2 t1 λt16=>ldW false 1 t16 w4 λt17=>aS .sub t17 (i64 1) λt18=>aR 2 t1 λt19=>stW 1 t19 t18 w4 λw9=>J8 [] w9) (J8 [] w4)) λs8 _ w10=>aR 1 t1 λt20=>ldW false 1 t20 w10 λt21=>aS .add t21 (i64 1) λt22=>aR 1 t1 λt23=>stW 1 t23 t22 w10 λw11=>ldW true 4 t1 w11 λt24=>stW 4 t2 t24 w11 λw12=>ldW true 4 t2 w12 λr13=>K (.tuple #[r13,(i64 0)]) w12)
theorem Xn{K:Q0}(h:W91 v0 w K):aJ P0 91 [v0] w K:=
 tie _ 91 Tryz.f91 VE _ w K 1 _ rfl mixed Tryz.func91 (by kernel_rfl) (by kernel_rfl) Tryz.call91 h
def VD:fD:={js:=[(23,⟨[5,6],[5,6],15⟩),(12,⟨[5,6,14],[5,6,7],14⟩)],ds:=[(25,⟨[0,1,2,3,4,5,6,7,8,9,10,11],[[],[0],[0,1],[0,1,2],[0,1,2,3],[0,1,2],[0,1,2],[0,1,2,5,6],[0,1,2,5,6,7],[0,1,2,5,6,7,8],[0,1,2,3,4,5,6,7,8,9],[0,1,2,3,4,5,6,7,8,9,10]]⟩)]}
def W92(v0 v1:Value)(w:World)(K:Q0):=jF 173 v1 w λt3 w1=>aR 0 t3 λt9=>ldW false 1 t9 w1 λt10=>aJ P0 132 [v0,t10] w1 λt11 w2=>fI t11 λt13=>dL [sN,(.bool false),(i64 0)] w2 λs3 _ w4 L3=>aS .lss (s3.getD 2 undef) t13 λt15=>bB t15 (dE (λJ5=>unW .not (s3.getD 1 undef) λt18=>GqW (isB t18 true) (λk6=>aR 0 t3 k6) λt20=>GqW (isB t18 true) (λk7=>ldW false 1 t20 w4.drew k7) λt21=>GqW (isB t18 true) (λk8=>k8 t11) λt22=>GqW (isB t18 true) (λk9=>k9 (s3.getD 2 undef)) λt23=>GqW (isB t18 true) (λk10=>fK none 4 t22 t23 k10) λt24=>GqW (isB t18 true) (λk11=>aR 0 t24 k11) λt25=>GqW (isB t18 true) (λk12=>ldW false 1 t25 w4.drew k12) λt26=>GqW (isB t18 true) (λk13=>aS .lss t21 t26 k13) λt27=>cZ t18 t27 (.bool false) λt28=>bB t28 (ldW true 4 t3 w4.drew λt30=>gO 173 1 [(str []),(str []),(str []),(.bool false)] [(0,4,t30)] w4.drew λt31 w14=>fY P0 (Builtin.append_ #[53,53] 53 #[(s3.getD 0 undef),t31]) w14 λt32 w15=>J5 [t32,(.bool true)] w15) (J5 [(s3.getD 0 undef),(s3.getD 1 undef)] w4.drew)) λs5 _ w16=>fK none 4 t11 (s3.getD 2 undef) λt36=>ldW true 4 t36 w16 λt37=>gO 173 1 [(str []),(str []),(str []),(.bool false)] [(0,4,t37)] w16 λt38 w17=>fY P0 (Builtin.append_ #[53,53] 53 #[(s5.getD 0 undef),t38]) w17 λt39 w18=>aS .add (s3.getD 2 undef) (i64 1) λt40=>L3 [t39,(s5.getD 1 undef),t40] w18) (unW .not (s3.getD 1 undef) λt42=>bB t42 (ldW true 4 t3 w4 λt44=>gO 173 1 [(str []),(str []),(str []),(.bool false)] [(0,4,t44)] w4 λt45 w19=>fY P0 (Builtin.append_ #[53,53] 53 #[(s3.getD 0 undef),t45]) w19 λt46 w20=>K t46 w20) (K (s3.getD 0 undef) w4))
theorem Xm{K:Q0}(h:W92 v0 v1 w K):aJ P0 92 [v0,v1] w K:=
 tie _ 92 Tryz.f92 VD _ w K 2 _ rfl mixed Tryz.func92 (by kernel_rfl) (by kernel_rfl) Tryz.call92 h
def Ra:fD:={js:=[(14,⟨[13],[4,5],13⟩)],ds:=[(26,⟨[0,1,2,3,4,5,6,7,8],[[],[],[0,1],[0,1,2],[],[],[4,5],[4,5,6],[0,1,2,3,4,5,6,7]]⟩)]}
def aAI(v0 v1:Value)(w:World)(K:Q0):=fI v0 λt7=>fI v1 λt9=>aS .neq t7 t9 λt10=>bB t10 (K (.bool false) w) (fI v0 λt12=>dL [(i64 0)] w λs1 _ w2 L1=>aS .lss (s1.getD 0 undef) t12 λt14=>bB t14 (fK none 3 v0 (s1.getD 0 undef) λt18=>ldW true 3 t18 w2.drew λt19=>fK none 3 v1 (s1.getD 0 undef) λt22=>ldW true 3 t22 w2.drew λt23=>eqQ P0 .neq 40 false false t19 t23 w2.drew λt24=>bB t24 (K (.bool false) w2.drew) (aS .add (s1.getD 0 undef) (i64 1) λt25=>L1 [t25] w2.drew)) (K (.bool true) w2))
theorem Uw{K:Q0}(h:aAI v0 v1 w K):aJ P0 102 [v0,v1] w K:=
 tie _ 102 Tryz.f102 Ra _ w K 2 _ rfl mixed Tryz.func102 (by kernel_rfl) (by kernel_rfl) Tryz.call102 h
def QK:fD:={js:=[(15,⟨[5],[5,6],10⟩),(8,⟨[5,9],[5,6],9⟩)],ds:=[]}
def aAs(v0 v1:Value)(w:World)(K:Q0):=fI v0 λt8=>dL [sN,(i64 0)] w λs1 _ w2 L1=>aS .lss (s1.getD 1 undef) t8 λt10=>bB t10 (dE (λJ3=>fK none 4 v0 (s1.getD 1 undef) λt14=>aR 0 t14 λt15=>ldW false 1 t15 w2 λt16=>aS .neq t16 v1 λt18=>bB t18 (fK none 4 v0 (s1.getD 1 undef) λt22=>ldW true 4 t22 w2 λt23=>gO 173 1 [(str []),(str []),(str []),(.bool false)] [(0,4,t23)] w2 λt24 w4=>fY P0 (Builtin.append_ #[53,53] 53 #[(s1.getD 0 undef),t24]) w4 λt25 w5=>J3 [t25] w5) (J3 [(s1.getD 0 undef)] w2)) λs3 _ w6=>aS .add (s1.getD 1 undef) (i64 1) λt26=>L1 [(s3.getD 0 undef),t26] w6) (K (s1.getD 0 undef) w2)
theorem Uf{K:Q0}(h:aAs v0 v1 w K):aJ P0 132 [v0,v1] w K:=
 tie _ 132 Tryz.f132 QK _ w K 2 _ rfl mixed Tryz.func132 (by kernel_rfl) (by kernel_rfl) Tryz.call132 h
def VX:fD:={js:=[],ds:=[]}
def W52(v0:Value)(w:World)(K:Q0):=aJ P0 100 [v0] w λt4 w1=>K t4 w1
theorem XI{K:Q0}(h:W52 v0 w K):aJ P0 52 [v0] w K:=
 tie _ 52 Tryz.f52 VX _ w K 1 _ rfl mixed Tryz.func52 (by kernel_rfl) (by kernel_rfl) Tryz.call52 h
def VT:fD:={js:=[],ds:=[]}
def W57(v0:Value)(w:World)(K:Q0):=eqW .slice false v0 sN λt4=>bB t4 (K sN w) (gO 5 0 [] [] w λt5 w1=>fY P0 (Builtin.append_ #[80,80] 80 #[t5,v0]) w1 λt7 w2=>K t7 w2)
theorem XD{K:Q0}(h:W57 v0 w K):aJ P0 57 [v0] w K:=
 tie _ 57 Tryz.f57 VT _ w K 1 _ rfl mixed Tryz.func57 (by kernel_rfl) (by kernel_rfl) Tryz.call57 h
def VH:fD:={js:=[],ds:=[]}
def W88(v0 v1:Value)(w:World)(K:Q0):=aJ P0 131 [v0] w λt7 w1=>eC v0 λt10=>aR 1 t10 λt11=>ldW false 1 t11 w1 λt12=>fY P0 (Builtin.append_ #[80,9] 80 #[t12,v1]) w1 λt14 w2=>eC v0 λt15=>aR 1 t15 λt16=>stW 1 t16 t14 w2 λw3=>kA v1 λt18=>K (.tuple #[t18,.nilIface]) w3
theorem Xq{K:Q0}(h:W88 v0 v1 w K):aJ P0 88 [v0,v1] w K:=
 tie _ 88 Tryz.f88 VH _ w K 2 _ rfl mixed Tryz.func88 (by kernel_rfl) (by kernel_rfl) Tryz.call88 h
def Vz:fD:={js:=[],ds:=[]}
def W96(v0 v1:Value)(w:World)(K:Q0):=aJ P0 143 [v0,v1] w λt7 w1=>aS .geq t7 (i64 0) λt8=>K t8 w1
theorem Xj{K:Q0}(h:W96 v0 v1 w K):aJ P0 96 [v0,v1] w K:=
 tie _ 96 Tryz.f96 Vz _ w K 2 _ rfl mixed Tryz.func96 (by kernel_rfl) (by kernel_rfl) Tryz.call96 h
def Vx:fD:={js:=[],ds:=[]}
def W98(v0 v1:Value)(w:World)(K:Q0):=aJ P0 144 [v0,v1] w λt7 w1=>aS .geq t7 (i64 0) λt8=>K t8 w1
theorem Xh{K:Q0}(h:W98 v0 v1 w K):aJ P0 98 [v0,v1] w K:=
 tie _ 98 Tryz.f98 Vx _ w K 2 _ rfl mixed Tryz.func98 (by kernel_rfl) (by kernel_rfl) Tryz.call98 h
def Rb:fD:={js:=[],ds:=[]}
def aAJ(v0 v1:Value)(w:World)(K:Q0):=aJ P0 145 [v0,v1] w λt7 w1=>aS .geq t7 (i64 0) λt8=>K t8 w1
theorem Ux{K:Q0}(h:aAJ v0 v1 w K):aJ P0 101 [v0,v1] w K:=
 tie _ 101 Tryz.f101 Rb _ w K 2 _ rfl mixed Tryz.func101 (by kernel_rfl) (by kernel_rfl) Tryz.call101 h
def QO:fD:={js:=[],ds:=[]}
def aAw(v0 v1:Value)(w:World)(K:Q0):=aJ P0 154 [v0,v1] w λt7 w1=>aS .geq t7 (i64 0) λt8=>K t8 w1
theorem Uk{K:Q0}(h:aAw v0 v1 w K):aJ P0 117 [v0,v1] w K:=
 tie _ 117 Tryz.f117 QO _ w K 2 _ rfl mixed Tryz.func117 (by kernel_rfl) (by kernel_rfl) Tryz.call117 h
def QM:fD:={js:=[],ds:=[]}
def aAu(v0 v1:Value)(w:World)(K:Q0):=aJ P0 131 [v0] w λt6 w1=>eC v0 λt9=>aR 1 t9 λt10=>ldW false 1 t10 w1 λt11=>gO 5 1 [(.int .u8 0)] [(0,1,v1)] w1 λt13 w2=>fY P0 (Builtin.append_ #[80,80] 80 #[t11,t13]) w2 λt14 w3=>eC v0 λt15=>aR 1 t15 λt16=>stW 1 t16 t14 w3 λw4=>K .nilIface w4
theorem Ui{K:Q0}(h:aAu v0 v1 w K):aJ P0 126 [v0,v1] w K:=
 tie _ 126 Tryz.f126 QM _ w K 2 _ rfl mixed Tryz.func126 (by kernel_rfl) (by kernel_rfl) Tryz.call126 h
def QL:fD:={js:=[],ds:=[]}
def aAt(v0 v1:Value)(w:World)(K:Q0):=aJ P0 131 [v0] w λt8 w1=>eC v0 λt10=>aR 1 t10 λt11=>ldW false 1 t11 w1 λt12=>fI t12 λt13=>eC v0 λt16=>aR 1 t16 λt17=>ldW false 1 t17 w1 λt18=>aJ P0 166 [t18,v1] w1 λt20 w2=>eC v0 λt21=>aR 1 t21 λt22=>stW 1 t22 t20 w2 λw3=>eC v0 λt24=>aR 1 t24 λt25=>ldW false 1 t25 w3 λt26=>fI t26 λt27=>aS .sub t27 t13 λt29=>K (.tuple #[t29,.nilIface]) w3
theorem Uh{K:Q0}(h:aAt v0 v1 w K):aJ P0 127 [v0,v1] w K:=
 tie _ 127 Tryz.f127 QL _ w K 2 _ rfl mixed Tryz.func127 (by kernel_rfl) (by kernel_rfl) Tryz.call127 h
def QI:fD:={js:=[],ds:=[]}
def aAq(v0 v1:Value)(w:World)(K:Q0):=aJ P0 171 [v0,v1] w λt7 w1=>aS .geq t7 (i64 0) λt8=>K t8 w1
theorem Ud{K:Q0}(h:aAq v0 v1 w K):aJ P0 134 [v0,v1] w K:=
 tie _ 134 Tryz.f134 QI _ w K 2 _ rfl mixed Tryz.func134 (by kernel_rfl) (by kernel_rfl) Tryz.call134 h
def Qz:fD:={js:=[(6,⟨[8],[4,5],8⟩)],ds:=[]}
def aAh(v0 v1:Value)(w:World)(K:Q0):=fI v0 λt7=>dL [(i64 0)] w λs1 _ w2 L1=>aS .lss (s1.getD 0 undef) t7 λt9=>bB t9 (fK none 3 v0 (s1.getD 0 undef) λt14=>ldW true 3 t14 w2 λt15=>nV P0 v1 [t15] w2 λt16 w3=>bB t16 (K (s1.getD 0 undef) w3) (aS .add (s1.getD 0 undef) (i64 1) λt18=>L1 [t18] w3)) (K (.int .i64 (-1)) w2)
theorem TU{K:Q0}(h:aAh v0 v1 w K):aJ P0 143 [v0,v1] w K:=
 tie _ 143 Tryz.f143 Qz _ w K 2 _ rfl mixed Tryz.func143 (by kernel_rfl) (by kernel_rfl) Tryz.call143 h
def Qy:fD:={js:=[(6,⟨[8],[4,5],8⟩)],ds:=[]}
def aAg(v0 v1:Value)(w:World)(K:Q0):=fI v0 λt7=>dL [(i64 0)] w λs1 _ w2 L1=>aS .lss (s1.getD 0 undef) t7 λt9=>bB t9 (fK none 3 v0 (s1.getD 0 undef) λt14=>ldW true 3 t14 w2 λt15=>nV P0 v1 [t15] w2 λt16 w3=>bB t16 (K (s1.getD 0 undef) w3) (aS .add (s1.getD 0 undef) (i64 1) λt18=>L1 [t18] w3)) (K (.int .i64 (-1)) w2)
theorem TQ{K:Q0}(h:aAg v0 v1 w K):aJ P0 144 [v0,v1] w K:=
 tie _ 144 Tryz.f144 Qy _ w K 2 _ rfl mixed Tryz.func144 (by kernel_rfl) (by kernel_rfl) Tryz.call144 h
def Qx:fD:={js:=[(65,⟨[],[4,9,10],46⟩),(26,⟨[],[],2⟩),(39,⟨[8],[4],7⟩),(16,⟨[5],[],1⟩)],ds:=[]}
def aAf(v0 v1:Value)(w:World)(K:Q0):=aS .eql v1 (str []) λt12=>bB t12 (K (.int .i64 (-1)) w) (kA v1 λt14=>aS .eql t14 (i64 1) λt15=>bB t15 (nU v1 (i64 0) λt17=>wT .i32 t17 λt18=>dE (λJ1=>aS .geq t18 (.int .i32 128) λt20=>bB t20 (J1 [(.int .i32 65533)] w) (J1 [t18] w)) λs1 _ w2=>aJ P0 189 [v0,(s1.getD 0 undef)] w2 λt23 w3=>K t23 w3) (dE (λJ4=>kA v0 λt25=>aJ P0 190 [t25] w λt26 w5=>bB t26 (aJ P0 191 [v1] w5 λt29 w6=>jQ 0 t29 λt30=>jQ 1 t29 λt31=>dA 243 (List.replicate 256 (.bool false)) w6 λt6 w7=>stW 256 t6 t30 w7 λw8=>bB t31 (dL [(i64 0)] w8 λs9 _ w10 L9=>kA v0 λt35=>aS .lss (s9.getD 0 undef) t35 λt36=>bB t36 (nU v0 (s9.getD 0 undef) λt41=>aJ P0 192 [t6,t41] w10 λt42 w11=>bB t42 (K (s9.getD 0 undef) w11) (aS .add (s9.getD 0 undef) (i64 1) λt38=>L9 [t38] w11)) (K (.int .i64 (-1)) w10)) (J4 [] w8)) (J4 [] w5)) λs4 _ w12=>fY P0 (Instr.range 9 v0) w12 λt45 w13=>dL [] w13 λs14 _ w15 L14=>fY P0 (Instr.next t45 true 0) w15 λt46 w16=>jQ 0 t46 λt47=>bB t47 (jQ 1 t46 λt48=>jQ 2 t46 λt49=>aJ P0 189 [v1,t49] w16 λt52 w17=>aS .geq t52 (i64 0) λt53=>bB t53 (K t48 w17) (L14 [] w17)) (K (.int .i64 (-1)) w16)))
theorem TP{K:Q0}(h:aAf v0 v1 w K):aJ P0 145 [v0,v1] w K:=
 tie _ 145 Tryz.f145 Qx _ w K 2 _ rfl mixed Tryz.func145 (by kernel_rfl) (by kernel_rfl) Tryz.call145 h
def Qw:fD:={js:=[],ds:=[]}
def aAe(v0 v1:Value)(w:World)(K:Q0):=aJ P0 197 [v0,v1] w λt7 w1=>K t7 w1
theorem TO{K:Q0}(h:aAe v0 v1 w K):aJ P0 148 [v0,v1] w K:=
 tie _ 148 Tryz.f148 Qw _ w K 2 _ rfl mixed Tryz.func148 (by kernel_rfl) (by kernel_rfl) Tryz.call148 h
def Qs:fD:={js:=[(6,⟨[8],[4,5],8⟩)],ds:=[]}
def aAa(v0 v1:Value)(w:World)(K:Q0):=fI v0 λt7=>dL [(i64 0)] w λs1 _ w2 L1=>aS .lss (s1.getD 0 undef) t7 λt9=>bB t9 (fK none 1 v0 (s1.getD 0 undef) λt14=>ldW false 1 t14 w2 λt15=>aS .eql v1 t15 λt16=>bB t16 (K (s1.getD 0 undef) w2) (aS .add (s1.getD 0 undef) (i64 1) λt18=>L1 [t18] w2)) (K (.int .i64 (-1)) w2)
theorem TJ{K:Q0}(h:aAa v0 v1 w K):aJ P0 154 [v0,v1] w K:=
 tie _ 154 Tryz.f154 Qs _ w K 2 _ rfl mixed Tryz.func154 (by kernel_rfl) (by kernel_rfl) Tryz.call154 h
def Qn:fD:={js:=[],ds:=[]}
def ZW(v0 v1:Value)(w:World)(K:Q0):=wT .u32 v1 λt6=>aS .leq t6 (.int .u32 127) λt7=>bB t7 (wT .u8 v1 λt10=>gO 5 1 [(.int .u8 0)] [(0,1,t10)] w λt11 w1=>fY P0 (Builtin.append_ #[80,80] 80 #[v0,t11]) w1 λt12 w2=>K t12 w2) (aJ P0 207 [v0,v1] w λt15 w3=>K t15 w3)
theorem TE{K:Q0}(h:ZW v0 v1 w K):aJ P0 166 [v0,v1] w K:=
 tie _ 166 Tryz.f166 Qn _ w K 2 _ rfl mixed Tryz.func166 (by kernel_rfl) (by kernel_rfl) Tryz.call166 h
def Qm:fD:={js:=[(6,⟨[8],[4,5],8⟩)],ds:=[]}
def ZV(v0 v1:Value)(w:World)(K:Q0):=fI v0 λt7=>dL [(i64 0)] w λs1 _ w2 L1=>aS .lss (s1.getD 0 undef) t7 λt9=>bB t9 (fK none 1 v0 (s1.getD 0 undef) λt14=>ldW false 1 t14 w2 λt15=>nV P0 v1 [t15] w2 λt16 w3=>bB t16 (K (s1.getD 0 undef) w3) (aS .add (s1.getD 0 undef) (i64 1) λt18=>L1 [t18] w3)) (K (.int .i64 (-1)) w2)
theorem TD{K:Q0}(h:ZV v0 v1 w K):aJ P0 171 [v0,v1] w K:=
 tie _ 171 Tryz.f171 Qm _ w K 2 _ rfl mixed Tryz.func171 (by kernel_rfl) (by kernel_rfl) Tryz.call171 h
def PZ:fD:={js:=[],ds:=[]}
def ZI(v0 v1:Value)(w:World)(K:Q0):=aJ P0 213 [v0,v1] w λt7 w1=>aS .geq t7 (i64 0) λt8=>K t8 w1
theorem Tp{K:Q0}(h:ZI v0 v1 w K):aJ P0 184 [v0,v1] w K:=
 tie _ 184 Tryz.f184 PZ _ w K 2 _ rfl mixed Tryz.func184 (by kernel_rfl) (by kernel_rfl) Tryz.call184 h
def PV:fD:={js:=[],ds:=[]}
def ZF(v0 v1:Value)(w:World)(K:Q0):=aJ P0 214 [v0,v1] w λt7 w1=>aS .geq t7 (i64 0) λt8=>K t8 w1
theorem Tl{K:Q0}(h:ZF v0 v1 w K):aJ P0 187 [v0,v1] w K:=
 tie _ 187 Tryz.f187 PV _ w K 2 _ rfl mixed Tryz.func187 (by kernel_rfl) (by kernel_rfl) Tryz.call187 h
def PT:fD:={js:=[(144,⟨[],[4],16⟩),(153,⟨[16],[],16⟩),(147007,⟨[138],[],133⟩),(137,⟨[9],[4,9],16⟩),(108002,⟨[97],[],85⟩),(108006,⟨[96],[],93⟩),(108008,⟨[92],[],85⟩),(108013,⟨[90],[],86⟩),(108014,⟨[85],[],85⟩),(108020,⟨[82],[],79⟩),(108026,⟨[76],[],73⟩),(82,⟨[12],[],10⟩),(62,⟨[9],[4],9⟩),(53,⟨[9],[4],9⟩),(16,⟨[],[4,5,6],176⟩),(4004,⟨[165],[],164⟩)],ds:=[(163,⟨[0,1,2,3,4,5,6,7,8,9,10],[[],[],[],[1,2],[0,1,2,3],[],[],[],[6,7],[5,6,7,8],[0,1,2,3,4,5,6,7,8,9]]⟩),(92,⟨[0,1,2,3,4,5,6,7,8,9,10],[[],[],[],[1,2],[0,1,2,3],[],[],[],[6,7],[5,6,7,8],[0,1,2,3,4,5,6,7,8,9]]⟩),(67,⟨[0,1,2,3,4,5,6,8],[[],[],[1],[0,1,2],[],[],[4,5],[0,1,2,3,4,5,6],[0,1,2,3,4,5,6,7]]⟩),(64,⟨[0,1,2,3,4,5,6],[[],[],[0,1],[],[],[3,4],[0,1,2,3,4,5]]⟩)]}
def ZD(v0 v1:Value)(w:World)(K:Q0):=aS .leq (.int .i32 0) v1 λt162=>GdW (isB t162 true) [undef] w (λJ1=>aS .lss v1 (.int .i32 128) λt165=>J1 [t165] w) λs1 _ w2=>cZ t162 (s1.getD 0 undef) (.bool false) λt166=>bB t166 (wT .u8 v1 λt169=>aJ P0 104 [v0,t169] w2 λt170 w3=>K t170 w3) (aS .eql v1 (.int .i32 65533) λt173=>bB t173 (fY P0 (Instr.range 9 v0) w2 λt175 w4=>dL [] w4 λs5 _ w6 L5=>fY P0 (Instr.next t175 true 0) w6 λt176 w7=>jQ 0 t176 λt177=>bB t177 (jQ 1 t176 λt178=>jQ 2 t176 λt179=>aS .eql t179 (.int .i32 65533) λt181=>bB t181 (K t178 w7) (L5 [] w7)) (K (.int .i64 (-1)) w7)) (aJ P0 215 [v1] w2 λt185 w8=>unW .not t185 λt186=>bB t186 (K (.int .i64 (-1)) w8) (Ma v1 λt18=>kA t18 λt20=>aS .sub t20 (i64 1) λt21=>dL [t21] w8 λs9 _ w10 L9=>kA v0 λt25=>aS .lss (s9.getD 0 undef) t25 λt26=>bB t26 (dE (λJ11=>nU v0 (s9.getD 0 undef) λt29=>nU t18 t21 λt32=>aS .neq t29 t32 λt33=>bB t33 (aS .add (s9.getD 0 undef) (i64 1) λt36=>pF v0 (some t36) none λt37=>nU t18 t21 λt40=>aJ P0 104 [t37,t40] w10.drew.drew λt41 w12=>aS .lss t41 (i64 0) λt43=>bB t43 (K (.int .i64 (-1)) w12) (aS .add t41 (i64 1) λt46=>aS .add (s9.getD 0 undef) t46 λt47=>J11 [t47] w12)) (J11 [(s9.getD 0 undef)] w10.drew)) λs11 _ w13=>dL [(i64 1)] w13 λs14 _ w15 L14=>kA t18 λt50=>aS .lss (s14.getD 0 undef) t50 λt51=>bB t51 (aS .sub (s11.getD 0 undef) (s14.getD 0 undef) λt57=>nU v0 t57 λt58=>aS .sub t21 (s14.getD 0 undef) λt62=>nU t18 t62 λt63=>aS .neq t58 t63 λt64=>bB t64 (False) (aS .add (s14.getD 0 undef) (i64 1) λt53=>L14 [t53] w15.drew)) (aS .sub (s11.getD 0 undef) t21 λt67=>K t67 w15)) (K (.int .i64 (-1)) w10))))
theorem Tj{K:Q0}(h:ZD v0 v1 w K):aJ P0 189 [v0,v1] w K:=
 tie _ 189 Tryz.f189 PT _ w K 2 _ rfl mixed Tryz.func189 (by kernel_rfl) (by kernel_rfl) Tryz.call189 h
def PQ:fD:={js:=[],ds:=[]}
def ZC(v0 v1:Value)(w:World)(K:Q0):=aJ P0 103 [v0,v1] w λt7 w1=>bB t7 (kA v1 λt10=>pF v0 (some t10) none λt11=>K t11 w1) (K v0 w1)
theorem Ti{K:Q0}(h:ZC v0 v1 w K):aJ P0 197 [v0,v1] w K:=
 tie _ 197 Tryz.f197 PQ _ w K 2 _ rfl mixed Tryz.func197 (by kernel_rfl) (by kernel_rfl) Tryz.call197 h
def PM:fD:={js:=[(22004,⟨[55],[],54⟩),(11,⟨[25],[],6⟩),(16004,⟨[32],[],31⟩)],ds:=[]}
def Zy(v0 v1:Value)(w:World)(K:Q0):=wT .u32 v1 λt7=>aS .leq t7 (.int .u32 2047) λt13=>bB t13 (aS .shr v1 (.int .u64 6) λt16=>wT .u8 t16 λt17=>aS .or (.int .u8 192) t17 λt18=>wT .u8 v1 λt20=>aS .and t20 (.int .u8 63) λt21=>aS .or (.int .u8 128) t21 λt22=>gO 5 2 [(.int .u8 0),(.int .u8 0)] [(0,1,t18),(1,1,t22)] w λt23 w1=>fY P0 (Builtin.append_ #[80,80] 80 #[v0,t23]) w1 λt24 w2=>K t24 w2) (dE (λJ3=>aS .lss t7 (.int .u32 55296) λt27=>bB t27 (J3 [t27] w) (aS .lss (.int .u32 57343) t7 λt29=>GdW (isB t29 true) [undef] w (λJ4=>aS .leq t7 (.int .u32 65535) λt32=>J4 [t32] w) λs4 _ w5=>cZ t29 (s4.getD 0 undef) (.bool false) λt33=>J3 [t33] w5)) λs3 _ w6=>bB (s3.getD 0 undef) (aS .shr v1 (.int .u64 12) λt36=>wT .u8 t36 λt37=>aS .or (.int .u8 224) t37 λt38=>aS .shr v1 (.int .u64 6) λt40=>wT .u8 t40 λt41=>aS .and t41 (.int .u8 63) λt42=>aS .or (.int .u8 128) t42 λt43=>wT .u8 v1 λt45=>aS .and t45 (.int .u8 63) λt46=>aS .or (.int .u8 128) t46 λt47=>gO 5 3 [(.int .u8 0),(.int .u8 0),(.int .u8 0)] [(0,1,t38),(1,1,t43),(2,1,t47)] w6 λt48 w7=>fY P0 (Builtin.append_ #[80,80] 80 #[v0,t48]) w7 λt49 w8=>K t49 w8) (aS .gtr t7 (.int .u32 65535) λt52=>GdW (isB t52 true) [undef] w6 (λJ9=>aS .leq t7 (.int .u32 1114111) λt55=>J9 [t55] w6) λs9 _ w10=>cZ t52 (s9.getD 0 undef) (.bool false) λt56=>bB t56 (aS .shr v1 (.int .u64 18) λt59=>wT .u8 t59 λt60=>aS .or (.int .u8 240) t60 λt61=>aS .shr v1 (.int .u64 12) λt63=>wT .u8 t63 λt64=>aS .and t64 (.int .u8 63) λt65=>aS .or (.int .u8 128) t65 λt66=>aS .shr v1 (.int .u64 6) λt68=>wT .u8 t68 λt69=>aS .and t69 (.int .u8 63) λt70=>aS .or (.int .u8 128) t70 λt71=>wT .u8 v1 λt73=>aS .and t73 (.int .u8 63) λt74=>aS .or (.int .u8 128) t74 λt75=>gO 5 4 [(.int .u8 0),(.int .u8 0),(.int .u8 0),(.int .u8 0)] [(0,1,t61),(1,1,t66),(2,1,t71),(3,1,t75)] w10 λt76 w11=>fY P0 (Builtin.append_ #[80,80] 80 #[v0,t76]) w11 λt77 w12=>K t77 w12) (gO 5 3 [(.int .u8 0),(.int .u8 0),(.int .u8 0)] [(0,1,(.int .u8 239)),(1,1,(.int .u8 191)),(2,1,(.int .u8 189))] w10 λt9 w13=>fY P0 (Builtin.append_ #[80,80] 80 #[v0,t9]) w13 λt10 w14=>K t10 w14)))
theorem Td{K:Q0}(h:Zy v0 v1 w K):aJ P0 207 [v0,v1] w K:=
 tie _ 207 Tryz.f207 PM _ w K 2 _ rfl mixed Tryz.func207 (by kernel_rfl) (by kernel_rfl) Tryz.call207 h
def PI:fD:={js:=[(6,⟨[8],[4,5],8⟩)],ds:=[]}
def Zv(v0 v1:Value)(w:World)(K:Q0):=fI v0 λt7=>dL [(i64 0)] w λs1 _ w2 L1=>aS .lss (s1.getD 0 undef) t7 λt9=>bB t9 (fK none 9 v0 (s1.getD 0 undef) λt14=>ldW true 9 t14 w2 λt15=>nV P0 v1 [t15] w2 λt16 w3=>bB t16 (K (s1.getD 0 undef) w3) (aS .add (s1.getD 0 undef) (i64 1) λt18=>L1 [t18] w3)) (K (.int .i64 (-1)) w2)
theorem SX{K:Q0}(h:Zv v0 v1 w K):aJ P0 213 [v0,v1] w K:=
 tie _ 213 Tryz.f213 PI _ w K 2 _ rfl mixed Tryz.func213 (by kernel_rfl) (by kernel_rfl) Tryz.call213 h
def PH:fD:={js:=[(6,⟨[8],[4,5],8⟩)],ds:=[]}
def Zu(v0 v1:Value)(w:World)(K:Q0):=fI v0 λt7=>dL [(i64 0)] w λs1 _ w2 L1=>aS .lss (s1.getD 0 undef) t7 λt9=>bB t9 (fK none 4 v0 (s1.getD 0 undef) λt14=>ldW true 4 t14 w2 λt15=>nV P0 v1 [t15] w2 λt16 w3=>bB t16 (K (s1.getD 0 undef) w3) (aS .add (s1.getD 0 undef) (i64 1) λt18=>L1 [t18] w3)) (K (.int .i64 (-1)) w2)
theorem SV{K:Q0}(h:Zu v0 v1 w K):aJ P0 214 [v0,v1] w K:=
 tie _ 214 Tryz.f214 PH _ w K 2 _ rfl mixed Tryz.func214 (by kernel_rfl) (by kernel_rfl) Tryz.call214 h
end
section
open Go Go.Eng Go.RowKit Go.Syn Go.Lex
variable{w:World}{K:Q0}{cs:List Value}{G:Nat->Prop}{T:TypeId}{i:Nat}{n:Nat}{v:Value}{w':World}{P:Program}{c:UInt8}{S:Nat->Prop}
abbrev DT:TypeId:=29
def jI(t:Tok):List Value:=[i64 t.k,str t.t,i64 t.a]
def zY(w:World)(p:Nat):Nat:=match w.heap[p]? with|some (.cells c _ _)=>(match(c[1]?:Option Value)with|some (Value.int _ i)=>i.toNat|_=>0)|_=>0
theorem PR.at_{w0:World}{p f:Nat}{M:Lay}{vt:Value}{s:PS}{top:List Nat}(h:PR w0 w p f M vt s top):zY w p=s.i:=by
 unfold zY;rw[h.ps];simp
theorem wsi{N:Int}{s:PS}(h:WS N s)(hN:s.toks.length<=100000):s.i<=1000000:=by have:=h.lt;omega
section
variable [HX]
def Thr(w0:World)(f:Nat)(code at_:Int):Prop:=
 ∀(d:Nat) (w':World) (cs:List Value),Chg (Of f) w0 w'->w0.heap.size<=d->cs.length=3->w'.heap[f]?=some (.cells cs.toArray FlT (0,0))->w'.heap[d]?=some (.cells [i64 code,str [],i64 at_].toArray 48 (0,0))->HX.X [{v:=.iface DT (.pointer (some ⟨d,0,none⟩)),recovered:=false}] w'
section
variable{w0 w:World}{p f:Nat}{M:Lay}{vt:Value}{s:PS}{top:List Nat}{N:Int}{K:Q0}
theorem rP{e a:Int}(h:PR w0 w p f M vt s top)(ht:Thr w0 f e a):aJ P0 33 [i64 e,i64 a] w K:=by
 refine XP ?_;unfold W33;simp only[dP,dW,dN,aB,aK,aM,aQ];refine⟨by omega,by omega,?_⟩;refine fZ (z:=[i64 e,str [],i64 a]) λd w' hd hz hb hx=>?_;have h':=h.ext hx;exact ht d w' _ h'.ch (by have:=h.base;omega) (by rfl) h'.fr.hf hb
theorem tW:∀{l:List Tok} {i:Nat} {t:Tok},l[i]?=some t->kU (l.drop i)=if t.k=5 then kU (l.drop (i+1))+1 else 0:=by
 intro l i t h;have hlt:=(bS.1 h).1;rw[eB hlt,(bS.1 h).2];rfl
theorem pL(h:PR w0 w p f M vt s top)(hs:WS N s)(hN:N<=1000000)(hl:s.toks.length<=100000)(hK:∀w',PR w0 w' p f M vt (bM s) top->Eff p f M M w w'->K (.agg (jI (cur s)).toArray) w'):
  aJ P0 31 [.pointer (some ⟨p,0,none⟩)] w K:=by
 refine XR ?_;unfold W31;refine cK λb w1 hb hz1 hbb hx1=>?_;have hp:=h.lt;have h1:=h.ext hx1;have L1:=h.loc hz1 hb hbb;refine dL.go (λst w'=>st=[]/\∃j,PR w0 w' p f M vt {s with i:=j} top/\s.i<=j/\bM {s with i:=j}=bM s/\j<=(bM s).i/\Eff p f M M w w'/\Loc w0 w' p f M vt b TkT [i64 0,str [],i64 0]) (λ_ w'=>s.toks.length-zY w' p)
  ⟨rfl,s.i,h1,aZ _,rfl,HF s,Eff.ext hx1,L1⟩ ?_
 rintro st g w2 ⟨rfl,j,h2,hj,hnow,hjn,he2,L2⟩;have hg:=jN hs;have hjl:j<s.toks.length:=by have:=(hg.ws hs).lt;rw[hg.toks]at this;omega
 have hws:WS N {s with i:=j}:=⟨hs.tg,hjl,hs.pN⟩;obtain⟨t,ht⟩:∃t,s.toks[j]?=some t:=⟨_,aG hjl⟩;have h3:=h2.drew;have sl:SlAt w2.drew TkT vt s.toks.length (toks s.toks):=h3.tk;have stop:bM {s with i:=j}={s with i:=j}->eC (.pointer (some ⟨p,0,none⟩)) (λt30=>aR 0 t30 λt31=>ldW false 1 t31 w2.drew.drew λt32=>eC (.pointer (some ⟨p,0,none⟩)) λt34=>aR 1 t34 λt35=>ldW false 1 t35 w2.drew.drew λt36=>fK none 3 t32 t36 λt37=>ldW true 3 t37 w2.drew.drew λt38=>dA TkT [(.int .i64 0),(.string (ofL [])),(.int .i64 0)] w2.drew.drew λt3 w17=>(ldW true 3 t37 w17 λx=>x=t38)/\(ldW false 1 t35 w17 λx=>x=t36)/\(ldW false 1 t31 w17 λx=>x=t32)/\stW 3 t3 t38 w17 λw18=>aR 2 t3 λt39=>ldW false 1 t39 w18.drew λt40=>eC (.pointer (some ⟨p,0,none⟩)) λt42=>aR 2 t42 λt43=>ldW false 1 t43 w18.drew λt44=>aS .add t40 t44 λt45=>aR 2 t3 λt46=>stW 1 t46 t45 w18.drew λw19=>ldW true 3 t3 w19 λt47=>stW 3 (.pointer (some ⟨b,0,none⟩)) t47 w19 λw20=>ldW true 3 (.pointer (some ⟨b,0,none⟩)) w20 λr21=>K r21 w20):=λhn=>by
  have h4:=h3.drew;have ecur:cur s={t with a:=t.a+s.off}:=by
   unfold cur;rw[<-hnow,hn];have:nM {s with i:=j}=t:=by unfold nM;rw[bR,ht];rfl
   rw[this]
  have hpos:=hws.tg.pos j t ht;simp only at hpos;have ldT:∀{w':World},PR w0 w' p f M vt {s with i:=j} top->ldW false 1 (.pointer (some ((⟨p,0,none⟩:Addr).add 0))) w' λx=>x=vt:=λh=>by
   rw[eD];exact⟨vt,by rw[bL,cM,h.ps,bT];rfl,rfl⟩
  have ldI:∀{w':World},PR w0 w' p f M vt {s with i:=j} top->ldW false 1 (.pointer (some ((⟨p,0,none⟩:Addr).add 1))) w' λx=>x=i64 (j:Nat):=λh=>by
   rw[eD];exact⟨_,by rw[bL,cM,h.ps,bT];rfl,rfl⟩
  refine h4.ld rfl ?_;refine h4.ld rfl ?_;refine Bz (size:=3) h4.tk (CM _) (by omega) hjl λtb o c fr htb hc=>?_;have hcell:∀i,i<3->c[o+i]?=(jI t)[i]?:=λi hi=>by rw[hc i hi];exact GX ht hi
  have three:∀{w':World},w'.heap[tb]?=some (.cells c TkT fr)->bV w' ⟨tb,o,none⟩ 0 3=some (jI t):=λh=>by
   have h0:=hcell 0 (by omega);have h1:=hcell 1 (by omega);have h2:=hcell 2 (by omega);simp only[jI,bJ,bG,bF]at h0 h1 h2;simp only[bV,bL,cM,h,bT,bJ,h0,h1,h2,aH,Nat.reduceAdd];rfl
  rw[xP];refine⟨jI t,three htb,?_⟩;refine cK λb2 w5 hb2 hz5 hbb5 hx5=>?_;have h5:=h4.ext hx5;have L5:=h4.loc hz5 hb2 hbb5;have htb5:=hx5.at htb id;refine⟨by rw[xP];exact⟨_,three htb5,rfl⟩,ldI h5,ldT h5,?_⟩;refine cY (l:=jI t) L5.1 rfl rfl rfl λw6 hz6 hb6 hc6=>?_;have L6:Loc w0 w6 p f M vt b2 TkT (jI t):=⟨hb6,L5.2.up (by omega)⟩;have h6:=h5.one hc6 L5.2;refine L6.drew.ldf rfl ?_;refine h6.drew.ld (v:=i64 s.off) rfl ?_;rw[cJ,gI (by omega) (by omega),bE,bL,aI];refine L6.drew.st rfl (by simp[jI]) λw7 L7 hc7 hz7=>?_;have h7:=h6.drew.one hc7 L6.drew.2;refine gF (l:=jI (cur s)) (by rw[L7.1,ecur];rfl) rfl ?_;have hbb2:b2≠b:=by have:=L2.lt;have:w2.drew.drew.heap.size=w2.heap.size:=rfl;omega
  have L2':=(((L2.drew.drew.ext hx5).one hc6 (kG hbb2)).drew.one hc7 (kG hbb2));refine vX (l:=jI (cur s)) L2'.1 rfl rfl rfl λw8 hc8=>?_;have h8:=h7.one hc8 L2'.2;refine hK w8 (by rw[<-hnow,hn];exact h8) ?_;have hz2:=he2.chg.size;have z1:w2.drew.drew.heap.size=w2.heap.size:=rfl;exact((((((he2.x (cQ _)).x (cQ _)).x hx5).one hc6 (by omega)).x (cQ _)).one hc7 (by omega)).one hc8 (by omega)
 by_cases hq:s.quiet=true
 ·refine h3.ld (v:=.bool true) (by simp[hq]) ?_;simp only[fT,KX];refine⟨_,rfl,_,rfl,_,rfl,vt,by rw[eD];exact⟨vt,by rw[bL,cM,h3.ps,bT];rfl,rfl⟩,_,rfl,_,rfl,_,rfl,i64 (j:Nat),by rw[eD];exact⟨_,by rw[bL,cM,h3.ps,bT];rfl,rfl⟩,?_⟩;obtain⟨q,cap,hv,g1,g2,g3⟩:=sl;have hne:toks s.toks≠[]:=λe=>by have:=congrArg List.length e;rw[CM,aK]at this;omega
  obtain⟨tb,o,c,fr,rfl,htb,hcs⟩:=g3 hne;have hlen:(toks s.toks).length=s.toks.length*3:=CM _;refine⟨.pointer (some ((⟨tb,o,none⟩:Addr).add (j*3))),?_,.pointer (some (((⟨tb,o,none⟩:Addr).add (j*3)).add 0)),rfl,i64 t.k,?_,.bool (decide (t.k=5)),by rw[cL],?_⟩
  ·rw[hv,eY];exact⟨by omega,by omega,by rw[aV]⟩
  ·rw[eD];refine⟨_,?_,rfl⟩;rw[bL,bL,cM,htb,bT,bJ,hcs _ (by omega)];have:=GX (j:=0) ht (by omega);rw[bJ]at this;exact this
  rw[iE,bD];refine⟨λhk=>?_,λhk=>stop ?_⟩
  ·have hrun:bM {s with i:=j+1}=bM s:=by
    rw[<-hnow];unfold bM;simp only[hq,qH];have e:=tW ht;rw[aU hk]at e;rw[e];congr 1;omega
   refine h3.go (wsi hws hl) λw4 h4 he4 hz4=>?_;refine⟨⟨trivial,j+1,h4,by omega,hrun,?_,(he2.x (cQ _)).trans he4,L2.drew.eff he4⟩,?_⟩
   ·rw[<-hrun];exact HF {s with i:=j+1}
   ·rw[h4.at_,h2.at_];simp only[step1];omega
  ·have e:=tW ht;rw[aL hk]at e;unfold bM;simp only[hq,qH,e,bJ]
 ·have hq:s.quiet=false:=by simpa using hq
  refine h3.ld (v:=.bool false) (by simp[hq]) ?_;simp only[fT,FX];rw[eX,bQ];exact stop (by unfold bM;simp only[hq];rfl)
end
end
theorem rR{xs:List Value}(h:SlAt w T v n xs)(hc:Chg S w w')(hS:∀k,v.ownBlock=some k->¬S k):SlAt w' T v n xs:=by
 obtain⟨q,cap,hv,h1,h2,h3⟩:=h;refine⟨q,cap,hv,h1,h2,λhne=>?_⟩;obtain⟨b,off,c,fr,hq,hb,hcs⟩:=h3 hne;exact⟨b,off,c,fr,hq,hc.at hb (hS b (by rw[hv,hq];rfl)),hcs⟩
def aAV(w0 w:World)(p f:Nat)(M:Lay)(vt:Value)(v:Value)(T:TypeId)(n:Nat)(cs:List Value):Prop:=SlAt w T v n cs/\∀k,v.ownBlock=some k->Off w0 w p f M vt k
theorem upi(h:i<=4611686018427387904):IntKind.i64.wrap ((i:Int)+1)=((i+1:Nat):Int):=by rw[gI (by omega) (by omega)];rfl
def sP:List Str->Str->Nat->Int
 |[],_,_=>-1
 |a::r,x,i=>if x=a then(i:Nat)else sP r x (i+1)
theorem Hb(x:Str):∀(l:List Str) (i:Nat),(0<=sP l x i↔x∈l)
 |[],i=>by simp[sP]
 |a::r,i=>by
  simp only[sP]
  split
  ·rename_i h
   simp[h]
  ·rename_i h
   rw[Hb x r (i+1)]
   simp[h]
theorem wJ{x:Str}{K:Q0}(hK:∀b w',b=w.heap.size->w'.heap.size=w.heap.size+1->w'.heap[b]?=some (.cells [str x].toArray StT (0,0))->Ext w w'->K (.slice (some ⟨b,0,none⟩) 1 1) w'):gO StT 1 [(.string (ofL []))] [(0,1,str x)] w K:=by
 rw[gO];simp only[dW,dN,aB,aK,aM];refine⟨by omega,?_⟩;exact row_new λa w' ha hz hb hx _=>hK a w' ha hz hb hx
theorem mF{x:Int}{K:Q0}(hK:∀b w',b=w.heap.size->w'.heap.size=w.heap.size+1->w'.heap[b]?=some (.cells [i64 x].toArray jY (0,0))->Ext w w'->K (.slice (some ⟨b,0,none⟩) 1 1) w'):gO jY 1 [(.int .i64 0)] [(0,1,i64 x)] w K:=by
 rw[gO];simp only[dP,dN,aB,aK,aM];refine⟨by omega,?_⟩;exact row_new λa w' ha hz hb hx _=>hK a w' ha hz hb hx
theorem Iw{x y:Int}{K:Q0}(hK:∀b w',b=w.heap.size->w'.heap.size=w.heap.size+1->w'.heap[b]?=some (.cells [i64 x,i64 y].toArray jY (0,0))->Ext w w'->K (.slice (some ⟨b,0,none⟩) 2 2) w'):gO jY 2 [(.int .i64 0),(.int .i64 0)] [(0,1,i64 x),(1,1,i64 y)] w K:=by
 rw[gO];simp only[dP,dN,aB,aK,aM,aQ];refine⟨by omega,by omega,?_⟩;exact row_new λa w' ha hz hb hx _=>hK a w' ha hz hb hx
theorem Oo{x y z:Int}{K:Q0}(hK:∀b w',b=w.heap.size->w'.heap.size=w.heap.size+1->w'.heap[b]?=some (.cells [i64 x,i64 y,i64 z].toArray jY (0,0))->Ext w w'->K (.slice (some ⟨b,0,none⟩) 3 3) w'):gO jY 3 [(.int .i64 0),(.int .i64 0),(.int .i64 0)] [(0,1,i64 x),(1,1,i64 y),(2,1,i64 z)] w K:=by
 rw[gO];simp only[dP,dN,aB,aK,aM,aQ];refine⟨by omega,by omega,by omega,?_⟩;exact row_new λa w' ha hz hb hx _=>hK a w' ha hz hb hx
theorem Bc{z d:List Value}{K:Q0}(hd:d.length=n)(hz0:z.length=n)(hK:∀b w',b=w.heap.size->w'.heap.size=w.heap.size+1->w'.heap[b]?=some (.cells d.toArray T (0,0))->Ext w w'->K (.slice (some ⟨b,0,none⟩) 1 1) w'):gO T 1 z [(0,n,.agg d.toArray)] w K:=by
 rw[gO];simp only[jS,Value.cells];refine⟨by simpa using hd,by omega,?_⟩;have e:(z.take 0++(d++z.drop (0+n)))=d:=by rw[List.take_zero,gB,aI,<-hz0,gU,fX]
 rw[e];exact row_new λa w' ha hz hb hx _=>hK a w' ha hz hb hx
theorem Az{b:Nat}(h:w.heap[b]?=some (.cells cs.toArray T (0,0)))(hn:cs.length=n):SlAt w T (.slice (some ⟨b,0,none⟩) n n) n cs:=
 ⟨_,_,rfl,aZ _,λe=>(by cases e),λ_=>⟨b,0,cs.toArray,_,rfl,h,λi _=>by simp⟩⟩
theorem Nm{B b m:Nat}(h:w.heap[b]?=some (.cells cs.toArray T (0,0)))(hB:B<=b)(hn:cs.length=n*m)(hm:n<=1000000):Own w B T m (.slice (some ⟨b,0,none⟩) n n) n cs:=
 ⟨hn,.inr ⟨b,n,cs.toArray,rfl,hB,h,aZ _,by unfold maxLen;omega,by simpa using hn,by simp[<-hn]⟩⟩
theorem Gv{f:Nat}{a a' b d:List Nat}(h:(f::(a++b)).Nodup)(hlt:∀k∈f::(a++b),k<n)(ha':a'.Nodup)(hn:∀k∈a',k∈a\/n<=k)(hd:d.Nodup)(hdd:∀k∈d,k<n/\k∉f::(a++b)):(f::(a'++(d++b))).Nodup:=by
 rw[dK,iA]at h;obtain⟨hf,_,hb,hab⟩:=h;have new:∀k∈a',k∉b/\k≠f/\k∉d:=λk hk=>by
  rcases hn k hk with hk|hk
  ·exact⟨λe=>hab k hk k e rfl,λe=>hf (e▸cD _ hk),λe=>(hdd k e).2 (aD _ (cD _ hk))⟩
  ·exact⟨λe=>by have:=hlt k (aD _ (bP _ e));omega,λe=>by have:=hlt k (by rw[e];exact aW);omega,λe=>by have:=(hdd k e).1;omega⟩
 rw[dK];refine⟨λe=>?_,?_⟩
 ·rcases bK.1 e with e|e
  ·exact(new f e).2.1 rfl
  rcases bK.1 e with e|e
  ·exact(hdd f e).2 aW
  ·exact hf (bP _ e)
 ·refine iA.2 ⟨ha',iA.2 ⟨hd,hb,λx hx y hy e=>?_⟩,λx hx y hy e=>?_⟩
  ·subst e;exact(hdd x hx).2 (aD _ (bP _ hy))
  ·subst e;rcases bK.1 hy with hy|hy
   ·exact(new x hx).2.2 hy
   ·exact(new x hx).1 hy
theorem vK(v:Value)(c:List Value):ub (v::c)=ub [v]++ub c:=by
 rw[<-nL];rfl
theorem nZ(v:Value):(ub [v]).Nodup:=by
 unfold ub;cases h:v.ownBlock with
 |none=>simp[h]
 |some k=>simp[h]
theorem IJ(M:Lay)(f:Nat):M.uses f=f::(ub [M.vE]++ub ([M.vB,M.vT]++(M.cE++M.cB))):=by
 unfold Lay.uses;rw[iC,vK]
theorem OP(M:Lay)(f:Nat)(v:Value)(d:List Value):(({M with vE:=v,cE:=M.cE++d}:Lay).uses f).Perm (f::(ub [v]++(ub d++ub ([M.vB,M.vT]++(M.cE++M.cB))))):=by
 rw[CH];intro a;rw[IJ];simp only[nL,kH,wR];omega
theorem IK(M:Lay)(f:Nat):(M.uses f).Perm (f::(ub [M.vB]++ub ([M.vE,M.vT]++(M.cE++M.cB)))):=by
 rw[CH];intro a;unfold Lay.uses;simp only[nL,kH,wR];rw[vK M.vE,vK M.vB,vK M.vE [M.vT]];simp only[kH];omega
theorem OQ(M:Lay)(f:Nat)(v:Value)(d:List Value):(({M with vB:=v,cB:=M.cB++d}:Lay).uses f).Perm (f::(ub [v]++(ub d++ub ([M.vE,M.vT]++(M.cE++M.cB))))):=by
 rw[CH];intro a;rw[(IK _ f).count_eq];simp only[nL,kH,wR];omega
section
variable{w0 w w1 w2:World}{p f:Nat}{M:Lay}{vt:Value}{s:PS}{top:List Nat}
theorem PR.putE(h:PR w0 w p f M vt s top){wb:World}{M0:Lay}(he:Eff p f M0 M wb w){e:Ex}{d:List Value}{v':Value}(hd:ExR w w0.heap.size e d)(hu:∀k∈ub d,Off w0 w p f M vt k)(hn:(ub d).Nodup)(hnew:∀k∈ub d,wb.heap.size<=k)
  (hO:Own w1 w0.heap.size ExT 5 v' (s.ex.length+1) (M.cE++d))(hc1:Chg (λk=>M.vE.ownBlock=some k) w w1)(hv:∀k,v'.ownBlock=some k->M.vE.ownBlock=some k\/w.heap.size<=k)
  (hc2:Chg (One f) w1 w2)(hf:w2.heap[f]?=some (.cells [v',M.vB,M.vT].toArray FlT (0,0))):PR w0 w2 p f {M with vE:=v',cE:=M.cE++d} vt {s with ex:=s.ex++[e]} top/\Eff p f M0 {M with vE:=v',cE:=M.cE++d} wb w2/\∀b T cs,Loc w0 w p f M vt b T cs->b∉ub d->Loc w0 w2 p f {M with vE:=v',cE:=M.cE++d} vt b T cs:=by
 have hb:=h.base;have hzb:=he.chg.size;have eE:=IJ M f;have use:∀k,M.vE.ownBlock=some k->k∈M.uses f:=λk hk=>aD _ (eF (v:=M.vE) (by simp) hk);have hnd:=h.fr.nd;rw[eE,dK,iA]at hnd;obtain⟨nf,_,nb,nab⟩:=hnd;have rest:∀k∈ub ([M.vB,M.vT]++(M.cE++M.cB)),M.vE.ownBlock≠some k/\k≠f/\k<w.heap.size:=λk hk=>
  ⟨λe=>nab k (jW.2 e) k hk rfl,λe=>nf (e▸bP _ hk),h.fr.lt k (by rw[eE];exact aD _ (bP _ hk))⟩
 have c12:Chg (λk=>M.vE.ownBlock=some k\/k=f) w w2:=(hc1.mono λk _ e=>.inl e).trans (hc2.mono λk _ e=>.inr e);have sub:∀v∈[M.vB,M.vT]++(M.cE++M.cB),∀k,v.ownBlock=some k->¬(M.vE.ownBlock=some k\/k=f):=λv hv k hk e=>by
  have:=rest k (eF hv hk);exact e.elim this.1 this.2.1
 have hOf:∀k,v'.ownBlock=some k->k≠f:=λk hk e=>by
  subst e;rcases hv k hk with e|e
  ·exact nf (cD _ (jW.2 e))
  ·have:=mB h.fr.hf;omega
 have nE:M.vE.ownBlock≠some p:=λe=>h.np (use p e);have pf:p≠f:=λe=>h.np (e▸aW);have perm:=OP M f v' d;have hN:(f::(ub [v']++(ub d++ub ([M.vB,M.vT]++(M.cE++M.cB))))).Nodup:=Gv (n:=w.heap.size) (a:=ub [M.vE]) (by rw[<-eE];exact h.fr.nd) (λk hk=>h.fr.lt k (by rw[eE];exact hk)) (nZ _) (λk hk=>(hv k (jW.1 hk)).imp (λe=>jW.2 e) id) hn λk hk=>⟨(hu k hk).1.2,by rw[<-eE];exact(hu k hk).2.2.1⟩;have hz:=c12.size;have mem:∀k∈({M with vE:=v',cE:=M.cE++d}:Lay).uses f,k=f\/v'.ownBlock=some k\/k∈ub d\/k∈ub ([M.vB,M.vT]++(M.cE++M.cB)):=λk hk=>by
  have hk:=perm.mem_iff.1 hk;rcases bC.1 hk with e|e
  ·exact .inl e
  rcases bK.1 e with e|e
  ·exact .inr (.inl (jW.1 e))
  rcases bK.1 e with e|e
  ·exact .inr (.inr (.inl e))
  ·exact .inr (.inr (.inr e))
 have cT:Chg (Tn p f M) w w2:=c12.mono λk _ e=>e.elim (λe=>.inr (.inr (.inl e))) λe=>.inr (.inl e);refine⟨⟨?_,⟨hf,?_,?_,?_,?_,?_,perm.nodup_iff.2 hN,λk hk=>?_,λk hk=>?_⟩,?_,?_,λe=>?_,h.lo,λk hk=>?_⟩,⟨(he.trans (Eff.of cT)).chg,λk hk=>?_,λk hk=>(hv k hk).elim (he.hE k) λe=>.inr (by omega),he.hB,he.hT⟩,λb T cs hL hbd=>⟨cT.at hL.1 hL.2.no,⟨hL.2.1.1,dD hL.2.1.2 hz⟩,hL.2.2.1,λhk=>?_,hL.2.2.2.2⟩⟩
 ·refine h.ch.then c12 λk hk e=>?_;rcases e with e|e
  ·exact(h.fr.lo k (use k e)).resolve_right (by omega)
  ·exact e
 ·rw[aP];exact eG hO hc2 λk hk e=>hOf k hk e
 ·exact eG h.fr.oB c12 (sub _ (by simp))
 ·exact eG h.fr.oT c12 (sub _ (by simp))
 ·refine kO.snoc ?_ (hd.at_ c12 λk hk e=>?_) (by obtain⟨va,vk,rfl,_⟩:=hd;rfl)
  ·refine h.fr.ee.imp λx d hd hx=>hx.at_ c12 λk hk=>?_;obtain⟨v,hv,hk⟩:=bZ.1 hk;exact sub v (by simp[hd v hv]) k hk
  ·have ho:=(hu k hk).2.2.1;rcases e with e|e
   ·exact ho (use k e)
   ·exact ho (e▸aW)
 ·refine h.fr.bb.imp λx d hd hx=>hx.at_ c12 λk hk=>?_;obtain⟨v,hv,hk⟩:=bZ.1 hk;exact sub v (by simp[hd v hv]) k hk
 ·rcases mem k hk with e|e|e|e
  ·rw[e];exact mB hf
  ·exact dD (kJ hO e).1 hc2.size
  ·exact dD (hu k e).1.2 hz
  ·exact dD (rest k e).2.2 hz
 ·rcases mem k hk with e|e|e|e
  ·exact .inl e
  ·exact .inr (kJ hO e).2
  ·exact .inr (hu k e).1.1
  ·exact h.fr.lo k (by rw[eE];exact aD _ (bP _ e))
 ·exact c12.at h.ps λe=>e.elim nE pf
 ·exact rR h.tk c12 λk hk e=>by
   have:=(h.nt k hk).1;rcases e with e|e
   ·exact this (use k e)
   ·exact this (e▸aW)
 ·rcases mem p e with e|e|e|e
  ·exact pf e
  ·exact(hv p e).elim nE λe=>by have:=h.lt;omega
  ·exact(hu p e).2.1 rfl
  ·exact h.np (by rw[eE];exact aD _ (bP _ e))
 ·have ht:=h.nt k hk;refine⟨λe=>?_,ht.2.1,dD ht.2.2 hz⟩;rcases mem k e with e|e|e|e
  ·exact ht.1 (e▸aW)
  ·exact(hv k e).elim (λe=>ht.1 (use k e)) λe=>by omega
  ·exact(hu k e).2.2.2 hk
  ·exact ht.1 (by rw[eE];exact aD _ (bP _ e))
 ·rcases mem k hk with e|e|e|e
  ·exact he.us k (e▸aW)
  ·exact(hv k e).elim (λe=>he.us k (use k e)) λe=>.inr (by omega)
  ·exact .inr (hnew k e)
  ·exact he.us k (by rw[eE];exact aD _ (bP _ e))
 ·have ho:=hL.2;rcases mem b hk with e|e|e|e
  ·exact ho.2.2.1 (e▸aW)
  ·exact(hv b e).elim (λe=>ho.2.2.1 (use b e)) λe=>by have:=ho.1.2;omega
  ·exact hbd e
  ·exact ho.2.2.1 (by rw[eE];exact aD _ (bP _ e))
end
section
variable [HX]
variable{w0 w:World}{p f:Nat}{M:Lay}{vt:Value}{s:PS}{top:List Nat}{N:Int}{K:Q0}
theorem Kr{l:List Str}{x:Str}{K:Q0}(h:SlAt w T v l.length (strs l))(hl:l.length<=1000000)(hK:K (i64 (sP l x 0)) w):aJ P0 154 [v,str x] w K:=by
 refine TJ ?_;unfold aAa;rw[eO h];refine dL.go (λst w'=>∃j:Nat,st=[i64 j]/\j<=l.length/\w'=w/\sP (l.drop j) x j=sP l x 0) (λst _=>match st with|[.int _ j]=>l.length-j.toNat|_=>0) ⟨0,rfl,by omega,rfl,rfl⟩ ?_;rintro st g w' ⟨j,rfl,hj,rfl,hs⟩;simp only[aC];rw[dI,bD];refine⟨λhlt=>?_,λhge=>?_⟩
 ·have hlt:j<l.length:=by omega
  refine mR (x:=str l[j]) h (by simp[strs]) (by simp[strs,hlt]) ?_;rw[eB hlt]at hs;simp only[sP]at hs;rw[eQ,bD];refine⟨λe=>?_,λe=>?_⟩
  ·rw[aU e]at hs;rw[hs];exact hK
  ·rw[aL e]at hs;rw[cJ,upi (by omega)];exact⟨⟨j+1,rfl,by omega,trivial,hs⟩,by simp only[aV];omega⟩
 ·rw[iI (by omega)]at hs;simp only[sP]at hs;rw[hs];exact hK
theorem yA{l:List Str}{x:Str}{K:Q0}(h:SlAt w T v l.length (strs l))(hl:l.length<=1000000)(hK:K (.bool (decide (x∈l))) w):aJ P0 117 [v,str x] w K:=by
 refine Uk ?_;unfold aAw;refine Kr h hl ?_;rw[fS];simp only[Hb];exact hK
theorem Jg(h:PR w0 w p f M vt s top)(hs:WS N s)(hN:N<=1000000)(hl:s.toks.length<=100000)(hK:∀w',PR w0 w' p f M vt (kY s) top->Eff p f M M w w'->K (.agg (jI (cur s)).toArray) w'):
  aJ P0 64 [.pointer (some ⟨p,0,none⟩)] w K:=by
 refine Xw ?_;unfold W64;refine cK λb w1 hb hz1 hbb hx1=>?_;have h1:=h.ext hx1;have L1:=h.loc hz1 hb hbb;refine pL h1 hs hN hl λw2 h2 he2=>?_;have L2:=L1.eff he2;refine cK λb2 w3 hb2 hz3 hbb3 hx3=>?_;have h3:=h2.ext hx3;have L3:=h2.loc hz3 hb2 hbb3;have hne:b≠b2:=by have:=L2.lt;omega
 have L23:=L2.ext hx3;refine cY (l:=jI (cur s)) L3.1 rfl rfl rfl λw4 hz4 hb4 hc4=>?_;have L4:Loc w0 w4 p f M vt b2 TkT (jI (cur s)):=⟨hb4,L3.2.up (by omega)⟩;have h4:=h3.one hc4 L3.2;have L24:=L23.one hc4 hne;have he4:Eff p f M M w w4:=(((Eff.ext hx1).trans he2).x hx3).one hc4 (by have:=he2.chg.size;omega);refine dE.cut (λ_ w'=>PR w0 w' p f M vt (kY s) top/\Eff p f M M w4 w') ?_ ?_
 ·refine L4.ldf rfl ?_;rw[dQ,bD];unfold kY;refine⟨λhk=>?_,λhk=>?_⟩
  ·rw[aU hk];exact h4.go (wsi ((jN hs).ws hs) (by rw[(jN hs).toks];exact hl)) λw5 h5 he5 _=>⟨h5,he5⟩
  ·rw[aL hk];exact⟨h4,Eff.refl _ _ _ _⟩
 rintro st g w5 ⟨h5,he5⟩;have L5:=L4.eff he5;have L25:=L24.eff he5;refine gF L5.1 rfl ?_;refine vX (l:=jI (cur s)) L25.1 rfl rfl rfl λw6 hc6=>?_;exact hK w6 (h5.one hc6 L25.2) ((he4.trans he5).one hc6 (by omega))
theorem WN{x:Str}(h:PR w0 w p f M vt s top)(hs:WS N s)(hN:N<=1000000)(hl:s.toks.length<=100000)(hv:aAV w0 w p f M vt v StT 1 [str x])(hK:∀w',PR w0 w' p f M vt (bM s) top->Eff p f M M w w'->K (.bool (isS s x)) w'):
  aJ P0 65 [.pointer (some ⟨p,0,none⟩),v] w K:=by
 refine Xv ?_;unfold W65;refine pL h hs hN hl λw1 h1 he1=>?_;refine cK λb w2 hb hz2 hbb hx2=>?_;have h2:=h1.ext hx2;have L2:=h1.loc hz2 hb hbb;refine cY (l:=jI (cur s)) L2.1 rfl rfl rfl λw3 hz3 hb3 hc3=>?_;have L3:Loc w0 w3 p f M vt b TkT (jI (cur s)):=⟨hb3,L2.2.up (by omega)⟩;have h3:=h2.one hc3 L2.2;have he3:Eff p f M M w w3:=(he1.x hx2).one hc3 (by have:=he1.chg.size;omega);have sl3:SlAt w3 StT v 1 [str x]:=rR hv.1 he3.chg λk hk=>(hv.2 k hk).no;refine L3.ldf rfl ?_;rw[cL];refine GdW.look (decide ((cur s).t=x)) (λ_ J hJ=>?_) λg=>?_
 ·refine L3.ldf rfl ?_;refine yA (l:=[x]) sl3 (by simp) ?_;simpa using hJ
 ·simp only[aC,fT];rw[fG];exact hK w3 h3 he3
theorem uC{x:Str}(h:PR w0 w p f M vt s top)(hs:WS N s)(hN:N<=1000000)(hl:s.toks.length<=100000)(hK:∀w',PR w0 w' p f M vt (cS s x).2 top->Eff p f M M w w'->K (.bool (cS s x).1) w'):
  aJ P0 68 [.pointer (some ⟨p,0,none⟩),str x] w K:=by
 refine Xs ?_;unfold W68;refine wJ λb w1 hb hz1 hbb hx1=>?_;have h1:=h.ext hx1;have L1:=h.loc hz1 hb hbb;refine WN h1 hs hN hl ⟨Az hbb rfl,λk hk=>by simp only[Value.ownBlock,bA]at hk;subst hk;exact L1.2⟩ λw2 h2 he2=>?_;have he:=(Eff.ext hx1).trans he2;unfold cS at hK;rw[fH,eJ];refine⟨λe=>?_,λe=>?_⟩
 ·have e:isS s x=false:=by simpa using e
  rw[aL (by rw[e];decide)]at hK;exact hK w2 h2 he
 ·have e:isS s x=true:=by simpa using e
  rw[aU e]at hK;exact h2.go (wsi ((jN hs).ws hs) (by rw[(jN hs).toks];exact hl)) λw3 h3 he3 _=>hK w3 h3 (he.trans he3)
theorem xC{x:Str}(h:PR w0 w p f M vt s top)(hs:WS N s)(hN:N<=1000000)(hl:s.toks.length<=100000)(hK:∀s',pK s x=.ok () s'->∀w',PR w0 w' p f M vt s' top->Eff p f M M w w'->K (.tuple #[]) w')(ht:∀c a,pK s x=.err c a->Thr w0 f c a):
  aJ P0 157 [.pointer (some ⟨p,0,none⟩),str x] w K:=by
 refine TH ?_;unfold ZY;refine uC h hs hN hl λw1 h1 he1=>?_;unfold cS at h1 he1⊢;unfold pK at hK ht;rw[fH,eJ];by_cases e:isS s x=true
 ·simp only[aU e]at h1 he1 hK ht⊢;exact⟨λe=>(by cases e),λ_=>hK _ rfl w1 h1 he1⟩
 ·simp only[aL e]at h1 he1 hK ht⊢;refine⟨λ_=>?_,λe=>(by cases e)⟩;refine pL h1 ((jN hs).ws hs) hN (by rw[(jN hs).toks];exact hl) λw2 h2 he2=>?_;rw[mY];refine⟨i64 (cur s).a,rfl,?_⟩;exact rP h2 (ht _ _ rfl)
theorem xQ{k:Int}(h:PR w0 w p f M vt s top)(hs:WS N s)(hN:N<=1000000)(hl:s.toks.length<=100000)(hK:∀t s',nC s k=.ok t s'->∀w',PR w0 w' p f M vt s' top->Eff p f M M w w'->K (.agg (jI t).toArray) w')(ht:∀c a,nC s k=.err c a->Thr w0 f c a):
  aJ P0 62 [.pointer (some ⟨p,0,none⟩),i64 k] w K:=by
 refine Xy ?_;unfold W62;refine cK λb w1 hb hz1 hbb hx1=>?_;have h1:=h.ext hx1;have L1:=h.loc hz1 hb hbb;have hsn:=(jN hs).ws hs;have hln:(bM s).toks.length<=100000:=by rw[(jN hs).toks];exact hl
 unfold nC at hK ht;refine dE.cut (λ_ w'=>PR w0 w' p f M vt (bM s) top/\Eff p f M M w1 w'/\(cur s).k=k) ?_ ?_
 ·refine pL h1 hs hN hl λw2 h2 he2=>?_;refine⟨i64 (cur s).k,rfl,?_⟩;dsimp only;rw[dQ,bD];refine⟨λe=>?_,λe=>⟨h2,he2,by omega⟩⟩;refine pL h2 hsn hN hln λw3 h3 he3=>?_;rw[mY];refine⟨i64 (cur s).a,rfl,?_⟩;exact rP h3 (ht _ _ (by rw[aL e]))
 rintro st g w2 ⟨h2,he2,hk⟩;rw[aU hk]at hK;refine Jg h2 hsn hN hln λw3 h3 he3=>?_;rw[mY];have L3:=(L1.eff he2).eff he3;refine vX (l:=jI (cur s)) L3.1 rfl rfl rfl λw4 hc4=>?_;have e:kY (bM s)=kY s:=by unfold kY;rw[mY,kN]
 rw[e]at h3;exact hK _ _ rfl w4 (h3.one hc4 L3.2) ((((Eff.ext hx1).trans he2).trans he3).one hc4 (by omega))
end
end
end Go.Proofs.YtjblfcfdeaagpaaGreatDoor
namespace Go.Syn
section
open Go Go.Eng Go.Lex
variable{w:World}{K:Q0}{cs:List Value}{G:Nat->Prop}{T:TypeId}{i:Nat}{n:Nat}{v:Value}{w':World}{P:Program}{c:UInt8}{S:Nat->Prop}
def sV:Str->Bool
 |[]=>true
 |[c]=>c !=92
 |c::e::r=>if c=92 then sV r else sV (e::r)
theorem LV{r:Str}(hc:c≠92)(h:sV r=true):sV (c::r)=true:=by
 cases r with
 |nil=>simp[sV,hc]
 |cons e r=>simp only[sV];rw[aL hc];exact h
theorem Db:∀(n:Nat) (t:Str),t.length<=n->noD t=true->sV t=true
 |_,[],_,_=>rfl
 |_,[c],_,h=>by simp only[noD,bU]at h;exact h.1
 |0,c::e::r,h,_=>by simp at h
 |n+1,c::e::r,h,hd=>by
  simp only[noD]at hd
  simp only[aB]at h
  simp only[sV]
  split at hd
  ·rename_i hc
   rw[aU hc]
   exact Db n r (by omega) hd
  ·rename_i hc
   rw[aL hc]
   simp only[bU]at hd
   exact Db n (e::r) (by simp only[aB];omega) hd.2
theorem sT{c':UInt8}{r r':Str}{k:Nat}(h:(c'::r').take (k+1)=(c::r).take (k+1)):c'=c/\r'.take k=r.take k:=by
 simp only[oI,gP]at h;exact h
theorem pD{r r':Str}{k j m:Nat}(h:r'.take k=r.take k)(hk:j+m<=k):(r'.drop j).take m=(r.drop j).take m:=by
 have e:∀s:Str,(s.drop j).take m=((s.take k).drop j).take m:=λs=>by
  rw[List.drop_take,List.take_take,Nat.min_eq_left (by omega)]
 rw[e r',e r,h]
theorem Ht{x x':UInt8}{r r':Str}(h:x=x'):qX [36,123] (c::x::r)=qX [36,123] (c::x'::r'):=by
 subst h;simp[qX,List.isPrefixOf]
theorem Yu:∀(N:Nat) (r r':Str),r.length<=N->
  (∀d k,jZ r d=(k,0)->r'.take k=r.take k->k<=r'.length->jZ r' d=(k,0))/\
  (∀d k,mH r d=(k,0)->r'.take k=r.take k->k<=r'.length->mH r' d=(k,0)):=by
 intro N;induction N with
 |zero=>
  intro r r' hr;have:r=[]:=cW (by omega);subst this;exact⟨λd k h=>(by rw[rF]at h;cases h),λd k h=>(by rw[Dr]at h;cases h)⟩
 |succ N ih=>
  intro r r' hr;cases r with
  |nil=>exact ih [] r' (by simp)
  |cons c r=>
   simp only[aB]at hr;have hr:r.length<=N:=by omega
   have sh:∀{k:Nat},1<=k->r'.take k=(c::r).take k->k<=r'.length->∃r2,r'=c::r2/\r2.take (k-1)=r.take (k-1)/\k-1<=r2.length:=λ{k} hk ht hl=>by
    cases r' with
    |nil=>simp at hl;omega
    |cons c' r2=>
     obtain⟨j,rfl⟩:∃j,k=j+1:=⟨k-1,by omega⟩;obtain⟨rfl,h2⟩:=sT ht;exact⟨r2,rfl,h2,by simpa using hl⟩
   refine⟨λd k h ht hl=>?_,λd k h ht hl=>?_⟩
   ·have hk:=((lT _ (c::r) (aZ _)).1 d k h).2.1;obtain⟨r2,rfl,h2,hl2⟩:=sh hk ht hl;rw[rG]at h⊢;simp only[iK]at h⊢;split at h
    ·rename_i e;rw[aU e];exact h
    rename_i e;rw[aL e];split at h
    ·cases h
    rename_i e1;rw[aL e1];split at h
    ·rename_i e2;rw[aU e2];cases r with
     |nil=>cases h
     |cons x rr=>
      simp only at h;split at h
      ·rename_i e3;obtain⟨g1,g2⟩:=oH h;have gk:=((lT _ rr (aZ _)).1 d _ g1).2.1;cases r2 with
       |nil=>simp at hl2;omega
       |cons x' rr'=>
        obtain⟨j,rfl⟩:∃j,k=j+2:=⟨k-2,by omega⟩;rw[show j+2-1=j+1 by omega]at h2 hl2;obtain⟨rfl,h3⟩:=sT h2;simp only[aU e3];have:=(ih rr rr' (by simp at hr;omega)).1 d j (by simpa using g1) h3 (by simpa using hl2);rw[this];unfold oY;simp
      ·cases h
    rename_i e2;rw[aL e2];split at h
    ·rename_i e3;split at h
     ·cases h
     rename_i e24;split at h
     ·rename_i e4;obtain⟨g1,g2⟩:=oH h;have gk:=((lT _ _ (aZ _)).1 d _ g1).2;have gi:=((lT _ (r.drop 1) (aZ _)).2 (d+1) _ (jO rfl e4)).1;cases r with
      |nil=>simp[qX]at e3
      |cons x rr=>
       cases r2 with
       |nil=>simp at hl2;omega
       |cons x' rr'=>
        obtain⟨j,rfl⟩:∃j,k=j+2:=⟨k-2,by omega⟩;rw[show j+2-1=j+1 by omega]at h2 hl2;obtain⟨rfl,h3⟩:=sT h2;simp only[eL,eZ]at g1 gk gi e4⊢;have hl3:j<=rr'.length:=by simpa using hl2
        have hp:qX [36,123] (c::x'::rr')=true:=by rw[Ht (r':=rr) rfl];exact e3
        have hrr:rr.length<=N:=by simp at hr;omega
        have hi:=(ih rr rr' hrr).2 (d+1) (mH rr (d+1)).1 (jO rfl e4) (by have:=pD (j:=0) (m:=(mH rr (d+1)).1) h3 (by omega);simpa using this) (by omega);rw[aU hp,aL e24,hi];simp only;have ht:=(ih (rr.drop (mH rr (d+1)).1) (rr'.drop (mH rr (d+1)).1) (mX _ hrr)).1 d _ g1 (pD h3 (by omega)) (by rw[aX];omega);rw[ht];unfold oY;simp;omega
     ·rename_i e4;injection h with _ h2
      exact absurd h2 e4
    ·rename_i e3;obtain⟨g1,g2⟩:=oH h;have gk:=((lT _ _ (aZ _)).1 d _ g1).2;have hp:¬qX [36,123] (c::r2)=true:=by
      cases r with
      |nil=>rw[rF]at g1;exact absurd (congrArg Prod.snd g1) (by simp)
      |cons x rr=>
       cases r2 with
       |nil=>simp at hl2;omega
       |cons x' rr'=>
        obtain⟨j,hj⟩:∃j,k-1=j+1:=⟨k-2,by omega⟩;rw[hj]at h2;obtain⟨rfl,_⟩:=sT h2;rw[Ht (r':=rr) rfl];exact e3
     rw[aL hp];have:=(ih r r2 hr).1 d (k-1) g1 h2 hl2;rw[this];unfold oY;simp;omega
   ·have hk:=((lT _ (c::r) (aZ _)).2 d k h).1.1;obtain⟨r2,rfl,h2,hl2⟩:=sh hk ht hl;rw[BA]at h⊢;simp only[iK]at h⊢;split at h
    ·rename_i e;rw[aU e];exact h
    rename_i e;rw[aL e];split at h
    ·cases h
    rename_i e1;rw[aL e1];split at h
    ·rename_i e2;rw[aU e2];split at h
     ·cases h
     rename_i e24;rw[aL e24];split at h
     ·rename_i e4;obtain⟨g1,g2⟩:=oH h;have gk:=((lT _ _ (aZ _)).2 d _ g1).1;have hi:=(ih r r2 hr).2 (d+1) (mH r (d+1)).1 (jO rfl e4) (by have:=pD (j:=0) (m:=(mH r (d+1)).1) h2 (by omega);simpa using this) (by omega);rw[hi];simp only[qH];have ht:=(ih (r.drop (mH r (d+1)).1) (r2.drop (mH r (d+1)).1) (mX _ hr)).2 d _ g1 (pD h2 (by omega)) (by rw[aX];omega);rw[ht];unfold oY;simp;omega
     ·rename_i e4;injection h with _ h2
      exact absurd h2 e4
    rename_i e2;rw[aL e2];split at h
    ·rename_i e3;rw[aU e3];split at h
     ·rename_i e4;obtain⟨g1,g2⟩:=oH h;have gk:=((lT _ _ (aZ _)).2 d _ g1).1;have hi:=(ih r r2 hr).1 d (jZ r d).1 (jO rfl e4) (by have:=pD (j:=0) (m:=(jZ r d).1) h2 (by omega);simpa using this) (by omega);rw[hi];simp only[qH];have ht:=(ih (r.drop (jZ r d).1) (r2.drop (jZ r d).1) (mX _ hr)).2 d _ g1 (pD h2 (by omega)) (by rw[aX];omega);rw[ht];unfold oY;simp;omega
     ·rename_i e4;injection h with _ h2
      exact absurd h2 e4
    ·rename_i e3;rw[aL e3];obtain⟨g1,g2⟩:=oH h;have:=(ih r r2 hr).2 d (k-1) g1 h2 hl2;rw[this];unfold oY;simp;omega
def Scd(t:Str):Prop:=∃d,jZ (t++[34]) d=(t.length+1,0)
theorem MQ{r:Str}{d k:Nat}(h:jZ r d=(k,0))(hl:∀b,r[k-1]?=some b->b=34):Scd (r.take (k-1)):=by
 obtain⟨_,h1,h2⟩:=(lT _ r (aZ _)).1 d k h;obtain⟨j,rfl⟩:∃j,k=j+1:=⟨k-1,by omega⟩;rw[Nat.add_sub_cancel]at hl⊢;have e1:(r.take j).length=j:=by rw[cO];omega
 have hlt:j<r.length:=by omega
 have e2:r.take j++[34]=r.take (j+1):=by
  have:=hl _ (aG hlt);rw[jT,aG hlt,this];rfl
 refine⟨d,?_⟩;rw[e2,e1];exact(Yu _ r (r.take (j+1)) (aZ _)).1 d (j+1) h (by rw[List.take_take,Nat.min_self]) (by rw[cO];omega)
theorem uL:∀(N:Nat) (r:Str) (d k:Nat),r.length<=N->jZ r d=(k,0)->r[k-1]?=some 34
 |0,r,d,k,hr,h=>by
  have:r=[]:=cW (by omega)
  subst this
  rw[rF]at h;cases h
 |N+1,[],d,k,_,h=>by rw[rF]at h;cases h
 |N+1,c::r,d,k,hr,h=>by
  simp only[aB]at hr
  have hr:r.length<=N:=by omega
  rw[rG]at h
  simp only[iK]at h
  split at h
  ·rename_i e
   injection h with h1 _
   subst h1 e
   rfl
  split at h
  ·cases h
  split at h
  ·cases r with
   |nil=>cases h
   |cons x rr=>
    simp only at h
    split at h
    ·obtain⟨g1,g2⟩:=oH h
     have gk:=((lT _ rr (aZ _)).1 d _ g1).2.1
     have:=uL N rr d _ (by simp at hr;omega) g1
     rw[show k-1=(k-2-1)+2 by omega]
     exact this
    ·cases h
  split at h
  ·rename_i e3
   split at h
   ·cases h
   split at h
   ·obtain⟨g1,g2⟩:=oH h
    have gk:=((lT _ _ (aZ _)).1 d _ g1).2.1
    have:=uL N _ d _ (mX _ (mX 1 hr)) g1
    rw[jG,jG]at this
    rw[show k-1=1+((mH (r.drop 1) (d+1)).1+(k-((mH (r.drop 1) (d+1)).1+2)-1))+1 by omega]
    exact this
   ·rename_i e4
    injection h with _ h2
    exact absurd h2 e4
  ·obtain⟨g1,g2⟩:=oH h
   have gk:=((lT _ r (aZ _)).1 d _ g1).2.1
   have:=uL N r d _ hr g1
   rw[show k-1=(k-1-1)+1 by omega]
   exact this
theorem Gg:∀(N:Nat) (t:Str),t.length<=N->Scd t->(insP t=none->sV t=true)/\∀i e,insP t=some (i,e)->sV (t.take i)=true/\i+3<=e/\e<=t.length/\Scd (t.drop e)
 |_,[],_,_=>⟨λ_=>rfl,λi e h=>by simp[insP]at h⟩
 |0,_::_,h,_=>by simp at h
 |N+1,[c],_,⟨d,h⟩=>by
  refine⟨λ_=>?_,λi e h=>by simp[insP]at h⟩
  simp only[sV,bne_iff_ne,cV]
  intro e
  subst e
  simp only[iC,gB]at h
  rw[rG]at h
  simp[Lex.escOk,oY,rF]at h
 |N+1,c::x::r,hN,⟨d,h⟩=>by
  simp only[aB]at hN
  simp only[iC]at h
  rw[rG]at h
  simp only[iK]at h
  split at h
  ·injection h with h1 _
   simp at h1
  split at h
  ·cases h
  simp only[insP,sV]
  split at h
  ·rename_i e92
   rw[aU e92,aU e92]
   split at h
   ·obtain⟨g1,g2⟩:=oH h
    have sr:Scd r:=⟨d,by rw[g1];simp⟩
    obtain⟨i1,i2⟩:=Gg N r (by omega) sr
    refine⟨λhn=>i1 (by cases hr:insP r with|none=>rfl|some y=>rw[hr]at hn;cases hn),λi e hi=>?_⟩
    cases hr:insP r with
    |none=>rw[hr]at hi;cases hi
    |some y=>
     rw[hr]at hi
     simp only[aH,bA,gS]at hi
     obtain⟨rfl,rfl⟩:=hi
     obtain⟨j1,j2,j3,j4⟩:=i2 _ _ hr
     refine⟨?_,by omega,by simp only[aB];omega,by rw[show y.2+2=y.2+1+1 by omega,eL,eL];exact j4⟩
     rw[show y.1+2=y.1+1+1 by omega,oI,oI]
     simp only[sV]
     rw[aU e92]
     exact j1
   ·cases h
  rename_i e92
  rw[aL e92,aL e92]
  split at h
  ·rename_i e3
   have hc:c=36/\x=123:=by
    simp[qX,List.isPrefixOf]at e3;exact⟨e3.1.symm,e3.2.symm⟩
   rw[aU hc];refine⟨λhn=>(by cases hn),λi e hi=>?_⟩;simp only[bA,gS]at hi;obtain⟨rfl,rfl⟩:=hi;split at h
   ·cases h
   split at h
   ·rename_i e4;simp only[eL,eZ]at h e4;obtain⟨k1,e5⟩:∃k1,mH (r++[34]) (d+1)=(k1,0):=⟨_,jO rfl e4⟩;simp only[e5]at h;obtain⟨g1,g2⟩:=oH h;have gk:=((lT _ _ (aZ _)).1 d _ g1).2;have gi:=((lT _ (r++[34]) (aZ _)).2 (d+1) _ e5).1;simp only[aB]at g1 gk g2;have hle:k1<=r.length:=by omega
    have hs:=(Yu _ (r++[34]) r (aZ _)).2 (d+1) _ e5 (by rw[BI hle]) hle;have hb:=((lT _ r (aZ _)).2 (d+1) _ hs).2 1 (by omega);rw[aU rfl]at hb;have eb:DN (x::r)=1+k1:=by
     show qA (x::r) 0=_;rw[pH,aU hc.2,show(0:Int)+1=1 from rfl,hb]
    rw[eb];refine⟨rfl,by omega,by simp only[aB];omega,?_⟩;rw[show 1+(1+k1)=k1+1+1 by omega,eL,eL];refine⟨d,?_⟩;rw[<-BJ hle,g1,aX];simp only[gS,fM];omega
   ·rename_i e4;injection h with _ h2
    exact absurd h2 e4
  ·rename_i e3;have hc:¬(c=36/\x=123):=λe=>e3 (by simp[qX,List.isPrefixOf,e.1,e.2]);rw[aL hc];obtain⟨g1,g2⟩:=oH h;have sr:Scd (x::r):=⟨d,by simp only[iC];rw[g1];simp⟩;obtain⟨i1,i2⟩:=Gg N (x::r) (by simp only[aB];omega) sr;refine⟨λhn=>i1 (by cases hr:insP (x::r)with|none=>rfl|some y=>rw[hr]at hn;cases hn),λi e hi=>?_⟩;cases hr:insP (x::r)with
   |none=>rw[hr]at hi;cases hi
   |some y=>
    rw[hr]at hi;simp only[aH,bA,gS]at hi;obtain⟨rfl,rfl⟩:=hi;obtain⟨j1,j2,j3,j4⟩:=i2 _ _ hr;refine⟨?_,by omega,by simp only[aB]at j3⊢;omega,by rw[eL];exact j4⟩;rw[oI];exact LV e92 j1
def Em(t:Str):Prop:=noD t=true\/Scd t
theorem IL{t:Str}(h:Em t):(insP t=none->sV t=true)/\∀i e,insP t=some (i,e)->sV (t.take i)=true/\i+3<=e/\e<=t.length/\Em (t.drop e):=by
 rcases h with h|h
 ·exact⟨λ_=>Db _ t (aZ _) h,λi e hi=>by rw[Ct _ t (aZ _) h]at hi;cases hi⟩
 ·obtain⟨h1,h2⟩:=Gg _ t (aZ _) h;exact⟨h1,λi e hi=>by obtain⟨a,b,c,d⟩:=h2 i e hi;exact⟨a,b,c,.inr d⟩⟩
def TS(l:List Tok):Prop:=∀t∈l,t.k=3->Em t.t/\t.t.length<=100000
theorem uX:∀s:Str,(lC s).length<=2*s.length
 |[]=>aZ _
 |c::r=>by
  have:=uX r
  simp only[lC]
  split
  ·simp only[aB];omega
  split
  ·simp only[aB];omega
  split
  ·simp only[aB];omega
  ·simp only[aB];omega
theorem Fj:∀(n:Nat) (name s:Str),(nD n name s).1.length<=2*s.length
 |0,_,_=>by simp[nD]
 |n+1,name,s=>by
  have hr:=sK (λb=>b !=10) s
  simp only[nD]
  split
  ·simp
  split
  ·simp
  rename_i hlen
  split
  ·have h1:=Fj n name (s.drop (gQ (λb=>b !=10) s+1))
   have h2:=uX (s.take (gQ (λb=>b !=10) s))
   rw[aX]at h1
   rw[cO]at h2
   simp only[aP,aB,aK]
   omega
  ·simp
theorem HU(s:Str):(kI s).1.length<=2*s.length:=by
 unfold kI;simp only;generalize (if iM ((s.drop 2).headD 0)=true then gQ jH (s.drop 2)else 0)=n;split
 ·simp
 split
 ·have h1:=Fj (s.length+1) ((s.drop 2).take n) (s.drop (2+n+1));rw[aX]at h1;split
  ·show(nD (s.length+1) ((s.drop 2).take n) (s.drop (2+n+1))).1.length<=_;omega
  ·simp
 ·simp
theorem Wt{s:Str}{t:Tok}{k:Nat}(h:oN s=(t,k,0))(hk:t.k=3):Em t.t/\t.t.length<=2*s.length:=by
 unfold oN at h;simp only at h;split at h
 ·injection h with h1 _;subst h1;cases hk
 split at h
 ·injection h with h1 _;subst h1;cases hk
 split at h
 ·injection h with h1 _;subst h1;cases hk
 split at h
 ·split at h
  ·rename_i hq he;injection h with h1 _
   subst h1;have hx:qJ (s.length+1) (s.drop 1) 0=jZ (s.drop 1) 0:=sS (by rw[aX];omega);rw[hx]at he⊢;refine⟨.inr (MQ (d:=0) (jO rfl he) λb hb=>?_),by simp only[cO,aX];omega⟩;rw[uL _ (s.drop 1) 0 _ (aZ _) (jO rfl he)]at hb;injection hb with hb
   exact hb.symm
  ·rename_i he;injection h with h1 h2
   injection h2 with _ h2
   exact absurd h2 he
 split at h
 ·injection h with h1 h2
  injection h2 with h2 h3
  obtain⟨i1,i2,i3⟩:=Dv (s:=s) (t:=(kI s).1) (k:=(kI s).2.1) (jO rfl (jO rfl h3));subst h1;exact⟨.inl i3,HU s⟩
 ·injection h with h1 _;subst h1;cases hk
theorem Hd:∀(n:Nat) (s:Str) (a cnt:Nat) (l:List Tok),s.length<=16384->nQ n s a cnt=.ok l->TS l
 |0,_,_,_,_,_,h=>by simp[nQ]at h
 |n+1,s,a,cnt,l,hl,h=>by
  simp only[nQ]at h
  split at h
  ·cases h
  split at h
  ·injection h with h
   subst h
   intro t ht hk
   simp only[bX]at ht
   subst ht
   cases hk
  split at h
  ·cases h
  rename_i ho
  split at h
  ·cases h
  split at h
  ·rename_i l' hl'
   injection h with h
   subst h
   intro t ht hk
   rcases bC.1 ht with rfl|ht
   ·have h1:=Wt (t:=(oN (s.drop (jP (s.length+1) s).1)).1) (k:=(oN (s.drop (jP (s.length+1) s).1)).2.1) (jO rfl (jO rfl (Classical.not_not.1 ho))) hk
    rw[aX]at h1
    exact⟨h1.1,by simp only;omega⟩
   ·exact Hd n _ _ _ _ (by rw[aX,aX];omega) hl' t ht hk
  ·rename_i hne
   exact absurd h (hne l)
theorem Cr{s:Str}{l:List Tok}(h:nP s=.ok l):TS l:=by
 unfold nP at h;split at h
 ·cases h
 rename_i hl;split at h
 ·cases h
 exact Hd _ _ _ _ _ (by omega) h
theorem ED:∀(n:Nat) (s:Str) (a cnt:Nat) (l:List Tok),cnt<=4096->nQ n s a cnt=.ok l->cnt+l.length<=4097
 |0,_,_,_,_,_,h=>by simp[nQ]at h
 |n+1,s,a,cnt,l,hc,h=>by
  simp only[nQ]at h
  split at h
  ·cases h
  split at h
  ·injection h with h
   subst h
   simp only[aB,aK];omega
  split at h
  ·cases h
  split at h
  ·cases h
  rename_i hne
  split at h
  ·rename_i l' hl'
   injection h with h
   subst h
   have:=ED n _ _ _ _ (by omega) hl'
   simp only[aB];omega
  ·rename_i hne
   exact absurd h (hne l)
theorem uN{s:Str}{l:List Tok}(h:nP s=.ok l):l.length<=4097/\s.length<=16384:=by
 unfold nP at h;split at h
 ·cases h
 rename_i hl;split at h
 ·cases h
 have:=ED _ _ _ _ _ (dU _) h;omega
end
end Go.Syn
namespace Go.Proofs.YtjblfcfdeaagpaaGreatDoor
section
open Go Go.Eng Go.Num
variable{w:World}{K:Q0}{cs:List Value}{G:Nat->Prop}{T:TypeId}{i:Nat}{n:Nat}{v:Value}{w':World}{P:Program}{c:UInt8}{S:Nat->Prop}
theorem yS(n:Nat){w1:World}{B:List Value->Fr->World->(List Value->World->Prop)->Prop}(R:Nat->World->Prop)(h0:R 0 w1)
  (step:∀i w g L,i<n->R i w->(∀w',R (i+1) w'->L [i64 ((i+1:Nat):Int)] w')->B [i64 (i:Nat)] g w L)
  (fin:∀w g L,R n w->B [i64 (n:Nat)] g w L):dL [i64 0] w1 B:=by
 refine⟨λs w=>∃i,i<=n/\s=[i64 (i:Nat)]/\R i w,λs _=>match s with|[.int _ i]=>n-i.toNat|_=>0,⟨0,dU _,rfl,h0⟩,?_⟩;rintro s g w ⟨i,hi,rfl,hR⟩;rcases oM i n with hlt|hge
 ·exact step i w g _ hlt hR λw' h'=>⟨⟨i+1,hlt,rfl,h'⟩,by simp only[aV];omega⟩
 ·obtain rfl:i=n:=by omega
  exact fin w g _ hR
theorem up1(h:(i:Int)<9223372036854775807):IntKind.i64.wrap ((i:Int)+1)=((i+1:Nat):Int):=by rw[gI (by omega) (by omega)];simp
section
variable [HX]
end
section
variable [HX]
theorem LG(c:UInt8):(decide (((c.toNat:Nat):Int)<48)||decide ((57:Int)<((c.toNat:Nat):Int)))=!Num.isDig c:=by
 unfold Num.isDig;rcases oM c.toNat 48 with h|h
 ·rw[bW (by omega),bH (show¬48<=c.toNat by omega)];rfl
 ·rw[bH (show¬((c.toNat:Nat):Int)<48 by omega),bW (show 48<=c.toNat by omega)];rcases oM 57 c.toNat with h2|h2
  ·rw[bW (by omega),bH (show¬c.toNat<=57 by omega)];rfl
  ·rw[bH (by omega),bW (show c.toNat<=57 by omega)];rfl
theorem Yr(c:UInt8)(m:Int)(d:UInt8)(hm:m=(d.toNat:Nat)):decide (((c.toNat:Nat):Int)=m)=(c==d):=by
 rw[nX,fN,iK,hm];constructor
 ·intro h;exact mL.1 (by omega)
 ·intro h;rw[h]
end
end
section
open Go Go.Eng Go.Num
abbrev ptr(b:Nat):Value:=.pointer (some ⟨b,0,none⟩)
end
section
open Go Go.Eng Go.Num
variable{w:World}{K:Q0}{cs:List Value}{G:Nat->Prop}{T:TypeId}{i:Nat}{n:Nat}{v:Value}{w':World}{P:Program}{c:UInt8}{S:Nat->Prop}
section
variable [HX]
theorem ID{α:Type}{p:α->Bool}{xs:List α}{x:α}(hi:xs[i]?=some x):(xs.take (i+1)).any p=((xs.take i).any p||p x):=by
 rw[jT,hi];simp
end
end
end Go.Proofs.YtjblfcfdeaagpaaGreatDoor
namespace Go.Proofs
section
open Go.Shelf
variable{w:World}{K:Q0}{cs:List Value}{G:Nat->Prop}{T:TypeId}{i:Nat}{n:Nat}{v:Value}{w':World}{P:Program}{c:UInt8}{S:Nat->Prop}
def Tryz.lays169_ren:Go.Shelf.Ren:=⟨λ|169=>44|n=>n,λ|70=>112|9=>9|0=>0|72=>114|37=>80|127=>168|3=>3|5=>5|n=>n,λ|n=>n⟩
theorem Tryz.lays169:Go.Proofs.Lays.n169 P0 Tryz.lays169_ren:={
 mixed:=by kernel_rfl
 f169:=Tryz.func44.trans (congrArg some (by kernel_rfl))
 t0:=Tryz.underlying0
 a0:=Tryz.isAgg0
 z0:=Tryz.sizeOf0
 v0:=Tryz.zeroValue0
 t3:=Tryz.underlying3
 a3:=Tryz.isAgg3
 z3:=Tryz.sizeOf3
 v3:=Tryz.zeroValue3
 t9:=Tryz.underlying9
 a9:=Tryz.isAgg9
 z9:=Tryz.sizeOf9
 v9:=Tryz.zeroValue9
 t37:=Tryz.underlying80
 a37:=Tryz.isAgg80
 z37:=Tryz.sizeOf80
 v37:=Tryz.zeroValue80
 t70:=Tryz.underlying112
 a70:=Tryz.isAgg112
 z70:=Tryz.sizeOf112
 v70:=Tryz.zeroValue112
 t72:=Tryz.underlying114
 a72:=Tryz.isAgg114
 z72:=Tryz.sizeOf114
 v72:=Tryz.zeroValue114
 t127:=Tryz.underlying168
 a127:=Tryz.isAgg168
 z127:=Tryz.sizeOf168
 v127:=Tryz.zeroValue168}
theorem Tryz.Builder_Extra_169:Builder.Extra P0 Tryz.lays169_ren:={
 sizeBuilder:=by kernel_rfl
 liesBuilder:=by kernel_rfl
 t5:=Tryz.underlying5
 a5:=Tryz.isAgg5
 z5:=Tryz.sizeOf5
 v5:=Tryz.zeroValue5
 infoByte:=by kernel_rfl
 cellsByte:=by kernel_rfl
 sizeByte:=by kernel_rfl
 neB5:=by decide}
def Tryz.lays161_ren:Go.Shelf.Ren:=⟨λ|161=>152|231=>199|227=>191|233=>200|235=>201|228=>192|197=>217|151=>218|260=>225|152=>189|137=>104|119=>215|224=>195|225=>194|217=>146|266=>193|n=>n,λ|9=>9|4=>4|3=>3|5=>5|117=>244|116=>243|0=>0|124=>248|105=>262|21=>21|119=>270|46=>75|139=>273|138=>272|n=>n,λ|3=>1|4=>2|n=>n⟩
theorem Tryz.lays161:Go.Proofs.Lays.n161 P0 Tryz.lays161_ren:={
 mixed:=by kernel_rfl
 f119:=Tryz.func215.trans (congrArg some (by kernel_rfl))
 f137:=Tryz.func104.trans (congrArg some (by kernel_rfl))
 f151:=Tryz.func218.trans (congrArg some (by kernel_rfl))
 f152:=Tryz.func189.trans (congrArg some (by kernel_rfl))
 f161:=Tryz.func152.trans (congrArg some (by kernel_rfl))
 f197:=Tryz.func217.trans (congrArg some (by kernel_rfl))
 f217:=Tryz.func146.trans (congrArg some (by kernel_rfl))
 f224:=Tryz.func195.trans (congrArg some (by kernel_rfl))
 f225:=Tryz.func194.trans (congrArg some (by kernel_rfl))
 f227:=Tryz.func191.trans (congrArg some (by kernel_rfl))
 f228:=Tryz.func192.trans (congrArg some (by kernel_rfl))
 f231:=Tryz.func199.trans (congrArg some (by kernel_rfl))
 f233:=Tryz.func200.trans (congrArg some (by kernel_rfl))
 f235:=Tryz.func201.trans (congrArg some (by kernel_rfl))
 f260:=Tryz.func225.trans (congrArg some (by kernel_rfl))
 f266:=Tryz.func193.trans (congrArg some (by kernel_rfl))
 t0:=Tryz.underlying0
 a0:=Tryz.isAgg0
 z0:=Tryz.sizeOf0
 v0:=Tryz.zeroValue0
 t3:=Tryz.underlying3
 a3:=Tryz.isAgg3
 z3:=Tryz.sizeOf3
 v3:=Tryz.zeroValue3
 t4:=Tryz.underlying4
 a4:=Tryz.isAgg4
 z4:=Tryz.sizeOf4
 v4:=Tryz.zeroValue4
 t5:=Tryz.underlying5
 a5:=Tryz.isAgg5
 z5:=Tryz.sizeOf5
 v5:=Tryz.zeroValue5
 t9:=Tryz.underlying9
 a9:=Tryz.isAgg9
 z9:=Tryz.sizeOf9
 v9:=Tryz.zeroValue9
 t21:=Tryz.underlying21
 a21:=Tryz.isAgg21
 z21:=Tryz.sizeOf21
 v21:=Tryz.zeroValue21
 t46:=Tryz.underlying75
 a46:=Tryz.isAgg75
 z46:=Tryz.sizeOf75
 v46:=Tryz.zeroValue75
 t105:=Tryz.underlying262
 a105:=Tryz.isAgg262
 z105:=Tryz.sizeOf262
 v105:=Tryz.zeroValue262
 t116:=Tryz.underlying243
 a116:=Tryz.isAgg243
 z116:=Tryz.sizeOf243
 t117:=Tryz.underlying244
 a117:=Tryz.isAgg244
 z117:=Tryz.sizeOf244
 v117:=Tryz.zeroValue244
 t119:=Tryz.underlying270
 a119:=Tryz.isAgg270
 z119:=Tryz.sizeOf270
 t124:=Tryz.underlying248
 a124:=Tryz.isAgg248
 z124:=Tryz.sizeOf248
 v124:=Tryz.zeroValue248
 t138:=Tryz.underlying272
 a138:=Tryz.isAgg272
 z138:=Tryz.sizeOf272
 v138:=Tryz.zeroValue272
 t139:=Tryz.underlying273
 a139:=Tryz.isAgg273
 z139:=Tryz.sizeOf273
 v139:=Tryz.zeroValue273
 g3:=by kernel_rfl
 g4:=by kernel_rfl}
def Tryz.lays119_ren:Go.Shelf.Ren:=⟨λ|119=>215|n=>n,λ|21=>21|4=>4|n=>n,λ|n=>n⟩
theorem Tryz.lays119:Go.Proofs.Lays.n119 P0 Tryz.lays119_ren:={
 mixed:=by kernel_rfl
 f119:=Tryz.func215.trans (congrArg some (by kernel_rfl))
 t4:=Tryz.underlying4
 a4:=Tryz.isAgg4
 z4:=Tryz.sizeOf4
 v4:=Tryz.zeroValue4
 t21:=Tryz.underlying21
 a21:=Tryz.isAgg21
 z21:=Tryz.sizeOf21
 v21:=Tryz.zeroValue21}
theorem Tryz.utf8_ValidRune(r:Int)(w:World):
 Calls P0 215 #[.int .i32 r] w λe w'=>e=.returned (.bool (Lib.validRune r))/\w'=w:=Any.utf8_ValidRune Tryz.lays119 r w
def Tryz.lays137_ren:Go.Shelf.Ren:=⟨λ|137=>104|217=>146|266=>193|n=>n,λ|9=>9|5=>5|3=>3|n=>n,λ|n=>n⟩
theorem Tryz.lays137:Go.Proofs.Lays.n137 P0 Tryz.lays137_ren:={
 mixed:=by kernel_rfl
 f137:=Tryz.func104.trans (congrArg some (by kernel_rfl))
 f217:=Tryz.func146.trans (congrArg some (by kernel_rfl))
 f266:=Tryz.func193.trans (congrArg some (by kernel_rfl))
 t3:=Tryz.underlying3
 a3:=Tryz.isAgg3
 z3:=Tryz.sizeOf3
 v3:=Tryz.zeroValue3
 t5:=Tryz.underlying5
 a5:=Tryz.isAgg5
 z5:=Tryz.sizeOf5
 v5:=Tryz.zeroValue5
 t9:=Tryz.underlying9
 a9:=Tryz.isAgg9
 z9:=Tryz.sizeOf9
 v9:=Tryz.zeroValue9}
open Go.RowKit in
theorem Tryz.strings_IndexByte(s:ByteArray)(c:Int)(w:World):
 Calls P0 104 #[.string s,.int .u8 c] w λe w'=>e=.returned (.int .i64 (Lib.indexByte s.data.toList c.toNat.toUInt8))/\w'=w:=Any.strings_IndexByte Tryz.lays137 s c w
open Go.RowKit in
theorem Tryz.Builder_String_any_k(B b:Nat)(l:List UInt8)(w:World)(h:Lib.IsBuilderF 114 5 B b (Lib.byteCells l) w)(hBw:B<=w.heap.size):
 Calls P0 44 #[.pointer (some ⟨b,0,none⟩)] w λe w'=>e=.returned (.string ⟨l.toArray⟩)/\(Lib.IsBuilderF 114 5 B b (Lib.byteCells l) w'/\Below B w w'/\Lib.OthersKept 5 (some b) w w'):=Any.Builder_String_any_k Tryz.lays169 Tryz.Builder_Extra_169 B b l w h hBw
def Tryz.lays143_ren:Go.Shelf.Ren:=⟨λ|143=>107|219=>147|217=>146|225=>194|224=>195|267=>196|266=>193|314=>216|n=>n,λ|9=>9|3=>3|4=>4|5=>5|46=>75|146=>225|51=>224|n=>n,λ|1=>0|n=>n⟩
theorem Tryz.lays143:Go.Proofs.Lays.n143 P0 Tryz.lays143_ren:={
 mixed:=by kernel_rfl
 f143:=Tryz.func107.trans (congrArg some (by kernel_rfl))
 f217:=Tryz.func146.trans (congrArg some (by kernel_rfl))
 f219:=Tryz.func147.trans (congrArg some (by kernel_rfl))
 f224:=Tryz.func195.trans (congrArg some (by kernel_rfl))
 f225:=Tryz.func194.trans (congrArg some (by kernel_rfl))
 f266:=Tryz.func193.trans (congrArg some (by kernel_rfl))
 f267:=Tryz.func196.trans (congrArg some (by kernel_rfl))
 f314:=Tryz.func216.trans (congrArg some (by kernel_rfl))
 t3:=Tryz.underlying3
 a3:=Tryz.isAgg3
 z3:=Tryz.sizeOf3
 v3:=Tryz.zeroValue3
 t4:=Tryz.underlying4
 a4:=Tryz.isAgg4
 z4:=Tryz.sizeOf4
 v4:=Tryz.zeroValue4
 t5:=Tryz.underlying5
 a5:=Tryz.isAgg5
 z5:=Tryz.sizeOf5
 v5:=Tryz.zeroValue5
 t9:=Tryz.underlying9
 a9:=Tryz.isAgg9
 z9:=Tryz.sizeOf9
 v9:=Tryz.zeroValue9
 t46:=Tryz.underlying75
 a46:=Tryz.isAgg75
 z46:=Tryz.sizeOf75
 v46:=Tryz.zeroValue75
 t51:=Tryz.underlying224
 a51:=Tryz.isAgg224
 z51:=Tryz.sizeOf224
 v51:=Tryz.zeroValue224
 t146:=Tryz.underlying225
 a146:=Tryz.isAgg225
 z146:=Tryz.sizeOf225
 v146:=Tryz.zeroValue225
 g1:=by kernel_rfl}
open Go.RowKit Go.Lib in
theorem Tryz.strings_Index(s sub:ByteArray)(m:Int)(w:World)(hs:s.size<4294967281)(hm:w.cell? ⟨0,0,none⟩=some (.int .i64 m)):
 Calls P0 107 #[.string s,.string sub] w λe w'=>e=.returned (.int .i64 (Lib.index s.data.toList sub.data.toList))/\w'=w:=Any.strings_Index Tryz.lays143 s sub m w hs hm
def Tryz.lays145_ren:Go.Shelf.Ren:=⟨λ|145=>151|220=>198|219=>147|217=>146|225=>194|224=>195|267=>196|266=>193|314=>216|n=>n,λ|9=>9|4=>4|59=>214|3=>3|5=>5|46=>75|146=>225|51=>224|n=>n,λ|1=>0|n=>n⟩
theorem Tryz.lays145:Go.Proofs.Lays.n145 P0 Tryz.lays145_ren:={
 mixed:=by kernel_rfl
 f145:=Tryz.func151.trans (congrArg some (by kernel_rfl))
 f217:=Tryz.func146.trans (congrArg some (by kernel_rfl))
 f219:=Tryz.func147.trans (congrArg some (by kernel_rfl))
 f220:=Tryz.func198.trans (congrArg some (by kernel_rfl))
 f224:=Tryz.func195.trans (congrArg some (by kernel_rfl))
 f225:=Tryz.func194.trans (congrArg some (by kernel_rfl))
 f266:=Tryz.func193.trans (congrArg some (by kernel_rfl))
 f267:=Tryz.func196.trans (congrArg some (by kernel_rfl))
 f314:=Tryz.func216.trans (congrArg some (by kernel_rfl))
 t3:=Tryz.underlying3
 a3:=Tryz.isAgg3
 z3:=Tryz.sizeOf3
 v3:=Tryz.zeroValue3
 t4:=Tryz.underlying4
 a4:=Tryz.isAgg4
 z4:=Tryz.sizeOf4
 v4:=Tryz.zeroValue4
 t5:=Tryz.underlying5
 a5:=Tryz.isAgg5
 z5:=Tryz.sizeOf5
 v5:=Tryz.zeroValue5
 t9:=Tryz.underlying9
 a9:=Tryz.isAgg9
 z9:=Tryz.sizeOf9
 v9:=Tryz.zeroValue9
 t46:=Tryz.underlying75
 a46:=Tryz.isAgg75
 z46:=Tryz.sizeOf75
 v46:=Tryz.zeroValue75
 t51:=Tryz.underlying224
 a51:=Tryz.isAgg224
 z51:=Tryz.sizeOf224
 v51:=Tryz.zeroValue224
 t59:=Tryz.underlying214
 a59:=Tryz.isAgg214
 z59:=Tryz.sizeOf214
 v59:=Tryz.zeroValue214
 t146:=Tryz.underlying225
 a146:=Tryz.isAgg225
 z146:=Tryz.sizeOf225
 v146:=Tryz.zeroValue225
 g1:=by kernel_rfl}
open Go.RowKit Go.Lib in
theorem Tryz.strings_Cut(s sep:ByteArray)(m:Int)(w:World)(hs:s.size<4294967281)(hm:w.cell? ⟨0,0,none⟩=some (.int .i64 m)):
 Calls P0 151 #[.string s,.string sep] w λe w'=>e=.returned (.tuple #[.string ⟨(Lib.cut s.data.toList sep.data.toList).1.toArray⟩,.string ⟨(Lib.cut s.data.toList sep.data.toList).2.1.toArray⟩,.bool (Lib.cut s.data.toList sep.data.toList).2.2])/\∃n,w'=w.drewN n:=Any.strings_Cut Tryz.lays145 s sep m w hs hm
def Tryz.lays206_ren:Go.Shelf.Ren:=⟨λ|206=>103|n=>n,λ|9=>9|4=>4|3=>3|n=>n,λ|n=>n⟩
theorem Tryz.lays206:Go.Proofs.Lays.n206 P0 Tryz.lays206_ren:={
 mixed:=by kernel_rfl
 f206:=Tryz.func103.trans (congrArg some (by kernel_rfl))
 t3:=Tryz.underlying3
 a3:=Tryz.isAgg3
 z3:=Tryz.sizeOf3
 v3:=Tryz.zeroValue3
 t4:=Tryz.underlying4
 a4:=Tryz.isAgg4
 z4:=Tryz.sizeOf4
 v4:=Tryz.zeroValue4
 t9:=Tryz.underlying9
 a9:=Tryz.isAgg9
 z9:=Tryz.sizeOf9
 v9:=Tryz.zeroValue9}
open Go.RowKit Go.Lib in
theorem Tryz.stringslite_HasPrefix(s p:ByteArray)(w:World):
 Calls P0 103 #[.string s,.string p] w λe w'=>e=.returned (.bool (Lib.hasPrefix s.data.toList p.data.toList))/\w'=w:=Any.stringslite_HasPrefix Tryz.lays206 s p w
def Tryz.lays99_ren:Go.Shelf.Ren:=⟨λ|99=>59|206=>103|n=>n,λ|9=>9|4=>4|3=>3|n=>n,λ|n=>n⟩
theorem Tryz.lays99:Go.Proofs.Lays.n99 P0 Tryz.lays99_ren:={
 mixed:=by kernel_rfl
 f99:=Tryz.func59.trans (congrArg some (by kernel_rfl))
 f206:=Tryz.func103.trans (congrArg some (by kernel_rfl))
 t3:=Tryz.underlying3
 a3:=Tryz.isAgg3
 z3:=Tryz.sizeOf3
 v3:=Tryz.zeroValue3
 t4:=Tryz.underlying4
 a4:=Tryz.isAgg4
 z4:=Tryz.sizeOf4
 v4:=Tryz.zeroValue4
 t9:=Tryz.underlying9
 a9:=Tryz.isAgg9
 z9:=Tryz.sizeOf9
 v9:=Tryz.zeroValue9}
open Go.RowKit Go.Lib in
theorem Tryz.strings_HasPrefix(s p:ByteArray)(w:World):
 Calls P0 59 #[.string s,.string p] w λe w'=>e=.returned (.bool (Lib.hasPrefix s.data.toList p.data.toList))/\w'=w:=Any.strings_HasPrefix Tryz.lays99 s p w
def Tryz.lays226_ren:Go.Shelf.Ren:=⟨λ|226=>190|n=>n,λ|3=>3|4=>4|n=>n,λ|n=>n⟩
theorem Tryz.lays226:Go.Proofs.Lays.n226 P0 Tryz.lays226_ren:={
 mixed:=by kernel_rfl
 f226:=Tryz.func190.trans (congrArg some (by kernel_rfl))
 t3:=Tryz.underlying3
 a3:=Tryz.isAgg3
 z3:=Tryz.sizeOf3
 v3:=Tryz.zeroValue3
 t4:=Tryz.underlying4
 a4:=Tryz.isAgg4
 z4:=Tryz.sizeOf4
 v4:=Tryz.zeroValue4}
open Go.RowKit Go.Lib in
theorem Tryz.strings_shouldUseASCIISet(n:Int)(w:World):
 Calls P0 190 #[.int .i64 n] w λe w'=>e=.returned (.bool (decide (8<n)))/\w'=w:=Any.strings_shouldUseASCIISet Tryz.lays226 n w
def Tryz.lays153_ren:Go.Shelf.Ren:=⟨λ|153=>145|152=>189|226=>190|227=>191|228=>192|137=>104|119=>215|224=>195|225=>194|217=>146|266=>193|n=>n,λ|9=>9|3=>3|4=>4|5=>5|21=>21|117=>244|116=>243|0=>0|46=>75|124=>248|n=>n,λ|n=>n⟩
theorem Tryz.lays153:Go.Proofs.Lays.n153 P0 Tryz.lays153_ren:={
 mixed:=by kernel_rfl
 f119:=Tryz.func215.trans (congrArg some (by kernel_rfl))
 f137:=Tryz.func104.trans (congrArg some (by kernel_rfl))
 f152:=Tryz.func189.trans (congrArg some (by kernel_rfl))
 f153:=Tryz.func145.trans (congrArg some (by kernel_rfl))
 f217:=Tryz.func146.trans (congrArg some (by kernel_rfl))
 f224:=Tryz.func195.trans (congrArg some (by kernel_rfl))
 f225:=Tryz.func194.trans (congrArg some (by kernel_rfl))
 f226:=Tryz.func190.trans (congrArg some (by kernel_rfl))
 f227:=Tryz.func191.trans (congrArg some (by kernel_rfl))
 f228:=Tryz.func192.trans (congrArg some (by kernel_rfl))
 f266:=Tryz.func193.trans (congrArg some (by kernel_rfl))
 t0:=Tryz.underlying0
 a0:=Tryz.isAgg0
 z0:=Tryz.sizeOf0
 v0:=Tryz.zeroValue0
 t3:=Tryz.underlying3
 a3:=Tryz.isAgg3
 z3:=Tryz.sizeOf3
 v3:=Tryz.zeroValue3
 t4:=Tryz.underlying4
 a4:=Tryz.isAgg4
 z4:=Tryz.sizeOf4
 v4:=Tryz.zeroValue4
 t5:=Tryz.underlying5
 a5:=Tryz.isAgg5
 z5:=Tryz.sizeOf5
 v5:=Tryz.zeroValue5
 t9:=Tryz.underlying9
 a9:=Tryz.isAgg9
 z9:=Tryz.sizeOf9
 v9:=Tryz.zeroValue9
 t21:=Tryz.underlying21
 a21:=Tryz.isAgg21
 z21:=Tryz.sizeOf21
 v21:=Tryz.zeroValue21
 t46:=Tryz.underlying75
 a46:=Tryz.isAgg75
 z46:=Tryz.sizeOf75
 v46:=Tryz.zeroValue75
 t116:=Tryz.underlying243
 a116:=Tryz.isAgg243
 z116:=Tryz.sizeOf243
 t117:=Tryz.underlying244
 a117:=Tryz.isAgg244
 z117:=Tryz.sizeOf244
 v117:=Tryz.zeroValue244
 t124:=Tryz.underlying248
 a124:=Tryz.isAgg248
 z124:=Tryz.sizeOf248
 v124:=Tryz.zeroValue248}
open Go.RowKit Go.Lib in
theorem Tryz.strings_IndexAny_long(hv116:∀w,(zeroValue 243).run P0 w=.ok (.agg (Array.replicate 256 (.bool false))) w)(s chars:ByteArray)(w:World)(h2:2<=chars.size)(h8:8<s.size)(hs:s.size<4294967281)(hcs:chars.size<4294967281)(hascii:∀(j:Nat) b,chars.data.toList[j]?=some b->b.toNat<128):
 Calls P0 145 #[.string s,.string chars] w λe w'=>e=.returned (.int .i64 (Lib.indexAny s.data.toList chars.data.toList))/\w'=((w.alloc (.cells (Lib.setCells chars.data.toList) 243)).alloc (.cells (Lib.setCells chars.data.toList) 243)):=Any.strings_IndexAny_long Tryz.lays153 hv116 (by kernel_rfl) s chars w h2 h8 hs hcs hascii
open Go.RowKit Go.Lib in
theorem Tryz.strings_TrimLeft_laid(s cutset:ByteArray)(w:World)(hcs:cutset.size<4294967281)(hascii:∀(j:Nat) b,cutset.data.toList[j]?=some b->b.toNat<128):
 Calls P0 152 #[.string s,.string cutset] w λe w'=>e=.returned (.string ⟨(Lib.trimLeftS s.data.toList cutset.data.toList).toArray⟩)/\Below w.heap.size w w':=Any.strings_TrimLeft_laid Tryz.lays161 (by kernel_rfl) s cutset w hcs hascii
end
end Go.Proofs
namespace Go.Proofs.YtjblfcfdeaagpaaGreatDoor
section
open Go Go.Eng Go.Num
variable{w:World}{K:Q0}{cs:List Value}{G:Nat->Prop}{T:TypeId}{i:Nat}{n:Nat}{v:Value}{w':World}{P:Program}{c:UInt8}{S:Nat->Prop}
abbrev u64(n:Nat):Value:=.int .u64 (n:Int)
abbrev U8:TypeId:=5
theorem Mc(w:World)(e:TypeId)(s:ByteArray):Ext w (Lib.bytesWorld w e s):=
 ⟨rfl,rfl,rfl,by rw[Lib.bytesWorld_size];omega,λk hk _=>Lib.bytesWorld_at_old w e s k hk⟩
theorem Aw{l:Str}{src dst:TypeId}{K:Q0}(hs:Tryz.prog.underlying src=some .string)(hd:Tryz.prog.underlying dst=some (.slice U8))(he:Tryz.prog.underlying U8=some (.int .u8))
  (hK:∀v w',Byt w' U8 v l->Ext w w'->K v w'):fY P0 (convert src dst (str l)) w K:=by
 unfold fY;rw[Lib.run_convert_string_bytes w src dst U8 (ofL l) hs hd he];refine hK _ _ ?_ (Mc _ _ _);have hle:(ofL l).size<=grownCap w (ofL l).size 0 U8:=by
  exact grownCap_ge w (ofL l).size 0 U8
 refine⟨some ⟨w.heap.size,0,none⟩,grownCap w (ofL l).size 0 U8,by rw[jV],by rw[<-jV];exact hle,(λe=>by cases e),λ_=>⟨w.heap.size,0,_,_,rfl,Lib.bytesWorld_at_new w U8 (ofL l),λi hi=>?_⟩⟩;have hi:i<(ofL l).size:=by rw[jV];simpa[vN]using hi
 have:=Lib.bytesWorld_cell w U8 (ofL l) i hi;rw[cM,Lib.bytesWorld_at_new,bT]at this;rw[aI,this,Cn,jD];have hi':i<l.length:=by rw[jV]at hi;exact hi
 simp[bR,aG hi']
theorem lN[HX]{g:FuncId}{args:Array Value}{K:Q0}(hr:∀(ar:Array Value) (w:World),(callFunc g ar).run P0 w=.ok (.enter g ar) w)
  (h:Calls P0 g args w λe w'=>∃v,e=.returned v/\K v w'):aJ P0 g args.toList w K:=by
 unfold aJ;rw[show args.toList.toArray=args from by simp,hr];refine h.mono ?_;rintro e w' ⟨v,rfl,hk⟩;exact hk
section
variable [HX]
theorem Af{a b:Str}(h1:Op.bytesLess a b=false)(h2:(!(Op.bytesLess a b||decide (a=b)))=false):a=b:=by
 rw[h1]at h2;simpa using h2
theorem Pm{s p:Str}{K:Q0}(hs:s.length<=9223372036854775807)(hK:K (.bool (p.isPrefixOf s)) w):aJ P0 103 [str s,str p] w K:=by
 refine lN (args:=#[str s,str p]) Tryz.call103 ((Tryz.stringslite_HasPrefix (ofL s) (ofL p) w).mono ?_);rintro e w' ⟨rfl,rfl⟩;refine⟨_,rfl,?_⟩;rw[jD,jD];exact hK
theorem GV{a:Str}{K:Q0}(hs:a.length<=9223372036854775807)(hK:K (str (dig a)) w):aJ P0 148 [str a,str [45]] w K:=by
 refine TO ?_;unfold aAe;refine Ti ?_;unfold ZC;refine Pm hs ?_;cases a with
 |nil=>
  rw[show([45]:Str).isPrefixOf []=false from rfl];simp only[wsv,wsg,wsh,wsl,aO,aN,aF,kL,Nat.reduceAdd,Nat.reduceLT,cG,aY,dF,cU,cV,reduceCtorEq];exact hK
 |cons c r=>
  by_cases hc:c=45
  ·subst hc;have e:([45]:Str).isPrefixOf (45::r)=true:=by simp[List.isPrefixOf]
   have ed:dig (45::r)=r:=by simp[dig]
   rw[ed]at hK;rw[e];have e1:((0+1:Nat):Int).toNat=1:=rfl;simp only[wsv,wsg,wsh,wsl,aO,aN,aF,kL,Nat.reduceAdd,Nat.reduceLT,cG,aY,dF,cU,cV,reduceCtorEq,e1];refine⟨by omega,by omega,?_⟩;rw[<-aB (a:=(45:UInt8)),dZ];exact hK
  ·have e:([45]:Str).isPrefixOf (c::r)=false:=by simp[List.isPrefixOf,kG hc]
   have ed:dig (c::r)=c::r:=by simp[dig,hc]
   rw[ed]at hK;rw[e];simp only[wsv,wsg,wsh,wsl,aO,aN,aF,kL,Nat.reduceAdd,Nat.reduceLT,cG,aY,dF,cU,cV,reduceCtorEq];exact hK
theorem HE{a:Str}{K:Q0}(ha:a.length<=9223372036854775807)(hK:∀w',Ext w w'->K (.bool (goodN a)) w'):aJ P0 111 [str a] w K:=by
 refine Uq ?_;unfold aAC;refine GV ha ?_;have hg:goodN a=(!decide ((dig a).length<1)&&!decide (100<(dig a).length)&&!((dig a).head?==some 48&&!decide (a=[48]))&&(dig a).all Num.isDig):=by
  unfold goodN;have e1:decide (1<=(dig a).length)=!decide ((dig a).length<1):=by rw[<-decide_not];exact decide_eq_decide.2 (by omega)
  have e2:decide ((dig a).length<=100)=!decide (100<(dig a).length):=by rw[<-decide_not];exact decide_eq_decide.2 (by omega)
  rw[e1,e2];cases((dig a).head?==some 48)<;>cases decide (a=[48])<;>simp
 rw[hg]at hK;have hdl:(dig a).length<=a.length:=by
  cases a with
  |nil=>simp[dig]
  |cons c r=>simp only[dig];split<;>simp
 cases hd:dig a with
 |nil=>
  rw[hd]at hK;have hz:decide (((0:Nat):Int)<1)=true:=by decide
  simp only[wsv,wsg,wsh,wsl,aO,aN,aF,kL,Nat.reduceAdd,Nat.reduceLT,cG,aY,dF,cU,cV,reduceCtorEq,hz];intros;exact hK _ (Chg.refl _ _)
 |cons c r=>
  rw[hd]at hK hdl;have hz:decide (((r.length+1:Nat):Int)<1)=false:=bH (by omega);simp only[wsv,wsg,wsh,wsl,aO,aN,aF,kL,Nat.reduceAdd,Nat.reduceLT,cG,aY,dF,cU,cV,reduceCtorEq,mN,Int.toNat_zero,Yr c 48 48 rfl,hz];intros;rw[eJ];have e1:decide ((100:Int)<((r.length+1:Nat):Int))=decide (100<(c::r).length):=decide_eq_decide.2 (by simp only[aB];omega);have e4:decide ((c::r).length<1)=false:=bH (by simp);have e5:((c::r).head?==some 48)=(c==48):=by simp
  rw[e1];rw[e4,e5]at hK;simp only[decide_not];generalize decide (100<(c::r).length)=b1 at*
  generalize ((c==48)&&!decide (a=[48]))=b2 at*
  refine⟨λh=>?_,λh=>?_⟩
  ·have:=hK _ (Chg.refl _ _);have e:(!false&&!b1&&!b2&&(c::r).all Num.isDig)=false:=by
    cases b1<;>cases b2<;>simp at h⊢
   rw[e]at this;exact this
  ·have hb:b1=false/\b2=false:=by simpa using h
   rw[hb.1,hb.2]at hK;refine Aw (l:=c::r) (by kernel_rfl) (by kernel_rfl) (by kernel_rfl) λv w1 hv hx1=>?_;rw[eO hv];generalize c::r=D at*
   refine yS D.length (λi w2=>Ext w1 w2/\(D.take i).all Num.isDig=true) ⟨Chg.refl _ _,rfl⟩ ?_ ?_
   ·rintro i w2 g L hi ⟨hx2,hall⟩ hL;obtain⟨e,he⟩:∃e,D[i]?=some e:=⟨_,aG hi⟩;have hlt:((i:Int)<((D.length:Nat):Int)):=by omega
    simp only[wsv,wsg,wsh,wsl,aO,aN,aF,kL,Nat.reduceAdd,Nat.reduceLT,cG,aY,dF,cU,cV,reduceCtorEq,hlt];refine mR (hv.ext hx2) (by rw[vN]) (by rw[Cn,he];rfl) ?_;simp only[wsv,wsg,wsh,wsl,aO,aN,aF,kL,Nat.reduceAdd,Nat.reduceLT,cG,aY,dF,cU,cV,reduceCtorEq,LG];intros;rw[eJ];refine⟨λhf=>?_,λht=>?_⟩
    ·have hf:Num.isDig e=false:=by simpa using hf
     have:=hK _ (hx1.trans hx2);rw[Xf he hf]at this;exact this
    ·have ht:Num.isDig e=true:=by simpa using ht
     rw[up1 (by omega)];exact hL _ ⟨hx2,by rw[IF he,hall,ht];rfl⟩
   ·rintro w2 g L ⟨hx2,hall⟩;simp only[wsv,wsg,wsh,wsl,aO,aN,aF,kL,Nat.reduceAdd,Nat.reduceLT,cG,aY,dF,cU,cV,reduceCtorEq,Bm];rw[dZ]at hall;have:=hK w2 (hx1.trans hx2);rw[hall]at this;exact this
end
end
end Go.Proofs.YtjblfcfdeaagpaaGreatDoor
namespace Go.Proofs
section
open Go.RowKit Go.Lib Go.Shelf
variable{w:World}{K:Q0}{cs:List Value}{G:Nat->Prop}{T:TypeId}{i:Nat}{n:Nat}{v:Value}{w':World}{P:Program}{c:UInt8}{S:Nat->Prop}
abbrev BdT:TypeId:=114
set_option maxHeartbeats 1000000 in
set_option maxRecDepth 100000 in
theorem Tryz.check_used(b:Nat)(w:World)(h0:w.cell? ⟨b,0,none⟩=some (.pointer (some ⟨b,0,none⟩))):
  Calls P0 131 #[.pointer (some ⟨b,0,none⟩)] w λe w'=>e=.returned (.tuple #[])/\w'=w:=by
 obtain⟨j,hj,_⟩:=zI.1 (show(Tryz.prog.info? 114).map (·.size)=some 2 by kernel_rfl)
 go_enter Tryz.func131,Tryz.ntmps131
 go_wp2
 rw[Lib.run_neq_ptr_same w _ Tryz.underlying112 hj]
 go_wp2
 go_end0
 exact⟨rfl,rfl⟩
set_option maxHeartbeats 1000000 in
set_option maxRecDepth 100000 in
theorem Tryz.check_fresh(b:Nat)(w:World)(h0:w.cell? ⟨b,0,none⟩=some (.pointer none))(hsh:w.shape? b=some (114,2))(hfz:w.frozen? ⟨b,0,none⟩=false):
  Calls P0 131 #[.pointer (some ⟨b,0,none⟩)] w λe w'=>e=.returned (.tuple #[])/\w'=w.setCell ⟨b,0,none⟩ (.pointer (some ⟨b,0,none⟩)):=by
 obtain⟨j,hj,hjs⟩:=zI.1 (show(Tryz.prog.info? 114).map (·.size)=some 2 by kernel_rfl)
 go_enter Tryz.func131,Tryz.ntmps131
 go_wp2
 rw[Lib.run_to_unsafe w ⟨b,0,none⟩ Tryz.underlying112 Tryz.underlying230 hj (by rw[hjs];decide) hsh (aY 1)];simp only[Result.andThen];rw[Oper.upon_value]
 go_wp2
 rw[run_callFunc_extern Tryz.func170 (by kernel_rfl) (by kernel_rfl) (by kernel_rfl) (e:=Extern.AbiNoEscape.same) (by kernel_rfl)];rw[Lib.run_noEscape];simp only[Result.andThen];rw[Oper.upon_value]
 go_wp2
 rw[Lib.run_from_unsafe w ⟨b,0,none⟩ Tryz.underlying230 Tryz.underlying112 hj hsh (show liesAt P0 Tryz.prog.depth 114 (2/Tryz.prog.cellsOf 114) 0 114 1=true by kernel_rfl)];simp only[Result.andThen];rw[Oper.upon_value]
 go_wp2
 go_end0
 exact⟨rfl,rfl⟩
end
end Go.Proofs
namespace Go.Proofs.YtjblfcfdeaagpaaGreatDoor
section
open Go Go.Eng Go.RowKit
variable{w:World}{K:Q0}{cs:List Value}{G:Nat->Prop}{T:TypeId}{i:Nat}{n:Nat}{v:Value}{w':World}{P:Program}{c:UInt8}{S:Nat->Prop}
abbrev BdT:TypeId:=114
theorem zA:qW P0 80 U8 1 1:=⟨by kernel_rfl,by kernel_rfl,by decide⟩
def Bld(w:World)(B b:Nat)(l:Str):Prop:=
 ∃p v,w.heap[b]?=some (.cells [p,v].toArray BdT (0,0))/\(p=.pointer none\/p=.pointer (some ⟨b,0,none⟩))/\Own w B U8 1 v l.length (u8s l)/\B<=b
def BCh(w:World)(B b:Nat)(k:Nat):Prop:=k=b\/En w B U8 k
theorem Bld.chg{B b:Nat}{l:Str}(h:Bld w B b l)(hc:Chg S w w')(hb:¬S b)(hS:∀k,En w B U8 k->¬S k):Bld w' B b l:=by
 obtain⟨p,v,h1,h2,h3,h4⟩:=h;exact⟨p,v,hc.at h1 hb,h2,h3.chg hc hS,h4⟩
theorem Bld.ext{B b:Nat}{l:Str}(h:Bld w B b l)(hc:Ext w w'):Bld w' B b l:=h.chg hc (λe=>e) λ_ _ e=>e
theorem Bld.lt{B b:Nat}{l:Str}(h:Bld w B b l):b<w.heap.size:=by
 obtain⟨p,v,h1,_⟩:=h;exact mB h1
theorem Bld.base{B b:Nat}{l:Str}(h:Bld w B b l):B<=b:=by obtain⟨p,v,_,_,_,h4⟩:=h;exact h4
theorem KM{B b:Nat}{p:Value}(h1:w.heap[b]?=some (.cells [p,v].toArray BdT (0,0))):¬En w B U8 b:=by
 rintro⟨_,c,hc⟩;rw[h1]at hc;simp only[bA,Obj.cells.injEq]at hc;exact absurd hc.2.1 (by decide)
theorem BCh.trans{w1 w2:World}{B b:Nat}(h1:Chg (BCh w B b) w w1)(h2:Chg (BCh w1 B b) w1 w2):Chg (BCh w B b) w w2:=by
 refine⟨h2.os.trans h1.os,h2.tape.trans h1.tape,h2.output.trans h1.output,dR h1.size h2.size,λk hk hn=>?_⟩;have e1:=h1.heap k hk hn;rw[<-e1];refine h2.heap k (dD hk h1.size) λe=>hn ?_;rcases e with e|⟨e2,c,e3⟩
 ·exact .inl e
 ·exact .inr ⟨e2,c,by rw[<-e1];exact e3⟩
theorem BCh.from{w1 w2:World}{B b:Nat}(h1:Ext w w1)(h2:Chg (BCh w1 B b) w1 w2):Chg (BCh w B b) w w2:=BCh.trans (Chg.of_ext h1) h2
theorem BCh.new{w0:World}{B b:Nat}(h0:Ext w0 w)(hB:w0.heap.size<=B)(hb:B<=b)(h:Chg (BCh w B b) w w'):Ext w0 w':=
 h0.then h λk hk e=>by
  rcases e with rfl|⟨e,_⟩
  ·omega
  ·omega
theorem BCh.iter{B b k p:Nat}{s:ByteArray}(h:Chg (BCh w B b) w w')(hk:w.heap[k]?=some (.stringIter s p))(hb:k≠b):w'.heap[k]?=some (.stringIter s p):=
 h.at hk λe=>by
  rcases e with e|⟨_,c',e⟩
  ·exact hb e
  ·rw[hk]at e;cases e
section
variable [HX]
theorem Za{B:Nat}{K:Q0}(hB:B<=w.heap.size)(hK:∀b w',b=w.heap.size->Bld w' B b []->Ext w w'->K (.pointer (some ⟨b,0,none⟩)) w'):dA BdT [.pointer none,.slice none 0 0] w K:=
 cK λa w' ha hz hb hx=>hK a w' ha ⟨_,_,hb,.inl rfl,⟨by simp[u8s],.inl ⟨rfl,rfl⟩⟩,by omega⟩ hx
theorem GJ{B b:Nat}{l:Str}{K:Q0}(h:Bld w B b l)
  (hK:∀v w',w'.heap[b]?=some (.cells [.pointer (some ⟨b,0,none⟩),v].toArray BdT (0,0))->Own w' B U8 1 v l.length (u8s l)->w'.heap.size=w.heap.size->Chg (BCh w B b) w w'->K (.tuple #[]) w'):
  aJ P0 131 [.pointer (some ⟨b,0,none⟩)] w K:=by
 obtain⟨p,v,h1,h2,h3,h4⟩:=h;have c0:w.cell? ⟨b,0,none⟩=some p:=by rw[cM,h1];rfl
 rcases h2 with rfl|rfl
 ·refine lN (args:=#[.pointer (some ⟨b,0,none⟩)]) Tryz.call131 ((Tryz.check_fresh b w c0 (by simp[World.shape?,h1]) (by rw[fL,h1];rfl)).mono ?_);rintro e w' ⟨rfl,rfl⟩;refine⟨_,rfl,hK v _ ?_ ?_ (dT _ _ _) (Chg.set (Chg.refl _ _) (.inl (.inl rfl)) _)⟩
  ·rw[oF,h1];rfl
  ·refine h3.chg (Chg.set (S:=λk=>k=b) (Chg.refl _ _) (.inl rfl) _) λk hk e=>?_;subst e;exact KM h1 hk
 ·refine lN (args:=#[.pointer (some ⟨b,0,none⟩)]) Tryz.call131 ((Tryz.check_used b w c0).mono ?_);rintro e w' ⟨rfl,rfl⟩;exact⟨_,rfl,hK v _ h1 h3 rfl (Chg.refl _ _)⟩
theorem JI{w3:World}{B b n:Nat}{l l':Str}{v':Value}{K:World->Prop}(h1:w.heap[b]?=some (.cells [.pointer (some ⟨b,0,none⟩),v].toArray BdT (0,0)))(hO:Own w B U8 1 v l.length (u8s l))(hb:B<=b)
  (hc:Chg (λk=>v.ownBlock=some k) w w3)(hO':Own w3 B U8 1 v' l'.length (u8s l'))(hK:∀w',Bld w' B b l'->Chg (BCh w B b) w w'->w'.heap.size=w3.heap.size->K w'):
  stW 1 (.pointer (some ⟨b,1,none⟩)) v' w3 K:=by
 have hne:¬v.ownBlock=some b:=λe=>KM h1 (hO.block b e);have h3:=hc.at h1 hne;have hsh:jM v'=true:=by obtain⟨p,c,rfl,_⟩:=hO'.sl.shape;rfl
 refine kQ h3 hsh (by simp) λw4 hz hb4 hc4=>?_;refine hK w4 ⟨.pointer (some ⟨b,0,none⟩),v',by rw[hb4];simp,.inr rfl,hO'.chg hc4 λk hk e=>by subst e;exact KM h3 hk,hb⟩ ?_ hz;have s1:Chg (BCh w B b) w w3:=hc.mono λk _ e=>.inr (hO.block k e);exact s1.then hc4 λk _ e=>.inl e
theorem UX{B b:Nat}{l s:Str}{K:Q0}(h:Bld w B b l)(hB:B<=w.heap.size)(hl:l.length+s.length<=140737488355328)
  (hK:∀v w',Bld w' B b (l++s)->Chg (BCh w B b) w w'->K v w'):aJ P0 88 [.pointer (some ⟨b,0,none⟩),str s] w K:=by
 have hb:=h.base;refine Xq ?_;unfold W88;refine GJ h λv w1 h1 hO hz hc=>?_;rw[dB,bE,eD];refine⟨v,by rw[bL,cM,h1];rfl,?_⟩;obtain⟨i,z,hi,hzr,h2,h3,h4⟩:=zA.get;have hz0:i.zero=some (.int .u8 0):=by
  have:(Tryz.prog.info? U8).map (·.zero)=some (some (.int .u8 0)):=by kernel_rfl
  rw[hi]at this;simpa using this
 obtain⟨v',w3,hr,hO',hg,_⟩:=Lib.run_append_own_string (P:=P0) w1 B 80 9 80 U8 i zA.und (by kernel_rfl) hi hz0 h2 h3 v l.length (u8s l) hO (ofL s) (by rw[jV];unfold maxLen;omega) (by rw[jV];omega) (by omega);unfold fY;rw[hr];dsimp only;rw[dB,bE];have hO2:Own w3 B U8 1 v' (l++s).length (u8s (l++s)):=by
  rw[Gc,aP];have e1:Lib.strCells (ofL s)=u8s s:=by unfold Lib.strCells u8s;rw[jD]
  rw[jV,e1]at hO';exact hO'
 refine JI (n:=0) h1 hO hb (Chg.of_grown hg λk e=>e) hO2 λw4 hb4 hc4 _=>?_;rw[dV];exact hK _ w4 hb4 (BCh.trans hc hc4)
theorem MX{K:Q0}(hK:∀t w',SlAt w' U8 t 1 [.int .u8 (n:Int)]->Ext w w'->K t w'):gO U8 1 [(.int .u8 0)] [(0,1,.int .u8 (n:Int))] w K:=by
 rw[gO];simp only[dP,dN,aB,aK,aM];refine⟨by omega,?_⟩;refine hK _ _ ⟨_,_,rfl,aZ _,λe=>(by cases e),λ_=>⟨_,_,_,_,rfl,kF _ _ _ rfl,λi _=>by rw[aI];simp⟩⟩ (Chg.alloc (Chg.refl _ _) _)
theorem Ck{B b:Nat}{l:Str}{K:Q0}(h:Bld w B b l)(hB:B<=w.heap.size)(hl:l.length+1<=140737488355328)(hn:n<256)
  (hK:∀w',Bld w' B b (l++[UInt8.ofNat n])->Chg (BCh w B b) w w'->K .nilIface w'):aJ P0 126 [.pointer (some ⟨b,0,none⟩),.int .u8 (n:Int)] w K:=by
 have hb:=h.base;refine Ui ?_;unfold aAu;refine GJ h λv w1 h1 hO hz hc=>?_;rw[dB,bE,eD];refine⟨v,by rw[bL,cM,h1];rfl,?_⟩;refine MX λt w2 ht hx2=>?_;refine uB zA (hO.ext hx2) ht (m:=1) rfl (λu hu=>by simp only[bX]at hu;subst hu;rfl) (by omega) (by omega) (by have:=hx2.size;omega) λv' w3 hO3 hc3 _=>?_;rw[dB,bE];have hO2:Own w3 B U8 1 v' (l++[UInt8.ofNat n]).length (u8s (l++[UInt8.ofNat n])):=by
  rw[Gc,aP];have e1:u8s [UInt8.ofNat n]=[.int .u8 (n:Int)]:=by
   simp only[u8s,fW,kV,El];rw[Nat.mod_eq_of_lt (by omega)]
  rw[e1];exact hO3
 refine JI (n:=0) (hx2.at h1 id) (hO.ext hx2) hb hc3 hO2 λw4 hb4 hc4 _=>?_;exact hK w4 hb4 (BCh.trans hc (BCh.from hx2 hc4))
end
abbrev u8(n:Nat):Value:=.int .u8 (n:Int)
theorem YG:∀x:Fin 32,IntKind.u8.wrap (BitVec.ofInt IntKind.u8.bits 192|||BitVec.ofInt IntKind.u8.bits ((x.val:Nat):Int)).toNat=((192+x.val:Nat):Int):=by decide+kernel
theorem YF:∀x:Fin 16,IntKind.u8.wrap (BitVec.ofInt IntKind.u8.bits 224|||BitVec.ofInt IntKind.u8.bits ((x.val:Nat):Int)).toNat=((224+x.val:Nat):Int):=by decide+kernel
theorem YE:∀x:Fin 8,IntKind.u8.wrap (BitVec.ofInt IntKind.u8.bits 240|||BitVec.ofInt IntKind.u8.bits ((x.val:Nat):Int)).toNat=((240+x.val:Nat):Int):=by decide+kernel
theorem YH:∀x:Fin 64,IntKind.u8.wrap (BitVec.ofInt IntKind.u8.bits 128|||BitVec.ofInt IntKind.u8.bits ((x.val:Nat):Int)).toNat=((128+x.val:Nat):Int):=by decide+kernel
theorem Zc:∀x:Fin 256,IntKind.u8.wrap (BitVec.ofInt IntKind.u8.bits ((x.val:Nat):Int)&&&BitVec.ofInt IntKind.u8.bits 63).toNat=((x.val%64:Nat):Int):=by decide+kernel
theorem Av(n:Nat):IntKind.u8.wrap (n:Int)=((n%256:Nat):Int):=by
 simp only[IntKind.wrap,IntKind.bits,IntKind.signed,dM];rw[show(2:Int)^8=256 by decide];simp
theorem GU(h:n<4294967296):IntKind.u32.wrap (n:Int)=(n:Int):=by
 simp only[IntKind.wrap,IntKind.bits,IntKind.signed,dM];rw[show(2:Int)^32=4294967296 by decide];simp only[mV,qY];omega
theorem Ez(r k:Nat)(hk:k<=32)(K:Value->Prop):aS .shr (.int .i32 (r:Int)) (.int .u64 (k:Int)) K↔K (.int .i32 ((r/2^k:Nat):Int)):=by
 have e:(r:Int).fdiv (2^min (k:Int).toNat IntKind.i32.bits)=((r/2^k:Nat):Int):=by
  rw[aV,show min k IntKind.i32.bits=k from Nat.min_eq_left hk,Int.fdiv_eq_ediv_of_nonneg _ (by exact Int.le_of_lt (Int.pow_pos (by decide)))];rw[Int.natCast_ediv,Int.natCast_pow];rfl
 simp only[aS];rw[e];constructor
 ·exactλh=>h.2
 ·exactλh=>⟨by omega,h⟩
theorem Bn(x:Nat)(K:Value->Prop):(wT .u8 (.int .i32 (x:Int)) λt=>aS .and t (.int .u8 63) λt=>aS .or (.int .u8 128) t K)↔K (u8 (128+x%64)):=by
 rw[gX,Av,Sz,Zc ⟨x%256,by omega⟩,GN,YH ⟨x%256%64,by omega⟩];simp only;rw[show x%256%64=x%64 by omega]
theorem aAO{a b:Nat}{K:Q0}(hK:∀t w',SlAt w' U8 t 2 [u8 a,u8 b]->Ext w w'->K t w'):gO U8 2 [(.int .u8 0),(.int .u8 0)] [(0,1,u8 a),(1,1,u8 b)] w K:=by
 rw[gO];simp only[dP,dN,aB,aK,aM,aQ];refine⟨by omega,by omega,?_⟩;refine hK _ _ ⟨_,_,rfl,aZ _,λe=>(by cases e),λ_=>⟨_,_,_,_,rfl,kF _ _ _ rfl,λi _=>by rw[aI];simp⟩⟩ (Chg.alloc (Chg.refl _ _) _)
theorem aAN{a b c:Nat}{K:Q0}(hK:∀t w',SlAt w' U8 t 3 [u8 a,u8 b,u8 c]->Ext w w'->K t w'):gO U8 3 [(.int .u8 0),(.int .u8 0),(.int .u8 0)] [(0,1,u8 a),(1,1,u8 b),(2,1,u8 c)] w K:=by
 rw[gO];simp only[dP,dN,aB,aK,aM,aQ];refine⟨by omega,by omega,by omega,?_⟩;refine hK _ _ ⟨_,_,rfl,aZ _,λe=>(by cases e),λ_=>⟨_,_,_,_,rfl,kF _ _ _ rfl,λi _=>by rw[aI];simp⟩⟩ (Chg.alloc (Chg.refl _ _) _)
theorem aAM{a b c d:Nat}{K:Q0}(hK:∀t w',SlAt w' U8 t 4 [u8 a,u8 b,u8 c,u8 d]->Ext w w'->K t w'):gO U8 4 [(.int .u8 0),(.int .u8 0),(.int .u8 0),(.int .u8 0)] [(0,1,u8 a),(1,1,u8 b),(2,1,u8 c),(3,1,u8 d)] w K:=by
 rw[gO];simp only[dP,dN,aB,aK,aM,aQ];refine⟨by omega,by omega,by omega,by omega,?_⟩;refine hK _ _ ⟨_,_,rfl,aZ _,λe=>(by cases e),λ_=>⟨_,_,_,_,rfl,kF _ _ _ rfl,λi _=>by rw[aI];simp⟩⟩ (Chg.alloc (Chg.refl _ _) _)
theorem OS(l:List Nat)(h:∀x∈l,x<256):u8s (l.map b8)=l.map u8:=by
 unfold u8s;rw[uJ];apply List.map_congr_left;intro x hx;have:=h x hx;simp only[Function.comp,b8,El,u8];rw[Nat.mod_eq_of_lt (by omega)]
section
variable [HX]
theorem SC{B r:Nat}{l:Str}{K:Q0}(hO:Own w B U8 1 v l.length (u8s l))(hB:B<=w.heap.size)(hl:l.length+4<=140737488355328)(hr:r<55296\/57343<r/\r<=1114111)
  (hK:∀v' w',Own w' B U8 1 v' (l++wrM r).length (u8s (l++wrM r))->(∀k,¬En w B U8 k->k<w.heap.size->w'.heap[k]?=w.heap[k]?)->Chg (λk=>v.ownBlock=some k) w w'->K v' w'):
  aJ P0 166 [v,.int .i32 (r:Int)] w K:=by
 have fin:∀(bs:List Nat) (t:Value) (w1:World),wrM r=bs.map b8->(∀x∈bs,x<256)->bs.length<=4->SlAt w1 U8 t bs.length (bs.map u8)->Ext w w1->fY P0 (Builtin.append_ #[80,80] 80 #[v,t]) w1 K:=by
  intro bs t w1 he hlt hlen ht hx;refine uB zA (hO.ext hx) ht (m:=bs.length) (by simp) (λu hu=>by simp only[gE]at hu;obtain⟨x,_,rfl⟩:=hu;rfl) (by omega) (by omega) (by have:=hx.size;omega) λv' w3 hO3 hc3 _=>?_;have hc:Chg (λk=>v.ownBlock=some k) w w3:=(Chg.of_ext hx).trans hc3;refine hK v' w3 ?_ (λk hk hlt=>hc.heap k hlt λe=>hk (hO.block k e)) hc;rw[Gc,he,OS bs hlt,aP,fP];exact hO3
 refine TE ?_;unfold ZW;rw[gX,GU (by omega),gN,bD];refine⟨λh=>?_,λh=>?_⟩
 ·rw[gX,Av,Nat.mod_eq_of_lt (by omega)];refine MX λt w1 ht hx=>?_;refine fin [r] t w1 ?_ (λx hx=>by simp only[bX]at hx;omega) (by simp) ht hx;unfold wrM;rw[aU (by omega)];rfl
 refine Td ?_;unfold Zy;rw[gX,GU (by omega),gN,bD];refine⟨λh2=>?_,λh2=>?_⟩
 ·rw[show(6:Int)=((6:Nat):Int)from rfl,Ez r 6 (by omega),gX,Av,show r/2^6%256=r/64 by omega,GN,YG ⟨r/64,by omega⟩,Bn];refine aAO λt w1 ht hx=>?_;refine fin [192+r/64,128+r%64] t w1 ?_ (λx hx=>by simp only[bC,cA,gG]at hx;omega) (by simp) ht hx;unfold wrM;rw[aL (by omega),aU (by omega)];rfl
 refine dE.cut (λs' w'=>s'=[.bool (decide (r<=65535))]/\w'=w) ?_ ?_
 ·rw[dI,bD];refine⟨λh3=>?_,λh3=>?_⟩
  ·rw[bW h3,bW (by omega)];exact⟨rfl,rfl⟩
  ·rw[dI,bW (show(57343:Int)<(r:Int)by omega)];refine GdW.look (decide (r<=65535)) (λ_ J hJ=>?_) λg=>?_
   ·rw[gN];rw[show decide ((r:Int)<=65535)=decide (r<=65535)by rw[decide_eq_decide];omega];exact hJ
   ·exact⟨rfl,rfl⟩
 rintro s' g w' ⟨rfl,rfl⟩;simp only[aC];rw[bD];refine⟨λh3=>?_,λh3=>?_⟩
 ·rw[show(12:Int)=((12:Nat):Int)from rfl,Ez r 12 (by omega),gX,Av,show r/2^12%256=r/4096 by omega,GN,YF ⟨r/4096,by omega⟩,show(6:Int)=((6:Nat):Int)from rfl,Ez r 6 (by omega),Bn,Bn];refine aAN λt w1 ht hx=>?_;refine fin [224+r/4096,128+r/64%64,128+r%64] t w1 ?_ (λx hx=>by simp only[bC,cA,gG]at hx;omega) (by simp) ht hx;unfold wrM;rw[aL (by omega),aL (by omega),aU (by omega)];rfl
 rw[gD,bW (show(65535:Int)<(r:Int)by omega)];refine GdW.look true (λ_ J hJ=>?_) λg=>?_
 ·rw[gN,bW (show(r:Int)<=1114111 by omega)];exact hJ
 show bB (.bool true) _ _;rw[dG];rw[show(18:Int)=((18:Nat):Int)from rfl,Ez r 18 (by omega),gX,Av,show r/2^18%256=r/262144 by omega,GN,YE ⟨r/262144,by omega⟩,show(12:Int)=((12:Nat):Int)from rfl,Ez r 12 (by omega),Bn,show(6:Int)=((6:Nat):Int)from rfl,Ez r 6 (by omega),Bn,Bn];refine aAM λt w1 ht hx=>?_;refine fin [240+r/262144,128+r/4096%64,128+r/64%64,128+r%64] t w1 ?_ (λx hx=>by simp only[bC,cA,gG]at hx;omega) (by simp) ht hx;unfold wrM;rw[aL (by omega),aL (by omega),aL (by omega)];rfl
theorem OM{B b r:Nat}{l:Str}{K:Q0}(h:Bld w B b l)(hB:B<=w.heap.size)(hl:l.length+4<=140737488355328)(hr:r<55296\/57343<r/\r<=1114111)
  (hK:∀v w',Bld w' B b (l++wrM r)->Chg (BCh w B b) w w'->K v w'):aJ P0 127 [.pointer (some ⟨b,0,none⟩),.int .i32 (r:Int)] w K:=by
 have hb:=h.base;refine Uh ?_;unfold aAt;refine GJ h λv w1 h1 hO hz hc=>?_;have hc1:w1.cell? (⟨b,0,none⟩:Addr)|>.isSome:=by rw[cM,h1];rfl
 rw[dB,bE,eD];refine⟨v,by rw[bL,cM,h1];rfl,?_⟩;rw[eO hO.sl,dB,bE,eD];refine⟨v,by rw[bL,cM,h1];rfl,?_⟩;refine SC hO (by omega) hl hr λv' w2 hO2 _ hc2=>?_;rw[dB,bE];refine JI (n:=0) h1 hO hb hc2 hO2 λw4 hb4 hc4 _=>?_;obtain⟨p,v4,h4,_,hO4,_⟩:=id hb4;rw[dB,bE,eD];refine⟨v4,by rw[bL,cM,h4];rfl,?_⟩;rw[eO hO4.sl,gR];exact hK _ w4 hb4 (BCh.trans hc hc4)
end
end
section
open Go Go.Eng Go.RowKit Go.Syn Go.Lex
variable{w:World}{K:Q0}{cs:List Value}{G:Nat->Prop}{T:TypeId}{i:Nat}{n:Nat}{v:Value}{w':World}{P:Program}{c:UInt8}{S:Nat->Prop}
theorem Sy{B b:Nat}{l:Str}(h:Bld w B b l):Lib.IsBuilderF BdT U8 B b (Lib.byteCells l) w:=by
 obtain⟨p,v,h1,h2,h3,h4⟩:=h;have hO:w.ownsRow B U8 1 v (u8s l).length (u8s l):=by rw[vN];exact h3
 have:Lib.BuilderAt BdT U8 B b p (u8s l) w:=⟨h4,v,h1,hO,λe=>KM h1 (h3.block b e)⟩;rcases h2 with rfl|rfl
 ·exact .inl (Lib.BuilderAtF.of this)
 ·exact .inr (Lib.BuilderAtF.of this)
theorem hY[HX]{g:FuncId}{args caps:List Value}{K:Q0}(h:aJ P g (args++caps) w K):nV P (.func (.func g) #[] caps.toArray) args w K:=by
 unfold nV Vm;unfold aJ at h;have:(do let d<-(Deferred.ofValue (.func (.func g) #[] caps.toArray) args.toArray);invoke d.target d.args:Sem Next)=callFunc g (args++caps).toArray:=by
  show callFunc g (#[]++args.toArray++caps.toArray)=_;simp
 rw[this];exact h
theorem lD{s:Str}(h:i<s.length):s.drop i=s[i]::s.drop (i+1):=eB h
theorem pre_eq(s:Str):Lib.hasPrefix s [36,123]=qX [36,123] s:=rfl
section
variable [HX]
theorem FM{B b:Nat}{l:Str}{K:Q0}(h:Bld w B b l)(hB:B<=w.heap.size)(hK:∀w',Chg (λk=>B<=k) w w'->K (str l) w'):aJ P0 44 [.pointer (some ⟨b,0,none⟩)] w K:=by
 refine lN (args:=#[.pointer (some ⟨b,0,none⟩)]) Tryz.call44 ((Tryz.Builder_String_any_k B b l w (Sy h) hB).mono ?_);rintro e w' ⟨rfl,_,hb,_⟩;exact⟨_,rfl,hK w' ⟨hb.os,hb.tape,hb.output,hb.size,λk _ hn=>hb.block k (by omega)⟩⟩
theorem Ai{s q:Str}{K:Q0}(hK:K (.bool (Lib.hasPrefix s q)) w):aJ P0 59 [str s,str q] w K:=by
 refine lN (args:=#[str s,str q]) Tryz.call59 ((Tryz.strings_HasPrefix (ofL s) (ofL q) w).mono ?_);rintro e w' ⟨rfl,rfl⟩;rw[jD,jD];exact⟨_,rfl,hK⟩
theorem sA{s:Str}{K:Value->Prop}(h:i<s.length)(hK:K (.int .u8 (s[i].toNat:Nat))):nU (str s) (i64 (i:Nat)) K:=by
 rw[iL];exact⟨by omega,s[i],by simpa using aG h,hK⟩
theorem Ev(c:UInt8)(k:Nat)(hk:k<256):decide (((c.toNat:Nat):Int)=(k:Int))=decide (c=UInt8.ofNat k):=by
 rw[decide_eq_decide];constructor
 ·intro h;have h:c.toNat=k:=by omega
  rw[<-h];simp
 ·intro h;subst h;rw[El];omega
theorem IQ{s:Str}{K:Q0}(he:sV s=true)(hl:s.length<=1000000)(hK:∀w',Ext w w'->K (str (jR s)) w'):aJ P0 116 [str s] w K:=by
 refine Ul ?_;unfold aAx;refine Za (B:=w.heap.size) (aZ _) λb w1 hb hB1 hx1=>?_;have hz1:=hx1.size;refine dL.go (λst w'=>∃i out,st=[i64 (i:Nat)]/\i<=s.length/\Bld w' w.heap.size b out/\Ext w w'/\out++jR (s.drop i)=jR s/\out.length<=i/\sV (s.drop i)=true) (λst _=>match st with|[.int _ i]=>s.length-i.toNat|_=>0)
  ⟨0,[],rfl,by omega,hB1,hx1,rfl,aZ _,he⟩ ?_
 rintro st g w2 ⟨i,out,rfl,hi,hB2,hx2,hs,ho,hes⟩;have hz2:=hx2.size;simp only[aC];rw[dV,dI,bD];have fin:∀{w3:World} {l:Str} {j:Nat} (c:UInt8),Chg (BCh w2 w.heap.size b) w2 w3->Bld w3 w.heap.size b (out++[c])->i<=j->j<s.length->(out++[c])++jR (s.drop (j+1))=jR s->sV (s.drop (j+1))=true->
   (∃i' out',[i64 ((j+1:Nat))]=[i64 (i':Nat)]/\i'<=s.length/\Bld w3 w.heap.size b out'/\Ext w w3/\out'++jR (s.drop i')=jR s/\out'.length<=i'/\sV (s.drop i')=true)/\s.length-((j+1:Nat):Int).toNat<s.length-((i:Nat):Int).toNat:=λ{w3 l j} c hc hB3 hij hj he1 he2=>by
  refine⟨⟨j+1,out++[c],rfl,by omega,hB3,BCh.new hx2 (aZ _) (by omega) hc,he1,by simp;omega,he2⟩,?_⟩;simp only[aV];omega
 refine⟨λhlt=>?_,λhge=>?_⟩
 ·have hlt:i<s.length:=by omega
  refine sA hlt ?_;have hd:=lD hlt;have he0:=hes;rw[hd]at hes hs;refine dE.cut (λst w'=>w'=w2/\∃(j:Nat) (c:UInt8),st=[i64 (j:Nat),.int .u8 (c.toNat:Nat)]/\i<=j/\j<s.length/\(out++[c])++jR (s.drop (j+1))=jR s/\sV (s.drop (j+1))=true) ?_ ?_
  ·rw[cL,bD];refine⟨λe=>?_,λe=>?_⟩
   ·have ec:s[i]=92:=mL.1 (by have e:(s[i].toNat:Int)=92:=e;show s[i].toNat=92;omega);have hlt2:i+1<s.length:=by
     by_cases h2:i+1<s.length
     ·exact h2
     ·rw[iI (by omega),ec]at hes;simp[sV]at hes
    have hd2:=lD hlt2;rw[hd2,ec]at hes hs;simp only[sV,qH]at hes;simp only[jR,qH]at hs;rw[cJ,upi (by omega)];refine sA hlt2 ?_;rw[cL,bD];refine⟨λe1=>?_,λe1=>?_⟩
    ·have e1:s[i+1]=110:=mL.1 (by have e:(s[i+1].toNat:Int)=110:=e1;show s[i+1].toNat=110;omega);rw[aU e1]at hs;exact⟨rfl,i+1,10,rfl,by omega,hlt2,by rw[<-hs];simp,hes⟩
    have e1':s[i+1]≠110:=λh=>e1 (by rw[h];rfl);rw[cL,bD];rw[aL e1']at hs;refine⟨λe2=>?_,λe2=>?_⟩
    ·have e2:s[i+1]=116:=mL.1 (by have e:(s[i+1].toNat:Int)=116:=e2;show s[i+1].toNat=116;omega);rw[aU e2]at hs;exact⟨rfl,i+1,9,rfl,by omega,hlt2,by rw[<-hs];simp,hes⟩
    have e2':s[i+1]≠116:=λh=>e2 (by rw[h];rfl);rw[cL,bD];rw[aL e2']at hs;refine⟨λe3=>?_,λe3=>?_⟩
    ·have e3:s[i+1]=114:=mL.1 (by have e:(s[i+1].toNat:Int)=114:=e3;show s[i+1].toNat=114;omega);rw[aU e3]at hs;exact⟨rfl,i+1,13,rfl,by omega,hlt2,by rw[<-hs];simp,hes⟩
    have e3':s[i+1]≠114:=λh=>e3 (by rw[h];rfl);rw[aL e3']at hs;exact⟨rfl,i+1,s[i+1],rfl,by omega,hlt2,by rw[<-hs];simp,hes⟩
   ·have ec:s[i]≠92:=λh=>e (by rw[h];rfl);refine⟨rfl,i,s[i],rfl,aZ _,hlt,?_,?_⟩
    ·rw[<-hs];cases hr:s.drop (i+1)with
     |nil=>simp only[jR];rw[aL ec];simp
     |cons x r=>simp only[jR];rw[aL ec];simp
    ·cases hr:s.drop (i+1)with
     |nil=>rfl
     |cons x r=>rw[hr]at hes;simp only[sV]at hes;rw[aL ec]at hes;exact hes
  rintro st g2 w3 ⟨rfl,j,c,rfl,hij,hj,he1,he2⟩;simp only[aC,bO];refine Ck (n:=c.toNat) hB2 hz2 (by omega) (pJ c) λw4 hB4 hc4=>?_;rw[cJ,upi (by omega)];rw[qI]at hB4;exact fin (l:=[]) c hc4 hB4 hij hj he1 he2
 ·obtain rfl:i=s.length:=by omega
  rw[gU]at hs;simp only[jR,fX]at hs;subst hs;refine FM hB2 hz2 λw3 hc3=>?_;exact hK w3 (hx2.then hc3 λk hk e=>by omega)
end
end
end Go.Proofs.YtjblfcfdeaagpaaGreatDoor
