/- One plain sentence: contracts and plain laws that the claim rests on. Conditions: those that each states. -/
import Derived.Test.YtghhmpppnmoeoaaGreatDoorXSteps2
import Derived.Test.YtghhmpppnmoeoaaGreatDoorXSteps3
import Derived.Test.YtghhmpppnmoeoaaGreatDoorXSteps4
set_option linter.all false
set_option linter.unusedSimpArgs false
set_option linter.unusedVariables false
set_option linter.unusedSectionVars false
set_option maxRecDepth 100000
namespace Go.Eng
section
open Go
variable{w:World}{K:Q0}{cs:List Value}{G:Nat->Prop}{T:TypeId}{i:Nat}{n:Nat}{v:Value}{w':World}{P:Program}{c:UInt8}{S:Nat->Prop}
abbrev Ent:=Str×Value×Nat
def mkE(x:Ent):MapEntry:={key:=str x.1,val:=x.2.1,born:=x.2.2}
def vS(l:List Ent):List MapEntry:=l.map mkE
def jT:List Ent->Str->Option Value
 |[],_=>none
 |x::m,k=>if k=x.1 then some x.2.1 else jT m k
def zI(w:World)(b:Nat)(look:Str->Option Value):Prop:=
 ∃l n,w.heap[b]?=some (.map (vS l).toArray n)/\(l.map (·.1)).Nodup/\∀s,jT l s=look s
theorem rN{k:Str}:∀{l:List Ent},jT l k=none↔k∉l.map (·.1)
 |[]=>by simp[jT]
 |x::m=>by
  unfold jT
  by_cases h:k=x.1
  ·rw[aH h];simp[h]
  ·rw[aD h,rN (l:=m)];simp[h]
theorem qS{k:Str}:∀(l m:List Ent),jT (l++m) k=match jT l k with|some v=>some v|none=>jT m k
 |[],m=>rfl
 |x::l,m=>by
  simp only[dG,jT]
  by_cases h:k=x.1
  ·rw[aH h,aH h]
  ·rw[aD h,aD h,qS l m]
theorem Fj{α:Type}(f:α->α):∀(a:List α) (x:α) (c:List α),(a++x::c).modify a.length f=a++f x::c
 |[],x,c=>rfl
 |y::a,x,c=>by
  have:=Fj f a x c
  simp only[dG,aA,List.modify_succ_cons,this]
theorem Hw(k a:Str):Instr.sameNow .string (str k) (str a)=some (decide (k=a)):=by
 have hs:Instr.sameNow .string (str k) (str a)=some (ofL k==ofL a):=rfl;rw[hs];by_cases h:k=a
 ·subst h;rw[(MapKept.bytes_beq (ofL k) (ofL k)).2 rfl];simp
 ·have hne:(ofL k==ofL a)=false:=by
   cases hc:(ofL k==ofL a)with
   |false=>rfl
   |true=>exact absurd (Lm.1 ((MapKept.bytes_beq _ _).1 hc)) h
  rw[hne];simp[h]
theorem rS(k:Str):∀(l:List Ent) (j:Nat),(jT l k=none->Instr.findNow .string (str k) (vS l) j=some none)/\
  ∀v,jT l k=some v->∃a b c,l=a++(k,v,b)::c/\k∉a.map (·.1)/\Instr.findNow .string (str k) (vS l) j=some (some (j+a.length,v))
 |[],j=>⟨λ_=>rfl,λv h=>by cases h⟩
 |(a,x,n)::m,j=>by
  by_cases h:k=a
  ·subst h
   refine⟨λe=>by simp[jT]at e,λv e=>?_⟩
   simp only[jT,gU,bD]at e
   subst e
   refine⟨[],n,m,rfl,by simp,?_⟩
   simp only[vS,dT,mkE,Instr.findNow,Hw,aK,aL,fA]
  ·obtain⟨h1,h2⟩:=rS k m (j+1)
   have hf:Instr.findNow .string (str k) (vS ((a,x,n)::m)) j=Instr.findNow .string (str k) (vS m) (j+1):=by
    simp only[vS,dT,mkE,Instr.findNow,Hw,bZ h]
   rw[hf];simp only[jT,aD h];refine⟨h1,λv e=>?_⟩;obtain⟨a',b',c',r1,r2,r3⟩:=h2 v e;refine⟨(a,x,n)::a',b',c',by rw[r1];rfl,by simp[h,r2],?_⟩;rw[r3,aA];congr 3;omega
section
variable{P:Program}{T KT ET:TypeId}{w:World}{look:Str->Option Value}
theorem zI.at_{b:Nat}(h:zI w b look)(hc:Chg S w w')(hS:¬S b):zI w' b look:=by
 obtain⟨l,n,h1,h2⟩:=h;exact⟨l,n,hc.at h1 hS,h2⟩
theorem zI.lt{b:Nat}(h:zI w b look):b<w.heap.size:=by obtain⟨l,n,h1,h2⟩:=h;exact eW h1
theorem zI.congr{b:Nat}{look':Str->Option Value}(h:zI w b look)(he:∀s,look s=look' s):zI w b look':=by
 obtain⟨l,n,h1,h2,h3⟩:=h;exact⟨l,n,h1,h2,λs=>(h3 s).trans (he s)⟩
theorem Pg{b:Nat}(h:Jq w b []):zI w b λ_=>none:=⟨[],0,h,List.nodup_nil,λ_=>rfl⟩
theorem Df{b:Nat}{k:Str}{z:Value}{K:Value->Prop}(hT:P.underlying T=some (.map KT ET))(hKT:P.underlying KT=some .string)(hz:BA P ET=some z)(hb:zI w b look)
  (h1:∀v,look k=some v->K (.tuple #[v,.bool true]))(h0:look k=none->K (.tuple #[z,.bool false])):mS P (Instr.lookup T (.map (some b)) (str k) true) w K:=by
 obtain⟨l,n,hb,hn,hl⟩:=hb;rw[<-hl]at h1 h0;cases he:jT l k with
 |none=>
  refine⟨_,?_,h0 he⟩;simp only[Instr.lookup,run_bind,bH hT,MapKept.run_getObj_map hb,run_pure,MapKept.run_checkKey hKT (show MapKept.IsKey .string (str k)from trivial),MapKept.run_findKey hKT ((rS k l 0).1 he),qM hz,gU]
 |some v=>
  obtain⟨a,b',c,e1,e2,hf⟩:=(rS k l 0).2 v he;refine⟨_,?_,h1 v he⟩;simp only[Instr.lookup,run_bind,bH hT,MapKept.run_getObj_map hb,run_pure,MapKept.run_checkKey hKT (show MapKept.IsKey .string (str k)from trivial),MapKept.run_findKey hKT hf,gU]
theorem Cl{b:Nat}{o o':Obj}(hb:w.heap[b]?=some o):Chg (λq=>q=b) w {w with heap:=w.heap.setIfInBounds b o'}:=
 ⟨rfl,rfl,rfl,by simp,λq _ hq=>(MapKept.heap_set hb).2 q hq⟩
theorem Pf{b:Nat}{k:Str}{K:World->Prop}(hT:P.underlying T=some (.map KT ET))(hKT:P.underlying KT=some .string)(hb:zI w b look)
  (hK:∀w',w'.heap.size=w.heap.size->zI w' b (λs=>if s=k then some v else look s)->Chg (λq=>q=b) w w'->K w'):mR P (Instr.mapUpdate T (.map (some b)) (str k) v) w K:=by
 obtain⟨l,n,hb,hn,hl⟩:=hb;cases he:jT l k with
 |none=>
  have hf:=(rS k l 0).1 he;have hrun:(Instr.mapUpdate T (.map (some b)) (str k) v).run P w=.ok () {w with heap:=w.heap.setIfInBounds b (.map ((vS l).toArray.push {key:=str k,val:=v,born:=n}) (n+1))}:=by
   simp only[Instr.mapUpdate,run_bind,bH hT,MapKept.run_getObj_map hb,MapKept.run_checkKey hKT (show MapKept.IsKey .string (str k)from trivial),MapKept.run_findKey hKT hf,MapKept.run_setObj_map _ hb]
  unfold mR;rw[hrun];refine hK _ (by simp) ⟨l++[(k,v,n)],n+1,?_,?_,λs=>?_⟩ (Cl hb)
  ·show(w.heap.setIfInBounds b _)[b]?=_;rw[(MapKept.heap_set hb).1];simp[vS,mkE]
  ·rw[pY,fC];refine⟨hn,by simp,λx hx y hy=>?_⟩;have:=rN.1 he;simp only[dT,nK,bR]at hy;subst hy;rintro rfl;exact this hx
  ·show jT _ s=if s=k then some v else look s;rw[qS,<-hl];by_cases hs:s=k
   ·subst hs;rw[he,aH rfl];simp[jT]
   ·rw[aD hs];cases jT l s with
    |none=>simp[jT,hs]
    |some x=>rfl
 |some u=>
  obtain⟨a,m,c,e1,e2,hf⟩:=(rS k l 0).2 u he;rw[aX]at hf;have hg:(vS l).toArray[a.length]?=some {key:=str k,val:=u,born:=m}:=by
   rw[e1];simp[vS,mkE]
  have hrun:(Instr.mapUpdate T (.map (some b)) (str k) v).run P w=.ok () {w with heap:=w.heap.setIfInBounds b (.map ((vS l).toArray.modify a.length λe=>{e with key:=str k,val:=v}) n)}:=by
   have hkt:=MapKept.run_keyThatStays (P:=P) (w:=w) (d:=.string) (k:=str k) trivial;simp only[Instr.mapUpdate,run_bind,bH hT,MapKept.run_getObj_map hb,MapKept.run_checkKey hKT (show MapKept.IsKey .string (str k)from trivial),MapKept.run_findKey hKT hf,hg,gZ,Az,hkt,MapKept.run_setObj_map _ hb]
  unfold mR;rw[hrun];refine hK _ (by simp) ⟨a++(k,v,m)::c,n,?_,?_,λs=>?_⟩ (Cl hb)
  ·show(w.heap.setIfInBounds b _)[b]?=_;rw[(MapKept.heap_set hb).1,e1];congr 2;apply AC;rw[Array.toList_modify];simp only[vS,pY,dT];have:=Fj (λe:MapEntry=>{e with key:=str k,val:=v}) (a.map mkE) (mkE (k,u,m)) (c.map mkE);rw[lC]at this;exact this
  ·rw[e1]at hn;simpa using hn
  ·show jT _ s=if s=k then some v else look s;rw[<-hl,e1,qS,qS];by_cases hs:s=k
   ·subst hs;rw[aH rfl,rN.2 e2];simp[jT]
   ·rw[aD hs];cases jT a s with
    |none=>simp[jT,hs]
    |some x=>rfl
theorem Ph{b:Nat}{k:Str}{ty:TypeId}{K:Q0}(hT:P.underlying T=some (.map KT ET))(hKT:P.underlying KT=some .string)(hb:zI w b look)
  (hK:∀w',w'.heap.size=w.heap.size->zI w' b (λs=>if s=k then none else look s)->Chg (λq=>q=b) w w'->K (.tuple #[]) w'):dY P (Builtin.delete_ #[T,KT] ty #[.map (some b),str k]) w K:=by
 obtain⟨l,n,hb,hn,hl⟩:=hb;cases he:jT l k with
 |none=>
  have hf:=(rS k l 0).1 he;have hrun:(Builtin.delete_ #[T,KT] ty #[.map (some b),str k]).run P w=.ok (.tuple #[]) {w with heap:=w.heap.setIfInBounds b (.map (vS l).toArray n)}:=by
   simp[Builtin.delete_,run_bind,bH hT,MapKept.run_getObj_map hb,MapKept.run_checkKey hKT (show MapKept.IsKey .string (str k)from trivial),MapKept.run_findKey hKT hf,MapKept.run_setObj_map _ hb,Result.andThen]
  unfold dY;rw[hrun];refine hK _ (by simp) ⟨l,n,(MapKept.heap_set hb).1,hn,λs=>?_⟩ (Cl hb);show jT _ s=if s=k then none else look s;rw[<-hl];by_cases hs:s=k
  ·subst hs;rw[aH rfl,he]
  ·rw[aD hs]
 |some u=>
  obtain⟨a,m,c,e1,e2,hf⟩:=(rS k l 0).2 u he;rw[aX]at hf;have hrun:(Builtin.delete_ #[T,KT] ty #[.map (some b),str k]).run P w=.ok (.tuple #[]) {w with heap:=w.heap.setIfInBounds b (.map ((vS l).toArray.eraseIdxIfInBounds a.length) n)}:=by
   simp[Builtin.delete_,run_bind,bH hT,MapKept.run_getObj_map hb,MapKept.run_checkKey hKT (show MapKept.IsKey .string (str k)from trivial),MapKept.run_findKey hKT hf,MapKept.run_setObj_map _ hb,Result.andThen]
  unfold dY;rw[hrun];rw[e1]at hn;rw[pY,fC]at hn;obtain⟨n1,n2,n3⟩:=hn;rw[dT,iS]at n2;refine hK _ (by simp) ⟨a++c,n,?_,?_,λs=>?_⟩ (Cl hb)
  ·show(w.heap.setIfInBounds b _)[b]?=_;rw[(MapKept.heap_set hb).1,e1];congr 2;have hlt:a.length<(vS (a++(k,u,m)::c)).toArray.size:=by simp[vS]
   unfold Array.eraseIdxIfInBounds;rw[dif_pos hlt];apply AC;rw[Array.toList_eraseIdx];simp only[vS,pY,dT];rw[List.eraseIdx_append_of_length_le (by simp)];simp
  ·rw[pY,fC];exact⟨n1,n2.2,λx hx y hy=>n3 x hx y (aS _ hy)⟩
  ·show jT _ s=if s=k then none else look s;rw[<-hl,e1,qS,qS];by_cases hs:s=k
   ·subst hs;rw[aH rfl,rN.2 e2,rN.2 n2.1]
   ·rw[aD hs];cases jT a s with
    |none=>simp[jT,hs]
    |some x=>rfl
end
end
section
open Go Go.Num Go.Syn
variable{w:World}{K:Q0}{cs:List Value}{G:Nat->Prop}{T:TypeId}{i:Nat}{n:Nat}{v:Value}{w':World}{P:Program}{c:UInt8}{S:Nat->Prop}
structure jK(ex:List Ex)(i:Nat)(env:Env)(v:JV)(s:Nat):Prop where
 ok:∀left,s<=left->sG ex (i+1) i env left=.ok v (left-s)
 no:∀left,left<s->∃a,sG ex (i+1) i env left=.err 3 a
inductive Gc (ex:List Ex) (env:Env):List Nat->List JV->Nat->Prop where
 |nil:Gc ex env [] [] 0
 |cons {a:Nat} {ags:List Nat} {v:JV} {vs:List JV} {s t:Nat}:jK ex a env v s->Gc ex env ags vs t->Gc ex env (a::ags) (v::vs) (s+t)
abbrev vQ(ex:List Ex):Nat->Env->Nat->EvR JV:=λa env l=>sG ex (a+1) a env l
theorem Dj{ex:List Ex}{env:Env}{ags:List Nat}{vs:List JV}{s:Nat}(h:Gc ex env ags vs s):(∀left,s<=left->oQ (vQ ex) env ags left=.ok vs (left-s))/\(∀left,left<s->∃a,oQ (vQ ex) env ags left=.err 3 a):=by
 induction h with
 |nil=>exact⟨λleft _=>rfl,λleft h=>by omega⟩
 |@cons a ags v vs s t h1 h2 ih=>
  refine⟨λleft hl=>?_,λleft hl=>?_⟩
  ·unfold oQ;show EvR.bind (sG ex (a+1) a env left) _=_;rw[h1.ok left (by omega)];show EvR.bind (oQ (vQ ex) env ags (left-s)) _=_;rw[ih.1 _ (by omega)];show EvR.ok _ _=_;congr 1;omega
  ·unfold oQ;show∃b,EvR.bind (sG ex (a+1) a env left) _=_;by_cases hs:left<s
   ·obtain⟨b,hb⟩:=h1.no left hs;rw[hb];exact⟨b,rfl⟩
   ·rw[h1.ok left (by omega)];obtain⟨b,hb⟩:=ih.2 (left-s) (by omega);refine⟨b,?_⟩;show EvR.bind (oQ (vQ ex) env ags (left-s)) _=_;rw[hb];rfl
theorem EL{ex:List Ex}{s:Nat}{e:Ex}{env:Env}{v:JV}(hE:sE ex)(he:ex[i]?=some e)(hg:dL v=true)
  (h1:∀left,s<=left->rZ (vQ ex) ex e env left=.ok v (left-s))(h2:∀left,left<s->∃a,rZ (vQ ex) ex e env left=.err 3 a):jK ex i env v (s+1):=by
 refine⟨λleft hl=>?_,λleft hl=>?_⟩
 ·rw[xC hE he (dP _)];unfold wC;rw[aD (by omega)];show EvR.bind (rZ (vQ ex) ex e env (left-1)) _=_;rw[h1 (left-1) (by omega)];show(if dL v=true then EvR.ok v (left-1-s)else _)=_;rw[aH hg];congr 1;omega
 ·rw[xC hE he (dP _)];unfold wC;by_cases h0:left=0
  ·exact⟨e.a,by rw[aH h0]⟩
  ·obtain⟨a,ha⟩:=h2 (left-1) (by omega);refine⟨a,?_⟩;rw[aD h0];show EvR.bind (rZ (vQ ex) ex e env (left-1)) _=_;rw[ha];rfl
theorem xG{ex:List Ex}{s:Nat}{e:Ex}{env:Env}{vs:List JV}{v:JV}(hE:sE ex)(he:ex[i]?=some e)(h28:e.k≠28)(h29:e.k≠29)(hl:Gc ex env e.args vs s)(hm:nS ex e env vs=.ok v)(hg:dL v=true):jK ex i env v (s+1):=by
 obtain⟨h1,h2⟩:=Dj hl;refine EL hE he hg (λleft hle=>?_) λleft hlt=>?_
 ·unfold rZ;rw[aD h28,aD h29,h1 left hle];show(nS ex e env vs).at_ _=_;rw[hm];rfl
 ·unfold rZ;rw[aD h28,aD h29];obtain⟨a,ha⟩:=h2 left hlt;exact⟨a,by rw[ha];rfl⟩
inductive xB (ex:List Ex) (env:Env) (t:Str) (i:Nat):List JV->List JV->Nat->Prop where
 |nil:xB ex env t i [] [] 0
 |cons {x v:JV} {xs vs:List JV} {s n:Nat}:jK ex i (env.set t x) v s->xB ex env t i xs vs n->xB ex env t i (x::xs) (v::vs) (s+n)
theorem Kd{ex:List Ex}{env:Env}{t:Str}{xs vs:List JV}{s:Nat}(h:xB ex env t i xs vs s):(∀left,s<=left->mV (vQ ex) env t i xs left=.ok vs (left-s))/\(∀left,left<s->∃a,mV (vQ ex) env t i xs left=.err 3 a):=by
 induction h with
 |nil=>exact⟨λleft _=>rfl,λleft h=>by omega⟩
 |@cons x v xs vs s n h1 h2 ih=>
  refine⟨λleft hl=>?_,λleft hl=>?_⟩
  ·unfold mV;show EvR.bind (sG ex (i+1) i (env.set t x) left) _=_;rw[h1.ok left (by omega)];show EvR.bind (mV (vQ ex) env t i xs (left-s)) _=_;rw[ih.1 _ (by omega)];show EvR.ok _ _=_;congr 1;omega
  ·unfold mV;show∃b,EvR.bind (sG ex (i+1) i (env.set t x) left) _=_;by_cases hs:left<s
   ·obtain⟨b,hb⟩:=h1.no left hs;rw[hb];exact⟨b,rfl⟩
   ·rw[h1.ok left (by omega)];obtain⟨b,hb⟩:=ih.2 (left-s) (by omega);refine⟨b,?_⟩;show EvR.bind (mV (vQ ex) env t i xs (left-s)) _=_;rw[hb];rfl
theorem zV{ex:List Ex}{env:Env}{t:Str}{i c:Nat}(g:JV->JV):∀{xs:List JV},(∀x∈xs,jK ex i (env.set t x) (g x) c)->xB ex env t i xs (xs.map g) (c*xs.length)
 |[],_=>by simpa using xB.nil
 |x::xs,h=>by
  have:=xB.cons (h x (by simp)) (zV g λy hy=>h y (aS _ hy))
  rw[aA,Nat.mul_succ,pP]
  exact this
theorem CO{ex:List Ex}{s l b:Nat}{e:Ex}{env:Env}{xs vs:List JV}(hE:sE ex)(he:ex[i]?=some e)(h29:e.k=29)(ha:e.args=[l,b])(hl:jK ex l env (lV xs) s)(hb:xB ex env e.t b xs vs n)(hg:dL (lV vs)=true):jK ex i env (lV vs) (s+n+1):=by
 have e0:pX e 0=l:=by unfold pX;rw[ha];rfl
 have e1:pX e 1=b:=by unfold pX;rw[ha];rfl
 obtain⟨h1,h2⟩:=Kd hb;have hbody:∀left,rZ (vQ ex) ex e env left=(vQ ex l env left).bind λc q=>if c.k=1 then .ok c q else if c.k≠5 then .err 81 e.a else(mV (vQ ex) env e.t b c.xs q).bind λvs q'=>.ok (lV vs) q':=λleft=>by
  unfold rZ PO;rw[aD (by omega),aH h29,e0,e1]
 refine EL hE he hg (λleft hle=>?_) λleft hlt=>?_
 ·rw[hbody];show EvR.bind (sG ex (l+1) l env left) _=_;rw[hl.ok left (by omega)];show EvR.bind (mV (vQ ex) env e.t b xs (left-s)) _=_;rw[h1 _ (by omega)];show EvR.ok _ _=_;congr 1;omega
 ·rw[hbody];show∃q,EvR.bind (sG ex (l+1) l env left) _=_;by_cases hs:left<s
  ·obtain⟨q,hq⟩:=hl.no left hs;rw[hq];exact⟨q,rfl⟩
  ·rw[hl.ok left (by omega)];obtain⟨q,hq⟩:=h2 (left-s) (by omega);refine⟨q,?_⟩;show EvR.bind (mV (vQ ex) env e.t b xs (left-s)) _=_;rw[hq];rfl
theorem Be{f:Fl}{s:Nat}{scope v:JV}(h:jK f.ex i (rV scope.ks scope.xs) v s)(hs:s<=20000):vP f i scope=.ok v:=by
 unfold vP;rw[h.ok 20000 hs]
def IH:Nat->List Ex->Bool
 |_,[]=>true
 |i,e::r=>e.args.all (λa=>decide (a<i))&&(!decide (e.k=28)||decide (3<=e.args.length))&&(!decide (e.k=29)||decide (2<=e.args.length))&&IH (i+1) r
theorem xS:∀{l:List Ex} {j:Nat},IH j l=true->∀(i:Nat) (e:Ex),l[i]?=some e->(∀a∈e.args,a<j+i)/\(e.k=28->3<=e.args.length)/\(e.k=29->2<=e.args.length)
 |[],_,_,i,e,he=>by simp at he
 |x::r,j,h,0,e,he=>by
  simp only[List.getElem?_cons_zero,bD]at he
  subst he
  simp only[IH,aJ,bN,bB,cM,dO,decide_eq_false_iff_not]at h
  exact⟨h.1.1.1,λhk=>h.1.1.2.resolve_left λhn=>hn hk,λhk=>h.1.2.resolve_left λhn=>hn hk⟩
 |x::r,j,h,i+1,e,he=>by
  rw[List.getElem?_cons_succ]at he
  simp only[IH,aJ]at h
  obtain⟨h1,h2⟩:=xS h.2 i e he
  exact⟨λa ha=>by have:=h1 a ha;omega,h2⟩
theorem tF{l:List Ex}(h:IH 0 l=true):sE l:=by
 refine⟨λi e he a ha=>?_,λe he hk=>?_,λe he hk=>?_⟩
 ·have:=(xS h i e he).1 a ha;omega
 ·obtain⟨i,hi⟩:=List.getElem?_of_mem he;exact(xS h i e hi).2.1 hk
 ·obtain⟨i,hi⟩:=List.getElem?_of_mem he;exact(xS h i e hi).2.2 hk
theorem NA(v:JV):mP v=1+lO v.xs:=by cases v;simp only[mP,JV.xs]
theorem Ol:∀(xs:List JV),(∀x∈xs,mP x<=2000->pJ x=mP x)->∀n:Int,1<=n->n+(lO xs:Int)<=2000->kO xs n=n+lO xs
 |[],_,n,_,_=>by simp[kO,lO]
 |x::xs,h,n,h1,h2=>by
  simp only[lO]at h2
  have hx:=h x (by simp) (by omega)
  simp only[kO,lO]
  rw[aH (by omega),hx,cK (by omega) (by omega),Ol xs (λy hy=>h y (aS _ hy)) _ (by omega) (by omega)]
  omega
theorem aAT(v:JV):mP v<=2000->pJ v=mP v:=by
 refine JV.ind' (p:=λv=>mP v<=2000->pJ v=mP v) (λv ih h=>?_) v;rw[NA]at h;rw[uA,Ol v.xs ih 1 (by omega) (by omega),NA];omega
theorem PK{v:JV}(hd:oL v 24=true)(hc:mP v<=2000)(hp:oD v=true):dL v=true:=by
 unfold dL;rw[hd,hp,kI,kI,bB,aAT v hc];omega
theorem YX(b:Bool):dL (bV b)=true:=by cases b<;>decide
theorem LD{s:Str}(h:goodN s=true):dL (nV s)=true:=by
 refine PK rfl (by rw[NA];simp[lO,JV.xs]) ?_;rw[lG];simp[mO,JV.k,JV.b,JV.t,JV.ks,JV.xs,iQ,oF,h]
theorem LC{s:Str}(h:s.length<=16384):dL (tV s)=true:=by
 refine PK rfl (by rw[NA];simp[lO,JV.xs]) ?_;rw[lG];simp[mO,JV.k,JV.b,JV.t,JV.ks,JV.xs,iQ,oF,h]
theorem Ct{n:Int}(h:n.natAbs<10^100):dL (iV n)=true:=LD (zD h)
theorem OL{v:JV}(h:dL v=true):oD v=true:=by unfold dL at h;simp only[aJ]at h;exact h.2
theorem Tq{n:Int}(h:n.natAbs<10^100):oD (iV n)=true:=OL (Ct h)
theorem Lq(s:Str):iP (nV s)=true:=by rw[AX];rfl
section
variable{ex:List Ex}{env:Env}{i:Nat}{e:Ex}
theorem CP(hE:sE ex)(he:ex[i]?=some e)(h28:e.k≠28)(h29:e.k≠29)(ha:e.args=[]){v:JV}(hm:nS ex e env []=.ok v)(hg:dL v=true):jK ex i env v 1:=
 xG hE he h28 h29 (by rw[ha];exact .nil) hm hg
theorem aAU(hE:sE ex)(he:ex[i]?=some e)(h28:e.k≠28)(h29:e.k≠29){a s:Nat}(ha:e.args=[a]){x v:JV}(h:jK ex a env x s)(hm:nS ex e env [x]=.ok v)(hg:dL v=true):jK ex i env v (s+1):=
 xG hE he h28 h29 (s:=s) (by rw[ha];exact .cons h .nil) hm hg
theorem WG(hE:sE ex)(he:ex[i]?=some e)(h28:e.k≠28)(h29:e.k≠29){a b s t:Nat}(ha:e.args=[a,b]){x y v:JV}(h:jK ex a env x s)(h':jK ex b env y t)(hm:nS ex e env [x,y]=.ok v)(hg:dL v=true):jK ex i env v (s+t+1):=
 xG hE he h28 h29 (s:=s+t) (by rw[ha];exact .cons h (.cons h' .nil)) hm hg
theorem MW{v:JV}{l:List JV}(hk:e.k=9)(h:env e.t=some v):nS ex e env l=.ok v:=by
 unfold nS;simp[hk,h]
theorem MD{v:JV}(hE:sE ex)(he:ex[i]?=some e)(hk:e.k=9)(ha:e.args=[])(h:env e.t=some v)(hg:dL v=true):jK ex i env v 1:=
 CP hE he (by omega) (by omega) ha (MW hk h) hg
theorem Pi{l:List JV}(hk:e.k=4):nS ex e env l=.ok (nV e.t):=by unfold nS;simp[hk]
theorem wH(hE:sE ex)(he:ex[i]?=some e)(hk:e.k=4)(ha:e.args=[]){n:Int}(hg:goodN e.t=true)(hn:num e.t=n):jK ex i env (iV n) 1:=by
 have h:Lib.itoa n=e.t:=by rw[<-hn];exact MZ hg
 show jK ex i env (nV (Lib.itoa n)) 1;rw[h];exact CP hE he (by omega) (by omega) ha (Pi hk) (LD hg)
theorem MC(hE:sE ex)(he:ex[i]?=some e)(hk:e.k=2)(ha:e.args=[]):jK ex i env (bV true) 1:=
 CP hE he (by omega) (by omega) ha (by unfold nS;simp[hk]) (YX _)
theorem Ij{x y:Int}(hk:15<=e.k/\e.k<=19\/22<=e.k/\e.k<=25):nS ex e env [iV x,iV y]=If e.k e.a (iV x) (iV y):=by
 unfold nS;have n1:e.k≠1:=by omega
 have n2:¬(e.k=2\/e.k=3):=by omega
 have n4:e.k≠4:=by omega
 have n5:e.k≠5:=by omega
 have n9:e.k≠9:=by omega
 have n6:e.k≠6:=by omega
 have n7:e.k≠7:=by omega
 have n8:e.k≠8:=by omega
 have n10:e.k≠10:=by omega
 have n30:e.k≠30:=by omega
 have n11:e.k≠11:=by omega
 have n12:e.k≠12:=by omega
 have n13:¬(e.k=13\/e.k=14):=by omega
 have n20:¬(e.k=20\/e.k=21):=by omega
 have n26:¬(e.k=26\/e.k=27):=by omega
 rw[aD n1,aD n2,aD n4,aD n5,aD n9,aD n6,aD n7,aD n8,aD n10,aD n30,aD n11,aD n12,aD n13,aD n20,aD n26];rfl
theorem La{n:Int}(h:n.natAbs<10^100):gK n=(Lib.itoa n,0):=by
 unfold gK;rw[wS,aD];have:=zF 100 n.natAbs h (by omega);omega
theorem Ie(k a x y:Int):If k a (iV x) (iV y)=if k=22 then .ok (bV (decide (wV (Lib.itoa x) (Lib.itoa y)<0)))
  else if k=23 then .ok (bV (decide (0<wV (Lib.itoa x) (Lib.itoa y))))
  else if k=24 then .ok (bV (decide (wV (Lib.itoa x) (Lib.itoa y)<=0)))
  else if k=25 then .ok (bV (decide (0<=wV (Lib.itoa x) (Lib.itoa y))))
  else if k=15 then vR a (gK (x+y))
  else if k=16 then vR a (gK (x-y))
  else if k=17 then vR a (gK (x*y))
  else if k=18 then vR a (DO (Lib.itoa x) (Lib.itoa y))
  else if k=19 then vR a (Ef (Lib.itoa x) (Lib.itoa y))
  else .ok (nV []):=by
 show(if(fU 3 (iV x)&&fU 3 (iV y))=true then _ else _)=_;rw[aH (show(fU 3 (iV x)&&fU 3 (iV y))=true from rfl)];simp only[JV.t,AS];rfl
theorem Ow{x y:Int}{a b s t:Nat}(hE:sE ex)(he:ex[i]?=some e)(hk:e.k=15)(ha:e.args=[a,b])(h:jK ex a env (iV x) s)(h':jK ex b env (iV y) t)(hb:(x+y).natAbs<10^100):jK ex i env (iV (x+y)) (s+t+1):=
 WG hE he (by omega) (by omega) ha h h' (by rw[Ij (by omega),Ie,hk,La hb];rfl) (Ct hb)
theorem Ov{x y:Int}{a b s t:Nat}(hE:sE ex)(he:ex[i]?=some e)(hk:e.k=17)(ha:e.args=[a,b])(h:jK ex a env (iV x) s)(h':jK ex b env (iV y) t)(hb:(x*y).natAbs<10^100):jK ex i env (iV (x*y)) (s+t+1):=
 WG hE he (by omega) (by omega) ha h h' (by rw[Ij (by omega),Ie,hk,La hb];rfl) (Ct hb)
theorem MX{l:List JV}(hk:e.k=12):nS ex e env l=if(pM e.t l).2=0 then .ok (pM e.t l).1 else .err (pM e.t l).2 e.a:=by unfold nS;simp[hk]
theorem Qn{name:Str}{a:List JV}{f:FnM}{v:JV}(hl:BG fnT name=some f)(hg:∀x∈a,dL x=true)(hk:∀x∈a,iP x=true)(hf:wQ f a=true)(ha:f.act a=some v)(hv:dL v=true):pM name a=(v,0):=by
 unfold pM;have h1:a.any (λx=> !dL x)=false:=by rw[nL];intro x hx;simp[hg x hx]
 have h2:a.any (λx=> !iP x)=false:=by rw[nL];intro x hx;simp[hk x hx]
 rw[h1,hl];simp only[iX,nG,h2,hf,jO,ha,hv,gU]
theorem yS{a s:Nat}{x v:JV}{f:FnM}(hE:sE ex)(he:ex[i]?=some e)(hk:e.k=12)(ha:e.args=[a])(h:jK ex a env x s)(hl:BG fnT e.t=some f)(hg:dL x=true)(hkn:iP x=true)(hf:wQ f [x]=true)(hact:f.act [x]=some v)(hv:dL v=true):jK ex i env v (s+1):=
 aAU hE he (by omega) (by omega) ha h (by
  rw[MX hk,Qn hl (λz hz=>by rw[bR.1 hz];exact hg) (λz hz=>by rw[bR.1 hz];exact hkn) hf hact hv]
  rfl) hv
end
def BB(s:Str):Str:=[97,32,123,10,32,32,120,32,61,32]++s++[10,125]
def IG:List Ex:=[⟨4,[49],[],[],10⟩,⟨4,[50],[],[],14⟩,⟨4,[51],[],[],18⟩,⟨17,[],[1,2],[],16⟩,⟨15,[],[0,3],[],12⟩]
def WB:Str:=[49,32,43,32,50,32,42,32,51]
theorem aA0:Go.Syn.parseM (BB WB)=.ok ⟨IG,[⟨[97],[],[⟨[120],4,6⟩],[],0⟩],[0]⟩:=by decide+kernel
def BU:List Ex:=[⟨5,[97],[],[],11⟩,⟨4,[49],[],[],14⟩,⟨2,[],[],[],18⟩,⟨6,[],[0,1,2],[[116],[101],[101]],10⟩]
def WA:Str:=[34,97,36,123,49,125,36,123,116,114,117,101,125,34]
theorem aAZ:Go.Syn.parseM (BB WA)=.ok ⟨BU,[⟨[97],[],[⟨[120],3,6⟩],[],0⟩],[0]⟩:=by decide+kernel
def DK:List Ex:=[⟨4,[49],[],[],10⟩,⟨4,[48],[],[],14⟩,⟨18,[],[0,1],[],12⟩]
def Wz:Str:=[49,32,47,32,48]
theorem aAY:Go.Syn.parseM (BB Wz)=.ok ⟨DK,[⟨[97],[],[⟨[120],2,6⟩],[],0⟩],[0]⟩:=by decide+kernel
theorem Nn{xs:List JV}(hd:∀x∈xs,oL x 23=true)(hp:∀x∈xs,oD x=true)(hc:1+lO xs<=2000):dL (lV xs)=true:=by
 refine PK ?_ (by rw[NA];exact hc) ?_
 ·rw[show(24:Nat)=23+1 from rfl,kR,mD,bN];exact hd
 ·rw[lG];have:oF (lV xs).xs=true:=by rw[rG,bN];exact hp
  rw[this];simp[mO,JV.k,JV.b,JV.t,JV.ks,JV.xs,iQ]
theorem Ny{v:JV}(h:v.xs=[])(m:Nat):oL v (m+1)=true:=by rw[kR,h];rfl
theorem FM:∀{xs:List JV},(∀x∈xs,x.xs=[])->lO xs=xs.length
 |[],_=>rfl
 |x::xs,h=>by
  rw[lO,NA,h x (by simp),FM λy hy=>h y (aS _ hy),aA]
  simp[lO];omega
theorem Fz{l:List Int}(h:∀n∈l,n.natAbs<10^100)(hl:l.length<=1999):dL (lV (l.map λn=>iV n))=true:=by
 refine Nn (λx hx=>?_) (λx hx=>?_) ?_
 ·obtain⟨n,_,rfl⟩:=kH.1 hx;exact Ny rfl _
 ·obtain⟨n,hn,rfl⟩:=kH.1 hx;exact Tq (h n hn)
 ·rw[FM (λx hx=>by obtain⟨n,_,rfl⟩:=kH.1 hx;rfl),lC];omega
theorem Ls{xs:List JV}(h:∀x∈xs,iP x=true):iP (lV xs)=true:=by
 rw[AX,Dq];show(true&&xs.all iP)=true;rw[iA,bN];exact h
theorem TR(l:List Int):iP (lV (l.map λn=>iV n))=true:=Ls λx hx=>by obtain⟨n,_,rfl⟩:=kH.1 hx;exact Lq _
theorem Gb(h:n<=32):rR.act [iV (n:Nat)]=some (lV ((List.range n).map λi:Nat=>iV (i:Int))):=by
 show yW (Lib.itoa (n:Nat))=_;unfold yW;have hd:dec (Lib.itoa (n:Nat))=n:=by
  unfold Lib.itoa;rw[aD (by omega),aV,DR _ n (dP _)]
 rw[Ic,hd,bZ (show¬((n:Nat):Int)<0 by omega),bZ (show¬32<n by omega)];rfl
theorem vD(h:n<=32):dL (lV ((List.range n).map λi:Nat=>iV (i:Int)))=true:=by
 have:=Fz (l:=(List.range n).map λi:Nat=>(i:Int)) (λz hz=>by
  obtain⟨i,hi,rfl⟩:=kH.1 hz;have:=mH.1 hi;omega) (by simp;omega)
 rwa[List.map_map]at this
theorem KS(xs:List JV):qV.act [lV xs]=some (iV xs.length):=rfl
def Ei(n:Nat):Str:=if n<10 then [UInt8.ofNat (48+n)]else [UInt8.ofNat (48+n/10),UInt8.ofNat (48+n%10)]
theorem Uo(h:n<100):Lib.decDigits n=Ei n:=by
 unfold Ei;rw[Lib.decDigits];split
 ·rfl
 ·rw[Lib.decDigits,dif_pos (by omega)];rfl
theorem AZ(h:n<100):Lib.itoa (n:Nat)=Ei n:=by
 unfold Lib.itoa;rw[aD (by omega),aV,Uo h]
def NS(n:Nat):Str:=[91,102,111,114,32,97,32,105,110,32,114,97,110,103,101,40]++Ei n++[41,32,58,32,108,101,110,103,116,104,40,91,102,111,114,32,98,32,105,110,32,114,97,110,103,101,40,51,50,41,32,58,32,108,101,110,103,116,104,40,91,102,111,114,32,99,32,105,110,32,114,97,110,103,101,40,51,50,41,32,58,32,99,93,41,93,41,93]
def more(n:Nat)(a:Int):Int:=if n<10 then a else a+1
def jF(n:Nat):List Ex:=[⟨4,Ei n,[],[],26⟩,⟨12,[114,97,110,103,101],[0],[],20⟩,⟨4,[51,50],[],[],more n 54⟩,⟨12,[114,97,110,103,101],[2],[],more n 48⟩,⟨4,[51,50],[],[],more n 83⟩,⟨12,[114,97,110,103,101],[4],[],more n 77⟩,⟨9,[99],[],[],more n 89⟩,⟨29,[99],[5,6],[],more n 67⟩,⟨12,[108,101,110,103,116,104],[7],[],more n 60⟩,⟨29,[98],[3,8],[],more n 38⟩,⟨12,[108,101,110,103,116,104],[9],[],more n 31⟩,⟨29,[97],[1,10],[],10⟩]
theorem aA1:∀n:Fin 33,Go.Syn.parseM (BB (NS n.val))=.ok ⟨jF n.val,[⟨[97],[],[⟨[120],11,6⟩],[],0⟩],[0]⟩:=by decide+kernel
theorem QX(hn:n<=32)(env:Env):∃v,v.xs.length=n/\jK (jF n) 11 env v (3+n*1156):=by
 have hE:sE (jF n):=tF (by unfold jF;rfl);have gi:∀i:Nat,i<=40->dL (iV (i:Int))=true:=λi hi=>Ct (by omega);have kr:∀m:Nat,iP (lV ((List.range m).map λi:Nat=>iV (i:Int)))=true:=λm=>Ls λx hx=>by obtain⟨i,_,rfl⟩:=kH.1 hx;exact Lq _
 have h0:jK (jF n) 0 env (iV (n:Int)) 1:=wH (e:=⟨4,Ei n,[],[],26⟩) hE rfl rfl rfl (by show goodN (Ei n)=true;rw[<-AZ (by omega)];exact zD (n:=(n:Int)) (by omega)) (by show num (Ei n)=_;rw[<-AZ (by omega)];exact AS _);have h1:jK (jF n) 1 env _ _:=yS (f:=rR) hE rfl rfl rfl h0 rfl (gi n (by omega)) (Lq _) rfl (Gb hn) (vD hn);have len:∀{env:Env} {j k s:Nat} {xs:List JV} {a:Int},(jF n)[k]?=some ⟨12,[108,101,110,103,116,104],[j],[],a⟩->xs.length=32->dL (lV xs)=true->iP (lV xs)=true->jK (jF n) j env (lV xs) s->jK (jF n) k env (iV ((32:Nat):Int)) (s+1):=λhe hl hg hk h=>
  yS (f:=qV) hE he rfl rfl h rfl hg hk rfl (by rw[KS,hl]) (gi 32 (by omega))
 have rng:∀{env:Env} {j k:Nat} {a b:Int},(jF n)[j]?=some ⟨4,[51,50],[],[],a⟩->(jF n)[k]?=some ⟨12,[114,97,110,103,101],[j],[],b⟩->jK (jF n) k env (lV ((List.range 32).map λi:Nat=>iV (i:Int))) 2:=λhj hk=>
  yS (f:=rR) (x:=iV ((32:Nat):Int)) hE hk rfl rfl (wH (n:=((32:Nat):Int)) hE hj rfl rfl (show goodN [51,50]=true by decide) (show num [51,50]=((32:Nat):Int)by decide)) rfl (gi 32 (by omega)) (Lq _) rfl (Gb (aU _)) (vD (aU _))
 have inner:∀env:Env,jK (jF n) 8 env (iV ((32:Nat):Int)) 36:=λenv=>by
  have h5:jK (jF n) 5 env _ 2:=rng rfl rfl;have hf:xB (jF n) env [99] 6 ((List.range 32).map λi:Nat=>iV (i:Int)) (((List.range 32).map λi:Nat=>iV (i:Int)).map id) (1*((List.range 32).map λi:Nat=>iV (i:Int)).length):=
   zV id λx hx=>MD hE (i:=6) rfl rfl rfl (by show(if([99]:Str)=[99]then some x else _)=_;rw[aH rfl];rfl) (by
    obtain⟨i,hi,rfl⟩:=kH.1 hx;have:=mH.1 hi;exact gi i (by omega))
  rw[List.map_id]at hf;have h7:jK (jF n) 7 env _ _:=CO hE rfl rfl rfl h5 hf (vD (aU _));have h8:=len (k:=8) rfl (by simp) (vD (aU _)) (kr 32) h7;have e:2+1*((List.range 32).map λi:Nat=>iV (i:Int)).length+1+1=36:=by simp
  rwa[e]at h8
 have c32:∀k:Nat,k<=32->dL (lV ((List.range k).map λ_=>iV ((32:Nat):Int)))=true/\iP (lV ((List.range k).map λ_=>iV ((32:Nat):Int)))=true:=λk hk=>by
  have e:((List.range k).map λ_=>iV ((32:Nat):Int))=((List.range k).map λ_=>((32:Nat):Int)).map λn=>iV n:=by rw[List.map_map];rfl
  rw[e];exact⟨Fz (λz hz=>by obtain⟨i,hi,rfl⟩:=kH.1 hz;decide) (by simp;omega),TR _⟩
 have mid:∀env:Env,jK (jF n) 10 env (iV ((32:Nat):Int)) 1156:=λenv=>by
  have h3:jK (jF n) 3 env _ 2:=rng rfl rfl;have hf:xB (jF n) env [98] 8 ((List.range 32).map λi:Nat=>iV (i:Int)) (((List.range 32).map λi:Nat=>iV (i:Int)).map λ_=>iV ((32:Nat):Int)) (36*((List.range 32).map λi:Nat=>iV (i:Int)).length):=
   zV _ λx hx=>inner _
  rw[List.map_map]at hf;obtain⟨g1,g2⟩:=c32 32 (by omega);have h9:jK (jF n) 9 env _ _:=CO hE rfl rfl rfl h3 hf g1;have h10:=len (k:=10) rfl (by simp) g1 g2 h9;have e:2+36*((List.range 32).map λi:Nat=>iV (i:Int)).length+1+1=1156:=by simp
  rwa[e]at h10
 have hf:xB (jF n) env [97] 10 ((List.range n).map λi:Nat=>iV (i:Int)) (((List.range n).map λi:Nat=>iV (i:Int)).map λ_=>iV ((32:Nat):Int)) (1156*((List.range n).map λi:Nat=>iV (i:Int)).length):=
  zV _ λx hx=>mid _
 rw[List.map_map]at hf;have h11:jK (jF n) 11 env _ _:=CO hE rfl rfl rfl h1 hf (c32 n hn).1;have e:1+1+1156*((List.range n).map λi:Nat=>iV (i:Int)).length+1=3+n*1156:=by
  rw[lC,List.length_range,kG];omega
 rw[e]at h11;exact⟨_,by simp[JV.xs],h11⟩
def QD(ex:List Ex)(i:Nat)(env:Env)(c a:Int)(s:Nat):Prop:=∀left,s<=left->sG ex (i+1) i env left=.err c a
theorem KA{ex:List Ex}{s:Nat}{e:Ex}{env:Env}{vs:List JV}{c a:Int}(hE:sE ex)(he:ex[i]?=some e)(h28:e.k≠28)(h29:e.k≠29)(hl:Gc ex env e.args vs s)(hm:nS ex e env vs=.err c a):QD ex i env c a (s+1):=by
 obtain⟨h1,_⟩:=Dj hl;intro left hle;rw[xC hE he (dP _)];unfold wC;rw[aD (by omega)];show EvR.bind (rZ (vQ ex) ex e env (left-1)) _=_;unfold rZ;rw[aD h28,aD h29,h1 _ (by omega)];show EvR.bind ((nS ex e env vs).at_ _) _=_;rw[hm];rfl
theorem Np{f:Fl}{s:Nat}{scope:JV}{c a:Int}(h:QD f.ex i (rV scope.ks scope.xs) c a s)(hs:s<=20000):vP f i scope=.err c a:=by
 unfold vP;rw[h 20000 hs]
theorem QJ(env:Env):jK IG 4 env (iV 7) 5:=by
 have hE:sE IG:=tF (by decide);have h0:=wH (env:=env) hE (i:=0) (n:=1) rfl rfl rfl (by decide) (by decide);have h1:=wH (env:=env) hE (i:=1) (n:=2) rfl rfl rfl (by decide) (by decide);have h2:=wH (env:=env) hE (i:=2) (n:=3) rfl rfl rfl (by decide) (by decide);have h3:=Ov hE (i:=3) rfl rfl rfl h1 h2 (by omega);exact Ow hE (i:=4) rfl rfl rfl h0 h3 (by omega)
theorem QI(env:Env):jK BU 3 env (tV [97,49,116,114,117,101]) 4:=by
 have hE:sE BU:=tF (by decide);have h0:jK BU 0 env (tV [97]) 1:=CP hE rfl (by decide) (by decide) rfl rfl (LC (by decide));have h1:jK BU 1 env (nV [49]) 1:=CP hE rfl (by decide) (by decide) rfl rfl (by decide);have h2:jK BU 2 env (bV true) 1:=MC hE rfl rfl rfl;exact xG hE (i:=3) (s:=3) rfl (by decide) (by decide) (.cons h0 (.cons h1 (.cons h2 .nil))) rfl (LC (by decide))
theorem QH(env:Env):QD DK 2 env 10 12 3:=by
 have hE:sE DK:=tF (by decide);have h0:jK DK 0 env (nV [49]) 1:=CP hE rfl (by decide) (by decide) rfl rfl (by decide);have h1:jK DK 1 env (nV [48]) 1:=CP hE rfl (by decide) (by decide) rfl rfl (by decide);exact KA hE rfl (by decide) (by decide) (.cons h0 (.cons h1 .nil)) rfl
end
end Go.Eng
namespace Go.Proofs.YtghhmpppnmoeoaaGreatDoor
section
open Go Go.Eng Go.Num Go.RowKit
variable{w:World}{K:Q0}{cs:List Value}{G:Nat->Prop}{T:TypeId}{i:Nat}{n:Nat}{v:Value}{w':World}{P:Program}{c:UInt8}{S:Nat->Prop}
theorem LS(u:Nat):Lib.decDigits u≠[]:=by
 rw[Lib.decDigits];split<;>simp
theorem Qf(u:Nat)(h:0<u):Lib.decDigits u=(if u/10=0 then []else Lib.decDigits (u/10))++[UInt8.ofNat (48+u%10)]:=by
 rw[Lib.decDigits];split
 ·rw[aH (by omega),jX (by omega)];rfl
 ·rw[aD (by omega)]
theorem Nz{u:Nat}(h:Lib.decDigits u=[48]):u=0:=by
 rw[Lib.decDigits]at h;split at h
 ·rename_i hu;have:=List.head_eq_of_cons_eq h;have e:=congrArg UInt8.toNat this;rw[iW]at e;have:(48:UInt8).toNat=48:=rfl;omega
 ·rename_i hu;have:=congrArg List.length h;rw[bE]at this;have h0:0<(Lib.decDigits (u/10)).length:=dF.2 (LS _);simp at this;exact absurd this (LS _)
theorem IR:∀(k u:Nat),u<10^k->(Lib.decDigits u).length<=k+1:=by
 intro k;induction k with
 |zero=>intro u h;rw[Lib.decDigits,dif_pos (by omega)];simp
 |succ k ih=>
  intro u h;rw[Lib.decDigits];split
  ·simp
  ·have:=ih (u/10) (by rw[nI]at h;omega);rw[bE,zJ];omega
section
variable [HX]
theorem My{n:Int}{K:Q0}(hn:n≠0)(h1:-9223372036854775808<=n)(h2:n<=9223372036854775807)(hK:K (str (Lib.itoa n)) w):aC P0 38 [.bool (decide (n<0)),str (Lib.decDigits n.natAbs)] w K:=by
 refine aAk ?_;unfold W38;have hne:Lib.decDigits n.natAbs≠[48]:=λe=>by have:=Nz e;omega
 unfold Lib.itoa at hK;by_cases hneg:n<0
 ·rw[aH hneg]at hK;rw[bF hneg];refine GdW.look true (λ_ J hJ=>?_) λg=>?_
  ·rw[tH,bF hne];exact hJ
  show aR (.bool true) _ _;rw[dR,sA];have:=IR 19 n.natAbs (by omega);have em:IntKind.i64.max=9223372036854775807:=by decide
  refine⟨by rw[em];simp only[aA,aL];omega,?_⟩;exact hK
 ·rw[aD hneg]at hK;rw[bZ hneg];refine GdW.f λg=>?_;show aR (.bool false) _ _;rw[cX];rw[show n.natAbs=n.toNat by omega];exact hK
theorem BV{n:Int}{K:Q0}(h1:-9223372036854775808<=n)(h2:n<=9223372036854775807)(hK:∀w',Ext w w'->K (str (Lib.itoa n)) w'):aC P0 22 [i64 n] w K:=by
 refine aAu ?_;unfold W22;rw[bL,aM];refine⟨λh0=>?_,λh0=>?_⟩
 ·subst h0;have e:Lib.itoa 0=[48]:=by unfold Lib.itoa;rw[aD (by decide),Lib.decDigits,dif_pos (by decide)];rfl
  rw[e]at hK;exact hK w (Chg.refl _ _)
 refine⟨λs w'=>∃(m:Int) (out:Str),s=[str out,i64 m]/\Ext w w'/\(if m=0 then []else Lib.decDigits m.natAbs)++out=Lib.decDigits n.natAbs/\-9223372036854775808<=m/\m<=9223372036854775807,
  λs _=>match s with|[_,.int _ i]=>i.natAbs|_=>0,⟨n,[],rfl,Chg.refl _ _,by rw[aD h0,eA],h1,h2⟩,?_⟩
 rintro s g w2 ⟨m,out,rfl,hx,he,hm1,hm2⟩;simp only[aF,cW];rw[fL,aM];refine⟨λhne=>?_,λhe0=>?_⟩
 ·have hol:out.length<=25:=by
   have:=IR 19 n.natAbs (by omega);rw[<-he,bE]at this;omega
  rw[aD hne,Qf _ (by omega),fD]at he;rw[Cw];refine⟨by decide,?_⟩;have hd:(m.tmod 10).natAbs=m.natAbs%10:=by rw[Int.natAbs_tmod];rfl
  have hq:(m.tdiv 10).natAbs=m.natAbs/10:=by rw[Int.natAbs_tdiv];rfl
  refine bU.cut (λs' w'=>s'=[i64 ((m.natAbs%10:Nat):Int)]/\w'=w2) ?_ ?_
  ·rw[dW,aM];refine⟨λh=>?_,λh=>?_⟩
   ·rw[NO,cK (by omega) (by omega),show 0-m.tmod 10=((m.natAbs%10:Nat):Int)by omega];exact⟨rfl,rfl⟩
   ·rw[show m.tmod 10=((m.natAbs%10:Nat):Int)by omega];exact⟨rfl,rfl⟩
  rintro s' g2 w3 ⟨rfl,rfl⟩;simp only[aF];rw[cA,cK (by omega) (by omega),mE,show(48:Int)+((m.natAbs%10:Nat):Int)=((48+m.natAbs%10:Nat):Int)by omega,xD,jX (by omega)];refine Gs λt w4 ht hx4=>?_;have hb:Byt w4 U8 t [UInt8.ofNat (48+m.natAbs%10)]:=by
   have e1:u8s [UInt8.ofNat (48+m.natAbs%10)]=[.int .u8 ((48+m.natAbs%10:Nat):Int)]:=by
    simp only[u8s,dT,nK,iW];rw[jX (by omega)]
   unfold Byt;rw[e1];exact ht
  rw[DU (l:=[UInt8.ofNat (48+m.natAbs%10)]) (e:=U8) (by kernel_rfl) (by kernel_rfl) (by kernel_rfl) hb,sA];have em:IntKind.i64.max=9223372036854775807:=by decide
  refine⟨by rw[em];simp only[aA,aL];omega,?_⟩;rw[GY];refine⟨by decide,?_⟩;rw[cK (by omega) (by omega)];refine⟨⟨m.tdiv 10,_,rfl,hx.trans hx4,?_,by omega,by omega⟩,?_⟩
  ·rw[<-he,<-hq];by_cases hz:m.tdiv 10=0
   ·rw[aH hz,aH (by omega)]
   ·rw[aD hz,aD (by omega)]
  ·show(m.tdiv 10).natAbs<m.natAbs;omega
 ·have he0:m=0:=eK he0;rw[aH he0,eQ]at he;rw[dW,he];exact My h0 h1 h2 (hK w2 hx)
theorem Py{n:Int}{K:Q0}(h1:-9223372036854775808<=n)(h2:n<=9223372036854775807)(hK:∀w',Ext w w'->K (.agg (flat 3 false (Lib.itoa n)).toArray) w'):aC P0 18 [i64 n] w K:=by
 refine aAx ?_;unfold W18;refine bG λb w1 hb hz hbb hx=>?_;refine BV h1 h2 λw2 hx2=>?_;simp only[wsv,wsg,wsh,wsl,aO,aN,aE,fE,Nat.reduceAdd,Nat.reduceLT,aG,aB,aK,aI,bT,reduceCtorEq];exact jA (hx2.at hbb id) rfl rfl rfl λw' hc=>hK w' ((hx.trans hx2).new hc (by omega))
end
end
end Go.Proofs.YtghhmpppnmoeoaaGreatDoor
