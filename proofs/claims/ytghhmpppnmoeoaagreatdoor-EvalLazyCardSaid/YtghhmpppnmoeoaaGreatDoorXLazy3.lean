/- One plain sentence: weakest preconditions, contracts and plain laws that the claim rests on, text behind text. Conditions: those that each states. -/
import Derived.Test.YtghhmpppnmoeoaaGreatDoorXLazy2
import Derived.Test.YtghhmpppnmoeoaaGreatDoorXLazy1
import Derived.Laws.IdiomCopy
import Derived.Lib.Overlaps
import Derived.Lib.AppendZerosOnto
import Derived.Sort.OwnSorted
import Derived.Lib.SlicesCompact
import Derived.Lib.DecodeN
import Derived.Lib.RuneBytes
import Derived.Laws.Externs
import Derived.Lib.Split
import Derived.Lib.Join
import Derived.Lib.ItoaNum
import Derived.Maps.RangeRun
import Derived.MapKept
import Derived.Lib.LastIndexByte
import Derived.Lib.AtoiAll
import Derived.Lib.SplitLaws
import Derived.Lib.Builder
import Derived.ProofKit
import Derived.WalkKit
import Derived.Lib.AppendStr
import Derived.Lib.ValidU
import Derived.Lib.Index
set_option linter.all false
set_option linter.unusedSimpArgs false
set_option linter.unusedVariables false
set_option linter.unusedSectionVars false
set_option maxRecDepth 100000
namespace Go.Proofs.YtghhmpppnmoeoaaGreatDoor
section
open Go Go.Eng Go.Num
variable{w:World}{K:Q0}{cs:List Value}{G:Nat->Prop}{T:TypeId}{i:Nat}{n:Nat}{v:Value}{w':World}{P:Program}{c:UInt8}{S:Nat->Prop}
section
variable [HX]
theorem Ft(v:JV):∀{cs:List Value} {w:World} {K:Q0},sC v=true->cM w v cs->(∀cs' w',bA w w'->bE (vJ w.heap.size) w' v cs'->K (.agg cs'.toArray) w')->aA P0 88 [.agg cs.toArray] w K:=by
 induction v using JV.ind' with
 |h v ih=>
  intro cs w K hfew h hK;rw[uY,tP]at hfew;simp only[Bool.and_eq_true,decide_eq_true_eq,List.all_eq_true]at hfew;obtain⟨⟨f1,f2⟩,f3⟩:=hfew;refine ZH ?_;unfold W88;refine gB h λa w1 sv kv hB hx ha=>?_;refine aI λb w2 hb hz2 hbb hx2=>?_;have hxd:bA w2 w2.drew:=aS.drew (aS.refl (λ_=>False) w2);have hB2:=hB.ext hx2;have hBd:=hB2.ext hxd;have hbd:=hxd.at hbb id;have sd:w2.drew.heap.size=w2.heap.size:=rfl;simp only[cP,cS,bT,cR,cond_true,cond_false,exists_eq_left',cQ,Nat.reduceAdd,Nat.reduceLT,Nat.lt_add_one,Nat.zero_lt_succ,decide_true,decide_false,ne_eq,reduceCtorEq,bT,hB2.hb];obtain⟨T1,k1⟩:=hBd.keys;refine TI k1 (by omega) λkv' w3 hx3 hk3 hg3=>?_;have hB3:=hBd.ext hx3;have hb3:=hx3.at hbd id;have s3:=hx3.size;simp only[cP,cS,bT,cR,cond_true,cond_false,exists_eq_left',cQ,Nat.reduceAdd,Nat.reduceLT,Nat.lt_add_one,Nat.zero_lt_succ,decide_true,decide_false,ne_eq,reduceCtorEq,bT,hB3.hb];refine Pn (λx hx=>ih x hx (f3 x hx)) hB3.itemsAt (by omega) λsv' w4 hx4 hL hg4=>?_;obtain⟨L,hL1,hL2⟩:=hL;have hB4:=hB3.ext hx4;have hb4:=hx4.at hb3 id;have s1:=hx.size;have hak:=dA hB.hb;have cY:cY sv'=true/\cY kv'=true:=by
   obtain⟨p,c,rfl,_⟩:=hL1.shape;obtain⟨p',c',rfl,_⟩:=hk3.shape;exact⟨rfl,rfl⟩
  refine eY hB4.hb cY.2 (by simp) λw5 hz5 ha5 hc5=>?_;have ha5:w5.heap[a]?=some (.cells [i64 v.k,.bool v.b,str v.t,sv,kv'].toArray VT (0,0)):=by rw[ha5];simp
  refine eY ha5 cY.1 (by simp) λw6 hz6 ha6 hc6=>?_;have ha6:w6.heap[a]?=some (.cells [i64 v.k,.bool v.b,str v.t,sv',kv'].toArray VT (0,0)):=by rw[ha6];simp
  refine aU ha6 rfl ?_;have hb6:=hc6.at (hc5.at hb4 (by omega)) (by omega);refine eS hb6 rfl rfl (xD cY.1 cY.2) λw7 hc7=>?_;have hx1:bA w w4:=hx.trans (hx2.trans (hxd.trans (hx3.trans hx4)));have hx5:bA w w7:=((hx1.new hc5 (by omega)).new hc6 (by omega)).new hc7 (by omega);have hch:aS (λk=>k=a\/k=b) w4 w7:=((hc5.mono λk _ e=>.inl e).trans (hc6.mono λk _ e=>.inl e)).trans (hc7.mono λk _ e=>.inr e);refine hK _ w7 hx5 (bE.mk (T1:=VT) (T2:=ST) (L:=L) ?_ ?_ ?_ hB.fits (λ_ k hk=>?_) (λ_ k hk=>?_))
  ·exact qR hL1 (λ_=>hg4) hch λk hk _ e=>by have:w3.heap.size<=k:=hk;omega
  ·refine bB.mono (λk _ hk=>?_) (bB.chg (G:=vJ w3.heap.size) hch (λk hk _ e=>by have:w3.heap.size<=k:=hk;omega) hL2);have:w3.heap.size<=k:=hk;show w.heap.size<=k;omega
  ·exact qR (hk3.ext hx4) (λ_=>hg3) hch λk hk _ e=>by have:w2.drew.heap.size<=k:=hk;omega
  ·have:w3.heap.size<=k:=hg4 k hk;show w.heap.size<=k;omega
  ·have:w2.drew.heap.size<=k:=hg3 k hk;show w.heap.size<=k;omega
theorem FZ{kv:Value}{ks:List aH}{k:aH}{K:Q0}(h:SlAt w T kv ks.length (ks.map str))(hl:ks.length<=100000)(hr:HW ks)
  (hK:∀i:Nat,(rH ks k=none\/rH ks k=some i)->(∀j a,j<i->ks[j]?=some a->Op.bytesLess a k=true)->(∀j a,i<=j->ks[j]?=some a->Op.bytesLess a k=false)->i<=ks.length->K (.tuple #[i64 (i:Nat),.bool (rH ks k).isSome]) w):
  aA P0 153 [kv,str k] w K:=by
 refine UV ?_;unfold aCA;rw[dJ h];refine⟨λs w'=>∃lo hi:Nat,lo<=hi/\hi<=ks.length/\s=[i64 (lo:Nat),i64 (hi:Nat)]/\w'=w/\(∀j a,j<lo->ks[j]?=some a->Op.bytesLess a k=true)/\(∀j a,hi<=j->ks[j]?=some a->Op.bytesLess a k=false),
  λs _=>match s with|[.int _ lo,.int _ hi]=>hi.toNat-lo.toNat|_=>0,⟨0,ks.length,by omega,by omega,rfl,rfl,λj a h=>by omega,λj a hj ha=>by have:=(List.getElem?_eq_some_iff.1 ha).1;omega⟩,?_⟩
 rintro s g w2 ⟨lo,hi,hle,hhi,rfl,rfl,h1,h2⟩;rcases Nat.lt_or_ge lo hi with hlt|hge
 ·have hltI:(lo:Int)<(hi:Int):=by omega
  have e1:IntKind.i64.wrap ((lo:Int)+(hi:Int))=((lo+hi:Nat):Int):=by rw[bD (by omega) (by omega)];omega
  have e2:IntKind.u64.wrap ((lo+hi:Nat):Int)=((lo+hi:Nat):Int):=kV (by omega) (by omega);have e3:(((lo+hi:Nat):Int).fdiv (2^min (1:Int).toNat IntKind.u64.bits))=(((lo+hi)/2:Nat):Int):=by
   have:(2:Int)^min (1:Int).toNat IntKind.u64.bits=2:=by decide
   rw[this,Int.fdiv_eq_ediv_of_nonneg _ (by omega)];omega
  have e4:IntKind.i64.wrap (((lo+hi)/2:Nat):Int)=(((lo+hi)/2:Nat):Int):=bD (by omega) (by omega);generalize hm:(lo+hi)/2=m at*
  obtain⟨u,hu⟩:∃u,ks[m]?=some u:=⟨_,List.getElem?_eq_getElem (by omega)⟩;have h01:(0:Int)<=1:=by decide
  simp only[cP,cS,bT,cR,cond_true,cond_false,exists_eq_left',cQ,Nat.reduceAdd,Nat.reduceLT,Nat.lt_add_one,Nat.zero_lt_succ,decide_true,decide_false,ne_eq,reduceCtorEq,hltI,e1,e2,TQ,h01,e3,e4];refine jE h hu ?_;refine Pm ?_;rw[aQ];refine⟨λhl=>?_,λhn=>?_⟩
  ·rw[wR (by omega)];refine⟨⟨m+1,hi,by omega,hhi,rfl,rfl,λj a hj ha=>?_,h2⟩,by simp only[Int.toNat_natCast];omega⟩;rcases Nat.lt_or_ge j m with hj2|hj2
   ·exact lT (Ep hr ha hu hj2) hl
   ·obtain rfl:j=m:=by omega
    rw[hu]at ha;cases ha;exact hl
  ·refine⟨⟨lo,m,by omega,by omega,rfl,rfl,h1,λj a hj ha=>?_⟩,by simp only[Int.toNat_natCast];omega⟩;rcases Nat.lt_or_ge m j with hj2|hj2
   ·cases hb:Op.bytesLess a k with
    |false=>rfl
    |true=>have:=lT (Ep hr hu ha hj2) hb;rw[hn]at this;cases this
   ·obtain rfl:j=m:=by omega
    rw[hu]at ha;cases ha;exact hn
 ·obtain rfl:lo=hi:=by omega
  have hi0:rH ks k=none\/rH ks k=some lo:=by
   cases hx:rH ks k with
   |none=>exact .inl rfl
   |some j=>
    right;have hj:=rG hx;rcases Nat.lt_trichotomy j lo with h|h|h
    ·have:=h1 j k h hj;rw[GR]at this;cases this
    ·rw[h]
    ·obtain⟨u,hu⟩:∃u,ks[lo]?=some u:=⟨_,List.getElem?_eq_getElem (by have:=(List.getElem?_eq_some_iff.1 hj).1;omega)⟩;have a1:=h2 lo u (Nat.le_refl _) hu;have a2:=Ep hr hu hj h;rw[a1]at a2;cases a2
  have hK:=hK lo hi0 h1 h2 hhi;simp only[cP,cS,bT,cR,cond_true,cond_false,exists_eq_left',cQ,Nat.reduceAdd,Nat.reduceLT,Nat.lt_add_one,Nat.zero_lt_succ,decide_true,decide_false,ne_eq,reduceCtorEq,Int.lt_irrefl];rcases Nat.lt_or_ge lo ks.length with hlt|hge2
  ·obtain⟨u,hu⟩:∃u,ks[lo]?=some u:=⟨_,List.getElem?_eq_getElem hlt⟩;have ed:decide ((lo:Int)<(ks.length:Int))=true:=decide_eq_true (by omega);have hsome:(rH ks k).isSome=decide (u=k):=by
    by_cases e:u=k
    ·subst e;have hm:u∈ks:=List.mem_of_getElem? hu;rw[decide_eq_true rfl];cases hx:rH ks u with
     |none=>exact absurd hm (uW.1 hx)
     |some _=>rfl
    ·rw[decide_eq_false e];rcases hi0 with h|h
     ·rw[h];rfl
     ·have:=rG h;rw[hu]at this;exact absurd (Option.some.inj this) e
   rw[hsome]at hK;simp only[cP,cS,bT,cR,cond_true,cond_false,exists_eq_left',cQ,Nat.reduceAdd,Nat.reduceLT,Nat.lt_add_one,Nat.zero_lt_succ,decide_true,decide_false,ne_eq,reduceCtorEq,ed];refine cX.t ?_;refine jE h hu ?_;intro gg;simp only[cK];simp only[cP,cS,bT,cR,cond_true,cond_false,exists_eq_left',cQ,Nat.reduceAdd,Nat.reduceLT,Nat.lt_add_one,Nat.zero_lt_succ,decide_true,decide_false,ne_eq,reduceCtorEq];by_cases e:u=k
   ·rw[decide_eq_true e]at hK⊢
    (try simp only[cP,cS,bT,cR,cond_true,cond_false,exists_eq_left',cQ,Nat.reduceAdd,Nat.reduceLT,Nat.lt_add_one,Nat.zero_lt_succ,decide_true,decide_false,ne_eq,reduceCtorEq])
    intros;exact hK
   ·rw[decide_eq_false e]at hK⊢
    (try simp only[cP,cS,bT,cR,cond_true,cond_false,exists_eq_left',cQ,Nat.reduceAdd,Nat.reduceLT,Nat.lt_add_one,Nat.zero_lt_succ,decide_true,decide_false,ne_eq,reduceCtorEq])
    refine cX.t ?_;refine jE h hu ?_;refine OC ?_;intro gg
    (try simp only[cP,cS,bT,cR,cond_true,cond_false,exists_eq_left',cQ,Nat.reduceAdd,Nat.reduceLT,Nat.lt_add_one,Nat.zero_lt_succ,decide_true,decide_false,ne_eq,reduceCtorEq])
    intros;exact hK
  ·have hsome:rH ks k=none:=by
    rcases hi0 with h|h
    ·exact h
    ·have:=(List.getElem?_eq_some_iff.1 (rG h)).1;omega
   rw[hsome]at hK;have ed:decide ((lo:Int)<(ks.length:Int))=false:=decide_eq_false (by omega);simp only[cP,cS,bT,cR,cond_true,cond_false,exists_eq_left',cQ,Nat.reduceAdd,Nat.reduceLT,Nat.lt_add_one,Nat.zero_lt_succ,decide_true,decide_false,ne_eq,reduceCtorEq,ed];intros;exact hK
end
end
end Go.Proofs.YtghhmpppnmoeoaaGreatDoor
namespace Go.Eng
section
open Go
variable{w:World}{K:Q0}{cs:List Value}{G:Nat->Prop}{T:TypeId}{i:Nat}{n:Nat}{v:Value}{w':World}{P:Program}{c:UInt8}{S:Nat->Prop}
theorem CB{b:Nat}{T:TypeId}:∀(vs:List Value) (o:Nat) (w:World) (cs:List Value),w.heap[b]?=some (.cells cs.toArray T (0,0))->o+vs.length<=cs.length->
  (w.setCells b o vs).heap[b]?=some (.cells (cs.take o++vs++cs.drop (o+vs.length)).toArray T (0,0))/\aS (λk=>k=b) w (w.setCells b o vs)/\(w.setCells b o vs).heap.size=w.heap.size
 |[],o,w,cs,h,_=>by
  refine⟨?_,aS.refl _ _,rfl⟩
  simp only[World.setCells,List.length_nil,Nat.add_zero,List.append_nil,List.take_append_drop]
  exact h
 |v::r,o,w,cs,h,hl=>by
  rw[List.length_cons]at hl
  have hb:(w.setCell ⟨b,o,none⟩ v).heap[b]?=some (.cells (cs.set o v).toArray T (0,0)):=by
   rw[jZ,h,uJ];simp
  obtain⟨h1,h2,h3⟩:=CB r (o+1) (w.setCell ⟨b,o,none⟩ v) (cs.set o v) hb (by rw[List.length_set];omega);have hc:aS (λk=>k=b) w (w.setCell ⟨b,o,none⟩ v):=aS.set (S:=λk=>k=b) (aS.refl _ _) (.inl rfl) _;simp only[World.setCells];refine⟨?_,hc.trans h2,by rw[h3];simp⟩;rw[h1];have e:(cs.set o v).take (o+1)++r++(cs.set o v).drop (o+1+r.length)=cs.take o++v::r++cs.drop (o+(v::r).length):=by
   rw[List.take_add_one,List.getElem?_set_self (by omega),List.take_set_of_le (by omega),List.drop_set_of_lt (by omega),List.length_cons];simp;congr 1;omega
  rw[e]
theorem En(w:World)(dT sT ty elem:TypeId)(b o dLen dCap:Nat)(a:Addr)(sLen sCap:Nat)(cs:List Value){i:TypeInfo}
  (hu:P.underlying dT=some (.slice elem))(hq:P.info? elem=some i)(hn:cs.length=Nat.min sLen dLen*i.size)
  (hsrc:∀j v,cs[j]?=some v->w.cell? (a.add j)=some v)(hc:∀j,j<cs.length->(w.cell? ⟨b,o+j,none⟩).isSome=true)(hf:∀j,j<cs.length->w.frozen? ⟨b,o+j,none⟩=false)(h1:∀v∈cs,v.oneCell'=true):
  (Builtin.copy_ #[dT,sT] ty #[.slice (some ⟨b,o,none⟩) dLen dCap,.slice (some a) sLen sCap]).run P w=.ok (goInt (Nat.min sLen dLen)) (w.setCells b o cs):=by
 have hl:=run_loadCells_list (P:=P) w a cs hsrc;have hst:=run_storeCells_cells (P:=P) b o cs 0 w (by simpa using hc) (by simpa using hf) h1;simp[Builtin.copy_,aJ hu,Builtin.lenOf,Builtin.firstCells,sizeOf,typeInfo,hq,<-hn,hl,hst,run_bind,run_pure]
theorem Fs{dT sT ty e:TypeId}{size bytes:Nat}(hT:mM P dT e size bytes){b o dl dc sl sc:Nat}{a:Addr}{vs:List Value}{K:Q0}
  (hb:w.heap[b]?=some (.cells cs.toArray T (0,0)))(hn:vs.length=Nat.min sl dl*size)(hsrc:∀j v,vs[j]?=some v->w.cell? (a.add j)=some v)(hfit:o+vs.length<=cs.length)(h1:∀v∈vs,cY v=true)
  (hK:∀r w',w'.heap[b]?=some (.cells (cs.take o++vs++cs.drop (o+vs.length)).toArray T (0,0))->aS (λk=>k=b) w w'->w'.heap.size=w.heap.size->K r w'):
  bP P (Builtin.copy_ #[dT,sT] ty #[.slice (some ⟨b,o,none⟩) dl dc,.slice (some a) sl sc]) w K:=by
 obtain⟨i,z,hi,_,hs,_,_⟩:=hT.get;unfold bP
 rw[En w dT sT ty e b o dl dc a sl sc vs hT.und hi (by rw[hs];exact hn) hsrc (λj hj=>by
    rw[aX,hb,aZ];simp;omega) (λj hj=>by rw[iG,hb,mG]) λv hv=>qC (h1 v hv)]
 obtain⟨q1,q2,q3⟩:=CB vs o w cs hb hfit;exact hK _ _ q1 q2 q3
section
variable [HX]
def VN(P:Program)(s:Nat)(t it:TypeId)(ov rep:FuncId)(v0 v1 v2:Value)(w:World)(K:Q0):Prop:=
 fX s v0 (some v1) none none λ_=>
 bK v2 λt14=>
 aC .eql t14 (.int .i64 0) λt16=>
 aD t16 (
  K v0 w) (
  bK v0 λt19=>
  aC .eql v1 t19 λt22=>
  aD t22 (
   bP P (Builtin.append_ #[t,t] t #[v0,v2]) w λt25 w1=>
   K t25 w1) (
   aC .add t19 t14 λt28=>
   Ml v0 λt30=>
   aC .gtr t28 t30 λt31=>
   aD t31 (
    fX s v0 none (some v1) none λt34=>
    aC .add t19 t14 λt37=>
    aC .sub t37 v1 λt39=>
    bP P (Builtin.append_ #[t,it] t #[t34,t39]) w λt40 w2=>
    fX s t40 (some v1) none none λt43=>
    bP P (Builtin.copy_ #[t,t] it #[t43,v2]) w2 λ_ w3=>
    aC .add v1 t14 λt49=>
    fX s t40 (some t49) none none λt50=>
    fX s v0 (some v1) none none λt53=>
    bP P (Builtin.copy_ #[t,t] it #[t50,t53]) w3.drew λ_ w4=>
    K t40 w4) (
    aC .add t19 t14 λt59=>
    fX s v0 none (some t59) none λt60=>
    aC .add v1 t14 λt65=>
    fX s t60 (some t65) none none λt66=>
    aA P ov [v2,t66] w λt67 w5=>
    gU .not t67 λt68=>
    aD t68 (
     aC .add v1 t14 λt72=>
     fX s t60 (some t72) none none λt73=>
     fX s t60 (some v1) none none λt76=>
     bP P (Builtin.copy_ #[t,t] it #[t73,t76]) w5.drew λ_ w6=>
     fX s t60 (some v1) none none λt80=>
     bP P (Builtin.copy_ #[t,t] it #[t80,v2]) w6 λ_ w7=>
     K t60 w7) (
     fX s t60 (some t19) none none λt86=>
     bP P (Builtin.copy_ #[t,t] it #[t86,v2]) w5 λ_ w8=>
     fX s t60 (some v1) none none λt91=>
     aA P rep [t91,t14] w8 λ_ w9=>
     K t60 w9))))
theorem vV{s g o cap:Nat}{K:Value->Prop}(hi:i<=n)(hn:n<=cap)(hne:cap≠i):fX s (.slice (some ⟨g,o,none⟩) n cap) (some (i64 (i:Nat))) none none K↔K (.slice (some ⟨g,o+i*s,none⟩) (n-i) (cap-i)):=by
 rw[Ei,cZ,cZ,cO];simp only[Int.toNat_natCast,if_neg hne,Option.map_some,aV];constructor
 ·rintro⟨_,_,h⟩;exact h
 ·intro h;exact⟨by omega,by omega,h⟩
theorem MW{s g cap:Nat}{K:Value->Prop}(hi:i<=cap)(h0:0<cap):fX s (.slice (some ⟨g,0,none⟩) n cap) none (some (i64 (i:Nat))) none K↔K (.slice (some ⟨g,0,none⟩) i cap):=by
 rw[Ei,cZ,cO,cZ];simp only[Int.toNat_natCast,if_neg (show¬cap=0 by omega),Option.map_some,aV,Nat.zero_mul,Nat.add_zero,Nat.sub_zero];constructor
 ·rintro⟨_,_,h⟩;exact h
 ·intro h;exact⟨by omega,by omega,h⟩
theorem GZ{t it ov rep e T2:TypeId}{size bytes:Nat}(hT:mM P t e size bytes)(hit:P.underlying it=some (.int .i64))
  (hov:∀{w:World} {a b oa ob la ca lb cb:Nat} {x y:List Value} {T1 T2:TypeId} {K:Q0},a≠b->w.heap[a]?=some (.cells x.toArray T1 (0,0))->w.heap[b]?=some (.cells y.toArray T2 (0,0))->y≠[]->K (.bool false) w->aA P ov [.slice (some ⟨a,oa,none⟩) la ca,.slice (some ⟨b,ob,none⟩) lb cb] w K){base tb:Nat}{xs c:List Value}{K:Q0}(hown:Own w base e size v n xs)(ht:w.heap[tb]?=some (.cells c.toArray T2 (0,0)))(hc:c.length=size)(h1:∀u∈c,cY u=true)(hx1:∀u∈xs,cY u=true)
  (hne:v.ownBlock≠some tb)(hi:i<=n)(hn:n<=1000000)(hby:bytes<=1000)(hbase:base<=w.heap.size)
  (hK:∀v' w',Own w' base e size v' (n+1) (xs.take (i*size)++c++xs.drop (i*size))->aS (λk=>v.ownBlock=some k) w w'->(∀k,v'.ownBlock=some k->v.ownBlock=some k\/w.heap.size<=k)->K v' w'):
  VN P size t it ov rep v (i64 (i:Nat)) (.slice (some ⟨tb,0,none⟩) 1 1) w K:=by
 have hpos:=hT.pos;have hmb:(n+1)*bytes<=140737488355328:=by
  have:=Nat.mul_le_mul (show n+1<=1000001 by omega) hby;omega
 have hsl:SlAt w T2 (.slice (some ⟨tb,0,none⟩) 1 1) 1 c:=⟨_,_,rfl,Nat.le_refl _,λe=>(by cases e),λ_=>⟨tb,0,_,_,rfl,ht,λj _=>by rw[Nat.zero_add];simp⟩⟩;have hl:=hown.1;have hlen:bK v=λK=>K (i64 (n:Nat)):=by
  funext K;exact propext (dJ hown.sl K)
 unfold VN;have Ck:∀(B:Value->Prop),(∀x,B x)->fX size v (some (i64 (i:Nat))) none none B:=λB hB=>by
  obtain⟨p,cap,rfl,hcap,_⟩:=hown.sl;rw[Ei,cZ,cZ,cO];exact⟨by omega,by omega,hB _⟩
 refine Ck _ λ_=>?_;rw[uU,aM,decide_eq_false (by decide),bJ,hlen];dsimp only;rw[aM,aB];refine⟨λe1=>?_,λe1=>?_⟩
 ·obtain rfl:i=n:=by omega
  refine fN hT hown hsl (by omega) h1 (by omega) hmb hbase λv' w' hO hch hblk=>?_;refine hK v' w' ?_ hch hblk;have e1:xs.take (i*size)=xs:=List.take_of_length_le (by omega);have e2:xs.drop (i*size)=[]:=List.drop_eq_nil_iff.2 (by omega);rw[e1,e2,List.append_nil];exact hO
 have hlt:i<n:=by omega
 have hsz:i*size<n*size:=Nat.mul_lt_mul_of_pos_right hlt hpos;obtain⟨_,⟨_,h0⟩|⟨g,cap,bO,rfl,hg,hgb,hnc,hcm,hcs,htake⟩⟩:=hown
 ·omega
 have en1:IntKind.i64.wrap ((n:Int)+((1:Nat):Int))=((n+1:Nat):Int):=by rw[bD (by omega) (by omega)];omega
 have ei1:IntKind.i64.wrap ((i:Int)+((1:Nat):Int))=((i+1:Nat):Int):=by rw[bD (by omega) (by omega)];omega
 have hgne:tb≠g:=λe=>hne (by rw[e];rfl);have hgb':w.heap[g]?=some (.cells bO.toList.toArray e (0,0)):=by rw[Array.toArray_toList];exact hgb
 have hcl:bO.toList.length=cap*size:=by rw[Array.length_toList];exact hcs
 generalize bO.toList=L at*
 have hncap:n*size<=cap*size:=Nat.mul_le_mul_right _ hnc;have hisz:i*size+size<=n*size:=by rw[<-Nat.succ_mul];exact Nat.mul_le_mul_right _ hlt
 have hrest:(xs.drop (i*size)).length=(n-i)*size:=by rw[List.length_drop,hl,Nat.sub_mul]
 have hsrc0:∀j u,(xs.drop (i*size))[j]?=some u->L[i*size+j]?=some u:=λj u hj=>by
  rw[List.getElem?_drop,<-htake,List.getElem?_take]at hj;split at hj
  ·exact hj
  ·cases hj
 have hone:∀u∈xs.drop (i*size),cY u=true:=λu hu=>hx1 u (List.mem_of_mem_drop hu);rw[aW,en1];have hcap:∀K:Value->Prop,Ml (.slice (some ⟨g,0,none⟩) n cap) K↔K (i64 (cap:Nat)):=λK=>Iff.rfl;rw[hcap,iN,aB];refine⟨λhfull=>?_,λhroom=>?_⟩
 ·obtain rfl:cap=n:=by omega
  rw[MW (by omega) (by omega),aW,en1,iM,bD (by omega) (by omega)];have ek:((cap+1:Nat):Int)-(i:Int)=((cap+1-i:Nat):Int):=by omega
  rw[ek];obtain⟨inf,z,hinf,hz,h2,h3,h4⟩:=hT.get;have hold:(Builtin.firstCells inf.size i (.slice (some ⟨g,0,none⟩) i cap)).run P w.drew=.ok (xs.take (i*size)).toArray w.drew:=by
   rw[h2];have hlt2:(xs.take (i*size)).length=i*size:=by rw[List.length_take];omega
   have:=run_loadCells_list (P:=P) w.drew ⟨g,0,none⟩ (xs.take (i*size)) λj u hj=>by
    rw[aV,aX,heap_drew,hgb',aZ];rw[List.getElem?_take]at hj;split at hj
    ·rw[<-htake,List.getElem?_take]at hj;split at hj
     ·rw[Nat.zero_add];simpa using hj
     ·cases hj
    ·cases hj
   rw[hlt2]at this;simpa[Builtin.firstCells]using this
  have hr:=Lib.run_append_grow_zeros (P:=P) w t it t e inf z .i64 .i64 hT.und hit hinf hz (some ⟨g,0,none⟩) i cap (xs.take (i*size)) hold (cap+1-i) (by omega) (by omega) (by omega) (by omega) (by rw[h3];have:=Nat.mul_le_mul (show cap+1-i<=1000001 by omega) hby;omega) (growslice_fits (by omega) (by rw[h3,show i+(cap+1-i)=cap+1 by omega];exact hmb));have ei:i+(cap+1-i)=cap+1:=by omega
  rw[ei]at hr;unfold bP;rw[hr];dsimp only;have hgc:cap+1<=grownCap w (cap+1) cap e:=grownCap_ge w (cap+1) cap e;have hgm:grownCap w (cap+1) cap e<=maxLen:=grownCap_le_maxLen _ _ _ _ (by simp[maxLen];omega);generalize hN:grownCap w (cap+1) cap e=N at*
  have hzl:∀k,(Builtin.zeroCells z.cells k).toList.length=k*size:=λk=>by rw[Array.length_toList,size_zeroCells,h4]
  obtain⟨Z,hZ,hZl⟩:∃Z:List Value,(xs.take (i*size)).toArray++Builtin.zeroCells z.cells (cap+1-i)++Builtin.zeroCells z.cells (N-(cap+1))=(xs.take (i*size)++Z).toArray/\Z.length=(N-i)*size:=by
   refine⟨(Builtin.zeroCells z.cells (cap+1-i)).toList++(Builtin.zeroCells z.cells (N-(cap+1))).toList,?_,?_⟩
   ·apply Array.ext';simp
   ·rw[List.length_append,hzl,hzl,<-Nat.add_mul];congr 1;omega
  rw[hZ];have hNi:(N-i)*size=size+(cap-i)*size+(N-(cap+1))*size:=by
   rw[show N-i=1+(cap-i)+(N-(cap+1))by omega,Nat.add_mul,Nat.add_mul,Nat.one_mul]
  have hx0:bA w (w.drew.alloc (.cells (xs.take (i*size)++Z).toArray e)):=aS.alloc (aS.drew (aS.refl _ _)) _;have hb0:(w.drew.alloc (.cells (xs.take (i*size)++Z).toArray e)).heap[w.heap.size]?=some (.cells (xs.take (i*size)++Z).toArray e (0,0)):=dW _ _ _ rfl;have hz0:(w.drew.alloc (.cells (xs.take (i*size)++Z).toArray e)).heap.size=w.heap.size+1:=by simp
  generalize (w.drew.alloc (.cells (xs.take (i*size)++Z).toArray e))=w2 at*
  have hlt1:(xs.take (i*size)).length=i*size:=by rw[List.length_take];omega
  rw[vV (by omega) hgc (by omega)];have htlt:=dA ht;have hglt:=dA hgb';refine Fs hT (vs:=c) hb0 (by rw[hc,show Nat.min 1 (cap+1-i)=1 by simp only[Nat.min_def];split<;>omega,Nat.one_mul]) (λj u hj=>?_) (by rw[List.length_append,hlt1,hZl,hc];omega) h1 λ_ w3 hb3 hc3 hz3=>?_
  ·rw[aV,aX,hx0.at ht id,aZ,Nat.zero_add];simpa using hj
  rw[aW,ei1,vV (by omega) hgc (by omega),vV (by omega) (Nat.le_refl _) (by omega)];have hb3':w3.drew.heap[w.heap.size]?=some (.cells (xs.take (i*size)++c++Z.drop size).toArray e (0,0)):=by
   have ez:List.take (0+i*size) (List.take (i*size) xs++Z)++c++List.drop (0+i*size+c.length) (List.take (i*size) xs++Z)=xs.take (i*size)++c++Z.drop size:=by
    rw[Nat.zero_add,List.take_left' hlt1,<-List.drop_drop,List.drop_left' hlt1,hc]
   rw[heap_drew,hb3,ez]
  have hg3:w3.drew.heap[g]?=some (.cells L.toArray e (0,0)):=by
   rw[heap_drew];exact hc3.at (hx0.at hgb' id) (by omega)
  have hfl:(xs.take (i*size)++c++Z.drop size).length=N*size:=by
   rw[List.length_append,List.length_append,hlt1,hc,List.length_drop,hZl,hNi,show N*size=(i+(N-i))*size by congr 1;omega,Nat.add_mul,hNi];omega
  have hpre:(xs.take (i*size)++c).length=(i+1)*size:=by rw[List.length_append,hlt1,hc,Nat.add_mul,Nat.one_mul]
  have hNn:(cap+1)*size<=N*size:=Nat.mul_le_mul_right _ hgc;have hsum:(i+1)*size+(cap-i)*size=(cap+1)*size:=by rw[<-Nat.add_mul];congr 1;omega
  refine Fs hT (vs:=xs.drop (i*size)) hb3' (by rw[hrest,show Nat.min (cap-i) (cap+1-(i+1))=cap-i by simp only[Nat.min_def];split<;>omega]) (λj u hj=>?_) (by rw[hfl,hrest,Nat.zero_add];omega) hone λ_ w4 hb4 hc4 hz4=>?_
  ·rw[aV,aX,hg3,aZ,Nat.zero_add];simpa using hsrc0 j u hj
  have hx4:bA w w4:=(((hx0.new hc3 (Nat.le_refl _)).then (aS.drew (aS.refl (λ_=>False) w3)) λ_ _ e=>e.elim)).new hc4 (Nat.le_refl _);refine hK _ w4 ⟨?_,.inr ⟨w.heap.size,N,_,rfl,hbase,hb4,hgc,hgm,?_,?_⟩⟩ (aS.of_ext hx4) λk hk=>.inr ?_
  ·rw[List.length_append,hpre,hrest,hsum]
  ·rw[List.size_toArray,hrest,List.length_append,List.length_append,hrest,List.length_take,List.length_drop,hfl,Nat.zero_add];omega
  ·rw[List.toList_toArray];rw[Nat.zero_add,List.take_left' hpre];refine List.take_left' ?_;rw[List.length_append,hpre,hrest,hsum]
  ·simp only[Value.ownBlock,Option.some.injEq]at hk;omega
 ·have hroom:n+1<=cap:=by omega
  rw[aW,en1,MW hroom (by omega),aW,ei1,vV (by omega) hroom (by omega)];have hLne:L≠[]:=λe=>by rw[e]at hcl;simp at hcl;have:=Nat.mul_lt_mul_of_pos_right (show 0<cap by omega) hpos;omega
  refine hov hgne ht hgb' hLne ?_;rw[cJ,Bool.not_false,bZ,aW,ei1,vV (by omega) hroom (by omega),vV (by omega) hroom (by omega)];have hncap1:(n+1)*size<=cap*size:=Nat.mul_le_mul_right _ hroom;have hsum:(i+1)*size+(n-i)*size=(n+1)*size:=by rw[<-Nat.add_mul];congr 1;omega
  have hpre:(i+1)*size=i*size+size:=by rw[Nat.add_mul,Nat.one_mul]
  have hgd:w.drew.heap[g]?=some (.cells L.toArray e (0,0)):=by rw[heap_drew];exact hgb'
  refine Fs hT (vs:=xs.drop (i*size)) hgd (by rw[hrest,show Nat.min (n+1-i) (n+1-(i+1))=n-i by simp only[Nat.min_def];split<;>omega]) (λj u hj=>?_) (by rw[hcl,hrest,Nat.zero_add];omega) hone λ_ w3 hb3 hc3 hz3=>?_
  ·rw[aV,aX,hgd,aZ,Nat.zero_add];simpa using hsrc0 j u hj
  rw[vV (by omega) hroom (by omega)];have htd:w.drew.heap[tb]?=some (.cells c.toArray T2 (0,0)):=by rw[heap_drew];exact ht
  have ht3:=hc3.at htd hgne;have hlt1:(L.take (i*size)).length=i*size:=by rw[List.length_take,hcl];omega
  have hlt2:(L.take (0+(i+1)*size)).length=(i+1)*size:=by rw[List.length_take,hcl,Nat.zero_add];omega
  have hfl:(L.take (0+(i+1)*size)++xs.drop (i*size)++L.drop (0+(i+1)*size+(xs.drop (i*size)).length)).length=cap*size:=by
   rw[hrest,List.length_append,List.length_append,hlt2,hrest,List.length_drop,hcl,Nat.zero_add];omega
  refine Fs hT (vs:=c) hb3 (by rw[hc,show Nat.min 1 (n+1-i)=1 by simp only[Nat.min_def];split<;>omega,Nat.one_mul]) (λj u hj=>?_) (by rw[hfl,hc];omega) h1 λ_ w4 hb4 hc4 hz4=>?_
  ·rw[aV,aX,ht3,aZ,Nat.zero_add];simpa using hj
  have hch:aS (λk=>(Value.slice (some ⟨g,0,none⟩) n cap).ownBlock=some k) w w4:=(((aS.drew (aS.refl (λk=>k=g) w)).trans hc3).trans hc4).mono λk _ e=>by rw[e];rfl
  have iX:(L.take (0+(i+1)*size)++xs.drop (i*size)++L.drop (0+(i+1)*size+(xs.drop (i*size)).length)).take (0+i*size)++c++(L.take (0+(i+1)*size)++xs.drop (i*size)++L.drop (0+(i+1)*size+(xs.drop (i*size)).length)).drop (0+i*size+c.length)=xs.take (i*size)++c++xs.drop (i*size)++L.drop ((i+1)*size+(xs.drop (i*size)).length):=by
   rw[Nat.zero_add,Nat.zero_add,hc,<-hpre,List.append_assoc (L.take ((i+1)*size)),List.take_append_of_le_length (by rw[List.length_take,hcl];omega),List.take_take,Nat.min_eq_left (by omega)];have e1:L.take (i*size)=xs.take (i*size):=by rw[<-htake,List.take_take,Nat.min_eq_left (by omega)]
   have e2:(L.take ((i+1)*size)++(xs.drop (i*size)++L.drop ((i+1)*size+(xs.drop (i*size)).length))).drop ((i+1)*size)=xs.drop (i*size)++L.drop ((i+1)*size+(xs.drop (i*size)).length):=List.drop_left' (by rw[List.length_take,hcl];omega);rw[e1,e2];simp
  rw[iX]at hb4;have hxl:(xs.take (i*size)).length=i*size:=by rw[List.length_take];omega
  refine hK _ w4 ⟨?_,.inr ⟨g,cap,_,rfl,hg,hb4,hroom,hcm,?_,?_⟩⟩ hch λk hk=>.inl hk
  ·rw[List.length_append,List.length_append,hxl,hc,hrest];omega
  ·rw[List.size_toArray,hrest,List.length_append,List.length_append,List.length_append,hxl,hc,hrest,List.length_drop,hcl];omega
  ·rw[List.toList_toArray];refine List.take_left' ?_;rw[List.length_append,List.length_append,hxl,hc,hrest];omega
end
end
end Go.Eng
namespace Go.Proofs.YtghhmpppnmoeoaaGreatDoor
section
open Go Go.Eng Go.Num
variable{w:World}{K:Q0}{cs:List Value}{G:Nat->Prop}{T:TypeId}{i:Nat}{n:Nat}{v:Value}{w':World}{P:Program}{c:UInt8}{S:Nat->Prop}
abbrev SB:JV:=.mk 3 false [49] [] []
section
variable [HX]
theorem uE.rep{w0:World}{base:Nat}{v:JV}{sv kv:Value}(h:uE w0 w base v sv kv)(hx:bA w0 w):cM w v [i64 v.k,.bool v.b,str v.t,sv,kv]:=by
 obtain⟨sv',kv',T1,T2,L,he,h1,h2,h3,h4⟩:=h.val;simp only[List.cons.injEq,and_true,true_and]at he;obtain⟨rfl,rfl⟩:=he;exact cM.mk h1 (h2.ext hx) h3 h4
theorem Wc{v x:JV}{ds:List Value}{k:aH}{K:Q0}(h:cM w v cs)(hd:cM w x ds)(hl:v.k=6->v.ks.length=v.xs.length)(hfew:v.ks.length<=100000)(hk:k.length<=9223372036854775807)
  (hK:∀es w',bA w w'->cM w' (rV v k x) es->K (.agg es.toArray) w'):aA P0 12 [.agg cs.toArray,str k,.agg ds.toArray] w K:=by
 refine Qt h hd hl hfew hk λsv kv base w' hx hb hO=>?_;have hr:=hO.rep hx;have e:(rV v k x).k=6/\(rV v k x).b=false/\(rV v k x).t=[]:=by unfold rV;split<;>exact⟨rfl,rfl,rfl⟩
 rw[e.1,e.2.1,e.2.2]at hr;exact hK _ w' hx hr
abbrev nb:aH:=[110,101,119,95,98]
abbrev aDz:JV:=.mk 6 false [] [SB] [[97]]
abbrev aDy:JV:=.mk 6 false [] [SB,SB] [[97],nb]
theorem putB:rV aDz nb SB=aDy:=by rfl
end
end
end Go.Proofs.YtghhmpppnmoeoaaGreatDoor
namespace Go.Eng
section
open Go
def eR(s:aH)(i:Nat):Int:=match s[i]? with|some b=>(b.toNat:Int)|none=>-1
def kM(s:aH)(i:Nat):Bool:=decide (128<=eR s i)&&decide (eR s i<192)
def eK(s:aH)(i:Nat):Nat:=
 let c:=eR s i
 if c<0 then 0 else if c<128 then 1
 else if 194<=c/\c<224/\kM s (i+1)=true then 2
 else if 224<=c/\c<240/\kM s (i+1)=true/\kM s (i+2)=true/\
  2048<=(c-224)*4096+(eR s (i+1)-128)*64+eR s (i+2)-128/\((c-224)*4096+(eR s (i+1)-128)*64+eR s (i+2)-128<55296\/57343<(c-224)*4096+(eR s (i+1)-128)*64+eR s (i+2)-128)then 3
 else if 240<=c/\c<245/\kM s (i+1)=true/\kM s (i+2)=true/\kM s (i+3)=true/\
  65536<=(c-240)*262144+(eR s (i+1)-128)*4096+(eR s (i+2)-128)*64+eR s (i+3)-128/\(c-240)*262144+(eR s (i+1)-128)*4096+(eR s (i+2)-128)*64+eR s (i+3)-128<=1114111 then 4
 else 0
def b8(n:Nat):UInt8:=UInt8.ofNat n
def FL(n:Nat):aH:=
 if n<128 then [b8 n]else if n<2048 then [b8 (192+n/64),b8 (128+n%64)]
 else if n<65536 then [b8 (224+n/4096),b8 (128+n/64%64),b8 (128+n%64)]
 else [b8 (240+n/262144),b8 (128+n/4096%64),b8 (128+n/64%64),b8 (128+n%64)]
def aDB(n:Nat):UInt8:=if n<10 then b8 (48+n)else b8 (87+n)
def aBD(c:UInt8):aH:=
 if c=34\/c=92 then [92,c]else if c=8 then [92,98]else if c=12 then [92,102]else if c=10 then [92,110]else if c=13 then [92,114]else if c=9 then [92,116]
 else if c<32 then [92,117,48,48,b8 (48+c.toNat/16),aDB (c.toNat%16)]else [c]
def Er(s:aH):aH:=[34]++s.flatMap aBD++[34]
def Oz:List aH->aH
 |[]=>[]
 |[x]=>x
 |x::y::r=>x++[44]++Oz (y::r)
mutual
def VZ:JV->aH
 |.mk k b t xs ks=>
  if k=0 then [110,117,108,108]else if k=2 then(if b then [116,114,117,101]else [102,97,108,115,101])else if k=3 then t else if k=4 then Er t
  else if k=6 then [123]++Oz (List.zipWith (λa b=>Er a++[58]++b) ks (Nb xs))++[125]else [91]++Oz (Nb xs)++[93]
def Nb:List JV->List aH
 |[]=>[]
 |x::xs=>VZ x::Nb xs
end
def SY(c:Int):Bool:=decide (c=32)||decide (c=9)||decide (c=10)||decide (c=13)
def isDig(c:Int):Bool:=decide (48<=c)&&decide (c<=57)
def Ha(c:Int):Int:=if 48<=c/\c<=57 then c-48 else if 97<=c/\c<=102 then c-87 else if 65<=c/\c<=70 then c-55 else-1
def Zb(s:aH)(i:Nat):Int:=
 if i+6<=s.length/\eR s i=92/\eR s (i+1)=117/\0<=Ha (eR s (i+2))/\0<=Ha (eR s (i+3))/\0<=Ha (eR s (i+4))/\0<=Ha (eR s (i+5))then
  ((Ha (eR s (i+2))*16+Ha (eR s (i+3)))*16+Ha (eR s (i+4)))*16+Ha (eR s (i+5))else-1
def aDE(s:aH)(i:Nat):Option (aH×Nat):=
 let c:=eR s (i+1)
 if c=34 then some ([34],2)else if c=92 then some ([92],2)else if c=47 then some ([47],2)else if c=98 then some ([8],2)else if c=102 then some ([12],2)
 else if c=110 then some ([10],2)else if c=114 then some ([13],2)else if c=116 then some ([9],2)
 else
  let a:=Zb s i
  let b:=Zb s (i+6)
  if a<0\/56320<=a/\a<=57343 then none
  else if 55296<=a/\a<=56319 then(if b<56320\/57343<b then none else some (FL (65536+(a-55296)*1024+b-56320).toNat,12))
  else some (FL a.toNat,6)
end
section
open Go
variable{w:World}{K:Q0}{cs:List Value}{G:Nat->Prop}{T:TypeId}{i:Nat}{n:Nat}{v:Value}{w':World}{P:Program}{c:UInt8}{S:Nat->Prop}
mutual
def jT:JV->Nat
 |.mk _ _ _ xs _=>1+kC xs
def kC:List JV->Nat
 |[]=>0
 |x::xs=>jT x+kC xs
end
theorem KH(v:JV):1<=jT v:=by cases v;simp only[jT];omega
theorem byte_at{s r:aH}(h:s.drop i=c::r):eR s i=c.toNat:=by
 unfold eR;have:s[i]?=some c:=by
  have:=List.getElem?_drop (xs:=s) (i:=i) (j:=0);rw[h]at this;simpa using this.symm
 rw[this]
theorem Pe{s l r:aH}(h:s.drop i=l++r):s.drop (i+l.length)=r:=by
 rw[<-List.drop_drop,h,List.drop_left]
theorem sG{s r:aH}(h:s.drop i=c::r):i<s.length:=by
 apply Nat.lt_of_not_le;intro hle;rw[List.drop_eq_nil_iff.2 hle]at h;cases h
def bt(s:aH)(i:Nat):Nat:=(s.getD i 0).toNat
theorem xP(s:aH)(i:Nat):bt s i<256:=UInt8.toNat_lt _
theorem kD{s:aH}(h:i<s.length):eR s i=(bt s i:Int):=by
 unfold eR bt;rw[List.getElem?_eq_getElem h,List.getD_eq_getElem?_getD,List.getElem?_eq_getElem h];rfl
theorem DG{s:aH}(h:s.length<=i):eR s i=-1:=by
 unfold eR;rw[List.getElem?_eq_none h]
theorem get_bt(s:aH)(i:Nat):((aL s).get! i).toNat=bt s i:=by
 unfold bt;congr 1;show(s.toArray)[i]! =s.getD i 0;rw[List.getElem!_toArray,List.getElem!_eq_getElem?_getD,List.getD_eq_getElem?_getD];rfl
theorem KC(s:aH)(i:Nat):Utf8.decode (aL s) i=Lib.decodeN (s.length-i) (bt s i) (bt s (i+1)) (bt s (i+2)) (bt s (i+3)):=by
 rw[Lib.decode_at,get_bt,get_bt,get_bt,get_bt,dC]
abbrev qD(L k b:Nat):Prop:=k<L/\128<=b/\b<192
abbrev c3(b0 b1 b2:Nat):Nat:=(b0-224)*4096+(b1-128)*64+(b2-128)
abbrev c4(b0 b1 b2 b3:Nat):Nat:=(b0-240)*262144+(b1-128)*4096+(b2-128)*64+(b3-128)
def TA(L b0 b1 b2 b3:Nat):Nat×Nat:=
 if b0<128 then(b0,1)
 else if 194<=b0/\b0<224/\qD L 1 b1 then((b0-192)*64+(b1-128),2)
 else if 224<=b0/\b0<240/\qD L 1 b1/\qD L 2 b2/\2048<=c3 b0 b1 b2/\(c3 b0 b1 b2<55296\/57343<c3 b0 b1 b2)then(c3 b0 b1 b2,3)
 else if 240<=b0/\b0<245/\qD L 1 b1/\qD L 2 b2/\qD L 3 b3/\65536<=c4 b0 b1 b2 b3/\c4 b0 b1 b2 b3<=1114111 then(c4 b0 b1 b2 b3,4)
 else(65533,1)
theorem HB{L b0 b1 b2 b3:Nat}(h0:b0<256)(h1:b1<256)(h2:b2<256)(h3:b3<256):Lib.decodeN L b0 b1 b2 b3=TA L b0 b1 b2 b3:=by
 have m1:(1<L/\b1/64=2)↔qD L 1 b1:=by unfold qD;omega
 have m2:(2<L/\b2/64=2)↔qD L 2 b2:=by unfold qD;omega
 have m3:(3<L/\b3/64=2)↔qD L 3 b3:=by unfold qD;omega
 unfold Lib.decodeN TA;simp only[m1,m2,m3];by_cases a0:b0<128
 ·rw[if_pos a0,if_pos a0]
 rw[if_neg a0,if_neg a0];by_cases a1:b0<194
 ·rw[if_neg (show¬(194<=b0/\b0<224/\qD L 1 b1)fromλh=>by omega),if_neg (show¬(224<=b0/\b0<240/\_)fromλh=>by omega),if_neg (show¬(240<=b0/\b0<245/\_)fromλh=>by omega)];rw[if_neg (show¬(b0/16=14/\_)fromλh=>by omega),if_neg (show¬(b0/8=30/\_)fromλh=>by omega)];by_cases a2:b0/32=6/\qD L 1 b1
  ·rw[if_pos a2,if_neg (by omega)]
  ·rw[if_neg a2]
 by_cases a2:b0<224
 ·rw[if_neg (show¬(224<=b0/\b0<240/\_)fromλh=>by omega),if_neg (show¬(240<=b0/\b0<245/\_)fromλh=>by omega)];rw[if_neg (show¬(b0/16=14/\_)fromλh=>by omega),if_neg (show¬(b0/8=30/\_)fromλh=>by omega)];by_cases q:qD L 1 b1
  ·have q':=q;unfold qD at q';rw[if_pos ⟨by omega,q⟩,if_pos (by omega),if_pos ⟨by omega,a2,q⟩];apply Prod.ext
   ·show b0%32*64+b1%64=(b0-192)*64+(b1-128);omega
   ·rfl
  ·rw[if_neg (λh=>q h.2),if_neg (λh=>q h.2.2)]
 by_cases a3:b0<240
 ·rw[if_neg (show¬(194<=b0/\b0<224/\qD L 1 b1)fromλh=>by omega),if_neg (show¬(240<=b0/\b0<245/\_)fromλh=>by omega)];rw[if_neg (show¬(b0/32=6/\_)fromλh=>by omega),if_neg (show¬(b0/8=30/\_)fromλh=>by omega)];by_cases q:qD L 1 b1/\qD L 2 b2
  ·have q':=q;unfold qD at q';have e:b0%16*4096+b1%64*64+b2%64=c3 b0 b1 b2:=by unfold c3;omega
   have e2:c3 b0 b1 b2<=65535:=by unfold c3;omega
   rw[if_pos ⟨by omega,q.1,q.2⟩];simp only[e];by_cases r:2048<=c3 b0 b1 b2/\(c3 b0 b1 b2<55296\/57343<c3 b0 b1 b2)
   ·rw[if_pos ⟨r.1,by omega⟩,if_pos ⟨by omega,a3,q.1,q.2,r.1,r.2⟩]
   ·rw[if_neg (by omega),if_neg (λh=>r ⟨h.2.2.2.2.1,h.2.2.2.2.2⟩)]
  ·rw[if_neg (λh=>q ⟨h.2.1,h.2.2⟩),if_neg (λh=>q ⟨h.2.2.1,h.2.2.2.1⟩)]
 ·rw[if_neg (show¬(194<=b0/\b0<224/\qD L 1 b1)fromλh=>by omega),if_neg (show¬(224<=b0/\b0<240/\_)fromλh=>by omega)];rw[if_neg (show¬(b0/32=6/\_)fromλh=>by omega),if_neg (show¬(b0/16=14/\_)fromλh=>by omega)];by_cases q:qD L 1 b1/\qD L 2 b2/\qD L 3 b3
  ·have q':=q;unfold qD at q';by_cases a4:b0<248
   ·have e:b0%8*262144+b1%64*4096+b2%64*64+b3%64=c4 b0 b1 b2 b3:=by unfold c4;omega
    rw[if_pos ⟨by omega,q.1,q.2.1,q.2.2⟩];simp only[e];by_cases r:65536<=c4 b0 b1 b2 b3/\c4 b0 b1 b2 b3<=1114111
    ·rw[if_pos ⟨r.1,by omega⟩,if_pos ⟨by omega,by have:=r.2;unfold c4 at this;omega,q.1,q.2.1,q.2.2,r.1,r.2⟩]
    ·rw[if_neg (by omega),if_neg (λh=>r ⟨h.2.2.2.2.2.1,h.2.2.2.2.2.2⟩)]
   ·rw[if_neg (show¬(b0/8=30/\_)fromλh=>by omega),if_neg (show¬(240<=b0/\b0<245/\_)fromλh=>by omega)]
  ·rw[if_neg (λh=>q ⟨h.2.1,h.2.2.1,h.2.2.2⟩),if_neg (λh=>q ⟨h.2.2.1,h.2.2.2.1,h.2.2.2.2.1⟩)]
theorem LG{s:aH}{k:Nat}:kM s (i+k)=true↔qD (s.length-i) k (bt s (i+k)):=by
 unfold kM qD;rw[Bool.and_eq_true,decide_eq_true_iff,decide_eq_true_iff];rcases Nat.lt_or_ge (i+k) s.length with h|h
 ·rw[kD h];omega
 ·rw[DG h];omega
def Qo(L b0 b1 b2 b3:Nat):Nat:=
 if b0<128 then 1
 else if 194<=b0/\b0<224/\qD L 1 b1 then 2
 else if 224<=b0/\b0<240/\qD L 1 b1/\qD L 2 b2/\2048<=c3 b0 b1 b2/\(c3 b0 b1 b2<55296\/57343<c3 b0 b1 b2)then 3
 else if 240<=b0/\b0<245/\qD L 1 b1/\qD L 2 b2/\qD L 3 b3/\65536<=c4 b0 b1 b2 b3/\c4 b0 b1 b2 b3<=1114111 then 4
 else 0
set_option maxHeartbeats 4000000 in
theorem AP{s:aH}(h:i<s.length):eK s i=Qo (s.length-i) (bt s i) (bt s (i+1)) (bt s (i+2)) (bt s (i+3)):=by
 unfold eK Qo;simp only[LG,kD h];by_cases h1:i+1<s.length
 ·by_cases h2:i+2<s.length
  ·by_cases h3:i+3<s.length
   ·simp only[kD h1,kD h2,kD h3,qD,c3,c4]
    repeat' split
    all_goals first|rfl|(exfalso;omega)
   ·simp only[kD h1,kD h2,qD,c3,c4]
    repeat' split
    all_goals first|rfl|(exfalso;omega)
  ·simp only[kD h1,qD,c3,c4]
   repeat' split
   all_goals first|rfl|(exfalso;omega)
 ·simp only[qD,c3,c4]
  repeat' split
  all_goals first|rfl|(exfalso;omega)
theorem Ww(s:aH)(i:Nat)(h:i<s.length):UInt8.ofNat (bt s i)=s[i]:=by
 unfold bt;rw[List.getD_eq_getElem?_getD,List.getElem?_eq_getElem h];simp
theorem wV{s:aH}(h:i<s.length):(s.drop i).take 1=[UInt8.ofNat (bt s i)]:=by
 rw[Ww s i h,List.drop_eq_getElem_cons h];rfl
theorem nP{s:aH}(h:i<s.length):(s.drop i).take (n+1)=UInt8.ofNat (bt s i)::(s.drop (i+1)).take n:=by
 rw[Ww s i h,List.drop_eq_getElem_cons h];rfl
set_option maxHeartbeats 4000000 in
theorem Gh{s:aH}(h:i<s.length)(h0:eK s i=0):Utf8.decode (aL s) i=(65533,1):=by
 rw[KC,HB (xP _ _) (xP _ _) (xP _ _) (xP _ _)];rw[AP h]at h0;unfold Qo at h0;unfold TA
 repeat' split at h0
 all_goals first|(exfalso;omega)|skip
 all_goals(repeat rw[if_neg (by assumption)])
structure PC(s:aH)(i n c:Nat):Prop where
 dec:Utf8.decode (aL s) i=(c,n)
 fits:i+n<=s.length
 small:n<=4
 bytes:Lib.encodeRune c=(s.drop i).take n
 low:n=1->c=bt s i/\c<128
 high:2<=n->128<=c/\128<=bt s i
 top:c<=1114111
 val:c<55296\/57343<c
theorem vA(l:List Int):(l.map λx=>x.toNat.toUInt8)=l.map λx=>UInt8.ofNat x.toNat:=rfl
set_option maxHeartbeats 8000000 in
theorem qV{s:aH}(h:i<s.length)(h0:eK s i≠0):∃c,PC s i (eK s i) c:=by
 have e:=KC s i;rw[HB (xP _ _) (xP _ _) (xP _ _) (xP _ _)]at e;have hr:=AP h;have l0:=xP s i;generalize hn:eK s i=n at*
 unfold Qo at hr;unfold TA at e;by_cases a1:bt s i<128
 ·rw[if_pos a1]at hr e;subst hr;refine⟨_,e,by omega,by omega,?_,λ_=>⟨rfl,a1⟩,λh=>by omega,by omega,by omega⟩;rw[wV h,Lib.encodeRune,Lib.encodeRuneZ_one (by omega) (by omega)];simp
 rw[if_neg a1]at hr e;by_cases a2:194<=bt s i/\bt s i<224/\qD (s.length-i) 1 (bt s (i+1))
 ·rw[if_pos a2]at hr e;subst hr;obtain⟨a2,a3,a4,a5,a6⟩:=a2;refine⟨_,e,by omega,by omega,?_,λh=>by omega,λh=>by omega,by omega,by omega⟩;rw[nP h,wV (by omega),Lib.encodeRune,Lib.encodeRuneZ_two (by omega) (by omega)];simp only[List.map_cons,List.map_nil,vA];rw[show((192:Int)+(((bt s i-192)*64+(bt s (i+1)-128):Nat):Int)/64).toNat=bt s i by omega,show((128:Int)+(((bt s i-192)*64+(bt s (i+1)-128):Nat):Int)%64).toNat=bt s (i+1)by omega]
 rw[if_neg a2]at hr e;by_cases a3:224<=bt s i/\bt s i<240/\qD (s.length-i) 1 (bt s (i+1))/\qD (s.length-i) 2 (bt s (i+2))/\2048<=c3 (bt s i) (bt s (i+1)) (bt s (i+2))/\(c3 (bt s i) (bt s (i+1)) (bt s (i+2))<55296\/57343<c3 (bt s i) (bt s (i+1)) (bt s (i+2)))
 ·rw[if_pos a3]at hr e;subst hr;obtain⟨p1,p2,⟨p3,p4,p5⟩,⟨p6,p7,p8⟩,p9,p10⟩:=a3;have q3:c3 (bt s i) (bt s (i+1)) (bt s (i+2))=(bt s i-224)*4096+(bt s (i+1)-128)*64+(bt s (i+2)-128):=rfl;refine⟨_,e,by omega,by omega,?_,λh=>by omega,λh=>by omega,by omega,by omega⟩;rw[nP h,nP (by omega),wV (by omega),Lib.encodeRune,Lib.encodeRuneZ_three (by omega)];simp only[List.map_cons,List.map_nil,vA];rw[show((224:Int)+((c3 (bt s i) (bt s (i+1)) (bt s (i+2)):Nat):Int)/4096).toNat=bt s i by unfold c3;omega,show((128:Int)+((c3 (bt s i) (bt s (i+1)) (bt s (i+2)):Nat):Int)/64%64).toNat=bt s (i+1)by unfold c3;omega,show((128:Int)+((c3 (bt s i) (bt s (i+1)) (bt s (i+2)):Nat):Int)%64).toNat=bt s (i+2)by unfold c3;omega]
 rw[if_neg a3]at hr e;by_cases a4:240<=bt s i/\bt s i<245/\qD (s.length-i) 1 (bt s (i+1))/\qD (s.length-i) 2 (bt s (i+2))/\qD (s.length-i) 3 (bt s (i+3))/\65536<=c4 (bt s i) (bt s (i+1)) (bt s (i+2)) (bt s (i+3))/\c4 (bt s i) (bt s (i+1)) (bt s (i+2)) (bt s (i+3))<=1114111
 ·rw[if_pos a4]at hr e;subst hr;obtain⟨p1,p2,⟨p3,p4,p5⟩,⟨p6,p7,p8⟩,⟨p9,p10,p11⟩,p12,p13⟩:=a4;refine⟨_,e,by omega,by omega,?_,λh=>by omega,λh=>by omega,by omega,by omega⟩;rw[nP h,nP (by omega),nP (by omega),wV (by omega),Lib.encodeRune,Lib.encodeRuneZ_four (by omega) (by omega)];simp only[List.map_cons,List.map_nil,vA];rw[show((240:Int)+((c4 (bt s i) (bt s (i+1)) (bt s (i+2)) (bt s (i+3)):Nat):Int)/262144).toNat=bt s i by unfold c4;omega,show((128:Int)+((c4 (bt s i) (bt s (i+1)) (bt s (i+2)) (bt s (i+3)):Nat):Int)/4096%64).toNat=bt s (i+1)by unfold c4;omega,show((128:Int)+((c4 (bt s i) (bt s (i+1)) (bt s (i+2)) (bt s (i+3)):Nat):Int)/64%64).toNat=bt s (i+2)by unfold c4;omega,show((128:Int)+((c4 (bt s i) (bt s (i+1)) (bt s (i+2)) (bt s (i+3)):Nat):Int)%64).toNat=bt s (i+3)by unfold c4;omega]
 rw[if_neg a4]at hr;exact absurd hr h0
def qO(s:aH)(i:Nat):Nat:=max (eK s i) 1
theorem Ph{s:aH}(h:i<s.length):(Utf8.decode (aL s) i).2=qO s i:=by
 unfold qO;by_cases h0:eK s i=0
 ·rw[Gh h h0,h0];rfl
 ·obtain⟨c,hc⟩:=qV h h0;rw[hc.dec];show eK s i=max (eK s i) 1;omega
theorem Lh{s:aH}(h:i<s.length):i+qO s i<=s.length:=by
 unfold qO;by_cases h0:eK s i=0
 ·rw[h0];show i+1<=_;omega
 ·obtain⟨c,hc⟩:=qV h h0;have:=hc.fits;omega
theorem MU(s:aH)(i:Nat):1<=qO s i:=by unfold qO;omega
theorem rune_end{s:aH}(h:s.length<=i):eK s i=0:=by
 unfold eK;simp only[DG h];rfl
theorem WB(h:n<55296\/57343<n/\n<=1114111):Lib.encodeRune n=FL n:=by
 unfold Lib.encodeRune FL b8;by_cases h1:n<128
 ·rw[Lib.encodeRuneZ_one (by omega) (by omega),if_pos h1];simp
 rw[if_neg h1];by_cases h2:n<2048
 ·rw[Lib.encodeRuneZ_two (by omega) (by omega),if_pos h2];simp only[List.map_cons,List.map_nil,vA];rw[show((192:Int)+(n:Int)/64).toNat=192+n/64 by omega,show((128:Int)+(n:Int)%64).toNat=128+n%64 by omega]
 rw[if_neg h2];by_cases h3:n<65536
 ·rw[Lib.encodeRuneZ_three (by omega),if_pos h3];simp only[List.map_cons,List.map_nil,vA];rw[show((224:Int)+(n:Int)/4096).toNat=224+n/4096 by omega,show((128:Int)+(n:Int)/64%64).toNat=128+n/64%64 by omega,show((128:Int)+(n:Int)%64).toNat=128+n%64 by omega]
 ·rw[Lib.encodeRuneZ_four (by omega) (by omega),if_neg h3];simp only[List.map_cons,List.map_nil,vA];rw[show((240:Int)+(n:Int)/262144).toNat=240+n/262144 by omega,show((128:Int)+(n:Int)/4096%64).toNat=128+n/4096%64 by omega,show((128:Int)+(n:Int)/64%64).toNat=128+n/64%64 by omega,show((128:Int)+(n:Int)%64).toNat=128+n%64 by omega]
theorem nT{s u r:aH}{j:Nat}(h:s.drop i=u++r)(hj:j<u.length):eR s (i+j)=u[j].toNat:=by
 have:s.drop (i+j)=u[j]::(u.drop (j+1)++r):=by
  rw[<-List.drop_drop,h,List.drop_append_of_le_length (by omega),List.drop_eq_getElem_cons hj];rfl
 exact byte_at this
theorem CG{s t:aH}{k m:Nat}(hm:0<m)(h:eK s i=m)(hb:∀j,j<m->eR t (k+j)=eR s (i+j)):eK t k=m:=by
 have e0:eR t k=eR s i:=hb 0 hm;unfold eK at h⊢;dsimp only at h;simp only[e0];by_cases h1:m=1
 ·subst h1;split at h
  ·omega
  rename_i a;split at h
  ·rename_i b;rw[if_neg a,if_pos b]
  split at h
  ·omega
  split at h
  ·omega
  split at h<;>omega
 by_cases h2:m=2
 ·subst h2;have e1:=hb 1 (by omega);have m1:kM t (k+1)=kM s (i+1):=by unfold kM;rw[e1]
  simp only[m1];split at h
  ·omega
  rename_i a;split at h
  ·omega
  rename_i b;split at h
  ·rename_i c;rw[if_neg a,if_neg b,if_pos c]
  split at h
  ·omega
  split at h<;>omega
 by_cases h3:m=3
 ·subst h3;have e1:=hb 1 (by omega);have e2:=hb 2 (by omega);have m1:kM t (k+1)=kM s (i+1):=by unfold kM;rw[e1]
  have m2:kM t (k+2)=kM s (i+2):=by unfold kM;rw[e2]
  simp only[m1,m2,e1,e2];split at h
  ·omega
  rename_i a;split at h
  ·omega
  rename_i b;split at h
  ·omega
  rename_i c;split at h
  ·rename_i d;rw[if_neg a,if_neg b,if_neg c,if_pos d]
  split at h<;>omega
 by_cases h4:m=4
 ·subst h4;have e1:=hb 1 (by omega);have e2:=hb 2 (by omega);have e3:=hb 3 (by omega);simp only[kM,e1,e2,e3]at h⊢;exact h
 ·exfalso;split at h
  ·omega
  split at h
  ·omega
  split at h
  ·omega
  split at h
  ·omega
  split at h<;>omega
theorem Qn{s:aH}(h:eK s i≠0):i<s.length:=by
 apply Nat.lt_of_not_le;intro hle;exact h (rune_end hle)
theorem Lt{s:aH}(h:eK s i≠0):i+eK s i<=s.length:=by
 obtain⟨c,hc⟩:=qV (Qn h) h;exact hc.fits
def Rn(u:aH):Prop:=u≠[]/\eK u 0=u.length
theorem Rn.pos{u:aH}(h:Rn u):0<u.length:=List.length_pos_iff.2 h.1
theorem Rn.at{u s r:aH}(h:Rn u)(hs:s.drop i=u++r):eK s i=u.length:=by
 refine CG (s:=u) (i:=0) h.pos h.2 λj hj=>?_;rw[nT hs hj,nT (s:=u) (i:=0) (u:=u) (r:=[]) (by simp) hj]
theorem Rn.of{s:aH}(h:eK s i≠0):Rn ((s.drop i).take (eK s i)):=by
 have hf:=Lt h;have hl:((s.drop i).take (eK s i)).length=eK s i:=by rw[List.length_take,List.length_drop];omega
 refine⟨λe=>by rw[e]at hl;simp at hl;omega,?_⟩;rw[hl];refine CG (s:=s) (i:=i) (by omega) rfl λj hj=>?_;rw[nT (s:=s) (i:=i) (u:=(s.drop i).take (eK s i)) (r:=(s.drop i).drop (eK s i)) (List.take_append_drop _ _).symm (by omega),nT (s:=(s.drop i).take (eK s i)) (i:=0) (u:=(s.drop i).take (eK s i)) (r:=[]) (by simp) (by omega)]
inductive Utf:aH->Prop where
 |nil:Utf []
 |cons {u r:aH}:Rn u->Utf r->Utf (u++r)
theorem Rn.cases{u:aH}(h:Rn u):(∃c:UInt8,u=[c]/\c.toNat<128)\/(∀c∈u,128<=c.toNat):=by
 have hr:=h.2;have hp:=h.pos;have hb:∀j,(hj:j<u.length)->eR u j=u[j].toNat:=λj hj=>by
  have:=nT (s:=u) (i:=0) (u:=u) (r:=[]) (by simp) hj;rwa[Nat.zero_add]at this
 have hm:∀j,(hj:j<u.length)->kM u j=true->128<=u[j].toNat:=λj hj hm=>by
  unfold kM at hm;rw[hb j hj,Bool.and_eq_true,decide_eq_true_iff,decide_eq_true_iff]at hm;omega
 unfold eK at hr;rw[hb 0 hp]at hr;simp only[Nat.zero_add]at hr;have hall:(∀j,(hj:j<u.length)->128<=u[j].toNat)->∀c∈u,128<=c.toNat:=λhj c hc=>by
  obtain⟨j,h1,rfl⟩:=List.getElem_of_mem hc;exact hj j h1
 split at hr
 ·omega
 split at hr
 ·rename_i hlt;left;obtain⟨c,rfl⟩:=List.length_eq_one_iff.1 hr.symm;refine⟨c,rfl,?_⟩;have e:([c]:aH)[0].toNat=c.toNat:=rfl;omega
 right;refine hall λj hj=>?_;split at hr
 ·rename_i c;obtain⟨c1,_,c2⟩:=c;obtain rfl|rfl:j=0\/j=1:=by omega
  ·omega
  ·exact hm 1 hj c2
 split at hr
 ·rename_i c;obtain⟨c1,_,c2,c3,_⟩:=c;obtain rfl|rfl|rfl:j=0\/j=1\/j=2:=by omega
  ·omega
  ·exact hm 1 hj c2
  ·exact hm 2 hj c3
 split at hr
 ·rename_i c;obtain⟨c1,_,c2,c3,c4,_⟩:=c;obtain rfl|rfl|rfl|rfl:j=0\/j=1\/j=2\/j=3:=by omega
  ·omega
  ·exact hm 1 hj c2
  ·exact hm 2 hj c3
  ·exact hm 3 hj c4
 ·omega
def escOk(c:UInt8):Bool:=
 match aBD c with
 |[d]=>decide (d=c)&&decide (c≠34)&&decide (c≠92)&&decide (32<=c.toNat)
 |[a,b]=>decide (a=92)&&decide (aDE [a,b] 0=some ([c],2))
 |[a,b,d,e,f,g]=>decide (a=92)&&decide (b=117)&&decide (Zb [a,b,d,e,f,g] 0=c.toNat)
 |_=>false
end
section
open Go Go.Num
def BL(l:aH):Prop:=∀c∈l,SY (c.toNat:Int)=true
mutual
def Sp:JV->aH->Prop
 |.mk k b t xs ks,s=>
  if k=5 then(xs=[]/\∃a,BL a/\s=[91]++a++[93])\/(∃u,SpL xs u/\s=[91]++u++[93])
  else if k=6 then(xs=[]/\ks=[]/\∃a,BL a/\s=[123]++a++[125])\/(∃u,SpO xs ks u/\s=[123]++u++[125])
  else s=VZ (.mk k b t xs ks)
def SpL:List JV->aH->Prop
 |[],_=>False
 |x::xs,s=>(xs=[]/\∃a t b,BL a/\Sp x t/\BL b/\s=a++t++b)\/(∃a t b u,BL a/\Sp x t/\BL b/\SpL xs u/\s=a++t++b++[44]++u)
def SpO:List JV->List aH->aH->Prop
 |x::xs,k::ks,s=>(xs=[]/\ks=[]/\∃a b c t d,BL a/\BL b/\BL c/\Sp x t/\BL d/\s=a++Er k++b++[58]++c++t++d)\/
   (∃a b c t d u,BL a/\BL b/\BL c/\Sp x t/\BL d/\SpO xs ks u/\s=a++Er k++b++[58]++c++t++d++[44]++u)
 |_,_,_=>False
end
end
section
open Go Go.Num
variable{w:World}{K:Q0}{cs:List Value}{G:Nat->Prop}{T:TypeId}{i:Nat}{n:Nat}{v:Value}{w':World}{P:Program}{c:UInt8}{S:Nat->Prop}
theorem Ki{l:List (aH×JV)}{k:aH}{t:JV}:∀p,p∈insP l k t↔p=(k,t)\/p∈l:=by
 induction l with
 |nil=>intro p;simp[insP]
 |cons q r ih=>
  obtain⟨a,y⟩:=q;intro p;simp only[insP];split
  ·rw[List.mem_cons]
  ·rw[List.mem_cons,ih p,List.mem_cons];constructor
   ·rintro(h|h|h)
    ·exact .inr (.inl h)
    ·exact .inl h
    ·exact .inr (.inr h)
   ·rintro(h|h|h)
    ·exact .inr (.inl h)
    ·exact .inl h
    ·exact .inr (.inr h)
theorem SZ(l:List (aH×JV))(k:aH)(x:JV):(insP l k x).length=l.length+1:=by
 induction l with
 |nil=>rfl
 |cons q r ih=>
  obtain⟨a,y⟩:=q;simp only[insP];split
  ·rfl
  ·simp only[List.length_cons,ih]
theorem No{l:List (aH×JV)}{k:aH}{x:JV}(h:HW (l.map (·.1)))(hk:k∉l.map (·.1)):HW ((insP l k x).map (·.1)):=by
 induction l with
 |nil=>exact List.pairwise_singleton _ _
 |cons q r ih=>
  obtain⟨a,y⟩:=q;simp only[List.map_cons]at h hk;have hp:=List.pairwise_cons.1 h;simp only[insP];split
  ·rename_i hlt;simp only[List.map_cons];refine List.Pairwise.cons (λc hc=>?_) h;rcases List.mem_cons.1 hc with rfl|hc
   ·exact hlt
   ·exact lT hlt (hp.1 c hc)
  ·rename_i hlt;have hka:k≠a:=λe=>hk (by rw[e];exact List.mem_cons_self);have hak:Op.bytesLess a k=true:=by
    rcases Bn k a with h|h|h
    ·exact absurd h hlt
    ·exact absurd h hka
    ·exact h
   simp only[List.map_cons];refine List.Pairwise.cons (λc hc=>?_) (ih hp.2 λh=>hk (List.mem_cons_of_mem _ h));obtain⟨p,hp1,rfl⟩:=List.mem_map.1 hc;rcases(Ki p).1 hp1 with rfl|hp1
   ·exact hak
   ·exact hp.1 _ (List.mem_map.2 ⟨p,hp1,rfl⟩)
theorem Mw(l:List (aH×JV)):(l.map (·.1)).zip (l.map (·.2))=l:=by
 induction l with
 |nil=>rfl
 |cons q r ih=>simp only[List.map_cons,List.zip_cons_cons,ih]
theorem OP{l:List (aH×JV)}{k:aH}(h:(tO (mA l) k).isSome=false):k∉l.map (·.1):=by
 intro hm;unfold tO mA at h;simp only[JV.k,JV.ks,JV.xs,if_true]at h;cases hx:rH (l.map (·.1)) k with
 |none=>exact uW.1 hx hm
 |some i=>
  rw[hx]at h;have:=(List.getElem?_eq_some_iff.1 (rG hx)).1;rw[List.length_map]at this;simp[this]at h
theorem Qu{l:List (aH×JV)}{k:aH}{x:JV}(h:k∉l.map (·.1)):rV (mA l) k x=mA (insP l k x):=by
 unfold rV;have e1:(mA l).k=6:=rfl;have e2:(mA l).ks=l.map (·.1):=rfl;have e3:(mA l).xs=l.map (·.2):=rfl;rw[if_pos e1,e2,e3,Mw];congr 2;unfold kB;rw[List.filter_eq_self];intro p hp;rw[Bool.not_eq_true',decide_eq_false_iff_not];intro e;exact h (List.mem_map.2 ⟨p,hp,e⟩)
end
end Go.Eng
namespace Go.Proofs.YtghhmpppnmoeoaaGreatDoor
section
open Go Go.Eng
variable{w:World}{K:Q0}{cs:List Value}{G:Nat->Prop}{T:TypeId}{i:Nat}{n:Nat}{v:Value}{w':World}{P:Program}{c:UInt8}{S:Nat->Prop}
section
variable [HX]
theorem wY{a:Nat}{x:List Value}(h:w.heap[a]?=some (.cells x.toArray T (0,0))):w.shape? a=some (T,x.length):=by simp[World.shape?,h]
theorem aDx{a b oa ob la ca lb cb:Nat}{x y:List Value}{T1 T2:TypeId}{K:Q0}(hne:a≠b)(ha:w.heap[a]?=some (.cells x.toArray T1 (0,0)))(hb:w.heap[b]?=some (.cells y.toArray T2 (0,0)))(hy:y≠[])(hK:K (.bool false) w):
  aA P0 208 [.slice (some ⟨a,oa,none⟩) la ca,.slice (some ⟨b,ob,none⟩) lb cb] w K:=by
 unfold aA;rw[run_callFunc_extern Tryz.func208 (by kernel_rfl) (by kernel_rfl) (by kernel_rfl) (e:=Extern.SlicesOverlaps.overlaps #[24,24] #[4]) (by kernel_rfl),
  Lib.run_overlaps_apart w 24 4 ST (by kernel_rfl) 1 (λw=>by kernel_rfl) ⟨a,oa,none⟩ ⟨b,ob,none⟩ la ca lb cb hne T1 T2 x.length y.length (wY ha) (wY hb) (λe=>hy (List.eq_nil_of_length_eq_zero e)) (by rw[iG,ha,mG]) (by rw[iG,ha,mG])]
 exact hK
theorem aDw{a b oa ob la ca lb cb:Nat}{x y:List Value}{T1 T2:TypeId}{K:Q0}(hne:a≠b)(ha:w.heap[a]?=some (.cells x.toArray T1 (0,0)))(hb:w.heap[b]?=some (.cells y.toArray T2 (0,0)))(hy:y≠[])(hK:K (.bool false) w):
  aA P0 210 [.slice (some ⟨a,oa,none⟩) la ca,.slice (some ⟨b,ob,none⟩) lb cb] w K:=by
 unfold aA;rw[run_callFunc_extern Tryz.func210 (by kernel_rfl) (by kernel_rfl) (by kernel_rfl) (e:=Extern.SlicesOverlaps.overlaps #[23,23] #[4]) (by kernel_rfl),
  Lib.run_overlaps_apart w 23 4 VT (by kernel_rfl) 5 (λw=>by kernel_rfl) ⟨a,oa,none⟩ ⟨b,ob,none⟩ la ca lb cb hne T1 T2 x.length y.length (wY ha) (wY hb) (λe=>hy (List.eq_nil_of_length_eq_zero e)) (by rw[iG,ha,mG]) (by rw[iG,ha,mG])]
 exact hK
theorem OI{base tb:Nat}{xs c:List Value}{T2:TypeId}{K:Q0}(hown:Own w base ST 1 v n xs)(ht:w.heap[tb]?=some (.cells c.toArray T2 (0,0)))(hc:c.length=1)(h1:∀u∈c,cY u=true)(hx1:∀u∈xs,cY u=true)
  (hne:v.ownBlock≠some tb)(hi:i<=n)(hn:n<=1000000)(hbase:base<=w.heap.size)
  (hK:∀v' w',Own w' base ST 1 v' (n+1) (xs.take (i*1)++c++xs.drop (i*1))->aS (λk=>v.ownBlock=some k) w w'->(∀k,v'.ownBlock=some k->v.ownBlock=some k\/w.heap.size<=k)->K v' w'):
  aA P0 154 [v,i64 (i:Nat),.slice (some ⟨tb,0,none⟩) 1 1] w K:=by
 refine UU ?_;show VN P0 1 24 3 208 209 _ _ _ _ _;exact GZ Jq (by kernel_rfl) aDx hown ht hc h1 hx1 hne hi hn (by decide) hbase hK
theorem OH{base tb:Nat}{xs c:List Value}{T2:TypeId}{K:Q0}(hown:Own w base VT 5 v n xs)(ht:w.heap[tb]?=some (.cells c.toArray T2 (0,0)))(hc:c.length=5)(h1:∀u∈c,cY u=true)(hx1:∀u∈xs,cY u=true)
  (hne:v.ownBlock≠some tb)(hi:i<=n)(hn:n<=1000000)(hbase:base<=w.heap.size)
  (hK:∀v' w',Own w' base VT 5 v' (n+1) (xs.take (i*5)++c++xs.drop (i*5))->aS (λk=>v.ownBlock=some k) w w'->(∀k,v'.ownBlock=some k->v.ownBlock=some k\/w.heap.size<=k)->K v' w'):
  aA P0 155 [v,i64 (i:Nat),.slice (some ⟨tb,0,none⟩) 1 1] w K:=by
 refine UT ?_;show VN P0 5 23 3 210 211 _ _ _ _ _;exact GZ Fo (by kernel_rfl) aDw hown ht hc h1 hx1 hne hi hn (by decide) hbase hK
end
theorem bB.app{G:Nat->Prop}{w:World}:∀{xs ys:List JV} {L M:List Value},bB G w xs L->bB G w ys M->bB G w (xs++ys) (L++M)
 |[],ys,L,M,h,h'=>by simp only[bB]at h;subst h;exact h'
 |x::xs,ys,L,M,h,h'=>by
  simp only[bB]at h
  obtain⟨c,r,rfl,hc,hr⟩:=h
  simp only[List.cons_append,bB]
  exact⟨c,r++M,by simp,hc,bB.app hr h'⟩
theorem bB.cut{G:Nat->Prop}{w:World}:∀(i:Nat) {xs:List JV} {L:List Value},bB G w xs L->bB G w (xs.take i) (L.take (i*5))/\bB G w (xs.drop i) (L.drop (i*5))
 |0,xs,L,h=>by simp only[Nat.zero_mul,List.take_zero,List.drop_zero,bB];exact⟨trivial,h⟩
 |i+1,[],L,h=>by simp only[bB]at h;subst h;simp[bB]
 |i+1,x::xs,L,h=>by
  simp only[bB]at h
  obtain⟨c,r,rfl,hc,hr⟩:=h
  have h5:=hc.rep.len
  obtain⟨h1,h2⟩:=bB.cut i hr
  have e1:(c++r).take ((i+1)*5)=c++r.take (i*5):=by
   rw[show(i+1)*5=c.length+i*5 by omega,List.take_append,List.take_of_length_le (by omega),Nat.add_sub_cancel_left]
  have e2:(c++r).drop ((i+1)*5)=r.drop (i*5):=by
   rw[show(i+1)*5=c.length+i*5 by omega,List.drop_append];simp
  rw[e1,e2];simp only[List.take_succ_cons,List.drop_succ_cons,bB];exact⟨⟨c,_,rfl,hc,h1⟩,h2⟩
theorem bB.one'{x:JV}(h:bE G w x cs):bB G w [x] cs:=by
 simp only[bB];exact⟨cs,[],by simp,h,rfl⟩
theorem LN{l:List (aH×JV)}{k:aH}{x:JV}(hk:k∉l.map (·.1))(h1:∀j a,j<i->(l.map (·.1))[j]?=some a->Op.bytesLess a k=true)(h2:∀j a,i<=j->(l.map (·.1))[j]?=some a->Op.bytesLess a k=false):insP l k x=l.take i++(k,x)::l.drop i:=by
 induction l generalizing i with
 |nil=>simp[insP]
 |cons q r ih=>
  obtain⟨a,y⟩:=q;simp only[List.map_cons,List.mem_cons,not_or]at hk;simp only[insP];cases i with
  |zero=>
   have:=h2 0 a (Nat.zero_le _) rfl;have hka:Op.bytesLess k a=true:=by
    rcases Bn k a with h|h|h
    ·exact h
    ·exact absurd h hk.1
    ·rw[this]at h;cases h
   rw[if_pos hka];rfl
  |succ i=>
   have:=h1 0 a (by omega) rfl;rw[if_neg (by rw[LI this];simp),ih (i:=i) hk.2 (λj b hj hb=>h1 (j+1) b (by omega) hb) (λj b hj hb=>h2 (j+1) b (by omega) hb)];rfl
theorem gE{B:Nat}{e:TypeId}{size:Nat}{xs:List Value}(h:Own w B e size v n xs)(hc:aS S w w')(hS:∀k,v.ownBlock=some k->¬S k):Own w' B e size v n xs:=by
 obtain⟨hl,h|⟨g,cap,bO,rfl,h1,h2,h3⟩⟩:=h
 ·exact⟨hl,.inl h⟩
 ·exact⟨hl,.inr ⟨g,cap,bO,rfl,h1,hc.at h2 (hS g rfl),h3⟩⟩
theorem fP{B:Nat}{e:TypeId}{size:Nat}{k:Nat}{xs:List Value}(h:Own w B e size v n xs)(hk:v.ownBlock=some k):B<=k/\k<w.heap.size/\∃c,w.heap[k]?=some (.cells c e (0,0)):=by
 obtain⟨hl,⟨rfl,_⟩|⟨g,cap,bO,rfl,h1,h2,h3⟩⟩:=h
 ·cases hk
 ·simp only[Value.ownBlock,Option.some.injEq]at hk;subst hk;exact⟨h1,dA h2,_,h2⟩
theorem rY{B:Nat}{e:TypeId}{size:Nat}{xs:List Value}(h:Own w B e size v n xs):cY v=true:=by obtain⟨p,c,rfl,_⟩:=h.sl.shape;rfl
theorem MQ(l:List aH):∀u∈l.map str,cY u=true:=λu hu=>by
 obtain⟨s,_,rfl⟩:=List.mem_map.1 hu
 rfl
section
variable [HX]
structure FF(w:World)(B:Nat)(v:JV)(sv kv:Value)(L:List Value):Prop where
 items:Own w B VT 5 sv v.xs.length L
 reps:bB (λq=>B<=q/\sv.ownBlock≠some q/\kv.ownBlock≠some q) w v.xs L
 keys:Own w B ST 1 kv v.ks.length (v.ks.map str)
 fits:Fits v.xs.length v.ks v.t
theorem FF.ext{B:Nat}{v:JV}{sv kv:Value}{L:List Value}(h:FF w B v sv kv L)(hx:bA w w'):FF w' B v sv kv L:=⟨gE h.items hx λ_ _ e=>e,bB.chg hx (λ_ _ _ e=>e) h.reps,gE h.keys hx λ_ _ e=>e,h.fits⟩
theorem FF.rep{B:Nat}{v:JV}{sv kv:Value}{L:List Value}(h:FF w B v sv kv L):bE (vJ B) w v [i64 v.k,.bool v.b,str v.t,sv,kv]:=
 bE.mk h.items.sl (h.reps.mono λk _ hk=>hk.1) h.keys.sl h.fits (λ_ k hk=>(fP h.items hk).1) (λ_ k hk=>(fP h.keys hk).1)
end
def VO(B:Nat)(sv kv:Value)(q:Nat):Prop:=B<=q/\sv.ownBlock≠some q/\kv.ownBlock≠some q
section
variable [HX]
theorem JR{B m:Nat}{sv kv:Value}{L M:List Value}(h:Own w B VT 5 sv n L)(h':Own w B ST 1 kv m M){q:Nat}(h1:sv.ownBlock=some q):kv.ownBlock≠some q:=λe=>by
 obtain⟨_,_,c,hc⟩:=fP h h1
 obtain⟨_,_,c',hc'⟩:=fP h' e
 rw[hc]at hc'
 simp only[Option.some.injEq,Obj.cells.injEq]at hc'
 exact absurd hc'.2.1 (by decide)
theorem aA9{x:aH}{K:Q0}(hK:∀a w',a=w.heap.size->w'.heap.size=w.heap.size+1->w'.heap[a]?=some (.cells [str x].toArray ST (0,0))->bA w w'->K (.slice (some ⟨a,0,none⟩) 1 1) w'):bR ST 1 [.string (aL [])] [(0,1,str x)] w K:=by
 unfold bR;simp only[cP,cS,bT,cR,cond_true,cond_false,exists_eq_left',cQ,Nat.reduceAdd,Nat.reduceLT,Nat.lt_add_one,Nat.zero_lt_succ,decide_true,decide_false,ne_eq,reduceCtorEq];exact row_new λa w' h1 h2 h3 h4 _=>hK a w' h1 h2 h3 h4
theorem Xh{K:Q0}(hc:cs.length=5)(hK:∀a w',a=w.heap.size->w'.heap.size=w.heap.size+1->w'.heap[a]?=some (.cells cs.toArray VT (0,0))->bA w w'->K (.slice (some ⟨a,0,none⟩) 1 1) w'):bR VT 1 [(.int .i64 0),(.bool false),(.string (aL [])),(.slice none 0 0),(.slice none 0 0)] [(0,5,.agg cs.toArray)] w K:=by
 unfold bR;have hp:∀K:List Value->Prop,K cs->bQ [(.int .i64 0),(.bool false),(.string (aL [])),(.slice none 0 0),(.slice none 0 0)] [(0,5,.agg cs.toArray)] K:=by
  intro K hK;refine⟨by simp[Value.cells,hc],by simp,?_⟩;have:List.take 0 [(Value.int .i64 0),(.bool false),(.string (aL [])),(.slice none 0 0),(.slice none 0 0)]++((Value.agg cs.toArray).cells.toList++List.drop (0+5) [(Value.int .i64 0),(.bool false),(.string (aL [])),(.slice none 0 0),(.slice none 0 0)])=cs:=by simp[Value.cells]
  rw[this];exact hK
 refine hp _ ?_;exact row_new λa w' h1 h2 h3 h4 _=>hK a w' h1 h2 h3 h4
end
section
variable [HX]
theorem aBg{l:List (aH×JV)}{k:aH}{x:JV}{sv kv:Value}{L:List Value}{B:Nat}{K:Q0}(h:FF w B (mA l) sv kv L)(hx:bE (VO B sv kv) w x cs)(hr:HW (l.map (·.1)))(hk:k∉l.map (·.1))(hl:l.length<=99999)(hkl:k.length<=9223372036854775807)
  (hB:B<=w.heap.size)(hK:∀sv' kv' L' w',aS (λq=>sv.ownBlock=some q\/kv.ownBlock=some q) w w'->FF w' B (mA (insP l k x)) sv' kv' L'->K (.agg [i64 6,.bool false,str [],sv',kv'].toArray) w'):
  aA P0 121 [.agg [i64 6,.bool false,str [],sv,kv].toArray,str k,.agg cs.toArray] w K:=by
 have hkeys:(mA l).ks=l.map (·.1):=rfl;have hxs:(mA l).xs=l.map (·.2):=rfl;have hO:=h.items;have hM:=h.keys;rw[hxs]at hO;rw[hkeys]at hM;have hn1:(l.map (·.2)).length=l.length:=List.length_map _;have hn2:(l.map (·.1)).length=l.length:=List.length_map _;rw[hn1]at hO;rw[hn2]at hM;have hrp:=h.reps;rw[hxs]at hrp;have hcs5:=hx.rep.len;have hone:=hx.rep.one;obtain⟨f1,f2,f3,f4⟩:=h.fits;refine Vs ?_;unfold aCU;have o1:=rY hO;have o2:=rY hM;refine dF (z:=[i64 6,.bool false,str [],sv,kv]) λa3 w1 ha3 hz1 hb3 hx1=>?_;refine dF (z:=cs) λa5 w2 ha5 hz2 hb5 hx2=>?_;refine aI λa6 w3 ha6 hz3 hb6 hx3=>?_;have hb3:=(hx2.trans hx3).at hb3 id;have hb5:=hx3.at hb5 id;have hx03:=(hx1.trans hx2).trans hx3;rw[aO,bY];refine⟨kv,by rw[aV,aX,hb3];rfl,?_⟩;have hsk:SlAt w3 ST kv (l.map (·.1)).length ((l.map (·.1)).map str):=by rw[hn2];exact hM.sl.ext hx03
 refine FZ hsk (by rw[hn2];omega) hr λi _ hlo hhi hile=>?_;rw[hn2]at hile;have hnone:(rH (l.map (·.1)) k).isSome=false:=by rw[uW.2 hk];rfl
 rw[hnone];simp only[aK];refine⟨_,rfl,_,rfl,?_⟩;rw[bJ];have hins:=LN hk hlo hhi (x:=x);have hsvlt:∀q,sv.ownBlock=some q->q<w.heap.size:=λq hq=>(fP hO hq).2.1;have hkvlt:∀q,kv.ownBlock=some q->q<w.heap.size:=λq hq=>(fP hM hq).2.1;have insK:∀{w4:World} {tb:Nat} {K':Q0},aS (λq=>False) w w4->w.heap.size<=tb->w4.heap[tb]?=some (.cells [str k].toArray ST (0,0))->
   (∀kv' w5,Own w5 B ST 1 kv' (l.length+1) (((l.map (·.1)).map str).take (i*1)++[str k]++((l.map (·.1)).map str).drop (i*1))->aS (λq=>kv.ownBlock=some q) w4 w5->(∀q,kv'.ownBlock=some q->kv.ownBlock=some q\/w4.heap.size<=q)->K' kv' w5)->
   aA P0 154 [kv,i64 (i:Nat),.slice (some ⟨tb,0,none⟩) 1 1] w4 K':=λ{w4 tb K'} hc htb ht hK'=>
  OI (gE hM hc λ_ _ e=>e) ht rfl (λu hu=>by rw[List.mem_singleton.1 hu];rfl) (MQ _) (λe=>by have:=hkvlt _ e;omega) hile (by omega) (by have:=hc.size;omega) hK'
 have yS:∀{w4:World} {tb:Nat} {K':Q0},aS (λq=>kv.ownBlock=some q) w w4->w.heap.size<=tb->w4.heap[tb]?=some (.cells cs.toArray VT (0,0))->
   (∀sv' w5,Own w5 B VT 5 sv' (l.length+1) (L.take (i*5)++cs++L.drop (i*5))->aS (λq=>sv.ownBlock=some q) w4 w5->(∀q,sv'.ownBlock=some q->sv.ownBlock=some q\/w4.heap.size<=q)->K' sv' w5)->
   aA P0 155 [sv,i64 (i:Nat),.slice (some ⟨tb,0,none⟩) 1 1] w4 K':=λ{w4 tb K'} hc htb ht hK'=>
  OH (gE hO hc λq hq e=>JR hO hM hq e) ht hcs5 hone hrp.rep.one (λe=>by have:=hsvlt _ e;omega) hile (by omega) (by have:=hc.size;omega) hK'
 obtain⟨J,hJ⟩:∃J:List Value->World->Prop,∀st w',J st w'↔∃sv' kv',w'.heap[a3]?=some (.cells [i64 6,.bool false,str [],sv',kv'].toArray VT (0,0))/\w'.heap[a6]?=some (.cells [i64 0,.bool false,str [],.slice none 0 0,.slice none 0 0].toArray VT (0,0))/\aS (λq=>sv.ownBlock=some q\/kv.ownBlock=some q) w w'/\a6<w'.heap.size/\
  cY sv'=true/\cY kv'=true/\(∀q,sv'.ownBlock=some q->q≠a6)/\(∀q,kv'.ownBlock=some q->q≠a6)/\∃L',FF w' B (mA (insP l k x)) sv' kv' L'/\bB (λq=>(B<=q/\sv'.ownBlock≠some q/\kv'.ownBlock≠some q)/\q≠a6) w' (mA (insP l k x)).xs L':=⟨_,λ_ _=>Iff.rfl⟩
 refine aP.cut J ?_ ?_
 ·have hxd:bA w3 w3.drew:=aS.drew (aS.refl (λ_=>False) w3);have e3:∀{w4:World},aS (λq=>kv.ownBlock=some q) w3 w4->w4.heap[a3]?=some (.cells [i64 6,.bool false,str [],sv,kv].toArray VT (0,0)):=λhc=>hc.at hb3 λe=>by have:=hkvlt _ e;omega
  have e5:∀{w4:World},aS (λq=>kv.ownBlock=some q) w3 w4->w4.heap[a5]?=some (.cells cs.toArray VT (0,0)):=λhc=>hc.at hb5 λe=>by have:=hkvlt _ e;omega
  have up:∀{w4:World},bA w3 w4->aS (λq=>kv.ownBlock=some q) w3 w4:=λhx=>aS.of_ext hx;have ldk:∀{w4:World} {K:Value->Prop},aS (λq=>kv.ownBlock=some q) w3 w4->K kv->aE false 1 (.pointer (some ((⟨a3,0,none⟩:Addr).add 4))) w4 K:=λhc hk=>by
   rw[bY];exact⟨_,by rw[aV,aX,e3 hc];rfl,hk⟩
  have lds:∀{w4:World} {K:Value->Prop},aS (λq=>kv.ownBlock=some q) w3 w4->K sv->aE false 1 (.pointer (some ((⟨a3,0,none⟩:Addr).add 3))) w4 K:=λhc hk=>by
   rw[bY];exact⟨_,by rw[aV,aX,e3 hc];rfl,hk⟩
  have ldx:∀{w4:World} {K:Value->Prop},aS (λq=>kv.ownBlock=some q) w3 w4->K (.agg cs.toArray)->aE true 5 (.pointer (some ⟨a5,0,none⟩)) w4 K:=λhc hk=>aU (e5 hc) hcs5 hk;have fin:∀{w4 w5:World} {sv' kv':Value},aS (λq=>kv.ownBlock=some q) w3 w4->Own w4 B ST 1 kv' (l.length+1) (((l.map (·.1)).map str).take (i*1)++[str k]++((l.map (·.1)).map str).drop (i*1))->(∀q,kv'.ownBlock=some q->kv.ownBlock=some q\/w3.heap.size<=q)->
    aS (λq=>sv.ownBlock=some q) w4 w5->Own w5 B VT 5 sv' (l.length+1) (L.take (i*5)++cs++L.drop (i*5))->(∀q,sv'.ownBlock=some q->sv.ownBlock=some q\/w3.heap.size<=q)->
    bF 1 (.pointer (some ((⟨a3,0,none⟩:Addr).add 4))) kv' w5 λw6=>aF 3 (.pointer (some ⟨a3,0,none⟩)) λt36=>bF 1 t36 sv' w6 λw7=>J [] w7:=λ{w4 w5 sv' kv'} hc4 hOk hkb hc5 hOs hsb=>by
   have hb3':=hc5.at (e3 hc4) λe=>by have:=hsvlt _ e;omega
   have hb6':=hc5.at (hc4.at hb6 λe=>by have:=hkvlt _ e;omega) λe=>by have:=hsvlt _ e;omega
   rw[aV];refine eY hb3' (rY hOk) (by simp) λw6 hz6 hb36 hc6=>?_;have hb36:w6.heap[a3]?=some (.cells [i64 6,.bool false,str [],sv,kv'].toArray VT (0,0)):=by rw[hb36];simp
   rw[aO,aV];refine eY hb36 (rY hOs) (by simp) λw7 hz7 hb37 hc7=>?_;have hb37:w7.heap[a3]?=some (.cells [i64 6,.bool false,str [],sv',kv'].toArray VT (0,0)):=by rw[hb37];simp
   have hc67:aS (λq=>q=a3) w5 w7:=hc6.trans hc7;have s45:=hc5.size;have s34:=hc4.size;have s57:=hc67.size;have hcw:aS (λq=>sv.ownBlock=some q\/kv.ownBlock=some q) w w7:=by
    have h1:aS (λq=>sv.ownBlock=some q\/kv.ownBlock=some q) w w5:=(((aS.of_ext hx03).trans (hc4.mono λ_ _ e=>.inr e)).trans (hc5.mono λ_ _ e=>.inl e));exact h1.then hc67 λq hq e=>by omega
   have n3:∀q,kv'.ownBlock=some q->q≠a3:=λq hq e=>by
    rcases hkb q hq with h|h
    ·have:=hkvlt _ h;omega
    ·omega
   have n3':∀q,sv'.ownBlock=some q->q≠a3:=λq hq e=>by
    rcases hsb q hq with h|h
    ·have:=hsvlt _ h;omega
    ·omega
   have hOk5:Own w5 B ST 1 kv' (l.length+1) (((l.map (·.1)).map str).take (i*1)++[str k]++((l.map (·.1)).map str).drop (i*1)):=gE hOk hc5 λq hq e=>by
    obtain⟨_,_,c,hc⟩:=fP hOk hq;obtain⟨_,_,c',hc'⟩:=fP (gE hO ((aS.of_ext hx03).trans hc4) λq hq e=>JR hO hM hq e) e;rw[hc]at hc';simp only[Option.some.injEq,Obj.cells.injEq]at hc';exact absurd hc'.2.1 (by decide)
   have hOk7:=gE hOk5 hc67 λq hq e=>n3 q hq e;have hOs7:=gE hOs hc67 λq hq e=>n3' q hq e;refine(hJ _ w7).2 ⟨sv',kv',hb37,hc67.at hb6' (by omega),hcw,by have:=dA hb6;omega,rY hOs,rY hOk,?_⟩;have hfree:∀q,VO B sv kv q->q<w.heap.size->¬(sv.ownBlock=some q\/kv.ownBlock=some q):=λq hq _ e=>by
    rcases e with e|e
    ·exact hq.2.1 e
    ·exact hq.2.2 e
   have hrp0:bB (λq=>VO B sv kv q/\q<w.heap.size) w (l.map (·.2)) L:=hrp.mono λq hq h=>⟨h,hq⟩;have hx0:bE (λq=>VO B sv kv q/\q<w.heap.size) w x cs:=hx.mono λq hq h=>⟨h,hq⟩;have hrp7:=bB.chg hcw (λq hq h=>hfree q hq.1 h) hrp0;have hx7:=bE.chg hcw (λq hq h=>hfree q hq.1 h) hx0;have m3:∀q,kv'.ownBlock=some q->q≠a6:=λq hq e=>by
    rcases hkb q hq with h|h
    ·have:=hkvlt _ h;omega
    ·omega
   have m3':∀q,sv'.ownBlock=some q->q≠a6:=λq hq e=>by
    rcases hsb q hq with h|h
    ·have:=hsvlt _ h;omega
    ·omega
   obtain⟨c1,c2⟩:=hrp7.cut i;have hall:=(c1.app (bB.one' hx7)).app c2;have ex:(mA (insP l k x)).xs=(l.map (·.2)).take i++[x]++(l.map (·.2)).drop i:=by
    rw[hins];show((l.take i++(k,x)::l.drop i).map (·.2))=_;simp
   have ek:(mA (insP l k x)).ks=(l.map (·.1)).take i++[k]++(l.map (·.1)).drop i:=by
    rw[hins];show((l.take i++(k,x)::l.drop i).map (·.1))=_;simp
   have exl:(mA (insP l k x)).xs.length=l.length+1:=by
    rw[hins];show((l.take i++(k,x)::l.drop i).map (·.2)).length=_;simp;omega
   have ekl:(mA (insP l k x)).ks.length=l.length+1:=by
    rw[hins];show((l.take i++(k,x)::l.drop i).map (·.1)).length=_;simp;omega
   have ekm:(mA (insP l k x)).ks.map str=((l.map (·.1)).map str).take (i*1)++[str k]++((l.map (·.1)).map str).drop (i*1):=by
    rw[ek,Nat.mul_one];simp
   have hfits:Fits (mA (insP l k x)).xs.length (mA (insP l k x)).ks (mA (insP l k x)).t:=⟨by rw[exl];omega,by rw[ekl];omega,by simp[mA,JV.t],λs hs=>by
    rw[ek]at hs;rcases List.mem_append.1 hs with hs|hs
    ·rcases List.mem_append.1 hs with hs|hs
     ·exact f4 s (List.mem_of_mem_take hs)
     ·rw[List.mem_singleton.1 hs];exact hkl
    ·exact f4 s (List.mem_of_mem_drop hs)⟩
   have hreps:bB (λq=>(B<=q/\sv'.ownBlock≠some q/\kv'.ownBlock≠some q)/\q≠a6) w7 (mA (insP l k x)).xs (L.take (i*5)++cs++L.drop (i*5)):=by
    rw[ex];exact hall.mono λq _ hq=>⟨⟨hq.1.1,λe=>by
     rcases hsb q e with h|h
     ·exact hq.1.2.1 h
     ·have:=hq.2;omega,λe=>by
     rcases hkb q e with h|h
     ·exact hq.1.2.2 h
     ·have:=hq.2;omega⟩,by have:=hq.2;omega⟩
   refine⟨m3',m3,_,⟨by rw[exl];exact hOs7,hreps.mono λq _ hq=>hq.1,by rw[ekl,ekm];exact hOk7,hfits⟩,hreps⟩
  rw[aO];refine ldk (up hxd) ?_;rw[aO];refine lds (up hxd) ?_;refine ldx (up hxd) ⟨?_,?_⟩
  ·refine aA9 λb27 w4 hb27 hz4 ht27 hx4=>?_;have hx4:=hxd.trans hx4;have sd:w3.drew.heap.size=w3.heap.size:=rfl;refine⟨ldx (up hx4) rfl,lds (up hx4) rfl,ldk (up hx4) rfl,?_,?_⟩
   ·refine insK (hx03.trans hx4) (by omega) ht27 λkv' w5 hOk hc5 hkb=>?_;have hc35:aS (λq=>kv.ownBlock=some q) w3 w5:=(up hx4).trans hc5;refine⟨ldx hc35 rfl,lds hc35 rfl,?_⟩;rw[aO];refine Xh hcs5 λb33 w6 hb33 hz6 ht33 hx6=>?_;have hc36:aS (λq=>kv.ownBlock=some q) w3 w6:=hc35.then hx6 λ_ _ e=>e.elim;have s35:=hc35.size;refine⟨lds hc36 rfl,?_⟩;refine yS ((aS.of_ext hx03).trans hc36) (by omega) ht33 λsv' w7 hOs hc7 hsb=>?_;exact fin hc36 (gE hOk hx6 λ_ _ e=>e) (λq hq=>(hkb q hq).imp id λh=>by omega) hc7 hOs (λq hq=>(hsb q hq).imp id λh=>by omega)
   ·refine Xh hcs5 λb33 w5 hb33 hz5 ht33 hx5=>?_;have hx35:=hx4.trans hx5;refine⟨lds (up hx35) rfl,ldk (up hx35) rfl,?_⟩;refine insK (hx03.trans hx35) (by omega) (hx5.at ht27 id) λkv' w6 hOk hc6 hkb=>?_;have hc36:aS (λq=>kv.ownBlock=some q) w3 w6:=(up hx35).trans hc6;refine⟨lds hc36 rfl,?_⟩;rw[aO];have s36:=hc36.size;refine yS ((aS.of_ext hx03).trans hc36) (by omega) (hc6.at ht33 λe=>by have:=hkvlt _ e;omega) λsv' w7 hOs hc7 hsb=>?_;exact fin hc36 hOk (λq hq=>(hkb q hq).imp id λh=>by omega) hc7 hOs (λq hq=>(hsb q hq).imp id λh=>by omega)
  ·refine Xh hcs5 λb33 w4 hb33 hz4 ht33 hx4=>?_;have hx4:=hxd.trans hx4;have sd:w3.drew.heap.size=w3.heap.size:=rfl;refine⟨lds (up hx4) rfl,ldk (up hx4) rfl,?_⟩;refine aA9 λb27 w5 hb27 hz5 ht27 hx5=>?_;have hx35:=hx4.trans hx5;refine⟨lds (up hx35) rfl,ldk (up hx35) rfl,?_⟩;refine insK (hx03.trans hx35) (by omega) ht27 λkv' w6 hOk hc6 hkb=>?_;have hc36:aS (λq=>kv.ownBlock=some q) w3 w6:=(up hx35).trans hc6;refine⟨lds hc36 rfl,?_⟩;rw[aO];have s36:=hc36.size;refine yS ((aS.of_ext hx03).trans hc36) (by omega) (hc6.at (hx5.at ht33 id) λe=>by have:=hkvlt _ e;omega) λsv' w7 hOs hc7 hsb=>?_;exact fin hc36 hOk (λq hq=>(hkb q hq).imp id λh=>by omega) hc7 hOs (λq hq=>(hsb q hq).imp id λh=>by omega)
 rintro st g w4 hJ4;obtain⟨sv',kv',hb3,hb6,hc,hlt6,o1',o2',n1,n2,L',hOP,hrep⟩:=(hJ _ _).1 hJ4;refine aU hb3 rfl ?_;refine eS hb6 rfl rfl (xD o1' o2') λw5 hc5=>?_;exact hK _ _ L' w5 (hc.then hc5 λq hq e=>by omega) ⟨gE hOP.items hc5 λq hq e=>n1 q hq e,(bB.chg hc5 (λq hq _ e=>hq.2 e) hrep).mono λq _ hq=>hq.1,gE hOP.keys hc5 λq hq e=>n2 q hq e,hOP.fits⟩
end
end
end Go.Proofs.YtghhmpppnmoeoaaGreatDoor
namespace Go.Eng
section
open Go Go.Num
def NB(s:aH):Nat->Nat->List aH
 |0,_=>[]
 |n+1,i=>if i<s.length then(s.drop i).take (qO s i)::NB s n (i+qO s i)else []
def IB(s:aH):List aH:=NB s s.length 0
abbrev tV(s:aH):JV:=.mk 4 false s [] []
abbrev nV(s:aH):JV:=.mk 3 false s [] []
abbrev iV(n:Int):JV:=nV (Lib.itoa n)
abbrev bV(b:Bool):JV:=.mk 2 b [] [] []
abbrev lV(xs:List JV):JV:=.mk 5 false [] xs []
abbrev uV:JV:=.mk 1 false [] [] []
def BU(lo tb:Nat)(c:UInt8):UInt8:=if lo<=c.toNat/\c.toNat<lo+26 then UInt8.ofNat (c.toNat-lo+tb)else c
def iI(lo tb:Nat)(s:aH):aH:=s.map (BU lo tb)
def SR(a:JV):Option JV:=if a.k=4 then some (iV (IB a.t).length)else if a.k=5\/a.k=6 then some (iV a.xs.length)else none
def Np(a:JV):Option JV:=if a.k=4 then some (tV (IB a.t).reverse.flatten)else if a.k=5 then some (lV a.xs.reverse)else none
def Qj(s f n:aH):Option JV:=
 if neg f||neg n then none else
 let l:=IB s
 let at0:=min (dec f) l.length
 some (tV ((l.drop at0).take (min (dec n) (l.length-at0))).flatten)
def YW(by_:aH)(xs:List JV):Option JV:=if xs.any (λx=> !decide (x.k=4))then none else some (tV (Lib.join (xs.map (·.t)) by_))
def Ql(by_ s:aH):Option JV:=if by_=[]then none else some (lV ((Lib.split s by_).map tV))
def TD(a:List JV):JV:=lV (a.map (·.xs)).flatten
def YQ(a:List JV):JV:=a.foldl (λv x=>(x.ks.zip x.xs).foldl (λv p=>rV v p.1 p.2) v) (.mk 6 false [] [] [])
def Wg(sg:Int)(a:List JV):JV:=a.foldl (λb x=>if 0<tY x.t b.t*sg then x else b) (a.headD JV.null)
def Xi(s:aH):Option JV:=if neg s||decide (32<dec s)then none else some (lV ((List.range (dec s)).map λi:Nat=>iV (i:Int)))
def WU(a:JV):Option JV:=
 if a.k=2 then some (tV (if a.b then [116,114,117,101]else [102,97,108,115,101]))else if a.k=3\/a.k=4 then some (tV a.t)else none
def WV(a:JV):Option JV:=if(a.k=3\/a.k=4)/\goodN a.t=true then some (nV a.t)else none
structure sW where
 takes:aH
 least:Nat
 act:List JV->Option JV
abbrev arg(a:List JV)(i:Nat):JV:=a.getD i JV.null
def OV:sW:=⟨[110],0,λa=>some (nV (dig (arg a 0).t))⟩
def Ds:sW:=⟨[108,46],0,λa=>some (TD a)⟩
def zX:sW:=⟨[108,118],0,λa=>some (bV ((arg a 0).xs.any λx=>decide (Jy x (arg a 1)=0)))⟩
def Kt:sW:=⟨[115,108],0,λa=>YW (arg a 0).t (arg a 1).xs⟩
def Ks:sW:=⟨[111],0,λa=>some (lV ((arg a 0).ks.map tV))⟩
def Dr:sW:=⟨[118],0,λa=>SR (arg a 0)⟩
def Dq:sW:=⟨[111,115,118],0,λa=>some ((tO (arg a 0) (arg a 1).t).getD (arg a 2))⟩
def Hk:sW:=⟨[115],0,λa=>some (tV (iI 65 97 (arg a 0).t))⟩
def OU:sW:=⟨[110,46],1,λa=>some (Wg 1 a)⟩
def Hj:sW:=⟨[111,46],0,λa=>some (YQ a)⟩
def OT:sW:=⟨[110,46],1,λa=>some (Wg (-1) a)⟩
def Hi:sW:=⟨[110],0,λa=>Xi (arg a 0).t⟩
def BI:sW:=⟨[118],0,λa=>Np (arg a 0)⟩
def Hh:sW:=⟨[115,115],0,λa=>Ql (arg a 0).t (arg a 1).t⟩
def Dp:sW:=⟨[115,110,110],0,λa=>Qj (arg a 0).t (arg a 1).t (arg a 2).t⟩
def Hg:sW:=⟨[118],0,λa=>WV (arg a 0)⟩
def zW:sW:=⟨[118],0,λa=>WU (arg a 0)⟩
def xK:sW:=⟨[115],0,λa=>some (tV (iI 97 65 (arg a 0).t))⟩
def Do:sW:=⟨[111],0,λa=>some (lV (arg a 0).xs)⟩
def fnT:List (aH×sW):=[([97,98,115],OV),([99,111,110,99,97,116],Ds),([99,111,110,116,97,105,110,115],zX),([106,111,105,110],Kt),([107,101,121,115],Ks),([108,101,110,103,116,104],Dr),([108,111,111,107,117,112],Dq),([108,111,119,101,114],Hk),([109,97,120],OU),([109,101,114,103,101],Hj),([109,105,110],OT),([114,97,110,103,101],Hi),([114,101,118,101,114,115,101],BI),([115,112,108,105,116],Hh),([115,117,98,115,116,114],Dp),([116,111,105,110,116],Hg),([116,111,115,116,114,105,110,103],zW),([117,112,112,101,114],xK),([118,97,108,117,101,115],Do)]
def Da:List (aH×sW)->aH->Option sW
 |[],_=>none
 |(a,v)::m,k=>if k=a then some v else Da m k
def jN(c:UInt8):Int:=if c=110 then 3 else if c=115 then 4 else if c=108 then 5 else if c=111 then 6 else-1
def CZ(t:aH):Bool:=t.getLast?==some 46
def sB(t:aH)(n:Nat):aH:=if CZ t then(List.replicate n t.dropLast).flatten else t
def xL(f:sW)(a:List JV):Bool:=
 decide (a.length=(sB f.takes a.length).length)&&decide (f.least<=a.length)&&(a.zip (sB f.takes a.length)).all λp=>decide (jN p.2<0)||decide (p.1.k=jN p.2)
def sP(name:aH)(a:List JV):JV×Int:=
 if a.any (λx=> !cU x)then(JV.null,1)else
 match Da fnT name with
 |none=>(JV.null,70)
 |some f=>
  if a.any (λx=> !lA x)then(uV,0)else
  if !xL f a then(JV.null,71)else
  match f.act a with
  |none=>(JV.null,71)
  |some v=>if cU v then(v,0)else(JV.null,3)
end
section
open Go
variable{w:World}{K:Q0}{cs:List Value}{G:Nat->Prop}{T:TypeId}{i:Nat}{n:Nat}{v:Value}{w':World}{P:Program}{c:UInt8}{S:Nat->Prop}
def kA:Nat->List (aH×Value)->List MapEntry
 |_,[]=>[]
 |i,(k,v)::m=>{key:=str k,val:=v,born:=i}::kA (i+1) m
theorem Dy(k:aH)(v:Value):∀(m:List (aH×Value)) (i:Nat),kA i (m++[(k,v)])=kA i m++[{key:=str k,val:=v,born:=i+m.length}]
 |[],i=>rfl
 |(a,x)::m,i=>by
  simp only[List.cons_append,kA,Dy k v m,List.length_cons]
  rw[show i+1+m.length=i+(m.length+1)by omega]
def Ia(w:World)(b:Nat)(m:List (aH×Value)):Prop:=w.heap[b]?=some (.map (kA 0 m).toArray m.length)
def oH:List (aH×Value)->aH->Option Value
 |[],_=>none
 |(a,v)::m,k=>if k=a then some v else oH m k
theorem xM(k:aH):∀(m:List (aH×Value)) (i j:Nat),(oH m k=none->Instr.findNow .string (str k) (kA i m) j=some none)/\∀v,oH m k=some v->∃n,Instr.findNow .string (str k) (kA i m) j=some (some (n,v))
 |[],i,j=>⟨λ_=>rfl,λv h=>by cases h⟩
 |(a,x)::m,i,j=>by
  have hs:Instr.sameNow .string (str k) (str a)=some (aL k==aL a):=rfl
  by_cases h:k=a
  ·subst h
   refine⟨λe=>?_,λv e=>?_⟩
   ·simp[oH]at e
   ·simp only[oH,if_true,Option.some.injEq]at e
    subst e
    refine⟨j,?_⟩
    have hs':Instr.sameNow .string (str k) (str k)=some true:=by rw[hs,(MapKept.bytes_beq (aL k) (aL k)).2 rfl]
    simp only[kA,Instr.findNow,hs']
  ·have hne:(aL k==aL a)=false:=by
    cases hc:(aL k==aL a)with
    |false=>rfl
    |true=>exact absurd (JZ.1 ((MapKept.bytes_beq _ _).1 hc)) h
   obtain⟨h1,h2⟩:=xM k m (i+1) (j+1);simp only[kA,Instr.findNow,hs,hne,oH,if_neg h];exact⟨h1,h2⟩
section
variable{P:Program}{T KT ET:TypeId}{w:World}
theorem GN{r:Option Value}{K:Q0}(hT:P.underlying T=some (.map KT ET))(hr:r=none\/∃k n,r=some (.int k n))
  (hK:∀b w',b=w.heap.size->w'.heap.size=w.heap.size+1->Ia w' b []->bA w w'->K (.map (some b)) w'):bP P (Instr.makeMap T r) w K:=by
 have hk:=hK w.heap.size (w.alloc (.map #[] 0)) rfl (size_alloc _ _) (dW _ _ _ rfl) (aS.alloc (aS.refl _ _) _);have hrun:(Instr.makeMap T r).run P w=.ok (.map (some w.heap.size)) (w.alloc (.map #[] 0)):=by
  rcases hr with rfl|⟨k,n,rfl⟩
  ·simp[Instr.makeMap,run_bind,run_pure,newObj,Sem.run]
  ·simp[Instr.makeMap,run_bind,run_pure,newObj,Sem.run,aJ hT,asInt,asIntOf]
 unfold bP;rw[hrun];exact hk
theorem SK{b:Nat}{m:List (aH×Value)}{k:aH}{K:World->Prop}(hT:P.underlying T=some (.map KT ET))(hKT:P.underlying KT=some .string)(hb:Ia w b m)(hn:oH m k=none)
  (hK:∀w',w'.heap.size=w.heap.size->Ia w' b (m++[(k,v)])->aS (λq=>q=b) w w'->K w'):jV P (Instr.mapUpdate T (.map (some b)) (str k) v) w K:=by
 have hf:=(xM k m 0 0).1 hn;have hrun:(Instr.mapUpdate T (.map (some b)) (str k) v).run P w=.ok () {w with heap:=w.heap.setIfInBounds b (.map ((kA 0 m).toArray.push {key:=str k,val:=v,born:=m.length}) (m.length+1))}:=by
  simp only[Instr.mapUpdate,run_bind,aJ hT,MapKept.run_getObj_map hb,MapKept.run_checkKey hKT (show MapKept.IsKey .string (str k)from trivial),MapKept.run_findKey hKT hf,MapKept.run_setObj_map _ hb]
 unfold jV;rw[hrun];refine hK _ (by simp) ?_ ⟨rfl,rfl,rfl,by simp,λq _ hq=>?_⟩
 ·show(w.heap.setIfInBounds b _)[b]?=_;rw[(MapKept.heap_set hb).1,Dy];simp
 ·exact(MapKept.heap_set hb).2 q hq
theorem SL{b:Nat}{m:List (aH×Value)}{k:aH}{z:Value}{K:Value->Prop}(hT:P.underlying T=some (.map KT ET))(hKT:P.underlying KT=some .string)(hz:zL P ET=some z)(hb:Ia w b m)
  (h1:∀v,oH m k=some v->K (.tuple #[v,.bool true]))(h0:oH m k=none->K (.tuple #[z,.bool false])):jP P (Instr.lookup T (.map (some b)) (str k) true) w K:=by
 cases hl:oH m k with
 |none=>
  refine⟨_,?_,h0 hl⟩;simp only[Instr.lookup,run_bind,aJ hT,MapKept.run_getObj_map hb,run_pure,MapKept.run_checkKey hKT (show MapKept.IsKey .string (str k)from trivial),MapKept.run_findKey hKT ((xM k m 0 0).1 hl),nL hz,if_true]
 |some v=>
  obtain⟨n,hf⟩:=(xM k m 0 0).2 v hl;refine⟨_,?_,h1 v hl⟩;simp only[Instr.lookup,run_bind,aJ hT,MapKept.run_getObj_map hb,run_pure,MapKept.run_checkKey hKT (show MapKept.IsKey .string (str k)from trivial),MapKept.run_findKey hKT hf,if_true]
end
end
end Go.Eng
namespace Go.Proofs.YtghhmpppnmoeoaaGreatDoor
section
open Go Go.Eng Go.Num Go.RowKit
variable{w:World}{K:Q0}{cs:List Value}{G:Nat->Prop}{T:TypeId}{i:Nat}{n:Nat}{v:Value}{w':World}{P:Program}{c:UInt8}{S:Nat->Prop}
abbrev flat(k:Int)(b:Bool)(t:aH):List Value:=[i64 k,.bool b,str t,.slice none 0 0,.slice none 0 0]
theorem fB{k:Int}{b:Bool}{t:aH}(ht:t.length<=9223372036854775807):bE G w (.mk k b t [] []) (flat k b t):=
 bE.mk (v:=.mk k b t [] []) (T1:=0) (T2:=0) (L:=[]) (SlAt.nil w 0) (by simp[JV.xs,bB]) (SlAt.nil w 0) ⟨by simp[JV.xs],by simp[JV.ks],by simpa[JV.t]using ht,by simp[JV.ks]⟩ (λh=>absurd rfl h) (λh=>by simp[JV.ks]at h)
theorem Gm{w0:World}{b:Nat}{ds:List Value}{v:JV}{K:Q0}(hb:w.heap[b]?=some (.cells ds.toArray VT (0,0)))(hd:ds.length=5)(hl:w0.heap.size<=b)(hx:bA w0 w)(h:bE (λq=>w0.heap.size<=q/\q≠b) w v cs)
  (hK:∀w',bA w0 w'->bE (vJ w0.heap.size) w' v cs->K (.agg cs.toArray) w'):bF 5 (.pointer (some ⟨b,0,none⟩)) (.agg cs.toArray) w λw5=>aE true 5 (.pointer (some ⟨b,0,none⟩)) w5 λr6=>K r6 w5:=
 eS hb h.rep.len hd h.rep.all_one λw' hc=>by
  refine hK w' (hx.new hc hl) ?_
  exact(bE.chg hc (λq hq _ e=>hq.2 e) h).mono λq _ hq=>hq.1
theorem bE.at{w1:World}{b:Nat}{v:JV}(h:bE (vJ n) w1 v cs)(hb:b<n)(hn:w.heap.size<=n):bE (λq=>w.heap.size<=q/\q≠b) w1 v cs:=
 h.mono λq _ hq=>⟨Nat.le_trans hn hq,by have:n<=q:=hq;omega⟩
theorem bE.ext'{v:JV}(h:bE G w v cs)(hx:bA w w'):bE G w' v cs:=bE.chg hx (λ_ _ _ e=>e) h
theorem cV.fld{sv:Value}{xs:List JV}{n:Int}{off:Nat}{x:JV}{K:Value->Prop}(h:cV w sv xs)(hn:n=(i:Nat))(hi:xs[i]?=some x)(ho:off<5)(hK:∀cs u,cM w x cs->cs[off]?=some u->K u):
  bU none 5 sv (.int .i64 n) λp=>aF off p λq=>aE false 1 q w K:=by
 subst hn;obtain⟨T,L,h1,h2⟩:=h.it;refine Kd h1 h2 hi λb o c fr cs hb hc hg=>?_;rw[aO,bY,aV,aX,hb,aZ,hg off ho];exact⟨cs[off]'(by rw[hc.len];exact ho),List.getElem?_eq_getElem _,hK cs _ hc (List.getElem?_eq_getElem _)⟩
theorem cV.ft{sv:Value}{xs:List JV}{n:Int}{x:JV}{K:Value->Prop}(h:cV w sv xs)(hn:n=(i:Nat))(hi:xs[i]?=some x)(hK:x.t.length<=9223372036854775807->K (str x.t)):bU none 5 sv (.int .i64 n) λp=>aF 2 p λq=>aE false 1 q w K:=
 h.fld hn hi (by omega) λcs u hc hu=>by obtain⟨sv,kv,T1,T2,L,rfl,_,_,_,hf⟩:=hc.out;cases hu;exact hK hf.2.2.1
section
variable [HX]
theorem cV.at'{sv:Value}{xs:List JV}{n:Int}{x:JV}{K:Value->Prop}(h:cV w sv xs)(hn:n=(i:Nat))(hi:xs[i]?=some x)(hK:∀cs,cM w x cs->K (.agg cs.toArray)):bU none 5 sv (.int .i64 n) λp=>aE true 5 p w K:=by
 subst hn;exact h.at hi hK
end
abbrev DoK(r:Option JV)(w:World)(K:Q0):Prop:=∀cs v ok w',bA w w'->bE (vJ w.heap.size) w' v cs->r=(if ok then some v else none)->K (.tuple #[.agg cs.toArray,.bool ok]) w'
theorem Tx{w0:World}{b:Nat}{ds:List Value}{v:JV}{K:Q0}{r:Option JV}(hr:r=some v)(hb:w.heap[b]?=some (.cells ds.toArray VT (0,0)))(hd:ds.length=5)(hl:w0.heap.size<=b)(hx:bA w0 w)(h:bE (λq=>w0.heap.size<=q/\q≠b) w v cs)(hK:DoK r w0 K):
  bF 5 (.pointer (some ⟨b,0,none⟩)) (.agg cs.toArray) w λw8=>aE true 5 (.pointer (some ⟨b,0,none⟩)) w8 λr9=>K (.tuple #[r9,(.bool true)]) w8:=
 Gm (K:=λr w=>K (.tuple #[r,.bool true]) w) hb hd hl hx h λw' hx' h'=>hK _ _ true w' hx' h' hr
section
variable [HX]
theorem EN{s:aH}{K:Q0}(hK:∀w',bA w w'->K (.agg (flat 4 false s).toArray) w'):aA P0 87 [str s] w K:=by
 refine ZI ?_;unfold W87;refine aI λb w1 hb hz hbb hx=>?_;simp only[cP,cS,bT,cR,cond_true,cond_false,exists_eq_left',cQ,Nat.reduceAdd,Nat.reduceLT,Nat.lt_add_one,Nat.zero_lt_succ,decide_true,decide_false,ne_eq,reduceCtorEq];exact eS hbb rfl rfl rfl λw' hc=>hK w' (hx.new hc (by omega))
theorem lD{s:Bool}{K:Q0}(hK:∀w',bA w w'->K (.agg (flat 2 s []).toArray) w'):aA P0 86 [.bool s] w K:=by
 refine ZJ ?_;unfold W86;refine aI λb w1 hb hz hbb hx=>?_;simp only[cP,cS,bT,cR,cond_true,cond_false,exists_eq_left',cQ,Nat.reduceAdd,Nat.reduceLT,Nat.lt_add_one,Nat.zero_lt_succ,decide_true,decide_false,ne_eq,reduceCtorEq];exact eS hbb rfl rfl rfl λw' hc=>hK w' (hx.new hc (by omega))
theorem nM{K:Q0}(hK:∀w',bA w w'->K (.agg (flat 1 false []).toArray) w'):aA P0 97 [] w K:=by
 refine Zy ?_;unfold W97;refine aI λb w1 hb hz hbb hx=>?_;simp only[cP,cS,bT,cR,cond_true,cond_false,exists_eq_left',cQ,Nat.reduceAdd,Nat.reduceLT,Nat.lt_add_one,Nat.zero_lt_succ,decide_true,decide_false,ne_eq,reduceCtorEq];exact eS hbb rfl rfl rfl λw' hc=>hK w' (hx.new hc (by omega))
theorem vD{b o:Nat}(hx:bA w w')(h:w.cell? ⟨b,o,none⟩=some v):w'.cell? ⟨b,o,none⟩=some v:=by
 rw[aX]at h⊢;cases hb:w.heap[b]? with
 |none=>rw[hb]at h;cases h
 |some x=>rw[hb]at h;rw[hx.at hb id];exact h
theorem Ma(w:World)(k:Nat)(os:Array Obj):bA w (Sort.grow (w.drewN k) os):=
 ⟨rfl,rfl,rfl,by show w.heap.size<=(w.heap++os).size;simp,λj hj _=>by show(w.heap++os)[j]?=_;rw[Array.getElem?_append_left hj]⟩
theorem FM{name:String}{c:Array Value}(hx:bA w w')(h:w.var? P name=some c):w'.var? P name=some c:=by
 unfold World.var? at h⊢;cases hg:P.globalNamed name with
 |none=>rw[hg]at h;cases h
 |some g=>
  rw[hg]at h;simp only[Option.bind_some]at h⊢;cases hb:w.heap[g]? with
  |none=>rw[hb]at h;cases h
  |some o=>rw[hx.at hb id];rw[hb]at h;exact h
structure sL(w:World):Prop where
 pow:Lib.TabIs P0 w "internal/strconv.uint64pow10" .u64 Lib.pow10Tab
 syn:∃T v,w.cell? ⟨3,0,none⟩=some (.iface T v)
 rng:∃T v,w.cell? ⟨4,0,none⟩=some (.iface T v)
 mx:∃m,w.cell? ⟨0,0,none⟩=some (.int .i64 m)
theorem sL.ext(h:sL w)(hx:bA w w'):sL w':=
 ⟨FM hx h.pow,let⟨T,v,e⟩:=h.syn;⟨T,v,vD hx e⟩,let⟨T,v,e⟩:=h.rng;⟨T,v,vD hx e⟩,let⟨m,e⟩:=h.mx;⟨m,vD hx e⟩⟩
end
structure FH(w:World)(b cap:Nat)(c:Array Value)(l:aH):Prop where
 hb:w.heap[b]?=some (.cells c U8 (c.size,c.size+1))
 le:l.length<=cap
 fits:l.length<=c.size
 get:∀i,i<l.length->c[i]?=(pY l)[i]?
theorem FH.byt{b cap:Nat}{c:Array Value}{l:aH}(h:FH w b cap c l):Byt w U8 (.slice (some ⟨b,0,none⟩) l.length cap) l:=
 ⟨_,_,rfl,h.le,λe=>(by cases e),λ_=>⟨b,0,_,_,rfl,h.hb,λi hi=>by rw[Nat.zero_add];exact h.get i (by simpa[iQ]using hi)⟩⟩
theorem Io{l:aH}{src dst:TypeId}{K:Q0}(hs:Tryz.prog.underlying src=some .string)(hd:Tryz.prog.underlying dst=some (.slice U8))(he:Tryz.prog.underlying U8=some (.int .u8))
  (hK:∀b cap c w',w.heap.size<=b->FH w' b cap c l->bA w w'->K (.slice (some ⟨b,0,none⟩) l.length cap) w'):bP P0 (convert src dst (str l)) w K:=by
 unfold bP;rw[Lib.run_convert_string_bytes w src dst U8 (aL l) hs hd he];have hle:(aL l).size<=grownCap w (aL l).size 0 U8:=grownCap_ge w (aL l).size 0 U8;have hsz:(Lib.bytesCells w U8 (aL l)).size=grownCap w (aL l).size 0 U8:=by
  unfold Lib.bytesCells;simp only[Array.size_append,Array.size_map,Array.size_replicate];have:(aL l).data.size=(aL l).size:=rfl;omega
 have e:(aL l).size=l.length:=dC l;have hB:FH (Lib.bytesWorld w U8 (aL l)) w.heap.size (grownCap w (aL l).size 0 U8) (Lib.bytesCells w U8 (aL l)) l:=by
  refine⟨Lib.bytesWorld_at_new w U8 (aL l),by rw[<-e];exact hle,by rw[hsz,<-e];exact hle,λi hi=>?_⟩;have:=Lib.bytesWorld_cell w U8 (aL l) i (by rw[e];exact hi);rw[aX,Lib.bytesWorld_at_new,aZ]at this;rw[this,uF,cK];simp[List.getD_eq_getElem?_getD,List.getElem?_eq_getElem hi]
 have:=hK _ _ _ _ (Nat.le_refl _) hB (vG _ _ _);rw[e];rw[e]at this;exact this
theorem Nc{b cap:Nat}{c:Array Value}{l:aH}{y:UInt8}{K:World->Prop}(h:FH w b cap c l)(hi:i<l.length)
  (hK:∀c' w',FH w' b cap c' (l.set i y)->aS (λk=>k=b) w w'->w'.heap.size=w.heap.size->K w'):bU none 1 (.slice (some ⟨b,0,none⟩) l.length cap) (i64 (i:Nat)) λt=>bF 1 t (.int .u8 (y.toNat:Nat)) w K:=by
 rw[lU];refine⟨by omega,by omega,?_⟩;rw[aV,Nat.zero_add,Int.toNat_natCast,Nat.mul_one];have hf:=h.fits;have hc2:(Value.int .u8 (y.toNat:Nat)).cells=#[.int .u8 (y.toNat:Nat)]:=rfl;have hz:(⟨b,i,none⟩:Addr).add 0=⟨b,i,none⟩:=rfl;simp only[bF,hc2];refine⟨rfl,?_⟩;simp only[pA,hz];refine⟨rfl,?_,?_,?_⟩
 ·rw[aX,h.hb,aZ];simp;omega
 ·rw[iG,h.hb,OS];simp;omega
 ·refine hK (c.setIfInBounds i (.int .u8 (y.toNat:Nat))) _ ⟨?_,by rw[List.length_set];exact h.le,by rw[List.length_set];simpa using h.fits,λj hj=>?_⟩ (aS.set (S:=λk=>k=b) (aS.refl _ _) (.inl rfl) _) (by simp)
  ·rw[jZ,h.hb,uJ];simp
  ·rw[List.length_set]at hj;have hg:=h.get j hj;simp only[pY,List.map_set]at hg⊢;rw[Array.getElem?_setIfInBounds,List.getElem?_set];by_cases e:i=j
   ·rw[if_pos e,if_pos e];subst e;rw[if_pos (by omega),if_pos (by simpa using hj)]
   ·rw[if_neg e,if_neg e];exact hg
theorem u8w(n:Nat):IntKind.u8.wrap (n:Int)=((n%256:Nat):Int):=by
 have e:(2:Int)^8=256:=by decide
 simp only[IntKind.wrap,IntKind.bits,IntKind.signed,Bool.false_and,Bool.false_eq_true,if_false,e];omega
section
variable [HX]
end
theorem Mk{lo tb:Nat}{l bO:aH}(hc:bO=iI lo tb (l.take i)++l.drop i)(hi:l[i]?=some c):bO[i]?=some c/\iI lo tb (l.take (i+1))++l.drop (i+1)=bO.set i (BU lo tb c):=by
 obtain⟨hlt,rfl⟩:=List.getElem?_eq_some_iff.1 hi;have hlen:(iI lo tb (l.take i)).length=i:=by simp[iI];omega
 constructor
 ·rw[hc,List.getElem?_append_right (by omega),hlen,Nat.sub_self,List.getElem?_drop,Nat.add_zero,hi]
 ·rw[hc,List.set_append_right _ _ (by omega),hlen,Nat.sub_self,List.drop_eq_getElem_cons hlt,List.set_cons_zero];have e:l.take (i+1)=l.take i++[l[i]]:=by rw[List.take_add_one,List.getElem?_eq_getElem hlt];rfl
  have e2:iI lo tb (l.take (i+1))=iI lo tb (l.take i)++[BU lo tb l[i]]:=by unfold iI;rw[e,List.map_append];rfl
  rw[e2,List.append_assoc];rfl
section
variable [HX]
theorem TJ{lo tb:Nat}{l:aH}{K:Q0}(h1:lo+26<=255)(h2:tb+26<=255)(hl:l.length<=1000000)(hK:∀w',bA w w'->K (str (iI lo tb l)) w'):
  aA P0 168 [str l,.int .u8 lo,.int .u8 tb] w K:=by
 refine UP ?_;unfold aCx;refine Io (by kernel_rfl) (by kernel_rfl) (by kernel_rfl) λb cap c w1 hb hB hx=>?_;rw[uU];refine jI l.length (λi w'=>∃c bO,bA w w'/\FH w' b cap c bO/\bO=iI lo tb (l.take i)++l.drop i) ⟨c,l,hx,hB,by simp[iI]⟩ ?_ ?_
 ·rintro i w3 g L hi ⟨c3,bO,hx3,hB3,hc⟩ hL;obtain⟨u,hu⟩:∃u,l[i]?=some u:=⟨_,List.getElem?_eq_getElem hi⟩;obtain⟨s1,s2⟩:=Mk hc hu;have hcl:bO.length=l.length:=by rw[hc];simp[iI];omega
  have hltI:(i:Int)<(l.length:Int):=by omega
  simp only[List.getD_cons_zero];rw[cA,decide_eq_true hltI,bZ];refine aP.cut (λst w'=>∃c' cur',bA w w'/\FH w' b cap c' cur'/\cur'=iI lo tb (l.take (i+1))++l.drop (i+1)) ?_ ?_
  ·have hby:=hB3.byt;rw[hcl]at hby;refine lW (x:=.int .u8 (u.toNat:Nat)) hby (by rw[iQ,hcl]) (by rw[uF,s1];rfl) ?_;have hu256:=UInt8.toNat_lt u;have e1:IntKind.u8.wrap ((lo:Int)+26)=((lo+26:Nat):Int):=by
    have:=u8w (lo+26);rw[Nat.mod_eq_of_lt (by omega)]at this;rw[<-this];rfl
   simp only[gR,aW,e1,cA,eH,kE,List.getD_cons_zero,cW];intro _;rw[aQ];refine⟨λht=>?_,λhf=>?_⟩
   ·simp only[Bool.and_eq_true,decide_eq_true_eq]at ht;have g1:lo<=u.toNat:=by omega
    have g2:u.toNat<lo+26:=by omega
    have ey:BU lo tb u=UInt8.ofNat (u.toNat-lo+tb):=by unfold BU;rw[if_pos ⟨g1,g2⟩]
    have en:(UInt8.ofNat (u.toNat-lo+tb)).toNat=u.toNat-lo+tb:=by rw[UInt8.toNat_ofNat'];omega
    have e2:IntKind.u8.wrap ((u.toNat:Int)-(lo:Int))=((u.toNat-lo:Nat):Int):=by
     have:=u8w (u.toNat-lo);rw[Nat.mod_eq_of_lt (by omega)]at this;rw[<-this];congr 1;omega
    have e3:IntKind.u8.wrap (((u.toNat-lo:Nat):Int)+(tb:Int))=((u.toNat-lo+tb:Nat):Int):=by
     have:=u8w (u.toNat-lo+tb);rw[Nat.mod_eq_of_lt (by omega)]at this;rw[<-this];congr 1
    simp only[iM,aW,e2,e3];have:=Nc (y:=UInt8.ofNat (u.toNat-lo+tb)) (K:=λw7=>∃c' cur',bA w w7/\FH w7 b cap c' cur'/\cur'=iI lo tb (l.take (i+1))++l.drop (i+1)) hB3 (i:=i) (by omega) λc' w' hB' hc' hz'=>
     ⟨c',_,hx3.then hc' λk hk e=>by have:k=b:=e;omega,hB',by rw[s2,ey]⟩
    rw[en,hcl]at this;exact this
   ·have:BU lo tb u=u:=by
     unfold BU;rw[if_neg];rintro⟨a1,a2⟩;have:(decide ((lo:Int)<=(u.toNat:Int))&&decide ((u.toNat:Int)<((lo+26:Nat):Int)))=true:=by
      simp only[Bool.and_eq_true,decide_eq_true_eq];omega
     rw[this]at hf;cases hf
    refine⟨c3,bO,hx3,hB3,?_⟩;rw[s2,this];have hlt2:i<bO.length:=by omega
    rw[List.getElem?_eq_getElem hlt2]at s1;rw[<-Option.some.inj s1,List.set_getElem_self]
  ·rintro st g' w8 ⟨c',cur',hx8,hB8,he8⟩;rw[aW,wR (by omega)];exact hL w8 ⟨c',cur',hx8,hB8,he8⟩
 ·rintro w3 g L ⟨c3,bO,hx3,hB3,hc⟩;simp only[List.getD_cons_zero];rw[cA,decide_eq_false (Int.lt_irrefl _),bJ];have hcl:bO.length=l.length:=by rw[hc];simp[iI]
  have hby:=hB3.byt;rw[hcl]at hby;rw[wH (e:=U8) (by kernel_rfl) (by kernel_rfl) (by kernel_rfl) hby,hc,List.take_length,List.drop_length,List.append_nil];exact hK w3 hx3
theorem Qc{x:JV}{sv:Value}{K:Q0}(h:cV w sv [x])(ht:x.t.length<=1000000)(hK:DoK (some (tV (iI 97 65 x.t))) w K):aA P0 179 [sv] w K:=by
 refine UO ?_;unfold aCw;refine aI λb w1 hb hz hbb hx=>?_;refine(h.ext hx).ft (i:=0) rfl rfl λ_=>?_;refine TJ (lo:=97) (tb:=65) (by decide) (by decide) ht λw2 hx2=>?_;refine EN λw3 hx3=>?_;exact Tx rfl ((hx2.trans hx3).at hbb id) rfl (by omega) (hx.trans (hx2.trans hx3)) (fB (by simp[iI];omega)) hK
end
theorem EP:∀(d:aH) (acc:Nat),acc<=d.foldl (λn c=>n*10+Num.dval c) acc
 |[],acc=>Nat.le_refl _
 |c::d,acc=>Nat.le_trans (by omega) (EP d (acc*10+Num.dval c))
theorem Nw:∀(d:aH) (acc:Nat),d.all Num.isDig=true->acc<18446744073709551616->
  (Lib.parseUint10 acc d=.ok (d.foldl (λn c=>n*10+Num.dval c) acc)/\d.foldl (λn c=>n*10+Num.dval c) acc<18446744073709551616)\/(Lib.parseUint10 acc d=.range/\18446744073709551616<=d.foldl (λn c=>n*10+Num.dval c) acc)
 |[],acc,_,h=>.inl ⟨rfl,h⟩
 |c::d,acc,ha,h=>by
  simp only[List.all_cons,Bool.and_eq_true]at ha
  have hc:=ha.1
  simp only[Num.isDig,Bool.and_eq_true,decide_eq_true_eq]at hc
  simp only[Lib.parseUint10,if_pos hc,List.foldl_cons]
  have hd:Num.dval c=c.toNat-48:=rfl
  split
  ·right
   refine⟨rfl,Nat.le_trans ?_ (EP d _)⟩
   omega
  ·split
   ·right
    refine⟨rfl,Nat.le_trans ?_ (EP d _)⟩
    omega
   ·rw[hd]
    exact Nw d _ ha.2 (by omega)
theorem BC{s:aH}(hg:goodN s=true):(s=45::dig s/\neg s=true\/s=dig s/\neg s=false)/\dig s≠[]/\(dig s).all Num.isDig=true:=by
 obtain⟨g1,g2,g3,g4⟩:=fF hg;refine⟨?_,λe=>by rw[e]at g1;simp at g1,g4⟩;cases s with
 |nil=>simp[dig]at g1
 |cons c r=>
  by_cases h:c=45
  ·subst h;left;simp[dig,neg]
  ·right;simp[dig,neg,h]
theorem DO{s:aH}(hg:goodN s=true):(Lib.atoiAll s=.ok (num s)/\-9223372036854775808<=num s/\num s<=9223372036854775807)\/(Lib.atoiAll s=.range/\(num s< -9223372036854775808\/9223372036854775807<num s)):=by
 obtain⟨hs,hne,ha⟩:=BC hg;have hp:=Nw (dig s) 0 ha (by decide);have hd:(dig s).foldl (λn c=>n*10+Num.dval c) 0=dec (dig s):=rfl;rw[hd]at hp;rcases hs with⟨e,hn⟩|⟨e,hn⟩
 ·have hnum:num s=-(dec (dig s):Int):=by unfold num;rw[hn];rfl
  rw[hnum];generalize dig s=d at*
  subst e;simp only[Lib.atoiAll,Lib.parseMag];simp only[show(45:UInt8).toNat=45 from rfl,or_true,if_true,not_true_eq_false,false_and,if_false,true_and,if_neg hne];rcases hp with⟨h1,h2⟩|⟨h1,h2⟩
  ·simp only[h1];by_cases hb:9223372036854775808<dec d
   ·right;rw[if_pos hb];exact⟨rfl,.inl (by omega)⟩
   ·left;rw[if_neg hb];exact⟨rfl,by omega,by omega⟩
  ·right;simp only[h1];exact⟨trivial,.inl (by omega)⟩
 ·have hnum:num s=(dec (dig s):Int):=by unfold num;rw[hn];rfl
  rw[hnum];cases hd2:dig s with
  |nil=>exact absurd hd2 hne
  |cons c r=>
   rw[hd2]at hp ha e;have hc:=ha;simp only[List.all_cons,Bool.and_eq_true,Num.isDig,decide_eq_true_eq]at hc;have n43:¬c.toNat=43:=by omega
   have n45:¬c.toNat=45:=by omega
   rw[e];simp only[Lib.atoiAll,Lib.parseMag,n43,n45,or_self,if_false,not_false_eq_true,true_and,false_and,if_neg (show¬(c::r=[])by simp)];rcases hp with⟨h1,h2⟩|⟨h1,h2⟩
   ·simp only[h1];by_cases hb:9223372036854775808<=dec (c::r)
    ·right;rw[if_pos hb];exact⟨rfl,.inr (by omega)⟩
    ·left;rw[if_neg hb];exact⟨rfl,by omega,by omega⟩
   ·right;simp only[h1];exact⟨trivial,.inr (by omega)⟩
theorem KB(K:Value->Prop)(w:World):FK P0 .neq 118 false true .nilIface .nilIface w K↔K (.bool false):=by
 have h:(do eqGuard .neq 118 (mX false) (mX true) .nilIface .nilIface;binOp .neq 118 .nilIface .nilIface:Sem Value).run P0 w=.ok (.bool false) w:=by kernel_rfl
 unfold FK jP;rw[h];exact⟨λ⟨v,h1,h2⟩=>by cases h1;exact h2,λh2=>⟨_,rfl,h2⟩⟩
theorem EE(T:TypeId)(v:Value)(w:World)(K:Value->Prop):FK P0 .neq 118 false true (.iface T v) .nilIface w K↔K (.bool true):=by
 have h:(do eqGuard .neq 118 (mX false) (mX true) (.iface T v) .nilIface;binOp .neq 118 (.iface T v) .nilIface:Sem Value).run P0 w=.ok (.bool true) w:=by kernel_rfl
 unfold FK jP;rw[h];exact⟨λ⟨v,h1,h2⟩=>by cases h1;exact h2,λh2=>⟨_,rfl,h2⟩⟩
def wD(s:aH):Option Int:=if goodN s=true/\-9223372036854775808<=num s/\num s<=9223372036854775807 then some (num s)else none
section
variable [HX]
theorem Zu{s:aH}{K:Q0}(hT:sL w)(hl:s.length<=1000000)
  (hK:∀n e w',bA w w'->((e=.nilIface/\Lib.atoiAll s=.ok n)\/(∃T v,e=.iface T v)/\∀n',Lib.atoiAll s≠.ok n')->K (.tuple #[i64 n,e]) w'):
  aA P0 157 [str s] w K:=by
 refine UR ?_;unfold aCy;refine eA (args:=#[str s]) Tryz.call212 ((Tryz.internal_strconv_Atoi_all (aL s) (by rw[dC];omega) w).mono ?_);rintro e w1 ⟨rfl,hw⟩;rw[cK];have hx1:bA w w1:=by
  rcases hw with rfl|⟨t,rfl⟩
  ·exact aS.refl _ _
  ·exact vG _ _ _
 have hT1:=hT.ext hx1;refine⟨_,rfl,?_⟩;rcases hA:Lib.atoiAll s with n|_|_
 ·simp only[Lib.intTuple,aK];refine⟨_,rfl,_,rfl,?_⟩;rw[KB,bJ];exact hK n _ w1 hx1 (.inl ⟨rfl,hA⟩)
 ·simp only[Lib.intTuple,aK];refine⟨_,rfl,_,rfl,?_⟩;rw[EE,bZ];obtain⟨T,v,hv⟩:=hT1.syn;refine eA (args:=#[str [65,116,111,105],str s,i64 0,i64 0,.iface 236 (.int .i64 2)]) Tryz.call213 ((Tryz.strconv_toError_syntax (aL [65,116,111,105]) (aL s) 0 0 _ w1 (by rw[dC];omega) hv (.inr ⟨T,v,rfl⟩)).mono ?_);rintro e w' ⟨N,rfl,_,_,hb⟩;exact⟨_,rfl,hK 0 _ w' (hx1.trans (aS.of_below hb)) (.inr ⟨⟨_,_,rfl⟩,λn' h=>by rw[hA]at h;cases h⟩)⟩
 ·simp only[Lib.intTuple,aK];refine⟨_,rfl,_,rfl,?_⟩;rw[EE,bZ];obtain⟨T,v,hv⟩:=hT1.rng;refine eA (args:=#[str [65,116,111,105],str s,i64 0,i64 0,.iface 236 (.int .i64 1)]) Tryz.call213 ((Tryz.strconv_toError_range (aL [65,116,111,105]) (aL s) 0 0 _ w1 (by rw[dC];omega) hv (.inr ⟨T,v,rfl⟩)).mono ?_);rintro e w' ⟨N,rfl,_,_,hb⟩;exact⟨_,rfl,hK _ _ w' (hx1.trans (aS.of_below hb)) (.inr ⟨⟨_,_,rfl⟩,λn' h=>by rw[hA]at h;cases h⟩)⟩
theorem NM{s:aH}{K:Q0}(hT:sL w)(hl:s.length<=1000000)(hK:∀w',bA w w'->K (.tuple #[i64 ((wD s).getD 0),.bool (wD s).isSome]) w'):aA P0 123 [str s] w K:=by
 refine Vq ?_;unfold aCS;refine Zu hT hl λn e w1 hx1 he=>?_;simp only[aK];refine⟨_,rfl,_,rfl,?_⟩;rcases he with⟨rfl,hn⟩|⟨⟨T,v,rfl⟩,hn⟩
 ·rw[KB];simp only[iB,Bool.not_false];refine cX.act (!goodN s) (λw'=>bA w1 w') (λ_=>aS.refl _ _) (λ_ J hJ=>?_) λg w4 hx4=>?_
  ·refine iT (by omega) λw3 hx3=>?_;rw[cJ];exact hJ w3 hx3
  simp only[List.getD_cons_zero,oD,cond_true];have hx:=hx1.trans hx4;rw[aQ];refine⟨λhg=>?_,λhg=>?_⟩
  ·have:wD s=none:=by unfold wD;rw[if_neg];rintro⟨h,_⟩;rw[h]at hg;cases hg
   rw[this]at hK;exact hK w4 hx
  ·have hg:goodN s=true:=by simpa using hg
   rcases DO hg with⟨h1,h2,h3⟩|⟨h1,_⟩
   ·rw[h1]at hn;cases hn;have:wD s=some (num s):=by unfold wD;rw[if_pos ⟨hg,h2,h3⟩]
    rw[this]at hK;exact hK w4 hx
   ·rw[h1]at hn;cases hn
 ·rw[EE];simp only[iB,Bool.not_true,vU];intro g;rw[iS,bZ];have:wD s=none:=by
   unfold wD;rw[if_neg];rintro⟨hg,h2,h3⟩;rcases DO hg with⟨h1,_⟩|⟨_,h4⟩
   ·exact hn _ h1
   ·omega
  rw[this]at hK;exact hK w1 hx1
end
theorem BD{s:aH}(h:goodN s=true):s.length<=101:=by
 obtain⟨_,g2,_,_⟩:=fF h;obtain⟨hs,_⟩:=BC h;rcases hs with⟨e,_⟩|⟨e,_⟩
 ·rw[e,List.length_cons];omega
 ·rw[e];omega
theorem ON{v:JV}(h:oC v=true):v.t.length<=16384:=by
 rw[jH,Bool.and_eq_true]at h;obtain⟨_,_,_,h4,_,_,h7,h8,_⟩:=iZ h.1;by_cases ht:v.t=[]
 ·rw[ht];simp
 ·rcases h4 ht with k|k
  ·have:=BD (h7 k);omega
  ·exact h8 k
theorem bB.get5{G:Nat->Prop}{w:World}:∀{xs:List JV} {L:List Value} {i:Nat} {x:JV},bB G w xs L->xs[i]?=some x->∃cs,bE G w x cs/\∀j,j<5->L[i*5+j]?=cs[j]?
 |[],_,_,_,_,h=>by simp at h
 |y::xs,L,0,x,h,hx=>by
  simp only[List.getElem?_cons_zero,Option.some.injEq]at hx
  subst hx
  simp only[bB]at h
  obtain⟨c,r,rfl,hc,hr⟩:=h
  refine⟨c,hc,λj hj=>?_⟩
  rw[Nat.zero_mul,Nat.zero_add,List.getElem?_append_left (by rw[hc.rep.len];exact hj)]
 |y::xs,L,i+1,x,h,hx=>by
  simp only[List.getElem?_cons_succ]at hx
  simp only[bB]at h
  obtain⟨c,r,rfl,hc,hr⟩:=h
  obtain⟨cs,h1,h2⟩:=bB.get5 hr hx
  refine⟨cs,h1,λj hj=>?_⟩
  rw[List.getElem?_append_right (by rw[hc.rep.len];omega),hc.rep.len,<-h2 j hj]
  congr 1;omega
section
variable [HX]
end
end
end Go.Proofs.YtghhmpppnmoeoaaGreatDoor
namespace Go.Proofs
section
open Go.RowKit Go.Lib Go.Shelf
variable{w:World}{K:Q0}{cs:List Value}{G:Nat->Prop}{T:TypeId}{i:Nat}{n:Nat}{v:Value}{w':World}{P:Program}{c:UInt8}{S:Nat->Prop}
abbrev Mv:TypeId:=116
set_option maxHeartbeats 1000000 in
set_option maxRecDepth 100000 in
theorem Tryz.check_used(b:Nat)(w:World)(h0:w.cell? ⟨b,0,none⟩=some (.pointer (some ⟨b,0,none⟩))):
  Calls P0 102 #[.pointer (some ⟨b,0,none⟩)] w λe w'=>e=.returned (.tuple #[])/\w'=w:=by
 obtain⟨j,hj,_⟩:=Option.map_eq_some_iff.1 (show(Tryz.prog.info? 116).map (·.size)=some 2 by kernel_rfl)
 go_enter Tryz.func102,Tryz.ntmps102
 go_wp2
 rw[Lib.run_neq_ptr_same w _ Tryz.underlying114 hj]
 go_wp2
 go_end0
 exact⟨rfl,rfl⟩
set_option maxHeartbeats 1000000 in
set_option maxRecDepth 100000 in
theorem Tryz.check_fresh(b:Nat)(w:World)(h0:w.cell? ⟨b,0,none⟩=some (.pointer none))(hsh:w.shape? b=some (116,2))(hfz:w.frozen? ⟨b,0,none⟩=false):
  Calls P0 102 #[.pointer (some ⟨b,0,none⟩)] w λe w'=>e=.returned (.tuple #[])/\w'=w.setCell ⟨b,0,none⟩ (.pointer (some ⟨b,0,none⟩)):=by
 obtain⟨j,hj,hjs⟩:=Option.map_eq_some_iff.1 (show(Tryz.prog.info? 116).map (·.size)=some 2 by kernel_rfl)
 go_enter Tryz.func102,Tryz.ntmps102
 go_wp2
 rw[Lib.run_to_unsafe w ⟨b,0,none⟩ Tryz.underlying114 Tryz.underlying172 hj (by rw[hjs];decide) hsh (Nat.zero_lt_succ 1)];simp only[Result.andThen];rw[Oper.upon_value]
 go_wp2
 rw[run_callFunc_extern Tryz.func137 (by kernel_rfl) (by kernel_rfl) (by kernel_rfl) (e:=Extern.AbiNoEscape.same) (by kernel_rfl)];rw[Lib.run_noEscape];simp only[Result.andThen];rw[Oper.upon_value]
 go_wp2
 rw[Lib.run_from_unsafe w ⟨b,0,none⟩ Tryz.underlying172 Tryz.underlying114 hj hsh (show liesAt P0 Tryz.prog.depth 116 (2/Tryz.prog.cellsOf 116) 0 116 1=true by kernel_rfl)];simp only[Result.andThen];rw[Oper.upon_value]
 go_wp2
 go_end0
 exact⟨rfl,rfl⟩
end
end Go.Proofs
namespace Go.Proofs.YtghhmpppnmoeoaaGreatDoor
section
open Go Go.Eng Go.RowKit
variable{w:World}{K:Q0}{cs:List Value}{G:Nat->Prop}{T:TypeId}{i:Nat}{n:Nat}{v:Value}{w':World}{P:Program}{c:UInt8}{S:Nat->Prop}
abbrev Mv:TypeId:=116
theorem xN:mM P0 89 U8 1 1:=⟨by kernel_rfl,by kernel_rfl,by decide⟩
def qI(w:World)(B b:Nat)(l:aH):Prop:=
 ∃p v,w.heap[b]?=some (.cells [p,v].toArray Mv (0,0))/\(p=.pointer none\/p=.pointer (some ⟨b,0,none⟩))/\Own w B U8 1 v l.length (pY l)/\B<=b
def sV(w:World)(B b:Nat)(k:Nat):Prop:=k=b\/Mr w B U8 k
theorem qI.chg{B b:Nat}{l:aH}(h:qI w B b l)(hc:aS S w w')(hb:¬S b)(hS:∀k,Mr w B U8 k->¬S k):qI w' B b l:=by
 obtain⟨p,v,h1,h2,h3,h4⟩:=h;exact⟨p,v,hc.at h1 hb,h2,h3.chg hc hS,h4⟩
theorem qI.ext{B b:Nat}{l:aH}(h:qI w B b l)(hc:bA w w'):qI w' B b l:=h.chg hc (λe=>e) λ_ _ e=>e
theorem qI.lt{B b:Nat}{l:aH}(h:qI w B b l):b<w.heap.size:=by
 obtain⟨p,v,h1,_⟩:=h;exact dA h1
theorem qI.base{B b:Nat}{l:aH}(h:qI w B b l):B<=b:=by obtain⟨p,v,_,_,_,h4⟩:=h;exact h4
theorem HN{B b:Nat}{p:Value}(h1:w.heap[b]?=some (.cells [p,v].toArray Mv (0,0))):¬Mr w B U8 b:=by
 rintro⟨_,c,hc⟩;rw[h1]at hc;simp only[Option.some.injEq,Obj.cells.injEq]at hc;exact absurd hc.2.1 (by decide)
theorem sV.trans{w1 w2:World}{B b:Nat}(h1:aS (sV w B b) w w1)(h2:aS (sV w1 B b) w1 w2):aS (sV w B b) w w2:=by
 refine⟨h2.os.trans h1.os,h2.tape.trans h1.tape,h2.output.trans h1.output,Nat.le_trans h1.size h2.size,λk hk hn=>?_⟩;have e1:=h1.heap k hk hn;rw[<-e1];refine h2.heap k (Nat.lt_of_lt_of_le hk h1.size) λe=>hn ?_;rcases e with e|⟨e2,c,e3⟩
 ·exact .inl e
 ·exact .inr ⟨e2,c,by rw[<-e1];exact e3⟩
theorem sV.from{w1 w2:World}{B b:Nat}(h1:bA w w1)(h2:aS (sV w1 B b) w1 w2):aS (sV w B b) w w2:=sV.trans (aS.of_ext h1) h2
theorem sV.new{w0:World}{B b:Nat}(h0:bA w0 w)(hB:w0.heap.size<=B)(hb:B<=b)(h:aS (sV w B b) w w'):bA w0 w':=
 h0.then h λk hk e=>by
  rcases e with rfl|⟨e,_⟩
  ·omega
  ·omega
theorem sV.keep{B b k:Nat}{c:Array Value}{fr:Nat×Nat}(h:aS (sV w B b) w w')(hk:w.heap[k]?=some (.cells c T fr))(hb:k≠b)(hT:T≠U8):w'.heap[k]?=some (.cells c T fr):=
 h.at hk λe=>by
  rcases e with e|⟨_,c',e⟩
  ·exact hb e
  ·rw[hk]at e
   simp only[Option.some.injEq,Obj.cells.injEq]at e
   exact hT e.2.1
theorem sV.iter{B b k p:Nat}{s:ByteArray}(h:aS (sV w B b) w w')(hk:w.heap[k]?=some (.stringIter s p))(hb:k≠b):w'.heap[k]?=some (.stringIter s p):=
 h.at hk λe=>by
  rcases e with e|⟨_,c',e⟩
  ·exact hb e
  ·rw[hk]at e;cases e
section
variable [HX]
theorem Zq{B:Nat}{K:Q0}(hB:B<=w.heap.size)(hK:∀b w',b=w.heap.size->qI w' B b []->bA w w'->K (.pointer (some ⟨b,0,none⟩)) w'):aN Mv [.pointer none,.slice none 0 0] w K:=
 aI λa w' ha hz hb hx=>hK a w' ha ⟨_,_,hb,.inl rfl,⟨by simp[pY],.inl ⟨rfl,rfl⟩⟩,by omega⟩ hx
theorem Fu{B b:Nat}{l:aH}{K:Q0}(h:qI w B b l)
  (hK:∀v w',w'.heap[b]?=some (.cells [.pointer (some ⟨b,0,none⟩),v].toArray Mv (0,0))->Own w' B U8 1 v l.length (pY l)->w'.heap.size=w.heap.size->aS (sV w B b) w w'->K (.tuple #[]) w'):
  aA P0 102 [.pointer (some ⟨b,0,none⟩)] w K:=by
 obtain⟨p,v,h1,h2,h3,h4⟩:=h;have c0:w.cell? ⟨b,0,none⟩=some p:=by rw[aX,h1];rfl
 rcases h2 with rfl|rfl
 ·refine eA (args:=#[.pointer (some ⟨b,0,none⟩)]) Tryz.call102 ((Tryz.check_fresh b w c0 (by simp[World.shape?,h1]) (by rw[iG,h1];rfl)).mono ?_);rintro e w' ⟨rfl,rfl⟩;refine⟨_,rfl,hK v _ ?_ ?_ (nW _ _ _) (aS.set (aS.refl _ _) (.inl (.inl rfl)) _)⟩
  ·rw[jZ,h1];rfl
  ·refine h3.chg (aS.set (S:=λk=>k=b) (aS.refl _ _) (.inl rfl) _) λk hk e=>?_;subst e;exact HN h1 hk
 ·refine eA (args:=#[.pointer (some ⟨b,0,none⟩)]) Tryz.call102 ((Tryz.check_used b w c0).mono ?_);rintro e w' ⟨rfl,rfl⟩;exact⟨_,rfl,hK v _ h1 h3 rfl (aS.refl _ _)⟩
theorem JC{w3:World}{B b n:Nat}{l l':aH}{v':Value}{K:World->Prop}(h1:w.heap[b]?=some (.cells [.pointer (some ⟨b,0,none⟩),v].toArray Mv (0,0)))(hO:Own w B U8 1 v l.length (pY l))(hb:B<=b)
  (hc:aS (λk=>v.ownBlock=some k) w w3)(hO':Own w3 B U8 1 v' l'.length (pY l'))(hK:∀w',qI w' B b l'->aS (sV w B b) w w'->w'.heap.size=w3.heap.size->K w'):
  bF 1 (.pointer (some ⟨b,1,none⟩)) v' w3 K:=by
 have hne:¬v.ownBlock=some b:=λe=>HN h1 (hO.block b e);have h3:=hc.at h1 hne;have hsh:cY v'=true:=by obtain⟨p,c,rfl,_⟩:=hO'.sl.shape;rfl
 refine eY h3 hsh (by simp) λw4 hz hb4 hc4=>?_;refine hK w4 ⟨.pointer (some ⟨b,0,none⟩),v',by rw[hb4];simp,.inr rfl,hO'.chg hc4 λk hk e=>by subst e;exact HN h3 hk,hb⟩ ?_ hz;have s1:aS (sV w B b) w w3:=hc.mono λk _ e=>.inr (hO.block k e);exact s1.then hc4 λk _ e=>.inl e
theorem Ih{B b:Nat}{l s:aH}{K:Q0}(h:qI w B b l)(hB:B<=w.heap.size)(hl:l.length+s.length<=140737488355328)
  (hK:∀v w',qI w' B b (l++s)->aS (sV w B b) w w'->K v w'):aA P0 66 [.pointer (some ⟨b,0,none⟩),str s] w K:=by
 have hb:=h.base;refine ZZ ?_;unfold W66;refine Fu h λv w1 h1 hO hz hc=>?_;rw[bX,aO,bY];refine⟨v,by rw[aV,aX,h1];rfl,?_⟩;obtain⟨i,z,hi,hzr,h2,h3,h4⟩:=xN.get;have hz0:i.zero=some (.int .u8 0):=by
  have:(Tryz.prog.info? U8).map (·.zero)=some (some (.int .u8 0)):=by kernel_rfl
  rw[hi]at this;simpa using this
 obtain⟨v',w3,hr,hO',hg,_⟩:=Lib.run_append_own_string (P:=P0) w1 B 89 9 89 U8 i xN.und (by kernel_rfl) hi hz0 h2 h3 v l.length (pY l) hO (aL s) (by rw[dC];unfold maxLen;omega) (by rw[dC];omega) (by omega);unfold bP;rw[hr];dsimp only;rw[bX,aO];have hO2:Own w3 B U8 1 v' (l++s).length (pY (l++s)):=by
  rw[As,List.length_append];have e1:Lib.strCells (aL s)=pY s:=by unfold Lib.strCells pY;rw[cK]
  rw[dC,e1]at hO';exact hO'
 refine JC (n:=0) h1 hO hb (aS.of_grown hg λk e=>e) hO2 λw4 hb4 hc4 _=>?_;rw[dI];exact hK _ w4 hb4 (sV.trans hc hc4)
theorem Eo{K:Q0}(hK:∀t w',SlAt w' U8 t 1 [.int .u8 (n:Int)]->bA w w'->K t w'):bR U8 1 [(.int .u8 0)] [(0,1,.int .u8 (n:Int))] w K:=by
 rw[bR];simp only[bN,bI,List.length_cons,List.length_nil,List.set_cons_zero];refine⟨by omega,?_⟩;refine hK _ _ ⟨_,_,rfl,Nat.le_refl _,λe=>(by cases e),λ_=>⟨_,_,_,_,rfl,dW _ _ _ rfl,λi _=>by rw[Nat.zero_add];simp⟩⟩ (aS.alloc (aS.refl _ _) _)
theorem Ar{B b:Nat}{l:aH}{K:Q0}(h:qI w B b l)(hB:B<=w.heap.size)(hl:l.length+1<=140737488355328)(hn:n<256)
  (hK:∀w',qI w' B b (l++[UInt8.ofNat n])->aS (sV w B b) w w'->K .nilIface w'):aA P0 62 [.pointer (some ⟨b,0,none⟩),.int .u8 (n:Int)] w K:=by
 have hb:=h.base;refine aAb ?_;unfold W62;refine Fu h λv w1 h1 hO hz hc=>?_;rw[bX,aO,bY];refine⟨v,by rw[aV,aX,h1];rfl,?_⟩;refine Eo λt w2 ht hx2=>?_;refine gN xN (hO.ext hx2) ht (m:=1) rfl (λu hu=>by simp only[List.mem_singleton]at hu;subst hu;rfl) (by omega) (by omega) (by have:=hx2.size;omega) λv' w3 hO3 hc3 _=>?_;rw[bX,aO];have hO2:Own w3 B U8 1 v' (l++[UInt8.ofNat n]).length (pY (l++[UInt8.ofNat n])):=by
  rw[As,List.length_append];have e1:pY [UInt8.ofNat n]=[.int .u8 (n:Int)]:=by
   simp only[pY,List.map_cons,List.map_nil,UInt8.toNat_ofNat'];rw[Nat.mod_eq_of_lt (by omega)]
  rw[e1];exact hO3
 refine JC (n:=0) (hx2.at h1 id) (hO.ext hx2) hb hc3 hO2 λw4 hb4 hc4 _=>?_;exact hK w4 hb4 (sV.trans hc (sV.from hx2 hc4))
end
abbrev u8(n:Nat):Value:=.int .u8 (n:Int)
theorem aBm:∀x:Fin 32,IntKind.u8.wrap (BitVec.ofInt IntKind.u8.bits 192|||BitVec.ofInt IntKind.u8.bits ((x.val:Nat):Int)).toNat=((192+x.val:Nat):Int):=by decide+kernel
theorem aBl:∀x:Fin 16,IntKind.u8.wrap (BitVec.ofInt IntKind.u8.bits 224|||BitVec.ofInt IntKind.u8.bits ((x.val:Nat):Int)).toNat=((224+x.val:Nat):Int):=by decide+kernel
theorem aBk:∀x:Fin 8,IntKind.u8.wrap (BitVec.ofInt IntKind.u8.bits 240|||BitVec.ofInt IntKind.u8.bits ((x.val:Nat):Int)).toNat=((240+x.val:Nat):Int):=by decide+kernel
theorem aBn:∀x:Fin 64,IntKind.u8.wrap (BitVec.ofInt IntKind.u8.bits 128|||BitVec.ofInt IntKind.u8.bits ((x.val:Nat):Int)).toNat=((128+x.val:Nat):Int):=by decide+kernel
theorem aBP:∀x:Fin 256,IntKind.u8.wrap (BitVec.ofInt IntKind.u8.bits ((x.val:Nat):Int)&&&BitVec.ofInt IntKind.u8.bits 63).toNat=((x.val%64:Nat):Int):=by decide+kernel
theorem uG(n:Nat):IntKind.u8.wrap (n:Int)=((n%256:Nat):Int):=by
 simp only[IntKind.wrap,IntKind.bits,IntKind.signed,Bool.false_and];rw[show(2:Int)^8=256 by decide];simp
theorem FN(h:n<4294967296):IntKind.u32.wrap (n:Int)=(n:Int):=by
 simp only[IntKind.wrap,IntKind.bits,IntKind.signed,Bool.false_and];rw[show(2:Int)^32=4294967296 by decide];simp only[Bool.false_eq_true,if_false];omega
theorem Cz(r k:Nat)(hk:k<=32)(K:Value->Prop):aC .shr (.int .i32 (r:Int)) (.int .u64 (k:Int)) K↔K (.int .i32 ((r/2^k:Nat):Int)):=by
 have e:(r:Int).fdiv (2^min (k:Int).toNat IntKind.i32.bits)=((r/2^k:Nat):Int):=by
  rw[Int.toNat_natCast,show min k IntKind.i32.bits=k from Nat.min_eq_left hk,Int.fdiv_eq_ediv_of_nonneg _ (by exact Int.le_of_lt (Int.pow_pos (by decide)))];rw[Int.natCast_ediv,Int.natCast_pow];rfl
 simp only[aC];rw[e];constructor
 ·exactλh=>h.2
 ·exactλh=>⟨by omega,h⟩
theorem yA(x:Nat)(K:Value->Prop):(oO .u8 (.int .i32 (x:Int)) λt=>aC .and t (.int .u8 63) λt=>aC .or (.int .u8 128) t K)↔K (u8 (128+x%64)):=by
 rw[jJ,uG,TU,aBP ⟨x%256,by omega⟩,Fx,aBn ⟨x%256%64,by omega⟩];simp only;rw[show x%256%64=x%64 by omega]
theorem aDu{a b:Nat}{K:Q0}(hK:∀t w',SlAt w' U8 t 2 [u8 a,u8 b]->bA w w'->K t w'):bR U8 2 [(.int .u8 0),(.int .u8 0)] [(0,1,u8 a),(1,1,u8 b)] w K:=by
 rw[bR];simp only[bN,bI,List.length_cons,List.length_nil,List.set_cons_zero,List.set_cons_succ];refine⟨by omega,by omega,?_⟩;refine hK _ _ ⟨_,_,rfl,Nat.le_refl _,λe=>(by cases e),λ_=>⟨_,_,_,_,rfl,dW _ _ _ rfl,λi _=>by rw[Nat.zero_add];simp⟩⟩ (aS.alloc (aS.refl _ _) _)
theorem aDt{a b c:Nat}{K:Q0}(hK:∀t w',SlAt w' U8 t 3 [u8 a,u8 b,u8 c]->bA w w'->K t w'):bR U8 3 [(.int .u8 0),(.int .u8 0),(.int .u8 0)] [(0,1,u8 a),(1,1,u8 b),(2,1,u8 c)] w K:=by
 rw[bR];simp only[bN,bI,List.length_cons,List.length_nil,List.set_cons_zero,List.set_cons_succ];refine⟨by omega,by omega,by omega,?_⟩;refine hK _ _ ⟨_,_,rfl,Nat.le_refl _,λe=>(by cases e),λ_=>⟨_,_,_,_,rfl,dW _ _ _ rfl,λi _=>by rw[Nat.zero_add];simp⟩⟩ (aS.alloc (aS.refl _ _) _)
theorem aDs{a b c d:Nat}{K:Q0}(hK:∀t w',SlAt w' U8 t 4 [u8 a,u8 b,u8 c,u8 d]->bA w w'->K t w'):bR U8 4 [(.int .u8 0),(.int .u8 0),(.int .u8 0),(.int .u8 0)] [(0,1,u8 a),(1,1,u8 b),(2,1,u8 c),(3,1,u8 d)] w K:=by
 rw[bR];simp only[bN,bI,List.length_cons,List.length_nil,List.set_cons_zero,List.set_cons_succ];refine⟨by omega,by omega,by omega,by omega,?_⟩;refine hK _ _ ⟨_,_,rfl,Nat.le_refl _,λe=>(by cases e),λ_=>⟨_,_,_,_,rfl,dW _ _ _ rfl,λi _=>by rw[Nat.zero_add];simp⟩⟩ (aS.alloc (aS.refl _ _) _)
theorem Qd(l:List Nat)(h:∀x∈l,x<256):pY (l.map b8)=l.map u8:=by
 unfold pY;rw[List.map_map];apply List.map_congr_left;intro x hx;have:=h x hx;simp only[Function.comp,b8,UInt8.toNat_ofNat',u8];rw[Nat.mod_eq_of_lt (by omega)]
section
variable [HX]
theorem TV{B r:Nat}{l:aH}{K:Q0}(hO:Own w B U8 1 v l.length (pY l))(hB:B<=w.heap.size)(hl:l.length+4<=140737488355328)(hr:r<55296\/57343<r/\r<=1114111)
  (hK:∀v' w',Own w' B U8 1 v' (l++FL r).length (pY (l++FL r))->(∀k,¬Mr w B U8 k->k<w.heap.size->w'.heap[k]?=w.heap[k]?)->aS (λk=>v.ownBlock=some k) w w'->K v' w'):
  aA P0 103 [v,.int .i32 (r:Int)] w K:=by
 have fin:∀(bs:List Nat) (t:Value) (w1:World),FL r=bs.map b8->(∀x∈bs,x<256)->bs.length<=4->SlAt w1 U8 t bs.length (bs.map u8)->bA w w1->bP P0 (Builtin.append_ #[89,89] 89 #[v,t]) w1 K:=by
  intro bs t w1 he hlt hlen ht hx;refine gN xN (hO.ext hx) ht (m:=bs.length) (by simp) (λu hu=>by simp only[List.mem_map]at hu;obtain⟨x,_,rfl⟩:=hu;rfl) (by omega) (by omega) (by have:=hx.size;omega) λv' w3 hO3 hc3 _=>?_;have hc:aS (λk=>v.ownBlock=some k) w w3:=(aS.of_ext hx).trans hc3;refine hK v' w3 ?_ (λk hk hlt=>hc.heap k hlt λe=>hk (hO.block k e)) hc;rw[As,he,Qd bs hlt,List.length_append,List.length_map];exact hO3
 refine VF ?_;unfold aC6;rw[jJ,FN (by omega),pU,aB];refine⟨λh=>?_,λh=>?_⟩
 ·rw[jJ,uG,Nat.mod_eq_of_lt (by omega)];refine Eo λt w1 ht hx=>?_;refine fin [r] t w1 ?_ (λx hx=>by simp only[List.mem_singleton]at hx;omega) (by simp) ht hx;unfold FL;rw[if_pos (by omega)];rfl
 refine Vb ?_;unfold aCF;rw[jJ,FN (by omega),pU,aB];refine⟨λh2=>?_,λh2=>?_⟩
 ·rw[show(6:Int)=((6:Nat):Int)from rfl,Cz r 6 (by omega),jJ,uG,show r/2^6%256=r/64 by omega,Fx,aBm ⟨r/64,by omega⟩,yA];refine aDu λt w1 ht hx=>?_;refine fin [192+r/64,128+r%64] t w1 ?_ (λx hx=>by simp only[List.mem_cons,List.not_mem_nil,or_false]at hx;omega) (by simp) ht hx;unfold FL;rw[if_neg (by omega),if_pos (by omega)];rfl
 refine aP.cut (λs' w'=>s'=[.bool (decide (r<=65535))]/\w'=w) ?_ ?_
 ·rw[cA,aB];refine⟨λh3=>?_,λh3=>?_⟩
  ·rw[decide_eq_true h3,decide_eq_true (by omega)];exact⟨rfl,rfl⟩
  ·rw[cA,decide_eq_true (show(57343:Int)<(r:Int)by omega)];refine cX.look (decide (r<=65535)) (λ_ J hJ=>?_) λg=>?_
   ·rw[pU];rw[show decide ((r:Int)<=65535)=decide (r<=65535)by rw[decide_eq_decide];omega];exact hJ
   ·exact⟨rfl,rfl⟩
 rintro s' g w' ⟨rfl,rfl⟩;simp only[List.getD_cons_zero];rw[aB];refine⟨λh3=>?_,λh3=>?_⟩
 ·rw[show(12:Int)=((12:Nat):Int)from rfl,Cz r 12 (by omega),jJ,uG,show r/2^12%256=r/4096 by omega,Fx,aBl ⟨r/4096,by omega⟩,show(6:Int)=((6:Nat):Int)from rfl,Cz r 6 (by omega),yA,yA];refine aDt λt w1 ht hx=>?_;refine fin [224+r/4096,128+r/64%64,128+r%64] t w1 ?_ (λx hx=>by simp only[List.mem_cons,List.not_mem_nil,or_false]at hx;omega) (by simp) ht hx;unfold FL;rw[if_neg (by omega),if_neg (by omega),if_pos (by omega)];rfl
 rw[iN,decide_eq_true (show(65535:Int)<(r:Int)by omega)];refine cX.look true (λ_ J hJ=>?_) λg=>?_
 ·rw[pU,decide_eq_true (show(r:Int)<=1114111 by omega)];exact hJ
 show aD (.bool true) _ _;rw[bZ];rw[show(18:Int)=((18:Nat):Int)from rfl,Cz r 18 (by omega),jJ,uG,show r/2^18%256=r/262144 by omega,Fx,aBk ⟨r/262144,by omega⟩,show(12:Int)=((12:Nat):Int)from rfl,Cz r 12 (by omega),yA,show(6:Int)=((6:Nat):Int)from rfl,Cz r 6 (by omega),yA,yA];refine aDs λt w1 ht hx=>?_;refine fin [240+r/262144,128+r/4096%64,128+r/64%64,128+r%64] t w1 ?_ (λx hx=>by simp only[List.mem_cons,List.not_mem_nil,or_false]at hx;omega) (by simp) ht hx;unfold FL;rw[if_neg (by omega),if_neg (by omega),if_neg (by omega)];rfl
theorem PQ{B b r:Nat}{l:aH}{K:Q0}(h:qI w B b l)(hB:B<=w.heap.size)(hl:l.length+4<=140737488355328)(hr:r<55296\/57343<r/\r<=1114111)
  (hK:∀v w',qI w' B b (l++FL r)->aS (sV w B b) w w'->K v w'):aA P0 63 [.pointer (some ⟨b,0,none⟩),.int .i32 (r:Int)] w K:=by
 have hb:=h.base;refine aAa ?_;unfold W63;refine Fu h λv w1 h1 hO hz hc=>?_;have hc1:w1.cell? (⟨b,0,none⟩:Addr)|>.isSome:=by rw[aX,h1];rfl
 rw[bX,aO,bY];refine⟨v,by rw[aV,aX,h1];rfl,?_⟩;rw[dJ hO.sl,bX,aO,bY];refine⟨v,by rw[aV,aX,h1];rfl,?_⟩;refine TV hO (by omega) hl hr λv' w2 hO2 _ hc2=>?_;rw[bX,aO];refine JC (n:=0) h1 hO hb hc2 hO2 λw4 hb4 hc4 _=>?_;obtain⟨p,v4,h4,_,hO4,_⟩:=id hb4;rw[bX,aO,bY];refine⟨v4,by rw[aV,aX,h4];rfl,?_⟩;rw[dJ hO4.sl,iM];exact hK _ w4 hb4 (sV.trans hc hc4)
end
section
variable [HX]
def BQ(xs:List JV)(i:Nat):Nat:=match xs[i]? with|some x=>jT x|none=>0
def oU(xs:List JV):Nat->Nat
 |0=>0
 |n+1=>oU xs n+BQ xs n
theorem zE{xs:List JV}{x:JV}(h:xs[i]?=some x):BQ xs i=jT x:=by unfold BQ;rw[h]
theorem zD(x:JV)(xs:List JV):∀n,oU (x::xs) (n+1)=jT x+oU xs n
 |0=>by simp[oU,BQ]
 |n+1=>by
  rw[oU,zD x xs n,oU]
  have:BQ (x::xs) (n+1)=BQ xs n:=by unfold BQ;rw[List.getElem?_cons_succ]
  omega
theorem KI:∀(xs:List JV) (n:Nat),n<=xs.length->oU xs n<=kC xs
 |xs,0,_=>Nat.zero_le _
 |[],n+1,h=>by simp at h
 |x::xs,n+1,h=>by
  have ih:=KI xs n (by simpa using h)
  rw[zD]
  simp only[kC]
  omega
end
end
section
open Go Go.Eng Go.RowKit
variable{w:World}{K:Q0}{cs:List Value}{G:Nat->Prop}{T:TypeId}{i:Nat}{n:Nat}{v:Value}{w':World}{P:Program}{c:UInt8}{S:Nat->Prop}
def lK(v:JV)(m:Nat)(left:Int):Bool:=mK v m&&oC v&&decide ((jT v:Int)<=left)
theorem IX:fK []=true:=rfl
def flatK(k:Int)(t:aH):Bool:=if k=3 then Num.goodN t else if k=4 then decide (t.length<=16384)else decide (t=[])
def BJ(v:JV):Bool:=flatK v.k v.t
theorem Jf{v:JV}{m:Nat}{left:Int}(hm:m≠0)(hl:1<=left)(hb:v.b=true->v.k=2)(h0:0<=v.k)(h5:v.k<5):lK v m left=(BJ v&&(decide (v.xs.length=0)&&decide (v.ks.length=0))):=by
 cases v with
 |mk k b t xs ks=>
 simp only[JV.k,JV.b]at hb h0 h5;unfold lK;show(mK (.mk k b t xs ks) m&&(kH k b t xs.length ks&&lQ xs)&&decide ((jT (.mk k b t xs ks):Int)<=left))=(flatK k t&&(decide (xs.length=0)&&decide (ks.length=0)));unfold flatK;by_cases hx:xs=[]
 ·subst hx;cases m with
  |zero=>exact absurd rfl hm
  |succ m=>
   by_cases hk:ks=[]
   ·subst hk;have hc:jT (.mk k b t [] [])=1:=rfl;rw[kI,hc,decide_eq_true (show((1:Nat):Int)<=left from hl)];simp only[JV.xs,vR,lQ,List.length_nil];rw[Bool.eq_iff_iff];simp only[kH,IX,Bool.and_true,Bool.true_and,Bool.and_eq_true,Bool.or_eq_true,Bool.not_eq_true',decide_eq_true_eq,decide_eq_false_iff_not];constructor
    ·rintro⟨⟨⟨⟨⟨⟨⟨⟨_,_⟩,_⟩,ht⟩,_⟩,_⟩,h3⟩,h4⟩,_⟩;refine⟨?_,trivial,trivial⟩;split
     ·rename_i e;exact h3.resolve_left (λh=>h e)
     ·split
      ·rename_i e;exact decide_eq_true (h4.resolve_left (λh=>h e))
      ·rcases ht with(ht|ht)|ht
       ·exact decide_eq_true ht
       ·contradiction
       ·contradiction
    ·rintro⟨hf,_⟩;refine⟨⟨⟨⟨⟨⟨⟨⟨h0,by omega⟩,?_⟩,?_⟩,.inl trivial⟩,.inr trivial⟩,?_⟩,?_⟩,?_⟩
     ·cases b with
      |false=>exact .inl rfl
      |true=>exact .inr (hb rfl)
     ·by_cases e3:k=3
      ·exact .inl (.inr e3)
      ·by_cases e4:k=4
       ·exact .inr e4
       ·rw[if_neg e3,if_neg e4,decide_eq_true_iff]at hf;exact .inl (.inl hf)
     ·by_cases e3:k=3
      ·rw[if_pos e3]at hf;exact .inr hf
      ·exact .inl e3
     ·by_cases e4:k=4
      ·rw[if_neg (by omega),if_pos e4,decide_eq_true_iff]at hf;exact .inr hf
      ·exact .inl e4
     ·exact .inl (by omega)
   ·have h1:kH k b t ([]:List JV).length ks=false:=by
     cases hh:kH k b t ([]:List JV).length ks with
     |false=>rfl
     |true=>have:=(iZ hh).2.2.2.2.2.1 hk;omega
    rw[h1,decide_eq_false (show¬ks.length=0 fromλe=>hk (List.eq_nil_of_length_eq_zero e))];simp
 ·have h1:kH k b t xs.length ks=false:=by
   cases hh:kH k b t xs.length ks with
   |false=>rfl
   |true=>have:=(iZ hh).2.2.2.2.1 (λe=>hx (List.eq_nil_of_length_eq_zero e));omega
  rw[h1,decide_eq_false (show¬xs.length=0 fromλe=>hx (List.eq_nil_of_length_eq_zero e))];simp
def pQ(xs:List JV)(m:Nat)(left:Int):Bool:=vR xs m&&lQ xs&&decide ((kC xs:Int)<=left)
theorem Jg{v:JV}{m:Nat}{left:Int}(hb:v.b=true->v.k=2)(hk:v.k=5/\v.ks=[]\/v.k=6/\v.ks.length=v.xs.length/\fK v.ks=true):lK v (m+1) left=(decide (v.t=[])&&pQ v.xs m (left-1)):=by
 cases v with
 |mk k b t xs ks=>
 simp only[JV.k,JV.b,JV.ks,JV.xs]at hb hk;unfold lK;have hc:jT (.mk k b t xs ks)=1+kC xs:=by simp only[jT]
 rw[hc];show(vR xs m&&(kH k b t xs.length ks&&lQ xs)&&decide (((1+kC xs:Nat):Int)<=left))=(decide (t=[])&&(vR xs m&&lQ xs&&decide ((kC xs:Int)<=left-1)));have hbf:b=false:=by
  cases b with
  |false=>rfl
  |true=>have:=hb rfl;omega
 subst hbf;have hh:kH k false t xs.length ks=decide (t=[]):=by
  rw[Bool.eq_iff_iff];simp only[kH,Bool.and_eq_true,Bool.or_eq_true,Bool.not_eq_true',decide_eq_true_eq,decide_eq_false_iff_not,Bool.not_false];constructor
  ·rintro⟨⟨⟨⟨⟨⟨⟨⟨⟨_,_⟩,_⟩,ht⟩,_⟩,_⟩,_⟩,_⟩,_⟩,_⟩;rcases ht with(ht|ht)|ht
   ·exact ht
   ·omega
   ·omega
  ·intro ht;refine⟨⟨⟨⟨⟨⟨⟨⟨⟨by omega,by omega⟩,.inl trivial⟩,.inl (.inl ht)⟩,.inr (by omega)⟩,?_⟩,.inl (by omega)⟩,.inl (by omega)⟩,?_⟩,?_⟩
   ·rcases hk with⟨_,h⟩|⟨h,_⟩
    ·exact .inr h
    ·exact .inl h
   ·rcases hk with⟨h,_⟩|⟨_,h,_⟩
    ·exact .inl (by omega)
    ·exact .inr h
   ·rcases hk with⟨_,h⟩|⟨_,_,h⟩
    ·rw[h];rfl
    ·exact h
 rw[hh];have e:decide (((1+kC xs:Nat):Int)<=left)=decide ((kC xs:Int)<=left-1):=by rw[decide_eq_decide];omega
 rw[e];generalize decide ((kC xs:Int)<=left-1)=d4;generalize decide (t=[])=d1;generalize vR xs m=d2;generalize lQ xs=d3;cases d1<;>cases d2<;>cases d3<;>cases d4<;>rfl
theorem Hd{v:JV}{m:Nat}{left:Int}(h:m=0\/left<1\/(v.b=true/\v.k≠2)\/v.k<0\/6<v.k\/(v.k=5/\v.ks≠[])\/(v.k=6/\(v.ks.length≠v.xs.length\/fK v.ks=false))):lK v m left=false:=by
 cases hg:lK v m left with
 |false=>rfl
 |true=>
  unfold lK at hg;simp only[Bool.and_eq_true,decide_eq_true_eq]at hg;obtain⟨⟨h1,h2⟩,h3⟩:=hg;rw[jH,Bool.and_eq_true]at h2;have hh:=iZ h2.1;have hc:=KH v;rcases h with rfl|h|⟨h,h'⟩|h|h|⟨h,h'⟩|⟨h,h'|h'⟩
  ·rw[oN]at h1;cases h1
  ·omega
  ·exact absurd (hh.2.2.1 h) h'
  ·have:=hh.1;omega
  ·have:=hh.2.1;omega
  ·have:=hh.2.2.2.2.2.1 h';omega
  ·exact absurd (hh.2.2.2.2.2.2.2.2.1 h) h'
  ·have:=hh.2.2.2.2.2.2.2.2.2;rw[h']at this;cases this
theorem _root_.Go.Eng.SlAt.keep1{p:Nat}{x:Value}{T':TypeId}{fr:Nat×Nat}(h:SlAt w T v n cs)(hp:w.heap[p]?=some (.cells [x].toArray T' fr))(hc:aS (λk=>k=p) w w')
  (hne:cs≠[]->cs[0]?≠some x\/2<=cs.length):SlAt w' T v n cs:=by
 obtain⟨pp,cap,hv,h1,h2,h3⟩:=h;refine⟨pp,cap,hv,h1,h2,λhn=>?_⟩;obtain⟨b,off,c,fr',hpp,hb,hcs⟩:=h3 hn;refine⟨b,off,c,fr',hpp,hc.at hb ?_,hcs⟩;rintro rfl;rw[hp]at hb;simp only[Option.some.injEq,Obj.cells.injEq]at hb;obtain⟨rfl,_,_⟩:=hb;have hpos:0<cs.length:=List.length_pos_iff.2 hn;have e0:=hcs 0 hpos;rw[Nat.add_zero]at e0;rcases hne hn with h|h
 ·have:off=0:=by
   apply Classical.byContradiction;intro ho;rw[show([x].toArray)[off]?=none by simp;omega,List.getElem?_eq_getElem hpos]at e0;cases e0
  subst this;exact h (by rw[<-e0];rfl)
 ·have e1:=hcs 1 (by omega);rw[List.getElem?_eq_getElem (by omega),show([x].toArray)[off+1]?=none by simp]at e1;cases e1
mutual
theorem Ii{w w':World}{p:Nat}{n:Int}{T':TypeId}{fr:Nat×Nat}(hp:w.heap[p]?=some (.cells [i64 n].toArray T' fr))(hc:aS (λk=>k=p) w w'):∀{v:JV} {cs:List Value},cM w v cs->cM w' v cs
 |.mk k b t xs ks,cs,h=>by
  simp only[cM]at h⊢
  obtain⟨sv,kv,T1,T2,L,rfl,h1,h2,h3,h4⟩:=h
  refine⟨sv,kv,T1,T2,L,rfl,h1.keep1 hp hc λhn=>.inr ?_,oX hp hc h2,h3.keep1 hp hc λhn=>.inl ?_,h4⟩
  ·have:=h2.len
   have hl:0<L.length:=List.length_pos_iff.2 hn
   omega
  ·cases ks with
   |nil=>exact absurd rfl hn
   |cons a r=>intro e;simp at e
theorem oX{w w':World}{p:Nat}{n:Int}{T':TypeId}{fr:Nat×Nat}(hp:w.heap[p]?=some (.cells [i64 n].toArray T' fr))(hc:aS (λk=>k=p) w w'):∀{xs:List JV} {L:List Value},cD w xs L->cD w' xs L
 |[],L,h=>by simp only[cD]at h⊢;exact h
 |x::xs,L,h=>by
  simp only[cD]at h⊢
  obtain⟨c,r,rfl,h1,h2⟩:=h
  exact⟨c,r,rfl,Ii hp hc h1,oX hp hc h2⟩
end
section
variable [HX]
theorem IZ{xs:List JV}{m:Nat}{left:Int}{x:JV}(hi:xs[i]?=some x)(h:lK x m (left-oU xs i)=false):pQ xs m left=false:=by
 cases hg:pQ xs m left with
 |false=>rfl
 |true=>
  unfold pQ at hg;simp only[Bool.and_eq_true,decide_eq_true_eq]at hg;obtain⟨⟨h1,h2⟩,h3⟩:=hg;rw[kN,List.all_eq_true]at h1;rw[rW,List.all_eq_true]at h2;have hm:=List.mem_of_getElem? hi;have hcs:=KI xs (i+1) (List.getElem?_eq_some_iff.1 hi).1;rw[oU,zE hi]at hcs;unfold lK at h;rw[h1 x hm,h2 x hm,decide_eq_true (by omega)]at h;cases h
theorem Pl:∀(xs:List JV),kC xs=oU xs xs.length
 |[]=>rfl
 |x::xs=>by
  rw[List.length_cons,zD,<-Pl xs]
  simp only[kC]
theorem GX{xs:List JV}{m:Nat}{left:Int}(h:∀i x,xs[i]?=some x->lK x m (left-oU xs i)=true)(hl:(kC xs:Int)<=left):pQ xs m left=true:=by
 unfold pQ;rw[decide_eq_true hl,kN,rW,List.all_eq_true.2,List.all_eq_true.2]
 ·rfl
 ·intro x hx;obtain⟨i,hi,rfl⟩:=List.getElem_of_mem hx;have:=h i _ (List.getElem?_eq_getElem hi);unfold lK at this;simp only[Bool.and_eq_true]at this;exact this.1.2
 ·intro x hx;obtain⟨i,hi,rfl⟩:=List.getElem_of_mem hx;have:=h i _ (List.getElem?_eq_getElem hi);unfold lK at this;simp only[Bool.and_eq_true]at this;exact this.1.1
theorem Mm{g:FuncId}{args caps:List Value}{K:Q0}(h:aA P g (args++caps) w K):kP P (.func (.func g) #[] caps.toArray) args w K:=by
 unfold kP Nf;unfold aA at h;have:(do let d<-(Deferred.ofValue (.func (.func g) #[] caps.toArray) args.toArray);invoke d.target d.args:Sem Next)=callFunc g (args++caps).toArray:=by
  show callFunc g (#[]++args.toArray++caps.toArray)=_;simp
 rw[this];exact h
theorem Bo{m:Nat}(hn:n<=9223372036854775807)(hm:m<=9223372036854775807):decide (IntKind.i64.wrap ((n:Int)+(m:Int))=0)=(decide (n=0)&&decide (m=0)):=by
 have e1:(2:Int)^64=18446744073709551616:=by decide
 have e2:(2:Int)^(64-1)=9223372036854775808:=by decide
 have:IntKind.i64.wrap ((n:Int)+(m:Int))=0↔n=0/\m=0:=by
  simp only[IntKind.wrap,IntKind.bits,IntKind.signed,Bool.true_and,e1,e2];split
  ·rename_i h;simp only[ge_iff_le,decide_eq_true_eq]at h;omega
  ·rename_i h;omega
 rw[Bool.eq_iff_iff,decide_eq_true_iff,Bool.and_eq_true,decide_eq_true_iff,decide_eq_true_iff];exact this
theorem KL{K:Q0}(h1:cY v=true)(h:∀a w',a=w.heap.size->w'.heap.size=w.heap.size+1->w'.heap[a]?=some (.cells [v].toArray T (0,0))->bA w w'->K (.pointer (some ⟨a,0,none⟩)) w'):cI T v w K:=by
 cases v<;>first|(simp[cY]at h1;done)|exact h _ _ rfl (by simp) (dW _ _ _ rfl) (aS.alloc (aS.refl _ _) _)
theorem Zc(v:JV):∀{m p:Nat} {left:Int} {w:World} {cs:List Value} {K:Q0},cM w v cs->w.heap[p]?=some (.cells [i64 left].toArray 3 (0,0))->m<=24->-1<=left->left<=2000->
  (∀r w',r=lK v m left->(r=true->w'.heap[p]?=some (.cells [i64 (left-jT v)].toArray 3 (0,0)))->aS (λk=>k=p) w w'->K (.bool r) w')->aA P0 101 [.agg cs.toArray,i64 (m:Int),.pointer (some ⟨p,0,none⟩)] w K:=by
 induction v using JV.ind' with
 |h v ih=>
  intro m p left w cs K h hp hm hl1 hl2 hK;refine VG ?_;unfold aC7;refine gB h λa w1 sv kv hB hx1 ha=>?_;have hplt:=dA hp;have hp1:=hx1.at hp id;refine KL rfl λd w2 hd hz2 hd2 hx2=>?_;refine KL rfl λq w3 hq hz3 hq3 hx3=>?_;have hp3:=hx3.at (hx2.at hp1 id) id;have hB3:=hB.ext (hx2.trans hx3);have hd3:=hx3.at hd2 id;have hx13:=(hx1.trans hx2).trans hx3;simp only[cP,cS,bT,cR,cond_true,cond_false,exists_eq_left',cQ,Nat.reduceAdd,Nat.reduceLT,Nat.lt_add_one,Nat.zero_lt_succ,decide_true,decide_false,ne_eq,reduceCtorEq,bT,hq3,hp3];have ew:IntKind.i64.wrap (left-1)=left-1:=bD (by omega) (by omega);refine eY (off:=0) hp3 rfl (by simp) λw4 hz4 hp4 hc4=>?_;have s1:=hx1.size;have s2:=hx2.size;have hq4:=hc4.at hq3 (by omega);have hd4:=hc4.at hd3 (by omega);have hb4:=hc4.at hB3.hb (by omega);rw[show([i64 left].toArray.setIfInBounds 0 (i64 (IntKind.i64.wrap (left-1))))=[i64 (left-1)].toArray by rw[ew];rfl]at hp4;have hcw:aS (λk=>k=p) w w4:=(aS.of_ext hx13).trans hc4;obtain⟨Tk,hks3⟩:=hB3.keys;have hks4:SlAt w4 Tk kv v.ks.length (v.ks.map str):=hks3.keep1 hp3 hc4 λhn=>.inl (by
   cases hkk:v.ks with
   |nil=>rw[hkk]at hn;exact absurd rfl hn
   |cons a r=>intro e;simp at e)
  obtain⟨Ti,L,hit,hreps⟩:=hB3.items;have hit4:SlAt w4 Ti sv v.xs.length L:=hit.keep1 hp3 hc4 λhn=>.inr (by
   have:=hreps.len;have hl:0<L.length:=List.length_pos_iff.2 hn;omega)
  have hreps4:cD w4 v.xs L:=oX hp3 hc4 hreps;obtain⟨f1,f2,f3,f4⟩:=hB3.fits;have lx:∀KK:Value->Prop,bK sv KK↔KK (i64 v.xs.length):=λKK=>dJ hit KK;have lk:∀KK:Value->Prop,bK kv KK↔KK (i64 v.ks.length):=λKK=>hB3.lenk KK;simp only[cP,cS,bT,cR,cond_true,cond_false,exists_eq_left',cQ,Nat.reduceAdd,Nat.reduceLT,Nat.lt_add_one,Nat.zero_lt_succ,decide_true,decide_false,ne_eq,reduceCtorEq,bT,hq4,hp4,hd4,hb4];intro g1 g2 g3 g4;rw[aQ];refine⟨λhbad=>hK false w4 ?_ (λe=>by cases e) hcw,λhok=>?_⟩
  ·rw[Hd];simp only[Bool.or_eq_true,Bool.and_eq_true,decide_eq_true_eq]at hbad;rcases hbad with(h|h)|⟨h,h'⟩
   ·exact .inl (by omega)
   ·exact .inr (.inl (by omega))
   ·exact .inr (.inr (.inl ⟨h,h'⟩))
  have hm0:m≠0:=λe=>by rw[decide_eq_true (show(m:Int)=0 by omega)]at hok;cases hok
  have hl0:1<=left:=by
   rcases Int.lt_or_le (left-1) 0 with h|h
   ·rw[decide_eq_true h]at hok;simp at hok
   ·omega
  have hbk:v.b=true->v.k=2:=λe=>by
   rw[e]at hok;simp only[Bool.or_eq_false_iff,Bool.true_and,decide_eq_false_iff_not,Classical.not_not]at hok;exact hok.2
  have flat:∀w',bA w4 w'->0<=v.k->v.k<5->K (.bool (BJ v&&(decide (v.xs.length=0)&&decide (v.ks.length=0)))) w':=λw' e h0 h5=>by
   refine hK _ w' (Jf hm0 hl0 hbk h0 h5).symm (λhr=>?_) (hcw.then e λ_ _ e=>e.elim);simp only[Bool.and_eq_true,decide_eq_true_eq]at hr;have hx0:v.xs=[]:=List.eq_nil_of_length_eq_zero hr.2.1;have hc1:jT v=1:=by
    rw[v.eta,hx0];rfl
   rw[hc1];exact e.at hp4 id
  have no:(v.k<0\/6<v.k\/(v.k=5/\v.ks≠[])\/(v.k=6/\(v.ks.length≠v.xs.length\/fK v.ks=false)))->K (.bool false) w4:=λh=>hK false w4 (Hd (.inr (.inr (.inr h)))).symm (λe=>by cases e) hcw;obtain⟨m',rfl⟩:∃m',m=m'+1:=⟨m-1,by omega⟩;refine aP.cut (λs' w'=>s'=[]/\w'=w4/\(v.k=5/\v.ks=[]\/v.k=6/\v.ks.length=v.xs.length/\fK v.ks=true)) ?_ ?_
  ·refine aP.cut (λs' w'=>s'=[.bool (decide (v.k=0\/v.k=1\/v.k=2))]/\w'=w4) ?_ ?_
   ·rw[aB];refine⟨λh=>?_,λh=>?_⟩
    ·rw[decide_eq_true h,decide_eq_true (.inl h)];exact⟨rfl,rfl⟩
    ·rw[aB];refine⟨λh1=>?_,λh1=>?_⟩
     ·rw[decide_eq_true h1,decide_eq_true (.inr (.inl h1))];exact⟨rfl,rfl⟩
     ·rw[show decide (v.k=2)=decide (v.k=0\/v.k=1\/v.k=2)by rw[decide_eq_decide];omega];exact⟨rfl,rfl⟩
   rintro s' g w5 ⟨rfl,rfl⟩;simp only[cP,cS,bT,cR,cond_true,cond_false,exists_eq_left',cQ,Nat.reduceAdd,Nat.reduceLT,Nat.lt_add_one,Nat.zero_lt_succ,decide_true,decide_false,ne_eq,reduceCtorEq,bT,hb4,lx,lk,aB];refine⟨λh012=>?_,λh012=>?_⟩
   ·intro g5;have:=flat w5 (aS.refl _ _) (by omega) (by omega);unfold BJ flatK at this;rw[if_neg (by omega),if_neg (by omega)]at this;rw[Bo f1 f2];exact this
   refine⟨λh3=>?_,λh3=>?_⟩
   ·refine iT f3 λw6 hx6=>?_;have hb6:=hx6.at hb4 id;have:=flat w6 hx6 (by omega) (by omega);unfold BJ flatK at this;rw[if_pos h3]at this;simp only[cP,cS,bT,cR,cond_true,cond_false,exists_eq_left',cQ,Nat.reduceAdd,Nat.reduceLT,Nat.lt_add_one,Nat.zero_lt_succ,decide_true,decide_false,ne_eq,reduceCtorEq,bT,hb6,lx,lk];intro g6;rw[Bo f1 f2];exact this
   refine⟨λh4=>?_,λh4=>?_⟩
   ·intro g6;have:=flat w5 (aS.refl _ _) (by omega) (by omega);unfold BJ flatK at this;rw[if_neg h3,if_pos h4]at this;rw[Bo f1 f2];rw[show decide ((v.t.length:Int)<=16384)=decide (v.t.length<=16384)by rw[decide_eq_decide];omega];exact this
   refine⟨λh5=>?_,λh5=>?_⟩
   ·refine⟨λhk=>no (.inr (.inr (.inl ⟨h5,λe=>by rw[e]at hk;simp at hk⟩))),λhk=>.inl ⟨h5,List.eq_nil_of_length_eq_zero (by omega)⟩⟩
   refine⟨λh6=>?_,λh6=>no (by omega)⟩;refine⟨λhne=>no (.inr (.inr (.inr ⟨h6,.inl (by omega)⟩))),λheq=>?_⟩;refine jI v.ks.length (λi w'=>w'=w5/\(∀j a,j<i->v.ks[j]?=some a->a.length<=16384)/\(∀j a b,j+1<i->v.ks[j]?=some a->v.ks[j+1]?=some b->Op.bytesLess a b=true)) ⟨rfl,λj a h=>by omega,λj a b h=>by omega⟩ ?_ ?_
   ·rintro i w6 g6 L6 hi ⟨rfl,hl,hs⟩ hL;obtain⟨u,hu⟩:∃u,v.ks[i]?=some u:=⟨_,List.getElem?_eq_getElem hi⟩;have hlt:((i:Int)<(v.ks.length:Int)):=by omega
    simp only[cP,cS,bT,cR,cond_true,cond_false,exists_eq_left',cQ,Nat.reduceAdd,Nat.reduceLT,Nat.lt_add_one,Nat.zero_lt_succ,decide_true,decide_false,ne_eq,reduceCtorEq,hlt];refine jE hks4 hu ?_;have hnext:u.length<=16384->(∀x,0<i->v.ks[i-1]?=some x->Op.bytesLess x u=true)->L6 [i64 ((i+1:Nat):Int)] w6:=λh1 h2=>by
     refine hL _ ⟨rfl,λj a hj ha=>?_,λj a b hj ha hb=>?_⟩
     ·rcases Nat.lt_or_ge j i with h|h
      ·exact hl j a h ha
      ·obtain rfl:j=i:=by omega
       rw[hu]at ha;cases ha;exact h1
     ·rcases Nat.lt_or_ge (j+1) i with h|h
      ·exact hs j a b h ha hb
      ·obtain rfl:i=j+1:=by omega
       rw[hu]at hb;cases hb;exact h2 a (by omega) (by simpa using ha)
    by_cases hlong:16384<u.length
    ·have e:decide ((16384:Int)<(u.length:Int))=true:=decide_eq_true (by omega);simp only[cP,cS,bT,cR,cond_true,cond_false,exists_eq_left',cQ,Nat.reduceAdd,Nat.reduceLT,Nat.lt_add_one,Nat.zero_lt_succ,decide_true,decide_false,ne_eq,reduceCtorEq,e];intros;exact no (.inr (.inr (.inr ⟨h6,.inr (GU hu hlong)⟩)))
    ·have e:decide ((16384:Int)<(u.length:Int))=false:=decide_eq_false (by omega);by_cases h0:i=0
     ·subst h0;have e0:decide ((0:Int)<((0:Nat):Int))=false:=by decide
      simp only[cP,cS,bT,cR,cond_true,cond_false,exists_eq_left',cQ,Nat.reduceAdd,Nat.reduceLT,Nat.lt_add_one,Nat.zero_lt_succ,decide_true,decide_false,ne_eq,reduceCtorEq,e,e0];rw[wR (by omega)];intros;exact hnext (by omega) λx h=>by omega
     ·obtain⟨j,rfl⟩:∃j,i=j+1:=⟨i-1,by omega⟩;obtain⟨x,hxj⟩:∃x,v.ks[j]?=some x:=⟨_,List.getElem?_eq_getElem (by omega)⟩;have e0:decide ((0:Int)<((j+1:Nat):Int))=true:=decide_eq_true (by omega);have hw:IntKind.i64.wrap (((j+1:Nat):Int)-1)=((j:Nat):Int):=by rw[bD (by omega) (by omega)];omega
      simp only[cP,cS,bT,cR,cond_true,cond_false,exists_eq_left',cQ,Nat.reduceAdd,Nat.reduceLT,Nat.lt_add_one,Nat.zero_lt_succ,decide_true,decide_false,ne_eq,reduceCtorEq,e,e0,hw];intro g7;refine cX.look (!Op.bytesLess x u) (λ_ J hJ=>?_) λg8=>?_
      ·rw[hb4];refine⟨kv,rfl,?_⟩;refine jE hks4 hxj ?_;rw[KO];exact hJ
      intro g9;simp only[List.getD_cons_zero,cond_true];rw[aQ];refine⟨λhge=>no (.inr (.inr (.inr ⟨h6,.inr (IW hxj hu (by simpa using hge))⟩))),λhlt2=>?_⟩;rw[wR (by omega)];exact hnext (by omega) λy _ hy=>by
       have:v.ks[j]?=some y:=by simpa using hy
       rw[hxj]at this;cases this;simpa using hlt2
   ·rintro w6 g6 L6 ⟨rfl,hl,hs⟩;have hkeys:fK v.ks=true:=LK (λi a h=>hl i a (List.getElem?_eq_some_iff.1 h).1 h) (λi a b h1 h2=>hs i a b (List.getElem?_eq_some_iff.1 h2).1 h1 h2);simp only[cP,cS,bT,cR,cond_true,cond_false,exists_eq_left',cQ,Nat.reduceAdd,Nat.reduceLT,Nat.lt_add_one,Nat.zero_lt_succ,decide_true,decide_false,ne_eq,reduceCtorEq,Int.lt_irrefl];exact .inr ⟨h6,by omega,hkeys⟩
  ·rintro s' g w5 ⟨rfl,rfl,hk⟩;simp only[cP,cS,bT,cR,cond_true,cond_false,exists_eq_left',cQ,Nat.reduceAdd,Nat.reduceLT,Nat.lt_add_one,Nat.zero_lt_succ,decide_true,decide_false,ne_eq,reduceCtorEq,bT,hb4];refine cX.act (pQ v.xs m' (left-1)) (λw'=>aS (λk=>k=p) w5 w'/\(decide (v.t=[])=true->pQ v.xs m' (left-1)=true->w'.heap[p]?=some (.cells [i64 (left-1-kC v.xs)].toArray 3 (0,0)))) (λe=>⟨aS.refl _ _,λe'=>by rw[e]at e';cases e'⟩) ?_ ?_
   ·intro ht J hJ;refine FD ?_;unfold Vp;refine FC ?_;unfold UQ;rw[lx];refine jI v.xs.length (λi w'=>aS (λk=>k=p) w5 w'/\w'.heap[p]?=some (.cells [i64 (left-1-oU v.xs i)].toArray 3 (0,0))/\(∀j x,j<i->v.xs[j]?=some x->lK x m' (left-1-oU v.xs j)=true)/\SlAt w' Ti sv v.xs.length L/\cD w' v.xs L/\(oU v.xs i:Int)<=left-1) ⟨aS.refl _ _,by simpa[oU]using hp4,λj x h=>by omega,hit4,hreps4,by simp[oU];omega⟩ ?_ ?_
    ·rintro i w6 g6 L6 hi ⟨hc6,hp6,hall,hit6,hreps6,hcs6⟩ hL;obtain⟨x,hxi⟩:∃x,v.xs[i]?=some x:=⟨_,List.getElem?_eq_getElem hi⟩;have hlt:((i:Int)<(v.xs.length:Int)):=by omega
     simp only[cP,cS,bT,cR,cond_true,cond_false,exists_eq_left',cQ,Nat.reduceAdd,Nat.reduceLT,Nat.lt_add_one,Nat.zero_lt_succ,decide_true,decide_false,ne_eq,reduceCtorEq,hlt];refine EJ hit6 hreps6 hxi λcs6 hr6=>?_;refine Mm (caps:=[.pointer (some ⟨d,0,none⟩),.pointer (some ⟨q,0,none⟩)]) ?_;refine Vd ?_;unfold aCG;refine gB hr6 λb7 w7 sv7 kv7 hB7 hx7 hb7=>?_;refine hB7.ld λcs7 hr7=>?_;have hd6:=hc6.at hd4 (by omega);have hq6:=hc6.at hq4 (by omega);have hd7:=hx7.at hd6 id;have hq7:=hx7.at hq6 id;have hp7:=hx7.at hp6 id;have hw:IntKind.i64.wrap (((m'+1:Nat):Int)-1)=((m':Nat):Int):=by rw[bD (by omega) (by omega)];omega
     simp only[cP,cS,bT,cR,cond_true,cond_false,exists_eq_left',cQ,Nat.reduceAdd,Nat.reduceLT,Nat.lt_add_one,Nat.zero_lt_succ,decide_true,decide_false,ne_eq,reduceCtorEq,bT,hd7,hq7,hw];refine ih x (List.mem_of_getElem? hxi) hr7 hp7 (by omega) (by omega) (by omega) λr w8 hr8 hp8 hc8=>?_;simp only[cP,cS,bT,cR,cond_true,cond_false,exists_eq_left',cQ,Nat.reduceAdd,Nat.reduceLT,Nat.lt_add_one,Nat.zero_lt_succ,decide_true,decide_false,ne_eq,reduceCtorEq,aQ];have hc68:aS (λk=>k=p) w6 w8:=(aS.of_ext hx7).trans hc8;have hc58:=hc6.trans hc68;refine⟨λhbad=>?_,λhgood=>?_⟩
     ·have hrf:r=false:=by simpa using hbad
      rw[decide_eq_true (show(0:Int)<=(i:Int)by omega)];have:=IZ hxi (show lK x m' (left-1-oU v.xs i)=false by rw[<-hr8];exact hrf);rw[this]at hJ;exact hJ w8 ⟨hc58,λ_ e=>by cases e⟩
     ·have hrt:r=true:=by simpa using hgood
      have hg:=hr8;rw[hrt]at hg;have hcx:(jT x:Int)<=left-1-oU v.xs i:=by
       unfold lK at hg;have:=hg.symm;simp only[Bool.and_eq_true,decide_eq_true_eq]at this;exact this.2
      rw[wR (by omega)];refine hL w8 ⟨hc58,?_,?_,?_,?_,?_⟩
      ·rw[oU,zE hxi];have e:left-1-((oU v.xs i:Nat):Int)-((jT x:Nat):Int)=left-1-((oU v.xs i+jT x:Nat):Int):=by omega
       rw[hp8 hrt,e]
      ·intro j y hj hy;rcases Nat.lt_or_ge j i with h|h
       ·exact hall j y h hy
       ·obtain rfl:j=i:=by omega
        rw[hxi]at hy;cases hy;exact hg.symm
      ·exact(hit6.ext hx7).keep1 hp7 hc8 λhn=>.inr (by
        have:=hreps.len;have hl:0<L.length:=List.length_pos_iff.2 hn;omega)
      ·exact oX hp7 hc8 (hreps6.ext hx7)
      ·rw[oU,zE hxi];omega
    ·rintro w6 g6 L6 ⟨hc6,hp6,hall,hit6,hreps6,hcs6⟩;simp only[cP,cS,bT,cR,cond_true,cond_false,exists_eq_left',cQ,Nat.reduceAdd,Nat.reduceLT,Nat.lt_add_one,Nat.zero_lt_succ,decide_true,decide_false,ne_eq,reduceCtorEq,Int.lt_irrefl];rw[<-Pl]at hp6 hcs6;have:=GX (λi x h=>hall i x (List.getElem?_eq_some_iff.1 h).1 h) hcs6;have hj:=hJ w6 ⟨hc6,λ_ _=>hp6⟩;rw[this]at hj;exact hj
   ·rintro g6 w6 ⟨hc6,hp6⟩;simp only[cP,cS,bT,cR,cond_true,cond_false,exists_eq_left',cQ,Nat.reduceAdd,Nat.reduceLT,Nat.lt_add_one,Nat.zero_lt_succ,decide_true,decide_false,ne_eq,reduceCtorEq];refine hK _ w6 (Jg hbk hk).symm (λhr=>?_) (hcw.trans hc6);simp only[Bool.and_eq_true,decide_eq_true_eq]at hr;rw[hp6 (decide_eq_true hr.1) hr.2];have:jT v=1+kC v.xs:=by cases v;simp only[jT,JV.xs]
    have e:left-1-((kC v.xs:Nat):Int)=left-((1+kC v.xs:Nat):Int):=by omega
    rw[this,e]
end
end
section
open Go Go.Eng Go.RowKit
variable{w:World}{K:Q0}{cs:List Value}{G:Nat->Prop}{T:TypeId}{i:Nat}{n:Nat}{v:Value}{w':World}{P:Program}{c:UInt8}{S:Nat->Prop}
theorem Iv(xs:List JV){n:Int}(h:2000<n):gP xs n=n:=by
 cases xs with
 |nil=>rfl
 |cons x xs=>simp only[gP];rw[if_neg (by omega)]
theorem MX:∀(m:Nat),m<=24->∀(v:JV),mK v m=true->(mD v<=2000->mD v=jT v)/\((jT v:Int)<=2000->mD v=jT v):=by
 intro m;induction m with
 |zero=>intro _ v h;rw[oN]at h;cases h
 |succ m ih=>
  intro hm v h;rw[kI,kN,List.all_eq_true]at h;have lst:∀(xs:List JV),(∀x∈xs,mK x m=true)->∀n:Int,1<=n->(gP xs n<=2000->gP xs n=n+kC xs)/\(n+(kC xs:Int)<=2000->gP xs n=n+kC xs):=by
   intro xs;induction xs with
   |nil=>intro _ n _;simp[gP,kC]
   |cons x xs ihx=>
    intro hx n hn;have hxd:=hx x List.mem_cons_self;obtain⟨b1,b2⟩:=vW m (by omega) x hxd;obtain⟨c1,c2⟩:=ih (by omega) x hxd;have hc:=KH x;simp only[gP,kC];by_cases h2:n<=2000
    ·rw[if_pos h2,bD (by omega) (by omega)];obtain⟨d1,d2⟩:=ihx (λy hy=>hx y (List.mem_cons_of_mem _ hy)) (n+mD x) (by omega);constructor
     ·intro hs;have hy:n+mD x<=2000:=by
       apply Classical.byContradiction;intro hno;rw[Iv xs (by omega)]at hs;omega
      have e:=c1 (by omega);rw[d1 hs,e];omega
     ·intro hs;have e:=c2 (by omega);rw[d2 (by omega),e];omega
    ·rw[if_neg h2];constructor
     ·intro hs;omega
     ·intro hs;omega
  obtain⟨d1,d2⟩:=lst v.xs h 1 (by omega);have hc:jT v=1+kC v.xs:=by cases v;simp only[jT,JV.xs]
  rw[qS,hc];constructor
  ·intro hs;rw[d1 hs];omega
  ·intro hs;rw[d2 (by omega)];omega
theorem Tm(v:JV):lK v 24 2000=cU v:=by
 unfold lK cU;cases hd:mK v 24 with
 |false=>simp
 |true=>
  obtain⟨c1,c2⟩:=MX 24 (Nat.le_refl _) v hd;have:decide ((jT v:Int)<=2000)=decide (mD v<=2000):=by
   rw[decide_eq_decide];constructor
   ·intro h;rw[c2 h];exact h
   ·intro h;rw[<-c1 h];exact h
  rw[this];cases decide (mD v<=2000)<;>cases oC v<;>rfl
theorem qI.isb{B b:Nat}{l:aH}(h:qI w B b l):Lib.IsBuilderF Mv U8 B b (Lib.byteCells l) w:=by
 obtain⟨p,v,h1,h2,h3,h4⟩:=h;have hO:w.ownsRow B U8 1 v (pY l).length (pY l):=by rw[iQ];exact h3
 have:Lib.BuilderAt Mv U8 B b p (pY l) w:=⟨h4,v,h1,hO,λe=>HN h1 (h3.block b e)⟩;rcases h2 with rfl|rfl
 ·exact .inl (Lib.BuilderAtF.of this)
 ·exact .inr (Lib.BuilderAtF.of this)
section
variable [HX]
theorem Ed{v:JV}{K:Q0}(h:cM w v cs)(hK:∀w',bA w w'->K (.bool (cU v)) w'):aA P0 61 [.agg cs.toArray] w K:=by
 refine aAc ?_;unfold W61;refine gB h λa w1 sv kv hB hx1 ha=>?_;refine aI λp w2 hp hz2 hb2 hx2=>?_;refine eY (off:=0) hb2 rfl (by simp) λw3 hz3 hb3 hc3=>?_;have hx3:bA w1 w3:=hx2.new hc3 (by omega);have hp3:w3.heap[p]?=some (.cells [i64 2000].toArray 3 (0,0)):=by rw[hb3];rfl
 refine(hB.ext hx3).ld λcs2 h2=>?_;refine Zc v h2 hp3 (m:=24) (by omega) (by omega) (by omega) λr w4 hr _ hc4=>?_;rw[hr,Tm];have s1:=hx1.size;exact hK w4 ((hx1.trans hx3).then hc4 λk hk e=>by omega)
end
end
section
open Go Go.Eng Go.Num Go.RowKit
variable{w:World}{K:Q0}{cs:List Value}{G:Nat->Prop}{T:TypeId}{i:Nat}{n:Nat}{v:Value}{w':World}{P:Program}{c:UInt8}{S:Nat->Prop}
section
variable [HX]
theorem Wk{v:JV}{k:aH}{K:Q0}(h:cM w v cs)(k6:v.k=6)(hl:v.ks.length=v.xs.length)(hfew:sC v=true)(hr:HW v.ks)
  (hK:∀cs' w',bA w w'->bE (vJ w.heap.size) w' ((tO v k).getD JV.null) cs'->K (.tuple #[.agg cs'.toArray,.bool (tO v k).isSome]) w'):aA P0 120 [.agg cs.toArray,str k] w K:=by
 have hfew2:=hfew;rw[uY,tP]at hfew2;simp only[Bool.and_eq_true,decide_eq_true_eq,List.all_eq_true]at hfew2;obtain⟨⟨f1,f2⟩,f3⟩:=hfew2;refine Vt ?_;unfold aCV;refine gB h λa w1 sv kv hB hx _=>?_;refine aI λb w2 hb hz2 hbb hx2=>?_;have hB0:=hB;have hB:=hB.ext hx2;have hgb:w1.heap.size<=b:=by omega
 have s1:=hx.size;simp only[cP,cS,bT,cR,cond_true,cond_false,exists_eq_left',cQ,Nat.reduceAdd,Nat.reduceLT,Nat.lt_add_one,Nat.zero_lt_succ,decide_true,decide_false,ne_eq,reduceCtorEq,bT,hB.hb];obtain⟨T2,hk2⟩:=hB.keys;refine FZ hk2 f2 hr λi hi0 _ _ hile=>?_;have e6:decide (v.k=6)=true:=decide_eq_true k6;cases hx0:rH v.ks k with
 |none=>
  have hg:tO v k=none:=by unfold tO;rw[if_pos k6,hx0]
  rw[hg]at hK;simp only[Option.isSome_none];simp only[cP,cS,bT,cR,cond_true,cond_false,exists_eq_left',cQ,Nat.reduceAdd,Nat.reduceLT,Nat.lt_add_one,Nat.zero_lt_succ,decide_true,decide_false,ne_eq,reduceCtorEq,bT,hB.hb,e6];intros
  (try simp only[cP,cS,bT,cR,cond_true,cond_false,exists_eq_left',cQ,Nat.reduceAdd,Nat.reduceLT,Nat.lt_add_one,Nat.zero_lt_succ,decide_true,decide_false,ne_eq,reduceCtorEq,bT,hB.hb,e6])
  exact Gm (w0:=w) (K:=λr w=>K (.tuple #[r,.bool false]) w) hbb rfl (by omega) (hx.trans hx2) (fB (k:=0) (b:=false) (t:=[]) (by simp)) λw4 hx4 h4=>hK _ w4 hx4 h4
 |some j=>
  obtain rfl:j=i:=by
   rcases hi0 with h|h
   ·rw[h]at hx0;cases hx0
   ·rw[h]at hx0;exact(Option.some.inj hx0).symm
  obtain⟨x,hxi⟩:∃x,v.xs[j]?=some x:=⟨_,List.getElem?_eq_getElem (by
   have:=(List.getElem?_eq_some_iff.1 (rG hx0)).1;omega)⟩
  have hg:tO v k=some x:=by unfold tO;rw[if_pos k6,hx0];exact hxi
  rw[hg]at hK;simp only[Option.isSome_some];simp only[cP,cS,bT,cR,cond_true,cond_false,exists_eq_left',cQ,Nat.reduceAdd,Nat.reduceLT,Nat.lt_add_one,Nat.zero_lt_succ,decide_true,decide_false,ne_eq,reduceCtorEq,bT,hB.hb,e6];intros
  (try simp only[cP,cS,bT,cR,cond_true,cond_false,exists_eq_left',cQ,Nat.reduceAdd,Nat.reduceLT,Nat.lt_add_one,Nat.zero_lt_succ,decide_true,decide_false,ne_eq,reduceCtorEq,bT,hB.hb,e6])
  refine hB0.item_old hx2 hxi λcs2 h2=>?_;refine Ft x (f3 x (List.mem_of_getElem? hxi)) (h2.ext hx2) λcs3 w3 hx3 h3=>?_;exact Gm (w0:=w) (K:=λr w=>K (.tuple #[r,.bool true]) w) (hx3.at hbb id) rfl (by omega) (hx.trans (hx2.trans hx3)) (h3.at (by have:=dA hbb;omega) (by omega)) λw4 hx4 h4=>hK _ w4 hx4 h4
end
section
variable [HX]
theorem cV.at_old{w0:World}{sv:Value}{xs:List JV}{k:IntKind}{x:JV}{K:Value->Prop}(h:cV w0 sv xs)(hx:bA w0 w)(hi:xs[i]?=some x)(hK:∀cs,cM w0 x cs->K (.agg cs.toArray)):bU none 5 sv (.int k i) λp=>aE true 5 p w K:=by
 obtain⟨T,L,h1,h2⟩:=h.it;obtain⟨cs,hc,hg⟩:=h2.get hi;refine mR (size:=5) (h1.ext hx) h2.len (by omega) (List.getElem?_eq_some_iff.1 hi).1 λb o c fr hb hcc=>?_;exact rE hb hc.len (λj hj=>(hcc j hj).trans (hg j hj)) (hK cs hc)
def Ey(a:List JV):List (aH×JV):=(a.map λx=>x.ks.zip x.xs).flatten
theorem Tu{l:List (aH×JV)}(hl:l.length<=100000)(hf:∀p∈l,sC p.2=true):sC (mA l)=true:=by
 rw[uY,tP];simp only[mA,JV.xs,JV.ks,List.length_map,Bool.and_eq_true,decide_eq_true_eq,List.all_eq_true,List.mem_map];exact⟨⟨by omega,by omega⟩,λx ⟨p,hp,e⟩=>by rw[<-e];exact hf p hp⟩
end
section
variable [HX]
theorem aBc(l:aH):∀n,Lib.repeatL l n=(List.replicate n l).flatten
 |0=>rfl
 |n+1=>by rw[Lib.repeatL,aBc l n,List.replicate_succ,List.flatten_cons]
theorem Gp{s:aH}{K:Q0}(hs:s.length<=1000)(hn:n<=1000000)(hK:∀w',bA w w'->K (str (List.replicate n s).flatten) w'):aA P0 183 [str s,i64 (n:Nat)] w K:=by
 refine eA (args:=#[str s,i64 (n:Nat)]) Tryz.call183 ((Tryz.strings_Repeat (aL s) n w (by omega) (by rw[dC];exact Nat.le_trans (Nat.mul_le_mul hs hn) (by decide))).mono ?_);rintro e w' ⟨rfl,hb⟩;rw[cK,aBc];exact⟨_,rfl,hK _ (aS.of_below hb)⟩
theorem Pj{s t:aH}{K:Q0}(hs:s.length<=1000000)(hK:K (.tuple #[str (Lib.trimSuffix s t),.bool (Lib.hasSuffix s t)]) w):aA P0 182 [str s,str t] w K:=by
 refine eA (args:=#[str s,str t]) Tryz.call182 ((Tryz.strings_CutSuffix (aL s) (aL t) w (by rw[dC];omega)).mono ?_);rintro e w' ⟨rfl,rfl⟩;rw[cK,cK];exact⟨_,rfl,hK⟩
theorem Ts{K:Q0}(hK:K (i64 (jN c)) w):aA P0 184 [.int .u8 (c.toNat:Nat)] w K:=by
 refine UN ?_;unfold aCv;have hd:∀n:Nat,n<256->decide (((c.toNat:Nat):Int)=(n:Int))=decide (c=UInt8.ofNat n):=λn hn=>by
  by_cases e:c=UInt8.ofNat n
  ·have:c.toNat=n:=by rw[e,UInt8.toNat_ofNat'];omega
   rw[decide_eq_true e,decide_eq_true (by omega)]
  ·rw[decide_eq_false e,decide_eq_false];intro h;apply e;apply UInt8.toNat_inj.1;rw[UInt8.toNat_ofNat'];omega
 have d1:decide (((c.toNat:Nat):Int)=110)=decide (c=110):=hd 110 (by omega);have d2:decide (((c.toNat:Nat):Int)=115)=decide (c=115):=hd 115 (by omega);have d3:decide (((c.toNat:Nat):Int)=108)=decide (c=108):=hd 108 (by omega);have d4:decide (((c.toNat:Nat):Int)=111)=decide (c=111):=hd 111 (by omega);unfold jN at hK;rw[aM];rw[d1,aB];refine⟨λe=>?_,λe=>?_⟩
 ·rw[if_pos e]at hK;exact hK
 rw[if_neg e]at hK;rw[aM,d2,aB];refine⟨λe=>?_,λe=>?_⟩
 ·rw[if_pos e]at hK;exact hK
 rw[if_neg e]at hK;rw[aM,d3,aB];refine⟨λe=>?_,λe=>?_⟩
 ·rw[if_pos e]at hK;exact hK
 rw[if_neg e]at hK;rw[aM,d4,aB];refine⟨λe=>?_,λe=>?_⟩
 ·rw[if_pos e]at hK;exact hK
 rw[if_neg e]at hK;exact hK
abbrev FT:TypeId:=162
theorem rP{α:Type}{p:α->Bool}{l:List α}{x:α}(hi:l[i]?=some x):(l.take (i+1)).all p=((l.take i).all p&&p x):=by
 rw[List.take_add_one,hi,List.all_append];simp
theorem Zi{f:sW}{fv:Value}{a:List JV}{sv:Value}{K:Q0}(h:cV w sv a)(hf1:cY fv=true)(hm:Lib.hasSuffix f.takes [46]=CZ f.takes)(ht:Lib.trimSuffix f.takes [46]=if CZ f.takes then f.takes.dropLast else f.takes)(hfl:f.takes.length<=100)(hle:f.least<=100)
  (hl:a.length<=1000)(hK:∀w',bA w w'->K (.bool (xL f a)) w'):aA P0 128 [.agg [str f.takes,i64 (f.least:Nat),fv].toArray,sv] w K:=by
 refine Vl ?_;unfold aCO;refine dF (z:=[str f.takes,i64 (f.least:Nat),fv]) λp w1 hp hz1 hbp hx1=>?_;rw[aO,aV,bY];refine⟨str f.takes,by rw[aX,hbp];rfl,?_⟩;refine Pj (by omega) ?_;simp only[aK];refine⟨_,rfl,_,rfl,?_⟩;have hdl:f.takes.dropLast.length<=100:=by rw[List.length_dropLast];omega
 refine aP.cut (λst w'=>st=[str (sB f.takes a.length)]/\bA w1 w') ?_ ?_
 ·rw[hm,ht,aQ];refine⟨λhmany=>?_,λhmany=>?_⟩
  ·rw[hmany,if_pos rfl,h.len];refine Gp (by omega) (by omega) λw4 hx4=>?_;refine⟨?_,hx4⟩;unfold sB;rw[if_pos hmany]
  ·refine⟨?_,aS.refl _ _⟩;unfold sB;rw[hmany];simp
 rintro st g w5 ⟨rfl,hx5⟩;generalize hk:sB f.takes a.length=ks at*
 have hx05:=hx1.trans hx5;simp only[List.getD_cons_zero];rw[h.len,dI,dG];simp only[iB];have hkl:ks.length<=1000000:=by
  rw[<-hk];unfold sB;split
  ·rw[List.length_flatten];simp only[List.map_replicate,List.sum_replicate_nat];exact Nat.le_trans (Nat.mul_le_mul hl hdl) (by decide)
  ·omega
 have e1:decide ((a.length:Int)≠(ks.length:Int))=!decide (a.length=ks.length):=by
  by_cases e:a.length=ks.length
  ·rw[e];simp
  ·rw[decide_eq_true (by omega),decide_eq_false e];rfl
 rw[e1];refine cX.look (decide ((a.length:Int)<(f.least:Int))) (λ_ J hJ=>?_) λg=>?_
 ·rw[h.len,aO,aV,bY];refine⟨i64 (f.least:Nat),by rw[aX,hx5.at hbp id];rfl,?_⟩;rw[cA];exact hJ
 simp only[List.getD_cons_zero,dD];have hfit:xL f a=(decide (a.length=ks.length)&&decide (f.least<=a.length)&&(a.zip ks).all λp=>decide (jN p.2<0)||decide (p.1.k=jN p.2)):=by unfold xL;rw[hk]
 rw[hfit]at hK;rw[aQ];refine⟨λhbad=>?_,λhok=>?_⟩
 ·have:(decide (a.length=ks.length)&&decide (f.least<=a.length))=false:=by
   cases h1:decide (a.length=ks.length)with
   |false=>rfl
   |true=>
    rw[h1]at hbad;simp only[Bool.not_true,Bool.false_or,decide_eq_true_eq]at hbad;rw[Bool.true_and,decide_eq_false (by omega)]
  rw[this]at hK;exact hK w5 hx05
 ·simp only[Bool.or_eq_false_iff,Bool.not_eq_false',decide_eq_true_eq,decide_eq_false_iff_not]at hok;obtain⟨hlen,hle2⟩:=hok;have:(decide (a.length=ks.length)&&decide (f.least<=a.length))=true:=by rw[decide_eq_true hlen,decide_eq_true (by omega)];rfl
  rw[this,Bool.true_and]at hK;rw[h.len];refine jI a.length (λi w'=>bA w w'/\((a.zip ks).take i).all (λp=>decide (jN p.2<0)||decide (p.1.k=jN p.2))=true) ⟨hx05,by simp⟩ ?_ ?_
  ·rintro i w9 g L hi ⟨hx9,hall⟩ hL;obtain⟨x,hxi⟩:∃x,a[i]?=some x:=⟨_,List.getElem?_eq_getElem hi⟩;obtain⟨c,hci⟩:∃c,ks[i]?=some c:=⟨_,List.getElem?_eq_getElem (by omega)⟩;have hzi:(a.zip ks)[i]?=some (x,c):=by rw[List.getElem?_zip_eq_some];exact⟨hxi,hci⟩
   have hltI:(i:Int)<(a.length:Int):=by omega
   simp only[List.getD_cons_zero];rw[cA,decide_eq_true hltI,bZ];refine h.at_old hx9 hxi λds hds=>?_;refine tX (hds.ext hx9) λq w11 sq kq hQ hx11=>?_;rw[EI];refine⟨by omega,c,by rw[Int.toNat_natCast];exact hci,?_⟩;refine Ts ?_;rw[gR];simp only[eH];refine cX.look (!decide (x.k=jN c)) (λ_ J hJ=>?_) λg=>?_
   ·simp only[cP,cS,bT,cR,cond_true,cond_false,exists_eq_left',cQ,Nat.reduceAdd,Nat.reduceLT,Nat.lt_add_one,Nat.zero_lt_succ,decide_true,decide_false,ne_eq,reduceCtorEq,bT,hQ.hb];have:decide (x.k≠jN c)=!decide (x.k=jN c):=by simp
    rw[this]at*
    exact hJ
   simp only[List.getD_cons_zero,cW];rw[aQ];refine⟨λhbad=>?_,λhgood=>?_⟩
   ·simp only[Bool.and_eq_true,decide_eq_true_eq,Bool.not_eq_true',decide_eq_false_iff_not]at hbad;have:(a.zip ks).all (λp=>decide (jN p.2<0)||decide (p.1.k=jN p.2))=false:=by
     rw[List.all_eq_false];refine⟨(x,c),List.mem_of_getElem? hzi,?_⟩;simp only[Bool.or_eq_true,decide_eq_true_eq,not_or];exact⟨by omega,hbad.2⟩
    rw[this]at hK;exact hK w11 (hx9.trans hx11)
   ·rw[aW,wR (by omega)];refine hL w11 ⟨hx9.trans hx11,?_⟩;rw[rP hzi,hall,Bool.true_and];simp only[Bool.or_eq_true,decide_eq_true_eq];by_cases hneg:jN c<0
    ·exact .inl hneg
    ·right;rw[decide_eq_true (show(0:Int)<=jN c by omega),Bool.true_and]at hgood;simpa using hgood
  ·rintro w9 g L ⟨hx9,hall⟩;simp only[List.getD_cons_zero];rw[cA,decide_eq_false (Int.lt_irrefl _),bJ];have hzl:(a.zip ks).length=a.length:=by rw[List.length_zip];omega
   rw[<-hzl,List.take_length]at hall;rw[hall]at hK;exact hK w9 hx9
end
def Ku:List (aH×sW×FuncId):=[([97,98,115],OV,159),([99,111,110,99,97,116],Ds,160),([99,111,110,116,97,105,110,115],zX,161),([106,111,105,110],Kt,162),([107,101,121,115],Ks,163),([108,101,110,103,116,104],Dr,165),([108,111,111,107,117,112],Dq,166),([108,111,119,101,114],Hk,167),([109,97,120],OU,169),([109,101,114,103,101],Hj,171),([109,105,110],OT,172),([114,97,110,103,101],Hi,173),([114,101,118,101,114,115,101],BI,174),([115,112,108,105,116],Hh,175),([115,117,98,115,116,114],Dp,176),([116,111,105,110,116],Hg,177),([116,111,115,116,114,105,110,103],zW,178),([117,112,112,101,114],xK,179),([118,97,108,117,101,115],Do,180)]
abbrev fnV(f:sW)(g:FuncId):Value:=.agg [str f.takes,i64 (f.least:Nat),.func (.func g) #[] #[]].toArray
def fnP:List (aH×Value):=Ku.map λe=>(e.1,fnV e.2.1 e.2.2)
theorem Zf:fnT=Ku.map λe=>(e.1,e.2.1):=rfl
def pR:List (aH×sW×FuncId)->aH->Option (sW×FuncId)
 |[],_=>none
 |(a,v)::m,k=>if k=a then some v else pR m k
theorem Kx(k:aH):∀l:List (aH×sW×FuncId),oH (l.map λe=>(e.1,fnV e.2.1 e.2.2)) k=(pR l k).map λv=>fnV v.1 v.2
 |[]=>rfl
 |(a,v)::m=>by
  simp only[List.map_cons,oH,pR]
  split
  ·rfl
  ·exact Kx k m
theorem Kw(k:aH):∀l:List (aH×sW×FuncId),Da (l.map λe=>(e.1,e.2.1)) k=(pR l k).map λv=>v.1
 |[]=>rfl
 |(a,v)::m=>by
  simp only[List.map_cons,Da,pR]
  split
  ·rfl
  ·exact Kw k m
theorem Dv{k:aH}{v:sW×FuncId}:∀{l:List (aH×sW×FuncId)},pR l k=some v->(k,v)∈l
 |[],h=>by cases h
 |(a,u)::m,h=>by
  simp only[pR]at h
  split at h
  ·rename_i e;subst e;cases h;exact List.mem_cons_self
  ·exact List.mem_cons_of_mem _ (Dv h)
section
variable [HX]
theorem aBQ{K:Q0}(hK:∀b w',bA w w'->Ia w' b fnP->K (.map (some b)) w'):aA P0 126 [] w K:=by
 refine Vn ?_;unfold aCQ;refine GN (KT:=ST) (ET:=FT) (by kernel_rfl) (.inl rfl) λb w1 hb hz1 hm hx=>?_;have key:∀{m:List (aH×Value)} {w2:World} {k t:aH} {n:Int} {fv:Value} {K':World->Prop},Ia w2 b m->bA w w2->oH m k=none->
   (∀w3,Ia w3 b (m++[(k,.agg [str t,i64 n,fv].toArray)])->bA w w3->K' w3)->jV P0 (Instr.mapUpdate 164 (.map (some b)) (str k) (.agg [str t,i64 n,fv].toArray)) w2 K':=λ{m w2 k t n fv K'} hm hx hn hK'=>
  SK (KT:=ST) (ET:=FT) (by kernel_rfl) (by kernel_rfl) hm hn λw3 hz3 hm3 hc3=>hK' w3 hm3 (hx.new hc3 (by omega))
 have pf:∀(c:List Value) (i:Nat) (g:FuncId) (r:List (Nat×Nat×Value)) (K:List Value->Prop),bQ c ((i,1,.func (.func g) #[] #[])::r) K↔i<c.length/\bQ (c.set i (.func (.func g) #[] #[])) r K:=λc i g r K=>pG c i _ r K rfl;simp only[cG,bN,pf,bI,List.length_cons,List.length_nil,List.set_cons_zero,List.set_cons_succ];refine⟨by omega,by omega,by omega,?_⟩;refine key hm hx (by rfl) λw2 hm hx=>?_;refine⟨by omega,by omega,by omega,?_⟩;refine key hm hx (by rfl) λw3 hm hx=>?_;refine⟨by omega,by omega,by omega,?_⟩;refine key hm hx (by rfl) λw4 hm hx=>?_;refine⟨by omega,by omega,by omega,?_⟩;refine key hm hx (by rfl) λw5 hm hx=>?_;refine⟨by omega,by omega,by omega,?_⟩;refine key hm hx (by rfl) λw6 hm hx=>?_;refine⟨by omega,by omega,by omega,?_⟩;refine key hm hx (by rfl) λw7 hm hx=>?_;refine⟨by omega,by omega,by omega,?_⟩;refine key hm hx (by rfl) λw8 hm hx=>?_;refine⟨by omega,by omega,by omega,?_⟩;refine key hm hx (by rfl) λw9 hm hx=>?_;refine⟨by omega,by omega,by omega,?_⟩;refine key hm hx (by rfl) λw10 hm hx=>?_;refine⟨by omega,by omega,by omega,?_⟩;refine key hm hx (by rfl) λw11 hm hx=>?_;refine⟨by omega,by omega,by omega,?_⟩;refine key hm hx (by rfl) λw12 hm hx=>?_;refine⟨by omega,by omega,by omega,?_⟩;refine key hm hx (by rfl) λw13 hm hx=>?_;refine⟨by omega,by omega,by omega,?_⟩;refine key hm hx (by rfl) λw14 hm hx=>?_;refine⟨by omega,by omega,by omega,?_⟩;refine key hm hx (by rfl) λw15 hm hx=>?_;refine⟨by omega,by omega,by omega,?_⟩;refine key hm hx (by rfl) λw16 hm hx=>?_;refine⟨by omega,by omega,by omega,?_⟩;refine key hm hx (by rfl) λw17 hm hx=>?_;refine⟨by omega,by omega,by omega,?_⟩;refine key hm hx (by rfl) λw18 hm hx=>?_;refine⟨by omega,by omega,by omega,?_⟩;refine key hm hx (by rfl) λw19 hm hx=>?_;refine⟨by omega,by omega,by omega,?_⟩;refine key hm hx (by rfl) λw20 hm hx=>?_;exact hK b _ hx hm
end
theorem aDC{f:sW}{a:List JV}(ht:f.takes=[c])(hc:c≠46)(h:xL f a=true):∃x,a=[x]/\(jN c<0\/x.k=jN c):=by
 have hk:sB f.takes a.length=[c]:=by unfold sB CZ;rw[ht];simp[hc]
 unfold xL at h;rw[hk]at h;simp only[Bool.and_eq_true,decide_eq_true_eq,List.length_cons,List.length_nil]at h;obtain⟨⟨h1,_⟩,h3⟩:=h
 match a,h1 with
 |[x],_=>exact⟨x,rfl,by simpa using h3⟩
structure Wz(a:List JV):Prop where
 good:∀x∈a,cU x=true
 len:a.length<=60
 pairs:(Ey a).length<=90000
theorem Je{x:JV}(h:cU x=true):x.xs.length<=2000:=by
 simp only[cU,Bool.and_eq_true,decide_eq_true_eq]at h;have hd:=h.1.2;have hs:=h.1.1;rw[show(24:Nat)=23+1 from rfl,kI,kN]at hd;rw[qS]at hs;have:=(rT (m:=23) (by omega) x.xs 1 hd (by omega) hs).1;omega
theorem aBA{x:JV}(h:oC x=true)(k3:x.k=3):goodN x.t=true/\x.xs=[]/\x.ks=[]:=by
 rw[jH,Bool.and_eq_true]at h;obtain⟨_,_,_,_,h5,h6,h7,_⟩:=iZ h.1;refine⟨h7 k3,?_,?_⟩
 ·refine Classical.byContradiction λe=>?_;have:x.xs.length≠0:=λh0=>e (List.eq_nil_of_length_eq_zero h0);have:=h5 this;omega
 ·refine Classical.byContradiction λe=>?_;have:=h6 e;omega
theorem kv:jN 110=3/\jN 115=4/\jN 108=5/\jN 111=6/\jN 118=-1:=by decide
section
variable [HX]
def VR(g:FuncId)(f:sW):Prop:=∀{a:List JV} {sv:Value} {w:World} {K:Q0},sL w->cV w sv a->Wz a->xL f a=true->DoK (f.act a) w K->aA P0 g [sv] w K
theorem aDq{x:JV}(h:cU x=true):x.t.length<=16384:=ON (oJ h).plain
theorem Pf:VR 179 xK:=by
 intro a sv w K hT h hF hfit hK;obtain⟨kn,ks,kl,ko,kvv⟩:=kv;obtain⟨x,rfl,h1⟩:=aDC (f:=xK) rfl (by decide) hfit;have:=aDq (hF.good x (by simp));exact Qc h (by omega) hK
theorem MM:∀e∈Ku,Lib.hasSuffix e.2.1.takes [46]=CZ e.2.1.takes/\Lib.trimSuffix e.2.1.takes [46]=(if CZ e.2.1.takes then e.2.1.takes.dropLast else e.2.1.takes)/\e.2.1.takes.length<=100/\e.2.1.least<=100:=by decide
theorem TK{name:aH}(hall:∀f g,pR Ku name=some (f,g)->VR g f){a:List JV}{sv:Value}{K:Q0}(hT:sL w)(h:cV w sv a)(hl:a.length<=60)(hpr:(∀x∈a,cU x=true)->(Ey a).length<=90000)
  (hK:∀cs w',bA w w'->bE (vJ w.heap.size) w' (sP name a).1 cs->K (.tuple #[.agg cs.toArray,i64 (sP name a).2]) w'):aA P0 94 [str name,sv] w K:=by
 refine ZB ?_;unfold W94;refine aI λb w1 hb hz1 hbb hx1=>?_;have s1:=hx1.size;have ends:∀{v:JV} {cs:List Value} {c:Int} {w':World},sP name a=(v,c)->bA w1 w'->bE (λq=>w.heap.size<=q/\q≠b) w' v cs->
   bF 5 (.pointer (some ⟨b,0,none⟩)) (.agg cs.toArray) w' λw4=>aE true 5 (.pointer (some ⟨b,0,none⟩)) w4 λr5=>K (.tuple #[r5,i64 c]) w4:=λ{v cs c w'} hc hx hv=>by
  rw[hc]at hK;exact Gm (w0:=w) (K:=λr w=>K (.tuple #[r,i64 c]) w) (hx.at hbb id) rfl (by omega) (hx1.trans hx) hv λw'' hx'' h''=>hK _ w'' hx'' h''
 refine wI (p:=λx=> !cU x) (h.ext hx1) (λz hz {cs w3 K3} hx3 hcs hK3=>?_) λw2 hx2=>?_
 ·refine uA ?_;refine Vo ?_;unfold aCR;refine gB hcs λq w4 sv4 kv4 hB4 hx4 _=>?_;refine hB4.ld λcs4 hcs4=>?_;refine Ed hcs4 λw5 hx5=>?_;rw[cJ];exact hK3 w5 (hx4.trans hx5)
 rw[aQ];refine⟨λhbad=>?_,λhgood=>?_⟩
 ·rw[bI];exact ends (v:=JV.null) (cs:=flat 0 false []) (by unfold sP;rw[if_pos hbad]) hx2 (fB (by simp))
 have hgd:∀x∈a,cU x=true:=λx hx=>by
  have:=List.any_eq_false.1 hgood x hx;simpa using this
 have hF:Wz a:=⟨hgd,hl,hpr hgd⟩;refine aBQ λmb w6 hx6 hm=>?_;have hfP:=Kx name Ku;have hfT:Da fnT name=(pR Ku name).map λv=>v.1:=by rw[Zf];exact Kw name Ku
 have hcall:sP name a=(match Da fnT name with
  |none=>(JV.null,70)
  |some f=>
   if a.any (λx=> !lA x)then(uV,0)else
   if !xL f a then(JV.null,71)else
   match f.act a with
   |none=>(JV.null,71)
   |some v=>if cU v then(v,0)else(JV.null,3)):=by
  unfold sP;rw[if_neg (by rw[hgood];simp)]<;>rfl
 have hx26:=hx2.trans hx6;refine SL (KT:=ST) (ET:=FT) (z:=.agg #[str [],i64 0,.nilFunc]) (by kernel_rfl) (by kernel_rfl) (by kernel_rfl) hm (λv hv=>?_) (λhno=>?_)
 rotate_left
 ·have hno:pR Ku name=none:=by
   have hno:oH (Ku.map λe=>(e.1,fnV e.2.1 e.2.2)) name=none:=hno;rw[hfP]at hno;cases hq:pR Ku name with
   |none=>rfl
   |some v=>rw[hq]at hno;cases hno
  rw[hfT,hno]at hcall;simp only[aK];refine⟨_,rfl,_,rfl,?_⟩;refine aI λp w7 hp hz7 hbp hx7=>?_;refine aY (l:=[str [],i64 0,.nilFunc]) hbp rfl rfl rfl λw8 hz8 hbp8 hc8=>?_;have hx28:=hx26.trans (hx7.new hc8 (by omega));rw[cJ,Bool.not_false,bZ,bI];exact ends (v:=JV.null) (cs:=flat 0 false []) hcall hx28 (fB (by simp))
 obtain⟨e,he,hev⟩:∃e:sW×FuncId,pR Ku name=some e/\v=fnV e.1 e.2:=by
  have hv:oH (Ku.map λe=>(e.1,fnV e.2.1 e.2.2)) name=some v:=hv;rw[hfP]at hv;cases hq:pR Ku name with
  |none=>rw[hq]at hv;cases hv
  |some u=>rw[hq]at hv;exact⟨u,rfl,(Option.some.inj hv).symm⟩
 obtain⟨f,g⟩:=e;subst hev;have hmem:=Dv he;have hdo:VR g f:=hall f g he;obtain⟨ht1,ht2,ht3,ht4⟩:=MM _ hmem;rw[hfT,he]at hcall;simp only[Option.map_some]at hcall;simp only[aK];refine⟨_,rfl,_,rfl,?_⟩;refine aI λp w7 hp hz7 hbp hx7=>?_;refine aY (l:=[str f.takes,i64 (f.least:Nat),.func (.func g) #[] #[]]) hbp rfl rfl rfl λw8 hz8 hbp8 hc8=>?_;have hx28:=hx26.trans (hx7.new hc8 (by omega));rw[cJ,Bool.not_true,bJ];have h8:=(h.ext hx1).ext hx28;refine wI (p:=λx=> !lA x) h8 (λz hz {cs w3 K3} hx3 hcs hK3=>?_) λw12 hx12=>?_
 ·refine uA ?_;refine Vm ?_;unfold aCP;refine gB hcs λq w4 sv4 kv4 hB4 hx4 _=>?_;refine hB4.ld λcs4 hcs4=>?_;refine EH z hcs4 λw5 hx5=>?_;rw[cJ];exact hK3 w5 (hx4.trans hx5)
 have hx112:=hx28.trans hx12;rw[aQ];refine⟨λhunk=>?_,λhknw=>?_⟩
 ·rw[if_pos hunk]at hcall;refine nM λw13 hx13=>?_;exact ends (v:=uV) (cs:=flat 1 false []) hcall (hx112.trans hx13) (fB (by simp))
 rw[if_neg (by rw[hknw];simp)]at hcall;refine aU (hx12.at hbp8 id) rfl ?_;refine Zi (f:=f) (h8.ext hx12) rfl ht1 ht2 ht3 ht4 (by omega) λw16 hx16=>?_;have hx116:=hx112.trans hx16;rw[cJ,aQ];refine⟨λhnf=>?_,λhfit=>?_⟩
 ·rw[if_pos hnf]at hcall;rw[bI];exact ends (v:=JV.null) (cs:=flat 0 false []) hcall hx116 (fB (by simp))
 rw[if_neg (by rw[hfit];simp)]at hcall;have hfit:xL f a=true:=by simpa using hfit
 have hbp16:=(hx12.trans hx16).at hbp8 id;rw[aO,bY];refine⟨.func (.func g) #[] #[],by rw[aV,aX,hbp16];rfl,?_⟩;refine uA ?_;have hT16:=hT.ext (hx1.trans hx116);refine hdo hT16 ((h.ext hx1).ext hx116) hF hfit λcs v ok w20 hx20 hV hr=>?_;have hr:f.act a=if ok=true then some v else none:=hr;simp only[aK];refine⟨_,rfl,_,rfl,?_⟩;have hx120:=hx116.trans hx20;refine aI λq w21 hq hz21 hbq hx21=>?_;refine aY hbq hV.rep.len rfl hV.rep.all_one λw22 hz22 hbq22 hc22=>?_;have hx2022:bA w20 w22:=hx21.new hc22 (by omega);have hx122:=hx120.trans hx2022;have s16:=hx116.size;have hlb:=dA hbb;have hV22:bE (vJ w16.heap.size) w22 v cs:=hV.ext' hx2022;rw[cJ,aQ];refine⟨λhno=>?_,λhok=>?_⟩
 ·rw[hr,if_neg (by simpa using hno)]at hcall;rw[bI];exact ends (v:=JV.null) (cs:=flat 0 false []) hcall hx122 (fB (by simp))
 rw[hr,if_pos (by simpa using hok)]at hcall;refine aU hbq22 hV.rep.len ?_;refine Ed hV22.rep λw26 hx26'=>?_;have hx126:=hx122.trans hx26';rw[cJ,aQ];refine⟨λhng=>?_,λhg=>?_⟩
 ·simp only[if_neg (show¬cU v=true by simpa using hng)]at hcall;rw[bI];exact ends (v:=JV.null) (cs:=flat 0 false []) hcall hx126 (fB (by simp))
 ·simp only[if_pos (show cU v=true by simpa using hg)]at hcall;refine aU (hx26'.at hbq22 id) hV.rep.len ?_;exact ends (v:=v) hcall hx126 ((hV22.ext' hx26').at (by omega) (by omega))
end
abbrev zK:List Value:=[(.int .i64 0),(.bool false),(.string (aL [])),(.slice none 0 0),(.slice none 0 0)]
theorem EO{u v:JV}{ds:List Value}{K:Q0}(h1:cM w u cs)(h2:cM w v ds)(hK:∀t w',cV w' t [u,v]->bA w w'->Mt (vJ w.heap.size) t->K t w'):
  bR VT 2 (zK++zK) [(0,5,.agg cs.toArray),(5,5,.agg ds.toArray)] w K:=by
 unfold bR;have l1:=h1.len;have l2:=h2.len;have hp:∀K:List Value->Prop,K (cs++ds)->bQ (zK++zK) [(0,5,.agg cs.toArray),(5,5,.agg ds.toArray)] K:=by
  intro K hK;refine⟨by simp[Value.cells,l1],by simp,?_⟩;refine⟨by simp[Value.cells,l2],by simp[Value.cells,l1],?_⟩;have:List.take 5 (List.take 0 (zK++zK)++((Value.agg cs.toArray).cells.toList++List.drop (0+5) (zK++zK)))++((Value.agg ds.toArray).cells.toList++List.drop (5+5) (List.take 0 (zK++zK)++((Value.agg cs.toArray).cells.toList++List.drop (0+5) (zK++zK))))=cs++ds:=by
   simp[Value.cells,List.take_append,List.drop_append,l1]
  rw[this];exact hK
 refine hp _ ?_;have hx:bA w (w.alloc (.cells (cs++ds).toArray VT)):=aS.alloc (aS.refl _ _) _;refine hK _ _ ⟨⟨VT,cs++(ds++[]),?_,?_⟩,by simp⟩ hx (λq hq=>by cases hq;exact Nat.le_refl _)
 ·rw[List.append_nil];exact(uP (w:=w) (base:=w.heap.size) (e:=VT) (size:=5) (n:=2) (cs:=cs++ds) (Nat.le_refl _) (by rw[List.length_append];omega) (by omega)).sl
 ·simp only[cD];exact⟨cs,ds++[],rfl,h1.ext hx,ds,[],rfl,h2.ext hx,rfl⟩
theorem Tp{u:JV}{K:Q0}(h1:cM w u cs)(hK:∀t w',cV w' t [u]->bA w w'->K t w'):bR VT 1 zK [(0,5,.agg cs.toArray)] w K:=
 zP h1.len λt w' ht hx=>hK t w' ⟨⟨VT,cs,ht,cD.one' (h1.ext hx)⟩,by simp⟩ hx
section
variable [HX]
theorem Lf{s:aH}{K:Q0}(hK:∀w',bA w w'->K (.agg (flat 4 false s).toArray) w'):aA P0 24 [str s] w K:=by
 refine aAB ?_;unfold W24;refine aI λb w1 hb hz hbb hx=>?_;simp only[cP,cS,bT,cR,cond_true,cond_false,exists_eq_left',cQ,Nat.reduceAdd,Nat.reduceLT,Nat.lt_add_one,Nat.zero_lt_succ,decide_true,decide_false,ne_eq,reduceCtorEq];exact eS hbb rfl rfl rfl λw' hc=>hK w' (hx.new hc (by omega))
end
end
end Go.Proofs.YtghhmpppnmoeoaaGreatDoor
namespace Go.Lex
section
open Go Go.Eng Go.Num
structure Tok where
 k:Int
 t:aH
 a:Int
deriving DecidableEq
def fH(c:UInt8):Bool:=(97<=c&&c<=122)||(65<=c&&c<=90)||c==95
def fD(c:UInt8):Bool:=48<=c&&c<=57
def fL(c:UInt8):Bool:=fH c||fD c||c==45
def cH(p:UInt8->Bool):aH->Nat
 |[]=>0
 |c::r=>if p c then cH p r+1 else 0
def lI(p s:aH):Bool:=p.isPrefixOf s
def dE:Nat->aH->Nat×Int
 |0,_=>(0,0)
 |_+1,[]=>(0,0)
 |n+1,c::r=>
  if c==32||c==9||c==13 then((dE n r).1+1,(dE n r).2)
  else if c==35||lI [47,47] (c::r)then
   let k:=cH (λb=>b !=10) (c::r)
   ((dE n ((c::r).drop k)).1+k,(dE n ((c::r).drop k)).2)
  else if lI [47,42] (c::r)then
   let i:=Lib.index (r.drop 1) [42,47]
   if i<0 then(0,40)
   else((dE n ((c::r).drop (i.toNat+4))).1+(i.toNat+4),(dE n ((c::r).drop (i.toNat+4))).2)
  else(0,0)
def jC(k:Nat)(r:Nat×Int):Nat×Int:=if r.2=0 then(r.1+k,0)else(0,r.2)
def escOk(c:UInt8):Bool:=c==34||c==92||c==110||c==116||c==114||c==36
mutual
def kK:Nat->aH->Nat->Nat×Int
 |0,_,_=>(0,40)
 |_+1,[],_=>(0,40)
 |n+1,c::r,d=>
  if c==34 then(1,0)
  else if c==10 then(0,40)
  else if c==92 then
   match r with
   |[]=>(0,40)
   |e::r'=>if escOk e then jC 2 (kK n r' d)else(0,40)
  else if lI [36,123] (c::r)then
   if 24<d+1 then(0,7)
   else
    let i:=xJ n (r.drop 1) (d+1)
    if i.2=0 then jC (i.1+2) (kK n ((r.drop 1).drop i.1) d)else(0,i.2)
  else jC 1 (kK n r d)
def xJ:Nat->aH->Nat->Nat×Int
 |0,_,_=>(0,40)
 |_+1,[],_=>(0,40)
 |n+1,c::r,d=>
  if c==125 then(1,0)
  else if c==10 then(0,40)
  else if c==123 then
   if 24<d+1 then(0,7)
   else
    let i:=xJ n r (d+1)
    if i.2=0 then jC (i.1+1) (xJ n (r.drop i.1) d)else(0,i.2)
  else if c==34 then
   let i:=kK n r d
   if i.2=0 then jC (i.1+1) (xJ n (r.drop i.1) d)else(0,i.2)
  else jC 1 (xJ n r d)
end
def gA:aH->aH
 |[]=>[]
 |c::r=>if c==92||c==34||c==36 then 92::c::gA r else if c==9 then 92::116::gA r else if c==13 then 92::114::gA r else c::gA r
def iL:Nat->aH->aH->aH×Nat×Int
 |0,_,_=>([],0,40)
 |n+1,name,s=>
  let k:=cH (λb=>b !=10) s
  let line:=s.take k
  if line.drop (cH (λb=>b==32||b==9) line)=name then([],k,0)
  else if s.length<=k then([],0,40)
  else
   let x:=iL n name (s.drop (k+1))
   if x.2.2=0 then(gA line++[92,110]++x.1,x.2.1+(k+1),0)else([],0,x.2.2)
def eO(s:aH):aH×Nat×Int:=
 let n:=if fH ((s.drop 2).headD 0)then cH fL (s.drop 2)else 0
 if n=0 then([],0,40)
 else if(s.drop (2+n)).head?=some 10 then
  let x:=iL (s.length+1) ((s.drop 2).take n) (s.drop (2+n+1))
  if x.2.2=0 then(x.1,x.2.1+(2+n+1),0)else([],0,x.2.2)
 else([],0,40)
def tF:List aH:=[[61,61],[33,61],[60,61],[62,61],[38,38],[124,124]]
def yB:aH:=[123,125,91,93,40,41,61,43,45,42,47,37,60,62,33,63,58,44,46]
def qT(s:aH):aH:=
 if tF.contains (s.take 2)then s.take 2 else if yB.contains (s.headD 0)then s.take 1 else []
def kY(s:aH):Tok×Nat×Int:=
 let c:=s.headD 0
 if c==10 then(⟨5,[10],0⟩,1,0)
 else if fH c then
  let n:=cH fL s
  (⟨1,s.take n,0⟩,n,if 32<n then 3 else 0)
 else if fD c then
  let n:=cH fD s
  (⟨2,s.take n,0⟩,n,if(n<s.length&&fH ((s.drop n).headD 0))||(c==48&&1<n)then 40 else if goodN (s.take n)then 0 else 3)
 else if c==34 then
  let r:=kK (s.length+1) (s.drop 1) 0
  if r.2=0 then(⟨3,(s.drop 1).take (r.1-1),0⟩,r.1+1,0)else(⟨0,[],0⟩,0,r.2)
 else if lI [60,60] s then
  let r:=eO s
  (⟨3,r.1,0⟩,r.2.1,r.2.2)
 else(⟨4,qT s,0⟩,(qT s).length,if(qT s).length=0 then 40 else 0)
def Cl:Nat->aH->Nat->Option Nat
 |0,_,_=>none
 |n+1,s,i=>if s.length<=i then none else if eK s i=0 then some i else Cl n s (i+qO s i)
inductive RS where
 |ok (l:List Tok)
 |bad (code at_:Int)
deriving DecidableEq
def jL:Nat->aH->Nat->Nat->RS
 |0,_,_,_=>.bad 0 0
 |n+1,s,at_,cnt=>
  let k:=dE (s.length+1) s
  let r:=s.drop k.1
  if k.2≠0 then .bad k.2 (at_+k.1:Nat)
  else if r=[]then .ok [⟨0,[],(at_+k.1:Nat)⟩]
  else
   let o:=kY r
   if o.2.2≠0 then .bad o.2.2 (at_+k.1:Nat)
   else if cnt=4096 then .bad 3 (at_+k.1:Nat)
   else match jL n (r.drop o.2.1) (at_+k.1+o.2.1) (cnt+1)with
    |.ok l=>.ok (⟨o.1.k,o.1.t,(at_+k.1:Nat)⟩::l)
    |x=>x
def mE(s:aH):RS:=
 if 16384<s.length then .bad 3 0
 else match Cl (s.length+1) s 0 with
  |some i=>.bad 31 (i:Nat)
  |none=>jL (s.length+1) s 0 0
end
end Go.Lex
namespace Go.Syn
section
open Go Go.Eng Go.Lex
structure Ex where
 k:Int
 t:aH
 args:List Nat
 keys:List aH
 a:Int
deriving DecidableEq
structure If where
 n:aH
 e:Nat
 a:Int
deriving DecidableEq
structure Mu where
 typ:aH
 labels:List aH
 attrs:List If
 blocks:List Nat
 a:Int
deriving DecidableEq
structure Fl where
 ex:List Ex
 bl:List Mu
 top:List Nat
deriving DecidableEq
structure PS where
 toks:List Tok
 i:Nat
 off:Int
 deep:Nat
 quiet:Bool
 ex:List Ex
 bl:List Mu
inductive R (α:Type) where
 |ok (x:α) (s:PS)
 |err (c a:Int)
def R.bind{α β:Type}(r:R α)(f:α->PS->R β):R β:=match r with
 |.ok x s=>f x s
 |.err c a=>.err c a
def eC:List Tok->Nat
 |[]=>0
 |t::r=>if t.k=5 then eC r+1 else 0
def aG(s:PS):PS:=if s.quiet=true then{s with i:=s.i+eC (s.toks.drop s.i)}else s
def iH(s:PS):Tok:=s.toks.getD s.i ⟨0,[],0⟩
def bO(s:PS):Tok:={iH (aG s)with a:=(iH (aG s)).a+s.off}
def step1(s:PS):PS:={s with i:=s.i+1}
def eZ(s:PS):PS:=if(bO s).k≠0 then step1 (aG s)else aG s
def kS(s:PS)(w:aH):Bool:=decide ((bO s).k=4)&&decide ((bO s).t=w)
def aR(s:PS)(w:aH):Bool×PS:=if kS s w=true then(true,step1 (aG s))else(false,aG s)
def kJ(s:PS)(w:aH):R Unit:=if kS s w=true then .ok () (step1 (aG s))else .err 50 (bO s).a
def iA(s:PS)(k:Int):R Tok:=if(bO s).k=k then .ok (bO s) (eZ s)else .err 50 (bO s).a
def dQ(s:PS):PS:={aG s with i:=(aG s).i+eC (s.toks.drop (aG s).i)}
def mP(s:PS)(e:Ex):R Nat:=.ok s.ex.length {s with ex:=s.ex++[e]}
def within{α:Type}(s:PS)(a:Int)(quiet:Bool)(f:PS->R α):R α:=
 if s.deep=24 then .err 7 a
 else(f {s with deep:=s.deep+1,quiet:=quiet}).bind λx s'=>.ok x {s' with deep:=s.deep,quiet:=s.quiet}
def fY:aH->aH
 |[]=>[]
 |[c]=>if c=92 then []else [c]
 |c::e::r=>if c=92 then(if e=110 then 10 else if e=116 then 9 else if e=114 then 13 else e)::fY r else c::fY (e::r)
mutual
def xR:Nat->aH->Int->Nat
 |0,_,_=>0
 |_+1,[],_=>0
 |n+1,c::r,d=>
  if c=123 then 1+xR n r (d+1)
  else if c=125 then(if d-1=0 then 1 else 1+xR n r (d-1))
  else if c=34 then(1+wZ n r)+xR n (r.drop (wZ n r)) d
  else 1+xR n r d
def wZ:Nat->aH->Nat
 |0,_=>0
 |_+1,[]=>0
 |n+1,c::r=>
  if c=34 then 1
  else if c=92 then(match r with|[]=>1|_::r'=>2+wZ n r')
  else if lI [36,123] (c::r)=true then(1+xR n r 0)+wZ n (r.drop (xR n r 0))
  else 1+wZ n r
end
def HK(s:aH):Nat:=xR (s.length+1) s 0
def insP:aH->Option (Nat×Nat)
 |[]=>none
 |[_]=>none
 |c::e::r=>
  if c=92 then(insP r).map λx=>(x.1+2,x.2+2)
  else if c=36/\e=123 then some (0,1+HK (e::r))
  else(insP (e::r)).map λx=>(x.1+1,x.2+1)
def lP(s:PS)(t:Tok):R aH:=if(insP t.t).isSome=true then .err 50 t.a else .ok (fY t.t) s
def lC(E:PS->R Nat)(s:PS)(t:aH)(a:Int):R Nat:=match mE t with
 |.bad c b=>.err c (a+b)
 |.ok l=>(E ⟨l,0,a,s.deep,false,s.ex,s.bl⟩).bind λx q=>(iA q 0).bind λ_ q'=>.ok x {s with ex:=q'.ex,bl:=q'.bl}
def jQ(E:PS->R Nat):Nat->PS->aH->Int->List Nat->List aH->R (List Nat×List aH)
 |0,_,_,_,_,_=>.err 0 0
 |n+1,s,rest,a,us,ks=>
  if rest=[]then .ok (us,ks) s
  else match insP rest with
   |none=>.ok (us++[s.ex.length],ks++[[116]]) {s with ex:=s.ex++[⟨5,fY rest,[],[],a⟩]}
   |some (i,e)=>
    let s1:=if 0<i then{s with ex:=s.ex++[⟨5,fY (rest.take i),[],[],a⟩]}else s
    let as1:=if 0<i then us++[s.ex.length]else us
    let ks1:=if 0<i then ks++[[116]]else ks
    if i<e then
     (within s1 (a+i) false λq=>lC E q ((rest.drop (i+2)).take (e-1-(i+2))) (a+i+2)).bind λx s2=>jQ E n s2 (rest.drop e) (a+e) (as1++[x]) (ks1++[[101]])
    else jQ E n s1 (rest.drop e) (a+e) as1 ks1
def zN(E:PS->R Nat)(s:PS)(t:Tok):R Nat:=
 if(insP t.t).isSome=true then(jQ E (t.t.length+1) s t.t (t.a+1) [] []).bind λx s'=>mP s' ⟨6,[],x.1,x.2,t.a⟩
 else mP s ⟨5,fY t.t,[],[],t.a⟩
def GV:aH:=[102,111,114]
def kIn:aH:=[105,110]
def tK(t:aH):Int:=if t=[110,117,108,108]then 1 else if t=[116,114,117,101]then 2 else if t=[102,97,108,115,101]then 3 else 9
def oR(E:PS->R Nat)(w:aH):Nat->PS->List Nat->R (List Nat)
 |0,_,_=>.err 0 0
 |n+1,s,out=>
  if(aR s w).1=true then .ok out (aR s w).2
  else if out=[]then(E (aR s w).2).bind λx s'=>oR E w n s' (out++[x])
  else(kJ (aR s w).2 [44]).bind λ_ s1=>
   if(aR s1 w).1=true then .ok out (aR s1 w).2
   else(E (aR s1 w).2).bind λx s'=>oR E w n s' (out++[x])
def BY(E:PS->R Nat)(w:aH)(s:PS):R (List Nat):=oR E w (s.toks.length+1) s []
def zT(E:PS->R Nat)(s:PS)(a:Int):R Ex:=
 let s1:=step1 s
 if(bO s1).k≠1\/(bO s1).t≠GV then(BY E [93] (aG s1)).bind λus s'=>.ok ⟨7,[],us,[],a⟩ s'
 else(iA (step1 (aG s1)) 1).bind λt s2=>(iA s2 1).bind λu s3=>
  if u.t≠kIn then .err 50 u.a
  else(E s3).bind λx s4=>(kJ s4 [58]).bind λ_ s5=>(E s5).bind λy s6=>(kJ s6 [93]).bind λ_ s7=>.ok ⟨29,t.t,[x,y],[],a⟩ s7
def Cg(E:PS->R Nat)(a:Int):Nat->PS->List Nat->List aH->R Ex
 |0,_,_,_=>.err 0 0
 |n+1,s,us,ks=>
  if(aR s [125]).1=true then .ok ⟨8,[],us,ks,a⟩ (aR s [125]).2
  else
   let s1:=(aR s [125]).2
   let t:=bO s1
   let s2:=eZ s1
   (if t.k=3 then lP s2 t else if t.k=1 then .ok t.t s2 else .err 50 t.a).bind λk s3=>
     if ks.contains k=true then .err 2 t.a
     else(kJ s3 [61]).bind λ_ s4=>(E s4).bind λx s5=>
      if(aR s5 [44]).1=false/\(bO (aR s5 [44]).2).k≠5/\kS (aG (aR s5 [44]).2) [125]=false then .err 50 (bO (aG (aR s5 [44]).2)).a
      else Cg E a n (dQ (if(aR s5 [44]).1=true then(aR s5 [44]).2 else aG (aR s5 [44]).2)) (us++[x]) (ks++[k])
def LC(E:PS->R Nat)(s:PS)(a:Int):R Ex:=Cg E a (s.toks.length+1) (dQ (step1 s)) [] []
def xU(E:PS->R Nat)(s:PS):R Nat:=
 let t:=bO s
 let s1:=aG s
 if t.k=2 then mP (step1 s1) ⟨4,t.t,[],[],t.a⟩
 else if t.k=3 then zN E (step1 s1) t
 else if t.k=1/\t.t≠GV then
  if kS (step1 s1) [40]=true then
   (within (aG (step1 s1)) (bO (step1 s1)).a true λq=>BY E [41] (step1 q)).bind λus s2=>mP s2 ⟨12,t.t,us,[],t.a⟩
  else mP (aG (step1 s1)) ⟨tK t.t,if tK t.t=9 then t.t else [],[],[],t.a⟩
 else if kS s1 [40]=true then within s1 t.a true λq=>(E (step1 q)).bind λx q1=>(kJ q1 [41]).bind λ_ q2=>.ok x q2
 else if kS s1 [91]=true then(within s1 t.a true λq=>zT E q t.a).bind λe s2=>mP s2 e
 else if kS s1 [123]=true then(within s1 t.a false λq=>LC E q t.a).bind λe s2=>mP s2 e
 else .err 50 t.a
def mZ(E:PS->R Nat):Nat->PS->Nat->R Nat
 |0,_,_=>.err 0 0
 |n+1,s,x=>
  let t:=bO s
  let s1:=aG s
  if(aR s1 [46]).1=true then(iA (aR s1 [46]).2 1).bind λu s2=>(mP s2 ⟨10,u.t,[x],[],t.a⟩).bind λy s3=>mZ E n s3 y
  else if kS s1 [91]=true then
   (within s1 t.a true λq=>
     if(aR (step1 q) [42]).1=true then(kJ (aR (step1 q) [42]).2 [93]).bind λ_ q2=>.ok none q2
     else(E (aR (step1 q) [42]).2).bind λy q1=>(kJ q1 [93]).bind λ_ q2=>.ok (some y) q2).bind λo s2=>
     match o with
     |some y=>(mP s2 ⟨11,[],[x,y],[],t.a⟩).bind λz s3=>mZ E n s3 z
     |none=>(kJ s2 [46]).bind λ_ s3=>(iA s3 1).bind λu s4=>(mP s4 ⟨30,u.t,[x],[],t.a⟩).bind λz s5=>mZ E n s5 z
  else .ok x s1
def AW(E:PS->R Nat)(s:PS):R Nat:=(xU E s).bind λx s1=>mZ E (s.toks.length+1) s1 x
def vL(E S:PS->R Nat)(s:PS):R Nat:=
 let t:=bO s
 let s1:=aG s
 if kS s1 [33]=true then(within s1 t.a s1.quiet λq=>S (step1 q)).bind λx s2=>mP s2 ⟨14,[],[x],[],t.a⟩
 else if kS s1 [45]=true then(within s1 t.a s1.quiet λq=>S (step1 q)).bind λx s2=>mP s2 ⟨13,[],[x],[],t.a⟩
 else AW E s1
def GW(n:Nat)(w:aH):Int:=
 if n=0 then(if w=[124,124]then 27 else 0)
 else if n=1 then(if w=[38,38]then 26 else 0)
 else if n=2 then(if w=[61,61]then 20 else if w=[33,61]then 21 else 0)
 else if n=3 then(if w=[60]then 22 else if w=[62]then 23 else if w=[60,61]then 24 else if w=[62,61]then 25 else 0)
 else if n=4 then(if w=[43]then 15 else if w=[45]then 16 else 0)
 else if n=5 then(if w=[42]then 17 else if w=[47]then 18 else if w=[37]then 19 else 0)
 else 0
def sA(t:Tok)(n:Nat):Int:=if t.k=4 then GW n t.t else 0
def xG(J:PS->R Nat)(n:Nat):Nat->PS->Nat->R Nat
 |0,_,_=>.err 0 0
 |f+1,s,a=>
  let t:=bO s
  if sA t n=0 then .ok a (aG s)
  else(J (step1 (aG s))).bind λb s1=>(mP s1 ⟨sA t n,[],[a,b],[],t.a⟩).bind λx s2=>xG J n f s2 x
def pP(E S:PS->R Nat):Nat->PS->R Nat
 |0=>vL E S
 |m+1=>λs=>(pP E S m s).bind λa s1=>xG (pP E S m) (5-m) (s.toks.length+1) s1 a
def Ac(E S:PS->R Nat)(s:PS):R Nat:=(pP E S 6 s).bind λa s1=>
 let t:=bO s1
 if(aR s1 [63]).1=true then
  (within (aR s1 [63]).2 t.a (aR s1 [63]).2.quiet λq=>(E q).bind λx q1=>(kJ q1 [58]).bind λ_ q2=>(E q2).bind λy q3=>.ok (x,y) q3).bind λz s2=>mP s2 ⟨28,[],[a,z.1,z.2],[],t.a⟩
 else .ok a (aR s1 [63]).2
def dead:PS->R Nat:=λ_=>.err 0 0
def oM:Nat->(PS->R Nat)×(PS->R Nat)
 |0=>(Ac dead dead,vL dead dead)
 |d+1=>(Ac (oM d).1 (oM d).2,vL (oM d).1 (oM d).2)
def nH:Nat->PS->List aH->R (List aH)
 |0,_,_=>.err 0 0
 |n+1,s,ls=>
  if(bO s).k=3 then(lP (eZ s) (bO s)).bind λl s1=>nH n s1 (ls++[l])
  else .ok ls (aG s)
def zV(E B:PS->R Nat)(s:PS)(us:List If)(bs:List Nat):R (List If×List Nat):=(iA s 1).bind λt s1=>
 if(aR s1 [61]).1=true then(E (aR s1 [61]).2).bind λx s2=>.ok (us++[⟨t.t,x,t.a⟩],bs) s2
 else(B {(aR s1 [61]).2 with i:=(aR s1 [61]).2.i-1}).bind λx s2=>.ok (us,bs++[x]) s2
def mS(E B:PS->R Nat):Nat->PS->List If->List Nat->R (List If×List Nat)
 |0,_,_,_=>.err 0 0
 |n+1,s,us,bs=>
  if(aR s [125]).1=true then .ok (us,bs) (aR s [125]).2
  else(zV E B (aR s [125]).2 us bs).bind λx s1=>
   if(bO s1).k≠5/\kS (aG s1) [125]=false then .err 50 (bO (aG s1)).a
   else mS E B n (dQ (aG s1)) x.1 x.2
def uB(E B:PS->R Nat)(s:PS):R Nat:=(iA s 1).bind λt s1=>(nH (s.toks.length+1) s1 []).bind λls s2=>
 if kS s2 [123]=false then .err 50 (bO s2).a
 else(within (aG s2) (bO s2).a false λq=>mS E B (s.toks.length+1) (dQ (step1 q)) [] []).bind λx s3=>
  .ok s3.bl.length {s3 with bl:=s3.bl++[⟨t.t,ls,x.1,x.2,t.a⟩]}
def zI:Nat->PS->R Nat
 |0=>uB dead dead
 |d+1=>uB (oM d).1 (zI d)
def Lc:Nat->PS->List Nat->R (List Nat)
 |0,_,_=>.err 0 0
 |n+1,s,top=>
  if(bO s).k=0 then .ok top (aG s)
  else(zI 24 (aG s)).bind λx s1=>
   if(bO s1).k≠5/\(bO s1).k≠0 then .err 50 (bO (aG s1)).a
   else Lc n (dQ (aG s1)) (top++[x])
inductive PR where
 |ok (f:Fl)
 |bad (c a:Int)
deriving DecidableEq
def parseM(s:aH):PR:=match mE s with
 |.bad c a=>.bad c a
 |.ok l=>match Lc (l.length+1) (dQ ⟨l,0,0,0,false,[],[]⟩) []with
  |.ok top s'=>.ok ⟨s'.ex,s'.bl,top⟩
  |.err c a=>.bad c a
end
end Go.Syn
namespace Go.Eng
section
open Go Go.Num Go.Syn
variable{w:World}{K:Q0}{cs:List Value}{G:Nat->Prop}{T:TypeId}{i:Nat}{n:Nat}{v:Value}{w':World}{P:Program}{c:UInt8}{S:Nat->Prop}
def dZ(n:Int):aH×Int:=if 100<(dig (Lib.itoa n)).length then([],3)else(Lib.itoa n,0)
def BP(a b:aH):aH×Int:=if num b=0 then([],10)else dZ ((num a).tdiv (num b))
def Ch(a b:aH):aH×Int:=if num b=0 then([],10)else dZ ((num a).tmod (num b))
inductive mW (α:Type) where
 |ok (x:α) (left:Nat)
 |err (c a:Int)
def mW.bind{α β:Type}(r:mW α)(f:α->Nat->mW β):mW β:=match r with
 |.ok x l=>f x l
 |.err c a=>.err c a
inductive vI (α:Type) where
 |ok (x:α)
 |err (c a:Int)
def vI.bind{α β:Type}(r:vI α)(f:α->vI β):vI β:=match r with
 |.ok x=>f x
 |.err c a=>.err c a
def vI.at_{α:Type}(r:vI α)(l:Nat):mW α:=match r with
 |.ok x=>.ok x l
 |.err c a=>.err c a
abbrev Env:=aH->Option JV
def Env.set(env:Env)(k:aH)(v:JV):Env:=λs=>if s=k then some v else env s
def aBO(ex:List Ex)(i:Nat):Int:=match ex[i]? with|some e=>e.a|none=>0
def yI(v:JV):Option aH:=if v.k=4\/v.k=3 then some v.t else if v.k=2 then some (if v.b then [116,114,117,101]else [102,97,108,115,101])else none
def oY(ex:List Ex)(args:List Nat):List JV->Nat->aH->Bool->vI JV
 |[],_,b,kn=>.ok (if kn=true then tV b else uV)
 |v::l,j,b,kn=>if v.k=1 then oY ex args l (j+1) b false else match yI v with
  |some s=>oY ex args l (j+1) (b++s) kn
  |none=>.err 81 (aBO ex (args.getD j 0))
def oQ(t:aH)(a:Int)(v:JV):vI JV:=
 if v.k=1 then .ok v else if v.k≠6 then .err 81 a else match tO v t with
 |some x=>.ok x
 |none=>.err 82 a
def qF(t:aH)(a:Int):List JV->vI (List JV)
 |[]=>.ok []
 |v::l=>(oQ t a v).bind λx=>(qF t a l).bind λxs=>.ok (x::xs)
def qA(t:aH)(a:Int)(v:JV):vI JV:=
 if v.k=1 then .ok v else if v.k≠5 then .err 81 a else(qF t a v.xs).bind λxs=>.ok (lV xs)
def dR(k:Int)(v:JV):Bool:=decide (v.k=k)||decide (v.k=1)
def nI(v i:JV):Bool:=if v.k=1 then dR 3 i||dR 4 i else if v.k=5 then dR 3 i else if v.k=6 then dR 4 i else false
def yU(a:Int)(v i:JV):vI JV:=
 if nI v i=true then
  if v.k=1\/i.k=1 then .ok uV
  else if v.k=6 then oQ i.t a v
  else if 0<=num i.t/\num i.t<v.xs.length then .ok (v.xs.getD (num i.t).toNat JV.null)else .err 82 a
 else .err 81 a
def vK(k a:Int)(v:JV):vI JV:=
 if v.k=1 then .ok v else if v.k=3/\k=13 then .ok (nV (dZ (-num v.t)).1)else if v.k=2/\k=14 then .ok (bV (!v.b))else .err 81 a
def DI(or:Bool)(a:Int)(x y:JV):vI JV:=
 if(dR 2 x&&dR 2 y)=true then
  if(x.k≠1/\x.b=or)\/(y.k≠1/\y.b=or)then .ok (bV or)else if x.k=1\/y.k=1 then .ok uV else .ok (bV (!or))
 else .err 81 a
def sR(a:Int)(r:aH×Int):vI JV:=if r.2=0 then .ok (nV r.1)else .err r.2 a
def GK(k a:Int)(x y:JV):vI JV:=
 if(dR 3 x&&dR 3 y)=true then
  if x.k=1\/y.k=1 then .ok uV
  else if k=22 then .ok (bV (decide (tY x.t y.t<0)))
  else if k=23 then .ok (bV (decide (0<tY x.t y.t)))
  else if k=24 then .ok (bV (decide (tY x.t y.t<=0)))
  else if k=25 then .ok (bV (decide (0<=tY x.t y.t)))
  else if k=15 then sR a (dZ (num x.t+num y.t))
  else if k=16 then sR a (dZ (num x.t-num y.t))
  else if k=17 then sR a (dZ (num x.t*num y.t))
  else if k=18 then sR a (BP x.t y.t)
  else if k=19 then sR a (Ch x.t y.t)
  else .ok (nV [])
 else .err 81 a
def Ap(l:List JV):JV:=l.getD 0 JV.null
def Cm(l:List JV):JV:=l.getD 1 JV.null
def zQ(ks:List aH)(l:List JV):JV:=if ks.length=l.length/\ks.Nodup then(ks.zip l).foldl (λv p=>rV v p.1 p.2) (.mk 6 false [] [] [])else JV.null
def kZ(ex:List Ex)(e:Ex)(env:Env)(l:List JV):vI JV:=
 if e.k=1 then .ok JV.null
 else if e.k=2\/e.k=3 then .ok (bV (decide (e.k=2)))
 else if e.k=4 then .ok (nV e.t)
 else if e.k=5 then .ok (tV e.t)
 else if e.k=9 then(match env e.t with|some v=>.ok v|none=>.err 80 e.a)
 else if e.k=6 then oY ex e.args l 0 [] true
 else if e.k=7 then .ok (lV l)
 else if e.k=8 then .ok (zQ e.keys l)
 else if e.k=10 then oQ e.t e.a (Ap l)
 else if e.k=30 then qA e.t e.a (Ap l)
 else if e.k=11 then yU e.a (Ap l) (Cm l)
 else if e.k=12 then(if(sP e.t l).2=0 then .ok (sP e.t l).1 else .err (sP e.t l).2 e.a)
 else if e.k=13\/e.k=14 then vK e.k e.a (Ap l)
 else if e.k=20\/e.k=21 then(if lA (Ap l)=true/\lA (Cm l)=true then .ok (bV (decide (Jy (Ap l) (Cm l)=0)==decide (e.k=20)))else .ok uV)
 else if e.k=26\/e.k=27 then DI (decide (e.k=27)) e.a (Ap l) (Cm l)
 else GK e.k e.a (Ap l) (Cm l)
section
variable(rec_:Nat->Env->Nat->mW JV)
def jY(env:Env):List Nat->Nat->mW (List JV)
 |[],left=>.ok [] left
 |a::r,left=>(rec_ a env left).bind λv l=>(jY env r l).bind λvs l'=>.ok (v::vs) l'
def sO(env:Env)(t:aH)(i:Nat):List JV->Nat->mW (List JV)
 |[],left=>.ok [] left
 |x::r,left=>(rec_ i (env.set t x) left).bind λv l=>(sO env t i r l).bind λvs l'=>.ok (v::vs) l'
def iO(e:Ex)(i:Nat):Nat:=e.args.getD i 0
def HD(e:Ex)(env:Env)(left:Nat):mW JV:=
 (rec_ (iO e 0) env left).bind λc l=>
   if c.k=1 then .ok c l else if c.k≠2 then .err 81 e.a else if c.b=true then rec_ (iO e 1) env l else rec_ (iO e 2) env l
def Tq(e:Ex)(env:Env)(left:Nat):mW JV:=
 (rec_ (iO e 0) env left).bind λc l=>
   if c.k=1 then .ok c l else if c.k≠5 then .err 81 e.a else(sO rec_ env e.t (iO e 1) c.xs l).bind λvs l'=>.ok (lV vs) l'
def lG(ex:List Ex)(e:Ex)(env:Env)(left:Nat):mW JV:=
 if e.k=28 then HD rec_ e env left
 else if e.k=29 then Tq rec_ e env left
 else(jY rec_ env e.args left).bind λl left'=>(kZ ex e env l).at_ left'
def sM(ex:List Ex)(e:Ex)(env:Env)(left:Nat):mW JV:=
 if left=0 then .err 3 e.a else(lG rec_ ex e env (left-1)).bind λv l=>if cU v=true then .ok v l else .err 3 e.a
end
def nB(ex:List Ex):Nat->Nat->Env->Nat->mW JV
 |0,_,_,_=>.err 0 0
 |n+1,i,env,left=>match ex[i]? with
  |none=>.err 0 0
  |some e=>sM (nB ex n) ex e env left
def mI:List aH->List JV->Env
 |k::ks,x::xs=>λs=>match mI ks xs s with
  |some v=>some v
  |none=>if s=k then some x else none
 |_,_=>λ_=>none
def vP(f:Fl)(i:Nat)(scope:JV):vI JV:=match nB f.ex (i+1) i (mI scope.ks scope.xs) 20000 with
 |.ok v _=>.ok v
 |.err c a=>.err c a
theorem GQ{f g:Nat->Env->Nat->mW JV}(env:Env):∀(ags:List Nat) (left:Nat),(∀a∈ags,∀env l,f a env l=g a env l)->jY f env ags left=jY g env ags left
 |[],_,_=>rfl
 |a::r,left,h=>by
  unfold jY
  rw[h a (by simp)]
  congr 1
  funext v l
  rw[GQ env r l λa ha=>h a (List.mem_cons_of_mem _ ha)]
theorem GP{f g:Nat->Env->Nat->mW JV}(env:Env)(t:aH)(i:Nat)(h:∀env l,f i env l=g i env l):∀(xs:List JV) (left:Nat),sO f env t i xs left=sO g env t i xs left
 |[],_=>rfl
 |x::r,left=>by
  unfold sO
  rw[h]
  congr 1
  funext v l
  rw[GP env t i h r l]
theorem FU{f g:Nat->Env->Nat->mW JV}{ex:List Ex}{e:Ex}(h3:e.k=28->3<=e.args.length)(h2:e.k=29->2<=e.args.length)(h:∀a∈e.args,∀env l,f a env l=g a env l)(env:Env)(left:Nat):sM f ex e env left=sM g ex e env left:=by
 have hm:∀j,j<e.args.length->∀env l,f (iO e j) env l=g (iO e j) env l:=λj hj=>h _ (by unfold iO;rw[List.getD_eq_getElem?_getD,List.getElem?_eq_getElem hj];simp);unfold sM;by_cases hl:left=0
 ·rw[if_pos hl,if_pos hl]
 rw[if_neg hl,if_neg hl];congr 1;unfold lG;by_cases k28:e.k=28
 ·rw[if_pos k28,if_pos k28];have:=h3 k28;unfold HD;rw[hm 0 (by omega)];congr 1;funext c l;rw[hm 1 (by omega),hm 2 (by omega)]
 rw[if_neg k28,if_neg k28];by_cases k29:e.k=29
 ·rw[if_pos k29,if_pos k29];have:=h2 k29;unfold Tq;rw[hm 0 (by omega)];congr 1;funext c l;rw[GP env e.t (iO e 1) (hm 1 (by omega))]
 rw[if_neg k29,if_neg k29,GQ env e.args _ h]
structure gT(ex:List Ex):Prop where
 ahead:∀(i:Nat) (e:Ex),ex[i]?=some e->∀a∈e.args,a<i
 a3:∀e∈ex,e.k=28->3<=e.args.length
 a2:∀e∈ex,e.k=29->2<=e.args.length
theorem PZ{ex:List Ex}(h:gT ex):∀(i n m:Nat),i<n->i<m->∀env l,nB ex n i env l=nB ex m i env l:=by
 intro i;induction i using Nat.strongRecOn with
 |ind i ih=>
 intro n m hn hm env l;cases n with
 |zero=>omega
 |succ n=>
 cases m with
 |zero=>omega
 |succ m=>
 unfold nB;cases he:ex[i]? with
 |none=>rfl
 |some e=>
  have hm':=List.mem_of_getElem? he;refine FU (h.a3 e hm') (h.a2 e hm') (λa ha env l=>?_) env l;have:=h.ahead i e he a ha;exact ih a this n m (by omega) (by omega) env l
theorem qJ{ex:List Ex}(h:gT ex){e:Ex}(he:ex[i]?=some e)(hn:i<n)(env:Env)(l:Nat):nB ex n i env l=sM (λa env l=>nB ex (a+1) a env l) ex e env l:=by
 cases n with
 |zero=>omega
 |succ n=>
 rw[nB,he];have hm':=List.mem_of_getElem? he;refine FU (h.a3 e hm') (h.a2 e hm') (λa ha env l=>?_) env l;have:=h.ahead i e he a ha;exact PZ h a n (a+1) (by omega) (by omega) env l
end
end Go.Eng
namespace Go.Proofs.YtghhmpppnmoeoaaGreatDoor
section
open Go Go.Eng Go.RowKit Go.Syn Go.Lex
variable{w:World}{K:Q0}{cs:List Value}{G:Nat->Prop}{T:TypeId}{i:Nat}{n:Nat}{v:Value}{w':World}{P:Program}{c:UInt8}{S:Nat->Prop}
abbrev qG:TypeId:=73
abbrev zJ:TypeId:=93
abbrev AtT:TypeId:=88
abbrev WA:TypeId:=86
abbrev VP:TypeId:=32
abbrev PsT:TypeId:=70
abbrev eX:TypeId:=3
abbrev Ah:TypeId:=9
theorem aBE:mM P0 28 zJ 5 80:=⟨by kernel_rfl,by kernel_rfl,by decide⟩
theorem aBF:mM P0 29 WA 5 96:=⟨by kernel_rfl,by kernel_rfl,by decide⟩
theorem aBG:mM P0 84 AtT 3 32:=⟨by kernel_rfl,by kernel_rfl,by decide⟩
theorem yY:mM P0 30 eX 1 8:=⟨by kernel_rfl,by kernel_rfl,by decide⟩
theorem Pb:mM P0 24 Ah 1 16:=⟨by kernel_rfl,by kernel_rfl,by decide⟩
theorem Wo:mM P0 64 qG 3 32:=⟨by kernel_rfl,by kernel_rfl,by decide⟩
def ints(l:List Nat):List Value:=l.map λn=>i64 (n:Nat)
def strs(l:List aH):List Value:=l.map str
def Mp(l:List If):List Value:=l.flatMap λa=>[str a.n,i64 (a.e:Nat),i64 a.a]
def toks(l:List Tok):List Value:=l.flatMap λt=>[i64 t.k,str t.t,i64 t.a]
theorem OG(l:List Nat):(ints l).length=l.length*1:=by simp[ints]
theorem Bt(a b:List Nat):ints (a++b)=ints a++ints b:=by simp[ints]
theorem MR(a b:List aH):strs (a++b)=strs a++strs b:=by simp[strs]
theorem Dt{α:Type}(f:α->List Value)(h:∀a,(f a).length=3):∀l:List α,(l.flatMap f).length=l.length*3
 |[]=>rfl
 |a::l=>by rw[List.flatMap_cons,List.length_append,h,Dt f h l,List.length_cons];omega
theorem AH(l:List Tok):(toks l).length=l.length*3:=Dt _ (λ_=>rfl) l
theorem Du{α:Type}(f:α->List Value)(h:∀a,(f a).length=3):∀(l:List α) (i j:Nat) (x:α),l[i]?=some x->j<3->(l.flatMap f)[i*3+j]?=(f x)[j]?
 |[],i,_,_,hi,_=>by simp at hi
 |a::l,0,j,x,hi,hj=>by
  simp only[List.getElem?_cons_zero,Option.some.injEq]at hi
  subst hi
  rw[List.flatMap_cons,List.getElem?_append_left (by rw[h];omega),Nat.zero_mul,Nat.zero_add]
 |a::l,i+1,j,x,hi,hj=>by
  rw[List.getElem?_cons_succ]at hi
  rw[List.flatMap_cons,List.getElem?_append_right (by rw[h];omega),h,show(i+1)*3+j-3=i*3+j by omega]
  exact Du f h l i j x hi hj
theorem FP{l:List Tok}{j:Nat}{t:Tok}(h:l[i]?=some t)(hj:j<3):(toks l)[i*3+j]?=[i64 t.k,str t.t,i64 t.a][j]?:=Du _ (λ_=>rfl) l i j t h hj
def kR{α:Type}(R:α->List Value->Prop)(n:Nat)(xs:List α)(c:List Value):Prop:=c.length=xs.length*n/\∀i x,xs[i]?=some x->R x ((c.drop (i*n)).take n)
theorem kR.nil{α:Type}(R:α->List Value->Prop)(n:Nat):kR R n [] []:=⟨by simp,λi x h=>by simp at h⟩
theorem kR.snoc{α:Type}{R:α->List Value->Prop}{xs:List α}{c d:List Value}{x:α}(h:kR R n xs c)(hd:R x d)(hl:d.length=n):kR R n (xs++[x]) (c++d):=by
 refine⟨by rw[List.length_append,h.1,hl,List.length_append,List.length_cons,List.length_nil,Nat.add_mul];omega,λi y hy=>?_⟩;by_cases hi:i<xs.length
 ·rw[List.getElem?_append_left hi]at hy;have:=h.2 i y hy;have hm:i*n+n<=xs.length*n:=by rw[<-Nat.succ_mul];exact Nat.mul_le_mul_right _ hi
  rw[List.drop_append_of_le_length (by rw[h.1];omega),List.take_append_of_le_length (by rw[List.length_drop,h.1];omega)];exact this
 ·rw[List.getElem?_append_right (by omega)]at hy;have h0:i-xs.length=0:=by
   by_cases h0:i-xs.length=0
   ·exact h0
   ·rw[List.getElem?_eq_none (by simp;omega)]at hy;cases hy
  obtain rfl:i=xs.length:=by omega
  rw[h0]at hy;simp only[List.getElem?_cons_zero,Option.some.injEq]at hy;subst hy;rw[<-h.1,List.drop_left,List.take_of_length_le (by omega)];exact hd
theorem kR.imp{α:Type}{R R':α->List Value->Prop}{xs:List α}{c:List Value}(h:kR R n xs c)(hi:∀x d,(∀v∈d,v∈c)->R x d->R' x d):kR R' n xs c:=
 ⟨h.1,λi x hx=>hi x _ (λv hv=>List.mem_of_mem_drop (List.mem_of_mem_take hv)) (h.2 i x hx)⟩
def ub(c:List Value):List Nat:=c.filterMap Value.ownBlock
theorem pX(a b:List Value):ub (a++b)=ub a++ub b:=List.filterMap_append
theorem gI{c:List Value}{k:Nat}(hv:v∈c)(hk:v.ownBlock=some k):k∈ub c:=List.mem_filterMap.2 ⟨v,hv,hk⟩
theorem dX{k:Nat}:k∈ub [v]↔v.ownBlock=some k:=by simp[ub]
structure Lay where
 vE:Value
 vB:Value
 vT:Value
 cE:List Value
 cB:List Value
def Lay.uses(M:Lay)(f:Nat):List Nat:=f::ub ([M.vE,M.vB,M.vT]++(M.cE++M.cB))
def PO(w:World)(B:Nat)(e:Ex)(c:List Value):Prop:=
 ∃va vk,c=[i64 e.k,str e.t,va,vk,i64 e.a]/\Own w B eX 1 va e.args.length (ints e.args)/\Own w B Ah 1 vk e.keys.length (strs e.keys)
def VS(w:World)(B:Nat)(b:Mu)(c:List Value):Prop:=
 ∃vl va vb,c=[str b.typ,vl,va,vb,i64 b.a]/\Own w B Ah 1 vl b.labels.length (strs b.labels)/\Own w B AtT 3 va b.attrs.length (Mp b.attrs)/\Own w B eX 1 vb b.blocks.length (ints b.blocks)
theorem fG{B:Nat}{e:TypeId}{m:Nat}{xs:List Value}(h:Own w B e m v n xs)(hc:aS S w w')(hS:∀k,v.ownBlock=some k->¬S k):Own w' B e m v n xs:=by
 obtain⟨hl,hn|⟨g,cap,bO,rfl,hb,hg,r⟩⟩:=h
 ·exact⟨hl,.inl hn⟩
 ·exact⟨hl,.inr ⟨g,cap,bO,rfl,hb,hc.at hg (hS g rfl),r⟩⟩
theorem mQ{B:Nat}{e:TypeId}{m:Nat}{xs:List Value}(h:Own w B e m v n xs){k:Nat}(hk:v.ownBlock=some k):k<w.heap.size/\B<=k:=by
 obtain⟨h1,c,h2⟩:=h.block k hk;exact⟨dA h2,h1⟩
theorem PO.at_{B:Nat}{e:Ex}{c:List Value}(h:PO w B e c)(hc:aS S w w')(hS:∀k∈ub c,¬S k):PO w' B e c:=by
 obtain⟨va,vk,rfl,h1,h2⟩:=h;exact⟨va,vk,rfl,fG h1 hc λk hk=>hS k (gI (v:=va) (by simp) hk),fG h2 hc λk hk=>hS k (gI (v:=vk) (by simp) hk)⟩
theorem VS.at_{B:Nat}{e:Mu}{c:List Value}(h:VS w B e c)(hc:aS S w w')(hS:∀k∈ub c,¬S k):VS w' B e c:=by
 obtain⟨vl,va,vb,rfl,h1,h2,h3⟩:=h;exact⟨vl,va,vb,rfl,fG h1 hc λk hk=>hS k (gI (v:=vl) (by simp) hk),fG h2 hc λk hk=>hS k (gI (v:=va) (by simp) hk),fG h3 hc λk hk=>hS k (gI (v:=vb) (by simp) hk)⟩
theorem ME{c d:List Value}(h:∀v∈d,v∈c):∀k∈ub d,k∈ub c:=by
 intro k hk;obtain⟨v,hv,hk⟩:=List.mem_filterMap.1 hk;exact gI (h v hv) hk
structure FR(w:World)(B f:Nat)(M:Lay)(ex:List Ex)(bl:List Mu)(top:List Nat):Prop where
 hf:w.heap[f]?=some (.cells [M.vE,M.vB,M.vT].toArray VP (0,0))
 oE:Own w B zJ 5 M.vE ex.length M.cE
 oB:Own w B WA 5 M.vB bl.length M.cB
 oT:Own w B eX 1 M.vT top.length (ints top)
 ee:kR (PO w B) 5 ex M.cE
 bb:kR (VS w B) 5 bl M.cB
 nd:(M.uses f).Nodup
 lt:∀k∈M.uses f,k<w.heap.size
 lo:∀k∈M.uses f,k=f\/B<=k
theorem FR.keep{B f:Nat}{M:Lay}{ex:List Ex}{bl:List Mu}{top:List Nat}(h:FR w B f M ex bl top)(hc:aS S w w')(hS:∀k∈M.uses f,¬S k):FR w' B f M ex bl top:=by
 have hu:∀v∈[M.vE,M.vB,M.vT]++(M.cE++M.cB),∀k,v.ownBlock=some k->¬S k:=λv hv k hk=>hS k (List.mem_cons_of_mem _ (gI hv hk));refine⟨hc.at h.hf (hS f List.mem_cons_self),fG h.oE hc (hu _ (by simp)),fG h.oB hc (hu _ (by simp)),fG h.oT hc (hu _ (by simp)),?_,?_,h.nd,λk hk=>Nat.lt_of_lt_of_le (h.lt k hk) hc.size,h.lo⟩
 ·refine h.ee.imp λx d hd hx=>hx.at_ hc λk hk=>?_;exact hS k (List.mem_cons_of_mem _ (ME (λv hv=>by simp[hd v hv]) k hk))
 ·refine h.bb.imp λx d hd hx=>hx.at_ hc λk hk=>?_;exact hS k (List.mem_cons_of_mem _ (ME (λv hv=>by simp[hd v hv]) k hk))
abbrev Of(f:Nat):Nat->Prop:=λk=>k=f
abbrev HZ(b:Nat):Nat->Prop:=λk=>k=b
structure PR(w0 w:World)(p f:Nat)(M:Lay)(vt:Value)(s:PS)(top:List Nat):Prop where
 ch:aS (Of f) w0 w
 fr:FR w w0.heap.size f M s.ex s.bl top
 ps:w.heap[p]?=some (.cells [vt,i64 (s.i:Nat),i64 s.off,.pointer (some ⟨f,0,none⟩),i64 (s.deep:Nat),.bool s.quiet].toArray PsT (0,0))
 tk:SlAt w qG vt s.toks.length (toks s.toks)
 np:p∉M.uses f
 lo:w0.heap.size<=p
 nt:∀k,vt.ownBlock=some k->k∉M.uses f/\k≠p/\k<w.heap.size
section
variable{w0 w w' w1 w2:World}{p f b k:Nat}{M M' M1 M2:Lay}{vt:Value}{s:PS}{top:List Nat}
theorem PR.lt(h:PR w0 w p f M vt s top):p<w.heap.size:=dA h.ps
theorem PR.base(h:PR w0 w p f M vt s top):w0.heap.size<=w.heap.size:=h.ch.size
def Tn(p f:Nat)(M:Lay)(k:Nat):Prop:=k=p\/k=f\/M.vE.ownBlock=some k\/M.vB.ownBlock=some k
structure Eff(p f:Nat)(M M':Lay)(w w':World):Prop where
 chg:aS (Tn p f M) w w'
 us:∀k∈M'.uses f,k∈M.uses f\/w.heap.size<=k
 hE:∀k,M'.vE.ownBlock=some k->M.vE.ownBlock=some k\/w.heap.size<=k
 hB:∀k,M'.vB.ownBlock=some k->M.vB.ownBlock=some k\/w.heap.size<=k
 hT:M'.vT=M.vT
theorem Eff.of(h:aS (Tn p f M) w w'):Eff p f M M w w':=⟨h,λ_ h=>.inl h,λ_ h=>.inl h,λ_ h=>.inl h,rfl⟩
theorem Eff.refl(p f:Nat)(M:Lay)(w:World):Eff p f M M w w:=Eff.of (aS.refl _ _)
theorem Eff.ext(h:bA w w'):Eff p f M M w w':=Eff.of (aS.of_ext h)
theorem Eff.trans(h:Eff p f M M1 w w1)(h':Eff p f M1 M2 w1 w2):Eff p f M M2 w w2:=by
 have hz:=h.chg.size;refine⟨h.chg.then h'.chg λk hk e=>?_,λk hk=>?_,λk hk=>?_,λk hk=>?_,h'.hT.trans h.hT⟩
 ·rcases e with e|e|e|e
  ·exact .inl e
  ·exact .inr (.inl e)
  ·exact .inr (.inr (.inl ((h.hE k e).resolve_right (by omega))))
  ·exact .inr (.inr (.inr ((h.hB k e).resolve_right (by omega))))
 ·exact(h'.us k hk).elim (h.us k) λe=>.inr (by omega)
 ·exact(h'.hE k hk).elim (h.hE k) λe=>.inr (by omega)
 ·exact(h'.hB k hk).elim (h.hB k) λe=>.inr (by omega)
theorem Eff.then(h:Eff p f M M1 w w1)(hc:aS S w1 w2)(hS:∀k,k<w.heap.size->¬S k):Eff p f M M1 w w2:=⟨h.chg.then hc λk hk e=>(hS k hk e).elim,h.us,h.hE,h.hB,h.hT⟩
theorem Eff.x(h:Eff p f M M1 w w1)(hc:bA w1 w2):Eff p f M M1 w w2:=h.then hc λ_ _ e=>e
theorem Eff.one(h:Eff p f M M1 w w1)(hc:aS (HZ b) w1 w2)(hb:w.heap.size<=b):Eff p f M M1 w w2:=h.then hc λk hk e=>by have e:k=b:=e;omega
theorem Eff.anew{q:Nat}(hx:bA w0 w)(h:Eff q f M M' w w')(hq:w0.heap.size<=q):Eff p f M M' w0 w':=by
 have hz:=hx.size;refine⟨(aS.of_ext hx).then h.chg λk hk e=>?_,λk hk=>(h.us k hk).imp id (by omega),λk hk=>(h.hE k hk).imp id (by omega),λk hk=>(h.hB k hk).imp id (by omega),h.hT⟩;rcases e with e|e|e|e
 ·omega
 ·exact .inr (.inl e)
 ·exact .inr (.inr (.inl e))
 ·exact .inr (.inr (.inr e))
theorem Ip(h:Tn p f M k):k=p\/k∈M.uses f:=by
 rcases h with h|h|h|h
 ·exact .inl h
 ·exact .inr (by subst h;exact List.mem_cons_self)
 ·exact .inr (List.mem_cons_of_mem _ (gI (v:=M.vE) (by simp) h))
 ·exact .inr (List.mem_cons_of_mem _ (gI (v:=M.vB) (by simp) h))
def Off(w0 w:World)(p f:Nat)(M:Lay)(vt:Value)(k:Nat):Prop:=(w0.heap.size<=k/\k<w.heap.size)/\k≠p/\k∉M.uses f/\vt.ownBlock≠some k
theorem Off.no(h:Off w0 w p f M vt k):¬Tn p f M k:=λe=>(Ip e).elim h.2.1 h.2.2.1
theorem Off.eff(h:Off w0 w p f M vt k)(he:Eff p f M M' w w'):Off w0 w' p f M' vt k:=
 ⟨⟨h.1.1,Nat.lt_of_lt_of_le h.1.2 he.chg.size⟩,h.2.1,λe=>(he.us k e).elim h.2.2.1 λe=>by have:=h.1.2;omega,h.2.2.2⟩
theorem Off.up(h:Off w0 w p f M vt k)(hz:w.heap.size<=w'.heap.size):Off w0 w' p f M vt k:=⟨⟨h.1.1,Nat.lt_of_lt_of_le h.1.2 hz⟩,h.2⟩
theorem PR.off_new(h:PR w0 w p f M vt s top)(hk:w.heap.size<=k)(hk':k<w'.heap.size):Off w0 w' p f M vt k:=
 ⟨⟨Nat.le_trans h.base hk,hk'⟩,λe=>by have:=h.lt;omega,λe=>by have:=h.fr.lt k e;omega,λe=>by have:=(h.nt k e).2.2;omega⟩
theorem Eff.at_{o:Obj}(he:Eff p f M M' w w')(hk:w.heap[k]?=some o)(h:Off w0 w p f M vt k):w'.heap[k]?=some o:=he.chg.at hk h.no
theorem Eff.own{B:Nat}{e:TypeId}{m:Nat}{xs:List Value}(he:Eff p f M M' w w')(h:Own w B e m v n xs)(ho:∀k,v.ownBlock=some k->Off w0 w p f M vt k):Own w' B e m v n xs:=fG h he.chg λk hk=>(ho k hk).no
theorem PR.keep(h:PR w0 w p f M vt s top)(hc:aS S w w')(hb:∀k,k<w0.heap.size->¬S k)(hS:∀k∈M.uses f,¬S k)(hp:¬S p)(ht:∀k,vt.ownBlock=some k->¬S k):PR w0 w' p f M vt s top:=by
 refine⟨h.ch.then hc λk hk e=>(hb k hk e).elim,h.fr.keep hc hS,hc.at h.ps hp,?_,h.np,h.lo,λk hk=>⟨(h.nt k hk).1,(h.nt k hk).2.1,Nat.lt_of_lt_of_le (h.nt k hk).2.2 hc.size⟩⟩;obtain⟨q,cap,hv,h1,h2,h3⟩:=h.tk;refine⟨q,cap,hv,h1,h2,λhne=>?_⟩;obtain⟨b,off,c,fr,hq,hb,hcs⟩:=h3 hne;exact⟨b,off,c,fr,hq,hc.at hb (ht b (by rw[hv,hq];rfl)),hcs⟩
theorem PR.ext(h:PR w0 w p f M vt s top)(hc:bA w w'):PR w0 w' p f M vt s top:=h.keep hc (λ_ _ e=>e) (λ_ _ e=>e) (λe=>e) λ_ _ e=>e
theorem bM(w:World):bA w w.drew:=aS.drew (aS.refl _ _)
theorem PR.drew(h:PR w0 w p f M vt s top):PR w0 w.drew p f M vt s top:=h.ext (bM w)
theorem PR.one{w3:World}(h:PR w0 w p f M vt s top)(hc:aS (HZ b) w w')(ho:Off w0 w3 p f M vt b):PR w0 w' p f M vt s top:=
 h.keep hc (λk hk e=>by have e:k=b:=e;have:=ho.1.1;omega) (λk hk e=>ho.2.2.1 (by have e:k=b:=e;exact e▸hk)) (λe=>ho.2.1 e.symm) λk hk e=>ho.2.2.2 (by have e:k=b:=e;rw[hk,e])
theorem PR.ld{off:Nat}{K:Value->Prop}(h:PR w0 w p f M vt s top)(hv:[vt,i64 (s.i:Nat),i64 s.off,.pointer (some ⟨f,0,none⟩),i64 (s.deep:Nat),.bool s.quiet][off]?=some v)(hk:K v):
  bW (.pointer (some ⟨p,0,none⟩)) λt=>aF off t λt=>aE false 1 t w K:=by
 rw[bX,aO,bY];refine⟨v,?_,hk⟩;rw[aV,aX,h.ps,aZ,Nat.zero_add];simpa using hv
theorem PR.self{s':PS}(h:PR w0 w p f M vt s top)(hc:aS (HZ p) w w')(hb:w'.heap[p]?=some (.cells [vt,i64 (s'.i:Nat),i64 s'.off,.pointer (some ⟨f,0,none⟩),i64 (s'.deep:Nat),.bool s'.quiet].toArray PsT (0,0)))
  (h1:s'.toks=s.toks)(h2:s'.ex=s.ex)(h3:s'.bl=s.bl):PR w0 w' p f M vt s' top:=by
 refine⟨h.ch.then hc λk hk e=>(by have e:k=p:=e;have:=h.lo;omega),by rw[h2,h3];exact h.fr.keep hc λk hk e=>h.np (by have e:k=p:=e;exact e▸hk),hb,?_,h.np,h.lo,λk hk=>⟨(h.nt k hk).1,(h.nt k hk).2.1,Nat.lt_of_lt_of_le (h.nt k hk).2.2 hc.size⟩⟩;rw[h1];obtain⟨q,cap,hv,g1,g2,g3⟩:=h.tk;refine⟨q,cap,hv,g1,g2,λhne=>?_⟩;obtain⟨b,off,c,fr,hq,hb,hcs⟩:=g3 hne;exact⟨b,off,c,fr,hq,hc.at hb ((h.nt b (by rw[hv,hq];rfl)).2.1),hcs⟩
theorem BN(hc:aS (HZ p) w w'):Eff p f M M w w':=Eff.of (hc.mono λk _ e=>.inl e)
theorem PR.st_i{K:World->Prop}(h:PR w0 w p f M vt s top)(hK:∀w',PR w0 w' p f M vt {s with i:=i} top->Eff p f M M w w'->w'.heap.size=w.heap.size->K w'):
  bW (.pointer (some ⟨p,0,none⟩)) λt=>aF 1 t λt=>bF 1 t (i64 (i:Nat)) w K:=by
 rw[bX,aO,aV,Nat.zero_add];refine eY h.ps rfl (by simp) λw' hz hb hc=>hK w' (h.self hc (by rw[hb];simp) rfl rfl rfl) (BN hc) hz
theorem PR.st_deep{K:World->Prop}(h:PR w0 w p f M vt s top)(hK:∀w',PR w0 w' p f M vt {s with deep:=i} top->Eff p f M M w w'->w'.heap.size=w.heap.size->K w'):
  bW (.pointer (some ⟨p,0,none⟩)) λt=>aF 4 t λt=>bF 1 t (i64 (i:Nat)) w K:=by
 rw[bX,aO,aV,Nat.zero_add];refine eY h.ps rfl (by simp) λw' hz hb hc=>hK w' (h.self hc (by rw[hb];simp) rfl rfl rfl) (BN hc) hz
theorem PR.st_quiet{q:Bool}{K:World->Prop}(h:PR w0 w p f M vt s top)(hK:∀w',PR w0 w' p f M vt {s with quiet:=q} top->Eff p f M M w w'->w'.heap.size=w.heap.size->K w'):
  bW (.pointer (some ⟨p,0,none⟩)) λt=>aF 5 t λt=>bF 1 t (.bool q) w K:=by
 rw[bX,aO,aV,Nat.zero_add];refine eY h.ps rfl (by simp) λw' hz hb hc=>hK w' (h.self hc (by rw[hb];simp) rfl rfl rfl) (BN hc) hz
theorem PR.go{K:World->Prop}(h:PR w0 w p f M vt s top)(hi:s.i<=1000000)(hK:∀w',PR w0 w' p f M vt (step1 s) top->Eff p f M M w w'->w'.heap.size=w.heap.size->K w'):
  bW (.pointer (some ⟨p,0,none⟩)) λt=>aF 1 t λt=>aE false 1 t w λt=>aC .add t (.int .i64 1) λt1=>bW (.pointer (some ⟨p,0,none⟩)) λt=>aF 1 t λt=>bF 1 t t1 w K:=by
 refine h.ld rfl ?_;rw[aW,bD (by omega) (by omega)];exact h.st_i (i:=s.i+1) hK
def Loc(w0 w:World)(p f:Nat)(M:Lay)(vt:Value)(b:Nat)(T:TypeId)(cs:List Value):Prop:=w.heap[b]?=some (.cells cs.toArray T (0,0))/\Off w0 w p f M vt b
variable{T:TypeId}{cs:List Value}
theorem Loc.eff(h:Loc w0 w p f M vt b T cs)(he:Eff p f M M' w w'):Loc w0 w' p f M' vt b T cs:=⟨he.at_ h.1 h.2,h.2.eff he⟩
theorem Loc.ext(h:Loc w0 w p f M vt b T cs)(hx:bA w w'):Loc w0 w' p f M vt b T cs:=h.eff (Eff.ext hx)
theorem Loc.drew(h:Loc w0 w p f M vt b T cs):Loc w0 w.drew p f M vt b T cs:=h.ext (bM w)
theorem Loc.one{b':Nat}(h:Loc w0 w p f M vt b T cs)(hc:aS (HZ b') w w')(hb:b≠b'):Loc w0 w' p f M vt b T cs:=⟨hc.at h.1 hb,h.2.up hc.size⟩
theorem Loc.lt(h:Loc w0 w p f M vt b T cs):b<w.heap.size:=h.2.1.2
theorem Loc.ld{off:Nat}{K:Value->Prop}(h:Loc w0 w p f M vt b T cs)(hv:cs[off]?=some v)(hk:K v):aE false 1 (.pointer (some ⟨b,off,none⟩)) w K:=by
 rw[bY];refine⟨v,?_,hk⟩;rw[aX,h.1,aZ];simpa using hv
theorem Loc.ldf{off:Nat}{K:Value->Prop}(h:Loc w0 w p f M vt b T cs)(hv:cs[off]?=some v)(hk:K v):aF off (.pointer (some ⟨b,0,none⟩)) λt=>aE false 1 t w K:=by
 rw[aO,aV,Nat.zero_add];exact h.ld hv hk
theorem Loc.st{off:Nat}{K:World->Prop}(h:Loc w0 w p f M vt b T cs)(h1:cY v=true)(hoff:off<cs.length)
  (hK:∀w',Loc w0 w' p f M vt b T (cs.set off v)->aS (HZ b) w w'->w'.heap.size=w.heap.size->K w'):bF 1 (.pointer (some ⟨b,off,none⟩)) v w K:=
 eY h.1 h1 (by simpa using hoff) λw' hz hb hc=>hK w' ⟨by rw[hb];simp,h.2.up (by omega)⟩ hc hz
theorem PR.loc(h:PR w0 w p f M vt s top)(hz:w'.heap.size=w.heap.size+1){b:Nat}(hb:b=w.heap.size)(hc:w'.heap[b]?=some (.cells cs.toArray T (0,0))):Loc w0 w' p f M vt b T cs:=⟨hc,h.off_new (by omega) (by omega)⟩
end
end
end Go.Proofs.YtghhmpppnmoeoaaGreatDoor
namespace Go.Syn
section
open Go Go.Eng Go.Lex
variable{w:World}{K:Q0}{cs:List Value}{G:Nat->Prop}{T:TypeId}{i:Nat}{n:Nat}{v:Value}{w':World}{P:Program}{c:UInt8}{S:Nat->Prop}
theorem gG{s:aH}(k:Nat)(h:s.length<=n):(s.drop k).length<=n:=by rw[List.length_drop];omega
theorem Kr:∀(N:Nat) (r:aH),r.length<=N->(∀m m' c,r.length<m->r.length<m'->xR m r c=xR m' r c)/\(∀m m',r.length<m->r.length<m'->wZ m r=wZ m' r):=by
 intro N;induction N with
 |zero=>
  intro r hr;have:r=[]:=List.eq_nil_of_length_eq_zero (by omega);subst this;refine⟨λm m' c h h'=>?_,λm m' h h'=>?_⟩
  ·obtain⟨m,rfl⟩:∃k,m=k+1:=⟨m-1,by simp at h;omega⟩;obtain⟨m',rfl⟩:∃k,m'=k+1:=⟨m'-1,by simp at h';omega⟩;rfl
  ·obtain⟨m,rfl⟩:∃k,m=k+1:=⟨m-1,by simp at h;omega⟩;obtain⟨m',rfl⟩:∃k,m'=k+1:=⟨m'-1,by simp at h';omega⟩;rfl
 |succ N ih=>
  intro r hr;cases r with
  |nil=>exact⟨λm m' c h h'=>(ih [] (by simp)).1 m m' c h h',λm m' h h'=>(ih [] (by simp)).2 m m' h h'⟩
  |cons c r=>
   simp only[List.length_cons]at hr;have hr:r.length<=N:=by omega
   refine⟨λm m' d h h'=>?_,λm m' h h'=>?_⟩
   ·obtain⟨m,rfl⟩:∃k,m=k+1:=⟨m-1,by simp at h;omega⟩;obtain⟨m',rfl⟩:∃k,m'=k+1:=⟨m'-1,by simp at h';omega⟩;simp only[List.length_cons]at h h';have hb:=λd=>(ih r hr).1 m m' d (by omega) (by omega);have hq:=(ih r hr).2 m m' (by omega) (by omega);have hd:=λk d=>(ih (r.drop k) (gG k hr)).1 m m' d (by rw[List.length_drop];omega) (by rw[List.length_drop];omega);simp only[xR,hb,hq,hd]
   ·obtain⟨m,rfl⟩:∃k,m=k+1:=⟨m-1,by simp at h;omega⟩;obtain⟨m',rfl⟩:∃k,m'=k+1:=⟨m'-1,by simp at h';omega⟩;simp only[List.length_cons]at h h';have hb:=λd=>(ih r hr).1 m m' d (by omega) (by omega);have hq:=(ih r hr).2 m m' (by omega) (by omega);have hd:=λk=>(ih (r.drop k) (gG k hr)).2 m m' (by rw[List.length_drop];omega) (by rw[List.length_drop];omega);cases r with
    |nil=>simp only[wZ,hb,hq,hd]
    |cons e r'=>
     have h2:=(ih r' (by simp at hr;omega)).2 m m' (by simp at h;omega) (by simp at h';omega);simp only[wZ,hb,hd,hq,h2]
def lZ(r:aH)(c:Int):Nat:=xR (r.length+1) r c
def oA(r:aH):Nat:=wZ (r.length+1) r
theorem BV{m:Nat}{r:aH}{c:Int}(h:r.length<m):xR m r c=lZ r c:=(Kr r.length r (Nat.le_refl _)).1 _ _ _ h (Nat.lt_succ_self _)
theorem Es{m:Nat}{r:aH}(h:r.length<m):wZ m r=oA r:=(Kr r.length r (Nat.le_refl _)).2 _ _ h (Nat.lt_succ_self _)
theorem sG{r:aH}(k:Nat){m:Nat}(h:r.length<m):(r.drop k).length<m:=by rw[List.length_drop];omega
theorem Pr(c:Int):lZ [] c=0:=rfl
theorem kQ(c:UInt8)(r:aH)(d:Int):lZ (c::r) d=if c=123 then 1+lZ r (d+1)else if c=125 then(if d-1=0 then 1 else 1+lZ r (d-1))else if c=34 then(1+oA r)+lZ (r.drop (oA r)) d else 1+lZ r d:=by
 have h:r.length<(c::r).length:=by simp
 show xR ((c::r).length+1) (c::r) d=_;rw[xR,Es h];rw[BV h,BV h,BV h,BV (sG _ h)]
theorem Nt:oA []=0:=rfl
theorem yG(c:UInt8)(r:aH):oA (c::r)=if c=34 then 1 else if c=92 then(match r with|[]=>1|_::r'=>2+oA r')else if lI [36,123] (c::r)=true then(1+lZ r 0)+oA (r.drop (lZ r 0))else 1+oA r:=by
 cases r with
 |nil=>rfl
 |cons e r'=>
  have h:(e::r').length<(c::e::r').length:=by simp
  have h2:r'.length<(c::e::r').length:=by simp;omega
  have hd:∀k,wZ (c::e::r').length ((e::r').drop k)=oA ((e::r').drop k):=λk=>Es (sG k h);show wZ ((c::e::r').length+1) (c::e::r')=_;rw[wZ.eq_def];simp only[Es h,BV h,Es h2,hd]
theorem Kq:∀(N:Nat) (r:aH),r.length<=N->(∀m m' d,r.length<m->r.length<m'->kK m r d=kK m' r d)/\(∀m m' d,r.length<m->r.length<m'->xJ m r d=xJ m' r d):=by
 intro N;induction N with
 |zero=>
  intro r hr;have:r=[]:=List.eq_nil_of_length_eq_zero (by omega);subst this;refine⟨λm m' d h h'=>?_,λm m' d h h'=>?_⟩
  ·obtain⟨m,rfl⟩:∃k,m=k+1:=⟨m-1,by simp at h;omega⟩;obtain⟨m',rfl⟩:∃k,m'=k+1:=⟨m'-1,by simp at h';omega⟩;rfl
  ·obtain⟨m,rfl⟩:∃k,m=k+1:=⟨m-1,by simp at h;omega⟩;obtain⟨m',rfl⟩:∃k,m'=k+1:=⟨m'-1,by simp at h';omega⟩;rfl
 |succ N ih=>
  intro r hr;cases r with
  |nil=>exact⟨λm m' d h h'=>(ih [] (by simp)).1 m m' d h h',λm m' d h h'=>(ih [] (by simp)).2 m m' d h h'⟩
  |cons c r=>
   simp only[List.length_cons]at hr;have hr:r.length<=N:=by omega
   refine⟨λm m' d h h'=>?_,λm m' d h h'=>?_⟩
   ·obtain⟨m,rfl⟩:∃k,m=k+1:=⟨m-1,by simp at h;omega⟩;obtain⟨m',rfl⟩:∃k,m'=k+1:=⟨m'-1,by simp at h';omega⟩;simp only[List.length_cons]at h h';have ht:=λd=>(ih r hr).1 m m' d (by omega) (by omega);have hi:=λk d=>(ih (r.drop k) (gG k hr)).2 m m' d (by rw[List.length_drop];omega) (by rw[List.length_drop];omega);have hd:=λk j d=>(ih ((r.drop k).drop j) (gG j (gG k hr))).1 m m' d (by rw[List.length_drop,List.length_drop];omega) (by rw[List.length_drop,List.length_drop];omega);cases r with
    |nil=>simp only[kK,ht,hi,hd]
    |cons e r'=>
     have h2:=λd=>(ih r' (by simp at hr;omega)).1 m m' d (by simp at h;omega) (by simp at h';omega);simp only[kK,ht,hi,hd,h2]
   ·obtain⟨m,rfl⟩:∃k,m=k+1:=⟨m-1,by simp at h;omega⟩;obtain⟨m',rfl⟩:∃k,m'=k+1:=⟨m'-1,by simp at h';omega⟩;simp only[List.length_cons]at h h';have ht:=λd=>(ih r hr).1 m m' d (by omega) (by omega);have hi:=λd=>(ih r hr).2 m m' d (by omega) (by omega);have hd:=λk d=>(ih (r.drop k) (gG k hr)).2 m m' d (by rw[List.length_drop];omega) (by rw[List.length_drop];omega);simp only[xJ,ht,hi,hd]
def dO(r:aH)(d:Nat):Nat×Int:=kK (r.length+1) r d
def fV(r:aH)(d:Nat):Nat×Int:=xJ (r.length+1) r d
theorem oZ{m:Nat}{r:aH}{d:Nat}(h:r.length<m):kK m r d=dO r d:=(Kq r.length r (Nat.le_refl _)).1 _ _ _ h (Nat.lt_succ_self _)
theorem Ja{m:Nat}{r:aH}{d:Nat}(h:r.length<m):xJ m r d=fV r d:=(Kq r.length r (Nat.le_refl _)).2 _ _ _ h (Nat.lt_succ_self _)
theorem lM(d:Nat):dO [] d=(0,40):=rfl
theorem Bv(d:Nat):fV [] d=(0,40):=rfl
theorem lN(c:UInt8)(r:aH)(d:Nat):dO (c::r) d=if c==34 then(1,0)else if c==10 then(0,40)else if c==92 then(match r with|[]=>(0,40)|e::r'=>if Lex.escOk e then jC 2 (dO r' d)else(0,40))
  else if lI [36,123] (c::r)then(if 24<d+1 then(0,7)else if(fV (r.drop 1) (d+1)).2=0 then jC ((fV (r.drop 1) (d+1)).1+2) (dO ((r.drop 1).drop (fV (r.drop 1) (d+1)).1) d)else(0,(fV (r.drop 1) (d+1)).2))else jC 1 (dO r d):=by
 cases r with
 |nil=>rfl
 |cons e r'=>
  have h:(e::r').length<(c::e::r').length:=by simp
  have h2:r'.length<(c::e::r').length:=by simp;omega
  have hi:∀k d,xJ (c::e::r').length ((e::r').drop k) d=fV ((e::r').drop k) d:=λk d=>Ja (sG k h);have hd:∀k j d,kK (c::e::r').length (((e::r').drop k).drop j) d=dO (((e::r').drop k).drop j) d:=λk j d=>oZ (sG j (sG k h));show kK ((c::e::r').length+1) (c::e::r') d=_;rw[kK.eq_def];simp only[oZ h,oZ h2,hi,hd]
theorem yR(c:UInt8)(r:aH)(d:Nat):fV (c::r) d=if c==125 then(1,0)else if c==10 then(0,40)else if c==123 then(if 24<d+1 then(0,7)else if(fV r (d+1)).2=0 then jC ((fV r (d+1)).1+1) (fV (r.drop (fV r (d+1)).1) d)else(0,(fV r (d+1)).2))
  else if c==34 then(if(dO r d).2=0 then jC ((dO r d).1+1) (fV (r.drop (dO r d).1) d)else(0,(dO r d).2))else jC 1 (fV r d):=by
 have h:r.length<(c::r).length:=by simp
 have hd:∀k d,xJ (c::r).length (r.drop k) d=fV (r.drop k) d:=λk d=>Ja (sG k h);show xJ ((c::r).length+1) (c::r) d=_;rw[xJ.eq_def];simp only[Ja h,oZ h,hd]
theorem iJ{k:Nat}{r:Nat×Int}(h:jC k r=(n,0)):r=(n-k,0)/\k<=n:=by
 obtain⟨a,b⟩:=r;unfold jC at h;split at h
 ·rename_i e;simp only at e;subst e;injection h with h1 _
  subst h1;exact⟨by simp,by omega⟩
 ·rename_i e;injection h with _ h2
  exact absurd h2 e
theorem fE:∀(N:Nat) (r:aH),r.length<=N->
  (∀d k,dO r d=(k,0)->oA r=k/\1<=k/\k<=r.length)/\
  (∀d k,fV r d=(k,0)->(1<=k/\k<=r.length)/\∀c:Int,1<=c->lZ r c=if c=1 then k else k+lZ (r.drop k) (c-1)):=by
 intro N;induction N with
 |zero=>
  intro r hr;have:r=[]:=List.eq_nil_of_length_eq_zero (by omega);subst this;refine⟨λd k h=>?_,λd k h=>?_⟩
  ·rw[lM]at h;cases h
  ·rw[Bv]at h;cases h
 |succ N ih=>
  intro r hr;cases r with
  |nil=>exact ih [] (by simp)
  |cons c r=>
   simp only[List.length_cons]at hr;have hr:r.length<=N:=by omega
   refine⟨λd k h=>?_,λd k h=>?_⟩
   ·rw[lN]at h;rw[yG];simp only[beq_iff_eq]at h;split at h
    ·rename_i e;rw[if_pos e];injection h with h1 _
     subst h1;simp
    rename_i e;rw[if_neg e];split at h
    ·cases h
    split at h
    ·rename_i e2;rw[if_pos e2];cases r with
     |nil=>cases h
     |cons x r'=>
      simp only at h⊢;split at h
      ·obtain⟨h1,h2⟩:=iJ h;obtain⟨q1,q2,q3⟩:=(ih r' (by simp at hr;omega)).1 d _ h1;simp only[List.length_cons];omega
      ·cases h
    rename_i e2;rw[if_neg e2];split at h
    ·rename_i e3;rw[if_pos e3];split at h
     ·cases h
     split at h
     ·rename_i e4;obtain⟨h1,h2⟩:=iJ h;cases r with
      |nil=>simp[lI]at e3
      |cons x r'=>
       have hx:x=123:=by
        simp[lI]at e3;exact e3.2.symm
       subst hx;simp only[List.drop_succ_cons,List.drop_zero]at h1 h2 e4;have hr':r'.length<=N:=by simp at hr;omega
       obtain⟨⟨b1,b2⟩,b3⟩:=(ih r' hr').2 (d+1) (fV r' (d+1)).1 (Prod.ext rfl e4);have hb:=b3 1 (by omega);rw[if_pos rfl]at hb;have hbx:lZ (123::r') 0=1+(fV r' (d+1)).1:=by
        rw[kQ,if_pos rfl];show 1+lZ r' (0+1)=_;rw[show(0:Int)+1=1 from rfl,hb]
       rw[hbx];have hdr:(123::r').drop (1+(fV r' (d+1)).1)=r'.drop (fV r' (d+1)).1:=by rw[Nat.add_comm];rfl
       rw[hdr];obtain⟨q1,q2,q3⟩:=(ih (r'.drop (fV r' (d+1)).1) (gG _ hr')).1 d _ h1;rw[List.length_drop]at q3;simp only[List.length_cons];omega
     ·rename_i e4;injection h with _ h2
      exact absurd h2 e4
    ·rename_i e3;rw[if_neg e3];obtain⟨h1,h2⟩:=iJ h;obtain⟨q1,q2,q3⟩:=(ih r hr).1 d _ h1;simp only[List.length_cons];omega
   ·rw[yR]at h;simp only[beq_iff_eq]at h;split at h
    ·rename_i e;injection h with h1 _
     subst h1;refine⟨by simp,λcc hc=>?_⟩;rw[kQ,if_neg (by rw[e];decide),if_pos e];by_cases h1:cc=1
     ·subst h1;simp
     ·rw[if_neg (by omega),if_neg h1];rfl
    rename_i e;split at h
    ·cases h
    rename_i e10;split at h
    ·rename_i e2;split at h
     ·cases h
     split at h
     ·rename_i e4;obtain⟨h1,h2⟩:=iJ h;obtain⟨⟨b1,b2⟩,b3⟩:=(ih r hr).2 (d+1) (fV r (d+1)).1 (Prod.ext rfl e4);obtain⟨⟨f1,f2⟩,f3⟩:=(ih (r.drop (fV r (d+1)).1) (gG _ hr)).2 d _ h1;rw[List.length_drop]at f2;refine⟨by simp only[List.length_cons];omega,λcc hc=>?_⟩;rw[kQ,if_pos e2,b3 (cc+1) (by omega),if_neg (by omega),show cc+1-1=cc from by omega,f3 cc hc];by_cases h1':cc=1
      ·rw[if_pos h1',if_pos h1'];omega
      ·rw[if_neg h1',if_neg h1',List.drop_drop];have:(c::r).drop k=r.drop (k-1):=by
        obtain⟨j,rfl⟩:∃j,k=j+1:=⟨k-1,by omega⟩;rfl
       rw[this,show(fV r (d+1)).1+(k-((fV r (d+1)).1+1))=k-1 from by omega];omega
     ·rename_i e4;injection h with _ h2
      exact absurd h2 e4
    rename_i e2;split at h
    ·rename_i e3;split at h
     ·rename_i e4;obtain⟨h1,h2⟩:=iJ h;obtain⟨q1,q2,q3⟩:=(ih r hr).1 d (dO r d).1 (Prod.ext rfl e4);obtain⟨⟨f1,f2⟩,f3⟩:=(ih (r.drop (dO r d).1) (gG _ hr)).2 d _ h1;rw[List.length_drop]at f2;refine⟨by simp only[List.length_cons];omega,λcc hc=>?_⟩;rw[kQ,if_neg e2,if_neg e,if_pos e3,q1,f3 cc hc];by_cases h1':cc=1
      ·rw[if_pos h1',if_pos h1'];omega
      ·rw[if_neg h1',if_neg h1',List.drop_drop];have:(c::r).drop k=r.drop (k-1):=by
        obtain⟨j,rfl⟩:∃j,k=j+1:=⟨k-1,by omega⟩;rfl
       rw[this,show(dO r d).1+(k-((dO r d).1+1))=k-1 from by omega];omega
     ·rename_i e4;injection h with _ h2
      exact absurd h2 e4
    ·rename_i e3;obtain⟨h1,h2⟩:=iJ h;obtain⟨⟨f1,f2⟩,f3⟩:=(ih r hr).2 d _ h1;refine⟨by simp only[List.length_cons];omega,λcc hc=>?_⟩;rw[kQ,if_neg e2,if_neg e,if_neg e3,f3 cc hc];by_cases h1':cc=1
     ·rw[if_pos h1',if_pos h1'];omega
     ·rw[if_neg h1',if_neg h1'];have:(c::r).drop k=r.drop (k-1):=by
       obtain⟨j,rfl⟩:∃j,k=j+1:=⟨k-1,by omega⟩;rfl
      rw[this];omega
structure bH(L:List (List Nat))(roots:List Nat):Prop where
 ahead:∀(i:Nat) (us:List Nat),L[i]?=some us->∀a∈us,a<i
 once:∀j,j<L.length->L.flatten.count j+roots.count j=1
 low:∀r∈roots,r<L.length
theorem bH.perm{L:List (List Nat)}{r r':List Nat}(h:bH L r)(hp:r.Perm r'):bH L r':=
 ⟨h.ahead,λj hj=>by rw[<-hp.count_eq];exact h.once j hj,λx hx=>h.low x (hp.mem_iff.2 hx)⟩
theorem bH.flat_lt{L:List (List Nat)}{r:List Nat}(h:bH L r):∀x∈L.flatten,x<L.length:=by
 intro x hx;obtain⟨us,has,hxa⟩:=List.mem_flatten.1 hx;obtain⟨i,hi⟩:=List.getElem?_of_mem has;have h1:=h.ahead i us hi x hxa;have h2:=(List.getElem?_eq_some_iff.1 hi).1;omega
theorem bH.put{L:List (List Nat)}{us roots:List Nat}(h:bH L (us++roots)):bH (L++[us]) (L.length::roots):=by
 refine⟨λi bs hi=>?_,λj hj=>?_,λr hr=>?_⟩
 ·by_cases hl:i<L.length
  ·rw[List.getElem?_append_left hl]at hi;exact h.ahead i bs hi
  ·rw[List.getElem?_append_right (by omega)]at hi;have:i-L.length=0:=by
    by_cases h0:i-L.length=0
    ·exact h0
    ·rw[List.getElem?_eq_none (by simp;omega)]at hi;cases hi
   rw[this]at hi;simp only[List.getElem?_cons_zero,Option.some.injEq]at hi;subst hi;intro a ha;have:=h.low a (List.mem_append_left _ ha);omega
 ·rw[List.flatten_append,List.count_append];simp only[List.flatten_cons,List.flatten_nil,List.append_nil,List.count_cons];by_cases hl:j<L.length
  ·have h1:=h.once j hl;rw[List.count_append]at h1;have:(L.length==j)=false:=by simp;omega
   rw[this];simp only[Bool.false_eq_true,if_false];omega
  ·have hj2:j=L.length:=by rw[List.length_append,List.length_cons,List.length_nil]at hj;omega
   subst hj2;have e1:L.flatten.count L.length=0:=List.count_eq_zero.2 λhm=>by have:=h.flat_lt _ hm;omega
   have e2:us.count L.length=0:=List.count_eq_zero.2 λhm=>by have:=h.low _ (List.mem_append_left _ hm);omega
   have e3:roots.count L.length=0:=List.count_eq_zero.2 λhm=>by have:=h.low _ (List.mem_append_right _ hm);omega
   rw[e1,e2,e3];simp
 ·rw[List.length_append,List.length_cons,List.length_nil];rcases List.mem_cons.1 hr with rfl|hr
  ·omega
  ·have:=h.low r (List.mem_append_right _ hr);omega
abbrev jO(ex:List Ex):List (List Nat):=ex.map (·.args)
theorem BH{ex:List Ex}{e:Ex}{roots:List Nat}(h:bH (jO ex) (e.args++roots)):bH (jO (ex++[e])) (ex.length::roots):=by
 have:=h.put;rw[List.length_map]at this;simpa[jO]using this
def iC{α:Type}(r:R α)(P:α->PS->Prop)(Q:Int->Prop):Prop:=match r with
 |.ok x s=>P x s
 |.err _ a=>Q a
theorem iC.bind{α β:Type}{r:R α}{f:α->PS->R β}{P:α->PS->Prop}{P':β->PS->Prop}{Q:Int->Prop}(h:iC r P Q)(hf:∀x s,P x s->iC (f x s) P' Q):iC (r.bind f) P' Q:=by
 cases r with
 |ok x s=>exact hf x s h
 |err c a=>exact h
theorem iC.mono{α:Type}{r:R α}{P P':α->PS->Prop}{Q:Int->Prop}(h:iC r P Q)(hp:∀x s,P x s->P' x s):iC r P' Q:=by
 cases r with
 |ok x s=>exact hp x s h
 |err c a=>exact h
def FE(N a:Int)(t:aH):Prop:=insP t=none\/a+t.length+2<=N
structure TG(N off:Int)(l:List Tok):Prop where
 ne:l≠[]
 pos:∀i t,l[i]?=some t->0<=t.a+off/\t.a+off<=N/\(t.k≠0->t.a+off<N)/\(t.k=3->FE N (t.a+off) t.t)/\(t.k=1->t.t≠[])/\(i+1=l.length->t.k=0)
structure WS(N:Int)(s:PS):Prop where
 tg:TG N s.off s.toks
 lt:s.i<s.toks.length
 pN:0<=N
structure qH(N:Int)(s s':PS):Prop where
 toks:s'.toks=s.toks
 off:s'.off=s.off
 deep:s'.deep=s.deep
 quiet:s'.quiet=s.quiet
 le:s.i<=s'.i
 lt:s'.i<s'.toks.length
 exs:∀e∈s'.ex,e∈s.ex\/(0<=e.a/\e.a<N)
theorem qH.trans{N:Int}{s s1 s2:PS}(h:qH N s s1)(h':qH N s1 s2):qH N s s2:=
 ⟨h'.toks.trans h.toks,h'.off.trans h.off,h'.deep.trans h.deep,h'.quiet.trans h.quiet,Nat.le_trans h.le h'.le,h'.lt,λe he=>(h'.exs e he).elim (h.exs e) .inr⟩
theorem qH.refl{N:Int}{s:PS}(h:WS N s):qH N s s:=⟨rfl,rfl,rfl,rfl,Nat.le_refl _,h.lt,λ_ he=>.inl he⟩
theorem qH.ws{N:Int}{s s':PS}(h:qH N s s')(hs:WS N s):WS N s':=⟨by rw[h.toks,h.off];exact hs.tg,h.lt,hs.pN⟩
theorem sX{N:Int}{s:PS}(h:WS N s)(d:Nat)(q:Bool):WS N {s with deep:=d,quiet:=q}:=⟨h.tg,h.lt,h.pN⟩
theorem Bj:∀{l:List Tok},l≠[]->(∀t,l.getLast?=some t->t.k≠5)->eC l<l.length
 |[],h,_=>absurd rfl h
 |[t],_,h=>by
  have:=h t rfl
  simp[eC,this]
 |t::u::r,_,h=>by
  have ih:=Bj (l:=u::r) (by simp) (λx hx=>h x (by simpa using hx))
  simp only[eC,List.length_cons]at ih⊢
  split<;>omega
theorem TG.last{N off:Int}{l:List Tok}(h:TG N off l)(hi:i<l.length):eC (l.drop i)<l.length-i:=by
 have hne:l.drop i≠[]:=λe=>by have:=congrArg List.length e;rw[List.length_drop,List.length_nil]at this;omega
 have:=Bj hne λt ht=>by
  rw[List.getLast?_drop]at ht;rw[if_neg (by omega)]at ht;rw[List.getLast?_eq_getElem?]at ht;have:=(h.pos _ t ht).2.2.2.2.2 (by omega);omega
 rw[List.length_drop]at this;exact this
theorem dN{N:Int}{s:PS}(h:WS N s):qH N s (aG s):=by
 unfold aG;split
 ·have:=h.tg.last h.lt;exact⟨rfl,rfl,rfl,rfl,Nat.le_add_right _ _,(by show s.i+_<s.toks.length;have:=h.lt;omega),λ_ he=>.inl he⟩
 ·exact qH.refl h
theorem tA{N:Int}{s:PS}(h:WS N s):s.toks[s.i]?=some (iH s):=by
 unfold iH;rw[List.getD_eq_getElem?_getD,List.getElem?_eq_getElem h.lt];rfl
theorem fT{N:Int}{s:PS}(h:WS N s):0<=(bO s).a/\(bO s).a<=N/\((bO s).k≠0->(bO s).a<N)/\((bO s).k=3->FE N (bO s).a (bO s).t)/\((bO s).k=1->(bO s).t≠[]):=by
 have hg:=dN h;have hn:=hg.ws h;have h1:=hn.tg.pos _ _ (tA hn);rw[hg.off]at h1;exact⟨h1.1,h1.2.1,h1.2.2.1,h1.2.2.2.1,h1.2.2.2.2.1⟩
theorem fJ{N:Int}{s:PS}(h:WS N s)(hk:(bO s).k≠0):qH N s (step1 (aG s))/\s.i<(step1 (aG s)).i:=by
 have hg:=dN h;have hn:=hg.ws h;have h1:=(hn.tg.pos _ _ (tA hn)).2.2.2.2.2;have hlt:(aG s).i+1<(aG s).toks.length:=by
  have:=hn.lt;by_cases he:(aG s).i+1=(aG s).toks.length
  ·exact absurd (h1 he) hk
  ·omega
 exact⟨⟨hg.toks,hg.off,hg.deep,hg.quiet,Nat.le_trans hg.le (Nat.le_succ _),hlt,hg.exs⟩,Nat.lt_succ_of_le hg.le⟩
theorem SD(s:PS)(h:∀k,s.quiet=true->k=eC (s.toks.drop s.i)->eC (s.toks.drop (s.i+k))=0):aG (aG s)=aG s:=by
 unfold aG;split
 ·rename_i hq;have:=h _ hq rfl;simp only[hq,if_true,this,Nat.add_zero]
 ·rfl
theorem xF:∀(l:List Tok),eC (l.drop (eC l))=0
 |[]=>rfl
 |t::r=>by
  simp only[eC]
  split
  ·exact xF r
  ·rename_i h
   simp[eC,h]
theorem dV(s:PS):aG (aG s)=aG s:=SD s λk _ hk=>by rw[<-List.drop_drop,hk];exact xF _
theorem gH(s:PS):bO (aG s)=bO s:=by
 unfold bO;rw[dV];have:(aG s).off=s.off:=by unfold aG;split<;>rfl
 rw[this]
abbrev Later(N:Int)(s:PS)(s':PS):Prop:=qH N s s'/\s.i<s'.i
abbrev wM(N:Int)(a:Int):Prop:=0<=a/\a<=N
theorem iK{s:PS}{w:aH}(h:kS s w=true):(bO s).k≠0:=by
 unfold kS at h;simp only[Bool.and_eq_true,decide_eq_true_eq]at h;rw[h.1];decide
theorem fI{N:Int}{s:PS}(h:WS N s)(w:aH):qH N s (aR s w).2/\((aR s w).1=true->s.i<(aR s w).2.i)/\(aR s w).2.ex=s.ex/\(aR s w).2.bl=s.bl:=by
 have e1:(aG s).ex=s.ex:=by unfold aG;split<;>rfl
 have e2:(aG s).bl=s.bl:=by unfold aG;split<;>rfl
 unfold aR;split
 ·rename_i hi;have:=fJ h (iK hi);exact⟨this.1,λ_=>this.2,e1,e2⟩
 ·exact⟨dN h,(λe=>by cases e),e1,e2⟩
theorem eF(s:PS):(aG s).ex=s.ex/\(aG s).bl=s.bl:=by unfold aG;split<;>exact⟨rfl,rfl⟩
theorem fW{N:Int}{s:PS}(h:WS N s)(w:aH):iC (kJ s w) (λ_ s'=>Later N s s'/\s'.ex=s.ex/\s'.bl=s.bl) (wM N):=by
 unfold kJ;split
 ·rename_i hi;exact⟨fJ h (iK hi),eF s⟩
 ·have:=fT h;exact⟨this.1,this.2.1⟩
theorem nD{N:Int}{s:PS}(h:WS N s):qH N s (eZ s)/\((bO s).k≠0->s.i<(eZ s).i)/\(eZ s).ex=s.ex/\(eZ s).bl=s.bl:=by
 unfold eZ;split
 ·rename_i hk;have:=fJ h hk;exact⟨this.1,λ_=>this.2,eF s⟩
 ·rename_i hk;exact⟨dN h,λe=>absurd e hk,eF s⟩
theorem gZ{N:Int}{s:PS}(h:WS N s)(k:Int)(hk0:k≠0):iC (iA s k) (λt s'=>Later N s s'/\s'.ex=s.ex/\s'.bl=s.bl/\t=bO s/\t.k=k) (wM N):=by
 unfold iA;split
 ·rename_i hk;have:=nD h;exact⟨⟨this.1,this.2.1 (by omega)⟩,this.2.2.1,this.2.2.2,rfl,hk⟩
 ·have:=fT h;exact⟨this.1,this.2.1⟩
theorem iU{N:Int}{s:PS}(h:WS N s):qH N s (dQ s)/\(dQ s).ex=s.ex/\(dQ s).bl=s.bl:=by
 have hg:=dN h;have hn:=hg.ws h;have h1:=hn.tg.last hn.lt;rw[hg.toks]at h1;have h2:=hn.lt;rw[hg.toks]at h2;refine⟨⟨hg.toks,hg.off,hg.deep,hg.quiet,?_,?_,hg.exs⟩,eF s⟩
 ·have:=hg.le;show s.i<=(aG s).i+_;omega
 ·show(aG s).i+_<(aG s).toks.length;rw[hg.toks];omega
def xW(N:Int)(F:PS->R Nat):Prop:=∀s,WS N s->iC (F s) (λx s'=>Later N s s'/\s'.bl=s.bl/\∀roots,bH (jO s.ex) roots->bH (jO s'.ex) (x::roots)) (wM N)
theorem xA{N:Int}{s:PS}(h:WS N s){e:Ex}(ha:0<=e.a/\e.a<N):iC (mP s e) (λx s'=>qH N s s'/\s'.i=s.i/\s'.bl=s.bl/\∀roots,bH (jO s.ex) (e.args++roots)->bH (jO s'.ex) (x::roots)) (wM N):=
 ⟨⟨rfl,rfl,rfl,rfl,Nat.le_refl _,h.lt,λx hx=>by
   rcases List.mem_append.1 hx with hx|hx
   ·exact .inl hx
   ·rw[List.mem_singleton]at hx
    subst hx
    exact .inr ha⟩,rfl,rfl,λ_ hf=>BH hf⟩
theorem gO{N:Int}{s:PS}(h:WS N s){α:Type}{a:Int}(ha:wM N a){q:Bool}{f:PS->R α}{P:α->PS->Prop}(hf:WS N {s with deep:=s.deep+1,quiet:=q}->iC (f {s with deep:=s.deep+1,quiet:=q}) P (wM N)):
  iC (within s a q f) (λx s'=>∃s1,P x s1/\s'={s1 with deep:=s.deep,quiet:=s.quiet}) (wM N):=by
 unfold within;split
 ·exact ha
 ·exact(hf (sX h _ _)).bind λx s1 h1=>⟨s1,h1,rfl⟩
theorem qH.back{N:Int}{s s1:PS}{d:Nat}{q:Bool}(h:qH N {s with deep:=d,quiet:=q} s1):qH N s {s1 with deep:=s.deep,quiet:=s.quiet}:=⟨h.toks,h.off,rfl,rfl,h.le,h.lt,h.exs⟩
theorem mO(p:UInt8->Bool):∀s:aH,cH p s<=s.length
 |[]=>Nat.le_refl _
 |c::r=>by
  have:=mO p r
  simp only[cH,List.length_cons]
  split<;>omega
theorem EL:∀(s:aH) (i:Nat),Lib.index s [42,47]=(i:Int)->i+2<=s.length
 |[],i,h=>by
  unfold Lib.index at h
  simp at h
 |b::l,i,h=>by
  unfold Lib.index at h
  split at h
  ·rename_i hp
   have hi:i=0:=by omega
   subst hi
   cases l with
   |nil=>simp[List.isPrefixOf]at hp
   |cons c l=>simp
  ·split at h
   ·omega
   ·rename_i hq
    have h1:Lib.index l [42,47]≠-1:=by simpa using hq
    have hg:=Lib.index_ge l [42,47]
    have:=EL l (i-1) (by omega)
    simp only[List.length_cons]
    omega
theorem Ew{p s:aH}(h:lI p s=true):p.length<=s.length:=by
 unfold lI at h;exact(List.isPrefixOf_iff_prefix.1 h).length_le
theorem rS:∀(n:Nat) (s:aH),(dE n s).1<=s.length
 |0,_=>Nat.zero_le _
 |_+1,[]=>Nat.zero_le _
 |n+1,c::r=>by
  simp only[dE]
  split
  ·have:=rS n r
   simp only[List.length_cons]
   omega
  split
  ·have h1:=rS n ((c::r).drop (cH (λb=>b !=10) (c::r)))
   have h2:=mO (λb=>b !=10) (c::r)
   rw[List.length_drop]at h1
   simp only
   omega
  split
  ·rename_i hp
   split
   ·exact Nat.zero_le _
   ·rename_i hi
    obtain⟨i,hii⟩:=Int.eq_ofNat_of_zero_le (by omega:0<=Lib.index (r.drop 1) [42,47])
    have h1:=EL _ _ hii
    have h2:=rS n ((c::r).drop ((Lib.index (r.drop 1) [42,47]).toNat+4))
    rw[hii]at h2⊢
    rw[List.length_drop]at h1 h2
    simp only[List.length_cons,Int.toNat_natCast]at h2⊢
    omega
  ·exact Nat.zero_le _
def Bf:aH->Bool
 |[]=>true
 |[c]=>c !=92&&c !=36
 |c::e::r=>if c=92 then Bf r else c !=36&&Bf (e::r)
theorem Av:∀(n:Nat) (t:aH),t.length<=n->Bf t=true->insP t=none
 |_,[],_,_=>rfl
 |_,[_],_,_=>rfl
 |0,c::e::r,h,_=>by simp at h
 |n+1,c::e::r,h,hd=>by
  simp only[Bf]at hd
  simp only[insP]
  simp only[List.length_cons]at h
  split
  ·rename_i hc
   rw[if_pos hc]at hd
   rw[Av n r (by omega) hd]
   rfl
  ·rename_i hc
   rw[if_neg hc]at hd
   simp only[Bool.and_eq_true,bne_iff_ne,ne_eq]at hd
   rw[if_neg (λe=>hd.1 e.1),Av n (e::r) (by simp only[List.length_cons];omega) hd.2]
   rfl
theorem Be{r:aH}(h1:c≠92)(h2:c≠36)(h:Bf r=true):Bf (c::r)=true:=by
 cases r with
 |nil=>simp[Bf,h1,h2]
 |cons e r=>simp[Bf,h1,h2,h]
theorem Aw{r:aH}(h:Bf r=true):Bf (92::c::r)=true:=by simp[Bf,h]
theorem Ax:∀(n:Nat) (a b:aH),a.length<=n->Bf a=true->Bf b=true->Bf (a++b)=true
 |_,[],b,_,_,hb=>hb
 |0,_::_,b,h,_,_=>by simp at h
 |_,[c],b,_,ha,hb=>by
  simp only[Bf,Bool.and_eq_true,bne_iff_ne,ne_eq]at ha
  exact Be ha.1 ha.2 hb
 |n+1,c::e::r,b,h,ha,hb=>by
  simp only[Bf]at ha
  simp only[List.length_cons]at h
  split at ha
  ·rename_i hc
   subst hc
   exact Aw (Ax n r b (by omega) ha hb)
  ·rename_i hc
   simp only[Bool.and_eq_true,bne_iff_ne,ne_eq]at ha
   exact Be hc ha.1 (Ax n (e::r) b (by simp only[List.length_cons];omega) ha.2 hb)
theorem GH:∀s:aH,Bf (gA s)=true
 |[]=>rfl
 |c::r=>by
  have ih:=GH r
  simp only[gA]
  split
  ·exact Aw ih
  rename_i h1
  split
  ·exact Aw ih
  split
  ·exact Aw ih
  ·simp only[Bool.or_eq_true,beq_iff_eq,not_or]at h1
   exact Be h1.1.1 h1.2 ih
theorem Km:∀(n:Nat) (name s:aH) (t:aH) (k:Nat),iL n name s=(t,k,0)->k<=s.length/\Bf t=true
 |0,_,_,_,_,h=>by simp[iL]at h
 |n+1,name,s,t,k,h=>by
  have hr:=mO (λb=>b !=10) s
  simp only[iL]at h
  split at h
  ·injection h with h1 h2
   injection h2 with h2 _
   subst h1 h2
   exact⟨hr,rfl⟩
  split at h
  ·cases h
  rename_i hlen
  split at h
  ·rename_i he
   injection h with h1 h2
   injection h2 with h2 _
   obtain⟨i1,i2⟩:=Km n name (s.drop (cH (λb=>b !=10) s+1)) (iL n name (s.drop (cH (λb=>b !=10) s+1))).1 (iL n name (s.drop (cH (λb=>b !=10) s+1))).2.1 (Prod.ext rfl (Prod.ext rfl he))
   rw[List.length_drop]at i1
   subst h1 h2
   refine⟨by omega,?_⟩
   refine Ax _ _ _ (Nat.le_refl _) (Ax _ _ _ (Nat.le_refl _) (GH _) rfl) i2
  ·rename_i he
   injection h with _ h2
   injection h2 with _ h2
   exact absurd h2 he
theorem Tl{s:aH}{m:Nat}(hm:(s.drop m).head?=some c):m<s.length:=by
 by_cases hl:m<s.length
 ·exact hl
 ·rw[List.drop_of_length_le (by omega)]at hm;cases hm
theorem Bz{s t:aH}{k:Nat}(h:eO s=(t,k,0)):1<=k/\k<=s.length/\Bf t=true:=by
 unfold eO at h;simp only at h;generalize (if fH ((s.drop 2).headD 0)=true then cH fL (s.drop 2)else 0)=n at h;split at h
 ·cases h
 split at h
 ·rename_i hh;have hlt:=Tl hh;generalize hH:iL (s.length+1) ((s.drop 2).take n) (s.drop (2+n+1))=x at h;obtain⟨x1,x2,x3⟩:=x;simp only at h;split at h
  ·rename_i he;subst he;injection h with h1 h2
   injection h2 with h2 _
   obtain⟨i1,i2⟩:=Km _ _ _ _ _ hH;rw[List.length_drop]at i1;subst h1 h2;exact⟨by omega,by omega,i2⟩
  ·rename_i he;injection h with _ h2
   injection h2 with _ h2
   exact absurd h2 he
 ·cases h
theorem EA{s:aH}{t:Tok}{k:Nat}(hs:s≠[])(h:kY s=(t,k,0)):1<=k/\k<=s.length/\t.k≠0/\t.a=0/\(t.k=1->t.t≠[])/\(t.k=3->insP t.t=none\/t.t.length+2<=k):=by
 obtain⟨c,r,rfl⟩:∃c r,s=c::r:=by
  cases s with
  |nil=>exact absurd rfl hs
  |cons c r=>exact⟨c,r,rfl⟩
 unfold kY at h;simp only[List.headD_cons]at h;split at h
 ·injection h with h1 h2
  injection h2 with h2 _
  subst h1 h2;simp
 split at h
 ·rename_i hl;injection h with h1 h2
  injection h2 with h2 h3
  have hp:1<=cH fL (c::r):=by
   simp only[cH];rw[if_pos (by unfold fL;rw[hl];rfl)];omega
  have:=mO fL (c::r);subst h1 h2;refine⟨hp,this,by simp,rfl,λ_=>?_,λe=>by simp at e⟩;intro e;have e:=congrArg List.length e;rw[List.length_take,List.length_nil]at e;omega
 split at h
 ·rename_i hl;injection h with h1 h2
  injection h2 with h2 h3
  have hp:1<=cH fD (c::r):=by
   simp only[cH];rw[if_pos hl];omega
  have:=mO fD (c::r);subst h1 h2;exact⟨hp,this,by simp,rfl,λe=>by simp at e,λe=>by simp at e⟩
 split at h
 ·split at h
  ·rename_i he;injection h with h1 h2
   injection h2 with h2 _
   have hx:kK ((c::r).length+1) ((c::r).drop 1) 0=dO r 0:=oZ (by simp;omega);rw[hx]at he h1 h2;obtain⟨_,q2,q3⟩:=(fE r.length r (Nat.le_refl _)).1 0 (dO r 0).1 (Prod.ext rfl he);subst h1 h2;refine⟨by omega,by simp only[List.length_cons];omega,by simp,rfl,λe=>by simp at e,λ_=>.inr ?_⟩;rw[List.length_take];simp only[List.drop_succ_cons,List.drop_zero];omega
  ·rename_i he;injection h with _ h2
   injection h2 with _ h2
   exact absurd h2 he
 split at h
 ·injection h with h1 h2
  injection h2 with h2 h3
  obtain⟨i1,i2,i3⟩:=Bz (s:=c::r) (t:=(eO (c::r)).1) (k:=(eO (c::r)).2.1) (Prod.ext rfl (Prod.ext rfl h3));subst h1 h2;exact⟨i1,i2,by simp,rfl,λe=>by simp at e,λ_=>.inl (Av _ _ (Nat.le_refl _) i3)⟩
 ·injection h with h1 h2
  injection h2 with h2 h3
  subst h1 h2;split at h3
  ·cases h3
  rename_i hz;refine⟨by omega,?_,by simp,rfl,λe=>by simp at e,λe=>by simp at e⟩;unfold qT;split
  ·exact List.length_take_le' _ _
  ·split
   ·exact List.length_take_le' _ _
   ·simp
theorem Gf:∀(n:Nat) (s:aH) (a cnt:Nat) (l:List Tok),jL n s a cnt=.ok l->TG ((a+s.length:Nat):Int) 0 l
 |0,_,_,_,_,h=>by simp[jL]at h
 |n+1,s,a,cnt,l,h=>by
  have hk:=rS (s.length+1) s
  simp only[jL]at h
  split at h
  ·cases h
  split at h
  ·rename_i hr
   injection h with h
   subst h
   have:s.length<=(dE (s.length+1) s).1:=by
    have:=congrArg List.length hr;rw[List.length_drop,List.length_nil]at this;omega
   refine⟨by simp,λi t ht=>?_⟩;have hi:i=0:=by
    by_cases h0:i=0
    ·exact h0
    ·rw[List.getElem?_eq_none (by simp;omega)]at ht;cases ht
   subst hi;simp only[List.getElem?_cons_zero,Option.some.injEq]at ht;subst ht;refine⟨by simp only;omega,by simp only;omega,λe=>absurd rfl e,λe=>by simp at e,λe=>by simp at e,λ_=>rfl⟩
  rename_i hr;split at h
  ·cases h
  rename_i ho;split at h
  ·cases h
  have hlen:s.length-(dE (s.length+1) s).1=(s.drop (dE (s.length+1) s).1).length:=(List.length_drop ..).symm;obtain⟨o1,o2,o3,o4,o5,o6⟩:=EA hr (Prod.ext rfl (Prod.ext rfl (Classical.not_not.1 ho)):kY (s.drop (dE (s.length+1) s).1)=((kY (s.drop (dE (s.length+1) s).1)).1,(kY (s.drop (dE (s.length+1) s).1)).2.1,0));split at h
  ·rename_i l' hl';injection h with h
   subst h;have ih:=Gf n _ _ _ _ hl';rw[List.length_drop]at ih;have eN:a+(dE (s.length+1) s).1+(kY (s.drop (dE (s.length+1) s).1)).2.1+((s.drop (dE (s.length+1) s).1).length-(kY (s.drop (dE (s.length+1) s).1)).2.1)=a+s.length:=by omega
   rw[eN]at ih;refine⟨by simp,λi t ht=>?_⟩;cases i with
   |zero=>
    simp only[List.getElem?_cons_zero,Option.some.injEq]at ht;subst ht;refine⟨by simp only;omega,by simp only;omega,λ_=>by simp only;omega,λe=>?_,λe=>o5 e,λe=>?_⟩
    ·rcases o6 e with h|h
     ·exact .inl h
     ·exact .inr (by simp only;omega)
    ·simp only[List.length_cons]at e;have:=ih.ne;exact absurd (List.eq_nil_of_length_eq_zero (by omega)) this
   |succ i=>
    simp only[List.getElem?_cons_succ]at ht;have:=ih.pos i t ht;exact⟨this.1,this.2.1,this.2.2.1,this.2.2.2.1,this.2.2.2.2.1,λe=>this.2.2.2.2.2 (by simp only[List.length_cons]at e;omega)⟩
  ·rename_i hne;exact absurd h (hne l)
theorem CE:∀(n:Nat) (s:aH) (a cnt:Nat) (c b:Int),jL n s a cnt=.bad c b->0<=b/\b<=((a+s.length:Nat):Int)
 |0,_,_,_,_,_,h=>by
  simp only[jL]at h
  injection h with _ h
  subst h
  omega
 |n+1,s,a,cnt,c,b,h=>by
  have hk:=rS (s.length+1) s
  simp only[jL]at h
  split at h
  ·injection h with _ h
   subst h
   omega
  split at h
  ·cases h
  rename_i hr
  split at h
  ·injection h with _ h
   subst h
   omega
  rename_i ho
  split at h
  ·injection h with _ h
   subst h
   omega
  obtain⟨o1,o2,_⟩:=EA hr (Prod.ext rfl (Prod.ext rfl (Classical.not_not.1 ho)):kY (s.drop (dE (s.length+1) s).1)=((kY (s.drop (dE (s.length+1) s).1)).1,(kY (s.drop (dE (s.length+1) s).1)).2.1,0))
  rw[List.length_drop]at o2
  split at h
  ·cases h
  ·have ih:=CE n _ _ _ c b h
   rw[List.length_drop,List.length_drop]at ih
   omega
theorem KP:∀(n:Nat) (s:aH) (i j:Nat),Cl n s i=some j->j<s.length
 |0,_,_,_,h=>by simp[Cl]at h
 |n+1,s,i,j,h=>by
  simp only[Cl]at h
  split at h
  ·cases h
  split at h
  ·injection h with h
   omega
  ·exact KP n s _ j h
theorem Em{s:aH}{l:List Tok}(h:mE s=.ok l){N off:Int}(h0:0<=off)(hN:off+s.length<=N):TG N off l:=by
 unfold mE at h;split at h
 ·cases h
 split at h
 ·cases h
 have:=Gf _ _ _ _ _ h;refine⟨this.ne,λi t ht=>?_⟩;obtain⟨h1,h2,h3,h4,h5,h6⟩:=this.pos i t ht;rw[Nat.zero_add]at h2 h3 h4;rw[Int.add_zero]at h1 h2 h3 h4;refine⟨by omega,by omega,λe=>by have:=h3 e;omega,λe=>?_,h5,h6⟩;rcases h4 e with h|h
 ·exact .inl h
 ·exact .inr (by omega)
theorem Gb{s:aH}{c b:Int}(h:mE s=.bad c b):0<=b/\b<=(s.length:Nat):=by
 unfold mE at h;split at h
 ·injection h with _ h
  subst h;omega
 split at h
 ·rename_i i hi;injection h with _ h
  subst h;have:=KP _ _ _ _ hi;omega
 ·have:=CE _ _ _ _ _ _ h;rw[Nat.zero_add]at this;exact this
theorem Wv:∀(N:Nat) (r:aH),r.length<=N->(∀c,lZ r c<=r.length)/\oA r<=r.length:=by
 intro N;induction N with
 |zero=>
  intro r hr;have:r=[]:=List.eq_nil_of_length_eq_zero (by omega);subst this;exact⟨λc=>Nat.le_refl _,Nat.le_refl _⟩
 |succ N ih=>
  intro r hr;cases r with
  |nil=>exact ih [] (by simp)
  |cons c r=>
   simp only[List.length_cons]at hr;have hr:r.length<=N:=by omega
   have h1:=ih r hr;refine⟨λd=>?_,?_⟩
   ·rw[kQ];have h2:=(ih (r.drop (oA r)) (gG _ hr)).1 d;rw[List.length_drop]at h2;have h3:=h1.1 (d+1);have h4:=h1.1 (d-1);have h5:=h1.1 d;have h6:=h1.2;simp only[List.length_cons]
    (repeat' split)<;>omega
   ·rw[yG];have h2:=(ih (r.drop (lZ r 0)) (gG _ hr)).2;rw[List.length_drop]at h2;have h3:=h1.1 0;have h6:=h1.2;cases r with
    |nil=>
     simp only[List.length_cons,List.length_nil]at*
     (repeat' split)<;>omega
    |cons e r'=>
     have h7:=(ih r' (by simp only[List.length_cons]at hr;omega)).2;simp only[List.length_cons]at*
     (repeat' split)<;>omega
theorem Fv(r:aH)(c:Int):lZ r c<=r.length:=(Wv r.length r (Nat.le_refl _)).1 c
theorem xI:∀(n:Nat) (t:aH),t.length<=n->∀i e,insP t=some (i,e)->i+2<=t.length/\i+1<=e/\e<=t.length
 |_,[],_,i,e,h=>by simp[insP]at h
 |_,[_],_,i,e,h=>by simp[insP]at h
 |0,_::_::_,h,_,_,_=>by simp at h
 |n+1,c::x::r,hn,i,e,h=>by
  simp only[List.length_cons]at hn
  simp only[insP]at h
  split at h
  ·cases hr:insP r with
   |none=>rw[hr]at h;cases h
   |some y=>
    rw[hr]at h
    simp only[Option.map_some,Option.some.injEq,Prod.mk.injEq]at h
    obtain⟨rfl,rfl⟩:=h
    have:=xI n r (by omega) y.1 y.2 hr
    simp only[List.length_cons]
    omega
  split at h
  ·simp only[Option.some.injEq,Prod.mk.injEq]at h
   obtain⟨rfl,rfl⟩:=h
   have:=Fv (x::r) 0
   have e1:HK (x::r)=lZ (x::r) 0:=rfl
   rw[e1]
   simp only[List.length_cons]at this⊢
   omega
  ·cases hr:insP (x::r)with
   |none=>rw[hr]at h;cases h
   |some y=>
    rw[hr]at h
    simp only[Option.map_some,Option.some.injEq,Prod.mk.injEq]at h
    obtain⟨rfl,rfl⟩:=h
    have:=xI n (x::r) (by simp only[List.length_cons];omega) y.1 y.2 hr
    simp only[List.length_cons]at this⊢
    omega
section
variable{N:Int}{E S:PS->R Nat}
theorem Df(hE:xW N E){s:PS}(h:WS N s){t:aH}{a:Int}(h0:0<=a)(h1:a+t.length<=N):iC (lC E s t a) (λx s'=>qH N s s'/\s'.bl=s.bl/\∀roots,bH (jO s.ex) roots->bH (jO s'.ex) (x::roots)) (wM N):=by
 unfold lC;split
 ·rename_i c b hs;have:=Gb hs;exact⟨by omega,by omega⟩
 ·rename_i l hs;have htg:=Em hs h0 h1;have hw:WS N ⟨l,0,a,s.deep,false,s.ex,s.bl⟩:=⟨htg,List.length_pos_iff.2 htg.ne,h.pN⟩;refine(hE _ hw).bind λx q ⟨⟨hg,_⟩,hb,hf⟩=>?_;have hq:=hg.ws hw;unfold iA;split
  ·refine⟨⟨rfl,rfl,rfl,rfl,Nat.le_refl _,h.lt,λe he=>?_⟩,?_,λroots hr=>?_⟩
   ·have:e∈(eZ q).ex:=he;rw[(nD hq).2.2.1]at this;exact hg.exs e this
   ·show(eZ q).bl=s.bl;rw[(nD hq).2.2.2];exact hb
   ·show bH (jO (eZ q).ex) _;rw[(nD hq).2.2.1];exact hf roots hr
  ·have:=fT hq;exact⟨this.1,this.2.1⟩
theorem CM{s:PS}(h:WS N s){t:Tok}(ht:wM N t.a):iC (lP s t) (λ_ s'=>s'=s) (wM N):=by
 unfold lP;split
 ·exact ht
 ·rfl
theorem yK(hE:xW N E):∀(n:Nat) (s:PS) (rest:aH) (a:Int) (us:List Nat) (ks:List aH),WS N s->0<=a->a+rest.length+1<=N->
  iC (jQ E n s rest a us ks) (λx s'=>qH N s s'/\s'.bl=s.bl/\∀roots,bH (jO s.ex) (us++roots)->bH (jO s'.ex) (x.1++roots)) (wM N)
 |0,s,_,_,_,_,h,_,_=>⟨Int.le_refl _,h.pN⟩
 |n+1,s,rest,a,us,ks,h,h0,h1=>by
  have one:∀(e:Ex),e.args=[]->0<=e.a->e.a<N->qH N s {s with ex:=s.ex++[e]}/\∀roots,bH (jO s.ex) (us++roots)->bH (jO (s.ex++[e])) ((us++[s.ex.length])++roots):=λe he h2 h3=>
   ⟨⟨rfl,rfl,rfl,rfl,Nat.le_refl _,h.lt,λx hx=>by
     rcases List.mem_append.1 hx with hx|hx
     ·exact .inl hx
     ·rw[List.mem_singleton]at hx;subst hx;exact .inr ⟨h2,h3⟩⟩,
    λroots hf=>by
     have:=BH (e:=e) (roots:=us++roots) (by rw[he];exact hf)
     refine this.perm ?_
     rw[List.append_assoc]
     exact(List.perm_middle).symm⟩
  simp only[jQ]
  split
  ·exact⟨qH.refl h,rfl,λ_ hf=>hf⟩
  split
  ·have:=one ⟨5,fY rest,[],[],a⟩ rfl h0 (by show a<N;omega)
   exact⟨this.1,rfl,this.2⟩
  ·rename_i i e hi
   obtain⟨i1,i2,i3⟩:=xI rest.length rest (Nat.le_refl _) i e hi
   have hs1:∃s1 as1,s1=(if 0<i then{s with ex:=s.ex++[⟨5,fY (rest.take i),[],[],a⟩]}else s)/\as1=(if 0<i then us++[s.ex.length]else us)/\qH N s s1/\s1.bl=s.bl/\∀roots,bH (jO s.ex) (us++roots)->bH (jO s1.ex) (as1++roots):=by
    refine⟨_,_,rfl,rfl,?_⟩;split
    ·have:=one ⟨5,fY (rest.take i),[],[],a⟩ rfl h0 (by show a<N;omega);exact⟨this.1,rfl,this.2⟩
    ·exact⟨qH.refl h,rfl,λ_ hf=>hf⟩
   obtain⟨s1,as1,e1,e2,g1,b1,f1⟩:=hs1;rw[<-e1,<-e2];have hw1:=g1.ws h;have hd:((rest.drop e).length:Int)=rest.length-e:=by rw[List.length_drop];omega
   split
   ·refine iC.bind (gO hw1 (a:=a+i) ⟨by omega,by omega⟩ (P:=λx s'=>qH N {s1 with deep:=s1.deep+1,quiet:=false} s'/\s'.bl=s1.bl/\∀roots,bH (jO s1.ex) roots->bH (jO s'.ex) (x::roots)) λhw=>Df hE hw (by omega) ?_) λx s2 ⟨q,⟨g2,b2,f2⟩,e3⟩=>?_
    ·rw[List.length_take,List.length_drop];omega
    ·subst e3;have g2':=g2.back;refine iC.mono (yK hE n _ (rest.drop e) (a+e) (as1++[x]) _ ((g2').ws hw1) (by omega) (by rw[hd];omega)) λy s3 ⟨g3,b3,f3⟩=>⟨g1.trans (g2'.trans g3),b3.trans (b2.trans b1),λroots hf=>f3 roots ?_⟩;have:=f2 _ (f1 roots hf);refine this.perm ?_;rw[List.append_assoc];exact(List.perm_middle).symm
   ·refine iC.mono (yK hE n s1 (rest.drop e) (a+e) as1 _ hw1 (by omega) (by rw[hd];omega)) λy s3 ⟨g3,b3,f3⟩=>⟨g1.trans g3,b3.trans b1,λroots hf=>f3 roots (f1 roots hf)⟩
theorem ML(hE:xW N E){s:PS}(h:WS N s){t:Tok}(ha:0<=t.a/\t.a<N)(ht:FE N t.a t.t):iC (zN E s t) (λx s'=>qH N s s'/\s'.bl=s.bl/\∀roots,bH (jO s.ex) roots->bH (jO s'.ex) (x::roots)) (wM N):=by
 unfold zN;split
 ·rename_i hi;have ht:t.a+t.t.length+2<=N:=ht.resolve_left λe=>by rw[e]at hi;cases hi
  refine(yK hE (t.t.length+1) s t.t (t.a+1) [] [] h (by omega) (by omega)).bind λx s1 ⟨g1,b1,f1⟩=>?_;refine(xA (g1.ws h) (e:=⟨6,[],x.1,x.2,t.a⟩) ha).mono λy s2 ⟨g2,_,b2,f2⟩=>⟨g1.trans g2,b2.trans b1,λroots hf=>f2 roots (f1 roots hf)⟩
 ·exact(xA h (e:=⟨5,fY t.t,[],[],t.a⟩) ha).mono λy s2 ⟨g2,_,b2,f2⟩=>⟨g2,b2,λroots hf=>f2 roots hf⟩
theorem HR(hE:xW N E)(w:aH):∀(n:Nat) (s:PS) (out:List Nat),WS N s->
  iC (oR E w n s out) (λx s'=>Later N s s'/\s'.bl=s.bl/\∀roots,bH (jO s.ex) (out++roots)->bH (jO s'.ex) (x++roots)) (wM N)
 |0,s,_,h=>⟨Int.le_refl _,h.pN⟩
 |n+1,s,out,h=>by
  have step:∀{s1:PS},qH N s s1->s1.ex=s.ex->s1.bl=s.bl->iC ((E s1).bind λx s'=>oR E w n s' (out++[x])) (λx s'=>Later N s s'/\s'.bl=s.bl/\∀roots,bH (jO s.ex) (out++roots)->bH (jO s'.ex) (x++roots)) (wM N):=λ{s1} g1 x1 b1=>by
   refine(hE s1 (g1.ws h)).bind λx s2 ⟨g2,b2,f2⟩=>?_
   refine iC.mono (HR hE w n s2 (out++[x]) (g2.1.ws (g1.ws h))) λy s3 ⟨g3,b3,f3⟩=>⟨⟨g1.trans (g2.1.trans g3.1),by have:=g1.le;have:=g2.2;have:=g3.2;omega⟩,b3.trans (b2.trans b1),λroots hf=>f3 roots ?_⟩
   have:=f2 _ (by rw[x1];exact hf)
   refine this.perm ?_
   rw[List.append_assoc]
   exact(List.perm_middle).symm
  have t1:=fI h w
  simp only[oR]
  split
  ·rename_i ht
   exact⟨⟨t1.1,t1.2.1 ht⟩,t1.2.2.2,λroots hf=>by rw[t1.2.2.1];exact hf⟩
  split
  ·rename_i ho
   have:=step t1.1 t1.2.2.1 t1.2.2.2
   exact this
  ·refine(fW (t1.1.ws h) [44]).bind λ_ s1 ⟨g1,x1,b1⟩=>?_
   have g01:=t1.1.trans g1.1
   have t2:=fI (g01.ws h) w
   split
   ·rename_i ht
    exact⟨⟨g01.trans t2.1,by have:=t1.1.le;have:=g1.2;have:=t2.1.le;omega⟩,t2.2.2.2.trans (b1.trans t1.2.2.2),λroots hf=>by rw[t2.2.2.1,x1,t1.2.2.1];exact hf⟩
   ·exact step (g01.trans t2.1) (t2.2.2.1.trans (x1.trans t1.2.2.1)) (t2.2.2.2.trans (b1.trans t1.2.2.2))
theorem DR(hE:xW N E)(w:aH){s:PS}(h:WS N s):iC (BY E w s) (λx s'=>Later N s s'/\s'.bl=s.bl/\∀roots,bH (jO s.ex) roots->bH (jO s'.ex) (x++roots)) (wM N):=
 (HR hE w _ s [] h).mono λx s' ⟨g,b,f⟩=>⟨g,b,λroots hf=>f roots hf⟩
theorem Ou(hE:xW N E){s:PS}(h:WS N s)(hk:(bO s).k≠0)(hq:aG s=s){a:Int}(ha:0<=a/\a<N):iC (zT E s a) (λe s'=>Later N s s'/\s'.bl=s.bl/\(0<=e.a/\e.a<N)/\∀roots,bH (jO s.ex) roots->bH (jO s'.ex) (e.args++roots)) (wM N):=by
 have hs:=fJ h hk;rw[hq]at hs;have hw:=hs.1.ws h;have hn:=dN hw;have ex1:(aG (step1 s)).ex=s.ex:=(eF _).1;have bl1:(aG (step1 s)).bl=s.bl:=(eF _).2;unfold zT;simp only;split
 ·refine(DR hE [93] (hn.ws hw)).bind λus s1 ⟨g1,b1,f1⟩=>?_;exact⟨⟨hs.1.trans (hn.trans g1.1),by have:=hs.2;have:=hn.le;have:=g1.2;omega⟩,b1.trans bl1,ha,λroots hf=>f1 roots (by rw[ex1];exact hf)⟩
 ·rename_i hc;have hk1:(bO (step1 s)).k≠0:=λe=>hc (.inl (by rw[e];decide));have h2:=fJ hw hk1;refine(gZ (h2.1.ws hw) 1 (by decide)).bind λt s2 ⟨g2,x2,b2,_⟩=>?_;have hw2:=g2.1.ws (h2.1.ws hw);refine(gZ hw2 1 (by decide)).bind λu s3 ⟨g3,x3,b3,hu,_⟩=>?_;have hw3:=g3.1.ws hw2;split
  ·have:=fT hw2;rw[hu];exact⟨this.1,this.2.1⟩
  refine(hE s3 hw3).bind λx s4 ⟨g4,b4,f4⟩=>?_;have hw4:=g4.1.ws hw3;refine(fW hw4 [58]).bind λ_ s5 ⟨g5,x5,b5⟩=>?_;have hw5:=g5.1.ws hw4;refine(hE s5 hw5).bind λy s6 ⟨g6,b6,f6⟩=>?_;have hw6:=g6.1.ws hw5;refine(fW hw6 [93]).bind λ_ s7 ⟨g7,x7,b7⟩=>?_;have e01:(step1 (aG (step1 s))).ex=s.ex:=ex1;have e02:(step1 (aG (step1 s))).bl=s.bl:=bl1;refine⟨⟨hs.1.trans (h2.1.trans (g2.1.trans (g3.1.trans (g4.1.trans (g5.1.trans (g6.1.trans g7.1)))))),by have:=hs.2;have:=h2.2;have:=g2.2;have:=g3.2;have:=g4.2;have:=g5.2;have:=g6.2;have:=g7.2;omega⟩,
   b7.trans (b6.trans (b5.trans (b4.trans (b3.trans (b2.trans e02))))),ha,λroots hf=>?_⟩
  rw[x7];have h1:=f4 roots (by rw[x3,x2,e01];exact hf);have h2:=f6 _ (by rw[x5];exact h1);exact h2.perm (List.Perm.swap _ _ _)
theorem Ka(hE:xW N E){a:Int}(ha:0<=a/\a<N):∀(n:Nat) (s:PS) (us:List Nat) (ks:List aH),WS N s->
  iC (Cg E a n s us ks) (λe s'=>Later N s s'/\s'.bl=s.bl/\(0<=e.a/\e.a<N)/\∀roots,bH (jO s.ex) (us++roots)->bH (jO s'.ex) (e.args++roots)) (wM N)
 |0,s,_,_,h=>⟨Int.le_refl _,h.pN⟩
 |n+1,s,us,ks,h=>by
  have t1:=fI h [125]
  simp only[Cg]
  split
  ·rename_i ht
   exact⟨⟨t1.1,t1.2.1 ht⟩,t1.2.2.2,ha,λroots hf=>by rw[t1.2.2.1];exact hf⟩
  have hw1:=t1.1.ws h
  have n1:=nD hw1
  have hw2:=n1.1.ws hw1
  have hc:=fT hw1
  have hca:wM N (bO (aR s [125]).2).a:=⟨hc.1,hc.2.1⟩
  refine iC.bind (P:=λ_ s3=>s3=eZ (aR s [125]).2/\(bO (aR s [125]).2).k≠0) ?_ λk s3 ⟨e3,hk0⟩=>?_
  ·split
   ·rename_i hk
    exact(CM hw2 hca).mono λ_ s3 e=>⟨e,by rw[hk];decide⟩
   ·split
    ·rename_i hk
     exact⟨rfl,by rw[hk];decide⟩
    ·exact hca
  subst e3
  split
  ·exact hca
  refine(fW hw2 [61]).bind λ_ s4 ⟨g4,x4,b4⟩=>?_
  have hw4:=g4.1.ws hw2
  refine(hE s4 hw4).bind λx s5 ⟨g5,b5,f5⟩=>?_
  have hw5:=g5.1.ws hw4
  have t5:=fI hw5 [44]
  have hw6:=t5.1.ws hw5
  have n6:=dN hw6
  have g05:=t1.1.trans (n1.1.trans (g4.1.trans (g5.1.trans t5.1)))
  split
  ·have:=fT (n6.ws hw6)
   exact⟨this.1,this.2.1⟩
  have l6:∃s6,s6=(if(aR s5 [44]).1=true then(aR s5 [44]).2 else aG (aR s5 [44]).2)/\qH N (aR s5 [44]).2 s6/\s6.ex=(aR s5 [44]).2.ex/\s6.bl=(aR s5 [44]).2.bl:=by
   refine⟨_,rfl,?_⟩;split
   ·exact⟨qH.refl hw6,rfl,rfl⟩
   ·exact⟨n6,(eF _).1,(eF _).2⟩
  obtain⟨s6,e6,g6,x6,b6⟩:=l6;rw[<-e6];have hw7:=g6.ws hw6;have l7:=iU hw7;refine iC.mono (Ka hE ha n (dQ s6) (us++[x]) (ks++[k]) (l7.1.ws hw7)) λe s8 ⟨g8,b8,ha8,f8⟩=>⟨⟨g05.trans (g6.trans (l7.1.trans g8.1)),by have:=g05.le;have:=g6.le;have:=l7.1.le;have:=g8.2;omega⟩,
   b8.trans (l7.2.2.trans (b6.trans (t5.2.2.2.trans (b5.trans (b4.trans (n1.2.2.2.trans t1.2.2.2)))))),ha8,λroots hf=>f8 roots ?_⟩
  rw[l7.2.1,x6,t5.2.2.1];have:=f5 (us++roots) (by rw[x4,n1.2.2.1,t1.2.2.1];exact hf);refine this.perm ?_;rw[List.append_assoc];exact(List.perm_middle).symm
end
theorem _root_.And.tr{N:Int}{s s1 s2:PS}(h:Later N s s1)(h':Later N s1 s2):Later N s s2:=⟨h.1.trans h'.1,Nat.lt_trans h.2 h'.2⟩
theorem qH.tr{N:Int}{s s1 s2:PS}(h:qH N s s1)(h':Later N s1 s2):Later N s s2:=⟨h.trans h'.1,Nat.lt_of_le_of_lt h.le h'.2⟩
section
variable{N:Int}{E S:PS->R Nat}
theorem Gk{l:List Tok}{t:Tok}(h:l[i]?=some t)(hk:t.k≠5):eC (l.drop i)=0:=by
 have hlt:=(List.getElem?_eq_some_iff.1 h).1;rw[List.drop_eq_getElem_cons hlt];have:l[i]=t:=(List.getElem?_eq_some_iff.1 h).2;simp[eC,this,hk]
theorem NO{N:Int}{s:PS}(h:WS N s)(hk:(iH s).k≠5):aG s=s:=by
 unfold aG;split
 ·rw[Gk (tA h) hk];rfl
 ·rfl
theorem kL{N:Int}{s:PS}(h:WS N s){w:aH}(hi:kS s w=true)(d:Nat)(q:Bool):aG {aG s with deep:=d,quiet:=q}={aG s with deep:=d,quiet:=q}/\(bO {aG s with deep:=d,quiet:=q}).k≠0/\(bO {aG s with deep:=d,quiet:=q}).a=(bO s).a:=by
 have hw:=(dN h).ws h;have hk:(iH (aG s)).k=4:=by
  unfold kS bO at hi;simp only[Bool.and_eq_true,decide_eq_true_eq]at hi;exact hi.1
 have e1:aG {aG s with deep:=d,quiet:=q}={aG s with deep:=d,quiet:=q}:=NO (sX hw d q) (by show(iH (aG s)).k≠5;rw[hk];decide);have e2:(aG s).off=s.off:=by unfold aG;split<;>rfl
 refine⟨e1,?_,?_⟩
 ·unfold bO;rw[e1];show(iH (aG s)).k≠0;rw[hk];decide
 ·unfold bO;rw[e1];show(iH (aG s)).a+(aG s).off=(iH (aG s)).a+s.off;rw[e2]
abbrev Leaves(N:Int)(s:PS)(x:Nat)(s':PS):Prop:=Later N s s'/\s'.bl=s.bl/\∀roots,bH (jO s.ex) roots->bH (jO s'.ex) (x::roots)
theorem lO{s s1:PS}(h:WS N s)(hg:Later N s s1)(hb:s1.bl=s.bl){e:Ex}(ha:0<=e.a/\e.a<N)(hf:∀roots,bH (jO s.ex) roots->bH (jO s1.ex) (e.args++roots)):iC (mP s1 e) (Leaves N s) (wM N):=
 (xA (hg.1.ws h) ha).mono λx s2 ⟨g2,i2,b2,f2⟩=>⟨⟨hg.1.trans g2,by have:=hg.2;rw[i2];exact this⟩,b2.trans hb,λroots hr=>f2 roots (hf roots hr)⟩
theorem HP(hE:xW N E):xW N (xU E):=by
 intro s h;have n1:=dN h;have hw1:=n1.ws h;have hc:=fT h;have x1:=eF s;unfold xU;simp only;split
 ·rename_i hk;have h2:=fJ h (by rw[hk];decide);exact lO h h2 x1.2 (e:=⟨4,(bO s).t,[],[],(bO s).a⟩) ⟨hc.1,hc.2.2.1 (by rw[hk];decide)⟩ λroots hr=>by show bH (jO (aG s).ex) _;rw[x1.1];exact hr
 split
 ·rename_i hk;have h2:=fJ h (by rw[hk];decide);refine(ML hE (h2.1.ws h) (t:=bO s) ⟨hc.1,hc.2.2.1 (by rw[hk];decide)⟩ (hc.2.2.2.1 hk)).mono λx s2 ⟨g2,b2,f2⟩=>⟨⟨h2.1.trans g2,by have:=h2.2;have:=g2.le;omega⟩,b2.trans x1.2,λroots hr=>f2 roots (by show bH (jO (aG s).ex) _;rw[x1.1];exact hr)⟩
 split
 ·rename_i hk;have hk0:(bO s).k≠0:=by rw[hk.1];decide
  have h2:=fJ h hk0;have hw2:=h2.1.ws h;have n2:=dN hw2;have hw3:=n2.ws hw2;have hat:0<=(bO s).a/\(bO s).a<N:=⟨hc.1,hc.2.2.1 hk0⟩;split
  ·rename_i hi;have hc2:=fT hw2;refine iC.bind (gO hw3 (a:=(bO (step1 (aG s))).a) (q:=true) ⟨hc2.1,hc2.2.1⟩ (P:=λus s'=>Later N {aG (step1 (aG s))with deep:=(aG (step1 (aG s))).deep+1,quiet:=true} s'/\s'.bl=s.bl/\∀roots,bH (jO s.ex) roots->bH (jO s'.ex) (us++roots)) λhw=>?_) λus s2 ⟨q,⟨g2,b2,f2⟩,e2⟩=>?_
   ·have hh:=kL hw2 hi ((aG (step1 (aG s))).deep+1) true;have h4:=fJ hw hh.2.1;rw[hh.1]at h4;exact(DR hE [41] (h4.1.ws hw)).mono λus s' ⟨g,b,f⟩=>⟨h4.tr g,b.trans ((eF _).2.trans x1.2),λroots hr=>f roots (by show bH (jO (aG (step1 (aG s))).ex) _;rw[(eF _).1];show bH (jO (aG s).ex) _;rw[x1.1];exact hr)⟩
   ·subst e2;have g2':=g2.1.back;refine lO h ⟨h2.1.trans (n2.trans g2'),?_⟩ b2 (e:=⟨12,(bO s).t,us,[],(bO s).a⟩) hat f2;have:=h2.2;have:=n2.le;have:=g2'.le;omega
  ·exact lO h ⟨h2.1.trans n2,by have:=h2.2;have:=n2.le;omega⟩ ((eF _).2.trans x1.2) (e:=⟨tK (bO s).t,if tK (bO s).t=9 then(bO s).t else [],[],[],(bO s).a⟩) hat λroots hr=>by rw[(eF _).1];show bH (jO (aG s).ex) _;rw[x1.1];exact hr
 have hca:wM N (bO s).a:=⟨hc.1,hc.2.1⟩;have eM:∀w,kS (aG s) w=kS s w:=λw=>by unfold kS;rw[gH]
 split
 ·rename_i hi;rw[eM]at hi;refine(gO hw1 (a:=(bO s).a) (q:=true) hca (P:=λx s'=>Later N {aG s with deep:=(aG s).deep+1,quiet:=true} s'/\s'.bl=s.bl/\∀roots,bH (jO s.ex) roots->bH (jO s'.ex) (x::roots)) λhw=>?_).mono λx s2 ⟨q,⟨g2,b2,f2⟩,e2⟩=>?_
  ·have hh:=kL h hi ((aG s).deep+1) true;have h4:=fJ hw hh.2.1;rw[hh.1]at h4;refine(hE _ (h4.1.ws hw)).bind λx q1 ⟨g1,b1,f1⟩=>?_;refine(fW (g1.1.ws (h4.1.ws hw)) [41]).bind λ_ q2 ⟨g2,e2,b2⟩=>?_;refine⟨h4.tr (g1.tr g2),b2.trans (b1.trans x1.2),λroots hr=>?_⟩;rw[e2];exact f1 roots (by show bH (jO (aG s).ex) _;rw[x1.1];exact hr)
  ·subst e2;have g2':=g2.1.back;exact⟨⟨n1.trans g2',by have:=n1.le;have:=g2.2;show s.i<q.i;simp only at this;omega⟩,b2,f2⟩
 split
 ·rename_i hi;rw[eM]at hi;refine iC.bind (gO hw1 (a:=(bO s).a) (q:=true) hca (P:=λ(e:Ex) s'=>Later N {aG s with deep:=(aG s).deep+1,quiet:=true} s'/\s'.bl=s.bl/\(0<=e.a/\e.a<N)/\∀roots,bH (jO s.ex) roots->bH (jO s'.ex) (e.args++roots)) λhw=>?_) λe s2 ⟨q,⟨g2,b2,a2,f2⟩,e2⟩=>?_
  ·have hh:=kL h hi ((aG s).deep+1) true;refine(Ou hE hw hh.2.1 hh.1 ⟨hc.1,hc.2.2.1 (iK hi)⟩).mono λe s' ⟨g,b,a,f⟩=>⟨g,b.trans x1.2,a,λroots hr=>f roots (by show bH (jO (aG s).ex) _;rw[x1.1];exact hr)⟩
  ·subst e2;have g2':=g2.1.back;exact lO h ⟨n1.trans g2',by have:=n1.le;have:=g2.2;show s.i<q.i;simp only at this;omega⟩ b2 a2 f2
 split
 ·rename_i hi;rw[eM]at hi;refine iC.bind (gO hw1 (a:=(bO s).a) (q:=false) hca (P:=λ(e:Ex) s'=>Later N {aG s with deep:=(aG s).deep+1,quiet:=false} s'/\s'.bl=s.bl/\(0<=e.a/\e.a<N)/\∀roots,bH (jO s.ex) roots->bH (jO s'.ex) (e.args++roots)) λhw=>?_) λe s2 ⟨q,⟨g2,b2,a2,f2⟩,e2⟩=>?_
  ·have hh:=kL h hi ((aG s).deep+1) false;have h4:=fJ hw hh.2.1;rw[hh.1]at h4;have l4:=iU (h4.1.ws hw);unfold LC;refine(Ka hE ⟨hc.1,hc.2.2.1 (iK hi)⟩ _ _ [] [] (l4.1.ws (h4.1.ws hw))).mono λe s' ⟨g,b,a,f⟩=>⟨h4.tr (qH.tr l4.1 g),b.trans (l4.2.2.trans x1.2),a,λroots hr=>f roots (by rw[l4.2.1];show bH (jO (aG s).ex) _;rw[x1.1];exact hr)⟩
  ·subst e2;have g2':=g2.1.back;exact lO h ⟨n1.trans g2',by have:=n1.le;have:=g2.2;show s.i<q.i;simp only at this;omega⟩ b2 a2 f2
 ·exact hca
abbrev PI(N:Int)(s:PS)(x:Nat)(y:Nat)(s':PS):Prop:=qH N s s'/\s'.bl=s.bl/\∀roots,bH (jO s.ex) (x::roots)->bH (jO s'.ex) (y::roots)
theorem CL(hE:xW N E):∀(n:Nat) (s:PS) (x:Nat),WS N s->iC (mZ E n s x) (PI N s x) (wM N)
 |0,s,_,h=>⟨Int.le_refl _,h.pN⟩
 |n+1,s,x,h=>by
  have n1:=dN h
  have hw1:=n1.ws h
  have hc:=fT h
  have x1:=eF s
  have eM:∀w,kS (aG s) w=kS s w:=λw=>by unfold kS;rw[gH]
  have hca:wM N (bO s).a:=⟨hc.1,hc.2.1⟩
  have more:∀{s2:PS} {e:Ex},qH N s s2->s2.bl=s.bl->0<=e.a/\e.a<N->(∀roots,bH (jO s.ex) (x::roots)->bH (jO s2.ex) (e.args++roots))->iC ((mP s2 e).bind λy s3=>mZ E n s3 y) (PI N s x) (wM N):=λ{s2 e} g2 b2 ha f2=>by
   refine(xA (g2.ws h) ha).bind λy s3 ⟨g3,_,b3,f3⟩=>?_
   exact(CL hE n s3 y (g3.ws (g2.ws h))).mono λz s4 ⟨g4,b4,f4⟩=>⟨g2.trans (g3.trans g4),b4.trans (b3.trans b2),λroots hr=>f4 roots (f3 roots (f2 roots hr))⟩
  simp only[mZ]
  have t1:=fI hw1 [46]
  split
  ·rename_i ht
   have hk0:(bO s).k≠0:=by
    have:kS (aG s) [46]=true:=by
     unfold aR at ht;split at ht
     ·assumption
     ·cases ht
    rw[eM]at this;exact iK this
   have hw2:=t1.1.ws hw1;refine(gZ hw2 1 (by decide)).bind λu s2 ⟨g2,x2,b2,_⟩=>?_;exact more (e:=⟨10,u.t,[x],[],(bO s).a⟩) (n1.trans (t1.1.trans g2.1)) (b2.trans (t1.2.2.2.trans x1.2)) ⟨hc.1,hc.2.2.1 hk0⟩ λroots hr=>by rw[x2,t1.2.2.1,x1.1];exact hr
  split
  ·rename_i hi;rw[eM]at hi;have hat:0<=(bO s).a/\(bO s).a<N:=⟨hc.1,hc.2.2.1 (iK hi)⟩;refine iC.bind (gO hw1 (a:=(bO s).a) (q:=true) hca (P:=λ(o:Option Nat) s'=>qH N {aG s with deep:=(aG s).deep+1,quiet:=true} s'/\s'.bl=s.bl/\(o=none->s'.ex=s.ex)/\∀y,o=some y->∀roots,bH (jO s.ex) roots->bH (jO s'.ex) (y::roots)) λhw=>?_) λo s2 ⟨q,⟨g2,b2,f2,f2'⟩,e2⟩=>?_
   ·have hh:=kL h hi ((aG s).deep+1) true;have h4:=fJ hw hh.2.1;rw[hh.1]at h4;have hw4:=h4.1.ws hw;have t4:=fI hw4 [42];have ex4:(step1 {aG s with deep:=(aG s).deep+1,quiet:=true}).ex=s.ex:=x1.1;have bl4:(step1 {aG s with deep:=(aG s).deep+1,quiet:=true}).bl=s.bl:=x1.2;split
    ·refine(fW (t4.1.ws hw4) [93]).bind λ_ q2 ⟨g5,x5,b5⟩=>?_;exact⟨h4.1.trans (t4.1.trans g5.1),b5.trans (t4.2.2.2.trans bl4),λ_=>x5.trans (t4.2.2.1.trans ex4),λy e=>by cases e⟩
    ·refine(hE _ (t4.1.ws hw4)).bind λy q1 ⟨g5,b5,f5⟩=>?_;refine(fW (g5.1.ws (t4.1.ws hw4)) [93]).bind λ_ q2 ⟨g6,x6,b6⟩=>?_;refine⟨h4.1.trans (t4.1.trans (g5.1.trans g6.1)),b6.trans (b5.trans (t4.2.2.2.trans bl4)),λe=>(by cases e),λz e roots hr=>?_⟩;injection e with e
     subst e;rw[x6];exact f5 roots (by rw[t4.2.2.1,ex4];exact hr)
   ·subst e2;have g2':=g2.back;have g02:=n1.trans g2';cases o with
    |some y=>
     simp only;refine more (e:=⟨11,[],[x,y],[],(bO s).a⟩) g02 b2 hat λroots hr=>?_;exact(f2' y rfl _ hr).perm (List.Perm.swap _ _ _)
    |none=>
     simp only;have hw2:=g02.ws h;refine(fW hw2 [46]).bind λ_ s3 ⟨g3,x3,b3⟩=>?_;refine(gZ (g3.1.ws hw2) 1 (by decide)).bind λu s4 ⟨g4,x4,b4,_⟩=>?_;exact more (e:=⟨30,u.t,[x],[],(bO s).a⟩) (g02.trans (g3.1.trans g4.1)) (b4.trans (b3.trans b2)) hat λroots hr=>by rw[x4,x3];show bH (jO q.ex) _;rw[f2 rfl];exact hr
  ·exact⟨n1,x1.2,λroots hr=>by rw[x1.1];exact hr⟩
theorem Nx(hE:xW N E):xW N (AW E):=by
 intro s h;unfold AW;refine(HP hE s h).bind λx s1 ⟨g1,b1,f1⟩=>?_;exact(CL hE _ s1 x (g1.1.ws h)).mono λy s2 ⟨g2,b2,f2⟩=>⟨⟨g1.1.trans g2,by have:=g1.2;have:=g2.le;omega⟩,b2.trans b1,λroots hr=>f2 roots (f1 roots hr)⟩
theorem AN(hE:xW N E)(hS:xW N S):xW N (vL E S):=by
 intro s h;have n1:=dN h;have hw1:=n1.ws h;have hc:=fT h;have x1:=eF s;have eM:∀w,kS (aG s) w=kS s w:=λw=>by unfold kS;rw[gH]
 have hca:wM N (bO s).a:=⟨hc.1,hc.2.1⟩;have one:∀(w:aH) (k:Int),kS s w=true->iC ((within (aG s) (bO s).a (aG s).quiet λq=>S (step1 q)).bind λx s2=>mP s2 ⟨k,[],[x],[],(bO s).a⟩) (Leaves N s) (wM N):=λw k hi=>by
  refine iC.bind (gO hw1 (a:=(bO s).a) (q:=(aG s).quiet) hca (P:=λx s'=>Later N {aG s with deep:=(aG s).deep+1,quiet:=(aG s).quiet} s'/\s'.bl=s.bl/\∀roots,bH (jO s.ex) roots->bH (jO s'.ex) (x::roots)) λhw=>?_) λx s2 ⟨q,⟨g2,b2,f2⟩,e2⟩=>?_
  ·have hh:=kL h hi ((aG s).deep+1) (aG s).quiet;have h4:=fJ hw hh.2.1;rw[hh.1]at h4;refine(hS _ (h4.1.ws hw)).mono λx q1 ⟨g1,b1,f1⟩=>⟨h4.tr g1,b1.trans x1.2,λroots hr=>f1 roots (by show bH (jO (aG s).ex) _;rw[x1.1];exact hr)⟩
  ·subst e2;have g2':=g2.1.back;exact lO h ⟨n1.trans g2',by have:=n1.le;have:=g2.2;show s.i<q.i;simp only at this;omega⟩ b2 (e:=⟨k,[],[x],[],(bO s).a⟩) ⟨hc.1,hc.2.2.1 (iK hi)⟩ f2
 unfold vL;simp only;split
 ·rename_i hi;rw[eM]at hi;exact one [33] 14 hi
 split
 ·rename_i hi;rw[eM]at hi;exact one [45] 13 hi
 ·exact(Nx hE (aG s) hw1).mono λx s2 ⟨g2,b2,f2⟩=>⟨⟨n1.trans g2.1,by have:=n1.le;have:=g2.2;omega⟩,b2.trans x1.2,λroots hr=>f2 roots (by rw[x1.1];exact hr)⟩
theorem Dc{J:PS->R Nat}(hJ:xW N J)(k:Nat):∀(f:Nat) (s:PS) (x:Nat),WS N s->iC (xG J k f s x) (PI N s x) (wM N)
 |0,s,_,h=>⟨Int.le_refl _,h.pN⟩
 |f+1,s,x,h=>by
  have n1:=dN h
  have x1:=eF s
  have hc:=fT h
  simp only[xG]
  split
  ·exact⟨n1,x1.2,λroots hr=>by rw[x1.1];exact hr⟩
  ·rename_i hl
   have hk0:(bO s).k≠0:=λe=>hl (by unfold sA;rw[e];rfl)
   have h2:=fJ h hk0
   refine(hJ _ (h2.1.ws h)).bind λb s1 ⟨g1,b1,f1⟩=>?_
   have g01:=h2.1.trans g1.1
   refine(xA (g01.ws h) (e:=⟨sA (bO s) k,[],[x,b],[],(bO s).a⟩) ⟨hc.1,hc.2.2.1 hk0⟩).bind λy s2 ⟨g2,_,b2,f2⟩=>?_
   refine(Dc hJ k f s2 y (g2.ws (g01.ws h))).mono λz s3 ⟨g3,b3,f3⟩=>⟨g01.trans (g2.trans g3),b3.trans (b2.trans (b1.trans x1.2)),λroots hr=>f3 roots (f2 roots ?_)⟩
   exact(f1 _ (by show bH (jO (aG s).ex) _;rw[x1.1];exact hr)).perm (List.Perm.swap _ _ _)
theorem rF(hE:xW N E)(hS:xW N S):∀m,xW N (pP E S m)
 |0=>AN hE hS
 |m+1=>λs h=>by
  simp only[pP]
  refine(rF hE hS m s h).bind λa s1 ⟨g1,b1,f1⟩=>?_
  exact(Dc (rF hE hS m) (5-m) _ s1 a (g1.1.ws h)).mono λy s2 ⟨g2,b2,f2⟩=>⟨⟨g1.1.trans g2,by have:=g1.2;have:=g2.le;omega⟩,b2.trans b1,λroots hr=>f2 roots (f1 roots hr)⟩
theorem Hn(hE:xW N E)(hS:xW N S):xW N (Ac E S):=by
 intro s h;unfold Ac;refine(rF hE hS 6 s h).bind λa s1 ⟨g1,b1,f1⟩=>?_;have hw1:=g1.1.ws h;have hc:=fT hw1;have t1:=fI hw1 [63];have hw2:=t1.1.ws hw1;simp only;split
 ·rename_i ht;have hk0:(bO s1).k≠0:=by
   have:kS s1 [63]=true:=by
    unfold aR at ht;split at ht
    ·assumption
    ·cases ht
   exact iK this
  refine iC.bind (gO hw2 (a:=(bO s1).a) (q:=(aR s1 [63]).2.quiet) ⟨hc.1,hc.2.1⟩ (P:=λ(z:Nat×Nat) s'=>qH N {(aR s1 [63]).2 with deep:=(aR s1 [63]).2.deep+1,quiet:=(aR s1 [63]).2.quiet} s'/\s'.bl=s.bl/\∀roots,bH (jO s.ex) roots->bH (jO s'.ex) ([a,z.1,z.2]++roots)) λhw=>?_) λz s2 ⟨q,⟨g2,b2,f2⟩,e2⟩=>?_
  ·refine(hE _ hw).bind λx q1 ⟨g3,b3,f3⟩=>?_;have hw3:=g3.1.ws hw;refine(fW hw3 [58]).bind λ_ q2 ⟨g4,x4,b4⟩=>?_;have hw4:=g4.1.ws hw3;refine(hE _ hw4).bind λy q3 ⟨g5,b5,f5⟩=>?_;refine⟨g3.1.trans (g4.1.trans g5.1),b5.trans (b4.trans (b3.trans (t1.2.2.2.trans b1))),λroots hr=>?_⟩;have k1:=f3 _ (by show bH (jO (aR s1 [63]).2.ex) _;rw[t1.2.2.1];exact f1 roots hr);have k2:=f5 _ (by rw[x4];exact k1);refine k2.perm ?_;show(y::x::a::roots).Perm (a::x::y::roots);exact((List.Perm.swap x y _).trans ((List.Perm.swap a y _).cons x)).trans (List.Perm.swap a x _)
  ·subst e2;have g2':=g2.back;exact lO h ⟨g1.1.trans (t1.1.trans g2'),by have:=g1.2;have:=t1.1.le;have:=g2.le;show s.i<q.i;simp only at this;omega⟩ b2 (e:=⟨28,[],[a,z.1,z.2],[],(bO s1).a⟩) ⟨hc.1,hc.2.2.1 hk0⟩ f2
 ·exact⟨⟨g1.1.trans t1.1,by have:=g1.2;have:=t1.1.le;omega⟩,t1.2.2.2.trans b1,λroots hr=>by rw[t1.2.2.1];exact f1 roots hr⟩
end
theorem vC(N:Int):xW N dead:=λ_ h=>⟨Int.le_refl _,h.pN⟩
theorem oL(N:Int):∀d,xW N (oM d).1/\xW N (oM d).2
 |0=>⟨Hn (vC N) (vC N),AN (vC N) (vC N)⟩
 |d+1=>⟨Hn (oL N d).1 (oL N d).2,AN (oL N d).1 (oL N d).2⟩
def wt(t:Tok):Nat:=if t.k=0 then 0 else if t.k=3/\(insP t.t).isSome=true then t.t.length+2 else 1
def Ms(l:List Tok):Nat:=(l.map wt).sum
def phi(s:PS):Nat:=s.ex.length+s.bl.length+Ms (s.toks.drop s.i)
theorem wN(t:Tok)(l:List Tok):Ms (t::l)=wt t+Ms l:=by simp[Ms]
theorem nU:∀(l:List Tok) (i:Nat),Ms (l.drop i)<=Ms l
 |[],i=>by simp
 |t::l,0=>Nat.le_refl _
 |t::l,i+1=>by
  rw[List.drop_succ_cons,wN]
  have:=nU l i
  omega
theorem Gc:∀(n:Nat) (s:aH) (a cnt:Nat) (l:List Tok),jL n s a cnt=.ok l->Ms l<=s.length
 |0,_,_,_,_,h=>by simp[jL]at h
 |n+1,s,a,cnt,l,h=>by
  have hk:=rS (s.length+1) s
  simp only[jL]at h
  split at h
  ·cases h
  split at h
  ·injection h with h
   subst h
   rw[wN]
   simp[wt,Ms]
  rename_i hr
  split at h
  ·cases h
  rename_i ho
  split at h
  ·cases h
  have hlen:s.length-(dE (s.length+1) s).1=(s.drop (dE (s.length+1) s).1).length:=(List.length_drop ..).symm
  obtain⟨o1,o2,o3,o4,o5,o6⟩:=EA hr (Prod.ext rfl (Prod.ext rfl (Classical.not_not.1 ho)):kY (s.drop (dE (s.length+1) s).1)=((kY (s.drop (dE (s.length+1) s).1)).1,(kY (s.drop (dE (s.length+1) s).1)).2.1,0))
  split at h
  ·rename_i l' hl'
   injection h with h
   subst h
   have ih:=Gc n _ _ _ _ hl'
   rw[List.length_drop]at ih
   rw[wN]
   have:wt ⟨(kY (s.drop (dE (s.length+1) s).1)).1.k,(kY (s.drop (dE (s.length+1) s).1)).1.t,((a+(dE (s.length+1) s).1:Nat):Int)⟩<=(kY (s.drop (dE (s.length+1) s).1)).2.1:=by
    unfold wt;split
    ·omega
    split
    ·rename_i hx;rcases o6 hx.1 with h|h
     ·rw[h]at hx;simp at hx
     ·exact h
    ·omega
   omega
  ·rename_i hne;exact absurd h (hne l)
theorem El{s:aH}{l:List Tok}(h:mE s=.ok l):Ms l<=s.length:=by
 unfold mE at h;split at h
 ·cases h
 split at h
 ·cases h
 exact Gc _ _ _ _ _ h
abbrev TT:Int->Prop:=λ_=>True
theorem fS(s:PS):phi (aG s)<=phi s:=by
 unfold aG;split
 ·unfold phi;simp only;have:=nU (s.toks.drop s.i) (eC (s.toks.drop s.i));rw[List.drop_drop]at this;omega
 ·exact Nat.le_refl _
theorem xB{s:PS}(h:(iH s).k≠0):phi (step1 s)+wt (iH s)<=phi s:=by
 have hlt:s.i<s.toks.length:=by
  by_cases hl:s.i<s.toks.length
  ·exact hl
  ·unfold iH at h;rw[List.getD_eq_getElem?_getD,List.getElem?_eq_none (by omega)]at h;exact absurd rfl h
 unfold phi step1;simp only;rw[List.drop_eq_getElem_cons hlt,wN];have:iH s=s.toks[s.i]:=by unfold iH;rw[List.getD_eq_getElem?_getD,List.getElem?_eq_getElem hlt];rfl
 rw[this];omega
theorem Ec{t:Tok}(h:t.k≠0):1<=wt t:=by unfold wt;rw[if_neg h];split<;>omega
theorem kX{s:PS}(h:(bO s).k≠0):phi (step1 (aG s))+wt (iH (aG s))<=phi s/\phi (step1 (aG s))+1<=phi s:=by
 have h':(iH (aG s)).k≠0:=h;have h1:=xB h';have h2:=fS s;have h3:=Ec h';omega
theorem gK(s:PS)(w:aH):phi (aR s w).2<=phi s/\((aR s w).1=true->phi (aR s w).2+1<=phi s):=by
 unfold aR;split
 ·rename_i hi;have:=(kX (iK hi)).2;exact⟨Nat.le_of_succ_le this,λ_=>this⟩
 ·exact⟨fS s,λe=>by cases e⟩
theorem gJ(s:PS)(w:aH):iC (kJ s w) (λ_ s'=>phi s'+1<=phi s) TT:=by
 unfold kJ;split
 ·rename_i hi;exact(kX (iK hi)).2
 ·trivial
theorem qY(s:PS):phi (eZ s)<=phi s/\((bO s).k≠0->phi (eZ s)+wt (iH (aG s))<=phi s/\phi (eZ s)+1<=phi s):=by
 unfold eZ;split
 ·rename_i hk;have:=kX hk;exact⟨by omega,λ_=>this⟩
 ·rename_i hk;exact⟨fS s,λe=>absurd e hk⟩
theorem jX(s:PS)(k:Int):iC (iA s k) (λ_ s'=>phi s'<=phi s/\(k≠0->phi s'+1<=phi s)) TT:=by
 unfold iA;split
 ·rename_i hk;have:=qY s;exact⟨this.1,λh=>(this.2 (by rw[hk];exact h)).2⟩
 ·trivial
theorem qZ(s:PS):phi (dQ s)<=phi s:=by
 have h:=fS s;unfold dQ phi at*
 simp only at*
 have e:(aG s).toks=s.toks:=by unfold aG;split<;>rfl
 have:=nU ((aG s).toks.drop (aG s).i) (eC (s.toks.drop (aG s).i));rw[List.drop_drop]at this;omega
theorem gD(s:PS)(e:Ex):iC (mP s e) (λ_ s'=>phi s'<=phi s+1) TT:=by
 show phi _<=_;unfold phi;simp only[List.length_append,List.length_cons,List.length_nil];omega
theorem gQ{α:Type}{s:PS}{a:Int}{q:Bool}{f:PS->R α}{P:α->Nat->Prop}(h:iC (f {s with deep:=s.deep+1,quiet:=q}) (λx s'=>P x (phi s')) TT):iC (within s a q f) (λx s'=>P x (phi s')) TT:=by
 unfold within;split
 ·trivial
 ·exact h.bind λx s' hx=>hx
def EZ(F:PS->R Nat):Prop:=∀s,iC (F s) (λ_ s'=>phi s'<=phi s) TT
section
variable{E S:PS->R Nat}
theorem CQ(hE:EZ E)(s:PS)(t:aH)(a:Int):iC (lC E s t a) (λ_ s'=>phi s'<=phi s+t.length) TT:=by
 unfold lC;split
 ·trivial
 ·rename_i l hs;have hw:=El hs;refine(hE _).bind λx q hq=>?_;refine(jX q 0).bind λ_ q' hq'=>?_;have h1:phi q'<=s.ex.length+s.bl.length+Ms l:=Nat.le_trans hq'.1 hq;show phi _<=_;unfold phi at h1⊢;simp only;omega
theorem CN(s:PS)(t:Tok):iC (lP s t) (λ_ s'=>s'=s) TT:=by
 unfold lP;split
 ·trivial
 ·rfl
theorem yJ(hE:EZ E):∀(n:Nat) (s:PS) (rest:aH) (a:Int) (us:List Nat) (ks:List aH),iC (jQ E n s rest a us ks) (λ_ s'=>phi s'<=phi s+rest.length) TT
 |0,_,_,_,_,_=>trivial
 |n+1,s,rest,a,us,ks=>by
  have one:∀(e:Ex),phi {s with ex:=s.ex++[e]}<=phi s+1:=λe=>gD s e
  simp only[jQ]
  split
  ·exact Nat.le_add_right _ _
  rename_i hne
  have hpos:1<=rest.length:=List.length_pos_iff.2 hne
  split
  ·have:=one ⟨5,fY rest,[],[],a⟩
   show phi _<=_
   omega
  ·rename_i i e hi
   obtain⟨i1,i2,i3⟩:=xI rest.length rest (Nat.le_refl _) i e hi
   have hs1:∃s1,s1=(if 0<i then{s with ex:=s.ex++[⟨5,fY (rest.take i),[],[],a⟩]}else s)/\phi s1<=phi s+i:=by
    refine⟨_,rfl,?_⟩;split
    ·have:=one ⟨5,fY (rest.take i),[],[],a⟩;omega
    ·omega
   obtain⟨s1,e1,g1⟩:=hs1;rw[<-e1];have hd:(rest.drop e).length=rest.length-e:=List.length_drop ..;split
   ·refine iC.bind (gQ (P:=λ_ n=>n<=phi s1+(e-1-(i+2))) ?_) λx s2 h2=>?_
    ·refine(CQ hE _ _ _).mono λx s' h=>?_;refine Nat.le_trans h ?_;have:((rest.drop (i+2)).take (e-1-(i+2))).length<=e-1-(i+2):=List.length_take_le _ _;exact Nat.add_le_add_left this _
    ·refine(yJ hE n s2 (rest.drop e) _ _ _).mono λy s3 h3=>?_;rw[hd]at h3;omega
   ·refine(yJ hE n s1 (rest.drop e) _ _ _).mono λy s3 h3=>?_;rw[hd]at h3;omega
theorem NC(hE:EZ E)(s:PS)(t:Tok)(hk:t.k=3):iC (zN E s t) (λ_ s'=>phi s'<=phi s+wt t) TT:=by
 unfold zN;split
 ·rename_i hi;have e:wt t=t.t.length+2:=by unfold wt;rw[if_neg (by omega),if_pos ⟨hk,hi⟩]
  refine(yJ hE _ s t.t _ _ _).bind λx s1 h1=>?_;refine(gD s1 _).mono λy s2 h2=>?_;omega
 ·rename_i hi;have e:wt t=1:=by unfold wt;rw[if_neg (by omega),if_neg (λh=>hi h.2)]
  rw[e];exact gD s _
theorem CS(hE:EZ E)(w:aH):∀(n:Nat) (s:PS) (out:List Nat),iC (oR E w n s out) (λ_ s'=>phi s'<=phi s) TT
 |0,_,_=>trivial
 |n+1,s,out=>by
  have t1:=gK s w
  have step:∀{s1:PS},phi s1<=phi s->iC ((E s1).bind λx s'=>oR E w n s' (out++[x])) (λ_ s'=>phi s'<=phi s) TT:=λ{s1} g1=>
   (hE s1).bind λx s2 g2=>(CS hE w n s2 (out++[x])).mono λy s3 g3=>by omega
  simp only[oR]
  split
  ·exact t1.1
  split
  ·rename_i ho
   have:=step t1.1
   exact this
  ·refine(gJ _ [44]).bind λ_ s1 g1=>?_
   have t2:=gK s1 w
   split
   ·show phi _<=_
    omega
   ·exact step (by omega)
theorem Gz(hE:EZ E)(w:aH)(s:PS):iC (BY E w s) (λ_ s'=>phi s'<=phi s) TT:=CS hE w _ s []
theorem NE(hE:EZ E){s:PS}(h:(bO s).k≠0)(hn:aG s=s)(a:Int):iC (zT E s a) (λ_ s'=>phi s'+1<=phi s) TT:=by
 have h0:=(kX h).2;rw[hn]at h0;have h1:=fS (step1 s);unfold zT;simp only;split
 ·refine(Gz hE [93] _).bind λus s1 g1=>?_;show phi s1+1<=_;omega
 ·rename_i hc;have hk1:(bO (step1 s)).k≠0:=λe=>hc (.inl (by rw[e];decide));have h2:=(kX hk1).2;refine(jX _ 1).bind λt s2 g2=>(jX s2 1).bind λu s3 g3=>?_;split
  ·trivial
  refine(hE s3).bind λx s4 g4=>(gJ s4 _).bind λ_ s5 g5=>(hE s5).bind λy s6 g6=>(gJ s6 _).bind λ_ s7 g7=>?_;show phi s7+1<=_;omega
theorem Gw(hE:EZ E)(a:Int):∀(n:Nat) (s:PS) (us:List Nat) (ks:List aH),iC (Cg E a n s us ks) (λ_ s'=>phi s'<=phi s) TT
 |0,_,_,_=>trivial
 |n+1,s,us,ks=>by
  have t1:=gK s [125]
  have n1:=qY (aR s [125]).2
  simp only[Cg]
  split
  ·exact t1.1
  refine iC.bind (P:=λ_ s3=>s3=eZ (aR s [125]).2) ?_ λk s3 e3=>?_
  ·split
   ·exact CN _ _
   ·split
    ·rfl
    ·trivial
  subst e3
  split
  ·trivial
  refine(gJ _ [61]).bind λ_ s4 g4=>(hE s4).bind λx s5 g5=>?_
  have t5:=gK s5 [44]
  have m5:=fS (aR s5 [44]).2
  split
  ·trivial
  have l6:phi (if(aR s5 [44]).1=true then(aR s5 [44]).2 else aG (aR s5 [44]).2)<=phi s5:=by split<;>omega
  generalize (if(aR s5 [44]).1=true then(aR s5 [44]).2 else aG (aR s5 [44]).2)=s6 at*
  have l7:=qZ s6
  refine(Gw hE a n (dQ s6) _ _).mono λe s8 g8=>?_
  omega
theorem Gy(hE:EZ E):EZ (xU E):=by
 intro s;have n1:=fS s;have eM:∀w,kS (aG s) w=kS s w:=λw=>by unfold kS;rw[gH]
 unfold xU;simp only;split
 ·rename_i hk;have h2:=(kX (s:=s) (by rw[hk];decide)).2;exact(gD _ _).mono λx s' g=>by omega
 split
 ·rename_i hk;have h2:=(kX (s:=s) (by rw[hk];decide)).1;refine(NC hE _ _ hk).mono λx s' g=>?_;have e:wt (bO s)=wt (iH (aG s)):=rfl;omega
 split
 ·rename_i hk;have h2:=(kX (s:=s) (by rw[hk.1];decide)).2;have n2:=fS (step1 (aG s));split
  ·rename_i hi;refine iC.bind (gQ (P:=λ_ n=>n<=phi (aG (step1 (aG s)))) ?_) λus s2 g2=>?_
   ·refine(Gz hE [41] _).mono λx s' g=>Nat.le_trans g ?_;show phi (step1 _)<=_;exact Nat.add_le_add_left (by have:=nU ((aG (step1 (aG s))).toks.drop (aG (step1 (aG s))).i) 1;rw[List.drop_drop]at this;exact this) _
   ·exact(gD s2 _).mono λx s' g=>by omega
  ·exact(gD _ _).mono λx s' g=>by omega
 have step1_le:∀(s:PS),phi (step1 s)<=phi s:=λs=>Nat.add_le_add_left (by have:=nU (s.toks.drop s.i) 1;rw[List.drop_drop]at this;exact this) _;have ph:∀(s:PS) (d:Nat) (q:Bool),phi {s with deep:=d,quiet:=q}=phi s:=λ_ _ _=>rfl;split
 ·refine iC.mono (gQ (P:=λ_ n=>n<=phi (aG s)) ?_) λx s' g=>by omega
  refine(hE _).bind λx q1 g1=>(gJ q1 _).bind λ_ q2 g2=>?_;show phi q2<=_;have h1:=step1_le (aG s);have h2:phi q1<=phi (step1 (aG s)):=g1;omega
 split
 ·rename_i hi;rw[eM]at hi;have hk:(iH (aG s)).k≠0:=iK hi;have h4:(iH (aG s)).k=4:=by
   unfold kS bO at hi;simp only[Bool.and_eq_true,decide_eq_true_eq]at hi;exact hi.1
  refine iC.bind (gQ (P:=λ_ n=>n+1<=phi (aG s)) ?_) λe s2 g2=>?_
  ·have hr:aG {aG s with deep:=(aG s).deep+1,quiet:=true}={aG s with deep:=(aG s).deep+1,quiet:=true}:=by
    have hlt:(aG s).i<(aG s).toks.length:=by
     by_cases hl:(aG s).i<(aG s).toks.length
     ·exact hl
     ·unfold iH at hk;rw[List.getD_eq_getElem?_getD,List.getElem?_eq_none (by omega)]at hk;exact absurd rfl hk
    have:eC ((aG s).toks.drop (aG s).i)=0:=by
     refine Gk (t:=iH (aG s)) ?_ (by omega);unfold iH;rw[List.getD_eq_getElem?_getD,List.getElem?_eq_getElem hlt];rfl
    unfold aG;simp only[if_true];show({aG s with i:=(aG s).i+eC ((aG s).toks.drop (aG s).i),deep:=(aG s).deep+1,quiet:=true}:PS)=_;rw[this];rfl
   refine(NE hE ?_ hr _).mono λe s' g=>g;unfold bO;rw[hr];exact hk
  ·exact(gD s2 _).mono λx s' g=>by omega
 split
 ·rename_i hi;rw[eM]at hi;have hk:(iH (aG s)).k≠0:=iK hi;have h1:=xB hk;have h2:=Ec hk;refine iC.bind (gQ (P:=λ_ n=>n+1<=phi (aG s)) ?_) λe s2 g2=>?_
  ·unfold LC;refine(Gw hE _ _ _ [] []).mono λe s' g=>?_;have h3:=qZ (step1 (⟨(aG s).toks,(aG s).i,(aG s).off,(aG s).deep+1,false,(aG s).ex,(aG s).bl⟩:PS));have h4:phi (step1 (⟨(aG s).toks,(aG s).i,(aG s).off,(aG s).deep+1,false,(aG s).ex,(aG s).bl⟩:PS))=phi (step1 (aG s)):=rfl;omega
  ·exact(gD s2 _).mono λx s' g=>by omega
 ·trivial
theorem uO(hE:EZ E):∀(n:Nat) (s:PS) (x:Nat),iC (mZ E n s x) (λ_ s'=>phi s'<=phi s) TT
 |0,_,_=>trivial
 |n+1,s,x=>by
  have n1:=fS s
  have t1:=gK (aG s) [46]
  have eM:∀w,kS (aG s) w=kS s w:=λw=>by unfold kS;rw[gH]
  have step1_le:∀(s:PS),phi (step1 s)<=phi s:=λs=>Nat.add_le_add_left (by have:=nU (s.toks.drop s.i) 1;rw[List.drop_drop]at this;exact this) _
  simp only[mZ]
  split
  ·rename_i ht
   refine(jX _ 1).bind λu s2 g2=>(gD s2 _).bind λy s3 g3=>(uO hE n s3 y).mono λz s4 g4=>?_
   have:=t1.2 ht
   have:=g2.2 (by decide)
   omega
  split
  ·rename_i hi
   rw[eM]at hi
   have hk:(iH (aG s)).k≠0:=iK hi
   have h1:=xB hk
   have h2:=Ec hk
   refine iC.bind (gQ (P:=λ_ n=>n+1<=phi (aG s)) ?_) λo s2 g2=>?_
   ·have h4:phi (step1 (⟨(aG s).toks,(aG s).i,(aG s).off,(aG s).deep+1,true,(aG s).ex,(aG s).bl⟩:PS))=phi (step1 (aG s)):=rfl
    have t5:=gK (step1 (⟨(aG s).toks,(aG s).i,(aG s).off,(aG s).deep+1,true,(aG s).ex,(aG s).bl⟩:PS)) [42]
    split
    ·refine(gJ _ _).bind λ_ q2 g=>?_
     show phi q2+1<=_
     omega
    ·refine(hE _).bind λy q1 g=>(gJ q1 _).bind λ_ q2 g'=>?_
     show phi q2+1<=_
     omega
   ·cases o with
    |some y=>
     simp only
     exact(gD s2 _).bind λz s3 g3=>(uO hE n s3 z).mono λz s4 g4=>by omega
    |none=>
     simp only
     exact(gJ s2 _).bind λ_ s3 g3=>(jX s3 1).bind λu s4 g4=>(gD s4 _).bind λz s5 g5=>(uO hE n s5 z).mono λz s6 g6=>by have:=g4.1;omega
  ·exact n1
theorem ND(hE:EZ E):EZ (AW E):=λs=>by
 unfold AW
 exact(Gy hE s).bind λx s1 g1=>(uO hE _ s1 x).mono λy s2 g2=>by omega
theorem AX(hE:EZ E)(hS:EZ S):EZ (vL E S):=by
 intro s;have n1:=fS s;have eM:∀w,kS (aG s) w=kS s w:=λw=>by unfold kS;rw[gH]
 have one:∀(w:aH) (k:Int),kS s w=true->iC ((within (aG s) (bO s).a (aG s).quiet λq=>S (step1 q)).bind λx s2=>mP s2 ⟨k,[],[x],[],(bO s).a⟩) (λ_ s'=>phi s'<=phi s) TT:=λw k hi=>by
  have hk:(iH (aG s)).k≠0:=iK hi;have h1:=xB hk;have h2:=Ec hk;refine iC.bind (gQ (P:=λ_ n=>n+1<=phi (aG s)) ?_) λx s2 g2=>?_
  ·refine(hS _).mono λx s' g=>?_;have h4:phi (step1 (⟨(aG s).toks,(aG s).i,(aG s).off,(aG s).deep+1,(aG s).quiet,(aG s).ex,(aG s).bl⟩:PS))=phi (step1 (aG s)):=rfl;omega
  ·exact(gD s2 _).mono λy s3 g3=>by omega
 unfold vL;simp only;split
 ·rename_i hi;rw[eM]at hi;exact one [33] 14 hi
 split
 ·rename_i hi;rw[eM]at hi;exact one [45] 13 hi
 ·exact(ND hE (aG s)).mono λx s2 g2=>by omega
theorem CO{J:PS->R Nat}(hJ:EZ J)(k:Nat):∀(f:Nat) (s:PS) (x:Nat),iC (xG J k f s x) (λ_ s'=>phi s'<=phi s) TT
 |0,_,_=>trivial
 |f+1,s,x=>by
  have n1:=fS s
  simp only[xG]
  split
  ·exact n1
  ·rename_i hl
   have hk0:(bO s).k≠0:=λe=>hl (by unfold sA;rw[e];rfl)
   have h2:=(kX hk0).2
   exact(hJ _).bind λb s1 g1=>(gD s1 _).bind λy s2 g2=>(CO hJ k f s2 y).mono λz s3 g3=>by omega
theorem rC(hE:EZ E)(hS:EZ S):∀m,EZ (pP E S m)
 |0=>AX hE hS
 |m+1=>λs=>by
  simp only[pP]
  exact(rC hE hS m s).bind λa s1 g1=>(CO (rC hE hS m) _ _ s1 a).mono λy s2 g2=>by omega
theorem Gx(hE:EZ E)(hS:EZ S):EZ (Ac E S):=by
 intro s;unfold Ac;refine(rC hE hS 6 s).bind λa s1 g1=>?_;have t1:=gK s1 [63];simp only;split
 ·rename_i ht;refine iC.bind (gQ (P:=λ_ n=>n<=phi (aR s1 [63]).2) ?_) λz s2 g2=>?_
  ·refine(hE _).bind λx q1 g3=>(gJ q1 _).bind λ_ q2 g4=>(hE q2).bind λy q3 g5=>?_;have h4:phi (⟨(aR s1 [63]).2.toks,(aR s1 [63]).2.i,(aR s1 [63]).2.off,(aR s1 [63]).2.deep+1,(aR s1 [63]).2.quiet,(aR s1 [63]).2.ex,(aR s1 [63]).2.bl⟩:PS)=phi (aR s1 [63]).2:=rfl;show phi q3<=_;omega
  ·exact(gD s2 _).mono λy s3 g3=>by have:=t1.2 ht;omega
 ·show phi _<=_;omega
end
theorem tU:EZ dead:=λ_=>trivial
theorem sD:∀d,EZ (oM d).1/\EZ (oM d).2
 |0=>⟨Gx tU tU,AX tU tU⟩
 |d+1=>⟨Gx (sD d).1 (sD d).2,AX (sD d).1 (sD d).2⟩
section
variable{E B:PS->R Nat}
theorem AY:∀(n:Nat) (s:PS) (ls:List aH),iC (nH n s ls) (λ_ s'=>phi s'<=phi s) TT
 |0,_,_=>trivial
 |n+1,s,ls=>by
  have n1:=qY s
  simp only[nH]
  split
  ·exact(CN _ _).bind λl s1 e1=>by subst e1;exact(AY n _ (ls++[l])).mono λ_ s2 g=>by omega
  ·exact fS s
theorem Ig(l:List Tok){j:Nat}(h:i<=j):Ms (l.drop j)<=Ms (l.drop i):=by
 have:=nU (l.drop i) (j-i);rw[List.drop_drop,show i+(j-i)=j by omega]at this;exact this
theorem GF(s:PS):s.i<=(aG s).i:=by unfold aG;split;exact Nat.le_add_right _ _;exact Nat.le_refl _
theorem NF(hE:EZ E)(hB:EZ B)(s:PS)(us:List If)(bs:List Nat):iC (zV E B s us bs) (λ_ s'=>phi s'<=phi s) TT:=by
 unfold zV;refine iC.bind (P:=λ_ s1=>s1=step1 (aG s)/\phi s1+1<=phi s) ?_ λt s1 ⟨e1,h1⟩=>?_
 ·unfold iA;split
  ·rename_i hk;have hk0:(bO s).k≠0:=by rw[hk];decide
   refine⟨by unfold eZ;rw[if_pos hk0],((qY s).2 hk0).2⟩
  ·trivial
 have t1:=gK s1 [61];split
 ·exact(hE _).bind λx s2 h2=>by show phi s2<=_;omega
 ·rename_i ht;refine iC.bind (hB _) λx s2 h2=>?_;show phi s2<=_;refine Nat.le_trans h2 ?_;have e2:(aR s1 [61]).2=aG s1:=by
   unfold aR at ht⊢;split
   ·rename_i hi;rw[if_pos hi]at ht;exact absurd rfl ht
   ·rfl
  rw[e2];have hi:s.i<=(aG s1).i-1:=by
   have h1:=GF s;have h2:=GF s1;have h3:s1.i=(aG s).i+1:=by rw[e1];rfl
   omega
  have x1:(aG s1).ex=s.ex:=(eF s1).1.trans (by rw[e1];exact(eF s).1);have x2:(aG s1).bl=s.bl:=(eF s1).2.trans (by rw[e1];exact(eF s).2);have x3:(aG s1).toks=s.toks:=by
   have h1:∀s:PS,(aG s).toks=s.toks:=λs=>by unfold aG;split<;>rfl
   rw[h1,e1];exact h1 s
  unfold phi;simp only;rw[x1,x2,x3];have:=Ig s.toks hi;omega
theorem CP(hE:EZ E)(hB:EZ B):∀(n:Nat) (s:PS) (us:List If) (bs:List Nat),iC (mS E B n s us bs) (λ_ s'=>phi s'<=phi s) TT
 |0,_,_,_=>trivial
 |n+1,s,us,bs=>by
  have t1:=gK s [125]
  simp only[mS]
  split
  ·exact t1.1
  refine(NF hE hB _ us bs).bind λx s1 g1=>?_
  have m1:=fS s1
  split
  ·trivial
  have l1:=qZ (aG s1)
  exact(CP hE hB n _ x.1 x.2).mono λy s2 g2=>by omega
theorem CR(hE:EZ E)(hB:EZ B):EZ (uB E B):=by
 intro s;unfold uB;refine(jX s 1).bind λt s1 g1=>(AY _ s1 []).bind λls s2 g2=>?_;have n2:=fS s2;split
 ·trivial
 refine iC.bind (gQ (P:=λ_ n=>n<=phi (aG s2)) ?_) λx s3 g3=>?_
 ·refine(CP hE hB _ _ [] []).mono λx s' g=>?_;have h3:=qZ (step1 (⟨(aG s2).toks,(aG s2).i,(aG s2).off,(aG s2).deep+1,false,(aG s2).ex,(aG s2).bl⟩:PS));have h4:phi (step1 (⟨(aG s2).toks,(aG s2).i,(aG s2).off,(aG s2).deep+1,false,(aG s2).ex,(aG s2).bl⟩:PS))<=phi (aG s2):=Nat.add_le_add_left (Ig _ (Nat.le_succ _)) _;omega
 ·show phi _<=_;have h1:=g1.2 (by decide);have e:phi {s3 with bl:=s3.bl++[⟨t.t,ls,x.1,x.2,t.a⟩]}=phi s3+1:=by
   unfold phi;simp only[List.length_append,List.length_cons,List.length_nil];omega
  have e':phi (⟨s3.toks,s3.i,s3.off,s3.deep,s3.quiet,s3.ex,s3.bl++[⟨t.t,ls,x.1,x.2,t.a⟩]⟩:PS)=phi s3+1:=e;omega
end
theorem HL:∀d,EZ (zI d)
 |0=>CR tU tU
 |d+1=>CR (sD d).1 (HL d)
theorem YM(s:PS):s.ex.length<=phi s/\s.bl.length<=phi s:=by unfold phi;omega
end
end Go.Syn
