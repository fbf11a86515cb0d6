/- One plain sentence: contracts and plain laws that the claim rests on. Conditions: those that each states. -/
import Derived.Test.YtghhmpppnmoeoaaGreatDoorXLazy1
import Derived.Laws.IdiomCopy
import Derived.Lib.Overlaps
import Derived.Lib.AppendZerosOnto
import Derived.Test.YtghhmpppnmoeoaaGreatDoorXLazy2
import Derived.Sort.OwnSorted
import Derived.Lib.SlicesCompact
import Derived.Lib.DecodeN
import Derived.Lib.RuneBytes
import Derived.Laws.Externs
import Derived.Lib.Split
import Derived.Lib.Join
import Derived.Lib.ItoaNum
import Derived.Maps.RangeRun
import Derived.MapKept
import Derived.Lib.LastIndexByte
import Derived.Lib.AtoiAll
import Derived.Lib.SplitLaws
import Derived.Lib.Builder
import Derived.ProofKit
import Derived.WalkKit
import Derived.Lib.AppendStr
import Derived.Lib.ValidU
import Derived.Lib.Index
set_option linter.all false
set_option linter.unusedSimpArgs false
set_option linter.unusedVariables false
set_option linter.unusedSectionVars false
set_option maxRecDepth 100000
namespace Go.Eng
section
open Go
variable{w:World}{K:Q0}{cs:List Value}{G:Nat->Prop}{T:TypeId}{i:Nat}{n:Nat}{v:Value}{w':World}{P:Program}{c:UInt8}{S:Nat->Prop}
theorem Fg{b:Nat}{T:TypeId}:∀(vs:List Value) (o:Nat) (w:World) (cs:List Value),w.heap[b]?=some (.cells cs.toArray T (0,0))->o+vs.length<=cs.length->
  (w.setCells b o vs).heap[b]?=some (.cells (cs.take o++vs++cs.drop (o+vs.length)).toArray T (0,0))/\Chg (λk=>k=b) w (w.setCells b o vs)/\(w.setCells b o vs).heap.size=w.heap.size
 |[],o,w,cs,h,_=>by
  refine⟨?_,Chg.refl _ _,rfl⟩
  simp only[World.setCells,aM,eS,dV,kI]
  exact h
 |v::r,o,w,cs,h,hl=>by
  rw[aB]at hl
  have hb:(w.setCell ⟨b,o,none⟩ v).heap[b]?=some (.cells (cs.set o v).toArray T (0,0)):=by
   rw[nR,h,yR];simp
  obtain⟨h1,h2,h3⟩:=Fg r (o+1) (w.setCell ⟨b,o,none⟩ v) (cs.set o v) hb (by rw[rC];omega);have hc:Chg (λk=>k=b) w (w.setCell ⟨b,o,none⟩ v):=Chg.set (S:=λk=>k=b) (Chg.refl _ _) (.inl rfl) _;simp only[World.setCells];refine⟨?_,hc.trans h2,by rw[h3];simp⟩;rw[h1];have e:(cs.set o v).take (o+1)++r++(cs.set o v).drop (o+1+r.length)=cs.take o++v::r++cs.drop (o+(v::r).length):=by
   rw[dH,List.getElem?_set_self (by omega),List.take_set_of_le (by omega),List.drop_set_of_lt (by omega),aB];simp;congr 1;omega
  rw[e]
theorem GQ(w:World)(dT sT ty elem:TypeId)(b o dLen dCap:Nat)(a:Addr)(sLen sCap:Nat)(cs:List Value){i:TypeInfo}
  (hu:P.underlying dT=some (.slice elem))(hq:P.info? elem=some i)(hn:cs.length=Nat.min sLen dLen*i.size)
  (hsrc:∀j v,cs[j]?=some v->w.cell? (a.add j)=some v)(hc:∀j,j<cs.length->(w.cell? ⟨b,o+j,none⟩).isSome=true)(hf:∀j,j<cs.length->w.frozen? ⟨b,o+j,none⟩=false)(h1:∀v∈cs,v.oneCell'=true):
  (Builtin.copy_ #[dT,sT] ty #[.slice (some ⟨b,o,none⟩) dLen dCap,.slice (some a) sLen sCap]).run P w=.ok (goInt (Nat.min sLen dLen)) (w.setCells b o cs):=by
 have hl:=run_loadCells_list (P:=P) w a cs hsrc;have hst:=run_storeCells_cells (P:=P) b o cs 0 w (by simpa using hc) (by simpa using hf) h1;simp[Builtin.copy_,bH hu,Builtin.lenOf,Builtin.firstCells,sizeOf,typeInfo,hq,<-hn,hl,hst,run_bind,run_pure]
theorem HM{dT sT ty e:TypeId}{size bytes:Nat}(hT:qQ P dT e size bytes){b o dl dc sl sc:Nat}{a:Addr}{vs:List Value}{K:Q0}
  (hb:w.heap[b]?=some (.cells cs.toArray T (0,0)))(hn:vs.length=Nat.min sl dl*size)(hsrc:∀j v,vs[j]?=some v->w.cell? (a.add j)=some v)(hfit:o+vs.length<=cs.length)(h1:∀v∈vs,fG v=true)
  (hK:∀r w',w'.heap[b]?=some (.cells (cs.take o++vs++cs.drop (o+vs.length)).toArray T (0,0))->Chg (λk=>k=b) w w'->w'.heap.size=w.heap.size->K r w'):
  dF P (Builtin.copy_ #[dT,sT] ty #[.slice (some ⟨b,o,none⟩) dl dc,.slice (some a) sl sc]) w K:=by
 obtain⟨i,z,hi,_,hs,_,_⟩:=hT.get;unfold dF
 rw[GQ w dT sT ty e b o dl dc a sl sc vs hT.und hi (by rw[hs];exact hn) hsrc (λj hj=>by
    rw[cD,hb,cH];simp;omega) (λj hj=>by rw[lU,hb,qI]) λv hv=>uM (h1 v hv)]
 obtain⟨q1,q2,q3⟩:=Fg vs o w cs hb hfit;exact hK _ _ q1 q2 q3
section
variable [HX]
def XT(P:Program)(s:Nat)(t it:TypeId)(ov rep:FuncId)(v0 v1 v2:Value)(w:World)(K:Q0):Prop:=
 kC s v0 (some v1) none none λ_=>
 cY v2 λt14=>
 aP .eql t14 (.int .i64 0) λt16=>
 aR t16 (
  K v0 w) (
  cY v0 λt19=>
  aP .eql v1 t19 λt22=>
  aR t22 (
   dF P (Builtin.append_ #[t,t] t #[v0,v2]) w λt25 w1=>
   K t25 w1) (
   aP .add t19 t14 λt28=>
   Ox v0 λt30=>
   aP .gtr t28 t30 λt31=>
   aR t31 (
    kC s v0 none (some v1) none λt34=>
    aP .add t19 t14 λt37=>
    aP .sub t37 v1 λt39=>
    dF P (Builtin.append_ #[t,it] t #[t34,t39]) w λt40 w2=>
    kC s t40 (some v1) none none λt43=>
    dF P (Builtin.copy_ #[t,t] it #[t43,v2]) w2 λ_ w3=>
    aP .add v1 t14 λt49=>
    kC s t40 (some t49) none none λt50=>
    kC s v0 (some v1) none none λt53=>
    dF P (Builtin.copy_ #[t,t] it #[t50,t53]) w3.drew λ_ w4=>
    K t40 w4) (
    aP .add t19 t14 λt59=>
    kC s v0 none (some t59) none λt60=>
    aP .add v1 t14 λt65=>
    kC s t60 (some t65) none none λt66=>
    aC P ov [v2,t66] w λt67 w5=>
    unW .not t67 λt68=>
    aR t68 (
     aP .add v1 t14 λt72=>
     kC s t60 (some t72) none none λt73=>
     kC s t60 (some v1) none none λt76=>
     dF P (Builtin.copy_ #[t,t] it #[t73,t76]) w5.drew λ_ w6=>
     kC s t60 (some v1) none none λt80=>
     dF P (Builtin.copy_ #[t,t] it #[t80,v2]) w6 λ_ w7=>
     K t60 w7) (
     kC s t60 (some t19) none none λt86=>
     dF P (Builtin.copy_ #[t,t] it #[t86,v2]) w5 λ_ w8=>
     kC s t60 (some v1) none none λt91=>
     aC P rep [t91,t14] w8 λ_ w9=>
     K t60 w9))))
theorem Ae{s g o cap:Nat}{K:Value->Prop}(hi:i<=n)(hn:n<=cap)(hne:cap≠i):kC s (.slice (some ⟨g,o,none⟩) n cap) (some (i64 (i:Nat))) none none K↔K (.slice (some ⟨g,o+i*s,none⟩) (n-i) (cap-i)):=by
 rw[GL,fI,fI,eX];simp only[aW,aE hne,gF,bZ];constructor
 ·rintro⟨_,_,h⟩;exact h
 ·intro h;exact⟨by omega,by omega,h⟩
theorem Pf{s g cap:Nat}{K:Value->Prop}(hi:i<=cap)(h0:0<cap):kC s (.slice (some ⟨g,0,none⟩) n cap) none (some (i64 (i:Nat))) none K↔K (.slice (some ⟨g,0,none⟩) i cap):=by
 rw[GL,fI,eX,fI];simp only[aW,aE (show¬cap=0 by omega),gF,bZ,qO,eS,Nat.sub_zero];constructor
 ·rintro⟨_,_,h⟩;exact h
 ·intro h;exact⟨by omega,by omega,h⟩
theorem Jp{t it ov rep e T2:TypeId}{size bytes:Nat}(hT:qQ P t e size bytes)(hit:P.underlying it=some (.int .i64))
  (hov:∀{w:World} {a b oa ob la ca lb cb:Nat} {x y:List Value} {T1 T2:TypeId} {K:Q0},a≠b->w.heap[a]?=some (.cells x.toArray T1 (0,0))->w.heap[b]?=some (.cells y.toArray T2 (0,0))->y≠[]->K (.bool false) w->aC P ov [.slice (some ⟨a,oa,none⟩) la ca,.slice (some ⟨b,ob,none⟩) lb cb] w K){base tb:Nat}{xs c:List Value}{K:Q0}(hown:Own w base e size v n xs)(ht:w.heap[tb]?=some (.cells c.toArray T2 (0,0)))(hc:c.length=size)(h1:∀u∈c,fG u=true)(hx1:∀u∈xs,fG u=true)
  (hne:v.ownBlock≠some tb)(hi:i<=n)(hn:n<=1000000)(hby:bytes<=1000)(hbase:base<=w.heap.size)
  (hK:∀v' w',Own w' base e size v' (n+1) (xs.take (i*size)++c++xs.drop (i*size))->Chg (λk=>v.ownBlock=some k) w w'->(∀k,v'.ownBlock=some k->v.ownBlock=some k\/w.heap.size<=k)->K v' w'):
  XT P size t it ov rep v (i64 (i:Nat)) (.slice (some ⟨tb,0,none⟩) 1 1) w K:=by
 have hpos:=hT.pos;have hmb:(n+1)*bytes<=140737488355328:=by
  have:=tE (show n+1<=1000001 by omega) hby;omega
 have hsl:SlAt w T2 (.slice (some ⟨tb,0,none⟩) 1 1) 1 c:=⟨_,_,rfl,aS _,λe=>(by cases e),λ_=>⟨tb,0,_,_,rfl,ht,λj _=>by rw[aV];simp⟩⟩;have hl:=hown.1;have hlen:cY v=λK=>K (i64 (n:Nat)):=by
  funext K;exact propext (fY hown.sl K)
 unfold XT;have chk:∀(B:Value->Prop),(∀x,B x)->kC size v (some (i64 (i:Nat))) none none B:=λB hB=>by
  obtain⟨p,cap,rfl,hcap,_⟩:=hown.sl;rw[GL,fI,fI,eX];exact⟨by omega,by omega,hB _⟩
 refine chk _ λ_=>?_;rw[zD,bM,cP (by decide),cX,hlen];dsimp only;rw[bM,aO];refine⟨λe1=>?_,λe1=>?_⟩
 ·obtain rfl:i=n:=by omega
  refine jO hT hown hsl (by omega) h1 (by omega) hmb hbase λv' w' hO hch hblk=>?_;refine hK v' w' ?_ hch hblk;have e1:xs.take (i*size)=xs:=dZ (by omega);have e2:xs.drop (i*size)=[]:=dS.2 (by omega);rw[e1,e2,dV];exact hO
 have hlt:i<n:=by omega
 have hsz:i*size<n*size:=Nat.mul_lt_mul_of_pos_right hlt hpos;obtain⟨_,⟨_,h0⟩|⟨g,cap,cur,rfl,hg,hgb,hnc,hcm,hcs,htake⟩⟩:=hown
 ·omega
 have en1:IntKind.i64.wrap ((n:Int)+((1:Nat):Int))=((n+1:Nat):Int):=by rw[cN (by omega) (by omega)];omega
 have ei1:IntKind.i64.wrap ((i:Int)+((1:Nat):Int))=((i+1:Nat):Int):=by rw[cN (by omega) (by omega)];omega
 have hgne:tb≠g:=λe=>hne (by rw[e];rfl);have hgb':w.heap[g]?=some (.cells cur.toList.toArray e (0,0)):=by rw[Array.toArray_toList];exact hgb
 have hcl:cur.toList.length=cap*size:=by rw[CW];exact hcs
 generalize cur.toList=L at*
 have hncap:n*size<=cap*size:=eD _ hnc;have hisz:i*size+size<=n*size:=by rw[<-EA];exact eD _ hlt
 have hrest:(xs.drop (i*size)).length=(n-i)*size:=by rw[aQ,hl,Nat.sub_mul]
 have hsrc0:∀j u,(xs.drop (i*size))[j]?=some u->L[i*size+j]?=some u:=λj u hj=>by
  rw[List.getElem?_drop,<-htake,List.getElem?_take]at hj;split at hj
  ·exact hj
  ·cases hj
 have hone:∀u∈xs.drop (i*size),fG u=true:=λu hu=>hx1 u (BX hu);rw[cC,en1];have hcap:∀K:Value->Prop,Ox (.slice (some ⟨g,0,none⟩) n cap) K↔K (i64 (cap:Nat)):=λK=>gU;rw[hcap,mC,aO];refine⟨λhfull=>?_,λhroom=>?_⟩
 ·obtain rfl:cap=n:=by omega
  rw[Pf (by omega) (by omega),cC,en1,mB,cN (by omega) (by omega)];have ek:((cap+1:Nat):Int)-(i:Int)=((cap+1-i:Nat):Int):=by omega
  rw[ek];obtain⟨inf,z,hinf,hz,h2,h3,h4⟩:=hT.get;have hold:(Builtin.firstCells inf.size i (.slice (some ⟨g,0,none⟩) i cap)).run P w.drew=.ok (xs.take (i*size)).toArray w.drew:=by
   rw[h2];have hlt2:(xs.take (i*size)).length=i*size:=by rw[bU];omega
   have:=run_loadCells_list (P:=P) w.drew ⟨g,0,none⟩ (xs.take (i*size)) λj u hj=>by
    rw[bZ,cD,heap_drew,hgb',cH];rw[List.getElem?_take]at hj;split at hj
    ·rw[<-htake,List.getElem?_take]at hj;split at hj
     ·rw[aV];simpa using hj
     ·cases hj
    ·cases hj
   rw[hlt2]at this;simpa[Builtin.firstCells]using this
  have hr:=Lib.run_append_grow_zeros (P:=P) w t it t e inf z .i64 .i64 hT.und hit hinf hz (some ⟨g,0,none⟩) i cap (xs.take (i*size)) hold (cap+1-i) (by omega) (by omega) (by omega) (by omega) (by rw[h3];have:=tE (show cap+1-i<=1000001 by omega) hby;omega) (growslice_fits (by omega) (by rw[h3,show i+(cap+1-i)=cap+1 by omega];exact hmb));have ei:i+(cap+1-i)=cap+1:=by omega
  rw[ei]at hr;unfold dF;rw[hr];dsimp only;have hgc:cap+1<=grownCap w (cap+1) cap e:=grownCap_ge w (cap+1) cap e;have hgm:grownCap w (cap+1) cap e<=maxLen:=grownCap_le_maxLen _ _ _ _ (by simp[maxLen];omega);generalize hN:grownCap w (cap+1) cap e=N at*
  have hzl:∀k,(Builtin.zeroCells z.cells k).toList.length=k*size:=λk=>by rw[CW,size_zeroCells,h4]
  obtain⟨Z,hZ,hZl⟩:∃Z:List Value,(xs.take (i*size)).toArray++Builtin.zeroCells z.cells (cap+1-i)++Builtin.zeroCells z.cells (N-(cap+1))=(xs.take (i*size)++Z).toArray/\Z.length=(N-i)*size:=by
   refine⟨(Builtin.zeroCells z.cells (cap+1-i)).toList++(Builtin.zeroCells z.cells (N-(cap+1))).toList,?_,?_⟩
   ·apply xE;simp
   ·rw[aX,hzl,hzl,<-gB];congr 1;omega
  rw[hZ];have hNi:(N-i)*size=size+(cap-i)*size+(N-(cap+1))*size:=by
   rw[show N-i=1+(cap-i)+(N-(cap+1))by omega,gB,gB,Nat.one_mul]
  have hx0:Ext w (w.drew.alloc (.cells (xs.take (i*size)++Z).toArray e)):=Chg.alloc (Chg.drew (Chg.refl _ _)) _;have hb0:(w.drew.alloc (.cells (xs.take (i*size)++Z).toArray e)).heap[w.heap.size]?=some (.cells (xs.take (i*size)++Z).toArray e (0,0)):=gQ _ _ _ rfl;have hz0:(w.drew.alloc (.cells (xs.take (i*size)++Z).toArray e)).heap.size=w.heap.size+1:=by simp
  generalize (w.drew.alloc (.cells (xs.take (i*size)++Z).toArray e))=w2 at*
  have hlt1:(xs.take (i*size)).length=i*size:=by rw[bU];omega
  rw[Ae (by omega) hgc (by omega)];have htlt:=fJ ht;have hglt:=fJ hgb';refine HM hT (vs:=c) hb0 (by rw[hc,show Nat.min 1 (cap+1-i)=1 by simp only[Nat.min_def];split<;>omega,Nat.one_mul]) (λj u hj=>?_) (by rw[aX,hlt1,hZl,hc];omega) h1 λ_ w3 hb3 hc3 hz3=>?_
  ·rw[bZ,cD,hx0.at ht id,cH,aV];simpa using hj
  rw[cC,ei1,Ae (by omega) hgc (by omega),Ae (by omega) (aS _) (by omega)];have hb3':w3.drew.heap[w.heap.size]?=some (.cells (xs.take (i*size)++c++Z.drop size).toArray e (0,0)):=by
   have ez:List.take (0+i*size) (List.take (i*size) xs++Z)++c++List.drop (0+i*size+c.length) (List.take (i*size) xs++Z)=xs.take (i*size)++c++Z.drop size:=by
    rw[aV,List.take_left' hlt1,<-gT,List.drop_left' hlt1,hc]
   rw[heap_drew,hb3,ez]
  have hg3:w3.drew.heap[g]?=some (.cells L.toArray e (0,0)):=by
   rw[heap_drew];exact hc3.at (hx0.at hgb' id) (by omega)
  have hfl:(xs.take (i*size)++c++Z.drop size).length=N*size:=by
   rw[aX,aX,hlt1,hc,aQ,hZl,hNi,show N*size=(i+(N-i))*size by congr 1;omega,gB,hNi];omega
  have hpre:(xs.take (i*size)++c).length=(i+1)*size:=by rw[aX,hlt1,hc,gB,Nat.one_mul]
  have hNn:(cap+1)*size<=N*size:=eD _ hgc;have hsum:(i+1)*size+(cap-i)*size=(cap+1)*size:=by rw[<-gB];congr 1;omega
  refine HM hT (vs:=xs.drop (i*size)) hb3' (by rw[hrest,show Nat.min (cap-i) (cap+1-(i+1))=cap-i by simp only[Nat.min_def];split<;>omega]) (λj u hj=>?_) (by rw[hfl,hrest,aV];omega) hone λ_ w4 hb4 hc4 hz4=>?_
  ·rw[bZ,cD,hg3,cH,aV];simpa using hsrc0 j u hj
  have hx4:Ext w w4:=(((hx0.new hc3 (aS _)).then (Chg.drew (Chg.refl (λ_=>False) w3)) λ_ _ e=>e.elim)).new hc4 (aS _);refine hK _ w4 ⟨?_,.inr ⟨w.heap.size,N,_,rfl,hbase,hb4,hgc,hgm,?_,?_⟩⟩ (Chg.of_ext hx4) λk hk=>.inr ?_
  ·rw[aX,hpre,hrest,hsum]
  ·rw[jX,hrest,aX,aX,hrest,bU,aQ,hfl,aV];omega
  ·rw[List.toList_toArray];rw[aV,List.take_left' hpre];refine List.take_left' ?_;rw[aX,hpre,hrest,hsum]
  ·simp only[Value.ownBlock,bE]at hk;omega
 ·have hroom:n+1<=cap:=by omega
  rw[cC,en1,Pf hroom (by omega),cC,ei1,Ae (by omega) hroom (by omega)];have hLne:L≠[]:=λe=>by rw[e]at hcl;simp at hcl;have:=Nat.mul_lt_mul_of_pos_right (show 0<cap by omega) hpos;omega
  refine hov hgne ht hgb' hLne ?_;rw[eM,iL,dY,cC,ei1,Ae (by omega) hroom (by omega),Ae (by omega) hroom (by omega)];have hncap1:(n+1)*size<=cap*size:=eD _ hroom;have hsum:(i+1)*size+(n-i)*size=(n+1)*size:=by rw[<-gB];congr 1;omega
  have hpre:(i+1)*size=i*size+size:=by rw[gB,Nat.one_mul]
  have hgd:w.drew.heap[g]?=some (.cells L.toArray e (0,0)):=by rw[heap_drew];exact hgb'
  refine HM hT (vs:=xs.drop (i*size)) hgd (by rw[hrest,show Nat.min (n+1-i) (n+1-(i+1))=n-i by simp only[Nat.min_def];split<;>omega]) (λj u hj=>?_) (by rw[hcl,hrest,aV];omega) hone λ_ w3 hb3 hc3 hz3=>?_
  ·rw[bZ,cD,hgd,cH,aV];simpa using hsrc0 j u hj
  rw[Ae (by omega) hroom (by omega)];have htd:w.drew.heap[tb]?=some (.cells c.toArray T2 (0,0)):=by rw[heap_drew];exact ht
  have ht3:=hc3.at htd hgne;have hlt1:(L.take (i*size)).length=i*size:=by rw[bU,hcl];omega
  have hlt2:(L.take (0+(i+1)*size)).length=(i+1)*size:=by rw[bU,hcl,aV];omega
  have hfl:(L.take (0+(i+1)*size)++xs.drop (i*size)++L.drop (0+(i+1)*size+(xs.drop (i*size)).length)).length=cap*size:=by
   rw[hrest,aX,aX,hlt2,hrest,aQ,hcl,aV];omega
  refine HM hT (vs:=c) hb3 (by rw[hc,show Nat.min 1 (n+1-i)=1 by simp only[Nat.min_def];split<;>omega,Nat.one_mul]) (λj u hj=>?_) (by rw[hfl,hc];omega) h1 λ_ w4 hb4 hc4 hz4=>?_
  ·rw[bZ,cD,ht3,cH,aV];simpa using hj
  have hch:Chg (λk=>(Value.slice (some ⟨g,0,none⟩) n cap).ownBlock=some k) w w4:=(((Chg.drew (Chg.refl (λk=>k=g) w)).trans hc3).trans hc4).mono λk _ e=>by rw[e];rfl
  have mN:(L.take (0+(i+1)*size)++xs.drop (i*size)++L.drop (0+(i+1)*size+(xs.drop (i*size)).length)).take (0+i*size)++c++(L.take (0+(i+1)*size)++xs.drop (i*size)++L.drop (0+(i+1)*size+(xs.drop (i*size)).length)).drop (0+i*size+c.length)=xs.take (i*size)++c++xs.drop (i*size)++L.drop ((i+1)*size+(xs.drop (i*size)).length):=by
   rw[aV,aV,hc,<-hpre,eV (L.take ((i+1)*size)),qE (by rw[bU,hcl];omega),zO,kA (by omega)];have e1:L.take (i*size)=xs.take (i*size):=by rw[<-htake,zO,kA (by omega)]
   have e2:(L.take ((i+1)*size)++(xs.drop (i*size)++L.drop ((i+1)*size+(xs.drop (i*size)).length))).drop ((i+1)*size)=xs.drop (i*size)++L.drop ((i+1)*size+(xs.drop (i*size)).length):=List.drop_left' (by rw[bU,hcl];omega);rw[e1,e2];simp
  rw[mN]at hb4;have hxl:(xs.take (i*size)).length=i*size:=by rw[bU];omega
  refine hK _ w4 ⟨?_,.inr ⟨g,cap,_,rfl,hg,hb4,hroom,hcm,?_,?_⟩⟩ hch λk hk=>.inl hk
  ·rw[aX,aX,hxl,hc,hrest];omega
  ·rw[jX,hrest,aX,aX,aX,hxl,hc,hrest,aQ,hcl];omega
  ·rw[List.toList_toArray];refine List.take_left' ?_;rw[aX,aX,hxl,hc,hrest];omega
end
end
end Go.Eng
namespace Go.Proofs.YtghhmpppnmoeoaaGreatDoor
section
open Go Go.Eng Go.Num
variable{w:World}{K:Q0}{cs:List Value}{G:Nat->Prop}{T:TypeId}{i:Nat}{n:Nat}{v:Value}{w':World}{P:Program}{c:UInt8}{S:Nat->Prop}
abbrev UO:JV:=.mk 3 false [49] [] []
section
variable [HX]
theorem yL.rep{w0:World}{base:Nat}{v:JV}{sv kv:Value}(h:yL w0 w base v sv kv)(hx:Ext w0 w):eR w v [i64 v.k,.bool v.b,str v.t,sv,kv]:=by
 obtain⟨sv',kv',T1,T2,L,he,h1,h2,h3,h4⟩:=h.val;simp only[eF,kX,dM]at he;obtain⟨rfl,rfl⟩:=he;exact eR.mk h1 (h2.ext hx) h3 h4
theorem Ye{v x:JV}{ds:List Value}{k:Str}{K:Q0}(h:eR w v cs)(hd:eR w x ds)(hl:v.k=6->v.ks.length=v.xs.length)(hfew:v.ks.length<=100000)(hk:k.length<=9223372036854775807)
  (hK:∀es w',Ext w w'->eR w' (wG v k x) es->K (.agg es.toArray) w'):aC P0 12 [.agg cs.toArray,str k,.agg ds.toArray] w K:=by
 refine SH h hd hl hfew hk λsv kv base w' hx hb hO=>?_;have hr:=hO.rep hx;have e:(wG v k x).k=6/\(wG v k x).b=false/\(wG v k x).t=[]:=by unfold wG;split<;>exact⟨rfl,rfl,rfl⟩
 rw[e.1,e.2.1,e.2.2]at hr;exact hK _ w' hx hr
abbrev nb:Str:=[110,101,119,95,98]
abbrev aEJ:JV:=.mk 6 false [] [UO] [[97]]
abbrev aEI:JV:=.mk 6 false [] [UO,UO] [[97],nb]
theorem putB:wG aEJ nb UO=aEI:=by rfl
end
end
end Go.Proofs.YtghhmpppnmoeoaaGreatDoor
namespace Go.Eng
section
open Go
def iN(s:Str)(i:Nat):Int:=match s[i]? with|some b=>(b.toNat:Int)|none=>-1
def oK(s:Str)(i:Nat):Bool:=decide (128<=iN s i)&&decide (iN s i<192)
def iF(s:Str)(i:Nat):Nat:=
 let c:=iN s i
 if c<0 then 0 else if c<128 then 1
 else if 194<=c/\c<224/\oK s (i+1)=true then 2
 else if 224<=c/\c<240/\oK s (i+1)=true/\oK s (i+2)=true/\
  2048<=(c-224)*4096+(iN s (i+1)-128)*64+iN s (i+2)-128/\((c-224)*4096+(iN s (i+1)-128)*64+iN s (i+2)-128<55296\/57343<(c-224)*4096+(iN s (i+1)-128)*64+iN s (i+2)-128)then 3
 else if 240<=c/\c<245/\oK s (i+1)=true/\oK s (i+2)=true/\oK s (i+3)=true/\
  65536<=(c-240)*262144+(iN s (i+1)-128)*4096+(iN s (i+2)-128)*64+iN s (i+3)-128/\(c-240)*262144+(iN s (i+1)-128)*4096+(iN s (i+2)-128)*64+iN s (i+3)-128<=1114111 then 4
 else 0
def b8(n:Nat):UInt8:=UInt8.ofNat n
def wrM(n:Nat):Str:=
 if n<128 then [b8 n]else if n<2048 then [b8 (192+n/64),b8 (128+n%64)]
 else if n<65536 then [b8 (224+n/4096),b8 (128+n/64%64),b8 (128+n%64)]
 else [b8 (240+n/262144),b8 (128+n/4096%64),b8 (128+n/64%64),b8 (128+n%64)]
def aEK(n:Nat):UInt8:=if n<10 then b8 (48+n)else b8 (87+n)
def aC4(c:UInt8):Str:=
 if c=34\/c=92 then [92,c]else if c=8 then [92,98]else if c=12 then [92,102]else if c=10 then [92,110]else if c=13 then [92,114]else if c=9 then [92,116]
 else if c<32 then [92,117,48,48,b8 (48+c.toNat/16),aEK (c.toNat%16)]else [c]
def GV(s:Str):Str:=[34]++s.flatMap aC4++[34]
def QJ:List Str->Str
 |[]=>[]
 |[x]=>x
 |x::y::r=>x++[44]++QJ (y::r)
mutual
def Yb:JV->Str
 |.mk k b t xs ks=>
  if k=0 then [110,117,108,108]else if k=2 then(if b then [116,114,117,101]else [102,97,108,115,101])else if k=3 then t else if k=4 then GV t
  else if k=6 then [123]++QJ (List.zipWith (λa b=>GV a++[58]++b) ks (Pk xs))++[125]else [91]++QJ (Pk xs)++[93]
def Pk:List JV->List Str
 |[]=>[]
 |x::xs=>Yb x::Pk xs
end
def Vj(c:Int):Bool:=decide (c=32)||decide (c=9)||decide (c=10)||decide (c=13)
def isDig(c:Int):Bool:=decide (48<=c)&&decide (c<=57)
def Jq(c:Int):Int:=if 48<=c/\c<=57 then c-48 else if 97<=c/\c<=102 then c-87 else if 65<=c/\c<=70 then c-55 else-1
def aAW(s:Str)(i:Nat):Int:=
 if i+6<=s.length/\iN s i=92/\iN s (i+1)=117/\0<=Jq (iN s (i+2))/\0<=Jq (iN s (i+3))/\0<=Jq (iN s (i+4))/\0<=Jq (iN s (i+5))then
  ((Jq (iN s (i+2))*16+Jq (iN s (i+3)))*16+Jq (iN s (i+4)))*16+Jq (iN s (i+5))else-1
def aEM(s:Str)(i:Nat):Option (Str×Nat):=
 let c:=iN s (i+1)
 if c=34 then some ([34],2)else if c=92 then some ([92],2)else if c=47 then some ([47],2)else if c=98 then some ([8],2)else if c=102 then some ([12],2)
 else if c=110 then some ([10],2)else if c=114 then some ([13],2)else if c=116 then some ([9],2)
 else
  let a:=aAW s i
  let b:=aAW s (i+6)
  if a<0\/56320<=a/\a<=57343 then none
  else if 55296<=a/\a<=56319 then(if b<56320\/57343<b then none else some (wrM (65536+(a-55296)*1024+b-56320).toNat,12))
  else some (wrM a.toNat,6)
end
section
open Go
variable{w:World}{K:Q0}{cs:List Value}{G:Nat->Prop}{T:TypeId}{i:Nat}{n:Nat}{v:Value}{w':World}{P:Program}{c:UInt8}{S:Nat->Prop}
mutual
def nL:JV->Nat
 |.mk _ _ _ xs _=>1+nU xs
def nU:List JV->Nat
 |[]=>0
 |x::xs=>nL x+nU xs
end
theorem MQ(v:JV):1<=nL v:=by cases v;simp only[nL];omega
theorem byte_at{s r:Str}(h:s.drop i=c::r):iN s i=c.toNat:=by
 unfold iN;have:s[i]?=some c:=by
  have:=List.getElem?_drop (xs:=s) (i:=i) (j:=0);rw[h]at this;simpa using this.symm
 rw[this]
theorem Rq{s l r:Str}(h:s.drop i=l++r):s.drop (i+l.length)=r:=by
 rw[<-gT,h,List.drop_left]
theorem wQ{s r:Str}(h:s.drop i=c::r):i<s.length:=by
 apply Nat.lt_of_not_le;intro hle;rw[dS.2 hle]at h;cases h
def bt(s:Str)(i:Nat):Nat:=(s.getD i 0).toNat
theorem AZ(s:Str)(i:Nat):bt s i<256:=pJ _
theorem nW{s:Str}(h:i<s.length):iN s i=(bt s i:Int):=by
 unfold iN bt;rw[List.getElem?_eq_getElem h,List.getD_eq_getElem?_getD,List.getElem?_eq_getElem h];rfl
theorem Gr{s:Str}(h:s.length<=i):iN s i=-1:=by
 unfold iN;rw[List.getElem?_eq_none h]
theorem get_bt(s:Str)(i:Nat):((ofL s).get! i).toNat=bt s i:=by
 unfold bt;congr 1;show(s.toArray)[i]! =s.getD i 0;rw[List.getElem!_toArray,List.getElem!_eq_getElem?_getD,List.getD_eq_getElem?_getD];rfl
theorem MM(s:Str)(i:Nat):Utf8.decode (ofL s) i=Lib.decodeN (s.length-i) (bt s i) (bt s (i+1)) (bt s (i+2)) (bt s (i+3)):=by
 rw[Lib.decode_at,get_bt,get_bt,get_bt,get_bt,fL]
abbrev mor(L k b:Nat):Prop:=k<L/\128<=b/\b<192
abbrev c3(b0 b1 b2:Nat):Nat:=(b0-224)*4096+(b1-128)*64+(b2-128)
abbrev c4(b0 b1 b2 b3:Nat):Nat:=(b0-240)*262144+(b1-128)*4096+(b2-128)*64+(b3-128)
def VF(L b0 b1 b2 b3:Nat):Nat×Nat:=
 if b0<128 then(b0,1)
 else if 194<=b0/\b0<224/\mor L 1 b1 then((b0-192)*64+(b1-128),2)
 else if 224<=b0/\b0<240/\mor L 1 b1/\mor L 2 b2/\2048<=c3 b0 b1 b2/\(c3 b0 b1 b2<55296\/57343<c3 b0 b1 b2)then(c3 b0 b1 b2,3)
 else if 240<=b0/\b0<245/\mor L 1 b1/\mor L 2 b2/\mor L 3 b3/\65536<=c4 b0 b1 b2 b3/\c4 b0 b1 b2 b3<=1114111 then(c4 b0 b1 b2 b3,4)
 else(65533,1)
theorem JR{L b0 b1 b2 b3:Nat}(h0:b0<256)(h1:b1<256)(h2:b2<256)(h3:b3<256):Lib.decodeN L b0 b1 b2 b3=VF L b0 b1 b2 b3:=by
 have m1:(1<L/\b1/64=2)↔mor L 1 b1:=by unfold mor;omega
 have m2:(2<L/\b2/64=2)↔mor L 2 b2:=by unfold mor;omega
 have m3:(3<L/\b3/64=2)↔mor L 3 b3:=by unfold mor;omega
 unfold Lib.decodeN VF;simp only[m1,m2,m3];by_cases a0:b0<128
 ·rw[aJ a0,aJ a0]
 rw[aE a0,aE a0];by_cases a1:b0<194
 ·rw[aE (show¬(194<=b0/\b0<224/\mor L 1 b1)fromλh=>by omega),aE (show¬(224<=b0/\b0<240/\_)fromλh=>by omega),aE (show¬(240<=b0/\b0<245/\_)fromλh=>by omega)];rw[aE (show¬(b0/16=14/\_)fromλh=>by omega),aE (show¬(b0/8=30/\_)fromλh=>by omega)];by_cases a2:b0/32=6/\mor L 1 b1
  ·rw[aJ a2,aE (by omega)]
  ·rw[aE a2]
 by_cases a2:b0<224
 ·rw[aE (show¬(224<=b0/\b0<240/\_)fromλh=>by omega),aE (show¬(240<=b0/\b0<245/\_)fromλh=>by omega)];rw[aE (show¬(b0/16=14/\_)fromλh=>by omega),aE (show¬(b0/8=30/\_)fromλh=>by omega)];by_cases q:mor L 1 b1
  ·have q':=q;unfold mor at q';rw[aJ ⟨by omega,q⟩,aJ (by omega),aJ ⟨by omega,a2,q⟩];apply fU
   ·show b0%32*64+b1%64=(b0-192)*64+(b1-128);omega
   ·rfl
  ·rw[aE (λh=>q h.2),aE (λh=>q h.2.2)]
 by_cases a3:b0<240
 ·rw[aE (show¬(194<=b0/\b0<224/\mor L 1 b1)fromλh=>by omega),aE (show¬(240<=b0/\b0<245/\_)fromλh=>by omega)];rw[aE (show¬(b0/32=6/\_)fromλh=>by omega),aE (show¬(b0/8=30/\_)fromλh=>by omega)];by_cases q:mor L 1 b1/\mor L 2 b2
  ·have q':=q;unfold mor at q';have e:b0%16*4096+b1%64*64+b2%64=c3 b0 b1 b2:=by unfold c3;omega
   have e2:c3 b0 b1 b2<=65535:=by unfold c3;omega
   rw[aJ ⟨by omega,q.1,q.2⟩];simp only[e];by_cases r:2048<=c3 b0 b1 b2/\(c3 b0 b1 b2<55296\/57343<c3 b0 b1 b2)
   ·rw[aJ ⟨r.1,by omega⟩,aJ ⟨by omega,a3,q.1,q.2,r.1,r.2⟩]
   ·rw[aE (by omega),aE (λh=>r ⟨h.2.2.2.2.1,h.2.2.2.2.2⟩)]
  ·rw[aE (λh=>q ⟨h.2.1,h.2.2⟩),aE (λh=>q ⟨h.2.2.1,h.2.2.2.1⟩)]
 ·rw[aE (show¬(194<=b0/\b0<224/\mor L 1 b1)fromλh=>by omega),aE (show¬(224<=b0/\b0<240/\_)fromλh=>by omega)];rw[aE (show¬(b0/32=6/\_)fromλh=>by omega),aE (show¬(b0/16=14/\_)fromλh=>by omega)];by_cases q:mor L 1 b1/\mor L 2 b2/\mor L 3 b3
  ·have q':=q;unfold mor at q';by_cases a4:b0<248
   ·have e:b0%8*262144+b1%64*4096+b2%64*64+b3%64=c4 b0 b1 b2 b3:=by unfold c4;omega
    rw[aJ ⟨by omega,q.1,q.2.1,q.2.2⟩];simp only[e];by_cases r:65536<=c4 b0 b1 b2 b3/\c4 b0 b1 b2 b3<=1114111
    ·rw[aJ ⟨r.1,by omega⟩,aJ ⟨by omega,by have:=r.2;unfold c4 at this;omega,q.1,q.2.1,q.2.2,r.1,r.2⟩]
    ·rw[aE (by omega),aE (λh=>r ⟨h.2.2.2.2.2.1,h.2.2.2.2.2.2⟩)]
   ·rw[aE (show¬(b0/8=30/\_)fromλh=>by omega),aE (show¬(240<=b0/\b0<245/\_)fromλh=>by omega)]
  ·rw[aE (λh=>q ⟨h.2.1,h.2.2.1,h.2.2.2⟩),aE (λh=>q ⟨h.2.2.1,h.2.2.2.1,h.2.2.2.2.1⟩)]
theorem NO{s:Str}{k:Nat}:oK s (i+k)=true↔mor (s.length-i) k (bt s (i+k)):=by
 unfold oK mor;rw[aL,decide_eq_true_iff,decide_eq_true_iff];rcases dO (i+k) s.length with h|h
 ·rw[nW h];omega
 ·rw[Gr h];omega
def SC(L b0 b1 b2 b3:Nat):Nat:=
 if b0<128 then 1
 else if 194<=b0/\b0<224/\mor L 1 b1 then 2
 else if 224<=b0/\b0<240/\mor L 1 b1/\mor L 2 b2/\2048<=c3 b0 b1 b2/\(c3 b0 b1 b2<55296\/57343<c3 b0 b1 b2)then 3
 else if 240<=b0/\b0<245/\mor L 1 b1/\mor L 2 b2/\mor L 3 b3/\65536<=c4 b0 b1 b2 b3/\c4 b0 b1 b2 b3<=1114111 then 4
 else 0
set_option maxHeartbeats 4000000 in
theorem Dj{s:Str}(h:i<s.length):iF s i=SC (s.length-i) (bt s i) (bt s (i+1)) (bt s (i+2)) (bt s (i+3)):=by
 unfold iF SC;simp only[NO,nW h];by_cases h1:i+1<s.length
 ·by_cases h2:i+2<s.length
  ·by_cases h3:i+3<s.length
   ·simp only[nW h1,nW h2,nW h3,mor,c3,c4]
    repeat' split
    all_goals first|rfl|(exfalso;omega)
   ·simp only[nW h1,nW h2,mor,c3,c4]
    repeat' split
    all_goals first|rfl|(exfalso;omega)
  ·simp only[nW h1,mor,c3,c4]
   repeat' split
   all_goals first|rfl|(exfalso;omega)
 ·simp only[mor,c3,c4]
  repeat' split
  all_goals first|rfl|(exfalso;omega)
theorem Yv(s:Str)(i:Nat)(h:i<s.length):UInt8.ofNat (bt s i)=s[i]:=by
 unfold bt;rw[List.getD_eq_getElem?_getD,List.getElem?_eq_getElem h];simp
theorem AE{s:Str}(h:i<s.length):(s.drop i).take 1=[UInt8.ofNat (bt s i)]:=by
 rw[Yv s i h,cA h];rfl
theorem rW{s:Str}(h:i<s.length):(s.drop i).take (n+1)=UInt8.ofNat (bt s i)::(s.drop (i+1)).take n:=by
 rw[Yv s i h,cA h];rfl
set_option maxHeartbeats 4000000 in
theorem Iw{s:Str}(h:i<s.length)(h0:iF s i=0):Utf8.decode (ofL s) i=(65533,1):=by
 rw[MM,JR (AZ _ _) (AZ _ _) (AZ _ _) (AZ _ _)];rw[Dj h]at h0;unfold SC at h0;unfold VF
 repeat' split at h0
 all_goals first|(exfalso;omega)|skip
 all_goals(repeat rw[aE (by assumption)])
structure RU(s:Str)(i n c:Nat):Prop where
 dec:Utf8.decode (ofL s) i=(c,n)
 fits:i+n<=s.length
 small:n<=4
 bytes:Lib.encodeRune c=(s.drop i).take n
 low:n=1->c=bt s i/\c<128
 high:2<=n->128<=c/\128<=bt s i
 top:c<=1114111
 val:c<55296\/57343<c
theorem zI(l:List Int):(l.map λx=>x.toNat.toUInt8)=l.map λx=>UInt8.ofNat x.toNat:=rfl
set_option maxHeartbeats 8000000 in
theorem vH{s:Str}(h:i<s.length)(h0:iF s i≠0):∃c,RU s i (iF s i) c:=by
 have e:=MM s i;rw[JR (AZ _ _) (AZ _ _) (AZ _ _) (AZ _ _)]at e;have hr:=Dj h;have l0:=AZ s i;generalize hn:iF s i=n at*
 unfold SC at hr;unfold VF at e;by_cases a1:bt s i<128
 ·rw[aJ a1]at hr e;subst hr;refine⟨_,e,by omega,by omega,?_,λ_=>⟨rfl,a1⟩,λh=>by omega,by omega,by omega⟩;rw[AE h,Lib.encodeRune,Lib.encodeRuneZ_one (by omega) (by omega)];simp
 rw[aE a1]at hr e;by_cases a2:194<=bt s i/\bt s i<224/\mor (s.length-i) 1 (bt s (i+1))
 ·rw[aJ a2]at hr e;subst hr;obtain⟨a2,a3,a4,a5,a6⟩:=a2;refine⟨_,e,by omega,by omega,?_,λh=>by omega,λh=>by omega,by omega,by omega⟩;rw[rW h,AE (by omega),Lib.encodeRune,Lib.encodeRuneZ_two (by omega) (by omega)];simp only[dG,oD,zI];rw[show((192:Int)+(((bt s i-192)*64+(bt s (i+1)-128):Nat):Int)/64).toNat=bt s i by omega,show((128:Int)+(((bt s i-192)*64+(bt s (i+1)-128):Nat):Int)%64).toNat=bt s (i+1)by omega]
 rw[aE a2]at hr e;by_cases a3:224<=bt s i/\bt s i<240/\mor (s.length-i) 1 (bt s (i+1))/\mor (s.length-i) 2 (bt s (i+2))/\2048<=c3 (bt s i) (bt s (i+1)) (bt s (i+2))/\(c3 (bt s i) (bt s (i+1)) (bt s (i+2))<55296\/57343<c3 (bt s i) (bt s (i+1)) (bt s (i+2)))
 ·rw[aJ a3]at hr e;subst hr;obtain⟨p1,p2,⟨p3,p4,p5⟩,⟨p6,p7,p8⟩,p9,p10⟩:=a3;have q3:c3 (bt s i) (bt s (i+1)) (bt s (i+2))=(bt s i-224)*4096+(bt s (i+1)-128)*64+(bt s (i+2)-128):=rfl;refine⟨_,e,by omega,by omega,?_,λh=>by omega,λh=>by omega,by omega,by omega⟩;rw[rW h,rW (by omega),AE (by omega),Lib.encodeRune,Lib.encodeRuneZ_three (by omega)];simp only[dG,oD,zI];rw[show((224:Int)+((c3 (bt s i) (bt s (i+1)) (bt s (i+2)):Nat):Int)/4096).toNat=bt s i by unfold c3;omega,show((128:Int)+((c3 (bt s i) (bt s (i+1)) (bt s (i+2)):Nat):Int)/64%64).toNat=bt s (i+1)by unfold c3;omega,show((128:Int)+((c3 (bt s i) (bt s (i+1)) (bt s (i+2)):Nat):Int)%64).toNat=bt s (i+2)by unfold c3;omega]
 rw[aE a3]at hr e;by_cases a4:240<=bt s i/\bt s i<245/\mor (s.length-i) 1 (bt s (i+1))/\mor (s.length-i) 2 (bt s (i+2))/\mor (s.length-i) 3 (bt s (i+3))/\65536<=c4 (bt s i) (bt s (i+1)) (bt s (i+2)) (bt s (i+3))/\c4 (bt s i) (bt s (i+1)) (bt s (i+2)) (bt s (i+3))<=1114111
 ·rw[aJ a4]at hr e;subst hr;obtain⟨p1,p2,⟨p3,p4,p5⟩,⟨p6,p7,p8⟩,⟨p9,p10,p11⟩,p12,p13⟩:=a4;refine⟨_,e,by omega,by omega,?_,λh=>by omega,λh=>by omega,by omega,by omega⟩;rw[rW h,rW (by omega),rW (by omega),AE (by omega),Lib.encodeRune,Lib.encodeRuneZ_four (by omega) (by omega)];simp only[dG,oD,zI];rw[show((240:Int)+((c4 (bt s i) (bt s (i+1)) (bt s (i+2)) (bt s (i+3)):Nat):Int)/262144).toNat=bt s i by unfold c4;omega,show((128:Int)+((c4 (bt s i) (bt s (i+1)) (bt s (i+2)) (bt s (i+3)):Nat):Int)/4096%64).toNat=bt s (i+1)by unfold c4;omega,show((128:Int)+((c4 (bt s i) (bt s (i+1)) (bt s (i+2)) (bt s (i+3)):Nat):Int)/64%64).toNat=bt s (i+2)by unfold c4;omega,show((128:Int)+((c4 (bt s i) (bt s (i+1)) (bt s (i+2)) (bt s (i+3)):Nat):Int)%64).toNat=bt s (i+3)by unfold c4;omega]
 rw[aE a4]at hr;exact absurd hr h0
def uY(s:Str)(i:Nat):Nat:=max (iF s i) 1
theorem Rt{s:Str}(h:i<s.length):(Utf8.decode (ofL s) i).2=uY s i:=by
 unfold uY;by_cases h0:iF s i=0
 ·rw[Iw h h0,h0];rfl
 ·obtain⟨c,hc⟩:=vH h h0;rw[hc.dec];show iF s i=max (iF s i) 1;omega
theorem Np{s:Str}(h:i<s.length):i+uY s i<=s.length:=by
 unfold uY;by_cases h0:iF s i=0
 ·rw[h0];show i+1<=_;omega
 ·obtain⟨c,hc⟩:=vH h h0;have:=hc.fits;omega
theorem Pd(s:Str)(i:Nat):1<=uY s i:=by unfold uY;omega
theorem rune_end{s:Str}(h:s.length<=i):iF s i=0:=by
 unfold iF;simp only[Gr h];rfl
theorem Yz(h:n<55296\/57343<n/\n<=1114111):Lib.encodeRune n=wrM n:=by
 unfold Lib.encodeRune wrM b8;by_cases h1:n<128
 ·rw[Lib.encodeRuneZ_one (by omega) (by omega),aJ h1];simp
 rw[aE h1];by_cases h2:n<2048
 ·rw[Lib.encodeRuneZ_two (by omega) (by omega),aJ h2];simp only[dG,oD,zI];rw[show((192:Int)+(n:Int)/64).toNat=192+n/64 by omega,show((128:Int)+(n:Int)%64).toNat=128+n%64 by omega]
 rw[aE h2];by_cases h3:n<65536
 ·rw[Lib.encodeRuneZ_three (by omega),aJ h3];simp only[dG,oD,zI];rw[show((224:Int)+(n:Int)/4096).toNat=224+n/4096 by omega,show((128:Int)+(n:Int)/64%64).toNat=128+n/64%64 by omega,show((128:Int)+(n:Int)%64).toNat=128+n%64 by omega]
 ·rw[Lib.encodeRuneZ_four (by omega) (by omega),aE h3];simp only[dG,oD,zI];rw[show((240:Int)+(n:Int)/262144).toNat=240+n/262144 by omega,show((128:Int)+(n:Int)/4096%64).toNat=128+n/4096%64 by omega,show((128:Int)+(n:Int)/64%64).toNat=128+n/64%64 by omega,show((128:Int)+(n:Int)%64).toNat=128+n%64 by omega]
theorem sB{s u r:Str}{j:Nat}(h:s.drop i=u++r)(hj:j<u.length):iN s (i+j)=u[j].toNat:=by
 have:s.drop (i+j)=u[j]::(u.drop (j+1)++r):=by
  rw[<-gT,h,BY (by omega),cA hj];rfl
 exact byte_at this
theorem Fo{s t:Str}{k m:Nat}(hm:0<m)(h:iF s i=m)(hb:∀j,j<m->iN t (k+j)=iN s (i+j)):iF t k=m:=by
 have e0:iN t k=iN s i:=hb 0 hm;unfold iF at h⊢;dsimp only at h;simp only[e0];by_cases h1:m=1
 ·subst h1;split at h
  ·omega
  rename_i a;split at h
  ·rename_i b;rw[aE a,aJ b]
  split at h
  ·omega
  split at h
  ·omega
  split at h<;>omega
 by_cases h2:m=2
 ·subst h2;have e1:=hb 1 (by omega);have m1:oK t (k+1)=oK s (i+1):=by unfold oK;rw[e1]
  simp only[m1];split at h
  ·omega
  rename_i a;split at h
  ·omega
  rename_i b;split at h
  ·rename_i c;rw[aE a,aE b,aJ c]
  split at h
  ·omega
  split at h<;>omega
 by_cases h3:m=3
 ·subst h3;have e1:=hb 1 (by omega);have e2:=hb 2 (by omega);have m1:oK t (k+1)=oK s (i+1):=by unfold oK;rw[e1]
  have m2:oK t (k+2)=oK s (i+2):=by unfold oK;rw[e2]
  simp only[m1,m2,e1,e2];split at h
  ·omega
  rename_i a;split at h
  ·omega
  rename_i b;split at h
  ·omega
  rename_i c;split at h
  ·rename_i d;rw[aE a,aE b,aE c,aJ d]
  split at h<;>omega
 by_cases h4:m=4
 ·subst h4;have e1:=hb 1 (by omega);have e2:=hb 2 (by omega);have e3:=hb 3 (by omega);simp only[oK,e1,e2,e3]at h⊢;exact h
 ·exfalso;split at h
  ·omega
  split at h
  ·omega
  split at h
  ·omega
  split at h
  ·omega
  split at h<;>omega
theorem SB{s:Str}(h:iF s i≠0):i<s.length:=by
 apply Nat.lt_of_not_le;intro hle;exact h (rune_end hle)
theorem NA{s:Str}(h:iF s i≠0):i+iF s i<=s.length:=by
 obtain⟨c,hc⟩:=vH (SB h) h;exact hc.fits
def Rn(u:Str):Prop:=u≠[]/\iF u 0=u.length
theorem Rn.pos{u:Str}(h:Rn u):0<u.length:=dP.2 h.1
theorem Rn.at{u s r:Str}(h:Rn u)(hs:s.drop i=u++r):iF s i=u.length:=by
 refine Fo (s:=u) (i:=0) h.pos h.2 λj hj=>?_;rw[sB hs hj,sB (s:=u) (i:=0) (u:=u) (r:=[]) (by simp) hj]
theorem Rn.of{s:Str}(h:iF s i≠0):Rn ((s.drop i).take (iF s i)):=by
 have hf:=NA h;have hl:((s.drop i).take (iF s i)).length=iF s i:=by rw[bU,aQ];omega
 refine⟨λe=>by rw[e]at hl;simp at hl;omega,?_⟩;rw[hl];refine Fo (s:=s) (i:=i) (by omega) rfl λj hj=>?_;rw[sB (s:=s) (i:=i) (u:=(s.drop i).take (iF s i)) (r:=(s.drop i).drop (iF s i)) (kI _ _).symm (by omega),sB (s:=(s.drop i).take (iF s i)) (i:=0) (u:=(s.drop i).take (iF s i)) (r:=[]) (by simp) (by omega)]
inductive Utf:Str->Prop where
 |nil:Utf []
 |cons {u r:Str}:Rn u->Utf r->Utf (u++r)
theorem Rn.cases{u:Str}(h:Rn u):(∃c:UInt8,u=[c]/\c.toNat<128)\/(∀c∈u,128<=c.toNat):=by
 have hr:=h.2;have hp:=h.pos;have hb:∀j,(hj:j<u.length)->iN u j=u[j].toNat:=λj hj=>by
  have:=sB (s:=u) (i:=0) (u:=u) (r:=[]) (by simp) hj;rwa[aV]at this
 have hm:∀j,(hj:j<u.length)->oK u j=true->128<=u[j].toNat:=λj hj hm=>by
  unfold oK at hm;rw[hb j hj,aL,decide_eq_true_iff,decide_eq_true_iff]at hm;omega
 unfold iF at hr;rw[hb 0 hp]at hr;simp only[aV]at hr;have hall:(∀j,(hj:j<u.length)->128<=u[j].toNat)->∀c∈u,128<=c.toNat:=λhj c hc=>by
  obtain⟨j,h1,rfl⟩:=List.getElem_of_mem hc;exact hj j h1
 split at hr
 ·omega
 split at hr
 ·rename_i hlt;left;obtain⟨c,rfl⟩:=List.length_eq_one_iff.1 hr.symm;refine⟨c,rfl,?_⟩;have e:([c]:Str)[0].toNat=c.toNat:=rfl;omega
 right;refine hall λj hj=>?_;split at hr
 ·rename_i c;obtain⟨c1,_,c2⟩:=c;obtain rfl|rfl:j=0\/j=1:=by omega
  ·omega
  ·exact hm 1 hj c2
 split at hr
 ·rename_i c;obtain⟨c1,_,c2,c3,_⟩:=c;obtain rfl|rfl|rfl:j=0\/j=1\/j=2:=by omega
  ·omega
  ·exact hm 1 hj c2
  ·exact hm 2 hj c3
 split at hr
 ·rename_i c;obtain⟨c1,_,c2,c3,c4,_⟩:=c;obtain rfl|rfl|rfl|rfl:j=0\/j=1\/j=2\/j=3:=by omega
  ·omega
  ·exact hm 1 hj c2
  ·exact hm 2 hj c3
  ·exact hm 3 hj c4
 ·omega
def escOk(c:UInt8):Bool:=
 match aC4 c with
 |[d]=>decide (d=c)&&decide (c≠34)&&decide (c≠92)&&decide (32<=c.toNat)
 |[a,b]=>decide (a=92)&&decide (aEM [a,b] 0=some ([c],2))
 |[a,b,d,e,f,g]=>decide (a=92)&&decide (b=117)&&decide (aAW [a,b,d,e,f,g] 0=c.toNat)
 |_=>false
end
section
open Go Go.Num
def BL(l:Str):Prop:=∀c∈l,Vj (c.toNat:Int)=true
mutual
def Sp:JV->Str->Prop
 |.mk k b t xs ks,s=>
  if k=5 then(xs=[]/\∃a,BL a/\s=[91]++a++[93])\/(∃u,SpL xs u/\s=[91]++u++[93])
  else if k=6 then(xs=[]/\ks=[]/\∃a,BL a/\s=[123]++a++[125])\/(∃u,SpO xs ks u/\s=[123]++u++[125])
  else s=Yb (.mk k b t xs ks)
def SpL:List JV->Str->Prop
 |[],_=>False
 |x::xs,s=>(xs=[]/\∃a t b,BL a/\Sp x t/\BL b/\s=a++t++b)\/(∃a t b u,BL a/\Sp x t/\BL b/\SpL xs u/\s=a++t++b++[44]++u)
def SpO:List JV->List Str->Str->Prop
 |x::xs,k::ks,s=>(xs=[]/\ks=[]/\∃a b c t d,BL a/\BL b/\BL c/\Sp x t/\BL d/\s=a++GV k++b++[58]++c++t++d)\/
   (∃a b c t d u,BL a/\BL b/\BL c/\Sp x t/\BL d/\SpO xs ks u/\s=a++GV k++b++[58]++c++t++d++[44]++u)
 |_,_,_=>False
end
end
section
open Go Go.Num
variable{w:World}{K:Q0}{cs:List Value}{G:Nat->Prop}{T:TypeId}{i:Nat}{n:Nat}{v:Value}{w':World}{P:Program}{c:UInt8}{S:Nat->Prop}
theorem Mv{l:List (Str×JV)}{k:Str}{t:JV}:∀p,p∈insP l k t↔p=(k,t)\/p∈l:=by
 induction l with
 |nil=>intro p;simp[insP]
 |cons q r ih=>
  obtain⟨a,y⟩:=q;intro p;simp only[insP];split
  ·rw[bQ]
  ·rw[bQ,ih p,bQ];constructor
   ·rintro(h|h|h)
    ·exact .inr (.inl h)
    ·exact .inl h
    ·exact .inr (.inr h)
   ·rintro(h|h|h)
    ·exact .inr (.inl h)
    ·exact .inl h
    ·exact .inr (.inr h)
theorem Vk(l:List (Str×JV))(k:Str)(x:JV):(insP l k x).length=l.length+1:=by
 induction l with
 |nil=>rfl
 |cons q r ih=>
  obtain⟨a,y⟩:=q;simp only[insP];split
  ·rfl
  ·simp only[aB,ih]
theorem Pv{l:List (Str×JV)}{k:Str}{x:JV}(h:Kn (l.map (·.1)))(hk:k∉l.map (·.1)):Kn ((insP l k x).map (·.1)):=by
 induction l with
 |nil=>exact List.pairwise_singleton _ _
 |cons q r ih=>
  obtain⟨a,y⟩:=q;simp only[dG]at h hk;have hp:=List.pairwise_cons.1 h;simp only[insP];split
  ·rename_i hlt;simp only[dG];refine List.Pairwise.cons (λc hc=>?_) h;rcases bQ.1 hc with rfl|hc
   ·exact hlt
   ·exact pX hlt (hp.1 c hc)
  ·rename_i hlt;have hka:k≠a:=λe=>hk (by rw[e];exact bD);have hak:Op.bytesLess a k=true:=by
    rcases DI k a with h|h|h
    ·exact absurd h hlt
    ·exact absurd h hka
    ·exact h
   simp only[dG];refine List.Pairwise.cons (λc hc=>?_) (ih hp.2 λh=>hk (aU _ h));obtain⟨p,hp1,rfl⟩:=kT.1 hc;rcases(Mv p).1 hp1 with rfl|hp1
   ·exact hak
   ·exact hp.1 _ (kT.2 ⟨p,hp1,rfl⟩)
theorem OE(l:List (Str×JV)):(l.map (·.1)).zip (l.map (·.2))=l:=by
 induction l with
 |nil=>rfl
 |cons q r ih=>simp only[dG,List.zip_cons_cons,ih]
theorem QZ{l:List (Str×JV)}{k:Str}(h:(xX (mkO l) k).isSome=false):k∉l.map (·.1):=by
 intro hm;unfold xX mkO at h;simp only[JV.k,JV.ks,JV.xs,gM]at h;cases hx:vR (l.map (·.1)) k with
 |none=>exact zE.1 hx hm
 |some i=>
  rw[hx]at h;have:=(List.getElem?_eq_some_iff.1 (vQ hx)).1;rw[dL]at this;simp[this]at h
theorem SI{l:List (Str×JV)}{k:Str}{x:JV}(h:k∉l.map (·.1)):wG (mkO l) k x=mkO (insP l k x):=by
 unfold wG;have e1:(mkO l).k=6:=rfl;have e2:(mkO l).ks=l.map (·.1):=rfl;have e3:(mkO l).xs=l.map (·.2):=rfl;rw[aJ e1,e2,e3,OE];congr 2;unfold nT;rw[List.filter_eq_self];intro p hp;rw[dQ,decide_eq_false_iff_not];intro e;exact h (kT.2 ⟨p,hp,e⟩)
end
end Go.Eng
namespace Go.Proofs.YtghhmpppnmoeoaaGreatDoor
section
open Go Go.Eng
variable{w:World}{K:Q0}{cs:List Value}{G:Nat->Prop}{T:TypeId}{i:Nat}{n:Nat}{v:Value}{w':World}{P:Program}{c:UInt8}{S:Nat->Prop}
section
variable [HX]
theorem AH{a:Nat}{x:List Value}(h:w.heap[a]?=some (.cells x.toArray T (0,0))):w.shape? a=some (T,x.length):=by simp[World.shape?,h]
theorem aEH{a b oa ob la ca lb cb:Nat}{x y:List Value}{T1 T2:TypeId}{K:Q0}(hne:a≠b)(ha:w.heap[a]?=some (.cells x.toArray T1 (0,0)))(hb:w.heap[b]?=some (.cells y.toArray T2 (0,0)))(hy:y≠[])(hK:K (.bool false) w):
  aC P0 208 [.slice (some ⟨a,oa,none⟩) la ca,.slice (some ⟨b,ob,none⟩) lb cb] w K:=by
 unfold aC;rw[run_callFunc_extern Tryz.func208 (by kernel_rfl) (by kernel_rfl) (by kernel_rfl) (e:=Extern.SlicesOverlaps.overlaps #[24,24] #[4]) (by kernel_rfl),
  Lib.run_overlaps_apart w 24 4 ST (by kernel_rfl) 1 (λw=>by kernel_rfl) ⟨a,oa,none⟩ ⟨b,ob,none⟩ la ca lb cb hne T1 T2 x.length y.length (AH ha) (AH hb) (λe=>hy (bG e)) (by rw[lU,ha,qI]) (by rw[lU,ha,qI])]
 exact hK
theorem aEG{a b oa ob la ca lb cb:Nat}{x y:List Value}{T1 T2:TypeId}{K:Q0}(hne:a≠b)(ha:w.heap[a]?=some (.cells x.toArray T1 (0,0)))(hb:w.heap[b]?=some (.cells y.toArray T2 (0,0)))(hy:y≠[])(hK:K (.bool false) w):
  aC P0 210 [.slice (some ⟨a,oa,none⟩) la ca,.slice (some ⟨b,ob,none⟩) lb cb] w K:=by
 unfold aC;rw[run_callFunc_extern Tryz.func210 (by kernel_rfl) (by kernel_rfl) (by kernel_rfl) (e:=Extern.SlicesOverlaps.overlaps #[23,23] #[4]) (by kernel_rfl),
  Lib.run_overlaps_apart w 23 4 VT (by kernel_rfl) 5 (λw=>by kernel_rfl) ⟨a,oa,none⟩ ⟨b,ob,none⟩ la ca lb cb hne T1 T2 x.length y.length (AH ha) (AH hb) (λe=>hy (bG e)) (by rw[lU,ha,qI]) (by rw[lU,ha,qI])]
 exact hK
theorem QS{base tb:Nat}{xs c:List Value}{T2:TypeId}{K:Q0}(hown:Own w base ST 1 v n xs)(ht:w.heap[tb]?=some (.cells c.toArray T2 (0,0)))(hc:c.length=1)(h1:∀u∈c,fG u=true)(hx1:∀u∈xs,fG u=true)
  (hne:v.ownBlock≠some tb)(hi:i<=n)(hn:n<=1000000)(hbase:base<=w.heap.size)
  (hK:∀v' w',Own w' base ST 1 v' (n+1) (xs.take (i*1)++c++xs.drop (i*1))->Chg (λk=>v.ownBlock=some k) w w'->(∀k,v'.ownBlock=some k->v.ownBlock=some k\/w.heap.size<=k)->K v' w'):
  aC P0 154 [v,i64 (i:Nat),.slice (some ⟨tb,0,none⟩) 1 1] w K:=by
 refine Xc ?_;show XT P0 1 24 3 208 209 _ _ _ _ _;exact Jp LH (by kernel_rfl) aEH hown ht hc h1 hx1 hne hi hn (by decide) hbase hK
theorem QR{base tb:Nat}{xs c:List Value}{T2:TypeId}{K:Q0}(hown:Own w base VT 5 v n xs)(ht:w.heap[tb]?=some (.cells c.toArray T2 (0,0)))(hc:c.length=5)(h1:∀u∈c,fG u=true)(hx1:∀u∈xs,fG u=true)
  (hne:v.ownBlock≠some tb)(hi:i<=n)(hn:n<=1000000)(hbase:base<=w.heap.size)
  (hK:∀v' w',Own w' base VT 5 v' (n+1) (xs.take (i*5)++c++xs.drop (i*5))->Chg (λk=>v.ownBlock=some k) w w'->(∀k,v'.ownBlock=some k->v.ownBlock=some k\/w.heap.size<=k)->K v' w'):
  aC P0 155 [v,i64 (i:Nat),.slice (some ⟨tb,0,none⟩) 1 1] w K:=by
 refine Xb ?_;show XT P0 5 23 3 210 211 _ _ _ _ _;exact Jp HJ (by kernel_rfl) aEG hown ht hc h1 hx1 hne hi hn (by decide) hbase hK
end
theorem cJ.app{G:Nat->Prop}{w:World}:∀{xs ys:List JV} {L M:List Value},cJ G w xs L->cJ G w ys M->cJ G w (xs++ys) (L++M)
 |[],ys,L,M,h,h'=>by simp only[cJ]at h;subst h;exact h'
 |x::xs,ys,L,M,h,h'=>by
  simp only[cJ]at h
  obtain⟨c,r,rfl,hc,hr⟩:=h
  simp only[dA,cJ]
  exact⟨c,r++M,by simp,hc,cJ.app hr h'⟩
theorem cJ.cut{G:Nat->Prop}{w:World}:∀(i:Nat) {xs:List JV} {L:List Value},cJ G w xs L->cJ G w (xs.take i) (L.take (i*5))/\cJ G w (xs.drop i) (L.drop (i*5))
 |0,xs,L,h=>by simp only[qO,EO,cV,cJ];exact⟨trivial,h⟩
 |i+1,[],L,h=>by simp only[cJ]at h;subst h;simp[cJ]
 |i+1,x::xs,L,h=>by
  simp only[cJ]at h
  obtain⟨c,r,rfl,hc,hr⟩:=h
  have h5:=hc.rep.len
  obtain⟨h1,h2⟩:=cJ.cut i hr
  have e1:(c++r).take ((i+1)*5)=c++r.take (i*5):=by
   rw[show(i+1)*5=c.length+i*5 by omega,List.take_append,dZ (by omega),Nat.add_sub_cancel_left]
  have e2:(c++r).drop ((i+1)*5)=r.drop (i*5):=by
   rw[show(i+1)*5=c.length+i*5 by omega,List.drop_append];simp
  rw[e1,e2];simp only[pG,cQ,cJ];exact⟨⟨c,_,rfl,hc,h1⟩,h2⟩
theorem cJ.one'{x:JV}(h:cL G w x cs):cJ G w [x] cs:=by
 simp only[cJ];exact⟨cs,[],by simp,h,rfl⟩
theorem NV{l:List (Str×JV)}{k:Str}{x:JV}(hk:k∉l.map (·.1))(h1:∀j a,j<i->(l.map (·.1))[j]?=some a->Op.bytesLess a k=true)(h2:∀j a,i<=j->(l.map (·.1))[j]?=some a->Op.bytesLess a k=false):insP l k x=l.take i++(k,x)::l.drop i:=by
 induction l generalizing i with
 |nil=>simp[insP]
 |cons q r ih=>
  obtain⟨a,y⟩:=q;simp only[dG,bQ,not_or]at hk;simp only[insP];cases i with
  |zero=>
   have:=h2 0 a (gA _) rfl;have hka:Op.bytesLess k a=true:=by
    rcases DI k a with h|h|h
    ·exact h
    ·exact absurd h hk.1
    ·rw[this]at h;cases h
   rw[aJ hka];rfl
  |succ i=>
   have:=h1 0 a (by omega) rfl;rw[aE (by rw[NQ this];simp),ih (i:=i) hk.2 (λj b hj hb=>h1 (j+1) b (by omega) hb) (λj b hj hb=>h2 (j+1) b (by omega) hb)];rfl
theorem kL{B:Nat}{e:TypeId}{size:Nat}{xs:List Value}(h:Own w B e size v n xs)(hc:Chg S w w')(hS:∀k,v.ownBlock=some k->¬S k):Own w' B e size v n xs:=by
 obtain⟨hl,h|⟨g,cap,cur,rfl,h1,h2,h3⟩⟩:=h
 ·exact⟨hl,.inl h⟩
 ·exact⟨hl,.inr ⟨g,cap,cur,rfl,h1,hc.at h2 (hS g rfl),h3⟩⟩
theorem jQ{B:Nat}{e:TypeId}{size:Nat}{k:Nat}{xs:List Value}(h:Own w B e size v n xs)(hk:v.ownBlock=some k):B<=k/\k<w.heap.size/\∃c,w.heap[k]?=some (.cells c e (0,0)):=by
 obtain⟨hl,⟨rfl,_⟩|⟨g,cap,cur,rfl,h1,h2,h3⟩⟩:=h
 ·cases hk
 ·simp only[Value.ownBlock,bE]at hk;subst hk;exact⟨h1,fJ h2,_,h2⟩
theorem wJ{B:Nat}{e:TypeId}{size:Nat}{xs:List Value}(h:Own w B e size v n xs):fG v=true:=by obtain⟨p,c,rfl,_⟩:=h.sl.shape;rfl
theorem OY(l:List Str):∀u∈l.map str,fG u=true:=λu hu=>by
 obtain⟨s,_,rfl⟩:=kT.1 hu
 rfl
section
variable [HX]
structure Ia(w:World)(B:Nat)(v:JV)(sv kv:Value)(L:List Value):Prop where
 items:Own w B VT 5 sv v.xs.length L
 reps:cJ (λq=>B<=q/\sv.ownBlock≠some q/\kv.ownBlock≠some q) w v.xs L
 keys:Own w B ST 1 kv v.ks.length (v.ks.map str)
 fits:Fits v.xs.length v.ks v.t
theorem Ia.ext{B:Nat}{v:JV}{sv kv:Value}{L:List Value}(h:Ia w B v sv kv L)(hx:Ext w w'):Ia w' B v sv kv L:=⟨kL h.items hx λ_ _ e=>e,cJ.chg hx (λ_ _ _ e=>e) h.reps,kL h.keys hx λ_ _ e=>e,h.fits⟩
theorem Ia.rep{B:Nat}{v:JV}{sv kv:Value}{L:List Value}(h:Ia w B v sv kv L):cL (yM B) w v [i64 v.k,.bool v.b,str v.t,sv,kv]:=
 cL.mk h.items.sl (h.reps.mono λk _ hk=>hk.1) h.keys.sl h.fits (λ_ k hk=>(jQ h.items hk).1) (λ_ k hk=>(jQ h.keys hk).1)
end
def XU(B:Nat)(sv kv:Value)(q:Nat):Prop:=B<=q/\sv.ownBlock≠some q/\kv.ownBlock≠some q
section
variable [HX]
theorem Mg{B m:Nat}{sv kv:Value}{L M:List Value}(h:Own w B VT 5 sv n L)(h':Own w B ST 1 kv m M){q:Nat}(h1:sv.ownBlock=some q):kv.ownBlock≠some q:=λe=>by
 obtain⟨_,_,c,hc⟩:=jQ h h1
 obtain⟨_,_,c',hc'⟩:=jQ h' e
 rw[hc]at hc'
 simp only[bE,Obj.cells.injEq]at hc'
 exact absurd hc'.2.1 (by decide)
theorem aCF{x:Str}{K:Q0}(hK:∀a w',a=w.heap.size->w'.heap.size=w.heap.size+1->w'.heap[a]?=some (.cells [str x].toArray ST (0,0))->Ext w w'->K (.slice (some ⟨a,0,none⟩) 1 1) w'):dJ ST 1 [.string (ofL [])] [(0,1,str x)] w K:=by
 unfold dJ;simp only[wsv,wsg,wsh,wsl,aN,aK,aD,eZ,Nat.reduceAdd,Nat.reduceLT,aF,aA,aI,aH,bL,reduceCtorEq];exact row_new λa w' h1 h2 h3 h4 _=>hK a w' h1 h2 h3 h4
theorem Ze{K:Q0}(hc:cs.length=5)(hK:∀a w',a=w.heap.size->w'.heap.size=w.heap.size+1->w'.heap[a]?=some (.cells cs.toArray VT (0,0))->Ext w w'->K (.slice (some ⟨a,0,none⟩) 1 1) w'):dJ VT 1 [(.int .i64 0),(.bool false),(.string (ofL [])),(.slice none 0 0),(.slice none 0 0)] [(0,5,.agg cs.toArray)] w K:=by
 unfold dJ;have hp:∀K:List Value->Prop,K cs->dI [(.int .i64 0),(.bool false),(.string (ofL [])),(.slice none 0 0),(.slice none 0 0)] [(0,5,.agg cs.toArray)] K:=by
  intro K hK;refine⟨by simp[Value.cells,hc],by simp,?_⟩;have:List.take 0 [(Value.int .i64 0),(.bool false),(.string (ofL [])),(.slice none 0 0),(.slice none 0 0)]++((Value.agg cs.toArray).cells.toList++List.drop (0+5) [(Value.int .i64 0),(.bool false),(.string (ofL [])),(.slice none 0 0),(.slice none 0 0)])=cs:=by simp[Value.cells]
  rw[this];exact hK
 refine hp _ ?_;exact row_new λa w' h1 h2 h3 h4 _=>hK a w' h1 h2 h3 h4
end
section
variable [HX]
theorem aCM{l:List (Str×JV)}{k:Str}{x:JV}{sv kv:Value}{L:List Value}{B:Nat}{K:Q0}(h:Ia w B (mkO l) sv kv L)(hx:cL (XU B sv kv) w x cs)(hr:Kn (l.map (·.1)))(hk:k∉l.map (·.1))(hl:l.length<=99999)(hkl:k.length<=9223372036854775807)
  (hB:B<=w.heap.size)(hK:∀sv' kv' L' w',Chg (λq=>sv.ownBlock=some q\/kv.ownBlock=some q) w w'->Ia w' B (mkO (insP l k x)) sv' kv' L'->K (.agg [i64 6,.bool false,str [],sv',kv'].toArray) w'):
  aC P0 121 [.agg [i64 6,.bool false,str [],sv,kv].toArray,str k,.agg cs.toArray] w K:=by
 have hkeys:(mkO l).ks=l.map (·.1):=rfl;have hxs:(mkO l).xs=l.map (·.2):=rfl;have hO:=h.items;have hM:=h.keys;rw[hxs]at hO;rw[hkeys]at hM;have hn1:(l.map (·.2)).length=l.length:=dL _;have hn2:(l.map (·.1)).length=l.length:=dL _;rw[hn1]at hO;rw[hn2]at hM;have hrp:=h.reps;rw[hxs]at hrp;have hcs5:=hx.rep.len;have hone:=hx.rep.one;obtain⟨f1,f2,f3,f4⟩:=h.fits;refine Xz ?_;unfold aEm;have o1:=wJ hO;have o2:=wJ hM;refine fS (z:=[i64 6,.bool false,str [],sv,kv]) λa3 w1 ha3 hz1 hb3 hx1=>?_;refine fS (z:=cs) λa5 w2 ha5 hz2 hb5 hx2=>?_;refine bF λa6 w3 ha6 hz3 hb6 hx3=>?_;have hb3:=(hx2.trans hx3).at hb3 id;have hb5:=hx3.at hb5 id;have hx03:=(hx1.trans hx2).trans hx3;rw[bR,dX];refine⟨kv,by rw[bZ,cD,hb3];rfl,?_⟩;have hsk:SlAt w3 ST kv (l.map (·.1)).length ((l.map (·.1)).map str):=by rw[hn2];exact hM.sl.ext hx03
 refine Ip hsk (by rw[hn2];omega) hr λi _ hlo hhi hile=>?_;rw[hn2]at hile;have hnone:(vR (l.map (·.1)) k).isSome=false:=by rw[zE.2 hk];rfl
 rw[hnone];simp only[bK];refine⟨_,rfl,_,rfl,?_⟩;rw[cX];have hins:=NV hk hlo hhi (x:=x);have hsvlt:∀q,sv.ownBlock=some q->q<w.heap.size:=λq hq=>(jQ hO hq).2.1;have hkvlt:∀q,kv.ownBlock=some q->q<w.heap.size:=λq hq=>(jQ hM hq).2.1;have insK:∀{w4:World} {tb:Nat} {K':Q0},Chg (λq=>False) w w4->w.heap.size<=tb->w4.heap[tb]?=some (.cells [str k].toArray ST (0,0))->
   (∀kv' w5,Own w5 B ST 1 kv' (l.length+1) (((l.map (·.1)).map str).take (i*1)++[str k]++((l.map (·.1)).map str).drop (i*1))->Chg (λq=>kv.ownBlock=some q) w4 w5->(∀q,kv'.ownBlock=some q->kv.ownBlock=some q\/w4.heap.size<=q)->K' kv' w5)->
   aC P0 154 [kv,i64 (i:Nat),.slice (some ⟨tb,0,none⟩) 1 1] w4 K':=λ{w4 tb K'} hc htb ht hK'=>
  QS (kL hM hc λ_ _ e=>e) ht rfl (λu hu=>by rw[bP.1 hu];rfl) (OY _) (λe=>by have:=hkvlt _ e;omega) hile (by omega) (by have:=hc.size;omega) hK'
 have BE:∀{w4:World} {tb:Nat} {K':Q0},Chg (λq=>kv.ownBlock=some q) w w4->w.heap.size<=tb->w4.heap[tb]?=some (.cells cs.toArray VT (0,0))->
   (∀sv' w5,Own w5 B VT 5 sv' (l.length+1) (L.take (i*5)++cs++L.drop (i*5))->Chg (λq=>sv.ownBlock=some q) w4 w5->(∀q,sv'.ownBlock=some q->sv.ownBlock=some q\/w4.heap.size<=q)->K' sv' w5)->
   aC P0 155 [sv,i64 (i:Nat),.slice (some ⟨tb,0,none⟩) 1 1] w4 K':=λ{w4 tb K'} hc htb ht hK'=>
  QR (kL hO hc λq hq e=>Mg hO hM hq e) ht hcs5 hone hrp.rep.one (λe=>by have:=hsvlt _ e;omega) hile (by omega) (by have:=hc.size;omega) hK'
 obtain⟨J,hJ⟩:∃J:List Value->World->Prop,∀st w',J st w'↔∃sv' kv',w'.heap[a3]?=some (.cells [i64 6,.bool false,str [],sv',kv'].toArray VT (0,0))/\w'.heap[a6]?=some (.cells [i64 0,.bool false,str [],.slice none 0 0,.slice none 0 0].toArray VT (0,0))/\Chg (λq=>sv.ownBlock=some q\/kv.ownBlock=some q) w w'/\a6<w'.heap.size/\
  fG sv'=true/\fG kv'=true/\(∀q,sv'.ownBlock=some q->q≠a6)/\(∀q,kv'.ownBlock=some q->q≠a6)/\∃L',Ia w' B (mkO (insP l k x)) sv' kv' L'/\cJ (λq=>(B<=q/\sv'.ownBlock≠some q/\kv'.ownBlock≠some q)/\q≠a6) w' (mkO (insP l k x)).xs L':=⟨_,λ_ _=>gU⟩
 refine bS.cut J ?_ ?_
 ·have hxd:Ext w3 w3.drew:=Chg.drew (Chg.refl (λ_=>False) w3);have e3:∀{w4:World},Chg (λq=>kv.ownBlock=some q) w3 w4->w4.heap[a3]?=some (.cells [i64 6,.bool false,str [],sv,kv].toArray VT (0,0)):=λhc=>hc.at hb3 λe=>by have:=hkvlt _ e;omega
  have e5:∀{w4:World},Chg (λq=>kv.ownBlock=some q) w3 w4->w4.heap[a5]?=some (.cells cs.toArray VT (0,0)):=λhc=>hc.at hb5 λe=>by have:=hkvlt _ e;omega
  have up:∀{w4:World},Ext w3 w4->Chg (λq=>kv.ownBlock=some q) w3 w4:=λhx=>Chg.of_ext hx;have ldk:∀{w4:World} {K:Value->Prop},Chg (λq=>kv.ownBlock=some q) w3 w4->K kv->ldW false 1 (.pointer (some ((⟨a3,0,none⟩:Addr).add 4))) w4 K:=λhc hk=>by
   rw[dX];exact⟨_,by rw[bZ,cD,e3 hc];rfl,hk⟩
  have lds:∀{w4:World} {K:Value->Prop},Chg (λq=>kv.ownBlock=some q) w3 w4->K sv->ldW false 1 (.pointer (some ((⟨a3,0,none⟩:Addr).add 3))) w4 K:=λhc hk=>by
   rw[dX];exact⟨_,by rw[bZ,cD,e3 hc];rfl,hk⟩
  have ldx:∀{w4:World} {K:Value->Prop},Chg (λq=>kv.ownBlock=some q) w3 w4->K (.agg cs.toArray)->ldW true 5 (.pointer (some ⟨a5,0,none⟩)) w4 K:=λhc hk=>bY (e5 hc) hcs5 hk;have fin:∀{w4 w5:World} {sv' kv':Value},Chg (λq=>kv.ownBlock=some q) w3 w4->Own w4 B ST 1 kv' (l.length+1) (((l.map (·.1)).map str).take (i*1)++[str k]++((l.map (·.1)).map str).drop (i*1))->(∀q,kv'.ownBlock=some q->kv.ownBlock=some q\/w3.heap.size<=q)->
    Chg (λq=>sv.ownBlock=some q) w4 w5->Own w5 B VT 5 sv' (l.length+1) (L.take (i*5)++cs++L.drop (i*5))->(∀q,sv'.ownBlock=some q->sv.ownBlock=some q\/w3.heap.size<=q)->
    stW 1 (.pointer (some ((⟨a3,0,none⟩:Addr).add 4))) kv' w5 λw6=>aZ 3 (.pointer (some ⟨a3,0,none⟩)) λt36=>stW 1 t36 sv' w6 λw7=>J [] w7:=λ{w4 w5 sv' kv'} hc4 hOk hkb hc5 hOs hsb=>by
   have hb3':=hc5.at (e3 hc4) λe=>by have:=hsvlt _ e;omega
   have hb6':=hc5.at (hc4.at hb6 λe=>by have:=hkvlt _ e;omega) λe=>by have:=hsvlt _ e;omega
   rw[bZ];refine iU hb3' (wJ hOk) (by simp) λw6 hz6 hb36 hc6=>?_;have hb36:w6.heap[a3]?=some (.cells [i64 6,.bool false,str [],sv,kv'].toArray VT (0,0)):=by rw[hb36];simp
   rw[bR,bZ];refine iU hb36 (wJ hOs) (by simp) λw7 hz7 hb37 hc7=>?_;have hb37:w7.heap[a3]?=some (.cells [i64 6,.bool false,str [],sv',kv'].toArray VT (0,0)):=by rw[hb37];simp
   have hc67:Chg (λq=>q=a3) w5 w7:=hc6.trans hc7;have s45:=hc5.size;have s34:=hc4.size;have s57:=hc67.size;have hcw:Chg (λq=>sv.ownBlock=some q\/kv.ownBlock=some q) w w7:=by
    have h1:Chg (λq=>sv.ownBlock=some q\/kv.ownBlock=some q) w w5:=(((Chg.of_ext hx03).trans (hc4.mono λ_ _ e=>.inr e)).trans (hc5.mono λ_ _ e=>.inl e));exact h1.then hc67 λq hq e=>by omega
   have n3:∀q,kv'.ownBlock=some q->q≠a3:=λq hq e=>by
    rcases hkb q hq with h|h
    ·have:=hkvlt _ h;omega
    ·omega
   have n3':∀q,sv'.ownBlock=some q->q≠a3:=λq hq e=>by
    rcases hsb q hq with h|h
    ·have:=hsvlt _ h;omega
    ·omega
   have hOk5:Own w5 B ST 1 kv' (l.length+1) (((l.map (·.1)).map str).take (i*1)++[str k]++((l.map (·.1)).map str).drop (i*1)):=kL hOk hc5 λq hq e=>by
    obtain⟨_,_,c,hc⟩:=jQ hOk hq;obtain⟨_,_,c',hc'⟩:=jQ (kL hO ((Chg.of_ext hx03).trans hc4) λq hq e=>Mg hO hM hq e) e;rw[hc]at hc';simp only[bE,Obj.cells.injEq]at hc';exact absurd hc'.2.1 (by decide)
   have hOk7:=kL hOk5 hc67 λq hq e=>n3 q hq e;have hOs7:=kL hOs hc67 λq hq e=>n3' q hq e;refine(hJ _ w7).2 ⟨sv',kv',hb37,hc67.at hb6' (by omega),hcw,by have:=fJ hb6;omega,wJ hOs,wJ hOk,?_⟩;have hfree:∀q,XU B sv kv q->q<w.heap.size->¬(sv.ownBlock=some q\/kv.ownBlock=some q):=λq hq _ e=>by
    rcases e with e|e
    ·exact hq.2.1 e
    ·exact hq.2.2 e
   have hrp0:cJ (λq=>XU B sv kv q/\q<w.heap.size) w (l.map (·.2)) L:=hrp.mono λq hq h=>⟨h,hq⟩;have hx0:cL (λq=>XU B sv kv q/\q<w.heap.size) w x cs:=hx.mono λq hq h=>⟨h,hq⟩;have hrp7:=cJ.chg hcw (λq hq h=>hfree q hq.1 h) hrp0;have hx7:=cL.chg hcw (λq hq h=>hfree q hq.1 h) hx0;have m3:∀q,kv'.ownBlock=some q->q≠a6:=λq hq e=>by
    rcases hkb q hq with h|h
    ·have:=hkvlt _ h;omega
    ·omega
   have m3':∀q,sv'.ownBlock=some q->q≠a6:=λq hq e=>by
    rcases hsb q hq with h|h
    ·have:=hsvlt _ h;omega
    ·omega
   obtain⟨c1,c2⟩:=hrp7.cut i;have hall:=(c1.app (cJ.one' hx7)).app c2;have ex:(mkO (insP l k x)).xs=(l.map (·.2)).take i++[x]++(l.map (·.2)).drop i:=by
    rw[hins];show((l.take i++(k,x)::l.drop i).map (·.2))=_;simp
   have ek:(mkO (insP l k x)).ks=(l.map (·.1)).take i++[k]++(l.map (·.1)).drop i:=by
    rw[hins];show((l.take i++(k,x)::l.drop i).map (·.1))=_;simp
   have exl:(mkO (insP l k x)).xs.length=l.length+1:=by
    rw[hins];show((l.take i++(k,x)::l.drop i).map (·.2)).length=_;simp;omega
   have ekl:(mkO (insP l k x)).ks.length=l.length+1:=by
    rw[hins];show((l.take i++(k,x)::l.drop i).map (·.1)).length=_;simp;omega
   have ekm:(mkO (insP l k x)).ks.map str=((l.map (·.1)).map str).take (i*1)++[str k]++((l.map (·.1)).map str).drop (i*1):=by
    rw[ek,BW];simp
   have hfits:Fits (mkO (insP l k x)).xs.length (mkO (insP l k x)).ks (mkO (insP l k x)).t:=⟨by rw[exl];omega,by rw[ekl];omega,by simp[mkO,JV.t],λs hs=>by
    rw[ek]at hs;rcases dC.1 hs with hs|hs
    ·rcases dC.1 hs with hs|hs
     ·exact f4 s (tH hs)
     ·rw[bP.1 hs];exact hkl
    ·exact f4 s (BX hs)⟩
   have hreps:cJ (λq=>(B<=q/\sv'.ownBlock≠some q/\kv'.ownBlock≠some q)/\q≠a6) w7 (mkO (insP l k x)).xs (L.take (i*5)++cs++L.drop (i*5)):=by
    rw[ex];exact hall.mono λq _ hq=>⟨⟨hq.1.1,λe=>by
     rcases hsb q e with h|h
     ·exact hq.1.2.1 h
     ·have:=hq.2;omega,λe=>by
     rcases hkb q e with h|h
     ·exact hq.1.2.2 h
     ·have:=hq.2;omega⟩,by have:=hq.2;omega⟩
   refine⟨m3',m3,_,⟨by rw[exl];exact hOs7,hreps.mono λq _ hq=>hq.1,by rw[ekl,ekm];exact hOk7,hfits⟩,hreps⟩
  rw[bR];refine ldk (up hxd) ?_;rw[bR];refine lds (up hxd) ?_;refine ldx (up hxd) ⟨?_,?_⟩
  ·refine aCF λb27 w4 hb27 hz4 ht27 hx4=>?_;have hx4:=hxd.trans hx4;have sd:w3.drew.heap.size=w3.heap.size:=rfl;refine⟨ldx (up hx4) rfl,lds (up hx4) rfl,ldk (up hx4) rfl,?_,?_⟩
   ·refine insK (hx03.trans hx4) (by omega) ht27 λkv' w5 hOk hc5 hkb=>?_;have hc35:Chg (λq=>kv.ownBlock=some q) w3 w5:=(up hx4).trans hc5;refine⟨ldx hc35 rfl,lds hc35 rfl,?_⟩;rw[bR];refine Ze hcs5 λb33 w6 hb33 hz6 ht33 hx6=>?_;have hc36:Chg (λq=>kv.ownBlock=some q) w3 w6:=hc35.then hx6 λ_ _ e=>e.elim;have s35:=hc35.size;refine⟨lds hc36 rfl,?_⟩;refine BE ((Chg.of_ext hx03).trans hc36) (by omega) ht33 λsv' w7 hOs hc7 hsb=>?_;exact fin hc36 (kL hOk hx6 λ_ _ e=>e) (λq hq=>(hkb q hq).imp id λh=>by omega) hc7 hOs (λq hq=>(hsb q hq).imp id λh=>by omega)
   ·refine Ze hcs5 λb33 w5 hb33 hz5 ht33 hx5=>?_;have hx35:=hx4.trans hx5;refine⟨lds (up hx35) rfl,ldk (up hx35) rfl,?_⟩;refine insK (hx03.trans hx35) (by omega) (hx5.at ht27 id) λkv' w6 hOk hc6 hkb=>?_;have hc36:Chg (λq=>kv.ownBlock=some q) w3 w6:=(up hx35).trans hc6;refine⟨lds hc36 rfl,?_⟩;rw[bR];have s36:=hc36.size;refine BE ((Chg.of_ext hx03).trans hc36) (by omega) (hc6.at ht33 λe=>by have:=hkvlt _ e;omega) λsv' w7 hOs hc7 hsb=>?_;exact fin hc36 hOk (λq hq=>(hkb q hq).imp id λh=>by omega) hc7 hOs (λq hq=>(hsb q hq).imp id λh=>by omega)
  ·refine Ze hcs5 λb33 w4 hb33 hz4 ht33 hx4=>?_;have hx4:=hxd.trans hx4;have sd:w3.drew.heap.size=w3.heap.size:=rfl;refine⟨lds (up hx4) rfl,ldk (up hx4) rfl,?_⟩;refine aCF λb27 w5 hb27 hz5 ht27 hx5=>?_;have hx35:=hx4.trans hx5;refine⟨lds (up hx35) rfl,ldk (up hx35) rfl,?_⟩;refine insK (hx03.trans hx35) (by omega) ht27 λkv' w6 hOk hc6 hkb=>?_;have hc36:Chg (λq=>kv.ownBlock=some q) w3 w6:=(up hx35).trans hc6;refine⟨lds hc36 rfl,?_⟩;rw[bR];have s36:=hc36.size;refine BE ((Chg.of_ext hx03).trans hc36) (by omega) (hc6.at (hx5.at ht33 id) λe=>by have:=hkvlt _ e;omega) λsv' w7 hOs hc7 hsb=>?_;exact fin hc36 hOk (λq hq=>(hkb q hq).imp id λh=>by omega) hc7 hOs (λq hq=>(hsb q hq).imp id λh=>by omega)
 rintro st g w4 hJ4;obtain⟨sv',kv',hb3,hb6,hc,hlt6,o1',o2',n1,n2,L',hOP,hrep⟩:=(hJ _ _).1 hJ4;refine bY hb3 rfl ?_;refine iP hb6 rfl rfl (AM o1' o2') λw5 hc5=>?_;exact hK _ _ L' w5 (hc.then hc5 λq hq e=>by omega) ⟨kL hOP.items hc5 λq hq e=>n1 q hq e,(cJ.chg hc5 (λq hq _ e=>hq.2 e) hrep).mono λq _ hq=>hq.1,kL hOP.keys hc5 λq hq e=>n2 q hq e,hOP.fits⟩
end
end
end Go.Proofs.YtghhmpppnmoeoaaGreatDoor
namespace Go.Eng
section
open Go Go.Num
def PN(s:Str):Nat->Nat->List Str
 |0,_=>[]
 |n+1,i=>if i<s.length then(s.drop i).take (uY s i)::PN s n (i+uY s i)else []
def KO(s:Str):List Str:=PN s s.length 0
abbrev tV(s:Str):JV:=.mk 4 false s [] []
abbrev nV(s:Str):JV:=.mk 3 false s [] []
abbrev iV(n:Int):JV:=nV (Lib.itoa n)
abbrev bV(b:Bool):JV:=.mk 2 b [] [] []
abbrev lV(xs:List JV):JV:=.mk 5 false [] xs []
abbrev uV:JV:=.mk 1 false [] [] []
def Er(lo tb:Nat)(c:UInt8):UInt8:=if lo<=c.toNat/\c.toNat<lo+26 then UInt8.ofNat (c.toNat-lo+tb)else c
def lX(lo tb:Nat)(s:Str):Str:=s.map (Er lo tb)
def Ve(a:JV):Option JV:=if a.k=4 then some (iV (KO a.t).length)else if a.k=5\/a.k=6 then some (iV a.xs.length)else none
def Pw(a:JV):Option JV:=if a.k=4 then some (tV (KO a.t).reverse.flatten)else if a.k=5 then some (lV a.xs.reverse)else none
def Sx(s f n:Str):Option JV:=
 if neg f||neg n then none else
 let l:=KO s
 let at0:=min (dec f) l.length
 some (tV ((l.drop at0).take (min (dec n) (l.length-at0))).flatten)
def aAS(by_:Str)(xs:List JV):Option JV:=if xs.any (λx=> !decide (x.k=4))then none else some (tV (Lib.join (xs.map (·.t)) by_))
def Sz(by_ s:Str):Option JV:=if by_=[]then none else some (lV ((Lib.split s by_).map tV))
def VI(a:List JV):JV:=lV (a.map (·.xs)).flatten
def aAM(a:List JV):JV:=a.foldl (λv x=>(x.ks.zip x.xs).foldl (λv p=>wG v p.1 p.2) v) (.mk 6 false [] [] [])
def Yh(sg:Int)(a:List JV):JV:=a.foldl (λb x=>if 0<yF x.t b.t*sg then x else b) (a.headD JV.null)
def Zf(s:Str):Option JV:=if neg s||decide (32<dec s)then none else some (lV ((List.range (dec s)).map λi:Nat=>iV (i:Int)))
def YQ(a:JV):Option JV:=
 if a.k=2 then some (tV (if a.b then [116,114,117,101]else [102,97,108,115,101]))else if a.k=3\/a.k=4 then some (tV a.t)else none
def YR(a:JV):Option JV:=if(a.k=3\/a.k=4)/\goodN a.t=true then some (nV a.t)else none
structure FnM where
 takes:Str
 least:Nat
 act:List JV->Option JV
abbrev arg(a:List JV)(i:Nat):JV:=a.getD i JV.null
def Rh:FnM:=⟨[110],0,λa=>some (nV (dig (arg a 0).t))⟩
def Ge:FnM:=⟨[108,46],0,λa=>some (VI a)⟩
def Cm:FnM:=⟨[108,118],0,λa=>some (bV ((arg a 0).xs.any λx=>decide (LO x (arg a 1)=0)))⟩
def MF:FnM:=⟨[115,108],0,λa=>aAS (arg a 0).t (arg a 1).xs⟩
def ME:FnM:=⟨[111],0,λa=>some (lV ((arg a 0).ks.map tV))⟩
def Gc:FnM:=⟨[118],0,λa=>Ve (arg a 0)⟩
def Gb:FnM:=⟨[111,115,118],0,λa=>some ((xX (arg a 0) (arg a 1).t).getD (arg a 2))⟩
def JB:FnM:=⟨[115],0,λa=>some (tV (lX 65 97 (arg a 0).t))⟩
def Rf:FnM:=⟨[110,46],1,λa=>some (Yh 1 a)⟩
def JA:FnM:=⟨[111,46],0,λa=>some (aAM a)⟩
def Re:FnM:=⟨[110,46],1,λa=>some (Yh (-1) a)⟩
def Jz:FnM:=⟨[110],0,λa=>Zf (arg a 0).t⟩
def Eg:FnM:=⟨[118],0,λa=>Pw (arg a 0)⟩
def Jy:FnM:=⟨[115,115],0,λa=>Sz (arg a 0).t (arg a 1).t⟩
def Ga:FnM:=⟨[115,110,110],0,λa=>Sx (arg a 0).t (arg a 1).t (arg a 2).t⟩
def Jw:FnM:=⟨[118],0,λa=>YR (arg a 0)⟩
def Cl:FnM:=⟨[118],0,λa=>YQ (arg a 0)⟩
def AU:FnM:=⟨[115],0,λa=>some (tV (lX 97 65 (arg a 0).t))⟩
def FZ:FnM:=⟨[111],0,λa=>some (lV (arg a 0).xs)⟩
def fnT:List (Str×FnM):=[([97,98,115],Rh),([99,111,110,99,97,116],Ge),([99,111,110,116,97,105,110,115],Cm),([106,111,105,110],MF),([107,101,121,115],ME),([108,101,110,103,116,104],Gc),([108,111,111,107,117,112],Gb),([108,111,119,101,114],JB),([109,97,120],Rf),([109,101,114,103,101],JA),([109,105,110],Re),([114,97,110,103,101],Jz),([114,101,118,101,114,115,101],Eg),([115,112,108,105,116],Jy),([115,117,98,115,116,114],Ga),([116,111,105,110,116],Jw),([116,111,115,116,114,105,110,103],Cl),([117,112,112,101,114],AU),([118,97,108,117,101,115],FZ)]
def FJ:List (Str×FnM)->Str->Option FnM
 |[],_=>none
 |(a,v)::m,k=>if k=a then some v else FJ m k
def nG(c:UInt8):Int:=if c=110 then 3 else if c=115 then 4 else if c=108 then 5 else if c=111 then 6 else-1
def FH(t:Str):Bool:=t.getLast?==some 46
def wM(t:Str)(n:Nat):Str:=if FH t then(List.replicate n t.dropLast).flatten else t
def AV(f:FnM)(a:List JV):Bool:=
 decide (a.length=(wM f.takes a.length).length)&&decide (f.least<=a.length)&&(a.zip (wM f.takes a.length)).all λp=>decide (nG p.2<0)||decide (p.1.k=nG p.2)
def wZ(name:Str)(a:List JV):JV×Int:=
 if a.any (λx=> !fA x)then(JV.null,1)else
 match FJ fnT name with
 |none=>(JV.null,70)
 |some f=>
  if a.any (λx=> !oY x)then(uV,0)else
  if !AV f a then(JV.null,71)else
  match f.act a with
  |none=>(JV.null,71)
  |some v=>if fA v then(v,0)else(JV.null,3)
end
section
open Go
variable{w:World}{K:Q0}{cs:List Value}{G:Nat->Prop}{T:TypeId}{i:Nat}{n:Nat}{v:Value}{w':World}{P:Program}{c:UInt8}{S:Nat->Prop}
def nS:Nat->List (Str×Value)->List MapEntry
 |_,[]=>[]
 |i,(k,v)::m=>{key:=str k,val:=v,born:=i}::nS (i+1) m
theorem Gk(k:Str)(v:Value):∀(m:List (Str×Value)) (i:Nat),nS i (m++[(k,v)])=nS i m++[{key:=str k,val:=v,born:=i+m.length}]
 |[],i=>rfl
 |(a,x)::m,i=>by
  simp only[dA,nS,Gk k v m,aB]
  rw[show i+1+m.length=i+(m.length+1)by omega]
def Ko(w:World)(b:Nat)(m:List (Str×Value)):Prop:=w.heap[b]?=some (.map (nS 0 m).toArray m.length)
def sP:List (Str×Value)->Str->Option Value
 |[],_=>none
 |(a,v)::m,k=>if k=a then some v else sP m k
theorem AW(k:Str):∀(m:List (Str×Value)) (i j:Nat),(sP m k=none->Instr.findNow .string (str k) (nS i m) j=some none)/\∀v,sP m k=some v->∃n,Instr.findNow .string (str k) (nS i m) j=some (some (n,v))
 |[],i,j=>⟨λ_=>rfl,λv h=>by cases h⟩
 |(a,x)::m,i,j=>by
  have hs:Instr.sameNow .string (str k) (str a)=some (ofL k==ofL a):=rfl
  by_cases h:k=a
  ·subst h
   refine⟨λe=>?_,λv e=>?_⟩
   ·simp[sP]at e
   ·simp only[sP,gM,bE]at e
    subst e
    refine⟨j,?_⟩
    have hs':Instr.sameNow .string (str k) (str k)=some true:=by rw[hs,(MapKept.bytes_beq (ofL k) (ofL k)).2 rfl]
    simp only[nS,Instr.findNow,hs']
  ·have hne:(ofL k==ofL a)=false:=by
    cases hc:(ofL k==ofL a)with
    |false=>rfl
    |true=>exact absurd (Mm.1 ((MapKept.bytes_beq _ _).1 hc)) h
   obtain⟨h1,h2⟩:=AW k m (i+1) (j+1);simp only[nS,Instr.findNow,hs,hne,sP,aE h];exact⟨h1,h2⟩
section
variable{P:Program}{T KT ET:TypeId}{w:World}
theorem Je{r:Option Value}{K:Q0}(hT:P.underlying T=some (.map KT ET))(hr:r=none\/∃k n,r=some (.int k n))
  (hK:∀b w',b=w.heap.size->w'.heap.size=w.heap.size+1->Ko w' b []->Ext w w'->K (.map (some b)) w'):dF P (Instr.makeMap T r) w K:=by
 have hk:=hK w.heap.size (w.alloc (.map #[] 0)) rfl (size_alloc _ _) (gQ _ _ _ rfl) (Chg.alloc (Chg.refl _ _) _);have hrun:(Instr.makeMap T r).run P w=.ok (.map (some w.heap.size)) (w.alloc (.map #[] 0)):=by
  rcases hr with rfl|⟨k,n,rfl⟩
  ·simp[Instr.makeMap,run_bind,run_pure,newObj,Sem.run]
  ·simp[Instr.makeMap,run_bind,run_pure,newObj,Sem.run,bH hT,asInt,asIntOf]
 unfold dF;rw[hrun];exact hk
theorem UX{b:Nat}{m:List (Str×Value)}{k:Str}{K:World->Prop}(hT:P.underlying T=some (.map KT ET))(hKT:P.underlying KT=some .string)(hb:Ko w b m)(hn:sP m k=none)
  (hK:∀w',w'.heap.size=w.heap.size->Ko w' b (m++[(k,v)])->Chg (λq=>q=b) w w'->K w'):nN P (Instr.mapUpdate T (.map (some b)) (str k) v) w K:=by
 have hf:=(AW k m 0 0).1 hn;have hrun:(Instr.mapUpdate T (.map (some b)) (str k) v).run P w=.ok () {w with heap:=w.heap.setIfInBounds b (.map ((nS 0 m).toArray.push {key:=str k,val:=v,born:=m.length}) (m.length+1))}:=by
  simp only[Instr.mapUpdate,run_bind,bH hT,MapKept.run_getObj_map hb,MapKept.run_checkKey hKT (show MapKept.IsKey .string (str k)from trivial),MapKept.run_findKey hKT hf,MapKept.run_setObj_map _ hb]
 unfold nN;rw[hrun];refine hK _ (by simp) ?_ ⟨rfl,rfl,rfl,by simp,λq _ hq=>?_⟩
 ·show(w.heap.setIfInBounds b _)[b]?=_;rw[(MapKept.heap_set hb).1,Gk];simp
 ·exact(MapKept.heap_set hb).2 q hq
theorem UY{b:Nat}{m:List (Str×Value)}{k:Str}{z:Value}{K:Value->Prop}(hT:P.underlying T=some (.map KT ET))(hKT:P.underlying KT=some .string)(hz:Cb P ET=some z)(hb:Ko w b m)
  (h1:∀v,sP m k=some v->K (.tuple #[v,.bool true]))(h0:sP m k=none->K (.tuple #[z,.bool false])):nH P (Instr.lookup T (.map (some b)) (str k) true) w K:=by
 cases hl:sP m k with
 |none=>
  refine⟨_,?_,h0 hl⟩;simp only[Instr.lookup,run_bind,bH hT,MapKept.run_getObj_map hb,run_pure,MapKept.run_checkKey hKT (show MapKept.IsKey .string (str k)from trivial),MapKept.run_findKey hKT ((AW k m 0 0).1 hl),rS hz,gM]
 |some v=>
  obtain⟨n,hf⟩:=(AW k m 0 0).2 v hl;refine⟨_,?_,h1 v hl⟩;simp only[Instr.lookup,run_bind,bH hT,MapKept.run_getObj_map hb,run_pure,MapKept.run_checkKey hKT (show MapKept.IsKey .string (str k)from trivial),MapKept.run_findKey hKT hf,gM]
end
end
end Go.Eng
namespace Go.Proofs.YtghhmpppnmoeoaaGreatDoor
section
open Go Go.Eng Go.Num Go.RowKit
variable{w:World}{K:Q0}{cs:List Value}{G:Nat->Prop}{T:TypeId}{i:Nat}{n:Nat}{v:Value}{w':World}{P:Program}{c:UInt8}{S:Nat->Prop}
abbrev flat(k:Int)(b:Bool)(t:Str):List Value:=[i64 k,.bool b,str t,.slice none 0 0,.slice none 0 0]
theorem iY{k:Int}{b:Bool}{t:Str}(ht:t.length<=9223372036854775807):cL G w (.mk k b t [] []) (flat k b t):=
 cL.mk (v:=.mk k b t [] []) (T1:=0) (T2:=0) (L:=[]) (SlAt.nil w 0) (by simp[JV.xs,cJ]) (SlAt.nil w 0) ⟨by simp[JV.xs],by simp[JV.ks],by simpa[JV.t]using ht,by simp[JV.ks]⟩ (λh=>absurd rfl h) (λh=>by simp[JV.ks]at h)
theorem IC{w0:World}{b:Nat}{ds:List Value}{v:JV}{K:Q0}(hb:w.heap[b]?=some (.cells ds.toArray VT (0,0)))(hd:ds.length=5)(hl:w0.heap.size<=b)(hx:Ext w0 w)(h:cL (λq=>w0.heap.size<=q/\q≠b) w v cs)
  (hK:∀w',Ext w0 w'->cL (yM w0.heap.size) w' v cs->K (.agg cs.toArray) w'):stW 5 (.pointer (some ⟨b,0,none⟩)) (.agg cs.toArray) w λw5=>ldW true 5 (.pointer (some ⟨b,0,none⟩)) w5 λr6=>K r6 w5:=
 iP hb h.rep.len hd h.rep.all_one λw' hc=>by
  refine hK w' (hx.new hc hl) ?_
  exact(cL.chg hc (λq hq _ e=>hq.2 e) h).mono λq _ hq=>hq.1
theorem cL.at{w1:World}{b:Nat}{v:JV}(h:cL (yM n) w1 v cs)(hb:b<n)(hn:w.heap.size<=n):cL (λq=>w.heap.size<=q/\q≠b) w1 v cs:=
 h.mono λq _ hq=>⟨cI hn hq,by have:n<=q:=hq;omega⟩
theorem cL.ext'{v:JV}(h:cL G w v cs)(hx:Ext w w'):cL G w' v cs:=cL.chg hx (λ_ _ _ e=>e) h
theorem eY.fld{sv:Value}{xs:List JV}{n:Int}{off:Nat}{x:JV}{K:Value->Prop}(h:eY w sv xs)(hn:n=(i:Nat))(hi:xs[i]?=some x)(ho:off<5)(hK:∀cs u,eR w x cs->cs[off]?=some u->K u):
  dN none 5 sv (.int .i64 n) λp=>aZ off p λq=>ldW false 1 q w K:=by
 subst hn;obtain⟨T,L,h1,h2⟩:=h.it;refine Mq h1 h2 hi λb o c fr cs hb hc hg=>?_;rw[bR,dX,bZ,cD,hb,cH,hg off ho];exact⟨cs[off]'(by rw[hc.len];exact ho),List.getElem?_eq_getElem _,hK cs _ hc (List.getElem?_eq_getElem _)⟩
theorem eY.ft{sv:Value}{xs:List JV}{n:Int}{x:JV}{K:Value->Prop}(h:eY w sv xs)(hn:n=(i:Nat))(hi:xs[i]?=some x)(hK:x.t.length<=9223372036854775807->K (str x.t)):dN none 5 sv (.int .i64 n) λp=>aZ 2 p λq=>ldW false 1 q w K:=
 h.fld hn hi (by omega) λcs u hc hu=>by obtain⟨sv,kv,T1,T2,L,rfl,_,_,_,hf⟩:=hc.out;cases hu;exact hK hf.2.2.1
section
variable [HX]
theorem eY.at'{sv:Value}{xs:List JV}{n:Int}{x:JV}{K:Value->Prop}(h:eY w sv xs)(hn:n=(i:Nat))(hi:xs[i]?=some x)(hK:∀cs,eR w x cs->K (.agg cs.toArray)):dN none 5 sv (.int .i64 n) λp=>ldW true 5 p w K:=by
 subst hn;exact h.at hi hK
end
abbrev DoK(r:Option JV)(w:World)(K:Q0):Prop:=∀cs v ok w',Ext w w'->cL (yM w.heap.size) w' v cs->r=(if ok then some v else none)->K (.tuple #[.agg cs.toArray,.bool ok]) w'
theorem VC{w0:World}{b:Nat}{ds:List Value}{v:JV}{K:Q0}{r:Option JV}(hr:r=some v)(hb:w.heap[b]?=some (.cells ds.toArray VT (0,0)))(hd:ds.length=5)(hl:w0.heap.size<=b)(hx:Ext w0 w)(h:cL (λq=>w0.heap.size<=q/\q≠b) w v cs)(hK:DoK r w0 K):
  stW 5 (.pointer (some ⟨b,0,none⟩)) (.agg cs.toArray) w λw8=>ldW true 5 (.pointer (some ⟨b,0,none⟩)) w8 λr9=>K (.tuple #[r9,(.bool true)]) w8:=
 IC (K:=λr w=>K (.tuple #[r,.bool true]) w) hb hd hl hx h λw' hx' h'=>hK _ _ true w' hx' h' hr
section
variable [HX]
theorem Hp{s:Str}{K:Q0}(hK:∀w',Ext w w'->K (.agg (flat 4 false s).toArray) w'):aC P0 87 [str s] w K:=by
 refine aBt ?_;unfold W87;refine bF λb w1 hb hz hbb hx=>?_;simp only[wsv,wsg,wsh,wsl,aN,aK,aD,eZ,Nat.reduceAdd,Nat.reduceLT,aF,aA,aI,aH,bL,reduceCtorEq];exact iP hbb rfl rfl rfl λw' hc=>hK w' (hx.new hc (by omega))
theorem pA{s:Bool}{K:Q0}(hK:∀w',Ext w w'->K (.agg (flat 2 s []).toArray) w'):aC P0 86 [.bool s] w K:=by
 refine aBu ?_;unfold W86;refine bF λb w1 hb hz hbb hx=>?_;simp only[wsv,wsg,wsh,wsl,aN,aK,aD,eZ,Nat.reduceAdd,Nat.reduceLT,aF,aA,aI,aH,bL,reduceCtorEq];exact iP hbb rfl rfl rfl λw' hc=>hK w' (hx.new hc (by omega))
theorem rT{K:Q0}(hK:∀w',Ext w w'->K (.agg (flat 1 false []).toArray) w'):aC P0 97 [] w K:=by
 refine aBj ?_;unfold W97;refine bF λb w1 hb hz hbb hx=>?_;simp only[wsv,wsg,wsh,wsl,aN,aK,aD,eZ,Nat.reduceAdd,Nat.reduceLT,aF,aA,aI,aH,bL,reduceCtorEq];exact iP hbb rfl rfl rfl λw' hc=>hK w' (hx.new hc (by omega))
theorem zK{b o:Nat}(hx:Ext w w')(h:w.cell? ⟨b,o,none⟩=some v):w'.cell? ⟨b,o,none⟩=some v:=by
 rw[cD]at h⊢;cases hb:w.heap[b]? with
 |none=>rw[hb]at h;cases h
 |some x=>rw[hb]at h;rw[hx.at hb id];exact h
theorem Oi(w:World)(k:Nat)(os:Array Obj):Ext w (Sort.grow (w.drewN k) os):=
 ⟨rfl,rfl,rfl,by show w.heap.size<=(w.heap++os).size;simp,λj hj _=>by show(w.heap++os)[j]?=_;rw[Array.getElem?_append_left hj]⟩
theorem If{name:String}{c:Array Value}(hx:Ext w w')(h:w.var? P name=some c):w'.var? P name=some c:=by
 unfold World.var? at h⊢;cases hg:P.globalNamed name with
 |none=>rw[hg]at h;cases h
 |some g=>
  rw[hg]at h;simp only[Option.bind_some]at h⊢;cases hb:w.heap[g]? with
  |none=>rw[hb]at h;cases h
  |some o=>rw[hx.at hb id];rw[hb]at h;exact h
structure wV(w:World):Prop where
 pow:Lib.TabIs P0 w "internal/strconv.uint64pow10" .u64 Lib.pow10Tab
 syn:∃T v,w.cell? ⟨3,0,none⟩=some (.iface T v)
 rng:∃T v,w.cell? ⟨4,0,none⟩=some (.iface T v)
 mx:∃m,w.cell? ⟨0,0,none⟩=some (.int .i64 m)
theorem wV.ext(h:wV w)(hx:Ext w w'):wV w':=
 ⟨If hx h.pow,let⟨T,v,e⟩:=h.syn;⟨T,v,zK hx e⟩,let⟨T,v,e⟩:=h.rng;⟨T,v,zK hx e⟩,let⟨m,e⟩:=h.mx;⟨m,zK hx e⟩⟩
end
structure Ic(w:World)(b cap:Nat)(c:Array Value)(l:Str):Prop where
 hb:w.heap[b]?=some (.cells c U8 (c.size,c.size+1))
 le:l.length<=cap
 fits:l.length<=c.size
 get:∀i,i<l.length->c[i]?=(u8s l)[i]?
theorem Ic.byt{b cap:Nat}{c:Array Value}{l:Str}(h:Ic w b cap c l):Byt w U8 (.slice (some ⟨b,0,none⟩) l.length cap) l:=
 ⟨_,_,rfl,h.le,λe=>(by cases e),λ_=>⟨b,0,_,_,rfl,h.hb,λi hi=>by rw[aV];exact h.get i (by simpa[mH]using hi)⟩⟩
theorem Kz{l:Str}{src dst:TypeId}{K:Q0}(hs:Tryz.prog.underlying src=some .string)(hd:Tryz.prog.underlying dst=some (.slice U8))(he:Tryz.prog.underlying U8=some (.int .u8))
  (hK:∀b cap c w',w.heap.size<=b->Ic w' b cap c l->Ext w w'->K (.slice (some ⟨b,0,none⟩) l.length cap) w'):dF P0 (convert src dst (str l)) w K:=by
 unfold dF;rw[Lib.run_convert_string_bytes w src dst U8 (ofL l) hs hd he];have hle:(ofL l).size<=grownCap w (ofL l).size 0 U8:=grownCap_ge w (ofL l).size 0 U8;have hsz:(Lib.bytesCells w U8 (ofL l)).size=grownCap w (ofL l).size 0 U8:=by
  unfold Lib.bytesCells;simp only[Array.size_append,Array.size_map,tJ];have:(ofL l).data.size=(ofL l).size:=rfl;omega
 have e:(ofL l).size=l.length:=fL l;have hB:Ic (Lib.bytesWorld w U8 (ofL l)) w.heap.size (grownCap w (ofL l).size 0 U8) (Lib.bytesCells w U8 (ofL l)) l:=by
  refine⟨Lib.bytesWorld_at_new w U8 (ofL l),by rw[<-e];exact hle,by rw[hsz,<-e];exact hle,λi hi=>?_⟩;have:=Lib.bytesWorld_cell w U8 (ofL l) i (by rw[e];exact hi);rw[cD,Lib.bytesWorld_at_new,cH]at this;rw[this,yN,eO];simp[List.getD_eq_getElem?_getD,List.getElem?_eq_getElem hi]
 have:=hK _ _ _ _ (aS _) hB (zM _ _ _);rw[e];rw[e]at this;exact this
theorem Pl{b cap:Nat}{c:Array Value}{l:Str}{y:UInt8}{K:World->Prop}(h:Ic w b cap c l)(hi:i<l.length)
  (hK:∀c' w',Ic w' b cap c' (l.set i y)->Chg (λk=>k=b) w w'->w'.heap.size=w.heap.size->K w'):dN none 1 (.slice (some ⟨b,0,none⟩) l.length cap) (i64 (i:Nat)) λt=>stW 1 t (.int .u8 (y.toNat:Nat)) w K:=by
 rw[pY];refine⟨by omega,by omega,?_⟩;rw[bZ,aV,aW,BW];have hf:=h.fits;have hc2:(Value.int .u8 (y.toNat:Nat)).cells=#[.int .u8 (y.toNat:Nat)]:=rfl;have hz:(⟨b,i,none⟩:Addr).add 0=⟨b,i,none⟩:=rfl;simp only[stW,hc2];refine⟨rfl,?_⟩;simp only[tO,hz];refine⟨rfl,?_,?_,?_⟩
 ·rw[cD,h.hb,cH];simp;omega
 ·rw[lU,h.hb,Rc];simp;omega
 ·refine hK (c.setIfInBounds i (.int .u8 (y.toNat:Nat))) _ ⟨?_,by rw[rC];exact h.le,by rw[rC];simpa using h.fits,λj hj=>?_⟩ (Chg.set (S:=λk=>k=b) (Chg.refl _ _) (.inl rfl) _) (by simp)
  ·rw[nR,h.hb,yR];simp
  ·rw[rC]at hj;have hg:=h.get j hj;simp only[u8s,List.map_set]at hg⊢;rw[Array.getElem?_setIfInBounds,List.getElem?_set];by_cases e:i=j
   ·rw[aJ e,aJ e];subst e;rw[aJ (by omega),aJ (by simpa using hj)]
   ·rw[aE e,aE e];exact hg
theorem u8w(n:Nat):IntKind.u8.wrap (n:Int)=((n%256:Nat):Int):=by
 have e:(2:Int)^8=256:=by decide
 simp only[IntKind.wrap,IntKind.bits,IntKind.signed,zS,fH,kH,e];omega
section
variable [HX]
end
theorem Ow{lo tb:Nat}{l cur:Str}(hc:cur=lX lo tb (l.take i)++l.drop i)(hi:l[i]?=some c):cur[i]?=some c/\lX lo tb (l.take (i+1))++l.drop (i+1)=cur.set i (Er lo tb c):=by
 obtain⟨hlt,rfl⟩:=List.getElem?_eq_some_iff.1 hi;have hlen:(lX lo tb (l.take i)).length=i:=by simp[lX];omega
 constructor
 ·rw[hc,List.getElem?_append_right (by omega),hlen,Nat.sub_self,List.getElem?_drop,eS,hi]
 ·rw[hc,List.set_append_right _ _ (by omega),hlen,Nat.sub_self,cA hlt,aY];have e:l.take (i+1)=l.take i++[l[i]]:=by rw[dH,List.getElem?_eq_getElem hlt];rfl
  have e2:lX lo tb (l.take (i+1))=lX lo tb (l.take i)++[Er lo tb l[i]]:=by unfold lX;rw[e,fR];rfl
  rw[e2,eV];rfl
section
variable [HX]
theorem VN{lo tb:Nat}{l:Str}{K:Q0}(h1:lo+26<=255)(h2:tb+26<=255)(hl:l.length<=1000000)(hK:∀w',Ext w w'->K (str (lX lo tb l)) w'):
  aC P0 168 [str l,.int .u8 lo,.int .u8 tb] w K:=by
 refine WX ?_;unfold aDZ;refine Kz (by kernel_rfl) (by kernel_rfl) (by kernel_rfl) λb cap c w1 hb hB hx=>?_;rw[zD];refine mY l.length (λi w'=>∃c cur,Ext w w'/\Ic w' b cap c cur/\cur=lX lo tb (l.take i)++l.drop i) ⟨c,l,hx,hB,by simp[lX]⟩ ?_ ?_
 ·rintro i w3 g L hi ⟨c3,cur,hx3,hB3,hc⟩ hL;obtain⟨u,hu⟩:∃u,l[i]?=some u:=⟨_,List.getElem?_eq_getElem hi⟩;obtain⟨s1,s2⟩:=Ow hc hu;have hcl:cur.length=l.length:=by rw[hc];simp[lX];omega
  have hltI:(i:Int)<(l.length:Int):=by omega
  simp only[aG];rw[eC,bI hltI,dY];refine bS.cut (λst w'=>∃c' cur',Ext w w'/\Ic w' b cap c' cur'/\cur'=lX lo tb (l.take (i+1))++l.drop (i+1)) ?_ ?_
  ·have hby:=hB3.byt;rw[hcl]at hby;refine pZ (x:=.int .u8 (u.toNat:Nat)) hby (by rw[mH,hcl]) (by rw[yN,s1];rfl) ?_;have hu256:=pJ u;have e1:IntKind.u8.wrap ((lo:Int)+26)=((lo+26:Nat):Int):=by
    have:=u8w (lo+26);rw[gV (by omega)]at this;rw[<-this];rfl
   simp only[lF,cC,e1,eC,iD,nX,aG,fC];intro _;rw[bT];refine⟨λht=>?_,λhf=>?_⟩
   ·simp only[aL,bA]at ht;have g1:lo<=u.toNat:=by omega
    have g2:u.toNat<lo+26:=by omega
    have ey:Er lo tb u=UInt8.ofNat (u.toNat-lo+tb):=by unfold Er;rw[aJ ⟨g1,g2⟩]
    have en:(UInt8.ofNat (u.toNat-lo+tb)).toNat=u.toNat-lo+tb:=by rw[iK];omega
    have e2:IntKind.u8.wrap ((u.toNat:Int)-(lo:Int))=((u.toNat-lo:Nat):Int):=by
     have:=u8w (u.toNat-lo);rw[gV (by omega)]at this;rw[<-this];congr 1;omega
    have e3:IntKind.u8.wrap (((u.toNat-lo:Nat):Int)+(tb:Int))=((u.toNat-lo+tb:Nat):Int):=by
     have:=u8w (u.toNat-lo+tb);rw[gV (by omega)]at this;rw[<-this];congr 1
    simp only[mB,cC,e2,e3];have:=Pl (y:=UInt8.ofNat (u.toNat-lo+tb)) (K:=λw7=>∃c' cur',Ext w w7/\Ic w7 b cap c' cur'/\cur'=lX lo tb (l.take (i+1))++l.drop (i+1)) hB3 (i:=i) (by omega) λc' w' hB' hc' hz'=>
     ⟨c',_,hx3.then hc' λk hk e=>by have:k=b:=e;omega,hB',by rw[s2,ey]⟩
    rw[en,hcl]at this;exact this
   ·have:Er lo tb u=u:=by
     unfold Er;rw[aE];rintro⟨a1,a2⟩;have:(decide ((lo:Int)<=(u.toNat:Int))&&decide ((u.toNat:Int)<((lo+26:Nat):Int)))=true:=by
      simp only[aL,bA];omega
     rw[this]at hf;cases hf
    refine⟨c3,cur,hx3,hB3,?_⟩;rw[s2,this];have hlt2:i<cur.length:=by omega
    rw[List.getElem?_eq_getElem hlt2]at s1;rw[<-fE s1,List.set_getElem_self]
  ·rintro st g' w8 ⟨c',cur',hx8,hB8,he8⟩;rw[cC,up1 (by omega)];exact hL w8 ⟨c',cur',hx8,hB8,he8⟩
 ·rintro w3 g L ⟨c3,cur,hx3,hB3,hc⟩;simp only[aG];rw[eC,cP (fM _),cX];have hcl:cur.length=l.length:=by rw[hc];simp[lX]
  have hby:=hB3.byt;rw[hcl]at hby;rw[Ar (e:=U8) (by kernel_rfl) (by kernel_rfl) (by kernel_rfl) hby,hc,bO,dR,dV];exact hK w3 hx3
theorem Sn{x:JV}{sv:Value}{K:Q0}(h:eY w sv [x])(ht:x.t.length<=1000000)(hK:DoK (some (tV (lX 97 65 x.t))) w K):aC P0 179 [sv] w K:=by
 refine WW ?_;unfold aDY;refine bF λb w1 hb hz hbb hx=>?_;refine(h.ext hx).ft (i:=0) rfl rfl λ_=>?_;refine VN (lo:=97) (tb:=65) (by decide) (by decide) ht λw2 hx2=>?_;refine Hp λw3 hx3=>?_;exact VC rfl ((hx2.trans hx3).at hbb id) rfl (by omega) (hx.trans (hx2.trans hx3)) (iY (by simp[lX];omega)) hK
end
theorem Hr:∀(d:Str) (acc:Nat),acc<=d.foldl (λn c=>n*10+Num.dval c) acc
 |[],acc=>aS _
 |c::d,acc=>cI (by omega) (Hr d (acc*10+Num.dval c))
theorem PG:∀(d:Str) (acc:Nat),d.all Num.isDig=true->acc<18446744073709551616->
  (Lib.parseUint10 acc d=.ok (d.foldl (λn c=>n*10+Num.dval c) acc)/\d.foldl (λn c=>n*10+Num.dval c) acc<18446744073709551616)\/(Lib.parseUint10 acc d=.range/\18446744073709551616<=d.foldl (λn c=>n*10+Num.dval c) acc)
 |[],acc,_,h=>.inl ⟨rfl,h⟩
 |c::d,acc,ha,h=>by
  simp only[gJ,aL]at ha
  have hc:=ha.1
  simp only[Num.isDig,aL,bA]at hc
  simp only[Lib.parseUint10,aJ hc,List.foldl_cons]
  have hd:Num.dval c=c.toNat-48:=rfl
  split
  ·right
   refine⟨rfl,cI ?_ (Hr d _)⟩
   omega
  ·split
   ·right
    refine⟨rfl,cI ?_ (Hr d _)⟩
    omega
   ·rw[hd]
    exact PG d _ ha.2 (by omega)
theorem Ea{s:Str}(hg:goodN s=true):(s=45::dig s/\neg s=true\/s=dig s/\neg s=false)/\dig s≠[]/\(dig s).all Num.isDig=true:=by
 obtain⟨g1,g2,g3,g4⟩:=jD hg;refine⟨?_,λe=>by rw[e]at g1;simp at g1,g4⟩;cases s with
 |nil=>simp[dig]at g1
 |cons c r=>
  by_cases h:c=45
  ·subst h;left;simp[dig,neg]
  ·right;simp[dig,neg,h]
theorem Gx{s:Str}(hg:goodN s=true):(Lib.atoiAll s=.ok (num s)/\-9223372036854775808<=num s/\num s<=9223372036854775807)\/(Lib.atoiAll s=.range/\(num s< -9223372036854775808\/9223372036854775807<num s)):=by
 obtain⟨hs,hne,ha⟩:=Ea hg;have hp:=PG (dig s) 0 ha (by decide);have hd:(dig s).foldl (λn c=>n*10+Num.dval c) 0=dec (dig s):=rfl;rw[hd]at hp;rcases hs with⟨e,hn⟩|⟨e,hn⟩
 ·have hnum:num s=-(dec (dig s):Int):=by unfold num;rw[hn];rfl
  rw[hnum];generalize dig s=d at*
  subst e;simp only[Lib.atoiAll,Lib.parseMag];simp only[show(45:UInt8).toNat=45 from rfl,or_true,gM,rY,false_and,kH,dM,aE hne];rcases hp with⟨h1,h2⟩|⟨h1,h2⟩
  ·simp only[h1];by_cases hb:9223372036854775808<dec d
   ·right;rw[aJ hb];exact⟨rfl,.inl (by omega)⟩
   ·left;rw[aE hb];exact⟨rfl,by omega,by omega⟩
  ·right;simp only[h1];exact⟨trivial,.inl (by omega)⟩
 ·have hnum:num s=(dec (dig s):Int):=by unfold num;rw[hn];rfl
  rw[hnum];cases hd2:dig s with
  |nil=>exact absurd hd2 hne
  |cons c r=>
   rw[hd2]at hp ha e;have hc:=ha;simp only[gJ,aL,Num.isDig,bA]at hc;have n43:¬c.toNat=43:=by omega
   have n45:¬c.toNat=45:=by omega
   rw[e];simp only[Lib.atoiAll,Lib.parseMag,n43,n45,or_self,kH,not_false_eq_true,dM,false_and,aE (show¬(c::r=[])by simp)];rcases hp with⟨h1,h2⟩|⟨h1,h2⟩
   ·simp only[h1];by_cases hb:9223372036854775808<=dec (c::r)
    ·right;rw[aJ hb];exact⟨rfl,.inr (by omega)⟩
    ·left;rw[aE hb];exact⟨rfl,by omega,by omega⟩
   ·right;simp only[h1];exact⟨trivial,.inr (by omega)⟩
theorem ML(K:Value->Prop)(w:World):eqQ P0 .neq 118 false true .nilIface .nilIface w K↔K (.bool false):=by
 have h:(do eqGuard .neq 118 (rE false) (rE true) .nilIface .nilIface;binOp .neq 118 .nilIface .nilIface:Sem Value).run P0 w=.ok (.bool false) w:=by kernel_rfl
 unfold eqQ nH;rw[h];exact⟨λ⟨v,h1,h2⟩=>by cases h1;exact h2,λh2=>⟨_,rfl,h2⟩⟩
theorem Hg(T:TypeId)(v:Value)(w:World)(K:Value->Prop):eqQ P0 .neq 118 false true (.iface T v) .nilIface w K↔K (.bool true):=by
 have h:(do eqGuard .neq 118 (rE false) (rE true) (.iface T v) .nilIface;binOp .neq 118 (.iface T v) .nilIface:Sem Value).run P0 w=.ok (.bool true) w:=by kernel_rfl
 unfold eqQ nH;rw[h];exact⟨λ⟨v,h1,h2⟩=>by cases h1;exact h2,λh2=>⟨_,rfl,h2⟩⟩
def An(s:Str):Option Int:=if goodN s=true/\-9223372036854775808<=num s/\num s<=9223372036854775807 then some (num s)else none
section
variable [HX]
theorem aBf{s:Str}{K:Q0}(hT:wV w)(hl:s.length<=1000000)
  (hK:∀n e w',Ext w w'->((e=.nilIface/\Lib.atoiAll s=.ok n)\/(∃T v,e=.iface T v)/\∀n',Lib.atoiAll s≠.ok n')->K (.tuple #[i64 n,e]) w'):
  aC P0 157 [str s] w K:=by
 refine WZ ?_;unfold aD0;refine gX (args:=#[str s]) Tryz.call212 ((Tryz.internal_strconv_Atoi_all (ofL s) (by rw[fL];omega) w).mono ?_);rintro e w1 ⟨rfl,hw⟩;rw[eO];have hx1:Ext w w1:=by
  rcases hw with rfl|⟨t,rfl⟩
  ·exact Chg.refl _ _
  ·exact zM _ _ _
 have hT1:=hT.ext hx1;refine⟨_,rfl,?_⟩;rcases hA:Lib.atoiAll s with n|_|_
 ·simp only[Lib.intTuple,bK];refine⟨_,rfl,_,rfl,?_⟩;rw[ML,cX];exact hK n _ w1 hx1 (.inl ⟨rfl,hA⟩)
 ·simp only[Lib.intTuple,bK];refine⟨_,rfl,_,rfl,?_⟩;rw[Hg,dY];obtain⟨T,v,hv⟩:=hT1.syn;refine gX (args:=#[str [65,116,111,105],str s,i64 0,i64 0,.iface 236 (.int .i64 2)]) Tryz.call213 ((Tryz.strconv_toError_syntax (ofL [65,116,111,105]) (ofL s) 0 0 _ w1 (by rw[fL];omega) hv (.inr ⟨T,v,rfl⟩)).mono ?_);rintro e w' ⟨N,rfl,_,_,hb⟩;exact⟨_,rfl,hK 0 _ w' (hx1.trans (Chg.of_below hb)) (.inr ⟨⟨_,_,rfl⟩,λn' h=>by rw[hA]at h;cases h⟩)⟩
 ·simp only[Lib.intTuple,bK];refine⟨_,rfl,_,rfl,?_⟩;rw[Hg,dY];obtain⟨T,v,hv⟩:=hT1.rng;refine gX (args:=#[str [65,116,111,105],str s,i64 0,i64 0,.iface 236 (.int .i64 1)]) Tryz.call213 ((Tryz.strconv_toError_range (ofL [65,116,111,105]) (ofL s) 0 0 _ w1 (by rw[fL];omega) hv (.inr ⟨T,v,rfl⟩)).mono ?_);rintro e w' ⟨N,rfl,_,_,hb⟩;exact⟨_,rfl,hK _ _ w' (hx1.trans (Chg.of_below hb)) (.inr ⟨⟨_,_,rfl⟩,λn' h=>by rw[hA]at h;cases h⟩)⟩
theorem Qa{s:Str}{K:Q0}(hT:wV w)(hl:s.length<=1000000)(hK:∀w',Ext w w'->K (.tuple #[i64 ((An s).getD 0),.bool (An s).isSome]) w'):aC P0 123 [str s] w K:=by
 refine Xx ?_;unfold aEk;refine aBf hT hl λn e w1 hx1 he=>?_;simp only[bK];refine⟨_,rfl,_,rfl,?_⟩;rcases he with⟨rfl,hn⟩|⟨⟨T,v,rfl⟩,hn⟩
 ·rw[ML];simp only[lP,iL];refine GdW.act (!goodN s) (λw'=>Ext w1 w') (λ_=>Chg.refl _ _) (λ_ J hJ=>?_) λg w4 hx4=>?_
  ·refine mK (by omega) λw3 hx3=>?_;rw[eM];exact hJ w3 hx3
  simp only[aG,sL,aN];have hx:=hx1.trans hx4;rw[bT];refine⟨λhg=>?_,λhg=>?_⟩
  ·have:An s=none:=by unfold An;rw[aE];rintro⟨h,_⟩;rw[h]at hg;cases hg
   rw[this]at hK;exact hK w4 hx
  ·have hg:goodN s=true:=by simpa using hg
   rcases Gx hg with⟨h1,h2,h3⟩|⟨h1,_⟩
   ·rw[h1]at hn;cases hn;have:An s=some (num s):=by unfold An;rw[aJ ⟨hg,h2,h3⟩]
    rw[this]at hK;exact hK w4 hx
   ·rw[h1]at hn;cases hn
 ·rw[Hg];simp only[lP,kU,Ad];intro g;rw[mJ,dY];have:An s=none:=by
   unfold An;rw[aE];rintro⟨hg,h2,h3⟩;rcases Gx hg with⟨h1,_⟩|⟨_,h4⟩
   ·exact hn _ h1
   ·omega
  rw[this]at hK;exact hK w1 hx1
end
theorem Eb{s:Str}(h:goodN s=true):s.length<=101:=by
 obtain⟨_,g2,_,_⟩:=jD h;obtain⟨hs,_⟩:=Ea h;rcases hs with⟨e,_⟩|⟨e,_⟩
 ·rw[e,aB];omega
 ·rw[e];omega
theorem QX{v:JV}(h:sK v=true):v.t.length<=16384:=by
 rw[mX,aL]at h;obtain⟨_,_,_,h4,_,_,h7,h8,_⟩:=mP h.1;by_cases ht:v.t=[]
 ·rw[ht];simp
 ·rcases h4 ht with k|k
  ·have:=Eb (h7 k);omega
  ·exact h8 k
theorem cJ.get5{G:Nat->Prop}{w:World}:∀{xs:List JV} {L:List Value} {i:Nat} {x:JV},cJ G w xs L->xs[i]?=some x->∃cs,cL G w x cs/\∀j,j<5->L[i*5+j]?=cs[j]?
 |[],_,_,_,_,h=>by simp at h
 |y::xs,L,0,x,h,hx=>by
  simp only[List.getElem?_cons_zero,bE]at hx
  subst hx
  simp only[cJ]at h
  obtain⟨c,r,rfl,hc,hr⟩:=h
  refine⟨c,hc,λj hj=>?_⟩
  rw[qO,aV,List.getElem?_append_left (by rw[hc.rep.len];exact hj)]
 |y::xs,L,i+1,x,h,hx=>by
  simp only[List.getElem?_cons_succ]at hx
  simp only[cJ]at h
  obtain⟨c,r,rfl,hc,hr⟩:=h
  obtain⟨cs,h1,h2⟩:=cJ.get5 hr hx
  refine⟨cs,h1,λj hj=>?_⟩
  rw[List.getElem?_append_right (by rw[hc.rep.len];omega),hc.rep.len,<-h2 j hj]
  congr 1;omega
section
variable [HX]
end
end
end Go.Proofs.YtghhmpppnmoeoaaGreatDoor
namespace Go.Proofs
section
open Go.RowKit Go.Lib Go.Shelf
variable{w:World}{K:Q0}{cs:List Value}{G:Nat->Prop}{T:TypeId}{i:Nat}{n:Nat}{v:Value}{w':World}{P:Program}{c:UInt8}{S:Nat->Prop}
abbrev BdT:TypeId:=116
set_option maxHeartbeats 1000000 in
set_option maxRecDepth 100000 in
theorem Tryz.check_used(b:Nat)(w:World)(h0:w.cell? ⟨b,0,none⟩=some (.pointer (some ⟨b,0,none⟩))):
  Calls P0 102 #[.pointer (some ⟨b,0,none⟩)] w λe w'=>e=.returned (.tuple #[])/\w'=w:=by
 obtain⟨j,hj,_⟩:=Option.map_eq_some_iff.1 (show(Tryz.prog.info? 116).map (·.size)=some 2 by kernel_rfl)
 go_enter Tryz.func102,Tryz.ntmps102
 go_wp2
 rw[Lib.run_neq_ptr_same w _ Tryz.underlying114 hj]
 go_wp2
 go_end0
 exact⟨rfl,rfl⟩
set_option maxHeartbeats 1000000 in
set_option maxRecDepth 100000 in
theorem Tryz.check_fresh(b:Nat)(w:World)(h0:w.cell? ⟨b,0,none⟩=some (.pointer none))(hsh:w.shape? b=some (116,2))(hfz:w.frozen? ⟨b,0,none⟩=false):
  Calls P0 102 #[.pointer (some ⟨b,0,none⟩)] w λe w'=>e=.returned (.tuple #[])/\w'=w.setCell ⟨b,0,none⟩ (.pointer (some ⟨b,0,none⟩)):=by
 obtain⟨j,hj,hjs⟩:=Option.map_eq_some_iff.1 (show(Tryz.prog.info? 116).map (·.size)=some 2 by kernel_rfl)
 go_enter Tryz.func102,Tryz.ntmps102
 go_wp2
 rw[Lib.run_to_unsafe w ⟨b,0,none⟩ Tryz.underlying114 Tryz.underlying172 hj (by rw[hjs];decide) hsh (aA 1)];simp only[Result.andThen];rw[Oper.upon_value]
 go_wp2
 rw[run_callFunc_extern Tryz.func137 (by kernel_rfl) (by kernel_rfl) (by kernel_rfl) (e:=Extern.AbiNoEscape.same) (by kernel_rfl)];rw[Lib.run_noEscape];simp only[Result.andThen];rw[Oper.upon_value]
 go_wp2
 rw[Lib.run_from_unsafe w ⟨b,0,none⟩ Tryz.underlying172 Tryz.underlying114 hj hsh (show liesAt P0 Tryz.prog.depth 116 (2/Tryz.prog.cellsOf 116) 0 116 1=true by kernel_rfl)];simp only[Result.andThen];rw[Oper.upon_value]
 go_wp2
 go_end0
 exact⟨rfl,rfl⟩
end
end Go.Proofs
namespace Go.Proofs.YtghhmpppnmoeoaaGreatDoor
section
open Go Go.Eng Go.RowKit
variable{w:World}{K:Q0}{cs:List Value}{G:Nat->Prop}{T:TypeId}{i:Nat}{n:Nat}{v:Value}{w':World}{P:Program}{c:UInt8}{S:Nat->Prop}
abbrev BdT:TypeId:=116
theorem AX:qQ P0 89 U8 1 1:=⟨by kernel_rfl,by kernel_rfl,by decide⟩
def Bld(w:World)(B b:Nat)(l:Str):Prop:=
 ∃p v,w.heap[b]?=some (.cells [p,v].toArray BdT (0,0))/\(p=.pointer none\/p=.pointer (some ⟨b,0,none⟩))/\Own w B U8 1 v l.length (u8s l)/\B<=b
def BCh(w:World)(B b:Nat)(k:Nat):Prop:=k=b\/OD w B U8 k
theorem Bld.chg{B b:Nat}{l:Str}(h:Bld w B b l)(hc:Chg S w w')(hb:¬S b)(hS:∀k,OD w B U8 k->¬S k):Bld w' B b l:=by
 obtain⟨p,v,h1,h2,h3,h4⟩:=h;exact⟨p,v,hc.at h1 hb,h2,h3.chg hc hS,h4⟩
theorem Bld.ext{B b:Nat}{l:Str}(h:Bld w B b l)(hc:Ext w w'):Bld w' B b l:=h.chg hc (λe=>e) λ_ _ e=>e
theorem Bld.lt{B b:Nat}{l:Str}(h:Bld w B b l):b<w.heap.size:=by
 obtain⟨p,v,h1,_⟩:=h;exact fJ h1
theorem Bld.base{B b:Nat}{l:Str}(h:Bld w B b l):B<=b:=by obtain⟨p,v,_,_,_,h4⟩:=h;exact h4
theorem Ke{B b:Nat}{p:Value}(h1:w.heap[b]?=some (.cells [p,v].toArray BdT (0,0))):¬OD w B U8 b:=by
 rintro⟨_,c,hc⟩;rw[h1]at hc;simp only[bE,Obj.cells.injEq]at hc;exact absurd hc.2.1 (by decide)
theorem BCh.trans{w1 w2:World}{B b:Nat}(h1:Chg (BCh w B b) w w1)(h2:Chg (BCh w1 B b) w1 w2):Chg (BCh w B b) w w2:=by
 refine⟨h2.os.trans h1.os,h2.tape.trans h1.tape,h2.output.trans h1.output,cI h1.size h2.size,λk hk hn=>?_⟩;have e1:=h1.heap k hk hn;rw[<-e1];refine h2.heap k (cO hk h1.size) λe=>hn ?_;rcases e with e|⟨e2,c,e3⟩
 ·exact .inl e
 ·exact .inr ⟨e2,c,by rw[<-e1];exact e3⟩
theorem BCh.from{w1 w2:World}{B b:Nat}(h1:Ext w w1)(h2:Chg (BCh w1 B b) w1 w2):Chg (BCh w B b) w w2:=BCh.trans (Chg.of_ext h1) h2
theorem BCh.new{w0:World}{B b:Nat}(h0:Ext w0 w)(hB:w0.heap.size<=B)(hb:B<=b)(h:Chg (BCh w B b) w w'):Ext w0 w':=
 h0.then h λk hk e=>by
  rcases e with rfl|⟨e,_⟩
  ·omega
  ·omega
theorem BCh.keep{B b k:Nat}{c:Array Value}{fr:Nat×Nat}(h:Chg (BCh w B b) w w')(hk:w.heap[k]?=some (.cells c T fr))(hb:k≠b)(hT:T≠U8):w'.heap[k]?=some (.cells c T fr):=
 h.at hk λe=>by
  rcases e with e|⟨_,c',e⟩
  ·exact hb e
  ·rw[hk]at e
   simp only[bE,Obj.cells.injEq]at e
   exact hT e.2.1
theorem BCh.iter{B b k p:Nat}{s:ByteArray}(h:Chg (BCh w B b) w w')(hk:w.heap[k]?=some (.stringIter s p))(hb:k≠b):w'.heap[k]?=some (.stringIter s p):=
 h.at hk λe=>by
  rcases e with e|⟨_,c',e⟩
  ·exact hb e
  ·rw[hk]at e;cases e
section
variable [HX]
theorem aBb{B:Nat}{K:Q0}(hB:B<=w.heap.size)(hK:∀b w',b=w.heap.size->Bld w' B b []->Ext w w'->K (.pointer (some ⟨b,0,none⟩)) w'):bN BdT [.pointer none,.slice none 0 0] w K:=
 bF λa w' ha hz hb hx=>hK a w' ha ⟨_,_,hb,.inl rfl,⟨by simp[u8s],.inl ⟨rfl,rfl⟩⟩,by omega⟩ hx
theorem HO{B b:Nat}{l:Str}{K:Q0}(h:Bld w B b l)
  (hK:∀v w',w'.heap[b]?=some (.cells [.pointer (some ⟨b,0,none⟩),v].toArray BdT (0,0))->Own w' B U8 1 v l.length (u8s l)->w'.heap.size=w.heap.size->Chg (BCh w B b) w w'->K (.tuple #[]) w'):
  aC P0 102 [.pointer (some ⟨b,0,none⟩)] w K:=by
 obtain⟨p,v,h1,h2,h3,h4⟩:=h;have c0:w.cell? ⟨b,0,none⟩=some p:=by rw[cD,h1];rfl
 rcases h2 with rfl|rfl
 ·refine gX (args:=#[.pointer (some ⟨b,0,none⟩)]) Tryz.call102 ((Tryz.check_fresh b w c0 (by simp[World.shape?,h1]) (by rw[lU,h1];rfl)).mono ?_);rintro e w' ⟨rfl,rfl⟩;refine⟨_,rfl,hK v _ ?_ ?_ (sF _ _ _) (Chg.set (Chg.refl _ _) (.inl (.inl rfl)) _)⟩
  ·rw[nR,h1];rfl
  ·refine h3.chg (Chg.set (S:=λk=>k=b) (Chg.refl _ _) (.inl rfl) _) λk hk e=>?_;subst e;exact Ke h1 hk
 ·refine gX (args:=#[.pointer (some ⟨b,0,none⟩)]) Tryz.call102 ((Tryz.check_used b w c0).mono ?_);rintro e w' ⟨rfl,rfl⟩;exact⟨_,rfl,hK v _ h1 h3 rfl (Chg.refl _ _)⟩
theorem LS{w3:World}{B b n:Nat}{l l':Str}{v':Value}{K:World->Prop}(h1:w.heap[b]?=some (.cells [.pointer (some ⟨b,0,none⟩),v].toArray BdT (0,0)))(hO:Own w B U8 1 v l.length (u8s l))(hb:B<=b)
  (hc:Chg (λk=>v.ownBlock=some k) w w3)(hO':Own w3 B U8 1 v' l'.length (u8s l'))(hK:∀w',Bld w' B b l'->Chg (BCh w B b) w w'->w'.heap.size=w3.heap.size->K w'):
  stW 1 (.pointer (some ⟨b,1,none⟩)) v' w3 K:=by
 have hne:¬v.ownBlock=some b:=λe=>Ke h1 (hO.block b e);have h3:=hc.at h1 hne;have hsh:fG v'=true:=by obtain⟨p,c,rfl,_⟩:=hO'.sl.shape;rfl
 refine iU h3 hsh (by simp) λw4 hz hb4 hc4=>?_;refine hK w4 ⟨.pointer (some ⟨b,0,none⟩),v',by rw[hb4];simp,.inr rfl,hO'.chg hc4 λk hk e=>by subst e;exact Ke h3 hk,hb⟩ ?_ hz;have s1:Chg (BCh w B b) w w3:=hc.mono λk _ e=>.inr (hO.block k e);exact s1.then hc4 λk _ e=>.inl e
theorem Kt{B b:Nat}{l s:Str}{K:Q0}(h:Bld w B b l)(hB:B<=w.heap.size)(hl:l.length+s.length<=140737488355328)
  (hK:∀v w',Bld w' B b (l++s)->Chg (BCh w B b) w w'->K v w'):aC P0 66 [.pointer (some ⟨b,0,none⟩),str s] w K:=by
 have hb:=h.base;refine aBK ?_;unfold W66;refine HO h λv w1 h1 hO hz hc=>?_;rw[dW,bR,dX];refine⟨v,by rw[bZ,cD,h1];rfl,?_⟩;obtain⟨i,z,hi,hzr,h2,h3,h4⟩:=AX.get;have hz0:i.zero=some (.int .u8 0):=by
  have:(Tryz.prog.info? U8).map (·.zero)=some (some (.int .u8 0)):=by kernel_rfl
  rw[hi]at this;simpa using this
 obtain⟨v',w3,hr,hO',hg,_⟩:=Lib.run_append_own_string (P:=P0) w1 B 89 9 89 U8 i AX.und (by kernel_rfl) hi hz0 h2 h3 v l.length (u8s l) hO (ofL s) (by rw[fL];unfold maxLen;omega) (by rw[fL];omega) (by omega);unfold dF;rw[hr];dsimp only;rw[dW,bR];have hO2:Own w3 B U8 1 v' (l++s).length (u8s (l++s)):=by
  rw[CH,aX];have e1:Lib.strCells (ofL s)=u8s s:=by unfold Lib.strCells u8s;rw[eO]
  rw[fL,e1]at hO';exact hO'
 refine LS (n:=0) h1 hO hb (Chg.of_grown hg λk e=>e) hO2 λw4 hb4 hc4 _=>?_;rw[fX];exact hK _ w4 hb4 (BCh.trans hc hc4)
theorem GR{K:Q0}(hK:∀t w',SlAt w' U8 t 1 [.int .u8 (n:Int)]->Ext w w'->K t w'):dJ U8 1 [(.int .u8 0)] [(0,1,.int .u8 (n:Int))] w K:=by
 rw[dJ];simp only[dD,cU,aB,aM,aY];refine⟨by omega,?_⟩;refine hK _ _ ⟨_,_,rfl,aS _,λe=>(by cases e),λ_=>⟨_,_,_,_,rfl,gQ _ _ _ rfl,λi _=>by rw[aV];simp⟩⟩ (Chg.alloc (Chg.refl _ _) _)
theorem CG{B b:Nat}{l:Str}{K:Q0}(h:Bld w B b l)(hB:B<=w.heap.size)(hl:l.length+1<=140737488355328)(hn:n<256)
  (hK:∀w',Bld w' B b (l++[UInt8.ofNat n])->Chg (BCh w B b) w w'->K .nilIface w'):aC P0 62 [.pointer (some ⟨b,0,none⟩),.int .u8 (n:Int)] w K:=by
 have hb:=h.base;refine aBM ?_;unfold W62;refine HO h λv w1 h1 hO hz hc=>?_;rw[dW,bR,dX];refine⟨v,by rw[bZ,cD,h1];rfl,?_⟩;refine GR λt w2 ht hx2=>?_;refine kZ AX (hO.ext hx2) ht (m:=1) rfl (λu hu=>by simp only[bP]at hu;subst hu;rfl) (by omega) (by omega) (by have:=hx2.size;omega) λv' w3 hO3 hc3 _=>?_;rw[dW,bR];have hO2:Own w3 B U8 1 v' (l++[UInt8.ofNat n]).length (u8s (l++[UInt8.ofNat n])):=by
  rw[CH,aX];have e1:u8s [UInt8.ofNat n]=[.int .u8 (n:Int)]:=by
   simp only[u8s,dG,oD,iK];rw[gV (by omega)]
  rw[e1];exact hO3
 refine LS (n:=0) (hx2.at h1 id) (hO.ext hx2) hb hc3 hO2 λw4 hb4 hc4 _=>?_;exact hK w4 hb4 (BCh.trans hc (BCh.from hx2 hc4))
end
abbrev u8(n:Nat):Value:=.int .u8 (n:Int)
theorem aCS:∀x:Fin 32,IntKind.u8.wrap (BitVec.ofInt IntKind.u8.bits 192|||BitVec.ofInt IntKind.u8.bits ((x.val:Nat):Int)).toNat=((192+x.val:Nat):Int):=by decide+kernel
theorem aCR:∀x:Fin 16,IntKind.u8.wrap (BitVec.ofInt IntKind.u8.bits 224|||BitVec.ofInt IntKind.u8.bits ((x.val:Nat):Int)).toNat=((224+x.val:Nat):Int):=by decide+kernel
theorem aCQ:∀x:Fin 8,IntKind.u8.wrap (BitVec.ofInt IntKind.u8.bits 240|||BitVec.ofInt IntKind.u8.bits ((x.val:Nat):Int)).toNat=((240+x.val:Nat):Int):=by decide+kernel
theorem aCT:∀x:Fin 64,IntKind.u8.wrap (BitVec.ofInt IntKind.u8.bits 128|||BitVec.ofInt IntKind.u8.bits ((x.val:Nat):Int)).toNat=((128+x.val:Nat):Int):=by decide+kernel
theorem aDh:∀x:Fin 256,IntKind.u8.wrap (BitVec.ofInt IntKind.u8.bits ((x.val:Nat):Int)&&&BitVec.ofInt IntKind.u8.bits 63).toNat=((x.val%64:Nat):Int):=by decide+kernel
theorem yO(n:Nat):IntKind.u8.wrap (n:Int)=((n%256:Nat):Int):=by
 simp only[IntKind.wrap,IntKind.bits,IntKind.signed,zS];rw[show(2:Int)^8=256 by decide];simp
theorem Ig(h:n<4294967296):IntKind.u32.wrap (n:Int)=(n:Int):=by
 simp only[IntKind.wrap,IntKind.bits,IntKind.signed,zS];rw[show(2:Int)^32=4294967296 by decide];simp only[fH,kH];omega
theorem Ff(r k:Nat)(hk:k<=32)(K:Value->Prop):aP .shr (.int .i32 (r:Int)) (.int .u64 (k:Int)) K↔K (.int .i32 ((r/2^k:Nat):Int)):=by
 have e:(r:Int).fdiv (2^min (k:Int).toNat IntKind.i32.bits)=((r/2^k:Nat):Int):=by
  rw[aW,show min k IntKind.i32.bits=k from kA hk,Int.fdiv_eq_ediv_of_nonneg _ (by exact Int.le_of_lt (Int.pow_pos (by decide)))];rw[Int.natCast_ediv,Int.natCast_pow];rfl
 simp only[aP];rw[e];constructor
 ·exactλh=>h.2
 ·exactλh=>⟨by omega,h⟩
theorem Bj(x:Nat)(K:Value->Prop):(sX .u8 (.int .i32 (x:Int)) λt=>aP .and t (.int .u8 63) λt=>aP .or (.int .u8 128) t K)↔K (u8 (128+x%64)):=by
 rw[mZ,yO,VW,aDh ⟨x%256,by omega⟩,HR,aCT ⟨x%256%64,by omega⟩];simp only;rw[show x%256%64=x%64 by omega]
theorem aEF{a b:Nat}{K:Q0}(hK:∀t w',SlAt w' U8 t 2 [u8 a,u8 b]->Ext w w'->K t w'):dJ U8 2 [(.int .u8 0),(.int .u8 0)] [(0,1,u8 a),(1,1,u8 b)] w K:=by
 rw[dJ];simp only[dD,cU,aB,aM,aY,bB];refine⟨by omega,by omega,?_⟩;refine hK _ _ ⟨_,_,rfl,aS _,λe=>(by cases e),λ_=>⟨_,_,_,_,rfl,gQ _ _ _ rfl,λi _=>by rw[aV];simp⟩⟩ (Chg.alloc (Chg.refl _ _) _)
theorem aEE{a b c:Nat}{K:Q0}(hK:∀t w',SlAt w' U8 t 3 [u8 a,u8 b,u8 c]->Ext w w'->K t w'):dJ U8 3 [(.int .u8 0),(.int .u8 0),(.int .u8 0)] [(0,1,u8 a),(1,1,u8 b),(2,1,u8 c)] w K:=by
 rw[dJ];simp only[dD,cU,aB,aM,aY,bB];refine⟨by omega,by omega,by omega,?_⟩;refine hK _ _ ⟨_,_,rfl,aS _,λe=>(by cases e),λ_=>⟨_,_,_,_,rfl,gQ _ _ _ rfl,λi _=>by rw[aV];simp⟩⟩ (Chg.alloc (Chg.refl _ _) _)
theorem aED{a b c d:Nat}{K:Q0}(hK:∀t w',SlAt w' U8 t 4 [u8 a,u8 b,u8 c,u8 d]->Ext w w'->K t w'):dJ U8 4 [(.int .u8 0),(.int .u8 0),(.int .u8 0),(.int .u8 0)] [(0,1,u8 a),(1,1,u8 b),(2,1,u8 c),(3,1,u8 d)] w K:=by
 rw[dJ];simp only[dD,cU,aB,aM,aY,bB];refine⟨by omega,by omega,by omega,by omega,?_⟩;refine hK _ _ ⟨_,_,rfl,aS _,λe=>(by cases e),λ_=>⟨_,_,_,_,rfl,gQ _ _ _ rfl,λi _=>by rw[aV];simp⟩⟩ (Chg.alloc (Chg.refl _ _) _)
theorem Sq(l:List Nat)(h:∀x∈l,x<256):u8s (l.map b8)=l.map u8:=by
 unfold u8s;rw[List.map_map];apply List.map_congr_left;intro x hx;have:=h x hx;simp only[Function.comp,b8,iK,u8];rw[gV (by omega)]
section
variable [HX]
theorem VX{B r:Nat}{l:Str}{K:Q0}(hO:Own w B U8 1 v l.length (u8s l))(hB:B<=w.heap.size)(hl:l.length+4<=140737488355328)(hr:r<55296\/57343<r/\r<=1114111)
  (hK:∀v' w',Own w' B U8 1 v' (l++wrM r).length (u8s (l++wrM r))->(∀k,¬OD w B U8 k->k<w.heap.size->w'.heap[k]?=w.heap[k]?)->Chg (λk=>v.ownBlock=some k) w w'->K v' w'):
  aC P0 103 [v,.int .i32 (r:Int)] w K:=by
 have fin:∀(bs:List Nat) (t:Value) (w1:World),wrM r=bs.map b8->(∀x∈bs,x<256)->bs.length<=4->SlAt w1 U8 t bs.length (bs.map u8)->Ext w w1->dF P0 (Builtin.append_ #[89,89] 89 #[v,t]) w1 K:=by
  intro bs t w1 he hlt hlen ht hx;refine kZ AX (hO.ext hx) ht (m:=bs.length) (by simp) (λu hu=>by simp only[kT]at hu;obtain⟨x,_,rfl⟩:=hu;rfl) (by omega) (by omega) (by have:=hx.size;omega) λv' w3 hO3 hc3 _=>?_;have hc:Chg (λk=>v.ownBlock=some k) w w3:=(Chg.of_ext hx).trans hc3;refine hK v' w3 ?_ (λk hk hlt=>hc.heap k hlt λe=>hk (hO.block k e)) hc;rw[CH,he,Sq bs hlt,aX,dL];exact hO3
 refine XM ?_;unfold aEy;rw[mZ,Ig (by omega),uF,aO];refine⟨λh=>?_,λh=>?_⟩
 ·rw[mZ,yO,gV (by omega)];refine GR λt w1 ht hx=>?_;refine fin [r] t w1 ?_ (λx hx=>by simp only[bP]at hx;omega) (by simp) ht hx;unfold wrM;rw[aJ (by omega)];rfl
 refine Xj ?_;unfold aD7;rw[mZ,Ig (by omega),uF,aO];refine⟨λh2=>?_,λh2=>?_⟩
 ·rw[show(6:Int)=((6:Nat):Int)from rfl,Ff r 6 (by omega),mZ,yO,show r/2^6%256=r/64 by omega,HR,aCS ⟨r/64,by omega⟩,Bj];refine aEF λt w1 ht hx=>?_;refine fin [192+r/64,128+r%64] t w1 ?_ (λx hx=>by simp only[bQ,fD,qV]at hx;omega) (by simp) ht hx;unfold wrM;rw[aE (by omega),aJ (by omega)];rfl
 refine bS.cut (λs' w'=>s'=[.bool (decide (r<=65535))]/\w'=w) ?_ ?_
 ·rw[eC,aO];refine⟨λh3=>?_,λh3=>?_⟩
  ·rw[bI h3,bI (by omega)];exact⟨rfl,rfl⟩
  ·rw[eC,bI (show(57343:Int)<(r:Int)by omega)];refine GdW.look (decide (r<=65535)) (λ_ J hJ=>?_) λg=>?_
   ·rw[uF];rw[show decide ((r:Int)<=65535)=decide (r<=65535)by rw[decide_eq_decide];omega];exact hJ
   ·exact⟨rfl,rfl⟩
 rintro s' g w' ⟨rfl,rfl⟩;simp only[aG];rw[aO];refine⟨λh3=>?_,λh3=>?_⟩
 ·rw[show(12:Int)=((12:Nat):Int)from rfl,Ff r 12 (by omega),mZ,yO,show r/2^12%256=r/4096 by omega,HR,aCR ⟨r/4096,by omega⟩,show(6:Int)=((6:Nat):Int)from rfl,Ff r 6 (by omega),Bj,Bj];refine aEE λt w1 ht hx=>?_;refine fin [224+r/4096,128+r/64%64,128+r%64] t w1 ?_ (λx hx=>by simp only[bQ,fD,qV]at hx;omega) (by simp) ht hx;unfold wrM;rw[aE (by omega),aE (by omega),aJ (by omega)];rfl
 rw[mC,bI (show(65535:Int)<(r:Int)by omega)];refine GdW.look true (λ_ J hJ=>?_) λg=>?_
 ·rw[uF,bI (show(r:Int)<=1114111 by omega)];exact hJ
 show aR (.bool true) _ _;rw[dY];rw[show(18:Int)=((18:Nat):Int)from rfl,Ff r 18 (by omega),mZ,yO,show r/2^18%256=r/262144 by omega,HR,aCQ ⟨r/262144,by omega⟩,show(12:Int)=((12:Nat):Int)from rfl,Ff r 12 (by omega),Bj,show(6:Int)=((6:Nat):Int)from rfl,Ff r 6 (by omega),Bj,Bj];refine aED λt w1 ht hx=>?_;refine fin [240+r/262144,128+r/4096%64,128+r/64%64,128+r%64] t w1 ?_ (λx hx=>by simp only[bQ,fD,qV]at hx;omega) (by simp) ht hx;unfold wrM;rw[aE (by omega),aE (by omega),aE (by omega)];rfl
theorem Sd{B b r:Nat}{l:Str}{K:Q0}(h:Bld w B b l)(hB:B<=w.heap.size)(hl:l.length+4<=140737488355328)(hr:r<55296\/57343<r/\r<=1114111)
  (hK:∀v w',Bld w' B b (l++wrM r)->Chg (BCh w B b) w w'->K v w'):aC P0 63 [.pointer (some ⟨b,0,none⟩),.int .i32 (r:Int)] w K:=by
 have hb:=h.base;refine aBL ?_;unfold W63;refine HO h λv w1 h1 hO hz hc=>?_;have hc1:w1.cell? (⟨b,0,none⟩:Addr)|>.isSome:=by rw[cD,h1];rfl
 rw[dW,bR,dX];refine⟨v,by rw[bZ,cD,h1];rfl,?_⟩;rw[fY hO.sl,dW,bR,dX];refine⟨v,by rw[bZ,cD,h1];rfl,?_⟩;refine VX hO (by omega) hl hr λv' w2 hO2 _ hc2=>?_;rw[dW,bR];refine LS (n:=0) h1 hO hb hc2 hO2 λw4 hb4 hc4 _=>?_;obtain⟨p,v4,h4,_,hO4,_⟩:=id hb4;rw[dW,bR,dX];refine⟨v4,by rw[bZ,cD,h4];rfl,?_⟩;rw[fY hO4.sl,mB];exact hK _ w4 hb4 (BCh.trans hc hc4)
end
section
variable [HX]
def En(xs:List JV)(i:Nat):Nat:=match xs[i]? with|some x=>nL x|none=>0
def tC(xs:List JV):Nat->Nat
 |0=>0
 |n+1=>tC xs n+En xs n
theorem BQ{xs:List JV}{x:JV}(h:xs[i]?=some x):En xs i=nL x:=by unfold En;rw[h]
theorem BP(x:JV)(xs:List JV):∀n,tC (x::xs) (n+1)=nL x+tC xs n
 |0=>by simp[tC,En]
 |n+1=>by
  rw[tC,BP x xs n,tC]
  have:En (x::xs) (n+1)=En xs n:=by unfold En;rw[List.getElem?_cons_succ]
  omega
theorem MR:∀(xs:List JV) (n:Nat),n<=xs.length->tC xs n<=nU xs
 |xs,0,_=>gA _
 |[],n+1,h=>by simp at h
 |x::xs,n+1,h=>by
  have ih:=MR xs n (by simpa using h)
  rw[BP]
  simp only[nU]
  omega
end
end
section
open Go Go.Eng Go.RowKit
variable{w:World}{K:Q0}{cs:List Value}{G:Nat->Prop}{T:TypeId}{i:Nat}{n:Nat}{v:Value}{w':World}{P:Program}{c:UInt8}{S:Nat->Prop}
def pL(v:JV)(m:Nat)(left:Int):Bool:=qM v m&&sK v&&decide ((nL v:Int)<=left)
theorem Ln:jK []=true:=rfl
def flatK(k:Int)(t:Str):Bool:=if k=3 then Num.goodN t else if k=4 then decide (t.length<=16384)else decide (t=[])
def Eh(v:JV):Bool:=flatK v.k v.t
theorem Lw{v:JV}{m:Nat}{left:Int}(hm:m≠0)(hl:1<=left)(hb:v.b=true->v.k=2)(h0:0<=v.k)(h5:v.k<5):pL v m left=(Eh v&&(decide (v.xs.length=0)&&decide (v.ks.length=0))):=by
 cases v with
 |mk k b t xs ks=>
 simp only[JV.k,JV.b]at hb h0 h5;unfold pL;show(qM (.mk k b t xs ks) m&&(oA k b t xs.length ks&&pU xs)&&decide ((nL (.mk k b t xs ks):Int)<=left))=(flatK k t&&(decide (xs.length=0)&&decide (ks.length=0)));unfold flatK;by_cases hx:xs=[]
 ·subst hx;cases m with
  |zero=>exact absurd rfl hm
  |succ m=>
   by_cases hk:ks=[]
   ·subst hk;have hc:nL (.mk k b t [] [])=1:=rfl;rw[oC,hc,bI (show((1:Nat):Int)<=left from hl)];simp only[JV.xs,Ab,pU,aM];rw[lR];simp only[oA,Ln,kV,iO,aL,cM,dQ,bA,decide_eq_false_iff_not];constructor
    ·rintro⟨⟨⟨⟨⟨⟨⟨⟨_,_⟩,_⟩,ht⟩,_⟩,_⟩,h3⟩,h4⟩,_⟩;refine⟨?_,trivial,trivial⟩;split
     ·rename_i e;exact h3.resolve_left (λh=>h e)
     ·split
      ·rename_i e;exact bI (h4.resolve_left (λh=>h e))
      ·rcases ht with(ht|ht)|ht
       ·exact bI ht
       ·contradiction
       ·contradiction
    ·rintro⟨hf,_⟩;refine⟨⟨⟨⟨⟨⟨⟨⟨h0,by omega⟩,?_⟩,?_⟩,.inl trivial⟩,.inr trivial⟩,?_⟩,?_⟩,?_⟩
     ·cases b with
      |false=>exact .inl rfl
      |true=>exact .inr (hb rfl)
     ·by_cases e3:k=3
      ·exact .inl (.inr e3)
      ·by_cases e4:k=4
       ·exact .inr e4
       ·rw[aE e3,aE e4,decide_eq_true_iff]at hf;exact .inl (.inl hf)
     ·by_cases e3:k=3
      ·rw[aJ e3]at hf;exact .inr hf
      ·exact .inl e3
     ·by_cases e4:k=4
      ·rw[aE (by omega),aJ e4,decide_eq_true_iff]at hf;exact .inr hf
      ·exact .inl e4
     ·exact .inl (by omega)
   ·have h1:oA k b t ([]:List JV).length ks=false:=by
     cases hh:oA k b t ([]:List JV).length ks with
     |false=>rfl
     |true=>have:=(mP hh).2.2.2.2.2.1 hk;omega
    rw[h1,cP (show¬ks.length=0 fromλe=>hk (bG e))];simp
 ·have h1:oA k b t xs.length ks=false:=by
   cases hh:oA k b t xs.length ks with
   |false=>rfl
   |true=>have:=(mP hh).2.2.2.2.1 (λe=>hx (bG e));omega
  rw[h1,cP (show¬xs.length=0 fromλe=>hx (bG e))];simp
def uC(xs:List JV)(m:Nat)(left:Int):Bool:=Ab xs m&&pU xs&&decide ((nU xs:Int)<=left)
theorem Lx{v:JV}{m:Nat}{left:Int}(hb:v.b=true->v.k=2)(hk:v.k=5/\v.ks=[]\/v.k=6/\v.ks.length=v.xs.length/\jK v.ks=true):pL v (m+1) left=(decide (v.t=[])&&uC v.xs m (left-1)):=by
 cases v with
 |mk k b t xs ks=>
 simp only[JV.k,JV.b,JV.ks,JV.xs]at hb hk;unfold pL;have hc:nL (.mk k b t xs ks)=1+nU xs:=by simp only[nL]
 rw[hc];show(Ab xs m&&(oA k b t xs.length ks&&pU xs)&&decide (((1+nU xs:Nat):Int)<=left))=(decide (t=[])&&(Ab xs m&&pU xs&&decide ((nU xs:Int)<=left-1)));have hbf:b=false:=by
  cases b with
  |false=>rfl
  |true=>have:=hb rfl;omega
 subst hbf;have hh:oA k false t xs.length ks=decide (t=[]):=by
  rw[lR];simp only[oA,aL,cM,dQ,bA,decide_eq_false_iff_not,iL];constructor
  ·rintro⟨⟨⟨⟨⟨⟨⟨⟨⟨_,_⟩,_⟩,ht⟩,_⟩,_⟩,_⟩,_⟩,_⟩,_⟩;rcases ht with(ht|ht)|ht
   ·exact ht
   ·omega
   ·omega
  ·intro ht;refine⟨⟨⟨⟨⟨⟨⟨⟨⟨by omega,by omega⟩,.inl trivial⟩,.inl (.inl ht)⟩,.inr (by omega)⟩,?_⟩,.inl (by omega)⟩,.inl (by omega)⟩,?_⟩,?_⟩
   ·rcases hk with⟨_,h⟩|⟨h,_⟩
    ·exact .inr h
    ·exact .inl h
   ·rcases hk with⟨h,_⟩|⟨_,h,_⟩
    ·exact .inl (by omega)
    ·exact .inr h
   ·rcases hk with⟨_,h⟩|⟨_,_,h⟩
    ·rw[h];rfl
    ·exact h
 rw[hh];have e:decide (((1+nU xs:Nat):Int)<=left)=decide ((nU xs:Int)<=left-1):=by rw[decide_eq_decide];omega
 rw[e];generalize decide ((nU xs:Int)<=left-1)=d4;generalize decide (t=[])=d1;generalize Ab xs m=d2;generalize pU xs=d3;cases d1<;>cases d2<;>cases d3<;>cases d4<;>rfl
theorem Jt{v:JV}{m:Nat}{left:Int}(h:m=0\/left<1\/(v.b=true/\v.k≠2)\/v.k<0\/6<v.k\/(v.k=5/\v.ks≠[])\/(v.k=6/\(v.ks.length≠v.xs.length\/jK v.ks=false))):pL v m left=false:=by
 cases hg:pL v m left with
 |false=>rfl
 |true=>
  unfold pL at hg;simp only[aL,bA]at hg;obtain⟨⟨h1,h2⟩,h3⟩:=hg;rw[mX,aL]at h2;have hh:=mP h2.1;have hc:=MQ v;rcases h with rfl|h|⟨h,h'⟩|h|h|⟨h,h'⟩|⟨h,h'|h'⟩
  ·rw[sW]at h1;cases h1
  ·omega
  ·exact absurd (hh.2.2.1 h) h'
  ·have:=hh.1;omega
  ·have:=hh.2.1;omega
  ·have:=hh.2.2.2.2.2.1 h';omega
  ·exact absurd (hh.2.2.2.2.2.2.2.2.1 h) h'
  ·have:=hh.2.2.2.2.2.2.2.2.2;rw[h']at this;cases this
theorem _root_.Go.Eng.SlAt.keep1{p:Nat}{x:Value}{T':TypeId}{fr:Nat×Nat}(h:SlAt w T v n cs)(hp:w.heap[p]?=some (.cells [x].toArray T' fr))(hc:Chg (λk=>k=p) w w')
  (hne:cs≠[]->cs[0]?≠some x\/2<=cs.length):SlAt w' T v n cs:=by
 obtain⟨pp,cap,hv,h1,h2,h3⟩:=h;refine⟨pp,cap,hv,h1,h2,λhn=>?_⟩;obtain⟨b,off,c,fr',hpp,hb,hcs⟩:=h3 hn;refine⟨b,off,c,fr',hpp,hc.at hb ?_,hcs⟩;rintro rfl;rw[hp]at hb;simp only[bE,Obj.cells.injEq]at hb;obtain⟨rfl,_,_⟩:=hb;have hpos:0<cs.length:=dP.2 hn;have e0:=hcs 0 hpos;rw[eS]at e0;rcases hne hn with h|h
 ·have:off=0:=by
   apply fP;intro ho;rw[show([x].toArray)[off]?=none by simp;omega,List.getElem?_eq_getElem hpos]at e0;cases e0
  subst this;exact h (by rw[<-e0];rfl)
 ·have e1:=hcs 1 (by omega);rw[List.getElem?_eq_getElem (by omega),show([x].toArray)[off+1]?=none by simp]at e1;cases e1
mutual
theorem Ku{w w':World}{p:Nat}{n:Int}{T':TypeId}{fr:Nat×Nat}(hp:w.heap[p]?=some (.cells [i64 n].toArray T' fr))(hc:Chg (λk=>k=p) w w'):∀{v:JV} {cs:List Value},eR w v cs->eR w' v cs
 |.mk k b t xs ks,cs,h=>by
  simp only[eR]at h⊢
  obtain⟨sv,kv,T1,T2,L,rfl,h1,h2,h3,h4⟩:=h
  refine⟨sv,kv,T1,T2,L,rfl,h1.keep1 hp hc λhn=>.inr ?_,tL hp hc h2,h3.keep1 hp hc λhn=>.inl ?_,h4⟩
  ·have:=h2.len
   have hl:0<L.length:=dP.2 hn
   omega
  ·cases ks with
   |nil=>exact absurd rfl hn
   |cons a r=>intro e;simp at e
theorem tL{w w':World}{p:Nat}{n:Int}{T':TypeId}{fr:Nat×Nat}(hp:w.heap[p]?=some (.cells [i64 n].toArray T' fr))(hc:Chg (λk=>k=p) w w'):∀{xs:List JV} {L:List Value},eH w xs L->eH w' xs L
 |[],L,h=>by simp only[eH]at h⊢;exact h
 |x::xs,L,h=>by
  simp only[eH]at h⊢
  obtain⟨c,r,rfl,h1,h2⟩:=h
  exact⟨c,r,rfl,Ku hp hc h1,tL hp hc h2⟩
end
section
variable [HX]
theorem Lp{xs:List JV}{m:Nat}{left:Int}{x:JV}(hi:xs[i]?=some x)(h:pL x m (left-tC xs i)=false):uC xs m left=false:=by
 cases hg:uC xs m left with
 |false=>rfl
 |true=>
  unfold uC at hg;simp only[aL,bA]at hg;obtain⟨⟨h1,h2⟩,h3⟩:=hg;rw[oL,bW]at h1;rw[wH,bW]at h2;have hm:=bJ hi;have hcs:=MR xs (i+1) (List.getElem?_eq_some_iff.1 hi).1;rw[tC,BQ hi]at hcs;unfold pL at h;rw[h1 x hm,h2 x hm,bI (by omega)]at h;cases h
theorem Rx:∀(xs:List JV),nU xs=tC xs xs.length
 |[]=>rfl
 |x::xs=>by
  rw[aB,BP,<-Rx xs]
  simp only[nU]
theorem Jn{xs:List JV}{m:Nat}{left:Int}(h:∀i x,xs[i]?=some x->pL x m (left-tC xs i)=true)(hl:(nU xs:Int)<=left):uC xs m left=true:=by
 unfold uC;rw[bI hl,oL,wH,bW.2,bW.2]
 ·rfl
 ·intro x hx;obtain⟨i,hi,rfl⟩:=List.getElem_of_mem hx;have:=h i _ (List.getElem?_eq_getElem hi);unfold pL at this;simp only[aL]at this;exact this.1.2
 ·intro x hx;obtain⟨i,hi,rfl⟩:=List.getElem_of_mem hx;have:=h i _ (List.getElem?_eq_getElem hi);unfold pL at this;simp only[aL]at this;exact this.1.1
theorem Oy{g:FuncId}{args caps:List Value}{K:Q0}(h:aC P g (args++caps) w K):oN P (.func (.func g) #[] caps.toArray) args w K:=by
 unfold oN Pm;unfold aC at h;have:(do let d<-(Deferred.ofValue (.func (.func g) #[] caps.toArray) args.toArray);invoke d.target d.args:Sem Next)=callFunc g (args++caps).toArray:=by
  show callFunc g (#[]++args.toArray++caps.toArray)=_;simp
 rw[this];exact h
theorem DJ{m:Nat}(hn:n<=9223372036854775807)(hm:m<=9223372036854775807):decide (IntKind.i64.wrap ((n:Int)+(m:Int))=0)=(decide (n=0)&&decide (m=0)):=by
 have e1:(2:Int)^64=18446744073709551616:=by decide
 have e2:(2:Int)^(64-1)=9223372036854775808:=by decide
 have:IntKind.i64.wrap ((n:Int)+(m:Int))=0↔n=0/\m=0:=by
  simp only[IntKind.wrap,IntKind.bits,IntKind.signed,iO,e1,e2];split
  ·rename_i h;simp only[ge_iff_le,bA]at h;omega
  ·rename_i h;omega
 rw[lR,decide_eq_true_iff,aL,decide_eq_true_iff,decide_eq_true_iff];exact this
theorem MU{K:Q0}(h1:fG v=true)(h:∀a w',a=w.heap.size->w'.heap.size=w.heap.size+1->w'.heap[a]?=some (.cells [v].toArray T (0,0))->Ext w w'->K (.pointer (some ⟨a,0,none⟩)) w'):eL T v w K:=by
 cases v<;>first|(simp[fG]at h1;done)|exact h _ _ rfl (by simp) (gQ _ _ _ rfl) (Chg.alloc (Chg.refl _ _) _)
theorem aAX(v:JV):∀{m p:Nat} {left:Int} {w:World} {cs:List Value} {K:Q0},eR w v cs->w.heap[p]?=some (.cells [i64 left].toArray 3 (0,0))->m<=24->-1<=left->left<=2000->
  (∀r w',r=pL v m left->(r=true->w'.heap[p]?=some (.cells [i64 (left-nL v)].toArray 3 (0,0)))->Chg (λk=>k=p) w w'->K (.bool r) w')->aC P0 101 [.agg cs.toArray,i64 (m:Int),.pointer (some ⟨p,0,none⟩)] w K:=by
 induction v using JV.ind' with
 |h v ih=>
  intro m p left w cs K h hp hm hl1 hl2 hK;refine XN ?_;unfold aEz;refine kG h λa w1 sv kv hB hx1 ha=>?_;have hplt:=fJ hp;have hp1:=hx1.at hp id;refine MU rfl λd w2 hd hz2 hd2 hx2=>?_;refine MU rfl λq w3 hq hz3 hq3 hx3=>?_;have hp3:=hx3.at (hx2.at hp1 id) id;have hB3:=hB.ext (hx2.trans hx3);have hd3:=hx3.at hd2 id;have hx13:=(hx1.trans hx2).trans hx3;simp only[wsv,wsg,wsh,wsl,aN,aK,aD,eZ,Nat.reduceAdd,Nat.reduceLT,aF,aA,aI,aH,bL,reduceCtorEq,wsh,hq3,hp3];have ew:IntKind.i64.wrap (left-1)=left-1:=cN (by omega) (by omega);refine iU (off:=0) hp3 rfl (by simp) λw4 hz4 hp4 hc4=>?_;have s1:=hx1.size;have s2:=hx2.size;have hq4:=hc4.at hq3 (by omega);have hd4:=hc4.at hd3 (by omega);have hb4:=hc4.at hB3.hb (by omega);rw[show([i64 left].toArray.setIfInBounds 0 (i64 (IntKind.i64.wrap (left-1))))=[i64 (left-1)].toArray by rw[ew];rfl]at hp4;have hcw:Chg (λk=>k=p) w w4:=(Chg.of_ext hx13).trans hc4;obtain⟨Tk,hks3⟩:=hB3.keys;have hks4:SlAt w4 Tk kv v.ks.length (v.ks.map str):=hks3.keep1 hp3 hc4 λhn=>.inl (by
   cases hkk:v.ks with
   |nil=>rw[hkk]at hn;exact absurd rfl hn
   |cons a r=>intro e;simp at e)
  obtain⟨Ti,L,hit,hreps⟩:=hB3.items;have hit4:SlAt w4 Ti sv v.xs.length L:=hit.keep1 hp3 hc4 λhn=>.inr (by
   have:=hreps.len;have hl:0<L.length:=dP.2 hn;omega)
  have hreps4:eH w4 v.xs L:=tL hp3 hc4 hreps;obtain⟨f1,f2,f3,f4⟩:=hB3.fits;have lx:∀KK:Value->Prop,cY sv KK↔KK (i64 v.xs.length):=λKK=>fY hit KK;have lk:∀KK:Value->Prop,cY kv KK↔KK (i64 v.ks.length):=λKK=>hB3.lenk KK;simp only[wsv,wsg,wsh,wsl,aN,aK,aD,eZ,Nat.reduceAdd,Nat.reduceLT,aF,aA,aI,aH,bL,reduceCtorEq,wsh,hq4,hp4,hd4,hb4];intro g1 g2 g3 g4;rw[bT];refine⟨λhbad=>hK false w4 ?_ (λe=>by cases e) hcw,λhok=>?_⟩
  ·rw[Jt];simp only[cM,aL,bA]at hbad;rcases hbad with(h|h)|⟨h,h'⟩
   ·exact .inl (by omega)
   ·exact .inr (.inl (by omega))
   ·exact .inr (.inr (.inl ⟨h,h'⟩))
  have hm0:m≠0:=λe=>by rw[bI (show(m:Int)=0 by omega)]at hok;cases hok
  have hl0:1<=left:=by
   rcases Int.lt_or_le (left-1) 0 with h|h
   ·rw[bI h]at hok;simp at hok
   ·omega
  have hbk:v.b=true->v.k=2:=λe=>by
   rw[e]at hok;simp only[kY,iO,decide_eq_false_iff_not,sD]at hok;exact hok.2
  have flat:∀w',Ext w4 w'->0<=v.k->v.k<5->K (.bool (Eh v&&(decide (v.xs.length=0)&&decide (v.ks.length=0)))) w':=λw' e h0 h5=>by
   refine hK _ w' (Lw hm0 hl0 hbk h0 h5).symm (λhr=>?_) (hcw.then e λ_ _ e=>e.elim);simp only[aL,bA]at hr;have hx0:v.xs=[]:=bG hr.2.1;have hc1:nL v=1:=by
    rw[v.eta,hx0];rfl
   rw[hc1];exact e.at hp4 id
  have no:(v.k<0\/6<v.k\/(v.k=5/\v.ks≠[])\/(v.k=6/\(v.ks.length≠v.xs.length\/jK v.ks=false)))->K (.bool false) w4:=λh=>hK false w4 (Jt (.inr (.inr (.inr h)))).symm (λe=>by cases e) hcw;obtain⟨m',rfl⟩:∃m',m=m'+1:=⟨m-1,by omega⟩;refine bS.cut (λs' w'=>s'=[]/\w'=w4/\(v.k=5/\v.ks=[]\/v.k=6/\v.ks.length=v.xs.length/\jK v.ks=true)) ?_ ?_
  ·refine bS.cut (λs' w'=>s'=[.bool (decide (v.k=0\/v.k=1\/v.k=2))]/\w'=w4) ?_ ?_
   ·rw[aO];refine⟨λh=>?_,λh=>?_⟩
    ·rw[bI h,bI (.inl h)];exact⟨rfl,rfl⟩
    ·rw[aO];refine⟨λh1=>?_,λh1=>?_⟩
     ·rw[bI h1,bI (.inr (.inl h1))];exact⟨rfl,rfl⟩
     ·rw[show decide (v.k=2)=decide (v.k=0\/v.k=1\/v.k=2)by rw[decide_eq_decide];omega];exact⟨rfl,rfl⟩
   rintro s' g w5 ⟨rfl,rfl⟩;simp only[wsv,wsg,wsh,wsl,aN,aK,aD,eZ,Nat.reduceAdd,Nat.reduceLT,aF,aA,aI,aH,bL,reduceCtorEq,wsh,hb4,lx,lk,aO];refine⟨λh012=>?_,λh012=>?_⟩
   ·intro g5;have:=flat w5 (Chg.refl _ _) (by omega) (by omega);unfold Eh flatK at this;rw[aE (by omega),aE (by omega)]at this;rw[DJ f1 f2];exact this
   refine⟨λh3=>?_,λh3=>?_⟩
   ·refine mK f3 λw6 hx6=>?_;have hb6:=hx6.at hb4 id;have:=flat w6 hx6 (by omega) (by omega);unfold Eh flatK at this;rw[aJ h3]at this;simp only[wsv,wsg,wsh,wsl,aN,aK,aD,eZ,Nat.reduceAdd,Nat.reduceLT,aF,aA,aI,aH,bL,reduceCtorEq,wsh,hb6,lx,lk];intro g6;rw[DJ f1 f2];exact this
   refine⟨λh4=>?_,λh4=>?_⟩
   ·intro g6;have:=flat w5 (Chg.refl _ _) (by omega) (by omega);unfold Eh flatK at this;rw[aE h3,aJ h4]at this;rw[DJ f1 f2];rw[show decide ((v.t.length:Int)<=16384)=decide (v.t.length<=16384)by rw[decide_eq_decide];omega];exact this
   refine⟨λh5=>?_,λh5=>?_⟩
   ·refine⟨λhk=>no (.inr (.inr (.inl ⟨h5,λe=>by rw[e]at hk;simp at hk⟩))),λhk=>.inl ⟨h5,bG (by omega)⟩⟩
   refine⟨λh6=>?_,λh6=>no (by omega)⟩;refine⟨λhne=>no (.inr (.inr (.inr ⟨h6,.inl (by omega)⟩))),λheq=>?_⟩;refine mY v.ks.length (λi w'=>w'=w5/\(∀j a,j<i->v.ks[j]?=some a->a.length<=16384)/\(∀j a b,j+1<i->v.ks[j]?=some a->v.ks[j+1]?=some b->Op.bytesLess a b=true)) ⟨rfl,λj a h=>by omega,λj a b h=>by omega⟩ ?_ ?_
   ·rintro i w6 g6 L6 hi ⟨rfl,hl,hs⟩ hL;obtain⟨u,hu⟩:∃u,v.ks[i]?=some u:=⟨_,List.getElem?_eq_getElem hi⟩;have hlt:((i:Int)<(v.ks.length:Int)):=by omega
    simp only[wsv,wsg,wsh,wsl,aN,aK,aD,eZ,Nat.reduceAdd,Nat.reduceLT,aF,aA,aI,aH,bL,reduceCtorEq,hlt];refine mU hks4 hu ?_;have hnext:u.length<=16384->(∀x,0<i->v.ks[i-1]?=some x->Op.bytesLess x u=true)->L6 [i64 ((i+1:Nat):Int)] w6:=λh1 h2=>by
     refine hL _ ⟨rfl,λj a hj ha=>?_,λj a b hj ha hb=>?_⟩
     ·rcases dO j i with h|h
      ·exact hl j a h ha
      ·obtain rfl:j=i:=by omega
       rw[hu]at ha;cases ha;exact h1
     ·rcases dO (j+1) i with h|h
      ·exact hs j a b h ha hb
      ·obtain rfl:i=j+1:=by omega
       rw[hu]at hb;cases hb;exact h2 a (by omega) (by simpa using ha)
    by_cases hlong:16384<u.length
    ·have e:decide ((16384:Int)<(u.length:Int))=true:=bI (by omega);simp only[wsv,wsg,wsh,wsl,aN,aK,aD,eZ,Nat.reduceAdd,Nat.reduceLT,aF,aA,aI,aH,bL,reduceCtorEq,e];intros;exact no (.inr (.inr (.inr ⟨h6,.inr (Jk hu hlong)⟩)))
    ·have e:decide ((16384:Int)<(u.length:Int))=false:=cP (by omega);by_cases h0:i=0
     ·subst h0;have e0:decide ((0:Int)<((0:Nat):Int))=false:=by decide
      simp only[wsv,wsg,wsh,wsl,aN,aK,aD,eZ,Nat.reduceAdd,Nat.reduceLT,aF,aA,aI,aH,bL,reduceCtorEq,e,e0];rw[up1 (by omega)];intros;exact hnext (by omega) λx h=>by omega
     ·obtain⟨j,rfl⟩:∃j,i=j+1:=⟨i-1,by omega⟩;obtain⟨x,hxj⟩:∃x,v.ks[j]?=some x:=⟨_,List.getElem?_eq_getElem (by omega)⟩;have e0:decide ((0:Int)<((j+1:Nat):Int))=true:=bI (by omega);have hw:IntKind.i64.wrap (((j+1:Nat):Int)-1)=((j:Nat):Int):=by rw[cN (by omega) (by omega)];omega
      simp only[wsv,wsg,wsh,wsl,aN,aK,aD,eZ,Nat.reduceAdd,Nat.reduceLT,aF,aA,aI,aH,bL,reduceCtorEq,e,e0,hw];intro g7;refine GdW.look (!Op.bytesLess x u) (λ_ J hJ=>?_) λg8=>?_
      ·rw[hb4];refine⟨kv,rfl,?_⟩;refine mU hks4 hxj ?_;rw[MW];exact hJ
      intro g9;simp only[aG,aN];rw[bT];refine⟨λhge=>no (.inr (.inr (.inr ⟨h6,.inr (Lm hxj hu (by simpa using hge))⟩))),λhlt2=>?_⟩;rw[up1 (by omega)];exact hnext (by omega) λy _ hy=>by
       have:v.ks[j]?=some y:=by simpa using hy
       rw[hxj]at this;cases this;simpa using hlt2
   ·rintro w6 g6 L6 ⟨rfl,hl,hs⟩;have hkeys:jK v.ks=true:=NS (λi a h=>hl i a (List.getElem?_eq_some_iff.1 h).1 h) (λi a b h1 h2=>hs i a b (List.getElem?_eq_some_iff.1 h2).1 h1 h2);simp only[wsv,wsg,wsh,wsl,aN,aK,aD,eZ,Nat.reduceAdd,Nat.reduceLT,aF,aA,aI,aH,bL,reduceCtorEq,fM];exact .inr ⟨h6,by omega,hkeys⟩
  ·rintro s' g w5 ⟨rfl,rfl,hk⟩;simp only[wsv,wsg,wsh,wsl,aN,aK,aD,eZ,Nat.reduceAdd,Nat.reduceLT,aF,aA,aI,aH,bL,reduceCtorEq,wsh,hb4];refine GdW.act (uC v.xs m' (left-1)) (λw'=>Chg (λk=>k=p) w5 w'/\(decide (v.t=[])=true->uC v.xs m' (left-1)=true->w'.heap[p]?=some (.cells [i64 (left-1-nU v.xs)].toArray 3 (0,0)))) (λe=>⟨Chg.refl _ _,λe'=>by rw[e]at e';cases e'⟩) ?_ ?_
   ·intro ht J hJ;refine HY ?_;unfold Xw;refine HW ?_;unfold WY;rw[lx];refine mY v.xs.length (λi w'=>Chg (λk=>k=p) w5 w'/\w'.heap[p]?=some (.cells [i64 (left-1-tC v.xs i)].toArray 3 (0,0))/\(∀j x,j<i->v.xs[j]?=some x->pL x m' (left-1-tC v.xs j)=true)/\SlAt w' Ti sv v.xs.length L/\eH w' v.xs L/\(tC v.xs i:Int)<=left-1) ⟨Chg.refl _ _,by simpa[tC]using hp4,λj x h=>by omega,hit4,hreps4,by simp[tC];omega⟩ ?_ ?_
    ·rintro i w6 g6 L6 hi ⟨hc6,hp6,hall,hit6,hreps6,hcs6⟩ hL;obtain⟨x,hxi⟩:∃x,v.xs[i]?=some x:=⟨_,List.getElem?_eq_getElem hi⟩;have hlt:((i:Int)<(v.xs.length:Int)):=by omega
     simp only[wsv,wsg,wsh,wsl,aN,aK,aD,eZ,Nat.reduceAdd,Nat.reduceLT,aF,aA,aI,aH,bL,reduceCtorEq,hlt];refine Hl hit6 hreps6 hxi λcs6 hr6=>?_;refine Oy (caps:=[.pointer (some ⟨d,0,none⟩),.pointer (some ⟨q,0,none⟩)]) ?_;refine Xk ?_;unfold aD8;refine kG hr6 λb7 w7 sv7 kv7 hB7 hx7 hb7=>?_;refine hB7.ld λcs7 hr7=>?_;have hd6:=hc6.at hd4 (by omega);have hq6:=hc6.at hq4 (by omega);have hd7:=hx7.at hd6 id;have hq7:=hx7.at hq6 id;have hp7:=hx7.at hp6 id;have hw:IntKind.i64.wrap (((m'+1:Nat):Int)-1)=((m':Nat):Int):=by rw[cN (by omega) (by omega)];omega
     simp only[wsv,wsg,wsh,wsl,aN,aK,aD,eZ,Nat.reduceAdd,Nat.reduceLT,aF,aA,aI,aH,bL,reduceCtorEq,wsh,hd7,hq7,hw];refine ih x (bJ hxi) hr7 hp7 (by omega) (by omega) (by omega) λr w8 hr8 hp8 hc8=>?_;simp only[wsv,wsg,wsh,wsl,aN,aK,aD,eZ,Nat.reduceAdd,Nat.reduceLT,aF,aA,aI,aH,bL,reduceCtorEq,bT];have hc68:Chg (λk=>k=p) w6 w8:=(Chg.of_ext hx7).trans hc8;have hc58:=hc6.trans hc68;refine⟨λhbad=>?_,λhgood=>?_⟩
     ·have hrf:r=false:=by simpa using hbad
      rw[bI (show(0:Int)<=(i:Int)by omega)];have:=Lp hxi (show pL x m' (left-1-tC v.xs i)=false by rw[<-hr8];exact hrf);rw[this]at hJ;exact hJ w8 ⟨hc58,λ_ e=>by cases e⟩
     ·have hrt:r=true:=by simpa using hgood
      have hg:=hr8;rw[hrt]at hg;have hcx:(nL x:Int)<=left-1-tC v.xs i:=by
       unfold pL at hg;have:=hg.symm;simp only[aL,bA]at this;exact this.2
      rw[up1 (by omega)];refine hL w8 ⟨hc58,?_,?_,?_,?_,?_⟩
      ·rw[tC,BQ hxi];have e:left-1-((tC v.xs i:Nat):Int)-((nL x:Nat):Int)=left-1-((tC v.xs i+nL x:Nat):Int):=by omega
       rw[hp8 hrt,e]
      ·intro j y hj hy;rcases dO j i with h|h
       ·exact hall j y h hy
       ·obtain rfl:j=i:=by omega
        rw[hxi]at hy;cases hy;exact hg.symm
      ·exact(hit6.ext hx7).keep1 hp7 hc8 λhn=>.inr (by
        have:=hreps.len;have hl:0<L.length:=dP.2 hn;omega)
      ·exact tL hp7 hc8 (hreps6.ext hx7)
      ·rw[tC,BQ hxi];omega
    ·rintro w6 g6 L6 ⟨hc6,hp6,hall,hit6,hreps6,hcs6⟩;simp only[wsv,wsg,wsh,wsl,aN,aK,aD,eZ,Nat.reduceAdd,Nat.reduceLT,aF,aA,aI,aH,bL,reduceCtorEq,fM];rw[<-Rx]at hp6 hcs6;have:=Jn (λi x h=>hall i x (List.getElem?_eq_some_iff.1 h).1 h) hcs6;have hj:=hJ w6 ⟨hc6,λ_ _=>hp6⟩;rw[this]at hj;exact hj
   ·rintro g6 w6 ⟨hc6,hp6⟩;simp only[wsv,wsg,wsh,wsl,aN,aK,aD,eZ,Nat.reduceAdd,Nat.reduceLT,aF,aA,aI,aH,bL,reduceCtorEq];refine hK _ w6 (Lx hbk hk).symm (λhr=>?_) (hcw.trans hc6);simp only[aL,bA]at hr;rw[hp6 (bI hr.1) hr.2];have:nL v=1+nU v.xs:=by cases v;simp only[nL,JV.xs]
    have e:left-1-((nU v.xs:Nat):Int)=left-((1+nU v.xs:Nat):Int):=by omega
    rw[this,e]
end
end
section
open Go Go.Eng Go.RowKit
variable{w:World}{K:Q0}{cs:List Value}{G:Nat->Prop}{T:TypeId}{i:Nat}{n:Nat}{v:Value}{w':World}{P:Program}{c:UInt8}{S:Nat->Prop}
theorem KH(xs:List JV){n:Int}(h:2000<n):lC xs n=n:=by
 cases xs with
 |nil=>rfl
 |cons x xs=>simp only[lC];rw[aE (by omega)]
theorem Pg:∀(m:Nat),m<=24->∀(v:JV),qM v m=true->(qG v<=2000->qG v=nL v)/\((nL v:Int)<=2000->qG v=nL v):=by
 intro m;induction m with
 |zero=>intro _ v h;rw[sW]at h;cases h
 |succ m ih=>
  intro hm v h;rw[oC,oL,bW]at h;have lst:∀(xs:List JV),(∀x∈xs,qM x m=true)->∀n:Int,1<=n->(lC xs n<=2000->lC xs n=n+nU xs)/\(n+(nU xs:Int)<=2000->lC xs n=n+nU xs):=by
   intro xs;induction xs with
   |nil=>intro _ n _;simp[lC,nU]
   |cons x xs ihx=>
    intro hx n hn;have hxd:=hx x bD;obtain⟨b1,b2⟩:=Af m (by omega) x hxd;obtain⟨c1,c2⟩:=ih (by omega) x hxd;have hc:=MQ x;simp only[lC,nU];by_cases h2:n<=2000
    ·rw[aJ h2,cN (by omega) (by omega)];obtain⟨d1,d2⟩:=ihx (λy hy=>hx y (aU _ hy)) (n+qG x) (by omega);constructor
     ·intro hs;have hy:n+qG x<=2000:=by
       apply fP;intro hno;rw[KH xs (by omega)]at hs;omega
      have e:=c1 (by omega);rw[d1 hs,e];omega
     ·intro hs;have e:=c2 (by omega);rw[d2 (by omega),e];omega
    ·rw[aE h2];constructor
     ·intro hs;omega
     ·intro hs;omega
  obtain⟨d1,d2⟩:=lst v.xs h 1 (by omega);have hc:nL v=1+nU v.xs:=by cases v;simp only[nL,JV.xs]
  rw[vD,hc];constructor
  ·intro hs;rw[d1 hs];omega
  ·intro hs;rw[d2 (by omega)];omega
theorem Vs(v:JV):pL v 24 2000=fA v:=by
 unfold pL fA;cases hd:qM v 24 with
 |false=>simp
 |true=>
  obtain⟨c1,c2⟩:=Pg 24 (aS _) v hd;have:decide ((nL v:Int)<=2000)=decide (qG v<=2000):=by
   rw[decide_eq_decide];constructor
   ·intro h;rw[c2 h];exact h
   ·intro h;rw[<-c1 h];exact h
  rw[this];cases decide (qG v<=2000)<;>cases sK v<;>rfl
theorem Bld.isb{B b:Nat}{l:Str}(h:Bld w B b l):Lib.IsBuilderF BdT U8 B b (Lib.byteCells l) w:=by
 obtain⟨p,v,h1,h2,h3,h4⟩:=h;have hO:w.ownsRow B U8 1 v (u8s l).length (u8s l):=by rw[mH];exact h3
 have:Lib.BuilderAt BdT U8 B b p (u8s l) w:=⟨h4,v,h1,hO,λe=>Ke h1 (h3.block b e)⟩;rcases h2 with rfl|rfl
 ·exact .inl (Lib.BuilderAtF.of this)
 ·exact .inr (Lib.BuilderAtF.of this)
section
variable [HX]
theorem GG{v:JV}{K:Q0}(h:eR w v cs)(hK:∀w',Ext w w'->K (.bool (fA v)) w'):aC P0 61 [.agg cs.toArray] w K:=by
 refine aBN ?_;unfold W61;refine kG h λa w1 sv kv hB hx1 ha=>?_;refine bF λp w2 hp hz2 hb2 hx2=>?_;refine iU (off:=0) hb2 rfl (by simp) λw3 hz3 hb3 hc3=>?_;have hx3:Ext w1 w3:=hx2.new hc3 (by omega);have hp3:w3.heap[p]?=some (.cells [i64 2000].toArray 3 (0,0)):=by rw[hb3];rfl
 refine(hB.ext hx3).ld λcs2 h2=>?_;refine aAX v h2 hp3 (m:=24) (by omega) (by omega) (by omega) λr w4 hr _ hc4=>?_;rw[hr,Vs];have s1:=hx1.size;exact hK w4 ((hx1.trans hx3).then hc4 λk hk e=>by omega)
end
end
section
open Go Go.Eng Go.Num Go.RowKit
variable{w:World}{K:Q0}{cs:List Value}{G:Nat->Prop}{T:TypeId}{i:Nat}{n:Nat}{v:Value}{w':World}{P:Program}{c:UInt8}{S:Nat->Prop}
section
variable [HX]
theorem Yk{v:JV}{k:Str}{K:Q0}(h:eR w v cs)(k6:v.k=6)(hl:v.ks.length=v.xs.length)(hfew:vV v=true)(hr:Kn v.ks)
  (hK:∀cs' w',Ext w w'->cL (yM w.heap.size) w' ((xX v k).getD JV.null) cs'->K (.tuple #[.agg cs'.toArray,.bool (xX v k).isSome]) w'):aC P0 120 [.agg cs.toArray,str k] w K:=by
 have hfew2:=hfew;rw[zG,xY]at hfew2;simp only[aL,bA,bW]at hfew2;obtain⟨⟨f1,f2⟩,f3⟩:=hfew2;refine XA ?_;unfold aEn;refine kG h λa w1 sv kv hB hx _=>?_;refine bF λb w2 hb hz2 hbb hx2=>?_;have hB0:=hB;have hB:=hB.ext hx2;have hgb:w1.heap.size<=b:=by omega
 have s1:=hx.size;simp only[wsv,wsg,wsh,wsl,aN,aK,aD,eZ,Nat.reduceAdd,Nat.reduceLT,aF,aA,aI,aH,bL,reduceCtorEq,wsh,hB.hb];obtain⟨T2,hk2⟩:=hB.keys;refine Ip hk2 f2 hr λi hi0 _ _ hile=>?_;have e6:decide (v.k=6)=true:=bI k6;cases hx0:vR v.ks k with
 |none=>
  have hg:xX v k=none:=by unfold xX;rw[aJ k6,hx0]
  rw[hg]at hK;simp only[Option.isSome_none];simp only[wsv,wsg,wsh,wsl,aN,aK,aD,eZ,Nat.reduceAdd,Nat.reduceLT,aF,aA,aI,aH,bL,reduceCtorEq,wsh,hB.hb,e6];intros
  (try simp only[wsv,wsg,wsh,wsl,aN,aK,aD,eZ,Nat.reduceAdd,Nat.reduceLT,aF,aA,aI,aH,bL,reduceCtorEq,wsh,hB.hb,e6])
  exact IC (w0:=w) (K:=λr w=>K (.tuple #[r,.bool false]) w) hbb rfl (by omega) (hx.trans hx2) (iY (k:=0) (b:=false) (t:=[]) (by simp)) λw4 hx4 h4=>hK _ w4 hx4 h4
 |some j=>
  obtain rfl:j=i:=by
   rcases hi0 with h|h
   ·rw[h]at hx0;cases hx0
   ·rw[h]at hx0;exact(fE hx0).symm
  obtain⟨x,hxi⟩:∃x,v.xs[j]?=some x:=⟨_,List.getElem?_eq_getElem (by
   have:=(List.getElem?_eq_some_iff.1 (vQ hx0)).1;omega)⟩
  have hg:xX v k=some x:=by unfold xX;rw[aJ k6,hx0];exact hxi
  rw[hg]at hK;simp only[Option.isSome_some];simp only[wsv,wsg,wsh,wsl,aN,aK,aD,eZ,Nat.reduceAdd,Nat.reduceLT,aF,aA,aI,aH,bL,reduceCtorEq,wsh,hB.hb,e6];intros
  (try simp only[wsv,wsg,wsh,wsl,aN,aK,aD,eZ,Nat.reduceAdd,Nat.reduceLT,aF,aA,aI,aH,bL,reduceCtorEq,wsh,hB.hb,e6])
  refine hB0.item_old hx2 hxi λcs2 h2=>?_;refine HN x (f3 x (bJ hxi)) (h2.ext hx2) λcs3 w3 hx3 h3=>?_;exact IC (w0:=w) (K:=λr w=>K (.tuple #[r,.bool true]) w) (hx3.at hbb id) rfl (by omega) (hx.trans (hx2.trans hx3)) (h3.at (by have:=fJ hbb;omega) (by omega)) λw4 hx4 h4=>hK _ w4 hx4 h4
end
section
variable [HX]
theorem eY.at_old{w0:World}{sv:Value}{xs:List JV}{k:IntKind}{x:JV}{K:Value->Prop}(h:eY w0 sv xs)(hx:Ext w0 w)(hi:xs[i]?=some x)(hK:∀cs,eR w0 x cs->K (.agg cs.toArray)):dN none 5 sv (.int k i) λp=>ldW true 5 p w K:=by
 obtain⟨T,L,h1,h2⟩:=h.it;obtain⟨cs,hc,hg⟩:=h2.get hi;refine qW (size:=5) (h1.ext hx) h2.len (by omega) (List.getElem?_eq_some_iff.1 hi).1 λb o c fr hb hcc=>?_;exact vO hb hc.len (λj hj=>(hcc j hj).trans (hg j hj)) (hK cs hc)
def Ha(a:List JV):List (Str×JV):=(a.map λx=>x.ks.zip x.xs).flatten
theorem Vz{l:List (Str×JV)}(hl:l.length<=100000)(hf:∀p∈l,vV p.2=true):vV (mkO l)=true:=by
 rw[zG,xY];simp only[mkO,JV.xs,JV.ks,dL,aL,bA,bW,kT];exact⟨⟨by omega,by omega⟩,λx ⟨p,hp,e⟩=>by rw[<-e];exact hf p hp⟩
end
section
variable [HX]
theorem aCI(l:Str):∀n,Lib.repeatL l n=(List.replicate n l).flatten
 |0=>rfl
 |n+1=>by rw[Lib.repeatL,aCI l n,CS,List.flatten_cons]
theorem IE{s:Str}{K:Q0}(hs:s.length<=1000)(hn:n<=1000000)(hK:∀w',Ext w w'->K (str (List.replicate n s).flatten) w'):aC P0 183 [str s,i64 (n:Nat)] w K:=by
 refine gX (args:=#[str s,i64 (n:Nat)]) Tryz.call183 ((Tryz.strings_Repeat (ofL s) n w (by omega) (by rw[fL];exact cI (tE hs hn) (by decide))).mono ?_);rintro e w' ⟨rfl,hb⟩;rw[eO,aCI];exact⟨_,rfl,hK _ (Chg.of_below hb)⟩
theorem Rv{s t:Str}{K:Q0}(hs:s.length<=1000000)(hK:K (.tuple #[str (Lib.trimSuffix s t),.bool (Lib.hasSuffix s t)]) w):aC P0 182 [str s,str t] w K:=by
 refine gX (args:=#[str s,str t]) Tryz.call182 ((Tryz.strings_CutSuffix (ofL s) (ofL t) w (by rw[fL];omega)).mono ?_);rintro e w' ⟨rfl,rfl⟩;rw[eO,eO];exact⟨_,rfl,hK⟩
theorem Vx{K:Q0}(hK:K (i64 (nG c)) w):aC P0 184 [.int .u8 (c.toNat:Nat)] w K:=by
 refine WV ?_;unfold aDX;have hd:∀n:Nat,n<256->decide (((c.toNat:Nat):Int)=(n:Int))=decide (c=UInt8.ofNat n):=λn hn=>by
  by_cases e:c=UInt8.ofNat n
  ·have:c.toNat=n:=by rw[e,iK];omega
   rw[bI e,bI (by omega)]
  ·rw[cP e,cP];intro h;apply e;apply jZ.1;rw[iK];omega
 have d1:decide (((c.toNat:Nat):Int)=110)=decide (c=110):=hd 110 (by omega);have d2:decide (((c.toNat:Nat):Int)=115)=decide (c=115):=hd 115 (by omega);have d3:decide (((c.toNat:Nat):Int)=108)=decide (c=108):=hd 108 (by omega);have d4:decide (((c.toNat:Nat):Int)=111)=decide (c=111):=hd 111 (by omega);unfold nG at hK;rw[bM];rw[d1,aO];refine⟨λe=>?_,λe=>?_⟩
 ·rw[aJ e]at hK;exact hK
 rw[aE e]at hK;rw[bM,d2,aO];refine⟨λe=>?_,λe=>?_⟩
 ·rw[aJ e]at hK;exact hK
 rw[aE e]at hK;rw[bM,d3,aO];refine⟨λe=>?_,λe=>?_⟩
 ·rw[aJ e]at hK;exact hK
 rw[aE e]at hK;rw[bM,d4,aO];refine⟨λe=>?_,λe=>?_⟩
 ·rw[aJ e]at hK;exact hK
 rw[aE e]at hK;exact hK
abbrev FT:TypeId:=162
theorem vZ{α:Type}{p:α->Bool}{l:List α}{x:α}(hi:l[i]?=some x):(l.take (i+1)).all p=((l.take i).all p&&p x):=by
 rw[dH,hi,CE];simp
theorem aA3{f:FnM}{fv:Value}{a:List JV}{sv:Value}{K:Q0}(h:eY w sv a)(hf1:fG fv=true)(hm:Lib.hasSuffix f.takes [46]=FH f.takes)(ht:Lib.trimSuffix f.takes [46]=if FH f.takes then f.takes.dropLast else f.takes)(hfl:f.takes.length<=100)(hle:f.least<=100)
  (hl:a.length<=1000)(hK:∀w',Ext w w'->K (.bool (AV f a)) w'):aC P0 128 [.agg [str f.takes,i64 (f.least:Nat),fv].toArray,sv] w K:=by
 refine Xs ?_;unfold aEg;refine fS (z:=[str f.takes,i64 (f.least:Nat),fv]) λp w1 hp hz1 hbp hx1=>?_;rw[bR,bZ,dX];refine⟨str f.takes,by rw[cD,hbp];rfl,?_⟩;refine Rv (by omega) ?_;simp only[bK];refine⟨_,rfl,_,rfl,?_⟩;have hdl:f.takes.dropLast.length<=100:=by rw[List.length_dropLast];omega
 refine bS.cut (λst w'=>st=[str (wM f.takes a.length)]/\Ext w1 w') ?_ ?_
 ·rw[hm,ht,bT];refine⟨λhmany=>?_,λhmany=>?_⟩
  ·rw[hmany,aJ rfl,h.len];refine IE (by omega) (by omega) λw4 hx4=>?_;refine⟨?_,hx4⟩;unfold wM;rw[aJ hmany]
  ·refine⟨?_,Chg.refl _ _⟩;unfold wM;rw[hmany];simp
 rintro st g w5 ⟨rfl,hx5⟩;generalize hk:wM f.takes a.length=ks at*
 have hx05:=hx1.trans hx5;simp only[aG];rw[h.len,fX,fT];simp only[lP];have hkl:ks.length<=1000000:=by
  rw[<-hk];unfold wM;split
  ·rw[List.length_flatten];simp only[List.map_replicate,List.sum_replicate_nat];exact cI (tE hl hdl) (by decide)
  ·omega
 have e1:decide ((a.length:Int)≠(ks.length:Int))=!decide (a.length=ks.length):=by
  by_cases e:a.length=ks.length
  ·rw[e];simp
  ·rw[bI (by omega),cP e];rfl
 rw[e1];refine GdW.look (decide ((a.length:Int)<(f.least:Int))) (λ_ J hJ=>?_) λg=>?_
 ·rw[h.len,bR,bZ,dX];refine⟨i64 (f.least:Nat),by rw[cD,hx5.at hbp id];rfl,?_⟩;rw[eC];exact hJ
 simp only[aG,fN];have hfit:AV f a=(decide (a.length=ks.length)&&decide (f.least<=a.length)&&(a.zip ks).all λp=>decide (nG p.2<0)||decide (p.1.k=nG p.2)):=by unfold AV;rw[hk]
 rw[hfit]at hK;rw[bT];refine⟨λhbad=>?_,λhok=>?_⟩
 ·have:(decide (a.length=ks.length)&&decide (f.least<=a.length))=false:=by
   cases h1:decide (a.length=ks.length)with
   |false=>rfl
   |true=>
    rw[h1]at hbad;simp only[kU,mF,bA]at hbad;rw[iO,cP (by omega)]
  rw[this]at hK;exact hK w5 hx05
 ·simp only[kY,Bool.not_eq_false',bA,decide_eq_false_iff_not]at hok;obtain⟨hlen,hle2⟩:=hok;have:(decide (a.length=ks.length)&&decide (f.least<=a.length))=true:=by rw[bI hlen,bI (by omega)];rfl
  rw[this,iO]at hK;rw[h.len];refine mY a.length (λi w'=>Ext w w'/\((a.zip ks).take i).all (λp=>decide (nG p.2<0)||decide (p.1.k=nG p.2))=true) ⟨hx05,by simp⟩ ?_ ?_
  ·rintro i w9 g L hi ⟨hx9,hall⟩ hL;obtain⟨x,hxi⟩:∃x,a[i]?=some x:=⟨_,List.getElem?_eq_getElem hi⟩;obtain⟨c,hci⟩:∃c,ks[i]?=some c:=⟨_,List.getElem?_eq_getElem (by omega)⟩;have hzi:(a.zip ks)[i]?=some (x,c):=by rw[List.getElem?_zip_eq_some];exact⟨hxi,hci⟩
   have hltI:(i:Int)<(a.length:Int):=by omega
   simp only[aG];rw[eC,bI hltI,dY];refine h.at_old hx9 hxi λds hds=>?_;refine yE (hds.ext hx9) λq w11 sq kq hQ hx11=>?_;rw[Hk];refine⟨by omega,c,by rw[aW];exact hci,?_⟩;refine Vx ?_;rw[lF];simp only[iD];refine GdW.look (!decide (x.k=nG c)) (λ_ J hJ=>?_) λg=>?_
   ·simp only[wsv,wsg,wsh,wsl,aN,aK,aD,eZ,Nat.reduceAdd,Nat.reduceLT,aF,aA,aI,aH,bL,reduceCtorEq,wsh,hQ.hb];have:decide (x.k≠nG c)=!decide (x.k=nG c):=by simp
    rw[this]at*
    exact hJ
   simp only[aG,fC];rw[bT];refine⟨λhbad=>?_,λhgood=>?_⟩
   ·simp only[aL,bA,dQ,decide_eq_false_iff_not]at hbad;have:(a.zip ks).all (λp=>decide (nG p.2<0)||decide (p.1.k=nG p.2))=false:=by
     rw[List.all_eq_false];refine⟨(x,c),bJ hzi,?_⟩;simp only[cM,bA,not_or];exact⟨by omega,hbad.2⟩
    rw[this]at hK;exact hK w11 (hx9.trans hx11)
   ·rw[cC,up1 (by omega)];refine hL w11 ⟨hx9.trans hx11,?_⟩;rw[vZ hzi,hall,iO];simp only[cM,bA];by_cases hneg:nG c<0
    ·exact .inl hneg
    ·right;rw[bI (show(0:Int)<=nG c by omega),iO]at hgood;simpa using hgood
  ·rintro w9 g L ⟨hx9,hall⟩;simp only[aG];rw[eC,cP (fM _),cX];have hzl:(a.zip ks).length=a.length:=by rw[qZ];omega
   rw[<-hzl,bO]at hall;rw[hall]at hK;exact hK w9 hx9
end
def fnX:List (Str×FnM×FuncId):=[([97,98,115],Rh,159),([99,111,110,99,97,116],Ge,160),([99,111,110,116,97,105,110,115],Cm,161),([106,111,105,110],MF,162),([107,101,121,115],ME,163),([108,101,110,103,116,104],Gc,165),([108,111,111,107,117,112],Gb,166),([108,111,119,101,114],JB,167),([109,97,120],Rf,169),([109,101,114,103,101],JA,171),([109,105,110],Re,172),([114,97,110,103,101],Jz,173),([114,101,118,101,114,115,101],Eg,174),([115,112,108,105,116],Jy,175),([115,117,98,115,116,114],Ga,176),([116,111,105,110,116],Jw,177),([116,111,115,116,114,105,110,103],Cl,178),([117,112,112,101,114],AU,179),([118,97,108,117,101,115],FZ,180)]
abbrev fnV(f:FnM)(g:FuncId):Value:=.agg [str f.takes,i64 (f.least:Nat),.func (.func g) #[] #[]].toArray
def fnP:List (Str×Value):=fnX.map λe=>(e.1,fnV e.2.1 e.2.2)
theorem aA0:fnT=fnX.map λe=>(e.1,e.2.1):=rfl
def uD:List (Str×FnM×FuncId)->Str->Option (FnM×FuncId)
 |[],_=>none
 |(a,v)::m,k=>if k=a then some v else uD m k
theorem MH(k:Str):∀l:List (Str×FnM×FuncId),sP (l.map λe=>(e.1,fnV e.2.1 e.2.2)) k=(uD l k).map λv=>fnV v.1 v.2
 |[]=>rfl
 |(a,v)::m=>by
  simp only[dG,sP,uD]
  split
  ·rfl
  ·exact MH k m
theorem MG(k:Str):∀l:List (Str×FnM×FuncId),FJ (l.map λe=>(e.1,e.2.1)) k=(uD l k).map λv=>v.1
 |[]=>rfl
 |(a,v)::m=>by
  simp only[dG,FJ,uD]
  split
  ·rfl
  ·exact MG k m
theorem Gh{k:Str}{v:FnM×FuncId}:∀{l:List (Str×FnM×FuncId)},uD l k=some v->(k,v)∈l
 |[],h=>by cases h
 |(a,u)::m,h=>by
  simp only[uD]at h
  split at h
  ·rename_i e;subst e;cases h;exact bD
  ·exact aU _ (Gh h)
section
variable [HX]
theorem aDi{K:Q0}(hK:∀b w',Ext w w'->Ko w' b fnP->K (.map (some b)) w'):aC P0 126 [] w K:=by
 refine Xu ?_;unfold aEi;refine Je (KT:=ST) (ET:=FT) (by kernel_rfl) (.inl rfl) λb w1 hb hz1 hm hx=>?_;have key:∀{m:List (Str×Value)} {w2:World} {k t:Str} {n:Int} {fv:Value} {K':World->Prop},Ko w2 b m->Ext w w2->sP m k=none->
   (∀w3,Ko w3 b (m++[(k,.agg [str t,i64 n,fv].toArray)])->Ext w w3->K' w3)->nN P0 (Instr.mapUpdate 164 (.map (some b)) (str k) (.agg [str t,i64 n,fv].toArray)) w2 K':=λ{m w2 k t n fv K'} hm hx hn hK'=>
  UX (KT:=ST) (ET:=FT) (by kernel_rfl) (by kernel_rfl) hm hn λw3 hz3 hm3 hc3=>hK' w3 hm3 (hx.new hc3 (by omega))
 have pf:∀(c:List Value) (i:Nat) (g:FuncId) (r:List (Nat×Nat×Value)) (K:List Value->Prop),dI c ((i,1,.func (.func g) #[] #[])::r) K↔i<c.length/\dI (c.set i (.func (.func g) #[] #[])) r K:=λc i g r K=>tS c i _ r K rfl;simp only[eJ,dD,pf,cU,aB,aM,aY,bB];refine⟨by omega,by omega,by omega,?_⟩;refine key hm hx (by rfl) λw2 hm hx=>?_;refine⟨by omega,by omega,by omega,?_⟩;refine key hm hx (by rfl) λw3 hm hx=>?_;refine⟨by omega,by omega,by omega,?_⟩;refine key hm hx (by rfl) λw4 hm hx=>?_;refine⟨by omega,by omega,by omega,?_⟩;refine key hm hx (by rfl) λw5 hm hx=>?_;refine⟨by omega,by omega,by omega,?_⟩;refine key hm hx (by rfl) λw6 hm hx=>?_;refine⟨by omega,by omega,by omega,?_⟩;refine key hm hx (by rfl) λw7 hm hx=>?_;refine⟨by omega,by omega,by omega,?_⟩;refine key hm hx (by rfl) λw8 hm hx=>?_;refine⟨by omega,by omega,by omega,?_⟩;refine key hm hx (by rfl) λw9 hm hx=>?_;refine⟨by omega,by omega,by omega,?_⟩;refine key hm hx (by rfl) λw10 hm hx=>?_;refine⟨by omega,by omega,by omega,?_⟩;refine key hm hx (by rfl) λw11 hm hx=>?_;refine⟨by omega,by omega,by omega,?_⟩;refine key hm hx (by rfl) λw12 hm hx=>?_;refine⟨by omega,by omega,by omega,?_⟩;refine key hm hx (by rfl) λw13 hm hx=>?_;refine⟨by omega,by omega,by omega,?_⟩;refine key hm hx (by rfl) λw14 hm hx=>?_;refine⟨by omega,by omega,by omega,?_⟩;refine key hm hx (by rfl) λw15 hm hx=>?_;refine⟨by omega,by omega,by omega,?_⟩;refine key hm hx (by rfl) λw16 hm hx=>?_;refine⟨by omega,by omega,by omega,?_⟩;refine key hm hx (by rfl) λw17 hm hx=>?_;refine⟨by omega,by omega,by omega,?_⟩;refine key hm hx (by rfl) λw18 hm hx=>?_;refine⟨by omega,by omega,by omega,?_⟩;refine key hm hx (by rfl) λw19 hm hx=>?_;refine⟨by omega,by omega,by omega,?_⟩;refine key hm hx (by rfl) λw20 hm hx=>?_;exact hK b _ hx hm
end
theorem aEL{f:FnM}{a:List JV}(ht:f.takes=[c])(hc:c≠46)(h:AV f a=true):∃x,a=[x]/\(nG c<0\/x.k=nG c):=by
 have hk:wM f.takes a.length=[c]:=by unfold wM FH;rw[ht];simp[hc]
 unfold AV at h;rw[hk]at h;simp only[aL,bA,aB,aM]at h;obtain⟨⟨h1,_⟩,h3⟩:=h
 match a,h1 with
 |[x],_=>exact⟨x,rfl,by simpa using h3⟩
structure Yy(a:List JV):Prop where
 good:∀x∈a,fA x=true
 len:a.length<=60
 pairs:(Ha a).length<=90000
theorem Lv{x:JV}(h:fA x=true):x.xs.length<=2000:=by
 simp only[fA,aL,bA]at h;have hd:=h.1.2;have hs:=h.1.1;rw[show(24:Nat)=23+1 from rfl,oC,oL]at hd;rw[vD]at hs;have:=(wE (m:=23) (by omega) x.xs 1 hd (by omega) hs).1;omega
theorem aC3{x:JV}(h:sK x=true)(k3:x.k=3):goodN x.t=true/\x.xs=[]/\x.ks=[]:=by
 rw[mX,aL]at h;obtain⟨_,_,_,_,h5,h6,h7,_⟩:=mP h.1;refine⟨h7 k3,?_,?_⟩
 ·refine fP λe=>?_;have:x.xs.length≠0:=λh0=>e (bG h0);have:=h5 this;omega
 ·refine fP λe=>?_;have:=h6 e;omega
theorem kv:nG 110=3/\nG 115=4/\nG 108=5/\nG 111=6/\nG 118=-1:=by decide
section
variable [HX]
def XV(g:FuncId)(f:FnM):Prop:=∀{a:List JV} {sv:Value} {w:World} {K:Q0},wV w->eY w sv a->Yy a->AV f a=true->DoK (f.act a) w K->aC P0 g [sv] w K
theorem aEC{x:JV}(h:fA x=true):x.t.length<=16384:=QX (sR h).plain
theorem Rr:XV 179 AU:=by
 intro a sv w K hT h hF hfit hK;obtain⟨kn,ks,kl,ko,kvv⟩:=kv;obtain⟨x,rfl,h1⟩:=aEL (f:=AU) rfl (by decide) hfit;have:=aEC (hF.good x (by simp));exact Sn h (by omega) hK
theorem OU:∀e∈fnX,Lib.hasSuffix e.2.1.takes [46]=FH e.2.1.takes/\Lib.trimSuffix e.2.1.takes [46]=(if FH e.2.1.takes then e.2.1.takes.dropLast else e.2.1.takes)/\e.2.1.takes.length<=100/\e.2.1.least<=100:=by decide
theorem VO{name:Str}(hall:∀f g,uD fnX name=some (f,g)->XV g f){a:List JV}{sv:Value}{K:Q0}(hT:wV w)(h:eY w sv a)(hl:a.length<=60)(hpr:(∀x∈a,fA x=true)->(Ha a).length<=90000)
  (hK:∀cs w',Ext w w'->cL (yM w.heap.size) w' (wZ name a).1 cs->K (.tuple #[.agg cs.toArray,i64 (wZ name a).2]) w'):aC P0 94 [str name,sv] w K:=by
 refine aBm ?_;unfold W94;refine bF λb w1 hb hz1 hbb hx1=>?_;have s1:=hx1.size;have ends:∀{v:JV} {cs:List Value} {c:Int} {w':World},wZ name a=(v,c)->Ext w1 w'->cL (λq=>w.heap.size<=q/\q≠b) w' v cs->
   stW 5 (.pointer (some ⟨b,0,none⟩)) (.agg cs.toArray) w' λw4=>ldW true 5 (.pointer (some ⟨b,0,none⟩)) w4 λr5=>K (.tuple #[r5,i64 c]) w4:=λ{v cs c w'} hc hx hv=>by
  rw[hc]at hK;exact IC (w0:=w) (K:=λr w=>K (.tuple #[r,i64 c]) w) (hx.at hbb id) rfl (by omega) (hx1.trans hx) hv λw'' hx'' h''=>hK _ w'' hx'' h''
 refine As (p:=λx=> !fA x) (h.ext hx1) (λz hz {cs w3 K3} hx3 hcs hK3=>?_) λw2 hx2=>?_
 ·refine yH ?_;refine Xv ?_;unfold aEj;refine kG hcs λq w4 sv4 kv4 hB4 hx4 _=>?_;refine hB4.ld λcs4 hcs4=>?_;refine GG hcs4 λw5 hx5=>?_;rw[eM];exact hK3 w5 (hx4.trans hx5)
 rw[bT];refine⟨λhbad=>?_,λhgood=>?_⟩
 ·rw[cU];exact ends (v:=JV.null) (cs:=flat 0 false []) (by unfold wZ;rw[aJ hbad]) hx2 (iY (by simp))
 have hgd:∀x∈a,fA x=true:=λx hx=>by
  have:=zQ.1 hgood x hx;simpa using this
 have hF:Yy a:=⟨hgd,hl,hpr hgd⟩;refine aDi λmb w6 hx6 hm=>?_;have hfP:=MH name fnX;have hfT:FJ fnT name=(uD fnX name).map λv=>v.1:=by rw[aA0];exact MG name fnX
 have hcall:wZ name a=(match FJ fnT name with
  |none=>(JV.null,70)
  |some f=>
   if a.any (λx=> !oY x)then(uV,0)else
   if !AV f a then(JV.null,71)else
   match f.act a with
   |none=>(JV.null,71)
   |some v=>if fA v then(v,0)else(JV.null,3)):=by
  unfold wZ;rw[aE (by rw[hgood];simp)]<;>rfl
 have hx26:=hx2.trans hx6;refine UY (KT:=ST) (ET:=FT) (z:=.agg #[str [],i64 0,.nilFunc]) (by kernel_rfl) (by kernel_rfl) (by kernel_rfl) hm (λv hv=>?_) (λhno=>?_)
 rotate_left
 ·have hno:uD fnX name=none:=by
   have hno:sP (fnX.map λe=>(e.1,fnV e.2.1 e.2.2)) name=none:=hno;rw[hfP]at hno;cases hq:uD fnX name with
   |none=>rfl
   |some v=>rw[hq]at hno;cases hno
  rw[hfT,hno]at hcall;simp only[bK];refine⟨_,rfl,_,rfl,?_⟩;refine bF λp w7 hp hz7 hbp hx7=>?_;refine cG (l:=[str [],i64 0,.nilFunc]) hbp rfl rfl rfl λw8 hz8 hbp8 hc8=>?_;have hx28:=hx26.trans (hx7.new hc8 (by omega));rw[eM,iL,dY,cU];exact ends (v:=JV.null) (cs:=flat 0 false []) hcall hx28 (iY (by simp))
 obtain⟨e,he,hev⟩:∃e:FnM×FuncId,uD fnX name=some e/\v=fnV e.1 e.2:=by
  have hv:sP (fnX.map λe=>(e.1,fnV e.2.1 e.2.2)) name=some v:=hv;rw[hfP]at hv;cases hq:uD fnX name with
  |none=>rw[hq]at hv;cases hv
  |some u=>rw[hq]at hv;exact⟨u,rfl,(fE hv).symm⟩
 obtain⟨f,g⟩:=e;subst hev;have hmem:=Gh he;have hdo:XV g f:=hall f g he;obtain⟨ht1,ht2,ht3,ht4⟩:=OU _ hmem;rw[hfT,he]at hcall;simp only[gF]at hcall;simp only[bK];refine⟨_,rfl,_,rfl,?_⟩;refine bF λp w7 hp hz7 hbp hx7=>?_;refine cG (l:=[str f.takes,i64 (f.least:Nat),.func (.func g) #[] #[]]) hbp rfl rfl rfl λw8 hz8 hbp8 hc8=>?_;have hx28:=hx26.trans (hx7.new hc8 (by omega));rw[eM,kU,cX];have h8:=(h.ext hx1).ext hx28;refine As (p:=λx=> !oY x) h8 (λz hz {cs w3 K3} hx3 hcs hK3=>?_) λw12 hx12=>?_
 ·refine yH ?_;refine Xt ?_;unfold aEh;refine kG hcs λq w4 sv4 kv4 hB4 hx4 _=>?_;refine hB4.ld λcs4 hcs4=>?_;refine Hj z hcs4 λw5 hx5=>?_;rw[eM];exact hK3 w5 (hx4.trans hx5)
 have hx112:=hx28.trans hx12;rw[bT];refine⟨λhunk=>?_,λhknw=>?_⟩
 ·rw[aJ hunk]at hcall;refine rT λw13 hx13=>?_;exact ends (v:=uV) (cs:=flat 1 false []) hcall (hx112.trans hx13) (iY (by simp))
 rw[aE (by rw[hknw];simp)]at hcall;refine bY (hx12.at hbp8 id) rfl ?_;refine aA3 (f:=f) (h8.ext hx12) rfl ht1 ht2 ht3 ht4 (by omega) λw16 hx16=>?_;have hx116:=hx112.trans hx16;rw[eM,bT];refine⟨λhnf=>?_,λhfit=>?_⟩
 ·rw[aJ hnf]at hcall;rw[cU];exact ends (v:=JV.null) (cs:=flat 0 false []) hcall hx116 (iY (by simp))
 rw[aE (by rw[hfit];simp)]at hcall;have hfit:AV f a=true:=by simpa using hfit
 have hbp16:=(hx12.trans hx16).at hbp8 id;rw[bR,dX];refine⟨.func (.func g) #[] #[],by rw[bZ,cD,hbp16];rfl,?_⟩;refine yH ?_;have hT16:=hT.ext (hx1.trans hx116);refine hdo hT16 ((h.ext hx1).ext hx116) hF hfit λcs v ok w20 hx20 hV hr=>?_;have hr:f.act a=if ok=true then some v else none:=hr;simp only[bK];refine⟨_,rfl,_,rfl,?_⟩;have hx120:=hx116.trans hx20;refine bF λq w21 hq hz21 hbq hx21=>?_;refine cG hbq hV.rep.len rfl hV.rep.all_one λw22 hz22 hbq22 hc22=>?_;have hx2022:Ext w20 w22:=hx21.new hc22 (by omega);have hx122:=hx120.trans hx2022;have s16:=hx116.size;have hlb:=fJ hbb;have hV22:cL (yM w16.heap.size) w22 v cs:=hV.ext' hx2022;rw[eM,bT];refine⟨λhno=>?_,λhok=>?_⟩
 ·rw[hr,aE (by simpa using hno)]at hcall;rw[cU];exact ends (v:=JV.null) (cs:=flat 0 false []) hcall hx122 (iY (by simp))
 rw[hr,aJ (by simpa using hok)]at hcall;refine bY hbq22 hV.rep.len ?_;refine GG hV22.rep λw26 hx26'=>?_;have hx126:=hx122.trans hx26';rw[eM,bT];refine⟨λhng=>?_,λhg=>?_⟩
 ·simp only[aE (show¬fA v=true by simpa using hng)]at hcall;rw[cU];exact ends (v:=JV.null) (cs:=flat 0 false []) hcall hx126 (iY (by simp))
 ·simp only[aJ (show fA v=true by simpa using hg)]at hcall;refine bY (hx26'.at hbq22 id) hV.rep.len ?_;exact ends (v:=v) hcall hx126 ((hV22.ext' hx26').at (by omega) (by omega))
end
abbrev zr5:List Value:=[(.int .i64 0),(.bool false),(.string (ofL [])),(.slice none 0 0),(.slice none 0 0)]
theorem Hq{u v:JV}{ds:List Value}{K:Q0}(h1:eR w u cs)(h2:eR w v ds)(hK:∀t w',eY w' t [u,v]->Ext w w'->inG (yM w.heap.size) t->K t w'):
  dJ VT 2 (zr5++zr5) [(0,5,.agg cs.toArray),(5,5,.agg ds.toArray)] w K:=by
 unfold dJ;have l1:=h1.len;have l2:=h2.len;have hp:∀K:List Value->Prop,K (cs++ds)->dI (zr5++zr5) [(0,5,.agg cs.toArray),(5,5,.agg ds.toArray)] K:=by
  intro K hK;refine⟨by simp[Value.cells,l1],by simp,?_⟩;refine⟨by simp[Value.cells,l2],by simp[Value.cells,l1],?_⟩;have:List.take 5 (List.take 0 (zr5++zr5)++((Value.agg cs.toArray).cells.toList++List.drop (0+5) (zr5++zr5)))++((Value.agg ds.toArray).cells.toList++List.drop (5+5) (List.take 0 (zr5++zr5)++((Value.agg cs.toArray).cells.toList++List.drop (0+5) (zr5++zr5))))=cs++ds:=by
   simp[Value.cells,List.take_append,List.drop_append,l1]
  rw[this];exact hK
 refine hp _ ?_;have hx:Ext w (w.alloc (.cells (cs++ds).toArray VT)):=Chg.alloc (Chg.refl _ _) _;refine hK _ _ ⟨⟨VT,cs++(ds++[]),?_,?_⟩,by simp⟩ hx (λq hq=>by cases hq;exact aS _)
 ·rw[dV];exact(yY (w:=w) (base:=w.heap.size) (e:=VT) (size:=5) (n:=2) (cs:=cs++ds) (aS _) (by rw[aX];omega) (by omega)).sl
 ·simp only[eH];exact⟨cs,ds++[],rfl,h1.ext hx,ds,[],rfl,h2.ext hx,rfl⟩
theorem Vu{u:JV}{K:Q0}(h1:eR w u cs)(hK:∀t w',eY w' t [u]->Ext w w'->K t w'):dJ VT 1 zr5 [(0,5,.agg cs.toArray)] w K:=
 Cf h1.len λt w' ht hx=>hK t w' ⟨⟨VT,cs,ht,eH.one' (h1.ext hx)⟩,by simp⟩ hx
section
variable [HX]
theorem Nn{s:Str}{K:Q0}(hK:∀w',Ext w w'->K (.agg (flat 4 false s).toArray) w'):aC P0 24 [str s] w K:=by
 refine aCc ?_;unfold W24;refine bF λb w1 hb hz hbb hx=>?_;simp only[wsv,wsg,wsh,wsl,aN,aK,aD,eZ,Nat.reduceAdd,Nat.reduceLT,aF,aA,aI,aH,bL,reduceCtorEq];exact iP hbb rfl rfl rfl λw' hc=>hK w' (hx.new hc (by omega))
end
end
end Go.Proofs.YtghhmpppnmoeoaaGreatDoor
namespace Go.Lex
section
open Go Go.Eng Go.Num
structure Tok where
 k:Int
 t:Str
 a:Int
deriving DecidableEq
def jH(c:UInt8):Bool:=(97<=c&&c<=122)||(65<=c&&c<=90)||c==95
def jB(c:UInt8):Bool:=48<=c&&c<=57
def jL(c:UInt8):Bool:=jH c||jB c||c==45
def eK(p:UInt8->Bool):Str->Nat
 |[]=>0
 |c::r=>if p c then eK p r+1 else 0
def pH(p s:Str):Bool:=p.isPrefixOf s
def fQ:Nat->Str->Nat×Int
 |0,_=>(0,0)
 |_+1,[]=>(0,0)
 |n+1,c::r=>
  if c==32||c==9||c==13 then((fQ n r).1+1,(fQ n r).2)
  else if c==35||pH [47,47] (c::r)then
   let k:=eK (λb=>b !=10) (c::r)
   ((fQ n ((c::r).drop k)).1+k,(fQ n ((c::r).drop k)).2)
  else if pH [47,42] (c::r)then
   let i:=Lib.index (r.drop 1) [42,47]
   if i<0 then(0,40)
   else((fQ n ((c::r).drop (i.toNat+4))).1+(i.toNat+4),(fQ n ((c::r).drop (i.toNat+4))).2)
  else(0,0)
def mS(k:Nat)(r:Nat×Int):Nat×Int:=if r.2=0 then(r.1+k,0)else(0,r.2)
def escOk(c:UInt8):Bool:=c==34||c==92||c==110||c==116||c==114||c==36
mutual
def oI:Nat->Str->Nat->Nat×Int
 |0,_,_=>(0,40)
 |_+1,[],_=>(0,40)
 |n+1,c::r,d=>
  if c==34 then(1,0)
  else if c==10 then(0,40)
  else if c==92 then
   match r with
   |[]=>(0,40)
   |e::r'=>if escOk e then mS 2 (oI n r' d)else(0,40)
  else if pH [36,123] (c::r)then
   if 24<d+1 then(0,7)
   else
    let i:=AT n (r.drop 1) (d+1)
    if i.2=0 then mS (i.1+2) (oI n ((r.drop 1).drop i.1) d)else(0,i.2)
  else mS 1 (oI n r d)
def AT:Nat->Str->Nat->Nat×Int
 |0,_,_=>(0,40)
 |_+1,[],_=>(0,40)
 |n+1,c::r,d=>
  if c==125 then(1,0)
  else if c==10 then(0,40)
  else if c==123 then
   if 24<d+1 then(0,7)
   else
    let i:=AT n r (d+1)
    if i.2=0 then mS (i.1+1) (AT n (r.drop i.1) d)else(0,i.2)
  else if c==34 then
   let i:=oI n r d
   if i.2=0 then mS (i.1+1) (AT n (r.drop i.1) d)else(0,i.2)
  else mS 1 (AT n r d)
end
def kF:Str->Str
 |[]=>[]
 |c::r=>if c==92||c==34||c==36 then 92::c::kF r else if c==9 then 92::116::kF r else if c==13 then 92::114::kF r else c::kF r
def mA:Nat->Str->Str->Str×Nat×Int
 |0,_,_=>([],0,40)
 |n+1,name,s=>
  let k:=eK (λb=>b !=10) s
  let line:=s.take k
  if line.drop (eK (λb=>b==32||b==9) line)=name then([],k,0)
  else if s.length<=k then([],0,40)
  else
   let x:=mA n name (s.drop (k+1))
   if x.2.2=0 then(kF line++[92,110]++x.1,x.2.1+(k+1),0)else([],0,x.2.2)
def iI(s:Str):Str×Nat×Int:=
 let n:=if jH ((s.drop 2).headD 0)then eK jL (s.drop 2)else 0
 if n=0 then([],0,40)
 else if(s.drop (2+n)).head?=some 10 then
  let x:=mA (s.length+1) ((s.drop 2).take n) (s.drop (2+n+1))
  if x.2.2=0 then(x.1,x.2.1+(2+n+1),0)else([],0,x.2.2)
 else([],0,40)
def xN:List Str:=[[61,61],[33,61],[60,61],[62,61],[38,38],[124,124]]
def Bl:Str:=[123,125,91,93,40,41,61,43,45,42,47,37,60,62,33,63,58,44,46]
def vF(s:Str):Str:=
 if xN.contains (s.take 2)then s.take 2 else if Bl.contains (s.headD 0)then s.take 1 else []
def oW(s:Str):Tok×Nat×Int:=
 let c:=s.headD 0
 if c==10 then(⟨5,[10],0⟩,1,0)
 else if jH c then
  let n:=eK jL s
  (⟨1,s.take n,0⟩,n,if 32<n then 3 else 0)
 else if jB c then
  let n:=eK jB s
  (⟨2,s.take n,0⟩,n,if(n<s.length&&jH ((s.drop n).headD 0))||(c==48&&1<n)then 40 else if goodN (s.take n)then 0 else 3)
 else if c==34 then
  let r:=oI (s.length+1) (s.drop 1) 0
  if r.2=0 then(⟨3,(s.drop 1).take (r.1-1),0⟩,r.1+1,0)else(⟨0,[],0⟩,0,r.2)
 else if pH [60,60] s then
  let r:=iI s
  (⟨3,r.1,0⟩,r.2.1,r.2.2)
 else(⟨4,vF s,0⟩,(vF s).length,if(vF s).length=0 then 40 else 0)
def EI:Nat->Str->Nat->Option Nat
 |0,_,_=>none
 |n+1,s,i=>if s.length<=i then none else if iF s i=0 then some i else EI n s (i+uY s i)
inductive RS where
 |ok (l:List Tok)
 |bad (code at_:Int)
deriving DecidableEq
def nC:Nat->Str->Nat->Nat->RS
 |0,_,_,_=>.bad 0 0
 |n+1,s,at_,cnt=>
  let k:=fQ (s.length+1) s
  let r:=s.drop k.1
  if k.2≠0 then .bad k.2 (at_+k.1:Nat)
  else if r=[]then .ok [⟨0,[],(at_+k.1:Nat)⟩]
  else
   let o:=oW r
   if o.2.2≠0 then .bad o.2.2 (at_+k.1:Nat)
   else if cnt=4096 then .bad 3 (at_+k.1:Nat)
   else match nC n (r.drop o.2.1) (at_+k.1+o.2.1) (cnt+1)with
    |.ok l=>.ok (⟨o.1.k,o.1.t,(at_+k.1:Nat)⟩::l)
    |x=>x
def qH(s:Str):RS:=
 if 16384<s.length then .bad 3 0
 else match EI (s.length+1) s 0 with
  |some i=>.bad 31 (i:Nat)
  |none=>nC (s.length+1) s 0 0
end
end Go.Lex
namespace Go.Syn
section
open Go Go.Eng Go.Lex
structure Ex where
 k:Int
 t:Str
 args:List Nat
 keys:List Str
 a:Int
deriving DecidableEq
structure Atr where
 n:Str
 e:Nat
 a:Int
deriving DecidableEq
structure Blk where
 typ:Str
 labels:List Str
 attrs:List Atr
 blocks:List Nat
 a:Int
deriving DecidableEq
structure Fl where
 ex:List Ex
 bl:List Blk
 top:List Nat
deriving DecidableEq
structure PS where
 toks:List Tok
 i:Nat
 off:Int
 deep:Nat
 quiet:Bool
 ex:List Ex
 bl:List Blk
inductive R (α:Type) where
 |ok (x:α) (s:PS)
 |err (c a:Int)
def R.bind{α β:Type}(r:R α)(f:α->PS->R β):R β:=match r with
 |.ok x s=>f x s
 |.err c a=>.err c a
def gZ:List Tok->Nat
 |[]=>0
 |t::r=>if t.k=5 then gZ r+1 else 0
def bC(s:PS):PS:=if s.quiet=true then{s with i:=s.i+gZ (s.toks.drop s.i)}else s
def lW(s:PS):Tok:=s.toks.getD s.i ⟨0,[],0⟩
def cur(s:PS):Tok:={lW (bC s)with a:=(lW (bC s)).a+s.off}
def step1(s:PS):PS:={s with i:=s.i+1}
def iW(s:PS):PS:=if(cur s).k≠0 then step1 (bC s)else bC s
def isS(s:PS)(w:Str):Bool:=decide ((cur s).k=4)&&decide ((cur s).t=w)
def bX(s:PS)(w:Str):Bool×PS:=if isS s w=true then(true,step1 (bC s))else(false,bC s)
def oH(s:PS)(w:Str):R Unit:=if isS s w=true then .ok () (step1 (bC s))else .err 50 (cur s).a
def lO(s:PS)(k:Int):R Tok:=if(cur s).k=k then .ok (cur s) (iW s)else .err 50 (cur s).a
def gI(s:PS):PS:={bC s with i:=(bC s).i+gZ (s.toks.drop (bC s).i)}
def qT(s:PS)(e:Ex):R Nat:=.ok s.ex.length {s with ex:=s.ex++[e]}
def within{α:Type}(s:PS)(a:Int)(quiet:Bool)(f:PS->R α):R α:=
 if s.deep=24 then .err 7 a
 else(f {s with deep:=s.deep+1,quiet:=quiet}).bind λx s'=>.ok x {s' with deep:=s.deep,quiet:=s.quiet}
def kD:Str->Str
 |[]=>[]
 |[c]=>if c=92 then []else [c]
 |c::e::r=>if c=92 then(if e=110 then 10 else if e=116 then 9 else if e=114 then 13 else e)::kD r else c::kD (e::r)
mutual
def Bb:Nat->Str->Int->Nat
 |0,_,_=>0
 |_+1,[],_=>0
 |n+1,c::r,d=>
  if c=123 then 1+Bb n r (d+1)
  else if c=125 then(if d-1=0 then 1 else 1+Bb n r (d-1))
  else if c=34 then(1+AI n r)+Bb n (r.drop (AI n r)) d
  else 1+Bb n r d
def AI:Nat->Str->Nat
 |0,_=>0
 |_+1,[]=>0
 |n+1,c::r=>
  if c=34 then 1
  else if c=92 then(match r with|[]=>1|_::r'=>2+AI n r')
  else if pH [36,123] (c::r)=true then(1+Bb n r 0)+AI n (r.drop (Bb n r 0))
  else 1+AI n r
end
def Kb(s:Str):Nat:=Bb (s.length+1) s 0
def insP:Str->Option (Nat×Nat)
 |[]=>none
 |[_]=>none
 |c::e::r=>
  if c=92 then(insP r).map λx=>(x.1+2,x.2+2)
  else if c=36/\e=123 then some (0,1+Kb (e::r))
  else(insP (e::r)).map λx=>(x.1+1,x.2+1)
def pS(s:PS)(t:Tok):R Str:=if(insP t.t).isSome=true then .err 50 t.a else .ok (kD t.t) s
def oZ(E:PS->R Nat)(s:PS)(t:Str)(a:Int):R Nat:=match qH t with
 |.bad c b=>.err c (a+b)
 |.ok l=>(E ⟨l,0,a,s.deep,false,s.ex,s.bl⟩).bind λx q=>(lO q 0).bind λ_ q'=>.ok x {s with ex:=q'.ex,bl:=q'.bl}
def nI(E:PS->R Nat):Nat->PS->Str->Int->List Nat->List Str->R (List Nat×List Str)
 |0,_,_,_,_,_=>.err 0 0
 |n+1,s,rest,a,us,ks=>
  if rest=[]then .ok (us,ks) s
  else match insP rest with
   |none=>.ok (us++[s.ex.length],ks++[[116]]) {s with ex:=s.ex++[⟨5,kD rest,[],[],a⟩]}
   |some (i,e)=>
    let s1:=if 0<i then{s with ex:=s.ex++[⟨5,kD (rest.take i),[],[],a⟩]}else s
    let as1:=if 0<i then us++[s.ex.length]else us
    let ks1:=if 0<i then ks++[[116]]else ks
    if i<e then
     (within s1 (a+i) false λq=>oZ E q ((rest.drop (i+2)).take (e-1-(i+2))) (a+i+2)).bind λx s2=>nI E n s2 (rest.drop e) (a+e) (as1++[x]) (ks1++[[101]])
    else nI E n s1 (rest.drop e) (a+e) as1 ks1
def Cd(E:PS->R Nat)(s:PS)(t:Tok):R Nat:=
 if(insP t.t).isSome=true then(nI E (t.t.length+1) s t.t (t.a+1) [] []).bind λx s'=>qT s' ⟨6,[],x.1,x.2,t.a⟩
 else qT s ⟨5,kD t.t,[],[],t.a⟩
def Jl:Str:=[102,111,114]
def kIn:Str:=[105,110]
def xS(t:Str):Int:=if t=[110,117,108,108]then 1 else if t=[116,114,117,101]then 2 else if t=[102,97,108,115,101]then 3 else 9
def tA(E:PS->R Nat)(w:Str):Nat->PS->List Nat->R (List Nat)
 |0,_,_=>.err 0 0
 |n+1,s,out=>
  if(bX s w).1=true then .ok out (bX s w).2
  else if out=[]then(E (bX s w).2).bind λx s'=>tA E w n s' (out++[x])
  else(oH (bX s w).2 [44]).bind λ_ s1=>
   if(bX s1 w).1=true then .ok out (bX s1 w).2
   else(E (bX s1 w).2).bind λx s'=>tA E w n s' (out++[x])
def Eu(E:PS->R Nat)(w:Str)(s:PS):R (List Nat):=tA E w (s.toks.length+1) s []
def Ci(E:PS->R Nat)(s:PS)(a:Int):R Ex:=
 let s1:=step1 s
 if(cur s1).k≠1\/(cur s1).t≠Jl then(Eu E [93] (bC s1)).bind λus s'=>.ok ⟨7,[],us,[],a⟩ s'
 else(lO (step1 (bC s1)) 1).bind λt s2=>(lO s2 1).bind λu s3=>
  if u.t≠kIn then .err 50 u.a
  else(E s3).bind λx s4=>(oH s4 [58]).bind λ_ s5=>(E s5).bind λy s6=>(oH s6 [93]).bind λ_ s7=>.ok ⟨29,t.t,[x,y],[],a⟩ s7
def EE(E:PS->R Nat)(a:Int):Nat->PS->List Nat->List Str->R Ex
 |0,_,_,_=>.err 0 0
 |n+1,s,us,ks=>
  if(bX s [125]).1=true then .ok ⟨8,[],us,ks,a⟩ (bX s [125]).2
  else
   let s1:=(bX s [125]).2
   let t:=cur s1
   let s2:=iW s1
   (if t.k=3 then pS s2 t else if t.k=1 then .ok t.t s2 else .err 50 t.a).bind λk s3=>
     if ks.contains k=true then .err 2 t.a
     else(oH s3 [61]).bind λ_ s4=>(E s4).bind λx s5=>
      if(bX s5 [44]).1=false/\(cur (bX s5 [44]).2).k≠5/\isS (bC (bX s5 [44]).2) [125]=false then .err 50 (cur (bC (bX s5 [44]).2)).a
      else EE E a n (gI (if(bX s5 [44]).1=true then(bX s5 [44]).2 else bC (bX s5 [44]).2)) (us++[x]) (ks++[k])
def NK(E:PS->R Nat)(s:PS)(a:Int):R Ex:=EE E a (s.toks.length+1) (gI (step1 s)) [] []
def Be(E:PS->R Nat)(s:PS):R Nat:=
 let t:=cur s
 let s1:=bC s
 if t.k=2 then qT (step1 s1) ⟨4,t.t,[],[],t.a⟩
 else if t.k=3 then Cd E (step1 s1) t
 else if t.k=1/\t.t≠Jl then
  if isS (step1 s1) [40]=true then
   (within (bC (step1 s1)) (cur (step1 s1)).a true λq=>Eu E [41] (step1 q)).bind λus s2=>qT s2 ⟨12,t.t,us,[],t.a⟩
  else qT (bC (step1 s1)) ⟨xS t.t,if xS t.t=9 then t.t else [],[],[],t.a⟩
 else if isS s1 [40]=true then within s1 t.a true λq=>(E (step1 q)).bind λx q1=>(oH q1 [41]).bind λ_ q2=>.ok x q2
 else if isS s1 [91]=true then(within s1 t.a true λq=>Ci E q t.a).bind λe s2=>qT s2 e
 else if isS s1 [123]=true then(within s1 t.a false λq=>NK E q t.a).bind λe s2=>qT s2 e
 else .err 50 t.a
def rG(E:PS->R Nat):Nat->PS->Nat->R Nat
 |0,_,_=>.err 0 0
 |n+1,s,x=>
  let t:=cur s
  let s1:=bC s
  if(bX s1 [46]).1=true then(lO (bX s1 [46]).2 1).bind λu s2=>(qT s2 ⟨10,u.t,[x],[],t.a⟩).bind λy s3=>rG E n s3 y
  else if isS s1 [91]=true then
   (within s1 t.a true λq=>
     if(bX (step1 q) [42]).1=true then(oH (bX (step1 q) [42]).2 [93]).bind λ_ q2=>.ok none q2
     else(E (bX (step1 q) [42]).2).bind λy q1=>(oH q1 [93]).bind λ_ q2=>.ok (some y) q2).bind λo s2=>
     match o with
     |some y=>(qT s2 ⟨11,[],[x,y],[],t.a⟩).bind λz s3=>rG E n s3 z
     |none=>(oH s2 [46]).bind λ_ s3=>(lO s3 1).bind λu s4=>(qT s4 ⟨30,u.t,[x],[],t.a⟩).bind λz s5=>rG E n s5 z
  else .ok x s1
def Dq(E:PS->R Nat)(s:PS):R Nat:=(Be E s).bind λx s1=>rG E (s.toks.length+1) s1 x
def zV(E S:PS->R Nat)(s:PS):R Nat:=
 let t:=cur s
 let s1:=bC s
 if isS s1 [33]=true then(within s1 t.a s1.quiet λq=>S (step1 q)).bind λx s2=>qT s2 ⟨14,[],[x],[],t.a⟩
 else if isS s1 [45]=true then(within s1 t.a s1.quiet λq=>S (step1 q)).bind λx s2=>qT s2 ⟨13,[],[x],[],t.a⟩
 else Dq E s1
def Jm(n:Nat)(w:Str):Int:=
 if n=0 then(if w=[124,124]then 27 else 0)
 else if n=1 then(if w=[38,38]then 26 else 0)
 else if n=2 then(if w=[61,61]then 20 else if w=[33,61]then 21 else 0)
 else if n=3 then(if w=[60]then 22 else if w=[62]then 23 else if w=[60,61]then 24 else if w=[62,61]then 25 else 0)
 else if n=4 then(if w=[43]then 15 else if w=[45]then 16 else 0)
 else if n=5 then(if w=[42]then 17 else if w=[47]then 18 else if w=[37]then 19 else 0)
 else 0
def wL(t:Tok)(n:Nat):Int:=if t.k=4 then Jm n t.t else 0
def AQ(J:PS->R Nat)(n:Nat):Nat->PS->Nat->R Nat
 |0,_,_=>.err 0 0
 |f+1,s,a=>
  let t:=cur s
  if wL t n=0 then .ok a (bC s)
  else(J (step1 (bC s))).bind λb s1=>(qT s1 ⟨wL t n,[],[a,b],[],t.a⟩).bind λx s2=>AQ J n f s2 x
def uB(E S:PS->R Nat):Nat->PS->R Nat
 |0=>zV E S
 |m+1=>λs=>(uB E S m s).bind λa s1=>AQ (uB E S m) (5-m) (s.toks.length+1) s1 a
def Cr(E S:PS->R Nat)(s:PS):R Nat:=(uB E S 6 s).bind λa s1=>
 let t:=cur s1
 if(bX s1 [63]).1=true then
  (within (bX s1 [63]).2 t.a (bX s1 [63]).2.quiet λq=>(E q).bind λx q1=>(oH q1 [58]).bind λ_ q2=>(E q2).bind λy q3=>.ok (x,y) q3).bind λz s2=>qT s2 ⟨28,[],[a,z.1,z.2],[],t.a⟩
 else .ok a (bX s1 [63]).2
def dead:PS->R Nat:=λ_=>.err 0 0
def sV:Nat->(PS->R Nat)×(PS->R Nat)
 |0=>(Cr dead dead,zV dead dead)
 |d+1=>(Cr (sV d).1 (sV d).2,zV (sV d).1 (sV d).2)
def rO:Nat->PS->List Str->R (List Str)
 |0,_,_=>.err 0 0
 |n+1,s,ls=>
  if(cur s).k=3 then(pS (iW s) (cur s)).bind λl s1=>rO n s1 (ls++[l])
  else .ok ls (bC s)
def Ck(E B:PS->R Nat)(s:PS)(us:List Atr)(bs:List Nat):R (List Atr×List Nat):=(lO s 1).bind λt s1=>
 if(bX s1 [61]).1=true then(E (bX s1 [61]).2).bind λx s2=>.ok (us++[⟨t.t,x,t.a⟩],bs) s2
 else(B {(bX s1 [61]).2 with i:=(bX s1 [61]).2.i-1}).bind λx s2=>.ok (us,bs++[x]) s2
def qX(E B:PS->R Nat):Nat->PS->List Atr->List Nat->R (List Atr×List Nat)
 |0,_,_,_=>.err 0 0
 |n+1,s,us,bs=>
  if(bX s [125]).1=true then .ok (us,bs) (bX s [125]).2
  else(Ck E B (bX s [125]).2 us bs).bind λx s1=>
   if(cur s1).k≠5/\isS (bC s1) [125]=false then .err 50 (cur (bC s1)).a
   else qX E B n (gI (bC s1)) x.1 x.2
def yI(E B:PS->R Nat)(s:PS):R Nat:=(lO s 1).bind λt s1=>(rO (s.toks.length+1) s1 []).bind λls s2=>
 if isS s2 [123]=false then .err 50 (cur s2).a
 else(within (bC s2) (cur s2).a false λq=>qX E B (s.toks.length+1) (gI (step1 q)) [] []).bind λx s3=>
  .ok s3.bl.length {s3 with bl:=s3.bl++[⟨t.t,ls,x.1,x.2,t.a⟩]}
def BV:Nat->PS->R Nat
 |0=>yI dead dead
 |d+1=>yI (sV d).1 (BV d)
def Nk:Nat->PS->List Nat->R (List Nat)
 |0,_,_=>.err 0 0
 |n+1,s,top=>
  if(cur s).k=0 then .ok top (bC s)
  else(BV 24 (bC s)).bind λx s1=>
   if(cur s1).k≠5/\(cur s1).k≠0 then .err 50 (cur (bC s1)).a
   else Nk n (gI (bC s1)) (top++[x])
inductive PR where
 |ok (f:Fl)
 |bad (c a:Int)
deriving DecidableEq
def parseM(s:Str):PR:=match qH s with
 |.bad c a=>.bad c a
 |.ok l=>match Nk (l.length+1) (gI ⟨l,0,0,0,false,[],[]⟩) []with
  |.ok top s'=>.ok ⟨s'.ex,s'.bl,top⟩
  |.err c a=>.bad c a
end
end Go.Syn
namespace Go.Eng
section
open Go Go.Num Go.Syn
variable{w:World}{K:Q0}{cs:List Value}{G:Nat->Prop}{T:TypeId}{i:Nat}{n:Nat}{v:Value}{w':World}{P:Program}{c:UInt8}{S:Nat->Prop}
def gW(n:Int):Str×Int:=if 100<(dig (Lib.itoa n)).length then([],3)else(Lib.itoa n,0)
def Em(a b:Str):Str×Int:=if num b=0 then([],10)else gW ((num a).tdiv (num b))
def EF(a b:Str):Str×Int:=if num b=0 then([],10)else gW ((num a).tmod (num b))
inductive EvR (α:Type) where
 |ok (x:α) (left:Nat)
 |err (c a:Int)
def EvR.bind{α β:Type}(r:EvR α)(f:α->Nat->EvR β):EvR β:=match r with
 |.ok x l=>f x l
 |.err c a=>.err c a
inductive MdR (α:Type) where
 |ok (x:α)
 |err (c a:Int)
def MdR.bind{α β:Type}(r:MdR α)(f:α->MdR β):MdR β:=match r with
 |.ok x=>f x
 |.err c a=>.err c a
def MdR.at_{α:Type}(r:MdR α)(l:Nat):EvR α:=match r with
 |.ok x=>.ok x l
 |.err c a=>.err c a
abbrev Env:=Str->Option JV
def Env.set(env:Env)(k:Str)(v:JV):Env:=λs=>if s=k then some v else env s
def aDg(ex:List Ex)(i:Nat):Int:=match ex[i]? with|some e=>e.a|none=>0
def Bt(v:JV):Option Str:=if v.k=4\/v.k=3 then some v.t else if v.k=2 then some (if v.b then [116,114,117,101]else [102,97,108,115,101])else none
def tM(ex:List Ex)(args:List Nat):List JV->Nat->Str->Bool->MdR JV
 |[],_,b,kn=>.ok (if kn=true then tV b else uV)
 |v::l,j,b,kn=>if v.k=1 then tM ex args l (j+1) b false else match Bt v with
  |some s=>tM ex args l (j+1) (b++s) kn
  |none=>.err 81 (aDg ex (args.getD j 0))
def sZ(t:Str)(a:Int)(v:JV):MdR JV:=
 if v.k=1 then .ok v else if v.k≠6 then .err 81 a else match xX v t with
 |some x=>.ok x
 |none=>.err 82 a
def uO(t:Str)(a:Int):List JV->MdR (List JV)
 |[]=>.ok []
 |v::l=>(sZ t a v).bind λx=>(uO t a l).bind λxs=>.ok (x::xs)
def uK(t:Str)(a:Int)(v:JV):MdR JV:=
 if v.k=1 then .ok v else if v.k≠5 then .err 81 a else(uO t a v.xs).bind λxs=>.ok (lV xs)
def gK(k:Int)(v:JV):Bool:=decide (v.k=k)||decide (v.k=1)
def rP(v i:JV):Bool:=if v.k=1 then gK 3 i||gK 4 i else if v.k=5 then gK 3 i else if v.k=6 then gK 4 i else false
def BF(a:Int)(v i:JV):MdR JV:=
 if rP v i=true then
  if v.k=1\/i.k=1 then .ok uV
  else if v.k=6 then sZ i.t a v
  else if 0<=num i.t/\num i.t<v.xs.length then .ok (v.xs.getD (num i.t).toNat JV.null)else .err 82 a
 else .err 81 a
def zU(k a:Int)(v:JV):MdR JV:=
 if v.k=1 then .ok v else if v.k=3/\k=13 then .ok (nV (gW (-num v.t)).1)else if v.k=2/\k=14 then .ok (bV (!v.b))else .err 81 a
def Gs(or:Bool)(a:Int)(x y:JV):MdR JV:=
 if(gK 2 x&&gK 2 y)=true then
  if(x.k≠1/\x.b=or)\/(y.k≠1/\y.b=or)then .ok (bV or)else if x.k=1\/y.k=1 then .ok uV else .ok (bV (!or))
 else .err 81 a
def xA(a:Int)(r:Str×Int):MdR JV:=if r.2=0 then .ok (nV r.1)else .err r.2 a
def Jb(k a:Int)(x y:JV):MdR JV:=
 if(gK 3 x&&gK 3 y)=true then
  if x.k=1\/y.k=1 then .ok uV
  else if k=22 then .ok (bV (decide (yF x.t y.t<0)))
  else if k=23 then .ok (bV (decide (0<yF x.t y.t)))
  else if k=24 then .ok (bV (decide (yF x.t y.t<=0)))
  else if k=25 then .ok (bV (decide (0<=yF x.t y.t)))
  else if k=15 then xA a (gW (num x.t+num y.t))
  else if k=16 then xA a (gW (num x.t-num y.t))
  else if k=17 then xA a (gW (num x.t*num y.t))
  else if k=18 then xA a (Em x.t y.t)
  else if k=19 then xA a (EF x.t y.t)
  else .ok (nV [])
 else .err 81 a
def CB(l:List JV):JV:=l.getD 0 JV.null
def EJ(l:List JV):JV:=l.getD 1 JV.null
def AO(ks:List Str)(l:List JV):JV:=if ks.length=l.length/\ks.Nodup then(ks.zip l).foldl (λv p=>wG v p.1 p.2) (.mk 6 false [] [] [])else JV.null
def oX(ex:List Ex)(e:Ex)(env:Env)(l:List JV):MdR JV:=
 if e.k=1 then .ok JV.null
 else if e.k=2\/e.k=3 then .ok (bV (decide (e.k=2)))
 else if e.k=4 then .ok (nV e.t)
 else if e.k=5 then .ok (tV e.t)
 else if e.k=9 then(match env e.t with|some v=>.ok v|none=>.err 80 e.a)
 else if e.k=6 then tM ex e.args l 0 [] true
 else if e.k=7 then .ok (lV l)
 else if e.k=8 then .ok (AO e.keys l)
 else if e.k=10 then sZ e.t e.a (CB l)
 else if e.k=30 then uK e.t e.a (CB l)
 else if e.k=11 then BF e.a (CB l) (EJ l)
 else if e.k=12 then(if(wZ e.t l).2=0 then .ok (wZ e.t l).1 else .err (wZ e.t l).2 e.a)
 else if e.k=13\/e.k=14 then zU e.k e.a (CB l)
 else if e.k=20\/e.k=21 then(if oY (CB l)=true/\oY (EJ l)=true then .ok (bV (decide (LO (CB l) (EJ l)=0)==decide (e.k=20)))else .ok uV)
 else if e.k=26\/e.k=27 then Gs (decide (e.k=27)) e.a (CB l) (EJ l)
 else Jb e.k e.a (CB l) (EJ l)
section
variable(rec_:Nat->Env->Nat->EvR JV)
def nQ(env:Env):List Nat->Nat->EvR (List JV)
 |[],left=>.ok [] left
 |a::r,left=>(rec_ a env left).bind λv l=>(nQ env r l).bind λvs l'=>.ok (v::vs) l'
def wY(env:Env)(t:Str)(i:Nat):List JV->Nat->EvR (List JV)
 |[],left=>.ok [] left
 |x::r,left=>(rec_ i (env.set t x) left).bind λv l=>(wY env t i r l).bind λvs l'=>.ok (v::vs) l'
def mD(e:Ex)(i:Nat):Nat:=e.args.getD i 0
def Gn(e:Ex)(env:Env)(left:Nat):EvR JV:=
 (rec_ (mD e 0) env left).bind λc l=>
   if c.k=1 then .ok c l else if c.k≠2 then .err 81 e.a else if c.b=true then rec_ (mD e 1) env l else rec_ (mD e 2) env l
def Vv(e:Ex)(env:Env)(left:Nat):EvR JV:=
 (rec_ (mD e 0) env left).bind λc l=>
   if c.k=1 then .ok c l else if c.k≠5 then .err 81 e.a else(wY rec_ env e.t (mD e 1) c.xs l).bind λvs l'=>.ok (lV vs) l'
def pD(ex:List Ex)(e:Ex)(env:Env)(left:Nat):EvR JV:=
 if e.k=28 then Gn rec_ e env left
 else if e.k=29 then Vv rec_ e env left
 else(nQ rec_ env e.args left).bind λl left'=>(oX ex e env l).at_ left'
def wW(ex:List Ex)(e:Ex)(env:Env)(left:Nat):EvR JV:=
 if left=0 then .err 3 e.a else(pD rec_ ex e env (left-1)).bind λv l=>if fA v=true then .ok v l else .err 3 e.a
end
def rI(ex:List Ex):Nat->Nat->Env->Nat->EvR JV
 |0,_,_,_=>.err 0 0
 |n+1,i,env,left=>match ex[i]? with
  |none=>.err 0 0
  |some e=>wW (rI ex n) ex e env left
def qK:List Str->List JV->Env
 |k::ks,x::xs=>λs=>match qK ks xs s with
  |some v=>some v
  |none=>if s=k then some x else none
 |_,_=>λ_=>none
def zZ(f:Fl)(i:Nat)(scope:JV):MdR JV:=match rI f.ex (i+1) i (qK scope.ks scope.xs) 20000 with
 |.ok v _=>.ok v
 |.err c a=>.err c a
theorem Jh{f g:Nat->Env->Nat->EvR JV}(env:Env):∀(ags:List Nat) (left:Nat),(∀a∈ags,∀env l,f a env l=g a env l)->nQ f env ags left=nQ g env ags left
 |[],_,_=>rfl
 |a::r,left,h=>by
  unfold nQ
  rw[h a (by simp)]
  congr 1
  funext v l
  rw[Jh env r l λa ha=>h a (aU _ ha)]
theorem Jg{f g:Nat->Env->Nat->EvR JV}(env:Env)(t:Str)(i:Nat)(h:∀env l,f i env l=g i env l):∀(xs:List JV) (left:Nat),wY f env t i xs left=wY g env t i xs left
 |[],_=>rfl
 |x::r,left=>by
  unfold wY
  rw[h]
  congr 1
  funext v l
  rw[Jg env t i h r l]
theorem Ik{f g:Nat->Env->Nat->EvR JV}{ex:List Ex}{e:Ex}(h3:e.k=28->3<=e.args.length)(h2:e.k=29->2<=e.args.length)(h:∀a∈e.args,∀env l,f a env l=g a env l)(env:Env)(left:Nat):wW f ex e env left=wW g ex e env left:=by
 have hm:∀j,j<e.args.length->∀env l,f (mD e j) env l=g (mD e j) env l:=λj hj=>h _ (by unfold mD;rw[List.getD_eq_getElem?_getD,List.getElem?_eq_getElem hj];simp);unfold wW;by_cases hl:left=0
 ·rw[aJ hl,aJ hl]
 rw[aE hl,aE hl];congr 1;unfold pD;by_cases k28:e.k=28
 ·rw[aJ k28,aJ k28];have:=h3 k28;unfold Gn;rw[hm 0 (by omega)];congr 1;funext c l;rw[hm 1 (by omega),hm 2 (by omega)]
 rw[aE k28,aE k28];by_cases k29:e.k=29
 ·rw[aJ k29,aJ k29];have:=h2 k29;unfold Vv;rw[hm 0 (by omega)];congr 1;funext c l;rw[Jg env e.t (mD e 1) (hm 1 (by omega))]
 rw[aE k29,aE k29,Jh env e.args _ h]
structure lH(ex:List Ex):Prop where
 ahead:∀(i:Nat) (e:Ex),ex[i]?=some e->∀a∈e.args,a<i
 a3:∀e∈ex,e.k=28->3<=e.args.length
 a2:∀e∈ex,e.k=29->2<=e.args.length
theorem Sk{ex:List Ex}(h:lH ex):∀(i n m:Nat),i<n->i<m->∀env l,rI ex n i env l=rI ex m i env l:=by
 intro i;induction i using Nat.strongRecOn with
 |ind i ih=>
 intro n m hn hm env l;cases n with
 |zero=>omega
 |succ n=>
 cases m with
 |zero=>omega
 |succ m=>
 unfold rI;cases he:ex[i]? with
 |none=>rfl
 |some e=>
  have hm':=bJ he;refine Ik (h.a3 e hm') (h.a2 e hm') (λa ha env l=>?_) env l;have:=h.ahead i e he a ha;exact ih a this n m (by omega) (by omega) env l
theorem uS{ex:List Ex}(h:lH ex){e:Ex}(he:ex[i]?=some e)(hn:i<n)(env:Env)(l:Nat):rI ex n i env l=wW (λa env l=>rI ex (a+1) a env l) ex e env l:=by
 cases n with
 |zero=>omega
 |succ n=>
 rw[rI,he];have hm':=bJ he;refine Ik (h.a3 e hm') (h.a2 e hm') (λa ha env l=>?_) env l;have:=h.ahead i e he a ha;exact Sk h a n (a+1) (by omega) (by omega) env l
end
end Go.Eng
namespace Go.Proofs.YtghhmpppnmoeoaaGreatDoor
section
open Go Go.Eng Go.RowKit Go.Syn Go.Lex
variable{w:World}{K:Q0}{cs:List Value}{G:Nat->Prop}{T:TypeId}{i:Nat}{n:Nat}{v:Value}{w':World}{P:Program}{c:UInt8}{S:Nat->Prop}
abbrev TkT:TypeId:=73
abbrev ExT:TypeId:=93
abbrev AtT:TypeId:=88
abbrev BkT:TypeId:=86
abbrev FlT:TypeId:=32
abbrev PsT:TypeId:=70
abbrev iT:TypeId:=3
abbrev StT:TypeId:=9
theorem aC5:qQ P0 28 ExT 5 80:=⟨by kernel_rfl,by kernel_rfl,by decide⟩
theorem aC6:qQ P0 29 BkT 5 96:=⟨by kernel_rfl,by kernel_rfl,by decide⟩
theorem aC7:qQ P0 84 AtT 3 32:=⟨by kernel_rfl,by kernel_rfl,by decide⟩
theorem BJ:qQ P0 30 iT 1 8:=⟨by kernel_rfl,by kernel_rfl,by decide⟩
theorem Rm:qQ P0 24 StT 1 16:=⟨by kernel_rfl,by kernel_rfl,by decide⟩
theorem Yn:qQ P0 64 TkT 3 32:=⟨by kernel_rfl,by kernel_rfl,by decide⟩
def ints(l:List Nat):List Value:=l.map λn=>i64 (n:Nat)
def strs(l:List Str):List Value:=l.map str
def OB(l:List Atr):List Value:=l.flatMap λa=>[str a.n,i64 (a.e:Nat),i64 a.a]
def toks(l:List Tok):List Value:=l.flatMap λt=>[i64 t.k,str t.t,i64 t.a]
theorem QQ(l:List Nat):(ints l).length=l.length*1:=by simp[ints]
theorem DO(a b:List Nat):ints (a++b)=ints a++ints b:=by simp[ints]
theorem OZ(a b:List Str):strs (a++b)=strs a++strs b:=by simp[strs]
theorem Gf{α:Type}(f:α->List Value)(h:∀a,(f a).length=3):∀l:List α,(l.flatMap f).length=l.length*3
 |[]=>rfl
 |a::l=>by rw[zP,aX,h,Gf f h l,aB];omega
theorem Da(l:List Tok):(toks l).length=l.length*3:=Gf _ (λ_=>rfl) l
theorem Gg{α:Type}(f:α->List Value)(h:∀a,(f a).length=3):∀(l:List α) (i j:Nat) (x:α),l[i]?=some x->j<3->(l.flatMap f)[i*3+j]?=(f x)[j]?
 |[],i,_,_,hi,_=>by simp at hi
 |a::l,0,j,x,hi,hj=>by
  simp only[List.getElem?_cons_zero,bE]at hi
  subst hi
  rw[zP,List.getElem?_append_left (by rw[h];omega),qO,aV]
 |a::l,i+1,j,x,hi,hj=>by
  rw[List.getElem?_cons_succ]at hi
  rw[zP,List.getElem?_append_right (by rw[h];omega),h,show(i+1)*3+j-3=i*3+j by omega]
  exact Gg f h l i j x hi hj
theorem Ih{l:List Tok}{j:Nat}{t:Tok}(h:l[i]?=some t)(hj:j<3):(toks l)[i*3+j]?=[i64 t.k,str t.t,i64 t.a][j]?:=Gg _ (λ_=>rfl) l i j t h hj
def oP{α:Type}(R:α->List Value->Prop)(n:Nat)(xs:List α)(c:List Value):Prop:=c.length=xs.length*n/\∀i x,xs[i]?=some x->R x ((c.drop (i*n)).take n)
theorem oP.nil{α:Type}(R:α->List Value->Prop)(n:Nat):oP R n [] []:=⟨by simp,λi x h=>by simp at h⟩
theorem oP.snoc{α:Type}{R:α->List Value->Prop}{xs:List α}{c d:List Value}{x:α}(h:oP R n xs c)(hd:R x d)(hl:d.length=n):oP R n (xs++[x]) (c++d):=by
 refine⟨by rw[aX,h.1,hl,aX,aB,aM,gB];omega,λi y hy=>?_⟩;by_cases hi:i<xs.length
 ·rw[List.getElem?_append_left hi]at hy;have:=h.2 i y hy;have hm:i*n+n<=xs.length*n:=by rw[<-EA];exact eD _ hi
  rw[BY (by rw[h.1];omega),qE (by rw[aQ,h.1];omega)];exact this
 ·rw[List.getElem?_append_right (by omega)]at hy;have h0:i-xs.length=0:=by
   by_cases h0:i-xs.length=0
   ·exact h0
   ·rw[List.getElem?_eq_none (by simp;omega)]at hy;cases hy
  obtain rfl:i=xs.length:=by omega
  rw[h0]at hy;simp only[List.getElem?_cons_zero,bE]at hy;subst hy;rw[<-h.1,List.drop_left,dZ (by omega)];exact hd
theorem oP.imp{α:Type}{R R':α->List Value->Prop}{xs:List α}{c:List Value}(h:oP R n xs c)(hi:∀x d,(∀v∈d,v∈c)->R x d->R' x d):oP R' n xs c:=
 ⟨h.1,λi x hx=>hi x _ (λv hv=>BX (tH hv)) (h.2 i x hx)⟩
def ub(c:List Value):List Nat:=c.filterMap Value.ownBlock
theorem uI(a b:List Value):ub (a++b)=ub a++ub b:=List.filterMap_append
theorem kP{c:List Value}{k:Nat}(hv:v∈c)(hk:v.ownBlock=some k):k∈ub c:=gN.2 ⟨v,hv,hk⟩
theorem gR{k:Nat}:k∈ub [v]↔v.ownBlock=some k:=by simp[ub]
structure Lay where
 vE:Value
 vB:Value
 vT:Value
 cE:List Value
 cB:List Value
def Lay.uses(M:Lay)(f:Nat):List Nat:=f::ub ([M.vE,M.vB,M.vT]++(M.cE++M.cB))
def ExR(w:World)(B:Nat)(e:Ex)(c:List Value):Prop:=
 ∃va vk,c=[i64 e.k,str e.t,va,vk,i64 e.a]/\Own w B iT 1 va e.args.length (ints e.args)/\Own w B StT 1 vk e.keys.length (strs e.keys)
def BkR(w:World)(B:Nat)(b:Blk)(c:List Value):Prop:=
 ∃vl va vb,c=[str b.typ,vl,va,vb,i64 b.a]/\Own w B StT 1 vl b.labels.length (strs b.labels)/\Own w B AtT 3 va b.attrs.length (OB b.attrs)/\Own w B iT 1 vb b.blocks.length (ints b.blocks)
theorem jE{B:Nat}{e:TypeId}{m:Nat}{xs:List Value}(h:Own w B e m v n xs)(hc:Chg S w w')(hS:∀k,v.ownBlock=some k->¬S k):Own w' B e m v n xs:=by
 obtain⟨hl,hn|⟨g,cap,cur,rfl,hb,hg,r⟩⟩:=h
 ·exact⟨hl,.inl hn⟩
 ·exact⟨hl,.inr ⟨g,cap,cur,rfl,hb,hc.at hg (hS g rfl),r⟩⟩
theorem qU{B:Nat}{e:TypeId}{m:Nat}{xs:List Value}(h:Own w B e m v n xs){k:Nat}(hk:v.ownBlock=some k):k<w.heap.size/\B<=k:=by
 obtain⟨h1,c,h2⟩:=h.block k hk;exact⟨fJ h2,h1⟩
theorem ExR.at_{B:Nat}{e:Ex}{c:List Value}(h:ExR w B e c)(hc:Chg S w w')(hS:∀k∈ub c,¬S k):ExR w' B e c:=by
 obtain⟨va,vk,rfl,h1,h2⟩:=h;exact⟨va,vk,rfl,jE h1 hc λk hk=>hS k (kP (v:=va) (by simp) hk),jE h2 hc λk hk=>hS k (kP (v:=vk) (by simp) hk)⟩
theorem BkR.at_{B:Nat}{e:Blk}{c:List Value}(h:BkR w B e c)(hc:Chg S w w')(hS:∀k∈ub c,¬S k):BkR w' B e c:=by
 obtain⟨vl,va,vb,rfl,h1,h2,h3⟩:=h;exact⟨vl,va,vb,rfl,jE h1 hc λk hk=>hS k (kP (v:=vl) (by simp) hk),jE h2 hc λk hk=>hS k (kP (v:=va) (by simp) hk),jE h3 hc λk hk=>hS k (kP (v:=vb) (by simp) hk)⟩
theorem OM{c d:List Value}(h:∀v∈d,v∈c):∀k∈ub d,k∈ub c:=by
 intro k hk;obtain⟨v,hv,hk⟩:=gN.1 hk;exact kP (h v hv) hk
structure FR(w:World)(B f:Nat)(M:Lay)(ex:List Ex)(bl:List Blk)(top:List Nat):Prop where
 hf:w.heap[f]?=some (.cells [M.vE,M.vB,M.vT].toArray FlT (0,0))
 oE:Own w B ExT 5 M.vE ex.length M.cE
 oB:Own w B BkT 5 M.vB bl.length M.cB
 oT:Own w B iT 1 M.vT top.length (ints top)
 ee:oP (ExR w B) 5 ex M.cE
 bb:oP (BkR w B) 5 bl M.cB
 nd:(M.uses f).Nodup
 lt:∀k∈M.uses f,k<w.heap.size
 lo:∀k∈M.uses f,k=f\/B<=k
theorem FR.keep{B f:Nat}{M:Lay}{ex:List Ex}{bl:List Blk}{top:List Nat}(h:FR w B f M ex bl top)(hc:Chg S w w')(hS:∀k∈M.uses f,¬S k):FR w' B f M ex bl top:=by
 have hu:∀v∈[M.vE,M.vB,M.vT]++(M.cE++M.cB),∀k,v.ownBlock=some k->¬S k:=λv hv k hk=>hS k (aU _ (kP hv hk));refine⟨hc.at h.hf (hS f bD),jE h.oE hc (hu _ (by simp)),jE h.oB hc (hu _ (by simp)),jE h.oT hc (hu _ (by simp)),?_,?_,h.nd,λk hk=>cO (h.lt k hk) hc.size,h.lo⟩
 ·refine h.ee.imp λx d hd hx=>hx.at_ hc λk hk=>?_;exact hS k (aU _ (OM (λv hv=>by simp[hd v hv]) k hk))
 ·refine h.bb.imp λx d hd hx=>hx.at_ hc λk hk=>?_;exact hS k (aU _ (OM (λv hv=>by simp[hd v hv]) k hk))
abbrev Of(f:Nat):Nat->Prop:=λk=>k=f
abbrev One(b:Nat):Nat->Prop:=λk=>k=b
structure PR(w0 w:World)(p f:Nat)(M:Lay)(vt:Value)(s:PS)(top:List Nat):Prop where
 ch:Chg (Of f) w0 w
 fr:FR w w0.heap.size f M s.ex s.bl top
 ps:w.heap[p]?=some (.cells [vt,i64 (s.i:Nat),i64 s.off,.pointer (some ⟨f,0,none⟩),i64 (s.deep:Nat),.bool s.quiet].toArray PsT (0,0))
 tk:SlAt w TkT vt s.toks.length (toks s.toks)
 np:p∉M.uses f
 lo:w0.heap.size<=p
 nt:∀k,vt.ownBlock=some k->k∉M.uses f/\k≠p/\k<w.heap.size
section
variable{w0 w w' w1 w2:World}{p f b k:Nat}{M M' M1 M2:Lay}{vt:Value}{s:PS}{top:List Nat}
theorem PR.lt(h:PR w0 w p f M vt s top):p<w.heap.size:=fJ h.ps
theorem PR.base(h:PR w0 w p f M vt s top):w0.heap.size<=w.heap.size:=h.ch.size
def Tn(p f:Nat)(M:Lay)(k:Nat):Prop:=k=p\/k=f\/M.vE.ownBlock=some k\/M.vB.ownBlock=some k
structure Eff(p f:Nat)(M M':Lay)(w w':World):Prop where
 chg:Chg (Tn p f M) w w'
 us:∀k∈M'.uses f,k∈M.uses f\/w.heap.size<=k
 hE:∀k,M'.vE.ownBlock=some k->M.vE.ownBlock=some k\/w.heap.size<=k
 hB:∀k,M'.vB.ownBlock=some k->M.vB.ownBlock=some k\/w.heap.size<=k
 hT:M'.vT=M.vT
theorem Eff.of(h:Chg (Tn p f M) w w'):Eff p f M M w w':=⟨h,λ_ h=>.inl h,λ_ h=>.inl h,λ_ h=>.inl h,rfl⟩
theorem Eff.refl(p f:Nat)(M:Lay)(w:World):Eff p f M M w w:=Eff.of (Chg.refl _ _)
theorem Eff.ext(h:Ext w w'):Eff p f M M w w':=Eff.of (Chg.of_ext h)
theorem Eff.trans(h:Eff p f M M1 w w1)(h':Eff p f M1 M2 w1 w2):Eff p f M M2 w w2:=by
 have hz:=h.chg.size;refine⟨h.chg.then h'.chg λk hk e=>?_,λk hk=>?_,λk hk=>?_,λk hk=>?_,h'.hT.trans h.hT⟩
 ·rcases e with e|e|e|e
  ·exact .inl e
  ·exact .inr (.inl e)
  ·exact .inr (.inr (.inl ((h.hE k e).resolve_right (by omega))))
  ·exact .inr (.inr (.inr ((h.hB k e).resolve_right (by omega))))
 ·exact(h'.us k hk).elim (h.us k) λe=>.inr (by omega)
 ·exact(h'.hE k hk).elim (h.hE k) λe=>.inr (by omega)
 ·exact(h'.hB k hk).elim (h.hB k) λe=>.inr (by omega)
theorem Eff.then(h:Eff p f M M1 w w1)(hc:Chg S w1 w2)(hS:∀k,k<w.heap.size->¬S k):Eff p f M M1 w w2:=⟨h.chg.then hc λk hk e=>(hS k hk e).elim,h.us,h.hE,h.hB,h.hT⟩
theorem Eff.x(h:Eff p f M M1 w w1)(hc:Ext w1 w2):Eff p f M M1 w w2:=h.then hc λ_ _ e=>e
theorem Eff.one(h:Eff p f M M1 w w1)(hc:Chg (One b) w1 w2)(hb:w.heap.size<=b):Eff p f M M1 w w2:=h.then hc λk hk e=>by have e:k=b:=e;omega
theorem Eff.anew{q:Nat}(hx:Ext w0 w)(h:Eff q f M M' w w')(hq:w0.heap.size<=q):Eff p f M M' w0 w':=by
 have hz:=hx.size;refine⟨(Chg.of_ext hx).then h.chg λk hk e=>?_,λk hk=>(h.us k hk).imp id (by omega),λk hk=>(h.hE k hk).imp id (by omega),λk hk=>(h.hB k hk).imp id (by omega),h.hT⟩;rcases e with e|e|e|e
 ·omega
 ·exact .inr (.inl e)
 ·exact .inr (.inr (.inl e))
 ·exact .inr (.inr (.inr e))
theorem KA(h:Tn p f M k):k=p\/k∈M.uses f:=by
 rcases h with h|h|h|h
 ·exact .inl h
 ·exact .inr (by subst h;exact bD)
 ·exact .inr (aU _ (kP (v:=M.vE) (by simp) h))
 ·exact .inr (aU _ (kP (v:=M.vB) (by simp) h))
def Off(w0 w:World)(p f:Nat)(M:Lay)(vt:Value)(k:Nat):Prop:=(w0.heap.size<=k/\k<w.heap.size)/\k≠p/\k∉M.uses f/\vt.ownBlock≠some k
theorem Off.no(h:Off w0 w p f M vt k):¬Tn p f M k:=λe=>(KA e).elim h.2.1 h.2.2.1
theorem Off.eff(h:Off w0 w p f M vt k)(he:Eff p f M M' w w'):Off w0 w' p f M' vt k:=
 ⟨⟨h.1.1,cO h.1.2 he.chg.size⟩,h.2.1,λe=>(he.us k e).elim h.2.2.1 λe=>by have:=h.1.2;omega,h.2.2.2⟩
theorem Off.up(h:Off w0 w p f M vt k)(hz:w.heap.size<=w'.heap.size):Off w0 w' p f M vt k:=⟨⟨h.1.1,cO h.1.2 hz⟩,h.2⟩
theorem PR.off_new(h:PR w0 w p f M vt s top)(hk:w.heap.size<=k)(hk':k<w'.heap.size):Off w0 w' p f M vt k:=
 ⟨⟨cI h.base hk,hk'⟩,λe=>by have:=h.lt;omega,λe=>by have:=h.fr.lt k e;omega,λe=>by have:=(h.nt k e).2.2;omega⟩
theorem Eff.at_{o:Obj}(he:Eff p f M M' w w')(hk:w.heap[k]?=some o)(h:Off w0 w p f M vt k):w'.heap[k]?=some o:=he.chg.at hk h.no
theorem Eff.own{B:Nat}{e:TypeId}{m:Nat}{xs:List Value}(he:Eff p f M M' w w')(h:Own w B e m v n xs)(ho:∀k,v.ownBlock=some k->Off w0 w p f M vt k):Own w' B e m v n xs:=jE h he.chg λk hk=>(ho k hk).no
theorem PR.keep(h:PR w0 w p f M vt s top)(hc:Chg S w w')(hb:∀k,k<w0.heap.size->¬S k)(hS:∀k∈M.uses f,¬S k)(hp:¬S p)(ht:∀k,vt.ownBlock=some k->¬S k):PR w0 w' p f M vt s top:=by
 refine⟨h.ch.then hc λk hk e=>(hb k hk e).elim,h.fr.keep hc hS,hc.at h.ps hp,?_,h.np,h.lo,λk hk=>⟨(h.nt k hk).1,(h.nt k hk).2.1,cO (h.nt k hk).2.2 hc.size⟩⟩;obtain⟨q,cap,hv,h1,h2,h3⟩:=h.tk;refine⟨q,cap,hv,h1,h2,λhne=>?_⟩;obtain⟨b,off,c,fr,hq,hb,hcs⟩:=h3 hne;exact⟨b,off,c,fr,hq,hc.at hb (ht b (by rw[hv,hq];rfl)),hcs⟩
theorem PR.ext(h:PR w0 w p f M vt s top)(hc:Ext w w'):PR w0 w' p f M vt s top:=h.keep hc (λ_ _ e=>e) (λ_ _ e=>e) (λe=>e) λ_ _ e=>e
theorem dB(w:World):Ext w w.drew:=Chg.drew (Chg.refl _ _)
theorem PR.drew(h:PR w0 w p f M vt s top):PR w0 w.drew p f M vt s top:=h.ext (dB w)
theorem PR.one{w3:World}(h:PR w0 w p f M vt s top)(hc:Chg (One b) w w')(ho:Off w0 w3 p f M vt b):PR w0 w' p f M vt s top:=
 h.keep hc (λk hk e=>by have e:k=b:=e;have:=ho.1.1;omega) (λk hk e=>ho.2.2.1 (by have e:k=b:=e;exact e▸hk)) (λe=>ho.2.1 e.symm) λk hk e=>ho.2.2.2 (by have e:k=b:=e;rw[hk,e])
theorem PR.ld{off:Nat}{K:Value->Prop}(h:PR w0 w p f M vt s top)(hv:[vt,i64 (s.i:Nat),i64 s.off,.pointer (some ⟨f,0,none⟩),i64 (s.deep:Nat),.bool s.quiet][off]?=some v)(hk:K v):
  dU (.pointer (some ⟨p,0,none⟩)) λt=>aZ off t λt=>ldW false 1 t w K:=by
 rw[dW,bR,dX];refine⟨v,?_,hk⟩;rw[bZ,cD,h.ps,cH,aV];simpa using hv
theorem PR.self{s':PS}(h:PR w0 w p f M vt s top)(hc:Chg (One p) w w')(hb:w'.heap[p]?=some (.cells [vt,i64 (s'.i:Nat),i64 s'.off,.pointer (some ⟨f,0,none⟩),i64 (s'.deep:Nat),.bool s'.quiet].toArray PsT (0,0)))
  (h1:s'.toks=s.toks)(h2:s'.ex=s.ex)(h3:s'.bl=s.bl):PR w0 w' p f M vt s' top:=by
 refine⟨h.ch.then hc λk hk e=>(by have e:k=p:=e;have:=h.lo;omega),by rw[h2,h3];exact h.fr.keep hc λk hk e=>h.np (by have e:k=p:=e;exact e▸hk),hb,?_,h.np,h.lo,λk hk=>⟨(h.nt k hk).1,(h.nt k hk).2.1,cO (h.nt k hk).2.2 hc.size⟩⟩;rw[h1];obtain⟨q,cap,hv,g1,g2,g3⟩:=h.tk;refine⟨q,cap,hv,g1,g2,λhne=>?_⟩;obtain⟨b,off,c,fr,hq,hb,hcs⟩:=g3 hne;exact⟨b,off,c,fr,hq,hc.at hb ((h.nt b (by rw[hv,hq];rfl)).2.1),hcs⟩
theorem Ek(hc:Chg (One p) w w'):Eff p f M M w w':=Eff.of (hc.mono λk _ e=>.inl e)
theorem PR.st_i{K:World->Prop}(h:PR w0 w p f M vt s top)(hK:∀w',PR w0 w' p f M vt {s with i:=i} top->Eff p f M M w w'->w'.heap.size=w.heap.size->K w'):
  dU (.pointer (some ⟨p,0,none⟩)) λt=>aZ 1 t λt=>stW 1 t (i64 (i:Nat)) w K:=by
 rw[dW,bR,bZ,aV];refine iU h.ps rfl (by simp) λw' hz hb hc=>hK w' (h.self hc (by rw[hb];simp) rfl rfl rfl) (Ek hc) hz
theorem PR.st_deep{K:World->Prop}(h:PR w0 w p f M vt s top)(hK:∀w',PR w0 w' p f M vt {s with deep:=i} top->Eff p f M M w w'->w'.heap.size=w.heap.size->K w'):
  dU (.pointer (some ⟨p,0,none⟩)) λt=>aZ 4 t λt=>stW 1 t (i64 (i:Nat)) w K:=by
 rw[dW,bR,bZ,aV];refine iU h.ps rfl (by simp) λw' hz hb hc=>hK w' (h.self hc (by rw[hb];simp) rfl rfl rfl) (Ek hc) hz
theorem PR.st_quiet{q:Bool}{K:World->Prop}(h:PR w0 w p f M vt s top)(hK:∀w',PR w0 w' p f M vt {s with quiet:=q} top->Eff p f M M w w'->w'.heap.size=w.heap.size->K w'):
  dU (.pointer (some ⟨p,0,none⟩)) λt=>aZ 5 t λt=>stW 1 t (.bool q) w K:=by
 rw[dW,bR,bZ,aV];refine iU h.ps rfl (by simp) λw' hz hb hc=>hK w' (h.self hc (by rw[hb];simp) rfl rfl rfl) (Ek hc) hz
theorem PR.go{K:World->Prop}(h:PR w0 w p f M vt s top)(hi:s.i<=1000000)(hK:∀w',PR w0 w' p f M vt (step1 s) top->Eff p f M M w w'->w'.heap.size=w.heap.size->K w'):
  dU (.pointer (some ⟨p,0,none⟩)) λt=>aZ 1 t λt=>ldW false 1 t w λt=>aP .add t (.int .i64 1) λt1=>dU (.pointer (some ⟨p,0,none⟩)) λt=>aZ 1 t λt=>stW 1 t t1 w K:=by
 refine h.ld rfl ?_;rw[cC,cN (by omega) (by omega)];exact h.st_i (i:=s.i+1) hK
def Loc(w0 w:World)(p f:Nat)(M:Lay)(vt:Value)(b:Nat)(T:TypeId)(cs:List Value):Prop:=w.heap[b]?=some (.cells cs.toArray T (0,0))/\Off w0 w p f M vt b
variable{T:TypeId}{cs:List Value}
theorem Loc.eff(h:Loc w0 w p f M vt b T cs)(he:Eff p f M M' w w'):Loc w0 w' p f M' vt b T cs:=⟨he.at_ h.1 h.2,h.2.eff he⟩
theorem Loc.ext(h:Loc w0 w p f M vt b T cs)(hx:Ext w w'):Loc w0 w' p f M vt b T cs:=h.eff (Eff.ext hx)
theorem Loc.drew(h:Loc w0 w p f M vt b T cs):Loc w0 w.drew p f M vt b T cs:=h.ext (dB w)
theorem Loc.one{b':Nat}(h:Loc w0 w p f M vt b T cs)(hc:Chg (One b') w w')(hb:b≠b'):Loc w0 w' p f M vt b T cs:=⟨hc.at h.1 hb,h.2.up hc.size⟩
theorem Loc.lt(h:Loc w0 w p f M vt b T cs):b<w.heap.size:=h.2.1.2
theorem Loc.ld{off:Nat}{K:Value->Prop}(h:Loc w0 w p f M vt b T cs)(hv:cs[off]?=some v)(hk:K v):ldW false 1 (.pointer (some ⟨b,off,none⟩)) w K:=by
 rw[dX];refine⟨v,?_,hk⟩;rw[cD,h.1,cH];simpa using hv
theorem Loc.ldf{off:Nat}{K:Value->Prop}(h:Loc w0 w p f M vt b T cs)(hv:cs[off]?=some v)(hk:K v):aZ off (.pointer (some ⟨b,0,none⟩)) λt=>ldW false 1 t w K:=by
 rw[bR,bZ,aV];exact h.ld hv hk
theorem Loc.st{off:Nat}{K:World->Prop}(h:Loc w0 w p f M vt b T cs)(h1:fG v=true)(hoff:off<cs.length)
  (hK:∀w',Loc w0 w' p f M vt b T (cs.set off v)->Chg (One b) w w'->w'.heap.size=w.heap.size->K w'):stW 1 (.pointer (some ⟨b,off,none⟩)) v w K:=
 iU h.1 h1 (by simpa using hoff) λw' hz hb hc=>hK w' ⟨by rw[hb];simp,h.2.up (by omega)⟩ hc hz
theorem PR.loc(h:PR w0 w p f M vt s top)(hz:w'.heap.size=w.heap.size+1){b:Nat}(hb:b=w.heap.size)(hc:w'.heap[b]?=some (.cells cs.toArray T (0,0))):Loc w0 w' p f M vt b T cs:=⟨hc,h.off_new (by omega) (by omega)⟩
end
end
end Go.Proofs.YtghhmpppnmoeoaaGreatDoor
namespace Go.Syn
section
open Go Go.Eng Go.Lex
variable{w:World}{K:Q0}{cs:List Value}{G:Nat->Prop}{T:TypeId}{i:Nat}{n:Nat}{v:Value}{w':World}{P:Program}{c:UInt8}{S:Nat->Prop}
theorem kN{s:Str}(k:Nat)(h:s.length<=n):(s.drop k).length<=n:=by rw[aQ];omega
theorem MD:∀(N:Nat) (r:Str),r.length<=N->(∀m m' c,r.length<m->r.length<m'->Bb m r c=Bb m' r c)/\(∀m m',r.length<m->r.length<m'->AI m r=AI m' r):=by
 intro N;induction N with
 |zero=>
  intro r hr;have:r=[]:=bG (by omega);subst this;refine⟨λm m' c h h'=>?_,λm m' h h'=>?_⟩
  ·obtain⟨m,rfl⟩:∃k,m=k+1:=⟨m-1,by simp at h;omega⟩;obtain⟨m',rfl⟩:∃k,m'=k+1:=⟨m'-1,by simp at h';omega⟩;rfl
  ·obtain⟨m,rfl⟩:∃k,m=k+1:=⟨m-1,by simp at h;omega⟩;obtain⟨m',rfl⟩:∃k,m'=k+1:=⟨m'-1,by simp at h';omega⟩;rfl
 |succ N ih=>
  intro r hr;cases r with
  |nil=>exact⟨λm m' c h h'=>(ih [] (by simp)).1 m m' c h h',λm m' h h'=>(ih [] (by simp)).2 m m' h h'⟩
  |cons c r=>
   simp only[aB]at hr;have hr:r.length<=N:=by omega
   refine⟨λm m' d h h'=>?_,λm m' h h'=>?_⟩
   ·obtain⟨m,rfl⟩:∃k,m=k+1:=⟨m-1,by simp at h;omega⟩;obtain⟨m',rfl⟩:∃k,m'=k+1:=⟨m'-1,by simp at h';omega⟩;simp only[aB]at h h';have hb:=λd=>(ih r hr).1 m m' d (by omega) (by omega);have hq:=(ih r hr).2 m m' (by omega) (by omega);have hd:=λk d=>(ih (r.drop k) (kN k hr)).1 m m' d (by rw[aQ];omega) (by rw[aQ];omega);simp only[Bb,hb,hq,hd]
   ·obtain⟨m,rfl⟩:∃k,m=k+1:=⟨m-1,by simp at h;omega⟩;obtain⟨m',rfl⟩:∃k,m'=k+1:=⟨m'-1,by simp at h';omega⟩;simp only[aB]at h h';have hb:=λd=>(ih r hr).1 m m' d (by omega) (by omega);have hq:=(ih r hr).2 m m' (by omega) (by omega);have hd:=λk=>(ih (r.drop k) (kN k hr)).2 m m' (by rw[aQ];omega) (by rw[aQ];omega);cases r with
    |nil=>simp only[AI,hb,hq,hd]
    |cons e r'=>
     have h2:=(ih r' (by simp at hr;omega)).2 m m' (by simp at h;omega) (by simp at h';omega);simp only[AI,hb,hd,hq,h2]
def qC(r:Str)(c:Int):Nat:=Bb (r.length+1) r c
def sJ(r:Str):Nat:=AI (r.length+1) r
theorem Es{m:Nat}{r:Str}{c:Int}(h:r.length<m):Bb m r c=qC r c:=(MD r.length r (aS _)).1 _ _ _ h (eA _)
theorem GW{m:Nat}{r:Str}(h:r.length<m):AI m r=sJ r:=(MD r.length r (aS _)).2 _ _ h (eA _)
theorem wQ{r:Str}(k:Nat){m:Nat}(h:r.length<m):(r.drop k).length<m:=by rw[aQ];omega
theorem RE(c:Int):qC [] c=0:=rfl
theorem oO(c:UInt8)(r:Str)(d:Int):qC (c::r) d=if c=123 then 1+qC r (d+1)else if c=125 then(if d-1=0 then 1 else 1+qC r (d-1))else if c=34 then(1+sJ r)+qC (r.drop (sJ r)) d else 1+qC r d:=by
 have h:r.length<(c::r).length:=by simp
 show Bb ((c::r).length+1) (c::r) d=_;rw[Bb,GW h];rw[Es h,Es h,Es h,Es (wQ _ h)]
theorem PC:sJ []=0:=rfl
theorem Bq(c:UInt8)(r:Str):sJ (c::r)=if c=34 then 1 else if c=92 then(match r with|[]=>1|_::r'=>2+sJ r')else if pH [36,123] (c::r)=true then(1+qC r 0)+sJ (r.drop (qC r 0))else 1+sJ r:=by
 cases r with
 |nil=>rfl
 |cons e r'=>
  have h:(e::r').length<(c::e::r').length:=by simp
  have h2:r'.length<(c::e::r').length:=by simp;omega
  have hd:∀k,AI (c::e::r').length ((e::r').drop k)=sJ ((e::r').drop k):=λk=>GW (wQ k h);show AI ((c::e::r').length+1) (c::e::r')=_;rw[AI.eq_def];simp only[GW h,Es h,GW h2,hd]
theorem MC:∀(N:Nat) (r:Str),r.length<=N->(∀m m' d,r.length<m->r.length<m'->oI m r d=oI m' r d)/\(∀m m' d,r.length<m->r.length<m'->AT m r d=AT m' r d):=by
 intro N;induction N with
 |zero=>
  intro r hr;have:r=[]:=bG (by omega);subst this;refine⟨λm m' d h h'=>?_,λm m' d h h'=>?_⟩
  ·obtain⟨m,rfl⟩:∃k,m=k+1:=⟨m-1,by simp at h;omega⟩;obtain⟨m',rfl⟩:∃k,m'=k+1:=⟨m'-1,by simp at h';omega⟩;rfl
  ·obtain⟨m,rfl⟩:∃k,m=k+1:=⟨m-1,by simp at h;omega⟩;obtain⟨m',rfl⟩:∃k,m'=k+1:=⟨m'-1,by simp at h';omega⟩;rfl
 |succ N ih=>
  intro r hr;cases r with
  |nil=>exact⟨λm m' d h h'=>(ih [] (by simp)).1 m m' d h h',λm m' d h h'=>(ih [] (by simp)).2 m m' d h h'⟩
  |cons c r=>
   simp only[aB]at hr;have hr:r.length<=N:=by omega
   refine⟨λm m' d h h'=>?_,λm m' d h h'=>?_⟩
   ·obtain⟨m,rfl⟩:∃k,m=k+1:=⟨m-1,by simp at h;omega⟩;obtain⟨m',rfl⟩:∃k,m'=k+1:=⟨m'-1,by simp at h';omega⟩;simp only[aB]at h h';have ht:=λd=>(ih r hr).1 m m' d (by omega) (by omega);have hi:=λk d=>(ih (r.drop k) (kN k hr)).2 m m' d (by rw[aQ];omega) (by rw[aQ];omega);have hd:=λk j d=>(ih ((r.drop k).drop j) (kN j (kN k hr))).1 m m' d (by rw[aQ,aQ];omega) (by rw[aQ,aQ];omega);cases r with
    |nil=>simp only[oI,ht,hi,hd]
    |cons e r'=>
     have h2:=λd=>(ih r' (by simp at hr;omega)).1 m m' d (by simp at h;omega) (by simp at h';omega);simp only[oI,ht,hi,hd,h2]
   ·obtain⟨m,rfl⟩:∃k,m=k+1:=⟨m-1,by simp at h;omega⟩;obtain⟨m',rfl⟩:∃k,m'=k+1:=⟨m'-1,by simp at h';omega⟩;simp only[aB]at h h';have ht:=λd=>(ih r hr).1 m m' d (by omega) (by omega);have hi:=λd=>(ih r hr).2 m m' d (by omega) (by omega);have hd:=λk d=>(ih (r.drop k) (kN k hr)).2 m m' d (by rw[aQ];omega) (by rw[aQ];omega);simp only[AT,ht,hi,hd]
def gG(r:Str)(d:Nat):Nat×Int:=oI (r.length+1) r d
def jW(r:Str)(d:Nat):Nat×Int:=AT (r.length+1) r d
theorem tN{m:Nat}{r:Str}{d:Nat}(h:r.length<m):oI m r d=gG r d:=(MC r.length r (aS _)).1 _ _ _ h (eA _)
theorem Lq{m:Nat}{r:Str}{d:Nat}(h:r.length<m):AT m r d=jW r d:=(MC r.length r (aS _)).2 _ _ _ h (eA _)
theorem pO(d:Nat):gG [] d=(0,40):=rfl
theorem DU(d:Nat):jW [] d=(0,40):=rfl
theorem pP(c:UInt8)(r:Str)(d:Nat):gG (c::r) d=if c==34 then(1,0)else if c==10 then(0,40)else if c==92 then(match r with|[]=>(0,40)|e::r'=>if Lex.escOk e then mS 2 (gG r' d)else(0,40))
  else if pH [36,123] (c::r)then(if 24<d+1 then(0,7)else if(jW (r.drop 1) (d+1)).2=0 then mS ((jW (r.drop 1) (d+1)).1+2) (gG ((r.drop 1).drop (jW (r.drop 1) (d+1)).1) d)else(0,(jW (r.drop 1) (d+1)).2))else mS 1 (gG r d):=by
 cases r with
 |nil=>rfl
 |cons e r'=>
  have h:(e::r').length<(c::e::r').length:=by simp
  have h2:r'.length<(c::e::r').length:=by simp;omega
  have hi:∀k d,AT (c::e::r').length ((e::r').drop k) d=jW ((e::r').drop k) d:=λk d=>Lq (wQ k h);have hd:∀k j d,oI (c::e::r').length (((e::r').drop k).drop j) d=gG (((e::r').drop k).drop j) d:=λk j d=>tN (wQ j (wQ k h));show oI ((c::e::r').length+1) (c::e::r') d=_;rw[oI.eq_def];simp only[tN h,tN h2,hi,hd]
theorem BD(c:UInt8)(r:Str)(d:Nat):jW (c::r) d=if c==125 then(1,0)else if c==10 then(0,40)else if c==123 then(if 24<d+1 then(0,7)else if(jW r (d+1)).2=0 then mS ((jW r (d+1)).1+1) (jW (r.drop (jW r (d+1)).1) d)else(0,(jW r (d+1)).2))
  else if c==34 then(if(gG r d).2=0 then mS ((gG r d).1+1) (jW (r.drop (gG r d).1) d)else(0,(gG r d).2))else mS 1 (jW r d):=by
 have h:r.length<(c::r).length:=by simp
 have hd:∀k d,AT (c::r).length (r.drop k) d=jW (r.drop k) d:=λk d=>Lq (wQ k h);show AT ((c::r).length+1) (c::r) d=_;rw[AT.eq_def];simp only[Lq h,tN h,hd]
theorem lY{k:Nat}{r:Nat×Int}(h:mS k r=(n,0)):r=(n-k,0)/\k<=n:=by
 obtain⟨a,b⟩:=r;unfold mS at h;split at h
 ·rename_i e;simp only at e;subst e;injection h with h1 _
  subst h1;exact⟨by simp,by omega⟩
 ·rename_i e;injection h with _ h2
  exact absurd h2 e
theorem jC:∀(N:Nat) (r:Str),r.length<=N->
  (∀d k,gG r d=(k,0)->sJ r=k/\1<=k/\k<=r.length)/\
  (∀d k,jW r d=(k,0)->(1<=k/\k<=r.length)/\∀c:Int,1<=c->qC r c=if c=1 then k else k+qC (r.drop k) (c-1)):=by
 intro N;induction N with
 |zero=>
  intro r hr;have:r=[]:=bG (by omega);subst this;refine⟨λd k h=>?_,λd k h=>?_⟩
  ·rw[pO]at h;cases h
  ·rw[DU]at h;cases h
 |succ N ih=>
  intro r hr;cases r with
  |nil=>exact ih [] (by simp)
  |cons c r=>
   simp only[aB]at hr;have hr:r.length<=N:=by omega
   refine⟨λd k h=>?_,λd k h=>?_⟩
   ·rw[pP]at h;rw[Bq];simp only[fO]at h;split at h
    ·rename_i e;rw[aJ e];injection h with h1 _
     subst h1;simp
    rename_i e;rw[aE e];split at h
    ·cases h
    split at h
    ·rename_i e2;rw[aJ e2];cases r with
     |nil=>cases h
     |cons x r'=>
      simp only at h⊢;split at h
      ·obtain⟨h1,h2⟩:=lY h;obtain⟨q1,q2,q3⟩:=(ih r' (by simp at hr;omega)).1 d _ h1;simp only[aB];omega
      ·cases h
    rename_i e2;rw[aE e2];split at h
    ·rename_i e3;rw[aJ e3];split at h
     ·cases h
     split at h
     ·rename_i e4;obtain⟨h1,h2⟩:=lY h;cases r with
      |nil=>simp[pH]at e3
      |cons x r'=>
       have hx:x=123:=by
        simp[pH]at e3;exact e3.2.symm
       subst hx;simp only[cQ,cV]at h1 h2 e4;have hr':r'.length<=N:=by simp at hr;omega
       obtain⟨⟨b1,b2⟩,b3⟩:=(ih r' hr').2 (d+1) (jW r' (d+1)).1 (fU rfl e4);have hb:=b3 1 (by omega);rw[aJ rfl]at hb;have hbx:qC (123::r') 0=1+(jW r' (d+1)).1:=by
        rw[oO,aJ rfl];show 1+qC r' (0+1)=_;rw[show(0:Int)+1=1 from rfl,hb]
       rw[hbx];have hdr:(123::r').drop (1+(jW r' (d+1)).1)=r'.drop (jW r' (d+1)).1:=by rw[uQ];rfl
       rw[hdr];obtain⟨q1,q2,q3⟩:=(ih (r'.drop (jW r' (d+1)).1) (kN _ hr')).1 d _ h1;rw[aQ]at q3;simp only[aB];omega
     ·rename_i e4;injection h with _ h2
      exact absurd h2 e4
    ·rename_i e3;rw[aE e3];obtain⟨h1,h2⟩:=lY h;obtain⟨q1,q2,q3⟩:=(ih r hr).1 d _ h1;simp only[aB];omega
   ·rw[BD]at h;simp only[fO]at h;split at h
    ·rename_i e;injection h with h1 _
     subst h1;refine⟨by simp,λcc hc=>?_⟩;rw[oO,aE (by rw[e];decide),aJ e];by_cases h1:cc=1
     ·subst h1;simp
     ·rw[aE (by omega),aE h1];rfl
    rename_i e;split at h
    ·cases h
    rename_i e10;split at h
    ·rename_i e2;split at h
     ·cases h
     split at h
     ·rename_i e4;obtain⟨h1,h2⟩:=lY h;obtain⟨⟨b1,b2⟩,b3⟩:=(ih r hr).2 (d+1) (jW r (d+1)).1 (fU rfl e4);obtain⟨⟨f1,f2⟩,f3⟩:=(ih (r.drop (jW r (d+1)).1) (kN _ hr)).2 d _ h1;rw[aQ]at f2;refine⟨by simp only[aB];omega,λcc hc=>?_⟩;rw[oO,aJ e2,b3 (cc+1) (by omega),aE (by omega),show cc+1-1=cc from by omega,f3 cc hc];by_cases h1':cc=1
      ·rw[aJ h1',aJ h1'];omega
      ·rw[aE h1',aE h1',gT];have:(c::r).drop k=r.drop (k-1):=by
        obtain⟨j,rfl⟩:∃j,k=j+1:=⟨k-1,by omega⟩;rfl
       rw[this,show(jW r (d+1)).1+(k-((jW r (d+1)).1+1))=k-1 from by omega];omega
     ·rename_i e4;injection h with _ h2
      exact absurd h2 e4
    rename_i e2;split at h
    ·rename_i e3;split at h
     ·rename_i e4;obtain⟨h1,h2⟩:=lY h;obtain⟨q1,q2,q3⟩:=(ih r hr).1 d (gG r d).1 (fU rfl e4);obtain⟨⟨f1,f2⟩,f3⟩:=(ih (r.drop (gG r d).1) (kN _ hr)).2 d _ h1;rw[aQ]at f2;refine⟨by simp only[aB];omega,λcc hc=>?_⟩;rw[oO,aE e2,aE e,aJ e3,q1,f3 cc hc];by_cases h1':cc=1
      ·rw[aJ h1',aJ h1'];omega
      ·rw[aE h1',aE h1',gT];have:(c::r).drop k=r.drop (k-1):=by
        obtain⟨j,rfl⟩:∃j,k=j+1:=⟨k-1,by omega⟩;rfl
       rw[this,show(gG r d).1+(k-((gG r d).1+1))=k-1 from by omega];omega
     ·rename_i e4;injection h with _ h2
      exact absurd h2 e4
    ·rename_i e3;obtain⟨h1,h2⟩:=lY h;obtain⟨⟨f1,f2⟩,f3⟩:=(ih r hr).2 d _ h1;refine⟨by simp only[aB];omega,λcc hc=>?_⟩;rw[oO,aE e2,aE e,aE e3,f3 cc hc];by_cases h1':cc=1
     ·rw[aJ h1',aJ h1'];omega
     ·rw[aE h1',aE h1'];have:(c::r).drop k=r.drop (k-1):=by
       obtain⟨j,rfl⟩:∃j,k=j+1:=⟨k-1,by omega⟩;rfl
      rw[this];omega
structure cS(L:List (List Nat))(roots:List Nat):Prop where
 ahead:∀(i:Nat) (us:List Nat),L[i]?=some us->∀a∈us,a<i
 once:∀j,j<L.length->L.flatten.count j+roots.count j=1
 low:∀r∈roots,r<L.length
theorem cS.perm{L:List (List Nat)}{r r':List Nat}(h:cS L r)(hp:r.Perm r'):cS L r':=
 ⟨h.ahead,λj hj=>by rw[<-hp.count_eq];exact h.once j hj,λx hx=>h.low x (hp.mem_iff.2 hx)⟩
theorem cS.flat_lt{L:List (List Nat)}{r:List Nat}(h:cS L r):∀x∈L.flatten,x<L.length:=by
 intro x hx;obtain⟨us,has,hxa⟩:=List.mem_flatten.1 hx;obtain⟨i,hi⟩:=List.getElem?_of_mem has;have h1:=h.ahead i us hi x hxa;have h2:=(List.getElem?_eq_some_iff.1 hi).1;omega
theorem cS.put{L:List (List Nat)}{us roots:List Nat}(h:cS L (us++roots)):cS (L++[us]) (L.length::roots):=by
 refine⟨λi bs hi=>?_,λj hj=>?_,λr hr=>?_⟩
 ·by_cases hl:i<L.length
  ·rw[List.getElem?_append_left hl]at hi;exact h.ahead i bs hi
  ·rw[List.getElem?_append_right (by omega)]at hi;have:i-L.length=0:=by
    by_cases h0:i-L.length=0
    ·exact h0
    ·rw[List.getElem?_eq_none (by simp;omega)]at hi;cases hi
   rw[this]at hi;simp only[List.getElem?_cons_zero,bE]at hi;subst hi;intro a ha;have:=h.low a (eP _ ha);omega
 ·rw[List.flatten_append,lI];simp only[List.flatten_cons,List.flatten_nil,dV,CC];by_cases hl:j<L.length
  ·have h1:=h.once j hl;rw[lI]at h1;have:(L.length==j)=false:=by simp;omega
   rw[this];simp only[fH,kH];omega
  ·have hj2:j=L.length:=by rw[aX,aB,aM]at hj;omega
   subst hj2;have e1:L.flatten.count L.length=0:=List.count_eq_zero.2 λhm=>by have:=h.flat_lt _ hm;omega
   have e2:us.count L.length=0:=List.count_eq_zero.2 λhm=>by have:=h.low _ (eP _ hm);omega
   have e3:roots.count L.length=0:=List.count_eq_zero.2 λhm=>by have:=h.low _ (cW _ hm);omega
   rw[e1,e2,e3];simp
 ·rw[aX,aB,aM];rcases bQ.1 hr with rfl|hr
  ·omega
  ·have:=h.low r (cW _ hr);omega
abbrev exL(ex:List Ex):List (List Nat):=ex.map (·.args)
theorem Ef{ex:List Ex}{e:Ex}{roots:List Nat}(h:cS (exL ex) (e.args++roots)):cS (exL (ex++[e])) (ex.length::roots):=by
 have:=h.put;rw[dL]at this;simpa[exL]using this
def Sat{α:Type}(r:R α)(P:α->PS->Prop)(Q:Int->Prop):Prop:=match r with
 |.ok x s=>P x s
 |.err _ a=>Q a
theorem Sat.bind{α β:Type}{r:R α}{f:α->PS->R β}{P:α->PS->Prop}{P':β->PS->Prop}{Q:Int->Prop}(h:Sat r P Q)(hf:∀x s,P x s->Sat (f x s) P' Q):Sat (r.bind f) P' Q:=by
 cases r with
 |ok x s=>exact hf x s h
 |err c a=>exact h
theorem Sat.mono{α:Type}{r:R α}{P P':α->PS->Prop}{Q:Int->Prop}(h:Sat r P Q)(hp:∀x s,P x s->P' x s):Sat r P' Q:=by
 cases r with
 |ok x s=>exact hp x s h
 |err c a=>exact h
def HZ(N a:Int)(t:Str):Prop:=insP t=none\/a+t.length+2<=N
structure TG(N off:Int)(l:List Tok):Prop where
 ne:l≠[]
 pos:∀i t,l[i]?=some t->0<=t.a+off/\t.a+off<=N/\(t.k≠0->t.a+off<N)/\(t.k=3->HZ N (t.a+off) t.t)/\(t.k=1->t.t≠[])/\(i+1=l.length->t.k=0)
structure WS(N:Int)(s:PS):Prop where
 tg:TG N s.off s.toks
 lt:s.i<s.toks.length
 pN:0<=N
structure Go1(N:Int)(s s':PS):Prop where
 toks:s'.toks=s.toks
 off:s'.off=s.off
 deep:s'.deep=s.deep
 quiet:s'.quiet=s.quiet
 le:s.i<=s'.i
 lt:s'.i<s'.toks.length
 exs:∀e∈s'.ex,e∈s.ex\/(0<=e.a/\e.a<N)
theorem Go1.trans{N:Int}{s s1 s2:PS}(h:Go1 N s s1)(h':Go1 N s1 s2):Go1 N s s2:=
 ⟨h'.toks.trans h.toks,h'.off.trans h.off,h'.deep.trans h.deep,h'.quiet.trans h.quiet,cI h.le h'.le,h'.lt,λe he=>(h'.exs e he).elim (h.exs e) .inr⟩
theorem Go1.refl{N:Int}{s:PS}(h:WS N s):Go1 N s s:=⟨rfl,rfl,rfl,rfl,aS _,h.lt,λ_ he=>.inl he⟩
theorem Go1.ws{N:Int}{s s':PS}(h:Go1 N s s')(hs:WS N s):WS N s':=⟨by rw[h.toks,h.off];exact hs.tg,h.lt,hs.pN⟩
theorem xF{N:Int}{s:PS}(h:WS N s)(d:Nat)(q:Bool):WS N {s with deep:=d,quiet:=q}:=⟨h.tg,h.lt,h.pN⟩
theorem DD:∀{l:List Tok},l≠[]->(∀t,l.getLast?=some t->t.k≠5)->gZ l<l.length
 |[],h,_=>absurd rfl h
 |[t],_,h=>by
  have:=h t rfl
  simp[gZ,this]
 |t::u::r,_,h=>by
  have ih:=DD (l:=u::r) (by simp) (λx hx=>h x (by simpa using hx))
  simp only[gZ,aB]at ih⊢
  split<;>omega
theorem TG.last{N off:Int}{l:List Tok}(h:TG N off l)(hi:i<l.length):gZ (l.drop i)<l.length-i:=by
 have hne:l.drop i≠[]:=λe=>by have:=congrArg List.length e;rw[aQ,aM]at this;omega
 have:=DD hne λt ht=>by
  rw[List.getLast?_drop]at ht;rw[aE (by omega)]at ht;rw[List.getLast?_eq_getElem?]at ht;have:=(h.pos _ t ht).2.2.2.2.2 (by omega);omega
 rw[aQ]at this;exact this
theorem gE{N:Int}{s:PS}(h:WS N s):Go1 N s (bC s):=by
 unfold bC;split
 ·have:=h.tg.last h.lt;exact⟨rfl,rfl,rfl,rfl,Nat.le_add_right _ _,(by show s.i+_<s.toks.length;have:=h.lt;omega),λ_ he=>.inl he⟩
 ·exact Go1.refl h
theorem xI{N:Int}{s:PS}(h:WS N s):s.toks[s.i]?=some (lW s):=by
 unfold lW;rw[List.getD_eq_getElem?_getD,List.getElem?_eq_getElem h.lt];rfl
theorem jU{N:Int}{s:PS}(h:WS N s):0<=(cur s).a/\(cur s).a<=N/\((cur s).k≠0->(cur s).a<N)/\((cur s).k=3->HZ N (cur s).a (cur s).t)/\((cur s).k=1->(cur s).t≠[]):=by
 have hg:=gE h;have hn:=hg.ws h;have h1:=hn.tg.pos _ _ (xI hn);rw[hg.off]at h1;exact⟨h1.1,h1.2.1,h1.2.2.1,h1.2.2.2.1,h1.2.2.2.2.1⟩
theorem jJ{N:Int}{s:PS}(h:WS N s)(hk:(cur s).k≠0):Go1 N s (step1 (bC s))/\s.i<(step1 (bC s)).i:=by
 have hg:=gE h;have hn:=hg.ws h;have h1:=(hn.tg.pos _ _ (xI hn)).2.2.2.2.2;have hlt:(bC s).i+1<(bC s).toks.length:=by
  have:=hn.lt;by_cases he:(bC s).i+1=(bC s).toks.length
  ·exact absurd (h1 he) hk
  ·omega
 exact⟨⟨hg.toks,hg.off,hg.deep,hg.quiet,cI hg.le (Nat.le_succ _),hlt,hg.exs⟩,Nat.lt_succ_of_le hg.le⟩
theorem UQ(s:PS)(h:∀k,s.quiet=true->k=gZ (s.toks.drop s.i)->gZ (s.toks.drop (s.i+k))=0):bC (bC s)=bC s:=by
 unfold bC;split
 ·rename_i hq;have:=h _ hq rfl;simp only[hq,gM,this,eS]
 ·rfl
theorem AP:∀(l:List Tok),gZ (l.drop (gZ l))=0
 |[]=>rfl
 |t::r=>by
  simp only[gZ]
  split
  ·exact AP r
  ·rename_i h
   simp[gZ,h]
theorem gP(s:PS):bC (bC s)=bC s:=UQ s λk _ hk=>by rw[<-gT,hk];exact AP _
theorem kO(s:PS):cur (bC s)=cur s:=by
 unfold cur;rw[gP];have:(bC s).off=s.off:=by unfold bC;split<;>rfl
 rw[this]
abbrev Later(N:Int)(s:PS)(s':PS):Prop:=Go1 N s s'/\s.i<s'.i
abbrev InN(N:Int)(a:Int):Prop:=0<=a/\a<=N
theorem lZ{s:PS}{w:Str}(h:isS s w=true):(cur s).k≠0:=by
 unfold isS at h;simp only[aL,bA]at h;rw[h.1];decide
theorem jI{N:Int}{s:PS}(h:WS N s)(w:Str):Go1 N s (bX s w).2/\((bX s w).1=true->s.i<(bX s w).2.i)/\(bX s w).2.ex=s.ex/\(bX s w).2.bl=s.bl:=by
 have e1:(bC s).ex=s.ex:=by unfold bC;split<;>rfl
 have e2:(bC s).bl=s.bl:=by unfold bC;split<;>rfl
 unfold bX;split
 ·rename_i hi;have:=jJ h (lZ hi);exact⟨this.1,λ_=>this.2,e1,e2⟩
 ·exact⟨gE h,(λe=>by cases e),e1,e2⟩
theorem iA(s:PS):(bC s).ex=s.ex/\(bC s).bl=s.bl:=by unfold bC;split<;>exact⟨rfl,rfl⟩
theorem kB{N:Int}{s:PS}(h:WS N s)(w:Str):Sat (oH s w) (λ_ s'=>Later N s s'/\s'.ex=s.ex/\s'.bl=s.bl) (InN N):=by
 unfold oH;split
 ·rename_i hi;exact⟨jJ h (lZ hi),iA s⟩
 ·have:=jU h;exact⟨this.1,this.2.1⟩
theorem rM{N:Int}{s:PS}(h:WS N s):Go1 N s (iW s)/\((cur s).k≠0->s.i<(iW s).i)/\(iW s).ex=s.ex/\(iW s).bl=s.bl:=by
 unfold iW;split
 ·rename_i hk;have:=jJ h hk;exact⟨this.1,λ_=>this.2,iA s⟩
 ·rename_i hk;exact⟨gE h,λe=>absurd e hk,iA s⟩
theorem lN{N:Int}{s:PS}(h:WS N s)(k:Int)(hk0:k≠0):Sat (lO s k) (λt s'=>Later N s s'/\s'.ex=s.ex/\s'.bl=s.bl/\t=cur s/\t.k=k) (InN N):=by
 unfold lO;split
 ·rename_i hk;have:=rM h;exact⟨⟨this.1,this.2.1 (by omega)⟩,this.2.2.1,this.2.2.2,rfl,hk⟩
 ·have:=jU h;exact⟨this.1,this.2.1⟩
theorem mL{N:Int}{s:PS}(h:WS N s):Go1 N s (gI s)/\(gI s).ex=s.ex/\(gI s).bl=s.bl:=by
 have hg:=gE h;have hn:=hg.ws h;have h1:=hn.tg.last hn.lt;rw[hg.toks]at h1;have h2:=hn.lt;rw[hg.toks]at h2;refine⟨⟨hg.toks,hg.off,hg.deep,hg.quiet,?_,?_,hg.exs⟩,iA s⟩
 ·have:=hg.le;show s.i<=(bC s).i+_;omega
 ·show(bC s).i+_<(bC s).toks.length;rw[hg.toks];omega
def EOk(N:Int)(F:PS->R Nat):Prop:=∀s,WS N s->Sat (F s) (λx s'=>Later N s s'/\s'.bl=s.bl/\∀roots,cS (exL s.ex) roots->cS (exL s'.ex) (x::roots)) (InN N)
theorem AJ{N:Int}{s:PS}(h:WS N s){e:Ex}(ha:0<=e.a/\e.a<N):Sat (qT s e) (λx s'=>Go1 N s s'/\s'.i=s.i/\s'.bl=s.bl/\∀roots,cS (exL s.ex) (e.args++roots)->cS (exL s'.ex) (x::roots)) (InN N):=
 ⟨⟨rfl,rfl,rfl,rfl,aS _,h.lt,λx hx=>by
   rcases dC.1 hx with hx|hx
   ·exact .inl hx
   ·rw[bP]at hx
    subst hx
    exact .inr ha⟩,rfl,rfl,λ_ hf=>Ef hf⟩
theorem lA{N:Int}{s:PS}(h:WS N s){α:Type}{a:Int}(ha:InN N a){q:Bool}{f:PS->R α}{P:α->PS->Prop}(hf:WS N {s with deep:=s.deep+1,quiet:=q}->Sat (f {s with deep:=s.deep+1,quiet:=q}) P (InN N)):
  Sat (within s a q f) (λx s'=>∃s1,P x s1/\s'={s1 with deep:=s.deep,quiet:=s.quiet}) (InN N):=by
 unfold within;split
 ·exact ha
 ·exact(hf (xF h _ _)).bind λx s1 h1=>⟨s1,h1,rfl⟩
theorem Go1.back{N:Int}{s s1:PS}{d:Nat}{q:Bool}(h:Go1 N {s with deep:=d,quiet:=q} s1):Go1 N s {s1 with deep:=s.deep,quiet:=s.quiet}:=⟨h.toks,h.off,rfl,rfl,h.le,h.lt,h.exs⟩
theorem qS(p:UInt8->Bool):∀s:Str,eK p s<=s.length
 |[]=>aS _
 |c::r=>by
  have:=qS p r
  simp only[eK,aB]
  split<;>omega
theorem Hn:∀(s:Str) (i:Nat),Lib.index s [42,47]=(i:Int)->i+2<=s.length
 |[],i,h=>by
  unfold Lib.index at h
  simp at h
 |b::l,i,h=>by
  unfold Lib.index at h
  split at h
  ·rename_i hp
   have hi:i=0:=by omega
   subst hi
   cases l with
   |nil=>simp[List.isPrefixOf]at hp
   |cons c l=>simp
  ·split at h
   ·omega
   ·rename_i hq
    have h1:Lib.index l [42,47]≠-1:=by simpa using hq
    have hg:=Lib.index_ge l [42,47]
    have:=Hn l (i-1) (by omega)
    simp only[aB]
    omega
theorem GZ{p s:Str}(h:pH p s=true):p.length<=s.length:=by
 unfold pH at h;exact(EP.1 h).length_le
theorem wD:∀(n:Nat) (s:Str),(fQ n s).1<=s.length
 |0,_=>gA _
 |_+1,[]=>gA _
 |n+1,c::r=>by
  simp only[fQ]
  split
  ·have:=wD n r
   simp only[aB]
   omega
  split
  ·have h1:=wD n ((c::r).drop (eK (λb=>b !=10) (c::r)))
   have h2:=qS (λb=>b !=10) (c::r)
   rw[aQ]at h1
   simp only
   omega
  split
  ·rename_i hp
   split
   ·exact gA _
   ·rename_i hi
    obtain⟨i,hii⟩:=Int.eq_ofNat_of_zero_le (by omega:0<=Lib.index (r.drop 1) [42,47])
    have h1:=Hn _ _ hii
    have h2:=wD n ((c::r).drop ((Lib.index (r.drop 1) [42,47]).toNat+4))
    rw[hii]at h2⊢
    rw[aQ]at h1 h2
    simp only[aB,aW]at h2⊢
    omega
  ·exact gA _
def noD:Str->Bool
 |[]=>true
 |[c]=>c !=92&&c !=36
 |c::e::r=>if c=92 then noD r else c !=36&&noD (e::r)
theorem CJ:∀(n:Nat) (t:Str),t.length<=n->noD t=true->insP t=none
 |_,[],_,_=>rfl
 |_,[_],_,_=>rfl
 |0,c::e::r,h,_=>by simp at h
 |n+1,c::e::r,h,hd=>by
  simp only[noD]at hd
  simp only[insP]
  simp only[aB]at h
  split
  ·rename_i hc
   rw[aJ hc]at hd
   rw[CJ n r (by omega) hd]
   rfl
  ·rename_i hc
   rw[aE hc]at hd
   simp only[aL,bne_iff_ne,bL]at hd
   rw[aE (λe=>hd.1 e.1),CJ n (e::r) (by simp only[aB];omega) hd.2]
   rfl
theorem Dx{r:Str}(h1:c≠92)(h2:c≠36)(h:noD r=true):noD (c::r)=true:=by
 cases r with
 |nil=>simp[noD,h1,h2]
 |cons e r=>simp[noD,h1,h2,h]
theorem CK{r:Str}(h:noD r=true):noD (92::c::r)=true:=by simp[noD,h]
theorem CL:∀(n:Nat) (a b:Str),a.length<=n->noD a=true->noD b=true->noD (a++b)=true
 |_,[],b,_,_,hb=>hb
 |0,_::_,b,h,_,_=>by simp at h
 |_,[c],b,_,ha,hb=>by
  simp only[noD,aL,bne_iff_ne,bL]at ha
  exact Dx ha.1 ha.2 hb
 |n+1,c::e::r,b,h,ha,hb=>by
  simp only[noD]at ha
  simp only[aB]at h
  split at ha
  ·rename_i hc
   subst hc
   exact CK (CL n r b (by omega) ha hb)
  ·rename_i hc
   simp only[aL,bne_iff_ne,bL]at ha
   exact Dx hc ha.1 (CL n (e::r) b (by simp only[aB];omega) ha.2 hb)
theorem IY:∀s:Str,noD (kF s)=true
 |[]=>rfl
 |c::r=>by
  have ih:=IY r
  simp only[kF]
  split
  ·exact CK ih
  rename_i h1
  split
  ·exact CK ih
  split
  ·exact CK ih
  ·simp only[cM,fO,not_or]at h1
   exact Dx h1.1.1 h1.2 ih
theorem Mz:∀(n:Nat) (name s:Str) (t:Str) (k:Nat),mA n name s=(t,k,0)->k<=s.length/\noD t=true
 |0,_,_,_,_,h=>by simp[mA]at h
 |n+1,name,s,t,k,h=>by
  have hr:=qS (λb=>b !=10) s
  simp only[mA]at h
  split at h
  ·injection h with h1 h2
   injection h2 with h2 _
   subst h1 h2
   exact⟨hr,rfl⟩
  split at h
  ·cases h
  rename_i hlen
  split at h
  ·rename_i he
   injection h with h1 h2
   injection h2 with h2 _
   obtain⟨i1,i2⟩:=Mz n name (s.drop (eK (λb=>b !=10) s+1)) (mA n name (s.drop (eK (λb=>b !=10) s+1))).1 (mA n name (s.drop (eK (λb=>b !=10) s+1))).2.1 (fU rfl (fU rfl he))
   rw[aQ]at i1
   subst h1 h2
   refine⟨by omega,?_⟩
   refine CL _ _ _ (aS _) (CL _ _ _ (aS _) (IY _) rfl) i2
  ·rename_i he
   injection h with _ h2
   injection h2 with _ h2
   exact absurd h2 he
theorem Vr{s:Str}{m:Nat}(hm:(s.drop m).head?=some c):m<s.length:=by
 by_cases hl:m<s.length
 ·exact hl
 ·rw[fB (by omega)]at hm;cases hm
theorem DX{s t:Str}{k:Nat}(h:iI s=(t,k,0)):1<=k/\k<=s.length/\noD t=true:=by
 unfold iI at h;simp only at h;generalize (if jH ((s.drop 2).headD 0)=true then eK jL (s.drop 2)else 0)=n at h;split at h
 ·cases h
 split at h
 ·rename_i hh;have hlt:=Vr hh;generalize hH:mA (s.length+1) ((s.drop 2).take n) (s.drop (2+n+1))=x at h;obtain⟨x1,x2,x3⟩:=x;simp only at h;split at h
  ·rename_i he;subst he;injection h with h1 h2
   injection h2 with h2 _
   obtain⟨i1,i2⟩:=Mz _ _ _ _ _ hH;rw[aQ]at i1;subst h1 h2;exact⟨by omega,by omega,i2⟩
  ·rename_i he;injection h with _ h2
   injection h2 with _ h2
   exact absurd h2 he
 ·cases h
theorem Hc{s:Str}{t:Tok}{k:Nat}(hs:s≠[])(h:oW s=(t,k,0)):1<=k/\k<=s.length/\t.k≠0/\t.a=0/\(t.k=1->t.t≠[])/\(t.k=3->insP t.t=none\/t.t.length+2<=k):=by
 obtain⟨c,r,rfl⟩:∃c r,s=c::r:=by
  cases s with
  |nil=>exact absurd rfl hs
  |cons c r=>exact⟨c,r,rfl⟩
 unfold oW at h;simp only[List.headD_cons]at h;split at h
 ·injection h with h1 h2
  injection h2 with h2 _
  subst h1 h2;simp
 split at h
 ·rename_i hl;injection h with h1 h2
  injection h2 with h2 h3
  have hp:1<=eK jL (c::r):=by
   simp only[eK];rw[aJ (by unfold jL;rw[hl];rfl)];omega
  have:=qS jL (c::r);subst h1 h2;refine⟨hp,this,by simp,rfl,λ_=>?_,λe=>by simp at e⟩;intro e;have e:=congrArg List.length e;rw[bU,aM]at e;omega
 split at h
 ·rename_i hl;injection h with h1 h2
  injection h2 with h2 h3
  have hp:1<=eK jB (c::r):=by
   simp only[eK];rw[aJ hl];omega
  have:=qS jB (c::r);subst h1 h2;exact⟨hp,this,by simp,rfl,λe=>by simp at e,λe=>by simp at e⟩
 split at h
 ·split at h
  ·rename_i he;injection h with h1 h2
   injection h2 with h2 _
   have hx:oI ((c::r).length+1) ((c::r).drop 1) 0=gG r 0:=tN (by simp;omega);rw[hx]at he h1 h2;obtain⟨_,q2,q3⟩:=(jC r.length r (aS _)).1 0 (gG r 0).1 (fU rfl he);subst h1 h2;refine⟨by omega,by simp only[aB];omega,by simp,rfl,λe=>by simp at e,λ_=>.inr ?_⟩;rw[bU];simp only[cQ,cV];omega
  ·rename_i he;injection h with _ h2
   injection h2 with _ h2
   exact absurd h2 he
 split at h
 ·injection h with h1 h2
  injection h2 with h2 h3
  obtain⟨i1,i2,i3⟩:=DX (s:=c::r) (t:=(iI (c::r)).1) (k:=(iI (c::r)).2.1) (fU rfl (fU rfl h3));subst h1 h2;exact⟨i1,i2,by simp,rfl,λe=>by simp at e,λ_=>.inl (CJ _ _ (aS _) i3)⟩
 ·injection h with h1 h2
  injection h2 with h2 h3
  subst h1 h2;split at h3
  ·cases h3
  rename_i hz;refine⟨by omega,?_,by simp,rfl,λe=>by simp at e,λe=>by simp at e⟩;unfold vF;split
  ·exact List.length_take_le' _ _
  ·split
   ·exact List.length_take_le' _ _
   ·simp
theorem Iu:∀(n:Nat) (s:Str) (a cnt:Nat) (l:List Tok),nC n s a cnt=.ok l->TG ((a+s.length:Nat):Int) 0 l
 |0,_,_,_,_,h=>by simp[nC]at h
 |n+1,s,a,cnt,l,h=>by
  have hk:=wD (s.length+1) s
  simp only[nC]at h
  split at h
  ·cases h
  split at h
  ·rename_i hr
   injection h with h
   subst h
   have:s.length<=(fQ (s.length+1) s).1:=by
    have:=congrArg List.length hr;rw[aQ,aM]at this;omega
   refine⟨by simp,λi t ht=>?_⟩;have hi:i=0:=by
    by_cases h0:i=0
    ·exact h0
    ·rw[List.getElem?_eq_none (by simp;omega)]at ht;cases ht
   subst hi;simp only[List.getElem?_cons_zero,bE]at ht;subst ht;refine⟨by simp only;omega,by simp only;omega,λe=>absurd rfl e,λe=>by simp at e,λe=>by simp at e,λ_=>rfl⟩
  rename_i hr;split at h
  ·cases h
  rename_i ho;split at h
  ·cases h
  have hlen:s.length-(fQ (s.length+1) s).1=(s.drop (fQ (s.length+1) s).1).length:=(aQ ..).symm;obtain⟨o1,o2,o3,o4,o5,o6⟩:=Hc hr (fU rfl (fU rfl (sD.1 ho)):oW (s.drop (fQ (s.length+1) s).1)=((oW (s.drop (fQ (s.length+1) s).1)).1,(oW (s.drop (fQ (s.length+1) s).1)).2.1,0));split at h
  ·rename_i l' hl';injection h with h
   subst h;have ih:=Iu n _ _ _ _ hl';rw[aQ]at ih;have eN:a+(fQ (s.length+1) s).1+(oW (s.drop (fQ (s.length+1) s).1)).2.1+((s.drop (fQ (s.length+1) s).1).length-(oW (s.drop (fQ (s.length+1) s).1)).2.1)=a+s.length:=by omega
   rw[eN]at ih;refine⟨by simp,λi t ht=>?_⟩;cases i with
   |zero=>
    simp only[List.getElem?_cons_zero,bE]at ht;subst ht;refine⟨by simp only;omega,by simp only;omega,λ_=>by simp only;omega,λe=>?_,λe=>o5 e,λe=>?_⟩
    ·rcases o6 e with h|h
     ·exact .inl h
     ·exact .inr (by simp only;omega)
    ·simp only[aB]at e;have:=ih.ne;exact absurd (bG (by omega)) this
   |succ i=>
    simp only[List.getElem?_cons_succ]at ht;have:=ih.pos i t ht;exact⟨this.1,this.2.1,this.2.2.1,this.2.2.2.1,this.2.2.2.2.1,λe=>this.2.2.2.2.2 (by simp only[aB]at e;omega)⟩
  ·rename_i hne;exact absurd h (hne l)
theorem Fi:∀(n:Nat) (s:Str) (a cnt:Nat) (c b:Int),nC n s a cnt=.bad c b->0<=b/\b<=((a+s.length:Nat):Int)
 |0,_,_,_,_,_,h=>by
  simp only[nC]at h
  injection h with _ h
  subst h
  omega
 |n+1,s,a,cnt,c,b,h=>by
  have hk:=wD (s.length+1) s
  simp only[nC]at h
  split at h
  ·injection h with _ h
   subst h
   omega
  split at h
  ·cases h
  rename_i hr
  split at h
  ·injection h with _ h
   subst h
   omega
  rename_i ho
  split at h
  ·injection h with _ h
   subst h
   omega
  obtain⟨o1,o2,_⟩:=Hc hr (fU rfl (fU rfl (sD.1 ho)):oW (s.drop (fQ (s.length+1) s).1)=((oW (s.drop (fQ (s.length+1) s).1)).1,(oW (s.drop (fQ (s.length+1) s).1)).2.1,0))
  rw[aQ]at o2
  split at h
  ·cases h
  ·have ih:=Fi n _ _ _ c b h
   rw[aQ,aQ]at ih
   omega
theorem MX:∀(n:Nat) (s:Str) (i j:Nat),EI n s i=some j->j<s.length
 |0,_,_,_,h=>by simp[EI]at h
 |n+1,s,i,j,h=>by
  simp only[EI]at h
  split at h
  ·cases h
  split at h
  ·injection h with h
   omega
  ·exact MX n s _ j h
theorem GP{s:Str}{l:List Tok}(h:qH s=.ok l){N off:Int}(h0:0<=off)(hN:off+s.length<=N):TG N off l:=by
 unfold qH at h;split at h
 ·cases h
 split at h
 ·cases h
 have:=Iu _ _ _ _ _ h;refine⟨this.ne,λi t ht=>?_⟩;obtain⟨h1,h2,h3,h4,h5,h6⟩:=this.pos i t ht;rw[aV]at h2 h3 h4;rw[Int.add_zero]at h1 h2 h3 h4;refine⟨by omega,by omega,λe=>by have:=h3 e;omega,λe=>?_,h5,h6⟩;rcases h4 e with h|h
 ·exact .inl h
 ·exact .inr (by omega)
theorem Ir{s:Str}{c b:Int}(h:qH s=.bad c b):0<=b/\b<=(s.length:Nat):=by
 unfold qH at h;split at h
 ·injection h with _ h
  subst h;omega
 split at h
 ·rename_i i hi;injection h with _ h
  subst h;have:=MX _ _ _ _ hi;omega
 ·have:=Fi _ _ _ _ _ _ h;rw[aV]at this;exact this
theorem Yu:∀(N:Nat) (r:Str),r.length<=N->(∀c,qC r c<=r.length)/\sJ r<=r.length:=by
 intro N;induction N with
 |zero=>
  intro r hr;have:r=[]:=bG (by omega);subst this;exact⟨λc=>aS _,aS _⟩
 |succ N ih=>
  intro r hr;cases r with
  |nil=>exact ih [] (by simp)
  |cons c r=>
   simp only[aB]at hr;have hr:r.length<=N:=by omega
   have h1:=ih r hr;refine⟨λd=>?_,?_⟩
   ·rw[oO];have h2:=(ih (r.drop (sJ r)) (kN _ hr)).1 d;rw[aQ]at h2;have h3:=h1.1 (d+1);have h4:=h1.1 (d-1);have h5:=h1.1 d;have h6:=h1.2;simp only[aB]
    (repeat' split)<;>omega
   ·rw[Bq];have h2:=(ih (r.drop (qC r 0)) (kN _ hr)).2;rw[aQ]at h2;have h3:=h1.1 0;have h6:=h1.2;cases r with
    |nil=>
     simp only[aB,aM]at*
     (repeat' split)<;>omega
    |cons e r'=>
     have h7:=(ih r' (by simp only[aB]at hr;omega)).2;simp only[aB]at*
     (repeat' split)<;>omega
theorem HP(r:Str)(c:Int):qC r c<=r.length:=(Yu r.length r (aS _)).1 c
theorem AS:∀(n:Nat) (t:Str),t.length<=n->∀i e,insP t=some (i,e)->i+2<=t.length/\i+1<=e/\e<=t.length
 |_,[],_,i,e,h=>by simp[insP]at h
 |_,[_],_,i,e,h=>by simp[insP]at h
 |0,_::_::_,h,_,_,_=>by simp at h
 |n+1,c::x::r,hn,i,e,h=>by
  simp only[aB]at hn
  simp only[insP]at h
  split at h
  ·cases hr:insP r with
   |none=>rw[hr]at h;cases h
   |some y=>
    rw[hr]at h
    simp only[gF,bE,fZ]at h
    obtain⟨rfl,rfl⟩:=h
    have:=AS n r (by omega) y.1 y.2 hr
    simp only[aB]
    omega
  split at h
  ·simp only[bE,fZ]at h
   obtain⟨rfl,rfl⟩:=h
   have:=HP (x::r) 0
   have e1:Kb (x::r)=qC (x::r) 0:=rfl
   rw[e1]
   simp only[aB]at this⊢
   omega
  ·cases hr:insP (x::r)with
   |none=>rw[hr]at h;cases h
   |some y=>
    rw[hr]at h
    simp only[gF,bE,fZ]at h
    obtain⟨rfl,rfl⟩:=h
    have:=AS n (x::r) (by simp only[aB];omega) y.1 y.2 hr
    simp only[aB]at this⊢
    omega
section
variable{N:Int}{E S:PS->R Nat}
theorem FP(hE:EOk N E){s:PS}(h:WS N s){t:Str}{a:Int}(h0:0<=a)(h1:a+t.length<=N):Sat (oZ E s t a) (λx s'=>Go1 N s s'/\s'.bl=s.bl/\∀roots,cS (exL s.ex) roots->cS (exL s'.ex) (x::roots)) (InN N):=by
 unfold oZ;split
 ·rename_i c b hs;have:=Ir hs;exact⟨by omega,by omega⟩
 ·rename_i l hs;have htg:=GP hs h0 h1;have hw:WS N ⟨l,0,a,s.deep,false,s.ex,s.bl⟩:=⟨htg,dP.2 htg.ne,h.pN⟩;refine(hE _ hw).bind λx q ⟨⟨hg,_⟩,hb,hf⟩=>?_;have hq:=hg.ws hw;unfold lO;split
  ·refine⟨⟨rfl,rfl,rfl,rfl,aS _,h.lt,λe he=>?_⟩,?_,λroots hr=>?_⟩
   ·have:e∈(iW q).ex:=he;rw[(rM hq).2.2.1]at this;exact hg.exs e this
   ·show(iW q).bl=s.bl;rw[(rM hq).2.2.2];exact hb
   ·show cS (exL (iW q).ex) _;rw[(rM hq).2.2.1];exact hf roots hr
  ·have:=jU hq;exact⟨this.1,this.2.1⟩
theorem Fv{s:PS}(h:WS N s){t:Tok}(ht:InN N t.a):Sat (pS s t) (λ_ s'=>s'=s) (InN N):=by
 unfold pS;split
 ·exact ht
 ·rfl
theorem Bv(hE:EOk N E):∀(n:Nat) (s:PS) (rest:Str) (a:Int) (us:List Nat) (ks:List Str),WS N s->0<=a->a+rest.length+1<=N->
  Sat (nI E n s rest a us ks) (λx s'=>Go1 N s s'/\s'.bl=s.bl/\∀roots,cS (exL s.ex) (us++roots)->cS (exL s'.ex) (x.1++roots)) (InN N)
 |0,s,_,_,_,_,h,_,_=>⟨oF _,h.pN⟩
 |n+1,s,rest,a,us,ks,h,h0,h1=>by
  have one:∀(e:Ex),e.args=[]->0<=e.a->e.a<N->Go1 N s {s with ex:=s.ex++[e]}/\∀roots,cS (exL s.ex) (us++roots)->cS (exL (s.ex++[e])) ((us++[s.ex.length])++roots):=λe he h2 h3=>
   ⟨⟨rfl,rfl,rfl,rfl,aS _,h.lt,λx hx=>by
     rcases dC.1 hx with hx|hx
     ·exact .inl hx
     ·rw[bP]at hx;subst hx;exact .inr ⟨h2,h3⟩⟩,
    λroots hf=>by
     have:=Ef (e:=e) (roots:=us++roots) (by rw[he];exact hf)
     refine this.perm ?_
     rw[eV]
     exact(pK).symm⟩
  simp only[nI]
  split
  ·exact⟨Go1.refl h,rfl,λ_ hf=>hf⟩
  split
  ·have:=one ⟨5,kD rest,[],[],a⟩ rfl h0 (by show a<N;omega)
   exact⟨this.1,rfl,this.2⟩
  ·rename_i i e hi
   obtain⟨i1,i2,i3⟩:=AS rest.length rest (aS _) i e hi
   have hs1:∃s1 as1,s1=(if 0<i then{s with ex:=s.ex++[⟨5,kD (rest.take i),[],[],a⟩]}else s)/\as1=(if 0<i then us++[s.ex.length]else us)/\Go1 N s s1/\s1.bl=s.bl/\∀roots,cS (exL s.ex) (us++roots)->cS (exL s1.ex) (as1++roots):=by
    refine⟨_,_,rfl,rfl,?_⟩;split
    ·have:=one ⟨5,kD (rest.take i),[],[],a⟩ rfl h0 (by show a<N;omega);exact⟨this.1,rfl,this.2⟩
    ·exact⟨Go1.refl h,rfl,λ_ hf=>hf⟩
   obtain⟨s1,as1,e1,e2,g1,b1,f1⟩:=hs1;rw[<-e1,<-e2];have hw1:=g1.ws h;have hd:((rest.drop e).length:Int)=rest.length-e:=by rw[aQ];omega
   split
   ·refine Sat.bind (lA hw1 (a:=a+i) ⟨by omega,by omega⟩ (P:=λx s'=>Go1 N {s1 with deep:=s1.deep+1,quiet:=false} s'/\s'.bl=s1.bl/\∀roots,cS (exL s1.ex) roots->cS (exL s'.ex) (x::roots)) λhw=>FP hE hw (by omega) ?_) λx s2 ⟨q,⟨g2,b2,f2⟩,e3⟩=>?_
    ·rw[bU,aQ];omega
    ·subst e3;have g2':=g2.back;refine Sat.mono (Bv hE n _ (rest.drop e) (a+e) (as1++[x]) _ ((g2').ws hw1) (by omega) (by rw[hd];omega)) λy s3 ⟨g3,b3,f3⟩=>⟨g1.trans (g2'.trans g3),b3.trans (b2.trans b1),λroots hf=>f3 roots ?_⟩;have:=f2 _ (f1 roots hf);refine this.perm ?_;rw[eV];exact(pK).symm
   ·refine Sat.mono (Bv hE n s1 (rest.drop e) (a+e) as1 _ hw1 (by omega) (by rw[hd];omega)) λy s3 ⟨g3,b3,f3⟩=>⟨g1.trans g3,b3.trans b1,λroots hf=>f3 roots (f1 roots hf)⟩
theorem OT(hE:EOk N E){s:PS}(h:WS N s){t:Tok}(ha:0<=t.a/\t.a<N)(ht:HZ N t.a t.t):Sat (Cd E s t) (λx s'=>Go1 N s s'/\s'.bl=s.bl/\∀roots,cS (exL s.ex) roots->cS (exL s'.ex) (x::roots)) (InN N):=by
 unfold Cd;split
 ·rename_i hi;have ht:t.a+t.t.length+2<=N:=ht.resolve_left λe=>by rw[e]at hi;cases hi
  refine(Bv hE (t.t.length+1) s t.t (t.a+1) [] [] h (by omega) (by omega)).bind λx s1 ⟨g1,b1,f1⟩=>?_;refine(AJ (g1.ws h) (e:=⟨6,[],x.1,x.2,t.a⟩) ha).mono λy s2 ⟨g2,_,b2,f2⟩=>⟨g1.trans g2,b2.trans b1,λroots hf=>f2 roots (f1 roots hf)⟩
 ·exact(AJ h (e:=⟨5,kD t.t,[],[],t.a⟩) ha).mono λy s2 ⟨g2,_,b2,f2⟩=>⟨g2,b2,λroots hf=>f2 roots hf⟩
theorem Ki(hE:EOk N E)(w:Str):∀(n:Nat) (s:PS) (out:List Nat),WS N s->
  Sat (tA E w n s out) (λx s'=>Later N s s'/\s'.bl=s.bl/\∀roots,cS (exL s.ex) (out++roots)->cS (exL s'.ex) (x++roots)) (InN N)
 |0,s,_,h=>⟨oF _,h.pN⟩
 |n+1,s,out,h=>by
  have step:∀{s1:PS},Go1 N s s1->s1.ex=s.ex->s1.bl=s.bl->Sat ((E s1).bind λx s'=>tA E w n s' (out++[x])) (λx s'=>Later N s s'/\s'.bl=s.bl/\∀roots,cS (exL s.ex) (out++roots)->cS (exL s'.ex) (x++roots)) (InN N):=λ{s1} g1 x1 b1=>by
   refine(hE s1 (g1.ws h)).bind λx s2 ⟨g2,b2,f2⟩=>?_
   refine Sat.mono (Ki hE w n s2 (out++[x]) (g2.1.ws (g1.ws h))) λy s3 ⟨g3,b3,f3⟩=>⟨⟨g1.trans (g2.1.trans g3.1),by have:=g1.le;have:=g2.2;have:=g3.2;omega⟩,b3.trans (b2.trans b1),λroots hf=>f3 roots ?_⟩
   have:=f2 _ (by rw[x1];exact hf)
   refine this.perm ?_
   rw[eV]
   exact(pK).symm
  have t1:=jI h w
  simp only[tA]
  split
  ·rename_i ht
   exact⟨⟨t1.1,t1.2.1 ht⟩,t1.2.2.2,λroots hf=>by rw[t1.2.2.1];exact hf⟩
  split
  ·rename_i ho
   have:=step t1.1 t1.2.2.1 t1.2.2.2
   exact this
  ·refine(kB (t1.1.ws h) [44]).bind λ_ s1 ⟨g1,x1,b1⟩=>?_
   have g01:=t1.1.trans g1.1
   have t2:=jI (g01.ws h) w
   split
   ·rename_i ht
    exact⟨⟨g01.trans t2.1,by have:=t1.1.le;have:=g1.2;have:=t2.1.le;omega⟩,t2.2.2.2.trans (b1.trans t1.2.2.2),λroots hf=>by rw[t2.2.2.1,x1,t1.2.2.1];exact hf⟩
   ·exact step (g01.trans t2.1) (t2.2.2.1.trans (x1.trans t1.2.2.1)) (t2.2.2.2.trans (b1.trans t1.2.2.2))
theorem Gy(hE:EOk N E)(w:Str){s:PS}(h:WS N s):Sat (Eu E w s) (λx s'=>Later N s s'/\s'.bl=s.bl/\∀roots,cS (exL s.ex) roots->cS (exL s'.ex) (x++roots)) (InN N):=
 (Ki hE w _ s [] h).mono λx s' ⟨g,b,f⟩=>⟨g,b,λroots hf=>f roots hf⟩
theorem QE(hE:EOk N E){s:PS}(h:WS N s)(hk:(cur s).k≠0)(hq:bC s=s){a:Int}(ha:0<=a/\a<N):Sat (Ci E s a) (λe s'=>Later N s s'/\s'.bl=s.bl/\(0<=e.a/\e.a<N)/\∀roots,cS (exL s.ex) roots->cS (exL s'.ex) (e.args++roots)) (InN N):=by
 have hs:=jJ h hk;rw[hq]at hs;have hw:=hs.1.ws h;have hn:=gE hw;have ex1:(bC (step1 s)).ex=s.ex:=(iA _).1;have bl1:(bC (step1 s)).bl=s.bl:=(iA _).2;unfold Ci;simp only;split
 ·refine(Gy hE [93] (hn.ws hw)).bind λus s1 ⟨g1,b1,f1⟩=>?_;exact⟨⟨hs.1.trans (hn.trans g1.1),by have:=hs.2;have:=hn.le;have:=g1.2;omega⟩,b1.trans bl1,ha,λroots hf=>f1 roots (by rw[ex1];exact hf)⟩
 ·rename_i hc;have hk1:(cur (step1 s)).k≠0:=λe=>hc (.inl (by rw[e];decide));have h2:=jJ hw hk1;refine(lN (h2.1.ws hw) 1 (by decide)).bind λt s2 ⟨g2,x2,b2,_⟩=>?_;have hw2:=g2.1.ws (h2.1.ws hw);refine(lN hw2 1 (by decide)).bind λu s3 ⟨g3,x3,b3,hu,_⟩=>?_;have hw3:=g3.1.ws hw2;split
  ·have:=jU hw2;rw[hu];exact⟨this.1,this.2.1⟩
  refine(hE s3 hw3).bind λx s4 ⟨g4,b4,f4⟩=>?_;have hw4:=g4.1.ws hw3;refine(kB hw4 [58]).bind λ_ s5 ⟨g5,x5,b5⟩=>?_;have hw5:=g5.1.ws hw4;refine(hE s5 hw5).bind λy s6 ⟨g6,b6,f6⟩=>?_;have hw6:=g6.1.ws hw5;refine(kB hw6 [93]).bind λ_ s7 ⟨g7,x7,b7⟩=>?_;have e01:(step1 (bC (step1 s))).ex=s.ex:=ex1;have e02:(step1 (bC (step1 s))).bl=s.bl:=bl1;refine⟨⟨hs.1.trans (h2.1.trans (g2.1.trans (g3.1.trans (g4.1.trans (g5.1.trans (g6.1.trans g7.1)))))),by have:=hs.2;have:=h2.2;have:=g2.2;have:=g3.2;have:=g4.2;have:=g5.2;have:=g6.2;have:=g7.2;omega⟩,
   b7.trans (b6.trans (b5.trans (b4.trans (b3.trans (b2.trans e02))))),ha,λroots hf=>?_⟩
  rw[x7];have h1:=f4 roots (by rw[x3,x2,e01];exact hf);have h2:=f6 _ (by rw[x5];exact h1);exact h2.perm (List.Perm.swap _ _ _)
theorem Mn(hE:EOk N E){a:Int}(ha:0<=a/\a<N):∀(n:Nat) (s:PS) (us:List Nat) (ks:List Str),WS N s->
  Sat (EE E a n s us ks) (λe s'=>Later N s s'/\s'.bl=s.bl/\(0<=e.a/\e.a<N)/\∀roots,cS (exL s.ex) (us++roots)->cS (exL s'.ex) (e.args++roots)) (InN N)
 |0,s,_,_,h=>⟨oF _,h.pN⟩
 |n+1,s,us,ks,h=>by
  have t1:=jI h [125]
  simp only[EE]
  split
  ·rename_i ht
   exact⟨⟨t1.1,t1.2.1 ht⟩,t1.2.2.2,ha,λroots hf=>by rw[t1.2.2.1];exact hf⟩
  have hw1:=t1.1.ws h
  have n1:=rM hw1
  have hw2:=n1.1.ws hw1
  have hc:=jU hw1
  have hca:InN N (cur (bX s [125]).2).a:=⟨hc.1,hc.2.1⟩
  refine Sat.bind (P:=λ_ s3=>s3=iW (bX s [125]).2/\(cur (bX s [125]).2).k≠0) ?_ λk s3 ⟨e3,hk0⟩=>?_
  ·split
   ·rename_i hk
    exact(Fv hw2 hca).mono λ_ s3 e=>⟨e,by rw[hk];decide⟩
   ·split
    ·rename_i hk
     exact⟨rfl,by rw[hk];decide⟩
    ·exact hca
  subst e3
  split
  ·exact hca
  refine(kB hw2 [61]).bind λ_ s4 ⟨g4,x4,b4⟩=>?_
  have hw4:=g4.1.ws hw2
  refine(hE s4 hw4).bind λx s5 ⟨g5,b5,f5⟩=>?_
  have hw5:=g5.1.ws hw4
  have t5:=jI hw5 [44]
  have hw6:=t5.1.ws hw5
  have n6:=gE hw6
  have g05:=t1.1.trans (n1.1.trans (g4.1.trans (g5.1.trans t5.1)))
  split
  ·have:=jU (n6.ws hw6)
   exact⟨this.1,this.2.1⟩
  have l6:∃s6,s6=(if(bX s5 [44]).1=true then(bX s5 [44]).2 else bC (bX s5 [44]).2)/\Go1 N (bX s5 [44]).2 s6/\s6.ex=(bX s5 [44]).2.ex/\s6.bl=(bX s5 [44]).2.bl:=by
   refine⟨_,rfl,?_⟩;split
   ·exact⟨Go1.refl hw6,rfl,rfl⟩
   ·exact⟨n6,(iA _).1,(iA _).2⟩
  obtain⟨s6,e6,g6,x6,b6⟩:=l6;rw[<-e6];have hw7:=g6.ws hw6;have l7:=mL hw7;refine Sat.mono (Mn hE ha n (gI s6) (us++[x]) (ks++[k]) (l7.1.ws hw7)) λe s8 ⟨g8,b8,ha8,f8⟩=>⟨⟨g05.trans (g6.trans (l7.1.trans g8.1)),by have:=g05.le;have:=g6.le;have:=l7.1.le;have:=g8.2;omega⟩,
   b8.trans (l7.2.2.trans (b6.trans (t5.2.2.2.trans (b5.trans (b4.trans (n1.2.2.2.trans t1.2.2.2)))))),ha8,λroots hf=>f8 roots ?_⟩
  rw[l7.2.1,x6,t5.2.2.1];have:=f5 (us++roots) (by rw[x4,n1.2.2.1,t1.2.2.1];exact hf);refine this.perm ?_;rw[eV];exact(pK).symm
end
theorem _root_.And.tr{N:Int}{s s1 s2:PS}(h:Later N s s1)(h':Later N s1 s2):Later N s s2:=⟨h.1.trans h'.1,Nat.lt_trans h.2 h'.2⟩
theorem Go1.tr{N:Int}{s s1 s2:PS}(h:Go1 N s s1)(h':Later N s1 s2):Later N s s2:=⟨h.trans h'.1,EM h.le h'.2⟩
section
variable{N:Int}{E S:PS->R Nat}
theorem IA{l:List Tok}{t:Tok}(h:l[i]?=some t)(hk:t.k≠5):gZ (l.drop i)=0:=by
 have hlt:=(List.getElem?_eq_some_iff.1 h).1;rw[cA hlt];have:l[i]=t:=(List.getElem?_eq_some_iff.1 h).2;simp[gZ,this,hk]
theorem Qc{N:Int}{s:PS}(h:WS N s)(hk:(lW s).k≠5):bC s=s:=by
 unfold bC;split
 ·rw[IA (xI h) hk];rfl
 ·rfl
theorem oJ{N:Int}{s:PS}(h:WS N s){w:Str}(hi:isS s w=true)(d:Nat)(q:Bool):bC {bC s with deep:=d,quiet:=q}={bC s with deep:=d,quiet:=q}/\(cur {bC s with deep:=d,quiet:=q}).k≠0/\(cur {bC s with deep:=d,quiet:=q}).a=(cur s).a:=by
 have hw:=(gE h).ws h;have hk:(lW (bC s)).k=4:=by
  unfold isS cur at hi;simp only[aL,bA]at hi;exact hi.1
 have e1:bC {bC s with deep:=d,quiet:=q}={bC s with deep:=d,quiet:=q}:=Qc (xF hw d q) (by show(lW (bC s)).k≠5;rw[hk];decide);have e2:(bC s).off=s.off:=by unfold bC;split<;>rfl
 refine⟨e1,?_,?_⟩
 ·unfold cur;rw[e1];show(lW (bC s)).k≠0;rw[hk];decide
 ·unfold cur;rw[e1];show(lW (bC s)).a+(bC s).off=(lW (bC s)).a+s.off;rw[e2]
abbrev Leaves(N:Int)(s:PS)(x:Nat)(s':PS):Prop:=Later N s s'/\s'.bl=s.bl/\∀roots,cS (exL s.ex) roots->cS (exL s'.ex) (x::roots)
theorem pR{s s1:PS}(h:WS N s)(hg:Later N s s1)(hb:s1.bl=s.bl){e:Ex}(ha:0<=e.a/\e.a<N)(hf:∀roots,cS (exL s.ex) roots->cS (exL s1.ex) (e.args++roots)):Sat (qT s1 e) (Leaves N s) (InN N):=
 (AJ (hg.1.ws h) ha).mono λx s2 ⟨g2,i2,b2,f2⟩=>⟨⟨hg.1.trans g2,by have:=hg.2;rw[i2];exact this⟩,b2.trans hb,λroots hr=>f2 roots (hf roots hr)⟩
theorem Kg(hE:EOk N E):EOk N (Be E):=by
 intro s h;have n1:=gE h;have hw1:=n1.ws h;have hc:=jU h;have x1:=iA s;unfold Be;simp only;split
 ·rename_i hk;have h2:=jJ h (by rw[hk];decide);exact pR h h2 x1.2 (e:=⟨4,(cur s).t,[],[],(cur s).a⟩) ⟨hc.1,hc.2.2.1 (by rw[hk];decide)⟩ λroots hr=>by show cS (exL (bC s).ex) _;rw[x1.1];exact hr
 split
 ·rename_i hk;have h2:=jJ h (by rw[hk];decide);refine(OT hE (h2.1.ws h) (t:=cur s) ⟨hc.1,hc.2.2.1 (by rw[hk];decide)⟩ (hc.2.2.2.1 hk)).mono λx s2 ⟨g2,b2,f2⟩=>⟨⟨h2.1.trans g2,by have:=h2.2;have:=g2.le;omega⟩,b2.trans x1.2,λroots hr=>f2 roots (by show cS (exL (bC s).ex) _;rw[x1.1];exact hr)⟩
 split
 ·rename_i hk;have hk0:(cur s).k≠0:=by rw[hk.1];decide
  have h2:=jJ h hk0;have hw2:=h2.1.ws h;have n2:=gE hw2;have hw3:=n2.ws hw2;have hat:0<=(cur s).a/\(cur s).a<N:=⟨hc.1,hc.2.2.1 hk0⟩;split
  ·rename_i hi;have hc2:=jU hw2;refine Sat.bind (lA hw3 (a:=(cur (step1 (bC s))).a) (q:=true) ⟨hc2.1,hc2.2.1⟩ (P:=λus s'=>Later N {bC (step1 (bC s))with deep:=(bC (step1 (bC s))).deep+1,quiet:=true} s'/\s'.bl=s.bl/\∀roots,cS (exL s.ex) roots->cS (exL s'.ex) (us++roots)) λhw=>?_) λus s2 ⟨q,⟨g2,b2,f2⟩,e2⟩=>?_
   ·have hh:=oJ hw2 hi ((bC (step1 (bC s))).deep+1) true;have h4:=jJ hw hh.2.1;rw[hh.1]at h4;exact(Gy hE [41] (h4.1.ws hw)).mono λus s' ⟨g,b,f⟩=>⟨h4.tr g,b.trans ((iA _).2.trans x1.2),λroots hr=>f roots (by show cS (exL (bC (step1 (bC s))).ex) _;rw[(iA _).1];show cS (exL (bC s).ex) _;rw[x1.1];exact hr)⟩
   ·subst e2;have g2':=g2.1.back;refine pR h ⟨h2.1.trans (n2.trans g2'),?_⟩ b2 (e:=⟨12,(cur s).t,us,[],(cur s).a⟩) hat f2;have:=h2.2;have:=n2.le;have:=g2'.le;omega
  ·exact pR h ⟨h2.1.trans n2,by have:=h2.2;have:=n2.le;omega⟩ ((iA _).2.trans x1.2) (e:=⟨xS (cur s).t,if xS (cur s).t=9 then(cur s).t else [],[],[],(cur s).a⟩) hat λroots hr=>by rw[(iA _).1];show cS (exL (bC s).ex) _;rw[x1.1];exact hr
 have hca:InN N (cur s).a:=⟨hc.1,hc.2.1⟩;have iH:∀w,isS (bC s) w=isS s w:=λw=>by unfold isS;rw[kO]
 split
 ·rename_i hi;rw[iH]at hi;refine(lA hw1 (a:=(cur s).a) (q:=true) hca (P:=λx s'=>Later N {bC s with deep:=(bC s).deep+1,quiet:=true} s'/\s'.bl=s.bl/\∀roots,cS (exL s.ex) roots->cS (exL s'.ex) (x::roots)) λhw=>?_).mono λx s2 ⟨q,⟨g2,b2,f2⟩,e2⟩=>?_
  ·have hh:=oJ h hi ((bC s).deep+1) true;have h4:=jJ hw hh.2.1;rw[hh.1]at h4;refine(hE _ (h4.1.ws hw)).bind λx q1 ⟨g1,b1,f1⟩=>?_;refine(kB (g1.1.ws (h4.1.ws hw)) [41]).bind λ_ q2 ⟨g2,e2,b2⟩=>?_;refine⟨h4.tr (g1.tr g2),b2.trans (b1.trans x1.2),λroots hr=>?_⟩;rw[e2];exact f1 roots (by show cS (exL (bC s).ex) _;rw[x1.1];exact hr)
  ·subst e2;have g2':=g2.1.back;exact⟨⟨n1.trans g2',by have:=n1.le;have:=g2.2;show s.i<q.i;simp only at this;omega⟩,b2,f2⟩
 split
 ·rename_i hi;rw[iH]at hi;refine Sat.bind (lA hw1 (a:=(cur s).a) (q:=true) hca (P:=λ(e:Ex) s'=>Later N {bC s with deep:=(bC s).deep+1,quiet:=true} s'/\s'.bl=s.bl/\(0<=e.a/\e.a<N)/\∀roots,cS (exL s.ex) roots->cS (exL s'.ex) (e.args++roots)) λhw=>?_) λe s2 ⟨q,⟨g2,b2,a2,f2⟩,e2⟩=>?_
  ·have hh:=oJ h hi ((bC s).deep+1) true;refine(QE hE hw hh.2.1 hh.1 ⟨hc.1,hc.2.2.1 (lZ hi)⟩).mono λe s' ⟨g,b,a,f⟩=>⟨g,b.trans x1.2,a,λroots hr=>f roots (by show cS (exL (bC s).ex) _;rw[x1.1];exact hr)⟩
  ·subst e2;have g2':=g2.1.back;exact pR h ⟨n1.trans g2',by have:=n1.le;have:=g2.2;show s.i<q.i;simp only at this;omega⟩ b2 a2 f2
 split
 ·rename_i hi;rw[iH]at hi;refine Sat.bind (lA hw1 (a:=(cur s).a) (q:=false) hca (P:=λ(e:Ex) s'=>Later N {bC s with deep:=(bC s).deep+1,quiet:=false} s'/\s'.bl=s.bl/\(0<=e.a/\e.a<N)/\∀roots,cS (exL s.ex) roots->cS (exL s'.ex) (e.args++roots)) λhw=>?_) λe s2 ⟨q,⟨g2,b2,a2,f2⟩,e2⟩=>?_
  ·have hh:=oJ h hi ((bC s).deep+1) false;have h4:=jJ hw hh.2.1;rw[hh.1]at h4;have l4:=mL (h4.1.ws hw);unfold NK;refine(Mn hE ⟨hc.1,hc.2.2.1 (lZ hi)⟩ _ _ [] [] (l4.1.ws (h4.1.ws hw))).mono λe s' ⟨g,b,a,f⟩=>⟨h4.tr (Go1.tr l4.1 g),b.trans (l4.2.2.trans x1.2),a,λroots hr=>f roots (by rw[l4.2.1];show cS (exL (bC s).ex) _;rw[x1.1];exact hr)⟩
  ·subst e2;have g2':=g2.1.back;exact pR h ⟨n1.trans g2',by have:=n1.le;have:=g2.2;show s.i<q.i;simp only at this;omega⟩ b2 a2 f2
 ·exact hca
abbrev RZ(N:Int)(s:PS)(x:Nat)(y:Nat)(s':PS):Prop:=Go1 N s s'/\s'.bl=s.bl/\∀roots,cS (exL s.ex) (x::roots)->cS (exL s'.ex) (y::roots)
theorem Fu(hE:EOk N E):∀(n:Nat) (s:PS) (x:Nat),WS N s->Sat (rG E n s x) (RZ N s x) (InN N)
 |0,s,_,h=>⟨oF _,h.pN⟩
 |n+1,s,x,h=>by
  have n1:=gE h
  have hw1:=n1.ws h
  have hc:=jU h
  have x1:=iA s
  have iH:∀w,isS (bC s) w=isS s w:=λw=>by unfold isS;rw[kO]
  have hca:InN N (cur s).a:=⟨hc.1,hc.2.1⟩
  have more:∀{s2:PS} {e:Ex},Go1 N s s2->s2.bl=s.bl->0<=e.a/\e.a<N->(∀roots,cS (exL s.ex) (x::roots)->cS (exL s2.ex) (e.args++roots))->Sat ((qT s2 e).bind λy s3=>rG E n s3 y) (RZ N s x) (InN N):=λ{s2 e} g2 b2 ha f2=>by
   refine(AJ (g2.ws h) ha).bind λy s3 ⟨g3,_,b3,f3⟩=>?_
   exact(Fu hE n s3 y (g3.ws (g2.ws h))).mono λz s4 ⟨g4,b4,f4⟩=>⟨g2.trans (g3.trans g4),b4.trans (b3.trans b2),λroots hr=>f4 roots (f3 roots (f2 roots hr))⟩
  simp only[rG]
  have t1:=jI hw1 [46]
  split
  ·rename_i ht
   have hk0:(cur s).k≠0:=by
    have:isS (bC s) [46]=true:=by
     unfold bX at ht;split at ht
     ·assumption
     ·cases ht
    rw[iH]at this;exact lZ this
   have hw2:=t1.1.ws hw1;refine(lN hw2 1 (by decide)).bind λu s2 ⟨g2,x2,b2,_⟩=>?_;exact more (e:=⟨10,u.t,[x],[],(cur s).a⟩) (n1.trans (t1.1.trans g2.1)) (b2.trans (t1.2.2.2.trans x1.2)) ⟨hc.1,hc.2.2.1 hk0⟩ λroots hr=>by rw[x2,t1.2.2.1,x1.1];exact hr
  split
  ·rename_i hi;rw[iH]at hi;have hat:0<=(cur s).a/\(cur s).a<N:=⟨hc.1,hc.2.2.1 (lZ hi)⟩;refine Sat.bind (lA hw1 (a:=(cur s).a) (q:=true) hca (P:=λ(o:Option Nat) s'=>Go1 N {bC s with deep:=(bC s).deep+1,quiet:=true} s'/\s'.bl=s.bl/\(o=none->s'.ex=s.ex)/\∀y,o=some y->∀roots,cS (exL s.ex) roots->cS (exL s'.ex) (y::roots)) λhw=>?_) λo s2 ⟨q,⟨g2,b2,f2,f2'⟩,e2⟩=>?_
   ·have hh:=oJ h hi ((bC s).deep+1) true;have h4:=jJ hw hh.2.1;rw[hh.1]at h4;have hw4:=h4.1.ws hw;have t4:=jI hw4 [42];have ex4:(step1 {bC s with deep:=(bC s).deep+1,quiet:=true}).ex=s.ex:=x1.1;have bl4:(step1 {bC s with deep:=(bC s).deep+1,quiet:=true}).bl=s.bl:=x1.2;split
    ·refine(kB (t4.1.ws hw4) [93]).bind λ_ q2 ⟨g5,x5,b5⟩=>?_;exact⟨h4.1.trans (t4.1.trans g5.1),b5.trans (t4.2.2.2.trans bl4),λ_=>x5.trans (t4.2.2.1.trans ex4),λy e=>by cases e⟩
    ·refine(hE _ (t4.1.ws hw4)).bind λy q1 ⟨g5,b5,f5⟩=>?_;refine(kB (g5.1.ws (t4.1.ws hw4)) [93]).bind λ_ q2 ⟨g6,x6,b6⟩=>?_;refine⟨h4.1.trans (t4.1.trans (g5.1.trans g6.1)),b6.trans (b5.trans (t4.2.2.2.trans bl4)),λe=>(by cases e),λz e roots hr=>?_⟩;injection e with e
     subst e;rw[x6];exact f5 roots (by rw[t4.2.2.1,ex4];exact hr)
   ·subst e2;have g2':=g2.back;have g02:=n1.trans g2';cases o with
    |some y=>
     simp only;refine more (e:=⟨11,[],[x,y],[],(cur s).a⟩) g02 b2 hat λroots hr=>?_;exact(f2' y rfl _ hr).perm (List.Perm.swap _ _ _)
    |none=>
     simp only;have hw2:=g02.ws h;refine(kB hw2 [46]).bind λ_ s3 ⟨g3,x3,b3⟩=>?_;refine(lN (g3.1.ws hw2) 1 (by decide)).bind λu s4 ⟨g4,x4,b4,_⟩=>?_;exact more (e:=⟨30,u.t,[x],[],(cur s).a⟩) (g02.trans (g3.1.trans g4.1)) (b4.trans (b3.trans b2)) hat λroots hr=>by rw[x4,x3];show cS (exL q.ex) _;rw[f2 rfl];exact hr
  ·exact⟨n1,x1.2,λroots hr=>by rw[x1.1];exact hr⟩
theorem PH(hE:EOk N E):EOk N (Dq E):=by
 intro s h;unfold Dq;refine(Kg hE s h).bind λx s1 ⟨g1,b1,f1⟩=>?_;exact(Fu hE _ s1 x (g1.1.ws h)).mono λy s2 ⟨g2,b2,f2⟩=>⟨⟨g1.1.trans g2,by have:=g1.2;have:=g2.le;omega⟩,b2.trans b1,λroots hr=>f2 roots (f1 roots hr)⟩
theorem Dh(hE:EOk N E)(hS:EOk N S):EOk N (zV E S):=by
 intro s h;have n1:=gE h;have hw1:=n1.ws h;have hc:=jU h;have x1:=iA s;have iH:∀w,isS (bC s) w=isS s w:=λw=>by unfold isS;rw[kO]
 have hca:InN N (cur s).a:=⟨hc.1,hc.2.1⟩;have one:∀(w:Str) (k:Int),isS s w=true->Sat ((within (bC s) (cur s).a (bC s).quiet λq=>S (step1 q)).bind λx s2=>qT s2 ⟨k,[],[x],[],(cur s).a⟩) (Leaves N s) (InN N):=λw k hi=>by
  refine Sat.bind (lA hw1 (a:=(cur s).a) (q:=(bC s).quiet) hca (P:=λx s'=>Later N {bC s with deep:=(bC s).deep+1,quiet:=(bC s).quiet} s'/\s'.bl=s.bl/\∀roots,cS (exL s.ex) roots->cS (exL s'.ex) (x::roots)) λhw=>?_) λx s2 ⟨q,⟨g2,b2,f2⟩,e2⟩=>?_
  ·have hh:=oJ h hi ((bC s).deep+1) (bC s).quiet;have h4:=jJ hw hh.2.1;rw[hh.1]at h4;refine(hS _ (h4.1.ws hw)).mono λx q1 ⟨g1,b1,f1⟩=>⟨h4.tr g1,b1.trans x1.2,λroots hr=>f1 roots (by show cS (exL (bC s).ex) _;rw[x1.1];exact hr)⟩
  ·subst e2;have g2':=g2.1.back;exact pR h ⟨n1.trans g2',by have:=n1.le;have:=g2.2;show s.i<q.i;simp only at this;omega⟩ b2 (e:=⟨k,[],[x],[],(cur s).a⟩) ⟨hc.1,hc.2.2.1 (lZ hi)⟩ f2
 unfold zV;simp only;split
 ·rename_i hi;rw[iH]at hi;exact one [33] 14 hi
 split
 ·rename_i hi;rw[iH]at hi;exact one [45] 13 hi
 ·exact(PH hE (bC s) hw1).mono λx s2 ⟨g2,b2,f2⟩=>⟨⟨n1.trans g2.1,by have:=n1.le;have:=g2.2;omega⟩,b2.trans x1.2,λroots hr=>f2 roots (by rw[x1.1];exact hr)⟩
theorem FL{J:PS->R Nat}(hJ:EOk N J)(k:Nat):∀(f:Nat) (s:PS) (x:Nat),WS N s->Sat (AQ J k f s x) (RZ N s x) (InN N)
 |0,s,_,h=>⟨oF _,h.pN⟩
 |f+1,s,x,h=>by
  have n1:=gE h
  have x1:=iA s
  have hc:=jU h
  simp only[AQ]
  split
  ·exact⟨n1,x1.2,λroots hr=>by rw[x1.1];exact hr⟩
  ·rename_i hl
   have hk0:(cur s).k≠0:=λe=>hl (by unfold wL;rw[e];rfl)
   have h2:=jJ h hk0
   refine(hJ _ (h2.1.ws h)).bind λb s1 ⟨g1,b1,f1⟩=>?_
   have g01:=h2.1.trans g1.1
   refine(AJ (g01.ws h) (e:=⟨wL (cur s) k,[],[x,b],[],(cur s).a⟩) ⟨hc.1,hc.2.2.1 hk0⟩).bind λy s2 ⟨g2,_,b2,f2⟩=>?_
   refine(FL hJ k f s2 y (g2.ws (g01.ws h))).mono λz s3 ⟨g3,b3,f3⟩=>⟨g01.trans (g2.trans g3),b3.trans (b2.trans (b1.trans x1.2)),λroots hr=>f3 roots (f2 roots ?_)⟩
   exact(f1 _ (by show cS (exL (bC s).ex) _;rw[x1.1];exact hr)).perm (List.Perm.swap _ _ _)
theorem vP(hE:EOk N E)(hS:EOk N S):∀m,EOk N (uB E S m)
 |0=>Dh hE hS
 |m+1=>λs h=>by
  simp only[uB]
  refine(vP hE hS m s h).bind λa s1 ⟨g1,b1,f1⟩=>?_
  exact(FL (vP hE hS m) (5-m) _ s1 a (g1.1.ws h)).mono λy s2 ⟨g2,b2,f2⟩=>⟨⟨g1.1.trans g2,by have:=g1.2;have:=g2.le;omega⟩,b2.trans b1,λroots hr=>f2 roots (f1 roots hr)⟩
theorem JE(hE:EOk N E)(hS:EOk N S):EOk N (Cr E S):=by
 intro s h;unfold Cr;refine(vP hE hS 6 s h).bind λa s1 ⟨g1,b1,f1⟩=>?_;have hw1:=g1.1.ws h;have hc:=jU hw1;have t1:=jI hw1 [63];have hw2:=t1.1.ws hw1;simp only;split
 ·rename_i ht;have hk0:(cur s1).k≠0:=by
   have:isS s1 [63]=true:=by
    unfold bX at ht;split at ht
    ·assumption
    ·cases ht
   exact lZ this
  refine Sat.bind (lA hw2 (a:=(cur s1).a) (q:=(bX s1 [63]).2.quiet) ⟨hc.1,hc.2.1⟩ (P:=λ(z:Nat×Nat) s'=>Go1 N {(bX s1 [63]).2 with deep:=(bX s1 [63]).2.deep+1,quiet:=(bX s1 [63]).2.quiet} s'/\s'.bl=s.bl/\∀roots,cS (exL s.ex) roots->cS (exL s'.ex) ([a,z.1,z.2]++roots)) λhw=>?_) λz s2 ⟨q,⟨g2,b2,f2⟩,e2⟩=>?_
  ·refine(hE _ hw).bind λx q1 ⟨g3,b3,f3⟩=>?_;have hw3:=g3.1.ws hw;refine(kB hw3 [58]).bind λ_ q2 ⟨g4,x4,b4⟩=>?_;have hw4:=g4.1.ws hw3;refine(hE _ hw4).bind λy q3 ⟨g5,b5,f5⟩=>?_;refine⟨g3.1.trans (g4.1.trans g5.1),b5.trans (b4.trans (b3.trans (t1.2.2.2.trans b1))),λroots hr=>?_⟩;have k1:=f3 _ (by show cS (exL (bX s1 [63]).2.ex) _;rw[t1.2.2.1];exact f1 roots hr);have k2:=f5 _ (by rw[x4];exact k1);refine k2.perm ?_;show(y::x::a::roots).Perm (a::x::y::roots);exact((List.Perm.swap x y _).trans ((List.Perm.swap a y _).cons x)).trans (List.Perm.swap a x _)
  ·subst e2;have g2':=g2.back;exact pR h ⟨g1.1.trans (t1.1.trans g2'),by have:=g1.2;have:=t1.1.le;have:=g2.le;show s.i<q.i;simp only at this;omega⟩ b2 (e:=⟨28,[],[a,z.1,z.2],[],(cur s1).a⟩) ⟨hc.1,hc.2.2.1 hk0⟩ f2
 ·exact⟨⟨g1.1.trans t1.1,by have:=g1.2;have:=t1.1.le;omega⟩,t1.2.2.2.trans b1,λroots hr=>by rw[t1.2.2.1];exact f1 roots hr⟩
end
theorem zJ(N:Int):EOk N dead:=λ_ h=>⟨oF _,h.pN⟩
theorem sU(N:Int):∀d,EOk N (sV d).1/\EOk N (sV d).2
 |0=>⟨JE (zJ N) (zJ N),Dh (zJ N) (zJ N)⟩
 |d+1=>⟨JE (sU N d).1 (sU N d).2,Dh (sU N d).1 (sU N d).2⟩
def wt(t:Tok):Nat:=if t.k=0 then 0 else if t.k=3/\(insP t.t).isSome=true then t.t.length+2 else 1
def wts(l:List Tok):Nat:=(l.map wt).sum
def phi(s:PS):Nat:=s.ex.length+s.bl.length+wts (s.toks.drop s.i)
theorem Ax(t:Tok)(l:List Tok):wts (t::l)=wt t+wts l:=by simp[wts]
theorem sE:∀(l:List Tok) (i:Nat),wts (l.drop i)<=wts l
 |[],i=>by simp
 |t::l,0=>aS _
 |t::l,i+1=>by
  rw[cQ,Ax]
  have:=sE l i
  omega
theorem Is:∀(n:Nat) (s:Str) (a cnt:Nat) (l:List Tok),nC n s a cnt=.ok l->wts l<=s.length
 |0,_,_,_,_,h=>by simp[nC]at h
 |n+1,s,a,cnt,l,h=>by
  have hk:=wD (s.length+1) s
  simp only[nC]at h
  split at h
  ·cases h
  split at h
  ·injection h with h
   subst h
   rw[Ax]
   simp[wt,wts]
  rename_i hr
  split at h
  ·cases h
  rename_i ho
  split at h
  ·cases h
  have hlen:s.length-(fQ (s.length+1) s).1=(s.drop (fQ (s.length+1) s).1).length:=(aQ ..).symm
  obtain⟨o1,o2,o3,o4,o5,o6⟩:=Hc hr (fU rfl (fU rfl (sD.1 ho)):oW (s.drop (fQ (s.length+1) s).1)=((oW (s.drop (fQ (s.length+1) s).1)).1,(oW (s.drop (fQ (s.length+1) s).1)).2.1,0))
  split at h
  ·rename_i l' hl'
   injection h with h
   subst h
   have ih:=Is n _ _ _ _ hl'
   rw[aQ]at ih
   rw[Ax]
   have:wt ⟨(oW (s.drop (fQ (s.length+1) s).1)).1.k,(oW (s.drop (fQ (s.length+1) s).1)).1.t,((a+(fQ (s.length+1) s).1:Nat):Int)⟩<=(oW (s.drop (fQ (s.length+1) s).1)).2.1:=by
    unfold wt;split
    ·omega
    split
    ·rename_i hx;rcases o6 hx.1 with h|h
     ·rw[h]at hx;simp at hx
     ·exact h
    ·omega
   omega
  ·rename_i hne;exact absurd h (hne l)
theorem GO{s:Str}{l:List Tok}(h:qH s=.ok l):wts l<=s.length:=by
 unfold qH at h;split at h
 ·cases h
 split at h
 ·cases h
 exact Is _ _ _ _ _ h
abbrev TT:Int->Prop:=λ_=>True
theorem jT(s:PS):phi (bC s)<=phi s:=by
 unfold bC;split
 ·unfold phi;simp only;have:=sE (s.toks.drop s.i) (gZ (s.toks.drop s.i));rw[gT]at this;omega
 ·exact aS _
theorem AK{s:PS}(h:(lW s).k≠0):phi (step1 s)+wt (lW s)<=phi s:=by
 have hlt:s.i<s.toks.length:=by
  by_cases hl:s.i<s.toks.length
  ·exact hl
  ·unfold lW at h;rw[List.getD_eq_getElem?_getD,List.getElem?_eq_none (by omega)]at h;exact absurd rfl h
 unfold phi step1;simp only;rw[cA hlt,Ax];have:lW s=s.toks[s.i]:=by unfold lW;rw[List.getD_eq_getElem?_getD,List.getElem?_eq_getElem hlt];rfl
 rw[this];omega
theorem GF{t:Tok}(h:t.k≠0):1<=wt t:=by unfold wt;rw[aE h];split<;>omega
theorem oV{s:PS}(h:(cur s).k≠0):phi (step1 (bC s))+wt (lW (bC s))<=phi s/\phi (step1 (bC s))+1<=phi s:=by
 have h':(lW (bC s)).k≠0:=h;have h1:=AK h';have h2:=jT s;have h3:=GF h';omega
theorem kR(s:PS)(w:Str):phi (bX s w).2<=phi s/\((bX s w).1=true->phi (bX s w).2+1<=phi s):=by
 unfold bX;split
 ·rename_i hi;have:=(oV (lZ hi)).2;exact⟨Nat.le_of_succ_le this,λ_=>this⟩
 ·exact⟨jT s,λe=>by cases e⟩
theorem kQ(s:PS)(w:Str):Sat (oH s w) (λ_ s'=>phi s'+1<=phi s) TT:=by
 unfold oH;split
 ·rename_i hi;exact(oV (lZ hi)).2
 ·trivial
theorem vK(s:PS):phi (iW s)<=phi s/\((cur s).k≠0->phi (iW s)+wt (lW (bC s))<=phi s/\phi (iW s)+1<=phi s):=by
 unfold iW;split
 ·rename_i hk;have:=oV hk;exact⟨by omega,λ_=>this⟩
 ·rename_i hk;exact⟨jT s,λe=>absurd e hk⟩
theorem nP(s:PS)(k:Int):Sat (lO s k) (λ_ s'=>phi s'<=phi s/\(k≠0->phi s'+1<=phi s)) TT:=by
 unfold lO;split
 ·rename_i hk;have:=vK s;exact⟨this.1,λh=>(this.2 (by rw[hk];exact h)).2⟩
 ·trivial
theorem vL(s:PS):phi (gI s)<=phi s:=by
 have h:=jT s;unfold gI phi at*
 simp only at*
 have e:(bC s).toks=s.toks:=by unfold bC;split<;>rfl
 have:=sE ((bC s).toks.drop (bC s).i) (gZ (s.toks.drop (bC s).i));rw[gT]at this;omega
theorem kK(s:PS)(e:Ex):Sat (qT s e) (λ_ s'=>phi s'<=phi s+1) TT:=by
 show phi _<=_;unfold phi;simp only[aX,aB,aM];omega
theorem lD{α:Type}{s:PS}{a:Int}{q:Bool}{f:PS->R α}{P:α->Nat->Prop}(h:Sat (f {s with deep:=s.deep+1,quiet:=q}) (λx s'=>P x (phi s')) TT):Sat (within s a q f) (λx s'=>P x (phi s')) TT:=by
 unfold within;split
 ·trivial
 ·exact h.bind λx s' hx=>hx
def EZ(F:PS->R Nat):Prop:=∀s,Sat (F s) (λ_ s'=>phi s'<=phi s) TT
section
variable{E S:PS->R Nat}
theorem Fz(hE:EZ E)(s:PS)(t:Str)(a:Int):Sat (oZ E s t a) (λ_ s'=>phi s'<=phi s+t.length) TT:=by
 unfold oZ;split
 ·trivial
 ·rename_i l hs;have hw:=GO hs;refine(hE _).bind λx q hq=>?_;refine(nP q 0).bind λ_ q' hq'=>?_;have h1:phi q'<=s.ex.length+s.bl.length+wts l:=cI hq'.1 hq;show phi _<=_;unfold phi at h1⊢;simp only;omega
theorem Fw(s:PS)(t:Tok):Sat (pS s t) (λ_ s'=>s'=s) TT:=by
 unfold pS;split
 ·trivial
 ·rfl
theorem Bu(hE:EZ E):∀(n:Nat) (s:PS) (rest:Str) (a:Int) (us:List Nat) (ks:List Str),Sat (nI E n s rest a us ks) (λ_ s'=>phi s'<=phi s+rest.length) TT
 |0,_,_,_,_,_=>trivial
 |n+1,s,rest,a,us,ks=>by
  have one:∀(e:Ex),phi {s with ex:=s.ex++[e]}<=phi s+1:=λe=>kK s e
  simp only[nI]
  split
  ·exact Nat.le_add_right _ _
  rename_i hne
  have hpos:1<=rest.length:=dP.2 hne
  split
  ·have:=one ⟨5,kD rest,[],[],a⟩
   show phi _<=_
   omega
  ·rename_i i e hi
   obtain⟨i1,i2,i3⟩:=AS rest.length rest (aS _) i e hi
   have hs1:∃s1,s1=(if 0<i then{s with ex:=s.ex++[⟨5,kD (rest.take i),[],[],a⟩]}else s)/\phi s1<=phi s+i:=by
    refine⟨_,rfl,?_⟩;split
    ·have:=one ⟨5,kD (rest.take i),[],[],a⟩;omega
    ·omega
   obtain⟨s1,e1,g1⟩:=hs1;rw[<-e1];have hd:(rest.drop e).length=rest.length-e:=aQ ..;split
   ·refine Sat.bind (lD (P:=λ_ n=>n<=phi s1+(e-1-(i+2))) ?_) λx s2 h2=>?_
    ·refine(Fz hE _ _ _).mono λx s' h=>?_;refine cI h ?_;have:((rest.drop (i+2)).take (e-1-(i+2))).length<=e-1-(i+2):=List.length_take_le _ _;exact wA this _
    ·refine(Bu hE n s2 (rest.drop e) _ _ _).mono λy s3 h3=>?_;rw[hd]at h3;omega
   ·refine(Bu hE n s1 (rest.drop e) _ _ _).mono λy s3 h3=>?_;rw[hd]at h3;omega
theorem PO(hE:EZ E)(s:PS)(t:Tok)(hk:t.k=3):Sat (Cd E s t) (λ_ s'=>phi s'<=phi s+wt t) TT:=by
 unfold Cd;split
 ·rename_i hi;have e:wt t=t.t.length+2:=by unfold wt;rw[aE (by omega),aJ ⟨hk,hi⟩]
  refine(Bu hE _ s t.t _ _ _).bind λx s1 h1=>?_;refine(kK s1 _).mono λy s2 h2=>?_;omega
 ·rename_i hi;have e:wt t=1:=by unfold wt;rw[aE (by omega),aE (λh=>hi h.2)]
  rw[e];exact kK s _
theorem FB(hE:EZ E)(w:Str):∀(n:Nat) (s:PS) (out:List Nat),Sat (tA E w n s out) (λ_ s'=>phi s'<=phi s) TT
 |0,_,_=>trivial
 |n+1,s,out=>by
  have t1:=kR s w
  have step:∀{s1:PS},phi s1<=phi s->Sat ((E s1).bind λx s'=>tA E w n s' (out++[x])) (λ_ s'=>phi s'<=phi s) TT:=λ{s1} g1=>
   (hE s1).bind λx s2 g2=>(FB hE w n s2 (out++[x])).mono λy s3 g3=>by omega
  simp only[tA]
  split
  ·exact t1.1
  split
  ·rename_i ho
   have:=step t1.1
   exact this
  ·refine(kQ _ [44]).bind λ_ s1 g1=>?_
   have t2:=kR s1 w
   split
   ·show phi _<=_
    omega
   ·exact step (by omega)
theorem IP(hE:EZ E)(w:Str)(s:PS):Sat (Eu E w s) (λ_ s'=>phi s'<=phi s) TT:=FB hE w _ s []
theorem PQ(hE:EZ E){s:PS}(h:(cur s).k≠0)(hn:bC s=s)(a:Int):Sat (Ci E s a) (λ_ s'=>phi s'+1<=phi s) TT:=by
 have h0:=(oV h).2;rw[hn]at h0;have h1:=jT (step1 s);unfold Ci;simp only;split
 ·refine(IP hE [93] _).bind λus s1 g1=>?_;show phi s1+1<=_;omega
 ·rename_i hc;have hk1:(cur (step1 s)).k≠0:=λe=>hc (.inl (by rw[e];decide));have h2:=(oV hk1).2;refine(nP _ 1).bind λt s2 g2=>(nP s2 1).bind λu s3 g3=>?_;split
  ·trivial
  refine(hE s3).bind λx s4 g4=>(kQ s4 _).bind λ_ s5 g5=>(hE s5).bind λy s6 g6=>(kQ s6 _).bind λ_ s7 g7=>?_;show phi s7+1<=_;omega
theorem IL(hE:EZ E)(a:Int):∀(n:Nat) (s:PS) (us:List Nat) (ks:List Str),Sat (EE E a n s us ks) (λ_ s'=>phi s'<=phi s) TT
 |0,_,_,_=>trivial
 |n+1,s,us,ks=>by
  have t1:=kR s [125]
  have n1:=vK (bX s [125]).2
  simp only[EE]
  split
  ·exact t1.1
  refine Sat.bind (P:=λ_ s3=>s3=iW (bX s [125]).2) ?_ λk s3 e3=>?_
  ·split
   ·exact Fw _ _
   ·split
    ·rfl
    ·trivial
  subst e3
  split
  ·trivial
  refine(kQ _ [61]).bind λ_ s4 g4=>(hE s4).bind λx s5 g5=>?_
  have t5:=kR s5 [44]
  have m5:=jT (bX s5 [44]).2
  split
  ·trivial
  have l6:phi (if(bX s5 [44]).1=true then(bX s5 [44]).2 else bC (bX s5 [44]).2)<=phi s5:=by split<;>omega
  generalize (if(bX s5 [44]).1=true then(bX s5 [44]).2 else bC (bX s5 [44]).2)=s6 at*
  have l7:=vL s6
  refine(IL hE a n (gI s6) _ _).mono λe s8 g8=>?_
  omega
theorem IN(hE:EZ E):EZ (Be E):=by
 intro s;have n1:=jT s;have iH:∀w,isS (bC s) w=isS s w:=λw=>by unfold isS;rw[kO]
 unfold Be;simp only;split
 ·rename_i hk;have h2:=(oV (s:=s) (by rw[hk];decide)).2;exact(kK _ _).mono λx s' g=>by omega
 split
 ·rename_i hk;have h2:=(oV (s:=s) (by rw[hk];decide)).1;refine(PO hE _ _ hk).mono λx s' g=>?_;have e:wt (cur s)=wt (lW (bC s)):=rfl;omega
 split
 ·rename_i hk;have h2:=(oV (s:=s) (by rw[hk.1];decide)).2;have n2:=jT (step1 (bC s));split
  ·rename_i hi;refine Sat.bind (lD (P:=λ_ n=>n<=phi (bC (step1 (bC s)))) ?_) λus s2 g2=>?_
   ·refine(IP hE [41] _).mono λx s' g=>cI g ?_;show phi (step1 _)<=_;exact wA (by have:=sE ((bC (step1 (bC s))).toks.drop (bC (step1 (bC s))).i) 1;rw[gT]at this;exact this) _
   ·exact(kK s2 _).mono λx s' g=>by omega
  ·exact(kK _ _).mono λx s' g=>by omega
 have step1_le:∀(s:PS),phi (step1 s)<=phi s:=λs=>wA (by have:=sE (s.toks.drop s.i) 1;rw[gT]at this;exact this) _;have ph:∀(s:PS) (d:Nat) (q:Bool),phi {s with deep:=d,quiet:=q}=phi s:=λ_ _ _=>rfl;split
 ·refine Sat.mono (lD (P:=λ_ n=>n<=phi (bC s)) ?_) λx s' g=>by omega
  refine(hE _).bind λx q1 g1=>(kQ q1 _).bind λ_ q2 g2=>?_;show phi q2<=_;have h1:=step1_le (bC s);have h2:phi q1<=phi (step1 (bC s)):=g1;omega
 split
 ·rename_i hi;rw[iH]at hi;have hk:(lW (bC s)).k≠0:=lZ hi;have h4:(lW (bC s)).k=4:=by
   unfold isS cur at hi;simp only[aL,bA]at hi;exact hi.1
  refine Sat.bind (lD (P:=λ_ n=>n+1<=phi (bC s)) ?_) λe s2 g2=>?_
  ·have hr:bC {bC s with deep:=(bC s).deep+1,quiet:=true}={bC s with deep:=(bC s).deep+1,quiet:=true}:=by
    have hlt:(bC s).i<(bC s).toks.length:=by
     by_cases hl:(bC s).i<(bC s).toks.length
     ·exact hl
     ·unfold lW at hk;rw[List.getD_eq_getElem?_getD,List.getElem?_eq_none (by omega)]at hk;exact absurd rfl hk
    have:gZ ((bC s).toks.drop (bC s).i)=0:=by
     refine IA (t:=lW (bC s)) ?_ (by omega);unfold lW;rw[List.getD_eq_getElem?_getD,List.getElem?_eq_getElem hlt];rfl
    unfold bC;simp only[gM];show({bC s with i:=(bC s).i+gZ ((bC s).toks.drop (bC s).i),deep:=(bC s).deep+1,quiet:=true}:PS)=_;rw[this];rfl
   refine(PQ hE ?_ hr _).mono λe s' g=>g;unfold cur;rw[hr];exact hk
  ·exact(kK s2 _).mono λx s' g=>by omega
 split
 ·rename_i hi;rw[iH]at hi;have hk:(lW (bC s)).k≠0:=lZ hi;have h1:=AK hk;have h2:=GF hk;refine Sat.bind (lD (P:=λ_ n=>n+1<=phi (bC s)) ?_) λe s2 g2=>?_
  ·unfold NK;refine(IL hE _ _ _ [] []).mono λe s' g=>?_;have h3:=vL (step1 (⟨(bC s).toks,(bC s).i,(bC s).off,(bC s).deep+1,false,(bC s).ex,(bC s).bl⟩:PS));have h4:phi (step1 (⟨(bC s).toks,(bC s).i,(bC s).off,(bC s).deep+1,false,(bC s).ex,(bC s).bl⟩:PS))=phi (step1 (bC s)):=rfl;omega
  ·exact(kK s2 _).mono λx s' g=>by omega
 ·trivial
theorem yX(hE:EZ E):∀(n:Nat) (s:PS) (x:Nat),Sat (rG E n s x) (λ_ s'=>phi s'<=phi s) TT
 |0,_,_=>trivial
 |n+1,s,x=>by
  have n1:=jT s
  have t1:=kR (bC s) [46]
  have iH:∀w,isS (bC s) w=isS s w:=λw=>by unfold isS;rw[kO]
  have step1_le:∀(s:PS),phi (step1 s)<=phi s:=λs=>wA (by have:=sE (s.toks.drop s.i) 1;rw[gT]at this;exact this) _
  simp only[rG]
  split
  ·rename_i ht
   refine(nP _ 1).bind λu s2 g2=>(kK s2 _).bind λy s3 g3=>(yX hE n s3 y).mono λz s4 g4=>?_
   have:=t1.2 ht
   have:=g2.2 (by decide)
   omega
  split
  ·rename_i hi
   rw[iH]at hi
   have hk:(lW (bC s)).k≠0:=lZ hi
   have h1:=AK hk
   have h2:=GF hk
   refine Sat.bind (lD (P:=λ_ n=>n+1<=phi (bC s)) ?_) λo s2 g2=>?_
   ·have h4:phi (step1 (⟨(bC s).toks,(bC s).i,(bC s).off,(bC s).deep+1,true,(bC s).ex,(bC s).bl⟩:PS))=phi (step1 (bC s)):=rfl
    have t5:=kR (step1 (⟨(bC s).toks,(bC s).i,(bC s).off,(bC s).deep+1,true,(bC s).ex,(bC s).bl⟩:PS)) [42]
    split
    ·refine(kQ _ _).bind λ_ q2 g=>?_
     show phi q2+1<=_
     omega
    ·refine(hE _).bind λy q1 g=>(kQ q1 _).bind λ_ q2 g'=>?_
     show phi q2+1<=_
     omega
   ·cases o with
    |some y=>
     simp only
     exact(kK s2 _).bind λz s3 g3=>(yX hE n s3 z).mono λz s4 g4=>by omega
    |none=>
     simp only
     exact(kQ s2 _).bind λ_ s3 g3=>(nP s3 1).bind λu s4 g4=>(kK s4 _).bind λz s5 g5=>(yX hE n s5 z).mono λz s6 g6=>by have:=g4.1;omega
  ·exact n1
theorem PP(hE:EZ E):EZ (Dq E):=λs=>by
 unfold Dq
 exact(IN hE s).bind λx s1 g1=>(yX hE _ s1 x).mono λy s2 g2=>by omega
theorem Dr(hE:EZ E)(hS:EZ S):EZ (zV E S):=by
 intro s;have n1:=jT s;have iH:∀w,isS (bC s) w=isS s w:=λw=>by unfold isS;rw[kO]
 have one:∀(w:Str) (k:Int),isS s w=true->Sat ((within (bC s) (cur s).a (bC s).quiet λq=>S (step1 q)).bind λx s2=>qT s2 ⟨k,[],[x],[],(cur s).a⟩) (λ_ s'=>phi s'<=phi s) TT:=λw k hi=>by
  have hk:(lW (bC s)).k≠0:=lZ hi;have h1:=AK hk;have h2:=GF hk;refine Sat.bind (lD (P:=λ_ n=>n+1<=phi (bC s)) ?_) λx s2 g2=>?_
  ·refine(hS _).mono λx s' g=>?_;have h4:phi (step1 (⟨(bC s).toks,(bC s).i,(bC s).off,(bC s).deep+1,(bC s).quiet,(bC s).ex,(bC s).bl⟩:PS))=phi (step1 (bC s)):=rfl;omega
  ·exact(kK s2 _).mono λy s3 g3=>by omega
 unfold zV;simp only;split
 ·rename_i hi;rw[iH]at hi;exact one [33] 14 hi
 split
 ·rename_i hi;rw[iH]at hi;exact one [45] 13 hi
 ·exact(PP hE (bC s)).mono λx s2 g2=>by omega
theorem Fx{J:PS->R Nat}(hJ:EZ J)(k:Nat):∀(f:Nat) (s:PS) (x:Nat),Sat (AQ J k f s x) (λ_ s'=>phi s'<=phi s) TT
 |0,_,_=>trivial
 |f+1,s,x=>by
  have n1:=jT s
  simp only[AQ]
  split
  ·exact n1
  ·rename_i hl
   have hk0:(cur s).k≠0:=λe=>hl (by unfold wL;rw[e];rfl)
   have h2:=(oV hk0).2
   exact(hJ _).bind λb s1 g1=>(kK s1 _).bind λy s2 g2=>(Fx hJ k f s2 y).mono λz s3 g3=>by omega
theorem vM(hE:EZ E)(hS:EZ S):∀m,EZ (uB E S m)
 |0=>Dr hE hS
 |m+1=>λs=>by
  simp only[uB]
  exact(vM hE hS m s).bind λa s1 g1=>(Fx (vM hE hS m) _ _ s1 a).mono λy s2 g2=>by omega
theorem IM(hE:EZ E)(hS:EZ S):EZ (Cr E S):=by
 intro s;unfold Cr;refine(vM hE hS 6 s).bind λa s1 g1=>?_;have t1:=kR s1 [63];simp only;split
 ·rename_i ht;refine Sat.bind (lD (P:=λ_ n=>n<=phi (bX s1 [63]).2) ?_) λz s2 g2=>?_
  ·refine(hE _).bind λx q1 g3=>(kQ q1 _).bind λ_ q2 g4=>(hE q2).bind λy q3 g5=>?_;have h4:phi (⟨(bX s1 [63]).2.toks,(bX s1 [63]).2.i,(bX s1 [63]).2.off,(bX s1 [63]).2.deep+1,(bX s1 [63]).2.quiet,(bX s1 [63]).2.ex,(bX s1 [63]).2.bl⟩:PS)=phi (bX s1 [63]).2:=rfl;show phi q3<=_;omega
  ·exact(kK s2 _).mono λy s3 g3=>by have:=t1.2 ht;omega
 ·show phi _<=_;omega
end
theorem yC:EZ dead:=λ_=>trivial
theorem wN:∀d,EZ (sV d).1/\EZ (sV d).2
 |0=>⟨IM yC yC,Dr yC yC⟩
 |d+1=>⟨IM (wN d).1 (wN d).2,Dr (wN d).1 (wN d).2⟩
section
variable{E B:PS->R Nat}
theorem Ds:∀(n:Nat) (s:PS) (ls:List Str),Sat (rO n s ls) (λ_ s'=>phi s'<=phi s) TT
 |0,_,_=>trivial
 |n+1,s,ls=>by
  have n1:=vK s
  simp only[rO]
  split
  ·exact(Fw _ _).bind λl s1 e1=>by subst e1;exact(Ds n _ (ls++[l])).mono λ_ s2 g=>by omega
  ·exact jT s
theorem Ks(l:List Tok){j:Nat}(h:i<=j):wts (l.drop j)<=wts (l.drop i):=by
 have:=sE (l.drop i) (j-i);rw[gT,show i+(j-i)=j by omega]at this;exact this
theorem IW(s:PS):s.i<=(bC s).i:=by unfold bC;split;exact Nat.le_add_right _ _;exact aS _
theorem PT(hE:EZ E)(hB:EZ B)(s:PS)(us:List Atr)(bs:List Nat):Sat (Ck E B s us bs) (λ_ s'=>phi s'<=phi s) TT:=by
 unfold Ck;refine Sat.bind (P:=λ_ s1=>s1=step1 (bC s)/\phi s1+1<=phi s) ?_ λt s1 ⟨e1,h1⟩=>?_
 ·unfold lO;split
  ·rename_i hk;have hk0:(cur s).k≠0:=by rw[hk];decide
   refine⟨by unfold iW;rw[aJ hk0],((vK s).2 hk0).2⟩
  ·trivial
 have t1:=kR s1 [61];split
 ·exact(hE _).bind λx s2 h2=>by show phi s2<=_;omega
 ·rename_i ht;refine Sat.bind (hB _) λx s2 h2=>?_;show phi s2<=_;refine cI h2 ?_;have e2:(bX s1 [61]).2=bC s1:=by
   unfold bX at ht⊢;split
   ·rename_i hi;rw[aJ hi]at ht;exact absurd rfl ht
   ·rfl
  rw[e2];have hi:s.i<=(bC s1).i-1:=by
   have h1:=IW s;have h2:=IW s1;have h3:s1.i=(bC s).i+1:=by rw[e1];rfl
   omega
  have x1:(bC s1).ex=s.ex:=(iA s1).1.trans (by rw[e1];exact(iA s).1);have x2:(bC s1).bl=s.bl:=(iA s1).2.trans (by rw[e1];exact(iA s).2);have x3:(bC s1).toks=s.toks:=by
   have h1:∀s:PS,(bC s).toks=s.toks:=λs=>by unfold bC;split<;>rfl
   rw[h1,e1];exact h1 s
  unfold phi;simp only;rw[x1,x2,x3];have:=Ks s.toks hi;omega
theorem Fy(hE:EZ E)(hB:EZ B):∀(n:Nat) (s:PS) (us:List Atr) (bs:List Nat),Sat (qX E B n s us bs) (λ_ s'=>phi s'<=phi s) TT
 |0,_,_,_=>trivial
 |n+1,s,us,bs=>by
  have t1:=kR s [125]
  simp only[qX]
  split
  ·exact t1.1
  refine(PT hE hB _ us bs).bind λx s1 g1=>?_
  have m1:=jT s1
  split
  ·trivial
  have l1:=vL (bC s1)
  exact(Fy hE hB n _ x.1 x.2).mono λy s2 g2=>by omega
theorem FA(hE:EZ E)(hB:EZ B):EZ (yI E B):=by
 intro s;unfold yI;refine(nP s 1).bind λt s1 g1=>(Ds _ s1 []).bind λls s2 g2=>?_;have n2:=jT s2;split
 ·trivial
 refine Sat.bind (lD (P:=λ_ n=>n<=phi (bC s2)) ?_) λx s3 g3=>?_
 ·refine(Fy hE hB _ _ [] []).mono λx s' g=>?_;have h3:=vL (step1 (⟨(bC s2).toks,(bC s2).i,(bC s2).off,(bC s2).deep+1,false,(bC s2).ex,(bC s2).bl⟩:PS));have h4:phi (step1 (⟨(bC s2).toks,(bC s2).i,(bC s2).off,(bC s2).deep+1,false,(bC s2).ex,(bC s2).bl⟩:PS))<=phi (bC s2):=wA (Ks _ (Nat.le_succ _)) _;omega
 ·show phi _<=_;have h1:=g1.2 (by decide);have e:phi {s3 with bl:=s3.bl++[⟨t.t,ls,x.1,x.2,t.a⟩]}=phi s3+1:=by
   unfold phi;simp only[aX,aB,aM];omega
  have e':phi (⟨s3.toks,s3.i,s3.off,s3.deep,s3.quiet,s3.ex,s3.bl++[⟨t.t,ls,x.1,x.2,t.a⟩]⟩:PS)=phi s3+1:=e;omega
end
theorem Kc:∀d,EZ (BV d)
 |0=>FA yC yC
 |d+1=>FA (wN d).1 (Kc d)
theorem aAJ(s:PS):s.ex.length<=phi s/\s.bl.length<=phi s:=by unfold phi;omega
end
end Go.Syn
namespace Go.Proofs.YtghhmpppnmoeoaaGreatDoor
section
open Go Go.Eng Go.RowKit Go.Syn Go.Lex
variable{w:World}{K:Q0}{cs:List Value}{G:Nat->Prop}{T:TypeId}{i:Nat}{n:Nat}{v:Value}{w':World}{P:Program}{c:UInt8}{S:Nat->Prop}
abbrev DT:TypeId:=33
def fK(t:Tok):List Value:=[i64 t.k,str t.t,i64 t.a]
def Ai(w:World)(p:Nat):Nat:=match w.heap[p]? with|some (.cells c _ _)=>(match(c[1]?:Option Value)with|some (Value.int _ i)=>i.toNat|_=>0)|_=>0
theorem PR.at_{w0:World}{p f:Nat}{M:Lay}{vt:Value}{s:PS}{top:List Nat}(h:PR w0 w p f M vt s top):Ai w p=s.i:=by
 unfold Ai;rw[h.ps];simp
theorem wsi{N:Int}{s:PS}(h:WS N s)(hN:s.toks.length<=100000):s.i<=1000000:=by have:=h.lt;omega
section
variable [HX]
def Thr(w0:World)(f:Nat)(code at_:Int):Prop:=
 ∀(d:Nat) (w':World) (cs:List Value),Chg (Of f) w0 w'->w0.heap.size<=d->cs.length=3->w'.heap[f]?=some (.cells cs.toArray FlT (0,0))->w'.heap[d]?=some (.cells [i64 code,str [],i64 at_].toArray 53 (0,0))->HX.X [{v:=.iface DT (.pointer (some ⟨d,0,none⟩)),recovered:=false}] w'
section
variable{w0 w:World}{p f:Nat}{M:Lay}{vt:Value}{s:PS}{top:List Nat}{N:Int}{K:Q0}
theorem qB{e a:Int}(h:PR w0 w p f M vt s top)(ht:Thr w0 f e a):aC P0 31 [i64 e,i64 a] w K:=by
 refine aB6 ?_;unfold W31;simp only[dD,eJ,cU,aB,aM,aY,bB];refine⟨by omega,by omega,?_⟩;refine fS (z:=[i64 e,str [],i64 a]) λd w' hd hz hb hx=>?_;have h':=h.ext hx;exact ht d w' _ h'.ch (by have:=h.base;omega) (by rfl) h'.fr.hf hb
theorem uA:∀{l:List Tok} {i:Nat} {t:Tok},l[i]?=some t->gZ (l.drop i)=if t.k=5 then gZ (l.drop (i+1))+1 else 0:=by
 intro l i t h;have hlt:=(List.getElem?_eq_some_iff.1 h).1;rw[cA hlt,(List.getElem?_eq_some_iff.1 h).2];rfl
theorem nD(h:PR w0 w p f M vt s top)(hs:WS N s)(hN:N<=1000000)(hl:s.toks.length<=100000)(hK:∀w',PR w0 w' p f M vt (bC s) top->Eff p f M M w w'->K (.agg (fK (cur s)).toArray) w'):
  aC P0 29 [.pointer (some ⟨p,0,none⟩)] w K:=by
 refine aB8 ?_;unfold W29;refine bF λb w1 hb hz1 hbb hx1=>?_;have hp:=h.lt;have h1:=h.ext hx1;have L1:=h.loc hz1 hb hbb;refine cZ.go (λst w'=>st=[]/\∃j,PR w0 w' p f M vt {s with i:=j} top/\s.i<=j/\bC {s with i:=j}=bC s/\j<=(bC s).i/\Eff p f M M w w'/\Loc w0 w' p f M vt b TkT [i64 0,str [],i64 0]) (λ_ w'=>s.toks.length-Ai w' p)
  ⟨rfl,s.i,h1,aS _,rfl,IW s,Eff.ext hx1,L1⟩ ?_
 rintro st g w2 ⟨rfl,j,h2,hj,hnow,hjn,he2,L2⟩;have hg:=gE hs;have hjl:j<s.toks.length:=by have:=(hg.ws hs).lt;rw[hg.toks]at this;omega
 have hws:WS N {s with i:=j}:=⟨hs.tg,hjl,hs.pN⟩;obtain⟨t,ht⟩:∃t,s.toks[j]?=some t:=⟨_,List.getElem?_eq_getElem hjl⟩;have h3:=h2.drew;have sl:SlAt w2.drew TkT vt s.toks.length (toks s.toks):=h3.tk;have stop:bC {s with i:=j}={s with i:=j}->dU (.pointer (some ⟨p,0,none⟩)) (λt30=>aZ 0 t30 λt31=>ldW false 1 t31 w2.drew.drew λt32=>dU (.pointer (some ⟨p,0,none⟩)) λt34=>aZ 1 t34 λt35=>ldW false 1 t35 w2.drew.drew λt36=>dN none 3 t32 t36 λt37=>ldW true 3 t37 w2.drew.drew λt38=>bN TkT [(.int .i64 0),(.string (ofL [])),(.int .i64 0)] w2.drew.drew λt3 w17=>(ldW true 3 t37 w17 λx=>x=t38)/\(ldW false 1 t35 w17 λx=>x=t36)/\(ldW false 1 t31 w17 λx=>x=t32)/\stW 3 t3 t38 w17 λw18=>aZ 2 t3 λt39=>ldW false 1 t39 w18.drew λt40=>dU (.pointer (some ⟨p,0,none⟩)) λt42=>aZ 2 t42 λt43=>ldW false 1 t43 w18.drew λt44=>aP .add t40 t44 λt45=>aZ 2 t3 λt46=>stW 1 t46 t45 w18.drew λw19=>ldW true 3 t3 w19 λt47=>stW 3 (.pointer (some ⟨b,0,none⟩)) t47 w19 λw20=>ldW true 3 (.pointer (some ⟨b,0,none⟩)) w20 λr21=>K r21 w20):=λhn=>by
  have h4:=h3.drew;have ecur:cur s={t with a:=t.a+s.off}:=by
   unfold cur;rw[<-hnow,hn];have:lW {s with i:=j}=t:=by unfold lW;rw[List.getD_eq_getElem?_getD,ht];rfl
   rw[this]
  have hpos:=hws.tg.pos j t ht;simp only at hpos;have ldT:∀{w':World},PR w0 w' p f M vt {s with i:=j} top->ldW false 1 (.pointer (some ((⟨p,0,none⟩:Addr).add 0))) w' λx=>x=vt:=λh=>by
   rw[dX];exact⟨vt,by rw[bZ,cD,h.ps,cH];rfl,rfl⟩
  have ldI:∀{w':World},PR w0 w' p f M vt {s with i:=j} top->ldW false 1 (.pointer (some ((⟨p,0,none⟩:Addr).add 1))) w' λx=>x=i64 (j:Nat):=λh=>by
   rw[dX];exact⟨_,by rw[bZ,cD,h.ps,cH];rfl,rfl⟩
  refine h4.ld rfl ?_;refine h4.ld rfl ?_;refine qW (size:=3) h4.tk (Da _) (by omega) hjl λtb o c fr htb hc=>?_;have hcell:∀i,i<3->c[o+i]?=(fK t)[i]?:=λi hi=>by rw[hc i hi];exact Ih ht hi
  have three:∀{w':World},w'.heap[tb]?=some (.cells c TkT fr)->jV w' ⟨tb,o,none⟩ 0 3=some (fK t):=λh=>by
   have h0:=hcell 0 (by omega);have h1:=hcell 1 (by omega);have h2:=hcell 2 (by omega);simp only[fK,eS,List.getElem?_cons_zero,List.getElem?_cons_succ]at h0 h1 h2;simp only[jV,bZ,cD,h,cH,eS,h0,h1,h2,gF,Nat.reduceAdd];rfl
  rw[DK];refine⟨fK t,three htb,?_⟩;refine bF λb2 w5 hb2 hz5 hbb5 hx5=>?_;have h5:=h4.ext hx5;have L5:=h4.loc hz5 hb2 hbb5;have htb5:=hx5.at htb id;refine⟨by rw[DK];exact⟨_,three htb5,rfl⟩,ldI h5,ldT h5,?_⟩;refine cG (l:=fK t) L5.1 rfl rfl rfl λw6 hz6 hb6 hc6=>?_;have L6:Loc w0 w6 p f M vt b2 TkT (fK t):=⟨hb6,L5.2.up (by omega)⟩;have h6:=h5.one hc6 L5.2;refine L6.drew.ldf rfl ?_;refine h6.drew.ld (v:=i64 s.off) rfl ?_;rw[cC,cN (by omega) (by omega),bR,bZ,aV];refine L6.drew.st rfl (by simp[fK]) λw7 L7 hc7 hz7=>?_;have h7:=h6.drew.one hc7 L6.drew.2;refine bY (l:=fK (cur s)) (by rw[L7.1,ecur];rfl) rfl ?_;have hbb2:b2≠b:=by have:=L2.lt;have:w2.drew.drew.heap.size=w2.heap.size:=rfl;omega
  have L2':=(((L2.drew.drew.ext hx5).one hc6 (uP hbb2)).drew.one hc7 (uP hbb2));refine iP (l:=fK (cur s)) L2'.1 rfl rfl rfl λw8 hc8=>?_;have h8:=h7.one hc8 L2'.2;refine hK w8 (by rw[<-hnow,hn];exact h8) ?_;have hz2:=he2.chg.size;have z1:w2.drew.drew.heap.size=w2.heap.size:=rfl;exact((((((he2.x (dB _)).x (dB _)).x hx5).one hc6 (by omega)).x (dB _)).one hc7 (by omega)).one hc8 (by omega)
 by_cases hq:s.quiet=true
 ·refine h3.ld (v:=.bool true) (by simp[hq]) ?_;simp only[iD,Sa];refine⟨_,rfl,_,rfl,_,rfl,vt,by rw[dX];exact⟨vt,by rw[bZ,cD,h3.ps,cH];rfl,rfl⟩,_,rfl,_,rfl,_,rfl,i64 (j:Nat),by rw[dX];exact⟨_,by rw[bZ,cD,h3.ps,cH];rfl,rfl⟩,?_⟩;obtain⟨q,cap,hv,g1,g2,g3⟩:=sl;have hne:toks s.toks≠[]:=λe=>by have:=congrArg List.length e;rw[Da,aM]at this;omega
  obtain⟨tb,o,c,fr,rfl,htb,hcs⟩:=g3 hne;have hlen:(toks s.toks).length=s.toks.length*3:=Da _;refine⟨.pointer (some ((⟨tb,o,none⟩:Addr).add (j*3))),?_,.pointer (some (((⟨tb,o,none⟩:Addr).add (j*3)).add 0)),rfl,i64 t.k,?_,.bool (decide (t.k=5)),by rw[bM],?_⟩
  ·rw[hv,pY];exact⟨by omega,by omega,by rw[aW]⟩
  ·rw[dX];refine⟨_,?_,rfl⟩;rw[bZ,bZ,cD,htb,cH,eS,hcs _ (by omega)];have:=Ih (j:=0) ht (by omega);rw[eS]at this;exact this
  rw[mJ,aO];refine⟨λhk=>?_,λhk=>stop ?_⟩
  ·have hrun:bC {s with i:=j+1}=bC s:=by
    rw[<-hnow];unfold bC;simp only[hq,gM];have e:=uA ht;rw[aJ hk]at e;rw[e];congr 1;omega
   refine h3.go (wsi hws hl) λw4 h4 he4 hz4=>?_;refine⟨⟨trivial,j+1,h4,by omega,hrun,?_,(he2.x (dB _)).trans he4,L2.drew.eff he4⟩,?_⟩
   ·rw[<-hrun];exact IW {s with i:=j+1}
   ·rw[h4.at_,h2.at_];simp only[step1];omega
  ·have e:=uA ht;rw[aE hk]at e;unfold bC;simp only[hq,gM,e,eS]
 ·have hq:s.quiet=false:=by simpa using hq
  refine h3.ld (v:=.bool false) (by simp[hq]) ?_;simp only[iD,Yx];rw[sL,cX];exact stop (by unfold bC;simp only[hq];rfl)
end
end
theorem yQ{xs:List Value}(h:SlAt w T v n xs)(hc:Chg S w w')(hS:∀k,v.ownBlock=some k->¬S k):SlAt w' T v n xs:=by
 obtain⟨q,cap,hv,h1,h2,h3⟩:=h;refine⟨q,cap,hv,h1,h2,λhne=>?_⟩;obtain⟨b,off,c,fr,hq,hb,hcs⟩:=h3 hne;exact⟨b,off,c,fr,hq,hc.at hb (hS b (by rw[hv,hq];rfl)),hcs⟩
def aEV(w0 w:World)(p f:Nat)(M:Lay)(vt:Value)(v:Value)(T:TypeId)(n:Nat)(cs:List Value):Prop:=SlAt w T v n cs/\∀k,v.ownBlock=some k->Off w0 w p f M vt k
theorem upi(h:i<=4611686018427387904):IntKind.i64.wrap ((i:Int)+1)=((i+1:Nat):Int):=by rw[cN (by omega) (by omega)];rfl
def rF:List Str->Str->Nat->Int
 |[],_,_=>-1
 |a::r,x,i=>if x=a then(i:Nat)else rF r x (i+1)
theorem Io(x:Str):∀(l:List Str) (i:Nat),(0<=rF l x i↔x∈l)
 |[],i=>by simp[rF]
 |a::r,i=>by
  simp only[rF]
  split
  ·rename_i h
   simp[h]
  ·rename_i h
   rw[Io x r (i+1)]
   simp[h]
theorem wS{x:Str}{K:Q0}(hK:∀b w',b=w.heap.size->w'.heap.size=w.heap.size+1->w'.heap[b]?=some (.cells [str x].toArray StT (0,0))->Ext w w'->K (.slice (some ⟨b,0,none⟩) 1 1) w'):dJ StT 1 [(.string (ofL []))] [(0,1,str x)] w K:=by
 rw[dJ];simp only[eJ,cU,aB,aM,aY];refine⟨by omega,?_⟩;exact row_new λa w' ha hz hb hx _=>hK a w' ha hz hb hx
theorem jS{x:Int}{K:Q0}(hK:∀b w',b=w.heap.size->w'.heap.size=w.heap.size+1->w'.heap[b]?=some (.cells [i64 x].toArray iT (0,0))->Ext w w'->K (.slice (some ⟨b,0,none⟩) 1 1) w'):dJ iT 1 [(.int .i64 0)] [(0,1,i64 x)] w K:=by
 rw[dJ];simp only[dD,cU,aB,aM,aY];refine⟨by omega,?_⟩;exact row_new λa w' ha hz hb hx _=>hK a w' ha hz hb hx
theorem JZ{x y:Int}{K:Q0}(hK:∀b w',b=w.heap.size->w'.heap.size=w.heap.size+1->w'.heap[b]?=some (.cells [i64 x,i64 y].toArray iT (0,0))->Ext w w'->K (.slice (some ⟨b,0,none⟩) 2 2) w'):dJ iT 2 [(.int .i64 0),(.int .i64 0)] [(0,1,i64 x),(1,1,i64 y)] w K:=by
 rw[dJ];simp only[dD,cU,aB,aM,aY,bB];refine⟨by omega,by omega,?_⟩;exact row_new λa w' ha hz hb hx _=>hK a w' ha hz hb hx
theorem RB{x y z:Int}{K:Q0}(hK:∀b w',b=w.heap.size->w'.heap.size=w.heap.size+1->w'.heap[b]?=some (.cells [i64 x,i64 y,i64 z].toArray iT (0,0))->Ext w w'->K (.slice (some ⟨b,0,none⟩) 3 3) w'):dJ iT 3 [(.int .i64 0),(.int .i64 0),(.int .i64 0)] [(0,1,i64 x),(1,1,i64 y),(2,1,i64 z)] w K:=by
 rw[dJ];simp only[dD,cU,aB,aM,aY,bB];refine⟨by omega,by omega,by omega,?_⟩;exact row_new λa w' ha hz hb hx _=>hK a w' ha hz hb hx
theorem Ba{z d:List Value}{K:Q0}(hd:d.length=n)(hz0:z.length=n)(hK:∀b w',b=w.heap.size->w'.heap.size=w.heap.size+1->w'.heap[b]?=some (.cells d.toArray T (0,0))->Ext w w'->K (.slice (some ⟨b,0,none⟩) 1 1) w'):dJ T 1 z [(0,n,.agg d.toArray)] w K:=by
 rw[dJ];simp only[dI,Value.cells];refine⟨by simpa using hd,by omega,?_⟩;have e:(z.take 0++(d++z.drop (0+n)))=d:=by rw[EO,fF,aV,<-hz0,dR,dV]
 rw[e];exact row_new λa w' ha hz hb hx _=>hK a w' ha hz hb hx
theorem AF{b:Nat}(h:w.heap[b]?=some (.cells cs.toArray T (0,0)))(hn:cs.length=n):SlAt w T (.slice (some ⟨b,0,none⟩) n n) n cs:=
 ⟨_,_,rfl,aS _,λe=>(by cases e),λ_=>⟨b,0,cs.toArray,_,rfl,h,λi _=>by simp⟩⟩
theorem PU{B b m:Nat}(h:w.heap[b]?=some (.cells cs.toArray T (0,0)))(hB:B<=b)(hn:cs.length=n*m)(hm:n<=1000000):Own w B T m (.slice (some ⟨b,0,none⟩) n n) n cs:=
 ⟨hn,.inr ⟨b,n,cs.toArray,rfl,hB,h,aS _,by unfold maxLen;omega,by simpa using hn,by simp[<-hn]⟩⟩
theorem Hh{f:Nat}{a a' b d:List Nat}(h:(f::(a++b)).Nodup)(hlt:∀k∈f::(a++b),k<n)(ha':a'.Nodup)(hn:∀k∈a',k∈a\/n<=k)(hd:d.Nodup)(hdd:∀k∈d,k<n/\k∉f::(a++b)):(f::(a'++(d++b))).Nodup:=by
 rw[jF,eU]at h;obtain⟨hf,_,hb,hab⟩:=h;have new:∀k∈a',k∉b/\k≠f/\k∉d:=λk hk=>by
  rcases hn k hk with hk|hk
  ·exact⟨λe=>hab k hk k e rfl,λe=>hf (e▸eP _ hk),λe=>(hdd k e).2 (aU _ (eP _ hk))⟩
  ·exact⟨λe=>by have:=hlt k (aU _ (cW _ e));omega,λe=>by have:=hlt k (by rw[e];exact bD);omega,λe=>by have:=(hdd k e).1;omega⟩
 rw[jF];refine⟨λe=>?_,?_⟩
 ·rcases dC.1 e with e|e
  ·exact(new f e).2.1 rfl
  rcases dC.1 e with e|e
  ·exact(hdd f e).2 bD
  ·exact hf (cW _ e)
 ·refine eU.2 ⟨ha',eU.2 ⟨hd,hb,λx hx y hy e=>?_⟩,λx hx y hy e=>?_⟩
  ·subst e;exact(hdd x hx).2 (aU _ (cW _ hy))
  ·subst e;rcases dC.1 hy with hy|hy
   ·exact(new x hx).2.2 hy
   ·exact(new x hx).1 hy
theorem wC(v:Value)(c:List Value):ub (v::c)=ub [v]++ub c:=by
 rw[<-uI];rfl
theorem lS(v:Value):(ub [v]).Nodup:=by
 unfold ub;cases h:v.ownBlock with
 |none=>simp[h]
 |some k=>simp[h]
theorem Kw(M:Lay)(f:Nat):M.uses f=f::(ub [M.vE]++ub ([M.vB,M.vT]++(M.cE++M.cB))):=by
 unfold Lay.uses;rw[dA,wC]
theorem Sl(M:Lay)(f:Nat)(v:Value)(d:List Value):(({M with vE:=v,cE:=M.cE++d}:Lay).uses f).Perm (f::(ub [v]++(ub d++ub ([M.vB,M.vT]++(M.cE++M.cB))))):=by
 rw[CU];intro a;rw[Kw];simp only[uI,lI,CC];omega
theorem Kx(M:Lay)(f:Nat):(M.uses f).Perm (f::(ub [M.vB]++ub ([M.vE,M.vT]++(M.cE++M.cB)))):=by
 rw[CU];intro a;unfold Lay.uses;simp only[uI,lI,CC];rw[wC M.vE,wC M.vB,wC M.vE [M.vT]];simp only[lI];omega
theorem Sm(M:Lay)(f:Nat)(v:Value)(d:List Value):(({M with vB:=v,cB:=M.cB++d}:Lay).uses f).Perm (f::(ub [v]++(ub d++ub ([M.vE,M.vT]++(M.cE++M.cB))))):=by
 rw[CU];intro a;rw[(Kx _ f).count_eq];simp only[uI,lI,CC];omega
section
variable{w0 w w1 w2:World}{p f:Nat}{M:Lay}{vt:Value}{s:PS}{top:List Nat}
theorem PR.putE(h:PR w0 w p f M vt s top){wb:World}{M0:Lay}(he:Eff p f M0 M wb w){e:Ex}{d:List Value}{v':Value}(hd:ExR w w0.heap.size e d)(hu:∀k∈ub d,Off w0 w p f M vt k)(hn:(ub d).Nodup)(hnew:∀k∈ub d,wb.heap.size<=k)
  (hO:Own w1 w0.heap.size ExT 5 v' (s.ex.length+1) (M.cE++d))(hc1:Chg (λk=>M.vE.ownBlock=some k) w w1)(hv:∀k,v'.ownBlock=some k->M.vE.ownBlock=some k\/w.heap.size<=k)
  (hc2:Chg (One f) w1 w2)(hf:w2.heap[f]?=some (.cells [v',M.vB,M.vT].toArray FlT (0,0))):PR w0 w2 p f {M with vE:=v',cE:=M.cE++d} vt {s with ex:=s.ex++[e]} top/\Eff p f M0 {M with vE:=v',cE:=M.cE++d} wb w2/\∀b T cs,Loc w0 w p f M vt b T cs->b∉ub d->Loc w0 w2 p f {M with vE:=v',cE:=M.cE++d} vt b T cs:=by
 have hb:=h.base;have hzb:=he.chg.size;have eE:=Kw M f;have use:∀k,M.vE.ownBlock=some k->k∈M.uses f:=λk hk=>aU _ (kP (v:=M.vE) (by simp) hk);have hnd:=h.fr.nd;rw[eE,jF,eU]at hnd;obtain⟨nf,_,nb,nab⟩:=hnd;have rest:∀k∈ub ([M.vB,M.vT]++(M.cE++M.cB)),M.vE.ownBlock≠some k/\k≠f/\k<w.heap.size:=λk hk=>
  ⟨λe=>nab k (gR.2 e) k hk rfl,λe=>nf (e▸cW _ hk),h.fr.lt k (by rw[eE];exact aU _ (cW _ hk))⟩
 have c12:Chg (λk=>M.vE.ownBlock=some k\/k=f) w w2:=(hc1.mono λk _ e=>.inl e).trans (hc2.mono λk _ e=>.inr e);have sub:∀v∈[M.vB,M.vT]++(M.cE++M.cB),∀k,v.ownBlock=some k->¬(M.vE.ownBlock=some k\/k=f):=λv hv k hk e=>by
  have:=rest k (kP hv hk);exact e.elim this.1 this.2.1
 have hOf:∀k,v'.ownBlock=some k->k≠f:=λk hk e=>by
  subst e;rcases hv k hk with e|e
  ·exact nf (eP _ (gR.2 e))
  ·have:=fJ h.fr.hf;omega
 have nE:M.vE.ownBlock≠some p:=λe=>h.np (use p e);have pf:p≠f:=λe=>h.np (e▸bD);have perm:=Sl M f v' d;have hN:(f::(ub [v']++(ub d++ub ([M.vB,M.vT]++(M.cE++M.cB))))).Nodup:=Hh (n:=w.heap.size) (a:=ub [M.vE]) (by rw[<-eE];exact h.fr.nd) (λk hk=>h.fr.lt k (by rw[eE];exact hk)) (lS _) (λk hk=>(hv k (gR.1 hk)).imp (λe=>gR.2 e) id) hn λk hk=>⟨(hu k hk).1.2,by rw[<-eE];exact(hu k hk).2.2.1⟩;have hz:=c12.size;have mem:∀k∈({M with vE:=v',cE:=M.cE++d}:Lay).uses f,k=f\/v'.ownBlock=some k\/k∈ub d\/k∈ub ([M.vB,M.vT]++(M.cE++M.cB)):=λk hk=>by
  have hk:=perm.mem_iff.1 hk;rcases bQ.1 hk with e|e
  ·exact .inl e
  rcases dC.1 e with e|e
  ·exact .inr (.inl (gR.1 e))
  rcases dC.1 e with e|e
  ·exact .inr (.inr (.inl e))
  ·exact .inr (.inr (.inr e))
 have cT:Chg (Tn p f M) w w2:=c12.mono λk _ e=>e.elim (λe=>.inr (.inr (.inl e))) λe=>.inr (.inl e);refine⟨⟨?_,⟨hf,?_,?_,?_,?_,?_,perm.nodup_iff.2 hN,λk hk=>?_,λk hk=>?_⟩,?_,?_,λe=>?_,h.lo,λk hk=>?_⟩,⟨(he.trans (Eff.of cT)).chg,λk hk=>?_,λk hk=>(hv k hk).elim (he.hE k) λe=>.inr (by omega),he.hB,he.hT⟩,λb T cs hL hbd=>⟨cT.at hL.1 hL.2.no,⟨hL.2.1.1,cO hL.2.1.2 hz⟩,hL.2.2.1,λhk=>?_,hL.2.2.2.2⟩⟩
 ·refine h.ch.then c12 λk hk e=>?_;rcases e with e|e
  ·exact(h.fr.lo k (use k e)).resolve_right (by omega)
  ·exact e
 ·rw[aX];exact jE hO hc2 λk hk e=>hOf k hk e
 ·exact jE h.fr.oB c12 (sub _ (by simp))
 ·exact jE h.fr.oT c12 (sub _ (by simp))
 ·refine oP.snoc ?_ (hd.at_ c12 λk hk e=>?_) (by obtain⟨va,vk,rfl,_⟩:=hd;rfl)
  ·refine h.fr.ee.imp λx d hd hx=>hx.at_ c12 λk hk=>?_;obtain⟨v,hv,hk⟩:=gN.1 hk;exact sub v (by simp[hd v hv]) k hk
  ·have ho:=(hu k hk).2.2.1;rcases e with e|e
   ·exact ho (use k e)
   ·exact ho (e▸bD)
 ·refine h.fr.bb.imp λx d hd hx=>hx.at_ c12 λk hk=>?_;obtain⟨v,hv,hk⟩:=gN.1 hk;exact sub v (by simp[hd v hv]) k hk
 ·rcases mem k hk with e|e|e|e
  ·rw[e];exact fJ hf
  ·exact cO (qU hO e).1 hc2.size
  ·exact cO (hu k e).1.2 hz
  ·exact cO (rest k e).2.2 hz
 ·rcases mem k hk with e|e|e|e
  ·exact .inl e
  ·exact .inr (qU hO e).2
  ·exact .inr (hu k e).1.1
  ·exact h.fr.lo k (by rw[eE];exact aU _ (cW _ e))
 ·exact c12.at h.ps λe=>e.elim nE pf
 ·exact yQ h.tk c12 λk hk e=>by
   have:=(h.nt k hk).1;rcases e with e|e
   ·exact this (use k e)
   ·exact this (e▸bD)
 ·rcases mem p e with e|e|e|e
  ·exact pf e
  ·exact(hv p e).elim nE λe=>by have:=h.lt;omega
  ·exact(hu p e).2.1 rfl
  ·exact h.np (by rw[eE];exact aU _ (cW _ e))
 ·have ht:=h.nt k hk;refine⟨λe=>?_,ht.2.1,cO ht.2.2 hz⟩;rcases mem k e with e|e|e|e
  ·exact ht.1 (e▸bD)
  ·exact(hv k e).elim (λe=>ht.1 (use k e)) λe=>by omega
  ·exact(hu k e).2.2.2 hk
  ·exact ht.1 (by rw[eE];exact aU _ (cW _ e))
 ·rcases mem k hk with e|e|e|e
  ·exact he.us k (e▸bD)
  ·exact(hv k e).elim (λe=>he.us k (use k e)) λe=>.inr (by omega)
  ·exact .inr (hnew k e)
  ·exact he.us k (by rw[eE];exact aU _ (cW _ e))
 ·have ho:=hL.2;rcases mem b hk with e|e|e|e
  ·exact ho.2.2.1 (e▸bD)
  ·exact(hv b e).elim (λe=>ho.2.2.1 (use b e)) λe=>by have:=ho.1.2;omega
  ·exact hbd e
  ·exact ho.2.2.1 (by rw[eE];exact aU _ (cW _ e))
end
section
variable [HX]
variable{w0 w:World}{p f:Nat}{M:Lay}{vt:Value}{s:PS}{top:List Nat}{N:Int}{K:Q0}
theorem Mw{l:List Str}{x:Str}{K:Q0}(h:SlAt w T v l.length (strs l))(hl:l.length<=1000000)(hK:K (i64 (rF l x 0)) w):aC P0 113 [v,str x] w K:=by
 refine XG ?_;unfold aEt;rw[fY h];refine cZ.go (λst w'=>∃j:Nat,st=[i64 j]/\j<=l.length/\w'=w/\rF (l.drop j) x j=rF l x 0) (λst _=>match st with|[.int _ j]=>l.length-j.toNat|_=>0) ⟨0,rfl,by omega,rfl,rfl⟩ ?_;rintro st g w' ⟨j,rfl,hj,rfl,hs⟩;simp only[aG];rw[eC,aO];refine⟨λhlt=>?_,λhge=>?_⟩
 ·have hlt:j<l.length:=by omega
  refine pZ (x:=str l[j]) h (by simp[strs]) (by simp[strs,hlt]) ?_;rw[cA hlt]at hs;simp only[rF]at hs;rw[rR,aO];refine⟨λe=>?_,λe=>?_⟩
  ·rw[aJ e]at hs;rw[hs];exact hK
  ·rw[aE e]at hs;rw[cC,upi (by omega)];exact⟨⟨j+1,rfl,by omega,trivial,hs⟩,by simp only[aW];omega⟩
 ·rw[fB (by omega)]at hs;simp only[rF]at hs;rw[hs];exact hK
theorem Ct{l:List Str}{x:Str}{K:Q0}(h:SlAt w T v l.length (strs l))(hl:l.length<=1000000)(hK:K (.bool (decide (x∈l))) w):aC P0 81 [v,str x] w K:=by
 refine aBy ?_;unfold W81;refine Mw h hl ?_;rw[lF];simp only[Io];exact hK
theorem Le(h:PR w0 w p f M vt s top)(hs:WS N s)(hN:N<=1000000)(hl:s.toks.length<=100000)(hK:∀w',PR w0 w' p f M vt (iW s) top->Eff p f M M w w'->K (.agg (fK (cur s)).toArray) w'):
  aC P0 48 [.pointer (some ⟨p,0,none⟩)] w K:=by
 refine aBX ?_;unfold W48;refine bF λb w1 hb hz1 hbb hx1=>?_;have h1:=h.ext hx1;have L1:=h.loc hz1 hb hbb;refine nD h1 hs hN hl λw2 h2 he2=>?_;have L2:=L1.eff he2;refine bF λb2 w3 hb2 hz3 hbb3 hx3=>?_;have h3:=h2.ext hx3;have L3:=h2.loc hz3 hb2 hbb3;have hne:b≠b2:=by have:=L2.lt;omega
 have L23:=L2.ext hx3;refine cG (l:=fK (cur s)) L3.1 rfl rfl rfl λw4 hz4 hb4 hc4=>?_;have L4:Loc w0 w4 p f M vt b2 TkT (fK (cur s)):=⟨hb4,L3.2.up (by omega)⟩;have h4:=h3.one hc4 L3.2;have L24:=L23.one hc4 hne;have he4:Eff p f M M w w4:=(((Eff.ext hx1).trans he2).x hx3).one hc4 (by have:=he2.chg.size;omega);refine bS.cut (λ_ w'=>PR w0 w' p f M vt (iW s) top/\Eff p f M M w4 w') ?_ ?_
 ·refine L4.ldf rfl ?_;rw[fT,aO];unfold iW;refine⟨λhk=>?_,λhk=>?_⟩
  ·rw[aJ hk];exact h4.go (wsi ((gE hs).ws hs) (by rw[(gE hs).toks];exact hl)) λw5 h5 he5 _=>⟨h5,he5⟩
  ·rw[aE hk];exact⟨h4,Eff.refl _ _ _ _⟩
 rintro st g w5 ⟨h5,he5⟩;have L5:=L4.eff he5;have L25:=L24.eff he5;refine bY L5.1 rfl ?_;refine iP (l:=fK (cur s)) L25.1 rfl rfl rfl λw6 hc6=>?_;exact hK w6 (h5.one hc6 L25.2) ((he4.trans he5).one hc6 (by omega))
theorem aAU{x:Str}(h:PR w0 w p f M vt s top)(hs:WS N s)(hN:N<=1000000)(hl:s.toks.length<=100000)(hv:aEV w0 w p f M vt v StT 1 [str x])(hK:∀w',PR w0 w' p f M vt (bC s) top->Eff p f M M w w'->K (.bool (isS s x)) w'):
  aC P0 49 [.pointer (some ⟨p,0,none⟩),v] w K:=by
 refine aBW ?_;unfold W49;refine nD h hs hN hl λw1 h1 he1=>?_;refine bF λb w2 hb hz2 hbb hx2=>?_;have h2:=h1.ext hx2;have L2:=h1.loc hz2 hb hbb;refine cG (l:=fK (cur s)) L2.1 rfl rfl rfl λw3 hz3 hb3 hc3=>?_;have L3:Loc w0 w3 p f M vt b TkT (fK (cur s)):=⟨hb3,L2.2.up (by omega)⟩;have h3:=h2.one hc3 L2.2;have he3:Eff p f M M w w3:=(he1.x hx2).one hc3 (by have:=he1.chg.size;omega);have sl3:SlAt w3 StT v 1 [str x]:=yQ hv.1 he3.chg λk hk=>(hv.2 k hk).no;refine L3.ldf rfl ?_;rw[bM];refine GdW.look (decide ((cur s).t=x)) (λ_ J hJ=>?_) λg=>?_
 ·refine L3.ldf rfl ?_;refine Ct (l:=[x]) sl3 (by simp) ?_;simpa using hJ
 ·simp only[aG,iD];rw[fC];exact hK w3 h3 he3
theorem uJ{x:Str}(h:PR w0 w p f M vt s top)(hs:WS N s)(hN:N<=1000000)(hl:s.toks.length<=100000)(hK:∀w',PR w0 w' p f M vt (bX s x).2 top->Eff p f M M w w'->K (.bool (bX s x).1) w'):
  aC P0 52 [.pointer (some ⟨p,0,none⟩),str x] w K:=by
 refine aBT ?_;unfold W52;refine wS λb w1 hb hz1 hbb hx1=>?_;have h1:=h.ext hx1;have L1:=h.loc hz1 hb hbb;refine aAU h1 hs hN hl ⟨AF hbb rfl,λk hk=>by simp only[Value.ownBlock,bE]at hk;subst hk;exact L1.2⟩ λw2 h2 he2=>?_;have he:=(Eff.ext hx1).trans he2;unfold bX at hK;rw[eM,bT];refine⟨λe=>?_,λe=>?_⟩
 ·have e:isS s x=false:=by simpa using e
  rw[aE (by rw[e];decide)]at hK;exact hK w2 h2 he
 ·have e:isS s x=true:=by simpa using e
  rw[aJ e]at hK;exact h2.go (wsi ((gE hs).ws hs) (by rw[(gE hs).toks];exact hl)) λw3 h3 he3 _=>hK w3 h3 (he.trans he3)
theorem xH{x:Str}(h:PR w0 w p f M vt s top)(hs:WS N s)(hN:N<=1000000)(hl:s.toks.length<=100000)(hK:∀s',oH s x=.ok () s'->∀w',PR w0 w' p f M vt s' top->Eff p f M M w w'->K (.tuple #[]) w')(ht:∀c a,oH s x=.err c a->Thr w0 f c a):
  aC P0 116 [.pointer (some ⟨p,0,none⟩),str x] w K:=by
 refine XE ?_;unfold aEr;refine uJ h hs hN hl λw1 h1 he1=>?_;unfold bX at h1 he1⊢;unfold oH at hK ht;rw[eM,bT];by_cases e:isS s x=true
 ·simp only[aJ e]at h1 he1 hK ht⊢;exact⟨λe=>(by cases e),λ_=>hK _ rfl w1 h1 he1⟩
 ·simp only[aE e]at h1 he1 hK ht⊢;refine⟨λ_=>?_,λe=>(by cases e)⟩;refine nD h1 ((gE hs).ws hs) hN (by rw[(gE hs).toks];exact hl) λw2 h2 he2=>?_;rw[kO];refine⟨i64 (cur s).a,rfl,?_⟩;exact qB h2 (ht _ _ rfl)
theorem xV{k:Int}(h:PR w0 w p f M vt s top)(hs:WS N s)(hN:N<=1000000)(hl:s.toks.length<=100000)(hK:∀t s',lO s k=.ok t s'->∀w',PR w0 w' p f M vt s' top->Eff p f M M w w'->K (.agg (fK t).toArray) w')(ht:∀c a,lO s k=.err c a->Thr w0 f c a):
  aC P0 46 [.pointer (some ⟨p,0,none⟩),i64 k] w K:=by
 refine aBZ ?_;unfold W46;refine bF λb w1 hb hz1 hbb hx1=>?_;have h1:=h.ext hx1;have L1:=h.loc hz1 hb hbb;have hsn:=(gE hs).ws hs;have hln:(bC s).toks.length<=100000:=by rw[(gE hs).toks];exact hl
 unfold lO at hK ht;refine bS.cut (λ_ w'=>PR w0 w' p f M vt (bC s) top/\Eff p f M M w1 w'/\(cur s).k=k) ?_ ?_
 ·refine nD h1 hs hN hl λw2 h2 he2=>?_;refine⟨i64 (cur s).k,rfl,?_⟩;dsimp only;rw[fT,aO];refine⟨λe=>?_,λe=>⟨h2,he2,by omega⟩⟩;refine nD h2 hsn hN hln λw3 h3 he3=>?_;rw[kO];refine⟨i64 (cur s).a,rfl,?_⟩;exact qB h3 (ht _ _ (by rw[aE e]))
 rintro st g w2 ⟨h2,he2,hk⟩;rw[aJ hk]at hK;refine Le h2 hsn hN hln λw3 h3 he3=>?_;rw[kO];have L3:=(L1.eff he2).eff he3;refine iP (l:=fK (cur s)) L3.1 rfl rfl rfl λw4 hc4=>?_;have e:iW (bC s)=iW s:=by unfold iW;rw[kO,gP]
 rw[e]at h3;exact hK _ _ rfl w4 (h3.one hc4 L3.2) ((((Eff.ext hx1).trans he2).trans he3).one hc4 (by omega))
end
end
end Go.Proofs.YtghhmpppnmoeoaaGreatDoor
