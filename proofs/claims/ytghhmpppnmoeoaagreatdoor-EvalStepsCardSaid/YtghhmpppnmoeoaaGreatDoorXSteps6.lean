/- One plain sentence: contracts and plain laws that the claim rests on. Conditions: those that each states. -/
import Derived.RangeFuncNested
import Derived.RangeFuncBound
import Derived.RangeFuncCalls
import Derived.RangeFuncLeaves
import Derived.Shelf.Abstract
import Derived.Shelf.RegionOpen
import Derived.WalkKit
import Derived.OwnWalkIn
import Derived.TacticsInMore
import Derived.LoopNIn
import Derived.LoopIn
import Derived.Test.YtghhmpppnmoeoaaGreatDoorXSteps4
import Derived.RangeFuncFrom
import Derived.Test.YtghhmpppnmoeoaaGreatDoorXSteps3
import Derived.Test.YtghhmpppnmoeoaaGreatDoorXSteps5
import Derived.Test.YtghhmpppnmoeoaaGreatDoorXSteps1
import Derived.Deep.Slices
import Derived.DataReads
import Derived.ChangeArms
import Derived.Test.YtghhmpppnmoeoaaGreatDoorRows
import Derived.Below
import Derived.RowKit
import Derived.ChangeMaps5
import Derived.MakeChecks
import Derived.Lib.LaidTab
import Derived.Lib.LaidU8
import Derived.SizedLaws
import Derived.Shelf.Vars
set_option linter.all false
set_option linter.unusedSimpArgs false
set_option linter.unusedVariables false
set_option linter.unusedSectionVars false
set_option maxRecDepth 100000
namespace Go.Proofs.YtghhmpppnmoeoaaGreatDoor
section
open Go Go.RowKit Go.Shelf
attribute [local go_sem] Oper.semAt_some
variable{w:World}{K:Q0}{cs:List Value}{G:Nat->Prop}{T:TypeId}{i:Nat}{n:Nat}{v:Value}{w':World}{P:Program}{c:UInt8}{S:Nat->Prop}
abbrev A9:={x:Nat×Nat//x.1<1000001/\x.2<1000000000}
def mkA(a b:Nat):A9:=⟨(min a 1000000,min b 999999999),by show min a 1000000<1000001;omega,by show min b 999999999<1000000000;omega⟩
theorem Pd{a b:Nat}(h1:a<=1000000)(h2:b<1000000000):(mkA a b).1=(a,b):=by
 show(min a 1000000,min b 999999999)=(a,b);rw[nC h1,nC (by omega)]
def tI(zs:List Nat)(k:Nat):List A9:=(List.range k).map λj=>mkA (zs.length-1-j) (zs[zs.length-1-j]?.getD 0)
theorem FX(zs:List Nat)(k:Nat):tI zs (k+1)=tI zs k++[mkA (zs.length-1-k) (zs[zs.length-1-k]?.getD 0)]:=by simp[tI,List.range_succ]
theorem Qt(zs:List Nat)(k:Nat):(tI zs k).length=k:=by simp[tI]
def RdB(Bs b off cap:Nat)(zs:List Nat)(W:World):Prop:=W.cell? ⟨Bs,0,none⟩=some (.slice (some ⟨b,off,none⟩) zs.length cap)/\∀j,j<zs.length->W.cell? ⟨b,off+j,none⟩=some (.int .u64 ((zs[j]?.getD 0:Nat):Int))
set_option maxRecDepth 100000 in
set_option maxHeartbeats 2000000 in
theorem Qu(n:Nat)(hn:1<=n)(l Bs b off cap:Nat)(zs:List Nat)(hfew:zs.length<=1000000)(hlim:∀z∈zs,z<1000000000)(Rd:World->Prop)(hRb:∀A,Rd A->RdB Bs b off cap zs A)(Kp:World->World->Prop)(hKp:∀A B,Rd A->Kp A B->Rd B)(J Jx:List A9->World->Prop)
  (hY:∀pre x W,J pre W->pre.length<zs.length->YieldAt Fence.wide (n-1) P0 l #[.int .i64 ((x.1.1:Nat):Int),.int .u64 ((x.1.2:Nat):Int)] W λe W'=>
    (e=.returned (.bool true)/\J (pre++[x]) W'/\Kp W W')\/(e=.returned (.bool false)/\Jx (pre++[x]) W'))
  (W:World)(hR:Rd W)(h0:J [] W):
  CallsIn Fence.wide n P0 253 #[.func (.yield l) #[] #[],.pointer (some ⟨Bs,0,none⟩)] W λe W'=>(∃v,e=.returned v)/\
   ((∃ys,ys=tI zs zs.length/\J ys W')\/(∃pre,(∃k,k<=zs.length/\pre=tI zs k)/\Jx pre W')):=by
 refine callsIn_of_wp Tryz.func253 rfl trivial ?_ rfl;simp only[Tryz.ntmps253,nJ,aA,aL,Nat.reduceAdd,Nat.reduceSub,Bz,By,List.push_toArray,CC,eQ,dG];have hBs:=(hRb _ hR).1
 gi_wp2
 gi_loopw [3] (λi wr=>((∃m:Nat,i=.int .i64 (m:Int)/\m<zs.length/\J (tI zs (zs.length-1-m)) wr)\/(i=.int .i64 (-1)/\J (tI zs zs.length) wr))/\Rd wr)
  (λi _=>(intOf i+1).toNat)
 case atStart=>
  refine⟨?_,hR⟩;rcases mG zs.length with h|h
  ·right;refine⟨by rw[h];rfl,?_⟩;rw[h];exact h0
  ·left;refine⟨zs.length-1,by congr 1;omega,by omega,?_⟩;rw[show zs.length-1-(zs.length-1)=0 by omega];exact h0
 case round=>
  obtain⟨⟨m,rfl,hm,hJs⟩|⟨rfl,hJs⟩,hRd⟩:=hrel
  ·have hcx:=(hRb _ hRd).2 m hm;have hbx:=(hRb _ hRd).1;have hz:zs[m]?.getD 0=zs[m]:=by simp[hm]
   rw[hz]at hcx;obtain⟨fn,tmps,assign,body,hy,hRn⟩:=hY _ (mkA m zs[m]) wr hJs (by rw[Qt];omega);have em:(mkA m zs[m]).1=(m,zs[m]):=Pd (by omega) (hlim _ (AB hm));rw[em]at hy;dsimp only at hy;have e1:tI zs (zs.length-1-m)++[mkA m zs[m]]=tI zs (zs.length-m):=by
    rw[<-hz,show zs.length-m=zs.length-1-m+1 by omega,FX,show zs.length-1-(zs.length-1-m)=m by omega]
   gi_wp2
   refine hRn.mono ?_;rintro e W3 (⟨rfl,hJ3,hk3⟩|⟨rfl,hJx3⟩)
   ·gi_wp2
    go_roundw
    case rel=>
     refine⟨?_,hKp _ _ hRd hk3⟩;rw[e1]at hJ3;rcases mG m with h|h
     ·right;subst h;exact⟨rfl,hJ3⟩
     ·left;refine⟨m-1,?_,by omega,?_⟩
      ·congr 1;omega
      ·rw[show zs.length-1-(m-1)=zs.length-m by omega];exact hJ3
    case measure=>simp only[intOf];omega
   ·gi_wp2
    refine bodyPost_ret (results_none rfl _ _ _) rfl ?_;rw[e1]at hJx3;exact⟨⟨_,rfl⟩,.inr ⟨_,⟨_,by omega,rfl⟩,hJx3⟩⟩
  ·gi_wp2
   go_end0
   exact⟨⟨_,rfl⟩,.inl ⟨_,rfl,hJs⟩⟩
end
section
open Go Go.Eng Go.Num Go.RowKit Go.Shelf
variable{w:World}{K:Q0}{cs:List Value}{G:Nat->Prop}{T:TypeId}{i:Nat}{n:Nat}{v:Value}{w':World}{P:Program}{c:UInt8}{S:Nat->Prop}
abbrev NG(w:World):Prop:=sD w
theorem Bo{g:FuncId}{args:List Value}{K:Q0}(hr:(callFunc g args.toArray).run P w=.ok (.enter g args.toArray) w)(h:@aC noX P g args w K):Calls P g args.toArray w λe w'=>∃v,e=.returned v/\K v w':=by
 letI:=noX;refine(callF_calls hr h).mono ?_;rintro e w' he;cases e with
 |returned v=>exact⟨v,rfl,he⟩
 |panicked c=>exact he.elim
 |outgrown=>exact he.elim
theorem Zd{v:Nat}(hT:sD w)(hv:v<1000000000):Calls P0 228 #[u64 v,i64 10] w λe w'=>e=.returned (str (Lib.decDigits v))/\Ext w w':=by
 letI:=noX;refine(Bo (args:=[u64 v,i64 10]) (Tryz.call228 _ _) (Zc (K:=λx w'=>x=str (Lib.decDigits v)/\Ext w w') hT (by omega) λw' h=>⟨rfl,h⟩)).mono ?_;rintro e w' ⟨x,rfl,rfl,h⟩;exact⟨rfl,h⟩
theorem aAW(hn:n<=1000000):Calls P0 183 #[str [48],i64 (n:Nat)] w λe w'=>e=.returned (str (List.replicate n 48))/\Ext w w':=by
 letI:=noX;refine(Bo (args:=[str [48],i64 (n:Nat)]) (Tryz.call183 _ _) (HF (K:=λx w'=>x=str (List.replicate n 48)/\Ext w w') (s:=[48]) (by simp) hn λw' h=>⟨?_,h⟩)).mono ?_
 ·congr 1;induction n with
  |zero=>rfl
  |succ n ih=>rw[Cz,List.flatten_cons,ih (by omega)];rfl
 rintro e w' ⟨x,rfl,rfl,h⟩;exact⟨rfl,h⟩
theorem NK{B b:Nat}{l s:Str}(h:Bld w B b l)(hB:B<=w.heap.size)(hl:l.length+s.length<=140737488355328):Calls P0 66 #[.pointer (some ⟨b,0,none⟩),str s] w λe w'=>(∃v,e=.returned v)/\Bld w' B b (l++s)/\Chg (BCh w B b) w w':=by
 letI:=noX;refine(Bo (args:=[.pointer (some ⟨b,0,none⟩),str s]) (Tryz.call66 _ _) (Ju (K:=λ_ w'=>Bld w' B b (l++s)/\Chg (BCh w B b) w w') h hB hl λv w' h1 h2=>⟨h1,h2⟩)).mono ?_;rintro e w' ⟨x,rfl,h⟩;exact⟨⟨x,rfl⟩,h⟩
def rC(L:Nat)(x:A9):Str:=if x.1.1<L-1 then JW x.1.2 else Lib.decDigits x.1.2
def Eb(L:Nat)(pre:List A9):Str:=pre.flatMap (rC L)
theorem CS(L:Nat)(x:A9):(rC L x).length<=9:=by
 unfold rC;split
 ·exact Nat.le_of_eq (AQ x.2.2).1
 ·exact zF 9 x.1.2 (by have:=x.2.2;omega) (by omega)
theorem Jp(L:Nat):∀pre:List A9,(Eb L pre).length<=9*pre.length
 |[]=>by simp[Eb]
 |x::r=>by
  have:=Jp L r
  have:=CS L x
  simp only[Eb,yC,bE,aA]at*
  omega
theorem Jo{zs:List Nat}(hlim:Lim zs)(hfew:zs.length<=1000000):∀k,k<=zs.length->Eb zs.length (tI zs k)=kV (zs.drop (zs.length-k))
 |0,_=>by rw[Nat.sub_zero,dQ];rfl
 |k+1,h=>by
  have hm:zs.length-(k+1)<zs.length:=by omega
  have hz:zs[zs.length-1-k]?.getD 0=zs[zs.length-(k+1)]:=by
   rw[show zs.length-1-k=zs.length-(k+1)by omega,List.getElem?_eq_getElem hm];rfl
  have em:(mkA (zs.length-1-k) zs[zs.length-(k+1)]).1=(zs.length-1-k,zs[zs.length-(k+1)]):=Pd (by omega) (hlim _ (AB hm));rw[FX,hz];have ih:=Jo hlim hfew k (by omega);unfold Eb at ih⊢;rw[List.flatMap_append,ih,yC,List.flatMap_nil,eA,cD hm,show zs.length-(k+1)+1=zs.length-k by omega];unfold rC;rw[em];rcases mG k with rfl|hk
  ·rw[aD (by show¬zs.length-1-0<zs.length-1;omega),Nat.sub_zero,dQ,EA];simp[kV]
  ·rw[aH (by show zs.length-1-k<zs.length-1;omega),CL (by intro e;have:=dS.1 e;omega)]
def KpT(b:Nat)(A B:World):Prop:=A.heap.size<=B.heap.size/\∀(k:Nat) (c:Array Value) (T:TypeId) (fr:Nat×Nat),A.heap[k]?=some (.cells c T fr)->k≠b->T≠U8->B.heap[k]?=some (.cells c T fr)
theorem KpT.trans{b:Nat}{A B C:World}(h:KpT b A B)(h':KpT b B C):KpT b A C:=⟨cH h.1 h'.1,λk c T fr hk hb hT=>h'.2 k c T fr (h.2 k c T fr hk hb hT) hb hT⟩
theorem KpT.ext{b:Nat}{A B:World}(h:Ext A B):KpT b A B:=⟨h.size,λk c T fr hk _ _=>h.at hk id⟩
theorem KpT.bch{B b:Nat}(h:Chg (BCh w B b) w w'):KpT b w w':=⟨h.size,λk c T fr hk hb hT=>BCh.keep h hk hb hT⟩
theorem Fy{W W':World}{row:Option Nat}(h:W.grownBy W' row):Chg (λk=>some k=row) W W':=⟨h.os,h.tape,h.output,h.size,λk hk hn=>h.block k hk hn⟩
def RdT(b Bs bk off cap:Nat)(zs:List Nat)(W:World):Prop:=Bs≠b/\bk≠b/\W.heap[Bs]?=some (.cells #[.slice (some ⟨bk,off,none⟩) zs.length cap] 196 (0,0))/\∃c fr,W.heap[bk]?=some (.cells c U64 fr)/\∀j,j<zs.length->c[off+j]?=some (u64 (zs[j]?.getD 0))
theorem RdT.rdb{b Bs bk off cap:Nat}{zs:List Nat}{W:World}(h:RdT b Bs bk off cap zs W):RdB Bs bk off cap zs W:=by
 obtain⟨_,_,h1,c,fr,h2,h3⟩:=h;refine⟨by rw[cC,h1];rfl,λj hj=>?_⟩;rw[cC,h2,cN];exact h3 j hj
theorem RdT.kp{b Bs bk off cap:Nat}{zs:List Nat}{A B:World}(h:RdT b Bs bk off cap zs A)(hk:KpT b A B):RdT b Bs bk off cap zs B:=by
 obtain⟨e1,e2,h1,c,fr,h2,h3⟩:=h;exact⟨e1,e2,hk.2 _ _ _ _ h1 e1 (by decide),c,fr,hk.2 _ _ _ _ h2 e2 (by decide),h3⟩
theorem RdT.chg{b Bs bk off cap:Nat}{zs:List Nat}{A B:World}(h:RdT b Bs bk off cap zs A)(hc:Chg S A B)(hS:∀k c T fr,A.heap[k]?=some (.cells c T fr)->¬S k):RdT b Bs bk off cap zs B:=by
 obtain⟨e1,e2,h1,c,fr,h2,h3⟩:=h;exact⟨e1,e2,hc.at h1 (hS _ _ _ _ h1),c,fr,hc.at h2 (hS _ _ _ _ h2),h3⟩
structure TxI(w:World)(p b Bs bk off cap:Nat)(zs:List Nat)(bl:Bool)(acc:Str)(W:World):Prop where
 ext:Ext w W
 bld:Bld W b b acc
 hp:W.heap[p]?=some (.cells #[.bool bl,.slice (some ⟨bk,off,none⟩) zs.length cap] BT (0,0))
 rd:RdT b Bs bk off cap zs W
theorem Zn(a:Option Addr)(len cap:Nat)(w:World):CallsIn Fence.wide 9 P0 227 #[.slice a len cap] w λe w'=>e=.returned (.func (.func 253) #[] #[.pointer (some ⟨w.heap.size,0,none⟩)])/\w'=w.alloc (.cells #[.slice a len cap] 196):=by
 refine callsIn_of_wp Tryz.func227 rfl trivial ?_ rfl;simp only[Tryz.ntmps227,nJ,aA,aL,Nat.reduceAdd,Nat.reduceSub,Bz,By,List.push_toArray,CC,eQ,dG]
 gi_wp2
 go_ret
 exact⟨rfl,rfl⟩
attribute [local go_sem] Oper.semAt_some
set_option maxHeartbeats 4000000 in
theorem TB{x:Big}{n:Int}(hT:NG w)(h:iL w x cs)(hx:ofInt n x)(hl:x.l.length<=900):Calls P0 188 #[.agg cs.toArray] w λe w'=>e=.returned (.tuple #[str (gK n).1,i64 (gK n).2])/\Ext w w':=by
 haveI:HX:=noX;obtain⟨sv,_,rfl,h1,h2,h3⟩:=h;obtain⟨p,cap,rfl,h4,h5,h6⟩:=h1;refine(callsIn_wide (n:=10)).1 ?_;by_cases hz:x.l.length=0
 ·refine callsIn_of_wp Tryz.func188 rfl trivial ?_ rfl;simp only[Tryz.ntmps188,nJ,aA,aL,Nat.reduceAdd,Nat.reduceSub,Bz,By,List.push_toArray,CC,eQ,dG]
  gi_wp2
  refine bodyPost_ret (results_tmp2 rfl _ _ _) rfl ?_;have hl0:x.l=[]:=bI hz;have hn:n=0:=by rw[<-hx.2];unfold Big.int;rw[hl0];simp[val]
  refine⟨?_,Chg.alloc (Chg.refl _ _) _⟩;have e0:Lib.itoa 0=[48]:=by unfold Lib.itoa;rw[aD (by omega)];exact LV
  have e1:gK 0=([48],0):=by unfold gK;rw[e0];rfl
  rw[hn,e1];rfl
 have hne:x.l.map u64≠[]:=λe=>hz (by rw[<-lC (f:=u64),e];rfl);obtain⟨bk,off,cc,fr,rfl,hbk,hcc⟩:=h6 hne;refine callsIn_of_wp_marks Tryz.func188 rfl trivial ?_ rfl;simp only[Tryz.ntmps188,nJ,aA,aL,Nat.reduceAdd,Nat.reduceSub,Bz,By,List.push_toArray,CC,eQ,dG];have hz':(x.l.length:Int)≠0:=by omega
 have hf1:Fence.wide.fn 227:=trivial
 gi_wp2_with (gi_at_call 227;refine(Zn _ _ _ _).mono ?_;rintro e w' ⟨rfl,rfl⟩)
 generalize hzs:x.l=zs at*
 obtain⟨W3,hW3⟩:∃W3,(((w.alloc (.cells #[.bool x.below,.slice (some ⟨bk,off,none⟩) zs.length cap] BT)).alloc (.cells #[.pointer none,.slice none 0 0] BdT)).alloc (.cells #[.slice (some ⟨bk,off,none⟩) zs.length cap] 196))=W3:=⟨_,rfl⟩;rw[hW3];have hbkl:=eW hbk;have hs3:W3.heap.size=w.heap.size+3:=by rw[<-hW3];simp
 have hx3:Ext w W3:=by rw[<-hW3];exact Chg.alloc (Chg.alloc (Chg.alloc (Chg.refl _ _) _) _) _
 have g0:W3.heap[w.heap.size]?=some (.cells #[.bool x.below,.slice (some ⟨bk,off,none⟩) zs.length cap] BT (0,0)):=by
  rw[<-hW3,xQ _ _ _ (by simp;omega),xQ _ _ _ (by simp)];exact gD _ _ _ rfl
 have g1:W3.heap[w.heap.size+1]?=some (.cells #[.pointer none,.slice none 0 0] BdT (0,0)):=by
  rw[<-hW3,xQ _ _ _ (by simp)];exact gD _ _ _ (by simp)
 have g2:W3.heap[w.heap.size+1+1]?=some (.cells #[.slice (some ⟨bk,off,none⟩) zs.length cap] 196 (0,0)):=by
  rw[<-hW3];exact gD _ _ _ (by simp)
 have hrd3:RdT (w.heap.size+1) (w.heap.size+1+1) bk off cap zs W3:=by
  refine⟨by omega,by omega,g2,cc,fr,hx3.at hbk id,λj hj=>?_⟩;have:=hcc j (by rw[lC];exact hj);rw[this,List.getElem?_map,List.getElem?_eq_getElem hj];rfl
 have hI3:TxI w w.heap.size (w.heap.size+1) (w.heap.size+1+1) bk off cap zs x.below [] W3:=⟨hx3,⟨_,_,g1,.inl rfl,⟨by simp[u8s],.inl ⟨rfl,rfl⟩⟩,aU _⟩,g0,hrd3⟩;refine wpIn_rangeFunc_ownF (F:=Fence.wide) rfl (by decide) (gf:=253) (lb:=#[.pointer (some ⟨w.heap.size+1+1,0,none⟩)]) rfl trivial (enters_of Tryz.func253 (by kernel_rfl) rfl)
  (encs:=λx:A9=>#[.int .i64 ((x.1.1:Nat):Int),.int .u64 ((x.1.2:Nat):Int)]) (Kp:=KpT (w.heap.size+1)) (S:=λxs=>xs=tI zs zs.length) (Sp:=λpre=>∃k,k<=zs.length/\pre=tI zs k) (N:=zs.length) (w0:=W3)
  (λl J Jx W hW hJ hJx hY h0=>?seq) (λh h'=>h.trans h') (λW l o o' hl ho hc _=>?kb) (Below.refl _ _) (λ_=>rfl)
  (λpre W=>TxI w w.heap.size (w.heap.size+1) (w.heap.size+1+1) bk off cap zs x.below (Eb zs.length pre) W)
  (λ_ _ _=>False) (λpre A B row hs hg hr=>?own) (λ_ _ _ _ _ hs _ _=>hs) hI3
  (λy=>{tmps:=#[.agg #[.bool x.below,.slice (some ⟨bk,off,none⟩) zs.length cap],.pointer (some ⟨w.heap.size,0,none⟩),.string ⟨#[]⟩,.int .i64 0,.pointer (some ⟨w.heap.size+1,0,none⟩),.int .i64 ((y.1.1:Nat):Int),.int .u64 ((y.1.2:Nat):Int),undef,
    .pointer (some ⟨w.heap.size,1,none⟩),.slice (some ⟨bk,off,none⟩) zs.length cap,.int .i64 (zs.length:Nat),.bool false,.pointer (some ⟨w.heap.size,1,none⟩),.slice (some ⟨bk,off,none⟩) zs.length cap,.func (.func 253) #[] #[.pointer (some ⟨w.heap.size+1+1,0,none⟩)],
    .int .i64 ((y.1.1:Nat):Int),.int .u64 ((y.1.2:Nat):Int),undef,undef,undef,undef,undef,undef,undef,undef,undef,undef,undef,undef,undef,undef,undef,undef,undef,undef,undef,undef,undef,undef,undef],defers:=[]}) ?assign ?body ?done ?stop
 case seq=>
  refine Qu 9 (by decide) l (w.heap.size+1+1) bk off cap zs (by omega) h3 (RdT (w.heap.size+1) (w.heap.size+1+1) bk off cap zs) (λA hA=>hA.rdb) (KpT (w.heap.size+1)) (λA B hA hk=>hA.kp hk) J Jx hY W ?_ h0;exact hrd3.kp ⟨hW.size,λk c T fr hk _ _=>(hW.block k (eW hk)).trans hk⟩
 case kb=>
  refine⟨by simp[World.putObj],λk c T fr hk hb hT=>?_⟩;have hne:k≠l:=λe=>by subst e;rw[ho]at hk;cases hk;cases hc
  rw[World.putObj_heap_other hne];exact hk
 case own=>
  have hc:=Fy hg;have hno:∀k c T fr,A.heap[k]?=some (.cells c T fr)->¬(some k=row):=λk c T fr hk e=>by
   obtain⟨_,o,h1,h2⟩:=hr k e.symm;rw[hk]at h1;cases h1;cases h2
  obtain⟨i1,i2,i3,i4⟩:=hs;refine⟨i1.then hc λk hk e=>by have:=(hr k e.symm).1;omega,i2.chg hc ?_ λk hk=>?_,hc.at i3 (hno _ _ _ _ i3),i4.chg hc hno⟩
  ·obtain⟨_,_,b1,_⟩:=i2;exact hno _ _ _ _ b1
  ·obtain⟨_,c,hk⟩:=hk;exact hno _ _ _ _ hk
 case assign=>
  intro l x W K hK
  gi_wp2
  exact hK
 case body=>
  rintro l pre y W ⟨i1,i2,i3,i4⟩ hlen;have hal:=Jp zs.length pre;have hy2:=y.2.2;have hd9:(Lib.decDigits y.1.2).length<=9:=zF 9 y.1.2 (by omega) (by omega);have hd:1<=10-1-1:=by decide
  have fin:∀{W1 W2:World},Ext W W1->Bld W2 (w.heap.size+1) (w.heap.size+1) (Eb zs.length pre++rC zs.length y)->Chg (BCh W1 (w.heap.size+1) (w.heap.size+1)) W1 W2->KeepsOthers W W2/\KpT (w.heap.size+1) W W2/\TxI w w.heap.size (w.heap.size+1) (w.heap.size+1+1) bk off cap zs x.below (Eb zs.length (pre++[y])) W2:=λ{W1 W2} hx1 hB hc=>by
   have hk:KpT (w.heap.size+1) W W2:=(KpT.ext hx1).trans (KpT.bch hc);refine⟨⟨hk.1,λk o hko ho=>?_⟩,hk,?_,?_,?_,i4.kp hk⟩
   ·have h1:=hx1.at hko id;refine hc.at h1 λe=>?_;rcases e with rfl|⟨_,c,e⟩
    ·obtain⟨_,_,b1,_⟩:=i2;rw[hko]at b1;cases b1;cases ho
    ·rw[h1]at e;cases e;cases ho
   ·exact(i1.trans hx1).then hc λk hk e=>by
     rcases e with e|e
     ·omega
     ·have:=e.1;omega
   ·have e:Eb zs.length (pre++[y])=Eb zs.length pre++rC zs.length y:=by simp[Eb]
    rw[e];exact hB
   ·exact hk.2 _ _ _ _ i3 (by omega) (by decide)
  gi_wp2
  refine⟨trivial,(CallsIn.inRound l (callsIn_wide.2 (Zd (hT.ext i1) hy2))).mono ?_⟩;rintro e W1 ⟨rfl,hx1⟩;dsimp only;have hp1:=hx1.at i3 id;have hc1:W1.cell? ⟨w.heap.size,1,none⟩=some (.slice (some ⟨bk,off,none⟩) zs.length cap):=by rw[cC,hp1];rfl
  have hB1:=i2.ext hx1;by_cases hlt:((y.1.1:Nat):Int)<(zs.length:Int)-1
  ·gi_wp2
   have harg:wrap64 (9-(((ofL (Lib.decDigits y.1.2)).size:Nat):Int))=((9-(Lib.decDigits y.1.2).length:Nat):Int):=by
    rw[eV];unfold wrap64;omega
   rw[harg];refine⟨trivial,(CallsIn.inRound l (callsIn_wide.2 (aAW (w:=W1) (by omega)))).mono ?_⟩;rintro e W2 ⟨rfl,hx2⟩;dsimp only;have hsum:(ofL (List.replicate (9-(Lib.decDigits y.1.2).length) 48)).size+(ofL (Lib.decDigits y.1.2)).size<=9223372036854775807:=by
    rw[eV,eV,List.length_replicate];omega
   have hsum2:¬9223372036854775807<(ofL (List.replicate (9-(Lib.decDigits y.1.2).length) 48)).size+(ofL (Lib.decDigits y.1.2)).size:=by omega
   have hc2:W2.cell? ⟨w.heap.size,1,none⟩=some (.slice (some ⟨bk,off,none⟩) zs.length cap):=by rw[cC,hx2.at hp1 id];rfl
   have hB2:=hB1.ext hx2
   gi_wp2
   rw[GD];have hrt:List.replicate (9-(Lib.decDigits y.1.2).length) 48++Lib.decDigits y.1.2=rC zs.length y:=by
    unfold rC;rw[aH (by omega)];rfl
   rw[hrt];have hrl:=CS zs.length y;refine⟨trivial,(CallsIn.inRound l (callsIn_wide.2 (NK (s:=rC zs.length y) hB2 (by have:=hx1.size;have:=hx2.size;have:=i2.lt;omega) (by omega)))).mono ?_⟩;rintro e W3 ⟨⟨v,rfl⟩,hB3,hc3⟩;dsimp only
   gi_wp2
   exact fin (hx1.trans hx2) hB3 hc3
  ·gi_wp2
   have hrt:Lib.decDigits y.1.2=rC zs.length y:=by
    unfold rC;rw[aD (by omega)]
   refine⟨trivial,(CallsIn.inRound l (callsIn_wide.2 (NK (s:=Lib.decDigits y.1.2) hB1 (by have:=hx1.size;have:=i2.lt;omega) (by omega)))).mono ?_⟩;rintro e W2 ⟨⟨v,rfl⟩,hB2,hc2⟩;dsimp only
   gi_wp2
   rw[hrt]at hB2;exact fin hx1 hB2 hc2
 case done=>
  rintro D xs W hD rfl ⟨i1,i2,i3,i4⟩ hK;rw[Jo h3 (by omega) zs.length (aU _),Nat.sub_self,cV]at i2;have hzne:zs≠[]:=λe=>hz (by rw[e];rfl);obtain⟨o1,o2⟩|⟨o1,o2,o3,o4⟩:=ok_int hx.1
  ·rw[hzs]at o1;exact absurd o1 hzne
  rw[hx.2,hzs]at o4;rw[hzs]at o3;have hnat:n.natAbs=val zs:=by rw[<-hx.2];unfold Big.int;rw[hzs];split<;>omega
  have hdig:dig (Lib.itoa n)=kV zs:=by rw[wS,hnat,ED h3 (hzs▸hx.1.2) hzne]
  have htl:=EB zs h3;have hlen:=Tryz.Builder_Len_f (w.heap.size+1) (w.heap.size+1) (Lib.byteCells (kV zs)) W i2.isb;have hstr:=Tryz.Builder_String_any_k (w.heap.size+1) (w.heap.size+1) (kV zs) W i2.isb (by have:=i2.lt;omega);have hc3:W.cell? ⟨w.heap.size,0,none⟩=some (.bool x.below):=by rw[cC,i3];rfl
  have hbl:(Lib.byteCells (kV zs)).length=(kV zs).length:=by simp[Lib.byteCells]
  rw[hbl]at hlen;have mN:∀{W':World},Ext w W'->W'.heap[D]?=some (.deferred (some []))->Ext w (W'.putObj D (.deferred none)):=λ{W'} hx' hk=>by
   refine hx'.then (Fy (grownBy_putObj' W' D _)) λk hk e=>by
    have e:some k=some D:=e;cases e;omega
  have hwD:w.heap.size<=D:=by omega
  gi_wp2
  refine⟨trivial,(callsIn_wide.2 hlen).mono ?_⟩;rintro e W1 ⟨rfl,rfl⟩;dsimp only;by_cases h100:(100:Int)<((kV zs).length:Nat)
  ·gi_wp2
   refine⟨by simp,.inl ⟨_,_,rfl,run_takeDeferred hK,?_⟩⟩;refine⟨_,results_tmp2 rfl _ _ _,?_,mN i1 hK⟩;have e1:gK n=([],3):=by unfold gK;rw[aH (by rw[hdig];omega)]
   rw[e1];rfl
  ·have e1:gK n=(Lib.itoa n,0):=by unfold gK;rw[aD (by rw[hdig];omega)]
   cases hb:x.below with
   |true=>
    rw[hb]at hc3
    gi_wp2
    refine⟨trivial,(callsIn_wide.2 hstr).mono ?_⟩;rintro e W2 ⟨rfl,_,hbel,hot⟩;dsimp only
    gi_wp2
    have hK2:=hot D _ hK (by simp only[bT,bD];omega) (λc fz e=>by cases e);have hx2:Ext w W2:=i1.then (⟨hbel.os,hbel.tape,hbel.output,hbel.size,λk _ hn=>hbel.block k (by omega)⟩:Chg (λk=>w.heap.size+1<=k) _ W2) λk hk e=>by omega
    refine⟨by simp,.inl ⟨_,_,rfl,run_takeDeferred hK2,?_⟩⟩;refine⟨_,results_tmp2 rfl _ _ _,?_,mN hx2 hK2⟩;rw[e1,o4,hb,aH rfl];show Ending.returned (.tuple #[.string (ofL [45]++ofL (kV zs)),.int .i64 0])=_;rw[GD]
   |false=>
    rw[hb]at hc3
    gi_wp2
    refine⟨trivial,(callsIn_wide.2 hstr).mono ?_⟩;rintro e W2 ⟨rfl,_,hbel,hot⟩;dsimp only
    gi_wp2
    have hK2:=hot D _ hK (by simp only[bT,bD];omega) (λc fz e=>by cases e);have hx2:Ext w W2:=i1.then (⟨hbel.os,hbel.tape,hbel.output,hbel.size,λk _ hn=>hbel.block k (by omega)⟩:Chg (λk=>w.heap.size+1<=k) _ W2) λk hk e=>by omega
    refine⟨by simp,.inl ⟨_,_,rfl,run_takeDeferred hK2,?_⟩⟩;refine⟨_,results_tmp2 rfl _ _ _,?_,mN hx2 hK2⟩;rw[e1,o4,hb,aD (by simp),eQ];rfl
 case stop=>
  rintro D c pre W _ _ h _;exact h.elim
section
variable [HX]
theorem Ac{x:Big}{n:Int}{K:Q0}(hT:NG w)(h:iL w x cs)(hx:ofInt n x)(hl:x.l.length<=900)(hK:∀w',Ext w w'->K (.tuple #[str (gK n).1,i64 (gK n).2]) w'):aC P0 188 [.agg cs.toArray] w K:=by
 refine gF (args:=#[.agg cs.toArray]) Tryz.call188 ((TB hT h hx hl).mono ?_);rintro e w' ⟨rfl,hx'⟩;exact⟨_,rfl,hK w' hx'⟩
end
end
section
open Go Go.Eng Go.Num Go.RowKit
variable{w:World}{K:Q0}{cs:List Value}{G:Nat->Prop}{T:TypeId}{i:Nat}{n:Nat}{v:Value}{w':World}{P:Program}{c:UInt8}{S:Nat->Prop}
theorem mB(l:List Nat):(gP l).length<=l.length:=by
 induction l using wE with
 |h0=>rw[qO];simp
 |h1 l x ih=>
  by_cases h:x=0
  ·subst h;rw[oU];simp;omega
  ·rw[tW h];simp
theorem rE{a:Str}(h:goodN a=true):(gR a).l.length<=100:=by
 obtain⟨_,h2,_,_⟩:=iE h;haveI:HX:=noX;have h3:=xN _ (dig a) (aU _);have:=mB (kX (dig a));show(gP (kX (dig a))).length<=100;omega
theorem pC{a:Str}(h:goodN a=true):a.length<=9223372036854775807:=by
 have:=Al h;omega
theorem xJ:∀(x y:List Nat) (c:Nat),(iB x y c).length<=x.length+y.length+1
 |[],[],c=>by simp[iB]
 |[],b::y,c=>by have:=xJ [] y ((c+b)/1000000000);simp[iB]at this⊢;omega
 |a::x,[],c=>by have:=xJ x [] ((c+a)/1000000000);simp[iB]at this⊢;omega
 |a::x,b::y,c=>by have:=xJ x y ((c+a+b)/1000000000);simp[iB]at this⊢;omega
section
variable [HX]
theorem zP{a b:Str}{B:Q0}{g:List Value->Fr->World->Prop}(ha:goodN a=true)(hb:goodN b=true)(hK:∀w',Ext w w'->B (.bool false) w'):
  aC P0 75 [str a] w λt7 w1=>unW .not t7 λt8=>GdW (isB t8 false) [undef] w1 (λJ2=>aC P0 75 [str b] w1 λt11 w3=>unW .not t11 λt12=>J2 [t12] w3) λs2 _ w4=>cP t8 (.bool true) (s2.getD 0 undef) λt13=>B t13 w4:=by
 refine lT (pC ha) λw1 hx1=>?_;rw[ha,eD];refine GdW.act false (λw'=>Ext w1 w') (λ_=>Chg.refl _ _) ?_ ?_
 ·intro _ J hJ;refine lT (pC hb) λw2 hx2=>?_;rw[hb,eD];exact hJ w2 hx2
 intro g2 w4 hx4;exact hK w4 (hx1.trans hx4)
theorem Oa{x y:Big}{a b:Int}{ds:List Value}{K:Q0}(h:iL w x cs)(h':iL w y ds)(hx:ofInt a x)(hy:ofInt b y)(hl:x.l.length+y.l.length<=800)
  (hK:∀z cs' w',Ext w w'->iL w' z cs'->ofInt (a+b) z->z.l.length<=x.l.length+y.l.length+1->K (.agg cs'.toArray) w'):aC P0 185 [.agg cs.toArray,.agg ds.toArray] w K:=by
 refine Lc h h' (by omega) λcs' w' hx' hz=>hK _ cs' w' hx' hz (MO hx hy) ?_;have hm:∀(x y:List Nat) (c:Nat),(gG x y c).length<=x.length:=by
  intro x;induction x with
  |nil=>intro y c;simp[gG]
  |cons a x ih=>
   intro y c;simp only[gG];split<;>simp only[aA]<;>have:=ih y.tail<;>grind
 unfold Ed;split
 ·have:=xJ x.l y.l 0;have:=mB (iB x.l y.l 0);simp only[Big.trim];omega
 ·split
  ·have:=hm x.l y.l 0;have:=mB (gG x.l y.l 0);simp only[Big.trim];omega
  ·have:=hm y.l x.l 0;have:=mB (gG y.l x.l 0);simp only[Big.trim];omega
theorem aBy{a b:Str}{K:Q0}(hT:NG w)(ha:goodN a=true)(hb:goodN b=true)(hK:∀w',Ext w w'->K (.tuple #[str (gK (num a+num b)).1,i64 (gK (num a+num b)).2]) w'):aC P0 133 [str a,str b] w K:=by
 refine VQ ?_;unfold aCt;refine zP (g:=λ_ _ _=>True) ha hb λw4 hx4=>?_;rw[cX];refine mT ha (pC ha) λcs1 w5 hx5 h1=>?_;refine mT hb (pC hb) λcs2 w6 hx6 h2=>?_;have:=rE ha;have:=rE hb;refine Oa (h1.ext hx6) h2 (pA ha) (pA hb) (by omega) λz cs3 w7 hx7 h3 hz hzl=>?_;have hx:=hx4.trans (hx5.trans (hx6.trans hx7));refine Ac (hT.ext hx) h3 hz (by omega) λw8 hx8=>?_;simp only[bJ];exact⟨_,rfl,_,rfl,hK w8 (hx.trans hx8)⟩
theorem WC{a b:Str}{K:Q0}(hT:NG w)(ha:goodN a=true)(hb:goodN b=true)(hK:∀w',Ext w w'->K (.tuple #[str (gK (num a-num b)).1,i64 (gK (num a-num b)).2]) w'):aC P0 129 [str a,str b] w K:=by
 refine VV ?_;unfold aCx;refine zP (g:=λ_ _ _=>True) ha hb λw4 hx4=>?_;rw[cX];refine mT ha (pC ha) λcs1 w5 hx5 h1=>?_;refine mT hb (pC hb) λcs2 w6 hx6 h2=>?_;have:=rE ha;have:=rE hb;refine CF h2 λcs4 w9 hx9 h4=>?_;have:=mB (gR b).l;have hl4:(zQ (gR b)).l.length<=100:=by show(gP (gR b).l).length<=100;omega
 refine Oa (h1.ext (hx6.trans hx9)) h4 (pA ha) (JX (pA hb)) (by omega) λz cs3 w7 hx7 h3 hz hzl=>?_;have hx:=hx4.trans (hx5.trans (hx6.trans (hx9.trans hx7)));refine Ac (hT.ext hx) h3 hz (by omega) λw8 hx8=>?_;simp only[bJ];exact⟨_,rfl,_,rfl,hK w8 (hx.trans hx8)⟩
theorem aBc{a b:Str}{K:Q0}(hT:NG w)(ha:goodN a=true)(hb:goodN b=true)(hK:∀w',Ext w w'->K (.tuple #[str (gK (num a*num b)).1,i64 (gK (num a*num b)).2]) w'):aC P0 134 [str a,str b] w K:=by
 refine VP ?_;unfold aCs;refine zP (g:=λ_ _ _=>True) ha hb λw4 hx4=>?_;rw[cX];refine mT ha (pC ha) λcs1 w5 hx5 h1=>?_;refine mT hb (pC hb) λcs2 w6 hx6 h2=>?_;have:=rE ha;have:=rE hb;refine Ez (h1.ext hx6) h2 (pA ha) (pA hb) (by omega) λz cs3 w7 hx7 h3 hz hzl=>?_;have hx:=hx4.trans (hx5.trans (hx6.trans hx7));refine Ac (hT.ext hx) h3 hz (by omega) λw8 hx8=>?_;simp only[bJ];exact⟨_,rfl,_,rfl,hK w8 (hx.trans hx8)⟩
end
theorem CI{n:Int}(h:n.natAbs<10^100):gK n=(Lib.itoa n,0):=by
 unfold gK;rw[aD];rw[wS];have:=zF 100 n.natAbs h (by omega);omega
theorem CM{a b:Str}(ha:goodN a=true):((num a).tdiv (num b)).natAbs<10^100:=by
 have:=AT ha;rw[Int.natAbs_tdiv];exact Eo (Nat.div_le_self _ _) this
theorem JC{a b:Str}(ha:goodN a=true):((num a).tmod (num b)).natAbs<10^100:=by
 have:=AT ha;rw[Int.natAbs_tmod];exact Eo (Nat.mod_le _ _) this
theorem OZ{a b:Str}(ha:goodN a=true)(hb:goodN b=true):(DO a b).2=(Ef a b).2:=by
 unfold DO Ef;split
 ·rfl
 ·rw[CI (CM ha),CI (JC ha)]
theorem iL.row{x:Big}{xs:List Value}{B:Nat}(h:iL w x cs)(hO:Eng.Own w B U8 1 v n xs)(hc:Chg (λk=>v.ownBlock=some k) w w'):iL w' x cs:=by
 obtain⟨sv,T,rfl,⟨p',cap,hv,h1,h2,h3⟩,h4,h5⟩:=h;refine⟨sv,T,rfl,⟨p',cap,hv,h1,h2,λhne=>?_⟩,h4,h5⟩;obtain⟨k,off,c,fr,hp,hk,hcs⟩:=h3 hne;refine⟨k,off,c,fr,hp,hc.at hk λe=>?_,hcs⟩;obtain⟨_,c',hk'⟩:=hO.block k e;rw[hk]at hk';simp only[bD,Obj.cells.injEq]at hk';exact absurd hk'.2.1 (by decide)
structure aAH(d:Str)(Y i:Nat)(D:Str)(r:Nat):Prop where
 len:D.length=i
 dig:D.all Num.isDig=true
 eq:dec (d.take i)=dec D*Y+r
 lt:r<Y
theorem Nv{d:Str}{Y:Nat}{D:Str}{r:Nat}(h:aAH d Y i D r)(hc:d[i]?=some c)(hd:Num.isDig c=true){j:Nat}(hj:j*Y<=r*10+dval c)(hl:r*10+dval c-j*Y<Y):aAH d Y (i+1) (D++[UInt8.ofNat (48+j)]) (r*10+dval c-j*Y):=by
 have hcl:=GT hd;have hrl:=h.lt;have hj9:j<10:=by
  refine eK λhn=>?_;have:10*Y<=j*Y:=fX _ (by omega);omega
 have ht:(UInt8.ofNat (48+j)).toNat=48+j:=by rw[iW];omega
 refine⟨by rw[bE,h.len];rfl,?_,?_,hl⟩
 ·rw[Cg,h.dig];simp only[fK,List.all_nil,kI,iA,Num.isDig,ht,aJ,bB];omega
 ·have e1:d.take (i+1)=d.take i++[c]:=by rw[eP,hc];rfl
  have e2:dec (D++[UInt8.ofNat (48+j)])=dec D*10+j:=by
   rw[vJ];show dec D*10^1+(0*10+dval _)=_;unfold dval;rw[ht];omega
  rw[e1,vJ,e2];show dec (d.take i)*10^1+(0*10+dval c)=_;rw[h.eq];have e3:(dec D*10+j)*Y=dec D*Y*10+j*Y:=by rw[lP,Nat.mul_right_comm]
  rw[e3];omega
theorem MP(h:n<1000000000):ofInt (n:Nat) (⟨false,[n]⟩:Big).trim:=by
 have:=HV (l:=[n]) (λz hz=>by rw[bR]at hz;omega);rwa[show val [n]=n by simp[val]]at this
theorem MN:ofInt 10 ⟨false,[10]⟩:=by
 refine⟨⟨λz hz=>by rw[bR]at hz;omega,λh=>by simp,λe=>by cases e⟩,?_⟩;simp[Big.int,val]
section
variable [HX]
theorem OA{K:List Value->World->Prop}(hn:n<1000000000)(hK:∀c w',Ext w w'->iL w' ⟨false,[n]⟩ c->K c w'):
  dN U64 1 [(.int .u64 0)] [(0,1,u64 n)] w λt w1=>dD [(.bool false),(.slice none 0 0)] [(0,1,(.bool false)),(1,1,t)] λc=>K c w1:=by
 refine WH λt w1 ht hx=>?_;obtain⟨p,cap,rfl,_⟩:=ht.shape;simp only[wI,gB,cU,aA,aL,aW,aZ];refine⟨by omega,by omega,?_⟩;exact hK _ w1 hx ⟨_,U64,rfl,ht,by simp,λz hz=>by rw[bR]at hz;omega⟩
theorem JF{b:Nat}{ds:List Value}{x:Big}{K:World->Prop}(hb:w.heap[b]?=some (.cells ds.toArray BT (0,0)))(hd:ds.length=2)(h:iL w x cs)(hds:∃p q,ds=[.bool p,q]/\∀n,q≠u64 n)
  (hK:∀w',w'.heap.size=w.heap.size->w'.heap[b]?=some (.cells cs.toArray BT (0,0))->Chg (λk=>k=b) w w'->iL w' x cs->K w'):stW 2 (.pointer (some ⟨b,0,none⟩)) (.agg cs.toArray) w K:=
 cG hb h.len hd h.one λw' hz hb' hc=>by
  obtain⟨p,q,rfl,hq⟩:=hds
  exact hK w' hz hb' hc (h.keep hb hq hc)
theorem iL.pq{x:Big}(h:iL w x cs):∃p q,cs=[.bool p,q]/\∀n,q≠u64 n:=by
 obtain⟨sv,T,rfl,h1,_⟩:=h;obtain⟨p,c,rfl,_⟩:=h1.shape;exact⟨_,_,rfl,λn e=>by cases e⟩
theorem Kc:∀(x y:List Nat) (c:Nat),(gG x y c).length=x.length:=by
 intro x;induction x with
 |nil=>intro y c;rfl
 |cons a x ih=>intro y c;rw[sZ,aA,ih,aA]
theorem FW{a:Str}(ha:goodN a=true):(gR a).below=neg a:=by
 obtain⟨g1,gl,g0,gd⟩:=iE ha;show(neg a&&!(gP (kX (dig a))).isEmpty)=neg a;cases hn:neg a with
 |false=>rfl
 |true=>
  have hv:val (gP (kX (dig a)))=dec (dig a):=by rw[(lR _).1,(qT _ (dig a) (aU _) gd).1]
  have hpos:1<=dec (dig a):=by
   cases hd:dig a with
   |nil=>rw[hd]at g1;simp at g1
   |cons c d=>
    rw[hd]at gd g0;simp only[fK,aJ]at gd;have h48:c≠48:=λe=>by
     have:=g0 (by simp[e]);rw[this]at hn;cases hn
    exact cH (Bt (by omega)) (KG gd.1 h48)
  cases ht:gP (kX (dig a))with
  |nil=>rw[ht]at hv;simp[val]at hv;omega
  |cons c d=>rfl
theorem Kz{z:Big}(h:ofInt (n:Nat) z)(hn:n<10^101):z.l.length<=100:=by
 refine eK λhl=>?_;have hv:=(AR h).2;have h1:=Gm h.1.2 (λe=>by rw[e]at hl;simp at hl);have h2:1000000000^100<=1000000000^(z.l.length-1):=jC (by omega) (by omega);have h3:10^101<=1000000000^100:=cH (show 10^101<=1000000000^12 by decide) (jC (by omega) (by omega));omega
theorem Db{l:List Nat}{s:Bool}(hl:Lim l)(hv:val l=n):ofInt (if s=true then-((n:Nat):Int)else((n:Nat):Int)) (⟨s,l⟩:Big).trim:=by
 have:=yY (x:=⟨s,l⟩) hl;have e:(⟨s,l⟩:Big).int=if s=true then-((n:Nat):Int)else((n:Nat):Int):=by
  unfold Big.int;simp only[hv]
 rwa[e]at this
theorem Nw{D:Str}(hd:D.all Num.isDig=true):Num.dig D=D/\neg D=false:=by
 cases D with
 |nil=>exact⟨rfl,rfl⟩
 |cons c r=>
  simp only[fK,aJ]at hd;have:c≠45:=by rintro rfl;exact absurd hd.1 (by decide)
  exact⟨by simp[Num.dig,this],by simp[neg,this]⟩
theorem WW{a b:Str}{K:Q0}(hT:NG w)(ha:goodN a=true)(hb:goodN b=true)(hK:∀w',Ext w w'->K (.tuple #[str (DO a b).1,str (Ef a b).1,i64 (DO a b).2]) w'):aC P0 135 [str a,str b] w K:=by
 refine VO ?_;unfold aCr;refine zP (g:=λ_ _ _=>True) ha hb λw4 hx4=>?_;rw[cX,qJ,aM];refine⟨λhb0=>?_,λhb0=>?_⟩
 ·have e0:num b=0:=by rw[hb0];decide
  have:=hK w4 hx4;unfold DO Ef at this;rw[aH e0,aH e0]at this;exact this
 have hbz:num b≠0:=λe=>hb0 (Lo hb (by decide) (e.trans (by decide)));obtain⟨_,gl,_,gd⟩:=iE ha;obtain⟨_,gl2,_,gd2⟩:=iE hb;have hY:0<dec (dig b):=by
  refine Nat.pos_of_ne_zero λe=>hbz ?_;unfold num;rw[e];split<;>rfl
 have hYs:dec (dig b)<10^100:=cL (Bi gd2) (jC (by omega) gl2);refine mT ha (pC ha) λcs1 w5 hx5 h1=>?_;refine mT hb (pC hb) λcs2 w6 hx6 h2=>?_;have hx06:=hx4.trans (hx5.trans hx6);have h16:=h1.ext hx6;have hbv:val (gR b).l=dec (dig b):=by
  show val (gP (kX (dig b)))=_;rw[(lR _).1,(qT _ (dig b) (aU _) gd2).1]
 have hbok:=(ES hb).2;have hlb:=rE hb;have hab:=FW ha;have hbb:=FW hb;obtain⟨svb,_,rfl,hsb,hsb2,hsb3⟩:=h2;obtain⟨sva,_,rfl,hsa,hsa2,hsa3⟩:=h16;obtain⟨pb,cb,rfl,_⟩:=hsb.shape;obtain⟨pa,ca,rfl,_⟩:=hsa.shape;generalize hsvb:Value.slice pb (gR b).l.length cb=svb at*
 generalize hsva:Value.slice pa (gR a).l.length ca=sva at*
 have o7:([.bool (gR a).below,sva]:List Value).all gH=true:=by rw[<-hsva];rfl
 have o8:([.bool (gR b).below,svb]:List Value).all gH=true:=by rw[<-hsvb];rfl
 have o9:([.bool false,svb]:List Value).all gH=true:=by rw[<-hsvb];rfl
 refine bG λb7 w7 hb7 hz7 hbb7 hx7=>?_;refine bG λb8 w8 hb8 hz8 hbb8 hx8=>?_;refine cG (hx8.at hbb7 id) rfl rfl o7 λw9 hz9 hbb79 hc9=>?_;refine cG (hc9.at hbb8 (by omega)) rfl rfl o8 λw10 hz10 hbb810 hc10=>?_;have hx610:Ext w6 w10:=((hx7.trans hx8).new hc9 (by omega)).new hc10 (by omega);have hbb710:=hc10.at hbb79 (by omega);refine Cb (off:=1) hbb810 rfl ?_;have hput:∀{K:List Value->Prop},K [.bool false,svb]->dD [(.bool false),(.slice none 0 0)] [(0,1,(.bool false)),(1,1,svb)] K:=λ{K} h=>by
  rw[<-hsvb];simp only[wI,gB,cU,aA,aL,aW,aZ];refine⟨by omega,by omega,?_⟩;rw[hsvb];exact h
 refine hput ?_;refine bG λb9 w12 hb9 hz12 hbb9 hx12=>?_;refine cG hbb9 rfl rfl o9 λw13 hz13 hbb913 hc13=>?_;refine bG λb10 w14 hb10 hz14 hbb10 hx14=>?_;refine BC (pC ha) ?_;refine Hl (l:=dig a) (by kernel_rfl) (by kernel_rfl) (by kernel_rfl) λdv w16 hdv hx16=>?_;rw[fR hdv];have hx1013:Ext w10 w13:=hx12.new hc13 (by omega);have hx1016:=hx1013.trans (hx14.trans hx16);have hx616:=hx610.trans hx1016;have hb716:=hx1016.at hbb710 id;have hb816:=hx1016.at hbb810 id;have hb916:=(hx14.trans hx16).at hbb913 id;have hb1016:=hx16.at hbb10 id;have s616:=hx616.size;have l10:=eW hbb10;have hlt16:=hx16.size;have hnz:∀(l:List Nat),({below:=false,l:=l}:Big).below=false:=λ_=>rfl;generalize hYd:dec (dig b)=Y at*
 generalize hdg:dig a=d at*
 have hpart:iL w6 ⟨false,(gR b).l⟩ [.bool false,svb]:=⟨svb,U64,rfl,hsb,hsb2,hsb3⟩;refine cZ.go (λst w'=>∃(i:Nat) (D:Str) (r:Nat) (v:Value) (rest:Big) (rcs:List Value),st=[v,i64 (i:Nat)]/\i<=d.length/\aAH d Y i D r/\Eng.Own w' w16.heap.size U8 1 v D.length (u8s D)/\Chg (λk=>k=b10\/w16.heap.size<=k) w16 w'/\w'.heap[b10]?=some (.cells rcs.toArray BT (0,0))/\iL w' rest rcs/\ofInt (r:Nat) rest)
  (λst _=>match st with|[_,.int _ i]=>d.length-i.toNat|_=>0)
  ⟨0,[],0,.slice none 0 0,⟨false,[]⟩,[.bool false,.slice none 0 0],rfl,fW _,⟨rfl,rfl,by simp[dec],hY⟩,⟨rfl,.inl ⟨rfl,rfl⟩⟩,Chg.refl _ _,hb1016,⟨_,U64,rfl,SlAt.nil _ _,by simp,λz hz=>by simp at hz⟩,⟨⟨λz hz=>by simp at hz,λh=>absurd rfl h,λe=>rfl⟩,by simp[Big.int,val]⟩⟩ ?_
 rintro st g w18 ⟨i,D,r,v,rest,rcs,rfl,hi,hI,hO,hc18,hb18,hR18,hr⟩;simp only[aF,cW];have s18:=hc18.size;have old18:∀{k:Nat} {o:Obj},w16.heap[k]?=some o->k≠b10->w18.heap[k]?=some o:=λ{k o} h hne=>hc18.at h λe=>e.elim hne λe=>by have:=eW h;omega
 have hx618:Ext w6 w18:=hx616.then hc18 λk hk e=>by have:=hx610.size;omega
 have hrl:=Kz hr (by have:=hI.lt;omega);rw[dW,aM];refine⟨λhlt=>?_,λhge=>?_⟩
 ·have hlt:i<d.length:=by omega
  obtain⟨c,hc⟩:∃c,d[i]?=some c:=⟨_,List.getElem?_eq_getElem hlt⟩;have hcd:Num.isDig c=true:=bN.1 gd c (bK hc);have hcl:=GT hcd;have hc48:48<=c.toNat/\c.toNat<=57:=by simpa[Num.isDig]using hcd
  have hdv18:SlAt w18 U8 dv d.length (u8s d):=by
   obtain⟨p',cap,hv,e1,e2,e3⟩:=hdv;refine⟨p',cap,hv,e1,e2,λhne=>?_⟩;obtain⟨k,off,c0,fr,hp,hk,hcs⟩:=e3 hne;refine⟨k,off,c0,fr,hp,old18 hk λe=>?_,hcs⟩;subst e;rw[hb1016]at hk;simp only[bD,Obj.cells.injEq]at hk;exact absurd hk.2.1 (by decide)
  refine rO hdv18 (by rw[oS]) (by rw[Cj,hc];rfl) ?_;refine bX hb18 hR18.len ?_;refine OA (n:=10) (by omega) λc20 w19 hx19 h19=>?_;refine Ez (hR18.ext hx19) h19 hr MN (by show rest.l.length+1+1<=1000;omega) λz21 cs21 w21 hx21 h21 hz21 hl21=>?_;rw[nB];have ew:IntKind.u8.wrap (((c.toNat:Nat):Int)-48)=((dval c:Nat):Int):=by
   unfold dval;simp only[IntKind.wrap,IntKind.signed,IntKind.bits,IntKind.max,IntKind.min];simp;omega
  rw[ew,mE,NR (by omega)];refine OA (by omega) λc23 w22 hx22 h22=>?_;refine pI h22 λcs24 w24 hx24 h24=>?_;refine Oa (h21.ext (hx22.trans hx24)) h24 hz21 (MP (by omega)) (by
   have:(⟨false,[dval c]⟩:Big).trim.l.length<=1:=mB _;have hl21:z21.l.length<=rest.l.length+1+1:=hl21;omega) λz25 cs25 w25 hx25 h25 hz25 hl25=>?_
  have hx1825:=hx19.trans (hx21.trans (hx22.trans (hx24.trans hx25)));refine JF (hx1825.at hb18 id) hR18.len h25 hR18.pq λw26 hz26 hb26 hc26 h26=>?_;have hR:ofInt (((r*10+dval c:Nat)):Nat) z25:=by
   have:((r:Int)*10+(dval c:Nat))=((r*10+dval c:Nat):Int):=by omega
   rw[<-this];exact hz25
  have hc1826:Chg (λk=>k=b10) w18 w26:=(Chg.of_ext hx1825).then hc26 λ_ _ e=>e;have hO26:Eng.Own w26 w16.heap.size U8 1 v D.length (u8s D):=Aa hO hc1826 λk hk e=>by have:=(tN hO hk).1;have e:k=b10:=e;omega
  refine cZ.go (λst w'=>∃(j:Nat) (rest:Big) (rcs:List Value),st=[.int .u8 ((48+j:Nat):Int)]/\j<=10/\j*Y<=r*10+dval c/\Chg (λk=>k=b10) w26 w'/\w'.heap[b10]?=some (.cells rcs.toArray BT (0,0))/\iL w' rest rcs/\ofInt ((r*10+dval c-j*Y:Nat)) rest)
   (λst _=>match st with|[.int _ j]=>58-j.toNat|_=>0)
   ⟨0,z25,cs25,rfl,by omega,by omega,Chg.refl _ _,hb26,h26,by rw[yA,Nat.sub_zero];exact hR⟩ ?_
  rintro st g2 w28 ⟨j,rest2,rcs2,rfl,hj,hjY,hc28,hb28,hR28,hr28⟩;simp only[aF];have hrb:r*10+dval c<10*Y:=by have:=hI.lt;omega
  have hc1828:=hc1826.trans hc28;have hx628:Ext w6 w28:=hx618.then hc1828 λk hk e=>by have:=hx610.size;have e:k=b10:=e;omega
  have hb928:=hc1828.at (old18 hb916 (by omega)) (λe=>by have e:b9=b10:=e;omega);have hP28:=hpart.ext hx628;refine bX hb28 hR28.len ?_;refine bX hb928 rfl ?_;refine Hn hR28 hP28 λw29 hx29=>?_;have hval:=(AR hr28).2;rw[EG hr28.1.1 hbok.1 hr28.1.2 hbok.2,hval,hbv,lM,aM];refine⟨λhge2=>?_,λhlt2=>?_⟩
  ·have hge2:Y<=r*10+dval c-j*Y:=by
    rcases iF (r*10+dval c-j*Y) Y with⟨h,e⟩|⟨h,e⟩|⟨h,e⟩
    ·rw[e]at hge2;omega
    ·omega
    ·omega
   have hj1:(j+1)*Y=j*Y+Y:=by rw[lP,Nat.one_mul]
   have hj9:j+1<10:=by
    refine eK λhn=>?_;have:10*Y<=(j+1)*Y:=fX _ (by omega);omega
   refine bX (hx29.at hb28 id) hR28.len ?_;refine bX (hx29.at hb928 id) rfl ?_;refine AU (hR28.ext hx29) (hP28.ext hx29) λmv w30 hx30 hm30=>?_;have hle:val (gR b).l<=val rest2.l:=by rw[hval,hbv];exact hge2
   have hmv:=rJ rest2.l (gR b).l 0 hr28.1.1 hbok.1 (by omega) (by omega) (Gk hr28.1.1 hbok.2 hle);obtain⟨pm,cm,rfl,_⟩:=hm30.shape;simp only[wI,gB,cU,aA,aL,aW,aZ];refine⟨by omega,by omega,?_⟩;have hrl2:=Kz hr28 (by omega);refine pI (x:=⟨false,gG rest2.l (gR b).l 0⟩) ⟨_,U64,rfl,hm30,by show(gG _ _ _).length<=1000;rw[Kc];omega,hmv.2⟩ λcs32 w32 hx32 h32=>?_;have hx2832:=hx29.trans (hx30.trans hx32);refine JF (hx2832.at hb28 id) hR28.len h32 hR28.pq λw33 hz33 hb33 hc33 h33=>?_;rw[cA];have ew2:IntKind.u8.wrap (((48+j:Nat):Int)+1)=((48+(j+1):Nat):Int):=by
    simp only[IntKind.wrap,IntKind.signed,IntKind.bits,IntKind.max,IntKind.min];simp;omega
   rw[ew2];refine⟨⟨j+1,_,cs32,rfl,by omega,by omega,(hc28.then hx2832 λ_ _ e=>e.elim).trans hc33,hb33,h33,?_⟩,by simp only[aV];omega⟩;have hmk:=HV hmv.2;rw[hmv.1,hval,hbv]at hmk;rw[hj1];have e:r*10+dval c-(j*Y+Y)=r*10+dval c-j*Y-Y-0:=by omega
   rw[e];exact hmk
  ·have hlt2:r*10+dval c-j*Y<Y:=by
    rcases iF (r*10+dval c-j*Y) Y with⟨h,e⟩|⟨h,e⟩|⟨h,e⟩
    ·exact h
    ·rw[e]at hlt2;omega
    ·rw[e]at hlt2;omega
   have hst:=Nv hI hc hcd hjY hlt2;have hj9:j<10:=by
    refine eK λhn=>?_;have:10*Y<=j*Y:=fX _ (by omega);omega
   have hc1829:=hc1828.then hx29 λ_ _ e=>e.elim;refine Gs (n:=48+j) λt69 w34 ht34 hx34=>?_;have hc1834:=hc1829.then hx34 λ_ _ e=>e.elim;have s34:=hc1834.size;have hO34:Eng.Own w34 w16.heap.size U8 1 v D.length (u8s D):=Aa hO hc1834 λk hk e=>by have:=(tN hO hk).1;have e:k=b10:=e;omega
   have hDl:=hI.len;refine kM Aq hO34 ht34 (m:=1) rfl (λu hu=>by simp only[bR]at hu;subst hu;rfl) (by omega) (by omega) (by omega) λv' w35 hO35 hc35 _=>?_;rw[cA,up1 (by omega)];have hne10:¬v.ownBlock=some b10:=λe=>by have:=(tN hO34 e).1;omega
   refine⟨⟨i+1,D++[UInt8.ofNat (48+j)],r*10+dval c-j*Y,v',rest2,rcs2,rfl,hlt,hst,?_,?_,?_,?_,hr28⟩,by simp only[aV];omega⟩
   ·have e:u8s (D++[UInt8.ofNat (48+j)])=u8s D++[.int .u8 ((48+j:Nat):Int)]:=by
     rw[Ck];congr 1;show [Value.int .u8 (((UInt8.ofNat (48+j)).toNat:Nat):Int)]=_;rw[iW,jX (by omega)]
    rw[e,bE];exact hO35
   ·exact(hc18.trans (hc1834.mono λk _ e=>.inl e)).then hc35 λk _ e=>.inr (tN hO34 e).1
   ·exact hc35.at ((hx29.trans hx34).at hb28 id) hne10
   ·exact(hR28.ext (hx29.trans hx34)).row hO34 hc35
 ·obtain rfl:i=d.length:=by omega
  have heq:=hI.eq;rw[bM]at heq;obtain⟨q1,q2⟩:=Un heq hI.lt;obtain⟨dr1,dr2⟩:=Nw hI.dig;have hDl:=hI.len;obtain⟨ts1,ts2⟩:=Ms ha hb;rw[hdg,hYd,q1]at ts1;rw[hdg,hYd,q2]at ts2;refine(DU (e:=U8) (T:=U8) (by kernel_rfl) (by kernel_rfl) (by kernel_rfl) (l:=D) hO.sl).2 ?_;refine HI (by rw[dr1];omega) (by rw[dr1];exact hI.dig) (by omega) λcs36 w36 hx36 h36=>?_;have hqv:val (gR D).l=dec D:=by
   show val (gP (kX (Num.dig D)))=_;rw[dr1,(lR _).1,(qT _ D (aU _) hI.dig).1]
  have hql:(gR D).l.length<=100:=by
   have h3:=xN _ D (aU _);have:=mB (kX D);show(gP (kX (Num.dig D))).length<=100;rw[dr1];omega
  refine bG λb15 w37 hb15 hz37 hbb15 hx37=>?_;refine JF hbb15 rfl (h36.ext hx37) ⟨_,_,rfl,λn e=>by cases e⟩ λw38 hz38 hbb1538 hc38 h38=>?_;have s36:=hx36.size;have hx1838:Ext w18 w38:=(hx36.trans hx37).new hc38 (by omega);have l10':=eW hb18;have hb738:=hx1838.at (old18 hb716 (by have:=eW hbb79;omega)) id;have hb838:=hx1838.at (old18 hb816 (by have:=eW hbb810;omega)) id;have hb1038:=hx1838.at hb18 id;have hR38:=hR18.ext hx1838;refine Cb (off:=0) hb738 rfl ?_;refine Cb (off:=0) hb838 rfl ?_;have eqb:∀(s t:Bool) (K:Value->Prop),K (.bool (s^^t))->eqW .bool true (.bool s) (.bool t) K:=λs t K h=>by
   cases s<;>cases t<;>exact h
  refine eqb _ _ _ ?_;rw[hab,hbb];obtain⟨svq,_,rfl,hq1,hq2,hq3⟩:=h38;obtain⟨pq,cq,rfl,_⟩:=hq1.shape;rw[bP];refine iT (off:=0) hbb1538 rfl (by simp) λw39 hz39 hbb1539 hc39=>?_;have h39:iL w39 (gR D) [.bool (gR D).below,.slice pq (gR D).l.length cq]:=iL.keep ⟨_,U64,rfl,hq1,hq2,hq3⟩ hbb1538 (λn e=>by cases e) hc39;have hR39:=hR38.keep hbb1538 (λn e=>by cases e) hc39;have hb739:=hc39.at hb738 (λe=>by have e:b7=b15:=e;omega);have hb1039:=hc39.at hb1038 (λe=>by have e:b10=b15:=e;omega);refine Cb (off:=0) hb739 rfl ?_;rw[hab];obtain⟨svr,_,rfl,hr1,hr2,hr3⟩:=hR39;obtain⟨pr,cr,rfl,_⟩:=hr1.shape;rw[bP];refine iT (off:=0) hb1039 rfl (by simp) λw40 hz40 hbb1040 hc40=>?_;have h40:=h39.keep hb1039 (λn e=>by cases e) hc40;have hR40:iL w40 rest [.bool rest.below,.slice pr rest.l.length cr]:=iL.keep ⟨_,U64,rfl,hr1,hr2,hr3⟩ hb1039 (λn e=>by cases e) hc40;have hbb1540:=hc40.at hbb1539 (λe=>by have e:b15=b10:=e;omega);obtain⟨_,_,eq',hq1,hq2,hq3⟩:=h40;simp only[eJ,lI]at eq';obtain⟨_,rfl⟩:=eq';obtain⟨_,_,er',hr1,hr2,hr3⟩:=hR40;simp only[eJ,lI]at er';obtain⟨_,rfl⟩:=er';have hxw:Ext w w40:=by
   refine(((hx06.trans (hx616.then hc18 λk hk e=>?_)).trans hx1838).then hc39 λk hk e=>?_).then hc40 λk hk e=>?_
   ·have:=hx610.size;omega
   ·have e:k=b15:=e;have:=hx06.size;have:=hx616.size;omega
   ·have e:k=b10:=e;have:=hx06.size;have:=hx610.size;omega
  refine bX (T:=BT) (fr:=(0,0)) (l:=[.bool (neg a^^neg b),.slice pq (gR D).l.length cq]) (by rw[hbb1540];simp) rfl ?_;refine pI (x:=⟨neg a^^neg b,(gR D).l⟩) ⟨_,U64,rfl,hq1,hq2,hq3⟩ λcs41 w41 hx41 h41=>?_;have hq:=Db (s:=neg a^^neg b) hq3 hqv;rw[<-ts1]at hq;refine Ac (hT.ext (hxw.trans hx41)) h41 hq (by have:=mB (gR D).l;show(gP (gR D).l).length<=900;omega) λw42 hx42=>?_;simp only[bJ];refine⟨_,rfl,_,rfl,?_⟩;refine bX (T:=BT) (fr:=(0,0)) (l:=[.bool (neg a),.slice pr rest.l.length cr]) (by rw[(hx41.trans hx42).at hbb1040 id];simp) rfl ?_;have hrl':=Kz hr (by have:=hI.lt;omega);refine pI (x:=⟨neg a,rest.l⟩) ⟨_,U64,rfl,hr1.ext (hx41.trans hx42),hr2,hr3⟩ λcs43 w43 hx43 h43=>?_;have hrs:=Db (s:=neg a) hr3 (AR hr).2;rw[<-ts2]at hrs;have hxw3:=hxw.trans (hx41.trans (hx42.trans hx43));refine Ac (hT.ext hxw3) h43 hrs (by have:=mB rest.l;show(gP rest.l).length<=900;omega) λw44 hx44=>?_;simp only[bJ];refine⟨_,rfl,_,rfl,?_⟩;have:=hK w44 (hxw3.trans hx44);unfold DO Ef at this;rw[aD hbz,aD hbz]at this;have e0:(gK ((num a).tdiv (num b))).2=0:=by rw[CI (CM ha)]
  rw[e0]at this;exact this
end
end
section
open Go Go.Eng Go.Num Go.RowKit Go.Syn
variable{w:World}{K:Q0}{cs:List Value}{G:Nat->Prop}{T:TypeId}{i:Nat}{n:Nat}{v:Value}{w':World}{P:Program}{c:UInt8}{S:Nat->Prop}
theorem Cs{v:JV}(h:dL v=true)(k3:v.k=3):goodN v.t=true/\v.b=false/\v.xs=[]/\v.ks=[]:=by
 have hp:=(rQ h).plain;have h3:=WR hp k3;rw[lG,aJ]at hp;obtain⟨_,_,hb,_⟩:=lY hp.1;refine⟨h3.1,?_,h3.2⟩;cases hq:v.b with
 |false=>rfl
 |true=>have:=hb hq;omega
theorem qP(n:Int):(gK n).1.length<=1000:=by
 unfold gK;split
 ·simp
 ·rename_i h;have:(Lib.itoa n).length<=(dig (Lib.itoa n)).length+1:=by
   unfold dig;cases Lib.itoa n with
   |nil=>simp
   |cons c d=>simp only;split<;>simp
  show(Lib.itoa n).length<=1000;omega
theorem Qc(a b:Str):(DO a b).1.length<=1000:=by unfold DO;split;simp;exact qP _
theorem Pb(a b:Str):(Ef a b).1.length<=1000:=by unfold Ef;split;simp;exact qP _
section
variable [HX]
theorem NT{k:Int}{t:Str}{a:Int}{v:JV}{va vk:Value}{w0:World}{K:Q0}(hT:sD w)(o1:gH va=true)(o2:gH vk=true)(h:cO G w v cs)(hg:dL v=true)(h0:Ext w0 w)(hK:MdK w0 (yH k a v) G w K):
  aC P0 95 [.agg [i64 k,str t,va,vk,i64 a].toArray,.agg cs.toArray] w K:=by
 refine Zv ?_;unfold W95;refine fS (z:=[i64 k,str t,va,vk,i64 a]) λb2 w1 hb2 hz1 hbb2 hx1=>?_;refine Ax (h.ext' hx1) λb3 w2 sv kv hcs hb3 hz2 hbb3 hx2=>?_;subst hcs;refine bG λb4 w3 hb4 hz3 hbb4 hx3=>?_;have hx03:=hx1.trans (hx2.trans hx3);refine bX (hx3.at hbb3 id) rfl ?_;refine vN (h.ext' hx03).rep λw4 hx4 hz4=>?_;have hx34:=hx3.trans hx4;have hx04:=hx03.trans hx4;have hb34:=hx34.at hbb3 id;have hb24:=(hx2.trans hx34).at hbb2 id;have hb44:=hx4.at hbb4 id;have hl4:=eW hbb4;rw[aM];refine⟨λk1=>?_,λk1=>?_⟩
 ·have hr:yH k a v=.ok v:=by unfold yH;rw[aH k1]
  refine bX hb34 rfl ?_;exact yK hb44 rfl (by omega) hx04 ((h.off (by omega)).ext' hx04) λw' hx' h'=>hK.ok hr _ w' hx' h'
 refine dX (off:=0) hb34 rfl ?_;rw[bL];refine GdW.look (decide (k=13)) (λ_ J hJ=>?_) λg=>?_
 ·refine dX (off:=0) hb24 rfl ?_;rw[bL];exact hJ
 simp only[aF,gX];rw[eU,bS];refine⟨λh13=>?_,λn13=>?_⟩
 ·simp only[aJ,bB]at h13;obtain⟨k3,rfl⟩:=h13;obtain⟨gn,gb,gx,gk⟩:=Cs hg k3;have hr:yH 13 a v=.ok (nV (gK (-num v.t)).1):=by unfold yH;rw[aD k1,aH ⟨k3,rfl⟩]
  refine dX (off:=2) hb34 rfl ?_;have e0:num [48]=0:=by decide
  refine WC (a:=[48]) (hT.ext hx04) (by decide) gn λw9 hx9=>?_;rw[e0,Int.zero_sub];simp only[bJ];refine⟨_,rfl,_,rfl,?_⟩;rw[bP];refine iT (off:=2) (hx9.at hb34 id) rfl (by simp) λw10 hz10 hb10 hc10=>?_;have hx09:=hx04.trans hx9;have hx010:=hx09.new hc10 (show w.heap.size<=b3 by omega);have hb410:=hc10.at (hx9.at hb44 id) λe=>by have e:b4=b3:=e;omega
  refine bX (T:=VT) (fr:=(0,0)) (l:=[i64 v.k,.bool v.b,str (gK (-num v.t)).1,sv,kv]) (by rw[hb10];simp) rfl ?_;have ht:=qP (-num v.t);have hrep:cO G w (nV (gK (-num v.t)).1) [i64 v.k,.bool v.b,str (gK (-num v.t)).1,sv,kv]:=by
   obtain⟨sv2,kv2,T1,T2,L,he,h1,h2,h3,h4,h5,h6⟩:=Ew h;simp only[eJ,lI]at he;obtain⟨_,_,_,rfl,rfl⟩:=he;rw[gx]at h1 h2;rw[gk]at h3 h6;rw[k3,gb];exact cO.mk (v:=nV (gK (-num v.t)).1) (L:=L) h1 h2 h3 ⟨by simp[nV,JV.xs],by simp[nV,JV.ks],by show(gK (-num v.t)).1.length<=_;omega,λs hs=>by simp[nV,JV.ks]at hs⟩ h5 h6
  exact yK hb410 rfl (by omega) hx010 ((hrep.off (by omega)).ext' hx010) λw' hx' h'=>hK.ok hr _ w' hx' h'
 ·refine dX (off:=0) hb34 rfl ?_;rw[bL];refine GdW.look (decide (k=14)) (λ_ J hJ=>?_) λg=>?_
  ·refine dX (off:=0) hb24 rfl ?_;rw[bL];exact hJ
  simp only[aF,gX];rw[eU,bS];have m13:¬(v.k=3/\k=13):=λe=>by simp[e.1,e.2]at n13
  refine⟨λh14=>?_,λn14=>?_⟩
  ·simp only[aJ,bB]at h14;have hr:yH k a v=.ok (bV (!v.b)):=by unfold yH;rw[aD k1,aD m13,aH h14]
   refine dX (off:=1) hb34 rfl ?_;rw[eD];refine oK λw15 hx15=>?_;exact oC (G:=G) (hx15.at hb44 id) rfl (by omega) (hx04.trans hx15) (by simp) λw' hx' h'=>hK.ok hr _ w' hx' h'
  ·have m14:¬(v.k=2/\k=14):=λe=>by simp[e.1,e.2]at n14
   have hr:yH k a v=.err 81 a:=by unfold yH;rw[aD k1,aD m13,aD m14]
   refine dX (off:=4) hb24 rfl ?_;exact kQ (h0.trans hx04) (hK.err hr)
theorem MR{k:Int}{t:Str}{a:Int}{x y:JV}{va vk:Value}{ds:List Value}{w0:World}{K:Q0}(hT:sD w)(o1:gH va=true)(o2:gH vk=true)(hx:cO G w x cs)(hy:cO G w y ds)(gx:dL x=true)(gy:dL y=true)(h0:Ext w0 w)(hK:MdK w0 (If k a x y) G w K):
  aC P0 100 [.agg [i64 k,str t,va,vk,i64 a].toArray,.agg cs.toArray,.agg ds.toArray] w K:=by
 refine Ws ?_;unfold aCR;refine fS (z:=[i64 k,str t,va,vk,i64 a]) λb3 w1 hb3 hz1 hbb3 hx1=>?_;refine Ax (hx.ext' hx1) λb4 w2 sv kv hcs hb4 hz2 hbb4 hx2=>?_;subst hcs;refine Ax (hy.ext' (hx1.trans hx2)) λb5 w3 sv' kv' hds hb5 hz3 hbb5 hx3=>?_;subst hds;refine bG λb6 w4 hb6 hz4 hbb6 hx4=>?_;have hx04:=hx1.trans (hx2.trans (hx3.trans hx4));have hb34:=(hx2.trans (hx3.trans hx4)).at hbb3 id;have hb44:=(hx3.trans hx4).at hbb4 id;have hb54:=hx4.at hbb5 id;have hx':=hx.ext' hx04;have hy':=hy.ext' hx04;clear hx hy;refine bU.cut (λst w'=>Ext w4 w'/\fU 3 x=true/\fU 3 y=true) ?_ ?_
 ·refine bX hb44 rfl ?_;refine bX hb54 rfl ?_;refine GP hx'.rep hy'.rep λtt w6 hI6 hx6 _=>?_;refine Kx hI6 λw7 hx7=>?_;have e:[x,y].all (fU 3)=(fU 3 x&&fU 3 y):=by simp
  rw[e,eD,bS];refine⟨λh=>?_,λh=>?_⟩
  ·have hr:If k a x y=.err 81 a:=by unfold If;rw[aD (λe=>by rw[e]at h;cases h)]
   refine dX (off:=4) ((hx6.trans hx7).at hb34 id) rfl ?_;exact kQ (h0.trans (hx04.trans (hx6.trans hx7))) (hK.err hr)
  ·have h:(fU 3 x&&fU 3 y)=true:=by cases hq:(fU 3 x&&fU 3 y)<;>simp[hq]at h⊢
   rw[aJ]at h;exact⟨hx6.trans hx7,h.1,h.2⟩
 rintro st g w9 ⟨hx9,f1,f2⟩;have hm:If k a x y=if x.k=1\/y.k=1 then .ok uV
  else if k=22 then .ok (bV (decide (wV x.t y.t<0)))
  else if k=23 then .ok (bV (decide (0<wV x.t y.t)))
  else if k=24 then .ok (bV (decide (wV x.t y.t<=0)))
  else if k=25 then .ok (bV (decide (0<=wV x.t y.t)))
  else if k=15 then vR a (gK (num x.t+num y.t))
  else if k=16 then vR a (gK (num x.t-num y.t))
  else if k=17 then vR a (gK (num x.t*num y.t))
  else if k=18 then vR a (DO x.t y.t)
  else if k=19 then vR a (Ef x.t y.t)
  else .ok (nV []):=by unfold If;rw[aH (by rw[f1,f2];rfl)]
 rw[hm]at hK;have hl6:=eW hbb6;refine bX (hx9.at hb44 id) rfl ?_;refine vN (hx'.ext' hx9).rep λw10 hx10 _=>?_;simp only[kL];have hx410:=hx9.trans hx10;refine GdW.act (decide (y.k=1)) (λw'=>Ext w10 w') (λ_=>Chg.refl _ _) (λ_ J hJ=>?_) λg3 w13 hx13=>?_
 ·refine bX (hx410.at hb54 id) rfl ?_;exact vN (hy'.ext' hx410).rep λw23 hx23 _=>hJ w23 hx23
 have hx413:=hx410.trans hx13;have hx013:=hx04.trans hx413;simp only[aF];rw[eR,bS];refine⟨λhyes=>?_,λhn=>?_⟩
 ·simp only[cM,bB]at hyes;rw[aH hyes]at hK;refine qN λw14 hx14=>?_;exact oC (G:=G) ((hx413.trans hx14).at hbb6 id) rfl (by omega) (hx013.trans hx14) (by simp) λw' hx' h'=>hK.ok rfl _ w' hx' h'
 simp only[jE,decide_eq_false_iff_not]at hn;rw[aD (λe=>e.elim hn.1 hn.2)]at hK;have kx:x.k=3:=by simp only[fU,cM,bB]at f1;exact f1.resolve_right hn.1
 have ky:y.k=3:=by simp only[fU,cM,bB]at f2;exact f2.resolve_right hn.2
 obtain⟨nx,_⟩:=Cs gx kx;obtain⟨ny,_⟩:=Cs gy ky;refine dX (off:=2) (hx413.at hb44 id) rfl ?_;refine dX (off:=2) (hx413.at hb54 id) rfl ?_;refine Dc (pC nx) (pC ny) λw17 hx17=>?_;have hx417:=hx413.trans hx17;have hx017:=hx013.trans hx17;have hT17:=hT.ext hx017;have b3_:=hx417.at hb34 id;have b4_:=hx417.at hb44 id;have b5_:=hx417.at hb54 id;have hbool:∀{s:Bool} {w':World},Ext w17 w'->MdK w0 (.ok (bV s)) G w K->stW 5 (.pointer (some ⟨b6,0,none⟩)) (.agg (flat 2 s []).toArray) w' λw5=>ldW true 5 (.pointer (some ⟨b6,0,none⟩)) w5 λr6=>K r6 w5:=λ{s w'} hxx hr=>
  oC (G:=G) ((hx417.trans hxx).at hbb6 id) rfl (by omega) (hx017.trans hxx) (by simp) λw'' hx'' h''=>hr.ok rfl _ w'' hx'' h''
 refine bU.cut (λst w'=>Ext w17 w'/\∃s c,st=[str s,i64 c]/\s.length<=1000/\MdK w0 (vR a (s,c)) G w K) ?_ ?_
 ·refine dX (off:=0) b3_ rfl ?_;rw[bL,aM];refine⟨λe=>?_,λe22=>?_⟩
  ·rw[aH e]at hK;rw[dW];exact oK λw' hx'=>hbool hx' hK
  rw[aD e22]at hK;rw[bL,aM];refine⟨λe=>?_,λe23=>?_⟩
  ·rw[aH e]at hK;rw[kS];exact oK λw' hx'=>hbool hx' hK
  rw[aD e23]at hK;rw[bL,aM];refine⟨λe=>?_,λe24=>?_⟩
  ·rw[aH e]at hK;rw[qK];exact oK λw' hx'=>hbool hx' hK
  rw[aD e24]at hK;rw[bL,aM];refine⟨λe=>?_,λe25=>?_⟩
  ·rw[aH e]at hK;rw[lM];exact oK λw' hx'=>hbool hx' hK
  rw[aD e25]at hK;rw[bL,aM];refine⟨λe=>?_,λe15=>?_⟩
  ·rw[aH e]at hK;refine dX (off:=2) b4_ rfl ?_;refine dX (off:=2) b5_ rfl ?_;refine aBy hT17 nx ny λw' hx'=>?_;simp only[bJ];exact⟨_,rfl,_,rfl,hx',_,_,rfl,qP _,hK⟩
  rw[aD e15]at hK;rw[bL,aM];refine⟨λe=>?_,λe16=>?_⟩
  ·rw[aH e]at hK;refine dX (off:=2) b4_ rfl ?_;refine dX (off:=2) b5_ rfl ?_;refine WC hT17 nx ny λw' hx'=>?_;simp only[bJ];exact⟨_,rfl,_,rfl,hx',_,_,rfl,qP _,hK⟩
  rw[aD e16]at hK;rw[bL,aM];refine⟨λe=>?_,λe17=>?_⟩
  ·rw[aH e]at hK;refine dX (off:=2) b4_ rfl ?_;refine dX (off:=2) b5_ rfl ?_;refine aBc hT17 nx ny λw' hx'=>?_;simp only[bJ];exact⟨_,rfl,_,rfl,hx',_,_,rfl,qP _,hK⟩
  rw[aD e17]at hK;rw[bL,aM];refine⟨λe=>?_,λe18=>?_⟩
  ·rw[aH e]at hK;refine dX (off:=2) b4_ rfl ?_;refine dX (off:=2) b5_ rfl ?_;refine WW hT17 nx ny λw' hx'=>?_;simp only[bJ];exact⟨_,rfl,_,rfl,_,rfl,hx',_,_,rfl,Qc _ _,hK⟩
  rw[aD e18]at hK;rw[bL,aM];refine⟨λe=>?_,λe19=>?_⟩
  ·rw[aH e]at hK;refine dX (off:=2) b4_ rfl ?_;refine dX (off:=2) b5_ rfl ?_;refine WW hT17 nx ny λw' hx'=>?_;simp only[bJ];refine⟨_,rfl,_,rfl,_,rfl,hx',_,_,rfl,Pb _ _,?_⟩;rw[OZ nx ny];exact hK
  rw[aD e19]at hK;exact⟨Chg.refl _ _,[],0,rfl,by simp,hK⟩
 rintro st g4 w36 ⟨hx36,s,c,rfl,hsl,hN⟩;simp only[aF,cW];refine bU.cut (λst w'=>w'=w36/\c=0) ?_ ?_
 ·rw[fL,aM];refine⟨λhc=>?_,λhc=>⟨rfl,by omega⟩⟩;have hr:vR a (s,c)=.err c a:=by unfold vR;rw[aD hc]
  refine dX (off:=4) (hx36.at b3_ id) rfl ?_;exact kQ (h0.trans (hx017.trans hx36)) (hN.err hr)
 rintro st g5 w39 ⟨rfl,rfl⟩;simp only[dA,dZ,cU,aA,aL,aW,aZ];refine⟨by omega,by omega,?_⟩;exact oC (G:=G) (k:=3) (s:=false) (t:=s) ((hx417.trans hx36).at hbb6 id) rfl (by omega) (hx017.trans hx36) (by omega) λw'' hx'' h''=>hN.ok rfl _ w'' hx'' h''
end
theorem Is{s:Str}(h:goodN s=true):(∃n:Int,rP s=some n/\num s=n/\-9223372036854775808<=n/\n<=9223372036854775807)\/(rP s=none/\(num s< -9223372036854775808\/9223372036854775807<num s)):=by
 unfold rP;by_cases hb:-9223372036854775808<=num s/\num s<=9223372036854775807
 ·rw[aH ⟨h,hb⟩];exact .inl ⟨_,rfl,rfl,hb⟩
 ·rw[aD (λe=>hb e.2)];exact .inr ⟨rfl,by omega⟩
section
variable [HX]
theorem Uc{t:Str}{a:Int}{x y:JV}{ec ds:List Value}{w0:World}{K:Q0}(hT:sD w)(he:AtC t a ec)(hx:cO G w x cs)(hy:cO G w y ds)(gx:dL x=true)(gy:dL y=true)(h0:Ext w0 w)(hG:∀q,w.heap.size<=q->G q)(hK:MdK w0 (Bb a x y) G w K):
  aC P0 93 [.agg ec.toArray,.agg cs.toArray,.agg ds.toArray] w K:=by
 refine Zx ?_;unfold W93;refine KQ he λb3 w1 k va vk hec hb3 hz1 hbb3 hx1=>?_;refine Ax (hx.ext' hx1) λb4 w2 sv kv hcs hb4 hz2 hbb4 hx2=>?_;subst hcs;refine Ax (hy.ext' (hx1.trans hx2)) λb5 w3 sv' kv' hds hb5 hz3 hbb5 hx3=>?_;subst hds;refine bG λb6 w4 hb6 hz4 hbb6 hx4=>?_;have hx04:=hx1.trans (hx2.trans (hx3.trans hx4));have hb34:=(hx2.trans (hx3.trans hx4)).at hbb3 id;have hb44:=(hx3.trans hx4).at hbb4 id;have hb54:=hx4.at hbb5 id;have hl6:=eW hbb6;have hx':=hx.ext' hx04;have hy':=hy.ext' hx04;have one:∀(kk:Int) {w':World} {J:Q0},Ext w4 w'->(∀w'',Ext w4 w''->J (.bool (fU kk y)) w'')->
   ldW true 5 (.pointer (some ⟨b5,0,none⟩)) w' λt=>dN VT 1 zr5 [(0,5,t)] w' λt1 w6=>aC P0 122 [i64 kk,t1] w6 J:=λkk {w' J} hxx hJ=>by
  refine bX (hxx.at hb54 id) rfl ?_;refine Uh (hy'.ext' hxx).rep λtt w6 hI6 hx6=>?_;refine Kx hI6 λw7 hx7=>?_;have e:[y].all (fU kk)=fU kk y:=by simp
  rw[e];exact hJ w7 (hxx.trans (hx6.trans hx7))
 refine bU.cut (λst w'=>st=[.bool (qH x y)]/\Ext w4 w') ?_ ?_
 ·refine dX (off:=0) hb44 rfl ?_;rw[bL,aM];refine⟨λk1=>?_,λk1=>?_⟩
  ·refine one 3 (Chg.refl _ _) λw7 hx7=>?_;refine GdW.act (fU 4 y) (λw'=>Ext w4 w') (λ_=>hx7) (λ_ J hJ=>?_) λg w11 hx11=>?_
   ·exact one 4 hx7 λw10 hx10=>hJ w10 hx10
   simp only[aF,kL];rw[eR];refine⟨?_,hx11⟩;unfold qH;rw[aH k1]
  rw[bL,aM];refine⟨λk5=>?_,λk5=>?_⟩
  ·refine one 3 (Chg.refl _ _) λw7 hx7=>⟨?_,hx7⟩;unfold qH;rw[aD k1,aH k5]
  rw[bL,aM];refine⟨λk6=>?_,λk6=>⟨?_,Chg.refl _ _⟩⟩
  ·refine one 4 (Chg.refl _ _) λw7 hx7=>⟨?_,hx7⟩;unfold qH;rw[aD k1,aD k5,aH k6]
  ·unfold qH;rw[aD k1,aD k5,aD k6]
 rintro st g w16 ⟨rfl,hx16⟩;simp only[aF];have hx016:=hx04.trans hx16;refine bU.cut (λst w'=>w'=w16/\qH x y=true) ?_ ?_
 ·rw[eD,bS];refine⟨λh=>?_,λh=>⟨rfl,by simpa using h⟩⟩;have h:qH x y=false:=by simpa using h
  have hr:Bb a x y=.err 81 a:=by unfold Bb;rw[aD (by rw[h];simp)]
  refine dX (off:=4) (hx16.at hb34 id) rfl ?_;exact kQ (h0.trans hx016) (hK.err hr)
 rintro st g2 w19 ⟨rfl,hok⟩;have hm:Bb a x y=if x.k=1\/y.k=1 then .ok uV else if x.k=6 then sB y.t a x else if 0<=num y.t/\num y.t<x.xs.length then .ok (x.xs.getD (num y.t).toNat JV.null)else .err 82 a:=by
  unfold Bb;rw[aH hok]
 rw[hm]at hK;refine bX (hx16.at hb44 id) rfl ?_;refine vN (hx'.ext' hx16).rep λw20 hx20 _=>?_;have hx420:=hx16.trans hx20;simp only[kL];refine GdW.act (decide (y.k=1)) (λw'=>Ext w20 w') (λ_=>Chg.refl _ _) (λ_ J hJ=>?_) λg3 w23 hx23=>?_
 ·refine bX (hx420.at hb54 id) rfl ?_;exact vN (hy'.ext' hx420).rep λw23 hx23 _=>hJ w23 hx23
 have hx423:=hx420.trans hx23;have hx023:=hx04.trans hx423;have b4_:=hx423.at hb44 id;have b5_:=hx423.at hb54 id;have b6_:=hx423.at hbb6 id;simp only[aF];rw[eR,bS];refine⟨λhyes=>?_,λhn=>?_⟩
 ·simp only[cM,bB]at hyes;rw[aH hyes]at hK;refine qN λw14 hx14=>?_;exact oC (G:=G) (hx14.at b6_ id) rfl (by omega) (hx023.trans hx14) (by simp) λw' hx' h'=>hK.ok rfl _ w' hx' h'
 simp only[jE,decide_eq_false_iff_not]at hn;rw[aD (λe=>e.elim hn.1 hn.2)]at hK;refine dX (off:=0) b4_ rfl ?_;rw[bL,aM];refine⟨λk6=>?_,λk6=>?_⟩
 ·rw[aH k6]at hK;refine dX (off:=2) b5_ rfl ?_;refine dX (off:=4) (hx423.at hb34 id) rfl ?_;simp only[dA,dZ,aA,aL,aW,aZ,cU];refine⟨by omega,by omega,?_⟩;refine bX b4_ rfl ?_;refine KR (G:=λq=>G q/\q≠b6) (w0:=w0) (t:=y.t) (a:=a) (ec:=[i64 0,str y.t,.slice none 0 0,.slice none 0 0,i64 a]) ⟨0,_,_,rfl,rfl,rfl⟩ ((hx.off (by omega)).ext' hx023) gx (h0.trans hx023) (λq hq=>⟨hG q (by have:=hx023.size;omega),by have:=hx423.size;have:=eW b6_;omega⟩) ?_;cases hr:sB y.t a x with
  |err c p=>rw[hr]at hK;exact hK
  |ok z=>
   rw[hr]at hK;intro es w28 hx28 h28;exact yK (hx28.at b6_ id) rfl (by omega) (hx023.trans hx28) h28 λw' hx' h'=>hK.ok rfl _ w' hx' h'
 rw[aD k6]at hK;have k5:x.k=5/\fU 3 y=true:=by
  unfold qH at hok;rw[aD hn.1]at hok;by_cases k5:x.k=5
  ·rw[aH k5]at hok;exact⟨k5,hok⟩
  ·rw[aD k5,aD k6]at hok;cases hok
 have ky:y.k=3:=by have:=k5.2;simp only[fU,cM,bB]at this;exact this.resolve_right hn.2
 obtain⟨ny,_⟩:=Cs gy ky;refine dX (off:=2) b5_ rfl ?_;have hgl:=Al ny;refine HW (hT.ext hx023) (by omega) λw31 hx31=>?_;have b4':=hx31.at b4_ id;simp only[bJ];refine⟨_,rfl,_,rfl,?_⟩;have hlx:=(rQ gx).lens.1;refine bU.cut (λst w'=>w'=w31/\0<=num y.t/\num y.t<x.xs.length/\(rP y.t).getD 0=num y.t) ?_ ?_
 ·rw[eD];refine GdW.look (decide ((rP y.t).getD 0<0)) (λ_ J hJ=>?_) λg4=>?_
  ·rw[dW];exact hJ
  simp only[aF,kL];rw[eR];refine GdW.look (decide ((x.xs.length:Int)<=(rP y.t).getD 0)) (λ_ J hJ=>?_) λg5=>?_
  ·refine dX (off:=3) b4' rfl ?_;have hI:=(hx.ext' (hx023.trans hx31)).its;rw[hI.items.len,lM];exact hJ
  simp only[aF,kL];rw[eR,bS];refine⟨λhbad=>?_,λhgood=>?_⟩
  ·have hno:¬(0<=num y.t/\num y.t<x.xs.length):=by
    rintro⟨n1,n2⟩;rcases Is ny with⟨n,e1,e2,e3,e4⟩|⟨e1,e2⟩
    ·rw[e1]at hbad;simp at hbad;omega
    ·omega
   rw[aD hno]at hK;refine dX (off:=4) ((hx423.trans hx31).at hb34 id) rfl ?_;exact kQ (h0.trans (hx023.trans hx31)) (hK.err rfl)
  ·rcases Is ny with⟨n,e1,e2,e3,e4⟩|⟨e1,e2⟩
   ·have eg:(rP y.t).getD 0=num y.t:=by rw[e1,e2];rfl
    rw[eg,e1]at hgood;simp at hgood;exact⟨trivial,by omega,by omega,eg⟩
   ·rw[e1]at hgood;simp at hgood
 rintro st g6 w38 ⟨rfl,n0,n1,hget⟩;rw[aH ⟨n0,n1⟩]at hK;refine dX (off:=3) b4' rfl ?_;rw[hget];obtain⟨j,hj⟩:∃j:Nat,num y.t=(j:Int):=⟨(num y.t).toNat,by omega⟩;rw[hj]at hK n1⊢;have hjl:j<x.xs.length:=by omega
 obtain⟨z,hz⟩:∃z,x.xs[j]?=some z:=⟨_,List.getElem?_eq_getElem hjl⟩;have hgd:x.xs.getD (j:Int).toNat JV.null=z:=by rw[aV,List.getD_eq_getElem?_getD,hz];rfl
 rw[hgd]at hK;have hx031:=hx023.trans hx31;refine(((hx.off (b:=b6) (by omega)).ext' hx031).its).get hz λes hes=>?_;exact yK (hx31.at b6_ id) rfl (by omega) hx031 hes λw' hx' h'=>hK.ok rfl _ w' hx' h'
end
abbrev XvT:TypeId:=81
structure Ev(w0 w:World)(p m:Nat)(f:Fl)(M:Lay)(look:Str->Option Value)(left:Nat):Prop where
 ext:Ext w0 w
 pp:w.heap[p]?=some (.cells [M.vE,M.vB,M.vT,.map (some m),i64 (left:Nat)].toArray XvT (0,0))
 mm:zI w m look
 fv:FV w0 M f
 hp:w0.heap.size<=p
 hm:w0.heap.size<=m
 ne:p≠m
theorem Ev.next{w0:World}{p m:Nat}{f:Fl}{M:Lay}{look:Str->Option Value}{left:Nat}(h:Ev w0 w p m f M look left)(hx:Ext w w'):Ev w0 w' p m f M look left:=
 ⟨h.ext.trans hx,hx.at h.pp id,h.mm.at_ hx id,h.fv,h.hp,h.hm,h.ne⟩
theorem Ev.keep{w0:World}{p m:Nat}{f:Fl}{M:Lay}{look:Str->Option Value}{left:Nat}(h:Ev w0 w p m f M look left)(hc:Chg S w w')(h0:∀k,w0.heap.size<=k\/¬S k)(h1:¬S p)(h2:¬S m):Ev w0 w' p m f M look left:=
 ⟨h.ext.then hc λk hk e=>by rcases h0 k with h|h;omega;exact h e,hc.at h.pp h1,h.mm.at_ hc h2,h.fv,h.hp,h.hm,h.ne⟩
theorem Ev.fvw{w0:World}{p m:Nat}{f:Fl}{M:Lay}{look:Str->Option Value}{left:Nat}(h:Ev w0 w p m f M look left):FV w M f:=h.fv.ext h.ext
structure Exc(w:World)(e:Ex)(cs:List Value):Prop where
 it:∃va vk,cs=[i64 e.k,str e.t,va,vk,i64 e.a]/\SlAt w iG va e.args.length (ints e.args)/\SlAt w StT vk e.keys.length (strs e.keys)
theorem tY{xs:List Value}(h:SlAt w T v n xs):gH v=true:=by
 obtain⟨p1,c1,e1,_⟩:=h.shape;rw[e1];rfl
theorem GX{w0:World}{e:Ex}{K:Q0}(h:Exc w0 e cs)(h0:Ext w0 w)
  (hK:∀b w' va vk,cs=[i64 e.k,str e.t,va,vk,i64 e.a]->SlAt w0 iG va e.args.length (ints e.args)->SlAt w0 StT vk e.keys.length (strs e.keys)->b=w.heap.size->w'.heap.size=w.heap.size+1->w'.heap[b]?=some (.cells [i64 e.k,str e.t,va,vk,i64 e.a].toArray 93 (0,0))->Ext w w'->K (.pointer (some ⟨b,0,none⟩)) w'):
  eL 93 (.agg cs.toArray) w K:=by
 obtain⟨va,vk,rfl,h2,h3⟩:=h.it;exact fS λb w' hb hz hbb hx=>hK b w' va vk rfl h2 h3 hb hz hbb hx
theorem FV.place{M:Lay}{fl:Fl}{e:Ex}{k:IntKind}{K:Value->Prop}(h:FV w M fl)(hi:fl.ex[i]?=some e)(hK:K (i64 e.a)):dV none 5 M.vE (.int k i) λp=>aY 4 p λq=>ldW false 1 q w K:=by
 obtain⟨va,vk,ec,_⟩:=h.ee.2 i e hi;refine tO (size:=5) h.oE h.ee.1 (by omega) (List.getElem?_eq_some_iff.1 hi).1 λb o c fr hb hcc=>?_;rw[bP,dM];refine⟨i64 e.a,?_,hK⟩;rw[bY,cC,hb,cN,hcc 4 (by omega)];have:=congrArg (λl:List Value=>l[4]?) ec;simpa[List.getElem?_take,List.getElem?_drop]using this
theorem Nl{v:JV}(h:dL v=true):v.t.length<=16384:=PH (rQ h).plain
section
variable [HX]
theorem JD{f:Fl}{M:Lay}{p m left:Nat}{look:Str->Option Value}{e:Ex}{l:List JV}{ec:List Value}{sv:Value}{w0:World}{K:Q0}(he:Exc w0 e ec)(hE:Ev w0 w p m f M look left)(hI:dU w sv l)(hg:∀x∈l,dL x=true)
  (hl:l.length<=100000)(hal:l.length<=e.args.length)(hin:∀a∈e.args,a<f.ex.length)(hK:MdK w0 (sQ f.ex e.args l 0 [] true) G w K):
  aC P0 89 [.pointer (some ⟨p,0,none⟩),.agg ec.toArray,sv] w K:=by
 refine ZA ?_;unfold W89;refine GX he hE.ext λb4 w1 va vk hec hva hvk hb4 hz1 hbb4 hx1=>?_;refine bG λb6 w2 hb6 hz2 hbb6 hx2=>?_;refine Zl (B:=w2.heap.size) (aU _) λb7 w3 hb7 hB3 hx3=>?_;have hx03:=hx1.trans (hx2.trans hx3);have hb43:=(hx2.trans hx3).at hbb4 id;have hb63:=hx3.at hbb6 id;have hl6:=eW hbb6;rw[hI.len];have s3:=hx3.size;refine cZ.go (λst w'=>∃(i:Nat) (kn:Bool) (acc:Str),st=[.bool kn,i64 (i:Nat)]/\i<=l.length/\Chg (λk=>w2.heap.size<=k) w3 w'/\Bld w' w2.heap.size b7 acc/\acc.length<=i*20000/\sQ f.ex e.args l 0 [] true=sQ f.ex e.args (l.drop i) i acc kn)
  (λst _=>match st with|[_,.int _ i]=>l.length-i.toNat|_=>0)
  ⟨0,true,[],rfl,fW _,Chg.refl _ _,hB3,by simp,rfl⟩ ?_
 rintro st g w5 ⟨i,kn,acc,rfl,hi,hc5,hB5,hal5,hat⟩;simp only[aF,cW];have s5:=hc5.size;have hx25:Ext w2 w5:=hx3.then hc5 λk hk e=>by omega
 have hx05:Ext w w5:=(hx1.trans hx2).trans hx25;have hb65:=hx25.at hbb6 id;have hb45:=(hx2.trans hx25).at hbb4 id;rw[dW,aM];refine⟨λhlt=>?_,λhge=>?_⟩
 ·have hlt:i<l.length:=by omega
  obtain⟨x,hxi⟩:∃x,l[i]?=some x:=⟨_,List.getElem?_eq_getElem hlt⟩;have hgx:=hg x (bK hxi);have htl:=Nl hgx;have hdr:l.drop i=x::l.drop (i+1):=by rw[cD hlt];congr 1;exact(List.getElem?_eq_some_iff.1 hxi).2
  rw[hdr]at hat;refine bU.cut (λst w'=>∃(kn:Bool) (acc:Str),st=[.bool kn]/\Chg (λk=>w2.heap.size<=k) w3 w'/\Bld w' w2.heap.size b7 acc/\acc.length<=(i+1)*20000/\sQ f.ex e.args l 0 [] true=sQ f.ex e.args (l.drop (i+1)) (i+1) acc kn) ?_ ?_
  ·refine(hI.ext hx05).at' (n:=(i:Nat)) rfl hxi λds hds=>?_;refine nH hds.len hds.all_one λb10 w8 hb10 hz8 hbb10 hx8=>?_;obtain⟨svx,kvx,_,_,_,rfl,_⟩:=hds.out;have hc8:Chg (λk=>w2.heap.size<=k) w3 w8:=hc5.then hx8 λ_ _ e=>e.elim;have hB8:=hB5.ext hx8;refine dX (off:=0) hbb10 rfl ?_;rw[bL,aM];refine⟨λk1=>?_,λk1=>?_⟩
   ·refine⟨false,acc,rfl,hc8,hB8,by omega,?_⟩;rw[hat];simp only[sQ];rw[aH k1]
   have wr:∀{s:Str} {w':World} {J:Q0},AM x=some s->s.length<=16384->w'=w8->(∀v w'',(∃(kn':Bool) (acc:Str),[Value.bool kn]=[.bool kn']/\Chg (λk=>w2.heap.size<=k) w3 w''/\Bld w'' w2.heap.size b7 acc/\acc.length<=(i+1)*20000/\sQ f.ex e.args l 0 [] true=sQ f.ex e.args (l.drop (i+1)) (i+1) acc kn')->J v w'')->
     aC P0 66 [.pointer (some ⟨b7,0,none⟩),str s] w' J:=λ{s w' J} hp hs hw hJ=>by
    subst hw;have s8:=hx8.size;refine Ju hB8 (by omega) (by omega) λv w11 hB11 hc11=>?_;refine hJ v w11 ⟨kn,acc++s,rfl,hc8.then hc11 (λk _ e=>?_),hB11,by rw[bE];omega,?_⟩
    ·rcases e with rfl|e
     ·have:=hB8.base;omega
     ·exact e.1
    ·rw[hat];simp only[sQ];rw[aD k1,hp]
   refine bU.cut (λst w'=>st=[.bool (decide (x.k=4)||decide (x.k=3))]/\w'=w8) ?_ ?_
   ·rw[bL,aM];refine⟨λk4=>⟨by simp[k4],rfl⟩,λk4=>?_⟩;rw[bL];exact⟨by simp[k4],rfl⟩
   rintro st g2 w10 ⟨rfl,rfl⟩;simp only[aF];rw[bS];refine⟨λk43=>?_,λk43=>?_⟩
   ·have k43:x.k=4\/x.k=3:=by simpa using k43
    refine dX (off:=2) hbb10 rfl ?_;refine wr (s:=x.t) (by unfold AM;rw[aH k43]) htl rfl λv w'' h=>h
   have k43:¬(x.k=4\/x.k=3):=by simpa using k43
   rw[bL,aM];refine⟨λk2=>?_,λk2=>?_⟩
   ·refine bU.cut (λst w'=>st=[str (if x.b then [116,114,117,101]else [102,97,108,115,101])]/\w'=w10) ?_ ?_
    ·refine dX (off:=1) hbb10 rfl ?_;rw[bS];exact⟨λe=>⟨by rw[e];rfl,rfl⟩,λe=>⟨by rw[e];rfl,rfl⟩⟩
    rintro st g3 w13 ⟨rfl,rfl⟩;simp only[aF];refine wr (s:=if x.b then [116,114,117,101]else [102,97,108,115,101]) (by unfold AM;rw[aD k43,aH k2]) (by split<;>simp) rfl λv w'' h=>h
   ·have hia:i<e.args.length:=by omega
    obtain⟨a,ha⟩:∃a,e.args[i]?=some a:=⟨_,List.getElem?_eq_getElem hia⟩;have hlt':=hin a (bK ha);obtain⟨ea,hea⟩:∃ea,f.ex[a]?=some ea:=⟨_,List.getElem?_eq_getElem hlt'⟩;have hr:sQ f.ex e.args l 0 [] true=.err 81 ea.a:=by
     rw[hat];simp only[sQ];rw[aD k1];have:AM x=none:=by unfold AM;rw[aD k43,aD k2]
     rw[this];have hga:e.args.getD i 0=a:=by rw[List.getD_eq_getElem?_getD,ha];rfl
     simp only[hga,aBv,hea]
    have hx810:Ext w5 w10:=hx8;have hx010:=hx05.trans hx810;have hxd:Ext w10 w10.drew:=Chg.drew (Chg.refl (λ_=>False) w10);have hE10:=(hE.next hx010).next hxd
    rw[dI];rw[bP];refine dX (off:=0) hE10.pp rfl ?_;refine dX (off:=2) ((hx810.trans hxd).at hb45 id) rfl ?_;refine rO (hva.ext hE10.ext) (by simp[ints]) (x:=i64 (a:Nat)) (by simp[ints,ha]) ?_;refine hE10.fvw.place hea ?_;exact kQ hE10.ext (hK.err hr)
  rintro st g2 w16 ⟨kn',acc',rfl,hc16,hB16,hl16,hat16⟩;simp only[aF];rw[cA,up1 (by omega)];exact⟨⟨i+1,kn',acc',rfl,hlt,hc16,hB16,hl16,hat16⟩,by simp only[aV];omega⟩
 ·obtain rfl:i=l.length:=by omega
  rw[dQ]at hat;rw[eD,bS];refine⟨λhk=>?_,λhk=>?_⟩
  ·have hk:kn=false:=by simpa using hk
   subst hk;refine qN λw17 hx17=>?_;exact oC (G:=G) (hx17.at hb65 id) rfl (by omega) (hx05.trans hx17) (by simp) λw' hx' h'=>hK.ok (v:=uV) (by rw[hat];rfl) _ w' hx' h'
  ·have hk:kn=true:=by simpa using hk
   subst hk;refine Bq hB5 (by omega) λw20 hc20=>?_;have s20:=hc20.size;have hx020:Ext w w20:=hx05.then hc20 λk hk e=>by have:=(hx1.trans hx2).size;omega
   refine LH λw21 hx21=>?_;refine oC (G:=G) (hx21.at (hc20.at hb65 (by omega)) id) rfl (by omega) (hx020.trans hx21) (by omega) λw' hx' h'=>hK.ok (v:=tV acc) (by rw[hat];rfl) _ w' hx' h'
end
def fY(G:Nat->Prop)(w:World)(look:Str->Option Value)(env:Env):Prop:=∀s,match env s with
 |none=>look s=none
 |some v=>∃cs,look s=some (.agg cs.toArray)/\cO G w v cs/\Ao v=true
theorem fY.none{look:Str->Option Value}{env:Env}(h:fY G w look env){s:Str}(he:env s=none):look s=none:=by
 have:=h s;rw[he]at this;exact this
theorem fY.some{G:Nat->Prop}{w:World}{look:Str->Option Value}{env:Env}(h:fY G w look env){s:Str}{v:JV}(he:env s=some v):∃cs,look s=some (.agg cs.toArray)/\cO G w v cs/\Ao v=true:=by
 have:=h s;rw[he]at this;exact this
theorem fY.mono{G':Nat->Prop}{look:Str->Option Value}{env:Env}(hG:∀k,k<w.heap.size->G k->G' k)(h:fY G w look env):fY G' w look env:=λs=>by
 have:=h s
 cases he:env s with
 |none=>rw[he]at this;exact this
 |some v=>rw[he]at this;obtain⟨cs,h1,h2,h3⟩:=this;exact⟨cs,h1,h2.mono hG,h3⟩
theorem fY.chg{look:Str->Option Value}{env:Env}(h:fY G w look env)(hc:Chg S w w')(hS:∀k,G k->k<w.heap.size->¬S k):fY G w' look env:=λs=>by
 have:=h s
 cases he:env s with
 |none=>rw[he]at this;exact this
 |some v=>rw[he]at this;obtain⟨cs,h1,h2,h3⟩:=this;exact⟨cs,h1,cO.chg hc hS h2,h3⟩
theorem fY.ext{look:Str->Option Value}{env:Env}(h:fY G w look env)(hx:Ext w w'):fY G w' look env:=h.chg hx λ_ _ _ e=>e
def BY[HX](name:Str)(n:Nat):Prop:=∀{a:List JV} {sv:Value} {w:World} {K:Q0},a.length=n->(∀x∈a,dL x=true)->sD w->dU w sv a->
 (∀cs w',Ext w w'->cO (yD w.heap.size) w' (pM name a).1 cs->K (.tuple #[.agg cs.toArray,i64 (pM name a).2]) w')->aC P0 94 [str name,sv] w K
def ObC[HX]:Prop:=∀{ks:List Str} {xs:List JV} {kv xv:Value} {T:TypeId} {w:World} {K:Q0},SlAt w T kv ks.length (ks.map str)->dU w xv xs->xs.length<=90000->(∀s∈ks,s.length<=9223372036854775807)->(∀x∈xs,Ao x=true)->
 (∀cs c w',Ext w w'->cO (yD w.heap.size) w' (WN ks xs) cs->K (.tuple #[.agg cs.toArray,i64 c]) w')->aC P0 90 [kv,xv] w K
structure aAG(e:Ex):Prop where
 kd:1<=e.k/\e.k<=30
 a1:e.k=10\/e.k=30\/e.k=13\/e.k=14->1<=e.args.length
 a2:e.k=11\/e.k=29\/15<=e.k/\e.k<=27->2<=e.args.length
 a3:e.k=28->3<=e.args.length
 kl:∀s∈e.keys,s.length<=100000
 tl:e.t.length<=100000
 al:e.args.length<=90000
section
variable [HX]
theorem MdK.fin{w0 w1:World}{r:MdR JV}{K:Q0}{b:Nat}{ds:List Value}(hK:MdK w0 r G w K)(hx:Ext w w1)(hb:w1.heap[b]?=some (.cells ds.toArray VT (0,0)))(hd:ds.length=5)(hl:w.heap.size<=b):
  MdK w0 r (λq=>G q/\q≠b) w1 (λv w'=>stW 5 (.pointer (some ⟨b,0,none⟩)) v w' λw4=>ldW true 5 (.pointer (some ⟨b,0,none⟩)) w4 λr=>K r w4):=by
 cases r with
 |ok v=>
  intro cs w' hx' h';exact yK (hx'.at hb id) hd hl (hx.trans hx') h' λw'' hx'' h''=>hK _ w'' hx'' h''
 |err c a=>exact hK
theorem Ui{K:Q0}(hK:∀w',Ext w w'->K (.agg (flat 0 false []).toArray) w'):aC P0 85 [] w K:=by
 refine ZE ?_;unfold W85;refine bG λb w1 hb hz hbb hx=>?_;simp only[wsv,wsg,wsh,wsl,aO,aN,aE,fE,Nat.reduceAdd,Nat.reduceLT,aG,aB,aK,aI,bT,reduceCtorEq];exact jA hbb rfl rfl rfl λw' hc=>hK w' (hx.new hc (by omega))
theorem YO{f:Fl}{M:Lay}{p m left:Nat}{look:Str->Option Value}{env:Env}{e:Ex}{l:List JV}{ec:List Value}{sv:Value}{w0:World}{K:Q0}(hT:sD w)(he:Exc w0 e ec)(hE:Ev w0 w p m f M look left)(hN:fY G w look env)(hI:jD G w sv l)(hg:∀x∈l,dL x=true)
  (ho:aAG e)(hal:l.length=e.args.length)(hin:∀a∈e.args,a<f.ex.length)(h28:e.k≠28)(h29:e.k≠29)(hcall:e.k=12->BY e.t e.args.length)(hob:e.k=8->ObC)(hG:∀q,w.heap.size<=q->G q)(hK:MdK w0 (nS f.ex e env l) G w K):
  aC P0 60 [.pointer (some ⟨p,0,none⟩),.agg ec.toArray,sv] w K:=by
 have hal2:=ho.al;refine ZX ?_;unfold W60;refine GX he hE.ext λb4 w1 va vk hec hva hvk hb4 hz1 hbb4 hx1=>?_;refine bG λb6 w2 hb6 hz2 hbb6 hx2=>?_;have hx02:=hx1.trans hx2;have hb42:=hx2.at hbb4 id;have hl6:=eW hbb6;have hE2:=hE.next hx02;have hEx:=hE2.ext;have o1:=tY hva;have o2:=tY hvk;have hI6:jD (λq=>G q/\q≠b6) w2 sv l:=(hI.mono (G':=λq=>G q/\q≠b6) λq hlt hq=>⟨hq,by omega⟩).ext hx02;have mN:∀{r:MdR JV} {w':World},Ext w2 w'->MdK w0 r G w K->MdK w0 r (λq=>G q/\q≠b6) w' (λv w'=>stW 5 (.pointer (some ⟨b6,0,none⟩)) v w' λw4=>ldW true 5 (.pointer (some ⟨b6,0,none⟩)) w4 λr=>K r w4):=λ{r w'} hx h=>h.fin (hx02.trans hx) (hx.at hbb6 id) rfl (by omega);have hG6:∀{w':World},Ext w2 w'->∀q,w'.heap.size<=q->G q/\q≠b6:=λ{w'} hx q hq=>⟨hG q (by have:=(hx02.trans hx).size;omega),by have:=hx.size;omega⟩;have hflat:∀{k:Int} {s:Bool} {t:Str} {w':World},Ext w2 w'->t.length<=9223372036854775807->MdK w0 (.ok (.mk k s t [] [])) G w K->stW 5 (.pointer (some ⟨b6,0,none⟩)) (.agg (flat k s t).toArray) w' λw5=>ldW true 5 (.pointer (some ⟨b6,0,none⟩)) w5 λr6=>K r6 w5:=λ{k s t w'} hxx ht hr=>
  oC (G:=G) (hxx.at hbb6 id) rfl (by omega) (hx02.trans hxx) ht λw'' hx'' h''=>hr.ok rfl _ w'' hx'' h''
 have hxd:∀w':World,Ext w' w'.drew:=λw'=>Chg.drew (Chg.refl (λ_=>False) w');have at0:1<=l.length->l[0]?=some (Ce l):=λh=>by unfold Ce;rw[List.getD_eq_getElem?_getD,List.getElem?_eq_getElem (by omega)];rfl
 have at1:2<=l.length->l[1]?=some (El l):=λh=>by unfold El;rw[List.getD_eq_getElem?_getD,List.getElem?_eq_getElem (by omega)];rfl
 have gd0:1<=l.length->dL (Ce l)=true:=λh=>hg _ (bK (at0 h));have gd1:2<=l.length->dL (El l)=true:=λh=>hg _ (bK (at1 h));obtain⟨kd1,kd2⟩:=ho.kd;refine dX (off:=0) hb42 rfl ?_;unfold nS at hK;rw[bL,aM];refine⟨λe1=>?_,λe1=>?_⟩
 ·rw[aH e1]at hK;exact Ui λw3 hx3=>hflat (k:=0) (s:=false) (t:=[]) hx3 (by simp) hK
 rw[aD e1]at hK;have join2:∀{a b:Int} {w':World} {B:List Value->Fr->World->Prop},(∀g,B [.bool (decide (e.k=a)||decide (e.k=b))] g w')->bU (λJ=>aQ .eql (i64 e.k) (i64 a) λt=>aR t (J [t] w') (aQ .eql (i64 e.k) (i64 b) λt=>J [t] w')) B:=λ{a b w' B} h=>by
  refine bU.cut (λst w''=>st=[.bool (decide (e.k=a)||decide (e.k=b))]/\w''=w') ?_ ?_
  ·rw[bL,aM];refine⟨λea=>⟨by simp[ea],rfl⟩,λea=>?_⟩;rw[bL];exact⟨by simp[ea],rfl⟩
  rintro st g w'' ⟨rfl,rfl⟩;exact h g
 refine join2 λg=>?_;simp only[aF];rw[bS];refine⟨λe23=>?_,λe23=>?_⟩
 ·rw[aH (by simpa using e23)]at hK;refine dX (off:=0) hb42 rfl ?_;rw[bL];exact oK λw3 hx3=>hflat (k:=2) (s:=decide (e.k=2)) (t:=[]) hx3 (by simp) hK
 rw[aD (by simpa using e23)]at hK;rw[bL,aM];refine⟨λe4=>?_,λe4=>?_⟩
 ·rw[aH e4]at hK;refine dX (off:=1) hb42 rfl ?_;simp only[dA,dZ,cU,aA,aL,aW,aZ];refine⟨by omega,by omega,?_⟩;exact hflat (k:=3) (s:=false) (t:=e.t) (Chg.refl _ _) (by have:=ho.tl;omega) hK
 rw[aD e4]at hK;rw[bL,aM];refine⟨λe5=>?_,λe5=>?_⟩
 ·rw[aH e5]at hK;refine dX (off:=1) hb42 rfl ?_;exact LH λw3 hx3=>hflat (k:=4) (s:=false) (t:=e.t) hx3 (by have:=ho.tl;omega) hK
 rw[aD e5]at hK;rw[bL,aM];refine⟨λe9=>?_,λe9=>?_⟩
 ·rw[aH e9]at hK;have hx2d:=hxd w2;have hEd:=hE2.next hx2d;have hb4d:=hx2d.at hb42 id;rw[dI];refine dX (off:=3) hEd.pp rfl ?_;refine dX (off:=1) hb4d rfl ?_;have JE:∀{w':World},Ext w2.drew w'->(aY 3 (.pointer (some ⟨p,0,none⟩)) λt40=>ldW false 1 t40 w' λx=>x=.map (some m))/\(aY 1 (.pointer (some ⟨b4,0,none⟩)) λt42=>ldW false 1 t42 w' λx=>x=str e.t):=λ{w'} hx=>
   ⟨dX (off:=3) (hx.at hEd.pp id) rfl rfl,dX (off:=1) (hx.at hb4d id) rfl rfl⟩
  have found:∀(v:Value),(∀w',Ext w2.drew w'->∀{K:Value->Prop},K v->mS P0 (Instr.lookup 79 (.map (some m)) (str e.t) true) w' K)->True:=λ_ _=>trivial;cases hen:env e.t with
  |none=>
   rw[hen]at hK;have hlk:=hN.none hen;have lk:∀{w':World} {K:Value->Prop},Ext w2.drew w'->K (.tuple #[.agg zv.toArray,.bool false])->mS P0 (Instr.lookup 79 (.map (some m)) (str e.t) true) w' K:=λ{w' K} hx h=>
    Df (KT:=ST) (ET:=VT) (z:=.agg zv.toArray) (by kernel_rfl) (by kernel_rfl) (by kernel_rfl) ((hEd.next hx).mm) (λv hv=>by rw[hlk]at hv;cases hv) λ_=>h
   refine lk (Chg.refl _ _) ?_;simp only[bJ];refine⟨_,rfl,_,rfl,?_⟩;refine bG λb7 w17 hb7 hz17 hbb7 hx17=>?_;refine⟨lk hx17 rfl,(JE hx17).2,(JE hx17).1,?_⟩;refine cG hbb7 rfl rfl rfl λw18 hz18 hbb7' hc18=>?_;have hx18:Ext w2.drew w18:=hx17.new hc18 (by omega);refine bU.cut (λ_ _=>False) ?_ (λ_ _ _ h=>h.elim);rw[eD,kK,dR];refine dX (off:=4) (hx18.at hb4d id) rfl ?_;exact kQ (hEd.ext.trans hx18) (hK.err rfl)
  |some v=>
   rw[hen]at hK;obtain⟨cs,hlk,hrv,hfw⟩:=hN.some hen;have lk:∀{w':World} {K:Value->Prop},Ext w2.drew w'->K (.tuple #[.agg cs.toArray,.bool true])->mS P0 (Instr.lookup 79 (.map (some m)) (str e.t) true) w' K:=λ{w' K} hx h=>
    Df (KT:=ST) (ET:=VT) (z:=.agg zv.toArray) (by kernel_rfl) (by kernel_rfl) (by kernel_rfl) ((hEd.next hx).mm) (λv hv=>by rw[hlk]at hv;cases hv;exact h) λhv=>by rw[hlk]at hv;cases hv
   refine lk (Chg.refl _ _) ?_;simp only[bJ];refine⟨_,rfl,_,rfl,?_⟩;refine bG λb7 w17 hb7 hz17 hbb7 hx17=>?_;refine⟨lk hx17 rfl,(JE hx17).2,(JE hx17).1,?_⟩;refine cG hbb7 hrv.rep.len rfl hrv.rep.all_one λw18 hz18 hbb7' hc18=>?_;have hx18:Ext w2.drew w18:=hx17.new hc18 (by omega);have hx218:=hx2d.trans hx18;refine bU.go ?_;rw[eD,jO,cX];intro g;refine bX hbb7' hrv.rep.len ?_;refine LY v hfw (hrv.rep.ext (hx02.trans hx218)) λcs' w22 hx22 h22=>?_;refine mN (Chg.refl _ _) hK cs' w22 (hx218.trans hx22) (h22.mono λq _ hq=>hG6 hx218 q hq)
 rw[aD e9]at hK;rw[bL,aM];refine⟨λe6=>?_,λe6=>?_⟩
 ·rw[aH e6]at hK;refine bX hb42 rfl ?_;refine JD (G:=λq=>G q/\q≠b6) ⟨⟨va,vk,rfl,hva,hvk⟩⟩ hE2 hI6.items hg (by omega) (by omega) hin (mN (Chg.refl _ _) hK)
 rw[aD e6]at hK;rw[bL,aM];refine⟨λe7=>?_,λe7=>?_⟩
 ·rw[aH e7]at hK;have hos:gH sv=true:=by obtain⟨T,L,h1,_⟩:=hI.it;exact tY h1
  have hps:∀{c:List Value} {i:Nat} {r:List (Nat×Nat×Value)} {K:List Value->Prop},dD c ((i,1,sv)::r) K↔i<c.length/\dD (c.set i sv) r K:=by
   obtain⟨T,L,h1,_⟩:=hI.it;obtain⟨p1,c1,e1,_⟩:=h1.shape;intro c i r K;rw[e1];exact sV _ _ _ _ _ rfl
  simp only[dA,hps,cU,aA,aL,aW,aZ];refine⟨by omega,by omega,?_⟩;exact mN (Chg.refl _ _) hK _ w2 (Chg.refl _ _) hI6.list
 rw[aD e7]at hK;rw[bL,aM];refine⟨λe8=>?_,λe8=>?_⟩
 ·rw[aH e8]at hK;refine dX (off:=3) hb42 rfl ?_;refine(hob e8) (hvk.ext hEx) hI6.items (by omega) (λs hs=>by have:=ho.kl s hs;omega) (λx hx=>(rQ (hg x hx)).few) λcs c w31 hx31 h31=>?_;simp only[bJ];refine⟨_,rfl,_,rfl,?_⟩;refine nH h31.rep.len h31.rep.all_one λb9 w33 hb9 hz33 hbb9 hx33=>?_;refine bX hbb9 h31.rep.len ?_;exact mN (Chg.refl _ _) hK cs w33 (hx31.trans hx33) ((h31.ext' hx33).mono λq _ hq=>hG6 (Chg.refl _ _) q hq)
 rw[aD e8]at hK;rw[bL,aM];refine⟨λe10=>?_,λe10=>?_⟩
 ·rw[aH e10]at hK;have n1:=ho.a1 (.inl e10);refine bX ((hxd w2).at hb42 id) rfl ?_;refine(hI6.ext (hxd w2)).get (at0 (by omega)) λcs hcs=>?_;exact KR (G:=λq=>G q/\q≠b6) ⟨_,_,_,rfl,o1,o2⟩ hcs (gd0 (by omega)) (hEx.trans (hxd w2)) (hG6 (hxd w2)) (mN (hxd w2) hK)
 rw[aD e10]at hK;rw[bL,aM];refine⟨λe30=>?_,λe30=>?_⟩
 ·rw[aH e30]at hK;have n1:=ho.a1 (.inr (.inl e30));refine bX ((hxd w2).at hb42 id) rfl ?_;refine(hI6.ext (hxd w2)).get (at0 (by omega)) λcs hcs=>?_;exact Ra (G:=λq=>G q/\q≠b6) ⟨_,_,_,rfl,o1,o2⟩ hcs (gd0 (by omega)) (hEx.trans (hxd w2)) (hG6 (hxd w2)) (mN (hxd w2) hK)
 rw[aD e30]at hK;rw[bL,aM];refine⟨λe11=>?_,λe11=>?_⟩
 ·rw[aH e11]at hK;have n2:=ho.a2 (.inl e11);refine bX ((hxd w2).at hb42 id) rfl ?_;refine(hI6.ext (hxd w2)).get (at0 (by omega)) λcs hcs=>?_;refine(hI6.ext (hxd w2)).get (at1 (by omega)) λds hds=>?_;exact Uc (G:=λq=>G q/\q≠b6) (hT.ext (hx02.trans (hxd w2))) ⟨_,_,_,rfl,o1,o2⟩ hcs hds (gd0 (by omega)) (gd1 (by omega)) (hEx.trans (hxd w2)) (hG6 (hxd w2)) (mN (hxd w2) hK)
 rw[aD e11]at hK;rw[bL,aM];refine⟨λe12=>?_,λe12=>?_⟩
 ·rw[aH e12]at hK;refine dX (off:=1) hb42 rfl ?_;refine hcall e12 hal hg (hT.ext hx02) hI6.items λcs w45 hx45 h45=>?_;simp only[bJ];refine⟨_,rfl,_,rfl,?_⟩;refine nH h45.rep.len h45.rep.all_one λb11 w47 hb11 hz47 hbb11 hx47=>?_;have hx247:=hx45.trans hx47;refine bU.cut (λst w'=>w'=w47/\(pM e.t l).2=0) ?_ ?_
  ·rw[fL,aM];refine⟨λhc=>?_,λhc=>⟨rfl,by omega⟩⟩;rw[aD hc]at hK;refine dX (off:=4) (hx247.at hb42 id) rfl ?_;exact kQ (hEx.trans hx247) (hK.err rfl)
  rintro st g2 w50 ⟨rfl,hc⟩;rw[aH hc]at hK;refine bX hbb11 h45.rep.len ?_;exact mN (Chg.refl _ _) hK cs w50 hx247 ((h45.ext' hx47).mono λq _ hq=>hG6 (Chg.refl _ _) q hq)
 rw[aD e12]at hK;refine join2 λg2=>?_;simp only[aF];rw[bS];refine⟨λe13=>?_,λe13=>?_⟩
 ·have e13:e.k=13\/e.k=14:=by simpa using e13
  rw[aH e13]at hK;have n1:=ho.a1 (.inr (.inr e13));refine bX ((hxd w2).at hb42 id) rfl ?_;refine(hI6.ext (hxd w2)).get (at0 (by omega)) λcs hcs=>?_;exact NT (G:=λq=>G q/\q≠b6) (hT.ext (hx02.trans (hxd w2))) o1 o2 hcs (gd0 (by omega)) (hEx.trans (hxd w2)) (mN (hxd w2) hK)
 have e13:¬(e.k=13\/e.k=14):=by simpa using e13
 rw[aD e13]at hK;have e23':¬(e.k=2\/e.k=3):=by simpa using e23
 have n2:2<=l.length:=by have:=ho.a2 (.inr (.inr ⟨by omega,by omega⟩));omega
 refine join2 λg3=>?_;simp only[aF];rw[bS];refine⟨λe20=>?_,λe20=>?_⟩
 ·rw[aH (by simpa using e20)]at hK;refine hI6.get (at0 (by omega)) λcs hcs=>?_;refine GI _ hcs.rep λw60 hx60=>?_;rw[eD];refine GdW.act (!iP (El l)) (λw'=>Ext w60 w') (λ_=>Chg.refl _ _) (λ_ J hJ=>?_) λg4 w63 hx63=>?_
  ·refine(hI6.ext hx60).get (at1 (by omega)) λds hds=>?_;refine GI _ hds.rep λw62 hx62=>?_;rw[eD];exact hJ w62 hx62
  have hx263:=hx60.trans hx63;simp only[aF,kL];rw[eR,bS];refine⟨λhu=>?_,λhk=>?_⟩
  ·rw[aD (by rintro⟨h1,h2⟩;simp[h1,h2]at hu)]at hK;exact qN λw64 hx64=>hflat (k:=1) (s:=false) (t:=[]) (hx263.trans hx64) (by simp) hK
  ·have hk:iP (Ce l)=true/\iP (El l)=true:=by simpa using hk
   rw[aH hk]at hK;have hx2d:=hx263.trans (hxd w63);refine(hI6.ext hx2d).get (at0 (by omega)) λcs' hcs'=>?_;refine(hI6.ext hx2d).get (at1 (by omega)) λds' hds'=>?_;refine dX (off:=0) (hx2d.at hb42 id) rfl ?_;rw[bL];refine Um hcs'.rep hds'.rep λw67 hx67=>?_;refine⟨dX (off:=0) ((hx2d.trans hx67).at hb42 id) rfl rfl,?_⟩;have eqb:∀(s t:Bool) (K:Value->Prop),K (.bool (s==t))->eqW .bool false (.bool s) (.bool t) K:=λs t K h=>by
    cases s<;>cases t<;>exact h
   refine eqb _ _ _ ?_;exact oK λw68 hx68=>hflat (k:=2) (t:=[]) (hx2d.trans (hx67.trans hx68)) (by simp) hK
 rw[aD (by simpa using e20)]at hK;refine join2 λg3=>?_;simp only[aF];rw[bS];refine⟨λe26=>?_,λe26=>?_⟩
 ·rw[aH (by simpa using e26)]at hK;refine bX ((hxd w2).at hb42 id) rfl ?_;refine(hI6.ext (hxd w2)).get (at0 (by omega)) λcs hcs=>?_;refine(hI6.ext (hxd w2)).get (at1 (by omega)) λds hds=>?_;exact Zk (G:=λq=>G q/\q≠b6) o1 o2 hcs hds (hEx.trans (hxd w2)) (mN (hxd w2) hK)
 ·rw[aD (by simpa using e26)]at hK;refine bX ((hxd w2).at hb42 id) rfl ?_;refine(hI6.ext (hxd w2)).get (at0 (by omega)) λcs hcs=>?_;refine(hI6.ext (hxd w2)).get (at1 (by omega)) λds hds=>?_;exact MR (G:=λq=>G q/\q≠b6) (hT.ext (hx02.trans (hxd w2))) o1 o2 hcs hds (gd0 (by omega)) (gd1 (by omega)) (hEx.trans (hxd w2)) (mN (hxd w2) hK)
end
abbrev rD(ex:List Ex):Nat->Env->Nat->EvR JV:=λa env l=>sG ex (a+1) a env l
def PM(p m:Nat)(q:Nat):Prop:=q=p\/q=m
theorem zY{p m k:Nat}(hp:¬G p)(hm:¬G m)(hg:G k):¬PM p m k:=λe=>e.elim (λe=>hp (e▸hg)) λe=>hm (e▸hg)
theorem Ev.mv{w0:World}{p m:Nat}{f:Fl}{M:Lay}{look:Str->Option Value}{left:Nat}(h:Ev w0 w p m f M look left)(hc:Chg S w w')(hS:∀k,k<w.heap.size->S k->w0.heap.size<=k/\k≠p/\k≠m):Ev w0 w' p m f M look left:=by
 have hc:=hc.mono (T:=λk=>w0.heap.size<=k/\k≠p/\k≠m) hS;exact h.keep hc (λk=>by by_cases e:w0.heap.size<=k;exact .inl e;exact .inr λx=>e x.1) (λx=>x.2.1 rfl) λx=>x.2.2 rfl
theorem Ev.lt{w0:World}{p m:Nat}{f:Fl}{M:Lay}{look:Str->Option Value}{left:Nat}(h:Ev w0 w p m f M look left):p<w.heap.size/\m<w.heap.size:=⟨eW h.pp,h.mm.lt⟩
theorem FV.get{w0:World}{M:Lay}{fl:Fl}{e:Ex}{k:IntKind}{K:Value->Prop}(h:FV w0 M fl)(hx:Ext w0 w)(hi:fl.ex[i]?=some e)(hK:∀cs,Exc w0 e cs->K (.agg cs.toArray)):dV none 5 M.vE (.int k i) λp=>ldW true 5 p w K:=by
 obtain⟨va,vk,ec,h1,h2⟩:=h.ee.2 i e hi;exact TU (h.oE.ext hx) h.ee.1 (by omega) (List.getElem?_eq_some_iff.1 hi).1 ec (hK _ ⟨va,vk,rfl,h1,h2⟩)
theorem WJ{b:Nat}{ds:List Value}{v:JV}{K:Q0}(hb:w.heap[b]?=some (.cells ds.toArray VT (0,0)))(hd:ds.length=5)(h:cO (λq=>G q/\q≠b) w v cs)(hK:∀w',Chg (λq=>q=b) w w'->cO G w' v cs->K (.agg cs.toArray) w'):
  stW 5 (.pointer (some ⟨b,0,none⟩)) (.agg cs.toArray) w λw5=>ldW true 5 (.pointer (some ⟨b,0,none⟩)) w5 λr6=>K r6 w5:=
 jA hb h.rep.len hd h.rep.all_one λw' hc=>hK w' hc ((cO.chg hc (λq hq _ e=>hq.2 e) h).mono λq _ hq=>hq.1)
section
variable [HX]
def EvK(w0 w:World)(p m:Nat)(f:Fl)(M:Lay)(look:Str->Option Value)(G:Nat->Prop)(r:EvR JV)(K:Q0):Prop:=match r with
 |.ok v l=>∀cs w',Chg (PM p m) w w'->Ev w0 w' p m f M look l->cO G w' v cs->dL v=true->l<=20000->K (.agg cs.toArray) w'
 |.err c a=>KV w0 c a
def EvB(w0 w:World)(p m:Nat)(f:Fl)(M:Lay)(look:Str->Option Value)(G:Nat->Prop)(r:EvR JV)(K:Q0):Prop:=match r with
 |.ok v l=>∀cs w',Chg (PM p m) w w'->Ev w0 w' p m f M look l->cO G w' v cs->l<=20000->K (.agg cs.toArray) w'
 |.err c a=>KV w0 c a
theorem EvB.ok{w0:World}{p m:Nat}{f:Fl}{M:Lay}{look:Str->Option Value}{r:EvR JV}{K:Q0}{v:JV}{l:Nat}(h:EvB w0 w p m f M look G r K)(hr:r=.ok v l):∀cs w',Chg (PM p m) w w'->Ev w0 w' p m f M look l->cO G w' v cs->l<=20000->K (.agg cs.toArray) w':=by subst hr;exact h
def Wt(w0:World)(p m:Nat)(f:Fl)(M:Lay)(i:Nat):Prop:=∀{env:Env} {look:Str->Option Value} {left:Nat} {G:Nat->Prop} {w:World} {K:Q0},Ev w0 w p m f M look left->fY G w look env->¬G p->¬G m->(∀q,w.heap.size<=q->G q)->left<=20000->
 EvK w0 w p m f M look G (rD f.ex i env left) K->aC P0 35 [.pointer (some ⟨p,0,none⟩),i64 (i:Nat)] w K
def QF:Prop:=∀{f:Fl} {M:Lay} {p m left:Nat} {look:Str->Option Value} {env:Env} {e:Ex} {ec:List Value} {G:Nat->Prop} {w0 w:World} {K:Q0},Exc w0 e ec->Ev w0 w p m f M look left->fY G w look env->3<=e.args.length->(∀a∈e.args,Wt w0 p m f M a)->
 ¬G p->¬G m->(∀q,w.heap.size<=q->G q)->left<=20000->EvB w0 w p m f M look G (Qi (rD f.ex) e env left) K->aC P0 58 [.pointer (some ⟨p,0,none⟩),.agg ec.toArray] w K
end
abbrev MpT:TypeId:=79
def BH(look:Str->Option Value)(t:Str)(v:Value):Str->Option Value:=λs=>if s=t then some v else look s
theorem fY.set{look:Str->Option Value}{env:Env}(h:fY G w look env){t:Str}{x:JV}(hx:cO G w x cs)(hf:Ao x=true):fY G w (BH look t (.agg cs.toArray)) (env.set t x):=λs=>by
 unfold BH Env.set
 by_cases e:s=t
 ·rw[aH e,aH e]
  exact⟨cs,rfl,hx,hf⟩
 ·rw[aD e,aD e]
  exact h s
theorem fY.congr{look look':Str->Option Value}{env:Env}(h:fY G w look env)(he:∀s,look s=look' s):fY G w look' env:=λs=>by rw[<-he];exact h s
theorem Ev.congr{w0:World}{p m:Nat}{f:Fl}{M:Lay}{look look':Str->Option Value}{left:Nat}(h:Ev w0 w p m f M look left)(he:∀s,look s=look' s):Ev w0 w p m f M look' left:=⟨h.ext,h.pp,h.mm.congr he,h.fv,h.hp,h.hm,h.ne⟩
section
variable [HX]
theorem Kb{w0:World}{p m:Nat}{f:Fl}{M:Lay}{look:Str->Option Value}{left:Nat}{t:Str}{K:World->Prop}(h:Ev w0 w p m f M look left)
  (hK:∀w',Ev w0 w' p m f M (BH look t v) left->Chg (λq=>q=m) w w'->w'.heap.size=w.heap.size->K w'):mR P0 (Instr.mapUpdate MpT (.map (some m)) (str t) v) w K:=
 Pf (KT:=ST) (ET:=VT) (by kernel_rfl) (by kernel_rfl) h.mm λw' hz hm hc=>hK w' ⟨h.ext.then hc λk hk e=>by have e:k=m:=e;have:=h.hm;omega,hc.at h.pp h.ne,hm,h.fv,h.hp,h.hm,h.ne⟩ hc hz
theorem YM{w0:World}{p m:Nat}{f:Fl}{M:Lay}{look:Str->Option Value}{left:Nat}{t:Str}{ty:TypeId}{K:Q0}(h:Ev w0 w p m f M look left)
  (hK:∀w',Ev w0 w' p m f M (λs=>if s=t then none else look s) left->Chg (λq=>q=m) w w'->w'.heap.size=w.heap.size->K (.tuple #[]) w'):dY P0 (Builtin.delete_ #[MpT,ST] ty #[.map (some m),str t]) w K:=
 Ph (KT:=ST) (ET:=VT) (by kernel_rfl) (by kernel_rfl) h.mm λw' hz hm hc=>hK w' ⟨h.ext.then hc λk hk e=>by have e:k=m:=e;have:=h.hm;omega,hc.at h.pp h.ne,hm,h.fv,h.hp,h.hm,h.ne⟩ hc hz
theorem YP{f:Fl}{M:Lay}{p m left:Nat}{look:Str->Option Value}{env:Env}{e:Ex}{ec:List Value}{w0:World}{K:Q0}(he:Exc w0 e ec)(hE:Ev w0 w p m f M look left)(hN:fY G w look env)(ha:2<=e.args.length)(hV:∀a∈e.args,Wt w0 p m f M a)
  (hp:¬G p)(hm:¬G m)(hG:∀q,w.heap.size<=q->G q)(hl:left<=20000)(hK:EvB w0 w p m f M look G (PO (rD f.ex) e env left) K)(hgood:∀a env l v l',rD f.ex a env l=.ok v l'->dL v=true):
  aC P0 59 [.pointer (some ⟨p,0,none⟩),.agg ec.toArray] w K:=by
 refine ZY ?_;unfold W59;refine GX he hE.ext λb3 w1 va vk hec hva hvk hb3 hz1 hbb3 hx1=>?_;refine bG λb4 w2 hb4 hz2 hbb4 hx2=>?_;have hx02:=hx1.trans hx2;have hb32:=hx2.at hbb3 id;have hE2:=hE.next hx02;have hlt:=hE.lt;have h0:=hE.ext.size;have arg:∀(j:Nat) {w':World} {K:Value->Prop},j<e.args.length->Ext w0 w'->w'.heap[b3]?=some (.cells [i64 e.k,str e.t,va,vk,i64 e.a].toArray 93 (0,0))->K (i64 (pX e j:Nat))->aY 2 (.pointer (some ⟨b3,0,none⟩)) λt7=>ldW false 1 t7 w' λt8=>dV none 1 t8 (i64 (j:Nat)) λt9=>ldW false 1 t9 w' K:=λj {w' K} hj hx hb hk=>by
  refine dX (off:=2) hb rfl ?_;refine rO (hva.ext hx) (by simp[ints]) (x:=i64 (pX e j:Nat)) ?_ hk;unfold pX;rw[List.getD_eq_getElem?_getD,List.getElem?_eq_getElem hj];simp[ints,hj]
 have memA:∀j,j<e.args.length->pX e j∈e.args:=λj hj=>by
  unfold pX;rw[List.getD_eq_getElem?_getD,List.getElem?_eq_getElem hj];exact AB hj
 refine arg 0 (by omega) hE2.ext hb32 ?_;have hN2:fY (λq=>G q/\q≠b4) w2 look env:=(hN.mono (G':=λq=>G q/\q≠b4) λq hlt hq=>⟨hq,by omega⟩).ext hx02;refine hV _ (memA 0 (by omega)) hE2 hN2 (λe=>hp e.1) (λe=>hm e.1) (λq hq=>⟨hG q (by omega),by omega⟩) hl ?_;unfold PO at hK;cases hr:rD f.ex (pX e 0) env left with
 |err c a=>
  rw[hr]at hK;exact hK
 |ok c l=>
  rw[hr]at hK;simp only[EvR.bind]at hK;intro cs w3 hc3 hE3 hr3 hg3 hl3;have s3:=hc3.size;have hb33:=hc3.at hb32 (λe=>by rcases e with e|e<;>omega);have hb43:=hc3.at hbb4 (λe=>by rcases e with e|e<;>omega);refine nH hr3.rep.len hr3.rep.all_one λb5 w5 hb5 hz5 hbb5 hx5=>?_;obtain⟨svc,kvc,_,_,_,rfl,_⟩:=Ew hr3;have hE5:=hE3.next hx5;have hc5:Chg (PM p m) w w5:=((Chg.of_ext hx02).trans hc3).then hx5 λ_ _ e=>e.elim;have hb35:=hx5.at hb33 id;have hb45:=hx5.at hb43 id;have hr5:=hr3.ext' hx5;have fin:∀{v:JV} {l:Nat} {ds:List Value} {w':World},Chg (PM p m) w w'->Ev w0 w' p m f M look l->w'.heap[b4]?=some (.cells zr5.toArray VT (0,0))->cO (λq=>G q/\q≠b4) w' v ds->l<=20000->(∀cs w',Chg (PM p m) w w'->Ev w0 w' p m f M look l->cO G w' v cs->l<=20000->K (.agg cs.toArray) w')->
    stW 5 (.pointer (some ⟨b4,0,none⟩)) (.agg ds.toArray) w' λw5=>ldW true 5 (.pointer (some ⟨b4,0,none⟩)) w5 λr6=>K r6 w5:=λ{v l ds w'} hc hE' hb h' hl' hk=>
   WJ hb rfl h' λw'' hc'' h''=>hk _ w'' (hc.then hc'' λk hk e=>by have e:k=b4:=e;omega) (hE'.mv hc'' λk _ e=>by have e:k=b4:=e;exact⟨by omega,by omega,by omega⟩) h'' hl'
  refine bU.cut (λst w'=>Ext w5 w'/\c.k=5) ?_ ?_
  ·refine bX hbb5 rfl ?_;refine vN hr5.rep λw7 hx7 _=>?_;have hc7:=hc5.then hx7 λ_ _ e=>e.elim;rw[aM];refine⟨λk1=>?_,λk1=>?_⟩
   ·rw[aH k1]at hK;refine bX (hx7.at hbb5 id) rfl ?_;exact fin hc7 (hE5.next hx7) (hx7.at hb45 id) (hr5.ext' hx7) hl3 hK
   rw[aD k1]at hK;refine dX (off:=0) (hx7.at hbb5 id) rfl ?_;rw[fL,aM];refine⟨λk2=>?_,λk2=>⟨hx7,by omega⟩⟩;rw[aH k2]at hK;refine dX (off:=4) (hx7.at hb35 id) rfl ?_;exact kQ (hE5.next hx7).ext hK
  rintro st g w11 ⟨hx11,k5⟩;rw[aD (by omega),aD (λe=>e k5)]at hK;have hxd:∀w':World,Ext w' w'.drew:=λw'=>Chg.drew (Chg.refl (λ_=>False) w');have hx11d:=hx11.trans (hxd w11);have hE11:=hE5.next hx11d;have hb311:=hx11d.at hb35 id;have hb411:=hx11d.at hb45 id;have hb511:=hx11d.at hbb5 id;have hc11:Chg (PM p m) w w11.drew:=hc5.then hx11d λ_ _ e=>e.elim;rw[dI];refine dX (off:=3) hE11.pp rfl ?_;refine dX (off:=1) hb311 rfl ?_;have lk:∀{w':World} {K:Value->Prop},Ext w11.drew w'->K (match look e.t with|some v=>.tuple #[v,.bool true]|none=>.tuple #[.agg zv.toArray,.bool false])->mS P0 (Instr.lookup MpT (.map (some m)) (str e.t) true) w' K:=λ{w' K} hx h=>by
   refine Df (KT:=ST) (ET:=VT) (z:=.agg zv.toArray) (by kernel_rfl) (by kernel_rfl) (by kernel_rfl) ((hE11.next hx).mm) (λv hv=>?_) λhv=>?_
   ·rw[hv]at h;exact h
   ·rw[hv]at h;exact h
  obtain⟨was,th,wcs,hwas,hwl,hwo,hwz⟩:∃(was:Value) (th:Bool) (wcs:List Value),(match look e.t with|some v=>Value.tuple #[v,.bool true]|none=>.tuple #[.agg zv.toArray,.bool false])=.tuple #[was,.bool th]/\was=.agg wcs.toArray/\(wcs.length=5/\wcs.all gH=true)/\look e.t=(if th=true then some was else none):=by
   cases hen:env e.t with
   |none=>rw[hN.none hen];exact⟨_,false,zv,rfl,rfl,⟨rfl,rfl⟩,rfl⟩
   |some v=>
    obtain⟨ws,h1,h2,_⟩:=hN.some hen;rw[h1];exact⟨_,true,ws,rfl,rfl,⟨h2.rep.len,h2.rep.all_one⟩,rfl⟩
  rw[hwas]at lk;refine lk (Chg.refl _ _) ?_;simp only[bJ];refine⟨_,rfl,_,rfl,?_⟩;refine bG λb6 w12 hb6 hz12 hbb6 hx12=>?_;refine⟨lk hx12 rfl,dX (off:=1) (hx12.at hb311 id) rfl rfl,dX (off:=3) (hx12.at hE11.pp id) rfl rfl,?_⟩;rw[hwl];refine cG hbb6 hwo.1 rfl hwo.2 λw13 hz13 hbb6' hc13=>?_;have hx13:Ext w11.drew w13:=hx12.new hc13 (by omega);simp only[dA,cU,aA,aL,aW];refine⟨by omega,?_⟩;refine nH (cs:=[i64 5,.bool false,str [],.slice none 0 0,.slice none 0 0]) rfl rfl λb8 w16 hb8 hz16 hbb8 hx16=>?_;have hx1116:=hx13.trans hx16;have hE16:=hE11.next hx1116;have hc16:Chg (PM p m) w w16:=hc11.then hx1116 λ_ _ e=>e.elim;have hb516:=hx1116.at hb511 id;refine dX (off:=3) hb516 rfl ?_;have hr16:cO (λq=>(G q/\q≠b4)/\q<w5.heap.size) w16 c [i64 c.k,.bool c.b,str c.t,svc,kvc]:=((hr5.mono (G':=λq=>(G q/\q≠b4)/\q<w5.heap.size) λq hlt hq=>⟨hq,hlt⟩).ext' hx11d).ext' hx1116;have hI16:=hr16.its;rw[hI16.items.len];have s11:w5.heap.size<=w11.drew.heap.size:=hx11d.size;have s12:w12.heap.size=w11.drew.heap.size+1:=hz12;have s05:=hc5.size;have hlen:=(rQ hg3).lens.1;have hmem:∀x∈c.xs,dL x=true:=λx hx=>Dz hg3 hx;have hNn:fY (λq=>G q/\q<w.heap.size) w look env:=hN.mono λq hlt hq=>⟨hq,hlt⟩;have pmlt:∀{q:Nat},w.heap.size<=q->¬PM p m q:=λ{q} h e=>by rcases e with e|e<;>omega
  have hb316:=hx1116.at hb311 id;have hb416:=hx1116.at hb411 id;have hb616:=hx16.at hbb6' id;refine cZ.go (λst w'=>∃(i:Nat) (rv:Value) (rs:List JV) (l':Nat) (lki:Str->Option Value),st=[i64 (i:Nat)]/\i<=c.xs.length/\rs.length=i/\Chg (λq=>PM p m q\/w16.heap.size<=q\/q=b8) w16 w'/\Ev w0 w' p m f M lki l'/\(∀s,s≠e.t->lki s=look s)/\l'<=20000/\
    w'.heap[b8]?=some (.cells [i64 5,.bool false,str [],rv,.slice none 0 0].toArray VT (0,0))/\pO (λq=>(G q/\q≠b4)/\q≠b8) w' w16.heap.size rv rs/\
    mV (rD f.ex) env e.t (pX e 1) c.xs l=(mV (rD f.ex) env e.t (pX e 1) (c.xs.drop i) l').bind λys l2=>.ok (rs++ys) l2)
   (λst _=>match st with|[.int _ i]=>c.xs.length-i.toNat|_=>0)
   ⟨0,.slice none 0 0,[],l,look,rfl,fW _,rfl,Chg.refl _ _,hE16,λ_ _=>rfl,hl3,hbb8,pO.nil _ _ _,by rw[cV];cases mV (rD f.ex) env e.t (pX e 1) c.xs l<;>rfl⟩ ?_
  rintro st g2 w18 ⟨i,rv,rs,l',lki,rfl,hi,hrl,hc18,hE18,hlki,hl',hq8,hR,hat⟩;simp only[aF];have s18:=hc18.size;have keep:∀{b:Nat} {o:Obj},w16.heap[b]?=some o->w.heap.size<=b->b<w16.heap.size->b≠b8->w18.heap[b]?=some o:=λ{b o} h h1 h2 h3=>hc18.at h λe=>by
   rcases e with e|e|e
   ·exact pmlt h1 e
   ·omega
   ·exact h3 e
  have l4:=eW hb416;have l3:=eW hb316;have l6:=eW hb616;have l8:=eW hbb8;have hb318:=keep hb316 (by omega) l3 (by omega);have hb418:=keep hb416 (by omega) l4 (by omega);have hb618:=keep hb616 (by omega) l6 (by omega);have hcW:Chg (PM p m) w w18:=hc16.then hc18 λk hk e=>by
   rcases e with e|e|e
   ·exact e
   ·omega
   ·omega
  rw[dW,aM];refine⟨λhlt2=>?_,λhge=>?_⟩
  ·have hlt2:i<c.xs.length:=by omega
   obtain⟨x,hxi⟩:∃x,c.xs[i]?=some x:=⟨_,List.getElem?_eq_getElem hlt2⟩;have hgx:=hmem x (bK hxi);have hdr:c.xs.drop i=x::c.xs.drop (i+1):=by rw[cD hlt2];congr 1;exact(List.getElem?_eq_some_iff.1 hxi).2
   rw[hdr]at hat;simp only[mV]at hat;have hI18:jD (λq=>(G q/\q≠b4)/\q<w5.heap.size) w18 svc c.xs:=hI16.chg hc18 λk hk _ e=>by
    rcases e with e|e|e
    ·exact zY hp hm hk.1.1 e
    ·have:=hk.2;omega
    ·have:=hk.2;omega
   refine hI18.get hxi λxs hxs=>?_;refine nH hxs.rep.len hxs.rep.all_one λb10 w20 hb10 hz20 hbb10 hx20=>?_;have hx20d:=hx20.trans (hxd w20);have hE20:=hE18.next hx20d;rw[dI];refine dX (off:=3) hE20.pp rfl ?_;refine dX (off:=1) (hx20d.at hb318 id) rfl ?_;refine bX ((hxd w20).at hbb10 id) hxs.rep.len ?_;refine Kb hE20 λw21 hE21 hc21 hz21=>?_;have hx21d:=hxd w21;have hE21d:=hE21.next hx21d;have sd21:w21.drew.heap.size=w21.heap.size:=rfl;have sd20:w20.drew.heap.size=w20.heap.size:=rfl;have hcc:Chg (PM p m) w18 w21.drew:=((Chg.of_ext hx20d).then hc21 λk _ e=>.inr e).then hx21d λ_ _ e=>e.elim;have hb821:=hcc.at hq8 (pmlt (by omega));have hb321:=hcc.at hb318 (pmlt (by omega));have hb421:=hcc.at hb418 (pmlt (by omega));have hb621:=hcc.at hb618 (pmlt (by omega));refine dX (off:=3) hb821 rfl ?_;refine arg 1 (by omega) hE21d.ext hb321 ?_;have hrb:∀q,rv.ownBlock=some q->w16.heap.size<=q/\q<w18.heap.size:=λq e=>hR.inb e;have hpmR:∀q,PM p m q->rv.ownBlock≠some q:=λq e e2=>pmlt (by have:=(hrb q e2).1;omega) e;have hcWW:Chg (PM p m) w w21.drew:=hcW.trans hcc;have hNx:fY (λq=>((G q/\q≠b4)/\q≠b8)/\rv.ownBlock≠some q) w21.drew (BH lki e.t (.agg xs.toArray)) (env.set e.t x):=by
    have h1:fY (λq=>G q/\q<w.heap.size) w21.drew look env:=hNn.chg hcWW λk hk _=>zY hp hm hk.1;have h2:fY (λq=>((G q/\q≠b4)/\q≠b8)/\rv.ownBlock≠some q) w21.drew look env:=h1.mono λq _ hq=>⟨⟨⟨hq.1,by have:=hq.2;omega⟩,by have:=hq.2;omega⟩,λe=>by have:=(hrb q e).1;have:=hq.2;omega⟩;have h3:cO (λq=>((G q/\q≠b4)/\q≠b8)/\rv.ownBlock≠some q) w21.drew x xs:=(cO.chg hcc (λk hk _=>zY hp hm hk.1.1) hxs).mono λq _ hq=>⟨⟨hq.1,by have:=hq.2;omega⟩,λe=>by have:=(hrb q e).1;have:=hq.2;omega⟩;refine(h2.set h3 (rQ hgx).few).congr λs=>?_;unfold BH;by_cases es:s=e.t
    ·rw[aH es,aH es]
    ·rw[aD es,aD es,hlki s es]
   have sz21:=hcc.size;refine hV _ (memA 1 (by omega)) hE21d hNx (λe=>hp e.1.1.1) (λe=>hm e.1.1.1) (λq hq=>⟨⟨⟨hG q (by omega),by omega⟩,by omega⟩,λe=>by have:=(hrb q e).2;omega⟩) hl' ?_;cases hr2:rD f.ex (pX e 1) (env.set e.t x) l' with
   |err c' a'=>
    rw[hr2]at hat;have hK2:KV w0 c' a':=by
     rw[hat]at hK;exact hK
    exact hK2
   |ok y l2=>
    rw[hr2]at hat;intro ys w22 hc22 hE22 h22 hg22 hl22;have hc1822:=hcc.trans hc22;have hb822:=hc22.at hb821 (pmlt (by omega));refine⟨dX (off:=3) hb822 rfl rfl,?_⟩;refine EO h22.rep.len λt30 w23 ht23 hx23=>?_;have hb823:=hx23.at hb822 id;refine⟨dX (off:=3) hb823 rfl rfl,?_⟩;have hc1823:=hc1822.then hx23 λ_ _ e=>e.elim;have s23:=hc1823.size;have hR23:pO (λq=>(G q/\q≠b4)/\q≠b8) w23 w16.heap.size rv rs:=hR.chg hc1823 (λk hk _=>zY hp hm hk.1.1) λk hk _=>pmlt (by omega);refine hR23.app ht23 (h22.ext' hx23) (by omega) (by omega) λrv' w24 hR24 hc24=>?_;have s24:=hc24.size;have hrb23:∀q,rv.ownBlock=some q->w16.heap.size<=q:=λq e=>(hrb q e).1;rw[bP];refine iT (off:=3) (hc24.at hb823 λe=>by have:=hrb23 b8 e;omega) hR24.one (by simp) λw25 hz25 hb25 hc25=>?_;rw[cA,up1 (by omega)];have hc1825:Chg (λq=>PM p m q\/w16.heap.size<=q\/q=b8) w18 w25:=((hc1823.mono (T:=λq=>PM p m q\/w16.heap.size<=q\/q=b8) λk _ e=>.inl e).then hc24 λk _ e=>.inr (.inl (hrb23 k e))).then hc25 λk _ e=>.inr (.inr e);refine⟨⟨i+1,rv',rs++[y],l2,BH lki e.t (.agg xs.toArray),rfl,hlt2,by simp[hrl],hc18.trans hc1825,?_,?_,hl22,?_,?_,?_⟩,by simp only[aV];omega⟩
    ·exact((hE22.next hx23).mv hc24 λk _ e=>by have:=hrb23 k e;exact⟨by omega,by omega,by omega⟩).mv hc25 λk _ e=>by have e:k=b8:=e;exact⟨by omega,by omega,by omega⟩
    ·intro s hs;unfold BH;rw[aD hs,hlki s hs]
    ·rw[hb25];simp
    ·exact hR24.chg hc25 (λq hq _ e=>hq.2 e) λq hq _ e=>by have e:q=b8:=e;omega
    ·rw[hat];simp only[EvR.bind];cases mV (rD f.ex) env e.t (pX e 1) (c.xs.drop (i+1)) l2<;>simp
  ·obtain rfl:i=c.xs.length:=by omega
   rw[dQ]at hat;have hat:mV (rD f.ex) env e.t (pX e 1) c.xs l=.ok rs l':=by rw[hat];simp[mV,EvR.bind]
   rw[hat]at hK;have hK:EvB w0 w p m f M look G (.ok (lV rs) l') K:=hK;have hx18d:=hxd w18;have hE18d:=hE18.next hx18d;have sd18:w18.drew.heap.size=w18.heap.size:=rfl;refine bU.cut (λst w'=>Chg (PM p m) w18 w'/\Ev w0 w' p m f M look l') ?_ ?_
   ·rw[dI];refine dX (off:=3) hE18d.pp rfl ?_;refine dX (off:=1) (hx18d.at hb318 id) rfl ?_;refine YM hE18d λw27 hE27 hc27 hz27=>?_;have hc1827:Chg (PM p m) w18 w27:=(Chg.of_ext hx18d).then hc27 λk _ e=>.inr e;rw[bS];refine⟨λhth=>?_,λhth=>⟨hc1827,hE27.congr λs=>?_⟩⟩
    ·rw[dI];have hx27d:=hxd w27;have hE27d:=hE27.next hx27d;have hc1827d:=hc1827.then hx27d λ_ _ e=>e.elim;refine dX (off:=3) hE27d.pp rfl ?_;refine dX (off:=1) (hc1827d.at hb318 (pmlt (by omega))) rfl ?_;refine bX (hc1827d.at hb618 (pmlt (by omega))) hwo.1 ?_;refine Kb hE27d λw28 hE28 hc28 hz28=>⟨hc1827d.then hc28 λk _ e=>.inr e,hE28.congr λs=>?_⟩;unfold BH;by_cases es:s=e.t
     ·rw[aH es,es,hwz,aH hth,hwl]
     ·rw[aD es];show(if s=e.t then none else lki s)=_;rw[aD es,hlki s es]
    ·show(if s=e.t then none else lki s)=_;by_cases es:s=e.t
     ·rw[aH es,es,hwz,aD (by rw[hth];simp)]
     ·rw[aD es,hlki s es]
   rintro st g4 w29 ⟨hc29,hE29⟩;have hb829:=hc29.at hq8 (pmlt (by omega));have hb429:=hc29.at hb418 (pmlt (by omega));refine bX hb829 rfl ?_;have hR29:pO (λq=>(G q/\q≠b4)/\q≠b8) w29 w16.heap.size rv rs:=hR.chg hc29 (λk hk _=>zY hp hm hk.1.1) λk hk _=>pmlt (by omega);have hnew:∀q,w16.heap.size<=q->(G q/\q≠b4)/\q≠b8:=λq hq=>⟨⟨hG q (by omega),by omega⟩,by omega⟩;have hI29:jD (λq=>G q/\q≠b4) w29 rv rs:=(hR29.items hnew (by omega)).mono λq _ hq=>hq.1;exact fin (hcW.trans hc29) hE29 hb429 hI29.list hl' (hK.ok rfl)
end
structure Js[HX](ex:List Ex):Prop where
 ok:sE ex
 sh:∀e∈ex,aAG e
 call:∀e∈ex,e.k=12->BY e.t e.args.length
 obj:∀e∈ex,e.k=8->ObC
 cnd:∀e∈ex,e.k=28->QF
theorem Mk{ex:List Ex}(h:sE ex){env:Env}{left l:Nat}{v:JV}(hr:rD ex i env left=.ok v l):dL v=true:=by
 have hr:sG ex (i+1) i env left=.ok v l:=hr;rw[sG]at hr;cases he:ex[i]? with
 |none=>rw[he]at hr;cases hr
 |some e=>
  rw[he]at hr;simp only[wC]at hr;split at hr
  ·cases hr
  ·cases hb:rZ (sG ex i) ex e env (left-1)with
   |err c a=>rw[hb]at hr;cases hr
   |ok u q=>
    rw[hb]at hr;simp only[EvR.bind]at hr;split at hr
    ·rename_i hg;cases hr;exact hg
    ·cases hr
section
variable [HX]
theorem QK{f:Fl}{M:Lay}{p m:Nat}{w0:World}(hT:sD w0)(hX:Js f.ex)(hfew:f.ex.length<=1000000):∀(i:Nat),i<f.ex.length->Wt w0 p m f M i:=by
 intro i;induction i using Nat.strongRecOn with
 |ind i ih=>
 intro hi env look left G w K hE hN hp hm hG hl hK;obtain⟨e,he⟩:∃e,f.ex[i]?=some e:=⟨_,List.getElem?_eq_getElem hi⟩;have hmem:=bK he;have ho:=hX.sh e hmem;have hahead:=hX.ok.ahead i e he;have hV:∀a∈e.args,Wt w0 p m f M a:=λa ha=>ih a (hahead a ha) (by have:=hahead a ha;omega);have hin:∀a∈e.args,a<f.ex.length:=λa ha=>by have:=hahead a ha;omega
 have hstep:rD f.ex i env left=wC (rD f.ex) f.ex e env left:=xC hX.ok he (by omega) env left;rw[hstep]at hK;refine aAm ?_;unfold W35;refine bG λb4 w1 hb4 hz1 hbb4 hx1=>?_;have hE1:=hE.next hx1;have hlt:=hE.lt;have h0:=hE.ext.size;rw[dI,bP];refine dX (off:=0) hE1.pp rfl ?_;refine hE.fv.get hE1.ext he λec hec=>?_;obtain⟨va,vk,rfl,hva,hvk⟩:=hec.it;refine bG λb5 w2 hb5 hz2 hbb5 hx2=>?_;refine cG (l:=[i64 e.k,str e.t,va,vk,i64 e.a]) hbb5 rfl rfl (by
  show(true&&(true&&(gH va&&(gH vk&&(true&&true)))))=true;rw[tY hva,tY hvk];rfl) λw3 hz3 hbb53 hc3=>?_
 have hx13:Ext w1 w3:=hx2.new hc3 (by omega);have hx3:=hx1.trans hx13;have hE3:=hE1.next hx13;have hb43:=hx13.at hbb4 id;have pmlt:∀{q:Nat},w.heap.size<=q->¬PM p m q:=λ{q} h e=>by rcases e with e|e<;>omega
 unfold wC at hK;refine bU.cut (λst w'=>w'=w3/\left≠0) ?_ ?_
 ·rw[dI];refine dX (off:=4) hE3.pp rfl ?_;rw[bL,aM];refine⟨λh=>?_,λh=>⟨rfl,by omega⟩⟩;rw[aH (by omega)]at hK;refine dX (off:=4) hbb53 rfl ?_;exact kQ hE3.ext hK
 rintro st g w6 ⟨rfl,hl0⟩;rw[aD hl0]at hK;rw[dI];refine dX (off:=4) hE3.pp rfl ?_;rw[nB,cK (by omega) (by omega),show((left:Int)-1)=((left-1:Nat):Int)by omega,dI,bP];refine iT (off:=4) hE3.pp rfl (by simp) λw7 hz7 hb7 hc7=>?_;have hE7:Ev w0 w7 p m f M look (left-1):=⟨hE3.ext.then hc7 λk hk e=>by have e:k=p:=e;have:=hE.hp;omega,by rw[hb7];simp,hE3.mm.at_ hc7 (λe=>hE.ne e.symm),hE.fv,hE.hp,hE.hm,hE.ne⟩;have hb47:=hc7.at hb43 (λe=>by have e:b4=p:=e;omega);have hb57:=hc7.at hbb53 (λe=>by have e:b5=p:=e;omega);refine bG λb6 w8 hb6 hz8 hbb6 hx8=>?_;have hE8:=hE7.next hx8;have hb48:=hx8.at hb47 id;have hb58:=hx8.at hb57 id;have hc8:Chg (PM p m) w w8:=((Chg.of_ext hx3).then hc7 λk _ e=>.inl e).then hx8 λ_ _ e=>e.elim;have s3:=hx3.size;have s8:=hc8.size;have l5:=eW hbb53;have l6:=eW hbb6;have hN8:fY (λq=>(G q/\q≠b4)/\q≠b6) w8 look env:=(hN.mono (G':=λq=>(G q/\q≠b4)/\q≠b6) λq hlt hq=>⟨⟨hq,by omega⟩,by omega⟩).chg hc8 λk hk _=>zY hp hm hk.1.1;have hp8:¬((G p/\p≠b4)/\p≠b6):=λe=>hp e.1.1;have hm8:¬((G m/\m≠b4)/\m≠b6):=λe=>hm e.1.1;have hG8:∀q,w8.heap.size<=q->(G q/\q≠b4)/\q≠b6:=λq hq=>⟨⟨hG q (by omega),by omega⟩,by omega⟩;generalize hB:rZ (rD f.ex) f.ex e env (left-1)=B at hK;refine bU.cut (λst w'=>∃v l cs,B=.ok v l/\l<=20000/\Chg (PM p m) w w'/\Ev w0 w' p m f M look l/\w'.heap[b6]?=some (.cells cs.toArray VT (0,0))/\cs.length=5/\cO (λq=>G q/\q≠b4) w' v cs/\w'.heap[b4]?=some (.cells zr5.toArray VT (0,0))/\w'.heap[b5]?=some (.cells [i64 e.k,str e.t,va,vk,i64 e.a].toArray 93 (0,0))) ?_ ?_
 ·have fin:∀{v:JV} {l:Nat} {cs:List Value} {w9:World} {J:World->Prop},B=.ok v l->l<=20000->Chg (PM p m) w8 w9->Ev w0 w9 p m f M look l->cO (λq=>(G q/\q≠b4)/\q≠b6) w9 v cs->
    (∀w',(∃v l cs,B=.ok v l/\l<=20000/\Chg (PM p m) w w'/\Ev w0 w' p m f M look l/\w'.heap[b6]?=some (.cells cs.toArray VT (0,0))/\cs.length=5/\cO (λq=>G q/\q≠b4) w' v cs/\w'.heap[b4]?=some (.cells zr5.toArray VT (0,0))/\w'.heap[b5]?=some (.cells [i64 e.k,str e.t,va,vk,i64 e.a].toArray 93 (0,0)))->J w')->
    stW 5 (.pointer (some ⟨b6,0,none⟩)) (.agg cs.toArray) w9 J:=λ{v l cs w9 J} hb hl9 hc9 hE9 hr9 hJ=>by
   have hb69:=hc9.at hbb6 (pmlt (by omega));refine cG hb69 hr9.rep.len rfl hr9.rep.all_one λw10 hz10 hb610 hc10=>?_;refine hJ w10 ⟨v,l,cs,hb,hl9,(hc8.trans hc9).then hc10 (λk hk e=>by have e:k=b6:=e;omega),hE9.mv hc10 (λk _ e=>by have e:k=b6:=e;exact⟨by omega,by omega,by omega⟩),hb610,hr9.rep.len,?_,?_,?_⟩
   ·exact(cO.chg hc10 (λq hq _ e=>hq.2 e) hr9).mono λq _ hq=>hq.1
   ·exact hc10.at (hc9.at hb48 (pmlt (by omega))) λe=>by have e:b4=b6:=e;omega
   ·exact hc10.at (hc9.at hb58 (pmlt (by omega))) λe=>by have e:b5=b6:=e;omega
  refine dX (off:=0) hb58 rfl ?_;unfold rZ at hB;rw[bL,aM];refine⟨λe28=>?_,λe28=>?_⟩
  ·refine bX hb58 rfl ?_;rw[aH e28]at hB;refine(hX.cnd e hmem e28) ⟨⟨va,vk,rfl,hva,hvk⟩⟩ hE8 hN8 (ho.a3 e28) hV hp8 hm8 hG8 (by omega) ?_;rw[hB];cases B with
   |err c a=>exact hK
   |ok v l=>
    intro cs w9 hc9 hE9 hr9 hl9;exact fin rfl hl9 hc9 hE9 hr9 λw' h=>h
  rw[aD e28]at hB;rw[bL,aM];refine⟨λe29=>?_,λe29=>?_⟩
  ·refine bX hb58 rfl ?_;rw[aH e29]at hB;refine YP ⟨⟨va,vk,rfl,hva,hvk⟩⟩ hE8 hN8 (ho.a2 (.inr (.inl e29))) hV hp8 hm8 hG8 (by omega) ?_ (λa env l v l' h=>Mk hX.ok h);rw[hB];cases B with
   |err c a=>exact hK
   |ok v l=>
    intro cs w9 hc9 hE9 hr9 hl9;exact fin rfl hl9 hc9 hE9 hr9 λw' h=>h
  rw[aD e29]at hB;refine dX (off:=2) hb58 rfl ?_;rw[fR (hva.ext hE8.ext)];refine cZ.go (λst w'=>∃(i:Nat) (rv:Value) (rs:List JV) (l':Nat),st=[rv,i64 (i:Nat)]/\i<=e.args.length/\rs.length=i/\(∀x∈rs,dL x=true)/\Chg (λq=>PM p m q\/w8.heap.size<=q) w8 w'/\Ev w0 w' p m f M look l'/\l'<=20000/\pO (λq=>(G q/\q≠b4)/\q≠b6) w' w8.heap.size rv rs/\
    oQ (rD f.ex) env e.args (left-1)=(oQ (rD f.ex) env (e.args.drop i) l').bind λys l2=>.ok (rs++ys) l2)
   (λst _=>match st with|[_,.int _ i]=>e.args.length-i.toNat|_=>0)
   ⟨0,.slice none 0 0,[],left-1,rfl,fW _,rfl,λx hx=>by simp at hx,Chg.refl _ _,hE8,by omega,pO.nil _ _ _,by rw[cV];cases oQ (rD f.ex) env e.args (left-1)<;>rfl⟩ ?_
  rintro st g2 w15 ⟨j,rv,rs,l',rfl,hj,hrl,hrg,hc15,hE15,hl15,hR,hat⟩;simp only[aF,cW];have s15:=hc15.size;have hcP:Chg (PM p m) w8 w15:=hc15.mono λk hk e=>by rcases e with e|e;exact e;omega
  rw[dW,aM];refine⟨λhlt2=>?_,λhge=>?_⟩
  ·have hlt2:j<e.args.length:=by omega
   obtain⟨a,ha⟩:∃a,e.args[j]?=some a:=⟨_,List.getElem?_eq_getElem hlt2⟩;have hdr:e.args.drop j=a::e.args.drop (j+1):=by rw[cD hlt2];congr 1;exact(List.getElem?_eq_some_iff.1 ha).2
   rw[hdr]at hat;simp only[oQ]at hat;refine rO (hva.ext hE15.ext) (by simp[ints]) (x:=i64 (a:Nat)) (by simp[ints,ha]) ?_;have hrb:∀q,rv.ownBlock=some q->w8.heap.size<=q/\q<w15.heap.size:=λq e=>hR.inb e;have hN15:fY (λq=>((G q/\q≠b4)/\q≠b6)/\rv.ownBlock≠some q) w15 look env:=
    ((hN8.mono (G':=λq=>((G q/\q≠b4)/\q≠b6)/\q<w8.heap.size) λq hlt hq=>⟨hq,hlt⟩).chg hcP λk hk _=>zY hp hm hk.1.1.1).mono λq _ hq=>⟨hq.1,λe=>by have:=(hrb q e).1;have:=hq.2;omega⟩
   refine hV a (bK ha) hE15 hN15 (λe=>hp e.1.1.1) (λe=>hm e.1.1.1) (λq hq=>⟨hG8 q (by omega),λe=>by have:=(hrb q e).2;omega⟩) hl15 ?_;cases hr2:rD f.ex a env l' with
   |err c' a'=>
    rw[hr2]at hat;simp only[EvR.bind]at hat;rw[hat]at hB;rw[<-hB]at hK;exact hK
   |ok y l2=>
    rw[hr2]at hat;intro ys w16 hc16 hE16 h16 hg16 hl16;refine EO h16.rep.len λt46 w17 ht17 hx17=>?_;have hc1517:=hc16.then hx17 λ_ _ e=>e.elim;have s17:=hc1517.size;have hR17:pO (λq=>(G q/\q≠b4)/\q≠b6) w17 w8.heap.size rv rs:=hR.chg hc1517 (λk hk _=>zY hp hm hk.1.1) λk hk _=>pmlt (by omega);have hal:=ho.al;refine hR17.app ht17 (h16.ext' hx17) (by omega) (by omega) λrv' w18 hR18 hc18=>?_;rw[cA,up1 (by omega)];refine⟨⟨j+1,rv',rs++[y],l2,rfl,hlt2,by simp[hrl],?_,?_,?_,hl16,hR18,?_⟩,by simp only[aV];omega⟩
    ·intro x hx;rcases eH.1 hx with h|h
     ·exact hrg x h
     ·rw[bR]at h;rw[h];exact hg16
    ·exact hc15.trans ((hc1517.mono λk _ e=>.inl e).then hc18 λk _ e=>.inr (hrb k e).1)
    ·exact(hE16.next hx17).mv hc18 λk _ e=>by have:=(hrb k e).1;exact⟨by omega,by omega,by omega⟩
    ·rw[hat];simp only[EvR.bind];cases oQ (rD f.ex) env (e.args.drop (j+1)) l2<;>simp
  ·obtain rfl:j=e.args.length:=by omega
   rw[dQ]at hat;have hat:oQ (rD f.ex) env e.args (left-1)=.ok rs l':=by rw[hat];simp[oQ,EvR.bind]
   rw[hat]at hB;simp only[EvR.bind]at hB;have hb515:=hcP.at hb58 (pmlt (by omega));refine bX hb515 rfl ?_;have hal:=ho.al;have hN15:fY (λq=>(G q/\q≠b4)/\q≠b6) w15 look env:=hN8.chg hcP λk hk _=>zY hp hm hk.1.1;refine YO (G:=λq=>(G q/\q≠b4)/\q≠b6) (hT.ext hE15.ext) ⟨⟨va,vk,rfl,hva,hvk⟩⟩ hE15 hN15 (hR.items hG8 (by omega)) hrg ho hrl hin e28 e29 (hX.call e hmem) (hX.obj e hmem) (λq hq=>hG8 q (by omega)) ?_;cases hr:nS f.ex e env rs with
   |err c a=>rw[hr]at hB;rw[<-hB]at hK;exact hK
   |ok v=>
    rw[hr]at hB;intro cs w19 hx19 h19;exact fin hB.symm hl15 (hcP.then hx19 λ_ _ e=>e.elim) (hE15.next hx19) h19 λw' h=>h
 rintro st g w21 ⟨v,l,cs,hb,hl21,hc21,hE21,hb621,hlen,hr21,hb421,hb521⟩;rw[hb]at hK;simp only[EvR.bind]at hK;refine bU.cut (λst w'=>Ext w21 w'/\dL v=true) ?_ ?_
 ·refine bX hb621 hlen ?_;refine Gi hr21.rep λw23 hx23=>?_;rw[eD,bS];refine⟨λh=>?_,λh=>⟨hx23,by simpa using h⟩⟩;have h:dL v=false:=by simpa using h
  rw[aD (by rw[h];simp)]at hK;refine dX (off:=4) (hx23.at hb521 id) rfl ?_;exact kQ (hE21.next hx23).ext hK
 rintro st g2 w25 ⟨hx25,hgv⟩;rw[aH hgv]at hK;refine bX (hx25.at hb621 id) hlen ?_;refine WJ (hx25.at hb421 id) rfl (hr21.ext' hx25) λw27 hc27 h27=>?_;refine hK cs w27 ((hc21.then hx25 λ_ _ e=>e.elim).then hc27 λk hk e=>by have e:k=b4:=e;omega) ((hE21.next hx25).mv hc27 λk _ e=>by have e:k=b4:=e;exact⟨by omega,by omega,by omega⟩) h27 hgv hl21
end
abbrev aC8:TypeId:=53
theorem EP{w:World}:∀{xs:List JV} {L:List Value},(∀x∈xs,∀cs,fV w x cs->cO (λ_=>True) w x cs)->gI w xs L->dB (λ_=>True) w xs L
 |[],L,_,h=>by simpa only[gI,dB]using h
 |x::xs,L,hx,h=>by
  simp only[gI,dB]at h⊢
  obtain⟨c,r,rfl,h1,h2⟩:=h
  exact⟨c,r,rfl,hx x bC c h1,EP (λy hy=>hx y (aS _ hy)) h2⟩
theorem Rj(v:JV):∀cs,fV w v cs->cO (λ_=>True) w v cs:=by
 induction v using JV.ind' with
 |h v ih=>
  intro cs h;obtain⟨sv,kv,T1,T2,L,rfl,h1,h2,h3,h4⟩:=h.out;exact cO.mk h1 (EP ih h2) h3 h4 (λ_ _ _=>trivial) λ_ _ _=>trivial
theorem IK{k:Str}{x:JV}:∀(ks:List Str) (xs:List JV),ks.length=xs.length->∀s,rV (ks++[k]) (xs++[x]) s=((rV ks xs).set k x) s
 |[],[],_,s=>by simp[rV,Env.set]
 |a::ks,y::xs,h,s=>by
  have ih:=IK (k:=k) (x:=x) ks xs (by simpa using h) s
  show(match rV (ks++[k]) (xs++[x]) s with|some v=>some v|none=>if s=a then some y else none)=_
  rw[ih]
  unfold Env.set
  by_cases e:s=k
  ·rw[aH e,aH e]
  ·rw[aD e,aD e];rfl
 |[],y::xs,h,_=>by simp at h
 |a::ks,[],h,_=>by simp at h
theorem Jk(v:Value)(w:World):(Instr.typeAssert (.iface 33 v) 20 33 false).run P0 w=.ok v w:=by kernel_rfl
theorem MS(w:World)(K:Value->Prop):eqQ P0 .neq 20 false true .nilIface .nilIface w K↔K (.bool false):=by
 have h:(do eqGuard .neq 20 (qA false) (qA true) .nilIface .nilIface;binOp .neq 20 .nilIface .nilIface:Sem Value).run P0 w=.ok (.bool false) w:=by kernel_rfl
 unfold eqQ mS;rw[h];exact⟨λ⟨v,h1,h2⟩=>by cases h1;exact h2,λh2=>⟨_,rfl,h2⟩⟩
theorem Ib(v:Value)(w:World)(K:Value->Prop):eqQ P0 .neq 20 false true (.iface 33 v) .nilIface w K↔K (.bool true):=by
 have h:(do eqGuard .neq 20 (qA false) (qA true) (.iface 33 v) .nilIface;binOp .neq 20 (.iface 33 v) .nilIface:Sem Value).run P0 w=.ok (.bool true) w:=by kernel_rfl
 unfold eqQ mS;rw[h];exact⟨λ⟨v,h1,h2⟩=>by cases h1;exact h2,λh2=>⟨_,rfl,h2⟩⟩
theorem Nr{a b:Value}{K:World->Prop}(hK:K w):vV P0 34 [a,b] .returning w K:=by
 letI:=noX;refine Qz .idle ?_;unfold R34;rw[MS,cX];exact hK
theorem IJ{a b d:Nat}{Ta Tb:TypeId}{K:World->Prop}(ha:w.heap[a]?=some (.cells cs.toArray Ta (0,0)))(hl:cs.length=5)(hb:w.heap[b]?=some (.cells [v].toArray Tb (0,0)))(hab:a≠b)
  (hK:∀w',Chg (λk=>k=a\/k=b) w w'->w'.heap[a]?=some (.cells zr5.toArray Ta (0,0))->w'.heap[b]?=some (.cells [.pointer (some ⟨d,0,none⟩)].toArray Tb (0,0))->K w'):
  vV P0 34 [.pointer (some ⟨a,0,none⟩),.pointer (some ⟨b,0,none⟩)] (.panicking [{v:=.iface 33 (.pointer (some ⟨d,0,none⟩)),recovered:=false}]) w K:=by
 letI:=noX;refine Qz (.thrown _) ?_;unfold R34;rw[Ib,dR,cU];refine⟨_,Jk _ _,?_⟩;refine cG (l:=zr5) (w:=w.drew) ha rfl hl rfl λw2 hz2 ha2 hc2=>?_;refine⟨⟨_,Jk _ _,rfl⟩,?_⟩;have hb2:=hc2.at (w:=w.drew) hb (λe=>hab e.symm);refine iT hb2 rfl (by simp) λw3 hz3 hb3 hc3=>?_;refine hK w3 ?_ (hc3.at ha2 hab) (by rw[hb3];simp);exact((Chg.drew (Chg.refl _ w)).trans (hc2.mono λk _ e=>.inl e)).trans (hc3.mono λk _ e=>.inr e)
theorem Lp{b:Nat}{K:Value->Prop}(hb:w.heap[b]?=some (.cells [v].toArray T (0,0)))(hK:K v):ldW false 1 (.pointer (some ⟨b,0,none⟩)) w K:=by
 rw[dM];exact⟨v,by rw[cC,hb];rfl,hK⟩
def AA(G:Nat->Prop)(w:World)(cs:List Value)(d:Value):MdR JV->Prop
 |.ok v=>cO G w v cs/\d=.pointer none/\dL v=true
 |.err c a=>cs=zr5/\∃b,d=.pointer (some ⟨b,0,none⟩)/\w.heap[b]?=some (.cells [i64 c,str [],i64 a].toArray aC8 (0,0))
theorem AA.ext{d:Value}{r:MdR JV}(h:AA G w cs d r)(hx:Ext w w'):AA G w' cs d r:=by
 cases r with
 |ok v=>exact⟨h.1.ext' hx,h.2⟩
 |err c a=>obtain⟨h1,b,h2,h3⟩:=h;exact⟨h1,b,h2,hx.at h3 id⟩
theorem AA.put{c0:List Value}{d:Value}{r:MdR JV}{b:Nat}(h:AA G w cs d r)(hc:Chg (λk=>k=b) w w')(hb:w.heap[b]?=some (.cells c0.toArray VT (0,0)))(hG:¬G b):AA G w' cs d r:=by
 cases r with
 |ok v=>exact⟨cO.chg hc (λk hk _ e=>by have e:k=b:=e;subst e;exact hG hk) h.1,h.2⟩
 |err c a=>
  obtain⟨h1,b',h2,h3⟩:=h;refine⟨h1,b',h2,hc.at h3 λe=>?_⟩;have e:b'=b:=e;subst e;rw[hb]at h3;simp only[bD,Obj.cells.injEq]at h3;exact absurd h3.2.1 (by decide)
theorem AA.mono{G':Nat->Prop}{d:Value}{r:MdR JV}(h:AA G w cs d r)(hG:∀k,G k->G' k):AA G' w cs d r:=by
 cases r with
 |ok v=>exact⟨h.1.mono λk _ hk=>hG k hk,h.2⟩
 |err c a=>exact h
theorem AA.lens{d:Value}{r:MdR JV}(h:AA G w cs d r):cs.length=5/\cs.all gH=true:=by
 cases r with
 |ok v=>exact⟨h.1.rep.len,h.1.rep.all_one⟩
 |err c a=>rw[h.1];exact⟨rfl,rfl⟩
section
variable [HX]
theorem PW{f:Fl}{M:Lay}{v:JV}{K:Q0}(hT:sD w)(hF:FV w M f)(hX:∀[HX],Js f.ex)(hfew:f.ex.length<=1000000)(hi:i<f.ex.length)(hvP:cO G w v cs)(hG:∀q,w.heap.size<=q->G q)(hkx:v.ks.length=v.xs.length)(hfx:∀x∈v.xs,Ao x=true)
  (hK:∀cs' d w',Ext w w'->AA G w' cs' d (vP f i v)->K (.tuple #[.agg cs'.toArray,d]) w'):aC P0 14 [.agg [M.vE,M.vB,M.vT].toArray,i64 (i:Nat),.agg cs.toArray] w K:=by
 refine aAz ?_;unfold W14;refine fS (z:=[M.vE,M.vB,M.vT]) λb3 w1 hb3 hz1 hbb3 hx1=>?_;have hv:=hvP.rep;obtain⟨sv,kv,T1,T2,L,rfl,hs1,hs2,hs3,hs4⟩:=hv.out;obtain⟨ft1,ft2,ft3,ft4⟩:=hs4;refine fS (z:=[i64 v.k,.bool v.b,str v.t,sv,kv]) λb5 w2 hb5 hz2 hbb5 hx2=>?_;refine bG λb6 w3 hb6 hz3 hbb6 hx3=>?_;refine bG λb7 w4 hb7 hz4 hbb7 hx4=>?_;have hx04:=hx1.trans (hx2.trans (hx3.trans hx4));have hb34:=(hx2.trans (hx3.trans hx4)).at hbb3 id;have hb54:=(hx3.trans hx4).at hbb5 id;have hb64:=hx4.at hbb6 id;have s04:=hx04.size;letI inst:HX:=⟨λch x5=>vV P0 34 [.pointer (some ⟨b6,0,none⟩),.pointer (some ⟨b7,0,none⟩)] (.panicking ch) x5 λw5=>
  ldW true 5 (.pointer (some ⟨b6,0,none⟩)) w5 λr6=>
  ldW false 1 (.pointer (some ⟨b7,0,none⟩)) w5 λr7=>
  K (.tuple #[r6,r7]) w5⟩
 have hThr:∀c a,vP f i v=.err c a->KV w4 c a:=λc a hr d w' hx hd hdb=>by
  refine IJ (hx.at hb64 id) rfl (hx.at hbb7 id) (by omega) λw5 hc5 ha5 hb5'=>?_;refine bX ha5 rfl ?_;refine Lp hb5' ?_;have sx:=hx.size;refine hK zr5 _ w5 ((hx04.trans hx).then hc5 λk hk e=>by omega) ?_;rw[hr];exact⟨rfl,d,rfl,hc5.at hdb (by have:w4.heap.size<=d:=hd;omega)⟩
 refine bX hb34 rfl ?_;refine Ii (KT:=ST) (ET:=VT) (by kernel_rfl) (.inl rfl) λm w8 hm8 hz8 hmb hx8=>?_;obtain⟨pE,cE,eE,_⟩:=hF.oE.shape;obtain⟨pB,cB,eB,_⟩:=hF.oB.shape;obtain⟨pT,cT,eT,_⟩:=hF.oT.shape;have hput:∀{K:List Value->Prop},K [M.vE,M.vB,M.vT,.map (some m),i64 20000]->dD [(.slice none 0 0),(.slice none 0 0),(.slice none 0 0),(.map none),(.int .i64 0)] [(0,3,.agg [M.vE,M.vB,M.vT].toArray),(3,1,.map (some m)),(4,1,(.int .i64 20000))] K:=λ{K} h=>by
  refine⟨by simp[Value.cells],by simp,?_⟩;refine⟨by simp[Value.cells],by simp[Value.cells],?_⟩;refine⟨by simp[Value.cells],by simp[Value.cells],?_⟩;simpa[Value.cells,cU]using h
 refine hput ?_;refine fS (z:=[M.vE,M.vB,M.vT,.map (some m),i64 20000]) λp w10 hp hz10 hpp hx10=>?_;have hx410:=hx8.trans hx10;have hx010:=hx04.trans hx410;have hE10:Ev w4 w10 p m f M (λ_=>none) 20000:=⟨hx410,hpp,(Pg hmb).at_ hx10 id,hF.ext hx04,by have:=hx8.size;omega,by omega,by omega⟩;have hb510:=hx410.at hb54 id;refine dX (off:=4) hb510 rfl ?_;rw[fR hs3];have hvG:cO (λq=>G q/\q<w.heap.size) w v [i64 v.k,.bool v.b,str v.t,sv,kv]:=hvP.mono λq hlt hq=>⟨hq,hlt⟩;have hI:jD (λq=>G q/\q<w.heap.size) w sv v.xs:=hvG.its;have hmp:w.heap.size<=m/\w.heap.size<=p:=by have:=hx8.size;exact⟨by omega,by omega⟩
 refine cZ.go (λst w'=>∃(j:Nat) (look:Str->Option Value),st=[i64 (j:Nat)]/\j<=v.ks.length/\Ext w w'/\Ev w4 w' p m f M look 20000/\fY (λq=>G q/\q<w.heap.size) w' look (rV (v.ks.take j) (v.xs.take j))/\Ext w4 w')
  (λst _=>match st with|[.int _ j]=>v.ks.length-j.toNat|_=>0)
  ⟨0,λ_=>none,rfl,fW _,hx010,hE10,λs=>by simp[rV],hx410⟩ ?_
 rintro st g w12 ⟨j,look,rfl,hj,hx12,hE12,hN12,hx412⟩;simp only[aF];rw[dW,aM];refine⟨λhlt=>?_,λhge=>?_⟩
 ·have hlt:j<v.ks.length:=by omega
  obtain⟨k,hk⟩:∃k,v.ks[j]?=some k:=⟨_,List.getElem?_eq_getElem hlt⟩;obtain⟨x,hxj⟩:∃x,v.xs[j]?=some x:=⟨_,List.getElem?_eq_getElem (by omega)⟩;refine pG (hs3.ext hx12) hk ?_;have hxd:Ext w12 w12.drew:=Chg.drew (Chg.refl (λ_=>False) w12);have hEd:=hE12.next hxd;have hb5d:=(hx412.trans hxd).at hb54 id;rw[dI];refine dX (off:=3) hEd.pp rfl ?_;refine dX (off:=3) hb5d rfl ?_;refine(hI.ext (hx12.trans hxd)).get hxj λxs hxs=>?_;refine Kb hEd λw13 hE13 hc13 hz13=>?_;rw[cA,up1 (by omega)];have hc1213:Chg (λq=>q=m) w12 w13:=(Chg.of_ext hxd).trans hc13;refine⟨⟨j+1,_,rfl,hlt,hx12.then hc1213 λq hq e=>by have e:q=m:=e;omega,hE13,?_,hx412.then hc1213 λq hq e=>by have e:q=m:=e;omega⟩,by simp only[aV];omega⟩;have hN13:fY (λq=>G q/\q<w.heap.size) w13 look (rV (v.ks.take j) (v.xs.take j)):=hN12.chg hc1213 λq hq _ e=>by have e:q=m:=e;have:=hq.2;omega
  have hx13:cO (λq=>G q/\q<w.heap.size) w13 x xs:=cO.chg hc13 (λq hq _ e=>by have e:q=m:=e;have:=hq.2;omega) hxs;have h2:=hN13.set (t:=k) hx13 (hfx x (bK hxj));have e1:v.ks.take (j+1)=v.ks.take j++[k]:=by rw[eP,hk];rfl
  have e2:v.xs.take (j+1)=v.xs.take j++[x]:=by rw[eP,hxj];rfl
  intro s;have h3:=h2 s;rw[e1,e2,IK _ _ (by rw[cI,cI];omega)];exact h3
 ·obtain rfl:j=v.ks.length:=by omega
  rw[bM,hkx,bM]at hN12;have hlt:=hE12.lt;have b67:w4.heap.size=b7+1:=by omega
  refine QK (hT.ext hx04) hX hfew i hi hE12 (G:=λq=>G q/\q≠p/\q≠m/\q≠b6/\q≠b7) (hN12.mono λq _ hq=>⟨hq.1,by have:=hq.2;omega,by have:=hq.2;omega,by have:=hq.2;omega,by have:=hq.2;omega⟩) (λe=>e.2.1 rfl) (λe=>e.2.2.1 rfl) (λq hq=>by have:=hx412.size;exact⟨hG q (by omega),by omega,by omega,by omega,by omega⟩) (aU _) ?_;have hev:vP f i v=match rD f.ex i (rV v.ks v.xs) 20000 with|.ok v _=>.ok v|.err c a=>.err c a:=rfl
  cases hr:rD f.ex i (rV v.ks v.xs) 20000 with
  |err c a=>rw[hr]at hev;exact hThr c a hev
  |ok u l=>
   rw[hr]at hev;intro us w14 hc14 hE14 hu hgu hl14;have sp:∀{b:Nat},b<w4.heap.size->¬PM p m b:=λ{b} h e=>by have:=hE12.hp;have:=hE12.hm;rcases e with e|e<;>omega
   have hb614:=hc14.at (hx412.at hb64 id) (sp (by omega));have hb714:=hc14.at (hx412.at hbb7 id) (sp (by omega));refine cG hb614 hu.rep.len rfl hu.rep.all_one λw15 hz15 hb615 hc15=>?_;have hb715:=hc15.at hb714 λe=>by have e:b7=b6:=e;omega
   refine iT hb715 rfl (by simp) λw16 hz16 hb716 hc16=>?_;have hb616:=hc16.at hb615 λe=>by have e:b6=b7:=e;omega
   refine Nr ?_;refine bX hb616 hu.rep.len ?_;refine Lp (v:=.pointer none) (by rw[hb716];rfl) ?_;refine hK us _ w16 ?_ ?_
   ·refine((hx12.then hc14 λq hq e=>?_).then hc15 λq hq e=>?_).then hc16 λq hq e=>?_
    ·have:=hx04.size;have:=hE12.hp;have:=hE12.hm;rcases e with e|e<;>omega
    ·have e:q=b6:=e;omega
    ·have e:q=b7:=e;omega
   ·rw[hev];refine⟨?_,rfl,hgu⟩;exact(cO.chg hc16 (λq hq _ e=>hq.2.2.2.2 e) (cO.chg hc15 (λq hq _ e=>hq.2.2.2.1 e) hu)).mono λq _ hq=>hq.1
end
structure TabE(w:World):Prop where
 f:sD w
 i:wZ w
theorem TabE.ext(h:TabE w)(hx:Ext w w'):TabE w':=by
 haveI:HX:=noX;refine⟨h.f.ext hx,?_⟩;obtain⟨m,hm⟩:=h.i;exact⟨m,xW hx hm⟩
theorem Rh{size off:Nat}{k:IntKind}{u:Value}{K:Value->Prop}(h:SlAt w T v n cs)(hl:cs.length=n*size)(hi:i<n)(ho:off<size)(hu:cs[i*size+off]?=some u)(hK:K u):dV none size v (.int k i) λp=>aY off p λq=>ldW false 1 q w K:=by
 refine tO h hl (by omega) hi λb o c fr hb hcc=>?_;rw[bP,dM];refine⟨u,?_,hK⟩;rw[bY,cC,hb,cN,hcc off ho];exact hu
theorem HC{size off:Nat}{k:IntKind}{u:Value}{K:Value->Value->Prop}(h:SlAt w T v n cs)(hl:cs.length=n*size)(hi:i<n)(ho:off<size)(hu:cs[i*size+off]?=some u)(hK:∀q,(∀w',Ext w w'->ldW false 1 q w' λx=>x=u)->K q u):dV none size v (.int k i) λp=>aY off p λq=>ldW false 1 q w (K q):=by
 refine tO h hl (by omega) hi λb o c fr hb hcc=>?_;have hc:c[o+off]?=some u:=(hcc off ho).trans hu;rw[bP,dM];refine⟨u,?_,hK _ λw' hx=>?_⟩
 ·rw[bY,cC,hb,cN];exact hc
 ·rw[bY,dM];exact⟨u,by rw[cC,hx.at hb id,cN];exact hc,rfl⟩
def fl1(ex:List Ex)(i:Nat)(a:Int):Fl:=⟨ex,[⟨[97],[],[⟨[120],i,a⟩],[],0⟩],[0]⟩
section
variable [HX]
theorem OT{tx:Str}{ex:List Ex}{v:JV}{K:Q0}(hT:TabE w)(htx:tx.length<=100000)(hpx:parseM (BB tx)=.ok (fl1 ex i 6))(hX:∀[HX],Js ex)(hi:i<ex.length)(hv:fV w v cs)(hkx:v.ks.length=v.xs.length)(hfx:∀x∈v.xs,Ao x=true)
  (hK:∀cs' d w',Ext w w'->AA (λ_=>True) w' cs' d (vP (fl1 ex i 6) i v)->K (.tuple #[.agg cs'.toArray,d,.bool true]) w'):aC P0 21 [str tx,.agg cs.toArray] w K:=by
 refine aAv ?_;unfold W21;obtain⟨sv,kv,_,_,_,rfl,_⟩:=hv.out;refine fS (z:=[i64 v.k,.bool v.b,str v.t,sv,kv]) λb3 w1 hb3 hz1 hbb3 hx1=>?_;refine bG λb4 w2 hb4 hz2 hbb4 hx2=>?_;rw[sA];refine⟨by simp only[aA,aL];show(_:Int)<=9223372036854775807;omega,?_⟩;rw[sA];refine⟨by simp only[aA,aL,bE];show(_:Int)<=9223372036854775807;omega,?_⟩;have hx02:=hx1.trans hx2;refine Tr (t:=BB tx) (hT.ext hx02).i (by unfold BB;simp only[bE,aA,aL];omega) λM d w3 hx3 hF3 hd3 hfew=>?_;rw[hpx]at hF3 hd3 hfew;have hd3:d=.pointer none:=hd3;subst hd3;have hfl:No (.ok (fl1 ex i 6))=fl1 ex i 6:=rfl;rw[hfl]at hF3 hfew;have hfv:=hF3.fv;simp only[bJ];refine⟨_,rfl,_,rfl,?_⟩;obtain⟨p1,c1,e1,_⟩:=hF3.oE.sl.shape;obtain⟨p2,c2,e2,_⟩:=hF3.oB.sl.shape;obtain⟨p3,c3,e3,_⟩:=hF3.oT.sl.shape;refine bG λb7 w4 hb7 hz4 hbb7 hx4=>?_;refine cG (l:=[M.vE,M.vB,M.vT]) hbb7 rfl rfl (by rw[e1,e2,e3];rfl) λw5 hz5 hbb75 hc5=>?_;have hx35:Ext w3 w5:=hx4.new hc5 (by omega);have hfv5:=hfv.ext hx35;have hx05:=hx02.trans (hx3.trans hx35);have enil:∀K:Value->Prop,K (.bool false)->eqW .ptr true (.pointer none) (.pointer none) K:=λK h=>h;refine enil _ ?_;refine GdW.look false (λ_ J hJ=>?_) λg=>?_
 ·refine dX (off:=1) hbb75 rfl ?_;rw[fR hfv5.oB,fL];exact hJ
 simp only[aF,kL];rw[eR,Bool.or_false];obtain⟨vl,va,vb,ec,_,ha5,_⟩:=hfv5.bb.2 0 ⟨[97],[],[⟨[120],i,6⟩],[],0⟩ rfl;have hattr:∀{w':World} {k:IntKind} {K:Value->Prop},Ext w5 w'->K va->dV none 5 M.vB (.int k 0) λp=>aY 2 p λq=>ldW false 1 q w' K:=λ{w' k K} hx h=>by
  have:=hfv5.bb.1;refine Rh (i:=0) (u:=va) (hfv5.oB.ext hx) hfv5.bb.1 (by show 0<1;omega) (by omega) ?_ h;have:=congrArg (λl:List Value=>l[2]?) ec;simpa[List.getElem?_take,List.getElem?_drop]using this
 have hlenB:(fl1 ex i 6).bl.length=1:=rfl;refine GdW.look false (λ_ J hJ=>?_) λg2=>?_
 ·refine dX (off:=1) hbb75 rfl ?_;refine hattr (Chg.refl _ _) ?_;rw[fR ha5,fL];exact hJ
 simp only[aF,kL];rw[eR,Bool.or_false,cX];have hxd:Ext w5 w5.drew:=Chg.drew (Chg.refl (λ_=>False) w5);have hx0d:=hx05.trans hxd;have hb3d:=(hx2.trans (hx3.trans (hx35.trans hxd))).at hbb3 id;have hb4d:=(hx3.trans (hx35.trans hxd)).at hbb4 id;have hb7d:=hxd.at hbb75 id;have l4:=eW hbb4;refine bU.cut (λst w'=>∃cs' d b9,st=[d,.pointer (some ⟨b9,0,none⟩)]/\Ext w5.drew w'/\w'.heap[b9]?=some (.cells cs'.toArray VT (0,0))/\cs'.length=5/\cs'.all gH=true/\AA (λq=>q≠b4) w' cs' d (vP (fl1 ex i 6) i v)) ?_ ?_
 ·refine bX hb7d rfl ?_;refine dX (off:=1) hb7d rfl ?_;refine HC (i:=0) (u:=va) ((hfv5.oB).ext hxd) hfv5.bb.1 (by show 0<1;omega) (by omega) (by
   have:=congrArg (λl:List Value=>l[2]?) ec;simpa[List.getElem?_take,List.getElem?_drop]using this) λq1 hq1=>?_
  refine HC (i:=0) (u:=i64 (i:Nat)) (ha5.ext hxd) rfl (by show 0<1;omega) (by omega) rfl λq2 hq2=>?_;refine bX hb3d rfl ?_;have hvd:cO (λq=>q<w.heap.size) w5.drew v [i64 v.k,.bool v.b,str v.t,sv,kv]:=((Rj v _ hv).mono (G':=λq=>q<w.heap.size) λq hlt _=>hlt).ext' hx0d;have sd:w.heap.size<=w5.drew.heap.size:=hx0d.size;have l4d:=eW hb4d;refine⟨?_,?_⟩
  ·refine PW (hT.ext hx0d).f (hfv5.ext hxd) hX (by have:=hfew.1;show ex.length<=1000000;have:ex.length<=100000:=hfew.1;omega) hi (G:=λq=>q≠b4) (hvd.mono λq _ hq=>by omega) (λq hq=>by omega) hkx hfx λcs' d w14 hx14 hM=>?_;simp only[bJ];refine⟨_,rfl,_,rfl,?_⟩;refine nH hM.lens.1 hM.lens.2 λb9 w16 hb9 hz16 hbb9 hx16=>?_;exact⟨cs',d,b9,rfl,hx14.trans hx16,hbb9,hM.lens.1,hM.lens.2,hM.ext hx16⟩
  ·refine bG λb9 w17 hb9 hz17 hbb9 hx17=>?_;refine⟨bX (hx17.at hb3d id) rfl rfl,hq2 w17 hx17,hq1 w17 hx17,dX (off:=1) (hx17.at hb7d id) rfl rfl,bX (hx17.at hb7d id) rfl rfl,?_⟩;refine PW (hT.ext (hx0d.trans hx17)).f ((hfv5.ext hxd).ext hx17) hX (by have:ex.length<=100000:=hfew.1;show ex.length<=1000000;omega) hi (G:=λq=>q≠b4/\q≠b9) ((hvd.ext' hx17).mono λq _ hq=>⟨by omega,by omega⟩) (λq hq=>⟨by omega,by omega⟩) hkx hfx λcs' d w18 hx18 hM=>?_;simp only[bJ];refine⟨_,rfl,_,rfl,?_⟩;refine cG (hx18.at hbb9 id) hM.lens.1 rfl hM.lens.2 λw19 hz19 hb919 hc19=>?_;exact⟨cs',d,b9,rfl,(hx17.trans hx18).new hc19 (by omega),hb919,hM.lens.1,hM.lens.2,(hM.put hc19 (hx18.at hbb9 id) (λe=>e.2 rfl)).mono λq hq=>hq.1⟩
 rintro st g3 w20 ⟨cs',d,b9,rfl,hx20,hb9,hl9,ho9,hM⟩;simp only[aF,cW];refine bX hb9 hl9 ?_;refine cG (hx20.at hb4d id) hl9 rfl ho9 λw21 hz21 hb421 hc21=>?_;refine bX hb421 hl9 ?_;have hx21:Ext w w21:=(hx0d.trans hx20).new hc21 (by omega);exact hK cs' d w21 hx21 ((hM.put hc21 (hx20.at hb4d id) (λe=>e rfl)).mono λ_ _=>trivial)
end
def exB(e:Ex):Bool:=decide (1<=e.k/\e.k<=30)&&decide (e.k=10\/e.k=30\/e.k=13\/e.k=14->1<=e.args.length)&&decide (e.k=11\/e.k=29\/15<=e.k/\e.k<=27->2<=e.args.length)&&decide (e.k=28->3<=e.args.length)&&e.keys.all (λs=>decide (s.length<=100000))&&decide (e.t.length<=100000)&&decide (e.args.length<=90000)
theorem Zf{e:Ex}(h:exB e=true):aAG e:=by
 simp only[exB,aJ,bB,bN]at h;obtain⟨⟨⟨⟨⟨⟨h1,h2⟩,h3⟩,h4⟩,h5⟩,h6⟩,h7⟩:=h;exact⟨h1,h2,h3,h4,h5,h6,h7⟩
theorem Ko{c:Bool}{A:(Value->Prop)->Prop}{B:Value->Prop}(hc:c=true)(hA:A (λx=>x=v))(hB:B v):GqW c A B:=by
 subst hc;exact(QC A B).2 ⟨v,hA,hB⟩
theorem Kt{c:Bool}{A:(Q0)->Prop}{B:Q0}(hc:c=true)(hA:A B):GeW c w A B:=by
 subst hc;exact⟨λ_=>hA,λe=>Bool.noConfusion e⟩
abbrev noV:JV:=.mk 6 false [] [] []
section
variable [HX]
theorem GR{ex:List Ex}(h:sE ex)(hs:ex.all exB=true)(hc:∀e∈ex,e.k=12->BY e.t e.args.length)(ho:∀e∈ex,e.k=8->ObC)(hn:∀e∈ex,e.k=28->QF):Js ex:=⟨h,λe he=>Zf (bN.1 hs e he),hc,ho,hn⟩
theorem Cm{ex:List Ex}(h:(ex.all λe=>decide (e.k≠28))=true):∀e∈ex,e.k=28->QF:=λe he h8=>by
 have:=bN.1 h e he
 simp[h8]at this
theorem GE{ex:List Ex}(h:(ex.all λe=>decide (e.k≠8))=true):∀e∈ex,e.k=8->ObC:=λe he h8=>by
 have:=bN.1 h e he
 simp[h8]at this
theorem GF{ex:List Ex}(h:(ex.all λe=>decide (e.k≠12))=true):∀e∈ex,e.k=12->BY e.t e.args.length:=λe he h12=>by
 have:=bN.1 h e he
 simp[h12]at this
theorem WQ{tx:Str}{ex:List Ex}{v x:JV}{ds:List Value}{K:Q0}(hT:TabE w)(htx:tx.length<=100000)(hpx:parseM (BB tx)=.ok (fl1 ex i 6))(hX:∀[HX],Js ex)(hi:i<ex.length)(hv:fV w v cs)(hd:fV w x ds)(hkx:v.ks.length=v.xs.length)(hfx:∀x∈v.xs,Ao x=true)
  (he:vP (fl1 ex i 6) i v=.ok x)(hK:∀w',Ext w w'->K (.bool true) w'):aC P0 20 [str tx,.agg cs.toArray,.agg ds.toArray] w K:=by
 refine aAw ?_;unfold W20;refine jV hv λb4 w1 sv kv hB4 hx1 _=>?_;refine jV (hd.ext hx1) λb5 w2 sv5 kv5 hB5 hx2 _=>?_;refine(hB4.ext hx2).ld λcs4 hcs4=>?_;have hx02:=hx1.trans hx2;refine OT (hT.ext hx02) htx hpx hX hi hcs4 hkx hfx λcs3 d w3 hx3 hM=>?_;rw[he]at hM;obtain⟨hM,rfl,_⟩:=hM;simp only[bJ];refine⟨_,rfl,_,rfl,_,rfl,?_⟩;refine nH hM.rep.len hM.rep.all_one λb7 w5 hb7 hz5 hbb7 hx5=>?_;have enil:∀K:Value->Prop,K (.bool true)->eqW .ptr false (.pointer none) (.pointer none) K:=λK h=>h;refine GdW.look true (λ_ J hJ=>?_) λg=>?_
 ·exact enil _ hJ
 simp only[gX,aO,aF,lS];have hM5:=hM.rep.ext hx5;have hx25:=hx3.trans hx5;refine GdW.act true (λw'=>Ext w w') (λe=>by cases e) (λ_ J hJ=>?_) λg2 w' hx'=>?_
 ·refine bX hbb7 hM.rep.len ?_;refine(hB5.ext hx25).ld λcs5 hcs5=>?_;refine Ox x hM5 hcs5 λw6 hx6=>?_;rw[(same_iff x x).2 rfl];exact hJ _ (hx02.trans (hx25.trans hx6))
 simp only[aO,aF,lS];exact hK w' hx'
theorem Qv{K:Q0}(hT:TabE w)(hK:∀w',Ext w w'->K (.bool true) w'):aC P0 9 [] w K:=by
 refine aBA ?_;unfold W9;simp only[dA,cU,aA,aL,aW,aZ];refine⟨by omega,?_⟩;have hno:∀w,fV w noV (flat 6 false []):=λw=>(iJ (G:=λ_=>True) (by simp)).rep;refine nH (cs:=flat 6 false []) rfl rfl λb1 w3 hb1 hz3 hbb1 hx3=>?_;refine bX hbb1 rfl ?_;refine OT (hT.ext hx3) (tx:=Wz) (ex:=DK) (i:=2) (by decide) aAY (GR (tF (by decide)) (by decide) (GF (by decide)) (GE (by decide)) (Cm (by decide))) (by decide) (hno w3) rfl (by simp[JV.xs]) λcs d w4 hx4 hM=>?_;rw[Np (f:=fl1 DK 2 6) (QH _) (by decide)]at hM;obtain⟨rfl,bd,rfl,hbd⟩:=hM;simp only[bJ];refine⟨_,rfl,_,rfl,_,rfl,?_⟩;refine nH (cs:=zr5) rfl rfl λb2 w6 hb2 hz6 hbb2 hx6=>?_;have hxd:Ext w6 w6.drew:=Chg.drew (Chg.refl (λ_=>False) w6);have hx3d:=hx4.trans (hx6.trans hxd);refine bX (hx3d.at hbb1 id) rfl ?_;refine Py (n:=7) (by decide) (by decide) λw7 hx7=>?_;refine⟨bX ((hx3d.trans hx7).at hbb1 id) rfl rfl,?_⟩;have h7:Lib.itoa 7=[55]:=by decide+kernel
 rw[h7];have hx37:=hx3d.trans hx7;refine WQ (x:=nV [55]) (hT.ext (hx3.trans hx37)) (tx:=WB) (ex:=IG) (i:=4) (by decide) aA0 (GR (tF (by decide)) (by decide) (GF (by decide)) (GE (by decide)) (Cm (by decide))) (by decide) (hno w7) (iJ (G:=λ_=>True) (by simp)).rep rfl (by simp[JV.xs]) ?_ λw8 hx8=>?_
 ·have:=Be (f:=fl1 IG 4 6) (i:=4) (scope:=noV) (QJ _) (by decide);rw[this];show MdR.ok (nV (Lib.itoa 7))=_;rw[h7]
 have hx38:=hx37.trans hx8;refine Ko (gX true) (bX (hx38.at hbb1 id) rfl rfl) ?_;refine Kt (gX true) ?_;refine Mr λw11 hx11=>?_;refine⟨λ_=>bX ((hx38.trans hx11).at hbb1 id) rfl rfl,?_⟩;refine Kt (gX true) ?_;refine WQ (x:=tV [97,49,116,114,117,101]) (hT.ext (hx3.trans (hx38.trans hx11))) (tx:=WA) (ex:=BU) (i:=3) (by decide) aAZ (GR (tF (by decide)) (by decide) (GF (by decide)) (GE (by decide)) (Cm (by decide))) (by decide) (hno w11) (iJ (G:=λ_=>True) (by simp)).rep rfl (by simp[JV.xs]) ?_ λw13 hx13=>?_
 ·exact Be (f:=fl1 BU 3 6) (i:=3) (scope:=noV) (QI _) (by decide)
 rw[lS];refine Ko (gX true) rfl ?_;rw[lS];refine Ko (gX true) rfl ?_;refine Kt (gX true) ?_;have hx613:Ext w4 w13:=hx6.trans (hxd.trans (hx7.trans (hx8.trans (hx11.trans hx13))));refine aBe (r:=.bad 10 12) ⟨bd,rfl,hx613.at hbd id⟩ ?_;rw[lS];exact hK w13 (hx3.trans (hx4.trans hx613))
end
section
variable [HX]
theorem ML{a:List JV}(h:∀x∈a,dL x=true):(GA a).length<=a.length*2000:=by
 unfold GA;induction a with
 |nil=>simp
 |cons x a ih=>
  have h1:=ih λy hy=>h y (aS _ hy);have h2:=Kq (h x bC);simp only[dT,List.flatten_cons,bE,List.length_zip,aA];omega
theorem Jb{name:Str}{f:FnM}{g:FuncId}(n:Nat)(hn:n<=40)(hf:tE fnX name=some (f,g))(hd:QE g f):BY name n:=λ{a sv w K} hl hg hT hI hK=>
 Ux (λf' g' h=>by rw[hf]at h;cases h;exact hd) hT hI (by omega) (λ_=>by have:=ML hg;rw[hl]at this;omega) hK
end
theorem Ul{f:Fl}{s:Nat}{scope v:JV}(h:jK f.ex i (rV scope.ks scope.xs) v s)(hs:20000<s):∃a,vP f i scope=.err 3 a:=by
 obtain⟨a,ha⟩:=h.no 20000 hs;exact⟨a,by unfold vP;rw[ha]⟩
theorem Oe:∀n:Fin 33,(jF n.val).all exB=true:=by decide+kernel
theorem Og:∀n:Fin 33,((jF n.val).all λe=>decide (e.k≠8))=true:=by decide+kernel
theorem Mt:∀n:Fin 33,((jF n.val).all λe=>decide (e.k≠28))=true:=by decide+kernel
theorem Qd(n:Nat):(Ei n).length<=2:=by unfold Ei;split<;>simp
section
variable [HX]
theorem Uy:BY [114,97,110,103,101] 1:=Jb 1 (by omega) rfl Qb
theorem Qo:BY [108,101,110,103,116,104] 1:=Jb 1 (by omega) rfl Nu
theorem QY(n:Nat):∀e∈jF n,e.k=12->BY e.t e.args.length:=by
 intro e he h12;unfold jF at he;simp only[bW,eY,sH]at he;rcases he with rfl|rfl|rfl|rfl|rfl|rfl|rfl|rfl|rfl|rfl|rfl|rfl
 all_goals first|exact Uy|exact Qo|exact absurd h12 (by decide)|(revert h12;simp)
theorem steps_true{a:Int}{K:Q0}(hT:TabE w)(_ha:-9223372036854775808<=a/\a<=9223372036854775807)(hK:∀w',Ext w w'->K (.bool true) w'):aC P0 6 [i64 a] w K:=by
 refine aBB ?_;unfold W6;refine Qv hT λw1 hx1=>?_;rw[eD,jO,cX,mE,Cw];refine⟨by decide,?_⟩;obtain⟨n,hn,en⟩:=aAP (a:=a) (m:=33) (by omega) (by omega);rw[mE,show IntKind.i64.wrap ((IntKind.u64.wrap a).tmod 33)=(n:Int)from en];refine BV (by omega) (by omega) λw2 hx2=>?_;rw[AZ (by omega)];have hl2:=Qd n;rw[sA];refine⟨by simp only[aA,aL];show(_:Int)<=9223372036854775807;omega,?_⟩;rw[sA];refine⟨by simp only[aA,aL,bE];show(_:Int)<=9223372036854775807;omega,?_⟩;simp only[dA,cU,aA,aL,aW,aZ];refine⟨by omega,?_⟩;have hx02:=hx1.trans hx2;obtain⟨v,hvl,hsay⟩:=QX (n:=n) (by omega) (rV noV.ks noV.xs);refine OT (v:=noV) (cs:=flat 6 false []) (hT.ext hx02) (tx:=NS n) (ex:=jF n) (i:=11) (by unfold NS;simp only[bE,aA,aL];omega) (aA1 ⟨n,hn⟩) (GR (tF (by unfold jF;rfl)) (Oe ⟨n,hn⟩) (QY n) (GE (Og ⟨n,hn⟩)) (Cm (Mt ⟨n,hn⟩))) (by unfold jF;simp) (iJ (G:=λ_=>True) (by simp)).rep rfl (by simp[JV.xs]) λcs d w4 hx4 hM=>?_;simp only[bJ];refine⟨_,rfl,_,rfl,_,rfl,?_⟩;have hlen:=hM.lens;refine nH hlen.1 hlen.2 λb4 w6 hb4 hz6 hbb4 hx6=>?_;have hx06:=hx02.trans (hx4.trans hx6);rw[Cx,cA,cK (n:=(n:Int)*1156) (by omega) (by omega),cK (n:=3+(n:Int)*1156) (by omega) (by omega),eD,jO,cX,qK,aM];refine⟨λhle=>?_,λhgt=>?_⟩
 ·rw[Be (f:=fl1 (jF n) 11 6) hsay (by omega)]at hM;obtain⟨hM,rfl,_⟩:=hM;have enil:∀K:Value->Prop,K (.bool true)->eqW .ptr false (.pointer none) (.pointer none) K:=λK h=>h;refine enil _ ?_;obtain⟨sv,kv,T1,T2,L,rfl,h1,h2,h3,h4⟩:=hM.rep.out;refine GdW.look true (λ_ J hJ=>?_) λg=>?_
  ·refine dX (off:=3) hbb4 rfl ?_;rw[fR h1,hvl,bL,bF rfl];exact hJ
  simp only[gX,aO,aF,lS];exact hK _ hx06
 ·obtain⟨a',ha'⟩:=Ul (f:=fl1 (jF n) 11 6) (i:=11) hsay (by omega);rw[ha']at hM;obtain⟨rfl,b,rfl,hb⟩:=hM;have enil:∀K:Value->Prop,K (.bool true)->eqW .ptr true (.pointer (some ⟨b,0,none⟩)) (.pointer none) K:=λK h=>h;refine enil _ ?_;have hb6:=hx6.at hb id;refine GdW.look true (λ_ J hJ=>?_) λg=>?_
  ·rw[dI];refine dX (off:=0) hb6 rfl ?_;rw[bL,bF rfl];exact hJ
  simp only[gX,aO,aF,lS];exact hK _ hx06
end
end
section
open Go Go.RowKit Go.Eng Go.Deep
variable{w:World}{K:Q0}{cs:List Value}{G:Nat->Prop}{T:TypeId}{i:Nat}{n:Nat}{v:Value}{w':World}{P:Program}{c:UInt8}{S:Nat->Prop}
theorem Kw{name:String}{k:IntKind}{zs:List Int}{g:Nat}{t e:TypeId}(hg:P.globalNamed name=some g)(hty:(P.globals[g]?).map (·.type)=some t)(ht:P.underlying t=some (.array n e))(he:P.underlying e=some (.int k))(hce:P.cellsOf e=1)(hct:P.cellsOf t=n)
  (h:Lib.VarReads P w name (Lib.tabData k zs)):Lib.TabIs P w name k zs:=by
 obtain⟨g',t',cs,fuel,p,hg',ht',hvar,hd⟩:=h;obtain rfl:=fO (hg.symm.trans hg');obtain rfl:=fO (hty.symm.trans ht');unfold Lib.TabIs;rw[hvar,<-Lib.cells_of_tab ht he hce hct hd]
theorem Iw{fuel:Nat}{t:TypeId}{s:String}{x:DataW Unit}{p:List MemPlace}{m:Array TypeId}(ht:∃m,P.underlying t=some (.interface m))(h:DataW.trod (λ_=>()) P w 0 (λ_=>true) false fuel t cs=some (.iface s x,p)):∃u v,cs=[.iface u v]:=by
 obtain⟨m,ht⟩:=ht;cases fuel with
 |zero=>cases h
 |succ fuel=>
  unfold DataW.trod at h;rw[ht]at h
  match cs,h with
  |[],h=>cases h
  |[v],h=>
   cases v with
   |iface u v=>exact⟨u,v,rfl⟩
   |_=>cases h
  |a::b::r,h=>simp at h
theorem Ix{nm:String}{g:Nat}{x:DataW Unit}{s:String}(hg:Tryz.prog.globalNamed nm=some g)(hty:(Tryz.prog.globals[g]?).map (·.type)=some 118)(h:Lib.VarReads P0 w nm (.iface s x)):∃T v,w.cell? ⟨g,0,none⟩=some (.iface T v):=by
 obtain⟨g',t',cs,fuel,p,hg',ht',hvar,hd⟩:=h;obtain rfl:=fO (hg.symm.trans hg');obtain rfl:=fO (hty.symm.trans ht');obtain⟨u,v,hcs⟩:=Iw (m:=#[]) ⟨_,Tryz.underlying118⟩ hd;have:=World.var?_cell hg hvar 0;refine⟨u,v,?_⟩;rw[this];have e:cs=#[.iface u v]:=by
  apply AC;rw[hcs]
 rw[e];rfl
theorem QU(hL:laidMetH P0 Rows.evalNumbersRow.laid w)(hsh:w.ShapedOpen P0):sD w:=by
 have h:laidMet P0 Rows.evalNumbersRow.laid w:=by
  rw[Go.MakeChecks.laidMetH_plain _ _ _ (by kernel_rfl)]at hL;exact hL
 have r:∀n d,(n,d)∈Rows.evalNumbersRow.laid->Lib.VarReads P0 w n d:=λn d hm=>Lib.laidMet.reads h hm;have r2:Lib.VarReads P0 w "internal/strconv.uint64pow10" (Lib.tabData .u64 Lib.pow10Tab):=r _ _ (.tail _ (.tail _ (.head _)));have r4:Lib.VarReads P0 w "strconv.ErrRange" Rows.laid_strconv_ErrRange:=r _ _ (.tail _ (.tail _ (.tail _ (.tail _ (.head _)))));have r5:Lib.VarReads P0 w "strconv.ErrSyntax" Rows.laid_strconv_ErrSyntax:=r _ _ (.tail _ (.tail _ (.tail _ (.tail _ (.tail _ (.head _))))));refine⟨?_,Ix (by kernel_rfl) (by kernel_rfl) r5,Ix (by kernel_rfl) (by kernel_rfl) r4,?_⟩
 ·exact Kw (g:=5) (t:=271) (e:=209) (n:=20) (by kernel_rfl) (by kernel_rfl) (by kernel_rfl) (by kernel_rfl) (by kernel_rfl) (by kernel_rfl) r2
 ·exact Go.Proofs.cell_of_shapedOpen_int (t:=3) (zero:=#[.int .i64 0]) hsh (of_decide_eq_true (by kernel_rfl)) (by kernel_rfl) rfl (by kernel_rfl) (by kernel_rfl) Tryz.underlying3
theorem tabe_of(hL:laidMetH P0 Rows.evalNumbersRow.laid w)(hsh:w.ShapedOpen P0):TabE w:=
 ⟨QU hL hsh,Go.Proofs.cell_of_shapedOpen_int (t:=3) (zero:=#[.int .i64 0]) hsh (of_decide_eq_true (by kernel_rfl)) (by kernel_rfl) rfl (by kernel_rfl) (by kernel_rfl) Tryz.underlying3⟩
theorem handed_and_shaped{H:Type}{enc:TypeId×Value->H}{a:Assume}{C:Checked}{os:Os}{f:FuncId}{fn:Func}{s:ChangeSpec}{conds:List PathCond}{apart fresh handsOn again:Bool}{X:World->Array Value->Prop}
  (hX:∀(w w':World) (args:Array Value),w.heap=w'.heap->X w args->X w' args)
  (own:ownKnob C.prog.godebug=none)(started:os.Started)(noInit:C.prog.inits.idxOf? f=none)(hfn:C.prog.funcs[f]?=some fn)
  (witness:∃(w:World) (tape:Tape) (i:Input),w.os=os/\(w.forCall tape i).Shaped C.prog/\i.vars=[]/\Input.okWide C.prog (w.forCall tape i) .any w.heap.size f i/\
    ((s.pre enc C.prog fn conds apart (w.forCall tape i).memory i.args/\X (w.forCall tape i).memory i.args)/\sizedMet enc C.prog fn (OpenSpec.ofChange s) apart (w.forCall tape i).memory i.args)/\a.holds C.prog (lone (Frame.enter C.prog f i.args .normal) [] (w.forCall tape i)))
  (contract:∀(W:World) (base:Nat) (args:Array Value) (ds gs:List (DataW H)) (before:List MemPlace),
    (∀(j:Nat) t v,fn.params[j]?=some t->args[j]?=some v->Value.okWide C.prog W .any base t v)->
    DataW.Whole enc C.prog fn.params.toList s.vars apart W args.toList ds gs before->
    conds.all (PathCond.test C.prog ⟨fn.params.toList,ds,s.plain.varTypes C.prog,gs⟩)=true->
    (DataW.weightsEach C.prog (fn.params.toList++s.plain.varTypes C.prog) (ds++gs)).all (· <=reachBytes)=true->X W args->W.ShapedOpen C.prog->
    a.holds C.prog (lone (Frame.enter C.prog f args .normal) [] W)->
    Calls C.prog f args W λe W'=>∃v,e=.returned v/\s.post enc C.prog fn apart fresh handsOn again W args v W'):
  ReturnsInHanded a C os f .any (λw args=>(s.pre enc C.prog fn conds apart w args/\X w args)/\sizedMet enc C.prog fn (OpenSpec.ofChange s) apart w args) (s.post enc C.prog fn apart fresh handsOn again):=by
 refine returnsInHanded_of_calls own started noInit witness ?_;intro w tape i _ hsh _ hok hpre hholds;obtain⟨_,_,_,fn',hfn',_,_,_,_,hval⟩:=hok;have e:fn'=fn:=fO (hfn'.symm.trans hfn);subst e;obtain⟨⟨⟨ds,gs,before,hw,hc⟩,hx⟩,hz⟩:=hpre;have hw':=DataW.Whole.of_heap (w':=w.forCall tape i) (by rfl) hw;refine(contract (w.forCall tape i) w.heap.size i.args ds gs before hval hw' hc (hz.weights hw) (hX _ _ _ (by rfl) hx) hsh hholds).mono λe W' ⟨v,he,hp⟩=>?_;subst he;exact ChangeSpec.post_blind hp
section
variable{H:Type}{enc:TypeId×Value->H}{w:World}{base:Nat}{spare:Nat->Bool}{held:Bool}
theorem fopen_i{d:DataW H}{ps:List MemPlace}{r:Reach}{b0:Nat}(hval:Value.okWide P0 w r b0 3 v)(h:DataW.Trod enc P0 w base spare held 3 v d ps):∃n:Int,v=i64 n/\-9223372036854775808<=n/\n<=9223372036854775807:=by
 obtain⟨n,rfl,_,_,hw⟩:=Go.ChangeShapes.open_int Tryz.underlying3 hval h;refine⟨n,rfl,?_⟩;have e1:IntKind.i64.min=-9223372036854775808:=by decide
 have e2:IntKind.i64.max=9223372036854775807:=by decide
 simp only[Lit.wf,aJ,bB,e1,e2]at hw;exact hw
end
end
end Go.Proofs.YtghhmpppnmoeoaaGreatDoor
