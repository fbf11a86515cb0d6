/- One plain sentence: contracts and plain laws that the claim rests on. Conditions: those that each states. -/
import Derived.RangeFuncNested
import Derived.RangeFuncBound
import Derived.RangeFuncCalls
import Derived.RangeFuncLeaves
import Derived.Shelf.Abstract
import Derived.Shelf.RegionOpen
import Derived.WalkKit
import Derived.OwnWalkIn
import Derived.TacticsInMore
import Derived.LoopNIn
import Derived.LoopIn
import Derived.Test.YtghhmpppnmoeoaaGreatDoorXShapes5
import Derived.RangeFuncFrom
import Derived.Test.YtghhmpppnmoeoaaGreatDoorXShapes3
import Derived.Test.YtghhmpppnmoeoaaGreatDoorRows
import Derived.Below
import Derived.RowKit
import Derived.ChangeMaps5
import Derived.MakeChecks
import Derived.Lib.LaidTab
import Derived.Lib.LaidU8
import Derived.SizedLaws
import Derived.Shelf.Vars
set_option linter.all false
set_option linter.unusedSimpArgs false
set_option linter.unusedVariables false
set_option linter.unusedSectionVars false
set_option maxRecDepth 100000
namespace Go.Proofs.YtghhmpppnmoeoaaGreatDoor
section
open Go Go.RowKit Go.Shelf
attribute [local go_sem] Oper.semAt_some
variable{w:World}{K:Q0}{cs:List Value}{G:Nat->Prop}{T:TypeId}{i:Nat}{n:Nat}{v:Value}{w':World}{P:Program}{c:UInt8}{S:Nat->Prop}
abbrev A9:={x:Nat×Nat//x.1<1000001/\x.2<1000000000}
def mkA(a b:Nat):A9:=⟨(min a 1000000,min b 999999999),by show min a 1000000<1000001;omega,by show min b 999999999<1000000000;omega⟩
theorem RN{a b:Nat}(h1:a<=1000000)(j:b<1000000000):(mkA a b).1=(a,b):=by
 show(min a 1000000,min b 999999999)=(a,b);rw[kP h1,kP (by omega)]
def vI(zs:List Nat)(k:Nat):List A9:=(List.range k).map λj=>mkA (zs.length-1-j) (zs[zs.length-1-j]?.getD 0)
theorem HR(zs:List Nat)(k:Nat):vI zs (k+1)=vI zs k++[mkA (zs.length-1-k) (zs[zs.length-1-k]?.getD 0)]:=by simp[vI,List.range_succ]
theorem Tv(zs:List Nat)(k:Nat):(vI zs k).length=k:=by simp[vI]
def RdB(Bs b off cap:Nat)(zs:List Nat)(W:World):Prop:=W.cell? ⟨Bs,0,none⟩=some (.slice (some ⟨b,off,none⟩) zs.length cap)/\∀j,j<zs.length->W.cell? ⟨b,off+j,none⟩=some (.int .u64 ((zs[j]?.getD 0:Nat):Int))
set_option maxRecDepth 100000 in
set_option maxHeartbeats 2000000 in
theorem Tw(n:Nat)(hn:1<=n)(l Bs b off cap:Nat)(zs:List Nat)(hfew:zs.length<=1000000)(hlim:∀z∈zs,z<1000000000)(Rd:World->Prop)(hRb:∀A,Rd A->RdB Bs b off cap zs A)(Kp:World->World->Prop)(hKp:∀A B,Rd A->Kp A B->Rd B)(J Jx:List A9->World->Prop)
  (hY:∀pre x W,J pre W->pre.length<zs.length->YieldAt Fence.wide (n-1) P0 l #[.int .i64 ((x.1.1:Nat):Int),.int .u64 ((x.1.2:Nat):Int)] W λe W'=>
    (e=.returned (.bool true)/\J (pre++[x]) W'/\Kp W W')\/(e=.returned (.bool false)/\Jx (pre++[x]) W'))
  (W:World)(hR:Rd W)(h0:J [] W):
  CallsIn Fence.wide n P0 253 #[.func (.yield l) #[] #[],.pointer (some ⟨Bs,0,none⟩)] W λe W'=>(∃v,e=.returned v)/\
   ((∃ys,ys=vI zs zs.length/\J ys W')\/(∃pre,(∃k,k<=zs.length/\pre=vI zs k)/\Jx pre W')):=by
 refine callsIn_of_wp Tryz.func253 rfl trivial ?_ rfl;simp only[Tryz.ntmps253,kM,aB,aN,Nat.reduceAdd,Nat.reduceSub,CU,CS,List.push_toArray,DY,fO,dD];have hBs:=(hRb _ hR).1
 gi_wp2
 gi_loopw [3] (λi wr=>((∃m:Nat,i=.int .i64 (m:Int)/\m<zs.length/\J (vI zs (zs.length-1-m)) wr)\/(i=.int .i64 (-1)/\J (vI zs zs.length) wr))/\Rd wr)
  (λi _=>(intOf i+1).toNat)
 case atStart=>
  refine⟨?_,hR⟩;rcases nP zs.length with h|h
  ·right;refine⟨by rw[h];rfl,?_⟩;rw[h];exact h0
  ·left;refine⟨zs.length-1,by congr 1;omega,by omega,?_⟩;rw[show zs.length-1-(zs.length-1)=0 by omega];exact h0
 case round=>
  obtain⟨⟨m,rfl,hm,hJs⟩|⟨rfl,hJs⟩,hRd⟩:=hrel
  ·have hcx:=(hRb _ hRd).2 m hm;have hbx:=(hRb _ hRd).1;have hz:zs[m]?.getD 0=zs[m]:=by simp[hm]
   rw[hz]at hcx;obtain⟨fn,tmps,assign,body,hy,hRn⟩:=hY _ (mkA m zs[m]) wr hJs (by rw[Tv];omega);have em:(mkA m zs[m]).1=(m,zs[m]):=RN (by omega) (hlim _ (BZ hm));rw[em]at hy;dsimp only at hy;have e1:vI zs (zs.length-1-m)++[mkA m zs[m]]=vI zs (zs.length-m):=by
    rw[<-hz,show zs.length-m=zs.length-1-m+1 by omega,HR,show zs.length-1-(zs.length-1-m)=m by omega]
   gi_wp2
   refine hRn.mono ?_;rintro e W3 (⟨rfl,hJ3,hk3⟩|⟨rfl,hJx3⟩)
   ·gi_wp2
    go_roundw
    case rel=>
     refine⟨?_,hKp _ _ hRd hk3⟩;rw[e1]at hJ3;rcases nP m with h|h
     ·right;subst h;exact⟨rfl,hJ3⟩
     ·left;refine⟨m-1,?_,by omega,?_⟩
      ·congr 1;omega
      ·rw[show zs.length-1-(m-1)=zs.length-m by omega];exact hJ3
    case measure=>simp only[intOf];omega
   ·gi_wp2
    refine bodyPost_ret (results_none rfl _ _ _) rfl ?_;rw[e1]at hJx3;exact⟨⟨_,rfl⟩,.inr ⟨_,⟨_,by omega,rfl⟩,hJx3⟩⟩
  ·gi_wp2
   go_end0
   exact⟨⟨_,rfl⟩,.inl ⟨_,rfl,hJs⟩⟩
end
section
open Go Go.Eng Go.Num Go.RowKit Go.Shelf
variable{w:World}{K:Q0}{cs:List Value}{G:Nat->Prop}{T:TypeId}{i:Nat}{n:Nat}{v:Value}{w':World}{P:Program}{c:UInt8}{S:Nat->Prop}
abbrev Qn(w:World):Prop:=uE w
theorem CL{g:FuncId}{args:List Value}{K:Q0}(o:(callFunc g args.toArray).run P w=.ok (.enter g args.toArray) w)(h:@aC noX P g args w K):Calls P g args.toArray w λe w'=>∃v,e=.returned v/\K v w':=by
 letI:=noX;refine(callF_calls o h).mono ?_;rintro e w' j;cases e with
 |returned v=>exact⟨v,rfl,j⟩
 |panicked c=>exact j.elim
 |outgrown=>exact j.elim
theorem aBX{v:Nat}(hT:uE w)(j:v<1000000000):Calls P0 228 #[u64 v,i64 10] w λe w'=>e=.returned (str (Lib.decDigits v))/\Ext w w':=by
 letI:=noX;refine(CL (args:=[u64 v,i64 10]) (Tryz.call228 _ _) (aBW (K:=λx w'=>x=str (Lib.decDigits v)/\Ext w w') hT (by omega) λw' h=>⟨rfl,h⟩)).mono ?_;rintro e w' ⟨x,rfl,rfl,h⟩;exact⟨rfl,h⟩
theorem aDB(hn:n<=1000000):Calls P0 183 #[str [48],i64 (n:Nat)] w λe w'=>e=.returned (str (List.replicate n 48))/\Ext w w':=by
 letI:=noX;refine(CL (args:=[str [48],i64 (n:Nat)]) (Tryz.call183 _ _) (JN (K:=λx w'=>x=str (List.replicate n 48)/\Ext w w') (s:=[48]) (by simp) hn λw' h=>⟨?_,h⟩)).mono ?_
 ·congr 1;induction n with
  |zero=>rfl
  |succ n ih=>rw[DW,iL,ih (by omega)];rfl
 rintro e w' ⟨x,rfl,rfl,h⟩;exact⟨rfl,h⟩
theorem Qt{B b:Nat}{l s:Str}(h:Bld w B b l)(hB:B<=w.heap.size)(hl:l.length+s.length<=140737488355328):Calls P0 66 #[.pointer (some ⟨b,0,none⟩),str s] w λe w'=>(∃v,e=.returned v)/\Bld w' B b (l++s)/\Chg (BCh w B b) w w':=by
 letI:=noX;refine(CL (args:=[.pointer (some ⟨b,0,none⟩),str s]) (Tryz.call66 _ _) (LL (K:=λ_ w'=>Bld w' B b (l++s)/\Chg (BCh w B b) w w') h hB hl λv w' h1 j=>⟨h1,j⟩)).mono ?_;rintro e w' ⟨x,rfl,h⟩;exact⟨⟨x,rfl⟩,h⟩
def tF(L:Nat)(x:A9):Str:=if x.1.1<L-1 then Mo x.1.2 else Lib.decDigits x.1.2
def FY(L:Nat)(pre:List A9):Str:=pre.flatMap (tF L)
theorem Ep(L:Nat)(x:A9):(tF L x).length<=9:=by
 unfold tF;split
 ·exact Nat.le_of_eq (Cm x.2.2).1
 ·exact zI 9 x.1.2 (by have:=x.2.2;omega) (by omega)
theorem LD(L:Nat):∀pre:List A9,(FY L pre).length<=9*pre.length
 |[]=>by simp[FY]
 |x::r=>by
  have:=LD L r
  have:=Ep L x
  simp only[FY,tB,aU,aB]at*
  omega
theorem LC{zs:List Nat}(j:Lim zs)(o:zs.length<=1000000):∀k,k<=zs.length->FY zs.length (vI zs k)=mE (zs.drop (zs.length-k))
 |0,_=>by rw[Nat.sub_zero,eJ];rfl
 |k+1,h=>by
  have hm:zs.length-(k+1)<zs.length:=by omega
  have I:zs[zs.length-1-k]?.getD 0=zs[zs.length-(k+1)]:=by
   rw[show zs.length-1-k=zs.length-(k+1)by omega,List.getElem?_eq_getElem hm];rfl
  have em:(mkA (zs.length-1-k) zs[zs.length-(k+1)]).1=(zs.length-1-k,zs[zs.length-(k+1)]):=RN (by omega) (j _ (BZ hm));rw[HR,I];have ih:=LC j o k (by omega);unfold FY at ih⊢;rw[List.flatMap_append,ih,tB,List.flatMap_nil,eG,cL hm,show zs.length-(k+1)+1=zs.length-k by omega];unfold tF;rw[em];rcases nP k with rfl|J
  ·rw[aE (by show¬zs.length-1-0<zs.length-1;omega),Nat.sub_zero,eJ,Gx];simp[mE]
  ·rw[aJ (by show zs.length-1-k<zs.length-1;omega),Eh (by intro e;have:=eC.1 e;omega)]
def KpT(b:Nat)(A B:World):Prop:=A.heap.size<=B.heap.size/\∀(k:Nat) (c:Array Value) (T:TypeId) (fr:Nat×Nat),A.heap[k]?=some (.cells c T fr)->k≠b->T≠U8->B.heap[k]?=some (.cells c T fr)
theorem KpT.trans{b:Nat}{A B C:World}(h:KpT b A B)(j:KpT b B C):KpT b A C:=⟨cC h.1 j.1,λk c T fr o hb hT=>j.2 k c T fr (h.2 k c T fr o hb hT) hb hT⟩
theorem KpT.ext{b:Nat}{A B:World}(h:Ext A B):KpT b A B:=⟨h.size,λk c T fr j _ _=>h.at j id⟩
theorem KpT.bch{B b:Nat}(h:Chg (BCh w B b) w w'):KpT b w w':=⟨h.size,λk c T fr j hb hT=>BCh.keep h j hb hT⟩
theorem Hp{W W':World}{row:Option Nat}(h:W.grownBy W' row):Chg (λk=>some k=row) W W':=⟨h.os,h.tape,h.output,h.size,λk j hn=>h.block k j hn⟩
def RdT(b Bs bk off cap:Nat)(zs:List Nat)(W:World):Prop:=Bs≠b/\bk≠b/\W.heap[Bs]?=some (.cells #[.slice (some ⟨bk,off,none⟩) zs.length cap] 196 (0,0))/\∃c fr,W.heap[bk]?=some (.cells c U64 fr)/\∀j,j<zs.length->c[off+j]?=some (u64 (zs[j]?.getD 0))
theorem RdT.rdb{b Bs bk off cap:Nat}{zs:List Nat}{W:World}(h:RdT b Bs bk off cap zs W):RdB Bs bk off cap zs W:=by
 obtain⟨_,_,h1,c,fr,J,I⟩:=h;refine⟨by rw[cG,h1];rfl,λj o=>?_⟩;rw[cG,J,cJ];exact I j o
theorem RdT.kp{b Bs bk off cap:Nat}{zs:List Nat}{A B:World}(h:RdT b Bs bk off cap zs A)(j:KpT b A B):RdT b Bs bk off cap zs B:=by
 obtain⟨e1,e2,h1,c,fr,I,o⟩:=h;exact⟨e1,e2,j.2 _ _ _ _ h1 e1 (by decide),c,fr,j.2 _ _ _ _ I e2 (by decide),o⟩
theorem RdT.chg{b Bs bk off cap:Nat}{zs:List Nat}{A B:World}(h:RdT b Bs bk off cap zs A)(j:Chg S A B)(o:∀k c T fr,A.heap[k]?=some (.cells c T fr)->¬S k):RdT b Bs bk off cap zs B:=by
 obtain⟨e1,e2,h1,c,fr,I,J⟩:=h;exact⟨e1,e2,j.at h1 (o _ _ _ _ h1),c,fr,j.at I (o _ _ _ _ I),J⟩
structure TxI(w:World)(p b Bs bk off cap:Nat)(zs:List Nat)(bl:Bool)(acc:Str)(W:World):Prop where
 ext:Ext w W
 bld:Bld W b b acc
 hp:W.heap[p]?=some (.cells #[.bool bl,.slice (some ⟨bk,off,none⟩) zs.length cap] BT (0,0))
 rd:RdT b Bs bk off cap zs W
theorem aB7(a:Option Addr)(len cap:Nat)(w:World):CallsIn Fence.wide 9 P0 227 #[.slice a len cap] w λe w'=>e=.returned (.func (.func 253) #[] #[.pointer (some ⟨w.heap.size,0,none⟩)])/\w'=w.alloc (.cells #[.slice a len cap] 196):=by
 refine callsIn_of_wp Tryz.func227 rfl trivial ?_ rfl;simp only[Tryz.ntmps227,kM,aB,aN,Nat.reduceAdd,Nat.reduceSub,CU,CS,List.push_toArray,DY,fO,dD]
 gi_wp2
 go_ret
 exact⟨rfl,rfl⟩
attribute [local go_sem] Oper.semAt_some
set_option maxHeartbeats 4000000 in
theorem Wx{x:Big}{n:Int}(hT:Qn w)(h:jI w x cs)(hx:ofInt n x)(hl:x.l.length<=900):Calls P0 188 #[.agg cs.toArray] w λe w'=>e=.returned (.tuple #[str (iD n).1,i64 (iD n).2])/\Ext w w':=by
 haveI:HX:=noX;obtain⟨sv,_,rfl,h1,h2,h3⟩:=h;obtain⟨p,cap,rfl,h4,h5,h6⟩:=h1;refine(callsIn_wide (n:=10)).1 ?_;by_cases hz:x.l.length=0
 ·refine callsIn_of_wp Tryz.func188 rfl trivial ?_ rfl;simp only[Tryz.ntmps188,kM,aB,aN,Nat.reduceAdd,Nat.reduceSub,CU,CS,List.push_toArray,DY,fO,dD]
  gi_wp2
  refine bodyPost_ret (results_tmp2 rfl _ _ _) rfl ?_;have hl0:x.l=[]:=bC hz;have hn:n=0:=by rw[<-hx.2];unfold Big.int;rw[hl0];simp[val]
  refine⟨?_,Chg.alloc (Chg.refl _ _) _⟩;have e0:Lib.itoa 0=[48]:=by unfold Lib.itoa;rw[aE (by omega)];exact Og
  have e1:iD 0=([48],0):=by unfold iD;rw[e0];rfl
  rw[hn,e1];rfl
 have hne:x.l.map u64≠[]:=λe=>hz (by rw[<-cD (f:=u64),e];rfl);obtain⟨bk,off,cc,fr,rfl,hbk,hcc⟩:=h6 hne;refine callsIn_of_wp_marks Tryz.func188 rfl trivial ?_ rfl;simp only[Tryz.ntmps188,kM,aB,aN,Nat.reduceAdd,Nat.reduceSub,CU,CS,List.push_toArray,DY,fO,dD];have hz':(x.l.length:Int)≠0:=by omega
 have hf1:Fence.wide.fn 227:=trivial
 gi_wp2_with (gi_at_call 227;refine(aB7 _ _ _ _).mono ?_;rintro e w' ⟨rfl,rfl⟩)
 generalize hzs:x.l=zs at*
 obtain⟨W3,hW3⟩:∃W3,(((w.alloc (.cells #[.bool x.below,.slice (some ⟨bk,off,none⟩) zs.length cap] BT)).alloc (.cells #[.pointer none,.slice none 0 0] BdT)).alloc (.cells #[.slice (some ⟨bk,off,none⟩) zs.length cap] 196))=W3:=⟨_,rfl⟩;rw[hW3];have hbkl:=fA hbk;have hs3:W3.heap.size=w.heap.size+3:=by rw[<-hW3];simp
 have hx3:Ext w W3:=by rw[<-hW3];exact Chg.alloc (Chg.alloc (Chg.alloc (Chg.refl _ _) _) _) _
 have g0:W3.heap[w.heap.size]?=some (.cells #[.bool x.below,.slice (some ⟨bk,off,none⟩) zs.length cap] BT (0,0)):=by
  rw[<-hW3,Aj _ _ _ (by simp;omega),Aj _ _ _ (by simp)];exact gN _ _ _ rfl
 have g1:W3.heap[w.heap.size+1]?=some (.cells #[.pointer none,.slice none 0 0] BdT (0,0)):=by
  rw[<-hW3,Aj _ _ _ (by simp)];exact gN _ _ _ (by simp)
 have g2:W3.heap[w.heap.size+1+1]?=some (.cells #[.slice (some ⟨bk,off,none⟩) zs.length cap] 196 (0,0)):=by
  rw[<-hW3];exact gN _ _ _ (by simp)
 have hrd3:RdT (w.heap.size+1) (w.heap.size+1+1) bk off cap zs W3:=by
  refine⟨by omega,by omega,g2,cc,fr,hx3.at hbk id,λj hj=>?_⟩;have:=hcc j (by rw[cD];exact hj);rw[this,List.getElem?_map,List.getElem?_eq_getElem hj];rfl
 have hI3:TxI w w.heap.size (w.heap.size+1) (w.heap.size+1+1) bk off cap zs x.below [] W3:=⟨hx3,⟨_,_,g1,.inl rfl,⟨by simp[u8s],.inl ⟨rfl,rfl⟩⟩,aV _⟩,g0,hrd3⟩;refine wpIn_rangeFunc_ownF (F:=Fence.wide) rfl (by decide) (gf:=253) (lb:=#[.pointer (some ⟨w.heap.size+1+1,0,none⟩)]) rfl trivial (enters_of Tryz.func253 (by kernel_rfl) rfl)
  (encs:=λx:A9=>#[.int .i64 ((x.1.1:Nat):Int),.int .u64 ((x.1.2:Nat):Int)]) (Kp:=KpT (w.heap.size+1)) (S:=λxs=>xs=vI zs zs.length) (Sp:=λpre=>∃k,k<=zs.length/\pre=vI zs k) (N:=zs.length) (w0:=W3)
  (λl J Jx W hW hJ hJx hY h0=>?seq) (λh h'=>h.trans h') (λW l o o' hl ho hc _=>?kb) (Below.refl _ _) (λ_=>rfl)
  (λpre W=>TxI w w.heap.size (w.heap.size+1) (w.heap.size+1+1) bk off cap zs x.below (FY zs.length pre) W)
  (λ_ _ _=>False) (λpre A B row hs hg hr=>?own) (λ_ _ _ _ _ hs _ _=>hs) hI3
  (λy=>{tmps:=#[.agg #[.bool x.below,.slice (some ⟨bk,off,none⟩) zs.length cap],.pointer (some ⟨w.heap.size,0,none⟩),.string ⟨#[]⟩,.int .i64 0,.pointer (some ⟨w.heap.size+1,0,none⟩),.int .i64 ((y.1.1:Nat):Int),.int .u64 ((y.1.2:Nat):Int),undef,
    .pointer (some ⟨w.heap.size,1,none⟩),.slice (some ⟨bk,off,none⟩) zs.length cap,.int .i64 (zs.length:Nat),.bool false,.pointer (some ⟨w.heap.size,1,none⟩),.slice (some ⟨bk,off,none⟩) zs.length cap,.func (.func 253) #[] #[.pointer (some ⟨w.heap.size+1+1,0,none⟩)],
    .int .i64 ((y.1.1:Nat):Int),.int .u64 ((y.1.2:Nat):Int),undef,undef,undef,undef,undef,undef,undef,undef,undef,undef,undef,undef,undef,undef,undef,undef,undef,undef,undef,undef,undef,undef,undef],defers:=[]}) ?assign ?body ?done ?stop
 case seq=>
  refine Tw 9 (by decide) l (w.heap.size+1+1) bk off cap zs (by omega) h3 (RdT (w.heap.size+1) (w.heap.size+1+1) bk off cap zs) (λA hA=>hA.rdb) (KpT (w.heap.size+1)) (λA B hA hk=>hA.kp hk) J Jx hY W ?_ h0;exact hrd3.kp ⟨hW.size,λk c T fr hk _ _=>(hW.block k (fA hk)).trans hk⟩
 case kb=>
  refine⟨by simp[World.putObj],λk c T fr hk hb hT=>?_⟩;have hne:k≠l:=λe=>by subst e;rw[ho]at hk;cases hk;cases hc
  rw[World.putObj_heap_other hne];exact hk
 case own=>
  have hc:=Hp hg;have hno:∀k c T fr,A.heap[k]?=some (.cells c T fr)->¬(some k=row):=λk c T fr hk e=>by
   obtain⟨_,o,h1,h2⟩:=hr k e.symm;rw[hk]at h1;cases h1;cases h2
  obtain⟨i1,i2,i3,i4⟩:=hs;refine⟨i1.then hc λk hk e=>by have:=(hr k e.symm).1;omega,i2.chg hc ?_ λk hk=>?_,hc.at i3 (hno _ _ _ _ i3),i4.chg hc hno⟩
  ·obtain⟨_,_,b1,_⟩:=i2;exact hno _ _ _ _ b1
  ·obtain⟨_,c,hk⟩:=hk;exact hno _ _ _ _ hk
 case assign=>
  intro l x W K hK
  gi_wp2
  exact hK
 case body=>
  rintro l pre y W ⟨i1,i2,i3,i4⟩ hlen;have hal:=LD zs.length pre;have hy2:=y.2.2;have hd9:(Lib.decDigits y.1.2).length<=9:=zI 9 y.1.2 (by omega) (by omega);have hd:1<=10-1-1:=by decide
  have fin:∀{W1 W2:World},Ext W W1->Bld W2 (w.heap.size+1) (w.heap.size+1) (FY zs.length pre++tF zs.length y)->Chg (BCh W1 (w.heap.size+1) (w.heap.size+1)) W1 W2->KeepsOthers W W2/\KpT (w.heap.size+1) W W2/\TxI w w.heap.size (w.heap.size+1) (w.heap.size+1+1) bk off cap zs x.below (FY zs.length (pre++[y])) W2:=λ{W1 W2} hx1 hB hc=>by
   have hk:KpT (w.heap.size+1) W W2:=(KpT.ext hx1).trans (KpT.bch hc);refine⟨⟨hk.1,λk o hko ho=>?_⟩,hk,?_,?_,?_,i4.kp hk⟩
   ·have h1:=hx1.at hko id;refine hc.at h1 λe=>?_;rcases e with rfl|⟨_,c,e⟩
    ·obtain⟨_,_,b1,_⟩:=i2;rw[hko]at b1;cases b1;cases ho
    ·rw[h1]at e;cases e;cases ho
   ·exact(i1.trans hx1).then hc λk hk e=>by
     rcases e with e|e
     ·omega
     ·have:=e.1;omega
   ·have e:FY zs.length (pre++[y])=FY zs.length pre++tF zs.length y:=by simp[FY]
    rw[e];exact hB
   ·exact hk.2 _ _ _ _ i3 (by omega) (by decide)
  gi_wp2
  refine⟨trivial,(CallsIn.inRound l (callsIn_wide.2 (aBX (hT.ext i1) hy2))).mono ?_⟩;rintro e W1 ⟨rfl,hx1⟩;dsimp only;have hp1:=hx1.at i3 id;have hc1:W1.cell? ⟨w.heap.size,1,none⟩=some (.slice (some ⟨bk,off,none⟩) zs.length cap):=by rw[cG,hp1];rfl
  have hB1:=i2.ext hx1;by_cases hlt:((y.1.1:Nat):Int)<(zs.length:Int)-1
  ·gi_wp2
   have harg:wrap64 (9-(((ofL (Lib.decDigits y.1.2)).size:Nat):Int))=((9-(Lib.decDigits y.1.2).length:Nat):Int):=by
    rw[fT];unfold wrap64;omega
   rw[harg];refine⟨trivial,(CallsIn.inRound l (callsIn_wide.2 (aDB (w:=W1) (by omega)))).mono ?_⟩;rintro e W2 ⟨rfl,hx2⟩;dsimp only;have hsum:(ofL (List.replicate (9-(Lib.decDigits y.1.2).length) 48)).size+(ofL (Lib.decDigits y.1.2)).size<=9223372036854775807:=by
    rw[fT,fT,List.length_replicate];omega
   have hsum2:¬9223372036854775807<(ofL (List.replicate (9-(Lib.decDigits y.1.2).length) 48)).size+(ofL (Lib.decDigits y.1.2)).size:=by omega
   have hc2:W2.cell? ⟨w.heap.size,1,none⟩=some (.slice (some ⟨bk,off,none⟩) zs.length cap):=by rw[cG,hx2.at hp1 id];rfl
   have hB2:=hB1.ext hx2
   gi_wp2
   rw[IC];have hrt:List.replicate (9-(Lib.decDigits y.1.2).length) 48++Lib.decDigits y.1.2=tF zs.length y:=by
    unfold tF;rw[aJ (by omega)];rfl
   rw[hrt];have hrl:=Ep zs.length y;refine⟨trivial,(CallsIn.inRound l (callsIn_wide.2 (Qt (s:=tF zs.length y) hB2 (by have:=hx1.size;have:=hx2.size;have:=i2.lt;omega) (by omega)))).mono ?_⟩;rintro e W3 ⟨⟨v,rfl⟩,hB3,hc3⟩;dsimp only
   gi_wp2
   exact fin (hx1.trans hx2) hB3 hc3
  ·gi_wp2
   have hrt:Lib.decDigits y.1.2=tF zs.length y:=by
    unfold tF;rw[aE (by omega)]
   refine⟨trivial,(CallsIn.inRound l (callsIn_wide.2 (Qt (s:=Lib.decDigits y.1.2) hB1 (by have:=hx1.size;have:=i2.lt;omega) (by omega)))).mono ?_⟩;rintro e W2 ⟨⟨v,rfl⟩,hB2,hc2⟩;dsimp only
   gi_wp2
   rw[hrt]at hB2;exact fin hx1 hB2 hc2
 case done=>
  rintro D xs W hD rfl ⟨i1,i2,i3,i4⟩ hK;rw[LC h3 (by omega) zs.length (aV _),Nat.sub_self,cZ]at i2;have hzne:zs≠[]:=λe=>hz (by rw[e];rfl);obtain⟨o1,o2⟩|⟨o1,o2,o3,o4⟩:=ok_int hx.1
  ·rw[hzs]at o1;exact absurd o1 hzne
  rw[hx.2,hzs]at o4;rw[hzs]at o3;have hnat:n.natAbs=val zs:=by rw[<-hx.2];unfold Big.int;rw[hzs];split<;>omega
  have hdig:dig (Lib.itoa n)=mE zs:=by rw[zF,hnat,Gz h3 (hzs▸hx.1.2) hzne]
  have htl:=Gy zs h3;have hlen:=Tryz.Builder_Len_f (w.heap.size+1) (w.heap.size+1) (Lib.byteCells (mE zs)) W i2.isb;have hstr:=Tryz.Builder_String_any_k (w.heap.size+1) (w.heap.size+1) (mE zs) W i2.isb (by have:=i2.lt;omega);have hc3:W.cell? ⟨w.heap.size,0,none⟩=some (.bool x.below):=by rw[cG,i3];rfl
  have hbl:(Lib.byteCells (mE zs)).length=(mE zs).length:=by simp[Lib.byteCells]
  rw[hbl]at hlen;have mP:∀{W':World},Ext w W'->W'.heap[D]?=some (.deferred (some []))->Ext w (W'.putObj D (.deferred none)):=λ{W'} hx' hk=>by
   refine hx'.then (Hp (grownBy_putObj' W' D _)) λk hk e=>by
    have e:some k=some D:=e;cases e;omega
  have hwD:w.heap.size<=D:=by omega
  gi_wp2
  refine⟨trivial,(callsIn_wide.2 hlen).mono ?_⟩;rintro e W1 ⟨rfl,rfl⟩;dsimp only;by_cases h100:(100:Int)<((mE zs).length:Nat)
  ·gi_wp2
   refine⟨by simp,.inl ⟨_,_,rfl,run_takeDeferred hK,?_⟩⟩;refine⟨_,results_tmp2 rfl _ _ _,?_,mP i1 hK⟩;have e1:iD n=([],3):=by unfold iD;rw[aJ (by rw[hdig];omega)]
   rw[e1];rfl
  ·have e1:iD n=(Lib.itoa n,0):=by unfold iD;rw[aE (by rw[hdig];omega)]
   cases hb:x.below with
   |true=>
    rw[hb]at hc3
    gi_wp2
    refine⟨trivial,(callsIn_wide.2 hstr).mono ?_⟩;rintro e W2 ⟨rfl,_,hbel,hot⟩;dsimp only
    gi_wp2
    have hK2:=hot D _ hK (by simp only[bP,bF];omega) (λc fz e=>by cases e);have hx2:Ext w W2:=i1.then (⟨hbel.os,hbel.tape,hbel.output,hbel.size,λk _ hn=>hbel.block k (by omega)⟩:Chg (λk=>w.heap.size+1<=k) _ W2) λk hk e=>by omega
    refine⟨by simp,.inl ⟨_,_,rfl,run_takeDeferred hK2,?_⟩⟩;refine⟨_,results_tmp2 rfl _ _ _,?_,mP hx2 hK2⟩;rw[e1,o4,hb,aJ rfl];show Ending.returned (.tuple #[.string (ofL [45]++ofL (mE zs)),.int .i64 0])=_;rw[IC]
   |false=>
    rw[hb]at hc3
    gi_wp2
    refine⟨trivial,(callsIn_wide.2 hstr).mono ?_⟩;rintro e W2 ⟨rfl,_,hbel,hot⟩;dsimp only
    gi_wp2
    have hK2:=hot D _ hK (by simp only[bP,bF];omega) (λc fz e=>by cases e);have hx2:Ext w W2:=i1.then (⟨hbel.os,hbel.tape,hbel.output,hbel.size,λk _ hn=>hbel.block k (by omega)⟩:Chg (λk=>w.heap.size+1<=k) _ W2) λk hk e=>by omega
    refine⟨by simp,.inl ⟨_,_,rfl,run_takeDeferred hK2,?_⟩⟩;refine⟨_,results_tmp2 rfl _ _ _,?_,mP hx2 hK2⟩;rw[e1,o4,hb,aE (by simp),fO];rfl
 case stop=>
  rintro D c pre W _ _ h _;exact h.elim
section
variable [HX]
theorem Bz{x:Big}{n:Int}{K:Q0}(hT:Qn w)(h:jI w x cs)(o:ofInt n x)(hl:x.l.length<=900)(I:∀w',Ext w w'->K (.tuple #[str (iD n).1,i64 (iD n).2]) w'):aC P0 188 [.agg cs.toArray] w K:=by
 refine fX (args:=#[.agg cs.toArray]) Tryz.call188 ((Wx hT h o hl).mono ?_);rintro e w' ⟨rfl,j⟩;exact⟨_,rfl,I w' j⟩
end
end
section
open Go Go.Eng Go.Num Go.RowKit
variable{w:World}{K:Q0}{cs:List Value}{G:Nat->Prop}{T:TypeId}{i:Nat}{n:Nat}{v:Value}{w':World}{P:Program}{c:UInt8}{S:Nat->Prop}
theorem nL(l:List Nat):(iN l).length<=l.length:=by
 induction l using yP with
 |h0=>rw[sP];simp
 |h1 l x ih=>
  by_cases h:x=0
  ·subst h;rw[qK];simp;omega
  ·rw[vR h];simp
theorem tH{a:Str}(h:goodN a=true):(iE a).l.length<=100:=by
 obtain⟨_,o,_,_⟩:=jN h;haveI:HX:=noX;have j:=Ad _ (dig a) (aV _);have:=nL (mF (dig a));show(iN (mF (dig a))).length<=100;omega
theorem qT{a:Str}(h:goodN a=true):a.length<=9223372036854775807:=by
 have:=Fs h;omega
theorem zZ:∀(x y:List Nat) (c:Nat),(iY x y c).length<=x.length+y.length+1
 |[],[],c=>by simp[iY]
 |[],b::y,c=>by have:=zZ [] y ((c+b)/1000000000);simp[iY]at this⊢;omega
 |a::x,[],c=>by have:=zZ x [] ((c+a)/1000000000);simp[iY]at this⊢;omega
 |a::x,b::y,c=>by have:=zZ x y ((c+a+b)/1000000000);simp[iY]at this⊢;omega
section
variable [HX]
theorem Bi{a b:Str}{B:Q0}{g:List Value->Fr->World->Prop}(U:goodN a=true)(hb:goodN b=true)(hK:∀w',Ext w w'->B (.bool false) w'):
  aC P0 75 [str a] w λt7 w1=>unW .not t7 λt8=>GdW (isB t8 false) [undef] w1 (λJ2=>aC P0 75 [str b] w1 λt11 w3=>unW .not t11 λt12=>J2 [t12] w3) λs2 _ w4=>cV t8 (.bool true) (s2.getD 0 undef) λt13=>B t13 w4:=by
 refine nD (qT U) λw1 I=>?_;rw[U,eP];refine GdW.act false (λw'=>Ext w1 w') (λ_=>Chg.refl _ _) ?_ ?_
 ·intro _ J hJ;refine nD (qT hb) λw2 o=>?_;rw[hb,eP];exact hJ w2 o
 intro g2 w4 j;exact hK w4 (I.trans j)
theorem QJ{x y:Big}{a b:Int}{ds:List Value}{K:Q0}(h:jI w x cs)(h':jI w y ds)(J:ofInt a x)(I:ofInt b y)(hl:x.l.length+y.l.length<=800)
  (U:∀z cs' w',Ext w w'->jI w' z cs'->ofInt (a+b) z->z.l.length<=x.l.length+y.l.length+1->K (.agg cs'.toArray) w'):aC P0 185 [.agg cs.toArray,.agg ds.toArray] w K:=by
 refine Nr h h' (by omega) λcs' w' j o=>U _ cs' w' j o (Pi J I) ?_;have hm:∀(x y:List Nat) (c:Nat),(gX x y c).length<=x.length:=by
  intro x;induction x with
  |nil=>intro y c;simp[gX]
  |cons a x ih=>
   intro y c;simp only[gX];split<;>simp only[aB]<;>have:=ih y.tail<;>grind
 unfold Ej;split
 ·have:=zZ x.l y.l 0;have:=nL (iY x.l y.l 0);simp only[Big.trim];omega
 ·split
  ·have:=hm x.l y.l 0;have:=nL (gX x.l y.l 0);simp only[Big.trim];omega
  ·have:=hm y.l x.l 0;have:=nL (gX y.l x.l 0);simp only[Big.trim];omega
theorem aEg{a b:Str}{K:Q0}(hT:Qn w)(o:goodN a=true)(hb:goodN b=true)(hK:∀w',Ext w w'->K (.tuple #[str (iD (num a+num b)).1,i64 (iD (num a+num b)).2]) w'):aC P0 133 [str a,str b] w K:=by
 refine YU ?_;unfold aFd;refine Bi (g:=λ_ _ _=>True) o hb λw4 hc=>?_;rw[cP];refine oA o (qT o) λcs1 w5 U h1=>?_;refine oA hb (qT hb) λcs2 w6 j h2=>?_;have:=tH o;have:=tH hb;refine QJ (h1.ext j) h2 (qQ o) (qQ hb) (by omega) λz cs3 w7 J h3 hz hh=>?_;have hx:=hc.trans (U.trans (j.trans J));refine Bz (hT.ext hx) h3 hz (by omega) λw8 I=>?_;simp only[bL];exact⟨_,rfl,_,rfl,hK w8 (hx.trans I)⟩
theorem ZJ{a b:Str}{K:Q0}(hT:Qn w)(I:goodN a=true)(hb:goodN b=true)(hK:∀w',Ext w w'->K (.tuple #[str (iD (num a-num b)).1,i64 (iD (num a-num b)).2]) w'):aC P0 129 [str a,str b] w K:=by
 refine YZ ?_;unfold aFh;refine Bi (g:=λ_ _ _=>True) I hb λw4 hg=>?_;rw[cP];refine oA I (qT I) λcs1 w5 hc h1=>?_;refine oA hb (qT hb) λcs2 w6 o h2=>?_;have:=tH I;have:=tH hb;refine Ec h2 λcs4 w9 j h4=>?_;have:=nL (iE b).l;have hk:(AB (iE b)).l.length<=100:=by show(iN (iE b).l).length<=100;omega
 refine QJ (h1.ext (o.trans j)) h4 (qQ I) (Mp (qQ hb)) (by omega) λz cs3 w7 U h3 hz hi=>?_;have hx:=hg.trans (hc.trans (o.trans (j.trans U)));refine Bz (hT.ext hx) h3 hz (by omega) λw8 J=>?_;simp only[bL];exact⟨_,rfl,_,rfl,hK w8 (hx.trans J)⟩
theorem aDX{a b:Str}{K:Q0}(hT:Qn w)(o:goodN a=true)(hb:goodN b=true)(hK:∀w',Ext w w'->K (.tuple #[str (iD (num a*num b)).1,i64 (iD (num a*num b)).2]) w'):aC P0 134 [str a,str b] w K:=by
 refine YT ?_;unfold aFc;refine Bi (g:=λ_ _ _=>True) o hb λw4 hc=>?_;rw[cP];refine oA o (qT o) λcs1 w5 U h1=>?_;refine oA hb (qT hb) λcs2 w6 j h2=>?_;have:=tH o;have:=tH hb;refine Gw (h1.ext j) h2 (qQ o) (qQ hb) (by omega) λz cs3 w7 J h3 hz hh=>?_;have hx:=hc.trans (U.trans (j.trans J));refine Bz (hT.ext hx) h3 hz (by omega) λw8 I=>?_;simp only[bL];exact⟨_,rfl,_,rfl,hK w8 (hx.trans I)⟩
end
theorem Ee{n:Int}(h:n.natAbs<10^100):iD n=(Lib.itoa n,0):=by
 unfold iD;rw[aE];rw[zF];have:=zI 100 n.natAbs h (by omega);omega
theorem Ei{a b:Str}(j:goodN a=true):((num a).tdiv (num b)).natAbs<10^100:=by
 have:=Co j;rw[Int.natAbs_tdiv];exact Gm (Nat.div_le_self _ _) this
theorem LS{a b:Str}(j:goodN a=true):((num a).tmod (num b)).natAbs<10^100:=by
 have:=Co j;rw[Int.natAbs_tmod];exact Gm (Nat.mod_le _ _) this
theorem RJ{a b:Str}(j:goodN a=true)(hb:goodN b=true):(FG a b).2=(Gf a b).2:=by
 unfold FG Gf;split
 ·rfl
 ·rw[Ee (Ei j),Ee (LS j)]
theorem jI.row{x:Big}{xs:List Value}{B:Nat}(h:jI w x cs)(hO:Eng.Own w B U8 1 v n xs)(hc:Chg (λk=>v.ownBlock=some k) w w'):jI w' x cs:=by
 obtain⟨sv,T,rfl,⟨p',cap,U,h1,h2,h3⟩,h4,h5⟩:=h;refine⟨sv,T,rfl,⟨p',cap,U,h1,h2,λo=>?_⟩,h4,h5⟩;obtain⟨k,off,c,fr,hp,J,I⟩:=h3 o;refine⟨k,off,c,fr,hp,hc.at J λe=>?_,I⟩;obtain⟨_,c',j⟩:=hO.block k e;rw[J]at j;simp only[bF,Obj.cells.injEq]at j;exact absurd j.2.1 (by decide)
structure aDm(d:Str)(Y i:Nat)(D:Str)(r:Nat):Prop where
 len:D.length=i
 dig:D.all Num.isDig=true
 eq:dec (d.take i)=dec D*Y+r
 lt:r<Y
theorem Qa{d:Str}{Y:Nat}{D:Str}{r:Nat}(h:aDm d Y i D r)(hc:d[i]?=some c)(hd:Num.isDig c=true){j:Nat}(hj:j*Y<=r*10+dval c)(hl:r*10+dval c-j*Y<Y):aDm d Y (i+1) (D++[UInt8.ofNat (48+j)]) (r*10+dval c-j*Y):=by
 have U:=IS hd;have I:=h.lt;have J:j<10:=by
  refine eL λhn=>?_;have:10*Y<=j*Y:=dM _ (by omega);omega
 have o:(UInt8.ofNat (48+j)).toNat=48+j:=by rw[jS];omega
 refine⟨by rw[aU,h.len];rfl,?_,?_,hl⟩
 ·rw[Dy,h.dig];simp only[eV,Ga,iC,iB,Num.isDig,o,aL,bD];omega
 ·have e1:d.take (i+1)=d.take i++[c]:=by rw[dG,hc];rfl
  have e2:dec (D++[UInt8.ofNat (48+j)])=dec D*10+j:=by
   rw[xQ];show dec D*10^1+(0*10+dval _)=_;unfold dval;rw[o];omega
  rw[e1,xQ,e2];show dec (d.take i)*10^1+(0*10+dval c)=_;rw[h.eq];have e3:(dec D*10+j)*Y=dec D*Y*10+j*Y:=by rw[fG,Nat.mul_right_comm]
  rw[e3];omega
theorem Pj(h:n<1000000000):ofInt (n:Nat) (⟨false,[n]⟩:Big).trim:=by
 have:=Kf (l:=[n]) (λz j=>by rw[bK]at j;omega);rwa[show val [n]=n by simp[val]]at this
theorem Ph:ofInt 10 ⟨false,[10]⟩:=by
 refine⟨⟨λz j=>by rw[bK]at j;omega,λh=>by simp,λe=>by cases e⟩,?_⟩;simp[Big.int,val]
section
variable [HX]
theorem Rc{K:List Value->World->Prop}(hn:n<1000000000)(J:∀c w',Ext w w'->jI w' ⟨false,[n]⟩ c->K c w'):
  dN U64 1 [(.int .u64 0)] [(0,1,u64 n)] w λt w1=>dJ [(.bool false),(.slice none 0 0)] [(0,1,(.bool false)),(1,1,t)] λc=>K c w1:=by
 refine ZL λt w1 j I=>?_;obtain⟨p,cap,rfl,_⟩:=j.shape;simp only[wC,gU,cW,aB,aN,aY,bB];refine⟨by omega,by omega,?_⟩;exact J _ w1 I ⟨_,U64,rfl,j,by simp,λz o=>by rw[bK]at o;omega⟩
theorem LW{b:Nat}{ds:List Value}{x:Big}{K:World->Prop}(hb:w.heap[b]?=some (.cells ds.toArray BT (0,0)))(hd:ds.length=2)(h:jI w x cs)(j:∃p q,ds=[.bool p,q]/\∀n,q≠u64 n)
  (hK:∀w',w'.heap.size=w.heap.size->w'.heap[b]?=some (.cells cs.toArray BT (0,0))->Chg (λk=>k=b) w w'->jI w' x cs->K w'):stW 2 (.pointer (some ⟨b,0,none⟩)) (.agg cs.toArray) w K:=
 cK hb h.len hd h.one λw' J o I=>by
  obtain⟨p,q,rfl,U⟩:=j
  exact hK w' J o I (h.keep hb U I)
theorem jI.pq{x:Big}(h:jI w x cs):∃p q,cs=[.bool p,q]/\∀n,q≠u64 n:=by
 obtain⟨sv,T,rfl,h1,_⟩:=h;obtain⟨p,c,rfl,_⟩:=h1.shape;exact⟨_,_,rfl,λn e=>by cases e⟩
theorem Mv:∀(x y:List Nat) (c:Nat),(gX x y c).length=x.length:=by
 intro x;induction x with
 |nil=>intro y c;rfl
 |cons a x ih=>intro y c;rw[uT,aB,ih,aB]
theorem HQ{a:Str}(U:goodN a=true):(iE a).below=neg a:=by
 obtain⟨g1,gl,g0,gd⟩:=jN U;show(neg a&&!(iN (mF (dig a))).isEmpty)=neg a;cases hn:neg a with
 |false=>rfl
 |true=>
  have o:val (iN (mF (dig a)))=dec (dig a):=by rw[(nB _).1,(sW _ (dig a) (aV _) gd).1]
  have I:1<=dec (dig a):=by
   cases hd:dig a with
   |nil=>rw[hd]at g1;simp at g1
   |cons c d=>
    rw[hd]at gd g0;simp only[eV,aL]at gd;have j:c≠48:=λe=>by
     have:=g0 (by simp[e]);rw[this]at hn;cases hn
    exact cC (Nat.pow_pos (by omega)) (MY gd.1 j)
  cases J:iN (mF (dig a))with
  |nil=>rw[J]at o;simp[val]at o;omega
  |cons c d=>rfl
theorem MS{z:Big}(h:ofInt (n:Nat) z)(hn:n<10^101):z.l.length<=100:=by
 refine eL λhl=>?_;have j:=(Cn h).2;have h1:=Ig h.1.2 (λe=>by rw[e]at hl;simp at hl);have I:1000000000^100<=1000000000^(z.l.length-1):=jW (by omega) (by omega);have o:10^101<=1000000000^100:=cC (show 10^101<=1000000000^12 by decide) (jW (by omega) (by omega));omega
theorem EE{l:List Nat}{s:Bool}(hl:Lim l)(j:val l=n):ofInt (if s=true then-((n:Nat):Int)else((n:Nat):Int)) (⟨s,l⟩:Big).trim:=by
 have:=AQ (x:=⟨s,l⟩) hl;have e:(⟨s,l⟩:Big).int=if s=true then-((n:Nat):Int)else((n:Nat):Int):=by
  unfold Big.int;simp only[j]
 rwa[e]at this
theorem Qb{D:Str}(hd:D.all Num.isDig=true):Num.dig D=D/\neg D=false:=by
 cases D with
 |nil=>exact⟨rfl,rfl⟩
 |cons c r=>
  simp only[eV,aL]at hd;have:c≠45:=by rintro rfl;exact absurd hd.1 (by decide)
  exact⟨by simp[Num.dig,this],by simp[neg,this]⟩
theorem ZX{a b:Str}{K:Q0}(hT:Qn w)(ha:goodN a=true)(hb:goodN b=true)(hK:∀w',Ext w w'->K (.tuple #[str (FG a b).1,str (Gf a b).1,i64 (FG a b).2]) w'):aC P0 135 [str a,str b] w K:=by
 refine YS ?_;unfold aFb;refine Bi (g:=λ_ _ _=>True) ha hb λw4 uh=>?_;rw[cP,sL,aO];refine⟨λzy=>?_,λzy=>?_⟩
 ·have e0:num b=0:=by rw[zy];decide
  have:=hK w4 uh;unfold FG Gf at this;rw[aJ e0,aJ e0]at this;exact this
 have zp:num b≠0:=λe=>zy (ID hb (by decide) (e.trans (by decide)));obtain⟨_,gl,_,gd⟩:=jN ha;obtain⟨_,gl2,_,gd2⟩:=jN hb;have hY:0<dec (dig b):=by
  refine Nat.pos_of_ne_zero λe=>zp ?_;unfold num;rw[e];split<;>rfl
 have hYs:dec (dig b)<10^100:=cR (CG gd2) (jW (by omega) gl2);refine oA ha (qT ha) λcs1 w5 vx h1=>?_;refine oA hb (qT hb) λcs2 w6 ue h2=>?_;have xw:=uh.trans (vx.trans ue);have bj:=h1.ext ue;have zq:val (iE b).l=dec (dig b):=by
  show val (iN (mF (dig b)))=_;rw[(nB _).1,(sW _ (dig b) (aV _) gd2).1]
 have xn:=(zV hb).2;have hlb:=tH hb;have vn:=HQ ha;have ak:=HQ hb;obtain⟨svb,_,rfl,ux,uw,uv⟩:=h2;obtain⟨sva,_,rfl,vz,hsa2,hsa3⟩:=bj;obtain⟨pb,cb,rfl,_⟩:=ux.shape;obtain⟨pa,ca,rfl,_⟩:=vz.shape;generalize xj:Value.slice pb (iE b).l.length cb=svb at*
 generalize uu:Value.slice pa (iE a).l.length ca=sva at*
 have o7:([.bool (iE a).below,sva]:List Value).all fC=true:=by rw[<-uu];rfl
 have o8:([.bool (iE b).below,svb]:List Value).all fC=true:=by rw[<-xj];rfl
 have o9:([.bool false,svb]:List Value).all fC=true:=by rw[<-xj];rfl
 refine bI λb7 w7 hb7 hz7 vk vw=>?_;refine bI λb8 w8 hb8 hz8 vj ud=>?_;refine cK (ud.at vk id) rfl rfl o7 λw9 hz9 ya vd=>?_;refine cK (vd.at vj (by omega)) rfl rfl o8 λw10 bz xa zc=>?_;have U:Ext w6 w10:=((vw.trans ud).new vd (by omega)).new zc (by omega);have yp:=zc.at ya (by omega);refine Dt (off:=1) xa rfl ?_;have uz:∀{K:List Value->Prop},K [.bool false,svb]->dJ [(.bool false),(.slice none 0 0)] [(0,1,(.bool false)),(1,1,svb)] K:=λ{K} h=>by
  rw[<-xj];simp only[wC,gU,cW,aB,aN,aY,bB];refine⟨by omega,by omega,?_⟩;rw[xj];exact h
 refine uz ?_;refine bI λb9 w12 hb9 bw vi uo=>?_;refine cK vi rfl rfl o9 λw13 bu yo vh=>?_;refine bI λb10 w14 hb10 bs ye yy=>?_;refine CW (qT ha) ?_;refine Jp (l:=dig a) (by kernel_rfl) (by kernel_rfl) (by kernel_rfl) λdv w16 vb xi=>?_;rw[fL vb];have yi:Ext w10 w13:=uo.new vh (by omega);have ht:=yi.trans (yy.trans xi);have hs:=U.trans ht;have zx:=ht.at yp id;have zu:=ht.at xa id;have zs:=(yy.trans xi).at yo id;have xq:=xi.at ye id;have s616:=hs.size;have l10:=fA ye;have ab:=xi.size;have hnz:∀(l:List Nat),({below:=false,l:=l}:Big).below=false:=λ_=>rfl;generalize vo:dec (dig b)=Y at*
 generalize vc:dig a=d at*
 have hpart:jI w6 ⟨false,(iE b).l⟩ [.bool false,svb]:=⟨svb,U64,rfl,ux,uw,uv⟩;refine cY.go (λst w'=>∃(i:Nat) (D:Str) (r:Nat) (v:Value) (rest:Big) (rcs:List Value),st=[v,i64 (i:Nat)]/\i<=d.length/\aDm d Y i D r/\Eng.Own w' w16.heap.size U8 1 v D.length (u8s D)/\Chg (λk=>k=b10\/w16.heap.size<=k) w16 w'/\w'.heap[b10]?=some (.cells rcs.toArray BT (0,0))/\jI w' rest rcs/\ofInt (r:Nat) rest)
  (λst _=>match st with|[_,.int _ i]=>d.length-i.toNat|_=>0)
  ⟨0,[],0,.slice none 0 0,⟨false,[]⟩,[.bool false,.slice none 0 0],rfl,fR _,⟨rfl,rfl,by simp[dec],hY⟩,⟨rfl,.inl ⟨rfl,rfl⟩⟩,Chg.refl _ _,xq,⟨_,U64,rfl,SlAt.nil _ _,by simp,λz hz=>by simp at hz⟩,⟨⟨λz hz=>by simp at hz,λh=>absurd rfl h,λe=>rfl⟩,by simp[Big.int,val]⟩⟩ ?_
 rintro st g w18 ⟨i,D,r,v,rest,rcs,rfl,hi,hI,hO,xd,xp,xe,hr⟩;simp only[aG,cS];have s18:=xd.size;have old18:∀{k:Nat} {o:Obj},w16.heap[k]?=some o->k≠b10->w18.heap[k]?=some o:=λ{k o} h zk=>xd.at h λe=>e.elim zk λe=>by have:=fA h;omega
 have zg:Ext w6 w18:=hs.then xd λk hk e=>by have:=U.size;omega
 have hrl:=MS hr (by have:=hI.lt;omega);rw[dU,aO];refine⟨λzm=>?_,λhge=>?_⟩
 ·have zm:i<d.length:=by omega
  obtain⟨c,hc⟩:∃c,d[i]?=some c:=⟨_,List.getElem?_eq_getElem zm⟩;have zo:Num.isDig c=true:=bN.1 gd c (bG hc);have hcl:=IS zo;have hc48:48<=c.toNat/\c.toNat<=57:=by simpa[Num.isDig]using zo
  have zn:SlAt w18 U8 dv d.length (u8s d):=by
   obtain⟨p',cap,hv,e1,e2,e3⟩:=vb;refine⟨p',cap,hv,e1,e2,λzk=>?_⟩;obtain⟨k,off,c0,fr,hp,hk,ai⟩:=e3 zk;refine⟨k,off,c0,fr,hp,old18 hk λe=>?_,ai⟩;subst e;rw[xq]at hk;simp only[bF,Obj.cells.injEq]at hk;exact absurd hk.2.1 (by decide)
  refine rQ zn (by rw[qJ]) (by rw[DD,hc];rfl) ?_;refine bZ xp xe.len ?_;refine Rc (n:=10) (by omega) λc20 w19 yx bh=>?_;refine Gw (xe.ext yx) bh hr Ph (by show rest.l.length+1+1<=1000;omega) λz21 cs21 w21 um bg ua za=>?_;rw[kW];have ew:IntKind.u8.wrap (((c.toNat:Nat):Int)-48)=((dval c:Nat):Int):=by
   unfold dval;simp only[IntKind.wrap,IntKind.signed,IntKind.bits,IntKind.max,IntKind.min];simp;omega
  rw[ew,mW,QA (by omega)];refine Rc (by omega) λc23 w22 yw bf=>?_;refine qY bf λcs24 w24 yu bd=>?_;refine QJ (bg.ext (yw.trans yu)) bd ua (Pj (by omega)) (by
   have:(⟨false,[dval c]⟩:Big).trim.l.length<=1:=nL _;have za:z21.l.length<=rest.l.length+1+1:=za;omega) λz25 cs25 w25 uk bc zz hl25=>?_
  have xh:=yx.trans (um.trans (yw.trans (yu.trans uk)));refine LW (xh.at xp id) xe.len bc xe.pq λw26 br vm vg ba=>?_;have hR:ofInt (((r*10+dval c:Nat)):Nat) z25:=by
   have:((r:Int)*10+(dval c:Nat))=((r*10+dval c:Nat):Int):=by omega
   rw[<-this];exact zz
  have xm:Chg (λk=>k=b10) w18 w26:=(Chg.of_ext xh).then vg λ_ _ e=>e;have hO26:Eng.Own w26 w16.heap.size U8 1 v D.length (u8s D):=jK hO xm λk hk e=>by have:=(gZ hO hk).1;have e:k=b10:=e;omega
  refine cY.go (λst w'=>∃(j:Nat) (rest:Big) (rcs:List Value),st=[.int .u8 ((48+j:Nat):Int)]/\j<=10/\j*Y<=r*10+dval c/\Chg (λk=>k=b10) w26 w'/\w'.heap[b10]?=some (.cells rcs.toArray BT (0,0))/\jI w' rest rcs/\ofInt ((r*10+dval c-j*Y:Nat)) rest)
   (λst _=>match st with|[.int _ j]=>58-j.toNat|_=>0)
   ⟨0,z25,cs25,rfl,by omega,by omega,Chg.refl _ _,vm,ba,by rw[mZ,Nat.sub_zero];exact hR⟩ ?_
  rintro st g2 w28 ⟨j,rest2,rcs2,rfl,hj,ae,zb,xo,ho,hg⟩;simp only[aG];have hrb:r*10+dval c<10*Y:=by have:=hI.lt;omega
  have hy:=xm.trans zb;have zf:Ext w6 w28:=zg.then hy λk hk e=>by have:=U.size;have e:k=b10:=e;omega
  have yf:=hy.at (old18 zs (by omega)) (λe=>by have e:b9=b10:=e;omega);have ze:=hpart.ext zf;refine bZ xo ho.len ?_;refine bZ yf rfl ?_;refine Jt ho ze λw29 J=>?_;have xx:=(Cn hg).2;rw[GC hg.1.1 xn.1 hg.1.2 xn.2,xx,zq,mX,aO];refine⟨λxy=>?_,λxk=>?_⟩
  ·have xy:Y<=r*10+dval c-j*Y:=by
    rcases jC (r*10+dval c-j*Y) Y with⟨h,e⟩|⟨h,e⟩|⟨h,e⟩
    ·rw[e]at xy;omega
    ·omega
    ·omega
   have ah:(j+1)*Y=j*Y+Y:=by rw[fG,Nat.one_mul]
   have af:j+1<10:=by
    refine eL λhn=>?_;have:10*Y<=(j+1)*Y:=dM _ (by omega);omega
   refine bZ (J.at xo id) ho.len ?_;refine bZ (J.at yf id) rfl ?_;refine Cp (ho.ext J) (ze.ext J) λmv w30 uj yz=>?_;have ad:val (iE b).l<=val rest2.l:=by rw[xx,zq];exact xy
   have zl:=tM rest2.l (iE b).l 0 hg.1.1 xn.1 (by omega) (by omega) (Ie hg.1.1 xn.2 ad);obtain⟨pm,cm,rfl,_⟩:=yz.shape;simp only[wC,gU,cW,aB,aN,aY,bB];refine⟨by omega,by omega,?_⟩;have hrl2:=MS hg (by omega);refine qY (x:=⟨false,gX rest2.l (iE b).l 0⟩) ⟨_,U64,rfl,yz,by show(gX _ _ _).length<=1000;rw[Mv];omega,zl.2⟩ λcs32 w32 ui az=>?_;have xg:=J.trans (uj.trans ui);refine LW (xg.at xo id) ho.len az ho.pq λw33 bq vl vf ay=>?_;rw[cI];have ew2:IntKind.u8.wrap (((48+j:Nat):Int)+1)=((48+(j+1):Nat):Int):=by
    simp only[IntKind.wrap,IntKind.signed,IntKind.bits,IntKind.max,IntKind.min];simp;omega
   rw[ew2];refine⟨⟨j+1,_,cs32,rfl,by omega,by omega,(zb.then xg λ_ _ e=>e.elim).trans vf,vl,ay,?_⟩,by simp only[aW];omega⟩;have va:=Kf zl.2;rw[zl.1,xx,zq]at va;rw[ah];have e:r*10+dval c-(j*Y+Y)=r*10+dval c-j*Y-Y-0:=by omega
   rw[e];exact va
  ·have xk:r*10+dval c-j*Y<Y:=by
    rcases jC (r*10+dval c-j*Y) Y with⟨h,e⟩|⟨h,e⟩|⟨h,e⟩
    ·exact h
    ·rw[e]at xk;omega
    ·rw[e]at xk;omega
   have vy:=Qa hI hc zo ae xk;have af:j<10:=by
    refine eL λhn=>?_;have:10*Y<=j*Y:=dM _ (by omega);omega
   have yn:=hy.then J λ_ _ e=>e.elim;refine Ip (n:=48+j) λt69 w34 uq xv=>?_;have hx:=yn.then xv λ_ _ e=>e.elim;have s34:=hx.size;have xr:Eng.Own w34 w16.heap.size U8 1 v D.length (u8s D):=jK hO hx λk hk e=>by have:=(gZ hO hk).1;have e:k=b10:=e;omega
   have an:=hI.len;refine jY BO xr uq (m:=1) rfl (λu hu=>by simp only[bK]at hu;subst hu;rfl) (by omega) (by omega) (by omega) λv' w35 vs xz _=>?_;rw[cI,up1 (by omega)];have zj:¬v.ownBlock=some b10:=λe=>by have:=(gZ xr e).1;omega
   refine⟨⟨i+1,D++[UInt8.ofNat (48+j)],r*10+dval c-j*Y,v',rest2,rcs2,rfl,zm,vy,?_,?_,?_,?_,hg⟩,by simp only[aW];omega⟩
   ·have e:u8s (D++[UInt8.ofNat (48+j)])=u8s D++[.int .u8 ((48+j:Nat):Int)]:=by
     rw[DF];congr 1;show [Value.int .u8 (((UInt8.ofNat (48+j)).toNat:Nat):Int)]=_;rw[jS,kY (by omega)]
    rw[e,aU];exact vs
   ·exact(xd.trans (hx.mono λk _ e=>.inl e)).then xz λk _ e=>.inr (gZ xr e).1
   ·exact xz.at ((J.trans xv).at xo id) zj
   ·exact(ho.ext (J.trans xv)).row xr xz
 ·obtain rfl:i=d.length:=by omega
  have heq:=hI.eq;rw[bR]at heq;obtain⟨q1,q2⟩:=Xp heq hI.lt;obtain⟨dr1,dr2⟩:=Qb hI.dig;have an:=hI.len;obtain⟨ts1,ts2⟩:=OL ha hb;rw[vc,vo,q1]at ts1;rw[vc,vo,q2]at ts2;refine(FH (e:=U8) (T:=U8) (by kernel_rfl) (by kernel_rfl) (by kernel_rfl) (l:=D) hO.sl).2 ?_;refine JQ (by rw[dr1];omega) (by rw[dr1];exact hI.dig) (by omega) λcs36 w36 yt ax=>?_;have aa:val (iE D).l=dec D:=by
   show val (iN (mF (Num.dig D)))=_;rw[dr1,(nB _).1,(sW _ D (aV _) hI.dig).1]
  have hql:(iE D).l.length<=100:=by
   have h3:=Ad _ D (aV _);have:=nL (mF D);show(iN (mF (Num.dig D))).length<=100;rw[dr1];omega
  refine bI λb15 w37 hb15 bp zr ys=>?_;refine LW zr rfl (ax.ext ys) ⟨_,_,rfl,λn e=>by cases e⟩ λw38 bo hh ve aw=>?_;have s36:=yt.size;have I:Ext w18 w38:=(yt.trans ys).new ve (by omega);have l10':=fA xp;have yg:=I.at (old18 zx (by have:=fA ya;omega)) id;have zt:=I.at (old18 zu (by have:=fA xa;omega)) id;have yq:=I.at xp id;have vr:=xe.ext I;refine Dt (off:=0) yg rfl ?_;refine Dt (off:=0) zt rfl ?_;have eqb:∀(s t:Bool) (K:Value->Prop),K (.bool (s^^t))->eqW .bool true (.bool s) (.bool t) K:=λs t K h=>by
   cases s<;>cases t<;>exact h
  refine eqb _ _ _ ?_;rw[vn,ak];obtain⟨svq,_,rfl,ym,zi,yl⟩:=aw;obtain⟨pq,cq,rfl,_⟩:=ym.shape;rw[bT];refine iO (off:=0) hh rfl (by simp) λw39 bn yc xc=>?_;have av:jI w39 (iE D) [.bool (iE D).below,.slice pq (iE D).l.length cq]:=jI.keep ⟨_,U64,rfl,ym,zi,yl⟩ hh (λn e=>by cases e) xc;have vq:=vr.keep hh (λn e=>by cases e) xc;have zw:=xc.at yg (λe=>by have e:b7=b15:=e;omega);have xb:=xc.at yq (λe=>by have e:b10=b15:=e;omega);refine Dt (off:=0) zw rfl ?_;rw[vn];obtain⟨svr,_,rfl,yk,zh,yj⟩:=vq;obtain⟨pr,cr,rfl,_⟩:=yk.shape;rw[bT];refine iO (off:=0) xb rfl (by simp) λw40 bm yd xl=>?_;have au:=av.keep xb (λn e=>by cases e) xl;have vp:jI w40 rest [.bool rest.below,.slice pr rest.l.length cr]:=jI.keep ⟨_,U64,rfl,yk,zh,yj⟩ xb (λn e=>by cases e) xl;have yb:=xl.at yc (λe=>by have e:b15=b10:=e;omega);obtain⟨_,_,eq',ym,zi,yl⟩:=au;simp only[dX,lP]at eq';obtain⟨_,rfl⟩:=eq';obtain⟨_,_,er',yk,zh,yj⟩:=vp;simp only[dX,lP]at er';obtain⟨_,rfl⟩:=er';have uc:Ext w w40:=by
   refine(((xw.trans (hs.then xd λk hk e=>?_)).trans I).then xc λk hk e=>?_).then xl λk hk e=>?_
   ·have:=U.size;omega
   ·have e:k=b15:=e;have:=xw.size;have:=hs.size;omega
   ·have e:k=b10:=e;have:=xw.size;have:=U.size;omega
  refine bZ (T:=BT) (fr:=(0,0)) (l:=[.bool (neg a^^neg b),.slice pq (iE D).l.length cq]) (by rw[yb];simp) rfl ?_;refine qY (x:=⟨neg a^^neg b,(iE D).l⟩) ⟨_,U64,rfl,ym,zi,yl⟩ λcs41 w41 xf ar=>?_;have hq:=EE (s:=neg a^^neg b) yl aa;rw[<-ts1]at hq;refine Bz (hT.ext (uc.trans xf)) ar hq (by have:=nL (iE D).l;show(iN (iE D).l).length<=900;omega) λw42 xu=>?_;simp only[bL];refine⟨_,rfl,_,rfl,?_⟩;refine bZ (T:=BT) (fr:=(0,0)) (l:=[.bool (neg a),.slice pr rest.l.length cr]) (by rw[(xf.trans xu).at yd id];simp) rfl ?_;have hrl':=MS hr (by have:=hI.lt;omega);refine qY (x:=⟨neg a,rest.l⟩) ⟨_,U64,rfl,yk.ext (xf.trans xu),zh,yj⟩ λcs43 w43 ug ao=>?_;have uy:=EE (s:=neg a) yj (Cn hr).2;rw[<-ts2]at uy;have yr:=uc.trans (xf.trans (xu.trans ug));refine Bz (hT.ext yr) ao uy (by have:=nL rest.l;show(iN rest.l).length<=900;omega) λw44 uf=>?_;simp only[bL];refine⟨_,rfl,_,rfl,?_⟩;have:=hK w44 (yr.trans uf);unfold FG Gf at this;rw[aE zp,aE zp]at this;have e0:(iD ((num a).tdiv (num b))).2=0:=by rw[Ee (Ei ha)]
  rw[e0]at this;exact this
end
end
section
open Go Go.Eng Go.Num Go.RowKit Go.Syn
variable{w:World}{K:Q0}{cs:List Value}{G:Nat->Prop}{T:TypeId}{i:Nat}{n:Nat}{v:Value}{w':World}{P:Program}{c:UInt8}{S:Nat->Prop}
theorem DN{v:JV}(h:dK v=true)(k3:v.k=3):goodN v.t=true/\v.b=false/\v.xs=[]/\v.ks=[]:=by
 have hp:=(pW h).plain;have j:=aD0 hp k3;rw[jJ,aL]at hp;obtain⟨_,_,hb,_⟩:=kB hp.1;refine⟨j.1,?_,j.2⟩;cases o:v.b with
 |false=>rfl
 |true=>have:=hb o;omega
theorem sQ(n:Int):(iD n).1.length<=1000:=by
 unfold iD;split
 ·simp
 ·rename_i h;have:(Lib.itoa n).length<=(dig (Lib.itoa n)).length+1:=by
   unfold dig;cases Lib.itoa n with
   |nil=>simp
   |cons c d=>simp only;split<;>simp
  show(Lib.itoa n).length<=1000;omega
theorem SV(a b:Str):(FG a b).1.length<=1000:=by unfold FG;split;simp;exact sQ _
theorem RL(a b:Str):(Gf a b).1.length<=1000:=by unfold Gf;split;simp;exact sQ _
section
variable [HX]
theorem QC{k:Int}{t:Str}{a:Int}{v:JV}{va vk:Value}{w0:World}{K:Q0}(hT:uE w)(o1:fC va=true)(o2:fC vk=true)(h:cM G w v cs)(hg:dK v=true)(h0:Ext w0 w)(hK:MdK w0 (AA k a v) G w K):
  aC P0 95 [.agg [i64 k,str t,va,vk,i64 a].toArray,.agg cs.toArray] w K:=by
 refine aCf ?_;unfold W95;refine fY (z:=[i64 k,str t,va,vk,i64 a]) λb2 w1 yd xx xg xd=>?_;refine BW (h.ext' xd) λb3 w2 sv kv xm yc xw hv xc=>?_;subst xm;refine bI λb4 w3 yb xv hq hz=>?_;have hk:=xd.trans (xc.trans hz);refine bZ (hz.at hv id) rfl ?_;refine xU (h.ext' hk).rep λw4 hy xu=>?_;have hi:=hz.trans hy;have j:=hk.trans hy;have o:=hi.at hv id;have hh:=(xc.trans hi).at xg id;have hc:=hy.at hq id;have xz:=fA hq;rw[aO];refine⟨λk1=>?_,λk1=>?_⟩
 ·have hr:AA k a v=.ok v:=by unfold AA;rw[aJ k1]
  refine bZ o rfl ?_;exact AF hc rfl (by omega) j ((h.off (by omega)).ext' j) λw' U h'=>hK.ok hr _ w' U h'
 refine eQ (off:=0) o rfl ?_;rw[bO];refine GdW.look (decide (k=13)) (λ_ J hJ=>?_) λg=>?_
 ·refine eQ (off:=0) hh rfl ?_;rw[bO];exact hJ
 simp only[aG,fQ];rw[fK,bY];refine⟨λxj=>?_,λn13=>?_⟩
 ·simp only[aL,bD]at xj;obtain⟨k3,rfl⟩:=xj;obtain⟨gn,gb,gx,gk⟩:=DN hg k3;have hr:AA 13 a v=.ok (nV (iD (-num v.t)).1):=by unfold AA;rw[aE k1,aJ ⟨k3,rfl⟩]
  refine eQ (off:=2) o rfl ?_;have e0:num [48]=0:=by decide
  refine ZJ (a:=[48]) (hT.ext j) (by decide) gn λw9 hx=>?_;rw[e0,Int.zero_sub];simp only[bL];refine⟨_,rfl,_,rfl,?_⟩;rw[bT];refine iO (off:=2) (hx.at o id) rfl (by simp) λw10 xo xh ho=>?_;have xe:=j.trans hx;have I:=xe.new ho (show w.heap.size<=b3 by omega);have xb:=ho.at (hx.at hc id) λe=>by have e:b4=b3:=e;omega
  refine bZ (T:=VT) (fr:=(0,0)) (l:=[i64 v.k,.bool v.b,str (iD (-num v.t)).1,sv,kv]) (by rw[xh];simp) rfl ?_;have ht:=sQ (-num v.t);have xf:cM G w (nV (iD (-num v.t)).1) [i64 v.k,.bool v.b,str (iD (-num v.t)).1,sv,kv]:=by
   obtain⟨sv2,kv2,T1,T2,L,he,h1,h2,h3,h4,h5,h6⟩:=Gt h;simp only[dX,lP]at he;obtain⟨_,_,_,rfl,rfl⟩:=he;rw[gx]at h1 h2;rw[gk]at h3 h6;rw[k3,gb];exact cM.mk (v:=nV (iD (-num v.t)).1) (L:=L) h1 h2 h3 ⟨by simp[nV,JV.xs],by simp[nV,JV.ks],by show(iD (-num v.t)).1.length<=_;omega,λs hs=>by simp[nV,JV.ks]at hs⟩ h5 h6
  exact AF xb rfl (by omega) I ((xf.off (by omega)).ext' I) λw' U h'=>hK.ok hr _ w' U h'
 ·refine eQ (off:=0) o rfl ?_;rw[bO];refine GdW.look (decide (k=14)) (λ_ J hJ=>?_) λg=>?_
  ·refine eQ (off:=0) hh rfl ?_;rw[bO];exact hJ
  simp only[aG,fQ];rw[fK,bY];have m13:¬(v.k=3/\k=13):=λe=>by simp[e.1,e.2]at n13
  refine⟨λxi=>?_,λn14=>?_⟩
  ·simp only[aL,bD]at xi;have hr:AA k a v=.ok (bV (!v.b)):=by unfold AA;rw[aE k1,aE m13,aJ xi]
   refine eQ (off:=1) o rfl ?_;rw[eP];refine pY λw15 hj=>?_;exact pP (G:=G) (hj.at hc id) rfl (by omega) (j.trans hj) (by simp) λw' U h'=>hK.ok hr _ w' U h'
  ·have m14:¬(v.k=2/\k=14):=λe=>by simp[e.1,e.2]at n14
   have hr:AA k a v=.err 81 a:=by unfold AA;rw[aE k1,aE m13,aE m14]
   refine eQ (off:=4) hh rfl ?_;exact mA (h0.trans j) (hK.err hr)
theorem Po{k:Int}{t:Str}{a:Int}{x y:JV}{va vk:Value}{ds:List Value}{w0:World}{K:Q0}(hT:uE w)(o1:fC va=true)(o2:fC vk=true)(hx:cM G w x cs)(hy:cM G w y ds)(gx:dK x=true)(gy:dK y=true)(h0:Ext w0 w)(o:MdK w0 (Kk k a x y) G w K):
  aC P0 100 [.agg [i64 k,str t,va,vk,i64 a].toArray,.agg cs.toArray,.agg ds.toArray] w K:=by
 refine Zu ?_;unfold aFA;refine fY (z:=[i64 k,str t,va,vk,i64 a]) λb3 w1 ym yf xv xk=>?_;refine BW (hx.ext' xk) λb4 w2 sv kv xz yl ye xu xj=>?_;subst xz;refine BW (hy.ext' (xk.trans xj)) λb5 w3 sv' kv' xy yk yd xt xi=>?_;subst xy;refine bI λb6 w4 yj yc ho xa=>?_;have hk:=xk.trans (xj.trans (xi.trans xa));have xe:=(xj.trans (xi.trans xa)).at xv id;have ht:=(xi.trans xa).at xu id;have hs:=xa.at xt id;have j:=hx.ext' hk;have xm:=hy.ext' hk;clear hx hy;refine bU.cut (λst w'=>Ext w4 w'/\gQ 3 x=true/\gQ 3 y=true) ?_ ?_
 ·refine bZ ht rfl ?_;refine bZ hs rfl ?_;refine IQ j.rep xm.rep λtt w6 ya xh _=>?_;refine MQ ya λw7 xg=>?_;have e:[x,y].all (gQ 3)=(gQ 3 x&&gQ 3 y):=by simp
  rw[e,eP,bY];refine⟨λh=>?_,λh=>?_⟩
  ·have hr:Kk k a x y=.err 81 a:=by unfold Kk;rw[aE (λe=>by rw[e]at h;cases h)]
   refine eQ (off:=4) ((xh.trans xg).at xe id) rfl ?_;exact mA (h0.trans (hk.trans (xh.trans xg))) (o.err hr)
  ·have h:(gQ 3 x&&gQ 3 y)=true:=by cases hq:(gQ 3 x&&gQ 3 y)<;>simp[hq]at h⊢
   rw[aL]at h;exact⟨xh.trans xg,h.1,h.2⟩
 rintro st g w9 ⟨xf,f1,f2⟩;have hm:Kk k a x y=if x.k=1\/y.k=1 then .ok uV
  else if k=22 then .ok (bV (decide (wT x.t y.t<0)))
  else if k=23 then .ok (bV (decide (0<wT x.t y.t)))
  else if k=24 then .ok (bV (decide (wT x.t y.t<=0)))
  else if k=25 then .ok (bV (decide (0<=wT x.t y.t)))
  else if k=15 then yB a (iD (num x.t+num y.t))
  else if k=16 then yB a (iD (num x.t-num y.t))
  else if k=17 then yB a (iD (num x.t*num y.t))
  else if k=18 then yB a (FG x.t y.t)
  else if k=19 then yB a (Gf x.t y.t)
  else .ok (nV []):=by unfold Kk;rw[aJ (by rw[f1,f2];rfl)]
 rw[hm]at o;have yi:=fA ho;refine bZ (xf.at ht id) rfl ?_;refine xU (j.ext' xf).rep λw10 xq _=>?_;simp only[mI];have hi:=xf.trans xq;refine GdW.act (decide (y.k=1)) (λw'=>Ext w10 w') (λ_=>Chg.refl _ _) (λ_ J hJ=>?_) λg3 w13 xp=>?_
 ·refine bZ (hi.at hs id) rfl ?_;exact xU (xm.ext' hi).rep λw23 xo _=>hJ w23 xo
 have U:=hi.trans xp;have hv:=hk.trans U;simp only[aG];rw[fU,bY];refine⟨λxb=>?_,λhn=>?_⟩
 ·simp only[cQ,bD]at xb;rw[aJ xb]at o;refine sO λw14 xd=>?_;exact pP (G:=G) ((U.trans xd).at ho id) rfl (by omega) (hv.trans xd) (by simp) λw' j h'=>o.ok rfl _ w' j h'
 simp only[lS,decide_eq_false_iff_not]at hn;rw[aE (λe=>e.elim hn.1 hn.2)]at o;have kx:x.k=3:=by simp only[gQ,cQ,bD]at f1;exact f1.resolve_right hn.1
 have ky:y.k=3:=by simp only[gQ,cQ,bD]at f2;exact f2.resolve_right hn.2
 obtain⟨nx,_⟩:=DN gx kx;obtain⟨ny,_⟩:=DN gy ky;refine eQ (off:=2) (U.at ht id) rfl ?_;refine eQ (off:=2) (U.at hs id) rfl ?_;refine EF (qT nx) (qT ny) λw17 xc=>?_;have I:=U.trans xc;have hg:=hv.trans xc;have hh:=hT.ext hg;have b3_:=I.at xe id;have b4_:=I.at ht id;have b5_:=I.at hs id;have hbool:∀{s:Bool} {w':World},Ext w17 w'->MdK w0 (.ok (bV s)) G w K->stW 5 (.pointer (some ⟨b6,0,none⟩)) (.agg (flat 2 s []).toArray) w' λw5=>ldW true 5 (.pointer (some ⟨b6,0,none⟩)) w5 λr6=>K r6 w5:=λ{s w'} xn hr=>
  pP (G:=G) ((I.trans xn).at ho id) rfl (by omega) (hg.trans xn) (by simp) λw'' hz xl=>hr.ok rfl _ w'' hz xl
 refine bU.cut (λst w'=>Ext w17 w'/\∃s c,st=[str s,i64 c]/\s.length<=1000/\MdK w0 (yB a (s,c)) G w K) ?_ ?_
 ·refine eQ (off:=0) b3_ rfl ?_;rw[bO,aO];refine⟨λe=>?_,λe22=>?_⟩
  ·rw[aJ e]at o;rw[dU];exact pY λw' j=>hbool j o
  rw[aE e22]at o;rw[bO,aO];refine⟨λe=>?_,λe23=>?_⟩
  ·rw[aJ e]at o;rw[mB];exact pY λw' j=>hbool j o
  rw[aE e23]at o;rw[bO,aO];refine⟨λe=>?_,λe24=>?_⟩
  ·rw[aJ e]at o;rw[vH];exact pY λw' j=>hbool j o
  rw[aE e24]at o;rw[bO,aO];refine⟨λe=>?_,λe25=>?_⟩
  ·rw[aJ e]at o;rw[mX];exact pY λw' j=>hbool j o
  rw[aE e25]at o;rw[bO,aO];refine⟨λe=>?_,λe15=>?_⟩
  ·rw[aJ e]at o;refine eQ (off:=2) b4_ rfl ?_;refine eQ (off:=2) b5_ rfl ?_;refine aEg hh nx ny λw' j=>?_;simp only[bL];exact⟨_,rfl,_,rfl,j,_,_,rfl,sQ _,o⟩
  rw[aE e15]at o;rw[bO,aO];refine⟨λe=>?_,λe16=>?_⟩
  ·rw[aJ e]at o;refine eQ (off:=2) b4_ rfl ?_;refine eQ (off:=2) b5_ rfl ?_;refine ZJ hh nx ny λw' j=>?_;simp only[bL];exact⟨_,rfl,_,rfl,j,_,_,rfl,sQ _,o⟩
  rw[aE e16]at o;rw[bO,aO];refine⟨λe=>?_,λe17=>?_⟩
  ·rw[aJ e]at o;refine eQ (off:=2) b4_ rfl ?_;refine eQ (off:=2) b5_ rfl ?_;refine aDX hh nx ny λw' j=>?_;simp only[bL];exact⟨_,rfl,_,rfl,j,_,_,rfl,sQ _,o⟩
  rw[aE e17]at o;rw[bO,aO];refine⟨λe=>?_,λe18=>?_⟩
  ·rw[aJ e]at o;refine eQ (off:=2) b4_ rfl ?_;refine eQ (off:=2) b5_ rfl ?_;refine ZX hh nx ny λw' j=>?_;simp only[bL];exact⟨_,rfl,_,rfl,_,rfl,j,_,_,rfl,SV _ _,o⟩
  rw[aE e18]at o;rw[bO,aO];refine⟨λe=>?_,λe19=>?_⟩
  ·rw[aJ e]at o;refine eQ (off:=2) b4_ rfl ?_;refine eQ (off:=2) b5_ rfl ?_;refine ZX hh nx ny λw' j=>?_;simp only[bL];refine⟨_,rfl,_,rfl,_,rfl,j,_,_,rfl,RL _ _,?_⟩;rw[RJ nx ny];exact o
  rw[aE e19]at o;exact⟨Chg.refl _ _,[],0,rfl,by simp,o⟩
 rintro st g4 w36 ⟨hj,s,c,rfl,yg,hN⟩;simp only[aG,cS];refine bU.cut (λst w'=>w'=w36/\c=0) ?_ ?_
 ·rw[gD,aO];refine⟨λhc=>?_,λhc=>⟨rfl,by omega⟩⟩;have hr:yB a (s,c)=.err c a:=by unfold yB;rw[aE hc]
  refine eQ (off:=4) (hj.at b3_ id) rfl ?_;exact mA (h0.trans (hg.trans hj)) (hN.err hr)
 rintro st g5 w39 ⟨rfl,rfl⟩;simp only[dI,eY,cW,aB,aN,aY,bB];refine⟨by omega,by omega,?_⟩;exact pP (G:=G) (k:=3) (s:=false) (t:=s) ((I.trans hj).at ho id) rfl (by omega) (hg.trans hj) (by omega) λw'' hz xl=>hN.ok rfl _ w'' hz xl
end
theorem Kw{s:Str}(h:goodN s=true):(∃n:Int,AT s=some n/\num s=n/\-9223372036854775808<=n/\n<=9223372036854775807)\/(AT s=none/\(num s< -9223372036854775808\/9223372036854775807<num s)):=by
 unfold AT;by_cases hb:-9223372036854775808<=num s/\num s<=9223372036854775807
 ·rw[aJ ⟨h,hb⟩];exact .inl ⟨_,rfl,rfl,hb⟩
 ·rw[aE (λe=>hb e.2)];exact .inr ⟨rfl,by omega⟩
section
variable [HX]
theorem Xb{t:Str}{a:Int}{x y:JV}{ec ds:List Value}{w0:World}{K:Q0}(hT:uE w)(he:AtC t a ec)(hx:cM G w x cs)(hy:cM G w y ds)(gx:dK x=true)(gy:dK y=true)(h0:Ext w0 w)(hG:∀q,w.heap.size<=q->G q)(hK:MdK w0 (vO a x y) G w K):
  aC P0 93 [.agg ec.toArray,.agg cs.toArray,.agg ds.toArray] w K:=by
 refine aCh ?_;unfold W93;refine Nh he λb3 w1 k va vk yu za yp xy xn=>?_;refine BW (hx.ext' xn) λb4 w2 sv kv yh yz yo xx xm=>?_;subst yh;refine BW (hy.ext' (xn.trans xm)) λb5 w3 sv' kv' yg yy yn xw xl=>?_;subst yg;refine bI λb6 w4 yx ym xi xd=>?_;have hs:=xn.trans (xm.trans (xl.trans xd));have xc:=(xm.trans (xl.trans xd)).at xy id;have xb:=(xl.trans xd).at xx id;have xa:=xd.at xw id;have yr:=fA xi;have hk:=hx.ext' hs;have xp:=hy.ext' hs;have one:∀(kk:Int) {w':World} {J:Q0},Ext w4 w'->(∀w'',Ext w4 w''->J (.bool (gQ kk y)) w'')->
   ldW true 5 (.pointer (some ⟨b5,0,none⟩)) w' λt=>dN VT 1 zr5 [(0,5,t)] w' λt1 w6=>aC P0 122 [i64 kk,t1] w6 J:=λkk {w' J} xk hJ=>by
  refine bZ (xk.at xa id) rfl ?_;refine Xg (xp.ext' xk).rep λtt w6 yi yb=>?_;refine MQ yi λw7 hc=>?_;have e:[y].all (gQ kk)=gQ kk y:=by simp
  rw[e];exact hJ w7 (xk.trans (yb.trans hc))
 refine bU.cut (λst w'=>st=[.bool (sI x y)]/\Ext w4 w') ?_ ?_
 ·refine eQ (off:=0) xb rfl ?_;rw[bO,aO];refine⟨λk1=>?_,λk1=>?_⟩
  ·refine one 3 (Chg.refl _ _) λw7 hc=>?_;refine GdW.act (gQ 4 y) (λw'=>Ext w4 w') (λ_=>hc) (λ_ J hJ=>?_) λg w11 xr=>?_
   ·exact one 4 hc λw10 xt=>hJ w10 xt
   simp only[aG,mI];rw[fU];refine⟨?_,xr⟩;unfold sI;rw[aJ k1]
  rw[bO,aO];refine⟨λk5=>?_,λk5=>?_⟩
  ·refine one 3 (Chg.refl _ _) λw7 hc=>⟨?_,hc⟩;unfold sI;rw[aE k1,aJ k5]
  rw[bO,aO];refine⟨λk6=>?_,λk6=>⟨?_,Chg.refl _ _⟩⟩
  ·refine one 4 (Chg.refl _ _) λw7 hc=>⟨?_,hc⟩;unfold sI;rw[aE k1,aE k5,aJ k6]
  ·unfold sI;rw[aE k1,aE k5,aE k6]
 rintro st g w16 ⟨rfl,hg⟩;simp only[aG];have xo:=hs.trans hg;refine bU.cut (λst w'=>w'=w16/\sI x y=true) ?_ ?_
 ·rw[eP,bY];refine⟨λh=>?_,λh=>⟨rfl,by simpa using h⟩⟩;have h:sI x y=false:=by simpa using h
  have hr:vO a x y=.err 81 a:=by unfold vO;rw[aE (by rw[h];simp)]
  refine eQ (off:=4) (hg.at xc id) rfl ?_;exact mA (h0.trans xo) (hK.err hr)
 rintro st g2 w19 ⟨rfl,ho⟩;have hm:vO a x y=if x.k=1\/y.k=1 then .ok uV else if x.k=6 then sC y.t a x else if 0<=num y.t/\num y.t<x.xs.length then .ok (x.xs.getD (num y.t).toNat JV.null)else .err 82 a:=by
  unfold vO;rw[aJ ho]
 rw[hm]at hK;refine bZ (hg.at xb id) rfl ?_;refine xU (hk.ext' hg).rep λw20 xq _=>?_;have hi:=hg.trans xq;simp only[mI];refine GdW.act (decide (y.k=1)) (λw'=>Ext w20 w') (λ_=>Chg.refl _ _) (λ_ J hJ=>?_) λg3 w23 ht=>?_
 ·refine bZ (hi.at xa id) rfl ?_;exact xU (xp.ext' hi).rep λw23 ht _=>hJ w23 ht
 have I:=hi.trans ht;have o:=hs.trans I;have b4_:=I.at xb id;have b5_:=I.at xa id;have b6_:=I.at xi id;simp only[aG];rw[fU,bY];refine⟨λxf=>?_,λhn=>?_⟩
 ·simp only[cQ,bD]at xf;rw[aJ xf]at hK;refine sO λw14 xh=>?_;exact pP (G:=G) (xh.at b6_ id) rfl (by omega) (o.trans xh) (by simp) λw' hk h'=>hK.ok rfl _ w' hk h'
 simp only[lS,decide_eq_false_iff_not]at hn;rw[aE (λe=>e.elim hn.1 hn.2)]at hK;refine eQ (off:=0) b4_ rfl ?_;rw[bO,aO];refine⟨λk6=>?_,λk6=>?_⟩
 ·rw[aJ k6]at hK;refine eQ (off:=2) b5_ rfl ?_;refine eQ (off:=4) (I.at xc id) rfl ?_;simp only[dI,eY,aB,aN,aY,bB,cW];refine⟨by omega,by omega,?_⟩;refine bZ b4_ rfl ?_;refine Ni (G:=λq=>G q/\q≠b6) (w0:=w0) (t:=y.t) (a:=a) (ec:=[i64 0,str y.t,.slice none 0 0,.slice none 0 0,i64 a]) ⟨0,_,_,rfl,rfl,rfl⟩ ((hx.off (by omega)).ext' o) gx (h0.trans o) (λq hq=>⟨hG q (by have:=o.size;omega),by have:=I.size;have:=fA b6_;omega⟩) ?_;cases hr:sC y.t a x with
  |err c p=>rw[hr]at hK;exact hK
  |ok z=>
   rw[hr]at hK;intro es w28 xg yj;exact AF (xg.at b6_ id) rfl (by omega) (o.trans xg) yj λw' hk h'=>hK.ok rfl _ w' hk h'
 rw[aE k6]at hK;have k5:x.k=5/\gQ 3 y=true:=by
  unfold sI at ho;rw[aE hn.1]at ho;by_cases k5:x.k=5
  ·rw[aJ k5]at ho;exact⟨k5,ho⟩
  ·rw[aE k5,aE k6]at ho;cases ho
 have ky:y.k=3:=by have:=k5.2;simp only[gQ,cQ,bD]at this;exact this.resolve_right hn.2
 obtain⟨ny,_⟩:=DN gy ky;refine eQ (off:=2) b5_ rfl ?_;have yt:=Fs ny;refine RD (hT.ext o) (by omega) λw31 U=>?_;have b4':=U.at b4_ id;simp only[bL];refine⟨_,rfl,_,rfl,?_⟩;have yq:=(pW gx).lens.1;refine bU.cut (λst w'=>w'=w31/\0<=num y.t/\num y.t<x.xs.length/\(AT y.t).getD 0=num y.t) ?_ ?_
 ·rw[eP];refine GdW.look (decide ((AT y.t).getD 0<0)) (λ_ J hJ=>?_) λg4=>?_
  ·rw[dU];exact hJ
  simp only[aG,mI];rw[fU];refine GdW.look (decide ((x.xs.length:Int)<=(AT y.t).getD 0)) (λ_ J hJ=>?_) λg5=>?_
  ·refine eQ (off:=3) b4' rfl ?_;have hI:=(hx.ext' (o.trans U)).its;rw[hI.items.len,mX];exact hJ
  simp only[aG,mI];rw[fU,bY];refine⟨λxj=>?_,λhgood=>?_⟩
  ·have yc:¬(0<=num y.t/\num y.t<x.xs.length):=by
    rintro⟨n1,n2⟩;rcases Kw ny with⟨n,e1,e2,e3,e4⟩|⟨e1,e2⟩
    ·rw[e1]at xj;simp at xj;omega
    ·omega
   rw[aE yc]at hK;refine eQ (off:=4) ((I.trans U).at xc id) rfl ?_;exact mA (h0.trans (o.trans U)) (hK.err rfl)
  ·rcases Kw ny with⟨n,e1,e2,e3,e4⟩|⟨e1,e2⟩
   ·have eg:(AT y.t).getD 0=num y.t:=by rw[e1,e2];rfl
    rw[eg,e1]at hgood;simp at hgood;exact⟨trivial,by omega,by omega,eg⟩
   ·rw[e1]at hgood;simp at hgood
 rintro st g6 w38 ⟨rfl,n0,n1,xv⟩;rw[aJ ⟨n0,n1⟩]at hK;refine eQ (off:=3) b4' rfl ?_;rw[xv];obtain⟨j,hj⟩:∃j:Nat,num y.t=(j:Int):=⟨(num y.t).toNat,by omega⟩;rw[hj]at hK n1⊢;have yd:j<x.xs.length:=by omega
 obtain⟨z,hz⟩:∃z,x.xs[j]?=some z:=⟨_,List.getElem?_eq_getElem yd⟩;have ye:x.xs.getD (j:Int).toNat JV.null=z:=by rw[aW,List.getD_eq_getElem?_getD,hz];rfl
 rw[ye]at hK;have hv:=o.trans U;refine(((hx.off (b:=b6) (by omega)).ext' hv).its).get hz λes yf=>?_;exact AF (U.at b6_ id) rfl (by omega) hv yf λw' hk h'=>hK.ok rfl _ w' hk h'
end
abbrev XvT:TypeId:=81
structure Ev(w0 w:World)(p m:Nat)(f:Fl)(M:Lay)(look:Str->Option Value)(left:Nat):Prop where
 ext:Ext w0 w
 pp:w.heap[p]?=some (.cells [M.vE,M.vB,M.vT,.map (some m),i64 (left:Nat)].toArray XvT (0,0))
 mm:Ba w m look
 fv:FV w0 M f
 hp:w0.heap.size<=p
 hm:w0.heap.size<=m
 ne:p≠m
theorem Ev.next{w0:World}{p m:Nat}{f:Fl}{M:Lay}{look:Str->Option Value}{left:Nat}(h:Ev w0 w p m f M look left)(j:Ext w w'):Ev w0 w' p m f M look left:=
 ⟨h.ext.trans j,j.at h.pp id,h.mm.at_ j id,h.fv,h.hp,h.hm,h.ne⟩
theorem Ev.keep{w0:World}{p m:Nat}{f:Fl}{M:Lay}{look:Str->Option Value}{left:Nat}(h:Ev w0 w p m f M look left)(j:Chg S w w')(h0:∀k,w0.heap.size<=k\/¬S k)(h1:¬S p)(o:¬S m):Ev w0 w' p m f M look left:=
 ⟨h.ext.then j λk I e=>by rcases h0 k with h|h;omega;exact h e,j.at h.pp h1,h.mm.at_ j o,h.fv,h.hp,h.hm,h.ne⟩
theorem Ev.fvw{w0:World}{p m:Nat}{f:Fl}{M:Lay}{look:Str->Option Value}{left:Nat}(h:Ev w0 w p m f M look left):FV w M f:=h.fv.ext h.ext
structure Exc(w:World)(e:Ex)(cs:List Value):Prop where
 it:∃va vk,cs=[i64 e.k,str e.t,va,vk,i64 e.a]/\SlAt w jD va e.args.length (ints e.args)/\SlAt w StT vk e.keys.length (strs e.keys)
theorem vU{xs:List Value}(h:SlAt w T v n xs):fC v=true:=by
 obtain⟨p1,c1,e1,_⟩:=h.shape;rw[e1];rfl
theorem IZ{w0:World}{e:Ex}{K:Q0}(h:Exc w0 e cs)(h0:Ext w0 w)
  (J:∀b w' va vk,cs=[i64 e.k,str e.t,va,vk,i64 e.a]->SlAt w0 jD va e.args.length (ints e.args)->SlAt w0 StT vk e.keys.length (strs e.keys)->b=w.heap.size->w'.heap.size=w.heap.size+1->w'.heap[b]?=some (.cells [i64 e.k,str e.t,va,vk,i64 e.a].toArray 93 (0,0))->Ext w w'->K (.pointer (some ⟨b,0,none⟩)) w'):
  eW 93 (.agg cs.toArray) w K:=by
 obtain⟨va,vk,rfl,h2,U⟩:=h.it;exact fY λb w' hb o j I=>J b w' va vk rfl h2 U hb o j I
theorem FV.place{M:Lay}{fl:Fl}{e:Ex}{k:IntKind}{K:Value->Prop}(h:FV w M fl)(hi:fl.ex[i]?=some e)(I:K (i64 e.a)):dP none 5 M.vE (.int k i) λp=>aZ 4 p λq=>ldW false 1 q w K:=by
 obtain⟨va,vk,ec,_⟩:=h.ee.2 i e hi;refine rR (size:=5) h.oE h.ee.1 (by omega) (List.getElem?_eq_some_iff.1 hi).1 λb o c fr hb j=>?_;rw[bT,dY];refine⟨i64 e.a,?_,I⟩;rw[bW,cG,hb,cJ,j 4 (by omega)];have:=congrArg (λl:List Value=>l[4]?) ec;simpa[List.getElem?_take,List.getElem?_drop]using this
theorem PN{v:JV}(h:dK v=true):v.t.length<=16384:=MI (pW h).plain
section
variable [HX]
theorem LU{f:Fl}{M:Lay}{p m left:Nat}{look:Str->Option Value}{e:Ex}{l:List JV}{ec:List Value}{sv:Value}{w0:World}{K:Q0}(he:Exc w0 e ec)(hE:Ev w0 w p m f M look left)(hI:eH w sv l)(hg:∀x∈l,dK x=true)
  (hl:l.length<=100000)(ze:l.length<=e.args.length)(ya:∀a∈e.args,a<f.ex.length)(hK:MdK w0 (uK f.ex e.args l 0 [] true) G w K):
  aC P0 89 [.pointer (some ⟨p,0,none⟩),.agg ec.toArray,sv] w K:=by
 refine aCl ?_;unfold W89;refine IZ he hE.ext λb4 w1 va vk yz xy yt zd yr xb xe=>?_;refine bI λb6 w2 zc yq ht ho=>?_;refine aB5 (B:=w2.heap.size) (aV _) λb7 w3 zb yh hh=>?_;have yj:=xe.trans (ho.trans hh);have yl:=(ho.trans hh).at xb id;have yk:=hh.at ht id;have yw:=fA ht;rw[hI.len];have s3:=hh.size;refine cY.go (λst w'=>∃(i:Nat) (kn:Bool) (acc:Str),st=[.bool kn,i64 (i:Nat)]/\i<=l.length/\Chg (λk=>w2.heap.size<=k) w3 w'/\Bld w' w2.heap.size b7 acc/\acc.length<=i*20000/\uK f.ex e.args l 0 [] true=uK f.ex e.args (l.drop i) i acc kn)
  (λst _=>match st with|[_,.int _ i]=>l.length-i.toNat|_=>0)
  ⟨0,true,[],rfl,fR _,Chg.refl _ _,yh,by simp,rfl⟩ ?_
 rintro st g w5 ⟨i,kn,acc,rfl,hi,xj,xv,yn,o⟩;simp only[aG,cS];have s5:=xj.size;have hj:Ext w2 w5:=hh.then xj λk hk e=>by omega
 have I:Ext w w5:=(xe.trans ho).trans hj;have xc:=hj.at ht id;have xu:=(ho.trans hj).at xb id;rw[dU,aO];refine⟨λhx=>?_,λyx=>?_⟩
 ·have hx:i<l.length:=by omega
  obtain⟨x,xd⟩:∃x,l[i]?=some x:=⟨_,List.getElem?_eq_getElem hx⟩;have yc:=hg x (bG xd);have xz:=PN yc;have ye:l.drop i=x::l.drop (i+1):=by rw[cL hx];congr 1;exact(List.getElem?_eq_some_iff.1 xd).2
  rw[ye]at o;refine bU.cut (λst w'=>∃(kn:Bool) (acc:Str),st=[.bool kn]/\Chg (λk=>w2.heap.size<=k) w3 w'/\Bld w' w2.heap.size b7 acc/\acc.length<=(i+1)*20000/\uK f.ex e.args l 0 [] true=uK f.ex e.args (l.drop (i+1)) (i+1) acc kn) ?_ ?_
  ·refine(hI.ext I).at' (n:=(i:Nat)) rfl xd λds xi=>?_;refine mQ xi.len xi.all_one λb10 w8 ym yp j hv=>?_;obtain⟨svx,kvx,_,_,_,rfl,_⟩:=xi.out;have xq:Chg (λk=>w2.heap.size<=k) w3 w8:=xj.then hv λ_ _ e=>e.elim;have xl:=xv.ext hv;refine eQ (off:=0) j rfl ?_;rw[bO,aO];refine⟨λk1=>?_,λk1=>?_⟩
   ·refine⟨false,acc,rfl,xq,xl,by omega,?_⟩;rw[o];simp only[uK];rw[aJ k1]
   have wr:∀{s:Str} {w':World} {J:Q0},Cj x=some s->s.length<=16384->w'=w8->(∀v w'',(∃(kn':Bool) (acc:Str),[Value.bool kn]=[.bool kn']/\Chg (λk=>w2.heap.size<=k) w3 w''/\Bld w'' w2.heap.size b7 acc/\acc.length<=(i+1)*20000/\uK f.ex e.args l 0 [] true=uK f.ex e.args (l.drop (i+1)) (i+1) acc kn')->J v w'')->
     aC P0 66 [.pointer (some ⟨b7,0,none⟩),str s] w' J:=λ{s w' J} hp hs hw hJ=>by
    subst hw;have s8:=hv.size;refine LL xl (by omega) (by omega) λv w11 xx xt=>?_;refine hJ v w11 ⟨kn,acc++s,rfl,xq.then xt (λk _ e=>?_),xx,by rw[aU];omega,?_⟩
    ·rcases e with rfl|e
     ·have:=xl.base;omega
     ·exact e.1
    ·rw[o];simp only[uK];rw[aE k1,hp]
   refine bU.cut (λst w'=>st=[.bool (decide (x.k=4)||decide (x.k=3))]/\w'=w8) ?_ ?_
   ·rw[bO,aO];refine⟨λk4=>⟨by simp[k4],rfl⟩,λk4=>?_⟩;rw[bO];exact⟨by simp[k4],rfl⟩
   rintro st g2 w10 ⟨rfl,rfl⟩;simp only[aG];rw[bY];refine⟨λk43=>?_,λk43=>?_⟩
   ·have k43:x.k=4\/x.k=3:=by simpa using k43
    refine eQ (off:=2) j rfl ?_;refine wr (s:=x.t) (by unfold Cj;rw[aJ k43]) xz rfl λv w'' h=>h
   have k43:¬(x.k=4\/x.k=3):=by simpa using k43
   rw[bO,aO];refine⟨λk2=>?_,λk2=>?_⟩
   ·refine bU.cut (λst w'=>st=[str (if x.b then [116,114,117,101]else [102,97,108,115,101])]/\w'=w10) ?_ ?_
    ·refine eQ (off:=1) j rfl ?_;rw[bY];exact⟨λe=>⟨by rw[e];rfl,rfl⟩,λe=>⟨by rw[e];rfl,rfl⟩⟩
    rintro st g3 w13 ⟨rfl,rfl⟩;simp only[aG];refine wr (s:=if x.b then [116,114,117,101]else [102,97,108,115,101]) (by unfold Cj;rw[aE k43,aJ k2]) (by split<;>simp) rfl λv w'' h=>h
   ·have yb:i<e.args.length:=by omega
    obtain⟨a,ha⟩:∃a,e.args[i]?=some a:=⟨_,List.getElem?_eq_getElem yb⟩;have xn:=ya a (bG ha);obtain⟨ea,xp⟩:∃ea,f.ex[a]?=some ea:=⟨_,List.getElem?_eq_getElem xn⟩;have hr:uK f.ex e.args l 0 [] true=.err 81 ea.a:=by
     rw[o];simp only[uK];rw[aE k1];have:Cj x=none:=by unfold Cj;rw[aE k43,aE k2]
     rw[this];have yd:e.args.getD i 0=a:=by rw[List.getD_eq_getElem?_getD,ha];rfl
     simp only[yd,aEd,xp]
    have hc:Ext w5 w10:=hv;have xg:=I.trans hc;have xm:Ext w10 w10.drew:=Chg.drew (Chg.refl (λ_=>False) w10);have U:=(hE.next xg).next xm
    rw[eD];rw[bT];refine eQ (off:=0) U.pp rfl ?_;refine eQ (off:=2) ((hc.trans xm).at xu id) rfl ?_;refine rQ (xy.ext U.ext) (by simp[ints]) (x:=i64 (a:Nat)) (by simp[ints,ha]) ?_;refine U.fvw.place xp ?_;exact mA U.ext (hK.err hr)
  rintro st g2 w16 ⟨kn',acc',rfl,xr,xw,xo,xk⟩;simp only[aG];rw[cI,up1 (by omega)];exact⟨⟨i+1,kn',acc',rfl,hx,xr,xw,xo,xk⟩,by simp only[aW];omega⟩
 ·obtain rfl:i=l.length:=by omega
  rw[eJ]at o;rw[eP,bY];refine⟨λhk=>?_,λhk=>?_⟩
  ·have hk:kn=false:=by simpa using hk
   subst hk;refine sO λw17 xa=>?_;exact pP (G:=G) (xa.at xc id) rfl (by omega) (I.trans xa) (by simp) λw' xh h'=>hK.ok (v:=uV) (by rw[o];rfl) _ w' xh h'
  ·have hk:kn=true:=by simpa using hk
   subst hk;refine CN xv (by omega) λw20 hq=>?_;have s20:=hq.size;have xf:Ext w w20:=I.then hq λk hk e=>by have:=(xe.trans ho).size;omega
   refine IP λw21 hz=>?_;refine pP (G:=G) (hz.at (hq.at xc (by omega)) id) rfl (by omega) (xf.trans hz) (by omega) λw' xh h'=>hK.ok (v:=tV acc) (by rw[o];rfl) _ w' xh h'
end
def gR(G:Nat->Prop)(w:World)(look:Str->Option Value)(env:Env):Prop:=∀s,match env s with
 |none=>look s=none
 |some v=>∃cs,look s=some (.agg cs.toArray)/\cM G w v cs/\tR v=true
theorem gR.none{look:Str->Option Value}{env:Env}(h:gR G w look env){s:Str}(j:env s=none):look s=none:=by
 have:=h s;rw[j]at this;exact this
theorem gR.some{G:Nat->Prop}{w:World}{look:Str->Option Value}{env:Env}(h:gR G w look env){s:Str}{v:JV}(j:env s=some v):∃cs,look s=some (.agg cs.toArray)/\cM G w v cs/\tR v=true:=by
 have:=h s;rw[j]at this;exact this
theorem gR.mono{G':Nat->Prop}{look:Str->Option Value}{env:Env}(o:∀k,k<w.heap.size->G k->G' k)(h:gR G w look env):gR G' w look env:=λs=>by
 have:=h s
 cases j:env s with
 |none=>rw[j]at this;exact this
 |some v=>rw[j]at this;obtain⟨cs,h1,J,I⟩:=this;exact⟨cs,h1,J.mono o,I⟩
theorem gR.chg{look:Str->Option Value}{env:Env}(h:gR G w look env)(o:Chg S w w')(I:∀k,G k->k<w.heap.size->¬S k):gR G w' look env:=λs=>by
 have:=h s
 cases j:env s with
 |none=>rw[j]at this;exact this
 |some v=>rw[j]at this;obtain⟨cs,h1,U,J⟩:=this;exact⟨cs,h1,cM.chg o I U,J⟩
theorem gR.ext{look:Str->Option Value}{env:Env}(h:gR G w look env)(j:Ext w w'):gR G w' look env:=h.chg j λ_ _ _ e=>e
def xZ[HX](name:Str)(n:Nat):Prop:=∀{a:List JV} {sv:Value} {w:World} {K:Q0},a.length=n->(∀x∈a,dK x=true)->uE w->eH w sv a->
 (∀cs w',Ext w w'->cM (yE w.heap.size) w' (rG name a).1 cs->K (.tuple #[.agg cs.toArray,i64 (rG name a).2]) w')->aC P0 94 [str name,sv] w K
def ObC[HX]:Prop:=∀{ks:List Str} {xs:List JV} {kv xv:Value} {T:TypeId} {w:World} {K:Q0},SlAt w T kv ks.length (ks.map str)->eH w xv xs->xs.length<=90000->(∀s∈ks,s.length<=9223372036854775807)->(∀x∈xs,tR x=true)->
 (∀cs c w',Ext w w'->cM (yE w.heap.size) w' (BC ks xs) cs->K (.tuple #[.agg cs.toArray,i64 c]) w')->aC P0 90 [kv,xv] w K
theorem obc[HX]:ObC:=λh1 U J I o j=>OC h1 U J I o j
structure aDl(e:Ex):Prop where
 kd:1<=e.k/\e.k<=30
 a1:e.k=10\/e.k=30\/e.k=13\/e.k=14->1<=e.args.length
 a2:e.k=11\/e.k=29\/15<=e.k/\e.k<=27->2<=e.args.length
 a3:e.k=28->3<=e.args.length
 kl:∀s∈e.keys,s.length<=100000
 tl:e.t.length<=100000
 al:e.args.length<=90000
section
variable [HX]
theorem MdK.fin{w0 w1:World}{r:MdR JV}{K:Q0}{b:Nat}{ds:List Value}(J:MdK w0 r G w K)(U:Ext w w1)(hb:w1.heap[b]?=some (.cells ds.toArray VT (0,0)))(hd:ds.length=5)(hl:w.heap.size<=b):
  MdK w0 r (λq=>G q/\q≠b) w1 (λv w'=>stW 5 (.pointer (some ⟨b,0,none⟩)) v w' λw4=>ldW true 5 (.pointer (some ⟨b,0,none⟩)) w4 λr=>K r w4):=by
 cases r with
 |ok v=>
  intro cs w' o h';exact AF (o.at hb id) hd hl (U.trans o) h' λw'' j I=>J _ w'' j I
 |err c a=>exact J
theorem Xh{K:Q0}(J:∀w',Ext w w'->K (.agg (flat 0 false []).toArray) w'):aC P0 85 [] w K:=by
 refine aCo ?_;unfold W85;refine bI λb w1 hb U j o=>?_;simp only[wsv,wsg,wsh,wsl,aM,aK,aD,fB,Nat.reduceAdd,Nat.reduceLT,aF,aA,aI,aH,bP,reduceCtorEq];exact iI j rfl rfl rfl λw' I=>J w' (o.new I (by omega))
theorem aBJ{f:Fl}{M:Lay}{p m left:Nat}{look:Str->Option Value}{env:Env}{e:Ex}{l:List JV}{ec:List Value}{sv:Value}{w0:World}{K:Q0}(hT:uE w)(he:Exc w0 e ec)(hE:Ev w0 w p m f M look left)(hN:gR G w look env)(hI:jX G w sv l)(hg:∀x∈l,dK x=true)
  (ho:aDl e)(zd:l.length=e.args.length)(za:∀a∈e.args,a<f.ex.length)(ue:e.k≠28)(ud:e.k≠29)(hcall:e.k=12->xZ e.t e.args.length)(yy:e.k=8->ObC)(hG:∀q,w.heap.size<=q->G q)(o:MdK w0 (lK f.ex e env l) G w K):
  aC P0 60 [.pointer (some ⟨p,0,none⟩),.agg ec.toArray,sv] w K:=by
 have zk:=ho.al;refine aCH ?_;unfold W60;refine IZ he hE.ext λb4 w1 va vk zu yo xz zz zm yt yw=>?_;refine bI λb6 w2 zy zl xk ym=>?_;have hh:=yw.trans ym;have I:=ym.at yt id;have zt:=fA xk;have yb:=hE.next hh;have hy:=yb.ext;have o1:=vU yo;have o2:=vU xz;have U:jX (λq=>G q/\q≠b6) w2 sv l:=(hI.mono (G':=λq=>G q/\q≠b6) λq zs hq=>⟨hq,by omega⟩).ext hh;have mP:∀{r:MdR JV} {w':World},Ext w2 w'->MdK w0 r G w K->MdK w0 r (λq=>G q/\q≠b6) w' (λv w'=>stW 5 (.pointer (some ⟨b6,0,none⟩)) v w' λw4=>ldW true 5 (.pointer (some ⟨b6,0,none⟩)) w4 λr=>K r w4):=λ{r w'} hx h=>h.fin (hh.trans hx) (hx.at xk id) rfl (by omega);have xe:∀{w':World},Ext w2 w'->∀q,w'.heap.size<=q->G q/\q≠b6:=λ{w'} hx q hq=>⟨hG q (by have:=(hh.trans hx).size;omega),by have:=hx.size;omega⟩;have hflat:∀{k:Int} {s:Bool} {t:Str} {w':World},Ext w2 w'->t.length<=9223372036854775807->MdK w0 (.ok (.mk k s t [] [])) G w K->stW 5 (.pointer (some ⟨b6,0,none⟩)) (.agg (flat k s t).toArray) w' λw5=>ldW true 5 (.pointer (some ⟨b6,0,none⟩)) w5 λr6=>K r6 w5:=λ{k s t w'} ye ht hr=>
  pP (G:=G) (ye.at xk id) rfl (by omega) (hh.trans ye) ht λw'' yn zg=>hr.ok rfl _ w'' yn zg
 have j:∀w':World,Ext w' w'.drew:=λw'=>Chg.drew (Chg.refl (λ_=>False) w');have at0:1<=l.length->l[0]?=some (Dw l):=λh=>by unfold Dw;rw[List.getD_eq_getElem?_getD,List.getElem?_eq_getElem (by omega)];rfl
 have at1:2<=l.length->l[1]?=some (Gi l):=λh=>by unfold Gi;rw[List.getD_eq_getElem?_getD,List.getElem?_eq_getElem (by omega)];rfl
 have gd0:1<=l.length->dK (Dw l)=true:=λh=>hg _ (bG (at0 h));have gd1:2<=l.length->dK (Gi l)=true:=λh=>hg _ (bG (at1 h));obtain⟨kd1,kd2⟩:=ho.kd;refine eQ (off:=0) I rfl ?_;unfold lK at o;rw[bO,aO];refine⟨λe1=>?_,λe1=>?_⟩
 ·rw[aJ e1]at o;exact Xh λw3 xf=>hflat (k:=0) (s:=false) (t:=[]) xf (by simp) o
 rw[aE e1]at o;have join2:∀{a b:Int} {w':World} {B:List Value->Fr->World->Prop},(∀g,B [.bool (decide (e.k=a)||decide (e.k=b))] g w')->bU (λJ=>aQ .eql (i64 e.k) (i64 a) λt=>aS t (J [t] w') (aQ .eql (i64 e.k) (i64 b) λt=>J [t] w')) B:=λ{a b w' B} h=>by
  refine bU.cut (λst w''=>st=[.bool (decide (e.k=a)||decide (e.k=b))]/\w''=w') ?_ ?_
  ·rw[bO,aO];refine⟨λea=>⟨by simp[ea],rfl⟩,λea=>?_⟩;rw[bO];exact⟨by simp[ea],rfl⟩
  rintro st g w'' ⟨rfl,rfl⟩;exact h g
 refine join2 λg=>?_;simp only[aG];rw[bY];refine⟨λe23=>?_,λe23=>?_⟩
 ·rw[aJ (by simpa using e23)]at o;refine eQ (off:=0) I rfl ?_;rw[bO];exact pY λw3 xf=>hflat (k:=2) (s:=decide (e.k=2)) (t:=[]) xf (by simp) o
 rw[aE (by simpa using e23)]at o;rw[bO,aO];refine⟨λe4=>?_,λe4=>?_⟩
 ·rw[aJ e4]at o;refine eQ (off:=1) I rfl ?_;simp only[dI,eY,cW,aB,aN,aY,bB];refine⟨by omega,by omega,?_⟩;exact hflat (k:=3) (s:=false) (t:=e.t) (Chg.refl _ _) (by have:=ho.tl;omega) o
 rw[aE e4]at o;rw[bO,aO];refine⟨λe5=>?_,λe5=>?_⟩
 ·rw[aJ e5]at o;refine eQ (off:=1) I rfl ?_;exact IP λw3 xf=>hflat (k:=4) (s:=false) (t:=e.t) xf (by have:=ho.tl;omega) o
 rw[aE e5]at o;rw[bO,aO];refine⟨λe9=>?_,λe9=>?_⟩
 ·rw[aJ e9]at o;have hx2d:=j w2;have xl:=yb.next hx2d;have hb4d:=hx2d.at I id;rw[eD];refine eQ (off:=3) xl.pp rfl ?_;refine eQ (off:=1) hb4d rfl ?_;have LV:∀{w':World},Ext w2.drew w'->(aZ 3 (.pointer (some ⟨p,0,none⟩)) λt40=>ldW false 1 t40 w' λx=>x=.map (some m))/\(aZ 1 (.pointer (some ⟨b4,0,none⟩)) λt42=>ldW false 1 t42 w' λx=>x=str e.t):=λ{w'} hx=>
   ⟨eQ (off:=3) (hx.at xl.pp id) rfl rfl,eQ (off:=1) (hx.at hb4d id) rfl rfl⟩
  have found:∀(v:Value),(∀w',Ext w2.drew w'->∀{K:Value->Prop},K v->nZ P0 (Instr.lookup 79 (.map (some m)) (str e.t) true) w' K)->True:=λ_ _=>trivial;cases xp:env e.t with
  |none=>
   rw[xp]at o;have xo:=hN.none xp;have lk:∀{w':World} {K:Value->Prop},Ext w2.drew w'->K (.tuple #[.agg zv.toArray,.bool false])->nZ P0 (Instr.lookup 79 (.map (some m)) (str e.t) true) w' K:=λ{w' K} hx h=>
    EJ (KT:=ST) (ET:=VT) (z:=.agg zv.toArray) (by kernel_rfl) (by kernel_rfl) (by kernel_rfl) ((xl.next hx).mm) (λv hv=>by rw[xo]at hv;cases hv) λ_=>h
   refine lk (Chg.refl _ _) ?_;simp only[bL];refine⟨_,rfl,_,rfl,?_⟩;refine bI λb7 w17 zc yd xj hi=>?_;refine⟨lk hi rfl,(LV hi).2,(LV hi).1,?_⟩;refine cK xj rfl rfl rfl λw18 yc xi xh=>?_;have xc:Ext w2.drew w18:=hi.new xh (by omega);refine bU.cut (λ_ _=>False) ?_ (λ_ _ _ h=>h.elim);rw[eP,iS,dS];refine eQ (off:=4) (xc.at hb4d id) rfl ?_;exact mA (xl.ext.trans xc) (o.err rfl)
  |some v=>
   rw[xp]at o;obtain⟨cs,xo,xn,zb⟩:=hN.some xp;have lk:∀{w':World} {K:Value->Prop},Ext w2.drew w'->K (.tuple #[.agg cs.toArray,.bool true])->nZ P0 (Instr.lookup 79 (.map (some m)) (str e.t) true) w' K:=λ{w' K} hx h=>
    EJ (KT:=ST) (ET:=VT) (z:=.agg zv.toArray) (by kernel_rfl) (by kernel_rfl) (by kernel_rfl) ((xl.next hx).mm) (λv hv=>by rw[xo]at hv;cases hv;exact h) λhv=>by rw[xo]at hv;cases hv
   refine lk (Chg.refl _ _) ?_;simp only[bL];refine⟨_,rfl,_,rfl,?_⟩;refine bI λb7 w17 zc yd xj hi=>?_;refine⟨lk hi rfl,(LV hi).2,(LV hi).1,?_⟩;refine cK xj xn.rep.len rfl xn.rep.all_one λw18 yc xi xh=>?_;have xc:Ext w2.drew w18:=hi.new xh (by omega);have xa:=hx2d.trans xc;refine bU.go ?_;rw[eP,iW,cP];intro g;refine bZ xi xn.rep.len ?_;refine DR v zb (xn.rep.ext (hh.trans xa)) λcs' w22 yl zf=>?_;refine mP (Chg.refl _ _) o cs' w22 (xa.trans yl) (zf.mono λq _ hq=>xe xa q hq)
 rw[aE e9]at o;rw[bO,aO];refine⟨λe6=>?_,λe6=>?_⟩
 ·rw[aJ e6]at o;refine bZ I rfl ?_;refine LU (G:=λq=>G q/\q≠b6) ⟨⟨va,vk,rfl,yo,xz⟩⟩ yb U.items hg (by omega) (by omega) za (mP (Chg.refl _ _) o)
 rw[aE e6]at o;rw[bO,aO];refine⟨λe7=>?_,λe7=>?_⟩
 ·rw[aJ e7]at o;have zr:fC sv=true:=by obtain⟨T,L,h1,_⟩:=hI.it;exact vU h1
  have yx:∀{c:List Value} {i:Nat} {r:List (Nat×Nat×Value)} {K:List Value->Prop},dJ c ((i,1,sv)::r) K↔i<c.length/\dJ (c.set i sv) r K:=by
   obtain⟨T,L,h1,_⟩:=hI.it;obtain⟨p1,c1,e1,_⟩:=h1.shape;intro c i r K;rw[e1];exact uP _ _ _ _ _ rfl
  simp only[dI,yx,cW,aB,aN,aY,bB];refine⟨by omega,by omega,?_⟩;exact mP (Chg.refl _ _) o _ w2 (Chg.refl _ _) U.list
 rw[aE e7]at o;rw[bO,aO];refine⟨λe8=>?_,λe8=>?_⟩
 ·rw[aJ e8]at o;refine eQ (off:=3) I rfl ?_;refine(yy e8) (xz.ext hy) U.items (by omega) (λs hs=>by have:=ho.kl s hs;omega) (λx hx=>(pW (hg x hx)).few) λcs c w31 yk xr=>?_;simp only[bL];refine⟨_,rfl,_,rfl,?_⟩;refine mQ xr.rep.len xr.rep.all_one λb9 w33 zx zi ys xw=>?_;refine bZ ys xr.rep.len ?_;exact mP (Chg.refl _ _) o cs w33 (yk.trans xw) ((xr.ext' xw).mono λq _ hq=>xe (Chg.refl _ _) q hq)
 rw[aE e8]at o;rw[bO,aO];refine⟨λe10=>?_,λe10=>?_⟩
 ·rw[aJ e10]at o;have n1:=ho.a1 (.inl e10);refine bZ ((j w2).at I id) rfl ?_;refine(U.ext (j w2)).get (at0 (by omega)) λcs hj=>?_;exact Ni (G:=λq=>G q/\q≠b6) ⟨_,_,_,rfl,o1,o2⟩ hj (gd0 (by omega)) (hy.trans (j w2)) (xe (j w2)) (mP (j w2) o)
 rw[aE e10]at o;rw[bO,aO];refine⟨λe30=>?_,λe30=>?_⟩
 ·rw[aJ e30]at o;have n1:=ho.a1 (.inr (.inl e30));refine bZ ((j w2).at I id) rfl ?_;refine(U.ext (j w2)).get (at0 (by omega)) λcs hj=>?_;exact Uf (G:=λq=>G q/\q≠b6) ⟨_,_,_,rfl,o1,o2⟩ hj (gd0 (by omega)) (hy.trans (j w2)) (xe (j w2)) (mP (j w2) o)
 rw[aE e30]at o;rw[bO,aO];refine⟨λe11=>?_,λe11=>?_⟩
 ·rw[aJ e11]at o;have n2:=ho.a2 (.inl e11);refine bZ ((j w2).at I id) rfl ?_;refine(U.ext (j w2)).get (at0 (by omega)) λcs hj=>?_;refine(U.ext (j w2)).get (at1 (by omega)) λds xb=>?_;exact Xb (G:=λq=>G q/\q≠b6) (hT.ext (hh.trans (j w2))) ⟨_,_,_,rfl,o1,o2⟩ hj xb (gd0 (by omega)) (gd1 (by omega)) (hy.trans (j w2)) (xe (j w2)) (mP (j w2) o)
 rw[aE e11]at o;rw[bO,aO];refine⟨λe12=>?_,λe12=>?_⟩
 ·rw[aJ e12]at o;refine eQ (off:=1) I rfl ?_;refine hcall e12 zd hg (hT.ext hh) U.items λcs w45 yj xq=>?_;simp only[bL];refine⟨_,rfl,_,rfl,?_⟩;refine mQ xq.rep.len xq.rep.all_one λb11 w47 zj zh ya xv=>?_;have hz:=yj.trans xv;refine bU.cut (λst w'=>w'=w47/\(rG e.t l).2=0) ?_ ?_
  ·rw[gD,aO];refine⟨λhc=>?_,λhc=>⟨rfl,by omega⟩⟩;rw[aE hc]at o;refine eQ (off:=4) (hz.at I id) rfl ?_;exact mA (hy.trans hz) (o.err rfl)
  rintro st g2 w50 ⟨rfl,hc⟩;rw[aJ hc]at o;refine bZ ya xq.rep.len ?_;exact mP (Chg.refl _ _) o cs w50 hz ((xq.ext' xv).mono λq _ hq=>xe (Chg.refl _ _) q hq)
 rw[aE e12]at o;refine join2 λg2=>?_;simp only[aG];rw[bY];refine⟨λe13=>?_,λe13=>?_⟩
 ·have e13:e.k=13\/e.k=14:=by simpa using e13
  rw[aJ e13]at o;have n1:=ho.a1 (.inr (.inr e13));refine bZ ((j w2).at I id) rfl ?_;refine(U.ext (j w2)).get (at0 (by omega)) λcs hj=>?_;exact QC (G:=λq=>G q/\q≠b6) (hT.ext (hh.trans (j w2))) o1 o2 hj (gd0 (by omega)) (hy.trans (j w2)) (mP (j w2) o)
 have e13:¬(e.k=13\/e.k=14):=by simpa using e13
 rw[aE e13]at o;have e23':¬(e.k=2\/e.k=3):=by simpa using e23
 have n2:2<=l.length:=by have:=ho.a2 (.inr (.inr ⟨by omega,by omega⟩));omega
 refine join2 λg3=>?_;simp only[aG];rw[bY];refine⟨λe20=>?_,λe20=>?_⟩
 ·rw[aJ (by simpa using e20)]at o;refine U.get (at0 (by omega)) λcs hj=>?_;refine IH _ hj.rep λw60 xu=>?_;rw[eP];refine GdW.act (!gJ (Gi l)) (λw'=>Ext w60 w') (λ_=>Chg.refl _ _) (λ_ J hJ=>?_) λg4 w63 yh=>?_
  ·refine(U.ext xu).get (at1 (by omega)) λds xb=>?_;refine IH _ xb.rep λw62 yi=>?_;rw[eP];exact hJ w62 yi
  have xg:=xu.trans yh;simp only[aG,mI];rw[fU,bY];refine⟨λhu=>?_,λhk=>?_⟩
  ·rw[aE (by rintro⟨h1,h2⟩;simp[h1,h2]at hu)]at o;exact sO λw64 yg=>hflat (k:=1) (s:=false) (t:=[]) (xg.trans yg) (by simp) o
  ·have hk:gJ (Dw l)=true/\gJ (Gi l)=true:=by simpa using hk
   rw[aJ hk]at o;have hx2d:=xg.trans (j w63);refine(U.ext hx2d).get (at0 (by omega)) λcs' yr=>?_;refine(U.ext hx2d).get (at1 (by omega)) λds' yq=>?_;refine eQ (off:=0) (hx2d.at I id) rfl ?_;rw[bO];refine Xn yr.rep yq.rep λw67 xt=>?_;refine⟨eQ (off:=0) ((hx2d.trans xt).at I id) rfl rfl,?_⟩;have eqb:∀(s t:Bool) (K:Value->Prop),K (.bool (s==t))->eqW .bool false (.bool s) (.bool t) K:=λs t K h=>by
    cases s<;>cases t<;>exact h
   refine eqb _ _ _ ?_;exact pY λw68 yf=>hflat (k:=2) (t:=[]) (hx2d.trans (xt.trans yf)) (by simp) o
 rw[aE (by simpa using e20)]at o;refine join2 λg3=>?_;simp only[aG];rw[bY];refine⟨λe26=>?_,λe26=>?_⟩
 ·rw[aJ (by simpa using e26)]at o;refine bZ ((j w2).at I id) rfl ?_;refine(U.ext (j w2)).get (at0 (by omega)) λcs hj=>?_;refine(U.ext (j w2)).get (at1 (by omega)) λds xb=>?_;exact aB4 (G:=λq=>G q/\q≠b6) o1 o2 hj xb (hy.trans (j w2)) (mP (j w2) o)
 ·rw[aE (by simpa using e26)]at o;refine bZ ((j w2).at I id) rfl ?_;refine(U.ext (j w2)).get (at0 (by omega)) λcs hj=>?_;refine(U.ext (j w2)).get (at1 (by omega)) λds xb=>?_;exact Po (G:=λq=>G q/\q≠b6) (hT.ext (hh.trans (j w2))) o1 o2 hj xb (gd0 (by omega)) (gd1 (by omega)) (hy.trans (j w2)) (mP (j w2) o)
end
abbrev tG(ex:List Ex):Nat->Env->Nat->EvR JV:=λa env l=>uA ex (a+1) a env l
def PM(p m:Nat)(q:Nat):Prop:=q=p\/q=m
theorem Bu{p m k:Nat}(hp:¬G p)(hm:¬G m)(j:G k):¬PM p m k:=λe=>e.elim (λe=>hp (e▸j)) λe=>hm (e▸j)
theorem Ev.mv{w0:World}{p m:Nat}{f:Fl}{M:Lay}{look:Str->Option Value}{left:Nat}(h:Ev w0 w p m f M look left)(j:Chg S w w')(o:∀k,k<w.heap.size->S k->w0.heap.size<=k/\k≠p/\k≠m):Ev w0 w' p m f M look left:=by
 have j:=j.mono (T:=λk=>w0.heap.size<=k/\k≠p/\k≠m) o;exact h.keep j (λk=>by by_cases e:w0.heap.size<=k;exact .inl e;exact .inr λx=>e x.1) (λx=>x.2.1 rfl) λx=>x.2.2 rfl
theorem Ev.lt{w0:World}{p m:Nat}{f:Fl}{M:Lay}{look:Str->Option Value}{left:Nat}(h:Ev w0 w p m f M look left):p<w.heap.size/\m<w.heap.size:=⟨fA h.pp,h.mm.lt⟩
theorem FV.get{w0:World}{M:Lay}{fl:Fl}{e:Ex}{k:IntKind}{K:Value->Prop}(h:FV w0 M fl)(j:Ext w0 w)(hi:fl.ex[i]?=some e)(o:∀cs,Exc w0 e cs->K (.agg cs.toArray)):dP none 5 M.vE (.int k i) λp=>ldW true 5 p w K:=by
 obtain⟨va,vk,ec,h1,I⟩:=h.ee.2 i e hi;exact WO (h.oE.ext j) h.ee.1 (by omega) (List.getElem?_eq_some_iff.1 hi).1 ec (o _ ⟨va,vk,rfl,h1,I⟩)
theorem ZM{b:Nat}{ds:List Value}{v:JV}{K:Q0}(hb:w.heap[b]?=some (.cells ds.toArray VT (0,0)))(hd:ds.length=5)(h:cM (λq=>G q/\q≠b) w v cs)(I:∀w',Chg (λq=>q=b) w w'->cM G w' v cs->K (.agg cs.toArray) w'):
  stW 5 (.pointer (some ⟨b,0,none⟩)) (.agg cs.toArray) w λw5=>ldW true 5 (.pointer (some ⟨b,0,none⟩)) w5 λr6=>K r6 w5:=
 iI hb h.rep.len hd h.rep.all_one λw' o=>I w' o ((cM.chg o (λq j _ e=>j.2 e) h).mono λq _ j=>j.1)
section
variable [HX]
def EvK(w0 w:World)(p m:Nat)(f:Fl)(M:Lay)(look:Str->Option Value)(G:Nat->Prop)(r:EvR JV)(K:Q0):Prop:=match r with
 |.ok v l=>∀cs w',Chg (PM p m) w w'->Ev w0 w' p m f M look l->cM G w' v cs->dK v=true->l<=20000->K (.agg cs.toArray) w'
 |.err c a=>Nl w0 c a
def EvB(w0 w:World)(p m:Nat)(f:Fl)(M:Lay)(look:Str->Option Value)(G:Nat->Prop)(r:EvR JV)(K:Q0):Prop:=match r with
 |.ok v l=>∀cs w',Chg (PM p m) w w'->Ev w0 w' p m f M look l->cM G w' v cs->l<=20000->K (.agg cs.toArray) w'
 |.err c a=>Nl w0 c a
theorem EvB.ok{w0:World}{p m:Nat}{f:Fl}{M:Lay}{look:Str->Option Value}{r:EvR JV}{K:Q0}{v:JV}{l:Nat}(h:EvB w0 w p m f M look G r K)(j:r=.ok v l):∀cs w',Chg (PM p m) w w'->Ev w0 w' p m f M look l->cM G w' v cs->l<=20000->K (.agg cs.toArray) w':=by subst j;exact h
def Zv(w0:World)(p m:Nat)(f:Fl)(M:Lay)(i:Nat):Prop:=∀{env:Env} {look:Str->Option Value} {left:Nat} {G:Nat->Prop} {w:World} {K:Q0},Ev w0 w p m f M look left->gR G w look env->¬G p->¬G m->(∀q,w.heap.size<=q->G q)->left<=20000->
 EvK w0 w p m f M look G (tG f.ex i env left) K->aC P0 35 [.pointer (some ⟨p,0,none⟩),i64 (i:Nat)] w K
def LJ:Prop:=∀{f:Fl} {M:Lay} {p m left:Nat} {look:Str->Option Value} {env:Env} {e:Ex} {ec:List Value} {G:Nat->Prop} {w0 w:World} {K:Q0},Exc w0 e ec->Ev w0 w p m f M look left->gR G w look env->3<=e.args.length->(∀a∈e.args,Zv w0 p m f M a)->
 ¬G p->¬G m->(∀q,w.heap.size<=q->G q)->left<=20000->EvB w0 w p m f M look G (Td (tG f.ex) e env left) K->aC P0 58 [.pointer (some ⟨p,0,none⟩),.agg ec.toArray] w K
end
abbrev MpT:TypeId:=79
def Dc(look:Str->Option Value)(t:Str)(v:Value):Str->Option Value:=λs=>if s=t then some v else look s
theorem gR.set{look:Str->Option Value}{env:Env}(h:gR G w look env){t:Str}{x:JV}(j:cM G w x cs)(hf:tR x=true):gR G w (Dc look t (.agg cs.toArray)) (env.set t x):=λs=>by
 unfold Dc Env.set
 by_cases e:s=t
 ·rw[aJ e,aJ e]
  exact⟨cs,rfl,j,hf⟩
 ·rw[aE e,aE e]
  exact h s
theorem gR.congr{look look':Str->Option Value}{env:Env}(h:gR G w look env)(j:∀s,look s=look' s):gR G w look' env:=λs=>by rw[<-j];exact h s
theorem Ev.congr{w0:World}{p m:Nat}{f:Fl}{M:Lay}{look look':Str->Option Value}{left:Nat}(h:Ev w0 w p m f M look left)(j:∀s,look s=look' s):Ev w0 w p m f M look' left:=⟨h.ext,h.pp,h.mm.congr j,h.fv,h.hp,h.hm,h.ne⟩
section
variable [HX]
theorem Mu{w0:World}{p m:Nat}{f:Fl}{M:Lay}{look:Str->Option Value}{left:Nat}{t:Str}{K:World->Prop}(h:Ev w0 w p m f M look left)
  (I:∀w',Ev w0 w' p m f M (Dc look t v) left->Chg (λq=>q=m) w w'->w'.heap.size=w.heap.size->K w'):nY P0 (Instr.mapUpdate MpT (.map (some m)) (str t) v) w K:=
 RP (KT:=ST) (ET:=VT) (by kernel_rfl) (by kernel_rfl) h.mm λw' o hm j=>I w' ⟨h.ext.then j λk J e=>by have e:k=m:=e;have:=h.hm;omega,j.at h.pp h.ne,hm,h.fv,h.hp,h.hm,h.ne⟩ j o
theorem aBH{w0:World}{p m:Nat}{f:Fl}{M:Lay}{look:Str->Option Value}{left:Nat}{t:Str}{ty:TypeId}{K:Q0}(h:Ev w0 w p m f M look left)
  (I:∀w',Ev w0 w' p m f M (λs=>if s=t then none else look s) left->Chg (λq=>q=m) w w'->w'.heap.size=w.heap.size->K (.tuple #[]) w'):dF P0 (Builtin.delete_ #[MpT,ST] ty #[.map (some m),str t]) w K:=
 RU (KT:=ST) (ET:=VT) (by kernel_rfl) (by kernel_rfl) h.mm λw' o hm j=>I w' ⟨h.ext.then j λk J e=>by have e:k=m:=e;have:=h.hm;omega,j.at h.pp h.ne,hm,h.fv,h.hp,h.hm,h.ne⟩ j o
theorem aBK{f:Fl}{M:Lay}{p m left:Nat}{look:Str->Option Value}{env:Env}{e:Ex}{ec:List Value}{w0:World}{K:Q0}(he:Exc w0 e ec)(hE:Ev w0 w p m f M look left)(hN:gR G w look env)(ha:2<=e.args.length)(hV:∀a∈e.args,Zv w0 p m f M a)
  (hp:¬G p)(hm:¬G m)(hG:∀q,w.heap.size<=q->G q)(hl:left<=20000)(hK:EvB w0 w p m f M look G (SF (tG f.ex) e env left) K)(hgood:∀a env l v l',tG f.ex a env l=.ok v l'->dK v=true):
  aC P0 59 [.pointer (some ⟨p,0,none⟩),.agg ec.toArray] w K:=by
 refine aCI ?_;unfold W59;refine IZ he hE.ext λb3 w1 va vk bm vo bh bu bg uv vn=>?_;refine bI λb4 w2 bs bf uu zl=>?_;have xo:=vn.trans zl;have yn:=zl.at uv id;have vi:=hE.next xo;have xq:=hE.lt;have h0:=hE.ext.size;have arg:∀(j:Nat) {w':World} {K:Value->Prop},j<e.args.length->Ext w0 w'->w'.heap[b3]?=some (.cells [i64 e.k,str e.t,va,vk,i64 e.a].toArray 93 (0,0))->K (i64 (rU e j:Nat))->aZ 2 (.pointer (some ⟨b3,0,none⟩)) λt7=>ldW false 1 t7 w' λt8=>dP none 1 t8 (i64 (j:Nat)) λt9=>ldW false 1 t9 w' K:=λj {w' K} hj hx hb hk=>by
  refine eQ (off:=2) hb rfl ?_;refine rQ (vo.ext hx) (by simp[ints]) (x:=i64 (rU e j:Nat)) ?_ hk;unfold rU;rw[List.getD_eq_getElem?_getD,List.getElem?_eq_getElem hj];simp[ints,hj]
 have memA:∀j,j<e.args.length->rU e j∈e.args:=λj hj=>by
  unfold rU;rw[List.getD_eq_getElem?_getD,List.getElem?_eq_getElem hj];exact BZ hj
 refine arg 0 (by omega) vi.ext yn ?_;have vz:gR (λq=>G q/\q≠b4) w2 look env:=(hN.mono (G':=λq=>G q/\q≠b4) λq xq J=>⟨J,by omega⟩).ext xo;refine hV _ (memA 0 (by omega)) vi vz (λe=>hp e.1) (λe=>hm e.1) (λq J=>⟨hG q (by omega),by omega⟩) hl ?_;unfold SF at hK;cases hr:tG f.ex (rU e 0) env left with
 |err c a=>
  rw[hr]at hK;exact hK
 |ok c l=>
  rw[hr]at hK;simp only[EvR.bind]at hK;intro cs w3 ye ad yc ud zz;have s3:=ye.size;have ux:=ye.at yn (λe=>by rcases e with e|e<;>omega);have uw:=ye.at uu (λe=>by rcases e with e|e<;>omega);refine mQ yc.rep.len yc.rep.all_one λb5 w5 br bd xk xn=>?_;obtain⟨svc,kvc,_,_,_,rfl,_⟩:=Gt yc;have zi:=ad.next xn;have yz:Chg (PM p m) w w5:=((Chg.of_ext xo).trans ye).then xn λ_ _ e=>e.elim;have ym:=xn.at ux id;have yl:=xn.at uw id;have yy:=yc.ext' xn;have fin:∀{v:JV} {l:Nat} {ds:List Value} {w':World},Chg (PM p m) w w'->Ev w0 w' p m f M look l->w'.heap[b4]?=some (.cells zr5.toArray VT (0,0))->cM (λq=>G q/\q≠b4) w' v ds->l<=20000->(∀cs w',Chg (PM p m) w w'->Ev w0 w' p m f M look l->cM G w' v cs->l<=20000->K (.agg cs.toArray) w')->
    stW 5 (.pointer (some ⟨b4,0,none⟩)) (.agg ds.toArray) w' λw5=>ldW true 5 (.pointer (some ⟨b4,0,none⟩)) w5 λr6=>K r6 w5:=λ{v l ds w'} hc ae hb h' yd hk=>
   ZM hb rfl h' λw'' yj ah=>hk _ w'' (hc.then yj λk hk e=>by have e:k=b4:=e;omega) (ae.mv yj λk _ e=>by have e:k=b4:=e;exact⟨by omega,by omega,by omega⟩) ah yd
  refine bU.cut (λst w'=>Ext w5 w'/\c.k=5) ?_ ?_
  ·refine bZ xk rfl ?_;refine xU yy.rep λw7 hg _=>?_;have vt:=yz.then hg λ_ _ e=>e.elim;rw[aO];refine⟨λk1=>?_,λk1=>?_⟩
   ·rw[aJ k1]at hK;refine bZ (hg.at xk id) rfl ?_;exact fin vt (zi.next hg) (hg.at yl id) (yy.ext' hg) zz hK
   rw[aE k1]at hK;refine eQ (off:=0) (hg.at xk id) rfl ?_;rw[gD,aO];refine⟨λk2=>?_,λk2=>⟨hg,by omega⟩⟩;rw[aJ k2]at hK;refine eQ (off:=4) (hg.at ym id) rfl ?_;exact mA (zi.next hg).ext hK
  rintro st g w11 ⟨zn,k5⟩;rw[aE (by omega),aE (λe=>e k5)]at hK;have xm:∀w':World,Ext w' w'.drew:=λw'=>Chg.drew (Chg.refl (λ_=>False) w');have hx11d:=zn.trans (xm w11);have xl:=zi.next hx11d;have xc:=hx11d.at ym id;have zg:=hx11d.at yl id;have ze:=hx11d.at xk id;have uo:Chg (PM p m) w w11.drew:=yz.then hx11d λ_ _ e=>e.elim;rw[eD];refine eQ (off:=3) xl.pp rfl ?_;refine eQ (off:=1) xc rfl ?_;have lk:∀{w':World} {K:Value->Prop},Ext w11.drew w'->K (match look e.t with|some v=>.tuple #[v,.bool true]|none=>.tuple #[.agg zv.toArray,.bool false])->nZ P0 (Instr.lookup MpT (.map (some m)) (str e.t) true) w' K:=λ{w' K} hx h=>by
   refine EJ (KT:=ST) (ET:=VT) (z:=.agg zv.toArray) (by kernel_rfl) (by kernel_rfl) (by kernel_rfl) ((xl.next hx).mm) (λv hv=>?_) λhv=>?_
   ·rw[hv]at h;exact h
   ·rw[hv]at h;exact h
  obtain⟨was,th,wcs,zr,zq,yw,zp⟩:∃(was:Value) (th:Bool) (wcs:List Value),(match look e.t with|some v=>Value.tuple #[v,.bool true]|none=>.tuple #[.agg zv.toArray,.bool false])=.tuple #[was,.bool th]/\was=.agg wcs.toArray/\(wcs.length=5/\wcs.all fC=true)/\look e.t=(if th=true then some was else none):=by
   cases ue:env e.t with
   |none=>rw[hN.none ue];exact⟨_,false,zv,rfl,rfl,⟨rfl,rfl⟩,rfl⟩
   |some v=>
    obtain⟨ws,h1,h2,_⟩:=hN.some ue;rw[h1];exact⟨_,true,ws,rfl,rfl,⟨h2.rep.len,h2.rep.all_one⟩,rfl⟩
  rw[zr]at lk;refine lk (Chg.refl _ _) ?_;simp only[bL];refine⟨_,rfl,_,rfl,?_⟩;refine bI λb6 w12 bq zj uq xe=>?_;refine⟨lk xe rfl,eQ (off:=1) (xe.at xc id) rfl rfl,eQ (off:=3) (xe.at xl.pp id) rfl rfl,?_⟩;rw[zq];refine cK uq yw.1 rfl yw.2 λw13 au za um=>?_;have zm:Ext w11.drew w13:=xe.new um (by omega);simp only[dI,cW,aB,aN,aY];refine⟨by omega,?_⟩;refine mQ (cs:=[i64 5,.bool false,str [],.slice none 0 0,.slice none 0 0]) rfl rfl λb8 w16 bp ar yk yh=>?_;have I:=zm.trans yh;have vj:=xl.next I;have uk:Chg (PM p m) w w16:=uo.then I λ_ _ e=>e.elim;have zd:=I.at ze id;refine eQ (off:=3) zd rfl ?_;have zu:cM (λq=>(G q/\q≠b4)/\q<w5.heap.size) w16 c [i64 c.k,.bool c.b,str c.t,svc,kvc]:=((yy.mono (G':=λq=>(G q/\q≠b4)/\q<w5.heap.size) λq xq J=>⟨J,xq⟩).ext' hx11d).ext' I;have yp:=zu.its;rw[yp.items.len];have s11:w5.heap.size<=w11.drew.heap.size:=hx11d.size;have s12:w12.heap.size=w11.drew.heap.size+1:=zj;have s05:=yz.size;have ay:=(pW ud).lens.1;have zy:∀x∈c.xs,dK x=true:=λx hx=>Fu ud hx;have vy:gR (λq=>G q/\q<w.heap.size) w look env:=hN.mono λq xq J=>⟨J,xq⟩;have pmlt:∀{q:Nat},w.heap.size<=q->¬PM p m q:=λ{q} h e=>by rcases e with e|e<;>omega
  have ya:=I.at xc id;have xz:=I.at zg id;have xx:=yh.at za id;refine cY.go (λst w'=>∃(i:Nat) (rv:Value) (rs:List JV) (l':Nat) (lki:Str->Option Value),st=[i64 (i:Nat)]/\i<=c.xs.length/\rs.length=i/\Chg (λq=>PM p m q\/w16.heap.size<=q\/q=b8) w16 w'/\Ev w0 w' p m f M lki l'/\(∀s,s≠e.t->lki s=look s)/\l'<=20000/\
    w'.heap[b8]?=some (.cells [i64 5,.bool false,str [],rv,.slice none 0 0].toArray VT (0,0))/\qF (λq=>(G q/\q≠b4)/\q≠b8) w' w16.heap.size rv rs/\
    oD (tG f.ex) env e.t (rU e 1) c.xs l=(oD (tG f.ex) env e.t (rU e 1) (c.xs.drop i) l').bind λys l2=>.ok (rs++ys) l2)
   (λst _=>match st with|[.int _ i]=>c.xs.length-i.toNat|_=>0)
   ⟨0,.slice none 0 0,[],l,look,rfl,fR _,rfl,Chg.refl _ _,vj,λ_ _=>rfl,zz,yk,qF.nil _ _ _,by rw[cZ];cases oD (tG f.ex) env e.t (rU e 1) c.xs l<;>rfl⟩ ?_
  rintro st g2 w18 ⟨i,rv,rs,l',lki,rfl,hi,vq,hz,yt,xg,yd,zw,hR,U⟩;simp only[aG];have s18:=hz.size;have keep:∀{b:Nat} {o:Obj},w16.heap[b]?=some o->w.heap.size<=b->b<w16.heap.size->b≠b8->w18.heap[b]?=some o:=λ{b o} h h1 h2 h3=>hz.at h λe=>by
   rcases e with e|e|e
   ·exact pmlt h1 e
   ·omega
   ·exact h3 e
  have l4:=fA xz;have l3:=fA ya;have l6:=fA xx;have l8:=fA yk;have ht:=keep ya (by omega) l3 (by omega);have xy:=keep xz (by omega) l4 (by omega);have xw:=keep xx (by omega) l6 (by omega);have ug:Chg (PM p m) w w18:=uk.then hz λk hk e=>by
   rcases e with e|e|e
   ·exact e
   ·omega
   ·omega
  rw[dU,aO];refine⟨λxf=>?_,λbj=>?_⟩
  ·have xf:i<c.xs.length:=by omega
   obtain⟨x,yu⟩:∃x,c.xs[i]?=some x:=⟨_,List.getElem?_eq_getElem xf⟩;have vr:=zy x (bG yu);have vs:c.xs.drop i=x::c.xs.drop (i+1):=by rw[cL xf];congr 1;exact(List.getElem?_eq_some_iff.1 yu).2
   rw[vs]at U;simp only[oD]at U;have vd:jX (λq=>(G q/\q≠b4)/\q<w5.heap.size) w18 svc c.xs:=yp.chg hz λk hk _ e=>by
    rcases e with e|e|e
    ·exact Bu hp hm hk.1.1 e
    ·have:=hk.2;omega
    ·have:=hk.2;omega
   refine vd.get yu λxs yb=>?_;refine mQ yb.rep.len yb.rep.all_one λb10 w20 ba ao zb zk=>?_;have hx20d:=zk.trans (xm w20);have yr:=yt.next hx20d;rw[eD];refine eQ (off:=3) yr.pp rfl ?_;refine eQ (off:=1) (hx20d.at ht id) rfl ?_;refine bZ ((xm w20).at zb id) yb.rep.len ?_;refine Mu yr λw21 vh uj an=>?_;have hx21d:=xm w21;have hE21d:=vh.next hx21d;have sd21:w21.drew.heap.size=w21.heap.size:=rfl;have sd20:w20.drew.heap.size=w20.heap.size:=rfl;have hy:Chg (PM p m) w18 w21.drew:=((Chg.of_ext hx20d).then uj λk _ e=>.inr e).then hx21d λ_ _ e=>e.elim;have xv:=hy.at zw (pmlt (by omega));have zh:=hy.at ht (pmlt (by omega));have vv:=hy.at xy (pmlt (by omega));have vu:=hy.at xw (pmlt (by omega));refine eQ (off:=3) xv rfl ?_;refine arg 1 (by omega) hE21d.ext zh ?_;have xp:∀q,rv.ownBlock=some q->w16.heap.size<=q/\q<w18.heap.size:=λq e=>hR.inb e;have ax:∀q,PM p m q->rv.ownBlock≠some q:=λq e e2=>pmlt (by have:=(xp q e2).1;omega) e;have uf:Chg (PM p m) w w21.drew:=ug.trans hy;have vx:gR (λq=>((G q/\q≠b4)/\q≠b8)/\rv.ownBlock≠some q) w21.drew (Dc lki e.t (.agg xs.toArray)) (env.set e.t x):=by
    have h1:gR (λq=>G q/\q<w.heap.size) w21.drew look env:=vy.chg uf λk hk _=>Bu hp hm hk.1;have h2:gR (λq=>((G q/\q≠b4)/\q≠b8)/\rv.ownBlock≠some q) w21.drew look env:=h1.mono λq _ J=>⟨⟨⟨J.1,by have:=J.2;omega⟩,by have:=J.2;omega⟩,λe=>by have:=(xp q e).1;have:=J.2;omega⟩;have h3:cM (λq=>((G q/\q≠b4)/\q≠b8)/\rv.ownBlock≠some q) w21.drew x xs:=(cM.chg hy (λk hk _=>Bu hp hm hk.1.1) yb).mono λq _ J=>⟨⟨J.1,by have:=J.2;omega⟩,λe=>by have:=(xp q e).1;have:=J.2;omega⟩;refine(h2.set h3 (pW vr).few).congr λs=>?_;unfold Dc;by_cases es:s=e.t
    ·rw[aJ es,aJ es]
    ·rw[aE es,aE es,xg s es]
   have sz21:=hy.size;refine hV _ (memA 1 (by omega)) hE21d vx (λe=>hp e.1.1.1) (λe=>hm e.1.1.1) (λq J=>⟨⟨⟨hG q (by omega),by omega⟩,by omega⟩,λe=>by have:=(xp q e).2;omega⟩) yd ?_;cases zt:tG f.ex (rU e 1) (env.set e.t x) l' with
   |err c' a'=>
    rw[zt]at U;have aa:Nl w0 c' a':=by
     rw[U]at hK;exact hK
    exact aa
   |ok y l2=>
    rw[zt]at U;intro ys w22 yi vg vl az ua;have yg:=hy.trans yi;have xu:=yi.at xv (pmlt (by omega));refine⟨eQ (off:=3) xu rfl rfl,?_⟩;refine AE vl.rep.len λt30 w23 zs xd=>?_;have xt:=xd.at xu id;refine⟨eQ (off:=3) xt rfl rfl,?_⟩;have ho:=yg.then xd λ_ _ e=>e.elim;have s23:=ho.size;have vb:qF (λq=>(G q/\q≠b4)/\q≠b8) w23 w16.heap.size rv rs:=hR.chg ho (λk hk _=>Bu hp hm hk.1.1) λk hk _=>pmlt (by omega);refine vb.app zs (vl.ext' xd) (by omega) (by omega) λrv' w24 yo xi=>?_;have s24:=xi.size;have xb:∀q,rv.ownBlock=some q->w16.heap.size<=q:=λq e=>(xp q e).1;rw[bT];refine iO (off:=3) (xi.at xt λe=>by have:=xb b8 e;omega) yo.one (by simp) λw25 ak uy xr=>?_;rw[cI,up1 (by omega)];have yf:Chg (λq=>PM p m q\/w16.heap.size<=q\/q=b8) w18 w25:=((ho.mono (T:=λq=>PM p m q\/w16.heap.size<=q\/q=b8) λk _ e=>.inl e).then xi λk _ e=>.inr (.inl (xb k e))).then xr λk _ e=>.inr (.inr e);refine⟨⟨i+1,rv',rs++[y],l2,Dc lki e.t (.agg xs.toArray),rfl,xf,by simp[vq],hz.trans yf,?_,?_,ua,?_,?_,?_⟩,by simp only[aW];omega⟩
    ·exact((vg.next xd).mv xi λk _ e=>by have:=xb k e;exact⟨by omega,by omega,by omega⟩).mv xr λk _ e=>by have e:k=b8:=e;exact⟨by omega,by omega,by omega⟩
    ·intro s hs;unfold Dc;rw[aE hs,xg s hs]
    ·rw[uy];simp
    ·exact yo.chg xr (λq J _ e=>J.2 e) λq J _ e=>by have e:q=b8:=e;omega
    ·rw[U];simp only[EvR.bind];cases oD (tG f.ex) env e.t (rU e 1) (c.xs.drop (i+1)) l2<;>simp
  ·obtain rfl:i=c.xs.length:=by omega
   rw[eJ]at U;have U:oD (tG f.ex) env e.t (rU e 1) c.xs l=.ok rs l':=by rw[U];simp[oD,EvR.bind]
   rw[U]at hK;have hK:EvB w0 w p m f M look G (.ok (lV rs) l') K:=hK;have hx18d:=xm w18;have hE18d:=yt.next hx18d;have sd18:w18.drew.heap.size=w18.heap.size:=rfl;refine bU.cut (λst w'=>Chg (PM p m) w18 w'/\Ev w0 w' p m f M look l') ?_ ?_
   ·rw[eD];refine eQ (off:=3) hE18d.pp rfl ?_;refine eQ (off:=1) (hx18d.at ht id) rfl ?_;refine aBH hE18d λw27 yq ui aj=>?_;have xj:Chg (PM p m) w18 w27:=(Chg.of_ext hx18d).then ui λk _ e=>.inr e;rw[bY];refine⟨λyx=>?_,λyx=>⟨xj,yq.congr λs=>?_⟩⟩
    ·rw[eD];have hx27d:=xm w27;have hE27d:=yq.next hx27d;have hc1827d:=xj.then hx27d λ_ _ e=>e.elim;refine eQ (off:=3) hE27d.pp rfl ?_;refine eQ (off:=1) (hc1827d.at ht (pmlt (by omega))) rfl ?_;refine bZ (hc1827d.at xw (pmlt (by omega))) yw.1 ?_;refine Mu hE27d λw28 vf uh ai=>⟨hc1827d.then uh λk _ e=>.inr e,vf.congr λs=>?_⟩;unfold Dc;by_cases es:s=e.t
     ·rw[aJ es,es,zp,aJ yx,zq]
     ·rw[aE es];show(if s=e.t then none else lki s)=_;rw[aE es,xg s es]
    ·show(if s=e.t then none else lki s)=_;by_cases es:s=e.t
     ·rw[aJ es,es,zp,aE (by rw[yx];simp)]
     ·rw[aE es,xg s es]
   rintro st g4 w29 ⟨xh,ve⟩;have zc:=xh.at zw (pmlt (by omega));have zf:=xh.at xy (pmlt (by omega));refine bZ zc rfl ?_;have uz:qF (λq=>(G q/\q≠b4)/\q≠b8) w29 w16.heap.size rv rs:=hR.chg xh (λk hk _=>Bu hp hm hk.1.1) λk hk _=>pmlt (by omega);have zx:∀q,w16.heap.size<=q->(G q/\q≠b4)/\q≠b8:=λq J=>⟨⟨hG q (by omega),by omega⟩,by omega⟩;have vc:jX (λq=>G q/\q≠b4) w29 rv rs:=(uz.items zx (by omega)).mono λq _ J=>J.1;exact fin (ug.trans xh) ve zf vc.list yd (hK.ok rfl)
end
structure LI[HX](ex:List Ex):Prop where
 ok:nA ex
 sh:∀e∈ex,aDl e
 call:∀e∈ex,e.k=12->xZ e.t e.args.length
 obj:∀e∈ex,e.k=8->ObC
 cnd:∀e∈ex,e.k=28->LJ
theorem OD{ex:List Ex}(h:nA ex){env:Env}{left l:Nat}{v:JV}(j:tG ex i env left=.ok v l):dK v=true:=by
 have j:uA ex (i+1) i env left=.ok v l:=j;rw[uA]at j;cases o:ex[i]? with
 |none=>rw[o]at j;cases j
 |some e=>
  rw[o]at j;simp only[yN]at j;split at j
  ·cases j
  ·cases hb:tX (uA ex i) ex e env (left-1)with
   |err c a=>rw[hb]at j;cases j
   |ok u q=>
    rw[hb]at j;simp only[EvR.bind]at j;split at j
    ·rename_i I;cases j;exact I
    ·cases j
section
variable [HX]
theorem TP{f:Fl}{M:Lay}{p m:Nat}{w0:World}(hT:uE w0)(hX:LI f.ex)(ui:f.ex.length<=1000000):∀(i:Nat),i<f.ex.length->Zv w0 p m f M i:=by
 intro i;induction i using Nat.strongRecOn with
 |ind i ih=>
 intro hi env look left G w K hE hN hp hm hG hl hK;obtain⟨e,he⟩:∃e,f.ex[i]?=some e:=⟨_,List.getElem?_eq_getElem hi⟩;have hz:=bG he;have ho:=hX.sh e hz;have hahead:=hX.ok.ahead i e he;have hV:∀a∈e.args,Zv w0 p m f M a:=λa ha=>ih a (hahead a ha) (by have:=hahead a ha;omega);have zt:∀a∈e.args,a<f.ex.length:=λa ha=>by have:=hahead a ha;omega
 have hstep:tG f.ex i env left=yN (tG f.ex) f.ex e env left:=zP hX.ok he (by omega) env left;rw[hstep]at hK;refine aCW ?_;unfold W35;refine bI λb4 w1 ux uq zf yo=>?_;have ym:=hE.next yo;have yf:=hE.lt;have h0:=hE.ext.size;rw[eD,bT];refine eQ (off:=0) ym.pp rfl ?_;refine hE.fv.get ym.ext he λec zu=>?_;obtain⟨va,vk,rfl,xb,xq⟩:=zu.it;refine bI λb5 w2 uw uo ze zq=>?_;refine cK (l:=[i64 e.k,str e.t,va,vk,i64 e.a]) ze rfl rfl (by
  show(true&&(true&&(fC va&&(fC vk&&(true&&true)))))=true;rw[vU xb,vU xq];rfl) λw3 um hy zx=>?_
 have xh:Ext w1 w3:=zq.new zx (by omega);have yn:=yo.trans xh;have xd:=ym.next xh;have zk:=xh.at zf id;have pmlt:∀{q:Nat},w.heap.size<=q->¬PM p m q:=λ{q} h e=>by rcases e with e|e<;>omega
 unfold yN at hK;refine bU.cut (λst w'=>w'=w3/\left≠0) ?_ ?_
 ·rw[eD];refine eQ (off:=4) xd.pp rfl ?_;rw[bO,aO];refine⟨λh=>?_,λh=>⟨rfl,by omega⟩⟩;rw[aJ (by omega)]at hK;refine eQ (off:=4) hy rfl ?_;exact mA xd.ext hK
 rintro st g w6 ⟨rfl,zs⟩;rw[aE zs]at hK;rw[eD];refine eQ (off:=4) xd.pp rfl ?_;rw[kW,cN (by omega) (by omega),show((left:Int)-1)=((left-1:Nat):Int)by omega,eD,bT];refine iO (off:=4) xd.pp rfl (by simp) λw7 uk zy xj=>?_;have ud:Ev w0 w7 p m f M look (left-1):=⟨xd.ext.then xj λk hk e=>by have e:k=p:=e;have:=hE.hp;omega,by rw[zy];simp,xd.mm.at_ xj (λe=>hE.ne e.symm),hE.fv,hE.hp,hE.hm,hE.ne⟩;have zj:=xj.at zk (λe=>by have e:b4=p:=e;omega);have zh:=xj.at hy (λe=>by have e:b5=p:=e;omega);refine bI λb6 w8 uv uj yc xp=>?_;have xv:=ud.next xp;have zi:=xp.at zj id;have I:=xp.at zh id;have yg:Chg (PM p m) w w8:=((Chg.of_ext yn).then xj λk _ e=>.inl e).then xp λ_ _ e=>e.elim;have s3:=yn.size;have s8:=yg.size;have l5:=fA hy;have l6:=fA yc;have xu:gR (λq=>(G q/\q≠b4)/\q≠b6) w8 look env:=(hN.mono (G':=λq=>(G q/\q≠b4)/\q≠b6) λq yf hq=>⟨⟨hq,by omega⟩,by omega⟩).chg yg λk hk _=>Bu hp hm hk.1.1;have yu:¬((G p/\p≠b4)/\p≠b6):=λe=>hp e.1.1;have yx:¬((G m/\m≠b4)/\m≠b6):=λe=>hm e.1.1;have xn:∀q,w8.heap.size<=q->(G q/\q≠b4)/\q≠b6:=λq hq=>⟨⟨hG q (by omega),by omega⟩,by omega⟩;generalize hB:tX (tG f.ex) f.ex e env (left-1)=B at hK;refine bU.cut (λst w'=>∃v l cs,B=.ok v l/\l<=20000/\Chg (PM p m) w w'/\Ev w0 w' p m f M look l/\w'.heap[b6]?=some (.cells cs.toArray VT (0,0))/\cs.length=5/\cM (λq=>G q/\q≠b4) w' v cs/\w'.heap[b4]?=some (.cells zr5.toArray VT (0,0))/\w'.heap[b5]?=some (.cells [i64 e.k,str e.t,va,vk,i64 e.a].toArray 93 (0,0))) ?_ ?_
 ·have fin:∀{v:JV} {l:Nat} {cs:List Value} {w9:World} {J:World->Prop},B=.ok v l->l<=20000->Chg (PM p m) w8 w9->Ev w0 w9 p m f M look l->cM (λq=>(G q/\q≠b4)/\q≠b6) w9 v cs->
    (∀w',(∃v l cs,B=.ok v l/\l<=20000/\Chg (PM p m) w w'/\Ev w0 w' p m f M look l/\w'.heap[b6]?=some (.cells cs.toArray VT (0,0))/\cs.length=5/\cM (λq=>G q/\q≠b4) w' v cs/\w'.heap[b4]?=some (.cells zr5.toArray VT (0,0))/\w'.heap[b5]?=some (.cells [i64 e.k,str e.t,va,vk,i64 e.a].toArray 93 (0,0)))->J w')->
    stW 5 (.pointer (some ⟨b6,0,none⟩)) (.agg cs.toArray) w9 J:=λ{v l cs w9 J} hb xi hs xo hh hJ=>by
   have zg:=hs.at yc (pmlt (by omega));refine cK zg hh.rep.len rfl hh.rep.all_one λw10 ug yh ht=>?_;refine hJ w10 ⟨v,l,cs,hb,xi,(yg.trans hs).then ht (λk hk e=>by have e:k=b6:=e;omega),xo.mv ht (λk _ e=>by have e:k=b6:=e;exact⟨by omega,by omega,by omega⟩),yh,hh.rep.len,?_,?_,?_⟩
   ·exact(cM.chg ht (λq hq _ e=>hq.2 e) hh).mono λq _ hq=>hq.1
   ·exact ht.at (hs.at zi (pmlt (by omega))) λe=>by have e:b4=b6:=e;omega
   ·exact ht.at (hs.at I (pmlt (by omega))) λe=>by have e:b5=b6:=e;omega
  refine eQ (off:=0) I rfl ?_;unfold tX at hB;rw[bO,aO];refine⟨λe28=>?_,λe28=>?_⟩
  ·refine bZ I rfl ?_;rw[aJ e28]at hB;refine(hX.cnd e hz e28) ⟨⟨va,vk,rfl,xb,xq⟩⟩ xv xu (ho.a3 e28) hV yu yx xn (by omega) ?_;rw[hB];cases B with
   |err c a=>exact hK
   |ok v l=>
    intro cs w9 hs xo hh xi;exact fin rfl xi hs xo hh λw' h=>h
  rw[aE e28]at hB;rw[bO,aO];refine⟨λe29=>?_,λe29=>?_⟩
  ·refine bZ I rfl ?_;rw[aJ e29]at hB;refine aBK ⟨⟨va,vk,rfl,xb,xq⟩⟩ xv xu (ho.a2 (.inr (.inl e29))) hV yu yx xn (by omega) ?_ (λa env l v l' h=>OD hX.ok h);rw[hB];cases B with
   |err c a=>exact hK
   |ok v l=>
    intro cs w9 hs xo hh xi;exact fin rfl xi hs xo hh λw' h=>h
  rw[aE e29]at hB;refine eQ (off:=2) I rfl ?_;rw[fL (xb.ext xv.ext)];refine cY.go (λst w'=>∃(i:Nat) (rv:Value) (rs:List JV) (l':Nat),st=[rv,i64 (i:Nat)]/\i<=e.args.length/\rs.length=i/\(∀x∈rs,dK x=true)/\Chg (λq=>PM p m q\/w8.heap.size<=q) w8 w'/\Ev w0 w' p m f M look l'/\l'<=20000/\qF (λq=>(G q/\q≠b4)/\q≠b6) w' w8.heap.size rv rs/\
    qH (tG f.ex) env e.args (left-1)=(qH (tG f.ex) env (e.args.drop i) l').bind λys l2=>.ok (rs++ys) l2)
   (λst _=>match st with|[_,.int _ i]=>e.args.length-i.toNat|_=>0)
   ⟨0,.slice none 0 0,[],left-1,rfl,fR _,rfl,λx hx=>by simp at hx,Chg.refl _ _,xv,by omega,qF.nil _ _ _,by rw[cZ];cases qH (tG f.ex) env e.args (left-1)<;>rfl⟩ ?_
  rintro st g2 w15 ⟨j,rv,rs,l',rfl,hj,yq,yr,xk,hv,xz,hR,o⟩;simp only[aG,cS];have s15:=xk.size;have xt:Chg (PM p m) w8 w15:=xk.mono λk hk e=>by rcases e with e|e;exact e;omega
  rw[dU,aO];refine⟨λxa=>?_,λuu=>?_⟩
  ·have xa:j<e.args.length:=by omega
   obtain⟨a,ha⟩:∃a,e.args[j]?=some a:=⟨_,List.getElem?_eq_getElem xa⟩;have zw:e.args.drop j=a::e.args.drop (j+1):=by rw[cL xa];congr 1;exact(List.getElem?_eq_some_iff.1 ha).2
   rw[zw]at o;simp only[qH]at o;refine rQ (xb.ext hv.ext) (by simp[ints]) (x:=i64 (a:Nat)) (by simp[ints,ha]) ?_;have xr:∀q,rv.ownBlock=some q->w8.heap.size<=q/\q<w15.heap.size:=λq e=>hR.inb e;have xm:gR (λq=>((G q/\q≠b4)/\q≠b6)/\rv.ownBlock≠some q) w15 look env:=
    ((xu.mono (G':=λq=>((G q/\q≠b4)/\q≠b6)/\q<w8.heap.size) λq yf hq=>⟨hq,yf⟩).chg xt λk hk _=>Bu hp hm hk.1.1.1).mono λq _ hq=>⟨hq.1,λe=>by have:=(xr q e).1;have:=hq.2;omega⟩
   refine hV a (bG ha) hv xm (λe=>hp e.1.1.1) (λe=>hm e.1.1.1) (λq hq=>⟨xn q (by omega),λe=>by have:=(xr q e).2;omega⟩) xz ?_;cases yt:tG f.ex a env l' with
   |err c' a'=>
    rw[yt]at o;simp only[EvR.bind]at o;rw[o]at hB;rw[<-hB]at hK;exact hK
   |ok y l2=>
    rw[yt]at o;intro ys w16 zd zn zo zb yz;refine AE zo.rep.len λt46 w17 yp xg=>?_;have U:=zd.then xg λ_ _ e=>e.elim;have s17:=U.size;have zm:qF (λq=>(G q/\q≠b4)/\q≠b6) w17 w8.heap.size rv rs:=hR.chg U (λk hk _=>Bu hp hm hk.1.1) λk hk _=>pmlt (by omega);have zz:=ho.al;refine zm.app yp (zo.ext' xg) (by omega) (by omega) λrv' w18 zl yb=>?_;rw[cI,up1 (by omega)];refine⟨⟨j+1,rv',rs++[y],l2,rfl,xa,by simp[yq],?_,?_,?_,yz,zl,?_⟩,by simp only[aW];omega⟩
    ·intro x hx;rcases dH.1 hx with h|h
     ·exact yr x h
     ·rw[bK]at h;rw[h];exact zb
    ·exact xk.trans ((U.mono λk _ e=>.inl e).then yb λk _ e=>.inr (xr k e).1)
    ·exact(zn.next xg).mv yb λk _ e=>by have:=(xr k e).1;exact⟨by omega,by omega,by omega⟩
    ·rw[o];simp only[EvR.bind];cases qH (tG f.ex) env (e.args.drop (j+1)) l2<;>simp
  ·obtain rfl:j=e.args.length:=by omega
   rw[eJ]at o;have o:qH (tG f.ex) env e.args (left-1)=.ok rs l':=by rw[o];simp[qH,EvR.bind]
   rw[o]at hB;simp only[EvR.bind]at hB;have yj:=xt.at I (pmlt (by omega));refine bZ yj rfl ?_;have zz:=ho.al;have xm:gR (λq=>(G q/\q≠b4)/\q≠b6) w15 look env:=xu.chg xt λk hk _=>Bu hp hm hk.1.1;refine aBJ (G:=λq=>(G q/\q≠b4)/\q≠b6) (hT.ext hv.ext) ⟨⟨va,vk,rfl,xb,xq⟩⟩ hv xm (hR.items xn (by omega)) yr ho yq zt e28 e29 (hX.call e hz) (hX.obj e hz) (λq hq=>xn q (by omega)) ?_;cases hr:lK f.ex e env rs with
   |err c a=>rw[hr]at hB;rw[<-hB]at hK;exact hK
   |ok v=>
    rw[hr]at hB;intro cs w19 xw uf;exact fin hB.symm xz (xt.then xw λ_ _ e=>e.elim) (hv.next xw) uf λw' h=>h
 rintro st g w21 ⟨v,l,cs,hb,yy,zc,ye,xl,xy,xx,yk,yi⟩;rw[hb]at hK;simp only[EvR.bind]at hK;refine bU.cut (λst w'=>Ext w21 w'/\dK v=true) ?_ ?_
 ·refine bZ xl xy ?_;refine Ib xx.rep λw23 xf=>?_;rw[eP,bY];refine⟨λh=>?_,λh=>⟨xf,by simpa using h⟩⟩;have h:dK v=false:=by simpa using h
  rw[aE (by rw[h];simp)]at hK;refine eQ (off:=4) (xf.at yi id) rfl ?_;exact mA (ye.next xf).ext hK
 rintro st g2 w25 ⟨hg,za⟩;rw[aJ za]at hK;refine bZ (hg.at xl id) xy ?_;refine ZM (hg.at yk id) rfl (xx.ext' hg) λw27 ya ue=>?_;refine hK cs w27 ((zc.then hg λ_ _ e=>e.elim).then ya λk hk e=>by have e:k=b4:=e;omega) ((ye.next hg).mv ya λk _ e=>by have e:k=b4:=e;exact⟨by omega,by omega,by omega⟩) ue za yy
end
abbrev aFW:TypeId:=53
theorem GM{w:World}:∀{xs:List JV} {L:List Value},(∀x∈xs,∀cs,eX w x cs->cM (λ_=>True) w x cs)->eK w xs L->cA (λ_=>True) w xs L
 |[],L,_,h=>by simpa only[eK,cA]using h
 |x::xs,L,j,h=>by
  simp only[eK,cA]at h⊢
  obtain⟨c,r,rfl,h1,I⟩:=h
  exact⟨c,r,rfl,j x bA c h1,GM (λy o=>j y (aR _ o)) I⟩
theorem Us(v:JV):∀cs,eX w v cs->cM (λ_=>True) w v cs:=by
 induction v using JV.ind' with
 |h v ih=>
  intro cs h;obtain⟨sv,kv,T1,T2,L,rfl,h1,I,o,j⟩:=h.out;exact cM.mk h1 (GM ih I) o j (λ_ _ _=>trivial) λ_ _ _=>trivial
theorem KV{k:Str}{x:JV}:∀(ks:List Str) (xs:List JV),ks.length=xs.length->∀s,rE (ks++[k]) (xs++[x]) s=((rE ks xs).set k x) s
 |[],[],_,s=>by simp[rE,Env.set]
 |a::ks,y::xs,h,s=>by
  have ih:=KV (k:=k) (x:=x) ks xs (by simpa using h) s
  show(match rE (ks++[k]) (xs++[x]) s with|some v=>some v|none=>if s=a then some y else none)=_
  rw[ih]
  unfold Env.set
  by_cases e:s=k
  ·rw[aJ e,aJ e]
  ·rw[aE e,aE e];rfl
 |[],y::xs,h,_=>by simp at h
 |a::ks,[],h,_=>by simp at h
theorem Ly(v:Value)(w:World):(Instr.typeAssert (.iface 33 v) 20 33 false).run P0 w=.ok v w:=by kernel_rfl
theorem Pp(w:World)(K:Value->Prop):eqQ P0 .neq 20 false true .nilIface .nilIface w K↔K (.bool false):=by
 have h:(do eqGuard .neq 20 (rX false) (rX true) .nilIface .nilIface;binOp .neq 20 .nilIface .nilIface:Sem Value).run P0 w=.ok (.bool false) w:=by kernel_rfl
 unfold eqQ nZ;rw[h];exact⟨λ⟨v,h1,j⟩=>by cases h1;exact j,λj=>⟨_,rfl,j⟩⟩
theorem Kj(v:Value)(w:World)(K:Value->Prop):eqQ P0 .neq 20 false true (.iface 33 v) .nilIface w K↔K (.bool true):=by
 have h:(do eqGuard .neq 20 (rX false) (rX true) (.iface 33 v) .nilIface;binOp .neq 20 (.iface 33 v) .nilIface:Sem Value).run P0 w=.ok (.bool true) w:=by kernel_rfl
 unfold eqQ nZ;rw[h];exact⟨λ⟨v,h1,j⟩=>by cases h1;exact j,λj=>⟨_,rfl,j⟩⟩
theorem PU{a b:Value}{K:World->Prop}(j:K w):yF P0 34 [a,b] .returning w K:=by
 letI:=noX;refine TE .idle ?_;unfold R34;rw[Pp,cP];exact j
theorem KU{a b d:Nat}{Ta Tb:TypeId}{K:World->Prop}(ha:w.heap[a]?=some (.cells cs.toArray Ta (0,0)))(hl:cs.length=5)(hb:w.heap[b]?=some (.cells [v].toArray Tb (0,0)))(I:a≠b)
  (hK:∀w',Chg (λk=>k=a\/k=b) w w'->w'.heap[a]?=some (.cells zr5.toArray Ta (0,0))->w'.heap[b]?=some (.cells [.pointer (some ⟨d,0,none⟩)].toArray Tb (0,0))->K w'):
  yF P0 34 [.pointer (some ⟨a,0,none⟩),.pointer (some ⟨b,0,none⟩)] (.panicking [{v:=.iface 33 (.pointer (some ⟨d,0,none⟩)),recovered:=false}]) w K:=by
 letI:=noX;refine TE (.thrown _) ?_;unfold R34;rw[Kj,dS,cW];refine⟨_,Ly _ _,?_⟩;refine cK (l:=zr5) (w:=w.drew) ha rfl hl rfl λw2 hh hc o=>?_;refine⟨⟨_,Ly _ _,rfl⟩,?_⟩;have U:=o.at (w:=w.drew) hb (λe=>I e.symm);refine iO U rfl (by simp) λw3 hg J j=>?_;refine hK w3 ?_ (j.at hc I) (by rw[J];simp);exact((Chg.drew (Chg.refl _ w)).trans (o.mono λk _ e=>.inl e)).trans (j.mono λk _ e=>.inr e)
theorem NF{b:Nat}{K:Value->Prop}(hb:w.heap[b]?=some (.cells [v].toArray T (0,0)))(j:K v):ldW false 1 (.pointer (some ⟨b,0,none⟩)) w K:=by
 rw[dY];exact⟨v,by rw[cG,hb];rfl,j⟩
def BY(G:Nat->Prop)(w:World)(cs:List Value)(d:Value):MdR JV->Prop
 |.ok v=>cM G w v cs/\d=.pointer none/\dK v=true
 |.err c a=>cs=zr5/\∃b,d=.pointer (some ⟨b,0,none⟩)/\w.heap[b]?=some (.cells [i64 c,str [],i64 a].toArray aFW (0,0))
theorem BY.ext{d:Value}{r:MdR JV}(h:BY G w cs d r)(j:Ext w w'):BY G w' cs d r:=by
 cases r with
 |ok v=>exact⟨h.1.ext' j,h.2⟩
 |err c a=>obtain⟨h1,b,I,o⟩:=h;exact⟨h1,b,I,j.at o id⟩
theorem BY.put{c0:List Value}{d:Value}{r:MdR JV}{b:Nat}(h:BY G w cs d r)(o:Chg (λk=>k=b) w w')(hb:w.heap[b]?=some (.cells c0.toArray VT (0,0)))(J:¬G b):BY G w' cs d r:=by
 cases r with
 |ok v=>exact⟨cM.chg o (λk I _ e=>by have e:k=b:=e;subst e;exact J I) h.1,h.2⟩
 |err c a=>
  obtain⟨h1,b',U,j⟩:=h;refine⟨h1,b',U,o.at j λe=>?_⟩;have e:b'=b:=e;subst e;rw[hb]at j;simp only[bF,Obj.cells.injEq]at j;exact absurd j.2.1 (by decide)
theorem BY.mono{G':Nat->Prop}{d:Value}{r:MdR JV}(h:BY G w cs d r)(o:∀k,G k->G' k):BY G' w cs d r:=by
 cases r with
 |ok v=>exact⟨h.1.mono λk _ j=>o k j,h.2⟩
 |err c a=>exact h
theorem BY.lens{d:Value}{r:MdR JV}(h:BY G w cs d r):cs.length=5/\cs.all fC=true:=by
 cases r with
 |ok v=>exact⟨h.1.rep.len,h.1.rep.all_one⟩
 |err c a=>rw[h.1];exact⟨rfl,rfl⟩
section
variable [HX]
theorem SN{f:Fl}{M:Lay}{v:JV}{K:Q0}(hT:uE w)(hF:FV w M f)(hX:∀[HX],LI f.ex)(xz:f.ex.length<=1000000)(hi:i<f.ex.length)(xw:cM G w v cs)(hG:∀q,w.heap.size<=q->G q)(yw:v.ks.length=v.xs.length)(yz:∀x∈v.xs,tR x=true)
  (hK:∀cs' d w',Ext w w'->BY G w' cs' d (AH f i v)->K (.tuple #[.agg cs'.toArray,d]) w'):aC P0 14 [.agg [M.vE,M.vB,M.vT].toArray,i64 (i:Nat),.agg cs.toArray] w K:=by
 refine aDb ?_;unfold W14;refine fY (z:=[M.vE,M.vB,M.vT]) λb3 w1 zy zn yd yq=>?_;have hv:=xw.rep;obtain⟨sv,kv,T1,T2,L,rfl,zq,zp,xx,ys⟩:=hv.out;obtain⟨ft1,ft2,ft3,ft4⟩:=ys;refine fY (z:=[i64 v.k,.bool v.b,str v.t,sv,kv]) λb5 w2 zx zm yc xu=>?_;refine bI λb6 w3 zw zl yb xk=>?_;refine bI λb7 w4 zu zk xf xb=>?_;have U:=yq.trans (xu.trans (xk.trans xb));have yf:=(xu.trans (xk.trans xb)).at yd id;have xh:=(xk.trans xb).at yc id;have xg:=xb.at yb id;have s04:=U.size;letI inst:HX:=⟨λch x5=>yF P0 34 [.pointer (some ⟨b6,0,none⟩),.pointer (some ⟨b7,0,none⟩)] (.panicking ch) x5 λw5=>
  ldW true 5 (.pointer (some ⟨b6,0,none⟩)) w5 λr6=>
  ldW false 1 (.pointer (some ⟨b7,0,none⟩)) w5 λr7=>
  K (.tuple #[r6,r7]) w5⟩
 have yg:∀c a,AH f i v=.err c a->Nl w4 c a:=λc a hr d w' hx hd za=>by
  refine KU (hx.at xg id) rfl (hx.at xf id) (by omega) λw5 ya zb ye=>?_;refine bZ zb rfl ?_;refine NF ye ?_;have sx:=hx.size;refine hK zr5 _ w5 ((U.trans hx).then ya λk hk e=>by omega) ?_;rw[hr];exact⟨rfl,d,rfl,ya.at za (by have:w4.heap.size<=d:=hd;omega)⟩
 refine bZ yf rfl ?_;refine Kn (KT:=ST) (ET:=VT) (by kernel_rfl) (.inl rfl) λm w8 zs zj yu xj=>?_;obtain⟨pE,cE,eE,_⟩:=hF.oE.shape;obtain⟨pB,cB,eB,_⟩:=hF.oB.shape;obtain⟨pT,cT,eT,_⟩:=hF.oT.shape;have xy:∀{K:List Value->Prop},K [M.vE,M.vB,M.vT,.map (some m),i64 20000]->dJ [(.slice none 0 0),(.slice none 0 0),(.slice none 0 0),(.map none),(.int .i64 0)] [(0,3,.agg [M.vE,M.vB,M.vT].toArray),(3,1,.map (some m)),(4,1,(.int .i64 20000))] K:=λ{K} h=>by
  refine⟨by simp[Value.cells],by simp,?_⟩;refine⟨by simp[Value.cells],by simp[Value.cells],?_⟩;refine⟨by simp[Value.cells],by simp[Value.cells],?_⟩;simpa[Value.cells,cW]using h
 refine xy ?_;refine fY (z:=[M.vE,M.vB,M.vT,.map (some m),i64 20000]) λp w10 hp zf yt xd=>?_;have hc:=xj.trans xd;have xl:=U.trans hc;have yk:Ev w4 w10 p m f M (λ_=>none) 20000:=⟨hc,yt,(RQ yu).at_ xd id,hF.ext U,by have:=xj.size;omega,by omega,by omega⟩;have xt:=hc.at xh id;refine eQ (off:=4) xt rfl ?_;rw[fL xx];have yr:cM (λq=>G q/\q<w.heap.size) w v [i64 v.k,.bool v.b,str v.t,sv,kv]:=xw.mono λq ho I=>⟨I,ho⟩;have hI:jX (λq=>G q/\q<w.heap.size) w sv v.xs:=yr.its;have zr:w.heap.size<=m/\w.heap.size<=p:=by have:=xj.size;exact⟨by omega,by omega⟩
 refine cY.go (λst w'=>∃(j:Nat) (look:Str->Option Value),st=[i64 (j:Nat)]/\j<=v.ks.length/\Ext w w'/\Ev w4 w' p m f M look 20000/\gR (λq=>G q/\q<w.heap.size) w' look (rE (v.ks.take j) (v.xs.take j))/\Ext w4 w')
  (λst _=>match st with|[.int _ j]=>v.ks.length-j.toNat|_=>0)
  ⟨0,λ_=>none,rfl,fR _,xl,yk,λs=>by simp[rE],hc⟩ ?_
 rintro st g w12 ⟨j,look,rfl,hj,hh,J,hz,o⟩;simp only[aG];rw[dU,aO];refine⟨λho=>?_,λzt=>?_⟩
 ·have ho:j<v.ks.length:=by omega
  obtain⟨k,hk⟩:∃k,v.ks[j]?=some k:=⟨_,List.getElem?_eq_getElem ho⟩;obtain⟨x,xi⟩:∃x,v.xs[j]?=some x:=⟨_,List.getElem?_eq_getElem (by omega)⟩;refine nM (xx.ext hh) hk ?_;have xa:Ext w12 w12.drew:=Chg.drew (Chg.refl (λ_=>False) w12);have yi:=J.next xa;have hb5d:=(o.trans xa).at xh id;rw[eD];refine eQ (off:=3) yi.pp rfl ?_;refine eQ (off:=3) hb5d rfl ?_;refine(hI.ext (hh.trans xa)).get xi λxs yp=>?_;refine Mu yi λw13 yj xe ze=>?_;rw[cI,up1 (by omega)];have hg:Chg (λq=>q=m) w12 w13:=(Chg.of_ext xa).trans xe;refine⟨⟨j+1,_,rfl,ho,hh.then hg λq I e=>by have e:q=m:=e;omega,yj,?_,o.then hg λq I e=>by have e:q=m:=e;omega⟩,by simp only[aW];omega⟩;have yh:gR (λq=>G q/\q<w.heap.size) w13 look (rE (v.ks.take j) (v.xs.take j)):=hz.chg hg λq I _ e=>by have e:q=m:=e;have:=I.2;omega
  have xv:cM (λq=>G q/\q<w.heap.size) w13 x xs:=cM.chg xe (λq I _ e=>by have e:q=m:=e;have:=I.2;omega) yp;have h2:=yh.set (t:=k) xv (yz x (bG xi));have e1:v.ks.take (j+1)=v.ks.take j++[k]:=by rw[dG,hk];rfl
  have e2:v.xs.take (j+1)=v.xs.take j++[x]:=by rw[dG,xi];rfl
  intro s;have h3:=h2 s;rw[e1,e2,KV _ _ (by rw[bS,bS];omega)];exact h3
 ·obtain rfl:j=v.ks.length:=by omega
  rw[bR,yw,bR]at hz;have ho:=J.lt;have b67:w4.heap.size=b7+1:=by omega
  refine TP (hT.ext U) hX xz i hi J (G:=λq=>G q/\q≠p/\q≠m/\q≠b6/\q≠b7) (hz.mono λq _ I=>⟨I.1,by have:=I.2;omega,by have:=I.2;omega,by have:=I.2;omega,by have:=I.2;omega⟩) (λe=>e.2.1 rfl) (λe=>e.2.2.1 rfl) (λq I=>by have:=o.size;exact⟨hG q (by omega),by omega,by omega,by omega,by omega⟩) (aV _) ?_;have xc:AH f i v=match tG f.ex i (rE v.ks v.xs) 20000 with|.ok v _=>.ok v|.err c a=>.err c a:=rfl
  cases hr:tG f.ex i (rE v.ks v.xs) 20000 with
  |err c a=>rw[hr]at xc;exact yg c a xc
  |ok u l=>
   rw[hr]at xc;intro us w14 hy zi hu yy zg;have sp:∀{b:Nat},b<w4.heap.size->¬PM p m b:=λ{b} h e=>by have:=J.hp;have:=J.hm;rcases e with e|e<;>omega
   have xr:=hy.at (o.at xg id) (sp (by omega));have xo:=hy.at (o.at xf id) (sp (by omega));refine cK xr hu.rep.len rfl hu.rep.all_one λw15 zd xq ht=>?_;have xn:=ht.at xo λe=>by have e:b7=b6:=e;omega
   refine iO xn rfl (by simp) λw16 zc xm hs=>?_;have xp:=hs.at xq λe=>by have e:b6=b7:=e;omega
   refine PU ?_;refine bZ xp hu.rep.len ?_;refine NF (v:=.pointer none) (by rw[xm];rfl) ?_;refine hK us _ w16 ?_ ?_
   ·refine((hh.then hy λq I e=>?_).then ht λq I e=>?_).then hs λq I e=>?_
    ·have:=U.size;have:=J.hp;have:=J.hm;rcases e with e|e<;>omega
    ·have e:q=b6:=e;omega
    ·have e:q=b7:=e;omega
   ·rw[xc];refine⟨?_,rfl,yy⟩;exact(cM.chg hs (λq I _ e=>I.2.2.2.2 e) (cM.chg ht (λq I _ e=>I.2.2.2.1 e) hu)).mono λq _ I=>I.1
end
structure TabE(w:World):Prop where
 f:uE w
 i:zM w
theorem TabE.ext(h:TabE w)(j:Ext w w'):TabE w':=by
 haveI:HX:=noX;refine⟨h.f.ext j,?_⟩;obtain⟨m,hm⟩:=h.i;exact⟨m,Ap j hm⟩
theorem Uq{size off:Nat}{k:IntKind}{u:Value}{K:Value->Prop}(h:SlAt w T v n cs)(hl:cs.length=n*size)(hi:i<n)(J:off<size)(I:cs[i*size+off]?=some u)(U:K u):dP none size v (.int k i) λp=>aZ off p λq=>ldW false 1 q w K:=by
 refine rR h hl (by omega) hi λb o c fr hb j=>?_;rw[bT,dY];refine⟨u,?_,U⟩;rw[bW,cG,hb,cJ,j off J];exact I
theorem JL{size off:Nat}{k:IntKind}{u:Value}{K:Value->Value->Prop}(h:SlAt w T v n cs)(hl:cs.length=n*size)(hi:i<n)(ho:off<size)(U:cs[i*size+off]?=some u)(hK:∀q,(∀w',Ext w w'->ldW false 1 q w' λx=>x=u)->K q u):dP none size v (.int k i) λp=>aZ off p λq=>ldW false 1 q w (K q):=by
 refine rR h hl (by omega) hi λb o c fr hb j=>?_;have I:c[o+off]?=some u:=(j off ho).trans U;rw[bT,dY];refine⟨u,?_,hK _ λw' J=>?_⟩
 ·rw[bW,cG,hb,cJ];exact I
 ·rw[bW,dY];exact⟨u,by rw[cG,J.at hb id,cJ];exact I,rfl⟩
def fl1(ex:List Ex)(i:Nat)(a:Int):Fl:=⟨ex,[⟨[97],[],[⟨[120],i,a⟩],[],0⟩],[0]⟩
section
variable [HX]
theorem Rz{tx:Str}{ex:List Ex}{v:JV}{K:Q0}(hT:TabE w)(yp:tx.length<=100000)(xx:parseM (uH tx)=.ok (fl1 ex i 6))(hX:∀[HX],LI ex)(hi:i<ex.length)(hv:eX w v cs)(xn:v.ks.length=v.xs.length)(xo:∀x∈v.xs,tR x=true)
  (hK:∀cs' d w',Ext w w'->BY (λ_=>True) w' cs' d (AH (fl1 ex i 6) i v)->K (.tuple #[.agg cs'.toArray,d,.bool true]) w'):aC P0 21 [str tx,.agg cs.toArray] w K:=by
 refine aC6 ?_;unfold W21;obtain⟨sv,kv,_,_,_,rfl,_⟩:=hv.out;refine fY (z:=[i64 v.k,.bool v.b,str v.t,sv,kv]) λb3 w1 ys yn xq xu=>?_;refine bI λb4 w2 yr ym xb xi=>?_;rw[qA];refine⟨by simp only[aB,aN];show(_:Int)<=9223372036854775807;omega,?_⟩;rw[qA];refine⟨by simp only[aB,aN,aU];show(_:Int)<=9223372036854775807;omega,?_⟩;have hy:=xu.trans xi;refine Wn (t:=uH tx) (hT.ext hy).i (by unfold uH;simp only[aU,aB,aN];omega) λM d w3 xc hk hs U=>?_;rw[xx]at hk hs U;have hs:d=.pointer none:=hs;subst hs;have yb:PQ (.ok (fl1 ex i 6))=fl1 ex i 6:=rfl;rw[yb]at hk U;have ya:=hk.fv;simp only[bL];refine⟨_,rfl,_,rfl,?_⟩;obtain⟨p1,c1,e1,_⟩:=hk.oE.sl.shape;obtain⟨p2,c2,e2,_⟩:=hk.oB.sl.shape;obtain⟨p3,c3,e3,_⟩:=hk.oT.sl.shape;refine bI λb7 w4 yq yl xp xt=>?_;refine cK (l:=[M.vE,M.vB,M.vT]) xp rfl rfl (by rw[e1,e2,e3];rfl) λw5 yk hc yc=>?_;have hg:Ext w3 w5:=xt.new yc (by omega);have o:=ya.ext hg;have xk:=hy.trans (xc.trans hg);have enil:∀K:Value->Prop,K (.bool false)->eqW .ptr true (.pointer none) (.pointer none) K:=λK h=>h;refine enil _ ?_;refine GdW.look false (λ_ J hJ=>?_) λg=>?_
 ·refine eQ (off:=1) hc rfl ?_;rw[fL o.oB,gD];exact hJ
 simp only[aG,mI];rw[fU,Bool.or_false];obtain⟨vl,va,vb,ec,_,xr,_⟩:=o.bb.2 0 ⟨[97],[],[⟨[120],i,6⟩],[],0⟩ rfl;have hattr:∀{w':World} {k:IntKind} {K:Value->Prop},Ext w5 w'->K va->dP none 5 M.vB (.int k 0) λp=>aZ 2 p λq=>ldW false 1 q w' K:=λ{w' k K} hx h=>by
  have:=o.bb.1;refine Uq (i:=0) (u:=va) (o.oB.ext hx) o.bb.1 (by show 0<1;omega) (by omega) ?_ h;have:=congrArg (λl:List Value=>l[2]?) ec;simpa[List.getElem?_take,List.getElem?_drop]using this
 have hlenB:(fl1 ex i 6).bl.length=1:=rfl;refine GdW.look false (λ_ J hJ=>?_) λg2=>?_
 ·refine eQ (off:=1) hc rfl ?_;refine hattr (Chg.refl _ _) ?_;rw[fL xr,gD];exact hJ
 simp only[aG,mI];rw[fU,Bool.or_false,cP];have I:Ext w5 w5.drew:=Chg.drew (Chg.refl (λ_=>False) w5);have hx0d:=xk.trans I;have hb3d:=(xi.trans (xc.trans (hg.trans I))).at xq id;have hb4d:=(xc.trans (hg.trans I)).at xb id;have hb7d:=I.at hc id;have l4:=fA xb;refine bU.cut (λst w'=>∃cs' d b9,st=[d,.pointer (some ⟨b9,0,none⟩)]/\Ext w5.drew w'/\w'.heap[b9]?=some (.cells cs'.toArray VT (0,0))/\cs'.length=5/\cs'.all fC=true/\BY (λq=>q≠b4) w' cs' d (AH (fl1 ex i 6) i v)) ?_ ?_
 ·refine bZ hb7d rfl ?_;refine eQ (off:=1) hb7d rfl ?_;refine JL (i:=0) (u:=va) ((o.oB).ext I) o.bb.1 (by show 0<1;omega) (by omega) (by
   have:=congrArg (λl:List Value=>l[2]?) ec;simpa[List.getElem?_take,List.getElem?_drop]using this) λq1 xw=>?_
  refine JL (i:=0) (u:=i64 (i:Nat)) (xr.ext I) rfl (by show 0<1;omega) (by omega) rfl λq2 xv=>?_;refine bZ hb3d rfl ?_;have xl:cM (λq=>q<w.heap.size) w5.drew v [i64 v.k,.bool v.b,str v.t,sv,kv]:=((Us v _ hv).mono (G':=λq=>q<w.heap.size) λq xz _=>xz).ext' hx0d;have sd:w.heap.size<=w5.drew.heap.size:=hx0d.size;have l4d:=fA hb4d;refine⟨?_,?_⟩
  ·refine SN (hT.ext hx0d).f (o.ext I) hX (by have:=U.1;show ex.length<=1000000;have:ex.length<=100000:=U.1;omega) hi (G:=λq=>q≠b4) (xl.mono λq _ hq=>by omega) (λq hq=>by omega) xn xo λcs' d w14 xj hM=>?_;simp only[bL];refine⟨_,rfl,_,rfl,?_⟩;refine mQ hM.lens.1 hM.lens.2 λb9 w16 xf yh hh ht=>?_;exact⟨cs',d,b9,rfl,xj.trans ht,hh,hM.lens.1,hM.lens.2,hM.ext ht⟩
  ·refine bI λb9 w17 xf yg hh j=>?_;refine⟨bZ (j.at hb3d id) rfl rfl,xv w17 j,xw w17 j,eQ (off:=1) (j.at hb7d id) rfl rfl,bZ (j.at hb7d id) rfl rfl,?_⟩;refine SN (hT.ext (hx0d.trans j)).f ((o.ext I).ext j) hX (by have:ex.length<=100000:=U.1;show ex.length<=1000000;omega) hi (G:=λq=>q≠b4/\q≠b9) ((xl.ext' j).mono λq _ hq=>⟨by omega,by omega⟩) (λq hq=>⟨by omega,by omega⟩) xn xo λcs' d w18 hr hM=>?_;simp only[bL];refine⟨_,rfl,_,rfl,?_⟩;refine cK (hr.at hh id) hM.lens.1 rfl hM.lens.2 λw19 yf xe xa=>?_;exact⟨cs',d,b9,rfl,(j.trans hr).new xa (by omega),xe,hM.lens.1,hM.lens.2,(hM.put xa (hr.at hh id) (λe=>e.2 rfl)).mono λq hq=>hq.1⟩
 rintro st g3 w20 ⟨cs',d,b9,rfl,ho,xf,xd,xy,hM⟩;simp only[aG,cS];refine bZ xf xd ?_;refine cK (ho.at hb4d id) xd rfl xy λw21 ye xg hz=>?_;refine bZ xg xd ?_;have xh:Ext w w21:=(hx0d.trans ho).new hz (by omega);exact hK cs' d w21 xh ((hM.put hz (ho.at hb4d id) (λe=>e rfl)).mono λ_ _=>trivial)
end
def exB(e:Ex):Bool:=decide (1<=e.k/\e.k<=30)&&decide (e.k=10\/e.k=30\/e.k=13\/e.k=14->1<=e.args.length)&&decide (e.k=11\/e.k=29\/15<=e.k/\e.k<=27->2<=e.args.length)&&decide (e.k=28->3<=e.args.length)&&e.keys.all (λs=>decide (s.length<=100000))&&decide (e.t.length<=100000)&&decide (e.args.length<=90000)
theorem aBZ{e:Ex}(h:exB e=true):aDl e:=by
 simp only[exB,aL,bD,bN]at h;obtain⟨⟨⟨⟨⟨⟨h1,h2⟩,U⟩,J⟩,I⟩,o⟩,j⟩:=h;exact⟨h1,h2,U,J,I,o,j⟩
theorem pV{c:Bool}{A:(Value->Prop)->Prop}{B:Value->Prop}(j:c=true)(o:A (λx=>x=v))(hB:B v):GqW c A B:=by
 subst j;exact(TI A B).2 ⟨v,o,hB⟩
theorem Cv{c:Bool}{A:(Q0)->Prop}{B:Q0}(j:c=true)(o:A B):GeW c w A B:=by
 subst j;exact⟨λ_=>o,λe=>Bool.noConfusion e⟩
abbrev noV:JV:=.mk 6 false [] [] []
section
variable [HX]
theorem FA{ex:List Ex}(h:nA ex)(j:ex.all exB=true)(J:∀e∈ex,e.k=12->xZ e.t e.args.length)(o:∀e∈ex,e.k=8->ObC)(hn:∀e∈ex,e.k=28->LJ):LI ex:=⟨h,λe I=>aBZ (bN.1 j e I),J,o,hn⟩
theorem BA{ex:List Ex}(h:(ex.all λe=>decide (e.k≠28))=true):∀e∈ex,e.k=28->LJ:=λe j o=>by
 have:=bN.1 h e j
 simp[o]at this
theorem Mq{ex:List Ex}(h:(ex.all λe=>decide (e.k≠8))=true):∀e∈ex,e.k=8->ObC:=λe j o=>by
 have:=bN.1 h e j
 simp[o]at this
theorem Ow{ex:List Ex}:∀e∈ex,e.k=8->ObC:=λ_ _ _=>@obc _
theorem BB{ex:List Ex}(h:(ex.all λe=>decide (e.k≠12))=true):∀e∈ex,e.k=12->xZ e.t e.args.length:=λe o j=>by
 have:=bN.1 h e o
 simp[j]at this
theorem Sk{tx:Str}{ex:List Ex}{v x:JV}{ds:List Value}{K:Q0}(hT:TabE w)(hs:tx.length<=100000)(ht:parseM (uH tx)=.ok (fl1 ex i 6))(hX:∀[HX],LI ex)(hi:i<ex.length)(hv:eX w v cs)(hd:eX w x ds)(hx:v.ks.length=v.xs.length)(hy:∀x∈v.xs,tR x=true)
  (he:AH (fl1 ex i 6) i v=.ok x)(hK:∀w',Ext w w'->K (.bool true) w'):aC P0 20 [str tx,.agg cs.toArray,.agg ds.toArray] w K:=by
 refine aC7 ?_;unfold W20;refine kJ hv λb4 w1 sv kv xc hg _=>?_;refine kJ (hd.ext hg) λb5 w2 sv5 kv5 xb hc _=>?_;refine(xc.ext hc).ld λcs4 hj=>?_;have o:=hg.trans hc;refine Rz (hT.ext o) hs ht hX hi hj hx hy λcs3 d w3 hq I=>?_;rw[he]at I;obtain⟨I,rfl,_⟩:=I;simp only[bL];refine⟨_,rfl,_,rfl,_,rfl,?_⟩;refine mQ I.rep.len I.rep.all_one λb7 w5 xg xd hk U=>?_;have enil:∀K:Value->Prop,K (.bool true)->eqW .ptr false (.pointer none) (.pointer none) K:=λK h=>h;refine GdW.look true (λ_ J hJ=>?_) λg=>?_
 ·exact enil _ hJ
 simp only[fQ,aM,aG,lH];have hz:=I.rep.ext U;have j:=hq.trans U;refine GdW.act true (λw'=>Ext w w') (λe=>by cases e) (λ_ J hJ=>?_) λg2 w' hr=>?_
 ·refine bZ hk I.rep.len ?_;refine(xb.ext j).ld λcs5 hh=>?_;refine QZ x hz hh λw6 ho=>?_;rw[(same_iff x x).2 rfl];exact hJ _ (o.trans (j.trans ho))
 simp only[aM,aG,lH];exact hK w' hr
theorem Tx{K:Q0}(hT:TabE w)(hK:∀w',Ext w w'->K (.bool true) w'):aC P0 9 [] w K:=by
 refine aEi ?_;unfold W9;simp only[dI,cW,aB,aN,aY,bB];refine⟨by omega,?_⟩;have hh:∀w,eX w noV (flat 6 false []):=λw=>(gP (G:=λ_=>True) (by simp)).rep;refine mQ (cs:=flat 6 false []) rfl rfl λb1 w3 xa hy j U=>?_;refine bZ j rfl ?_;refine Rz (hT.ext U) (tx:=ZC) (ex:=FB) (i:=2) (by decide) aDD (FA (kG (by decide)) (by decide) (BB (by decide)) (Mq (by decide)) (BA (by decide))) (by decide) (hh w3) rfl (by simp[JV.xs]) λcs d w4 ho hM=>?_;rw[HC (f:=fl1 FB 2 6) (TM _) (by decide)]at hM;obtain⟨rfl,bd,rfl,hr⟩:=hM;simp only[bL];refine⟨_,rfl,_,rfl,_,rfl,?_⟩;refine mQ (cs:=zr5) rfl rfl λb2 w6 hz hx hs hk=>?_;have hi:Ext w6 w6.drew:=Chg.drew (Chg.refl (λ_=>False) w6);have hx3d:=ho.trans (hk.trans hi);refine bZ (hx3d.at j id) rfl ?_;refine Ff (n:=7) (by decide) (by decide) λw7 hg=>?_;refine⟨bZ ((hx3d.trans hg).at j id) rfl rfl,?_⟩;have h7:Lib.itoa 7=[55]:=by decide+kernel
 rw[h7];have hc:=hx3d.trans hg;refine Sk (x:=nV [55]) (hT.ext (U.trans hc)) (tx:=ZE) (ex:=KQ) (i:=4) (by decide) aDF (FA (kG (by decide)) (by decide) (BB (by decide)) (Mq (by decide)) (BA (by decide))) (by decide) (hh w7) (gP (G:=λ_=>True) (by simp)).rep rfl (by simp[JV.xs]) ?_ λw8 hj=>?_
 ·have:=Cx (f:=fl1 KQ 4 6) (i:=4) (scope:=noV) (TO _) (by decide);rw[this];show MdR.ok (nV (Lib.itoa 7))=_;rw[h7]
 have I:=hc.trans hj;refine pV (fQ true) (bZ (I.at j id) rfl rfl) ?_;refine Cv (fQ true) ?_;refine OK λw11 J=>?_;refine⟨λ_=>bZ ((I.trans J).at j id) rfl rfl,?_⟩;refine Cv (fQ true) ?_;refine Sk (x:=tV [97,49,116,114,117,101]) (hT.ext (U.trans (I.trans J))) (tx:=ZD) (ex:=Do) (i:=3) (by decide) aDE (FA (kG (by decide)) (by decide) (BB (by decide)) (Mq (by decide)) (BA (by decide))) (by decide) (hh w11) (gP (G:=λ_=>True) (by simp)).rep rfl (by simp[JV.xs]) ?_ λw13 hq=>?_
 ·exact Cx (f:=fl1 Do 3 6) (i:=3) (scope:=noV) (TN _) (by decide)
 rw[lH];refine pV (fQ true) rfl ?_;rw[lH];refine pV (fQ true) rfl ?_;refine Cv (fQ true) ?_;have o:Ext w4 w13:=hk.trans (hi.trans (hg.trans (hj.trans (J.trans hq))));refine aDZ (r:=.bad 10 12) ⟨bd,rfl,o.at hr id⟩ ?_;rw[lH];exact hK w13 (U.trans (ho.trans o))
end
section
variable [HX]
theorem Pe{a:List JV}(h:∀x∈a,dK x=true):(Iz a).length<=a.length*2000:=by
 unfold Iz;induction a with
 |nil=>simp
 |cons x a ih=>
  have h1:=ih λy j=>h y (aR _ j);have o:=Ft (h x bA);simp only[dC,iL,aU,rV,aB];omega
theorem FQ{name:Str}{f:FnM}{g:FuncId}(n:Nat)(hn:n<=40)(hf:vA fnX name=some (f,g))(hd:Qp g f):xZ name n:=λ{a sv w K} hl j hT I o=>
 Xy (λf' g' h=>by rw[hf]at h;cases h;exact hd) hT I (by omega) (λ_=>by have:=Pe j;rw[hl]at this;omega) o
theorem WV(n:Int)(h:I63 n)(w:World):eX w (iV n) (flat 3 false (Lib.itoa n)):=(gP (G:=λ_=>True) (by have:=Fc (n:=n) (by have:=h.abs;omega);omega)).rep
theorem Xl{n:Int}(h:I63 n):tR (iV n)=true:=(pW (lZ (by have:=h.abs;omega))).few
theorem Ql{c:Bool}{K:Q0}(I:∀w',Ext w w'->K (.agg (flat 2 c []).toArray) w'):aC P0 19 [.bool c] w K:=by
 refine aC8 ?_;unfold W19;refine bI λa w1 U J hb o=>?_;simp only[dI,wC,cW,aB,aN,aY,bB];refine⟨by omega,by omega,?_⟩;exact iI hb rfl rfl rfl λw2 j=>I w2 (o.new j (by omega))
end
theorem SX(n:Nat):(CF n).length<=2:=by unfold CF;split<;>simp
section
variable [HX]
theorem Tp:xZ [108,101,110,103,116,104] 1:=FQ 1 (by omega) rfl PY
end
theorem Si:∀n:Fin 30,(xY n.val).all exB=true:=by decide+kernel
theorem Pw:∀n:Fin 30,((xY n.val).all λe=>decide (e.k≠12))=true:=by decide+kernel
theorem RB:∀n:Fin 30,(rD n.val).all exB=true:=by decide+kernel
theorem Pn:∀n:Fin 30,((rD n.val).all λe=>decide (e.k≠12))=true:=by decide+kernel
theorem Pv:∀n:Fin 30,((xY n.val).all λe=>decide (e.k≠28))=true:=by decide+kernel
theorem Pm:∀n:Fin 30,((rD n.val).all λe=>decide (e.k≠28))=true:=by decide+kernel
theorem aBN{sv:Value}{xs:List JV}{L:List Value}{x:JV}(h:SlAt w T sv xs.length L)(J:eK w xs L)(hi:xs[i]?=some x):
  ∃(q:Value) (cs:List Value),(∀K:Value->Prop,K q->dP none 5 sv (i64 (i:Nat)) K)/\eX w x cs/\∀w' (K:Value->Prop),Ext w w'->K (.agg cs.toArray)->ldW true 5 q w' K:=by
 obtain⟨cs,U,hg⟩:=J.get hi;have hk:=(List.getElem?_eq_some_iff.1 hi).1;have hl:=J.len;obtain⟨p,cap,rfl,h1,_,h3⟩:=h;obtain⟨b,off,c,fr,rfl,hb,o⟩:=h3 (λe=>by rw[e]at hl;simp at hl;omega);refine⟨.pointer (some ⟨b,off+i*5,none⟩),cs,λK I=>?_,U,λw' K hx I=>?_⟩
 ·refine⟨Int.natCast_nonneg _,by omega,?_⟩;rw[bW,aW];exact I
 ·refine pS (hx.at hb id) U.len (λj hj=>?_) I;rw[show off+i*5+j=off+(i*5+j)by omega];exact(o _ (by omega)).trans (hg j hj)
theorem SJ{b:Nat}{c:List Value}{off:Nat}{K:Value->Value->Prop}(j:w.heap[b]?=some (.cells c.toArray T (0,0)))(o:c[off]?=some v)(I:∀q,(∀w',w'.heap[b]?=some (.cells c.toArray T (0,0))->∀K:Value->Prop,K v->ldW false 1 q w' K)->K q v):aZ off (.pointer (some ⟨b,0,none⟩)) λt=>ldW false 1 t w (K t):=by
 have ld:∀w',w'.heap[b]?=some (.cells c.toArray T (0,0))->∀K:Value->Prop,K v->ldW false 1 (.pointer (some ⟨b,0+off,none⟩)) w' K:=λw' h K J=>by
  rw[dY];refine⟨v,?_,J⟩;rw[cG,h,cJ,aX,List.getElem?_toArray];exact o
 rw[bT,bW];exact ld w j _ (I _ ld)
section
variable [HX]
theorem Tq:xZ [99,111,110,99,97,116] 2:=FQ 2 (by omega) rfl PZ
theorem Qj:xZ [114,101,118,101,114,115,101] 1:=FQ 1 (by omega) rfl MW
theorem Um:∀e∈vC,e.k=12->xZ e.t e.args.length:=by
 intro e j o;unfold vC at j;simp only[bM,eA,mO]at j;rcases j with rfl|rfl|rfl|rfl|rfl|rfl|rfl|rfl|rfl|rfl|rfl|rfl|rfl|rfl|rfl|rfl|rfl|rfl|rfl|rfl|rfl|rfl|rfl|rfl
 all_goals first|exact absurd o (by decide)|exact@Tp _|exact@Tq _
theorem Ui:∀e∈xX,e.k=12->xZ e.t e.args.length:=by
 intro e j o;unfold xX at j;simp only[bM,eA,mO]at j;rcases j with rfl|rfl|rfl|rfl|rfl|rfl|rfl|rfl|rfl|rfl
 all_goals first|exact absurd o (by decide)|exact@Qj _
theorem shapes_true{b:Value}{l0:List Int}{k0:Int}{K:Q0}(hT:TabE w)(ya:SlAt w T b l0.length (l0.map i64)/\l0.length<=9223372036854775807)(yu:∀n∈l0,I63 n)(_hk:-9223372036854775808<=k0/\k0<=9223372036854775807)(hK:∀w',Ext w w'->K (.bool true) w'):aC P0 5 [b,i64 k0] w K:=by
 refine aEj ?_;unfold W5;refine Tx hT λw1 xk=>?_;rw[eP,iW,cP];simp only[dI,cW,aB,aN,aY,bB];refine⟨by omega,?_⟩;refine mQ (cs:=[i64 5,.bool false,str [],.slice none 0 0,.slice none 0 0]) rfl rfl λp w4 hp ui zq zg=>?_;have zj:w1.heap.size<=p:=by omega
 refine mT (min l0.length 30) (λi w'=>∃sv,Ext w1 w'/\w'.heap[p]?=some (.cells [i64 5,.bool false,str [],sv,.slice none 0 0].toArray VT (0,0))/\qF (λq=>p+1<=q) w' (p+1) sv ((l0.take i).map λn=>iV n)) ⟨_,zg,zq,by rw[Av];exact qF.nil _ _ _⟩ ?_ ?_
 ·rintro i w6 g L hi ⟨sv,xy,xi,hR⟩ hL;have yb:i<l0.length:=by omega
  have ud:i<30:=by omega
  obtain⟨n,hn⟩:∃n,l0[i]?=some n:=⟨_,List.getElem?_eq_getElem yb⟩;have xm:=yu n (bG hn);simp only[aG];rw[fL (ya.1.ext (xk.trans xy)),dU,bH (by omega:(i:Int)<l0.length)];refine GdW.look true (λ_ J hJ=>?_) λg2=>?_
  ·rw[dU,bH (by omega:(i:Int)<30)];exact hJ
  simp only[fQ,aM,aG,lH,dS];have xe:Ext w6 w6.drew:=Chg.drew (Chg.refl (λ_=>False) w6);refine SJ (off:=3) (xe.at xi id) rfl λq hq=>?_;refine rQ (ya.1.ext (xk.trans (xy.trans xe))) (by simp) (by rw[List.getElem?_map,hn];rfl) ?_;refine Ff xm.1 xm.2 λw9 zf=>?_;have xn:=xe.trans zf;have uk:=fA xi;refine⟨hq _ (xn.at xi id) _ rfl,?_⟩;refine AE rfl λt w10 ht yq=>?_;have hc:=xn.trans yq;refine⟨hq _ (hc.at xi id) _ rfl,?_⟩;have s610:=hc.size;refine(hR.ext hc).app ht (gP (by have:=Fc (n:=n) (by have:=xm.abs;omega);omega)) (by omega) (by rw[cD,bS];omega) λsv' w11 zd xw=>?_;have zc:=xw.at (hc.at xi id) λe=>by have:=(hR.inb e).1;omega
  rw[bT,bW];refine iO zc zd.one (by simp) λw12 ua zb xv=>?_;rw[cI,up1 (by omega)];refine hL w12 ⟨sv',?_,by rw[zb];rfl,?_⟩
  ·exact((xy.trans hc).then xw λq hq e=>by have:=(hR.inb e).1;omega).new xv zj
  ·rw[List.take_succ_eq_append_getElem yb];have e:l0[i]=n:=by have:=List.getElem?_eq_getElem yb;rw[this]at hn;exact fN hn
   rw[e,fE];exact zd.chg xv (λq hq _ e=>by have:p+1<=q:=hq;have e:q=p:=e;omega) λq hq _ e=>by have e:q=p:=e;omega
 ·rintro w8 g L ⟨sv,yh,xd,hR⟩;have hm:min l0.length 30<=30:=Nat.min_le_right _ _;have uo:min l0.length 30<=l0.length:=Nat.min_le_left _ _;have hcase:l0.length<=min l0.length 30\/30<=min l0.length 30:=by omega
  generalize um:min l0.length 30=m at*
  simp only[aG];rw[fL (ya.1.ext (xk.trans yh)),dU];refine GdW.look (decide ((m:Int)<30)) (λ_ J hJ=>?_) λg2=>?_
  ·rw[dU];exact hJ
  simp only[aG,fQ];have zp:(decide ((m:Int)<l0.length)&&decide ((m:Int)<30))=false:=by
   rcases hcase with h|h
   ·rw[cH (by omega),Ay]
   ·rw[cH (p:=(m:Int)<30) (by omega),Bool.and_false]
  rw[fK,zp,cP];have ze:(l0.take m).length=m:=by rw[bS];omega
  have yd:∀n∈l0.take m,I63 n:=λn h=>yu n (oR h);generalize ux:l0.take m=L0 at*
  have zu:(L0.map λn=>iV n).length=m:=by rw[cD];exact ze
  refine SJ (off:=3) xd rfl λq hq=>?_;obtain⟨Lr,hO,hV⟩:=hR.it;rw[fL hO.sl,zu];refine⟨by omega,?_⟩;refine bZ xd rfl ?_;have zl:=(hR.items (λq hq=>hq) (by omega)).list;have zm:dK (lV (jG L0))=true:=pC (λn h=>by have:=(yd n h).abs;omega) (by omega);refine ZN (v:=noV) (x:=lV (jG L0)) (gP (G:=λ_=>True) (by simp)).rep zl.rep (λ_=>rfl) (by simp[JV.ks]) (by simp) λc14 w14 yp zw=>?_;refine Ff (n:=(m:Nat)) (by omega) (by omega) λw15 xr=>?_;have xu:I63 (m:Nat):=⟨by omega,by omega⟩;refine ZN (x:=iV (m:Nat)) (zw.ext xr) (WV _ xu w15) (λ_=>rfl) (by show 1<=100000;omega) (by simp) λc16 w16 yo hy=>?_;have es:xD (xD noV [108] (lV (jG L0))) [110] (iV (m:Nat))=.mk 6 false [] [lV (jG L0),iV (m:Nat)] [[108],[110]]:=rfl;rw[es]at hy;have yc:∀x∈(JV.mk 6 false [] [lV (jG L0),iV (m:Nat)] [[108],[110]]).xs,tR x=true:=by
   intro x hx;simp only[JV.xs,bM,eA,mO]at hx;rcases hx with rfl|rfl
   ·exact(pW zm).few
   ·exact Xl xu
  generalize hv:JV.mk 6 false [] [lV (jG L0),iV (m:Nat)] [[108],[110]]=v at hy yc;have yw:v.ks.length=v.xs.length:=by subst hv;rfl
  have zn:rE v.ks v.xs [108]=some (lV (jG L0)):=by subst hv;rfl
  have yx:rE v.ks v.xs [110]=some (iV (L0.length:Nat)):=by rw[ze];subst hv;rfl
  have H:ShA L0 (rE v.ks v.xs):=⟨yd,by omega,zn⟩;have xx:=yp.trans (xr.trans yo);refine mQ hy.len hy.all_one λb8 w18 ue zz za xg=>?_;refine Ql λw19 yn=>?_;refine mQ (cs:=flat 2 true []) rfl rfl λb9 w21 uu zy yz ym=>?_;have U:=yn.trans ym;have xf:=xx.trans (xg.trans U);have hj:=xk.trans (yh.trans xf);have one:∀{tx:Str} {ex:List Ex} {i:Nat} {w':World} {x:JV} {ds:List Value} {K:Q0},tx.length<=100000->parseM (uH tx)=.ok (fl1 ex i 6)->nA ex->ex.all exB=true->(∀[HX],∀e∈ex,e.k=12->xZ e.t e.args.length)->(∀[HX],∀e∈ex,e.k=28->LJ)->i<ex.length->(∃s,s<=10000/\fI ex i (rE v.ks v.xs) x s)->eX w' x ds->Ext w21 w'->(∀w'',Ext w' w''->K (.bool true) w'')->
    aC P0 20 [str tx,.agg c16.toArray,.agg ds.toArray] w' K:=by
   intro tx ex i w' x ds K h1 h2 h3 h4 h5 zo h6 h7 hd xc hK;obtain⟨s,hs,yr⟩:=h7;refine Sk (hT.ext (hj.trans xc)) h1 h2 (FA h3 h4 h5 Ow zo) h6 (hy.ext (xg.trans (U.trans xc))) hd yw yc ?_ hK;exact Cx (f:=fl1 ex i 6) yr (by omega)
  have yes:∀w,eX w (bV true) (flat 2 true []):=λw=>(gP (G:=λ_=>True) (by simp)).rep;have xz:∀{ex:List Ex},(ex.all λe=>decide (e.k≠12))=true->∀[HX],∀e∈ex,e.k=12->xZ e.t e.args.length:=λh _=>BB h;have xh:∀{ex:List Ex},(ex.all λe=>decide (e.k≠28))=true->∀[HX],∀e∈ex,e.k=28->LJ:=λh _=>BA h;have ld8:∀{w':World} {K:Value->Prop},Ext w21 w'->K (.agg c16.toArray)->ldW true 5 (.pointer (some ⟨b8,0,none⟩)) w' K:=λxc hK=>bZ ((U.trans xc).at za id) hy.len hK;have ld9:∀{w':World} {K:Value->Prop},Ext w21 w'->K (.agg (flat 2 true []).toArray)->ldW true 5 (.pointer (some ⟨b9,0,none⟩)) w' K:=λxc hK=>bZ (xc.at yz id) rfl hK;refine ld8 (Chg.refl _ _) (ld9 (Chg.refl _ _) ?_);refine one (tx:=ZI) (ex:=vC) (i:=23) (by decide) aDJ (kG (by decide)) (by decide) Um (xh (by decide)) (by decide) (by obtain⟨s,h1,h2⟩:=Ul H yx;exact⟨s,by omega,h2⟩) (yes _) (Chg.refl _ _) λw22 hz=>?_;rw[eP,iW,cP];refine ld8 hz (ld9 hz ?_);refine one (tx:=ZH) (ex:=sB) (i:=14) (by decide) aDI (kG (by decide)) (by decide) (xz (by decide)) (xh (by decide)) (by decide) (Uk H) (yes _) hz λw23 yl=>?_;have o:=hz.trans yl;rw[eP,iW,cP,bO,aO];refine⟨λh0=>?_,λh0=>?_⟩
  ·refine ld8 o ?_;have zt:L0=[]:=bC (by omega);refine Rz (hT.ext (hj.trans o)) (tx:=ZG) (ex:=FC) (i:=2) (by decide) aDH (FA (kG (by decide)) (by decide) (BB (by decide)) Ow (BA (by decide))) (by decide) (hy.ext (xg.trans (U.trans o))) yw yc λcs d w24 yk hM=>?_;rw[HC (f:=fl1 FC 2 6) (Uj H zt) (by decide)]at hM;obtain⟨rfl,bd,rfl,zr⟩:=hM;simp only[bL];refine⟨_,rfl,_,rfl,_,rfl,?_⟩;refine mQ (cs:=zr5) rfl rfl λb10 w26 uf zx zs xq=>?_;have enil:∀K:Value->Prop,K (.bool true)->eqW .ptr true (.pointer (some ⟨bd,0,none⟩)) (.pointer none) K:=λK h=>h;refine GdW.look true (λ_ J hJ=>?_) λg=>?_
   ·exact enil _ hJ
   simp only[fQ,aM,aG,lH];refine GdW.look true (λ_ J hJ=>?_) λg=>?_
   ·rw[eD];refine eQ (off:=0) (xq.at zr id) rfl ?_;rw[bO,bH rfl];exact hJ
   simp only[fQ,aM,aG,lH];exact hK w26 (hj.trans (o.trans (yk.trans xq)))
  ·have zk:0<m:=by omega
   rw[mW,mW,DV];have e64:IntKind.u64.wrap ((m:Nat):Int)=((m:Nat):Int):=by rw[IntKind.wrap_u64];omega
   rw[e64];refine⟨by omega,?_⟩;obtain⟨at_,uv,eat⟩:=aDu (a:=k0) (m:=m) zk (by omega);rw[mW,eat];obtain⟨n,hn⟩:∃n,L0[at_]?=some n:=⟨_,List.getElem?_eq_getElem (by omega)⟩;have xm:=yd n (bG hn);have j:at_<30:=by omega
   have xe:Ext w23 w23.drew:=Chg.drew (Chg.refl (λ_=>False) w23);have hx21d:=o.trans xe;have hx8d:=xf.trans hx21d;refine ld8 hx21d ?_;refine SJ (off:=3) (hx8d.at xd id) rfl λq3 zi=>?_;obtain⟨qi,ci,ys,yy,xb⟩:=aBN (x:=iV n) ((hO.sl).ext hx8d) (eK.ext hx8d hV.rep) (by rw[List.getElem?_map,hn];rfl);refine ys _ ?_;refine xb _ _ (Chg.refl _ _) ?_;refine zE (by omega) (by omega) λw31 hk=>?_;have hh:=hx21d.trans hk;refine⟨xb _ _ hk rfl,zi _ ((hx8d.trans hk).at xd id) _ rfl,ld8 hh rfl,?_⟩;rw[Ah (by omega)];have uq:=SX at_;rw[qA];refine⟨by simp only[aB,aN];show(_:Int)<=9223372036854775807;omega,?_⟩;rw[qA];refine⟨by simp only[aB,aN,aU];show(_:Int)<=9223372036854775807;omega,?_⟩;refine one (tx:=QB at_) (ex:=xY at_) (i:=2) (by unfold QB;simp only[aU,aB,aN];omega) (aDL ⟨at_,j⟩) (kG (by unfold xY;rfl)) (Si ⟨at_,j⟩) (xz (Pw ⟨at_,j⟩)) (xh (Pv ⟨at_,j⟩)) (by unfold xY;simp) ⟨3,by omega,WR H hn⟩ (yy.ext hk) hh λw32 xp=>?_;have hr:=hk.trans xp;have xa:=hh.trans xp;refine pV (fQ true) rfl ?_;refine pV (fQ true) (ld8 xa rfl) ?_;refine pV (fQ true) (v:=.pointer (some ⟨p,3,none⟩)) (by rw[bT,bW]) ?_;have yt:=(hx8d.trans hr).at xd id;have xt:∀w' (K:Value->Prop),w'.heap[p]?=some (.cells [i64 5,.bool false,str [],sv,.slice none 0 0].toArray VT (0,0))->K sv->ldW false 1 (.pointer (some ⟨p,3,none⟩)) w' K:=λw' K h hK=>by
    rw[dY];exact⟨sv,by rw[cG,h,cJ];rfl,hK⟩
   refine pV (fQ true) (xt _ _ yt rfl) ?_;refine pV (fQ true) rfl ?_;refine pV (fQ true) (ys _ rfl) ?_;refine pV (fQ true) (xb _ _ hr rfl) ?_;refine Cv (fQ true) ?_;refine zE (by omega) (by omega) λw41 xo=>?_;have ho:=hr.trans xo;have hg:=xa.trans xo;refine⟨λ_=>xb _ _ ho rfl,λ_=>xt _ _ ((hx8d.trans ho).at xd id) rfl,λ_=>ld8 hg rfl,?_⟩;rw[Ah (by omega)];refine pV (v:=str ([123,97,32,61,32,108,44,32,98,32,61,32,123,99,32,61,32,108,91]++CF at_)) (fQ true) ?_ ?_
   ·rw[qA];exact⟨by simp only[aB,aN];show(_:Int)<=9223372036854775807;omega,rfl⟩
   refine pV (v:=str (Nn at_)) (fQ true) ?_ ?_
   ·rw[qA];exact⟨by simp only[aB,aN,aU];show(_:Int)<=9223372036854775807;omega,rfl⟩
   refine Cv (fQ true) ?_;refine one (tx:=Nn at_) (ex:=rD at_) (i:=7) (by unfold Nn;simp only[aU,aB,aN];omega) (aDK ⟨at_,j⟩) (kG (by unfold rD;rfl)) (RB ⟨at_,j⟩) (xz (Pn ⟨at_,j⟩)) (xh (Pm ⟨at_,j⟩)) (by unfold rD;simp) (by obtain⟨s,h1,h2⟩:=Ww H hn;exact⟨s,by omega,h2⟩) (yy.ext ho) hg λw45 yj=>?_;rw[lH];have I:=hg.trans yj;refine pV (fQ true) (ld8 I rfl) ?_;refine pV (fQ true) (ld9 I rfl) ?_;refine Cv (fQ true) ?_;refine one (tx:=ZF) (ex:=xX) (i:=9) (by decide) aDG (kG (by decide)) (by decide) Ui (xh (by decide)) (by decide) (by obtain⟨s,h1,h2⟩:=Uh H yx (by omega);exact⟨s,by omega,h2⟩) (yes _) I λw49 yi=>?_;rw[lH];exact hK w49 (hj.trans (I.trans yi))
end
end
section
open Go Go.RowKit Go.Eng Go.Deep
variable{w:World}{K:Q0}{cs:List Value}{G:Nat->Prop}{T:TypeId}{i:Nat}{n:Nat}{v:Value}{w':World}{P:Program}{c:UInt8}{S:Nat->Prop}
theorem MP{name:String}{k:IntKind}{zs:List Int}{g:Nat}{t e:TypeId}(hg:P.globalNamed name=some g)(o:(P.globals[g]?).map (·.type)=some t)(ht:P.underlying t=some (.array n e))(he:P.underlying e=some (.int k))(hc:P.cellsOf e=1)(U:P.cellsOf t=n)
  (h:Lib.VarReads P w name (Lib.tabData k zs)):Lib.TabIs P w name k zs:=by
 obtain⟨g',t',cs,fuel,p,J,I,j,hd⟩:=h;obtain rfl:=fN (hg.symm.trans J);obtain rfl:=fN (o.symm.trans I);unfold Lib.TabIs;rw[j,<-Lib.cells_of_tab ht he hc U hd]
theorem KC{fuel:Nat}{t:TypeId}{s:String}{x:DataW Unit}{p:List MemPlace}{m:Array TypeId}(j:∃m,P.underlying t=some (.interface m))(h:DataW.trod (λ_=>()) P w 0 (λ_=>true) false fuel t cs=some (.iface s x,p)):∃u v,cs=[.iface u v]:=by
 obtain⟨m,j⟩:=j;cases fuel with
 |zero=>cases h
 |succ fuel=>
  unfold DataW.trod at h;rw[j]at h
  match cs,h with
  |[],h=>cases h
  |[v],h=>
   cases v with
   |iface u v=>exact⟨u,v,rfl⟩
   |_=>cases h
  |a::b::r,h=>simp at h
theorem KD{nm:String}{g:Nat}{x:DataW Unit}{s:String}(hg:Tryz.prog.globalNamed nm=some g)(o:(Tryz.prog.globals[g]?).map (·.type)=some 118)(h:Lib.VarReads P0 w nm (.iface s x)):∃T v,w.cell? ⟨g,0,none⟩=some (.iface T v):=by
 obtain⟨g',t',cs,fuel,p,J,I,j,hd⟩:=h;obtain rfl:=fN (hg.symm.trans J);obtain rfl:=fN (o.symm.trans I);obtain⟨u,v,U⟩:=KC (m:=#[]) ⟨_,Tryz.underlying118⟩ hd;have:=World.var?_cell hg j 0;refine⟨u,v,?_⟩;rw[this];have e:cs=#[.iface u v]:=by
  apply yG;rw[U]
 rw[e];rfl
theorem Ub(o:laidMetH P0 Rows.evalNumbersRow.laid w)(j:w.ShapedOpen P0):uE w:=by
 have h:laidMet P0 Rows.evalNumbersRow.laid w:=by
  rw[Go.MakeChecks.laidMetH_plain _ _ _ (by kernel_rfl)]at o;exact o
 have r:∀n d,(n,d)∈Rows.evalNumbersRow.laid->Lib.VarReads P0 w n d:=λn d hm=>Lib.laidMet.reads h hm;have r2:Lib.VarReads P0 w "internal/strconv.uint64pow10" (Lib.tabData .u64 Lib.pow10Tab):=r _ _ (.tail _ (.tail _ (.head _)));have r4:Lib.VarReads P0 w "strconv.ErrRange" Rows.laid_strconv_ErrRange:=r _ _ (.tail _ (.tail _ (.tail _ (.tail _ (.head _)))));have r5:Lib.VarReads P0 w "strconv.ErrSyntax" Rows.laid_strconv_ErrSyntax:=r _ _ (.tail _ (.tail _ (.tail _ (.tail _ (.tail _ (.head _))))));refine⟨?_,KD (by kernel_rfl) (by kernel_rfl) r5,KD (by kernel_rfl) (by kernel_rfl) r4,?_⟩
 ·exact MP (g:=5) (t:=271) (e:=209) (n:=20) (by kernel_rfl) (by kernel_rfl) (by kernel_rfl) (by kernel_rfl) (by kernel_rfl) (by kernel_rfl) r2
 ·exact Go.Proofs.cell_of_shapedOpen_int (t:=3) (zero:=#[.int .i64 0]) j (of_decide_eq_true (by kernel_rfl)) (by kernel_rfl) rfl (by kernel_rfl) (by kernel_rfl) Tryz.underlying3
theorem tabe_of(o:laidMetH P0 Rows.evalNumbersRow.laid w)(j:w.ShapedOpen P0):TabE w:=
 ⟨Ub o j,Go.Proofs.cell_of_shapedOpen_int (t:=3) (zero:=#[.int .i64 0]) j (of_decide_eq_true (by kernel_rfl)) (by kernel_rfl) rfl (by kernel_rfl) (by kernel_rfl) Tryz.underlying3⟩
theorem handed_and_shaped{H:Type}{enc:TypeId×Value->H}{a:Assume}{C:Checked}{os:Os}{f:FuncId}{fn:Func}{s:ChangeSpec}{conds:List PathCond}{apart fresh handsOn again:Bool}{X:World->Array Value->Prop}
  (hX:∀(w w':World) (args:Array Value),w.heap=w'.heap->X w args->X w' args)
  (own:ownKnob C.prog.godebug=none)(started:os.Started)(noInit:C.prog.inits.idxOf? f=none)(hi:C.prog.funcs[f]?=some fn)
  (witness:∃(w:World) (tape:Tape) (i:Input),w.os=os/\(w.forCall tape i).Shaped C.prog/\i.vars=[]/\Input.okWide C.prog (w.forCall tape i) .any w.heap.size f i/\
    ((s.pre enc C.prog fn conds apart (w.forCall tape i).memory i.args/\X (w.forCall tape i).memory i.args)/\sizedMet enc C.prog fn (OpenSpec.ofChange s) apart (w.forCall tape i).memory i.args)/\a.holds C.prog (lone (Frame.enter C.prog f i.args .normal) [] (w.forCall tape i)))
  (contract:∀(W:World) (base:Nat) (args:Array Value) (ds gs:List (DataW H)) (before:List MemPlace),
    (∀(j:Nat) t v,fn.params[j]?=some t->args[j]?=some v->Value.okWide C.prog W .any base t v)->
    DataW.Whole enc C.prog fn.params.toList s.vars apart W args.toList ds gs before->
    conds.all (PathCond.test C.prog ⟨fn.params.toList,ds,s.plain.varTypes C.prog,gs⟩)=true->
    (DataW.weightsEach C.prog (fn.params.toList++s.plain.varTypes C.prog) (ds++gs)).all (· <=reachBytes)=true->X W args->W.ShapedOpen C.prog->
    a.holds C.prog (lone (Frame.enter C.prog f args .normal) [] W)->
    Calls C.prog f args W λe W'=>∃v,e=.returned v/\s.post enc C.prog fn apart fresh handsOn again W args v W'):
  ReturnsInHanded a C os f .any (λw args=>(s.pre enc C.prog fn conds apart w args/\X w args)/\sizedMet enc C.prog fn (OpenSpec.ofChange s) apart w args) (s.post enc C.prog fn apart fresh handsOn again):=by
 refine returnsInHanded_of_calls own started noInit witness ?_;intro w tape i _ hg _ hh I hholds;obtain⟨_,_,_,fn',J,_,_,_,_,o⟩:=hh;have e:fn'=fn:=fN (J.symm.trans hi);subst e;obtain⟨⟨⟨ds,gs,before,hw,hc⟩,hx⟩,hz⟩:=I;have U:=DataW.Whole.of_heap (w':=w.forCall tape i) (by rfl) hw;refine(contract (w.forCall tape i) w.heap.size i.args ds gs before o U hc (hz.weights hw) (hX _ _ _ (by rfl) hx) hg hholds).mono λe W' ⟨v,he,hp⟩=>?_;subst he;exact ChangeSpec.post_blind hp
section
variable{H:Type}{enc:TypeId×Value->H}{w:World}{base:Nat}{spare:Nat->Bool}{held:Bool}
theorem fopen_i{d:DataW H}{ps:List MemPlace}{r:Reach}{b0:Nat}(j:Value.okWide P0 w r b0 3 v)(h:DataW.Trod enc P0 w base spare held 3 v d ps):∃n:Int,v=i64 n/\-9223372036854775808<=n/\n<=9223372036854775807:=by
 obtain⟨n,rfl,_,_,o⟩:=Go.ChangeShapes.open_int Tryz.underlying3 j h;refine⟨n,rfl,?_⟩;have e1:IntKind.i64.min=-9223372036854775808:=by decide
 have e2:IntKind.i64.max=9223372036854775807:=by decide
 simp only[Lit.wf,aL,bD,e1,e2]at o;exact o
theorem PP{t e:TypeId}{fuel:Nat}{p:Option Addr}{c:Nat}{x:DataW H×List MemPlace}(o:P.underlying t=some (.slice e))(h:DataW.trod enc P w base spare held fuel t [.slice p n c]=some x):n<=9223372036854775807:=by
 rcases Deep.open_slice o h with⟨j,_⟩|⟨a,len,cap,m,n',D,Pl,j,_,hl,hm,_⟩
 ·cases j;omega
 ·cases j;unfold maxLen at hm;omega
theorem fopen_intsw{d:DataW H}{ps:List MemPlace}{r:Reach}{b0:Nat}(j:Value.okWide P0 w r b0 30 v)(h:DataW.Trod enc P0 w base spare held 30 v d ps):∃(T:TypeId) (l:List Int),(SlAt w T v l.length (l.map i64)/\l.length<=9223372036854775807)/\∀n∈l,I63 n:=by
 obtain⟨fuel,h⟩:=h;obtain⟨a,len,cap,rfl⟩:=Go.WideShapes.okWide_slice Tryz.underlying30 j;have o:(Value.slice a len cap).cells.toList=[Value.slice a len cap]:=rfl;rw[o]at h;obtain⟨p,n,c,T,m,f,D,Pl,he,hs,hf,hd⟩:=Pf Tryz.underlying30 (k:=1) (by kernel_rfl) (by omega) h;cases he;have hn:=PP Tryz.underlying30 h;have J:∀i,i<len->∃b:Int,f i=[i64 b]/\I63 b:=by
  intro i hi;obtain⟨a,hx,_,U⟩:=DataW.trod_int Tryz.underlying3 (hf i hi).2;refine⟨a,hx,?_⟩;have e1:IntKind.i64.min=-9223372036854775808:=by decide
  have e2:IntKind.i64.max=9223372036854775807:=by decide
  simp only[Lit.wf,aL,bD,e1,e2]at U;exact U
 obtain⟨g,hg⟩:=Deep.choose_lt J;have I:((List.range len).map f).flatten=((List.range len).map g).map i64:=by
  have:(List.range len).map f=(List.range len).map λi=>[i64 (g i)]:=List.map_congr_left λi hi=>(hg i (lR.1 hi)).1;rw[this];simp only[List.map_map];generalize List.range len=L;induction L with
  |nil=>rfl
  |cons a L ih=>simp only[dC,iL,ih,Function.comp_apply];rfl
 rw[I]at hs;exact⟨T,(List.range len).map g,⟨by simpa using hs,by simpa using hn⟩,λn hm=>by obtain⟨i,hi,rfl⟩:=dL.1 hm;exact(hg i (lR.1 hi)).2⟩
end
end
end Go.Proofs.YtghhmpppnmoeoaaGreatDoor
