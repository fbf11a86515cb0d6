/- One plain sentence: contracts and plain laws that the claim rests on. Conditions: those that each states. -/
import Derived.RangeFuncNested
import Derived.RangeFuncBound
import Derived.RangeFuncCalls
import Derived.RangeFuncLeaves
import Derived.Shelf.Abstract
import Derived.Shelf.RegionOpen
import Derived.WalkKit
import Derived.OwnWalkIn
import Derived.TacticsInMore
import Derived.LoopNIn
import Derived.LoopIn
import Derived.Test.YtghhmpppnmoeoaaGreatDoorXNumbers5
import Derived.RangeFuncFrom
import Derived.Test.YtghhmpppnmoeoaaGreatDoorXNumbers3
import Derived.Test.YtghhmpppnmoeoaaGreatDoorXNumbers1
import Derived.Deep.Slices
import Derived.DataReads
import Derived.ChangeArms
import Derived.Test.YtghhmpppnmoeoaaGreatDoorRows
import Derived.Below
import Derived.RowKit
import Derived.ChangeMaps5
import Derived.MakeChecks
import Derived.Lib.LaidTab
import Derived.Lib.LaidU8
import Derived.SizedLaws
import Derived.Shelf.Vars
set_option linter.all false
set_option linter.unusedSimpArgs false
set_option linter.unusedVariables false
set_option linter.unusedSectionVars false
set_option maxRecDepth 100000
namespace Go.Proofs.YtghhmpppnmoeoaaGreatDoor
section
open Go Go.RowKit Go.Shelf
attribute [local go_sem] Oper.semAt_some
variable{w:World}{K:Q0}{cs:List Value}{G:Nat->Prop}{T:TypeId}{i:Nat}{n:Nat}{v:Value}{w':World}{P:Program}{c:UInt8}{S:Nat->Prop}
abbrev A9:={x:Nat×Nat//x.1<1000001/\x.2<1000000000}
def mkA(a b:Nat):A9:=⟨(min a 1000000,min b 999999999),by show min a 1000000<1000001;omega,by show min b 999999999<1000000000;omega⟩
theorem Qg{a b:Nat}(h1:a<=1000000)(h2:b<1000000000):(mkA a b).1=(a,b):=by
 show(min a 1000000,min b 999999999)=(a,b);rw[nO h1,nO (by omega)]
def tS(zs:List Nat)(k:Nat):List A9:=(List.range k).map λj=>mkA (zs.length-1-j) (zs[zs.length-1-j]?.getD 0)
theorem GJ(zs:List Nat)(k:Nat):tS zs (k+1)=tS zs k++[mkA (zs.length-1-k) (zs[zs.length-1-k]?.getD 0)]:=by simp[tS,List.range_succ]
theorem Ri(zs:List Nat)(k:Nat):(tS zs k).length=k:=by simp[tS]
def RdB(Bs b off cap:Nat)(zs:List Nat)(W:World):Prop:=W.cell? ⟨Bs,0,none⟩=some (.slice (some ⟨b,off,none⟩) zs.length cap)/\∀j,j<zs.length->W.cell? ⟨b,off+j,none⟩=some (.int .u64 ((zs[j]?.getD 0:Nat):Int))
set_option maxRecDepth 100000 in
set_option maxHeartbeats 2000000 in
theorem Rj(n:Nat)(hn:1<=n)(l Bs b off cap:Nat)(zs:List Nat)(hfew:zs.length<=1000000)(hlim:∀z∈zs,z<1000000000)(Rd:World->Prop)(hRb:∀A,Rd A->RdB Bs b off cap zs A)(Kp:World->World->Prop)(hKp:∀A B,Rd A->Kp A B->Rd B)(J Jx:List A9->World->Prop)
  (hY:∀pre x W,J pre W->pre.length<zs.length->YieldAt Fence.wide (n-1) P0 l #[.int .i64 ((x.1.1:Nat):Int),.int .u64 ((x.1.2:Nat):Int)] W λe W'=>
    (e=.returned (.bool true)/\J (pre++[x]) W'/\Kp W W')\/(e=.returned (.bool false)/\Jx (pre++[x]) W'))
  (W:World)(hR:Rd W)(h0:J [] W):
  CallsIn Fence.wide n P0 253 #[.func (.yield l) #[] #[],.pointer (some ⟨Bs,0,none⟩)] W λe W'=>(∃v,e=.returned v)/\
   ((∃ys,ys=tS zs zs.length/\J ys W')\/(∃pre,(∃k,k<=zs.length/\pre=tS zs k)/\Jx pre W')):=by
 refine callsIn_of_wp Tryz.func253 rfl trivial ?_ rfl;simp only[Tryz.ntmps253,nS,aB,aN,Nat.reduceAdd,Nat.reduceSub,Ch,Cg,List.push_toArray,Di,eY,dB];have hBs:=(hRb _ hR).1
 gi_wp2
 gi_loopw [3] (λi wr=>((∃m:Nat,i=.int .i64 (m:Int)/\m<zs.length/\J (tS zs (zs.length-1-m)) wr)\/(i=.int .i64 (-1)/\J (tS zs zs.length) wr))/\Rd wr)
  (λi _=>(intOf i+1).toNat)
 case atStart=>
  refine⟨?_,hR⟩;rcases mS zs.length with h|h
  ·right;refine⟨by rw[h];rfl,?_⟩;rw[h];exact h0
  ·left;refine⟨zs.length-1,by congr 1;omega,by omega,?_⟩;rw[show zs.length-1-(zs.length-1)=0 by omega];exact h0
 case round=>
  obtain⟨⟨m,rfl,hm,hJs⟩|⟨rfl,hJs⟩,hRd⟩:=hrel
  ·have hcx:=(hRb _ hRd).2 m hm;have hbx:=(hRb _ hRd).1;have hz:zs[m]?.getD 0=zs[m]:=by simp[hm]
   rw[hz]at hcx;obtain⟨fn,tmps,assign,body,hy,hRn⟩:=hY _ (mkA m zs[m]) wr hJs (by rw[Ri];omega);have em:(mkA m zs[m]).1=(m,zs[m]):=Qg (by omega) (hlim _ (uH hm));rw[em]at hy;dsimp only at hy;have e1:tS zs (zs.length-1-m)++[mkA m zs[m]]=tS zs (zs.length-m):=by
    rw[<-hz,show zs.length-m=zs.length-1-m+1 by omega,GJ,show zs.length-1-(zs.length-1-m)=m by omega]
   gi_wp2
   refine hRn.mono ?_;rintro e W3 (⟨rfl,hJ3,hk3⟩|⟨rfl,hJx3⟩)
   ·gi_wp2
    go_roundw
    case rel=>
     refine⟨?_,hKp _ _ hRd hk3⟩;rw[e1]at hJ3;rcases mS m with h|h
     ·right;subst h;exact⟨rfl,hJ3⟩
     ·left;refine⟨m-1,?_,by omega,?_⟩
      ·congr 1;omega
      ·rw[show zs.length-1-(m-1)=zs.length-m by omega];exact hJ3
    case measure=>simp only[intOf];omega
   ·gi_wp2
    refine bodyPost_ret (results_none rfl _ _ _) rfl ?_;rw[e1]at hJx3;exact⟨⟨_,rfl⟩,.inr ⟨_,⟨_,by omega,rfl⟩,hJx3⟩⟩
  ·gi_wp2
   go_end0
   exact⟨⟨_,rfl⟩,.inl ⟨_,rfl,hJs⟩⟩
end
section
open Go Go.Eng Go.Num Go.RowKit Go.Shelf
variable{w:World}{K:Q0}{cs:List Value}{G:Nat->Prop}{T:TypeId}{i:Nat}{n:Nat}{v:Value}{w':World}{P:Program}{c:UInt8}{S:Nat->Prop}
abbrev OC(w:World):Prop:=wP w
theorem BZ{g:FuncId}{args:List Value}{K:Q0}(hr:(callFunc g args.toArray).run P w=.ok (.enter g args.toArray) w)(h:@aC noX P g args w K):Calls P g args.toArray w λe w'=>∃v,e=.returned v/\K v w':=by
 letI:=noX;refine(callF_calls hr h).mono ?_;rintro e w' he;cases e with
 |returned v=>exact⟨v,rfl,he⟩
 |panicked c=>exact he.elim
 |outgrown=>exact he.elim
theorem aAi{v:Nat}(hT:wP w)(hv:v<1000000000):Calls P0 228 #[u64 v,i64 10] w λe w'=>e=.returned (str (Lib.decDigits v))/\Ext w w':=by
 letI:=noX;refine(BZ (args:=[u64 v,i64 10]) (Tryz.call228 _ _) (aAh (K:=λx w'=>x=str (Lib.decDigits v)/\Ext w w') hT (by omega) λw' h=>⟨rfl,h⟩)).mono ?_;rintro e w' ⟨x,rfl,rfl,h⟩;exact⟨rfl,h⟩
theorem aBY(hn:n<=1000000):Calls P0 183 #[str [48],i64 (n:Nat)] w λe w'=>e=.returned (str (List.replicate n 48))/\Ext w w':=by
 letI:=noX;refine(BZ (args:=[str [48],i64 (n:Nat)]) (Tryz.call183 _ _) (Iz (K:=λx w'=>x=str (List.replicate n 48)/\Ext w w') (s:=[48]) (by simp) hn λw' h=>⟨?_,h⟩)).mono ?_
 ·congr 1;induction n with
  |zero=>rfl
  |succ n ih=>rw[vR,zN,ih (by omega)];rfl
 rintro e w' ⟨x,rfl,rfl,h⟩;exact⟨rfl,h⟩
theorem OG{B b:Nat}{l s:Str}(h:Bld w B b l)(hB:B<=w.heap.size)(hl:l.length+s.length<=140737488355328):Calls P0 66 #[.pointer (some ⟨b,0,none⟩),str s] w λe w'=>(∃v,e=.returned v)/\Bld w' B b (l++s)/\Chg (BCh w B b) w w':=by
 letI:=noX;refine(BZ (args:=[.pointer (some ⟨b,0,none⟩),str s]) (Tryz.call66 _ _) (Kr (K:=λ_ w'=>Bld w' B b (l++s)/\Chg (BCh w B b) w w') h hB hl λv w' h1 h2=>⟨h1,h2⟩)).mono ?_;rintro e w' ⟨x,rfl,h⟩;exact⟨⟨x,rfl⟩,h⟩
def rW(L:Nat)(x:A9):Str:=if x.1.1<L-1 then KX x.1.2 else Lib.decDigits x.1.2
def EN(L:Nat)(pre:List A9):Str:=pre.flatMap (rW L)
theorem Dx(L:Nat)(x:A9):(rW L x).length<=9:=by
 unfold rW;split
 ·exact Nat.le_of_eq (BB x.2.2).1
 ·exact xX 9 x.1.2 (by have:=x.2.2;omega) (by omega)
theorem Kj(L:Nat):∀pre:List A9,(EN L pre).length<=9*pre.length
 |[]=>by simp[EN]
 |x::r=>by
  have:=Kj L r
  have:=Dx L x
  simp only[EN,zO,bG,aB]at*
  omega
theorem Ki{zs:List Nat}(hlim:Lim zs)(hfew:zs.length<=1000000):∀k,k<=zs.length->EN zs.length (tS zs k)=lH (zs.drop (zs.length-k))
 |0,_=>by rw[Nat.sub_zero,dW];rfl
 |k+1,h=>by
  have hm:zs.length-(k+1)<zs.length:=by omega
  have hz:zs[zs.length-1-k]?.getD 0=zs[zs.length-(k+1)]:=by
   rw[show zs.length-1-k=zs.length-(k+1)by omega,List.getElem?_eq_getElem hm];rfl
  have em:(mkA (zs.length-1-k) zs[zs.length-(k+1)]).1=(zs.length-1-k,zs[zs.length-(k+1)]):=Qg (by omega) (hlim _ (uH hm));rw[GJ,hz];have ih:=Ki hlim hfew k (by omega);unfold EN at ih⊢;rw[List.flatMap_append,ih,zO,List.flatMap_nil,eS,cC hm,show zs.length-(k+1)+1=zs.length-k by omega];unfold rW;rw[em];rcases mS k with rfl|hk
  ·rw[aE (by show¬zs.length-1-0<zs.length-1;omega),Nat.sub_zero,dW,Fq];simp[lH]
  ·rw[aI (by show zs.length-1-k<zs.length-1;omega),Dp (by intro e;have:=dZ.1 e;omega)]
def KpT(b:Nat)(A B:World):Prop:=A.heap.size<=B.heap.size/\∀(k:Nat) (c:Array Value) (T:TypeId) (fr:Nat×Nat),A.heap[k]?=some (.cells c T fr)->k≠b->T≠U8->B.heap[k]?=some (.cells c T fr)
theorem KpT.trans{b:Nat}{A B C:World}(h:KpT b A B)(h':KpT b B C):KpT b A C:=⟨cD h.1 h'.1,λk c T fr hk hb hT=>h'.2 k c T fr (h.2 k c T fr hk hb hT) hb hT⟩
theorem KpT.ext{b:Nat}{A B:World}(h:Ext A B):KpT b A B:=⟨h.size,λk c T fr hk _ _=>h.at hk id⟩
theorem KpT.bch{B b:Nat}(h:Chg (BCh w B b) w w'):KpT b w w':=⟨h.size,λk c T fr hk hb hT=>BCh.keep h hk hb hT⟩
theorem Gi{W W':World}{row:Option Nat}(h:W.grownBy W' row):Chg (λk=>some k=row) W W':=⟨h.os,h.tape,h.output,h.size,λk hk hn=>h.block k hk hn⟩
def RdT(b Bs bk off cap:Nat)(zs:List Nat)(W:World):Prop:=Bs≠b/\bk≠b/\W.heap[Bs]?=some (.cells #[.slice (some ⟨bk,off,none⟩) zs.length cap] 196 (0,0))/\∃c fr,W.heap[bk]?=some (.cells c U64 fr)/\∀j,j<zs.length->c[off+j]?=some (u64 (zs[j]?.getD 0))
theorem RdT.rdb{b Bs bk off cap:Nat}{zs:List Nat}{W:World}(h:RdT b Bs bk off cap zs W):RdB Bs bk off cap zs W:=by
 obtain⟨_,_,h1,c,fr,h2,h3⟩:=h;refine⟨by rw[cJ,h1];rfl,λj hj=>?_⟩;rw[cJ,h2,cP];exact h3 j hj
theorem RdT.kp{b Bs bk off cap:Nat}{zs:List Nat}{A B:World}(h:RdT b Bs bk off cap zs A)(hk:KpT b A B):RdT b Bs bk off cap zs B:=by
 obtain⟨e1,e2,h1,c,fr,h2,h3⟩:=h;exact⟨e1,e2,hk.2 _ _ _ _ h1 e1 (by decide),c,fr,hk.2 _ _ _ _ h2 e2 (by decide),h3⟩
theorem RdT.chg{b Bs bk off cap:Nat}{zs:List Nat}{A B:World}(h:RdT b Bs bk off cap zs A)(hc:Chg S A B)(hS:∀k c T fr,A.heap[k]?=some (.cells c T fr)->¬S k):RdT b Bs bk off cap zs B:=by
 obtain⟨e1,e2,h1,c,fr,h2,h3⟩:=h;exact⟨e1,e2,hc.at h1 (hS _ _ _ _ h1),c,fr,hc.at h2 (hS _ _ _ _ h2),h3⟩
structure TxI(w:World)(p b Bs bk off cap:Nat)(zs:List Nat)(bl:Bool)(acc:Str)(W:World):Prop where
 ext:Ext w W
 bld:Bld W b b acc
 hp:W.heap[p]?=some (.cells #[.bool bl,.slice (some ⟨bk,off,none⟩) zs.length cap] BT (0,0))
 rd:RdT b Bs bk off cap zs W
theorem aAx(a:Option Addr)(len cap:Nat)(w:World):CallsIn Fence.wide 9 P0 227 #[.slice a len cap] w λe w'=>e=.returned (.func (.func 253) #[] #[.pointer (some ⟨w.heap.size,0,none⟩)])/\w'=w.alloc (.cells #[.slice a len cap] 196):=by
 refine callsIn_of_wp Tryz.func227 rfl trivial ?_ rfl;simp only[Tryz.ntmps227,nS,aB,aN,Nat.reduceAdd,Nat.reduceSub,Ch,Cg,List.push_toArray,Di,eY,dB]
 gi_wp2
 go_ret
 exact⟨rfl,rfl⟩
attribute [local go_sem] Oper.semAt_some
set_option maxHeartbeats 4000000 in
theorem Uw{x:Big}{n:Int}(hT:OC w)(h:iW w x cs)(hx:ofInt n x)(hl:x.l.length<=900):Calls P0 188 #[.agg cs.toArray] w λe w'=>e=.returned (.tuple #[str (gP n).1,i64 (gP n).2])/\Ext w w':=by
 haveI:HX:=noX;obtain⟨sv,_,rfl,h1,h2,h3⟩:=h;obtain⟨p,cap,rfl,h4,h5,h6⟩:=h1;refine(callsIn_wide (n:=10)).1 ?_;by_cases hz:x.l.length=0
 ·refine callsIn_of_wp Tryz.func188 rfl trivial ?_ rfl;simp only[Tryz.ntmps188,nS,aB,aN,Nat.reduceAdd,Nat.reduceSub,Ch,Cg,List.push_toArray,Di,eY,dB]
  gi_wp2
  refine bodyPost_ret (results_tmp2 rfl _ _ _) rfl ?_;have hl0:x.l=[]:=bJ hz;have hn:n=0:=by rw[<-hx.2];unfold Big.int;rw[hl0];simp[val]
  refine⟨?_,Chg.alloc (Chg.refl _ _) _⟩;have e0:Lib.itoa 0=[48]:=by unfold Lib.itoa;rw[aE (by omega)];exact MP
  have e1:gP 0=([48],0):=by unfold gP;rw[e0];rfl
  rw[hn,e1];rfl
 have hne:x.l.map u64≠[]:=λe=>hz (by rw[<-eJ (f:=u64),e];rfl);obtain⟨bk,off,cc,fr,rfl,hbk,hcc⟩:=h6 hne;refine callsIn_of_wp_marks Tryz.func188 rfl trivial ?_ rfl;simp only[Tryz.ntmps188,nS,aB,aN,Nat.reduceAdd,Nat.reduceSub,Ch,Cg,List.push_toArray,Di,eY,dB];have hz':(x.l.length:Int)≠0:=by omega
 have hf1:Fence.wide.fn 227:=trivial
 gi_wp2_with (gi_at_call 227;refine(aAx _ _ _ _).mono ?_;rintro e w' ⟨rfl,rfl⟩)
 generalize hzs:x.l=zs at*
 obtain⟨W3,hW3⟩:∃W3,(((w.alloc (.cells #[.bool x.below,.slice (some ⟨bk,off,none⟩) zs.length cap] BT)).alloc (.cells #[.pointer none,.slice none 0 0] BdT)).alloc (.cells #[.slice (some ⟨bk,off,none⟩) zs.length cap] 196))=W3:=⟨_,rfl⟩;rw[hW3];have hbkl:=fC hbk;have hs3:W3.heap.size=w.heap.size+3:=by rw[<-hW3];simp
 have hx3:Ext w W3:=by rw[<-hW3];exact Chg.alloc (Chg.alloc (Chg.alloc (Chg.refl _ _) _) _) _
 have g0:W3.heap[w.heap.size]?=some (.cells #[.bool x.below,.slice (some ⟨bk,off,none⟩) zs.length cap] BT (0,0)):=by
  rw[<-hW3,zA _ _ _ (by simp;omega),zA _ _ _ (by simp)];exact gT _ _ _ rfl
 have g1:W3.heap[w.heap.size+1]?=some (.cells #[.pointer none,.slice none 0 0] BdT (0,0)):=by
  rw[<-hW3,zA _ _ _ (by simp)];exact gT _ _ _ (by simp)
 have g2:W3.heap[w.heap.size+1+1]?=some (.cells #[.slice (some ⟨bk,off,none⟩) zs.length cap] 196 (0,0)):=by
  rw[<-hW3];exact gT _ _ _ (by simp)
 have hrd3:RdT (w.heap.size+1) (w.heap.size+1+1) bk off cap zs W3:=by
  refine⟨by omega,by omega,g2,cc,fr,hx3.at hbk id,λj hj=>?_⟩;have:=hcc j (by rw[eJ];exact hj);rw[this,List.getElem?_map,List.getElem?_eq_getElem hj];rfl
 have hI3:TxI w w.heap.size (w.heap.size+1) (w.heap.size+1+1) bk off cap zs x.below [] W3:=⟨hx3,⟨_,_,g1,.inl rfl,⟨by simp[u8s],.inl ⟨rfl,rfl⟩⟩,aU _⟩,g0,hrd3⟩;refine wpIn_rangeFunc_ownF (F:=Fence.wide) rfl (by decide) (gf:=253) (lb:=#[.pointer (some ⟨w.heap.size+1+1,0,none⟩)]) rfl trivial (enters_of Tryz.func253 (by kernel_rfl) rfl)
  (encs:=λx:A9=>#[.int .i64 ((x.1.1:Nat):Int),.int .u64 ((x.1.2:Nat):Int)]) (Kp:=KpT (w.heap.size+1)) (S:=λxs=>xs=tS zs zs.length) (Sp:=λpre=>∃k,k<=zs.length/\pre=tS zs k) (N:=zs.length) (w0:=W3)
  (λl J Jx W hW hJ hJx hY h0=>?seq) (λh h'=>h.trans h') (λW l o o' hl ho hc _=>?kb) (Below.refl _ _) (λ_=>rfl)
  (λpre W=>TxI w w.heap.size (w.heap.size+1) (w.heap.size+1+1) bk off cap zs x.below (EN zs.length pre) W)
  (λ_ _ _=>False) (λpre A B row hs hg hr=>?own) (λ_ _ _ _ _ hs _ _=>hs) hI3
  (λy=>{tmps:=#[.agg #[.bool x.below,.slice (some ⟨bk,off,none⟩) zs.length cap],.pointer (some ⟨w.heap.size,0,none⟩),.string ⟨#[]⟩,.int .i64 0,.pointer (some ⟨w.heap.size+1,0,none⟩),.int .i64 ((y.1.1:Nat):Int),.int .u64 ((y.1.2:Nat):Int),undef,
    .pointer (some ⟨w.heap.size,1,none⟩),.slice (some ⟨bk,off,none⟩) zs.length cap,.int .i64 (zs.length:Nat),.bool false,.pointer (some ⟨w.heap.size,1,none⟩),.slice (some ⟨bk,off,none⟩) zs.length cap,.func (.func 253) #[] #[.pointer (some ⟨w.heap.size+1+1,0,none⟩)],
    .int .i64 ((y.1.1:Nat):Int),.int .u64 ((y.1.2:Nat):Int),undef,undef,undef,undef,undef,undef,undef,undef,undef,undef,undef,undef,undef,undef,undef,undef,undef,undef,undef,undef,undef,undef,undef],defers:=[]}) ?assign ?body ?done ?stop
 case seq=>
  refine Rj 9 (by decide) l (w.heap.size+1+1) bk off cap zs (by omega) h3 (RdT (w.heap.size+1) (w.heap.size+1+1) bk off cap zs) (λA hA=>hA.rdb) (KpT (w.heap.size+1)) (λA B hA hk=>hA.kp hk) J Jx hY W ?_ h0;exact hrd3.kp ⟨hW.size,λk c T fr hk _ _=>(hW.block k (fC hk)).trans hk⟩
 case kb=>
  refine⟨by simp[World.putObj],λk c T fr hk hb hT=>?_⟩;have hne:k≠l:=λe=>by subst e;rw[ho]at hk;cases hk;cases hc
  rw[World.putObj_heap_other hne];exact hk
 case own=>
  have hc:=Gi hg;have hno:∀k c T fr,A.heap[k]?=some (.cells c T fr)->¬(some k=row):=λk c T fr hk e=>by
   obtain⟨_,o,h1,h2⟩:=hr k e.symm;rw[hk]at h1;cases h1;cases h2
  obtain⟨i1,i2,i3,i4⟩:=hs;refine⟨i1.then hc λk hk e=>by have:=(hr k e.symm).1;omega,i2.chg hc ?_ λk hk=>?_,hc.at i3 (hno _ _ _ _ i3),i4.chg hc hno⟩
  ·obtain⟨_,_,b1,_⟩:=i2;exact hno _ _ _ _ b1
  ·obtain⟨_,c,hk⟩:=hk;exact hno _ _ _ _ hk
 case assign=>
  intro l x W K hK
  gi_wp2
  exact hK
 case body=>
  rintro l pre y W ⟨i1,i2,i3,i4⟩ hlen;have hal:=Kj zs.length pre;have hy2:=y.2.2;have hd9:(Lib.decDigits y.1.2).length<=9:=xX 9 y.1.2 (by omega) (by omega);have hd:1<=10-1-1:=by decide
  have fin:∀{W1 W2:World},Ext W W1->Bld W2 (w.heap.size+1) (w.heap.size+1) (EN zs.length pre++rW zs.length y)->Chg (BCh W1 (w.heap.size+1) (w.heap.size+1)) W1 W2->KeepsOthers W W2/\KpT (w.heap.size+1) W W2/\TxI w w.heap.size (w.heap.size+1) (w.heap.size+1+1) bk off cap zs x.below (EN zs.length (pre++[y])) W2:=λ{W1 W2} hx1 hB hc=>by
   have hk:KpT (w.heap.size+1) W W2:=(KpT.ext hx1).trans (KpT.bch hc);refine⟨⟨hk.1,λk o hko ho=>?_⟩,hk,?_,?_,?_,i4.kp hk⟩
   ·have h1:=hx1.at hko id;refine hc.at h1 λe=>?_;rcases e with rfl|⟨_,c,e⟩
    ·obtain⟨_,_,b1,_⟩:=i2;rw[hko]at b1;cases b1;cases ho
    ·rw[h1]at e;cases e;cases ho
   ·exact(i1.trans hx1).then hc λk hk e=>by
     rcases e with e|e
     ·omega
     ·have:=e.1;omega
   ·have e:EN zs.length (pre++[y])=EN zs.length pre++rW zs.length y:=by simp[EN]
    rw[e];exact hB
   ·exact hk.2 _ _ _ _ i3 (by omega) (by decide)
  gi_wp2
  refine⟨trivial,(CallsIn.inRound l (callsIn_wide.2 (aAi (hT.ext i1) hy2))).mono ?_⟩;rintro e W1 ⟨rfl,hx1⟩;dsimp only;have hp1:=hx1.at i3 id;have hc1:W1.cell? ⟨w.heap.size,1,none⟩=some (.slice (some ⟨bk,off,none⟩) zs.length cap):=by rw[cJ,hp1];rfl
  have hB1:=i2.ext hx1;by_cases hlt:((y.1.1:Nat):Int)<(zs.length:Int)-1
  ·gi_wp2
   have harg:wrap64 (9-(((ofL (Lib.decDigits y.1.2)).size:Nat):Int))=((9-(Lib.decDigits y.1.2).length:Nat):Int):=by
    rw[fH];unfold wrap64;omega
   rw[harg];refine⟨trivial,(CallsIn.inRound l (callsIn_wide.2 (aBY (w:=W1) (by omega)))).mono ?_⟩;rintro e W2 ⟨rfl,hx2⟩;dsimp only;have hsum:(ofL (List.replicate (9-(Lib.decDigits y.1.2).length) 48)).size+(ofL (Lib.decDigits y.1.2)).size<=9223372036854775807:=by
    rw[fH,fH,List.length_replicate];omega
   have hsum2:¬9223372036854775807<(ofL (List.replicate (9-(Lib.decDigits y.1.2).length) 48)).size+(ofL (Lib.decDigits y.1.2)).size:=by omega
   have hc2:W2.cell? ⟨w.heap.size,1,none⟩=some (.slice (some ⟨bk,off,none⟩) zs.length cap):=by rw[cJ,hx2.at hp1 id];rfl
   have hB2:=hB1.ext hx2
   gi_wp2
   rw[Ho];have hrt:List.replicate (9-(Lib.decDigits y.1.2).length) 48++Lib.decDigits y.1.2=rW zs.length y:=by
    unfold rW;rw[aI (by omega)];rfl
   rw[hrt];have hrl:=Dx zs.length y;refine⟨trivial,(CallsIn.inRound l (callsIn_wide.2 (OG (s:=rW zs.length y) hB2 (by have:=hx1.size;have:=hx2.size;have:=i2.lt;omega) (by omega)))).mono ?_⟩;rintro e W3 ⟨⟨v,rfl⟩,hB3,hc3⟩;dsimp only
   gi_wp2
   exact fin (hx1.trans hx2) hB3 hc3
  ·gi_wp2
   have hrt:Lib.decDigits y.1.2=rW zs.length y:=by
    unfold rW;rw[aE (by omega)]
   refine⟨trivial,(CallsIn.inRound l (callsIn_wide.2 (OG (s:=Lib.decDigits y.1.2) hB1 (by have:=hx1.size;have:=i2.lt;omega) (by omega)))).mono ?_⟩;rintro e W2 ⟨⟨v,rfl⟩,hB2,hc2⟩;dsimp only
   gi_wp2
   rw[hrt]at hB2;exact fin hx1 hB2 hc2
 case done=>
  rintro D xs W hD rfl ⟨i1,i2,i3,i4⟩ hK;rw[Ki h3 (by omega) zs.length (aU _),Nat.sub_self,cX]at i2;have hzne:zs≠[]:=λe=>hz (by rw[e];rfl);obtain⟨o1,o2⟩|⟨o1,o2,o3,o4⟩:=ok_int hx.1
  ·rw[hzs]at o1;exact absurd o1 hzne
  rw[hx.2,hzs]at o4;rw[hzs]at o3;have hnat:n.natAbs=val zs:=by rw[<-hx.2];unfold Big.int;rw[hzs];split<;>omega
  have hdig:dig (Lib.itoa n)=lH zs:=by rw[vM,hnat,Ft h3 (hzs▸hx.1.2) hzne]
  have htl:=Fs zs h3;have hlen:=Tryz.Builder_Len_f (w.heap.size+1) (w.heap.size+1) (Lib.byteCells (lH zs)) W i2.isb;have hstr:=Tryz.Builder_String_any_k (w.heap.size+1) (w.heap.size+1) (lH zs) W i2.isb (by have:=i2.lt;omega);have hc3:W.cell? ⟨w.heap.size,0,none⟩=some (.bool x.below):=by rw[cJ,i3];rfl
  have hbl:(Lib.byteCells (lH zs)).length=(lH zs).length:=by simp[Lib.byteCells]
  rw[hbl]at hlen;have mY:∀{W':World},Ext w W'->W'.heap[D]?=some (.deferred (some []))->Ext w (W'.putObj D (.deferred none)):=λ{W'} hx' hk=>by
   refine hx'.then (Gi (grownBy_putObj' W' D _)) λk hk e=>by
    have e:some k=some D:=e;cases e;omega
  have hwD:w.heap.size<=D:=by omega
  gi_wp2
  refine⟨trivial,(callsIn_wide.2 hlen).mono ?_⟩;rintro e W1 ⟨rfl,rfl⟩;dsimp only;by_cases h100:(100:Int)<((lH zs).length:Nat)
  ·gi_wp2
   refine⟨by simp,.inl ⟨_,_,rfl,run_takeDeferred hK,?_⟩⟩;refine⟨_,results_tmp2 rfl _ _ _,?_,mY i1 hK⟩;have e1:gP n=([],3):=by unfold gP;rw[aI (by rw[hdig];omega)]
   rw[e1];rfl
  ·have e1:gP n=(Lib.itoa n,0):=by unfold gP;rw[aE (by rw[hdig];omega)]
   cases hb:x.below with
   |true=>
    rw[hb]at hc3
    gi_wp2
    refine⟨trivial,(callsIn_wide.2 hstr).mono ?_⟩;rintro e W2 ⟨rfl,_,hbel,hot⟩;dsimp only
    gi_wp2
    have hK2:=hot D _ hK (by simp only[bN,bD];omega) (λc fz e=>by cases e);have hx2:Ext w W2:=i1.then (⟨hbel.os,hbel.tape,hbel.output,hbel.size,λk _ hn=>hbel.block k (by omega)⟩:Chg (λk=>w.heap.size+1<=k) _ W2) λk hk e=>by omega
    refine⟨by simp,.inl ⟨_,_,rfl,run_takeDeferred hK2,?_⟩⟩;refine⟨_,results_tmp2 rfl _ _ _,?_,mY hx2 hK2⟩;rw[e1,o4,hb,aI rfl];show Ending.returned (.tuple #[.string (ofL [45]++ofL (lH zs)),.int .i64 0])=_;rw[Ho]
   |false=>
    rw[hb]at hc3
    gi_wp2
    refine⟨trivial,(callsIn_wide.2 hstr).mono ?_⟩;rintro e W2 ⟨rfl,_,hbel,hot⟩;dsimp only
    gi_wp2
    have hK2:=hot D _ hK (by simp only[bN,bD];omega) (λc fz e=>by cases e);have hx2:Ext w W2:=i1.then (⟨hbel.os,hbel.tape,hbel.output,hbel.size,λk _ hn=>hbel.block k (by omega)⟩:Chg (λk=>w.heap.size+1<=k) _ W2) λk hk e=>by omega
    refine⟨by simp,.inl ⟨_,_,rfl,run_takeDeferred hK2,?_⟩⟩;refine⟨_,results_tmp2 rfl _ _ _,?_,mY hx2 hK2⟩;rw[e1,o4,hb,aE (by simp),eY];rfl
 case stop=>
  rintro D c pre W _ _ h _;exact h.elim
section
variable [HX]
theorem AL{x:Big}{n:Int}{K:Q0}(hT:OC w)(h:iW w x cs)(hx:ofInt n x)(hl:x.l.length<=900)(hK:∀w',Ext w w'->K (.tuple #[str (gP n).1,i64 (gP n).2]) w'):aC P0 188 [.agg cs.toArray] w K:=by
 refine gS (args:=#[.agg cs.toArray]) Tryz.call188 ((Uw hT h hx hl).mono ?_);rintro e w' ⟨rfl,hx'⟩;exact⟨_,rfl,hK w' hx'⟩
end
end
section
open Go Go.Eng Go.Num Go.RowKit
variable{w:World}{K:Q0}{cs:List Value}{G:Nat->Prop}{T:TypeId}{i:Nat}{n:Nat}{v:Value}{w':World}{P:Program}{c:UInt8}{S:Nat->Prop}
theorem mI(l:List Nat):(gZ l).length<=l.length:=by
 induction l using xG with
 |h0=>rw[rI];simp
 |h1 l x ih=>
  by_cases h:x=0
  ·subst h;rw[pK];simp;omega
  ·rw[uM h];simp
theorem rX{a:Str}(h:goodN a=true):(gR a).l.length<=100:=by
 obtain⟨_,h2,_,_⟩:=iZ h;haveI:HX:=noX;have h3:=yX _ (dig a) (aU _);have:=mI (lJ (dig a));show(gZ (lJ (dig a))).length<=100;omega
theorem pV{a:Str}(h:goodN a=true):a.length<=9223372036854775807:=by
 have:=Eo h;omega
theorem yR:∀(x y:List Nat) (c:Nat),(iK x y c).length<=x.length+y.length+1
 |[],[],c=>by simp[iK]
 |[],b::y,c=>by have:=yR [] y ((c+b)/1000000000);simp[iK]at this⊢;omega
 |a::x,[],c=>by have:=yR x [] ((c+a)/1000000000);simp[iK]at this⊢;omega
 |a::x,b::y,c=>by have:=yR x y ((c+a+b)/1000000000);simp[iK]at this⊢;omega
section
variable [HX]
theorem AB{a b:Str}{B:Q0}{g:List Value->Fr->World->Prop}(ha:goodN a=true)(hb:goodN b=true)(hK:∀w',Ext w w'->B (.bool false) w'):
  aC P0 75 [str a] w λt7 w1=>unW .not t7 λt8=>GdW (isB t8 false) [undef] w1 (λJ2=>aC P0 75 [str b] w1 λt11 w3=>unW .not t11 λt12=>J2 [t12] w3) λs2 _ w4=>cR t8 (.bool true) (s2.getD 0 undef) λt13=>B t13 w4:=by
 refine kW (pV ha) λw1 hx1=>?_;rw[ha,eP];refine GdW.act false (λw'=>Ext w1 w') (λ_=>Chg.refl _ _) ?_ ?_
 ·intro _ J hJ;refine kW (pV hb) λw2 hx2=>?_;rw[hb,eP];exact hJ w2 hx2
 intro g2 w4 hx4;exact hK w4 (hx1.trans hx4)
theorem OV{x y:Big}{a b:Int}{ds:List Value}{K:Q0}(h:iW w x cs)(h':iW w y ds)(hx:ofInt a x)(hy:ofInt b y)(hl:x.l.length+y.l.length<=800)
  (hK:∀z cs' w',Ext w w'->iW w' z cs'->ofInt (a+b) z->z.l.length<=x.l.length+y.l.length+1->K (.agg cs'.toArray) w'):aC P0 185 [.agg cs.toArray,.agg ds.toArray] w K:=by
 refine Ma h h' (by omega) λcs' w' hx' hz=>hK _ cs' w' hx' hz (NH hx hy) ?_;have hm:∀(x y:List Nat) (c:Nat),(gO x y c).length<=x.length:=by
  intro x;induction x with
  |nil=>intro y c;simp[gO]
  |cons a x ih=>
   intro y c;simp only[gO];split<;>simp only[aB]<;>have:=ih y.tail<;>grind
 unfold Dr;split
 ·have:=yR x.l y.l 0;have:=mI (iK x.l y.l 0);simp only[Big.trim];omega
 ·split
  ·have:=hm x.l y.l 0;have:=mI (gO x.l y.l 0);simp only[Big.trim];omega
  ·have:=hm y.l x.l 0;have:=mI (gO y.l x.l 0);simp only[Big.trim];omega
theorem aCJ{a b:Str}{K:Q0}(hT:OC w)(ha:goodN a=true)(hb:goodN b=true)(hK:∀w',Ext w w'->K (.tuple #[str (gP (num a+num b)).1,i64 (gP (num a+num b)).2]) w'):aC P0 133 [str a,str b] w K:=by
 refine WZ ?_;unfold aDG;refine AB (g:=λ_ _ _=>True) ha hb λw4 hx4=>?_;rw[dD];refine nD ha (pV ha) λcs1 w5 hx5 h1=>?_;refine nD hb (pV hb) λcs2 w6 hx6 h2=>?_;have:=rX ha;have:=rX hb;refine OV (h1.ext hx6) h2 (pS ha) (pS hb) (by omega) λz cs3 w7 hx7 h3 hz hzl=>?_;have hx:=hx4.trans (hx5.trans (hx6.trans hx7));refine AL (hT.ext hx) h3 hz (by omega) λw8 hx8=>?_;simp only[bK];exact⟨_,rfl,_,rfl,hK w8 (hx.trans hx8)⟩
theorem XN{a b:Str}{K:Q0}(hT:OC w)(ha:goodN a=true)(hb:goodN b=true)(hK:∀w',Ext w w'->K (.tuple #[str (gP (num a-num b)).1,i64 (gP (num a-num b)).2]) w'):aC P0 129 [str a,str b] w K:=by
 refine Xd ?_;unfold aDK;refine AB (g:=λ_ _ _=>True) ha hb λw4 hx4=>?_;rw[dD];refine nD ha (pV ha) λcs1 w5 hx5 h1=>?_;refine nD hb (pV hb) λcs2 w6 hx6 h2=>?_;have:=rX ha;have:=rX hb;refine Dk h2 λcs4 w9 hx9 h4=>?_;have:=mI (gR b).l;have hl4:(zT (gR b)).l.length<=100:=by show(gZ (gR b).l).length<=100;omega
 refine OV (h1.ext (hx6.trans hx9)) h4 (pS ha) (KY (pS hb)) (by omega) λz cs3 w7 hx7 h3 hz hzl=>?_;have hx:=hx4.trans (hx5.trans (hx6.trans (hx9.trans hx7)));refine AL (hT.ext hx) h3 hz (by omega) λw8 hx8=>?_;simp only[bK];exact⟨_,rfl,_,rfl,hK w8 (hx.trans hx8)⟩
theorem aCi{a b:Str}{K:Q0}(hT:OC w)(ha:goodN a=true)(hb:goodN b=true)(hK:∀w',Ext w w'->K (.tuple #[str (gP (num a*num b)).1,i64 (gP (num a*num b)).2]) w'):aC P0 134 [str a,str b] w K:=by
 refine WY ?_;unfold aDF;refine AB (g:=λ_ _ _=>True) ha hb λw4 hx4=>?_;rw[dD];refine nD ha (pV ha) λcs1 w5 hx5 h1=>?_;refine nD hb (pV hb) λcs2 w6 hx6 h2=>?_;have:=rX ha;have:=rX hb;refine Fp (h1.ext hx6) h2 (pS ha) (pS hb) (by omega) λz cs3 w7 hx7 h3 hz hzl=>?_;have hx:=hx4.trans (hx5.trans (hx6.trans hx7));refine AL (hT.ext hx) h3 hz (by omega) λw8 hx8=>?_;simp only[bK];exact⟨_,rfl,_,rfl,hK w8 (hx.trans hx8)⟩
end
theorem Dm{n:Int}(h:n.natAbs<10^100):gP n=(Lib.itoa n,0):=by
 unfold gP;rw[aE];rw[vM];have:=xX 100 n.natAbs h (by omega);omega
theorem Dq{a b:Str}(ha:goodN a=true):((num a).tdiv (num b)).natAbs<10^100:=by
 have:=BD ha;rw[Int.natAbs_tdiv];exact Fb (Nat.div_le_self _ _) this
theorem Ky{a b:Str}(ha:goodN a=true):((num a).tmod (num b)).natAbs<10^100:=by
 have:=BD ha;rw[Int.natAbs_tmod];exact Fb (Nat.mod_le _ _) this
theorem Qe{a b:Str}(ha:goodN a=true)(hb:goodN b=true):(CF a b).2=(DR a b).2:=by
 unfold CF DR;split
 ·rfl
 ·rw[Dm (Dq ha),Dm (Ky ha)]
theorem iW.row{x:Big}{xs:List Value}{B:Nat}(h:iW w x cs)(hO:Eng.Own w B U8 1 v n xs)(hc:Chg (λk=>v.ownBlock=some k) w w'):iW w' x cs:=by
 obtain⟨sv,T,rfl,⟨p',cap,hv,h1,h2,h3⟩,h4,h5⟩:=h;refine⟨sv,T,rfl,⟨p',cap,hv,h1,h2,λhne=>?_⟩,h4,h5⟩;obtain⟨k,off,c,fr,hp,hk,hcs⟩:=h3 hne;refine⟨k,off,c,fr,hp,hc.at hk λe=>?_,hcs⟩;obtain⟨_,c',hk'⟩:=hO.block k e;rw[hk]at hk';simp only[bD,Obj.cells.injEq]at hk';exact absurd hk'.2.1 (by decide)
structure aBL(d:Str)(Y i:Nat)(D:Str)(r:Nat):Prop where
 len:D.length=i
 dig:D.all Num.isDig=true
 eq:dec (d.take i)=dec D*Y+r
 lt:r<Y
theorem Om{d:Str}{Y:Nat}{D:Str}{r:Nat}(h:aBL d Y i D r)(hc:d[i]?=some c)(hd:Num.isDig c=true){j:Nat}(hj:j*Y<=r*10+dval c)(hl:r*10+dval c-j*Y<Y):aBL d Y (i+1) (D++[UInt8.ofNat (48+j)]) (r*10+dval c-j*Y):=by
 have hcl:=HJ hd;have hrl:=h.lt;have hj9:j<10:=by
  refine fF λhn=>?_;have:10*Y<=j*Y:=gG _ (by omega);omega
 have ht:(UInt8.ofNat (48+j)).toNat=48+j:=by rw[jF];omega
 refine⟨by rw[bG,h.len];rfl,?_,?_,hl⟩
 ·rw[CM,h.dig];simp only[gE,List.all_nil,kT,iJ,Num.isDig,ht,aL,bB];omega
 ·have e1:d.take (i+1)=d.take i++[c]:=by rw[dU,hc];rfl
  have e2:dec (D++[UInt8.ofNat (48+j)])=dec D*10+j:=by
   rw[wL];show dec D*10^1+(0*10+dval _)=_;unfold dval;rw[ht];omega
  rw[e1,wL,e2];show dec (d.take i)*10^1+(0*10+dval c)=_;rw[h.eq];have e3:(dec D*10+j)*Y=dec D*Y*10+j*Y:=by rw[mA,Nat.mul_right_comm]
  rw[e3];omega
theorem NI(h:n<1000000000):ofInt (n:Nat) (⟨false,[n]⟩:Big).trim:=by
 have:=IP (l:=[n]) (λz hz=>by rw[bQ]at hz;omega);rwa[show val [n]=n by simp[val]]at this
theorem NG:ofInt 10 ⟨false,[10]⟩:=by
 refine⟨⟨λz hz=>by rw[bQ]at hz;omega,λh=>by simp,λe=>by cases e⟩,?_⟩;simp[Big.int,val]
section
variable [HX]
theorem Ps{K:List Value->World->Prop}(hn:n<1000000000)(hK:∀c w',Ext w w'->iW w' ⟨false,[n]⟩ c->K c w'):
  dK U64 1 [(.int .u64 0)] [(0,1,u64 n)] w λt w1=>dE [(.bool false),(.slice none 0 0)] [(0,1,(.bool false)),(1,1,t)] λc=>K c w1:=by
 refine XP λt w1 ht hx=>?_;obtain⟨p,cap,rfl,_⟩:=ht.shape;simp only[uY,gL,cV,aB,aN,aV,aZ];refine⟨by omega,by omega,?_⟩;exact hK _ w1 hx ⟨_,U64,rfl,ht,by simp,λz hz=>by rw[bQ]at hz;omega⟩
theorem KB{b:Nat}{ds:List Value}{x:Big}{K:World->Prop}(hb:w.heap[b]?=some (.cells ds.toArray BT (0,0)))(hd:ds.length=2)(h:iW w x cs)(hds:∃p q,ds=[.bool p,q]/\∀n,q≠u64 n)
  (hK:∀w',w'.heap.size=w.heap.size->w'.heap[b]?=some (.cells cs.toArray BT (0,0))->Chg (λk=>k=b) w w'->iW w' x cs->K w'):stW 2 (.pointer (some ⟨b,0,none⟩)) (.agg cs.toArray) w K:=
 cA hb h.len hd h.one λw' hz hb' hc=>by
  obtain⟨p,q,rfl,hq⟩:=hds
  exact hK w' hz hb' hc (h.keep hb hq hc)
theorem iW.pq{x:Big}(h:iW w x cs):∃p q,cs=[.bool p,q]/\∀n,q≠u64 n:=by
 obtain⟨sv,T,rfl,h1,_⟩:=h;obtain⟨p,c,rfl,_⟩:=h1.shape;exact⟨_,_,rfl,λn e=>by cases e⟩
theorem Ld:∀(x y:List Nat) (c:Nat),(gO x y c).length=x.length:=by
 intro x;induction x with
 |nil=>intro y c;rfl
 |cons a x ih=>intro y c;rw[tI,aB,ih,aB]
theorem GI{a:Str}(ha:goodN a=true):(gR a).below=neg a:=by
 obtain⟨g1,gl,g0,gd⟩:=iZ ha;show(neg a&&!(gZ (lJ (dig a))).isEmpty)=neg a;cases hn:neg a with
 |false=>rfl
 |true=>
  have hv:val (gZ (lJ (dig a)))=dec (dig a):=by rw[(mB _).1,(rP _ (dig a) (aU _) gd).1]
  have hpos:1<=dec (dig a):=by
   cases hd:dig a with
   |nil=>rw[hd]at g1;simp at g1
   |cons c d=>
    rw[hd]at gd g0;simp only[gE,aL]at gd;have h48:c≠48:=λe=>by
     have:=g0 (by simp[e]);rw[this]at hn;cases hn
    exact cD (Nat.pow_pos (by omega)) (LI gd.1 h48)
  cases ht:gZ (lJ (dig a))with
  |nil=>rw[ht]at hv;simp[val]at hv;omega
  |cons c d=>rfl
theorem LB{z:Big}(h:ofInt (n:Nat) z)(hn:n<10^101):z.l.length<=100:=by
 refine fF λhl=>?_;have hv:=(BC h).2;have h1:=GX h.1.2 (λe=>by rw[e]at hl;simp at hl);have h2:1000000000^100<=1000000000^(z.l.length-1):=jK (by omega) (by omega);have h3:10^101<=1000000000^100:=cD (show 10^101<=1000000000^12 by decide) (jK (by omega) (by omega));omega
theorem DL{l:List Nat}{s:Bool}(hl:Lim l)(hv:val l=n):ofInt (if s=true then-((n:Nat):Int)else((n:Nat):Int)) (⟨s,l⟩:Big).trim:=by
 have:=Ai (x:=⟨s,l⟩) hl;have e:(⟨s,l⟩:Big).int=if s=true then-((n:Nat):Int)else((n:Nat):Int):=by
  unfold Big.int;simp only[hv]
 rwa[e]at this
theorem On{D:Str}(hd:D.all Num.isDig=true):Num.dig D=D/\neg D=false:=by
 cases D with
 |nil=>exact⟨rfl,rfl⟩
 |cons c r=>
  simp only[gE,aL]at hd;have:c≠45:=by rintro rfl;exact absurd hd.1 (by decide)
  exact⟨by simp[Num.dig,this],by simp[neg,this]⟩
theorem Ya{a b:Str}{K:Q0}(hT:OC w)(ha:goodN a=true)(hb:goodN b=true)(hK:∀w',Ext w w'->K (.tuple #[str (CF a b).1,str (DR a b).1,i64 (CF a b).2]) w'):aC P0 135 [str a,str b] w K:=by
 refine WX ?_;unfold aDE;refine AB (g:=λ_ _ _=>True) ha hb λw4 hx4=>?_;rw[dD,rE,aO];refine⟨λhb0=>?_,λhb0=>?_⟩
 ·have e0:num b=0:=by rw[hb0];decide
  have:=hK w4 hx4;unfold CF DR at this;rw[aI e0,aI e0]at this;exact this
 have hbz:num b≠0:=λe=>hb0 (Hp hb (by decide) (e.trans (by decide)));obtain⟨_,gl,_,gd⟩:=iZ ha;obtain⟨_,gl2,_,gd2⟩:=iZ hb;have hY:0<dec (dig b):=by
  refine Nat.pos_of_ne_zero λe=>hbz ?_;unfold num;rw[e];split<;>rfl
 have hYs:dec (dig b)<10^100:=cN (BU gd2) (jK (by omega) gl2);refine nD ha (pV ha) λcs1 w5 hx5 h1=>?_;refine nD hb (pV hb) λcs2 w6 hx6 h2=>?_;have hx06:=hx4.trans (hx5.trans hx6);have h16:=h1.ext hx6;have hbv:val (gR b).l=dec (dig b):=by
  show val (gZ (lJ (dig b)))=_;rw[(mB _).1,(rP _ (dig b) (aU _) gd2).1]
 have hbok:=(yN hb).2;have hlb:=rX hb;have hab:=GI ha;have hbb:=GI hb;obtain⟨svb,_,rfl,hsb,hsb2,hsb3⟩:=h2;obtain⟨sva,_,rfl,hsa,hsa2,hsa3⟩:=h16;obtain⟨pb,cb,rfl,_⟩:=hsb.shape;obtain⟨pa,ca,rfl,_⟩:=hsa.shape;generalize hsvb:Value.slice pb (gR b).l.length cb=svb at*
 generalize hsva:Value.slice pa (gR a).l.length ca=sva at*
 have o7:([.bool (gR a).below,sva]:List Value).all gC=true:=by rw[<-hsva];rfl
 have o8:([.bool (gR b).below,svb]:List Value).all gC=true:=by rw[<-hsvb];rfl
 have o9:([.bool false,svb]:List Value).all gC=true:=by rw[<-hsvb];rfl
 refine bE λb7 w7 hb7 hz7 hbb7 hx7=>?_;refine bE λb8 w8 hb8 hz8 hbb8 hx8=>?_;refine cA (hx8.at hbb7 id) rfl rfl o7 λw9 hz9 hbb79 hc9=>?_;refine cA (hc9.at hbb8 (by omega)) rfl rfl o8 λw10 hz10 hbb810 hc10=>?_;have hx610:Ext w6 w10:=((hx7.trans hx8).new hc9 (by omega)).new hc10 (by omega);have hbb710:=hc10.at hbb79 (by omega);refine CE (off:=1) hbb810 rfl ?_;have hput:∀{K:List Value->Prop},K [.bool false,svb]->dE [(.bool false),(.slice none 0 0)] [(0,1,(.bool false)),(1,1,svb)] K:=λ{K} h=>by
  rw[<-hsvb];simp only[uY,gL,cV,aB,aN,aV,aZ];refine⟨by omega,by omega,?_⟩;rw[hsvb];exact h
 refine hput ?_;refine bE λb9 w12 hb9 hz12 hbb9 hx12=>?_;refine cA hbb9 rfl rfl o9 λw13 hz13 hbb913 hc13=>?_;refine bE λb10 w14 hb10 hz14 hbb10 hx14=>?_;refine xA (pV ha) ?_;refine Ic (l:=dig a) (by kernel_rfl) (by kernel_rfl) (by kernel_rfl) λdv w16 hdv hx16=>?_;rw[gH hdv];have hx1013:Ext w10 w13:=hx12.new hc13 (by omega);have hx1016:=hx1013.trans (hx14.trans hx16);have hx616:=hx610.trans hx1016;have hb716:=hx1016.at hbb710 id;have hb816:=hx1016.at hbb810 id;have hb916:=(hx14.trans hx16).at hbb913 id;have hb1016:=hx16.at hbb10 id;have s616:=hx616.size;have l10:=fC hbb10;have hlt16:=hx16.size;have hnz:∀(l:List Nat),({below:=false,l:=l}:Big).below=false:=λ_=>rfl;generalize hYd:dec (dig b)=Y at*
 generalize hdg:dig a=d at*
 have hpart:iW w6 ⟨false,(gR b).l⟩ [.bool false,svb]:=⟨svb,U64,rfl,hsb,hsb2,hsb3⟩;refine cZ.go (λst w'=>∃(i:Nat) (D:Str) (r:Nat) (v:Value) (rest:Big) (rcs:List Value),st=[v,i64 (i:Nat)]/\i<=d.length/\aBL d Y i D r/\Eng.Own w' w16.heap.size U8 1 v D.length (u8s D)/\Chg (λk=>k=b10\/w16.heap.size<=k) w16 w'/\w'.heap[b10]?=some (.cells rcs.toArray BT (0,0))/\iW w' rest rcs/\ofInt (r:Nat) rest)
  (λst _=>match st with|[_,.int _ i]=>d.length-i.toNat|_=>0)
  ⟨0,[],0,.slice none 0 0,⟨false,[]⟩,[.bool false,.slice none 0 0],rfl,gQ _,⟨rfl,rfl,by simp[dec],hY⟩,⟨rfl,.inl ⟨rfl,rfl⟩⟩,Chg.refl _ _,hb1016,⟨_,U64,rfl,SlAt.nil _ _,by simp,λz hz=>by simp at hz⟩,⟨⟨λz hz=>by simp at hz,λh=>absurd rfl h,λe=>rfl⟩,by simp[Big.int,val]⟩⟩ ?_
 rintro st g w18 ⟨i,D,r,v,rest,rcs,rfl,hi,hI,hO,hc18,hb18,hR18,hr⟩;simp only[aG,dC];have s18:=hc18.size;have old18:∀{k:Nat} {o:Obj},w16.heap[k]?=some o->k≠b10->w18.heap[k]?=some o:=λ{k o} h hne=>hc18.at h λe=>e.elim hne λe=>by have:=fC h;omega
 have hx618:Ext w6 w18:=hx616.then hc18 λk hk e=>by have:=hx610.size;omega
 have hrl:=LB hr (by have:=hI.lt;omega);rw[eG,aO];refine⟨λhlt=>?_,λhge=>?_⟩
 ·have hlt:i<d.length:=by omega
  obtain⟨c,hc⟩:∃c,d[i]?=some c:=⟨_,List.getElem?_eq_getElem hlt⟩;have hcd:Num.isDig c=true:=bW.1 gd c (bI hc);have hcl:=HJ hcd;have hc48:48<=c.toNat/\c.toNat<=57:=by simpa[Num.isDig]using hcd
  have hdv18:SlAt w18 U8 dv d.length (u8s d):=by
   obtain⟨p',cap,hv,e1,e2,e3⟩:=hdv;refine⟨p',cap,hv,e1,e2,λhne=>?_⟩;obtain⟨k,off,c0,fr,hp,hk,hcs⟩:=e3 hne;refine⟨k,off,c0,fr,hp,old18 hk λe=>?_,hcs⟩;subst e;rw[hb1016]at hk;simp only[bD,Obj.cells.injEq]at hk;exact absurd hk.2.1 (by decide)
  refine qN hdv18 (by rw[pJ]) (by rw[CP,hc];rfl) ?_;refine bX hb18 hR18.len ?_;refine Ps (n:=10) (by omega) λc20 w19 hx19 h19=>?_;refine Fp (hR18.ext hx19) h19 hr NG (by show rest.l.length+1+1<=1000;omega) λz21 cs21 w21 hx21 h21 hz21 hl21=>?_;rw[nN];have ew:IntKind.u8.wrap (((c.toNat:Nat):Int)-48)=((dval c:Nat):Int):=by
   unfold dval;simp only[IntKind.wrap,IntKind.signed,IntKind.bits,IntKind.max,IntKind.min];simp;omega
  rw[ew,pA,ON (by omega)];refine Ps (by omega) λc23 w22 hx22 h22=>?_;refine pZ h22 λcs24 w24 hx24 h24=>?_;refine OV (h21.ext (hx22.trans hx24)) h24 hz21 (NI (by omega)) (by
   have:(⟨false,[dval c]⟩:Big).trim.l.length<=1:=mI _;have hl21:z21.l.length<=rest.l.length+1+1:=hl21;omega) λz25 cs25 w25 hx25 h25 hz25 hl25=>?_
  have hx1825:=hx19.trans (hx21.trans (hx22.trans (hx24.trans hx25)));refine KB (hx1825.at hb18 id) hR18.len h25 hR18.pq λw26 hz26 hb26 hc26 h26=>?_;have hR:ofInt (((r*10+dval c:Nat)):Nat) z25:=by
   have:((r:Int)*10+(dval c:Nat))=((r*10+dval c:Nat):Int):=by omega
   rw[<-this];exact hz25
  have hc1826:Chg (λk=>k=b10) w18 w26:=(Chg.of_ext hx1825).then hc26 λ_ _ e=>e;have hO26:Eng.Own w26 w16.heap.size U8 1 v D.length (u8s D):=Hl hO hc1826 λk hk e=>by have:=(wC hO hk).1;have e:k=b10:=e;omega
  refine cZ.go (λst w'=>∃(j:Nat) (rest:Big) (rcs:List Value),st=[.int .u8 ((48+j:Nat):Int)]/\j<=10/\j*Y<=r*10+dval c/\Chg (λk=>k=b10) w26 w'/\w'.heap[b10]?=some (.cells rcs.toArray BT (0,0))/\iW w' rest rcs/\ofInt ((r*10+dval c-j*Y:Nat)) rest)
   (λst _=>match st with|[.int _ j]=>58-j.toNat|_=>0)
   ⟨0,z25,cs25,rfl,by omega,by omega,Chg.refl _ _,hb26,h26,by rw[zM,Nat.sub_zero];exact hR⟩ ?_
  rintro st g2 w28 ⟨j,rest2,rcs2,rfl,hj,hjY,hc28,hb28,hR28,hr28⟩;simp only[aG];have hrb:r*10+dval c<10*Y:=by have:=hI.lt;omega
  have hc1828:=hc1826.trans hc28;have hx628:Ext w6 w28:=hx618.then hc1828 λk hk e=>by have:=hx610.size;have e:k=b10:=e;omega
  have hb928:=hc1828.at (old18 hb916 (by omega)) (λe=>by have e:b9=b10:=e;omega);have hP28:=hpart.ext hx628;refine bX hb28 hR28.len ?_;refine bX hb928 rfl ?_;refine Ig hR28 hP28 λw29 hx29=>?_;have hval:=(BC hr28).2;rw[Fw hr28.1.1 hbok.1 hr28.1.2 hbok.2,hval,hbv,lX,aO];refine⟨λhge2=>?_,λhlt2=>?_⟩
  ·have hge2:Y<=r*10+dval c-j*Y:=by
    rcases iO (r*10+dval c-j*Y) Y with⟨h,e⟩|⟨h,e⟩|⟨h,e⟩
    ·rw[e]at hge2;omega
    ·omega
    ·omega
   have hj1:(j+1)*Y=j*Y+Y:=by rw[mA,Nat.one_mul]
   have hj9:j+1<10:=by
    refine fF λhn=>?_;have:10*Y<=(j+1)*Y:=gG _ (by omega);omega
   refine bX (hx29.at hb28 id) hR28.len ?_;refine bX (hx29.at hb928 id) rfl ?_;refine BE (hR28.ext hx29) (hP28.ext hx29) λmv w30 hx30 hm30=>?_;have hle:val (gR b).l<=val rest2.l:=by rw[hval,hbv];exact hge2
   have hmv:=sB rest2.l (gR b).l 0 hr28.1.1 hbok.1 (by omega) (by omega) (GV hr28.1.1 hbok.2 hle);obtain⟨pm,cm,rfl,_⟩:=hm30.shape;simp only[uY,gL,cV,aB,aN,aV,aZ];refine⟨by omega,by omega,?_⟩;have hrl2:=LB hr28 (by omega);refine pZ (x:=⟨false,gO rest2.l (gR b).l 0⟩) ⟨_,U64,rfl,hm30,by show(gO _ _ _).length<=1000;rw[Ld];omega,hmv.2⟩ λcs32 w32 hx32 h32=>?_;have hx2832:=hx29.trans (hx30.trans hx32);refine KB (hx2832.at hb28 id) hR28.len h32 hR28.pq λw33 hz33 hb33 hc33 h33=>?_;rw[cG];have ew2:IntKind.u8.wrap (((48+j:Nat):Int)+1)=((48+(j+1):Nat):Int):=by
    simp only[IntKind.wrap,IntKind.signed,IntKind.bits,IntKind.max,IntKind.min];simp;omega
   rw[ew2];refine⟨⟨j+1,_,cs32,rfl,by omega,by omega,(hc28.then hx2832 λ_ _ e=>e.elim).trans hc33,hb33,h33,?_⟩,by simp only[aW];omega⟩;have hmk:=IP hmv.2;rw[hmv.1,hval,hbv]at hmk;rw[hj1];have e:r*10+dval c-(j*Y+Y)=r*10+dval c-j*Y-Y-0:=by omega
   rw[e];exact hmk
  ·have hlt2:r*10+dval c-j*Y<Y:=by
    rcases iO (r*10+dval c-j*Y) Y with⟨h,e⟩|⟨h,e⟩|⟨h,e⟩
    ·exact h
    ·rw[e]at hlt2;omega
    ·rw[e]at hlt2;omega
   have hst:=Om hI hc hcd hjY hlt2;have hj9:j<10:=by
    refine fF λhn=>?_;have:10*Y<=j*Y:=gG _ (by omega);omega
   have hc1829:=hc1828.then hx29 λ_ _ e=>e.elim;refine Hc (n:=48+j) λt69 w34 ht34 hx34=>?_;have hc1834:=hc1829.then hx34 λ_ _ e=>e.elim;have s34:=hc1834.size;have hO34:Eng.Own w34 w16.heap.size U8 1 v D.length (u8s D):=Hl hO hc1834 λk hk e=>by have:=(wC hO hk).1;have e:k=b10:=e;omega
   have hDl:=hI.len;refine kY AY hO34 ht34 (m:=1) rfl (λu hu=>by simp only[bQ]at hu;subst hu;rfl) (by omega) (by omega) (by omega) λv' w35 hO35 hc35 _=>?_;rw[cG,up1 (by omega)];have hne10:¬v.ownBlock=some b10:=λe=>by have:=(wC hO34 e).1;omega
   refine⟨⟨i+1,D++[UInt8.ofNat (48+j)],r*10+dval c-j*Y,v',rest2,rcs2,rfl,hlt,hst,?_,?_,?_,?_,hr28⟩,by simp only[aW];omega⟩
   ·have e:u8s (D++[UInt8.ofNat (48+j)])=u8s D++[.int .u8 ((48+j:Nat):Int)]:=by
     rw[CQ];congr 1;show [Value.int .u8 (((UInt8.ofNat (48+j)).toNat:Nat):Int)]=_;rw[jF,kI (by omega)]
    rw[e,bG];exact hO35
   ·exact(hc18.trans (hc1834.mono λk _ e=>.inl e)).then hc35 λk _ e=>.inr (wC hO34 e).1
   ·exact hc35.at ((hx29.trans hx34).at hb28 id) hne10
   ·exact(hR28.ext (hx29.trans hx34)).row hO34 hc35
 ·obtain rfl:i=d.length:=by omega
  have heq:=hI.eq;rw[bO]at heq;obtain⟨q1,q2⟩:=Vm heq hI.lt;obtain⟨dr1,dr2⟩:=On hI.dig;have hDl:=hI.len;obtain⟨ts1,ts2⟩:=No ha hb;rw[hdg,hYd,q1]at ts1;rw[hdg,hYd,q2]at ts2;refine(ED (e:=U8) (T:=U8) (by kernel_rfl) (by kernel_rfl) (by kernel_rfl) (l:=D) hO.sl).2 ?_;refine IC (by rw[dr1];omega) (by rw[dr1];exact hI.dig) (by omega) λcs36 w36 hx36 h36=>?_;have hqv:val (gR D).l=dec D:=by
   show val (gZ (lJ (Num.dig D)))=_;rw[dr1,(mB _).1,(rP _ D (aU _) hI.dig).1]
  have hql:(gR D).l.length<=100:=by
   have h3:=yX _ D (aU _);have:=mI (lJ D);show(gZ (lJ (Num.dig D))).length<=100;rw[dr1];omega
  refine bE λb15 w37 hb15 hz37 hbb15 hx37=>?_;refine KB hbb15 rfl (h36.ext hx37) ⟨_,_,rfl,λn e=>by cases e⟩ λw38 hz38 hbb1538 hc38 h38=>?_;have s36:=hx36.size;have hx1838:Ext w18 w38:=(hx36.trans hx37).new hc38 (by omega);have l10':=fC hb18;have hb738:=hx1838.at (old18 hb716 (by have:=fC hbb79;omega)) id;have hb838:=hx1838.at (old18 hb816 (by have:=fC hbb810;omega)) id;have hb1038:=hx1838.at hb18 id;have hR38:=hR18.ext hx1838;refine CE (off:=0) hb738 rfl ?_;refine CE (off:=0) hb838 rfl ?_;have eqb:∀(s t:Bool) (K:Value->Prop),K (.bool (s^^t))->eqW .bool true (.bool s) (.bool t) K:=λs t K h=>by
   cases s<;>cases t<;>exact h
  refine eqb _ _ _ ?_;rw[hab,hbb];obtain⟨svq,_,rfl,hq1,hq2,hq3⟩:=h38;obtain⟨pq,cq,rfl,_⟩:=hq1.shape;rw[bS];refine jD (off:=0) hbb1538 rfl (by simp) λw39 hz39 hbb1539 hc39=>?_;have h39:iW w39 (gR D) [.bool (gR D).below,.slice pq (gR D).l.length cq]:=iW.keep ⟨_,U64,rfl,hq1,hq2,hq3⟩ hbb1538 (λn e=>by cases e) hc39;have hR39:=hR38.keep hbb1538 (λn e=>by cases e) hc39;have hb739:=hc39.at hb738 (λe=>by have e:b7=b15:=e;omega);have hb1039:=hc39.at hb1038 (λe=>by have e:b10=b15:=e;omega);refine CE (off:=0) hb739 rfl ?_;rw[hab];obtain⟨svr,_,rfl,hr1,hr2,hr3⟩:=hR39;obtain⟨pr,cr,rfl,_⟩:=hr1.shape;rw[bS];refine jD (off:=0) hb1039 rfl (by simp) λw40 hz40 hbb1040 hc40=>?_;have h40:=h39.keep hb1039 (λn e=>by cases e) hc40;have hR40:iW w40 rest [.bool rest.below,.slice pr rest.l.length cr]:=iW.keep ⟨_,U64,rfl,hr1,hr2,hr3⟩ hb1039 (λn e=>by cases e) hc40;have hbb1540:=hc40.at hbb1539 (λe=>by have e:b15=b10:=e;omega);obtain⟨_,_,eq',hq1,hq2,hq3⟩:=h40;simp only[dQ,kV]at eq';obtain⟨_,rfl⟩:=eq';obtain⟨_,_,er',hr1,hr2,hr3⟩:=hR40;simp only[dQ,kV]at er';obtain⟨_,rfl⟩:=er';have hxw:Ext w w40:=by
   refine(((hx06.trans (hx616.then hc18 λk hk e=>?_)).trans hx1838).then hc39 λk hk e=>?_).then hc40 λk hk e=>?_
   ·have:=hx610.size;omega
   ·have e:k=b15:=e;have:=hx06.size;have:=hx616.size;omega
   ·have e:k=b10:=e;have:=hx06.size;have:=hx610.size;omega
  refine bX (T:=BT) (fr:=(0,0)) (l:=[.bool (neg a^^neg b),.slice pq (gR D).l.length cq]) (by rw[hbb1540];simp) rfl ?_;refine pZ (x:=⟨neg a^^neg b,(gR D).l⟩) ⟨_,U64,rfl,hq1,hq2,hq3⟩ λcs41 w41 hx41 h41=>?_;have hq:=DL (s:=neg a^^neg b) hq3 hqv;rw[<-ts1]at hq;refine AL (hT.ext (hxw.trans hx41)) h41 hq (by have:=mI (gR D).l;show(gZ (gR D).l).length<=900;omega) λw42 hx42=>?_;simp only[bK];refine⟨_,rfl,_,rfl,?_⟩;refine bX (T:=BT) (fr:=(0,0)) (l:=[.bool (neg a),.slice pr rest.l.length cr]) (by rw[(hx41.trans hx42).at hbb1040 id];simp) rfl ?_;have hrl':=LB hr (by have:=hI.lt;omega);refine pZ (x:=⟨neg a,rest.l⟩) ⟨_,U64,rfl,hr1.ext (hx41.trans hx42),hr2,hr3⟩ λcs43 w43 hx43 h43=>?_;have hrs:=DL (s:=neg a) hr3 (BC hr).2;rw[<-ts2]at hrs;have hxw3:=hxw.trans (hx41.trans (hx42.trans hx43));refine AL (hT.ext hxw3) h43 hrs (by have:=mI rest.l;show(gZ rest.l).length<=900;omega) λw44 hx44=>?_;simp only[bK];refine⟨_,rfl,_,rfl,?_⟩;have:=hK w44 (hxw3.trans hx44);unfold CF DR at this;rw[aE hbz,aE hbz]at this;have e0:(gP ((num a).tdiv (num b))).2=0:=by rw[Dm (Dq ha)]
  rw[e0]at this;exact this
end
end
section
open Go Go.Eng Go.Num Go.RowKit Go.Syn
variable{w:World}{K:Q0}{cs:List Value}{G:Nat->Prop}{T:TypeId}{i:Nat}{n:Nat}{v:Value}{w':World}{P:Program}{c:UInt8}{S:Nat->Prop}
theorem Db{v:JV}(h:dX v=true)(k3:v.k=3):goodN v.t=true/\v.b=false/\v.xs=[]/\v.ks=[]:=by
 have hp:=(pU h).plain;have h3:=QF hp k3;rw[mN,aL]at hp;obtain⟨_,_,hb,_⟩:=kF hp.1;refine⟨h3.1,?_,h3.2⟩;cases hq:v.b with
 |false=>rfl
 |true=>have:=hb hq;omega
theorem rJ(n:Int):(gP n).1.length<=1000:=by
 unfold gP;split
 ·simp
 ·rename_i h;have:(Lib.itoa n).length<=(dig (Lib.itoa n)).length+1:=by
   unfold dig;cases Lib.itoa n with
   |nil=>simp
   |cons c d=>simp only;split<;>simp
  show(Lib.itoa n).length<=1000;omega
theorem QS(a b:Str):(CF a b).1.length<=1000:=by unfold CF;split;simp;exact rJ _
theorem Qf(a b:Str):(DR a b).1.length<=1000:=by unfold DR;split;simp;exact rJ _
section
variable [HX]
theorem OO{k:Int}{t:Str}{a:Int}{v:JV}{va vk:Value}{w0:World}{K:Q0}(hT:wP w)(o1:gC va=true)(o2:gC vk=true)(h:cL G w v cs)(hg:dX v=true)(h0:Ext w0 w)(hK:MdK w0 (zS k a v) G w K):
  aC P0 95 [.agg [i64 k,str t,va,vk,i64 a].toArray,.agg cs.toArray] w K:=by
 refine aAF ?_;unfold W95;refine fU (z:=[i64 k,str t,va,vk,i64 a]) λb2 w1 hb2 hz1 hbb2 hx1=>?_;refine Bg (h.ext' hx1) λb3 w2 sv kv hcs hb3 hz2 hbb3 hx2=>?_;subst hcs;refine bE λb4 w3 hb4 hz3 hbb4 hx3=>?_;have hx03:=hx1.trans (hx2.trans hx3);refine bX (hx3.at hbb3 id) rfl ?_;refine uK (h.ext' hx03).rep λw4 hx4 hz4=>?_;have hx34:=hx3.trans hx4;have hx04:=hx03.trans hx4;have hb34:=hx34.at hbb3 id;have hb24:=(hx2.trans hx34).at hbb2 id;have hb44:=hx4.at hbb4 id;have hl4:=fC hbb4;rw[aO];refine⟨λk1=>?_,λk1=>?_⟩
 ·have hr:zS k a v=.ok v:=by unfold zS;rw[aI k1]
  refine bX hb34 rfl ?_;exact zW hb44 rfl (by omega) hx04 ((h.off (by omega)).ext' hx04) λw' hx' h'=>hK.ok hr _ w' hx' h'
 refine eC (off:=0) hb34 rfl ?_;rw[bM];refine GdW.look (decide (k=13)) (λ_ J hJ=>?_) λg=>?_
 ·refine eC (off:=0) hb24 rfl ?_;rw[bM];exact hJ
 simp only[aG,iG];rw[eX,bR];refine⟨λh13=>?_,λn13=>?_⟩
 ·simp only[aL,bB]at h13;obtain⟨k3,rfl⟩:=h13;obtain⟨gn,gb,gx,gk⟩:=Db hg k3;have hr:zS 13 a v=.ok (nV (gP (-num v.t)).1):=by unfold zS;rw[aE k1,aI ⟨k3,rfl⟩]
  refine eC (off:=2) hb34 rfl ?_;have e0:num [48]=0:=by decide
  refine XN (a:=[48]) (hT.ext hx04) (by decide) gn λw9 hx9=>?_;rw[e0,Int.zero_sub];simp only[bK];refine⟨_,rfl,_,rfl,?_⟩;rw[bS];refine jD (off:=2) (hx9.at hb34 id) rfl (by simp) λw10 hz10 hb10 hc10=>?_;have hx09:=hx04.trans hx9;have hx010:=hx09.new hc10 (show w.heap.size<=b3 by omega);have hb410:=hc10.at (hx9.at hb44 id) λe=>by have e:b4=b3:=e;omega
  refine bX (T:=VT) (fr:=(0,0)) (l:=[i64 v.k,.bool v.b,str (gP (-num v.t)).1,sv,kv]) (by rw[hb10];simp) rfl ?_;have ht:=rJ (-num v.t);have hrep:cL G w (nV (gP (-num v.t)).1) [i64 v.k,.bool v.b,str (gP (-num v.t)).1,sv,kv]:=by
   obtain⟨sv2,kv2,T1,T2,L,he,h1,h2,h3,h4,h5,h6⟩:=Bl h;simp only[dQ,kV]at he;obtain⟨_,_,_,rfl,rfl⟩:=he;rw[gx]at h1 h2;rw[gk]at h3 h6;rw[k3,gb];exact cL.mk (v:=nV (gP (-num v.t)).1) (L:=L) h1 h2 h3 ⟨by simp[nV,JV.xs],by simp[nV,JV.ks],by show(gP (-num v.t)).1.length<=_;omega,λs hs=>by simp[nV,JV.ks]at hs⟩ h5 h6
  exact zW hb410 rfl (by omega) hx010 ((hrep.off (by omega)).ext' hx010) λw' hx' h'=>hK.ok hr _ w' hx' h'
 ·refine eC (off:=0) hb34 rfl ?_;rw[bM];refine GdW.look (decide (k=14)) (λ_ J hJ=>?_) λg=>?_
  ·refine eC (off:=0) hb24 rfl ?_;rw[bM];exact hJ
  simp only[aG,iG];rw[eX,bR];have m13:¬(v.k=3/\k=13):=λe=>by simp[e.1,e.2]at n13
  refine⟨λh14=>?_,λn14=>?_⟩
  ·simp only[aL,bB]at h14;have hr:zS k a v=.ok (bV (!v.b)):=by unfold zS;rw[aE k1,aE m13,aI h14]
   refine eC (off:=1) hb34 rfl ?_;rw[eP];refine oZ λw15 hx15=>?_;exact oQ (G:=G) (hx15.at hb44 id) rfl (by omega) (hx04.trans hx15) (by simp) λw' hx' h'=>hK.ok hr _ w' hx' h'
  ·have m14:¬(v.k=2/\k=14):=λe=>by simp[e.1,e.2]at n14
   have hr:zS k a v=.err 81 a:=by unfold zS;rw[aE k1,aE m13,aE m14]
   refine eC (off:=4) hb24 rfl ?_;exact kM (h0.trans hx04) (hK.err hr)
theorem NK{k:Int}{t:Str}{a:Int}{x y:JV}{va vk:Value}{ds:List Value}{w0:World}{K:Q0}(hT:wP w)(o1:gC va=true)(o2:gC vk=true)(hx:cL G w x cs)(hy:cL G w y ds)(gx:dX x=true)(gy:dX y=true)(h0:Ext w0 w)(hK:MdK w0 (IU k a x y) G w K):
  aC P0 100 [.agg [i64 k,str t,va,vk,i64 a].toArray,.agg cs.toArray,.agg ds.toArray] w K:=by
 refine Xz ?_;unfold aD4;refine fU (z:=[i64 k,str t,va,vk,i64 a]) λb3 w1 hb3 hz1 hbb3 hx1=>?_;refine Bg (hx.ext' hx1) λb4 w2 sv kv hcs hb4 hz2 hbb4 hx2=>?_;subst hcs;refine Bg (hy.ext' (hx1.trans hx2)) λb5 w3 sv' kv' hds hb5 hz3 hbb5 hx3=>?_;subst hds;refine bE λb6 w4 hb6 hz4 hbb6 hx4=>?_;have hx04:=hx1.trans (hx2.trans (hx3.trans hx4));have hb34:=(hx2.trans (hx3.trans hx4)).at hbb3 id;have hb44:=(hx3.trans hx4).at hbb4 id;have hb54:=hx4.at hbb5 id;have hx':=hx.ext' hx04;have hy':=hy.ext' hx04;clear hx hy;refine bT.cut (λst w'=>Ext w4 w'/\gF 3 x=true/\gF 3 y=true) ?_ ?_
 ·refine bX hb44 rfl ?_;refine bX hb54 rfl ?_;refine HF hx'.rep hy'.rep λtt w6 hI6 hx6 _=>?_;refine Lz hI6 λw7 hx7=>?_;have e:[x,y].all (gF 3)=(gF 3 x&&gF 3 y):=by simp
  rw[e,eP,bR];refine⟨λh=>?_,λh=>?_⟩
  ·have hr:IU k a x y=.err 81 a:=by unfold IU;rw[aE (λe=>by rw[e]at h;cases h)]
   refine eC (off:=4) ((hx6.trans hx7).at hb34 id) rfl ?_;exact kM (h0.trans (hx04.trans (hx6.trans hx7))) (hK.err hr)
  ·have h:(gF 3 x&&gF 3 y)=true:=by cases hq:(gF 3 x&&gF 3 y)<;>simp[hq]at h⊢
   rw[aL]at h;exact⟨hx6.trans hx7,h.1,h.2⟩
 rintro st g w9 ⟨hx9,f1,f2⟩;have hm:IU k a x y=if x.k=1\/y.k=1 then .ok uV
  else if k=22 then .ok (bV (decide (mP x.t y.t<0)))
  else if k=23 then .ok (bV (decide (0<mP x.t y.t)))
  else if k=24 then .ok (bV (decide (mP x.t y.t<=0)))
  else if k=25 then .ok (bV (decide (0<=mP x.t y.t)))
  else if k=15 then wT a (gP (num x.t+num y.t))
  else if k=16 then wT a (gP (num x.t-num y.t))
  else if k=17 then wT a (gP (num x.t*num y.t))
  else if k=18 then wT a (CF x.t y.t)
  else if k=19 then wT a (DR x.t y.t)
  else .ok (nV []):=by unfold IU;rw[aI (by rw[f1,f2];rfl)]
 rw[hm]at hK;have hl6:=fC hbb6;refine bX (hx9.at hb44 id) rfl ?_;refine uK (hx'.ext' hx9).rep λw10 hx10 _=>?_;simp only[kX];have hx410:=hx9.trans hx10;refine GdW.act (decide (y.k=1)) (λw'=>Ext w10 w') (λ_=>Chg.refl _ _) (λ_ J hJ=>?_) λg3 w13 hx13=>?_
 ·refine bX (hx410.at hb54 id) rfl ?_;exact uK (hy'.ext' hx410).rep λw23 hx23 _=>hJ w23 hx23
 have hx413:=hx410.trans hx13;have hx013:=hx04.trans hx413;simp only[aG];rw[eZ,bR];refine⟨λhyes=>?_,λhn=>?_⟩
 ·simp only[cO,bB]at hyes;rw[aI hyes]at hK;refine rH λw14 hx14=>?_;exact oQ (G:=G) ((hx413.trans hx14).at hbb6 id) rfl (by omega) (hx013.trans hx14) (by simp) λw' hx' h'=>hK.ok rfl _ w' hx' h'
 simp only[jM,decide_eq_false_iff_not]at hn;rw[aE (λe=>e.elim hn.1 hn.2)]at hK;have kx:x.k=3:=by simp only[gF,cO,bB]at f1;exact f1.resolve_right hn.1
 have ky:y.k=3:=by simp only[gF,cO,bB]at f2;exact f2.resolve_right hn.2
 obtain⟨nx,_⟩:=Db gx kx;obtain⟨ny,_⟩:=Db gy ky;refine eC (off:=2) (hx413.at hb44 id) rfl ?_;refine eC (off:=2) (hx413.at hb54 id) rfl ?_;refine Aj (pV nx) (pV ny) λw17 hx17=>?_;have hx417:=hx413.trans hx17;have hx017:=hx013.trans hx17;have hT17:=hT.ext hx017;have b3_:=hx417.at hb34 id;have b4_:=hx417.at hb44 id;have b5_:=hx417.at hb54 id;have hbool:∀{s:Bool} {w':World},Ext w17 w'->MdK w0 (.ok (bV s)) G w K->stW 5 (.pointer (some ⟨b6,0,none⟩)) (.agg (flat 2 s []).toArray) w' λw5=>ldW true 5 (.pointer (some ⟨b6,0,none⟩)) w5 λr6=>K r6 w5:=λ{s w'} hxx hr=>
  oQ (G:=G) ((hx417.trans hxx).at hbb6 id) rfl (by omega) (hx017.trans hxx) (by simp) λw'' hx'' h''=>hr.ok rfl _ w'' hx'' h''
 refine bT.cut (λst w'=>Ext w17 w'/\∃s c,st=[str s,i64 c]/\s.length<=1000/\MdK w0 (wT a (s,c)) G w K) ?_ ?_
 ·refine eC (off:=0) b3_ rfl ?_;rw[bM,aO];refine⟨λe=>?_,λe22=>?_⟩
  ·rw[aI e]at hK;rw[eG];exact oZ λw' hx'=>hbool hx' hK
  rw[aE e22]at hK;rw[bM,aO];refine⟨λe=>?_,λe23=>?_⟩
  ·rw[aI e]at hK;rw[lW];exact oZ λw' hx'=>hbool hx' hK
  rw[aE e23]at hK;rw[bM,aO];refine⟨λe=>?_,λe24=>?_⟩
  ·rw[aI e]at hK;rw[tR];exact oZ λw' hx'=>hbool hx' hK
  rw[aE e24]at hK;rw[bM,aO];refine⟨λe=>?_,λe25=>?_⟩
  ·rw[aI e]at hK;rw[lX];exact oZ λw' hx'=>hbool hx' hK
  rw[aE e25]at hK;rw[bM,aO];refine⟨λe=>?_,λe15=>?_⟩
  ·rw[aI e]at hK;refine eC (off:=2) b4_ rfl ?_;refine eC (off:=2) b5_ rfl ?_;refine aCJ hT17 nx ny λw' hx'=>?_;simp only[bK];exact⟨_,rfl,_,rfl,hx',_,_,rfl,rJ _,hK⟩
  rw[aE e15]at hK;rw[bM,aO];refine⟨λe=>?_,λe16=>?_⟩
  ·rw[aI e]at hK;refine eC (off:=2) b4_ rfl ?_;refine eC (off:=2) b5_ rfl ?_;refine XN hT17 nx ny λw' hx'=>?_;simp only[bK];exact⟨_,rfl,_,rfl,hx',_,_,rfl,rJ _,hK⟩
  rw[aE e16]at hK;rw[bM,aO];refine⟨λe=>?_,λe17=>?_⟩
  ·rw[aI e]at hK;refine eC (off:=2) b4_ rfl ?_;refine eC (off:=2) b5_ rfl ?_;refine aCi hT17 nx ny λw' hx'=>?_;simp only[bK];exact⟨_,rfl,_,rfl,hx',_,_,rfl,rJ _,hK⟩
  rw[aE e17]at hK;rw[bM,aO];refine⟨λe=>?_,λe18=>?_⟩
  ·rw[aI e]at hK;refine eC (off:=2) b4_ rfl ?_;refine eC (off:=2) b5_ rfl ?_;refine Ya hT17 nx ny λw' hx'=>?_;simp only[bK];exact⟨_,rfl,_,rfl,_,rfl,hx',_,_,rfl,QS _ _,hK⟩
  rw[aE e18]at hK;rw[bM,aO];refine⟨λe=>?_,λe19=>?_⟩
  ·rw[aI e]at hK;refine eC (off:=2) b4_ rfl ?_;refine eC (off:=2) b5_ rfl ?_;refine Ya hT17 nx ny λw' hx'=>?_;simp only[bK];refine⟨_,rfl,_,rfl,_,rfl,hx',_,_,rfl,Qf _ _,?_⟩;rw[Qe nx ny];exact hK
  rw[aE e19]at hK;exact⟨Chg.refl _ _,[],0,rfl,by simp,hK⟩
 rintro st g4 w36 ⟨hx36,s,c,rfl,hsl,hN⟩;simp only[aG,dC];refine bT.cut (λst w'=>w'=w36/\c=0) ?_ ?_
 ·rw[fJ,aO];refine⟨λhc=>?_,λhc=>⟨rfl,by omega⟩⟩;have hr:wT a (s,c)=.err c a:=by unfold wT;rw[aE hc]
  refine eC (off:=4) (hx36.at b3_ id) rfl ?_;exact kM (h0.trans (hx017.trans hx36)) (hN.err hr)
 rintro st g5 w39 ⟨rfl,rfl⟩;simp only[dA,eD,cV,aB,aN,aV,aZ];refine⟨by omega,by omega,?_⟩;exact oQ (G:=G) (k:=3) (s:=false) (t:=s) ((hx417.trans hx36).at hbb6 id) rfl (by omega) (hx017.trans hx36) (by omega) λw'' hx'' h''=>hN.ok rfl _ w'' hx'' h''
end
theorem Jh{s:Str}(h:goodN s=true):(∃n:Int,An s=some n/\num s=n/\-9223372036854775808<=n/\n<=9223372036854775807)\/(An s=none/\(num s< -9223372036854775808\/9223372036854775807<num s)):=by
 unfold An;by_cases hb:-9223372036854775808<=num s/\num s<=9223372036854775807
 ·rw[aI ⟨h,hb⟩];exact .inl ⟨_,rfl,rfl,hb⟩
 ·rw[aE (λe=>hb e.2)];exact .inr ⟨rfl,by omega⟩
section
variable [HX]
theorem Va{t:Str}{a:Int}{x y:JV}{ec ds:List Value}{w0:World}{K:Q0}(hT:wP w)(he:AtC t a ec)(hx:cL G w x cs)(hy:cL G w y ds)(gx:dX x=true)(gy:dX y=true)(h0:Ext w0 w)(hG:∀q,w.heap.size<=q->G q)(hK:MdK w0 (BJ a x y) G w K):
  aC P0 93 [.agg ec.toArray,.agg cs.toArray,.agg ds.toArray] w K:=by
 refine aAH ?_;unfold W93;refine LQ he λb3 w1 k va vk hec hb3 hz1 hbb3 hx1=>?_;refine Bg (hx.ext' hx1) λb4 w2 sv kv hcs hb4 hz2 hbb4 hx2=>?_;subst hcs;refine Bg (hy.ext' (hx1.trans hx2)) λb5 w3 sv' kv' hds hb5 hz3 hbb5 hx3=>?_;subst hds;refine bE λb6 w4 hb6 hz4 hbb6 hx4=>?_;have hx04:=hx1.trans (hx2.trans (hx3.trans hx4));have hb34:=(hx2.trans (hx3.trans hx4)).at hbb3 id;have hb44:=(hx3.trans hx4).at hbb4 id;have hb54:=hx4.at hbb5 id;have hl6:=fC hbb6;have hx':=hx.ext' hx04;have hy':=hy.ext' hx04;have one:∀(kk:Int) {w':World} {J:Q0},Ext w4 w'->(∀w'',Ext w4 w''->J (.bool (gF kk y)) w'')->
   ldW true 5 (.pointer (some ⟨b5,0,none⟩)) w' λt=>dK VT 1 zr5 [(0,5,t)] w' λt1 w6=>aC P0 122 [i64 kk,t1] w6 J:=λkk {w' J} hxx hJ=>by
  refine bX (hxx.at hb54 id) rfl ?_;refine Vg (hy'.ext' hxx).rep λtt w6 hI6 hx6=>?_;refine Lz hI6 λw7 hx7=>?_;have e:[y].all (gF kk)=gF kk y:=by simp
  rw[e];exact hJ w7 (hxx.trans (hx6.trans hx7))
 refine bT.cut (λst w'=>st=[.bool (rC x y)]/\Ext w4 w') ?_ ?_
 ·refine eC (off:=0) hb44 rfl ?_;rw[bM,aO];refine⟨λk1=>?_,λk1=>?_⟩
  ·refine one 3 (Chg.refl _ _) λw7 hx7=>?_;refine GdW.act (gF 4 y) (λw'=>Ext w4 w') (λ_=>hx7) (λ_ J hJ=>?_) λg w11 hx11=>?_
   ·exact one 4 hx7 λw10 hx10=>hJ w10 hx10
   simp only[aG,kX];rw[eZ];refine⟨?_,hx11⟩;unfold rC;rw[aI k1]
  rw[bM,aO];refine⟨λk5=>?_,λk5=>?_⟩
  ·refine one 3 (Chg.refl _ _) λw7 hx7=>⟨?_,hx7⟩;unfold rC;rw[aE k1,aI k5]
  rw[bM,aO];refine⟨λk6=>?_,λk6=>⟨?_,Chg.refl _ _⟩⟩
  ·refine one 4 (Chg.refl _ _) λw7 hx7=>⟨?_,hx7⟩;unfold rC;rw[aE k1,aE k5,aI k6]
  ·unfold rC;rw[aE k1,aE k5,aE k6]
 rintro st g w16 ⟨rfl,hx16⟩;simp only[aG];have hx016:=hx04.trans hx16;refine bT.cut (λst w'=>w'=w16/\rC x y=true) ?_ ?_
 ·rw[eP,bR];refine⟨λh=>?_,λh=>⟨rfl,by simpa using h⟩⟩;have h:rC x y=false:=by simpa using h
  have hr:BJ a x y=.err 81 a:=by unfold BJ;rw[aE (by rw[h];simp)]
  refine eC (off:=4) (hx16.at hb34 id) rfl ?_;exact kM (h0.trans hx016) (hK.err hr)
 rintro st g2 w19 ⟨rfl,hok⟩;have hm:BJ a x y=if x.k=1\/y.k=1 then .ok uV else if x.k=6 then sO y.t a x else if 0<=num y.t/\num y.t<x.xs.length then .ok (x.xs.getD (num y.t).toNat JV.null)else .err 82 a:=by
  unfold BJ;rw[aI hok]
 rw[hm]at hK;refine bX (hx16.at hb44 id) rfl ?_;refine uK (hx'.ext' hx16).rep λw20 hx20 _=>?_;have hx420:=hx16.trans hx20;simp only[kX];refine GdW.act (decide (y.k=1)) (λw'=>Ext w20 w') (λ_=>Chg.refl _ _) (λ_ J hJ=>?_) λg3 w23 hx23=>?_
 ·refine bX (hx420.at hb54 id) rfl ?_;exact uK (hy'.ext' hx420).rep λw23 hx23 _=>hJ w23 hx23
 have hx423:=hx420.trans hx23;have hx023:=hx04.trans hx423;have b4_:=hx423.at hb44 id;have b5_:=hx423.at hb54 id;have b6_:=hx423.at hbb6 id;simp only[aG];rw[eZ,bR];refine⟨λhyes=>?_,λhn=>?_⟩
 ·simp only[cO,bB]at hyes;rw[aI hyes]at hK;refine rH λw14 hx14=>?_;exact oQ (G:=G) (hx14.at b6_ id) rfl (by omega) (hx023.trans hx14) (by simp) λw' hx' h'=>hK.ok rfl _ w' hx' h'
 simp only[jM,decide_eq_false_iff_not]at hn;rw[aE (λe=>e.elim hn.1 hn.2)]at hK;refine eC (off:=0) b4_ rfl ?_;rw[bM,aO];refine⟨λk6=>?_,λk6=>?_⟩
 ·rw[aI k6]at hK;refine eC (off:=2) b5_ rfl ?_;refine eC (off:=4) (hx423.at hb34 id) rfl ?_;simp only[dA,eD,aB,aN,aV,aZ,cV];refine⟨by omega,by omega,?_⟩;refine bX b4_ rfl ?_;refine LR (G:=λq=>G q/\q≠b6) (w0:=w0) (t:=y.t) (a:=a) (ec:=[i64 0,str y.t,.slice none 0 0,.slice none 0 0,i64 a]) ⟨0,_,_,rfl,rfl,rfl⟩ ((hx.off (by omega)).ext' hx023) gx (h0.trans hx023) (λq hq=>⟨hG q (by have:=hx023.size;omega),by have:=hx423.size;have:=fC b6_;omega⟩) ?_;cases hr:sO y.t a x with
  |err c p=>rw[hr]at hK;exact hK
  |ok z=>
   rw[hr]at hK;intro es w28 hx28 h28;exact zW (hx28.at b6_ id) rfl (by omega) (hx023.trans hx28) h28 λw' hx' h'=>hK.ok rfl _ w' hx' h'
 rw[aE k6]at hK;have k5:x.k=5/\gF 3 y=true:=by
  unfold rC at hok;rw[aE hn.1]at hok;by_cases k5:x.k=5
  ·rw[aI k5]at hok;exact⟨k5,hok⟩
  ·rw[aE k5,aE k6]at hok;cases hok
 have ky:y.k=3:=by have:=k5.2;simp only[gF,cO,bB]at this;exact this.resolve_right hn.2
 obtain⟨ny,_⟩:=Db gy ky;refine eC (off:=2) b5_ rfl ?_;have hgl:=Eo ny;refine PY (hT.ext hx023) (by omega) λw31 hx31=>?_;have b4':=hx31.at b4_ id;simp only[bK];refine⟨_,rfl,_,rfl,?_⟩;have hlx:=(pU gx).lens.1;refine bT.cut (λst w'=>w'=w31/\0<=num y.t/\num y.t<x.xs.length/\(An y.t).getD 0=num y.t) ?_ ?_
 ·rw[eP];refine GdW.look (decide ((An y.t).getD 0<0)) (λ_ J hJ=>?_) λg4=>?_
  ·rw[eG];exact hJ
  simp only[aG,kX];rw[eZ];refine GdW.look (decide ((x.xs.length:Int)<=(An y.t).getD 0)) (λ_ J hJ=>?_) λg5=>?_
  ·refine eC (off:=3) b4' rfl ?_;have hI:=(hx.ext' (hx023.trans hx31)).its;rw[hI.items.len,lX];exact hJ
  simp only[aG,kX];rw[eZ,bR];refine⟨λhbad=>?_,λhgood=>?_⟩
  ·have hno:¬(0<=num y.t/\num y.t<x.xs.length):=by
    rintro⟨n1,n2⟩;rcases Jh ny with⟨n,e1,e2,e3,e4⟩|⟨e1,e2⟩
    ·rw[e1]at hbad;simp at hbad;omega
    ·omega
   rw[aE hno]at hK;refine eC (off:=4) ((hx423.trans hx31).at hb34 id) rfl ?_;exact kM (h0.trans (hx023.trans hx31)) (hK.err rfl)
  ·rcases Jh ny with⟨n,e1,e2,e3,e4⟩|⟨e1,e2⟩
   ·have eg:(An y.t).getD 0=num y.t:=by rw[e1,e2];rfl
    rw[eg,e1]at hgood;simp at hgood;exact⟨trivial,by omega,by omega,eg⟩
   ·rw[e1]at hgood;simp at hgood
 rintro st g6 w38 ⟨rfl,n0,n1,hget⟩;rw[aI ⟨n0,n1⟩]at hK;refine eC (off:=3) b4' rfl ?_;rw[hget];obtain⟨j,hj⟩:∃j:Nat,num y.t=(j:Int):=⟨(num y.t).toNat,by omega⟩;rw[hj]at hK n1⊢;have hjl:j<x.xs.length:=by omega
 obtain⟨z,hz⟩:∃z,x.xs[j]?=some z:=⟨_,List.getElem?_eq_getElem hjl⟩;have hgd:x.xs.getD (j:Int).toNat JV.null=z:=by rw[aW,List.getD_eq_getElem?_getD,hz];rfl
 rw[hgd]at hK;have hx031:=hx023.trans hx31;refine(((hx.off (b:=b6) (by omega)).ext' hx031).its).get hz λes hes=>?_;exact zW (hx31.at b6_ id) rfl (by omega) hx031 hes λw' hx' h'=>hK.ok rfl _ w' hx' h'
end
abbrev XvT:TypeId:=81
structure Ev(w0 w:World)(p m:Nat)(f:Fl)(M:Lay)(look:Str->Option Value)(left:Nat):Prop where
 ext:Ext w0 w
 pp:w.heap[p]?=some (.cells [M.vE,M.vB,M.vT,.map (some m),i64 (left:Nat)].toArray XvT (0,0))
 mm:Au w m look
 fv:FV w0 M f
 hp:w0.heap.size<=p
 hm:w0.heap.size<=m
 ne:p≠m
theorem Ev.next{w0:World}{p m:Nat}{f:Fl}{M:Lay}{look:Str->Option Value}{left:Nat}(h:Ev w0 w p m f M look left)(hx:Ext w w'):Ev w0 w' p m f M look left:=
 ⟨h.ext.trans hx,hx.at h.pp id,h.mm.at_ hx id,h.fv,h.hp,h.hm,h.ne⟩
theorem Ev.keep{w0:World}{p m:Nat}{f:Fl}{M:Lay}{look:Str->Option Value}{left:Nat}(h:Ev w0 w p m f M look left)(hc:Chg S w w')(h0:∀k,w0.heap.size<=k\/¬S k)(h1:¬S p)(h2:¬S m):Ev w0 w' p m f M look left:=
 ⟨h.ext.then hc λk hk e=>by rcases h0 k with h|h;omega;exact h e,hc.at h.pp h1,h.mm.at_ hc h2,h.fv,h.hp,h.hm,h.ne⟩
theorem Ev.fvw{w0:World}{p m:Nat}{f:Fl}{M:Lay}{look:Str->Option Value}{left:Nat}(h:Ev w0 w p m f M look left):FV w M f:=h.fv.ext h.ext
structure Exc(w:World)(e:Ex)(cs:List Value):Prop where
 it:∃va vk,cs=[i64 e.k,str e.t,va,vk,i64 e.a]/\SlAt w iQ va e.args.length (ints e.args)/\SlAt w StT vk e.keys.length (strs e.keys)
theorem uP{xs:List Value}(h:SlAt w T v n xs):gC v=true:=by
 obtain⟨p1,c1,e1,_⟩:=h.shape;rw[e1];rfl
theorem De{w0:World}{e:Ex}{K:Q0}(h:Exc w0 e cs)(h0:Ext w0 w)
  (hK:∀b w' va vk,cs=[i64 e.k,str e.t,va,vk,i64 e.a]->SlAt w0 iQ va e.args.length (ints e.args)->SlAt w0 StT vk e.keys.length (strs e.keys)->b=w.heap.size->w'.heap.size=w.heap.size+1->w'.heap[b]?=some (.cells [i64 e.k,str e.t,va,vk,i64 e.a].toArray 93 (0,0))->Ext w w'->K (.pointer (some ⟨b,0,none⟩)) w'):
  eL 93 (.agg cs.toArray) w K:=by
 obtain⟨va,vk,rfl,h2,h3⟩:=h.it;exact fU λb w' hb hz hbb hx=>hK b w' va vk rfl h2 h3 hb hz hbb hx
theorem FV.place{M:Lay}{fl:Fl}{e:Ex}{k:IntKind}{K:Value->Prop}(h:FV w M fl)(hi:fl.ex[i]?=some e)(hK:K (i64 e.a)):dG none 5 M.vE (.int k i) λp=>aX 4 p λq=>ldW false 1 q w K:=by
 obtain⟨va,vk,ec,_⟩:=h.ee.2 i e hi;refine qO (size:=5) h.oE h.ee.1 (by omega) (List.getElem?_eq_some_iff.1 hi).1 λb o c fr hb hcc=>?_;rw[bS,dY];refine⟨i64 e.a,?_,hK⟩;rw[bZ,cJ,hb,cP,hcc 4 (by omega)];have:=congrArg (λl:List Value=>l[4]?) ec;simpa[List.getElem?_take,List.getElem?_drop]using this
theorem Ob{v:JV}(h:dX v=true):v.t.length<=16384:=HE (pU h).plain
section
variable [HX]
theorem Kz{f:Fl}{M:Lay}{p m left:Nat}{look:Str->Option Value}{e:Ex}{l:List JV}{ec:List Value}{sv:Value}{w0:World}{K:Q0}(he:Exc w0 e ec)(hE:Ev w0 w p m f M look left)(hI:dS w sv l)(hg:∀x∈l,dX x=true)
  (hl:l.length<=100000)(hal:l.length<=e.args.length)(hin:∀a∈e.args,a<f.ex.length)(hK:MdK w0 (sZ f.ex e.args l 0 [] true) G w K):
  aC P0 89 [.pointer (some ⟨p,0,none⟩),.agg ec.toArray,sv] w K:=by
 refine aAK ?_;unfold W89;refine De he hE.ext λb4 w1 va vk hec hva hvk hb4 hz1 hbb4 hx1=>?_;refine bE λb6 w2 hb6 hz2 hbb6 hx2=>?_;refine aAv (B:=w2.heap.size) (aU _) λb7 w3 hb7 hB3 hx3=>?_;have hx03:=hx1.trans (hx2.trans hx3);have hb43:=(hx2.trans hx3).at hbb4 id;have hb63:=hx3.at hbb6 id;have hl6:=fC hbb6;rw[hI.len];have s3:=hx3.size;refine cZ.go (λst w'=>∃(i:Nat) (kn:Bool) (acc:Str),st=[.bool kn,i64 (i:Nat)]/\i<=l.length/\Chg (λk=>w2.heap.size<=k) w3 w'/\Bld w' w2.heap.size b7 acc/\acc.length<=i*20000/\sZ f.ex e.args l 0 [] true=sZ f.ex e.args (l.drop i) i acc kn)
  (λst _=>match st with|[_,.int _ i]=>l.length-i.toNat|_=>0)
  ⟨0,true,[],rfl,gQ _,Chg.refl _ _,hB3,by simp,rfl⟩ ?_
 rintro st g w5 ⟨i,kn,acc,rfl,hi,hc5,hB5,hal5,hat⟩;simp only[aG,dC];have s5:=hc5.size;have hx25:Ext w2 w5:=hx3.then hc5 λk hk e=>by omega
 have hx05:Ext w w5:=(hx1.trans hx2).trans hx25;have hb65:=hx25.at hbb6 id;have hb45:=(hx2.trans hx25).at hbb4 id;rw[eG,aO];refine⟨λhlt=>?_,λhge=>?_⟩
 ·have hlt:i<l.length:=by omega
  obtain⟨x,hxi⟩:∃x,l[i]?=some x:=⟨_,List.getElem?_eq_getElem hlt⟩;have hgx:=hg x (bI hxi);have htl:=Ob hgx;have hdr:l.drop i=x::l.drop (i+1):=by rw[cC hlt];congr 1;exact(List.getElem?_eq_some_iff.1 hxi).2
  rw[hdr]at hat;refine bT.cut (λst w'=>∃(kn:Bool) (acc:Str),st=[.bool kn]/\Chg (λk=>w2.heap.size<=k) w3 w'/\Bld w' w2.heap.size b7 acc/\acc.length<=(i+1)*20000/\sZ f.ex e.args l 0 [] true=sZ f.ex e.args (l.drop (i+1)) (i+1) acc kn) ?_ ?_
  ·refine(hI.ext hx05).at' (n:=(i:Nat)) rfl hxi λds hds=>?_;refine mG hds.len hds.all_one λb10 w8 hb10 hz8 hbb10 hx8=>?_;obtain⟨svx,kvx,_,_,_,rfl,_⟩:=hds.out;have hc8:Chg (λk=>w2.heap.size<=k) w3 w8:=hc5.then hx8 λ_ _ e=>e.elim;have hB8:=hB5.ext hx8;refine eC (off:=0) hbb10 rfl ?_;rw[bM,aO];refine⟨λk1=>?_,λk1=>?_⟩
   ·refine⟨false,acc,rfl,hc8,hB8,by omega,?_⟩;rw[hat];simp only[sZ];rw[aI k1]
   have wr:∀{s:Str} {w':World} {J:Q0},By x=some s->s.length<=16384->w'=w8->(∀v w'',(∃(kn':Bool) (acc:Str),[Value.bool kn]=[.bool kn']/\Chg (λk=>w2.heap.size<=k) w3 w''/\Bld w'' w2.heap.size b7 acc/\acc.length<=(i+1)*20000/\sZ f.ex e.args l 0 [] true=sZ f.ex e.args (l.drop (i+1)) (i+1) acc kn')->J v w'')->
     aC P0 66 [.pointer (some ⟨b7,0,none⟩),str s] w' J:=λ{s w' J} hp hs hw hJ=>by
    subst hw;have s8:=hx8.size;refine Kr hB8 (by omega) (by omega) λv w11 hB11 hc11=>?_;refine hJ v w11 ⟨kn,acc++s,rfl,hc8.then hc11 (λk _ e=>?_),hB11,by rw[bG];omega,?_⟩
    ·rcases e with rfl|e
     ·have:=hB8.base;omega
     ·exact e.1
    ·rw[hat];simp only[sZ];rw[aE k1,hp]
   refine bT.cut (λst w'=>st=[.bool (decide (x.k=4)||decide (x.k=3))]/\w'=w8) ?_ ?_
   ·rw[bM,aO];refine⟨λk4=>⟨by simp[k4],rfl⟩,λk4=>?_⟩;rw[bM];exact⟨by simp[k4],rfl⟩
   rintro st g2 w10 ⟨rfl,rfl⟩;simp only[aG];rw[bR];refine⟨λk43=>?_,λk43=>?_⟩
   ·have k43:x.k=4\/x.k=3:=by simpa using k43
    refine eC (off:=2) hbb10 rfl ?_;refine wr (s:=x.t) (by unfold By;rw[aI k43]) htl rfl λv w'' h=>h
   have k43:¬(x.k=4\/x.k=3):=by simpa using k43
   rw[bM,aO];refine⟨λk2=>?_,λk2=>?_⟩
   ·refine bT.cut (λst w'=>st=[str (if x.b then [116,114,117,101]else [102,97,108,115,101])]/\w'=w10) ?_ ?_
    ·refine eC (off:=1) hbb10 rfl ?_;rw[bR];exact⟨λe=>⟨by rw[e];rfl,rfl⟩,λe=>⟨by rw[e];rfl,rfl⟩⟩
    rintro st g3 w13 ⟨rfl,rfl⟩;simp only[aG];refine wr (s:=if x.b then [116,114,117,101]else [102,97,108,115,101]) (by unfold By;rw[aE k43,aI k2]) (by split<;>simp) rfl λv w'' h=>h
   ·have hia:i<e.args.length:=by omega
    obtain⟨a,ha⟩:∃a,e.args[i]?=some a:=⟨_,List.getElem?_eq_getElem hia⟩;have hlt':=hin a (bI ha);obtain⟨ea,hea⟩:∃ea,f.ex[a]?=some ea:=⟨_,List.getElem?_eq_getElem hlt'⟩;have hr:sZ f.ex e.args l 0 [] true=.err 81 ea.a:=by
     rw[hat];simp only[sZ];rw[aE k1];have:By x=none:=by unfold By;rw[aE k43,aE k2]
     rw[this];have hga:e.args.getD i 0=a:=by rw[List.getD_eq_getElem?_getD,ha];rfl
     simp only[hga,aCG,hea]
    have hx810:Ext w5 w10:=hx8;have hx010:=hx05.trans hx810;have hxd:Ext w10 w10.drew:=Chg.drew (Chg.refl (λ_=>False) w10);have hE10:=(hE.next hx010).next hxd
    rw[dR];rw[bS];refine eC (off:=0) hE10.pp rfl ?_;refine eC (off:=2) ((hx810.trans hxd).at hb45 id) rfl ?_;refine qN (hva.ext hE10.ext) (by simp[ints]) (x:=i64 (a:Nat)) (by simp[ints,ha]) ?_;refine hE10.fvw.place hea ?_;exact kM hE10.ext (hK.err hr)
  rintro st g2 w16 ⟨kn',acc',rfl,hc16,hB16,hl16,hat16⟩;simp only[aG];rw[cG,up1 (by omega)];exact⟨⟨i+1,kn',acc',rfl,hlt,hc16,hB16,hl16,hat16⟩,by simp only[aW];omega⟩
 ·obtain rfl:i=l.length:=by omega
  rw[dW]at hat;rw[eP,bR];refine⟨λhk=>?_,λhk=>?_⟩
  ·have hk:kn=false:=by simpa using hk
   subst hk;refine rH λw17 hx17=>?_;exact oQ (G:=G) (hx17.at hb65 id) rfl (by omega) (hx05.trans hx17) (by simp) λw' hx' h'=>hK.ok (v:=uV) (by rw[hat];rfl) _ w' hx' h'
  ·have hk:kn=true:=by simpa using hk
   subst hk;refine Cb hB5 (by omega) λw20 hc20=>?_;have s20:=hc20.size;have hx020:Ext w w20:=hx05.then hc20 λk hk e=>by have:=(hx1.trans hx2).size;omega
   refine AU λw21 hx21=>?_;refine oQ (G:=G) (hx21.at (hc20.at hb65 (by omega)) id) rfl (by omega) (hx020.trans hx21) (by omega) λw' hx' h'=>hK.ok (v:=tV acc) (by rw[hat];rfl) _ w' hx' h'
end
def fQ(G:Nat->Prop)(w:World)(look:Str->Option Value)(env:Env):Prop:=∀s,match env s with
 |none=>look s=none
 |some v=>∃cs,look s=some (.agg cs.toArray)/\cL G w v cs/\zL v=true
theorem fQ.none{look:Str->Option Value}{env:Env}(h:fQ G w look env){s:Str}(he:env s=none):look s=none:=by
 have:=h s;rw[he]at this;exact this
theorem fQ.some{G:Nat->Prop}{w:World}{look:Str->Option Value}{env:Env}(h:fQ G w look env){s:Str}{v:JV}(he:env s=some v):∃cs,look s=some (.agg cs.toArray)/\cL G w v cs/\zL v=true:=by
 have:=h s;rw[he]at this;exact this
theorem fQ.mono{G':Nat->Prop}{look:Str->Option Value}{env:Env}(hG:∀k,k<w.heap.size->G k->G' k)(h:fQ G w look env):fQ G' w look env:=λs=>by
 have:=h s
 cases he:env s with
 |none=>rw[he]at this;exact this
 |some v=>rw[he]at this;obtain⟨cs,h1,h2,h3⟩:=this;exact⟨cs,h1,h2.mono hG,h3⟩
theorem fQ.chg{look:Str->Option Value}{env:Env}(h:fQ G w look env)(hc:Chg S w w')(hS:∀k,G k->k<w.heap.size->¬S k):fQ G w' look env:=λs=>by
 have:=h s
 cases he:env s with
 |none=>rw[he]at this;exact this
 |some v=>rw[he]at this;obtain⟨cs,h1,h2,h3⟩:=this;exact⟨cs,h1,cL.chg hc hS h2,h3⟩
theorem fQ.ext{look:Str->Option Value}{env:Env}(h:fQ G w look env)(hx:Ext w w'):fQ G w' look env:=h.chg hx λ_ _ _ e=>e
def tT[HX](name:Str)(n:Nat):Prop:=∀{a:List JV} {sv:Value} {w:World} {K:Q0},a.length=n->(∀x∈a,dX x=true)->wP w->dS w sv a->
 (∀cs w',Ext w w'->cL (Av w.heap.size) w' (qG name a).1 cs->K (.tuple #[.agg cs.toArray,i64 (qG name a).2]) w')->aC P0 94 [str name,sv] w K
def ObC[HX]:Prop:=∀{ks:List Str} {xs:List JV} {kv xv:Value} {T:TypeId} {w:World} {K:Q0},SlAt w T kv ks.length (ks.map str)->dS w xv xs->xs.length<=90000->(∀s∈ks,s.length<=9223372036854775807)->(∀x∈xs,zL x=true)->
 (∀cs c w',Ext w w'->cL (Av w.heap.size) w' (XT ks xs) cs->K (.tuple #[.agg cs.toArray,i64 c]) w')->aC P0 90 [kv,xv] w K
structure aBK(e:Ex):Prop where
 kd:1<=e.k/\e.k<=30
 a1:e.k=10\/e.k=30\/e.k=13\/e.k=14->1<=e.args.length
 a2:e.k=11\/e.k=29\/15<=e.k/\e.k<=27->2<=e.args.length
 a3:e.k=28->3<=e.args.length
 kl:∀s∈e.keys,s.length<=100000
 tl:e.t.length<=100000
 al:e.args.length<=90000
section
variable [HX]
theorem MdK.fin{w0 w1:World}{r:MdR JV}{K:Q0}{b:Nat}{ds:List Value}(hK:MdK w0 r G w K)(hx:Ext w w1)(hb:w1.heap[b]?=some (.cells ds.toArray VT (0,0)))(hd:ds.length=5)(hl:w.heap.size<=b):
  MdK w0 r (λq=>G q/\q≠b) w1 (λv w'=>stW 5 (.pointer (some ⟨b,0,none⟩)) v w' λw4=>ldW true 5 (.pointer (some ⟨b,0,none⟩)) w4 λr=>K r w4):=by
 cases r with
 |ok v=>
  intro cs w' hx' h';exact zW (hx'.at hb id) hd hl (hx.trans hx') h' λw'' hx'' h''=>hK _ w'' hx'' h''
 |err c a=>exact hK
theorem Vi{K:Q0}(hK:∀w',Ext w w'->K (.agg (flat 0 false []).toArray) w'):aC P0 85 [] w K:=by
 refine aAO ?_;unfold W85;refine bE λb w1 hb hz hbb hx=>?_;simp only[wsv,wsg,wsh,wsl,aM,aK,aD,eV,Nat.reduceAdd,Nat.reduceLT,aF,aA,aJ,aH,bN,reduceCtorEq];exact iP hbb rfl rfl rfl λw' hc=>hK w' (hx.new hc (by omega))
theorem ZU{f:Fl}{M:Lay}{p m left:Nat}{look:Str->Option Value}{env:Env}{e:Ex}{l:List JV}{ec:List Value}{sv:Value}{w0:World}{K:Q0}(hT:wP w)(he:Exc w0 e ec)(hE:Ev w0 w p m f M look left)(hN:fQ G w look env)(hI:jL G w sv l)(hg:∀x∈l,dX x=true)
  (ho:aBK e)(hal:l.length=e.args.length)(hin:∀a∈e.args,a<f.ex.length)(h28:e.k≠28)(h29:e.k≠29)(hcall:e.k=12->tT e.t e.args.length)(hob:e.k=8->ObC)(hG:∀q,w.heap.size<=q->G q)(hK:MdK w0 (kH f.ex e env l) G w K):
  aC P0 60 [.pointer (some ⟨p,0,none⟩),.agg ec.toArray,sv] w K:=by
 have hal2:=ho.al;refine aA7 ?_;unfold W60;refine De he hE.ext λb4 w1 va vk hec hva hvk hb4 hz1 hbb4 hx1=>?_;refine bE λb6 w2 hb6 hz2 hbb6 hx2=>?_;have hx02:=hx1.trans hx2;have hb42:=hx2.at hbb4 id;have hl6:=fC hbb6;have hE2:=hE.next hx02;have hEx:=hE2.ext;have o1:=uP hva;have o2:=uP hvk;have hI6:jL (λq=>G q/\q≠b6) w2 sv l:=(hI.mono (G':=λq=>G q/\q≠b6) λq hlt hq=>⟨hq,by omega⟩).ext hx02;have mY:∀{r:MdR JV} {w':World},Ext w2 w'->MdK w0 r G w K->MdK w0 r (λq=>G q/\q≠b6) w' (λv w'=>stW 5 (.pointer (some ⟨b6,0,none⟩)) v w' λw4=>ldW true 5 (.pointer (some ⟨b6,0,none⟩)) w4 λr=>K r w4):=λ{r w'} hx h=>h.fin (hx02.trans hx) (hx.at hbb6 id) rfl (by omega);have hG6:∀{w':World},Ext w2 w'->∀q,w'.heap.size<=q->G q/\q≠b6:=λ{w'} hx q hq=>⟨hG q (by have:=(hx02.trans hx).size;omega),by have:=hx.size;omega⟩;have hflat:∀{k:Int} {s:Bool} {t:Str} {w':World},Ext w2 w'->t.length<=9223372036854775807->MdK w0 (.ok (.mk k s t [] [])) G w K->stW 5 (.pointer (some ⟨b6,0,none⟩)) (.agg (flat k s t).toArray) w' λw5=>ldW true 5 (.pointer (some ⟨b6,0,none⟩)) w5 λr6=>K r6 w5:=λ{k s t w'} hxx ht hr=>
  oQ (G:=G) (hxx.at hbb6 id) rfl (by omega) (hx02.trans hxx) ht λw'' hx'' h''=>hr.ok rfl _ w'' hx'' h''
 have hxd:∀w':World,Ext w' w'.drew:=λw'=>Chg.drew (Chg.refl (λ_=>False) w');have at0:1<=l.length->l[0]?=some (CJ l):=λh=>by unfold CJ;rw[List.getD_eq_getElem?_getD,List.getElem?_eq_getElem (by omega)];rfl
 have at1:2<=l.length->l[1]?=some (EX l):=λh=>by unfold EX;rw[List.getD_eq_getElem?_getD,List.getElem?_eq_getElem (by omega)];rfl
 have gd0:1<=l.length->dX (CJ l)=true:=λh=>hg _ (bI (at0 h));have gd1:2<=l.length->dX (EX l)=true:=λh=>hg _ (bI (at1 h));obtain⟨kd1,kd2⟩:=ho.kd;refine eC (off:=0) hb42 rfl ?_;unfold kH at hK;rw[bM,aO];refine⟨λe1=>?_,λe1=>?_⟩
 ·rw[aI e1]at hK;exact Vi λw3 hx3=>hflat (k:=0) (s:=false) (t:=[]) hx3 (by simp) hK
 rw[aE e1]at hK;have join2:∀{a b:Int} {w':World} {B:List Value->Fr->World->Prop},(∀g,B [.bool (decide (e.k=a)||decide (e.k=b))] g w')->bT (λJ=>aQ .eql (i64 e.k) (i64 a) λt=>aP t (J [t] w') (aQ .eql (i64 e.k) (i64 b) λt=>J [t] w')) B:=λ{a b w' B} h=>by
  refine bT.cut (λst w''=>st=[.bool (decide (e.k=a)||decide (e.k=b))]/\w''=w') ?_ ?_
  ·rw[bM,aO];refine⟨λea=>⟨by simp[ea],rfl⟩,λea=>?_⟩;rw[bM];exact⟨by simp[ea],rfl⟩
  rintro st g w'' ⟨rfl,rfl⟩;exact h g
 refine join2 λg=>?_;simp only[aG];rw[bR];refine⟨λe23=>?_,λe23=>?_⟩
 ·rw[aI (by simpa using e23)]at hK;refine eC (off:=0) hb42 rfl ?_;rw[bM];exact oZ λw3 hx3=>hflat (k:=2) (s:=decide (e.k=2)) (t:=[]) hx3 (by simp) hK
 rw[aE (by simpa using e23)]at hK;rw[bM,aO];refine⟨λe4=>?_,λe4=>?_⟩
 ·rw[aI e4]at hK;refine eC (off:=1) hb42 rfl ?_;simp only[dA,eD,cV,aB,aN,aV,aZ];refine⟨by omega,by omega,?_⟩;exact hflat (k:=3) (s:=false) (t:=e.t) (Chg.refl _ _) (by have:=ho.tl;omega) hK
 rw[aE e4]at hK;rw[bM,aO];refine⟨λe5=>?_,λe5=>?_⟩
 ·rw[aI e5]at hK;refine eC (off:=1) hb42 rfl ?_;exact AU λw3 hx3=>hflat (k:=4) (s:=false) (t:=e.t) hx3 (by have:=ho.tl;omega) hK
 rw[aE e5]at hK;rw[bM,aO];refine⟨λe9=>?_,λe9=>?_⟩
 ·rw[aI e9]at hK;have hx2d:=hxd w2;have hEd:=hE2.next hx2d;have hb4d:=hx2d.at hb42 id;rw[dR];refine eC (off:=3) hEd.pp rfl ?_;refine eC (off:=1) hb4d rfl ?_;have KA:∀{w':World},Ext w2.drew w'->(aX 3 (.pointer (some ⟨p,0,none⟩)) λt40=>ldW false 1 t40 w' λx=>x=.map (some m))/\(aX 1 (.pointer (some ⟨b4,0,none⟩)) λt42=>ldW false 1 t42 w' λx=>x=str e.t):=λ{w'} hx=>
   ⟨eC (off:=3) (hx.at hEd.pp id) rfl rfl,eC (off:=1) (hx.at hb4d id) rfl rfl⟩
  have found:∀(v:Value),(∀w',Ext w2.drew w'->∀{K:Value->Prop},K v->nC P0 (Instr.lookup 79 (.map (some m)) (str e.t) true) w' K)->True:=λ_ _=>trivial;cases hen:env e.t with
  |none=>
   rw[hen]at hK;have hlk:=hN.none hen;have lk:∀{w':World} {K:Value->Prop},Ext w2.drew w'->K (.tuple #[.agg zv.toArray,.bool false])->nC P0 (Instr.lookup 79 (.map (some m)) (str e.t) true) w' K:=λ{w' K} hx h=>
    DU (KT:=ST) (ET:=VT) (z:=.agg zv.toArray) (by kernel_rfl) (by kernel_rfl) (by kernel_rfl) ((hEd.next hx).mm) (λv hv=>by rw[hlk]at hv;cases hv) λ_=>h
   refine lk (Chg.refl _ _) ?_;simp only[bK];refine⟨_,rfl,_,rfl,?_⟩;refine bE λb7 w17 hb7 hz17 hbb7 hx17=>?_;refine⟨lk hx17 rfl,(KA hx17).2,(KA hx17).1,?_⟩;refine cA hbb7 rfl rfl rfl λw18 hz18 hbb7' hc18=>?_;have hx18:Ext w2.drew w18:=hx17.new hc18 (by omega);refine bT.cut (λ_ _=>False) ?_ (λ_ _ _ h=>h.elim);rw[eP,iU,eF];refine eC (off:=4) (hx18.at hb4d id) rfl ?_;exact kM (hEd.ext.trans hx18) (hK.err rfl)
  |some v=>
   rw[hen]at hK;obtain⟨cs,hlk,hrv,hfw⟩:=hN.some hen;have lk:∀{w':World} {K:Value->Prop},Ext w2.drew w'->K (.tuple #[.agg cs.toArray,.bool true])->nC P0 (Instr.lookup 79 (.map (some m)) (str e.t) true) w' K:=λ{w' K} hx h=>
    DU (KT:=ST) (ET:=VT) (z:=.agg zv.toArray) (by kernel_rfl) (by kernel_rfl) (by kernel_rfl) ((hEd.next hx).mm) (λv hv=>by rw[hlk]at hv;cases hv;exact h) λhv=>by rw[hlk]at hv;cases hv
   refine lk (Chg.refl _ _) ?_;simp only[bK];refine⟨_,rfl,_,rfl,?_⟩;refine bE λb7 w17 hb7 hz17 hbb7 hx17=>?_;refine⟨lk hx17 rfl,(KA hx17).2,(KA hx17).1,?_⟩;refine cA hbb7 hrv.rep.len rfl hrv.rep.all_one λw18 hz18 hbb7' hc18=>?_;have hx18:Ext w2.drew w18:=hx17.new hc18 (by omega);have hx218:=hx2d.trans hx18;refine bT.go ?_;rw[eP,jT,dD];intro g;refine bX hbb7' hrv.rep.len ?_;refine MS v hfw (hrv.rep.ext (hx02.trans hx218)) λcs' w22 hx22 h22=>?_;refine mY (Chg.refl _ _) hK cs' w22 (hx218.trans hx22) (h22.mono λq _ hq=>hG6 hx218 q hq)
 rw[aE e9]at hK;rw[bM,aO];refine⟨λe6=>?_,λe6=>?_⟩
 ·rw[aI e6]at hK;refine bX hb42 rfl ?_;refine Kz (G:=λq=>G q/\q≠b6) ⟨⟨va,vk,rfl,hva,hvk⟩⟩ hE2 hI6.items hg (by omega) (by omega) hin (mY (Chg.refl _ _) hK)
 rw[aE e6]at hK;rw[bM,aO];refine⟨λe7=>?_,λe7=>?_⟩
 ·rw[aI e7]at hK;have hos:gC sv=true:=by obtain⟨T,L,h1,_⟩:=hI.it;exact uP h1
  have hps:∀{c:List Value} {i:Nat} {r:List (Nat×Nat×Value)} {K:List Value->Prop},dE c ((i,1,sv)::r) K↔i<c.length/\dE (c.set i sv) r K:=by
   obtain⟨T,L,h1,_⟩:=hI.it;obtain⟨p1,c1,e1,_⟩:=h1.shape;intro c i r K;rw[e1];exact tE _ _ _ _ _ rfl
  simp only[dA,hps,cV,aB,aN,aV,aZ];refine⟨by omega,by omega,?_⟩;exact mY (Chg.refl _ _) hK _ w2 (Chg.refl _ _) hI6.list
 rw[aE e7]at hK;rw[bM,aO];refine⟨λe8=>?_,λe8=>?_⟩
 ·rw[aI e8]at hK;refine eC (off:=3) hb42 rfl ?_;refine(hob e8) (hvk.ext hEx) hI6.items (by omega) (λs hs=>by have:=ho.kl s hs;omega) (λx hx=>(pU (hg x hx)).few) λcs c w31 hx31 h31=>?_;simp only[bK];refine⟨_,rfl,_,rfl,?_⟩;refine mG h31.rep.len h31.rep.all_one λb9 w33 hb9 hz33 hbb9 hx33=>?_;refine bX hbb9 h31.rep.len ?_;exact mY (Chg.refl _ _) hK cs w33 (hx31.trans hx33) ((h31.ext' hx33).mono λq _ hq=>hG6 (Chg.refl _ _) q hq)
 rw[aE e8]at hK;rw[bM,aO];refine⟨λe10=>?_,λe10=>?_⟩
 ·rw[aI e10]at hK;have n1:=ho.a1 (.inl e10);refine bX ((hxd w2).at hb42 id) rfl ?_;refine(hI6.ext (hxd w2)).get (at0 (by omega)) λcs hcs=>?_;exact LR (G:=λq=>G q/\q≠b6) ⟨_,_,_,rfl,o1,o2⟩ hcs (gd0 (by omega)) (hEx.trans (hxd w2)) (hG6 (hxd w2)) (mY (hxd w2) hK)
 rw[aE e10]at hK;rw[bM,aO];refine⟨λe30=>?_,λe30=>?_⟩
 ·rw[aI e30]at hK;have n1:=ho.a1 (.inr (.inl e30));refine bX ((hxd w2).at hb42 id) rfl ?_;refine(hI6.ext (hxd w2)).get (at0 (by omega)) λcs hcs=>?_;exact Sa (G:=λq=>G q/\q≠b6) ⟨_,_,_,rfl,o1,o2⟩ hcs (gd0 (by omega)) (hEx.trans (hxd w2)) (hG6 (hxd w2)) (mY (hxd w2) hK)
 rw[aE e30]at hK;rw[bM,aO];refine⟨λe11=>?_,λe11=>?_⟩
 ·rw[aI e11]at hK;have n2:=ho.a2 (.inl e11);refine bX ((hxd w2).at hb42 id) rfl ?_;refine(hI6.ext (hxd w2)).get (at0 (by omega)) λcs hcs=>?_;refine(hI6.ext (hxd w2)).get (at1 (by omega)) λds hds=>?_;exact Va (G:=λq=>G q/\q≠b6) (hT.ext (hx02.trans (hxd w2))) ⟨_,_,_,rfl,o1,o2⟩ hcs hds (gd0 (by omega)) (gd1 (by omega)) (hEx.trans (hxd w2)) (hG6 (hxd w2)) (mY (hxd w2) hK)
 rw[aE e11]at hK;rw[bM,aO];refine⟨λe12=>?_,λe12=>?_⟩
 ·rw[aI e12]at hK;refine eC (off:=1) hb42 rfl ?_;refine hcall e12 hal hg (hT.ext hx02) hI6.items λcs w45 hx45 h45=>?_;simp only[bK];refine⟨_,rfl,_,rfl,?_⟩;refine mG h45.rep.len h45.rep.all_one λb11 w47 hb11 hz47 hbb11 hx47=>?_;have hx247:=hx45.trans hx47;refine bT.cut (λst w'=>w'=w47/\(qG e.t l).2=0) ?_ ?_
  ·rw[fJ,aO];refine⟨λhc=>?_,λhc=>⟨rfl,by omega⟩⟩;rw[aE hc]at hK;refine eC (off:=4) (hx247.at hb42 id) rfl ?_;exact kM (hEx.trans hx247) (hK.err rfl)
  rintro st g2 w50 ⟨rfl,hc⟩;rw[aI hc]at hK;refine bX hbb11 h45.rep.len ?_;exact mY (Chg.refl _ _) hK cs w50 hx247 ((h45.ext' hx47).mono λq _ hq=>hG6 (Chg.refl _ _) q hq)
 rw[aE e12]at hK;refine join2 λg2=>?_;simp only[aG];rw[bR];refine⟨λe13=>?_,λe13=>?_⟩
 ·have e13:e.k=13\/e.k=14:=by simpa using e13
  rw[aI e13]at hK;have n1:=ho.a1 (.inr (.inr e13));refine bX ((hxd w2).at hb42 id) rfl ?_;refine(hI6.ext (hxd w2)).get (at0 (by omega)) λcs hcs=>?_;exact OO (G:=λq=>G q/\q≠b6) (hT.ext (hx02.trans (hxd w2))) o1 o2 hcs (gd0 (by omega)) (hEx.trans (hxd w2)) (mY (hxd w2) hK)
 have e13:¬(e.k=13\/e.k=14):=by simpa using e13
 rw[aE e13]at hK;have e23':¬(e.k=2\/e.k=3):=by simpa using e23
 have n2:2<=l.length:=by have:=ho.a2 (.inr (.inr ⟨by omega,by omega⟩));omega
 refine join2 λg3=>?_;simp only[aG];rw[bR];refine⟨λe20=>?_,λe20=>?_⟩
 ·rw[aI (by simpa using e20)]at hK;refine hI6.get (at0 (by omega)) λcs hcs=>?_;refine Hv _ hcs.rep λw60 hx60=>?_;rw[eP];refine GdW.act (!iB (EX l)) (λw'=>Ext w60 w') (λ_=>Chg.refl _ _) (λ_ J hJ=>?_) λg4 w63 hx63=>?_
  ·refine(hI6.ext hx60).get (at1 (by omega)) λds hds=>?_;refine Hv _ hds.rep λw62 hx62=>?_;rw[eP];exact hJ w62 hx62
  have hx263:=hx60.trans hx63;simp only[aG,kX];rw[eZ,bR];refine⟨λhu=>?_,λhk=>?_⟩
  ·rw[aE (by rintro⟨h1,h2⟩;simp[h1,h2]at hu)]at hK;exact rH λw64 hx64=>hflat (k:=1) (s:=false) (t:=[]) (hx263.trans hx64) (by simp) hK
  ·have hk:iB (CJ l)=true/\iB (EX l)=true:=by simpa using hk
   rw[aI hk]at hK;have hx2d:=hx263.trans (hxd w63);refine(hI6.ext hx2d).get (at0 (by omega)) λcs' hcs'=>?_;refine(hI6.ext hx2d).get (at1 (by omega)) λds' hds'=>?_;refine eC (off:=0) (hx2d.at hb42 id) rfl ?_;rw[bM];refine Vl hcs'.rep hds'.rep λw67 hx67=>?_;refine⟨eC (off:=0) ((hx2d.trans hx67).at hb42 id) rfl rfl,?_⟩;have eqb:∀(s t:Bool) (K:Value->Prop),K (.bool (s==t))->eqW .bool false (.bool s) (.bool t) K:=λs t K h=>by
    cases s<;>cases t<;>exact h
   refine eqb _ _ _ ?_;exact oZ λw68 hx68=>hflat (k:=2) (t:=[]) (hx2d.trans (hx67.trans hx68)) (by simp) hK
 rw[aE (by simpa using e20)]at hK;refine join2 λg3=>?_;simp only[aG];rw[bR];refine⟨λe26=>?_,λe26=>?_⟩
 ·rw[aI (by simpa using e26)]at hK;refine bX ((hxd w2).at hb42 id) rfl ?_;refine(hI6.ext (hxd w2)).get (at0 (by omega)) λcs hcs=>?_;refine(hI6.ext (hxd w2)).get (at1 (by omega)) λds hds=>?_;exact aAu (G:=λq=>G q/\q≠b6) o1 o2 hcs hds (hEx.trans (hxd w2)) (mY (hxd w2) hK)
 ·rw[aE (by simpa using e26)]at hK;refine bX ((hxd w2).at hb42 id) rfl ?_;refine(hI6.ext (hxd w2)).get (at0 (by omega)) λcs hcs=>?_;refine(hI6.ext (hxd w2)).get (at1 (by omega)) λds hds=>?_;exact NK (G:=λq=>G q/\q≠b6) (hT.ext (hx02.trans (hxd w2))) o1 o2 hcs hds (gd0 (by omega)) (gd1 (by omega)) (hEx.trans (hxd w2)) (mY (hxd w2) hK)
end
abbrev pO(ex:List Ex):Nat->Env->Nat->EvR JV:=λa env l=>tW ex (a+1) a env l
def PM(p m:Nat)(q:Nat):Prop:=q=p\/q=m
theorem xK{p m k:Nat}(hp:¬G p)(hm:¬G m)(hg:G k):¬PM p m k:=λe=>e.elim (λe=>hp (e▸hg)) λe=>hm (e▸hg)
theorem Ev.mv{w0:World}{p m:Nat}{f:Fl}{M:Lay}{look:Str->Option Value}{left:Nat}(h:Ev w0 w p m f M look left)(hc:Chg S w w')(hS:∀k,k<w.heap.size->S k->w0.heap.size<=k/\k≠p/\k≠m):Ev w0 w' p m f M look left:=by
 have hc:=hc.mono (T:=λk=>w0.heap.size<=k/\k≠p/\k≠m) hS;exact h.keep hc (λk=>by by_cases e:w0.heap.size<=k;exact .inl e;exact .inr λx=>e x.1) (λx=>x.2.1 rfl) λx=>x.2.2 rfl
theorem Ev.lt{w0:World}{p m:Nat}{f:Fl}{M:Lay}{look:Str->Option Value}{left:Nat}(h:Ev w0 w p m f M look left):p<w.heap.size/\m<w.heap.size:=⟨fC h.pp,h.mm.lt⟩
theorem FV.get{w0:World}{M:Lay}{fl:Fl}{e:Ex}{k:IntKind}{K:Value->Prop}(h:FV w0 M fl)(hx:Ext w0 w)(hi:fl.ex[i]?=some e)(hK:∀cs,Exc w0 e cs->K (.agg cs.toArray)):dG none 5 M.vE (.int k i) λp=>ldW true 5 p w K:=by
 obtain⟨va,vk,ec,h1,h2⟩:=h.ee.2 i e hi;exact US (h.oE.ext hx) h.ee.1 (by omega) (List.getElem?_eq_some_iff.1 hi).1 ec (hK _ ⟨va,vk,rfl,h1,h2⟩)
theorem Pv{b:Nat}{ds:List Value}{v:JV}{K:Q0}(hb:w.heap[b]?=some (.cells ds.toArray VT (0,0)))(hd:ds.length=5)(h:cL (λq=>G q/\q≠b) w v cs)(hK:∀w',Chg (λq=>q=b) w w'->cL G w' v cs->K (.agg cs.toArray) w'):
  stW 5 (.pointer (some ⟨b,0,none⟩)) (.agg cs.toArray) w λw5=>ldW true 5 (.pointer (some ⟨b,0,none⟩)) w5 λr6=>K r6 w5:=
 iP hb h.rep.len hd h.rep.all_one λw' hc=>hK w' hc ((cL.chg hc (λq hq _ e=>hq.2 e) h).mono λq _ hq=>hq.1)
section
variable [HX]
def EvK(w0 w:World)(p m:Nat)(f:Fl)(M:Lay)(look:Str->Option Value)(G:Nat->Prop)(r:EvR JV)(K:Q0):Prop:=match r with
 |.ok v l=>∀cs w',Chg (PM p m) w w'->Ev w0 w' p m f M look l->cL G w' v cs->dX v=true->l<=20000->K (.agg cs.toArray) w'
 |.err c a=>LU w0 c a
def EvB(w0 w:World)(p m:Nat)(f:Fl)(M:Lay)(look:Str->Option Value)(G:Nat->Prop)(r:EvR JV)(K:Q0):Prop:=match r with
 |.ok v l=>∀cs w',Chg (PM p m) w w'->Ev w0 w' p m f M look l->cL G w' v cs->l<=20000->K (.agg cs.toArray) w'
 |.err c a=>LU w0 c a
theorem EvB.ok{w0:World}{p m:Nat}{f:Fl}{M:Lay}{look:Str->Option Value}{r:EvR JV}{K:Q0}{v:JV}{l:Nat}(h:EvB w0 w p m f M look G r K)(hr:r=.ok v l):∀cs w',Chg (PM p m) w w'->Ev w0 w' p m f M look l->cL G w' v cs->l<=20000->K (.agg cs.toArray) w':=by subst hr;exact h
def Rr(w0:World)(p m:Nat)(f:Fl)(M:Lay)(i:Nat):Prop:=∀{env:Env} {look:Str->Option Value} {left:Nat} {G:Nat->Prop} {w:World} {K:Q0},Ev w0 w p m f M look left->fQ G w look env->¬G p->¬G m->(∀q,w.heap.size<=q->G q)->left<=20000->
 EvK w0 w p m f M look G (pO f.ex i env left) K->aC P0 35 [.pointer (some ⟨p,0,none⟩),i64 (i:Nat)] w K
theorem aAs{f:Fl}{M:Lay}{p m left:Nat}{look:Str->Option Value}{env:Env}{e:Ex}{ec:List Value}{w0:World}{K:Q0}(he:Exc w0 e ec)(hE:Ev w0 w p m f M look left)(hN:fQ G w look env)(ha:3<=e.args.length)(hV:∀a∈e.args,Rr w0 p m f M a)
  (hp:¬G p)(hm:¬G m)(hG:∀q,w.heap.size<=q->G q)(hl:left<=20000)(hK:EvB w0 w p m f M look G (Gy (pO f.ex) e env left) K):
  aC P0 58 [.pointer (some ⟨p,0,none⟩),.agg ec.toArray] w K:=by
 refine aA9 ?_;unfold W58;refine De he hE.ext λb3 w1 va vk hec hva hvk hb3 hz1 hbb3 hx1=>?_;refine bE λb4 w2 hb4 hz2 hbb4 hx2=>?_;have hx02:=hx1.trans hx2;have hb32:=hx2.at hbb3 id;have hE2:=hE.next hx02;have hlt:=hE.lt;have h0:=hE.ext.size;have arg:∀(j:Nat) {w':World} {K:Value->Prop},j<e.args.length->Ext w0 w'->w'.heap[b3]?=some (.cells [i64 e.k,str e.t,va,vk,i64 e.a].toArray 93 (0,0))->K (i64 (lY e j:Nat))->aX 2 (.pointer (some ⟨b3,0,none⟩)) λt7=>ldW false 1 t7 w' λt8=>dG none 1 t8 (i64 (j:Nat)) λt9=>ldW false 1 t9 w' K:=λj {w' K} hj hx hb hk=>by
  refine eC (off:=2) hb rfl ?_;refine qN (hva.ext hx) (by simp[ints]) (x:=i64 (lY e j:Nat)) ?_ hk;unfold lY;rw[List.getD_eq_getElem?_getD,List.getElem?_eq_getElem hj];simp[ints,hj]
 have memA:∀j,j<e.args.length->lY e j∈e.args:=λj hj=>by
  unfold lY;rw[List.getD_eq_getElem?_getD,List.getElem?_eq_getElem hj];exact uH hj
 refine arg 0 (by omega) hE2.ext hb32 ?_;have hN2:fQ (λq=>G q/\q≠b4) w2 look env:=(hN.mono (G':=λq=>G q/\q≠b4) λq hlt hq=>⟨hq,by omega⟩).ext hx02;refine hV _ (memA 0 (by omega)) hE2 hN2 (λe=>hp e.1) (λe=>hm e.1) (λq hq=>⟨hG q (by omega),by omega⟩) hl ?_;unfold Gy at hK;cases hr:pO f.ex (lY e 0) env left with
 |err c a=>
  rw[hr]at hK;exact hK
 |ok c l=>
  rw[hr]at hK;simp only[EvR.bind]at hK;intro cs w3 hc3 hE3 hr3 hg3 hl3;have s3:=hc3.size;have hb33:=hc3.at hb32 (λe=>by rcases e with e|e<;>omega);have hb43:=hc3.at hbb4 (λe=>by rcases e with e|e<;>omega);refine mG hr3.rep.len hr3.rep.all_one λb5 w5 hb5 hz5 hbb5 hx5=>?_;obtain⟨svc,kvc,_,_,_,rfl,_⟩:=Bl hr3;have hE5:=hE3.next hx5;have hc5:Chg (PM p m) w w5:=((Chg.of_ext hx02).trans hc3).then hx5 λ_ _ e=>e.elim;have hb35:=hx5.at hb33 id;have hb45:=hx5.at hb43 id;have hr5:=hr3.ext' hx5;have hN5:fQ G w5 look env:=hN.chg hc5 λk hkk _=>xK hp hm hkk;have fin:∀{v:JV} {l:Nat} {ds:List Value} {w':World},Chg (PM p m) w w'->Ev w0 w' p m f M look l->w'.heap[b4]?=some (.cells zr5.toArray VT (0,0))->cL (λq=>G q/\q≠b4) w' v ds->l<=20000->(∀cs w',Chg (PM p m) w w'->Ev w0 w' p m f M look l->cL G w' v cs->l<=20000->K (.agg cs.toArray) w')->
    stW 5 (.pointer (some ⟨b4,0,none⟩)) (.agg ds.toArray) w' λw5=>ldW true 5 (.pointer (some ⟨b4,0,none⟩)) w5 λr6=>K r6 w5:=λ{v l ds w'} hc hE' hb h' hl' hk=>
   Pv hb rfl h' λw'' hc'' h''=>hk _ w'' (hc.then hc'' λk hk e=>by have e:k=b4:=e;omega) (hE'.mv hc'' λk _ e=>by have e:k=b4:=e;exact⟨by omega,by omega,by omega⟩) h'' hl'
  have sub:∀(j:Nat) {w':World},j<e.args.length->Chg (PM p m) w w'->Ev w0 w' p m f M look l->w'.heap[b4]?=some (.cells zr5.toArray VT (0,0))->EvB w0 w p m f M look G (pO f.ex (lY e j) env l) K->
    aC P0 35 [.pointer (some ⟨p,0,none⟩),i64 (lY e j:Nat)] w' λt31 w11=>stW 5 (.pointer (some ⟨b4,0,none⟩)) t31 w11 λw12=>ldW true 5 (.pointer (some ⟨b4,0,none⟩)) w12 λr13=>K r13 w12:=λj {w'} hj hc hE' hb hk=>by
   have sz:=hc.size;have hN':fQ (λq=>G q/\q≠b4) w' look env:=(hN.mono (G':=λq=>G q/\q≠b4) λq hlt hq=>⟨hq,by omega⟩).chg hc λk hkk _=>xK hp hm hkk.1;have lb:=fC hb;refine hV _ (memA j hj) hE' hN' (λe=>hp e.1) (λe=>hm e.1) (λq hq=>⟨hG q (by omega),by omega⟩) hl3 ?_;cases hr2:pO f.ex (lY e j) env l with
   |err c a=>rw[hr2]at hk;exact hk
   |ok v l2=>
    rw[hr2]at hk;intro ds w11 hc11 hE11 h11 hg11 hl11;exact fin (hc.trans hc11) hE11 (hc11.at hb λe=>by rcases e with e|e<;>omega) h11 hl11 hk
  refine bT.cut (λst w'=>Ext w5 w'/\c.k=2/\c.b=false) ?_ ?_
  ·refine bX hbb5 rfl ?_;refine uK hr5.rep λw7 hx7 _=>?_;have hc7:=hc5.then hx7 λ_ _ e=>e.elim;rw[aO];refine⟨λk1=>?_,λk1=>?_⟩
   ·rw[aI k1]at hK;refine bX (hx7.at hbb5 id) rfl ?_;exact fin hc7 (hE5.next hx7) (hx7.at hb45 id) (hr5.ext' hx7) hl3 hK
   rw[aE k1]at hK;refine eC (off:=0) (hx7.at hbb5 id) rfl ?_;rw[fJ,aO];refine⟨λk2=>?_,λk2=>?_⟩
   ·rw[aI k2]at hK;refine eC (off:=4) (hx7.at hb35 id) rfl ?_;exact kM (hE5.next hx7).ext hK
   rw[aE k2]at hK;refine eC (off:=1) (hx7.at hbb5 id) rfl ?_;rw[bR];refine⟨λhb=>?_,λhb=>⟨hx7,by omega,hb⟩⟩;rw[aI hb]at hK;refine arg 1 (by omega) (hE5.next hx7).ext (hx7.at hb35 id) ?_;exact sub 1 (by omega) hc7 (hE5.next hx7) (hx7.at hb45 id) hK
  rintro st g w14 ⟨hx14,k2,hb⟩;rw[aE (by omega),aE (λe=>e k2),aE (by rw[hb];simp)]at hK;refine arg 2 (by omega) (hE5.next hx14).ext (hx14.at hb35 id) ?_;exact sub 2 (by omega) (hc5.then hx14 λ_ _ e=>e.elim) (hE5.next hx14) (hx14.at hb45 id) hK
def Ko:Prop:=∀{f:Fl} {M:Lay} {p m left:Nat} {look:Str->Option Value} {env:Env} {e:Ex} {ec:List Value} {G:Nat->Prop} {w0 w:World} {K:Q0},Exc w0 e ec->Ev w0 w p m f M look left->fQ G w look env->3<=e.args.length->(∀a∈e.args,Rr w0 p m f M a)->
 ¬G p->¬G m->(∀q,w.heap.size<=q->G q)->left<=20000->EvB w0 w p m f M look G (Gy (pO f.ex) e env left) K->aC P0 58 [.pointer (some ⟨p,0,none⟩),.agg ec.toArray] w K
theorem aCv:Ko:=λh1 h2 h3 h4 h5 h6 h7 h8 h9 h10=>aAs h1 h2 h3 h4 h5 h6 h7 h8 h9 h10
end
abbrev MpT:TypeId:=79
def Cn(look:Str->Option Value)(t:Str)(v:Value):Str->Option Value:=λs=>if s=t then some v else look s
theorem fQ.set{look:Str->Option Value}{env:Env}(h:fQ G w look env){t:Str}{x:JV}(hx:cL G w x cs)(hf:zL x=true):fQ G w (Cn look t (.agg cs.toArray)) (env.set t x):=λs=>by
 unfold Cn Env.set
 by_cases e:s=t
 ·rw[aI e,aI e]
  exact⟨cs,rfl,hx,hf⟩
 ·rw[aE e,aE e]
  exact h s
theorem fQ.congr{look look':Str->Option Value}{env:Env}(h:fQ G w look env)(he:∀s,look s=look' s):fQ G w look' env:=λs=>by rw[<-he];exact h s
theorem Ev.congr{w0:World}{p m:Nat}{f:Fl}{M:Lay}{look look':Str->Option Value}{left:Nat}(h:Ev w0 w p m f M look left)(he:∀s,look s=look' s):Ev w0 w p m f M look' left:=⟨h.ext,h.pp,h.mm.congr he,h.fv,h.hp,h.hm,h.ne⟩
section
variable [HX]
theorem Lc{w0:World}{p m:Nat}{f:Fl}{M:Lay}{look:Str->Option Value}{left:Nat}{t:Str}{K:World->Prop}(h:Ev w0 w p m f M look left)
  (hK:∀w',Ev w0 w' p m f M (Cn look t v) left->Chg (λq=>q=m) w w'->w'.heap.size=w.heap.size->K w'):nB P0 (Instr.mapUpdate MpT (.map (some m)) (str t) v) w K:=
 Qi (KT:=ST) (ET:=VT) (by kernel_rfl) (by kernel_rfl) h.mm λw' hz hm hc=>hK w' ⟨h.ext.then hc λk hk e=>by have e:k=m:=e;have:=h.hm;omega,hc.at h.pp h.ne,hm,h.fv,h.hp,h.hm,h.ne⟩ hc hz
theorem ZS{w0:World}{p m:Nat}{f:Fl}{M:Lay}{look:Str->Option Value}{left:Nat}{t:Str}{ty:TypeId}{K:Q0}(h:Ev w0 w p m f M look left)
  (hK:∀w',Ev w0 w' p m f M (λs=>if s=t then none else look s) left->Chg (λq=>q=m) w w'->w'.heap.size=w.heap.size->K (.tuple #[]) w'):eA P0 (Builtin.delete_ #[MpT,ST] ty #[.map (some m),str t]) w K:=
 Qk (KT:=ST) (ET:=VT) (by kernel_rfl) (by kernel_rfl) h.mm λw' hz hm hc=>hK w' ⟨h.ext.then hc λk hk e=>by have e:k=m:=e;have:=h.hm;omega,hc.at h.pp h.ne,hm,h.fv,h.hp,h.hm,h.ne⟩ hc hz
theorem ZV{f:Fl}{M:Lay}{p m left:Nat}{look:Str->Option Value}{env:Env}{e:Ex}{ec:List Value}{w0:World}{K:Q0}(he:Exc w0 e ec)(hE:Ev w0 w p m f M look left)(hN:fQ G w look env)(ha:2<=e.args.length)(hV:∀a∈e.args,Rr w0 p m f M a)
  (hp:¬G p)(hm:¬G m)(hG:∀q,w.heap.size<=q->G q)(hl:left<=20000)(hK:EvB w0 w p m f M look G (Vh (pO f.ex) e env left) K)(hgood:∀a env l v l',pO f.ex a env l=.ok v l'->dX v=true):
  aC P0 59 [.pointer (some ⟨p,0,none⟩),.agg ec.toArray] w K:=by
 refine aA8 ?_;unfold W59;refine De he hE.ext λb3 w1 va vk hec hva hvk hb3 hz1 hbb3 hx1=>?_;refine bE λb4 w2 hb4 hz2 hbb4 hx2=>?_;have hx02:=hx1.trans hx2;have hb32:=hx2.at hbb3 id;have hE2:=hE.next hx02;have hlt:=hE.lt;have h0:=hE.ext.size;have arg:∀(j:Nat) {w':World} {K:Value->Prop},j<e.args.length->Ext w0 w'->w'.heap[b3]?=some (.cells [i64 e.k,str e.t,va,vk,i64 e.a].toArray 93 (0,0))->K (i64 (lY e j:Nat))->aX 2 (.pointer (some ⟨b3,0,none⟩)) λt7=>ldW false 1 t7 w' λt8=>dG none 1 t8 (i64 (j:Nat)) λt9=>ldW false 1 t9 w' K:=λj {w' K} hj hx hb hk=>by
  refine eC (off:=2) hb rfl ?_;refine qN (hva.ext hx) (by simp[ints]) (x:=i64 (lY e j:Nat)) ?_ hk;unfold lY;rw[List.getD_eq_getElem?_getD,List.getElem?_eq_getElem hj];simp[ints,hj]
 have memA:∀j,j<e.args.length->lY e j∈e.args:=λj hj=>by
  unfold lY;rw[List.getD_eq_getElem?_getD,List.getElem?_eq_getElem hj];exact uH hj
 refine arg 0 (by omega) hE2.ext hb32 ?_;have hN2:fQ (λq=>G q/\q≠b4) w2 look env:=(hN.mono (G':=λq=>G q/\q≠b4) λq hlt hq=>⟨hq,by omega⟩).ext hx02;refine hV _ (memA 0 (by omega)) hE2 hN2 (λe=>hp e.1) (λe=>hm e.1) (λq hq=>⟨hG q (by omega),by omega⟩) hl ?_;unfold Vh at hK;cases hr:pO f.ex (lY e 0) env left with
 |err c a=>
  rw[hr]at hK;exact hK
 |ok c l=>
  rw[hr]at hK;simp only[EvR.bind]at hK;intro cs w3 hc3 hE3 hr3 hg3 hl3;have s3:=hc3.size;have hb33:=hc3.at hb32 (λe=>by rcases e with e|e<;>omega);have hb43:=hc3.at hbb4 (λe=>by rcases e with e|e<;>omega);refine mG hr3.rep.len hr3.rep.all_one λb5 w5 hb5 hz5 hbb5 hx5=>?_;obtain⟨svc,kvc,_,_,_,rfl,_⟩:=Bl hr3;have hE5:=hE3.next hx5;have hc5:Chg (PM p m) w w5:=((Chg.of_ext hx02).trans hc3).then hx5 λ_ _ e=>e.elim;have hb35:=hx5.at hb33 id;have hb45:=hx5.at hb43 id;have hr5:=hr3.ext' hx5;have fin:∀{v:JV} {l:Nat} {ds:List Value} {w':World},Chg (PM p m) w w'->Ev w0 w' p m f M look l->w'.heap[b4]?=some (.cells zr5.toArray VT (0,0))->cL (λq=>G q/\q≠b4) w' v ds->l<=20000->(∀cs w',Chg (PM p m) w w'->Ev w0 w' p m f M look l->cL G w' v cs->l<=20000->K (.agg cs.toArray) w')->
    stW 5 (.pointer (some ⟨b4,0,none⟩)) (.agg ds.toArray) w' λw5=>ldW true 5 (.pointer (some ⟨b4,0,none⟩)) w5 λr6=>K r6 w5:=λ{v l ds w'} hc hE' hb h' hl' hk=>
   Pv hb rfl h' λw'' hc'' h''=>hk _ w'' (hc.then hc'' λk hk e=>by have e:k=b4:=e;omega) (hE'.mv hc'' λk _ e=>by have e:k=b4:=e;exact⟨by omega,by omega,by omega⟩) h'' hl'
  refine bT.cut (λst w'=>Ext w5 w'/\c.k=5) ?_ ?_
  ·refine bX hbb5 rfl ?_;refine uK hr5.rep λw7 hx7 _=>?_;have hc7:=hc5.then hx7 λ_ _ e=>e.elim;rw[aO];refine⟨λk1=>?_,λk1=>?_⟩
   ·rw[aI k1]at hK;refine bX (hx7.at hbb5 id) rfl ?_;exact fin hc7 (hE5.next hx7) (hx7.at hb45 id) (hr5.ext' hx7) hl3 hK
   rw[aE k1]at hK;refine eC (off:=0) (hx7.at hbb5 id) rfl ?_;rw[fJ,aO];refine⟨λk2=>?_,λk2=>⟨hx7,by omega⟩⟩;rw[aI k2]at hK;refine eC (off:=4) (hx7.at hb35 id) rfl ?_;exact kM (hE5.next hx7).ext hK
  rintro st g w11 ⟨hx11,k5⟩;rw[aE (by omega),aE (λe=>e k5)]at hK;have hxd:∀w':World,Ext w' w'.drew:=λw'=>Chg.drew (Chg.refl (λ_=>False) w');have hx11d:=hx11.trans (hxd w11);have hE11:=hE5.next hx11d;have hb311:=hx11d.at hb35 id;have hb411:=hx11d.at hb45 id;have hb511:=hx11d.at hbb5 id;have hc11:Chg (PM p m) w w11.drew:=hc5.then hx11d λ_ _ e=>e.elim;rw[dR];refine eC (off:=3) hE11.pp rfl ?_;refine eC (off:=1) hb311 rfl ?_;have lk:∀{w':World} {K:Value->Prop},Ext w11.drew w'->K (match look e.t with|some v=>.tuple #[v,.bool true]|none=>.tuple #[.agg zv.toArray,.bool false])->nC P0 (Instr.lookup MpT (.map (some m)) (str e.t) true) w' K:=λ{w' K} hx h=>by
   refine DU (KT:=ST) (ET:=VT) (z:=.agg zv.toArray) (by kernel_rfl) (by kernel_rfl) (by kernel_rfl) ((hE11.next hx).mm) (λv hv=>?_) λhv=>?_
   ·rw[hv]at h;exact h
   ·rw[hv]at h;exact h
  obtain⟨was,th,wcs,hwas,hwl,hwo,hwz⟩:∃(was:Value) (th:Bool) (wcs:List Value),(match look e.t with|some v=>Value.tuple #[v,.bool true]|none=>.tuple #[.agg zv.toArray,.bool false])=.tuple #[was,.bool th]/\was=.agg wcs.toArray/\(wcs.length=5/\wcs.all gC=true)/\look e.t=(if th=true then some was else none):=by
   cases hen:env e.t with
   |none=>rw[hN.none hen];exact⟨_,false,zv,rfl,rfl,⟨rfl,rfl⟩,rfl⟩
   |some v=>
    obtain⟨ws,h1,h2,_⟩:=hN.some hen;rw[h1];exact⟨_,true,ws,rfl,rfl,⟨h2.rep.len,h2.rep.all_one⟩,rfl⟩
  rw[hwas]at lk;refine lk (Chg.refl _ _) ?_;simp only[bK];refine⟨_,rfl,_,rfl,?_⟩;refine bE λb6 w12 hb6 hz12 hbb6 hx12=>?_;refine⟨lk hx12 rfl,eC (off:=1) (hx12.at hb311 id) rfl rfl,eC (off:=3) (hx12.at hE11.pp id) rfl rfl,?_⟩;rw[hwl];refine cA hbb6 hwo.1 rfl hwo.2 λw13 hz13 hbb6' hc13=>?_;have hx13:Ext w11.drew w13:=hx12.new hc13 (by omega);simp only[dA,cV,aB,aN,aV];refine⟨by omega,?_⟩;refine mG (cs:=[i64 5,.bool false,str [],.slice none 0 0,.slice none 0 0]) rfl rfl λb8 w16 hb8 hz16 hbb8 hx16=>?_;have hx1116:=hx13.trans hx16;have hE16:=hE11.next hx1116;have hc16:Chg (PM p m) w w16:=hc11.then hx1116 λ_ _ e=>e.elim;have hb516:=hx1116.at hb511 id;refine eC (off:=3) hb516 rfl ?_;have hr16:cL (λq=>(G q/\q≠b4)/\q<w5.heap.size) w16 c [i64 c.k,.bool c.b,str c.t,svc,kvc]:=((hr5.mono (G':=λq=>(G q/\q≠b4)/\q<w5.heap.size) λq hlt hq=>⟨hq,hlt⟩).ext' hx11d).ext' hx1116;have hI16:=hr16.its;rw[hI16.items.len];have s11:w5.heap.size<=w11.drew.heap.size:=hx11d.size;have s12:w12.heap.size=w11.drew.heap.size+1:=hz12;have s05:=hc5.size;have hlen:=(pU hg3).lens.1;have hmem:∀x∈c.xs,dX x=true:=λx hx=>Ep hg3 hx;have hNn:fQ (λq=>G q/\q<w.heap.size) w look env:=hN.mono λq hlt hq=>⟨hq,hlt⟩;have pmlt:∀{q:Nat},w.heap.size<=q->¬PM p m q:=λ{q} h e=>by rcases e with e|e<;>omega
  have hb316:=hx1116.at hb311 id;have hb416:=hx1116.at hb411 id;have hb616:=hx16.at hbb6' id;refine cZ.go (λst w'=>∃(i:Nat) (rv:Value) (rs:List JV) (l':Nat) (lki:Str->Option Value),st=[i64 (i:Nat)]/\i<=c.xs.length/\rs.length=i/\Chg (λq=>PM p m q\/w16.heap.size<=q\/q=b8) w16 w'/\Ev w0 w' p m f M lki l'/\(∀s,s≠e.t->lki s=look s)/\l'<=20000/\
    w'.heap[b8]?=some (.cells [i64 5,.bool false,str [],rv,.slice none 0 0].toArray VT (0,0))/\qH (λq=>(G q/\q≠b4)/\q≠b8) w' w16.heap.size rv rs/\
    wR (pO f.ex) env e.t (lY e 1) c.xs l=(wR (pO f.ex) env e.t (lY e 1) (c.xs.drop i) l').bind λys l2=>.ok (rs++ys) l2)
   (λst _=>match st with|[.int _ i]=>c.xs.length-i.toNat|_=>0)
   ⟨0,.slice none 0 0,[],l,look,rfl,gQ _,rfl,Chg.refl _ _,hE16,λ_ _=>rfl,hl3,hbb8,qH.nil _ _ _,by rw[cX];cases wR (pO f.ex) env e.t (lY e 1) c.xs l<;>rfl⟩ ?_
  rintro st g2 w18 ⟨i,rv,rs,l',lki,rfl,hi,hrl,hc18,hE18,hlki,hl',hq8,hR,hat⟩;simp only[aG];have s18:=hc18.size;have keep:∀{b:Nat} {o:Obj},w16.heap[b]?=some o->w.heap.size<=b->b<w16.heap.size->b≠b8->w18.heap[b]?=some o:=λ{b o} h h1 h2 h3=>hc18.at h λe=>by
   rcases e with e|e|e
   ·exact pmlt h1 e
   ·omega
   ·exact h3 e
  have l4:=fC hb416;have l3:=fC hb316;have l6:=fC hb616;have l8:=fC hbb8;have hb318:=keep hb316 (by omega) l3 (by omega);have hb418:=keep hb416 (by omega) l4 (by omega);have hb618:=keep hb616 (by omega) l6 (by omega);have hcW:Chg (PM p m) w w18:=hc16.then hc18 λk hk e=>by
   rcases e with e|e|e
   ·exact e
   ·omega
   ·omega
  rw[eG,aO];refine⟨λhlt2=>?_,λhge=>?_⟩
  ·have hlt2:i<c.xs.length:=by omega
   obtain⟨x,hxi⟩:∃x,c.xs[i]?=some x:=⟨_,List.getElem?_eq_getElem hlt2⟩;have hgx:=hmem x (bI hxi);have hdr:c.xs.drop i=x::c.xs.drop (i+1):=by rw[cC hlt2];congr 1;exact(List.getElem?_eq_some_iff.1 hxi).2
   rw[hdr]at hat;simp only[wR]at hat;have hI18:jL (λq=>(G q/\q≠b4)/\q<w5.heap.size) w18 svc c.xs:=hI16.chg hc18 λk hk _ e=>by
    rcases e with e|e|e
    ·exact xK hp hm hk.1.1 e
    ·have:=hk.2;omega
    ·have:=hk.2;omega
   refine hI18.get hxi λxs hxs=>?_;refine mG hxs.rep.len hxs.rep.all_one λb10 w20 hb10 hz20 hbb10 hx20=>?_;have hx20d:=hx20.trans (hxd w20);have hE20:=hE18.next hx20d;rw[dR];refine eC (off:=3) hE20.pp rfl ?_;refine eC (off:=1) (hx20d.at hb318 id) rfl ?_;refine bX ((hxd w20).at hbb10 id) hxs.rep.len ?_;refine Lc hE20 λw21 hE21 hc21 hz21=>?_;have hx21d:=hxd w21;have hE21d:=hE21.next hx21d;have sd21:w21.drew.heap.size=w21.heap.size:=rfl;have sd20:w20.drew.heap.size=w20.heap.size:=rfl;have hcc:Chg (PM p m) w18 w21.drew:=((Chg.of_ext hx20d).then hc21 λk _ e=>.inr e).then hx21d λ_ _ e=>e.elim;have hb821:=hcc.at hq8 (pmlt (by omega));have hb321:=hcc.at hb318 (pmlt (by omega));have hb421:=hcc.at hb418 (pmlt (by omega));have hb621:=hcc.at hb618 (pmlt (by omega));refine eC (off:=3) hb821 rfl ?_;refine arg 1 (by omega) hE21d.ext hb321 ?_;have hrb:∀q,rv.ownBlock=some q->w16.heap.size<=q/\q<w18.heap.size:=λq e=>hR.inb e;have hpmR:∀q,PM p m q->rv.ownBlock≠some q:=λq e e2=>pmlt (by have:=(hrb q e2).1;omega) e;have hcWW:Chg (PM p m) w w21.drew:=hcW.trans hcc;have hNx:fQ (λq=>((G q/\q≠b4)/\q≠b8)/\rv.ownBlock≠some q) w21.drew (Cn lki e.t (.agg xs.toArray)) (env.set e.t x):=by
    have h1:fQ (λq=>G q/\q<w.heap.size) w21.drew look env:=hNn.chg hcWW λk hk _=>xK hp hm hk.1;have h2:fQ (λq=>((G q/\q≠b4)/\q≠b8)/\rv.ownBlock≠some q) w21.drew look env:=h1.mono λq _ hq=>⟨⟨⟨hq.1,by have:=hq.2;omega⟩,by have:=hq.2;omega⟩,λe=>by have:=(hrb q e).1;have:=hq.2;omega⟩;have h3:cL (λq=>((G q/\q≠b4)/\q≠b8)/\rv.ownBlock≠some q) w21.drew x xs:=(cL.chg hcc (λk hk _=>xK hp hm hk.1.1) hxs).mono λq _ hq=>⟨⟨hq.1,by have:=hq.2;omega⟩,λe=>by have:=(hrb q e).1;have:=hq.2;omega⟩;refine(h2.set h3 (pU hgx).few).congr λs=>?_;unfold Cn;by_cases es:s=e.t
    ·rw[aI es,aI es]
    ·rw[aE es,aE es,hlki s es]
   have sz21:=hcc.size;refine hV _ (memA 1 (by omega)) hE21d hNx (λe=>hp e.1.1.1) (λe=>hm e.1.1.1) (λq hq=>⟨⟨⟨hG q (by omega),by omega⟩,by omega⟩,λe=>by have:=(hrb q e).2;omega⟩) hl' ?_;cases hr2:pO f.ex (lY e 1) (env.set e.t x) l' with
   |err c' a'=>
    rw[hr2]at hat;have hK2:LU w0 c' a':=by
     rw[hat]at hK;exact hK
    exact hK2
   |ok y l2=>
    rw[hr2]at hat;intro ys w22 hc22 hE22 h22 hg22 hl22;have hc1822:=hcc.trans hc22;have hb822:=hc22.at hb821 (pmlt (by omega));refine⟨eC (off:=3) hb822 rfl rfl,?_⟩;refine Cl h22.rep.len λt30 w23 ht23 hx23=>?_;have hb823:=hx23.at hb822 id;refine⟨eC (off:=3) hb823 rfl rfl,?_⟩;have hc1823:=hc1822.then hx23 λ_ _ e=>e.elim;have s23:=hc1823.size;have hR23:qH (λq=>(G q/\q≠b4)/\q≠b8) w23 w16.heap.size rv rs:=hR.chg hc1823 (λk hk _=>xK hp hm hk.1.1) λk hk _=>pmlt (by omega);refine hR23.app ht23 (h22.ext' hx23) (by omega) (by omega) λrv' w24 hR24 hc24=>?_;have s24:=hc24.size;have hrb23:∀q,rv.ownBlock=some q->w16.heap.size<=q:=λq e=>(hrb q e).1;rw[bS];refine jD (off:=3) (hc24.at hb823 λe=>by have:=hrb23 b8 e;omega) hR24.one (by simp) λw25 hz25 hb25 hc25=>?_;rw[cG,up1 (by omega)];have hc1825:Chg (λq=>PM p m q\/w16.heap.size<=q\/q=b8) w18 w25:=((hc1823.mono (T:=λq=>PM p m q\/w16.heap.size<=q\/q=b8) λk _ e=>.inl e).then hc24 λk _ e=>.inr (.inl (hrb23 k e))).then hc25 λk _ e=>.inr (.inr e);refine⟨⟨i+1,rv',rs++[y],l2,Cn lki e.t (.agg xs.toArray),rfl,hlt2,by simp[hrl],hc18.trans hc1825,?_,?_,hl22,?_,?_,?_⟩,by simp only[aW];omega⟩
    ·exact((hE22.next hx23).mv hc24 λk _ e=>by have:=hrb23 k e;exact⟨by omega,by omega,by omega⟩).mv hc25 λk _ e=>by have e:k=b8:=e;exact⟨by omega,by omega,by omega⟩
    ·intro s hs;unfold Cn;rw[aE hs,hlki s hs]
    ·rw[hb25];simp
    ·exact hR24.chg hc25 (λq hq _ e=>hq.2 e) λq hq _ e=>by have e:q=b8:=e;omega
    ·rw[hat];simp only[EvR.bind];cases wR (pO f.ex) env e.t (lY e 1) (c.xs.drop (i+1)) l2<;>simp
  ·obtain rfl:i=c.xs.length:=by omega
   rw[dW]at hat;have hat:wR (pO f.ex) env e.t (lY e 1) c.xs l=.ok rs l':=by rw[hat];simp[wR,EvR.bind]
   rw[hat]at hK;have hK:EvB w0 w p m f M look G (.ok (lV rs) l') K:=hK;have hx18d:=hxd w18;have hE18d:=hE18.next hx18d;have sd18:w18.drew.heap.size=w18.heap.size:=rfl;refine bT.cut (λst w'=>Chg (PM p m) w18 w'/\Ev w0 w' p m f M look l') ?_ ?_
   ·rw[dR];refine eC (off:=3) hE18d.pp rfl ?_;refine eC (off:=1) (hx18d.at hb318 id) rfl ?_;refine ZS hE18d λw27 hE27 hc27 hz27=>?_;have hc1827:Chg (PM p m) w18 w27:=(Chg.of_ext hx18d).then hc27 λk _ e=>.inr e;rw[bR];refine⟨λhth=>?_,λhth=>⟨hc1827,hE27.congr λs=>?_⟩⟩
    ·rw[dR];have hx27d:=hxd w27;have hE27d:=hE27.next hx27d;have hc1827d:=hc1827.then hx27d λ_ _ e=>e.elim;refine eC (off:=3) hE27d.pp rfl ?_;refine eC (off:=1) (hc1827d.at hb318 (pmlt (by omega))) rfl ?_;refine bX (hc1827d.at hb618 (pmlt (by omega))) hwo.1 ?_;refine Lc hE27d λw28 hE28 hc28 hz28=>⟨hc1827d.then hc28 λk _ e=>.inr e,hE28.congr λs=>?_⟩;unfold Cn;by_cases es:s=e.t
     ·rw[aI es,es,hwz,aI hth,hwl]
     ·rw[aE es];show(if s=e.t then none else lki s)=_;rw[aE es,hlki s es]
    ·show(if s=e.t then none else lki s)=_;by_cases es:s=e.t
     ·rw[aI es,es,hwz,aE (by rw[hth];simp)]
     ·rw[aE es,hlki s es]
   rintro st g4 w29 ⟨hc29,hE29⟩;have hb829:=hc29.at hq8 (pmlt (by omega));have hb429:=hc29.at hb418 (pmlt (by omega));refine bX hb829 rfl ?_;have hR29:qH (λq=>(G q/\q≠b4)/\q≠b8) w29 w16.heap.size rv rs:=hR.chg hc29 (λk hk _=>xK hp hm hk.1.1) λk hk _=>pmlt (by omega);have hnew:∀q,w16.heap.size<=q->(G q/\q≠b4)/\q≠b8:=λq hq=>⟨⟨hG q (by omega),by omega⟩,by omega⟩;have hI29:jL (λq=>G q/\q≠b4) w29 rv rs:=(hR29.items hnew (by omega)).mono λq _ hq=>hq.1;exact fin (hcW.trans hc29) hE29 hb429 hI29.list hl' (hK.ok rfl)
end
structure Km[HX](ex:List Ex):Prop where
 ok:kJ ex
 sh:∀e∈ex,aBK e
 call:∀e∈ex,e.k=12->tT e.t e.args.length
 obj:∀e∈ex,e.k=8->ObC
 cnd:∀e∈ex,e.k=28->Ko
theorem Ng{ex:List Ex}(h:kJ ex){env:Env}{left l:Nat}{v:JV}(hr:pO ex i env left=.ok v l):dX v=true:=by
 have hr:tW ex (i+1) i env left=.ok v l:=hr;rw[tW]at hr;cases he:ex[i]? with
 |none=>rw[he]at hr;cases hr
 |some e=>
  rw[he]at hr;simp only[xE]at hr;split at hr
  ·cases hr
  ·cases hb:sM (tW ex i) ex e env (left-1)with
   |err c a=>rw[hb]at hr;cases hr
   |ok u q=>
    rw[hb]at hr;simp only[EvR.bind]at hr;split at hr
    ·rename_i hg;cases hr;exact hg
    ·cases hr
section
variable [HX]
theorem RE{f:Fl}{M:Lay}{p m:Nat}{w0:World}(hT:wP w0)(hX:Km f.ex)(hfew:f.ex.length<=1000000):∀(i:Nat),i<f.ex.length->Rr w0 p m f M i:=by
 intro i;induction i using Nat.strongRecOn with
 |ind i ih=>
 intro hi env look left G w K hE hN hp hm hG hl hK;obtain⟨e,he⟩:∃e,f.ex[i]?=some e:=⟨_,List.getElem?_eq_getElem hi⟩;have hmem:=bI he;have ho:=hX.sh e hmem;have hahead:=hX.ok.ahead i e he;have hV:∀a∈e.args,Rr w0 p m f M a:=λa ha=>ih a (hahead a ha) (by have:=hahead a ha;omega);have hin:∀a∈e.args,a<f.ex.length:=λa ha=>by have:=hahead a ha;omega
 have hstep:pO f.ex i env left=xE (pO f.ex) f.ex e env left:=yG hX.ok he (by omega) env left;rw[hstep]at hK;refine aBn ?_;unfold W35;refine bE λb4 w1 hb4 hz1 hbb4 hx1=>?_;have hE1:=hE.next hx1;have hlt:=hE.lt;have h0:=hE.ext.size;rw[dR,bS];refine eC (off:=0) hE1.pp rfl ?_;refine hE.fv.get hE1.ext he λec hec=>?_;obtain⟨va,vk,rfl,hva,hvk⟩:=hec.it;refine bE λb5 w2 hb5 hz2 hbb5 hx2=>?_;refine cA (l:=[i64 e.k,str e.t,va,vk,i64 e.a]) hbb5 rfl rfl (by
  show(true&&(true&&(gC va&&(gC vk&&(true&&true)))))=true;rw[uP hva,uP hvk];rfl) λw3 hz3 hbb53 hc3=>?_
 have hx13:Ext w1 w3:=hx2.new hc3 (by omega);have hx3:=hx1.trans hx13;have hE3:=hE1.next hx13;have hb43:=hx13.at hbb4 id;have pmlt:∀{q:Nat},w.heap.size<=q->¬PM p m q:=λ{q} h e=>by rcases e with e|e<;>omega
 unfold xE at hK;refine bT.cut (λst w'=>w'=w3/\left≠0) ?_ ?_
 ·rw[dR];refine eC (off:=4) hE3.pp rfl ?_;rw[bM,aO];refine⟨λh=>?_,λh=>⟨rfl,by omega⟩⟩;rw[aI (by omega)]at hK;refine eC (off:=4) hbb53 rfl ?_;exact kM hE3.ext hK
 rintro st g w6 ⟨rfl,hl0⟩;rw[aE hl0]at hK;rw[dR];refine eC (off:=4) hE3.pp rfl ?_;rw[nN,cQ (by omega) (by omega),show((left:Int)-1)=((left-1:Nat):Int)by omega,dR,bS];refine jD (off:=4) hE3.pp rfl (by simp) λw7 hz7 hb7 hc7=>?_;have hE7:Ev w0 w7 p m f M look (left-1):=⟨hE3.ext.then hc7 λk hk e=>by have e:k=p:=e;have:=hE.hp;omega,by rw[hb7];simp,hE3.mm.at_ hc7 (λe=>hE.ne e.symm),hE.fv,hE.hp,hE.hm,hE.ne⟩;have hb47:=hc7.at hb43 (λe=>by have e:b4=p:=e;omega);have hb57:=hc7.at hbb53 (λe=>by have e:b5=p:=e;omega);refine bE λb6 w8 hb6 hz8 hbb6 hx8=>?_;have hE8:=hE7.next hx8;have hb48:=hx8.at hb47 id;have hb58:=hx8.at hb57 id;have hc8:Chg (PM p m) w w8:=((Chg.of_ext hx3).then hc7 λk _ e=>.inl e).then hx8 λ_ _ e=>e.elim;have s3:=hx3.size;have s8:=hc8.size;have l5:=fC hbb53;have l6:=fC hbb6;have hN8:fQ (λq=>(G q/\q≠b4)/\q≠b6) w8 look env:=(hN.mono (G':=λq=>(G q/\q≠b4)/\q≠b6) λq hlt hq=>⟨⟨hq,by omega⟩,by omega⟩).chg hc8 λk hk _=>xK hp hm hk.1.1;have hp8:¬((G p/\p≠b4)/\p≠b6):=λe=>hp e.1.1;have hm8:¬((G m/\m≠b4)/\m≠b6):=λe=>hm e.1.1;have hG8:∀q,w8.heap.size<=q->(G q/\q≠b4)/\q≠b6:=λq hq=>⟨⟨hG q (by omega),by omega⟩,by omega⟩;generalize hB:sM (pO f.ex) f.ex e env (left-1)=B at hK;refine bT.cut (λst w'=>∃v l cs,B=.ok v l/\l<=20000/\Chg (PM p m) w w'/\Ev w0 w' p m f M look l/\w'.heap[b6]?=some (.cells cs.toArray VT (0,0))/\cs.length=5/\cL (λq=>G q/\q≠b4) w' v cs/\w'.heap[b4]?=some (.cells zr5.toArray VT (0,0))/\w'.heap[b5]?=some (.cells [i64 e.k,str e.t,va,vk,i64 e.a].toArray 93 (0,0))) ?_ ?_
 ·have fin:∀{v:JV} {l:Nat} {cs:List Value} {w9:World} {J:World->Prop},B=.ok v l->l<=20000->Chg (PM p m) w8 w9->Ev w0 w9 p m f M look l->cL (λq=>(G q/\q≠b4)/\q≠b6) w9 v cs->
    (∀w',(∃v l cs,B=.ok v l/\l<=20000/\Chg (PM p m) w w'/\Ev w0 w' p m f M look l/\w'.heap[b6]?=some (.cells cs.toArray VT (0,0))/\cs.length=5/\cL (λq=>G q/\q≠b4) w' v cs/\w'.heap[b4]?=some (.cells zr5.toArray VT (0,0))/\w'.heap[b5]?=some (.cells [i64 e.k,str e.t,va,vk,i64 e.a].toArray 93 (0,0)))->J w')->
    stW 5 (.pointer (some ⟨b6,0,none⟩)) (.agg cs.toArray) w9 J:=λ{v l cs w9 J} hb hl9 hc9 hE9 hr9 hJ=>by
   have hb69:=hc9.at hbb6 (pmlt (by omega));refine cA hb69 hr9.rep.len rfl hr9.rep.all_one λw10 hz10 hb610 hc10=>?_;refine hJ w10 ⟨v,l,cs,hb,hl9,(hc8.trans hc9).then hc10 (λk hk e=>by have e:k=b6:=e;omega),hE9.mv hc10 (λk _ e=>by have e:k=b6:=e;exact⟨by omega,by omega,by omega⟩),hb610,hr9.rep.len,?_,?_,?_⟩
   ·exact(cL.chg hc10 (λq hq _ e=>hq.2 e) hr9).mono λq _ hq=>hq.1
   ·exact hc10.at (hc9.at hb48 (pmlt (by omega))) λe=>by have e:b4=b6:=e;omega
   ·exact hc10.at (hc9.at hb58 (pmlt (by omega))) λe=>by have e:b5=b6:=e;omega
  refine eC (off:=0) hb58 rfl ?_;unfold sM at hB;rw[bM,aO];refine⟨λe28=>?_,λe28=>?_⟩
  ·refine bX hb58 rfl ?_;rw[aI e28]at hB;refine(hX.cnd e hmem e28) ⟨⟨va,vk,rfl,hva,hvk⟩⟩ hE8 hN8 (ho.a3 e28) hV hp8 hm8 hG8 (by omega) ?_;rw[hB];cases B with
   |err c a=>exact hK
   |ok v l=>
    intro cs w9 hc9 hE9 hr9 hl9;exact fin rfl hl9 hc9 hE9 hr9 λw' h=>h
  rw[aE e28]at hB;rw[bM,aO];refine⟨λe29=>?_,λe29=>?_⟩
  ·refine bX hb58 rfl ?_;rw[aI e29]at hB;refine ZV ⟨⟨va,vk,rfl,hva,hvk⟩⟩ hE8 hN8 (ho.a2 (.inr (.inl e29))) hV hp8 hm8 hG8 (by omega) ?_ (λa env l v l' h=>Ng hX.ok h);rw[hB];cases B with
   |err c a=>exact hK
   |ok v l=>
    intro cs w9 hc9 hE9 hr9 hl9;exact fin rfl hl9 hc9 hE9 hr9 λw' h=>h
  rw[aE e29]at hB;refine eC (off:=2) hb58 rfl ?_;rw[gH (hva.ext hE8.ext)];refine cZ.go (λst w'=>∃(i:Nat) (rv:Value) (rs:List JV) (l':Nat),st=[rv,i64 (i:Nat)]/\i<=e.args.length/\rs.length=i/\(∀x∈rs,dX x=true)/\Chg (λq=>PM p m q\/w8.heap.size<=q) w8 w'/\Ev w0 w' p m f M look l'/\l'<=20000/\qH (λq=>(G q/\q≠b4)/\q≠b6) w' w8.heap.size rv rs/\
    pH (pO f.ex) env e.args (left-1)=(pH (pO f.ex) env (e.args.drop i) l').bind λys l2=>.ok (rs++ys) l2)
   (λst _=>match st with|[_,.int _ i]=>e.args.length-i.toNat|_=>0)
   ⟨0,.slice none 0 0,[],left-1,rfl,gQ _,rfl,λx hx=>by simp at hx,Chg.refl _ _,hE8,by omega,qH.nil _ _ _,by rw[cX];cases pH (pO f.ex) env e.args (left-1)<;>rfl⟩ ?_
  rintro st g2 w15 ⟨j,rv,rs,l',rfl,hj,hrl,hrg,hc15,hE15,hl15,hR,hat⟩;simp only[aG,dC];have s15:=hc15.size;have hcP:Chg (PM p m) w8 w15:=hc15.mono λk hk e=>by rcases e with e|e;exact e;omega
  rw[eG,aO];refine⟨λhlt2=>?_,λhge=>?_⟩
  ·have hlt2:j<e.args.length:=by omega
   obtain⟨a,ha⟩:∃a,e.args[j]?=some a:=⟨_,List.getElem?_eq_getElem hlt2⟩;have hdr:e.args.drop j=a::e.args.drop (j+1):=by rw[cC hlt2];congr 1;exact(List.getElem?_eq_some_iff.1 ha).2
   rw[hdr]at hat;simp only[pH]at hat;refine qN (hva.ext hE15.ext) (by simp[ints]) (x:=i64 (a:Nat)) (by simp[ints,ha]) ?_;have hrb:∀q,rv.ownBlock=some q->w8.heap.size<=q/\q<w15.heap.size:=λq e=>hR.inb e;have hN15:fQ (λq=>((G q/\q≠b4)/\q≠b6)/\rv.ownBlock≠some q) w15 look env:=
    ((hN8.mono (G':=λq=>((G q/\q≠b4)/\q≠b6)/\q<w8.heap.size) λq hlt hq=>⟨hq,hlt⟩).chg hcP λk hk _=>xK hp hm hk.1.1.1).mono λq _ hq=>⟨hq.1,λe=>by have:=(hrb q e).1;have:=hq.2;omega⟩
   refine hV a (bI ha) hE15 hN15 (λe=>hp e.1.1.1) (λe=>hm e.1.1.1) (λq hq=>⟨hG8 q (by omega),λe=>by have:=(hrb q e).2;omega⟩) hl15 ?_;cases hr2:pO f.ex a env l' with
   |err c' a'=>
    rw[hr2]at hat;simp only[EvR.bind]at hat;rw[hat]at hB;rw[<-hB]at hK;exact hK
   |ok y l2=>
    rw[hr2]at hat;intro ys w16 hc16 hE16 h16 hg16 hl16;refine Cl h16.rep.len λt46 w17 ht17 hx17=>?_;have hc1517:=hc16.then hx17 λ_ _ e=>e.elim;have s17:=hc1517.size;have hR17:qH (λq=>(G q/\q≠b4)/\q≠b6) w17 w8.heap.size rv rs:=hR.chg hc1517 (λk hk _=>xK hp hm hk.1.1) λk hk _=>pmlt (by omega);have hal:=ho.al;refine hR17.app ht17 (h16.ext' hx17) (by omega) (by omega) λrv' w18 hR18 hc18=>?_;rw[cG,up1 (by omega)];refine⟨⟨j+1,rv',rs++[y],l2,rfl,hlt2,by simp[hrl],?_,?_,?_,hl16,hR18,?_⟩,by simp only[aW];omega⟩
    ·intro x hx;rcases dP.1 hx with h|h
     ·exact hrg x h
     ·rw[bQ]at h;rw[h];exact hg16
    ·exact hc15.trans ((hc1517.mono λk _ e=>.inl e).then hc18 λk _ e=>.inr (hrb k e).1)
    ·exact(hE16.next hx17).mv hc18 λk _ e=>by have:=(hrb k e).1;exact⟨by omega,by omega,by omega⟩
    ·rw[hat];simp only[EvR.bind];cases pH (pO f.ex) env (e.args.drop (j+1)) l2<;>simp
  ·obtain rfl:j=e.args.length:=by omega
   rw[dW]at hat;have hat:pH (pO f.ex) env e.args (left-1)=.ok rs l':=by rw[hat];simp[pH,EvR.bind]
   rw[hat]at hB;simp only[EvR.bind]at hB;have hb515:=hcP.at hb58 (pmlt (by omega));refine bX hb515 rfl ?_;have hal:=ho.al;have hN15:fQ (λq=>(G q/\q≠b4)/\q≠b6) w15 look env:=hN8.chg hcP λk hk _=>xK hp hm hk.1.1;refine ZU (G:=λq=>(G q/\q≠b4)/\q≠b6) (hT.ext hE15.ext) ⟨⟨va,vk,rfl,hva,hvk⟩⟩ hE15 hN15 (hR.items hG8 (by omega)) hrg ho hrl hin e28 e29 (hX.call e hmem) (hX.obj e hmem) (λq hq=>hG8 q (by omega)) ?_;cases hr:kH f.ex e env rs with
   |err c a=>rw[hr]at hB;rw[<-hB]at hK;exact hK
   |ok v=>
    rw[hr]at hB;intro cs w19 hx19 h19;exact fin hB.symm hl15 (hcP.then hx19 λ_ _ e=>e.elim) (hE15.next hx19) h19 λw' h=>h
 rintro st g w21 ⟨v,l,cs,hb,hl21,hc21,hE21,hb621,hlen,hr21,hb421,hb521⟩;rw[hb]at hK;simp only[EvR.bind]at hK;refine bT.cut (λst w'=>Ext w21 w'/\dX v=true) ?_ ?_
 ·refine bX hb621 hlen ?_;refine GT hr21.rep λw23 hx23=>?_;rw[eP,bR];refine⟨λh=>?_,λh=>⟨hx23,by simpa using h⟩⟩;have h:dX v=false:=by simpa using h
  rw[aE (by rw[h];simp)]at hK;refine eC (off:=4) (hx23.at hb521 id) rfl ?_;exact kM (hE21.next hx23).ext hK
 rintro st g2 w25 ⟨hx25,hgv⟩;rw[aI hgv]at hK;refine bX (hx25.at hb621 id) hlen ?_;refine Pv (hx25.at hb421 id) rfl (hr21.ext' hx25) λw27 hc27 h27=>?_;refine hK cs w27 ((hc21.then hx25 λ_ _ e=>e.elim).then hc27 λk hk e=>by have e:k=b4:=e;omega) ((hE21.next hx25).mv hc27 λk _ e=>by have e:k=b4:=e;exact⟨by omega,by omega,by omega⟩) h27 hgv hl21
end
abbrev aEl:TypeId:=53
theorem FF{w:World}:∀{xs:List JV} {L:List Value},(∀x∈xs,∀cs,eR w x cs->cL (λ_=>True) w x cs)->eO w xs L->dJ (λ_=>True) w xs L
 |[],L,_,h=>by simpa only[eO,dJ]using h
 |x::xs,L,hx,h=>by
  simp only[eO,dJ]at h⊢
  obtain⟨c,r,rfl,h1,h2⟩:=h
  exact⟨c,r,rfl,hx x bC c h1,FF (λy hy=>hx y (aS _ hy)) h2⟩
theorem Sj(v:JV):∀cs,eR w v cs->cL (λ_=>True) w v cs:=by
 induction v using JV.ind' with
 |h v ih=>
  intro cs h;obtain⟨sv,kv,T1,T2,L,rfl,h1,h2,h3,h4⟩:=h.out;exact cL.mk h1 (FF ih h2) h3 h4 (λ_ _ _=>trivial) λ_ _ _=>trivial
theorem JC{k:Str}{x:JV}:∀(ks:List Str) (xs:List JV),ks.length=xs.length->∀s,qD (ks++[k]) (xs++[x]) s=((qD ks xs).set k x) s
 |[],[],_,s=>by simp[qD,Env.set]
 |a::ks,y::xs,h,s=>by
  have ih:=JC (k:=k) (x:=x) ks xs (by simpa using h) s
  show(match qD (ks++[k]) (xs++[x]) s with|some v=>some v|none=>if s=a then some y else none)=_
  rw[ih]
  unfold Env.set
  by_cases e:s=k
  ·rw[aI e,aI e]
  ·rw[aE e,aE e];rfl
 |[],y::xs,h,_=>by simp at h
 |a::ks,[],h,_=>by simp at h
theorem Kd(v:Value)(w:World):(Instr.typeAssert (.iface 33 v) 20 33 false).run P0 w=.ok v w:=by kernel_rfl
theorem NL(w:World)(K:Value->Prop):eqQ P0 .neq 20 false true .nilIface .nilIface w K↔K (.bool false):=by
 have h:(do eqGuard .neq 20 (qS false) (qS true) .nilIface .nilIface;binOp .neq 20 .nilIface .nilIface:Sem Value).run P0 w=.ok (.bool false) w:=by kernel_rfl
 unfold eqQ nC;rw[h];exact⟨λ⟨v,h1,h2⟩=>by cases h1;exact h2,λh2=>⟨_,rfl,h2⟩⟩
theorem IT(v:Value)(w:World)(K:Value->Prop):eqQ P0 .neq 20 false true (.iface 33 v) .nilIface w K↔K (.bool true):=by
 have h:(do eqGuard .neq 20 (qS false) (qS true) (.iface 33 v) .nilIface;binOp .neq 20 (.iface 33 v) .nilIface:Sem Value).run P0 w=.ok (.bool true) w:=by kernel_rfl
 unfold eqQ nC;rw[h];exact⟨λ⟨v,h1,h2⟩=>by cases h1;exact h2,λh2=>⟨_,rfl,h2⟩⟩
theorem Oi{a b:Value}{K:World->Prop}(hK:K w):wW P0 34 [a,b] .returning w K:=by
 letI:=noX;refine Rt .idle ?_;unfold R34;rw[NL,dD];exact hK
theorem JB{a b d:Nat}{Ta Tb:TypeId}{K:World->Prop}(ha:w.heap[a]?=some (.cells cs.toArray Ta (0,0)))(hl:cs.length=5)(hb:w.heap[b]?=some (.cells [v].toArray Tb (0,0)))(hab:a≠b)
  (hK:∀w',Chg (λk=>k=a\/k=b) w w'->w'.heap[a]?=some (.cells zr5.toArray Ta (0,0))->w'.heap[b]?=some (.cells [.pointer (some ⟨d,0,none⟩)].toArray Tb (0,0))->K w'):
  wW P0 34 [.pointer (some ⟨a,0,none⟩),.pointer (some ⟨b,0,none⟩)] (.panicking [{v:=.iface 33 (.pointer (some ⟨d,0,none⟩)),recovered:=false}]) w K:=by
 letI:=noX;refine Rt (.thrown _) ?_;unfold R34;rw[IT,eF,cV];refine⟨_,Kd _ _,?_⟩;refine cA (l:=zr5) (w:=w.drew) ha rfl hl rfl λw2 hz2 ha2 hc2=>?_;refine⟨⟨_,Kd _ _,rfl⟩,?_⟩;have hb2:=hc2.at (w:=w.drew) hb (λe=>hab e.symm);refine jD hb2 rfl (by simp) λw3 hz3 hb3 hc3=>?_;refine hK w3 ?_ (hc3.at ha2 hab) (by rw[hb3];simp);exact((Chg.drew (Chg.refl _ w)).trans (hc2.mono λk _ e=>.inl e)).trans (hc3.mono λk _ e=>.inr e)
theorem Mn{b:Nat}{K:Value->Prop}(hb:w.heap[b]?=some (.cells [v].toArray T (0,0)))(hK:K v):ldW false 1 (.pointer (some ⟨b,0,none⟩)) w K:=by
 rw[dY];exact⟨v,by rw[cJ,hb];rfl,hK⟩
def Bi(G:Nat->Prop)(w:World)(cs:List Value)(d:Value):MdR JV->Prop
 |.ok v=>cL G w v cs/\d=.pointer none/\dX v=true
 |.err c a=>cs=zr5/\∃b,d=.pointer (some ⟨b,0,none⟩)/\w.heap[b]?=some (.cells [i64 c,str [],i64 a].toArray aEl (0,0))
theorem Bi.ext{d:Value}{r:MdR JV}(h:Bi G w cs d r)(hx:Ext w w'):Bi G w' cs d r:=by
 cases r with
 |ok v=>exact⟨h.1.ext' hx,h.2⟩
 |err c a=>obtain⟨h1,b,h2,h3⟩:=h;exact⟨h1,b,h2,hx.at h3 id⟩
theorem Bi.put{c0:List Value}{d:Value}{r:MdR JV}{b:Nat}(h:Bi G w cs d r)(hc:Chg (λk=>k=b) w w')(hb:w.heap[b]?=some (.cells c0.toArray VT (0,0)))(hG:¬G b):Bi G w' cs d r:=by
 cases r with
 |ok v=>exact⟨cL.chg hc (λk hk _ e=>by have e:k=b:=e;subst e;exact hG hk) h.1,h.2⟩
 |err c a=>
  obtain⟨h1,b',h2,h3⟩:=h;refine⟨h1,b',h2,hc.at h3 λe=>?_⟩;have e:b'=b:=e;subst e;rw[hb]at h3;simp only[bD,Obj.cells.injEq]at h3;exact absurd h3.2.1 (by decide)
theorem Bi.mono{G':Nat->Prop}{d:Value}{r:MdR JV}(h:Bi G w cs d r)(hG:∀k,G k->G' k):Bi G' w cs d r:=by
 cases r with
 |ok v=>exact⟨h.1.mono λk _ hk=>hG k hk,h.2⟩
 |err c a=>exact h
theorem Bi.lens{d:Value}{r:MdR JV}(h:Bi G w cs d r):cs.length=5/\cs.all gC=true:=by
 cases r with
 |ok v=>exact⟨h.1.rep.len,h.1.rep.all_one⟩
 |err c a=>rw[h.1];exact⟨rfl,rfl⟩
section
variable [HX]
theorem QL{f:Fl}{M:Lay}{v:JV}{K:Q0}(hT:wP w)(hF:FV w M f)(hX:∀[HX],Km f.ex)(hfew:f.ex.length<=1000000)(hi:i<f.ex.length)(hvP:cL G w v cs)(hG:∀q,w.heap.size<=q->G q)(hkx:v.ks.length=v.xs.length)(hfx:∀x∈v.xs,zL x=true)
  (hK:∀cs' d w',Ext w w'->Bi G w' cs' d (zZ f i v)->K (.tuple #[.agg cs'.toArray,d]) w'):aC P0 14 [.agg [M.vE,M.vB,M.vT].toArray,i64 (i:Nat),.agg cs.toArray] w K:=by
 refine aBC ?_;unfold W14;refine fU (z:=[M.vE,M.vB,M.vT]) λb3 w1 hb3 hz1 hbb3 hx1=>?_;have hv:=hvP.rep;obtain⟨sv,kv,T1,T2,L,rfl,hs1,hs2,hs3,hs4⟩:=hv.out;obtain⟨ft1,ft2,ft3,ft4⟩:=hs4;refine fU (z:=[i64 v.k,.bool v.b,str v.t,sv,kv]) λb5 w2 hb5 hz2 hbb5 hx2=>?_;refine bE λb6 w3 hb6 hz3 hbb6 hx3=>?_;refine bE λb7 w4 hb7 hz4 hbb7 hx4=>?_;have hx04:=hx1.trans (hx2.trans (hx3.trans hx4));have hb34:=(hx2.trans (hx3.trans hx4)).at hbb3 id;have hb54:=(hx3.trans hx4).at hbb5 id;have hb64:=hx4.at hbb6 id;have s04:=hx04.size;letI inst:HX:=⟨λch x5=>wW P0 34 [.pointer (some ⟨b6,0,none⟩),.pointer (some ⟨b7,0,none⟩)] (.panicking ch) x5 λw5=>
  ldW true 5 (.pointer (some ⟨b6,0,none⟩)) w5 λr6=>
  ldW false 1 (.pointer (some ⟨b7,0,none⟩)) w5 λr7=>
  K (.tuple #[r6,r7]) w5⟩
 have hThr:∀c a,zZ f i v=.err c a->LU w4 c a:=λc a hr d w' hx hd hdb=>by
  refine JB (hx.at hb64 id) rfl (hx.at hbb7 id) (by omega) λw5 hc5 ha5 hb5'=>?_;refine bX ha5 rfl ?_;refine Mn hb5' ?_;have sx:=hx.size;refine hK zr5 _ w5 ((hx04.trans hx).then hc5 λk hk e=>by omega) ?_;rw[hr];exact⟨rfl,d,rfl,hc5.at hdb (by have:w4.heap.size<=d:=hd;omega)⟩
 refine bX hb34 rfl ?_;refine IY (KT:=ST) (ET:=VT) (by kernel_rfl) (.inl rfl) λm w8 hm8 hz8 hmb hx8=>?_;obtain⟨pE,cE,eE,_⟩:=hF.oE.shape;obtain⟨pB,cB,eB,_⟩:=hF.oB.shape;obtain⟨pT,cT,eT,_⟩:=hF.oT.shape;have hput:∀{K:List Value->Prop},K [M.vE,M.vB,M.vT,.map (some m),i64 20000]->dE [(.slice none 0 0),(.slice none 0 0),(.slice none 0 0),(.map none),(.int .i64 0)] [(0,3,.agg [M.vE,M.vB,M.vT].toArray),(3,1,.map (some m)),(4,1,(.int .i64 20000))] K:=λ{K} h=>by
  refine⟨by simp[Value.cells],by simp,?_⟩;refine⟨by simp[Value.cells],by simp[Value.cells],?_⟩;refine⟨by simp[Value.cells],by simp[Value.cells],?_⟩;simpa[Value.cells,cV]using h
 refine hput ?_;refine fU (z:=[M.vE,M.vB,M.vT,.map (some m),i64 20000]) λp w10 hp hz10 hpp hx10=>?_;have hx410:=hx8.trans hx10;have hx010:=hx04.trans hx410;have hE10:Ev w4 w10 p m f M (λ_=>none) 20000:=⟨hx410,hpp,(Qj hmb).at_ hx10 id,hF.ext hx04,by have:=hx8.size;omega,by omega,by omega⟩;have hb510:=hx410.at hb54 id;refine eC (off:=4) hb510 rfl ?_;rw[gH hs3];have hvG:cL (λq=>G q/\q<w.heap.size) w v [i64 v.k,.bool v.b,str v.t,sv,kv]:=hvP.mono λq hlt hq=>⟨hq,hlt⟩;have hI:jL (λq=>G q/\q<w.heap.size) w sv v.xs:=hvG.its;have hmp:w.heap.size<=m/\w.heap.size<=p:=by have:=hx8.size;exact⟨by omega,by omega⟩
 refine cZ.go (λst w'=>∃(j:Nat) (look:Str->Option Value),st=[i64 (j:Nat)]/\j<=v.ks.length/\Ext w w'/\Ev w4 w' p m f M look 20000/\fQ (λq=>G q/\q<w.heap.size) w' look (qD (v.ks.take j) (v.xs.take j))/\Ext w4 w')
  (λst _=>match st with|[.int _ j]=>v.ks.length-j.toNat|_=>0)
  ⟨0,λ_=>none,rfl,gQ _,hx010,hE10,λs=>by simp[qD],hx410⟩ ?_
 rintro st g w12 ⟨j,look,rfl,hj,hx12,hE12,hN12,hx412⟩;simp only[aG];rw[eG,aO];refine⟨λhlt=>?_,λhge=>?_⟩
 ·have hlt:j<v.ks.length:=by omega
  obtain⟨k,hk⟩:∃k,v.ks[j]?=some k:=⟨_,List.getElem?_eq_getElem hlt⟩;obtain⟨x,hxj⟩:∃x,v.xs[j]?=some x:=⟨_,List.getElem?_eq_getElem (by omega)⟩;refine nL (hs3.ext hx12) hk ?_;have hxd:Ext w12 w12.drew:=Chg.drew (Chg.refl (λ_=>False) w12);have hEd:=hE12.next hxd;have hb5d:=(hx412.trans hxd).at hb54 id;rw[dR];refine eC (off:=3) hEd.pp rfl ?_;refine eC (off:=3) hb5d rfl ?_;refine(hI.ext (hx12.trans hxd)).get hxj λxs hxs=>?_;refine Lc hEd λw13 hE13 hc13 hz13=>?_;rw[cG,up1 (by omega)];have hc1213:Chg (λq=>q=m) w12 w13:=(Chg.of_ext hxd).trans hc13;refine⟨⟨j+1,_,rfl,hlt,hx12.then hc1213 λq hq e=>by have e:q=m:=e;omega,hE13,?_,hx412.then hc1213 λq hq e=>by have e:q=m:=e;omega⟩,by simp only[aW];omega⟩;have hN13:fQ (λq=>G q/\q<w.heap.size) w13 look (qD (v.ks.take j) (v.xs.take j)):=hN12.chg hc1213 λq hq _ e=>by have e:q=m:=e;have:=hq.2;omega
  have hx13:cL (λq=>G q/\q<w.heap.size) w13 x xs:=cL.chg hc13 (λq hq _ e=>by have e:q=m:=e;have:=hq.2;omega) hxs;have h2:=hN13.set (t:=k) hx13 (hfx x (bI hxj));have e1:v.ks.take (j+1)=v.ks.take j++[k]:=by rw[dU,hk];rfl
  have e2:v.xs.take (j+1)=v.xs.take j++[x]:=by rw[dU,hxj];rfl
  intro s;have h3:=h2 s;rw[e1,e2,JC _ _ (by rw[cH,cH];omega)];exact h3
 ·obtain rfl:j=v.ks.length:=by omega
  rw[bO,hkx,bO]at hN12;have hlt:=hE12.lt;have b67:w4.heap.size=b7+1:=by omega
  refine RE (hT.ext hx04) hX hfew i hi hE12 (G:=λq=>G q/\q≠p/\q≠m/\q≠b6/\q≠b7) (hN12.mono λq _ hq=>⟨hq.1,by have:=hq.2;omega,by have:=hq.2;omega,by have:=hq.2;omega,by have:=hq.2;omega⟩) (λe=>e.2.1 rfl) (λe=>e.2.2.1 rfl) (λq hq=>by have:=hx412.size;exact⟨hG q (by omega),by omega,by omega,by omega,by omega⟩) (aU _) ?_;have hev:zZ f i v=match pO f.ex i (qD v.ks v.xs) 20000 with|.ok v _=>.ok v|.err c a=>.err c a:=rfl
  cases hr:pO f.ex i (qD v.ks v.xs) 20000 with
  |err c a=>rw[hr]at hev;exact hThr c a hev
  |ok u l=>
   rw[hr]at hev;intro us w14 hc14 hE14 hu hgu hl14;have sp:∀{b:Nat},b<w4.heap.size->¬PM p m b:=λ{b} h e=>by have:=hE12.hp;have:=hE12.hm;rcases e with e|e<;>omega
   have hb614:=hc14.at (hx412.at hb64 id) (sp (by omega));have hb714:=hc14.at (hx412.at hbb7 id) (sp (by omega));refine cA hb614 hu.rep.len rfl hu.rep.all_one λw15 hz15 hb615 hc15=>?_;have hb715:=hc15.at hb714 λe=>by have e:b7=b6:=e;omega
   refine jD hb715 rfl (by simp) λw16 hz16 hb716 hc16=>?_;have hb616:=hc16.at hb615 λe=>by have e:b6=b7:=e;omega
   refine Oi ?_;refine bX hb616 hu.rep.len ?_;refine Mn (v:=.pointer none) (by rw[hb716];rfl) ?_;refine hK us _ w16 ?_ ?_
   ·refine((hx12.then hc14 λq hq e=>?_).then hc15 λq hq e=>?_).then hc16 λq hq e=>?_
    ·have:=hx04.size;have:=hE12.hp;have:=hE12.hm;rcases e with e|e<;>omega
    ·have e:q=b6:=e;omega
    ·have e:q=b7:=e;omega
   ·rw[hev];refine⟨?_,rfl,hgu⟩;exact(cL.chg hc16 (λq hq _ e=>hq.2.2.2.2 e) (cL.chg hc15 (λq hq _ e=>hq.2.2.2.1 e) hu)).mono λq _ hq=>hq.1
end
structure TabE(w:World):Prop where
 f:wP w
 i:yD w
theorem TabE.ext(h:TabE w)(hx:Ext w w'):TabE w':=by
 haveI:HX:=noX;refine⟨h.f.ext hx,?_⟩;obtain⟨m,hm⟩:=h.i;exact⟨m,zG hx hm⟩
theorem Sg{size off:Nat}{k:IntKind}{u:Value}{K:Value->Prop}(h:SlAt w T v n cs)(hl:cs.length=n*size)(hi:i<n)(ho:off<size)(hu:cs[i*size+off]?=some u)(hK:K u):dG none size v (.int k i) λp=>aX off p λq=>ldW false 1 q w K:=by
 refine qO h hl (by omega) hi λb o c fr hb hcc=>?_;rw[bS,dY];refine⟨u,?_,hK⟩;rw[bZ,cJ,hb,cP,hcc off ho];exact hu
theorem Iw{size off:Nat}{k:IntKind}{u:Value}{K:Value->Value->Prop}(h:SlAt w T v n cs)(hl:cs.length=n*size)(hi:i<n)(ho:off<size)(hu:cs[i*size+off]?=some u)(hK:∀q,(∀w',Ext w w'->ldW false 1 q w' λx=>x=u)->K q u):dG none size v (.int k i) λp=>aX off p λq=>ldW false 1 q w (K q):=by
 refine qO h hl (by omega) hi λb o c fr hb hcc=>?_;have hc:c[o+off]?=some u:=(hcc off ho).trans hu;rw[bS,dY];refine⟨u,?_,hK _ λw' hx=>?_⟩
 ·rw[bZ,cJ,hb,cP];exact hc
 ·rw[bZ,dY];exact⟨u,by rw[cJ,hx.at hb id,cP];exact hc,rfl⟩
def fl1(ex:List Ex)(i:Nat)(a:Int):Fl:=⟨ex,[⟨[97],[],[⟨[120],i,a⟩],[],0⟩],[0]⟩
section
variable [HX]
theorem XQ{tx:Str}{ex:List Ex}{v:JV}{K:Q0}(hT:TabE w)(htx:tx.length<=100000)(hpx:parseM (uI tx)=.ok (fl1 ex i 6))(hX:∀[HX],Km ex)(hi:i<ex.length)(hv:eR w v cs)(hkx:v.ks.length=v.xs.length)(hfx:∀x∈v.xs,zL x=true)
  (hK:∀cs' d w',Ext w w'->Bi (λ_=>True) w' cs' d (zZ (fl1 ex i 6) i v)->K (.tuple #[.agg cs'.toArray,d,.bool true]) w'):aC P0 21 [str tx,.agg cs.toArray] w K:=by
 refine aBx ?_;unfold W21;obtain⟨sv,kv,_,_,_,rfl,_⟩:=hv.out;refine fU (z:=[i64 v.k,.bool v.b,str v.t,sv,kv]) λb3 w1 hb3 hz1 hbb3 hx1=>?_;refine bE λb4 w2 hb4 hz2 hbb4 hx2=>?_;rw[yC];refine⟨by simp only[aB,aN];show(_:Int)<=9223372036854775807;omega,?_⟩;rw[yC];refine⟨by simp only[aB,aN,bG];show(_:Int)<=9223372036854775807;omega,?_⟩;have hx02:=hx1.trans hx2;refine Um (t:=uI tx) (hT.ext hx02).i (by unfold uI;simp only[bG,aB,aN];omega) λM d w3 hx3 hF3 hd3 hfew=>?_;rw[hpx]at hF3 hd3 hfew;have hd3:d=.pointer none:=hd3;subst hd3;have hfl:Od (.ok (fl1 ex i 6))=fl1 ex i 6:=rfl;rw[hfl]at hF3 hfew;have hfv:=hF3.fv;simp only[bK];refine⟨_,rfl,_,rfl,?_⟩;obtain⟨p1,c1,e1,_⟩:=hF3.oE.sl.shape;obtain⟨p2,c2,e2,_⟩:=hF3.oB.sl.shape;obtain⟨p3,c3,e3,_⟩:=hF3.oT.sl.shape;refine bE λb7 w4 hb7 hz4 hbb7 hx4=>?_;refine cA (l:=[M.vE,M.vB,M.vT]) hbb7 rfl rfl (by rw[e1,e2,e3];rfl) λw5 hz5 hbb75 hc5=>?_;have hx35:Ext w3 w5:=hx4.new hc5 (by omega);have hfv5:=hfv.ext hx35;have hx05:=hx02.trans (hx3.trans hx35);have enil:∀K:Value->Prop,K (.bool false)->eqW .ptr true (.pointer none) (.pointer none) K:=λK h=>h;refine enil _ ?_;refine GdW.look false (λ_ J hJ=>?_) λg=>?_
 ·refine eC (off:=1) hbb75 rfl ?_;rw[gH hfv5.oB,fJ];exact hJ
 simp only[aG,kX];rw[eZ,Bool.or_false];obtain⟨vl,va,vb,ec,_,ha5,_⟩:=hfv5.bb.2 0 ⟨[97],[],[⟨[120],i,6⟩],[],0⟩ rfl;have hattr:∀{w':World} {k:IntKind} {K:Value->Prop},Ext w5 w'->K va->dG none 5 M.vB (.int k 0) λp=>aX 2 p λq=>ldW false 1 q w' K:=λ{w' k K} hx h=>by
  have:=hfv5.bb.1;refine Sg (i:=0) (u:=va) (hfv5.oB.ext hx) hfv5.bb.1 (by show 0<1;omega) (by omega) ?_ h;have:=congrArg (λl:List Value=>l[2]?) ec;simpa[List.getElem?_take,List.getElem?_drop]using this
 have hlenB:(fl1 ex i 6).bl.length=1:=rfl;refine GdW.look false (λ_ J hJ=>?_) λg2=>?_
 ·refine eC (off:=1) hbb75 rfl ?_;refine hattr (Chg.refl _ _) ?_;rw[gH ha5,fJ];exact hJ
 simp only[aG,kX];rw[eZ,Bool.or_false,dD];have hxd:Ext w5 w5.drew:=Chg.drew (Chg.refl (λ_=>False) w5);have hx0d:=hx05.trans hxd;have hb3d:=(hx2.trans (hx3.trans (hx35.trans hxd))).at hbb3 id;have hb4d:=(hx3.trans (hx35.trans hxd)).at hbb4 id;have hb7d:=hxd.at hbb75 id;have l4:=fC hbb4;refine bT.cut (λst w'=>∃cs' d b9,st=[d,.pointer (some ⟨b9,0,none⟩)]/\Ext w5.drew w'/\w'.heap[b9]?=some (.cells cs'.toArray VT (0,0))/\cs'.length=5/\cs'.all gC=true/\Bi (λq=>q≠b4) w' cs' d (zZ (fl1 ex i 6) i v)) ?_ ?_
 ·refine bX hb7d rfl ?_;refine eC (off:=1) hb7d rfl ?_;refine Iw (i:=0) (u:=va) ((hfv5.oB).ext hxd) hfv5.bb.1 (by show 0<1;omega) (by omega) (by
   have:=congrArg (λl:List Value=>l[2]?) ec;simpa[List.getElem?_take,List.getElem?_drop]using this) λq1 hq1=>?_
  refine Iw (i:=0) (u:=i64 (i:Nat)) (ha5.ext hxd) rfl (by show 0<1;omega) (by omega) rfl λq2 hq2=>?_;refine bX hb3d rfl ?_;have hvd:cL (λq=>q<w.heap.size) w5.drew v [i64 v.k,.bool v.b,str v.t,sv,kv]:=((Sj v _ hv).mono (G':=λq=>q<w.heap.size) λq hlt _=>hlt).ext' hx0d;have sd:w.heap.size<=w5.drew.heap.size:=hx0d.size;have l4d:=fC hb4d;refine⟨?_,?_⟩
  ·refine QL (hT.ext hx0d).f (hfv5.ext hxd) hX (by have:=hfew.1;show ex.length<=1000000;have:ex.length<=100000:=hfew.1;omega) hi (G:=λq=>q≠b4) (hvd.mono λq _ hq=>by omega) (λq hq=>by omega) hkx hfx λcs' d w14 hx14 hM=>?_;simp only[bK];refine⟨_,rfl,_,rfl,?_⟩;refine mG hM.lens.1 hM.lens.2 λb9 w16 hb9 hz16 hbb9 hx16=>?_;exact⟨cs',d,b9,rfl,hx14.trans hx16,hbb9,hM.lens.1,hM.lens.2,hM.ext hx16⟩
  ·refine bE λb9 w17 hb9 hz17 hbb9 hx17=>?_;refine⟨bX (hx17.at hb3d id) rfl rfl,hq2 w17 hx17,hq1 w17 hx17,eC (off:=1) (hx17.at hb7d id) rfl rfl,bX (hx17.at hb7d id) rfl rfl,?_⟩;refine QL (hT.ext (hx0d.trans hx17)).f ((hfv5.ext hxd).ext hx17) hX (by have:ex.length<=100000:=hfew.1;show ex.length<=1000000;omega) hi (G:=λq=>q≠b4/\q≠b9) ((hvd.ext' hx17).mono λq _ hq=>⟨by omega,by omega⟩) (λq hq=>⟨by omega,by omega⟩) hkx hfx λcs' d w18 hx18 hM=>?_;simp only[bK];refine⟨_,rfl,_,rfl,?_⟩;refine cA (hx18.at hbb9 id) hM.lens.1 rfl hM.lens.2 λw19 hz19 hb919 hc19=>?_;exact⟨cs',d,b9,rfl,(hx17.trans hx18).new hc19 (by omega),hb919,hM.lens.1,hM.lens.2,(hM.put hc19 (hx18.at hbb9 id) (λe=>e.2 rfl)).mono λq hq=>hq.1⟩
 rintro st g3 w20 ⟨cs',d,b9,rfl,hx20,hb9,hl9,ho9,hM⟩;simp only[aG,dC];refine bX hb9 hl9 ?_;refine cA (hx20.at hb4d id) hl9 rfl ho9 λw21 hz21 hb421 hc21=>?_;refine bX hb421 hl9 ?_;have hx21:Ext w w21:=(hx0d.trans hx20).new hc21 (by omega);exact hK cs' d w21 hx21 ((hM.put hc21 (hx20.at hb4d id) (λe=>e rfl)).mono λ_ _=>trivial)
end
def exB(e:Ex):Bool:=decide (1<=e.k/\e.k<=30)&&decide (e.k=10\/e.k=30\/e.k=13\/e.k=14->1<=e.args.length)&&decide (e.k=11\/e.k=29\/15<=e.k/\e.k<=27->2<=e.args.length)&&decide (e.k=28->3<=e.args.length)&&e.keys.all (λs=>decide (s.length<=100000))&&decide (e.t.length<=100000)&&decide (e.args.length<=90000)
theorem aAl{e:Ex}(h:exB e=true):aBK e:=by
 simp only[exB,aL,bB,bW]at h;obtain⟨⟨⟨⟨⟨⟨h1,h2⟩,h3⟩,h4⟩,h5⟩,h6⟩,h7⟩:=h;exact⟨h1,h2,h3,h4,h5,h6,h7⟩
theorem Lq{c:Bool}{A:(Value->Prop)->Prop}{B:Value->Prop}(hc:c=true)(hA:A (λx=>x=v))(hB:B v):GqW c A B:=by
 subst hc;exact(Rw A B).2 ⟨v,hA,hB⟩
theorem Lv{c:Bool}{A:(Q0)->Prop}{B:Q0}(hc:c=true)(hA:A B):GeW c w A B:=by
 subst hc;exact⟨λ_=>hA,λe=>Bool.noConfusion e⟩
abbrev noV:JV:=.mk 6 false [] [] []
section
variable [HX]
theorem HI{ex:List Ex}(h:kJ ex)(hs:ex.all exB=true)(hc:∀e∈ex,e.k=12->tT e.t e.args.length)(ho:∀e∈ex,e.k=8->ObC)(hn:∀e∈ex,e.k=28->Ko):Km ex:=⟨h,λe he=>aAl (bW.1 hs e he),hc,ho,hn⟩
theorem Hr{ex:List Ex}(h:(ex.all λe=>decide (e.k≠28))=true):∀e∈ex,e.k=28->Ko:=λe he h8=>by
 have:=bW.1 h e he
 simp[h8]at this
theorem Rp{ex:List Ex}:∀e∈ex,e.k=28->Ko:=λ_ _ _=>@aCv _
theorem Hq{ex:List Ex}(h:(ex.all λe=>decide (e.k≠8))=true):∀e∈ex,e.k=8->ObC:=λe he h8=>by
 have:=bW.1 h e he
 simp[h8]at this
theorem CV{ex:List Ex}(h:(ex.all λe=>decide (e.k≠12))=true):∀e∈ex,e.k=12->tT e.t e.args.length:=λe he h12=>by
 have:=bW.1 h e he
 simp[h12]at this
theorem Qv{tx:Str}{ex:List Ex}{v x:JV}{ds:List Value}{K:Q0}(hT:TabE w)(htx:tx.length<=100000)(hpx:parseM (uI tx)=.ok (fl1 ex i 6))(hX:∀[HX],Km ex)(hi:i<ex.length)(hv:eR w v cs)(hd:eR w x ds)(hkx:v.ks.length=v.xs.length)(hfx:∀x∈v.xs,zL x=true)
  (he:zZ (fl1 ex i 6) i v=.ok x)(hK:∀w',Ext w w'->K (.bool true) w'):aC P0 20 [str tx,.agg cs.toArray,.agg ds.toArray] w K:=by
 refine aBy ?_;unfold W20;refine kC hv λb4 w1 sv kv hB4 hx1 _=>?_;refine kC (hd.ext hx1) λb5 w2 sv5 kv5 hB5 hx2 _=>?_;refine(hB4.ext hx2).ld λcs4 hcs4=>?_;have hx02:=hx1.trans hx2;refine XQ (hT.ext hx02) htx hpx hX hi hcs4 hkx hfx λcs3 d w3 hx3 hM=>?_;rw[he]at hM;obtain⟨hM,rfl,_⟩:=hM;simp only[bK];refine⟨_,rfl,_,rfl,_,rfl,?_⟩;refine mG hM.rep.len hM.rep.all_one λb7 w5 hb7 hz5 hbb7 hx5=>?_;have enil:∀K:Value->Prop,K (.bool true)->eqW .ptr false (.pointer none) (.pointer none) K:=λK h=>h;refine GdW.look true (λ_ J hJ=>?_) λg=>?_
 ·exact enil _ hJ
 simp only[iG,aM,aG,lC];have hM5:=hM.rep.ext hx5;have hx25:=hx3.trans hx5;refine GdW.act true (λw'=>Ext w w') (λe=>by cases e) (λ_ J hJ=>?_) λg2 w' hx'=>?_
 ·refine bX hbb7 hM.rep.len ?_;refine(hB5.ext hx25).ld λcs5 hcs5=>?_;refine Pp x hM5 hcs5 λw6 hx6=>?_;rw[(same_iff x x).2 rfl];exact hJ _ (hx02.trans (hx25.trans hx6))
 simp only[aM,aG,lC];exact hK w' hx'
theorem Rk{K:Q0}(hT:TabE w)(hK:∀w',Ext w w'->K (.bool true) w'):aC P0 9 [] w K:=by
 refine aCM ?_;unfold W9;simp only[dA,cV,aB,aN,aV,aZ];refine⟨by omega,?_⟩;have hno:∀w,eR w noV (flat 6 false []):=λw=>(gU (G:=λ_=>True) (by simp)).rep;refine mG (cs:=flat 6 false []) rfl rfl λb1 w3 hb1 hz3 hbb1 hx3=>?_;refine bX hbb1 rfl ?_;refine XQ (hT.ext hx3) (tx:=XF) (ex:=Ez) (i:=2) (by decide) aB0 (HI (kL (by decide)) (by decide) (CV (by decide)) (Hq (by decide)) (Hr (by decide))) (by decide) (hno w3) rfl (by simp[JV.xs]) λcs d w4 hx4 hM=>?_;rw[Og (f:=fl1 Ez 2 6) (RA _) (by decide)]at hM;obtain⟨rfl,bd,rfl,hbd⟩:=hM;simp only[bK];refine⟨_,rfl,_,rfl,_,rfl,?_⟩;refine mG (cs:=zr5) rfl rfl λb2 w6 hb2 hz6 hbb2 hx6=>?_;have hxd:Ext w6 w6.drew:=Chg.drew (Chg.refl (λ_=>False) w6);have hx3d:=hx4.trans (hx6.trans hxd);refine bX (hx3d.at hbb1 id) rfl ?_;refine AR (n:=7) (by decide) (by decide) λw7 hx7=>?_;refine⟨bX ((hx3d.trans hx7).at hbb1 id) rfl rfl,?_⟩;have h7:Lib.itoa 7=[55]:=by decide+kernel
 rw[h7];have hx37:=hx3d.trans hx7;refine Qv (x:=nV [55]) (hT.ext (hx3.trans hx37)) (tx:=XH) (ex:=Jy) (i:=4) (by decide) aB2 (HI (kL (by decide)) (by decide) (CV (by decide)) (Hq (by decide)) (Hr (by decide))) (by decide) (hno w7) (gU (G:=λ_=>True) (by simp)).rep rfl (by simp[JV.xs]) ?_ λw8 hx8=>?_
 ·have:=BP (f:=fl1 Jy 4 6) (i:=4) (scope:=noV) (RD _) (by decide);rw[this];show MdR.ok (nV (Lib.itoa 7))=_;rw[h7]
 have hx38:=hx37.trans hx8;refine Lq (iG true) (bX (hx38.at hbb1 id) rfl rfl) ?_;refine Lv (iG true) ?_;refine Nn λw11 hx11=>?_;refine⟨λ_=>bX ((hx38.trans hx11).at hbb1 id) rfl rfl,?_⟩;refine Lv (iG true) ?_;refine Qv (x:=tV [97,49,116,114,117,101]) (hT.ext (hx3.trans (hx38.trans hx11))) (tx:=XG) (ex:=Cx) (i:=3) (by decide) aB1 (HI (kL (by decide)) (by decide) (CV (by decide)) (Hq (by decide)) (Hr (by decide))) (by decide) (hno w11) (gU (G:=λ_=>True) (by simp)).rep rfl (by simp[JV.xs]) ?_ λw13 hx13=>?_
 ·exact BP (f:=fl1 Cx 3 6) (i:=3) (scope:=noV) (RB _) (by decide)
 rw[lC];refine Lq (iG true) rfl ?_;rw[lC];refine Lq (iG true) rfl ?_;refine Lv (iG true) ?_;have hx613:Ext w4 w13:=hx6.trans (hxd.trans (hx7.trans (hx8.trans (hx11.trans hx13))));refine aCm (r:=.bad 10 12) ⟨bd,rfl,hx613.at hbd id⟩ ?_;rw[lC];exact hK w13 (hx3.trans (hx4.trans hx613))
end
section
variable [HX]
theorem ND{a:List JV}(h:∀x∈a,dX x=true):(Hk a).length<=a.length*2000:=by
 unfold Hk;induction a with
 |nil=>simp
 |cons x a ih=>
  have h1:=ih λy hy=>h y (aS _ hy);have h2:=Ls (h x bC);simp only[dT,zN,bG,wS,aB];omega
theorem xZ{name:Str}{f:FnM}{g:FuncId}(n:Nat)(hn:n<=40)(hf:tP fnX name=some (f,g))(hd:Kn g f):tT name n:=λ{a sv w K} hl hg hT hI hK=>
 Vx (λf' g' h=>by rw[hf]at h;cases h;exact hd) hT hI (by omega) (λ_=>by have:=ND hg;rw[hl]at this;omega) hK
theorem HA(n:Int)(h:I63 n)(w:World):eR w (iV n) (flat 3 false (Lib.itoa n)):=(gU (G:=λ_=>True) (by have:=Am (n:=n) (by have:=h.abs;omega);omega)).rep
theorem HH{n:Int}(h:I63 n):zL (iV n)=true:=(pU (cK (by have:=h.abs;omega))).few
theorem Mx{A:(List Value->World->Prop)->Prop}{B:List Value->Fr->World->Prop}(h1:∀J:List Value->World->Prop,(∀w',Ext w w'->J [.bool true] w')->A J)(h2:∀w',Ext w w'->∀g,B [.bool true] g w'):GdW (isB (.bool true) true) [undef] w A B:=by
 rw[iG];exact GdW.act true (λw'=>Ext w w') (λe=>by cases e) (λ_ J hJ=>h1 J λw' hx=>hJ w' hx) λg w' hx=>h2 w' hx g
theorem Oy{c:Bool}{K:Q0}(hK:∀w',Ext w w'->K (.agg (flat 2 c []).toArray) w'):aC P0 19 [.bool c] w K:=by
 refine aBz ?_;unfold W19;refine bE λa w1 ha hz hb hx=>?_;simp only[dA,uY,cV,aB,aN,aV,aZ];refine⟨by omega,by omega,?_⟩;exact iP hb rfl rfl rfl λw2 hc2=>hK w2 (hx.new hc2 (by omega))
theorem aCE:tT [109,97,120] 2:=xZ 2 (by omega) rfl aAo
theorem aCD:tT [109,105,110] 2:=xZ 2 (by omega) rfl aAn
theorem aCF:tT [97,98,115] 1:=xZ 1 (by omega) rfl aAp
theorem LN:tT [116,111,115,116,114,105,110,103] 1:=xZ 1 (by omega) rfl JG
theorem Vy:tT [116,111,105,110,116] 1:=xZ 1 (by omega) rfl QR
theorem UE:∀e∈Gu,e.k=12->tT e.t e.args.length:=by
 intro e he h12;unfold Gu at he;simp only[bP,dN,lQ]at he;rcases he with rfl|rfl|rfl|rfl|rfl|rfl|rfl|rfl|rfl|rfl|rfl|rfl|rfl|rfl|rfl|rfl|rfl|rfl|rfl|rfl|rfl|rfl
 all_goals first|exact absurd h12 (by decide)|exact aCE|exact aCD|exact aCF
theorem UC:∀e∈Gt,e.k=12->tT e.t e.args.length:=by
 intro e he h12;unfold Gt at he;simp only[bP,dN,lQ]at he;rcases he with rfl|rfl|rfl|rfl|rfl|rfl|rfl|rfl|rfl|rfl|rfl
 all_goals first|exact absurd h12 (by decide)|exact LN|exact Vy
theorem numbers_true{a b c:Int}{K:Q0}(hT:TabE w)(ha:I63 a)(hb:I63 b)(hc:I63 c)(hK:∀w',Ext w w'->K (.bool true) w'):aC P0 4 [i64 a,i64 b,i64 c] w K:=by
 refine aCN ?_;unfold W4;refine Rk hT λw1 hx1=>?_;rw[eP,jT,dD];simp only[dA,cV,aB,aN,aV,aZ];refine⟨by omega,?_⟩;refine AR ha.1 ha.2 λw3 hx3=>?_;refine PC (v:=noV) (x:=iV a) (gU (G:=λ_=>True) (by simp)).rep (HA a ha w3) (λ_=>rfl) (by simp[JV.ks]) (by simp) λc4 w4 hx4 h4=>?_;refine AR hb.1 hb.2 λw5 hx5=>?_;refine PC (x:=iV b) (h4.ext hx5) (HA b hb w5) (λ_=>rfl) (by show 1<=100000;omega) (by simp) λc6 w6 hx6 h6=>?_;refine AR hc.1 hc.2 λw7 hx7=>?_;refine PC (x:=iV c) (h6.ext hx7) (HA c hc w7) (λ_=>rfl) (by show 2<=100000;omega) (by simp) λc8 w8 hx8 h8=>?_;have es:zJ (zJ (zJ noV [97] (iV a)) [98] (iV b)) [99] (iV c)=.mk 6 false [] [iV a,iV b,iV c] [[97],[98],[99]]:=rfl;rw[es]at h8;have hx18:=hx3.trans (hx4.trans (hx5.trans (hx6.trans (hx7.trans hx8))));have hfx:∀x∈(JV.mk 6 false [] [iV a,iV b,iV c] [[97],[98],[99]]).xs,zL x=true:=by
  intro x hx;simp only[JV.xs,bP,dN,lQ]at hx;rcases hx with rfl|rfl|rfl
  ·exact HH ha
  ·exact HH hb
  ·exact HH hc
 generalize hv:JV.mk 6 false [] [iV a,iV b,iV c] [[97],[98],[99]]=v at h8 hfx;have hkx:v.ks.length=v.xs.length:=by subst hv;rfl
 have hea:qD v.ks v.xs [97]=some (iV a):=by subst hv;rfl
 have heb:qD v.ks v.xs [98]=some (iV b):=by subst hv;rfl
 have hec:qD v.ks v.xs [99]=some (iV c):=by subst hv;rfl
 have o8:=h8.all_one;have l8:=h8.len;refine mG l8 o8 λb9 w10 hb9 hz10 hbb9 hx10=>?_;refine Oy λw11 hx11=>?_;refine mG (cs:=flat 2 true []) rfl rfl λb12 w13 hb12 hz13 hbb12 hx13=>?_;have hx813:=hx10.trans (hx11.trans hx13);have hx013:=hx1.trans (hx18.trans hx813);have one:∀{tx:Str} {ex:List Ex} {i:Nat} {w':World} {K:Q0},tx.length<=100000->parseM (uI tx)=.ok (fl1 ex i 6)->kJ ex->ex.all exB=true->(∀[HX],∀e∈ex,e.k=12->tT e.t e.args.length)->(∀[HX],∀e∈ex,e.k=8->ObC)->i<ex.length->(∃s,s<=1000/\fE ex i (qD v.ks v.xs) (bV true) s)->Ext w13 w'->(∀w'',Ext w' w''->K (.bool true) w'')->
   ldW true 5 (.pointer (some ⟨b9,0,none⟩)) w' λt22=>ldW true 5 (.pointer (some ⟨b12,0,none⟩)) w' λt23=>aC P0 20 [str tx,t22,t23] w' K:=by
  intro tx ex i w' K h1 h2 h3 h4 h5 ho h6 h7 hx' hK;obtain⟨s,hs,hsay⟩:=h7;refine bX ((hx11.trans (hx13.trans hx')).at hbb9 id) l8 ?_;refine bX (hx'.at hbb12 id) rfl ?_;refine Qv (x:=bV true) (hT.ext (hx013.trans hx')) h1 h2 (HI h3 h4 h5 ho Rp) h6 (h8.ext (hx813.trans hx')) (gU (G:=λ_=>True) (by simp)).rep hkx hfx ?_ hK;exact BP (f:=fl1 ex i 6) hsay (by omega)
 have hno:∀{ex:List Ex},(ex.all λe=>decide (e.k≠12))=true->∀[HX],∀e∈ex,e.k=12->tT e.t e.args.length:=λh _=>CV h;have hob:∀{ex:List Ex},(ex.all λe=>decide (e.k≠8))=true->∀[HX],∀e∈ex,e.k=8->ObC:=λh _=>Hq h;refine one (tx:=XM) (ex:=MI) (i:=28) (by decide) aB7 (kL (by decide)) (by decide) (hno (by decide)) (hob (by decide)) (by decide) (UH ha hb hc hea heb hec) (Chg.refl _ _) λw14 hx14=>?_;refine Mx (λJ hJ=>one (tx:=XL) (ex:=MH) (i:=19) (by decide) aB6 (kL (by decide)) (by decide) (hno (by decide)) (hob (by decide)) (by decide) (UG ha hb hc hea heb hec) hx14 hJ) λw15 hx15 g=>?_;simp only[aG,lC];refine Mx (λJ hJ=>one (tx:=XK) (ex:=MG) (i:=25) (by decide) aB5 (kL (by decide)) (by decide) (hno (by decide)) (hob (by decide)) (by decide) (UF ha hb hc hea heb hec) (hx14.trans hx15) hJ) λw16 hx16 g=>?_;simp only[aG,lC];refine Mx (λJ hJ=>one (tx:=XJ) (ex:=Gu) (i:=21) (by decide) aB4 (kL (by decide)) (by decide) UE (hob (by decide)) (by decide) (UD ha hb hc hea heb hec) (hx14.trans (hx15.trans hx16)) hJ) λw17 hx17 g=>?_;simp only[aG,lC];refine Mx (λJ hJ=>one (tx:=XI) (ex:=Gt) (i:=10) (by decide) aB3 (kL (by decide)) (by decide) UC (hob (by decide)) (by decide) (UB ha hb hc hea heb hec) (hx14.trans (hx15.trans (hx16.trans hx17))) hJ) λw18 hx18' g=>?_;simp only[aG,lC];exact hK w18 (hx013.trans (hx14.trans (hx15.trans (hx16.trans (hx17.trans hx18')))))
end
end
section
open Go Go.RowKit Go.Eng Go.Deep
variable{w:World}{K:Q0}{cs:List Value}{G:Nat->Prop}{T:TypeId}{i:Nat}{n:Nat}{v:Value}{w':World}{P:Program}{c:UInt8}{S:Nat->Prop}
theorem Ly{name:String}{k:IntKind}{zs:List Int}{g:Nat}{t e:TypeId}(hg:P.globalNamed name=some g)(hty:(P.globals[g]?).map (·.type)=some t)(ht:P.underlying t=some (.array n e))(he:P.underlying e=some (.int k))(hce:P.cellsOf e=1)(hct:P.cellsOf t=n)
  (h:Lib.VarReads P w name (Lib.tabData k zs)):Lib.TabIs P w name k zs:=by
 obtain⟨g',t',cs,fuel,p,hg',ht',hvar,hd⟩:=h;obtain rfl:=fI (hg.symm.trans hg');obtain rfl:=fI (hty.symm.trans ht');unfold Lib.TabIs;rw[hvar,<-Lib.cells_of_tab ht he hce hct hd]
theorem Jm{fuel:Nat}{t:TypeId}{s:String}{x:DataW Unit}{p:List MemPlace}{m:Array TypeId}(ht:∃m,P.underlying t=some (.interface m))(h:DataW.trod (λ_=>()) P w 0 (λ_=>true) false fuel t cs=some (.iface s x,p)):∃u v,cs=[.iface u v]:=by
 obtain⟨m,ht⟩:=ht;cases fuel with
 |zero=>cases h
 |succ fuel=>
  unfold DataW.trod at h;rw[ht]at h
  match cs,h with
  |[],h=>cases h
  |[v],h=>
   cases v with
   |iface u v=>exact⟨u,v,rfl⟩
   |_=>cases h
  |a::b::r,h=>simp at h
theorem Jn{nm:String}{g:Nat}{x:DataW Unit}{s:String}(hg:Tryz.prog.globalNamed nm=some g)(hty:(Tryz.prog.globals[g]?).map (·.type)=some 118)(h:Lib.VarReads P0 w nm (.iface s x)):∃T v,w.cell? ⟨g,0,none⟩=some (.iface T v):=by
 obtain⟨g',t',cs,fuel,p,hg',ht',hvar,hd⟩:=h;obtain rfl:=fI (hg.symm.trans hg');obtain rfl:=fI (hty.symm.trans ht');obtain⟨u,v,hcs⟩:=Jm (m:=#[]) ⟨_,Tryz.underlying118⟩ hd;have:=World.var?_cell hg hvar 0;refine⟨u,v,?_⟩;rw[this];have e:cs=#[.iface u v]:=by
  apply Bj;rw[hcs]
 rw[e];rfl
theorem RV(hL:laidMetH P0 Rows.evalNumbersRow.laid w)(hsh:w.ShapedOpen P0):wP w:=by
 have h:laidMet P0 Rows.evalNumbersRow.laid w:=by
  rw[Go.MakeChecks.laidMetH_plain _ _ _ (by kernel_rfl)]at hL;exact hL
 have r:∀n d,(n,d)∈Rows.evalNumbersRow.laid->Lib.VarReads P0 w n d:=λn d hm=>Lib.laidMet.reads h hm;have r2:Lib.VarReads P0 w "internal/strconv.uint64pow10" (Lib.tabData .u64 Lib.pow10Tab):=r _ _ (.tail _ (.tail _ (.head _)));have r4:Lib.VarReads P0 w "strconv.ErrRange" Rows.laid_strconv_ErrRange:=r _ _ (.tail _ (.tail _ (.tail _ (.tail _ (.head _)))));have r5:Lib.VarReads P0 w "strconv.ErrSyntax" Rows.laid_strconv_ErrSyntax:=r _ _ (.tail _ (.tail _ (.tail _ (.tail _ (.tail _ (.head _))))));refine⟨?_,Jn (by kernel_rfl) (by kernel_rfl) r5,Jn (by kernel_rfl) (by kernel_rfl) r4,?_⟩
 ·exact Ly (g:=5) (t:=271) (e:=209) (n:=20) (by kernel_rfl) (by kernel_rfl) (by kernel_rfl) (by kernel_rfl) (by kernel_rfl) (by kernel_rfl) r2
 ·exact Go.Proofs.cell_of_shapedOpen_int (t:=3) (zero:=#[.int .i64 0]) hsh (of_decide_eq_true (by kernel_rfl)) (by kernel_rfl) rfl (by kernel_rfl) (by kernel_rfl) Tryz.underlying3
theorem tabe_of(hL:laidMetH P0 Rows.evalNumbersRow.laid w)(hsh:w.ShapedOpen P0):TabE w:=
 ⟨RV hL hsh,Go.Proofs.cell_of_shapedOpen_int (t:=3) (zero:=#[.int .i64 0]) hsh (of_decide_eq_true (by kernel_rfl)) (by kernel_rfl) rfl (by kernel_rfl) (by kernel_rfl) Tryz.underlying3⟩
theorem handed_and_shaped{H:Type}{enc:TypeId×Value->H}{a:Assume}{C:Checked}{os:Os}{f:FuncId}{fn:Func}{s:ChangeSpec}{conds:List PathCond}{apart fresh handsOn again:Bool}{X:World->Array Value->Prop}
  (hX:∀(w w':World) (args:Array Value),w.heap=w'.heap->X w args->X w' args)
  (own:ownKnob C.prog.godebug=none)(started:os.Started)(noInit:C.prog.inits.idxOf? f=none)(hfn:C.prog.funcs[f]?=some fn)
  (witness:∃(w:World) (tape:Tape) (i:Input),w.os=os/\(w.forCall tape i).Shaped C.prog/\i.vars=[]/\Input.okWide C.prog (w.forCall tape i) .any w.heap.size f i/\
    ((s.pre enc C.prog fn conds apart (w.forCall tape i).memory i.args/\X (w.forCall tape i).memory i.args)/\sizedMet enc C.prog fn (OpenSpec.ofChange s) apart (w.forCall tape i).memory i.args)/\a.holds C.prog (lone (Frame.enter C.prog f i.args .normal) [] (w.forCall tape i)))
  (contract:∀(W:World) (base:Nat) (args:Array Value) (ds gs:List (DataW H)) (before:List MemPlace),
    (∀(j:Nat) t v,fn.params[j]?=some t->args[j]?=some v->Value.okWide C.prog W .any base t v)->
    DataW.Whole enc C.prog fn.params.toList s.vars apart W args.toList ds gs before->
    conds.all (PathCond.test C.prog ⟨fn.params.toList,ds,s.plain.varTypes C.prog,gs⟩)=true->
    (DataW.weightsEach C.prog (fn.params.toList++s.plain.varTypes C.prog) (ds++gs)).all (· <=reachBytes)=true->X W args->W.ShapedOpen C.prog->
    a.holds C.prog (lone (Frame.enter C.prog f args .normal) [] W)->
    Calls C.prog f args W λe W'=>∃v,e=.returned v/\s.post enc C.prog fn apart fresh handsOn again W args v W'):
  ReturnsInHanded a C os f .any (λw args=>(s.pre enc C.prog fn conds apart w args/\X w args)/\sizedMet enc C.prog fn (OpenSpec.ofChange s) apart w args) (s.post enc C.prog fn apart fresh handsOn again):=by
 refine returnsInHanded_of_calls own started noInit witness ?_;intro w tape i _ hsh _ hok hpre hholds;obtain⟨_,_,_,fn',hfn',_,_,_,_,hval⟩:=hok;have e:fn'=fn:=fI (hfn'.symm.trans hfn);subst e;obtain⟨⟨⟨ds,gs,before,hw,hc⟩,hx⟩,hz⟩:=hpre;have hw':=DataW.Whole.of_heap (w':=w.forCall tape i) (by rfl) hw;refine(contract (w.forCall tape i) w.heap.size i.args ds gs before hval hw' hc (hz.weights hw) (hX _ _ _ (by rfl) hx) hsh hholds).mono λe W' ⟨v,he,hp⟩=>?_;subst he;exact ChangeSpec.post_blind hp
section
variable{H:Type}{enc:TypeId×Value->H}{w:World}{base:Nat}{spare:Nat->Bool}{held:Bool}
theorem fopen_i{d:DataW H}{ps:List MemPlace}{r:Reach}{b0:Nat}(hval:Value.okWide P0 w r b0 3 v)(h:DataW.Trod enc P0 w base spare held 3 v d ps):∃n:Int,v=i64 n/\-9223372036854775808<=n/\n<=9223372036854775807:=by
 obtain⟨n,rfl,_,_,hw⟩:=Go.ChangeShapes.open_int Tryz.underlying3 hval h;refine⟨n,rfl,?_⟩;have e1:IntKind.i64.min=-9223372036854775808:=by decide
 have e2:IntKind.i64.max=9223372036854775807:=by decide
 simp only[Lit.wf,aL,bB,e1,e2]at hw;exact hw
end
end
end Go.Proofs.YtghhmpppnmoeoaaGreatDoor
