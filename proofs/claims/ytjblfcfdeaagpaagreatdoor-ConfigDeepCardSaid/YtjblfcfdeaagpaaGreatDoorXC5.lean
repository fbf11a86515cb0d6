/- One plain sentence: contracts and plain laws that the claim rests on. Conditions: those that each states. -/
import Derived.Test.YtjblfcfdeaagpaaGreatDoorXC4
import Derived.Shelf.Strconv.Clone
import Derived.Shelf.LaysM
import Derived.Ground.SlgmProg
import Derived.Test.YtjblfcfdeaagpaaGreatDoorProg
import Derived.Test.YtjblfcfdeaagpaaGreatDoorXC1
import Derived.Lib.ItoaNum
import Derived.Lib.ItoaMem
import Derived.Test.YtjblfcfdeaagpaaGreatDoorXC3
import Derived.Test.YtjblfcfdeaagpaaGreatDoorRows
import Derived.Below
import Derived.RowKit
import Derived.ChangeMaps5
import Derived.MakeChecks
import Derived.Lib.LaidTab
import Derived.Lib.LaidU8
import Derived.SizedLaws
import Derived.Shelf.Vars
set_option linter.all false
set_option linter.unusedSimpArgs false
set_option linter.unusedVariables false
set_option linter.unusedSectionVars false
set_option maxRecDepth 100000
namespace Go.Proofs.YtjblfcfdeaagpaaGreatDoor
section
open Go Go.Eng Go.RowKit Go.Syn Go.Lex Go.Cfg
variable{w:World}{K:Q0}{cs:List Value}{G:Nat->Prop}{T:TypeId}{i:Nat}{n:Nat}{v:Value}{w':World}{P:Program}{c:UInt8}{S:Nat->Prop}
theorem Vv{a:Nat}{l r:List Value}{fr:Nat×Nat}{K:Value->Prop}(hb:w.heap[a]?=some (.cells (l++r).toArray T fr))(I:l.length=n)(o:K (.agg l.toArray)):ldW true n (.pointer (some ⟨a,0,none⟩)) w K:=by
 rw[yZ];refine⟨l,?_,o⟩;have:∀(n i:Nat),i+n=l.length->bN w ⟨a,0,none⟩ i n=some (l.drop i):=by
  intro n;induction n with
  |zero=>intro i h;simp only[bN];rw[gL (by omega)]
  |succ n ih=>
   intro i h;have hi:i<l.length:=by omega
   have j:(l++r)[i]?=some l[i]:=by rw[List.getElem?_append_left hi,List.getElem?_eq_getElem hi]
   simp only[bN,bG,cA,hb,bM,aH,List.getElem?_toArray,j];rw[ih (i+1) (by omega)];simp
 rw[this n 0 (by omega)];rfl
theorem Mm{d:Str}(h:lL d=true):d.length<=32:=by
 cases d with
 |nil=>cases h
 |cons c r=>
  simp only[lL,bL,fD]at h;have:=h.2;simp only[aB];omega
section
variable [HX]
theorem Mu{w00:World}{fb fm:Nat}{fs:Vfs.MS}{sub:Option (Str->List Md->RL (List Md))}{d:Nat}(hT:TabI w00)(zh:Fx.FsB w00 fb fm fs)(yj:Vfs.Ok fs)(hd:d<=4)
  (yd:(d=4/\sub=none)\/(d<4/\∃ld,sub=some ld/\ZL w00 fb fs (d+1) ld/\Lf ld)):ZL w00 fb fs d (Cp (Dp fs) sub):=by
 intro dir mods w lp vM Ls K ho hL zu hmods ye hj;refine Wt ?_;unfold W51;have hbase:=ho.size;generalize hR:Cp (Dp fs) sub dir mods=R at ye hj;unfold Cp at hR;rw[eR];refine⟨by simp only[aB,aK];show(_:Int)<=9223372036854775807;omega,?_⟩
 have xz:(dir++mO).length<=2000:=by rw[aP];have:mO.length=8:=by decide
                                    omega
 have ze:dir++[109,97,105,110,46,104,99,108]=dir++mO:=rfl;rw[ze];generalize hpath:dir++mO=path at*
 simp only[dK,dC,aB,aK,aL,aN];refine⟨by omega,?_⟩;refine fX (z:=[str [],.slice none 0 0,.slice none 0 0,.slice none 0 0,.slice none 0 0,.slice none 0 0,.slice none 0 0,.slice none 0 0,.slice none 0 0,str path,.slice none 0 0]) λp w2 hp uc zm yz=>?_;simp only[cQ,bD,bG,aH];refine jZ zm rfl (by simp) λw3 ua yq zl=>?_;have xx:Ext w w3.drew:=(yz.new zl (by omega)).trans (cP w3);have xq:w3.drew.heap[p]?=some (.cells [str dir,.slice none 0 0,.slice none 0 0,.slice none 0 0,.slice none 0 0,.slice none 0 0,.slice none 0 0,.slice none 0 0,.slice none 0 0,str path,.slice none 0 0].toArray Le (0,0)):=by
  show w3.heap[p]?=_;rw[yq];simp
 have xr:∀{w'},Ext w w'->w'.heap[p]?=some (.cells [str dir,.slice none 0 0,.slice none 0 0,.slice none 0 0,.slice none 0 0,.slice none 0 0,.slice none 0 0,.slice none 0 0,.slice none 0 0,str path,.slice none 0 0].toArray Le (0,0))->Mf w w' p ⟨.slice none 0 0,.slice none 0 0,.slice none 0 0,[],[]⟩ path ⟨[],[],[]⟩:=λhx hb=>⟨hx,⟨_,hb,rfl,rfl,rfl,rfl⟩,MX _ _⟩;refine iQ (hL.ext xx).hl (v:=pA fb) rfl ?_;refine iQ xq (v:=str path) rfl ?_;refine Fx.read_fs (zh.ext (ho.trans xx)) yj λdv w4 ya xw=>?_;simp only[bP];refine⟨_,rfl,_,rfl,?_⟩;have ht:=xx.trans xw;have xg:=xw.at xq id;refine cX.cut (λst w'=>st=[]/\w'=w4/\∃x,Vfs.lkM fs.files path=some x) ?_ ?_
 ·rw[fG,dU];refine⟨λh=>?_,λh=>⟨by trivial,by trivial,?_⟩⟩
  ·have:Dp fs path=none:=by
    unfold Dp;cases hl:Vfs.lkM fs.files path with
    |none=>rfl
    |some x=>rw[hl]at h;cases h
   rw[this]at hR;exact lW (xr ht xg) ((hj 111 path 0 hR.symm).low ho)
  ·cases hl:Vfs.lkM fs.files path with
   |none=>rw[hl]at h;cases h
   |some x=>exact⟨x,rfl⟩
 rintro st g w5 ⟨rfl,rfl,x,xu⟩;have zd:Dp fs path=some x.data:=by unfold Dp;rw[xu];rfl
 rw[zd]at hR;simp only at hR;rw[xu]at ya;have yk:Fx.df (some x)=x:=rfl;rw[yk]at ya;have zi:x.data.length<=65536:=(yj.each _ (Vfs.lk_mem xu)).2.1;rw[Fx.conv_b ya];have zn:=tP hT (ho.trans ht);refine Qa (λ{_}=>Ug) zn (by omega) (λfl xz M w6 hy hs xo=>?_) (λc a zf dg w6 hy zi zj=>?_)
 rotate_left
 ·rw[zf]at hR;simp only at hR;simp only[bP];refine⟨_,rfl,_,rfl,?_⟩;refine cI λb10 w9 ys yy I xv=>?_;refine dD (l:=[.slice none 0 0,.slice none 0 0,.slice none 0 0]) I rfl rfl rfl λw10 yc I xf=>?_;have U:Ext w6 w10.drew:=(xv.new xf (by omega)).trans (cP w10);refine cX.cut (λ_ _=>False) ?_ (λ_ _ _ h=>h.elim);show bB (.bool true) _ _;rw[cU];have xp:=U.at zj id;simp only[cQ,bD,bG,aH];refine iQ xp (v:=i64 c) rfl ?_;refine iQ xp (v:=i64 a) rfl ?_;exact lW (xr (ht.trans (hy.trans U)) (U.at (hy.at xg id) id)) ((hj c path a hR.symm).low ho)
 rw[xz]at hR;simp only at hR;have xd:=GC xz xo;simp only[bP];refine⟨_,rfl,_,rfl,?_⟩;have zs:w3.drew.heap.size=w3.heap.size:=rfl;have zz:=xw.size;have zy:=hy.size;refine cI λb10 w9 ys yy I xv=>?_;have o1:=gE hs.oE.sl;have o2:=gE hs.oB.sl;have o3:=gE hs.oT.sl;have xc:([M.vE,M.vB,M.vT]:List Value).all jD=true:=by
  show(jD M.vE&&(jD M.vB&&(jD M.vT&&true)))=true;rw[o1,o2,o3];rfl
 refine dD (l:=[M.vE,M.vB,M.vT]) I rfl rfl xc λw10 yc I xf=>?_;have U:Ext w6 w10:=xv.new xf (by omega);refine cX.cut (λst w'=>st=[]/\w'=w10) ?_ ?_
 ·show bB (.bool false) _ _;rw[bW];exact⟨by trivial,by trivial⟩
 rintro st g2 w11 ⟨rfl,rfl⟩;refine fQ I rfl ?_;simp only[cQ,bD,bG,aH];have yp:=U.at (hy.at xg id) id;refine NU (pre:=[str dir]) (old:=[.slice none 0 0,.slice none 0 0,.slice none 0 0]) (post:=[.slice none 0 0,.slice none 0 0,.slice none 0 0,.slice none 0 0,.slice none 0 0,str path,.slice none 0 0]) (new:=[M.vE,M.vB,M.vT]) yp rfl rfl rfl xc λw12 zt yb xe=>?_;have xb:Ext w w12:=(ht.trans (hy.trans U)).then xe λk J e=>by have e:k=p:=e;omega
 have xi:=xe.at I (by omega);have xt:FO w12 w5.heap.size M fl:=(hs.keep U λ_ _ _ _ e=>e).keep xe λk h1 _ _ e=>by have e:k=p:=e;omega
 letI:FK:=⟨λk o=>k=b10/\o=.cells [M.vE,M.vB,M.vT].toArray FlT (0,0)⟩;generalize hr:(⟨⟨dir,fl,[],[],[],[],[]⟩,[]⟩:MS)=s0 at hR;have yi:MR w w12 p ⟨M,.slice none 0 0,.slice none 0 0,.slice none 0 0,.slice none 0 0,.slice none 0 0,[],[]⟩ (.slice none 0 0) path s0:=by
  rw[<-hr];have xy:∀k∈ub ([M.vE,M.vB,M.vT]++(M.cE++M.cB)),k<w6.heap.size/\w5.heap.size<=k:=λk J=>⟨hs.lt k J,hs.lo k J⟩;refine⟨xb,yb,⟨xt.low (by omega),pU _ _ _ _,pU _ _ _ _,pU _ _ _ _,pU _ _ _ _,pU _ _ _ _,kM.nil _ _,kM.nil _ _,λk J=>?_⟩,pU _ _ _ _,?_,by omega,?_⟩
  ·rw[FB]at J;have:=xy k J;omega
  ·show(p::([]++ub (ML.vals _))).Nodup;rw[FB,gJ];exact dB.2 ⟨λJ=>by have:=xy p J;omega,hs.nd⟩
  ·rintro k o ⟨rfl,rfl⟩;refine⟨xi,λJ=>?_⟩;have J:k∈p::([]++ub (ML.vals _)):=J;rw[FB,gJ]at J;rcases aX.1 J with e|J
   ·omega
   ·have:=xy k J;omega
 refine iQ xi (v:=M.vT) rfl ?_;rw[jH xt.oT.sl];have zw:=hL.ext xb;generalize hQ:nK fl.top s0=Q at hR;refine eJ.go (λst w'=>∃(i:Nat) (s1:MS) (L:ML) (vS:Value),st=[i64 (i:Nat)]/\i<=fl.top.length/\MR w w' p L vS path s1/\L.M=M/\s1.m.fl=fl/\s1.m.dir=dir/\ZD s1 i/\nK (fl.top.drop i) s1=Q)
  (λst _=>match st with|[.int _ i]=>fl.top.length-i.toNat|_=>0) ⟨0,s0,_,_,rfl,fW _,yi,rfl,by rw[<-hr],by rw[<-hr],by rw[<-hr];exact⟨aY _,fW _,aY _,aY _,aY _,aY _⟩,hQ⟩ ?_
 rintro st g3 w16 ⟨i,s1,L,vS,rfl,hi,hg,xn,hh,zc,xh,hq⟩;have yr:w16.heap[b10]?=some (.cells [M.vE,M.vB,M.vT].toArray FlT (0,0)):=(hg.fk b10 _ ⟨rfl,rfl⟩).1;have xj:FO w16 w.heap.size M fl:=by have:=hg.md.fo;rw[xn,hh]at this;exact this
 simp only[aF];rw[dT,bA];refine⟨λxk=>?_,λud=>?_⟩
 ·have xk:i<fl.top.length:=by omega
  obtain⟨k,J⟩:∃k,fl.top[i]?=some k:=⟨_,List.getElem?_eq_getElem xk⟩;have xl:=xd.top k (bI J);rw[dQ xk]at hq;have xm:=J;rw[List.getElem?_eq_getElem xk]at xm;injection xm with xm
  rw[xm]at hq;simp only[nK,hh]at hq;refine pX (i:=i) (x:=i64 (k:Nat)) xj.oT.sl (by rw[sQ];omega) (by unfold ints;rw[List.getElem?_map,J];rfl) ?_;refine iQ yr (v:=M.vB) rfl ?_;refine sX xj.oB.sl xj.bb.1 (by omega) xl ?_;have:=Nk (k:=k) (n:=i) (K:=λ_ w17=>aU .add (i64 (i:Nat)) (.int .i64 1) λt84=>(∃(i:Nat) (s1:MS) (L:ML) (vS:Value),[t84]=[i64 (i:Nat)]/\i<=fl.top.length/\MR w w17 p L vS path s1/\L.M=M/\s1.m.fl=fl/\s1.m.dir=dir/\ZD s1 i/\nK (fl.top.drop i) s1=Q)/\(match([t84]:List Value)with|[.int _ i]=>fl.top.length-i.toNat|_=>0)<(match([i64 (i:Nat)]:List Value)with|[.int _ i]=>fl.top.length-i.toNat|_=>0))
   hg (by rw[hh,xn];exact xd.fa M) (by rw[hh];exact xl) xh (by omega) (by rw[hh];exact xd.ll k xl)
   (λs' L' vS' w17 hz zp yh=>?_) (λc a hz=>?_)
  ·rw[xn]at this;exact this
  ·rw[hh]at hz;obtain⟨b1,b2,b3⟩:=Nq xh ((xd.fa M).fa k xl) hz;rw[hz]at hq;rw[cG,upi (by omega)];exact⟨⟨i+1,s',L',vS',rfl,by omega,yh,zp.trans xn,b2.trans hh,b3.trans zc,b1,hq⟩,by simp only[bC];omega⟩
  ·rw[hh]at hz;rw[hz]at hq;have hq:RC.bad c a=Q:=hq;rw[<-hq]at hR;exact(hj c path a hR.symm).low ho
 ·obtain rfl:i=fl.top.length:=by omega
  rw[fZ]at hq;simp only[nK]at hq;rw[<-hq]at hR hQ;simp only at hR;have zo:=(zE fl.top s0 s1 (by rw[<-hr];exact Jr _ _) (by rw[<-hr];exact xd.aok) hQ).1;have zb:∀x∈s1.src,x.length<=32:=λx hx=>Mm (JX (dir:=dir) (by rw[hr];exact hQ) x hx);have hv:=hL.ext hg.ch;refine iQ hv.hl (v:=vM) rfl ?_;rw[jH hv.ow.sl];refine iQ hv.hl (v:=vM) rfl ?_;refine hv.push (by have:=hg.ch.size;omega) (by omega) λvM1 w21 yu yo yf=>?_;have zk:=(CP.of hg hL hbase).child yu yo yf λL' zr k J=>by
   rcases bH.1 zr with h|h
   ·exact .inl ⟨L',h,J⟩
   ·rw[bR.1 h,Fh]at J;cases J
  have ym:s1.m.calls.length<=1000000:=by have:=xh.2.2.2.2.1;have:=xo.2.2;omega
  refine QV yd ho hL zk hd zo.sl ym zb (by rw[aP];show _+1<=16;omega) (by omega) (λcs mods' L' vM' Ls' w23 hcall yl zg=>?_) (λc q a hcall=>?_)
  ·rw[hcall]at hR;simp only at hR;have yg:mods.length<mods'.length:=by rw[aP]at zg;have:([Im]:List Md).length=1:=rfl;omega
   have j:=yl.ext (cP w23);generalize w23.drew=w24 at j;refine iQ j.lr.hl (v:=vM') rfl ?_;refine Vv (l:=L'.cells s1.m.dir) j.pm rfl ?_;have h1:(L'.cells s1.m.dir).all jD=true:=by
    have hd:=j.md;simp only[ML.cells,List.all_cons,List.all_nil,gE hd.fo.oE.sl,gE hd.fo.oB.sl,gE hd.fo.oT.sl,gE hd.oV.sl,gE hd.oL.sl,gE hd.oO.sl,gE hd.oR.sl,gE hd.oC.sl];rfl
   refine j.lr.store (i:=mods.length) (L:=L') (m:={s1.m with calls:=cs}) yg (j.md.low hbase) (λk J=>?_) h1 λw49 yt yn=>?_
   ·have:=j.vn k (by simp[AB,J]);exact⟨this.1,this.2.1⟩
   ·refine ye _ _ vM' w49 hR.symm yt (j.cg.then yn λk J e=>?_) j.nw λL2 zq k J=>?_
    ·rcases e with e|e
     ·exact .inl e
     ·exact .inr ((j.nw k e).resolve_right (by omega))
    ·rcases List.mem_or_eq_of_mem_set zq with h|rfl
     ·exact j.ls L2 h k J
     ·exact .inr (j.md.lt k J).2
  ·rw[hcall]at hR;exact hj c q a hR.symm
end
end
end Go.Proofs.YtjblfcfdeaagpaaGreatDoor
namespace Go.Proofs
section
open Go.Shelf
variable{w:World}{K:Q0}{cs:List Value}{G:Nat->Prop}{T:TypeId}{i:Nat}{n:Nat}{v:Value}{w':World}{P:Program}{c:UInt8}{S:Nat->Prop}
def Tryz.laysM316_ren:Go.Shelf.Ren:=⟨λ|316=>100|n=>n,λ|9=>9|3=>3|4=>4|37=>80|0=>0|127=>168|5=>5|n=>n,λ|n=>n⟩
theorem Tryz.laysM316:Go.Proofs.LaysM.n316 P0 Tryz.laysM316_ren:={
 mixed:=by kernel_rfl
 f316:=Tryz.func100.trans (congrArg some (by kernel_rfl))
 t0:=Tryz.underlying0
 a0:=Tryz.isAgg0
 z0:=Tryz.sizeOf0
 v0:=Tryz.zeroValue0
 t3:=Tryz.underlying3
 a3:=Tryz.isAgg3
 z3:=Tryz.sizeOf3
 v3:=Tryz.zeroValue3
 t4:=Tryz.underlying4
 a4:=Tryz.isAgg4
 z4:=Tryz.sizeOf4
 v4:=Tryz.zeroValue4
 t9:=Tryz.underlying9
 a9:=Tryz.isAgg9
 z9:=Tryz.sizeOf9
 v9:=Tryz.zeroValue9
 t37:=Tryz.underlying80
 a37:=Tryz.isAgg80
 z37:=Tryz.sizeOf80
 v37:=Tryz.zeroValue80
 t127:=Tryz.underlying168
 a127:=Tryz.isAgg168
 z127:=Tryz.sizeOf168
 v127:=Tryz.zeroValue168
 t5:=Tryz.underlying5
 a5:=Tryz.isAgg5
 z5:=Tryz.sizeOf5
 v5:=Tryz.zeroValue5
 i0:=by kernel_rfl
 i3:=by kernel_rfl
 i4:=by kernel_rfl
 i5:=by kernel_rfl
 i9:=by kernel_rfl
 i37:=by kernel_rfl
 i127:=by kernel_rfl}
open Go.RowKit in
theorem Tryz.stringslite_Clone(s:ByteArray)(w:World)(j:s.size<=281474976710656):
 Calls P0 100 #[.string s] w λe w'=>e=.returned (.string s)/\Below w.heap.size w w':=Any.stringslite_Clone Tryz.laysM316 s w j
end
end Go.Proofs
namespace Go.Proofs.YtjblfcfdeaagpaaGreatDoor
section
open Go Go.Eng Go.RowKit Go.Syn Go.Lex Go.Cfg
variable{w:World}{K:Q0}{cs:List Value}{G:Nat->Prop}{T:TypeId}{i:Nat}{n:Nat}{v:Value}{w':World}{P:Program}{c:UInt8}{S:Nat->Prop}
theorem Km(t:Str)(fl:Fl)(h:sJ t=.ok fl):WU fl:=by
 have o:=Bh t;rw[h]at o;obtain⟨_,f1,_⟩:=o;have j:(exL fl.ex).length=fl.ex.length:=by simp[exL]
 intro b hb a I;have:=f1.low a.e (by unfold yQ;exact List.mem_flatMap.2 ⟨b,hb,lQ.2 ⟨a,I,rfl⟩⟩);rw[j]at this;exact this
theorem Kk{a b:Value}{K:World->Prop}(j:K w):vY P0 50 [a,b] .returning w K:=by
 letI:=noX;refine NA .idle ?_;unfold ZI;rw[GH,bW];exact j
theorem Gq{a b d:Nat}{u:Value}{Ta Tb:TypeId}{K:World->Prop}(ha:w.heap[a]?=some (.cells [u].toArray Ta (0,0)))(hb:w.heap[b]?=some (.cells [v].toArray Tb (0,0)))(I:a≠b)
  (hK:∀w',Chg (λk=>k=a\/k=b) w w'->w'.heap[a]?=some (.cells [.slice none 0 0].toArray Ta (0,0))->w'.heap[b]?=some (.cells [.pointer (some ⟨d,0,none⟩)].toArray Tb (0,0))->K w'):
  vY P0 50 [.pointer (some ⟨a,0,none⟩),.pointer (some ⟨b,0,none⟩)] (.panicking [{v:=.iface DgI (.pointer (some ⟨d,0,none⟩)),recovered:=false}]) w K:=by
 letI:=noX;refine NA (.thrown _) ?_;unfold ZI;rw[Cj,cU,dC];refine⟨_,BO _ _,?_⟩;refine dD (l:=[.slice none 0 0]) (w:=w.drew) ha rfl rfl rfl λw2 hh hc o=>?_;refine⟨⟨_,BO _ _,rfl⟩,?_⟩;have U:=o.at (w:=w.drew) hb (λe=>I e.symm);refine jZ U rfl (by simp) λw3 hg J j=>?_;refine hK w3 ?_ (j.at hc I) (by rw[J];simp);exact((Chg.drew (Chg.refl _ w)).trans (o.mono λk _ e=>.inl e)).trans (j.mono λk _ e=>.inr e)
structure HJ(w:World)(B:Nat)(v:Value)(Ls:List ML)(mods:List Md):Prop where
 len:Ls.length=mods.length
 ow:Own w B ZK 9 v mods.length (Lh Ls mods)
 md:∀(i:Nat) (L:ML) (m:Md),Ls[i]?=some L->mods[i]?=some m->MdR w B L m
theorem HJ.ext{B:Nat}{Ls:List ML}{mods:List Md}(h:HJ w B v Ls mods)(j:Ext w w'):HJ w' B v Ls mods:=
 ⟨h.len,dP h.ow j λ_ _ e=>e,λi L m I o=>(h.md i L m I o).keep j λ_ _ e=>e⟩
theorem HJ.keep{B:Nat}{Ls:List ML}{mods:List Md}(h:HJ w B v Ls mods)(j:Chg S w w')(U:∀k,v.ownBlock=some k->¬S k)(J:∀L∈Ls,∀k∈ub L.vals,¬S k):HJ w' B v Ls mods:=
 ⟨h.len,dP h.ow j U,λi L m o I=>(h.md i L m o I).keep j (J L (bI o))⟩
theorem HJ.in_{B:Nat}{Ls:List ML}{mods:List Md}(h:HJ w B v Ls mods):(∀k,v.ownBlock=some k->B<=k)/\∀L∈Ls,∀k∈ub L.vals,B<=k:=by
 refine⟨λk j=>(kA h.ow j).2,λL I k j=>?_⟩;obtain⟨i,hi⟩:=List.getElem?_of_mem I;have o:=(List.getElem?_eq_some_iff.1 hi).1;exact((h.md i L _ hi (List.getElem?_eq_getElem (by rw[<-h.len];exact o))).lt k j).2
theorem HJ.low{B B':Nat}{Ls:List ML}{mods:List Md}(h:HJ w B v Ls mods)(hb:B'<=B):HJ w B' v Ls mods:=
 ⟨h.len,h.ow.base hb,λi L m o j=>(h.md i L m o j).low hb⟩
section
variable [HX]
theorem GL{w00:World}{fb fm:Nat}{fs:Vfs.MS}(hT:TabI w00)(j:Fx.FsB w00 fb fm fs)(o:Vfs.Ok fs):∀n,n<=4->ZL w00 fb fs (4-n) (qF (Dp fs) n)
 |0,_=>Mu hT j o (by omega) (.inl ⟨rfl,rfl⟩)
 |n+1,I=>by
  refine Mu (sub:=some (qF (Dp fs) n)) hT j o (by omega) (.inr ⟨by omega,_,rfl,?_,Qp Km n⟩)
  have:=GL hT j o n (by omega)
  rw[show 4-(n+1)+1=4-n by omega]
  exact this
theorem Ni{K:Q0}(j:∀w',Ext w w'->K (str []) w'):aI P0 52 [str []] w K:=by
 refine Ws ?_;unfold W52;refine kX (args:=#[str []]) Tryz.call100 ((Tryz.stringslite_Clone (ofL []) w (by rw[jG];decide)).mono ?_);rintro e w' ⟨rfl,hb⟩;exact⟨_,rfl,j w' (Chg.of_below hb)⟩
end
theorem Fp[HX]{fb fm:Nat}{fs:Vfs.MS}{K:Q0}(hT:TabI w)(xm:Fx.FsB w fb fm fs)(xn:Vfs.Ok fs)
  (xk:∀mods,qF (Dp fs) 4 [] []=.ok mods->∀v Ls w',Ext w w'->HJ w' w.heap.size v Ls mods->K (.tuple #[.agg [v].toArray,.pointer none]) w')
  (xd:∀c p a,qF (Dp fs) 4 [] []=.bad c p a->∀d w',Ext w w'->w.heap.size<=d->w'.heap[d]?=some (.cells [i64 c,str p,i64 a].toArray 48 (0,0))->K (.tuple #[.agg [.slice none 0 0].toArray,.pointer (some ⟨d,0,none⟩)]) w'):
  aI P0 20 [pA fb,str []] w K:=by
 refine WI ?_;unfold W20;refine cI λba w1 ha yc xf xi=>?_;refine cI λbd w2 yi yb J xa=>?_;have j:=xi.trans xa;have U:=xa.at xf id;letI inst:HX:=⟨λch x3=>vY P0 50 [.pointer (some ⟨ba,0,none⟩),.pointer (some ⟨bd,0,none⟩)] (.panicking ch) x3 λw3=>
  ldW true 1 (.pointer (some ⟨ba,0,none⟩)) w3 λr4=>
  ldW false 1 (.pointer (some ⟨bd,0,none⟩)) w3 λr5=>
  K (.tuple #[r4,r5]) w3⟩
 have xg:∀c p a,qF (Dp fs) 4 [] []=.bad c p a->TC w2 p c a:=by
  intro c p a hb d w' hx hd xo;refine Gq (hx.at U id) (hx.at J id) (by omega) λw5 xb xq xp=>?_;refine fQ xq rfl ?_;refine⟨_,by rw[cA,xp];rfl,?_⟩;have xw:w2.heap.size<=d:=hd;refine xd c p a hb d w5 ((j.trans hx).then xb λk hk e=>by omega) (by omega) (xb.at xo (by show¬(d=ba\/d=bd);omega))
 have xr:TabI w2:=tP hT j;have hL:=GL xr (xm.ext j) xn 4 (by omega);simp only[gM,dC,aB,aK,aL,aN];refine⟨by omega,?_⟩;refine fX (z:=[pA fb,.slice none 0 0]) λlp w7 yf ya xl xh=>?_;refine Ni λw8 hi=>?_;have I:=xh.trans hi;have xv:=hi.size;have xt:LR w8 w2.heap.size lp fb (.slice none 0 0) [] []:=
  ⟨hi.at xl id,rfl,pU _ _ _ _,λi L m h=>(by simp at h),λL h=>(by cases h),λe=>(by cases e),by omega⟩
 refine hL [] [] w8 lp (.slice none 0 0) [] _ I xt (by simp) (by simp) (λmods' Ls' vM' w9 hl o hq ye yd=>?_) (λc p a hb=>xg c p a hb);have hj:∀k,k<w2.heap.size->¬LT lp (.slice none 0 0) k:=λk hk e=>e.elim (λe=>by omega) (λe=>by cases e);have xe:=hq.at (I.at U id) (hj ba (mJ U));have xc:=hq.at (I.at J id) (hj bd (mJ J));have hz:Ext w2 w9:=I.then hq λk hk e=>(hj k hk e).elim;simp only[cQ,bD,bG,aH];refine iQ o.hl (v:=vM') rfl ?_;obtain⟨q,cap,ev,_⟩:=o.ow.sl.shape;have ho:=o.ow;rw[ev]at ho⊢;simp only[dZ,dC,aB,aK,aL];refine⟨by omega,?_⟩;refine dD (l:=[.slice q mods'.length cap]) xe rfl rfl rfl λw11 xy hv hh=>?_;have hs:=hh.at xc (by omega);refine jZ hs rfl (by simp) λw12 xx hr hg=>?_;have ht:=hg.at hv (by omega);refine Kk ?_;refine fQ ht rfl ?_;refine iQ (cs:=[.pointer none]) (T:=29) (by rw[hr];simp) (v:=.pointer none) rfl ?_;have hy:HJ w9 w2.heap.size (.slice q mods'.length cap) Ls' mods':=⟨o.len,ho,o.md⟩;have c2:Chg (λk=>k=ba\/k=bd) w9 w12:=(hh.mono λ_ _ e=>.inl e).trans (hg.mono λ_ _ e=>.inr e);have yh:=mJ U;have yg:=mJ J;refine xk mods' hl _ Ls' w12 ((j.trans hz).then c2 λk hk e=>by omega) ((hy.keep c2 (λk hk e=>?_) (λL hL k hk e=>?_)).low j.size)
 ·have:=hy.in_.1 k hk;omega
 ·have:=hy.in_.2 L hL k hk;omega
end
end Go.Proofs.YtjblfcfdeaagpaaGreatDoor
namespace Go.Proofs.YtjblfcfdeaagpaaGreatDoor.Fx
section
open Go Go.Eng Go.Vfs
variable{w:World}{K:Q0}{cs:List Value}{G:Nat->Prop}{T:TypeId}{i:Nat}{n:Nat}{v:Value}{w':World}{P:Program}{c:UInt8}{S:Nat->Prop}
abbrev RT:TypeId:=173
abbrev fc(y:Str×MF):List Value:=[str y.1,str y.2.data,str y.2.safe,.bool y.2.saved]
def BI(l:jW):List Value:=l.flatMap fc
theorem QK(l:jW):(BI l).length=l.length*4:=by
 induction l with
 |nil=>rfl
 |cons y r ih=>simp only[BI,fY,aP,aB,aK]at ih⊢;omega
theorem QL(a b:jW):BI (a++b)=BI a++BI b:=by simp[BI]
theorem JE:∀(l:jW) (i j:Nat) (y:Str×MF),j<4->l[i]?=some y->(BI l)[i*4+j]?=(fc y)[j]?
 |[],i,_,_,_,h=>by simp at h
 |z::r,0,j,y,o,h=>by
  simp only[List.getElem?_cons_zero,aV]at h
  subst h
  simp only[BI,fY,Nat.zero_mul,aH]
  rw[List.getElem?_append_left (by simpa using o)]
 |z::r,i+1,j,y,o,h=>by
  simp only[List.getElem?_cons_succ]at h
  have:=JE r i j y o h
  rw[<-this]
  simp only[BI,fY]
  rw[List.getElem?_append_right (by simp;omega)]
  congr 1
  simp
  omega
theorem QJ(l:jW):∀u∈BI l,jD u=true:=by
 intro u o;obtain⟨y,_,j⟩:=List.mem_flatMap.1 o;simp only[fc,aX,bQ,fF]at j;rcases j with rfl|rfl|rfl|rfl<;>rfl
abbrev Tp(w:World)(v:Value)(l:jW):Prop:=gD w RT v l.length (BI l)
theorem VG:qB P0 53 RT 4 56:=⟨by kernel_rfl,by kernel_rfl,by decide⟩
theorem VA{l:jW}{y:Str×MF}{K:Value->Prop}(h:Tp w v l)(hi:l[i]?=some y)
  (U:∀b o c fr,w.heap[b]?=some (.cells c RT fr)->c[o]?=some (str y.1)->c[o+1]?=some (str y.2.data)->c[o+2]?=some (str y.2.safe)->c[o+3]?=some (.bool y.2.saved)->K (.pointer (some ⟨b,o,none⟩))):iN none 4 v (i64 i) K:=by
 refine Cu (size:=4) h (QK l) (by omega) (List.getElem?_eq_some_iff.1 hi).1 λb o c fr hb J=>?_;have g:=λj (I:j<4)=>(J j I).trans (JE l i j y I hi);exact U b o c fr hb (g 0 (by omega)) (g 1 (by omega)) (g 2 (by omega)) (g 3 (by omega))
theorem xN{z l:List Value}{K:List Value->Prop}(o:z.length=n)(hl:l.length=n)(j:K l):iX z [(0,n,.agg l.toArray)] K:=by
 refine⟨by simp[Value.cells,hl],by omega,?_⟩;have:List.take 0 z++((Value.agg l.toArray).cells.toList++List.drop (0+n) z)=l:=by
  rw[aH,gL (by omega)];simp[Value.cells]
 rw[this];exact j
theorem Jl(w:World)(base:Nat):Own w base RT 4 (.slice none 0 0) 0 (BI []):=⟨rfl,.inl ⟨rfl,rfl⟩⟩
theorem uH{base:Nat}{l:jW}{y:Str×MF}{K:Q0}(h:Own w base RT 4 v l.length (BI l))(hb:base<=w.heap.size)(hl:l.length<=1000000)
  (hK:∀v' w',Own w' base RT 4 v' (l++[y]).length (BI (l++[y]))->Chg (Du w base RT) w w'->K v' w'):
  fH P0 (Builtin.append_ #[53,53] 53 #[v,.slice (some ⟨w.heap.size,0,none⟩) 1 1]) (w.alloc (.cells (fc y).toArray RT)) K:=by
 have j:Ext w (w.alloc (.cells (fc y).toArray RT)):=(by repeat (first|assumption|exact Chg.refl _ _|refine Chg.drew ?_|refine Chg.alloc ?_ _|refine Chg.set ?_ (by first|exact .inl rfl|exact .inr (by omega)|exact .inr (by simp only[dH,size_alloc,size_drew];omega)|(left;simp;done)) _|exact Chg.of_ext (by assumption)));have J:=(zW (w:=w) (base:=base) (e:=RT) (size:=4) (n:=1) (cs:=fc y) hb rfl (by omega)).sl;refine Df VG (base:=base) (h.ext j) J (m:=1) rfl (λu I=>QJ [y] u (by simpa[BI]using I)) (by omega) (by omega) (by rw[size_alloc];omega) λv' w' h' U _=>?_;refine hK v' w' ?_ (Chg.then (S:=Du w base RT) (Chg.of_ext j) U ?_)
 ·rw[QL,aP];have:BI [y]=fc y:=by simp[BI]
  rw[this];exact h'
 ·rintro k hk ⟨h1,c,o⟩;exact⟨h1,c,by rw[AM _ _ _ (by omega)]at o;exact o⟩
theorem CF(p:Str):uX p=(!p.any badB&&(decide (1<=p.length)&&decide (p.length<=64))):=by
 unfold uX;cases p.any badB<;>simp
theorem KL[HX]{p:Str}{K:Q0}(hp:p.length<=9223372036854775807)(U:K (.bool (uX p)) w):aI P0 90 [str p] w K:=by
 refine VZ ?_;unfold W90;refine eJ.go (λst w'=>∃i,i<=p.length/\st=[i64 (i:Nat)]/\w'=w/\(p.take i).any badB=false) (λst _=>match st with|[.int _ i]=>p.length-i.toNat|_=>0) ⟨0,fW _,rfl,rfl,rfl⟩ ?_;rintro st g w' ⟨i,hi,rfl,rfl,o⟩;simp(disch:=omega)only[kO,jU,Nat.reduceLT,aQ,aM,bN,aD,aG,aC,aA,Nat.reduceAdd,cJ,reduceCtorEq,Nat.add_zero,bA];refine⟨λJ=>?_,λho=>?_⟩
 ·have J:i<p.length:=by omega
  obtain⟨c,I⟩:∃c,p[i]?=some c:=⟨_,List.getElem?_eq_getElem J⟩;have hq:∀{P:UInt8->Prop},P c->∃x,p[((i:Nat):Int).toNat]?=some x/\P x:=λh=>⟨c,by simpa using I,h⟩;refine⟨by omega,c,by simpa using I,?_⟩;have j:badB c=(decide (((c.toNat:Nat):Int)=0)||(decide (((c.toNat:Nat):Int)=10)||decide (((c.toNat:Nat):Int)=32))):=by
   have e:∀y:UInt8,(c==y)=decide (((c.toNat:Nat):Int)=y.toNat):=by
    intro y;rw[nA,gR,fD];constructor
    ·rintro rfl;rfl
    ·intro h;exact lT.1 (by omega)
   unfold badB;rw[e 0,e 10,e 32,Bool.or_assoc];rfl
  have hnext:(p.take (i+1)).any badB=badB c:=by
   rw[pJ,I,List.any_append,o];simp
  have Af:badB c=true->uX p=false:=by
   intro hb;rw[CF];have:p.any badB=true:=mA.2 ⟨c,bI I,hb⟩;simp[this]
  by_cases h0:((c.toNat:Nat):Int)=0
  ·have e0:decide (((c.toNat:Nat):Int)=0)=true:=bK h0;have hb:badB c=true:=by rw[j,e0];rfl
   (try simp(disch:=omega)only[kO,jU,Nat.reduceLT,aQ,aM,bN,aD,aG,aC,aA,Nat.reduceAdd,cJ,reduceCtorEq,Nat.add_zero,e0])
   refine GdW.f λg=>?_
   (try simp(disch:=omega)only[kO,jU,Nat.reduceLT,aQ,aM,bN,aD,aG,aC,aA,Nat.reduceAdd,cJ,reduceCtorEq,Nat.add_zero])
   refine GdW.f λg=>?_
   (try simp(disch:=omega)only[kO,jU,Nat.reduceLT,aQ,aM,bN,aD,aG,aC,aA,Nat.reduceAdd,cJ,reduceCtorEq,Nat.add_zero])
   rw[<-Af hb];exact U
  ·have e0:decide (((c.toNat:Nat):Int)=0)=false:=cM h0
   (try simp(disch:=omega)only[kO,jU,Nat.reduceLT,aQ,aM,bN,aD,aG,aC,aA,Nat.reduceAdd,cJ,reduceCtorEq,Nat.add_zero,e0])
   refine GdW.t ?_
   (try simp(disch:=omega)only[kO,jU,Nat.reduceLT,aQ,aM,bN,aD,aG,aC,aA,Nat.reduceAdd,cJ,reduceCtorEq,Nat.add_zero])
   refine⟨by omega,c,by simpa using I,?_⟩;intro g
   (try simp(disch:=omega)only[kO,jU,Nat.reduceLT,aQ,aM,bN,aD,aG,aC,aA,Nat.reduceAdd,cJ,reduceCtorEq,Nat.add_zero])
   by_cases h1:((c.toNat:Nat):Int)=10
   ·have e1:decide (((c.toNat:Nat):Int)=10)=true:=bK h1;have hb:badB c=true:=by rw[j,e1];simp
    (try simp(disch:=omega)only[kO,jU,Nat.reduceLT,aQ,aM,bN,aD,aG,aC,aA,Nat.reduceAdd,cJ,reduceCtorEq,Nat.add_zero,e1])
    refine GdW.f λg=>?_
    (try simp(disch:=omega)only[kO,jU,Nat.reduceLT,aQ,aM,bN,aD,aG,aC,aA,Nat.reduceAdd,cJ,reduceCtorEq,Nat.add_zero])
    rw[<-Af hb];exact U
   ·have e1:decide (((c.toNat:Nat):Int)=10)=false:=cM h1
    (try simp(disch:=omega)only[kO,jU,Nat.reduceLT,aQ,aM,bN,aD,aG,aC,aA,Nat.reduceAdd,cJ,reduceCtorEq,Nat.add_zero,e1])
    refine GdW.t ?_
    (try simp(disch:=omega)only[kO,jU,Nat.reduceLT,aQ,aM,bN,aD,aG,aC,aA,Nat.reduceAdd,cJ,reduceCtorEq,Nat.add_zero])
    refine⟨by omega,c,by simpa using I,?_⟩;intro g;by_cases h2:((c.toNat:Nat):Int)=32
    ·have e2:decide (((c.toNat:Nat):Int)=32)=true:=bK h2;have hb:badB c=true:=by rw[j,e2];simp
     (try simp(disch:=omega)only[kO,jU,Nat.reduceLT,aQ,aM,bN,aD,aG,aC,aA,Nat.reduceAdd,cJ,reduceCtorEq,Nat.add_zero,e2])
     rw[<-Af hb];exact U
    ·have e2:decide (((c.toNat:Nat):Int)=32)=false:=cM h2;have hb:badB c=false:=by rw[j,e0,e1,e2];rfl
     (try simp(disch:=omega)only[kO,jU,Nat.reduceLT,aQ,aM,bN,aD,aG,aC,aA,Nat.reduceAdd,cJ,reduceCtorEq,Nat.add_zero,e2])
     have hw:IntKind.i64.wrap ((i:Int)+1)=((i+1:Nat):Int):=by rw[fE (by omega) (by omega)];simp
     rw[hw];exact⟨⟨i+1,by omega,rfl,by rw[hnext];exact hb⟩,by simp only[bC];omega⟩
 ·rw[iJ (by omega)]at o;by_cases h1:1<=p.length
  ·have e1:decide ((1:Int)<=(p.length:Int))=true:=bK (by omega)
   (try simp(disch:=omega)only[kO,jU,Nat.reduceLT,aQ,aM,bN,aD,aG,aC,aA,Nat.reduceAdd,cJ,reduceCtorEq,Nat.add_zero,e1])
   refine GdW.t ?_
   (try simp(disch:=omega)only[kO,jU,Nat.reduceLT,aQ,aM,bN,aD,aG,aC,aA,Nat.reduceAdd,cJ,reduceCtorEq,Nat.add_zero])
   intro g
   (try simp(disch:=omega)only[kO,jU,Nat.reduceLT,aQ,aM,bN,aD,aG,aC,aA,Nat.reduceAdd,cJ,reduceCtorEq,Nat.add_zero])
   have:uX p=decide ((p.length:Int)<=64):=by
    rw[CF,o];simp only[cW,dG,h1,cY];rw[decide_eq_decide];omega
   rw[<-this];exact U
  ·have e1:decide ((1:Int)<=(p.length:Int))=false:=cM (by omega)
   (try simp(disch:=omega)only[kO,jU,Nat.reduceLT,aQ,aM,bN,aD,aG,aC,aA,Nat.reduceAdd,cJ,reduceCtorEq,Nat.add_zero,e1])
   refine GdW.f λg=>?_
   (try simp(disch:=omega)only[kO,jU,Nat.reduceLT,aQ,aM,bN,aD,aG,aC,aA,Nat.reduceAdd,cJ,reduceCtorEq,Nat.add_zero])
   have:uX p=false:=by rw[CF];simp[h1]
   rw[<-this];exact U
def RefV(w:World)(v:Value)(s:MS):Prop:=∃p c,v=.agg [.slice p s.files.length c,i64 s.steps,i64 s.left,.bool s.dead].toArray/\Tp w (.slice p s.files.length c) s.files
theorem RefV.chg{s:MS}(h:RefV w v s)(j:Chg S w w')(o:∀k c fr,S k->w.heap[k]?≠some (.cells c RT fr)):RefV w' v s:=by
 obtain⟨p,c,e,h⟩:=h;exact⟨p,c,e,h.chg j o⟩
theorem RefV.ext{s:MS}(h:RefV w v s)(j:Ext w w'):RefV w' v s:=h.chg j λ_ _ _ e=>e.elim
theorem Mv(a b:jW)(p:Str):lkM (a++b) p=(lkM a p).or (lkM b p):=by
 induction a with
 |nil=>simp[lkM]
 |cons y r ih=>
  obtain⟨k,x⟩:=y;simp only[gH,lkM];split
  ·rfl
  ·exact ih
theorem Lo(a b:jW)(p:Str):wo (a++b) p=wo a p++wo b p:=by
 induction a with
 |nil=>rfl
 |cons y r ih=>
  obtain⟨k,x⟩:=y;simp only[gH,wo];split
  ·exact ih
  ·rw[ih];rfl
theorem VL{l:jW}{y:Str×MF}(h:l[i]?=some y):l=l.take i++y::l.drop (i+1):=by
 have j:l.drop i=y::l.drop (i+1):=by
  obtain⟨hi,e⟩:=List.getElem?_eq_some_iff.1 h;rw[dQ hi,e]
 rw[<-j,rZ]
theorem xL{l:jW}{y:Str×MF}(h:l[i]?=some y):l.take (i+1)=l.take i++[y]:=by rw[pJ,h];rfl
theorem QM[HX]{s:MS}{p:Str}{K:Q0}(h:RefV w v s)(hn:s.files.length<=64)
  (hK:∀r w',Ext w w'->((r=-1/\lkM s.files p=none)\/∃(i:Nat) (x:MF),r=(i:Int)/\s.files[i]?=some (p,x)/\lkM s.files p=some x)->K (i64 r) w'):aI P0 89 [v,str p] w K:=by
 obtain⟨sp,sc,rfl,hl⟩:=h;refine Wa ?_;unfold W89;simp(disch:=omega)only[kO,jU,Nat.reduceLT,aQ,aM,bN,aD,aG,aC,aA,Nat.reduceAdd,cJ,reduceCtorEq,Nat.add_zero];generalize J:(World.alloc _ _)=w1;have hx:Ext w w1:=by subst J;exact(by repeat (first|assumption|exact Chg.refl _ _|refine Chg.drew ?_|refine Chg.alloc ?_ _|refine Chg.set ?_ (by first|exact .inl rfl|exact .inr (by omega)|exact .inr (by simp only[dH,size_alloc,size_drew];omega)|(left;simp;done)) _|exact Chg.of_ext (by assumption)))
 have hh:w1.heap[w.heap.size]?=some (.cells #[.slice sp s.files.length sc,i64 s.steps,i64 s.left,.bool s.dead] 55 (0,0)):=by subst J;simp(disch:=omega)only[kO,jU,Nat.reduceLT,aQ,aM,bN,aD,aG,aC,aA,Nat.reduceAdd,cJ,reduceCtorEq,Nat.add_zero]
 clear J;refine eJ.go (λst w'=>∃i,i<=s.files.length/\st=[i64 (i:Nat)]/\w'=w1/\lkM (s.files.take i) p=none) (λst _=>match st with|[.int _ i]=>s.files.length-i.toNat|_=>0) ⟨0,fW _,rfl,rfl,rfl⟩ ?_;rintro st g w' ⟨i,hi,rfl,rfl,I⟩;simp(disch:=omega)only[kO,jU,Nat.reduceLT,aQ,aM,bN,aD,aG,aC,aA,Nat.reduceAdd,cJ,reduceCtorEq,Nat.add_zero,bA,hh];refine⟨λU=>?_,λho=>?_⟩
 ·have U:i<s.files.length:=by omega
  obtain⟨⟨q,x⟩,j⟩:∃y,s.files[i]?=some y:=⟨_,List.getElem?_eq_getElem U⟩;refine VA (hl.ext hx) j λb o c fr hb h0 _ _ _=>?_;simp(disch:=omega)only[kO,jU,Nat.reduceLT,aQ,aM,bN,aD,aG,aC,aA,Nat.reduceAdd,cJ,reduceCtorEq,Nat.add_zero,hb,h0,bA];refine⟨λhq=>?_,λhq=>?_⟩
  ·subst hq;refine hK _ _ hx (.inr ⟨i,x,rfl,j,?_⟩);rw[VL j,Mv,I];simp[lkM]
  ·have hw:IntKind.i64.wrap ((i:Int)+1)=((i+1:Nat):Int):=by rw[fE (by omega) (by omega)];simp
   rw[hw];refine⟨⟨i+1,by omega,rfl,?_⟩,by simp only[bC];omega⟩;rw[xL j,Mv,I];simp[lkM,hq]
 ·rw[iJ (by omega)]at I;exact hK _ _ hx (.inl ⟨rfl,I⟩)
theorem FS[HX]{l:jW}{p:Str}{K:Q0}(h:Tp w v l)(hn:l.length<=100)
  (hK:∀v' w',Tp w' v' (wo l p)->Ext w w'->K v' w'):aI P0 132 [v,str p] w K:=by
 refine SN ?_;unfold Zj;rw[jH h];refine eJ.go (λst w'=>∃i u,i<=l.length/\st=[u,i64 (i:Nat)]/\Own w' w.heap.size RT 4 u (wo (l.take i) p).length (BI (wo (l.take i) p))/\Ext w w') (λst _=>match st with|[_,.int _ i]=>l.length-i.toNat|_=>0)
  ⟨0,_,fW _,rfl,Jl _ _,Chg.refl _ _⟩ ?_
 rintro st g w' ⟨i,u,hi,rfl,hu,J⟩;have hh:=gD.ext h J;simp(disch:=omega)only[kO,jU,Nat.reduceLT,aQ,aM,bN,aD,aG,aC,aA,Nat.reduceAdd,cJ,reduceCtorEq,Nat.add_zero,bA];refine⟨λhg=>?_,λhv=>?_⟩
 ·have hg:i<l.length:=by omega
  obtain⟨⟨q,x⟩,j⟩:∃y,l[i]?=some y:=⟨_,List.getElem?_eq_getElem hg⟩;have hs:(wo (l.take i) p).length<=100:=by have:=(AA (l.take i) p).length_le;rw[cO]at this;omega
  refine cX.cut (λs3 w3=>∃u,s3=[u]/\Own w3 w.heap.size RT 4 u (wo (l.take (i+1)) p).length (BI (wo (l.take (i+1)) p))/\Ext w w3) ?_ ?_
  ·refine VA hh j λb o c fr hb h0 _ _ _=>?_;simp(disch:=omega)only[kO,jU,Nat.reduceLT,aQ,aM,bN,aD,aG,aC,aA,Nat.reduceAdd,cJ,reduceCtorEq,Nat.add_zero,hb,h0,bA];refine⟨λU=>?_,λU=>?_⟩
   ·refine VA hh j λb o c fr hb h0 h1 h2 h3=>?_;simp(disch:=omega)only[kO,jU,Nat.reduceLT,aQ,aM,bN,aD,aG,aC,aA,Nat.reduceAdd,cJ,reduceCtorEq,Nat.add_zero,hb,h0,h1,h2,h3];refine xN rfl rfl ?_;refine uH (y:=(q,x)) hu (by have:=J.size;omega) (by omega) λu' w3 I hc=>?_;refine⟨u',rfl,?_,J.then hc λk hk e=>by have:=e.1;omega⟩;rw[xL j,Lo];simp only[wo,aJ U];exact I
   ·have U:q=p:=by simpa using U
    refine⟨u,rfl,?_,J⟩;rw[xL j,Lo];simp only[wo,aO U,eZ];exact hu
  ·rintro s3 g3 w3 ⟨u',rfl,I,ho⟩;have hw:IntKind.i64.wrap ((i:Int)+1)=((i+1:Nat):Int):=by rw[fE (by omega) (by omega)];simp
   simp(disch:=omega)only[kO,jU,Nat.reduceLT,aQ,aM,bN,aD,aG,aC,aA,Nat.reduceAdd,cJ,reduceCtorEq,Nat.add_zero,hw];exact⟨⟨i+1,u',by omega,rfl,I,ho⟩,by simp only[bC];omega⟩
 ·rw[iJ (by omega)]at hu;exact hK _ _ hu.sl J
theorem Cw(a b:jW)(p:Str)(x:MF)(h:∀y∈a,Op.bytesLess p y.1=false):ins (a++b) p x=a++ins b p x:=by
 induction a with
 |nil=>rfl
 |cons y r ih=>
  obtain⟨k,u⟩:=y;have:=h _ aW;simp only[gH,ins,this,oH,rN];rw[ih λz j=>h z (aE _ j)]
theorem GV(a b:jW)(p:Str)(x:MF)(h:∃y∈a,Op.bytesLess p y.1=true):ins (a++b) p x=ins a p x++b:=by
 induction a with
 |nil=>obtain⟨y,I,_⟩:=h;cases I
 |cons y r ih=>
  obtain⟨k,u⟩:=y;simp only[gH,ins];split
  ·rfl
  ·rename_i J;obtain⟨z,o,j⟩:=h;rcases aX.1 o with rfl|o
   ·exact absurd j J
   ·rw[ih ⟨z,o,j⟩];rfl
theorem MJ(a:jW)(p:Str)(x:MF)(h:∀y∈a,Op.bytesLess p y.1=false):ins a p x=a++[(p,x)]:=by
 have:=Cw a [] p x h;simpa[ins]using this
theorem Qw{s:Nat}{i:Value}{Φ:Value->Prop}(h:iN none s v i Φ):∃x,Φ x/\∀K:Value->Prop,K x->iN none s v i K:=by
 unfold iN at h⊢;split at h
 all_goals first
  |exact h.elim
  |exact⟨_,h.2.2,λK j=>⟨h.1,h.2.1,j⟩⟩
theorem GqW.t{A:(Value->Prop)->Prop}{B:Value->Prop}(v:Value)(o:A (λx=>x=v))(j:B v):GqW true A B:=⟨v,λ_=>o,(λh=>by cases h),j⟩
theorem GqW.f{A:(Value->Prop)->Prop}{B:Value->Prop}(h:B undef):GqW false A B:=⟨undef,(λh=>by cases h),λ_=>rfl,h⟩
theorem Lp[HX]{l:jW}{p:Str}{x:MF}{K:Q0}(h:Tp w v l)(hn:l.length<=100)
  (hK:∀v' w',Tp w' v' (HL l p x)->Ext w w'->K v' w'):aI P0 92 [v,.agg (fc (p,x)).toArray] w K:=by
 refine VX ?_;unfold W92;simp(disch:=omega)only[kO,jU,Nat.reduceLT,aQ,aM,bN,aD,aG,aC,aA,Nat.reduceAdd,cJ,reduceCtorEq,Nat.add_zero];generalize xd:(World.alloc _ _)=w1;have xg:Ext w w1:=by subst xd;exact(by repeat (first|assumption|exact Chg.refl _ _|refine Chg.drew ?_|refine Chg.alloc ?_ _|refine Chg.set ?_ (by first|exact .inl rfl|exact .inr (by omega)|exact .inr (by simp only[dH,size_alloc,size_drew];omega)|(left;simp;done)) _|exact Chg.of_ext (by assumption)))
 have xm:w1.heap[w.heap.size]?=some (.cells #[str p,str x.data,str x.safe,.bool x.saved] 173 (0,0)):=by subst xd;simp(disch:=omega)only[kO,jU,Nat.reduceLT,aQ,aM,bN,aD,aG,aC,aA,Nat.reduceAdd,cJ,reduceCtorEq,Nat.add_zero]
 clear xd;have xb:w.heap.size<w1.heap.size:=(Array.getElem?_eq_some_iff.1 xm).1;refine FS (h.ext xg) hn λt w2 ht xc=>?_;have xz:(wo l p).length<=100:=dI (AA l p).length_le hn;have xl:w2.heap[w.heap.size]?=_:=(xc.heap _ xb id).trans xm;have xi:=cV xb xc.size;have hq:=xg.trans xc;rw[jH ht];have xk:HL l p x=ins (wo l p) p x:=rfl;rw[xk]at hK;generalize wo l p=L at*
 refine eJ.go (λst w'=>∃i u d,i<=L.length/\st=[u,.bool d,i64 (i:Nat)]/\Ext w2 w'/\
   ((d=false/\(∀y∈L.take i,Op.bytesLess p y.1=false)/\Own w' w2.heap.size RT 4 u (L.take i).length (BI (L.take i)))\/
    (d=true/\(∃y∈L.take i,Op.bytesLess p y.1=true)/\Own w' w2.heap.size RT 4 u (ins (L.take i) p x).length (BI (ins (L.take i) p x))))) (λst _=>match st with|[_,_,.int _ i]=>L.length-i.toNat|_=>0)
  ⟨0,_,false,fW _,rfl,Chg.refl _ _,.inl ⟨rfl,by simp,Jl _ _⟩⟩ ?_
 rintro st g w' ⟨i,u,d,hi,rfl,hx,xe⟩;have xu:=gD.ext ht hx;have hs:w'.heap[w.heap.size]?=_:=(hx.heap _ xi id).trans xl;have xj:∀j,(ins (L.take j) p x).length<=102:=λj=>by
  rw[(GU _ _ _).length_eq];rw[aB,cO];omega
 simp(disch:=omega)only[kO,jU,Nat.reduceLT,aQ,aM,bN,aD,aG,aC,aA,Nat.reduceAdd,cJ,reduceCtorEq,Nat.add_zero,bA];refine⟨λhg=>?_,λya=>?_⟩
 ·have hg:i<L.length:=by omega
  obtain⟨y,hr⟩:∃y,L[i]?=some y:=⟨_,List.getElem?_eq_getElem hg⟩;have ho:=xL hr;have xy:(L.take i).length<=100:=by rw[cO];omega
  refine cX.cut (λs5 w5=>∃u5 d5,s5=[u5,.bool d5]/\Ext w2 w5/\
   ((d5=false/\Op.bytesLess p y.1=false/\(∀y∈L.take i,Op.bytesLess p y.1=false)/\Own w5 w2.heap.size RT 4 u5 (L.take i).length (BI (L.take i)))\/
    (d5=true/\((∃y∈L.take i,Op.bytesLess p y.1=true)/\Own w5 w2.heap.size RT 4 u5 (ins (L.take i) p x).length (BI (ins (L.take i) p x))\/
      Op.bytesLess p y.1=true/\(∀y∈L.take i,Op.bytesLess p y.1=false)/\Own w5 w2.heap.size RT 4 u5 (L.take i++[(p,x)]).length (BI (L.take i++[(p,x)])))))) ?_ ?_
  ·rcases xe with⟨rfl,U,hu⟩|⟨rfl,J,hu⟩
   ·(try simp(disch:=omega)only[kO,jU,Nat.reduceLT,aQ,aM,bN,aD,aG,aC,aA,Nat.reduceAdd,cJ,reduceCtorEq,Nat.add_zero])
    refine GqW.t (.pointer (some ⟨w.heap.size,0,none⟩)) rfl ?_;refine GqW.t (str p) (by simp(disch:=omega)only[kO,jU,Nat.reduceLT,aQ,aM,bN,aD,aG,aC,aA,Nat.reduceAdd,cJ,reduceCtorEq,Nat.add_zero,hs]) ?_;refine GqW.t t rfl ?_;refine GqW.t (i64 (i:Nat)) rfl ?_;obtain⟨px,⟨b,o,c,fr,rfl,hb,h0⟩,xt⟩:=Qw (VA (K:=λz=>∃b o c fr,z=.pointer (some ⟨b,o,none⟩)/\w'.heap[b]?=some (.cells c RT fr)/\c[o]?=some (str y.1)) xu hr λb o c fr hb h0 _ _ _=>⟨b,o,c,fr,rfl,hb,h0⟩);refine GqW.t _ (xt _ rfl) ?_;refine GqW.t (.pointer (some ⟨b,o,none⟩)) rfl ?_;refine GqW.t (str y.1) (by simp(disch:=omega)only[kO,jU,Nat.reduceLT,aQ,aM,bN,aD,aG,aC,aA,Nat.reduceAdd,cJ,reduceCtorEq,Nat.add_zero,hb,h0]) ?_;refine GqW.t (.bool (Op.bytesLess p y.1)) (by simp(disch:=omega)only[kO,jU,Nat.reduceLT,aQ,aM,bN,aD,aG,aC,aA,Nat.reduceAdd,cJ,reduceCtorEq,Nat.add_zero]) ?_;cases hg:Op.bytesLess p y.1 with
    |true=>
     simp(disch:=omega)only[kO,jU,Nat.reduceLT,aQ,aM,bN,aD,aG,aC,aA,Nat.reduceAdd,cJ,reduceCtorEq,Nat.add_zero,hs];refine xN rfl rfl ?_;have xf:Ext w' w'.drew:=(by repeat (first|assumption|exact Chg.refl _ _|refine Chg.drew ?_|refine Chg.alloc ?_ _|refine Chg.set ?_ (by first|exact .inl rfl|exact .inr (by omega)|exact .inr (by simp only[dH,size_alloc,size_drew];omega)|(left;simp;done)) _|exact Chg.of_ext (by assumption)));refine uH (w:=w'.drew) (y:=(p,x)) (hu.ext xf) (by have:=hx.size;simp only[size_drew];omega) (by omega) λu' w3 I hc=>?_;exact⟨u',true,rfl,(hx.trans xf).then hc λk hk e=>by have:=e.1;omega,.inr ⟨rfl,.inr ⟨U,I⟩⟩⟩
    |false=>
     simp(disch:=omega)only[kO,jU,Nat.reduceLT,aQ,aM,bN,aD,aG,aC,aA,Nat.reduceAdd,cJ,reduceCtorEq,Nat.add_zero];exact⟨u,false,rfl,hx.drew,.inl ⟨rfl,U,hu.ext (by repeat (first|assumption|exact Chg.refl _ _|refine Chg.drew ?_|refine Chg.alloc ?_ _|refine Chg.set ?_ (by first|exact .inl rfl|exact .inr (by omega)|exact .inr (by simp only[dH,size_alloc,size_drew];omega)|(left;simp;done)) _|exact Chg.of_ext (by assumption)))⟩⟩
   ·(try simp(disch:=omega)only[kO,jU,Nat.reduceLT,aQ,aM,bN,aD,aG,aC,aA,Nat.reduceAdd,cJ,reduceCtorEq,Nat.add_zero])
    refine GqW.f ?_;refine GqW.f ?_;refine GqW.f ?_;refine GqW.f ?_;refine GqW.f ?_;refine GqW.f ?_;refine GqW.f ?_;refine GqW.f ?_
    (try simp(disch:=omega)only[kO,jU,Nat.reduceLT,aQ,aM,bN,aD,aG,aC,aA,Nat.reduceAdd,cJ,reduceCtorEq,Nat.add_zero])
    exact⟨u,true,rfl,hx.drew,.inr ⟨rfl,.inl ⟨J,hu.ext (by repeat (first|assumption|exact Chg.refl _ _|refine Chg.drew ?_|refine Chg.alloc ?_ _|refine Chg.set ?_ (by first|exact .inl rfl|exact .inr (by omega)|exact .inr (by simp only[dH,size_alloc,size_drew];omega)|(left;simp;done)) _|exact Chg.of_ext (by assumption)))⟩⟩⟩
  ·rintro s5 g5 w5 ⟨u5,d5,rfl,hh,xh⟩;simp(disch:=omega)only[kO,jU,Nat.reduceLT,aQ,aM,bN,aD,aG,aC,aA,Nat.reduceAdd,cJ,reduceCtorEq,Nat.add_zero];refine VA (gD.ext ht hh) hr λb o c fr hb h0 h1 h2 h3=>?_;simp(disch:=omega)only[kO,jU,Nat.reduceLT,aQ,aM,bN,aD,aG,aC,aA,Nat.reduceAdd,cJ,reduceCtorEq,Nat.add_zero,hb,h0,h1,h2,h3];refine xN rfl rfl ?_;have hw:IntKind.i64.wrap ((i:Int)+1)=((i+1:Nat):Int):=by rw[fE (by omega) (by omega)];simp
   rw[hw];rcases xh with⟨rfl,hg,U,hu⟩|⟨rfl,⟨J,hu⟩|⟨hg,U,hu⟩⟩
   ·refine uH (y:=y) hu (by have:=hh.size;omega) (by omega) λu' w3 I hc=>?_;refine⟨⟨i+1,u',false,by omega,rfl,hh.then hc λk hk e=>by have:=e.1;omega,.inl ⟨rfl,?_,?_⟩⟩,by simp only[bC];omega⟩
    ·rw[ho];intro z hz;rcases bH.1 hz with hz|hz
     ·exact U z hz
     ·simp only[bR]at hz;subst hz;exact hg
    ·rw[ho];exact I
   ·refine uH (y:=y) hu (by have:=hh.size;omega) (by have:=xj i;omega) λu' w3 I hc=>?_;refine⟨⟨i+1,u',true,by omega,rfl,hh.then hc λk hk e=>by have:=e.1;omega,.inr ⟨rfl,?_,?_⟩⟩,by simp only[bC];omega⟩
    ·obtain⟨z,hz,xq⟩:=J;exact⟨z,by rw[ho];exact bS _ hz,xq⟩
    ·rw[ho,GV _ _ _ _ J];exact I
   ·refine uH (y:=y) hu (by have:=hh.size;omega) (by simp;omega) λu' w3 I hc=>?_;refine⟨⟨i+1,u',true,by omega,rfl,hh.then hc λk hk e=>by have:=e.1;omega,.inr ⟨rfl,⟨y,by rw[ho];simp,hg⟩,?_⟩⟩,by simp only[bC];omega⟩;rw[ho,Cw _ _ _ _ U];have:ins [y] p x=[(p,x),y]:=by obtain⟨k,z⟩:=y;simp only[ins];rw[aO hg]
    rw[this];simpa using I
 ·have xn:L.take i=L:=iJ (by omega);rw[xn]at xe;rcases xe with⟨rfl,U,hu⟩|⟨rfl,J,hu⟩
  ·simp(disch:=omega)only[kO,jU,Nat.reduceLT,aQ,aM,bN,aD,aG,aC,aA,Nat.reduceAdd,cJ,reduceCtorEq,Nat.add_zero,hs];refine xN rfl rfl ?_;refine uH (y:=(p,x)) hu (by have:=hx.size;omega) (by omega) λu' w3 I hc=>?_;refine hK _ _ ?_ ((hq.trans hx).then hc λk hk e=>by have:=e.1;have:=hq.size;omega);rw[MJ _ _ _ U];exact I.sl
  ·simp(disch:=omega)only[kO,jU,Nat.reduceLT,aQ,aM,bN,aD,aG,aC,aA,Nat.reduceAdd,cJ,reduceCtorEq,Nat.add_zero];exact hK _ _ hu.sl (hq.trans hx)
abbrev rl(p:Option Addr)(n c:Nat)(s:MS):List Value:=[.slice p n c,i64 s.steps,i64 s.left,.bool s.dead]
abbrev rv(p:Option Addr)(n c:Nat)(s:MS):Value:=.agg (rl p n c s).toArray
abbrev rz:List Value:=[.slice none 0 0,i64 0,i64 0,.bool false]
theorem new_ref[HX]{K:Q0}(j:∀v w',RefV w' v newM->Ext w w'->K v w'):aI P0 48 [] w K:=by
 refine Wv ?_;unfold W48;simp(disch:=omega)only[kO,jU,Nat.reduceLT,aQ,aM,bN,aD,aG,aC,aA,Nat.reduceAdd,cJ,reduceCtorEq,Nat.add_zero];exact j _ _ ⟨none,0,rfl,gD.nil _ _⟩ (by repeat (first|assumption|exact Chg.refl _ _|refine Chg.drew ?_|refine Chg.alloc ?_ _|refine Chg.set ?_ (by first|exact .inl rfl|exact .inr (by omega)|exact .inr (by simp only[dH,size_alloc,size_drew];omega)|(left;simp;done)) _|exact Chg.of_ext (by assumption)))
theorem LF[HX]{p:Option Addr}{c:Nat}{s:MS}{K:Q0}(hK:∀w',Ext w w'->K (.tuple [rv p n c (iK s).1,i64 (iK s).2].toArray) w'):aI P0 91 [rv p n c s] w K:=by
 obtain⟨fs,st,lf,d⟩:=s;refine VY ?_;unfold W91;refine fX λa w1 ha hs j hh=>?_;refine cI λb w2 hb hr o hc=>?_;have j:=hc.at j id;have hx:=hh.trans hc;have U:a≠b:=by omega
 have fin:∀s':MS,∀e:Int,iK ⟨fs,st,lf,d⟩=(s',e)->∀w3 w4,Ext w w3->Chg (λk=>k=b) w3 w4->K (.tuple [rv p n c s',i64 e].toArray) w4:=by
  intro s' e he w3 w4 h3 h4;have:=hK w4 (h3.new h4 (by omega));rw[he]at this;exact this
 clear hK;have hdead:iK ⟨fs,st,lf,d⟩=(⟨fs,st,lf,true⟩,5)->stW 1 (.pointer (some ⟨a,3,none⟩)) (.bool true) w2 (λw5=>ldW true 4 (.pointer (some ⟨a,0,none⟩)) w5 λt12=>stW 4 (.pointer (some ⟨b,0,none⟩)) t12 w5 λw6=>ldW true 4 (.pointer (some ⟨b,0,none⟩)) w6 λr7=>K (.tuple #[r7,.int .i64 5]) w6):=by
  intro he;refine jZ j rfl (by simp) λw3 _ j I=>?_;have o:=I.at o (jS U);refine fQ (l:=rl p n c ⟨fs,st,lf,true⟩) j rfl ?_;exact uR (K:=λr w6=>K (.tuple #[r,.int .i64 5]) w6) o rfl rfl rfl λw4 J=>fin _ _ he w3 w4 (hx.new I (by omega)) J
 simp only[dN,dO,dG,dE,eL,dR,dL,cS,dC,gZ,dF,dK,gA,gM,dZ,bT,aS,Nat.reduceLT,cG,fU,gX,gW,gO,bX,eX,dT,fL,fJ,fP,eR,eC,gC,iF,iH,iI,iG,cQ,bD,dX,iC,gB,hY,fI,iA,iB,bP,eG,iE,gU,dM,gN,fG,jP,fM,gT,iD,eK,eD,eF,jR,fO,iW,aQ,aM,gS,gP,iM,gF,cU,bW,bG,cA,bM,eW,fN,fA,heap_drew,size_drew,dH,size_alloc,aD,aV,cZ,eY,bY,aG,List.getElem?_toArray,List.getElem?_cons_zero,List.getElem?_cons_succ,aC,aB,aK,aA,aL,aN,aF,bJ,aH,cN,Nat.reduceAdd,dA,cW,cJ,bZ,cL,reduceCtorEq,cY,cH,j,o];cases d with
 |true=>
  (try simp only[dN,dO,dG,dE,eL,dR,dL,cS,dC,gZ,dF,dK,gA,gM,dZ,bT,aS,Nat.reduceLT,cG,fU,gX,gW,gO,bX,eX,dT,fL,fJ,fP,eR,eC,gC,iF,iH,iI,iG,cQ,bD,dX,iC,gB,hY,fI,iA,iB,bP,eG,iE,gU,dM,gN,fG,jP,fM,gT,iD,eK,eD,eF,jR,fO,iW,aQ,aM,gS,gP,iM,gF,cU,bW,bG,cA,bM,eW,fN,fA,heap_drew,size_drew,dH,size_alloc,aD,aV,cZ,eY,bY,aG,List.getElem?_toArray,List.getElem?_cons_zero,List.getElem?_cons_succ,aC,aB,aK,aA,aL,aN,aF,bJ,aH,cN,Nat.reduceAdd,dA,cW,cJ,bZ,cL,reduceCtorEq,cY,cH])
  refine GdW.f λg=>?_
  (try simp only[dN,dO,dG,dE,eL,dR,dL,cS,dC,gZ,dF,dK,gA,gM,dZ,bT,aS,Nat.reduceLT,cG,fU,gX,gW,gO,bX,eX,dT,fL,fJ,fP,eR,eC,gC,iF,iH,iI,iG,cQ,bD,dX,iC,gB,hY,fI,iA,iB,bP,eG,iE,gU,dM,gN,fG,jP,fM,gT,iD,eK,eD,eF,jR,fO,iW,aQ,aM,gS,gP,iM,gF,cU,bW,bG,cA,bM,eW,fN,fA,heap_drew,size_drew,dH,size_alloc,aD,aV,cZ,eY,bY,aG,List.getElem?_toArray,List.getElem?_cons_zero,List.getElem?_cons_succ,aC,aB,aK,aA,aL,aN,aF,bJ,aH,cN,Nat.reduceAdd,dA,cW,cJ,bZ,cL,reduceCtorEq,cY,cH])
  exact hdead (by simp[iK])
 |false=>
  (try simp only[dN,dO,dG,dE,eL,dR,dL,cS,dC,gZ,dF,dK,gA,gM,dZ,bT,aS,Nat.reduceLT,cG,fU,gX,gW,gO,bX,eX,dT,fL,fJ,fP,eR,eC,gC,iF,iH,iI,iG,cQ,bD,dX,iC,gB,hY,fI,iA,iB,bP,eG,iE,gU,dM,gN,fG,jP,fM,gT,iD,eK,eD,eF,jR,fO,iW,aQ,aM,gS,gP,iM,gF,cU,bW,bG,cA,bM,eW,fN,fA,heap_drew,size_drew,dH,size_alloc,aD,aV,cZ,eY,bY,aG,List.getElem?_toArray,List.getElem?_cons_zero,List.getElem?_cons_succ,aC,aB,aK,aA,aL,aN,aF,bJ,aH,cN,Nat.reduceAdd,dA,cW,cJ,bZ,cL,reduceCtorEq,cY,cH])
  refine GdW.t ?_;intro g
  (try simp only[dN,dO,dG,dE,eL,dR,dL,cS,dC,gZ,dF,dK,gA,gM,dZ,bT,aS,Nat.reduceLT,cG,fU,gX,gW,gO,bX,eX,dT,fL,fJ,fP,eR,eC,gC,iF,iH,iI,iG,cQ,bD,dX,iC,gB,hY,fI,iA,iB,bP,eG,iE,gU,dM,gN,fG,jP,fM,gT,iD,eK,eD,eF,jR,fO,iW,aQ,aM,gS,gP,iM,gF,cU,bW,bG,cA,bM,eW,fN,fA,heap_drew,size_drew,dH,size_alloc,aD,aV,cZ,eY,bY,aG,List.getElem?_toArray,List.getElem?_cons_zero,List.getElem?_cons_succ,aC,aB,aK,aA,aL,aN,aF,bJ,aH,cN,Nat.reduceAdd,dA,cW,cJ,bZ,cL,reduceCtorEq,cY,cH])
  by_cases h0:lf=0
  ·have e0:decide (lf=0)=true:=bK h0
   (try simp only[dN,dO,dG,dE,eL,dR,dL,cS,dC,gZ,dF,dK,gA,gM,dZ,bT,aS,Nat.reduceLT,cG,fU,gX,gW,gO,bX,eX,dT,fL,fJ,fP,eR,eC,gC,iF,iH,iI,iG,cQ,bD,dX,iC,gB,hY,fI,iA,iB,bP,eG,iE,gU,dM,gN,fG,jP,fM,gT,iD,eK,eD,eF,jR,fO,iW,aQ,aM,gS,gP,iM,gF,cU,bW,bG,cA,bM,eW,fN,fA,heap_drew,size_drew,dH,size_alloc,aD,aV,cZ,eY,bY,aG,List.getElem?_toArray,List.getElem?_cons_zero,List.getElem?_cons_succ,aC,aB,aK,aA,aL,aN,aF,bJ,aH,cN,Nat.reduceAdd,dA,cW,cJ,bZ,cL,reduceCtorEq,cY,cH,e0])
   exact hdead (by simp[iK,h0])
  ·have e0:decide (lf=0)=false:=cM h0;have e:iK ⟨fs,st,lf,false⟩=(⟨fs,IntKind.i64.wrap (st+1),if lf>0 then IntKind.i64.wrap (lf-1)else lf,false⟩,0):=by simp[iK,h0]
   (try simp only[dN,dO,dG,dE,eL,dR,dL,cS,dC,gZ,dF,dK,gA,gM,dZ,bT,aS,Nat.reduceLT,cG,fU,gX,gW,gO,bX,eX,dT,fL,fJ,fP,eR,eC,gC,iF,iH,iI,iG,cQ,bD,dX,iC,gB,hY,fI,iA,iB,bP,eG,iE,gU,dM,gN,fG,jP,fM,gT,iD,eK,eD,eF,jR,fO,iW,aQ,aM,gS,gP,iM,gF,cU,bW,bG,cA,bM,eW,fN,fA,heap_drew,size_drew,dH,size_alloc,aD,aV,cZ,eY,bY,aG,List.getElem?_toArray,List.getElem?_cons_zero,List.getElem?_cons_succ,aC,aB,aK,aA,aL,aN,aF,bJ,aH,cN,Nat.reduceAdd,dA,cW,cJ,bZ,cL,reduceCtorEq,cY,cH,e0,j])
   refine cX.cut (λ_ w'=>w'.heap[a]?=some (.cells [.slice p n c,i64 st,i64 (if lf>0 then IntKind.i64.wrap (lf-1)else lf),.bool false].toArray 55 (0,0))/\Chg (λk=>k=a) w2 w') ?_ ?_
   ·simp only[dN,dO,dG,dE,eL,dR,dL,cS,dC,gZ,dF,dK,gA,gM,dZ,bT,aS,Nat.reduceLT,cG,fU,gX,gW,gO,bX,eX,dT,fL,fJ,fP,eR,eC,gC,iF,iH,iI,iG,cQ,bD,dX,iC,gB,hY,fI,iA,iB,bP,eG,iE,gU,dM,gN,fG,jP,fM,gT,iD,eK,eD,eF,jR,fO,iW,aQ,aM,gS,gP,iM,gF,cU,bW,bG,cA,bM,eW,fN,fA,heap_drew,size_drew,dH,size_alloc,aD,aV,cZ,eY,bY,aG,List.getElem?_toArray,List.getElem?_cons_zero,List.getElem?_cons_succ,aC,aB,aK,aA,aL,aN,aF,bJ,aH,cN,Nat.reduceAdd,dA,cW,cJ,bZ,cL,reduceCtorEq,cY,cH,bA];refine⟨λh1=>?_,λh1=>⟨?_,Chg.refl _ _⟩⟩
    ·refine jZ j rfl (by simp) λw3 _ j I=>⟨?_,I⟩;rw[j,aO h1];rfl
    ·rw[j,aJ (by omega)]
   ·rintro s8 g8 w3 ⟨j,I⟩;simp only[dN,dO,dG,dE,eL,dR,dL,cS,dC,gZ,dF,dK,gA,gM,dZ,bT,aS,Nat.reduceLT,cG,fU,gX,gW,gO,bX,eX,dT,fL,fJ,fP,eR,eC,gC,iF,iH,iI,iG,cQ,bD,dX,iC,gB,hY,fI,iA,iB,bP,eG,iE,gU,dM,gN,fG,jP,fM,gT,iD,eK,eD,eF,jR,fO,iW,aQ,aM,gS,gP,iM,gF,cU,bW,bG,cA,bM,eW,fN,fA,heap_drew,size_drew,dH,size_alloc,aD,aV,cZ,eY,bY,aG,List.getElem?_toArray,List.getElem?_cons_zero,List.getElem?_cons_succ,aC,aB,aK,aA,aL,aN,aF,bJ,aH,cN,Nat.reduceAdd,dA,cW,cJ,bZ,cL,reduceCtorEq,cY,cH,j];have o:=I.at o (jS U);refine jZ j rfl (by simp) λw4 _ j J=>?_;have o:=J.at o (jS U);refine fQ (l:=rl p n c ⟨fs,IntKind.i64.wrap (st+1),if lf>0 then IntKind.i64.wrap (lf-1)else lf,false⟩) j rfl ?_;exact uR (K:=λr w6=>K (.tuple #[r,.int .i64 0]) w6) o rfl rfl rfl λw5 hj=>fin _ _ e w4 w5 ((hx.new I (by omega)).new J (by omega)) hj
structure FQ(w w':World)(a b:Nat)(l z:List Value):Prop where
 ba:w'.heap[a]?=some (.cells l.toArray 55 (0,0))
 bb:w'.heap[b]?=some (.cells z.toArray 55 (0,0))
 ne:a≠b
 ga:w.heap.size<=a
 gb:w.heap.size<=b
 ext:Ext w w'
theorem FQ.more{w2:World}{a b:Nat}{l z:List Value}(h:FQ w w' a b l z)(j:Ext w' w2):FQ w w2 a b l z:=⟨j.at h.ba id,j.at h.bb id,h.ne,h.ga,h.gb,h.ext.trans j⟩
theorem QI{l:List Value}{KK:Value->Q0}(h:∀a b w',FQ w w' a b l rz->KK (.pointer (some ⟨a,0,none⟩)) (.pointer (some ⟨b,0,none⟩)) w'):
  jI 55 (.agg l.toArray) w λt2 w1=>dY 55 [(.slice none 0 0),(.int .i64 0),(.int .i64 0),(.bool false)] w1 λt4 w2=>KK t2 t4 w2:=by
 refine fX λa w1 ha hc J o=>?_;refine cI λb w2 hb U I j=>?_;exact h a b w2 ⟨j.at J id,I,by omega,by omega,by omega,o.trans j⟩
theorem FQ.set_all{a b:Nat}{l l2 z:List Value}{K:World->Prop}(h:FQ w w' a b l z)(hl:l.length=4)(j:l2.length=4)(J:l2.all jD=true)(I:∀w2,FQ w w2 a b l2 z->K w2):stW 4 (.pointer (some ⟨a,0,none⟩)) (.agg l2.toArray) w' K:=
 dD h.ba j hl J λw2 _ hb o=>I w2 ⟨hb,o.at h.bb (jS h.ne),h.ne,h.ga,h.gb,h.ext.new o h.ga⟩
theorem FQ.set_one{a b off:Nat}{l z:List Value}{K:World->Prop}(h:FQ w w' a b l z)(J:jD v=true)(o:off<l.length)(I:∀w2,FQ w w2 a b (l.set off v) z->Chg (λk=>k=a) w' w2->K w2):stW 1 (.pointer (some ⟨a,off,none⟩)) v w' K:=
 jZ h.ba J (by simpa using o) λw2 _ hb j=>I w2 ⟨by simpa using hb,j.at h.bb (jS h.ne),h.ne,h.ga,h.gb,h.ext.new j h.ga⟩ j
theorem FQ.ret{a b:Nat}{l:List Value}{e:Value}{K:Q0}(h:FQ w w' a b l rz)(hl:l.length=4)(I:l.all jD=true)(o:∀w2,Chg (λk=>k=b) w' w2->Ext w w2->K (.tuple #[.agg l.toArray,e]) w2):
  ldW true 4 (.pointer (some ⟨a,0,none⟩)) w' λt=>stW 4 (.pointer (some ⟨b,0,none⟩)) t w' λw5=>ldW true 4 (.pointer (some ⟨b,0,none⟩)) w5 λr=>K (.tuple #[r,e]) w5:=
 fQ h.ba hl (uR (K:=λr w6=>K (.tuple #[r,e]) w6) h.bb hl rfl I λw2 j=>o w2 j (h.ext.new j h.gb))
theorem Jh{w2:World}{b:Nat}{l:jW}{z:List Value}(h:Tp w v l)(hb:w.heap[b]?=some (.cells z.toArray 55 (0,0)))(j:Chg (λk=>k=b) w w2):Tp w2 v l:=
 gD.chg h j (by rintro k c fr rfl e;rw[hb]at e;cases e)
end
section
open Go Go.Eng Go.Vfs
set_option maxHeartbeats 400000
variable{w:World}{K:Q0}{cs:List Value}{G:Nat->Prop}{T:TypeId}{i:Nat}{n:Nat}{v:Value}{w':World}{P:Program}{c:UInt8}{S:Nat->Prop}
theorem FQ.end'{w3:World}{a b:Nat}{sp:Option Addr}{sc:Nat}{s s2:MS}{e:Int}{K:Q0}(hl:Tp w (.slice sp s.files.length sc) s.files)(J:FQ w w3 a b (rl sp s.files.length sc s2) rz)(o:s2.files=s.files)
  (I:∀v' w',RefV w' v' s2->Ext w w'->K (.tuple #[v',i64 e]) w'):
  ldW true 4 (.pointer (some ⟨a,0,none⟩)) w3 λt=>stW 4 (.pointer (some ⟨b,0,none⟩)) t w3 λw5=>ldW true 4 (.pointer (some ⟨b,0,none⟩)) w5 λr=>K (.tuple #[r,i64 e]) w5:=
 J.ret rfl rfl λw4 U j=>I _ _ ⟨sp,sc,by rw[o],by rw[o];exact gD.ext hl j⟩ j
theorem write_ref[HX]{s:MS}{p data:Str}{made:Bool}{K:Q0}(h:RefV w v s)(hs:Ok s)(hp:p.length<=9223372036854775807)
  (J:∀v' w',RefV w' v' (writeM s p data made).1->Ext w w'->K (.tuple #[v',i64 (writeM s p data made).2]) w'):aI P0 49 [v,str p,str data,.bool made] w K:=by
 have hR:=h;obtain⟨sp,sc,rfl,hl⟩:=h;refine Wu ?_;unfold W49;refine QI λa b w2 j=>?_;unfold writeM at J;refine fQ j.ba rfl ?_;refine QM (hR.ext j.ext) hs.few λr w3 xo hr=>?_;have j:=j.more xo;refine KL hp ?_;cases hg:uX p with
 |false=>
  rw[aO hg]at J
  (try simp only[dN,dO,dG,dE,eL,dR,dL,cS,dC,gZ,dF,dK,gA,gM,dZ,bT,aS,Nat.reduceLT,cG,fU,gX,gW,gO,bX,eX,dT,fL,fJ,fP,eR,eC,gC,iF,iH,iI,iG,cQ,bD,dX,iC,gB,hY,fI,iA,iB,bP,eG,iE,gU,dM,gN,fG,jP,fM,gT,iD,eK,eD,eF,jR,fO,iW,aQ,aM,gS,gP,iM,gF,cU,bW,bG,cA,bM,eW,fN,fA,heap_drew,size_drew,dH,size_alloc,aD,aV,cZ,eY,bY,aG,List.getElem?_toArray,List.getElem?_cons_zero,List.getElem?_cons_succ,aC,aB,aK,aA,aL,aN,aF,bJ,aH,cN,Nat.reduceAdd,dA,cW,cJ,bZ,cL,reduceCtorEq,cY,cH])
  exact FQ.end' (e:=6) hl j rfl J
 |true=>
 rw[aJ (by simp[hg])]at J
 (try simp only[dN,dO,dG,dE,eL,dR,dL,cS,dC,gZ,dF,dK,gA,gM,dZ,bT,aS,Nat.reduceLT,cG,fU,gX,gW,gO,bX,eX,dT,fL,fJ,fP,eR,eC,gC,iF,iH,iI,iG,cQ,bD,dX,iC,gB,hY,fI,iA,iB,bP,eG,iE,gU,dM,gN,fG,jP,fM,gT,iD,eK,eD,eF,jR,fO,iW,aQ,aM,gS,gP,iM,gF,cU,bW,bG,cA,bM,eW,fN,fA,heap_drew,size_drew,dH,size_alloc,aD,aV,cZ,eY,bY,aG,List.getElem?_toArray,List.getElem?_cons_zero,List.getElem?_cons_succ,aC,aB,aK,aA,aL,aN,aF,bJ,aH,cN,Nat.reduceAdd,dA,cW,cJ,bZ,cL,reduceCtorEq,cY,cH])
 by_cases h1:data.length>65536
 ·rw[aO (.inl h1)]at J;have e1:decide ((65536:Int)<(data.length:Int))=true:=bK (by omega)
  (try simp only[dN,dO,dG,dE,eL,dR,dL,cS,dC,gZ,dF,dK,gA,gM,dZ,bT,aS,Nat.reduceLT,cG,fU,gX,gW,gO,bX,eX,dT,fL,fJ,fP,eR,eC,gC,iF,iH,iI,iG,cQ,bD,dX,iC,gB,hY,fI,iA,iB,bP,eG,iE,gU,dM,gN,fG,jP,fM,gT,iD,eK,eD,eF,jR,fO,iW,aQ,aM,gS,gP,iM,gF,cU,bW,bG,cA,bM,eW,fN,fA,heap_drew,size_drew,dH,size_alloc,aD,aV,cZ,eY,bY,aG,List.getElem?_toArray,List.getElem?_cons_zero,List.getElem?_cons_succ,aC,aB,aK,aA,aL,aN,aF,bJ,aH,cN,Nat.reduceAdd,dA,cW,cJ,bZ,cL,reduceCtorEq,cY,cH,e1])
  refine GdW.f λg=>?_
  (try simp only[dN,dO,dG,dE,eL,dR,dL,cS,dC,gZ,dF,dK,gA,gM,dZ,bT,aS,Nat.reduceLT,cG,fU,gX,gW,gO,bX,eX,dT,fL,fJ,fP,eR,eC,gC,iF,iH,iI,iG,cQ,bD,dX,iC,gB,hY,fI,iA,iB,bP,eG,iE,gU,dM,gN,fG,jP,fM,gT,iD,eK,eD,eF,jR,fO,iW,aQ,aM,gS,gP,iM,gF,cU,bW,bG,cA,bM,eW,fN,fA,heap_drew,size_drew,dH,size_alloc,aD,aV,cZ,eY,bY,aG,List.getElem?_toArray,List.getElem?_cons_zero,List.getElem?_cons_succ,aC,aB,aK,aA,aL,aN,aF,bJ,aH,cN,Nat.reduceAdd,dA,cW,cJ,bZ,cL,reduceCtorEq,cY,cH])
  have eu:isB undef true=false:=rfl
  (try simp only[eu])
  refine GdW.f λg=>?_;refine GdW.f λg=>?_
  (try simp only[dN,dO,dG,dE,eL,dR,dL,cS,dC,gZ,dF,dK,gA,gM,dZ,bT,aS,Nat.reduceLT,cG,fU,gX,gW,gO,bX,eX,dT,fL,fJ,fP,eR,eC,gC,iF,iH,iI,iG,cQ,bD,dX,iC,gB,hY,fI,iA,iB,bP,eG,iE,gU,dM,gN,fG,jP,fM,gT,iD,eK,eD,eF,jR,fO,iW,aQ,aM,gS,gP,iM,gF,cU,bW,bG,cA,bM,eW,fN,fA,heap_drew,size_drew,dH,size_alloc,aD,aV,cZ,eY,bY,aG,List.getElem?_toArray,List.getElem?_cons_zero,List.getElem?_cons_succ,aC,aB,aK,aA,aL,aN,aF,bJ,aH,cN,Nat.reduceAdd,dA,cW,cJ,bZ,cL,reduceCtorEq,cY,cH])
  exact FQ.end' (e:=3) hl j rfl J
 have e1:decide ((65536:Int)<(data.length:Int))=false:=cM (by omega)
 (try simp only[dN,dO,dG,dE,eL,dR,dL,cS,dC,gZ,dF,dK,gA,gM,dZ,bT,aS,Nat.reduceLT,cG,fU,gX,gW,gO,bX,eX,dT,fL,fJ,fP,eR,eC,gC,iF,iH,iI,iG,cQ,bD,dX,iC,gB,hY,fI,iA,iB,bP,eG,iE,gU,dM,gN,fG,jP,fM,gT,iD,eK,eD,eF,jR,fO,iW,aQ,aM,gS,gP,iM,gF,cU,bW,bG,cA,bM,eW,fN,fA,heap_drew,size_drew,dH,size_alloc,aD,aV,cZ,eY,bY,aG,List.getElem?_toArray,List.getElem?_cons_zero,List.getElem?_cons_succ,aC,aB,aK,aA,aL,aN,aF,bJ,aH,cN,Nat.reduceAdd,dA,cW,cJ,bZ,cL,reduceCtorEq,cY,cH,e1])
 refine GdW.t ?_
 (try simp only[dN,dO,dG,dE,eL,dR,dL,cS,dC,gZ,dF,dK,gA,gM,dZ,bT,aS,Nat.reduceLT,cG,fU,gX,gW,gO,bX,eX,dT,fL,fJ,fP,eR,eC,gC,iF,iH,iI,iG,cQ,bD,dX,iC,gB,hY,fI,iA,iB,bP,eG,iE,gU,dM,gN,fG,jP,fM,gT,iD,eK,eD,eF,jR,fO,iW,aQ,aM,gS,gP,iM,gF,cU,bW,bG,cA,bM,eW,fN,fA,heap_drew,size_drew,dH,size_alloc,aD,aV,cZ,eY,bY,aG,List.getElem?_toArray,List.getElem?_cons_zero,List.getElem?_cons_succ,aC,aB,aK,aA,aL,aN,aF,bJ,aH,cN,Nat.reduceAdd,dA,cW,cJ,bZ,cL,reduceCtorEq,cY,cH])
 intro g
 (try simp only[dN,dO,dG,dE,eL,dR,dL,cS,dC,gZ,dF,dK,gA,gM,dZ,bT,aS,Nat.reduceLT,cG,fU,gX,gW,gO,bX,eX,dT,fL,fJ,fP,eR,eC,gC,iF,iH,iI,iG,cQ,bD,dX,iC,gB,hY,fI,iA,iB,bP,eG,iE,gU,dM,gN,fG,jP,fM,gT,iD,eK,eD,eF,jR,fO,iW,aQ,aM,gS,gP,iM,gF,cU,bW,bG,cA,bM,eW,fN,fA,heap_drew,size_drew,dH,size_alloc,aD,aV,cZ,eY,bY,aG,List.getElem?_toArray,List.getElem?_cons_zero,List.getElem?_cons_succ,aC,aB,aK,aA,aL,aN,aF,bJ,aH,cN,Nat.reduceAdd,dA,cW,cJ,bZ,cL,reduceCtorEq,cY,cH])
 have hq:decide (r<0)=(lkM s.files p).isNone:=by
  rcases hr with⟨rfl,hn⟩|⟨i,x,rfl,U,hi⟩
  ·rw[hn];rfl
  ·rw[hi];exact cM (by omega)
 have xd:decide (0<=r)=(lkM s.files p).isSome:=by
  rcases hr with⟨rfl,hn⟩|⟨i,x,rfl,U,hi⟩
  ·rw[hn];rfl
  ·rw[hi];exact bK (by omega)
 have xg:∀c:Bool,c=((lkM s.files p).isNone&&decide (64<=s.files.length))->(c=true->(data.length>65536\/(lkM s.files p=none/\64<=s.files.length)))/\(c=false->¬(data.length>65536\/(lkM s.files p=none/\64<=s.files.length))):=by
  rintro c rfl;simp only[bL,Option.isNone_iff_eq_none,fD,Bool.and_eq_false_iff];refine⟨λh=>.inr h,λh hh=>?_⟩;rcases hh with hh|hh
  ·exact h1 hh
  ·rcases h with h|h
   ·rw[hh.1]at h;cases h
   ·have:=hh.2;simp at h;omega
 have ht:decide ((64:Int)<=(s.files.length:Int))=decide (64<=s.files.length):=by rw[decide_eq_decide];omega
 rw[hq];refine GdW.meet [bif (lkM s.files p).isNone then .bool (decide (64<=s.files.length))else undef] (λh=>?_) (λh=>?_) (λg=>?_)
 ·have h:(lkM s.files p).isNone=true:=by simpa[isB]using h
  rw[h];simp only[dN,dO,dG,dE,eL,dR,dL,cS,dC,gZ,dF,dK,gA,gM,dZ,bT,aS,Nat.reduceLT,cG,fU,gX,gW,gO,bX,eX,dT,fL,fJ,fP,eR,eC,gC,iF,iH,iI,iG,cQ,bD,dX,iC,gB,hY,fI,iA,iB,bP,eG,iE,gU,dM,gN,fG,jP,fM,gT,iD,eK,eD,eF,jR,fO,iW,aQ,aM,gS,gP,iM,gF,cU,bW,bG,cA,bM,eW,fN,fA,heap_drew,size_drew,dH,size_alloc,aD,aV,cZ,eY,bY,aG,List.getElem?_toArray,List.getElem?_cons_zero,List.getElem?_cons_succ,aC,aB,aK,aA,aL,aN,aF,bJ,aH,cN,Nat.reduceAdd,dA,cW,cJ,bZ,cL,reduceCtorEq,cY,cH,j.ba,ht]
 ·have h:(lkM s.files p).isNone=false:=by simpa[isB]using h
  rw[h];rfl
 refine GdW.t ?_;have hpick:∀K:Value->Prop,K (.bool ((lkM s.files p).isNone&&decide (64<=s.files.length)))->eO (.bool (lkM s.files p).isNone) (bif (lkM s.files p).isNone then .bool (decide (64<=s.files.length))else undef) (.bool false) K:=by
  intro K hk;cases hh:(lkM s.files p).isNone with
  |true=>rw[hh]at hk;simpa[eO]using hk
  |false=>rw[hh]at hk;simpa[eO]using hk
 refine hpick _ ?_;intro g
 (try simp only[dN,dO,dG,dE,eL,dR,dL,cS,dC,gZ,dF,dK,gA,gM,dZ,bT,aS,Nat.reduceLT,cG,fU,gX,gW,gO,bX,eX,dT,fL,fJ,fP,eR,eC,gC,iF,iH,iI,iG,cQ,bD,dX,iC,gB,hY,fI,iA,iB,bP,eG,iE,gU,dM,gN,fG,jP,fM,gT,iD,eK,eD,eF,jR,fO,iW,aQ,aM,gS,gP,iM,gF,cU,bW,bG,cA,bM,eW,fN,fA,heap_drew,size_drew,dH,size_alloc,aD,aV,cZ,eY,bY,aG,List.getElem?_toArray,List.getElem?_cons_zero,List.getElem?_cons_succ,aC,aB,aK,aA,aL,aN,aF,bJ,aH,cN,Nat.reduceAdd,dA,cW,cJ,bZ,cL,reduceCtorEq,cY,cH])
 have hc:=xg _ rfl;generalize ((lkM s.files p).isNone&&decide (64<=s.files.length))=c at hc;cases c with
 |true=>
  rw[aO (hc.1 rfl)]at J
  (try simp only[dN,dO,dG,dE,eL,dR,dL,cS,dC,gZ,dF,dK,gA,gM,dZ,bT,aS,Nat.reduceLT,cG,fU,gX,gW,gO,bX,eX,dT,fL,fJ,fP,eR,eC,gC,iF,iH,iI,iG,cQ,bD,dX,iC,gB,hY,fI,iA,iB,bP,eG,iE,gU,dM,gN,fG,jP,fM,gT,iD,eK,eD,eF,jR,fO,iW,aQ,aM,gS,gP,iM,gF,cU,bW,bG,cA,bM,eW,fN,fA,heap_drew,size_drew,dH,size_alloc,aD,aV,cZ,eY,bY,aG,List.getElem?_toArray,List.getElem?_cons_zero,List.getElem?_cons_succ,aC,aB,aK,aA,aL,aN,aF,bJ,aH,cN,Nat.reduceAdd,dA,cW,cJ,bZ,cL,reduceCtorEq,cY,cH])
  exact FQ.end' (e:=3) hl j rfl J
 |false=>
 rw[aJ (hc.2 rfl)]at J
 (try simp only[dN,dO,dG,dE,eL,dR,dL,cS,dC,gZ,dF,dK,gA,gM,dZ,bT,aS,Nat.reduceLT,cG,fU,gX,gW,gO,bX,eX,dT,fL,fJ,fP,eR,eC,gC,iF,iH,iI,iG,cQ,bD,dX,iC,gB,hY,fI,iA,iB,bP,eG,iE,gU,dM,gN,fG,jP,fM,gT,iD,eK,eD,eF,jR,fO,iW,aQ,aM,gS,gP,iM,gF,cU,bW,bG,cA,bM,eW,fN,fA,heap_drew,size_drew,dH,size_alloc,aD,aV,cZ,eY,bY,aG,List.getElem?_toArray,List.getElem?_cons_zero,List.getElem?_cons_succ,aC,aB,aK,aA,aL,aN,aF,bJ,aH,cN,Nat.reduceAdd,dA,cW,cJ,bZ,cL,reduceCtorEq,cY,cH])
 clear hc xg hpick hq ht;refine GdW.meet [bif made then .bool (lkM s.files p).isSome else undef] (λh=>?_) (λh=>?_) (λg=>?_)
 ·have h:made=true:=by simpa[isB]using h
  rw[h];simp only[dN,dO,dG,dE,eL,dR,dL,cS,dC,gZ,dF,dK,gA,gM,dZ,bT,aS,Nat.reduceLT,cG,fU,gX,gW,gO,bX,eX,dT,fL,fJ,fP,eR,eC,gC,iF,iH,iI,iG,cQ,bD,dX,iC,gB,hY,fI,iA,iB,bP,eG,iE,gU,dM,gN,fG,jP,fM,gT,iD,eK,eD,eF,jR,fO,iW,aQ,aM,gS,gP,iM,gF,cU,bW,bG,cA,bM,eW,fN,fA,heap_drew,size_drew,dH,size_alloc,aD,aV,cZ,eY,bY,aG,List.getElem?_toArray,List.getElem?_cons_zero,List.getElem?_cons_succ,aC,aB,aK,aA,aL,aN,aF,bJ,aH,cN,Nat.reduceAdd,dA,cW,cJ,bZ,cL,reduceCtorEq,cY,cH,xd]
 ·have h:made=false:=by simpa[isB]using h
  rw[h];rfl
 have hpick:∀K:Value->Prop,K (.bool (made&&(lkM s.files p).isSome))->eO (.bool made) (bif made then .bool (lkM s.files p).isSome else undef) (.bool false) K:=by
  intro K hk;cases made<;>simpa[eO]using hk
 refine hpick _ ?_;clear hpick;by_cases hm:made=true/\(lkM s.files p).isSome=true
 ·rw[aO hm]at J;have e2:(made&&(lkM s.files p).isSome)=true:=by simp[hm.1,hm.2]
  rw[e2]
  (try simp only[dN,dO,dG,dE,eL,dR,dL,cS,dC,gZ,dF,dK,gA,gM,dZ,bT,aS,Nat.reduceLT,cG,fU,gX,gW,gO,bX,eX,dT,fL,fJ,fP,eR,eC,gC,iF,iH,iI,iG,cQ,bD,dX,iC,gB,hY,fI,iA,iB,bP,eG,iE,gU,dM,gN,fG,jP,fM,gT,iD,eK,eD,eF,jR,fO,iW,aQ,aM,gS,gP,iM,gF,cU,bW,bG,cA,bM,eW,fN,fA,heap_drew,size_drew,dH,size_alloc,aD,aV,cZ,eY,bY,aG,List.getElem?_toArray,List.getElem?_cons_zero,List.getElem?_cons_succ,aC,aB,aK,aA,aL,aN,aF,bJ,aH,cN,Nat.reduceAdd,dA,cW,cJ,bZ,cL,reduceCtorEq,cY,cH])
  exact FQ.end' (e:=2) hl j rfl J
 rw[aJ hm]at J;have e2:(made&&(lkM s.files p).isSome)=false:=by
  cases h:(made&&(lkM s.files p).isSome)with
  |false=>rfl
  |true=>exact absurd (by simpa using h) hm
 rw[e2]
 (try simp only[dN,dO,dG,dE,eL,dR,dL,cS,dC,gZ,dF,dK,gA,gM,dZ,bT,aS,Nat.reduceLT,cG,fU,gX,gW,gO,bX,eX,dT,fL,fJ,fP,eR,eC,gC,iF,iH,iI,iG,cQ,bD,dX,iC,gB,hY,fI,iA,iB,bP,eG,iE,gU,dM,gN,fG,jP,fM,gT,iD,eK,eD,eF,jR,fO,iW,aQ,aM,gS,gP,iM,gF,cU,bW,bG,cA,bM,eW,fN,fA,heap_drew,size_drew,dH,size_alloc,aD,aV,cZ,eY,bY,aG,List.getElem?_toArray,List.getElem?_cons_zero,List.getElem?_cons_succ,aC,aB,aK,aA,aL,aN,aF,bJ,aH,cN,Nat.reduceAdd,dA,cW,cJ,bZ,cL,reduceCtorEq,cY,cH])
 refine fQ j.ba rfl ?_;refine LF (s:=s) λw4 xn=>?_;have j:=j.more xn;simp only[dN,dO,dG,dE,eL,dR,dL,cS,dC,gZ,dF,dK,gA,gM,dZ,bT,aS,Nat.reduceLT,cG,fU,gX,gW,gO,bX,eX,dT,fL,fJ,fP,eR,eC,gC,iF,iH,iI,iG,cQ,bD,dX,iC,gB,hY,fI,iA,iB,bP,eG,iE,gU,dM,gN,fG,jP,fM,gT,iD,eK,eD,eF,jR,fO,iW,aQ,aM,gS,gP,iM,gF,cU,bW,bG,cA,bM,eW,fN,fA,heap_drew,size_drew,dH,size_alloc,aD,aV,cZ,eY,bY,aG,List.getElem?_toArray,List.getElem?_cons_zero,List.getElem?_cons_succ,aC,aB,aK,aA,aL,aN,aF,bJ,aH,cN,Nat.reduceAdd,dA,cW,cJ,bZ,cL,reduceCtorEq,cY,cH];refine j.set_all (l2:=rl sp s.files.length sc (iK s).1) rfl rfl rfl λw5 j=>?_;simp only[bA];refine⟨λh0=>?_,λh0=>?_⟩
 ·have h0:(iK s).2≠0:=by simpa using h0
  simp only[aO h0]at J;exact FQ.end' hl j (sH s) J
 have h0:(iK s).2=0:=by simpa using h0
 simp only[h0,cJ,bZ,rN]at J
 (try simp only[dN,dO,dG,dE,eL,dR,dL,cS,dC,gZ,dF,dK,gA,gM,dZ,bT,aS,Nat.reduceLT,cG,fU,gX,gW,gO,bX,eX,dT,fL,fJ,fP,eR,eC,gC,iF,iH,iI,iG,cQ,bD,dX,iC,gB,hY,fI,iA,iB,bP,eG,iE,gU,dM,gN,fG,jP,fM,gT,iD,eK,eD,eF,jR,fO,iW,aQ,aM,gS,gP,iM,gF,cU,bW,bG,cA,bM,eW,fN,fA,heap_drew,size_drew,dH,size_alloc,aD,aV,cZ,eY,bY,aG,List.getElem?_toArray,List.getElem?_cons_zero,List.getElem?_cons_succ,aC,aB,aK,aA,aL,aN,aF,bJ,aH,cN,Nat.reduceAdd,dA,cW,cJ,bZ,cL,reduceCtorEq,cY,cH])
 refine cI λa8 w6 ya xx I xm=>?_;refine dD I rfl rfl rfl λw7 _ I xt=>?_;have hy:Ext w5 w7:=xm.new xt (by omega);refine cX.cut (λ_ w'=>Ext w5 w'/\w'.heap[a8]?=some (.cells (fc (p,⟨data,((lkM s.files p).map (·.safe)).getD [],((lkM s.files p).map (·.saved)).getD false⟩)).toArray 173 (0,0))) ?_ ?_
 ·rcases hr with⟨rfl,hn⟩|⟨i,x,rfl,U,hi⟩
  ·rw[hn]
   (try simp only[dN,dO,dG,dE,eL,dR,dL,cS,dC,gZ,dF,dK,gA,gM,dZ,bT,aS,Nat.reduceLT,cG,fU,gX,gW,gO,bX,eX,dT,fL,fJ,fP,eR,eC,gC,iF,iH,iI,iG,cQ,bD,dX,iC,gB,hY,fI,iA,iB,bP,eG,iE,gU,dM,gN,fG,jP,fM,gT,iD,eK,eD,eF,jR,fO,iW,aQ,aM,gS,gP,iM,gF,cU,bW,bG,cA,bM,eW,fN,fA,heap_drew,size_drew,dH,size_alloc,aD,aV,cZ,eY,bY,aG,List.getElem?_toArray,List.getElem?_cons_zero,List.getElem?_cons_succ,aC,aB,aK,aA,aL,aN,aF,bJ,aH,cN,Nat.reduceAdd,dA,cW,cJ,bZ,cL,reduceCtorEq,cY,cH])
   exact⟨λh=>absurd h (by decide),λ_=>⟨hy,I⟩⟩
  ·rw[hi];have xj:=j.more hy;simp only[dN,dO,dG,dE,eL,dR,dL,cS,dC,gZ,dF,dK,gA,gM,dZ,bT,aS,Nat.reduceLT,cG,fU,gX,gW,gO,bX,eX,dT,fL,fJ,fP,eR,eC,gC,iF,iH,iI,iG,cQ,bD,dX,iC,gB,hY,fI,iA,iB,bP,eG,iE,gU,dM,gN,fG,jP,fM,gT,iD,eK,eD,eF,jR,fO,iW,aQ,aM,gS,gP,iM,gF,cU,bW,bG,cA,bM,eW,fN,fA,heap_drew,size_drew,dH,size_alloc,aD,aV,cZ,eY,bY,aG,List.getElem?_toArray,List.getElem?_cons_zero,List.getElem?_cons_succ,aC,aB,aK,aA,aL,aN,aF,bJ,aH,cN,Nat.reduceAdd,dA,cW,cJ,bZ,cL,reduceCtorEq,cY,cH,xj.ba];refine⟨λ_=>?_,λh=>absurd (by omega) h⟩;refine VA (gD.ext hl xj.ext) U λbb o c fr hz q0 q1 q2 q3=>?_;simp only[dN,dO,dG,dE,eL,dR,dL,cS,dC,gZ,dF,dK,gA,gM,dZ,bT,aS,Nat.reduceLT,cG,fU,gX,gW,gO,bX,eX,dT,fL,fJ,fP,eR,eC,gC,iF,iH,iI,iG,cQ,bD,dX,iC,gB,hY,fI,iA,iB,bP,eG,iE,gU,dM,gN,fG,jP,fM,gT,iD,eK,eD,eF,jR,fO,iW,aQ,aM,gS,gP,iM,gF,cU,bW,bG,cA,bM,eW,fN,fA,heap_drew,size_drew,dH,size_alloc,aD,aV,cZ,eY,bY,aG,List.getElem?_toArray,List.getElem?_cons_zero,List.getElem?_cons_succ,aC,aB,aK,aA,aL,aN,aF,bJ,aH,cN,Nat.reduceAdd,dA,cW,cJ,bZ,cL,reduceCtorEq,cY,cH,hz,q2];refine jZ I rfl (by simp) λw8 _ I xr=>?_;have hj:=hy.new xr (by omega);have xi:=j.more hj;simp only[dN,dO,dG,dE,eL,dR,dL,cS,dC,gZ,dF,dK,gA,gM,dZ,bT,aS,Nat.reduceLT,cG,fU,gX,gW,gO,bX,eX,dT,fL,fJ,fP,eR,eC,gC,iF,iH,iI,iG,cQ,bD,dX,iC,gB,hY,fI,iA,iB,bP,eG,iE,gU,dM,gN,fG,jP,fM,gT,iD,eK,eD,eF,jR,fO,iW,aQ,aM,gS,gP,iM,gF,cU,bW,bG,cA,bM,eW,fN,fA,heap_drew,size_drew,dH,size_alloc,aD,aV,cZ,eY,bY,aG,List.getElem?_toArray,List.getElem?_cons_zero,List.getElem?_cons_succ,aC,aB,aK,aA,aL,aN,aF,bJ,aH,cN,Nat.reduceAdd,dA,cW,cJ,bZ,cL,reduceCtorEq,cY,cH,xi.ba];refine VA (gD.ext hl xi.ext) U λbb o c fr hz q0 q1 q2 q3=>?_;simp only[dN,dO,dG,dE,eL,dR,dL,cS,dC,gZ,dF,dK,gA,gM,dZ,bT,aS,Nat.reduceLT,cG,fU,gX,gW,gO,bX,eX,dT,fL,fJ,fP,eR,eC,gC,iF,iH,iI,iG,cQ,bD,dX,iC,gB,hY,fI,iA,iB,bP,eG,iE,gU,dM,gN,fG,jP,fM,gT,iD,eK,eD,eF,jR,fO,iW,aQ,aM,gS,gP,iM,gF,cU,bW,bG,cA,bM,eW,fN,fA,heap_drew,size_drew,dH,size_alloc,aD,aV,cZ,eY,bY,aG,List.getElem?_toArray,List.getElem?_cons_zero,List.getElem?_cons_succ,aC,aB,aK,aA,aL,aN,aF,bJ,aH,cN,Nat.reduceAdd,dA,cW,cJ,bZ,cL,reduceCtorEq,cY,cH,hz,q3];refine jZ I rfl (by simp) λw9 _ I xq=>?_;exact⟨hj.new xq (by omega),I⟩
 ·rintro s26 g26 w8 ⟨hj,I⟩;have j:=j.more hj;simp only[dN,dO,dG,dE,eL,dR,dL,cS,dC,gZ,dF,dK,gA,gM,dZ,bT,aS,Nat.reduceLT,cG,fU,gX,gW,gO,bX,eX,dT,fL,fJ,fP,eR,eC,gC,iF,iH,iI,iG,cQ,bD,dX,iC,gB,hY,fI,iA,iB,bP,eG,iE,gU,dM,gN,fG,jP,fM,gT,iD,eK,eD,eF,jR,fO,iW,aQ,aM,gS,gP,iM,gF,cU,bW,bG,cA,bM,eW,fN,fA,heap_drew,size_drew,dH,size_alloc,aD,aV,cZ,eY,bY,aG,List.getElem?_toArray,List.getElem?_cons_zero,List.getElem?_cons_succ,aC,aB,aK,aA,aL,aN,aF,bJ,aH,cN,Nat.reduceAdd,dA,cW,cJ,bZ,cL,reduceCtorEq,cY,cH,j.ba];refine fQ (l:=fc (p,⟨data,((lkM s.files p).map (·.safe)).getD [],((lkM s.files p).map (·.saved)).getD false⟩)) I rfl ?_;refine Lp (p:=p) (gD.ext hl j.ext) (by have:=hs.few;omega) λu w9 hu xl=>?_;have j:=j.more xl;obtain⟨up,uc,rfl,_⟩:=hu.shape;refine j.set_one rfl (by simp) λw10 hv xh=>?_;have hu:=Jh hu j.ba xh;refine hv.ret rfl rfl λw11 hc hx=>J _ _ ⟨up,uc,rfl,Jh hu hv.bb hc⟩ hx
end
end Go.Proofs.YtjblfcfdeaagpaaGreatDoor.Fx
namespace Go.Proofs.YtjblfcfdeaagpaaGreatDoor
section
open Go Go.Eng Go.RowKit Go.Syn Go.Lex Go.Cfg
variable{w:World}{K:Q0}{cs:List Value}{G:Nat->Prop}{T:TypeId}{i:Nat}{n:Nat}{v:Value}{w':World}{P:Program}{c:UInt8}{S:Nat->Prop}
def zC:List (Str×Str)->Vfs.MS->Vfs.MS
 |[],s=>s
 |(p,t)::l,s=>zC l (Vfs.writeM s p (t.take 6000) false).1
def qA(ps ts:List Str):Vfs.MS:=zC ((ps.zip ts).take 20) Vfs.newM
abbrev RfT:TypeId:=55
theorem Al{a c:Array Value}{U:TypeId}{f g:Nat×Nat}(h:T≠U):some (Obj.cells a T f)≠some (Obj.cells c U g):=λe=>by
 injection e with e
 injection e with _ e
 exact h e
theorem QH{b m:Nat}{s:Vfs.MS}(h:Fx.FsB w b m s):∀k c fr,Fx.M2 b m k->w.heap[k]?≠some (.cells c Fx.RT fr):=by
 rintro k c fr (rfl|rfl) e
 ·rw[h.blk]at e;exact Al (by decide) e
 ·obtain⟨A,⟨es,cl,j,_⟩,_⟩:=h.fil;rw[j]at e;cases e
section
variable [HX]
theorem FE{ps ts:List Str}{vp vt:Value}{K:Q0}(xn:gD w StT vp ps.length (strs ps))(xj:gD w StT vt ts.length (strs ts))(yo:∀p∈ps,p.length<=9223372036854775807)
  (hK:∀b m (l:List Value) w',Fx.Fs w w' b m (qA ps ts)->l.length=4->l.all jD=true->K (.tuple #[pA b,.agg l.toArray]) w'):aI P0 19 [.agg [vp,vt].toArray] w K:=by
 refine WK ?_;unfold W19;refine fX (z:=[vp,vt]) λb1 w1 zk zd yf yk=>?_;refine cI λb3 w2 zj zc ye xr=>?_;have hg:=yk.trans xr;refine Fx.fnew λb m w3 yb=>?_;refine Fx.new_ref λv4 w4 xu xq=>?_;have j:=yb.more xq;refine cI λb5 w5 zi za yd xi=>?_;have yu:=j.more xi;have yl:=xu.ext xi;obtain⟨q,c,rfl,ze⟩:=yl;have zh:=j.gb;have zg:=j.gm;have yw:=j.fs.lt;have yt:=j.fs.mlt;have zb:=xq.size;refine dD (l:=[.slice q Vfs.newM.files.length c,i64 Vfs.newM.steps,i64 Vfs.newM.left,.bool Vfs.newM.dead]) yd rfl rfl rfl λw6 yz yc ys=>?_;have xb:Ext w4 w6:=xi.new ys (by omega);have ya:=j.more xb;have yh:w6.heap[b1]?=some (.cells [vp,vt].toArray 51 (0,0)):=xb.at (j.ext.at (xr.at yf id) id) id;have yg:w6.heap[b3]?=some (.cells [.slice none 0 0,i64 0,i64 0,.bool false].toArray RfT (0,0)):=xb.at (j.ext.at ye id) id;have xv:Fx.RefV w6 (.agg [.slice q Vfs.newM.files.length c,i64 Vfs.newM.steps,i64 Vfs.newM.left,.bool Vfs.newM.dead].toArray) Vfs.newM:=xu.ext xb;have hn:((ps.zip ts).take 20).length=min 20 (min ps.length ts.length):=by rw[cO,List.length_zip]
 generalize hP:(ps.zip ts).take 20=P at hn;have Af:qA ps ts=zC P Vfs.newM:=by unfold qA;rw[hP]
 rw[Af]at hK;refine eJ.go (λst w'=>∃(i:Nat) (s:Vfs.MS) (l:List Value),st=[i64 (i:Nat)]/\i<=P.length/\Fx.Fs w2 w' b m s/\zC (P.drop i) s=zC P Vfs.newM/\w'.heap[b1]?=some (.cells [vp,vt].toArray 51 (0,0))/\w'.heap[b3]?=some (.cells [.slice none 0 0,i64 0,i64 0,.bool false].toArray RfT (0,0))/\w'.heap[b5]?=some (.cells l.toArray RfT (0,0))/\l.length=4/\l.all jD=true/\Fx.RefV w' (.agg l.toArray) s)
  (λst _=>match st with|[.int _ i]=>P.length-i.toNat|_=>0) ⟨0,Vfs.newM,_,rfl,fW _,ya,rfl,yh,yg,yc,rfl,rfl,xv⟩ ?_
 rintro st g w8 ⟨i,s,l,rfl,hi,xd,hr,ho,hy,xg,hq,xz,yn⟩;have yj:Ext w w8:=hg.trans xd.ext;simp only[cQ,bD,bG,aH,aF];refine iQ ho (v:=vp) rfl ?_;rw[jH xn,dT,fO];refine GdW.look (decide (i<ts.length)) (λ_ J hJ=>?_) λg1=>?_
 ·refine iQ ho (v:=vt) rfl ?_;rw[jH xj,dT];have e:decide (((i:Nat):Int)<(ts.length:Nat))=decide (i<ts.length):=decide_eq_decide.2 (by omega);rw[e];exact hJ
 simp only[aF];rw[fB,fO];refine GdW.look (decide (i<20)) (λ_ J hJ=>?_) λg2=>?_
 ·rw[dT];have e:decide (((i:Nat):Int)<20)=decide (i<20):=decide_eq_decide.2 (by omega);rw[e];exact hJ
 simp only[aF];rw[fB,fO];refine GdW.look true (λ_ J hJ=>?_) λg3=>?_
 ·exact hJ
 simp only[aF];rw[fB,dU];refine⟨λhb=>?_,λhb=>?_⟩
 ·simp only[bL,fD,eY]at hb;have xy:i<P.length:=by omega
  obtain⟨p,xc⟩:∃p,ps[i]?=some p:=⟨_,List.getElem?_eq_getElem (by omega)⟩;obtain⟨t,xk⟩:∃t,ts[i]?=some t:=⟨_,List.getElem?_eq_getElem (by omega)⟩;have xe:P[i]?=some (p,t):=by
   rw[<-hP,List.getElem?_take_of_lt (by omega),List.getElem?_zip_eq_some];exact⟨xc,xk⟩
  have yr:P.drop i=(p,t)::P.drop (i+1):=by
   rw[dQ xy];rw[List.getElem?_eq_getElem xy]at xe;injection xe with xe
   rw[xe]
  rw[yr]at hr;simp only[zC]at hr;have U:=cP w8;generalize w8.drew=w9 at U;have xh:=yj.trans U;have hz:=U.at ho id;have st_i:∀{xs:List Str} {x:Str},xs[i]?=some x->(strs xs)[i]?=some (str x):=λh=>by unfold strs;rw[List.getElem?_map,h];rfl
  refine iQ hz (v:=vt) rfl ?_;refine pX (i:=i) (x:=str t) (xj.ext xh) (by unfold strs;rw[kN]) (st_i xk) ?_;refine iQ hz (v:=vt) rfl ?_;refine pX (i:=i) (x:=str t) (xj.ext xh) (by unfold strs;rw[kN]) (st_i xk) ?_;rw[dM,gT,eF,eD];have xx:(if(6000:Int)<(t.length:Nat)then(6000:Int)else(t.length:Nat))=((min 6000 t.length:Nat):Int):=by split<;>omega
  rw[xx];refine⟨by omega,by omega,?_⟩;rw[eK,eU,bC];have ym:t.take (min 6000 t.length)=t.take 6000:=by rw[List.take_eq_take_iff];omega
  rw[ym];refine iQ hz (v:=vp) rfl ?_;refine pX (i:=i) (x:=str p) (xn.ext xh) (by unfold strs;rw[kN]) (st_i xc) ?_;refine FZ (by kernel_rfl) (by kernel_rfl) (by kernel_rfl) λdv w15 yq ht=>?_;have hx:=(xd.more U).more ht;refine Fx.fwrite hx yq λw16 hv xf=>?_;have hh:=cP w16;generalize w16.drew=w17 at hh;have nb:∀k,k=b1\/k=b3\/k=b5->¬Fx.M2 b m k:=λk hk e=>by
   have e:k=b\/k=m:=e;omega
  have up:∀{k:Nat} {o:Obj},k=b1\/k=b3\/k=b5->w8.heap[k]?=some o->w17.heap[k]?=some o:=λhk h=>hh.at (xf.at (ht.at (U.at h id) id) (nb _ hk)) id;have hb1f:=up (.inl rfl) ho;have hb3f:=up (.inr (.inl rfl)) hy;have hb5f:=up (.inr (.inr rfl)) xg;have xm:Fx.RefV w17 (.agg l.toArray) s:=(((yn.ext U).ext ht).chg xf (QH hx.fs)).ext hh;have xt:Ext w w17:=hg.trans ((hv.more hh).ext);refine fQ hb5f hq ?_;refine iQ hb1f (v:=vp) rfl ?_;refine pX (i:=i) (x:=str p) (xn.ext xt) (by unfold strs;rw[kN]) (st_i xc) ?_;refine Fx.write_ref xm xd.ok (yo p (bI xc)) λv' w18 xl hc=>?_;simp only[bP];refine⟨_,rfl,_,rfl,?_⟩;obtain⟨q',c',rfl,xw⟩:=xl;refine dD (l:=[.slice q' (Vfs.writeM s p (t.take 6000) false).1.files.length c',i64 (Vfs.writeM s p (t.take 6000) false).1.steps,i64 (Vfs.writeM s p (t.take 6000) false).1.left,.bool (Vfs.writeM s p (t.take 6000) false).1.dead]) (hc.at hb5f id) rfl hq rfl λw19 xp hj I=>?_;rw[cG,upi (by omega)];have h5:∀k cc fr,k=b5->w18.heap[k]?≠some (.cells cc Fx.RT fr):=λk cc fr e h=>by
   subst e;rw[hc.at hb5f id]at h;exact Al (by decide) h
  refine⟨⟨i+1,(Vfs.writeM s p (t.take 6000) false).1,_,rfl,by omega,?_,hr,?_,?_,hj,rfl,rfl,?_⟩,by simp only[bC];omega⟩
  ·have xa:=(hv.more hh).more hc;exact⟨xa.fs.chg I (by omega) (by omega) (λk cc fr hk e=>by have hk:k=b5:=hk;subst hk;rw[hc.at hb5f id]at e;exact Al (by decide) e),xa.ok,xa.gb,xa.gm,xa.ext.then I λk hk e=>by omega⟩
  ·exact I.at (hc.at hb1f id) (by omega)
  ·exact I.at (hc.at hb3f id) (by omega)
  ·exact Fx.RefV.chg ⟨q',c',rfl,xw⟩ I h5
 ·have yp:i=P.length:=by
   simp only[dN,Bool.and_eq_false_iff,decide_eq_false_iff_not]at hb;omega
  subst yp;rw[fZ]at hr;simp only[zC]at hr;have U:=cP w8;generalize w8.drew=w9 at U;refine fQ (U.at xg id) hq ?_;refine dD (U.at hy id) hq rfl xz λw19 xp hj I=>?_;refine fQ hj hq ?_;have h9:=xd.more U;rw[hr]at h9;refine hK b m l w19 ⟨h9.fs.chg I (by omega) (by omega) (λk cc fr hk=>?_),h9.ok,by have:=hg.size;have:=h9.gb;omega,by have:=hg.size;have:=h9.gm;omega,?_⟩ hq xz
  ·intro e;have hk:k=b3:=hk;subst hk;rw[U.at hy id]at e;exact Al (by decide) e
  ·exact(hg.trans h9.ext).then I λk hk e=>by omega
end
def NV:Str:=[110,101,116,47,109,97,105,110,46,104,99,108]
def ZF:List Str:=[[109,97,105,110,46,104,99,108],NV]
def awT:List Str:=[[118,97,114,105,97,98,108,101,32,34,97,34,32,123,125,10,109,111,100,117,108,101,32,34,109,34,32,123,10,32,115,111,117,114,99,101,32,61,32,34,110,101,116,34,10,32,120,32,61,32,49,10,125,10],[118,97,114,105,97,98,108,101,32,34,120,34,32,123,125]]
def _root_.Go.Cfg.RL.test{α:Type}(r:RL α)(f:α->Bool):Bool:=match r with
 |.ok x=>f x
 |.bad _ _ _=>false
def _root_.Go.Cfg.RL.testB{α:Type}(r:RL α)(c:Int)(p:Str)(a:Int):Bool:=match r with
 |.ok _=>false
 |.bad c' p' a'=>decide (c'=c)&&decide (p'=p)&&decide (a'=a)
theorem _root_.Go.Cfg.RL.of_test{α:Type}{r:RL α}{f:α->Bool}(h:r.test f=true):∃x,r=.ok x/\f x=true:=by
 cases r with
 |ok x=>exact⟨x,rfl,h⟩
 |bad c p a=>cases h
theorem _root_.Go.Cfg.RL.of_testB{α:Type}{r:RL α}{c a:Int}{p:Str}(h:r.testB c p a=true):r=.bad c p a:=by
 cases r with
 |ok x=>cases h
 |bad c' p' a'=>
  simp only[Go.Cfg.RL.testB,bL,fD]at h;obtain⟨⟨rfl,rfl⟩,rfl⟩:=h;rfl
theorem XR:(qF (Dp (qA ZF awT)) 4 [] []).test (λl=>match l with
 |[a,b]=>(match a.calls with
  |[c]=>decide (c.mod=1)
  |_=>false)
 |_=>false)=true:=by kernel_rfl
theorem TJ:(qF (Dp (Vfs.removeM (qA ZF awT) NV).1) 4 [] []).testB 111 NV 0=true:=by kernel_rfl
def ZE:Str:=[115,47]
def xB:Nat->Str
 |0=>[]
 |n+1=>xB n++ZE
def dpA:Str:=[108,111,99,97,108,115,32,123,10,32,97,32,61,32,49,10,125,10]
def dpB:Str:=[109,111,100,117,108,101,32,34,109,34,32,123,10,32,115,111,117,114,99,101,32,61,32,34,115,34,10,125,10]
def Bl(n:Nat):List Str:=(List.range (n+1)).map λi=>xB i++mO
def CQ(n:Nat):List Str:=(List.range (n+1)).map λi=>if i=n then dpA else dpB
theorem XM:(List.range 5).all (λn=>(qF (Dp (qA (Bl n) (CQ n))) 4 [] []).test λl=>decide (l.length=n+1))=true:=by kernel_rfl
theorem XN:(qF (Dp (qA (Bl 5) (CQ 5))) 4 [] []).testB 111 (xB 4++mO) 0=true:=by kernel_rfl
theorem VI:(qF (Dp (qA (Bl 6) (CQ 6))) 4 [] []).testB 111 (xB 4++mO) 0=true:=by kernel_rfl
def Xk(i:Nat):Str:=if i<10 then [UInt8.ofNat (48+i)]else [UInt8.ofNat (48+i/10),UInt8.ofNat (48+i%10)]
theorem MH(h:i<100):Lib.itoa (i:Int)=Xk i:=by
 rw[Lib.itoa_nonneg];unfold Xk;split
 ·rename_i j;rw[Lib.decDigits_one j]
 ·rename_i j;rw[Lib.decDigits_two j h]
def wM:Str:=[109,111,100,117,108,101,32,34,109]
def wX:Str:=[34,32,123,10,32,115,111,117,114,99,101,32,61,32,34,120,34,10,125,10]
def Xd:Str:=[120,47,109,97,105,110,46,104,99,108]
def wT:Nat->Str
 |0=>[]
 |i+1=>wT i++((wM++Xk i)++wX)
def wA(i:Nat):Nat:=if i<=15 then 0 else(wT 15).length
theorem IX(i:Nat):(Xk i).length<=2:=by unfold Xk;split<;>simp
theorem Lq:∀i,(wT i).length<=40*i
 |0=>by simp[wT]
 |i+1=>by
  have o:=Lq i
  have j:=IX i
  have e1:wM.length=9:=rfl
  have e2:wX.length=20:=rfl
  simp only[wT,aP]
  omega
theorem Xl:(List.range 16).all (λn=>(qF (Dp (qA [mO,Xd] [wT n,[]])) 4 [] []).test λl=>decide (l.length=n+1))=true:=by kernel_rfl
theorem Xm:(List.range 4).all (λn=>(qF (Dp (qA [mO,Xd] [wT (n+16),[]])) 4 [] []).testB 111 mO (wT 15).length)=true:=by kernel_rfl
theorem AK(h:jD v=true):v.cells=#[v]:=by
 cases v<;>first|rfl|(simp[jD]at h)
theorem Um{a b u:Value}{K:List Value->Prop}(o:jD u=true)(j:jD v=true)(I:K [u,v]):iX [a,b] [(0,1,u),(1,1,v)] K:=by
 have e1:=AK o;have e2:=AK j;simp only[iX,e1,e2];refine⟨rfl,by simp,rfl,by simp,?_⟩;exact I
theorem Ao{x y:Str}{K:Q0}(j:∀t w',gD w' StT t 2 (strs [x,y])->Ext w w'->K t w'):fV StT 2 [str [],str []] [(0,1,str x),(1,1,str y)] w K:=by
 rw[fV];refine Um rfl rfl ?_;exact j _ _ (zW (w:=w) (base:=w.heap.size) (e:=StT) (size:=1) (n:=2) (cs:=[str x,str y]) (aY _) rfl (by omega)).sl (Chg.alloc (Chg.refl _ _) _)
theorem Nb(K:Value->Prop):eqW .ptr false (.pointer none) (.pointer none) K↔K (.bool true):=iO
section
variable [HX]
theorem Ix{d:Nat}{c a:Int}{p:Str}{K:Q0}(o:c≠0)(hb:w.heap[d]?=some (.cells [i64 c,str p,i64 a].toArray 48 (0,0)))(I:K (.bool true) w):aI P0 21 [pA d,i64 c,str p,i64 a] w K:=by
 refine WH ?_;unfold W21;rw[bX,cM o,bW,Fx.ne_pn,fO];simp only[cQ,bD,bG,aH];refine GdW.look true (λ_ J j=>?_) λg1=>?_
 ·refine iQ hb (v:=i64 c) rfl ?_;rw[bX,bK rfl];exact j
 simp only[aF];rw[fB,fO];refine GdW.look true (λ_ J j=>?_) λg2=>?_
 ·refine iQ hb (v:=str p) rfl ?_;rw[eC,bK rfl];exact j
 simp only[aF];rw[fB,fO];refine GdW.look true (λ_ J j=>?_) λg3=>?_
 ·refine iQ hb (v:=i64 a) rfl ?_;rw[bX,bK rfl];exact j
 simp only[aF];rw[fB];exact I
theorem HJ.field{B:Nat}{Ls:List ML}{mods:List Md}{j:Nat}{L:ML}{m:Md}{u:Value}{K:Value->Prop}(h:HJ w B v Ls mods)(hL:Ls[i]?=some L)(I:mods[i]?=some m)(hj:j<9)(U:(L.cells m.dir)[j]?=some u)(hK:K u):
  iN none 9 v (i64 (i:Nat)) λt=>aZ j t λt2=>ldW false 1 t2 w K:=by
 have hh:=(List.getElem?_eq_some_iff.1 I).1;obtain⟨g,cap,cur,e,hg,J⟩:=zX h.ow (by omega);have o:=h.ow;rw[e]at o⊢;rw[eG];refine⟨by omega,by omega,?_⟩;rw[bD];simp only[bG,bC,aH];exact Fc o (by rw[tT (n:=9) (j:=j) (Jt hL I) hj];exact U) hK
theorem MdR.call_mod{B:Nat}{L:ML}{m:Md}{c:Cl}{K:Value->Prop}(h:MdR w B L m)(J:m.calls[i]?=some c)(hK:K (i64 (c.mod:Nat))):iN none 4 L.vC (i64 (i:Nat)) λt=>aZ 1 t λt2=>ldW false 1 t2 w K:=by
 have hh:=(List.getElem?_eq_some_iff.1 J).1;obtain⟨g,cap,cur,e,hg,I⟩:=zX h.oC (by omega);have o:=h.oC;rw[e]at o⊢;rw[eG];refine⟨by omega,by omega,?_⟩;rw[bD];simp only[bG,bC,aH];obtain⟨va,U,_⟩:=h.cc.2 i c J;exact Fc o (by rw[tT (n:=4) (j:=1) U (by omega)];rfl) hK
theorem JN{K:Q0}(hT:TabI w)(hK:∀w',Ext w w'->K (.bool true) w'):aI P0 18 [] w K:=by
 refine WL ?_;unfold W18;refine Ao λt8 w1 h8 xv=>?_;refine Ao λt9 w2 h9 xe=>?_;refine Um (gE h8) (gE h9) ?_;have hr:=xv.trans xe;refine FE (ps:=ZF) (ts:=awT) (h8.ext xe) h9 (λp hp=>by simp only[ZF,aX,bQ,fF]at hp;rcases hp with rfl|rfl<;>decide) λb m l w4 xk xy xz=>?_;simp only[bP];refine⟨_,rfl,_,rfl,?_⟩;refine cI λb2 w5 yt yo xq xu=>?_;refine dD xq xy rfl xz λw6 yn ye yd=>?_;have xd:Ext w4 w6:=xu.new yd (by omega);have I:=xk.more xd;rw[Fx.eq_pn,bW];have xh:Ext w w6:=hr.trans I.ext;obtain⟨mods,hmods,htest⟩:=RL.of_test XR;refine Fp (tP hT xh) I.fs I.ok (λmods' hl v Ls w7 xc xl=>?_) (λc p a hl=>by rw[hmods]at hl;cases hl);obtain rfl:mods=mods':=by rw[hmods]at hl;injection hl
 have xj:=I.more xc;simp only[bP];refine⟨_,rfl,_,rfl,?_⟩;refine cI λb3 w8 ys yl xp xt=>?_;refine dD (l:=[v]) xp rfl rfl (by simp[gE xl.ow.sl]) λw9 yk hz yc=>?_;have hq:Ext w7 w9:=xt.new yc (by omega);have xi:=xj.more hq;refine Fx.fremove (p:=NV) xi λw10 hg ht=>?_;have yq:=I.fs.lt;have yp:=I.fs.mlt;have ym:=xc.size;have hj:=xl.ext hq;have hy:HJ w10 w6.heap.size v Ls mods:=hj.keep ht (λk hk e=>by have:=hj.in_.1 k hk;have e:k=b\/k=m:=e;omega) (λL hL k hk e=>by have:=hj.in_.2 L hL k hk;have e:k=b\/k=m:=e;omega);have ho:=ht.at hz (λe=>by have e:b3=b\/b3=m:=e;omega);have hi:Ext w w10:=hr.trans hg.ext;refine Fp (tP hT hi) hg.fs hg.ok (λmods' hl=>by have e:=RL.of_testB TJ;rw[e]at hl;cases hl) (λc p a hl d w11 xg hd yb=>?_);have xw:=RL.of_testB TJ;rw[xw]at hl;injection hl with e1 e2 e3
 subst e1 e2 e3;simp only[bP];refine⟨_,rfl,_,rfl,?_⟩;refine cI λb5 w12 yr yg xo xf=>?_;refine dD (l:=[.slice none 0 0]) xo rfl rfl rfl λw13 yf xr xm=>?_;have hh:Ext w11 w13:=xf.new xm (by omega);have U:=xg.trans hh;have o:=hy.ext U;have hc:=U.at ho id;have hx:=hh.at yb id;have hv:=hi.trans U;rw[Nb,fO];obtain⟨ma,mb,rfl⟩:∃ma mb,mods=[ma,mb]:=by
  revert htest;cases mods with
  |nil=>intro h;cases h
  |cons a l=>cases l with
   |nil=>intro h;cases h
   |cons b l=>cases l with
    |nil=>intro _;exact⟨a,b,rfl⟩
    |cons c l=>intro h;cases h
 obtain⟨c0,xn,xx⟩:∃c,ma.calls=[c]/\c.mod=1:=by
  simp only at htest;revert htest;cases ma.calls with
  |nil=>intro h;cases h
  |cons c l=>cases l with
   |nil=>intro h;exact⟨c,rfl,dJ h⟩
   |cons d l=>intro h;cases h
 obtain⟨La,xa⟩:∃La,Ls[0]?=some La:=⟨_,List.getElem?_eq_getElem (by rw[o.len];simp)⟩;have hs:=o.md 0 La ma xa rfl;refine GdW.look true (λ_ J hJ=>?_) λg1=>?_
 ·rw[bD,bG,aH];refine iQ hc (v:=v) rfl ?_;rw[jH o.ow.sl,bX];exact hJ
 simp only[aF];rw[fB,fO];refine GdW.look true (λ_ J hJ=>?_) λg2=>?_
 ·rw[bD,bG,aH];refine iQ hc (v:=v) rfl ?_;refine o.field (i:=0) (j:=8) (u:=La.vC) xa rfl (by omega) rfl ?_;rw[jH hs.oC.sl,bX,xn];exact hJ
 simp only[aF];rw[fB,fO];refine GdW.look true (λ_ J hJ=>?_) λg3=>?_
 ·rw[bD,bG,aH];refine iQ hc (v:=v) rfl ?_;refine o.field (i:=0) (j:=8) (u:=La.vC) xa rfl (by omega) rfl ?_;refine hs.call_mod (i:=0) (c:=c0) (by rw[xn];rfl) ?_;rw[xx,bX];exact hJ
 simp only[aF];rw[fB,fO];refine GdW.look true (λ_ J hJ=>?_) λg4=>?_
 ·refine Ix (by decide) hx ?_;exact hJ
 simp only[aF];rw[fB];exact hK w13 hv
end
end
section
open Go Go.Eng Go.RowKit
variable{w:World}{K:Q0}{cs:List Value}{G:Nat->Prop}{T:TypeId}{i:Nat}{n:Nat}{v:Value}{w':World}{P:Program}{c:UInt8}{S:Nat->Prop}
section
variable [HX]
theorem JB(u:Nat):Lib.decDigits u≠[]:=by
 rw[Lib.decDigits];split<;>simp
theorem MU(u:Nat)(h:0<u):Lib.decDigits u=(if u/10=0 then []else Lib.decDigits (u/10))++[UInt8.ofNat (48+u%10)]:=by
 rw[Lib.decDigits];split
 ·rw[aO (by omega),qD (by omega)];rfl
 ·rw[aJ (by omega)]
theorem KJ{u:Nat}(h:Lib.decDigits u=[48]):u=0:=by
 rw[Lib.decDigits]at h;split at h
 ·rename_i j;have:=List.head_eq_of_cons_eq h;have e:=congrArg UInt8.toNat this;rw[rF]at e;have:(48:UInt8).toNat=48:=rfl;omega
 ·rename_i j;have:=congrArg List.length h;rw[aP]at this;have o:0<(Lib.decDigits (u/10)).length:=gY.2 (JB _);simp at this;exact absurd this (JB _)
theorem GZ:∀(k u:Nat),u<10^k->(Lib.decDigits u).length<=k+1:=by
 intro k;induction k with
 |zero=>intro u h;rw[Lib.decDigits,dif_pos (by omega)];simp
 |succ k ih=>
  intro u h;rw[Lib.decDigits];split
  ·simp
  ·have:=ih (u/10) (by rw[Nat.pow_succ]at h;omega);rw[aP,List.length_singleton];omega
theorem KH{n:Int}{K:Q0}(hn:n≠0)(h1:-9223372036854775808<=n)(h2:n<=9223372036854775807)(o:K (str (Lib.itoa n)) w):aI P0 53 [.bool (decide (n<0)),str (Lib.decDigits n.natAbs)] w K:=by
 refine Wr ?_;unfold W53;have I:Lib.decDigits n.natAbs≠[48]:=λe=>by have:=KJ e;omega
 unfold Lib.itoa at o;by_cases j:n<0
 ·rw[aO j]at o;rw[bK j];refine GdW.look true (λ_ J U=>?_) λg=>?_
  ·rw[gC,bK I];exact U
  show bB (.bool true) _ _;rw[cU,eR];have:=GZ 19 n.natAbs (by omega);have em:IntKind.i64.max=9223372036854775807:=by decide
  refine⟨by rw[em];simp only[aB,aK];omega,?_⟩;exact o
 ·rw[aJ j]at o;rw[cM j];refine GdW.f λg=>?_;show bB (.bool false) _ _;rw[bW];rw[show n.natAbs=n.toNat by omega];exact o
theorem GY{n:Int}{K:Q0}(h1:-9223372036854775808<=n)(h2:n<=9223372036854775807)(hK:∀w',Ext w w'->K (str (Lib.itoa n)) w'):aI P0 22 [i64 n] w K:=by
 refine WG ?_;unfold W22;rw[bX,bA];refine⟨λI=>?_,λI=>?_⟩
 ·subst I;have e:Lib.itoa 0=[48]:=by unfold Lib.itoa;rw[aJ (by decide),Lib.decDigits,dif_pos (by decide)];rfl
  rw[e]at hK;exact hK w (Chg.refl _ _)
 refine⟨λs w'=>∃(m:Int) (out:Str),s=[str out,i64 m]/\Ext w w'/\(if m=0 then []else Lib.decDigits m.natAbs)++out=Lib.decDigits n.natAbs/\-9223372036854775808<=m/\m<=9223372036854775807,
  λs _=>match s with|[_,.int _ i]=>i.natAbs|_=>0,⟨n,[],rfl,Chg.refl _ _,by rw[aJ I,eZ],h1,h2⟩,?_⟩
 rintro s g w2 ⟨m,out,rfl,hx,o,hv,hs⟩;simp only[aF,bJ];rw[eX,bA];refine⟨λU=>?_,λj=>?_⟩
 ·have hr:out.length<=25:=by
   have:=GZ 19 n.natAbs (by omega);rw[<-o,aP]at this;omega
  rw[aJ U,MU _ (by omega),fK]at o;rw[gO];refine⟨by decide,?_⟩;have hd:(m.tmod 10).natAbs=m.natAbs%10:=by rw[Int.natAbs_tmod];rfl
  have hq:(m.tdiv 10).natAbs=m.natAbs/10:=by rw[Int.natAbs_tdiv];rfl
  refine cX.cut (λs' w'=>s'=[i64 ((m.natAbs%10:Nat):Int)]/\w'=w2) ?_ ?_
  ·rw[dT,bA];refine⟨λh=>?_,λh=>?_⟩
   ·rw[jP,fE (by omega) (by omega),show 0-m.tmod 10=((m.natAbs%10:Nat):Int)by omega];exact⟨rfl,rfl⟩
   ·rw[show m.tmod 10=((m.natAbs%10:Nat):Int)by omega];exact⟨rfl,rfl⟩
  rintro s' g2 w3 ⟨rfl,rfl⟩;simp only[aF];rw[cG,fE (by omega) (by omega),fM,show(48:Int)+((m.natAbs%10:Nat):Int)=((48+m.natAbs%10:Nat):Int)by omega,xK,qD (by omega)];refine HW λt w4 ht J=>?_;have hb:Byt w4 U8 t [UInt8.ofNat (48+m.natAbs%10)]:=by
   have e1:u8s [UInt8.ofNat (48+m.natAbs%10)]=[.int .u8 ((48+m.natAbs%10:Nat):Int)]:=by
    simp only[u8s,fC,jQ,rF];rw[qD (by omega)]
   unfold Byt;rw[e1];exact ht
  rw[CR (l:=[UInt8.ofNat (48+m.natAbs%10)]) (e:=U8) (by kernel_rfl) (by kernel_rfl) (by kernel_rfl) hb,eR];have em:IntKind.i64.max=9223372036854775807:=by decide
  refine⟨by rw[em];simp only[aB,aK];omega,?_⟩;rw[gW];refine⟨by decide,?_⟩;rw[fE (by omega) (by omega)];refine⟨⟨m.tdiv 10,_,rfl,hx.trans J,?_,by omega,by omega⟩,?_⟩
  ·rw[<-o,<-hq];by_cases hz:m.tdiv 10=0
   ·rw[aO hz,aO (by omega)]
   ·rw[aJ hz,aJ (by omega)]
  ·show(m.tdiv 10).natAbs<m.natAbs;omega
 ·have j:m=0:=jA j;rw[aO j,gJ]at o;rw[dT,o];exact KH I h1 h2 (hK w2 hx)
end
end
section
open Go Go.Eng Go.RowKit Go.Syn Go.Lex Go.Cfg
variable{w:World}{K:Q0}{cs:List Value}{G:Nat->Prop}{T:TypeId}{i:Nat}{n:Nat}{v:Value}{w':World}{P:Program}{c:UInt8}{S:Nat->Prop}
theorem TQ{a:Int}{m:Nat}(J:0<m)(I:m<1000):∃n:Nat,n<m/\IntKind.i64.wrap ((IntKind.u64.wrap a).tmod (m:Nat))=(n:Int):=by
 obtain⟨u,o⟩:∃u:Nat,IntKind.u64.wrap a=(u:Int):=⟨(IntKind.u64.wrap a).toNat,by rw[IntKind.wrap_u64];omega⟩;have j:=Nat.mod_lt u J;refine⟨u%m,j,?_⟩;have e:((u:Nat):Int).tmod (m:Nat)=((u%m:Nat):Int):=by rw[Int.tmod_eq_emod_of_nonneg (by omega)];omega
 rw[o,e,fE (by omega) (by omega)]
section
variable [HX]
theorem cwide_true{a:Int}{K:Q0}(hT:TabI w)(_ha:-9223372036854775808<=a/\a<=9223372036854775807)(hK:∀w',Ext w w'->K (.bool true) w'):aI P0 7 [i64 a] w K:=by
 refine XT ?_;unfold W7;refine JN hT λw1 xj=>?_;rw[fG,dA,bW,fM,gO];refine⟨by decide,?_⟩;obtain⟨n,hn,en⟩:=TQ (a:=a) (m:=20) (by omega) (by omega);rw[fM,show IntKind.i64.wrap ((IntKind.u64.wrap a).tmod 20)=(n:Int)from en];have em:IntKind.i64.max=9223372036854775807:=by decide
 refine eJ.go (λst w'=>∃i:Nat,st=[str (wT i),i64 (wA i:Nat),i64 (i:Nat)]/\i<=n/\Ext w w') (λst _=>match st with|[_,_,.int _ i]=>n-i.toNat|_=>0) ⟨0,rfl,fW _,xj⟩ ?_;rintro st g w3 ⟨i,rfl,hi,xc⟩;simp only[aF,bJ];rw[dT,bA];refine⟨λxk=>?_,λxz=>?_⟩
 ·have xk:i<n:=by omega
  have hl:=Lq i;refine cX.cut (λst w'=>st=[i64 (wA (i+1):Nat)]/\w'=w3) ?_ ?_
  ·rw[bX,bA];refine⟨λh=>?_,λh=>?_⟩
   ·obtain rfl:i=15:=by omega
    rw[dM];exact⟨rfl,rfl⟩
   ·refine⟨?_,rfl⟩;have:wA (i+1)=wA i:=by
     unfold wA;by_cases h1:i<=15
     ·rw[aO h1,aO (by omega)]
     ·rw[aJ h1,aJ (by omega)]
    rw[this]
  rintro st g2 w5 ⟨rfl,rfl⟩;refine GY (by omega) (by omega) λw6 xi=>?_;rw[MH (by omega)];have xy:=IX i;have e1:wM.length=9:=rfl;have e2:wX.length=20:=rfl;have r1:([109,111,100,117,108,101,32,34,109]:Str)=wM:=rfl;have r2:([34,32,123,10,32,115,111,117,114,99,101,32,61,32,34,120,34,10,125,10]:Str)=wX:=rfl;rw[r1,r2,eR];refine⟨by rw[em];omega,?_⟩;rw[eR];refine⟨by rw[em];simp only[aP];omega,?_⟩;rw[eR];refine⟨by rw[em];simp only[aP];omega,?_⟩;simp only[aF];rw[cG,upi (by omega)];exact⟨⟨i+1,rfl,by omega,xc.trans xi⟩,by simp only[bC];omega⟩
 ·obtain rfl:i=n:=by omega
  refine Ao λt32 w7 h7 xh=>?_;refine Ao λt34 w8 h8 xa=>?_;refine Um (gE h7) (gE h8) ?_;have xb:=xh.trans xa;refine FE (ps:=[mO,Xd]) (ts:=[wT i,[]]) (h7.ext xa) h8 (λp hp=>by simp only[aX,bQ,fF]at hp;rcases hp with rfl|rfl<;>decide) λb m l w10 ht xl xm=>?_;simp only[bP];refine⟨_,rfl,_,rfl,?_⟩;refine cI λb7 w11 ya xr xg xd=>?_;refine dD xg xl rfl xm λw12 xq xo xf=>?_;have hs:Ext w10 w12:=xd.new xf (by omega);have U:=ht.more hs;rw[Fx.eq_pn,bW];have o:Ext w w12:=(xc.trans xb).trans U.ext;have hh:i<=15->(qF (Dp (qA [mO,Xd] [wT i,[]])) 4 [] []).test (λl=>decide (l.length=i+1))=true:=λh=>gI.1 Xl i (lP.2 (by omega));have hj:¬i<=15->qF (Dp (qA [mO,Xd] [wT i,[]])) 4 [] []=.bad 111 mO (wA i):=λh=>by
   have:=RL.of_testB (gI.1 Xm (i-16) (lP.2 (by omega)));rw[show i-16+16=i by omega]at this;rw[this];unfold wA;rw[aJ h]
  refine Fp (tP hT o) U.fs U.ok (λmods hl v Ls w13 hg xe=>?_) (λc p at_ hl d w13 hg hd xn=>?_)
  ·have hx:i<=15:=jA λh=>by rw[hj h]at hl;cases hl
   obtain⟨mods',I,hk⟩:=RL.of_test (hh hx);rw[hl]at I;injection I with I
   subst I;have hk:=dJ hk;simp only[bP];refine⟨_,rfl,_,rfl,?_⟩;refine cI λb8 w14 xp hz hq hc=>?_;refine dD (l:=[v]) hq rfl rfl (by simp[gE xe.ow.sl]) λw15 hy hr ho=>?_;have j:Ext w13 w15:=hc.new ho (by omega);have hv:=xe.ext j;rw[fL,bK (by omega),cU,Nb,fO];refine GdW.look true (λ_ J hJ=>?_) λg4=>?_
   ·rw[bD,bG,aH];refine iQ hr (v:=v) rfl ?_;rw[jH hv.ow.sl,cG,upi (by omega),bX,hk,bK rfl];exact hJ
   simp only[aF];rw[fB];exact hK w15 (o.trans (hg.trans j))
  ·have hx:¬i<=15:=λh=>by
    obtain⟨mods',I,_⟩:=RL.of_test (hh h);rw[hl]at I;cases I
   rw[hj hx]at hl;injection hl with e1 e2 e3
   subst e1 e2 e3;simp only[bP];refine⟨_,rfl,_,rfl,?_⟩;refine cI λb8 w14 xp hz hq hc=>?_;refine dD (l:=[.slice none 0 0]) hq rfl rfl rfl λw15 hy hr ho=>?_;have j:Ext w13 w15:=hc.new ho (by omega);rw[fL,cM (by omega),bW];refine Ix (by decide) (j.at xn id) ?_;exact hK w15 (o.trans (hg.trans j))
end
end
section
open Go Go.RowKit Go.Eng
variable{w:World}{K:Q0}{cs:List Value}{G:Nat->Prop}{T:TypeId}{i:Nat}{n:Nat}{v:Value}{w':World}{P:Program}{c:UInt8}{S:Nat->Prop}
theorem tabi_of(j:w.ShapedOpen P0):TabI w:=
 Go.Proofs.cell_of_shapedOpen_int (t:=3) (zero:=#[.int .i64 0]) j (dJ (by kernel_rfl)) (by kernel_rfl) rfl (by kernel_rfl) (by kernel_rfl) Tryz.underlying3
theorem handed_and_shaped{H:Type}{enc:TypeId×Value->H}{a:Assume}{C:Checked}{os:Os}{f:FuncId}{fn:Func}{s:ChangeSpec}{conds:List PathCond}{apart fresh handsOn again:Bool}{X:World->Array Value->Prop}
  (hX:∀(w w':World) (args:Array Value),w.heap=w'.heap->X w args->X w' args)
  (own:ownKnob C.prog.godebug=none)(started:os.Started)(noInit:C.prog.inits.idxOf? f=none)(hi:C.prog.funcs[f]?=some fn)
  (witness:∃(w:World) (tape:Tape) (i:Input),w.os=os/\(w.forCall tape i).Shaped C.prog/\i.vars=[]/\Input.okWide C.prog (w.forCall tape i) .any w.heap.size f i/\
    ((s.pre enc C.prog fn conds apart (w.forCall tape i).memory i.args/\X (w.forCall tape i).memory i.args)/\sizedMet enc C.prog fn (OpenSpec.ofChange s) apart (w.forCall tape i).memory i.args)/\a.holds C.prog (lone (Frame.enter C.prog f i.args .normal) [] (w.forCall tape i)))
  (contract:∀(W:World) (base:Nat) (args:Array Value) (ds gs:List (DataW H)) (before:List MemPlace),
    (∀(j:Nat) t v,fn.params[j]?=some t->args[j]?=some v->Value.okWide C.prog W .any base t v)->
    DataW.Whole enc C.prog fn.params.toList s.vars apart W args.toList ds gs before->
    conds.all (PathCond.test C.prog ⟨fn.params.toList,ds,s.plain.varTypes C.prog,gs⟩)=true->
    (DataW.weightsEach C.prog (fn.params.toList++s.plain.varTypes C.prog) (ds++gs)).all (· <=reachBytes)=true->X W args->W.ShapedOpen C.prog->
    a.holds C.prog (lone (Frame.enter C.prog f args .normal) [] W)->
    Calls C.prog f args W λe W'=>∃v,e=.returned v/\s.post enc C.prog fn apart fresh handsOn again W args v W'):
  ReturnsInHanded a C os f .any (λw args=>(s.pre enc C.prog fn conds apart w args/\X w args)/\sizedMet enc C.prog fn (OpenSpec.ofChange s) apart w args) (s.post enc C.prog fn apart fresh handsOn again):=by
 refine returnsInHanded_of_calls own started noInit witness ?_;intro w tape i _ hg _ hh I hholds;obtain⟨_,_,_,fn',J,_,_,_,_,o⟩:=hh;have e:fn'=fn:=Option.some.inj (J.symm.trans hi);subst e;obtain⟨⟨⟨ds,gs,before,hw,hc⟩,hx⟩,hz⟩:=I;have U:=DataW.Whole.of_heap (w':=w.forCall tape i) (by rfl) hw;refine(contract (w.forCall tape i) w.heap.size i.args ds gs before o U hc (hz.weights hw) (hX _ _ _ (by rfl) hx) hg hholds).mono λe W' ⟨v,he,hp⟩=>?_;subst he;exact ChangeSpec.post_blind hp
section
variable{H:Type}{enc:TypeId×Value->H}{w:World}{base:Nat}{spare:Nat->Bool}{held:Bool}
theorem fopen_i{d:DataW H}{ps:List MemPlace}{r:Reach}{b0:Nat}(j:Value.okWide P0 w r b0 3 v)(h:DataW.Trod enc P0 w base spare held 3 v d ps):∃n:Int,v=i64 n/\-9223372036854775808<=n/\n<=9223372036854775807:=by
 obtain⟨n,rfl,_,_,o⟩:=Go.ChangeShapes.open_int Tryz.underlying3 j h;refine⟨n,rfl,?_⟩;have e1:IntKind.i64.min=-9223372036854775808:=by decide
 have e2:IntKind.i64.max=9223372036854775807:=by decide
 simp only[Lit.wf,bL,fD,e1,e2]at o;exact o
end
end
section
open Go Go.Eng Go.RowKit Go.Syn Go.Lex Go.Cfg
variable{w:World}{K:Q0}{cs:List Value}{G:Nat->Prop}{T:TypeId}{i:Nat}{n:Nat}{v:Value}{w':World}{P:Program}{c:UInt8}{S:Nat->Prop}
abbrev ZH:TypeId:=51
theorem ZU{a u:Value}{K:List Value->Prop}(j:jD u=true)(o:K [u]):iX [a] [(0,1,u)] K:=by
 have e1:=AK j;simp only[iX,e1];exact⟨rfl,by simp,o⟩
theorem Ap{x:Str}{K:Q0}(o:∀t w',gD w' StT t 1 (strs [x])->(∀k,t.ownBlock=some k->w.heap.size<=k)->Ext w w'->K t w'):fV StT 1 [str []] [(0,1,str x)] w K:=by
 rw[fV];refine ZU rfl ?_;exact o _ _ (zW (w:=w) (base:=w.heap.size) (e:=StT) (size:=1) (n:=1) (cs:=[str x]) (aY _) rfl (by omega)).sl (λk j=>by cases j;exact aY _) (Chg.alloc (Chg.refl _ _) _)
theorem TP{a:Int}{m:Nat}(J:0<m)(I:m<1000):∃n:Nat,n<m/\IntKind.i64.wrap ((IntKind.u64.wrap a).tmod (m:Nat))=(n:Int):=by
 obtain⟨u,o⟩:∃u:Nat,IntKind.u64.wrap a=(u:Int):=⟨(IntKind.u64.wrap a).toNat,by rw[IntKind.wrap_u64];omega⟩;have j:=Nat.mod_lt u J;refine⟨u%m,j,?_⟩;have e:((u:Nat):Int).tmod (m:Nat)=((u%m:Nat):Int):=by rw[Int.tmod_eq_emod_of_nonneg (by omega)];omega
 rw[o,e,fE (by omega) (by omega)]
theorem AS:∀i,(xB i).length=2*i
 |0=>rfl
 |i+1=>by
  simp only[xB,aP,AS i]
  have:ZE.length=2:=rfl
  omega
structure TR(w0 w:World)(b:Nat)(vp vt:Value)(ps ts:List Str):Prop where
 ch:Ext w0 w
 hb:w.heap[b]?=some (.cells [vp,vt].toArray ZH (0,0))
 op:Own w w0.heap.size StT 1 vp ps.length (strs ps)
 ot:Own w w0.heap.size StT 1 vt ts.length (strs ts)
 ne:∀k,vp.ownBlock=some k->vt.ownBlock≠some k/\k≠b
 nt:vt.ownBlock≠some b
 lo:w0.heap.size<=b
theorem TR.ext{w0:World}{b:Nat}{vp vt:Value}{ps ts:List Str}(h:TR w0 w b vp vt ps ts)(j:Ext w w'):TR w0 w' b vp vt ps ts:=
 ⟨h.ch.trans j,j.at h.hb id,dP h.op j λ_ _ e=>e,dP h.ot j λ_ _ e=>e,h.ne,h.nt,h.lo⟩
structure WX(w0 w:World)(b:Nat)(vp vp' vt:Value)(ps ts:List Str):Prop where
 ch:Ext w0 w
 hb:w.heap[b]?=some (.cells [vp,vt].toArray ZH (0,0))
 op:Own w w0.heap.size StT 1 vp' ps.length (strs ps)
 ot:Own w w0.heap.size StT 1 vt ts.length (strs ts)
 ne:∀k,vp'.ownBlock=some k->vt.ownBlock≠some k/\k≠b
 nt:vt.ownBlock≠some b
 lo:w0.heap.size<=b
theorem WX.ext{w0:World}{b:Nat}{vp vp' vt:Value}{ps ts:List Str}(h:WX w0 w b vp vp' vt ps ts)(j:Ext w w'):WX w0 w' b vp vp' vt ps ts:=
 ⟨h.ch.trans j,j.at h.hb id,dP h.op j λ_ _ e=>e,dP h.ot j λ_ _ e=>e,h.ne,h.nt,h.lo⟩
section
variable [HX]
theorem TR.app{w0:World}{b:Nat}{vp vt t:Value}{ps ts:List Str}{x:Str}{K:Q0}(h:TR w0 w b vp vt ps ts)(J:gD w StT t 1 (strs [x]))(hl:ps.length<=1000)(hK:∀v w',WX w0 w' b vp v vt (ps++[x]) ts->Chg (λk=>vp.ownBlock=some k) w w'->K v w'):
  fH P0 (Builtin.append_ #[33,33] 33 #[vp,t]) w K:=by
 have z:=h.ch.size;refine iL CK h.op J rfl (λu I=>by simp only[strs,fC,jQ,aX,bQ,fF]at I;subst I;rfl) (by omega) (by omega) (by omega) λv' w' hO o U=>?_;refine hK v' w' ⟨h.ch.then o λk j e=>?_,o.at h.hb (λe=>(h.ne b e).2 rfl),by rw[wH,aP];exact hO,dP h.ot o (λk j e=>(h.ne k e).1 j),λk j=>?_,h.nt,h.lo⟩ o
 ·have:=(kA h.op e).2;omega
 ·rcases U k j with e|e
  ·exact h.ne k e
  ·have h1:=mJ h.hb;exact⟨λe2=>by have:=(kA h.ot e2).1;omega,by omega⟩
theorem WX.fin{w0:World}{b:Nat}{vp vp' vt t:Value}{ps ts:List Str}{y:Str}{KW:World->Prop}(h:WX w0 w b vp vp' vt ps ts)(ht:gD w StT t 1 (strs [y]))(hl:ts.length<=1000)(hK:∀v w',TR w0 w' b vp' v ps (ts++[y])->KW w'):
  fH P0 (Builtin.append_ #[33,33] 33 #[vt,t]) w λt36 w13=>
   stW 1 (.pointer (some ⟨b,0,none⟩)) vp' w13 λw14=>stW 1 (.pointer (some ⟨b,1,none⟩)) t36 w14 KW:=by
 have z:=h.ch.size;refine iL CK h.ot ht rfl (λu hu=>by simp only[strs,fC,jQ,aX,bQ,fF]at hu;subst hu;rfl) (by omega) (by omega) (by omega) λv' w' hO hc hn=>?_;have hi:=hc.at h.hb (λe=>h.nt e);refine jZ hi (gE h.op.sl) (by simp) λw14 ho I hg=>?_;have I:w14.heap[b]?=some (.cells [vp',vt].toArray ZH (0,0)):=by rw[I];simp
 refine jZ I (gE hO.sl) (by simp) λw15 hj o U=>?_;have o:w15.heap[b]?=some (.cells [vp',v'].toArray ZH (0,0)):=by rw[o];simp
 have h1:=mJ h.hb;have J:∀k,v'.ownBlock=some k->k≠b:=λk j e=>by
  rcases hn k j with e2|e2
  ·exact h.nt (by rw[<-e];exact e2)
  ·omega
 have c2:Chg (λk=>k=b) w' w15:=hg.trans U;refine hK v' w15 ⟨(h.ch.then hc λk j e=>?_).then c2 λk j e=>?_,o,dP (dP h.op hc λk j e=>(h.ne k j).1 e) c2 (λk j e=>(h.ne k j).2 e),?_,λk j=>⟨λe=>?_,(h.ne k j).2⟩,λe=>J b e rfl,h.lo⟩
 ·have:=(kA h.ot e).2;omega
 ·have:=h.lo;have e:k=b:=e;omega
 ·rw[wH,aP];exact dP hO c2 λk j e=>J k j e
 ·rcases hn k e with e2|e2
  ·exact(h.ne k j).1 e2
  ·have:=(kA h.op j).1;omega
def NG(i:Nat):List Str:=(List.range i).map λj=>xB j++mO
def WW(n j:Nat):Str:=if j=n then dpA else dpB
def NF(n i:Nat):List Str:=(List.range i).map (WW n)
theorem QO(i:Nat):(NG i).length=i:=by simp[NG]
theorem QN(n i:Nat):(NF n i).length=i:=by simp[NF]
theorem CO(i:Nat):NG (i+1)=NG i++[xB i++mO]:=by simp[NG,List.range_succ]
theorem CN(n i:Nat):NF n (i+1)=NF n i++[WW n i]:=by simp[NF,List.range_succ]
theorem cdeep_true{a:Int}{K:Q0}(hT:TabI w)(_ha:-9223372036854775808<=a/\a<=9223372036854775807)(hK:∀w',Ext w w'->K (.bool true) w'):aI P0 6 [i64 a] w K:=by
 refine XU ?_;unfold W6;refine JN hT λw1 yg=>?_;rw[fG,dA,bW,fM,gO];refine⟨by decide,?_⟩;obtain⟨n,hn,en⟩:=TP (a:=a) (m:=7) (by omega) (by omega);rw[fM,show IntKind.i64.wrap ((IntKind.u64.wrap a).tmod 7)=(n:Int)from en];have em:IntKind.i64.max=9223372036854775807:=by decide
 rw[dC];refine cI λb3 w3 ze yy xx yf=>?_;refine dD (l:=[.slice none 0 0,.slice none 0 0]) xx rfl rfl rfl λw4 yx xw ym=>?_;have ye:Ext w1 w4:=yf.new ym (by omega);have xy:TR w1 w4 b3 (.slice none 0 0) (.slice none 0 0) (NG 0) (NF n 0):=
  ⟨ye,xw,pU _ _ _ _,pU _ _ _ _,λk e=>(by cases e),λe=>(by cases e),by omega⟩
 refine eJ.go (λst w'=>∃(i:Nat) (vp vt:Value),st=[str (xB i),i64 (i:Nat)]/\i<=n+1/\TR w1 w' b3 vp vt (NG i) (NF n i)) (λst _=>match st with|[_,.int _ i]=>n+1-i.toNat|_=>0) ⟨0,_,_,rfl,fW _,xy⟩ ?_;rintro st g w6 ⟨i,vp,vt,rfl,hi,hh⟩;simp only[aF,bJ];rw[fL,bA];refine⟨λyi=>?_,λzb=>?_⟩
 ·have yi:i<=n:=by omega
  refine cX.cut (λst w'=>st=[str (WW n i)]/\w'=w6) ?_ ?_
  ·rw[bX,bA];unfold WW;refine⟨λh=>?_,λh=>?_⟩
   ·rw[aO (by omega)];exact⟨rfl,rfl⟩
   ·rw[aJ (by omega)];exact⟨rfl,rfl⟩
  rintro st g2 w8 ⟨rfl,rfl⟩;simp only[aF];have zc:=AS i;have yz:mO.length=8:=rfl;refine cX.cut (λst w'=>st=[]/\∃vp' vt',TR w1 w' b3 vp' vt' (NG (i+1)) (NF n (i+1))) ?_ ?_
  ·have I:=hh.ext (cP w8);generalize w8.drew=w9 at I;have lp:(NG i).length<=1000:=by rw[QO];omega
   have lt:(NF n i).length<=1000:=by rw[QN];omega
   simp only[cQ,bD,bG,aH];refine iQ I.hb (v:=vp) rfl ?_;have r1:([109,97,105,110,46,104,99,108]:Str)=mO:=rfl;rw[r1,eR];refine⟨by rw[em];omega,?_⟩;refine iQ I.hb (v:=vt) rfl ?_;refine⟨?_,?_⟩
   ·refine Ap λt30 w10 xa n30 xp=>?_;have hy:=I.ext xp;refine⟨iQ hy.hb (v:=vt) rfl rfl,iQ hy.hb (v:=vp) rfl rfl,?_,?_⟩
    ·refine hy.app xa lp λv31 w11 yd yu=>?_;refine⟨iQ yd.hb (v:=vt) rfl rfl,?_⟩;refine Ap λt35 w12 hx n35 xn=>?_;have yc:=yd.ext xn;refine⟨iQ yc.hb (v:=vt) rfl rfl,?_⟩;refine yc.fin hx lt λv w' hf=>⟨by trivial,v31,v,?_⟩;rw[CO,CN];exact hf
    ·refine Ap λt35 w16 hx n35 xc=>?_;have xj:=hy.ext xc;refine⟨iQ xj.hb (v:=vt) rfl rfl,iQ xj.hb (v:=vp) rfl rfl,?_⟩;refine xj.app (xa.ext xc) lp λv31 w17 yb xt=>?_;refine⟨iQ yb.hb (v:=vt) rfl rfl,?_⟩;refine yb.fin (y:=WW n i) ?_ lt λv w' hf=>⟨by trivial,v31,v,?_⟩
     ·exact qQ hx xt λk hk e=>by have:=n35 k hk;have:=(kA hy.op e).1;omega
     ·rw[CO,CN];exact hf
   ·refine Ap λt35 w21 hx n35 xm=>?_;have xi:=I.ext xm;refine⟨iQ xi.hb (v:=vt) rfl rfl,iQ xi.hb (v:=vp) rfl rfl,?_⟩;refine Ap λt30 w22 xa n30 xb=>?_;have xh:=xi.ext xb;refine⟨iQ xh.hb (v:=vt) rfl rfl,iQ xh.hb (v:=vp) rfl rfl,?_⟩;refine xh.app xa lp λv31 w23 ya xr=>?_;refine⟨iQ ya.hb (v:=vt) rfl rfl,?_⟩;refine ya.fin (y:=WW n i) ?_ lt λv w' hf=>⟨by trivial,v31,v,?_⟩
    ·exact qQ (hx.ext xb) xr λk hk e=>by have:=n35 k hk;have:=(kA I.op e).1;omega
    ·rw[CO,CN];exact hf
  rintro st g3 w27 ⟨rfl,vp',vt',xz⟩;have r2:([115,47]:Str)=ZE:=rfl;have h2:ZE.length=2:=rfl;rw[r2,eR];refine⟨by rw[em];omega,?_⟩;rw[cG,upi (by omega)];exact⟨⟨i+1,vp',vt',rfl,by omega,xz⟩,by simp only[bC];omega⟩
 ·obtain rfl:i=n+1:=by omega
  refine fQ hh.hb rfl ?_;have hP:NG (n+1)=Bl n:=rfl;have yp:NF n (n+1)=CQ n:=rfl;rw[hP,yp]at hh;refine FE (ps:=Bl n) (ts:=CQ n) hh.op.sl hh.ot.sl (λp hp=>?_) λb m l w10 xf yh yj=>?_
  ·unfold Bl at hp;obtain⟨j,hj,rfl⟩:=lQ.1 hp;have:=lP.1 hj;have h1:=AS j;have h2:mO.length=8:=rfl;rw[aP];omega
  simp only[bP];refine⟨_,rfl,_,rfl,?_⟩;refine cI λb7 w11 zd ys xv xo=>?_;refine dD xv yh rfl yj λw12 yr yn xu=>?_;have hz:Ext w10 w12:=xo.new xu (by omega);have hg:=xf.more hz;rw[Fx.eq_pn,bW];have U:Ext w w12:=(yg.trans hh.ch).trans hg.ext;have xd:n<=4->(qF (Dp (qA (Bl n) (CQ n))) 4 [] []).test (λl=>decide (l.length=n+1))=true:=λh=>gI.1 XM n (lP.2 (by omega));have xe:¬n<=4->qF (Dp (qA (Bl n) (CQ n))) 4 [] []=.bad 111 (xB 4++mO) 0:=λh=>by
   rcases(by omega:n=5\/n=6)with rfl|rfl
   ·exact RL.of_testB XN
   ·exact RL.of_testB VI
  refine Fp (tP hT U) hg.fs hg.ok (λmods hl v Ls w13 hq xq=>?_) (λc p at_ hl d w13 hq hd yl=>?_)
  ·have h4:n<=4:=jA λh=>by rw[xe h]at hl;cases hl
   obtain⟨mods',hc,hr⟩:=RL.of_test (xd h4);rw[hl]at hc;injection hc with hc
   subst hc;have hr:=dJ hr;simp only[bP];refine⟨_,rfl,_,rfl,?_⟩;refine cI λb8 w14 yo xl ht ho=>?_;refine dD (l:=[v]) ht rfl rfl (by simp[gE xq.ow.sl]) λw15 xk hv hs=>?_;have o:Ext w13 w15:=ho.new hs (by omega);have xg:=xq.ext o;rw[fL,bK (by omega),cU,Nb,fO];refine GdW.look true (λ_ J hJ=>?_) λg4=>?_
   ·rw[bD,bG,aH];refine iQ hv (v:=v) rfl ?_;rw[jH xg.ow.sl,cG,upi (by omega),bX,hr,bK rfl];exact hJ
   simp only[aF];rw[fB];exact hK w15 (U.trans (hq.trans o))
  ·have h4:¬n<=4:=λh=>by
    obtain⟨mods',hc,_⟩:=RL.of_test (xd h);rw[hl]at hc;cases hc
   rw[xe h4]at hl;injection hl with e1 e2 e3
   subst e1 e2 e3;simp only[bP];refine⟨_,rfl,_,rfl,?_⟩;refine cI λb8 w14 yo xl ht ho=>?_;refine dD (l:=[.slice none 0 0]) ht rfl rfl rfl λw15 xk hv hs=>?_;have o:Ext w13 w15:=ho.new hs (by omega);rw[fL,cM (by omega),bW];refine Ix (p:=xB 4++mO) (by decide) (o.at yl id) ?_;exact hK w15 (U.trans (hq.trans o))
end
end
end Go.Proofs.YtjblfcfdeaagpaaGreatDoor
