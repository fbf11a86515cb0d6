/- One plain sentence: contracts and plain laws that the claim rests on. Conditions: those that each states. -/
import Derived.Test.YtghhmpppnmoeoaaGreatDoorXNumbers2
import Derived.Lib.DecodeN
import Derived.Lib.RuneBytes
import Derived.Test.YtghhmpppnmoeoaaGreatDoorXNumbers1
import Derived.Laws.IdiomCopy
import Derived.Lib.Overlaps
import Derived.Lib.AppendZerosOnto
import Derived.Laws.Externs
import Derived.Lib.Split
import Derived.Lib.Join
import Derived.Lib.ItoaNum
import Derived.Maps.RangeRun
import Derived.MapKept
import Derived.Lib.LastIndexByte
import Derived.Lib.AtoiAll
import Derived.Lib.SplitLaws
import Derived.Lib.Builder
import Derived.ProofKit
import Derived.WalkKit
import Derived.Lib.AppendStr
import Derived.Sort.OwnSorted
import Derived.Lib.SlicesCompact
import Derived.Lib.ValidU
import Derived.Lib.Index
set_option linter.all false
set_option linter.unusedSimpArgs false
set_option linter.unusedVariables false
set_option linter.unusedSectionVars false
set_option maxRecDepth 100000
namespace Go.Eng
section
open Go
variable{w:World}{K:Q0}{cs:List Value}{G:Nat->Prop}{T:TypeId}{i:Nat}{n:Nat}{v:Value}{w':World}{P:Program}{c:UInt8}{S:Nat->Prop}
def bt(s:Str)(i:Nat):Nat:=(s.getD i 0).toNat
theorem Bc(s:Str)(i:Nat):bt s i<256:=sU _
theorem nJ{s:Str}(h:i<s.length):iH s i=(bt s i:Int):=by
 unfold iH bt;rw[List.getElem?_eq_getElem h,List.getD_eq_getElem?_getD,List.getElem?_eq_getElem h];rfl
theorem GE{s:Str}(h:s.length<=i):iH s i=-1:=by
 unfold iH;rw[List.getElem?_eq_none h]
theorem get_bt(s:Str)(i:Nat):((ofL s).get! i).toNat=bt s i:=by
 unfold bt;congr 1;show(s.toArray)[i]! =s.getD i 0;rw[List.getElem!_toArray,List.getElem!_eq_getElem?_getD,List.getD_eq_getElem?_getD];rfl
theorem MM(s:Str)(i:Nat):Utf8.decode (ofL s) i=Lib.decodeN (s.length-i) (bt s i) (bt s (i+1)) (bt s (i+2)) (bt s (i+3)):=by
 rw[Lib.decode_at,get_bt,get_bt,get_bt,get_bt,fH]
abbrev mor(L k b:Nat):Prop:=k<L/\128<=b/\b<192
abbrev c3(b0 b1 b2:Nat):Nat:=(b0-224)*4096+(b1-128)*64+(b2-128)
abbrev c4(b0 b1 b2 b3:Nat):Nat:=(b0-240)*262144+(b1-128)*4096+(b2-128)*64+(b3-128)
def Vp(L b0 b1 b2 b3:Nat):Nat×Nat:=
 if b0<128 then(b0,1)
 else if 194<=b0/\b0<224/\mor L 1 b1 then((b0-192)*64+(b1-128),2)
 else if 224<=b0/\b0<240/\mor L 1 b1/\mor L 2 b2/\2048<=c3 b0 b1 b2/\(c3 b0 b1 b2<55296\/57343<c3 b0 b1 b2)then(c3 b0 b1 b2,3)
 else if 240<=b0/\b0<245/\mor L 1 b1/\mor L 2 b2/\mor L 3 b3/\65536<=c4 b0 b1 b2 b3/\c4 b0 b1 b2 b3<=1114111 then(c4 b0 b1 b2 b3,4)
 else(65533,1)
theorem JL{L b0 b1 b2 b3:Nat}(h0:b0<256)(h1:b1<256)(h2:b2<256)(h3:b3<256):Lib.decodeN L b0 b1 b2 b3=Vp L b0 b1 b2 b3:=by
 have m1:(1<L/\b1/64=2)↔mor L 1 b1:=by unfold mor;omega
 have m2:(2<L/\b2/64=2)↔mor L 2 b2:=by unfold mor;omega
 have m3:(3<L/\b3/64=2)↔mor L 3 b3:=by unfold mor;omega
 unfold Lib.decodeN Vp;simp only[m1,m2,m3];by_cases a0:b0<128
 ·rw[aI a0,aI a0]
 rw[aE a0,aE a0];by_cases a1:b0<194
 ·rw[aE (show¬(194<=b0/\b0<224/\mor L 1 b1)fromλh=>by omega),aE (show¬(224<=b0/\b0<240/\_)fromλh=>by omega),aE (show¬(240<=b0/\b0<245/\_)fromλh=>by omega)];rw[aE (show¬(b0/16=14/\_)fromλh=>by omega),aE (show¬(b0/8=30/\_)fromλh=>by omega)];by_cases a2:b0/32=6/\mor L 1 b1
  ·rw[aI a2,aE (by omega)]
  ·rw[aE a2]
 by_cases a2:b0<224
 ·rw[aE (show¬(224<=b0/\b0<240/\_)fromλh=>by omega),aE (show¬(240<=b0/\b0<245/\_)fromλh=>by omega)];rw[aE (show¬(b0/16=14/\_)fromλh=>by omega),aE (show¬(b0/8=30/\_)fromλh=>by omega)];by_cases q:mor L 1 b1
  ·have q':=q;unfold mor at q';rw[aI ⟨by omega,q⟩,aI (by omega),aI ⟨by omega,a2,q⟩];apply fK
   ·show b0%32*64+b1%64=(b0-192)*64+(b1-128);omega
   ·rfl
  ·rw[aE (λh=>q h.2),aE (λh=>q h.2.2)]
 by_cases a3:b0<240
 ·rw[aE (show¬(194<=b0/\b0<224/\mor L 1 b1)fromλh=>by omega),aE (show¬(240<=b0/\b0<245/\_)fromλh=>by omega)];rw[aE (show¬(b0/32=6/\_)fromλh=>by omega),aE (show¬(b0/8=30/\_)fromλh=>by omega)];by_cases q:mor L 1 b1/\mor L 2 b2
  ·have q':=q;unfold mor at q';have e:b0%16*4096+b1%64*64+b2%64=c3 b0 b1 b2:=by unfold c3;omega
   have e2:c3 b0 b1 b2<=65535:=by unfold c3;omega
   rw[aI ⟨by omega,q.1,q.2⟩];simp only[e];by_cases r:2048<=c3 b0 b1 b2/\(c3 b0 b1 b2<55296\/57343<c3 b0 b1 b2)
   ·rw[aI ⟨r.1,by omega⟩,aI ⟨by omega,a3,q.1,q.2,r.1,r.2⟩]
   ·rw[aE (by omega),aE (λh=>r ⟨h.2.2.2.2.1,h.2.2.2.2.2⟩)]
  ·rw[aE (λh=>q ⟨h.2.1,h.2.2⟩),aE (λh=>q ⟨h.2.2.1,h.2.2.2.1⟩)]
 ·rw[aE (show¬(194<=b0/\b0<224/\mor L 1 b1)fromλh=>by omega),aE (show¬(224<=b0/\b0<240/\_)fromλh=>by omega)];rw[aE (show¬(b0/32=6/\_)fromλh=>by omega),aE (show¬(b0/16=14/\_)fromλh=>by omega)];by_cases q:mor L 1 b1/\mor L 2 b2/\mor L 3 b3
  ·have q':=q;unfold mor at q';by_cases a4:b0<248
   ·have e:b0%8*262144+b1%64*4096+b2%64*64+b3%64=c4 b0 b1 b2 b3:=by unfold c4;omega
    rw[aI ⟨by omega,q.1,q.2.1,q.2.2⟩];simp only[e];by_cases r:65536<=c4 b0 b1 b2 b3/\c4 b0 b1 b2 b3<=1114111
    ·rw[aI ⟨r.1,by omega⟩,aI ⟨by omega,by have:=r.2;unfold c4 at this;omega,q.1,q.2.1,q.2.2,r.1,r.2⟩]
    ·rw[aE (by omega),aE (λh=>r ⟨h.2.2.2.2.2.1,h.2.2.2.2.2.2⟩)]
   ·rw[aE (show¬(b0/8=30/\_)fromλh=>by omega),aE (show¬(240<=b0/\b0<245/\_)fromλh=>by omega)]
  ·rw[aE (λh=>q ⟨h.2.1,h.2.2.1,h.2.2.2⟩),aE (λh=>q ⟨h.2.2.1,h.2.2.2.1,h.2.2.2.2.1⟩)]
theorem NN{s:Str}{k:Nat}:oC s (i+k)=true↔mor (s.length-i) k (bt s (i+k)):=by
 unfold oC mor;rw[aL,decide_eq_true_iff,decide_eq_true_iff];rcases dL (i+k) s.length with h|h
 ·rw[nJ h];omega
 ·rw[GE h];omega
def Se(L b0 b1 b2 b3:Nat):Nat:=
 if b0<128 then 1
 else if 194<=b0/\b0<224/\mor L 1 b1 then 2
 else if 224<=b0/\b0<240/\mor L 1 b1/\mor L 2 b2/\2048<=c3 b0 b1 b2/\(c3 b0 b1 b2<55296\/57343<c3 b0 b1 b2)then 3
 else if 240<=b0/\b0<245/\mor L 1 b1/\mor L 2 b2/\mor L 3 b3/\65536<=c4 b0 b1 b2 b3/\c4 b0 b1 b2 b3<=1114111 then 4
 else 0
set_option maxHeartbeats 4000000 in
theorem Dv{s:Str}(h:i<s.length):iA s i=Se (s.length-i) (bt s i) (bt s (i+1)) (bt s (i+2)) (bt s (i+3)):=by
 unfold iA Se;simp only[NN,nJ h];by_cases h1:i+1<s.length
 ·by_cases h2:i+2<s.length
  ·by_cases h3:i+3<s.length
   ·simp only[nJ h1,nJ h2,nJ h3,mor,c3,c4]
    repeat' split
    all_goals first|rfl|(exfalso;omega)
   ·simp only[nJ h1,nJ h2,mor,c3,c4]
    repeat' split
    all_goals first|rfl|(exfalso;omega)
  ·simp only[nJ h1,mor,c3,c4]
   repeat' split
   all_goals first|rfl|(exfalso;omega)
 ·simp only[mor,c3,c4]
  repeat' split
  all_goals first|rfl|(exfalso;omega)
theorem Yh(s:Str)(i:Nat)(h:i<s.length):UInt8.ofNat (bt s i)=s[i]:=by
 unfold bt;rw[List.getD_eq_getElem?_getD,List.getElem?_eq_getElem h];simp
theorem AD{s:Str}(h:i<s.length):(s.drop i).take 1=[UInt8.ofNat (bt s i)]:=by
 rw[Yh s i h,cC h];rfl
theorem rM{s:Str}(h:i<s.length):(s.drop i).take (n+1)=UInt8.ofNat (bt s i)::(s.drop (i+1)).take n:=by
 rw[Yh s i h,cC h];rfl
set_option maxHeartbeats 4000000 in
theorem Is{s:Str}(h:i<s.length)(h0:iA s i=0):Utf8.decode (ofL s) i=(65533,1):=by
 rw[MM,JL (Bc _ _) (Bc _ _) (Bc _ _) (Bc _ _)];rw[Dv h]at h0;unfold Se at h0;unfold Vp
 repeat' split at h0
 all_goals first|(exfalso;omega)|skip
 all_goals(repeat rw[aE (by assumption)])
structure Rs(s:Str)(i n c:Nat):Prop where
 dec:Utf8.decode (ofL s) i=(c,n)
 fits:i+n<=s.length
 small:n<=4
 bytes:Lib.encodeRune c=(s.drop i).take n
 low:n=1->c=bt s i/\c<128
 high:2<=n->128<=c/\128<=bt s i
 top:c<=1114111
 val:c<55296\/57343<c
theorem zD(l:List Int):(l.map λx=>x.toNat.toUInt8)=l.map λx=>UInt8.ofNat x.toNat:=rfl
set_option maxHeartbeats 8000000 in
theorem uW{s:Str}(h:i<s.length)(h0:iA s i≠0):∃c,Rs s i (iA s i) c:=by
 have e:=MM s i;rw[JL (Bc _ _) (Bc _ _) (Bc _ _) (Bc _ _)]at e;have hr:=Dv h;have l0:=Bc s i;generalize hn:iA s i=n at*
 unfold Se at hr;unfold Vp at e;by_cases a1:bt s i<128
 ·rw[aI a1]at hr e;subst hr;refine⟨_,e,by omega,by omega,?_,λ_=>⟨rfl,a1⟩,λh=>by omega,by omega,by omega⟩;rw[AD h,Lib.encodeRune,Lib.encodeRuneZ_one (by omega) (by omega)];simp
 rw[aE a1]at hr e;by_cases a2:194<=bt s i/\bt s i<224/\mor (s.length-i) 1 (bt s (i+1))
 ·rw[aI a2]at hr e;subst hr;obtain⟨a2,a3,a4,a5,a6⟩:=a2;refine⟨_,e,by omega,by omega,?_,λh=>by omega,λh=>by omega,by omega,by omega⟩;rw[rM h,AD (by omega),Lib.encodeRune,Lib.encodeRuneZ_two (by omega) (by omega)];simp only[dT,nT,zD];rw[show((192:Int)+(((bt s i-192)*64+(bt s (i+1)-128):Nat):Int)/64).toNat=bt s i by omega,show((128:Int)+(((bt s i-192)*64+(bt s (i+1)-128):Nat):Int)%64).toNat=bt s (i+1)by omega]
 rw[aE a2]at hr e;by_cases a3:224<=bt s i/\bt s i<240/\mor (s.length-i) 1 (bt s (i+1))/\mor (s.length-i) 2 (bt s (i+2))/\2048<=c3 (bt s i) (bt s (i+1)) (bt s (i+2))/\(c3 (bt s i) (bt s (i+1)) (bt s (i+2))<55296\/57343<c3 (bt s i) (bt s (i+1)) (bt s (i+2)))
 ·rw[aI a3]at hr e;subst hr;obtain⟨p1,p2,⟨p3,p4,p5⟩,⟨p6,p7,p8⟩,p9,p10⟩:=a3;have q3:c3 (bt s i) (bt s (i+1)) (bt s (i+2))=(bt s i-224)*4096+(bt s (i+1)-128)*64+(bt s (i+2)-128):=rfl;refine⟨_,e,by omega,by omega,?_,λh=>by omega,λh=>by omega,by omega,by omega⟩;rw[rM h,rM (by omega),AD (by omega),Lib.encodeRune,Lib.encodeRuneZ_three (by omega)];simp only[dT,nT,zD];rw[show((224:Int)+((c3 (bt s i) (bt s (i+1)) (bt s (i+2)):Nat):Int)/4096).toNat=bt s i by unfold c3;omega,show((128:Int)+((c3 (bt s i) (bt s (i+1)) (bt s (i+2)):Nat):Int)/64%64).toNat=bt s (i+1)by unfold c3;omega,show((128:Int)+((c3 (bt s i) (bt s (i+1)) (bt s (i+2)):Nat):Int)%64).toNat=bt s (i+2)by unfold c3;omega]
 rw[aE a3]at hr e;by_cases a4:240<=bt s i/\bt s i<245/\mor (s.length-i) 1 (bt s (i+1))/\mor (s.length-i) 2 (bt s (i+2))/\mor (s.length-i) 3 (bt s (i+3))/\65536<=c4 (bt s i) (bt s (i+1)) (bt s (i+2)) (bt s (i+3))/\c4 (bt s i) (bt s (i+1)) (bt s (i+2)) (bt s (i+3))<=1114111
 ·rw[aI a4]at hr e;subst hr;obtain⟨p1,p2,⟨p3,p4,p5⟩,⟨p6,p7,p8⟩,⟨p9,p10,p11⟩,p12,p13⟩:=a4;refine⟨_,e,by omega,by omega,?_,λh=>by omega,λh=>by omega,by omega,by omega⟩;rw[rM h,rM (by omega),rM (by omega),AD (by omega),Lib.encodeRune,Lib.encodeRuneZ_four (by omega) (by omega)];simp only[dT,nT,zD];rw[show((240:Int)+((c4 (bt s i) (bt s (i+1)) (bt s (i+2)) (bt s (i+3)):Nat):Int)/262144).toNat=bt s i by unfold c4;omega,show((128:Int)+((c4 (bt s i) (bt s (i+1)) (bt s (i+2)) (bt s (i+3)):Nat):Int)/4096%64).toNat=bt s (i+1)by unfold c4;omega,show((128:Int)+((c4 (bt s i) (bt s (i+1)) (bt s (i+2)) (bt s (i+3)):Nat):Int)/64%64).toNat=bt s (i+2)by unfold c4;omega,show((128:Int)+((c4 (bt s i) (bt s (i+1)) (bt s (i+2)) (bt s (i+3)):Nat):Int)%64).toNat=bt s (i+3)by unfold c4;omega]
 rw[aE a4]at hr;exact absurd hr h0
def uN(s:Str)(i:Nat):Nat:=max (iA s i) 1
theorem QT{s:Str}(h:i<s.length):(Utf8.decode (ofL s) i).2=uN s i:=by
 unfold uN;by_cases h0:iA s i=0
 ·rw[Is h h0,h0];rfl
 ·obtain⟨c,hc⟩:=uW h h0;rw[hc.dec];show iA s i=max (iA s i) 1;omega
theorem Np{s:Str}(h:i<s.length):i+uN s i<=s.length:=by
 unfold uN;by_cases h0:iA s i=0
 ·rw[h0];show i+1<=_;omega
 ·obtain⟨c,hc⟩:=uW h h0;have:=hc.fits;omega
theorem OY(s:Str)(i:Nat):1<=uN s i:=by unfold uN;omega
theorem rune_end{s:Str}(h:s.length<=i):iA s i=0:=by
 unfold iA;simp only[GE h];rfl
theorem Yl(h:n<55296\/57343<n/\n<=1114111):Lib.encodeRune n=wrM n:=by
 unfold Lib.encodeRune wrM b8;by_cases h1:n<128
 ·rw[Lib.encodeRuneZ_one (by omega) (by omega),aI h1];simp
 rw[aE h1];by_cases h2:n<2048
 ·rw[Lib.encodeRuneZ_two (by omega) (by omega),aI h2];simp only[dT,nT,zD];rw[show((192:Int)+(n:Int)/64).toNat=192+n/64 by omega,show((128:Int)+(n:Int)%64).toNat=128+n%64 by omega]
 rw[aE h2];by_cases h3:n<65536
 ·rw[Lib.encodeRuneZ_three (by omega),aI h3];simp only[dT,nT,zD];rw[show((224:Int)+(n:Int)/4096).toNat=224+n/4096 by omega,show((128:Int)+(n:Int)/64%64).toNat=128+n/64%64 by omega,show((128:Int)+(n:Int)%64).toNat=128+n%64 by omega]
 ·rw[Lib.encodeRuneZ_four (by omega) (by omega),aE h3];simp only[dT,nT,zD];rw[show((240:Int)+(n:Int)/262144).toNat=240+n/262144 by omega,show((128:Int)+(n:Int)/4096%64).toNat=128+n/4096%64 by omega,show((128:Int)+(n:Int)/64%64).toNat=128+n/64%64 by omega,show((128:Int)+(n:Int)%64).toNat=128+n%64 by omega]
theorem rR{s u r:Str}{j:Nat}(h:s.drop i=u++r)(hj:j<u.length):iH s (i+j)=u[j].toNat:=by
 have:s.drop (i+j)=u[j]::(u.drop (j+1)++r):=by
  rw[<-iE,h,Ce (by omega),cC hj];rfl
 exact byte_at this
theorem FD{s t:Str}{k m:Nat}(hm:0<m)(h:iA s i=m)(hb:∀j,j<m->iH t (k+j)=iH s (i+j)):iA t k=m:=by
 have e0:iH t k=iH s i:=hb 0 hm;unfold iA at h⊢;dsimp only at h;simp only[e0];by_cases h1:m=1
 ·subst h1;split at h
  ·omega
  rename_i a;split at h
  ·rename_i b;rw[aE a,aI b]
  split at h
  ·omega
  split at h
  ·omega
  split at h<;>omega
 by_cases h2:m=2
 ·subst h2;have e1:=hb 1 (by omega);have m1:oC t (k+1)=oC s (i+1):=by unfold oC;rw[e1]
  simp only[m1];split at h
  ·omega
  rename_i a;split at h
  ·omega
  rename_i b;split at h
  ·rename_i c;rw[aE a,aE b,aI c]
  split at h
  ·omega
  split at h<;>omega
 by_cases h3:m=3
 ·subst h3;have e1:=hb 1 (by omega);have e2:=hb 2 (by omega);have m1:oC t (k+1)=oC s (i+1):=by unfold oC;rw[e1]
  have m2:oC t (k+2)=oC s (i+2):=by unfold oC;rw[e2]
  simp only[m1,m2,e1,e2];split at h
  ·omega
  rename_i a;split at h
  ·omega
  rename_i b;split at h
  ·omega
  rename_i c;split at h
  ·rename_i d;rw[aE a,aE b,aE c,aI d]
  split at h<;>omega
 by_cases h4:m=4
 ·subst h4;have e1:=hb 1 (by omega);have e2:=hb 2 (by omega);have e3:=hb 3 (by omega);simp only[oC,e1,e2,e3]at h⊢;exact h
 ·exfalso;split at h
  ·omega
  split at h
  ·omega
  split at h
  ·omega
  split at h
  ·omega
  split at h<;>omega
theorem Sd{s:Str}(h:iA s i≠0):i<s.length:=by
 apply Nat.lt_of_not_le;intro hle;exact h (rune_end hle)
theorem Nz{s:Str}(h:iA s i≠0):i+iA s i<=s.length:=by
 obtain⟨c,hc⟩:=uW (Sd h) h;exact hc.fits
def Rn(u:Str):Prop:=u≠[]/\iA u 0=u.length
theorem Rn.pos{u:Str}(h:Rn u):0<u.length:=dM.2 h.1
theorem Rn.at{u s r:Str}(h:Rn u)(hs:s.drop i=u++r):iA s i=u.length:=by
 refine FD (s:=u) (i:=0) h.pos h.2 λj hj=>?_;rw[rR hs hj,rR (s:=u) (i:=0) (u:=u) (r:=[]) (by simp) hj]
theorem Rn.of{s:Str}(h:iA s i≠0):Rn ((s.drop i).take (iA s i)):=by
 have hf:=Nz h;have hl:((s.drop i).take (iA s i)).length=iA s i:=by rw[cH,aR];omega
 refine⟨λe=>by rw[e]at hl;simp at hl;omega,?_⟩;rw[hl];refine FD (s:=s) (i:=i) (by omega) rfl λj hj=>?_;rw[rR (s:=s) (i:=i) (u:=(s.drop i).take (iA s i)) (r:=(s.drop i).drop (iA s i)) (rF _ _).symm (by omega),rR (s:=(s.drop i).take (iA s i)) (i:=0) (u:=(s.drop i).take (iA s i)) (r:=[]) (by simp) (by omega)]
inductive Utf:Str->Prop where
 |nil:Utf []
 |cons {u r:Str}:Rn u->Utf r->Utf (u++r)
theorem Rn.cases{u:Str}(h:Rn u):(∃c:UInt8,u=[c]/\c.toNat<128)\/(∀c∈u,128<=c.toNat):=by
 have hr:=h.2;have hp:=h.pos;have hb:∀j,(hj:j<u.length)->iH u j=u[j].toNat:=λj hj=>by
  have:=rR (s:=u) (i:=0) (u:=u) (r:=[]) (by simp) hj;rwa[aY]at this
 have hm:∀j,(hj:j<u.length)->oC u j=true->128<=u[j].toNat:=λj hj hm=>by
  unfold oC at hm;rw[hb j hj,aL,decide_eq_true_iff,decide_eq_true_iff]at hm;omega
 unfold iA at hr;rw[hb 0 hp]at hr;simp only[aY]at hr;have hall:(∀j,(hj:j<u.length)->128<=u[j].toNat)->∀c∈u,128<=c.toNat:=λhj c hc=>by
  obtain⟨j,h1,rfl⟩:=List.getElem_of_mem hc;exact hj j h1
 split at hr
 ·omega
 split at hr
 ·rename_i hlt;left;obtain⟨c,rfl⟩:=List.length_eq_one_iff.1 hr.symm;refine⟨c,rfl,?_⟩;have e:([c]:Str)[0].toNat=c.toNat:=rfl;omega
 right;refine hall λj hj=>?_;split at hr
 ·rename_i c;obtain⟨c1,_,c2⟩:=c;obtain rfl|rfl:j=0\/j=1:=by omega
  ·omega
  ·exact hm 1 hj c2
 split at hr
 ·rename_i c;obtain⟨c1,_,c2,c3,_⟩:=c;obtain rfl|rfl|rfl:j=0\/j=1\/j=2:=by omega
  ·omega
  ·exact hm 1 hj c2
  ·exact hm 2 hj c3
 split at hr
 ·rename_i c;obtain⟨c1,_,c2,c3,c4,_⟩:=c;obtain rfl|rfl|rfl|rfl:j=0\/j=1\/j=2\/j=3:=by omega
  ·omega
  ·exact hm 1 hj c2
  ·exact hm 2 hj c3
  ·exact hm 3 hj c4
 ·omega
def escOk(c:UInt8):Bool:=
 match aCp c with
 |[d]=>decide (d=c)&&decide (c≠34)&&decide (c≠92)&&decide (32<=c.toNat)
 |[a,b]=>decide (a=92)&&decide (aEd [a,b] 0=some ([c],2))
 |[a,b,d,e,f,g]=>decide (a=92)&&decide (b=117)&&decide (aAc [a,b,d,e,f,g] 0=c.toNat)
 |_=>false
end
section
open Go Go.Num
def BL(l:Str):Prop:=∀c∈l,UV (c.toNat:Int)=true
mutual
def Sp:JV->Str->Prop
 |.mk k b t xs ks,s=>
  if k=5 then(xs=[]/\∃a,BL a/\s=[91]++a++[93])\/(∃u,SpL xs u/\s=[91]++u++[93])
  else if k=6 then(xs=[]/\ks=[]/\∃a,BL a/\s=[123]++a++[125])\/(∃u,SpO xs ks u/\s=[123]++u++[125])
  else s=XO (.mk k b t xs ks)
def SpL:List JV->Str->Prop
 |[],_=>False
 |x::xs,s=>(xs=[]/\∃a t b,BL a/\Sp x t/\BL b/\s=a++t++b)\/(∃a t b u,BL a/\Sp x t/\BL b/\SpL xs u/\s=a++t++b++[44]++u)
def SpO:List JV->List Str->Str->Prop
 |x::xs,k::ks,s=>(xs=[]/\ks=[]/\∃a b c t d,BL a/\BL b/\BL c/\Sp x t/\BL d/\s=a++Hf k++b++[58]++c++t++d)\/
   (∃a b c t d u,BL a/\BL b/\BL c/\Sp x t/\BL d/\SpO xs ks u/\s=a++Hf k++b++[58]++c++t++d++[44]++u)
 |_,_,_=>False
end
end
end Go.Eng
namespace Go.Proofs.YtghhmpppnmoeoaaGreatDoor
section
open Go Go.Eng
variable{w:World}{K:Q0}{cs:List Value}{G:Nat->Prop}{T:TypeId}{i:Nat}{n:Nat}{v:Value}{w':World}{P:Program}{c:UInt8}{S:Nat->Prop}
theorem Hl{B:Nat}{e:TypeId}{size:Nat}{xs:List Value}(h:Own w B e size v n xs)(hc:Chg S w w')(hS:∀k,v.ownBlock=some k->¬S k):Own w' B e size v n xs:=by
 obtain⟨hl,h|⟨g,cap,cur,rfl,h1,h2,h3⟩⟩:=h
 ·exact⟨hl,.inl h⟩
 ·exact⟨hl,.inr ⟨g,cap,cur,rfl,h1,hc.at h2 (hS g rfl),h3⟩⟩
theorem wC{B:Nat}{e:TypeId}{size:Nat}{k:Nat}{xs:List Value}(h:Own w B e size v n xs)(hk:v.ownBlock=some k):B<=k/\k<w.heap.size/\∃c,w.heap[k]?=some (.cells c e (0,0)):=by
 obtain⟨hl,⟨rfl,_⟩|⟨g,cap,cur,rfl,h1,h2,h3⟩⟩:=h
 ·cases hk
 ·simp only[Value.ownBlock,bD]at hk;subst hk;exact⟨h1,fC h2,_,h2⟩
theorem Uo{B:Nat}{e:TypeId}{size:Nat}{xs:List Value}(h:Own w B e size v n xs):gC v=true:=by obtain⟨p,c,rfl,_⟩:=h.sl.shape;rfl
section
variable [HX]
end
end
end Go.Proofs.YtghhmpppnmoeoaaGreatDoor
namespace Go.Eng
section
open Go Go.Num
def PL(s:Str):Nat->Nat->List Str
 |0,_=>[]
 |n+1,i=>if i<s.length then(s.drop i).take (uN s i)::PL s n (i+uN s i)else []
def KL(s:Str):List Str:=PL s s.length 0
abbrev tV(s:Str):JV:=.mk 4 false s [] []
abbrev nV(s:Str):JV:=.mk 3 false s [] []
abbrev iV(n:Int):JV:=nV (Lib.itoa n)
abbrev bV(b:Bool):JV:=.mk 2 b [] [] []
abbrev lV(xs:List JV):JV:=.mk 5 false [] xs []
abbrev uV:JV:=.mk 1 false [] [] []
def aCB(lo tb:Nat)(c:UInt8):UInt8:=if lo<=c.toNat/\c.toNat<lo+26 then UInt8.ofNat (c.toNat-lo+tb)else c
def Rb(lo tb:Nat)(s:Str):Str:=s.map (aCB lo tb)
def UR(a:JV):Option JV:=if a.k=4 then some (iV (KL a.t).length)else if a.k=5\/a.k=6 then some (iV a.xs.length)else none
def Pu(a:JV):Option JV:=if a.k=4 then some (tV (KL a.t).reverse.flatten)else if a.k=5 then some (lV a.xs.reverse)else none
def RX(s f n:Str):Option JV:=
 if neg f||neg n then none else
 let l:=KL s
 let at0:=min (dec f) l.length
 some (tV ((l.drop at0).take (min (dec n) (l.length-at0))).flatten)
def ZY(by_:Str)(xs:List JV):Option JV:=if xs.any (λx=> !decide (x.k=4))then none else some (tV (Lib.join (xs.map (·.t)) by_))
def RZ(by_ s:Str):Option JV:=if by_=[]then none else some (lV ((Lib.split s by_).map tV))
def Vs(a:List JV):JV:=lV (a.map (·.xs)).flatten
def ZR(a:List JV):JV:=a.foldl (λv x=>(x.ks.zip x.xs).foldl (λv p=>zJ v p.1 p.2) v) (.mk 6 false [] [] [])
def AM(sg:Int)(a:List JV):JV:=a.foldl (λb x=>if 0<mP x.t b.t*sg then x else b) (a.headD JV.null)
def Yz(s:Str):Option JV:=if neg s||decide (32<dec s)then none else some (lV ((List.range (dec s)).map λi:Nat=>iV (i:Int)))
def Bm(a:JV):Option JV:=
 if a.k=2 then some (tV (if a.b then [116,114,117,101]else [102,97,108,115,101]))else if a.k=3\/a.k=4 then some (tV a.t)else none
def Bn(a:JV):Option JV:=if(a.k=3\/a.k=4)/\goodN a.t=true then some (nV a.t)else none
structure FnM where
 takes:Str
 least:Nat
 act:List JV->Option JV
abbrev arg(a:List JV)(i:Nat):JV:=a.getD i JV.null
def BN:FnM:=⟨[110],0,λa=>some (nV (dig (arg a 0).t))⟩
def Gp:FnM:=⟨[108,46],0,λa=>some (Vs a)⟩
def Cr:FnM:=⟨[108,118],0,λa=>some (bV ((arg a 0).xs.any λx=>decide (CH x (arg a 1)=0)))⟩
def MB:FnM:=⟨[115,108],0,λa=>ZY (arg a 0).t (arg a 1).xs⟩
def MA:FnM:=⟨[111],0,λa=>some (lV ((arg a 0).ks.map tV))⟩
def Gn:FnM:=⟨[118],0,λa=>UR (arg a 0)⟩
def Gm:FnM:=⟨[111,115,118],0,λa=>some ((EU (arg a 0) (arg a 1).t).getD (arg a 2))⟩
def Js:FnM:=⟨[115],0,λa=>some (tV (Rb 65 97 (arg a 0).t))⟩
def BM:FnM:=⟨[110,46],1,λa=>some (AM 1 a)⟩
def Jr:FnM:=⟨[111,46],0,λa=>some (ZR a)⟩
def BK:FnM:=⟨[110,46],1,λa=>some (AM (-1) a)⟩
def Jq:FnM:=⟨[110],0,λa=>Yz (arg a 0).t⟩
def Eu:FnM:=⟨[118],0,λa=>Pu (arg a 0)⟩
def Jp:FnM:=⟨[115,115],0,λa=>RZ (arg a 0).t (arg a 1).t⟩
def Gl:FnM:=⟨[115,110,110],0,λa=>RX (arg a 0).t (arg a 1).t (arg a 2).t⟩
def vJ:FnM:=⟨[118],0,λa=>Bn (arg a 0)⟩
def oD:FnM:=⟨[118],0,λa=>Bm (arg a 0)⟩
def Jo:FnM:=⟨[115],0,λa=>some (tV (Rb 97 65 (arg a 0).t))⟩
def Gk:FnM:=⟨[111],0,λa=>some (lV (arg a 0).xs)⟩
def fnT:List (Str×FnM):=[([97,98,115],BN),([99,111,110,99,97,116],Gp),([99,111,110,116,97,105,110,115],Cr),([106,111,105,110],MB),([107,101,121,115],MA),([108,101,110,103,116,104],Gn),([108,111,111,107,117,112],Gm),([108,111,119,101,114],Js),([109,97,120],BM),([109,101,114,103,101],Jr),([109,105,110],BK),([114,97,110,103,101],Jq),([114,101,118,101,114,115,101],Eu),([115,112,108,105,116],Jp),([115,117,98,115,116,114],Gl),([116,111,105,110,116],vJ),([116,111,115,116,114,105,110,103],oD),([117,112,112,101,114],Jo),([118,97,108,117,101,115],Gk)]
def AN:List (Str×FnM)->Str->Option FnM
 |[],_=>none
 |(a,v)::m,k=>if k=a then some v else AN m k
def lS(c:UInt8):Int:=if c=110 then 3 else if c=115 then 4 else if c=108 then 5 else if c=111 then 6 else-1
def DV(t:Str):Bool:=t.getLast?==some 46
def sE(t:Str)(n:Nat):Str:=if DV t then(List.replicate n t.dropLast).flatten else t
def tO(f:FnM)(a:List JV):Bool:=
 decide (a.length=(sE f.takes a.length).length)&&decide (f.least<=a.length)&&(a.zip (sE f.takes a.length)).all λp=>decide (lS p.2<0)||decide (p.1.k=lS p.2)
def qG(name:Str)(a:List JV):JV×Int:=
 if a.any (λx=> !dX x)then(JV.null,1)else
 match AN fnT name with
 |none=>(JV.null,70)
 |some f=>
  if a.any (λx=> !iB x)then(uV,0)else
  if !tO f a then(JV.null,71)else
  match f.act a with
  |none=>(JV.null,71)
  |some v=>if dX v then(v,0)else(JV.null,3)
end
section
open Go
variable{w:World}{K:Q0}{cs:List Value}{G:Nat->Prop}{T:TypeId}{i:Nat}{n:Nat}{v:Value}{w':World}{P:Program}{c:UInt8}{S:Nat->Prop}
def nH:Nat->List (Str×Value)->List MapEntry
 |_,[]=>[]
 |i,(k,v)::m=>{key:=str k,val:=v,born:=i}::nH (i+1) m
theorem Gv(k:Str)(v:Value):∀(m:List (Str×Value)) (i:Nat),nH i (m++[(k,v)])=nH i m++[{key:=str k,val:=v,born:=i+m.length}]
 |[],i=>rfl
 |(a,x)::m,i=>by
  simp only[dB,nH,Gv k v m,aB]
  rw[show i+1+m.length=i+(m.length+1)by omega]
def Kk(w:World)(b:Nat)(m:List (Str×Value)):Prop:=w.heap[b]?=some (.map (nH 0 m).toArray m.length)
def sC:List (Str×Value)->Str->Option Value
 |[],_=>none
 |(a,v)::m,k=>if k=a then some v else sC m k
theorem AV(k:Str):∀(m:List (Str×Value)) (i j:Nat),(sC m k=none->Instr.findNow .string (str k) (nH i m) j=some none)/\∀v,sC m k=some v->∃n,Instr.findNow .string (str k) (nH i m) j=some (some (n,v))
 |[],i,j=>⟨λ_=>rfl,λv h=>by cases h⟩
 |(a,x)::m,i,j=>by
  have hs:Instr.sameNow .string (str k) (str a)=some (ofL k==ofL a):=rfl
  by_cases h:k=a
  ·subst h
   refine⟨λe=>?_,λv e=>?_⟩
   ·simp[sC]at e
   ·simp only[sC,fY,bD]at e
    subst e
    refine⟨j,?_⟩
    have hs':Instr.sameNow .string (str k) (str k)=some true:=by rw[hs,(MapKept.bytes_beq (ofL k) (ofL k)).2 rfl]
    simp only[nH,Instr.findNow,hs']
  ·have hne:(ofL k==ofL a)=false:=by
    cases hc:(ofL k==ofL a)with
    |false=>rfl
    |true=>exact absurd (Mk.1 ((MapKept.bytes_beq _ _).1 hc)) h
   obtain⟨h1,h2⟩:=AV k m (i+1) (j+1);simp only[nH,Instr.findNow,hs,hne,sC,aE h];exact⟨h1,h2⟩
section
variable{P:Program}{T KT ET:TypeId}{w:World}
theorem IY{r:Option Value}{K:Q0}(hT:P.underlying T=some (.map KT ET))(hr:r=none\/∃k n,r=some (.int k n))
  (hK:∀b w',b=w.heap.size->w'.heap.size=w.heap.size+1->Kk w' b []->Ext w w'->K (.map (some b)) w'):eA P (Instr.makeMap T r) w K:=by
 have hk:=hK w.heap.size (w.alloc (.map #[] 0)) rfl (size_alloc _ _) (gT _ _ _ rfl) (Chg.alloc (Chg.refl _ _) _);have hrun:(Instr.makeMap T r).run P w=.ok (.map (some w.heap.size)) (w.alloc (.map #[] 0)):=by
  rcases hr with rfl|⟨k,n,rfl⟩
  ·simp[Instr.makeMap,run_bind,run_pure,newObj,Sem.run]
  ·simp[Instr.makeMap,run_bind,run_pure,newObj,Sem.run,bH hT,asInt,asIntOf]
 unfold eA;rw[hrun];exact hk
theorem UL{b:Nat}{m:List (Str×Value)}{k:Str}{K:World->Prop}(hT:P.underlying T=some (.map KT ET))(hKT:P.underlying KT=some .string)(hb:Kk w b m)(hn:sC m k=none)
  (hK:∀w',w'.heap.size=w.heap.size->Kk w' b (m++[(k,v)])->Chg (λq=>q=b) w w'->K w'):nB P (Instr.mapUpdate T (.map (some b)) (str k) v) w K:=by
 have hf:=(AV k m 0 0).1 hn;have hrun:(Instr.mapUpdate T (.map (some b)) (str k) v).run P w=.ok () {w with heap:=w.heap.setIfInBounds b (.map ((nH 0 m).toArray.push {key:=str k,val:=v,born:=m.length}) (m.length+1))}:=by
  simp only[Instr.mapUpdate,run_bind,bH hT,MapKept.run_getObj_map hb,MapKept.run_checkKey hKT (show MapKept.IsKey .string (str k)from trivial),MapKept.run_findKey hKT hf,MapKept.run_setObj_map _ hb]
 unfold nB;rw[hrun];refine hK _ (by simp) ?_ ⟨rfl,rfl,rfl,by simp,λq _ hq=>?_⟩
 ·show(w.heap.setIfInBounds b _)[b]?=_;rw[(MapKept.heap_set hb).1,Gv];simp
 ·exact(MapKept.heap_set hb).2 q hq
theorem UM{b:Nat}{m:List (Str×Value)}{k:Str}{z:Value}{K:Value->Prop}(hT:P.underlying T=some (.map KT ET))(hKT:P.underlying KT=some .string)(hz:Ci P ET=some z)(hb:Kk w b m)
  (h1:∀v,sC m k=some v->K (.tuple #[v,.bool true]))(h0:sC m k=none->K (.tuple #[z,.bool false])):nC P (Instr.lookup T (.map (some b)) (str k) true) w K:=by
 cases hl:sC m k with
 |none=>
  refine⟨_,?_,h0 hl⟩;simp only[Instr.lookup,run_bind,bH hT,MapKept.run_getObj_map hb,run_pure,MapKept.run_checkKey hKT (show MapKept.IsKey .string (str k)from trivial),MapKept.run_findKey hKT ((AV k m 0 0).1 hl),rG hz,fY]
 |some v=>
  obtain⟨n,hf⟩:=(AV k m 0 0).2 v hl;refine⟨_,?_,h1 v hl⟩;simp only[Instr.lookup,run_bind,bH hT,MapKept.run_getObj_map hb,run_pure,MapKept.run_checkKey hKT (show MapKept.IsKey .string (str k)from trivial),MapKept.run_findKey hKT hf,fY]
end
end
end Go.Eng
namespace Go.Proofs.YtghhmpppnmoeoaaGreatDoor
section
open Go Go.Eng Go.Num Go.RowKit
variable{w:World}{K:Q0}{cs:List Value}{G:Nat->Prop}{T:TypeId}{i:Nat}{n:Nat}{v:Value}{w':World}{P:Program}{c:UInt8}{S:Nat->Prop}
abbrev flat(k:Int)(b:Bool)(t:Str):List Value:=[i64 k,.bool b,str t,.slice none 0 0,.slice none 0 0]
theorem gU{k:Int}{b:Bool}{t:Str}(ht:t.length<=9223372036854775807):cL G w (.mk k b t [] []) (flat k b t):=
 cL.mk (v:=.mk k b t [] []) (T1:=0) (T2:=0) (L:=[]) (SlAt.nil w 0) (by simp[JV.xs,dJ]) (SlAt.nil w 0) ⟨by simp[JV.xs],by simp[JV.ks],by simpa[JV.t]using ht,by simp[JV.ks]⟩ (λh=>absurd rfl h) (λh=>by simp[JV.ks]at h)
theorem Dy{w0:World}{b:Nat}{ds:List Value}{v:JV}{K:Q0}(hb:w.heap[b]?=some (.cells ds.toArray VT (0,0)))(hd:ds.length=5)(hl:w0.heap.size<=b)(hx:Ext w0 w)(h:cL (λq=>w0.heap.size<=q/\q≠b) w v cs)
  (hK:∀w',Ext w0 w'->cL (Av w0.heap.size) w' v cs->K (.agg cs.toArray) w'):stW 5 (.pointer (some ⟨b,0,none⟩)) (.agg cs.toArray) w λw5=>ldW true 5 (.pointer (some ⟨b,0,none⟩)) w5 λr6=>K r6 w5:=
 iP hb h.rep.len hd h.rep.all_one λw' hc=>by
  refine hK w' (hx.new hc hl) ?_
  exact(cL.chg hc (λq hq _ e=>hq.2 e) h).mono λq _ hq=>hq.1
theorem cL.at{w1:World}{b:Nat}{v:JV}(h:cL (Av n) w1 v cs)(hb:b<n)(hn:w.heap.size<=n):cL (λq=>w.heap.size<=q/\q≠b) w1 v cs:=
 h.mono λq _ hq=>⟨cD hn hq,by have:n<=q:=hq;omega⟩
theorem cL.ext'{v:JV}(h:cL G w v cs)(hx:Ext w w'):cL G w' v cs:=cL.chg hx (λ_ _ _ e=>e) h
theorem dS.fld{sv:Value}{xs:List JV}{n:Int}{off:Nat}{x:JV}{K:Value->Prop}(h:dS w sv xs)(hn:n=(i:Nat))(hi:xs[i]?=some x)(ho:off<5)(hK:∀cs u,eR w x cs->cs[off]?=some u->K u):
  dG none 5 sv (.int .i64 n) λp=>aX off p λq=>ldW false 1 q w K:=by
 subst hn;obtain⟨T,L,h1,h2⟩:=h.it;refine Mo h1 h2 hi λb o c fr cs hb hc hg=>?_;rw[bS,dY,bZ,cJ,hb,cP,hg off ho];exact⟨cs[off]'(by rw[hc.len];exact ho),List.getElem?_eq_getElem _,hK cs _ hc (List.getElem?_eq_getElem _)⟩
theorem dS.fk{sv:Value}{xs:List JV}{n:Int}{x:JV}{K:Value->Prop}(h:dS w sv xs)(hn:n=(i:Nat))(hi:xs[i]?=some x)(hK:K (i64 x.k)):dG none 5 sv (.int .i64 n) λp=>aX 0 p λq=>ldW false 1 q w K:=
 h.fld hn hi (by omega) λcs u hc hu=>by obtain⟨sv,kv,T1,T2,L,rfl,_⟩:=hc.out;cases hu;exact hK
theorem dS.fb{sv:Value}{xs:List JV}{n:Int}{x:JV}{K:Value->Prop}(h:dS w sv xs)(hn:n=(i:Nat))(hi:xs[i]?=some x)(hK:K (.bool x.b)):dG none 5 sv (.int .i64 n) λp=>aX 1 p λq=>ldW false 1 q w K:=
 h.fld hn hi (by omega) λcs u hc hu=>by obtain⟨sv,kv,T1,T2,L,rfl,_⟩:=hc.out;cases hu;exact hK
theorem dS.ft{sv:Value}{xs:List JV}{n:Int}{x:JV}{K:Value->Prop}(h:dS w sv xs)(hn:n=(i:Nat))(hi:xs[i]?=some x)(hK:x.t.length<=9223372036854775807->K (str x.t)):dG none 5 sv (.int .i64 n) λp=>aX 2 p λq=>ldW false 1 q w K:=
 h.fld hn hi (by omega) λcs u hc hu=>by obtain⟨sv,kv,T1,T2,L,rfl,_,_,_,hf⟩:=hc.out;cases hu;exact hK hf.2.2.1
section
variable [HX]
theorem dS.at'{sv:Value}{xs:List JV}{n:Int}{x:JV}{K:Value->Prop}(h:dS w sv xs)(hn:n=(i:Nat))(hi:xs[i]?=some x)(hK:∀cs,eR w x cs->K (.agg cs.toArray)):dG none 5 sv (.int .i64 n) λp=>ldW true 5 p w K:=by
 subst hn;exact h.at hi hK
end
abbrev DoK(r:Option JV)(w:World)(K:Q0):Prop:=∀cs v ok w',Ext w w'->cL (Av w.heap.size) w' v cs->r=(if ok then some v else none)->K (.tuple #[.agg cs.toArray,.bool ok]) w'
theorem ML{w0:World}{b:Nat}{ds:List Value}{K:Q0}{r:Option JV}(hr:r=none)(hb:w.heap[b]?=some (.cells ds.toArray VT (0,0)))(hd:ds.length=5)(hl:w0.heap.size<=b)(hx:Ext w0 w)(hK:DoK r w0 K):
  dE [(.int .i64 0),(.bool false),(.string (ofL [])),(.slice none 0 0),(.slice none 0 0)] [] λc7=>stW 5 (.pointer (some ⟨b,0,none⟩)) (.agg c7.toArray) w λw8=>ldW true 5 (.pointer (some ⟨b,0,none⟩)) w8 λr9=>K (.tuple #[r9,(.bool false)]) w8:=by
 rw[cV];exact Dy (K:=λr w=>K (.tuple #[r,.bool false]) w) hb hd hl hx (gU (k:=0) (b:=false) (t:=[]) (by simp)) λw' hx' h'=>hK _ _ false w' hx' h' hr
theorem zE{w0:World}{b:Nat}{ds:List Value}{v:JV}{K:Q0}{r:Option JV}(hr:r=some v)(hb:w.heap[b]?=some (.cells ds.toArray VT (0,0)))(hd:ds.length=5)(hl:w0.heap.size<=b)(hx:Ext w0 w)(h:cL (λq=>w0.heap.size<=q/\q≠b) w v cs)(hK:DoK r w0 K):
  stW 5 (.pointer (some ⟨b,0,none⟩)) (.agg cs.toArray) w λw8=>ldW true 5 (.pointer (some ⟨b,0,none⟩)) w8 λr9=>K (.tuple #[r9,(.bool true)]) w8:=
 Dy (K:=λr w=>K (.tuple #[r,.bool true]) w) hb hd hl hx h λw' hx' h'=>hK _ _ true w' hx' h' hr
section
variable [HX]
theorem AU{s:Str}{K:Q0}(hK:∀w',Ext w w'->K (.agg (flat 4 false s).toArray) w'):aC P0 87 [str s] w K:=by
 refine aAM ?_;unfold W87;refine bE λb w1 hb hz hbb hx=>?_;simp only[wsv,wsg,wsh,wsl,aM,aK,aD,eV,Nat.reduceAdd,Nat.reduceLT,aF,aA,aJ,aH,bN,reduceCtorEq];exact iP hbb rfl rfl rfl λw' hc=>hK w' (hx.new hc (by omega))
theorem oZ{s:Bool}{K:Q0}(hK:∀w',Ext w w'->K (.agg (flat 2 s []).toArray) w'):aC P0 86 [.bool s] w K:=by
 refine aAN ?_;unfold W86;refine bE λb w1 hb hz hbb hx=>?_;simp only[wsv,wsg,wsh,wsl,aM,aK,aD,eV,Nat.reduceAdd,Nat.reduceLT,aF,aA,aJ,aH,bN,reduceCtorEq];exact iP hbb rfl rfl rfl λw' hc=>hK w' (hx.new hc (by omega))
theorem rH{K:Q0}(hK:∀w',Ext w w'->K (.agg (flat 1 false []).toArray) w'):aC P0 97 [] w K:=by
 refine aAD ?_;unfold W97;refine bE λb w1 hb hz hbb hx=>?_;simp only[wsv,wsg,wsh,wsl,aM,aK,aD,eV,Nat.reduceAdd,Nat.reduceLT,aF,aA,aJ,aH,bN,reduceCtorEq];exact iP hbb rfl rfl rfl λw' hc=>hK w' (hx.new hc (by omega))
theorem zG{b o:Nat}(hx:Ext w w')(h:w.cell? ⟨b,o,none⟩=some v):w'.cell? ⟨b,o,none⟩=some v:=by
 rw[cJ]at h⊢;cases hb:w.heap[b]? with
 |none=>rw[hb]at h;cases h
 |some x=>rw[hb]at h;rw[hx.at hb id];exact h
theorem Oe(w:World)(k:Nat)(os:Array Obj):Ext w (Sort.grow (w.drewN k) os):=
 ⟨rfl,rfl,rfl,by show w.heap.size<=(w.heap++os).size;simp,λj hj _=>by show(w.heap++os)[j]?=_;rw[Array.getElem?_append_left hj]⟩
theorem HY{name:String}{c:Array Value}(hx:Ext w w')(h:w.var? P name=some c):w'.var? P name=some c:=by
 unfold World.var? at h⊢;cases hg:P.globalNamed name with
 |none=>rw[hg]at h;cases h
 |some g=>
  rw[hg]at h;simp only[Option.bind_some]at h⊢;cases hb:w.heap[g]? with
  |none=>rw[hb]at h;cases h
  |some o=>rw[hx.at hb id];rw[hb]at h;exact h
structure wP(w:World):Prop where
 pow:Lib.TabIs P0 w "internal/strconv.uint64pow10" .u64 Lib.pow10Tab
 syn:∃T v,w.cell? ⟨3,0,none⟩=some (.iface T v)
 rng:∃T v,w.cell? ⟨4,0,none⟩=some (.iface T v)
 mx:∃m,w.cell? ⟨0,0,none⟩=some (.int .i64 m)
theorem wP.ext(h:wP w)(hx:Ext w w'):wP w':=
 ⟨HY hx h.pow,let⟨T,v,e⟩:=h.syn;⟨T,v,zG hx e⟩,let⟨T,v,e⟩:=h.rng;⟨T,v,zG hx e⟩,let⟨m,e⟩:=h.mx;⟨m,zG hx e⟩⟩
theorem Vn(s:Str):(dig s).length<=s.length:=by
 cases s with
 |nil=>simp[dig]
 |cons c d=>simp only[dig];split<;>simp
theorem aCK{x:JV}{sv:Value}{K:Q0}(h:dS w sv [x])(hK:DoK (some (nV (dig x.t))) w K):aC P0 159 [sv] w K:=by
 refine WJ ?_;unfold aDu;refine bE λb w1 hb hz hbb hx=>?_;refine(h.ext hx).ft (i:=0) rfl rfl λht=>?_;refine xA ht ?_;simp only[dA,eD,cV,aB,aN,aV,aZ];refine⟨by omega,by omega,?_⟩;refine zE rfl hbb rfl (by omega) hx (gU ?_) hK;have:=Vn x.t;omega
end
section
variable [HX]
theorem RO{x:JV}{sv:Value}{K:Q0}(h:dS w sv [x])(hK:DoK (Bm x) w K):aC P0 178 [sv] w K:=by
 refine WC ?_;unfold aDp;refine bE λb w1 hb hz hbb hx=>?_;have h1:=h.ext hx;refine h1.fk (i:=0) rfl rfl ?_;rw[bM,aO];refine⟨λk2=>?_,λk2=>?_⟩
 ·refine h1.fb (i:=0) rfl rfl ?_;have hL:Bm x=some (tV (if x.b then [116,114,117,101]else [102,97,108,115,101])):=by unfold Bm;rw[aI k2]
  rw[hL]at hK;rw[bR];refine⟨λhb1=>?_,λhb1=>?_⟩
  ·rw[hb1]at hK;refine AU λw3 hx3=>?_;exact zE rfl (hx3.at hbb id) rfl (by omega) (hx.trans hx3) (gU (by simp)) hK
  ·rw[hb1]at hK;refine AU λw3 hx3=>?_;exact zE rfl (hx3.at hbb id) rfl (by omega) (hx.trans hx3) (gU (by simp)) hK
 ·have hL:Bm x=if x.k=3\/x.k=4 then some (tV x.t)else none:=by unfold Bm;rw[aE k2]
  rw[hL]at hK;refine bT.cut (λst w'=>st=[.bool (decide (x.k=3\/x.k=4))]/\w'=w1) ?_ ?_
  ·rw[bM,aO];refine⟨λk5=>⟨by rw[bF k5,bF (Or.inl k5)],rfl⟩,λk5=>?_⟩;rw[bM];refine⟨?_,rfl⟩;by_cases k6:x.k=4
   ·rw[bF k6,bF (Or.inr k6)]
   ·rw[bY k6,bY (by rintro(e|e)<;>contradiction)]
  ·rintro st g w7 ⟨rfl,rfl⟩;simp only[aG];rw[aO];refine⟨λhk=>?_,λhk=>?_⟩
   ·rw[aI hk]at hK;refine h1.ft (i:=0) rfl rfl λht=>?_;refine AU λw3 hx3=>?_;exact zE rfl (hx3.at hbb id) rfl (by omega) (hx.trans hx3) (gU ht) hK
   ·rw[aE hk]at hK;exact ML rfl hbb rfl (by omega) hx hK
theorem RP{x:JV}{sv:Value}{K:Q0}(h:dS w sv [x])(ht:x.t.length<=9223372036854775807)(hK:DoK (Bn x) w K):aC P0 177 [sv] w K:=by
 refine WE ?_;unfold aDq;refine bE λb w1 hb hz hbb hx=>?_;have h1:=h.ext hx;refine h1.fk (i:=0) rfl rfl ?_;simp only[fJ,iG,nK,aG,eX];intro _;refine GdW.act (!goodN x.t) (λw'=>Ext w1 w') (λ_=>Chg.refl _ _) (λ_ J hJ=>?_) λg w4 hx4=>?_
 ·refine h1.ft (i:=0) rfl rfl λ_=>?_;refine kW ht λw3 hx3=>?_;rw[eP];exact hJ w3 hx3
 simp only[aG,kX,eZ];have hbb4:=hx4.at hbb id;have e1:decide (x.k≠4)=!decide (x.k=4):=by simp
 have e2:decide (x.k≠3)=!decide (x.k=3):=by simp
 rw[bR,e1,e2];refine⟨λhbad=>?_,λhok=>?_⟩
 ·refine ML ?_ hbb4 rfl (by omega) (hx.trans hx4) hK;unfold Bn;rw[aE];rintro⟨hk,hg⟩;rw[hg]at hbad;rcases hk with e|e<;>simp[e]at hbad
 ·refine(h1.ext hx4).ft (i:=0) rfl rfl λ_=>?_;simp only[dA,eD,cV,aB,aN,aV,aZ];refine⟨by omega,by omega,?_⟩;refine zE ?_ hbb4 rfl (by omega) (hx.trans hx4) (gU ht) hK;unfold Bn;rw[aI];simp only[jM,Bool.and_eq_false_iff,Bool.not_eq_false',bB]at hok;obtain⟨hk,hg⟩:=hok;exact⟨hk.symm,hg⟩
end
theorem HG:∀(d:Str) (acc:Nat),acc<=d.foldl (λn c=>n*10+Num.dval c) acc
 |[],acc=>aU _
 |c::d,acc=>cD (by omega) (HG d (acc*10+Num.dval c))
theorem PF:∀(d:Str) (acc:Nat),d.all Num.isDig=true->acc<18446744073709551616->
  (Lib.parseUint10 acc d=.ok (d.foldl (λn c=>n*10+Num.dval c) acc)/\d.foldl (λn c=>n*10+Num.dval c) acc<18446744073709551616)\/(Lib.parseUint10 acc d=.range/\18446744073709551616<=d.foldl (λn c=>n*10+Num.dval c) acc)
 |[],acc,_,h=>.inl ⟨rfl,h⟩
 |c::d,acc,ha,h=>by
  simp only[gE,aL]at ha
  have hc:=ha.1
  simp only[Num.isDig,aL,bB]at hc
  simp only[Lib.parseUint10,aI hc,CK]
  have hd:Num.dval c=c.toNat-48:=rfl
  split
  ·right
   refine⟨rfl,cD ?_ (HG d _)⟩
   omega
  ·split
   ·right
    refine⟨rfl,cD ?_ (HG d _)⟩
    omega
   ·rw[hd]
    exact PF d _ ha.2 (by omega)
theorem En{s:Str}(hg:goodN s=true):(s=45::dig s/\neg s=true\/s=dig s/\neg s=false)/\dig s≠[]/\(dig s).all Num.isDig=true:=by
 obtain⟨g1,g2,g3,g4⟩:=iZ hg;refine⟨?_,λe=>by rw[e]at g1;simp at g1,g4⟩;cases s with
 |nil=>simp[dig]at g1
 |cons c r=>
  by_cases h:c=45
  ·subst h;left;simp[dig,neg]
  ·right;simp[dig,neg,h]
theorem GK{s:Str}(hg:goodN s=true):(Lib.atoiAll s=.ok (num s)/\-9223372036854775808<=num s/\num s<=9223372036854775807)\/(Lib.atoiAll s=.range/\(num s< -9223372036854775808\/9223372036854775807<num s)):=by
 obtain⟨hs,hne,ha⟩:=En hg;have hp:=PF (dig s) 0 ha (by decide);have hd:(dig s).foldl (λn c=>n*10+Num.dval c) 0=dec (dig s):=rfl;rw[hd]at hp;rcases hs with⟨e,hn⟩|⟨e,hn⟩
 ·have hnum:num s=-(dec (dig s):Int):=by unfold num;rw[hn];rfl
  rw[hnum];generalize dig s=d at*
  subst e;simp only[Lib.atoiAll,Lib.parseMag];simp only[show(45:UInt8).toNat=45 from rfl,or_true,fY,zK,false_and,jV,dI,aE hne];rcases hp with⟨h1,h2⟩|⟨h1,h2⟩
  ·simp only[h1];by_cases hb:9223372036854775808<dec d
   ·right;rw[aI hb];exact⟨rfl,.inl (by omega)⟩
   ·left;rw[aE hb];exact⟨rfl,by omega,by omega⟩
  ·right;simp only[h1];exact⟨trivial,.inl (by omega)⟩
 ·have hnum:num s=(dec (dig s):Int):=by unfold num;rw[hn];rfl
  rw[hnum];cases hd2:dig s with
  |nil=>exact absurd hd2 hne
  |cons c r=>
   rw[hd2]at hp ha e;have hc:=ha;simp only[gE,aL,Num.isDig,bB]at hc;have n43:¬c.toNat=43:=by omega
   have n45:¬c.toNat=45:=by omega
   rw[e];simp only[Lib.atoiAll,Lib.parseMag,n43,n45,or_self,jV,not_false_eq_true,dI,false_and,aE (show¬(c::r=[])by simp)];rcases hp with⟨h1,h2⟩|⟨h1,h2⟩
   ·simp only[h1];by_cases hb:9223372036854775808<=dec (c::r)
    ·right;rw[aI hb];exact⟨rfl,.inr (by omega)⟩
    ·left;rw[aE hb];exact⟨rfl,by omega,by omega⟩
   ·right;simp only[h1];exact⟨trivial,.inr (by omega)⟩
theorem MK(K:Value->Prop)(w:World):eqQ P0 .neq 118 false true .nilIface .nilIface w K↔K (.bool false):=by
 have h:(do eqGuard .neq 118 (qS false) (qS true) .nilIface .nilIface;binOp .neq 118 .nilIface .nilIface:Sem Value).run P0 w=.ok (.bool false) w:=by kernel_rfl
 unfold eqQ nC;rw[h];exact⟨λ⟨v,h1,h2⟩=>by cases h1;exact h2,λh2=>⟨_,rfl,h2⟩⟩
theorem Hs(T:TypeId)(v:Value)(w:World)(K:Value->Prop):eqQ P0 .neq 118 false true (.iface T v) .nilIface w K↔K (.bool true):=by
 have h:(do eqGuard .neq 118 (qS false) (qS true) (.iface T v) .nilIface;binOp .neq 118 (.iface T v) .nilIface:Sem Value).run P0 w=.ok (.bool true) w:=by kernel_rfl
 unfold eqQ nC;rw[h];exact⟨λ⟨v,h1,h2⟩=>by cases h1;exact h2,λh2=>⟨_,rfl,h2⟩⟩
def An(s:Str):Option Int:=if goodN s=true/\-9223372036854775808<=num s/\num s<=9223372036854775807 then some (num s)else none
section
variable [HX]
theorem aAz{s:Str}{K:Q0}(hT:wP w)(hl:s.length<=1000000)
  (hK:∀n e w',Ext w w'->((e=.nilIface/\Lib.atoiAll s=.ok n)\/(∃T v,e=.iface T v)/\∀n',Lib.atoiAll s≠.ok n')->K (.tuple #[i64 n,e]) w'):
  aC P0 157 [str s] w K:=by
 refine WL ?_;unfold aDv;refine gS (args:=#[str s]) Tryz.call212 ((Tryz.internal_strconv_Atoi_all (ofL s) (by rw[fH];omega) w).mono ?_);rintro e w1 ⟨rfl,hw⟩;rw[eQ];have hx1:Ext w w1:=by
  rcases hw with rfl|⟨t,rfl⟩
  ·exact Chg.refl _ _
  ·exact Ca _ _ _
 have hT1:=hT.ext hx1;refine⟨_,rfl,?_⟩;rcases hA:Lib.atoiAll s with n|_|_
 ·simp only[Lib.intTuple,bK];refine⟨_,rfl,_,rfl,?_⟩;rw[MK,dD];exact hK n _ w1 hx1 (.inl ⟨rfl,hA⟩)
 ·simp only[Lib.intTuple,bK];refine⟨_,rfl,_,rfl,?_⟩;rw[Hs,eF];obtain⟨T,v,hv⟩:=hT1.syn;refine gS (args:=#[str [65,116,111,105],str s,i64 0,i64 0,.iface 236 (.int .i64 2)]) Tryz.call213 ((Tryz.strconv_toError_syntax (ofL [65,116,111,105]) (ofL s) 0 0 _ w1 (by rw[fH];omega) hv (.inr ⟨T,v,rfl⟩)).mono ?_);rintro e w' ⟨N,rfl,_,_,hb⟩;exact⟨_,rfl,hK 0 _ w' (hx1.trans (Chg.of_below hb)) (.inr ⟨⟨_,_,rfl⟩,λn' h=>by rw[hA]at h;cases h⟩)⟩
 ·simp only[Lib.intTuple,bK];refine⟨_,rfl,_,rfl,?_⟩;rw[Hs,eF];obtain⟨T,v,hv⟩:=hT1.rng;refine gS (args:=#[str [65,116,111,105],str s,i64 0,i64 0,.iface 236 (.int .i64 1)]) Tryz.call213 ((Tryz.strconv_toError_range (ofL [65,116,111,105]) (ofL s) 0 0 _ w1 (by rw[fH];omega) hv (.inr ⟨T,v,rfl⟩)).mono ?_);rintro e w' ⟨N,rfl,_,_,hb⟩;exact⟨_,rfl,hK _ _ w' (hx1.trans (Chg.of_below hb)) (.inr ⟨⟨_,_,rfl⟩,λn' h=>by rw[hA]at h;cases h⟩)⟩
theorem PY{s:Str}{K:Q0}(hT:wP w)(hl:s.length<=1000000)(hK:∀w',Ext w w'->K (.tuple #[i64 ((An s).getD 0),.bool (An s).isSome]) w'):aC P0 123 [str s] w K:=by
 refine Xj ?_;unfold aDP;refine aAz hT hl λn e w1 hx1 he=>?_;simp only[bK];refine⟨_,rfl,_,rfl,?_⟩;rcases he with⟨rfl,hn⟩|⟨⟨T,v,rfl⟩,hn⟩
 ·rw[MK];simp only[kX,iU];refine GdW.act (!goodN s) (λw'=>Ext w1 w') (λ_=>Chg.refl _ _) (λ_ J hJ=>?_) λg w4 hx4=>?_
  ·refine kW (by omega) λw3 hx3=>?_;rw[eP];exact hJ w3 hx3
  simp only[aG,rZ,aM];have hx:=hx1.trans hx4;rw[bR];refine⟨λhg=>?_,λhg=>?_⟩
  ·have:An s=none:=by unfold An;rw[aE];rintro⟨h,_⟩;rw[h]at hg;cases hg
   rw[this]at hK;exact hK w4 hx
  ·have hg:goodN s=true:=by simpa using hg
   rcases GK hg with⟨h1,h2,h3⟩|⟨h1,_⟩
   ·rw[h1]at hn;cases hn;have:An s=some (num s):=by unfold An;rw[aI ⟨hg,h2,h3⟩]
    rw[this]at hK;exact hK w4 hx
   ·rw[h1]at hn;cases hn
 ·rw[Hs];simp only[kX,jT,Ac];intro g;rw[lC,eF];have:An s=none:=by
   unfold An;rw[aE];rintro⟨hg,h2,h3⟩;rcases GK hg with⟨h1,_⟩|⟨_,h4⟩
   ·exact hn _ h1
   ·omega
  rw[this]at hK;exact hK w1 hx1
end
theorem Eo{s:Str}(h:goodN s=true):s.length<=101:=by
 obtain⟨_,g2,_,_⟩:=iZ h;obtain⟨hs,_⟩:=En h;rcases hs with⟨e,_⟩|⟨e,_⟩
 ·rw[e,aB];omega
 ·rw[e];omega
theorem HE{v:JV}(h:kE v=true):v.t.length<=16384:=by
 rw[mN,aL]at h;obtain⟨_,_,_,h4,_,_,h7,h8,_⟩:=kF h.1;by_cases ht:v.t=[]
 ·rw[ht];simp
 ·rcases h4 ht with k|k
  ·have:=Eo (h7 k);omega
  ·exact h8 k
theorem dJ.get5{G:Nat->Prop}{w:World}:∀{xs:List JV} {L:List Value} {i:Nat} {x:JV},dJ G w xs L->xs[i]?=some x->∃cs,cL G w x cs/\∀j,j<5->L[i*5+j]?=cs[j]?
 |[],_,_,_,_,h=>by simp at h
 |y::xs,L,0,x,h,hx=>by
  simp only[List.getElem?_cons_zero,bD]at hx
  subst hx
  simp only[dJ]at h
  obtain⟨c,r,rfl,hc,hr⟩:=h
  refine⟨c,hc,λj hj=>?_⟩
  rw[zM,aY,List.getElem?_append_left (by rw[hc.rep.len];exact hj)]
 |y::xs,L,i+1,x,h,hx=>by
  simp only[List.getElem?_cons_succ]at hx
  simp only[dJ]at h
  obtain⟨c,r,rfl,hc,hr⟩:=h
  obtain⟨cs,h1,h2⟩:=dJ.get5 hr hx
  refine⟨cs,h1,λj hj=>?_⟩
  rw[List.getElem?_append_right (by rw[hc.rep.len];omega),hc.rep.len,<-h2 j hj]
  congr 1;omega
section
variable [HX]
end
end
end Go.Proofs.YtghhmpppnmoeoaaGreatDoor
namespace Go.Proofs
section
open Go.RowKit Go.Lib Go.Shelf
variable{w:World}{K:Q0}{cs:List Value}{G:Nat->Prop}{T:TypeId}{i:Nat}{n:Nat}{v:Value}{w':World}{P:Program}{c:UInt8}{S:Nat->Prop}
abbrev BdT:TypeId:=116
set_option maxHeartbeats 1000000 in
set_option maxRecDepth 100000 in
theorem Tryz.check_used(b:Nat)(w:World)(h0:w.cell? ⟨b,0,none⟩=some (.pointer (some ⟨b,0,none⟩))):
  Calls P0 102 #[.pointer (some ⟨b,0,none⟩)] w λe w'=>e=.returned (.tuple #[])/\w'=w:=by
 obtain⟨j,hj,_⟩:=Option.map_eq_some_iff.1 (show(Tryz.prog.info? 116).map (·.size)=some 2 by kernel_rfl)
 go_enter Tryz.func102,Tryz.ntmps102
 go_wp2
 rw[Lib.run_neq_ptr_same w _ Tryz.underlying114 hj]
 go_wp2
 go_end0
 exact⟨rfl,rfl⟩
set_option maxHeartbeats 1000000 in
set_option maxRecDepth 100000 in
theorem Tryz.check_fresh(b:Nat)(w:World)(h0:w.cell? ⟨b,0,none⟩=some (.pointer none))(hsh:w.shape? b=some (116,2))(hfz:w.frozen? ⟨b,0,none⟩=false):
  Calls P0 102 #[.pointer (some ⟨b,0,none⟩)] w λe w'=>e=.returned (.tuple #[])/\w'=w.setCell ⟨b,0,none⟩ (.pointer (some ⟨b,0,none⟩)):=by
 obtain⟨j,hj,hjs⟩:=Option.map_eq_some_iff.1 (show(Tryz.prog.info? 116).map (·.size)=some 2 by kernel_rfl)
 go_enter Tryz.func102,Tryz.ntmps102
 go_wp2
 rw[Lib.run_to_unsafe w ⟨b,0,none⟩ Tryz.underlying114 Tryz.underlying172 hj (by rw[hjs];decide) hsh (aA 1)];simp only[Result.andThen];rw[Oper.upon_value]
 go_wp2
 rw[run_callFunc_extern Tryz.func137 (by kernel_rfl) (by kernel_rfl) (by kernel_rfl) (e:=Extern.AbiNoEscape.same) (by kernel_rfl)];rw[Lib.run_noEscape];simp only[Result.andThen];rw[Oper.upon_value]
 go_wp2
 rw[Lib.run_from_unsafe w ⟨b,0,none⟩ Tryz.underlying172 Tryz.underlying114 hj hsh (show liesAt P0 Tryz.prog.depth 116 (2/Tryz.prog.cellsOf 116) 0 116 1=true by kernel_rfl)];simp only[Result.andThen];rw[Oper.upon_value]
 go_wp2
 go_end0
 exact⟨rfl,rfl⟩
end
end Go.Proofs
namespace Go.Proofs.YtghhmpppnmoeoaaGreatDoor
section
open Go Go.Eng Go.RowKit
variable{w:World}{K:Q0}{cs:List Value}{G:Nat->Prop}{T:TypeId}{i:Nat}{n:Nat}{v:Value}{w':World}{P:Program}{c:UInt8}{S:Nat->Prop}
abbrev BdT:TypeId:=116
theorem AY:sR P0 89 U8 1 1:=⟨by kernel_rfl,by kernel_rfl,by decide⟩
def Bld(w:World)(B b:Nat)(l:Str):Prop:=
 ∃p v,w.heap[b]?=some (.cells [p,v].toArray BdT (0,0))/\(p=.pointer none\/p=.pointer (some ⟨b,0,none⟩))/\Own w B U8 1 v l.length (u8s l)/\B<=b
def BCh(w:World)(B b:Nat)(k:Nat):Prop:=k=b\/OD w B U8 k
theorem Bld.chg{B b:Nat}{l:Str}(h:Bld w B b l)(hc:Chg S w w')(hb:¬S b)(hS:∀k,OD w B U8 k->¬S k):Bld w' B b l:=by
 obtain⟨p,v,h1,h2,h3,h4⟩:=h;exact⟨p,v,hc.at h1 hb,h2,h3.chg hc hS,h4⟩
theorem Bld.ext{B b:Nat}{l:Str}(h:Bld w B b l)(hc:Ext w w'):Bld w' B b l:=h.chg hc (λe=>e) λ_ _ e=>e
theorem Bld.lt{B b:Nat}{l:Str}(h:Bld w B b l):b<w.heap.size:=by
 obtain⟨p,v,h1,_⟩:=h;exact fC h1
theorem Bld.base{B b:Nat}{l:Str}(h:Bld w B b l):B<=b:=by obtain⟨p,v,_,_,_,h4⟩:=h;exact h4
theorem Ka{B b:Nat}{p:Value}(h1:w.heap[b]?=some (.cells [p,v].toArray BdT (0,0))):¬OD w B U8 b:=by
 rintro⟨_,c,hc⟩;rw[h1]at hc;simp only[bD,Obj.cells.injEq]at hc;exact absurd hc.2.1 (by decide)
theorem BCh.trans{w1 w2:World}{B b:Nat}(h1:Chg (BCh w B b) w w1)(h2:Chg (BCh w1 B b) w1 w2):Chg (BCh w B b) w w2:=by
 refine⟨h2.os.trans h1.os,h2.tape.trans h1.tape,h2.output.trans h1.output,cD h1.size h2.size,λk hk hn=>?_⟩;have e1:=h1.heap k hk hn;rw[<-e1];refine h2.heap k (cN hk h1.size) λe=>hn ?_;rcases e with e|⟨e2,c,e3⟩
 ·exact .inl e
 ·exact .inr ⟨e2,c,by rw[<-e1];exact e3⟩
theorem BCh.from{w1 w2:World}{B b:Nat}(h1:Ext w w1)(h2:Chg (BCh w1 B b) w1 w2):Chg (BCh w B b) w w2:=BCh.trans (Chg.of_ext h1) h2
theorem BCh.new{w0:World}{B b:Nat}(h0:Ext w0 w)(hB:w0.heap.size<=B)(hb:B<=b)(h:Chg (BCh w B b) w w'):Ext w0 w':=
 h0.then h λk hk e=>by
  rcases e with rfl|⟨e,_⟩
  ·omega
  ·omega
theorem BCh.keep{B b k:Nat}{c:Array Value}{fr:Nat×Nat}(h:Chg (BCh w B b) w w')(hk:w.heap[k]?=some (.cells c T fr))(hb:k≠b)(hT:T≠U8):w'.heap[k]?=some (.cells c T fr):=
 h.at hk λe=>by
  rcases e with e|⟨_,c',e⟩
  ·exact hb e
  ·rw[hk]at e
   simp only[bD,Obj.cells.injEq]at e
   exact hT e.2.1
theorem BCh.iter{B b k p:Nat}{s:ByteArray}(h:Chg (BCh w B b) w w')(hk:w.heap[k]?=some (.stringIter s p))(hb:k≠b):w'.heap[k]?=some (.stringIter s p):=
 h.at hk λe=>by
  rcases e with e|⟨_,c',e⟩
  ·exact hb e
  ·rw[hk]at e;cases e
section
variable [HX]
theorem aAv{B:Nat}{K:Q0}(hB:B<=w.heap.size)(hK:∀b w',b=w.heap.size->Bld w' B b []->Ext w w'->K (.pointer (some ⟨b,0,none⟩)) w'):bL BdT [.pointer none,.slice none 0 0] w K:=
 bE λa w' ha hz hb hx=>hK a w' ha ⟨_,_,hb,.inl rfl,⟨by simp[u8s],.inl ⟨rfl,rfl⟩⟩,by omega⟩ hx
theorem HL{B b:Nat}{l:Str}{K:Q0}(h:Bld w B b l)
  (hK:∀v w',w'.heap[b]?=some (.cells [.pointer (some ⟨b,0,none⟩),v].toArray BdT (0,0))->Own w' B U8 1 v l.length (u8s l)->w'.heap.size=w.heap.size->Chg (BCh w B b) w w'->K (.tuple #[]) w'):
  aC P0 102 [.pointer (some ⟨b,0,none⟩)] w K:=by
 obtain⟨p,v,h1,h2,h3,h4⟩:=h;have c0:w.cell? ⟨b,0,none⟩=some p:=by rw[cJ,h1];rfl
 rcases h2 with rfl|rfl
 ·refine gS (args:=#[.pointer (some ⟨b,0,none⟩)]) Tryz.call102 ((Tryz.check_fresh b w c0 (by simp[World.shape?,h1]) (by rw[zB,h1];rfl)).mono ?_);rintro e w' ⟨rfl,rfl⟩;refine⟨_,rfl,hK v _ ?_ ?_ (rU _ _ _) (Chg.set (Chg.refl _ _) (.inl (.inl rfl)) _)⟩
  ·rw[uC,h1];rfl
  ·refine h3.chg (Chg.set (S:=λk=>k=b) (Chg.refl _ _) (.inl rfl) _) λk hk e=>?_;subst e;exact Ka h1 hk
 ·refine gS (args:=#[.pointer (some ⟨b,0,none⟩)]) Tryz.call102 ((Tryz.check_used b w c0).mono ?_);rintro e w' ⟨rfl,rfl⟩;exact⟨_,rfl,hK v _ h1 h3 rfl (Chg.refl _ _)⟩
theorem LP{w3:World}{B b n:Nat}{l l':Str}{v':Value}{K:World->Prop}(h1:w.heap[b]?=some (.cells [.pointer (some ⟨b,0,none⟩),v].toArray BdT (0,0)))(hO:Own w B U8 1 v l.length (u8s l))(hb:B<=b)
  (hc:Chg (λk=>v.ownBlock=some k) w w3)(hO':Own w3 B U8 1 v' l'.length (u8s l'))(hK:∀w',Bld w' B b l'->Chg (BCh w B b) w w'->w'.heap.size=w3.heap.size->K w'):
  stW 1 (.pointer (some ⟨b,1,none⟩)) v' w3 K:=by
 have hne:¬v.ownBlock=some b:=λe=>Ka h1 (hO.block b e);have h3:=hc.at h1 hne;have hsh:gC v'=true:=by obtain⟨p,c,rfl,_⟩:=hO'.sl.shape;rfl
 refine jD h3 hsh (by simp) λw4 hz hb4 hc4=>?_;refine hK w4 ⟨.pointer (some ⟨b,0,none⟩),v',by rw[hb4];simp,.inr rfl,hO'.chg hc4 λk hk e=>by subst e;exact Ka h3 hk,hb⟩ ?_ hz;have s1:Chg (BCh w B b) w w3:=hc.mono λk _ e=>.inr (hO.block k e);exact s1.then hc4 λk _ e=>.inl e
theorem Kr{B b:Nat}{l s:Str}{K:Q0}(h:Bld w B b l)(hB:B<=w.heap.size)(hl:l.length+s.length<=140737488355328)
  (hK:∀v w',Bld w' B b (l++s)->Chg (BCh w B b) w w'->K v w'):aC P0 66 [.pointer (some ⟨b,0,none⟩),str s] w K:=by
 have hb:=h.base;refine aA3 ?_;unfold W66;refine HL h λv w1 h1 hO hz hc=>?_;rw[dR,bS,dY];refine⟨v,by rw[bZ,cJ,h1];rfl,?_⟩;obtain⟨i,z,hi,hzr,h2,h3,h4⟩:=AY.get;have hz0:i.zero=some (.int .u8 0):=by
  have:(Tryz.prog.info? U8).map (·.zero)=some (some (.int .u8 0)):=by kernel_rfl
  rw[hi]at this;simpa using this
 obtain⟨v',w3,hr,hO',hg,_⟩:=Lib.run_append_own_string (P:=P0) w1 B 89 9 89 U8 i AY.und (by kernel_rfl) hi hz0 h2 h3 v l.length (u8s l) hO (ofL s) (by rw[fH];unfold maxLen;omega) (by rw[fH];omega) (by omega);unfold eA;rw[hr];dsimp only;rw[dR,bS];have hO2:Own w3 B U8 1 v' (l++s).length (u8s (l++s)):=by
  rw[CQ,bG];have e1:Lib.strCells (ofL s)=u8s s:=by unfold Lib.strCells u8s;rw[eQ]
  rw[fH,e1]at hO';exact hO'
 refine LP (n:=0) h1 hO hb (Chg.of_grown hg λk e=>e) hO2 λw4 hb4 hc4 _=>?_;rw[fR];exact hK _ w4 hb4 (BCh.trans hc hc4)
theorem Hc{K:Q0}(hK:∀t w',SlAt w' U8 t 1 [.int .u8 (n:Int)]->Ext w w'->K t w'):dK U8 1 [(.int .u8 0)] [(0,1,.int .u8 (n:Int))] w K:=by
 rw[dK];simp only[dA,cV,aB,aN,aV];refine⟨by omega,?_⟩;refine hK _ _ ⟨_,_,rfl,aU _,λe=>(by cases e),λ_=>⟨_,_,_,_,rfl,gT _ _ _ rfl,λi _=>by rw[aY];simp⟩⟩ (Chg.alloc (Chg.refl _ _) _)
theorem CO{B b:Nat}{l:Str}{K:Q0}(h:Bld w B b l)(hB:B<=w.heap.size)(hl:l.length+1<=140737488355328)(hn:n<256)
  (hK:∀w',Bld w' B b (l++[UInt8.ofNat n])->Chg (BCh w B b) w w'->K .nilIface w'):aC P0 62 [.pointer (some ⟨b,0,none⟩),.int .u8 (n:Int)] w K:=by
 have hb:=h.base;refine aA5 ?_;unfold W62;refine HL h λv w1 h1 hO hz hc=>?_;rw[dR,bS,dY];refine⟨v,by rw[bZ,cJ,h1];rfl,?_⟩;refine Hc λt w2 ht hx2=>?_;refine kY AY (hO.ext hx2) ht (m:=1) rfl (λu hu=>by simp only[bQ]at hu;subst hu;rfl) (by omega) (by omega) (by have:=hx2.size;omega) λv' w3 hO3 hc3 _=>?_;rw[dR,bS];have hO2:Own w3 B U8 1 v' (l++[UInt8.ofNat n]).length (u8s (l++[UInt8.ofNat n])):=by
  rw[CQ,bG];have e1:u8s [UInt8.ofNat n]=[.int .u8 (n:Int)]:=by
   simp only[u8s,dT,nT,jF];rw[kI (by omega)]
  rw[e1];exact hO3
 refine LP (n:=0) (hx2.at h1 id) (hO.ext hx2) hb hc3 hO2 λw4 hb4 hc4 _=>?_;exact hK w4 hb4 (BCh.trans hc (BCh.from hx2 hc4))
end
abbrev u8(n:Nat):Value:=.int .u8 (n:Int)
theorem aCd:∀x:Fin 32,IntKind.u8.wrap (BitVec.ofInt IntKind.u8.bits 192|||BitVec.ofInt IntKind.u8.bits ((x.val:Nat):Int)).toNat=((192+x.val:Nat):Int):=by decide+kernel
theorem aCc:∀x:Fin 16,IntKind.u8.wrap (BitVec.ofInt IntKind.u8.bits 224|||BitVec.ofInt IntKind.u8.bits ((x.val:Nat):Int)).toNat=((224+x.val:Nat):Int):=by decide+kernel
theorem aCb:∀x:Fin 8,IntKind.u8.wrap (BitVec.ofInt IntKind.u8.bits 240|||BitVec.ofInt IntKind.u8.bits ((x.val:Nat):Int)).toNat=((240+x.val:Nat):Int):=by decide+kernel
theorem aCe:∀x:Fin 64,IntKind.u8.wrap (BitVec.ofInt IntKind.u8.bits 128|||BitVec.ofInt IntKind.u8.bits ((x.val:Nat):Int)).toNat=((128+x.val:Nat):Int):=by decide+kernel
theorem aCH:∀x:Fin 256,IntKind.u8.wrap (BitVec.ofInt IntKind.u8.bits ((x.val:Nat):Int)&&&BitVec.ofInt IntKind.u8.bits 63).toNat=((x.val%64:Nat):Int):=by decide+kernel
theorem yH(n:Nat):IntKind.u8.wrap (n:Int)=((n%256:Nat):Int):=by
 simp only[IntKind.wrap,IntKind.bits,IntKind.signed,Fh];rw[show(2:Int)^8=256 by decide];simp
theorem HZ(h:n<4294967296):IntKind.u32.wrap (n:Int)=(n:Int):=by
 simp only[IntKind.wrap,IntKind.bits,IntKind.signed,Fh];rw[show(2:Int)^32=4294967296 by decide];simp only[eU,jV];omega
theorem Fx(r k:Nat)(hk:k<=32)(K:Value->Prop):aQ .shr (.int .i32 (r:Int)) (.int .u64 (k:Int)) K↔K (.int .i32 ((r/2^k:Nat):Int)):=by
 have e:(r:Int).fdiv (2^min (k:Int).toNat IntKind.i32.bits)=((r/2^k:Nat):Int):=by
  rw[aW,show min k IntKind.i32.bits=k from nO hk,Int.fdiv_eq_ediv_of_nonneg _ (by exact Int.le_of_lt (Int.pow_pos (by decide)))];rw[Int.natCast_ediv,Int.natCast_pow];rfl
 simp only[aQ];rw[e];constructor
 ·exactλh=>h.2
 ·exactλh=>⟨by omega,h⟩
theorem Bp(x:Nat)(K:Value->Prop):(uD .u8 (.int .i32 (x:Int)) λt=>aQ .and t (.int .u8 63) λt=>aQ .or (.int .u8 128) t K)↔K (u8 (128+x%64)):=by
 rw[pA,yH,VE,aCH ⟨x%256,by omega⟩,HP,aCe ⟨x%256%64,by omega⟩];simp only;rw[show x%256%64=x%64 by omega]
theorem aD9{a b:Nat}{K:Q0}(hK:∀t w',SlAt w' U8 t 2 [u8 a,u8 b]->Ext w w'->K t w'):dK U8 2 [(.int .u8 0),(.int .u8 0)] [(0,1,u8 a),(1,1,u8 b)] w K:=by
 rw[dK];simp only[dA,cV,aB,aN,aV,aZ];refine⟨by omega,by omega,?_⟩;refine hK _ _ ⟨_,_,rfl,aU _,λe=>(by cases e),λ_=>⟨_,_,_,_,rfl,gT _ _ _ rfl,λi _=>by rw[aY];simp⟩⟩ (Chg.alloc (Chg.refl _ _) _)
theorem aD8{a b c:Nat}{K:Q0}(hK:∀t w',SlAt w' U8 t 3 [u8 a,u8 b,u8 c]->Ext w w'->K t w'):dK U8 3 [(.int .u8 0),(.int .u8 0),(.int .u8 0)] [(0,1,u8 a),(1,1,u8 b),(2,1,u8 c)] w K:=by
 rw[dK];simp only[dA,cV,aB,aN,aV,aZ];refine⟨by omega,by omega,by omega,?_⟩;refine hK _ _ ⟨_,_,rfl,aU _,λe=>(by cases e),λ_=>⟨_,_,_,_,rfl,gT _ _ _ rfl,λi _=>by rw[aY];simp⟩⟩ (Chg.alloc (Chg.refl _ _) _)
theorem aD7{a b c d:Nat}{K:Q0}(hK:∀t w',SlAt w' U8 t 4 [u8 a,u8 b,u8 c,u8 d]->Ext w w'->K t w'):dK U8 4 [(.int .u8 0),(.int .u8 0),(.int .u8 0),(.int .u8 0)] [(0,1,u8 a),(1,1,u8 b),(2,1,u8 c),(3,1,u8 d)] w K:=by
 rw[dK];simp only[dA,cV,aB,aN,aV,aZ];refine⟨by omega,by omega,by omega,by omega,?_⟩;refine hK _ _ ⟨_,_,rfl,aU _,λe=>(by cases e),λ_=>⟨_,_,_,_,rfl,gT _ _ _ rfl,λi _=>by rw[aY];simp⟩⟩ (Chg.alloc (Chg.refl _ _) _)
theorem RJ(l:List Nat)(h:∀x∈l,x<256):u8s (l.map b8)=l.map u8:=by
 unfold u8s;rw[List.map_map];apply List.map_congr_left;intro x hx;have:=h x hx;simp only[Function.comp,b8,jF,u8];rw[kI (by omega)]
section
variable [HX]
theorem VF{B r:Nat}{l:Str}{K:Q0}(hO:Own w B U8 1 v l.length (u8s l))(hB:B<=w.heap.size)(hl:l.length+4<=140737488355328)(hr:r<55296\/57343<r/\r<=1114111)
  (hK:∀v' w',Own w' B U8 1 v' (l++wrM r).length (u8s (l++wrM r))->(∀k,¬OD w B U8 k->k<w.heap.size->w'.heap[k]?=w.heap[k]?)->Chg (λk=>v.ownBlock=some k) w w'->K v' w'):
  aC P0 103 [v,.int .i32 (r:Int)] w K:=by
 have fin:∀(bs:List Nat) (t:Value) (w1:World),wrM r=bs.map b8->(∀x∈bs,x<256)->bs.length<=4->SlAt w1 U8 t bs.length (bs.map u8)->Ext w w1->eA P0 (Builtin.append_ #[89,89] 89 #[v,t]) w1 K:=by
  intro bs t w1 he hlt hlen ht hx;refine kY AY (hO.ext hx) ht (m:=bs.length) (by simp) (λu hu=>by simp only[EO]at hu;obtain⟨x,_,rfl⟩:=hu;rfl) (by omega) (by omega) (by have:=hx.size;omega) λv' w3 hO3 hc3 _=>?_;have hc:Chg (λk=>v.ownBlock=some k) w w3:=(Chg.of_ext hx).trans hc3;refine hK v' w3 ?_ (λk hk hlt=>hc.heap k hlt λe=>hk (hO.block k e)) hc;rw[CQ,he,RJ bs hlt,bG,eJ];exact hO3
 refine Xx ?_;unfold aD2;rw[pA,HZ (by omega),tR,aO];refine⟨λh=>?_,λh=>?_⟩
 ·rw[pA,yH,kI (by omega)];refine Hc λt w1 ht hx=>?_;refine fin [r] t w1 ?_ (λx hx=>by simp only[bQ]at hx;omega) (by simp) ht hx;unfold wrM;rw[aI (by omega)];rfl
 refine WV ?_;unfold aDC;rw[pA,HZ (by omega),tR,aO];refine⟨λh2=>?_,λh2=>?_⟩
 ·rw[show(6:Int)=((6:Nat):Int)from rfl,Fx r 6 (by omega),pA,yH,show r/2^6%256=r/64 by omega,HP,aCd ⟨r/64,by omega⟩,Bp];refine aD9 λt w1 ht hx=>?_;refine fin [192+r/64,128+r%64] t w1 ?_ (λx hx=>by simp only[bP,dN,lQ]at hx;omega) (by simp) ht hx;unfold wrM;rw[aE (by omega),aI (by omega)];rfl
 refine bT.cut (λs' w'=>s'=[.bool (decide (r<=65535))]/\w'=w) ?_ ?_
 ·rw[eG,aO];refine⟨λh3=>?_,λh3=>?_⟩
  ·rw[bF h3,bF (by omega)];exact⟨rfl,rfl⟩
  ·rw[eG,bF (show(57343:Int)<(r:Int)by omega)];refine GdW.look (decide (r<=65535)) (λ_ J hJ=>?_) λg=>?_
   ·rw[tR];rw[show decide ((r:Int)<=65535)=decide (r<=65535)by rw[decide_eq_decide];omega];exact hJ
   ·exact⟨rfl,rfl⟩
 rintro s' g w' ⟨rfl,rfl⟩;simp only[aG];rw[aO];refine⟨λh3=>?_,λh3=>?_⟩
 ·rw[show(12:Int)=((12:Nat):Int)from rfl,Fx r 12 (by omega),pA,yH,show r/2^12%256=r/4096 by omega,HP,aCc ⟨r/4096,by omega⟩,show(6:Int)=((6:Nat):Int)from rfl,Fx r 6 (by omega),Bp,Bp];refine aD8 λt w1 ht hx=>?_;refine fin [224+r/4096,128+r/64%64,128+r%64] t w1 ?_ (λx hx=>by simp only[bP,dN,lQ]at hx;omega) (by simp) ht hx;unfold wrM;rw[aE (by omega),aE (by omega),aI (by omega)];rfl
 rw[lW,bF (show(65535:Int)<(r:Int)by omega)];refine GdW.look true (λ_ J hJ=>?_) λg=>?_
 ·rw[tR,bF (show(r:Int)<=1114111 by omega)];exact hJ
 show aP (.bool true) _ _;rw[eF];rw[show(18:Int)=((18:Nat):Int)from rfl,Fx r 18 (by omega),pA,yH,show r/2^18%256=r/262144 by omega,HP,aCb ⟨r/262144,by omega⟩,show(12:Int)=((12:Nat):Int)from rfl,Fx r 12 (by omega),Bp,show(6:Int)=((6:Nat):Int)from rfl,Fx r 6 (by omega),Bp,Bp];refine aD7 λt w1 ht hx=>?_;refine fin [240+r/262144,128+r/4096%64,128+r/64%64,128+r%64] t w1 ?_ (λx hx=>by simp only[bP,dN,lQ]at hx;omega) (by simp) ht hx;unfold wrM;rw[aE (by omega),aE (by omega),aE (by omega)];rfl
theorem Rz{B b r:Nat}{l:Str}{K:Q0}(h:Bld w B b l)(hB:B<=w.heap.size)(hl:l.length+4<=140737488355328)(hr:r<55296\/57343<r/\r<=1114111)
  (hK:∀v w',Bld w' B b (l++wrM r)->Chg (BCh w B b) w w'->K v w'):aC P0 63 [.pointer (some ⟨b,0,none⟩),.int .i32 (r:Int)] w K:=by
 have hb:=h.base;refine aA4 ?_;unfold W63;refine HL h λv w1 h1 hO hz hc=>?_;have hc1:w1.cell? (⟨b,0,none⟩:Addr)|>.isSome:=by rw[cJ,h1];rfl
 rw[dR,bS,dY];refine⟨v,by rw[bZ,cJ,h1];rfl,?_⟩;rw[gH hO.sl,dR,bS,dY];refine⟨v,by rw[bZ,cJ,h1];rfl,?_⟩;refine VF hO (by omega) hl hr λv' w2 hO2 _ hc2=>?_;rw[dR,bS];refine LP (n:=0) h1 hO hb hc2 hO2 λw4 hb4 hc4 _=>?_;obtain⟨p,v4,h4,_,hO4,_⟩:=id hb4;rw[dR,bS,dY];refine⟨v4,by rw[bZ,cJ,h4];rfl,?_⟩;rw[gH hO4.sl,nN];exact hK _ w4 hb4 (BCh.trans hc hc4)
end
section
variable [HX]
def EE(xs:List JV)(i:Nat):Nat:=match xs[i]? with|some x=>mZ x|none=>0
def sS(xs:List JV):Nat->Nat
 |0=>0
 |n+1=>sS xs n+EE xs n
theorem BX{xs:List JV}{x:JV}(h:xs[i]?=some x):EE xs i=mZ x:=by unfold EE;rw[h]
theorem BW(x:JV)(xs:List JV):∀n,sS (x::xs) (n+1)=mZ x+sS xs n
 |0=>by simp[sS,EE]
 |n+1=>by
  rw[sS,BW x xs n,sS]
  have:EE (x::xs) (n+1)=EE xs n:=by unfold EE;rw[List.getElem?_cons_succ]
  omega
theorem MR:∀(xs:List JV) (n:Nat),n<=xs.length->sS xs n<=nI xs
 |xs,0,_=>gQ _
 |[],n+1,h=>by simp at h
 |x::xs,n+1,h=>by
  have ih:=MR xs n (by simpa using h)
  rw[BW]
  simp only[nI]
  omega
end
end
section
open Go Go.Eng Go.RowKit
variable{w:World}{K:Q0}{cs:List Value}{G:Nat->Prop}{T:TypeId}{i:Nat}{n:Nat}{v:Value}{w':World}{P:Program}{c:UInt8}{S:Nat->Prop}
def pI(v:JV)(m:Nat)(left:Int):Bool:=qF v m&&kE v&&decide ((mZ v:Int)<=left)
theorem Lk:jI []=true:=rfl
def flatK(k:Int)(t:Str):Bool:=if k=3 then Num.goodN t else if k=4 then decide (t.length<=16384)else decide (t=[])
def Ew(v:JV):Bool:=flatK v.k v.t
theorem Lt{v:JV}{m:Nat}{left:Int}(hm:m≠0)(hl:1<=left)(hb:v.b=true->v.k=2)(h0:0<=v.k)(h5:v.k<5):pI v m left=(Ew v&&(decide (v.xs.length=0)&&decide (v.ks.length=0))):=by
 cases v with
 |mk k b t xs ks=>
 simp only[JV.k,JV.b]at hb h0 h5;unfold pI;show(qF (.mk k b t xs ks) m&&(nQ k b t xs.length ks&&mV xs)&&decide ((mZ (.mk k b t xs ks):Int)<=left))=(flatK k t&&(decide (xs.length=0)&&decide (ks.length=0)));unfold flatK;by_cases hx:xs=[]
 ·subst hx;cases m with
  |zero=>exact absurd rfl hm
  |succ m=>
   by_cases hk:ks=[]
   ·subst hk;have hc:mZ (.mk k b t [] [])=1:=rfl;rw[nR,hc,bF (show((1:Nat):Int)<=left from hl)];simp only[JV.xs,Ab,mV,aN];rw[lN];simp only[nQ,Lk,kT,iJ,aL,cO,dV,bB,decide_eq_false_iff_not];constructor
    ·rintro⟨⟨⟨⟨⟨⟨⟨⟨_,_⟩,_⟩,ht⟩,_⟩,_⟩,h3⟩,h4⟩,_⟩;refine⟨?_,trivial,trivial⟩;split
     ·rename_i e;exact h3.resolve_left (λh=>h e)
     ·split
      ·rename_i e;exact bF (h4.resolve_left (λh=>h e))
      ·rcases ht with(ht|ht)|ht
       ·exact bF ht
       ·contradiction
       ·contradiction
    ·rintro⟨hf,_⟩;refine⟨⟨⟨⟨⟨⟨⟨⟨h0,by omega⟩,?_⟩,?_⟩,.inl trivial⟩,.inr trivial⟩,?_⟩,?_⟩,?_⟩
     ·cases b with
      |false=>exact .inl rfl
      |true=>exact .inr (hb rfl)
     ·by_cases e3:k=3
      ·exact .inl (.inr e3)
      ·by_cases e4:k=4
       ·exact .inr e4
       ·rw[aE e3,aE e4,decide_eq_true_iff]at hf;exact .inl (.inl hf)
     ·by_cases e3:k=3
      ·rw[aI e3]at hf;exact .inr hf
      ·exact .inl e3
     ·by_cases e4:k=4
      ·rw[aE (by omega),aI e4,decide_eq_true_iff]at hf;exact .inr hf
      ·exact .inl e4
     ·exact .inl (by omega)
   ·have h1:nQ k b t ([]:List JV).length ks=false:=by
     cases hh:nQ k b t ([]:List JV).length ks with
     |false=>rfl
     |true=>have:=(kF hh).2.2.2.2.2.1 hk;omega
    rw[h1,bY (show¬ks.length=0 fromλe=>hk (bJ e))];simp
 ·have h1:nQ k b t xs.length ks=false:=by
   cases hh:nQ k b t xs.length ks with
   |false=>rfl
   |true=>have:=(kF hh).2.2.2.2.1 (λe=>hx (bJ e));omega
  rw[h1,bY (show¬xs.length=0 fromλe=>hx (bJ e))];simp
def tN(xs:List JV)(m:Nat)(left:Int):Bool:=Ab xs m&&mV xs&&decide ((nI xs:Int)<=left)
theorem Lu{v:JV}{m:Nat}{left:Int}(hb:v.b=true->v.k=2)(hk:v.k=5/\v.ks=[]\/v.k=6/\v.ks.length=v.xs.length/\jI v.ks=true):pI v (m+1) left=(decide (v.t=[])&&tN v.xs m (left-1)):=by
 cases v with
 |mk k b t xs ks=>
 simp only[JV.k,JV.b,JV.ks,JV.xs]at hb hk;unfold pI;have hc:mZ (.mk k b t xs ks)=1+nI xs:=by simp only[mZ]
 rw[hc];show(Ab xs m&&(nQ k b t xs.length ks&&mV xs)&&decide (((1+nI xs:Nat):Int)<=left))=(decide (t=[])&&(Ab xs m&&mV xs&&decide ((nI xs:Int)<=left-1)));have hbf:b=false:=by
  cases b with
  |false=>rfl
  |true=>have:=hb rfl;omega
 subst hbf;have hh:nQ k false t xs.length ks=decide (t=[]):=by
  rw[lN];simp only[nQ,aL,cO,dV,bB,decide_eq_false_iff_not,iU];constructor
  ·rintro⟨⟨⟨⟨⟨⟨⟨⟨⟨_,_⟩,_⟩,ht⟩,_⟩,_⟩,_⟩,_⟩,_⟩,_⟩;rcases ht with(ht|ht)|ht
   ·exact ht
   ·omega
   ·omega
  ·intro ht;refine⟨⟨⟨⟨⟨⟨⟨⟨⟨by omega,by omega⟩,.inl trivial⟩,.inl (.inl ht)⟩,.inr (by omega)⟩,?_⟩,.inl (by omega)⟩,.inl (by omega)⟩,?_⟩,?_⟩
   ·rcases hk with⟨_,h⟩|⟨h,_⟩
    ·exact .inr h
    ·exact .inl h
   ·rcases hk with⟨h,_⟩|⟨_,h,_⟩
    ·exact .inl (by omega)
    ·exact .inr h
   ·rcases hk with⟨_,h⟩|⟨_,_,h⟩
    ·rw[h];rfl
    ·exact h
 rw[hh];have e:decide (((1+nI xs:Nat):Int)<=left)=decide ((nI xs:Int)<=left-1):=by rw[decide_eq_decide];omega
 rw[e];generalize decide ((nI xs:Int)<=left-1)=d4;generalize decide (t=[])=d1;generalize Ab xs m=d2;generalize mV xs=d3;cases d1<;>cases d2<;>cases d3<;>cases d4<;>rfl
theorem Jl{v:JV}{m:Nat}{left:Int}(h:m=0\/left<1\/(v.b=true/\v.k≠2)\/v.k<0\/6<v.k\/(v.k=5/\v.ks≠[])\/(v.k=6/\(v.ks.length≠v.xs.length\/jI v.ks=false))):pI v m left=false:=by
 cases hg:pI v m left with
 |false=>rfl
 |true=>
  unfold pI at hg;simp only[aL,bB]at hg;obtain⟨⟨h1,h2⟩,h3⟩:=hg;rw[mN,aL]at h2;have hh:=kF h2.1;have hc:=MQ v;rcases h with rfl|h|⟨h,h'⟩|h|h|⟨h,h'⟩|⟨h,h'|h'⟩
  ·rw[sJ]at h1;cases h1
  ·omega
  ·exact absurd (hh.2.2.1 h) h'
  ·have:=hh.1;omega
  ·have:=hh.2.1;omega
  ·have:=hh.2.2.2.2.2.1 h';omega
  ·exact absurd (hh.2.2.2.2.2.2.2.2.1 h) h'
  ·have:=hh.2.2.2.2.2.2.2.2.2;rw[h']at this;cases this
theorem _root_.Go.Eng.SlAt.keep1{p:Nat}{x:Value}{T':TypeId}{fr:Nat×Nat}(h:SlAt w T v n cs)(hp:w.heap[p]?=some (.cells [x].toArray T' fr))(hc:Chg (λk=>k=p) w w')
  (hne:cs≠[]->cs[0]?≠some x\/2<=cs.length):SlAt w' T v n cs:=by
 obtain⟨pp,cap,hv,h1,h2,h3⟩:=h;refine⟨pp,cap,hv,h1,h2,λhn=>?_⟩;obtain⟨b,off,c,fr',hpp,hb,hcs⟩:=h3 hn;refine⟨b,off,c,fr',hpp,hc.at hb ?_,hcs⟩;rintro rfl;rw[hp]at hb;simp only[bD,Obj.cells.injEq]at hb;obtain⟨rfl,_,_⟩:=hb;have hpos:0<cs.length:=dM.2 hn;have e0:=hcs 0 hpos;rw[fL]at e0;rcases hne hn with h|h
 ·have:off=0:=by
   apply fF;intro ho;rw[show([x].toArray)[off]?=none by simp;omega,List.getElem?_eq_getElem hpos]at e0;cases e0
  subst this;exact h (by rw[<-e0];rfl)
 ·have e1:=hcs 1 (by omega);rw[List.getElem?_eq_getElem (by omega),show([x].toArray)[off+1]?=none by simp]at e1;cases e1
mutual
theorem Ks{w w':World}{p:Nat}{n:Int}{T':TypeId}{fr:Nat×Nat}(hp:w.heap[p]?=some (.cells [i64 n].toArray T' fr))(hc:Chg (λk=>k=p) w w'):∀{v:JV} {cs:List Value},eR w v cs->eR w' v cs
 |.mk k b t xs ks,cs,h=>by
  simp only[eR]at h⊢
  obtain⟨sv,kv,T1,T2,L,rfl,h1,h2,h3,h4⟩:=h
  refine⟨sv,kv,T1,T2,L,rfl,h1.keep1 hp hc λhn=>.inr ?_,sY hp hc h2,h3.keep1 hp hc λhn=>.inl ?_,h4⟩
  ·have:=h2.len
   have hl:0<L.length:=dM.2 hn
   omega
  ·cases ks with
   |nil=>exact absurd rfl hn
   |cons a r=>intro e;simp at e
theorem sY{w w':World}{p:Nat}{n:Int}{T':TypeId}{fr:Nat×Nat}(hp:w.heap[p]?=some (.cells [i64 n].toArray T' fr))(hc:Chg (λk=>k=p) w w'):∀{xs:List JV} {L:List Value},eO w xs L->eO w' xs L
 |[],L,h=>by simp only[eO]at h⊢;exact h
 |x::xs,L,h=>by
  simp only[eO]at h⊢
  obtain⟨c,r,rfl,h1,h2⟩:=h
  exact⟨c,r,rfl,Ks hp hc h1,sY hp hc h2⟩
end
section
variable [HX]
theorem Ll{xs:List JV}{m:Nat}{left:Int}{x:JV}(hi:xs[i]?=some x)(h:pI x m (left-sS xs i)=false):tN xs m left=false:=by
 cases hg:tN xs m left with
 |false=>rfl
 |true=>
  unfold tN at hg;simp only[aL,bB]at hg;obtain⟨⟨h1,h2⟩,h3⟩:=hg;rw[oG,bW]at h1;rw[wA,bW]at h2;have hm:=bI hi;have hcs:=MR xs (i+1) (List.getElem?_eq_some_iff.1 hi).1;rw[sS,BX hi]at hcs;unfold pI at h;rw[h1 x hm,h2 x hm,bF (by omega)]at h;cases h
theorem QX:∀(xs:List JV),nI xs=sS xs xs.length
 |[]=>rfl
 |x::xs=>by
  rw[aB,BW,<-QX xs]
  simp only[nI]
theorem Jg{xs:List JV}{m:Nat}{left:Int}(h:∀i x,xs[i]?=some x->pI x m (left-sS xs i)=true)(hl:(nI xs:Int)<=left):tN xs m left=true:=by
 unfold tN;rw[bF hl,oG,wA,bW.2,bW.2]
 ·rfl
 ·intro x hx;obtain⟨i,hi,rfl⟩:=List.getElem_of_mem hx;have:=h i _ (List.getElem?_eq_getElem hi);unfold pI at this;simp only[aL]at this;exact this.1.2
 ·intro x hx;obtain⟨i,hi,rfl⟩:=List.getElem_of_mem hx;have:=h i _ (List.getElem?_eq_getElem hi);unfold pI at this;simp only[aL]at this;exact this.1.1
theorem Ow{g:FuncId}{args caps:List Value}{K:Q0}(h:aC P g (args++caps) w K):oI P (.func (.func g) #[] caps.toArray) args w K:=by
 unfold oI Pi;unfold aC at h;have:(do let d<-(Deferred.ofValue (.func (.func g) #[] caps.toArray) args.toArray);invoke d.target d.args:Sem Next)=callFunc g (args++caps).toArray:=by
  show callFunc g (#[]++args.toArray++caps.toArray)=_;simp
 rw[this];exact h
theorem Ec{m:Nat}(hn:n<=9223372036854775807)(hm:m<=9223372036854775807):decide (IntKind.i64.wrap ((n:Int)+(m:Int))=0)=(decide (n=0)&&decide (m=0)):=by
 have e1:(2:Int)^64=18446744073709551616:=by decide
 have e2:(2:Int)^(64-1)=9223372036854775808:=by decide
 have:IntKind.i64.wrap ((n:Int)+(m:Int))=0↔n=0/\m=0:=by
  simp only[IntKind.wrap,IntKind.bits,IntKind.signed,iJ,e1,e2];split
  ·rename_i h;simp only[ge_iff_le,bB]at h;omega
  ·rename_i h;omega
 rw[lN,decide_eq_true_iff,aL,decide_eq_true_iff,decide_eq_true_iff];exact this
theorem MV{K:Q0}(h1:gC v=true)(h:∀a w',a=w.heap.size->w'.heap.size=w.heap.size+1->w'.heap[a]?=some (.cells [v].toArray T (0,0))->Ext w w'->K (.pointer (some ⟨a,0,none⟩)) w'):eL T v w K:=by
 cases v<;>first|(simp[gC]at h1;done)|exact h _ _ rfl (by simp) (gT _ _ _ rfl) (Chg.alloc (Chg.refl _ _) _)
theorem aAd(v:JV):∀{m p:Nat} {left:Int} {w:World} {cs:List Value} {K:Q0},eR w v cs->w.heap[p]?=some (.cells [i64 left].toArray 3 (0,0))->m<=24->-1<=left->left<=2000->
  (∀r w',r=pI v m left->(r=true->w'.heap[p]?=some (.cells [i64 (left-mZ v)].toArray 3 (0,0)))->Chg (λk=>k=p) w w'->K (.bool r) w')->aC P0 101 [.agg cs.toArray,i64 (m:Int),.pointer (some ⟨p,0,none⟩)] w K:=by
 induction v using JV.ind' with
 |h v ih=>
  intro m p left w cs K h hp hm hl1 hl2 hK;refine Xy ?_;unfold aD3;refine kC h λa w1 sv kv hB hx1 ha=>?_;have hplt:=fC hp;have hp1:=hx1.at hp id;refine MV rfl λd w2 hd hz2 hd2 hx2=>?_;refine MV rfl λq w3 hq hz3 hq3 hx3=>?_;have hp3:=hx3.at (hx2.at hp1 id) id;have hB3:=hB.ext (hx2.trans hx3);have hd3:=hx3.at hd2 id;have hx13:=(hx1.trans hx2).trans hx3;simp only[wsv,wsg,wsh,wsl,aM,aK,aD,eV,Nat.reduceAdd,Nat.reduceLT,aF,aA,aJ,aH,bN,reduceCtorEq,wsh,hq3,hp3];have ew:IntKind.i64.wrap (left-1)=left-1:=cQ (by omega) (by omega);refine jD (off:=0) hp3 rfl (by simp) λw4 hz4 hp4 hc4=>?_;have s1:=hx1.size;have s2:=hx2.size;have hq4:=hc4.at hq3 (by omega);have hd4:=hc4.at hd3 (by omega);have hb4:=hc4.at hB3.hb (by omega);rw[show([i64 left].toArray.setIfInBounds 0 (i64 (IntKind.i64.wrap (left-1))))=[i64 (left-1)].toArray by rw[ew];rfl]at hp4;have hcw:Chg (λk=>k=p) w w4:=(Chg.of_ext hx13).trans hc4;obtain⟨Tk,hks3⟩:=hB3.keys;have hks4:SlAt w4 Tk kv v.ks.length (v.ks.map str):=hks3.keep1 hp3 hc4 λhn=>.inl (by
   cases hkk:v.ks with
   |nil=>rw[hkk]at hn;exact absurd rfl hn
   |cons a r=>intro e;simp at e)
  obtain⟨Ti,L,hit,hreps⟩:=hB3.items;have hit4:SlAt w4 Ti sv v.xs.length L:=hit.keep1 hp3 hc4 λhn=>.inr (by
   have:=hreps.len;have hl:0<L.length:=dM.2 hn;omega)
  have hreps4:eO w4 v.xs L:=sY hp3 hc4 hreps;obtain⟨f1,f2,f3,f4⟩:=hB3.fits;have lx:∀KK:Value->Prop,dF sv KK↔KK (i64 v.xs.length):=λKK=>gH hit KK;have lk:∀KK:Value->Prop,dF kv KK↔KK (i64 v.ks.length):=λKK=>hB3.lenk KK;simp only[wsv,wsg,wsh,wsl,aM,aK,aD,eV,Nat.reduceAdd,Nat.reduceLT,aF,aA,aJ,aH,bN,reduceCtorEq,wsh,hq4,hp4,hd4,hb4];intro g1 g2 g3 g4;rw[bR];refine⟨λhbad=>hK false w4 ?_ (λe=>by cases e) hcw,λhok=>?_⟩
  ·rw[Jl];simp only[cO,aL,bB]at hbad;rcases hbad with(h|h)|⟨h,h'⟩
   ·exact .inl (by omega)
   ·exact .inr (.inl (by omega))
   ·exact .inr (.inr (.inl ⟨h,h'⟩))
  have hm0:m≠0:=λe=>by rw[bF (show(m:Int)=0 by omega)]at hok;cases hok
  have hl0:1<=left:=by
   rcases Int.lt_or_le (left-1) 0 with h|h
   ·rw[bF h]at hok;simp at hok
   ·omega
  have hbk:v.b=true->v.k=2:=λe=>by
   rw[e]at hok;simp only[jM,iJ,decide_eq_false_iff_not,zP]at hok;exact hok.2
  have flat:∀w',Ext w4 w'->0<=v.k->v.k<5->K (.bool (Ew v&&(decide (v.xs.length=0)&&decide (v.ks.length=0)))) w':=λw' e h0 h5=>by
   refine hK _ w' (Lt hm0 hl0 hbk h0 h5).symm (λhr=>?_) (hcw.then e λ_ _ e=>e.elim);simp only[aL,bB]at hr;have hx0:v.xs=[]:=bJ hr.2.1;have hc1:mZ v=1:=by
    rw[v.eta,hx0];rfl
   rw[hc1];exact e.at hp4 id
  have no:(v.k<0\/6<v.k\/(v.k=5/\v.ks≠[])\/(v.k=6/\(v.ks.length≠v.xs.length\/jI v.ks=false)))->K (.bool false) w4:=λh=>hK false w4 (Jl (.inr (.inr (.inr h)))).symm (λe=>by cases e) hcw;obtain⟨m',rfl⟩:∃m',m=m'+1:=⟨m-1,by omega⟩;refine bT.cut (λs' w'=>s'=[]/\w'=w4/\(v.k=5/\v.ks=[]\/v.k=6/\v.ks.length=v.xs.length/\jI v.ks=true)) ?_ ?_
  ·refine bT.cut (λs' w'=>s'=[.bool (decide (v.k=0\/v.k=1\/v.k=2))]/\w'=w4) ?_ ?_
   ·rw[aO];refine⟨λh=>?_,λh=>?_⟩
    ·rw[bF h,bF (.inl h)];exact⟨rfl,rfl⟩
    ·rw[aO];refine⟨λh1=>?_,λh1=>?_⟩
     ·rw[bF h1,bF (.inr (.inl h1))];exact⟨rfl,rfl⟩
     ·rw[show decide (v.k=2)=decide (v.k=0\/v.k=1\/v.k=2)by rw[decide_eq_decide];omega];exact⟨rfl,rfl⟩
   rintro s' g w5 ⟨rfl,rfl⟩;simp only[wsv,wsg,wsh,wsl,aM,aK,aD,eV,Nat.reduceAdd,Nat.reduceLT,aF,aA,aJ,aH,bN,reduceCtorEq,wsh,hb4,lx,lk,aO];refine⟨λh012=>?_,λh012=>?_⟩
   ·intro g5;have:=flat w5 (Chg.refl _ _) (by omega) (by omega);unfold Ew flatK at this;rw[aE (by omega),aE (by omega)]at this;rw[Ec f1 f2];exact this
   refine⟨λh3=>?_,λh3=>?_⟩
   ·refine kW f3 λw6 hx6=>?_;have hb6:=hx6.at hb4 id;have:=flat w6 hx6 (by omega) (by omega);unfold Ew flatK at this;rw[aI h3]at this;simp only[wsv,wsg,wsh,wsl,aM,aK,aD,eV,Nat.reduceAdd,Nat.reduceLT,aF,aA,aJ,aH,bN,reduceCtorEq,wsh,hb6,lx,lk];intro g6;rw[Ec f1 f2];exact this
   refine⟨λh4=>?_,λh4=>?_⟩
   ·intro g6;have:=flat w5 (Chg.refl _ _) (by omega) (by omega);unfold Ew flatK at this;rw[aE h3,aI h4]at this;rw[Ec f1 f2];rw[show decide ((v.t.length:Int)<=16384)=decide (v.t.length<=16384)by rw[decide_eq_decide];omega];exact this
   refine⟨λh5=>?_,λh5=>?_⟩
   ·refine⟨λhk=>no (.inr (.inr (.inl ⟨h5,λe=>by rw[e]at hk;simp at hk⟩))),λhk=>.inl ⟨h5,bJ (by omega)⟩⟩
   refine⟨λh6=>?_,λh6=>no (by omega)⟩;refine⟨λhne=>no (.inr (.inr (.inr ⟨h6,.inl (by omega)⟩))),λheq=>?_⟩;refine mO v.ks.length (λi w'=>w'=w5/\(∀j a,j<i->v.ks[j]?=some a->a.length<=16384)/\(∀j a b,j+1<i->v.ks[j]?=some a->v.ks[j+1]?=some b->Op.bytesLess a b=true)) ⟨rfl,λj a h=>by omega,λj a b h=>by omega⟩ ?_ ?_
   ·rintro i w6 g6 L6 hi ⟨rfl,hl,hs⟩ hL;obtain⟨u,hu⟩:∃u,v.ks[i]?=some u:=⟨_,List.getElem?_eq_getElem hi⟩;have hlt:((i:Int)<(v.ks.length:Int)):=by omega
    simp only[wsv,wsg,wsh,wsl,aM,aK,aD,eV,Nat.reduceAdd,Nat.reduceLT,aF,aA,aJ,aH,bN,reduceCtorEq,hlt];refine nL hks4 hu ?_;have hnext:u.length<=16384->(∀x,0<i->v.ks[i-1]?=some x->Op.bytesLess x u=true)->L6 [i64 ((i+1:Nat):Int)] w6:=λh1 h2=>by
     refine hL _ ⟨rfl,λj a hj ha=>?_,λj a b hj ha hb=>?_⟩
     ·rcases dL j i with h|h
      ·exact hl j a h ha
      ·obtain rfl:j=i:=by omega
       rw[hu]at ha;cases ha;exact h1
     ·rcases dL (j+1) i with h|h
      ·exact hs j a b h ha hb
      ·obtain rfl:i=j+1:=by omega
       rw[hu]at hb;cases hb;exact h2 a (by omega) (by simpa using ha)
    by_cases hlong:16384<u.length
    ·have e:decide ((16384:Int)<(u.length:Int))=true:=bF (by omega);simp only[wsv,wsg,wsh,wsl,aM,aK,aD,eV,Nat.reduceAdd,Nat.reduceLT,aF,aA,aJ,aH,bN,reduceCtorEq,e];intros;exact no (.inr (.inr (.inr ⟨h6,.inr (Jd hu hlong)⟩)))
    ·have e:decide ((16384:Int)<(u.length:Int))=false:=bY (by omega);by_cases h0:i=0
     ·subst h0;have e0:decide ((0:Int)<((0:Nat):Int))=false:=by decide
      simp only[wsv,wsg,wsh,wsl,aM,aK,aD,eV,Nat.reduceAdd,Nat.reduceLT,aF,aA,aJ,aH,bN,reduceCtorEq,e,e0];rw[up1 (by omega)];intros;exact hnext (by omega) λx h=>by omega
     ·obtain⟨j,rfl⟩:∃j,i=j+1:=⟨i-1,by omega⟩;obtain⟨x,hxj⟩:∃x,v.ks[j]?=some x:=⟨_,List.getElem?_eq_getElem (by omega)⟩;have e0:decide ((0:Int)<((j+1:Nat):Int))=true:=bF (by omega);have hw:IntKind.i64.wrap (((j+1:Nat):Int)-1)=((j:Nat):Int):=by rw[cQ (by omega) (by omega)];omega
      simp only[wsv,wsg,wsh,wsl,aM,aK,aD,eV,Nat.reduceAdd,Nat.reduceLT,aF,aA,aJ,aH,bN,reduceCtorEq,e,e0,hw];intro g7;refine GdW.look (!Op.bytesLess x u) (λ_ J hJ=>?_) λg8=>?_
      ·rw[hb4];refine⟨kv,rfl,?_⟩;refine nL hks4 hxj ?_;rw[MX];exact hJ
      intro g9;simp only[aG,aM];rw[bR];refine⟨λhge=>no (.inr (.inr (.inr ⟨h6,.inr (Lj hxj hu (by simpa using hge))⟩))),λhlt2=>?_⟩;rw[up1 (by omega)];exact hnext (by omega) λy _ hy=>by
       have:v.ks[j]?=some y:=by simpa using hy
       rw[hxj]at this;cases this;simpa using hlt2
   ·rintro w6 g6 L6 ⟨rfl,hl,hs⟩;have hkeys:jI v.ks=true:=NP (λi a h=>hl i a (List.getElem?_eq_some_iff.1 h).1 h) (λi a b h1 h2=>hs i a b (List.getElem?_eq_some_iff.1 h2).1 h1 h2);simp only[wsv,wsg,wsh,wsl,aM,aK,aD,eV,Nat.reduceAdd,Nat.reduceLT,aF,aA,aJ,aH,bN,reduceCtorEq,fD];exact .inr ⟨h6,by omega,hkeys⟩
  ·rintro s' g w5 ⟨rfl,rfl,hk⟩;simp only[wsv,wsg,wsh,wsl,aM,aK,aD,eV,Nat.reduceAdd,Nat.reduceLT,aF,aA,aJ,aH,bN,reduceCtorEq,wsh,hb4];refine GdW.act (tN v.xs m' (left-1)) (λw'=>Chg (λk=>k=p) w5 w'/\(decide (v.t=[])=true->tN v.xs m' (left-1)=true->w'.heap[p]?=some (.cells [i64 (left-1-nI v.xs)].toArray 3 (0,0)))) (λe=>⟨Chg.refl _ _,λe'=>by rw[e]at e';cases e'⟩) ?_ ?_
   ·intro ht J hJ;refine HU ?_;unfold Xi;refine HT ?_;unfold WK;rw[lx];refine mO v.xs.length (λi w'=>Chg (λk=>k=p) w5 w'/\w'.heap[p]?=some (.cells [i64 (left-1-sS v.xs i)].toArray 3 (0,0))/\(∀j x,j<i->v.xs[j]?=some x->pI x m' (left-1-sS v.xs j)=true)/\SlAt w' Ti sv v.xs.length L/\eO w' v.xs L/\(sS v.xs i:Int)<=left-1) ⟨Chg.refl _ _,by simpa[sS]using hp4,λj x h=>by omega,hit4,hreps4,by simp[sS];omega⟩ ?_ ?_
    ·rintro i w6 g6 L6 hi ⟨hc6,hp6,hall,hit6,hreps6,hcs6⟩ hL;obtain⟨x,hxi⟩:∃x,v.xs[i]?=some x:=⟨_,List.getElem?_eq_getElem hi⟩;have hlt:((i:Int)<(v.xs.length:Int)):=by omega
     simp only[wsv,wsg,wsh,wsl,aM,aK,aD,eV,Nat.reduceAdd,Nat.reduceLT,aF,aA,aJ,aH,bN,reduceCtorEq,hlt];refine Hy hit6 hreps6 hxi λcs6 hr6=>?_;refine Ow (caps:=[.pointer (some ⟨d,0,none⟩),.pointer (some ⟨q,0,none⟩)]) ?_;refine WW ?_;unfold aDD;refine kC hr6 λb7 w7 sv7 kv7 hB7 hx7 hb7=>?_;refine hB7.ld λcs7 hr7=>?_;have hd6:=hc6.at hd4 (by omega);have hq6:=hc6.at hq4 (by omega);have hd7:=hx7.at hd6 id;have hq7:=hx7.at hq6 id;have hp7:=hx7.at hp6 id;have hw:IntKind.i64.wrap (((m'+1:Nat):Int)-1)=((m':Nat):Int):=by rw[cQ (by omega) (by omega)];omega
     simp only[wsv,wsg,wsh,wsl,aM,aK,aD,eV,Nat.reduceAdd,Nat.reduceLT,aF,aA,aJ,aH,bN,reduceCtorEq,wsh,hd7,hq7,hw];refine ih x (bI hxi) hr7 hp7 (by omega) (by omega) (by omega) λr w8 hr8 hp8 hc8=>?_;simp only[wsv,wsg,wsh,wsl,aM,aK,aD,eV,Nat.reduceAdd,Nat.reduceLT,aF,aA,aJ,aH,bN,reduceCtorEq,bR];have hc68:Chg (λk=>k=p) w6 w8:=(Chg.of_ext hx7).trans hc8;have hc58:=hc6.trans hc68;refine⟨λhbad=>?_,λhgood=>?_⟩
     ·have hrf:r=false:=by simpa using hbad
      rw[bF (show(0:Int)<=(i:Int)by omega)];have:=Ll hxi (show pI x m' (left-1-sS v.xs i)=false by rw[<-hr8];exact hrf);rw[this]at hJ;exact hJ w8 ⟨hc58,λ_ e=>by cases e⟩
     ·have hrt:r=true:=by simpa using hgood
      have hg:=hr8;rw[hrt]at hg;have hcx:(mZ x:Int)<=left-1-sS v.xs i:=by
       unfold pI at hg;have:=hg.symm;simp only[aL,bB]at this;exact this.2
      rw[up1 (by omega)];refine hL w8 ⟨hc58,?_,?_,?_,?_,?_⟩
      ·rw[sS,BX hxi];have e:left-1-((sS v.xs i:Nat):Int)-((mZ x:Nat):Int)=left-1-((sS v.xs i+mZ x:Nat):Int):=by omega
       rw[hp8 hrt,e]
      ·intro j y hj hy;rcases dL j i with h|h
       ·exact hall j y h hy
       ·obtain rfl:j=i:=by omega
        rw[hxi]at hy;cases hy;exact hg.symm
      ·exact(hit6.ext hx7).keep1 hp7 hc8 λhn=>.inr (by
        have:=hreps.len;have hl:0<L.length:=dM.2 hn;omega)
      ·exact sY hp7 hc8 (hreps6.ext hx7)
      ·rw[sS,BX hxi];omega
    ·rintro w6 g6 L6 ⟨hc6,hp6,hall,hit6,hreps6,hcs6⟩;simp only[wsv,wsg,wsh,wsl,aM,aK,aD,eV,Nat.reduceAdd,Nat.reduceLT,aF,aA,aJ,aH,bN,reduceCtorEq,fD];rw[<-QX]at hp6 hcs6;have:=Jg (λi x h=>hall i x (List.getElem?_eq_some_iff.1 h).1 h) hcs6;have hj:=hJ w6 ⟨hc6,λ_ _=>hp6⟩;rw[this]at hj;exact hj
   ·rintro g6 w6 ⟨hc6,hp6⟩;simp only[wsv,wsg,wsh,wsl,aM,aK,aD,eV,Nat.reduceAdd,Nat.reduceLT,aF,aA,aJ,aH,bN,reduceCtorEq];refine hK _ w6 (Lu hbk hk).symm (λhr=>?_) (hcw.trans hc6);simp only[aL,bB]at hr;rw[hp6 (bF hr.1) hr.2];have:mZ v=1+nI v.xs:=by cases v;simp only[mZ,JV.xs]
    have e:left-1-((nI v.xs:Nat):Int)=left-((1+nI v.xs:Nat):Int):=by omega
    rw[this,e]
end
end
section
open Go Go.Eng Go.RowKit
variable{w:World}{K:Q0}{cs:List Value}{G:Nat->Prop}{T:TypeId}{i:Nat}{n:Nat}{v:Value}{w':World}{P:Program}{c:UInt8}{S:Nat->Prop}
theorem KD(xs:List JV){n:Int}(h:2000<n):lA xs n=n:=by
 cases xs with
 |nil=>rfl
 |cons x xs=>simp only[lA];rw[aE (by omega)]
theorem Pd:∀(m:Nat),m<=24->∀(v:JV),qF v m=true->(qA v<=2000->qA v=mZ v)/\((mZ v:Int)<=2000->qA v=mZ v):=by
 intro m;induction m with
 |zero=>intro _ v h;rw[sJ]at h;cases h
 |succ m ih=>
  intro hm v h;rw[nR,oG,bW]at h;have lst:∀(xs:List JV),(∀x∈xs,qF x m=true)->∀n:Int,1<=n->(lA xs n<=2000->lA xs n=n+nI xs)/\(n+(nI xs:Int)<=2000->lA xs n=n+nI xs):=by
   intro xs;induction xs with
   |nil=>intro _ n _;simp[lA,nI]
   |cons x xs ihx=>
    intro hx n hn;have hxd:=hx x bC;obtain⟨b1,b2⟩:=Ad m (by omega) x hxd;obtain⟨c1,c2⟩:=ih (by omega) x hxd;have hc:=MQ x;simp only[lA,nI];by_cases h2:n<=2000
    ·rw[aI h2,cQ (by omega) (by omega)];obtain⟨d1,d2⟩:=ihx (λy hy=>hx y (aS _ hy)) (n+qA x) (by omega);constructor
     ·intro hs;have hy:n+qA x<=2000:=by
       apply fF;intro hno;rw[KD xs (by omega)]at hs;omega
      have e:=c1 (by omega);rw[d1 hs,e];omega
     ·intro hs;have e:=c2 (by omega);rw[d2 (by omega),e];omega
    ·rw[aE h2];constructor
     ·intro hs;omega
     ·intro hs;omega
  obtain⟨d1,d2⟩:=lst v.xs h 1 (by omega);have hc:mZ v=1+nI v.xs:=by cases v;simp only[mZ,JV.xs]
  rw[uR,hc];constructor
  ·intro hs;rw[d1 hs];omega
  ·intro hs;rw[d2 (by omega)];omega
theorem Ve(v:JV):pI v 24 2000=dX v:=by
 unfold pI dX;cases hd:qF v 24 with
 |false=>simp
 |true=>
  obtain⟨c1,c2⟩:=Pd 24 (aU _) v hd;have:decide ((mZ v:Int)<=2000)=decide (qA v<=2000):=by
   rw[decide_eq_decide];constructor
   ·intro h;rw[c2 h];exact h
   ·intro h;rw[<-c1 h];exact h
  rw[this];cases decide (qA v<=2000)<;>cases kE v<;>rfl
theorem Bld.isb{B b:Nat}{l:Str}(h:Bld w B b l):Lib.IsBuilderF BdT U8 B b (Lib.byteCells l) w:=by
 obtain⟨p,v,h1,h2,h3,h4⟩:=h;have hO:w.ownsRow B U8 1 v (u8s l).length (u8s l):=by rw[pJ];exact h3
 have:Lib.BuilderAt BdT U8 B b p (u8s l) w:=⟨h4,v,h1,hO,λe=>Ka h1 (h3.block b e)⟩;rcases h2 with rfl|rfl
 ·exact .inl (Lib.BuilderAtF.of this)
 ·exact .inr (Lib.BuilderAtF.of this)
section
variable [HX]
theorem GT{v:JV}{K:Q0}(h:eR w v cs)(hK:∀w',Ext w w'->K (.bool (dX v)) w'):aC P0 61 [.agg cs.toArray] w K:=by
 refine aA6 ?_;unfold W61;refine kC h λa w1 sv kv hB hx1 ha=>?_;refine bE λp w2 hp hz2 hb2 hx2=>?_;refine jD (off:=0) hb2 rfl (by simp) λw3 hz3 hb3 hc3=>?_;have hx3:Ext w1 w3:=hx2.new hc3 (by omega);have hp3:w3.heap[p]?=some (.cells [i64 2000].toArray 3 (0,0)):=by rw[hb3];rfl
 refine(hB.ext hx3).ld λcs2 h2=>?_;refine aAd v h2 hp3 (m:=24) (by omega) (by omega) (by omega) λr w4 hr _ hc4=>?_;rw[hr,Ve];have s1:=hx1.size;exact hK w4 ((hx1.trans hx3).then hc4 λk hk e=>by omega)
end
end
section
open Go Go.Eng Go.Num Go.RowKit
variable{w:World}{K:Q0}{cs:List Value}{G:Nat->Prop}{T:TypeId}{i:Nat}{n:Nat}{v:Value}{w':World}{P:Program}{c:UInt8}{S:Nat->Prop}
theorem Jt{v:JV}(h:eR w v cs)(hx:v.xs=[])(hk:v.ks=[]):cL G w v cs:=by
 obtain⟨sv,kv,T1,T2,L,rfl,h1,h2,h3,h4⟩:=h.out;rw[hx]at h2;simp only[eO]at h2;subst h2;refine cL.mk h1 (by rw[hx];simp[dJ]) h3 h4 (λe=>absurd rfl e) (λe=>by rw[hk]at e;simp at e)
section
variable [HX]
theorem aCn{v:JV}{k:Str}{K:Q0}(h:eR w v cs)(k6:v.k=6)(hl:v.ks.length=v.xs.length)(hfew:zL v=true)(hr:XA v.ks)
  (hK:∀cs' w',Ext w w'->cL (Av w.heap.size) w' ((EU v k).getD JV.null) cs'->K (.tuple #[.agg cs'.toArray,.bool (EU v k).isSome]) w'):aC P0 120 [.agg cs.toArray,str k] w K:=by
 have hfew2:=hfew;rw[AW,AX]at hfew2;simp only[aL,bB,bW]at hfew2;obtain⟨⟨f1,f2⟩,f3⟩:=hfew2;refine Xl ?_;unfold aDR;refine kC h λa w1 sv kv hB hx _=>?_;refine bE λb w2 hb hz2 hbb hx2=>?_;have hB0:=hB;have hB:=hB.ext hx2;have hgb:w1.heap.size<=b:=by omega
 have s1:=hx.size;simp only[wsv,wsg,wsh,wsl,aM,aK,aD,eV,Nat.reduceAdd,Nat.reduceLT,aF,aA,aJ,aH,bN,reduceCtorEq,wsh,hB.hb];obtain⟨T2,hk2⟩:=hB.keys;refine Pj hk2 f2 hr λi hi0 _ _ hile=>?_;have e6:decide (v.k=6)=true:=bF k6;cases hx0:xS v.ks k with
 |none=>
  have hg:EU v k=none:=by unfold EU;rw[aI k6,hx0]
  rw[hg]at hK;simp only[Option.isSome_none];simp only[wsv,wsg,wsh,wsl,aM,aK,aD,eV,Nat.reduceAdd,Nat.reduceLT,aF,aA,aJ,aH,bN,reduceCtorEq,wsh,hB.hb,e6];intros
  (try simp only[wsv,wsg,wsh,wsl,aM,aK,aD,eV,Nat.reduceAdd,Nat.reduceLT,aF,aA,aJ,aH,bN,reduceCtorEq,wsh,hB.hb,e6])
  exact Dy (w0:=w) (K:=λr w=>K (.tuple #[r,.bool false]) w) hbb rfl (by omega) (hx.trans hx2) (gU (k:=0) (b:=false) (t:=[]) (by simp)) λw4 hx4 h4=>hK _ w4 hx4 h4
 |some j=>
  obtain rfl:j=i:=by
   rcases hi0 with h|h
   ·rw[h]at hx0;cases hx0
   ·rw[h]at hx0;exact(fI hx0).symm
  obtain⟨x,hxi⟩:∃x,v.xs[j]?=some x:=⟨_,List.getElem?_eq_getElem (by
   have:=(List.getElem?_eq_some_iff.1 (yZ hx0)).1;omega)⟩
  have hg:EU v k=some x:=by unfold EU;rw[aI k6,hx0];exact hxi
  rw[hg]at hK;simp only[Option.isSome_some];simp only[wsv,wsg,wsh,wsl,aM,aK,aD,eV,Nat.reduceAdd,Nat.reduceLT,aF,aA,aJ,aH,bN,reduceCtorEq,wsh,hB.hb,e6];intros
  (try simp only[wsv,wsg,wsh,wsl,aM,aK,aD,eV,Nat.reduceAdd,Nat.reduceLT,aF,aA,aJ,aH,bN,reduceCtorEq,wsh,hB.hb,e6])
  refine hB0.item_old hx2 hxi λcs2 h2=>?_;refine MS x (f3 x (bI hxi)) (h2.ext hx2) λcs3 w3 hx3 h3=>?_;exact Dy (w0:=w) (K:=λr w=>K (.tuple #[r,.bool true]) w) (hx3.at hbb id) rfl (by omega) (hx.trans (hx2.trans hx3)) (h3.at (by have:=fC hbb;omega) (by omega)) λw4 hx4 h4=>hK _ w4 hx4 h4
theorem Qq{b o off:Nat}{c:Array Value}{fr:Nat×Nat}{u:Value}{K:Value->Prop}(hb:w.heap[b]?=some (.cells c T fr))(hg:∀j,j<5->c[o+j]?=cs[j]?)(ho:off<5)(hu:cs[off]?=some u)(hK:K u):
  ldW false 1 (.pointer (some ⟨b,o+off,none⟩)) w K:=by
 rw[dY];exact⟨u,by rw[cJ,hb,cP,hg off ho,hu],hK⟩
theorem vtx{v:JV}(h:eR w v cs):cs[2]?=some (str v.t):=by obtain⟨sv,kv,T1,T2,L,rfl,_⟩:=h.out;rfl
end
theorem QZ(a b:Str):mP a b=0\/mP a b=1\/mP a b=-1:=by
 unfold mP;split
 ·simp only;split
  ·exact .inl rfl
  ·split
   ·exact .inr (.inr rfl)
   ·exact .inr (.inl rfl)
 ·exact .inl rfl
section
variable [HX]
theorem Qd{a:List JV}{sg:Int}{sv:Value}{K:Q0}(hsg:sg=1\/sg=-1)(h:dS w sv a)(hne:a≠[])(hl:a.length<=1000000)(hs:∀x∈a,x.t.length<=1000000/\x.xs=[]/\x.ks=[])(hK:DoK (some (AM sg a)) w K):
  aC P0 170 [sv,i64 sg] w K:=by
 refine WH ?_;unfold aDs;refine bE λb w1 hb hz1 hbb hx1=>?_;obtain⟨x0,r0,hxr⟩:∃x r,a=x::r:=by
  cases a with
  |nil=>exact absurd rfl hne
  |cons x r=>exact⟨x,r,rfl⟩
 have hx0:a[0]?=some x0:=by rw[hxr];rfl
 refine(h.ext hx1).at' (i:=0) rfl hx0 λcs hcs=>?_;refine bE λp w2 hp hz2 hbp hx2=>?_;refine cA hbp hcs.len rfl hcs.all_one λw3 hz3 hbp3 hc3=>?_;have hx13:Ext w1 w3:=hx2.new hc3 (by omega);rw[h.len];have hm0:x0∈a:=bI hx0;refine mO a.length (λi w'=>∃cs best,best=(a.take i).foldl (λb x=>if 0<mP x.t b.t*sg then x else b) x0/\best∈a/\Ext w1 w'/\w'.heap[p]?=some (.cells cs.toArray VT (0,0))/\cL (λ_=>False) w' best cs)
  ⟨cs,x0,rfl,hm0,hx13,hbp3,cL.ext' (Jt hcs (hs _ hm0).2.1 (hs _ hm0).2.2) hx13⟩ ?_ ?_
 ·rintro i w5 g L hi ⟨cs5,best,hbest,hbm,hx5,hp5,hV5⟩ hL;obtain⟨x,hxi⟩:∃x,a[i]?=some x:=⟨_,List.getElem?_eq_getElem hi⟩;have hxm:x∈a:=bI hxi;have hltI:(i:Int)<(a.length:Int):=by omega
  simp only[aG];rw[eG,bF hltI,eF];refine bT.cut (λst w'=>∃cs best',best'=(a.take (i+1)).foldl (λb x=>if 0<mP x.t b.t*sg then x else b) x0/\best'∈a/\Ext w1 w'/\w'.heap[p]?=some (.cells cs.toArray VT (0,0))/\cL (λ_=>False) w' best' cs) ?_ ?_
  ·have etk:a.take (i+1)=a.take i++[x]:=by rw[dU,hxi];rfl
   rw[etk,List.foldl_append,<-hbest];simp only[CK,List.foldl_nil];refine((h.ext hx1).ext hx5).at hxi λds hds=>?_;refine bE λq w6 hq hz6 hbq hx6=>?_;refine cA hbq hds.len rfl hds.all_one λw7 hz7 hbq7 hc7=>?_;have hlp:=fC hp5;have hx57:Ext w5 w7:=hx6.new hc7 (by omega);have hp7:=hx57.at hp5 id;have hd2:=vtx hds;have hb2:=vtx hV5.rep;rw[bS,bZ];refine Qq (o:=0) (cs:=ds) hbq7 (λj _=>by simp) (by omega) hd2 ?_;rw[bS,bZ];refine Qq (o:=0) (cs:=cs5) hp7 (λj _=>by simp) (by omega) hb2 ?_;have t1:=(hs x hxm).1;have t2:=(hs best hbm).1;refine Aj (by omega) (by omega) λw9 hx9=>?_;have hcl:=QZ x.t best.t;have ew:IntKind.i64.wrap (mP x.t best.t*sg)=mP x.t best.t*sg:=by
    refine cQ ?_ ?_<;>rcases hcl with e|e|e<;>rcases hsg with f|f<;>rw[e,f]<;>decide
   rw[Df,ew,lW,aO];have hx59:=hx57.trans hx9;refine⟨λhgt=>?_,λhle=>?_⟩
   ·rw[aI hgt];refine bX (hx9.at hbq7 id) hds.len ?_;refine cA (hx9.at hp7 id) hds.len hV5.rep.len hds.all_one λw10 hz10 hbp10 hc10=>?_;refine⟨ds,x,rfl,hxm,(hx5.trans hx59).new hc10 (by omega),hbp10,?_⟩;exact cL.chg hc10 (λ_ f=>f.elim) ((Jt hds (hs _ hxm).2.1 (hs _ hxm).2.2).ext' hx59)
   ·rw[aE hle];exact⟨cs5,best,rfl,hbm,hx5.trans hx59,hx59.at hp5 id,hV5.ext' hx59⟩
  ·rintro st g' w11 hI;rw[cG,up1 (by omega)];exact hL w11 hI
 ·rintro w5 g L ⟨cs5,best,hbest,hbm,hx5,hp5,hV5⟩;simp only[aG];rw[eG,bY (fD _),dD];rw[bO]at hbest;refine bX hp5 hV5.rep.len ?_;refine zE (v:=best) ?_ (hx5.at hbb id) rfl (by omega) (hx1.trans hx5) (hV5.mono λ_ _ f=>f.elim) hK;rw[hbest];unfold AM;have:a.headD JV.null=x0:=by rw[hxr];rfl
  rw[this]
theorem aCk{a:List JV}{sv:Value}{K:Q0}(h:dS w sv a)(hne:a≠[])(hl:a.length<=1000000)(hs:∀x∈a,x.t.length<=1000000/\x.xs=[]/\x.ks=[])(hK:DoK (some (AM 1 a)) w K):
  aC P0 169 [sv] w K:=by
 refine WI ?_;unfold aDt;refine bE λb w1 hb hz1 hbb hx1=>?_;refine Qd (.inl rfl) (h.ext hx1) hne hl hs λcs v ok w2 hx2 hV hr=>?_;simp only[bK];refine⟨_,rfl,_,rfl,?_⟩;have hlb:=fC hbb;exact Dy (w0:=w) (K:=λr w=>K (.tuple #[r,.bool ok]) w) (hx2.at hbb id) rfl (by omega) (hx1.trans hx2) (hV.at hlb (by omega)) λw' hx' h'=>hK _ _ ok w' hx' h' hr
theorem aCj{a:List JV}{sv:Value}{K:Q0}(h:dS w sv a)(hne:a≠[])(hl:a.length<=1000000)(hs:∀x∈a,x.t.length<=1000000/\x.xs=[]/\x.ks=[])(hK:DoK (some (AM (-1) a)) w K):
  aC P0 172 [sv] w K:=by
 refine WG ?_;unfold aDr;refine bE λb w1 hb hz1 hbb hx1=>?_;refine Qd (.inr rfl) (h.ext hx1) hne hl hs λcs v ok w2 hx2 hV hr=>?_;simp only[bK];refine⟨_,rfl,_,rfl,?_⟩;have hlb:=fC hbb;exact Dy (w0:=w) (K:=λr w=>K (.tuple #[r,.bool ok]) w) (hx2.at hbb id) rfl (by omega) (hx1.trans hx2) (hV.at hlb (by omega)) λw' hx' h'=>hK _ _ ok w' hx' h' hr
end
section
variable [HX]
theorem dS.at_old{w0:World}{sv:Value}{xs:List JV}{k:IntKind}{x:JV}{K:Value->Prop}(h:dS w0 sv xs)(hx:Ext w0 w)(hi:xs[i]?=some x)(hK:∀cs,eR w0 x cs->K (.agg cs.toArray)):dG none 5 sv (.int k i) λp=>ldW true 5 p w K:=by
 obtain⟨T,L,h1,h2⟩:=h.it;obtain⟨cs,hc,hg⟩:=h2.get hi;refine qO (size:=5) (h1.ext hx) h2.len (by omega) (List.getElem?_eq_some_iff.1 hi).1 λb o c fr hb hcc=>?_;exact vG hb hc.len (λj hj=>(hcc j hj).trans (hg j hj)) (hK cs hc)
def Hk(a:List JV):List (Str×JV):=(a.map λx=>x.ks.zip x.xs).flatten
end
section
variable [HX]
theorem aBZ(l:Str):∀n,Lib.repeatL l n=(List.replicate n l).flatten
 |0=>rfl
 |n+1=>by rw[Lib.repeatL,aBZ l n,vR,zN]
theorem Iz{s:Str}{K:Q0}(hs:s.length<=1000)(hn:n<=1000000)(hK:∀w',Ext w w'->K (str (List.replicate n s).flatten) w'):aC P0 183 [str s,i64 (n:Nat)] w K:=by
 refine gS (args:=#[str s,i64 (n:Nat)]) Tryz.call183 ((Tryz.strings_Repeat (ofL s) n w (by omega) (by rw[fH];exact cD (mR hs hn) (by decide))).mono ?_);rintro e w' ⟨rfl,hb⟩;rw[eQ,aBZ];exact⟨_,rfl,hK _ (Chg.of_below hb)⟩
theorem QV{s t:Str}{K:Q0}(hs:s.length<=1000000)(hK:K (.tuple #[str (Lib.trimSuffix s t),.bool (Lib.hasSuffix s t)]) w):aC P0 182 [str s,str t] w K:=by
 refine gS (args:=#[str s,str t]) Tryz.call182 ((Tryz.strings_CutSuffix (ofL s) (ofL t) w (by rw[fH];omega)).mono ?_);rintro e w' ⟨rfl,rfl⟩;rw[eQ,eQ];exact⟨_,rfl,hK⟩
theorem Vj{K:Q0}(hK:K (i64 (lS c)) w):aC P0 184 [.int .u8 (c.toNat:Nat)] w K:=by
 refine WB ?_;unfold aDo;have hd:∀n:Nat,n<256->decide (((c.toNat:Nat):Int)=(n:Int))=decide (c=UInt8.ofNat n):=λn hn=>by
  by_cases e:c=UInt8.ofNat n
  ·have:c.toNat=n:=by rw[e,jF];omega
   rw[bF e,bF (by omega)]
  ·rw[bY e,bY];intro h;apply e;apply jX.1;rw[jF];omega
 have d1:decide (((c.toNat:Nat):Int)=110)=decide (c=110):=hd 110 (by omega);have d2:decide (((c.toNat:Nat):Int)=115)=decide (c=115):=hd 115 (by omega);have d3:decide (((c.toNat:Nat):Int)=108)=decide (c=108):=hd 108 (by omega);have d4:decide (((c.toNat:Nat):Int)=111)=decide (c=111):=hd 111 (by omega);unfold lS at hK;rw[bM];rw[d1,aO];refine⟨λe=>?_,λe=>?_⟩
 ·rw[aI e]at hK;exact hK
 rw[aE e]at hK;rw[bM,d2,aO];refine⟨λe=>?_,λe=>?_⟩
 ·rw[aI e]at hK;exact hK
 rw[aE e]at hK;rw[bM,d3,aO];refine⟨λe=>?_,λe=>?_⟩
 ·rw[aI e]at hK;exact hK
 rw[aE e]at hK;rw[bM,d4,aO];refine⟨λe=>?_,λe=>?_⟩
 ·rw[aI e]at hK;exact hK
 rw[aE e]at hK;exact hK
abbrev FT:TypeId:=162
theorem vO{α:Type}{p:α->Bool}{l:List α}{x:α}(hi:l[i]?=some x):(l.take (i+1)).all p=((l.take i).all p&&p x):=by
 rw[dU,hi,CM];simp
theorem aAj{f:FnM}{fv:Value}{a:List JV}{sv:Value}{K:Q0}(h:dS w sv a)(hf1:gC fv=true)(hm:Lib.hasSuffix f.takes [46]=DV f.takes)(ht:Lib.trimSuffix f.takes [46]=if DV f.takes then f.takes.dropLast else f.takes)(hfl:f.takes.length<=100)(hle:f.least<=100)
  (hl:a.length<=1000)(hK:∀w',Ext w w'->K (.bool (tO f a)) w'):aC P0 128 [.agg [str f.takes,i64 (f.least:Nat),fv].toArray,sv] w K:=by
 refine Xe ?_;unfold aDL;refine fU (z:=[str f.takes,i64 (f.least:Nat),fv]) λp w1 hp hz1 hbp hx1=>?_;rw[bS,bZ,dY];refine⟨str f.takes,by rw[cJ,hbp];rfl,?_⟩;refine QV (by omega) ?_;simp only[bK];refine⟨_,rfl,_,rfl,?_⟩;have hdl:f.takes.dropLast.length<=100:=by rw[List.length_dropLast];omega
 refine bT.cut (λst w'=>st=[str (sE f.takes a.length)]/\Ext w1 w') ?_ ?_
 ·rw[hm,ht,bR];refine⟨λhmany=>?_,λhmany=>?_⟩
  ·rw[hmany,aI rfl,h.len];refine Iz (by omega) (by omega) λw4 hx4=>?_;refine⟨?_,hx4⟩;unfold sE;rw[aI hmany]
  ·refine⟨?_,Chg.refl _ _⟩;unfold sE;rw[hmany];simp
 rintro st g w5 ⟨rfl,hx5⟩;generalize hk:sE f.takes a.length=ks at*
 have hx05:=hx1.trans hx5;simp only[aG];rw[h.len,fR,fJ];simp only[kX];have hkl:ks.length<=1000000:=by
  rw[<-hk];unfold sE;split
  ·rw[List.length_flatten];simp only[List.map_replicate,List.sum_replicate_nat];exact cD (mR hl hdl) (by decide)
  ·omega
 have e1:decide ((a.length:Int)≠(ks.length:Int))=!decide (a.length=ks.length):=by
  by_cases e:a.length=ks.length
  ·rw[e];simp
  ·rw[bF (by omega),bY e];rfl
 rw[e1];refine GdW.look (decide ((a.length:Int)<(f.least:Int))) (λ_ J hJ=>?_) λg=>?_
 ·rw[h.len,bS,bZ,dY];refine⟨i64 (f.least:Nat),by rw[cJ,hx5.at hbp id];rfl,?_⟩;rw[eG];exact hJ
 simp only[aG,eZ];have hfit:tO f a=(decide (a.length=ks.length)&&decide (f.least<=a.length)&&(a.zip ks).all λp=>decide (lS p.2<0)||decide (p.1.k=lS p.2)):=by unfold tO;rw[hk]
 rw[hfit]at hK;rw[bR];refine⟨λhbad=>?_,λhok=>?_⟩
 ·have:(decide (a.length=ks.length)&&decide (f.least<=a.length))=false:=by
   cases h1:decide (a.length=ks.length)with
   |false=>rfl
   |true=>
    rw[h1]at hbad;simp only[jT,oL,bB]at hbad;rw[iJ,bY (by omega)]
  rw[this]at hK;exact hK w5 hx05
 ·simp only[jM,Bool.not_eq_false',bB,decide_eq_false_iff_not]at hok;obtain⟨hlen,hle2⟩:=hok;have:(decide (a.length=ks.length)&&decide (f.least<=a.length))=true:=by rw[bF hlen,bF (by omega)];rfl
  rw[this,iJ]at hK;rw[h.len];refine mO a.length (λi w'=>Ext w w'/\((a.zip ks).take i).all (λp=>decide (lS p.2<0)||decide (p.1.k=lS p.2))=true) ⟨hx05,by simp⟩ ?_ ?_
  ·rintro i w9 g L hi ⟨hx9,hall⟩ hL;obtain⟨x,hxi⟩:∃x,a[i]?=some x:=⟨_,List.getElem?_eq_getElem hi⟩;obtain⟨c,hci⟩:∃c,ks[i]?=some c:=⟨_,List.getElem?_eq_getElem (by omega)⟩;have hzi:(a.zip ks)[i]?=some (x,c):=by rw[List.getElem?_zip_eq_some];exact⟨hxi,hci⟩
   have hltI:(i:Int)<(a.length:Int):=by omega
   simp only[aG];rw[eG,bF hltI,eF];refine h.at_old hx9 hxi λds hds=>?_;refine AZ (hds.ext hx9) λq w11 sq kq hQ hx11=>?_;rw[Hw];refine⟨by omega,c,by rw[aW];exact hci,?_⟩;refine Vj ?_;rw[lX];simp only[iG];refine GdW.look (!decide (x.k=lS c)) (λ_ J hJ=>?_) λg=>?_
   ·simp only[wsv,wsg,wsh,wsl,aM,aK,aD,eV,Nat.reduceAdd,Nat.reduceLT,aF,aA,aJ,aH,bN,reduceCtorEq,wsh,hQ.hb];have:decide (x.k≠lS c)=!decide (x.k=lS c):=by simp
    rw[this]at*
    exact hJ
   simp only[aG,eX];rw[bR];refine⟨λhbad=>?_,λhgood=>?_⟩
   ·simp only[aL,bB,dV,decide_eq_false_iff_not]at hbad;have:(a.zip ks).all (λp=>decide (lS p.2<0)||decide (p.1.k=lS p.2))=false:=by
     rw[List.all_eq_false];refine⟨(x,c),bI hzi,?_⟩;simp only[cO,bB,not_or];exact⟨by omega,hbad.2⟩
    rw[this]at hK;exact hK w11 (hx9.trans hx11)
   ·rw[cG,up1 (by omega)];refine hL w11 ⟨hx9.trans hx11,?_⟩;rw[vO hzi,hall,iJ];simp only[cO,bB];by_cases hneg:lS c<0
    ·exact .inl hneg
    ·right;rw[bF (show(0:Int)<=lS c by omega),iJ]at hgood;simpa using hgood
  ·rintro w9 g L ⟨hx9,hall⟩;simp only[aG];rw[eG,bY (fD _),dD];have hzl:(a.zip ks).length=a.length:=by rw[wS];omega
   rw[<-hzl,bO]at hall;rw[hall]at hK;exact hK w9 hx9
end
def fnX:List (Str×FnM×FuncId):=[([97,98,115],BN,159),([99,111,110,99,97,116],Gp,160),([99,111,110,116,97,105,110,115],Cr,161),([106,111,105,110],MB,162),([107,101,121,115],MA,163),([108,101,110,103,116,104],Gn,165),([108,111,111,107,117,112],Gm,166),([108,111,119,101,114],Js,167),([109,97,120],BM,169),([109,101,114,103,101],Jr,171),([109,105,110],BK,172),([114,97,110,103,101],Jq,173),([114,101,118,101,114,115,101],Eu,174),([115,112,108,105,116],Jp,175),([115,117,98,115,116,114],Gl,176),([116,111,105,110,116],vJ,177),([116,111,115,116,114,105,110,103],oD,178),([117,112,112,101,114],Jo,179),([118,97,108,117,101,115],Gk,180)]
abbrev fnV(f:FnM)(g:FuncId):Value:=.agg [str f.takes,i64 (f.least:Nat),.func (.func g) #[] #[]].toArray
def fnP:List (Str×Value):=fnX.map λe=>(e.1,fnV e.2.1 e.2.2)
theorem aAg:fnT=fnX.map λe=>(e.1,e.2.1):=rfl
def tP:List (Str×FnM×FuncId)->Str->Option (FnM×FuncId)
 |[],_=>none
 |(a,v)::m,k=>if k=a then some v else tP m k
theorem MD(k:Str):∀l:List (Str×FnM×FuncId),sC (l.map λe=>(e.1,fnV e.2.1 e.2.2)) k=(tP l k).map λv=>fnV v.1 v.2
 |[]=>rfl
 |(a,v)::m=>by
  simp only[dT,sC,tP]
  split
  ·rfl
  ·exact MD k m
theorem MC(k:Str):∀l:List (Str×FnM×FuncId),AN (l.map λe=>(e.1,e.2.1)) k=(tP l k).map λv=>v.1
 |[]=>rfl
 |(a,v)::m=>by
  simp only[dT,AN,tP]
  split
  ·rfl
  ·exact MC k m
theorem Gs{k:Str}{v:FnM×FuncId}:∀{l:List (Str×FnM×FuncId)},tP l k=some v->(k,v)∈l
 |[],h=>by cases h
 |(a,u)::m,h=>by
  simp only[tP]at h
  split at h
  ·rename_i e;subst e;cases h;exact bC
  ·exact aS _ (Gs h)
section
variable [HX]
theorem aCI{K:Q0}(hK:∀b w',Ext w w'->Kk w' b fnP->K (.map (some b)) w'):aC P0 126 [] w K:=by
 refine Xg ?_;unfold aDN;refine IY (KT:=ST) (ET:=FT) (by kernel_rfl) (.inl rfl) λb w1 hb hz1 hm hx=>?_;have key:∀{m:List (Str×Value)} {w2:World} {k t:Str} {n:Int} {fv:Value} {K':World->Prop},Kk w2 b m->Ext w w2->sC m k=none->
   (∀w3,Kk w3 b (m++[(k,.agg [str t,i64 n,fv].toArray)])->Ext w w3->K' w3)->nB P0 (Instr.mapUpdate 164 (.map (some b)) (str k) (.agg [str t,i64 n,fv].toArray)) w2 K':=λ{m w2 k t n fv K'} hm hx hn hK'=>
  UL (KT:=ST) (ET:=FT) (by kernel_rfl) (by kernel_rfl) hm hn λw3 hz3 hm3 hc3=>hK' w3 hm3 (hx.new hc3 (by omega))
 have pf:∀(c:List Value) (i:Nat) (g:FuncId) (r:List (Nat×Nat×Value)) (K:List Value->Prop),dE c ((i,1,.func (.func g) #[] #[])::r) K↔i<c.length/\dE (c.set i (.func (.func g) #[] #[])) r K:=λc i g r K=>tE c i _ r K rfl;simp only[eD,dA,pf,cV,aB,aN,aV,aZ];refine⟨by omega,by omega,by omega,?_⟩;refine key hm hx (by rfl) λw2 hm hx=>?_;refine⟨by omega,by omega,by omega,?_⟩;refine key hm hx (by rfl) λw3 hm hx=>?_;refine⟨by omega,by omega,by omega,?_⟩;refine key hm hx (by rfl) λw4 hm hx=>?_;refine⟨by omega,by omega,by omega,?_⟩;refine key hm hx (by rfl) λw5 hm hx=>?_;refine⟨by omega,by omega,by omega,?_⟩;refine key hm hx (by rfl) λw6 hm hx=>?_;refine⟨by omega,by omega,by omega,?_⟩;refine key hm hx (by rfl) λw7 hm hx=>?_;refine⟨by omega,by omega,by omega,?_⟩;refine key hm hx (by rfl) λw8 hm hx=>?_;refine⟨by omega,by omega,by omega,?_⟩;refine key hm hx (by rfl) λw9 hm hx=>?_;refine⟨by omega,by omega,by omega,?_⟩;refine key hm hx (by rfl) λw10 hm hx=>?_;refine⟨by omega,by omega,by omega,?_⟩;refine key hm hx (by rfl) λw11 hm hx=>?_;refine⟨by omega,by omega,by omega,?_⟩;refine key hm hx (by rfl) λw12 hm hx=>?_;refine⟨by omega,by omega,by omega,?_⟩;refine key hm hx (by rfl) λw13 hm hx=>?_;refine⟨by omega,by omega,by omega,?_⟩;refine key hm hx (by rfl) λw14 hm hx=>?_;refine⟨by omega,by omega,by omega,?_⟩;refine key hm hx (by rfl) λw15 hm hx=>?_;refine⟨by omega,by omega,by omega,?_⟩;refine key hm hx (by rfl) λw16 hm hx=>?_;refine⟨by omega,by omega,by omega,?_⟩;refine key hm hx (by rfl) λw17 hm hx=>?_;refine⟨by omega,by omega,by omega,?_⟩;refine key hm hx (by rfl) λw18 hm hx=>?_;refine⟨by omega,by omega,by omega,?_⟩;refine key hm hx (by rfl) λw19 hm hx=>?_;refine⟨by omega,by omega,by omega,?_⟩;refine key hm hx (by rfl) λw20 hm hx=>?_;exact hK b _ hx hm
end
theorem aAk{f:FnM}{a:List JV}(ht:f.takes=[c])(hc:c≠46)(h:tO f a=true):∃x,a=[x]/\(lS c<0\/x.k=lS c):=by
 have hk:sE f.takes a.length=[c]:=by unfold sE DV;rw[ht];simp[hc]
 unfold tO at h;rw[hk]at h;simp only[aL,bB,aB,aN]at h;obtain⟨⟨h1,_⟩,h3⟩:=h
 match a,h1 with
 |[x],_=>exact⟨x,rfl,by simpa using h3⟩
theorem LV(c:UInt8):∀(a:List JV),a.zip (List.replicate a.length [c]).flatten=a.map λx=>(x,c)
 |[]=>rfl
 |x::a=>by
  rw[aB,vR,zN]
  show(x,c)::a.zip (List.replicate a.length [c]).flatten=_
  rw[LV c a,dT]
theorem aCo{f:FnM}{a:List JV}(ht:f.takes=[c,46])(h:tO f a=true):f.least<=a.length/\∀x∈a,lS c<0\/x.k=lS c:=by
 have hk:sE f.takes a.length=(List.replicate a.length [c]).flatten:=by unfold sE DV;rw[ht];simp
 unfold tO at h;rw[hk,LV]at h;simp only[aL,bB]at h;obtain⟨⟨_,h2⟩,h3⟩:=h;refine⟨h2,λx hx=>?_⟩;have:=bW.1 h3 (x,c) (EO.2 ⟨x,hx,rfl⟩);simpa using this
structure Yk(a:List JV):Prop where
 good:∀x∈a,dX x=true
 len:a.length<=60
 pairs:(Hk a).length<=90000
theorem Ls{x:JV}(h:dX x=true):x.xs.length<=2000:=by
 simp only[dX,aL,bB]at h;have hd:=h.1.2;have hs:=h.1.1;rw[show(24:Nat)=23+1 from rfl,nR,oG]at hd;rw[uR]at hs;have:=(vY (m:=23) (by omega) x.xs 1 hd (by omega) hs).1;omega
theorem QF{x:JV}(h:kE x=true)(k3:x.k=3):goodN x.t=true/\x.xs=[]/\x.ks=[]:=by
 rw[mN,aL]at h;obtain⟨_,_,_,_,h5,h6,h7,_⟩:=kF h.1;refine⟨h7 k3,?_,?_⟩
 ·refine fF λe=>?_;have:x.xs.length≠0:=λh0=>e (bJ h0);have:=h5 this;omega
 ·refine fF λe=>?_;have:=h6 e;omega
theorem kv:lS 110=3/\lS 115=4/\lS 108=5/\lS 111=6/\lS 118=-1:=by decide
section
variable [HX]
def Kn(g:FuncId)(f:FnM):Prop:=∀{a:List JV} {sv:Value} {w:World} {K:Q0},wP w->dS w sv a->Yk a->tO f a=true->DoK (f.act a) w K->aC P0 g [sv] w K
theorem aD6{x:JV}(h:dX x=true):x.t.length<=16384:=HE (pU h).plain
theorem aAp:Kn 159 BN:=by
 intro a sv w K hT h hF hfit hK;obtain⟨kn,ks,kl,ko,kvv⟩:=kv;obtain⟨x,rfl,h1⟩:=aAk (f:=BN) rfl (by decide) hfit;exact aCK h hK
theorem aAo:Kn 169 BM:=by
 intro a sv w K hT h hF hfit hK;obtain⟨kn,ks,kl,ko,kvv⟩:=kv;obtain⟨h0,h1⟩:=aCo (f:=BM) rfl hfit;rw[kn]at h1;refine aCk h (λe=>by subst e;exact absurd h0 (by decide)) (by have:=hF.len;omega) (λx hx=>?_) hK;have hp:=(pU (hF.good x hx)).plain;have h3:=QF hp (by have:=h1 x hx;omega);have:=HE hp;exact⟨by omega,h3.2.1,h3.2.2⟩
theorem aAn:Kn 172 BK:=by
 intro a sv w K hT h hF hfit hK;obtain⟨kn,ks,kl,ko,kvv⟩:=kv;obtain⟨h0,h1⟩:=aCo (f:=BK) rfl hfit;rw[kn]at h1;refine aCj h (λe=>by subst e;exact absurd h0 (by decide)) (by have:=hF.len;omega) (λx hx=>?_) hK;have hp:=(pU (hF.good x hx)).plain;have h3:=QF hp (by have:=h1 x hx;omega);have:=HE hp;exact⟨by omega,h3.2.1,h3.2.2⟩
theorem QR:Kn 177 vJ:=by
 intro a sv w K hT h hF hfit hK;obtain⟨kn,ks,kl,ko,kvv⟩:=kv;obtain⟨x,rfl,h1⟩:=aAk (f:=vJ) rfl (by decide) hfit;have:=aD6 (hF.good x (by simp));exact RP h (by omega) hK
theorem JG:Kn 178 oD:=by
 intro a sv w K hT h hF hfit hK;obtain⟨kn,ks,kl,ko,kvv⟩:=kv;obtain⟨x,rfl,h1⟩:=aAk (f:=oD) rfl (by decide) hfit;exact RO h hK
theorem OT:∀e∈fnX,Lib.hasSuffix e.2.1.takes [46]=DV e.2.1.takes/\Lib.trimSuffix e.2.1.takes [46]=(if DV e.2.1.takes then e.2.1.takes.dropLast else e.2.1.takes)/\e.2.1.takes.length<=100/\e.2.1.least<=100:=by decide
theorem Vx{name:Str}(hall:∀f g,tP fnX name=some (f,g)->Kn g f){a:List JV}{sv:Value}{K:Q0}(hT:wP w)(h:dS w sv a)(hl:a.length<=60)(hpr:(∀x∈a,dX x=true)->(Hk a).length<=90000)
  (hK:∀cs w',Ext w w'->cL (Av w.heap.size) w' (qG name a).1 cs->K (.tuple #[.agg cs.toArray,i64 (qG name a).2]) w'):aC P0 94 [str name,sv] w K:=by
 refine aAG ?_;unfold W94;refine bE λb w1 hb hz1 hbb hx1=>?_;have s1:=hx1.size;have ends:∀{v:JV} {cs:List Value} {c:Int} {w':World},qG name a=(v,c)->Ext w1 w'->cL (λq=>w.heap.size<=q/\q≠b) w' v cs->
   stW 5 (.pointer (some ⟨b,0,none⟩)) (.agg cs.toArray) w' λw4=>ldW true 5 (.pointer (some ⟨b,0,none⟩)) w4 λr5=>K (.tuple #[r5,i64 c]) w4:=λ{v cs c w'} hc hx hv=>by
  rw[hc]at hK;exact Dy (w0:=w) (K:=λr w=>K (.tuple #[r,i64 c]) w) (hx.at hbb id) rfl (by omega) (hx1.trans hx) hv λw'' hx'' h''=>hK _ w'' hx'' h''
 refine Ar (p:=λx=> !dX x) (h.ext hx1) (λz hz {cs w3 K3} hx3 hcs hK3=>?_) λw2 hx2=>?_
 ·refine yA ?_;refine Xh ?_;unfold aDO;refine kC hcs λq w4 sv4 kv4 hB4 hx4 _=>?_;refine hB4.ld λcs4 hcs4=>?_;refine GT hcs4 λw5 hx5=>?_;rw[eP];exact hK3 w5 (hx4.trans hx5)
 rw[bR];refine⟨λhbad=>?_,λhgood=>?_⟩
 ·rw[cV];exact ends (v:=JV.null) (cs:=flat 0 false []) (by unfold qG;rw[aI hbad]) hx2 (gU (by simp))
 have hgd:∀x∈a,dX x=true:=λx hx=>by
  have:=nU.1 hgood x hx;simpa using this
 have hF:Yk a:=⟨hgd,hl,hpr hgd⟩;refine aCI λmb w6 hx6 hm=>?_;have hfP:=MD name fnX;have hfT:AN fnT name=(tP fnX name).map λv=>v.1:=by rw[aAg];exact MC name fnX
 have hcall:qG name a=(match AN fnT name with
  |none=>(JV.null,70)
  |some f=>
   if a.any (λx=> !iB x)then(uV,0)else
   if !tO f a then(JV.null,71)else
   match f.act a with
   |none=>(JV.null,71)
   |some v=>if dX v then(v,0)else(JV.null,3)):=by
  unfold qG;rw[aE (by rw[hgood];simp)]<;>rfl
 have hx26:=hx2.trans hx6;refine UM (KT:=ST) (ET:=FT) (z:=.agg #[str [],i64 0,.nilFunc]) (by kernel_rfl) (by kernel_rfl) (by kernel_rfl) hm (λv hv=>?_) (λhno=>?_)
 rotate_left
 ·have hno:tP fnX name=none:=by
   have hno:sC (fnX.map λe=>(e.1,fnV e.2.1 e.2.2)) name=none:=hno;rw[hfP]at hno;cases hq:tP fnX name with
   |none=>rfl
   |some v=>rw[hq]at hno;cases hno
  rw[hfT,hno]at hcall;simp only[bK];refine⟨_,rfl,_,rfl,?_⟩;refine bE λp w7 hp hz7 hbp hx7=>?_;refine cA (l:=[str [],i64 0,.nilFunc]) hbp rfl rfl rfl λw8 hz8 hbp8 hc8=>?_;have hx28:=hx26.trans (hx7.new hc8 (by omega));rw[eP,iU,eF,cV];exact ends (v:=JV.null) (cs:=flat 0 false []) hcall hx28 (gU (by simp))
 obtain⟨e,he,hev⟩:∃e:FnM×FuncId,tP fnX name=some e/\v=fnV e.1 e.2:=by
  have hv:sC (fnX.map λe=>(e.1,fnV e.2.1 e.2.2)) name=some v:=hv;rw[hfP]at hv;cases hq:tP fnX name with
  |none=>rw[hq]at hv;cases hv
  |some u=>rw[hq]at hv;exact⟨u,rfl,(fI hv).symm⟩
 obtain⟨f,g⟩:=e;subst hev;have hmem:=Gs he;have hdo:Kn g f:=hall f g he;obtain⟨ht1,ht2,ht3,ht4⟩:=OT _ hmem;rw[hfT,he]at hcall;simp only[iI]at hcall;simp only[bK];refine⟨_,rfl,_,rfl,?_⟩;refine bE λp w7 hp hz7 hbp hx7=>?_;refine cA (l:=[str f.takes,i64 (f.least:Nat),.func (.func g) #[] #[]]) hbp rfl rfl rfl λw8 hz8 hbp8 hc8=>?_;have hx28:=hx26.trans (hx7.new hc8 (by omega));rw[eP,jT,dD];have h8:=(h.ext hx1).ext hx28;refine Ar (p:=λx=> !iB x) h8 (λz hz {cs w3 K3} hx3 hcs hK3=>?_) λw12 hx12=>?_
 ·refine yA ?_;refine Xf ?_;unfold aDM;refine kC hcs λq w4 sv4 kv4 hB4 hx4 _=>?_;refine hB4.ld λcs4 hcs4=>?_;refine Hv z hcs4 λw5 hx5=>?_;rw[eP];exact hK3 w5 (hx4.trans hx5)
 have hx112:=hx28.trans hx12;rw[bR];refine⟨λhunk=>?_,λhknw=>?_⟩
 ·rw[aI hunk]at hcall;refine rH λw13 hx13=>?_;exact ends (v:=uV) (cs:=flat 1 false []) hcall (hx112.trans hx13) (gU (by simp))
 rw[aE (by rw[hknw];simp)]at hcall;refine bX (hx12.at hbp8 id) rfl ?_;refine aAj (f:=f) (h8.ext hx12) rfl ht1 ht2 ht3 ht4 (by omega) λw16 hx16=>?_;have hx116:=hx112.trans hx16;rw[eP,bR];refine⟨λhnf=>?_,λhfit=>?_⟩
 ·rw[aI hnf]at hcall;rw[cV];exact ends (v:=JV.null) (cs:=flat 0 false []) hcall hx116 (gU (by simp))
 rw[aE (by rw[hfit];simp)]at hcall;have hfit:tO f a=true:=by simpa using hfit
 have hbp16:=(hx12.trans hx16).at hbp8 id;rw[bS,dY];refine⟨.func (.func g) #[] #[],by rw[bZ,cJ,hbp16];rfl,?_⟩;refine yA ?_;have hT16:=hT.ext (hx1.trans hx116);refine hdo hT16 ((h.ext hx1).ext hx116) hF hfit λcs v ok w20 hx20 hV hr=>?_;have hr:f.act a=if ok=true then some v else none:=hr;simp only[bK];refine⟨_,rfl,_,rfl,?_⟩;have hx120:=hx116.trans hx20;refine bE λq w21 hq hz21 hbq hx21=>?_;refine cA hbq hV.rep.len rfl hV.rep.all_one λw22 hz22 hbq22 hc22=>?_;have hx2022:Ext w20 w22:=hx21.new hc22 (by omega);have hx122:=hx120.trans hx2022;have s16:=hx116.size;have hlb:=fC hbb;have hV22:cL (Av w16.heap.size) w22 v cs:=hV.ext' hx2022;rw[eP,bR];refine⟨λhno=>?_,λhok=>?_⟩
 ·rw[hr,aE (by simpa using hno)]at hcall;rw[cV];exact ends (v:=JV.null) (cs:=flat 0 false []) hcall hx122 (gU (by simp))
 rw[hr,aI (by simpa using hok)]at hcall;refine bX hbq22 hV.rep.len ?_;refine GT hV22.rep λw26 hx26'=>?_;have hx126:=hx122.trans hx26';rw[eP,bR];refine⟨λhng=>?_,λhg=>?_⟩
 ·simp only[aE (show¬dX v=true by simpa using hng)]at hcall;rw[cV];exact ends (v:=JV.null) (cs:=flat 0 false []) hcall hx126 (gU (by simp))
 ·simp only[aI (show dX v=true by simpa using hg)]at hcall;refine bX (hx26'.at hbq22 id) hV.rep.len ?_;exact ends (v:=v) hcall hx126 ((hV22.ext' hx26').at (by omega) (by omega))
end
abbrev zr5:List Value:=[(.int .i64 0),(.bool false),(.string (ofL [])),(.slice none 0 0),(.slice none 0 0)]
theorem HF{u v:JV}{ds:List Value}{K:Q0}(h1:eR w u cs)(h2:eR w v ds)(hK:∀t w',dS w' t [u,v]->Ext w w'->inG (Av w.heap.size) t->K t w'):
  dK VT 2 (zr5++zr5) [(0,5,.agg cs.toArray),(5,5,.agg ds.toArray)] w K:=by
 unfold dK;have l1:=h1.len;have l2:=h2.len;have hp:∀K:List Value->Prop,K (cs++ds)->dE (zr5++zr5) [(0,5,.agg cs.toArray),(5,5,.agg ds.toArray)] K:=by
  intro K hK;refine⟨by simp[Value.cells,l1],by simp,?_⟩;refine⟨by simp[Value.cells,l2],by simp[Value.cells,l1],?_⟩;have:List.take 5 (List.take 0 (zr5++zr5)++((Value.agg cs.toArray).cells.toList++List.drop (0+5) (zr5++zr5)))++((Value.agg ds.toArray).cells.toList++List.drop (5+5) (List.take 0 (zr5++zr5)++((Value.agg cs.toArray).cells.toList++List.drop (0+5) (zr5++zr5))))=cs++ds:=by
   simp[Value.cells,List.take_append,List.drop_append,l1]
  rw[this];exact hK
 refine hp _ ?_;have hx:Ext w (w.alloc (.cells (cs++ds).toArray VT)):=Chg.alloc (Chg.refl _ _) _;refine hK _ _ ⟨⟨VT,cs++(ds++[]),?_,?_⟩,by simp⟩ hx (λq hq=>by cases hq;exact aU _)
 ·rw[eS];exact(yU (w:=w) (base:=w.heap.size) (e:=VT) (size:=5) (n:=2) (cs:=cs++ds) (aU _) (by rw[bG];omega) (by omega)).sl
 ·simp only[eO];exact⟨cs,ds++[],rfl,h1.ext hx,ds,[],rfl,h2.ext hx,rfl⟩
theorem Vg{u:JV}{K:Q0}(h1:eR w u cs)(hK:∀t w',dS w' t [u]->Ext w w'->K t w'):dK VT 1 zr5 [(0,5,.agg cs.toArray)] w K:=
 Cl h1.len λt w' ht hx=>hK t w' ⟨⟨VT,cs,ht,eO.one' (h1.ext hx)⟩,by simp⟩ hx
section
variable [HX]
theorem Nn{s:Str}{K:Q0}(hK:∀w',Ext w w'->K (.agg (flat 4 false s).toArray) w'):aC P0 24 [str s] w K:=by
 refine aBv ?_;unfold W24;refine bE λb w1 hb hz hbb hx=>?_;simp only[wsv,wsg,wsh,wsl,aM,aK,aD,eV,Nat.reduceAdd,Nat.reduceLT,aF,aA,aJ,aH,bN,reduceCtorEq];exact iP hbb rfl rfl rfl λw' hc=>hK w' (hx.new hc (by omega))
end
end
end Go.Proofs.YtghhmpppnmoeoaaGreatDoor
namespace Go.Lex
section
open Go Go.Eng Go.Num
structure Tok where
 k:Int
 t:Str
 a:Int
deriving DecidableEq
def jE(c:UInt8):Bool:=(97<=c&&c<=122)||(65<=c&&c<=90)||c==95
def iX(c:UInt8):Bool:=48<=c&&c<=57
def jJ(c:UInt8):Bool:=jE c||iX c||c==45
def eK(p:UInt8->Bool):Str->Nat
 |[]=>0
 |c::r=>if p c then eK p r+1 else 0
def pD(p s:Str):Bool:=p.isPrefixOf s
def fG:Nat->Str->Nat×Int
 |0,_=>(0,0)
 |_+1,[]=>(0,0)
 |n+1,c::r=>
  if c==32||c==9||c==13 then((fG n r).1+1,(fG n r).2)
  else if c==35||pD [47,47] (c::r)then
   let k:=eK (λb=>b !=10) (c::r)
   ((fG n ((c::r).drop k)).1+k,(fG n ((c::r).drop k)).2)
  else if pD [47,42] (c::r)then
   let i:=Lib.index (r.drop 1) [42,47]
   if i<0 then(0,40)
   else((fG n ((c::r).drop (i.toNat+4))).1+(i.toNat+4),(fG n ((c::r).drop (i.toNat+4))).2)
  else(0,0)
def mH(k:Nat)(r:Nat×Int):Nat×Int:=if r.2=0 then(r.1+k,0)else(0,r.2)
def escOk(c:UInt8):Bool:=c==34||c==92||c==110||c==116||c==114||c==36
mutual
def nZ:Nat->Str->Nat->Nat×Int
 |0,_,_=>(0,40)
 |_+1,[],_=>(0,40)
 |n+1,c::r,d=>
  if c==34 then(1,0)
  else if c==10 then(0,40)
  else if c==92 then
   match r with
   |[]=>(0,40)
   |e::r'=>if escOk e then mH 2 (nZ n r' d)else(0,40)
  else if pD [36,123] (c::r)then
   if 24<d+1 then(0,7)
   else
    let i:=AT n (r.drop 1) (d+1)
    if i.2=0 then mH (i.1+2) (nZ n ((r.drop 1).drop i.1) d)else(0,i.2)
  else mH 1 (nZ n r d)
def AT:Nat->Str->Nat->Nat×Int
 |0,_,_=>(0,40)
 |_+1,[],_=>(0,40)
 |n+1,c::r,d=>
  if c==125 then(1,0)
  else if c==10 then(0,40)
  else if c==123 then
   if 24<d+1 then(0,7)
   else
    let i:=AT n r (d+1)
    if i.2=0 then mH (i.1+1) (AT n (r.drop i.1) d)else(0,i.2)
  else if c==34 then
   let i:=nZ n r d
   if i.2=0 then mH (i.1+1) (AT n (r.drop i.1) d)else(0,i.2)
  else mH 1 (AT n r d)
end
def kB:Str->Str
 |[]=>[]
 |c::r=>if c==92||c==34||c==36 then 92::c::kB r else if c==9 then 92::116::kB r else if c==13 then 92::114::kB r else c::kB r
def lU:Nat->Str->Str->Str×Nat×Int
 |0,_,_=>([],0,40)
 |n+1,name,s=>
  let k:=eK (λb=>b !=10) s
  let line:=s.take k
  if line.drop (eK (λb=>b==32||b==9) line)=name then([],k,0)
  else if s.length<=k then([],0,40)
  else
   let x:=lU n name (s.drop (k+1))
   if x.2.2=0 then(kB line++[92,110]++x.1,x.2.1+(k+1),0)else([],0,x.2.2)
def iD(s:Str):Str×Nat×Int:=
 let n:=if jE ((s.drop 2).headD 0)then eK jJ (s.drop 2)else 0
 if n=0 then([],0,40)
 else if(s.drop (2+n)).head?=some 10 then
  let x:=lU (s.length+1) ((s.drop 2).take n) (s.drop (2+n+1))
  if x.2.2=0 then(x.1,x.2.1+(2+n+1),0)else([],0,x.2.2)
 else([],0,40)
def xH:List Str:=[[61,61],[33,61],[60,61],[62,61],[38,38],[124,124]]
def Bq:Str:=[123,125,91,93,40,41,61,43,45,42,47,37,60,62,33,63,58,44,46]
def uS(s:Str):Str:=
 if xH.contains (s.take 2)then s.take 2 else if Bq.contains (s.headD 0)then s.take 1 else []
def oS(s:Str):Tok×Nat×Int:=
 let c:=s.headD 0
 if c==10 then(⟨5,[10],0⟩,1,0)
 else if jE c then
  let n:=eK jJ s
  (⟨1,s.take n,0⟩,n,if 32<n then 3 else 0)
 else if iX c then
  let n:=eK iX s
  (⟨2,s.take n,0⟩,n,if(n<s.length&&jE ((s.drop n).headD 0))||(c==48&&1<n)then 40 else if goodN (s.take n)then 0 else 3)
 else if c==34 then
  let r:=nZ (s.length+1) (s.drop 1) 0
  if r.2=0 then(⟨3,(s.drop 1).take (r.1-1),0⟩,r.1+1,0)else(⟨0,[],0⟩,0,r.2)
 else if pD [60,60] s then
  let r:=iD s
  (⟨3,r.1,0⟩,r.2.1,r.2.2)
 else(⟨4,uS s,0⟩,(uS s).length,if(uS s).length=0 then 40 else 0)
def EW:Nat->Str->Nat->Option Nat
 |0,_,_=>none
 |n+1,s,i=>if s.length<=i then none else if iA s i=0 then some i else EW n s (i+uN s i)
inductive RS where
 |ok (l:List Tok)
 |bad (code at_:Int)
deriving DecidableEq
def mT:Nat->Str->Nat->Nat->RS
 |0,_,_,_=>.bad 0 0
 |n+1,s,at_,cnt=>
  let k:=fG (s.length+1) s
  let r:=s.drop k.1
  if k.2≠0 then .bad k.2 (at_+k.1:Nat)
  else if r=[]then .ok [⟨0,[],(at_+k.1:Nat)⟩]
  else
   let o:=oS r
   if o.2.2≠0 then .bad o.2.2 (at_+k.1:Nat)
   else if cnt=4096 then .bad 3 (at_+k.1:Nat)
   else match mT n (r.drop o.2.1) (at_+k.1+o.2.1) (cnt+1)with
    |.ok l=>.ok (⟨o.1.k,o.1.t,(at_+k.1:Nat)⟩::l)
    |x=>x
def qB(s:Str):RS:=
 if 16384<s.length then .bad 3 0
 else match EW (s.length+1) s 0 with
  |some i=>.bad 31 (i:Nat)
  |none=>mT (s.length+1) s 0 0
end
end Go.Lex
namespace Go.Syn
section
open Go Go.Eng Go.Lex
structure Ex where
 k:Int
 t:Str
 args:List Nat
 keys:List Str
 a:Int
deriving DecidableEq
structure Atr where
 n:Str
 e:Nat
 a:Int
deriving DecidableEq
structure Blk where
 typ:Str
 labels:List Str
 attrs:List Atr
 blocks:List Nat
 a:Int
deriving DecidableEq
structure Fl where
 ex:List Ex
 bl:List Blk
 top:List Nat
deriving DecidableEq
structure PS where
 toks:List Tok
 i:Nat
 off:Int
 deep:Nat
 quiet:Bool
 ex:List Ex
 bl:List Blk
inductive R (α:Type) where
 |ok (x:α) (s:PS)
 |err (c a:Int)
def R.bind{α β:Type}(r:R α)(f:α->PS->R β):R β:=match r with
 |.ok x s=>f x s
 |.err c a=>.err c a
def gW:List Tok->Nat
 |[]=>0
 |t::r=>if t.k=5 then gW r+1 else 0
def bA(s:PS):PS:=if s.quiet=true then{s with i:=s.i+gW (s.toks.drop s.i)}else s
def lP(s:PS):Tok:=s.toks.getD s.i ⟨0,[],0⟩
def cur(s:PS):Tok:={lP (bA s)with a:=(lP (bA s)).a+s.off}
def step1(s:PS):PS:={s with i:=s.i+1}
def iR(s:PS):PS:=if(cur s).k≠0 then step1 (bA s)else bA s
def isS(s:PS)(w:Str):Bool:=decide ((cur s).k=4)&&decide ((cur s).t=w)
def bU(s:PS)(w:Str):Bool×PS:=if isS s w=true then(true,step1 (bA s))else(false,bA s)
def nY(s:PS)(w:Str):R Unit:=if isS s w=true then .ok () (step1 (bA s))else .err 50 (cur s).a
def lL(s:PS)(k:Int):R Tok:=if(cur s).k=k then .ok (cur s) (iR s)else .err 50 (cur s).a
def gD(s:PS):PS:={bA s with i:=(bA s).i+gW (s.toks.drop (bA s).i)}
def qL(s:PS)(e:Ex):R Nat:=.ok s.ex.length {s with ex:=s.ex++[e]}
def within{α:Type}(s:PS)(a:Int)(quiet:Bool)(f:PS->R α):R α:=
 if s.deep=24 then .err 7 a
 else(f {s with deep:=s.deep+1,quiet:=quiet}).bind λx s'=>.ok x {s' with deep:=s.deep,quiet:=s.quiet}
def jZ:Str->Str
 |[]=>[]
 |[c]=>if c=92 then []else [c]
 |c::e::r=>if c=92 then(if e=110 then 10 else if e=116 then 9 else if e=114 then 13 else e)::jZ r else c::jZ (e::r)
mutual
def Bf:Nat->Str->Int->Nat
 |0,_,_=>0
 |_+1,[],_=>0
 |n+1,c::r,d=>
  if c=123 then 1+Bf n r (d+1)
  else if c=125 then(if d-1=0 then 1 else 1+Bf n r (d-1))
  else if c=34 then(1+AG n r)+Bf n (r.drop (AG n r)) d
  else 1+Bf n r d
def AG:Nat->Str->Nat
 |0,_=>0
 |_+1,[]=>0
 |n+1,c::r=>
  if c=34 then 1
  else if c=92 then(match r with|[]=>1|_::r'=>2+AG n r')
  else if pD [36,123] (c::r)=true then(1+Bf n r 0)+AG n (r.drop (Bf n r 0))
  else 1+AG n r
end
def JX(s:Str):Nat:=Bf (s.length+1) s 0
def insP:Str->Option (Nat×Nat)
 |[]=>none
 |[_]=>none
 |c::e::r=>
  if c=92 then(insP r).map λx=>(x.1+2,x.2+2)
  else if c=36/\e=123 then some (0,1+JX (e::r))
  else(insP (e::r)).map λx=>(x.1+1,x.2+1)
def pQ(s:PS)(t:Tok):R Str:=if(insP t.t).isSome=true then .err 50 t.a else .ok (jZ t.t) s
def oX(E:PS->R Nat)(s:PS)(t:Str)(a:Int):R Nat:=match qB t with
 |.bad c b=>.err c (a+b)
 |.ok l=>(E ⟨l,0,a,s.deep,false,s.ex,s.bl⟩).bind λx q=>(lL q 0).bind λ_ q'=>.ok x {s with ex:=q'.ex,bl:=q'.bl}
def mW(E:PS->R Nat):Nat->PS->Str->Int->List Nat->List Str->R (List Nat×List Str)
 |0,_,_,_,_,_=>.err 0 0
 |n+1,s,rest,a,us,ks=>
  if rest=[]then .ok (us,ks) s
  else match insP rest with
   |none=>.ok (us++[s.ex.length],ks++[[116]]) {s with ex:=s.ex++[⟨5,jZ rest,[],[],a⟩]}
   |some (i,e)=>
    let s1:=if 0<i then{s with ex:=s.ex++[⟨5,jZ (rest.take i),[],[],a⟩]}else s
    let as1:=if 0<i then us++[s.ex.length]else us
    let ks1:=if 0<i then ks++[[116]]else ks
    if i<e then
     (within s1 (a+i) false λq=>oX E q ((rest.drop (i+2)).take (e-1-(i+2))) (a+i+2)).bind λx s2=>mW E n s2 (rest.drop e) (a+e) (as1++[x]) (ks1++[[101]])
    else mW E n s1 (rest.drop e) (a+e) as1 ks1
def Cj(E:PS->R Nat)(s:PS)(t:Tok):R Nat:=
 if(insP t.t).isSome=true then(mW E (t.t.length+1) s t.t (t.a+1) [] []).bind λx s'=>qL s' ⟨6,[],x.1,x.2,t.a⟩
 else qL s ⟨5,jZ t.t,[],[],t.a⟩
def Je:Str:=[102,111,114]
def kIn:Str:=[105,110]
def xO(t:Str):Int:=if t=[110,117,108,108]then 1 else if t=[116,114,117,101]then 2 else if t=[102,97,108,115,101]then 3 else 9
def sP(E:PS->R Nat)(w:Str):Nat->PS->List Nat->R (List Nat)
 |0,_,_=>.err 0 0
 |n+1,s,out=>
  if(bU s w).1=true then .ok out (bU s w).2
  else if out=[]then(E (bU s w).2).bind λx s'=>sP E w n s' (out++[x])
  else(nY (bU s w).2 [44]).bind λ_ s1=>
   if(bU s1 w).1=true then .ok out (bU s1 w).2
   else(E (bU s1 w).2).bind λx s'=>sP E w n s' (out++[x])
def EL(E:PS->R Nat)(w:Str)(s:PS):R (List Nat):=sP E w (s.toks.length+1) s []
def Co(E:PS->R Nat)(s:PS)(a:Int):R Ex:=
 let s1:=step1 s
 if(cur s1).k≠1\/(cur s1).t≠Je then(EL E [93] (bA s1)).bind λus s'=>.ok ⟨7,[],us,[],a⟩ s'
 else(lL (step1 (bA s1)) 1).bind λt s2=>(lL s2 1).bind λu s3=>
  if u.t≠kIn then .err 50 u.a
  else(E s3).bind λx s4=>(nY s4 [58]).bind λ_ s5=>(E s5).bind λy s6=>(nY s6 [93]).bind λ_ s7=>.ok ⟨29,t.t,[x,y],[],a⟩ s7
def ES(E:PS->R Nat)(a:Int):Nat->PS->List Nat->List Str->R Ex
 |0,_,_,_=>.err 0 0
 |n+1,s,us,ks=>
  if(bU s [125]).1=true then .ok ⟨8,[],us,ks,a⟩ (bU s [125]).2
  else
   let s1:=(bU s [125]).2
   let t:=cur s1
   let s2:=iR s1
   (if t.k=3 then pQ s2 t else if t.k=1 then .ok t.t s2 else .err 50 t.a).bind λk s3=>
     if ks.contains k=true then .err 2 t.a
     else(nY s3 [61]).bind λ_ s4=>(E s4).bind λx s5=>
      if(bU s5 [44]).1=false/\(cur (bU s5 [44]).2).k≠5/\isS (bA (bU s5 [44]).2) [125]=false then .err 50 (cur (bA (bU s5 [44]).2)).a
      else ES E a n (gD (if(bU s5 [44]).1=true then(bU s5 [44]).2 else bA (bU s5 [44]).2)) (us++[x]) (ks++[k])
def NJ(E:PS->R Nat)(s:PS)(a:Int):R Ex:=ES E a (s.toks.length+1) (gD (step1 s)) [] []
def Bh(E:PS->R Nat)(s:PS):R Nat:=
 let t:=cur s
 let s1:=bA s
 if t.k=2 then qL (step1 s1) ⟨4,t.t,[],[],t.a⟩
 else if t.k=3 then Cj E (step1 s1) t
 else if t.k=1/\t.t≠Je then
  if isS (step1 s1) [40]=true then
   (within (bA (step1 s1)) (cur (step1 s1)).a true λq=>EL E [41] (step1 q)).bind λus s2=>qL s2 ⟨12,t.t,us,[],t.a⟩
  else qL (bA (step1 s1)) ⟨xO t.t,if xO t.t=9 then t.t else [],[],[],t.a⟩
 else if isS s1 [40]=true then within s1 t.a true λq=>(E (step1 q)).bind λx q1=>(nY q1 [41]).bind λ_ q2=>.ok x q2
 else if isS s1 [91]=true then(within s1 t.a true λq=>Co E q t.a).bind λe s2=>qL s2 e
 else if isS s1 [123]=true then(within s1 t.a false λq=>NJ E q t.a).bind λe s2=>qL s2 e
 else .err 50 t.a
def qU(E:PS->R Nat):Nat->PS->Nat->R Nat
 |0,_,_=>.err 0 0
 |n+1,s,x=>
  let t:=cur s
  let s1:=bA s
  if(bU s1 [46]).1=true then(lL (bU s1 [46]).2 1).bind λu s2=>(qL s2 ⟨10,u.t,[x],[],t.a⟩).bind λy s3=>qU E n s3 y
  else if isS s1 [91]=true then
   (within s1 t.a true λq=>
     if(bU (step1 q) [42]).1=true then(nY (bU (step1 q) [42]).2 [93]).bind λ_ q2=>.ok none q2
     else(E (bU (step1 q) [42]).2).bind λy q1=>(nY q1 [93]).bind λ_ q2=>.ok (some y) q2).bind λo s2=>
     match o with
     |some y=>(qL s2 ⟨11,[],[x,y],[],t.a⟩).bind λz s3=>qU E n s3 z
     |none=>(nY s2 [46]).bind λ_ s3=>(lL s3 1).bind λu s4=>(qL s4 ⟨30,u.t,[x],[],t.a⟩).bind λz s5=>qU E n s5 z
  else .ok x s1
def DG(E:PS->R Nat)(s:PS):R Nat:=(Bh E s).bind λx s1=>qU E (s.toks.length+1) s1 x
def zU(E S:PS->R Nat)(s:PS):R Nat:=
 let t:=cur s
 let s1:=bA s
 if isS s1 [33]=true then(within s1 t.a s1.quiet λq=>S (step1 q)).bind λx s2=>qL s2 ⟨14,[],[x],[],t.a⟩
 else if isS s1 [45]=true then(within s1 t.a s1.quiet λq=>S (step1 q)).bind λx s2=>qL s2 ⟨13,[],[x],[],t.a⟩
 else DG E s1
def Jf(n:Nat)(w:Str):Int:=
 if n=0 then(if w=[124,124]then 27 else 0)
 else if n=1 then(if w=[38,38]then 26 else 0)
 else if n=2 then(if w=[61,61]then 20 else if w=[33,61]then 21 else 0)
 else if n=3 then(if w=[60]then 22 else if w=[62]then 23 else if w=[60,61]then 24 else if w=[62,61]then 25 else 0)
 else if n=4 then(if w=[43]then 15 else if w=[45]then 16 else 0)
 else if n=5 then(if w=[42]then 17 else if w=[47]then 18 else if w=[37]then 19 else 0)
 else 0
def wE(t:Tok)(n:Nat):Int:=if t.k=4 then Jf n t.t else 0
def AP(J:PS->R Nat)(n:Nat):Nat->PS->Nat->R Nat
 |0,_,_=>.err 0 0
 |f+1,s,a=>
  let t:=cur s
  if wE t n=0 then .ok a (bA s)
  else(J (step1 (bA s))).bind λb s1=>(qL s1 ⟨wE t n,[],[a,b],[],t.a⟩).bind λx s2=>AP J n f s2 x
def tM(E S:PS->R Nat):Nat->PS->R Nat
 |0=>zU E S
 |m+1=>λs=>(tM E S m s).bind λa s1=>AP (tM E S m) (5-m) (s.toks.length+1) s1 a
def Cw(E S:PS->R Nat)(s:PS):R Nat:=(tM E S 6 s).bind λa s1=>
 let t:=cur s1
 if(bU s1 [63]).1=true then
  (within (bU s1 [63]).2 t.a (bU s1 [63]).2.quiet λq=>(E q).bind λx q1=>(nY q1 [58]).bind λ_ q2=>(E q2).bind λy q3=>.ok (x,y) q3).bind λz s2=>qL s2 ⟨28,[],[a,z.1,z.2],[],t.a⟩
 else .ok a (bU s1 [63]).2
def dead:PS->R Nat:=λ_=>.err 0 0
def sI:Nat->(PS->R Nat)×(PS->R Nat)
 |0=>(Cw dead dead,zU dead dead)
 |d+1=>(Cw (sI d).1 (sI d).2,zU (sI d).1 (sI d).2)
def qZ:Nat->PS->List Str->R (List Str)
 |0,_,_=>.err 0 0
 |n+1,s,ls=>
  if(cur s).k=3 then(pQ (iR s) (cur s)).bind λl s1=>qZ n s1 (ls++[l])
  else .ok ls (bA s)
def Cq(E B:PS->R Nat)(s:PS)(us:List Atr)(bs:List Nat):R (List Atr×List Nat):=(lL s 1).bind λt s1=>
 if(bU s1 [61]).1=true then(E (bU s1 [61]).2).bind λx s2=>.ok (us++[⟨t.t,x,t.a⟩],bs) s2
 else(B {(bU s1 [61]).2 with i:=(bU s1 [61]).2.i-1}).bind λx s2=>.ok (us,bs++[x]) s2
def qP(E B:PS->R Nat):Nat->PS->List Atr->List Nat->R (List Atr×List Nat)
 |0,_,_,_=>.err 0 0
 |n+1,s,us,bs=>
  if(bU s [125]).1=true then .ok (us,bs) (bU s [125]).2
  else(Cq E B (bU s [125]).2 us bs).bind λx s1=>
   if(cur s1).k≠5/\isS (bA s1) [125]=false then .err 50 (cur (bA s1)).a
   else qP E B n (gD (bA s1)) x.1 x.2
def yB(E B:PS->R Nat)(s:PS):R Nat:=(lL s 1).bind λt s1=>(qZ (s.toks.length+1) s1 []).bind λls s2=>
 if isS s2 [123]=false then .err 50 (cur s2).a
 else(within (bA s2) (cur s2).a false λq=>qP E B (s.toks.length+1) (gD (step1 q)) [] []).bind λx s3=>
  .ok s3.bl.length {s3 with bl:=s3.bl++[⟨t.t,ls,x.1,x.2,t.a⟩]}
def Cc:Nat->PS->R Nat
 |0=>yB dead dead
 |d+1=>yB (sI d).1 (Cc d)
def Nk:Nat->PS->List Nat->R (List Nat)
 |0,_,_=>.err 0 0
 |n+1,s,top=>
  if(cur s).k=0 then .ok top (bA s)
  else(Cc 24 (bA s)).bind λx s1=>
   if(cur s1).k≠5/\(cur s1).k≠0 then .err 50 (cur (bA s1)).a
   else Nk n (gD (bA s1)) (top++[x])
inductive PR where
 |ok (f:Fl)
 |bad (c a:Int)
deriving DecidableEq
def parseM(s:Str):PR:=match qB s with
 |.bad c a=>.bad c a
 |.ok l=>match Nk (l.length+1) (gD ⟨l,0,0,0,false,[],[]⟩) []with
  |.ok top s'=>.ok ⟨s'.ex,s'.bl,top⟩
  |.err c a=>.bad c a
end
end Go.Syn
namespace Go.Eng
section
open Go Go.Num Go.Syn
variable{w:World}{K:Q0}{cs:List Value}{G:Nat->Prop}{T:TypeId}{i:Nat}{n:Nat}{v:Value}{w':World}{P:Program}{c:UInt8}{S:Nat->Prop}
def gP(n:Int):Str×Int:=if 100<(dig (Lib.itoa n)).length then([],3)else(Lib.itoa n,0)
def CF(a b:Str):Str×Int:=if num b=0 then([],10)else gP ((num a).tdiv (num b))
def DR(a b:Str):Str×Int:=if num b=0 then([],10)else gP ((num a).tmod (num b))
inductive EvR (α:Type) where
 |ok (x:α) (left:Nat)
 |err (c a:Int)
def EvR.bind{α β:Type}(r:EvR α)(f:α->Nat->EvR β):EvR β:=match r with
 |.ok x l=>f x l
 |.err c a=>.err c a
inductive MdR (α:Type) where
 |ok (x:α)
 |err (c a:Int)
def MdR.bind{α β:Type}(r:MdR α)(f:α->MdR β):MdR β:=match r with
 |.ok x=>f x
 |.err c a=>.err c a
def MdR.at_{α:Type}(r:MdR α)(l:Nat):EvR α:=match r with
 |.ok x=>.ok x l
 |.err c a=>.err c a
abbrev Env:=Str->Option JV
def Env.set(env:Env)(k:Str)(v:JV):Env:=λs=>if s=k then some v else env s
def aCG(ex:List Ex)(i:Nat):Int:=match ex[i]? with|some e=>e.a|none=>0
def By(v:JV):Option Str:=if v.k=4\/v.k=3 then some v.t else if v.k=2 then some (if v.b then [116,114,117,101]else [102,97,108,115,101])else none
def sZ(ex:List Ex)(args:List Nat):List JV->Nat->Str->Bool->MdR JV
 |[],_,b,kn=>.ok (if kn=true then tV b else uV)
 |v::l,j,b,kn=>if v.k=1 then sZ ex args l (j+1) b false else match By v with
  |some s=>sZ ex args l (j+1) (b++s) kn
  |none=>.err 81 (aCG ex (args.getD j 0))
def sO(t:Str)(a:Int)(v:JV):MdR JV:=
 if v.k=1 then .ok v else if v.k≠6 then .err 81 a else match EU v t with
 |some x=>.ok x
 |none=>.err 82 a
def uE(t:Str)(a:Int):List JV->MdR (List JV)
 |[]=>.ok []
 |v::l=>(sO t a v).bind λx=>(uE t a l).bind λxs=>.ok (x::xs)
def tZ(t:Str)(a:Int)(v:JV):MdR JV:=
 if v.k=1 then .ok v else if v.k≠5 then .err 81 a else(uE t a v.xs).bind λxs=>.ok (lV xs)
def gF(k:Int)(v:JV):Bool:=decide (v.k=k)||decide (v.k=1)
def rC(v i:JV):Bool:=if v.k=1 then gF 3 i||gF 4 i else if v.k=5 then gF 3 i else if v.k=6 then gF 4 i else false
def BJ(a:Int)(v i:JV):MdR JV:=
 if rC v i=true then
  if v.k=1\/i.k=1 then .ok uV
  else if v.k=6 then sO i.t a v
  else if 0<=num i.t/\num i.t<v.xs.length then .ok (v.xs.getD (num i.t).toNat JV.null)else .err 82 a
 else .err 81 a
def zS(k a:Int)(v:JV):MdR JV:=
 if v.k=1 then .ok v else if v.k=3/\k=13 then .ok (nV (gP (-num v.t)).1)else if v.k=2/\k=14 then .ok (bV (!v.b))else .err 81 a
def GF(or:Bool)(a:Int)(x y:JV):MdR JV:=
 if(gF 2 x&&gF 2 y)=true then
  if(x.k≠1/\x.b=or)\/(y.k≠1/\y.b=or)then .ok (bV or)else if x.k=1\/y.k=1 then .ok uV else .ok (bV (!or))
 else .err 81 a
def wT(a:Int)(r:Str×Int):MdR JV:=if r.2=0 then .ok (nV r.1)else .err r.2 a
def IU(k a:Int)(x y:JV):MdR JV:=
 if(gF 3 x&&gF 3 y)=true then
  if x.k=1\/y.k=1 then .ok uV
  else if k=22 then .ok (bV (decide (mP x.t y.t<0)))
  else if k=23 then .ok (bV (decide (0<mP x.t y.t)))
  else if k=24 then .ok (bV (decide (mP x.t y.t<=0)))
  else if k=25 then .ok (bV (decide (0<=mP x.t y.t)))
  else if k=15 then wT a (gP (num x.t+num y.t))
  else if k=16 then wT a (gP (num x.t-num y.t))
  else if k=17 then wT a (gP (num x.t*num y.t))
  else if k=18 then wT a (CF x.t y.t)
  else if k=19 then wT a (DR x.t y.t)
  else .ok (nV [])
 else .err 81 a
def CJ(l:List JV):JV:=l.getD 0 JV.null
def EX(l:List JV):JV:=l.getD 1 JV.null
def XT(ks:List Str)(l:List JV):JV:=if ks.length=l.length/\ks.Nodup then(ks.zip l).foldl (λv p=>zJ v p.1 p.2) (.mk 6 false [] [] [])else JV.null
def kH(ex:List Ex)(e:Ex)(env:Env)(l:List JV):MdR JV:=
 if e.k=1 then .ok JV.null
 else if e.k=2\/e.k=3 then .ok (bV (decide (e.k=2)))
 else if e.k=4 then .ok (nV e.t)
 else if e.k=5 then .ok (tV e.t)
 else if e.k=9 then(match env e.t with|some v=>.ok v|none=>.err 80 e.a)
 else if e.k=6 then sZ ex e.args l 0 [] true
 else if e.k=7 then .ok (lV l)
 else if e.k=8 then .ok (XT e.keys l)
 else if e.k=10 then sO e.t e.a (CJ l)
 else if e.k=30 then tZ e.t e.a (CJ l)
 else if e.k=11 then BJ e.a (CJ l) (EX l)
 else if e.k=12 then(if(qG e.t l).2=0 then .ok (qG e.t l).1 else .err (qG e.t l).2 e.a)
 else if e.k=13\/e.k=14 then zS e.k e.a (CJ l)
 else if e.k=20\/e.k=21 then(if iB (CJ l)=true/\iB (EX l)=true then .ok (bV (decide (CH (CJ l) (EX l)=0)==decide (e.k=20)))else .ok uV)
 else if e.k=26\/e.k=27 then GF (decide (e.k=27)) e.a (CJ l) (EX l)
 else IU e.k e.a (CJ l) (EX l)
section
variable(rec_:Nat->Env->Nat->EvR JV)
def pH(env:Env):List Nat->Nat->EvR (List JV)
 |[],left=>.ok [] left
 |a::r,left=>(rec_ a env left).bind λv l=>(pH env r l).bind λvs l'=>.ok (v::vs) l'
def wR(env:Env)(t:Str)(i:Nat):List JV->Nat->EvR (List JV)
 |[],left=>.ok [] left
 |x::r,left=>(rec_ i (env.set t x) left).bind λv l=>(wR env t i r l).bind λvs l'=>.ok (v::vs) l'
def lY(e:Ex)(i:Nat):Nat:=e.args.getD i 0
def Gy(e:Ex)(env:Env)(left:Nat):EvR JV:=
 (rec_ (lY e 0) env left).bind λc l=>
   if c.k=1 then .ok c l else if c.k≠2 then .err 81 e.a else if c.b=true then rec_ (lY e 1) env l else rec_ (lY e 2) env l
def Vh(e:Ex)(env:Env)(left:Nat):EvR JV:=
 (rec_ (lY e 0) env left).bind λc l=>
   if c.k=1 then .ok c l else if c.k≠5 then .err 81 e.a else(wR rec_ env e.t (lY e 1) c.xs l).bind λvs l'=>.ok (lV vs) l'
def sM(ex:List Ex)(e:Ex)(env:Env)(left:Nat):EvR JV:=
 if e.k=28 then Gy rec_ e env left
 else if e.k=29 then Vh rec_ e env left
 else(pH rec_ env e.args left).bind λl left'=>(kH ex e env l).at_ left'
def xE(ex:List Ex)(e:Ex)(env:Env)(left:Nat):EvR JV:=
 if left=0 then .err 3 e.a else(sM rec_ ex e env (left-1)).bind λv l=>if dX v=true then .ok v l else .err 3 e.a
end
def tW(ex:List Ex):Nat->Nat->Env->Nat->EvR JV
 |0,_,_,_=>.err 0 0
 |n+1,i,env,left=>match ex[i]? with
  |none=>.err 0 0
  |some e=>xE (tW ex n) ex e env left
def qD:List Str->List JV->Env
 |k::ks,x::xs=>λs=>match qD ks xs s with
  |some v=>some v
  |none=>if s=k then some x else none
 |_,_=>λ_=>none
def zZ(f:Fl)(i:Nat)(scope:JV):MdR JV:=match tW f.ex (i+1) i (qD scope.ks scope.xs) 20000 with
 |.ok v _=>.ok v
 |.err c a=>.err c a
theorem Ja{f g:Nat->Env->Nat->EvR JV}(env:Env):∀(ags:List Nat) (left:Nat),(∀a∈ags,∀env l,f a env l=g a env l)->pH f env ags left=pH g env ags left
 |[],_,_=>rfl
 |a::r,left,h=>by
  unfold pH
  rw[h a (by simp)]
  congr 1
  funext v l
  rw[Ja env r l λa ha=>h a (aS _ ha)]
theorem IZ{f g:Nat->Env->Nat->EvR JV}(env:Env)(t:Str)(i:Nat)(h:∀env l,f i env l=g i env l):∀(xs:List JV) (left:Nat),wR f env t i xs left=wR g env t i xs left
 |[],_=>rfl
 |x::r,left=>by
  unfold wR
  rw[h]
  congr 1
  funext v l
  rw[IZ env t i h r l]
theorem If{f g:Nat->Env->Nat->EvR JV}{ex:List Ex}{e:Ex}(h3:e.k=28->3<=e.args.length)(h2:e.k=29->2<=e.args.length)(h:∀a∈e.args,∀env l,f a env l=g a env l)(env:Env)(left:Nat):xE f ex e env left=xE g ex e env left:=by
 have hm:∀j,j<e.args.length->∀env l,f (lY e j) env l=g (lY e j) env l:=λj hj=>h _ (by unfold lY;rw[List.getD_eq_getElem?_getD,List.getElem?_eq_getElem hj];simp);unfold xE;by_cases hl:left=0
 ·rw[aI hl,aI hl]
 rw[aE hl,aE hl];congr 1;unfold sM;by_cases k28:e.k=28
 ·rw[aI k28,aI k28];have:=h3 k28;unfold Gy;rw[hm 0 (by omega)];congr 1;funext c l;rw[hm 1 (by omega),hm 2 (by omega)]
 rw[aE k28,aE k28];by_cases k29:e.k=29
 ·rw[aI k29,aI k29];have:=h2 k29;unfold Vh;rw[hm 0 (by omega)];congr 1;funext c l;rw[IZ env e.t (lY e 1) (hm 1 (by omega))]
 rw[aE k29,aE k29,Ja env e.args _ h]
structure kJ(ex:List Ex):Prop where
 ahead:∀(i:Nat) (e:Ex),ex[i]?=some e->∀a∈e.args,a<i
 a3:∀e∈ex,e.k=28->3<=e.args.length
 a2:∀e∈ex,e.k=29->2<=e.args.length
theorem RG{ex:List Ex}(h:kJ ex):∀(i n m:Nat),i<n->i<m->∀env l,tW ex n i env l=tW ex m i env l:=by
 intro i;induction i using Nat.strongRecOn with
 |ind i ih=>
 intro n m hn hm env l;cases n with
 |zero=>omega
 |succ n=>
 cases m with
 |zero=>omega
 |succ m=>
 unfold tW;cases he:ex[i]? with
 |none=>rfl
 |some e=>
  have hm':=bI he;refine If (h.a3 e hm') (h.a2 e hm') (λa ha env l=>?_) env l;have:=h.ahead i e he a ha;exact ih a this n m (by omega) (by omega) env l
theorem yG{ex:List Ex}(h:kJ ex){e:Ex}(he:ex[i]?=some e)(hn:i<n)(env:Env)(l:Nat):tW ex n i env l=xE (λa env l=>tW ex (a+1) a env l) ex e env l:=by
 cases n with
 |zero=>omega
 |succ n=>
 rw[tW,he];have hm':=bI he;refine If (h.a3 e hm') (h.a2 e hm') (λa ha env l=>?_) env l;have:=h.ahead i e he a ha;exact RG h a n (a+1) (by omega) (by omega) env l
end
end Go.Eng
namespace Go.Proofs.YtghhmpppnmoeoaaGreatDoor
section
open Go Go.Eng Go.RowKit Go.Syn Go.Lex
variable{w:World}{K:Q0}{cs:List Value}{G:Nat->Prop}{T:TypeId}{i:Nat}{n:Nat}{v:Value}{w':World}{P:Program}{c:UInt8}{S:Nat->Prop}
abbrev TkT:TypeId:=73
abbrev ExT:TypeId:=93
abbrev AtT:TypeId:=88
abbrev BkT:TypeId:=86
abbrev FlT:TypeId:=32
abbrev PsT:TypeId:=70
abbrev iQ:TypeId:=3
abbrev StT:TypeId:=9
theorem aCq:sR P0 28 ExT 5 80:=⟨by kernel_rfl,by kernel_rfl,by decide⟩
theorem aCr:sR P0 29 BkT 5 96:=⟨by kernel_rfl,by kernel_rfl,by decide⟩
theorem aCs:sR P0 84 AtT 3 32:=⟨by kernel_rfl,by kernel_rfl,by decide⟩
theorem BQ:sR P0 30 iQ 1 8:=⟨by kernel_rfl,by kernel_rfl,by decide⟩
theorem QO:sR P0 24 StT 1 16:=⟨by kernel_rfl,by kernel_rfl,by decide⟩
theorem XZ:sR P0 64 TkT 3 32:=⟨by kernel_rfl,by kernel_rfl,by decide⟩
def ints(l:List Nat):List Value:=l.map λn=>i64 (n:Nat)
def strs(l:List Str):List Value:=l.map str
def Oz(l:List Atr):List Value:=l.flatMap λa=>[str a.n,i64 (a.e:Nat),i64 a.a]
def toks(l:List Tok):List Value:=l.flatMap λt=>[i64 t.k,str t.t,i64 t.a]
theorem QA(l:List Nat):(ints l).length=l.length*1:=by simp[ints]
theorem Eg(a b:List Nat):ints (a++b)=ints a++ints b:=by simp[ints]
theorem OW(a b:List Str):strs (a++b)=strs a++strs b:=by simp[strs]
theorem Gq{α:Type}(f:α->List Value)(h:∀a,(f a).length=3):∀l:List α,(l.flatMap f).length=l.length*3
 |[]=>rfl
 |a::l=>by rw[zO,bG,h,Gq f h l,aB];omega
theorem Dl(l:List Tok):(toks l).length=l.length*3:=Gq _ (λ_=>rfl) l
theorem Gr{α:Type}(f:α->List Value)(h:∀a,(f a).length=3):∀(l:List α) (i j:Nat) (x:α),l[i]?=some x->j<3->(l.flatMap f)[i*3+j]?=(f x)[j]?
 |[],i,_,_,hi,_=>by simp at hi
 |a::l,0,j,x,hi,hj=>by
  simp only[List.getElem?_cons_zero,bD]at hi
  subst hi
  rw[zO,List.getElem?_append_left (by rw[h];omega),zM,aY]
 |a::l,i+1,j,x,hi,hj=>by
  rw[List.getElem?_cons_succ]at hi
  rw[zO,List.getElem?_append_right (by rw[h];omega),h,show(i+1)*3+j-3=i*3+j by omega]
  exact Gr f h l i j x hi hj
theorem Ia{l:List Tok}{j:Nat}{t:Tok}(h:l[i]?=some t)(hj:j<3):(toks l)[i*3+j]?=[i64 t.k,str t.t,i64 t.a][j]?:=Gr _ (λ_=>rfl) l i j t h hj
def oK{α:Type}(R:α->List Value->Prop)(n:Nat)(xs:List α)(c:List Value):Prop:=c.length=xs.length*n/\∀i x,xs[i]?=some x->R x ((c.drop (i*n)).take n)
theorem oK.nil{α:Type}(R:α->List Value->Prop)(n:Nat):oK R n [] []:=⟨by simp,λi x h=>by simp at h⟩
theorem oK.snoc{α:Type}{R:α->List Value->Prop}{xs:List α}{c d:List Value}{x:α}(h:oK R n xs c)(hd:R x d)(hl:d.length=n):oK R n (xs++[x]) (c++d):=by
 refine⟨by rw[bG,h.1,hl,bG,aB,aN,mA];omega,λi y hy=>?_⟩;by_cases hi:i<xs.length
 ·rw[List.getElem?_append_left hi]at hy;have:=h.2 i y hy;have hm:i*n+n<=xs.length*n:=by rw[<-Nat.succ_mul];exact gG _ hi
  rw[Ce (by rw[h.1];omega),Cd (by rw[aR,h.1];omega)];exact this
 ·rw[List.getElem?_append_right (by omega)]at hy;have h0:i-xs.length=0:=by
   by_cases h0:i-xs.length=0
   ·exact h0
   ·rw[List.getElem?_eq_none (by simp;omega)]at hy;cases hy
  obtain rfl:i=xs.length:=by omega
  rw[h0]at hy;simp only[List.getElem?_cons_zero,bD]at hy;subst hy;rw[<-h.1,List.drop_left,fM (by omega)];exact hd
theorem oK.imp{α:Type}{R R':α->List Value->Prop}{xs:List α}{c:List Value}(h:oK R n xs c)(hi:∀x d,(∀v∈d,v∈c)->R x d->R' x d):oK R' n xs c:=
 ⟨h.1,λi x hx=>hi x _ (λv hv=>List.mem_of_mem_drop (List.mem_of_mem_take hv)) (h.2 i x hx)⟩
def ub(c:List Value):List Nat:=c.filterMap Value.ownBlock
theorem tX(a b:List Value):ub (a++b)=ub a++ub b:=List.filterMap_append
theorem kP{c:List Value}{k:Nat}(hv:v∈c)(hk:v.ownBlock=some k):k∈ub c:=gK.2 ⟨v,hv,hk⟩
theorem gN{k:Nat}:k∈ub [v]↔v.ownBlock=some k:=by simp[ub]
structure Lay where
 vE:Value
 vB:Value
 vT:Value
 cE:List Value
 cB:List Value
def Lay.uses(M:Lay)(f:Nat):List Nat:=f::ub ([M.vE,M.vB,M.vT]++(M.cE++M.cB))
def ExR(w:World)(B:Nat)(e:Ex)(c:List Value):Prop:=
 ∃va vk,c=[i64 e.k,str e.t,va,vk,i64 e.a]/\Own w B iQ 1 va e.args.length (ints e.args)/\Own w B StT 1 vk e.keys.length (strs e.keys)
def BkR(w:World)(B:Nat)(b:Blk)(c:List Value):Prop:=
 ∃vl va vb,c=[str b.typ,vl,va,vb,i64 b.a]/\Own w B StT 1 vl b.labels.length (strs b.labels)/\Own w B AtT 3 va b.attrs.length (Oz b.attrs)/\Own w B iQ 1 vb b.blocks.length (ints b.blocks)
theorem jA{B:Nat}{e:TypeId}{m:Nat}{xs:List Value}(h:Own w B e m v n xs)(hc:Chg S w w')(hS:∀k,v.ownBlock=some k->¬S k):Own w' B e m v n xs:=by
 obtain⟨hl,hn|⟨g,cap,cur,rfl,hb,hg,r⟩⟩:=h
 ·exact⟨hl,.inl hn⟩
 ·exact⟨hl,.inr ⟨g,cap,cur,rfl,hb,hc.at hg (hS g rfl),r⟩⟩
theorem qM{B:Nat}{e:TypeId}{m:Nat}{xs:List Value}(h:Own w B e m v n xs){k:Nat}(hk:v.ownBlock=some k):k<w.heap.size/\B<=k:=by
 obtain⟨h1,c,h2⟩:=h.block k hk;exact⟨fC h2,h1⟩
theorem ExR.at_{B:Nat}{e:Ex}{c:List Value}(h:ExR w B e c)(hc:Chg S w w')(hS:∀k∈ub c,¬S k):ExR w' B e c:=by
 obtain⟨va,vk,rfl,h1,h2⟩:=h;exact⟨va,vk,rfl,jA h1 hc λk hk=>hS k (kP (v:=va) (by simp) hk),jA h2 hc λk hk=>hS k (kP (v:=vk) (by simp) hk)⟩
theorem BkR.at_{B:Nat}{e:Blk}{c:List Value}(h:BkR w B e c)(hc:Chg S w w')(hS:∀k∈ub c,¬S k):BkR w' B e c:=by
 obtain⟨vl,va,vb,rfl,h1,h2,h3⟩:=h;exact⟨vl,va,vb,rfl,jA h1 hc λk hk=>hS k (kP (v:=vl) (by simp) hk),jA h2 hc λk hk=>hS k (kP (v:=va) (by simp) hk),jA h3 hc λk hk=>hS k (kP (v:=vb) (by simp) hk)⟩
theorem OL{c d:List Value}(h:∀v∈d,v∈c):∀k∈ub d,k∈ub c:=by
 intro k hk;obtain⟨v,hv,hk⟩:=gK.1 hk;exact kP (h v hv) hk
structure FR(w:World)(B f:Nat)(M:Lay)(ex:List Ex)(bl:List Blk)(top:List Nat):Prop where
 hf:w.heap[f]?=some (.cells [M.vE,M.vB,M.vT].toArray FlT (0,0))
 oE:Own w B ExT 5 M.vE ex.length M.cE
 oB:Own w B BkT 5 M.vB bl.length M.cB
 oT:Own w B iQ 1 M.vT top.length (ints top)
 ee:oK (ExR w B) 5 ex M.cE
 bb:oK (BkR w B) 5 bl M.cB
 nd:(M.uses f).Nodup
 lt:∀k∈M.uses f,k<w.heap.size
 lo:∀k∈M.uses f,k=f\/B<=k
theorem FR.keep{B f:Nat}{M:Lay}{ex:List Ex}{bl:List Blk}{top:List Nat}(h:FR w B f M ex bl top)(hc:Chg S w w')(hS:∀k∈M.uses f,¬S k):FR w' B f M ex bl top:=by
 have hu:∀v∈[M.vE,M.vB,M.vT]++(M.cE++M.cB),∀k,v.ownBlock=some k->¬S k:=λv hv k hk=>hS k (aS _ (kP hv hk));refine⟨hc.at h.hf (hS f bC),jA h.oE hc (hu _ (by simp)),jA h.oB hc (hu _ (by simp)),jA h.oT hc (hu _ (by simp)),?_,?_,h.nd,λk hk=>cN (h.lt k hk) hc.size,h.lo⟩
 ·refine h.ee.imp λx d hd hx=>hx.at_ hc λk hk=>?_;exact hS k (aS _ (OL (λv hv=>by simp[hd v hv]) k hk))
 ·refine h.bb.imp λx d hd hx=>hx.at_ hc λk hk=>?_;exact hS k (aS _ (OL (λv hv=>by simp[hd v hv]) k hk))
abbrev Of(f:Nat):Nat->Prop:=λk=>k=f
abbrev One(b:Nat):Nat->Prop:=λk=>k=b
structure PR(w0 w:World)(p f:Nat)(M:Lay)(vt:Value)(s:PS)(top:List Nat):Prop where
 ch:Chg (Of f) w0 w
 fr:FR w w0.heap.size f M s.ex s.bl top
 ps:w.heap[p]?=some (.cells [vt,i64 (s.i:Nat),i64 s.off,.pointer (some ⟨f,0,none⟩),i64 (s.deep:Nat),.bool s.quiet].toArray PsT (0,0))
 tk:SlAt w TkT vt s.toks.length (toks s.toks)
 np:p∉M.uses f
 lo:w0.heap.size<=p
 nt:∀k,vt.ownBlock=some k->k∉M.uses f/\k≠p/\k<w.heap.size
section
variable{w0 w w' w1 w2:World}{p f b k:Nat}{M M' M1 M2:Lay}{vt:Value}{s:PS}{top:List Nat}
theorem PR.lt(h:PR w0 w p f M vt s top):p<w.heap.size:=fC h.ps
theorem PR.base(h:PR w0 w p f M vt s top):w0.heap.size<=w.heap.size:=h.ch.size
def Tn(p f:Nat)(M:Lay)(k:Nat):Prop:=k=p\/k=f\/M.vE.ownBlock=some k\/M.vB.ownBlock=some k
structure Eff(p f:Nat)(M M':Lay)(w w':World):Prop where
 chg:Chg (Tn p f M) w w'
 us:∀k∈M'.uses f,k∈M.uses f\/w.heap.size<=k
 hE:∀k,M'.vE.ownBlock=some k->M.vE.ownBlock=some k\/w.heap.size<=k
 hB:∀k,M'.vB.ownBlock=some k->M.vB.ownBlock=some k\/w.heap.size<=k
 hT:M'.vT=M.vT
theorem Eff.of(h:Chg (Tn p f M) w w'):Eff p f M M w w':=⟨h,λ_ h=>.inl h,λ_ h=>.inl h,λ_ h=>.inl h,rfl⟩
theorem Eff.refl(p f:Nat)(M:Lay)(w:World):Eff p f M M w w:=Eff.of (Chg.refl _ _)
theorem Eff.ext(h:Ext w w'):Eff p f M M w w':=Eff.of (Chg.of_ext h)
theorem Eff.trans(h:Eff p f M M1 w w1)(h':Eff p f M1 M2 w1 w2):Eff p f M M2 w w2:=by
 have hz:=h.chg.size;refine⟨h.chg.then h'.chg λk hk e=>?_,λk hk=>?_,λk hk=>?_,λk hk=>?_,h'.hT.trans h.hT⟩
 ·rcases e with e|e|e|e
  ·exact .inl e
  ·exact .inr (.inl e)
  ·exact .inr (.inr (.inl ((h.hE k e).resolve_right (by omega))))
  ·exact .inr (.inr (.inr ((h.hB k e).resolve_right (by omega))))
 ·exact(h'.us k hk).elim (h.us k) λe=>.inr (by omega)
 ·exact(h'.hE k hk).elim (h.hE k) λe=>.inr (by omega)
 ·exact(h'.hB k hk).elim (h.hB k) λe=>.inr (by omega)
theorem Eff.then(h:Eff p f M M1 w w1)(hc:Chg S w1 w2)(hS:∀k,k<w.heap.size->¬S k):Eff p f M M1 w w2:=⟨h.chg.then hc λk hk e=>(hS k hk e).elim,h.us,h.hE,h.hB,h.hT⟩
theorem Eff.x(h:Eff p f M M1 w w1)(hc:Ext w1 w2):Eff p f M M1 w w2:=h.then hc λ_ _ e=>e
theorem Eff.one(h:Eff p f M M1 w w1)(hc:Chg (One b) w1 w2)(hb:w.heap.size<=b):Eff p f M M1 w w2:=h.then hc λk hk e=>by have e:k=b:=e;omega
theorem Eff.anew{q:Nat}(hx:Ext w0 w)(h:Eff q f M M' w w')(hq:w0.heap.size<=q):Eff p f M M' w0 w':=by
 have hz:=hx.size;refine⟨(Chg.of_ext hx).then h.chg λk hk e=>?_,λk hk=>(h.us k hk).imp id (by omega),λk hk=>(h.hE k hk).imp id (by omega),λk hk=>(h.hB k hk).imp id (by omega),h.hT⟩;rcases e with e|e|e|e
 ·omega
 ·exact .inr (.inl e)
 ·exact .inr (.inr (.inl e))
 ·exact .inr (.inr (.inr e))
theorem Kx(h:Tn p f M k):k=p\/k∈M.uses f:=by
 rcases h with h|h|h|h
 ·exact .inl h
 ·exact .inr (by subst h;exact bC)
 ·exact .inr (aS _ (kP (v:=M.vE) (by simp) h))
 ·exact .inr (aS _ (kP (v:=M.vB) (by simp) h))
def Off(w0 w:World)(p f:Nat)(M:Lay)(vt:Value)(k:Nat):Prop:=(w0.heap.size<=k/\k<w.heap.size)/\k≠p/\k∉M.uses f/\vt.ownBlock≠some k
theorem Off.no(h:Off w0 w p f M vt k):¬Tn p f M k:=λe=>(Kx e).elim h.2.1 h.2.2.1
theorem Off.eff(h:Off w0 w p f M vt k)(he:Eff p f M M' w w'):Off w0 w' p f M' vt k:=
 ⟨⟨h.1.1,cN h.1.2 he.chg.size⟩,h.2.1,λe=>(he.us k e).elim h.2.2.1 λe=>by have:=h.1.2;omega,h.2.2.2⟩
theorem Off.up(h:Off w0 w p f M vt k)(hz:w.heap.size<=w'.heap.size):Off w0 w' p f M vt k:=⟨⟨h.1.1,cN h.1.2 hz⟩,h.2⟩
theorem PR.off_new(h:PR w0 w p f M vt s top)(hk:w.heap.size<=k)(hk':k<w'.heap.size):Off w0 w' p f M vt k:=
 ⟨⟨cD h.base hk,hk'⟩,λe=>by have:=h.lt;omega,λe=>by have:=h.fr.lt k e;omega,λe=>by have:=(h.nt k e).2.2;omega⟩
theorem Eff.at_{o:Obj}(he:Eff p f M M' w w')(hk:w.heap[k]?=some o)(h:Off w0 w p f M vt k):w'.heap[k]?=some o:=he.chg.at hk h.no
theorem Eff.own{B:Nat}{e:TypeId}{m:Nat}{xs:List Value}(he:Eff p f M M' w w')(h:Own w B e m v n xs)(ho:∀k,v.ownBlock=some k->Off w0 w p f M vt k):Own w' B e m v n xs:=jA h he.chg λk hk=>(ho k hk).no
theorem PR.keep(h:PR w0 w p f M vt s top)(hc:Chg S w w')(hb:∀k,k<w0.heap.size->¬S k)(hS:∀k∈M.uses f,¬S k)(hp:¬S p)(ht:∀k,vt.ownBlock=some k->¬S k):PR w0 w' p f M vt s top:=by
 refine⟨h.ch.then hc λk hk e=>(hb k hk e).elim,h.fr.keep hc hS,hc.at h.ps hp,?_,h.np,h.lo,λk hk=>⟨(h.nt k hk).1,(h.nt k hk).2.1,cN (h.nt k hk).2.2 hc.size⟩⟩;obtain⟨q,cap,hv,h1,h2,h3⟩:=h.tk;refine⟨q,cap,hv,h1,h2,λhne=>?_⟩;obtain⟨b,off,c,fr,hq,hb,hcs⟩:=h3 hne;exact⟨b,off,c,fr,hq,hc.at hb (ht b (by rw[hv,hq];rfl)),hcs⟩
theorem PR.ext(h:PR w0 w p f M vt s top)(hc:Ext w w'):PR w0 w' p f M vt s top:=h.keep hc (λ_ _ e=>e) (λ_ _ e=>e) (λe=>e) λ_ _ e=>e
theorem cY(w:World):Ext w w.drew:=Chg.drew (Chg.refl _ _)
theorem PR.drew(h:PR w0 w p f M vt s top):PR w0 w.drew p f M vt s top:=h.ext (cY w)
theorem PR.one{w3:World}(h:PR w0 w p f M vt s top)(hc:Chg (One b) w w')(ho:Off w0 w3 p f M vt b):PR w0 w' p f M vt s top:=
 h.keep hc (λk hk e=>by have e:k=b:=e;have:=ho.1.1;omega) (λk hk e=>ho.2.2.1 (by have e:k=b:=e;exact e▸hk)) (λe=>ho.2.1 e.symm) λk hk e=>ho.2.2.2 (by have e:k=b:=e;rw[hk,e])
theorem PR.ld{off:Nat}{K:Value->Prop}(h:PR w0 w p f M vt s top)(hv:[vt,i64 (s.i:Nat),i64 s.off,.pointer (some ⟨f,0,none⟩),i64 (s.deep:Nat),.bool s.quiet][off]?=some v)(hk:K v):
  dO (.pointer (some ⟨p,0,none⟩)) λt=>aX off t λt=>ldW false 1 t w K:=by
 rw[dR,bS,dY];refine⟨v,?_,hk⟩;rw[bZ,cJ,h.ps,cP,aY];simpa using hv
theorem PR.self{s':PS}(h:PR w0 w p f M vt s top)(hc:Chg (One p) w w')(hb:w'.heap[p]?=some (.cells [vt,i64 (s'.i:Nat),i64 s'.off,.pointer (some ⟨f,0,none⟩),i64 (s'.deep:Nat),.bool s'.quiet].toArray PsT (0,0)))
  (h1:s'.toks=s.toks)(h2:s'.ex=s.ex)(h3:s'.bl=s.bl):PR w0 w' p f M vt s' top:=by
 refine⟨h.ch.then hc λk hk e=>(by have e:k=p:=e;have:=h.lo;omega),by rw[h2,h3];exact h.fr.keep hc λk hk e=>h.np (by have e:k=p:=e;exact e▸hk),hb,?_,h.np,h.lo,λk hk=>⟨(h.nt k hk).1,(h.nt k hk).2.1,cN (h.nt k hk).2.2 hc.size⟩⟩;rw[h1];obtain⟨q,cap,hv,g1,g2,g3⟩:=h.tk;refine⟨q,cap,hv,g1,g2,λhne=>?_⟩;obtain⟨b,off,c,fr,hq,hb,hcs⟩:=g3 hne;exact⟨b,off,c,fr,hq,hc.at hb ((h.nt b (by rw[hv,hq];rfl)).2.1),hcs⟩
theorem EA(hc:Chg (One p) w w'):Eff p f M M w w':=Eff.of (hc.mono λk _ e=>.inl e)
theorem PR.st_i{K:World->Prop}(h:PR w0 w p f M vt s top)(hK:∀w',PR w0 w' p f M vt {s with i:=i} top->Eff p f M M w w'->w'.heap.size=w.heap.size->K w'):
  dO (.pointer (some ⟨p,0,none⟩)) λt=>aX 1 t λt=>stW 1 t (i64 (i:Nat)) w K:=by
 rw[dR,bS,bZ,aY];refine jD h.ps rfl (by simp) λw' hz hb hc=>hK w' (h.self hc (by rw[hb];simp) rfl rfl rfl) (EA hc) hz
theorem PR.st_deep{K:World->Prop}(h:PR w0 w p f M vt s top)(hK:∀w',PR w0 w' p f M vt {s with deep:=i} top->Eff p f M M w w'->w'.heap.size=w.heap.size->K w'):
  dO (.pointer (some ⟨p,0,none⟩)) λt=>aX 4 t λt=>stW 1 t (i64 (i:Nat)) w K:=by
 rw[dR,bS,bZ,aY];refine jD h.ps rfl (by simp) λw' hz hb hc=>hK w' (h.self hc (by rw[hb];simp) rfl rfl rfl) (EA hc) hz
theorem PR.st_quiet{q:Bool}{K:World->Prop}(h:PR w0 w p f M vt s top)(hK:∀w',PR w0 w' p f M vt {s with quiet:=q} top->Eff p f M M w w'->w'.heap.size=w.heap.size->K w'):
  dO (.pointer (some ⟨p,0,none⟩)) λt=>aX 5 t λt=>stW 1 t (.bool q) w K:=by
 rw[dR,bS,bZ,aY];refine jD h.ps rfl (by simp) λw' hz hb hc=>hK w' (h.self hc (by rw[hb];simp) rfl rfl rfl) (EA hc) hz
theorem PR.go{K:World->Prop}(h:PR w0 w p f M vt s top)(hi:s.i<=1000000)(hK:∀w',PR w0 w' p f M vt (step1 s) top->Eff p f M M w w'->w'.heap.size=w.heap.size->K w'):
  dO (.pointer (some ⟨p,0,none⟩)) λt=>aX 1 t λt=>ldW false 1 t w λt=>aQ .add t (.int .i64 1) λt1=>dO (.pointer (some ⟨p,0,none⟩)) λt=>aX 1 t λt=>stW 1 t t1 w K:=by
 refine h.ld rfl ?_;rw[cG,cQ (by omega) (by omega)];exact h.st_i (i:=s.i+1) hK
def Loc(w0 w:World)(p f:Nat)(M:Lay)(vt:Value)(b:Nat)(T:TypeId)(cs:List Value):Prop:=w.heap[b]?=some (.cells cs.toArray T (0,0))/\Off w0 w p f M vt b
variable{T:TypeId}{cs:List Value}
theorem Loc.eff(h:Loc w0 w p f M vt b T cs)(he:Eff p f M M' w w'):Loc w0 w' p f M' vt b T cs:=⟨he.at_ h.1 h.2,h.2.eff he⟩
theorem Loc.ext(h:Loc w0 w p f M vt b T cs)(hx:Ext w w'):Loc w0 w' p f M vt b T cs:=h.eff (Eff.ext hx)
theorem Loc.drew(h:Loc w0 w p f M vt b T cs):Loc w0 w.drew p f M vt b T cs:=h.ext (cY w)
theorem Loc.one{b':Nat}(h:Loc w0 w p f M vt b T cs)(hc:Chg (One b') w w')(hb:b≠b'):Loc w0 w' p f M vt b T cs:=⟨hc.at h.1 hb,h.2.up hc.size⟩
theorem Loc.lt(h:Loc w0 w p f M vt b T cs):b<w.heap.size:=h.2.1.2
theorem Loc.ld{off:Nat}{K:Value->Prop}(h:Loc w0 w p f M vt b T cs)(hv:cs[off]?=some v)(hk:K v):ldW false 1 (.pointer (some ⟨b,off,none⟩)) w K:=by
 rw[dY];refine⟨v,?_,hk⟩;rw[cJ,h.1,cP];simpa using hv
theorem Loc.ldf{off:Nat}{K:Value->Prop}(h:Loc w0 w p f M vt b T cs)(hv:cs[off]?=some v)(hk:K v):aX off (.pointer (some ⟨b,0,none⟩)) λt=>ldW false 1 t w K:=by
 rw[bS,bZ,aY];exact h.ld hv hk
theorem Loc.st{off:Nat}{K:World->Prop}(h:Loc w0 w p f M vt b T cs)(h1:gC v=true)(hoff:off<cs.length)
  (hK:∀w',Loc w0 w' p f M vt b T (cs.set off v)->Chg (One b) w w'->w'.heap.size=w.heap.size->K w'):stW 1 (.pointer (some ⟨b,off,none⟩)) v w K:=
 jD h.1 h1 (by simpa using hoff) λw' hz hb hc=>hK w' ⟨by rw[hb];simp,h.2.up (by omega)⟩ hc hz
theorem PR.loc(h:PR w0 w p f M vt s top)(hz:w'.heap.size=w.heap.size+1){b:Nat}(hb:b=w.heap.size)(hc:w'.heap[b]?=some (.cells cs.toArray T (0,0))):Loc w0 w' p f M vt b T cs:=⟨hc,h.off_new (by omega) (by omega)⟩
end
end
end Go.Proofs.YtghhmpppnmoeoaaGreatDoor
namespace Go.Syn
section
open Go Go.Eng Go.Lex
variable{w:World}{K:Q0}{cs:List Value}{G:Nat->Prop}{T:TypeId}{i:Nat}{n:Nat}{v:Value}{w':World}{P:Program}{c:UInt8}{S:Nat->Prop}
theorem kN{s:Str}(k:Nat)(h:s.length<=n):(s.drop k).length<=n:=by rw[aR];omega
theorem Mz:∀(N:Nat) (r:Str),r.length<=N->(∀m m' c,r.length<m->r.length<m'->Bf m r c=Bf m' r c)/\(∀m m',r.length<m->r.length<m'->AG m r=AG m' r):=by
 intro N;induction N with
 |zero=>
  intro r hr;have:r=[]:=bJ (by omega);subst this;refine⟨λm m' c h h'=>?_,λm m' h h'=>?_⟩
  ·obtain⟨m,rfl⟩:∃k,m=k+1:=⟨m-1,by simp at h;omega⟩;obtain⟨m',rfl⟩:∃k,m'=k+1:=⟨m'-1,by simp at h';omega⟩;rfl
  ·obtain⟨m,rfl⟩:∃k,m=k+1:=⟨m-1,by simp at h;omega⟩;obtain⟨m',rfl⟩:∃k,m'=k+1:=⟨m'-1,by simp at h';omega⟩;rfl
 |succ N ih=>
  intro r hr;cases r with
  |nil=>exact⟨λm m' c h h'=>(ih [] (by simp)).1 m m' c h h',λm m' h h'=>(ih [] (by simp)).2 m m' h h'⟩
  |cons c r=>
   simp only[aB]at hr;have hr:r.length<=N:=by omega
   refine⟨λm m' d h h'=>?_,λm m' h h'=>?_⟩
   ·obtain⟨m,rfl⟩:∃k,m=k+1:=⟨m-1,by simp at h;omega⟩;obtain⟨m',rfl⟩:∃k,m'=k+1:=⟨m'-1,by simp at h';omega⟩;simp only[aB]at h h';have hb:=λd=>(ih r hr).1 m m' d (by omega) (by omega);have hq:=(ih r hr).2 m m' (by omega) (by omega);have hd:=λk d=>(ih (r.drop k) (kN k hr)).1 m m' d (by rw[aR];omega) (by rw[aR];omega);simp only[Bf,hb,hq,hd]
   ·obtain⟨m,rfl⟩:∃k,m=k+1:=⟨m-1,by simp at h;omega⟩;obtain⟨m',rfl⟩:∃k,m'=k+1:=⟨m'-1,by simp at h';omega⟩;simp only[aB]at h h';have hb:=λd=>(ih r hr).1 m m' d (by omega) (by omega);have hq:=(ih r hr).2 m m' (by omega) (by omega);have hd:=λk=>(ih (r.drop k) (kN k hr)).2 m m' (by rw[aR];omega) (by rw[aR];omega);cases r with
    |nil=>simp only[AG,hb,hq,hd]
    |cons e r'=>
     have h2:=(ih r' (by simp at hr;omega)).2 m m' (by simp at h;omega) (by simp at h';omega);simp only[AG,hb,hd,hq,h2]
def pX(r:Str)(c:Int):Nat:=Bf (r.length+1) r c
def rY(r:Str):Nat:=AG (r.length+1) r
theorem EJ{m:Nat}{r:Str}{c:Int}(h:r.length<m):Bf m r c=pX r c:=(Mz r.length r (aU _)).1 _ _ _ h (eH _)
theorem Hg{m:Nat}{r:Str}(h:r.length<m):AG m r=rY r:=(Mz r.length r (aU _)).2 _ _ h (eH _)
theorem wK{r:Str}(k:Nat){m:Nat}(h:r.length<m):(r.drop k).length<m:=by rw[aR];omega
theorem Rf(c:Int):pX [] c=0:=rfl
theorem oJ(c:UInt8)(r:Str)(d:Int):pX (c::r) d=if c=123 then 1+pX r (d+1)else if c=125 then(if d-1=0 then 1 else 1+pX r (d-1))else if c=34 then(1+rY r)+pX (r.drop (rY r)) d else 1+pX r d:=by
 have h:r.length<(c::r).length:=by simp
 show Bf ((c::r).length+1) (c::r) d=_;rw[Bf,Hg h];rw[EJ h,EJ h,EJ h,EJ (wK _ h)]
theorem Py:rY []=0:=rfl
theorem Bv(c:UInt8)(r:Str):rY (c::r)=if c=34 then 1 else if c=92 then(match r with|[]=>1|_::r'=>2+rY r')else if pD [36,123] (c::r)=true then(1+pX r 0)+rY (r.drop (pX r 0))else 1+rY r:=by
 cases r with
 |nil=>rfl
 |cons e r'=>
  have h:(e::r').length<(c::e::r').length:=by simp
  have h2:r'.length<(c::e::r').length:=by simp;omega
  have hd:∀k,AG (c::e::r').length ((e::r').drop k)=rY ((e::r').drop k):=λk=>Hg (wK k h);show AG ((c::e::r').length+1) (c::e::r')=_;rw[AG.eq_def];simp only[Hg h,EJ h,Hg h2,hd]
theorem My:∀(N:Nat) (r:Str),r.length<=N->(∀m m' d,r.length<m->r.length<m'->nZ m r d=nZ m' r d)/\(∀m m' d,r.length<m->r.length<m'->AT m r d=AT m' r d):=by
 intro N;induction N with
 |zero=>
  intro r hr;have:r=[]:=bJ (by omega);subst this;refine⟨λm m' d h h'=>?_,λm m' d h h'=>?_⟩
  ·obtain⟨m,rfl⟩:∃k,m=k+1:=⟨m-1,by simp at h;omega⟩;obtain⟨m',rfl⟩:∃k,m'=k+1:=⟨m'-1,by simp at h';omega⟩;rfl
  ·obtain⟨m,rfl⟩:∃k,m=k+1:=⟨m-1,by simp at h;omega⟩;obtain⟨m',rfl⟩:∃k,m'=k+1:=⟨m'-1,by simp at h';omega⟩;rfl
 |succ N ih=>
  intro r hr;cases r with
  |nil=>exact⟨λm m' d h h'=>(ih [] (by simp)).1 m m' d h h',λm m' d h h'=>(ih [] (by simp)).2 m m' d h h'⟩
  |cons c r=>
   simp only[aB]at hr;have hr:r.length<=N:=by omega
   refine⟨λm m' d h h'=>?_,λm m' d h h'=>?_⟩
   ·obtain⟨m,rfl⟩:∃k,m=k+1:=⟨m-1,by simp at h;omega⟩;obtain⟨m',rfl⟩:∃k,m'=k+1:=⟨m'-1,by simp at h';omega⟩;simp only[aB]at h h';have ht:=λd=>(ih r hr).1 m m' d (by omega) (by omega);have hi:=λk d=>(ih (r.drop k) (kN k hr)).2 m m' d (by rw[aR];omega) (by rw[aR];omega);have hd:=λk j d=>(ih ((r.drop k).drop j) (kN j (kN k hr))).1 m m' d (by rw[aR,aR];omega) (by rw[aR,aR];omega);cases r with
    |nil=>simp only[nZ,ht,hi,hd]
    |cons e r'=>
     have h2:=λd=>(ih r' (by simp at hr;omega)).1 m m' d (by simp at h;omega) (by simp at h';omega);simp only[nZ,ht,hi,hd,h2]
   ·obtain⟨m,rfl⟩:∃k,m=k+1:=⟨m-1,by simp at h;omega⟩;obtain⟨m',rfl⟩:∃k,m'=k+1:=⟨m'-1,by simp at h';omega⟩;simp only[aB]at h h';have ht:=λd=>(ih r hr).1 m m' d (by omega) (by omega);have hi:=λd=>(ih r hr).2 m m' d (by omega) (by omega);have hd:=λk d=>(ih (r.drop k) (kN k hr)).2 m m' d (by rw[aR];omega) (by rw[aR];omega);simp only[AT,ht,hi,hd]
def gA(r:Str)(d:Nat):Nat×Int:=nZ (r.length+1) r d
def jU(r:Str)(d:Nat):Nat×Int:=AT (r.length+1) r d
theorem tA{m:Nat}{r:Str}{d:Nat}(h:r.length<m):nZ m r d=gA r d:=(My r.length r (aU _)).1 _ _ _ h (eH _)
theorem Lm{m:Nat}{r:Str}{d:Nat}(h:r.length<m):AT m r d=jU r d:=(My r.length r (aU _)).2 _ _ _ h (eH _)
theorem pL(d:Nat):gA [] d=(0,40):=rfl
theorem Eh(d:Nat):jU [] d=(0,40):=rfl
theorem pM(c:UInt8)(r:Str)(d:Nat):gA (c::r) d=if c==34 then(1,0)else if c==10 then(0,40)else if c==92 then(match r with|[]=>(0,40)|e::r'=>if Lex.escOk e then mH 2 (gA r' d)else(0,40))
  else if pD [36,123] (c::r)then(if 24<d+1 then(0,7)else if(jU (r.drop 1) (d+1)).2=0 then mH ((jU (r.drop 1) (d+1)).1+2) (gA ((r.drop 1).drop (jU (r.drop 1) (d+1)).1) d)else(0,(jU (r.drop 1) (d+1)).2))else mH 1 (gA r d):=by
 cases r with
 |nil=>rfl
 |cons e r'=>
  have h:(e::r').length<(c::e::r').length:=by simp
  have h2:r'.length<(c::e::r').length:=by simp;omega
  have hi:∀k d,AT (c::e::r').length ((e::r').drop k) d=jU ((e::r').drop k) d:=λk d=>Lm (wK k h);have hd:∀k j d,nZ (c::e::r').length (((e::r').drop k).drop j) d=gA (((e::r').drop k).drop j) d:=λk j d=>tA (wK j (wK k h));show nZ ((c::e::r').length+1) (c::e::r') d=_;rw[nZ.eq_def];simp only[tA h,tA h2,hi,hd]
theorem BI(c:UInt8)(r:Str)(d:Nat):jU (c::r) d=if c==125 then(1,0)else if c==10 then(0,40)else if c==123 then(if 24<d+1 then(0,7)else if(jU r (d+1)).2=0 then mH ((jU r (d+1)).1+1) (jU (r.drop (jU r (d+1)).1) d)else(0,(jU r (d+1)).2))
  else if c==34 then(if(gA r d).2=0 then mH ((gA r d).1+1) (jU (r.drop (gA r d).1) d)else(0,(gA r d).2))else mH 1 (jU r d):=by
 have h:r.length<(c::r).length:=by simp
 have hd:∀k d,AT (c::r).length (r.drop k) d=jU (r.drop k) d:=λk d=>Lm (wK k h);show AT ((c::r).length+1) (c::r) d=_;rw[AT.eq_def];simp only[Lm h,tA h,hd]
theorem lR{k:Nat}{r:Nat×Int}(h:mH k r=(n,0)):r=(n-k,0)/\k<=n:=by
 obtain⟨a,b⟩:=r;unfold mH at h;split at h
 ·rename_i e;simp only at e;subst e;injection h with h1 _
  subst h1;exact⟨by simp,by omega⟩
 ·rename_i e;injection h with _ h2
  exact absurd h2 e
theorem iY:∀(N:Nat) (r:Str),r.length<=N->
  (∀d k,gA r d=(k,0)->rY r=k/\1<=k/\k<=r.length)/\
  (∀d k,jU r d=(k,0)->(1<=k/\k<=r.length)/\∀c:Int,1<=c->pX r c=if c=1 then k else k+pX (r.drop k) (c-1)):=by
 intro N;induction N with
 |zero=>
  intro r hr;have:r=[]:=bJ (by omega);subst this;refine⟨λd k h=>?_,λd k h=>?_⟩
  ·rw[pL]at h;cases h
  ·rw[Eh]at h;cases h
 |succ N ih=>
  intro r hr;cases r with
  |nil=>exact ih [] (by simp)
  |cons c r=>
   simp only[aB]at hr;have hr:r.length<=N:=by omega
   refine⟨λd k h=>?_,λd k h=>?_⟩
   ·rw[pM]at h;rw[Bv];simp only[fS]at h;split at h
    ·rename_i e;rw[aI e];injection h with h1 _
     subst h1;simp
    rename_i e;rw[aE e];split at h
    ·cases h
    split at h
    ·rename_i e2;rw[aI e2];cases r with
     |nil=>cases h
     |cons x r'=>
      simp only at h⊢;split at h
      ·obtain⟨h1,h2⟩:=lR h;obtain⟨q1,q2,q3⟩:=(ih r' (by simp at hr;omega)).1 d _ h1;simp only[aB];omega
      ·cases h
    rename_i e2;rw[aE e2];split at h
    ·rename_i e3;rw[aI e3];split at h
     ·cases h
     split at h
     ·rename_i e4;obtain⟨h1,h2⟩:=lR h;cases r with
      |nil=>simp[pD]at e3
      |cons x r'=>
       have hx:x=123:=by
        simp[pD]at e3;exact e3.2.symm
       subst hx;simp only[cS,cX]at h1 h2 e4;have hr':r'.length<=N:=by simp at hr;omega
       obtain⟨⟨b1,b2⟩,b3⟩:=(ih r' hr').2 (d+1) (jU r' (d+1)).1 (fK rfl e4);have hb:=b3 1 (by omega);rw[aI rfl]at hb;have hbx:pX (123::r') 0=1+(jU r' (d+1)).1:=by
        rw[oJ,aI rfl];show 1+pX r' (0+1)=_;rw[show(0:Int)+1=1 from rfl,hb]
       rw[hbx];have hdr:(123::r').drop (1+(jU r' (d+1)).1)=r'.drop (jU r' (d+1)).1:=by rw[uG];rfl
       rw[hdr];obtain⟨q1,q2,q3⟩:=(ih (r'.drop (jU r' (d+1)).1) (kN _ hr')).1 d _ h1;rw[aR]at q3;simp only[aB];omega
     ·rename_i e4;injection h with _ h2
      exact absurd h2 e4
    ·rename_i e3;rw[aE e3];obtain⟨h1,h2⟩:=lR h;obtain⟨q1,q2,q3⟩:=(ih r hr).1 d _ h1;simp only[aB];omega
   ·rw[BI]at h;simp only[fS]at h;split at h
    ·rename_i e;injection h with h1 _
     subst h1;refine⟨by simp,λcc hc=>?_⟩;rw[oJ,aE (by rw[e];decide),aI e];by_cases h1:cc=1
     ·subst h1;simp
     ·rw[aE (by omega),aE h1];rfl
    rename_i e;split at h
    ·cases h
    rename_i e10;split at h
    ·rename_i e2;split at h
     ·cases h
     split at h
     ·rename_i e4;obtain⟨h1,h2⟩:=lR h;obtain⟨⟨b1,b2⟩,b3⟩:=(ih r hr).2 (d+1) (jU r (d+1)).1 (fK rfl e4);obtain⟨⟨f1,f2⟩,f3⟩:=(ih (r.drop (jU r (d+1)).1) (kN _ hr)).2 d _ h1;rw[aR]at f2;refine⟨by simp only[aB];omega,λcc hc=>?_⟩;rw[oJ,aI e2,b3 (cc+1) (by omega),aE (by omega),show cc+1-1=cc from by omega,f3 cc hc];by_cases h1':cc=1
      ·rw[aI h1',aI h1'];omega
      ·rw[aE h1',aE h1',iE];have:(c::r).drop k=r.drop (k-1):=by
        obtain⟨j,rfl⟩:∃j,k=j+1:=⟨k-1,by omega⟩;rfl
       rw[this,show(jU r (d+1)).1+(k-((jU r (d+1)).1+1))=k-1 from by omega];omega
     ·rename_i e4;injection h with _ h2
      exact absurd h2 e4
    rename_i e2;split at h
    ·rename_i e3;split at h
     ·rename_i e4;obtain⟨h1,h2⟩:=lR h;obtain⟨q1,q2,q3⟩:=(ih r hr).1 d (gA r d).1 (fK rfl e4);obtain⟨⟨f1,f2⟩,f3⟩:=(ih (r.drop (gA r d).1) (kN _ hr)).2 d _ h1;rw[aR]at f2;refine⟨by simp only[aB];omega,λcc hc=>?_⟩;rw[oJ,aE e2,aE e,aI e3,q1,f3 cc hc];by_cases h1':cc=1
      ·rw[aI h1',aI h1'];omega
      ·rw[aE h1',aE h1',iE];have:(c::r).drop k=r.drop (k-1):=by
        obtain⟨j,rfl⟩:∃j,k=j+1:=⟨k-1,by omega⟩;rfl
       rw[this,show(gA r d).1+(k-((gA r d).1+1))=k-1 from by omega];omega
     ·rename_i e4;injection h with _ h2
      exact absurd h2 e4
    ·rename_i e3;obtain⟨h1,h2⟩:=lR h;obtain⟨⟨f1,f2⟩,f3⟩:=(ih r hr).2 d _ h1;refine⟨by simp only[aB];omega,λcc hc=>?_⟩;rw[oJ,aE e2,aE e,aE e3,f3 cc hc];by_cases h1':cc=1
     ·rw[aI h1',aI h1'];omega
     ·rw[aE h1',aE h1'];have:(c::r).drop k=r.drop (k-1):=by
       obtain⟨j,rfl⟩:∃j,k=j+1:=⟨k-1,by omega⟩;rfl
      rw[this];omega
structure cU(L:List (List Nat))(roots:List Nat):Prop where
 ahead:∀(i:Nat) (us:List Nat),L[i]?=some us->∀a∈us,a<i
 once:∀j,j<L.length->L.flatten.count j+roots.count j=1
 low:∀r∈roots,r<L.length
theorem cU.perm{L:List (List Nat)}{r r':List Nat}(h:cU L r)(hp:r.Perm r'):cU L r':=
 ⟨h.ahead,λj hj=>by rw[<-hp.count_eq];exact h.once j hj,λx hx=>h.low x (hp.mem_iff.2 hx)⟩
theorem cU.flat_lt{L:List (List Nat)}{r:List Nat}(h:cU L r):∀x∈L.flatten,x<L.length:=by
 intro x hx;obtain⟨us,has,hxa⟩:=List.mem_flatten.1 hx;obtain⟨i,hi⟩:=List.getElem?_of_mem has;have h1:=h.ahead i us hi x hxa;have h2:=(List.getElem?_eq_some_iff.1 hi).1;omega
theorem cU.put{L:List (List Nat)}{us roots:List Nat}(h:cU L (us++roots)):cU (L++[us]) (L.length::roots):=by
 refine⟨λi bs hi=>?_,λj hj=>?_,λr hr=>?_⟩
 ·by_cases hl:i<L.length
  ·rw[List.getElem?_append_left hl]at hi;exact h.ahead i bs hi
  ·rw[List.getElem?_append_right (by omega)]at hi;have:i-L.length=0:=by
    by_cases h0:i-L.length=0
    ·exact h0
    ·rw[List.getElem?_eq_none (by simp;omega)]at hi;cases hi
   rw[this]at hi;simp only[List.getElem?_cons_zero,bD]at hi;subst hi;intro a ha;have:=h.low a (eM _ ha);omega
 ·rw[List.flatten_append,lG];simp only[zN,List.flatten_nil,eS,CL];by_cases hl:j<L.length
  ·have h1:=h.once j hl;rw[lG]at h1;have:(L.length==j)=false:=by simp;omega
   rw[this];simp only[eU,jV];omega
  ·have hj2:j=L.length:=by rw[bG,aB,aN]at hj;omega
   subst hj2;have e1:L.flatten.count L.length=0:=List.count_eq_zero.2 λhm=>by have:=h.flat_lt _ hm;omega
   have e2:us.count L.length=0:=List.count_eq_zero.2 λhm=>by have:=h.low _ (eM _ hm);omega
   have e3:roots.count L.length=0:=List.count_eq_zero.2 λhm=>by have:=h.low _ (cW _ hm);omega
   rw[e1,e2,e3];simp
 ·rw[bG,aB,aN];rcases bP.1 hr with rfl|hr
  ·omega
  ·have:=h.low r (cW _ hr);omega
abbrev exL(ex:List Ex):List (List Nat):=ex.map (·.args)
theorem Et{ex:List Ex}{e:Ex}{roots:List Nat}(h:cU (exL ex) (e.args++roots)):cU (exL (ex++[e])) (ex.length::roots):=by
 have:=h.put;rw[eJ]at this;simpa[exL]using this
def Sat{α:Type}(r:R α)(P:α->PS->Prop)(Q:Int->Prop):Prop:=match r with
 |.ok x s=>P x s
 |.err _ a=>Q a
theorem Sat.bind{α β:Type}{r:R α}{f:α->PS->R β}{P:α->PS->Prop}{P':β->PS->Prop}{Q:Int->Prop}(h:Sat r P Q)(hf:∀x s,P x s->Sat (f x s) P' Q):Sat (r.bind f) P' Q:=by
 cases r with
 |ok x s=>exact hf x s h
 |err c a=>exact h
theorem Sat.mono{α:Type}{r:R α}{P P':α->PS->Prop}{Q:Int->Prop}(h:Sat r P Q)(hp:∀x s,P x s->P' x s):Sat r P' Q:=by
 cases r with
 |ok x s=>exact hp x s h
 |err c a=>exact h
def HV(N a:Int)(t:Str):Prop:=insP t=none\/a+t.length+2<=N
structure TG(N off:Int)(l:List Tok):Prop where
 ne:l≠[]
 pos:∀i t,l[i]?=some t->0<=t.a+off/\t.a+off<=N/\(t.k≠0->t.a+off<N)/\(t.k=3->HV N (t.a+off) t.t)/\(t.k=1->t.t≠[])/\(i+1=l.length->t.k=0)
structure WS(N:Int)(s:PS):Prop where
 tg:TG N s.off s.toks
 lt:s.i<s.toks.length
 pN:0<=N
structure Go1(N:Int)(s s':PS):Prop where
 toks:s'.toks=s.toks
 off:s'.off=s.off
 deep:s'.deep=s.deep
 quiet:s'.quiet=s.quiet
 le:s.i<=s'.i
 lt:s'.i<s'.toks.length
 exs:∀e∈s'.ex,e∈s.ex\/(0<=e.a/\e.a<N)
theorem Go1.trans{N:Int}{s s1 s2:PS}(h:Go1 N s s1)(h':Go1 N s1 s2):Go1 N s s2:=
 ⟨h'.toks.trans h.toks,h'.off.trans h.off,h'.deep.trans h.deep,h'.quiet.trans h.quiet,cD h.le h'.le,h'.lt,λe he=>(h'.exs e he).elim (h.exs e) .inr⟩
theorem Go1.refl{N:Int}{s:PS}(h:WS N s):Go1 N s s:=⟨rfl,rfl,rfl,rfl,aU _,h.lt,λ_ he=>.inl he⟩
theorem Go1.ws{N:Int}{s s':PS}(h:Go1 N s s')(hs:WS N s):WS N s':=⟨by rw[h.toks,h.off];exact hs.tg,h.lt,hs.pN⟩
theorem wX{N:Int}{s:PS}(h:WS N s)(d:Nat)(q:Bool):WS N {s with deep:=d,quiet:=q}:=⟨h.tg,h.lt,h.pN⟩
theorem DZ:∀{l:List Tok},l≠[]->(∀t,l.getLast?=some t->t.k≠5)->gW l<l.length
 |[],h,_=>absurd rfl h
 |[t],_,h=>by
  have:=h t rfl
  simp[gW,this]
 |t::u::r,_,h=>by
  have ih:=DZ (l:=u::r) (by simp) (λx hx=>h x (by simpa using hx))
  simp only[gW,aB]at ih⊢
  split<;>omega
theorem TG.last{N off:Int}{l:List Tok}(h:TG N off l)(hi:i<l.length):gW (l.drop i)<l.length-i:=by
 have hne:l.drop i≠[]:=λe=>by have:=congrArg List.length e;rw[aR,aN]at this;omega
 have:=DZ hne λt ht=>by
  rw[List.getLast?_drop]at ht;rw[aE (by omega)]at ht;rw[List.getLast?_eq_getElem?]at ht;have:=(h.pos _ t ht).2.2.2.2.2 (by omega);omega
 rw[aR]at this;exact this
theorem fX{N:Int}{s:PS}(h:WS N s):Go1 N s (bA s):=by
 unfold bA;split
 ·have:=h.tg.last h.lt;exact⟨rfl,rfl,rfl,rfl,Nat.le_add_right _ _,(by show s.i+_<s.toks.length;have:=h.lt;omega),λ_ he=>.inl he⟩
 ·exact Go1.refl h
theorem xB{N:Int}{s:PS}(h:WS N s):s.toks[s.i]?=some (lP s):=by
 unfold lP;rw[List.getD_eq_getElem?_getD,List.getElem?_eq_getElem h.lt];rfl
theorem jR{N:Int}{s:PS}(h:WS N s):0<=(cur s).a/\(cur s).a<=N/\((cur s).k≠0->(cur s).a<N)/\((cur s).k=3->HV N (cur s).a (cur s).t)/\((cur s).k=1->(cur s).t≠[]):=by
 have hg:=fX h;have hn:=hg.ws h;have h1:=hn.tg.pos _ _ (xB hn);rw[hg.off]at h1;exact⟨h1.1,h1.2.1,h1.2.2.1,h1.2.2.2.1,h1.2.2.2.2.1⟩
theorem jH{N:Int}{s:PS}(h:WS N s)(hk:(cur s).k≠0):Go1 N s (step1 (bA s))/\s.i<(step1 (bA s)).i:=by
 have hg:=fX h;have hn:=hg.ws h;have h1:=(hn.tg.pos _ _ (xB hn)).2.2.2.2.2;have hlt:(bA s).i+1<(bA s).toks.length:=by
  have:=hn.lt;by_cases he:(bA s).i+1=(bA s).toks.length
  ·exact absurd (h1 he) hk
  ·omega
 exact⟨⟨hg.toks,hg.off,hg.deep,hg.quiet,cD hg.le (Nat.le_succ _),hlt,hg.exs⟩,Nat.lt_succ_of_le hg.le⟩
theorem Ux(s:PS)(h:∀k,s.quiet=true->k=gW (s.toks.drop s.i)->gW (s.toks.drop (s.i+k))=0):bA (bA s)=bA s:=by
 unfold bA;split
 ·rename_i hq;have:=h _ hq rfl;simp only[hq,fY,this,fL]
 ·rfl
theorem AO:∀(l:List Tok),gW (l.drop (gW l))=0
 |[]=>rfl
 |t::r=>by
  simp only[gW]
  split
  ·exact AO r
  ·rename_i h
   simp[gW,h]
theorem gM(s:PS):bA (bA s)=bA s:=Ux s λk _ hk=>by rw[<-iE,hk];exact AO _
theorem kO(s:PS):cur (bA s)=cur s:=by
 unfold cur;rw[gM];have:(bA s).off=s.off:=by unfold bA;split<;>rfl
 rw[this]
abbrev Later(N:Int)(s:PS)(s':PS):Prop:=Go1 N s s'/\s.i<s'.i
abbrev InN(N:Int)(a:Int):Prop:=0<=a/\a<=N
theorem lT{s:PS}{w:Str}(h:isS s w=true):(cur s).k≠0:=by
 unfold isS at h;simp only[aL,bB]at h;rw[h.1];decide
theorem jG{N:Int}{s:PS}(h:WS N s)(w:Str):Go1 N s (bU s w).2/\((bU s w).1=true->s.i<(bU s w).2.i)/\(bU s w).2.ex=s.ex/\(bU s w).2.bl=s.bl:=by
 have e1:(bA s).ex=s.ex:=by unfold bA;split<;>rfl
 have e2:(bA s).bl=s.bl:=by unfold bA;split<;>rfl
 unfold bU;split
 ·rename_i hi;have:=jH h (lT hi);exact⟨this.1,λ_=>this.2,e1,e2⟩
 ·exact⟨fX h,(λe=>by cases e),e1,e2⟩
theorem gX(s:PS):(bA s).ex=s.ex/\(bA s).bl=s.bl:=by unfold bA;split<;>exact⟨rfl,rfl⟩
theorem jY{N:Int}{s:PS}(h:WS N s)(w:Str):Sat (nY s w) (λ_ s'=>Later N s s'/\s'.ex=s.ex/\s'.bl=s.bl) (InN N):=by
 unfold nY;split
 ·rename_i hi;exact⟨jH h (lT hi),gX s⟩
 ·have:=jR h;exact⟨this.1,this.2.1⟩
theorem qX{N:Int}{s:PS}(h:WS N s):Go1 N s (iR s)/\((cur s).k≠0->s.i<(iR s).i)/\(iR s).ex=s.ex/\(iR s).bl=s.bl:=by
 unfold iR;split
 ·rename_i hk;have:=jH h hk;exact⟨this.1,λ_=>this.2,gX s⟩
 ·rename_i hk;exact⟨fX h,λe=>absurd e hk,gX s⟩
theorem lK{N:Int}{s:PS}(h:WS N s)(k:Int)(hk0:k≠0):Sat (lL s k) (λt s'=>Later N s s'/\s'.ex=s.ex/\s'.bl=s.bl/\t=cur s/\t.k=k) (InN N):=by
 unfold lL;split
 ·rename_i hk;have:=qX h;exact⟨⟨this.1,this.2.1 (by omega)⟩,this.2.2.1,this.2.2.2,rfl,hk⟩
 ·have:=jR h;exact⟨this.1,this.2.1⟩
theorem mC{N:Int}{s:PS}(h:WS N s):Go1 N s (gD s)/\(gD s).ex=s.ex/\(gD s).bl=s.bl:=by
 have hg:=fX h;have hn:=hg.ws h;have h1:=hn.tg.last hn.lt;rw[hg.toks]at h1;have h2:=hn.lt;rw[hg.toks]at h2;refine⟨⟨hg.toks,hg.off,hg.deep,hg.quiet,?_,?_,hg.exs⟩,gX s⟩
 ·have:=hg.le;show s.i<=(bA s).i+_;omega
 ·show(bA s).i+_<(bA s).toks.length;rw[hg.toks];omega
def EOk(N:Int)(F:PS->R Nat):Prop:=∀s,WS N s->Sat (F s) (λx s'=>Later N s s'/\s'.bl=s.bl/\∀roots,cU (exL s.ex) roots->cU (exL s'.ex) (x::roots)) (InN N)
theorem AH{N:Int}{s:PS}(h:WS N s){e:Ex}(ha:0<=e.a/\e.a<N):Sat (qL s e) (λx s'=>Go1 N s s'/\s'.i=s.i/\s'.bl=s.bl/\∀roots,cU (exL s.ex) (e.args++roots)->cU (exL s'.ex) (x::roots)) (InN N):=
 ⟨⟨rfl,rfl,rfl,rfl,aU _,h.lt,λx hx=>by
   rcases dP.1 hx with hx|hx
   ·exact .inl hx
   ·rw[bQ]at hx
    subst hx
    exact .inr ha⟩,rfl,rfl,λ_ hf=>Et hf⟩
theorem kZ{N:Int}{s:PS}(h:WS N s){α:Type}{a:Int}(ha:InN N a){q:Bool}{f:PS->R α}{P:α->PS->Prop}(hf:WS N {s with deep:=s.deep+1,quiet:=q}->Sat (f {s with deep:=s.deep+1,quiet:=q}) P (InN N)):
  Sat (within s a q f) (λx s'=>∃s1,P x s1/\s'={s1 with deep:=s.deep,quiet:=s.quiet}) (InN N):=by
 unfold within;split
 ·exact ha
 ·exact(hf (wX h _ _)).bind λx s1 h1=>⟨s1,h1,rfl⟩
theorem Go1.back{N:Int}{s s1:PS}{d:Nat}{q:Bool}(h:Go1 N {s with deep:=d,quiet:=q} s1):Go1 N s {s1 with deep:=s.deep,quiet:=s.quiet}:=⟨h.toks,h.off,rfl,rfl,h.le,h.lt,h.exs⟩
theorem qK(p:UInt8->Bool):∀s:Str,eK p s<=s.length
 |[]=>aU _
 |c::r=>by
  have:=qK p r
  simp only[eK,aB]
  split<;>omega
theorem HC:∀(s:Str) (i:Nat),Lib.index s [42,47]=(i:Int)->i+2<=s.length
 |[],i,h=>by
  unfold Lib.index at h
  simp at h
 |b::l,i,h=>by
  unfold Lib.index at h
  split at h
  ·rename_i hp
   have hi:i=0:=by omega
   subst hi
   cases l with
   |nil=>simp[List.isPrefixOf]at hp
   |cons c l=>simp
  ·split at h
   ·omega
   ·rename_i hq
    have h1:Lib.index l [42,47]≠-1:=by simpa using hq
    have hg:=Lib.index_ge l [42,47]
    have:=HC l (i-1) (by omega)
    simp only[aB]
    omega
theorem Hj{p s:Str}(h:pD p s=true):p.length<=s.length:=by
 unfold pD at h;exact(Fe.1 h).length_le
theorem vX:∀(n:Nat) (s:Str),(fG n s).1<=s.length
 |0,_=>gQ _
 |_+1,[]=>gQ _
 |n+1,c::r=>by
  simp only[fG]
  split
  ·have:=vX n r
   simp only[aB]
   omega
  split
  ·have h1:=vX n ((c::r).drop (eK (λb=>b !=10) (c::r)))
   have h2:=qK (λb=>b !=10) (c::r)
   rw[aR]at h1
   simp only
   omega
  split
  ·rename_i hp
   split
   ·exact gQ _
   ·rename_i hi
    obtain⟨i,hii⟩:=Int.eq_ofNat_of_zero_le (by omega:0<=Lib.index (r.drop 1) [42,47])
    have h1:=HC _ _ hii
    have h2:=vX n ((c::r).drop ((Lib.index (r.drop 1) [42,47]).toNat+4))
    rw[hii]at h2⊢
    rw[aR]at h1 h2
    simp only[aB,aW]at h2⊢
    omega
  ·exact gQ _
def noD:Str->Bool
 |[]=>true
 |[c]=>c !=92&&c !=36
 |c::e::r=>if c=92 then noD r else c !=36&&noD (e::r)
theorem CW:∀(n:Nat) (t:Str),t.length<=n->noD t=true->insP t=none
 |_,[],_,_=>rfl
 |_,[_],_,_=>rfl
 |0,c::e::r,h,_=>by simp at h
 |n+1,c::e::r,h,hd=>by
  simp only[noD]at hd
  simp only[insP]
  simp only[aB]at h
  split
  ·rename_i hc
   rw[aI hc]at hd
   rw[CW n r (by omega) hd]
   rfl
  ·rename_i hc
   rw[aE hc]at hd
   simp only[aL,bne_iff_ne,bN]at hd
   rw[aE (λe=>hd.1 e.1),CW n (e::r) (by simp only[aB];omega) hd.2]
   rfl
theorem DO{r:Str}(h1:c≠92)(h2:c≠36)(h:noD r=true):noD (c::r)=true:=by
 cases r with
 |nil=>simp[noD,h1,h2]
 |cons e r=>simp[noD,h1,h2,h]
theorem CX{r:Str}(h:noD r=true):noD (92::c::r)=true:=by simp[noD,h]
theorem CY:∀(n:Nat) (a b:Str),a.length<=n->noD a=true->noD b=true->noD (a++b)=true
 |_,[],b,_,_,hb=>hb
 |0,_::_,b,h,_,_=>by simp at h
 |_,[c],b,_,ha,hb=>by
  simp only[noD,aL,bne_iff_ne,bN]at ha
  exact DO ha.1 ha.2 hb
 |n+1,c::e::r,b,h,ha,hb=>by
  simp only[noD]at ha
  simp only[aB]at h
  split at ha
  ·rename_i hc
   subst hc
   exact CX (CY n r b (by omega) ha hb)
  ·rename_i hc
   simp only[aL,bne_iff_ne,bN]at ha
   exact DO hc ha.1 (CY n (e::r) b (by simp only[aB];omega) ha.2 hb)
theorem IS:∀s:Str,noD (kB s)=true
 |[]=>rfl
 |c::r=>by
  have ih:=IS r
  simp only[kB]
  split
  ·exact CX ih
  rename_i h1
  split
  ·exact CX ih
  split
  ·exact CX ih
  ·simp only[cO,fS,not_or]at h1
   exact DO h1.1.1 h1.2 ih
theorem Mv:∀(n:Nat) (name s:Str) (t:Str) (k:Nat),lU n name s=(t,k,0)->k<=s.length/\noD t=true
 |0,_,_,_,_,h=>by simp[lU]at h
 |n+1,name,s,t,k,h=>by
  have hr:=qK (λb=>b !=10) s
  simp only[lU]at h
  split at h
  ·injection h with h1 h2
   injection h2 with h2 _
   subst h1 h2
   exact⟨hr,rfl⟩
  split at h
  ·cases h
  rename_i hlen
  split at h
  ·rename_i he
   injection h with h1 h2
   injection h2 with h2 _
   obtain⟨i1,i2⟩:=Mv n name (s.drop (eK (λb=>b !=10) s+1)) (lU n name (s.drop (eK (λb=>b !=10) s+1))).1 (lU n name (s.drop (eK (λb=>b !=10) s+1))).2.1 (fK rfl (fK rfl he))
   rw[aR]at i1
   subst h1 h2
   refine⟨by omega,?_⟩
   refine CY _ _ _ (aU _) (CY _ _ _ (aU _) (IS _) rfl) i2
  ·rename_i he
   injection h with _ h2
   injection h2 with _ h2
   exact absurd h2 he
theorem Vd{s:Str}{m:Nat}(hm:(s.drop m).head?=some c):m<s.length:=by
 by_cases hl:m<s.length
 ·exact hl
 ·rw[eW (by omega)]at hm;cases hm
theorem Ek{s t:Str}{k:Nat}(h:iD s=(t,k,0)):1<=k/\k<=s.length/\noD t=true:=by
 unfold iD at h;simp only at h;generalize (if jE ((s.drop 2).headD 0)=true then eK jJ (s.drop 2)else 0)=n at h;split at h
 ·cases h
 split at h
 ·rename_i hh;have hlt:=Vd hh;generalize hH:lU (s.length+1) ((s.drop 2).take n) (s.drop (2+n+1))=x at h;obtain⟨x1,x2,x3⟩:=x;simp only at h;split at h
  ·rename_i he;subst he;injection h with h1 h2
   injection h2 with h2 _
   obtain⟨i1,i2⟩:=Mv _ _ _ _ _ hH;rw[aR]at i1;subst h1 h2;exact⟨by omega,by omega,i2⟩
  ·rename_i he;injection h with _ h2
   injection h2 with _ h2
   exact absurd h2 he
 ·cases h
theorem Hn{s:Str}{t:Tok}{k:Nat}(hs:s≠[])(h:oS s=(t,k,0)):1<=k/\k<=s.length/\t.k≠0/\t.a=0/\(t.k=1->t.t≠[])/\(t.k=3->insP t.t=none\/t.t.length+2<=k):=by
 obtain⟨c,r,rfl⟩:∃c r,s=c::r:=by
  cases s with
  |nil=>exact absurd rfl hs
  |cons c r=>exact⟨c,r,rfl⟩
 unfold oS at h;simp only[List.headD_cons]at h;split at h
 ·injection h with h1 h2
  injection h2 with h2 _
  subst h1 h2;simp
 split at h
 ·rename_i hl;injection h with h1 h2
  injection h2 with h2 h3
  have hp:1<=eK jJ (c::r):=by
   simp only[eK];rw[aI (by unfold jJ;rw[hl];rfl)];omega
  have:=qK jJ (c::r);subst h1 h2;refine⟨hp,this,by simp,rfl,λ_=>?_,λe=>by simp at e⟩;intro e;have e:=congrArg List.length e;rw[cH,aN]at e;omega
 split at h
 ·rename_i hl;injection h with h1 h2
  injection h2 with h2 h3
  have hp:1<=eK iX (c::r):=by
   simp only[eK];rw[aI hl];omega
  have:=qK iX (c::r);subst h1 h2;exact⟨hp,this,by simp,rfl,λe=>by simp at e,λe=>by simp at e⟩
 split at h
 ·split at h
  ·rename_i he;injection h with h1 h2
   injection h2 with h2 _
   have hx:nZ ((c::r).length+1) ((c::r).drop 1) 0=gA r 0:=tA (by simp;omega);rw[hx]at he h1 h2;obtain⟨_,q2,q3⟩:=(iY r.length r (aU _)).1 0 (gA r 0).1 (fK rfl he);subst h1 h2;refine⟨by omega,by simp only[aB];omega,by simp,rfl,λe=>by simp at e,λ_=>.inr ?_⟩;rw[cH];simp only[cS,cX];omega
  ·rename_i he;injection h with _ h2
   injection h2 with _ h2
   exact absurd h2 he
 split at h
 ·injection h with h1 h2
  injection h2 with h2 h3
  obtain⟨i1,i2,i3⟩:=Ek (s:=c::r) (t:=(iD (c::r)).1) (k:=(iD (c::r)).2.1) (fK rfl (fK rfl h3));subst h1 h2;exact⟨i1,i2,by simp,rfl,λe=>by simp at e,λ_=>.inl (CW _ _ (aU _) i3)⟩
 ·injection h with h1 h2
  injection h2 with h2 h3
  subst h1 h2;split at h3
  ·cases h3
  rename_i hz;refine⟨by omega,?_,by simp,rfl,λe=>by simp at e,λe=>by simp at e⟩;unfold uS;split
  ·exact List.length_take_le' _ _
  ·split
   ·exact List.length_take_le' _ _
   ·simp
theorem Io:∀(n:Nat) (s:Str) (a cnt:Nat) (l:List Tok),mT n s a cnt=.ok l->TG ((a+s.length:Nat):Int) 0 l
 |0,_,_,_,_,h=>by simp[mT]at h
 |n+1,s,a,cnt,l,h=>by
  have hk:=vX (s.length+1) s
  simp only[mT]at h
  split at h
  ·cases h
  split at h
  ·rename_i hr
   injection h with h
   subst h
   have:s.length<=(fG (s.length+1) s).1:=by
    have:=congrArg List.length hr;rw[aR,aN]at this;omega
   refine⟨by simp,λi t ht=>?_⟩;have hi:i=0:=by
    by_cases h0:i=0
    ·exact h0
    ·rw[List.getElem?_eq_none (by simp;omega)]at ht;cases ht
   subst hi;simp only[List.getElem?_cons_zero,bD]at ht;subst ht;refine⟨by simp only;omega,by simp only;omega,λe=>absurd rfl e,λe=>by simp at e,λe=>by simp at e,λ_=>rfl⟩
  rename_i hr;split at h
  ·cases h
  rename_i ho;split at h
  ·cases h
  have hlen:s.length-(fG (s.length+1) s).1=(s.drop (fG (s.length+1) s).1).length:=(aR ..).symm;obtain⟨o1,o2,o3,o4,o5,o6⟩:=Hn hr (fK rfl (fK rfl (zP.1 ho)):oS (s.drop (fG (s.length+1) s).1)=((oS (s.drop (fG (s.length+1) s).1)).1,(oS (s.drop (fG (s.length+1) s).1)).2.1,0));split at h
  ·rename_i l' hl';injection h with h
   subst h;have ih:=Io n _ _ _ _ hl';rw[aR]at ih;have eN:a+(fG (s.length+1) s).1+(oS (s.drop (fG (s.length+1) s).1)).2.1+((s.drop (fG (s.length+1) s).1).length-(oS (s.drop (fG (s.length+1) s).1)).2.1)=a+s.length:=by omega
   rw[eN]at ih;refine⟨by simp,λi t ht=>?_⟩;cases i with
   |zero=>
    simp only[List.getElem?_cons_zero,bD]at ht;subst ht;refine⟨by simp only;omega,by simp only;omega,λ_=>by simp only;omega,λe=>?_,λe=>o5 e,λe=>?_⟩
    ·rcases o6 e with h|h
     ·exact .inl h
     ·exact .inr (by simp only;omega)
    ·simp only[aB]at e;have:=ih.ne;exact absurd (bJ (by omega)) this
   |succ i=>
    simp only[List.getElem?_cons_succ]at ht;have:=ih.pos i t ht;exact⟨this.1,this.2.1,this.2.2.1,this.2.2.2.1,this.2.2.2.2.1,λe=>this.2.2.2.2.2 (by simp only[aB]at e;omega)⟩
  ·rename_i hne;exact absurd h (hne l)
theorem FA:∀(n:Nat) (s:Str) (a cnt:Nat) (c b:Int),mT n s a cnt=.bad c b->0<=b/\b<=((a+s.length:Nat):Int)
 |0,_,_,_,_,_,h=>by
  simp only[mT]at h
  injection h with _ h
  subst h
  omega
 |n+1,s,a,cnt,c,b,h=>by
  have hk:=vX (s.length+1) s
  simp only[mT]at h
  split at h
  ·injection h with _ h
   subst h
   omega
  split at h
  ·cases h
  rename_i hr
  split at h
  ·injection h with _ h
   subst h
   omega
  rename_i ho
  split at h
  ·injection h with _ h
   subst h
   omega
  obtain⟨o1,o2,_⟩:=Hn hr (fK rfl (fK rfl (zP.1 ho)):oS (s.drop (fG (s.length+1) s).1)=((oS (s.drop (fG (s.length+1) s).1)).1,(oS (s.drop (fG (s.length+1) s).1)).2.1,0))
  rw[aR]at o2
  split at h
  ·cases h
  ·have ih:=FA n _ _ _ c b h
   rw[aR,aR]at ih
   omega
theorem MY:∀(n:Nat) (s:Str) (i j:Nat),EW n s i=some j->j<s.length
 |0,_,_,_,h=>by simp[EW]at h
 |n+1,s,i,j,h=>by
  simp only[EW]at h
  split at h
  ·cases h
  split at h
  ·injection h with h
   omega
  ·exact MY n s _ j h
theorem Hb{s:Str}{l:List Tok}(h:qB s=.ok l){N off:Int}(h0:0<=off)(hN:off+s.length<=N):TG N off l:=by
 unfold qB at h;split at h
 ·cases h
 split at h
 ·cases h
 have:=Io _ _ _ _ _ h;refine⟨this.ne,λi t ht=>?_⟩;obtain⟨h1,h2,h3,h4,h5,h6⟩:=this.pos i t ht;rw[aY]at h2 h3 h4;rw[Int.add_zero]at h1 h2 h3 h4;refine⟨by omega,by omega,λe=>by have:=h3 e;omega,λe=>?_,h5,h6⟩;rcases h4 e with h|h
 ·exact .inl h
 ·exact .inr (by omega)
theorem Ik{s:Str}{c b:Int}(h:qB s=.bad c b):0<=b/\b<=(s.length:Nat):=by
 unfold qB at h;split at h
 ·injection h with _ h
  subst h;omega
 split at h
 ·rename_i i hi;injection h with _ h
  subst h;have:=MY _ _ _ _ hi;omega
 ·have:=FA _ _ _ _ _ _ h;rw[aY]at this;exact this
theorem Yg:∀(N:Nat) (r:Str),r.length<=N->(∀c,pX r c<=r.length)/\rY r<=r.length:=by
 intro N;induction N with
 |zero=>
  intro r hr;have:r=[]:=bJ (by omega);subst this;exact⟨λc=>aU _,aU _⟩
 |succ N ih=>
  intro r hr;cases r with
  |nil=>exact ih [] (by simp)
  |cons c r=>
   simp only[aB]at hr;have hr:r.length<=N:=by omega
   have h1:=ih r hr;refine⟨λd=>?_,?_⟩
   ·rw[oJ];have h2:=(ih (r.drop (rY r)) (kN _ hr)).1 d;rw[aR]at h2;have h3:=h1.1 (d+1);have h4:=h1.1 (d-1);have h5:=h1.1 d;have h6:=h1.2;simp only[aB]
    (repeat' split)<;>omega
   ·rw[Bv];have h2:=(ih (r.drop (pX r 0)) (kN _ hr)).2;rw[aR]at h2;have h3:=h1.1 0;have h6:=h1.2;cases r with
    |nil=>
     simp only[aB,aN]at*
     (repeat' split)<;>omega
    |cons e r'=>
     have h7:=(ih r' (by simp only[aB]at hr;omega)).2;simp only[aB]at*
     (repeat' split)<;>omega
theorem HM(r:Str)(c:Int):pX r c<=r.length:=(Yg r.length r (aU _)).1 c
theorem AS:∀(n:Nat) (t:Str),t.length<=n->∀i e,insP t=some (i,e)->i+2<=t.length/\i+1<=e/\e<=t.length
 |_,[],_,i,e,h=>by simp[insP]at h
 |_,[_],_,i,e,h=>by simp[insP]at h
 |0,_::_::_,h,_,_,_=>by simp at h
 |n+1,c::x::r,hn,i,e,h=>by
  simp only[aB]at hn
  simp only[insP]at h
  split at h
  ·cases hr:insP r with
   |none=>rw[hr]at h;cases h
   |some y=>
    rw[hr]at h
    simp only[iI,bD,fT]at h
    obtain⟨rfl,rfl⟩:=h
    have:=AS n r (by omega) y.1 y.2 hr
    simp only[aB]
    omega
  split at h
  ·simp only[bD,fT]at h
   obtain⟨rfl,rfl⟩:=h
   have:=HM (x::r) 0
   have e1:JX (x::r)=pX (x::r) 0:=rfl
   rw[e1]
   simp only[aB]at this⊢
   omega
  ·cases hr:insP (x::r)with
   |none=>rw[hr]at h;cases h
   |some y=>
    rw[hr]at h
    simp only[iI,bD,fT]at h
    obtain⟨rfl,rfl⟩:=h
    have:=AS n (x::r) (by simp only[aB];omega) y.1 y.2 hr
    simp only[aB]at this⊢
    omega
section
variable{N:Int}{E S:PS->R Nat}
theorem Ge(hE:EOk N E){s:PS}(h:WS N s){t:Str}{a:Int}(h0:0<=a)(h1:a+t.length<=N):Sat (oX E s t a) (λx s'=>Go1 N s s'/\s'.bl=s.bl/\∀roots,cU (exL s.ex) roots->cU (exL s'.ex) (x::roots)) (InN N):=by
 unfold oX;split
 ·rename_i c b hs;have:=Ik hs;exact⟨by omega,by omega⟩
 ·rename_i l hs;have htg:=Hb hs h0 h1;have hw:WS N ⟨l,0,a,s.deep,false,s.ex,s.bl⟩:=⟨htg,dM.2 htg.ne,h.pN⟩;refine(hE _ hw).bind λx q ⟨⟨hg,_⟩,hb,hf⟩=>?_;have hq:=hg.ws hw;unfold lL;split
  ·refine⟨⟨rfl,rfl,rfl,rfl,aU _,h.lt,λe he=>?_⟩,?_,λroots hr=>?_⟩
   ·have:e∈(iR q).ex:=he;rw[(qX hq).2.2.1]at this;exact hg.exs e this
   ·show(iR q).bl=s.bl;rw[(qX hq).2.2.2];exact hb
   ·show cU (exL (iR q).ex) _;rw[(qX hq).2.2.1];exact hf roots hr
  ·have:=jR hq;exact⟨this.1,this.2.1⟩
theorem FJ{s:PS}(h:WS N s){t:Tok}(ht:InN N t.a):Sat (pQ s t) (λ_ s'=>s'=s) (InN N):=by
 unfold pQ;split
 ·exact ht
 ·rfl
theorem BA(hE:EOk N E):∀(n:Nat) (s:PS) (rest:Str) (a:Int) (us:List Nat) (ks:List Str),WS N s->0<=a->a+rest.length+1<=N->
  Sat (mW E n s rest a us ks) (λx s'=>Go1 N s s'/\s'.bl=s.bl/\∀roots,cU (exL s.ex) (us++roots)->cU (exL s'.ex) (x.1++roots)) (InN N)
 |0,s,_,_,_,_,h,_,_=>⟨nW _,h.pN⟩
 |n+1,s,rest,a,us,ks,h,h0,h1=>by
  have one:∀(e:Ex),e.args=[]->0<=e.a->e.a<N->Go1 N s {s with ex:=s.ex++[e]}/\∀roots,cU (exL s.ex) (us++roots)->cU (exL (s.ex++[e])) ((us++[s.ex.length])++roots):=λe he h2 h3=>
   ⟨⟨rfl,rfl,rfl,rfl,aU _,h.lt,λx hx=>by
     rcases dP.1 hx with hx|hx
     ·exact .inl hx
     ·rw[bQ]at hx;subst hx;exact .inr ⟨h2,h3⟩⟩,
    λroots hf=>by
     have:=Et (e:=e) (roots:=us++roots) (by rw[he];exact hf)
     refine this.perm ?_
     rw[fO]
     exact(pG).symm⟩
  simp only[mW]
  split
  ·exact⟨Go1.refl h,rfl,λ_ hf=>hf⟩
  split
  ·have:=one ⟨5,jZ rest,[],[],a⟩ rfl h0 (by show a<N;omega)
   exact⟨this.1,rfl,this.2⟩
  ·rename_i i e hi
   obtain⟨i1,i2,i3⟩:=AS rest.length rest (aU _) i e hi
   have hs1:∃s1 as1,s1=(if 0<i then{s with ex:=s.ex++[⟨5,jZ (rest.take i),[],[],a⟩]}else s)/\as1=(if 0<i then us++[s.ex.length]else us)/\Go1 N s s1/\s1.bl=s.bl/\∀roots,cU (exL s.ex) (us++roots)->cU (exL s1.ex) (as1++roots):=by
    refine⟨_,_,rfl,rfl,?_⟩;split
    ·have:=one ⟨5,jZ (rest.take i),[],[],a⟩ rfl h0 (by show a<N;omega);exact⟨this.1,rfl,this.2⟩
    ·exact⟨Go1.refl h,rfl,λ_ hf=>hf⟩
   obtain⟨s1,as1,e1,e2,g1,b1,f1⟩:=hs1;rw[<-e1,<-e2];have hw1:=g1.ws h;have hd:((rest.drop e).length:Int)=rest.length-e:=by rw[aR];omega
   split
   ·refine Sat.bind (kZ hw1 (a:=a+i) ⟨by omega,by omega⟩ (P:=λx s'=>Go1 N {s1 with deep:=s1.deep+1,quiet:=false} s'/\s'.bl=s1.bl/\∀roots,cU (exL s1.ex) roots->cU (exL s'.ex) (x::roots)) λhw=>Ge hE hw (by omega) ?_) λx s2 ⟨q,⟨g2,b2,f2⟩,e3⟩=>?_
    ·rw[cH,aR];omega
    ·subst e3;have g2':=g2.back;refine Sat.mono (BA hE n _ (rest.drop e) (a+e) (as1++[x]) _ ((g2').ws hw1) (by omega) (by rw[hd];omega)) λy s3 ⟨g3,b3,f3⟩=>⟨g1.trans (g2'.trans g3),b3.trans (b2.trans b1),λroots hf=>f3 roots ?_⟩;have:=f2 _ (f1 roots hf);refine this.perm ?_;rw[fO];exact(pG).symm
   ·refine Sat.mono (BA hE n s1 (rest.drop e) (a+e) as1 _ hw1 (by omega) (by rw[hd];omega)) λy s3 ⟨g3,b3,f3⟩=>⟨g1.trans g3,b3.trans b1,λroots hf=>f3 roots (f1 roots hf)⟩
theorem OS(hE:EOk N E){s:PS}(h:WS N s){t:Tok}(ha:0<=t.a/\t.a<N)(ht:HV N t.a t.t):Sat (Cj E s t) (λx s'=>Go1 N s s'/\s'.bl=s.bl/\∀roots,cU (exL s.ex) roots->cU (exL s'.ex) (x::roots)) (InN N):=by
 unfold Cj;split
 ·rename_i hi;have ht:t.a+t.t.length+2<=N:=ht.resolve_left λe=>by rw[e]at hi;cases hi
  refine(BA hE (t.t.length+1) s t.t (t.a+1) [] [] h (by omega) (by omega)).bind λx s1 ⟨g1,b1,f1⟩=>?_;refine(AH (g1.ws h) (e:=⟨6,[],x.1,x.2,t.a⟩) ha).mono λy s2 ⟨g2,_,b2,f2⟩=>⟨g1.trans g2,b2.trans b1,λroots hf=>f2 roots (f1 roots hf)⟩
 ·exact(AH h (e:=⟨5,jZ t.t,[],[],t.a⟩) ha).mono λy s2 ⟨g2,_,b2,f2⟩=>⟨g2,b2,λroots hf=>f2 roots hf⟩
theorem Ke(hE:EOk N E)(w:Str):∀(n:Nat) (s:PS) (out:List Nat),WS N s->
  Sat (sP E w n s out) (λx s'=>Later N s s'/\s'.bl=s.bl/\∀roots,cU (exL s.ex) (out++roots)->cU (exL s'.ex) (x++roots)) (InN N)
 |0,s,_,h=>⟨nW _,h.pN⟩
 |n+1,s,out,h=>by
  have step:∀{s1:PS},Go1 N s s1->s1.ex=s.ex->s1.bl=s.bl->Sat ((E s1).bind λx s'=>sP E w n s' (out++[x])) (λx s'=>Later N s s'/\s'.bl=s.bl/\∀roots,cU (exL s.ex) (out++roots)->cU (exL s'.ex) (x++roots)) (InN N):=λ{s1} g1 x1 b1=>by
   refine(hE s1 (g1.ws h)).bind λx s2 ⟨g2,b2,f2⟩=>?_
   refine Sat.mono (Ke hE w n s2 (out++[x]) (g2.1.ws (g1.ws h))) λy s3 ⟨g3,b3,f3⟩=>⟨⟨g1.trans (g2.1.trans g3.1),by have:=g1.le;have:=g2.2;have:=g3.2;omega⟩,b3.trans (b2.trans b1),λroots hf=>f3 roots ?_⟩
   have:=f2 _ (by rw[x1];exact hf)
   refine this.perm ?_
   rw[fO]
   exact(pG).symm
  have t1:=jG h w
  simp only[sP]
  split
  ·rename_i ht
   exact⟨⟨t1.1,t1.2.1 ht⟩,t1.2.2.2,λroots hf=>by rw[t1.2.2.1];exact hf⟩
  split
  ·rename_i ho
   have:=step t1.1 t1.2.2.1 t1.2.2.2
   exact this
  ·refine(jY (t1.1.ws h) [44]).bind λ_ s1 ⟨g1,x1,b1⟩=>?_
   have g01:=t1.1.trans g1.1
   have t2:=jG (g01.ws h) w
   split
   ·rename_i ht
    exact⟨⟨g01.trans t2.1,by have:=t1.1.le;have:=g1.2;have:=t2.1.le;omega⟩,t2.2.2.2.trans (b1.trans t1.2.2.2),λroots hf=>by rw[t2.2.2.1,x1,t1.2.2.1];exact hf⟩
   ·exact step (g01.trans t2.1) (t2.2.2.1.trans (x1.trans t1.2.2.1)) (t2.2.2.2.trans (b1.trans t1.2.2.2))
theorem GL(hE:EOk N E)(w:Str){s:PS}(h:WS N s):Sat (EL E w s) (λx s'=>Later N s s'/\s'.bl=s.bl/\∀roots,cU (exL s.ex) roots->cU (exL s'.ex) (x++roots)) (InN N):=
 (Ke hE w _ s [] h).mono λx s' ⟨g,b,f⟩=>⟨g,b,λroots hf=>f roots hf⟩
theorem Qn(hE:EOk N E){s:PS}(h:WS N s)(hk:(cur s).k≠0)(hq:bA s=s){a:Int}(ha:0<=a/\a<N):Sat (Co E s a) (λe s'=>Later N s s'/\s'.bl=s.bl/\(0<=e.a/\e.a<N)/\∀roots,cU (exL s.ex) roots->cU (exL s'.ex) (e.args++roots)) (InN N):=by
 have hs:=jH h hk;rw[hq]at hs;have hw:=hs.1.ws h;have hn:=fX hw;have ex1:(bA (step1 s)).ex=s.ex:=(gX _).1;have bl1:(bA (step1 s)).bl=s.bl:=(gX _).2;unfold Co;simp only;split
 ·refine(GL hE [93] (hn.ws hw)).bind λus s1 ⟨g1,b1,f1⟩=>?_;exact⟨⟨hs.1.trans (hn.trans g1.1),by have:=hs.2;have:=hn.le;have:=g1.2;omega⟩,b1.trans bl1,ha,λroots hf=>f1 roots (by rw[ex1];exact hf)⟩
 ·rename_i hc;have hk1:(cur (step1 s)).k≠0:=λe=>hc (.inl (by rw[e];decide));have h2:=jH hw hk1;refine(lK (h2.1.ws hw) 1 (by decide)).bind λt s2 ⟨g2,x2,b2,_⟩=>?_;have hw2:=g2.1.ws (h2.1.ws hw);refine(lK hw2 1 (by decide)).bind λu s3 ⟨g3,x3,b3,hu,_⟩=>?_;have hw3:=g3.1.ws hw2;split
  ·have:=jR hw2;rw[hu];exact⟨this.1,this.2.1⟩
  refine(hE s3 hw3).bind λx s4 ⟨g4,b4,f4⟩=>?_;have hw4:=g4.1.ws hw3;refine(jY hw4 [58]).bind λ_ s5 ⟨g5,x5,b5⟩=>?_;have hw5:=g5.1.ws hw4;refine(hE s5 hw5).bind λy s6 ⟨g6,b6,f6⟩=>?_;have hw6:=g6.1.ws hw5;refine(jY hw6 [93]).bind λ_ s7 ⟨g7,x7,b7⟩=>?_;have e01:(step1 (bA (step1 s))).ex=s.ex:=ex1;have e02:(step1 (bA (step1 s))).bl=s.bl:=bl1;refine⟨⟨hs.1.trans (h2.1.trans (g2.1.trans (g3.1.trans (g4.1.trans (g5.1.trans (g6.1.trans g7.1)))))),by have:=hs.2;have:=h2.2;have:=g2.2;have:=g3.2;have:=g4.2;have:=g5.2;have:=g6.2;have:=g7.2;omega⟩,
   b7.trans (b6.trans (b5.trans (b4.trans (b3.trans (b2.trans e02))))),ha,λroots hf=>?_⟩
  rw[x7];have h1:=f4 roots (by rw[x3,x2,e01];exact hf);have h2:=f6 _ (by rw[x5];exact h1);exact h2.perm (List.Perm.swap _ _ _)
theorem Ml(hE:EOk N E){a:Int}(ha:0<=a/\a<N):∀(n:Nat) (s:PS) (us:List Nat) (ks:List Str),WS N s->
  Sat (ES E a n s us ks) (λe s'=>Later N s s'/\s'.bl=s.bl/\(0<=e.a/\e.a<N)/\∀roots,cU (exL s.ex) (us++roots)->cU (exL s'.ex) (e.args++roots)) (InN N)
 |0,s,_,_,h=>⟨nW _,h.pN⟩
 |n+1,s,us,ks,h=>by
  have t1:=jG h [125]
  simp only[ES]
  split
  ·rename_i ht
   exact⟨⟨t1.1,t1.2.1 ht⟩,t1.2.2.2,ha,λroots hf=>by rw[t1.2.2.1];exact hf⟩
  have hw1:=t1.1.ws h
  have n1:=qX hw1
  have hw2:=n1.1.ws hw1
  have hc:=jR hw1
  have hca:InN N (cur (bU s [125]).2).a:=⟨hc.1,hc.2.1⟩
  refine Sat.bind (P:=λ_ s3=>s3=iR (bU s [125]).2/\(cur (bU s [125]).2).k≠0) ?_ λk s3 ⟨e3,hk0⟩=>?_
  ·split
   ·rename_i hk
    exact(FJ hw2 hca).mono λ_ s3 e=>⟨e,by rw[hk];decide⟩
   ·split
    ·rename_i hk
     exact⟨rfl,by rw[hk];decide⟩
    ·exact hca
  subst e3
  split
  ·exact hca
  refine(jY hw2 [61]).bind λ_ s4 ⟨g4,x4,b4⟩=>?_
  have hw4:=g4.1.ws hw2
  refine(hE s4 hw4).bind λx s5 ⟨g5,b5,f5⟩=>?_
  have hw5:=g5.1.ws hw4
  have t5:=jG hw5 [44]
  have hw6:=t5.1.ws hw5
  have n6:=fX hw6
  have g05:=t1.1.trans (n1.1.trans (g4.1.trans (g5.1.trans t5.1)))
  split
  ·have:=jR (n6.ws hw6)
   exact⟨this.1,this.2.1⟩
  have l6:∃s6,s6=(if(bU s5 [44]).1=true then(bU s5 [44]).2 else bA (bU s5 [44]).2)/\Go1 N (bU s5 [44]).2 s6/\s6.ex=(bU s5 [44]).2.ex/\s6.bl=(bU s5 [44]).2.bl:=by
   refine⟨_,rfl,?_⟩;split
   ·exact⟨Go1.refl hw6,rfl,rfl⟩
   ·exact⟨n6,(gX _).1,(gX _).2⟩
  obtain⟨s6,e6,g6,x6,b6⟩:=l6;rw[<-e6];have hw7:=g6.ws hw6;have l7:=mC hw7;refine Sat.mono (Ml hE ha n (gD s6) (us++[x]) (ks++[k]) (l7.1.ws hw7)) λe s8 ⟨g8,b8,ha8,f8⟩=>⟨⟨g05.trans (g6.trans (l7.1.trans g8.1)),by have:=g05.le;have:=g6.le;have:=l7.1.le;have:=g8.2;omega⟩,
   b8.trans (l7.2.2.trans (b6.trans (t5.2.2.2.trans (b5.trans (b4.trans (n1.2.2.2.trans t1.2.2.2)))))),ha8,λroots hf=>f8 roots ?_⟩
  rw[l7.2.1,x6,t5.2.2.1];have:=f5 (us++roots) (by rw[x4,n1.2.2.1,t1.2.2.1];exact hf);refine this.perm ?_;rw[fO];exact(pG).symm
end
theorem _root_.And.tr{N:Int}{s s1 s2:PS}(h:Later N s s1)(h':Later N s1 s2):Later N s s2:=⟨h.1.trans h'.1,Nat.lt_trans h.2 h'.2⟩
theorem Go1.tr{N:Int}{s s1 s2:PS}(h:Go1 N s s1)(h':Later N s1 s2):Later N s s2:=⟨h.trans h'.1,Fb h.le h'.2⟩
section
variable{N:Int}{E S:PS->R Nat}
theorem Iv{l:List Tok}{t:Tok}(h:l[i]?=some t)(hk:t.k≠5):gW (l.drop i)=0:=by
 have hlt:=(List.getElem?_eq_some_iff.1 h).1;rw[cC hlt];have:l[i]=t:=(List.getElem?_eq_some_iff.1 h).2;simp[gW,this,hk]
theorem Qa{N:Int}{s:PS}(h:WS N s)(hk:(lP s).k≠5):bA s=s:=by
 unfold bA;split
 ·rw[Iv (xB h) hk];rfl
 ·rfl
theorem oA{N:Int}{s:PS}(h:WS N s){w:Str}(hi:isS s w=true)(d:Nat)(q:Bool):bA {bA s with deep:=d,quiet:=q}={bA s with deep:=d,quiet:=q}/\(cur {bA s with deep:=d,quiet:=q}).k≠0/\(cur {bA s with deep:=d,quiet:=q}).a=(cur s).a:=by
 have hw:=(fX h).ws h;have hk:(lP (bA s)).k=4:=by
  unfold isS cur at hi;simp only[aL,bB]at hi;exact hi.1
 have e1:bA {bA s with deep:=d,quiet:=q}={bA s with deep:=d,quiet:=q}:=Qa (wX hw d q) (by show(lP (bA s)).k≠5;rw[hk];decide);have e2:(bA s).off=s.off:=by unfold bA;split<;>rfl
 refine⟨e1,?_,?_⟩
 ·unfold cur;rw[e1];show(lP (bA s)).k≠0;rw[hk];decide
 ·unfold cur;rw[e1];show(lP (bA s)).a+(bA s).off=(lP (bA s)).a+s.off;rw[e2]
abbrev Leaves(N:Int)(s:PS)(x:Nat)(s':PS):Prop:=Later N s s'/\s'.bl=s.bl/\∀roots,cU (exL s.ex) roots->cU (exL s'.ex) (x::roots)
theorem pP{s s1:PS}(h:WS N s)(hg:Later N s s1)(hb:s1.bl=s.bl){e:Ex}(ha:0<=e.a/\e.a<N)(hf:∀roots,cU (exL s.ex) roots->cU (exL s1.ex) (e.args++roots)):Sat (qL s1 e) (Leaves N s) (InN N):=
 (AH (hg.1.ws h) ha).mono λx s2 ⟨g2,i2,b2,f2⟩=>⟨⟨hg.1.trans g2,by have:=hg.2;rw[i2];exact this⟩,b2.trans hb,λroots hr=>f2 roots (hf roots hr)⟩
theorem Kc(hE:EOk N E):EOk N (Bh E):=by
 intro s h;have n1:=fX h;have hw1:=n1.ws h;have hc:=jR h;have x1:=gX s;unfold Bh;simp only;split
 ·rename_i hk;have h2:=jH h (by rw[hk];decide);exact pP h h2 x1.2 (e:=⟨4,(cur s).t,[],[],(cur s).a⟩) ⟨hc.1,hc.2.2.1 (by rw[hk];decide)⟩ λroots hr=>by show cU (exL (bA s).ex) _;rw[x1.1];exact hr
 split
 ·rename_i hk;have h2:=jH h (by rw[hk];decide);refine(OS hE (h2.1.ws h) (t:=cur s) ⟨hc.1,hc.2.2.1 (by rw[hk];decide)⟩ (hc.2.2.2.1 hk)).mono λx s2 ⟨g2,b2,f2⟩=>⟨⟨h2.1.trans g2,by have:=h2.2;have:=g2.le;omega⟩,b2.trans x1.2,λroots hr=>f2 roots (by show cU (exL (bA s).ex) _;rw[x1.1];exact hr)⟩
 split
 ·rename_i hk;have hk0:(cur s).k≠0:=by rw[hk.1];decide
  have h2:=jH h hk0;have hw2:=h2.1.ws h;have n2:=fX hw2;have hw3:=n2.ws hw2;have hat:0<=(cur s).a/\(cur s).a<N:=⟨hc.1,hc.2.2.1 hk0⟩;split
  ·rename_i hi;have hc2:=jR hw2;refine Sat.bind (kZ hw3 (a:=(cur (step1 (bA s))).a) (q:=true) ⟨hc2.1,hc2.2.1⟩ (P:=λus s'=>Later N {bA (step1 (bA s))with deep:=(bA (step1 (bA s))).deep+1,quiet:=true} s'/\s'.bl=s.bl/\∀roots,cU (exL s.ex) roots->cU (exL s'.ex) (us++roots)) λhw=>?_) λus s2 ⟨q,⟨g2,b2,f2⟩,e2⟩=>?_
   ·have hh:=oA hw2 hi ((bA (step1 (bA s))).deep+1) true;have h4:=jH hw hh.2.1;rw[hh.1]at h4;exact(GL hE [41] (h4.1.ws hw)).mono λus s' ⟨g,b,f⟩=>⟨h4.tr g,b.trans ((gX _).2.trans x1.2),λroots hr=>f roots (by show cU (exL (bA (step1 (bA s))).ex) _;rw[(gX _).1];show cU (exL (bA s).ex) _;rw[x1.1];exact hr)⟩
   ·subst e2;have g2':=g2.1.back;refine pP h ⟨h2.1.trans (n2.trans g2'),?_⟩ b2 (e:=⟨12,(cur s).t,us,[],(cur s).a⟩) hat f2;have:=h2.2;have:=n2.le;have:=g2'.le;omega
  ·exact pP h ⟨h2.1.trans n2,by have:=h2.2;have:=n2.le;omega⟩ ((gX _).2.trans x1.2) (e:=⟨xO (cur s).t,if xO (cur s).t=9 then(cur s).t else [],[],[],(cur s).a⟩) hat λroots hr=>by rw[(gX _).1];show cU (exL (bA s).ex) _;rw[x1.1];exact hr
 have hca:InN N (cur s).a:=⟨hc.1,hc.2.1⟩;have iC:∀w,isS (bA s) w=isS s w:=λw=>by unfold isS;rw[kO]
 split
 ·rename_i hi;rw[iC]at hi;refine(kZ hw1 (a:=(cur s).a) (q:=true) hca (P:=λx s'=>Later N {bA s with deep:=(bA s).deep+1,quiet:=true} s'/\s'.bl=s.bl/\∀roots,cU (exL s.ex) roots->cU (exL s'.ex) (x::roots)) λhw=>?_).mono λx s2 ⟨q,⟨g2,b2,f2⟩,e2⟩=>?_
  ·have hh:=oA h hi ((bA s).deep+1) true;have h4:=jH hw hh.2.1;rw[hh.1]at h4;refine(hE _ (h4.1.ws hw)).bind λx q1 ⟨g1,b1,f1⟩=>?_;refine(jY (g1.1.ws (h4.1.ws hw)) [41]).bind λ_ q2 ⟨g2,e2,b2⟩=>?_;refine⟨h4.tr (g1.tr g2),b2.trans (b1.trans x1.2),λroots hr=>?_⟩;rw[e2];exact f1 roots (by show cU (exL (bA s).ex) _;rw[x1.1];exact hr)
  ·subst e2;have g2':=g2.1.back;exact⟨⟨n1.trans g2',by have:=n1.le;have:=g2.2;show s.i<q.i;simp only at this;omega⟩,b2,f2⟩
 split
 ·rename_i hi;rw[iC]at hi;refine Sat.bind (kZ hw1 (a:=(cur s).a) (q:=true) hca (P:=λ(e:Ex) s'=>Later N {bA s with deep:=(bA s).deep+1,quiet:=true} s'/\s'.bl=s.bl/\(0<=e.a/\e.a<N)/\∀roots,cU (exL s.ex) roots->cU (exL s'.ex) (e.args++roots)) λhw=>?_) λe s2 ⟨q,⟨g2,b2,a2,f2⟩,e2⟩=>?_
  ·have hh:=oA h hi ((bA s).deep+1) true;refine(Qn hE hw hh.2.1 hh.1 ⟨hc.1,hc.2.2.1 (lT hi)⟩).mono λe s' ⟨g,b,a,f⟩=>⟨g,b.trans x1.2,a,λroots hr=>f roots (by show cU (exL (bA s).ex) _;rw[x1.1];exact hr)⟩
  ·subst e2;have g2':=g2.1.back;exact pP h ⟨n1.trans g2',by have:=n1.le;have:=g2.2;show s.i<q.i;simp only at this;omega⟩ b2 a2 f2
 split
 ·rename_i hi;rw[iC]at hi;refine Sat.bind (kZ hw1 (a:=(cur s).a) (q:=false) hca (P:=λ(e:Ex) s'=>Later N {bA s with deep:=(bA s).deep+1,quiet:=false} s'/\s'.bl=s.bl/\(0<=e.a/\e.a<N)/\∀roots,cU (exL s.ex) roots->cU (exL s'.ex) (e.args++roots)) λhw=>?_) λe s2 ⟨q,⟨g2,b2,a2,f2⟩,e2⟩=>?_
  ·have hh:=oA h hi ((bA s).deep+1) false;have h4:=jH hw hh.2.1;rw[hh.1]at h4;have l4:=mC (h4.1.ws hw);unfold NJ;refine(Ml hE ⟨hc.1,hc.2.2.1 (lT hi)⟩ _ _ [] [] (l4.1.ws (h4.1.ws hw))).mono λe s' ⟨g,b,a,f⟩=>⟨h4.tr (Go1.tr l4.1 g),b.trans (l4.2.2.trans x1.2),a,λroots hr=>f roots (by rw[l4.2.1];show cU (exL (bA s).ex) _;rw[x1.1];exact hr)⟩
  ·subst e2;have g2':=g2.1.back;exact pP h ⟨n1.trans g2',by have:=n1.le;have:=g2.2;show s.i<q.i;simp only at this;omega⟩ b2 a2 f2
 ·exact hca
abbrev Rv(N:Int)(s:PS)(x:Nat)(y:Nat)(s':PS):Prop:=Go1 N s s'/\s'.bl=s.bl/\∀roots,cU (exL s.ex) (x::roots)->cU (exL s'.ex) (y::roots)
theorem FH(hE:EOk N E):∀(n:Nat) (s:PS) (x:Nat),WS N s->Sat (qU E n s x) (Rv N s x) (InN N)
 |0,s,_,h=>⟨nW _,h.pN⟩
 |n+1,s,x,h=>by
  have n1:=fX h
  have hw1:=n1.ws h
  have hc:=jR h
  have x1:=gX s
  have iC:∀w,isS (bA s) w=isS s w:=λw=>by unfold isS;rw[kO]
  have hca:InN N (cur s).a:=⟨hc.1,hc.2.1⟩
  have more:∀{s2:PS} {e:Ex},Go1 N s s2->s2.bl=s.bl->0<=e.a/\e.a<N->(∀roots,cU (exL s.ex) (x::roots)->cU (exL s2.ex) (e.args++roots))->Sat ((qL s2 e).bind λy s3=>qU E n s3 y) (Rv N s x) (InN N):=λ{s2 e} g2 b2 ha f2=>by
   refine(AH (g2.ws h) ha).bind λy s3 ⟨g3,_,b3,f3⟩=>?_
   exact(FH hE n s3 y (g3.ws (g2.ws h))).mono λz s4 ⟨g4,b4,f4⟩=>⟨g2.trans (g3.trans g4),b4.trans (b3.trans b2),λroots hr=>f4 roots (f3 roots (f2 roots hr))⟩
  simp only[qU]
  have t1:=jG hw1 [46]
  split
  ·rename_i ht
   have hk0:(cur s).k≠0:=by
    have:isS (bA s) [46]=true:=by
     unfold bU at ht;split at ht
     ·assumption
     ·cases ht
    rw[iC]at this;exact lT this
   have hw2:=t1.1.ws hw1;refine(lK hw2 1 (by decide)).bind λu s2 ⟨g2,x2,b2,_⟩=>?_;exact more (e:=⟨10,u.t,[x],[],(cur s).a⟩) (n1.trans (t1.1.trans g2.1)) (b2.trans (t1.2.2.2.trans x1.2)) ⟨hc.1,hc.2.2.1 hk0⟩ λroots hr=>by rw[x2,t1.2.2.1,x1.1];exact hr
  split
  ·rename_i hi;rw[iC]at hi;have hat:0<=(cur s).a/\(cur s).a<N:=⟨hc.1,hc.2.2.1 (lT hi)⟩;refine Sat.bind (kZ hw1 (a:=(cur s).a) (q:=true) hca (P:=λ(o:Option Nat) s'=>Go1 N {bA s with deep:=(bA s).deep+1,quiet:=true} s'/\s'.bl=s.bl/\(o=none->s'.ex=s.ex)/\∀y,o=some y->∀roots,cU (exL s.ex) roots->cU (exL s'.ex) (y::roots)) λhw=>?_) λo s2 ⟨q,⟨g2,b2,f2,f2'⟩,e2⟩=>?_
   ·have hh:=oA h hi ((bA s).deep+1) true;have h4:=jH hw hh.2.1;rw[hh.1]at h4;have hw4:=h4.1.ws hw;have t4:=jG hw4 [42];have ex4:(step1 {bA s with deep:=(bA s).deep+1,quiet:=true}).ex=s.ex:=x1.1;have bl4:(step1 {bA s with deep:=(bA s).deep+1,quiet:=true}).bl=s.bl:=x1.2;split
    ·refine(jY (t4.1.ws hw4) [93]).bind λ_ q2 ⟨g5,x5,b5⟩=>?_;exact⟨h4.1.trans (t4.1.trans g5.1),b5.trans (t4.2.2.2.trans bl4),λ_=>x5.trans (t4.2.2.1.trans ex4),λy e=>by cases e⟩
    ·refine(hE _ (t4.1.ws hw4)).bind λy q1 ⟨g5,b5,f5⟩=>?_;refine(jY (g5.1.ws (t4.1.ws hw4)) [93]).bind λ_ q2 ⟨g6,x6,b6⟩=>?_;refine⟨h4.1.trans (t4.1.trans (g5.1.trans g6.1)),b6.trans (b5.trans (t4.2.2.2.trans bl4)),λe=>(by cases e),λz e roots hr=>?_⟩;injection e with e
     subst e;rw[x6];exact f5 roots (by rw[t4.2.2.1,ex4];exact hr)
   ·subst e2;have g2':=g2.back;have g02:=n1.trans g2';cases o with
    |some y=>
     simp only;refine more (e:=⟨11,[],[x,y],[],(cur s).a⟩) g02 b2 hat λroots hr=>?_;exact(f2' y rfl _ hr).perm (List.Perm.swap _ _ _)
    |none=>
     simp only;have hw2:=g02.ws h;refine(jY hw2 [46]).bind λ_ s3 ⟨g3,x3,b3⟩=>?_;refine(lK (g3.1.ws hw2) 1 (by decide)).bind λu s4 ⟨g4,x4,b4,_⟩=>?_;exact more (e:=⟨30,u.t,[x],[],(cur s).a⟩) (g02.trans (g3.1.trans g4.1)) (b4.trans (b3.trans b2)) hat λroots hr=>by rw[x4,x3];show cU (exL q.ex) _;rw[f2 rfl];exact hr
  ·exact⟨n1,x1.2,λroots hr=>by rw[x1.1];exact hr⟩
theorem PG(hE:EOk N E):EOk N (DG E):=by
 intro s h;unfold DG;refine(Kc hE s h).bind λx s1 ⟨g1,b1,f1⟩=>?_;exact(FH hE _ s1 x (g1.1.ws h)).mono λy s2 ⟨g2,b2,f2⟩=>⟨⟨g1.1.trans g2,by have:=g1.2;have:=g2.le;omega⟩,b2.trans b1,λroots hr=>f2 roots (f1 roots hr)⟩
theorem Ds(hE:EOk N E)(hS:EOk N S):EOk N (zU E S):=by
 intro s h;have n1:=fX h;have hw1:=n1.ws h;have hc:=jR h;have x1:=gX s;have iC:∀w,isS (bA s) w=isS s w:=λw=>by unfold isS;rw[kO]
 have hca:InN N (cur s).a:=⟨hc.1,hc.2.1⟩;have one:∀(w:Str) (k:Int),isS s w=true->Sat ((within (bA s) (cur s).a (bA s).quiet λq=>S (step1 q)).bind λx s2=>qL s2 ⟨k,[],[x],[],(cur s).a⟩) (Leaves N s) (InN N):=λw k hi=>by
  refine Sat.bind (kZ hw1 (a:=(cur s).a) (q:=(bA s).quiet) hca (P:=λx s'=>Later N {bA s with deep:=(bA s).deep+1,quiet:=(bA s).quiet} s'/\s'.bl=s.bl/\∀roots,cU (exL s.ex) roots->cU (exL s'.ex) (x::roots)) λhw=>?_) λx s2 ⟨q,⟨g2,b2,f2⟩,e2⟩=>?_
  ·have hh:=oA h hi ((bA s).deep+1) (bA s).quiet;have h4:=jH hw hh.2.1;rw[hh.1]at h4;refine(hS _ (h4.1.ws hw)).mono λx q1 ⟨g1,b1,f1⟩=>⟨h4.tr g1,b1.trans x1.2,λroots hr=>f1 roots (by show cU (exL (bA s).ex) _;rw[x1.1];exact hr)⟩
  ·subst e2;have g2':=g2.1.back;exact pP h ⟨n1.trans g2',by have:=n1.le;have:=g2.2;show s.i<q.i;simp only at this;omega⟩ b2 (e:=⟨k,[],[x],[],(cur s).a⟩) ⟨hc.1,hc.2.2.1 (lT hi)⟩ f2
 unfold zU;simp only;split
 ·rename_i hi;rw[iC]at hi;exact one [33] 14 hi
 split
 ·rename_i hi;rw[iC]at hi;exact one [45] 13 hi
 ·exact(PG hE (bA s) hw1).mono λx s2 ⟨g2,b2,f2⟩=>⟨⟨n1.trans g2.1,by have:=n1.le;have:=g2.2;omega⟩,b2.trans x1.2,λroots hr=>f2 roots (by rw[x1.1];exact hr)⟩
theorem Ga{J:PS->R Nat}(hJ:EOk N J)(k:Nat):∀(f:Nat) (s:PS) (x:Nat),WS N s->Sat (AP J k f s x) (Rv N s x) (InN N)
 |0,s,_,h=>⟨nW _,h.pN⟩
 |f+1,s,x,h=>by
  have n1:=fX h
  have x1:=gX s
  have hc:=jR h
  simp only[AP]
  split
  ·exact⟨n1,x1.2,λroots hr=>by rw[x1.1];exact hr⟩
  ·rename_i hl
   have hk0:(cur s).k≠0:=λe=>hl (by unfold wE;rw[e];rfl)
   have h2:=jH h hk0
   refine(hJ _ (h2.1.ws h)).bind λb s1 ⟨g1,b1,f1⟩=>?_
   have g01:=h2.1.trans g1.1
   refine(AH (g01.ws h) (e:=⟨wE (cur s) k,[],[x,b],[],(cur s).a⟩) ⟨hc.1,hc.2.2.1 hk0⟩).bind λy s2 ⟨g2,_,b2,f2⟩=>?_
   refine(Ga hJ k f s2 y (g2.ws (g01.ws h))).mono λz s3 ⟨g3,b3,f3⟩=>⟨g01.trans (g2.trans g3),b3.trans (b2.trans (b1.trans x1.2)),λroots hr=>f3 roots (f2 roots ?_)⟩
   exact(f1 _ (by show cU (exL (bA s).ex) _;rw[x1.1];exact hr)).perm (List.Perm.swap _ _ _)
theorem vH(hE:EOk N E)(hS:EOk N S):∀m,EOk N (tM E S m)
 |0=>Ds hE hS
 |m+1=>λs h=>by
  simp only[tM]
  refine(vH hE hS m s h).bind λa s1 ⟨g1,b1,f1⟩=>?_
  exact(Ga (vH hE hS m) (5-m) _ s1 a (g1.1.ws h)).mono λy s2 ⟨g2,b2,f2⟩=>⟨⟨g1.1.trans g2,by have:=g1.2;have:=g2.le;omega⟩,b2.trans b1,λroots hr=>f2 roots (f1 roots hr)⟩
theorem Jw(hE:EOk N E)(hS:EOk N S):EOk N (Cw E S):=by
 intro s h;unfold Cw;refine(vH hE hS 6 s h).bind λa s1 ⟨g1,b1,f1⟩=>?_;have hw1:=g1.1.ws h;have hc:=jR hw1;have t1:=jG hw1 [63];have hw2:=t1.1.ws hw1;simp only;split
 ·rename_i ht;have hk0:(cur s1).k≠0:=by
   have:isS s1 [63]=true:=by
    unfold bU at ht;split at ht
    ·assumption
    ·cases ht
   exact lT this
  refine Sat.bind (kZ hw2 (a:=(cur s1).a) (q:=(bU s1 [63]).2.quiet) ⟨hc.1,hc.2.1⟩ (P:=λ(z:Nat×Nat) s'=>Go1 N {(bU s1 [63]).2 with deep:=(bU s1 [63]).2.deep+1,quiet:=(bU s1 [63]).2.quiet} s'/\s'.bl=s.bl/\∀roots,cU (exL s.ex) roots->cU (exL s'.ex) ([a,z.1,z.2]++roots)) λhw=>?_) λz s2 ⟨q,⟨g2,b2,f2⟩,e2⟩=>?_
  ·refine(hE _ hw).bind λx q1 ⟨g3,b3,f3⟩=>?_;have hw3:=g3.1.ws hw;refine(jY hw3 [58]).bind λ_ q2 ⟨g4,x4,b4⟩=>?_;have hw4:=g4.1.ws hw3;refine(hE _ hw4).bind λy q3 ⟨g5,b5,f5⟩=>?_;refine⟨g3.1.trans (g4.1.trans g5.1),b5.trans (b4.trans (b3.trans (t1.2.2.2.trans b1))),λroots hr=>?_⟩;have k1:=f3 _ (by show cU (exL (bU s1 [63]).2.ex) _;rw[t1.2.2.1];exact f1 roots hr);have k2:=f5 _ (by rw[x4];exact k1);refine k2.perm ?_;show(y::x::a::roots).Perm (a::x::y::roots);exact((List.Perm.swap x y _).trans ((List.Perm.swap a y _).cons x)).trans (List.Perm.swap a x _)
  ·subst e2;have g2':=g2.back;exact pP h ⟨g1.1.trans (t1.1.trans g2'),by have:=g1.2;have:=t1.1.le;have:=g2.le;show s.i<q.i;simp only at this;omega⟩ b2 (e:=⟨28,[],[a,z.1,z.2],[],(cur s1).a⟩) ⟨hc.1,hc.2.2.1 hk0⟩ f2
 ·exact⟨⟨g1.1.trans t1.1,by have:=g1.2;have:=t1.1.le;omega⟩,t1.2.2.2.trans b1,λroots hr=>by rw[t1.2.2.1];exact f1 roots hr⟩
end
theorem zF(N:Int):EOk N dead:=λ_ h=>⟨nW _,h.pN⟩
theorem sH(N:Int):∀d,EOk N (sI d).1/\EOk N (sI d).2
 |0=>⟨Jw (zF N) (zF N),Ds (zF N) (zF N)⟩
 |d+1=>⟨Jw (sH N d).1 (sH N d).2,Ds (sH N d).1 (sH N d).2⟩
def wt(t:Tok):Nat:=if t.k=0 then 0 else if t.k=3/\(insP t.t).isSome=true then t.t.length+2 else 1
def wts(l:List Tok):Nat:=(l.map wt).sum
def phi(s:PS):Nat:=s.ex.length+s.bl.length+wts (s.toks.drop s.i)
theorem Aw(t:Tok)(l:List Tok):wts (t::l)=wt t+wts l:=by simp[wts]
theorem rT:∀(l:List Tok) (i:Nat),wts (l.drop i)<=wts l
 |[],i=>by simp
 |t::l,0=>aU _
 |t::l,i+1=>by
  rw[cS,Aw]
  have:=rT l i
  omega
theorem Il:∀(n:Nat) (s:Str) (a cnt:Nat) (l:List Tok),mT n s a cnt=.ok l->wts l<=s.length
 |0,_,_,_,_,h=>by simp[mT]at h
 |n+1,s,a,cnt,l,h=>by
  have hk:=vX (s.length+1) s
  simp only[mT]at h
  split at h
  ·cases h
  split at h
  ·injection h with h
   subst h
   rw[Aw]
   simp[wt,wts]
  rename_i hr
  split at h
  ·cases h
  rename_i ho
  split at h
  ·cases h
  have hlen:s.length-(fG (s.length+1) s).1=(s.drop (fG (s.length+1) s).1).length:=(aR ..).symm
  obtain⟨o1,o2,o3,o4,o5,o6⟩:=Hn hr (fK rfl (fK rfl (zP.1 ho)):oS (s.drop (fG (s.length+1) s).1)=((oS (s.drop (fG (s.length+1) s).1)).1,(oS (s.drop (fG (s.length+1) s).1)).2.1,0))
  split at h
  ·rename_i l' hl'
   injection h with h
   subst h
   have ih:=Il n _ _ _ _ hl'
   rw[aR]at ih
   rw[Aw]
   have:wt ⟨(oS (s.drop (fG (s.length+1) s).1)).1.k,(oS (s.drop (fG (s.length+1) s).1)).1.t,((a+(fG (s.length+1) s).1:Nat):Int)⟩<=(oS (s.drop (fG (s.length+1) s).1)).2.1:=by
    unfold wt;split
    ·omega
    split
    ·rename_i hx;rcases o6 hx.1 with h|h
     ·rw[h]at hx;simp at hx
     ·exact h
    ·omega
   omega
  ·rename_i hne;exact absurd h (hne l)
theorem Ha{s:Str}{l:List Tok}(h:qB s=.ok l):wts l<=s.length:=by
 unfold qB at h;split at h
 ·cases h
 split at h
 ·cases h
 exact Il _ _ _ _ _ h
abbrev TT:Int->Prop:=λ_=>True
theorem jQ(s:PS):phi (bA s)<=phi s:=by
 unfold bA;split
 ·unfold phi;simp only;have:=rT (s.toks.drop s.i) (gW (s.toks.drop s.i));rw[iE]at this;omega
 ·exact aU _
theorem AI{s:PS}(h:(lP s).k≠0):phi (step1 s)+wt (lP s)<=phi s:=by
 have hlt:s.i<s.toks.length:=by
  by_cases hl:s.i<s.toks.length
  ·exact hl
  ·unfold lP at h;rw[List.getD_eq_getElem?_getD,List.getElem?_eq_none (by omega)]at h;exact absurd rfl h
 unfold phi step1;simp only;rw[cC hlt,Aw];have:lP s=s.toks[s.i]:=by unfold lP;rw[List.getD_eq_getElem?_getD,List.getElem?_eq_getElem hlt];rfl
 rw[this];omega
theorem GR{t:Tok}(h:t.k≠0):1<=wt t:=by unfold wt;rw[aE h];split<;>omega
theorem oR{s:PS}(h:(cur s).k≠0):phi (step1 (bA s))+wt (lP (bA s))<=phi s/\phi (step1 (bA s))+1<=phi s:=by
 have h':(lP (bA s)).k≠0:=h;have h1:=AI h';have h2:=jQ s;have h3:=GR h';omega
theorem kR(s:PS)(w:Str):phi (bU s w).2<=phi s/\((bU s w).1=true->phi (bU s w).2+1<=phi s):=by
 unfold bU;split
 ·rename_i hi;have:=(oR (lT hi)).2;exact⟨Nat.le_of_succ_le this,λ_=>this⟩
 ·exact⟨jQ s,λe=>by cases e⟩
theorem kQ(s:PS)(w:Str):Sat (nY s w) (λ_ s'=>phi s'+1<=phi s) TT:=by
 unfold nY;split
 ·rename_i hi;exact(oR (lT hi)).2
 ·trivial
theorem vA(s:PS):phi (iR s)<=phi s/\((cur s).k≠0->phi (iR s)+wt (lP (bA s))<=phi s/\phi (iR s)+1<=phi s):=by
 unfold iR;split
 ·rename_i hk;have:=oR hk;exact⟨by omega,λ_=>this⟩
 ·rename_i hk;exact⟨jQ s,λe=>absurd e hk⟩
theorem nG(s:PS)(k:Int):Sat (lL s k) (λ_ s'=>phi s'<=phi s/\(k≠0->phi s'+1<=phi s)) TT:=by
 unfold lL;split
 ·rename_i hk;have:=vA s;exact⟨this.1,λh=>(this.2 (by rw[hk];exact h)).2⟩
 ·trivial
theorem vC(s:PS):phi (gD s)<=phi s:=by
 have h:=jQ s;unfold gD phi at*
 simp only at*
 have e:(bA s).toks=s.toks:=by unfold bA;split<;>rfl
 have:=rT ((bA s).toks.drop (bA s).i) (gW (s.toks.drop (bA s).i));rw[iE]at this;omega
theorem kK(s:PS)(e:Ex):Sat (qL s e) (λ_ s'=>phi s'<=phi s+1) TT:=by
 show phi _<=_;unfold phi;simp only[bG,aB,aN];omega
theorem lD{α:Type}{s:PS}{a:Int}{q:Bool}{f:PS->R α}{P:α->Nat->Prop}(h:Sat (f {s with deep:=s.deep+1,quiet:=q}) (λx s'=>P x (phi s')) TT):Sat (within s a q f) (λx s'=>P x (phi s')) TT:=by
 unfold within;split
 ·trivial
 ·exact h.bind λx s' hx=>hx
def EZ(F:PS->R Nat):Prop:=∀s,Sat (F s) (λ_ s'=>phi s'<=phi s) TT
section
variable{E S:PS->R Nat}
theorem FN(hE:EZ E)(s:PS)(t:Str)(a:Int):Sat (oX E s t a) (λ_ s'=>phi s'<=phi s+t.length) TT:=by
 unfold oX;split
 ·trivial
 ·rename_i l hs;have hw:=Ha hs;refine(hE _).bind λx q hq=>?_;refine(nG q 0).bind λ_ q' hq'=>?_;have h1:phi q'<=s.ex.length+s.bl.length+wts l:=cD hq'.1 hq;show phi _<=_;unfold phi at h1⊢;simp only;omega
theorem FK(s:PS)(t:Tok):Sat (pQ s t) (λ_ s'=>s'=s) TT:=by
 unfold pQ;split
 ·trivial
 ·rfl
theorem Bz(hE:EZ E):∀(n:Nat) (s:PS) (rest:Str) (a:Int) (us:List Nat) (ks:List Str),Sat (mW E n s rest a us ks) (λ_ s'=>phi s'<=phi s+rest.length) TT
 |0,_,_,_,_,_=>trivial
 |n+1,s,rest,a,us,ks=>by
  have one:∀(e:Ex),phi {s with ex:=s.ex++[e]}<=phi s+1:=λe=>kK s e
  simp only[mW]
  split
  ·exact Nat.le_add_right _ _
  rename_i hne
  have hpos:1<=rest.length:=dM.2 hne
  split
  ·have:=one ⟨5,jZ rest,[],[],a⟩
   show phi _<=_
   omega
  ·rename_i i e hi
   obtain⟨i1,i2,i3⟩:=AS rest.length rest (aU _) i e hi
   have hs1:∃s1,s1=(if 0<i then{s with ex:=s.ex++[⟨5,jZ (rest.take i),[],[],a⟩]}else s)/\phi s1<=phi s+i:=by
    refine⟨_,rfl,?_⟩;split
    ·have:=one ⟨5,jZ (rest.take i),[],[],a⟩;omega
    ·omega
   obtain⟨s1,e1,g1⟩:=hs1;rw[<-e1];have hd:(rest.drop e).length=rest.length-e:=aR ..;split
   ·refine Sat.bind (lD (P:=λ_ n=>n<=phi s1+(e-1-(i+2))) ?_) λx s2 h2=>?_
    ·refine(FN hE _ _ _).mono λx s' h=>?_;refine cD h ?_;have:((rest.drop (i+2)).take (e-1-(i+2))).length<=e-1-(i+2):=List.length_take_le _ _;exact vP this _
    ·refine(Bz hE n s2 (rest.drop e) _ _ _).mono λy s3 h3=>?_;rw[hd]at h3;omega
   ·refine(Bz hE n s1 (rest.drop e) _ _ _).mono λy s3 h3=>?_;rw[hd]at h3;omega
theorem PN(hE:EZ E)(s:PS)(t:Tok)(hk:t.k=3):Sat (Cj E s t) (λ_ s'=>phi s'<=phi s+wt t) TT:=by
 unfold Cj;split
 ·rename_i hi;have e:wt t=t.t.length+2:=by unfold wt;rw[aE (by omega),aI ⟨hk,hi⟩]
  refine(Bz hE _ s t.t _ _ _).bind λx s1 h1=>?_;refine(kK s1 _).mono λy s2 h2=>?_;omega
 ·rename_i hi;have e:wt t=1:=by unfold wt;rw[aE (by omega),aE (λh=>hi h.2)]
  rw[e];exact kK s _
theorem FQ(hE:EZ E)(w:Str):∀(n:Nat) (s:PS) (out:List Nat),Sat (sP E w n s out) (λ_ s'=>phi s'<=phi s) TT
 |0,_,_=>trivial
 |n+1,s,out=>by
  have t1:=kR s w
  have step:∀{s1:PS},phi s1<=phi s->Sat ((E s1).bind λx s'=>sP E w n s' (out++[x])) (λ_ s'=>phi s'<=phi s) TT:=λ{s1} g1=>
   (hE s1).bind λx s2 g2=>(FQ hE w n s2 (out++[x])).mono λy s3 g3=>by omega
  simp only[sP]
  split
  ·exact t1.1
  split
  ·rename_i ho
   have:=step t1.1
   exact this
  ·refine(kQ _ [44]).bind λ_ s1 g1=>?_
   have t2:=kR s1 w
   split
   ·show phi _<=_
    omega
   ·exact step (by omega)
theorem IJ(hE:EZ E)(w:Str)(s:PS):Sat (EL E w s) (λ_ s'=>phi s'<=phi s) TT:=FQ hE w _ s []
theorem PP(hE:EZ E){s:PS}(h:(cur s).k≠0)(hn:bA s=s)(a:Int):Sat (Co E s a) (λ_ s'=>phi s'+1<=phi s) TT:=by
 have h0:=(oR h).2;rw[hn]at h0;have h1:=jQ (step1 s);unfold Co;simp only;split
 ·refine(IJ hE [93] _).bind λus s1 g1=>?_;show phi s1+1<=_;omega
 ·rename_i hc;have hk1:(cur (step1 s)).k≠0:=λe=>hc (.inl (by rw[e];decide));have h2:=(oR hk1).2;refine(nG _ 1).bind λt s2 g2=>(nG s2 1).bind λu s3 g3=>?_;split
  ·trivial
  refine(hE s3).bind λx s4 g4=>(kQ s4 _).bind λ_ s5 g5=>(hE s5).bind λy s6 g6=>(kQ s6 _).bind λ_ s7 g7=>?_;show phi s7+1<=_;omega
theorem IG(hE:EZ E)(a:Int):∀(n:Nat) (s:PS) (us:List Nat) (ks:List Str),Sat (ES E a n s us ks) (λ_ s'=>phi s'<=phi s) TT
 |0,_,_,_=>trivial
 |n+1,s,us,ks=>by
  have t1:=kR s [125]
  have n1:=vA (bU s [125]).2
  simp only[ES]
  split
  ·exact t1.1
  refine Sat.bind (P:=λ_ s3=>s3=iR (bU s [125]).2) ?_ λk s3 e3=>?_
  ·split
   ·exact FK _ _
   ·split
    ·rfl
    ·trivial
  subst e3
  split
  ·trivial
  refine(kQ _ [61]).bind λ_ s4 g4=>(hE s4).bind λx s5 g5=>?_
  have t5:=kR s5 [44]
  have m5:=jQ (bU s5 [44]).2
  split
  ·trivial
  have l6:phi (if(bU s5 [44]).1=true then(bU s5 [44]).2 else bA (bU s5 [44]).2)<=phi s5:=by split<;>omega
  generalize (if(bU s5 [44]).1=true then(bU s5 [44]).2 else bA (bU s5 [44]).2)=s6 at*
  have l7:=vC s6
  refine(IG hE a n (gD s6) _ _).mono λe s8 g8=>?_
  omega
theorem II(hE:EZ E):EZ (Bh E):=by
 intro s;have n1:=jQ s;have iC:∀w,isS (bA s) w=isS s w:=λw=>by unfold isS;rw[kO]
 unfold Bh;simp only;split
 ·rename_i hk;have h2:=(oR (s:=s) (by rw[hk];decide)).2;exact(kK _ _).mono λx s' g=>by omega
 split
 ·rename_i hk;have h2:=(oR (s:=s) (by rw[hk];decide)).1;refine(PN hE _ _ hk).mono λx s' g=>?_;have e:wt (cur s)=wt (lP (bA s)):=rfl;omega
 split
 ·rename_i hk;have h2:=(oR (s:=s) (by rw[hk.1];decide)).2;have n2:=jQ (step1 (bA s));split
  ·rename_i hi;refine Sat.bind (lD (P:=λ_ n=>n<=phi (bA (step1 (bA s)))) ?_) λus s2 g2=>?_
   ·refine(IJ hE [41] _).mono λx s' g=>cD g ?_;show phi (step1 _)<=_;exact vP (by have:=rT ((bA (step1 (bA s))).toks.drop (bA (step1 (bA s))).i) 1;rw[iE]at this;exact this) _
   ·exact(kK s2 _).mono λx s' g=>by omega
  ·exact(kK _ _).mono λx s' g=>by omega
 have step1_le:∀(s:PS),phi (step1 s)<=phi s:=λs=>vP (by have:=rT (s.toks.drop s.i) 1;rw[iE]at this;exact this) _;have ph:∀(s:PS) (d:Nat) (q:Bool),phi {s with deep:=d,quiet:=q}=phi s:=λ_ _ _=>rfl;split
 ·refine Sat.mono (lD (P:=λ_ n=>n<=phi (bA s)) ?_) λx s' g=>by omega
  refine(hE _).bind λx q1 g1=>(kQ q1 _).bind λ_ q2 g2=>?_;show phi q2<=_;have h1:=step1_le (bA s);have h2:phi q1<=phi (step1 (bA s)):=g1;omega
 split
 ·rename_i hi;rw[iC]at hi;have hk:(lP (bA s)).k≠0:=lT hi;have h4:(lP (bA s)).k=4:=by
   unfold isS cur at hi;simp only[aL,bB]at hi;exact hi.1
  refine Sat.bind (lD (P:=λ_ n=>n+1<=phi (bA s)) ?_) λe s2 g2=>?_
  ·have hr:bA {bA s with deep:=(bA s).deep+1,quiet:=true}={bA s with deep:=(bA s).deep+1,quiet:=true}:=by
    have hlt:(bA s).i<(bA s).toks.length:=by
     by_cases hl:(bA s).i<(bA s).toks.length
     ·exact hl
     ·unfold lP at hk;rw[List.getD_eq_getElem?_getD,List.getElem?_eq_none (by omega)]at hk;exact absurd rfl hk
    have:gW ((bA s).toks.drop (bA s).i)=0:=by
     refine Iv (t:=lP (bA s)) ?_ (by omega);unfold lP;rw[List.getD_eq_getElem?_getD,List.getElem?_eq_getElem hlt];rfl
    unfold bA;simp only[fY];show({bA s with i:=(bA s).i+gW ((bA s).toks.drop (bA s).i),deep:=(bA s).deep+1,quiet:=true}:PS)=_;rw[this];rfl
   refine(PP hE ?_ hr _).mono λe s' g=>g;unfold cur;rw[hr];exact hk
  ·exact(kK s2 _).mono λx s' g=>by omega
 split
 ·rename_i hi;rw[iC]at hi;have hk:(lP (bA s)).k≠0:=lT hi;have h1:=AI hk;have h2:=GR hk;refine Sat.bind (lD (P:=λ_ n=>n+1<=phi (bA s)) ?_) λe s2 g2=>?_
  ·unfold NJ;refine(IG hE _ _ _ [] []).mono λe s' g=>?_;have h3:=vC (step1 (⟨(bA s).toks,(bA s).i,(bA s).off,(bA s).deep+1,false,(bA s).ex,(bA s).bl⟩:PS));have h4:phi (step1 (⟨(bA s).toks,(bA s).i,(bA s).off,(bA s).deep+1,false,(bA s).ex,(bA s).bl⟩:PS))=phi (step1 (bA s)):=rfl;omega
  ·exact(kK s2 _).mono λx s' g=>by omega
 ·trivial
theorem yS(hE:EZ E):∀(n:Nat) (s:PS) (x:Nat),Sat (qU E n s x) (λ_ s'=>phi s'<=phi s) TT
 |0,_,_=>trivial
 |n+1,s,x=>by
  have n1:=jQ s
  have t1:=kR (bA s) [46]
  have iC:∀w,isS (bA s) w=isS s w:=λw=>by unfold isS;rw[kO]
  have step1_le:∀(s:PS),phi (step1 s)<=phi s:=λs=>vP (by have:=rT (s.toks.drop s.i) 1;rw[iE]at this;exact this) _
  simp only[qU]
  split
  ·rename_i ht
   refine(nG _ 1).bind λu s2 g2=>(kK s2 _).bind λy s3 g3=>(yS hE n s3 y).mono λz s4 g4=>?_
   have:=t1.2 ht
   have:=g2.2 (by decide)
   omega
  split
  ·rename_i hi
   rw[iC]at hi
   have hk:(lP (bA s)).k≠0:=lT hi
   have h1:=AI hk
   have h2:=GR hk
   refine Sat.bind (lD (P:=λ_ n=>n+1<=phi (bA s)) ?_) λo s2 g2=>?_
   ·have h4:phi (step1 (⟨(bA s).toks,(bA s).i,(bA s).off,(bA s).deep+1,true,(bA s).ex,(bA s).bl⟩:PS))=phi (step1 (bA s)):=rfl
    have t5:=kR (step1 (⟨(bA s).toks,(bA s).i,(bA s).off,(bA s).deep+1,true,(bA s).ex,(bA s).bl⟩:PS)) [42]
    split
    ·refine(kQ _ _).bind λ_ q2 g=>?_
     show phi q2+1<=_
     omega
    ·refine(hE _).bind λy q1 g=>(kQ q1 _).bind λ_ q2 g'=>?_
     show phi q2+1<=_
     omega
   ·cases o with
    |some y=>
     simp only
     exact(kK s2 _).bind λz s3 g3=>(yS hE n s3 z).mono λz s4 g4=>by omega
    |none=>
     simp only
     exact(kQ s2 _).bind λ_ s3 g3=>(nG s3 1).bind λu s4 g4=>(kK s4 _).bind λz s5 g5=>(yS hE n s5 z).mono λz s6 g6=>by have:=g4.1;omega
  ·exact n1
theorem PO(hE:EZ E):EZ (DG E):=λs=>by
 unfold DG
 exact(II hE s).bind λx s1 g1=>(yS hE _ s1 x).mono λy s2 g2=>by omega
theorem DI(hE:EZ E)(hS:EZ S):EZ (zU E S):=by
 intro s;have n1:=jQ s;have iC:∀w,isS (bA s) w=isS s w:=λw=>by unfold isS;rw[kO]
 have one:∀(w:Str) (k:Int),isS s w=true->Sat ((within (bA s) (cur s).a (bA s).quiet λq=>S (step1 q)).bind λx s2=>qL s2 ⟨k,[],[x],[],(cur s).a⟩) (λ_ s'=>phi s'<=phi s) TT:=λw k hi=>by
  have hk:(lP (bA s)).k≠0:=lT hi;have h1:=AI hk;have h2:=GR hk;refine Sat.bind (lD (P:=λ_ n=>n+1<=phi (bA s)) ?_) λx s2 g2=>?_
  ·refine(hS _).mono λx s' g=>?_;have h4:phi (step1 (⟨(bA s).toks,(bA s).i,(bA s).off,(bA s).deep+1,(bA s).quiet,(bA s).ex,(bA s).bl⟩:PS))=phi (step1 (bA s)):=rfl;omega
  ·exact(kK s2 _).mono λy s3 g3=>by omega
 unfold zU;simp only;split
 ·rename_i hi;rw[iC]at hi;exact one [33] 14 hi
 split
 ·rename_i hi;rw[iC]at hi;exact one [45] 13 hi
 ·exact(PO hE (bA s)).mono λx s2 g2=>by omega
theorem FL{J:PS->R Nat}(hJ:EZ J)(k:Nat):∀(f:Nat) (s:PS) (x:Nat),Sat (AP J k f s x) (λ_ s'=>phi s'<=phi s) TT
 |0,_,_=>trivial
 |f+1,s,x=>by
  have n1:=jQ s
  simp only[AP]
  split
  ·exact n1
  ·rename_i hl
   have hk0:(cur s).k≠0:=λe=>hl (by unfold wE;rw[e];rfl)
   have h2:=(oR hk0).2
   exact(hJ _).bind λb s1 g1=>(kK s1 _).bind λy s2 g2=>(FL hJ k f s2 y).mono λz s3 g3=>by omega
theorem vD(hE:EZ E)(hS:EZ S):∀m,EZ (tM E S m)
 |0=>DI hE hS
 |m+1=>λs=>by
  simp only[tM]
  exact(vD hE hS m s).bind λa s1 g1=>(FL (vD hE hS m) _ _ s1 a).mono λy s2 g2=>by omega
theorem IH(hE:EZ E)(hS:EZ S):EZ (Cw E S):=by
 intro s;unfold Cw;refine(vD hE hS 6 s).bind λa s1 g1=>?_;have t1:=kR s1 [63];simp only;split
 ·rename_i ht;refine Sat.bind (lD (P:=λ_ n=>n<=phi (bU s1 [63]).2) ?_) λz s2 g2=>?_
  ·refine(hE _).bind λx q1 g3=>(kQ q1 _).bind λ_ q2 g4=>(hE q2).bind λy q3 g5=>?_;have h4:phi (⟨(bU s1 [63]).2.toks,(bU s1 [63]).2.i,(bU s1 [63]).2.off,(bU s1 [63]).2.deep+1,(bU s1 [63]).2.quiet,(bU s1 [63]).2.ex,(bU s1 [63]).2.bl⟩:PS)=phi (bU s1 [63]).2:=rfl;show phi q3<=_;omega
  ·exact(kK s2 _).mono λy s3 g3=>by have:=t1.2 ht;omega
 ·show phi _<=_;omega
end
theorem xW:EZ dead:=λ_=>trivial
theorem wH:∀d,EZ (sI d).1/\EZ (sI d).2
 |0=>⟨IH xW xW,DI xW xW⟩
 |d+1=>⟨IH (wH d).1 (wH d).2,DI (wH d).1 (wH d).2⟩
section
variable{E B:PS->R Nat}
theorem DJ:∀(n:Nat) (s:PS) (ls:List Str),Sat (qZ n s ls) (λ_ s'=>phi s'<=phi s) TT
 |0,_,_=>trivial
 |n+1,s,ls=>by
  have n1:=vA s
  simp only[qZ]
  split
  ·exact(FK _ _).bind λl s1 e1=>by subst e1;exact(DJ n _ (ls++[l])).mono λ_ s2 g=>by omega
  ·exact jQ s
theorem Kq(l:List Tok){j:Nat}(h:i<=j):wts (l.drop j)<=wts (l.drop i):=by
 have:=rT (l.drop i) (j-i);rw[iE,show i+(j-i)=j by omega]at this;exact this
theorem IQ(s:PS):s.i<=(bA s).i:=by unfold bA;split;exact Nat.le_add_right _ _;exact aU _
theorem PQ(hE:EZ E)(hB:EZ B)(s:PS)(us:List Atr)(bs:List Nat):Sat (Cq E B s us bs) (λ_ s'=>phi s'<=phi s) TT:=by
 unfold Cq;refine Sat.bind (P:=λ_ s1=>s1=step1 (bA s)/\phi s1+1<=phi s) ?_ λt s1 ⟨e1,h1⟩=>?_
 ·unfold lL;split
  ·rename_i hk;have hk0:(cur s).k≠0:=by rw[hk];decide
   refine⟨by unfold iR;rw[aI hk0],((vA s).2 hk0).2⟩
  ·trivial
 have t1:=kR s1 [61];split
 ·exact(hE _).bind λx s2 h2=>by show phi s2<=_;omega
 ·rename_i ht;refine Sat.bind (hB _) λx s2 h2=>?_;show phi s2<=_;refine cD h2 ?_;have e2:(bU s1 [61]).2=bA s1:=by
   unfold bU at ht⊢;split
   ·rename_i hi;rw[aI hi]at ht;exact absurd rfl ht
   ·rfl
  rw[e2];have hi:s.i<=(bA s1).i-1:=by
   have h1:=IQ s;have h2:=IQ s1;have h3:s1.i=(bA s).i+1:=by rw[e1];rfl
   omega
  have x1:(bA s1).ex=s.ex:=(gX s1).1.trans (by rw[e1];exact(gX s).1);have x2:(bA s1).bl=s.bl:=(gX s1).2.trans (by rw[e1];exact(gX s).2);have x3:(bA s1).toks=s.toks:=by
   have h1:∀s:PS,(bA s).toks=s.toks:=λs=>by unfold bA;split<;>rfl
   rw[h1,e1];exact h1 s
  unfold phi;simp only;rw[x1,x2,x3];have:=Kq s.toks hi;omega
theorem FM(hE:EZ E)(hB:EZ B):∀(n:Nat) (s:PS) (us:List Atr) (bs:List Nat),Sat (qP E B n s us bs) (λ_ s'=>phi s'<=phi s) TT
 |0,_,_,_=>trivial
 |n+1,s,us,bs=>by
  have t1:=kR s [125]
  simp only[qP]
  split
  ·exact t1.1
  refine(PQ hE hB _ us bs).bind λx s1 g1=>?_
  have m1:=jQ s1
  split
  ·trivial
  have l1:=vC (bA s1)
  exact(FM hE hB n _ x.1 x.2).mono λy s2 g2=>by omega
theorem FP(hE:EZ E)(hB:EZ B):EZ (yB E B):=by
 intro s;unfold yB;refine(nG s 1).bind λt s1 g1=>(DJ _ s1 []).bind λls s2 g2=>?_;have n2:=jQ s2;split
 ·trivial
 refine Sat.bind (lD (P:=λ_ n=>n<=phi (bA s2)) ?_) λx s3 g3=>?_
 ·refine(FM hE hB _ _ [] []).mono λx s' g=>?_;have h3:=vC (step1 (⟨(bA s2).toks,(bA s2).i,(bA s2).off,(bA s2).deep+1,false,(bA s2).ex,(bA s2).bl⟩:PS));have h4:phi (step1 (⟨(bA s2).toks,(bA s2).i,(bA s2).off,(bA s2).deep+1,false,(bA s2).ex,(bA s2).bl⟩:PS))<=phi (bA s2):=vP (Kq _ (Nat.le_succ _)) _;omega
 ·show phi _<=_;have h1:=g1.2 (by decide);have e:phi {s3 with bl:=s3.bl++[⟨t.t,ls,x.1,x.2,t.a⟩]}=phi s3+1:=by
   unfold phi;simp only[bG,aB,aN];omega
  have e':phi (⟨s3.toks,s3.i,s3.off,s3.deep,s3.quiet,s3.ex,s3.bl++[⟨t.t,ls,x.1,x.2,t.a⟩]⟩:PS)=phi s3+1:=e;omega
end
theorem JY:∀d,EZ (Cc d)
 |0=>FP xW xW
 |d+1=>FP (wH d).1 (JY d)
theorem ZO(s:PS):s.ex.length<=phi s/\s.bl.length<=phi s:=by unfold phi;omega
end
end Go.Syn
namespace Go.Proofs.YtghhmpppnmoeoaaGreatDoor
section
open Go Go.Eng Go.RowKit Go.Syn Go.Lex
variable{w:World}{K:Q0}{cs:List Value}{G:Nat->Prop}{T:TypeId}{i:Nat}{n:Nat}{v:Value}{w':World}{P:Program}{c:UInt8}{S:Nat->Prop}
abbrev DT:TypeId:=33
def fB(t:Tok):List Value:=[i64 t.k,str t.t,i64 t.a]
def Ah(w:World)(p:Nat):Nat:=match w.heap[p]? with|some (.cells c _ _)=>(match(c[1]?:Option Value)with|some (Value.int _ i)=>i.toNat|_=>0)|_=>0
theorem PR.at_{w0:World}{p f:Nat}{M:Lay}{vt:Value}{s:PS}{top:List Nat}(h:PR w0 w p f M vt s top):Ah w p=s.i:=by
 unfold Ah;rw[h.ps];simp
theorem wsi{N:Int}{s:PS}(h:WS N s)(hN:s.toks.length<=100000):s.i<=1000000:=by have:=h.lt;omega
section
variable [HX]
def Thr(w0:World)(f:Nat)(code at_:Int):Prop:=
 ∀(d:Nat) (w':World) (cs:List Value),Chg (Of f) w0 w'->w0.heap.size<=d->cs.length=3->w'.heap[f]?=some (.cells cs.toArray FlT (0,0))->w'.heap[d]?=some (.cells [i64 code,str [],i64 at_].toArray 53 (0,0))->HX.X [{v:=.iface DT (.pointer (some ⟨d,0,none⟩)),recovered:=false}] w'
section
variable{w0 w:World}{p f:Nat}{M:Lay}{vt:Value}{s:PS}{top:List Nat}{N:Int}{K:Q0}
theorem pW{e a:Int}(h:PR w0 w p f M vt s top)(ht:Thr w0 f e a):aC P0 31 [i64 e,i64 a] w K:=by
 refine aBp ?_;unfold W31;simp only[dA,eD,cV,aB,aN,aV,aZ];refine⟨by omega,by omega,?_⟩;refine fU (z:=[i64 e,str [],i64 a]) λd w' hd hz hb hx=>?_;have h':=h.ext hx;exact ht d w' _ h'.ch (by have:=h.base;omega) (by rfl) h'.fr.hf hb
theorem tL:∀{l:List Tok} {i:Nat} {t:Tok},l[i]?=some t->gW (l.drop i)=if t.k=5 then gW (l.drop (i+1))+1 else 0:=by
 intro l i t h;have hlt:=(List.getElem?_eq_some_iff.1 h).1;rw[cC hlt,(List.getElem?_eq_some_iff.1 h).2];rfl
theorem mU(h:PR w0 w p f M vt s top)(hs:WS N s)(hN:N<=1000000)(hl:s.toks.length<=100000)(hK:∀w',PR w0 w' p f M vt (bA s) top->Eff p f M M w w'->K (.agg (fB (cur s)).toArray) w'):
  aC P0 29 [.pointer (some ⟨p,0,none⟩)] w K:=by
 refine aBr ?_;unfold W29;refine bE λb w1 hb hz1 hbb hx1=>?_;have hp:=h.lt;have h1:=h.ext hx1;have L1:=h.loc hz1 hb hbb;refine cZ.go (λst w'=>st=[]/\∃j,PR w0 w' p f M vt {s with i:=j} top/\s.i<=j/\bA {s with i:=j}=bA s/\j<=(bA s).i/\Eff p f M M w w'/\Loc w0 w' p f M vt b TkT [i64 0,str [],i64 0]) (λ_ w'=>s.toks.length-Ah w' p)
  ⟨rfl,s.i,h1,aU _,rfl,IQ s,Eff.ext hx1,L1⟩ ?_
 rintro st g w2 ⟨rfl,j,h2,hj,hnow,hjn,he2,L2⟩;have hg:=fX hs;have hjl:j<s.toks.length:=by have:=(hg.ws hs).lt;rw[hg.toks]at this;omega
 have hws:WS N {s with i:=j}:=⟨hs.tg,hjl,hs.pN⟩;obtain⟨t,ht⟩:∃t,s.toks[j]?=some t:=⟨_,List.getElem?_eq_getElem hjl⟩;have h3:=h2.drew;have sl:SlAt w2.drew TkT vt s.toks.length (toks s.toks):=h3.tk;have stop:bA {s with i:=j}={s with i:=j}->dO (.pointer (some ⟨p,0,none⟩)) (λt30=>aX 0 t30 λt31=>ldW false 1 t31 w2.drew.drew λt32=>dO (.pointer (some ⟨p,0,none⟩)) λt34=>aX 1 t34 λt35=>ldW false 1 t35 w2.drew.drew λt36=>dG none 3 t32 t36 λt37=>ldW true 3 t37 w2.drew.drew λt38=>bL TkT [(.int .i64 0),(.string (ofL [])),(.int .i64 0)] w2.drew.drew λt3 w17=>(ldW true 3 t37 w17 λx=>x=t38)/\(ldW false 1 t35 w17 λx=>x=t36)/\(ldW false 1 t31 w17 λx=>x=t32)/\stW 3 t3 t38 w17 λw18=>aX 2 t3 λt39=>ldW false 1 t39 w18.drew λt40=>dO (.pointer (some ⟨p,0,none⟩)) λt42=>aX 2 t42 λt43=>ldW false 1 t43 w18.drew λt44=>aQ .add t40 t44 λt45=>aX 2 t3 λt46=>stW 1 t46 t45 w18.drew λw19=>ldW true 3 t3 w19 λt47=>stW 3 (.pointer (some ⟨b,0,none⟩)) t47 w19 λw20=>ldW true 3 (.pointer (some ⟨b,0,none⟩)) w20 λr21=>K r21 w20):=λhn=>by
  have h4:=h3.drew;have ecur:cur s={t with a:=t.a+s.off}:=by
   unfold cur;rw[<-hnow,hn];have:lP {s with i:=j}=t:=by unfold lP;rw[List.getD_eq_getElem?_getD,ht];rfl
   rw[this]
  have hpos:=hws.tg.pos j t ht;simp only at hpos;have ldT:∀{w':World},PR w0 w' p f M vt {s with i:=j} top->ldW false 1 (.pointer (some ((⟨p,0,none⟩:Addr).add 0))) w' λx=>x=vt:=λh=>by
   rw[dY];exact⟨vt,by rw[bZ,cJ,h.ps,cP];rfl,rfl⟩
  have ldI:∀{w':World},PR w0 w' p f M vt {s with i:=j} top->ldW false 1 (.pointer (some ((⟨p,0,none⟩:Addr).add 1))) w' λx=>x=i64 (j:Nat):=λh=>by
   rw[dY];exact⟨_,by rw[bZ,cJ,h.ps,cP];rfl,rfl⟩
  refine h4.ld rfl ?_;refine h4.ld rfl ?_;refine qO (size:=3) h4.tk (Dl _) (by omega) hjl λtb o c fr htb hc=>?_;have hcell:∀i,i<3->c[o+i]?=(fB t)[i]?:=λi hi=>by rw[hc i hi];exact Ia ht hi
  have three:∀{w':World},w'.heap[tb]?=some (.cells c TkT fr)->jS w' ⟨tb,o,none⟩ 0 3=some (fB t):=λh=>by
   have h0:=hcell 0 (by omega);have h1:=hcell 1 (by omega);have h2:=hcell 2 (by omega);simp only[fB,fL,List.getElem?_cons_zero,List.getElem?_cons_succ]at h0 h1 h2;simp only[jS,bZ,cJ,h,cP,fL,h0,h1,h2,iI,Nat.reduceAdd];rfl
  rw[Ed];refine⟨fB t,three htb,?_⟩;refine bE λb2 w5 hb2 hz5 hbb5 hx5=>?_;have h5:=h4.ext hx5;have L5:=h4.loc hz5 hb2 hbb5;have htb5:=hx5.at htb id;refine⟨by rw[Ed];exact⟨_,three htb5,rfl⟩,ldI h5,ldT h5,?_⟩;refine cA (l:=fB t) L5.1 rfl rfl rfl λw6 hz6 hb6 hc6=>?_;have L6:Loc w0 w6 p f M vt b2 TkT (fB t):=⟨hb6,L5.2.up (by omega)⟩;have h6:=h5.one hc6 L5.2;refine L6.drew.ldf rfl ?_;refine h6.drew.ld (v:=i64 s.off) rfl ?_;rw[cG,cQ (by omega) (by omega),bS,bZ,aY];refine L6.drew.st rfl (by simp[fB]) λw7 L7 hc7 hz7=>?_;have h7:=h6.drew.one hc7 L6.drew.2;refine bX (l:=fB (cur s)) (by rw[L7.1,ecur];rfl) rfl ?_;have hbb2:b2≠b:=by have:=L2.lt;have:w2.drew.drew.heap.size=w2.heap.size:=rfl;omega
  have L2':=(((L2.drew.drew.ext hx5).one hc6 (uF hbb2)).drew.one hc7 (uF hbb2));refine iP (l:=fB (cur s)) L2'.1 rfl rfl rfl λw8 hc8=>?_;have h8:=h7.one hc8 L2'.2;refine hK w8 (by rw[<-hnow,hn];exact h8) ?_;have hz2:=he2.chg.size;have z1:w2.drew.drew.heap.size=w2.heap.size:=rfl;exact((((((he2.x (cY _)).x (cY _)).x hx5).one hc6 (by omega)).x (cY _)).one hc7 (by omega)).one hc8 (by omega)
 by_cases hq:s.quiet=true
 ·refine h3.ld (v:=.bool true) (by simp[hq]) ?_;simp only[iG,Rw];refine⟨_,rfl,_,rfl,_,rfl,vt,by rw[dY];exact⟨vt,by rw[bZ,cJ,h3.ps,cP];rfl,rfl⟩,_,rfl,_,rfl,_,rfl,i64 (j:Nat),by rw[dY];exact⟨_,by rw[bZ,cJ,h3.ps,cP];rfl,rfl⟩,?_⟩;obtain⟨q,cap,hv,g1,g2,g3⟩:=sl;have hne:toks s.toks≠[]:=λe=>by have:=congrArg List.length e;rw[Dl,aN]at this;omega
  obtain⟨tb,o,c,fr,rfl,htb,hcs⟩:=g3 hne;have hlen:(toks s.toks).length=s.toks.length*3:=Dl _;refine⟨.pointer (some ((⟨tb,o,none⟩:Addr).add (j*3))),?_,.pointer (some (((⟨tb,o,none⟩:Addr).add (j*3)).add 0)),rfl,i64 t.k,?_,.bool (decide (t.k=5)),by rw[bM],?_⟩
  ·rw[hv,rQ];exact⟨by omega,by omega,by rw[aW]⟩
  ·rw[dY];refine⟨_,?_,rfl⟩;rw[bZ,bZ,cJ,htb,cP,fL,hcs _ (by omega)];have:=Ia (j:=0) ht (by omega);rw[fL]at this;exact this
  rw[lC,aO];refine⟨λhk=>?_,λhk=>stop ?_⟩
  ·have hrun:bA {s with i:=j+1}=bA s:=by
    rw[<-hnow];unfold bA;simp only[hq,fY];have e:=tL ht;rw[aI hk]at e;rw[e];congr 1;omega
   refine h3.go (wsi hws hl) λw4 h4 he4 hz4=>?_;refine⟨⟨trivial,j+1,h4,by omega,hrun,?_,(he2.x (cY _)).trans he4,L2.drew.eff he4⟩,?_⟩
   ·rw[<-hrun];exact IQ {s with i:=j+1}
   ·rw[h4.at_,h2.at_];simp only[step1];omega
  ·have e:=tL ht;rw[aE hk]at e;unfold bA;simp only[hq,fY,e,fL]
 ·have hq:s.quiet=false:=by simpa using hq
  refine h3.ld (v:=.bool false) (by simp[hq]) ?_;simp only[iG,Yj];rw[rZ,dD];exact stop (by unfold bA;simp only[hq];rfl)
end
end
theorem yK{xs:List Value}(h:SlAt w T v n xs)(hc:Chg S w w')(hS:∀k,v.ownBlock=some k->¬S k):SlAt w' T v n xs:=by
 obtain⟨q,cap,hv,h1,h2,h3⟩:=h;refine⟨q,cap,hv,h1,h2,λhne=>?_⟩;obtain⟨b,off,c,fr,hq,hb,hcs⟩:=h3 hne;exact⟨b,off,c,fr,hq,hc.at hb (hS b (by rw[hv,hq];rfl)),hcs⟩
def aEk(w0 w:World)(p f:Nat)(M:Lay)(vt:Value)(v:Value)(T:TypeId)(n:Nat)(cs:List Value):Prop:=SlAt w T v n cs/\∀k,v.ownBlock=some k->Off w0 w p f M vt k
theorem upi(h:i<=4611686018427387904):IntKind.i64.wrap ((i:Int)+1)=((i+1:Nat):Int):=by rw[cQ (by omega) (by omega)];rfl
def qT:List Str->Str->Nat->Int
 |[],_,_=>-1
 |a::r,x,i=>if x=a then(i:Nat)else qT r x (i+1)
theorem Ii(x:Str):∀(l:List Str) (i:Nat),(0<=qT l x i↔x∈l)
 |[],i=>by simp[qT]
 |a::r,i=>by
  simp only[qT]
  split
  ·rename_i h
   simp[h]
  ·rename_i h
   rw[Ii x r (i+1)]
   simp[h]
theorem wM{x:Str}{K:Q0}(hK:∀b w',b=w.heap.size->w'.heap.size=w.heap.size+1->w'.heap[b]?=some (.cells [str x].toArray StT (0,0))->Ext w w'->K (.slice (some ⟨b,0,none⟩) 1 1) w'):dK StT 1 [(.string (ofL []))] [(0,1,str x)] w K:=by
 rw[dK];simp only[eD,cV,aB,aN,aV];refine⟨by omega,?_⟩;exact row_new λa w' ha hz hb hx _=>hK a w' ha hz hb hx
theorem jP{x:Int}{K:Q0}(hK:∀b w',b=w.heap.size->w'.heap.size=w.heap.size+1->w'.heap[b]?=some (.cells [i64 x].toArray iQ (0,0))->Ext w w'->K (.slice (some ⟨b,0,none⟩) 1 1) w'):dK iQ 1 [(.int .i64 0)] [(0,1,i64 x)] w K:=by
 rw[dK];simp only[dA,cV,aB,aN,aV];refine⟨by omega,?_⟩;exact row_new λa w' ha hz hb hx _=>hK a w' ha hz hb hx
theorem JU{x y:Int}{K:Q0}(hK:∀b w',b=w.heap.size->w'.heap.size=w.heap.size+1->w'.heap[b]?=some (.cells [i64 x,i64 y].toArray iQ (0,0))->Ext w w'->K (.slice (some ⟨b,0,none⟩) 2 2) w'):dK iQ 2 [(.int .i64 0),(.int .i64 0)] [(0,1,i64 x),(1,1,i64 y)] w K:=by
 rw[dK];simp only[dA,cV,aB,aN,aV,aZ];refine⟨by omega,by omega,?_⟩;exact row_new λa w' ha hz hb hx _=>hK a w' ha hz hb hx
theorem Rc{x y z:Int}{K:Q0}(hK:∀b w',b=w.heap.size->w'.heap.size=w.heap.size+1->w'.heap[b]?=some (.cells [i64 x,i64 y,i64 z].toArray iQ (0,0))->Ext w w'->K (.slice (some ⟨b,0,none⟩) 3 3) w'):dK iQ 3 [(.int .i64 0),(.int .i64 0),(.int .i64 0)] [(0,1,i64 x),(1,1,i64 y),(2,1,i64 z)] w K:=by
 rw[dK];simp only[dA,cV,aB,aN,aV,aZ];refine⟨by omega,by omega,by omega,?_⟩;exact row_new λa w' ha hz hb hx _=>hK a w' ha hz hb hx
theorem Be{z d:List Value}{K:Q0}(hd:d.length=n)(hz0:z.length=n)(hK:∀b w',b=w.heap.size->w'.heap.size=w.heap.size+1->w'.heap[b]?=some (.cells d.toArray T (0,0))->Ext w w'->K (.slice (some ⟨b,0,none⟩) 1 1) w'):dK T 1 z [(0,n,.agg d.toArray)] w K:=by
 rw[dK];simp only[dE,Value.cells];refine⟨by simpa using hd,by omega,?_⟩;have e:(z.take 0++(d++z.drop (0+n)))=d:=by rw[List.take_zero,eY,aY,<-hz0,dW,eS]
 rw[e];exact row_new λa w' ha hz hb hx _=>hK a w' ha hz hb hx
theorem AE{b:Nat}(h:w.heap[b]?=some (.cells cs.toArray T (0,0)))(hn:cs.length=n):SlAt w T (.slice (some ⟨b,0,none⟩) n n) n cs:=
 ⟨_,_,rfl,aU _,λe=>(by cases e),λ_=>⟨b,0,cs.toArray,_,rfl,h,λi _=>by simp⟩⟩
theorem PT{B b m:Nat}(h:w.heap[b]?=some (.cells cs.toArray T (0,0)))(hB:B<=b)(hn:cs.length=n*m)(hm:n<=1000000):Own w B T m (.slice (some ⟨b,0,none⟩) n n) n cs:=
 ⟨hn,.inr ⟨b,n,cs.toArray,rfl,hB,h,aU _,by unfold maxLen;omega,by simpa using hn,by simp[<-hn]⟩⟩
theorem Ht{f:Nat}{a a' b d:List Nat}(h:(f::(a++b)).Nodup)(hlt:∀k∈f::(a++b),k<n)(ha':a'.Nodup)(hn:∀k∈a',k∈a\/n<=k)(hd:d.Nodup)(hdd:∀k∈d,k<n/\k∉f::(a++b)):(f::(a'++(d++b))).Nodup:=by
 rw[jB,fN]at h;obtain⟨hf,_,hb,hab⟩:=h;have new:∀k∈a',k∉b/\k≠f/\k∉d:=λk hk=>by
  rcases hn k hk with hk|hk
  ·exact⟨λe=>hab k hk k e rfl,λe=>hf (e▸eM _ hk),λe=>(hdd k e).2 (aS _ (eM _ hk))⟩
  ·exact⟨λe=>by have:=hlt k (aS _ (cW _ e));omega,λe=>by have:=hlt k (by rw[e];exact bC);omega,λe=>by have:=(hdd k e).1;omega⟩
 rw[jB];refine⟨λe=>?_,?_⟩
 ·rcases dP.1 e with e|e
  ·exact(new f e).2.1 rfl
  rcases dP.1 e with e|e
  ·exact(hdd f e).2 bC
  ·exact hf (cW _ e)
 ·refine fN.2 ⟨ha',fN.2 ⟨hd,hb,λx hx y hy e=>?_⟩,λx hx y hy e=>?_⟩
  ·subst e;exact(hdd x hx).2 (aS _ (cW _ hy))
  ·subst e;rcases dP.1 hy with hy|hy
   ·exact(new x hx).2.2 hy
   ·exact(new x hx).1 hy
theorem vU(v:Value)(c:List Value):ub (v::c)=ub [v]++ub c:=by
 rw[<-tX];rfl
theorem lO(v:Value):(ub [v]).Nodup:=by
 unfold ub;cases h:v.ownBlock with
 |none=>simp[h]
 |some k=>simp[h]
theorem Ku(M:Lay)(f:Nat):M.uses f=f::(ub [M.vE]++ub ([M.vB,M.vT]++(M.cE++M.cB))):=by
 unfold Lay.uses;rw[dB,vU]
theorem RH(M:Lay)(f:Nat)(v:Value)(d:List Value):(({M with vE:=v,cE:=M.cE++d}:Lay).uses f).Perm (f::(ub [v]++(ub d++ub ([M.vB,M.vT]++(M.cE++M.cB))))):=by
 rw[Dh];intro a;rw[Ku];simp only[tX,lG,CL];omega
theorem Kv(M:Lay)(f:Nat):(M.uses f).Perm (f::(ub [M.vB]++ub ([M.vE,M.vT]++(M.cE++M.cB)))):=by
 rw[Dh];intro a;unfold Lay.uses;simp only[tX,lG,CL];rw[vU M.vE,vU M.vB,vU M.vE [M.vT]];simp only[lG];omega
theorem RI(M:Lay)(f:Nat)(v:Value)(d:List Value):(({M with vB:=v,cB:=M.cB++d}:Lay).uses f).Perm (f::(ub [v]++(ub d++ub ([M.vE,M.vT]++(M.cE++M.cB))))):=by
 rw[Dh];intro a;rw[(Kv _ f).count_eq];simp only[tX,lG,CL];omega
section
variable{w0 w w1 w2:World}{p f:Nat}{M:Lay}{vt:Value}{s:PS}{top:List Nat}
theorem PR.putE(h:PR w0 w p f M vt s top){wb:World}{M0:Lay}(he:Eff p f M0 M wb w){e:Ex}{d:List Value}{v':Value}(hd:ExR w w0.heap.size e d)(hu:∀k∈ub d,Off w0 w p f M vt k)(hn:(ub d).Nodup)(hnew:∀k∈ub d,wb.heap.size<=k)
  (hO:Own w1 w0.heap.size ExT 5 v' (s.ex.length+1) (M.cE++d))(hc1:Chg (λk=>M.vE.ownBlock=some k) w w1)(hv:∀k,v'.ownBlock=some k->M.vE.ownBlock=some k\/w.heap.size<=k)
  (hc2:Chg (One f) w1 w2)(hf:w2.heap[f]?=some (.cells [v',M.vB,M.vT].toArray FlT (0,0))):PR w0 w2 p f {M with vE:=v',cE:=M.cE++d} vt {s with ex:=s.ex++[e]} top/\Eff p f M0 {M with vE:=v',cE:=M.cE++d} wb w2/\∀b T cs,Loc w0 w p f M vt b T cs->b∉ub d->Loc w0 w2 p f {M with vE:=v',cE:=M.cE++d} vt b T cs:=by
 have hb:=h.base;have hzb:=he.chg.size;have eE:=Ku M f;have use:∀k,M.vE.ownBlock=some k->k∈M.uses f:=λk hk=>aS _ (kP (v:=M.vE) (by simp) hk);have hnd:=h.fr.nd;rw[eE,jB,fN]at hnd;obtain⟨nf,_,nb,nab⟩:=hnd;have rest:∀k∈ub ([M.vB,M.vT]++(M.cE++M.cB)),M.vE.ownBlock≠some k/\k≠f/\k<w.heap.size:=λk hk=>
  ⟨λe=>nab k (gN.2 e) k hk rfl,λe=>nf (e▸cW _ hk),h.fr.lt k (by rw[eE];exact aS _ (cW _ hk))⟩
 have c12:Chg (λk=>M.vE.ownBlock=some k\/k=f) w w2:=(hc1.mono λk _ e=>.inl e).trans (hc2.mono λk _ e=>.inr e);have sub:∀v∈[M.vB,M.vT]++(M.cE++M.cB),∀k,v.ownBlock=some k->¬(M.vE.ownBlock=some k\/k=f):=λv hv k hk e=>by
  have:=rest k (kP hv hk);exact e.elim this.1 this.2.1
 have hOf:∀k,v'.ownBlock=some k->k≠f:=λk hk e=>by
  subst e;rcases hv k hk with e|e
  ·exact nf (eM _ (gN.2 e))
  ·have:=fC h.fr.hf;omega
 have nE:M.vE.ownBlock≠some p:=λe=>h.np (use p e);have pf:p≠f:=λe=>h.np (e▸bC);have perm:=RH M f v' d;have hN:(f::(ub [v']++(ub d++ub ([M.vB,M.vT]++(M.cE++M.cB))))).Nodup:=Ht (n:=w.heap.size) (a:=ub [M.vE]) (by rw[<-eE];exact h.fr.nd) (λk hk=>h.fr.lt k (by rw[eE];exact hk)) (lO _) (λk hk=>(hv k (gN.1 hk)).imp (λe=>gN.2 e) id) hn λk hk=>⟨(hu k hk).1.2,by rw[<-eE];exact(hu k hk).2.2.1⟩;have hz:=c12.size;have mem:∀k∈({M with vE:=v',cE:=M.cE++d}:Lay).uses f,k=f\/v'.ownBlock=some k\/k∈ub d\/k∈ub ([M.vB,M.vT]++(M.cE++M.cB)):=λk hk=>by
  have hk:=perm.mem_iff.1 hk;rcases bP.1 hk with e|e
  ·exact .inl e
  rcases dP.1 e with e|e
  ·exact .inr (.inl (gN.1 e))
  rcases dP.1 e with e|e
  ·exact .inr (.inr (.inl e))
  ·exact .inr (.inr (.inr e))
 have cT:Chg (Tn p f M) w w2:=c12.mono λk _ e=>e.elim (λe=>.inr (.inr (.inl e))) λe=>.inr (.inl e);refine⟨⟨?_,⟨hf,?_,?_,?_,?_,?_,perm.nodup_iff.2 hN,λk hk=>?_,λk hk=>?_⟩,?_,?_,λe=>?_,h.lo,λk hk=>?_⟩,⟨(he.trans (Eff.of cT)).chg,λk hk=>?_,λk hk=>(hv k hk).elim (he.hE k) λe=>.inr (by omega),he.hB,he.hT⟩,λb T cs hL hbd=>⟨cT.at hL.1 hL.2.no,⟨hL.2.1.1,cN hL.2.1.2 hz⟩,hL.2.2.1,λhk=>?_,hL.2.2.2.2⟩⟩
 ·refine h.ch.then c12 λk hk e=>?_;rcases e with e|e
  ·exact(h.fr.lo k (use k e)).resolve_right (by omega)
  ·exact e
 ·rw[bG];exact jA hO hc2 λk hk e=>hOf k hk e
 ·exact jA h.fr.oB c12 (sub _ (by simp))
 ·exact jA h.fr.oT c12 (sub _ (by simp))
 ·refine oK.snoc ?_ (hd.at_ c12 λk hk e=>?_) (by obtain⟨va,vk,rfl,_⟩:=hd;rfl)
  ·refine h.fr.ee.imp λx d hd hx=>hx.at_ c12 λk hk=>?_;obtain⟨v,hv,hk⟩:=gK.1 hk;exact sub v (by simp[hd v hv]) k hk
  ·have ho:=(hu k hk).2.2.1;rcases e with e|e
   ·exact ho (use k e)
   ·exact ho (e▸bC)
 ·refine h.fr.bb.imp λx d hd hx=>hx.at_ c12 λk hk=>?_;obtain⟨v,hv,hk⟩:=gK.1 hk;exact sub v (by simp[hd v hv]) k hk
 ·rcases mem k hk with e|e|e|e
  ·rw[e];exact fC hf
  ·exact cN (qM hO e).1 hc2.size
  ·exact cN (hu k e).1.2 hz
  ·exact cN (rest k e).2.2 hz
 ·rcases mem k hk with e|e|e|e
  ·exact .inl e
  ·exact .inr (qM hO e).2
  ·exact .inr (hu k e).1.1
  ·exact h.fr.lo k (by rw[eE];exact aS _ (cW _ e))
 ·exact c12.at h.ps λe=>e.elim nE pf
 ·exact yK h.tk c12 λk hk e=>by
   have:=(h.nt k hk).1;rcases e with e|e
   ·exact this (use k e)
   ·exact this (e▸bC)
 ·rcases mem p e with e|e|e|e
  ·exact pf e
  ·exact(hv p e).elim nE λe=>by have:=h.lt;omega
  ·exact(hu p e).2.1 rfl
  ·exact h.np (by rw[eE];exact aS _ (cW _ e))
 ·have ht:=h.nt k hk;refine⟨λe=>?_,ht.2.1,cN ht.2.2 hz⟩;rcases mem k e with e|e|e|e
  ·exact ht.1 (e▸bC)
  ·exact(hv k e).elim (λe=>ht.1 (use k e)) λe=>by omega
  ·exact(hu k e).2.2.2 hk
  ·exact ht.1 (by rw[eE];exact aS _ (cW _ e))
 ·rcases mem k hk with e|e|e|e
  ·exact he.us k (e▸bC)
  ·exact(hv k e).elim (λe=>he.us k (use k e)) λe=>.inr (by omega)
  ·exact .inr (hnew k e)
  ·exact he.us k (by rw[eE];exact aS _ (cW _ e))
 ·have ho:=hL.2;rcases mem b hk with e|e|e|e
  ·exact ho.2.2.1 (e▸bC)
  ·exact(hv b e).elim (λe=>ho.2.2.1 (use b e)) λe=>by have:=ho.1.2;omega
  ·exact hbd e
  ·exact ho.2.2.1 (by rw[eE];exact aS _ (cW _ e))
end
section
variable [HX]
variable{w0 w:World}{p f:Nat}{M:Lay}{vt:Value}{s:PS}{top:List Nat}{N:Int}{K:Q0}
theorem Ms{l:List Str}{x:Str}{K:Q0}(h:SlAt w T v l.length (strs l))(hl:l.length<=1000000)(hK:K (i64 (qT l x 0)) w):aC P0 113 [v,str x] w K:=by
 refine Xr ?_;unfold aDX;rw[gH h];refine cZ.go (λst w'=>∃j:Nat,st=[i64 j]/\j<=l.length/\w'=w/\qT (l.drop j) x j=qT l x 0) (λst _=>match st with|[.int _ j]=>l.length-j.toNat|_=>0) ⟨0,rfl,by omega,rfl,rfl⟩ ?_;rintro st g w' ⟨j,rfl,hj,rfl,hs⟩;simp only[aG];rw[eG,aO];refine⟨λhlt=>?_,λhge=>?_⟩
 ·have hlt:j<l.length:=by omega
  refine qN (x:=str l[j]) h (by simp[strs]) (by simp[strs,hlt]) ?_;rw[cC hlt]at hs;simp only[qT]at hs;rw[rE,aO];refine⟨λe=>?_,λe=>?_⟩
  ·rw[aI e]at hs;rw[hs];exact hK
  ·rw[aE e]at hs;rw[cG,upi (by omega)];exact⟨⟨j+1,rfl,by omega,trivial,hs⟩,by simp only[aW];omega⟩
 ·rw[eW (by omega)]at hs;simp only[qT]at hs;rw[hs];exact hK
theorem Cy{l:List Str}{x:Str}{K:Q0}(h:SlAt w T v l.length (strs l))(hl:l.length<=1000000)(hK:K (.bool (decide (x∈l))) w):aC P0 81 [v,str x] w K:=by
 refine aAR ?_;unfold W81;refine Ms h hl ?_;rw[lX];simp only[Ii];exact hK
theorem Lb(h:PR w0 w p f M vt s top)(hs:WS N s)(hN:N<=1000000)(hl:s.toks.length<=100000)(hK:∀w',PR w0 w' p f M vt (iR s) top->Eff p f M M w w'->K (.agg (fB (cur s)).toArray) w'):
  aC P0 48 [.pointer (some ⟨p,0,none⟩)] w K:=by
 refine aBg ?_;unfold W48;refine bE λb w1 hb hz1 hbb hx1=>?_;have h1:=h.ext hx1;have L1:=h.loc hz1 hb hbb;refine mU h1 hs hN hl λw2 h2 he2=>?_;have L2:=L1.eff he2;refine bE λb2 w3 hb2 hz3 hbb3 hx3=>?_;have h3:=h2.ext hx3;have L3:=h2.loc hz3 hb2 hbb3;have hne:b≠b2:=by have:=L2.lt;omega
 have L23:=L2.ext hx3;refine cA (l:=fB (cur s)) L3.1 rfl rfl rfl λw4 hz4 hb4 hc4=>?_;have L4:Loc w0 w4 p f M vt b2 TkT (fB (cur s)):=⟨hb4,L3.2.up (by omega)⟩;have h4:=h3.one hc4 L3.2;have L24:=L23.one hc4 hne;have he4:Eff p f M M w w4:=(((Eff.ext hx1).trans he2).x hx3).one hc4 (by have:=he2.chg.size;omega);refine bT.cut (λ_ w'=>PR w0 w' p f M vt (iR s) top/\Eff p f M M w4 w') ?_ ?_
 ·refine L4.ldf rfl ?_;rw[fJ,aO];unfold iR;refine⟨λhk=>?_,λhk=>?_⟩
  ·rw[aI hk];exact h4.go (wsi ((fX hs).ws hs) (by rw[(fX hs).toks];exact hl)) λw5 h5 he5 _=>⟨h5,he5⟩
  ·rw[aE hk];exact⟨h4,Eff.refl _ _ _ _⟩
 rintro st g w5 ⟨h5,he5⟩;have L5:=L4.eff he5;have L25:=L24.eff he5;refine bX L5.1 rfl ?_;refine iP (l:=fB (cur s)) L25.1 rfl rfl rfl λw6 hc6=>?_;exact hK w6 (h5.one hc6 L25.2) ((he4.trans he5).one hc6 (by omega))
theorem aAa{x:Str}(h:PR w0 w p f M vt s top)(hs:WS N s)(hN:N<=1000000)(hl:s.toks.length<=100000)(hv:aEk w0 w p f M vt v StT 1 [str x])(hK:∀w',PR w0 w' p f M vt (bA s) top->Eff p f M M w w'->K (.bool (isS s x)) w'):
  aC P0 49 [.pointer (some ⟨p,0,none⟩),v] w K:=by
 refine aBf ?_;unfold W49;refine mU h hs hN hl λw1 h1 he1=>?_;refine bE λb w2 hb hz2 hbb hx2=>?_;have h2:=h1.ext hx2;have L2:=h1.loc hz2 hb hbb;refine cA (l:=fB (cur s)) L2.1 rfl rfl rfl λw3 hz3 hb3 hc3=>?_;have L3:Loc w0 w3 p f M vt b TkT (fB (cur s)):=⟨hb3,L2.2.up (by omega)⟩;have h3:=h2.one hc3 L2.2;have he3:Eff p f M M w w3:=(he1.x hx2).one hc3 (by have:=he1.chg.size;omega);have sl3:SlAt w3 StT v 1 [str x]:=yK hv.1 he3.chg λk hk=>(hv.2 k hk).no;refine L3.ldf rfl ?_;rw[bM];refine GdW.look (decide ((cur s).t=x)) (λ_ J hJ=>?_) λg=>?_
 ·refine L3.ldf rfl ?_;refine Cy (l:=[x]) sl3 (by simp) ?_;simpa using hJ
 ·simp only[aG,iG];rw[eX];exact hK w3 h3 he3
theorem tY{x:Str}(h:PR w0 w p f M vt s top)(hs:WS N s)(hN:N<=1000000)(hl:s.toks.length<=100000)(hK:∀w',PR w0 w' p f M vt (bU s x).2 top->Eff p f M M w w'->K (.bool (bU s x).1) w'):
  aC P0 52 [.pointer (some ⟨p,0,none⟩),str x] w K:=by
 refine aBc ?_;unfold W52;refine wM λb w1 hb hz1 hbb hx1=>?_;have h1:=h.ext hx1;have L1:=h.loc hz1 hb hbb;refine aAa h1 hs hN hl ⟨AE hbb rfl,λk hk=>by simp only[Value.ownBlock,bD]at hk;subst hk;exact L1.2⟩ λw2 h2 he2=>?_;have he:=(Eff.ext hx1).trans he2;unfold bU at hK;rw[eP,bR];refine⟨λe=>?_,λe=>?_⟩
 ·have e:isS s x=false:=by simpa using e
  rw[aE (by rw[e];decide)]at hK;exact hK w2 h2 he
 ·have e:isS s x=true:=by simpa using e
  rw[aI e]at hK;exact h2.go (wsi ((fX hs).ws hs) (by rw[(fX hs).toks];exact hl)) λw3 h3 he3 _=>hK w3 h3 (he.trans he3)
theorem wZ{x:Str}(h:PR w0 w p f M vt s top)(hs:WS N s)(hN:N<=1000000)(hl:s.toks.length<=100000)(hK:∀s',nY s x=.ok () s'->∀w',PR w0 w' p f M vt s' top->Eff p f M M w w'->K (.tuple #[]) w')(ht:∀c a,nY s x=.err c a->Thr w0 f c a):
  aC P0 116 [.pointer (some ⟨p,0,none⟩),str x] w K:=by
 refine Xp ?_;unfold aDV;refine tY h hs hN hl λw1 h1 he1=>?_;unfold bU at h1 he1⊢;unfold nY at hK ht;rw[eP,bR];by_cases e:isS s x=true
 ·simp only[aI e]at h1 he1 hK ht⊢;exact⟨λe=>(by cases e),λ_=>hK _ rfl w1 h1 he1⟩
 ·simp only[aE e]at h1 he1 hK ht⊢;refine⟨λ_=>?_,λe=>(by cases e)⟩;refine mU h1 ((fX hs).ws hs) hN (by rw[(fX hs).toks];exact hl) λw2 h2 he2=>?_;rw[kO];refine⟨i64 (cur s).a,rfl,?_⟩;exact pW h2 (ht _ _ rfl)
theorem xQ{k:Int}(h:PR w0 w p f M vt s top)(hs:WS N s)(hN:N<=1000000)(hl:s.toks.length<=100000)(hK:∀t s',lL s k=.ok t s'->∀w',PR w0 w' p f M vt s' top->Eff p f M M w w'->K (.agg (fB t).toArray) w')(ht:∀c a,lL s k=.err c a->Thr w0 f c a):
  aC P0 46 [.pointer (some ⟨p,0,none⟩),i64 k] w K:=by
 refine aBi ?_;unfold W46;refine bE λb w1 hb hz1 hbb hx1=>?_;have h1:=h.ext hx1;have L1:=h.loc hz1 hb hbb;have hsn:=(fX hs).ws hs;have hln:(bA s).toks.length<=100000:=by rw[(fX hs).toks];exact hl
 unfold lL at hK ht;refine bT.cut (λ_ w'=>PR w0 w' p f M vt (bA s) top/\Eff p f M M w1 w'/\(cur s).k=k) ?_ ?_
 ·refine mU h1 hs hN hl λw2 h2 he2=>?_;refine⟨i64 (cur s).k,rfl,?_⟩;dsimp only;rw[fJ,aO];refine⟨λe=>?_,λe=>⟨h2,he2,by omega⟩⟩;refine mU h2 hsn hN hln λw3 h3 he3=>?_;rw[kO];refine⟨i64 (cur s).a,rfl,?_⟩;exact pW h3 (ht _ _ (by rw[aE e]))
 rintro st g w2 ⟨h2,he2,hk⟩;rw[aI hk]at hK;refine Lb h2 hsn hN hln λw3 h3 he3=>?_;rw[kO];have L3:=(L1.eff he2).eff he3;refine iP (l:=fB (cur s)) L3.1 rfl rfl rfl λw4 hc4=>?_;have e:iR (bA s)=iR s:=by unfold iR;rw[kO,gM]
 rw[e]at h3;exact hK _ _ rfl w4 (h3.one hc4 L3.2) ((((Eff.ext hx1).trans he2).trans he3).one hc4 (by omega))
end
end
end Go.Proofs.YtghhmpppnmoeoaaGreatDoor
namespace Go.Syn
section
open Go Go.Eng Go.Lex
variable{w:World}{K:Q0}{cs:List Value}{G:Nat->Prop}{T:TypeId}{i:Nat}{n:Nat}{v:Value}{w':World}{P:Program}{c:UInt8}{S:Nat->Prop}
def rD:Str->Bool
 |[]=>true
 |[c]=>c !=92
 |c::e::r=>if c=92 then rD r else rD (e::r)
theorem Oh{r:Str}(hc:c≠92)(h:rD r=true):rD (c::r)=true:=by
 cases r with
 |nil=>simp[rD,hc]
 |cons e r=>simp only[rD];rw[aE hc];exact h
theorem DN:∀(n:Nat) (t:Str),t.length<=n->noD t=true->rD t=true
 |_,[],_,_=>rfl
 |_,[c],_,h=>by simp only[noD,aL]at h;exact h.1
 |0,c::e::r,h,_=>by simp at h
 |n+1,c::e::r,h,hd=>by
  simp only[noD]at hd
  simp only[aB]at h
  simp only[rD]
  split at hd
  ·rename_i hc
   rw[aI hc]
   exact DN n r (by omega) hd
  ·rename_i hc
   rw[aE hc]
   simp only[aL]at hd
   exact DN n (e::r) (by simp only[aB];omega) hd.2
theorem qW{c':UInt8}{r r':Str}{k:Nat}(h:(c'::r').take (k+1)=(c::r).take (k+1)):c'=c/\r'.take k=r.take k:=by
 simp only[vQ,dQ]at h;exact h
theorem mJ{r r':Str}{k j m:Nat}(h:r'.take k=r.take k)(hk:j+m<=k):(r'.drop j).take m=(r.drop j).take m:=by
 have e:∀s:Str,(s.drop j).take m=((s.take k).drop j).take m:=λs=>by
  rw[List.drop_take,List.take_take,nO (by omega)]
 rw[e r',e r,h]
theorem IF{x x':UInt8}{r r':Str}(h:x=x'):pD [36,123] (c::x::r)=pD [36,123] (c::x'::r'):=by
 subst h;simp[pD,List.isPrefixOf]
theorem KA:∀(N:Nat) (r r':Str),r.length<=N->
  (∀d k,gA r d=(k,0)->r'.take k=r.take k->k<=r'.length->gA r' d=(k,0))/\
  (∀d k,jU r d=(k,0)->r'.take k=r.take k->k<=r'.length->jU r' d=(k,0)):=by
 intro N;induction N with
 |zero=>
  intro r r' hr;have:r=[]:=bJ (by omega);subst this;exact⟨λd k h=>(by rw[pL]at h;cases h),λd k h=>(by rw[Eh]at h;cases h)⟩
 |succ N ih=>
  intro r r' hr;cases r with
  |nil=>exact ih [] r' (by simp)
  |cons c r=>
   simp only[aB]at hr;have hr:r.length<=N:=by omega
   have sh:∀{k:Nat},1<=k->r'.take k=(c::r).take k->k<=r'.length->∃r2,r'=c::r2/\r2.take (k-1)=r.take (k-1)/\k-1<=r2.length:=λ{k} hk ht hl=>by
    cases r' with
    |nil=>simp at hl;omega
    |cons c' r2=>
     obtain⟨j,rfl⟩:∃j,k=j+1:=⟨k-1,by omega⟩;obtain⟨rfl,h2⟩:=qW ht;exact⟨r2,rfl,h2,by simpa using hl⟩
   refine⟨λd k h ht hl=>?_,λd k h ht hl=>?_⟩
   ·have hk:=((iY _ (c::r) (aU _)).1 d k h).2.1;obtain⟨r2,rfl,h2,hl2⟩:=sh hk ht hl;rw[pM]at h⊢;simp only[fS]at h⊢;split at h
    ·rename_i e;rw[aI e];exact h
    rename_i e;rw[aE e];split at h
    ·cases h
    rename_i e1;rw[aE e1];split at h
    ·rename_i e2;rw[aI e2];cases r with
     |nil=>cases h
     |cons x rr=>
      simp only at h;split at h
      ·rename_i e3;obtain⟨g1,g2⟩:=lR h;have gk:=((iY _ rr (aU _)).1 d _ g1).2.1;cases r2 with
       |nil=>simp at hl2;omega
       |cons x' rr'=>
        obtain⟨j,rfl⟩:∃j,k=j+2:=⟨k-2,by omega⟩;rw[show j+2-1=j+1 by omega]at h2 hl2;obtain⟨rfl,h3⟩:=qW h2;simp only[aI e3];have:=(ih rr rr' (by simp at hr;omega)).1 d j (by simpa using g1) h3 (by simpa using hl2);rw[this];unfold mH;simp
      ·cases h
    rename_i e2;rw[aE e2];split at h
    ·rename_i e3;split at h
     ·cases h
     rename_i e24;split at h
     ·rename_i e4;obtain⟨g1,g2⟩:=lR h;have gk:=((iY _ _ (aU _)).1 d _ g1).2;have gi:=((iY _ (r.drop 1) (aU _)).2 (d+1) _ (fK rfl e4)).1;cases r with
      |nil=>simp[pD]at e3
      |cons x rr=>
       cases r2 with
       |nil=>simp at hl2;omega
       |cons x' rr'=>
        obtain⟨j,rfl⟩:∃j,k=j+2:=⟨k-2,by omega⟩;rw[show j+2-1=j+1 by omega]at h2 hl2;obtain⟨rfl,h3⟩:=qW h2;simp only[cS,cX]at g1 gk gi e4⊢;have hl3:j<=rr'.length:=by simpa using hl2
        have hp:pD [36,123] (c::x'::rr')=true:=by rw[IF (r':=rr) rfl];exact e3
        have hrr:rr.length<=N:=by simp at hr;omega
        have hi:=(ih rr rr' hrr).2 (d+1) (jU rr (d+1)).1 (fK rfl e4) (by have:=mJ (j:=0) (m:=(jU rr (d+1)).1) h3 (by omega);simpa using this) (by omega);rw[aI hp,aE e24,hi];simp only;have ht:=(ih (rr.drop (jU rr (d+1)).1) (rr'.drop (jU rr (d+1)).1) (kN _ hrr)).1 d _ g1 (mJ h3 (by omega)) (by rw[aR];omega);rw[ht];unfold mH;simp;omega
     ·rename_i e4;injection h with _ h2
      exact absurd h2 e4
    ·rename_i e3;obtain⟨g1,g2⟩:=lR h;have gk:=((iY _ _ (aU _)).1 d _ g1).2;have hp:¬pD [36,123] (c::r2)=true:=by
      cases r with
      |nil=>rw[pL]at g1;exact absurd (congrArg Prod.snd g1) (by simp)
      |cons x rr=>
       cases r2 with
       |nil=>simp at hl2;omega
       |cons x' rr'=>
        obtain⟨j,hj⟩:∃j,k-1=j+1:=⟨k-2,by omega⟩;rw[hj]at h2;obtain⟨rfl,_⟩:=qW h2;rw[IF (r':=rr) rfl];exact e3
     rw[aE hp];have:=(ih r r2 hr).1 d (k-1) g1 h2 hl2;rw[this];unfold mH;simp;omega
   ·have hk:=((iY _ (c::r) (aU _)).2 d k h).1.1;obtain⟨r2,rfl,h2,hl2⟩:=sh hk ht hl;rw[BI]at h⊢;simp only[fS]at h⊢;split at h
    ·rename_i e;rw[aI e];exact h
    rename_i e;rw[aE e];split at h
    ·cases h
    rename_i e1;rw[aE e1];split at h
    ·rename_i e2;rw[aI e2];split at h
     ·cases h
     rename_i e24;rw[aE e24];split at h
     ·rename_i e4;obtain⟨g1,g2⟩:=lR h;have gk:=((iY _ _ (aU _)).2 d _ g1).1;have hi:=(ih r r2 hr).2 (d+1) (jU r (d+1)).1 (fK rfl e4) (by have:=mJ (j:=0) (m:=(jU r (d+1)).1) h2 (by omega);simpa using this) (by omega);rw[hi];simp only[fY];have ht:=(ih (r.drop (jU r (d+1)).1) (r2.drop (jU r (d+1)).1) (kN _ hr)).2 d _ g1 (mJ h2 (by omega)) (by rw[aR];omega);rw[ht];unfold mH;simp;omega
     ·rename_i e4;injection h with _ h2
      exact absurd h2 e4
    rename_i e2;rw[aE e2];split at h
    ·rename_i e3;rw[aI e3];split at h
     ·rename_i e4;obtain⟨g1,g2⟩:=lR h;have gk:=((iY _ _ (aU _)).2 d _ g1).1;have hi:=(ih r r2 hr).1 d (gA r d).1 (fK rfl e4) (by have:=mJ (j:=0) (m:=(gA r d).1) h2 (by omega);simpa using this) (by omega);rw[hi];simp only[fY];have ht:=(ih (r.drop (gA r d).1) (r2.drop (gA r d).1) (kN _ hr)).2 d _ g1 (mJ h2 (by omega)) (by rw[aR];omega);rw[ht];unfold mH;simp;omega
     ·rename_i e4;injection h with _ h2
      exact absurd h2 e4
    ·rename_i e3;rw[aE e3];obtain⟨g1,g2⟩:=lR h;have:=(ih r r2 hr).2 d (k-1) g1 h2 hl2;rw[this];unfold mH;simp;omega
def Scd(t:Str):Prop:=∃d,gA (t++[34]) d=(t.length+1,0)
theorem Pk{r:Str}{d k:Nat}(h:gA r d=(k,0))(hl:∀b,r[k-1]?=some b->b=34):Scd (r.take (k-1)):=by
 obtain⟨_,h1,h2⟩:=(iY _ r (aU _)).1 d k h;obtain⟨j,rfl⟩:∃j,k=j+1:=⟨k-1,by omega⟩;rw[Fc]at hl⊢;have e1:(r.take j).length=j:=by rw[cH];omega
 have hlt:j<r.length:=by omega
 have e2:r.take j++[34]=r.take (j+1):=by
  have:=hl _ (List.getElem?_eq_getElem hlt);rw[dU,List.getElem?_eq_getElem hlt,this];rfl
 refine⟨d,?_⟩;rw[e2,e1];exact(KA _ r (r.take (j+1)) (aU _)).1 d (j+1) h (by rw[List.take_take,Nat.min_self]) (by rw[cH];omega)
theorem xC:∀(N:Nat) (r:Str) (d k:Nat),r.length<=N->gA r d=(k,0)->r[k-1]?=some 34
 |0,r,d,k,hr,h=>by
  have:r=[]:=bJ (by omega)
  subst this
  rw[pL]at h;cases h
 |N+1,[],d,k,_,h=>by rw[pL]at h;cases h
 |N+1,c::r,d,k,hr,h=>by
  simp only[aB]at hr
  have hr:r.length<=N:=by omega
  rw[pM]at h
  simp only[fS]at h
  split at h
  ·rename_i e
   injection h with h1 _
   subst h1 e
   rfl
  split at h
  ·cases h
  split at h
  ·cases r with
   |nil=>cases h
   |cons x rr=>
    simp only at h
    split at h
    ·obtain⟨g1,g2⟩:=lR h
     have gk:=((iY _ rr (aU _)).1 d _ g1).2.1
     have:=xC N rr d _ (by simp at hr;omega) g1
     rw[show k-1=(k-2-1)+2 by omega]
     exact this
    ·cases h
  split at h
  ·rename_i e3
   split at h
   ·cases h
   split at h
   ·obtain⟨g1,g2⟩:=lR h
    have gk:=((iY _ _ (aU _)).1 d _ g1).2.1
    have:=xC N _ d _ (kN _ (kN 1 hr)) g1
    rw[List.getElem?_drop,List.getElem?_drop]at this
    rw[show k-1=1+((jU (r.drop 1) (d+1)).1+(k-((jU (r.drop 1) (d+1)).1+2)-1))+1 by omega]
    exact this
   ·rename_i e4
    injection h with _ h2
    exact absurd h2 e4
  ·obtain⟨g1,g2⟩:=lR h
   have gk:=((iY _ r (aU _)).1 d _ g1).2.1
   have:=xC N r d _ hr g1
   rw[show k-1=(k-1-1)+1 by omega]
   exact this
theorem GZ:∀(N:Nat) (t:Str),t.length<=N->Scd t->(insP t=none->rD t=true)/\∀i e,insP t=some (i,e)->rD (t.take i)=true/\i+3<=e/\e<=t.length/\Scd (t.drop e)
 |_,[],_,_=>⟨λ_=>rfl,λi e h=>by simp[insP]at h⟩
 |0,_::_,h,_=>by simp at h
 |N+1,[c],_,⟨d,h⟩=>by
  refine⟨λ_=>?_,λi e h=>by simp[insP]at h⟩
  simp only[rD,bne_iff_ne,bN]
  intro e
  subst e
  simp only[dB,eY]at h
  rw[pM]at h
  simp[Lex.escOk,mH,pL]at h
 |N+1,c::x::r,hN,⟨d,h⟩=>by
  simp only[aB]at hN
  simp only[dB]at h
  rw[pM]at h
  simp only[fS]at h
  split at h
  ·injection h with h1 _
   simp at h1
  split at h
  ·cases h
  simp only[insP,rD]
  split at h
  ·rename_i e92
   rw[aI e92,aI e92]
   split at h
   ·obtain⟨g1,g2⟩:=lR h
    have sr:Scd r:=⟨d,by rw[g1];simp⟩
    obtain⟨i1,i2⟩:=GZ N r (by omega) sr
    refine⟨λhn=>i1 (by cases hr:insP r with|none=>rfl|some y=>rw[hr]at hn;cases hn),λi e hi=>?_⟩
    cases hr:insP r with
    |none=>rw[hr]at hi;cases hi
    |some y=>
     rw[hr]at hi
     simp only[iI,bD,fT]at hi
     obtain⟨rfl,rfl⟩:=hi
     obtain⟨j1,j2,j3,j4⟩:=i2 _ _ hr
     refine⟨?_,by omega,by simp only[aB];omega,by rw[show y.2+2=y.2+1+1 by omega,cS,cS];exact j4⟩
     rw[show y.1+2=y.1+1+1 by omega,vQ,vQ]
     simp only[rD]
     rw[aI e92]
     exact j1
   ·cases h
  rename_i e92
  rw[aE e92,aE e92]
  split at h
  ·rename_i e3
   have hc:c=36/\x=123:=by
    simp[pD,List.isPrefixOf]at e3;exact⟨e3.1.symm,e3.2.symm⟩
   rw[aI hc];refine⟨λhn=>(by cases hn),λi e hi=>?_⟩;simp only[bD,fT]at hi;obtain⟨rfl,rfl⟩:=hi;split at h
   ·cases h
   split at h
   ·rename_i e4;simp only[cS,cX]at h e4;obtain⟨k1,e5⟩:∃k1,jU (r++[34]) (d+1)=(k1,0):=⟨_,fK rfl e4⟩;simp only[e5]at h;obtain⟨g1,g2⟩:=lR h;have gk:=((iY _ _ (aU _)).1 d _ g1).2;have gi:=((iY _ (r++[34]) (aU _)).2 (d+1) _ e5).1;simp only[aB]at g1 gk g2;have hle:k1<=r.length:=by omega
    have hs:=(KA _ (r++[34]) r (aU _)).2 (d+1) _ e5 (by rw[Cd hle]) hle;have hb:=((iY _ r (aU _)).2 (d+1) _ hs).2 1 (by omega);rw[aI rfl]at hb;have eb:JX (x::r)=1+k1:=by
     show pX (x::r) 0=_;rw[oJ,aI hc.2,show(0:Int)+1=1 from rfl,hb]
    rw[eb];refine⟨rfl,by omega,by simp only[aB];omega,?_⟩;rw[show 1+(1+k1)=k1+1+1 by omega,cS,cS];refine⟨d,?_⟩;rw[<-Ce hle,g1,aR];simp only[fT,kV];omega
   ·rename_i e4;injection h with _ h2
    exact absurd h2 e4
  ·rename_i e3;have hc:¬(c=36/\x=123):=λe=>e3 (by simp[pD,List.isPrefixOf,e.1,e.2]);rw[aE hc];obtain⟨g1,g2⟩:=lR h;have sr:Scd (x::r):=⟨d,by simp only[dB];rw[g1];simp⟩;obtain⟨i1,i2⟩:=GZ N (x::r) (by simp only[aB];omega) sr;refine⟨λhn=>i1 (by cases hr:insP (x::r)with|none=>rfl|some y=>rw[hr]at hn;cases hn),λi e hi=>?_⟩;cases hr:insP (x::r)with
   |none=>rw[hr]at hi;cases hi
   |some y=>
    rw[hr]at hi;simp only[iI,bD,fT]at hi;obtain⟨rfl,rfl⟩:=hi;obtain⟨j1,j2,j3,j4⟩:=i2 _ _ hr;refine⟨?_,by omega,by simp only[aB]at j3⊢;omega,by rw[cS];exact j4⟩;rw[vQ];exact Oh e92 j1
def Fa(t:Str):Prop:=noD t=true\/Scd t
theorem Kw{t:Str}(h:Fa t):(insP t=none->rD t=true)/\∀i e,insP t=some (i,e)->rD (t.take i)=true/\i+3<=e/\e<=t.length/\Fa (t.drop e):=by
 rcases h with h|h
 ·exact⟨λ_=>DN _ t (aU _) h,λi e hi=>by rw[CW _ t (aU _) h]at hi;cases hi⟩
 ·obtain⟨h1,h2⟩:=GZ _ t (aU _) h;exact⟨h1,λi e hi=>by obtain⟨a,b,c,d⟩:=h2 i e hi;exact⟨a,b,c,.inr d⟩⟩
def TS(l:List Tok):Prop:=∀t∈l,t.k=3->Fa t.t/\t.t.length<=100000
theorem vI:∀s:Str,(kB s).length<=2*s.length
 |[]=>aU _
 |c::r=>by
  have:=vI r
  simp only[kB]
  split
  ·simp only[aB];omega
  split
  ·simp only[aB];omega
  split
  ·simp only[aB];omega
  ·simp only[aB];omega
theorem Gg:∀(n:Nat) (name s:Str),(lU n name s).1.length<=2*s.length
 |0,_,_=>by simp[lU]
 |n+1,name,s=>by
  have hr:=qK (λb=>b !=10) s
  simp only[lU]
  split
  ·simp
  split
  ·simp
  rename_i hlen
  split
  ·have h1:=Gg n name (s.drop (eK (λb=>b !=10) s+1))
   have h2:=vI (s.take (eK (λb=>b !=10) s))
   rw[aR]at h1
   rw[cH]at h2
   simp only[bG,aB,aN]
   omega
  ·simp
theorem Jj(s:Str):(iD s).1.length<=2*s.length:=by
 unfold iD;simp only;generalize (if jE ((s.drop 2).headD 0)=true then eK jJ (s.drop 2)else 0)=n;split
 ·simp
 split
 ·have h1:=Gg (s.length+1) ((s.drop 2).take n) (s.drop (2+n+1));rw[aR]at h1;split
  ·show(lU (s.length+1) ((s.drop 2).take n) (s.drop (2+n+1))).1.length<=_;omega
  ·simp
 ·simp
theorem ZQ{s:Str}{t:Tok}{k:Nat}(h:oS s=(t,k,0))(hk:t.k=3):Fa t.t/\t.t.length<=2*s.length:=by
 unfold oS at h;simp only at h;split at h
 ·injection h with h1 _;subst h1;cases hk
 split at h
 ·injection h with h1 _;subst h1;cases hk
 split at h
 ·injection h with h1 _;subst h1;cases hk
 split at h
 ·split at h
  ·rename_i hq he;injection h with h1 _
   subst h1;have hx:nZ (s.length+1) (s.drop 1) 0=gA (s.drop 1) 0:=tA (by rw[aR];omega);rw[hx]at he⊢;refine⟨.inr (Pk (d:=0) (fK rfl he) λb hb=>?_),by simp only[cH,aR];omega⟩;rw[xC _ (s.drop 1) 0 _ (aU _) (fK rfl he)]at hb;injection hb with hb
   exact hb.symm
  ·rename_i he;injection h with h1 h2
   injection h2 with _ h2
   exact absurd h2 he
 split at h
 ·injection h with h1 h2
  injection h2 with h2 h3
  obtain⟨i1,i2,i3⟩:=Ek (s:=s) (t:=(iD s).1) (k:=(iD s).2.1) (fK rfl (fK rfl h3));subst h1;exact⟨.inl i3,Jj s⟩
 ·injection h with h1 _;subst h1;cases hk
theorem Im:∀(n:Nat) (s:Str) (a cnt:Nat) (l:List Tok),s.length<=16384->mT n s a cnt=.ok l->TS l
 |0,_,_,_,_,_,h=>by simp[mT]at h
 |n+1,s,a,cnt,l,hl,h=>by
  simp only[mT]at h
  split at h
  ·cases h
  split at h
  ·injection h with h
   subst h
   intro t ht hk
   simp only[bQ]at ht
   subst ht
   cases hk
  split at h
  ·cases h
  rename_i ho
  split at h
  ·cases h
  split at h
  ·rename_i l' hl'
   injection h with h
   subst h
   intro t ht hk
   rcases bP.1 ht with rfl|ht
   ·have h1:=ZQ (t:=(oS (s.drop (fG (s.length+1) s).1)).1) (k:=(oS (s.drop (fG (s.length+1) s).1)).2.1) (fK rfl (fK rfl (zP.1 ho))) hk
    rw[aR]at h1
    exact⟨h1.1,by simp only;omega⟩
   ·exact Im n _ _ _ _ (by rw[aR,aR];omega) hl' t ht hk
  ·rename_i hne
   exact absurd h (hne l)
theorem Mb{s:Str}{l:List Tok}(h:qB s=.ok l):TS l:=by
 unfold qB at h;split at h
 ·cases h
 rename_i hl;split at h
 ·cases h
 exact Im _ _ _ _ _ (by omega) h
theorem Fz:∀(n:Nat) (s:Str) (a cnt:Nat) (l:List Tok),cnt<=4096->mT n s a cnt=.ok l->cnt+l.length<=4097
 |0,_,_,_,_,_,h=>by simp[mT]at h
 |n+1,s,a,cnt,l,hc,h=>by
  simp only[mT]at h
  split at h
  ·cases h
  split at h
  ·injection h with h
   subst h
   simp only[aB,aN];omega
  split at h
  ·cases h
  split at h
  ·cases h
  rename_i hne
  split at h
  ·rename_i l' hl'
   injection h with h
   subst h
   have:=Fz n _ _ _ _ (by omega) hl'
   simp only[aB];omega
  ·rename_i hne
   exact absurd h (hne l)
theorem Ij{s:Str}{l:List Tok}(h:qB s=.ok l):l.length<=4097/\s.length<=16384:=by
 unfold qB at h;split at h
 ·cases h
 rename_i hl;split at h
 ·cases h
 have:=Fz _ _ _ _ _ (gQ _) h;omega
end
end Go.Syn
namespace Go.Proofs.YtghhmpppnmoeoaaGreatDoor
section
open Go Go.Eng Go.RowKit Go.Syn Go.Lex
variable{w:World}{K:Q0}{cs:List Value}{G:Nat->Prop}{T:TypeId}{i:Nat}{n:Nat}{v:Value}{w':World}{P:Program}{c:UInt8}{S:Nat->Prop}
theorem Vz{B b:Nat}{l:Str}(h:Bld w B b l):Lib.IsBuilderF BdT U8 B b (Lib.byteCells l) w:=by
 obtain⟨p,v,h1,h2,h3,h4⟩:=h;have hO:w.ownsRow B U8 1 v (u8s l).length (u8s l):=by rw[pJ];exact h3
 have:Lib.BuilderAt BdT U8 B b p (u8s l) w:=⟨h4,v,h1,hO,λe=>Ka h1 (h3.block b e)⟩;rcases h2 with rfl|rfl
 ·exact .inl (Lib.BuilderAtF.of this)
 ·exact .inr (Lib.BuilderAtF.of this)
theorem jO[HX]{g:FuncId}{args caps:List Value}{K:Q0}(h:aC P g (args++caps) w K):oI P (.func (.func g) #[] caps.toArray) args w K:=by
 unfold oI Pi;unfold aC at h;have:(do let d<-(Deferred.ofValue (.func (.func g) #[] caps.toArray) args.toArray);invoke d.target d.args:Sem Next)=callFunc g (args++caps).toArray:=by
  show callFunc g (#[]++args.toArray++caps.toArray)=_;simp
 rw[this];exact h
theorem iL{s:Str}(h:i<s.length):s.drop i=s[i]::s.drop (i+1):=cC h
theorem pre_eq(s:Str):Lib.hasPrefix s [36,123]=pD [36,123] s:=rfl
section
variable [HX]
theorem Cb{B b:Nat}{l:Str}{K:Q0}(h:Bld w B b l)(hB:B<=w.heap.size)(hK:∀w',Chg (λk=>B<=k) w w'->K (str l) w'):aC P0 64 [.pointer (some ⟨b,0,none⟩)] w K:=by
 refine gS (args:=#[.pointer (some ⟨b,0,none⟩)]) Tryz.call64 ((Tryz.Builder_String_any_k B b l w (Vz h) hB).mono ?_);rintro e w' ⟨rfl,_,hb,_⟩;exact⟨_,rfl,hK w' ⟨hb.os,hb.tape,hb.output,hb.size,λk _ hn=>hb.block k (by omega)⟩⟩
theorem Ap{s q:Str}{K:Q0}(hK:K (.bool (Lib.hasPrefix s q)) w):aC P0 43 [str s,str q] w K:=by
 refine gS (args:=#[str s,str q]) Tryz.call43 ((Tryz.strings_HasPrefix (ofL s) (ofL q) w).mono ?_);rintro e w' ⟨rfl,rfl⟩;rw[eQ,eQ];exact⟨_,rfl,hK⟩
theorem qV{s:Str}{K:Value->Prop}(h:i<s.length)(hK:K (.int .u8 (s[i].toNat:Nat))):pF (str s) (i64 (i:Nat)) K:=by
 rw[Hw];exact⟨by omega,s[i],by simpa using List.getElem?_eq_getElem h,hK⟩
theorem Fj(c:UInt8)(k:Nat)(hk:k<256):decide (((c.toNat:Nat):Int)=(k:Int))=decide (c=UInt8.ofNat k):=by
 rw[decide_eq_decide];constructor
 ·intro h;have h:c.toNat=k:=by omega
  rw[<-h];simp
 ·intro h;subst h;rw[jF];omega
theorem KG{s:Str}{K:Q0}(he:rD s=true)(hl:s.length<=1000000)(hK:∀w',Ext w w'->K (str (jZ s)) w'):aC P0 80 [str s] w K:=by
 refine aAS ?_;unfold W80;refine aAv (B:=w.heap.size) (aU _) λb w1 hb hB1 hx1=>?_;have hz1:=hx1.size;refine cZ.go (λst w'=>∃i out,st=[i64 (i:Nat)]/\i<=s.length/\Bld w' w.heap.size b out/\Ext w w'/\out++jZ (s.drop i)=jZ s/\out.length<=i/\rD (s.drop i)=true) (λst _=>match st with|[.int _ i]=>s.length-i.toNat|_=>0)
  ⟨0,[],rfl,by omega,hB1,hx1,rfl,aU _,he⟩ ?_
 rintro st g w2 ⟨i,out,rfl,hi,hB2,hx2,hs,ho,hes⟩;have hz2:=hx2.size;simp only[aG];rw[fR,eG,aO];have fin:∀{w3:World} {l:Str} {j:Nat} (c:UInt8),Chg (BCh w2 w.heap.size b) w2 w3->Bld w3 w.heap.size b (out++[c])->i<=j->j<s.length->(out++[c])++jZ (s.drop (j+1))=jZ s->rD (s.drop (j+1))=true->
   (∃i' out',[i64 ((j+1:Nat))]=[i64 (i':Nat)]/\i'<=s.length/\Bld w3 w.heap.size b out'/\Ext w w3/\out'++jZ (s.drop i')=jZ s/\out'.length<=i'/\rD (s.drop i')=true)/\s.length-((j+1:Nat):Int).toNat<s.length-((i:Nat):Int).toNat:=λ{w3 l j} c hc hB3 hij hj he1 he2=>by
  refine⟨⟨j+1,out++[c],rfl,by omega,hB3,BCh.new hx2 (aU _) (by omega) hc,he1,by simp;omega,he2⟩,?_⟩;simp only[aW];omega
 refine⟨λhlt=>?_,λhge=>?_⟩
 ·have hlt:i<s.length:=by omega
  refine qV hlt ?_;have hd:=iL hlt;have he0:=hes;rw[hd]at hes hs;refine bT.cut (λst w'=>w'=w2/\∃(j:Nat) (c:UInt8),st=[i64 (j:Nat),.int .u8 (c.toNat:Nat)]/\i<=j/\j<s.length/\(out++[c])++jZ (s.drop (j+1))=jZ s/\rD (s.drop (j+1))=true) ?_ ?_
  ·rw[bM,aO];refine⟨λe=>?_,λe=>?_⟩
   ·have ec:s[i]=92:=jX.1 (by have e:(s[i].toNat:Int)=92:=e;show s[i].toNat=92;omega);have hlt2:i+1<s.length:=by
     by_cases h2:i+1<s.length
     ·exact h2
     ·rw[eW (by omega),ec]at hes;simp[rD]at hes
    have hd2:=iL hlt2;rw[hd2,ec]at hes hs;simp only[rD,fY]at hes;simp only[jZ,fY]at hs;rw[cG,upi (by omega)];refine qV hlt2 ?_;rw[bM,aO];refine⟨λe1=>?_,λe1=>?_⟩
    ·have e1:s[i+1]=110:=jX.1 (by have e:(s[i+1].toNat:Int)=110:=e1;show s[i+1].toNat=110;omega);rw[aI e1]at hs;exact⟨rfl,i+1,10,rfl,by omega,hlt2,by rw[<-hs];simp,hes⟩
    have e1':s[i+1]≠110:=λh=>e1 (by rw[h];rfl);rw[bM,aO];rw[aE e1']at hs;refine⟨λe2=>?_,λe2=>?_⟩
    ·have e2:s[i+1]=116:=jX.1 (by have e:(s[i+1].toNat:Int)=116:=e2;show s[i+1].toNat=116;omega);rw[aI e2]at hs;exact⟨rfl,i+1,9,rfl,by omega,hlt2,by rw[<-hs];simp,hes⟩
    have e2':s[i+1]≠116:=λh=>e2 (by rw[h];rfl);rw[bM,aO];rw[aE e2']at hs;refine⟨λe3=>?_,λe3=>?_⟩
    ·have e3:s[i+1]=114:=jX.1 (by have e:(s[i+1].toNat:Int)=114:=e3;show s[i+1].toNat=114;omega);rw[aI e3]at hs;exact⟨rfl,i+1,13,rfl,by omega,hlt2,by rw[<-hs];simp,hes⟩
    have e3':s[i+1]≠114:=λh=>e3 (by rw[h];rfl);rw[aE e3']at hs;exact⟨rfl,i+1,s[i+1],rfl,by omega,hlt2,by rw[<-hs];simp,hes⟩
   ·have ec:s[i]≠92:=λh=>e (by rw[h];rfl);refine⟨rfl,i,s[i],rfl,aU _,hlt,?_,?_⟩
    ·rw[<-hs];cases hr:s.drop (i+1)with
     |nil=>simp only[jZ];rw[aE ec];simp
     |cons x r=>simp only[jZ];rw[aE ec];simp
    ·cases hr:s.drop (i+1)with
     |nil=>rfl
     |cons x r=>rw[hr]at hes;simp only[rD]at hes;rw[aE ec]at hes;exact hes
  rintro st g2 w3 ⟨rfl,j,c,rfl,hij,hj,he1,he2⟩;simp only[aG,dC];refine CO (n:=c.toNat) hB2 hz2 (by omega) (sU c) λw4 hB4 hc4=>?_;rw[cG,upi (by omega)];rw[rS]at hB4;exact fin (l:=[]) c hc4 hB4 hij hj he1 he2
 ·obtain rfl:i=s.length:=by omega
  rw[dW]at hs;simp only[jZ,eS]at hs;subst hs;refine Cb hB2 hz2 λw3 hc3=>?_;exact hK w3 (hx2.then hc3 λk hk e=>by omega)
end
theorem fP(s:Str)(i j:Nat):(s.drop i).drop j=s.drop (i+j):=iE
section
variable [HX]
def aBM(n:Nat):Prop:=∀(s:Str) (w:World) (K:Q0),s.length<=n->s.length<=1000000->K (i64 (pX s 0:Nat)) w->aC P0 112 [str s] w K
def XD(n:Nat):Prop:=∀(c:UInt8) (r:Str) (w:World) (K:Q0),r.length<n->r.length<=1000000->K (i64 ((1+rY r:Nat):Int)) w->aC P0 150 [str (c::r)] w K
theorem JW(hq:XD n):aBM n:=by
 intro s w K hn hl hK;refine Xs ?_;unfold aDY;refine cZ.go (λst w'=>∃(d:Int) (i:Nat),st=[i64 d,i64 (i:Nat)]/\i<=s.length/\w'=w/\i+pX (s.drop i) d=pX s 0/\-(i:Int)<=d/\d<=i) (λst _=>match st with|[_,.int _ i]=>s.length-i.toNat|_=>0) ⟨0,0,rfl,by omega,rfl,by simp,by omega,by omega⟩ ?_;rintro st g w2 ⟨d,i,rfl,hi,rfl,hb,hd1,hd2⟩;simp only[aG,dC];rw[fR,eG,aO];refine⟨λhlt=>?_,λhge=>?_⟩
 ·have hlt:i<s.length:=by omega
  have hd:=iL hlt;rw[hd,oJ]at hb;have cond:∀(k:Nat),k<256->(((s[i].toNat:Nat):Int)=(k:Int)↔s[i]=UInt8.ofNat k):=λk hk=>by
   have:=Fj s[i] k hk;rwa[decide_eq_decide]at this
  refine bT.cut (λst w'=>w'=w2/\∃(d':Int) (j:Nat),st=[i64 d',i64 (j:Nat)]/\i<=j/\j<s.length/\j+1+pX (s.drop (j+1)) d'=pX s 0/\-((j+1:Nat):Int)<=d'/\d'<=((j+1:Nat):Int)) ?_ ?_
  ·refine qV hlt ?_;rw[bM,aO];refine⟨λe=>?_,λe=>?_⟩
   ·have e:s[i]=123:=(cond 123 (by omega)).1 e;rw[aI e]at hb;rw[cG,cQ (by omega) (by omega)];exact⟨rfl,d+1,i,rfl,aU _,hlt,by omega,by omega,by omega⟩
   have e:¬s[i]=123:=λh=>e ((cond 123 (by omega)).2 h);rw[aE e]at hb;rw[bM,aO];refine⟨λe=>?_,λe=>?_⟩
   ·have e:s[i]=125:=(cond 125 (by omega)).1 e;rw[aI e]at hb;rw[nN,cQ (by omega) (by omega),bM,aO];refine⟨λh0=>?_,λh0=>?_⟩
    ·rw[aI h0]at hb;rw[cG,upi (by omega),hb];exact hK
    ·rw[aE h0]at hb;exact⟨rfl,d-1,i,rfl,aU _,hlt,by omega,by omega,by omega⟩
   have e:¬s[i]=125:=λh=>e ((cond 125 (by omega)).2 h);rw[aE e]at hb;rw[bM,aO];refine⟨λe=>?_,λe=>?_⟩
   ·have e:s[i]=34:=(cond 34 (by omega)).1 e;rw[aI e]at hb;rw[gB,gJ,fA];refine⟨by omega,by omega,?_⟩;rw[bO,aW,hd];refine hq _ _ _ _ (by rw[aR];omega) (by rw[aR];omega) ?_;have hle:=(Yg _ (s.drop (i+1)) (aU _)).2;rw[aR]at hle;rw[nN,cQ (by omega) (by omega),cG,cQ (by omega) (by omega)];rw[fP]at hb;refine⟨rfl,d,i+rY (s.drop (i+1)),?_,by omega,?_,?_,by omega,by omega⟩
    ·simp only[dQ,Value.int.injEq,dI,kV];omega
    ·omega
    ·rw[show i+rY (s.drop (i+1))+1=i+1+rY (s.drop (i+1))by omega];omega
   have e:¬s[i]=34:=λh=>e ((cond 34 (by omega)).2 h);rw[aE e]at hb;exact⟨rfl,d,i,rfl,aU _,hlt,by omega,by omega,by omega⟩
  rintro st g2 w3 ⟨rfl,d',j,rfl,hij,hj,hb',h1,h2⟩;simp only[aG,dC];rw[cG,upi (by omega)];refine⟨⟨d',j+1,rfl,by omega,trivial,by omega,by omega,by omega⟩,?_⟩;simp only[aW];omega
 ·obtain rfl:i=s.length:=by omega
  rw[dW,Rf]at hb;rw[<-hb]at hK;exact hK
theorem Px(hbr:aBM n):XD (n+1):=by
 intro c r w K hn hl hK;refine WR ?_;unfold aDA;have hlen:(c::r).length=r.length+1:=rfl;refine cZ.go (λst w'=>∃(i:Nat),st=[i64 ((i+1:Nat):Int)]/\w'=w/\((i<=r.length/\i+rY (r.drop i)=rY r)\/(i=r.length+1/\rY r=r.length))) (λst _=>match st with|[.int _ i]=>r.length+2-i.toNat|_=>0) ⟨0,rfl,rfl,.inl ⟨by omega,by simp⟩⟩ ?_;rintro st g w2 ⟨i,rfl,rfl,hbi⟩;simp only[aG,dC];rw[fR,eG,aO,hlen];refine⟨λhlt=>?_,λhge=>?_⟩
 ·have hlt:i<r.length:=by omega
  obtain⟨hi,hb⟩:=hbi.resolve_right (by omega);have hd:=iL hlt;rw[hd,Bv]at hb;have cond:∀(k:Nat),k<256->(((r[i].toNat:Nat):Int)=(k:Int)↔r[i]=UInt8.ofNat k):=λk hk=>by
   have:=Fj r[i] k hk;rwa[decide_eq_decide]at this
  have ix:∀{KK:Value->Prop},KK (.int .u8 (r[i].toNat:Nat))->pF (str (c::r)) (i64 ((i+1:Nat):Int)) KK:=λh=>qV (s:=c::r) (i:=i+1) (by rw[hlen];omega) h;refine bT.cut (λst w'=>w'=w2/\∃(j:Nat),st=[i64 ((j+1:Nat):Int)]/\i<=j/\((j+1<=r.length/\j+1+rY (r.drop (j+1))=rY r)\/(j+1=r.length+1/\rY r=r.length))) ?_ ?_
  ·refine ix ?_;rw[bM,aO];refine⟨λe=>?_,λe=>?_⟩
   ·have e:r[i]=34:=(cond 34 (by omega)).1 e;rw[aI e]at hb;rw[cG,upi (by omega)];rw[<-hb,show 1+(i+1)=i+1+1 by omega]at hK;exact hK
   have e:¬r[i]=34:=λh=>e ((cond 34 (by omega)).2 h);rw[aE e]at hb;refine ix ?_;rw[bM,aO];refine⟨λe=>?_,λe=>?_⟩
   ·have e:r[i]=92:=(cond 92 (by omega)).1 e;rw[aI e]at hb;rw[cG,upi (by omega)];refine⟨rfl,i+1,rfl,by omega,?_⟩;cases hr:r.drop (i+1)with
    |nil=>
     rw[hr]at hb;have hle:r.length<=i+1:=by
      have:=congrArg List.length hr;rw[aR,aN]at this;omega
     simp only at hb;exact .inr ⟨by omega,by omega⟩
    |cons x rr=>
     rw[hr]at hb;simp only at hb;have e2:r.drop (i+1+1)=rr:=by rw[<-fP,hr];rfl
     have e3:=congrArg List.length hr;rw[aR,aB]at e3;exact .inl ⟨by omega,by rw[e2];omega⟩
   have e:¬r[i]=92:=λh=>e ((cond 92 (by omega)).2 h);rw[aE e]at hb;rw[gB,gJ,fA];refine⟨by omega,by rw[hlen];omega,?_⟩;rw[bO,aW,cS,hd];refine Ap ?_;rw[pre_eq,bR];refine⟨λe=>?_,λe=>?_⟩
   ·rw[aI e]at hb;rw[cG,upi (by omega),gB,gJ,fA];refine⟨by omega,by rw[hlen];omega,?_⟩;rw[bO,aW,cS];refine hbr _ _ _ (by rw[aR];omega) (by rw[aR];omega) ?_;have hle:=HM (r.drop (i+1)) 0;rw[aR]at hle;rw[cG,cQ (by omega) (by omega)];rw[fP]at hb;refine⟨rfl,i+pX (r.drop (i+1)) 0,?_,by omega,.inl ⟨by omega,?_⟩⟩
    ·simp only[dQ,Value.int.injEq,dI,kV];omega
    ·rw[show i+pX (r.drop (i+1)) 0+1=i+1+pX (r.drop (i+1)) 0 by omega];omega
   ·rw[aE (by rw[e];decide)]at hb;exact⟨rfl,i,rfl,aU _,.inl ⟨by omega,by omega⟩⟩
  rintro st g2 w3 ⟨rfl,j,rfl,hij,hb'⟩;simp only[aG,dC];rw[cG,upi (by omega)];refine⟨⟨j+1,rfl,trivial,hb'⟩,?_⟩;simp only[aW];omega
 ·have hq:rY r=r.length:=by
   rcases hbi with⟨hi,hb⟩|h
   ·rw[eW (by omega),Py]at hb;omega
   ·exact h.2
  rw[hq,show 1+r.length=r.length+1 by omega]at hK;exact hK
theorem MU:∀n,aBM n/\XD n
 |0=>have hq:XD 0:=λ_ _ _ _ h=>by omega
  ⟨JW hq,hq⟩
 |n+1=>have hq:=Px (MU n).1
  ⟨JW hq,hq⟩
theorem Re{s:Str}{K:Q0}(hl:s.length<=1000000)(hK:K (i64 (JX s:Nat)) w):aC P0 112 [str s] w K:=(MU s.length).1 s w K (aU _) hl hK
def HB(s:Str):List Value:=match Syn.insP s with|some (i,e)=>[i64 (i:Nat),i64 (e:Nat)]|none=>[i64 (-1),i64 0]
theorem NS(c:UInt8)(r:Str):Syn.insP (c::r)=if c=92 then(Syn.insP (r.drop 1)).map (λx=>(x.1+2,x.2+2))else if pD [36,123] (c::r)=true then some (0,1+JX r)else(Syn.insP r).map λx=>(x.1+1,x.2+1):=by
 cases r with
 |nil=>
  simp only[Syn.insP,List.drop_nil,Option.map_none];split
  ·rfl
  ·simp[pD,List.isPrefixOf]
 |cons e r=>
  simp only[Syn.insP,cS,cX];split
  ·rfl
  ·have:(c=36/\e=123)↔pD [36,123] (c::e::r)=true:=by
    simp[pD,List.isPrefixOf];exact⟨λh=>⟨h.1.symm,h.2.symm⟩,λh=>⟨h.1.symm,h.2.symm⟩⟩
   by_cases h:c=36/\e=123
   ·rw[aI h,aI (this.1 h)]
   ·rw[aE h,aE (λx=>h (this.2 x))]
theorem xR{s:Str}{K:Q0}(hl:s.length<=1000000)(hK:K (.tuple (HB s).toArray) w):aC P0 79 [str s] w K:=by
 refine aAT ?_;unfold W79;refine cZ.go (λst w'=>∃(i:Nat),st=[i64 (i:Nat)]/\w'=w/\Syn.insP s=(Syn.insP (s.drop i)).map λx=>(x.1+i,x.2+i)) (λst _=>match st with|[.int _ i]=>s.length+1-i.toNat|_=>0) ⟨0,rfl,rfl,by rw[cX];cases Syn.insP s<;>rfl⟩ ?_;rintro st g w2 ⟨i,rfl,rfl,hb⟩;simp only[aG];rw[fR,eG,aO];unfold HB at hK;refine⟨λhlt=>?_,λhge=>?_⟩
 ·have hlt:i<s.length:=by omega
  have hd:=iL hlt;rw[hd,NS]at hb;have cond:∀(k:Nat),k<256->(((s[i].toNat:Nat):Int)=(k:Int)↔s[i]=UInt8.ofNat k):=λk hk=>by
   have:=Fj s[i] k hk;rwa[decide_eq_decide]at this
  refine bT.cut (λst w'=>w'=w2/\∃(j:Nat),st=[i64 (j:Nat)]/\i<=j/\j<=i+1/\Syn.insP s=(Syn.insP (s.drop (j+1))).map λx=>(x.1+(j+1),x.2+(j+1))) ?_ ?_
  ·refine qV hlt ?_;rw[bM,aO];refine⟨λe=>?_,λe=>?_⟩
   ·have e:s[i]=92:=(cond 92 (by omega)).1 e;rw[aI e,fP]at hb;rw[cG,upi (by omega)];refine⟨rfl,i+1,rfl,by omega,by omega,?_⟩;rw[hb,Option.map_map];congr 1;funext x;simp only[Function.comp,fT];omega
   have e:¬s[i]=92:=λh=>e ((cond 92 (by omega)).2 h);rw[aE e]at hb;rw[gB,gJ,fA];refine⟨by omega,by omega,?_⟩;rw[bO,aW,hd];refine Ap ?_;rw[pre_eq,bR];refine⟨λe=>?_,λe=>?_⟩
   ·rw[aI e]at hb;rw[cG,upi (by omega),cG,upi (by omega),gB,gJ,fA];refine⟨by omega,by omega,?_⟩;rw[bO,aW];refine Re (by rw[aR];omega) ?_;have hle:=HM (s.drop (i+1)) 0;have eb:JX (s.drop (i+1))=pX (s.drop (i+1)) 0:=rfl;rw[aR]at hle;rw[cG,cQ (by omega) (by omega)];rw[hb]at hK;simp only[iI]at hK;have e1:((0+i:Nat):Int)=(i:Int):=by omega
    have e2:((1+JX (s.drop (i+1))+i:Nat):Int)=((i+1:Nat):Int)+(JX (s.drop (i+1)):Nat):=by omega
    rw[e1,e2]at hK;exact hK
   ·rw[aE (by rw[e];decide)]at hb;refine⟨rfl,i,rfl,by omega,by omega,?_⟩;rw[hb,Option.map_map];congr 1;funext x;simp only[Function.comp,fT];omega
  rintro st g2 w3 ⟨rfl,j,rfl,hij,hj,hb'⟩;simp only[aG];rw[cG,upi (by omega)];refine⟨⟨j+1,rfl,trivial,hb'⟩,?_⟩;simp only[aW];omega
 ·rw[eW (by omega)]at hb;rw[hb]at hK;exact hK
end
end
end Go.Proofs.YtghhmpppnmoeoaaGreatDoor
