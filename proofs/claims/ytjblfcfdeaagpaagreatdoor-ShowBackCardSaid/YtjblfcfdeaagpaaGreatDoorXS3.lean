/- One plain sentence: contracts and plain laws that the claim rests on. Conditions: those that each states. -/
import Derived.Test.YtjblfcfdeaagpaaGreatDoorXS2
import Derived.Test.YtjblfcfdeaagpaaGreatDoorXS1
set_option linter.all false
set_option linter.unusedSimpArgs false
set_option linter.unusedVariables false
set_option linter.unusedSectionVars false
set_option maxRecDepth 100000
namespace Go.Proofs.YtjblfcfdeaagpaaGreatDoor
section
open Go Go.Eng Go.RowKit Go.Syn Go.Lex
variable{w:World}{K:Q0}{cs:List Value}{G:Nat->Prop}{T:TypeId}{i:Nat}{n:Nat}{v:Value}{w':World}{P:Program}{c:UInt8}{S:Nat->Prop}
theorem uO{α:Type}{s:PS}{a:Int}{q:Bool}{f:PS->R α}(hd:s.deep≠24):within s a q f=(f {s with deep:=s.deep+1,quiet:=q}).bind λx s'=>.ok x {s' with deep:=s.deep,quiet:=s.quiet}:=by
 unfold within;rw[aD hd]
theorem rI{α:Type}{s:PS}{a:Int}{q:Bool}{f:PS->R α}(hd:s.deep=24):within s a q f=.err 7 a:=by
 unfold within;rw[aF hd]
theorem gH(s:PS)(w:Str):isS (aM s) w=isS s w:=by unfold isS;rw[kD]
section
variable [HX]
variable{w0 w w' w1:World}{p f b:Nat}{M M' M0:Lay}{vt:Value}{s:PS}{top:List Nat}{N:Int}{K:Q0}{e:Ex}{va vk:Value}{wbn:Nat}{wb:World}{dl:Nat}
theorem Gd.sign{x:Str}(hg:Gd N s (dl+1))(hi:isS s x=true)(q:Bool):
  Gd N {aM s with deep:=(aM s).deep+1,quiet:=q} dl/\aM {aM s with deep:=(aM s).deep+1,quiet:=q}={aM s with deep:=(aM s).deep+1,quiet:=q}/\(cur {aM s with deep:=(aM s).deep+1,quiet:=q}).k≠0/\Gd N (step1 {aM s with deep:=(aM s).deep+1,quiet:=q}) dl:=by
 have h1:=hg.now.frame q;obtain⟨a,b,c⟩:=nA hg.ws hi ((aM s).deep+1) q;have h2:=h1.step b;rw[a]at h2;exact⟨h1,a,b,h2⟩
theorem yZ{x:Str}{KK:Q0}(h:PR w0 w p f M vt s top)(hg:Gd N s dl)(hK:∀w',PR w0 w' p f M vt (aM s) top->Eff p f M M w w'->KK (.bool (isS s x)) w'):
  fH StT 1 [(.string (ofL []))] [(0,1,str x)] w λt60 w17=>aI P0 65 [.pointer (some ⟨p,0,none⟩),t60] w17 KK:=by
 refine sA λb w1 hb hz1 hbb hx1=>?_;have L1:=h.loc hz1 hb hbb;refine SX (h.ext hx1) hg.ws hg.hN hg.l ⟨yF hbb rfl,λk hk=>by simp only[Value.ownBlock,bD]at hk;subst hk;exact L1.2⟩ λw2 h2 he2=>hK w2 h2 ((Eff.ext hx1).trans he2)
theorem Tr{E:PS->R Nat}(hS:vQ w0 f)(hE:∀d,dl=d+1->EC w0 f 118 E d)(hF:pZ E):EC w0 f 226 (iL E) dl:=by
 intro w p M vt s top N K h hg hK ht;refine PN ?_;unfold Vi;have hN:=hg.hN;have hat:=hg.at0;refine sZ rfl λb1 w1 hb1 hz1 hbb1 hx1=>?_;have h1:=h.ext hx1;have L1:=h.loc hz1 hb1 hbb1;refine L1.ld rfl ?_;refine mG h1 hg.ws hN hg.l λw2 h2 he2=>?_;have L1:=L1.eff he2;have he2:=(Eff.ext hx1).trans he2;have lt1:=L1.lt;refine bN λb3 w3 hb3 hz3 hbb3 hx3=>?_;have h3:=h2.ext hx3;have L3:=h2.loc hz3 hb3 hbb3;have L1:=L1.ext hx3;refine cL (l:=eK (cur s)) L3.1 rfl rfl rfl λw4 hz4 hbb4 hc4=>?_;have L3:Loc w0 w4 p f M vt b3 TkT (eK (cur s)):=⟨hbb4,L3.2.up (by omega)⟩;have h4:=h3.one hc4 L3.2;have L1:=L1.one hc4 (by omega);have hw2:=he2.chg.size;have he4:=(he2.x hx3).one hc4 (by omega);refine L3.ldf rfl ?_;simp only[dJ,eA,dQ,aA,aC,aR,aV,Nat.reduceAdd,Nat.reduceLT,dB,aY];have lt3:=L3.lt;refine bN λb4 w5 hb4 hz5 hbb5 hx5=>?_;have h5:=h4.ext hx5;have L4:=h4.loc hz5 hb4 hbb5;have L1:=L1.ext hx5;have L3:=L3.ext hx5;refine cL (l:=[i64 0,str [],.slice none 0 0,.slice none 0 0,i64 (cur s).a]) L4.1 rfl rfl rfl λw6 hz6 hbb6 hc6=>?_;have L4:Loc w0 w6 p f M vt b4 ExT [i64 0,str [],.slice none 0 0,.slice none 0 0,i64 (cur s).a]:=⟨hbb6,L4.2.up (by omega)⟩;have h6:=h5.one hc6 L4.2;have L1:=L1.one hc6 (by omega);have L3:=L3.one hc6 (by omega);have he6:=(he4.x hx5).one hc6 (by omega);have hw6:=he6.chg.size;have hgn:=hg.now;have hi1:=wsi hgn.ws hgn.l;have hb14:b1≠b4:=by omega
 have hb34:b3≠b4:=by omega
 have hwb4:w.heap.size<=b4:=by omega
 have hlev:=hgn.lev;have hd24:(aM s).deep<=24:=by omega
 refine cK.cut (λ_ w'=>∃M1 s1 e va vk,PR w0 w' p f M1 vt s1 top/\Gd N s1 dl/\Eff p f M M1 w w'/\Loc w0 w' p f M1 vt b1 PpT [.pointer (some ⟨p,0,none⟩)]/\Loc w0 w' p f M1 vt b4 ExT (exc e va vk)/\ER w0 w' p f M1 vt w.heap.size e va vk/\iL E s=lL s1 e) ?_ ?_
 ·unfold iL at hK ht⊢;simp only at hK ht⊢;refine L3.ldf rfl ?_;rw[bI,aN];refine⟨λhk=>?_,λhk=>?_⟩
  ·
   have hk0:(cur s).k≠0:=by rw[hk];decide
   refine L1.ld rfl ?_;refine h6.go hi1 λw7 h7 he7 hz7=>?_;have L1:=L1.eff he7;have L3:=(L3.eff he7).drew;have L4:=(L4.eff he7).drew;have h7:=h7.drew;have he7:=(he6.trans he7).x (bM w7);rw[bH,bO,aQ];refine L3.ld rfl ?_;rw[bH,bO,aQ];refine L4.st rfl (by simp) λw8 L4 hc8 hz8=>?_;have L3:=L3.one hc8 hb34;refine⟨L3.ld rfl rfl,?_⟩;rw[bH,bO,aQ];refine L4.st rfl (by simp) λw9 L4 hc9 hz9=>?_;have h9:=(h7.one hc8 L4.2).one hc9 L4.2;refine⟨M,_,⟨4,(cur s).t,[],[],(cur s).a⟩,.slice none 0 0,.slice none 0 0,h9,hg.step hk0,(he7.one hc8 hwb4).one hc9 hwb4,(L1.drew.one hc8 hb14).one hc9 hb14,L4,ER.leaf rfl rfl,by rw[aF hk]⟩
  rw[aD hk]at hK ht⊢;refine L3.ldf rfl ?_;rw[bI,aN];refine⟨λhk3=>?_,λhk3=>?_⟩
  ·
   rw[aF hk3]at hK ht;have hk0:(cur s).k≠0:=by rw[hk3];decide
   refine L1.ld rfl ?_;refine h6.go hi1 λw7 h7 he7 hz7=>?_;have L1:=L1.eff he7;have L3:=L3.eff he7;have he7:=he6.trans he7;refine L1.ld rfl ?_;refine fY L3.1 rfl ?_;have htx:=hg.tx hk3;have hcp:=iQ hg.ws;have hph:=(nT hk0).1;have hwt:wt {cur s with k:=3}=wt (jX (aM s)):=by
    have e3:(jX (aM s)).k=3:=hk3;unfold wt;simp only[e3];rfl
   refine Rp hS hE hF h7 (hg.step hk0) htx.1 htx.2 ⟨hcp.1,hcp.2.1⟩ (hcp.2.2.2.1 hk3) (by rw[hwt];have:=hg.phi;omega) (λx s' ex M' w8 h8 he8=>?_) λc a' ex=>ht c a' ex;exact hK x s' ex M' w8 h8 (he7.trans he8)
  rw[aD hk3]at hK ht⊢;refine L3.ldf rfl ?_;rw[bI];simp only[lI];refine GdW.look (decide ((cur s).t≠oH)) (λ_ J hJ=>?_) λg=>?_
  ·refine L3.ldf rfl ?_;rw[pM];exact hJ
  simp only[aE];rw[iW,cU];refine⟨λhcc=>?_,λhcc=>?_⟩
  ·
   have hc:(cur s).k=1/\(cur s).t≠oH:=by simpa using hcc
   rw[aF hc]at hK ht⊢;have hk0:(cur s).k≠0:=by rw[hc.1];decide
   have hgs:=hg.step hk0;refine L1.ld rfl ?_;refine h6.go hi1 λw7 h7 he7 hz7=>?_;have L1:=L1.eff he7;have L3:=L3.eff he7;have L4:=L4.eff he7;have he7:=he6.trans he7;refine L1.ld rfl ?_;refine yZ h7 hgs λw8 h8 he8=>?_;have L1:=L1.eff he8;have L3:=L3.eff he8;have L4:=L4.eff he8;have he8:=he7.trans he8;rw[iN,cU];refine⟨λhn=>?_,λhy=>?_⟩
   ·have hn:isS (step1 (aM s)) [40]=false:=by simpa using hn
    rw[aD (by rw[hn];decide)];refine L3.ldf rfl ?_;refine OB ?_;rw[bH,bO,aQ];refine L4.st rfl (by simp) λw9 L4 hc9 hz9=>?_;have h9:=h8.one hc9 L4.2;have L1:=L1.one hc9 hb14;have L3:=L3.one hc9 hb34;have he9:=he8.one hc9 hwb4;refine L4.ldf rfl ?_;rw[bI,aN];refine⟨λh9k=>?_,λh9k=>?_⟩
    ·refine L3.ldf rfl ?_;rw[bH,bO,aQ];refine L4.st rfl (by simp) λw10 L4 hc10 hz10=>?_;refine⟨M,_,⟨kJ (cur s).t,(cur s).t,[],[],(cur s).a⟩,.slice none 0 0,.slice none 0 0,h9.one hc10 L4.2,hgs.now,he9.one hc10 hwb4,L1.one hc10 hb14,L4,ER.leaf rfl rfl,by rw[aF h9k]⟩
    ·refine⟨M,_,⟨kJ (cur s).t,[],[],[],(cur s).a⟩,.slice none 0 0,.slice none 0 0,h9,hgs.now,he9,L1,L4,ER.leaf rfl rfl,by rw[aD h9k]⟩
   ·have hy:isS (step1 (aM s)) [40]=true:=by simpa using hy
    rw[aF hy]at hK ht⊢;have L1:=L1.drew;have L3:=L3.drew;have L4:=L4.drew;have h8:=h8.drew;have he8:=he8.x (bM w8);rw[bH,bO,aQ];refine L3.ld rfl ?_;rw[bH,bO,aQ];refine L4.st rfl (by simp) λw9 L4 hc9 hz9=>?_;have h9:=h8.one hc9 L4.2;have L1:=L1.one hc9 hb14;have L3:=L3.one hc9 hb34;have he9:=he8.one hc9 hwb4;refine⟨L3.ld rfl rfl,?_⟩;rw[bH,bO,aQ];refine L4.st rfl (by simp) λw10 L4 hc10 hz10=>?_;have h10:=(h9.one hc10 L4.2).drew;have L1:=(L1.one hc10 hb14).drew;have L4:=L4.drew;have he10:=(he9.one hc10 hwb4).x (bM w10);simp only[aR,aV]at L4;refine L1.ld rfl ?_;refine L1.ld rfl ?_;have hgq:=hgs.now;refine mG h10 hgq.ws hN hgq.l λw11 h11 he11=>?_;rw[fW]at h11;rw[kD];have L1:=L1.eff he11;have L4:=L4.eff he11;have he11:=he10.trans he11;refine⟨L1.ld rfl rfl,i64 (cur (step1 (aM s))).a,rfl,?_⟩;have hql:=hgq.lev;refine nM h11 (by omega) (λhd=>ht 7 _ (by rw[rI hd];rfl)) λhd w12 h12 he12=>?_;obtain⟨d,rfl⟩:∃d,dl=d+1:=⟨dl-1,by omega⟩;rw[uO hd]at ht⊢;obtain⟨q1,q2,q3,q4⟩:=hgs.sign hy true;have L1:=L1.eff he12;have L4:=L4.eff he12;have he12:=he11.trans he12;refine jV (caps:=[.pointer (some ⟨b1,0,none⟩),.pointer (some ⟨b4,0,none⟩)]) ?_;refine PI ?_;unfold Ve;refine L1.ld rfl ?_;refine h12.go (wsi q1.ws q1.l) λw13 h13 he13 hz13=>?_;have L1:=L1.eff he13;have L4:=L4.eff he13;have he13:=he12.trans he13;refine L1.ld rfl ?_;have lt4':=L4.lt;refine MA (hE d rfl) hF h13 q4 (λl s' el M' v w14 h14 hg14 he14 hr14=>?_) λc a' el=>ht c a' (by rw[el];rfl);have L1:=L1.eff he14;have L4:=L4.eff he14;have hw13:=he13.chg.size;obtain⟨vp,vc,ev,_⟩:=hr14.own.sl.shape;have nv4:v.ownBlock≠some b4:=λe=>by have:=hr14.new b4 e;omega
    rw[bH,bO,aQ];refine L4.st (by rw[ev];rfl) (by simp) λw15 L4 hc15 hz15=>?_;have h15:=h14.one hc15 L4.2;have L1:=L1.one hc15 hb14;have hr15:=hr14.one hc15 nv4;have he15:=(he13.trans he14).one hc15 hwb4;have hg14l:=hg14.lev;refine⟨M',s',h15,by omega,λw16 h16 he16=>?_⟩;refine⟨M',_,⟨12,(cur s).t,l,[],(cur s).a⟩,v,.slice none 0 0,h16,hgs.now.back hg14,he15.trans he16,L1.eff he16,L4.eff he16,(ER.noK rfl (hr15.le (by omega))).eff he16,by rw[el];rfl⟩
  ·
   have hc:¬((cur s).k=1/\(cur s).t≠oH):=by simpa using hcc
   rw[aD hc]at hK ht⊢;simp only[gH]at hK ht⊢;have ret5:∀{w7 w8:World} {M':Lay} {s':PS} {e:Ex} {va vk:Value},PR w0 w7 p f M' vt s' top->Loc w0 w7 p f M' vt b1 PpT [.pointer (some ⟨p,0,none⟩)]->Loc w0 w7 p f M' vt b4 ExT [i64 0,str [],.slice none 0 0,.slice none 0 0,i64 (cur s).a]->ER w0 w7 p f M' vt w8.heap.size e va vk->b4<w8.heap.size->w.heap.size<=w8.heap.size->∀{KW:World->Prop},
     (∀w9,PR w0 w9 p f M' vt s' top->Chg (One b4) w7 w9->Loc w0 w9 p f M' vt b1 PpT [.pointer (some ⟨p,0,none⟩)]->Loc w0 w9 p f M' vt b4 ExT (exc e va vk)->ER w0 w9 p f M' vt w.heap.size e va vk->KW w9)->stW 5 (.pointer (some ⟨b4,0,none⟩)) (.agg (exc e va vk).toArray) w7 KW:=λ{w7 w8 M' s' e va vk} h7 L1 L4 hE7 hb hw {KW} hKW=>by
    refine cL (l:=exc e va vk) L4.1 rfl rfl (IH hE7) λw9 hz9 hb9 hc9=>?_;exact hKW w9 (h7.one hc9 L4.2) hc9 (L1.one hc9 hb14) ⟨hb9,L4.2.up (by omega)⟩ ((hE7.one hc9 (λe=>by have:=hE7.rA.new b4 e;omega) (λe=>by have:=hE7.rK.new b4 e;omega)).le hw)
   refine L1.ld rfl ?_;refine yZ h6 hgn λw7 h7 he7=>?_;rw[fW]at h7;have L1:=L1.eff he7;have L3:=L3.eff he7;have L4:=L4.eff he7;have he7:=he6.trans he7;rw[gH,cU];refine⟨λhi=>?_,λhi=>?_⟩
   ·rw[aF hi]at hK ht;have lt1:=L1.lt;have hw7:=he7.chg.size;refine bN λb5 w8 hb5 hz8 hbb8 hx8=>?_;have h8:=h7.ext hx8;have L5:=h7.loc hz8 hb5 hbb8;refine L5.st rfl (by simp) λw9 L5 hc9 hz9=>?_;have h9:=h8.one hc9 L5.2;have L1:=(L1.ext hx8).one hc9 (by omega);have L3:=(L3.ext hx8).one hc9 (by have:=L3.lt;omega);have he9:=(he7.x hx8).one hc9 (by omega);refine L1.ld rfl ?_;refine L3.ldf rfl ?_;refine nM h9 hd24 (λhd=>ht 7 _ (by rw[rI hd])) λhd w10 h10 he10=>?_;obtain⟨d,rfl⟩:∃d,dl=d+1:=⟨dl-1,by omega⟩;rw[uO hd]at ht hK;obtain⟨q1,q2,q3,q4⟩:=hg.sign hi true;have L1:=L1.eff he10;have L5:=L5.eff he10;have he10:=he9.trans he10;refine jV (caps:=[.pointer (some ⟨b1,0,none⟩),.pointer (some ⟨b5,0,none⟩)]) ?_;refine PG ?_;unfold Vb;refine L1.ld rfl ?_;refine h10.go (wsi q1.ws q1.l) λw11 h11 he11 hz11=>?_;have L1:=L1.eff he11;have L5:=L5.eff he11;have he11:=he10.trans he11;refine L1.ld rfl ?_;refine hE d rfl w11 p M vt _ top N _ h11 q4 (λx s' ex M' w12 h12 he12=>?_) λc a' ex=>ht c a' (by rw[ex];rfl);obtain⟨g12,_⟩:=q4.e hF ex;rw[ex]at hK ht;simp only[R.bind]at hK ht;have L1:=L1.eff he12;have L5:=L5.eff he12;have he12:=he11.trans he12;refine L5.st rfl (by simp) λw13 L5 hc13 hz13=>?_;have h13:=h12.one hc13 L5.2;have L1:=L1.one hc13 (by omega);have he13:=he12.one hc13 (by omega);refine L1.ld rfl ?_;refine uP h13 g12.ws hN g12.l (λs3 e3 w14 h14 he14=>?_) λc a' e3=>ht c a' (by rw[e3]);rw[e3]at hK;simp only at hK;obtain⟨g14,_⟩:=g12.want e3;have g14l:=g14.lev;refine⟨M',s3,h14,by omega,λw15 h15 he15=>?_⟩;refine((L5.eff he14).eff he15).ld rfl ?_;exact hK x _ rfl M' w15 h15 ((he13.trans he14).trans he15)
   rw[aD (by rw[hi];decide)]at hK ht⊢;refine L1.ld rfl ?_;refine yZ h7 hgn λw8 h8 he8=>?_;rw[fW]at h8;have L1:=L1.eff he8;have L3:=L3.eff he8;have L4:=L4.eff he8;have he8:=he7.trans he8;rw[gH,cU];refine⟨λhi=>?_,λhi=>?_⟩
   ·rw[aF hi]at hK ht⊢;refine L1.ld rfl ?_;refine L3.ldf rfl ?_;refine nM h8 hd24 (λhd=>ht 7 _ (by rw[rI hd];rfl)) λhd w10 h10 he10=>?_;obtain⟨d,rfl⟩:∃d,dl=d+1:=⟨dl-1,by omega⟩;rw[uO hd]at ht⊢;obtain⟨q1,q2,q3,q4⟩:=hg.sign hi true;have L1:=L1.eff he10;have L3:=L3.eff he10;have L4:=L4.eff he10;have he10:=he8.trans he10;refine jV (caps:=[.pointer (some ⟨b1,0,none⟩),.pointer (some ⟨b3,0,none⟩),.pointer (some ⟨b4,0,none⟩)]) ?_;refine PF ?_;unfold Va;refine L1.ld rfl ?_;refine fY L3.1 rfl ?_;have lt4':=L4.lt;refine SP (hE d rfl) hF h10 q1 q3 q2 (λe s' el M' va vk w12 h12 g12 he12 hE12=>?_) λc a' el=>ht c a' (by rw[el];rfl);refine ret5 h12 (L1.eff he12) (L4.eff he12) hE12 lt4' he10.chg.size λw13 h13 hc13 L1 L4 hE13=>?_;have g12l:=g12.lev;refine⟨M',s',h13,by omega,λw14 h14 he14=>?_⟩;exact⟨M',_,e,va,vk,h14,hgn.back g12,((he10.trans he12).one hc13 hwb4).trans he14,L1.eff he14,L4.eff he14,hE13.eff he14,by rw[el];rfl⟩
   rw[aD (by rw[hi];decide)]at hK ht⊢;refine L1.ld rfl ?_;refine yZ h8 hgn λw9 h9 he9=>?_;rw[fW]at h9;have L1:=L1.eff he9;have L3:=L3.eff he9;have L4:=L4.eff he9;have he9:=he8.trans he9;rw[gH,cU];refine⟨λhi=>?_,λhi=>?_⟩
   ·rw[aF hi]at hK ht⊢;refine L1.ld rfl ?_;refine L3.ldf rfl ?_;refine nM h9 hd24 (λhd=>ht 7 _ (by rw[rI hd];rfl)) λhd w10 h10 he10=>?_;obtain⟨d,rfl⟩:∃d,dl=d+1:=⟨dl-1,by omega⟩;rw[uO hd]at ht⊢;obtain⟨q1,q2,q3,q4⟩:=hg.sign hi false;have L1:=L1.eff he10;have L3:=L3.eff he10;have L4:=L4.eff he10;have he10:=he9.trans he10;refine jV (caps:=[.pointer (some ⟨b1,0,none⟩),.pointer (some ⟨b3,0,none⟩),.pointer (some ⟨b4,0,none⟩)]) ?_;refine PC ?_;unfold UY;refine L1.ld rfl ?_;refine fY L3.1 rfl ?_;have lt4':=L4.lt;refine Lo (hE d rfl) hF h10 q1 q3 q2 (λe s' el M' va vk w12 h12 g12 he12 hE12=>?_) λc a' el=>ht c a' (by rw[el];rfl);refine ret5 h12 (L1.eff he12) (L4.eff he12) hE12 lt4' he10.chg.size λw13 h13 hc13 L1 L4 hE13=>?_;have g12l:=g12.lev;refine⟨M',s',h13,by omega,λw14 h14 he14=>?_⟩;exact⟨M',_,e,va,vk,h14,hgn.back g12,((he10.trans he12).one hc13 hwb4).trans he14,L1.eff he14,L4.eff he14,hE13.eff he14,by rw[el];rfl⟩
   ·rw[aD (by rw[hi];decide)]at ht;refine L3.ldf rfl ?_;exact pI h9 (ht _ _ rfl)
 ·rintro _ g w7 ⟨M1,s1,e,va,vk,h7,hg7,he7,L1,L4,hE7,ea⟩;rw[ea]at hK;refine L1.ld rfl ?_;refine fY L4.1 rfl ?_;refine Fy h7 he7 hE7 hg7 λM' w8 h8 he8 _=>?_;exact hK _ _ rfl M' w8 h8 he8
end
section
variable [HX]
variable{w0 w w' w1:World}{p f b:Nat}{M M' M0:Lay}{vt:Value}{s:PS}{top:List Nat}{N:Int}{K:Q0}{e:Ex}{va vk:Value}{wbn:Nat}{wb:World}{dl:Nat}
theorem PR.row_new{l:List Nat}(h:PR w0 w p f M vt s top){r:Nat}(hr:r=w.heap.size)(hz:w'.heap.size=w.heap.size+1)(hb:w'.heap[r]?=some (.cells (ints l).toArray gS (0,0)))(hl:l.length<=1000000):
  Ro w0 w' p f M vt w.heap.size gS 1 (.slice (some ⟨r,0,none⟩) l.length l.length) l.length (ints l):=
 ⟨Ll hb (by have:=h.base;omega) (LO l) hl,λk hk=>by simp only[Value.ownBlock,bD]at hk;subst hk;exact h.off_new (by omega) (by omega),λk hk=>by simp only[Value.ownBlock,bD]at hk;omega⟩
theorem RQ{E:PS->R Nat}(hS:vQ w0 f)(hE:∀d,dl=d+1->EC w0 f 118 E d)(hF:pZ E):EC w0 f 220 (xA E) dl:=by
 intro w p M vt s top N K h hg hK ht;refine PO ?_;unfold Vj;have hN:=hg.hN;refine sZ rfl λb1 w1 hb1 hz1 hbb1 hx1=>?_;have h1:=h.ext hx1;have L1:=h.loc hz1 hb1 hbb1;refine L1.ld rfl ?_;unfold xA at hK ht;refine Tr hS hE hF w1 p M vt s top N _ h1 hg (λx s1 ex M1 w2 h2 he2=>?_) λc a' ex=>ht c a' (by rw[ex];rfl);rw[ex]at hK ht;simp only[R.bind]at hK ht;have hA:pZ (iL E):=⟨λN=>GA (hF.ok N),FD hF.z⟩;obtain⟨hg1,hi1⟩:=hg.e hA ex;have etl:=(hA.ok N) s hg.ws;rw[ex]at etl;have etl:=congrArg List.length etl.1.1.toks;have L1:=L1.eff he2;have he2:=(Eff.ext hx1).trans he2;generalize hR:iV E (s.toks.length+1) s1 x=R0 at hK ht;refine dD.go (λst w'=>∃s1 M1 x n,st=[i64 ((x:Nat):Int)]/\PR w0 w' p f M1 vt s1 top/\Gd N s1 dl/\Eff p f M M1 w w'/\Loc w0 w' p f M1 vt b1 PpT [.pointer (some ⟨p,0,none⟩)]/\iV E n s1 x=R0/\s1.toks.length<n+s1.i/\s1.toks.length=s.toks.length) (λ_ w'=>s.toks.length-xL w' p)
  ⟨s1,M1,x,s.toks.length+1,rfl,h2,hg1,he2,L1,hR,by have:=hg1.ws.lt;omega,etl⟩ ?_
 clear he2 L1 h2 ex hg1 hi1 etl hR;rintro st g w2 ⟨s2,M2,y,n,rfl,h2,hg2,he2,L1,hpf,hn,htl⟩;simp only[aE];have hlt2:=hg2.ws.lt;have hat:=hg2.at0;obtain⟨n,rfl⟩:∃m,n=m+1:=⟨n-1,by omega⟩;simp only[iV]at hpf;refine L1.ld rfl ?_;refine mG h2 hg2.ws hN hg2.l λw3 h3 he3=>?_;have L1:=L1.eff he3;have he3:=he2.trans he3;have hgn:=hg2.now;have lt1:=L1.lt;have hw3:=he3.chg.size;refine bN λb4 w4 hb4 hz4 hbb4 hx4=>?_;have h4:=h3.ext hx4;have L4:=h3.loc hz4 hb4 hbb4;have L1:=L1.ext hx4;refine cL (l:=eK (cur s2)) L4.1 rfl rfl rfl λw5 hz5 hbb5 hc5=>?_;have L4:Loc w0 w5 p f M2 vt b4 TkT (eK (cur s2)):=⟨hbb5,L4.2.up (by omega)⟩;have h5:=h4.one hc5 L4.2;have L1:=L1.one hc5 (by omega);have he5:=(he3.x hx4).one hc5 (by omega);have hwb1:b1=w.heap.size:=hb1;have fin:∀{w6:World} {M6:Lay} {s6:PS} {e:Ex} {va:Value},PR w0 w6 p f M6 vt s6 top->Gd N s6 dl->Eff p f M M6 w w6->Loc w0 w6 p f M6 vt b1 PpT [.pointer (some ⟨p,0,none⟩)]->Ro w0 w6 p f M6 vt w1.heap.size gS 1 va e.args.length (ints e.args)->e.keys=[]->s2.i<s6.i->Syn.phi s6+1<=Syn.phi s2->s6.toks.length=s.toks.length->((lL s6 e).bind λy s3=>iV E n s3 y)=R0->
   aI P0 158 [.pointer (some ⟨p,0,none⟩),.agg (exc e va (.slice none 0 0)).toArray] w6 λt24 w12=>(∃s1 M1 x n,[t24]=[i64 ((x:Nat):Int)]/\PR w0 w12 p f M1 vt s1 top/\Gd N s1 dl/\Eff p f M M1 w w12/\Loc w0 w12 p f M1 vt b1 PpT [.pointer (some ⟨p,0,none⟩)]/\iV E n s1 x=R0/\s1.toks.length<n+s1.i/\s1.toks.length=s.toks.length)/\s.toks.length-xL w12 p<s.toks.length-xL w2 p:=λ{w6 M6 s6 e va} h6 hg6 he6 L1 hr hk hi hph htl6 hp6=>by
  refine Fy h6 he6 (ER.noK hk (hr.le (by omega))) hg6 λM' w7 h7 he7 hl7=>?_;have hlt6:=hg6.ws.lt;refine⟨⟨_,M',_,n,rfl,h7,?_,he7,hl7 _ _ _ L1 (λe=>by have:=hr.new b1 e;omega) (by simp[Value.ownBlock]),hp6,by show s6.toks.length<n+s6.i;omega,htl6⟩,?_⟩
  ·exact hg6.put (by have:=hg2.phi;omega)
  ·rw[h7.at_,h2.at_];show s.toks.length-s6.i<_;omega
 have hn1:=eW hg2.ws;have hn1t:=congrArg List.length hn1.toks;refine L1.ld rfl ?_;refine sD h5 hgn.ws hN hgn.l λw6 h6 he6=>?_;have L1:=L1.eff he6;have L4:=L4.eff he6;have he6:=he5.trans he6;have tg:=iO hgn.ws [46];have tgt:=congrArg List.length tg.1.toks;have hg6:=hgn.take [46];have tp:=kI (aM s2) [46];have np:=jD s2;rw[cU];refine⟨λhy=>?_,λhn'=>?_⟩
 ·
  rw[aF hy]at hpf;have tp:=tp.2 hy;have ti:=tg.2.1 hy;have L1:=L1.drew;have L4:=L4.drew;have h6:=h6.drew;have he6:=he6.x (bM w6);have ld1:∀{w':World} {M':Lay},Loc w0 w' p f M' vt b1 PpT [.pointer (some ⟨p,0,none⟩)]->ldW false 1 (.pointer (some ⟨b1,0,none⟩)) w' λx=>x=.pointer (some ⟨p,0,none⟩):=λL=>L.ld rfl rfl;have ld4:∀{w':World} {M':Lay},Loc w0 w' p f M' vt b4 TkT (eK (cur s2))->ldW false 1 (.pointer (some ⟨b4,2,none⟩)) w' λx=>x=i64 (cur s2).a:=λL=>L.ld rfl rfl;refine L1.ld rfl ?_;refine L1.ld rfl ?_;rw[bH,bO,aQ];refine L4.ld rfl ?_;have hw6:=he6.chg.size;have hz1':w1.heap.size<=w6.drew.heap.size:=by have:=he6.chg.size;have:=L1.lt;omega
  have kd:∀{w':World} {KK:Q0},PR w0 w' p f M2 vt (aW (aM s2) [46]).2 top->(∀u s7,iC (aW (aM s2) [46]).2 1=.ok u s7->∀w'',PR w0 w'' p f M2 vt s7 top->Eff p f M2 M2 w' w''->KK (.agg (eK u).toArray) w'')->aI P0 62 [.pointer (some ⟨p,0,none⟩),.int .i64 1] w' KK:=λ{w' KK} h hKK=>
   vA h hg6.ws hN hg6.l hKK λc a' eu=>ht c a' (by rw[<-hpf,eu];rfl)
  have done:∀{u:Tok} {s7:PS},iC (aW (aM s2) [46]).2 1=.ok u s7->Gd N s7 dl/\s2.i<s7.i/\Syn.phi s7+1<=Syn.phi s2/\s7.toks.length=s.toks.length/\((lL s7 ⟨10,u.t,[y],[],(cur s2).a⟩).bind λy s3=>iV E n s3 y)=R0:=λ{u s7} eu=>by
   have hk:=hg6.kind (by decide) eu;have hks:=lH hg6.ws 1 (by decide);have hkp:=mQ (aW (aM s2) [46]).2 1;rw[eu]at hks hkp hpf;have hkt:=congrArg List.length hks.1.1.toks;have hkp:=hkp.1;have h1:=hn1.le;exact⟨hk.1,by have:=hk.2.1;omega,by omega,by omega,hpf⟩
  refine⟨?_,?_,?_,?_,?_,?_⟩
  ·refine kd h6 λu s7 eu w7 h7 he7=>?_;have L1:=L1.eff he7;have L4:=L4.eff he7;have he7':=he6.trans he7;refine⟨ld4 L4,ld1 L1,str u.t,rfl,ld4 L4,ld1 L1,?_⟩;refine jC λr w8 hr hz8 hrb hx8=>?_;refine⟨ld4 (L4.ext hx8),ld1 (L1.ext hx8),?_⟩;simp only[dJ,eA,iA,dQ,aA,aC,aR,aV,Nat.reduceAdd,Nat.reduceLT,dB,aY];obtain⟨d1,d2,d3,d4,d5⟩:=done eu;exact fin (e:=⟨10,u.t,[y],[],(cur s2).a⟩) (h7.ext hx8) d1 (he7'.x hx8) (L1.ext hx8) ((h7.row_new (l:=[y]) hr hz8 hrb (by simp)).le (by have:=he7.chg.size;omega)) rfl d2 d3 d4 d5
  ·exact ld4 L4
  ·exact ld1 L1
  ·exact ld1 L1
  ·refine kd h6 λu s7 eu w7 h7 he7=>?_;have L1:=L1.eff he7;have L4:=L4.eff he7;have he7':=he6.trans he7;refine⟨ld4 L4,ld1 L1,str u.t,rfl,?_⟩;refine jC λr w8 hr hz8 hrb hx8=>?_;refine⟨ld4 (L4.ext hx8),ld1 (L1.ext hx8),?_⟩;simp only[dJ,eA,iA,dQ,aA,aC,aR,aV,Nat.reduceAdd,Nat.reduceLT,dB,aY];obtain⟨d1,d2,d3,d4,d5⟩:=done eu;exact fin (e:=⟨10,u.t,[y],[],(cur s2).a⟩) (h7.ext hx8) d1 (he7'.x hx8) (L1.ext hx8) ((h7.row_new (l:=[y]) hr hz8 hrb (by simp)).le (by have:=he7.chg.size;omega)) rfl d2 d3 d4 d5
  ·refine jC λr w8 hr hz8 hrb hx8=>?_;have L1:=L1.ext hx8;have L4:=L4.ext hx8;have rw8:=h6.row_new (l:=[y]) hr hz8 hrb (by simp);refine⟨ld4 L4,ld1 L1,ld1 L1,?_⟩;refine kd (h6.ext hx8) λu s7 eu w7 h7 he7=>?_;have L1:=L1.eff he7;have L4:=L4.eff he7;refine⟨ld4 L4,ld1 L1,str u.t,rfl,?_⟩;simp only[dJ,eA,iA,dQ,aA,aC,aR,aV,Nat.reduceAdd,Nat.reduceLT,dB,aY];obtain⟨d1,d2,d3,d4,d5⟩:=done eu;exact fin (e:=⟨10,u.t,[y],[],(cur s2).a⟩) h7 d1 ((he6.x hx8).trans he7) L1 ((rw8.eff he7).le (by omega)) rfl d2 d3 d4 d5
 ·have hn':(aW (aM s2) [46]).1=false:=by simpa using hn'
  rw[aD (by rw[hn'];decide)]at hpf;have e6:(aW (aM s2) [46]).2=aM s2:=by
   unfold aW at hn'⊢;split
   ·rename_i hi;rw[aF hi]at hn';cases hn'
   ·exact fW s2
  rw[e6]at h6;refine L1.ld rfl ?_;refine yZ h6 hgn λw7 h7 he7=>?_;rw[fW]at h7;have L1:=L1.eff he7;have L4:=L4.eff he7;have he7:=he6.trans he7;simp only[gH]at hpf⊢;rw[cU];refine⟨λhi=>?_,λhi=>?_⟩
  ·rw[aF hi]at hpf;have hw7:=he7.chg.size;have lt1:=L1.lt;have lt4:=L4.lt;refine bN λb5 w8 hb5 hz8 hbb8 hx8=>?_;have h8:=h7.ext hx8;have L5:=h7.loc hz8 hb5 hbb8;have L1:=L1.ext hx8;have L4:=L4.ext hx8;refine bN λb6 w9 hb6 hz9 hbb9 hx9=>?_;have h9:=h8.ext hx9;have L6:=h8.loc hz9 hb6 hbb9;have L1:=L1.ext hx9;have L4:=L4.ext hx9;have L5:=L5.ext hx9;refine L5.st rfl (by simp) λw10 L5 hc10 hz10=>?_;have h10:=h9.one hc10 L5.2;have L1:=L1.one hc10 (by omega);have L4:=L4.one hc10 (by omega);have L6:=L6.one hc10 (by omega);refine L6.st rfl (by simp) λw11 L6 hc11 hz11=>?_;have h11:=h10.one hc11 L6.2;have L1:=L1.one hc11 (by omega);have L4:=L4.one hc11 (by omega);have L5:=L5.one hc11 (by omega);have he11:=(((he7.x hx8).x hx9).one hc10 (by omega)).one hc11 (by omega);refine L1.ld rfl ?_;refine L4.ldf rfl ?_;have hlev:=hgn.lev;refine nM h11 (by omega) (λhd=>ht 7 _ (by rw[<-hpf,rI hd];rfl)) λhd w12 h12 he12=>?_;obtain⟨d,rfl⟩:∃d,dl=d+1:=⟨dl-1,by omega⟩;rw[uO hd]at hpf;obtain⟨q1,q2,q3,q4⟩:=hg2.sign hi true;have L1:=L1.eff he12;have L4:=L4.eff he12;have L5:=L5.eff he12;have L6:=L6.eff he12;have he12:=he11.trans he12;refine jV (caps:=[.pointer (some ⟨b1,0,none⟩),.pointer (some ⟨b6,0,none⟩),.pointer (some ⟨b5,0,none⟩)]) ?_;refine PM ?_;unfold Vh;refine L1.ld rfl ?_;refine h12.go (wsi q1.ws q1.l) λw13 h13 he13 hz13=>?_;have L1:=L1.eff he13;have L4:=L4.eff he13;have L5:=L5.eff he13;have L6:=L6.eff he13;have he13:=he12.trans he13;generalize hq0:({aM s2 with deep:=(aM s2).deep+1,quiet:=true}:PS)=q0 at*
   have hq0':∀x:PS,x=(⟨(aM s2).toks,(aM s2).i,(aM s2).off,(aM s2).deep+1,true,(aM s2).ex,(aM s2).bl⟩:PS)->x=q0:=λx hx=>hx.trans hq0;have q0p:Syn.phi q0=Syn.phi (aM s2):=by rw[<-hq0];rfl
   have q0i:q0.i=(aM s2).i:=by rw[<-hq0]
   have q0t:q0.toks=(aM s2).toks:=by rw[<-hq0]
   have st0:=iP q1.ws q3;rw[q2]at st0;have sp0:=(nT q3).2;rw[q2]at sp0;have q4l:=q4.lev;have n1le:=hn1.le;have tg5:=iO q4.ws [42];have tp5:=kI (step1 q0) [42];have g5:=q4.take [42];have tg5t:=congrArg List.length tg5.1.toks;have st0t:=congrArg List.length st0.1.toks;have q0tl:=congrArg List.length q0t;refine cK.cut (λ_ w'=>∃M6 o s6,(((if(aW (step1 q0) [42]).1=true then .ok none (aW (step1 q0) [42]).2 else(E (aW (step1 q0) [42]).2).bind λy q1=>.ok (some y) q1):R (Option Nat))=.ok o s6)/\PR w0 w' p f M6 vt s6 top/\Gd N s6 d/\Eff p f M M6 w w'/\Loc w0 w' p f M6 vt b1 PpT [.pointer (some ⟨p,0,none⟩)]/\Loc w0 w' p f M6 vt b4 TkT (eK (cur s2))/\Loc w0 w' p f M6 vt b6 4 [.bool o.isNone]/\Loc w0 w' p f M6 vt b5 gS [i64 ((o.getD 0:Nat):Int)]/\s6.i>=(step1 q0).i/\Syn.phi s6<=Syn.phi (step1 q0)/\s6.toks.length=s.toks.length) ?_ ?_
   ·refine L1.ld rfl ?_;refine sD h13 q4.ws hN q4.l λw14 h14 he14=>?_;have L1:=L1.eff he14;have L4:=L4.eff he14;have L5:=L5.eff he14;have L6:=L6.eff he14;have he14:=he13.trans he14;refine L6.st rfl (by simp) λw15 L6 hc15 hz15=>?_;have h15:=h14.one hc15 L6.2;have L1:=L1.one hc15 (by omega);have L4:=L4.one hc15 (by omega);have L5:=L5.one hc15 (by omega);have he15:=he14.one hc15 (by omega);refine L6.ld rfl ?_;rw[iN,cU];refine⟨λhns=>?_,λhsp=>?_⟩
    ·have hns:(aW (step1 q0) [42]).1=false:=by simpa using hns
     rw[hns]at L6;refine L1.ld rfl ?_;refine hE d rfl w15 p M2 vt _ top N _ h15 g5 (λz s6 ez M6 w16 h16 he16=>?_) λc a' ez=>ht c a' ?_
     ·obtain⟨g6,i6⟩:=g5.e hF ez;have ep:=hF.z (aW (step1 q0) [42]).2;have eo:=hF.ok N _ g5.ws;rw[ez]at ep eo;have eot:=congrArg List.length eo.1.1.toks;have ep:Syn.phi s6<=Syn.phi (aW (step1 q0) [42]).2:=ep;have L1:=L1.eff he16;have L4:=L4.eff he16;have L5:=L5.eff he16;have L6:=L6.eff he16;refine L5.st rfl (by simp) λw17 L5 hc17 hz17=>?_;refine⟨M6,some z,s6,?_,h16.one hc17 L5.2,g6,(he15.trans he16).one hc17 (by omega),L1.one hc17 (by omega),L4.one hc17 (by omega),L6.one hc17 (by omega),L5,by have:=tg5.1.le;omega,by have:=tp5.1;omega,by omega⟩;rw[aD (by rw[hns];decide),ez];rfl
     ·rw[<-hpf];rw[aD (by rw[hns];decide),ez];rfl
    ·have hsp:(aW (step1 q0) [42]).1=true:=by simpa using hsp
     rw[hsp]at L6;exact⟨M2,none,_,by rw[aF hsp],h15,g5,he15,L1,L4,L6,L5,tg5.1.le,tp5.1,by omega⟩
   rintro _ g2 w14 ⟨M6,o,s6,eo,h14,g6,he14,L1,L4,L6,L5,i6,p6,t6⟩;have hpf2:((jR s6 [93]).bind λ_ q2=>.ok o q2)=(if(aW (step1 q0) [42]).1=true then(jR (aW (step1 q0) [42]).2 [93]).bind λ_ q2=>.ok none q2 else(E (aW (step1 q0) [42]).2).bind λy q1=>(jR q1 [93]).bind λ_ q2=>.ok (some y) q2):=by
    by_cases hsp:(aW (step1 q0) [42]).1=true
    ·rw[aF hsp]at eo⊢;injection eo with e1 e2
     subst e1 e2;rfl
    ·rw[aD hsp]at eo⊢;cases hez:E (aW (step1 q0) [42]).2 with
     |err c a=>rw[hez]at eo;cases eo
     |ok z s7=>
      rw[hez]at eo;simp only[R.bind]at eo;injection eo with e1 e2
      subst e1 e2;rfl
   rw[<-hpf2]at hpf;refine L1.ld rfl ?_;refine uP h14 g6.ws hN g6.l (λs7 e7 w15 h15 he15=>?_) λc a' e7=>ht c a' (by rw[<-hpf,e7];rfl);rw[e7]at hpf;simp only[R.bind]at hpf;obtain⟨g7,i7,_⟩:=g6.want e7;have w7:=kH s6 [93];have w7s:=jQ g6.ws [93];rw[e7]at w7 w7s;have w7:Syn.phi s7+1<=Syn.phi s6:=w7;have w7t:=congrArg List.length w7s.1.1.toks;have g7l:=g7.lev;have L1:=L1.eff he15;have L4:=L4.eff he15;have L5:=L5.eff he15;have L6:=L6.eff he15;have he15:=he14.trans he15;refine⟨M6,s7,h15,by omega,λw16 h16 he16=>?_⟩;have L1:=L1.eff he16;have L4:=L4.eff he16;have L5:=L5.eff he16;have L6:=L6.eff he16;have he16:=he15.trans he16;have g8:Gd N {s7 with deep:=(aM s2).deep,quiet:=(aM s2).quiet} (d+1):=hgn.back g7;have st1i:(step1 q0).i=(aM s2).i+1:=by show q0.i+1=_;rw[q0i]
   refine L6.ld rfl ?_;rw[iN,cU];cases o with
   |some z=>
    refine⟨λ_=>?_,λe=>by cases e⟩;simp only at hpf;refine L1.ld rfl ?_;refine L5.ld rfl ?_;have hz1':w1.heap.size<=w16.heap.size:=by have:=L1.lt;omega
    refine Gt λr w17 hr hz17 hrb hx17=>?_;refine(L4.ext hx17).ldf rfl ?_;simp only[dJ,eA,iA,dQ,aA,aC,aR,aV,Nat.reduceAdd,Nat.reduceLT,dB,aY];refine fin (e:=⟨11,[],[y,z],[],(cur s2).a⟩) (h16.ext hx17) g8 (he16.x hx17) (L1.ext hx17) ((h16.row_new (l:=[y,z]) hr hz17 hrb (by simp)).le hz1') rfl ?_ ?_ ?_ hpf
    ·show s2.i<s7.i;omega
    ·show Syn.phi s7+1<=_;omega
    ·show s7.toks.length=_;omega
   |none=>
    refine⟨λe=>(by cases e),λ_=>?_⟩;simp only at hpf;refine L1.ld rfl ?_;refine uP h16 g8.ws hN g8.l (λs9 e9 w17 h17 he17=>?_) λc a' e9=>ht c a' (by rw[<-hpf,e9]);rw[e9]at hpf;simp only[R.bind]at hpf;obtain⟨g9,i9,_⟩:=g8.want e9;generalize hs8:({s7 with deep:=(aM s2).deep,quiet:=(aM s2).quiet}:PS)=s8 at*
    have s8p:Syn.phi s8=Syn.phi s7:=by rw[<-hs8];rfl
    have s8i:s8.i=s7.i:=by rw[<-hs8]
    have s8t:s8.toks=s7.toks:=by rw[<-hs8]
    have s8t:=congrArg List.length s8t;have w9:=kH s8 [46];have w9s:=jQ g8.ws [46];rw[e9]at w9 w9s;have w9:Syn.phi s9+1<=Syn.phi s8:=w9;have w9t:=congrArg List.length w9s.1.1.toks;have L1:=(L1.eff he17).drew;have L4:=(L4.eff he17).drew;have h17:=h17.drew;have he17':=(he16.trans he17).x (bM w17);have hz1':w1.heap.size<=w17.drew.heap.size:=by have:=L1.lt;omega
    have ld1:∀{w':World} {M':Lay},Loc w0 w' p f M' vt b1 PpT [.pointer (some ⟨p,0,none⟩)]->ldW false 1 (.pointer (some ⟨b1,0,none⟩)) w' λx=>x=.pointer (some ⟨p,0,none⟩):=λL=>L.ld rfl rfl;have ld4:∀{w':World} {M':Lay},Loc w0 w' p f M' vt b4 TkT (eK (cur s2))->ldW false 1 (.pointer (some ⟨b4,2,none⟩)) w' λx=>x=i64 (cur s2).a:=λL=>L.ld rfl rfl;refine L1.ld rfl ?_;refine L1.ld rfl ?_;rw[bH,bO,aQ];refine L4.ld rfl ?_;have kd:∀{w':World} {KK:Q0},PR w0 w' p f M6 vt s9 top->(∀u s7,iC s9 1=.ok u s7->∀w'',PR w0 w'' p f M6 vt s7 top->Eff p f M6 M6 w' w''->KK (.agg (eK u).toArray) w'')->aI P0 62 [.pointer (some ⟨p,0,none⟩),.int .i64 1] w' KK:=λ{w' KK} h hKK=>
     vA h g9.ws hN g9.l hKK λc a' eu=>ht c a' (by rw[<-hpf,eu])
    have done:∀{u:Tok} {sa:PS},iC s9 1=.ok u sa->Gd N sa (d+1)/\s2.i<sa.i/\Syn.phi sa+1<=Syn.phi s2/\sa.toks.length=s.toks.length/\((lL sa ⟨30,u.t,[y],[],(cur s2).a⟩).bind λy s3=>iV E n s3 y)=R0:=λ{u sa} eu=>by
     have hk:=g9.kind (by decide) eu;have hks:=lH g9.ws 1 (by decide);have hkp:=mQ s9 1;rw[eu]at hks hkp hpf;have hkt:=congrArg List.length hks.1.1.toks;have hkp:=hkp.1;exact⟨hk.1,by have:=hk.2.1;omega,by omega,by omega,hpf⟩
    refine⟨?_,?_,?_,?_,?_,?_⟩
    ·refine kd h17 λu sa eu wa ha hea=>?_;have L1:=L1.eff hea;have L4:=L4.eff hea;refine⟨ld4 L4,ld1 L1,str u.t,rfl,ld4 L4,ld1 L1,?_⟩;refine jC λr wb hr hzb hrb hxb=>?_;refine⟨ld4 (L4.ext hxb),ld1 (L1.ext hxb),?_⟩;simp only[dJ,eA,iA,dQ,aA,aC,aR,aV,Nat.reduceAdd,Nat.reduceLT,dB,aY];obtain⟨d1,d2,d3,d4,d5⟩:=done eu;exact fin (e:=⟨30,u.t,[y],[],(cur s2).a⟩) (ha.ext hxb) d1 ((he17'.trans hea).x hxb) (L1.ext hxb) ((ha.row_new (l:=[y]) hr hzb hrb (by simp)).le (by have:=hea.chg.size;omega)) rfl d2 d3 d4 d5
    ·exact ld4 L4
    ·exact ld1 L1
    ·exact ld1 L1
    ·refine kd h17 λu sa eu wa ha hea=>?_;have L1:=L1.eff hea;have L4:=L4.eff hea;refine⟨ld4 L4,ld1 L1,str u.t,rfl,?_⟩;refine jC λr wb hr hzb hrb hxb=>?_;refine⟨ld4 (L4.ext hxb),ld1 (L1.ext hxb),?_⟩;simp only[dJ,eA,iA,dQ,aA,aC,aR,aV,Nat.reduceAdd,Nat.reduceLT,dB,aY];obtain⟨d1,d2,d3,d4,d5⟩:=done eu;exact fin (e:=⟨30,u.t,[y],[],(cur s2).a⟩) (ha.ext hxb) d1 ((he17'.trans hea).x hxb) (L1.ext hxb) ((ha.row_new (l:=[y]) hr hzb hrb (by simp)).le (by have:=hea.chg.size;omega)) rfl d2 d3 d4 d5
    ·refine jC λr wb hr hzb hrb hxb=>?_;have L1:=L1.ext hxb;have L4:=L4.ext hxb;have rwb:=h17.row_new (l:=[y]) hr hzb hrb (by simp);refine⟨ld4 L4,ld1 L1,ld1 L1,?_⟩;refine kd (h17.ext hxb) λu sa eu wa ha hea=>?_;have L1:=L1.eff hea;have L4:=L4.eff hea;refine⟨ld4 L4,ld1 L1,str u.t,rfl,?_⟩;simp only[dJ,eA,iA,dQ,aA,aC,aR,aV,Nat.reduceAdd,Nat.reduceLT,dB,aY];obtain⟨d1,d2,d3,d4,d5⟩:=done eu;exact fin (e:=⟨30,u.t,[y],[],(cur s2).a⟩) ha d1 ((he17'.x hxb).trans hea) L1 ((rwb.eff hea).le (by omega)) rfl d2 d3 d4 d5
  ·have hi:isS s2 [91]=false:=by simpa using hi
   rw[aD (by rw[hi];decide)]at hpf;exact hK y _ hpf.symm M2 w7 h7 he7
end
section
variable [HX]
variable{w0 w w' w1:World}{p f b:Nat}{M M' M0:Lay}{vt:Value}{s:PS}{top:List Nat}{N:Int}{K:Q0}{e:Ex}{va vk:Value}{wbn:Nat}{wb:World}{dl:Nat}
theorem GP{E S:PS->R Nat}(hS:vQ w0 f)(hE:∀d,dl=d+1->EC w0 f 118 E d)(hG:∀d,dl=d+1->EC w0 f 203 S d)(hF:pZ E)(hFS:pZ S):EC w0 f 203 (nN E S) dl:=by
 intro w p M vt s top N K h hg hK ht;refine PU ?_;unfold Vn;have hN:=hg.hN;refine sZ rfl λb1 w1 hb1 hz1 hbb1 hx1=>?_;have h1:=h.ext hx1;have L1:=h.loc hz1 hb1 hbb1;refine L1.ld rfl ?_;refine mG h1 hg.ws hN hg.l λw2 h2 he2=>?_;have L1:=L1.eff he2;have he2:=(Eff.ext hx1).trans he2;have lt1:=L1.lt;have hgn:=hg.now;refine bN λb3 w3 hb3 hz3 hbb3 hx3=>?_;have h3:=h2.ext hx3;have L3:=h2.loc hz3 hb3 hbb3;have L1:=L1.ext hx3;refine cL (l:=eK (cur s)) L3.1 rfl rfl rfl λw4 hz4 hbb4 hc4=>?_;have L3:Loc w0 w4 p f M vt b3 TkT (eK (cur s)):=⟨hbb4,L3.2.up (by omega)⟩;have h4:=h3.one hc4 L3.2;have L1:=L1.one hc4 (by omega);have hw2:=he2.chg.size;have he4:=(he2.x hx3).one hc4 (by omega);refine cK.cut (λst w'=>∃(k:Int) (x:Str),st=[i64 k]/\isS s x=true/\nN E S s=((within (aM s) (cur s).a (aM s).quiet λq=>S (step1 q)).bind λx s2=>lL s2 ⟨k,[],[x],[],(cur s).a⟩)/\PR w0 w' p f M vt (aM s) top/\Eff p f M M w w'/\Loc w0 w' p f M vt b1 PpT [.pointer (some ⟨p,0,none⟩)]/\Loc w0 w' p f M vt b3 TkT (eK (cur s))) ?_ ?_
 ·unfold nN at hK ht⊢;simp only[gH]at hK ht⊢;refine L1.ld rfl ?_;refine yZ h4 hgn λw5 h5 he5=>?_;rw[fW]at h5;have L1:=L1.eff he5;have L3:=L3.eff he5;have he5:=he4.trans he5;rw[gH,cU];refine⟨λhi=>⟨14,[33],rfl,hi,by rw[aF hi],h5,he5,L1,L3⟩,λhi=>?_⟩;rw[aD (by rw[hi];decide)]at hK ht⊢;refine L1.ld rfl ?_;refine yZ h5 hgn λw6 h6 he6=>?_;rw[fW]at h6;have L1:=L1.eff he6;have L3:=L3.eff he6;have he6:=he5.trans he6;rw[gH,cU];refine⟨λhi=>⟨13,[45],rfl,hi,by rw[aF hi],h6,he6,L1,L3⟩,λhi=>?_⟩;rw[aD (by rw[hi];decide)]at hK ht;refine L1.ld rfl ?_;exact RQ hS hE hF w6 p M vt _ top N _ h6 hgn (λx s' ex M' w7 h7 he7=>hK x s' ex M' w7 h7 (he6.trans he7)) ht
 rintro st g w5 ⟨k,x,rfl,hi,es,h5,he5,L1,L3⟩;rw[es]at hK ht;simp only[aE];have hw5:=he5.chg.size;have lt1:=L1.lt;have lt3:=L3.lt;refine bN λb5 w6 hb5 hz6 hbb6 hx6=>?_;have h6:=h5.ext hx6;have L5:=h5.loc hz6 hb5 hbb6;have L1:=L1.ext hx6;have L3:=L3.ext hx6;refine L5.st rfl (by simp) λw7 L5 hc7 hz7=>?_;have h7:=(h6.one hc7 L5.2).drew;have L1:=(L1.one hc7 (by omega)).drew;have L3:=(L3.one hc7 (by omega)).drew;have L5:=L5.drew;have he7:=((he5.x hx6).one hc7 (by omega)).x (bM w7);refine L1.ld rfl ?_;rw[bH,bO,aQ];refine L3.ld rfl ?_;refine L1.ld rfl ?_;refine h7.ld rfl ?_;have hlev:=hgn.lev;refine nM h7 (by omega) (λhd=>ht 7 _ (by rw[rI hd];rfl)) λhd w8 h8 he8=>?_;obtain⟨d,rfl⟩:∃d,dl=d+1:=⟨dl-1,by omega⟩;rw[uO hd]at hK ht;obtain⟨q1,q2,q3,q4⟩:=hg.sign hi (aM s).quiet;have L1:=L1.eff he8;have L3:=L3.eff he8;have L5:=L5.eff he8;have he8:=he7.trans he8;refine jV (caps:=[.pointer (some ⟨b1,0,none⟩),.pointer (some ⟨b5,0,none⟩)]) ?_;refine PP ?_;unfold Vk;refine L1.ld rfl ?_;refine h8.go (wsi q1.ws q1.l) λw9 h9 he9 hz9=>?_;have L1:=L1.eff he9;have L3:=L3.eff he9;have L5:=L5.eff he9;have he9:=he8.trans he9;refine L1.ld rfl ?_;refine hG d rfl w9 p M vt _ top N _ h9 q4 (λy s' ey M' w10 h10 he10=>?_) λc a' ey=>ht c a' (by rw[ey];rfl);obtain⟨g10,_⟩:=q4.e hFS ey;have pz:=hFS.z (step1 {aM s with deep:=(aM s).deep+1,quiet:=(aM s).quiet});rw[ey]at hK pz;have pz:Syn.phi s'<=Syn.phi (step1 (⟨(aM s).toks,(aM s).i,(aM s).off,(aM s).deep+1,(aM s).quiet,(aM s).ex,(aM s).bl⟩:PS)):=pz;have ps:=(nT q3).2;rw[q2]at ps;have pn:=jD s;have pe:Syn.phi (⟨(aM s).toks,(aM s).i,(aM s).off,(aM s).deep+1,(aM s).quiet,(aM s).ex,(aM s).bl⟩:PS)=Syn.phi (aM s):=rfl;simp only[R.bind]at hK;have L1:=L1.eff he10;have L3:=L3.eff he10;have L5:=L5.eff he10;have he10:=he9.trans he10;refine L5.st rfl (by simp) λw11 L5 hc11 hz11=>?_;have h11:=h10.one hc11 L5.2;have L1:=L1.one hc11 (by omega);have L3:=L3.one hc11 (by omega);have he11:=he10.one hc11 (by omega);have g10l:=g10.lev;refine⟨M',s',h11,by omega,λw12 h12 he12=>?_⟩;have L1:=L1.eff he12;have L3:=L3.eff he12;have L5:=L5.eff he12;have he12:=he11.trans he12;refine L1.ld rfl ?_;refine L5.ld rfl ?_;refine jC λr w13 hr hz13 hrb hx13=>?_;refine(L3.ext hx13).ldf rfl ?_;simp only[dJ,eA,iA,dQ,aA,aC,aR,aV,Nat.reduceAdd,Nat.reduceLT,dB,aY];have hg12:=hgn.back (q:=(aM s).quiet) g10;refine Fy (e:=⟨k,[],[y],[],(cur s).a⟩) (h12.ext hx13) (he12.x hx13) (ER.noK rfl ((h12.row_new (l:=[y]) hr hz13 hrb (by simp)).le he12.chg.size)) hg12 λM2 w14 h14 he14 _=>?_;exact hK _ _ rfl M2 w14 h14 he14
theorem BO{E S:PS->R Nat}(hS:vQ w0 f)(hE:∀d,dl=d+1->EC w0 f 118 E d)(hG:∀d,dl=d+1->EC w0 f 203 S d)(hF:pZ E)(hFS:pZ S):∀(m:Nat),m<=6->∀(w:World) (p:Nat) (M:Lay) (vt:Value) (s:PS) (top:List Nat) (N:Int) (K:Q0),PR w0 w p f M vt s top->Gd N s dl->
  (∀x s',iD E S m s=.ok x s'->∀M' w',PR w0 w' p f M' vt s' top->Eff p f M M' w w'->K (i64 (x:Nat)) w')->(∀c a,iD E S m s=.err c a->Thr w0 f c a)->aI P0 155 [.pointer (some ⟨p,0,none⟩),i64 ((6-m:Nat):Int)] w K
 |0,_,w,p,M,vt,s,top,N,K,h,hg,hK,ht=>by
  refine Ja ?_
  unfold Ub
  rw[bI,aN]
  refine⟨λ_=>?_,λe=>absurd rfl e⟩
  exact GP hS hE hG hF hFS w p M vt s top N _ h hg hK ht
 |m+1,hm,w,p,M,vt,s,top,N,K,h,hg,hK,ht=>by
  refine Ja ?_
  unfold Ub
  have hN:=hg.hN
  have hJ:pZ (iD E S m):=⟨λN=>sS (hF.ok N) (hFS.ok N) m,sQ hF.z hFS.z m⟩
  simp only[iD]at hK ht
  rw[bI,aN]
  refine⟨λe=>by omega,λ_=>?_⟩
  have up:∀{KK:Value->Prop},KK (i64 ((6-m:Nat):Int))->aO .add (i64 ((6-(m+1):Nat):Int)) (.int .i64 1) KK:=λh=>by
   rw[bU,dF (by omega) (by omega),show((6-(m+1):Nat):Int)+1=((6-m:Nat):Int)by omega];exact h
  refine up ?_
  refine BO hS hE hG hF hFS m (by omega) w p M vt s top N _ h hg (λx s1 ex M1 w2 h2 he2=>?_) λc a' ex=>ht c a' (by rw[ex];rfl)
  rw[ex]at hK ht
  simp only[R.bind]at hK ht
  obtain⟨hg1,hi1⟩:=hg.e hJ ex
  have etl:=(hJ.ok N) s hg.ws
  rw[ex]at etl
  have etl:=congrArg List.length etl.1.1.toks
  generalize hR:nW (iD E S m) (5-m) (s.toks.length+1) s1 x=R0 at hK ht
  refine dD.go (λst w'=>∃s1 M1 x n,st=[i64 ((x:Nat):Int)]/\PR w0 w' p f M1 vt s1 top/\Gd N s1 dl/\Eff p f M M1 w w'/\nW (iD E S m) (5-m) n s1 x=R0/\s1.toks.length<n+s1.i/\s1.toks.length=s.toks.length) (λ_ w'=>s.toks.length-xL w' p)
   ⟨s1,M1,x,s.toks.length+1,rfl,h2,hg1,he2,hR,by have:=hg1.ws.lt;omega,etl⟩ ?_
  clear he2 h2 ex hg1 hi1 etl hR
  rintro st g w2 ⟨s2,M2,y,n,rfl,h2,hg2,he2,hpf,hn,htl⟩
  simp only[aE]
  have hlt2:=hg2.ws.lt
  obtain⟨n,rfl⟩:∃m,n=m+1:=⟨n-1,by omega⟩
  simp only[nW]at hpf
  refine mG h2 hg2.ws hN hg2.l λw3 h3 he3=>?_
  have he3:=he2.trans he3
  have hw3:=he3.chg.size
  have hgn:=hg2.now
  refine bN λb6 w4 hb6 hz4 hbb4 hx4=>?_
  have h4:=h3.ext hx4
  have L6:=h3.loc hz4 hb6 hbb4
  refine cL (l:=eK (cur s2)) L6.1 rfl rfl rfl λw5 hz5 hbb5 hc5=>?_
  have L6:Loc w0 w5 p f M2 vt b6 TkT (eK (cur s2)):=⟨hbb5,L6.2.up (by omega)⟩
  have h5:=h4.one hc5 L6.2
  have he5:=(he3.x hx4).one hc5 (by omega)
  refine fY L6.1 rfl ?_
  refine OJ (by omega) λw6 hx6=>?_
  have h6:=h5.ext hx6
  have L6:=L6.ext hx6
  have he6:=he5.x hx6
  have en:(6-(m+1):Nat)=5-m:=by omega
  rw[en,bI,aN]
  refine⟨λh0=>?_,λh0=>?_⟩
  ·rw[aF h0]at hpf
   exact hK y _ hpf.symm M2 w6 h6 he6
  ·rw[aD h0]at hpf
   have hk0:(cur s2).k≠0:=λe=>h0 (by unfold lA;rw[e];rfl)
   have hgs:=hg2.step hk0
   have sg:=iP hg2.ws hk0
   have sp:=(nT hk0).2
   refine h6.go (wsi hgn.ws hgn.l) λw7 h7 he7 hz7=>?_
   have L6:=L6.eff he7
   have he7:=he6.trans he7
   have up2:∀{KK:Value->Prop},KK (i64 ((6-m:Nat):Int))->aO .add (i64 ((5-m:Nat):Int)) (.int .i64 1) KK:=λh=>by
    rw[<-en];exact up h
   refine up2 ?_
   refine BO hS hE hG hF hFS m (by omega) w7 p M2 vt _ top N _ h7 hgs (λz s3 ez M3 w8 h8 he8=>?_) λc a' ez=>ht c a' (by rw[<-hpf,ez];rfl)
   obtain⟨g8,i8⟩:=hgs.e hJ ez
   have pz:=hJ.z (step1 (aM s2))
   have oz:=hJ.ok N _ hgs.ws
   rw[ez]at hpf pz oz
   have pz:Syn.phi s3<=Syn.phi (step1 (aM s2)):=pz
   have tz:=congrArg List.length oz.1.1.toks
   have tz2:=congrArg List.length sg.1.toks
   simp only[R.bind]at hpf
   have L6:=L6.eff he8
   have he8:=he7.trans he8
   have hw8:=he8.chg.size
   refine Gt λr w9 hr hz9 hrb hx9=>?_
   refine(L6.ext hx9).ldf rfl ?_
   simp only[dJ,eA,iA,dQ,aA,aC,aR,aV,Nat.reduceAdd,Nat.reduceLT,dB,aY]
   refine Fy (e:=⟨lA (cur s2) (5-m),[],[y,z],[],(cur s2).a⟩) (h8.ext hx9) (he8.x hx9) (ER.noK rfl ((h8.row_new (l:=[y,z]) hr hz9 hrb (by simp)).le hw8)) g8 λM4 w10 h10 he10 _=>?_
   have hlt8:=g8.ws.lt
   have hph:=hg2.phi
   refine⟨⟨_,M4,_,n,rfl,h10,g8.put (by omega),he10,hpf,by show s3.toks.length<n+s3.i;omega,by show s3.toks.length=_;omega⟩,?_⟩
   rw[h10.at_,h2.at_]
   show s.toks.length-s3.i<_
   have:=sg.2
   omega
end
theorem Ky(s:PS)(w:Str):aW (aM s) w=aW s w:=by unfold aW;rw[gH,fW]
section
variable [HX]
variable{w0 w w' w1:World}{p f b:Nat}{M M' M0:Lay}{vt:Value}{s:PS}{top:List Nat}{N:Int}{K:Q0}{e:Ex}{va vk:Value}{wbn:Nat}{wb:World}{dl:Nat}
theorem Mc{E S:PS->R Nat}(hS:vQ w0 f)(hE:∀d,dl=d+1->EC w0 f 118 E d)(hG:∀d,dl=d+1->EC w0 f 203 S d)(hF:pZ E)(hFS:pZ S):EC w0 f 118 (rX E S) dl:=by
 intro w p M vt s top N K h hg hK ht;refine Qk ?_;unfold VC;have hN:=hg.hN;have hJ:pZ (iD E S 6):=⟨λN=>sS (hF.ok N) (hFS.ok N) 6,sQ hF.z hFS.z 6⟩;refine sZ rfl λb1 w1 hb1 hz1 hbb1 hx1=>?_;have h1:=h.ext hx1;have L1:=h.loc hz1 hb1 hbb1;refine L1.ld rfl ?_;unfold rX at hK ht;refine BO hS hE hG hF hFS 6 (aL _) w1 p M vt s top N _ h1 hg (λa s1 ea M1 w2 h2 he2=>?_) λc a' ea=>ht c a' (by rw[ea];rfl);rw[ea]at hK ht;simp only[R.bind]at hK ht;obtain⟨hg1,hi1⟩:=hg.e hJ ea;have L1:=L1.eff he2;have he2:=(Eff.ext hx1).trans he2;refine L1.ld rfl ?_;refine mG h2 hg1.ws hN hg1.l λw3 h3 he3=>?_;have L1:=L1.eff he3;have he3:=he2.trans he3;have lt1:=L1.lt;have hw3:=he3.chg.size;have hgn:=hg1.now;refine bN λb4 w4 hb4 hz4 hbb4 hx4=>?_;have h4:=h3.ext hx4;have L4:=h3.loc hz4 hb4 hbb4;have L1:=L1.ext hx4;refine cL (l:=eK (cur s1)) L4.1 rfl rfl rfl λw5 hz5 hbb5 hc5=>?_;have L4:Loc w0 w5 p f M1 vt b4 TkT (eK (cur s1)):=⟨hbb5,L4.2.up (by omega)⟩;have h5:=h4.one hc5 L4.2;have L1:=L1.one hc5 (by omega);have he5:=(he3.x hx4).one hc5 (by omega);refine L1.ld rfl ?_;refine sD h5 hgn.ws hN hgn.l λw6 h6 he6=>?_;rw[Ky]at h6⊢;have L1:=L1.eff he6;have L4:=L4.eff he6;have he6:=he5.trans he6;rw[iN,cU];refine⟨λhn=>?_,λhy=>?_⟩
 ·have hn:(aW s1 [63]).1=false:=by simpa using hn
  rw[aD (by rw[hn];decide)]at hK;exact hK a _ rfl M1 w6 h6 he6
 have hy:(aW s1 [63]).1=true:=by simpa using hy
 rw[aF hy]at hK ht;have hgt:=hg1.take [63];have tp:=(kI s1 [63]).2 hy;generalize hs2:(aW s1 [63]).2=s2 at*
 have lt1:=L1.lt;have lt4:=L4.lt;have hw6:=he6.chg.size;refine Ml λr w7 hr hz7 hrb hx7=>?_;have h7:=h6.ext hx7;have Lr:=h6.loc hz7 hr hrb;have L1:=L1.ext hx7;have L4:=L4.ext hx7;refine bN λb5 w8 hb5 hz8 hbb8 hx8=>?_;have h8:=h7.ext hx8;have L5:=h7.loc hz8 hb5 hbb8;have L1:=L1.ext hx8;have L4:=L4.ext hx8;have Lr:=Lr.ext hx8;refine L5.st rfl (by simp) λw9 L5 hc9 hz9=>?_;have h9:=(h8.one hc9 L5.2).drew;have L1:=(L1.one hc9 (by omega)).drew;have L4:=(L4.one hc9 (by omega)).drew;have Lr:=(Lr.one hc9 (by omega)).drew;have L5:=L5.drew;have he9:=(((he6.x hx7).x hx8).one hc9 (by omega)).x (bM w9);refine L1.ld rfl ?_;rw[bH,bO,aQ];refine L4.ld rfl ?_;refine L1.ld rfl ?_;refine h9.ld rfl ?_;have hlev:=hgt.lev;refine nM h9 (by omega) (λhd=>ht 7 _ (by rw[rI hd])) λhd w10 h10 he10=>?_;obtain⟨d,rfl⟩:∃d,dl=d+1:=⟨dl-1,by omega⟩;rw[uO hd]at hK ht;have q1:=hgt.frame s2.quiet;have L1:=L1.eff he10;have L4:=L4.eff he10;have Lr:=Lr.eff he10;have L5:=L5.eff he10;have he10:=he9.trans he10;refine jV (caps:=[.pointer (some ⟨b1,0,none⟩),.pointer (some ⟨b5,0,none⟩)]) ?_;refine Qb ?_;unfold Vu;have L1:=L1.drew;have L4:=L4.drew;have Lr:=Lr.drew;have L5:=L5.drew;have h10:=h10.drew;have he10:=he10.x (bM w10);refine L5.ld rfl ?_;refine L1.ld rfl ?_;refine hE d rfl w10.drew p M1 vt _ top N _ h10 q1 (λx s3 ex M3 w11 h11 he11=>?_) λc a' ex=>ht c a' (by rw[ex];rfl);obtain⟨g3,_⟩:=q1.e hF ex;have px:=hF.z {s2 with deep:=s2.deep+1,quiet:=s2.quiet};rw[ex]at hK ht px;have px:Syn.phi s3<=Syn.phi s2:=px;simp only[R.bind]at hK ht;have L1:=L1.eff he11;have L4:=L4.eff he11;have Lr:=Lr.eff he11;have L5:=L5.eff he11;have he11:=he10.trans he11;refine⟨L5.ld rfl rfl,?_⟩;rw[wM];refine⟨by omega,by omega,?_⟩;rw[bO,aQ];refine Lr.st (off:=1) rfl (by simp) λw12 Lr hc12 hz12=>?_;have h12:=h11.one hc12 Lr.2;have L1:=L1.one hc12 (by omega);have L4:=L4.one hc12 (by omega);have L5:=L5.one hc12 (by omega);have he12:=he11.one hc12 (by omega);refine L1.ld rfl ?_;refine uP h12 g3.ws hN g3.l (λs4 e4 w13 h13 he13=>?_) λc a' e4=>ht c a' (by rw[e4]);have pw:=kH s3 [58];rw[e4]at hK ht pw;have pw:Syn.phi s4+1<=Syn.phi s3:=pw;simp only at hK ht;obtain⟨g4,_⟩:=g3.want e4;have L1:=(L1.eff he13).drew;have L4:=(L4.eff he13).drew;have Lr:=(Lr.eff he13).drew;have L5:=(L5.eff he13).drew;have h13:=h13.drew;have he13:=(he12.trans he13).x (bM w13);refine L5.ld rfl ?_;refine L1.ld rfl ?_;refine hE d rfl w13.drew p M3 vt _ top N _ h13 g4 (λy s5 ey M5 w14 h14 he14=>?_) λc a' ey=>ht c a' (by rw[ey]);obtain⟨g5,_⟩:=g4.e hF ey;have py:=hF.z s4;rw[ey]at hK py;have py:Syn.phi s5<=Syn.phi s4:=py;simp only at hK;have L1:=L1.eff he14;have L4:=L4.eff he14;have Lr:=Lr.eff he14;have L5:=L5.eff he14;have he14:=he13.trans he14;refine⟨L5.ld rfl rfl,?_⟩;rw[wM];refine⟨by omega,by omega,?_⟩;rw[bO,aQ];refine Lr.st (off:=2) rfl (by simp) λw15 Lr hc15 hz15=>?_;have h15:=h14.one hc15 Lr.2;have L1:=L1.one hc15 (by omega);have L4:=L4.one hc15 (by omega);have L5:=L5.one hc15 (by omega);have he15:=he14.one hc15 (by omega);have g5l:=g5.lev;refine⟨M5,s5,h15,by omega,λw16 h16 he16=>?_⟩;have L1:=L1.eff he16;have L4:=L4.eff he16;have Lr:=Lr.eff he16;have L5:=L5.eff he16;have he16:=he15.trans he16;refine L1.ld rfl ?_;refine L5.ld rfl ?_;refine L4.ldf rfl ?_;simp only[dJ,eA,iA,dQ,aA,aC,aR,aV,Nat.reduceAdd,Nat.reduceLT,dB,aY];have g16:=hgt.back (q:=s2.quiet) g5;have hR:Ro w0 w16 p f M5 vt w.heap.size gS 1 (.slice (some ⟨r,0,none⟩) 3 3) 3 (ints [a,x,y]):=
  ⟨Ll (cs:=ints [a,x,y]) Lr.1 Lr.2.1.1 rfl (by omega),λk hk=>by simp only[Value.ownBlock,bD]at hk;subst hk;exact Lr.2,λk hk=>by simp only[Value.ownBlock,bD]at hk;omega⟩
 refine Fy (e:=⟨28,[],[a,x,y],[],(cur s1).a⟩) h16 he16 (ER.noK rfl hR) g16 λM6 w17 h17 he17 _=>?_;exact hK _ _ rfl M6 w17 h17 he17
theorem sW:pZ dead:=⟨wS,vJ⟩
theorem Cd(d:Nat):pZ (gV d).1/\pZ (gV d).2:=⟨⟨λN=>(rC N d).1,(tX d).1⟩,⟨λN=>(rC N d).2,(tX d).2⟩⟩
theorem IG(hS:vQ w0 f):∀dl,EC w0 f 118 (gV dl).1 dl/\EC w0 f 203 (gV dl).2 dl
 |0=>⟨Mc hS (λd e=>by omega) (λd e=>by omega) sW sW,GP hS (λd e=>by omega) (λd e=>by omega) sW sW⟩
 |d+1=>by
  have ih:=IG hS d
  have hf:=Cd d
  have hE:∀d',d+1=d'+1->EC w0 f 118 (gV d).1 d':=λd' e=>by
   have e:d'=d:=by omega
   subst e;exact ih.1
  have hG:∀d',d+1=d'+1->EC w0 f 203 (gV d).2 d':=λd' e=>by
   have e:d'=d:=by omega
   subst e;exact ih.2
  exact⟨Mc hS hE hG hf.1 hf.2,GP hS hE hG hf.1 hf.2⟩
end
end
end Go.Proofs.YtjblfcfdeaagpaaGreatDoor
namespace Go.Syn
section
open Go Go.Eng Go.Lex
variable{w:World}{K:Q0}{cs:List Value}{G:Nat->Prop}{T:TypeId}{i:Nat}{n:Nat}{v:Value}{w':World}{P:Program}{c:UInt8}{S:Nat->Prop}
abbrev blL(bl:List Blk):List (List Nat):=bl.map (·.blocks)
abbrev uG(bl:List Blk):List Nat:=bl.flatMap λb=>b.attrs.map (·.e)
def Cr(us:List Atr):Prop:=∀a∈us,a.n≠[]
structure FI(s:PS)(pe pb:List Nat):Prop where
 ex:bR (exL s.ex) (uG s.bl++pe)
 bl:bR (blL s.bl) pb
 nm:∀b∈s.bl,Cr b.attrs
theorem FI.perm{s:PS}{pe pe' pb pb':List Nat}(h:FI s pe pb)(h1:pe.Perm pe')(h2:pb.Perm pb'):FI s pe' pb':=⟨h.ex.perm (h1.append_left _),h.bl.perm h2,h.nm⟩
theorem FI.same{s s':PS}{pe pb:List Nat}(h:FI s pe pb)(h1:s'.ex=s.ex)(h2:s'.bl=s.bl):FI s' pe pb:=⟨by rw[h1,h2];exact h.ex,by rw[h2];exact h.bl,by rw[h2];exact h.nm⟩
theorem FI.expr{s s':PS}{x:Nat}{pe pb:List Nat}(h:FI s pe pb)(h2:s'.bl=s.bl)(hf:∀roots,bR (exL s.ex) roots->bR (exL s'.ex) (x::roots)):FI s' (x::pe) pb:=
 ⟨by rw[h2];exact(hf _ h.ex).perm (oP).symm,by rw[h2];exact h.bl,by rw[h2];exact h.nm⟩
def BOk(N:Int)(B:PS->R Nat):Prop:=∀s,WS N s->Sat (B s) (λx s'=>Later N s s'/\∀pe pb,FI s pe pb->FI s' pe (x::pb)) (InN N)
section
variable{N:Int}{E B:PS->R Nat}
theorem BN:∀(n:Nat) (s:PS) (ls:List Str),WS N s->Sat (kB n s ls) (λ_ s'=>Go1 N s s'/\s'.ex=s.ex/\s'.bl=s.bl) (InN N)
 |0,s,_,h=>⟨kT _,h.pN⟩
 |n+1,s,ls,h=>by
  have hc:=iQ h
  have n1:=qJ h
  simp only[kB]
  split
  ·refine(CO (n1.1.ws h) (t:=cur s) ⟨hc.1,hc.2.1⟩).bind λl s1 e1=>?_
   subst e1
   exact(BN n _ (ls++[l]) (n1.1.ws h)).mono λ_ s2 ⟨g,e,b⟩=>⟨n1.1.trans g,e.trans n1.2.2.1,b.trans n1.2.2.2⟩
  ·exact⟨eW h,(fA s).1,(fA s).2⟩
theorem LK(hE:EOk N E)(hB:BOk N B){s:PS}(h:WS N s)(us:List Atr)(bs:List Nat)(hn:Cr us):
  Sat (qF E B s us bs) (λx s'=>Later N s s'/\Cr x.1/\∀pe pb,FI s (us.map (·.e)++pe) (bs++pb)->FI s' (x.1.map (·.e)++pe) (x.2++pb)) (InN N):=by
 unfold qF;refine(lH h 1 (by decide)).bind λt s1 ⟨g1,x1,b1,ht,hk⟩=>?_;have hw1:=g1.1.ws h;have t1:=iO hw1 [61];have hw2:=t1.1.ws hw1;have hc:=iQ h;split
 ·refine(hE _ hw2).bind λx s2 ⟨g2,b2,f2⟩=>?_;refine⟨⟨g1.1.trans (t1.1.trans g2.1),by have:=g1.2;have:=t1.1.le;have:=g2.2;omega⟩,λa ha=>?_,λpe pb hf=>?_⟩
  ·rcases bQ.1 ha with ha|ha
   ·exact hn a ha
   ·rw[aU]at ha;subst ha;rw[ht];exact hc.2.2.2.2 (by rw[<-ht];exact hk)
  ·have:=(hf.same (s':=(aW s1 [61]).2) (t1.2.2.1.trans x1) (t1.2.2.2.trans b1)).expr b2 f2;refine this.perm ?_ (List.Perm.refl _);simp only[jP,bS,pR,bB];exact(oP).symm
 ·have hle:=g1.2;have hle2:=t1.1.le;have hg:Go1 N s {(aW s1 [61]).2 with i:=(aW s1 [61]).2.i-1}:=by
   have g:=g1.1.trans t1.1;refine⟨g.toks,g.off,g.deep,g.quiet,?_,?_,g.exs⟩
   ·show s.i<=(aW s1 [61]).2.i-1;omega
   ·show(aW s1 [61]).2.i-1<(aW s1 [61]).2.toks.length;have:=g.lt;omega
  refine(hB _ (hg.ws h)).bind λx s2 ⟨g2,f2⟩=>?_;refine⟨⟨hg.trans g2.1,by have:=hg.le;have:=g2.2;omega⟩,hn,λpe pb hf=>?_⟩;have:=f2 _ _ (hf.same (s':={(aW s1 [61]).2 with i:=(aW s1 [61]).2.i-1}) (t1.2.2.1.trans x1) (t1.2.2.2.trans b1));refine this.perm (List.Perm.refl _) ?_;simp only[bB];exact(oP).symm
theorem Di(hE:EOk N E)(hB:BOk N B):∀(n:Nat) (s:PS) (us:List Atr) (bs:List Nat),WS N s->Cr us->
  Sat (jT E B n s us bs) (λx s'=>Later N s s'/\Cr x.1/\∀pe pb,FI s (us.map (·.e)++pe) (bs++pb)->FI s' (x.1.map (·.e)++pe) (x.2++pb)) (InN N)
 |0,s,_,_,h,_=>⟨kT _,h.pN⟩
 |n+1,s,us,bs,h,hn=>by
  have t1:=iO h [125]
  have hw1:=t1.1.ws h
  simp only[jT]
  split
  ·rename_i ht
   exact⟨⟨t1.1,t1.2.1 ht⟩,hn,λpe pb hf=>hf.same t1.2.2.1 t1.2.2.2⟩
  refine(LK hE hB hw1 us bs hn).bind λx s1 ⟨g1,n1,f1⟩=>?_
  have hw2:=g1.1.ws hw1
  have m1:=eW hw2
  have hw3:=m1.ws hw2
  split
  ·have:=iQ hw3
   exact⟨this.1,this.2.1⟩
  have l1:=kK hw3
  refine(Di hE hB n _ x.1 x.2 (l1.1.ws hw3) n1).mono λy s2 ⟨g2,n2,f2⟩=>⟨⟨t1.1.trans (g1.1.trans (m1.trans (l1.1.trans g2.1))),by have:=t1.1.le;have:=g1.2;have:=m1.le;have:=l1.1.le;have:=g2.2;omega⟩,n2,λpe pb hf=>f2 pe pb ?_⟩
  exact(f1 pe pb (hf.same t1.2.2.1 t1.2.2.2)).same (l1.2.1.trans (fA _).1) (l1.2.2.trans (fA _).2)
theorem Dx(hE:EOk N E)(hB:BOk N B):BOk N (nY E B):=by
 intro s h;unfold nY;refine(lH h 1 (by decide)).bind λt s1 ⟨g1,x1,b1,ht,hk⟩=>?_;have hw1:=g1.1.ws h;refine(BN _ s1 [] hw1).bind λls s2 ⟨g2,x2,b2⟩=>?_;have hw2:=g2.ws hw1;have n2:=eW hw2;have hw3:=n2.ws hw2;have hc:=iQ hw2;split
 ·exact⟨hc.1,hc.2.1⟩
 rename_i hi;have hi:isS s2 [123]=true:=by simpa using hi
 have e3:(aM s2).ex=s.ex:=(fA _).1.trans (x2.trans x1);have b3:(aM s2).bl=s.bl:=(fA _).2.trans (b2.trans b1);refine Sat.bind (kV hw3 (a:=(cur s2).a) (q:=false) ⟨hc.1,hc.2.1⟩ (P:=λ(x:List Atr×List Nat) s'=>Go1 N {aM s2 with deep:=(aM s2).deep+1,quiet:=false} s'/\Cr x.1/\∀pe pb,FI s pe pb->FI s' (x.1.map (·.e)++pe) (x.2++pb)) λhw=>?_) λx s3 ⟨q,⟨g4,m4,f4⟩,e4⟩=>?_
 ·have hh:=nA hw2 hi ((aM s2).deep+1) false;have h4:=iP hw hh.2.1;rw[hh.1]at h4;have hw4:=h4.1.ws hw;have l4:=kK hw4;refine(Di hE hB _ _ [] [] (l4.1.ws hw4) (λa ha=>by cases ha)).mono λx s' ⟨g,m,f⟩=>⟨h4.1.trans (l4.1.trans g.1),m,λpe pb hf=>f pe pb ?_⟩;exact hf.same (l4.2.1.trans e3) (l4.2.2.trans b3)
 ·subst e4;have g4':=g4.back;have g:=g1.1.trans (g2.trans (n2.trans g4'));refine⟨⟨⟨g.toks,g.off,g.deep,g.quiet,g.le,g.lt,g.exs⟩,by have:=g1.2;have:=g2.le;have:=n2.le;have:=g4'.le;show s.i<q.i;simp only at this;omega⟩,λpe pb hf=>?_⟩;have hq:=f4 pe pb hf;refine⟨?_,?_,?_⟩
  ·show bR (exL q.ex) (uG (q.bl++[⟨t.t,ls,x.1,x.2,t.a⟩])++pe);have e:uG (q.bl++[⟨t.t,ls,x.1,x.2,t.a⟩])++pe=uG q.bl++(x.1.map (·.e)++pe):=by simp[uG]
   rw[e];exact hq.ex
  ·show bR (blL (q.bl++[⟨t.t,ls,x.1,x.2,t.a⟩])) (q.bl.length::pb);have:=hq.bl.put;rw[cD]at this;simpa[blL]using this
  ·intro b hb;have hb:b∈q.bl++[⟨t.t,ls,x.1,x.2,t.a⟩]:=hb;rcases bQ.1 hb with hb|hb
   ·exact hq.nm b hb
   ·rw[aU]at hb;subst hb;exact m4
end
theorem Gm(N:Int):BOk N dead:=λ_ h=>⟨kT _,h.pN⟩
theorem Aq(N:Int):∀d,BOk N (pY d)
 |0=>Dx (wS N) (Gm N)
 |d+1=>Dx (rC N d).1 (Aq N d)
theorem HY{N:Int}:∀(n:Nat) (s:PS) (top:List Nat),WS N s->Sat (tG n s top) (λx s'=>Go1 N s s'/\(FI s [] top->FI s' [] x)) (InN N)
 |0,s,_,h=>⟨kT _,h.pN⟩
 |n+1,s,top,h=>by
  have n1:=eW h
  have hw1:=n1.ws h
  simp only[tG]
  split
  ·exact⟨n1,λhf=>hf.same (fA _).1 (fA _).2⟩
  refine(Aq N 24 _ hw1).bind λx s1 ⟨g1,f1⟩=>?_
  have hw2:=g1.1.ws hw1
  have m1:=eW hw2
  have hw3:=m1.ws hw2
  split
  ·have:=iQ hw3
   exact⟨this.1,this.2.1⟩
  have l1:=kK hw3
  refine(HY n _ (top++[x]) (l1.1.ws hw3)).mono λy s2 ⟨g2,f2⟩=>⟨n1.trans (g1.1.trans (m1.trans (l1.1.trans g2))),λhf=>f2 ?_⟩
  have:=(f1 [] top (hf.same (fA _).1 (fA _).2)).same (s':=dG (aM s1)) (l1.2.1.trans (fA _).1) (l1.2.2.trans (fA _).2)
  refine this.perm (List.Perm.refl _) ?_
  exact(List.perm_append_comm (l₁:=[x]) (l₂:=top))
theorem vG(t:Str):match gD t with
  |.bad _ a=>0<=a/\a<=(t.length:Nat)
  |.ok f=>(∀e∈f.ex,0<=e.a/\e.a<(t.length:Nat))/\bR (exL f.ex) (uG f.bl)/\bR (blL f.bl) f.top/\∀b∈f.bl,Cr b.attrs:=by
 unfold gD;cases hs:iI t with
 |bad c a=>exact Bs hs
 |ok l=>
  have htg:=AR (N:=(t.length:Nat)) (off:=0) hs (kT _) (by omega);have hw:WS (t.length:Nat) ⟨l,0,0,0,false,[],[]⟩:=⟨htg,gW.2 htg.ne,by omega⟩;have l1:=kK hw;have h:=HY (l.length+1) (dG ⟨l,0,0,0,false,[],[]⟩) [] (l1.1.ws hw);cases hr:tG (l.length+1) (dG ⟨l,0,0,0,false,[],[]⟩) []with
  |err c a=>
   rw[hr]at h;simp only[hr];exact h
  |ok top s'=>
   rw[hr]at h;simp only[hr];obtain⟨g,f⟩:=h;have hf:=f (FI.same (s:=⟨l,0,0,0,false,[],[]⟩) ⟨bR.nil,bR.nil,λb hb=>by cases hb⟩ l1.2.1 l1.2.2);refine⟨λe he=>?_,by have:=hf.ex;rw[cH]at this;exact this,hf.bl,hf.nm⟩;rcases g.exs e he with h|h
   ·rw[l1.2.1]at h;cases h
   ·exact h
end
end Go.Syn
namespace Go.Proofs.YtjblfcfdeaagpaaGreatDoor
section
open Go Go.Eng Go.RowKit Go.Syn Go.Lex
variable{w:World}{K:Q0}{cs:List Value}{G:Nat->Prop}{T:TypeId}{i:Nat}{n:Nat}{v:Value}{w':World}{P:Program}{c:UInt8}{S:Nat->Prop}
section
variable{w0 w w1 w2:World}{p f:Nat}{M:Lay}{vt:Value}{s:PS}{top:List Nat}
theorem PR.putB(h:PR w0 w p f M vt s top){wb:World}{M0:Lay}(he:Eff p f M0 M wb w){e:Blk}{d:List Value}{v':Value}(hd:BkR w w0.heap.size e d)(hu:∀k∈ub d,Off w0 w p f M vt k)(hn:(ub d).Nodup)(hnew:∀k∈ub d,wb.heap.size<=k)
  (hO:Own w1 w0.heap.size BkT 5 v' (s.bl.length+1) (M.cB++d))(hc1:Chg (λk=>M.vB.ownBlock=some k) w w1)(hv:∀k,v'.ownBlock=some k->M.vB.ownBlock=some k\/w.heap.size<=k)
  (hc2:Chg (One f) w1 w2)(hf:w2.heap[f]?=some (.cells [M.vE,v',M.vT].toArray FlT (0,0))):PR w0 w2 p f {M with vB:=v',cB:=M.cB++d} vt {s with bl:=s.bl++[e]} top/\Eff p f M0 {M with vB:=v',cB:=M.cB++d} wb w2:=by
 have hb:=h.base;have hzb:=he.chg.size;have pB:=GI M f;have use:∀k,M.vB.ownBlock=some k->k∈M.uses f:=λk hk=>aK _ (kF (v:=M.vB) (by simp) hk);have hnd0:=pB.nodup_iff.1 h.fr.nd;have hnd:=hnd0;rw[jO,fL]at hnd;obtain⟨nf,_,nb,nab⟩:=hnd;have inU:∀k∈ub ([M.vE,M.vT]++(M.cE++M.cB)),k∈M.uses f:=λk hk=>pB.mem_iff.2 (aK _ (bV _ hk));have rest:∀k∈ub ([M.vE,M.vT]++(M.cE++M.cB)),M.vB.ownBlock≠some k/\k≠f/\k<w.heap.size:=λk hk=>
  ⟨λe=>nab k (fX.2 e) k hk rfl,λe=>nf (e▸bV _ hk),h.fr.lt k (inU k hk)⟩
 have c12:Chg (λk=>M.vB.ownBlock=some k\/k=f) w w2:=(hc1.mono λk _ e=>.inl e).trans (hc2.mono λk _ e=>.inr e);have sub:∀v∈[M.vE,M.vT]++(M.cE++M.cB),∀k,v.ownBlock=some k->¬(M.vB.ownBlock=some k\/k=f):=λv hv k hk e=>by
  have:=rest k (kF hv hk);exact e.elim this.1 this.2.1
 have hOf:∀k,v'.ownBlock=some k->k≠f:=λk hk e=>by
  subst e;rcases hv k hk with e|e
  ·exact nf (dI _ (fX.2 e))
  ·have:=vP h.fr.hf;omega
 have nE:M.vB.ownBlock≠some p:=λe=>h.np (use p e);have pf:p≠f:=λe=>h.np (e▸aX);have perm:=MN M f v' d;have hN:(f::(ub [v']++(ub d++ub ([M.vE,M.vT]++(M.cE++M.cB))))).Nodup:=Em (n:=w.heap.size) (a:=ub [M.vB]) hnd0 (λk hk=>h.fr.lt k (pB.mem_iff.2 hk)) (lK _) (λk hk=>(hv k (fX.1 hk)).imp (λe=>fX.2 e) id) hn λk hk=>⟨(hu k hk).1.2,λe=>(hu k hk).2.2.1 (pB.mem_iff.2 e)⟩;have hz:=c12.size;have mem:∀k∈({M with vB:=v',cB:=M.cB++d}:Lay).uses f,k=f\/v'.ownBlock=some k\/k∈ub d\/k∈ub ([M.vE,M.vT]++(M.cE++M.cB)):=λk hk=>by
  have hk:=perm.mem_iff.1 hk;rcases bC.1 hk with e|e
  ·exact .inl e
  rcases bQ.1 e with e|e
  ·exact .inr (.inl (fX.1 e))
  rcases bQ.1 e with e|e
  ·exact .inr (.inr (.inl e))
  ·exact .inr (.inr (.inr e))
 have cT:Chg (Tn p f M) w w2:=c12.mono λk _ e=>e.elim (λe=>.inr (.inr (.inr e))) λe=>.inr (.inl e);refine⟨⟨?_,⟨hf,?_,?_,?_,?_,?_,perm.nodup_iff.2 hN,λk hk=>?_,λk hk=>?_⟩,?_,?_,λe=>?_,h.lo,λk hk=>?_⟩,⟨(he.trans (Eff.of cT)).chg,λk hk=>?_,he.hE,λk hk=>(hv k hk).elim (he.hB k) λe=>.inr (by omega),he.hT⟩⟩
 ·refine h.ch.then c12 λk hk e=>?_;rcases e with e|e
  ·exact(h.fr.lo k (use k e)).resolve_right (by omega)
  ·exact e
 ·exact iG h.fr.oE c12 (sub _ (by simp))
 ·rw[aB];exact iG hO hc2 λk hk e=>hOf k hk e
 ·exact iG h.fr.oT c12 (sub _ (by simp))
 ·refine h.fr.ee.imp λx d hd hx=>hx.at_ c12 λk hk=>?_;obtain⟨v,hv,hk⟩:=fT.1 hk;exact sub v (by simp[hd v hv]) k hk
 ·refine nH.snoc ?_ (hd.at_ c12 λk hk e=>?_) (by obtain⟨vl,va,vk,rfl,_⟩:=hd;rfl)
  ·refine h.fr.bb.imp λx d hd hx=>hx.at_ c12 λk hk=>?_;obtain⟨v,hv,hk⟩:=fT.1 hk;exact sub v (by simp[hd v hv]) k hk
  ·have ho:=(hu k hk).2.2.1;rcases e with e|e
   ·exact ho (use k e)
   ·exact ho (e▸aX)
 ·rcases mem k hk with e|e|e|e
  ·rw[e];exact vP hf
  ·exact bX (pF hO e).1 hc2.size
  ·exact bX (hu k e).1.2 hz
  ·exact bX (rest k e).2.2 hz
 ·rcases mem k hk with e|e|e|e
  ·exact .inl e
  ·exact .inr (pF hO e).2
  ·exact .inr (hu k e).1.1
  ·exact h.fr.lo k (inU k e)
 ·exact c12.at h.ps λe=>e.elim nE pf
 ·exact vU h.tk c12 λk hk e=>by
   have:=(h.nt k hk).1;rcases e with e|e
   ·exact this (use k e)
   ·exact this (e▸aX)
 ·rcases mem p e with e|e|e|e
  ·exact pf e
  ·exact(hv p e).elim nE λe=>by have:=h.lt;omega
  ·exact(hu p e).2.1 rfl
  ·exact h.np (inU p e)
 ·have ht:=h.nt k hk;refine⟨λe=>?_,ht.2.1,bX ht.2.2 hz⟩;rcases mem k e with e|e|e|e
  ·exact ht.1 (e▸aX)
  ·exact(hv k e).elim (λe=>ht.1 (use k e)) λe=>by omega
  ·exact(hu k e).2.2.2 hk
  ·exact ht.1 (inU k e)
 ·rcases mem k hk with e|e|e|e
  ·exact he.us k (e▸aX)
  ·exact(hv k e).elim (λe=>he.us k (use k e)) λe=>.inr (by omega)
  ·exact .inr (hnew k e)
  ·exact he.us k (inU k e)
end
structure DF(F:PS->R Nat):Prop where
 ok:∀N,BOk N F
 z:EZ F
theorem Gd.bk{x:Nat}{s s':PS}{N:Int}{dl:Nat}{F:PS->R Nat}(h:Gd N s dl)(hF:DF F)(e:F s=.ok x s'):Gd N s' dl/\s.i<s'.i/\s'.toks=s.toks:=by
 have h1:=hF.ok N s h.ws;have h2:=hF.z s;rw[e]at h1 h2;exact⟨h.go h1.1.1 h2,h1.1.2,h1.1.1.toks⟩
section
variable [HX]
variable{w0 w w' w1:World}{p f b:Nat}{M M' M0:Lay}{vt:Value}{s:PS}{top:List Nat}{N:Int}{K:Q0}{e:Ex}{wbn:Nat}{wb:World}{dl:Nat}
structure BL(w0 w:World)(p f:Nat)(M:Lay)(vt:Value)(B1 b4:Nat)(typ:Str)(a:Int)(vl va vb:Value)(ls:List Str)(av:List Atr)(bs:List Nat):Prop where
 l4:Loc w0 w p f M vt b4 BkT [str typ,vl,va,vb,i64 a]
 rL:Ro w0 w p f M vt B1 StT 1 vl ls.length (strs ls)
 rA:Ro w0 w p f M vt B1 AtT 3 va av.length (AJ av)
 rB:Ro w0 w p f M vt B1 gS 1 vb bs.length (ints bs)
 d1:∀k,vl.ownBlock=some k->va.ownBlock≠some k
 d2:∀k,vl.ownBlock=some k->vb.ownBlock≠some k
 d3:∀k,va.ownBlock=some k->vb.ownBlock≠some k
 lt:b4<B1/\B1<=w.heap.size
section
variable{B1 b4:Nat}{typ:Str}{a:Int}{vl va vb:Value}{ls:List Str}{av:List Atr}{bs:List Nat}
theorem BL.eff(h:BL w0 w p f M vt B1 b4 typ a vl va vb ls av bs)(he:Eff p f M M' w w'):BL w0 w' p f M' vt B1 b4 typ a vl va vb ls av bs:=
 ⟨h.l4.eff he,h.rL.eff he,h.rA.eff he,h.rB.eff he,h.d1,h.d2,h.d3,h.lt.1,bZ h.lt.2 he.chg.size⟩
theorem BL.ext(h:BL w0 w p f M vt B1 b4 typ a vl va vb ls av bs)(hx:Ext w w'):BL w0 w' p f M vt B1 b4 typ a vl va vb ls av bs:=h.eff (Eff.ext hx)
theorem BL.one(h:BL w0 w p f M vt B1 b4 typ a vl va vb ls av bs)(hc:Chg (One b) w w')(hb:b≠b4)(hL:vl.ownBlock≠some b)(hA:va.ownBlock≠some b)(hB:vb.ownBlock≠some b):BL w0 w' p f M vt B1 b4 typ a vl va vb ls av bs:=
 ⟨h.l4.one hc (uH hb),h.rL.one hc hL,h.rA.one hc hA,h.rB.one hc hB,h.d1,h.d2,h.d3,h.lt.1,bZ h.lt.2 hc.size⟩
theorem BL.fresh(h:BL w0 w p f M vt B1 b4 typ a vl va vb ls av bs){k:Nat}(hk:w.heap.size<=k):k≠b4/\vl.ownBlock≠some k/\va.ownBlock≠some k/\vb.ownBlock≠some k:=
 ⟨λe=>by have:=h.l4.lt;omega,λe=>by have:=(h.rL.off k e).1.2;omega,λe=>by have:=(h.rA.off k e).1.2;omega,λe=>by have:=(h.rB.off k e).1.2;omega⟩
theorem BL.no4(h:BL w0 w p f M vt B1 b4 typ a vl va vb ls av bs):vl.ownBlock≠some b4/\va.ownBlock≠some b4/\vb.ownBlock≠some b4:=
 ⟨λe=>by have:=h.rL.new _ e;have:=h.lt.1;omega,λe=>by have:=h.rA.new _ e;have:=h.lt.1;omega,λe=>by have:=h.rB.new _ e;have:=h.lt.1;omega⟩
theorem BL.appL{x:Str}{r:Nat}{ty:TypeId}{KW:World->Prop}(h:BL w0 w p f M vt B1 b4 typ a vl va vb ls av bs)(hp:PR w0 w p f M vt s top)(hr:w.heap[r]?=some (.cells [str x].toArray StT (0,0)))(hn:ls.length<=1000000)
  (hK:∀vl' w',BL w0 w' p f M vt B1 b4 typ a vl' va vb (ls++[x]) av bs->PR w0 w' p f M vt s top->Chg (λk=>vl.ownBlock=some k\/k=b4) w w'->(∀b T cs,Loc w0 w p f M vt b T cs->b≠b4->vl.ownBlock≠some b->Loc w0 w' p f M vt b T cs)->(∀k,vl'.ownBlock=some k->vl.ownBlock=some k\/w.heap.size<=k)->KW w'):
  fG P0 (Builtin.append_ #[33,33] ty #[vl,.slice (some ⟨r,0,none⟩) 1 1]) w λt62 w36=>bA 1 (.pointer (some ⟨b4,0,none⟩)) λt63=>stW 1 t63 t62 w36 KW:=by
 refine Ro.app IK h.rL hp hr rfl (λu hu=>by simp only[aU]at hu;subst hu;rfl) hn (by decide) h.lt.2 λv' w2 hR2 hc hv hp2=>?_;have e1:(ls++[x]).length=ls.length+1:=by simp
 rw[<-e1,show strs ls++[str x]=strs (ls++[x])from by simp[strs]]at hR2;rw[bH,bO,aQ];obtain⟨vp,vc,ev,_⟩:=hR2.own.sl.shape;obtain⟨n1,n2,n3⟩:=h.no4;have n1':v'.ownBlock≠some b4:=λe=>by have:=hR2.new b4 e;have:=h.lt.1;omega
 refine(h.l4.row hc n1).st (by rw[ev];rfl) (by simp) λw3 L3 hc3 hz3=>?_;have z:=hc.size;refine hK v' w3 ⟨L3,hR2.one hc3 n1',(h.rA.row hc λk hk e=>h.d1 k e hk).one hc3 n2,(h.rB.row hc λk hk e=>h.d2 k e hk).one hc3 n3,λk hk=>?_,λk hk=>?_,h.d3,h.lt.1,by have:=h.lt.2;omega⟩ (hp2.one hc3 L3.2) ((hc.mono λk _ e=>.inl e).trans (hc3.mono λk _ e=>.inr e)) (λb T cs hL hb hvb=>(hL.row hc hvb).one hc3 hb) hv
 ·exact(hv k hk).elim (h.d1 k) λe e'=>by have:=(h.rA.off k e').1.2;omega
 ·exact(hv k hk).elim (h.d2 k) λe e'=>by have:=(h.rB.off k e').1.2;omega
theorem BL.appA{x:Atr}{r:Nat}{ty:TypeId}{KW:World->Prop}(h:BL w0 w p f M vt B1 b4 typ a vl va vb ls av bs)(hp:PR w0 w p f M vt s top)(hr:w.heap[r]?=some (.cells [str x.n,i64 (x.e:Nat),i64 x.a].toArray AtT (0,0)))(hn:av.length<=1000000)
  (hK:∀va' w',BL w0 w' p f M vt B1 b4 typ a vl va' vb ls (av++[x]) bs->PR w0 w' p f M vt s top->Chg (λk=>va.ownBlock=some k\/k=b4) w w'->(∀b T cs,Loc w0 w p f M vt b T cs->b≠b4->va.ownBlock≠some b->Loc w0 w' p f M vt b T cs)->(∀k,va'.ownBlock=some k->va.ownBlock=some k\/w.heap.size<=k)->KW w'):
  fG P0 (Builtin.append_ #[36,36] ty #[va,.slice (some ⟨r,0,none⟩) 1 1]) w λt62 w36=>dR (.pointer (some ⟨b4,0,none⟩)) λt63=>bA 2 t63 λt63=>stW 1 t63 t62 w36 KW:=by
 refine Ro.app UO h.rA hp hr rfl (λu hu=>by simp only[bC,dH,mD]at hu;rcases hu with rfl|rfl|rfl<;>rfl) hn (by decide) h.lt.2 λv' w2 hR2 hc hv hp2=>?_;have e1:(av++[x]).length=av.length+1:=by simp
 rw[<-e1,show AJ av++[str x.n,i64 (x.e:Nat),i64 x.a]=AJ (av++[x])from by simp[AJ]]at hR2;rw[dZ,bH,bO,aQ];obtain⟨vp,vc,ev,_⟩:=hR2.own.sl.shape;obtain⟨n1,n2,n3⟩:=h.no4;have n2':v'.ownBlock≠some b4:=λe=>by have:=hR2.new b4 e;have:=h.lt.1;omega
 refine(h.l4.row hc n2).st (by rw[ev];rfl) (by simp) λw3 L3 hc3 hz3=>?_;have z:=hc.size;refine hK v' w3 ⟨L3,(h.rL.row hc λk hk e=>h.d1 k hk e).one hc3 n1,hR2.one hc3 n2',(h.rB.row hc λk hk e=>h.d3 k e hk).one hc3 n3,λk hk e=>?_,h.d2,λk hk=>?_,h.lt.1,by have:=h.lt.2;omega⟩ (hp2.one hc3 L3.2) ((hc.mono λk _ e=>.inl e).trans (hc3.mono λk _ e=>.inr e)) (λb T cs hL hb hvb=>(hL.row hc hvb).one hc3 hb) hv
 ·exact(hv k e).elim (λe=>h.d1 k hk e) λe=>by have:=(h.rL.off k hk).1.2;omega
 ·exact(hv k hk).elim (h.d3 k) λe e'=>by have:=(h.rB.off k e').1.2;omega
theorem BL.appB{x:Nat}{r:Nat}{ty:TypeId}{KW:World->Prop}(h:BL w0 w p f M vt B1 b4 typ a vl va vb ls av bs)(hp:PR w0 w p f M vt s top)(hr:w.heap[r]?=some (.cells [i64 (x:Nat)].toArray gS (0,0)))(hn:bs.length<=1000000)
  (hK:∀vb' w',BL w0 w' p f M vt B1 b4 typ a vl va vb' ls av (bs++[x])->PR w0 w' p f M vt s top->Chg (λk=>vb.ownBlock=some k\/k=b4) w w'->(∀b T cs,Loc w0 w p f M vt b T cs->b≠b4->vb.ownBlock≠some b->Loc w0 w' p f M vt b T cs)->(∀k,vb'.ownBlock=some k->vb.ownBlock=some k\/w.heap.size<=k)->KW w'):
  fG P0 (Builtin.append_ #[26,26] ty #[vb,.slice (some ⟨r,0,none⟩) 1 1]) w λt62 w36=>dR (.pointer (some ⟨b4,0,none⟩)) λt63=>bA 3 t63 λt63=>stW 1 t63 t62 w36 KW:=by
 refine Ro.app Ak h.rB hp hr rfl (λu hu=>by simp only[aU]at hu;subst hu;rfl) hn (by decide) h.lt.2 λv' w2 hR2 hc hv hp2=>?_;have e1:(bs++[x]).length=bs.length+1:=by simp
 rw[<-e1,show ints bs++[i64 (x:Nat)]=ints (bs++[x])from by simp[ints]]at hR2;rw[dZ,bH,bO,aQ];obtain⟨vp,vc,ev,_⟩:=hR2.own.sl.shape;obtain⟨n1,n2,n3⟩:=h.no4;have n3':v'.ownBlock≠some b4:=λe=>by have:=hR2.new b4 e;have:=h.lt.1;omega
 refine(h.l4.row hc n3).st (by rw[ev];rfl) (by simp) λw3 L3 hc3 hz3=>?_;have z:=hc.size;refine hK v' w3 ⟨L3,(h.rL.row hc λk hk e=>h.d2 k hk e).one hc3 n1,(h.rA.row hc λk hk e=>h.d3 k hk e).one hc3 n2,hR2.one hc3 n3',h.d1,λk hk e=>?_,λk hk e=>?_,h.lt.1,by have:=h.lt.2;omega⟩ (hp2.one hc3 L3.2) ((hc.mono λk _ e=>.inl e).trans (hc3.mono λk _ e=>.inr e)) (λb T cs hL hb hvb=>(hL.row hc hvb).one hc3 hb) hv
 ·exact(hv k e).elim (λe=>h.d2 k hk e) λe=>by have:=(h.rL.off k hk).1.2;omega
 ·exact(hv k e).elim (λe=>h.d3 k hk e) λe=>by have:=(h.rA.off k hk).1.2;omega
theorem Gd.etoks{x:Nat}{s':PS}{F:PS->R Nat}(h:Gd N s dl)(hF:pZ F)(e:F s=.ok x s'):s'.toks=s.toks:=by
 have h1:=hF.ok N s h.ws;rw[e]at h1;exact h1.1.1.toks
theorem Gd.name_back{t:Tok}{s1:PS}(hg:Gd N s dl)(e:iC s 1=.ok t s1)(hn:(aW s1 [61]).1=false):
  Gd N {(aW s1 [61]).2 with i:=(aW s1 [61]).2.i-1} dl/\s.i<=(aW s1 [61]).2.i-1/\1<=(aW s1 [61]).2.i/\(aW s1 [61]).2.toks=s.toks:=by
 have hk:=hg.kind (by decide) e;have hks:=lH hg.ws 1 (by decide);rw[e]at hks;have e1:s1=step1 (aM s):=by
  unfold iC at e;split at e
  ·rename_i hk;injection e with _ e
   rw[<-e];unfold fB;rw[aF (by rw[hk];decide)]
  ·cases e
 have t1:=iO hk.1.ws [61];have e2:(aW s1 [61]).2=aM s1:=by
  unfold aW at hn⊢;split
  ·rename_i hi;rw[aF hi]at hn;cases hn
  ·rfl
 have hi1:=hk.2.1;have hi2:=t1.1.le;have hgo:Go1 N s {(aW s1 [61]).2 with i:=(aW s1 [61]).2.i-1}:=by
  have g:=hks.1.1.trans t1.1;refine⟨g.toks,g.off,g.deep,g.quiet,?_,?_,g.exs⟩
  ·show s.i<=(aW s1 [61]).2.i-1;omega
  ·show(aW s1 [61]).2.i-1<(aW s1 [61]).2.toks.length;have:=g.lt;omega
 refine⟨hg.go hgo ?_,by omega,by omega,(t1.1.toks).trans hks.1.1.toks⟩;have hi:s.i<=(aM s1).i-1:=by rw[<-e2];omega
 have x1:(aM s1).ex=s.ex:=(fA s1).1.trans (by rw[e1];exact(fA s).1);have x2:(aM s1).bl=s.bl:=(fA s1).2.trans (by rw[e1];exact(fA s).2);have x3:(aM s1).toks=s.toks:=by
  have h1:∀s:PS,(aM s).toks=s.toks:=λs=>by unfold aM;split<;>rfl
  rw[h1,e1];exact h1 s
 rw[e2];unfold Syn.phi;simp only;rw[x1,x2,x3];have:=GF s.toks hi;omega
theorem SV{E B:PS->R Nat}(hE:EC w0 f 118 E dl)(hB:EC w0 f 32 B dl)(hF:pZ E)(hFB:DF B)(h:PR w0 w p f M vt s top)(hg:Gd N s dl)(hL:BL w0 w p f M vt B1 b4 typ a vl va vb ls av bs)(hal:av.length<=1000000)(hbl:bs.length<=1000000)
  {M0:Lay}{wb:World}(he0:Eff p f M0 M wb w)(hw4:wb.heap.size<=b4)(hwB:wb.heap.size<=B1)
  (hK:∀x s',qF E B s av bs=.ok x s'->∀M' va' vb' w',PR w0 w' p f M' vt s' top->Gd N s' dl->s.i<s'.i->s'.toks=s.toks->x.1.length<=av.length+1->x.2.length<=bs.length+1->Eff p f M0 M' wb w'->BL w0 w' p f M' vt B1 b4 typ a vl va' vb' ls x.1 x.2->
    (∀b T cs,Loc w0 w p f M vt b T cs->b≠b4->va.ownBlock≠some b->vb.ownBlock≠some b->Loc w0 w' p f M' vt b T cs)->(∀k,va'.ownBlock=some k->va.ownBlock=some k\/w.heap.size<=k)->(∀k,vb'.ownBlock=some k->vb.ownBlock=some k\/w.heap.size<=k)->K (.tuple #[]) w')
  (ht:∀c a',qF E B s av bs=.err c a'->Thr w0 f c a'):
  aI P0 69 [.pointer (some ⟨p,0,none⟩),.pointer (some ⟨b4,0,none⟩)] w K:=by
 refine Ty ?_;unfold W69;have hN:=hg.hN;unfold qF at hK ht;refine vA h hg.ws hN hg.l (λt s1 et w1 h1 he1=>?_) λc a' et=>ht c a' (by rw[et];rfl);rw[et]at hK ht;simp only[R.bind]at hK ht;have hk:=hg.kind (by decide) et;have hks:=lH hg.ws 1 (by decide);rw[et]at hks;have hL1:=hL.eff he1;refine bN λb5 w2 hb5 hz2 hbb2 hx2=>?_;have h2:=h1.ext hx2;have L5:=h1.loc hz2 hb5 hbb2;have fr5:=hL1.fresh (k:=b5) (by omega);refine cL (l:=eK t) L5.1 rfl rfl rfl λw3 hz3 hbb3 hc3=>?_;have L5:Loc w0 w3 p f M vt b5 TkT (eK t):=⟨hbb3,L5.2.up (by omega)⟩;have h3:=h2.one hc3 L5.2;have hL3:=(hL1.ext hx2).one hc3 fr5.1 fr5.2.1 fr5.2.2.1 fr5.2.2.2;have hz1:=he1.chg.size;have he3:Eff p f M M w w3:=(he1.x hx2).one hc3 (by omega);refine sD h3 hk.1.ws hN hk.1.l λw4 h4 he4=>?_;have L5:=L5.eff he4;have hL4:=hL3.eff he4;have he4:=he3.trans he4;have hgt:=hk.1.take [61];have tg:=iO hk.1.ws [61];have zz:=he0.chg.size;rw[cU];refine⟨λhy=>?_,λhn=>?_⟩
 ·
  rw[aF hy]at hK ht;have L5:=L5.drew;have hL4:=hL4.ext (bM w4);have h4:=h4.drew;have he4:=he4.x (bM w4);rw[dZ,bH,bO,aQ];refine hL4.l4.ld rfl ?_;rw[bH,bO,aQ];refine L5.ld rfl ?_;rw[bH,bO,aQ];refine L5.ld rfl ?_;refine hE w4.drew p M vt _ top N _ h4 hgt (λx s2 ex M2 w5 h5 he5=>?_) λc a' ex=>ht c a' (by rw[ex]);rw[ex]at hK;simp only at hK;obtain⟨g2,i2⟩:=hgt.e hF ex;have t2:=hgt.etoks hF ex;have L5:=L5.eff he5;have hL5:=hL4.eff he5;have he5:=he4.trans he5;refine⟨L5.ld rfl rfl,L5.ld rfl rfl,hL5.l4.ld rfl rfl,?_⟩;simp only[dJ,eA,dQ,aA,aC,aR,aV,Nat.reduceAdd,Nat.reduceLT,dB,aY];refine zJ (d:=[str t.t,i64 ((x:Nat):Int),i64 t.a]) rfl rfl λr w6 hr hz6 hrb hx6=>?_;have hL6:=hL5.ext hx6;have he6:=he5.x hx6;have hw6:=he6.chg.size;refine⟨hL6.l4.ld rfl rfl,?_⟩;refine hL6.appA (x:=⟨t.t,x,t.a⟩) (h5.ext hx6) hrb hal λva' w7 hL7 h7 hc7 hl7 hv7=>?_;refine hK _ _ rfl M2 va' vb w7 h7 g2 (by have:=tg.1.le;have:=hk.2.1;omega) (t2.trans (tg.1.toks.trans hks.1.1.toks)) (by simp) (by simp) (((he0.trans he6).then hc7 λk hk' e=>?_)) hL7 (λb T cs hl hb hva hvb=>hl7 b T cs (hl.eff he6) hb hva) (λk hk=>(hv7 k hk).imp id λe=>by omega) λk hk=>.inl hk;rcases e with e|e
  ·have:=hL.rA.new k e;omega
  ·omega
 ·
  have hn:(aW s1 [61]).1=false:=by simpa using hn
  rw[aD (by rw[hn];decide)]at hK ht;obtain⟨gb,ib,i1,tb⟩:=hg.name_back et hn;refine h4.ld rfl ?_;have hti:=hgt.ws.lt;have htl:=hgt.few;rw[nZ,dF (by omega) (by omega),show(((aW s1 [61]).2.i:Nat):Int)-1=(((aW s1 [61]).2.i-1:Nat):Int)by omega];refine h4.st_i λw5 h5 he5 hz5=>?_;have hL5:=(hL4.eff he5).ext (bM w5);have h5:=h5.drew;have he5:=(he4.trans he5).x (bM w5);rw[dZ,bH,bO,aQ];refine hL5.l4.ld rfl ?_;refine hB w5.drew p M vt _ top N _ h5 gb (λx s2 ex M2 w6 h6 he6=>?_) λc a' ex=>ht c a' (by rw[ex]);rw[ex]at hK;simp only at hK;obtain⟨g2,i2,t2⟩:=gb.bk hFB ex;have hL6:=hL5.eff he6;have he6:=he5.trans he6;refine⟨hL6.l4.ld rfl rfl,?_⟩;refine jC λr w7 hr hz7 hrb hx7=>?_;have hL7:=hL6.ext hx7;have he7:=he6.x hx7;have hw7:=he7.chg.size;refine⟨hL7.l4.ld rfl rfl,?_⟩;refine hL7.appB (h6.ext hx7) hrb hbl λvb' w8 hL8 h8 hc8 hl8 hv8=>?_;refine hK _ _ rfl M2 va vb' w8 h8 g2 (by have i2:(aW s1 [61]).2.i-1<s2.i:=i2;omega) (t2.trans tb) (by simp) (by simp) ((he0.trans he7).then hc8 λk hk' e=>?_) hL8 (λb T cs hl hb hva hvb=>hl8 b T cs (hl.eff he7) hb hvb) (λk hk=>.inl hk) λk hk=>(hv8 k hk).imp id λe=>by omega
  rcases e with e|e
  ·have:=hL.rB.new k e;omega
  ·omega
end
end
section
variable [HX]
variable{w0 w w' w1:World}{p f:Nat}{M M' M0:Lay}{vt:Value}{s:PS}{top:List Nat}{N:Int}{K:Q0}{e:Ex}{wbn:Nat}{wb:World}{dl:Nat}{B1 b4:Nat}{typ:Str}{a:Int}{vl va vb:Value}{ls:List Str}{av:List Atr}{bs:List Nat}
theorem Jy(s:PS):fB (aM s)=fB s:=by unfold fB;rw[kD,fW]
theorem Gd.plain{N:Int}{s s':PS}{t:Tok}{l:Str}(e:kX s t=.ok l s'):s'=s:=by
 unfold kX at e;split at e
 ·cases e
 ·injection e with _ e;exact e.symm
theorem ON{E B:PS->R Nat}{b1:Nat}(hE:EC w0 f 118 E dl)(hB:EC w0 f 32 B dl)(hF:pZ E)(hFB:DF B)(h:PR w0 w p f M vt s top)(hg:Gd N s dl)(hc0:(cur s).k≠0)(hnow:aM s=s)
  (hL:BL w0 w p f M vt B1 b4 typ a vl (.slice none 0 0) (.slice none 0 0) ls [] [])(L1:Loc w0 w p f M vt b1 PpT [.pointer (some ⟨p,0,none⟩)])(hb1:b1<B1/\b1≠b4)
  {M0:Lay}{wb:World}(he0:Eff p f M0 M wb w)(hw4:wb.heap.size<=b4)(hwB:wb.heap.size<=B1)
  (hK:∀x s',jT E B (s.toks.length+1) (dG (step1 s)) [] []=.ok x s'->∀M' va' vb' w',PR w0 w' p f M' vt s' top->Gd N s' dl->Eff p f M0 M' wb w'->BL w0 w' p f M' vt B1 b4 typ a vl va' vb' ls x.1 x.2->Loc w0 w' p f M' vt b1 PpT [.pointer (some ⟨p,0,none⟩)]->K (.tuple #[]) w')
  (ht:∀c a',jT E B (s.toks.length+1) (dG (step1 s)) [] []=.err c a'->Thr w0 f c a'):
  aI P0 67 [.pointer (some ⟨b1,0,none⟩),.pointer (some ⟨b4,0,none⟩)] w K:=by
 refine TA ?_;unfold W67;have hN:=hg.hN;have hg1:Gd N (step1 s) dl:=by have:=hg.step hc0;rw[hnow]at this;exact this
 have zz:=he0.chg.size;refine L1.ld rfl ?_;refine h.go (wsi hg.ws hg.l) λw1 h1 he1 hz1=>?_;have L1:=L1.eff he1;have hL:=hL.eff he1;have he1:=he0.trans he1;refine L1.ld rfl ?_;refine wJ h1 hg1.ws hN hg1.l λw2 h2 he2=>?_;have L1:=L1.eff he2;have hL:=hL.eff he2;have he2:=he1.trans he2;have hg2:=hg1.lines;have et2:=congrArg List.length (kK hg1.ws).1.toks;generalize hR:jT E B (s.toks.length+1) (dG (step1 s)) [] []=R0 at hK ht;refine dD.go (λst w'=>st=[]/\∃s1 M1 av bs va vb n,PR w0 w' p f M1 vt s1 top/\Gd N s1 dl/\Eff p f M0 M1 wb w'/\Loc w0 w' p f M1 vt b1 PpT [.pointer (some ⟨p,0,none⟩)]/\BL w0 w' p f M1 vt B1 b4 typ a vl va vb ls av bs/\jT E B n s1 av bs=R0/\s1.toks.length<n+s1.i/\av.length<=s1.i/\bs.length<=s1.i/\s1.toks.length=s.toks.length) (λ_ w'=>s.toks.length-xL w' p)
  ⟨rfl,_,M,[],[],_,_,s.toks.length+1,h2,hg2,he2,L1,hL,hR,by rw[et2];show s.toks.length<_;omega,by simp,by simp,by rw[et2];rfl⟩ ?_
 clear hL L1 h1 h2 he1 he2;rintro st g w3 ⟨rfl,s1,M1,av,bs,va,vb,n,h3,hg3,he3,L1,hL,hit,hn,hal,hbl,htl⟩;have hlt3:=hg3.ws.lt;obtain⟨n,rfl⟩:∃m,n=m+1:=⟨n-1,by omega⟩;simp only[jT]at hit;refine L1.ld rfl ?_;refine sD h3 hg3.ws hN hg3.l λw4 h4 he4=>?_;have L1:=L1.eff he4;have hL:=hL.eff he4;have he4:=he3.trans he4;have hg4:=hg3.take [125];have tg:=iO hg3.ws [125];have tgt:=congrArg List.length tg.1.toks;rw[iN,cU];refine⟨λhn'=>?_,λhy=>?_⟩
 ·have hn':(aW s1 [125]).1=false:=by simpa using hn'
  rw[aD (by rw[hn'];decide)]at hit;have few:=hg3.few;refine L1.ld rfl ?_;refine SV hE hB hF hFB h4 hg4 hL (by omega) (by omega) he4 hw4 hwB (λx s2 ex M2 va2 vb2 w5 h5 hg5 hi5 ht5 hxa hxb he5 hL5 hl5 hv5 hu5=>?_) λc a' ex=>ht c a' (by rw[<-hit,ex];rfl);rw[ex]at hit;simp only[R.bind]at hit;have ht5:=congrArg List.length ht5;have L1:=hl5 _ _ _ L1 hb1.2 (λe=>by have:=hL.rA.new _ e;have:=hb1.1;omega) (λe=>by have:=hL.rB.new _ e;have:=hb1.1;omega);have hgn:=hg5.now;have hng:=eW hg5.ws;have hngt:=congrArg List.length hng.toks;have hngi:=hng.le;refine cK.cut (λ_ w'=>PR w0 w' p f M2 vt (aM s2) top/\Eff p f M2 M2 w5 w'/\jT E B n (dG (aM s2)) x.1 x.2=R0) ?_ ?_
  ·refine L1.ld rfl ?_;refine mG h5 hg5.ws hN hg5.l λw6 h6 he6=>?_;refine⟨i64 (cur s2).k,rfl,?_⟩;dsimp only;rw[gL];have L1:=L1.eff he6;by_cases hk5:(cur s2).k≠5
   ·rw[cO hk5];simp only[lI];refine GdW.act (!isS (aM s2) [125]) (λw'=>PR w0 w' p f M2 vt (aM s2) top/\Eff p f M2 M2 w5 w') (λe=>by cases e) (λ_ J hJ=>?_) λg5 w7 hR7=>?_
    ·refine L1.ld rfl ?_;refine yZ h6 hgn λw7 h7 he7=>?_;rw[iN];rw[fW]at h7;exact hJ w7 ⟨h7,he6.trans he7⟩
    obtain⟨h7,he7⟩:=hR7;simp only[aE,cY,pD];rw[cU];refine⟨λhq=>?_,λhq=>?_⟩
    ·have hq:isS (aM s2) [125]=false:=by simpa using hq
     have L1:Loc w0 w7 p f M2 vt b1 PpT [.pointer (some ⟨p,0,none⟩)]:=(hl5 _ _ _ ‹Loc w0 w4 p f M1 vt b1 PpT [.pointer (some ⟨p,0,none⟩)]› hb1.2 (λe=>by have:=hL.rA.new _ e;have:=hb1.1;omega) (λe=>by have:=hL.rB.new _ e;have:=hb1.1;omega)).eff he7;refine L1.ld rfl ?_;refine mG h7 hgn.ws hN hgn.l λw8 h8 he8=>?_;refine⟨i64 (cur (aM s2)).a,rfl,?_⟩;refine pI h8 (ht 50 _ ?_);rw[<-hit,aF ⟨hk5,hq⟩]
    ·have hq:isS (aM s2) [125]=true:=by simpa using hq
     rw[aD (λh=>by rw[h.2]at hq;cases hq)]at hit;exact⟨h7,he7,hit⟩
   ·rw[cV hk5];simp only[lI,AG];intro g5;rw[kY,cQ];rw[aD (λh=>hk5 h.1)]at hit;exact⟨h6,he6,hit⟩
  rintro _ g4 w6 ⟨h6,he6,hit⟩;have L1:=L1.eff he6;refine L1.ld rfl ?_;refine wJ h6 hgn.ws hN hgn.l λw7 h7 he7=>?_;have lg:=kK hgn.ws;have lgt:=congrArg List.length lg.1.toks;have lgi:=lg.1.le;have tgi:=tg.1.le;have hgl:=hgn.lines;have hltl:=hgl.ws.lt;refine⟨⟨rfl,dG (aM s2),M2,x.1,x.2,va2,vb2,n,h7,hgl,(he5.trans he6).trans he7,L1.eff he7,(hL5.eff he6).eff he7,hit,by omega,by omega,by omega,by omega⟩,?_⟩;rw[h7.at_,h3.at_];omega
 ·have hy:(aW s1 [125]).1=true:=by simpa using hy
  rw[aF hy]at hit;exact hK _ _ hit.symm M1 va vb w4 h4 hg4 he4 hL L1
theorem IR{E B:PS->R Nat}(hE:∀d,dl=d+1->EC w0 f 118 E d)(hB:∀d,dl=d+1->EC w0 f 32 B d)(hF:pZ E)(hFB:DF B):EC w0 f 32 (nY E B) dl:=by
 intro w p M vt s top N K h hg hK ht;refine TP ?_;unfold W32;have hN:=hg.hN;refine sZ rfl λb1 w1 hb1 hz1 hbb1 hx1=>?_;have h1:=h.ext hx1;have L1:=h.loc hz1 hb1 hbb1;unfold nY at hK ht;refine L1.ld rfl ?_;refine vA h1 hg.ws hN hg.l (λt s1 et w2 h2 he2=>?_) λc a' et=>ht c a' (by rw[et];rfl);rw[et]at hK ht;simp only[R.bind]at hK ht;obtain⟨hg1,hi1,_⟩:=hg.kind (by decide) et;have hks:=lH hg.ws 1 (by decide);have hkp:=mQ s 1;rw[et]at hks hkp;have hkp:=hkp.2 (by decide);have hkt:=congrArg List.length hks.1.1.toks;have L1:=L1.eff he2;have he2:=(Eff.ext hx1).trans he2;have lt1:=L1.lt;have hw2:=he2.chg.size;refine bN λb3 w3 hb3 hz3 hbb3 hx3=>?_;have h3:=h2.ext hx3;have L3:=h2.loc hz3 hb3 hbb3;have L1:=L1.ext hx3;refine cL (l:=eK t) L3.1 rfl rfl rfl λw4 hz4 hbb4 hc4=>?_;have L3:Loc w0 w4 p f M vt b3 TkT (eK t):=⟨hbb4,L3.2.up (by omega)⟩;have h4:=h3.one hc4 L3.2;have L1:=L1.one hc4 (by omega);have he4:=(he2.x hx3).one hc4 (by omega);refine L3.ldf rfl ?_;refine L3.ldf rfl ?_;simp only[dJ,eA,dQ,aA,aC,aR,aV,Nat.reduceAdd,Nat.reduceLT,dB,aY];refine bN λb4 w5 hb4 hz5 hbb5 hx5=>?_;have h5:=h4.ext hx5;have L4:=h4.loc hz5 hb4 hbb5;have L1:=L1.ext hx5;refine cL (l:=[str t.t,.slice none 0 0,.slice none 0 0,.slice none 0 0,i64 t.a]) L4.1 rfl rfl rfl λw6 hz6 hbb6 hc6=>?_;have L4:Loc w0 w6 p f M vt b4 BkT [str t.t,.slice none 0 0,.slice none 0 0,.slice none 0 0,i64 t.a]:=⟨hbb6,L4.2.up (by omega)⟩;have h6:=h5.one hc6 L4.2;have L1:=L1.one hc6 (by omega);have he6:=(he4.x hx5).one hc6 (by omega);have hw6:=he6.chg.size;obtain⟨B1,hB1⟩:∃B1,B1=w6.heap.size:=⟨_,rfl⟩;have hL:BL w0 w6 p f M vt B1 b4 t.t t.a (.slice none 0 0) (.slice none 0 0) (.slice none 0 0) [] [] []:=
  ⟨L4,Ro.nil _ _,Ro.nil _ _,Ro.nil _ _,λk hk=>by simp[Value.ownBlock]at hk,λk hk=>by simp[Value.ownBlock]at hk,λk hk=>by simp[Value.ownBlock]at hk,by omega,by omega⟩
 have hb14:b1<B1/\b1≠b4:=⟨by omega,by omega⟩;have hwB:w.heap.size<=B1:=by omega
 have hw4:w.heap.size<=b4:=by omega
 clear L3 L4 h2 h3 h4 h5 he2 he4;generalize hR:kB (s.toks.length+1) s1 []=R0 at hK ht;refine dD.go (λst w'=>st=[]/\∃s2 M1 ls vl n,PR w0 w' p f M1 vt s2 top/\Gd N s2 dl/\Eff p f M M1 w w'/\Loc w0 w' p f M1 vt b1 PpT [.pointer (some ⟨p,0,none⟩)]/\BL w0 w' p f M1 vt B1 b4 t.t t.a vl (.slice none 0 0) (.slice none 0 0) ls [] []/\kB n s2 ls=R0/\s2.toks.length<n+s2.i/\ls.length<=s2.i/\s2.toks.length=s.toks.length/\Syn.phi s2+1<=Syn.phi s) (λ_ w'=>s.toks.length-xL w' p)
  ⟨rfl,s1,M,[],_,s.toks.length+1,h6,hg1,he6,L1,hL,hR,by have:=hg1.ws.lt;omega,by simp,hkt,hkp⟩ ?_
 clear hL L1 h6 he6;rintro st g w7 ⟨rfl,s2,M1,ls,vl,n,h7,hg7,he7,L1,hL,hla,hn,hll,htl,hph⟩;have hlt7:=hg7.ws.lt;obtain⟨n,rfl⟩:∃m,n=m+1:=⟨n-1,by omega⟩;simp only[kB]at hla;refine L1.ld rfl ?_;refine mG h7 hg7.ws hN hg7.l λw8 h8 he8=>?_;have L1:=L1.eff he8;have hL:=hL.eff he8;have he8:=he7.trans he8;have hgn:=hg7.now;refine⟨i64 (cur s2).k,rfl,?_⟩;dsimp only;rw[bI,aN];refine⟨λhk3=>?_,λhk3=>?_⟩
 ·rw[aF hk3]at hla;have htx:=hg7.tx hk3;have L1:=L1.drew;have hL:=hL.ext (bM w8);have h8:=h8.drew;have he8:=he8.x (bM w8);rw[bH,bO,aQ];refine hL.l4.ld rfl ?_;refine L1.ld rfl ?_;refine L1.ld rfl ?_;refine Hl h8 hgn.ws hN hgn.l λw9 h9 he9=>?_;rw[Jy]at h9;rw[kD];have L1:=L1.eff he9;have hL:=hL.eff he9;have he9:=he8.trans he9;refine⟨L1.ld rfl rfl,hL.l4.ld rfl rfl,?_⟩;have hgx:=hg7.next;refine Il h9 htx.1 (by omega) (λl s3 el w10 hx10=>?_) λc a' el=>ht c a' (by rw[<-hla,el];rfl);have e3:=Gd.plain (N:=N) el;subst e3;rw[el]at hla;simp only[R.bind]at hla;have L1:=L1.ext hx10;have hL:=hL.ext hx10;have h10:=h9.ext hx10;have he10:=he9.x hx10;refine⟨hL.l4.ld rfl rfl,?_⟩;refine sA λr w11 hr hz11 hrb hx11=>?_;have L1:=L1.ext hx11;have hL:=hL.ext hx11;have he11:=he10.x hx11;have hw11:=he11.chg.size;refine⟨hL.l4.ld rfl rfl,?_⟩;have few:=hg7.few;refine hL.appL (h10.ext hx11) hrb (by omega) λvl' w12 hL12 h12 hc12 hl12 hv12=>?_;have L1:=hl12 _ _ _ L1 hb14.2 λe=>by have:=hL.rL.new _ e;have:=hb14.1;omega
  have ng:=qJ hg7.ws;have ngt:=congrArg List.length ng.1.toks;have ngi:=ng.2.1 (by rw[hk3];decide);have ngl:=hgx.ws.lt;have nph:=(sO s2).1;refine⟨⟨rfl,fB s2,M1,ls++[l],vl',n,h12,hgx,he11.then hc12 λk hk e=>?_,L1,hL12,hla,by omega,by rw[aB,aA,aC];omega,by omega,by omega⟩,?_⟩
  ·rcases e with e|e
   ·have:=hL.rL.new k e;omega
   ·omega
  ·rw[h12.at_,h7.at_];omega
 ·rw[aD hk3]at hla;rw[<-hla]at hK ht;simp only at hK ht;simp only[gH,kD,fW]at hK ht;refine L1.ld rfl ?_;refine mG h8 hgn.ws hN hgn.l λw9 h9 he9=>?_;rw[fW]at h9;rw[kD];have L1:=L1.eff he9;have hL:=hL.eff he9;have he9:=he8.trans he9;refine bN λb5 w10 hb5 hz10 hbb10 hx10=>?_;have h10:=h9.ext hx10;have L5:=h9.loc hz10 hb5 hbb10;have fr:=hL.fresh (k:=b5) (by omega);have lt1:=L1.lt;have hw9:=he9.chg.size;refine cL (l:=eK (cur s2)) L5.1 rfl rfl rfl λw11 hz11 hbb11 hc11=>?_;have L5:Loc w0 w11 p f M1 vt b5 TkT (eK (cur s2)):=⟨hbb11,L5.2.up (by omega)⟩;have h11:=h10.one hc11 L5.2;have L1:=(L1.ext hx10).one hc11 (by omega);have hL:=(hL.ext hx10).one hc11 fr.1 fr.2.1 fr.2.2.1 fr.2.2.2;have he11:=(he9.x hx10).one hc11 (by omega);refine cK.cut (λ_ w'=>PR w0 w' p f M1 vt (aM s2) top/\Eff p f M1 M1 w11 w'/\isS s2 [123]=true) ?_ ?_
  ·refine L1.ld rfl ?_;refine yZ h11 hgn λw12 h12 he12=>?_;rw[fW]at h12;rw[gH,iN,cU];refine⟨λhi=>?_,λhi=>⟨h12,he12,by simpa using hi⟩⟩;have hi:isS s2 [123]=false:=by simpa using hi
   refine(L5.eff he12).ldf rfl ?_;exact pI h12 (ht _ _ (by rw[aF hi]))
  rintro _ g2 w12 ⟨h12,he12,hi⟩;rw[aD (by rw[hi];decide)]at hK ht;have L1:=L1.eff he12;have L5:=L5.eff he12;have hL:=hL.eff he12;have he12:=he11.trans he12;refine L1.ld rfl ?_;refine L5.ldf rfl ?_;have hlev:=hgn.lev;refine nM h12 (by omega) (λhd=>ht 7 _ (by rw[rI hd])) λhd w13 h13 he13=>?_;obtain⟨d,rfl⟩:∃d,dl=d+1:=⟨dl-1,by omega⟩;rw[uO hd]at hK ht;obtain⟨q1,q2,q3,q4⟩:=hg7.sign hi false;have ntl:=congrArg List.length (eW hg7.ws).toks;refine jV (caps:=[.pointer (some ⟨b1,0,none⟩),.pointer (some ⟨b4,0,none⟩)]) ?_;have ph2:Syn.phi (aM s2)<=Syn.phi s2:=jD s2;have efuel:({aM s2 with deep:=(aM s2).deep+1,quiet:=false}:PS).toks.length+1=s.toks.length+1:=by show(aM s2).toks.length+1=_;omega
  have efuel2:(aM s2).toks.length+1=s.toks.length+1:=by omega
  refine ON (hE d rfl) (hB d rfl) hF hFB h13 q1 q3 q2 (hL.eff he13) (L1.eff he13) hb14 (he12.trans he13) hw4 hwB (λx s3 ex M3 va vb w14 h14 hg14 he14 hL14 L1=>?_) λc a' ex=>ht c a' ?_
  ·rw[efuel]at ex;rw[ex]at hK;simp only[R.bind]at hK;have g14l:=hg14.lev;refine⟨M3,s3,h14,by omega,λw15 h15 he15=>?_⟩;have L1:=(L1.eff he15).drew;have hL:=(hL14.eff he15).ext (bM w15);have h15:=h15.drew;have he15:=(he14.trans he15).x (bM w15);have hg15:Gd N {s3 with deep:=(aM s2).deep,quiet:=(aM s2).quiet} (d+1):=hgn.back hg14;generalize hs4:({s3 with deep:=(aM s2).deep,quiet:=(aM s2).quiet}:PS)=s4 at*
   have s4b:s4.bl=s3.bl:=by rw[<-hs4]
   have hbl:=hg15.ex.2;have hw15:=he15.chg.size;have cF:∀{w':World},w'.heap[p]?=some (.cells [vt,i64 (s4.i:Nat),i64 s4.off,.pointer (some ⟨f,0,none⟩),i64 (s4.deep:Nat),.bool s4.quiet].toArray PsT (0,0))->w'.cell? ((⟨p,0,none⟩:Addr).add 3)=some (.pointer (some ⟨f,0,none⟩)):=by
    intro w' h;rw[bO,cP,h,cM];rfl
   have cB:∀{w':World} {u v:Value} {r:List Value},w'.heap[f]?=some (.cells (u::v::r).toArray FlT (0,0))->w'.cell? ((⟨f,0,none⟩:Addr).add 1)=some v:=by
    intro w' u v r h;rw[bO,cP,h,cM];rfl
   have ld1:∀{w':World} {M':Lay},Loc w0 w' p f M' vt b1 PpT [.pointer (some ⟨p,0,none⟩)]->ldW false 1 (.pointer (some ⟨b1,0,none⟩)) w' λx=>x=.pointer (some ⟨p,0,none⟩):=λL=>L.ld rfl rfl;have use:∀k,M3.vB.ownBlock=some k->k∈M3.uses f:=λk hk=>aK _ (kF (v:=M3.vB) (by simp) hk);have nE:¬M3.vB.ownBlock=some p:=λe=>h15.np (use p e);have nF:¬M3.vB.ownBlock=some f:=λe=>by
    have hnd:=(GI M3 f).nodup_iff.1 h15.fr.nd;rw[jO]at hnd;exact hnd.1 (dI _ (fX.2 e))
   have n1:¬M3.vB.ownBlock=some b1:=λe=>L1.2.2.2.1 (use b1 e);refine L1.ld rfl ?_;rw[dZ,bH,eC];refine⟨_,cF h15.ps,?_⟩;refine L1.ld rfl ?_;rw[dZ,bH,eC];refine⟨_,cF h15.ps,?_⟩;rw[dZ,bH,eC];refine⟨_,cB h15.fr.hf,?_⟩;refine fY hL.l4.1 rfl ?_;refine zJ rfl rfl λr w16 hr hz16 hrb hx16=>?_;have h16:=h15.ext hx16;have L16:=L1.ext hx16;refine⟨by rw[eC];exact⟨_,cB h16.fr.hf,rfl⟩,by rw[eC];exact⟨_,cF h16.ps,rfl⟩,ld1 L16,by rw[eC];exact⟨_,cF h16.ps,rfl⟩,ld1 L16,?_⟩;have hc0:Chg (λk=>M3.vB.ownBlock=some k) w15.drew w16:=Chg.of_ext hx16;obtain⟨lp,lc,el1,_⟩:=hL.rL.own.sl.shape;obtain⟨ap,ac,ea1,_⟩:=hL.rA.own.sl.shape;obtain⟨bp,bc,eb1,_⟩:=hL.rB.own.sl.shape;refine mA UN h16.fr.oB (oY (n:=1) (T:=BkT) hrb) rfl (λu hu=>by
    simp only[bC,dH,mD]at hu;rcases hu with rfl|rfl|rfl|rfl|rfl
    ·rfl
    ·rw[el1];rfl
    ·rw[ea1];rfl
    ·rw[eb1];rfl
    ·rfl) (by omega) (by omega) h16.base λv' w17 hO17 hc17 hv17=>?_
   have hp17:=hc17.at h16.ps nE;have hf17:=hc17.at h16.fr.hf nF;refine⟨by rw[eC];exact⟨_,cF hp17,rfl⟩,ld1 (M':=M3) ⟨hc17.at L16.1 n1,L16.2.up hc17.size⟩,?_⟩;rw[dZ,bH,bO,aQ];obtain⟨vp,vc,ev,_⟩:=hO17.sl.shape;refine qA hf17 (by rw[ev];rfl) (by simp) λw18 hz18 hf18 hc18=>?_;have L18:Loc w0 w17 p f M3 vt b1 PpT [.pointer (some ⟨p,0,none⟩)]:=⟨hc17.at L16.1 n1,L16.2.up hc17.size⟩;have nf1:b1≠f:=λe=>L16.2.2.2.1 (e▸aX);have L19:=L18.one hc18 nf1;have hzx:=hx16.size;have hub:∀k,k∈ub [str t.t,vl,va,vb,i64 t.a]↔vl.ownBlock=some k\/va.ownBlock=some k\/vb.ownBlock=some k:=λk=>by
    rw[show [str t.t,vl,va,vb,i64 t.a]=[str t.t]++([vl]++([va]++([vb]++[i64 t.a])))from rfl];simp only[sC,bQ,fX];simp[Value.ownBlock]
   have hnd:(ub [str t.t,vl,va,vb,i64 t.a]).Nodup:=by
    rw[show [str t.t,vl,va,vb,i64 t.a]=[str t.t]++([vl]++([va]++([vb]++[i64 t.a])))from rfl];simp only[sC];rw[show ub [str t.t]=[]from rfl,show ub [i64 t.a]=[]from rfl,cI,cH];refine fL.2 ⟨lK _,fL.2 ⟨lK _,lK _,λx hx y hy e=>by subst e;exact hL.d3 x (fX.1 hx) (fX.1 hy)⟩,λx hx y hy e=>?_⟩;subst e;rcases bQ.1 hy with hy|hy
    ·exact hL.d1 x (fX.1 hx) (fX.1 hy)
    ·exact hL.d2 x (fX.1 hx) (fX.1 hy)
   obtain⟨h20,he20⟩:=h15.putB (w1:=w17) (w2:=w18) (v':=v') he15 (e:=⟨t.t,ls,x.1,x.2,t.a⟩) ⟨vl,va,vb,rfl,hL.rL.own,hL.rA.own,hL.rB.own⟩ (λk hk=>by
    rcases(hub k).1 hk with e|e|e
    ·exact hL.rL.off k e
    ·exact hL.rA.off k e
    ·exact hL.rB.off k e) hnd (λk hk=>by
    rcases(hub k).1 hk with e|e|e
    ·have:=hL.rL.new k e;omega
    ·have:=hL.rA.new k e;omega
    ·have:=hL.rB.new k e;omega) hO17 (hc0.trans hc17) (λk hk=>(hv17 k hk).imp id λe=>by omega) hc18 (by rw[hf18];simp)
   refine L19.ld rfl ?_;rw[dZ,bH,eC];refine⟨_,cF h20.ps,?_⟩;rw[dZ,bH,eC];refine⟨_,cB h20.fr.hf,?_⟩;dsimp only;rw[ev,AZ,nZ,dF (by omega) (by omega)];have e1:((s4.bl.length+1:Nat):Int)-1=(s4.bl.length:Nat):=by omega
   rw[e1];subst hs4;exact hK _ _ rfl _ w18 h20 he20
  ·rw[efuel]at ex;rw[ex];rfl
theorem HD:DF dead:=⟨Gm,vJ⟩
theorem AC(d:Nat):DF (pY d):=⟨λN=>Aq N d,Gw d⟩
theorem Gx(hS:vQ w0 f):∀dl,EC w0 f 32 (pY dl) dl
 |0=>IR (λd e=>by omega) (λd e=>by omega) sW HD
 |d+1=>by
  have ih:=Gx hS d
  refine IR (λd' e=>?_) (λd' e=>?_) (Cd d).1 (AC d)
  ·have e:d'=d:=by omega
   subst e;exact(IG hS d').1
  ·have e:d'=d:=by omega
   subst e;exact ih
end
theorem IW(v:Value)(w:World):(Instr.typeAssert (.iface DT v) 20 DT false).run P0 w=.ok v w:=by kernel_rfl
theorem Lt(w:World)(K:Value->Prop):eqQ P0 .neq 20 false true .nilIface .nilIface w K↔K (.bool false):=by
 have h:(do eqGuard .neq 20 (Ax false) (Ax true) .nilIface .nilIface;binOp .neq 20 .nilIface .nilIface:Sem Value).run P0 w=.ok (.bool false) w:=by kernel_rfl
 unfold eqQ Bq;rw[h];exact⟨λ⟨v,h1,h2⟩=>by cases h1;exact h2,λh2=>⟨_,rfl,h2⟩⟩
theorem Hk(v:Value)(w:World)(K:Value->Prop):eqQ P0 .neq 20 false true (.iface DT v) .nilIface w K↔K (.bool true):=by
 have h:(do eqGuard .neq 20 (Ax false) (Ax true) (.iface DT v) .nilIface;binOp .neq 20 (.iface DT v) .nilIface:Sem Value).run P0 w=.ok (.bool true) w:=by kernel_rfl
 unfold eqQ Bq;rw[h];exact⟨λ⟨v,h1,h2⟩=>by cases h1;exact h2,λh2=>⟨_,rfl,h2⟩⟩
theorem KO{a b:Value}{K:World->Prop}(hK:K w):AN P0 29 [a,b] .returning w K:=by
 letI:=noX;refine MG .idle ?_;unfold R29;rw[Lt,cQ];exact hK
theorem GX{a b d:Nat}{Ta Tb:TypeId}{K:World->Prop}(ha:w.heap[a]?=some (.cells cs.toArray Ta (0,0)))(hl:cs.length=3)(hb:w.heap[b]?=some (.cells [v].toArray Tb (0,0)))(hab:a≠b)
  (hK:∀w',Chg (λk=>k=a\/k=b) w w'->w'.heap[a]?=some (.cells [.slice none 0 0,.slice none 0 0,.slice none 0 0].toArray Ta (0,0))->w'.heap[b]?=some (.cells [.pointer (some ⟨d,0,none⟩)].toArray Tb (0,0))->K w'):
  AN P0 29 [.pointer (some ⟨a,0,none⟩),.pointer (some ⟨b,0,none⟩)] (.panicking [{v:=.iface DT (.pointer (some ⟨d,0,none⟩)),recovered:=false}]) w K:=by
 letI:=noX;refine MG (.thrown _) ?_;unfold R29;rw[Hk,fP,dQ];refine⟨_,IW _ _,?_⟩;refine cL (l:=[.slice none 0 0,.slice none 0 0,.slice none 0 0]) (w:=w.drew) ha rfl hl rfl λw2 hz2 ha2 hc2=>?_;refine⟨⟨_,IW _ _,rfl⟩,?_⟩;have hb2:=hc2.at (w:=w.drew) hb (λe=>hab e.symm);refine qA hb2 rfl (by simp) λw3 hz3 hb3 hc3=>?_;refine hK w3 ?_ (hc3.at ha2 hab) (by rw[hb3];simp);exact((Chg.drew (Chg.refl _ w)).trans (hc2.mono λk _ e=>.inl e)).trans (hc3.mono λk _ e=>.inr e)
structure FO(w:World)(B:Nat)(M:Lay)(fl:Fl):Prop where
 oE:Own w B ExT 5 M.vE fl.ex.length M.cE
 oB:Own w B BkT 5 M.vB fl.bl.length M.cB
 oT:Own w B gS 1 M.vT fl.top.length (ints fl.top)
 ee:nH (ExR w B) 5 fl.ex M.cE
 bb:nH (BkR w B) 5 fl.bl M.cB
 nd:(ub ([M.vE,M.vB,M.vT]++(M.cE++M.cB))).Nodup
 lt:∀k∈ub ([M.vE,M.vB,M.vT]++(M.cE++M.cB)),k<w.heap.size
 lo:∀k∈ub ([M.vE,M.vB,M.vT]++(M.cE++M.cB)),B<=k
theorem FR.out{B f:Nat}{M:Lay}{ex:List Ex}{bl:List Blk}{top:List Nat}(h:FR w B f M ex bl top):FO w B M ⟨ex,bl,top⟩:=by
 have hn:=h.nd;unfold Lay.uses at hn;rw[jO]at hn;exact⟨h.oE,h.oB,h.oT,h.ee,h.bb,hn.2,λk hk=>h.lt k (aK _ hk),λk hk=>(h.lo k (aK _ hk)).resolve_left λe=>hn.1 (e▸hk)⟩
theorem FO.keep{B:Nat}{M:Lay}{fl:Fl}(h:FO w B M fl)(hc:Chg S w w')(hS:∀k,B<=k->k<w.heap.size->k∈ub ([M.vE,M.vB,M.vT]++(M.cE++M.cB))->¬S k):FO w' B M fl:=by
 have hu:∀v∈[M.vE,M.vB,M.vT]++(M.cE++M.cB),∀k,v.ownBlock=some k->¬S k:=λv hv k hk=>hS k (h.lo k (kF hv hk)) (h.lt k (kF hv hk)) (kF hv hk);refine⟨iG h.oE hc (hu _ (by simp)),iG h.oB hc (hu _ (by simp)),iG h.oT hc (hu _ (by simp)),?_,?_,h.nd,λk hk=>bX (h.lt k hk) hc.size,h.lo⟩
 ·refine h.ee.imp λx d hd hx=>hx.at_ hc λk hk=>?_;obtain⟨v,hv,hk⟩:=fT.1 hk;exact hu v (by simp[hd v hv]) k hk
 ·refine h.bb.imp λx d hd hx=>hx.at_ hc λk hk=>?_;obtain⟨v,hv,hk⟩:=fT.1 hk;exact hu v (by simp[hd v hv]) k hk
theorem ExR.low{B B':Nat}{e:Ex}{d:List Value}(h:ExR w B e d)(hb:B'<=B):ExR w B' e d:=by
 obtain⟨va,vk,e1,h1,h2⟩:=h;exact⟨va,vk,e1,h1.base hb,h2.base hb⟩
theorem BkR.low{B B':Nat}{e:Blk}{d:List Value}(h:BkR w B e d)(hb:B'<=B):BkR w B' e d:=by
 obtain⟨vl,va,vk,e1,h1,h2,h3⟩:=h;exact⟨vl,va,vk,e1,h1.base hb,h2.base hb,h3.base hb⟩
theorem FO.low{B B':Nat}{M:Lay}{fl:Fl}(h:FO w B M fl)(hb:B'<=B):FO w B' M fl:=
 ⟨h.oE.base hb,h.oB.base hb,h.oT.base hb,h.ee.imp λx d _ hx=>hx.low hb,h.bb.imp λx d _ hx=>hx.low hb,h.nd,h.lt,λk hk=>bZ hb (h.lo k hk)⟩
section
variable{w0 w w1 w2:World}{p f:Nat}{M:Lay}{vt:Value}{s:PS}{top:List Nat}
theorem GG(M:Lay)(f:Nat):(M.uses f).Perm (f::(ub [M.vT]++ub ([M.vE,M.vB]++(M.cE++M.cB)))):=by
 rw[tB];intro a;unfold Lay.uses;simp only[sC,jH,AM];rw[tE M.vE,tE M.vB,tE M.vE [M.vB]];simp only[jH];omega
theorem PR.putT(h:PR w0 w p f M vt s top){x:Nat}{v':Value}(hO:Own w1 w0.heap.size gS 1 v' (top.length+1) (ints top++[i64 (x:Nat)]))(hc1:Chg (λk=>M.vT.ownBlock=some k) w w1)(hv:∀k,v'.ownBlock=some k->M.vT.ownBlock=some k\/w.heap.size<=k)
  (hc2:Chg (One f) w1 w2)(hf:w2.heap[f]?=some (.cells [M.vE,M.vB,v'].toArray FlT (0,0))):PR w0 w2 p f {M with vT:=v'} vt s (top++[x]):=by
 have hb:=h.base;have pT:=GG M f;have use:∀k,M.vT.ownBlock=some k->k∈M.uses f:=λk hk=>aK _ (kF (v:=M.vT) (by simp) hk);have hnd0:=pT.nodup_iff.1 h.fr.nd;have hnd:=hnd0;rw[jO,fL]at hnd;obtain⟨nf,_,nb,nab⟩:=hnd;have inU:∀k∈ub ([M.vE,M.vB]++(M.cE++M.cB)),k∈M.uses f:=λk hk=>pT.mem_iff.2 (aK _ (bV _ hk));have rest:∀k∈ub ([M.vE,M.vB]++(M.cE++M.cB)),M.vT.ownBlock≠some k/\k≠f/\k<w.heap.size:=λk hk=>
  ⟨λe=>nab k (fX.2 e) k hk rfl,λe=>nf (e▸bV _ hk),h.fr.lt k (inU k hk)⟩
 have c12:Chg (λk=>M.vT.ownBlock=some k\/k=f) w w2:=(hc1.mono λk _ e=>.inl e).trans (hc2.mono λk _ e=>.inr e);have sub:∀v∈[M.vE,M.vB]++(M.cE++M.cB),∀k,v.ownBlock=some k->¬(M.vT.ownBlock=some k\/k=f):=λv hv k hk e=>by
  have:=rest k (kF hv hk);exact e.elim this.1 this.2.1
 have hOf:∀k,v'.ownBlock=some k->k≠f:=λk hk e=>by
  subst e;rcases hv k hk with e|e
  ·exact nf (dI _ (fX.2 e))
  ·have:=vP h.fr.hf;omega
 have nE:M.vT.ownBlock≠some p:=λe=>h.np (use p e);have pf:p≠f:=λe=>h.np (e▸aX);have perm:=GG {M with vT:=v'} f;have hN:(f::(ub [v']++([]++ub ([M.vE,M.vB]++(M.cE++M.cB))))).Nodup:=Em (n:=w.heap.size) (a:=ub [M.vT]) hnd0 (λk hk=>h.fr.lt k (pT.mem_iff.2 hk)) (lK _) (λk hk=>(hv k (fX.1 hk)).imp (λe=>fX.2 e) id) List.nodup_nil λk hk=>by cases hk
 have hz:=c12.size;have mem:∀k∈({M with vT:=v'}:Lay).uses f,k=f\/v'.ownBlock=some k\/k∈ub ([M.vE,M.vB]++(M.cE++M.cB)):=λk hk=>by
  have hk:=perm.mem_iff.1 hk;rcases bC.1 hk with e|e
  ·exact .inl e
  rcases bQ.1 e with e|e
  ·exact .inr (.inl (fX.1 e))
  ·exact .inr (.inr e)
 refine⟨?_,⟨hf,?_,?_,?_,?_,?_,perm.nodup_iff.2 hN,λk hk=>?_,λk hk=>?_⟩,?_,?_,λe=>?_,h.lo,λk hk=>?_⟩
 ·refine h.ch.then c12 λk hk e=>?_;rcases e with e|e
  ·exact(h.fr.lo k (use k e)).resolve_right (by omega)
  ·exact e
 ·exact iG h.fr.oE c12 (sub _ (by simp))
 ·exact iG h.fr.oB c12 (sub _ (by simp))
 ·rw[aB,aA,aC,BR];exact iG hO hc2 λk hk e=>hOf k hk e
 ·refine h.fr.ee.imp λx d hd hx=>hx.at_ c12 λk hk=>?_;obtain⟨v,hv,hk⟩:=fT.1 hk;exact sub v (by simp[hd v hv]) k hk
 ·refine h.fr.bb.imp λx d hd hx=>hx.at_ c12 λk hk=>?_;obtain⟨v,hv,hk⟩:=fT.1 hk;exact sub v (by simp[hd v hv]) k hk
 ·rcases mem k hk with e|e|e
  ·rw[e];exact vP hf
  ·exact bX (pF hO e).1 hc2.size
  ·exact bX (rest k e).2.2 hz
 ·rcases mem k hk with e|e|e
  ·exact .inl e
  ·exact .inr (pF hO e).2
  ·exact h.fr.lo k (inU k e)
 ·exact c12.at h.ps λe=>e.elim nE pf
 ·exact vU h.tk c12 λk hk e=>by
   have:=(h.nt k hk).1;rcases e with e|e
   ·exact this (use k e)
   ·exact this (e▸aX)
 ·rcases mem p e with e|e|e
  ·exact pf e
  ·exact(hv p e).elim nE λe=>by have:=h.lt;omega
  ·exact h.np (inU p e)
 ·have ht:=h.nt k hk;refine⟨λe=>?_,ht.2.1,bX ht.2.2 hz⟩;rcases mem k e with e|e|e
  ·exact ht.1 (e▸aX)
  ·exact(hv k e).elim (λe=>ht.1 (use k e)) λe=>by omega
  ·exact ht.1 (inU k e)
end
def TabI(w:World):Prop:=∃m,w.cell? ⟨0,0,none⟩=some (.int .i64 m)
section
variable [HX]
def QY:Prop:=∀(w:World) (K:Q0) (s:Str),TabI w->s.length<=9223372036854775807->
 (∀l,iI s=.ok l->∀v w',Ext w w'->gE w' TkT v l.length (toks l)->(∀k,v.ownBlock=some k->w.heap.size<=k/\k<w'.heap.size)->K (.tuple #[v,.pointer none]) w')->
 (∀c a,iI s=.bad c a->∀d w',Ext w w'->w.heap.size<=d->w'.heap[d]?=some (.cells [i64 c,str [],i64 a].toArray 48 (0,0))->K (.tuple #[.slice none 0 0,.pointer (some ⟨d,0,none⟩)]) w')->
 aI P0 28 [str s] w K
end
theorem TabI.chg{f:Nat}(h:TabI w)(hc:Chg (Of f) w w')(hf:w.heap[f]?=some (.cells cs.toArray FlT (0,0)))(h0:∀m,cs[0]?≠some (.int .i64 m)):TabI w':=by
 obtain⟨m,h⟩:=h;refine⟨m,?_⟩;rw[cP]at h⊢;cases hx:w.heap[0]? with
 |none=>rw[hx]at h;cases h
 |some o=>
  rw[hc.at hx ?_]
  ·rw[hx]at h;exact h
  ·intro e;have e:0=f:=e;subst e;rw[hf,cM]at h;exact h0 m (by simpa using h)
theorem Lk[HX](hS:∀[HX],QY){t:Str}{K:Q0}(hT:TabI w)(hl:t.length<=9223372036854775807)
  (hok:∀fl,gD t=.ok fl->∀M w',Ext w w'->FO w' w.heap.size M fl->(fl.ex.length<=100000/\fl.bl.length<=100000/\fl.top.length<=100000)->K (.tuple #[.agg [M.vE,M.vB,M.vT].toArray,.pointer none]) w')
  (hbad:∀c a,gD t=.bad c a->∀d w',Ext w w'->w.heap.size<=d->w'.heap[d]?=some (.cells [i64 c,str [],i64 a].toArray 48 (0,0))->K (.tuple #[.agg [.slice none 0 0,.slice none 0 0,.slice none 0 0].toArray,.pointer (some ⟨d,0,none⟩)]) w'):
  aI P0 12 [str t] w K:=by
 refine Uc ?_;unfold W12;refine bN λf w1 hf hz1 hbb1 hx1=>?_;refine bN λbd w2 hbd hz2 hbb2 hx2=>?_;have hx02:=hx1.trans hx2;have hf2:=hx2.at hbb1 id;have hT2:TabI w2:=by
  obtain⟨m,h⟩:=hT;refine⟨m,?_⟩;rw[cP]at h⊢;cases hx:w.heap[0]? with
  |none=>rw[hx]at h;cases h
  |some o=>rw[hx02.at hx id];rw[hx]at h;exact h
 unfold gD at hok hbad;refine hS w2 _ t hT2 hl (λl hsc v w3 hx3 hv hvn=>?_) (λc a hsc d w3 hx3 hd hdb=>?_)
 ·rw[bK];refine⟨v,rfl,?_⟩;rw[bK];refine⟨.pointer none,rfl,?_⟩;have hbd3:=hx3.at hbb2 id;have hf3:=hx3.at hf2 id;refine qA hbd3 rfl (by simp) λw4 hz4 hbb4 hc4=>?_;have hbb4:w4.heap[bd]?=some (.cells [.pointer none].toArray 29 (0,0)):=by rw[hbb4];simp
  have hf4:=hc4.at hf3 (by omega);refine⟨.pointer none,by rw[cP,hbb4];rfl,?_⟩;show aS (.bool false) _ _;rw[cQ];have hx4:Ext w w4:=(hx02.trans hx3).new (hc4.mono λk _ e=>e) (by omega);have hlt4:=vP hf4;have hT4:TabI w4:=by
   obtain⟨m,h⟩:=hT;refine⟨m,?_⟩;rw[cP]at h⊢;cases hx:w.heap[0]? with
   |none=>rw[hx]at h;cases h
   |some o=>rw[hx4.at hx id];rw[hx]at h;exact h
  have hv4:gE w4 TkT v l.length (toks l):=vU hv hc4 λk hk e=>by have:=(hvn k hk).1;have e:k=bd:=e;omega
  letI inst:HX:=⟨λch x10=>AN P0 29 [.pointer (some ⟨f,0,none⟩),.pointer (some ⟨bd,0,none⟩)] (.panicking ch) x10 λw10=>
   ldW true 3 (.pointer (some ⟨f,0,none⟩)) w10 λr11=>
   ldW false 1 (.pointer (some ⟨bd,0,none⟩)) w10 λr12=>
   K (.tuple #[r11,r12]) w10⟩
  have hSC:vQ w4 f:=λw' KK s hc hsl h1 h2=>hS w' KK s (hT4.chg hc hf4 (by simp)) (by omega) h1 h2;have hThr:∀c a,(∀d w',Ext w w'->w.heap.size<=d->w'.heap[d]?=some (.cells [i64 c,str [],i64 a].toArray 48 (0,0))->K (.tuple #[.agg [.slice none 0 0,.slice none 0 0,.slice none 0 0].toArray,.pointer (some ⟨d,0,none⟩)]) w')->Thr w4 f c a:=by
   intro c a hb d w' cs hc hd hcs hcf hdb;have hzc:=hx4.size;refine GX hcf hcs (hc.at hbb4 (by show¬bd=f;omega)) (by omega) λw5 hc5 ha5 hb5=>?_;refine fY ha5 rfl ?_;refine⟨_,by rw[cP,hb5];rfl,?_⟩;have hd':w4.heap.size<=d:=hd;have hzx3:=hx3.size;refine hb d w5 ?_ (by omega) (hc5.at hdb (by show¬(d=f\/d=bd);omega));refine(hx4.then hc λk hk e=>?_).then hc5 λk hk e=>?_
   ·have e:k=f:=e;omega
   ·omega
  obtain⟨q,cap,ev,_⟩:=hv.shape;subst ev;simp only[iA,dJ,Ef,dQ,aA,aC,aR,aV,Nat.reduceAdd,Nat.reduceLT,dB,aY];refine iS (z:=[.slice q l.length cap,i64 0,i64 0,.pointer (some ⟨f,0,none⟩),i64 0,.bool false]) λp w5 hp hz5 hpb hx5=>?_;have hzx3:=hx3.size;have hf5:=hx5.at hf4 id;have hbd5:=hx5.at hbb4 id;let M0:Lay:=⟨.slice none 0 0,.slice none 0 0,.slice none 0 0,[],[]⟩;have huse:M0.uses f=[f]:=rfl;have hPR:PR w4 w5 p f M0 (.slice q l.length cap) ⟨l,0,0,0,false,[],[]⟩ []:=
   ⟨Chg.of_ext hx5,⟨hf5,⟨by simp[M0],.inl ⟨rfl,rfl⟩⟩,⟨by simp[M0],.inl ⟨rfl,rfl⟩⟩,⟨by simp[ints],.inl ⟨rfl,rfl⟩⟩,nH.nil _ _,nH.nil _ _,by rw[huse];simp,by rw[huse];intro k hk;simp only[aU]at hk;omega,by rw[huse];intro k hk;simp only[aU]at hk;exact .inl hk⟩,
    hpb,hv4.ext hx5,by rw[huse];simp only[aU];omega,by omega,λk hk=>by
     have hb:=hvn k hk;rw[huse];simp only[aU];omega⟩
  have htg:=AR (N:=(t.length:Nat)) (off:=0) hsc (kT _) (by omega);have hfew:=sM hsc;have hwt:=DU hsc;have hg0:Gd (t.length:Nat) ⟨l,0,0,0,false,[],[]⟩ 24:=⟨⟨htg,gW.2 htg.ne,by omega⟩,by omega,hfew.1,AQ hsc,by unfold Syn.phi;simp only[aC,bJ];omega,rfl⟩;rw[hsc]at hok hbad;simp only at hok hbad;have hN:=hg0.hN;refine wJ hPR hg0.ws hN hg0.l λw6 h6 he6=>?_;have hg1:=hg0.lines;have et1:=congrArg List.length (kK hg0.ws).1.toks;generalize hR:tG (l.length+1) (dG ⟨l,0,0,0,false,[],[]⟩) []=R0 at hok hbad;have hbdk:∀{w':World},Chg (Of f) w4 w'->w'.heap[bd]?=some (.cells [.pointer none].toArray 29 (0,0)):=λhc=>hc.at hbb4 (by show¬bd=f;omega);refine dD.go (λst w'=>st=[]/\∃s1 M1 top n,PR w4 w' p f M1 (.slice q l.length cap) s1 top/\Gd (t.length:Nat) s1 24/\tG n s1 top=R0/\s1.toks.length<n+s1.i/\top.length<=s1.i/\s1.toks.length=l.length) (λ_ w'=>l.length-xL w' p)
   ⟨rfl,_,M0,[],l.length+1,h6,hg1,hR,by rw[et1];show l.length<_;omega,by simp,by rw[et1]⟩ ?_
  rintro st g w7 ⟨rfl,s1,M1,top,n,h7,hg7,htop,hn,htl,htk⟩;have hlt7:=hg7.ws.lt;obtain⟨n,rfl⟩:∃m,n=m+1:=⟨n-1,by omega⟩;simp only[tG]at htop;have hgn:=hg7.now;have ng:=eW hg7.ws;have ngt:=congrArg List.length ng.toks;have ngi:=ng.le;refine mG h7 hg7.ws hN hg7.l λw8 h8 he8=>?_;refine⟨i64 (cur s1).k,rfl,?_⟩;dsimp only;rw[gL,aN];refine⟨λhk0=>?_,λhk0=>?_⟩
  ·have hk0:(cur s1).k≠0:=hk0;rw[aD hk0]at htop;have h8:=h8.drew;rw[bH,eC];refine⟨M1.vT,by rw[bO,cP,h8.fr.hf,cM];rfl,?_⟩;refine Gx hSC 24 w8.drew p M1 _ _ top _ _ h8 hgn (λx s2 ex M2 w9 h9 he9=>?_) λc a' ex=>hThr c a' (hbad c a' (by rw[<-htop,ex];rfl));rw[ex]at htop;simp only[R.bind]at htop;obtain⟨hg9,hi9,ht9⟩:=hgn.bk (AC 24) ex;have ht9:=congrArg List.length ht9;have eT:=he9.hT;have ldT:∀{w':World},w'.heap[f]?=some (.cells [M2.vE,M2.vB,M2.vT].toArray FlT (0,0))->ldW false 1 (.pointer (some ((⟨f,0,none⟩:Addr).add 2))) w' λx=>x=M1.vT:=λh=>by
    rw[eC];exact⟨M2.vT,by rw[bO,cP,h,cM];rfl,eT⟩
   refine⟨ldT h9.fr.hf,?_⟩;refine jC λr w10 hr hz10 hrb hx10=>?_;have h10:=h9.ext hx10;refine⟨ldT h10.fr.hf,?_⟩;have few:=hg7.few;have hzx:=hx10.size;have nF:¬M2.vT.ownBlock=some f:=λe=>by
    have hnd:=(GG M2 f).nodup_iff.1 h10.fr.nd;rw[jO]at hnd;exact hnd.1 (dI _ (fX.2 e))
   rw[<-eT];refine mA Ak h10.fr.oT (oY (n:=1) (T:=gS) hrb) rfl (λu hu=>by simp only[aU]at hu;subst hu;rfl) (by omega) (by omega) h10.base λv' w11 hO11 hc11 hv11=>?_;have hf11:=hc11.at h10.fr.hf nF;rw[bH,bO,aQ];obtain⟨vp,vc,ev,_⟩:=hO11.sl.shape;refine qA hf11 (by rw[ev];rfl) (by simp) λw12 hz12 hf12 hc12=>?_;have h12:=h10.putT (w1:=w11) (w2:=w12) (x:=x) hO11 hc11 hv11 hc12 (by rw[hf12];simp);have hg10:=hg9.now;have ng9:=eW hg9.ws;have ng9t:=congrArg List.length ng9.toks;have ng9i:=ng9.le;refine cK.cut (λ_ w'=>PR w4 w' p f {M2 with vT:=v'} (.slice q l.length cap) (aM s2) (top++[x])/\tG n (dG (aM s2)) (top++[x])=R0) ?_ ?_
   ·refine mG h12 hg9.ws hN hg9.l λw13 h13 he13=>?_;refine⟨i64 (cur s2).k,rfl,?_⟩;dsimp only;rw[gL];simp only[lI,gL,oG];intro g2;simp only[aE];rw[iW,cU];refine⟨λhb=>?_,λhb=>?_⟩
    ·have hb:(cur s2).k≠5/\(cur s2).k≠0:=by simpa using hb
     rw[aF hb]at htop;refine mG h13 hg10.ws hN hg10.l λw14 h14 he14=>?_;refine⟨i64 (cur (aM s2)).a,rfl,?_⟩;exact pI h14 (hThr 50 _ (hbad 50 _ (by rw[<-htop])))
    ·have hb:¬((cur s2).k≠5/\(cur s2).k≠0):=by simpa using hb
     rw[aD hb]at htop;exact⟨h13,htop⟩
   rintro _ g2 w13 ⟨h13,htop⟩;refine wJ h13 hg10.ws hN hg10.l λw14 h14 he14=>?_;have lg:=kK hg10.ws;have lgt:=congrArg List.length lg.1.toks;have lgi:=lg.1.le;have hgl:=hg10.lines;have hltl:=hgl.ws.lt;refine⟨⟨rfl,dG (aM s2),_,top++[x],n,h14,hgl,htop,by omega,by rw[aB,aA,aC];omega,by omega⟩,?_⟩;rw[h14.at_,h7.at_];omega
  ·have hk0:(cur s1).k=0:=by
    by_cases h:(cur s1).k=0
    ·exact h
    ·exact absurd h hk0
   rw[aF hk0]at htop;refine fY h8.fr.hf rfl ?_;obtain⟨ep,ec,e1,_⟩:=h8.fr.oE.sl.shape;obtain⟨bp,bc,e2,_⟩:=h8.fr.oB.sl.shape;obtain⟨tp,tc,e3,_⟩:=h8.fr.oT.sl.shape;refine cL (l:=[M1.vE,M1.vB,M1.vT]) h8.fr.hf rfl rfl (by rw[e1,e2,e3];rfl) λw9 hz9 hf9 hc9=>?_;have hc49:Chg (Of f) w4 w9:=h8.ch.trans (hc9.mono λk _ e=>e);refine qA (hbdk hc49) rfl (by simp) λw10 hz10 hbd10 hc10=>?_;have hf10:=hc10.at hf9 (by omega);refine KO ?_;refine fY hf10 rfl ?_;refine⟨.pointer none,by rw[cP,hbd10];rfl,?_⟩;have hFO:=h8.fr.out;have hFO:=hFO.keep hc9 λk hk hlt hu e=>by have e:k=f:=e;omega
   have hFO:=hFO.keep hc10 λk hk hlt hu e=>by have e:k=bd:=e;omega
   have hzc:=hx4.size;rw[<-htop]at hok;have few:=hg7.few;refine hok _ rfl M1 w10 ?_ (hFO.low hzc) ⟨hgn.ex.1,hgn.ex.2,by show top.length<=_;omega⟩;refine(hx4.then hc49 λk hk e=>?_).then hc10 λk hk e=>?_
   ·have e:k=f:=e;omega
   ·have e:k=bd:=e;omega
 ·rw[bK];refine⟨.slice none 0 0,rfl,?_⟩;rw[bK];refine⟨.pointer (some ⟨d,0,none⟩),rfl,?_⟩;have hbd3:=hx3.at hbb2 id;have hf3:=hx3.at hf2 id;refine qA hbd3 rfl (by simp) λw4 hz4 hbb4 hc4=>?_;have hbb4:w4.heap[bd]?=some (.cells [.pointer (some ⟨d,0,none⟩)].toArray 29 (0,0)):=by rw[hbb4];simp
  have hf4:=hc4.at hf3 (by omega);refine⟨.pointer (some ⟨d,0,none⟩),by rw[cP,hbb4];rfl,?_⟩;show aS (.bool true) _ _;rw[fP,dQ];refine⟨.pointer (some ⟨d,0,none⟩),by rw[cP,heap_drew,hbb4];rfl,?_⟩;refine cL (w:=w4.drew) (l:=[.slice none 0 0,.slice none 0 0,.slice none 0 0]) hf4 rfl rfl rfl λw5 hz5 hf5 hc5=>?_;have hbb5:=hc5.at (w:=w4.drew) hbb4 (by omega);refine⟨⟨.pointer (some ⟨d,0,none⟩),by rw[cP,hbb5];rfl,rfl⟩,?_⟩;refine qA hbb5 rfl (by simp) λw6 hz6 hbb6 hc6=>?_;have hf6:=hc6.at hf5 (by omega);refine fY hf6 rfl ?_;refine⟨.pointer (some ⟨d,0,none⟩),by rw[cP,hbb6];rfl,?_⟩;have hx3':=hx02.trans hx3;have hd4:=hc4.at hdb (by omega);have hd5:=hc5.at (w:=w4.drew) hd4 (by omega);refine hbad c a (by rw[hsc]) d w6 ?_ (by omega) (hc6.at hd5 (by omega));exact(((hx3'.new hc4 (by omega)).trans (bM w4)).new hc5 (by omega)).new hc6 (by omega)
abbrev cv(c:UInt8):Value:=.int .u8 (c.toNat:Nat)
theorem Ac(a c:UInt8):decide (((a.toNat:Nat):Int)<=((c.toNat:Nat):Int))=decide (a<=c):=by
 rw[decide_eq_decide,UInt8.le_iff_toNat_le];omega
theorem xP(a c:UInt8):decide (((c.toNat:Nat):Int)=((a.toNat:Nat):Int))=(c==a):=by
 rw[AO,decide_eq_true_iff,fI,<-mV];omega
section
variable [HX]
theorem uZ{K:Q0}(hK:K (.bool (eD c)) w):aI P0 108 [cv c] w K:=by
 refine Qw ?_;unfold VM;have e1:decide ((97:Int)<=((c.toNat:Nat):Int))=decide (97<=c):=Ac 97 c;have e2:decide (((c.toNat:Nat):Int)<=122)=decide (c<=122):=Ac c 122;have e3:decide ((65:Int)<=((c.toNat:Nat):Int))=decide (65<=c):=Ac 65 c;have e4:decide (((c.toNat:Nat):Int)<=90)=decide (c<=90):=Ac c 90;have e5:decide (((c.toNat:Nat):Int)=95)=(c==95):=xP 95 c;simp only[oF,uC,bI,e1,e2,e3,e4,e5];unfold eD at hK;generalize decide (97<=c)=a at*
 generalize decide (c<=122)=b at*
 generalize decide (65<=c)=d at*
 generalize decide (c<=90)=e at*
 generalize (c==95)=g at*
 cases a<;>cases b<;>cases d<;>cases e<;>cases g<;>
  (simp only[lI,mH,Iy,AG,oG,cY,jF,pD,kY,aE,lU,fJ];intros;exact hK)
theorem Be{K:Q0}(hK:K (.bool (eH c)) w):aI P0 110 [cv c] w K:=by
 refine Qs ?_;unfold VK;have e1:decide ((48:Int)<=((c.toNat:Nat):Int))=decide (48<=c):=Ac 48 c;have e2:decide (((c.toNat:Nat):Int)<=57)=decide (c<=57):=Ac c 57;simp only[oF,uC,e1,e2];unfold eH at hK;generalize decide (48<=c)=a at*
 generalize decide (c<=57)=b at*
 cases a<;>cases b<;>
  (simp only[lI,mH,Iy,AG,oG,cY,jF,pD,kY,aE,lU,fJ];intros;exact hK)
theorem wT{g:FuncId}{args:List Value}{K:Q0}(h:aI P g args w K):AE P (.func (.func g) #[] #[]) args w K:=jV (caps:=[]) (by rw[cH];exact h)
theorem OD{K:Q0}(hK:K (.bool (dM c)) w):aI P0 109 [cv c] w K:=by
 refine Qv ?_;unfold VL;refine uZ ?_;have e5:decide (((c.toNat:Nat):Int)=45)=(c==45):=xP 45 c;unfold dM at hK;simp only[mH,bI,e5];refine GdW.look (eH c) (λ_ J hJ=>Be hJ) λg=>?_;simp only[aE];rw[lV];simp only[mH,oG,aE];intro g2;rw[lV];exact hK
theorem OC{K:Q0}(hK:K (.bool (dM c)) w):aI P0 150 [cv c] w K:=by
 refine Qe ?_;unfold Vx;refine uZ ?_;have e5:decide (((c.toNat:Nat):Int)=45)=(c==45):=xP 45 c;unfold dM at hK;simp only[mH,bI,e5];refine GdW.look (eH c) (λ_ J hJ=>Be hJ) λg=>?_;simp only[aE];rw[lV];simp only[mH,oG,aE];intro g2;rw[lV];exact hK
theorem OI{K:Q0}(hK:K (.bool (c !=10)) w):aI P0 106 [cv c] w K:=by
 refine Qx ?_;unfold VN;rw[gL];have e:decide (((c.toNat:Nat):Int)≠10)=(c !=10):=by
  have e5:decide (((c.toNat:Nat):Int)=10)=(c==10):=xP 10 c;rw[bne,<-e5,decide_not]
 rw[e];exact hK
theorem Ig{q:UInt8->Bool}{fv:Value}{s:Str}{K:Q0}(hl:s.length<=1000000)(hq:∀c {w:World} {K:Q0},K (.bool (q c)) w->AE P0 fv [cv c] w K)(hK:K (i64 (cS q s:Nat)) w):aI P0 105 [str s,fv] w K:=by
 refine Qy ?_;unfold VO;rw[eQ];refine dD.go (λst w'=>∃i:Nat,st=[i64 (i:Nat)]/\i<=s.length/\w'=w/\i+cS q (s.drop i)=cS q s) (λst _=>match st with|[.int _ i]=>s.length-i.toNat|_=>0) ⟨0,rfl,by omega,rfl,by simp⟩ ?_;rintro st g w' ⟨i,rfl,hi,rfl,hr⟩;simp only[aE];rw[eL,aN];refine⟨λhlt=>?_,λhge=>?_⟩
 ·have hlt:i<s.length:=by omega
  rw[gP hlt]at hr;simp only[cS]at hr;refine qE hlt ?_;refine hq _ ?_;rw[iN,cU];refine⟨λhn=>?_,λhy=>?_⟩
  ·rw[aD (by simpa using hn),gF]at hr;rw[hr];exact hK
  ·rw[aF (by simpa using hy)]at hr;rw[bU,upi (by omega)];refine⟨⟨i+1,rfl,by omega,rfl,by omega⟩,?_⟩;simp only[aP];omega
 ·obtain rfl:i=s.length:=by omega
  rw[jY]at hr;simp only[cS,gF]at hr;rw[eQ,hr];exact hK
theorem BU{l:Str}{K:Q0}(hK:K (i64 (Lib.indexByte l c)) w):aI P0 104 [str l,cv c] w K:=by
 refine lG (args:=#[str l,cv c]) Tryz.call104 ((Tryz.strings_IndexByte (ofL l) (c.toNat:Nat) w).mono ?_);rintro e w' ⟨rfl,rfl⟩;refine⟨_,rfl,?_⟩;rw[eP];simpa using hK
theorem LQ{s:Str}{K:Q0}(hT:TabI w)(hl:s.length<=1000000)(hK:K (i64 (Lib.index s [42,47])) w):aI P0 107 [str s,str [42,47]] w K:=by
 obtain⟨m,hm⟩:=hT;refine lG (args:=#[str s,str [42,47]]) Tryz.call107 ((Tryz.strings_Index (ofL s) (ofL [42,47]) m w (by rw[gN];omega) hm).mono ?_);rintro e w' ⟨rfl,rfl⟩;rw[eP,eP];exact⟨_,rfl,hK⟩
end
theorem Tq(c:UInt8):decide (0<=Lib.indexByte [32,9,13] c)=(c==32||c==9||c==13):=by
 have:∀m:Fin 256,decide (0<=Lib.indexByte [32,9,13] (UInt8.ofNat m.val))=(UInt8.ofNat m.val==32||UInt8.ofNat m.val==9||UInt8.ofNat m.val==13):=by decide+kernel
 have h:=this ⟨c.toNat,oJ c⟩;rwa[mY]at h
theorem Wa(c:UInt8):decide (Lib.indexByte [34,92,110,116,114,36] c<0)=!Lex.escOk c:=by
 have:∀m:Fin 256,decide (Lib.indexByte [34,92,110,116,114,36] (UInt8.ofNat m.val)<0)=!Lex.escOk (UInt8.ofNat m.val):=by decide+kernel
 have h:=this ⟨c.toNat,oJ c⟩;rwa[mY]at h
theorem Rw(c:UInt8):decide (0<=Lib.indexByte [123,125,91,93,40,41,61,43,45,42,47,37,60,62,33,63,58,44,46] c)=zT.contains c:=by
 have:∀m:Fin 256,decide (0<=Lib.indexByte [123,125,91,93,40,41,61,43,45,42,47,37,60,62,33,63,58,44,46] (UInt8.ofNat m.val))=zT.contains (UInt8.ofNat m.val):=by decide+kernel
 have h:=this ⟨c.toNat,oJ c⟩;rwa[mY]at h
theorem CE(n:Nat)(c:UInt8)(r:Str):cZ (n+1) (c::r)=(if(c==32||c==9||c==13)=true then((cZ n r).1+1,(cZ n r).2)else if(c==35||Lib.hasPrefix (c::r) [47,47])=true then((cZ n ((c::r).drop (cS (λb=>b !=10) (c::r)))).1+cS (λb=>b !=10) (c::r),(cZ n ((c::r).drop (cS (λb=>b !=10) (c::r)))).2)
  else if Lib.hasPrefix (c::r) [47,42]=true then(if Lib.index (r.drop 1) [42,47]<0 then(0,40)else((cZ n ((c::r).drop ((Lib.index (r.drop 1) [42,47]).toNat+4))).1+((Lib.index (r.drop 1) [42,47]).toNat+4),(cZ n ((c::r).drop ((Lib.index (r.drop 1) [42,47]).toNat+4))).2))else(0,0)):=by
 simp only[cZ,eB,fI];rfl
theorem KL{q:UInt8->Bool}{r:Str}(h:q c=true):1<=cS q (c::r):=by simp only[cS];rw[aF h];omega
theorem add_add(i j:Nat)(x:Nat×Int):iT i (iT j x)=iT (i+j) x:=by
 unfold iT;by_cases h:x.2=0
 ·simp only[h,gY];rw[show x.1+j+i=x.1+(i+j)by omega]
 ·simp only[aD h]
section
variable [HX]
theorem Ru{s:Str}{K:Q0}(hT:TabI w)(hl:s.length<=1000000)(hK:K (.tuple #[i64 ((cZ (s.length+1) s).1:Nat),i64 (cZ (s.length+1) s).2]) w):aI P0 60 [str s] w K:=by
 refine TJ ?_;unfold W60;generalize hR:cZ (s.length+1) s=R0 at hK;refine dD.go (λst w'=>∃i n:Nat,st=[i64 (i:Nat)]/\i<=s.length/\w'=w/\((cZ n (s.drop i)).1+i,(cZ n (s.drop i)).2)=R0/\s.length<n+i) (λst _=>match st with|[.int _ i]=>s.length-i.toNat|_=>0) ⟨0,s.length+1,rfl,by omega,rfl,by rw[bJ,hR];rfl,by omega⟩ ?_;rintro st g w' ⟨i,n,rfl,hi,rfl,hr,hn⟩;obtain⟨n,rfl⟩:∃m,n=m+1:=⟨n-1,by omega⟩;simp only[aE];rw[eQ,eL,aN];refine⟨λhlt=>?_,λhge=>?_⟩
 ·have hlt:i<s.length:=by omega
  have hd:=gP hlt;rw[hd,CE]at hr;rw[fC,fR,eM];refine⟨by omega,by omega,?_⟩;rw[bP,aP];refine qE hlt ?_;refine BU ?_;rw[oF,Tq,cU];refine⟨λhb=>?_,λhb=>?_⟩
  ·rw[aF hb]at hr;rw[bU,upi (by omega)];refine⟨⟨i+1,n,rfl,by omega,rfl,?_,by omega⟩,?_⟩
   ·rw[<-hr];simp only[eY,oI];omega
   ·simp only[aP];omega
  rw[aD (by rw[hb];decide)]at hr;have hd':=hd;rw[hd];generalize hc:s[i]=c at*
  generalize hrr:s.drop (i+1)=r at*
  have hrl:(c::r).length=s.length-i:=by rw[<-hd,aJ]
  simp only[aA]at hrl;refine cK.cut (λst w2=>st=[.bool (c==35||Lib.hasPrefix (c::r) [47,47])]/\w2=w') ?_ ?_
  ·refine qE hlt ?_;rw[hc];have e5:decide (((c.toNat:Nat):Int)=35)=(c==35):=xP 35 c;rw[bI,e5,cU];refine⟨λh=>⟨by rw[h];rfl,rfl⟩,λh=>?_⟩;refine xN ?_;exact⟨by rw[h,qG],rfl⟩
  rintro st g2 w2 ⟨rfl,rfl⟩;simp only[aE];rw[cU];refine⟨λhcm=>?_,λhcm=>?_⟩
  ·rw[aF hcm]at hr;refine Ig (q:=λb=>b !=10) (by simp only[aA];omega) (λc {w K} h=>wT (OI h)) ?_;have hle:=pU (λb=>b !=10) (c::r);have hpos:1<=cS (λb=>b !=10) (c::r):=KL (by
    rw[eB]at hcm;rcases hcm with h|h
    ·rw[fI]at h;subst h;rfl
    ·simp only[Lib.hasPrefix,List.isPrefixOf,aZ,fI]at h;rw[<-h.1];rfl)
   simp only[aA]at hle;rw[bU,dF (by omega) (by omega)];generalize cS (λb=>b !=10) (c::r)=k at*
   refine⟨⟨i+k,n,by simp only[fF,Value.int.injEq,dB,oI];omega,by omega,rfl,?_,by omega⟩,?_⟩
   ·rw[<-hr,<-eX,hd'];simp only[eY,oI];omega
   ·simp only[aP];omega
  rw[aD (by rw[hcm];decide)]at hr;refine xN ?_;rw[cU];refine⟨λhcm2=>?_,λhcm2=>?_⟩
  ·rw[aF hcm2]at hr;rw[fC,fR,eM];have h2:2<=(c::r).length:=Eh (p:=[47,42]) (s:=c::r) hcm2;simp only[aA]at h2;refine⟨by omega,by simp only[aA];omega,?_⟩;rw[bP];show aI P0 107 [str (r.drop 1),str [42,47]] w2 _;refine LQ hT (by rw[aJ];omega) ?_;rw[eL,aN];refine⟨λhneg=>?_,λhpos=>?_⟩
   ·rw[aF hneg]at hr;rw[<-hr,aQ]at hK;exact hK
   ·rw[aD hpos]at hr;obtain⟨j,hj⟩:=Int.eq_ofNat_of_zero_le (show 0<=Lib.index (r.drop 1) [42,47]by omega);have hjl:=Ew _ _ hj;rw[aJ]at hjl;rw[hj]at hr⊢;rw[bU,dF (by omega) (by omega),bU,dF (by omega) (by omega)];rw[aP]at hr;refine⟨⟨i+(j+4),n,by simp only[fF,Value.int.injEq,dB,oI];omega,by omega,rfl,?_,by omega⟩,?_⟩
    ·rw[<-hr,<-eX,hd'];simp only[eY,oI];omega
    ·simp only[aP];omega
  ·rw[aD (by rw[hcm2];decide),aQ]at hr;rw[<-hr]at hK;exact hK
 ·obtain rfl:i=s.length:=by omega
  rw[jY]at hr;simp only[cZ,aQ]at hr;rw[<-hr]at hK;exact hK
def pG(x:Nat×Int):List Value:=if x.2=0 then [i64 ((x.1+1:Nat):Int),i64 0]else [i64 0,i64 x.2]
def TxC(n:Nat):Prop:=∀(c:UInt8) (r:Str) (d:Nat) (w:World) (K:Q0),r.length<n->r.length<=1000000->d<=24->K (.tuple (pG (dW r d)).toArray) w->aI P0 112 [str (c::r),i64 (d:Nat)] w K
def InC(n:Nat):Prop:=∀(c:UInt8) (r:Str) (d:Nat) (w:World) (K:Q0),r.length<n->r.length<=1000000->d<=25->K (.tuple (pG (if 24<d then(0,7)else hM r d)).toArray) w->aI P0 149 [str (c::r),i64 (d:Nat)] w K
theorem mS{x:Nat×Int}:pG (iT i x)=if x.2=0 then [i64 ((i+x.1+1:Nat):Int),i64 0]else [i64 0,i64 x.2]:=by
 unfold pG iT;by_cases h:x.2=0
 ·simp only[h,gY];rw[show x.1+i+1=i+x.1+1 by omega]
 ·simp only[aD h]
theorem MQ(hi:InC n):TxC (n+1):=by
 intro c r d w K hn hl hd24 hK;refine Qq ?_;unfold VI;have hlen:(c::r).length=r.length+1:=rfl;generalize hR:pG (dW r d)=R0 at hK;have cond:∀{c:UInt8} (k:Nat),k<256->(((c.toNat:Nat):Int)=(k:Int)↔c=UInt8.ofNat k):=λ{c} k hk=>by
  have:=CB c k hk;rwa[decide_eq_decide]at this
 refine dD.go (λst w'=>∃i:Nat,st=[i64 ((i+1:Nat):Int)]/\w'=w/\i<=r.length/\pG (iT i (dW (r.drop i) d))=R0) (λst _=>match st with|[.int _ i]=>r.length+1-i.toNat|_=>0) ⟨0,rfl,rfl,by omega,by rw[bJ,mS,<-hR];unfold pG;rw[aQ]⟩ ?_;rintro st g w2 ⟨i,rfl,rfl,hi',hr⟩;simp only[aE];rw[eQ,eL,aN,hlen];refine⟨λhlt=>?_,λhge=>?_⟩
 ·have hlt:i<r.length:=by omega
  have hd:=gP hlt;rw[hd,iF]at hr;simp only[fI]at hr;have ix:∀{KK:Value->Prop},KK (cv r[i])->pH (str (c::r)) (i64 ((i+1:Nat):Int)) KK:=λh=>qE (s:=c::r) (i:=i+1) (by rw[hlen];omega) h;refine ix ?_;rw[bI,aN];refine⟨λe=>?_,λe=>?_⟩
  ·have e:r[i]=34:=(cond 34 (by omega)).1 e;rw[aF e,mS,aF rfl]at hr;rw[bU,upi (by omega)];rw[<-hr]at hK;exact hK
  have e:¬r[i]=34:=λh=>e ((cond 34 (by omega)).2 h);rw[aD e]at hr;refine ix ?_;rw[bI,aN];refine⟨λe=>?_,λe=>?_⟩
  ·have e:r[i]=10:=(cond 10 (by omega)).1 e;rw[aF e,mS,aD (by simp)]at hr;rw[<-hr]at hK;exact hK
  have e:¬r[i]=10:=λh=>e ((cond 10 (by omega)).2 h);rw[aD e]at hr;refine ix ?_;rw[bI,aN];refine⟨λe=>?_,λe=>?_⟩
  ·have e:r[i]=92:=(cond 92 (by omega)).1 e;rw[aF e]at hr;rw[bU,upi (by omega),eQ,oF,hlen];simp only[mH];by_cases hend:r.length<=i+1
   ·have e0:r.drop (i+1)=[]:=dO hend;rw[e0]at hr;simp only at hr;rw[mS,aD (by simp)]at hr;rw[cO (by omega),lU,AG];intro g2;rw[pD,fP];rw[<-hr]at hK;exact hK
   ·have hlt2:i+1<r.length:=by omega
    have hd2:=gP hlt2;rw[hd2]at hr;simp only at hr;rw[cV (by omega),fJ];refine GdW.look (!Lex.escOk r[i+1]) (λ_ J hJ=>?_) λg2=>?_
    ·rw[bU,upi (by omega)];refine qE (s:=c::r) (i:=i+2) (by rw[hlen];omega) ?_;refine BU ?_;rw[eL];have:=Wa r[i+1];rw[show(c::r)[i+2]=r[i+1]from rfl,this];exact hJ
    simp only[aE,cY,kY];rw[cU];refine⟨λhb=>?_,λhg=>?_⟩
    ·have hb:¬Lex.escOk r[i+1]=true:=by simpa using hb
     rw[aD hb,mS,aD (by simp)]at hr;rw[<-hr]at hK;exact hK
    ·have hg:Lex.escOk r[i+1]=true:=by simpa using hg
     rw[aF hg,add_add]at hr;rw[bU,dF (by omega) (by omega)];refine⟨⟨i+2,by simp only[fF,Value.int.injEq,dB,oI];omega,trivial,by omega,hr⟩,?_⟩;simp only[aP];omega
  have e:¬r[i]=92:=λh=>e ((cond 92 (by omega)).2 h);rw[aD e]at hr;rw[fC,fR,eM];refine⟨by omega,by rw[hlen];omega,?_⟩;rw[bP,aP,bG,hd];refine xN ?_;rw[pre_eq,cU];refine⟨λe=>?_,λe=>?_⟩
  ·rw[aF e]at hr;have h2:=Eh e;have hlt2:i+1<r.length:=by
    simp only[aA,aC,aJ]at h2;omega
   have hd2:=gP hlt2;rw[bU,upi (by omega),fC,fR,eM];refine⟨by omega,by rw[hlen];omega,?_⟩;rw[bP,aP,bG,hd2,bU,upi (by omega)];have hdd:(r.drop (i+1)).drop 1=r.drop (i+2):=by rw[eX]
   rw[hdd]at hr;have hll:(r.drop (i+2)).length=r.length-(i+2):=aJ ..;refine hi _ _ (d+1) _ _ (by show(r.drop (i+2)).length<n;omega) (by show(r.drop (i+2)).length<=_;omega) (by omega) ?_;have hx':∃x:Nat×Int,x=(if 24<d+1 then((0:Nat),(7:Int))else hM (r.drop (i+2)) (d+1))/\pG (iT i (if x.2=0 then iT (x.1+2) (dW ((r.drop (i+2)).drop x.1) d)else(0,x.2)))=R0/\(x.2=0->x.1<=(r.drop (i+2)).length):=by
    refine⟨_,rfl,?_,?_⟩
    ·by_cases h:24<d+1
     ·rw[aF h]at hr⊢;exact hr
     ·rw[aD h]at hr⊢;exact hr
    ·by_cases h:24<d+1
     ·rw[aF h];intro h;exact absurd h (by simp)
     ·rw[aD h];intro h0;exact((iE _ (r.drop (i+2)) (aL _)).2 (d+1) _ (eO rfl h0)).1.2
   obtain⟨x,ex,hr,hxl⟩:=hx';rw[show r.drop (i+1+1)=r.drop (i+2)from rfl,<-ex];by_cases h0:x.2=0
   ·have eo:pG x=[i64 ((x.1+1:Nat):Int),i64 0]:=by unfold pG;rw[aF h0]
    have hxl:=hxl h0;rw[aF h0,add_add,eX]at hr;rw[eo,bK];refine⟨i64 ((x.1+1:Nat):Int),rfl,?_⟩;rw[bK];refine⟨i64 0,rfl,?_⟩;rw[gL,aN];refine⟨λh=>absurd rfl h,λ_=>?_⟩;rw[bU,dF (by omega) (by omega),bU,dF (by omega) (by omega)];refine⟨⟨i+(x.1+2),by simp only[fF,Value.int.injEq,dB,oI];omega,rfl,by omega,by rw[show i+(x.1+2)=i+2+x.1 by omega]at hr⊢;exact hr⟩,?_⟩;simp only[aP];omega
   ·have eo:pG x=[i64 0,i64 x.2]:=by unfold pG;rw[aD h0]
    rw[aD h0,mS,aD h0]at hr;rw[eo,bK];refine⟨i64 0,rfl,?_⟩;rw[bK];refine⟨i64 x.2,rfl,?_⟩;rw[gL,aN];refine⟨λ_=>by rw[<-hr]at hK;exact hK,λh=>absurd h0 h⟩
  ·rw[aD (by rw[e];decide),add_add]at hr;rw[bU,upi (by omega)];refine⟨⟨i+1,rfl,rfl,by omega,hr⟩,?_⟩;simp only[aP];omega
 ·obtain rfl:i=r.length:=by omega
  rw[jY,oW,mS,aD (by simp)]at hr;rw[<-hr]at hK;exact hK
theorem OS(hi:InC n)(htx:TxC n):InC (n+1):=by
 intro c r d w K hn hl hd25 hK;refine Qf ?_;unfold Vy;rw[mU,aN];refine⟨λh=>?_,λh=>?_⟩
 ·rw[aF (by omega)]at hK;exact hK
 have hd24:d<=24:=by omega
 rw[aD (by omega)]at hK;have hlen:(c::r).length=r.length+1:=rfl;generalize hR:pG (hM r d)=R0 at hK;have cond:∀{c:UInt8} (k:Nat),k<256->(((c.toNat:Nat):Int)=(k:Int)↔c=UInt8.ofNat k):=λ{c} k hk=>by
  have:=CB c k hk;rwa[decide_eq_decide]at this
 refine dD.go (λst w'=>∃i:Nat,st=[i64 ((i+1:Nat):Int)]/\w'=w/\i<=r.length/\pG (iT i (hM (r.drop i) d))=R0) (λst _=>match st with|[.int _ i]=>r.length+1-i.toNat|_=>0) ⟨0,rfl,rfl,by omega,by rw[bJ,mS,<-hR];unfold pG;rw[aQ]⟩ ?_;rintro st g w2 ⟨i,rfl,rfl,hi',hr⟩;simp only[aE];rw[eQ,eL,aN,hlen];refine⟨λhlt=>?_,λhge=>?_⟩
 ·have hlt:i<r.length:=by omega
  have hd:=gP hlt;rw[hd,nC]at hr;simp only[fI]at hr;have hll:(r.drop (i+1)).length=r.length-(i+1):=aJ ..;refine cK.cut (λst w'=>w'=w2/\∃(k:Nat) (e:Int),st=[i64 (if e=0 then((k+1:Nat):Int)else 0),i64 e]/\(e=0->i+(k+1)<=r.length/\pG (iT (i+(k+1)) (hM (r.drop (i+(k+1))) d))=R0)/\(e≠0->[i64 0,i64 e]=R0)) ?_ ?_
  ·refine qE (s:=c::r) (i:=i+1) (by rw[hlen];omega) ?_;show aO .eql (cv r[i]) _ _;rw[bI,aN];refine⟨λe=>?_,λe=>?_⟩
   ·have e:r[i]=125:=(cond 125 (by omega)).1 e;rw[aF e,mS,aF rfl]at hr;rw[bU,upi (by omega)];rw[<-hr]at hK;exact hK
   have e:¬r[i]=125:=λh=>e ((cond 125 (by omega)).2 h);rw[aD e]at hr;rw[bI,aN];refine⟨λe=>?_,λe=>?_⟩
   ·have e:r[i]=10:=(cond 10 (by omega)).1 e;rw[aF e,mS,aD (by simp)]at hr;rw[<-hr]at hK;exact hK
   have e:¬r[i]=10:=λh=>e ((cond 10 (by omega)).2 h);rw[aD e]at hr;have sub:∀(x:Nat×Int),pG (iT i (if x.2=0 then iT (x.1+1) (hM ((r.drop (i+1)).drop x.1) d)else(0,x.2)))=R0->(x.2=0->x.1<=(r.drop (i+1)).length)->iX 0 (.tuple (pG x).toArray) λt33=>iX 1 (.tuple (pG x).toArray) λt34=>(λ(st:List Value) (w':World)=>w'=w2/\∃(k:Nat) (e:Int),st=[i64 (if e=0 then((k+1:Nat):Int)else 0),i64 e]/\(e=0->i+(k+1)<=r.length/\pG (iT (i+(k+1)) (hM (r.drop (i+(k+1))) d))=R0)/\(e≠0->[i64 0,i64 e]=R0)) [t33,t34] w2:=λx hx hxl=>by
    by_cases h0:x.2=0
    ·have eo:pG x=[i64 ((x.1+1:Nat):Int),i64 0]:=by unfold pG;rw[aF h0]
     have hxl:=hxl h0;rw[aF h0,add_add,eX]at hx;rw[eo,bK];refine⟨i64 ((x.1+1:Nat):Int),rfl,?_⟩;rw[bK];refine⟨i64 0,rfl,rfl,x.1,0,by rw[aF rfl],λ_=>⟨by omega,by rw[show i+(x.1+1)=i+1+x.1 by omega]at hx⊢;exact hx⟩,λh=>absurd rfl h⟩
    ·have eo:pG x=[i64 0,i64 x.2]:=by unfold pG;rw[aD h0]
     rw[aD h0,mS,aD h0]at hx;rw[eo,bK];refine⟨i64 0,rfl,?_⟩;rw[bK];exact⟨i64 x.2,rfl,rfl,0,x.2,by rw[aD h0],λh=>absurd h h0,λ_=>hx⟩
   rw[bI,aN];refine⟨λe=>?_,λe=>?_⟩
   ·have e:r[i]=123:=(cond 123 (by omega)).1 e;rw[aF e]at hr;rw[fC,fR,eM];refine⟨by omega,by rw[hlen];omega,?_⟩;rw[bP,aP,bG,hd,bU,upi (by omega)];refine hi _ _ (d+1) _ _ (by omega) (by omega) (by omega) ?_;refine sub _ ?_ ?_
    ·by_cases h:24<d+1
     ·rw[aF h]at hr⊢;exact hr
     ·rw[aD h]at hr⊢;exact hr
    ·by_cases h:24<d+1
     ·rw[aF h];intro h;exact absurd h (by simp)
     ·rw[aD h];intro h0;exact((iE _ (r.drop (i+1)) (aL _)).2 (d+1) _ (eO rfl h0)).1.2
   have e:¬r[i]=123:=λh=>e ((cond 123 (by omega)).2 h);rw[aD e]at hr;rw[bI,aN];refine⟨λe=>?_,λe=>?_⟩
   ·have e:r[i]=34:=(cond 34 (by omega)).1 e;rw[aF e]at hr;rw[fC,fR,eM];refine⟨by omega,by rw[hlen];omega,?_⟩;rw[bP,aP,bG,hd];refine htx _ _ d _ _ (by omega) (by omega) hd24 ?_;refine sub _ hr λh0=>?_;exact((iE _ (r.drop (i+1)) (aL _)).1 d _ (eO rfl h0)).2.2
   ·have e:¬r[i]=34:=λh=>e ((cond 34 (by omega)).2 h);rw[aD e,add_add]at hr;exact⟨rfl,0,0,rfl,λ_=>⟨by omega,hr⟩,λh=>absurd rfl h⟩
  rintro st g2 w3 ⟨rfl,k,e,rfl,h1,h2⟩;simp only[aE,dX];rw[gL,aN];refine⟨λhe=>by rw[<-h2 he]at hK;exact hK,λhe=>?_⟩;have he:e=0:=by
   by_cases h:e=0
   ·exact h
   ·exact absurd h he
  obtain⟨g1,g2⟩:=h1 he;rw[aF he,bU,dF (by omega) (by omega)];refine⟨⟨i+(k+1),by simp only[fF,Value.int.injEq,dB,oI];omega,trivial,g1,g2⟩,?_⟩;simp only[aP];omega
 ·obtain rfl:i=r.length:=by omega
  rw[jY,BS,mS,aD (by simp)]at hr;rw[<-hr]at hK;exact hK
theorem HS:∀n,TxC n/\InC n
 |0=>⟨λ_ _ _ _ _ h=>by omega,λ_ _ _ _ _ h=>by omega⟩
 |n+1=>⟨MQ (HS n).2,OS (HS n).2 (HS n).1⟩
theorem OG{r:Str}{d:Nat}{K:Q0}(hl:r.length<=1000000)(hd:d<=24)(hK:K (.tuple (pG (dW r d)).toArray) w):aI P0 112 [str (c::r),i64 (d:Nat)] w K:=(HS (r.length+1)).1 c r d w K (by omega) hl hd hK
end
end
end Go.Proofs.YtjblfcfdeaagpaaGreatDoor
namespace Go.Eng
section
open Go
variable{w:World}{K:Q0}{cs:List Value}{G:Nat->Prop}{T:TypeId}{i:Nat}{n:Nat}{v:Value}{w':World}{P:Program}{c:UInt8}{S:Nat->Prop}
theorem byte_at{s r:Str}(h:s.drop i=c::r):gA s i=c.toNat:=by
 unfold gA;have:s[i]?=some c:=by
  have:=fU (xs:=s) (i:=i) (j:=0);rw[h]at this;simpa using this.symm
 rw[this]
theorem Ci{s l r:Str}(h:s.drop i=l++r):s.drop (i+l.length)=r:=by
 rw[<-dY,h,oU]
theorem uA{s r:Str}(h:s.drop i=c::r):i<s.length:=by
 apply Nat.lt_of_not_le;intro hle;rw[Au.2 hle]at h;cases h
theorem qO{s u r:Str}{j:Nat}(h:s.drop i=u++r)(hj:j<u.length):gA s (i+j)=u[j].toNat:=by
 have:s.drop (i+j)=u[j]::(u.drop (j+1)++r):=by
  rw[<-dY,h,Av (by omega),fS hj];rfl
 exact byte_at this
theorem CK{s t:Str}{k m:Nat}(hm:0<m)(h:fK s i=m)(hb:∀j,j<m->gA t (k+j)=gA s (i+j)):fK t k=m:=by
 have e0:gA t k=gA s i:=hb 0 hm;unfold fK at h⊢;dsimp only at h;simp only[e0];by_cases h1:m=1
 ·subst h1;split at h
  ·omega
  rename_i a;split at h
  ·rename_i b;rw[aD a,aF b]
  split at h
  ·omega
  split at h
  ·omega
  split at h<;>omega
 by_cases h2:m=2
 ·subst h2;have e1:=hb 1 (by omega);have m1:nB t (k+1)=nB s (i+1):=by unfold nB;rw[e1]
  simp only[m1];split at h
  ·omega
  rename_i a;split at h
  ·omega
  rename_i b;split at h
  ·rename_i c;rw[aD a,aD b,aF c]
  split at h
  ·omega
  split at h<;>omega
 by_cases h3:m=3
 ·subst h3;have e1:=hb 1 (by omega);have e2:=hb 2 (by omega);have m1:nB t (k+1)=nB s (i+1):=by unfold nB;rw[e1]
  have m2:nB t (k+2)=nB s (i+2):=by unfold nB;rw[e2]
  simp only[m1,m2,e1,e2];split at h
  ·omega
  rename_i a;split at h
  ·omega
  rename_i b;split at h
  ·omega
  rename_i c;split at h
  ·rename_i d;rw[aD a,aD b,aD c,aF d]
  split at h<;>omega
 by_cases h4:m=4
 ·subst h4;have e1:=hb 1 (by omega);have e2:=hb 2 (by omega);have e3:=hb 3 (by omega);simp only[nB,e1,e2,e3]at h⊢;exact h
 ·exfalso;split at h
  ·omega
  split at h
  ·omega
  split at h
  ·omega
  split at h
  ·omega
  split at h<;>omega
theorem Nb{s:Str}(h:fK s i≠0):i<s.length:=by
 apply Nat.lt_of_not_le;intro hle;exact h (rune_end hle)
theorem Jq{s:Str}(h:fK s i≠0):i+fK s i<=s.length:=by
 obtain⟨c,hc⟩:=qM (Nb h) h;exact hc.fits
def Rn(u:Str):Prop:=u≠[]/\fK u 0=u.length
theorem Rn.pos{u:Str}(h:Rn u):0<u.length:=gW.2 h.1
theorem Rn.at{u s r:Str}(h:Rn u)(hs:s.drop i=u++r):fK s i=u.length:=by
 refine CK (s:=u) (i:=0) h.pos h.2 λj hj=>?_;rw[qO hs hj,qO (s:=u) (i:=0) (u:=u) (r:=[]) (by simp) hj]
theorem Rn.of{s:Str}(h:fK s i≠0):Rn ((s.drop i).take (fK s i)):=by
 have hf:=Jq h;have hl:((s.drop i).take (fK s i)).length=fK s i:=by rw[cG,aJ];omega
 refine⟨λe=>by rw[e]at hl;simp at hl;omega,?_⟩;rw[hl];refine CK (s:=s) (i:=i) (by omega) rfl λj hj=>?_;rw[qO (s:=s) (i:=i) (u:=(s.drop i).take (fK s i)) (r:=(s.drop i).drop (fK s i)) (mI _ _).symm (by omega),qO (s:=(s.drop i).take (fK s i)) (i:=0) (u:=(s.drop i).take (fK s i)) (r:=[]) (by simp) (by omega)]
inductive Utf:Str->Prop where
 |nil:Utf []
 |cons {u r:Str}:Rn u->Utf r->Utf (u++r)
theorem Utf.app{a b:Str}(h:Utf a)(h':Utf b):Utf (a++b):=by
 induction h with
 |nil=>exact h'
 |cons hu _ ih=>rw[bB];exact .cons hu ih
theorem Utf.one{u:Str}(h:Rn u):Utf u:=by have:=Utf.cons h .nil;rwa[cH]at this
theorem Rf{s:Str}:∀{n i:Nat},ES s n i=true->Utf (s.drop i):=by
 intro n;induction n with
 |zero=>
  intro i h;rw[ES,jE]at h;rw[dO h];exact .nil
 |succ n ih=>
  intro i h;rw[ES]at h;split at h
  ·rename_i hl;rw[dO hl];exact .nil
  ·split at h
   ·cases h
   ·rename_i h0;have:=Utf.cons (Rn.of h0) (ih h);rwa[<-dY,mI]at this
theorem Rn.cases{u:Str}(h:Rn u):(∃c:UInt8,u=[c]/\c.toNat<128)\/(∀c∈u,128<=c.toNat):=by
 have hr:=h.2;have hp:=h.pos;have hb:∀j,(hj:j<u.length)->gA u j=u[j].toNat:=λj hj=>by
  have:=qO (s:=u) (i:=0) (u:=u) (r:=[]) (by simp) hj;rwa[aQ]at this
 have hm:∀j,(hj:j<u.length)->nB u j=true->128<=u[j].toNat:=λj hj hm=>by
  unfold nB at hm;rw[hb j hj,aZ,decide_eq_true_iff,decide_eq_true_iff]at hm;omega
 unfold fK at hr;rw[hb 0 hp]at hr;simp only[aQ]at hr;have hall:(∀j,(hj:j<u.length)->128<=u[j].toNat)->∀c∈u,128<=c.toNat:=λhj c hc=>by
  obtain⟨j,h1,rfl⟩:=List.getElem_of_mem hc;exact hj j h1
 split at hr
 ·omega
 split at hr
 ·rename_i hlt;left;obtain⟨c,rfl⟩:=List.length_eq_one_iff.1 hr.symm;refine⟨c,rfl,?_⟩;have e:([c]:Str)[0].toNat=c.toNat:=rfl;omega
 right;refine hall λj hj=>?_;split at hr
 ·rename_i c;obtain⟨c1,_,c2⟩:=c;obtain rfl|rfl:j=0\/j=1:=by omega
  ·omega
  ·exact hm 1 hj c2
 split at hr
 ·rename_i c;obtain⟨c1,_,c2,c3,_⟩:=c;obtain rfl|rfl|rfl:j=0\/j=1\/j=2:=by omega
  ·omega
  ·exact hm 1 hj c2
  ·exact hm 2 hj c3
 split at hr
 ·rename_i c;obtain⟨c1,_,c2,c3,c4,_⟩:=c;obtain rfl|rfl|rfl|rfl:j=0\/j=1\/j=2\/j=3:=by omega
  ·omega
  ·exact hm 1 hj c2
  ·exact hm 2 hj c3
  ·exact hm 3 hj c4
 ·omega
def escOk(c:UInt8):Bool:=
 match VZ c with
 |[d]=>decide (d=c)&&decide (c≠34)&&decide (c≠92)&&decide (32<=c.toNat)
 |[a,b]=>decide (a=92)&&decide (UL [a,b] 0=some ([c],2))
 |[a,b,d,e,f,g]=>decide (a=92)&&decide (b=117)&&decide (SZ [a,b,d,e,f,g] 0=c.toNat)
 |_=>false
end
end Go.Eng
namespace Go.Proofs.YtjblfcfdeaagpaaGreatDoor
section
open Go Go.Eng Go.RowKit Go.Syn Go.Lex
variable{w:World}{K:Q0}{cs:List Value}{G:Nat->Prop}{T:TypeId}{i:Nat}{n:Nat}{v:Value}{w':World}{P:Program}{c:UInt8}{S:Nat->Prop}
theorem Nj(c d:UInt8)(r:Str):[d].isPrefixOf (c::r)=(d==c):=by simp[List.isPrefixOf]
theorem JG(s:Str):Lib.index s [10]=if cS (λb=>b !=10) s<s.length then((cS (λb=>b !=10) s:Nat):Int)else-1:=by
 induction s with
 |nil=>rfl
 |cons c r ih=>
  simp only[Lib.index,Nj];by_cases h:c=10
  ·subst h;rfl
  ·have h1:((10:UInt8)==c)=false:=by rw[beq_eq_false_iff_ne];exactλe=>h e.symm
   have h2:(c !=10)=true:=by simp[h]
   have e2:cS (λb=>b !=10) (c::r)=cS (λb=>b !=10) r+1:=by simp only[cS];rw[aF h2]
   obtain⟨k,hk0⟩:∃k,k=cS (λb=>b !=10) r:=⟨_,rfl⟩;have ih':Lib.index r [10]=if k<r.length then(k:Int)else-1:=by rw[hk0];exact ih
   rw[h1,aD (by decide),ih',e2,<-hk0];simp only[aA];by_cases hk:k<r.length
   ·have e3:(if k<r.length then(k:Int)else-1)=k:=aF hk;have e4:(if k+1<r.length+1 then((k+1:Nat):Int)else-1)=((k+1:Nat):Int):=aF (by omega);rw[e3,e4,aD (by simp only[fI];omega)];rfl
   ·have e3:(if k<r.length then(k:Int)else-1)=-1:=aD hk;have e4:(if k+1<r.length+1 then((k+1:Nat):Int)else-1)=-1:=aD (by omega);rw[e3,e4];rfl
theorem Pe(s:Str):(Lib.cut s [10]).1=s.take (cS (λb=>b !=10) s)/\(Lib.cut s [10]).2.2=decide (cS (λb=>b !=10) s<s.length):=by
 have hle:=pU (λb=>b !=10) s;unfold Lib.cut;rw[JG];by_cases h:cS (λb=>b !=10) s<s.length
 ·rw[aF h,aF (by omega),aP];exact⟨rfl,by simp[h]⟩
 ·rw[aD h,aD (by omega)];exact⟨by rw[lT (by omega)],by simp[h]⟩
theorem Ks(l:Str):Lib.trimLeftS l [32,9]=l.drop (cS (λb=>b==32||b==9) l):=by
 unfold Lib.trimLeftS;induction l with
 |nil=>rfl
 |cons c r ih=>
  simp only[List.dropWhile_cons,cS];have e:([32,9]:Str).contains c=(c==32||c==9):=by simp[List.contains,List.elem];cases(c==32)<;>cases(c==9)<;>rfl
  rw[e];by_cases hb:(c==32||c==9)=true
  ·rw[aF hb,aF hb];exact ih
  ·rw[aD hb,aD hb];rfl
theorem JM(a b:Str):gO (a++b)=gO a++gO b:=by
 induction a with
 |nil=>rfl
 |cons c r ih=>
  simp only[dC,gO]
  (repeat' split)<;>simp only[dC,ih]
theorem Hv{u:Str}(h:∀c∈u,128<=c.toNat):gO u=u:=by
 induction u with
 |nil=>rfl
 |cons c r ih=>
  have hc:=h c aX;have n:∀k:UInt8,k.toNat<128->(c==k)=false:=λk hk=>by
   rw[beq_eq_false_iff_ne];intro e;subst e;omega
  simp only[gO,n 92 (by decide),n 34 (by decide),n 36 (by decide),n 9 (by decide),n 13 (by decide),Bool.or_self,uJ,Cv,ih λx hx=>h x (aK _ hx)]
theorem qS{r:Str}(h:Utf (c::r))(hc:c.toNat<128):Utf r:=by
 generalize he:c::r=z at h;cases h with
 |nil=>cases he
 |@cons u r' hu hr=>
  rcases hu.cases with⟨x,rfl,_⟩|hh
  ·simp only[dC,cI,fF]at he;rw[he.2];exact hr
  ·cases u with
   |nil=>exact absurd rfl hu.1
   |cons y u'=>
    simp only[dC,fF]at he;have:=hh y aX;rw[<-he.1]at this;omega
theorem Jd{t:Str}(h:Utf t):∀{a b:Str} {c:UInt8},t=a++c::b->c.toNat<128->Utf a/\Utf (c::b):=by
 induction h with
 |nil=>intro a b c e;simp at e
 |@cons u r hu hr ih=>
  intro a b c e hc;by_cases hle:u.length<=a.length
  ·have h1:a=u++a.drop u.length:=by
    have:=congrArg (List.take u.length) e;rw[rG,As hle]at this;have h2:=mI u.length a;rw[<-this]at h2;exact h2.symm
   rw[h1,bB]at e;have e:=List.append_cancel_left e;obtain⟨i1,i2⟩:=ih e hc;rw[h1];exact⟨.cons hu i1,i2⟩
  ·have hmem:c∈u:=by
    have:(u++r)[a.length]?=some c:=by rw[e];simp
    rw[dA (by omega)]at this;exact bW this
   rcases hu.cases with⟨x,rfl,_⟩|hh
   ·have ha:a=[]:=bY (by simp only[aA,aC]at hle;omega);subst ha;simp only[cI]at e;rw[<-e];exact⟨.nil,.cons hu hr⟩
   ·have:=hh c hmem;omega
theorem xY{t:Str}(h:Utf t){b:Str}(hd:t.drop i=c::b)(hc:c.toNat<128):Utf (t.take i)/\Utf (c::b):=
 Jd h (by rw[<-hd,mI]) hc
theorem Kl{s:Str}(h:Utf s):Utf (s.take (cS (λb=>b !=10) s))/\(cS (λb=>b !=10) s<s.length->Utf (s.drop (cS (λb=>b !=10) s+1))):=by
 have stop:∀s:Str,∀b,(s.drop (cS (λb=>b !=10) s)).head?=some b->b=10:=by
  intro s;induction s with
  |nil=>intro b hb;simp[cS]at hb
  |cons c r ih=>
   intro b hb;simp only[cS]at hb;by_cases hc:(c !=10)=true
   ·rw[aF hc,bG]at hb;exact ih b hb
   ·rw[aD hc]at hb;simp only[bJ,List.head?_cons,bD]at hb;rw[<-hb];simpa using hc
 by_cases hk:cS (λb=>b !=10) s<s.length
 ·have hd:=gP hk;have h10:=stop s s[cS (λb=>b !=10) s] (by rw[hd];rfl);obtain⟨h1,h2⟩:=xY h hd (by rw[h10];decide);exact⟨h1,λ_=>qS h2 (by rw[h10];decide)⟩
 ·exact⟨by rw[lT (by omega)];exact h,λe=>absurd e hk⟩
theorem TabI.ext(h:TabI w)(hx:Ext w w'):TabI w':=by
 obtain⟨m,h⟩:=h;refine⟨m,?_⟩;rw[cP]at h⊢;cases hh:w.heap[0]? with
 |none=>rw[hh]at h;cases h
 |some o=>rw[hx.at hh id];rw[hh]at h;exact h
section
variable [HX]
theorem BI{l:Str}{K:Q0}(hK:K (.pointer (some ⟨w.heap.size,0,none⟩)) (w.alloc (.stringIter (ofL l) 0))):fG P0 (Instr.range 9 (str l)) w K:=by
 have hT:Tryz.prog.underlying 9=some .string:=by kernel_rfl
 have hr:(Instr.range 9 (str l)).run P0 w=.ok (.pointer (some ⟨w.heap.size,0,none⟩)) (w.alloc (.stringIter (ofL l) 0)):=by
  simp[Instr.range,run_bind,bE hT,run_pure,newObj,Sem.run]
 unfold fG;rw[hr];exact hK
theorem Ly{r:Nat}{o:Obj}(h:r<w.heap.size):Chg (· =r) w {w with heap:=w.heap.setIfInBounds r o}:=
 ⟨rfl,rfl,rfl,by simp,λk _ hk=>by
  show(w.heap.setIfInBounds r o)[k]?=_
  rw[Array.getElem?_setIfInBounds_ne (by omega)]⟩
theorem Dd{r pos:Nat}{l:Str}{K:Q0}(hw:w.heap[r]?=some (.stringIter (ofL l) pos))
  (h0:l.length<=pos->K (.tuple #[.bool false]) w)
  (h1:pos<l.length->∀w',w'.heap[r]?=some (.stringIter (ofL l) (pos+(Utf8.decode (ofL l) pos).2))->Chg (· =r) w w'->w'.heap.size=w.heap.size->K (.tuple #[.bool true,i64 pos,.int .i32 (Utf8.decode (ofL l) pos).1]) w'):
  fG P0 (Instr.next (.pointer (some ⟨r,0,none⟩)) true T) w K:=by
 have hg:(getObj r).run P0 w=.ok (.stringIter (ofL l) pos) w:=by simp[getObj,Sem.run,hw]
 have hlt:r<w.heap.size:=(jJ.1 hw).1;unfold fG;simp only[Instr.next,run_bind,hg,gN];by_cases hp:pos<l.length
 ·have hset:(setObj r (.stringIter (ofL l) (pos+(Utf8.decode (ofL l) pos).2))).run P0 w=.ok () {w with heap:=w.heap.setIfInBounds r (.stringIter (ofL l) (pos+(Utf8.decode (ofL l) pos).2))}:=by simp[setObj,Sem.run,hw]
  rw[aF hp];simp only[run_bind,hset,run_pure];exact h1 hp _ (by simp[hlt]) (Ly hlt) (by simp)
 ·rw[aD hp];simp only[run_pure];exact h0 (by omega)
theorem KF{r:Str}{K:Q0}(hl:r.length<=1000000)(hK:K (str (nO (c::r))) w):aI P0 114 [str (c::r)] w K:=by
 refine Qo ?_;unfold VG;unfold nO at hK;refine cK.cut (λ_ w'=>w'=w/\qV.contains ((c::r).take 2)=false) ?_ ?_
 ·rw[eQ,mU,aN];refine⟨λhlen=>?_,λhlen=>⟨rfl,?_⟩⟩
  ·rw[fC,eM];refine⟨by omega,by omega,?_⟩;rw[fR,bJ];rw[show(c::r).take (Int.toNat 2)=(c::r).take 2 from rfl];generalize hx:(c::r).take 2=x at hK⊢;refine cK.cut (λst w'=>st=[.bool (qV.contains x)]/\w'=w) ?_ ?_
   ·unfold qV;simp only[List.contains_cons,List.contains_nil,Bool.or_false];have eqd:∀y:Str,decide (x=y)=(x==y):=λy=>by rw[AO];simp
    simp only[oD,eqd];generalize (x==[61,61])=a1;generalize (x==[33,61])=a2;generalize (x==[60,61])=a3;generalize (x==[62,61])=a4;generalize (x==[38,38])=a5;generalize (x==[124,124])=a6;cases a1<;>simp only[fP,cQ,wX,qG,and_self];cases a2<;>simp only[fP,cQ,wX,qG,and_self];cases a3<;>simp only[fP,cQ,wX,qG,and_self];cases a4<;>simp only[fP,cQ,wX,qG,and_self];cases a5<;>simp only[fP,cQ,wX,qG,and_self]
   rintro st g w' ⟨rfl,rfl⟩;simp only[aE];rw[cU];refine⟨λhy=>?_,λhn=>⟨trivial,hn⟩⟩;rw[aF hy]at hK;rw[fC,eM];refine⟨by omega,by omega,?_⟩;rw[fR,bJ];show K (str ((c::r).take 2)) w';rw[hx];exact hK
  ·have:r=[]:=bY (by simp only[aA]at hlen;omega);subst this;simp[qV]
 rintro _ g w' ⟨rfl,hn⟩;rw[aD (by rw[hn];decide)]at hK;refine qE (s:=c::r) (i:=0) (by simp) ?_;show aI P0 104 [_,cv c] w' _;refine BU ?_;rw[oF,Rw,cU];have hK:K (str (if zT.contains c=true then(c::r).take 1 else [])) w':=hK;refine⟨λhy=>?_,λhy=>?_⟩
 ·rw[aF hy]at hK;rw[fC,eM];refine⟨by omega,by simp only[aA];omega,?_⟩;rw[fR,bJ];exact hK
 ·rw[aD (by rw[hy];decide)]at hK;exact hK
theorem Tm{t:Str}{K:Q0}(hT:TabI w)(hl:t.length<=1000000)(hK:∀x w',Ext w w'->K (.tuple #[str (t.take (cS (λb=>b !=10) t)),x,.bool (decide (cS (λb=>b !=10) t<t.length))]) w'):aI P0 151 [str t,str [10]] w K:=by
 obtain⟨m,hm⟩:=hT;refine lG (args:=#[str t,str [10]]) Tryz.call151 ((Tryz.strings_Cut (ofL t) (ofL [10]) m w (by rw[gN];omega) hm).mono ?_);rintro e w' ⟨rfl,n,rfl⟩;obtain⟨h1,h2⟩:=Pe t;rw[eP,eP];refine⟨_,rfl,?_⟩;rw[show(⟨(Lib.cut t [10]).1.toArray⟩:ByteArray)=ofL (t.take (cS (λb=>b !=10) t))from by rw[h1];rfl,h2];refine hK _ _ ?_;exact⟨rfl,rfl,rfl,aL _,λ_ _ _=>rfl⟩
theorem MV{t:Str}{K:Q0}(hl:t.length<=1000000)(hK:∀w',Ext w w'->K (str (t.drop (cS (λb=>b==32||b==9) t))) w'):aI P0 152 [str t,str [32,9]] w K:=by
 refine lG (args:=#[str t,str [32,9]]) Tryz.call152 ((Tryz.strings_TrimLeft_laid (ofL t) (ofL [32,9]) w (by rw[gN];decide) (λj b hb=>?_)).mono ?_)
 ·rw[eP]at hb;have:=bW hb;simp only[bC,dH,mD]at this;rcases this with rfl|rfl<;>decide
 rintro e w' ⟨rfl,hb⟩;rw[eP,eP,Ks];exact⟨_,rfl,hK w' (Chg.of_below hb)⟩
end
theorem sV(s:Str):(gO s).length<=2*s.length:=by
 induction s with
 |nil=>simp[gO]
 |cons c r ih=>simp only[gO];(repeat' split)<;>simp only[aA]<;>omega
def lX(c:Nat):Str×Nat:=if c=92\/c=34\/c=36 then([92],c)else if c=9 then([92],116)else if c=13 then([92],114)else([],c)
theorem JJ(x:UInt8)(h:wrM x.toNat=[x]):gO [x]=(lX x.toNat).1++wrM (lX x.toNat).2:=by
 have e:∀k:UInt8,(x==k)=decide (x.toNat=k.toNat):=λk=>by
  rw[AO,fI,decide_eq_true_iff,mV]
 simp only[gO,e];unfold lX;by_cases h1:x.toNat=92\/x.toNat=34\/x.toNat=36
 ·rw[aF (by simp only[eB,decide_eq_true_iff];rcases h1 with h|h|h;exact .inl (.inl h);exact .inl (.inr h);exact .inr h),aF h1];show _=[92]++wrM x.toNat;rw[h];rfl
 rw[aD (by simp only[eB,decide_eq_true_iff];rintro((h|h)|h);exact h1 (.inl h);exact h1 (.inr (.inl h));exact h1 (.inr (.inr h))),aD h1];by_cases h2:x.toNat=9
 ·rw[aF (by simpa using h2),aF h2];rfl
 rw[aD (by simpa using h2),aD h2];by_cases h3:x.toNat=13
 ·rw[aF (by simpa using h3),aF h3];rfl
 rw[aD (by simpa using h3),aD h3];exact h.symm
theorem Hu{c:Nat}(h:128<=c):lX c=([],c):=by
 unfold lX;rw[aD (by omega),aD (by omega),aD (by omega)]
theorem LY{c:Nat}(h:c<55296\/57343<c/\c<=1114111):(lX c).2<55296\/57343<(lX c).2/\(lX c).2<=1114111:=by
 unfold lX
 (repeat' split)<;>(dsimp only;omega)
theorem JK(c:Nat):(lX c).1.length<=1:=by unfold lX;(repeat' split)<;>simp
def Ga(l:Str)(at_:Nat)(x:Str×Nat×Int):Str×Nat×Int:=if x.2.2=0 then(l++x.1,x.2.1+at_,0)else([],0,x.2.2)
theorem JH(l m:Str)(a b:Nat)(x:Str×Nat×Int):Ga l a (if x.2.2=0 then(m++x.1,x.2.1+b,0)else([],0,x.2.2))=Ga (l++m) (a+b) x:=by
 unfold Ga;by_cases h:x.2.2=0
 ·simp only[h,gY,bB];rw[show x.2.1+b+a=x.2.1+(a+b)by omega]
 ·simp only[aD h]
theorem Dl(n:Nat)(name s:Str):kN (n+1) name s=(if(s.take (cS (λb=>b !=10) s)).drop (cS (λb=>b==32||b==9) (s.take (cS (λb=>b !=10) s)))=name then([],cS (λb=>b !=10) s,0)else if s.length<=cS (λb=>b !=10) s then([],0,40)else
 (if(kN n name (s.drop (cS (λb=>b !=10) s+1))).2.2=0 then(gO (s.take (cS (λb=>b !=10) s))++[92,110]++(kN n name (s.drop (cS (λb=>b !=10) s+1))).1,(kN n name (s.drop (cS (λb=>b !=10) s+1))).2.1+(cS (λb=>b !=10) s+1),0)else([],0,(kN n name (s.drop (cS (λb=>b !=10) s+1))).2.2))):=rfl
section
variable [HX]
theorem JI{s:Str}{K:Q0}(hT:TabI w)(hU:Utf s)(hl:s.length<=1000000)(h2:2<=s.length)
  (hK:∀w',Ext w w'->K (.tuple #[str (fN s).1,i64 ((fN s).2.1:Nat),i64 (fN s).2.2]) w'):aI P0 113 [str s] w K:=by
 refine Qp ?_;unfold VH;unfold fN at hK;dsimp only at hK;generalize hn:(if eD ((s.drop 2).headD 0)then cS dM (s.drop 2)else 0)=n at hK;have hnl:n+2<=s.length:=by
  have:=pU dM (s.drop 2);rw[aJ]at this;rw[<-hn];split<;>omega
 refine cK.cut (λst w'=>st=[i64 (n:Nat)]/\w'=w) ?_ ?_
 ·rw[eQ,mU];refine GdW.look (eD ((s.drop 2).headD 0)) (λhg J hJ=>?_) λg=>?_
  ·rw[lI,decide_eq_true_iff]at hg;have hlt:2<s.length:=by omega
   refine qE (i:=2) hlt ?_;refine uZ ?_;rw[gP hlt]at hJ;exact hJ
  ·simp only[aE,lI];rw[iW,cU];refine⟨λhy=>?_,λhno=>?_⟩
   ·rw[aZ]at hy;rw[aF hy.2]at hn;rw[fC,fR,eM];refine⟨by omega,by omega,?_⟩;rw[bP];show aI P0 105 [str (s.drop 2),_] w _;refine Ig (q:=dM) (by rw[aJ];omega) (λc {w K} h=>wT (OC h)) ?_;rw[hn];exact⟨rfl,rfl⟩
   ·have:n=0:=by
     rw[<-hn];by_cases hlet:eD ((s.drop 2).headD 0)=true
     ·rw[hlet,Bool.and_true,decide_eq_false_iff_not]at hno;rw[aF hlet,gR (by omega)];rfl
     ·rw[aD hlet]
    rw[this];exact⟨rfl,trivial⟩
 rintro st g w' ⟨rfl,rfl⟩;simp only[aE];rw[bU,dF (by omega) (by omega)];rw[fC,eM,eM];refine⟨by omega,by omega,by omega,by omega,?_⟩;have hnm:(s.take (Int.toNat (2+(n:Nat)))).drop (Int.toNat 2)=(s.drop 2).take n:=by
  rw[show Int.toNat (2+(n:Nat))=2+n by omega,show Int.toNat 2=2 from rfl,List.drop_take];rw[show 2+n-2=n by omega]
 rw[hnm,bU,dF (by omega) (by omega),show(2+(n:Nat):Int)=((2+n:Nat):Int)by omega];generalize (s.drop 2).take n=nm at*
 rw[bI];simp only[mH];refine GdW.look (decide (s.length<=2+n)) (λ_ J hJ=>?_) λg1=>?_
 ·rw[eQ,oF,show decide (((s.length:Nat):Int)<=((2+n:Nat):Int))=decide (s.length<=2+n)by rw[decide_eq_decide];omega];exact hJ
 simp only[aE];rw[lV];simp only[mH];refine GdW.look (decide ((s.drop (2+n)).head?≠some 10)) (λhg J hJ=>?_) λg2=>?_
 ·have hlt:2+n<s.length:=by
   simp only[gZ,rH,decide_eq_false_iff_not]at hg;omega
  refine qE hlt ?_;have e5:decide (((s[2+n].toNat:Nat):Int)=10)=(s[2+n]==10):=xP 10 _;rw[gL];rw[gP hlt]at hJ;have:decide (((s[2+n].toNat:Nat):Int)≠10)=decide ((s[2+n]::s.drop (2+n+1)).head?≠some 10):=by
   have e6:∀(c:UInt8) (r:Str),(c==10)=decide ((c::r).head?=some 10):=λc r=>by rw[AO];simp
   rw[decide_not,e5,decide_not,e6 _ (s.drop (2+n+1))]
  rw[this];exact hJ
 simp only[aE];rw[lV,cU];refine⟨λhbad=>?_,λhok=>?_⟩
 ·have hb:n=0\/¬(s.drop (2+n)).head?=some 10:=by
   simp only[eB,decide_eq_true_iff]at hbad;rcases hbad with(h|h)|h
   ·exact .inl (by omega)
   ·right;rw[gR (by omega)];simp
   ·exact .inr h
  have hK:=hK w' (Chg.refl _ _);rcases hb with h|h
  ·rw[aF h]at hK;exact hK
  ·rw[aD h]at hK;split at hK<;>exact hK
 simp only[rH,decide_eq_false_iff_not,AX,Decidable.not_not]at hok;obtain⟨⟨hn0,hlt⟩,h10⟩:=hok;have hlt:2+n<s.length:=by omega
 rw[aD (by omega),aF h10]at hK;rw[bU,upi (by omega)];have hUs:Utf (s.drop (2+n+1)):=by
  have hd:=gP hlt;rw[hd]at h10;simp only[List.head?_cons,bD]at h10;exact qS (xY hU hd (by rw[h10];decide)).2 (by rw[h10];decide)
 generalize hR:kN (s.length+1) nm (s.drop (2+n+1))=X at hK;have hR2:Ga [] (2+n+1) X=if X.2.2=0 then(X.1,X.2.1+(2+n+1),0)else([],0,X.2.2):=by unfold Ga;rw[cI]
 rw[<-hR2]at hK;refine Mq (B:=w'.heap.size) (aL _) λb w1 hb h1 hx1=>?_;generalize hR0:Ga [] (2+n+1) X=R0 at hK;refine dD.go (λst w2=>∃(i m:Nat) (l:Str),st=[i64 (i:Nat)]/\i<=s.length/\Utf (s.drop i)/\Bld w2 w'.heap.size b l/\Ext w' w2/\l.length<=2*i/\Ga l i (kN m nm (s.drop i))=R0/\s.length<m+i) (λst _=>match st with|[.int _ i]=>s.length+1-i.toNat|_=>0) ⟨2+n+1,s.length+1,[],rfl,by omega,hUs,h1,hx1,by simp,by rw[hR,hR0],by omega⟩ ?_;rintro st g3 w2 ⟨i,m,l,rfl,hi,hu,hB,hx,hll,hr,hm⟩;obtain⟨m,rfl⟩:∃k,m=k+1:=⟨m-1,by omega⟩;rw[Dl]at hr;simp only[aE];rw[fC,fR,eM];refine⟨by omega,by omega,?_⟩;rw[bP,aP];have hsl:(s.drop i).length=s.length-i:=aJ;refine Tm (hT.ext hx) (by omega) λx w3 hx3=>?_;rw[bK];refine⟨_,rfl,?_⟩;rw[bK];refine⟨_,rfl,?_⟩;rw[bK];refine⟨_,rfl,?_⟩;obtain⟨ul,ur⟩:=Kl hu;have hkl:=pU (λb=>b !=10) (s.drop i);have htk:((s.drop i).take (cS (λb=>b !=10) (s.drop i))).length=cS (λb=>b !=10) (s.drop i):=by rw[cG];omega
 generalize cS (λb=>b !=10) (s.drop i)=k at*
 generalize hln:(s.drop i).take k=ln at*
 refine MV (by omega) λw4 hx4=>?_;have hx':Ext w' w4:=(hx.trans hx3).trans hx4;have hB4:Bld w4 w'.heap.size b l:=(hB.ext hx3).ext hx4;rw[oD,aN];refine⟨λhy=>?_,λhno=>?_⟩
 ·rw[aF hy]at hr;refine sY hB4 hx'.size λw5 hc5=>?_;rw[eQ,bU,dF (by omega) (by omega)];have hfx:Ext w' w5:=hx'.then hc5 λk hk e=>by omega
  have hK:=hK w5 hfx;rw[<-hr]at hK;simp only[Ga,gY,cH]at hK;rw[show(i:Int)+(ln.length:Nat)=((k+i:Nat):Int)by omega];exact hK
 rw[aD hno]at hr;rw[iN,cU];refine⟨λhend=>?_,λhmore=>?_⟩
 ·rw[aF (by simpa using hend)]at hr;have hK:=hK w4 hx';rw[<-hr]at hK;exact hK
 have hk:k<(s.drop i).length:=by simpa using hmore
 rw[aD (by omega)]at hr;rw[JH]at hr;have hun:=ur hk;clear ur;have hlk:(s.drop i).length=s.length-i:=aJ;refine BI ?_;have hz4:=hx'.size;have hbb:=hB4.lt;refine dD.go (λst w5=>∃p,p<=ln.length/\st=[]/\Utf (ln.drop p)/\w5.heap[w4.heap.size]?=some (.stringIter (ofL ln) p)/\Bld w5 w'.heap.size b (l++gO (ln.take p))/\Ext w' w5)
  (λ_ w5=>match w5.heap[w4.heap.size]? with|some (.stringIter _ p)=>ln.length-p|_=>0)
  ⟨0,cX _,rfl,by rw[bJ];exact ul,kO _ _ _ rfl,by rw[oN];show Bld _ _ _ (l++[]);rw[cH];exact hB4.ext (Chg.alloc (Chg.refl _ _) _),hx'.trans (Chg.alloc (Chg.refl _ _) _)⟩ ?_
 rintro st g4 w5 ⟨p,hp,rfl,hup,hit,hB5,hx5⟩;have hz5:=hx5.size;have hl5:(l++gO (ln.take p)).length<=2*i+2*k:=by
  have:=sV (ln.take p);have:(ln.take p).length<=k:=by rw[cG];omega
  rw[aB];omega
 refine Dd hit (λhpe=>?_) (λhpl w6 hit6 hc6 hz6=>?_)
 ·rw[bK];refine⟨.bool false,rfl,?_⟩;rw[cQ];obtain rfl:p=ln.length:=by omega
  rw[bP]at hB5 hl5;refine uM hB5 hz5 (by simp only[aA,aC];omega) λv w6 h6 hc6=>?_;have hx6:Ext w' w6:=BCh.new hx5 (aL _) (by omega) hc6;rw[eQ,bU,dF (by omega) (by omega),bU,dF (by omega) (by omega)];have hgl:=sV ln;refine⟨⟨i+(k+1),m,l++gO ln++[92,110],by simp only[fF,Value.int.injEq,dB,oI];omega,by omega,?_,h6,hx6,?_,?_,by omega⟩,?_⟩
  ·rw[<-eX];exact hun
  ·simp only[aB,aA,aC];omega
  ·rw[<-hr,eX,bB]
  ·simp only[aP];omega
 ·have hne:ln.drop p≠[]:=λe=>by have:=Au.1 e;omega
  obtain⟨u,r,hru,hur,hdr⟩:∃u r,Rn u/\Utf r/\ln.drop p=u++r:=by
   cases hd:ln.drop p with
   |nil=>exact absurd hd hne
   |cons x y=>
    rw[hd]at hup;generalize he:x::y=z at hup;cases hup with
    |nil=>cases he
    |cons h1 h2=>exact⟨_,_,h1,h2,rfl⟩
  have hrm:fK ln p=u.length:=hru.at hdr;have huz:=hru.pos;obtain⟨c,hc⟩:=qM hpl (by omega);rw[hrm]at hc;have htk2:(ln.drop p).take u.length=u:=by rw[hdr,rG]
  have hnext:ln.take (p+u.length)=ln.take p++u:=by rw[List.take_add,htk2]
  have hdr2:ln.drop (p+u.length)=r:=Ci hdr;have hdec:=hc.dec;have hct:=hc.top;have hcv:=hc.val;have hcu:wrM c=u:=by rw[<-Kj (by omega),hc.bytes,htk2]
  rw[hdec]at hit6;have hfit:=hc.fits;have hB6:Bld w6 w'.heap.size b (l++gO (ln.take p)):=hB5.chg hc6 (λe=>by have:=e;omega) λk hk e=>by
   obtain⟨_,c',hc'⟩:=hk;have e:k=w4.heap.size:=e;rw[e,hit]at hc';cases hc'
  have hx6:Ext w' w6:=hx5.then hc6 λk hk e=>by omega
  have hu2:gO u=(lX c).1++wrM (lX c).2:=by
   rcases hru.cases with⟨x,hx,hxl⟩|hh
   ·subst hx;have hcx:c=x.toNat:=by
     have:=(hc.low rfl).1;rw[this];have e:=lZ hpl;rw[Go.Eng.byte_at (show ln.drop p=x::r from hdr)]at e;omega
    subst hcx;exact JJ x hcu
   ·have hc128:128<=c:=by
     have hb0:=qO (j:=0) hdr huz;have h128:=hh u[0] (dU ..);rw[gF,lZ hpl]at hb0;by_cases h1:u.length=1
     ·have:=hc.low h1;omega
     ·exact(hc.high (by omega)).1
    rw[Hu hc128,Hv hh,hcu];rfl
  have hok:=LY (c:=c) (by omega);have hl1:=JK c;rw[bK];refine⟨.bool true,rfl,?_⟩;rw[fP,bK];refine⟨.int .i32 (c:Int),by rw[hdec];rfl,?_⟩;refine cK.cut (λst w7=>st=[.int .i32 ((lX c).2:Nat)]/\Bld w7 w'.heap.size b (l++gO (ln.take p)++(lX c).1)/\w7.heap[w4.heap.size]?=some (.stringIter (ofL ln) (p+u.length))/\Ext w' w7) ?_ ?_
  ·have wr:∀(x:Nat) (w7:World),lX c=([92],x)->Bld w7 w'.heap.size b (l++gO (ln.take p)++[92])->Chg (BCh w6 w'.heap.size b) w6 w7->[Value.int .i32 (x:Int)]=[.int .i32 ((lX c).2:Nat)]/\Bld w7 w'.heap.size b (l++gO (ln.take p)++(lX c).1)/\w7.heap[w4.heap.size]?=some (.stringIter (ofL ln) (p+u.length))/\Ext w' w7:=by
    intro x w7 e h7 hc7;rw[e];exact⟨rfl,h7,BCh.iter hc7 hit6 (by omega),BCh.new hx6 (aL _) (by omega) hc7⟩
   refine cK.cut (λst w7=>st=[.bool (decide (c=92\/c=34\/c=36))]/\w7=w6) ?_ ?_
   ·rw[bI,aN];refine⟨λh=>?_,λh=>?_⟩
    ·rw[cO h,cO (.inl (by omega))];exact⟨rfl,rfl⟩
    rw[bI,aN];refine⟨λh'=>?_,λh'=>?_⟩
    ·rw[cO h',cO (.inr (.inl (by omega)))];exact⟨rfl,rfl⟩
    rw[bI];rw[show decide (((c:Nat):Int)=36)=decide (c=92\/c=34\/c=36)by rw[decide_eq_decide];omega];exact⟨rfl,rfl⟩
   rintro st g5 w7 ⟨rfl,rfl⟩;simp only[aE];rw[aN];refine⟨λh=>?_,λh=>?_⟩
   ·refine pJ (n:=92) hB6 (by omega) (by omega) (by omega) λw8 h8 hc8=>?_;exact wr c w8 (by unfold lX;rw[aF h]) h8 hc8
   rw[bI,aN];refine⟨λh'=>?_,λh'=>?_⟩
   ·refine pJ (n:=92) hB6 (by omega) (by omega) (by omega) λw8 h8 hc8=>?_;exact wr 116 w8 (by unfold lX;rw[aD h,aF (by omega)]) h8 hc8
   rw[bI,aN];refine⟨λh''=>?_,λh''=>?_⟩
   ·refine pJ (n:=92) hB6 (by omega) (by omega) (by omega) λw8 h8 hc8=>?_;exact wr 114 w8 (by unfold lX;rw[aD h,aD (by omega),aF (by omega)]) h8 hc8
   have e:lX c=([],c):=by unfold lX;rw[aD h,aD (by omega),aD (by omega)]
   rw[e,cH];exact⟨rfl,hB6,hit6,hx6⟩
  rintro st g5 w7 ⟨rfl,hB7,hit7,hx7⟩;simp only[aE];have hz7:=hx7.size;refine HO hB7 hz7 (by rw[aB];omega) hok λv w8 h8 hc8=>?_;have hit8:=BCh.iter hc8 hit7 (by omega);refine⟨⟨p+u.length,hfit,trivial,by rw[hdr2];exact hur,hit8,?_,BCh.new hx7 (aL _) (by omega) hc8⟩,?_⟩
  ·rw[hnext,JM,hu2,<-bB,<-bB];exact h8
  ·rw[hit8,hit];show ln.length-(p+u.length)<ln.length-p;omega
end
theorem Bm{r:Str}{d:Nat}(h:(dW r d).2=0):1<=(dW r d).1/\(dW r d).1<=r.length:=by
 exact((iE _ r (aL _)).1 d _ (eO rfl h)).2
theorem BD(c:UInt8)(r:Str):iH (c::r)=
 (if(c==10)=true then(⟨5,[10],0⟩,1,0)
 else if eD c=true then(⟨1,(c::r).take (cS dM (c::r)),0⟩,cS dM (c::r),if 32<cS dM (c::r)then 3 else 0)
 else if eH c=true then
  (⟨2,(c::r).take (cS eH (c::r)),0⟩,cS eH (c::r),if((cS eH (c::r)<(c::r).length&&eD (((c::r).drop (cS eH (c::r))).headD 0))||(c==48&&1<cS eH (c::r)))=true then 40 else if Num.goodN ((c::r).take (cS eH (c::r)))=true then 0 else 3)
 else if(c==34)=true then
  (if(mM ((c::r).length+1) r 0).2=0 then(⟨3,r.take ((mM ((c::r).length+1) r 0).1-1),0⟩,(mM ((c::r).length+1) r 0).1+1,0)else(⟨0,[],0⟩,0,(mM ((c::r).length+1) r 0).2))
 else if kW [60,60] (c::r)=true then(⟨3,(fN (c::r)).1,0⟩,(fN (c::r)).2.1,(fN (c::r)).2.2)
 else(⟨4,nO (c::r),0⟩,(nO (c::r)).length,if(nO (c::r)).length=0 then 40 else 0)):=rfl
section
variable [HX]
theorem UG{r:Str}{K:Q0}(hT:TabI w)(hU:Utf (c::r))(hl:r.length<=100000)
  (hK:∀w',Ext w w'->K (.tuple #[.agg (eK (iH (c::r)).1).toArray,i64 ((iH (c::r)).2.1:Nat),i64 (iH (c::r)).2.2]) w'):aI P0 61 [str (c::r)] w K:=by
 refine TI ?_;unfold W61;have hlen:(c::r).length=r.length+1:=rfl;refine bN λa w1 ha hz1 hab1 hx1=>?_;refine bN λb w2 hb hz2 hbb2 hx2=>?_;have hx02:=hx1.trans hx2;have hab2:=hx2.at hab1 id;have cond:∀(k:Nat),k<256->(((c.toNat:Nat):Int)=(k:Int)↔c=UInt8.ofNat k):=λk hk=>by
  have:=CB c k hk;rwa[decide_eq_decide]at this
 generalize ho:iH (c::r)=o at hK;rw[BD]at ho;refine cK.cut (λst w'=>st=[i64 o.2.2,i64 (o.2.1:Nat)]/\Ext w w'/\w'.heap[a]?=some (.cells [i64 0,str [],i64 0].toArray TkT (0,0))/\w'.heap[b]?=some (.cells (eK o.1).toArray TkT (0,0))) ?_ ?_
 ·
  have put:∀{w3:World} {t:Tok} {old:List Value} {K':World->Prop},Ext w w3->w3.heap[a]?=some (.cells [i64 0,str [],i64 0].toArray TkT (0,0))->w3.heap[b]?=some (.cells old.toArray TkT (0,0))->old.length=3->
    (∀w4,Ext w w4->w4.heap[a]?=some (.cells [i64 0,str [],i64 0].toArray TkT (0,0))->w4.heap[b]?=some (.cells (eK t).toArray TkT (0,0))->K' w4)->stW 3 (.pointer (some ⟨b,0,none⟩)) (.agg (eK t).toArray) w3 K':=by
   intro w3 t old K' hx ha3 hb3 ho3 h;refine cL hb3 rfl ho3 rfl λw4 hz4 hb4 hc4=>?_;exact h w4 (hx.new hc4 (by omega)) (hc4.at ha3 (by omega)) hb4
  refine qE (i:=0) (by rw[hlen];omega) ?_;simp only[List.getElem_cons_zero];rw[bI,aN];refine⟨λe=>?_,λe=>?_⟩
  ·have e:c=10:=(cond 10 (by omega)).1 e;subst e;simp only[beq_self_eq_true,gY]at ho;subst ho;simp only[dJ,eA,aA,aC,aR,aV,Nat.reduceAdd,Nat.reduceLT,dB,aY];refine cL (l:=[i64 5,str [10],i64 0]) hab2 rfl rfl rfl λw3 hz3 hab3 hc3=>?_;refine fY hab3 rfl ?_;exact hK w3 (hx02.new hc3 (by omega))
  have e:¬(c==10)=true:=λh=>e ((cond 10 (by omega)).2 (by simpa using h));rw[aD e]at ho;refine uZ ?_;rw[cU];refine⟨λhy=>?_,λhno=>?_⟩
  ·rw[aF hy]at ho;refine Ig (q:=dM) (by rw[hlen];omega) (λc {w K} h=>wT (OD h)) ?_;have hle:=pU dM (c::r);rw[hlen]at hle;generalize cS dM (c::r)=n at*
   rw[fC,eM];refine⟨by omega,by rw[hlen];omega,?_⟩;rw[fR,bJ,aP];simp only[dJ,eA,aA,aC,aR,aV,Nat.reduceAdd,Nat.reduceLT,dB,aY];refine put (t:=⟨1,(c::r).take n,0⟩) hx02 hab2 hbb2 rfl λw4 hx4 ha4 hb4=>?_;rw[mU,aN];subst ho;refine⟨λh=>?_,λh=>?_⟩
   ·exact⟨by rw[aF (by omega)],hx4,ha4,hb4⟩
   ·exact⟨by rw[aD (by omega)],hx4,ha4,hb4⟩
  rw[aD (by rw[hno];decide)]at ho;refine Be ?_;rw[cU];refine⟨λhy=>?_,λhno=>?_⟩
  ·rw[aF hy]at ho;refine Ig (q:=eH) (by rw[hlen];omega) (λc {w K} h=>wT (Be h)) ?_;have hle:=pU eH (c::r);rw[hlen]at hle;generalize cS eH (c::r)=n at*
   rw[fC,eM];refine⟨by omega,by rw[hlen];omega,?_⟩;rw[fR,bJ,aP];simp only[dJ,eA,aA,aC,aR,aV,Nat.reduceAdd,Nat.reduceLT,dB,aY];refine put (t:=⟨2,(c::r).take n,0⟩) hx02 hab2 hbb2 rfl λw4 hx4 ha4 hb4=>?_;refine cK.cut (λst w'=>st=[.bool ((n<(c::r).length&&eD (((c::r).drop n).headD 0))||(c==48&&1<n))]/\w'=w4) ?_ ?_
   ·rw[eQ,eL,show decide (((n:Nat):Int)<(((c::r).length:Nat):Int))=decide (n<(c::r).length)by rw[decide_eq_decide];omega];simp only[lI];refine GdW.look (eD (((c::r).drop n).headD 0)) (λhg J hJ=>?_) λg=>?_
    ·have hlt:n<(c::r).length:=by simpa using hg
     refine qE hlt ?_;refine uZ ?_;rw[gP hlt]at hJ;exact hJ
    simp only[aE];rw[iW,cU];refine⟨λh=>by rw[h,wX];exact⟨rfl,trivial⟩,λh=>?_⟩;have e5:decide (((c.toNat:Nat):Int)=48)=(c==48):=xP 48 c;rw[bI,e5];simp only[lI,mU,oG,aE];intro g2;rw[iW,h,qG];refine⟨?_,trivial⟩;rw[show decide ((1:Int)<((n:Nat):Int))=decide (1<n)by rw[decide_eq_decide];omega]
   rintro st g w5 ⟨rfl,rfl⟩;simp only[aE];rw[cU];refine⟨λh=>?_,λh=>?_⟩
   ·rw[aF h]at ho;subst ho;exact⟨rfl,hx4,ha4,hb4⟩
   rw[aD (by rw[h];decide)]at ho;rw[bH,eC];refine⟨str ((c::r).take n),by rw[bO,cP,hb4];rfl,?_⟩;refine FQ (by have:((c::r).take n).length<=n:=(by rw[cG];omega);omega) λw6 hx6=>?_;rw[iN,cU];subst ho;refine⟨λh=>?_,λh=>?_⟩
   ·exact⟨by rw[aD (by simpa using h)],hx4.trans hx6,hx6.at ha4 id,hx6.at hb4 id⟩
   ·exact⟨by rw[aF (by simpa using h)],hx4.trans hx6,hx6.at ha4 id,hx6.at hb4 id⟩
  rw[aD (by rw[hno];decide)]at ho;rw[bI,aN];refine⟨λe=>?_,λe=>?_⟩
  ·have e:c=34:=(cond 34 (by omega)).1 e;rw[aF (by rw[e];rfl),pK (by omega)]at ho;refine OG (d:=0) (by omega) (by omega) ?_;by_cases h0:(dW r 0).2=0
   ·rw[aF h0]at ho;have hf:=Bm h0;unfold pG;rw[aF h0,bK];refine⟨_,rfl,?_⟩;rw[bK];refine⟨_,rfl,?_⟩;rw[bI,aN];refine⟨λ_=>?_,λh=>absurd rfl h⟩;rw[nZ,dF (by omega) (by omega),fC,eM,eM];refine⟨by omega,by rw[hlen];omega,by omega,by omega,?_⟩;have et:((c::r).take (Int.toNat (((dW r 0).1+1:Nat)-1))).drop (Int.toNat 1)=r.take ((dW r 0).1-1):=by
     rw[show Int.toNat ((((dW r 0).1+1:Nat):Int)-1)=((dW r 0).1-1)+1 by omega];rfl
    rw[et];simp only[dJ,eA,aA,aC,aR,aV,Nat.reduceAdd,Nat.reduceLT,dB,aY];refine put (t:=⟨3,r.take ((dW r 0).1-1),0⟩) hx02 hab2 hbb2 rfl λw4 hx4 ha4 hb4=>?_;subst ho;exact⟨rfl,hx4,ha4,hb4⟩
   ·rw[aD h0]at ho;unfold pG;rw[aD h0,bK];refine⟨_,rfl,?_⟩;rw[bK];refine⟨_,rfl,?_⟩;rw[bI,aN];refine⟨λh=>absurd h h0,λh=>?_⟩;subst ho;exact⟨rfl,hx02,hab2,hbb2⟩
  have e:¬(c==34)=true:=λh=>e ((cond 34 (by omega)).2 (by simpa using h));rw[aD e]at ho;refine xN ?_;rw[cU];refine⟨λhy=>?_,λhno=>?_⟩
  ·rw[aF (show kW [60,60] (c::r)=true from hy)]at ho;have h2:2<=(c::r).length:=Eh (p:=[60,60]) (s:=c::r) hy;rw[bH,bO,aQ];refine qA hbb2 rfl (by simp) λw3 hz3 hb3 hc3=>?_;have hx3:=hx02.new hc3 (by omega);have ha3:=hc3.at hab2 (by omega);refine JI (hT.ext hx3) hU (by rw[hlen];omega) h2 λw4 hx4=>?_;rw[bK];refine⟨_,rfl,?_⟩;rw[bK];refine⟨_,rfl,?_⟩;rw[bK];refine⟨_,rfl,?_⟩;have hb4:=hx4.at hb3 id;rw[bH,bO,aQ];refine qA hb4 rfl (by simp) λw5 hz5 hb5 hc5=>?_;subst ho;exact⟨rfl,(hx3.trans hx4).new hc5 (by omega),hc5.at (hx4.at ha3 id) (by omega),by rw[hb5];simp[eK]⟩
  ·rw[aD (show¬kW [60,60] (c::r)=true from by rw[show kW [60,60] (c::r)=false from hno];decide)]at ho;refine KF (by omega) ?_;simp only[dJ,eA,aA,aC,aR,aV,Nat.reduceAdd,Nat.reduceLT,dB,aY];refine put (t:=⟨4,nO (c::r),0⟩) hx02 hab2 hbb2 rfl λw4 hx4 ha4 hb4=>?_;rw[bH,eC];refine⟨str (nO (c::r)),by rw[bO,cP,hb4];rfl,?_⟩;rw[eQ,bI,aN];subst ho;refine⟨λh=>?_,λh=>?_⟩
   ·exact⟨by rw[aF (by omega)],hx4,ha4,hb4⟩
   ·exact⟨by rw[aD (by omega)],hx4,ha4,hb4⟩
 rintro st g w3 ⟨rfl,hx3,ha3,hb3⟩;refine fY hb3 rfl ?_;refine cL (l:=eK o.1) ha3 rfl rfl rfl λw4 hz4 ha4 hc4=>?_;refine fY ha4 rfl ?_;exact hK w4 (hx3.new hc4 (by omega))
end
theorem Km{s:Str}{k:Nat}(h:Utf s)(hc:∀c,(s.drop k).head?=some c->c.toNat<128):Utf (s.drop k):=by
 cases hd:s.drop k with
 |nil=>exact .nil
 |cons c b=>exact(xY h hd (hc c (by rw[hd];rfl))).2
theorem qR{s:Str}{k:Nat}(h:Utf s)(hk:s[k]?=some c)(hc:c.toNat<128):Utf (s.drop (k+1)):=by
 obtain⟨hlt,e⟩:=bF.1 hk;have hd:=gP hlt;rw[e]at hd;exact qS (xY h hd hc).2 hc
theorem yI(q:UInt8->Bool):∀(s:Str) (b:UInt8),(s.drop (cS q s)).head?=some b->q b=false
 |[],b,h=>by simp[cS]at h
 |c::r,b,h=>by
  simp only[cS]at h
  by_cases hc:q c=true
  ·rw[aF hc,bG]at h;exact yI q r b h
  ·rw[aD hc]at h
   simp only[bJ,List.head?_cons,bD]at h
   rw[<-h];simpa using hc
theorem Fo(q:UInt8->Bool):∀(s:Str) (k:Nat),cS q s=k+1->∃c,s[k]?=some c/\q c=true
 |[],k,h=>by simp[cS]at h
 |c::r,k,h=>by
  simp only[cS]at h
  by_cases hc:q c=true
  ·rw[aF hc]at h
   cases k with
   |zero=>exact⟨c,rfl,hc⟩
   |succ k=>
    obtain⟨x,h1,h2⟩:=Fo q r k (by omega)
    exact⟨x,by simpa using h1,h2⟩
  ·rw[aD hc]at h;omega
theorem IC:∀(s:Str) (i:Nat),Lib.index s [42,47]=(i:Int)->s[i+1]?=some 47
 |[],i,h=>by
  unfold Lib.index at h
  simp at h
 |b::l,i,h=>by
  unfold Lib.index at h
  split at h
  ·rename_i hp
   have hi:i=0:=by omega
   subst hi
   cases l with
   |nil=>simp[List.isPrefixOf]at hp
   |cons c l=>
    simp only[List.isPrefixOf,aZ,fI,Bool.and_true]at hp
    simp[hp.2]
  ·split at h
   ·omega
   ·rename_i hq
    have h1:Lib.index l [42,47]≠-1:=by simpa using hq
    have hg:=Lib.index_ge l [42,47]
    have:=IC l (i-1) (by omega)
    have hi:1<=i:=by omega
    rw[show i-1+1=i by omega]at this
    simpa using this
theorem Je{s:Str}(h:Utf s):Utf (s.drop (cS (λb=>b !=10) s)):=
 Km h λc hc=>by
  have:=yI _ _ _ hc
  have:c=10:=by simpa using this
  subst this;decide
theorem uV:∀(n:Nat) (s:Str),Utf s->Utf (s.drop (cZ n s).1)
 |0,s,h=>by simpa[cZ]using h
 |n+1,[],h=>by simpa[cZ]using h
 |n+1,c::r,h=>by
  rw[CE]
  split
  ·rename_i hb
   have hc:c.toNat<128:=by
    simp only[eB,fI]at hb;rcases hb with(rfl|rfl)|rfl<;>decide
   rw[bG];exact uV n r (qS h hc)
  split
  ·have:=uV n _ (Je h);rw[eX]at this;rw[lS];exact this
  split
  ·rename_i hp;split
   ·simpa using h
   ·rename_i hn;obtain⟨j,hj⟩:=Int.eq_ofNat_of_zero_le (show 0<=Lib.index (r.drop 1) [42,47]by omega);have he:=IC _ _ hj;have hu:Utf ((c::r).drop ((Lib.index (r.drop 1) [42,47]).toNat+4)):=by
     rw[hj,aP];refine qR (k:=j+3) (c:=47) h ?_ (by decide);rw[fU]at he;rw[dK,<-he];congr 1;omega
    have:=uV n _ hu;rw[eX]at this;rw[lS];exact this
  ·simpa using h
theorem BX:∀(n:Nat) (name s:Str) (c:UInt8),(kN n name s).2.2=0->(s.drop (kN n name s).2.1).head?=some c->c=10
 |0,_,_,_,h,_=>by simp[kN]at h
 |n+1,name,s,c,h,hc=>by
  rw[Dl]at h hc
  split at h
  ·rename_i h1
   rw[aF h1]at hc
   have:=yI _ _ _ hc
   simpa using this
  rename_i h1
  rw[aD h1]at hc
  split at h
  ·cases h
  rename_i h2
  rw[aD h2]at hc
  split at h
  ·rename_i h3
   rw[aF h3]at hc
   refine BX n name _ c h3 ?_
   rw[eX]
   rw[show cS (λb=>b !=10) s+1+(kN n name (s.drop (cS (λb=>b !=10) s+1))).2.1=(kN n name (s.drop (cS (λb=>b !=10) s+1))).2.1+(cS (λb=>b !=10) s+1)by omega]
   exact hc
  ·rename_i h3;exact absurd h h3
theorem Ey{s:Str}(h:(fN s).2.2=0)(hc:(s.drop (fN s).2.1).head?=some c):c=10:=by
 unfold fN at h hc;simp only at h hc;generalize (if eD ((s.drop 2).headD 0)=true then cS dM (s.drop 2)else 0)=n at h hc;split at h
 ·cases h
 rename_i h1;rw[aD h1]at hc;split at h
 ·rename_i h2;rw[aF h2]at hc;split at h
  ·rename_i h3;rw[aF h3]at hc;refine BX _ _ _ c h3 ?_;rw[eX,lS];exact hc
  ·rename_i h3;exact absurd h h3
 ·cases h
theorem yU(h:dM c=true):c.toNat<128:=by
 have:∀m:Fin 256,dM (UInt8.ofNat m.val)=true->(UInt8.ofNat m.val).toNat<128:=by decide+kernel
 have h':=this ⟨c.toNat,oJ c⟩;rw[mY]at h';exact h' h
theorem Dr(h:eH c=true):c.toNat<128:=yU (by unfold dM;rw[h];simp)
theorem Fa(h:zT.contains c=true):c.toNat<128:=by
 have:∀m:Fin 256,zT.contains (UInt8.ofNat m.val)=true->(UInt8.ofNat m.val).toNat<128:=by decide+kernel
 have h':=this ⟨c.toNat,oJ c⟩;rw[mY]at h';exact h' h
theorem Jm{x:Str}(h:qV.contains x=true):x.length=2/\∃c,x[1]?=some c/\c.toNat<128:=by
 have:x∈qV:=by simpa using h
 simp only[qV,bC,dH,mD]at this;rcases this with rfl|rfl|rfl|rfl|rfl|rfl<;>exact⟨rfl,_,rfl,by decide⟩
theorem Iq{r:Str}(h:Utf (c::r))(h0:(iH (c::r)).2.2=0):Utf ((c::r).drop (iH (c::r)).2.1):=by
 have run:∀q:UInt8->Bool,(∀c,q c=true->c.toNat<128)->Utf ((c::r).drop (cS q (c::r))):=λq hq=>by
  cases hk:cS q (c::r)with
  |zero=>exact h
  |succ k=>
   obtain⟨x,h1,h2⟩:=Fo q _ _ hk;exact qR h h1 (hq x h2)
 rw[BD]at h0⊢;split
 ·rename_i e;have e:c=10:=by simpa using e
  exact qS h (by rw[e];decide)
 rename_i n1;rw[aD n1]at h0;split
 ·exact run _ λc=>yU
 rename_i n2;rw[aD n2]at h0;split
 ·exact run _ λc=>Dr
 rename_i n3;rw[aD n3]at h0;split
 ·rename_i e;rw[aF e]at h0;split
  ·rename_i h1;rw[pK (by simp only[aA];omega)]at h1⊢;have hf:=Bm h1;have he:=sI _ r 0 _ (aL _) (eO rfl h1:dW r 0=((dW r 0).1,0));refine qR (c:=34) h ?_ (by decide);rw[show(dW r 0).1=(dW r 0).1-1+1 by omega,dK];exact he
  ·rename_i h1;rw[aD h1]at h0;exact absurd h0 h1
 rename_i n4;rw[aD n4]at h0;split
 ·rename_i h1;rw[aF h1]at h0;exact Km h λx hx=>by rw[Ey h0 hx];decide
 rename_i n5;rw[aD n5]at h0;show Utf ((c::r).drop (nO (c::r)).length);unfold nO;split
 ·rename_i h1;obtain⟨e1,x,e2,e3⟩:=Jm h1;rw[e1];refine qR (k:=1) (c:=x) h ?_ e3;rw[<-e2,uE (by omega)]
 split
 ·rename_i h1;exact qS h (Fa h1)
 ·exact h
theorem Cn{s:Str}:∀(n i:Nat),s.length<n+i->zL n s i=none->Utf (s.drop i)
 |0,i,hl,_=>by rw[dO (by omega)];exact .nil
 |n+1,i,hl,h=>by
  rw[zL]at h
  split at h
  ·rename_i hi;rw[dO hi];exact .nil
  split at h
  ·cases h
  ·rename_i hi h0
   have hs:sK s i=fK s i:=by unfold sK;omega
   rw[hs]at h
   have:=Utf.cons (Rn.of h0) (Cn n (i+fK s i) (by omega) h)
   rwa[<-dY,mI]at this
theorem Mu{s:Str}(h:fK s i=0):Lib.hasPrefix (s.drop i) [239,191,189]=false:=by
 rw[Bool.eq_false_iff];intro hp;obtain⟨r,hr⟩:=Cx.1 hp;have hn:Rn [239,191,189]:=⟨by decide,by decide⟩;have:=hn.at hr.symm;rw[h]at this;cases this
theorem JO{s:Str}(h:ME s i n 65533):Lib.hasPrefix (s.drop i) [239,191,189]=true:=by
 have hb:=h.bytes;refine Cx.2 ?_;have e:Lib.encodeRune ((65533:Nat):Int)=[239,191,189]:=by decide
 rw[e]at hb;rw[hb];exact List.take_prefix _ _
end
section
open Go Go.Eng Go.Lex Go.Syn
variable{w:World}{K:Q0}{cs:List Value}{G:Nat->Prop}{T:TypeId}{i:Nat}{n:Nat}{v:Value}{w':World}{P:Program}{c:UInt8}{S:Nat->Prop}
theorem Bi{s:Str}(h:Utf s):∀{k:Nat},(∀c,s[k]?=some c->c.toNat<128)->Utf (s.take k):=by
 induction h with
 |nil=>intro k _;rw[List.take_nil];exact .nil
 |@cons u r hu hr ih=>
  intro k hc;by_cases hk:u.length<=k
  ·rw[List.take_append,lT hk];refine Utf.cons hu (ih λc h2=>hc c ?_);rw[cJ hk];exact h2
  ·by_cases h0:k=0
   ·rw[h0,oN];exact .nil
   ·have hlt:k<u.length:=by omega
    have hg:=hc u[k] (by rw[dA hlt,aG hlt]);rcases hu.cases with⟨x,rfl,_⟩|hh
    ·simp only[aA,aC]at hlt;omega
    ·have:=hh u[k] (dU hlt);omega
theorem tL(q:UInt8->Bool):∀s:Str,∀c∈s.take (cS q s),q c=true
 |[],c,h=>by simp at h
 |d::r,c,h=>by
  unfold cS at h
  split at h
  ·rename_i hq
   rw[lO]at h
   rcases bC.1 h with rfl|h
   ·exact hq
   ·exact tL q r c h
  ·simp at h
theorem DW(h1:c.toNat<128):Rn [c]:=by
 refine⟨by simp,?_⟩;have hall:∀c:Fin 256,c.val<128->fK [UInt8.ofNat c.val] 0=1:=by decide+kernel
 have:=hall ⟨c.toNat,oJ c⟩ h1;rw[mY]at this;exact this
theorem gM{s:Str}(h:∀c∈s,c.toNat<128):Utf s:=by
 induction s with
 |nil=>exact .nil
 |cons c s ih=>exact Utf.cons (DW (h c (by simp))) (ih λd hd=>h d (aK _ hd))
theorem Hw(a b:Str):gO (a++b)=gO a++gO b:=by
 induction a with
 |nil=>rfl
 |cons c a ih=>
  rw[dC];simp only[gO];rw[ih]
  repeat' split
  all_goals rfl
theorem JL{s:Str}(h:Utf s):Utf (gO s):=by
 induction h with
 |nil=>exact .nil
 |@cons u r hu hr ih=>
  rw[Hw];refine Utf.app ?_ ih;rcases hu.cases with⟨x,rfl,hx⟩|hh
  ·refine gM λc hc=>?_;simp only[gO]at hc
   repeat' split at hc
   all_goals
    simp only[bC,dH,mD]at hc
   ·rcases hc with rfl|rfl
    ·decide
    ·exact hx
   ·rcases hc with rfl|rfl<;>decide
   ·rcases hc with rfl|rfl<;>decide
   ·subst hc;exact hx
  ·have e:∀v:Str,(∀c∈v,128<=c.toNat)->gO v=v:=by
    intro v;induction v with
    |nil=>intro _;rfl
    |cons c v ihv=>
     intro hv;have hc:=hv c (by simp);have ne:∀k:UInt8,k.toNat<128->(c==k)=false:=λk hk=>by
      rw[beq_eq_false_iff_ne];rintro rfl;omega
     simp only[gO,ne 92 (by decide),ne 34 (by decide),ne 36 (by decide),ne 9 (by decide),ne 13 (by decide)];rw[ihv λd hd=>hv d (aK _ hd)];rfl
   rw[e u hh];exact Utf.one hu
theorem Dm:∀(n:Nat) (name s:Str),Utf s->(kN n name s).2.2=0->Utf (kN n name s).1
 |0,_,_,_,h=>by cases h
 |n+1,name,s,hu,h=>by
  simp only[kN]at h⊢
  split
  ·exact .nil
  rename_i n1
  rw[aD n1]at h
  split
  ·exact .nil
  rename_i n2
  rw[aD n2]at h
  split
  ·rename_i h3
   have hg:s[cS (λb=>b !=10) s]?=some 10:=by
    have hlt:cS (λb=>b !=10) s<s.length:=by omega
    have:=yI (λb=>b !=10) s s[cS (λb=>b !=10) s] (by rw[List.head?_drop,aG hlt]);rw[aG hlt];have:s[cS (λb=>b !=10) s]=10:=by simpa using this
    rw[this]
   have ih:=Dm n name _ (qR hu hg (by decide)) h3;exact((JL (Bi hu (k:=cS (λb=>b !=10) s) λc hc=>by rw[hg]at hc;injection hc with hc;rw[<-hc];decide)).app (gM (by decide))).app ih
  ·exact .nil
structure rF(t:Tok):Prop where
 ut:Utf t.t/\t.t.length<=100000
 name:t.k=1->(∃c r,t.t=c::r/\eD c=true)/\∀d∈t.t,dM d=true
 num:t.k=2->∀d∈t.t,eH d=true
theorem Ot{r:Str}(h:Utf (c::r))(h0:(iH (c::r)).2.2=0)(hl:(c::r).length<=16384)(hts:(iH (c::r)).1.k=3->(iH (c::r)).1.t.length<=100000):rF (iH (c::r)).1:=by
 have tl:∀n,((c::r).take n).length<=100000:=λn=>by rw[cG];omega
 rw[BD]at h0 hts⊢;split
 ·exact⟨⟨gM (by decide),by decide⟩,λe=>absurd e (by decide),λe=>absurd e (by decide)⟩
 rename_i n1;rw[aD n1]at h0 hts;split
 ·rename_i e;refine⟨⟨gM λd hd=>yU (tL _ _ d hd),tl _⟩,λ_=>⟨⟨c,r.take (cS dM r),?_,e⟩,λd hd=>tL _ _ d hd⟩,λe=>absurd e (show¬(1:Int)=2 by decide)⟩;show(c::r).take (cS dM (c::r))=_;have:dM c=true:=by unfold dM;rw[e];rfl
  have hrun:cS dM (c::r)=cS dM r+1:=by rw[cS,aF this]
  rw[hrun,lO]
 rename_i n2;rw[aD n2]at h0 hts;split
 ·exact⟨⟨gM λd hd=>Dr (tL _ _ d hd),tl _⟩,λe=>absurd e (show¬(2:Int)=1 by decide),λ_ d hd=>tL _ _ d hd⟩
 rename_i n3;rw[aD n3]at h0 hts;split
 ·rename_i e;rw[aF e]at h0 hts;split
  ·rename_i h1;rw[aF h1]at hts;refine⟨⟨?_,hts rfl⟩,λe=>absurd e (show¬(3:Int)=1 by decide),λe=>absurd e (show¬(3:Int)=2 by decide)⟩;rw[pK (by simp only[aA];omega)]at h1⊢;have he:=sI _ r 0 _ (aL _) (eO rfl h1:dW r 0=((dW r 0).1,0));have e34:c=34:=by simpa using e
   have hr:Utf r:=qS h (by rw[e34];decide);exact Bi hr λx hx=>by rw[he]at hx;injection hx with hx;rw[<-hx];decide
  ·exact⟨⟨.nil,cX _⟩,λe=>absurd e (show¬(0:Int)=1 by decide),λe=>absurd e (show¬(0:Int)=2 by decide)⟩
 rename_i n4;rw[aD n4]at h0 hts;split
 ·rename_i h1;rw[aF h1]at h0 hts;refine⟨⟨?_,hts rfl⟩,λe=>absurd e (show¬(3:Int)=1 by decide),λe=>absurd e (show¬(3:Int)=2 by decide)⟩;show Utf (fN (c::r)).1;have h0:(fN (c::r)).2.2=0:=h0;unfold fN at h0⊢;simp only at h0⊢;generalize (if eD (((c::r).drop 2).headD 0)=true then cS dM ((c::r).drop 2)else 0)=n at h0⊢;split
  ·exact .nil
  rename_i m1;rw[aD m1]at h0;split
  ·rename_i m2;rw[aF m2]at h0;split
   ·rename_i m3;refine Dm _ _ _ ?_ m3;rw[List.head?_drop]at m2;exact qR h m2 (by decide)
   ·exact .nil
  ·exact .nil
 rename_i n5;rw[aD n5]at h0 hts;refine⟨⟨gM λd hd=>?_,?_⟩,λe=>absurd e (show¬(4:Int)=1 by decide),λe=>absurd e (show¬(4:Int)=2 by decide)⟩
 ·have hd:d∈nO (c::r):=hd;unfold nO at hd;split at hd
  ·rename_i q1;have:∀x∈qV,∀d∈x,d.toNat<128:=by decide
   exact this _ (xV.1 q1) d hd
  split at hd
  ·rename_i q2;have hd:d=c:=by simpa using hd
   rw[hd];exact Fa q2
  ·cases hd
 ·show(nO (c::r)).length<=100000;unfold nO
  repeat' split
  ·exact tl 2
  ·exact tl 1
  ·exact cX _
end
section
open Go Go.Eng Go.RowKit Go.Syn Go.Lex
variable{w:World}{K:Q0}{cs:List Value}{G:Nat->Prop}{T:TypeId}{i:Nat}{n:Nat}{v:Value}{w':World}{P:Program}{c:UInt8}{S:Nat->Prop}
theorem vY(n:Nat)(s:Str)(at_ cnt:Nat):iJ (n+1) s at_ cnt=(if(cZ (s.length+1) s).2≠0 then .bad (cZ (s.length+1) s).2 ((at_+(cZ (s.length+1) s).1:Nat):Int)
 else if s.drop (cZ (s.length+1) s).1=[]then .ok [⟨0,[],((at_+(cZ (s.length+1) s).1:Nat):Int)⟩]
 else if(iH (s.drop (cZ (s.length+1) s).1)).2.2≠0 then .bad (iH (s.drop (cZ (s.length+1) s).1)).2.2 ((at_+(cZ (s.length+1) s).1:Nat):Int)
 else if cnt=4096 then .bad 3 ((at_+(cZ (s.length+1) s).1:Nat):Int)
 else match iJ n ((s.drop (cZ (s.length+1) s).1).drop (iH (s.drop (cZ (s.length+1) s).1)).2.1) (at_+(cZ (s.length+1) s).1+(iH (s.drop (cZ (s.length+1) s).1)).2.1) (cnt+1)with
  |.ok l=>.ok (⟨(iH (s.drop (cZ (s.length+1) s).1)).1.k,(iH (s.drop (cZ (s.length+1) s).1)).1.t,((at_+(cZ (s.length+1) s).1:Nat):Int)⟩::l)
  |x=>x):=rfl
theorem Pr:∀{t:Str},Utf t->∀{s:Str} {n i:Nat},s.drop i=t->zL n s i=none:=by
 intro t h;induction h with
 |nil=>
  intro s n i hs;have hl:=Au.1 hs;cases n with
  |zero=>rfl
  |succ n=>rw[zL,aF hl]
 |@cons u r hu hr ih=>
  intro s n i hs;have hat:=hu.at hs;have hp:=hu.pos;cases n with
  |zero=>rfl
  |succ n=>
   rw[zL];split
   ·rfl
   ·rw[aD (by omega)];refine ih ?_;rw[show sK s i=u.length by unfold sK;omega];exact Ci hs
theorem Kk{s:Str}{l:List Tok}(h:iI s=.ok l):Utf s:=by
 unfold iI at h;split at h
 ·cases h
 cases hb:zL (s.length+1) s 0 with
 |some i=>rw[hb]at h;cases h
 |none=>
  have:=Cn (s:=s) (s.length+1) 0 (by omega) hb;rwa[bJ]at this
end
section
open Go Go.Eng Go.Lex Go.Syn
variable{w:World}{K:Q0}{cs:List Value}{G:Nat->Prop}{T:TypeId}{i:Nat}{n:Nat}{v:Value}{w':World}{P:Program}{c:UInt8}{S:Nat->Prop}
theorem rF.at_{t:Tok}(h:rF t)(a:Int):rF ⟨t.k,t.t,a⟩:=⟨h.ut,h.name,h.num⟩
theorem CH:∀(n:Nat) (s:Str) (a cnt:Nat) (l:List Tok),Utf s->s.length<=16384->iJ n s a cnt=.ok l->TS l->∀t∈l,rF t
 |0,_,_,_,_,_,_,h,_=>by simp[iJ]at h
 |n+1,s,a,cnt,l,hu,hl,h,hts=>by
  simp only[iJ]at h
  have hsk:=uV (s.length+1) s hu
  generalize cZ (s.length+1) s=k at*
  split at h
  ·cases h
  split at h
  ·injection h with h
   subst h
   intro t ht
   rw[aU]at ht
   subst ht
   exact⟨⟨.nil,cX _⟩,λe=>absurd e (show¬(0:Int)=1 by decide),λe=>absurd e (show¬(0:Int)=2 by decide)⟩
  rename_i h2
  split at h
  ·cases h
  rename_i h3
  have h3:(iH (s.drop k.1)).2.2=0:=by simpa using h3
  split at h
  ·cases h
  split at h
  ·rename_i l2 hr
   injection h with h
   subst h
   have hdl:(s.drop k.1).length<=16384:=by rw[aJ];omega
   cases hd:s.drop k.1 with
   |nil=>exact absurd hd h2
   |cons c r=>
    rw[hd]at h3 hsk hr hdl hts
    have hd2:((c::r).drop (iH (c::r)).2.1).length<=16384:=by rw[aJ];omega
    have ih:=CH n _ _ _ _ (Iq hsk h3) hd2 hr λt ht=>hts t (aK _ ht)
    intro t ht
    rcases bC.1 ht with rfl|ht
    ·exact(Ot hsk h3 hdl λe=>(hts _ aX e).2).at_ _
    ·exact ih t ht
  ·rename_i hne
   exact absurd h (hne l)
theorem zV{s:Str}{l:List Tok}(h:iI s=.ok l):∀t∈l,rF t:=by
 have hts:=AQ h;have hl:=(sM h).2;have hu:=Kk h;unfold iI at h;rw[aD (by omega)]at h;split at h
 ·cases h
 ·exact CH _ _ _ _ _ hu hl h hts
theorem EF:∀(N:Nat) (r:Str) (d:Int),r.length<=N->r.length<=lR r d\/∃k,lR r d=k+1/\r[k]?=some 125
 |N,[],d,_=>.inl (cX _)
 |0,c::r,d,h=>by simp at h
 |N+1,c::r,d,h=>by
  have hr:r.length<=N:=by simp only[aA]at h;omega
  have up:∀d':Int,(c::r).length<=1+lR r d'\/∃k,1+lR r d'=k+1/\(c::r)[k]?=some 125:=λd'=>by
   rcases EF N r d' hr with h1|⟨k,h1,h2⟩
   ·left;simp only[aA];omega
   ·exact .inr ⟨k+1,by omega,by rw[dK];exact h2⟩
  rw[gU]
  by_cases h1:c=123
  ·rw[aF h1];exact up _
  rw[aD h1]
  by_cases h2:c=125
  ·rw[aF h2]
   by_cases h3:d-1=0
   ·rw[aF h3];exact .inr ⟨0,rfl,by rw[h2];rfl⟩
   ·rw[aD h3];exact up _
  rw[aD h2]
  by_cases h3:c=34
  ·rw[aF h3]
   have ih:=EF N (r.drop (nJ r)) d (by rw[aJ];omega)
   rw[aJ]at ih
   rcases ih with h4|⟨k,h4,h5⟩
   ·left;simp only[aA];omega
   ·right
    rw[fU]at h5
    exact⟨nJ r+k+1,by omega,by rw[dK];exact h5⟩
  ·rw[aD h3];exact up _
theorem Hs:∀(N:Nat) (s:Str) (i e:Nat),s.length<=N->insP s=some (i,e)->s[i]?=some 36/\e=i+1+Ap (s.drop (i+1))
 |_,[],_,_,_,h=>by simp[Syn.insP]at h
 |_,[_],_,_,_,h=>by simp[Syn.insP]at h
 |0,_::_::_,_,_,hl,_=>by simp at hl
 |N+1,c::d::r,i,e,hl,h=>by
  simp only[aA]at hl
  rw[Syn.insP]at h
  by_cases h1:c=92
  ·rw[aF h1,jG]at h
   obtain⟨⟨i',e'⟩,h2,h3⟩:=h
   injection h3 with h3 h4
   subst h3 h4
   obtain⟨q1,q2⟩:=Hs N r i' e' (by omega) h2
   refine⟨by rw[dK,dK];exact q1,?_⟩
   rw[show i'+2+1=(i'+1)+1+1 by omega,bG,bG,q2]
   omega
  rw[aD h1]at h
  by_cases h2:c=36/\d=123
  ·rw[aF h2]at h
   injection h with h
   injection h with h3 h4
   subst h3 h4
   exact⟨by rw[h2.1];rfl,by rw[bG,bJ]⟩
  ·rw[aD h2,jG]at h
   obtain⟨⟨i',e'⟩,h2,h3⟩:=h
   injection h3 with h3 h4
   subst h3 h4
   obtain⟨q1,q2⟩:=Hs N (d::r) i' e' (by simp only[aA];omega) h2
   refine⟨by rw[dK];exact q1,?_⟩
   show e'+1=i'+1+1+Ap ((d::r).drop (i'+1))
   omega
theorem Iz{s:Str}{e:Nat}(h:Utf s)(hi:insP s=some (i,e)):Utf (s.take i)/\Utf (s.drop e):=by
 obtain⟨h1,h2⟩:=Hs s.length s i e (aL _) hi;refine⟨Bi h λc hc=>by rw[h1]at hc;injection hc with hc;rw[<-hc];decide,?_⟩;have hb:=EF _ (s.drop (i+1)) 0 (aL _);rw[show lR (s.drop (i+1)) 0=Ap (s.drop (i+1))from rfl]at hb;rcases hb with hb|⟨k,hb,hk⟩
 ·rw[aJ]at hb;rw[gR (by omega)];exact .nil
 ·rw[fU]at hk;rw[h2,hb,show i+1+(k+1)=i+1+k+1 by omega];exact qR h hk (by decide)
theorem DV:∀(N:Nat) (s:Str),s.length<=N->(dT s).length<=s.length
 |_,[],_=>aL _
 |_,[c],_=>by simp only[dT];split<;>simp
 |0,_::_::_,h=>by simp at h
 |N+1,c::e::r,h=>by
  simp only[aA]at h
  simp only[dT]
  split
  ·have:=DV N r (by omega)
   simp only[aA];omega
  ·have:=DV N (e::r) (by simp only[aA];omega)
   simp only[aA]at this⊢;omega
theorem vZ(r:Str):∀v:Str,(∀c∈v,c≠92)->dT (v++r)=v++dT r
 |[],_=>rfl
 |[c],h=>by
  have hc:=h c (by simp)
  cases r with
  |nil=>simp[dT,hc]
  |cons d r=>simp only[dC,cI,dT];rw[aD hc]
 |c::d::v,h=>by
  have hc:=h c (by simp)
  have ih:=vZ r (d::v) λx hx=>h x (aK _ hx)
  simp only[dC]at ih⊢
  simp only[dT]
  rw[aD hc]
  rw[show dT (d::(v++r))=d::(v++dT r)from ih]
theorem nQ:∀(N:Nat) (s:Str),s.length<=N->Utf s->Utf (dT s)
 |N,s,hN,h=>by
  cases h with
  |nil=>exact .nil
  |@cons u r hu hr=>
   have hlen:=hu.pos
   rw[aB]at hN
   rcases hu.cases with⟨x,rfl,hx⟩|hh
   ·by_cases h92:x=92
    ·subst h92
     cases hr with
     |nil=>exact .nil
     |@cons u2 r2 hu2 hr2=>
      rw[aB]at hN
      have hl2:=hu2.pos
      cases N with
      |zero=>simp at hN
      |succ N=>
       have ih:=nQ N r2 (by simp only[aA,aC]at hN;omega) hr2
       rcases hu2.cases with⟨y,rfl,hy⟩|hh2
       ·show Utf (dT (92::y::r2))
        simp only[dT]
        rw[aF trivial]
        refine Utf.cons (u:=[_]) (DW ?_) ih
        repeat' split
        ·decide
        ·decide
        ·decide
        ·exact hy
       ·cases u2 with
        |nil=>simp at hl2
        |cons y v=>
         have hy:=hh2 y (by simp)
         have ne:∀k:UInt8,k.toNat<128->y≠k:=λk hk e=>by rw[e]at hy;omega
         have hv:∀c∈v,c≠92:=λc hc e=>by have:=hh2 c (aK _ hc);rw[e]at this;exact absurd this (by decide)
         show Utf (dT (92::y::(v++r2)))
         simp only[dT]
         rw[aF trivial,aD (ne 110 (by decide)),aD (ne 116 (by decide)),aD (ne 114 (by decide)),vZ r2 v hv]
         exact Utf.cons hu2 ih
    ·cases N with
     |zero=>simp at hN
     |succ N=>
      rw[vZ r [x] (λc hc=>by rw[aU]at hc;rw[hc];exact h92)]
      exact Utf.cons (DW hx) (nQ N r (by simp only[aA,aC]at hN;omega) hr)
   ·cases N with
    |zero=>omega
    |succ N=>
     rw[vZ r u λc hc e=>by have:=hh c hc;rw[e]at this;exact absurd this (by decide)]
     exact Utf.cons hu (nQ N r (by omega) hr)
end
end Go.Proofs.YtjblfcfdeaagpaaGreatDoor
namespace Go.Syn
section
open Go Go.Eng Go.Lex
variable{w:World}{K:Q0}{cs:List Value}{G:Nat->Prop}{T:TypeId}{i:Nat}{n:Nat}{v:Value}{w':World}{P:Program}{c:UInt8}{S:Nat->Prop}
section
variable{io:Nat}{b:Bool}{c:Int}{pe:List Ex}{pb:List Blk}{s s2:PS}
theorem pV(s:PS):(aM s).toks=s.toks/\(aM s).off=s.off/\(aM s).deep=s.deep/\(aM s).quiet=s.quiet/\(aM s).ex=s.ex/\(aM s).bl=s.bl:=by
 unfold aM;split<;>exact⟨rfl,rfl,rfl,rfl,rfl,rfl⟩
end
end
section
open Go Go.Eng Go.Lex
variable{w:World}{K:Q0}{cs:List Value}{G:Nat->Prop}{T:TypeId}{i:Nat}{n:Nat}{v:Value}{w':World}{P:Program}{c:UInt8}{S:Nat->Prop}
variable{α β:Type}{io:Nat}{b:Bool}{c:Int}{pe:List Ex}{pb:List Blk}
theorem bind_ok{r:R α}{f:α->PS->R β}{y:β}{s':PS}(h:r.bind f=.ok y s'):∃x s1,r=.ok x s1/\f x s1=.ok y s':=by
 cases r with
 |ok x s1=>exact⟨x,s1,rfl,h⟩
 |err a e=>cases h
variable{s s2:PS}
end
end Go.Syn
namespace Go.Proofs.YtjblfcfdeaagpaaGreatDoor
section
open Go Go.Eng Go.Lex Go.Syn
variable{w:World}{K:Q0}{cs:List Value}{G:Nat->Prop}{T:TypeId}{i:Nat}{n:Nat}{v:Value}{w':World}{P:Program}{c:UInt8}{S:Nat->Prop}
structure XE(e:Ex):Prop where
 kd:1<=e.k/\e.k<=30
 ut:Utf e.t/\e.t.length<=100000
 uk:∀s∈e.keys,Utf s/\s.length<=100000
 nl:e.k≠5->∀c∈e.t,c≠10
 a6:e.k=6\/e.k=8->e.keys.length=e.args.length
 a1:e.k=10\/e.k=30->1<=e.args.length
 a2:e.k=11\/e.k=29\/15<=e.k/\e.k<=27->2<=e.args.length
 a3:e.k=28->3<=e.args.length
def TKs(s:PS):Prop:=(∀t∈s.toks,rF t)/\s.toks.length<=4097
structure K1(s s':PS):Prop where
 toks:s'.toks=s.toks
 bl:s'.bl=s.bl
 ex:(∀e∈s.ex,XE e)->∀e∈s'.ex,XE e
theorem K1.refl(s:PS):K1 s s:=⟨rfl,rfl,λh=>h⟩
theorem K1.trans{s s1 s2:PS}(h:K1 s s1)(h':K1 s1 s2):K1 s s2:=⟨h'.toks.trans h.toks,h'.bl.trans h.bl,λhx=>h'.ex (h.ex hx)⟩
theorem K1.tk{s s':PS}(h:K1 s s')(ht:TKs s):TKs s':=by unfold TKs;rw[h.toks];exact ht
theorem K1.of{s s':PS}(h1:s'.toks=s.toks)(h2:s'.bl=s.bl)(h3:s'.ex=s.ex):K1 s s':=⟨h1,h2,λh=>by rw[h3];exact h⟩
theorem kU(s:PS):K1 s (aM s):=K1.of (pV s).1 (pV s).2.2.2.2.2 (pV s).2.2.2.2.1
theorem jL(s:PS):K1 s (step1 s):=K1.of rfl rfl rfl
theorem Es(s:PS):K1 s (fB s):=by unfold fB;split;exact(kU s).trans (jL _);exact kU s
theorem lM(s:PS)(w:Str):K1 s (aW s w).2:=by unfold aW;split;exact(kU s).trans (jL _);exact kU s
theorem nV(s:PS):K1 s (dG s):=K1.of (pV s).1 (pV s).2.2.2.2.2 (pV s).2.2.2.2.1
theorem tS{s:PS}{w:Str}{x:Unit}{s':PS}(h:jR s w=.ok x s'):K1 s s':=by
 unfold jR at h;split at h
 ·injection h with _ h;rw[<-h];exact(kU s).trans (jL _)
 ·cases h
theorem tT{s:PS}{k:Int}{t:Tok}{s':PS}(h:iC s k=.ok t s'):K1 s s'/\t=cur s/\t.k=k:=by
 unfold iC at h;split at h
 ·rename_i hk;injection h with h1 h2;subst h1 h2;exact⟨Es s,rfl,hk⟩
 ·cases h
theorem qZ{s:PS}{e:Ex}{x:Nat}{s':PS}(he:XE e)(h:lL s e=.ok x s'):K1 s s':=by
 injection h with _ h
 subst h;refine⟨rfl,rfl,λhx y hy=>?_⟩;rcases bQ.1 hy with hy|hy
 ·exact hx y hy
 ·rw[aU]at hy;rw[hy];exact he
theorem vM{s:PS}(h:TKs s):rF (cur s):=by
 have hd:rF (jX (aM s)):=by
  unfold jX;rw[aH,(pV s).1];cases hg:s.toks[(aM s).i]? with
  |none=>exact⟨⟨.nil,cX _⟩,λe=>absurd e (show¬(0:Int)=1 by decide),λe=>absurd e (show¬(0:Int)=2 by decide)⟩
  |some t=>exact h.1 t (bW hg)
 exact hd.at_ _
theorem nU{α:Type}{s:PS}{a:Int}{q:Bool}{f:PS->R α}{x:α}{s':PS}(h:within s a q f=.ok x s')(hf:∀s1 s2,K1 s s1->f s1=.ok x s2->K1 s1 s2):K1 s s':=by
 unfold within at h;split at h
 ·cases h
 obtain⟨y,s1,e1,e2⟩:=bind_ok h;injection e2 with e2 e3
 subst e2 e3;have h0:K1 s {s with deep:=s.deep+1,quiet:=q}:=K1.of rfl rfl rfl;have h1:=hf _ _ h0 e1;exact⟨h1.toks,h1.bl,h1.ex⟩
def KE(F:PS->R Nat):Prop:=∀s x s',TKs s->F s=.ok x s'->K1 s s'
theorem zH:KE dead:=λs x s' _ h=>by cases h
theorem XE.of{k:Int}{t:Str}{us:List Nat}{ks:List Str}{a:Int}(hk:1<=k/\k<=30)(ht:Utf t/\t.length<=100000)(hn:k≠5->∀c∈t,c≠10)(hks:∀s∈ks,Utf s/\s.length<=100000)
  (h:(k=6\/k=8->ks.length=us.length)/\(k=10\/k=30->1<=us.length)/\(k=11\/k=29\/15<=k/\k<=27->2<=us.length)/\(k=28->3<=us.length)):XE ⟨k,t,us,ks,a⟩:=
 ⟨hk,ht,hks,hn,h.1,h.2.1,h.2.2.1,h.2.2.2⟩
theorem yR:Utf ([]:Str)/\([]:Str).length<=100000:=⟨.nil,cX _⟩
theorem Az{k:Int}:k≠5->∀c∈([]:Str),c≠(10:UInt8):=λ_ c h=>by cases h
theorem qC:∀s∈([]:List Str),Utf s/\s.length<=100000:=λs h=>by cases h
theorem BH{t:Tok}(h:rF t)(hk:t.k=1):∀c∈t.t,c≠(10:UInt8):=λc hc e=>by
 have:=(h.name hk).2 c hc
 rw[e]at this
 exact absurd this (by decide)
theorem UH{t:Tok}(h:rF t)(hk:t.k=2):∀c∈t.t,c≠(10:UInt8):=λc hc e=>by
 have:=h.num hk c hc
 rw[e]at this
 exact absurd this (by decide)
theorem AS{t:Str}(h:Utf t)(hl:t.length<=100000):Utf (dT t)/\(dT t).length<=100000:=⟨nQ _ t (aL _) h,bZ (DV _ t (aL _)) hl⟩
variable{E S:PS->R Nat}
theorem OL(hE:KE E){s:PS}{t:Str}{a:Int}{x:Nat}{s':PS}(h:jU E s t a=.ok x s'):K1 s s':=by
 unfold jU at h;cases hs:iI t with
 |bad k p=>rw[hs]at h;cases h
 |ok l=>
  rw[hs]at h;simp only at h;obtain⟨y,q,e1,e2⟩:=bind_ok h;obtain⟨t',q',e3,e4⟩:=bind_ok e2;injection e4 with e4 e5
  subst e5;have h1:=hE _ _ _ ⟨zV hs,(sM hs).1⟩ e1;have h2:=(tT e3).1;exact⟨rfl,h2.bl.trans h1.bl,λhx=>h2.ex (h1.ex hx)⟩
theorem Er(hE:KE E):∀(n:Nat) (s:PS) (rest:Str) (a:Int) (us:List Nat) (ks:List Str) (x:List Nat×List Str) (s':PS),Utf rest->rest.length<=100000->us.length=ks.length->(∀k∈ks,Utf k/\k.length<=100000)->gT E n s rest a us ks=.ok x s'->
  K1 s s'/\x.1.length=x.2.length/\∀k∈x.2,Utf k/\k.length<=100000
 |0,_,_,_,_,_,_,_,_,_,_,_,h=>by cases h
 |n+1,s,rest,a,us,ks,x,s',hu,hl,hlen,hks,h=>by
  have key:∀(ks:List Str) (c:UInt8),c.toNat<128->(∀k∈ks,Utf k/\k.length<=100000)->∀k∈ks++[[c]],Utf k/\k.length<=100000:=λks c hc hks k hk=>by
   rcases bQ.1 hk with hk|hk
   ·exact hks k hk
   ·rw[aU]at hk;rw[hk];exact⟨Utf.one (DW hc),(show 1<=100000 by decide)⟩
  have put5:∀(s:PS) (u:Str) (a:Int),Utf u->u.length<=100000->K1 s {s with ex:=s.ex++[⟨5,dT u,[],[],a⟩]}:=λs u a hu hl=>qZ (s:=s) (e:=⟨5,dT u,[],[],a⟩) (x:=s.ex.length) (XE.of (by decide) (AS hu hl) (λh=>absurd rfl h) qC (by simp)) rfl
  simp only[gT]at h
  split at h
  ·injection h with h1 h2
   subst h1 h2
   exact⟨K1.refl _,hlen,hks⟩
  split at h
  ·injection h with h1 h2
   subst h1 h2
   exact⟨put5 _ _ _ hu hl,by simp[hlen],key ks 116 (by decide) hks⟩
  ·rename_i i e hi
   obtain⟨u1,u2⟩:=Iz hu hi
   have l1:(rest.take i).length<=100000:=by rw[cG];omega
   have l2:(rest.drop e).length<=100000:=by rw[aJ];omega
   have hs1:K1 s (if 0<i then{s with ex:=s.ex++[⟨5,dT (rest.take i),[],[],a⟩]}else s):=by
    split
    ·exact put5 _ _ _ u1 l1
    ·exact K1.refl _
   have hl1:(if 0<i then us++[s.ex.length]else us).length=(if 0<i then ks++[[116]]else ks).length:=by split<;>simp[hlen]
   have hk1:∀k∈(if 0<i then ks++[[116]]else ks),Utf k/\k.length<=100000:=by
    split
    ·exact key ks 116 (by decide) hks
    ·exact hks
   generalize (if 0<i then us++[s.ex.length]else us)=us1 at*
   generalize (if 0<i then ks++[[116]]else ks)=ks1 at*
   generalize (if 0<i then{s with ex:=s.ex++[⟨5,dT (rest.take i),[],[],a⟩]}else s)=s1 at*
   split at h
   ·obtain⟨y,s2,e1,e2⟩:=bind_ok h;have h2:=nU e1 λq q2 _ e3=>OL hE e3;obtain⟨h3,h4,h5⟩:=Er hE n s2 _ _ _ _ x s' u2 l2 (by simp[hl1]) (key ks1 101 (by decide) hk1) e2;exact⟨hs1.trans (h2.trans h3),h4,h5⟩
   ·obtain⟨h3,h4,h5⟩:=Er hE n s1 _ _ _ _ x s' u2 l2 hl1 hk1 h;exact⟨hs1.trans h3,h4,h5⟩
theorem SQ(hE:KE E){s:PS}{t:Tok}{x:Nat}{s':PS}(ht:rF t)(h:qT E s t=.ok x s'):K1 s s':=by
 unfold qT at h;split at h
 ·obtain⟨y,s1,e1,e2⟩:=bind_ok h;obtain⟨h1,h2,h3⟩:=Er hE _ _ _ _ _ _ _ _ ht.ut.1 ht.ut.2 rfl qC e1;exact h1.trans (qZ (XE.of (by decide) yR Az h3 ⟨λ_=>h2.symm,by simp,by simp,by simp⟩) e2)
 ·exact qZ (XE.of (by decide) (AS ht.ut.1 ht.ut.2) (λh=>absurd rfl h) qC (by simp)) h
theorem Eu(hE:KE E)(w:Str):∀(n:Nat) (s:PS) (out:List Nat) (x:List Nat) (s':PS),TKs s->lQ E w n s out=.ok x s'->K1 s s'
 |0,_,_,_,_,_,h=>by cases h
 |n+1,s,out,x,s',ht,h=>by
  simp only[lQ]at h
  split at h
  ·injection h with _ h;rw[<-h];exact lM s w
  have ht1:=(lM s w).tk ht
  split at h
  ·obtain⟨y,s1,e1,e2⟩:=bind_ok h
   have h1:=hE _ _ _ ht1 e1
   exact(lM s w).trans (h1.trans (Eu hE w n s1 _ x s' (h1.tk ht1) e2))
  ·obtain⟨y,s1,e1,e2⟩:=bind_ok h
   have h1:=tS e1
   have ht2:=h1.tk ht1
   have h01:=(lM s w).trans h1
   split at e2
   ·injection e2 with _ e2;rw[<-e2];exact h01.trans (lM s1 w)
   ·obtain⟨z,s2,e3,e4⟩:=bind_ok e2
    have ht3:=(lM s1 w).tk ht2
    have h2:=hE _ _ _ ht3 e3
    exact h01.trans ((lM s1 w).trans (h2.trans (Eu hE w n s2 _ x s' (h2.tk ht3) e4)))
theorem LF(hE:KE E){s:PS}{a:Int}{e:Ex}{s':PS}(ht:TKs s)(h:qY E s a=.ok e s'):K1 s s'/\XE e:=by
 unfold qY at h;simp only at h;split at h
 ·obtain⟨us,s1,e1,e2⟩:=bind_ok h;injection e2 with e2 e3
  subst e2 e3;have h0:=(jL s).trans (kU (step1 s));exact⟨h0.trans (Eu hE _ _ _ _ _ _ (h0.tk ht) e1),XE.of (by decide) yR Az qC (by simp)⟩
 ·have h0:=((jL s).trans (kU (step1 s))).trans (jL _);obtain⟨t,s2,e1,h⟩:=bind_ok h;obtain⟨k1,r1,r2⟩:=tT e1;have tk1:rF t:=by rw[r1];exact vM (h0.tk ht)
  obtain⟨u,s3,e2,h⟩:=bind_ok h;obtain⟨k2,_,_⟩:=tT e2;have h03:=(h0.trans k1).trans k2;split at h
  ·cases h
  obtain⟨x,s4,e3,h⟩:=bind_ok h;have k3:=hE _ _ _ (h03.tk ht) e3;obtain⟨_,s5,e4,h⟩:=bind_ok h;have h05:=(h03.trans k3).trans (tS e4);obtain⟨y,s6,e5,h⟩:=bind_ok h;have k5:=hE _ _ _ (h05.tk ht) e5;obtain⟨_,s7,e6,h⟩:=bind_ok h;have k6:=tS e6;injection h with e7 e8
  subst e7 e8;exact⟨(h05.trans k5).trans k6,XE.of (by decide) tk1.ut (λ_=>BH tk1 r2) qC (by simp)⟩
theorem QM(hE:KE E)(a:Int):∀(n:Nat) (s:PS) (us:List Nat) (ks:List Str) (e:Ex) (s':PS),TKs s->us.length=ks.length->(∀k∈ks,Utf k/\k.length<=100000)->tQ E a n s us ks=.ok e s'->K1 s s'/\XE e
 |0,_,_,_,_,_,_,_,_,h=>by cases h
 |n+1,s,us,ks,e,s',ht,hlen,hks,h=>by
  simp only[tQ]at h
  split at h
  ·injection h with h1 h2
   subst h1 h2
   exact⟨lM s _,XE.of (by decide) yR Az hks ⟨λ_=>hlen.symm,by simp,by simp,by simp⟩⟩
  have h1:=lM s [125]
  have ht1:=h1.tk ht
  have tk:=vM ht1
  have h12:=h1.trans (Es (aW s [125]).2)
  obtain⟨k,s3,e1,h⟩:=bind_ok h
  have hk:K1 (fB (aW s [125]).2) s3/\Utf k/\k.length<=100000:=by
   split at e1
   ·unfold kX at e1;split at e1
    ·cases e1
    ·injection e1 with e2 e3;rw[<-e2,<-e3];exact⟨K1.refl _,AS tk.ut.1 tk.ut.2⟩
   ·split at e1
    ·injection e1 with e2 e3;rw[<-e2,<-e3];exact⟨K1.refl _,tk.ut⟩
    ·cases e1
  have h13:=h12.trans hk.1;split at h
  ·cases h
  obtain⟨_,s4,e2,h⟩:=bind_ok h;have h14:=h13.trans (tS e2);obtain⟨x,s5,e3,h⟩:=bind_ok h;have h15:=h14.trans (hE _ _ _ (h14.tk ht) e3);split at h
  ·cases h
  have hc:K1 s (dG (if(aW s5 [44]).1=true then(aW s5 [44]).2 else aM (aW s5 [44]).2)):=by
   split
   ·exact h15.trans ((lM s5 _).trans (nV _))
   ·exact h15.trans ((lM s5 _).trans ((kU _).trans (nV _)))
  obtain⟨g1,g2⟩:=QM hE a n _ _ _ e s' (hc.tk ht) (by simp[hlen]) (λq hq=>by
   rcases bQ.1 hq with hq|hq
   ·exact hks q hq
   ·rw[aU]at hq;rw[hq];exact hk.2) h
  exact⟨hc.trans g1,g2⟩
theorem Db(t:Str):kJ t=1\/kJ t=2\/kJ t=3\/kJ t=9:=by
 unfold kJ
 repeat' split
 all_goals simp
theorem SU(hE:KE E):KE (iL E):=by
 intro s x s' ht h;have tk:=vM ht;have h0:=kU s;unfold iL at h;simp only at h;split at h
 ·rename_i hk;exact(h0.trans (jL _)).trans (qZ (XE.of (by decide) tk.ut (λ_=>UH tk hk) qC (by simp)) h)
 split at h
 ·exact(h0.trans (jL _)).trans (SQ hE tk h)
 split at h
 ·rename_i hk;have h1:=h0.trans (jL (aM s));split at h
  ·obtain⟨us,s2,e1,e2⟩:=bind_ok h;have h2:=nU e1 λq q2 hq e3=>(jL q).trans (Eu hE _ _ _ _ _ _ ((jL q).tk (hq.tk ((h1.trans (kU _)).tk ht))) e3);exact((h1.trans (kU _)).trans h2).trans (qZ (XE.of (by decide) tk.ut (λ_=>BH tk hk.1) qC (by simp)) e2)
  ·have hn:=Db (cur s).t;refine(h1.trans (kU _)).trans (qZ (XE.of (by omega) ?_ ?_ qC ?_) h)
   ·split
    ·exact tk.ut
    ·exact yR
   ·intro _ c hc;split at hc
    ·exact BH tk hk.1 c hc
    ·cases hc
   ·refine⟨λ_=>rfl,λe=>by omega,λe=>by omega,λe=>by omega⟩
 split at h
 ·refine h0.trans (nU h λq q2 hq e1=>?_);obtain⟨y,q1,e2,e3⟩:=bind_ok e1;obtain⟨_,q3,e4,e5⟩:=bind_ok e3;injection e5 with _ e5
  subst e5;have ht1:=(jL q).tk (hq.tk (h0.tk ht));exact(jL q).trans ((hE _ _ _ ht1 e2).trans (tS e4))
 split at h
 ·obtain⟨e,s2,e1,e2⟩:=bind_ok h;have hx:XE e:=by
   unfold within at e1;split at e1
   ·cases e1
   obtain⟨y,q,e3,e4⟩:=bind_ok e1;injection e4 with e4 _
   subst e4;exact(LF hE (s:={aM s with deep:=(aM s).deep+1,quiet:=true}) (h0.tk ht) e3).2
  have h2:=nU e1 λq q2 hq e3=>(LF hE (hq.tk (h0.tk ht)) e3).1;exact(h0.trans h2).trans (qZ hx e2)
 split at h
 ·obtain⟨e,s2,e1,e2⟩:=bind_ok h;have ob:∀q q2,TKs q->BE E q (cur s).a=.ok e q2->K1 q q2/\XE e:=λq q2 hq e3=>by
   unfold BE at e3;have h1:=(jL q).trans (nV (step1 q));obtain⟨g1,g2⟩:=QM hE _ _ _ _ _ _ _ (h1.tk hq) rfl qC e3;exact⟨h1.trans g1,g2⟩
  have hx:XE e:=by
   unfold within at e1;split at e1
   ·cases e1
   obtain⟨y,q,e3,e4⟩:=bind_ok e1;injection e4 with e4 _
   subst e4;exact(ob {aM s with deep:=(aM s).deep+1,quiet:=false} _ (h0.tk ht) e3).2
  have h2:=nU e1 λq q2 hq e3=>(ob q q2 (hq.tk (h0.tk ht)) e3).1;exact(h0.trans h2).trans (qZ hx e2)
 ·cases h
theorem Ep(hE:KE E):∀(n:Nat) (s:PS) (x y:Nat) (s':PS),TKs s->iV E n s x=.ok y s'->K1 s s'
 |0,_,_,_,_,_,h=>by cases h
 |n+1,s,x,y,s',ht,h=>by
  simp only[iV]at h
  have h0:=kU s
  have ht0:=h0.tk ht
  split at h
  ·obtain⟨u,s2,e1,h⟩:=bind_ok h
   obtain⟨k1,r1,r2⟩:=tT e1
   have h1:=h0.trans (lM (aM s) [46])
   have tk:rF u:=by rw[r1];exact vM (h1.tk ht)
   have h2:=h1.trans k1
   obtain⟨z,s3,e2,h⟩:=bind_ok h
   have h3:=h2.trans (qZ (XE.of (by decide) tk.ut (λ_=>BH tk r2) qC (by simp)) e2)
   exact h3.trans (Ep hE n _ _ _ _ (h3.tk ht) h)
  split at h
  ·obtain⟨o,s2,e1,h⟩:=bind_ok h
   have h2:K1 s s2:=h0.trans (nU e1 λq q2 hq e3=>by
    have hq1:=(jL q).trans (lM (step1 q) [42])
    have htq:=hq1.tk (hq.tk ht0)
    split at e3
    ·obtain⟨_,q3,e4,e5⟩:=bind_ok e3
     injection e5 with _ e5
     subst e5
     exact hq1.trans (tS e4)
    ·obtain⟨z,q1,e4,e5⟩:=bind_ok e3
     obtain⟨_,q3,e6,e7⟩:=bind_ok e5
     injection e7 with _ e7
     subst e7
     exact hq1.trans ((hE _ _ _ htq e4).trans (tS e6)))
   cases o with
   |some q=>
    simp only at h
    obtain⟨z,s3,e2,h⟩:=bind_ok h
    have h3:=h2.trans (qZ (XE.of (by decide) yR Az qC (by simp)) e2)
    exact h3.trans (Ep hE n _ _ _ _ (h3.tk ht) h)
   |none=>
    simp only at h
    obtain⟨_,s3,e2,h⟩:=bind_ok h
    have h3:=h2.trans (tS e2)
    obtain⟨u,s4,e3,h⟩:=bind_ok h
    obtain⟨k1,r1,r2⟩:=tT e3
    have tk:rF u:=by rw[r1];exact vM (h3.tk ht)
    have h4:=h3.trans k1
    obtain⟨z,s5,e4,h⟩:=bind_ok h
    have h5:=h4.trans (qZ (XE.of (by decide) tk.ut (λ_=>BH tk r2) qC (by simp)) e4)
    exact h5.trans (Ep hE n _ _ _ _ (h5.tk ht) h)
  ·injection h with _ h
   rw[<-h];exact h0
theorem Hq(hE:KE E)(hS:KE S):KE (nN E S):=by
 intro s x s' ht h;have h0:=kU s;have ht0:=h0.tk ht;unfold nN at h;simp only at h;split at h
 ·obtain⟨y,s2,e1,e2⟩:=bind_ok h;have h2:=h0.trans (nU e1 λq q2 hq e3=>(jL q).trans (hS _ _ _ ((jL q).tk (hq.tk ht0)) e3));exact h2.trans (qZ (XE.of (by decide) yR Az qC (by simp)) e2)
 split at h
 ·obtain⟨y,s2,e1,e2⟩:=bind_ok h;have h2:=h0.trans (nU e1 λq q2 hq e3=>(jL q).trans (hS _ _ _ ((jL q).tk (hq.tk ht0)) e3));exact h2.trans (qZ (XE.of (by decide) yR Az qC (by simp)) e2)
 ·unfold xA at h;obtain⟨y,s1,e1,e2⟩:=bind_ok h;have h1:=h0.trans (SU hE _ _ _ ht0 e1);exact h1.trans (Ep hE _ _ _ _ _ (h1.tk ht) e2)
theorem It{t:Tok}(h:lA t n≠0):15<=lA t n/\lA t n<=27:=by
 unfold lA sT at h⊢
 repeat' split at h
 all_goals first
  |exact absurd rfl h
  |(simp_all<;>decide)
theorem LG{J:PS->R Nat}(hJ:KE J)(n:Nat):∀(f:Nat) (s:PS) (a x:Nat) (s':PS),TKs s->nW J n f s a=.ok x s'->K1 s s'
 |0,_,_,_,_,_,h=>by cases h
 |f+1,s,a,x,s',ht,h=>by
  simp only[nW]at h
  split at h
  ·injection h with _ h;rw[<-h];exact kU s
  rename_i hk
  have h0:=(kU s).trans (jL _)
  obtain⟨b,s1,e1,h⟩:=bind_ok h
  have h1:=h0.trans (hJ _ _ _ (h0.tk ht) e1)
  obtain⟨y,s2,e2,h⟩:=bind_ok h
  have hl:=It hk
  have h2:=h1.trans (qZ (XE.of (by omega) yR Az qC ⟨λe=>by omega,λe=>by omega,λ_=>by simp,λe=>by omega⟩) e2)
  exact h2.trans (LG hJ n f _ _ _ _ (h2.tk ht) h)
theorem Et(hE:KE E)(hS:KE S):∀m,KE (iD E S m)
 |0=>Hq hE hS
 |m+1=>λs x s' ht h=>by
  have h:(iD E S m s).bind (λa s1=>nW (iD E S m) (5-m) (s.toks.length+1) s1 a)=.ok x s':=h
  obtain⟨a,s1,e1,e2⟩:=bind_ok h
  have h1:=Et hE hS m _ _ _ ht e1
  exact h1.trans (LG (Et hE hS m) _ _ _ _ _ _ (h1.tk ht) e2)
theorem LH(hE:KE E)(hS:KE S):KE (rX E S):=by
 intro s x s' ht h;unfold rX at h;obtain⟨a,s1,e1,h⟩:=bind_ok h;have h1:=Et hE hS 6 _ _ _ ht e1;simp only at h;have h2:=h1.trans (lM s1 [63]);split at h
 ·obtain⟨z,s2,e2,e3⟩:=bind_ok h;have h3:=h2.trans (nU e2 λq q2 hq e4=>by
   have htq:=hq.tk (h2.tk ht);obtain⟨y,q1,e5,e6⟩:=bind_ok e4;have g1:=hE _ _ _ htq e5;obtain⟨_,q3,e7,e8⟩:=bind_ok e6;have g2:=g1.trans (tS e7);obtain⟨y2,q4,e9,e10⟩:=bind_ok e8;injection e10 with _ e10
   subst e10;exact g2.trans (hE _ _ _ (g2.tk htq) e9))
  exact h3.trans (qZ (XE.of (by decide) yR Az qC (by simp)) e3)
 ·injection h with _ h
  rw[<-h];exact h2
theorem wK:∀d,KE (gV d).1/\KE (gV d).2
 |0=>⟨LH zH zH,Hq zH zH⟩
 |d+1=>⟨LH (wK d).1 (wK d).2,Hq (wK d).1 (wK d).2⟩
end
section
open Go Go.Eng Go.Lex Go.Syn
variable{w:World}{K:Q0}{cs:List Value}{G:Nat->Prop}{T:TypeId}{i:Nat}{n:Nat}{v:Value}{w':World}{P:Program}{c:UInt8}{S:Nat->Prop}
def Cs(t:Str):Prop:=(∃c r,t=c::r/\eD c=true)/\(∀d∈t,dM d=true)/\t.length<=100000
structure XB(b:Blk):Prop where
 ty:Cs b.typ
 lb:∀s∈b.labels,Utf s/\s.length<=100000
 at_:∀a∈b.attrs,Cs a.n
 few:b.labels.length<=5000
def HB:Nat->List Blk->Nat->Prop
 |0,_,_=>False
 |d+1,bl,i=>∃b,bl[i]?=some b/\∀k∈b.blocks,HB d bl k
theorem yN{α:Type}{l m:List α}(h:l<+:m){x:α}(hi:l[i]?=some x):m[i]?=some x:=by
 obtain⟨t,rfl⟩:=h;rw[dA (bF.1 hi).1];exact hi
theorem HB.mono{l m:List Blk}(h:l<+:m):∀{d i:Nat},HB d l i->HB d m i
 |0,_,hh=>hh
 |d+1,i,⟨b,h1,h2⟩=>⟨b,yN h h1,λk hk=>HB.mono h (h2 k hk)⟩
structure K2(s s':PS):Prop where
 toks:s'.toks=s.toks
 pre:s.bl<+:s'.bl
 bl:(∀b∈s.bl,XB b)->∀b∈s'.bl,XB b
 ex:(∀e∈s.ex,XE e)->∀e∈s'.ex,XE e
theorem K1.k2{s s':PS}(h:K1 s s'):K2 s s':=⟨h.toks,by rw[h.bl];exact iU _,λhb=>by rw[h.bl];exact hb,h.ex⟩
theorem K2.trans{s s1 s2:PS}(h:K2 s s1)(h':K2 s1 s2):K2 s s2:=⟨h'.toks.trans h.toks,h.pre.trans h'.pre,λhb=>h'.bl (h.bl hb),λhx=>h'.ex (h.ex hx)⟩
theorem K2.tk{s s':PS}(h:K2 s s')(ht:TKs s):TKs s':=by unfold TKs;rw[h.toks];exact ht
theorem JC{α:Type}{s:PS}{a:Int}{q:Bool}{f:PS->R α}{x:α}{s':PS}(h:within s a q f=.ok x s'):∃s1 s2,K1 s s1/\s1.bl=s.bl/\f s1=.ok x s2/\s'.toks=s2.toks/\s'.bl=s2.bl/\s'.ex=s2.ex:=by
 unfold within at h;split at h
 ·cases h
 obtain⟨y,s1,e1,e2⟩:=bind_ok h;injection e2 with e2 e3
 subst e2 e3;exact⟨{s with deep:=s.deep+1,quiet:=q},s1,K1.of rfl rfl rfl,rfl,e1,rfl,rfl,rfl⟩
theorem Lw{t:Tok}(h:rF t)(hk:t.k=1):Cs t.t:=⟨(h.name hk).1,(h.name hk).2,h.ut.2⟩
theorem FY:∀(n:Nat) (s:PS) (ls:List Str) (x:List Str) (s':PS),TKs s->(∀l∈ls,Utf l/\l.length<=100000)->kB n s ls=.ok x s'->K1 s s'/\(∀l∈x,Utf l/\l.length<=100000)/\x.length<=ls.length+n
 |0,_,_,_,_,_,_,h=>by cases h
 |n+1,s,ls,x,s',ht,hl,h=>by
  simp only[kB]at h
  split at h
  ·have tk:=vM ht
   obtain⟨y,s1,e1,e2⟩:=bind_ok h
   have h1:s1=fB s/\y=dT (cur s).t:=by
    unfold kX at e1;split at e1
    ·cases e1
    ·injection e1 with e3 e4;exact⟨e4.symm,e3.symm⟩
   have k1:K1 s s1:=by rw[h1.1];exact Es s
   obtain⟨g1,g2,g3⟩:=FY n s1 _ x s' (k1.tk ht) (λl hm=>by
    rcases bQ.1 hm with hm|hm
    ·exact hl l hm
    ·rw[aU]at hm;rw[hm,h1.2];exact AS tk.ut.1 tk.ut.2) e2
   exact⟨k1.trans g1,g2,by rw[aB]at g3;simp only[aA,aC]at g3;omega⟩
  ·injection h with h1 h2
   rw[<-h1,<-h2];exact⟨kU s,hl,by omega⟩
def KB(d:Nat)(B:PS->R Nat):Prop:=∀s x s',TKs s->B s=.ok x s'->K2 s s'/\HB d s'.bl x
theorem Pb:KB 0 dead:=λs x s' _ h=>by cases h
variable{E B:PS->R Nat}{d:Nat}
theorem SS(hE:KE E)(hB:KB d B){s:PS}{us:List Atr}{bs:List Nat}{x:List Atr×List Nat}{s':PS}(ht:TKs s)(hu:∀a∈us,Cs a.n)(hb:∀k∈bs,HB d s.bl k)(h:qF E B s us bs=.ok x s'):
  K2 s s'/\(∀a∈x.1,Cs a.n)/\∀k∈x.2,HB d s'.bl k:=by
 unfold qF at h;obtain⟨t,s1,e1,h⟩:=bind_ok h;obtain⟨k1,r1,r2⟩:=tT e1;have tk:rF t:=by rw[r1];exact vM ht
 have k2:=k1.trans (lM s1 [61]);split at h
 ·obtain⟨y,s2,e2,h⟩:=bind_ok h;have k3:=k2.trans (hE _ _ _ (k2.tk ht) e2);injection h with h1 h2
  subst h1 h2;refine⟨k3.k2,λa ha=>?_,λk hk=>by rw[k3.bl];exact hb k hk⟩;rcases bQ.1 ha with ha|ha
  ·exact hu a ha
  ·rw[aU]at ha;rw[ha];exact Lw tk r2
 ·obtain⟨y,s2,e2,h⟩:=bind_ok h;have k3:K1 s {(aW s1 [61]).2 with i:=(aW s1 [61]).2.i-1}:=k2.trans (K1.of rfl rfl rfl);obtain⟨g1,g2⟩:=hB _ _ _ (k3.tk ht) e2;injection h with h1 h2
  subst h1 h2;have k4:=k3.k2.trans g1;refine⟨k4,hu,λk hk=>?_⟩;rcases bQ.1 hk with hk|hk
  ·exact(hb k hk).mono k4.pre
  ·rw[aU]at hk;rw[hk];exact g2
theorem Iv(hE:KE E)(hB:KB d B):∀(n:Nat) (s:PS) (us:List Atr) (bs:List Nat) (x:List Atr×List Nat) (s':PS),TKs s->(∀a∈us,Cs a.n)->(∀k∈bs,HB d s.bl k)->jT E B n s us bs=.ok x s'->
  K2 s s'/\(∀a∈x.1,Cs a.n)/\∀k∈x.2,HB d s'.bl k
 |0,_,_,_,_,_,_,_,_,h=>by cases h
 |n+1,s,us,bs,x,s',ht,hu,hb,h=>by
  simp only[jT]at h
  have k1:=lM s [125]
  split at h
  ·injection h with h1 h2
   subst h1 h2
   exact⟨k1.k2,hu,λk hk=>by rw[k1.bl];exact hb k hk⟩
  obtain⟨y,s1,e1,h⟩:=bind_ok h
  obtain⟨g1,g2,g3⟩:=SS hE hB (k1.tk ht) hu (λk hk=>by rw[k1.bl];exact hb k hk) e1
  split at h
  ·cases h
  have k3:=(kU s1).trans (nV (aM s1))
  have k4:=(k1.k2.trans g1).trans k3.k2
  obtain⟨q1,q2,q3⟩:=Iv hE hB n _ _ _ x s' (k4.tk ht) g2 (λk hk=>by rw[k3.bl];exact g3 k hk) h
  exact⟨k4.trans q1,q2,q3⟩
theorem Iw(hE:KE E)(hB:KB d B):KB (d+1) (nY E B):=by
 intro s x s' ht h;unfold nY at h;obtain⟨t,s1,e1,h⟩:=bind_ok h;obtain⟨k1,r1,r2⟩:=tT e1;have tk:rF t:=by rw[r1];exact vM ht
 obtain⟨ls,s2,e2,h⟩:=bind_ok h;obtain⟨k2,hls,hll⟩:=FY _ _ _ _ _ (k1.tk ht) (λl hl=>by cases hl) e2;have k12:=k1.trans k2;split at h
 ·cases h
 obtain⟨y,s3,e3,h⟩:=bind_ok h;obtain⟨q,q2,w1,w2,w3,w4,w5,w6⟩:=JC e3;have kq:=((k12.trans (kU s2)).trans w1).trans ((jL q).trans (nV (step1 q)));obtain⟨g1,g2,g3⟩:=Iv hE hB _ _ _ _ _ _ (kq.tk ht) (λa ha=>by cases ha) (λk hk=>by cases hk) w3;have k5:=kq.k2.trans g1;injection h with h1 h2
 subst h1 h2;have hx:XB ⟨t.t,ls,y.1,y.2,t.a⟩:=⟨Lw tk r2,hls,g2,by show ls.length<=5000;have:=ht.2;simp only[aC]at hll;omega⟩;refine⟨⟨w4.trans k5.toks,?_,λhb b hm=>?_,λhe=>by show∀e∈s3.ex,XE e;rw[w6];exact k5.ex he⟩,?_⟩
 ·show s.bl<+:s3.bl++_;rw[w5];exact k5.pre.trans (iM _ _)
 ·have hm:b∈s3.bl++[⟨t.t,ls,y.1,y.2,t.a⟩]:=hm;rcases bQ.1 hm with hm|hm
  ·rw[w5]at hm;exact k5.bl hb b hm
  ·rw[aU]at hm;rw[hm];exact hx
 ·refine⟨⟨t.t,ls,y.1,y.2,t.a⟩,?_,λk hk=>?_⟩
  ·show(s3.bl++[_])[s3.bl.length]?=_;rw[cJ (aL _),Nat.sub_self];rfl
  ·refine(g3 k hk).mono ?_;show q2.bl<+:s3.bl++_;rw[<-w5];exact iM _ _
theorem FZ:∀d,KB (d+1) (pY d)
 |0=>Iw zH Pb
 |d+1=>Iw (wK d).1 (FZ d)
theorem QL:∀(n:Nat) (s:PS) (top x:List Nat) (s':PS),TKs s->(∀k∈top,HB 25 s.bl k)->tG n s top=.ok x s'->K2 s s'/\∀k∈x,HB 25 s'.bl k
 |0,_,_,_,_,_,_,h=>by cases h
 |n+1,s,top,x,s',ht,hb,h=>by
  simp only[tG]at h
  have k1:=kU s
  split at h
  ·injection h with h1 h2
   subst h1 h2
   exact⟨k1.k2,λk hk=>by rw[k1.bl];exact hb k hk⟩
  obtain⟨y,s1,e1,h⟩:=bind_ok h
  obtain⟨g1,g2⟩:=FZ 24 _ _ _ (k1.tk ht) e1
  split at h
  ·cases h
  have k3:=(kU s1).trans (nV (aM s1))
  have k4:=(k1.k2.trans g1).trans k3.k2
  obtain⟨q1,q2⟩:=QL n _ _ x s' (k4.tk ht) (λk hk=>by
   rcases bQ.1 hk with hk|hk
   ·exact(hb k hk).mono k4.pre
   ·rw[aU]at hk;rw[hk,k3.bl];exact g2) h
  exact⟨k4.trans q1,q2⟩
theorem FM{t:Str}{f:Fl}(h:gD t=.ok f):(∀e∈f.ex,XE e)/\(∀b∈f.bl,XB b)/\∀k∈f.top,HB 25 f.bl k:=by
 unfold gD at h;cases hs:iI t with
 |bad c a=>rw[hs]at h;cases h
 |ok l=>
  rw[hs]at h;simp only at h;cases hr:tG (l.length+1) (dG ⟨l,0,0,0,false,[],[]⟩) []with
  |err c a=>rw[hr]at h;cases h
  |ok top s'=>
   rw[hr]at h;injection h with h
   subst h;have k1:=nV ⟨l,0,0,0,false,[],[]⟩;obtain⟨g1,g2⟩:=QL _ _ _ _ _ (k1.tk ⟨zV hs,(sM hs).1⟩) (λk hk=>by cases hk) hr;have g:=k1.k2.trans g1;exact⟨g.ex (λe he=>by cases he),g.bl (λb hb=>by cases hb),g2⟩
end
section
open Go Go.Eng Go.Lex Go.Syn
variable{w:World}{K:Q0}{cs:List Value}{G:Nat->Prop}{T:TypeId}{i:Nat}{n:Nat}{v:Value}{w':World}{P:Program}{c:UInt8}{S:Nat->Prop}
structure nI(t:Str):Prop where
 hd:∃c r,t=c::r/\eD c=true
 al:∀d∈t,dM d=true
 le:t.length<=32
structure MI(t:Str):Prop where
 hd:∃c r,t=c::r
 al:∀d∈t,eH d=true
 z:t.headD 0=48->t.length=1
 gd:Num.goodN t=true
structure zM(t:Tok):Prop where
 name:t.k=1->nI t.t
 num:t.k=2->MI t.t
theorem If{q:UInt8->Bool}{s:Str}(h:q (s.headD 0)=true)(hs:s≠[]):∃c r,s=c::r/\s.take (cS q s)=c::r.take (cS q r)/\cS q s=cS q r+1:=by
 cases s with
 |nil=>exact absurd rfl hs
 |cons c r=>
  have h:q c=true:=h;have e:cS q (c::r)=cS q r+1:=by rw[cS,aF h]
  exact⟨c,r,rfl,by rw[e];rfl,e⟩
theorem UF{s:Str}(h:(iH s).2.2=0):zM (iH s).1:=by
 have nil:∀q:UInt8->Bool,q 0=false->q (s.headD 0)=true->s≠[]:=λq h0 h1 e=>by
  rw[e]at h1;exact absurd (h0.symm.trans h1) (by decide)
 unfold iH at h⊢;simp only at h⊢;split
 ·exact⟨λe=>absurd e (show¬(5:Int)=1 by decide),λe=>absurd e (show¬(5:Int)=2 by decide)⟩
 rename_i n1;rw[aD n1]at h;split
 ·rename_i n2;rw[aF n2]at h;have hc:dM (s.headD 0)=true:=by unfold dM;rw[n2];rfl
  obtain⟨c,r,e1,e2,e3⟩:=If hc (nil dM (by decide) hc);refine⟨λ_=>⟨⟨c,_,e2,?_⟩,λd hd=>tL _ _ d hd,?_⟩,λe=>absurd e (show¬(1:Int)=2 by decide)⟩
  ·rw[e1]at n2;exact n2
  ·show(s.take (cS dM s)).length<=32;rw[cG];by_cases h32:32<cS dM s
   ·simp only at h;rw[aF h32]at h;cases h
   ·omega
 rename_i n2;rw[aD n2]at h;split
 ·rename_i n3;rw[aF n3]at h;obtain⟨c,r,e1,e2,e3⟩:=If n3 (nil eH (by decide) n3);refine⟨λe=>absurd e (show¬(2:Int)=1 by decide),λ_=>?_⟩;simp only at h;split at h
  ·cases h
  rename_i n4;split at h
  ·rename_i n5;refine⟨⟨c,_,e2⟩,λd hd=>tL _ _ d hd,λe48=>?_,n5⟩;have e48:(s.take (cS eH s)).headD 0=48:=e48;show(s.take (cS eH s)).length=1;rw[e2]at e48⊢;have e48:c=48:=e48;subst e48;have hn:¬1<cS eH s:=λh1=>n4 (by
    rw[e1]at h1⊢;simp only[AL,beq_self_eq_true,Bool.true_and,eB,jE];exact .inr h1)
   rw[aA,cG];omega
  ·cases h
 rename_i n3;rw[aD n3]at h;split
 ·split
  ·exact⟨λe=>absurd e (show¬(3:Int)=1 by decide),λe=>absurd e (show¬(3:Int)=2 by decide)⟩
  ·exact⟨λe=>absurd e (show¬(0:Int)=1 by decide),λe=>absurd e (show¬(0:Int)=2 by decide)⟩
 split
 ·exact⟨λe=>absurd e (show¬(3:Int)=1 by decide),λe=>absurd e (show¬(3:Int)=2 by decide)⟩
 ·exact⟨λe=>absurd e (show¬(4:Int)=1 by decide),λe=>absurd e (show¬(4:Int)=2 by decide)⟩
theorem zM.at_{t:Tok}(h:zM t)(a:Int):zM ⟨t.k,t.t,a⟩:=⟨h.name,h.num⟩
theorem Ic:∀(n:Nat) (s:Str) (a cnt:Nat) (l:List Tok),iJ n s a cnt=.ok l->∀t∈l,zM t
 |0,_,_,_,_,h=>by cases h
 |n+1,s,a,cnt,l,h=>by
  rw[vY]at h
  split at h
  ·cases h
  split at h
  ·injection h with h
   subst h
   intro t ht
   rw[aU.1 ht]
   exact⟨λe=>absurd e (show¬(0:Int)=1 by decide),λe=>absurd e (show¬(0:Int)=2 by decide)⟩
  split at h
  ·cases h
  rename_i h0
  split at h
  ·cases h
  split at h
  ·rename_i l' hl
   injection h with h
   subst h
   intro t ht
   rcases bC.1 ht with rfl|ht
   ·exact(UF (Classical.byContradiction λe=>h0 e)).at_ _
   ·exact Ic n _ _ _ _ hl t ht
  ·rename_i hx
   exact absurd h (hx _)
theorem Na{s:Str}{l:List Tok}(h:iI s=.ok l):∀t∈l,zM t:=by
 unfold iI at h;split at h
 ·cases h
 split at h
 ·cases h
 ·exact Ic _ _ _ _ _ h
inductive Tp (ex:List Ex):Bool->List Nat->List Str->Prop
 |nil (b:Bool):Tp ex b [] []
 |t {u:Nat} {a:Int} {x:Str} {us:List Nat} {ks:List Str} (h:ex[u]?=some ⟨5,x,[],[],a⟩) (hn:x≠[]) (h':Tp ex false us ks):Tp ex true (u::us) ([116]::ks)
 |e {b:Bool} {u:Nat} {us:List Nat} {ks:List Str} (h:Tp ex true us ks):Tp ex b (u::us) ([101]::ks)
inductive SE (ex:List Ex):Ex->Prop
 |lit {k:Int} (a:Int) (h:k=1\/k=2\/k=3):SE ex ⟨k,[],[],[],a⟩
 |int {t:Str} (a:Int) (h:MI t):SE ex ⟨4,t,[],[],a⟩
 |text {t:Str} (a:Int) (h:Utf t):SE ex ⟨5,t,[],[],a⟩
 |tpl {us:List Nat} {ks:List Str} (a:Int) (h:Tp ex true us ks) (he:[101]∈ks):SE ex ⟨6,[],us,ks,a⟩
 |list (us:List Nat) (a:Int):SE ex ⟨7,[],us,[],a⟩
 |obj {us:List Nat} {ks:List Str} (a:Int) (h:us.length=ks.length) (hn:ks.Nodup) (hu:∀k∈ks,Utf k):SE ex ⟨8,[],us,ks,a⟩
 |name {t:Str} (a:Int) (h:nI t) (h9:kJ t=9) (hf:t≠oH):SE ex ⟨9,t,[],[],a⟩
 |attr {t:Str} (u:Nat) (a:Int) (h:nI t):SE ex ⟨10,t,[u],[],a⟩
 |index (u v:Nat) (a:Int):SE ex ⟨11,[],[u,v],[],a⟩
 |call {t:Str} (us:List Nat) (a:Int) (h:nI t) (hf:t≠oH):SE ex ⟨12,t,us,[],a⟩
 |un {k:Int} (u:Nat) (a:Int) (h:k=13\/k=14):SE ex ⟨k,[],[u],[],a⟩
 |bin {k:Int} (u v:Nat) (a:Int) (h:15<=k/\k<=27):SE ex ⟨k,[],[u,v],[],a⟩
 |cond (u v x:Nat) (a:Int):SE ex ⟨28,[],[u,v,x],[],a⟩
 |loop {t:Str} (u v:Nat) (a:Int) (h:nI t):SE ex ⟨29,t,[u,v],[],a⟩
 |splat {t:Str} (u:Nat) (a:Int) (h:nI t):SE ex ⟨30,t,[u],[],a⟩
theorem Tp.mono{ex ex':List Ex}(hp:ex<+:ex'):∀{b:Bool} {us:List Nat} {ks:List Str},Tp ex b us ks->Tp ex' b us ks
 |_,_,_,.nil b=>.nil b
 |_,_,_,.t h hn h'=>.t (yN hp h) hn (Tp.mono hp h')
 |_,_,_,.e h=>.e (Tp.mono hp h)
theorem SE.mono{ex ex':List Ex}(hp:ex<+:ex'){e:Ex}(h:SE ex e):SE ex' e:=by
 cases h with
 |lit a h=>exact .lit a h
 |int a h=>exact .int a h
 |text a h=>exact .text a h
 |tpl a h he=>exact .tpl a (h.mono hp) he
 |list us a=>exact .list us a
 |obj a h hn hu=>exact .obj a h hn hu
 |name a h h9 hf=>exact .name a h h9 hf
 |attr u a h=>exact .attr u a h
 |index u v a=>exact .index u v a
 |call us a h hf=>exact .call us a h hf
 |un u a h=>exact .un u a h
 |bin u v a h=>exact .bin u v a h
 |cond u v x a=>exact .cond u v x a
 |loop u v a h=>exact .loop u v a h
 |splat u a h=>exact .splat u a h
def SA(ex:List Ex):Prop:=∀e∈ex,SE ex e
structure TQ(s:PS):Prop where
 p:∀t∈s.toks,rF t
 q:∀t∈s.toks,zM t
 ts:TS s.toks
 few:s.toks.length<=4097
theorem Ib{t:Str}{l:List Tok}(h:iI t=.ok l):(∀t∈l,rF t)/\(∀t∈l,zM t)/\TS l/\l.length<=4097:=⟨zV h,Na h,AQ h,(sM h).1⟩
structure K3(s s':PS):Prop where
 toks:s'.toks=s.toks
 pre:s.ex<+:s'.ex
 ex:SA s.ex->SA s'.ex
theorem K3.refl(s:PS):K3 s s:=⟨rfl,iU _,λh=>h⟩
theorem K3.trans{s s1 s2:PS}(h:K3 s s1)(h':K3 s1 s2):K3 s s2:=⟨h'.toks.trans h.toks,h.pre.trans h'.pre,λhx=>h'.ex (h.ex hx)⟩
theorem K3.tk{s s':PS}(h:K3 s s')(ht:TQ s):TQ s':=⟨by rw[h.toks];exact ht.p,by rw[h.toks];exact ht.q,by rw[h.toks];exact ht.ts,by rw[h.toks];exact ht.few⟩
theorem K3.of{s s':PS}(h1:s'.toks=s.toks)(h3:s'.ex=s.ex):K3 s s':=⟨h1,by rw[h3];exact iU _,λh=>by rw[h3];exact h⟩
theorem mP(s:PS):K3 s (aM s):=K3.of (pV s).1 (pV s).2.2.2.2.1
theorem jK(s:PS):K3 s (step1 s):=K3.of rfl rfl
theorem Hc(s:PS):K3 s (fB s):=by unfold fB;split;exact(mP s).trans (jK _);exact mP s
theorem mJ(s:PS)(w:Str):K3 s (aW s w).2:=by unfold aW;split;exact(mP s).trans (jK _);exact mP s
theorem rO(s:PS):K3 s (dG s):=K3.of (pV s).1 (pV s).2.2.2.2.1
theorem tM{s:PS}{w:Str}{x:Unit}{s':PS}(h:jR s w=.ok x s'):K3 s s':=by
 unfold jR at h;split at h
 ·injection h with _ h;rw[<-h];exact(mP s).trans (jK _)
 ·cases h
theorem xK{s:PS}{k:Int}{t:Tok}{s':PS}(h:iC s k=.ok t s'):K3 s s'/\t=cur s/\t.k=k:=by
 unfold iC at h;split at h
 ·rename_i hk;injection h with h1 h2;subst h1 h2;exact⟨Hc s,rfl,hk⟩
 ·cases h
theorem Hb{s:PS}{e:Ex}(he:SE s.ex e):K3 s {s with ex:=s.ex++[e]}:=by
 refine⟨rfl,iM _ _,λhx y hy=>?_⟩;rcases bQ.1 hy with hy|hy
 ·exact(hx y hy).mono (iM _ _)
 ·rw[aU.1 hy];exact he.mono (iM _ _)
theorem rN{s:PS}{e:Ex}{x:Nat}{s':PS}(he:SE s.ex e)(h:lL s e=.ok x s'):K3 s s':=by
 injection h with _ h
 subst h;exact Hb he
theorem vK{s:PS}(h:TQ s):rF (cur s)/\zM (cur s)/\((cur s).k=3->Ar (cur s).t):=by
 unfold cur jX;simp only;rw[aH,(pV s).1];cases hg:s.toks[(aM s).i]? with
 |none=>exact⟨⟨⟨.nil,cX _⟩,λe=>absurd e (show¬(0:Int)=1 by decide),λe=>absurd e (show¬(0:Int)=2 by decide)⟩,⟨λe=>absurd e (show¬(0:Int)=1 by decide),λe=>absurd e (show¬(0:Int)=2 by decide)⟩,λe=>absurd e (show¬(0:Int)=3 by decide)⟩
 |some t=>
  have hm:=bW hg;exact⟨(h.p t hm).at_ _,(h.q t hm).at_ _,λe=>(h.ts t hm e).1⟩
theorem mO{α:Type}{s:PS}{a:Int}{q:Bool}{f:PS->R α}{x:α}{s':PS}(h:within s a q f=.ok x s')(hf:∀s1 s2,K3 s s1->f s1=.ok x s2->K3 s1 s2):K3 s s':=by
 unfold within at h;split at h
 ·cases h
 obtain⟨y,s1,e1,e2⟩:=bind_ok h;injection e2 with e2 e3
 subst e2 e3;have h0:K3 s {s with deep:=s.deep+1,quiet:=q}:=K3.of rfl rfl;have h1:=hf _ _ h0 e1;exact⟨h1.toks,h1.pre,h1.ex⟩
def QE(F:PS->R Nat):Prop:=∀s x s',TQ s->F s=.ok x s'->K3 s s'
theorem Bf:QE dead:=λs x s' _ h=>by cases h
theorem Ie:∀s:Str,pW s=true->s≠[]->dT s≠[]
 |[],_,h=>absurd rfl h
 |[c],h,_=>by
  simp only[dT]
  split
  ·rename_i e
   subst e
   exact absurd h (by decide)
  ·simp
 |c::e::r,_,_=>by
  simp only[dT]
  split<;>simp
variable{E S:PS->R Nat}
theorem Ih(hE:QE E){s:PS}{t:Str}{a:Int}{x:Nat}{s':PS}(h:jU E s t a=.ok x s'):K3 s s':=by
 unfold jU at h;cases hs:iI t with
 |bad k p=>rw[hs]at h;cases h
 |ok l=>
  rw[hs]at h;simp only at h;obtain⟨y,q,e1,e2⟩:=bind_ok h;obtain⟨t',q',e3,e4⟩:=bind_ok e2;injection e4 with e4 e5
  subst e5;obtain⟨t1,t2,t3,t4⟩:=Ib hs;have h1:=hE _ _ _ ⟨t1,t2,t3,t4⟩ e1;have h2:=(xK e3).1;exact⟨rfl,h1.pre.trans h2.pre,λhx=>h2.ex (h1.ex hx)⟩
theorem Ea(hE:QE E):∀(n:Nat) (s:PS) (rest:Str) (a:Int) (us:List Nat) (ks:List Str) (x:List Nat×List Str) (s':PS),Utf rest->Ar rest->gT E n s rest a us ks=.ok x s'->
  K3 s s'/\∃us' ks',x=(us++us',ks++ks')/\Tp s'.ex true us' ks'/\((insP rest).isSome=true->[101]∈ks')
 |0,_,_,_,_,_,_,_,_,_,h=>by cases h
 |n+1,s,rest,a,us,ks,x,s',hu,hx,h=>by
  have get:∀(s:PS) (e:Ex),(s.ex++[e])[s.ex.length]?=some e:=λs e=>by simp
  simp only[gT]at h
  split at h
  ·rename_i h0
   injection h with h1 h2
   subst h1 h2 h0
   exact⟨K3.refl _,[],[],by simp,.nil _,λe=>by cases e⟩
  rename_i h0
  obtain⟨x1,x2⟩:=DK hx
  split at h
  ·rename_i hi
   injection h with h1 h2
   subst h1 h2
   refine⟨Hb (.text a (nQ _ _ (aL _) hu)),[s.ex.length],[[116]],rfl,.t (get s _) (Ie _ (x1 hi) h0) (.nil _),λe=>?_⟩
   rw[hi]at e;cases e
  ·rename_i i e hi
   obtain⟨u1,u2⟩:=Iz hu hi
   obtain⟨g1,g2,g3,g4⟩:=x2 i e hi
   have hie:i<e:=by omega
   by_cases hp:0<i
   ·rw[aF hp,aF hp,aF hp,aF hie]at h
    obtain⟨y,s2,e1,e2⟩:=bind_ok h
    have k1:K3 s {s with ex:=s.ex++[⟨5,dT (rest.take i),[],[],a⟩]}:=Hb (.text a (nQ _ _ (aL _) u1))
    have k2:=mO e1 λq q2 _ e3=>Ih hE e3
    obtain⟨k3,us',ks',f1,f2,f3⟩:=Ea hE n s2 _ _ _ _ x s' u2 g4 e2
    have hne:rest.take i≠[]:=λe0=>by
     have:=congrArg List.length e0
     rw[cG]at this
     simp only[aC]at this
     have:rest.length=0:=by omega
     exact h0 (bY this)
    refine⟨k1.trans (k2.trans k3),s.ex.length::y::us',[116]::[101]::ks',by rw[f1];simp,.t (yN (k2.pre.trans k3.pre) (get s _)) (Ie _ g1 hne) (.e f2),λ_=>by simp⟩
   ·rw[aD hp,aD hp,aD hp,aF hie]at h
    obtain⟨y,s2,e1,e2⟩:=bind_ok h
    have k2:=mO e1 λq q2 _ e3=>Ih hE e3
    obtain⟨k3,us',ks',f1,f2,f3⟩:=Ea hE n s2 _ _ _ _ x s' u2 g4 e2
    exact⟨k2.trans k3,y::us',[101]::ks',by rw[f1];simp,.e f2,λ_=>by simp⟩
theorem RF(hE:QE E){s:PS}{t:Tok}{x:Nat}{s':PS}(ht:rF t)(hx:Ar t.t)(h:qT E s t=.ok x s'):K3 s s':=by
 unfold qT at h;split at h
 ·rename_i hi;obtain⟨y,s1,e1,e2⟩:=bind_ok h;obtain⟨h1,us,ks,h2,h3,h4⟩:=Ea hE _ _ _ _ _ _ _ _ ht.ut.1 hx e1;subst h2;exact h1.trans (rN (.tpl _ h3 (h4 hi)) e2)
 ·exact rN (.text _ (nQ _ _ (aL _) ht.ut.1)) h
theorem Ed(hE:QE E)(w:Str):∀(n:Nat) (s:PS) (out:List Nat) (x:List Nat) (s':PS),TQ s->lQ E w n s out=.ok x s'->K3 s s'
 |0,_,_,_,_,_,h=>by cases h
 |n+1,s,out,x,s',ht,h=>by
  simp only[lQ]at h
  split at h
  ·injection h with _ h;rw[<-h];exact mJ s w
  have ht1:=(mJ s w).tk ht
  split at h
  ·obtain⟨y,s1,e1,e2⟩:=bind_ok h
   have h1:=hE _ _ _ ht1 e1
   exact(mJ s w).trans (h1.trans (Ed hE w n s1 _ x s' (h1.tk ht1) e2))
  ·obtain⟨y,s1,e1,e2⟩:=bind_ok h
   have h1:=tM e1
   have ht2:=h1.tk ht1
   have h01:=(mJ s w).trans h1
   split at e2
   ·injection e2 with _ e2;rw[<-e2];exact h01.trans (mJ s1 w)
   ·obtain⟨z,s2,e3,e4⟩:=bind_ok e2
    have ht3:=(mJ s1 w).tk ht2
    have h2:=hE _ _ _ ht3 e3
    exact h01.trans ((mJ s1 w).trans (h2.trans (Ed hE w n s2 _ x s' (h2.tk ht3) e4)))
theorem KS(hE:QE E){s:PS}{a:Int}{e:Ex}{s':PS}(ht:TQ s)(h:qY E s a=.ok e s'):K3 s s'/\SE s'.ex e:=by
 unfold qY at h;simp only at h;split at h
 ·obtain⟨us,s1,e1,e2⟩:=bind_ok h;injection e2 with e2 e3
  subst e2 e3;have h0:=(jK s).trans (mP (step1 s));exact⟨h0.trans (Ed hE _ _ _ _ _ _ (h0.tk ht) e1),.list _ _⟩
 ·have h0:=((jK s).trans (mP (step1 s))).trans (jK _);obtain⟨t,s2,e1,h⟩:=bind_ok h;obtain⟨k1,r1,r2⟩:=xK e1;have tk1:zM t:=by rw[r1];exact(vK (h0.tk ht)).2.1
  obtain⟨u,s3,e2,h⟩:=bind_ok h;obtain⟨k2,_,_⟩:=xK e2;have h03:=(h0.trans k1).trans k2;split at h
  ·cases h
  obtain⟨x,s4,e3,h⟩:=bind_ok h;have k3:=hE _ _ _ (h03.tk ht) e3;obtain⟨_,s5,e4,h⟩:=bind_ok h;have h05:=(h03.trans k3).trans (tM e4);obtain⟨y,s6,e5,h⟩:=bind_ok h;have k5:=hE _ _ _ (h05.tk ht) e5;obtain⟨_,s7,e6,h⟩:=bind_ok h;have k6:=tM e6;injection h with e7 e8
  subst e7 e8;exact⟨(h05.trans k5).trans k6,.loop _ _ _ (tk1.name r2)⟩
theorem QI(hE:QE E)(a:Int):∀(n:Nat) (s:PS) (us:List Nat) (ks:List Str) (e:Ex) (s':PS),TQ s->us.length=ks.length->ks.Nodup->(∀k∈ks,Utf k)->tQ E a n s us ks=.ok e s'->K3 s s'/\SE s'.ex e
 |0,_,_,_,_,_,_,_,_,_,h=>by cases h
 |n+1,s,us,ks,e,s',ht,hlen,hnd,hks,h=>by
  simp only[tQ]at h
  split at h
  ·injection h with h1 h2
   subst h1 h2
   exact⟨mJ s _,.obj a hlen hnd hks⟩
  have h1:=mJ s [125]
  have ht1:=h1.tk ht
  have tk:=(vK ht1).1
  have h12:=h1.trans (Hc (aW s [125]).2)
  obtain⟨k,s3,e1,h⟩:=bind_ok h
  have hk:K3 (fB (aW s [125]).2) s3/\Utf k:=by
   split at e1
   ·unfold kX at e1;split at e1
    ·cases e1
    ·injection e1 with e2 e3;rw[<-e2,<-e3];exact⟨K3.refl _,nQ _ _ (aL _) tk.ut.1⟩
   ·split at e1
    ·injection e1 with e2 e3;rw[<-e2,<-e3];exact⟨K3.refl _,tk.ut.1⟩
    ·cases e1
  have h13:=h12.trans hk.1;split at h
  ·cases h
  rename_i hnc;obtain⟨_,s4,e2,h⟩:=bind_ok h;have h14:=h13.trans (tM e2);obtain⟨x,s5,e3,h⟩:=bind_ok h;have h15:=h14.trans (hE _ _ _ (h14.tk ht) e3);split at h
  ·cases h
  have hc:K3 s (dG (if(aW s5 [44]).1=true then(aW s5 [44]).2 else aM (aW s5 [44]).2)):=by
   split
   ·exact h15.trans ((mJ s5 _).trans (rO _))
   ·exact h15.trans ((mJ s5 _).trans ((mP _).trans (rO _)))
  have hnk:k∉ks:=λhm=>hnc (xV.2 hm);obtain⟨g1,g2⟩:=QI hE a n _ _ _ e s' (hc.tk ht) (by simp[hlen]) (by
   rw[fL];exact⟨hnd,by simp,λp hp q hq e=>hnk (by rw[aU.1 hq]at e;exact e▸hp)⟩) (λq hq=>by
   rcases bQ.1 hq with hq|hq
   ·exact hks q hq
   ·rw[aU.1 hq];exact hk.2) h
  exact⟨hc.trans g1,g2⟩
theorem RH(hE:QE E):QE (iL E):=by
 intro s x s' ht h;obtain⟨tp,tk,tx⟩:=vK ht;have h0:=mP s;unfold iL at h;simp only at h;split at h
 ·rename_i hk;exact(h0.trans (jK _)).trans (rN (.int _ (tk.num hk)) h)
 split at h
 ·rename_i hk;exact(h0.trans (jK _)).trans (RF hE tp (tx hk) h)
 split at h
 ·rename_i hk;have h1:=h0.trans (jK (aM s));split at h
  ·obtain⟨us,s2,e1,e2⟩:=bind_ok h;have h2:=mO e1 λq q2 hq e3=>(jK q).trans (Ed hE _ _ _ _ _ _ ((jK q).tk (hq.tk ((h1.trans (mP _)).tk ht))) e3);exact((h1.trans (mP _)).trans h2).trans (rN (.call _ _ (tk.name hk.1) hk.2) e2)
  ·have hn:=Db (cur s).t;refine(h1.trans (mP _)).trans (rN ?_ h);by_cases h9:kJ (cur s).t=9
   ·rw[aF h9,h9];exact .name _ (tk.name hk.1) h9 hk.2
   ·rw[aD h9];exact .lit _ (by omega)
 split at h
 ·refine h0.trans (mO h λq q2 hq e1=>?_);obtain⟨y,q1,e2,e3⟩:=bind_ok e1;obtain⟨_,q3,e4,e5⟩:=bind_ok e3;injection e5 with _ e5
  subst e5;have ht1:=(jK q).tk (hq.tk (h0.tk ht));exact(jK q).trans ((hE _ _ _ ht1 e2).trans (tM e4))
 split at h
 ·obtain⟨e,s2,e1,e2⟩:=bind_ok h;have hx:SE s2.ex e:=by
   unfold within at e1;split at e1
   ·cases e1
   obtain⟨y,q,e3,e4⟩:=bind_ok e1;injection e4 with e4 e5
   subst e4 e5;exact(KS hE (s:={aM s with deep:=(aM s).deep+1,quiet:=true}) ((K3.of (s:=aM s) (s':={aM s with deep:=(aM s).deep+1,quiet:=true}) rfl rfl).tk (h0.tk ht)) e3).2
  have h2:=mO e1 λq q2 hq e3=>(KS hE (hq.tk (h0.tk ht)) e3).1;exact(h0.trans h2).trans (rN hx e2)
 split at h
 ·obtain⟨e,s2,e1,e2⟩:=bind_ok h;have ob:∀q q2,TQ q->BE E q (cur s).a=.ok e q2->K3 q q2/\SE q2.ex e:=λq q2 hq e3=>by
   unfold BE at e3;have h1:=(jK q).trans (rO (step1 q));obtain⟨g1,g2⟩:=QI hE _ _ _ _ _ _ _ (h1.tk hq) rfl List.nodup_nil (by simp) e3;exact⟨h1.trans g1,g2⟩
  have hx:SE s2.ex e:=by
   unfold within at e1;split at e1
   ·cases e1
   obtain⟨y,q,e3,e4⟩:=bind_ok e1;injection e4 with e4 e5
   subst e4 e5;exact(ob {aM s with deep:=(aM s).deep+1,quiet:=false} _ ((K3.of (s:=aM s) (s':={aM s with deep:=(aM s).deep+1,quiet:=false}) rfl rfl).tk (h0.tk ht)) e3).2
  have h2:=mO e1 λq q2 hq e3=>(ob q q2 (hq.tk (h0.tk ht)) e3).1;exact(h0.trans h2).trans (rN hx e2)
 ·cases h
theorem DZ(hE:QE E):∀(n:Nat) (s:PS) (x y:Nat) (s':PS),TQ s->iV E n s x=.ok y s'->K3 s s'
 |0,_,_,_,_,_,h=>by cases h
 |n+1,s,x,y,s',ht,h=>by
  simp only[iV]at h
  have h0:=mP s
  have ht0:=h0.tk ht
  split at h
  ·obtain⟨u,s2,e1,h⟩:=bind_ok h
   obtain⟨k1,r1,r2⟩:=xK e1
   have h1:=h0.trans (mJ (aM s) [46])
   have tk:zM u:=by rw[r1];exact(vK (h1.tk ht)).2.1
   have h2:=h1.trans k1
   obtain⟨z,s3,e2,h⟩:=bind_ok h
   have h3:=h2.trans (rN (.attr _ _ (tk.name r2)) e2)
   exact h3.trans (DZ hE n _ _ _ _ (h3.tk ht) h)
  split at h
  ·obtain⟨o,s2,e1,h⟩:=bind_ok h
   have h2:K3 s s2:=h0.trans (mO e1 λq q2 hq e3=>by
    have hq1:=(jK q).trans (mJ (step1 q) [42])
    have htq:=hq1.tk (hq.tk ht0)
    split at e3
    ·obtain⟨_,q3,e4,e5⟩:=bind_ok e3
     injection e5 with _ e5
     subst e5
     exact hq1.trans (tM e4)
    ·obtain⟨z,q1,e4,e5⟩:=bind_ok e3
     obtain⟨_,q3,e6,e7⟩:=bind_ok e5
     injection e7 with _ e7
     subst e7
     exact hq1.trans ((hE _ _ _ htq e4).trans (tM e6)))
   cases o with
   |some q=>
    simp only at h
    obtain⟨z,s3,e2,h⟩:=bind_ok h
    have h3:=h2.trans (rN (.index _ _ _) e2)
    exact h3.trans (DZ hE n _ _ _ _ (h3.tk ht) h)
   |none=>
    simp only at h
    obtain⟨_,s3,e2,h⟩:=bind_ok h
    have h3:=h2.trans (tM e2)
    obtain⟨u,s4,e3,h⟩:=bind_ok h
    obtain⟨k1,r1,r2⟩:=xK e3
    have tk:zM u:=by rw[r1];exact(vK (h3.tk ht)).2.1
    have h4:=h3.trans k1
    obtain⟨z,s5,e4,h⟩:=bind_ok h
    have h5:=h4.trans (rN (.splat _ _ (tk.name r2)) e4)
    exact h5.trans (DZ hE n _ _ _ _ (h5.tk ht) h)
  ·injection h with _ h
   rw[<-h];exact h0
theorem Ha(hE:QE E)(hS:QE S):QE (nN E S):=by
 intro s x s' ht h;have h0:=mP s;have ht0:=h0.tk ht;unfold nN at h;simp only at h;split at h
 ·obtain⟨y,s2,e1,e2⟩:=bind_ok h;have h2:=h0.trans (mO e1 λq q2 hq e3=>(jK q).trans (hS _ _ _ ((jK q).tk (hq.tk ht0)) e3));exact h2.trans (rN (.un _ _ (.inr rfl)) e2)
 split at h
 ·obtain⟨y,s2,e1,e2⟩:=bind_ok h;have h2:=h0.trans (mO e1 λq q2 hq e3=>(jK q).trans (hS _ _ _ ((jK q).tk (hq.tk ht0)) e3));exact h2.trans (rN (.un _ _ (.inl rfl)) e2)
 ·unfold xA at h;obtain⟨y,s1,e1,e2⟩:=bind_ok h;have h1:=h0.trans (RH hE _ _ _ ht0 e1);exact h1.trans (DZ hE _ _ _ _ _ (h1.tk ht) e2)
theorem KU{J:PS->R Nat}(hJ:QE J)(n:Nat):∀(f:Nat) (s:PS) (a x:Nat) (s':PS),TQ s->nW J n f s a=.ok x s'->K3 s s'
 |0,_,_,_,_,_,h=>by cases h
 |f+1,s,a,x,s',ht,h=>by
  simp only[nW]at h
  split at h
  ·injection h with _ h;rw[<-h];exact mP s
  rename_i hk
  have h0:=(mP s).trans (jK _)
  obtain⟨b,s1,e1,h⟩:=bind_ok h
  have h1:=h0.trans (hJ _ _ _ (h0.tk ht) e1)
  obtain⟨y,s2,e2,h⟩:=bind_ok h
  have h2:=h1.trans (rN (.bin _ _ _ (It hk)) e2)
  exact h2.trans (KU hJ n f _ _ _ _ (h2.tk ht) h)
theorem Eb(hE:QE E)(hS:QE S):∀m,QE (iD E S m)
 |0=>Ha hE hS
 |m+1=>λs x s' ht h=>by
  have h:(iD E S m s).bind (λa s1=>nW (iD E S m) (5-m) (s.toks.length+1) s1 a)=.ok x s':=h
  obtain⟨a,s1,e1,e2⟩:=bind_ok h
  have h1:=Eb hE hS m _ _ _ ht e1
  exact h1.trans (KU (Eb hE hS m) _ _ _ _ _ _ (h1.tk ht) e2)
theorem KV(hE:QE E)(hS:QE S):QE (rX E S):=by
 intro s x s' ht h;unfold rX at h;obtain⟨a,s1,e1,h⟩:=bind_ok h;have h1:=Eb hE hS 6 _ _ _ ht e1;simp only at h;have h2:=h1.trans (mJ s1 [63]);split at h
 ·obtain⟨z,s2,e2,e3⟩:=bind_ok h;have h3:=h2.trans (mO e2 λq q2 hq e4=>by
   have htq:=hq.tk (h2.tk ht);obtain⟨y,q1,e5,e6⟩:=bind_ok e4;have g1:=hE _ _ _ htq e5;obtain⟨_,q3,e7,e8⟩:=bind_ok e6;have g2:=g1.trans (tM e7);obtain⟨y2,q4,e9,e10⟩:=bind_ok e8;injection e10 with _ e10
   subst e10;exact g2.trans (hE _ _ _ (g2.tk htq) e9))
  exact h3.trans (rN (.cond _ _ _ _) e3)
 ·injection h with _ h
  rw[<-h];exact h2
theorem yK:∀d,QE (gV d).1/\QE (gV d).2
 |0=>⟨KV Bf Bf,Ha Bf Bf⟩
 |d+1=>⟨KV (yK d).1 (yK d).2,Ha (yK d).1 (yK d).2⟩
end
section
open Go Go.Eng Go.Lex Go.Syn
variable{w:World}{K:Q0}{cs:List Value}{G:Nat->Prop}{T:TypeId}{i:Nat}{n:Nat}{v:Value}{w':World}{P:Program}{c:UInt8}{S:Nat->Prop}
structure SB(b:Blk):Prop where
 ty:nI b.typ
 lb:∀s∈b.labels,Utf s
 at_:∀a∈b.attrs,nI a.n
structure K4(s s':PS):Prop where
 k3:K3 s s'
 bl:(∀b∈s.bl,SB b)->∀b∈s'.bl,SB b
theorem K4.trans{s s1 s2:PS}(h:K4 s s1)(h':K4 s1 s2):K4 s s2:=⟨h.k3.trans h'.k3,λhb=>h'.bl (h.bl hb)⟩
theorem K4.of{s s':PS}(h:K3 s s')(hb:s'.bl=s.bl):K4 s s':=⟨h,λh=>by rw[hb];exact h⟩
variable{E B:PS->R Nat}
def QB(F:PS->R Nat):Prop:=∀s x s',TQ s->F s=.ok x s'->K4 s s'
theorem Fv:∀(n:Nat) (s:PS) (ls:List Str) (x:List Str) (s':PS),TQ s->(∀l∈ls,Utf l)->kB n s ls=.ok x s'->K3 s s'/\s'.bl=s.bl/\∀l∈x,Utf l
 |0,_,_,_,_,_,_,h=>by cases h
 |n+1,s,ls,x,s',ht,hl,h=>by
  simp only[kB]at h
  split at h
  ·obtain⟨l,s1,e1,e2⟩:=bind_ok h
   have k1:=Hc s
   have b1:(fB s).bl=s.bl:=(Es s).bl
   have h1:K3 (fB s) s1/\s1.bl=(fB s).bl/\Utf l:=by
    unfold kX at e1;split at e1
    ·cases e1
    ·injection e1 with e3 e4;rw[<-e3,<-e4];exact⟨K3.refl _,rfl,nQ _ _ (aL _) (vK ht).1.ut.1⟩
   have k2:=k1.trans h1.1;obtain⟨g1,g2,g3⟩:=Fv n s1 _ x s' (k2.tk ht) (λm hm=>by
    rcases bQ.1 hm with hm|hm
    ·exact hl m hm
    ·rw[aU.1 hm];exact h1.2.2) e2
   exact⟨k2.trans g1,g2.trans (h1.2.1.trans b1),g3⟩
  ·injection h with h1 h2
   rw[<-h1,<-h2];exact⟨mP s,(kU s).bl,hl⟩
theorem RG(hE:QB E)(hB:QB B){s:PS}{us:List Atr}{bs:List Nat}{x:List Atr×List Nat}{s':PS}(ht:TQ s)(hu:∀a∈us,nI a.n)(h:qF E B s us bs=.ok x s'):K4 s s'/\∀a∈x.1,nI a.n:=by
 unfold qF at h;obtain⟨t,s1,e1,h⟩:=bind_ok h;obtain⟨k1,r1,r2⟩:=xK e1;have b1:=(tT e1).1.bl;have tk:zM t:=by rw[r1];exact(vK ht).2.1
 have k2:K4 s (aW s1 [61]).2:=K4.of (k1.trans (mJ s1 [61])) ((lM s1 [61]).bl.trans b1);split at h
 ·obtain⟨y,s2,e2,h⟩:=bind_ok h;have k3:=k2.trans (hE _ _ _ (k2.k3.tk ht) e2);injection h with h1 h2
  subst h1 h2;refine⟨k3,λa ha=>?_⟩;rcases bQ.1 ha with ha|ha
  ·exact hu a ha
  ·rw[aU.1 ha];exact tk.name r2
 ·obtain⟨y,s2,e2,h⟩:=bind_ok h;have k3:K4 s {(aW s1 [61]).2 with i:=(aW s1 [61]).2.i-1}:=k2.trans (K4.of (K3.of rfl rfl) rfl);have g1:=hB _ _ _ (k3.k3.tk ht) e2;injection h with h1 h2
  subst h1 h2;exact⟨k3.trans g1,hu⟩
theorem Ec(hE:QB E)(hB:QB B):∀(n:Nat) (s:PS) (us:List Atr) (bs:List Nat) (x:List Atr×List Nat) (s':PS),TQ s->(∀a∈us,nI a.n)->jT E B n s us bs=.ok x s'->K4 s s'/\∀a∈x.1,nI a.n
 |0,_,_,_,_,_,_,_,h=>by cases h
 |n+1,s,us,bs,x,s',ht,hu,h=>by
  simp only[jT]at h
  have k1:K4 s (aW s [125]).2:=K4.of (mJ s [125]) (lM s [125]).bl
  split at h
  ·injection h with h1 h2
   subst h1 h2
   exact⟨k1,hu⟩
  obtain⟨y,s1,e1,h⟩:=bind_ok h
  obtain⟨g1,g2⟩:=RG hE hB (k1.k3.tk ht) hu e1
  split at h
  ·cases h
  have k3:K4 s1 (dG (aM s1)):=K4.of ((mP s1).trans (rO (aM s1))) ((kU s1).trans (nV (aM s1))).bl
  have k4:=(k1.trans g1).trans k3
  obtain⟨q1,q2⟩:=Ec hE hB n _ _ _ x s' (k4.k3.tk ht) g2 h
  exact⟨k4.trans q1,q2⟩
theorem Jt{α:Type}{s:PS}{a:Int}{q:Bool}{f:PS->R α}{x:α}{s':PS}(h:within s a q f=.ok x s')(hf:∀s1 s2,K4 s s1->f s1=.ok x s2->K4 s1 s2):K4 s s':=by
 unfold within at h;split at h
 ·cases h
 obtain⟨y,s1,e1,e2⟩:=bind_ok h;injection e2 with e2 e3
 subst e2 e3;have h1:=hf {s with deep:=s.deep+1,quiet:=q} _ (K4.of (K3.of rfl rfl) rfl) e1;exact⟨⟨h1.k3.toks,h1.k3.pre,h1.k3.ex⟩,h1.bl⟩
theorem Ii(hE:QB E)(hB:QB B):QB (nY E B):=by
 intro s x s' ht h;unfold nY at h;obtain⟨t,s1,e1,h⟩:=bind_ok h;obtain⟨k1,r1,r2⟩:=xK e1;have tk:zM t:=by rw[r1];exact(vK ht).2.1
 obtain⟨ls,s2,e2,h⟩:=bind_ok h;obtain⟨k2,hb2,hls⟩:=Fv _ _ _ _ _ (k1.tk ht) (λl hl=>by cases hl) e2;have k12:K4 s (aM s2):=K4.of ((k1.trans k2).trans (mP s2)) ((kU s2).bl.trans (hb2.trans (tT e1).1.bl));split at h
 ·cases h
 obtain⟨y,s3,e3,h⟩:=bind_ok h;have hy:∀a∈y.1,nI a.n:=by
  unfold within at e3;split at e3
  ·cases e3
  obtain⟨z,q,e4,e5⟩:=bind_ok e3;injection e5 with e5 _
  subst e5;exact(Ec hE hB _ _ _ _ _ _ (((K3.of (s:=aM s2) (s':={aM s2 with deep:=(aM s2).deep+1,quiet:=false}) rfl rfl).trans ((jK _).trans (rO _))).tk (k12.k3.tk ht)) (λa ha=>by cases ha) e4).2
 have k3:=k12.trans (Jt e3 λq q2 hq e4=>by
  have k5:K4 q (dG (step1 q)):=K4.of ((jK q).trans (rO _)) ((jL q).trans (nV _)).bl;exact k5.trans (Ec hE hB _ _ _ _ _ _ (k5.k3.tk (hq.k3.tk (k12.k3.tk ht))) (λa ha=>by cases ha) e4).1)
 injection h with h1 h2
 subst h1 h2;refine⟨⟨k3.k3.toks,k3.k3.pre,k3.k3.ex⟩,λhb b hm=>?_⟩;have hm:b∈s3.bl++[⟨t.t,ls,y.1,y.2,t.a⟩]:=hm;rcases bQ.1 hm with hm|hm
 ·exact k3.bl hb b hm
 ·rw[aU.1 hm];exact⟨tk.name r2,hls,hy⟩
theorem IM:QB dead:=λs x s' _ h=>by cases h
theorem Ng(d:Nat):QB (gV d).1:=λs x s' ht h=>K4.of ((yK d).1 s x s' ht h) ((wK d).1 s x s' ⟨ht.p,ht.few⟩ h).bl
theorem Fw:∀d,QB (pY d)
 |0=>Ii IM IM
 |d+1=>Ii (Ng d) (Fw d)
theorem QH:∀(n:Nat) (s:PS) (top x:List Nat) (s':PS),TQ s->tG n s top=.ok x s'->K4 s s'
 |0,_,_,_,_,_,h=>by cases h
 |n+1,s,top,x,s',ht,h=>by
  simp only[tG]at h
  have k1:K4 s (aM s):=K4.of (mP s) (kU s).bl
  split at h
  ·injection h with h1 h2
   subst h1 h2
   exact k1
  obtain⟨y,s1,e1,h⟩:=bind_ok h
  have g1:=Fw 24 _ _ _ (k1.k3.tk ht) e1
  split at h
  ·cases h
  have k4:=(k1.trans g1).trans (K4.of (s':=dG (aM s1)) ((mP s1).trans (rO (aM s1))) ((kU s1).trans (nV (aM s1))).bl)
  exact k4.trans (QH n _ _ x s' (k4.k3.tk ht) h)
theorem FP{t:Str}{f:Fl}(h:gD t=.ok f):SA f.ex/\∀b∈f.bl,SB b:=by
 unfold gD at h;cases hs:iI t with
 |bad c a=>rw[hs]at h;cases h
 |ok l=>
  rw[hs]at h;simp only at h;cases hr:tG (l.length+1) (dG ⟨l,0,0,0,false,[],[]⟩) []with
  |err c a=>rw[hr]at h;cases h
  |ok top s'=>
   rw[hr]at h;injection h with h
   subst h;obtain⟨t1,t2,t3,t4⟩:=Ib hs;have k1:K4 ⟨l,0,0,0,false,[],[]⟩ (dG ⟨l,0,0,0,false,[],[]⟩):=K4.of (rO _) (nV _).bl;have g:=k1.trans (QH _ _ _ _ _ (k1.k3.tk ⟨t1,t2,t3,t4⟩) hr);exact⟨g.k3.ex (λe he=>by cases he),g.bl (λb hb=>by cases hb)⟩
end
end Go.Proofs.YtjblfcfdeaagpaaGreatDoor
namespace Go.Syn
section
open Go Go.Eng Go.Lex
variable{w:World}{K:Q0}{cs:List Value}{G:Nat->Prop}{T:TypeId}{i:Nat}{n:Nat}{v:Value}{w':World}{P:Program}{c:UInt8}{S:Nat->Prop}
def kG(c:UInt8):Str:=if c=92\/c=34\/c=36 then [92,c]else if c=10 then [92,110]else if c=9 then [92,116]else if c=13 then [92,114]else [c]
def plainM(s:Str):Str:=s.flatMap kG
def quotM(s:Str):Str:=[34]++plainM s++[34]
def mW:List Str:=[[43],[45],[42],[47],[37],[61,61],[33,61],[60],[62],[60,61],[62,61],[38,38],[124,124]]
def tF(f:Fl)(e:Ex)(l:List Str)(n:Nat):Str:=
 ((List.range n).map λk=>if e.keys.getD k []=[116]then plainM (f.ex.getD (e.args.getD k 0) ⟨0,[],[],[],0⟩).t else [36,123]++l.getD k []++[125]).flatten
def joinL(l:List Str)(sep:Str):Str:=sep.intercalate l
def fZ(f:Fl)(e:Ex)(l:List Str):Str:=
 let all:=joinL l [44,32]
 if e.k=1 then [110,117,108,108]
 else if e.k=2 then [116,114,117,101]
 else if e.k=3 then [102,97,108,115,101]
 else if e.k=4\/e.k=9 then e.t
 else if e.k=5 then quotM e.t
 else if e.k=6 then [34]++tF f e l l.length++[34]
 else if e.k=7 then [91]++all++[93]
 else if e.k=8 then [123]++all++[125]
 else if e.k=10 then [40]++l.getD 0 []++[41,46]++e.t
 else if e.k=30 then [40]++l.getD 0 []++[41,91,42,93,46]++e.t
 else if e.k=11 then [40]++l.getD 0 []++[41,91]++l.getD 1 []++[93]
 else if e.k=12 then e.t++[40]++all++[41]
 else if e.k=13 then [40,45]++all++[41]
 else if e.k=14 then [40,33]++all++[41]
 else if e.k=28 then [40]++l.getD 0 []++[32,63,32]++l.getD 1 []++[32,58,32]++l.getD 2 []++[41]
 else if e.k=29 then [91,102,111,114,32]++e.t++[32,105,110,32]++l.getD 0 []++[32,58,32]++l.getD 1 []++[93]
 else [40]++l.getD 0 []++[32]++mW.getD (e.k-15).toNat []++[32]++l.getD 1 []++[41]
def xR(e:Ex)(s:Nat->Str)(k:Nat):Str:=(if e.k=8 then [34]++plainM (e.keys.getD k [])++[34,32,61,32]else [])++s (e.args.getD k 0)
def gB(e:Ex)(s:Nat->Str):List Str:=(List.range e.args.length).map (xR e s)
def zG:Nat->Fl->Nat->Str
 |0,_,_=>[]
 |n+1,f,i=>match f.ex[i]? with
  |none=>[]
  |some e=>fZ f e (gB e (zG n f))
def bL(f:Fl)(i:Nat):Str:=zG (i+1) f i
def Cu(n:Nat):Str:=(List.replicate n [32,32]).flatten
def qD(l:List Str):Str:=(l.map λs=>[32,34]++plainM s++[34]).flatten
def rE(f:Fl)(n:Nat)(a:Atr):Str:=Cu n++[32,32]++a.n++[32,61,32]++bL f a.e++[10]
def uB:Nat->Fl->Nat->Nat->Str
 |0,_,_,_=>[]
 |m+1,f,i,n=>match f.bl[i]? with
  |none=>[]
  |some b=>Cu n++b.typ++qD b.labels++[32,123,10]++(b.attrs.map (rE f n)).flatten++(b.blocks.map λk=>uB m f k (n+1)).flatten++Cu n++[125,10]
def gI(f:Fl)(i n:Nat):Str:=uB (i+1) f i n
def nD(f:Fl):Str:=(f.top.map λi=>gI f i 0).flatten
def DG(f:Fl):Prop:=(∀(i:Nat) (e:Ex),f.ex[i]?=some e->∀a∈e.args,a<i)/\∀(i:Nat) (b:Blk),f.bl[i]?=some b->∀a∈b.blocks,a<i
theorem Me{f:Fl}(h:∀(i:Nat) (e:Ex),f.ex[i]?=some e->∀a∈e.args,a<i):∀(n i:Nat),i<n->zG n f i=bL f i:=by
 intro n i;induction i using Nat.strongRecOn generalizing n with
 |ind i ih=>
  intro hi;obtain⟨n,rfl⟩:∃m,n=m+1:=⟨n-1,by omega⟩;unfold bL;simp only[zG];cases he:f.ex[i]? with
  |none=>rfl
  |some e=>
   simp only;congr 1;unfold gB;apply dN;intro k hk;rw[dS]at hk;unfold xR;congr 1;have ha:=h i e he (e.args.getD k 0) (by rw[aH,aG hk];exact dU hk);rw[ih _ ha n (by omega),ih _ ha i ha]
theorem zF{f:Fl}(h:∀(i:Nat) (e:Ex),f.ex[i]?=some e->∀a∈e.args,a<i){e:Ex}(he:f.ex[i]?=some e):bL f i=fZ f e (gB e (bL f)):=by
 unfold bL;simp only[zG,he];congr 1;unfold gB;apply dN;intro k hk;rw[dS]at hk;unfold xR;congr 1;have ha:=h i e he (e.args.getD k 0) (by rw[aH,aG hk];exact dU hk);exact Me h i _ ha
theorem Ka{f:Fl}(h:∀(i:Nat) (b:Blk),f.bl[i]?=some b->∀a∈b.blocks,a<i):∀(n i l:Nat),i<n->uB n f i l=gI f i l:=by
 intro n i;induction i using Nat.strongRecOn generalizing n with
 |ind i ih=>
  intro l hi;obtain⟨n,rfl⟩:∃m,n=m+1:=⟨n-1,by omega⟩;unfold gI;simp only[uB];cases he:f.bl[i]? with
  |none=>rfl
  |some b=>
   simp only;have e:b.blocks.map (λk=>uB n f k (l+1))=b.blocks.map (λk=>uB i f k (l+1)):=by
    apply dN;intro k hk;have ha:=h i b he k hk;rw[ih _ ha n _ (by omega),ih _ ha i _ ha]
   rw[e]
theorem rD{f:Fl}(h:∀(i:Nat) (b:Blk),f.bl[i]?=some b->∀a∈b.blocks,a<i){b:Blk}(he:f.bl[i]?=some b)(n:Nat):
  gI f i n=Cu n++b.typ++qD b.labels++[32,123,10]++(b.attrs.map (rE f n)).flatten++(b.blocks.map λk=>gI f k (n+1)).flatten++Cu n++[125,10]:=by
 show uB (i+1) f i n=_;simp only[uB,he];have e:b.blocks.map (λk=>uB i f k (n+1))=b.blocks.map (λk=>gI f k (n+1)):=by
  apply dN;intro k hk;exact Ka h i k _ (h i b he k hk)
 rw[e]
end
end Go.Syn
namespace Go.Proofs.YtjblfcfdeaagpaaGreatDoor
section
open Go Go.Eng Go.Lex
variable{w:World}{K:Q0}{cs:List Value}{G:Nat->Prop}{T:TypeId}{i:Nat}{n:Nat}{v:Value}{w':World}{P:Program}{c:UInt8}{S:Nat->Prop}
theorem GQ(n:Nat)(s:Str)(at_ cnt:Nat):iJ n (32::s) at_ cnt=iJ n s (at_+1) cnt:=by
 cases n with
 |zero=>rfl
 |succ n=>
  rw[vY,vY];have e:cZ ((32::s).length+1) (32::s)=((cZ (s.length+1) s).1+1,(cZ (s.length+1) s).2):=rfl;rw[e];generalize cZ (s.length+1) s=k;simp only[bG];rw[show at_+(k.1+1)=at_+1+k.1 by omega]
end
section
open Go Go.Eng Go.Lex Go.Syn
variable{w:World}{K:Q0}{cs:List Value}{G:Nat->Prop}{T:TypeId}{i:Nat}{n:Nat}{v:Value}{w':World}{P:Program}{c:UInt8}{S:Nat->Prop}
abbrev KT:=Int×Str
def kt(t:Tok):KT:=(t.k,t.t)
def VP(N:Nat)(c:Int):Prop:=c=7\/(c=3/\4000<N)
def SR(N:Nat)(x:RS)(P:List Tok->Prop):Prop:=match x with
 |.ok l=>P l
 |.bad c _=>VP N c
theorem SR.mono{N:Nat}{x:RS}{P Q:List Tok->Prop}(h:SR N x P)(hq:∀l,P l->Q l):SR N x Q:=by
 cases x with
 |ok l=>exact hq l h
 |bad c a=>exact h
structure Sg(N:Nat)(A:Str)(T:List KT)(r:Str):Prop where
 len:T.length<=A.length
 go:∀(n a cnt:Nat) (Q:List Tok->Prop),(A++r).length<n->cnt<=a->a+(A++r).length<=N->(∀n',r.length<n'->SR N (iJ n' r (a+A.length) (cnt+T.length)) Q)->SR N (iJ n (A++r) a cnt) (λl=>∃l1 l2,l=l1++l2/\l1.map kt=T/\Q l2)
theorem Sg.app{N:Nat}{A B:Str}{T U:List KT}{r:Str}(h1:Sg N A T (B++r))(h2:Sg N B U r):Sg N (A++B) (T++U) r:=by
 refine⟨by have:=h1.len;have:=h2.len;simp only[aB];omega,λn a cnt Q hn hc ha hk=>?_⟩;rw[bB]at hn ha⊢;refine(h1.go n a cnt (λl=>∃l1 l2,l=l1++l2/\l1.map kt=U/\Q l2) hn hc ha λn' hn'=>?_).mono ?_
 ·have hl:=h1.len;refine h2.go n' _ _ Q hn' (by omega) (by simp only[aB]at ha⊢;omega) λn'' hn''=>?_;have:=hk n'' hn'';simp only[aB]at this;rwa[<-Nat.add_assoc,<-Nat.add_assoc]at this
 ·rintro l ⟨l1,l2,rfl,e1,l3,l4,rfl,e2,hq⟩;exact⟨l1++l3,l4,by rw[bB],by rw[jP,e1,e2],hq⟩
theorem Sg.nil(N:Nat)(r:Str):Sg N [] [] r:=⟨aL _,λn a cnt Q hn hc ha hk=>by
 rw[cI]at hn⊢
 exact(hk n hn).mono λl hl=>⟨[],l,rfl,rfl,hl⟩⟩
theorem nP(N:Nat)(r:Str):Sg N [32] [] r:=⟨cX _,λn a cnt Q hn hc ha hk=>by
 rw[dC,cI,GQ]
 exact(hk n (by simp at hn;omega)).mono λl hl=>⟨[],l,rfl,rfl,hl⟩⟩
theorem xI{N:Nat}{A r:Str}{k:Int}{t:Str}(hA:1<=A.length)(hsk:∀m,cZ (m+1) (A++r)=(0,0))(ho:iH (A++r)=(⟨k,t,0⟩,A.length,0)\/(iH (A++r)).2.2=7):Sg N A [(k,t)] r:=by
 refine⟨hA,λn a cnt Q hn hc ha hk=>?_⟩;obtain⟨n,rfl⟩:∃m,n=m+1:=⟨n-1,by omega⟩;rw[vY,hsk,bJ,aD (by decide),aD (by intro e;rw[List.append_eq_nil_iff]at e;rw[e.1]at hA;simp at hA)];rcases ho with ho|ho
 ·rw[ho,aD (λe=>e rfl)];simp only[aB]at ha hn;by_cases h:cnt=4096
  ·rw[aF h];exact .inr ⟨rfl,by omega⟩
  ·rw[aD h];have:=hk n (by omega);simp only[gF,oU];simp only[aA,aC,aQ]at this;cases hs:iJ n r (a+A.length) (cnt+1)with
   |ok l=>rw[hs]at this;exact⟨[_],l,rfl,rfl,this⟩
   |bad c b=>rw[hs]at this;exact this
 ·rw[aF (by rw[ho];decide),ho];exact .inl rfl
theorem vW(r:Str)(h:c≠32/\c≠9/\c≠13/\c≠35/\c≠47)(m:Nat):cZ (m+1) (c::r)=(0,0):=by
 obtain⟨h1,h2,h3,h4,h5⟩:=h;have e1:kW [47,47] (c::r)=false:=by
  unfold kW;simp only[List.isPrefixOf];rw[show((47:UInt8)==c)=false by simp;exactλe=>h5 e.symm];rfl
 have e2:kW [47,42] (c::r)=false:=by
  unfold kW;simp only[List.isPrefixOf];rw[show((47:UInt8)==c)=false by simp;exactλe=>h5 e.symm];rfl
 rw[cZ,e1,e2];simp[h1,h2,h3,h4]
def Bn:List UInt8:=[123,125,91,93,40,41,43,45,42,37,63,58,44,46]
theorem yG{N:Nat}(h:c∈Bn)(r:Str):Sg N [c] [(4,[c])] r:=by
 have hs:∀c∈Bn,(c≠32/\c≠9/\c≠13/\c≠35/\c≠47):=by decide
 refine xI (aL _) (vW r (hs c h)) (.inl ?_);simp only[Bn,bC,dH,mD]at h;cases r with
 |nil=>rcases h with rfl|rfl|rfl|rfl|rfl|rfl|rfl|rfl|rfl|rfl|rfl|rfl|rfl|rfl<;>rfl
 |cons d r=>rcases h with rfl|rfl|rfl|rfl|rfl|rfl|rfl|rfl|rfl|rfl|rfl|rfl|rfl|rfl<;>rfl
theorem KI(N:Nat)(r:Str):Sg N [10] [(5,[10])] r:=xI (aL _) (vW r (by decide)) (.inl rfl)
theorem QG{N:Nat}{w:Str}(h:w∈[61]::mW)(r:Str):Sg N w [(4,w)] (32::r):=by
 simp only[mW,bC,dH,mD]at h;refine xI ?_ ?_ (.inl ?_)
 ·rcases h with rfl|rfl|rfl|rfl|rfl|rfl|rfl|rfl|rfl|rfl|rfl|rfl|rfl|rfl<;>simp
 ·rcases h with rfl|rfl|rfl|rfl|rfl|rfl|rfl|rfl|rfl|rfl|rfl|rfl|rfl|rfl<;>exactλ_=>rfl
 ·rcases h with rfl|rfl|rfl|rfl|rfl|rfl|rfl|rfl|rfl|rfl|rfl|rfl|rfl|rfl<;>rfl
theorem Rx{N:Nat}(h:c≠61)(r:Str):Sg N [33] [(4,[33])] (c::r):=by
 refine xI (aL _) (vW _ (by decide)) (.inl ?_);have e:nO (33::c::r)=[33]:=by
  unfold nO;have:qV.contains ((33::c::r).take 2)=false:=by
   simp only[lO,oN];rw[Bool.eq_false_iff];intro hc;have:=xV.1 hc;simp only[qV,bC,dH,mD,fF,oI]at this;rcases this with h1|h1|h1|h1|h1|h1
   ·exact absurd h1.1 (by decide)
   ·exact h h1.2
   ·exact absurd h1.1 (by decide)
   ·exact absurd h1.1 (by decide)
   ·exact absurd h1.1 (by decide)
   ·exact absurd h1.1 (by decide)
  rw[this,aD (by decide)];rfl
 have hm:([33]:Str)++c::r=33::c::r:=rfl;rw[hm];unfold iH;simp only[AL];rw[aD (by decide),aD (by decide),aD (by decide),aD (by decide)];have:kW [60,60] (33::c::r)=false:=rfl;rw[this,aD (by decide),e];rfl
theorem GU{q:UInt8->Bool}:∀{t r:Str},(∀d∈t,q d=true)->(∀c x,r=c::x->q c=false)->cS q (t++r)=t.length
 |[],r,_,hr=>by
  cases r with
  |nil=>rfl
  |cons c x=>
   show cS q (c::x)=0
   rw[cS,hr c x rfl,aD (by decide)]
 |d::t,r,h,hr=>by
  show cS q (d::(t++r))=t.length+1
  rw[cS,aF (h d (by simp)),GU (λx hx=>h x (aK _ hx)) hr]
def NF(r:Str):Prop:=∀c x,r=c::x->dM c=false
theorem JA(h:eD c=true):c≠10/\c≠32/\c≠9/\c≠13/\c≠35/\c≠47:=by
 refine⟨?_,?_,?_,?_,?_,?_⟩<;>(rintro rfl;exact absurd h (by decide))
theorem Mh(h:eH c=true):eD c=false/\c≠10/\c≠32/\c≠9/\c≠13/\c≠35/\c≠47:=by
 refine⟨?_,?_,?_,?_,?_,?_,?_⟩
 ·simp only[eH,aZ,jE,UInt8.le_iff_toNat_le]at h;simp only[eD,rH,Bool.and_eq_false_iff,decide_eq_false_iff_not,UInt8.le_iff_toNat_le,beq_eq_false_iff_ne,AX,<-mV];have e1:(48:UInt8).toNat=48:=rfl;have e2:(57:UInt8).toNat=57:=rfl;have e3:(97:UInt8).toNat=97:=rfl;have e4:(122:UInt8).toNat=122:=rfl;have e5:(65:UInt8).toNat=65:=rfl;have e6:(90:UInt8).toNat=90:=rfl;have e7:(95:UInt8).toNat=95:=rfl;omega
 all_goals(rintro rfl;exact absurd h (by decide))
theorem DO{N:Nat}{t r:Str}(h:nI t)(hr:NF r):Sg N t [(1,t)] r:=by
 obtain⟨⟨c,x,rfl,hc⟩,hal,hle⟩:=h;obtain⟨n1,n2,n3,n4,n5,n6⟩:=JA hc;refine xI (by simp) (λm=>vW _ ⟨n2,n3,n4,n5,n6⟩ m) (.inl ?_);have e:=GU (q:=dM) hal hr;unfold iH;simp only[dC,AL];rw[aD (by simpa using n1),aF hc];have e:cS dM (c::(x++r))=(c::x).length:=e;simp only[e];rw[aD (by omega)];have:(c::(x++r)).take (c::x).length=c::x:=by rw[<-dC];exact rG
 rw[this]
theorem Ow{s:Str}(h10:s.headD 0≠10)(hl:eD (s.headD 0)=false)(hd:eH (s.headD 0)=true)(hn:cS eH s=n)(h1:((decide (n<s.length)&&eD ((s.drop n).headD 0))||(s.headD 0==48&&decide (1<n)))=false)(hg:Num.goodN (s.take n)=true):iH s=(⟨2,s.take n,0⟩,n,0):=by
 subst hn;unfold iH;simp only;rw[aD (by simpa using h10),aD (by rw[hl];decide),aF hd,aD (by rw[h1];decide),aF hg]
theorem MZ{N:Nat}{t r:Str}(h:MI t)(hr:NF r):Sg N t [(2,t)] r:=by
 obtain⟨⟨c,x,rfl⟩,hal,hz,hg⟩:=h;have hc:=hal c (by simp);obtain⟨n0,n1,n2,n3,n4,n5,n6⟩:=Mh hc;have hdn:∀c x,r=c::x->eH c=false/\eD c=false:=λc x e=>by
  have:=hr c x e;simp only[dM,rH]at this;exact⟨this.1.2,this.1.1⟩
 refine xI (by simp) (λm=>vW _ ⟨n2,n3,n4,n5,n6⟩ m) (.inl ?_);have e:=GU (q:=eH) hal (λc x e=>(hdn c x e).1);have hdrop:(c::x++r).drop (c::x).length=r:=oU;have htake:(c::x++r).take (c::x).length=c::x:=rG;have b1:(decide ((c::x).length<(c::x++r).length)&&eD (r.headD 0))=false:=by
  cases r with
  |nil=>simp
  |cons d y=>rw[show(d::y).headD 0=d from rfl,(hdn d y rfl).2,Bool.and_false]
 have b2:(c==48&&decide (1<(c::x).length))=false:=by
  by_cases h48:c=48
  ·have:=hz h48;rw[this];simp
  ·rw[show(c==48)=false by simpa using h48];rfl
 have:=Ow (s:=c::x++r) (n:=(c::x).length) n1 n0 hc e (by rw[hdrop,b1];exact b2) (by rw[htake];exact hg);rwa[htake]at this
def OW:List UInt8:=[41,93,44,32,125,10]
def zQ(r:Str):Prop:=r=[]\/∃c x,r=c::x/\c∈OW
theorem zQ.nf{r:Str}(h:zQ r):NF r:=by
 intro c x e;rcases h with rfl|⟨d,y,rfl,hd⟩
 ·cases e
 ·injection e with e1 _
  subst e1;exact(show∀c∈OW,dM c=false by decide) d hd
theorem Cc(h:c∈OW)(r:Str):zQ (c::r):=.inr ⟨c,r,rfl,h⟩
theorem OV:zQ []:=.inl rfl
theorem Lu(h:dM c=false)(r:Str):NF (c::r):=λd x e=>by injection e with e1 _;rw[<-e1];exact h
theorem Fe{N:Nat}{A:Str}{T:List KT}(h:Sg N A T [])(hu:Utf A)(hN:A.length<=N):SR N (iI A) (λl=>l.map kt=T++[(0,[])]):=by
 unfold iI;by_cases h1:16384<A.length
 ·rw[aF h1];exact .inr ⟨rfl,by omega⟩
 rw[aD h1,Pr hu (s:=A) (i:=0) (by rw[bJ])];simp only;have:=h.go (A.length+1) 0 0 (λl=>l.map kt=[(0,[])]) (by rw[cH];omega) (aL _) (by rw[cH];omega) λn' hn'=>by
  obtain⟨n',rfl⟩:∃m,n'=m+1:=⟨n'-1,by simp at hn';omega⟩;exact(show([⟨0,[],_⟩]:List Tok).map kt=[(0,[])]from rfl)
 rw[cH]at this;refine this.mono ?_;rintro l ⟨l1,l2,rfl,e1,e2⟩;rw[jP,e1,e2]
end
end Go.Proofs.YtjblfcfdeaagpaaGreatDoor
namespace Go.Syn
section
open Go Go.Eng Go.Lex
variable{w:World}{K:Q0}{cs:List Value}{G:Nat->Prop}{T:TypeId}{i:Nat}{n:Nat}{v:Value}{w':World}{P:Program}{c:UInt8}{S:Nat->Prop}
inductive Wc (c:UInt8):Str->Prop where
 |esc (e:UInt8) (h:Lex.escOk e=true) (h2:(if e=110 then(10:UInt8)else if e=116 then 9 else if e=114 then 13 else e)=c):Wc c [92,e]
 |lit (h1:c≠92) (h2:c≠34) (h3:c≠36) (h4:c≠10):Wc c [c]
theorem qI(c:UInt8):Wc c (kG c):=by
 unfold kG;by_cases h1:c=92\/c=34\/c=36
 ·rw[aF h1];rcases h1 with rfl|rfl|rfl<;>exact .esc _ (by decide) (by decide)
 rw[aD h1];by_cases h2:c=10
 ·rw[aF h2];subst h2;exact .esc _ (by decide) (by decide)
 rw[aD h2];by_cases h3:c=9
 ·rw[aF h3];subst h3;exact .esc _ (by decide) (by decide)
 rw[aD h3];by_cases h4:c=13
 ·rw[aF h4];subst h4;exact .esc _ (by decide) (by decide)
 rw[aD h4];exact .lit (λe=>h1 (.inl e)) (λe=>h1 (.inr (.inl e))) (λe=>h1 (.inr (.inr e))) h2
theorem iZ(c:UInt8)(s:Str):plainM (c::s)=kG c++plainM s:=rfl
theorem qW:∀s:Str,dT (plainM s)=s
 |[]=>rfl
 |c::s=>by
  rw[iZ]
  have ih:=qW s
  have hp:=qI c
  generalize kG c=p at hp
  cases hp with
  |esc e h h2=>
   show dT (92::e::plainM s)=_
   rw[dT,aF rfl,ih,h2]
  |lit h1 h2 h3 h4=>
   show dT (c::plainM s)=_
   cases hs:plainM s with
   |nil=>
    rw[hs]at ih
    rw[dT,aD h1,<-ih];rfl
   |cons d r=>
    rw[hs]at ih
    rw[dT,aD h1,ih]
theorem wN:∀s:Str,insP (plainM s)=none
 |[]=>rfl
 |c::s=>by
  rw[iZ]
  have ih:=wN s
  have hp:=qI c
  generalize kG c=p at hp
  cases hp with
  |esc e h h2=>
   show insP (92::e::plainM s)=_
   rw[insP,aF rfl,ih];rfl
  |lit h1 h2 h3 h4=>
   show insP (c::plainM s)=_
   cases hs:plainM s with
   |nil=>rfl
   |cons d r=>
    rw[hs]at ih
    rw[insP,aD h1,aD (λe=>h3 e.1),ih];rfl
end
end Go.Syn
namespace Go.Proofs.YtjblfcfdeaagpaaGreatDoor
section
open Go Go.Eng Go.Lex Go.Syn
variable{w:World}{K:Q0}{cs:List Value}{G:Nat->Prop}{T:TypeId}{i:Nat}{n:Nat}{v:Value}{w':World}{P:Program}{c:UInt8}{S:Nat->Prop}
theorem IZ(j k:Nat)(x:Nat×Int):iT j (iT k x)=iT (k+j) x:=by
 obtain⟨a,b⟩:=x;unfold iT;by_cases h:b=0
 ·simp only[h,gY];rw[Nat.add_assoc]
 ·simp only[aD h]
theorem MC(x:Nat×Int)(h:x.2=0\/x.1=0):iT 0 x=x:=by
 obtain⟨a,b⟩:=x;unfold iT;by_cases hb:b=0
 ·simp only[hb,gY,gF]
 ·have h0:a=0:=h.resolve_left hb;subst h0;simp only[aD hb]
theorem QX{k:Nat}{x:Nat×Int}(h:x.2=7):(iT k x).2=7:=by
 unfold iT;rw[aD (by rw[h];decide)];exact h
theorem EL(j k:Nat):iT j (k,0)=(k+j,0):=rfl
def In(A:Str):Prop:=∀(r:Str) (d:Nat),(∃y,hM (A++r) d=y/\y.2=7)\/hM (A++r) d=iT A.length (hM r d)
def Tx(A:Str):Prop:=∀(r:Str) (d:Nat),(∃y,dW (A++r) d=y/\y.2=7)\/dW (A++r) d=iT A.length (dW r d)
theorem Pw{k:Nat}{x:Nat×Int}(h:(iT k x).2≠0):(iT k x).1=0:=by
 unfold iT at h⊢;split at h
 ·exact absurd rfl h
 ·rename_i hn;rw[aD hn]
theorem Kx(r:Str)(d:Nat):(dW r d).2≠0->(dW r d).1=0:=by
 cases r with
 |nil=>intro _;rfl
 |cons c r=>
  rw[iF]
  repeat' split
  all_goals first
   |exactλh=>absurd rfl h
   |exactλ_=>rfl
   |exact Pw
theorem Tx.nil:Tx []:=λr d=>by
 right
 rw[cI,aC,MC]
 by_cases h:(dW r d).2=0
 ·exact .inl h
 ·exact .inr (Kx r d h)
theorem In.app{A B:Str}(h1:In A)(h2:In B):In (A++B):=λr d=>by
 rw[bB]
 rcases h1 (B++r) d with h|h
 ·exact .inl h
 rcases h2 r d with⟨y,e,h7⟩|e
 ·exact .inl ⟨_,h,QX (by rw[e];exact h7)⟩
 ·right
  rw[h,e,IZ,aB,lS]
theorem Tx.app{A B:Str}(h1:Tx A)(h2:Tx B):Tx (A++B):=λr d=>by
 rw[bB]
 rcases h1 (B++r) d with h|h
 ·exact .inl h
 rcases h2 r d with⟨y,e,h7⟩|e
 ·exact .inl ⟨_,h,QX (by rw[e];exact h7)⟩
 ·right
  rw[h,e,IZ,aB,lS]
theorem LU(h:c≠125/\c≠10/\c≠123/\c≠34):In [c]:=λr d=>by
 obtain⟨h1,h2,h3,h4⟩:=h
 right
 rw[dC,cI,nC]
 simp[h1,h2,h3,h4]
theorem LW{A:Str}(h:∀c∈A,c≠125/\c≠10/\c≠123/\c≠34)(hA:A≠[]):In A:=by
 induction A with
 |nil=>exact absurd rfl hA
 |cons c A ih=>
  by_cases hn:A=[]
  ·subst hn;exact LU (h c (by simp))
  ·exact(LU (h c (by simp))).app (ih (λd hd=>h d (aK _ hd)) hn)
theorem LV{A:Str}(h:A=[]\/In A):In ([123]++A++[125]):=λr d=>by
 have e:[123]++A++[125]++r=123::(A++125::r):=by simp
 rw[e,nC]
 rw[aD (by decide),aD (by decide),aF (by decide)]
 by_cases h24:24<d+1
 ·rw[aF h24];exact .inl ⟨_,rfl,rfl⟩
 rw[aD h24]
 have hx:hM (125::r) (d+1)=(1,0):=by rw[nC,aF (by decide)]
 have hA:(∃y,hM (A++125::r) (d+1)=y/\y.2=7)\/hM (A++125::r) (d+1)=(A.length+1,0):=by
  rcases h with rfl|h
  ·right;rw[cI,hx];rfl
  ·rcases h (125::r) (d+1)with h|h
   ·exact .inl h
   ·right;rw[h,hx,EL,lS]
 rcases hA with⟨y,e1,e7⟩|e1
 ·rw[e1,aD (by rw[e7];decide)];exact .inl ⟨_,rfl,e7⟩
 ·right;rw[e1,aF rfl];have:(A++125::r).drop (A.length+1)=r:=by rw[List.drop_append,gR (by omega),cI,show A.length+1-A.length=0+1 by omega,bG,bJ]
  rw[this];congr 1;simp
theorem OR{A:Str}(h:Tx A):In ([34]++A++[34]):=λr d=>by
 have e:[34]++A++[34]++r=34::(A++34::r):=by simp
 rw[e,nC]
 rw[aD (by decide),aD (by decide),aD (by decide),aF (by decide)]
 have hx:dW (34::r) d=(1,0):=by rw[iF,aF (by decide)]
 rcases h (34::r) d with⟨y,e1,e7⟩|e1
 ·rw[e1,aD (by rw[e7];decide)]
  exact .inl ⟨_,rfl,e7⟩
 ·right
  rw[e1,hx,EL,aF rfl]
  have:(A++34::r).drop (1+A.length)=r:=by rw[lS,List.drop_append,gR (by omega),cI,show A.length+1-A.length=0+1 by omega,bG,bJ]
  rw[this]
  congr 1
  simp;omega
theorem yB(s:Str):Tx (Syn.plainM s):=by
 induction s with
 |nil=>exact Tx.nil
 |cons c s ih=>
  rw[iZ];refine Tx.app (λr d=>?_) ih;right;have hp:=qI c;generalize kG c=p at hp;cases hp with
  |esc e h h2=>
   show dW (92::e::r) d=_;rw[iF];rw[aD (by decide),aD (by decide),aF (by decide)];simp only[h,gY];rfl
  |lit h1 h2 h3 h4=>
   show dW (c::r) d=_;rw[iF];rw[aD (by simpa using h2),aD (by simpa using h4),aD (by simpa using h1)];have hpre:kW [36,123] (c::r)=false:=by
    unfold kW;simp only[List.isPrefixOf];rw[show((36:UInt8)==c)=false by simp;exactλe=>h3 e.symm];rfl
   rw[hpre,aD (by decide)];rfl
theorem MU{A:Str}(h:In A):Tx ([36,123]++A++[125]):=λr d=>by
 have e:[36,123]++A++[125]++r=36::123::(A++125::r):=by simp
 rw[e,iF]
 rw[aD (by decide),aD (by decide),aD (by decide)]
 have hpre:kW [36,123] (36::123::(A++125::r))=true:=rfl
 rw[hpre,aF rfl]
 by_cases h24:24<d+1
 ·rw[aF h24];exact .inl ⟨_,rfl,rfl⟩
 rw[aD h24]
 simp only[bG,bJ]
 have hx:hM (125::r) (d+1)=(1,0):=by rw[nC,aF (by decide)]
 rcases h (125::r) (d+1)with⟨y,e1,e7⟩|e1
 ·rw[e1,aD (by rw[e7];decide)]
  exact .inl ⟨_,rfl,e7⟩
 ·right
  rw[e1,hx,EL,aF rfl]
  have:(A++125::r).drop (1+A.length)=r:=by rw[lS,List.drop_append,gR (by omega),cI,show A.length+1-A.length=0+1 by omega,bG,bJ]
  rw[this]
  congr 1
  simp;omega
theorem Ia{N:Nat}{A:Str}(h:Tx A)(r:Str):Sg N ([34]++A++[34]) [(3,A)] r:=by
 have e:[34]++A++[34]++r=34::(A++34::r):=by simp
 refine xI (by simp) (λm=>by rw[e];exact vW _ (by decide) m) ?_;rw[e];unfold iH;simp only[AL,bG,bJ];rw[aD (by decide),aD (by decide),aD (by decide),aF (by decide)];have hx:mM ((34::(A++34::r)).length+1) (A++34::r) 0=dW (A++34::r) 0:=pK (by simp;omega);rw[hx];have h34:dW (34::r) 0=(1,0):=by rw[iF,aF (by decide)]
 rcases h (34::r) 0 with⟨y,e1,e7⟩|e1
 ·right;rw[e1,aD (by rw[e7];decide)];exact e7
 ·left;rw[e1,h34,EL,aF rfl];have:(A++34::r).take (1+A.length-1)=A:=by rw[Nat.add_sub_cancel_left];exact rG
  rw[this];simp;omega
def Br(A:Str):Prop:=∀(r:Str) (d:Int),1<=d->lR (A++r) d=A.length+lR r d
def Qu(A:Str):Prop:=∀r:Str,nJ (A++r)=A.length+nJ r
theorem Br.app{A B:Str}(h1:Br A)(h2:Br B):Br (A++B):=λr d hd=>by
 rw[bB,h1 _ d hd,h2 _ d hd,aB];omega
theorem Qu.app{A B:Str}(h1:Qu A)(h2:Qu B):Qu (A++B):=λr=>by
 rw[bB,h1,h2,aB];omega
theorem Br.nil:Br []:=λr d _=>by simp
theorem Qu.nil:Qu []:=λr=>by simp
theorem Pg(h:c≠125/\c≠123/\c≠34):Br [c]:=λr d _=>by
 rw[dC,cI,gU,aD h.2.1,aD h.1,aD h.2.2];rfl
theorem Mp{A:Str}(h:∀c∈A,c≠125/\c≠123/\c≠34):Br A:=by
 induction A with
 |nil=>exact Br.nil
 |cons c A ih=>exact(Pg (h c (by simp))).app (ih λd hd=>h d (aK _ hd))
theorem Mo{A:Str}(h:Br A):Br ([123]++A++[125]):=λr d hd=>by
 have e:[123]++A++[125]++r=123::(A++125::r):=by simp
 rw[e,gU,aF rfl,h _ _ (by omega),gU,aD (by decide),aF rfl,aD (by omega),show d+1-1=d by omega]
 simp;omega
theorem JX(A:Str)(c:UInt8)(r:Str):(A++c::r).drop (A.length+1)=r:=by rw[List.drop_append,gR (by omega),cI,show A.length+1-A.length=0+1 by omega,bG,bJ]
theorem Pf{A:Str}(h:Qu A):Br ([34]++A++[34]):=λr d hd=>by
 have e:[34]++A++[34]++r=34::(A++34::r):=by simp
 have q:nJ (A++34::r)=A.length+1:=by rw[h,oZ,aF rfl]
 rw[e,gU,aD (by decide),aD (by decide),aF rfl,q,JX]
 simp;omega
theorem Bv(s:Str):Qu (Syn.plainM s):=by
 induction s with
 |nil=>exact Qu.nil
 |cons c s ih=>
  rw[iZ];refine Qu.app (λr=>?_) ih;have hp:=qI c;generalize kG c=p at hp;cases hp with
  |esc e h h2=>
   show nJ (92::e::r)=_;rw[oZ,aD (by decide),aF rfl];rfl
  |lit h1 h2 h3 h4=>
   show nJ (c::r)=_;have hpre:kW [36,123] (c::r)=false:=by
    unfold kW;simp only[List.isPrefixOf];rw[show((36:UInt8)==c)=false by simp;exactλe=>h3 e.symm];rfl
   rw[oZ,aD h2,aD h1,hpre,aD (by decide)];rfl
theorem IQ{A:Str}(h:Br A)(r:Str):Ap ([123]++A++[125]++r)=A.length+2:=by
 have e:[123]++A++[125]++r=123::(A++125::r):=by simp
 show lR _ 0=_;rw[e,gU,aF rfl,h _ _ (by omega),gU,aD (by decide),aF rfl,aF (by omega)];omega
theorem RE{A:Str}(h:Br A):Qu ([36,123]++A++[125]):=λr=>by
 have e:[36,123]++A++[125]++r=36::([123]++A++[125]++r):=by simp
 have hb:lR ([123]++A++[125]++r) 0=A.length+2:=IQ h r
 have hpre:kW [36,123] (36::([123]++A++[125]++r))=true:=rfl
 rw[e,oZ,aD (by decide),aD (by decide),hpre,aF rfl,hb]
 have hd:([123]++A++[125]++r).drop (A.length+2)=r:=by
  have:([123]++A++[125]).length=A.length+2:=by simp
  rw[<-this];exact oU
 rw[hd];simp;omega
theorem wO{A:Str}(h:Br A)(r:Str):∀s:Str,Syn.insP (Syn.plainM s++([36,123]++A++[125]++r))=some ((Syn.plainM s).length,(Syn.plainM s).length+(A.length+3))
 |[]=>by
  have e:Syn.plainM []++([36,123]++A++[125]++r)=36::123::(A++[125]++r):=by simp[Syn.plainM]
  have hb:Ap (123::(A++[125]++r))=A.length+2:=by have:=IQ h r;simpa using this
  rw[e,Syn.insP,aD (by decide),aF ⟨rfl,rfl⟩,hb]
  show some (0,_)=some (0,0+_)
  rw[aQ,lS]
 |c::s=>by
  rw[iZ,bB]
  have ih:=wO h r s
  have hp:=qI c
  generalize kG c=p at hp
  generalize hR:Syn.plainM s++([36,123]++A++[125]++r)=R at ih
  have hRn:R≠[]:=by rw[<-hR];simp
  cases hp with
  |esc e h1 h2=>
   show Syn.insP (92::e::R)=_
   rw[Syn.insP,aF rfl,ih]
   show some (_,_)=some (_,_)
   simp only[aB,aA,aC]
   congr 2<;>omega
  |lit h1 h2 h3 h4=>
   show Syn.insP (c::R)=_
   cases R with
   |nil=>exact absurd rfl hRn
   |cons d R=>
    rw[Syn.insP,aD h1,aD (λe=>h3 e.1),ih]
    show some (_,_)=some (_,_)
    simp only[aB,aA,aC]
    congr 2<;>omega
def gX(s:PS):List KT:=(s.toks.drop s.i).map kt
structure Mv(s s':PS)(F:List KT):Prop where
 toks:s'.toks=s.toks
 deep:s'.deep=s.deep
 quiet:s'.quiet=s.quiet
 bl:s'.bl=s.bl
 ex:s.ex<+:s'.ex
 fr:gX s'=F
theorem Mv.trans{s s1 s2:PS}{F G:List KT}(h1:Mv s s1 F)(h2:Mv s1 s2 G):Mv s s2 G:=
 ⟨h2.toks.trans h1.toks,h2.deep.trans h1.deep,h2.quiet.trans h1.quiet,h2.bl.trans h1.bl,h1.ex.trans h2.ex,h2.fr⟩
def kE{α:Type}(N:Nat)(r:R α)(P:α->PS->Prop):Prop:=match r with
 |.ok x s=>P x s
 |.err c _=>VP N c
theorem kE.bind{α β:Type}{N:Nat}{r:R α}{f:α->PS->R β}{P:α->PS->Prop}{Q:β->PS->Prop}(h:kE N r P)(hf:∀x s,P x s->kE N (f x s) Q):kE N (r.bind f) Q:=by
 cases r with
 |ok x s=>exact hf x s h
 |err c a=>exact h
theorem kE.mono{α:Type}{N:Nat}{r:R α}{P Q:α->PS->Prop}(h:kE N r P)(hf:∀x s,P x s->Q x s):kE N r Q:=by
 cases r with
 |ok x s=>exact hf x s h
 |err c a=>exact h
def Qt(s:PS)(k:Int):Prop:=s.quiet=false\/k≠5
theorem Mv.qt{s s':PS}{F:List KT}{k:Int}(h:Mv s s' F)(hq:Qt s k):Qt s' k:=by unfold Qt;rw[h.quiet];exact hq
theorem HC{s:PS}{k:Int}{w:Str}{F:List KT}(h:gX s=(k,w)::F):∃t r,s.toks.drop s.i=t::r/\t.k=k/\t.t=w/\r.map kt=F:=by
 unfold gX at h;cases hd:s.toks.drop s.i with
 |nil=>rw[hd]at h;cases h
 |cons t r=>
  rw[hd]at h;simp only[bS,fF,kt,eY]at h;exact⟨t,r,rfl,h.1.1,h.1.2,h.2⟩
theorem eF{s:PS}{k:Int}{w:Str}{F:List KT}(h:gX s=(k,w)::F)(hq:Qt s k):aM s=s/\(cur s).k=k/\(cur s).t=w:=by
 obtain⟨t,r,hd,hk,ht,_⟩:=HC h;have e:aM s=s:=by
  unfold aM;by_cases hh:s.quiet=true
  ·rw[aF hh];have:eS (s.toks.drop s.i)=0:=by
    rw[hd];simp only[eS];rw[aD (by rw[hk];exact hq.resolve_left (by rw[hh];decide))]
   rw[this];rfl
  ·rw[aD hh]
 have et:jX s=t:=by
  unfold jX;have:=congrArg (λl=>l[0]?) hd;simp only[fU,gF,dV]at this;rw[aH,this];rfl
 refine⟨e,?_,?_⟩
 ·unfold cur;rw[e,et];exact hk
 ·unfold cur;rw[e,et];exact ht
theorem dE{s:PS}{x:KT}{F:List KT}(h:gX s=x::F):gX (step1 s)=F:=by
 unfold gX at h⊢;show(s.toks.drop (s.i+1)).map kt=F;rw[<-dY,List.map_drop,h];rfl
theorem cW{s:PS}{x:KT}{F:List KT}(h:gX s=x::F):Mv s (step1 s) F:=⟨rfl,rfl,rfl,rfl,iU _,dE h⟩
theorem QN{s:PS}{k:Int}{w:Str}{F:List KT}(h:gX s=(k,w)::F)(hq:Qt s k)(v:Str):isS s v=(decide (k=4)&&decide (w=v)):=by
 obtain⟨_,h1,h2⟩:=eF h hq;unfold isS;rw[h1,h2]
theorem xS(s:PS):Qt s 4:=.inr (by decide)
theorem jM{s:PS}{w:Str}{F:List KT}(h:gX s=(4,w)::F):isS s w=true:=by rw[QN h (xS s)];simp
theorem nX{s:PS}{k:Int}{w v:Str}{F:List KT}(h:gX s=(k,w)::F)(hq:Qt s k)(hn:¬(k=4/\w=v)):isS s v=false:=by
 rw[QN h hq,Bool.and_eq_false_iff,decide_eq_false_iff_not,decide_eq_false_iff_not];by_cases hk:k=4
 ·exact .inr λe=>hn ⟨hk,e⟩
 ·exact .inl hk
theorem jS{s:PS}{w:Str}{F:List KT}(h:gX s=(4,w)::F):aW s w=(true,step1 s):=by
 unfold aW;rw[jM h,aF rfl,(eF h (xS s)).1]
theorem jB{s:PS}{k:Int}{w v:Str}{F:List KT}(h:gX s=(k,w)::F)(hq:Qt s k)(hn:¬(k=4/\w=v)):aW s v=(false,s):=by
 unfold aW;rw[nX h hq hn,aD (by decide),(eF h hq).1]
theorem qK{s:PS}{w:Str}{F:List KT}(h:gX s=(4,w)::F):jR s w=.ok () (step1 s):=by
 unfold jR;rw[jM h,aF rfl,(eF h (xS s)).1]
theorem EA{s:PS}{k:Int}{w:Str}{F:List KT}(h:gX s=(k,w)::F)(hq:Qt s k)(hk:k≠0):fB s=step1 s:=by
 obtain⟨h1,h2,_⟩:=eF h hq;unfold fB;rw[h2,aF hk,h1]
theorem tW{s:PS}{k:Int}{w:Str}{F:List KT}(h:gX s=(k,w)::F)(hq:Qt s k)(hk:k≠0):∃t,iC s k=.ok t (step1 s)/\t.k=k/\t.t=w:=by
 obtain⟨h1,h2,h3⟩:=eF h hq;unfold iC;rw[h2,aF rfl,EA h hq hk];exact⟨_,rfl,h2,h3⟩
theorem Tf{s:PS}{w:Str}{F:List KT}(h:gX s=(0,w)::F):∃t,iC s 0=.ok t s:=by
 obtain⟨h1,h2,h3⟩:=eF h (.inr (by decide));unfold iC fB;rw[h2,aF rfl,aD (λe=>e rfl),h1];exact⟨_,rfl⟩
theorem Ma{s:PS}{k:Int}{w:Str}{F:List KT}(h:gX s=(k,w)::F)(hk:k≠5):eS (s.toks.drop s.i)=0:=by
 obtain⟨t,r,hd,hk',_,_⟩:=HC h;rw[hd];simp only[eS];rw[aD (by rw[hk'];exact hk)]
theorem zC{s:PS}{k:Int}{w:Str}{F:List KT}(h:gX s=(k,w)::F)(hk:k≠5):dG s=s:=by
 have e:=(eF h (.inr hk)).1;unfold dG;rw[e,Ma h hk];rfl
theorem zD{s:PS}{k:Int}{w v:Str}{F:List KT}(h:gX s=(5,v)::(k,w)::F)(hk:k≠5)(hq:s.quiet=false):dG s=step1 s:=by
 have e:=(eF h (.inl hq)).1;obtain⟨t,r,hd,hk',_,hr⟩:=HC h;unfold dG;have:eS (s.toks.drop s.i)=1:=by
  have h2:=Ma (dE h) hk;have hr2:(step1 s).toks.drop (step1 s).i=r:=by
   show s.toks.drop (s.i+1)=r;rw[<-dY,hd];rfl
  rw[hr2]at h2;rw[hd];simp only[eS];rw[aF hk',h2]
 rw[e,this];rfl
theorem BZ{s:PS}{F:List KT}(h:gX s=F):F.length<=s.toks.length:=by
 rw[<-h];unfold gX;rw[cD,aJ];omega
theorem jA{α:Type}{N:Nat}{s:PS}{a:Int}{q:Bool}{f:PS->R α}{P:α->PS->Prop}(hd:s.deep+n=24)(h:∀m,n=m+1->kE N (f {s with deep:=s.deep+1,quiet:=q}) P):kE N (within s a q f) (λx s'=>∃s2,P x s2/\s'={s2 with deep:=s.deep,quiet:=s.quiet}):=by
 unfold within;by_cases h24:s.deep=24
 ·rw[aF h24];exact .inl rfl
 ·rw[aD h24];obtain⟨m,rfl⟩:∃m,n=m+1:=⟨n-1,by omega⟩;exact(h m rfl).bind λx s2 hp=>⟨s2,hp,rfl⟩
theorem xC{s s2:PS}{q:Bool}{F:List KT}(h:Mv {s with deep:=s.deep+1,quiet:=q} s2 F):Mv s {s2 with deep:=s.deep,quiet:=s.quiet} F:=
 ⟨h.toks,rfl,rfl,h.bl,h.ex,h.fr⟩
inductive sH (f g:List Ex):Nat->Nat->Prop
 |mk {i x:Nat} {a b:Ex} (hf:f[i]?=some a) (hg:g[x]?=some b) (hk:b.k=a.k) (ht:b.t=a.t) (hs:b.keys=a.keys) (hl:b.args.length=a.args.length) (h:∀j,j<a.args.length->sH f g (a.args.getD j 0) (b.args.getD j 0)):sH f g i x
theorem sH.mono{f g g':List Ex}(hp:g<+:g'){x:Nat}(h:sH f g i x):sH f g' i x:=by
 induction h with
 |mk hf hg hk ht hs hl h ih=>exact .mk hf (yN hp hg) hk ht hs hl ih
def uK(f g:List Ex)(us l:List Nat):Prop:=l.length=us.length/\∀j,j<us.length->sH f g (us.getD j 0) (l.getD j 0)
theorem uK.mono{f g g':List Ex}(hp:g<+:g'){us l:List Nat}(h:uK f g us l):uK f g' us l:=⟨h.1,λj hj=>(h.2 j hj).mono hp⟩
theorem uK.nil(f g:List Ex):uK f g [] []:=⟨rfl,λj h=>by cases h⟩
theorem uK.snoc{f g:List Ex}{us l:List Nat}{u x:Nat}(h:uK f g us l)(hx:sH f g u x):uK f g (us++[u]) (l++[x]):=by
 have hl:=h.1;refine⟨by simp[h.1],λj hj=>?_⟩;simp only[aB,aA,aC]at hj;by_cases hlt:j<us.length
 ·have:=h.2 j hlt;rw[aH,aH,dA hlt,dA (by rw[h.1];exact hlt),<-aH,<-aH];exact this
 ·have:j=us.length:=by omega
  subst this;rw[aH,aH,cJ (aL _),cJ (by omega),h.1];simpa using hx
theorem nR{f:List Ex}{N:Nat}{s:PS}{a b:Ex}{k:Int}{w:Str}{G:List KT}(hs:gX s=(k,w)::G)(hf:f[i]?=some a)(hk:b.k=a.k)(ht:b.t=a.t)(hy:b.keys=a.keys)(hl:uK f s.ex a.args b.args):kE N (lL s b) (λx s'=>Mv s s' ((k,w)::G)/\sH f s'.ex i x):=by
 have hp:s.ex<+:s.ex++[b]:=iM _ _;refine⟨⟨rfl,rfl,rfl,rfl,hp,hs⟩,.mk hf (b:=b) ?_ hk ht hy hl.1 λj hj=>(hl.2 j hj).mono hp⟩;rw[cJ (aL _),Nat.sub_self];rfl
def zR:Nat->PS->R Nat
 |0=>dead
 |n+1=>(gV n).1
def MD:Nat->PS->R Nat
 |0=>dead
 |n+1=>(gV n).2
theorem Ai(n:Nat):(gV n).1=rX (zR n) (MD n):=by cases n<;>rfl
theorem JQ(n:Nat):(gV n).2=nN (zR n) (MD n):=by cases n<;>rfl
def lev(k:Int)(w:Str)(n:Nat):Int:=if k=4 then sT n w else 0
section
variable{N:Nat}{E S:PS->R Nat}{s:PS}{k:Int}{w:Str}{G:List KT}{Q:Nat->PS->Prop}
theorem MO{m:Nat}(hQ:∀x s',Q x s'->gX s'=(k,w)::G/\Qt s' k)(hl:lev k w (5-m)=0)(h:kE N (iD E S m s) Q):kE N (iD E S (m+1) s) Q:=by
 refine kE.bind (r:=iD E S m s) h λx s1 hq=>?_;obtain⟨h1,h2⟩:=hQ x s1 hq;obtain⟨e1,e2,e3⟩:=eF h1 h2;simp only[nW];rw[show lA (cur s1) (5-m)=lev k w (5-m)by unfold lA lev;rw[e2,e3],hl,aF rfl,e1];exact hq
theorem Kn(hQ:∀x s',Q x s'->gX s'=(k,w)::G/\Qt s' k){m:Nat}(h:kE N (iD E S m s) Q):∀j,(∀n,6-(m+j)<=n->n<6-m->lev k w n=0)->m+j<=6->kE N (iD E S (m+j) s) Q
 |0,_,_=>h
 |j+1,hl,hm=>by
  show kE N (iD E S ((m+j)+1) s) Q
  exact MO hQ (hl (5-(m+j)) (by omega) (by omega)) (Kn hQ h j (λn h1 h2=>hl n (by omega) h2) (by omega))
theorem Dq(hQ:∀x s',Q x s'->gX s'=(k,w)::G/\Qt s' k)(hn:¬(k=4/\w=[63]))(h:kE N (iD E S 6 s) Q):kE N (rX E S s) Q:=by
 refine kE.bind (r:=iD E S 6 s) h λx s1 hq=>?_;obtain⟨h1,h2⟩:=hQ x s1 hq;rw[jB h1 h2 hn];simp only;rw[aD (by decide)];exact hq
end
def Cf:List Str:=[[41],[93],[44],[125],[58]]
theorem IJ:∀w∈Cf,∀n,n<6->sT n w=0:=by decide
theorem Mg:∀w∈Cf,w≠[46]/\w≠[91]/\w≠[40]/\w≠[63]:=by decide
def HT(T:List KT):Prop:=∃k w U,T=(k,w)::U/\((k=1/\w≠oH)\/k=2\/k=3\/(k=4/\(w=[40]\/w=[91]\/w=[123])))
theorem HT.head{T F:List KT}(h:HT T):∃k w U,T++F=(k,w)::U/\k≠5/\k≠0/\(k=4->w=[40]\/w=[91]\/w=[123])/\(k=1->w≠oH):=by
 obtain⟨k,w,U,rfl,h⟩:=h;refine⟨k,w,U++F,rfl,?_,?_,?_,?_⟩
 ·rcases h with h|h|h|h<;>omega
 ·rcases h with h|h|h|h<;>omega
 ·intro h4;rcases h with h|h|h|h
  ·omega
  ·omega
  ·omega
  ·exact h.2
 ·intro h1;rcases h with h|h|h|h
  ·exact h.2
  ·omega
  ·omega
  ·omega
def Pp(N:Nat)(f:List Ex)(i:Nat)(T:List KT):Prop:=∀(n:Nat) (s:PS) (k:Int) (w:Str) (G:List KT),gX s=T++(k,w)::G->¬(k=4/\(w=[46]\/w=[91]\/w=[40]))->Qt s k->s.deep+n=24->kE N (xA (zR n) s) (λx s'=>Mv s s' ((k,w)::G)/\sH f s'.ex i x)
section
variable{N:Nat}{f:List Ex}{i:Nat}{T:List KT}
theorem Pp.sign(h:Pp N f i T)(hT:HT T){s:PS}{k:Int}{w:Str}{G:List KT}(hs:gX s=T++(k,w)::G)(hn:¬(k=4/\(w=[46]\/w=[91]\/w=[40])))(hq:Qt s k)(hd:s.deep+n=24):kE N (nN (zR n) (MD n) s) (λx s'=>Mv s s' ((k,w)::G)/\sH f s'.ex i x):=by
 obtain⟨k0,w0,U,e,h5,_,h4,_⟩:=hT.head (F:=(k,w)::G);have hs0:=hs.trans e;have q0:Qt s k0:=.inr h5;unfold nN;simp only[(eF hs0 q0).1];rw[nX hs0 q0 (λe=>by rcases h4 e.1 with h|h|h<;>(rw[h]at e;exact absurd e.2 (by decide))),nX hs0 q0 (λe=>by rcases h4 e.1 with h|h|h<;>(rw[h]at e;exact absurd e.2 (by decide))),aD (by decide),aD (by decide)];exact h n s k w G hs hn hq hd
theorem Pp.join(h:Pp N f i T)(hT:HT T){m:Nat}{s:PS}{k:Int}{w:Str}{G:List KT}(hs:gX s=T++(k,w)::G)(hn:¬(k=4/\(w=[46]\/w=[91]\/w=[40])))(hq:Qt s k)(hd:s.deep+n=24)(hm:m<=6)(hl:∀j,6-m<=j->j<6->lev k w j=0):kE N (iD (zR n) (MD n) m s) (λx s'=>Mv s s' ((k,w)::G)/\sH f s'.ex i x):=by
 have h0:kE N (iD (zR n) (MD n) 0 s) (λx s'=>Mv s s' ((k,w)::G)/\sH f s'.ex i x):=h.sign hT hs hn hq hd;have:=Kn (k:=k) (w:=w) (G:=G) (λx s' hx=>⟨hx.1.fr,hx.1.qt hq⟩) h0 m (λn h1 h2=>hl n (by omega) (by omega)) (by omega);rwa[aQ]at this
theorem Pp.expr(h:Pp N f i T)(hT:HT T){s:PS}{k:Int}{w:Str}{G:List KT}(hs:gX s=T++(k,w)::G)(hn:k=4->w∈Cf)(hq:Qt s k)(hd:s.deep+n=24):kE N ((gV n).1 s) (λx s'=>Mv s s' ((k,w)::G)/\sH f s'.ex i x):=by
 rw[Ai];refine Dq (k:=k) (w:=w) (G:=G) (λx s' hx=>⟨hx.1.fr,hx.1.qt hq⟩) (λe=>(Mg w (hn e.1)).2.2.2 e.2) ?_;refine h.join hT hs (λe=>by obtain⟨e1,e2,e3,_⟩:=Mg w (hn e.1);rcases e.2 with h|h|h;exact e1 h;exact e2 h;exact e3 h) hq hd (aL _) λj _ hj=>?_;unfold lev;by_cases h4:k=4
 ·rw[aF h4];exact IJ w (hn h4) j hj
 ·rw[aD h4]
end
structure Pc(N:Nat)(A:Str)(T:List KT)(ok:Str->Prop):Prop where
 utf:Utf A
 sg:∀r,ok r->Sg N A T r
 in_:In A
 br:Br A
def pQ:Str->Prop:=λ_=>True
def Uj(r:Str):Prop:=∃x,r=32::x
theorem Pc.app{N:Nat}{A B:Str}{T U:List KT}{ok ok':Str->Prop}(h1:Pc N A T ok)(h2:Pc N B U ok')(h:∀r,ok' r->ok (B++r)):Pc N (A++B) (T++U) ok':=
 ⟨h1.utf.app h2.utf,λr hr=>(h1.sg _ (h r hr)).app (h2.sg r hr),h1.in_.app h2.in_,h1.br.app h2.br⟩
theorem Pc.weak{N:Nat}{A:Str}{T:List KT}{ok ok':Str->Prop}(h:Pc N A T ok)(hk:∀r,ok' r->ok r):Pc N A T ok':=⟨h.utf,λr hr=>h.sg r (hk r hr),h.in_,h.br⟩
theorem kA{N:Nat}(h:c∈Bn)(hn:c≠123/\c≠125):Pc N [c] [(4,[c])] pQ:=by
 have hs:∀c∈Bn,c.toNat<128/\c≠10/\c≠34:=by decide
 obtain⟨h1,h2,h3⟩:=hs c h;exact⟨gM λd hd=>by rw[aU.1 hd];exact h1,λr _=>yG h r,LU ⟨hn.2,h2,hn.1,h3⟩,Pg ⟨hn.2,hn.1,h3⟩⟩
theorem pO{N:Nat}:Pc N [32] [] pQ:=⟨gM (by decide),λr _=>nP N r,LU (by decide),Pg (by decide)⟩
theorem QJ{N:Nat}{w:Str}(h:w∈[61]::mW):Pc N w [(4,w)] Uj:=by
 have hs:∀w∈[61]::mW,w≠[]/\∀c∈w,c.toNat<128/\c≠125/\c≠10/\c≠123/\c≠34:=by decide
 obtain⟨h0,h1⟩:=hs w h;exact⟨gM λd hd=>(h1 d hd).1,λr ⟨x,e⟩=>by rw[e];exact QG h x,LW (λc hc=>(h1 c hc).2) h0,Mp λc hc=>⟨(h1 c hc).2.1,(h1 c hc).2.2.2.1,(h1 c hc).2.2.2.2⟩⟩
theorem yS(h:dM c=true):c.toNat<128/\c≠125/\c≠10/\c≠123/\c≠34:=by
 refine⟨yU h,?_,?_,?_,?_⟩<;>(rintro rfl;exact absurd h (by decide))
theorem FF{N:Nat}{t:Str}{k:Int}(ht:t≠[])(h:∀d∈t,dM d=true)(hs:∀r,NF r->Sg N t [(k,t)] r):Pc N t [(k,t)] NF:=
 ⟨gM λd hd=>(yS (h d hd)).1,hs,LW (λc hc=>(yS (h c hc)).2) ht,Mp λc hc=>by have:=yS (h c hc);exact⟨this.2.1,this.2.2.2.1,this.2.2.2.2⟩⟩
theorem rP{N:Nat}{t:Str}(h:nI t):Pc N t [(1,t)] NF:=FF (by obtain⟨c,r,rfl,_⟩:=h.hd;simp) h.al λ_ hr=>DO h hr
theorem SG{N:Nat}{t:Str}(h:MI t):Pc N t [(2,t)] NF:=FF (by obtain⟨c,r,rfl⟩:=h.hd;simp) (λd hd=>by have:=h.al d hd;unfold dM;rw[this];simp) λ_ hr=>MZ h hr
theorem Ei{N:Nat}{A:Str}(h1:Tx A)(h2:Qu A)(h3:Utf A):Pc N ([34]++A++[34]) [(3,A)] pQ:=
 ⟨((gM (s:=[34]) (by decide)).app h3).app (gM (by decide)),λr _=>Ia h1 r,OR h1,Pf h2⟩
theorem Lj{N:Nat}{A:Str}{T:List KT}{ok:Str->Prop}(h:A=[]/\T=[]\/Pc N A T ok)(hk:∀r,ok (125::r)):Pc N ([123]++A++[125]) ([(4,[123])]++T++[(4,[125])]) pQ:=by
 have hu:Utf A:=by rcases h with⟨rfl,_⟩|h;exact .nil;exact h.utf
 have hi:A=[]\/In A:=by rcases h with⟨rfl,_⟩|h;exact .inl rfl;exact .inr h.in_
 have hb:Br A:=by rcases h with⟨rfl,_⟩|h;exact Br.nil;exact h.br
 refine⟨((gM (s:=[123]) (by decide)).app hu).app (gM (by decide)),λr _=>?_,LV hi,Mo hb⟩;refine Sg.app (Sg.app (yG (by decide) _) ?_) (yG (by decide) _);rcases h with⟨rfl,rfl⟩|h
 ·exact Sg.nil _ _
 ·exact h.sg _ (hk r)
def jn:List Str->Str
 |[]=>[]
 |[a]=>a
 |a::b::l=>a++[44,32]++jn (b::l)
theorem Dh:∀l:List Str,joinL l [44,32]=jn l
 |[]=>rfl
 |[a]=>by simp[joinL,jn,List.intercalate]
 |a::b::l=>by
  have ih:=Dh (b::l)
  unfold joinL List.intercalate at ih⊢
  rw[List.intersperse_cons₂,eV,eV,ih,jn,bB]
def jt:List (List KT)->List KT
 |[]=>[]
 |[a]=>a
 |a::b::l=>a++[(4,[44])]++jt (b::l)
theorem tU:∀(a:List KT) (l:List (List KT)),jt (a::l)=a++l.flatMap λb=>(4,[44])::b
 |a,[]=>by simp[jt]
 |a,b::l=>by rw[jt,tU b l];simp
theorem Li{N:Nat}:∀l:List (Str×List KT),l≠[]->(∀p∈l,Pc N p.1 p.2 zQ)->Pc N (jn (l.map (·.1))) (jt (l.map (·.2))) zQ
 |[],h,_=>absurd rfl h
 |[p],_,h=>h p (by simp)
 |p::q::l,_,h=>by
  have ih:=Li (q::l) (by simp) λx hx=>h x (aK _ hx)
  have h1:=h p (by simp)
  show Pc N (p.1++[44,32]++jn ((q::l).map (·.1))) (p.2++[(4,[44])]++jt ((q::l).map (·.2))) zQ
  refine Pc.app (Pc.app h1 (U:=[(4,[44])]) (ok':=pQ) ?_ λr _=>Cc (by decide) _) ih λ_ _=>trivial
  exact Pc.app (A:=[44]) (B:=[32]) (T:=[(4,[44])]) (U:=[]) (kA (by decide) (by decide)) pO λ_ _=>trivial
theorem Aa{N:Nat}{A:Str}{T:List KT}{ok:Str->Prop}(h:Pc N A T ok)(hk:∀r,ok (41::r)):Pc N ([40]++A++[41]) ([(4,[40])]++T++[(4,[41])]) pQ:=
 Pc.app (Pc.app (kA (by decide) (by decide)) h λ_ _=>trivial) (kA (by decide) (by decide)) λr _=>hk r
theorem Hi{N:Nat}{A:Str}{T:List KT}{ok:Str->Prop}(h:Pc N A T ok)(hk:∀r,ok (93::r)):Pc N ([91]++A++[93]) ([(4,[91])]++T++[(4,[93])]) pQ:=
 Pc.app (Pc.app (kA (by decide) (by decide)) h λ_ _=>trivial) (kA (by decide) (by decide)) λr _=>hk r
theorem Dp(r:Str):zQ (41::r):=Cc (by decide) r
theorem QO(r:Str):zQ (93::r):=Cc (by decide) r
theorem UK(r:Str):zQ (32::r):=Cc (by decide) r
theorem Tg(r:Str):zQ (125::r):=Cc (by decide) r
theorem Ej{N:Nat}{A B w:Str}{T U:List KT}{ok:Str->Prop}(h1:Pc N A T zQ)(hw:Pc N w [(4,w)] Uj)(h2:Pc N B U ok):Pc N (A++[32]++w++[32]++B) (T++[(4,w)]++U) ok:=by
 have hb:Pc N (w++[32]) ([(4,w)]++[]) pQ:=hw.app pO λr _=>⟨r,rfl⟩;have ha:Pc N (A++[32]) (T++[]) pQ:=h1.app pO λr _=>UK _;have:=(ha.app hb λ_ _=>trivial).app h2 λ_ _=>trivial;simpa using this
end
end Go.Proofs.YtjblfcfdeaagpaaGreatDoor
