/- One plain sentence: contracts and plain laws that the claim rests on. Conditions: those that each states. -/
import Derived.Test.YtghhmpppnmoeoaaGreatDoorXSteps3
import Derived.Test.YtghhmpppnmoeoaaGreatDoorXSteps2
import Derived.Test.YtghhmpppnmoeoaaGreatDoorXSteps1
import Derived.Lib.ItoaNum
set_option linter.all false
set_option linter.unusedSimpArgs false
set_option linter.unusedVariables false
set_option linter.unusedSectionVars false
set_option maxRecDepth 100000
namespace Go.Proofs.YtghhmpppnmoeoaaGreatDoor
section
open Go Go.Eng Go.RowKit Go.Syn Go.Lex
variable{w:World}{K:Q0}{cs:List Value}{G:Nat->Prop}{T:TypeId}{i:Nat}{n:Nat}{v:Value}{w':World}{P:Program}{c:UInt8}{S:Nat->Prop}
def Od(w:World)(b:Nat):Nat:=match w.heap[b]? with|some (.cells c _ _)=>(match(c[0]?:Option Value)with|some (Value.string t)=>t.size|_=>0)|_=>0
section
variable [HX]
variable{w0 w w' w1:World}{p f b:Nat}{M M':Lay}{vt:Value}{s:PS}{top:List Nat}{N:Int}{K:Q0}
theorem Loc.strat{rest:Str}(h:Loc w0 w p f M vt b StT [str rest]):Od w b=rest.length:=by
 unfold Od;rw[h.1];simp[eV]
theorem rY{K:Q0}(h1:gH v=true)(h:∀a w',a=w.heap.size->w'.heap.size=w.heap.size+1->w'.heap[a]?=some (.cells [v].toArray T (0,0))->Ext w w'->K (.pointer (some ⟨a,0,none⟩)) w'):eL T v w K:=by
 have hc:v.cells=#[v]:=by cases v<;>first|rfl|(simp[gH]at h1)
 unfold eL;rw[hc];exact h _ _ rfl (by simp) (gD _ _ _ rfl) (Chg.alloc (Chg.refl _ _) _)
theorem Gd.put{N:Int}{s:PS}{dl:Nat}(h:Gd N s dl){e:Ex}(hp:Syn.phi s+1<=100000):Gd N {s with ex:=s.ex++[e]} dl:=⟨⟨h.ws.tg,h.ws.lt,h.ws.pN⟩,h.hN,h.few,h.ts,cH (jY s e) hp,h.lev⟩
theorem HJ{M0:Lay}{wb:World}{l:Str}{a:Int}(h:PR w0 w p f M vt s top)(he:Eff p f M0 M wb w)(hlen:s.ex.length<=1000000)
  (hK:∀M' w',PR w0 w' p f M' vt {s with ex:=s.ex++[⟨5,l,[],[],a⟩]} top->Eff p f M0 M' wb w'->(∀b T cs,Loc w0 w p f M vt b T cs->Loc w0 w' p f M' vt b T cs)->(∀wb T m v n xs,Ro w0 w p f M vt wb T m v n xs->Ro w0 w' p f M' vt wb T m v n xs)->w.heap.size<=w'.heap.size->K (i64 (s.ex.length:Nat)) w'):
  aC P0 117 [.pointer (some ⟨p,0,none⟩),.agg [i64 5,str l,.slice none 0 0,.slice none 0 0,i64 a].toArray] w K:=by
 have hub:ub [i64 5,str l,.slice none 0 0,.slice none 0 0,i64 a]=[]:=rfl;refine JQ (M0:=M) (wb:=w) (e:=⟨5,l,[],[],a⟩) h (Eff.refl _ _ _ _) ⟨.slice none 0 0,.slice none 0 0,rfl,⟨by simp[ints],.inl ⟨rfl,rfl⟩⟩,⟨by simp[strs],.inl ⟨rfl,rfl⟩⟩⟩ (by rw[hub];intro k hk;cases hk) (by rw[hub];exact List.nodup_nil) (by rw[hub];intro k hk;cases hk) hlen λM' w' h' he' hl'=>?_;exact hK M' w' h' (he.trans he') (λb T cs hL=>hl' b T cs hL (by rw[hub];exact eY)) (λwb T m v n xs hR=>hR.eff he') he'.chg.size
theorem Xn{E:PS->R Nat}{dl:Nat}{t:Tok}(hS:xA w0 f)(hE:∀d,dl=d+1->EC w0 f 82 E d)(hF:pZ E)(h:PR w0 w p f M vt s top)(hg:Gd N s dl)(hx:En t.t)(hl:t.t.length<=100000)
  (ha:0<=t.a/\t.a<=N)(hte:Hf N t.a t.t)(hphi:Syn.phi s+wt {t with k:=3}<=100000)
  (hK:∀x s',BD E s t=.ok x s'->∀M' w',PR w0 w' p f M' vt s' top->Eff p f M M' w w'->K (i64 (x:Nat)) w')(ht:∀c a',BD E s t=.err c a'->Thr w0 f c a'):
  aC P0 258 [.pointer (some ⟨p,0,none⟩),.agg (eS t).toArray] w K:=by
 refine UR ?_;unfold aBM;have hN:=hg.hN;refine rY rfl λb2 w1 hb2 hz1 hbb1 hx1=>?_;have h1:=h.ext hx1;have L1:=h.loc hz1 hb2 hbb1;refine fS (z:=eS t) λb3 w2 hb3 hz2 hbb2 hx2=>?_;have h2:=h1.ext hx2;have L12:=L1.ext hx2;have L2:=h1.loc hz2 hb3 hbb2;have he2:Eff p f M M w w2:=(Eff.ext hx1).x hx2;refine L2.ldf rfl ?_;refine wO (by omega) ?_;rw[bJ];unfold BD at hK ht;cases hi:Syn.insP t.t with
 |none=>
  have ei:GM t.t=[i64 (-1),i64 0]:=by unfold GM;rw[hi]
  rw[ei];refine⟨i64 (-1),rfl,?_⟩;rw[bJ];refine⟨i64 0,rfl,?_⟩;rw[dW,aM];refine⟨λ_=>?_,λe=>by omega⟩;rw[hi]at hK ht;simp only[Option.isSome_none,iX,nG]at hK ht;refine L12.drew.ld rfl ?_;refine L2.drew.ldf rfl ?_;rw[bP,bY,aX];refine L2.drew.ld rfl ?_;refine JJ ((JA hx).1 hi) (by omega) λw3 hx3=>?_;have L3:=L2.drew.ext hx3;have L13:=L12.drew.ext hx3;refine⟨L3.ld rfl rfl,L13.ld rfl rfl,?_⟩;simp only[dA,dZ,cU,aA,aL,aW,aZ,Nat.reduceAdd,Nat.reduceLT,dH,aB];have h3:=h2.drew.ext hx3;refine HJ h3 ((he2.x (cY w2)).x hx3) (by have:=hg.ex;omega) λM' w4 h4 he4 _ _ _=>?_;exact hK _ _ rfl M' w4 h4 he4
 |some ie=>
  have ei:GM t.t=[i64 (ie.1:Nat),i64 (ie.2:Nat)]:=by unfold GM;rw[hi]
  rw[ei];refine⟨i64 (ie.1:Nat),rfl,?_⟩;rw[bJ];refine⟨i64 (ie.2:Nat),rfl,?_⟩;rw[dW,aM];refine⟨λe=>by omega,λ_=>?_⟩;rw[hi]at hK ht;simp only[Option.isSome_some,gU]at hK ht;have hte:t.a+t.t.length+2<=N:=hte.resolve_left λe=>by rw[e]at hi;cases hi
  have hwt:wt {t with k:=3}=t.t.length+2:=by unfold wt;rw[aD (by simp),aH ⟨rfl,by rw[hi];rfl⟩]
  rw[hwt]at hphi;refine L2.ldf rfl ?_;simp only[dA,dZ,cU,aA,aL,aW,aZ,Nat.reduceAdd,Nat.reduceLT,dH,aB];refine bG λb7 w3 hb7 hz3 hbb3 hx3=>?_;have h3:=h2.ext hx3;have L3:=h2.loc hz3 hb7 hbb3;refine cG (l:=[i64 6,str [],.slice none 0 0,.slice none 0 0,i64 t.a]) hbb3 rfl rfl rfl λw4 hz4 hbb4 hc4=>?_;have L4:Loc w0 w4 p f M vt b7 ExT [i64 6,str [],.slice none 0 0,.slice none 0 0,i64 t.a]:=⟨hbb4,L3.2.up (by omega)⟩;have h4:=h3.one hc4 L3.2;have L14:=(L12.ext hx3).one hc4 (by omega);have L24:=(L2.ext hx3).one hc4 (by omega);have he4:Eff p f M M w w4:=(he2.x hx3).one hc4 (by omega);refine bU.cut (λst w'=>∃b8 b9 B1,st=[.pointer (some ⟨b8,0,none⟩),.pointer (some ⟨b9,0,none⟩)]/\TL w0 w' p f M vt B1 b2 b7 b8 b9 t.a t.t (t.a+1) (.slice none 0 0) (.slice none 0 0) [] []/\PR w0 w' p f M vt s top/\Eff p f M M w w'/\w.heap.size<=B1/\w.heap.size<=b8/\w.heap.size<=b9) ?_ ?_
  ·have L4d:=L4.drew;have L14d:=L14.drew;have L24d:=L24.drew;have h4d:=h4.drew;have he4d:=he4.x (cY w4);have ld1:∀{w':World},Loc w0 w' p f M vt b3 TkT (eS t)->ldW false 1 (.pointer (some ⟨b3,1,none⟩)) w' λx=>x=str t.t:=λL=>L.ld rfl rfl;have ld2:∀{w':World},Loc w0 w' p f M vt b3 TkT (eS t)->ldW false 1 (.pointer (some ⟨b3,2,none⟩)) w' λx=>x=i64 t.a:=λL=>L.ld rfl rfl;rw[bP,bY,aX];refine L24d.ld rfl ?_;rw[bP,bY,aX];refine L24d.ld rfl ?_;rw[cA,cK (by omega) (by omega)];have zd:w4.drew.heap.size=w4.heap.size:=rfl;have fin:∀{w5:World} {b8 b9:Nat},PR w0 w5 p f M vt s top->Eff p f M M w w5->Loc w0 w5 p f M vt b2 PpT [.pointer (some ⟨p,0,none⟩)]->Loc w0 w5 p f M vt b7 ExT [i64 6,str [],.slice none 0 0,.slice none 0 0,i64 t.a]->Loc w0 w5 p f M vt b8 StT [str t.t]->Loc w0 w5 p f M vt b9 iG [i64 (t.a+1)]->w4.heap.size<=b8->w4.heap.size<=b9->b8≠b9->
     ∃b8' b9' B1,[Value.pointer (some ⟨b8,0,none⟩),.pointer (some ⟨b9,0,none⟩)]=[.pointer (some ⟨b8',0,none⟩),.pointer (some ⟨b9',0,none⟩)]/\TL w0 w5 p f M vt B1 b2 b7 b8' b9' t.a t.t (t.a+1) (.slice none 0 0) (.slice none 0 0) [] []/\PR w0 w5 p f M vt s top/\Eff p f M M w w5/\w.heap.size<=B1/\w.heap.size<=b8'/\w.heap.size<=b9':=λ{w5 b8 b9} hp he l2 l7 l8 l9 g8 g9 gn=>
    ⟨b8,b9,w5.heap.size,rfl,⟨l2,l7,l8,l9,Ro.nil _ _,Ro.nil _ _,λk hk=>by simp[Value.ownBlock]at hk,⟨l2.lt,l7.lt,l8.lt,l9.lt,aU _⟩,⟨by omega,by omega,by omega,by omega,by omega,gn⟩⟩,hp,he,he.chg.size,by omega,by omega⟩
   refine⟨?_,?_⟩
   ·refine bG λb8 w5 hb8 hz5 hbb5 hx5=>?_;have L8:=h4d.loc hz5 hb8 hbb5;have h5:=h4d.ext hx5;have T5:=L24d.ext hx5;refine⟨ld2 T5,ld1 T5,?_⟩;refine bG λb9 w6 hb9 hz6 hbb6 hx6=>?_;have L9:=h5.loc hz6 hb9 hbb6;have h6:=h5.ext hx6;have T6:=T5.ext hx6;refine⟨ld2 T6,ld1 T6,?_⟩;refine(L8.ext hx6).st rfl (by simp) λw7 L87 hc7 hz7=>?_;have h7:=h6.one hc7 (L8.ext hx6).2;have T7:=T6.one hc7 (by omega);refine⟨ld2 T7,?_⟩;refine(L9.one hc7 (by omega)).st rfl (by simp) λw8 L98 hc8 hz8=>?_;have h8:=h7.one hc8 (L9.one hc7 (by omega)).2;exact fin h8 ((((he4d.x hx5).x hx6).one hc7 (by omega)).one hc8 (by omega)) ((((L14d.ext hx5).ext hx6).one hc7 (by omega)).one hc8 (by omega)) ((((L4d.ext hx5).ext hx6).one hc7 (by omega)).one hc8 (by omega)) (L87.one hc8 (by omega)) L98 (by omega) (by omega) (by omega)
   ·refine bG λb9 w5 hb9 hz5 hbb5 hx5=>?_;have L9:=h4d.loc hz5 hb9 hbb5;have h5:=h4d.ext hx5;have T5:=L24d.ext hx5;refine⟨ld2 T5,ld1 T5,?_⟩;refine bG λb8 w6 hb8 hz6 hbb6 hx6=>?_;have L8:=h5.loc hz6 hb8 hbb6;have h6:=h5.ext hx6;have T6:=T5.ext hx6;refine⟨ld2 T6,ld1 T6,?_⟩;refine L8.st rfl (by simp) λw7 L87 hc7 hz7=>?_;have h7:=h6.one hc7 L8.2;have T7:=T6.one hc7 (by omega);refine⟨ld2 T7,?_⟩;refine((L9.ext hx6).one hc7 (by omega)).st rfl (by simp) λw8 L98 hc8 hz8=>?_;have h8:=h7.one hc8 ((L9.ext hx6).one hc7 (by omega)).2;exact fin h8 ((((he4d.x hx5).x hx6).one hc7 (by omega)).one hc8 (by omega)) ((((L14d.ext hx5).ext hx6).one hc7 (by omega)).one hc8 (by omega)) ((((L4d.ext hx5).ext hx6).one hc7 (by omega)).one hc8 (by omega)) (L87.one hc8 (by omega)) L98 (by omega) (by omega) (by omega)
  rintro st g w5 ⟨b8,b9,B1,rfl,T5,h5,he5,hB1,hB8,hB9⟩;simp only[aF,cW];clear L1 L12 L2 L3 L4 L14 L24;have hz5:=he5.chg.size;generalize hR:mL E (t.t.length+1) s t.t (t.a+1) [] []=R0 at hK ht;refine cZ.go (λst w'=>st=[]/\∃s1 M1 rest a va vk av ks n,PR w0 w' p f M1 vt s1 top/\Gd N s1 dl/\Eff p f M M1 w w'/\TL w0 w' p f M1 vt B1 b2 b7 b8 b9 t.a rest a va vk av ks/\mL E n s1 rest a av ks=R0/\rest.length<n/\En rest/\0<=a/\a+rest.length+1<=N/\Syn.phi s1+rest.length+1<=100000/\av.length+2*rest.length<=2*t.t.length/\ks.length=av.length)
   (λ_ w'=>Od w' b8) ⟨rfl,s,M,t.t,t.a+1,_,_,[],[],t.t.length+1,h5,hg,he5,T5,hR,by omega,hx,by omega,by omega,by omega,by simp,rfl⟩ ?_
  rintro st g2 w6 ⟨rfl,s1,M1,rest,a,va,vk,av,ks,n,h6,hg1,he6,T6,hpf,hn,hxr,ha0,haN,hph,hav,hks⟩;have hw6:=he6.chg.size;refine T6.l8.ld rfl ?_;rw[tH,aM];refine⟨λhne=>?_,λhne=>?_⟩
  ·obtain⟨n,rfl⟩:∃m,n=m+1:=⟨n-1,by omega⟩;rw[HR hne hn]at hpf;obtain⟨i1,i2,i3,i4,i5,i6,i7⟩:=TY hxr;have i6:=i6 hne;refine T6.l8.ld rfl ?_;refine wO (by omega) ?_;have hlen:rest.length<=100000:=by omega
   have two:∃u v:Int,GM rest=[i64 u,i64 v]/\((Syn.insP rest=none/\u=-1)\/(Syn.insP rest≠none/\u=((kJ rest).1:Nat)/\v=((kJ rest).2:Nat))):=by
    unfold kJ GM;cases hr:Syn.insP rest with
    |none=>exact⟨-1,0,rfl,.inl ⟨rfl,rfl⟩⟩
    |some x=>exact⟨_,_,rfl,.inr ⟨by simp,rfl,rfl⟩⟩
   obtain⟨u,v,euv,huv⟩:=two;rw[euv,bJ];refine⟨i64 u,rfl,?_⟩;rw[bJ];refine⟨i64 v,rfl,?_⟩;refine bG λb10 w7 hb10 hz7 hbb7 hx7=>?_;have h7:=h6.ext hx7;have T7:=T6.ext hx7;have l10:=h6.loc hz7 hb10 hbb7;refine bG λb11 w8 hb11 hz8 hbb8 hx8=>?_;have h8:=h7.ext hx8;have T8:=T7.ext hx8;have l11:=h7.loc hz8 hb11 hbb8;have hB6:=T6.lt.2.2.2.2;have nA10:∀k,va.ownBlock=some k->k<w6.heap.size:=λk hk=>(T6.rA.off k hk).1.2;have nK10:∀k,vk.ownBlock=some k->k<w6.heap.size:=λk hk=>(T6.rK.off k hk).1.2;have no10:va.ownBlock≠some b10/\vk.ownBlock≠some b10:=⟨λe=>by have:=nA10 _ e;omega,λe=>by have:=nK10 _ e;omega⟩;have no11:va.ownBlock≠some b11/\vk.ownBlock≠some b11:=⟨λe=>by have:=nA10 _ e;omega,λe=>by have:=nK10 _ e;omega⟩;refine(l10.ext hx8).st rfl (by simp) λw9 l10 hc9 hz9=>?_;have h9:=h8.one hc9 l10.2;have T9:=T8.one hc9 (by omega) no10.1 no10.2;refine(l11.one hc9 (by omega)).st rfl (by simp) λw10 l11 hc10 hz10=>?_;have l10:=l10.one hc10 (by omega);have h10:=h9.one hc10 l11.2;have T10:=T9.one hc10 (by omega) no11.1 no11.2;have he10:Eff p f M M1 w w10:=(((he6.x hx7).x hx8).one hc9 (by omega)).one hc10 (by omega);simp only[aW]at l10 l11;refine bU.cut (λ_ w'=>Loc w0 w' p f M1 vt b10 iG [i64 ((kJ rest).1:Nat)]/\Loc w0 w' p f M1 vt b11 iG [i64 ((kJ rest).2:Nat)]/\PR w0 w' p f M1 vt s1 top/\TL w0 w' p f M1 vt B1 b2 b7 b8 b9 t.a rest a va vk av ks/\Eff p f M M1 w w'/\w10.heap.size<=w'.heap.size) ?_ ?_
   ·refine l10.ld rfl ?_;rw[dW,aM];refine⟨λhlt=>?_,λhge=>?_⟩
    ·have hnone:Syn.insP rest=none:=by
      rcases huv with h|h
      ·exact h.1
      ·omega
     have eI:kJ rest=(rest.length,rest.length):=by unfold kJ;rw[hnone]
     have T11:=T10.ext (cY w10);refine T11.l8.ld rfl ?_;rw[fH];refine T11.l8.ld rfl ?_;rw[fH];refine l10.drew.st rfl (by simp) λw12 l10 hc12 hz12=>?_;have h12:=h10.drew.one hc12 l10.2;have T12:=T11.one hc12 (by omega) no10.1 no10.2;refine⟨T12.l8.ld rfl rfl,?_⟩;have zd:w10.drew.heap.size=w10.heap.size:=rfl;refine(l11.drew.one hc12 (by omega)).st rfl (by simp) λw13 l11 hc13 hz13=>?_;have h13:=h12.one hc13 l11.2;have T13:=T12.one hc13 (by omega) no11.1 no11.2;have l10:=l10.one hc13 (by omega);simp only[aW]at l10 l11;rw[eI];exact⟨l10,l11,h13,T13,((he10.x (cY _)).one hc12 (by omega)).one hc13 (by omega),by omega⟩
    ·rcases huv with h|⟨_,e1,e2⟩
     ·omega
     ·rw[e1]at l10;rw[e2]at l11;exact⟨l10,l11,h10,T10,he10,aU _⟩
   rintro _ g3 w14 ⟨l10,l11,h14,T14,he14,hz14⟩;clear hc9 hc10 h7 h8 h9 h10 T7 T8 T9 T10 he10;generalize hI:(kJ rest).1=I at*
   generalize hE':(kJ rest).2=E' at*
   have hw14:=he14.chg.size;refine bU.cut (λ_ w'=>∃M2 va2 vk2,PR w0 w' p f M2 vt (uU s1 rest a) top/\Eff p f M M2 w w'/\TL w0 w' p f M2 vt B1 b2 b7 b8 b9 t.a rest a va2 vk2 (if 0<I then av++[s1.ex.length]else av) (if 0<I then ks++[[116]]else ks)/\Loc w0 w' p f M2 vt b10 iG [i64 (I:Nat)]/\Loc w0 w' p f M2 vt b11 iG [i64 (E':Nat)]/\(va2.ownBlock≠some b10/\vk2.ownBlock≠some b10)/\(va2.ownBlock≠some b11/\vk2.ownBlock≠some b11)) ?_ ?_
   ·refine l10.ld rfl ?_;rw[kS,aM];unfold uU;rw[hI];refine⟨λhpos=>?_,λhpos=>?_⟩
    ·have hpos:0<I:=by omega
     simp only[aH hpos];have T15:=T14.ext (cY w14);have h15:=h14.drew;have l10:=l10.drew;have l11:=l11.drew;rw[bP,bY,aX];refine T15.l7.ld rfl ?_;refine T15.l2.ld rfl ?_;refine T15.l8.ld rfl ?_;refine l10.ld rfl ?_;rw[fG,eM];refine⟨by omega,by omega,?_⟩;rw[fT,cV,aV];refine T15.l9.ld rfl ?_;refine JJ i3 (by rw[cI];omega) λw16 hx16=>?_;have T16:=T15.ext hx16;have h16:=h15.ext hx16;have l10:=l10.ext hx16;have l11:=l11.ext hx16;refine⟨T16.l9.ld rfl rfl,T16.l2.ld rfl rfl,T16.l7.ld rfl rfl,?_⟩;simp only[dA,dZ,cU,aA,aL,aW,aZ,Nat.reduceAdd,Nat.reduceLT,dH,aB];have he16:=(he14.x (cY w14)).x hx16;refine HJ h16 he16 (by have:=hg1.ex;omega) λM2 w17 h17 he17 hl17 hr17 hz17=>?_;have T17:TL w0 w17 p f M2 vt B1 b2 b7 b8 b9 t.a rest a va vk av ks:=⟨hl17 _ _ _ T16.l2,hl17 _ _ _ T16.l7,hl17 _ _ _ T16.l8,hl17 _ _ _ T16.l9,hr17 _ _ _ _ _ _ T16.rA,hr17 _ _ _ _ _ _ T16.rK,T16.dd,⟨T16.lt.1,T16.lt.2.1,T16.lt.2.2.1,T16.lt.2.2.2.1,cH T16.lt.2.2.2.2 hz17⟩,T16.ne⟩;have l10:=hl17 _ _ _ l10;have l11:=hl17 _ _ _ l11;refine⟨T17.l7.ld rfl rfl,?_⟩;refine jJ λr w18 hr hz18 hrb hx18=>?_;have T18:=T17.ext hx18;refine⟨T18.l7.ld rfl rfl,?_⟩;refine T18.appA (h17.ext hx18) hrb (by omega) λva2 w19 T19 h19 hc19 hv19=>?_;have n7:=T18.lt.2.1;have l10':Loc w0 w19 p f M2 vt b10 iG [i64 (I:Nat)]:=⟨hc19.at (l10.ext hx18).1 λe=>e.elim no10.1 (by omega),(l10.ext hx18).2.up hc19.size⟩;have l11':Loc w0 w19 p f M2 vt b11 iG [i64 (E':Nat)]:=⟨hc19.at (l11.ext hx18).1 λe=>e.elim no11.1 (by omega),(l11.ext hx18).2.up hc19.size⟩;have a10:va2.ownBlock≠some b10:=λe=>(hv19 _ e).elim no10.1 λe=>by have:=(l10.ext hx18).lt;omega
     have a11:va2.ownBlock≠some b11:=λe=>(hv19 _ e).elim no11.1 λe=>by have:=(l11.ext hx18).lt;omega
     have hw16:=he16.chg.size;have he19:Eff p f M M2 w w19:=(he17.x hx18).then hc19 λk hk e=>by
      rcases e with e|e
      ·have:=T6.rA.new k e;omega
      ·omega
     rw[bP,bY,aX];refine T19.l7.ld rfl ?_;refine vK λr2 w20 hr2 hz20 hrb2 hx20=>?_;have T20:=T19.ext hx20;refine T20.appK (h19.ext hx20) hrb2 (by omega) λvk2 w21 T21 h21 hc21 hv21=>?_;have hw19:=he19.chg.size;refine⟨M2,va2,vk2,h21,(he19.x hx20).then hc21 λk hk e=>?_,T21,⟨hc21.at (l10'.ext hx20).1 λe=>e.elim no10.2 (by omega),(l10'.ext hx20).2.up hc21.size⟩,⟨hc21.at (l11'.ext hx20).1 λe=>e.elim no11.2 (by omega),(l11'.ext hx20).2.up hc21.size⟩,
      ⟨a10,λe=>(hv21 _ e).elim no10.2 λe=>by have:=(l10'.ext hx20).lt;omega⟩,⟨a11,λe=>(hv21 _ e).elim no11.2 λe=>by have:=(l11'.ext hx20).lt;omega⟩⟩
     rcases e with e|e
     ·have:=T6.rK.new k e;omega
     ·omega
    ·simp only[aD (show¬0<I by omega)];exact⟨M1,va,vk,h14,he14,T14,l10,l11,no10,no11⟩
   rintro _ g4 w15 ⟨M2,va2,vk2,h15,he15,T15,l10,l11,no10,no11⟩;have hg2:Gd N (uU s1 rest a) dl/\Syn.phi (uU s1 rest a)<=Syn.phi s1+I:=by
    unfold uU;rw[hI];split
    ·have hp:=jY s1 ⟨5,jS (rest.take I),[],[],a⟩;have hp:Syn.phi {s1 with ex:=s1.ex++[⟨5,jS (rest.take I),[],[],a⟩]}<=Syn.phi s1+1:=hp;exact⟨hg1.put (by omega),by omega⟩
    ·exact⟨hg1,by omega⟩
   obtain⟨hg2,hp2⟩:=hg2;have hav2:(if 0<I then av++[s1.ex.length]else av).length<=av.length+(if 0<I then 1 else 0):=by split<;>simp
   have hks2:(if 0<I then ks++[[116]]else ks).length=(if 0<I then av++[s1.ex.length]else av).length:=by split<;>simp[hks]
   generalize (if 0<I then av++[s1.ex.length]else av)=av2 at*
   generalize (if 0<I then ks++[[116]]else ks)=ks2 at*
   generalize uU s1 rest a=s2 at*
   have hw15:=he15.chg.size;refine bU.cut (λ_ w'=>∃s3 M3 va3 vk3 av3 ks3,PR w0 w' p f M3 vt s3 top/\Gd N s3 dl/\Eff p f M M3 w w'/\TL w0 w' p f M3 vt B1 b2 b7 b8 b9 t.a rest a va3 vk3 av3 ks3/\Loc w0 w' p f M3 vt b11 iG [i64 (E':Nat)]/\mL E n s3 (rest.drop E') (a+E') av3 ks3=R0/\Syn.phi s3+(rest.length-E')+1<=100000/\av3.length+2*(rest.length-E')<=2*t.t.length/\ks3.length=av3.length) ?_ ?_
   ·refine l10.ld rfl ?_;refine l11.ld rfl ?_;rw[dW,aM];refine⟨λhlt=>?_,λhge=>?_⟩
    ·have hlt:I<E':=by omega
     have i5:=i5 hlt;rw[aH hlt]at hpf;refine T15.l2.ld rfl ?_;refine T15.l9.ld rfl ?_;refine l10.ld rfl ?_;rw[cA,cK (by omega) (by omega)];have hlev:=hg2.lev;have hsat:=λ(d:Nat) (hd:dl=d+1)=>Fu (hF.ok N) (s:={s2 with deep:=s2.deep+1,quiet:=false}) (vW hg2.ws _ _) (t:=(rest.drop (I+2)).take (E'-1-(I+2))) (a:=a+I+2) (by omega) (by rw[cI,aP];omega);refine nZ h15 (by omega) (λhd=>ht 7 (a+I) ?_) λhd w16 h16 he16=>?_
     ·rw[<-hpf];unfold within;rw[aH hd];rfl
     obtain⟨d,rfl⟩:∃d,dl=d+1:=⟨dl-1,by omega⟩;have hgi:=hg2.frame false;have hwin:within s2 (a+I) false (λq=>oJ E q ((rest.drop (I+2)).take (E'-1-(I+2))) (a+I+2))=(oJ E {s2 with deep:=s2.deep+1,quiet:=false} ((rest.drop (I+2)).take (E'-1-(I+2))) (a+I+2)).bind λx s'=>.ok x {s' with deep:=s2.deep,quiet:=s2.quiet}:=by
      unfold within;rw[aD hd]
     rw[hwin]at hpf;refine jI (caps:=[.pointer (some ⟨b7,0,none⟩),.pointer (some ⟨b2,0,none⟩),.pointer (some ⟨b8,0,none⟩),.pointer (some ⟨b10,0,none⟩),.pointer (some ⟨b11,0,none⟩),.pointer (some ⟨b9,0,none⟩)]) ?_;have n7:=T15.lt.2.1;have hphi':Syn.phi {s2 with deep:=s2.deep+1,quiet:=false}=Syn.phi s2:=rfl;refine Xj (he15.trans he16) (by omega) hB1 hS (hE d rfl) hF h16 hgi (T15.eff he16) (l10.eff he16) (l11.eff he16) ⟨no10.1,no10.2,by omega⟩ ⟨no11.1,no11.2,by omega⟩ i5 i2 ha0 haN (by show Syn.phi s2+_<=_;omega) (by split at hav2<;>omega) (λx s' hx' M3 va3 w17 h17 he17 T17 k10 k11 hno=>?_) λc a' hx'=>ht c a' ?_
     ·rw[hx']at hpf;simp only[R.bind]at hpf;have hs1:=hsat d rfl;have hs2:=Fe hF.z {s2 with deep:=s2.deep+1,quiet:=false} ((rest.drop (I+2)).take (E'-1-(I+2))) (a+I+2);rw[hx']at hs1 hs2;have hs2:Syn.phi s'<=Syn.phi s2+((rest.drop (I+2)).take (E'-1-(I+2))).length:=hs2;rw[cI,aP]at hs2;have hgs':Gd N s' d:=⟨hs1.1.ws hgi.ws,hN,by rw[hs1.1.toks];exact hgi.few,by rw[hs1.1.toks];exact hgi.ts,by omega,by rw[hs1.1.deep];exact hgi.lev⟩;refine⟨M3,s',h17,hs1.1.deep,λw18 h18 he18=>?_⟩;have T18:=T17.eff he18;rw[bP,bY,aX];refine T18.l7.ld rfl ?_;refine vK λr2 w20 hr2 hz20 hrb2 hx20=>?_;have T20:=T18.ext hx20;have k11:=(k11.eff he18).ext hx20;refine T20.appK (h18.ext hx20) hrb2 (by split at hav2<;>omega) λvk3 w21 T21 h21 hc21 hv21=>?_;refine⟨_,M3,va3,vk3,av2++[x],ks2++[[101]],h21,hg2.back hgs',((he17.trans he18).x hx20).then hc21 λk hk e=>?_,T21,⟨hc21.at k11.1 λe=>e.elim no11.2 (by omega),k11.2.up hc21.size⟩,hpf,?_,?_,by simp[hks2]⟩
      ·rcases e with e|e
       ·have:=T17.rK.new k e;omega
       ·omega
      ·show Syn.phi s'+_+1<=_;omega
      ·simp only[bE,aA,aL];split at hav2<;>omega
     ·rw[hx']at hpf;rw[<-hpf];rfl
    ·have hge:¬I<E':=by omega
     rw[aD hge]at hpf;refine⟨s2,M2,va2,vk2,av2,ks2,h15,hg2,he15,T15,l11,hpf,by omega,?_,hks2⟩;split at hav2<;>omega
   rintro _ g5 w22 ⟨s3,M3,va3,vk3,av3,ks3,h22,hg3,he22,T22,l11,hpf3,hp3,hav3,hks3⟩;have T23:=T22.ext (cY w22);have l11:=l11.drew;have h23:=h22.drew;have hw22:=he22.chg.size;refine T23.l8.ld rfl ?_;refine l11.ld rfl ?_;rw[fG,fT,eM];refine⟨by omega,by omega,?_⟩;rw[bM,aV];refine T23.l9.ld rfl ?_;refine l11.ld rfl ?_;rw[cA,cK (by omega) (by omega)];obtain⟨q1,q2,q3,q4,q5⟩:=T23.lt;obtain⟨m1,m2,m3,m4,m5,m6⟩:=T23.ne;refine T23.l8.st rfl (by simp) λw24 l8 hc24 hz24=>?_;have h24:=h23.one hc24 l8.2;have l9:=T23.l9.one hc24 (tS m6);have l11:=l11.one hc24 (by omega);refine⟨l11.ld rfl rfl,l9.ld rfl rfl,?_⟩;refine l9.st rfl (by simp) λw25 l9 hc25 hz25=>?_;have h25:=h24.one hc25 l9.2;have l8:=l8.one hc25 m6;simp only[aW]at l8 l9;have T25:TL w0 w25 p f M3 vt B1 b2 b7 b8 b9 t.a (rest.drop E') (a+E') va3 vk3 av3 ks3:=
    ⟨(T23.l2.one hc24 m2).one hc25 m3,(T23.l7.one hc24 m4).one hc25 m5,l8,l9,(T23.rA.one hc24 (T23.noA q3).1).one hc25 (T23.noA q4).1,(T23.rK.one hc24 (T23.noA q3).2).one hc25 (T23.noA q4).2,T23.dd,⟨q1,q2,q3,q4,by omega⟩,T23.ne⟩
   have zd:w22.drew.heap.size=w22.heap.size:=rfl;refine⟨⟨rfl,s3,M3,rest.drop E',a+E',va3,vk3,av3,ks3,n,h25,hg3,((he22.x (cY _)).one hc24 (by omega)).one hc25 (by omega),T25,hpf3,?_,i4,by omega,?_,?_,?_,hks3⟩,?_⟩
   ·rw[aP];omega
   ·rw[aP];omega
   ·rw[aP];exact hp3
   ·rw[aP];exact hav3
   ·rw[T25.l8.strat,T6.l8.strat,aP];omega
  ·have hnil:rest=[]:=by
    by_cases h:rest=[]
    ·exact h
    ·exact absurd h hne
   subst hnil;obtain⟨n,rfl⟩:∃m,n=m+1:=⟨n-1,by omega⟩;simp only[mL,gU]at hpf;rw[<-hpf]at hK ht;refine T6.l2.ld rfl ?_;refine bX T6.l7.1 rfl ?_;have hub:∀k,k∈ub [i64 6,str [],va,vk,i64 t.a]↔va.ownBlock=some k\/vk.ownBlock=some k:=λk=>by
    rw[show [i64 6,str [],va,vk,i64 t.a]=[i64 6,str []]++([va]++([vk]++[i64 t.a]))from rfl];simp only[tK,eH,gE];simp[ub,Value.ownBlock]
   have hnd:(ub [i64 6,str [],va,vk,i64 t.a]).Nodup:=by
    rw[show [i64 6,str [],va,vk,i64 t.a]=[i64 6,str []]++([va]++([vk]++[i64 t.a]))from rfl];simp only[tK];rw[show ub [i64 6,str []]=[]from rfl,show ub [i64 t.a]=[]from rfl,eQ,eA];exact fC.2 ⟨lF _,lF _,λx hx y hy e=>by subst e;exact T6.dd x (gE.1 hx) (gE.1 hy)⟩
   refine JQ (e:=⟨6,[],av,ks,t.a⟩) h6 he6 ⟨va,vk,rfl,T6.rA.own,T6.rK.own⟩ (λk hk=>((hub k).1 hk).elim (T6.rA.off k) (T6.rK.off k)) hnd (λk hk=>?_) (by have:=hg1.ex;omega) λM' w7 h7 he7 _=>?_
   ·rcases(hub k).1 hk with e|e
    ·have:=T6.rA.new k e;omega
    ·have:=T6.rK.new k e;omega
   ·exact hK _ _ rfl M' w7 h7 he7
end
section
variable [HX]
structure ER(w0 w:World)(p f:Nat)(M:Lay)(vt:Value)(wb:Nat)(e:Ex)(va vk:Value):Prop where
 rA:Ro w0 w p f M vt wb iG 1 va e.args.length (ints e.args)
 rK:Ro w0 w p f M vt wb StT 1 vk e.keys.length (strs e.keys)
 dd:∀k,va.ownBlock=some k->vk.ownBlock≠some k
def exc(e:Ex)(va vk:Value):List Value:=[i64 e.k,str e.t,va,vk,i64 e.a]
section
variable{w0 w w' w1:World}{p f b:Nat}{M M' M0:Lay}{vt:Value}{s:PS}{top:List Nat}{N:Int}{K:Q0}{e:Ex}{va vk:Value}{wbn:Nat}{wb:World}{dl:Nat}
theorem LN(h:ER w0 w p f M vt wbn e va vk):(exc e va vk).all gH=true:=by
 obtain⟨_,_,e1,_⟩:=h.rA.own.sl.shape;obtain⟨_,_,e2,_⟩:=h.rK.own.sl.shape;subst e1 e2;rfl
theorem ER.eff(h:ER w0 w p f M vt wbn e va vk)(he:Eff p f M M' w w'):ER w0 w' p f M' vt wbn e va vk:=⟨h.rA.eff he,h.rK.eff he,h.dd⟩
theorem ER.one(h:ER w0 w p f M vt wbn e va vk)(hc:Chg (One b) w w')(hA:va.ownBlock≠some b)(hK:vk.ownBlock≠some b):ER w0 w' p f M vt wbn e va vk:=⟨h.rA.one hc hA,h.rK.one hc hK,h.dd⟩
theorem Ro.le{m:Nat}{xs:List Value}{k:Nat}(h:Ro w0 w p f M vt wbn T m v n xs)(hk:k<=wbn):Ro w0 w p f M vt k T m v n xs:=⟨h.own,h.off,λj hj=>cH hk (h.new j hj)⟩
theorem ER.le{k:Nat}(h:ER w0 w p f M vt wbn e va vk)(hk:k<=wbn):ER w0 w p f M vt k e va vk:=⟨h.rA.le hk,h.rK.le hk,h.dd⟩
theorem ER.noK(hk:e.keys=[])(h:Ro w0 w p f M vt wbn iG 1 va e.args.length (ints e.args)):ER w0 w p f M vt wbn e va (.slice none 0 0):=⟨h,by rw[hk];exact Ro.nil _ _,λk _=>by simp[Value.ownBlock]⟩
theorem ER.leaf(h1:e.args=[])(h2:e.keys=[]):ER w0 w p f M vt wbn e (.slice none 0 0) (.slice none 0 0):=⟨by rw[h1];exact Ro.nil _ _,by rw[h2];exact Ro.nil _ _,λk hk=>by simp[Value.ownBlock]at hk⟩
theorem NQ(e:Ex)(va vk:Value):ub (exc e va vk)=ub [va]++ub [vk]:=by
 rw[show exc e va vk=[i64 e.k,str e.t]++([va]++([vk]++[i64 e.a]))from rfl];simp only[tK];rw[show ub [i64 e.k,str e.t]=[]from rfl,show ub [i64 e.a]=[]from rfl,eQ,eA]
theorem HK(h:PR w0 w p f M vt s top)(he:Eff p f M0 M wb w)(hE:ER w0 w p f M vt wb.heap.size e va vk)(hg:Gd N s dl)
  (hK:∀M' w',PR w0 w' p f M' vt {s with ex:=s.ex++[e]} top->Eff p f M0 M' wb w'->(∀b T cs,Loc w0 w p f M vt b T cs->va.ownBlock≠some b->vk.ownBlock≠some b->Loc w0 w' p f M' vt b T cs)->K (i64 (s.ex.length:Nat)) w'):
  aC P0 117 [.pointer (some ⟨p,0,none⟩),.agg (exc e va vk).toArray] w K:=by
 have hub:∀k,k∈ub (exc e va vk)↔va.ownBlock=some k\/vk.ownBlock=some k:=λk=>by rw[NQ,eH,gE,gE]
 have hnd:(ub (exc e va vk)).Nodup:=by
  rw[NQ];exact fC.2 ⟨lF _,lF _,λx hx y hy e=>by subst e;exact hE.dd x (gE.1 hx) (gE.1 hy)⟩
 refine JQ (e:=e) h he ⟨va,vk,rfl,hE.rA.own,hE.rK.own⟩ (λk hk=>((hub k).1 hk).elim (hE.rA.off k) (hE.rK.off k)) hnd (λk hk=>((hub k).1 hk).elim (hE.rA.new k) (hE.rK.new k)) (by have:=hg.ex;omega) λM' w' h' he' hl=>?_;exact hK M' w' h' he' λb T cs hL h1 h2=>hl b T cs hL λhm=>((hub b).1 hm).elim h1 h2
theorem Qw{E:PS->R Nat}{x:Str}(hE:EC w0 f 82 E dl)(hF:pZ E)(h:PR w0 w p f M vt s top)(hg:Gd N s dl)
  (hK:∀l s',DZ E x s=.ok l s'->∀M' v w',PR w0 w' p f M' vt s' top->Gd N s' dl->Eff p f M M' w w'->Ro w0 w' p f M' vt w.heap.size iG 1 v l.length (ints l)->K v w')(ht:∀c a',DZ E x s=.err c a'->Thr w0 f c a'):
  aC P0 261 [.pointer (some ⟨p,0,none⟩),str x] w K:=by
 refine UO ?_;unfold aBJ;unfold DZ at hK ht;generalize hR:sC E x (s.toks.length+1) s []=R0 at hK ht;have hN:=hg.hN;refine cZ.go (λst w'=>∃v s1 M1 out n,st=[v]/\PR w0 w' p f M1 vt s1 top/\Gd N s1 dl/\Eff p f M M1 w w'/\Ro w0 w' p f M1 vt w.heap.size iG 1 v out.length (ints out)/\sC E x n s1 out=R0/\s1.toks.length<n+s1.i/\out.length<=s1.i/\s1.toks.length=s.toks.length) (λ_ w'=>s.toks.length-yX w' p)
  ⟨_,s,M,[],s.toks.length+1,rfl,h,hg,Eff.refl _ _ _ _,Ro.nil _ _,hR,by omega,by simp,rfl⟩ ?_
 rintro st g w2 ⟨v,s1,M1,out,n,rfl,h2,hg2,he2,hr2,hF2,hn,ho,htl⟩;have hlt2:=hg2.ws.lt;obtain⟨n,rfl⟩:∃m,n=m+1:=⟨n-1,by omega⟩;simp only[aF];refine tL h2 hg2.ws hN hg2.l λw3 h3 he3=>?_;simp only[sC]at hF2;have hg3:=hg2.take x;have tg:=iY hg2.ws x;have hr3:=hr2.eff he3;have he23:=he2.trans he3;have hw3:=he23.chg.size;have more:∀{s4:PS} {w4:World},PR w0 w4 p f M1 vt s4 top->Gd N s4 dl->Eff p f M M1 w w4->Ro w0 w4 p f M1 vt w.heap.size iG 1 v out.length (ints out)->((E s4).bind λx' s'=>sC E x n s' (out++[x']))=R0->s1.i<=s4.i->s4.toks.length=s.toks.length->
   aC P0 82 [.pointer (some ⟨p,0,none⟩)] w4 λt20 w8=>dN iG 1 [(.int .i64 0)] [(0,1,t20)] w8 λt21 w9=>dY P0 (Builtin.append_ #[30,30] 30 #[v,t21]) w9 λt22 w10=>
    (∃v s1 M1 out n,[t22]=[v]/\PR w0 w10 p f M1 vt s1 top/\Gd N s1 dl/\Eff p f M M1 w w10/\Ro w0 w10 p f M1 vt w.heap.size iG 1 v out.length (ints out)/\sC E x n s1 out=R0/\s1.toks.length<n+s1.i/\out.length<=s1.i/\s1.toks.length=s.toks.length)/\s.toks.length-yX w10 p<s.toks.length-yX w2 p:=λ{s4 w4} h4 hg4 he4 hr4 hF4 hi4 ht4=>by
  refine hE w4 p M1 vt s4 top N _ h4 hg4 (λy s5 e5 M5 w5 h5 he5=>?_) λc a' e5=>ht c a' (by rw[<-hF4,e5];rfl);rw[e5]at hF4;simp only[R.bind]at hF4;obtain⟨hg5,hi5⟩:=hg4.e hF e5;have htk:s5.toks.length=s4.toks.length:=by
   have:=hF.ok N s4 hg4.ws;rw[e5]at this;exact congrArg List.length this.1.1.toks
  refine jJ λr w6 hr hz6 hrb hx6=>?_;have h6:=h5.ext hx6;have hr6:=(hr4.eff he5).ext hx6;have he46:=(he4.trans he5).x hx6;refine Ro.app Bf hr6 h6 hrb rfl (λu hu=>by simp only[bR]at hu;subst hu;rfl) (by have:=hg4.few;have:=hg4.ws.lt;omega) (by decide) he46.chg.size λv' w7 hR7 hc7 hv7 h7=>?_;have hlt5:=hg5.ws.lt;refine⟨⟨v',s5,M5,out++[y],n,rfl,h7,hg5,he46.then hc7 λk hk e=>by have:=hr6.new k e;omega,?_,hF4,by omega,by rw[bE,aA,aL];omega,by omega⟩,?_⟩
  ·rw[bE,aA,aL,Ds];exact hR7
  ·rw[h7.at_,h2.at_];omega
 have ht3:(bQ s1 x).2.toks.length=s.toks.length:=by rw[tg.1.toks];exact htl
 rw[eD,bS];refine⟨λhnt=>?_,λhyt=>?_⟩
 ·have hnt:(bQ s1 x).1=false:=by simpa using hnt
  rw[aD (by rw[hnt];decide)]at hF2;by_cases hout:out=[]
  ·rw[aH hout]at hF2;refine bU.cut (λ_ w'=>w'=w3) ?_ ?_
   ·rw[fR hr3.own.sl,kS,aM];exact⟨λe=>by rw[hout]at e;simp at e,λ_=>rfl⟩
   rintro _ g2 w4 rfl;exact more h3 hg3 he23 hr3 hF2 tg.1.le ht3
  ·rw[aD hout]at hF2;have hpos:0<out.length:=dF.2 hout;refine bU.cut (λ_ w'=>∃s4,PR w0 w' p f M1 vt s4 top/\Gd N s4 dl/\Eff p f M M1 w w'/\Ro w0 w' p f M1 vt w.heap.size iG 1 v out.length (ints out)/\((E s4).bind λx' s'=>sC E x n s' (out++[x']))=R0/\s1.i<=s4.i/\s4.toks.length=s.toks.length) ?_ ?_
   ·rw[fR hr3.own.sl,kS,aM];refine⟨λ_=>?_,λe=>absurd (by omega) e⟩;refine vY h3 hg3.ws hN hg3.l (λs4 e4 w4 h4 he4=>?_) λc a' e4=>ht c a' (by rw[<-hF2,e4];rfl);rw[e4]at hF2;simp only[R.bind]at hF2;obtain⟨hg4,hi4,_⟩:=hg3.want e4;have hto4:=jR hg3.ws [44];rw[e4]at hto4;refine tL h4 hg4.ws hN hg4.l λw5 h5 he5=>?_;have hr5:=(hr3.eff he4).eff he5;have he25:=(he23.trans he4).trans he5;have tg5:=iY hg4.ws x;rw[bS];refine⟨λhy=>?_,λhy=>?_⟩
    ·rw[aH hy]at hF2;exact hK out _ hF2.symm M1 v w5 h5 (hg4.take x) he25 hr5
    ·rw[aD (by rw[hy];decide)]at hF2;exact⟨_,h5,hg4.take x,he25,hr5,hF2,by have:=tg.1.le;have:=tg5.1.le;omega,by rw[tg5.1.toks,hto4.1.1.toks];exact ht3⟩
   rintro _ g2 w4 ⟨s4,h4,hg4,he4,hr4,hF4,hi4,ht4⟩;exact more h4 hg4 he4 hr4 hF4 hi4 ht4
 ·have hyt:(bQ s1 x).1=true:=by simpa using hyt
  rw[aH hyt]at hF2;exact hK out _ hF2.symm M1 v w3 h3 hg3 he23 hr3
end
end
section
variable [HX]
variable{w0 w w' w1:World}{p f b:Nat}{M M' M0:Lay}{vt:Value}{s:PS}{top:List Nat}{N:Int}{K:Q0}{e:Ex}{va vk:Value}{wbn:Nat}{wb:World}{dl:Nat}
theorem JM(hp:PR w0 w p f M vt s top)(hL:Loc w0 w p f M vt b ExT cs)(hc:cs.length=5)(hE:ER w0 w p f M vt wbn e va vk)(hA:va.ownBlock≠some b)(hK':vk.ownBlock≠some b)
  (hK:∀w',PR w0 w' p f M vt s top->Chg (One b) w w'->ER w0 w' p f M vt wbn e va vk->K (.agg (exc e va vk).toArray) w'):
  stW 5 (.pointer (some ⟨b,0,none⟩)) (.agg (exc e va vk).toArray) w λw5=>ldW true 5 (.pointer (some ⟨b,0,none⟩)) w5 λr6=>K r6 w5:=
 jA hL.1 rfl hc (LN hE) λw' hcw=>hK w' (hp.one hcw hL.2) hcw (hE.one hcw hA hK')
theorem Mh{x r:Nat}{ty:TypeId}{k a:Int}{l:Str}{av:List Nat}{KW:World->Prop}(hL:Loc w0 w p f M vt b ExT [i64 k,str l,va,vk,i64 a])(hR:Ro w0 w p f M vt wbn iG 1 va av.length (ints av))(hp:PR w0 w p f M vt s top)(hr:w.heap[r]?=some (.cells [i64 (x:Nat)].toArray iG (0,0)))
  (hn:av.length<=1000000)(hB:b<wbn)(hw:wbn<=w.heap.size)
  (hK:∀va' w',Loc w0 w' p f M vt b ExT [i64 k,str l,va',vk,i64 a]->Ro w0 w' p f M vt wbn iG 1 va' (av++[x]).length (ints (av++[x]))->PR w0 w' p f M vt s top->Chg (λk=>va.ownBlock=some k\/k=b) w w'->(∀k,va'.ownBlock=some k->va.ownBlock=some k\/w.heap.size<=k)->KW w'):
  dY P0 (Builtin.append_ #[30,30] ty #[va,.slice (some ⟨r,0,none⟩) 1 1]) w λt62 w36=>aY 2 (.pointer (some ⟨b,0,none⟩)) λt63=>stW 1 t63 t62 w36 KW:=by
 refine Ro.app Bf hR hp hr rfl (λu hu=>by simp only[bR]at hu;subst hu;rfl) hn (by decide) hw λv' w2 hR2 hc hv hp2=>?_;have e1:(av++[x]).length=av.length+1:=by simp
 rw[<-e1,show ints av++[i64 (x:Nat)]=ints (av++[x])from by simp[ints]]at hR2;rw[bP,bY,aX];obtain⟨vp,vc,ev,_⟩:=hR2.own.sl.shape;refine(hL.row hc λe=>by have:=hR.new b e;omega).st (by rw[ev];rfl) (by simp) λw3 L3 hc3 hz3=>?_;exact hK v' w3 L3 (hR2.one hc3 λe=>by have:=hR2.new b e;omega) (hp2.one hc3 L3.2) ((hc.mono λk _ e=>.inl e).trans (hc3.mono λk _ e=>.inr e)) hv
theorem YQ{E:PS->R Nat}{t:Tok}(hE:EC w0 f 82 E dl)(hF:pZ E)(h:PR w0 w p f M vt s top)(hg:Gd N s dl)(hc0:(cur s).k≠0)(hnow:bA s=s)
  (hK:∀e s',BI E s t.a=.ok e s'->∀M' va vk w',PR w0 w' p f M' vt s' top->Gd N s' dl->Eff p f M M' w w'->ER w0 w' p f M' vt w.heap.size e va vk->K (.agg (exc e va vk).toArray) w')(ht:∀c a',BI E s t.a=.err c a'->Thr w0 f c a'):
  aC P0 264 [.pointer (some ⟨p,0,none⟩),.agg (eS t).toArray] w K:=by
 refine UL ?_;unfold aBG;have hN:=hg.hN;have hg1:Gd N (step1 s) dl:=by have:=hg.step hc0;rw[hnow]at this;exact this
 refine fS (z:=eS t) λb3 w1 hb3 hz1 hbb1 hx1=>?_;have h1:=h.ext hx1;have L3:=h.loc hz1 hb3 hbb1;refine bG λb4 w2 hb4 hz2 hbb2 hx2=>?_;have h2:=h1.ext hx2;have L4:=h1.loc hz2 hb4 hbb2;have L3:=L3.ext hx2;have he2:Eff p f M M w w2:=(Eff.ext hx1).x hx2;refine h2.go (wsi hg.ws hg.l) λw3 h3 he3 hz3=>?_;have L3:=L3.eff he3;have L4:=L4.eff he3;have he3:=he2.trans he3;refine mJ h3 hg1.ws hN hg1.l λw4 h4 he4=>?_;have L3:=L3.eff he4;have L4:=L4.eff he4;have he4:=he3.trans he4;have lt3:=L3.lt;have lt4:=L4.lt;refine bG λb5 w5 hb5 hz5 hbb5 hx5=>?_;have h5:=h4.ext hx5;have L5:=h4.loc hz5 hb5 hbb5;have L3:=L3.ext hx5;have L4:=L4.ext hx5;have he5:=he4.x hx5;have hw4:=he4.chg.size;refine cG (l:=eS (cur (step1 s))) L5.1 rfl rfl rfl λw6 hz6 hb6 hc6=>?_;have L5:Loc w0 w6 p f M vt b5 TkT (eS (cur (step1 s))):=⟨hb6,L5.2.up (by omega)⟩;have h6:=h5.one hc6 L5.2;have L3:=L3.one hc6 (by omega);have L4:=L4.one hc6 (by omega);have he6:=he5.one hc6 (by omega);have hw6:=he6.chg.size;have hgn:=hg1.now;refine L5.ldf rfl ?_;rw[fL];simp only[kL];refine GdW.look (decide ((cur (step1 s)).t≠Ip)) (λ_ J hJ=>?_) λg=>?_
 ·refine L5.ldf rfl ?_;rw[tH];exact hJ
 simp only[aF];rw[eR,bS];unfold BI at hK ht;simp only at hK ht;refine⟨λhcc=>?_,λhcc=>?_⟩
 ·have hc:(cur (step1 s)).k≠1\/(cur (step1 s)).t≠Ip:=by simpa using hcc
  rw[aH hc]at hK ht;have L3:=L3.drew;rw[bP,bY,aX];refine L3.ld rfl ?_;refine Qw hE hF h6.drew hgn (λl s' el M' v w7 h7 hg7 he7 hr7=>?_) λc a' el=>ht c a' (by rw[el];rfl);rw[el]at hK;simp only[R.bind]at hK;have L3:=L3.eff he7;refine⟨L3.ld rfl rfl,?_⟩;obtain⟨q,cap,ev,_⟩:=hr7.own.sl.shape;subst ev;simp only[dA,gB,cU,aA,aL,aW,aZ,Nat.reduceAdd,Nat.reduceLT,dH,aB];have zd:w6.drew.heap.size=w6.heap.size:=rfl;have hER:ER w0 w7 p f M' vt w6.heap.size ⟨7,[],l,[],t.a⟩ (.slice q l.length cap) (.slice none 0 0):=ER.noK rfl hr7;refine JM (e:=⟨7,[],l,[],t.a⟩) h7 (L4.drew.eff he7) rfl hER (λe=>by have:=hr7.new _ e;omega) (by simp[Value.ownBlock]) λw8 h8 hc8 hE8=>?_;exact hK _ _ rfl M' _ _ w8 h8 hg7 (((he6.x (cY w6)).trans he7).one hc8 (by omega)) (hE8.le (by omega))
 ·have hc:¬((cur (step1 s)).k≠1\/(cur (step1 s)).t≠Ip):=by simpa using hcc
  rw[aD hc]at hK ht;have hk1:(cur (step1 s)).k≠0:=λe=>hc (.inl (by rw[e];decide));have hgs:=hg1.step hk1;refine h6.go (wsi hgn.ws hgn.l) λw7 h7 he7 hz7=>?_;have L3:=L3.eff he7;have L4:=L4.eff he7;have he7:=he6.trans he7;refine bU.cut (λst w'=>∃b6 u s2,st=[.pointer (some ⟨b6,0,none⟩)]/\kZ (step1 (bA (step1 s))) 1=.ok u s2/\PR w0 w' p f M vt s2 top/\Gd N s2 dl/\Eff p f M M w w'/\Loc w0 w' p f M vt b6 ExT [i64 29,str u.t,.slice none 0 0,.slice none 0 0,i64 t.a]/\Loc w0 w' p f M vt b4 ExT [.int .i64 0,.string (ofL []),.slice none 0 0,.slice none 0 0,.int .i64 0]/\b4<b6/\w.heap.size<=b6) ?_ ?_
  ·have L3:=L3.drew;have L4:=L4.drew;have h7:=h7.drew;have he7:=he7.x (cY w7);have zd:w7.drew.heap.size=w7.heap.size:=rfl;have ld3:∀{w':World},Loc w0 w' p f M vt b3 TkT (eS t)->ldW false 1 (.pointer (some ⟨b3,2,none⟩)) w' λx=>x=i64 t.a:=λL=>L.ld rfl rfl;rw[bP,bY,aX];refine L3.ld rfl ?_;refine⟨?_,?_⟩
   ·refine wN h7 hgs.ws hN hgs.l (λu s2 eu w8 h8 he8=>?_) λc a' eu=>ht c a' (by rw[eu];rfl);have L3:=L3.eff he8;have L4:=L4.eff he8;have he8:=he7.trans he8;refine⟨ld3 L3,str u.t,rfl,?_⟩;simp only[dA,dZ,cU,aA,aL,aW,aZ,Nat.reduceAdd,Nat.reduceLT,dH,aB];refine bG λb6 w9 hb6' hz9 hbb9 hx9=>?_;have L6:=h8.loc hz9 hb6' hbb9;refine⟨ld3 (L3.ext hx9),?_⟩;refine cG (l:=[i64 29,str u.t,.slice none 0 0,.slice none 0 0,i64 t.a]) L6.1 rfl rfl rfl λw10 hz10 hbb10 hc10=>?_;have lt4':=L4.lt;have hw8:=he8.chg.size;exact⟨b6,u,s2,rfl,eu,(h8.ext hx9).one hc10 L6.2,(hgs.kind (by decide) eu).1,(he8.x hx9).one hc10 (by omega),⟨hbb10,L6.2.up (by omega)⟩,(L4.ext hx9).one hc10 (by omega),by omega,by omega⟩
   ·refine bG λb6 w9 hb6' hz9 hbb9 hx9=>?_;have L6:=h7.loc hz9 hb6' hbb9;have L3:=L3.ext hx9;have lt4':=L4.lt;have hw8:=he7.chg.size;refine⟨ld3 L3,?_⟩;refine wN (h7.ext hx9) hgs.ws hN hgs.l (λu s2 eu w8 h8 he8=>?_) λc a' eu=>ht c a' (by rw[eu];rfl);have L3:=L3.eff he8;have L4:=(L4.ext hx9).eff he8;have L6:=L6.eff he8;have he8:=(he7.x hx9).trans he8;refine⟨ld3 L3,str u.t,rfl,?_⟩;simp only[dA,dZ,cU,aA,aL,aW,aZ,Nat.reduceAdd,Nat.reduceLT,dH,aB];refine cG (l:=[i64 29,str u.t,.slice none 0 0,.slice none 0 0,i64 t.a]) L6.1 rfl rfl rfl λw10 hz10 hbb10 hc10=>?_;exact⟨b6,u,s2,rfl,eu,h8.one hc10 L6.2,(hgs.kind (by decide) eu).1,he8.one hc10 (by omega),⟨hbb10,L6.2.up (by omega)⟩,L4.one hc10 (by omega),by omega,by omega⟩
  rintro st g2 w8 ⟨b6,u,s2,rfl,eu,h8,hg8,he8,L6,L4,hb46,hwb6⟩;simp only[aF];rw[eu]at hK ht;simp only[R.bind]at hK ht;refine bU.cut (λ_ w'=>∃v s3,kZ s2 1=.ok v s3/\v.t=kIn/\PR w0 w' p f M vt s3 top/\Gd N s3 dl/\Eff p f M M w8 w') ?_ ?_
  ·refine wN h8 hg8.ws hN hg8.l (λv s3 ev w9 h9 he9=>?_) λc a' ev=>ht c a' (by rw[ev]);refine bG λb7 w10 hb7 hz10 hbb10 hx10=>?_;have h10:=h9.ext hx10;have L7:=h9.loc hz10 hb7 hbb10;refine cG (l:=eS v) L7.1 rfl rfl rfl λw11 hz11 hbb11 hc11=>?_;have L7:Loc w0 w11 p f M vt b7 TkT (eS v):=⟨hbb11,L7.2.up (by omega)⟩;have h11:=h10.one hc11 L7.2;have z9:=he9.chg.size;refine L7.ldf rfl ?_;rw[tH,aM];refine⟨λhne=>?_,λhne=>⟨v,s3,ev,?_,h11,(hg8.kind (by decide) ev).1,(he9.x hx10).one hc11 (by omega)⟩⟩
   ·refine L7.ldf rfl ?_;exact pD h11 (ht _ _ (by rw[ev];simp only;exact aH hne))
   ·by_cases h:v.t=[105,110]
    ·exact h
    ·exact absurd h hne
  rintro _ g3 w9 ⟨v,s3,ev,hvt,h9,hg9,he9⟩;rw[ev]at hK ht;simp only[aD (show¬v.t≠kIn fromλh=>h hvt)]at hK ht;have L6:=(L6.eff he9).drew;have L4:=(L4.eff he9).drew;have h9:=h9.drew;have he9:=(he8.trans he9).x (cY w9);have zd:w9.drew.heap.size=w9.heap.size:=rfl;have hw9:=he9.chg.size;have lt6:=L6.lt;rw[bP,bY,aX];refine L6.ld rfl ?_;refine hE w9.drew p M vt s3 top N _ h9 hg9 (λx s4 ex M4 w10 h10 he10=>?_) λc a' ex=>ht c a' (by rw[ex]);rw[ex]at hK ht;simp only at hK ht;obtain⟨hg10,_⟩:=hg9.e hF ex;have L6:=L6.eff he10;have L4:=L4.eff he10;have he10:=he9.trans he10;refine⟨L6.ld rfl rfl,?_⟩;refine jJ λr w11 hr hz11 hrb hx11=>?_;have L6:=L6.ext hx11;have L4:=L4.ext hx11;have h11:=h10.ext hx11;have he11:=he10.x hx11;have hw11:=he11.chg.size;have lt6:=L6.lt;have lt4:=L4.lt;refine⟨L6.ld rfl rfl,?_⟩;refine Mh (wbn:=w11.heap.size) (av:=[]) L6 (Ro.nil _ _) h11 hrb (by simp) lt6 (aU _) λva1 w12 L6 hR12 h12 hc12 hv12=>?_;have he12:=he11.then hc12 λk hk e=>by
   rcases e with e|e
   ·simp[Value.ownBlock]at e
   ·omega
  have hw12:=he12.chg.size;have L4:Loc w0 w12 p f M4 vt b4 ExT [.int .i64 0,.string (ofL []),.slice none 0 0,.slice none 0 0,.int .i64 0]:=⟨hc12.at L4.1 λe=>e.elim (by simp[Value.ownBlock]) (by omega),L4.2.up hc12.size⟩;have hz12:=hc12.size;refine vY h12 hg10.ws hN hg10.l (λs5 e5 w13 h13 he13=>?_) λc a' e5=>ht c a' (by rw[e5]);rw[e5]at hK ht;simp only at hK ht;obtain⟨hg13,_⟩:=hg10.want e5;have L6:=(L6.eff he13).drew;have L4:=(L4.eff he13).drew;have hR13:=(hR12.eff he13).ext (cY w13);have h13:=h13.drew;have zd13:w13.drew.heap.size=w13.heap.size:=rfl;have hz13:=he13.chg.size;have he13:=(he12.trans he13).x (cY w13);rw[bP,bY,aX];refine L6.ld rfl ?_;refine hE w13.drew p M4 vt s5 top N _ h13 hg13 (λy s6 ey M6 w14 h14 he14=>?_) λc a' ey=>ht c a' (by rw[ey]);rw[ey]at hK ht;simp only at hK ht;obtain⟨hg14,_⟩:=hg13.e hF ey;have L6:=L6.eff he14;have L4:=L4.eff he14;have hR14:=hR13.eff he14;have hz14:=he14.chg.size;have he14:=he13.trans he14;refine⟨L6.ld rfl rfl,?_⟩;refine jJ λr2 w15 hr2 hz15 hrb2 hx15=>?_;have L6:=L6.ext hx15;have L4:=L4.ext hx15;have h15:=h14.ext hx15;have he15:=he14.x hx15;refine⟨L6.ld rfl rfl,?_⟩;refine Mh (wbn:=w11.heap.size) (av:=[x]) L6 (hR14.ext hx15) h15 hrb2 (by simp) (by omega) (by omega) λva2 w16 L6 hR16 h16 hc16 hv16=>?_;have he16:=he15.then hc16 λk hk e=>by
   rcases e with e|e
   ·have:=hR14.new k e;omega
   ·omega
  have L4:Loc w0 w16 p f M6 vt b4 ExT [.int .i64 0,.string (ofL []),.slice none 0 0,.slice none 0 0,.int .i64 0]:=⟨hc16.at L4.1 λe=>e.elim (λe=>by have:=hR14.new _ e;omega) (by omega),L4.2.up hc16.size⟩;refine vY h16 hg14.ws hN hg14.l (λs7 e7 w17 h17 he17=>?_) λc a' e7=>ht c a' (by rw[e7]);rw[e7]at hK;simp only at hK;obtain⟨hg17,_⟩:=hg14.want e7;have L6:=L6.eff he17;have L4:=L4.eff he17;have hR17:=hR16.eff he17;have he17:=he16.trans he17;refine bX L6.1 rfl ?_;refine JM (e:=⟨29,u.t,[x,y],[],t.a⟩) h17 L4 rfl (ER.noK rfl hR17) (λe=>by have:=hR17.new _ e;omega) (by simp[Value.ownBlock]) λw18 h18 hc18 hE18=>?_;exact hK _ _ rfl M6 _ _ w18 h18 hg17 (he17.one hc18 (by omega)) (hE18.le (by omega))
end
theorem Gd.tx{N:Int}{s:PS}{dl:Nat}(h:Gd N s dl)(hk:(cur s).k=3):En (cur s).t/\(cur s).t.length<=100000:=by
 have hn:=h.now;have hm:=bK (vZ hn.ws);have:=hn.ts _ hm (show(lH (bA s)).k=3 from hk);exact this
section
variable [HX]
variable{w0 w w' w1:World}{p f b:Nat}{M M' M0:Lay}{vt:Value}{s:PS}{top:List Nat}{N:Int}{K:Q0}{e:Ex}{va vk:Value}{wbn:Nat}{wb:World}{dl:Nat}
theorem OU{E:PS->R Nat}{t:Tok}(hE:EC w0 f 82 E dl)(hF:pZ E)(h:PR w0 w p f M vt s top)(hg:Gd N s dl)(hc0:(cur s).k≠0)(hnow:bA s=s)
  (hK:∀e s',MQ E s t.a=.ok e s'->∀M' va vk w',PR w0 w' p f M' vt s' top->Gd N s' dl->Eff p f M M' w w'->ER w0 w' p f M' vt w.heap.size e va vk->K (.agg (exc e va vk).toArray) w')(ht:∀c a',MQ E s t.a=.err c a'->Thr w0 f c a'):
  aC P0 266 [.pointer (some ⟨p,0,none⟩),.agg (eS t).toArray] w K:=by
 refine UJ ?_;unfold aBE;have hN:=hg.hN;have hg1:Gd N (step1 s) dl:=by have:=hg.step hc0;rw[hnow]at this;exact this
 refine fS (z:=eS t) λb3 w1 hb3 hz1 hbb1 hx1=>?_;have h1:=h.ext hx1;have L3:=h.loc hz1 hb3 hbb1;refine bG λb4 w2 hb4 hz2 hbb2 hx2=>?_;have h2:=h1.ext hx2;have L4:=h1.loc hz2 hb4 hbb2;have L3:=L3.ext hx2;have he2:Eff p f M M w w2:=(Eff.ext hx1).x hx2;refine h2.go (wsi hg.ws hg.l) λw3 h3 he3 hz3=>?_;have L3:=L3.eff he3;have L4:=L4.eff he3;have he3:=he2.trans he3;refine L3.ldf rfl ?_;simp only[dA,dZ,cU,aA,aL,aW,aZ,Nat.reduceAdd,Nat.reduceLT,dH,aB];have lt4:=L4.lt;refine bG λb5 w4 hb5 hz4 hbb4 hx4=>?_;have L5:=h3.loc hz4 hb5 hbb4;have h4:=h3.ext hx4;have L4:=L4.ext hx4;refine cG (l:=[i64 8,str [],.slice none 0 0,.slice none 0 0,i64 t.a]) L5.1 rfl rfl rfl λw5 hz5 hbb5 hc5=>?_;have L5:Loc w0 w5 p f M vt b5 ExT [i64 8,str [],.slice none 0 0,.slice none 0 0,i64 t.a]:=⟨hbb5,L5.2.up (by omega)⟩;have h5:=h4.one hc5 L5.2;have L4:=L4.one hc5 (by omega);have he5:Eff p f M M w w5:=(he3.x hx4).one hc5 (by have:=he3.chg.size;omega);refine xM h5 hg1.ws hN hg1.l λw6 h6 he6=>?_;have L4:=L4.eff he6;have L5:=L5.eff he6;have he6:=he5.trans he6;have hg6:=hg1.lines;unfold MQ at hK ht;generalize hR:Ee E t.a (s.toks.length+1) (fQ (step1 s)) [] []=R0 at hK ht;have hw6:=he6.chg.size;obtain⟨B1,hB1⟩:∃B1,B1=w6.heap.size:=⟨_,rfl⟩;have lt5:=L5.lt;have lt4:=L4.lt;have hw3:=he3.chg.size;have htl0:(fQ (step1 s)).toks.length=s.toks.length:=congrArg List.length ((lU hg1.ws).1.toks);refine cZ.go (λst w'=>st=[]/\∃s1 M1 av ks va vk n,PR w0 w' p f M1 vt s1 top/\Gd N s1 dl/\Eff p f M M1 w w'/\Loc w0 w' p f M1 vt b5 ExT [i64 8,str [],va,vk,i64 t.a]/\Loc w0 w' p f M1 vt b4 ExT [.int .i64 0,.string (ofL []),.slice none 0 0,.slice none 0 0,.int .i64 0]/\
   Ro w0 w' p f M1 vt B1 iG 1 va av.length (ints av)/\Ro w0 w' p f M1 vt B1 StT 1 vk ks.length (strs ks)/\(∀k,va.ownBlock=some k->vk.ownBlock≠some k)/\B1<=w'.heap.size/\Ee E t.a n s1 av ks=R0/\s1.toks.length<n+s1.i/\av.length<=s1.i/\ks.length=av.length/\s1.toks.length=s.toks.length) (λ_ w'=>s.toks.length-yX w' p)
  ⟨rfl,_,M,[],[],_,_,s.toks.length+1,h6,hg6,he6,L5,L4,Ro.nil _ _,Ro.nil _ _,λk hk=>by simp[Value.ownBlock]at hk,by omega,hR,by omega,by simp,rfl,htl0⟩ ?_
 rintro st g w7 ⟨rfl,s1,M1,av,ks,va,vk,n,h7,hg7,he7,L5,L4,rA,rK,dd,hz7,hob,hn,hav,hks,htl⟩;have hlt7:=hg7.ws.lt;obtain⟨n,rfl⟩:∃m,n=m+1:=⟨n-1,by omega⟩;refine tL h7 hg7.ws hN hg7.l λw8 h8 he8=>?_;have L4:=L4.eff he8;have L5:=L5.eff he8;have rA:=rA.eff he8;have rK:=rK.eff he8;have hz8:=he8.chg.size;have he8:=he7.trans he8;have hg8:=hg7.take [125];have tg:=iY hg7.ws [125];have tgt:=congrArg List.length tg.1.toks;simp only[Ee]at hob;rw[eD,bS];refine⟨λhnt=>?_,λhyt=>?_⟩
 ·have hnt:(bQ s1 [125]).1=false:=by simpa using hnt
  rw[aD (by rw[hnt];decide)]at hob;generalize hs2:(bQ s1 [125]).2=s2 at*
  refine Ka h8 hg8.ws hN hg8.l λw9 h9 he9=>?_;have L4:=L4.eff he9;have L5:=L5.eff he9;have rA:=rA.eff he9;have rK:=rK.eff he9;have hz9:=he9.chg.size;have he9:=he8.trans he9;have hg9:=hg8.next;have ng:=qF hg8.ws;have ngt:=congrArg List.length ng.1.toks;have hc2:=hg8.at0;have lt5:=L5.lt;have lt4:=L4.lt;refine bG λb6 w10 hb6 hz10 hbb10 hx10=>?_;have L6:=h9.loc hz10 hb6 hbb10;have h10:=h9.ext hx10;have L4:=L4.ext hx10;have L5:=L5.ext hx10;have nA6:va.ownBlock≠some b6:=λe=>by have:=(rA.off _ e).1.2;omega
  have nK6:vk.ownBlock≠some b6:=λe=>by have:=(rK.off _ e).1.2;omega
  have rA:=rA.ext hx10;have rK:=rK.ext hx10;refine cG (l:=eS (cur s2)) L6.1 rfl rfl rfl λw11 hz11 hbb11 hc11=>?_;have L6:Loc w0 w11 p f M1 vt b6 TkT (eS (cur s2)):=⟨hbb11,L6.2.up (by omega)⟩;have h11:=h10.one hc11 L6.2;have L4:=L4.one hc11 (by omega);have L5:=L5.one hc11 (by omega);have rA:=rA.one hc11 nA6;have rK:=rK.one hc11 nK6;have he11:Eff p f M M1 w w11:=(he9.x hx10).one hc11 (by have:=he9.chg.size;omega);have hw11:=he11.chg.size;refine bU.cut (λ_ w'=>∃k s3,(if(cur s2).k=3 then oY (iH s2) (cur s2)else if(cur s2).k=1 then .ok (cur s2).t (iH s2)else .err 50 (cur s2).a)=.ok k s3/\s3=iH s2/\PR w0 w' p f M1 vt (iH s2) top/\Loc w0 w' p f M1 vt b6 TkT [i64 (cur s2).k,str k,i64 (cur s2).a]/\Eff p f M M1 w w'/\Loc w0 w' p f M1 vt b5 ExT [i64 8,str [],va,vk,i64 t.a]/\Loc w0 w' p f M1 vt b4 ExT [.int .i64 0,.string (ofL []),.slice none 0 0,.slice none 0 0,.int .i64 0]/\Ro w0 w' p f M1 vt B1 iG 1 va av.length (ints av)/\Ro w0 w' p f M1 vt B1 StT 1 vk ks.length (strs ks)/\w11.heap.size<=w'.heap.size) ?_ ?_
  ·refine L6.ldf rfl ?_;rw[bL,aM];refine⟨λhk3=>?_,λhk3=>?_⟩
   ·have htx:=hg8.tx hk3;rw[aH hk3]at hob;refine bX L6.1 rfl ?_;refine Li h11 htx.1 (by omega) (λl s3 el w12 hx12=>?_) λc a' el=>ht c a' (by rw[<-hob,el];rfl);rw[bP,bY,aX];refine(L6.ext hx12).st rfl (by simp[eS]) λw13 L6 hc13 hz13=>?_;have h13:=(h11.ext hx12).one hc13 L6.2;have e3:s3=iH s2:=by
     unfold oY at el;split at el
     ·cases el
     ·injection el with _ el;exact el.symm
    exact⟨l,s3,by rw[aH hk3];exact el,e3,h13,L6,(he11.x hx12).one hc13 (by have:=he9.chg.size;omega),(L5.ext hx12).one hc13 (by omega),(L4.ext hx12).one hc13 (by omega),(rA.ext hx12).one hc13 nA6,(rK.ext hx12).one hc13 nK6,by have:=hx12.size;omega⟩
   ·rw[bL,aM];refine⟨λhk1=>?_,λhk1=>?_⟩
    ·exact⟨_,_,by rw[aD hk3,aH hk1],rfl,h11,L6,he11,L5,L4,rA,rK,aU _⟩
    ·refine L6.ldf rfl ?_;refine pD h11 (ht 50 (cur s2).a ?_);rw[<-hob,aD hk3,aD hk1];rfl
  rintro _ g2 w12 ⟨k,s3,ek,rfl,h12,L6,he12,L5,L4,rA,rK,hz12⟩;rw[ek]at hob;simp only[R.bind]at hob;refine bU.cut (λ_ w'=>w'=w12/\ks.contains k=false) ?_ ?_
  ·rw[bP,bY,aX];refine L5.ld rfl ?_;refine L6.ldf rfl ?_;refine BW rK.own.sl (by have:=hg7.few;omega) ?_;rw[aM];refine⟨λhm=>?_,λhm=>⟨rfl,by simpa using hm⟩⟩;refine L6.ldf rfl ?_;refine pD h12 (ht 2 (cur s2).a ?_);rw[<-hob,aH (by simpa using hm)]
  rintro _ g3 w13 ⟨rfl,hnk⟩;rw[aD (by rw[hnk];decide)]at hob;refine vY h12 hg9.ws hN hg9.l (λs4 e4 w14 h14 he14=>?_) λc a' e4=>ht c a' (by rw[<-hob,e4]);rw[e4]at hob;simp only at hob;obtain⟨hg14,hi14,_⟩:=hg9.want e4;have w14s:=jR hg9.ws [61];rw[e4]at w14s;have w14t:=congrArg List.length w14s.1.1.toks;have L4:=(L4.eff he14).drew;have L5:=(L5.eff he14).drew;have L6:=(L6.eff he14).drew;have rA:=(rA.eff he14).ext (cY w14);have rK:=(rK.eff he14).ext (cY w14);have hz14:=he14.chg.size;have zd14:w14.drew.heap.size=w14.heap.size:=rfl;have he14:=(he12.trans he14).x (cY w14);have h14:=h14.drew;rw[bP,bY,aX];refine L5.ld rfl ?_;refine L6.ldf rfl ?_;rw[bP,bY,aX];refine L5.ld rfl ?_;refine vK λr w15 hr hz15 hrb hx15=>?_;have L4:=L4.ext hx15;have L5:=L5.ext hx15;have rA:=rA.ext hx15;have rK:=rK.ext hx15;have h15:=h14.ext hx15;have he15:=he14.x hx15;have hw15:=he15.chg.size;refine⟨L5.ld rfl rfl,L5.ld rfl rfl,?_⟩;refine Ro.app PZ rK h15 hrb rfl (λu hu=>by simp only[bR]at hu;subst hu;rfl) (by have:=hg7.few;omega) (by decide) (by omega) λvk' w16 rK' hc16 hv16 h16=>?_;have L5:=L5.row hc16 λe=>by have:=rK.new b5 e;omega
  have L4:=L4.row hc16 λe=>by have:=rK.new b4 e;omega
  have dd':∀k,va.ownBlock=some k->vk'.ownBlock≠some k:=λk hk e=>(hv16 k e).elim (dd k hk) λe=>by have:=(rA.off k hk).1.2;omega
  have rA:=rA.row hc16 dd;have he16:=he15.then hc16 λk hk e=>by have:=rK.new k e;omega
  have hz16:=hc16.size;refine⟨L5.ld rfl rfl,?_⟩;rw[bP,bY,aX];refine hE w16 p M1 vt s4 top N _ h16 hg14 (λx s5 ex M5 w17 h17 he17=>?_) λc a' ex=>ht c a' (by rw[<-hob,ex]);rw[ex]at hob;simp only at hob;obtain⟨hg17,hi17⟩:=hg14.e hF ex;have e17t:=hF.ok N s4 hg14.ws;rw[ex]at e17t;have e17t:=congrArg List.length e17t.1.1.toks;have L4:=L4.eff he17;have L5:=L5.eff he17;have rA:=rA.eff he17;have rK:=rK'.eff he17;have hz17:=he17.chg.size;have he17:=he16.trans he17;refine⟨L5.ld rfl rfl,?_⟩;refine jJ λr2 w18 hr2 hz18 hrb2 hx18=>?_;have L4:=L4.ext hx18;have L5:=L5.ext hx18;have rA:=rA.ext hx18;have rK:=rK.ext hx18;have h18:=h17.ext hx18;have he18:=he17.x hx18;have hw18:=he18.chg.size;refine⟨L5.ld rfl rfl,?_⟩;refine Ro.app Bf rA h18 hrb2 rfl (λu hu=>by simp only[bR]at hu;subst hu;rfl) (by have:=hg7.few;omega) (by decide) (by omega) λva' w19 rA' hc19 hv19 h19=>?_;have L5:=L5.row hc19 λe=>by have:=rA.new b5 e;omega
  have L4:=L4.row hc19 λe=>by have:=rA.new b4 e;omega
  have dd2:∀k,va'.ownBlock=some k->vk'.ownBlock≠some k:=λk hk e=>(hv19 k hk).elim (λh=>dd' k h e) λh=>by have:=(rK.off k e).1.2;omega
  have rK:=rK.row hc19 λk hk e=>dd' k e hk;have he19:=he18.then hc19 λk hk e=>by have:=rA.new k e;omega
  have hz19:=hc19.size;obtain⟨vp,vc,ev,_⟩:=rK.own.sl.shape;refine L5.st (by rw[ev];rfl) (by simp) λw20 L5 hc20 hz20=>?_;have h20:=h19.one hc20 L5.2;have L4:=L4.one hc20 (by omega);have nA5:va'.ownBlock≠some b5:=λe=>by have:=rA'.new b5 e;omega
  have nK5:vk'.ownBlock≠some b5:=λe=>by have:=rK.new b5 e;omega
  have rA:=rA'.one hc20 nA5;have rK:=rK.one hc20 nK5;rw[bP,bY,aX];obtain⟨vp2,vc2,ev2,_⟩:=rA.own.sl.shape;refine L5.st (by rw[ev2];rfl) (by simp) λw21 L5 hc21 hz21=>?_;have h21:=h20.one hc21 L5.2;have L4:=L4.one hc21 (by omega);have rA:=rA.one hc21 nA5;have rK:=rK.one hc21 nK5;have hw5:w.heap.size<=b5:=by omega
  have he21:=(he19.one hc20 hw5).one hc21 hw5;simp only[aW,aZ]at L5;have hg5:=hg17.take [44];have tg5:=iY hg17.ws [44];have tg5t:=congrArg List.length tg5.1.toks;refine bU.cut (λ_ w'=>∃s6,(s6=(bQ s5 [44]).2\/s6=bA (bQ s5 [44]).2)/\Ee E t.a n (fQ s6) (av++[x]) (ks++[k])=R0/\PR w0 w' p f M5 vt s6 top/\Eff p f M5 M5 w21 w') ?_ ?_
  ·refine tL h21 hg17.ws hN hg17.l λw22 h22 he22=>?_;rw[eD];simp only[gX];by_cases hy:(bQ s5 [44]).1=true
   ·rw[hy,jO,yQ];intro g4;rw[rH];simp only[gX,yQ];intro g5;rw[rH,cX];rw[aD (λh=>by rw[hy]at h;exact absurd h.1 (by decide)),aH hy]at hob;exact⟨_,.inl rfl,hob,h22,he22⟩
   ·have hy:(bQ s5 [44]).1=false:=by simpa using hy
    rw[hy,kK];have hyn:(if(bQ s5 [44]).1=true then(bQ s5 [44]).2 else bA (bQ s5 [44]).2)=bA (bQ s5 [44]).2:=aD (by rw[hy];decide);rw[hyn]at hob;refine GdW.act (decide ((cur (bQ s5 [44]).2).k≠5)) (λw'=>PR w0 w' p f M5 vt (bA (bQ s5 [44]).2) top/\Eff p f M5 M5 w21 w') (λe=>by cases e) (λ_ J hJ=>?_) λg4 w23 hR23=>?_
    ·refine mJ h22 hg5.ws hN hg5.l λw23 h23 he23=>?_;refine⟨i64 (cur (bQ s5 [44]).2).k,rfl,?_⟩;dsimp only;rw[fL];exact hJ w23 ⟨h23,he22.trans he23⟩
    simp only[aF,aO,lS];obtain⟨h23,he23⟩:=hR23;have hgn:=hg5.now;by_cases h5:(cur (bQ s5 [44]).2).k≠5
    ·rw[bF h5];simp only[gX];refine GdW.act (!isS (bA (bQ s5 [44]).2) [125]) (λw'=>PR w0 w' p f M5 vt (bA (bQ s5 [44]).2) top/\Eff p f M5 M5 w21 w') (λe=>by cases e) (λ_ J hJ=>?_) λg5 w24 hR24=>?_
     ·refine vK λb w24 hb hz24 hbb hx24=>?_;have h24:=h23.ext hx24;have L:=h23.loc hz24 hb hbb;refine YT h24 hgn.ws hN hgn.l ⟨zT hbb rfl,λk hk=>by simp only[Value.ownBlock,bD]at hk;subst hk;exact L.2⟩ λw25 h25 he25=>?_;rw[eD];rw[gC]at h25;exact hJ w25 ⟨h25,(he23.x hx24).trans he25⟩
     obtain⟨h24,he24⟩:=hR24;simp only[aF,aO,lS];rw[bS];refine⟨λhn'=>?_,λhn'=>?_⟩
     ·have hn':isS (bA (bQ s5 [44]).2) [125]=false:=by simpa using hn'
      refine mJ h24 hgn.ws hN hgn.l λw25 h25 he25=>?_;refine⟨i64 (cur (bA (bQ s5 [44]).2)).a,rfl,?_⟩;refine pD h25 (ht 50 _ ?_);rw[<-hob,aH ⟨hy,h5,hn'⟩]
     ·have hn':isS (bA (bQ s5 [44]).2) [125]=true:=by simpa using hn'
      rw[aD (λh=>by rw[h.2.2]at hn';cases hn')]at hob;exact⟨_,.inr rfl,hob,h24,he24⟩
    ·rw[bZ h5];simp only[gX,yQ];intro g5;rw[rH,cX];rw[aD (λh=>h5 h.2.1)]at hob;exact⟨_,.inr rfl,hob,h23,he23⟩
  rintro _ g4 w22 ⟨s6,es6,hob6,h22,he22⟩;have hg6:Gd N s6 dl/\(bQ s5 [44]).2.i<=s6.i/\s6.toks=(bQ s5 [44]).2.toks:=by
   rcases es6 with rfl|rfl
   ·exact⟨hg5,aU _,rfl⟩
   ·exact⟨hg5.now,HY _,(fN hg5.ws).toks⟩
  obtain⟨hg6,hi6,et6⟩:=hg6;have et6:=congrArg List.length et6;refine xM h22 hg6.ws hN hg6.l λw23 h23 he23=>?_;have lg:=lU hg6.ws;have lgt:=congrArg List.length lg.1.toks;have he223:=he22.trans he23;have hz22:=he223.chg.size;have i1:=tg.1.le;have i2:=ng.1.le;have i3:=tg5.1.le;have i4:=lg.1.le;have hg23:=hg6.lines;have hlt23:=hg23.ws.lt;refine⟨⟨rfl,fQ s6,M5,av++[x],ks++[k],va',vk',n,h23,hg23,he21.trans he223,L5.eff he223,L4.eff he223,?_,?_,dd2,by omega,hob6,by omega,?_,by simp[hks],by omega⟩,?_⟩
  ·rw[bE,aA,aL,Ds];exact rA.eff he223
  ·rw[bE,aA,aL,Oc];exact rK.eff he223
  ·rw[bE,aA,aL];omega
  ·rw[h23.at_,h7.at_];omega
 ·have hyt:(bQ s1 [125]).1=true:=by simpa using hyt
  rw[aH hyt]at hob;refine bX L5.1 rfl ?_;have hE8:ER w0 w8 p f M1 vt B1 ⟨8,[],av,ks,t.a⟩ va vk:=⟨rA,rK,dd⟩;refine JM (e:=⟨8,[],av,ks,t.a⟩) h8 L4 rfl hE8 (λe=>by have:=rA.new b4 e;omega) (λe=>by have:=rK.new b4 e;omega) λw9 h9 hc9 hE9=>?_;exact hK _ _ hob.symm M1 _ _ w9 h9 hg8 (he8.one hc9 (by omega)) (hE9.le (by omega))
end
theorem vX{α:Type}{s:PS}{a:Int}{q:Bool}{f:PS->R α}(hd:s.deep≠24):within s a q f=(f {s with deep:=s.deep+1,quiet:=q}).bind λx s'=>.ok x {s' with deep:=s.deep,quiet:=s.quiet}:=by
 unfold within;rw[aD hd]
theorem sO{α:Type}{s:PS}{a:Int}{q:Bool}{f:PS->R α}(hd:s.deep=24):within s a q f=.err 7 a:=by
 unfold within;rw[aH hd]
theorem gS(s:PS)(w:Str):isS (bA s) w=isS s w:=by unfold isS;rw[kA]
section
variable [HX]
variable{w0 w w' w1:World}{p f b:Nat}{M M' M0:Lay}{vt:Value}{s:PS}{top:List Nat}{N:Int}{K:Q0}{e:Ex}{va vk:Value}{wbn:Nat}{wb:World}{dl:Nat}
theorem Gd.sign{x:Str}(hg:Gd N s (dl+1))(hi:isS s x=true)(q:Bool):
  Gd N {bA s with deep:=(bA s).deep+1,quiet:=q} dl/\bA {bA s with deep:=(bA s).deep+1,quiet:=q}={bA s with deep:=(bA s).deep+1,quiet:=q}/\(cur {bA s with deep:=(bA s).deep+1,quiet:=q}).k≠0/\Gd N (step1 {bA s with deep:=(bA s).deep+1,quiet:=q}) dl:=by
 have h1:=hg.now.frame q;obtain⟨a,b,c⟩:=nQ hg.ws hi ((bA s).deep+1) q;have h2:=h1.step b;rw[a]at h2;exact⟨h1,a,b,h2⟩
theorem Ai{x:Str}{KK:Q0}(h:PR w0 w p f M vt s top)(hg:Gd N s dl)(hK:∀w',PR w0 w' p f M vt (bA s) top->Eff p f M M w w'->KK (.bool (isS s x)) w'):
  dN StT 1 [(.string (ofL []))] [(0,1,str x)] w λt60 w17=>aC P0 49 [.pointer (some ⟨p,0,none⟩),t60] w17 KK:=by
 refine vK λb w1 hb hz1 hbb hx1=>?_;have L1:=h.loc hz1 hb hbb;refine YT (h.ext hx1) hg.ws hg.hN hg.l ⟨zT hbb rfl,λk hk=>by simp only[Value.ownBlock,bD]at hk;subst hk;exact L1.2⟩ λw2 h2 he2=>hK w2 h2 ((Eff.ext hx1).trans he2)
theorem Zo{E:PS->R Nat}(hS:xA w0 f)(hE:∀d,dl=d+1->EC w0 f 82 E d)(hF:pZ E):EC w0 f 236 (Ay E) dl:=by
 intro w p M vt s top N K h hg hK ht;refine UY ?_;unfold aBR;have hN:=hg.hN;have hat:=hg.at0;refine rY rfl λb1 w1 hb1 hz1 hbb1 hx1=>?_;have h1:=h.ext hx1;have L1:=h.loc hz1 hb1 hbb1;refine L1.ld rfl ?_;refine mJ h1 hg.ws hN hg.l λw2 h2 he2=>?_;have L1:=L1.eff he2;have he2:=(Eff.ext hx1).trans he2;have lt1:=L1.lt;refine bG λb3 w3 hb3 hz3 hbb3 hx3=>?_;have h3:=h2.ext hx3;have L3:=h2.loc hz3 hb3 hbb3;have L1:=L1.ext hx3;refine cG (l:=eS (cur s)) L3.1 rfl rfl rfl λw4 hz4 hbb4 hc4=>?_;have L3:Loc w0 w4 p f M vt b3 TkT (eS (cur s)):=⟨hbb4,L3.2.up (by omega)⟩;have h4:=h3.one hc4 L3.2;have L1:=L1.one hc4 (by omega);have hw2:=he2.chg.size;have he4:=(he2.x hx3).one hc4 (by omega);refine L3.ldf rfl ?_;simp only[dA,dZ,cU,aA,aL,aW,aZ,Nat.reduceAdd,Nat.reduceLT,dH,aB];have lt3:=L3.lt;refine bG λb4 w5 hb4 hz5 hbb5 hx5=>?_;have h5:=h4.ext hx5;have L4:=h4.loc hz5 hb4 hbb5;have L1:=L1.ext hx5;have L3:=L3.ext hx5;refine cG (l:=[i64 0,str [],.slice none 0 0,.slice none 0 0,i64 (cur s).a]) L4.1 rfl rfl rfl λw6 hz6 hbb6 hc6=>?_;have L4:Loc w0 w6 p f M vt b4 ExT [i64 0,str [],.slice none 0 0,.slice none 0 0,i64 (cur s).a]:=⟨hbb6,L4.2.up (by omega)⟩;have h6:=h5.one hc6 L4.2;have L1:=L1.one hc6 (by omega);have L3:=L3.one hc6 (by omega);have he6:=(he4.x hx5).one hc6 (by omega);have hw6:=he6.chg.size;have hgn:=hg.now;have hi1:=wsi hgn.ws hgn.l;have hb14:b1≠b4:=by omega
 have hb34:b3≠b4:=by omega
 have hwb4:w.heap.size<=b4:=by omega
 have hlev:=hgn.lev;have hd24:(bA s).deep<=24:=by omega
 refine bU.cut (λ_ w'=>∃M1 s1 e va vk,PR w0 w' p f M1 vt s1 top/\Gd N s1 dl/\Eff p f M M1 w w'/\Loc w0 w' p f M1 vt b1 PpT [.pointer (some ⟨p,0,none⟩)]/\Loc w0 w' p f M1 vt b4 ExT (exc e va vk)/\ER w0 w' p f M1 vt w.heap.size e va vk/\Ay E s=pS s1 e) ?_ ?_
 ·unfold Ay at hK ht⊢;simp only at hK ht⊢;refine L3.ldf rfl ?_;rw[bL,aM];refine⟨λhk=>?_,λhk=>?_⟩
  ·
   have hk0:(cur s).k≠0:=by rw[hk];decide
   refine L1.ld rfl ?_;refine h6.go hi1 λw7 h7 he7 hz7=>?_;have L1:=L1.eff he7;have L3:=(L3.eff he7).drew;have L4:=(L4.eff he7).drew;have h7:=h7.drew;have he7:=(he6.trans he7).x (cY w7);rw[bP,bY,aX];refine L3.ld rfl ?_;rw[bP,bY,aX];refine L4.st rfl (by simp) λw8 L4 hc8 hz8=>?_;have L3:=L3.one hc8 hb34;refine⟨L3.ld rfl rfl,?_⟩;rw[bP,bY,aX];refine L4.st rfl (by simp) λw9 L4 hc9 hz9=>?_;have h9:=(h7.one hc8 L4.2).one hc9 L4.2;refine⟨M,_,⟨4,(cur s).t,[],[],(cur s).a⟩,.slice none 0 0,.slice none 0 0,h9,hg.step hk0,(he7.one hc8 hwb4).one hc9 hwb4,(L1.drew.one hc8 hb14).one hc9 hb14,L4,ER.leaf rfl rfl,by rw[aH hk]⟩
  rw[aD hk]at hK ht⊢;refine L3.ldf rfl ?_;rw[bL,aM];refine⟨λhk3=>?_,λhk3=>?_⟩
  ·
   rw[aH hk3]at hK ht;have hk0:(cur s).k≠0:=by rw[hk3];decide
   refine L1.ld rfl ?_;refine h6.go hi1 λw7 h7 he7 hz7=>?_;have L1:=L1.eff he7;have L3:=L3.eff he7;have he7:=he6.trans he7;refine L1.ld rfl ?_;refine bX L3.1 rfl ?_;have htx:=hg.tx hk3;have hcp:=jM hg.ws;have hph:=(oG hk0).1;have hwt:wt {cur s with k:=3}=wt (lH (bA s)):=by
    have e3:(lH (bA s)).k=3:=hk3;unfold wt;simp only[e3];rfl
   refine Xn hS hE hF h7 (hg.step hk0) htx.1 htx.2 ⟨hcp.1,hcp.2.1⟩ (hcp.2.2.2.1 hk3) (by rw[hwt];have:=hg.phi;omega) (λx s' ex M' w8 h8 he8=>?_) λc a' ex=>ht c a' ex;exact hK x s' ex M' w8 h8 (he7.trans he8)
  rw[aD hk3]at hK ht⊢;refine L3.ldf rfl ?_;rw[bL];simp only[gX];refine GdW.look (decide ((cur s).t≠Ip)) (λ_ J hJ=>?_) λg=>?_
  ·refine L3.ldf rfl ?_;rw[tH];exact hJ
  simp only[aF];rw[eU,bS];refine⟨λhcc=>?_,λhcc=>?_⟩
  ·
   have hc:(cur s).k=1/\(cur s).t≠Ip:=by simpa using hcc
   rw[aH hc]at hK ht⊢;have hk0:(cur s).k≠0:=by rw[hc.1];decide
   have hgs:=hg.step hk0;refine L1.ld rfl ?_;refine h6.go hi1 λw7 h7 he7 hz7=>?_;have L1:=L1.eff he7;have L3:=L3.eff he7;have L4:=L4.eff he7;have he7:=he6.trans he7;refine L1.ld rfl ?_;refine Ai h7 hgs λw8 h8 he8=>?_;have L1:=L1.eff he8;have L3:=L3.eff he8;have L4:=L4.eff he8;have he8:=he7.trans he8;rw[eD,bS];refine⟨λhn=>?_,λhy=>?_⟩
   ·have hn:isS (step1 (bA s)) [40]=false:=by simpa using hn
    rw[aD (by rw[hn];decide)];refine L3.ldf rfl ?_;refine TD ?_;rw[bP,bY,aX];refine L4.st rfl (by simp) λw9 L4 hc9 hz9=>?_;have h9:=h8.one hc9 L4.2;have L1:=L1.one hc9 hb14;have L3:=L3.one hc9 hb34;have he9:=he8.one hc9 hwb4;refine L4.ldf rfl ?_;rw[bL,aM];refine⟨λh9k=>?_,λh9k=>?_⟩
    ·refine L3.ldf rfl ?_;rw[bP,bY,aX];refine L4.st rfl (by simp) λw10 L4 hc10 hz10=>?_;refine⟨M,_,⟨wL (cur s).t,(cur s).t,[],[],(cur s).a⟩,.slice none 0 0,.slice none 0 0,h9.one hc10 L4.2,hgs.now,he9.one hc10 hwb4,L1.one hc10 hb14,L4,ER.leaf rfl rfl,by rw[aH h9k]⟩
    ·refine⟨M,_,⟨wL (cur s).t,[],[],[],(cur s).a⟩,.slice none 0 0,.slice none 0 0,h9,hgs.now,he9,L1,L4,ER.leaf rfl rfl,by rw[aD h9k]⟩
   ·have hy:isS (step1 (bA s)) [40]=true:=by simpa using hy
    rw[aH hy]at hK ht⊢;have L1:=L1.drew;have L3:=L3.drew;have L4:=L4.drew;have h8:=h8.drew;have he8:=he8.x (cY w8);rw[bP,bY,aX];refine L3.ld rfl ?_;rw[bP,bY,aX];refine L4.st rfl (by simp) λw9 L4 hc9 hz9=>?_;have h9:=h8.one hc9 L4.2;have L1:=L1.one hc9 hb14;have L3:=L3.one hc9 hb34;have he9:=he8.one hc9 hwb4;refine⟨L3.ld rfl rfl,?_⟩;rw[bP,bY,aX];refine L4.st rfl (by simp) λw10 L4 hc10 hz10=>?_;have h10:=(h9.one hc10 L4.2).drew;have L1:=(L1.one hc10 hb14).drew;have L4:=L4.drew;have he10:=(he9.one hc10 hwb4).x (cY w10);simp only[aW,aZ]at L4;refine L1.ld rfl ?_;refine L1.ld rfl ?_;have hgq:=hgs.now;refine mJ h10 hgq.ws hN hgq.l λw11 h11 he11=>?_;rw[gC]at h11;rw[kA];have L1:=L1.eff he11;have L4:=L4.eff he11;have he11:=he10.trans he11;refine⟨L1.ld rfl rfl,i64 (cur (step1 (bA s))).a,rfl,?_⟩;have hql:=hgq.lev;refine nZ h11 (by omega) (λhd=>ht 7 _ (by rw[sO hd];rfl)) λhd w12 h12 he12=>?_;obtain⟨d,rfl⟩:∃d,dl=d+1:=⟨dl-1,by omega⟩;rw[vX hd]at ht⊢;obtain⟨q1,q2,q3,q4⟩:=hgs.sign hy true;have L1:=L1.eff he12;have L4:=L4.eff he12;have he12:=he11.trans he12;refine jI (caps:=[.pointer (some ⟨b1,0,none⟩),.pointer (some ⟨b4,0,none⟩)]) ?_;refine UP ?_;unfold aBK;refine L1.ld rfl ?_;refine h12.go (wsi q1.ws q1.l) λw13 h13 he13 hz13=>?_;have L1:=L1.eff he13;have L4:=L4.eff he13;have he13:=he12.trans he13;refine L1.ld rfl ?_;have lt4':=L4.lt;refine Qw (hE d rfl) hF h13 q4 (λl s' el M' v w14 h14 hg14 he14 hr14=>?_) λc a' el=>ht c a' (by rw[el];rfl);have L1:=L1.eff he14;have L4:=L4.eff he14;have hw13:=he13.chg.size;obtain⟨vp,vc,ev,_⟩:=hr14.own.sl.shape;have nv4:v.ownBlock≠some b4:=λe=>by have:=hr14.new b4 e;omega
    rw[bP,bY,aX];refine L4.st (by rw[ev];rfl) (by simp) λw15 L4 hc15 hz15=>?_;have h15:=h14.one hc15 L4.2;have L1:=L1.one hc15 hb14;have hr15:=hr14.one hc15 nv4;have he15:=(he13.trans he14).one hc15 hwb4;have hg14l:=hg14.lev;refine⟨M',s',h15,by omega,λw16 h16 he16=>?_⟩;refine⟨M',_,⟨12,(cur s).t,l,[],(cur s).a⟩,v,.slice none 0 0,h16,hgs.now.back hg14,he15.trans he16,L1.eff he16,L4.eff he16,(ER.noK rfl (hr15.le (by omega))).eff he16,by rw[el];rfl⟩
  ·
   have hc:¬((cur s).k=1/\(cur s).t≠Ip):=by simpa using hcc
   rw[aD hc]at hK ht⊢;simp only[gS]at hK ht⊢;have ret5:∀{w7 w8:World} {M':Lay} {s':PS} {e:Ex} {va vk:Value},PR w0 w7 p f M' vt s' top->Loc w0 w7 p f M' vt b1 PpT [.pointer (some ⟨p,0,none⟩)]->Loc w0 w7 p f M' vt b4 ExT [i64 0,str [],.slice none 0 0,.slice none 0 0,i64 (cur s).a]->ER w0 w7 p f M' vt w8.heap.size e va vk->b4<w8.heap.size->w.heap.size<=w8.heap.size->∀{KW:World->Prop},
     (∀w9,PR w0 w9 p f M' vt s' top->Chg (One b4) w7 w9->Loc w0 w9 p f M' vt b1 PpT [.pointer (some ⟨p,0,none⟩)]->Loc w0 w9 p f M' vt b4 ExT (exc e va vk)->ER w0 w9 p f M' vt w.heap.size e va vk->KW w9)->stW 5 (.pointer (some ⟨b4,0,none⟩)) (.agg (exc e va vk).toArray) w7 KW:=λ{w7 w8 M' s' e va vk} h7 L1 L4 hE7 hb hw {KW} hKW=>by
    refine cG (l:=exc e va vk) L4.1 rfl rfl (LN hE7) λw9 hz9 hb9 hc9=>?_;exact hKW w9 (h7.one hc9 L4.2) hc9 (L1.one hc9 hb14) ⟨hb9,L4.2.up (by omega)⟩ ((hE7.one hc9 (λe=>by have:=hE7.rA.new b4 e;omega) (λe=>by have:=hE7.rK.new b4 e;omega)).le hw)
   refine L1.ld rfl ?_;refine Ai h6 hgn λw7 h7 he7=>?_;rw[gC]at h7;have L1:=L1.eff he7;have L3:=L3.eff he7;have L4:=L4.eff he7;have he7:=he6.trans he7;rw[gS,bS];refine⟨λhi=>?_,λhi=>?_⟩
   ·rw[aH hi]at hK ht;have lt1:=L1.lt;have hw7:=he7.chg.size;refine bG λb5 w8 hb5 hz8 hbb8 hx8=>?_;have h8:=h7.ext hx8;have L5:=h7.loc hz8 hb5 hbb8;refine L5.st rfl (by simp) λw9 L5 hc9 hz9=>?_;have h9:=h8.one hc9 L5.2;have L1:=(L1.ext hx8).one hc9 (by omega);have L3:=(L3.ext hx8).one hc9 (by have:=L3.lt;omega);have he9:=(he7.x hx8).one hc9 (by omega);refine L1.ld rfl ?_;refine L3.ldf rfl ?_;refine nZ h9 hd24 (λhd=>ht 7 _ (by rw[sO hd])) λhd w10 h10 he10=>?_;obtain⟨d,rfl⟩:∃d,dl=d+1:=⟨dl-1,by omega⟩;rw[vX hd]at ht hK;obtain⟨q1,q2,q3,q4⟩:=hg.sign hi true;have L1:=L1.eff he10;have L5:=L5.eff he10;have he10:=he9.trans he10;refine jI (caps:=[.pointer (some ⟨b1,0,none⟩),.pointer (some ⟨b5,0,none⟩)]) ?_;refine UN ?_;unfold aBI;refine L1.ld rfl ?_;refine h10.go (wsi q1.ws q1.l) λw11 h11 he11 hz11=>?_;have L1:=L1.eff he11;have L5:=L5.eff he11;have he11:=he10.trans he11;refine L1.ld rfl ?_;refine hE d rfl w11 p M vt _ top N _ h11 q4 (λx s' ex M' w12 h12 he12=>?_) λc a' ex=>ht c a' (by rw[ex];rfl);obtain⟨g12,_⟩:=q4.e hF ex;rw[ex]at hK ht;simp only[R.bind]at hK ht;have L1:=L1.eff he12;have L5:=L5.eff he12;have he12:=he11.trans he12;refine L5.st rfl (by simp) λw13 L5 hc13 hz13=>?_;have h13:=h12.one hc13 L5.2;have L1:=L1.one hc13 (by omega);have he13:=he12.one hc13 (by omega);refine L1.ld rfl ?_;refine vY h13 g12.ws hN g12.l (λs3 e3 w14 h14 he14=>?_) λc a' e3=>ht c a' (by rw[e3]);rw[e3]at hK;simp only at hK;obtain⟨g14,_⟩:=g12.want e3;have g14l:=g14.lev;refine⟨M',s3,h14,by omega,λw15 h15 he15=>?_⟩;refine((L5.eff he14).eff he15).ld rfl ?_;exact hK x _ rfl M' w15 h15 ((he13.trans he14).trans he15)
   rw[aD (by rw[hi];decide)]at hK ht⊢;refine L1.ld rfl ?_;refine Ai h7 hgn λw8 h8 he8=>?_;rw[gC]at h8;have L1:=L1.eff he8;have L3:=L3.eff he8;have L4:=L4.eff he8;have he8:=he7.trans he8;rw[gS,bS];refine⟨λhi=>?_,λhi=>?_⟩
   ·rw[aH hi]at hK ht⊢;refine L1.ld rfl ?_;refine L3.ldf rfl ?_;refine nZ h8 hd24 (λhd=>ht 7 _ (by rw[sO hd];rfl)) λhd w10 h10 he10=>?_;obtain⟨d,rfl⟩:∃d,dl=d+1:=⟨dl-1,by omega⟩;rw[vX hd]at ht⊢;obtain⟨q1,q2,q3,q4⟩:=hg.sign hi true;have L1:=L1.eff he10;have L3:=L3.eff he10;have L4:=L4.eff he10;have he10:=he8.trans he10;refine jI (caps:=[.pointer (some ⟨b1,0,none⟩),.pointer (some ⟨b3,0,none⟩),.pointer (some ⟨b4,0,none⟩)]) ?_;refine UM ?_;unfold aBH;refine L1.ld rfl ?_;refine bX L3.1 rfl ?_;have lt4':=L4.lt;refine YQ (hE d rfl) hF h10 q1 q3 q2 (λe s' el M' va vk w12 h12 g12 he12 hE12=>?_) λc a' el=>ht c a' (by rw[el];rfl);refine ret5 h12 (L1.eff he12) (L4.eff he12) hE12 lt4' he10.chg.size λw13 h13 hc13 L1 L4 hE13=>?_;have g12l:=g12.lev;refine⟨M',s',h13,by omega,λw14 h14 he14=>?_⟩;exact⟨M',_,e,va,vk,h14,hgn.back g12,((he10.trans he12).one hc13 hwb4).trans he14,L1.eff he14,L4.eff he14,hE13.eff he14,by rw[el];rfl⟩
   rw[aD (by rw[hi];decide)]at hK ht⊢;refine L1.ld rfl ?_;refine Ai h8 hgn λw9 h9 he9=>?_;rw[gC]at h9;have L1:=L1.eff he9;have L3:=L3.eff he9;have L4:=L4.eff he9;have he9:=he8.trans he9;rw[gS,bS];refine⟨λhi=>?_,λhi=>?_⟩
   ·rw[aH hi]at hK ht⊢;refine L1.ld rfl ?_;refine L3.ldf rfl ?_;refine nZ h9 hd24 (λhd=>ht 7 _ (by rw[sO hd];rfl)) λhd w10 h10 he10=>?_;obtain⟨d,rfl⟩:∃d,dl=d+1:=⟨dl-1,by omega⟩;rw[vX hd]at ht⊢;obtain⟨q1,q2,q3,q4⟩:=hg.sign hi false;have L1:=L1.eff he10;have L3:=L3.eff he10;have L4:=L4.eff he10;have he10:=he9.trans he10;refine jI (caps:=[.pointer (some ⟨b1,0,none⟩),.pointer (some ⟨b3,0,none⟩),.pointer (some ⟨b4,0,none⟩)]) ?_;refine UK ?_;unfold aBF;refine L1.ld rfl ?_;refine bX L3.1 rfl ?_;have lt4':=L4.lt;refine OU (hE d rfl) hF h10 q1 q3 q2 (λe s' el M' va vk w12 h12 g12 he12 hE12=>?_) λc a' el=>ht c a' (by rw[el];rfl);refine ret5 h12 (L1.eff he12) (L4.eff he12) hE12 lt4' he10.chg.size λw13 h13 hc13 L1 L4 hE13=>?_;have g12l:=g12.lev;refine⟨M',s',h13,by omega,λw14 h14 he14=>?_⟩;exact⟨M',_,e,va,vk,h14,hgn.back g12,((he10.trans he12).one hc13 hwb4).trans he14,L1.eff he14,L4.eff he14,hE13.eff he14,by rw[el];rfl⟩
   ·rw[aD (by rw[hi];decide)]at ht;refine L3.ldf rfl ?_;exact pD h9 (ht _ _ rfl)
 ·rintro _ g w7 ⟨M1,s1,e,va,vk,h7,hg7,he7,L1,L4,hE7,ea⟩;rw[ea]at hK;refine L1.ld rfl ?_;refine bX L4.1 rfl ?_;refine HK h7 he7 hE7 hg7 λM' w8 h8 he8 _=>?_;exact hK _ _ rfl M' w8 h8 he8
end
section
variable [HX]
variable{w0 w w' w1:World}{p f b:Nat}{M M' M0:Lay}{vt:Value}{s:PS}{top:List Nat}{N:Int}{K:Q0}{e:Ex}{va vk:Value}{wbn:Nat}{wb:World}{dl:Nat}
theorem PR.row_new{l:List Nat}(h:PR w0 w p f M vt s top){r:Nat}(hr:r=w.heap.size)(hz:w'.heap.size=w.heap.size+1)(hb:w'.heap[r]?=some (.cells (ints l).toArray iG (0,0)))(hl:l.length<=1000000):
  Ro w0 w' p f M vt w.heap.size iG 1 (.slice (some ⟨r,0,none⟩) l.length l.length) l.length (ints l):=
 ⟨OQ hb (by have:=h.base;omega) (Px l) hl,λk hk=>by simp only[Value.ownBlock,bD]at hk;subst hk;exact h.off_new (by omega) (by omega),λk hk=>by simp only[Value.ownBlock,bD]at hk;omega⟩
theorem Xz{E:PS->R Nat}(hS:xA w0 f)(hE:∀d,dl=d+1->EC w0 f 82 E d)(hF:pZ E):EC w0 f 205 (CX E) dl:=by
 intro w p M vt s top N K h hg hK ht;refine Vl ?_;unfold aB0;have hN:=hg.hN;refine rY rfl λb1 w1 hb1 hz1 hbb1 hx1=>?_;have h1:=h.ext hx1;have L1:=h.loc hz1 hb1 hbb1;refine L1.ld rfl ?_;unfold CX at hK ht;refine Zo hS hE hF w1 p M vt s top N _ h1 hg (λx s1 ex M1 w2 h2 he2=>?_) λc a' ex=>ht c a' (by rw[ex];rfl);rw[ex]at hK ht;simp only[R.bind]at hK ht;have hA:pZ (Ay E):=⟨λN=>Jj (hF.ok N),HP hF.z⟩;obtain⟨hg1,hi1⟩:=hg.e hA ex;have etl:=(hA.ok N) s hg.ws;rw[ex]at etl;have etl:=congrArg List.length etl.1.1.toks;have L1:=L1.eff he2;have he2:=(Eff.ext hx1).trans he2;generalize hR:qC E (s.toks.length+1) s1 x=R0 at hK ht;refine cZ.go (λst w'=>∃s1 M1 x n,st=[i64 ((x:Nat):Int)]/\PR w0 w' p f M1 vt s1 top/\Gd N s1 dl/\Eff p f M M1 w w'/\Loc w0 w' p f M1 vt b1 PpT [.pointer (some ⟨p,0,none⟩)]/\qC E n s1 x=R0/\s1.toks.length<n+s1.i/\s1.toks.length=s.toks.length) (λ_ w'=>s.toks.length-yX w' p)
  ⟨s1,M1,x,s.toks.length+1,rfl,h2,hg1,he2,L1,hR,by have:=hg1.ws.lt;omega,etl⟩ ?_
 clear he2 L1 h2 ex hg1 hi1 etl hR;rintro st g w2 ⟨s2,M2,y,n,rfl,h2,hg2,he2,L1,hpf,hn,htl⟩;simp only[aF];have hlt2:=hg2.ws.lt;have hat:=hg2.at0;obtain⟨n,rfl⟩:∃m,n=m+1:=⟨n-1,by omega⟩;simp only[qC]at hpf;refine L1.ld rfl ?_;refine mJ h2 hg2.ws hN hg2.l λw3 h3 he3=>?_;have L1:=L1.eff he3;have he3:=he2.trans he3;have hgn:=hg2.now;have lt1:=L1.lt;have hw3:=he3.chg.size;refine bG λb4 w4 hb4 hz4 hbb4 hx4=>?_;have h4:=h3.ext hx4;have L4:=h3.loc hz4 hb4 hbb4;have L1:=L1.ext hx4;refine cG (l:=eS (cur s2)) L4.1 rfl rfl rfl λw5 hz5 hbb5 hc5=>?_;have L4:Loc w0 w5 p f M2 vt b4 TkT (eS (cur s2)):=⟨hbb5,L4.2.up (by omega)⟩;have h5:=h4.one hc5 L4.2;have L1:=L1.one hc5 (by omega);have he5:=(he3.x hx4).one hc5 (by omega);have hwb1:b1=w.heap.size:=hb1;have fin:∀{w6:World} {M6:Lay} {s6:PS} {e:Ex} {va:Value},PR w0 w6 p f M6 vt s6 top->Gd N s6 dl->Eff p f M M6 w w6->Loc w0 w6 p f M6 vt b1 PpT [.pointer (some ⟨p,0,none⟩)]->Ro w0 w6 p f M6 vt w1.heap.size iG 1 va e.args.length (ints e.args)->e.keys=[]->s2.i<s6.i->Syn.phi s6+1<=Syn.phi s2->s6.toks.length=s.toks.length->((pS s6 e).bind λy s3=>qC E n s3 y)=R0->
   aC P0 117 [.pointer (some ⟨p,0,none⟩),.agg (exc e va (.slice none 0 0)).toArray] w6 λt24 w12=>(∃s1 M1 x n,[t24]=[i64 ((x:Nat):Int)]/\PR w0 w12 p f M1 vt s1 top/\Gd N s1 dl/\Eff p f M M1 w w12/\Loc w0 w12 p f M1 vt b1 PpT [.pointer (some ⟨p,0,none⟩)]/\qC E n s1 x=R0/\s1.toks.length<n+s1.i/\s1.toks.length=s.toks.length)/\s.toks.length-yX w12 p<s.toks.length-yX w2 p:=λ{w6 M6 s6 e va} h6 hg6 he6 L1 hr hk hi hph htl6 hp6=>by
  refine HK h6 he6 (ER.noK hk (hr.le (by omega))) hg6 λM' w7 h7 he7 hl7=>?_;have hlt6:=hg6.ws.lt;refine⟨⟨_,M',_,n,rfl,h7,?_,he7,hl7 _ _ _ L1 (λe=>by have:=hr.new b1 e;omega) (by simp[Value.ownBlock]),hp6,by show s6.toks.length<n+s6.i;omega,htl6⟩,?_⟩
  ·exact hg6.put (by have:=hg2.phi;omega)
  ·rw[h7.at_,h2.at_];show s.toks.length-s6.i<_;omega
 have hn1:=fN hg2.ws;have hn1t:=congrArg List.length hn1.toks;refine L1.ld rfl ?_;refine tL h5 hgn.ws hN hgn.l λw6 h6 he6=>?_;have L1:=L1.eff he6;have L4:=L4.eff he6;have he6:=he5.trans he6;have tg:=iY hgn.ws [46];have tgt:=congrArg List.length tg.1.toks;have hg6:=hgn.take [46];have tp:=kE (bA s2) [46];have np:=jL s2;rw[bS];refine⟨λhy=>?_,λhn'=>?_⟩
 ·
  rw[aH hy]at hpf;have tp:=tp.2 hy;have ti:=tg.2.1 hy;have L1:=L1.drew;have L4:=L4.drew;have h6:=h6.drew;have he6:=he6.x (cY w6);have ld1:∀{w':World} {M':Lay},Loc w0 w' p f M' vt b1 PpT [.pointer (some ⟨p,0,none⟩)]->ldW false 1 (.pointer (some ⟨b1,0,none⟩)) w' λx=>x=.pointer (some ⟨p,0,none⟩):=λL=>L.ld rfl rfl;have ld4:∀{w':World} {M':Lay},Loc w0 w' p f M' vt b4 TkT (eS (cur s2))->ldW false 1 (.pointer (some ⟨b4,2,none⟩)) w' λx=>x=i64 (cur s2).a:=λL=>L.ld rfl rfl;refine L1.ld rfl ?_;refine L1.ld rfl ?_;rw[bP,bY,aX];refine L4.ld rfl ?_;have hw6:=he6.chg.size;have hz1':w1.heap.size<=w6.drew.heap.size:=by have:=he6.chg.size;have:=L1.lt;omega
  have kd:∀{w':World} {KK:Q0},PR w0 w' p f M2 vt (bQ (bA s2) [46]).2 top->(∀u s7,kZ (bQ (bA s2) [46]).2 1=.ok u s7->∀w'',PR w0 w'' p f M2 vt s7 top->Eff p f M2 M2 w' w''->KK (.agg (eS u).toArray) w'')->aC P0 46 [.pointer (some ⟨p,0,none⟩),.int .i64 1] w' KK:=λ{w' KK} h hKK=>
   wN h hg6.ws hN hg6.l hKK λc a' eu=>ht c a' (by rw[<-hpf,eu];rfl)
  have done:∀{u:Tok} {s7:PS},kZ (bQ (bA s2) [46]).2 1=.ok u s7->Gd N s7 dl/\s2.i<s7.i/\Syn.phi s7+1<=Syn.phi s2/\s7.toks.length=s.toks.length/\((pS s7 ⟨10,u.t,[y],[],(cur s2).a⟩).bind λy s3=>qC E n s3 y)=R0:=λ{u s7} eu=>by
   have hk:=hg6.kind (by decide) eu;have hks:=kY hg6.ws 1 (by decide);have hkp:=mU (bQ (bA s2) [46]).2 1;rw[eu]at hks hkp hpf;have hkt:=congrArg List.length hks.1.1.toks;have hkp:=hkp.1;have h1:=hn1.le;exact⟨hk.1,by have:=hk.2.1;omega,by omega,by omega,hpf⟩
  refine⟨?_,?_,?_,?_,?_,?_⟩
  ·refine kd h6 λu s7 eu w7 h7 he7=>?_;have L1:=L1.eff he7;have L4:=L4.eff he7;have he7':=he6.trans he7;refine⟨ld4 L4,ld1 L1,str u.t,rfl,ld4 L4,ld1 L1,?_⟩;refine jJ λr w8 hr hz8 hrb hx8=>?_;refine⟨ld4 (L4.ext hx8),ld1 (L1.ext hx8),?_⟩;simp only[dA,dZ,gB,cU,aA,aL,aW,aZ,Nat.reduceAdd,Nat.reduceLT,dH,aB];obtain⟨d1,d2,d3,d4,d5⟩:=done eu;exact fin (e:=⟨10,u.t,[y],[],(cur s2).a⟩) (h7.ext hx8) d1 (he7'.x hx8) (L1.ext hx8) ((h7.row_new (l:=[y]) hr hz8 hrb (by simp)).le (by have:=he7.chg.size;omega)) rfl d2 d3 d4 d5
  ·exact ld4 L4
  ·exact ld1 L1
  ·exact ld1 L1
  ·refine kd h6 λu s7 eu w7 h7 he7=>?_;have L1:=L1.eff he7;have L4:=L4.eff he7;have he7':=he6.trans he7;refine⟨ld4 L4,ld1 L1,str u.t,rfl,?_⟩;refine jJ λr w8 hr hz8 hrb hx8=>?_;refine⟨ld4 (L4.ext hx8),ld1 (L1.ext hx8),?_⟩;simp only[dA,dZ,gB,cU,aA,aL,aW,aZ,Nat.reduceAdd,Nat.reduceLT,dH,aB];obtain⟨d1,d2,d3,d4,d5⟩:=done eu;exact fin (e:=⟨10,u.t,[y],[],(cur s2).a⟩) (h7.ext hx8) d1 (he7'.x hx8) (L1.ext hx8) ((h7.row_new (l:=[y]) hr hz8 hrb (by simp)).le (by have:=he7.chg.size;omega)) rfl d2 d3 d4 d5
  ·refine jJ λr w8 hr hz8 hrb hx8=>?_;have L1:=L1.ext hx8;have L4:=L4.ext hx8;have rw8:=h6.row_new (l:=[y]) hr hz8 hrb (by simp);refine⟨ld4 L4,ld1 L1,ld1 L1,?_⟩;refine kd (h6.ext hx8) λu s7 eu w7 h7 he7=>?_;have L1:=L1.eff he7;have L4:=L4.eff he7;refine⟨ld4 L4,ld1 L1,str u.t,rfl,?_⟩;simp only[dA,dZ,gB,cU,aA,aL,aW,aZ,Nat.reduceAdd,Nat.reduceLT,dH,aB];obtain⟨d1,d2,d3,d4,d5⟩:=done eu;exact fin (e:=⟨10,u.t,[y],[],(cur s2).a⟩) h7 d1 ((he6.x hx8).trans he7) L1 ((rw8.eff he7).le (by omega)) rfl d2 d3 d4 d5
 ·have hn':(bQ (bA s2) [46]).1=false:=by simpa using hn'
  rw[aD (by rw[hn'];decide)]at hpf;have e6:(bQ (bA s2) [46]).2=bA s2:=by
   unfold bQ at hn'⊢;split
   ·rename_i hi;rw[aH hi]at hn';cases hn'
   ·exact gC s2
  rw[e6]at h6;refine L1.ld rfl ?_;refine Ai h6 hgn λw7 h7 he7=>?_;rw[gC]at h7;have L1:=L1.eff he7;have L4:=L4.eff he7;have he7:=he6.trans he7;simp only[gS]at hpf⊢;rw[bS];refine⟨λhi=>?_,λhi=>?_⟩
  ·rw[aH hi]at hpf;have hw7:=he7.chg.size;have lt1:=L1.lt;have lt4:=L4.lt;refine bG λb5 w8 hb5 hz8 hbb8 hx8=>?_;have h8:=h7.ext hx8;have L5:=h7.loc hz8 hb5 hbb8;have L1:=L1.ext hx8;have L4:=L4.ext hx8;refine bG λb6 w9 hb6 hz9 hbb9 hx9=>?_;have h9:=h8.ext hx9;have L6:=h8.loc hz9 hb6 hbb9;have L1:=L1.ext hx9;have L4:=L4.ext hx9;have L5:=L5.ext hx9;refine L5.st rfl (by simp) λw10 L5 hc10 hz10=>?_;have h10:=h9.one hc10 L5.2;have L1:=L1.one hc10 (by omega);have L4:=L4.one hc10 (by omega);have L6:=L6.one hc10 (by omega);refine L6.st rfl (by simp) λw11 L6 hc11 hz11=>?_;have h11:=h10.one hc11 L6.2;have L1:=L1.one hc11 (by omega);have L4:=L4.one hc11 (by omega);have L5:=L5.one hc11 (by omega);have he11:=(((he7.x hx8).x hx9).one hc10 (by omega)).one hc11 (by omega);refine L1.ld rfl ?_;refine L4.ldf rfl ?_;have hlev:=hgn.lev;refine nZ h11 (by omega) (λhd=>ht 7 _ (by rw[<-hpf,sO hd];rfl)) λhd w12 h12 he12=>?_;obtain⟨d,rfl⟩:∃d,dl=d+1:=⟨dl-1,by omega⟩;rw[vX hd]at hpf;obtain⟨q1,q2,q3,q4⟩:=hg2.sign hi true;have L1:=L1.eff he12;have L4:=L4.eff he12;have L5:=L5.eff he12;have L6:=L6.eff he12;have he12:=he11.trans he12;refine jI (caps:=[.pointer (some ⟨b1,0,none⟩),.pointer (some ⟨b6,0,none⟩),.pointer (some ⟨b5,0,none⟩)]) ?_;refine UX ?_;unfold aBQ;refine L1.ld rfl ?_;refine h12.go (wsi q1.ws q1.l) λw13 h13 he13 hz13=>?_;have L1:=L1.eff he13;have L4:=L4.eff he13;have L5:=L5.eff he13;have L6:=L6.eff he13;have he13:=he12.trans he13;generalize hq0:({bA s2 with deep:=(bA s2).deep+1,quiet:=true}:PS)=q0 at*
   have hq0':∀x:PS,x=(⟨(bA s2).toks,(bA s2).i,(bA s2).off,(bA s2).deep+1,true,(bA s2).ex,(bA s2).bl⟩:PS)->x=q0:=λx hx=>hx.trans hq0;have q0p:Syn.phi q0=Syn.phi (bA s2):=by rw[<-hq0];rfl
   have q0i:q0.i=(bA s2).i:=by rw[<-hq0]
   have q0t:q0.toks=(bA s2).toks:=by rw[<-hq0]
   have st0:=iZ q1.ws q3;rw[q2]at st0;have sp0:=(oG q3).2;rw[q2]at sp0;have q4l:=q4.lev;have n1le:=hn1.le;have tg5:=iY q4.ws [42];have tp5:=kE (step1 q0) [42];have g5:=q4.take [42];have tg5t:=congrArg List.length tg5.1.toks;have st0t:=congrArg List.length st0.1.toks;have q0tl:=congrArg List.length q0t;refine bU.cut (λ_ w'=>∃M6 o s6,(((if(bQ (step1 q0) [42]).1=true then .ok none (bQ (step1 q0) [42]).2 else(E (bQ (step1 q0) [42]).2).bind λy q1=>.ok (some y) q1):R (Option Nat))=.ok o s6)/\PR w0 w' p f M6 vt s6 top/\Gd N s6 d/\Eff p f M M6 w w'/\Loc w0 w' p f M6 vt b1 PpT [.pointer (some ⟨p,0,none⟩)]/\Loc w0 w' p f M6 vt b4 TkT (eS (cur s2))/\Loc w0 w' p f M6 vt b6 4 [.bool o.isNone]/\Loc w0 w' p f M6 vt b5 iG [i64 ((o.getD 0:Nat):Int)]/\s6.i>=(step1 q0).i/\Syn.phi s6<=Syn.phi (step1 q0)/\s6.toks.length=s.toks.length) ?_ ?_
   ·refine L1.ld rfl ?_;refine tL h13 q4.ws hN q4.l λw14 h14 he14=>?_;have L1:=L1.eff he14;have L4:=L4.eff he14;have L5:=L5.eff he14;have L6:=L6.eff he14;have he14:=he13.trans he14;refine L6.st rfl (by simp) λw15 L6 hc15 hz15=>?_;have h15:=h14.one hc15 L6.2;have L1:=L1.one hc15 (by omega);have L4:=L4.one hc15 (by omega);have L5:=L5.one hc15 (by omega);have he15:=he14.one hc15 (by omega);refine L6.ld rfl ?_;rw[eD,bS];refine⟨λhns=>?_,λhsp=>?_⟩
    ·have hns:(bQ (step1 q0) [42]).1=false:=by simpa using hns
     rw[hns]at L6;refine L1.ld rfl ?_;refine hE d rfl w15 p M2 vt _ top N _ h15 g5 (λz s6 ez M6 w16 h16 he16=>?_) λc a' ez=>ht c a' ?_
     ·obtain⟨g6,i6⟩:=g5.e hF ez;have ep:=hF.z (bQ (step1 q0) [42]).2;have eo:=hF.ok N _ g5.ws;rw[ez]at ep eo;have eot:=congrArg List.length eo.1.1.toks;have ep:Syn.phi s6<=Syn.phi (bQ (step1 q0) [42]).2:=ep;have L1:=L1.eff he16;have L4:=L4.eff he16;have L5:=L5.eff he16;have L6:=L6.eff he16;refine L5.st rfl (by simp) λw17 L5 hc17 hz17=>?_;refine⟨M6,some z,s6,?_,h16.one hc17 L5.2,g6,(he15.trans he16).one hc17 (by omega),L1.one hc17 (by omega),L4.one hc17 (by omega),L6.one hc17 (by omega),L5,by have:=tg5.1.le;omega,by have:=tp5.1;omega,by omega⟩;rw[aD (by rw[hns];decide),ez];rfl
     ·rw[<-hpf];rw[aD (by rw[hns];decide),ez];rfl
    ·have hsp:(bQ (step1 q0) [42]).1=true:=by simpa using hsp
     rw[hsp]at L6;exact⟨M2,none,_,by rw[aH hsp],h15,g5,he15,L1,L4,L6,L5,tg5.1.le,tp5.1,by omega⟩
   rintro _ g2 w14 ⟨M6,o,s6,eo,h14,g6,he14,L1,L4,L6,L5,i6,p6,t6⟩;have hpf2:((nO s6 [93]).bind λ_ q2=>.ok o q2)=(if(bQ (step1 q0) [42]).1=true then(nO (bQ (step1 q0) [42]).2 [93]).bind λ_ q2=>.ok none q2 else(E (bQ (step1 q0) [42]).2).bind λy q1=>(nO q1 [93]).bind λ_ q2=>.ok (some y) q2):=by
    by_cases hsp:(bQ (step1 q0) [42]).1=true
    ·rw[aH hsp]at eo⊢;injection eo with e1 e2
     subst e1 e2;rfl
    ·rw[aD hsp]at eo⊢;cases hez:E (bQ (step1 q0) [42]).2 with
     |err c a=>rw[hez]at eo;cases eo
     |ok z s7=>
      rw[hez]at eo;simp only[R.bind]at eo;injection eo with e1 e2
      subst e1 e2;rfl
   rw[<-hpf2]at hpf;refine L1.ld rfl ?_;refine vY h14 g6.ws hN g6.l (λs7 e7 w15 h15 he15=>?_) λc a' e7=>ht c a' (by rw[<-hpf,e7];rfl);rw[e7]at hpf;simp only[R.bind]at hpf;obtain⟨g7,i7,_⟩:=g6.want e7;have w7:=kD s6 [93];have w7s:=jR g6.ws [93];rw[e7]at w7 w7s;have w7:Syn.phi s7+1<=Syn.phi s6:=w7;have w7t:=congrArg List.length w7s.1.1.toks;have g7l:=g7.lev;have L1:=L1.eff he15;have L4:=L4.eff he15;have L5:=L5.eff he15;have L6:=L6.eff he15;have he15:=he14.trans he15;refine⟨M6,s7,h15,by omega,λw16 h16 he16=>?_⟩;have L1:=L1.eff he16;have L4:=L4.eff he16;have L5:=L5.eff he16;have L6:=L6.eff he16;have he16:=he15.trans he16;have g8:Gd N {s7 with deep:=(bA s2).deep,quiet:=(bA s2).quiet} (d+1):=hgn.back g7;have st1i:(step1 q0).i=(bA s2).i+1:=by show q0.i+1=_;rw[q0i]
   refine L6.ld rfl ?_;rw[eD,bS];cases o with
   |some z=>
    refine⟨λ_=>?_,λe=>by cases e⟩;simp only at hpf;refine L1.ld rfl ?_;refine L5.ld rfl ?_;have hz1':w1.heap.size<=w16.heap.size:=by have:=L1.lt;omega
    refine Jc λr w17 hr hz17 hrb hx17=>?_;refine(L4.ext hx17).ldf rfl ?_;simp only[dA,dZ,gB,cU,aA,aL,aW,aZ,Nat.reduceAdd,Nat.reduceLT,dH,aB];refine fin (e:=⟨11,[],[y,z],[],(cur s2).a⟩) (h16.ext hx17) g8 (he16.x hx17) (L1.ext hx17) ((h16.row_new (l:=[y,z]) hr hz17 hrb (by simp)).le hz1') rfl ?_ ?_ ?_ hpf
    ·show s2.i<s7.i;omega
    ·show Syn.phi s7+1<=_;omega
    ·show s7.toks.length=_;omega
   |none=>
    refine⟨λe=>(by cases e),λ_=>?_⟩;simp only at hpf;refine L1.ld rfl ?_;refine vY h16 g8.ws hN g8.l (λs9 e9 w17 h17 he17=>?_) λc a' e9=>ht c a' (by rw[<-hpf,e9]);rw[e9]at hpf;simp only[R.bind]at hpf;obtain⟨g9,i9,_⟩:=g8.want e9;generalize hs8:({s7 with deep:=(bA s2).deep,quiet:=(bA s2).quiet}:PS)=s8 at*
    have s8p:Syn.phi s8=Syn.phi s7:=by rw[<-hs8];rfl
    have s8i:s8.i=s7.i:=by rw[<-hs8]
    have s8t:s8.toks=s7.toks:=by rw[<-hs8]
    have s8t:=congrArg List.length s8t;have w9:=kD s8 [46];have w9s:=jR g8.ws [46];rw[e9]at w9 w9s;have w9:Syn.phi s9+1<=Syn.phi s8:=w9;have w9t:=congrArg List.length w9s.1.1.toks;have L1:=(L1.eff he17).drew;have L4:=(L4.eff he17).drew;have h17:=h17.drew;have he17':=(he16.trans he17).x (cY w17);have hz1':w1.heap.size<=w17.drew.heap.size:=by have:=L1.lt;omega
    have ld1:∀{w':World} {M':Lay},Loc w0 w' p f M' vt b1 PpT [.pointer (some ⟨p,0,none⟩)]->ldW false 1 (.pointer (some ⟨b1,0,none⟩)) w' λx=>x=.pointer (some ⟨p,0,none⟩):=λL=>L.ld rfl rfl;have ld4:∀{w':World} {M':Lay},Loc w0 w' p f M' vt b4 TkT (eS (cur s2))->ldW false 1 (.pointer (some ⟨b4,2,none⟩)) w' λx=>x=i64 (cur s2).a:=λL=>L.ld rfl rfl;refine L1.ld rfl ?_;refine L1.ld rfl ?_;rw[bP,bY,aX];refine L4.ld rfl ?_;have kd:∀{w':World} {KK:Q0},PR w0 w' p f M6 vt s9 top->(∀u s7,kZ s9 1=.ok u s7->∀w'',PR w0 w'' p f M6 vt s7 top->Eff p f M6 M6 w' w''->KK (.agg (eS u).toArray) w'')->aC P0 46 [.pointer (some ⟨p,0,none⟩),.int .i64 1] w' KK:=λ{w' KK} h hKK=>
     wN h g9.ws hN g9.l hKK λc a' eu=>ht c a' (by rw[<-hpf,eu])
    have done:∀{u:Tok} {sa:PS},kZ s9 1=.ok u sa->Gd N sa (d+1)/\s2.i<sa.i/\Syn.phi sa+1<=Syn.phi s2/\sa.toks.length=s.toks.length/\((pS sa ⟨30,u.t,[y],[],(cur s2).a⟩).bind λy s3=>qC E n s3 y)=R0:=λ{u sa} eu=>by
     have hk:=g9.kind (by decide) eu;have hks:=kY g9.ws 1 (by decide);have hkp:=mU s9 1;rw[eu]at hks hkp hpf;have hkt:=congrArg List.length hks.1.1.toks;have hkp:=hkp.1;exact⟨hk.1,by have:=hk.2.1;omega,by omega,by omega,hpf⟩
    refine⟨?_,?_,?_,?_,?_,?_⟩
    ·refine kd h17 λu sa eu wa ha hea=>?_;have L1:=L1.eff hea;have L4:=L4.eff hea;refine⟨ld4 L4,ld1 L1,str u.t,rfl,ld4 L4,ld1 L1,?_⟩;refine jJ λr wb hr hzb hrb hxb=>?_;refine⟨ld4 (L4.ext hxb),ld1 (L1.ext hxb),?_⟩;simp only[dA,dZ,gB,cU,aA,aL,aW,aZ,Nat.reduceAdd,Nat.reduceLT,dH,aB];obtain⟨d1,d2,d3,d4,d5⟩:=done eu;exact fin (e:=⟨30,u.t,[y],[],(cur s2).a⟩) (ha.ext hxb) d1 ((he17'.trans hea).x hxb) (L1.ext hxb) ((ha.row_new (l:=[y]) hr hzb hrb (by simp)).le (by have:=hea.chg.size;omega)) rfl d2 d3 d4 d5
    ·exact ld4 L4
    ·exact ld1 L1
    ·exact ld1 L1
    ·refine kd h17 λu sa eu wa ha hea=>?_;have L1:=L1.eff hea;have L4:=L4.eff hea;refine⟨ld4 L4,ld1 L1,str u.t,rfl,?_⟩;refine jJ λr wb hr hzb hrb hxb=>?_;refine⟨ld4 (L4.ext hxb),ld1 (L1.ext hxb),?_⟩;simp only[dA,dZ,gB,cU,aA,aL,aW,aZ,Nat.reduceAdd,Nat.reduceLT,dH,aB];obtain⟨d1,d2,d3,d4,d5⟩:=done eu;exact fin (e:=⟨30,u.t,[y],[],(cur s2).a⟩) (ha.ext hxb) d1 ((he17'.trans hea).x hxb) (L1.ext hxb) ((ha.row_new (l:=[y]) hr hzb hrb (by simp)).le (by have:=hea.chg.size;omega)) rfl d2 d3 d4 d5
    ·refine jJ λr wb hr hzb hrb hxb=>?_;have L1:=L1.ext hxb;have L4:=L4.ext hxb;have rwb:=h17.row_new (l:=[y]) hr hzb hrb (by simp);refine⟨ld4 L4,ld1 L1,ld1 L1,?_⟩;refine kd (h17.ext hxb) λu sa eu wa ha hea=>?_;have L1:=L1.eff hea;have L4:=L4.eff hea;refine⟨ld4 L4,ld1 L1,str u.t,rfl,?_⟩;simp only[dA,dZ,gB,cU,aA,aL,aW,aZ,Nat.reduceAdd,Nat.reduceLT,dH,aB];obtain⟨d1,d2,d3,d4,d5⟩:=done eu;exact fin (e:=⟨30,u.t,[y],[],(cur s2).a⟩) ha d1 ((he17'.x hxb).trans hea) L1 ((rwb.eff hea).le (by omega)) rfl d2 d3 d4 d5
  ·have hi:isS s2 [91]=false:=by simpa using hi
   rw[aD (by rw[hi];decide)]at hpf;exact hK y _ hpf.symm M2 w7 h7 he7
end
section
variable [HX]
variable{w0 w w' w1:World}{p f b:Nat}{M M' M0:Lay}{vt:Value}{s:PS}{top:List Nat}{N:Int}{K:Q0}{e:Ex}{va vk:Value}{wbn:Nat}{wb:World}{dl:Nat}
theorem JI{E S:PS->R Nat}(hS:xA w0 f)(hE:∀d,dl=d+1->EC w0 f 82 E d)(hG:∀d,dl=d+1->EC w0 f 151 S d)(hF:pZ E)(hFS:pZ S):EC w0 f 151 (yI E S) dl:=by
 intro w p M vt s top N K h hg hK ht;refine VI ?_;unfold aCm;have hN:=hg.hN;refine rY rfl λb1 w1 hb1 hz1 hbb1 hx1=>?_;have h1:=h.ext hx1;have L1:=h.loc hz1 hb1 hbb1;refine L1.ld rfl ?_;refine mJ h1 hg.ws hN hg.l λw2 h2 he2=>?_;have L1:=L1.eff he2;have he2:=(Eff.ext hx1).trans he2;have lt1:=L1.lt;have hgn:=hg.now;refine bG λb3 w3 hb3 hz3 hbb3 hx3=>?_;have h3:=h2.ext hx3;have L3:=h2.loc hz3 hb3 hbb3;have L1:=L1.ext hx3;refine cG (l:=eS (cur s)) L3.1 rfl rfl rfl λw4 hz4 hbb4 hc4=>?_;have L3:Loc w0 w4 p f M vt b3 TkT (eS (cur s)):=⟨hbb4,L3.2.up (by omega)⟩;have h4:=h3.one hc4 L3.2;have L1:=L1.one hc4 (by omega);have hw2:=he2.chg.size;have he4:=(he2.x hx3).one hc4 (by omega);refine bU.cut (λst w'=>∃(k:Int) (x:Str),st=[i64 k]/\isS s x=true/\yI E S s=((within (bA s) (cur s).a (bA s).quiet λq=>S (step1 q)).bind λx s2=>pS s2 ⟨k,[],[x],[],(cur s).a⟩)/\PR w0 w' p f M vt (bA s) top/\Eff p f M M w w'/\Loc w0 w' p f M vt b1 PpT [.pointer (some ⟨p,0,none⟩)]/\Loc w0 w' p f M vt b3 TkT (eS (cur s))) ?_ ?_
 ·unfold yI at hK ht⊢;simp only[gS]at hK ht⊢;refine L1.ld rfl ?_;refine Ai h4 hgn λw5 h5 he5=>?_;rw[gC]at h5;have L1:=L1.eff he5;have L3:=L3.eff he5;have he5:=he4.trans he5;rw[gS,bS];refine⟨λhi=>⟨14,[33],rfl,hi,by rw[aH hi],h5,he5,L1,L3⟩,λhi=>?_⟩;rw[aD (by rw[hi];decide)]at hK ht⊢;refine L1.ld rfl ?_;refine Ai h5 hgn λw6 h6 he6=>?_;rw[gC]at h6;have L1:=L1.eff he6;have L3:=L3.eff he6;have he6:=he5.trans he6;rw[gS,bS];refine⟨λhi=>⟨13,[45],rfl,hi,by rw[aH hi],h6,he6,L1,L3⟩,λhi=>?_⟩;rw[aD (by rw[hi];decide)]at hK ht;refine L1.ld rfl ?_;exact Xz hS hE hF w6 p M vt _ top N _ h6 hgn (λx s' ex M' w7 h7 he7=>hK x s' ex M' w7 h7 (he6.trans he7)) ht
 rintro st g w5 ⟨k,x,rfl,hi,es,h5,he5,L1,L3⟩;rw[es]at hK ht;simp only[aF];have hw5:=he5.chg.size;have lt1:=L1.lt;have lt3:=L3.lt;refine bG λb5 w6 hb5 hz6 hbb6 hx6=>?_;have h6:=h5.ext hx6;have L5:=h5.loc hz6 hb5 hbb6;have L1:=L1.ext hx6;have L3:=L3.ext hx6;refine L5.st rfl (by simp) λw7 L5 hc7 hz7=>?_;have h7:=(h6.one hc7 L5.2).drew;have L1:=(L1.one hc7 (by omega)).drew;have L3:=(L3.one hc7 (by omega)).drew;have L5:=L5.drew;have he7:=((he5.x hx6).one hc7 (by omega)).x (cY w7);refine L1.ld rfl ?_;rw[bP,bY,aX];refine L3.ld rfl ?_;refine L1.ld rfl ?_;refine h7.ld rfl ?_;have hlev:=hgn.lev;refine nZ h7 (by omega) (λhd=>ht 7 _ (by rw[sO hd];rfl)) λhd w8 h8 he8=>?_;obtain⟨d,rfl⟩:∃d,dl=d+1:=⟨dl-1,by omega⟩;rw[vX hd]at hK ht;obtain⟨q1,q2,q3,q4⟩:=hg.sign hi (bA s).quiet;have L1:=L1.eff he8;have L3:=L3.eff he8;have L5:=L5.eff he8;have he8:=he7.trans he8;refine jI (caps:=[.pointer (some ⟨b1,0,none⟩),.pointer (some ⟨b5,0,none⟩)]) ?_;refine Vm ?_;unfold aB1;refine L1.ld rfl ?_;refine h8.go (wsi q1.ws q1.l) λw9 h9 he9 hz9=>?_;have L1:=L1.eff he9;have L3:=L3.eff he9;have L5:=L5.eff he9;have he9:=he8.trans he9;refine L1.ld rfl ?_;refine hG d rfl w9 p M vt _ top N _ h9 q4 (λy s' ey M' w10 h10 he10=>?_) λc a' ey=>ht c a' (by rw[ey];rfl);obtain⟨g10,_⟩:=q4.e hFS ey;have pz:=hFS.z (step1 {bA s with deep:=(bA s).deep+1,quiet:=(bA s).quiet});rw[ey]at hK pz;have pz:Syn.phi s'<=Syn.phi (step1 (⟨(bA s).toks,(bA s).i,(bA s).off,(bA s).deep+1,(bA s).quiet,(bA s).ex,(bA s).bl⟩:PS)):=pz;have ps:=(oG q3).2;rw[q2]at ps;have pn:=jL s;have pe:Syn.phi (⟨(bA s).toks,(bA s).i,(bA s).off,(bA s).deep+1,(bA s).quiet,(bA s).ex,(bA s).bl⟩:PS)=Syn.phi (bA s):=rfl;simp only[R.bind]at hK;have L1:=L1.eff he10;have L3:=L3.eff he10;have L5:=L5.eff he10;have he10:=he9.trans he10;refine L5.st rfl (by simp) λw11 L5 hc11 hz11=>?_;have h11:=h10.one hc11 L5.2;have L1:=L1.one hc11 (by omega);have L3:=L3.one hc11 (by omega);have he11:=he10.one hc11 (by omega);have g10l:=g10.lev;refine⟨M',s',h11,by omega,λw12 h12 he12=>?_⟩;have L1:=L1.eff he12;have L3:=L3.eff he12;have L5:=L5.eff he12;have he12:=he11.trans he12;refine L1.ld rfl ?_;refine L5.ld rfl ?_;refine jJ λr w13 hr hz13 hrb hx13=>?_;refine(L3.ext hx13).ldf rfl ?_;simp only[dA,dZ,gB,cU,aA,aL,aW,aZ,Nat.reduceAdd,Nat.reduceLT,dH,aB];have hg12:=hgn.back (q:=(bA s).quiet) g10;refine HK (e:=⟨k,[],[y],[],(cur s).a⟩) (h12.ext hx13) (he12.x hx13) (ER.noK rfl ((h12.row_new (l:=[y]) hr hz13 hrb (by simp)).le he12.chg.size)) hg12 λM2 w14 h14 he14 _=>?_;exact hK _ _ rfl M2 w14 h14 he14
theorem Dr{E S:PS->R Nat}(hS:xA w0 f)(hE:∀d,dl=d+1->EC w0 f 82 E d)(hG:∀d,dl=d+1->EC w0 f 151 S d)(hF:pZ E)(hFS:pZ S):∀(m:Nat),m<=6->∀(w:World) (p:Nat) (M:Lay) (vt:Value) (s:PS) (top:List Nat) (N:Int) (K:Q0),PR w0 w p f M vt s top->Gd N s dl->
  (∀x s',tC E S m s=.ok x s'->∀M' w',PR w0 w' p f M' vt s' top->Eff p f M M' w w'->K (i64 (x:Nat)) w')->(∀c a,tC E S m s=.err c a->Thr w0 f c a)->aC P0 114 [.pointer (some ⟨p,0,none⟩),i64 ((6-m:Nat):Int)] w K
 |0,_,w,p,M,vt,s,top,N,K,h,hg,hK,ht=>by
  refine Mj ?_
  unfold aAB
  rw[bL,aM]
  refine⟨λ_=>?_,λe=>absurd rfl e⟩
  exact JI hS hE hG hF hFS w p M vt s top N _ h hg hK ht
 |m+1,hm,w,p,M,vt,s,top,N,K,h,hg,hK,ht=>by
  refine Mj ?_
  unfold aAB
  have hN:=hg.hN
  have hJ:pZ (tC E S m):=⟨λN=>uI (hF.ok N) (hFS.ok N) m,uH hF.z hFS.z m⟩
  simp only[tC]at hK ht
  rw[bL,aM]
  refine⟨λe=>by omega,λ_=>?_⟩
  have up:∀{KK:Value->Prop},KK (i64 ((6-m:Nat):Int))->aQ .add (i64 ((6-(m+1):Nat):Int)) (.int .i64 1) KK:=λh=>by
   rw[cA,cK (by omega) (by omega),show((6-(m+1):Nat):Int)+1=((6-m:Nat):Int)by omega];exact h
  refine up ?_
  refine Dr hS hE hG hF hFS m (by omega) w p M vt s top N _ h hg (λx s1 ex M1 w2 h2 he2=>?_) λc a' ex=>ht c a' (by rw[ex];rfl)
  rw[ex]at hK ht
  simp only[R.bind]at hK ht
  obtain⟨hg1,hi1⟩:=hg.e hJ ex
  have etl:=(hJ.ok N) s hg.ws
  rw[ex]at etl
  have etl:=congrArg List.length etl.1.1.toks
  generalize hR:Ah (tC E S m) (5-m) (s.toks.length+1) s1 x=R0 at hK ht
  refine cZ.go (λst w'=>∃s1 M1 x n,st=[i64 ((x:Nat):Int)]/\PR w0 w' p f M1 vt s1 top/\Gd N s1 dl/\Eff p f M M1 w w'/\Ah (tC E S m) (5-m) n s1 x=R0/\s1.toks.length<n+s1.i/\s1.toks.length=s.toks.length) (λ_ w'=>s.toks.length-yX w' p)
   ⟨s1,M1,x,s.toks.length+1,rfl,h2,hg1,he2,hR,by have:=hg1.ws.lt;omega,etl⟩ ?_
  clear he2 h2 ex hg1 hi1 etl hR
  rintro st g w2 ⟨s2,M2,y,n,rfl,h2,hg2,he2,hpf,hn,htl⟩
  simp only[aF]
  have hlt2:=hg2.ws.lt
  obtain⟨n,rfl⟩:∃m,n=m+1:=⟨n-1,by omega⟩
  simp only[Ah]at hpf
  refine mJ h2 hg2.ws hN hg2.l λw3 h3 he3=>?_
  have he3:=he2.trans he3
  have hw3:=he3.chg.size
  have hgn:=hg2.now
  refine bG λb6 w4 hb6 hz4 hbb4 hx4=>?_
  have h4:=h3.ext hx4
  have L6:=h3.loc hz4 hb6 hbb4
  refine cG (l:=eS (cur s2)) L6.1 rfl rfl rfl λw5 hz5 hbb5 hc5=>?_
  have L6:Loc w0 w5 p f M2 vt b6 TkT (eS (cur s2)):=⟨hbb5,L6.2.up (by omega)⟩
  have h5:=h4.one hc5 L6.2
  have he5:=(he3.x hx4).one hc5 (by omega)
  refine bX L6.1 rfl ?_
  refine TQ (by omega) λw6 hx6=>?_
  have h6:=h5.ext hx6
  have L6:=L6.ext hx6
  have he6:=he5.x hx6
  have en:(6-(m+1):Nat)=5-m:=by omega
  rw[en,bL,aM]
  refine⟨λh0=>?_,λh0=>?_⟩
  ·rw[aH h0]at hpf
   exact hK y _ hpf.symm M2 w6 h6 he6
  ·rw[aD h0]at hpf
   have hk0:(cur s2).k≠0:=λe=>h0 (by unfold uY;rw[e];rfl)
   have hgs:=hg2.step hk0
   have sg:=iZ hg2.ws hk0
   have sp:=(oG hk0).2
   refine h6.go (wsi hgn.ws hgn.l) λw7 h7 he7 hz7=>?_
   have L6:=L6.eff he7
   have he7:=he6.trans he7
   have up2:∀{KK:Value->Prop},KK (i64 ((6-m:Nat):Int))->aQ .add (i64 ((5-m:Nat):Int)) (.int .i64 1) KK:=λh=>by
    rw[<-en];exact up h
   refine up2 ?_
   refine Dr hS hE hG hF hFS m (by omega) w7 p M2 vt _ top N _ h7 hgs (λz s3 ez M3 w8 h8 he8=>?_) λc a' ez=>ht c a' (by rw[<-hpf,ez];rfl)
   obtain⟨g8,i8⟩:=hgs.e hJ ez
   have pz:=hJ.z (step1 (bA s2))
   have oz:=hJ.ok N _ hgs.ws
   rw[ez]at hpf pz oz
   have pz:Syn.phi s3<=Syn.phi (step1 (bA s2)):=pz
   have tz:=congrArg List.length oz.1.1.toks
   have tz2:=congrArg List.length sg.1.toks
   simp only[R.bind]at hpf
   have L6:=L6.eff he8
   have he8:=he7.trans he8
   have hw8:=he8.chg.size
   refine Jc λr w9 hr hz9 hrb hx9=>?_
   refine(L6.ext hx9).ldf rfl ?_
   simp only[dA,dZ,gB,cU,aA,aL,aW,aZ,Nat.reduceAdd,Nat.reduceLT,dH,aB]
   refine HK (e:=⟨uY (cur s2) (5-m),[],[y,z],[],(cur s2).a⟩) (h8.ext hx9) (he8.x hx9) (ER.noK rfl ((h8.row_new (l:=[y,z]) hr hz9 hrb (by simp)).le hw8)) g8 λM4 w10 h10 he10 _=>?_
   have hlt8:=g8.ws.lt
   have hph:=hg2.phi
   refine⟨⟨_,M4,_,n,rfl,h10,g8.put (by omega),he10,hpf,by show s3.toks.length<n+s3.i;omega,by show s3.toks.length=_;omega⟩,?_⟩
   rw[h10.at_,h2.at_]
   show s.toks.length-s3.i<_
   have:=sg.2
   omega
end
theorem NZ(s:PS)(w:Str):bQ (bA s) w=bQ s w:=by unfold bQ;rw[gS,gC]
section
variable [HX]
variable{w0 w w' w1:World}{p f b:Nat}{M M' M0:Lay}{vt:Value}{s:PS}{top:List Nat}{N:Int}{K:Q0}{e:Ex}{va vk:Value}{wbn:Nat}{wb:World}{dl:Nat}
theorem PV{E S:PS->R Nat}(hS:xA w0 f)(hE:∀d,dl=d+1->EC w0 f 82 E d)(hG:∀d,dl=d+1->EC w0 f 151 S d)(hF:pZ E)(hFS:pZ S):EC w0 f 82 (BS E S) dl:=by
 intro w p M vt s top N K h hg hK ht;refine ZG ?_;unfold W82;have hN:=hg.hN;have hJ:pZ (tC E S 6):=⟨λN=>uI (hF.ok N) (hFS.ok N) 6,uH hF.z hFS.z 6⟩;refine rY rfl λb1 w1 hb1 hz1 hbb1 hx1=>?_;have h1:=h.ext hx1;have L1:=h.loc hz1 hb1 hbb1;refine L1.ld rfl ?_;unfold BS at hK ht;refine Dr hS hE hG hF hFS 6 (aU _) w1 p M vt s top N _ h1 hg (λa s1 ea M1 w2 h2 he2=>?_) λc a' ea=>ht c a' (by rw[ea];rfl);rw[ea]at hK ht;simp only[R.bind]at hK ht;obtain⟨hg1,hi1⟩:=hg.e hJ ea;have L1:=L1.eff he2;have he2:=(Eff.ext hx1).trans he2;refine L1.ld rfl ?_;refine mJ h2 hg1.ws hN hg1.l λw3 h3 he3=>?_;have L1:=L1.eff he3;have he3:=he2.trans he3;have lt1:=L1.lt;have hw3:=he3.chg.size;have hgn:=hg1.now;refine bG λb4 w4 hb4 hz4 hbb4 hx4=>?_;have h4:=h3.ext hx4;have L4:=h3.loc hz4 hb4 hbb4;have L1:=L1.ext hx4;refine cG (l:=eS (cur s1)) L4.1 rfl rfl rfl λw5 hz5 hbb5 hc5=>?_;have L4:Loc w0 w5 p f M1 vt b4 TkT (eS (cur s1)):=⟨hbb5,L4.2.up (by omega)⟩;have h5:=h4.one hc5 L4.2;have L1:=L1.one hc5 (by omega);have he5:=(he3.x hx4).one hc5 (by omega);refine L1.ld rfl ?_;refine tL h5 hgn.ws hN hgn.l λw6 h6 he6=>?_;rw[NZ]at h6⊢;have L1:=L1.eff he6;have L4:=L4.eff he6;have he6:=he5.trans he6;rw[eD,bS];refine⟨λhn=>?_,λhy=>?_⟩
 ·have hn:(bQ s1 [63]).1=false:=by simpa using hn
  rw[aD (by rw[hn];decide)]at hK;exact hK a _ rfl M1 w6 h6 he6
 have hy:(bQ s1 [63]).1=true:=by simpa using hy
 rw[aH hy]at hK ht;have hgt:=hg1.take [63];have tp:=(kE s1 [63]).2 hy;generalize hs2:(bQ s1 [63]).2=s2 at*
 have lt1:=L1.lt;have lt4:=L4.lt;have hw6:=he6.chg.size;refine Qp λr w7 hr hz7 hrb hx7=>?_;have h7:=h6.ext hx7;have Lr:=h6.loc hz7 hr hrb;have L1:=L1.ext hx7;have L4:=L4.ext hx7;refine bG λb5 w8 hb5 hz8 hbb8 hx8=>?_;have h8:=h7.ext hx8;have L5:=h7.loc hz8 hb5 hbb8;have L1:=L1.ext hx8;have L4:=L4.ext hx8;have Lr:=Lr.ext hx8;refine L5.st rfl (by simp) λw9 L5 hc9 hz9=>?_;have h9:=(h8.one hc9 L5.2).drew;have L1:=(L1.one hc9 (by omega)).drew;have L4:=(L4.one hc9 (by omega)).drew;have Lr:=(Lr.one hc9 (by omega)).drew;have L5:=L5.drew;have he9:=(((he6.x hx7).x hx8).one hc9 (by omega)).x (cY w9);refine L1.ld rfl ?_;rw[bP,bY,aX];refine L4.ld rfl ?_;refine L1.ld rfl ?_;refine h9.ld rfl ?_;have hlev:=hgt.lev;refine nZ h9 (by omega) (λhd=>ht 7 _ (by rw[sO hd])) λhd w10 h10 he10=>?_;obtain⟨d,rfl⟩:∃d,dl=d+1:=⟨dl-1,by omega⟩;rw[vX hd]at hK ht;have q1:=hgt.frame s2.quiet;have L1:=L1.eff he10;have L4:=L4.eff he10;have Lr:=Lr.eff he10;have L5:=L5.eff he10;have he10:=he9.trans he10;refine jI (caps:=[.pointer (some ⟨b1,0,none⟩),.pointer (some ⟨b5,0,none⟩)]) ?_;refine Wj ?_;unfold aCJ;have L1:=L1.drew;have L4:=L4.drew;have Lr:=Lr.drew;have L5:=L5.drew;have h10:=h10.drew;have he10:=he10.x (cY w10);refine L5.ld rfl ?_;refine L1.ld rfl ?_;refine hE d rfl w10.drew p M1 vt _ top N _ h10 q1 (λx s3 ex M3 w11 h11 he11=>?_) λc a' ex=>ht c a' (by rw[ex];rfl);obtain⟨g3,_⟩:=q1.e hF ex;have px:=hF.z {s2 with deep:=s2.deep+1,quiet:=s2.quiet};rw[ex]at hK ht px;have px:Syn.phi s3<=Syn.phi s2:=px;simp only[R.bind]at hK ht;have L1:=L1.eff he11;have L4:=L4.eff he11;have Lr:=Lr.eff he11;have L5:=L5.eff he11;have he11:=he10.trans he11;refine⟨L5.ld rfl rfl,?_⟩;rw[qU];refine⟨by omega,by omega,?_⟩;rw[bY,aX];refine Lr.st (off:=1) rfl (by simp) λw12 Lr hc12 hz12=>?_;have h12:=h11.one hc12 Lr.2;have L1:=L1.one hc12 (by omega);have L4:=L4.one hc12 (by omega);have L5:=L5.one hc12 (by omega);have he12:=he11.one hc12 (by omega);refine L1.ld rfl ?_;refine vY h12 g3.ws hN g3.l (λs4 e4 w13 h13 he13=>?_) λc a' e4=>ht c a' (by rw[e4]);have pw:=kD s3 [58];rw[e4]at hK ht pw;have pw:Syn.phi s4+1<=Syn.phi s3:=pw;simp only at hK ht;obtain⟨g4,_⟩:=g3.want e4;have L1:=(L1.eff he13).drew;have L4:=(L4.eff he13).drew;have Lr:=(Lr.eff he13).drew;have L5:=(L5.eff he13).drew;have h13:=h13.drew;have he13:=(he12.trans he13).x (cY w13);refine L5.ld rfl ?_;refine L1.ld rfl ?_;refine hE d rfl w13.drew p M3 vt _ top N _ h13 g4 (λy s5 ey M5 w14 h14 he14=>?_) λc a' ey=>ht c a' (by rw[ey]);obtain⟨g5,_⟩:=g4.e hF ey;have py:=hF.z s4;rw[ey]at hK py;have py:Syn.phi s5<=Syn.phi s4:=py;simp only at hK;have L1:=L1.eff he14;have L4:=L4.eff he14;have Lr:=Lr.eff he14;have L5:=L5.eff he14;have he14:=he13.trans he14;refine⟨L5.ld rfl rfl,?_⟩;rw[qU];refine⟨by omega,by omega,?_⟩;rw[bY,aX];refine Lr.st (off:=2) rfl (by simp) λw15 Lr hc15 hz15=>?_;have h15:=h14.one hc15 Lr.2;have L1:=L1.one hc15 (by omega);have L4:=L4.one hc15 (by omega);have L5:=L5.one hc15 (by omega);have he15:=he14.one hc15 (by omega);have g5l:=g5.lev;refine⟨M5,s5,h15,by omega,λw16 h16 he16=>?_⟩;have L1:=L1.eff he16;have L4:=L4.eff he16;have Lr:=Lr.eff he16;have L5:=L5.eff he16;have he16:=he15.trans he16;refine L1.ld rfl ?_;refine L5.ld rfl ?_;refine L4.ldf rfl ?_;simp only[dA,dZ,gB,cU,aA,aL,aW,aZ,Nat.reduceAdd,Nat.reduceLT,dH,aB];have g16:=hgt.back (q:=s2.quiet) g5;have hR:Ro w0 w16 p f M5 vt w.heap.size iG 1 (.slice (some ⟨r,0,none⟩) 3 3) 3 (ints [a,x,y]):=
  ⟨OQ (cs:=ints [a,x,y]) Lr.1 Lr.2.1.1 rfl (by omega),λk hk=>by simp only[Value.ownBlock,bD]at hk;subst hk;exact Lr.2,λk hk=>by simp only[Value.ownBlock,bD]at hk;omega⟩
 refine HK (e:=⟨28,[],[a,x,y],[],(cur s1).a⟩) h16 he16 (ER.noK rfl hR) g16 λM6 w17 h17 he17 _=>?_;exact hK _ _ rfl M6 w17 h17 he17
theorem uK:pZ dead:=⟨xV,wU⟩
theorem DJ(d:Nat):pZ (rU d).1/\pZ (rU d).2:=⟨⟨λN=>(rT N d).1,(vF d).1⟩,⟨λN=>(rT N d).2,(vF d).2⟩⟩
theorem LM(hS:xA w0 f):∀dl,EC w0 f 82 (rU dl).1 dl/\EC w0 f 151 (rU dl).2 dl
 |0=>⟨PV hS (λd e=>by omega) (λd e=>by omega) uK uK,JI hS (λd e=>by omega) (λd e=>by omega) uK uK⟩
 |d+1=>by
  have ih:=LM hS d
  have hf:=DJ d
  have hE:∀d',d+1=d'+1->EC w0 f 82 (rU d).1 d':=λd' e=>by
   have e:d'=d:=by omega
   subst e;exact ih.1
  have hG:∀d',d+1=d'+1->EC w0 f 151 (rU d).2 d':=λd' e=>by
   have e:d'=d:=by omega
   subst e;exact ih.2
  exact⟨PV hS hE hG hf.1 hf.2,JI hS hE hG hf.1 hf.2⟩
end
end
end Go.Proofs.YtghhmpppnmoeoaaGreatDoor
namespace Go.Syn
section
open Go Go.Eng Go.Lex
variable{w:World}{K:Q0}{cs:List Value}{G:Nat->Prop}{T:TypeId}{i:Nat}{n:Nat}{v:Value}{w':World}{P:Program}{c:UInt8}{S:Nat->Prop}
abbrev blL(bl:List Blk):List (List Nat):=bl.map (·.blocks)
abbrev II(bl:List Blk):List Nat:=bl.flatMap λb=>b.attrs.map (·.e)
def Ge(us:List Atr):Prop:=∀a∈us,a.n≠[]
structure FI(s:PS)(pe pb:List Nat):Prop where
 ex:cQ (exL s.ex) (II s.bl++pe)
 bl:cQ (blL s.bl) pb
 nm:∀b∈s.bl,Ge b.attrs
theorem FI.perm{s:PS}{pe pe' pb pb':List Nat}(h:FI s pe pb)(h1:pe.Perm pe')(h2:pb.Perm pb'):FI s pe' pb':=⟨h.ex.perm (h1.append_left _),h.bl.perm h2,h.nm⟩
theorem FI.same{s s':PS}{pe pb:List Nat}(h:FI s pe pb)(h1:s'.ex=s.ex)(h2:s'.bl=s.bl):FI s' pe pb:=⟨by rw[h1,h2];exact h.ex,by rw[h2];exact h.bl,by rw[h2];exact h.nm⟩
theorem FI.expr{s s':PS}{x:Nat}{pe pb:List Nat}(h:FI s pe pb)(h2:s'.bl=s.bl)(hf:∀roots,cQ (exL s.ex) roots->cQ (exL s'.ex) (x::roots)):FI s' (x::pe) pb:=
 ⟨by rw[h2];exact(hf _ h.ex).perm (oP).symm,by rw[h2];exact h.bl,by rw[h2];exact h.nm⟩
def BOk(N:Int)(B:PS->R Nat):Prop:=∀s,WS N s->Sat (B s) (λx s'=>Later N s s'/\∀pe pb,FI s pe pb->FI s' pe (x::pb)) (InN N)
section
variable{N:Int}{E B:PS->R Nat}
theorem Dp:∀(n:Nat) (s:PS) (ls:List Str),WS N s->Sat (qG n s ls) (λ_ s'=>Go1 N s s'/\s'.ex=s.ex/\s'.bl=s.bl) (InN N)
 |0,s,_,h=>⟨nM _,h.pN⟩
 |n+1,s,ls,h=>by
  have hc:=jM h
  have n1:=qF h
  simp only[qG]
  split
  ·refine(EW (n1.1.ws h) (t:=cur s) ⟨hc.1,hc.2.1⟩).bind λl s1 e1=>?_
   subst e1
   exact(Dp n _ (ls++[l]) (n1.1.ws h)).mono λ_ s2 ⟨g,e,b⟩=>⟨n1.1.trans g,e.trans n1.2.2.1,b.trans n1.2.2.2⟩
  ·exact⟨fN h,(gN s).1,(gN s).2⟩
theorem Ps(hE:EOk N E)(hB:BOk N B){s:PS}(h:WS N s)(us:List Atr)(bs:List Nat)(hn:Ge us):
  Sat (BK E B s us bs) (λx s'=>Later N s s'/\Ge x.1/\∀pe pb,FI s (us.map (·.e)++pe) (bs++pb)->FI s' (x.1.map (·.e)++pe) (x.2++pb)) (InN N):=by
 unfold BK;refine(kY h 1 (by decide)).bind λt s1 ⟨g1,x1,b1,ht,hk⟩=>?_;have hw1:=g1.1.ws h;have t1:=iY hw1 [61];have hw2:=t1.1.ws hw1;have hc:=jM h;split
 ·refine(hE _ hw2).bind λx s2 ⟨g2,b2,f2⟩=>?_;refine⟨⟨g1.1.trans (t1.1.trans g2.1),by have:=g1.2;have:=t1.1.le;have:=g2.2;omega⟩,λa ha=>?_,λpe pb hf=>?_⟩
  ·rcases eH.1 ha with ha|ha
   ·exact hn a ha
   ·rw[bR]at ha;subst ha;rw[ht];exact hc.2.2.2.2 (by rw[<-ht];exact hk)
  ·have:=(hf.same (s':=(bQ s1 [61]).2) (t1.2.2.1.trans x1) (t1.2.2.2.trans b1)).expr b2 f2;refine this.perm ?_ (List.Perm.refl _);simp only[pY,dT,nK,fD];exact(oP).symm
 ·have hle:=g1.2;have hle2:=t1.1.le;have hg:Go1 N s {(bQ s1 [61]).2 with i:=(bQ s1 [61]).2.i-1}:=by
   have g:=g1.1.trans t1.1;refine⟨g.toks,g.off,g.deep,g.quiet,?_,?_,g.exs⟩
   ·show s.i<=(bQ s1 [61]).2.i-1;omega
   ·show(bQ s1 [61]).2.i-1<(bQ s1 [61]).2.toks.length;have:=g.lt;omega
  refine(hB _ (hg.ws h)).bind λx s2 ⟨g2,f2⟩=>?_;refine⟨⟨hg.trans g2.1,by have:=hg.le;have:=g2.2;omega⟩,hn,λpe pb hf=>?_⟩;have:=f2 _ _ (hf.same (s':={(bQ s1 [61]).2 with i:=(bQ s1 [61]).2.i-1}) (t1.2.2.1.trans x1) (t1.2.2.2.trans b1));refine this.perm (List.Perm.refl _) ?_;simp only[fD];exact(oP).symm
theorem Ft(hE:EOk N E)(hB:BOk N B):∀(n:Nat) (s:PS) (us:List Atr) (bs:List Nat),WS N s->Ge us->
  Sat (pV E B n s us bs) (λx s'=>Later N s s'/\Ge x.1/\∀pe pb,FI s (us.map (·.e)++pe) (bs++pb)->FI s' (x.1.map (·.e)++pe) (x.2++pb)) (InN N)
 |0,s,_,_,h,_=>⟨nM _,h.pN⟩
 |n+1,s,us,bs,h,hn=>by
  have t1:=iY h [125]
  have hw1:=t1.1.ws h
  simp only[pV]
  split
  ·rename_i ht
   exact⟨⟨t1.1,t1.2.1 ht⟩,hn,λpe pb hf=>hf.same t1.2.2.1 t1.2.2.2⟩
  refine(Ps hE hB hw1 us bs hn).bind λx s1 ⟨g1,n1,f1⟩=>?_
  have hw2:=g1.1.ws hw1
  have m1:=fN hw2
  have hw3:=m1.ws hw2
  split
  ·have:=jM hw3
   exact⟨this.1,this.2.1⟩
  have l1:=lU hw3
  refine(Ft hE hB n _ x.1 x.2 (l1.1.ws hw3) n1).mono λy s2 ⟨g2,n2,f2⟩=>⟨⟨t1.1.trans (g1.1.trans (m1.trans (l1.1.trans g2.1))),by have:=t1.1.le;have:=g1.2;have:=m1.le;have:=l1.1.le;have:=g2.2;omega⟩,n2,λpe pb hf=>f2 pe pb ?_⟩
  exact(f1 pe pb (hf.same t1.2.2.1 t1.2.2.2)).same (l1.2.1.trans (gN _).1) (l1.2.2.trans (gN _).2)
theorem FS(hE:EOk N E)(hB:BOk N B):BOk N (wY E B):=by
 intro s h;unfold wY;refine(kY h 1 (by decide)).bind λt s1 ⟨g1,x1,b1,ht,hk⟩=>?_;have hw1:=g1.1.ws h;refine(Dp _ s1 [] hw1).bind λls s2 ⟨g2,x2,b2⟩=>?_;have hw2:=g2.ws hw1;have n2:=fN hw2;have hw3:=n2.ws hw2;have hc:=jM hw2;split
 ·exact⟨hc.1,hc.2.1⟩
 rename_i hi;have hi:isS s2 [123]=true:=by simpa using hi
 have e3:(bA s2).ex=s.ex:=(gN _).1.trans (x2.trans x1);have b3:(bA s2).bl=s.bl:=(gN _).2.trans (b2.trans b1);refine Sat.bind (kN hw3 (a:=(cur s2).a) (q:=false) ⟨hc.1,hc.2.1⟩ (P:=λ(x:List Atr×List Nat) s'=>Go1 N {bA s2 with deep:=(bA s2).deep+1,quiet:=false} s'/\Ge x.1/\∀pe pb,FI s pe pb->FI s' (x.1.map (·.e)++pe) (x.2++pb)) λhw=>?_) λx s3 ⟨q,⟨g4,m4,f4⟩,e4⟩=>?_
 ·have hh:=nQ hw2 hi ((bA s2).deep+1) false;have h4:=iZ hw hh.2.1;rw[hh.1]at h4;have hw4:=h4.1.ws hw;have l4:=lU hw4;refine(Ft hE hB _ _ [] [] (l4.1.ws hw4) (λa ha=>by cases ha)).mono λx s' ⟨g,m,f⟩=>⟨h4.1.trans (l4.1.trans g.1),m,λpe pb hf=>f pe pb ?_⟩;exact hf.same (l4.2.1.trans e3) (l4.2.2.trans b3)
 ·subst e4;have g4':=g4.back;have g:=g1.1.trans (g2.trans (n2.trans g4'));refine⟨⟨⟨g.toks,g.off,g.deep,g.quiet,g.le,g.lt,g.exs⟩,by have:=g1.2;have:=g2.le;have:=n2.le;have:=g4'.le;show s.i<q.i;simp only at this;omega⟩,λpe pb hf=>?_⟩;have hq:=f4 pe pb hf;refine⟨?_,?_,?_⟩
  ·show cQ (exL q.ex) (II (q.bl++[⟨t.t,ls,x.1,x.2,t.a⟩])++pe);have e:II (q.bl++[⟨t.t,ls,x.1,x.2,t.a⟩])++pe=II q.bl++(x.1.map (·.e)++pe):=by simp[II]
   rw[e];exact hq.ex
  ·show cQ (blL (q.bl++[⟨t.t,ls,x.1,x.2,t.a⟩])) (q.bl.length::pb);have:=hq.bl.put;rw[lC]at this;simpa[blL]using this
  ·intro b hb;have hb:b∈q.bl++[⟨t.t,ls,x.1,x.2,t.a⟩]:=hb;rcases eH.1 hb with hb|hb
   ·exact hq.nm b hb
   ·rw[bR]at hb;subst hb;exact m4
end
theorem IW(N:Int):BOk N dead:=λ_ h=>⟨nM _,h.pN⟩
theorem FU(N:Int):∀d,BOk N (Br d)
 |0=>FS (xV N) (IW N)
 |d+1=>FS (rT N d).1 (FU N d)
end
end Go.Syn
namespace Go.Proofs.YtghhmpppnmoeoaaGreatDoor
section
open Go Go.Eng Go.RowKit Go.Syn Go.Lex
variable{w:World}{K:Q0}{cs:List Value}{G:Nat->Prop}{T:TypeId}{i:Nat}{n:Nat}{v:Value}{w':World}{P:Program}{c:UInt8}{S:Nat->Prop}
section
variable{w0 w w1 w2:World}{p f:Nat}{M:Lay}{vt:Value}{s:PS}{top:List Nat}
theorem PR.putB(h:PR w0 w p f M vt s top){wb:World}{M0:Lay}(he:Eff p f M0 M wb w){e:Blk}{d:List Value}{v':Value}(hd:BkR w w0.heap.size e d)(hu:∀k∈ub d,Off w0 w p f M vt k)(hn:(ub d).Nodup)(hnew:∀k∈ub d,wb.heap.size<=k)
  (hO:Own w1 w0.heap.size BkT 5 v' (s.bl.length+1) (M.cB++d))(hc1:Chg (λk=>M.vB.ownBlock=some k) w w1)(hv:∀k,v'.ownBlock=some k->M.vB.ownBlock=some k\/w.heap.size<=k)
  (hc2:Chg (One f) w1 w2)(hf:w2.heap[f]?=some (.cells [M.vE,v',M.vT].toArray FlT (0,0))):PR w0 w2 p f {M with vB:=v',cB:=M.cB++d} vt {s with bl:=s.bl++[e]} top/\Eff p f M0 {M with vB:=v',cB:=M.cB++d} wb w2:=by
 have hb:=h.base;have hzb:=he.chg.size;have pB:=Jz M f;have use:∀k,M.vB.ownBlock=some k->k∈M.uses f:=λk hk=>aS _ (kB (v:=M.vB) (by simp) hk);have hnd0:=pB.nodup_iff.1 h.fr.nd;have hnd:=hnd0;rw[iS,fC]at hnd;obtain⟨nf,_,nb,nab⟩:=hnd;have inU:∀k∈ub ([M.vE,M.vT]++(M.cE++M.cB)),k∈M.uses f:=λk hk=>pB.mem_iff.2 (aS _ (cR _ hk));have rest:∀k∈ub ([M.vE,M.vT]++(M.cE++M.cB)),M.vB.ownBlock≠some k/\k≠f/\k<w.heap.size:=λk hk=>
  ⟨λe=>nab k (gE.2 e) k hk rfl,λe=>nf (e▸cR _ hk),h.fr.lt k (inU k hk)⟩
 have c12:Chg (λk=>M.vB.ownBlock=some k\/k=f) w w2:=(hc1.mono λk _ e=>.inl e).trans (hc2.mono λk _ e=>.inr e);have sub:∀v∈[M.vE,M.vT]++(M.cE++M.cB),∀k,v.ownBlock=some k->¬(M.vB.ownBlock=some k\/k=f):=λv hv k hk e=>by
  have:=rest k (kB hv hk);exact e.elim this.1 this.2.1
 have hOf:∀k,v'.ownBlock=some k->k≠f:=λk hk e=>by
  subst e;rcases hv k hk with e|e
  ·exact nf (eF _ (gE.2 e))
  ·have:=eW h.fr.hf;omega
 have nE:M.vB.ownBlock≠some p:=λe=>h.np (use p e);have pf:p≠f:=λe=>h.np (e▸bC);have perm:=QO M f v' d;have hN:(f::(ub [v']++(ub d++ub ([M.vE,M.vT]++(M.cE++M.cB))))).Nodup:=GH (n:=w.heap.size) (a:=ub [M.vB]) hnd0 (λk hk=>h.fr.lt k (pB.mem_iff.2 hk)) (lF _) (λk hk=>(hv k (gE.1 hk)).imp (λe=>gE.2 e) id) hn λk hk=>⟨(hu k hk).1.2,λe=>(hu k hk).2.2.1 (pB.mem_iff.2 e)⟩;have hz:=c12.size;have mem:∀k∈({M with vB:=v',cB:=M.cB++d}:Lay).uses f,k=f\/v'.ownBlock=some k\/k∈ub d\/k∈ub ([M.vE,M.vT]++(M.cE++M.cB)):=λk hk=>by
  have hk:=perm.mem_iff.1 hk;rcases bW.1 hk with e|e
  ·exact .inl e
  rcases eH.1 e with e|e
  ·exact .inr (.inl (gE.1 e))
  rcases eH.1 e with e|e
  ·exact .inr (.inr (.inl e))
  ·exact .inr (.inr (.inr e))
 have cT:Chg (Tn p f M) w w2:=c12.mono λk _ e=>e.elim (λe=>.inr (.inr (.inr e))) λe=>.inr (.inl e);refine⟨⟨?_,⟨hf,?_,?_,?_,?_,?_,perm.nodup_iff.2 hN,λk hk=>?_,λk hk=>?_⟩,?_,?_,λe=>?_,h.lo,λk hk=>?_⟩,⟨(he.trans (Eff.of cT)).chg,λk hk=>?_,he.hE,λk hk=>(hv k hk).elim (he.hB k) λe=>.inr (by omega),he.hT⟩⟩
 ·refine h.ch.then c12 λk hk e=>?_;rcases e with e|e
  ·exact(h.fr.lo k (use k e)).resolve_right (by omega)
  ·exact e
 ·exact iO h.fr.oE c12 (sub _ (by simp))
 ·rw[bE];exact iO hO hc2 λk hk e=>hOf k hk e
 ·exact iO h.fr.oT c12 (sub _ (by simp))
 ·refine h.fr.ee.imp λx d hd hx=>hx.at_ c12 λk hk=>?_;obtain⟨v,hv,hk⟩:=gA.1 hk;exact sub v (by simp[hd v hv]) k hk
 ·refine nX.snoc ?_ (hd.at_ c12 λk hk e=>?_) (by obtain⟨vl,va,vk,rfl,_⟩:=hd;rfl)
  ·refine h.fr.bb.imp λx d hd hx=>hx.at_ c12 λk hk=>?_;obtain⟨v,hv,hk⟩:=gA.1 hk;exact sub v (by simp[hd v hv]) k hk
  ·have ho:=(hu k hk).2.2.1;rcases e with e|e
   ·exact ho (use k e)
   ·exact ho (e▸bC)
 ·rcases mem k hk with e|e|e|e
  ·rw[e];exact eW hf
  ·exact cL (pU hO e).1 hc2.size
  ·exact cL (hu k e).1.2 hz
  ·exact cL (rest k e).2.2 hz
 ·rcases mem k hk with e|e|e|e
  ·exact .inl e
  ·exact .inr (pU hO e).2
  ·exact .inr (hu k e).1.1
  ·exact h.fr.lo k (inU k e)
 ·exact c12.at h.ps λe=>e.elim nE pf
 ·exact xF h.tk c12 λk hk e=>by
   have:=(h.nt k hk).1;rcases e with e|e
   ·exact this (use k e)
   ·exact this (e▸bC)
 ·rcases mem p e with e|e|e|e
  ·exact pf e
  ·exact(hv p e).elim nE λe=>by have:=h.lt;omega
  ·exact(hu p e).2.1 rfl
  ·exact h.np (inU p e)
 ·have ht:=h.nt k hk;refine⟨λe=>?_,ht.2.1,cL ht.2.2 hz⟩;rcases mem k e with e|e|e|e
  ·exact ht.1 (e▸bC)
  ·exact(hv k e).elim (λe=>ht.1 (use k e)) λe=>by omega
  ·exact(hu k e).2.2.2 hk
  ·exact ht.1 (inU k e)
 ·rcases mem k hk with e|e|e|e
  ·exact he.us k (e▸bC)
  ·exact(hv k e).elim (λe=>he.us k (use k e)) λe=>.inr (by omega)
  ·exact .inr (hnew k e)
  ·exact he.us k (inU k e)
end
structure Gg(F:PS->R Nat):Prop where
 ok:∀N,BOk N F
 z:EZ F
theorem Gd.bk{x:Nat}{s s':PS}{N:Int}{dl:Nat}{F:PS->R Nat}(h:Gd N s dl)(hF:Gg F)(e:F s=.ok x s'):Gd N s' dl/\s.i<s'.i/\s'.toks=s.toks:=by
 have h1:=hF.ok N s h.ws;have h2:=hF.z s;rw[e]at h1 h2;exact⟨h.go h1.1.1 h2,h1.1.2,h1.1.1.toks⟩
section
variable [HX]
variable{w0 w w' w1:World}{p f b:Nat}{M M' M0:Lay}{vt:Value}{s:PS}{top:List Nat}{N:Int}{K:Q0}{e:Ex}{wbn:Nat}{wb:World}{dl:Nat}
structure BL(w0 w:World)(p f:Nat)(M:Lay)(vt:Value)(B1 b4:Nat)(typ:Str)(a:Int)(vl va vb:Value)(ls:List Str)(av:List Atr)(bs:List Nat):Prop where
 l4:Loc w0 w p f M vt b4 BkT [str typ,vl,va,vb,i64 a]
 rL:Ro w0 w p f M vt B1 StT 1 vl ls.length (strs ls)
 rA:Ro w0 w p f M vt B1 AtT 3 va av.length (NF av)
 rB:Ro w0 w p f M vt B1 iG 1 vb bs.length (ints bs)
 d1:∀k,vl.ownBlock=some k->va.ownBlock≠some k
 d2:∀k,vl.ownBlock=some k->vb.ownBlock≠some k
 d3:∀k,va.ownBlock=some k->vb.ownBlock≠some k
 lt:b4<B1/\B1<=w.heap.size
section
variable{B1 b4:Nat}{typ:Str}{a:Int}{vl va vb:Value}{ls:List Str}{av:List Atr}{bs:List Nat}
theorem BL.eff(h:BL w0 w p f M vt B1 b4 typ a vl va vb ls av bs)(he:Eff p f M M' w w'):BL w0 w' p f M' vt B1 b4 typ a vl va vb ls av bs:=
 ⟨h.l4.eff he,h.rL.eff he,h.rA.eff he,h.rB.eff he,h.d1,h.d2,h.d3,h.lt.1,cH h.lt.2 he.chg.size⟩
theorem BL.ext(h:BL w0 w p f M vt B1 b4 typ a vl va vb ls av bs)(hx:Ext w w'):BL w0 w' p f M vt B1 b4 typ a vl va vb ls av bs:=h.eff (Eff.ext hx)
theorem BL.one(h:BL w0 w p f M vt B1 b4 typ a vl va vb ls av bs)(hc:Chg (One b) w w')(hb:b≠b4)(hL:vl.ownBlock≠some b)(hA:va.ownBlock≠some b)(hB:vb.ownBlock≠some b):BL w0 w' p f M vt B1 b4 typ a vl va vb ls av bs:=
 ⟨h.l4.one hc (tS hb),h.rL.one hc hL,h.rA.one hc hA,h.rB.one hc hB,h.d1,h.d2,h.d3,h.lt.1,cH h.lt.2 hc.size⟩
theorem BL.fresh(h:BL w0 w p f M vt B1 b4 typ a vl va vb ls av bs){k:Nat}(hk:w.heap.size<=k):k≠b4/\vl.ownBlock≠some k/\va.ownBlock≠some k/\vb.ownBlock≠some k:=
 ⟨λe=>by have:=h.l4.lt;omega,λe=>by have:=(h.rL.off k e).1.2;omega,λe=>by have:=(h.rA.off k e).1.2;omega,λe=>by have:=(h.rB.off k e).1.2;omega⟩
theorem BL.no4(h:BL w0 w p f M vt B1 b4 typ a vl va vb ls av bs):vl.ownBlock≠some b4/\va.ownBlock≠some b4/\vb.ownBlock≠some b4:=
 ⟨λe=>by have:=h.rL.new _ e;have:=h.lt.1;omega,λe=>by have:=h.rA.new _ e;have:=h.lt.1;omega,λe=>by have:=h.rB.new _ e;have:=h.lt.1;omega⟩
theorem BL.appL{x:Str}{r:Nat}{ty:TypeId}{KW:World->Prop}(h:BL w0 w p f M vt B1 b4 typ a vl va vb ls av bs)(hp:PR w0 w p f M vt s top)(hr:w.heap[r]?=some (.cells [str x].toArray StT (0,0)))(hn:ls.length<=1000000)
  (hK:∀vl' w',BL w0 w' p f M vt B1 b4 typ a vl' va vb (ls++[x]) av bs->PR w0 w' p f M vt s top->Chg (λk=>vl.ownBlock=some k\/k=b4) w w'->(∀b T cs,Loc w0 w p f M vt b T cs->b≠b4->vl.ownBlock≠some b->Loc w0 w' p f M vt b T cs)->(∀k,vl'.ownBlock=some k->vl.ownBlock=some k\/w.heap.size<=k)->KW w'):
  dY P0 (Builtin.append_ #[24,24] ty #[vl,.slice (some ⟨r,0,none⟩) 1 1]) w λt62 w36=>aY 1 (.pointer (some ⟨b4,0,none⟩)) λt63=>stW 1 t63 t62 w36 KW:=by
 refine Ro.app PZ h.rL hp hr rfl (λu hu=>by simp only[bR]at hu;subst hu;rfl) hn (by decide) h.lt.2 λv' w2 hR2 hc hv hp2=>?_;have e1:(ls++[x]).length=ls.length+1:=by simp
 rw[<-e1,show strs ls++[str x]=strs (ls++[x])from by simp[strs]]at hR2;rw[bP,bY,aX];obtain⟨vp,vc,ev,_⟩:=hR2.own.sl.shape;obtain⟨n1,n2,n3⟩:=h.no4;have n1':v'.ownBlock≠some b4:=λe=>by have:=hR2.new b4 e;have:=h.lt.1;omega
 refine(h.l4.row hc n1).st (by rw[ev];rfl) (by simp) λw3 L3 hc3 hz3=>?_;have z:=hc.size;refine hK v' w3 ⟨L3,hR2.one hc3 n1',(h.rA.row hc λk hk e=>h.d1 k e hk).one hc3 n2,(h.rB.row hc λk hk e=>h.d2 k e hk).one hc3 n3,λk hk=>?_,λk hk=>?_,h.d3,h.lt.1,by have:=h.lt.2;omega⟩ (hp2.one hc3 L3.2) ((hc.mono λk _ e=>.inl e).trans (hc3.mono λk _ e=>.inr e)) (λb T cs hL hb hvb=>(hL.row hc hvb).one hc3 hb) hv
 ·exact(hv k hk).elim (h.d1 k) λe e'=>by have:=(h.rA.off k e').1.2;omega
 ·exact(hv k hk).elim (h.d2 k) λe e'=>by have:=(h.rB.off k e').1.2;omega
theorem BL.appA{x:Atr}{r:Nat}{ty:TypeId}{KW:World->Prop}(h:BL w0 w p f M vt B1 b4 typ a vl va vb ls av bs)(hp:PR w0 w p f M vt s top)(hr:w.heap[r]?=some (.cells [str x.n,i64 (x.e:Nat),i64 x.a].toArray AtT (0,0)))(hn:av.length<=1000000)
  (hK:∀va' w',BL w0 w' p f M vt B1 b4 typ a vl va' vb ls (av++[x]) bs->PR w0 w' p f M vt s top->Chg (λk=>va.ownBlock=some k\/k=b4) w w'->(∀b T cs,Loc w0 w p f M vt b T cs->b≠b4->va.ownBlock≠some b->Loc w0 w' p f M vt b T cs)->(∀k,va'.ownBlock=some k->va.ownBlock=some k\/w.heap.size<=k)->KW w'):
  dY P0 (Builtin.append_ #[84,84] ty #[va,.slice (some ⟨r,0,none⟩) 1 1]) w λt62 w36=>dJ (.pointer (some ⟨b4,0,none⟩)) λt63=>aY 2 t63 λt63=>stW 1 t63 t62 w36 KW:=by
 refine Ro.app aBk h.rA hp hr rfl (λu hu=>by simp only[bW,eY,sH]at hu;rcases hu with rfl|rfl|rfl<;>rfl) hn (by decide) h.lt.2 λv' w2 hR2 hc hv hp2=>?_;have e1:(av++[x]).length=av.length+1:=by simp
 rw[<-e1,show NF av++[str x.n,i64 (x.e:Nat),i64 x.a]=NF (av++[x])from by simp[NF]]at hR2;rw[dI,bP,bY,aX];obtain⟨vp,vc,ev,_⟩:=hR2.own.sl.shape;obtain⟨n1,n2,n3⟩:=h.no4;have n2':v'.ownBlock≠some b4:=λe=>by have:=hR2.new b4 e;have:=h.lt.1;omega
 refine(h.l4.row hc n2).st (by rw[ev];rfl) (by simp) λw3 L3 hc3 hz3=>?_;have z:=hc.size;refine hK v' w3 ⟨L3,(h.rL.row hc λk hk e=>h.d1 k hk e).one hc3 n1,hR2.one hc3 n2',(h.rB.row hc λk hk e=>h.d3 k e hk).one hc3 n3,λk hk e=>?_,h.d2,λk hk=>?_,h.lt.1,by have:=h.lt.2;omega⟩ (hp2.one hc3 L3.2) ((hc.mono λk _ e=>.inl e).trans (hc3.mono λk _ e=>.inr e)) (λb T cs hL hb hvb=>(hL.row hc hvb).one hc3 hb) hv
 ·exact(hv k e).elim (λe=>h.d1 k hk e) λe=>by have:=(h.rL.off k hk).1.2;omega
 ·exact(hv k hk).elim (h.d3 k) λe e'=>by have:=(h.rB.off k e').1.2;omega
theorem BL.appB{x:Nat}{r:Nat}{ty:TypeId}{KW:World->Prop}(h:BL w0 w p f M vt B1 b4 typ a vl va vb ls av bs)(hp:PR w0 w p f M vt s top)(hr:w.heap[r]?=some (.cells [i64 (x:Nat)].toArray iG (0,0)))(hn:bs.length<=1000000)
  (hK:∀vb' w',BL w0 w' p f M vt B1 b4 typ a vl va vb' ls av (bs++[x])->PR w0 w' p f M vt s top->Chg (λk=>vb.ownBlock=some k\/k=b4) w w'->(∀b T cs,Loc w0 w p f M vt b T cs->b≠b4->vb.ownBlock≠some b->Loc w0 w' p f M vt b T cs)->(∀k,vb'.ownBlock=some k->vb.ownBlock=some k\/w.heap.size<=k)->KW w'):
  dY P0 (Builtin.append_ #[30,30] ty #[vb,.slice (some ⟨r,0,none⟩) 1 1]) w λt62 w36=>dJ (.pointer (some ⟨b4,0,none⟩)) λt63=>aY 3 t63 λt63=>stW 1 t63 t62 w36 KW:=by
 refine Ro.app Bf h.rB hp hr rfl (λu hu=>by simp only[bR]at hu;subst hu;rfl) hn (by decide) h.lt.2 λv' w2 hR2 hc hv hp2=>?_;have e1:(bs++[x]).length=bs.length+1:=by simp
 rw[<-e1,show ints bs++[i64 (x:Nat)]=ints (bs++[x])from by simp[ints]]at hR2;rw[dI,bP,bY,aX];obtain⟨vp,vc,ev,_⟩:=hR2.own.sl.shape;obtain⟨n1,n2,n3⟩:=h.no4;have n3':v'.ownBlock≠some b4:=λe=>by have:=hR2.new b4 e;have:=h.lt.1;omega
 refine(h.l4.row hc n3).st (by rw[ev];rfl) (by simp) λw3 L3 hc3 hz3=>?_;have z:=hc.size;refine hK v' w3 ⟨L3,(h.rL.row hc λk hk e=>h.d2 k hk e).one hc3 n1,(h.rA.row hc λk hk e=>h.d3 k hk e).one hc3 n2,hR2.one hc3 n3',h.d1,λk hk e=>?_,λk hk e=>?_,h.lt.1,by have:=h.lt.2;omega⟩ (hp2.one hc3 L3.2) ((hc.mono λk _ e=>.inl e).trans (hc3.mono λk _ e=>.inr e)) (λb T cs hL hb hvb=>(hL.row hc hvb).one hc3 hb) hv
 ·exact(hv k e).elim (λe=>h.d2 k hk e) λe=>by have:=(h.rL.off k hk).1.2;omega
 ·exact(hv k e).elim (λe=>h.d3 k hk e) λe=>by have:=(h.rA.off k hk).1.2;omega
theorem Gd.etoks{x:Nat}{s':PS}{F:PS->R Nat}(h:Gd N s dl)(hF:pZ F)(e:F s=.ok x s'):s'.toks=s.toks:=by
 have h1:=hF.ok N s h.ws;rw[e]at h1;exact h1.1.1.toks
theorem Gd.name_back{t:Tok}{s1:PS}(hg:Gd N s dl)(e:kZ s 1=.ok t s1)(hn:(bQ s1 [61]).1=false):
  Gd N {(bQ s1 [61]).2 with i:=(bQ s1 [61]).2.i-1} dl/\s.i<=(bQ s1 [61]).2.i-1/\1<=(bQ s1 [61]).2.i/\(bQ s1 [61]).2.toks=s.toks:=by
 have hk:=hg.kind (by decide) e;have hks:=kY hg.ws 1 (by decide);rw[e]at hks;have e1:s1=step1 (bA s):=by
  unfold kZ at e;split at e
  ·rename_i hk;injection e with _ e
   rw[<-e];unfold iH;rw[aH (by rw[hk];decide)]
  ·cases e
 have t1:=iY hk.1.ws [61];have e2:(bQ s1 [61]).2=bA s1:=by
  unfold bQ at hn⊢;split
  ·rename_i hi;rw[aH hi]at hn;cases hn
  ·rfl
 have hi1:=hk.2.1;have hi2:=t1.1.le;have hgo:Go1 N s {(bQ s1 [61]).2 with i:=(bQ s1 [61]).2.i-1}:=by
  have g:=hks.1.1.trans t1.1;refine⟨g.toks,g.off,g.deep,g.quiet,?_,?_,g.exs⟩
  ·show s.i<=(bQ s1 [61]).2.i-1;omega
  ·show(bQ s1 [61]).2.i-1<(bQ s1 [61]).2.toks.length;have:=g.lt;omega
 refine⟨hg.go hgo ?_,by omega,by omega,(t1.1.toks).trans hks.1.1.toks⟩;have hi:s.i<=(bA s1).i-1:=by rw[<-e2];omega
 have x1:(bA s1).ex=s.ex:=(gN s1).1.trans (by rw[e1];exact(gN s).1);have x2:(bA s1).bl=s.bl:=(gN s1).2.trans (by rw[e1];exact(gN s).2);have x3:(bA s1).toks=s.toks:=by
  have h1:∀s:PS,(bA s).toks=s.toks:=λs=>by unfold bA;split<;>rfl
  rw[h1,e1];exact h1 s
 rw[e2];unfold Syn.phi;simp only;rw[x1,x2,x3];have:=Jt s.toks hi;omega
theorem YS{E B:PS->R Nat}(hE:EC w0 f 82 E dl)(hB:EC w0 f 30 B dl)(hF:pZ E)(hFB:Gg B)(h:PR w0 w p f M vt s top)(hg:Gd N s dl)(hL:BL w0 w p f M vt B1 b4 typ a vl va vb ls av bs)(hal:av.length<=1000000)(hbl:bs.length<=1000000)
  {M0:Lay}{wb:World}(he0:Eff p f M0 M wb w)(hw4:wb.heap.size<=b4)(hwB:wb.heap.size<=B1)
  (hK:∀x s',BK E B s av bs=.ok x s'->∀M' va' vb' w',PR w0 w' p f M' vt s' top->Gd N s' dl->s.i<s'.i->s'.toks=s.toks->x.1.length<=av.length+1->x.2.length<=bs.length+1->Eff p f M0 M' wb w'->BL w0 w' p f M' vt B1 b4 typ a vl va' vb' ls x.1 x.2->
    (∀b T cs,Loc w0 w p f M vt b T cs->b≠b4->va.ownBlock≠some b->vb.ownBlock≠some b->Loc w0 w' p f M' vt b T cs)->(∀k,va'.ownBlock=some k->va.ownBlock=some k\/w.heap.size<=k)->(∀k,vb'.ownBlock=some k->vb.ownBlock=some k\/w.heap.size<=k)->K (.tuple #[]) w')
  (ht:∀c a',BK E B s av bs=.err c a'->Thr w0 f c a'):
  aC P0 53 [.pointer (some ⟨p,0,none⟩),.pointer (some ⟨b4,0,none⟩)] w K:=by
 refine aAa ?_;unfold W53;have hN:=hg.hN;unfold BK at hK ht;refine wN h hg.ws hN hg.l (λt s1 et w1 h1 he1=>?_) λc a' et=>ht c a' (by rw[et];rfl);rw[et]at hK ht;simp only[R.bind]at hK ht;have hk:=hg.kind (by decide) et;have hks:=kY hg.ws 1 (by decide);rw[et]at hks;have hL1:=hL.eff he1;refine bG λb5 w2 hb5 hz2 hbb2 hx2=>?_;have h2:=h1.ext hx2;have L5:=h1.loc hz2 hb5 hbb2;have fr5:=hL1.fresh (k:=b5) (by omega);refine cG (l:=eS t) L5.1 rfl rfl rfl λw3 hz3 hbb3 hc3=>?_;have L5:Loc w0 w3 p f M vt b5 TkT (eS t):=⟨hbb3,L5.2.up (by omega)⟩;have h3:=h2.one hc3 L5.2;have hL3:=(hL1.ext hx2).one hc3 fr5.1 fr5.2.1 fr5.2.2.1 fr5.2.2.2;have hz1:=he1.chg.size;have he3:Eff p f M M w w3:=(he1.x hx2).one hc3 (by omega);refine tL h3 hk.1.ws hN hk.1.l λw4 h4 he4=>?_;have L5:=L5.eff he4;have hL4:=hL3.eff he4;have he4:=he3.trans he4;have hgt:=hk.1.take [61];have tg:=iY hk.1.ws [61];have zz:=he0.chg.size;rw[bS];refine⟨λhy=>?_,λhn=>?_⟩
 ·
  rw[aH hy]at hK ht;have L5:=L5.drew;have hL4:=hL4.ext (cY w4);have h4:=h4.drew;have he4:=he4.x (cY w4);rw[dI,bP,bY,aX];refine hL4.l4.ld rfl ?_;rw[bP,bY,aX];refine L5.ld rfl ?_;rw[bP,bY,aX];refine L5.ld rfl ?_;refine hE w4.drew p M vt _ top N _ h4 hgt (λx s2 ex M2 w5 h5 he5=>?_) λc a' ex=>ht c a' (by rw[ex]);rw[ex]at hK;simp only at hK;obtain⟨g2,i2⟩:=hgt.e hF ex;have t2:=hgt.etoks hF ex;have L5:=L5.eff he5;have hL5:=hL4.eff he5;have he5:=he4.trans he5;refine⟨L5.ld rfl rfl,L5.ld rfl rfl,hL5.l4.ld rfl rfl,?_⟩;simp only[dA,dZ,cU,aA,aL,aW,aZ,Nat.reduceAdd,Nat.reduceLT,dH,aB];refine Av (d:=[str t.t,i64 ((x:Nat):Int),i64 t.a]) rfl rfl λr w6 hr hz6 hrb hx6=>?_;have hL6:=hL5.ext hx6;have he6:=he5.x hx6;have hw6:=he6.chg.size;refine⟨hL6.l4.ld rfl rfl,?_⟩;refine hL6.appA (x:=⟨t.t,x,t.a⟩) (h5.ext hx6) hrb hal λva' w7 hL7 h7 hc7 hl7 hv7=>?_;refine hK _ _ rfl M2 va' vb w7 h7 g2 (by have:=tg.1.le;have:=hk.2.1;omega) (t2.trans (tg.1.toks.trans hks.1.1.toks)) (by simp) (by simp) (((he0.trans he6).then hc7 λk hk' e=>?_)) hL7 (λb T cs hl hb hva hvb=>hl7 b T cs (hl.eff he6) hb hva) (λk hk=>(hv7 k hk).imp id λe=>by omega) λk hk=>.inl hk;rcases e with e|e
  ·have:=hL.rA.new k e;omega
  ·omega
 ·
  have hn:(bQ s1 [61]).1=false:=by simpa using hn
  rw[aD (by rw[hn];decide)]at hK ht;obtain⟨gb,ib,i1,tb⟩:=hg.name_back et hn;refine h4.ld rfl ?_;have hti:=hgt.ws.lt;have htl:=hgt.few;rw[nB,cK (by omega) (by omega),show(((bQ s1 [61]).2.i:Nat):Int)-1=(((bQ s1 [61]).2.i-1:Nat):Int)by omega];refine h4.st_i λw5 h5 he5 hz5=>?_;have hL5:=(hL4.eff he5).ext (cY w5);have h5:=h5.drew;have he5:=(he4.trans he5).x (cY w5);rw[dI,bP,bY,aX];refine hL5.l4.ld rfl ?_;refine hB w5.drew p M vt _ top N _ h5 gb (λx s2 ex M2 w6 h6 he6=>?_) λc a' ex=>ht c a' (by rw[ex]);rw[ex]at hK;simp only at hK;obtain⟨g2,i2,t2⟩:=gb.bk hFB ex;have hL6:=hL5.eff he6;have he6:=he5.trans he6;refine⟨hL6.l4.ld rfl rfl,?_⟩;refine jJ λr w7 hr hz7 hrb hx7=>?_;have hL7:=hL6.ext hx7;have he7:=he6.x hx7;have hw7:=he7.chg.size;refine⟨hL7.l4.ld rfl rfl,?_⟩;refine hL7.appB (h6.ext hx7) hrb hbl λvb' w8 hL8 h8 hc8 hl8 hv8=>?_;refine hK _ _ rfl M2 va vb' w8 h8 g2 (by have i2:(bQ s1 [61]).2.i-1<s2.i:=i2;omega) (t2.trans tb) (by simp) (by simp) ((he0.trans he7).then hc8 λk hk' e=>?_) hL8 (λb T cs hl hb hva hvb=>hl8 b T cs (hl.eff he7) hb hvb) (λk hk=>.inl hk) λk hk=>(hv8 k hk).imp id λe=>by omega
  rcases e with e|e
  ·have:=hL.rB.new k e;omega
  ·omega
end
end
section
variable [HX]
variable{w0 w w' w1:World}{p f:Nat}{M M' M0:Lay}{vt:Value}{s:PS}{top:List Nat}{N:Int}{K:Q0}{e:Ex}{wbn:Nat}{wb:World}{dl:Nat}{B1 b4:Nat}{typ:Str}{a:Int}{vl va vb:Value}{ls:List Str}{av:List Atr}{bs:List Nat}
theorem MU(s:PS):iH (bA s)=iH s:=by unfold iH;rw[kA,gC]
theorem Gd.plain{N:Int}{s s':PS}{t:Tok}{l:Str}(e:oY s t=.ok l s'):s'=s:=by
 unfold oY at e;split at e
 ·cases e
 ·injection e with _ e;exact e.symm
theorem TW{E B:PS->R Nat}{b1:Nat}(hE:EC w0 f 82 E dl)(hB:EC w0 f 30 B dl)(hF:pZ E)(hFB:Gg B)(h:PR w0 w p f M vt s top)(hg:Gd N s dl)(hc0:(cur s).k≠0)(hnow:bA s=s)
  (hL:BL w0 w p f M vt B1 b4 typ a vl (.slice none 0 0) (.slice none 0 0) ls [] [])(L1:Loc w0 w p f M vt b1 PpT [.pointer (some ⟨p,0,none⟩)])(hb1:b1<B1/\b1≠b4)
  {M0:Lay}{wb:World}(he0:Eff p f M0 M wb w)(hw4:wb.heap.size<=b4)(hwB:wb.heap.size<=B1)
  (hK:∀x s',pV E B (s.toks.length+1) (fQ (step1 s)) [] []=.ok x s'->∀M' va' vb' w',PR w0 w' p f M' vt s' top->Gd N s' dl->Eff p f M0 M' wb w'->BL w0 w' p f M' vt B1 b4 typ a vl va' vb' ls x.1 x.2->Loc w0 w' p f M' vt b1 PpT [.pointer (some ⟨p,0,none⟩)]->K (.tuple #[]) w')
  (ht:∀c a',pV E B (s.toks.length+1) (fQ (step1 s)) [] []=.err c a'->Thr w0 f c a'):
  aC P0 51 [.pointer (some ⟨b1,0,none⟩),.pointer (some ⟨b4,0,none⟩)] w K:=by
 refine aAc ?_;unfold W51;have hN:=hg.hN;have hg1:Gd N (step1 s) dl:=by have:=hg.step hc0;rw[hnow]at this;exact this
 have zz:=he0.chg.size;refine L1.ld rfl ?_;refine h.go (wsi hg.ws hg.l) λw1 h1 he1 hz1=>?_;have L1:=L1.eff he1;have hL:=hL.eff he1;have he1:=he0.trans he1;refine L1.ld rfl ?_;refine xM h1 hg1.ws hN hg1.l λw2 h2 he2=>?_;have L1:=L1.eff he2;have hL:=hL.eff he2;have he2:=he1.trans he2;have hg2:=hg1.lines;have et2:=congrArg List.length (lU hg1.ws).1.toks;generalize hR:pV E B (s.toks.length+1) (fQ (step1 s)) [] []=R0 at hK ht;refine cZ.go (λst w'=>st=[]/\∃s1 M1 av bs va vb n,PR w0 w' p f M1 vt s1 top/\Gd N s1 dl/\Eff p f M0 M1 wb w'/\Loc w0 w' p f M1 vt b1 PpT [.pointer (some ⟨p,0,none⟩)]/\BL w0 w' p f M1 vt B1 b4 typ a vl va vb ls av bs/\pV E B n s1 av bs=R0/\s1.toks.length<n+s1.i/\av.length<=s1.i/\bs.length<=s1.i/\s1.toks.length=s.toks.length) (λ_ w'=>s.toks.length-yX w' p)
  ⟨rfl,_,M,[],[],_,_,s.toks.length+1,h2,hg2,he2,L1,hL,hR,by rw[et2];show s.toks.length<_;omega,by simp,by simp,by rw[et2];rfl⟩ ?_
 clear hL L1 h1 h2 he1 he2;rintro st g w3 ⟨rfl,s1,M1,av,bs,va,vb,n,h3,hg3,he3,L1,hL,hit,hn,hal,hbl,htl⟩;have hlt3:=hg3.ws.lt;obtain⟨n,rfl⟩:∃m,n=m+1:=⟨n-1,by omega⟩;simp only[pV]at hit;refine L1.ld rfl ?_;refine tL h3 hg3.ws hN hg3.l λw4 h4 he4=>?_;have L1:=L1.eff he4;have hL:=hL.eff he4;have he4:=he3.trans he4;have hg4:=hg3.take [125];have tg:=iY hg3.ws [125];have tgt:=congrArg List.length tg.1.toks;rw[eD,bS];refine⟨λhn'=>?_,λhy=>?_⟩
 ·have hn':(bQ s1 [125]).1=false:=by simpa using hn'
  rw[aD (by rw[hn'];decide)]at hit;have few:=hg3.few;refine L1.ld rfl ?_;refine YS hE hB hF hFB h4 hg4 hL (by omega) (by omega) he4 hw4 hwB (λx s2 ex M2 va2 vb2 w5 h5 hg5 hi5 ht5 hxa hxb he5 hL5 hl5 hv5 hu5=>?_) λc a' ex=>ht c a' (by rw[<-hit,ex];rfl);rw[ex]at hit;simp only[R.bind]at hit;have ht5:=congrArg List.length ht5;have L1:=hl5 _ _ _ L1 hb1.2 (λe=>by have:=hL.rA.new _ e;have:=hb1.1;omega) (λe=>by have:=hL.rB.new _ e;have:=hb1.1;omega);have hgn:=hg5.now;have hng:=fN hg5.ws;have hngt:=congrArg List.length hng.toks;have hngi:=hng.le;refine bU.cut (λ_ w'=>PR w0 w' p f M2 vt (bA s2) top/\Eff p f M2 M2 w5 w'/\pV E B n (fQ (bA s2)) x.1 x.2=R0) ?_ ?_
  ·refine L1.ld rfl ?_;refine mJ h5 hg5.ws hN hg5.l λw6 h6 he6=>?_;refine⟨i64 (cur s2).k,rfl,?_⟩;dsimp only;rw[fL];have L1:=L1.eff he6;by_cases hk5:(cur s2).k≠5
   ·rw[bF hk5];simp only[gX];refine GdW.act (!isS (bA s2) [125]) (λw'=>PR w0 w' p f M2 vt (bA s2) top/\Eff p f M2 M2 w5 w') (λe=>by cases e) (λ_ J hJ=>?_) λg5 w7 hR7=>?_
    ·refine L1.ld rfl ?_;refine Ai h6 hgn λw7 h7 he7=>?_;rw[eD];rw[gC]at h7;exact hJ w7 ⟨h7,he6.trans he7⟩
    obtain⟨h7,he7⟩:=hR7;simp only[aF,aO,lS];rw[bS];refine⟨λhq=>?_,λhq=>?_⟩
    ·have hq:isS (bA s2) [125]=false:=by simpa using hq
     have L1:Loc w0 w7 p f M2 vt b1 PpT [.pointer (some ⟨p,0,none⟩)]:=(hl5 _ _ _ ‹Loc w0 w4 p f M1 vt b1 PpT [.pointer (some ⟨p,0,none⟩)]› hb1.2 (λe=>by have:=hL.rA.new _ e;have:=hb1.1;omega) (λe=>by have:=hL.rB.new _ e;have:=hb1.1;omega)).eff he7;refine L1.ld rfl ?_;refine mJ h7 hgn.ws hN hgn.l λw8 h8 he8=>?_;refine⟨i64 (cur (bA s2)).a,rfl,?_⟩;refine pD h8 (ht 50 _ ?_);rw[<-hit,aH ⟨hk5,hq⟩]
    ·have hq:isS (bA s2) [125]=true:=by simpa using hq
     rw[aD (λh=>by rw[h.2]at hq;cases hq)]at hit;exact⟨h7,he7,hit⟩
   ·rw[bZ hk5];simp only[gX,yQ];intro g5;rw[rH,cX];rw[aD (λh=>hk5 h.1)]at hit;exact⟨h6,he6,hit⟩
  rintro _ g4 w6 ⟨h6,he6,hit⟩;have L1:=L1.eff he6;refine L1.ld rfl ?_;refine xM h6 hgn.ws hN hgn.l λw7 h7 he7=>?_;have lg:=lU hgn.ws;have lgt:=congrArg List.length lg.1.toks;have lgi:=lg.1.le;have tgi:=tg.1.le;have hgl:=hgn.lines;have hltl:=hgl.ws.lt;refine⟨⟨rfl,fQ (bA s2),M2,x.1,x.2,va2,vb2,n,h7,hgl,(he5.trans he6).trans he7,L1.eff he7,(hL5.eff he6).eff he7,hit,by omega,by omega,by omega,by omega⟩,?_⟩;rw[h7.at_,h3.at_];omega
 ·have hy:(bQ s1 [125]).1=true:=by simpa using hy
  rw[aH hy]at hit;exact hK _ _ hit.symm M1 va vb w4 h4 hg4 he4 hL L1
theorem Mc{E B:PS->R Nat}(hE:∀d,dl=d+1->EC w0 f 82 E d)(hB:∀d,dl=d+1->EC w0 f 30 B d)(hF:pZ E)(hFB:Gg B):EC w0 f 30 (wY E B) dl:=by
 intro w p M vt s top N K h hg hK ht;refine aAo ?_;unfold W30;have hN:=hg.hN;refine rY rfl λb1 w1 hb1 hz1 hbb1 hx1=>?_;have h1:=h.ext hx1;have L1:=h.loc hz1 hb1 hbb1;unfold wY at hK ht;refine L1.ld rfl ?_;refine wN h1 hg.ws hN hg.l (λt s1 et w2 h2 he2=>?_) λc a' et=>ht c a' (by rw[et];rfl);rw[et]at hK ht;simp only[R.bind]at hK ht;obtain⟨hg1,hi1,_⟩:=hg.kind (by decide) et;have hks:=kY hg.ws 1 (by decide);have hkp:=mU s 1;rw[et]at hks hkp;have hkp:=hkp.2 (by decide);have hkt:=congrArg List.length hks.1.1.toks;have L1:=L1.eff he2;have he2:=(Eff.ext hx1).trans he2;have lt1:=L1.lt;have hw2:=he2.chg.size;refine bG λb3 w3 hb3 hz3 hbb3 hx3=>?_;have h3:=h2.ext hx3;have L3:=h2.loc hz3 hb3 hbb3;have L1:=L1.ext hx3;refine cG (l:=eS t) L3.1 rfl rfl rfl λw4 hz4 hbb4 hc4=>?_;have L3:Loc w0 w4 p f M vt b3 TkT (eS t):=⟨hbb4,L3.2.up (by omega)⟩;have h4:=h3.one hc4 L3.2;have L1:=L1.one hc4 (by omega);have he4:=(he2.x hx3).one hc4 (by omega);refine L3.ldf rfl ?_;refine L3.ldf rfl ?_;simp only[dA,dZ,cU,aA,aL,aW,aZ,Nat.reduceAdd,Nat.reduceLT,dH,aB];refine bG λb4 w5 hb4 hz5 hbb5 hx5=>?_;have h5:=h4.ext hx5;have L4:=h4.loc hz5 hb4 hbb5;have L1:=L1.ext hx5;refine cG (l:=[str t.t,.slice none 0 0,.slice none 0 0,.slice none 0 0,i64 t.a]) L4.1 rfl rfl rfl λw6 hz6 hbb6 hc6=>?_;have L4:Loc w0 w6 p f M vt b4 BkT [str t.t,.slice none 0 0,.slice none 0 0,.slice none 0 0,i64 t.a]:=⟨hbb6,L4.2.up (by omega)⟩;have h6:=h5.one hc6 L4.2;have L1:=L1.one hc6 (by omega);have he6:=(he4.x hx5).one hc6 (by omega);have hw6:=he6.chg.size;obtain⟨B1,hB1⟩:∃B1,B1=w6.heap.size:=⟨_,rfl⟩;have hL:BL w0 w6 p f M vt B1 b4 t.t t.a (.slice none 0 0) (.slice none 0 0) (.slice none 0 0) [] [] []:=
  ⟨L4,Ro.nil _ _,Ro.nil _ _,Ro.nil _ _,λk hk=>by simp[Value.ownBlock]at hk,λk hk=>by simp[Value.ownBlock]at hk,λk hk=>by simp[Value.ownBlock]at hk,by omega,by omega⟩
 have hb14:b1<B1/\b1≠b4:=⟨by omega,by omega⟩;have hwB:w.heap.size<=B1:=by omega
 have hw4:w.heap.size<=b4:=by omega
 clear L3 L4 h2 h3 h4 h5 he2 he4;generalize hR:qG (s.toks.length+1) s1 []=R0 at hK ht;refine cZ.go (λst w'=>st=[]/\∃s2 M1 ls vl n,PR w0 w' p f M1 vt s2 top/\Gd N s2 dl/\Eff p f M M1 w w'/\Loc w0 w' p f M1 vt b1 PpT [.pointer (some ⟨p,0,none⟩)]/\BL w0 w' p f M1 vt B1 b4 t.t t.a vl (.slice none 0 0) (.slice none 0 0) ls [] []/\qG n s2 ls=R0/\s2.toks.length<n+s2.i/\ls.length<=s2.i/\s2.toks.length=s.toks.length/\Syn.phi s2+1<=Syn.phi s) (λ_ w'=>s.toks.length-yX w' p)
  ⟨rfl,s1,M,[],_,s.toks.length+1,h6,hg1,he6,L1,hL,hR,by have:=hg1.ws.lt;omega,by simp,hkt,hkp⟩ ?_
 clear hL L1 h6 he6;rintro st g w7 ⟨rfl,s2,M1,ls,vl,n,h7,hg7,he7,L1,hL,hla,hn,hll,htl,hph⟩;have hlt7:=hg7.ws.lt;obtain⟨n,rfl⟩:∃m,n=m+1:=⟨n-1,by omega⟩;simp only[qG]at hla;refine L1.ld rfl ?_;refine mJ h7 hg7.ws hN hg7.l λw8 h8 he8=>?_;have L1:=L1.eff he8;have hL:=hL.eff he8;have he8:=he7.trans he8;have hgn:=hg7.now;refine⟨i64 (cur s2).k,rfl,?_⟩;dsimp only;rw[bL,aM];refine⟨λhk3=>?_,λhk3=>?_⟩
 ·rw[aH hk3]at hla;have htx:=hg7.tx hk3;have L1:=L1.drew;have hL:=hL.ext (cY w8);have h8:=h8.drew;have he8:=he8.x (cY w8);rw[bP,bY,aX];refine hL.l4.ld rfl ?_;refine L1.ld rfl ?_;refine L1.ld rfl ?_;refine Ka h8 hgn.ws hN hgn.l λw9 h9 he9=>?_;rw[MU]at h9;rw[kA];have L1:=L1.eff he9;have hL:=hL.eff he9;have he9:=he8.trans he9;refine⟨L1.ld rfl rfl,hL.l4.ld rfl rfl,?_⟩;have hgx:=hg7.next;refine Li h9 htx.1 (by omega) (λl s3 el w10 hx10=>?_) λc a' el=>ht c a' (by rw[<-hla,el];rfl);have e3:=Gd.plain (N:=N) el;subst e3;rw[el]at hla;simp only[R.bind]at hla;have L1:=L1.ext hx10;have hL:=hL.ext hx10;have h10:=h9.ext hx10;have he10:=he9.x hx10;refine⟨hL.l4.ld rfl rfl,?_⟩;refine vK λr w11 hr hz11 hrb hx11=>?_;have L1:=L1.ext hx11;have hL:=hL.ext hx11;have he11:=he10.x hx11;have hw11:=he11.chg.size;refine⟨hL.l4.ld rfl rfl,?_⟩;have few:=hg7.few;refine hL.appL (h10.ext hx11) hrb (by omega) λvl' w12 hL12 h12 hc12 hl12 hv12=>?_;have L1:=hl12 _ _ _ L1 hb14.2 λe=>by have:=hL.rL.new _ e;have:=hb14.1;omega
  have ng:=qF hg7.ws;have ngt:=congrArg List.length ng.1.toks;have ngi:=ng.2.1 (by rw[hk3];decide);have ngl:=hgx.ws.lt;have nph:=(uF s2).1;refine⟨⟨rfl,iH s2,M1,ls++[l],vl',n,h12,hgx,he11.then hc12 λk hk e=>?_,L1,hL12,hla,by omega,by rw[bE,aA,aL];omega,by omega,by omega⟩,?_⟩
  ·rcases e with e|e
   ·have:=hL.rL.new k e;omega
   ·omega
  ·rw[h12.at_,h7.at_];omega
 ·rw[aD hk3]at hla;rw[<-hla]at hK ht;simp only at hK ht;simp only[gS,kA,gC]at hK ht;refine L1.ld rfl ?_;refine mJ h8 hgn.ws hN hgn.l λw9 h9 he9=>?_;rw[gC]at h9;rw[kA];have L1:=L1.eff he9;have hL:=hL.eff he9;have he9:=he8.trans he9;refine bG λb5 w10 hb5 hz10 hbb10 hx10=>?_;have h10:=h9.ext hx10;have L5:=h9.loc hz10 hb5 hbb10;have fr:=hL.fresh (k:=b5) (by omega);have lt1:=L1.lt;have hw9:=he9.chg.size;refine cG (l:=eS (cur s2)) L5.1 rfl rfl rfl λw11 hz11 hbb11 hc11=>?_;have L5:Loc w0 w11 p f M1 vt b5 TkT (eS (cur s2)):=⟨hbb11,L5.2.up (by omega)⟩;have h11:=h10.one hc11 L5.2;have L1:=(L1.ext hx10).one hc11 (by omega);have hL:=(hL.ext hx10).one hc11 fr.1 fr.2.1 fr.2.2.1 fr.2.2.2;have he11:=(he9.x hx10).one hc11 (by omega);refine bU.cut (λ_ w'=>PR w0 w' p f M1 vt (bA s2) top/\Eff p f M1 M1 w11 w'/\isS s2 [123]=true) ?_ ?_
  ·refine L1.ld rfl ?_;refine Ai h11 hgn λw12 h12 he12=>?_;rw[gC]at h12;rw[gS,eD,bS];refine⟨λhi=>?_,λhi=>⟨h12,he12,by simpa using hi⟩⟩;have hi:isS s2 [123]=false:=by simpa using hi
   refine(L5.eff he12).ldf rfl ?_;exact pD h12 (ht _ _ (by rw[aH hi]))
  rintro _ g2 w12 ⟨h12,he12,hi⟩;rw[aD (by rw[hi];decide)]at hK ht;have L1:=L1.eff he12;have L5:=L5.eff he12;have hL:=hL.eff he12;have he12:=he11.trans he12;refine L1.ld rfl ?_;refine L5.ldf rfl ?_;have hlev:=hgn.lev;refine nZ h12 (by omega) (λhd=>ht 7 _ (by rw[sO hd])) λhd w13 h13 he13=>?_;obtain⟨d,rfl⟩:∃d,dl=d+1:=⟨dl-1,by omega⟩;rw[vX hd]at hK ht;obtain⟨q1,q2,q3,q4⟩:=hg7.sign hi false;have ntl:=congrArg List.length (fN hg7.ws).toks;refine jI (caps:=[.pointer (some ⟨b1,0,none⟩),.pointer (some ⟨b4,0,none⟩)]) ?_;have ph2:Syn.phi (bA s2)<=Syn.phi s2:=jL s2;have efuel:({bA s2 with deep:=(bA s2).deep+1,quiet:=false}:PS).toks.length+1=s.toks.length+1:=by show(bA s2).toks.length+1=_;omega
  have efuel2:(bA s2).toks.length+1=s.toks.length+1:=by omega
  refine TW (hE d rfl) (hB d rfl) hF hFB h13 q1 q3 q2 (hL.eff he13) (L1.eff he13) hb14 (he12.trans he13) hw4 hwB (λx s3 ex M3 va vb w14 h14 hg14 he14 hL14 L1=>?_) λc a' ex=>ht c a' ?_
  ·rw[efuel]at ex;rw[ex]at hK;simp only[R.bind]at hK;have g14l:=hg14.lev;refine⟨M3,s3,h14,by omega,λw15 h15 he15=>?_⟩;have L1:=(L1.eff he15).drew;have hL:=(hL14.eff he15).ext (cY w15);have h15:=h15.drew;have he15:=(he14.trans he15).x (cY w15);have hg15:Gd N {s3 with deep:=(bA s2).deep,quiet:=(bA s2).quiet} (d+1):=hgn.back hg14;generalize hs4:({s3 with deep:=(bA s2).deep,quiet:=(bA s2).quiet}:PS)=s4 at*
   have s4b:s4.bl=s3.bl:=by rw[<-hs4]
   have hbl:=hg15.ex.2;have hw15:=he15.chg.size;have cF:∀{w':World},w'.heap[p]?=some (.cells [vt,i64 (s4.i:Nat),i64 s4.off,.pointer (some ⟨f,0,none⟩),i64 (s4.deep:Nat),.bool s4.quiet].toArray PsT (0,0))->w'.cell? ((⟨p,0,none⟩:Addr).add 3)=some (.pointer (some ⟨f,0,none⟩)):=by
    intro w' h;rw[bY,cC,h,cN];rfl
   have cB:∀{w':World} {u v:Value} {r:List Value},w'.heap[f]?=some (.cells (u::v::r).toArray FlT (0,0))->w'.cell? ((⟨f,0,none⟩:Addr).add 1)=some v:=by
    intro w' u v r h;rw[bY,cC,h,cN];rfl
   have ld1:∀{w':World} {M':Lay},Loc w0 w' p f M' vt b1 PpT [.pointer (some ⟨p,0,none⟩)]->ldW false 1 (.pointer (some ⟨b1,0,none⟩)) w' λx=>x=.pointer (some ⟨p,0,none⟩):=λL=>L.ld rfl rfl;have use:∀k,M3.vB.ownBlock=some k->k∈M3.uses f:=λk hk=>aS _ (kB (v:=M3.vB) (by simp) hk);have nE:¬M3.vB.ownBlock=some p:=λe=>h15.np (use p e);have nF:¬M3.vB.ownBlock=some f:=λe=>by
    have hnd:=(Jz M3 f).nodup_iff.1 h15.fr.nd;rw[iS]at hnd;exact hnd.1 (eF _ (gE.2 e))
   have n1:¬M3.vB.ownBlock=some b1:=λe=>L1.2.2.2.1 (use b1 e);refine L1.ld rfl ?_;rw[dI,bP,dM];refine⟨_,cF h15.ps,?_⟩;refine L1.ld rfl ?_;rw[dI,bP,dM];refine⟨_,cF h15.ps,?_⟩;rw[dI,bP,dM];refine⟨_,cB h15.fr.hf,?_⟩;refine bX hL.l4.1 rfl ?_;refine Av rfl rfl λr w16 hr hz16 hrb hx16=>?_;have h16:=h15.ext hx16;have L16:=L1.ext hx16;refine⟨by rw[dM];exact⟨_,cB h16.fr.hf,rfl⟩,by rw[dM];exact⟨_,cF h16.ps,rfl⟩,ld1 L16,by rw[dM];exact⟨_,cF h16.ps,rfl⟩,ld1 L16,?_⟩;have hc0:Chg (λk=>M3.vB.ownBlock=some k) w15.drew w16:=Chg.of_ext hx16;obtain⟨lp,lc,el1,_⟩:=hL.rL.own.sl.shape;obtain⟨ap,ac,ea1,_⟩:=hL.rA.own.sl.shape;obtain⟨bp,bc,eb1,_⟩:=hL.rB.own.sl.shape;refine jG aBj h16.fr.oB (qR (n:=1) (T:=BkT) hrb) rfl (λu hu=>by
    simp only[bW,eY,sH]at hu;rcases hu with rfl|rfl|rfl|rfl|rfl
    ·rfl
    ·rw[el1];rfl
    ·rw[ea1];rfl
    ·rw[eb1];rfl
    ·rfl) (by omega) (by omega) h16.base λv' w17 hO17 hc17 hv17=>?_
   have hp17:=hc17.at h16.ps nE;have hf17:=hc17.at h16.fr.hf nF;refine⟨by rw[dM];exact⟨_,cF hp17,rfl⟩,ld1 (M':=M3) ⟨hc17.at L16.1 n1,L16.2.up hc17.size⟩,?_⟩;rw[dI,bP,bY,aX];obtain⟨vp,vc,ev,_⟩:=hO17.sl.shape;refine iT hf17 (by rw[ev];rfl) (by simp) λw18 hz18 hf18 hc18=>?_;have L18:Loc w0 w17 p f M3 vt b1 PpT [.pointer (some ⟨p,0,none⟩)]:=⟨hc17.at L16.1 n1,L16.2.up hc17.size⟩;have nf1:b1≠f:=λe=>L16.2.2.2.1 (e▸bC);have L19:=L18.one hc18 nf1;have hzx:=hx16.size;have hub:∀k,k∈ub [str t.t,vl,va,vb,i64 t.a]↔vl.ownBlock=some k\/va.ownBlock=some k\/vb.ownBlock=some k:=λk=>by
    rw[show [str t.t,vl,va,vb,i64 t.a]=[str t.t]++([vl]++([va]++([vb]++[i64 t.a])))from rfl];simp only[tK,eH,gE];simp[Value.ownBlock]
   have hnd:(ub [str t.t,vl,va,vb,i64 t.a]).Nodup:=by
    rw[show [str t.t,vl,va,vb,i64 t.a]=[str t.t]++([vl]++([va]++([vb]++[i64 t.a])))from rfl];simp only[tK];rw[show ub [str t.t]=[]from rfl,show ub [i64 t.a]=[]from rfl,eQ,eA];refine fC.2 ⟨lF _,fC.2 ⟨lF _,lF _,λx hx y hy e=>by subst e;exact hL.d3 x (gE.1 hx) (gE.1 hy)⟩,λx hx y hy e=>?_⟩;subst e;rcases eH.1 hy with hy|hy
    ·exact hL.d1 x (gE.1 hx) (gE.1 hy)
    ·exact hL.d2 x (gE.1 hx) (gE.1 hy)
   obtain⟨h20,he20⟩:=h15.putB (w1:=w17) (w2:=w18) (v':=v') he15 (e:=⟨t.t,ls,x.1,x.2,t.a⟩) ⟨vl,va,vb,rfl,hL.rL.own,hL.rA.own,hL.rB.own⟩ (λk hk=>by
    rcases(hub k).1 hk with e|e|e
    ·exact hL.rL.off k e
    ·exact hL.rA.off k e
    ·exact hL.rB.off k e) hnd (λk hk=>by
    rcases(hub k).1 hk with e|e|e
    ·have:=hL.rL.new k e;omega
    ·have:=hL.rA.new k e;omega
    ·have:=hL.rB.new k e;omega) hO17 (hc0.trans hc17) (λk hk=>(hv17 k hk).imp id λe=>by omega) hc18 (by rw[hf18];simp)
   refine L19.ld rfl ?_;rw[dI,bP,dM];refine⟨_,cF h20.ps,?_⟩;rw[dI,bP,dM];refine⟨_,cB h20.fr.hf,?_⟩;dsimp only;rw[ev,Cr,nB,cK (by omega) (by omega)];have e1:((s4.bl.length+1:Nat):Int)-1=(s4.bl.length:Nat):=by omega
   rw[e1];subst hs4;exact hK _ _ rfl _ w18 h20 he20
  ·rw[efuel]at ex;rw[ex];rfl
theorem Ky:Gg dead:=⟨IW,wU⟩
theorem BO(d:Nat):Gg (Br d):=⟨λN=>FU N d,Jf d⟩
theorem Jg(hS:xA w0 f):∀dl,EC w0 f 30 (Br dl) dl
 |0=>Mc (λd e=>by omega) (λd e=>by omega) uK Ky
 |d+1=>by
  have ih:=Jg hS d
  refine Mc (λd' e=>?_) (λd' e=>?_) (DJ d).1 (BO d)
  ·have e:d'=d:=by omega
   subst e;exact(LM hS d').1
  ·have e:d'=d:=by omega
   subst e;exact ih
end
theorem Mf(v:Value)(w:World):(Instr.typeAssert (.iface DT v) 20 DT false).run P0 w=.ok v w:=by kernel_rfl
theorem OX(w:World)(K:Value->Prop):eqQ P0 .neq 20 false true .nilIface .nilIface w K↔K (.bool false):=by
 have h:(do eqGuard .neq 20 (qA false) (qA true) .nilIface .nilIface;binOp .neq 20 .nilIface .nilIface:Sem Value).run P0 w=.ok (.bool false) w:=by kernel_rfl
 unfold eqQ mS;rw[h];exact⟨λ⟨v,h1,h2⟩=>by cases h1;exact h2,λh2=>⟨_,rfl,h2⟩⟩
theorem JZ(v:Value)(w:World)(K:Value->Prop):eqQ P0 .neq 20 false true (.iface DT v) .nilIface w K↔K (.bool true):=by
 have h:(do eqGuard .neq 20 (qA false) (qA true) (.iface DT v) .nilIface;binOp .neq 20 (.iface DT v) .nilIface:Sem Value).run P0 w=.ok (.bool true) w:=by kernel_rfl
 unfold eqQ mS;rw[h];exact⟨λ⟨v,h1,h2⟩=>by cases h1;exact h2,λh2=>⟨_,rfl,h2⟩⟩
theorem OC{a b:Value}{K:World->Prop}(hK:K w):vV P0 27 [a,b] .returning w K:=by
 letI:=noX;refine QA .idle ?_;unfold R27;rw[OX,cX];exact hK
theorem JO{a b d:Nat}{Ta Tb:TypeId}{K:World->Prop}(ha:w.heap[a]?=some (.cells cs.toArray Ta (0,0)))(hl:cs.length=3)(hb:w.heap[b]?=some (.cells [v].toArray Tb (0,0)))(hab:a≠b)
  (hK:∀w',Chg (λk=>k=a\/k=b) w w'->w'.heap[a]?=some (.cells [.slice none 0 0,.slice none 0 0,.slice none 0 0].toArray Ta (0,0))->w'.heap[b]?=some (.cells [.pointer (some ⟨d,0,none⟩)].toArray Tb (0,0))->K w'):
  vV P0 27 [.pointer (some ⟨a,0,none⟩),.pointer (some ⟨b,0,none⟩)] (.panicking [{v:=.iface DT (.pointer (some ⟨d,0,none⟩)),recovered:=false}]) w K:=by
 letI:=noX;refine QA (.thrown _) ?_;unfold R27;rw[JZ,dR,cU];refine⟨_,Mf _ _,?_⟩;refine cG (l:=[.slice none 0 0,.slice none 0 0,.slice none 0 0]) (w:=w.drew) ha rfl hl rfl λw2 hz2 ha2 hc2=>?_;refine⟨⟨_,Mf _ _,rfl⟩,?_⟩;have hb2:=hc2.at (w:=w.drew) hb (λe=>hab e.symm);refine iT hb2 rfl (by simp) λw3 hz3 hb3 hc3=>?_;refine hK w3 ?_ (hc3.at ha2 hab) (by rw[hb3];simp);exact((Chg.drew (Chg.refl _ w)).trans (hc2.mono λk _ e=>.inl e)).trans (hc3.mono λk _ e=>.inr e)
structure FO(w:World)(B:Nat)(M:Lay)(fl:Fl):Prop where
 oE:Own w B ExT 5 M.vE fl.ex.length M.cE
 oB:Own w B BkT 5 M.vB fl.bl.length M.cB
 oT:Own w B iG 1 M.vT fl.top.length (ints fl.top)
 ee:nX (ExR w B) 5 fl.ex M.cE
 bb:nX (BkR w B) 5 fl.bl M.cB
 nd:(ub ([M.vE,M.vB,M.vT]++(M.cE++M.cB))).Nodup
 lt:∀k∈ub ([M.vE,M.vB,M.vT]++(M.cE++M.cB)),k<w.heap.size
 lo:∀k∈ub ([M.vE,M.vB,M.vT]++(M.cE++M.cB)),B<=k
theorem FR.out{B f:Nat}{M:Lay}{ex:List Ex}{bl:List Blk}{top:List Nat}(h:FR w B f M ex bl top):FO w B M ⟨ex,bl,top⟩:=by
 have hn:=h.nd;unfold Lay.uses at hn;rw[iS]at hn;exact⟨h.oE,h.oB,h.oT,h.ee,h.bb,hn.2,λk hk=>h.lt k (aS _ hk),λk hk=>(h.lo k (aS _ hk)).resolve_left λe=>hn.1 (e▸hk)⟩
theorem FO.keep{B:Nat}{M:Lay}{fl:Fl}(h:FO w B M fl)(hc:Chg S w w')(hS:∀k,B<=k->k<w.heap.size->k∈ub ([M.vE,M.vB,M.vT]++(M.cE++M.cB))->¬S k):FO w' B M fl:=by
 have hu:∀v∈[M.vE,M.vB,M.vT]++(M.cE++M.cB),∀k,v.ownBlock=some k->¬S k:=λv hv k hk=>hS k (h.lo k (kB hv hk)) (h.lt k (kB hv hk)) (kB hv hk);refine⟨iO h.oE hc (hu _ (by simp)),iO h.oB hc (hu _ (by simp)),iO h.oT hc (hu _ (by simp)),?_,?_,h.nd,λk hk=>cL (h.lt k hk) hc.size,h.lo⟩
 ·refine h.ee.imp λx d hd hx=>hx.at_ hc λk hk=>?_;obtain⟨v,hv,hk⟩:=gA.1 hk;exact hu v (by simp[hd v hv]) k hk
 ·refine h.bb.imp λx d hd hx=>hx.at_ hc λk hk=>?_;obtain⟨v,hv,hk⟩:=gA.1 hk;exact hu v (by simp[hd v hv]) k hk
theorem ExR.low{B B':Nat}{e:Ex}{d:List Value}(h:ExR w B e d)(hb:B'<=B):ExR w B' e d:=by
 obtain⟨va,vk,e1,h1,h2⟩:=h;exact⟨va,vk,e1,h1.base hb,h2.base hb⟩
theorem BkR.low{B B':Nat}{e:Blk}{d:List Value}(h:BkR w B e d)(hb:B'<=B):BkR w B' e d:=by
 obtain⟨vl,va,vk,e1,h1,h2,h3⟩:=h;exact⟨vl,va,vk,e1,h1.base hb,h2.base hb,h3.base hb⟩
theorem FO.low{B B':Nat}{M:Lay}{fl:Fl}(h:FO w B M fl)(hb:B'<=B):FO w B' M fl:=
 ⟨h.oE.base hb,h.oB.base hb,h.oT.base hb,h.ee.imp λx d _ hx=>hx.low hb,h.bb.imp λx d _ hx=>hx.low hb,h.nd,h.lt,λk hk=>cH hb (h.lo k hk)⟩
section
variable{w0 w w1 w2:World}{p f:Nat}{M:Lay}{vt:Value}{s:PS}{top:List Nat}
theorem Jw(M:Lay)(f:Nat):(M.uses f).Perm (f::(ub [M.vT]++ub ([M.vE,M.vB]++(M.cE++M.cB)))):=by
 rw[CB];intro a;unfold Lay.uses;simp only[tK,kU,Cf];rw[uP M.vE,uP M.vB,uP M.vE [M.vB]];simp only[kU];omega
theorem PR.putT(h:PR w0 w p f M vt s top){x:Nat}{v':Value}(hO:Own w1 w0.heap.size iG 1 v' (top.length+1) (ints top++[i64 (x:Nat)]))(hc1:Chg (λk=>M.vT.ownBlock=some k) w w1)(hv:∀k,v'.ownBlock=some k->M.vT.ownBlock=some k\/w.heap.size<=k)
  (hc2:Chg (One f) w1 w2)(hf:w2.heap[f]?=some (.cells [M.vE,M.vB,v'].toArray FlT (0,0))):PR w0 w2 p f {M with vT:=v'} vt s (top++[x]):=by
 have hb:=h.base;have pT:=Jw M f;have use:∀k,M.vT.ownBlock=some k->k∈M.uses f:=λk hk=>aS _ (kB (v:=M.vT) (by simp) hk);have hnd0:=pT.nodup_iff.1 h.fr.nd;have hnd:=hnd0;rw[iS,fC]at hnd;obtain⟨nf,_,nb,nab⟩:=hnd;have inU:∀k∈ub ([M.vE,M.vB]++(M.cE++M.cB)),k∈M.uses f:=λk hk=>pT.mem_iff.2 (aS _ (cR _ hk));have rest:∀k∈ub ([M.vE,M.vB]++(M.cE++M.cB)),M.vT.ownBlock≠some k/\k≠f/\k<w.heap.size:=λk hk=>
  ⟨λe=>nab k (gE.2 e) k hk rfl,λe=>nf (e▸cR _ hk),h.fr.lt k (inU k hk)⟩
 have c12:Chg (λk=>M.vT.ownBlock=some k\/k=f) w w2:=(hc1.mono λk _ e=>.inl e).trans (hc2.mono λk _ e=>.inr e);have sub:∀v∈[M.vE,M.vB]++(M.cE++M.cB),∀k,v.ownBlock=some k->¬(M.vT.ownBlock=some k\/k=f):=λv hv k hk e=>by
  have:=rest k (kB hv hk);exact e.elim this.1 this.2.1
 have hOf:∀k,v'.ownBlock=some k->k≠f:=λk hk e=>by
  subst e;rcases hv k hk with e|e
  ·exact nf (eF _ (gE.2 e))
  ·have:=eW h.fr.hf;omega
 have nE:M.vT.ownBlock≠some p:=λe=>h.np (use p e);have pf:p≠f:=λe=>h.np (e▸bC);have perm:=Jw {M with vT:=v'} f;have hN:(f::(ub [v']++([]++ub ([M.vE,M.vB]++(M.cE++M.cB))))).Nodup:=GH (n:=w.heap.size) (a:=ub [M.vT]) hnd0 (λk hk=>h.fr.lt k (pT.mem_iff.2 hk)) (lF _) (λk hk=>(hv k (gE.1 hk)).imp (λe=>gE.2 e) id) List.nodup_nil λk hk=>by cases hk
 have hz:=c12.size;have mem:∀k∈({M with vT:=v'}:Lay).uses f,k=f\/v'.ownBlock=some k\/k∈ub ([M.vE,M.vB]++(M.cE++M.cB)):=λk hk=>by
  have hk:=perm.mem_iff.1 hk;rcases bW.1 hk with e|e
  ·exact .inl e
  rcases eH.1 e with e|e
  ·exact .inr (.inl (gE.1 e))
  ·exact .inr (.inr e)
 refine⟨?_,⟨hf,?_,?_,?_,?_,?_,perm.nodup_iff.2 hN,λk hk=>?_,λk hk=>?_⟩,?_,?_,λe=>?_,h.lo,λk hk=>?_⟩
 ·refine h.ch.then c12 λk hk e=>?_;rcases e with e|e
  ·exact(h.fr.lo k (use k e)).resolve_right (by omega)
  ·exact e
 ·exact iO h.fr.oE c12 (sub _ (by simp))
 ·exact iO h.fr.oB c12 (sub _ (by simp))
 ·rw[bE,aA,aL,Ds];exact iO hO hc2 λk hk e=>hOf k hk e
 ·refine h.fr.ee.imp λx d hd hx=>hx.at_ c12 λk hk=>?_;obtain⟨v,hv,hk⟩:=gA.1 hk;exact sub v (by simp[hd v hv]) k hk
 ·refine h.fr.bb.imp λx d hd hx=>hx.at_ c12 λk hk=>?_;obtain⟨v,hv,hk⟩:=gA.1 hk;exact sub v (by simp[hd v hv]) k hk
 ·rcases mem k hk with e|e|e
  ·rw[e];exact eW hf
  ·exact cL (pU hO e).1 hc2.size
  ·exact cL (rest k e).2.2 hz
 ·rcases mem k hk with e|e|e
  ·exact .inl e
  ·exact .inr (pU hO e).2
  ·exact h.fr.lo k (inU k e)
 ·exact c12.at h.ps λe=>e.elim nE pf
 ·exact xF h.tk c12 λk hk e=>by
   have:=(h.nt k hk).1;rcases e with e|e
   ·exact this (use k e)
   ·exact this (e▸bC)
 ·rcases mem p e with e|e|e
  ·exact pf e
  ·exact(hv p e).elim nE λe=>by have:=h.lt;omega
  ·exact h.np (inU p e)
 ·have ht:=h.nt k hk;refine⟨λe=>?_,ht.2.1,cL ht.2.2 hz⟩;rcases mem k e with e|e|e
  ·exact ht.1 (e▸bC)
  ·exact(hv k e).elim (λe=>ht.1 (use k e)) λe=>by omega
  ·exact ht.1 (inU k e)
end
def wZ(w:World):Prop:=∃m,w.cell? ⟨0,0,none⟩=some (.int .i64 m)
section
variable [HX]
def Xe:Prop:=∀(w:World) (K:Q0) (s:Str),wZ w->s.length<=1000000->
 (∀l,pK s=.ok l->∀v w',Ext w w'->SlAt w' TkT v l.length (toks l)->(∀k,v.ownBlock=some k->w.heap.size<=k/\k<w'.heap.size)->K (.tuple #[v,.pointer none]) w')->
 (∀c a,pK s=.bad c a->∀d w',Ext w w'->w.heap.size<=d->w'.heap[d]?=some (.cells [i64 c,str [],i64 a].toArray 53 (0,0))->K (.tuple #[.slice none 0 0,.pointer (some ⟨d,0,none⟩)]) w')->
 aC P0 26 [str s] w K
end
theorem wZ.chg{f:Nat}(h:wZ w)(hc:Chg (Of f) w w')(hf:w.heap[f]?=some (.cells cs.toArray FlT (0,0)))(h0:∀m,cs[0]?≠some (.int .i64 m)):wZ w':=by
 obtain⟨m,h⟩:=h;refine⟨m,?_⟩;rw[cC]at h⊢;cases hx:w.heap[0]? with
 |none=>rw[hx]at h;cases h
 |some o=>
  rw[hc.at hx ?_]
  ·rw[hx]at h;exact h
  ·intro e;have e:0=f:=e;subst e;rw[hf,cN]at h;exact h0 m (by simpa using h)
theorem Ts[HX](hS:∀[HX],Xe){t:Str}{K:Q0}(hT:wZ w)(hl:t.length<=1000000)
  (hok:∀fl,parseM t=.ok fl->∀M w',Ext w w'->FO w' w.heap.size M fl->(fl.ex.length<=100000/\fl.bl.length<=100000/\fl.top.length<=100000)->K (.tuple #[.agg [M.vE,M.vB,M.vT].toArray,.pointer none]) w')
  (hbad:∀c a,parseM t=.bad c a->∀d w',Ext w w'->w.heap.size<=d->w'.heap[d]?=some (.cells [i64 c,str [],i64 a].toArray 53 (0,0))->K (.tuple #[.agg [.slice none 0 0,.slice none 0 0,.slice none 0 0].toArray,.pointer (some ⟨d,0,none⟩)]) w'):
  aC P0 10 [str t] w K:=by
 refine aAC ?_;unfold W10;refine bG λf w1 hf hz1 hbb1 hx1=>?_;refine bG λbd w2 hbd hz2 hbb2 hx2=>?_;have hx02:=hx1.trans hx2;have hf2:=hx2.at hbb1 id;have hT2:wZ w2:=by
  obtain⟨m,h⟩:=hT;refine⟨m,?_⟩;rw[cC]at h⊢;cases hx:w.heap[0]? with
  |none=>rw[hx]at h;cases h
  |some o=>rw[hx02.at hx id];rw[hx]at h;exact h
 unfold parseM at hok hbad;refine hS w2 _ t hT2 hl (λl hsc v w3 hx3 hv hvn=>?_) (λc a hsc d w3 hx3 hd hdb=>?_)
 ·rw[bJ];refine⟨v,rfl,?_⟩;rw[bJ];refine⟨.pointer none,rfl,?_⟩;have hbd3:=hx3.at hbb2 id;have hf3:=hx3.at hf2 id;refine iT hbd3 rfl (by simp) λw4 hz4 hbb4 hc4=>?_;have hbb4:w4.heap[bd]?=some (.cells [.pointer none].toArray 33 (0,0)):=by rw[hbb4];simp
  have hf4:=hc4.at hf3 (by omega);refine⟨.pointer none,by rw[cC,hbb4];rfl,?_⟩;show aR (.bool false) _ _;rw[cX];have hx4:Ext w w4:=(hx02.trans hx3).new (hc4.mono λk _ e=>e) (by omega);have hlt4:=eW hf4;have hT4:wZ w4:=by
   obtain⟨m,h⟩:=hT;refine⟨m,?_⟩;rw[cC]at h⊢;cases hx:w.heap[0]? with
   |none=>rw[hx]at h;cases h
   |some o=>rw[hx4.at hx id];rw[hx]at h;exact h
  have hv4:SlAt w4 TkT v l.length (toks l):=xF hv hc4 λk hk e=>by have:=(hvn k hk).1;have e:k=bd:=e;omega
  letI inst:HX:=⟨λch x10=>vV P0 27 [.pointer (some ⟨f,0,none⟩),.pointer (some ⟨bd,0,none⟩)] (.panicking ch) x10 λw10=>
   ldW true 3 (.pointer (some ⟨f,0,none⟩)) w10 λr11=>
   ldW false 1 (.pointer (some ⟨bd,0,none⟩)) w10 λr12=>
   K (.tuple #[r11,r12]) w10⟩
  have hSC:xA w4 f:=λw' KK s hc hsl h1 h2=>hS w' KK s (hT4.chg hc hf4 (by simp)) hsl h1 h2;have hThr:∀c a,(∀d w',Ext w w'->w.heap.size<=d->w'.heap[d]?=some (.cells [i64 c,str [],i64 a].toArray 53 (0,0))->K (.tuple #[.agg [.slice none 0 0,.slice none 0 0,.slice none 0 0].toArray,.pointer (some ⟨d,0,none⟩)]) w')->Thr w4 f c a:=by
   intro c a hb d w' cs hc hd hcs hcf hdb;have hzc:=hx4.size;refine JO hcf hcs (hc.at hbb4 (by show¬bd=f;omega)) (by omega) λw5 hc5 ha5 hb5=>?_;refine bX ha5 rfl ?_;refine⟨_,by rw[cC,hb5];rfl,?_⟩;have hd':w4.heap.size<=d:=hd;have hzx3:=hx3.size;refine hb d w5 ?_ (by omega) (hc5.at hdb (by show¬(d=f\/d=bd);omega));refine(hx4.then hc λk hk e=>?_).then hc5 λk hk e=>?_
   ·have e:k=f:=e;omega
   ·omega
  obtain⟨q,cap,ev,_⟩:=hv.shape;subst ev;simp only[gB,dA,Gx,cU,aA,aL,aW,aZ,Nat.reduceAdd,Nat.reduceLT,dH,aB];refine fS (z:=[.slice q l.length cap,i64 0,i64 0,.pointer (some ⟨f,0,none⟩),i64 0,.bool false]) λp w5 hp hz5 hpb hx5=>?_;have hzx3:=hx3.size;have hf5:=hx5.at hf4 id;have hbd5:=hx5.at hbb4 id;let M0:Lay:=⟨.slice none 0 0,.slice none 0 0,.slice none 0 0,[],[]⟩;have huse:M0.uses f=[f]:=rfl;have hPR:PR w4 w5 p f M0 (.slice q l.length cap) ⟨l,0,0,0,false,[],[]⟩ []:=
   ⟨Chg.of_ext hx5,⟨hf5,⟨by simp[M0],.inl ⟨rfl,rfl⟩⟩,⟨by simp[M0],.inl ⟨rfl,rfl⟩⟩,⟨by simp[ints],.inl ⟨rfl,rfl⟩⟩,nX.nil _ _,nX.nil _ _,by rw[huse];simp,by rw[huse];intro k hk;simp only[bR]at hk;omega,by rw[huse];intro k hk;simp only[bR]at hk;exact .inl hk⟩,
    hpb,hv4.ext hx5,by rw[huse];simp only[bR];omega,by omega,λk hk=>by
     have hb:=hvn k hk;rw[huse];simp only[bR];omega⟩
  have htg:=Gr (N:=(t.length:Nat)) (off:=0) hsc (nM _) (by omega);have hfew:=Hr hsc;have hwt:=Gq hsc;have hg0:Gd (t.length:Nat) ⟨l,0,0,0,false,[],[]⟩ 24:=⟨⟨htg,dF.2 htg.ne,by omega⟩,by omega,hfew.1,Ld hsc,by unfold Syn.phi;simp only[aL,cV];omega,rfl⟩;rw[hsc]at hok hbad;simp only at hok hbad;have hN:=hg0.hN;refine xM hPR hg0.ws hN hg0.l λw6 h6 he6=>?_;have hg1:=hg0.lines;have et1:=congrArg List.length (lU hg0.ws).1.toks;generalize hR:Mo (l.length+1) (fQ ⟨l,0,0,0,false,[],[]⟩) []=R0 at hok hbad;have hbdk:∀{w':World},Chg (Of f) w4 w'->w'.heap[bd]?=some (.cells [.pointer none].toArray 33 (0,0)):=λhc=>hc.at hbb4 (by show¬bd=f;omega);refine cZ.go (λst w'=>st=[]/\∃s1 M1 top n,PR w4 w' p f M1 (.slice q l.length cap) s1 top/\Gd (t.length:Nat) s1 24/\Mo n s1 top=R0/\s1.toks.length<n+s1.i/\top.length<=s1.i/\s1.toks.length=l.length) (λ_ w'=>l.length-yX w' p)
   ⟨rfl,_,M0,[],l.length+1,h6,hg1,hR,by rw[et1];show l.length<_;omega,by simp,by rw[et1]⟩ ?_
  rintro st g w7 ⟨rfl,s1,M1,top,n,h7,hg7,htop,hn,htl,htk⟩;have hlt7:=hg7.ws.lt;obtain⟨n,rfl⟩:∃m,n=m+1:=⟨n-1,by omega⟩;simp only[Mo]at htop;have hgn:=hg7.now;have ng:=fN hg7.ws;have ngt:=congrArg List.length ng.toks;have ngi:=ng.le;refine mJ h7 hg7.ws hN hg7.l λw8 h8 he8=>?_;refine⟨i64 (cur s1).k,rfl,?_⟩;dsimp only;rw[fL,aM];refine⟨λhk0=>?_,λhk0=>?_⟩
  ·have hk0:(cur s1).k≠0:=hk0;rw[aD hk0]at htop;have h8:=h8.drew;rw[bP,dM];refine⟨M1.vT,by rw[bY,cC,h8.fr.hf,cN];rfl,?_⟩;refine Jg hSC 24 w8.drew p M1 _ _ top _ _ h8 hgn (λx s2 ex M2 w9 h9 he9=>?_) λc a' ex=>hThr c a' (hbad c a' (by rw[<-htop,ex];rfl));rw[ex]at htop;simp only[R.bind]at htop;obtain⟨hg9,hi9,ht9⟩:=hgn.bk (BO 24) ex;have ht9:=congrArg List.length ht9;have eT:=he9.hT;have ldT:∀{w':World},w'.heap[f]?=some (.cells [M2.vE,M2.vB,M2.vT].toArray FlT (0,0))->ldW false 1 (.pointer (some ((⟨f,0,none⟩:Addr).add 2))) w' λx=>x=M1.vT:=λh=>by
    rw[dM];exact⟨M2.vT,by rw[bY,cC,h,cN];rfl,eT⟩
   refine⟨ldT h9.fr.hf,?_⟩;refine jJ λr w10 hr hz10 hrb hx10=>?_;have h10:=h9.ext hx10;refine⟨ldT h10.fr.hf,?_⟩;have few:=hg7.few;have hzx:=hx10.size;have nF:¬M2.vT.ownBlock=some f:=λe=>by
    have hnd:=(Jw M2 f).nodup_iff.1 h10.fr.nd;rw[iS]at hnd;exact hnd.1 (eF _ (gE.2 e))
   rw[<-eT];refine jG Bf h10.fr.oT (qR (n:=1) (T:=iG) hrb) rfl (λu hu=>by simp only[bR]at hu;subst hu;rfl) (by omega) (by omega) h10.base λv' w11 hO11 hc11 hv11=>?_;have hf11:=hc11.at h10.fr.hf nF;rw[bP,bY,aX];obtain⟨vp,vc,ev,_⟩:=hO11.sl.shape;refine iT hf11 (by rw[ev];rfl) (by simp) λw12 hz12 hf12 hc12=>?_;have h12:=h10.putT (w1:=w11) (w2:=w12) (x:=x) hO11 hc11 hv11 hc12 (by rw[hf12];simp);have hg10:=hg9.now;have ng9:=fN hg9.ws;have ng9t:=congrArg List.length ng9.toks;have ng9i:=ng9.le;refine bU.cut (λ_ w'=>PR w4 w' p f {M2 with vT:=v'} (.slice q l.length cap) (bA s2) (top++[x])/\Mo n (fQ (bA s2)) (top++[x])=R0) ?_ ?_
   ·refine mJ h12 hg9.ws hN hg9.l λw13 h13 he13=>?_;refine⟨i64 (cur s2).k,rfl,?_⟩;dsimp only;rw[fL];simp only[gX,fL,mY];intro g2;simp only[aF];rw[eU,bS];refine⟨λhb=>?_,λhb=>?_⟩
    ·have hb:(cur s2).k≠5/\(cur s2).k≠0:=by simpa using hb
     rw[aH hb]at htop;refine mJ h13 hg10.ws hN hg10.l λw14 h14 he14=>?_;refine⟨i64 (cur (bA s2)).a,rfl,?_⟩;exact pD h14 (hThr 50 _ (hbad 50 _ (by rw[<-htop])))
    ·have hb:¬((cur s2).k≠5/\(cur s2).k≠0):=by simpa using hb
     rw[aD hb]at htop;exact⟨h13,htop⟩
   rintro _ g2 w13 ⟨h13,htop⟩;refine xM h13 hg10.ws hN hg10.l λw14 h14 he14=>?_;have lg:=lU hg10.ws;have lgt:=congrArg List.length lg.1.toks;have lgi:=lg.1.le;have hgl:=hg10.lines;have hltl:=hgl.ws.lt;refine⟨⟨rfl,fQ (bA s2),_,top++[x],n,h14,hgl,htop,by omega,by rw[bE,aA,aL];omega,by omega⟩,?_⟩;rw[h14.at_,h7.at_];omega
  ·have hk0:(cur s1).k=0:=by
    by_cases h:(cur s1).k=0
    ·exact h
    ·exact absurd h hk0
   rw[aH hk0]at htop;refine bX h8.fr.hf rfl ?_;obtain⟨ep,ec,e1,_⟩:=h8.fr.oE.sl.shape;obtain⟨bp,bc,e2,_⟩:=h8.fr.oB.sl.shape;obtain⟨tp,tc,e3,_⟩:=h8.fr.oT.sl.shape;refine cG (l:=[M1.vE,M1.vB,M1.vT]) h8.fr.hf rfl rfl (by rw[e1,e2,e3];rfl) λw9 hz9 hf9 hc9=>?_;have hc49:Chg (Of f) w4 w9:=h8.ch.trans (hc9.mono λk _ e=>e);refine iT (hbdk hc49) rfl (by simp) λw10 hz10 hbd10 hc10=>?_;have hf10:=hc10.at hf9 (by omega);refine OC ?_;refine bX hf10 rfl ?_;refine⟨.pointer none,by rw[cC,hbd10];rfl,?_⟩;have hFO:=h8.fr.out;have hFO:=hFO.keep hc9 λk hk hlt hu e=>by have e:k=f:=e;omega
   have hFO:=hFO.keep hc10 λk hk hlt hu e=>by have e:k=bd:=e;omega
   have hzc:=hx4.size;rw[<-htop]at hok;have few:=hg7.few;refine hok _ rfl M1 w10 ?_ (hFO.low hzc) ⟨hgn.ex.1,hgn.ex.2,by show top.length<=_;omega⟩;refine(hx4.then hc49 λk hk e=>?_).then hc10 λk hk e=>?_
   ·have e:k=f:=e;omega
   ·have e:k=bd:=e;omega
 ·rw[bJ];refine⟨.slice none 0 0,rfl,?_⟩;rw[bJ];refine⟨.pointer (some ⟨d,0,none⟩),rfl,?_⟩;have hbd3:=hx3.at hbb2 id;have hf3:=hx3.at hf2 id;refine iT hbd3 rfl (by simp) λw4 hz4 hbb4 hc4=>?_;have hbb4:w4.heap[bd]?=some (.cells [.pointer (some ⟨d,0,none⟩)].toArray 33 (0,0)):=by rw[hbb4];simp
  have hf4:=hc4.at hf3 (by omega);refine⟨.pointer (some ⟨d,0,none⟩),by rw[cC,hbb4];rfl,?_⟩;show aR (.bool true) _ _;rw[dR,cU];refine⟨.pointer (some ⟨d,0,none⟩),by rw[cC,heap_drew,hbb4];rfl,?_⟩;refine cG (w:=w4.drew) (l:=[.slice none 0 0,.slice none 0 0,.slice none 0 0]) hf4 rfl rfl rfl λw5 hz5 hf5 hc5=>?_;have hbb5:=hc5.at (w:=w4.drew) hbb4 (by omega);refine⟨⟨.pointer (some ⟨d,0,none⟩),by rw[cC,hbb5];rfl,rfl⟩,?_⟩;refine iT hbb5 rfl (by simp) λw6 hz6 hbb6 hc6=>?_;have hf6:=hc6.at hf5 (by omega);refine bX hf6 rfl ?_;refine⟨.pointer (some ⟨d,0,none⟩),by rw[cC,hbb6];rfl,?_⟩;have hx3':=hx02.trans hx3;have hd4:=hc4.at hdb (by omega);have hd5:=hc5.at (w:=w4.drew) hd4 (by omega);refine hbad c a (by rw[hsc]) d w6 ?_ (by omega) (hc6.at hd5 (by omega));exact(((hx3'.new hc4 (by omega)).trans (cY w4)).new hc5 (by omega)).new hc6 (by omega)
abbrev cv(c:UInt8):Value:=.int .u8 (c.toNat:Nat)
theorem AW(a c:UInt8):decide (((a.toNat:Nat):Int)<=((c.toNat:Nat):Int))=decide (a<=c):=by
 rw[decide_eq_decide,UInt8.le_iff_toNat_le];omega
theorem zE(a c:UInt8):decide (((c.toNat:Nat):Int)=((a.toNat:Nat):Int))=(c==a):=by
 rw[lD,decide_eq_true_iff,fI,<-iR];omega
section
variable [HX]
theorem wM{K:Q0}(hK:K (.bool (iU c)) w):aC P0 72 [cv c] w K:=by
 refine ZQ ?_;unfold W72;have e1:decide ((97:Int)<=((c.toNat:Nat):Int))=decide (97<=c):=AW 97 c;have e2:decide (((c.toNat:Nat):Int)<=122)=decide (c<=122):=AW c 122;have e3:decide ((65:Int)<=((c.toNat:Nat):Int))=decide (65<=c):=AW 65 c;have e4:decide (((c.toNat:Nat):Int)<=90)=decide (c<=90):=AW c 90;have e5:decide (((c.toNat:Nat):Int)=95)=(c==95):=zE 95 c;simp only[lM,qK,bL,e1,e2,e3,e4,e5];unfold iU at hK;generalize decide (97<=c)=a at*
 generalize decide (c<=122)=b at*
 generalize decide (65<=c)=d at*
 generalize decide (c<=90)=e at*
 generalize (c==95)=g at*
 cases a<;>cases b<;>cases d<;>cases e<;>cases g<;>
  (simp only[gX,kL,Pu,yQ,mY,aO,aN,lS,rH,aF,jO,kK];intros;exact hK)
theorem Cu{K:Q0}(hK:K (.bool (iM c)) w):aC P0 74 [cv c] w K:=by
 refine ZO ?_;unfold W74;have e1:decide ((48:Int)<=((c.toNat:Nat):Int))=decide (48<=c):=AW 48 c;have e2:decide (((c.toNat:Nat):Int)<=57)=decide (c<=57):=AW c 57;simp only[lM,qK,e1,e2];unfold iM at hK;generalize decide (48<=c)=a at*
 generalize decide (c<=57)=b at*
 cases a<;>cases b<;>
  (simp only[gX,kL,Pu,yQ,mY,aO,aN,lS,rH,aF,jO,kK];intros;exact hK)
theorem xX{g:FuncId}{args:List Value}{K:Q0}(h:aC P g args w K):nU P (.func (.func g) #[] #[]) args w K:=jI (caps:=[]) (by rw[eA];exact h)
theorem TF{K:Q0}(hK:K (.bool (jB c)) w):aC P0 73 [cv c] w K:=by
 refine ZP ?_;unfold W73;refine wM ?_;have e5:decide (((c.toNat:Nat):Int)=45)=(c==45):=zE 45 c;unfold jB at hK;simp only[kL,bL,e5];refine GdW.look (iM c) (λ_ J hJ=>Cu hJ) λg=>?_;simp only[aF];rw[eR];simp only[kL,mY,aF];intro g2;rw[eR];exact hK
theorem TE{K:Q0}(hK:K (.bool (jB c)) w):aC P0 109 [cv c] w K:=by
 refine Wn ?_;unfold aCM;refine wM ?_;have e5:decide (((c.toNat:Nat):Int)=45)=(c==45):=zE 45 c;unfold jB at hK;simp only[kL,bL,e5];refine GdW.look (iM c) (λ_ J hJ=>Cu hJ) λg=>?_;simp only[aF];rw[eR];simp only[kL,mY,aF];intro g2;rw[eR];exact hK
theorem TO{K:Q0}(hK:K (.bool (c !=10)) w):aC P0 70 [cv c] w K:=by
 refine ZR ?_;unfold W70;rw[fL];have e:decide (((c.toNat:Nat):Int)≠10)=(c !=10):=by
  have e5:decide (((c.toNat:Nat):Int)=10)=(c==10):=zE 10 c;rw[bne,<-e5,vU]
 rw[e];exact hK
theorem Le{q:UInt8->Bool}{fv:Value}{s:Str}{K:Q0}(hl:s.length<=1000000)(hq:∀c {w:World} {K:Q0},K (.bool (q c)) w->nU P0 fv [cv c] w K)(hK:K (i64 (eC q s:Nat)) w):aC P0 69 [str s,fv] w K:=by
 refine ZS ?_;unfold W69;rw[fH];refine cZ.go (λst w'=>∃i:Nat,st=[i64 (i:Nat)]/\i<=s.length/\w'=w/\i+eC q (s.drop i)=eC q s) (λst _=>match st with|[.int _ i]=>s.length-i.toNat|_=>0) ⟨0,rfl,by omega,rfl,by simp⟩ ?_;rintro st g w' ⟨i,rfl,hi,rfl,hr⟩;simp only[aF];rw[dW,aM];refine⟨λhlt=>?_,λhge=>?_⟩
 ·have hlt:i<s.length:=by omega
  rw[iC hlt]at hr;simp only[eC]at hr;refine qD hlt ?_;refine hq _ ?_;rw[eD,bS];refine⟨λhn=>?_,λhy=>?_⟩
  ·rw[aD (by simpa using hn),fA]at hr;rw[hr];exact hK
  ·rw[aH (by simpa using hy)]at hr;rw[cA,upi (by omega)];refine⟨⟨i+1,rfl,by omega,rfl,by omega⟩,?_⟩;simp only[aV];omega
 ·obtain rfl:i=s.length:=by omega
  rw[dQ]at hr;simp only[eC,fA]at hr;rw[fH,hr];exact hK
theorem Du{l:Str}{K:Q0}(hK:K (i64 (Lib.indexByte l c)) w):aC P0 68 [str l,cv c] w K:=by
 refine gF (args:=#[str l,cv c]) Tryz.call68 ((Tryz.strings_IndexByte (ofL l) (c.toNat:Nat) w).mono ?_);rintro e w' ⟨rfl,rfl⟩;refine⟨_,rfl,?_⟩;rw[eG];simpa using hK
theorem PD{s:Str}{K:Q0}(hT:wZ w)(hl:s.length<=1000000)(hK:K (i64 (Lib.index s [42,47])) w):aC P0 71 [str s,str [42,47]] w K:=by
 obtain⟨m,hm⟩:=hT;refine gF (args:=#[str s,str [42,47]]) Tryz.call71 ((Tryz.strings_Index (ofL s) (ofL [42,47]) m w (by rw[eV];omega) hm).mono ?_);rintro e w' ⟨rfl,rfl⟩;rw[eG,eG];exact⟨_,rfl,hK⟩
end
theorem Zm(c:UInt8):decide (0<=Lib.indexByte [32,9,13] c)=(c==32||c==9||c==13):=by
 have:∀m:Fin 256,decide (0<=Lib.indexByte [32,9,13] (UInt8.ofNat m.val))=(UInt8.ofNat m.val==32||UInt8.ofNat m.val==9||UInt8.ofNat m.val==13):=by decide+kernel
 have h:=this ⟨c.toNat,sK c⟩;rwa[qX]at h
theorem aC1(c:UInt8):decide (Lib.indexByte [34,92,110,116,114,36] c<0)=!Lex.escOk c:=by
 have:∀m:Fin 256,decide (Lib.indexByte [34,92,110,116,114,36] (UInt8.ofNat m.val)<0)=!Lex.escOk (UInt8.ofNat m.val):=by decide+kernel
 have h:=this ⟨c.toNat,sK c⟩;rwa[qX]at h
theorem Xv(c:UInt8):decide (0<=Lib.indexByte [123,125,91,93,40,41,61,43,45,42,47,37,60,62,33,63,58,44,46] c)=AH.contains c:=by
 have:∀m:Fin 256,decide (0<=Lib.indexByte [123,125,91,93,40,41,61,43,45,42,47,37,60,62,33,63,58,44,46] (UInt8.ofNat m.val))=AH.contains (UInt8.ofNat m.val):=by decide+kernel
 have h:=this ⟨c.toNat,sK c⟩;rwa[qX]at h
theorem EE(n:Nat)(c:UInt8)(r:Str):eX (n+1) (c::r)=(if(c==32||c==9||c==13)=true then((eX n r).1+1,(eX n r).2)else if(c==35||Lib.hasPrefix (c::r) [47,47])=true then((eX n ((c::r).drop (eC (λb=>b !=10) (c::r)))).1+eC (λb=>b !=10) (c::r),(eX n ((c::r).drop (eC (λb=>b !=10) (c::r)))).2)
  else if Lib.hasPrefix (c::r) [47,42]=true then(if Lib.index (r.drop 1) [42,47]<0 then(0,40)else((eX n ((c::r).drop ((Lib.index (r.drop 1) [42,47]).toNat+4))).1+((Lib.index (r.drop 1) [42,47]).toNat+4),(eX n ((c::r).drop ((Lib.index (r.drop 1) [42,47]).toNat+4))).2))else(0,0)):=by
 simp only[eX,cM,fI];rfl
theorem Oz{q:UInt8->Bool}{r:Str}(h:q c=true):1<=eC q (c::r):=by simp only[eC];rw[aH h];omega
theorem add_add(i j:Nat)(x:Nat×Int):mA i (mA j x)=mA (i+j) x:=by
 unfold mA;by_cases h:x.2=0
 ·simp only[h,gU];rw[show x.1+j+i=x.1+(i+j)by omega]
 ·simp only[aD h]
section
variable [HX]
theorem Xu{s:Str}{K:Q0}(hT:wZ w)(hl:s.length<=1000000)(hK:K (.tuple #[i64 ((eX (s.length+1) s).1:Nat),i64 (eX (s.length+1) s).2]) w):aC P0 44 [str s] w K:=by
 refine aAj ?_;unfold W44;generalize hR:eX (s.length+1) s=R0 at hK;refine cZ.go (λst w'=>∃i n:Nat,st=[i64 (i:Nat)]/\i<=s.length/\w'=w/\((eX n (s.drop i)).1+i,(eX n (s.drop i)).2)=R0/\s.length<n+i) (λst _=>match st with|[.int _ i]=>s.length-i.toNat|_=>0) ⟨0,s.length+1,rfl,by omega,rfl,by rw[cV,hR];rfl,by omega⟩ ?_;rintro st g w' ⟨i,n,rfl,hi,rfl,hr,hn⟩;obtain⟨n,rfl⟩:∃m,n=m+1:=⟨n-1,by omega⟩;simp only[aF];rw[fH,dW,aM];refine⟨λhlt=>?_,λhge=>?_⟩
 ·have hlt:i<s.length:=by omega
  have hd:=iC hlt;rw[hd,EE]at hr;rw[fG,fT,eM];refine⟨by omega,by omega,?_⟩;rw[bM,aV];refine qD hlt ?_;refine Du ?_;rw[lM,Zm,bS];refine⟨λhb=>?_,λhb=>?_⟩
  ·rw[aH hb]at hr;rw[cA,upi (by omega)];refine⟨⟨i+1,n,rfl,by omega,rfl,?_,by omega⟩,?_⟩
   ·rw[<-hr];simp only[fJ,lI];omega
   ·simp only[aV];omega
  rw[aD (by rw[hb];decide)]at hr;have hd':=hd;rw[hd];generalize hc:s[i]=c at*
  generalize hrr:s.drop (i+1)=r at*
  have hrl:(c::r).length=s.length-i:=by rw[<-hd,aP]
  simp only[aA]at hrl;refine bU.cut (λst w2=>st=[.bool (c==35||Lib.hasPrefix (c::r) [47,47])]/\w2=w') ?_ ?_
  ·refine qD hlt ?_;rw[hc];have e5:decide (((c.toNat:Nat):Int)=35)=(c==35):=zE 35 c;rw[bL,e5,bS];refine⟨λh=>⟨by rw[h];rfl,rfl⟩,λh=>?_⟩;refine zC ?_;exact⟨by rw[h,lQ],rfl⟩
  rintro st g2 w2 ⟨rfl,rfl⟩;simp only[aF];rw[bS];refine⟨λhcm=>?_,λhcm=>?_⟩
  ·rw[aH hcm]at hr;refine Le (q:=λb=>b !=10) (by simp only[aA];omega) (λc {w K} h=>xX (TO h)) ?_;have hle:=pR (λb=>b !=10) (c::r);have hpos:1<=eC (λb=>b !=10) (c::r):=Oz (by
    rw[cM]at hcm;rcases hcm with h|h
    ·rw[fI]at h;subst h;rfl
    ·simp only[Lib.hasPrefix,List.isPrefixOf,aJ,fI]at h;rw[<-h.1];rfl)
   simp only[aA]at hle;rw[cA,cK (by omega) (by omega)];generalize eC (λb=>b !=10) (c::r)=k at*
   refine⟨⟨i+k,n,by simp only[eJ,Value.int.injEq,dH,lI];omega,by omega,rfl,?_,by omega⟩,?_⟩
   ·rw[<-hr,<-fF,hd'];simp only[fJ,lI];omega
   ·simp only[aV];omega
  rw[aD (by rw[hcm];decide)]at hr;refine zC ?_;rw[bS];refine⟨λhcm2=>?_,λhcm2=>?_⟩
  ·rw[aH hcm2]at hr;rw[fG,fT,eM];have h2:2<=(c::r).length:=Gz (p:=[47,42]) (s:=c::r) hcm2;simp only[aA]at h2;refine⟨by omega,by simp only[aA];omega,?_⟩;rw[bM];show aC P0 71 [str (r.drop 1),str [42,47]] w2 _;refine PD hT (by rw[aP];omega) ?_;rw[dW,aM];refine⟨λhneg=>?_,λhpos=>?_⟩
   ·rw[aH hneg]at hr;rw[<-hr,aX]at hK;exact hK
   ·rw[aD hpos]at hr;obtain⟨j,hj⟩:=Int.eq_ofNat_of_zero_le (show 0<=Lib.index (r.drop 1) [42,47]by omega);have hjl:=GN _ _ hj;rw[aP]at hjl;rw[hj]at hr⊢;rw[cA,cK (by omega) (by omega),cA,cK (by omega) (by omega)];rw[aV]at hr;refine⟨⟨i+(j+4),n,by simp only[eJ,Value.int.injEq,dH,lI];omega,by omega,rfl,?_,by omega⟩,?_⟩
    ·rw[<-hr,<-fF,hd'];simp only[fJ,lI];omega
    ·simp only[aV];omega
  ·rw[aD (by rw[hcm2];decide),aX]at hr;rw[<-hr]at hK;exact hK
 ·obtain rfl:i=s.length:=by omega
  rw[dQ]at hr;simp only[eX,aX]at hr;rw[<-hr]at hK;exact hK
def oZ(x:Nat×Int):List Value:=if x.2=0 then [i64 ((x.1+1:Nat):Int),i64 0]else [i64 0,i64 x.2]
def TxC(n:Nat):Prop:=∀(c:UInt8) (r:Str) (d:Nat) (w:World) (K:Q0),r.length<n->r.length<=1000000->d<=24->K (.tuple (oZ (fP r d)).toArray) w->aC P0 76 [str (c::r),i64 (d:Nat)] w K
def InC(n:Nat):Prop:=∀(c:UInt8) (r:Str) (d:Nat) (w:World) (K:Q0),r.length<n->r.length<=1000000->d<=25->K (.tuple (oZ (if 24<d then(0,7)else jP r d)).toArray) w->aC P0 108 [str (c::r),i64 (d:Nat)] w K
theorem nA{x:Nat×Int}:oZ (mA i x)=if x.2=0 then [i64 ((i+x.1+1:Nat):Int),i64 0]else [i64 0,i64 x.2]:=by
 unfold oZ mA;by_cases h:x.2=0
 ·simp only[h,gU];rw[show x.1+i+1=i+x.1+1 by omega]
 ·simp only[aD h]
theorem QQ(hi:InC n):TxC (n+1):=by
 intro c r d w K hn hl hd24 hK;refine ZM ?_;unfold W76;have hlen:(c::r).length=r.length+1:=rfl;generalize hR:oZ (fP r d)=R0 at hK;have cond:∀{c:UInt8} (k:Nat),k<256->(((c.toNat:Nat):Int)=(k:Int)↔c=UInt8.ofNat k):=λ{c} k hk=>by
  have:=Ey c k hk;rwa[decide_eq_decide]at this
 refine cZ.go (λst w'=>∃i:Nat,st=[i64 ((i+1:Nat):Int)]/\w'=w/\i<=r.length/\oZ (mA i (fP (r.drop i) d))=R0) (λst _=>match st with|[.int _ i]=>r.length+1-i.toNat|_=>0) ⟨0,rfl,rfl,by omega,by rw[cV,nA,<-hR];unfold oZ;rw[aX]⟩ ?_;rintro st g w2 ⟨i,rfl,rfl,hi',hr⟩;simp only[aF];rw[fH,dW,aM,hlen];refine⟨λhlt=>?_,λhge=>?_⟩
 ·have hlt:i<r.length:=by omega
  have hd:=iC hlt;rw[hd,oW]at hr;simp only[fI]at hr;have ix:∀{KK:Value->Prop},KK (cv r[i])->oO (str (c::r)) (i64 ((i+1:Nat):Int)) KK:=λh=>qD (s:=c::r) (i:=i+1) (by rw[hlen];omega) h;refine ix ?_;rw[bL,aM];refine⟨λe=>?_,λe=>?_⟩
  ·have e:r[i]=34:=(cond 34 (by omega)).1 e;rw[aH e,nA,aH rfl]at hr;rw[cA,upi (by omega)];rw[<-hr]at hK;exact hK
  have e:¬r[i]=34:=λh=>e ((cond 34 (by omega)).2 h);rw[aD e]at hr;refine ix ?_;rw[bL,aM];refine⟨λe=>?_,λe=>?_⟩
  ·have e:r[i]=10:=(cond 10 (by omega)).1 e;rw[aH e,nA,aD (by simp)]at hr;rw[<-hr]at hK;exact hK
  have e:¬r[i]=10:=λh=>e ((cond 10 (by omega)).2 h);rw[aD e]at hr;refine ix ?_;rw[bL,aM];refine⟨λe=>?_,λe=>?_⟩
  ·have e:r[i]=92:=(cond 92 (by omega)).1 e;rw[aH e]at hr;rw[cA,upi (by omega),fH,lM,hlen];simp only[kL];by_cases hend:r.length<=i+1
   ·have e0:r.drop (i+1)=[]:=eO hend;rw[e0]at hr;simp only at hr;rw[nA,aD (by simp)]at hr;rw[bF (by omega),jO,yQ];intro g2;rw[lS,dR];rw[<-hr]at hK;exact hK
   ·have hlt2:i+1<r.length:=by omega
    have hd2:=iC hlt2;rw[hd2]at hr;simp only at hr;rw[bZ (by omega),kK];refine GdW.look (!Lex.escOk r[i+1]) (λ_ J hJ=>?_) λg2=>?_
    ·rw[cA,upi (by omega)];refine qD (s:=c::r) (i:=i+2) (by rw[hlen];omega) ?_;refine Du ?_;rw[dW];have:=aC1 r[i+1];rw[show(c::r)[i+2]=r[i+1]from rfl,this];exact hJ
    simp only[aF,aO,rH];rw[bS];refine⟨λhb=>?_,λhg=>?_⟩
    ·have hb:¬Lex.escOk r[i+1]=true:=by simpa using hb
     rw[aD hb,nA,aD (by simp)]at hr;rw[<-hr]at hK;exact hK
    ·have hg:Lex.escOk r[i+1]=true:=by simpa using hg
     rw[aH hg,add_add]at hr;rw[cA,cK (by omega) (by omega)];refine⟨⟨i+2,by simp only[eJ,Value.int.injEq,dH,lI];omega,trivial,by omega,hr⟩,?_⟩;simp only[aV];omega
  have e:¬r[i]=92:=λh=>e ((cond 92 (by omega)).2 h);rw[aD e]at hr;rw[fG,fT,eM];refine⟨by omega,by rw[hlen];omega,?_⟩;rw[bM,aV,cS,hd];refine zC ?_;rw[pre_eq,bS];refine⟨λe=>?_,λe=>?_⟩
  ·rw[aH e]at hr;have h2:=Gz e;have hlt2:i+1<r.length:=by
    simp only[aA,aL,aP]at h2;omega
   have hd2:=iC hlt2;rw[cA,upi (by omega),fG,fT,eM];refine⟨by omega,by rw[hlen];omega,?_⟩;rw[bM,aV,cS,hd2,cA,upi (by omega)];have hdd:(r.drop (i+1)).drop 1=r.drop (i+2):=by rw[fF]
   rw[hdd]at hr;have hll:(r.drop (i+2)).length=r.length-(i+2):=aP ..;refine hi _ _ (d+1) _ _ (by show(r.drop (i+2)).length<n;omega) (by show(r.drop (i+2)).length<=_;omega) (by omega) ?_;have hx':∃x:Nat×Int,x=(if 24<d+1 then((0:Nat),(7:Int))else jP (r.drop (i+2)) (d+1))/\oZ (mA i (if x.2=0 then mA (x.1+2) (fP ((r.drop (i+2)).drop x.1) d)else(0,x.2)))=R0/\(x.2=0->x.1<=(r.drop (i+2)).length):=by
    refine⟨_,rfl,?_,?_⟩
    ·by_cases h:24<d+1
     ·rw[aH h]at hr⊢;exact hr
     ·rw[aD h]at hr⊢;exact hr
    ·by_cases h:24<d+1
     ·rw[aH h];intro h;exact absurd h (by simp)
     ·rw[aD h];intro h0;exact((iN _ (r.drop (i+2)) (aU _)).2 (d+1) _ (eZ rfl h0)).1.2
   obtain⟨x,ex,hr,hxl⟩:=hx';rw[show r.drop (i+1+1)=r.drop (i+2)from rfl,<-ex];by_cases h0:x.2=0
   ·have eo:oZ x=[i64 ((x.1+1:Nat):Int),i64 0]:=by unfold oZ;rw[aH h0]
    have hxl:=hxl h0;rw[aH h0,add_add,fF]at hr;rw[eo,bJ];refine⟨i64 ((x.1+1:Nat):Int),rfl,?_⟩;rw[bJ];refine⟨i64 0,rfl,?_⟩;rw[fL,aM];refine⟨λh=>absurd rfl h,λ_=>?_⟩;rw[cA,cK (by omega) (by omega),cA,cK (by omega) (by omega)];refine⟨⟨i+(x.1+2),by simp only[eJ,Value.int.injEq,dH,lI];omega,rfl,by omega,by rw[show i+(x.1+2)=i+2+x.1 by omega]at hr⊢;exact hr⟩,?_⟩;simp only[aV];omega
   ·have eo:oZ x=[i64 0,i64 x.2]:=by unfold oZ;rw[aD h0]
    rw[aD h0,nA,aD h0]at hr;rw[eo,bJ];refine⟨i64 0,rfl,?_⟩;rw[bJ];refine⟨i64 x.2,rfl,?_⟩;rw[fL,aM];refine⟨λ_=>by rw[<-hr]at hK;exact hK,λh=>absurd h0 h⟩
  ·rw[aD (by rw[e];decide),add_add]at hr;rw[cA,upi (by omega)];refine⟨⟨i+1,rfl,rfl,by omega,hr⟩,?_⟩;simp only[aV];omega
 ·obtain rfl:i=r.length:=by omega
  rw[dQ,oV,nA,aD (by simp)]at hr;rw[<-hr]at hK;exact hK
theorem Ud(hi:InC n)(htx:TxC n):InC (n+1):=by
 intro c r d w K hn hl hd25 hK;refine Wo ?_;unfold aCN;rw[kS,aM];refine⟨λh=>?_,λh=>?_⟩
 ·rw[aH (by omega)]at hK;exact hK
 have hd24:d<=24:=by omega
 rw[aD (by omega)]at hK;have hlen:(c::r).length=r.length+1:=rfl;generalize hR:oZ (jP r d)=R0 at hK;have cond:∀{c:UInt8} (k:Nat),k<256->(((c.toNat:Nat):Int)=(k:Int)↔c=UInt8.ofNat k):=λ{c} k hk=>by
  have:=Ey c k hk;rwa[decide_eq_decide]at this
 refine cZ.go (λst w'=>∃i:Nat,st=[i64 ((i+1:Nat):Int)]/\w'=w/\i<=r.length/\oZ (mA i (jP (r.drop i) d))=R0) (λst _=>match st with|[.int _ i]=>r.length+1-i.toNat|_=>0) ⟨0,rfl,rfl,by omega,by rw[cV,nA,<-hR];unfold oZ;rw[aX]⟩ ?_;rintro st g w2 ⟨i,rfl,rfl,hi',hr⟩;simp only[aF];rw[fH,dW,aM,hlen];refine⟨λhlt=>?_,λhge=>?_⟩
 ·have hlt:i<r.length:=by omega
  have hd:=iC hlt;rw[hd,Ba]at hr;simp only[fI]at hr;have hll:(r.drop (i+1)).length=r.length-(i+1):=aP ..;refine bU.cut (λst w'=>w'=w2/\∃(k:Nat) (e:Int),st=[i64 (if e=0 then((k+1:Nat):Int)else 0),i64 e]/\(e=0->i+(k+1)<=r.length/\oZ (mA (i+(k+1)) (jP (r.drop (i+(k+1))) d))=R0)/\(e≠0->[i64 0,i64 e]=R0)) ?_ ?_
  ·refine qD (s:=c::r) (i:=i+1) (by rw[hlen];omega) ?_;show aQ .eql (cv r[i]) _ _;rw[bL,aM];refine⟨λe=>?_,λe=>?_⟩
   ·have e:r[i]=125:=(cond 125 (by omega)).1 e;rw[aH e,nA,aH rfl]at hr;rw[cA,upi (by omega)];rw[<-hr]at hK;exact hK
   have e:¬r[i]=125:=λh=>e ((cond 125 (by omega)).2 h);rw[aD e]at hr;rw[bL,aM];refine⟨λe=>?_,λe=>?_⟩
   ·have e:r[i]=10:=(cond 10 (by omega)).1 e;rw[aH e,nA,aD (by simp)]at hr;rw[<-hr]at hK;exact hK
   have e:¬r[i]=10:=λh=>e ((cond 10 (by omega)).2 h);rw[aD e]at hr;have sub:∀(x:Nat×Int),oZ (mA i (if x.2=0 then mA (x.1+1) (jP ((r.drop (i+1)).drop x.1) d)else(0,x.2)))=R0->(x.2=0->x.1<=(r.drop (i+1)).length)->dE 0 (.tuple (oZ x).toArray) λt33=>dE 1 (.tuple (oZ x).toArray) λt34=>(λ(st:List Value) (w':World)=>w'=w2/\∃(k:Nat) (e:Int),st=[i64 (if e=0 then((k+1:Nat):Int)else 0),i64 e]/\(e=0->i+(k+1)<=r.length/\oZ (mA (i+(k+1)) (jP (r.drop (i+(k+1))) d))=R0)/\(e≠0->[i64 0,i64 e]=R0)) [t33,t34] w2:=λx hx hxl=>by
    by_cases h0:x.2=0
    ·have eo:oZ x=[i64 ((x.1+1:Nat):Int),i64 0]:=by unfold oZ;rw[aH h0]
     have hxl:=hxl h0;rw[aH h0,add_add,fF]at hx;rw[eo,bJ];refine⟨i64 ((x.1+1:Nat):Int),rfl,?_⟩;rw[bJ];refine⟨i64 0,rfl,rfl,x.1,0,by rw[aH rfl],λ_=>⟨by omega,by rw[show i+(x.1+1)=i+1+x.1 by omega]at hx⊢;exact hx⟩,λh=>absurd rfl h⟩
    ·have eo:oZ x=[i64 0,i64 x.2]:=by unfold oZ;rw[aD h0]
     rw[aD h0,nA,aD h0]at hx;rw[eo,bJ];refine⟨i64 0,rfl,?_⟩;rw[bJ];exact⟨i64 x.2,rfl,rfl,0,x.2,by rw[aD h0],λh=>absurd h h0,λ_=>hx⟩
   rw[bL,aM];refine⟨λe=>?_,λe=>?_⟩
   ·have e:r[i]=123:=(cond 123 (by omega)).1 e;rw[aH e]at hr;rw[fG,fT,eM];refine⟨by omega,by rw[hlen];omega,?_⟩;rw[bM,aV,cS,hd,cA,upi (by omega)];refine hi _ _ (d+1) _ _ (by omega) (by omega) (by omega) ?_;refine sub _ ?_ ?_
    ·by_cases h:24<d+1
     ·rw[aH h]at hr⊢;exact hr
     ·rw[aD h]at hr⊢;exact hr
    ·by_cases h:24<d+1
     ·rw[aH h];intro h;exact absurd h (by simp)
     ·rw[aD h];intro h0;exact((iN _ (r.drop (i+1)) (aU _)).2 (d+1) _ (eZ rfl h0)).1.2
   have e:¬r[i]=123:=λh=>e ((cond 123 (by omega)).2 h);rw[aD e]at hr;rw[bL,aM];refine⟨λe=>?_,λe=>?_⟩
   ·have e:r[i]=34:=(cond 34 (by omega)).1 e;rw[aH e]at hr;rw[fG,fT,eM];refine⟨by omega,by rw[hlen];omega,?_⟩;rw[bM,aV,cS,hd];refine htx _ _ d _ _ (by omega) (by omega) hd24 ?_;refine sub _ hr λh0=>?_;exact((iN _ (r.drop (i+1)) (aU _)).1 d _ (eZ rfl h0)).2.2
   ·have e:¬r[i]=34:=λh=>e ((cond 34 (by omega)).2 h);rw[aD e,add_add]at hr;exact⟨rfl,0,0,rfl,λ_=>⟨by omega,hr⟩,λh=>absurd rfl h⟩
  rintro st g2 w3 ⟨rfl,k,e,rfl,h1,h2⟩;simp only[aF,cW];rw[fL,aM];refine⟨λhe=>by rw[<-h2 he]at hK;exact hK,λhe=>?_⟩;have he:e=0:=by
   by_cases h:e=0
   ·exact h
   ·exact absurd h he
  obtain⟨g1,g2⟩:=h1 he;rw[aH he,cA,cK (by omega) (by omega)];refine⟨⟨i+(k+1),by simp only[eJ,Value.int.injEq,dH,lI];omega,trivial,g1,g2⟩,?_⟩;simp only[aV];omega
 ·obtain rfl:i=r.length:=by omega
  rw[dQ,Dt,nA,aD (by simp)]at hr;rw[<-hr]at hK;exact hK
theorem KY:∀n,TxC n/\InC n
 |0=>⟨λ_ _ _ _ _ h=>by omega,λ_ _ _ _ _ h=>by omega⟩
 |n+1=>⟨QQ (KY n).2,Ud (KY n).2 (KY n).1⟩
theorem TN{r:Str}{d:Nat}{K:Q0}(hl:r.length<=1000000)(hd:d<=24)(hK:K (.tuple (oZ (fP r d)).toArray) w):aC P0 76 [str (c::r),i64 (d:Nat)] w K:=(KY (r.length+1)).1 c r d w K (by omega) hl hd hK
end
theorem Rl(c d:UInt8)(r:Str):[d].isPrefixOf (c::r)=(d==c):=by simp[List.isPrefixOf]
theorem Nc(s:Str):Lib.index s [10]=if eC (λb=>b !=10) s<s.length then((eC (λb=>b !=10) s:Nat):Int)else-1:=by
 induction s with
 |nil=>rfl
 |cons c r ih=>
  simp only[Lib.index,Rl];by_cases h:c=10
  ·subst h;rfl
  ·have h1:((10:UInt8)==c)=false:=by rw[beq_eq_false_iff_ne];exactλe=>h e.symm
   have h2:(c !=10)=true:=by simp[h]
   have e2:eC (λb=>b !=10) (c::r)=eC (λb=>b !=10) r+1:=by simp only[eC];rw[aH h2]
   obtain⟨k,hk0⟩:∃k,k=eC (λb=>b !=10) r:=⟨_,rfl⟩;have ih':Lib.index r [10]=if k<r.length then(k:Int)else-1:=by rw[hk0];exact ih
   rw[h1,aD (by decide),ih',e2,<-hk0];simp only[aA];by_cases hk:k<r.length
   ·have e3:(if k<r.length then(k:Int)else-1)=k:=aH hk;have e4:(if k+1<r.length+1 then((k+1:Nat):Int)else-1)=((k+1:Nat):Int):=aH (by omega);rw[e3,e4,aD (by simp only[fI];omega)];rfl
   ·have e3:(if k<r.length then(k:Int)else-1)=-1:=aD hk;have e4:(if k+1<r.length+1 then((k+1:Nat):Int)else-1)=-1:=aD (by omega);rw[e3,e4];rfl
theorem Us(s:Str):(Lib.cut s [10]).1=s.take (eC (λb=>b !=10) s)/\(Lib.cut s [10]).2.2=decide (eC (λb=>b !=10) s<s.length):=by
 have hle:=pR (λb=>b !=10) s;unfold Lib.cut;rw[Nc];by_cases h:eC (λb=>b !=10) s<s.length
 ·rw[aH h,aH (by omega),aV];exact⟨rfl,by simp[h]⟩
 ·rw[aD h,aD (by omega)];exact⟨by rw[fB (by omega)],by simp[h]⟩
theorem NU(l:Str):Lib.trimLeftS l [32,9]=l.drop (eC (λb=>b==32||b==9) l):=by
 unfold Lib.trimLeftS;induction l with
 |nil=>rfl
 |cons c r ih=>
  simp only[List.dropWhile_cons,eC];have e:([32,9]:Str).contains c=(c==32||c==9):=by simp[List.contains,List.elem];cases(c==32)<;>cases(c==9)<;>rfl
  rw[e];by_cases hb:(c==32||c==9)=true
  ·rw[aH hb,aH hb];exact ih
  ·rw[aD hb,aD hb];rfl
theorem Nk(a b:Str):jU (a++b)=jU a++jU b:=by
 induction a with
 |nil=>rfl
 |cons c r ih=>
  simp only[dG,jU]
  (repeat' split)<;>simp only[dG,ih]
theorem Kn{u:Str}(h:∀c∈u,128<=c.toNat):jU u=u:=by
 induction u with
 |nil=>rfl
 |cons c r ih=>
  have hc:=h c bC;have n:∀k:UInt8,k.toNat<128->(c==k)=false:=λk hk=>by
   rw[beq_eq_false_iff_ne];intro e;subst e;omega
  simp only[jU,n 92 (by decide),n 34 (by decide),n 36 (by decide),n 9 (by decide),n 13 (by decide),Bool.or_self,iX,nG,ih λx hx=>h x (aS _ hx)]
theorem tT{r:Str}(h:Utf (c::r))(hc:c.toNat<128):Utf r:=by
 generalize he:c::r=z at h;cases h with
 |nil=>cases he
 |@cons u r' hu hr=>
  rcases hu.cases with⟨x,rfl,_⟩|hh
  ·simp only[dG,eQ,eJ]at he;rw[he.2];exact hr
  ·cases u with
   |nil=>exact absurd rfl hu.1
   |cons y u'=>
    simp only[dG,eJ]at he;have:=hh y bC;rw[<-he.1]at this;omega
theorem Ml{t:Str}(h:Utf t):∀{a b:Str} {c:UInt8},t=a++c::b->c.toNat<128->Utf a/\Utf (c::b):=by
 induction h with
 |nil=>intro a b c e;simp at e
 |@cons u r hu hr ih=>
  intro a b c e hc;by_cases hle:u.length<=a.length
  ·have h1:a=u++a.drop u.length:=by
    have:=congrArg (List.take u.length) e;rw[List.take_left,Bu hle]at this;have h2:=qL u.length a;rw[<-this]at h2;exact h2.symm
   rw[h1,fD]at e;have e:=List.append_cancel_left e;obtain⟨i1,i2⟩:=ih e hc;rw[h1];exact⟨.cons hu i1,i2⟩
  ·have hmem:c∈u:=by
    have:(u++r)[a.length]?=some c:=by rw[e];simp
    rw[List.getElem?_append_left (by omega)]at this;exact bK this
   rcases hu.cases with⟨x,rfl,_⟩|hh
   ·have ha:a=[]:=bI (by simp only[aA,aL]at hle;omega);subst ha;simp only[eQ]at e;rw[<-e];exact⟨.nil,.cons hu hr⟩
   ·have:=hh c hmem;omega
theorem zN{t:Str}(h:Utf t){b:Str}(hd:t.drop i=c::b)(hc:c.toNat<128):Utf (t.take i)/\Utf (c::b):=
 Ml h (by rw[<-hd,qL]) hc
theorem NM{s:Str}(h:Utf s):Utf (s.take (eC (λb=>b !=10) s))/\(eC (λb=>b !=10) s<s.length->Utf (s.drop (eC (λb=>b !=10) s+1))):=by
 have stop:∀s:Str,∀b,(s.drop (eC (λb=>b !=10) s)).head?=some b->b=10:=by
  intro s;induction s with
  |nil=>intro b hb;simp[eC]at hb
  |cons c r ih=>
   intro b hb;simp only[eC]at hb;by_cases hc:(c !=10)=true
   ·rw[aH hc,cS]at hb;exact ih b hb
   ·rw[aD hc]at hb;simp only[cV,List.head?_cons,bD]at hb;rw[<-hb];simpa using hc
 by_cases hk:eC (λb=>b !=10) s<s.length
 ·have hd:=iC hk;have h10:=stop s s[eC (λb=>b !=10) s] (by rw[hd];rfl);obtain⟨h1,h2⟩:=zN h hd (by rw[h10];decide);exact⟨h1,λ_=>tT h2 (by rw[h10];decide)⟩
 ·exact⟨by rw[fB (by omega)];exact h,λe=>absurd e hk⟩
theorem wZ.ext(h:wZ w)(hx:Ext w w'):wZ w':=by
 obtain⟨m,h⟩:=h;refine⟨m,?_⟩;rw[cC]at h⊢;cases hh:w.heap[0]? with
 |none=>rw[hh]at h;cases h
 |some o=>rw[hx.at hh id];rw[hh]at h;exact h
section
variable [HX]
theorem Dh{l:Str}{K:Q0}(hK:K (.pointer (some ⟨w.heap.size,0,none⟩)) (w.alloc (.stringIter (ofL l) 0))):dY P0 (Instr.range 9 (str l)) w K:=by
 have hT:Tryz.prog.underlying 9=some .string:=by kernel_rfl
 have hr:(Instr.range 9 (str l)).run P0 w=.ok (.pointer (some ⟨w.heap.size,0,none⟩)) (w.alloc (.stringIter (ofL l) 0)):=by
  simp[Instr.range,run_bind,bH hT,run_pure,newObj,Sem.run]
 unfold dY;rw[hr];exact hK
theorem Pj{r:Nat}{o:Obj}(h:r<w.heap.size):Chg (· =r) w {w with heap:=w.heap.setIfInBounds r o}:=
 ⟨rfl,rfl,rfl,by simp,λk _ hk=>by
  show(w.heap.setIfInBounds r o)[k]?=_
  rw[Array.getElem?_setIfInBounds_ne (by omega)]⟩
theorem Fq{r pos:Nat}{l:Str}{K:Q0}(hw:w.heap[r]?=some (.stringIter (ofL l) pos))
  (h0:l.length<=pos->K (.tuple #[.bool false]) w)
  (h1:pos<l.length->∀w',w'.heap[r]?=some (.stringIter (ofL l) (pos+(Utf8.decode (ofL l) pos).2))->Chg (· =r) w w'->w'.heap.size=w.heap.size->K (.tuple #[.bool true,i64 pos,.int .i32 (Utf8.decode (ofL l) pos).1]) w'):
  dY P0 (Instr.next (.pointer (some ⟨r,0,none⟩)) true T) w K:=by
 have hg:(getObj r).run P0 w=.ok (.stringIter (ofL l) pos) w:=by simp[getObj,Sem.run,hw]
 have hlt:r<w.heap.size:=(Array.getElem?_eq_some_iff.1 hw).1;unfold dY;simp only[Instr.next,run_bind,hg,eV];by_cases hp:pos<l.length
 ·have hset:(setObj r (.stringIter (ofL l) (pos+(Utf8.decode (ofL l) pos).2))).run P0 w=.ok () {w with heap:=w.heap.setIfInBounds r (.stringIter (ofL l) (pos+(Utf8.decode (ofL l) pos).2))}:=by simp[setObj,Sem.run,hw]
  rw[aH hp];simp only[run_bind,hset,run_pure];exact h1 hp _ (by simp[hlt]) (Pj hlt) (by simp)
 ·rw[aD hp];simp only[run_pure];exact h0 (by omega)
theorem Om{r:Str}{K:Q0}(hl:r.length<=1000000)(hK:K (str (uB (c::r))) w):aC P0 78 [str (c::r)] w K:=by
 refine ZK ?_;unfold W78;unfold uB at hK;refine bU.cut (λ_ w'=>w'=w/\wF.contains ((c::r).take 2)=false) ?_ ?_
 ·rw[fH,kS,aM];refine⟨λhlen=>?_,λhlen=>⟨rfl,?_⟩⟩
  ·rw[fG,eM];refine⟨by omega,by omega,?_⟩;rw[fT,cV];rw[show(c::r).take (Int.toNat 2)=(c::r).take 2 from rfl];generalize hx:(c::r).take 2=x at hK⊢;refine bU.cut (λst w'=>st=[.bool (wF.contains x)]/\w'=w) ?_ ?_
   ·unfold wF;simp only[List.contains_cons,List.contains_nil,Bool.or_false];have eqd:∀y:Str,decide (x=y)=(x==y):=λy=>by rw[lD];simp
    simp only[qJ,eqd];generalize (x==[61,61])=a1;generalize (x==[33,61])=a2;generalize (x==[60,61])=a3;generalize (x==[62,61])=a4;generalize (x==[38,38])=a5;generalize (x==[124,124])=a6;cases a1<;>simp only[dR,cX,yF,lQ,and_self];cases a2<;>simp only[dR,cX,yF,lQ,and_self];cases a3<;>simp only[dR,cX,yF,lQ,and_self];cases a4<;>simp only[dR,cX,yF,lQ,and_self];cases a5<;>simp only[dR,cX,yF,lQ,and_self]
   rintro st g w' ⟨rfl,rfl⟩;simp only[aF];rw[bS];refine⟨λhy=>?_,λhn=>⟨trivial,hn⟩⟩;rw[aH hy]at hK;rw[fG,eM];refine⟨by omega,by omega,?_⟩;rw[fT,cV];show K (str ((c::r).take 2)) w';rw[hx];exact hK
  ·have:r=[]:=bI (by simp only[aA]at hlen;omega);subst this;simp[wF]
 rintro _ g w' ⟨rfl,hn⟩;rw[aD (by rw[hn];decide)]at hK;refine qD (s:=c::r) (i:=0) (by simp) ?_;show aC P0 68 [_,cv c] w' _;refine Du ?_;rw[lM,Xv,bS];have hK:K (str (if AH.contains c=true then(c::r).take 1 else [])) w':=hK;refine⟨λhy=>?_,λhy=>?_⟩
 ·rw[aH hy]at hK;rw[fG,eM];refine⟨by omega,by simp only[aA];omega,?_⟩;rw[fT,cV];exact hK
 ·rw[aD (by rw[hy];decide)]at hK;exact hK
theorem Zi{t:Str}{K:Q0}(hT:wZ w)(hl:t.length<=1000000)(hK:∀x w',Ext w w'->K (.tuple #[str (t.take (eC (λb=>b !=10) t)),x,.bool (decide (eC (λb=>b !=10) t<t.length))]) w'):aC P0 110 [str t,str [10]] w K:=by
 obtain⟨m,hm⟩:=hT;refine gF (args:=#[str t,str [10]]) Tryz.call110 ((Tryz.strings_Cut (ofL t) (ofL [10]) m w (by rw[eV];omega) hm).mono ?_);rintro e w' ⟨rfl,n,rfl⟩;obtain⟨h1,h2⟩:=Us t;rw[eG,eG];refine⟨_,rfl,?_⟩;rw[show(⟨(Lib.cut t [10]).1.toArray⟩:ByteArray)=ofL (t.take (eC (λb=>b !=10) t))from by rw[h1];rfl,h2];refine hK _ _ ?_;exact⟨rfl,rfl,rfl,aU _,λ_ _ _=>rfl⟩
theorem QR{t:Str}{K:Q0}(hl:t.length<=1000000)(hK:∀w',Ext w w'->K (str (t.drop (eC (λb=>b==32||b==9) t))) w'):aC P0 111 [str t,str [32,9]] w K:=by
 refine gF (args:=#[str t,str [32,9]]) Tryz.call111 ((Tryz.strings_TrimLeft_laid (ofL t) (ofL [32,9]) w (by rw[eV];decide) (λj b hb=>?_)).mono ?_)
 ·rw[eG]at hb;have:=bK hb;simp only[bW,eY,sH]at this;rcases this with rfl|rfl<;>decide
 rintro e w' ⟨rfl,hb⟩;rw[eG,eG,NU];exact⟨_,rfl,hK w' (Chg.of_below hb)⟩
end
theorem uJ(s:Str):(jU s).length<=2*s.length:=by
 induction s with
 |nil=>simp[jU]
 |cons c r ih=>simp only[jU];(repeat' split)<;>simp only[aA]<;>omega
def lX(c:Nat):Str×Nat:=if c=92\/c=34\/c=36 then([92],c)else if c=9 then([92],116)else if c=13 then([92],114)else([],c)
theorem Ni(x:UInt8)(h:wrM x.toNat=[x]):jU [x]=(lX x.toNat).1++wrM (lX x.toNat).2:=by
 have e:∀k:UInt8,(x==k)=decide (x.toNat=k.toNat):=λk=>by
  rw[lD,fI,decide_eq_true_iff,iR]
 simp only[jU,e];unfold lX;by_cases h1:x.toNat=92\/x.toNat=34\/x.toNat=36
 ·rw[aH (by simp only[cM,decide_eq_true_iff];rcases h1 with h|h|h;exact .inl (.inl h);exact .inl (.inr h);exact .inr h),aH h1];show _=[92]++wrM x.toNat;rw[h];rfl
 rw[aD (by simp only[cM,decide_eq_true_iff];rintro((h|h)|h);exact h1 (.inl h);exact h1 (.inr (.inl h));exact h1 (.inr (.inr h))),aD h1];by_cases h2:x.toNat=9
 ·rw[aH (by simpa using h2),aH h2];rfl
 rw[aD (by simpa using h2),aD h2];by_cases h3:x.toNat=13
 ·rw[aH (by simpa using h3),aH h3];rfl
 rw[aD (by simpa using h3),aD h3];exact h.symm
theorem Km{c:Nat}(h:128<=c):lX c=([],c):=by
 unfold lX;rw[aD (by omega),aD (by omega),aD (by omega)]
theorem PG{c:Nat}(h:c<55296\/57343<c/\c<=1114111):(lX c).2<55296\/57343<(lX c).2/\(lX c).2<=1114111:=by
 unfold lX
 (repeat' split)<;>(dsimp only;omega)
theorem Nj(c:Nat):(lX c).1.length<=1:=by unfold lX;(repeat' split)<;>simp
def mN(l:Str)(at_:Nat)(x:Str×Nat×Int):Str×Nat×Int:=if x.2.2=0 then(l++x.1,x.2.1+at_,0)else([],0,x.2.2)
theorem Ng(l m:Str)(a b:Nat)(x:Str×Nat×Int):mN l a (if x.2.2=0 then(m++x.1,x.2.1+b,0)else([],0,x.2.2))=mN (l++m) (a+b) x:=by
 unfold mN;by_cases h:x.2.2=0
 ·simp only[h,gU,fD];rw[show x.2.1+b+a=x.2.1+(a+b)by omega]
 ·simp only[aD h]
theorem Fv(n:Nat)(name s:Str):lL (n+1) name s=(if(s.take (eC (λb=>b !=10) s)).drop (eC (λb=>b==32||b==9) (s.take (eC (λb=>b !=10) s)))=name then([],eC (λb=>b !=10) s,0)else if s.length<=eC (λb=>b !=10) s then([],0,40)else
 (if(lL n name (s.drop (eC (λb=>b !=10) s+1))).2.2=0 then(jU (s.take (eC (λb=>b !=10) s))++[92,110]++(lL n name (s.drop (eC (λb=>b !=10) s+1))).1,(lL n name (s.drop (eC (λb=>b !=10) s+1))).2.1+(eC (λb=>b !=10) s+1),0)else([],0,(lL n name (s.drop (eC (λb=>b !=10) s+1))).2.2))):=rfl
section
variable [HX]
theorem Nh{s:Str}{K:Q0}(hT:wZ w)(hU:Utf s)(hl:s.length<=1000000)(h2:2<=s.length)
  (hK:∀w',Ext w w'->K (.tuple #[str (gT s).1,i64 ((gT s).2.1:Nat),i64 (gT s).2.2]) w'):aC P0 77 [str s] w K:=by
 refine ZL ?_;unfold W77;unfold gT at hK;dsimp only at hK;generalize hn:(if iU ((s.drop 2).headD 0)then eC jB (s.drop 2)else 0)=n at hK;have hnl:n+2<=s.length:=by
  have:=pR jB (s.drop 2);rw[aP]at this;rw[<-hn];split<;>omega
 refine bU.cut (λst w'=>st=[i64 (n:Nat)]/\w'=w) ?_ ?_
 ·rw[fH,kS];refine GdW.look (iU ((s.drop 2).headD 0)) (λhg J hJ=>?_) λg=>?_
  ·rw[gX,decide_eq_true_iff]at hg;have hlt:2<s.length:=by omega
   refine qD (i:=2) hlt ?_;refine wM ?_;rw[iC hlt]at hJ;exact hJ
  ·simp only[aF,gX];rw[eU,bS];refine⟨λhy=>?_,λhno=>?_⟩
   ·rw[aJ]at hy;rw[aH hy.2]at hn;rw[fG,fT,eM];refine⟨by omega,by omega,?_⟩;rw[bM];show aC P0 69 [str (s.drop 2),_] w _;refine Le (q:=jB) (by rw[aP];omega) (λc {w K} h=>xX (TE h)) ?_;rw[hn];exact⟨rfl,rfl⟩
   ·have:n=0:=by
     rw[<-hn];by_cases hlet:iU ((s.drop 2).headD 0)=true
     ·rw[hlet,kI,decide_eq_false_iff_not]at hno;rw[aH hlet,List.drop_eq_nil_of_le (by omega)];rfl
     ·rw[aD hlet]
    rw[this];exact⟨rfl,trivial⟩
 rintro st g w' ⟨rfl,rfl⟩;simp only[aF];rw[cA,cK (by omega) (by omega)];rw[fG,eM,eM];refine⟨by omega,by omega,by omega,by omega,?_⟩;have hnm:(s.take (Int.toNat (2+(n:Nat)))).drop (Int.toNat 2)=(s.drop 2).take n:=by
  rw[show Int.toNat (2+(n:Nat))=2+n by omega,show Int.toNat 2=2 from rfl,Es];rw[show 2+n-2=n by omega]
 rw[hnm,cA,cK (by omega) (by omega),show(2+(n:Nat):Int)=((2+n:Nat):Int)by omega];generalize (s.drop 2).take n=nm at*
 rw[bL];simp only[kL];refine GdW.look (decide (s.length<=2+n)) (λ_ J hJ=>?_) λg1=>?_
 ·rw[fH,lM,show decide (((s.length:Nat):Int)<=((2+n:Nat):Int))=decide (s.length<=2+n)by rw[decide_eq_decide];omega];exact hJ
 simp only[aF];rw[eR];simp only[kL];refine GdW.look (decide ((s.drop (2+n)).head?≠some 10)) (λhg J hJ=>?_) λg2=>?_
 ·have hlt:2+n<s.length:=by
   simp only[dO,jE,decide_eq_false_iff_not]at hg;omega
  refine qD hlt ?_;have e5:decide (((s[2+n].toNat:Nat):Int)=10)=(s[2+n]==10):=zE 10 _;rw[fL];rw[iC hlt]at hJ;have:decide (((s[2+n].toNat:Nat):Int)≠10)=decide ((s[2+n]::s.drop (2+n+1)).head?≠some 10):=by
   have e6:∀(c:UInt8) (r:Str),(c==10)=decide ((c::r).head?=some 10):=λc r=>by rw[lD];simp
   rw[vU,e5,vU,e6 _ (s.drop (2+n+1))]
  rw[this];exact hJ
 simp only[aF];rw[eR,bS];refine⟨λhbad=>?_,λhok=>?_⟩
 ·have hb:n=0\/¬(s.drop (2+n)).head?=some 10:=by
   simp only[cM,decide_eq_true_iff]at hbad;rcases hbad with(h|h)|h
   ·exact .inl (by omega)
   ·right;rw[List.drop_eq_nil_of_le (by omega)];simp
   ·exact .inr h
  have hK:=hK w' (Chg.refl _ _);rcases hb with h|h
  ·rw[aH h]at hK;exact hK
  ·rw[aD h]at hK;split at hK<;>exact hK
 simp only[jE,decide_eq_false_iff_not,bT,nN]at hok;obtain⟨⟨hn0,hlt⟩,h10⟩:=hok;have hlt:2+n<s.length:=by omega
 rw[aD (by omega),aH h10]at hK;rw[cA,upi (by omega)];have hUs:Utf (s.drop (2+n+1)):=by
  have hd:=iC hlt;rw[hd]at h10;simp only[List.head?_cons,bD]at h10;exact tT (zN hU hd (by rw[h10];decide)).2 (by rw[h10];decide)
 generalize hR:lL (s.length+1) nm (s.drop (2+n+1))=X at hK;have hR2:mN [] (2+n+1) X=if X.2.2=0 then(X.1,X.2.1+(2+n+1),0)else([],0,X.2.2):=by unfold mN;rw[eQ]
 rw[<-hR2]at hK;refine Zl (B:=w'.heap.size) (aU _) λb w1 hb h1 hx1=>?_;generalize hR0:mN [] (2+n+1) X=R0 at hK;refine cZ.go (λst w2=>∃(i m:Nat) (l:Str),st=[i64 (i:Nat)]/\i<=s.length/\Utf (s.drop i)/\Bld w2 w'.heap.size b l/\Ext w' w2/\l.length<=2*i/\mN l i (lL m nm (s.drop i))=R0/\s.length<m+i) (λst _=>match st with|[.int _ i]=>s.length+1-i.toNat|_=>0) ⟨2+n+1,s.length+1,[],rfl,by omega,hUs,h1,hx1,by simp,by rw[hR,hR0],by omega⟩ ?_;rintro st g3 w2 ⟨i,m,l,rfl,hi,hu,hB,hx,hll,hr,hm⟩;obtain⟨m,rfl⟩:∃k,m=k+1:=⟨m-1,by omega⟩;rw[Fv]at hr;simp only[aF];rw[fG,fT,eM];refine⟨by omega,by omega,?_⟩;rw[bM,aV];have hsl:(s.drop i).length=s.length-i:=aP;refine Zi (hT.ext hx) (by omega) λx w3 hx3=>?_;rw[bJ];refine⟨_,rfl,?_⟩;rw[bJ];refine⟨_,rfl,?_⟩;rw[bJ];refine⟨_,rfl,?_⟩;obtain⟨ul,ur⟩:=NM hu;have hkl:=pR (λb=>b !=10) (s.drop i);have htk:((s.drop i).take (eC (λb=>b !=10) (s.drop i))).length=eC (λb=>b !=10) (s.drop i):=by rw[cI];omega
 generalize eC (λb=>b !=10) (s.drop i)=k at*
 generalize hln:(s.drop i).take k=ln at*
 refine QR (by omega) λw4 hx4=>?_;have hx':Ext w' w4:=(hx.trans hx3).trans hx4;have hB4:Bld w4 w'.heap.size b l:=(hB.ext hx3).ext hx4;rw[qJ,aM];refine⟨λhy=>?_,λhno=>?_⟩
 ·rw[aH hy]at hr;refine Bq hB4 hx'.size λw5 hc5=>?_;rw[fH,cA,cK (by omega) (by omega)];have hfx:Ext w' w5:=hx'.then hc5 λk hk e=>by omega
  have hK:=hK w5 hfx;rw[<-hr]at hK;simp only[mN,gU,eA]at hK;rw[show(i:Int)+(ln.length:Nat)=((k+i:Nat):Int)by omega];exact hK
 rw[aD hno]at hr;rw[eD,bS];refine⟨λhend=>?_,λhmore=>?_⟩
 ·rw[aH (by simpa using hend)]at hr;have hK:=hK w4 hx';rw[<-hr]at hK;exact hK
 have hk:k<(s.drop i).length:=by simpa using hmore
 rw[aD (by omega)]at hr;rw[Ng]at hr;have hun:=ur hk;clear ur;have hlk:(s.drop i).length=s.length-i:=aP;refine Dh ?_;have hz4:=hx'.size;have hbb:=hB4.lt;refine cZ.go (λst w5=>∃p,p<=ln.length/\st=[]/\Utf (ln.drop p)/\w5.heap[w4.heap.size]?=some (.stringIter (ofL ln) p)/\Bld w5 w'.heap.size b (l++jU (ln.take p))/\Ext w' w5)
  (λ_ w5=>match w5.heap[w4.heap.size]? with|some (.stringIter _ p)=>ln.length-p|_=>0)
  ⟨0,fW _,rfl,by rw[cV];exact ul,gD _ _ _ rfl,by rw[List.take_zero];show Bld _ _ _ (l++[]);rw[eA];exact hB4.ext (Chg.alloc (Chg.refl _ _) _),hx'.trans (Chg.alloc (Chg.refl _ _) _)⟩ ?_
 rintro st g4 w5 ⟨p,hp,rfl,hup,hit,hB5,hx5⟩;have hz5:=hx5.size;have hl5:(l++jU (ln.take p)).length<=2*i+2*k:=by
  have:=uJ (ln.take p);have:(ln.take p).length<=k:=by rw[cI];omega
  rw[bE];omega
 refine Fq hit (λhpe=>?_) (λhpl w6 hit6 hc6 hz6=>?_)
 ·rw[bJ];refine⟨.bool false,rfl,?_⟩;rw[cX];obtain rfl:p=ln.length:=by omega
  rw[bM]at hB5 hl5;refine Ju hB5 hz5 (by simp only[aA,aL];omega) λv w6 h6 hc6=>?_;have hx6:Ext w' w6:=BCh.new hx5 (aU _) (by omega) hc6;rw[fH,cA,cK (by omega) (by omega),cA,cK (by omega) (by omega)];have hgl:=uJ ln;refine⟨⟨i+(k+1),m,l++jU ln++[92,110],by simp only[eJ,Value.int.injEq,dH,lI];omega,by omega,?_,h6,hx6,?_,?_,by omega⟩,?_⟩
  ·rw[<-fF];exact hun
  ·simp only[bE,aA,aL];omega
  ·rw[<-hr,fF,fD]
  ·simp only[aV];omega
 ·have hne:ln.drop p≠[]:=λe=>by have:=dS.1 e;omega
  obtain⟨u,r,hru,hur,hdr⟩:∃u r,Rn u/\Utf r/\ln.drop p=u++r:=by
   cases hd:ln.drop p with
   |nil=>exact absurd hd hne
   |cons x y=>
    rw[hd]at hup;generalize he:x::y=z at hup;cases hup with
    |nil=>cases he
    |cons h1 h2=>exact⟨_,_,h1,h2,rfl⟩
  have hrm:gQ ln p=u.length:=hru.at hdr;have huz:=hru.pos;obtain⟨c,hc⟩:=uD hpl (by omega);rw[hrm]at hc;have htk2:(ln.drop p).take u.length=u:=by rw[hdr,List.take_left]
  have hnext:ln.take (p+u.length)=ln.take p++u:=by rw[List.take_add,htk2]
  have hdr2:ln.drop (p+u.length)=r:=Qa hdr;have hdec:=hc.dec;have hct:=hc.top;have hcv:=hc.val;have hcu:wrM c=u:=by rw[<-Xh (by omega),hc.bytes,htk2]
  rw[hdec]at hit6;have hfit:=hc.fits;have hB6:Bld w6 w'.heap.size b (l++jU (ln.take p)):=hB5.chg hc6 (λe=>by have:=e;omega) λk hk e=>by
   obtain⟨_,c',hc'⟩:=hk;have e:k=w4.heap.size:=e;rw[e,hit]at hc';cases hc'
  have hx6:Ext w' w6:=hx5.then hc6 λk hk e=>by omega
  have hu2:jU u=(lX c).1++wrM (lX c).2:=by
   rcases hru.cases with⟨x,hx,hxl⟩|hh
   ·subst hx;have hcx:c=x.toNat:=by
     have:=(hc.low rfl).1;rw[this];have e:=mX hpl;rw[Go.Eng.byte_at (show ln.drop p=x::r from hdr)]at e;omega
    subst hcx;exact Ni x hcu
   ·have hc128:128<=c:=by
     have hb0:=qW (j:=0) hdr huz;have h128:=hh u[0] (AB ..);rw[fA,mX hpl]at hb0;by_cases h1:u.length=1
     ·have:=hc.low h1;omega
     ·exact(hc.high (by omega)).1
    rw[Km hc128,Kn hh,hcu];rfl
  have hok:=PG (c:=c) (by omega);have hl1:=Nj c;rw[bJ];refine⟨.bool true,rfl,?_⟩;rw[dR,bJ];refine⟨.int .i32 (c:Int),by rw[hdec];rfl,?_⟩;refine bU.cut (λst w7=>st=[.int .i32 ((lX c).2:Nat)]/\Bld w7 w'.heap.size b (l++jU (ln.take p)++(lX c).1)/\w7.heap[w4.heap.size]?=some (.stringIter (ofL ln) (p+u.length))/\Ext w' w7) ?_ ?_
  ·have wr:∀(x:Nat) (w7:World),lX c=([92],x)->Bld w7 w'.heap.size b (l++jU (ln.take p)++[92])->Chg (BCh w6 w'.heap.size b) w6 w7->[Value.int .i32 (x:Int)]=[.int .i32 ((lX c).2:Nat)]/\Bld w7 w'.heap.size b (l++jU (ln.take p)++(lX c).1)/\w7.heap[w4.heap.size]?=some (.stringIter (ofL ln) (p+u.length))/\Ext w' w7:=by
    intro x w7 e h7 hc7;rw[e];exact⟨rfl,h7,BCh.iter hc7 hit6 (by omega),BCh.new hx6 (aU _) (by omega) hc7⟩
   refine bU.cut (λst w7=>st=[.bool (decide (c=92\/c=34\/c=36))]/\w7=w6) ?_ ?_
   ·rw[bL,aM];refine⟨λh=>?_,λh=>?_⟩
    ·rw[bF h,bF (.inl (by omega))];exact⟨rfl,rfl⟩
    rw[bL,aM];refine⟨λh'=>?_,λh'=>?_⟩
    ·rw[bF h',bF (.inr (.inl (by omega)))];exact⟨rfl,rfl⟩
    rw[bL];rw[show decide (((c:Nat):Int)=36)=decide (c=92\/c=34\/c=36)by rw[decide_eq_decide];omega];exact⟨rfl,rfl⟩
   rintro st g5 w7 ⟨rfl,rfl⟩;simp only[aF];rw[aM];refine⟨λh=>?_,λh=>?_⟩
   ·refine Ci (n:=92) hB6 (by omega) (by omega) (by omega) λw8 h8 hc8=>?_;exact wr c w8 (by unfold lX;rw[aH h]) h8 hc8
   rw[bL,aM];refine⟨λh'=>?_,λh'=>?_⟩
   ·refine Ci (n:=92) hB6 (by omega) (by omega) (by omega) λw8 h8 hc8=>?_;exact wr 116 w8 (by unfold lX;rw[aD h,aH (by omega)]) h8 hc8
   rw[bL,aM];refine⟨λh''=>?_,λh''=>?_⟩
   ·refine Ci (n:=92) hB6 (by omega) (by omega) (by omega) λw8 h8 hc8=>?_;exact wr 114 w8 (by unfold lX;rw[aD h,aD (by omega),aH (by omega)]) h8 hc8
   have e:lX c=([],c):=by unfold lX;rw[aD h,aD (by omega),aD (by omega)]
   rw[e,eA];exact⟨rfl,hB6,hit6,hx6⟩
  rintro st g5 w7 ⟨rfl,hB7,hit7,hx7⟩;simp only[aF];have hz7:=hx7.size;refine QG hB7 hz7 (by rw[bE];omega) hok λv w8 h8 hc8=>?_;have hit8:=BCh.iter hc8 hit7 (by omega);refine⟨⟨p+u.length,hfit,trivial,by rw[hdr2];exact hur,hit8,?_,BCh.new hx7 (aU _) (by omega) hc8⟩,?_⟩
  ·rw[hnext,Nk,hu2,<-fD,<-fD];exact h8
  ·rw[hit8,hit];show ln.length-(p+u.length)<ln.length-p;omega
end
theorem CJ{r:Str}{d:Nat}(h:(fP r d).2=0):1<=(fP r d).1/\(fP r d).1<=r.length:=by
 exact((iN _ r (aU _)).1 d _ (eZ rfl h)).2
theorem HT(c:UInt8)(r:Str):oH (c::r)=
 (if(c==10)=true then(⟨5,[10],0⟩,1,0)
 else if iU c=true then(⟨1,(c::r).take (eC jB (c::r)),0⟩,eC jB (c::r),if 32<eC jB (c::r)then 3 else 0)
 else if iM c=true then
  (⟨2,(c::r).take (eC iM (c::r)),0⟩,eC iM (c::r),if((eC iM (c::r)<(c::r).length&&iU (((c::r).drop (eC iM (c::r))).headD 0))||(c==48&&1<eC iM (c::r)))=true then 40 else if Num.goodN ((c::r).take (eC iM (c::r)))=true then 0 else 3)
 else if(c==34)=true then
  (if(nP ((c::r).length+1) r 0).2=0 then(⟨3,r.take ((nP ((c::r).length+1) r 0).1-1),0⟩,(nP ((c::r).length+1) r 0).1+1,0)else(⟨0,[],0⟩,0,(nP ((c::r).length+1) r 0).2))
 else if oN [60,60] (c::r)=true then(⟨3,(gT (c::r)).1,0⟩,(gT (c::r)).2.1,(gT (c::r)).2.2)
 else(⟨4,uB (c::r),0⟩,(uB (c::r)).length,if(uB (c::r)).length=0 then 40 else 0)):=rfl
section
variable [HX]
theorem aA9{r:Str}{K:Q0}(hT:wZ w)(hU:Utf (c::r))(hl:r.length<=100000)
  (hK:∀w',Ext w w'->K (.tuple #[.agg (eS (oH (c::r)).1).toArray,i64 ((oH (c::r)).2.1:Nat),i64 (oH (c::r)).2.2]) w'):aC P0 45 [str (c::r)] w K:=by
 refine aAi ?_;unfold W45;have hlen:(c::r).length=r.length+1:=rfl;refine bG λa w1 ha hz1 hab1 hx1=>?_;refine bG λb w2 hb hz2 hbb2 hx2=>?_;have hx02:=hx1.trans hx2;have hab2:=hx2.at hab1 id;have cond:∀(k:Nat),k<256->(((c.toNat:Nat):Int)=(k:Int)↔c=UInt8.ofNat k):=λk hk=>by
  have:=Ey c k hk;rwa[decide_eq_decide]at this
 generalize ho:oH (c::r)=o at hK;rw[HT]at ho;refine bU.cut (λst w'=>st=[i64 o.2.2,i64 (o.2.1:Nat)]/\Ext w w'/\w'.heap[a]?=some (.cells [i64 0,str [],i64 0].toArray TkT (0,0))/\w'.heap[b]?=some (.cells (eS o.1).toArray TkT (0,0))) ?_ ?_
 ·
  have put:∀{w3:World} {t:Tok} {old:List Value} {K':World->Prop},Ext w w3->w3.heap[a]?=some (.cells [i64 0,str [],i64 0].toArray TkT (0,0))->w3.heap[b]?=some (.cells old.toArray TkT (0,0))->old.length=3->
    (∀w4,Ext w w4->w4.heap[a]?=some (.cells [i64 0,str [],i64 0].toArray TkT (0,0))->w4.heap[b]?=some (.cells (eS t).toArray TkT (0,0))->K' w4)->stW 3 (.pointer (some ⟨b,0,none⟩)) (.agg (eS t).toArray) w3 K':=by
   intro w3 t old K' hx ha3 hb3 ho3 h;refine cG hb3 rfl ho3 rfl λw4 hz4 hb4 hc4=>?_;exact h w4 (hx.new hc4 (by omega)) (hc4.at ha3 (by omega)) hb4
  refine qD (i:=0) (by rw[hlen];omega) ?_;simp only[List.getElem_cons_zero];rw[bL,aM];refine⟨λe=>?_,λe=>?_⟩
  ·have e:c=10:=(cond 10 (by omega)).1 e;subst e;simp only[beq_self_eq_true,gU]at ho;subst ho;simp only[dA,dZ,aA,aL,aW,aZ,Nat.reduceAdd,Nat.reduceLT,dH,aB];refine cG (l:=[i64 5,str [10],i64 0]) hab2 rfl rfl rfl λw3 hz3 hab3 hc3=>?_;refine bX hab3 rfl ?_;exact hK w3 (hx02.new hc3 (by omega))
  have e:¬(c==10)=true:=λh=>e ((cond 10 (by omega)).2 (by simpa using h));rw[aD e]at ho;refine wM ?_;rw[bS];refine⟨λhy=>?_,λhno=>?_⟩
  ·rw[aH hy]at ho;refine Le (q:=jB) (by rw[hlen];omega) (λc {w K} h=>xX (TF h)) ?_;have hle:=pR jB (c::r);rw[hlen]at hle;generalize eC jB (c::r)=n at*
   rw[fG,eM];refine⟨by omega,by rw[hlen];omega,?_⟩;rw[fT,cV,aV];simp only[dA,dZ,aA,aL,aW,aZ,Nat.reduceAdd,Nat.reduceLT,dH,aB];refine put (t:=⟨1,(c::r).take n,0⟩) hx02 hab2 hbb2 rfl λw4 hx4 ha4 hb4=>?_;rw[kS,aM];subst ho;refine⟨λh=>?_,λh=>?_⟩
   ·exact⟨by rw[aH (by omega)],hx4,ha4,hb4⟩
   ·exact⟨by rw[aD (by omega)],hx4,ha4,hb4⟩
  rw[aD (by rw[hno];decide)]at ho;refine Cu ?_;rw[bS];refine⟨λhy=>?_,λhno=>?_⟩
  ·rw[aH hy]at ho;refine Le (q:=iM) (by rw[hlen];omega) (λc {w K} h=>xX (Cu h)) ?_;have hle:=pR iM (c::r);rw[hlen]at hle;generalize eC iM (c::r)=n at*
   rw[fG,eM];refine⟨by omega,by rw[hlen];omega,?_⟩;rw[fT,cV,aV];simp only[dA,dZ,aA,aL,aW,aZ,Nat.reduceAdd,Nat.reduceLT,dH,aB];refine put (t:=⟨2,(c::r).take n,0⟩) hx02 hab2 hbb2 rfl λw4 hx4 ha4 hb4=>?_;refine bU.cut (λst w'=>st=[.bool ((n<(c::r).length&&iU (((c::r).drop n).headD 0))||(c==48&&1<n))]/\w'=w4) ?_ ?_
   ·rw[fH,dW,show decide (((n:Nat):Int)<(((c::r).length:Nat):Int))=decide (n<(c::r).length)by rw[decide_eq_decide];omega];simp only[gX];refine GdW.look (iU (((c::r).drop n).headD 0)) (λhg J hJ=>?_) λg=>?_
    ·have hlt:n<(c::r).length:=by simpa using hg
     refine qD hlt ?_;refine wM ?_;rw[iC hlt]at hJ;exact hJ
    simp only[aF];rw[eU,bS];refine⟨λh=>by rw[h,yF];exact⟨rfl,trivial⟩,λh=>?_⟩;have e5:decide (((c.toNat:Nat):Int)=48)=(c==48):=zE 48 c;rw[bL,e5];simp only[gX,kS,mY,aF];intro g2;rw[eU,h,lQ];refine⟨?_,trivial⟩;rw[show decide ((1:Int)<((n:Nat):Int))=decide (1<n)by rw[decide_eq_decide];omega]
   rintro st g w5 ⟨rfl,rfl⟩;simp only[aF];rw[bS];refine⟨λh=>?_,λh=>?_⟩
   ·rw[aH h]at ho;subst ho;exact⟨rfl,hx4,ha4,hb4⟩
   rw[aD (by rw[h];decide)]at ho;rw[bP,dM];refine⟨str ((c::r).take n),by rw[bY,cC,hb4];rfl,?_⟩;refine lT (by have:((c::r).take n).length<=n:=(by rw[cI];omega);omega) λw6 hx6=>?_;rw[eD,bS];subst ho;refine⟨λh=>?_,λh=>?_⟩
   ·exact⟨by rw[aD (by simpa using h)],hx4.trans hx6,hx6.at ha4 id,hx6.at hb4 id⟩
   ·exact⟨by rw[aH (by simpa using h)],hx4.trans hx6,hx6.at ha4 id,hx6.at hb4 id⟩
  rw[aD (by rw[hno];decide)]at ho;rw[bL,aM];refine⟨λe=>?_,λe=>?_⟩
  ·have e:c=34:=(cond 34 (by omega)).1 e;rw[aH (by rw[e];rfl),sR (by omega)]at ho;refine TN (d:=0) (by omega) (by omega) ?_;by_cases h0:(fP r 0).2=0
   ·rw[aH h0]at ho;have hf:=CJ h0;unfold oZ;rw[aH h0,bJ];refine⟨_,rfl,?_⟩;rw[bJ];refine⟨_,rfl,?_⟩;rw[bL,aM];refine⟨λ_=>?_,λh=>absurd rfl h⟩;rw[nB,cK (by omega) (by omega),fG,eM,eM];refine⟨by omega,by rw[hlen];omega,by omega,by omega,?_⟩;have et:((c::r).take (Int.toNat (((fP r 0).1+1:Nat)-1))).drop (Int.toNat 1)=r.take ((fP r 0).1-1):=by
     rw[show Int.toNat ((((fP r 0).1+1:Nat):Int)-1)=((fP r 0).1-1)+1 by omega];rfl
    rw[et];simp only[dA,dZ,aA,aL,aW,aZ,Nat.reduceAdd,Nat.reduceLT,dH,aB];refine put (t:=⟨3,r.take ((fP r 0).1-1),0⟩) hx02 hab2 hbb2 rfl λw4 hx4 ha4 hb4=>?_;subst ho;exact⟨rfl,hx4,ha4,hb4⟩
   ·rw[aD h0]at ho;unfold oZ;rw[aD h0,bJ];refine⟨_,rfl,?_⟩;rw[bJ];refine⟨_,rfl,?_⟩;rw[bL,aM];refine⟨λh=>absurd h h0,λh=>?_⟩;subst ho;exact⟨rfl,hx02,hab2,hbb2⟩
  have e:¬(c==34)=true:=λh=>e ((cond 34 (by omega)).2 (by simpa using h));rw[aD e]at ho;refine zC ?_;rw[bS];refine⟨λhy=>?_,λhno=>?_⟩
  ·rw[aH (show oN [60,60] (c::r)=true from hy)]at ho;have h2:2<=(c::r).length:=Gz (p:=[60,60]) (s:=c::r) hy;rw[bP,bY,aX];refine iT hbb2 rfl (by simp) λw3 hz3 hb3 hc3=>?_;have hx3:=hx02.new hc3 (by omega);have ha3:=hc3.at hab2 (by omega);refine Nh (hT.ext hx3) hU (by rw[hlen];omega) h2 λw4 hx4=>?_;rw[bJ];refine⟨_,rfl,?_⟩;rw[bJ];refine⟨_,rfl,?_⟩;rw[bJ];refine⟨_,rfl,?_⟩;have hb4:=hx4.at hb3 id;rw[bP,bY,aX];refine iT hb4 rfl (by simp) λw5 hz5 hb5 hc5=>?_;subst ho;exact⟨rfl,(hx3.trans hx4).new hc5 (by omega),hc5.at (hx4.at ha3 id) (by omega),by rw[hb5];simp[eS]⟩
  ·rw[aD (show¬oN [60,60] (c::r)=true from by rw[show oN [60,60] (c::r)=false from hno];decide)]at ho;refine Om (by omega) ?_;simp only[dA,dZ,aA,aL,aW,aZ,Nat.reduceAdd,Nat.reduceLT,dH,aB];refine put (t:=⟨4,uB (c::r),0⟩) hx02 hab2 hbb2 rfl λw4 hx4 ha4 hb4=>?_;rw[bP,dM];refine⟨str (uB (c::r)),by rw[bY,cC,hb4];rfl,?_⟩;rw[fH,bL,aM];subst ho;refine⟨λh=>?_,λh=>?_⟩
   ·exact⟨by rw[aH (by omega)],hx4,ha4,hb4⟩
   ·exact⟨by rw[aD (by omega)],hx4,ha4,hb4⟩
 rintro st g w3 ⟨rfl,hx3,ha3,hb3⟩;refine bX hb3 rfl ?_;refine cG (l:=eS o.1) ha3 rfl rfl rfl λw4 hz4 ha4 hc4=>?_;refine bX ha4 rfl ?_;exact hK w4 (hx3.new hc4 (by omega))
end
theorem NN{s:Str}{k:Nat}(h:Utf s)(hc:∀c,(s.drop k).head?=some c->c.toNat<128):Utf (s.drop k):=by
 cases hd:s.drop k with
 |nil=>exact .nil
 |cons c b=>exact(zN h hd (hc c (by rw[hd];rfl))).2
theorem zM{s:Str}{k:Nat}(h:Utf s)(hk:s[k]?=some c)(hc:c.toNat<128):Utf (s.drop (k+1)):=by
 obtain⟨hlt,e⟩:=List.getElem?_eq_some_iff.1 hk;have hd:=iC hlt;rw[e]at hd;exact tT (zN h hd hc).2 hc
theorem CR(q:UInt8->Bool):∀(s:Str) (b:UInt8),(s.drop (eC q s)).head?=some b->q b=false
 |[],b,h=>by simp[eC]at h
 |c::r,b,h=>by
  simp only[eC]at h
  by_cases hc:q c=true
  ·rw[aH hc,cS]at h;exact CR q r b h
  ·rw[aD hc]at h
   simp only[cV,List.head?_cons,bD]at h
   rw[<-h];simpa using hc
theorem HA(q:UInt8->Bool):∀(s:Str) (k:Nat),eC q s=k+1->∃c,s[k]?=some c/\q c=true
 |[],k,h=>by simp[eC]at h
 |c::r,k,h=>by
  simp only[eC]at h
  by_cases hc:q c=true
  ·rw[aH hc]at h
   cases k with
   |zero=>exact⟨c,rfl,hc⟩
   |succ k=>
    obtain⟨x,h1,h2⟩:=HA q r k (by omega)
    exact⟨x,by simpa using h1,h2⟩
  ·rw[aD hc]at h;omega
theorem LA:∀(s:Str) (i:Nat),Lib.index s [42,47]=(i:Int)->s[i+1]?=some 47
 |[],i,h=>by
  unfold Lib.index at h
  simp at h
 |b::l,i,h=>by
  unfold Lib.index at h
  split at h
  ·rename_i hp
   have hi:i=0:=by omega
   subst hi
   cases l with
   |nil=>simp[List.isPrefixOf]at hp
   |cons c l=>
    simp only[List.isPrefixOf,aJ,fI,kI]at hp
    simp[hp.2]
  ·split at h
   ·omega
   ·rename_i hq
    have h1:Lib.index l [42,47]≠-1:=by simpa using hq
    have hg:=Lib.index_ge l [42,47]
    have:=LA l (i-1) (by omega)
    have hi:1<=i:=by omega
    rw[show i-1+1=i by omega]at this
    simpa using this
theorem Mm{s:Str}(h:Utf s):Utf (s.drop (eC (λb=>b !=10) s)):=
 NN h λc hc=>by
  have:=CR _ _ _ hc
  have:c=10:=by simpa using this
  subst this;decide
theorem zU:∀(n:Nat) (s:Str),Utf s->Utf (s.drop (eX n s).1)
 |0,s,h=>by simpa[eX]using h
 |n+1,[],h=>by simpa[eX]using h
 |n+1,c::r,h=>by
  rw[EE]
  split
  ·rename_i hb
   have hc:c.toNat<128:=by
    simp only[cM,fI]at hb;rcases hb with(rfl|rfl)|rfl<;>decide
   rw[cS];exact zU n r (tT h hc)
  split
  ·have:=zU n _ (Mm h);rw[fF]at this;rw[pP];exact this
  split
  ·rename_i hp;split
   ·simpa using h
   ·rename_i hn;obtain⟨j,hj⟩:=Int.eq_ofNat_of_zero_le (show 0<=Lib.index (r.drop 1) [42,47]by omega);have he:=LA _ _ hj;have hu:Utf ((c::r).drop ((Lib.index (r.drop 1) [42,47]).toNat+4)):=by
     rw[hj,aV];refine zM (k:=j+3) (c:=47) h ?_ (by decide);rw[List.getElem?_drop]at he;rw[List.getElem?_cons_succ,<-he];congr 1;omega
    have:=zU n _ hu;rw[fF]at this;rw[pP];exact this
  ·simpa using h
theorem Dx:∀(n:Nat) (name s:Str) (c:UInt8),(lL n name s).2.2=0->(s.drop (lL n name s).2.1).head?=some c->c=10
 |0,_,_,_,h,_=>by simp[lL]at h
 |n+1,name,s,c,h,hc=>by
  rw[Fv]at h hc
  split at h
  ·rename_i h1
   rw[aH h1]at hc
   have:=CR _ _ _ hc
   simpa using this
  rename_i h1
  rw[aD h1]at hc
  split at h
  ·cases h
  rename_i h2
  rw[aD h2]at hc
  split at h
  ·rename_i h3
   rw[aH h3]at hc
   refine Dx n name _ c h3 ?_
   rw[fF]
   rw[show eC (λb=>b !=10) s+1+(lL n name (s.drop (eC (λb=>b !=10) s+1))).2.1=(lL n name (s.drop (eC (λb=>b !=10) s+1))).2.1+(eC (λb=>b !=10) s+1)by omega]
   exact hc
  ·rename_i h3;exact absurd h h3
theorem GO{s:Str}(h:(gT s).2.2=0)(hc:(s.drop (gT s).2.1).head?=some c):c=10:=by
 unfold gT at h hc;simp only at h hc;generalize (if iU ((s.drop 2).headD 0)=true then eC jB (s.drop 2)else 0)=n at h hc;split at h
 ·cases h
 rename_i h1;rw[aD h1]at hc;split at h
 ·rename_i h2;rw[aH h2]at hc;split at h
  ·rename_i h3;rw[aH h3]at hc;refine Dx _ _ _ c h3 ?_;rw[fF,pP];exact hc
  ·rename_i h3;exact absurd h h3
 ·cases h
theorem Ig(h:jB c=true):c.toNat<128:=by
 have:∀m:Fin 256,jB (UInt8.ofNat m.val)=true->(UInt8.ofNat m.val).toNat<128:=by decide+kernel
 have h':=this ⟨c.toNat,sK c⟩;rw[qX]at h';exact h' h
theorem Nx(h:iM c=true):c.toNat<128:=Ig (by unfold jB;rw[h];simp)
theorem On(h:AH.contains c=true):c.toNat<128:=by
 have:∀m:Fin 256,AH.contains (UInt8.ofNat m.val)=true->(UInt8.ofNat m.val).toNat<128:=by decide+kernel
 have h':=this ⟨c.toNat,sK c⟩;rw[qX]at h';exact h' h
theorem Mz{x:Str}(h:wF.contains x=true):x.length=2/\∃c,x[1]?=some c/\c.toNat<128:=by
 have:x∈wF:=by simpa using h
 simp only[wF,bW,eY,sH]at this;rcases this with rfl|rfl|rfl|rfl|rfl|rfl<;>exact⟨rfl,_,rfl,by decide⟩
theorem Tu{r:Str}(h:Utf (c::r))(h0:(oH (c::r)).2.2=0):Utf ((c::r).drop (oH (c::r)).2.1):=by
 have run:∀q:UInt8->Bool,(∀c,q c=true->c.toNat<128)->Utf ((c::r).drop (eC q (c::r))):=λq hq=>by
  cases hk:eC q (c::r)with
  |zero=>exact h
  |succ k=>
   obtain⟨x,h1,h2⟩:=HA q _ _ hk;exact zM h h1 (hq x h2)
 rw[HT]at h0⊢;split
 ·rename_i e;have e:c=10:=by simpa using e
  exact tT h (by rw[e];decide)
 rename_i n1;rw[aD n1]at h0;split
 ·exact run _ λc=>Ig
 rename_i n2;rw[aD n2]at h0;split
 ·exact run _ λc=>Nx
 rename_i n3;rw[aD n3]at h0;split
 ·rename_i e;rw[aH e]at h0;split
  ·rename_i h1;rw[sR (by simp only[aA];omega)]at h1⊢;have hf:=CJ h1;have he:=wA _ r 0 _ (aU _) (eZ rfl h1:fP r 0=((fP r 0).1,0));refine zM (c:=34) h ?_ (by decide);rw[show(fP r 0).1=(fP r 0).1-1+1 by omega,List.getElem?_cons_succ];exact he
  ·rename_i h1;rw[aD h1]at h0;exact absurd h0 h1
 rename_i n4;rw[aD n4]at h0;split
 ·rename_i h1;rw[aH h1]at h0;exact NN h λx hx=>by rw[GO h0 hx];decide
 rename_i n5;rw[aD n5]at h0;show Utf ((c::r).drop (uB (c::r)).length);unfold uB;split
 ·rename_i h1;obtain⟨e1,x,e2,e3⟩:=Mz h1;rw[e1];refine zM (k:=1) (c:=x) h ?_ e3;rw[<-e2,List.getElem?_take_of_lt (by omega)]
 split
 ·rename_i h1;exact tT h (On h1)
 ·exact h
theorem Ji{s:Str}:∀(n i:Nat),s.length<n+i->Ek n s i=none->Utf (s.drop i)
 |0,i,hl,_=>by rw[eO (by omega)];exact .nil
 |n+1,i,hl,h=>by
  rw[Ek]at h
  split at h
  ·rename_i hi;rw[eO hi];exact .nil
  split at h
  ·cases h
  ·rename_i hi h0
   have hs:kC s i=gQ s i:=by unfold kC;omega
   rw[hs]at h
   have:=Utf.cons (Rn.of h0) (Ji n (i+gQ s i) (by omega) h)
   rwa[<-gV,qL]at this
theorem Qs{s:Str}(h:gQ s i=0):Lib.hasPrefix (s.drop i) [239,191,189]=false:=by
 rw[Bool.eq_false_iff];intro hp;obtain⟨r,hr⟩:=Er.1 hp;have hn:Rn [239,191,189]:=⟨by decide,by decide⟩;have:=hn.at hr.symm;rw[h]at this;cases this
theorem Nm{s:Str}(h:Qy s i n 65533):Lib.hasPrefix (s.drop i) [239,191,189]=true:=by
 have hb:=h.bytes;refine Er.2 ?_;have e:Lib.encodeRune ((65533:Nat):Int)=[239,191,189]:=by decide
 rw[e]at hb;rw[hb];exact List.take_prefix _ _
def MB(acc:List Tok):RS->RS
 |.ok l=>.ok (acc++l)
 |.bad c a=>.bad c a
theorem MA(acc:List Tok)(t:Tok)(x:RS):MB acc (match x with|.ok l=>.ok (t::l)|x=>x)=MB (acc++[t]) x:=by
 cases x<;>simp[MB]
theorem Hk(a:List Tok)(t:Tok):toks (a++[t])=toks a++eS t:=by simp[toks,eS]
section
variable [HX]
theorem Xx:Xe:=by
 intro w K s hT hl hok hbad;refine aAr ?_;unfold W26;rw[fH,kS,aM];unfold pK at hok hbad;have bad:∀{w1:World} (c:Int) (i:Nat) {K':Q0},(∀d w',Ext w w'->w.heap.size<=d->w'.heap[d]?=some (.cells [i64 c,str [],i64 (i:Nat)].toArray 53 (0,0))->K (.tuple #[.slice none 0 0,.pointer (some ⟨d,0,none⟩)]) w')->Ext w w1->
   eL 53 (.agg [i64 c,str [],i64 (i:Nat)].toArray) w1 λt16 w2=>K (.tuple #[.slice none 0 0,t16]) w2:=by
  intro w1 c i _ h hx;refine fS (z:=[i64 c,str [],i64 (i:Nat)]) λd w2 hd hz hdb hx2=>?_;have:=hx.size;exact h d w2 (hx.trans hx2) (by omega) hdb
 refine⟨λh=>?_,λh=>?_⟩
 ·rw[aH (by omega)]at hbad;simp only[dA,dZ,aA,aL,aW,aZ,Nat.reduceAdd,Nat.reduceLT,dH,aB];exact bad (K':=K) 3 0 (λd w'=>hbad 3 0 rfl d w') (Chg.refl _ _)
 have hls:s.length<=16384:=by omega
 rw[aD (by omega)]at hok hbad;generalize hB:Ek (s.length+1) s 0=Bd at hok hbad;refine Dh ?_;refine cZ.go (λst w5=>∃p m,p<=s.length/\st=[]/\w5.heap[w.heap.size]?=some (.stringIter (ofL s) p)/\Ext w w5/\Ek m s p=Bd/\s.length<m+p)
  (λ_ w5=>match w5.heap[w.heap.size]? with|some (.stringIter _ p)=>s.length-p|_=>0)
  ⟨0,s.length+1,fW _,rfl,gD _ _ _ rfl,Chg.alloc (Chg.refl _ _) _,hB,by omega⟩ ?_
 rintro st g w5 ⟨p,m,hp,rfl,hit,hx5,hbf,hm⟩;obtain⟨m,rfl⟩:∃k,m=k+1:=⟨m-1,by omega⟩;rw[Ek]at hbf;have hz5:=hx5.size;refine Fq hit (λhpe=>?_) (λhpl w6 hit6 hc6 hz6=>?_)
 ·
  rw[bJ];refine⟨.bool false,rfl,?_⟩;rw[cX];rw[aH hpe]at hbf;subst hbf;simp only at hok hbad;have hU:Utf s:=by
   have:=Ji (s:=s) (s.length+1) 0 (by omega) hB;rwa[cV]at this
  generalize hR:mI (s.length+1) s 0 0=R0 at hok hbad;refine cZ.go (λst w7=>∃(i m:Nat) (acc:List Tok) (v:Value),st=[v,i64 (i:Nat)]/\i<=s.length/\Utf (s.drop i)/\Ext w w7/\Own w7 w.heap.size TkT 3 v acc.length (toks acc)/\MB acc (mI m (s.drop i) i acc.length)=R0/\s.length<m+i/\acc.length<=4096)
   (λst _=>match st with|[_,.int _ i]=>s.length-i.toNat|_=>0)
   ⟨0,s.length+1,[],_,rfl,fW _,by rw[cV];exact hU,hx5,⟨by simp[toks],.inl ⟨rfl,rfl⟩⟩,by rw[cV,aL,hR];cases R0<;>rfl,by omega,by simp⟩ ?_
  rintro st g2 w7 ⟨i,m2,acc,v,rfl,hi,hu,hx7,hO,hr,hm2,hcnt⟩;obtain⟨m2,rfl⟩:∃k,m2=k+1:=⟨m2-1,by omega⟩;simp only[mI]at hr;simp only[aF,cW];have hz7:=hx7.size;have hsl:(s.drop i).length=s.length-i:=aP;rw[fG,fT,eM];refine⟨by omega,by omega,?_⟩;rw[bM,aV];refine Xu (hT.ext hx7) (by omega) ?_;have hku:=zU ((s.drop i).length+1) _ hu;have hkl:=uR ((s.drop i).length+1) (s.drop i);rw[fF]at hku hr;generalize eX ((s.drop i).length+1) (s.drop i)=k at*
  obtain⟨k,kc⟩:=k;simp only at hku hkl hr⊢;rw[bJ];refine⟨_,rfl,?_⟩;rw[bJ];refine⟨_,rfl,?_⟩;rw[cA,cK (by omega) (by omega),show(i:Int)+(k:Nat)=((i+k:Nat):Int)by omega,bL];simp only[gX];refine GdW.look (decide (i+k=s.length)) (λ_ J hJ=>?_) λg3=>?_
  ·rw[fH,bL,show decide (((i+k:Nat):Int)=((s.length:Nat):Int))=decide (i+k=s.length)by rw[decide_eq_decide];omega];exact hJ
  simp only[aF];rw[eU,bS];refine⟨λhend=>?_,λhgo=>?_⟩
  ·simp only[aJ,decide_eq_true_iff]at hend;rw[aD (by rw[hend.1];simp),aH (List.drop_eq_nil_of_le (by omega))]at hr;simp only[dA,dZ,aA,aL,aW,aZ,Nat.reduceAdd,Nat.reduceLT,dH,aB];rw[cU];refine Av (d:=eS ⟨0,[],((i+k:Nat):Int)⟩) rfl rfl λb w8 hb hz8 hbb hx8=>?_;refine jG WV (hO.ext hx8) (qR (n:=1) hbb) rfl (λu hu=>by simp only[eS,bW,eY,sH]at hu;rcases hu with rfl|rfl|rfl<;>rfl) (by omega) (by omega) (by have:=hx8.size;omega) λv' w9 hO9 hc9 hv9=>?_;have e:toks acc++eS ⟨0,[],((i+k:Nat):Int)⟩=toks (acc++[⟨0,[],((i+k:Nat):Int)⟩]):=(Hk _ _).symm;rw[e]at hO9;have hx9:Ext w w9:=(hx7.trans hx8).then hc9 λq hq e=>by have:=(pU hO e).2;omega
   refine hok (acc++[⟨0,[],((i+k:Nat):Int)⟩]) (by rw[<-hr];rfl) v' w9 hx9 (by rw[bE];exact hO9.sl) λq hq=>⟨(pU hO9 hq).2,(pU hO9 hq).1⟩
  ·have hgo:¬(kc=0/\i+k=s.length):=by
    rintro⟨h1,h2⟩;rw[h1,h2]at hgo;simp at hgo
   refine bG λa w8 ha hz8 hab8 hx8=>?_;have hx78:=hx7.trans hx8;refine bU.cut (λst w9=>Ext w w9/\Own w9 w.heap.size TkT 3 v acc.length (toks acc)/\w8.heap.size<=w9.heap.size/\v.ownBlock≠some a/\∃(t:Tok) (n:Nat) (e:Int),st=[i64 e,i64 (n:Nat)]/\w9.heap[a]?=some (.cells (eS t).toArray TkT (0,0))/\
    ((e≠0/\R0=.bad e ((i+k:Nat):Int))\/(e=0/\1<=n/\i+k+n<=s.length/\Utf (s.drop (i+k+n))/\MB acc (if acc.length=4096 then .bad 3 ((i+k:Nat):Int)else match mI m2 (s.drop (i+k+n)) (i+k+n) (acc.length+1)with|.ok l=>.ok (⟨t.k,t.t,((i+k:Nat):Int)⟩::l)|x=>x)=R0))) ?_ ?_
   ·have hva:v.ownBlock≠some a:=λe=>by have:=(pU hO e).1;omega
    rw[bL,aM];refine⟨λh0=>?_,λh0=>?_⟩
    ·rw[aD (by rw[h0];simp)]at hr;have hlt:i+k<s.length:=by
      rcases dK (i+k) s.length with h|h
      ·exact h
      ·exact absurd ⟨h0,by omega⟩ hgo
     have hd:=iC hlt;rw[aD (λe=>by rw[hd]at e;cases e)]at hr;rw[fG,fT,eM];refine⟨by omega,by omega,?_⟩;rw[bM,aV];have hrl:(s.drop (i+k+1)).length=s.length-(i+k+1):=aP;rw[hd]at hr hku⊢;generalize s[i+k]=c at*
     generalize hrr:s.drop (i+k+1)=r at*
     refine aA9 (hT.ext hx78) hku (by omega) λw9 hx9=>?_;rw[bJ];refine⟨_,rfl,?_⟩;rw[bJ];refine⟨_,rfl,?_⟩;rw[bJ];refine⟨_,rfl,?_⟩;have hou:=Tu hku;have hok1:=@GC (c::r);generalize oH (c::r)=o at*
     obtain⟨t,n,e⟩:=o;simp only at hou hr⊢;refine cG (l:=eS t) (hx9.at hab8 id) rfl rfl rfl λw10 hz10 ha10 hc10=>?_;have hO9:=(hO.ext hx8).ext hx9;refine⟨(hx78.trans hx9).new hc10 (by omega),iO hO9 hc10 λq hq e=>hva (e▸hq),by have:=hx9.size;omega,hva,?_⟩;by_cases he:e=0
     ·subst he;rw[aD (by simp)]at hr;obtain⟨n1,n2,_⟩:=hok1 (t:=t) (k:=n) (by simp) rfl;simp only[aA]at n2;refine⟨t,n,0,rfl,ha10,.inr ⟨rfl,n1,by omega,?_,?_⟩⟩
      ·rw[<-fF,hd];exact hou rfl
      ·rw[<-fF,hd];exact hr
     ·rw[aH he]at hr;exact⟨t,n,e,rfl,ha10,.inl ⟨he,hr.symm⟩⟩
    ·rw[aH h0]at hr;exact⟨hx78,hO.ext hx8,aU _,hva,⟨0,[],0⟩,0,kc,rfl,hab8,.inl ⟨h0,hr.symm⟩⟩
   rintro st g4 w9 ⟨hx9,hO9,hz9,hva,t,n,e,rfl,ha9,hcase⟩;simp only[aF,cW];refine bU.cut (λst w'=>w'=w9/\∃e':Int,st=[i64 e']/\((e'≠0/\R0=.bad e' ((i+k:Nat):Int))\/(e'=0/\1<=n/\i+k+n<=s.length/\Utf (s.drop (i+k+n))/\acc.length<4096/\MB acc (match mI m2 (s.drop (i+k+n)) (i+k+n) (acc.length+1)with|.ok l=>.ok (⟨t.k,t.t,((i+k:Nat):Int)⟩::l)|x=>x)=R0))) ?_ ?_
   ·rw[bL];simp only[gX];refine GdW.look (decide (acc.length=4096)) (λ_ J hJ=>?_) λg5=>?_
    ·obtain⟨q,cap,ev,_⟩:=hO9.sl.shape;rw[ev,Cr,bL,show decide (((acc.length:Nat):Int)=4096)=decide (acc.length=4096)by rw[decide_eq_decide];omega];exact hJ
    simp only[aF];rw[eU,bS];refine⟨λhb=>?_,λhb=>?_⟩
    ·simp only[aJ,decide_eq_true_iff]at hb;refine⟨trivial,3,rfl,.inl ⟨by decide,?_⟩⟩;rcases hcase with⟨h1,h2⟩|⟨h1,h2,h3,h4,h5⟩
     ·exact absurd hb.1 h1
     ·rw[aH hb.2]at h5;exact h5.symm
    ·refine⟨trivial,e,rfl,?_⟩;rcases hcase with h|⟨h1,h2,h3,h4,h5⟩
     ·exact .inl h
     ·have:acc.length≠4096:=λh=>by rw[h1,h]at hb;simp at hb
      rw[aD this]at h5;exact .inr ⟨h1,h2,h3,h4,by omega,h5⟩
   rintro st g5 w10 ⟨rfl,e',rfl,hcase⟩;simp only[aF];rw[fL,aM];refine⟨λhne=>?_,λheq=>?_⟩
   ·rcases hcase with⟨h1,h2⟩|⟨h1,_⟩
    ·simp only[dA,dZ,aA,aL,aW,aZ,Nat.reduceAdd,Nat.reduceLT,dH,aB];exact bad (K':=K) e' (i+k) (λd w'=>hbad e' _ h2 d w') hx9
    ·exact absurd h1 hne
   ·rcases hcase with⟨h1,_⟩|⟨h1,n1,n2,hu2,hc4,hr⟩
    ·exact absurd (by simpa using heq) h1
    rw[bP,bY,aX];refine iT ha9 rfl (by simp[eS]) λw11 hz11 ha11 hc11=>?_;have ha11:w11.heap[a]?=some (.cells (eS ⟨t.k,t.t,((i+k:Nat):Int)⟩).toArray TkT (0,0)):=by rw[ha11];simp[eS]
    have hO11:=iO hO9 hc11 λq hq e=>hva (e▸hq);have hx11:=hx9.new hc11 (by omega);refine bX ha11 rfl ?_;refine Av (d:=eS ⟨t.k,t.t,((i+k:Nat):Int)⟩) rfl rfl λb w12 hb hz12 hbb hx12=>?_;refine jG WV (hO11.ext hx12) (qR (n:=1) hbb) rfl (λu hu=>by simp only[eS,bW,eY,sH]at hu;rcases hu with rfl|rfl|rfl<;>rfl) (by omega) (by omega) (by have:=hx11.size;have:=hx12.size;omega) λv' w13 hO13 hc13 hv13=>?_;rw[<-Hk]at hO13;rw[cA,cK (by omega) (by omega)];refine⟨⟨i+k+n,m2,acc++[⟨t.k,t.t,((i+k:Nat):Int)⟩],v',by simp only[eJ,Value.int.injEq,dH,lI];omega,by omega,hu2,(hx11.trans hx12).then hc13 λq hq e=>?_,by rw[bE];exact hO13,?_,by omega,by rw[bE,aA,aL];omega⟩,?_⟩
    ·have:=(pU hO11 e).2;omega
    ·rw[bE,<-MA];exact hr
    ·simp only[aV];omega
 ·
  have hge:¬s.length<=p:=by omega
  rw[aD hge]at hbf;have hx6:Ext w w6:=hx5.then hc6 λq hq e=>by have e:q=w.heap.size:=e;omega
  rw[bJ];refine⟨.bool true,rfl,?_⟩;rw[dR,bJ];refine⟨i64 (p:Nat),rfl,?_⟩;rw[bJ];refine⟨_,rfl,?_⟩;have hdc:(Utf8.decode (ofL s) p).1=65533/\Lib.hasPrefix (s.drop p) [239,191,189]=false↔gQ s p=0:=by
   constructor
   ·rintro⟨h1,h2⟩;by_cases h0:gQ s p=0
    ·exact h0
    ·obtain⟨c,hc⟩:=uD hpl h0;have hd:=hc.dec;rw[hd]at h1;have h1:c=65533:=h1;subst h1;rw[Nm hc]at h2;cases h2
   ·intro h0;rw[Hy hpl h0];exact⟨rfl,Qs h0⟩
  rw[IQ hpl]at hit6;generalize (Utf8.decode (ofL s) p).1=c at*
  rw[bL,show decide (((c:Nat):Int)=65533)=decide (c=65533)by rw[decide_eq_decide];omega];simp only[gX];refine GdW.look (!Lib.hasPrefix (s.drop p) [239,191,189]) (λ_ J hJ=>?_) λg3=>?_
  ·rw[fG,fT,eM];refine⟨by omega,by omega,?_⟩;rw[bM,aV];refine zC ?_;rw[eD];exact hJ
  simp only[aF];rw[eU,bS];refine⟨λhb=>?_,λhb=>?_⟩
  ·have h0:gQ s p=0:=hdc.1 (by simpa using hb);rw[aH h0]at hbf;subst hbf;simp only[dA,dZ,aA,aL,aW,aZ,Nat.reduceAdd,Nat.reduceLT,dH,aB];exact bad (K':=K) 31 p (λd w'=>hbad 31 _ rfl d w') hx6
  ·have h0:gQ s p≠0:=λh=>by
    have:=hdc.2 h;rw[bF this.1,this.2]at hb;cases hb
   rw[aD h0]at hbf;have hfit:=AG hpl;have hpos:=zS s p;refine⟨⟨p+kC s p,m,hfit,trivial,hit6,hx6,hbf,by omega⟩,?_⟩;rw[hit6,hit];show s.length-(p+kC s p)<s.length-p;omega
end
abbrev DgT:TypeId:=53
def No:Syn.PR->Fl
 |.ok f=>f
 |.bad _ _=>⟨[],[],[]⟩
def okP:Syn.PR->Bool
 |.ok _=>true
 |.bad _ _=>false
def Wy(w:World)(d:Value):Syn.PR->Prop
 |.ok _=>d=.pointer none
 |.bad c a=>∃b,d=.pointer (some ⟨b,0,none⟩)/\w.heap[b]?=some (.cells [i64 c,str [],i64 a].toArray DgT (0,0))
theorem Wy.eq{d:Value}{r:Syn.PR}(h:Wy w d r)(n:Bool)(K:Value->Prop):eqW .ptr n d (.pointer none) K↔K (.bool (n^^okP r)):=by
 cases r with
 |ok f=>have h:d=.pointer none:=h;rw[h];cases n<;>exact iD
 |bad c a=>obtain⟨b,rfl,_⟩:=h;cases n<;>exact iD
theorem Za(w:World)(B:Nat):FO w B ⟨.slice none 0 0,.slice none 0 0,.slice none 0 0,[],[]⟩ ⟨[],[],[]⟩:=
 ⟨⟨by simp,.inl ⟨rfl,rfl⟩⟩,⟨by simp,.inl ⟨rfl,rfl⟩⟩,⟨by simp[ints],.inl ⟨rfl,rfl⟩⟩,nX.nil _ _,nX.nil _ _,List.nodup_nil,λk hk=>by simp[ub,Value.ownBlock]at hk,λk hk=>by simp[ub,Value.ownBlock]at hk⟩
def isP(r:Syn.PR)(code a:Int):Bool:=match r with
 |.ok _=>decide (code=0)
 |.bad c i=>decide (code≠0)&&decide (c=code)&&decide (i=a)
section
variable [HX]
theorem Tr{t:Str}{K:Q0}(hT:wZ w)(hl:t.length<=1000000)
  (hK:∀M d w',Ext w w'->FO w' w.heap.size M (No (parseM t))->Wy w' d (parseM t)->((No (parseM t)).ex.length<=100000/\(No (parseM t)).bl.length<=100000/\(No (parseM t)).top.length<=100000)->K (.tuple #[.agg [M.vE,M.vB,M.vT].toArray,d]) w'):aC P0 10 [str t] w K:=by
 refine Ts (λ{_}=>Xx) hT hl (λfl h M w' hx hF hfew=>?_) (λc a h d w' hx hd hdb=>?_)
 ·rw[h]at hK;exact hK M _ w' hx hF rfl hfew
 ·rw[h]at hK;exact hK ⟨.slice none 0 0,.slice none 0 0,.slice none 0 0,[],[]⟩ _ w' hx (Za _ _) ⟨d,rfl,hdb⟩ (by simp[No])
theorem aBe{d:Value}{r:Syn.PR}{code a:Int}{K:Q0}(h:Wy w d r)(hK:K (.bool (isP r code a)) w):aC P0 25 [d,i64 code,i64 a] w K:=by
 refine aAs ?_;unfold W25;rw[bL,aM];refine⟨λe=>?_,λe=>?_⟩
 ·rw[h.eq];cases r with
  |ok f=>simp only[isP,e,aK,okP]at hK⊢;exact hK
  |bad e1 i=>simp only[isP,e,bT,not_true,aI,Bool.false_and,okP]at hK⊢;exact hK
 ·rw[h.eq];cases r with
  |ok f=>
   simp only[isP,bZ e,okP,Bool.xor_self]at hK⊢;simp only[gX,kL,yQ,aF,rH];intros;exact hK
  |bad e1 i=>
   obtain⟨b,rfl,hb⟩:=h;simp only[isP,bF e,okP,Bool.xor_false,iA,bT]at hK⊢;have ld:∀{off:Nat} {v:Value} {K:Value->Prop},[i64 e1,str [],i64 i][off]?=some v->K v->dJ (.pointer (some ⟨b,0,none⟩)) λt=>aY off t λt=>ldW false 1 t w K:=λhv hk=>by
    rw[dI,bP,dM];refine⟨_,?_,hk⟩;rw[bY,cC,hb,cN,aX];simpa using hv
   refine GdW.act (decide (e1=code)) (λw'=>w'=w) (λe=>by cases e) ?_ ?_
   ·intro _ J hJ;refine ld rfl ?_;rw[bL];exact hJ _ rfl
   rintro g w2 rfl;simp only[aO,aF,lS,gX];refine GdW.act (decide (i=a)) (λw'=>w'=w2) (λ_=>rfl) ?_ ?_
   ·intro _ J hJ;refine ld rfl ?_;rw[bL];exact hJ _ rfl
   rintro g2 w3 rfl;simp only[aF];rw[eU];simp only[gX];refine GdW.act true (λw'=>w'=w3) (λ_=>rfl) ?_ ?_
   ·intro _ J hJ;refine ld rfl ?_;rw[qJ];exact hJ _ rfl
   rintro g3 w4 rfl;simp only[aF];rw[eU,kI];simpa using hK
end
def ex1:Str:=[114,32,34,116,34,32,34,110,34,32,123,32,120,32,61,32,49,32,43,32,121,46,122,32,125]
section
variable [HX]
end
end
section
open Go Go.Eng Go.RowKit Go.Syn Go.Lex
def cnt(n:Nat)(l:List Nat):List Nat:=(List.range n).map λj=>l.count j
section
variable [HX]
end
variable{w0 w w':World}{B a ea eb:Nat}{M:Lay}{fl:Fl}{lE lB:List Nat}
end
section
open Go Go.Eng Go.RowKit Go.Syn Go.Lex
variable{w:World}{K:Q0}{cs:List Value}{G:Nat->Prop}{T:TypeId}{i:Nat}{n:Nat}{v:Value}{w':World}{P:Program}{c:UInt8}{S:Nat->Prop}
theorem FN{w:World}{b o:Nat}{c:Array Value}{T:TypeId}{fr:Nat×Nat}{d:List Value}(hb:w.heap[b]?=some (.cells c T fr))(hd:∀j,j<d.length->c[o+j]?=d[j]?):∀(n i:Nat),i+n=d.length->jN w ⟨b,o,none⟩ i n=some (d.drop i)
 |0,i,h=>by simp only[jN];rw[eO (by omega)]
 |n+1,i,h=>by
  have hi:i<d.length:=by omega
  simp only[jN,bY,cC,hb,cN,hd i hi,List.getElem?_eq_getElem hi]
  rw[FN hb hd n (i+1) (by omega)]
  simp
theorem TU{size:Nat}{d:List Value}{k:IntKind}{K:Value->Prop}(h:SlAt w T v n cs)(hl:cs.length=n*size)(hs:0<size)(hi:i<n)(hd:(cs.drop (i*size)).take size=d)(hK:K (.agg d.toArray)):
  dV none size v (.int k i) λt=>ldW true size t w K:=by
 have hlt:i*size+size<=n*size:=by rw[<-Nat.succ_mul];exact fX _ hi
 have hdl:d.length=size:=by rw[<-hd,cI,aP];omega
 refine tO h hl hs hi λb o c fr hb hc=>?_;rw[Do];refine⟨d,?_,hK⟩;have:=FN (d:=d) hb (λj hj=>by rw[hc j (by omega),<-hd,List.getElem?_take_of_lt (by omega),List.getElem?_drop]) size 0 (by omega);simpa using this
variable [HX]
end
section
open Go Go.Eng Go.RowKit Go.Syn Go.Lex
variable{w:World}{K:Q0}{cs:List Value}{G:Nat->Prop}{T:TypeId}{i:Nat}{n:Nat}{v:Value}{w':World}{P:Program}{c:UInt8}{S:Nat->Prop}
theorem aAP{a:Int}{m:Nat}(hm:0<m)(hm2:m<1000):∃n:Nat,n<m/\IntKind.i64.wrap ((IntKind.u64.wrap a).tmod (m:Nat))=(n:Int):=by
 obtain⟨u,hu⟩:∃u:Nat,IntKind.u64.wrap a=(u:Int):=⟨(IntKind.u64.wrap a).toNat,by rw[IntKind.wrap_u64];omega⟩;have hlt:=Nat.mod_lt u hm;refine⟨u%m,hlt,?_⟩;have e:((u:Nat):Int).tmod (m:Nat)=((u%m:Nat):Int):=by rw[sM (by omega)];omega
 rw[hu,e,cK (by omega) (by omega)]
section
variable [HX]
end
def ExV(w:World)(e:Ex)(c:List Value):Prop:=
 ∃va vk,c=[i64 e.k,str e.t,va,vk,i64 e.a]/\SlAt w iG va e.args.length (ints e.args)/\SlAt w StT vk e.keys.length (strs e.keys)
def BkV(w:World)(b:Blk)(c:List Value):Prop:=
 ∃vl va vb,c=[str b.typ,vl,va,vb,i64 b.a]/\SlAt w StT vl b.labels.length (strs b.labels)/\SlAt w AtT va b.attrs.length (NF b.attrs)/\SlAt w iG vb b.blocks.length (ints b.blocks)
structure FV(w:World)(M:Lay)(fl:Fl):Prop where
 oE:SlAt w ExT M.vE fl.ex.length M.cE
 oB:SlAt w BkT M.vB fl.bl.length M.cB
 oT:SlAt w iG M.vT fl.top.length (ints fl.top)
 ee:nX (ExV w) 5 fl.ex M.cE
 bb:nX (BkV w) 5 fl.bl M.cB
theorem FO.fv{B:Nat}{M:Lay}{fl:Fl}(h:FO w B M fl):FV w M fl:=
 ⟨h.oE.sl,h.oB.sl,h.oT.sl,h.ee.imp λ_ _ _ ⟨va,vk,e,h1,h2⟩=>⟨va,vk,e,h1.sl,h2.sl⟩,h.bb.imp λ_ _ _ ⟨vl,va,vb,e,h0,h1,h2⟩=>⟨vl,va,vb,e,h0.sl,h1.sl,h2.sl⟩⟩
theorem FV.ext{M:Lay}{fl:Fl}(h:FV w M fl)(hx:Ext w w'):FV w' M fl:=
 ⟨h.oE.ext hx,h.oB.ext hx,h.oT.ext hx,h.ee.imp λ_ _ _ ⟨va,vk,e,h1,h2⟩=>⟨va,vk,e,h1.ext hx,h2.ext hx⟩,h.bb.imp λ_ _ _ ⟨vl,va,vb,e,h0,h1,h2⟩=>⟨vl,va,vb,e,h0.ext hx,h1.ext hx,h2.ext hx⟩⟩
section
variable [HX]
end
theorem dX{b:Nat}{c:List Value}{off:Nat}{K:Value->Prop}(hw:w.heap[b]?=some (.cells c.toArray T (0,0)))(hv:c[off]?=some v)(hk:K v):aY off (.pointer (some ⟨b,0,none⟩)) λt=>ldW false 1 t w K:=by
 rw[bP,dM];refine⟨v,?_,hk⟩;rw[bY,cC,hw,cN,aX,List.getElem?_toArray];exact hv
section
variable [HX]
end
end
section
open Go Go.Eng Go.Num Go.RowKit Go.Syn
variable{w:World}{K:Q0}{cs:List Value}{G:Nat->Prop}{T:TypeId}{i:Nat}{n:Nat}{v:Value}{w':World}{P:Program}{c:UInt8}{S:Nat->Prop}
abbrev aBz:TypeId:=93
def AtC(t:Str)(a:Int)(cs:List Value):Prop:=∃k va vk,cs=[i64 k,str t,va,vk,i64 a]/\gH va=true/\gH vk=true
theorem KQ{t:Str}{a:Int}{K:Q0}(h:AtC t a cs)(hK:∀b w' k va vk,cs=[i64 k,str t,va,vk,i64 a]->b=w.heap.size->w'.heap.size=w.heap.size+1->w'.heap[b]?=some (.cells [i64 k,str t,va,vk,i64 a].toArray aBz (0,0))->Ext w w'->K (.pointer (some ⟨b,0,none⟩)) w'):eL aBz (.agg cs.toArray) w K:=by
 obtain⟨k,va,vk,rfl,h1,h2⟩:=h;exact fS λb w' hb hz hbb hx=>hK b w' k va vk rfl hb hz hbb hx
theorem Ax{v:JV}{w0:World}{K:Q0}(h:cO G w0 v cs)(hK:∀b w' sv kv,cs=[i64 v.k,.bool v.b,str v.t,sv,kv]->b=w.heap.size->w'.heap.size=w.heap.size+1->w'.heap[b]?=some (.cells [i64 v.k,.bool v.b,str v.t,sv,kv].toArray VT (0,0))->Ext w w'->K (.pointer (some ⟨b,0,none⟩)) w'):eL VT (.agg cs.toArray) w K:=by
 obtain⟨sv,kv,T1,T2,L,rfl,_⟩:=h.rep.out;exact fS λb w' hb hz hbb hx=>hK b w' sv kv rfl hb hz hbb hx
theorem cO.off{v:JV}{b:Nat}(h:cO G w v cs)(hb:w.heap.size<=b):cO (λq=>G q/\q≠b) w v cs:=h.mono λq hq hg=>⟨hg,by omega⟩
theorem yK{w0:World}{b:Nat}{ds:List Value}{v:JV}{K:Q0}(hb:w.heap[b]?=some (.cells ds.toArray VT (0,0)))(hd:ds.length=5)(hl:w0.heap.size<=b)(hx:Ext w0 w)(h:cO (λq=>G q/\q≠b) w v cs)
  (hK:∀w',Ext w0 w'->cO G w' v cs->K (.agg cs.toArray) w'):stW 5 (.pointer (some ⟨b,0,none⟩)) (.agg cs.toArray) w λw5=>ldW true 5 (.pointer (some ⟨b,0,none⟩)) w5 λr6=>K r6 w5:=
 jA hb h.rep.len hd h.rep.all_one λw' hc=>by
  refine hK w' (hx.new hc hl) ?_
  exact(cO.chg hc (λq hq _ e=>hq.2 e) h).mono λq _ hq=>hq.1
theorem Ew{v:JV}(h:cO G w v cs):∃sv kv T1 T2 L,cs=[i64 v.k,.bool v.b,str v.t,sv,kv]/\SlAt w T1 sv v.xs.length L/\dB G w v.xs L/\SlAt w T2 kv v.ks.length (v.ks.map str)/\Fits v.xs.length v.ks v.t/\(L≠[]->inG G sv)/\(v.ks.map str≠[]->inG G kv):=by
 cases v with
 |mk k b t xs ks=>simpa only[cO,JV.k,JV.b,JV.t,JV.xs,JV.ks]using h
structure jD(G:Nat->Prop)(w:World)(sv:Value)(xs:List JV):Prop where
 it:∃T L,SlAt w T sv xs.length L/\dB G w xs L/\(L≠[]->inG G sv)
 few:xs.length<=9223372036854775807
theorem jD.items{sv:Value}{xs:List JV}(h:jD G w sv xs):dU w sv xs:=⟨let⟨T,L,h1,h2,_⟩:=h.it;⟨T,L,h1,h2.rep⟩,h.few⟩
theorem jD.chg{sv:Value}{xs:List JV}(h:jD G w sv xs)(hc:Chg S w w')(hS:∀k,G k->k<w.heap.size->¬S k):jD G w' sv xs:=
 ⟨let⟨T,L,h1,h2,h3⟩:=h.it;⟨T,L,tZ h1 h3 hc hS,dB.chg hc hS h2,h3⟩,h.few⟩
theorem jD.ext{sv:Value}{xs:List JV}(h:jD G w sv xs)(hx:Ext w w'):jD G w' sv xs:=h.chg hx λ_ _ _ e=>e
theorem jD.get{sv:Value}{xs:List JV}{k:IntKind}{x:JV}{K:Value->Prop}(h:jD G w sv xs)(hi:xs[i]?=some x)(hK:∀cs,cO G w x cs->K (.agg cs.toArray)):dV none 5 sv (.int k i) λp=>ldW true 5 p w K:=by
 obtain⟨T,L,h1,h2,_⟩:=h.it;obtain⟨cs,hc,hg⟩:=h2.get5 hi;have hlen:=h2.rep.len;refine tO (size:=5) h1 hlen (by omega) (List.getElem?_eq_some_iff.1 hi).1 λb o c fr hb hcc=>?_;exact Af hb hc.rep.len (λj hj=>(hcc j hj).trans (hg j hj)) (hK cs hc)
theorem cO.its{v:JV}{a b c sv kv:Value}(h:cO G w v [a,b,c,sv,kv]):jD G w sv v.xs:=by
 cases v with
 |mk k b' t xs ks=>
  simp only[cO]at h;obtain⟨sv',kv',T1,T2,L,he,h1,h2,h3,h4,h5,h6⟩:=h;simp only[eJ,lI]at he;obtain⟨_,_,_,rfl,rfl⟩:=he;exact⟨⟨T1,L,h1,h2,h5⟩,h4.1⟩
section
variable [HX]
def KV(w0:World)(code at_:Int):Prop:=
 ∀(d:Nat) (w':World),Ext w0 w'->w0.heap.size<=d->w'.heap[d]?=some (.cells [i64 code,str [],i64 at_].toArray 53 (0,0))->HX.X [{v:=.iface DT (.pointer (some ⟨d,0,none⟩)),recovered:=false}] w'
theorem kQ{c a:Int}{w0:World}{K:Q0}(h:Ext w0 w)(ht:KV w0 c a):aC P0 57 [i64 c,i64 a] w K:=by
 refine ZZ ?_;unfold W57;simp only[dA,dZ,cU,aA,aL,aW,aZ];refine⟨by omega,by omega,?_⟩;refine fS (z:=[i64 c,str [],i64 a]) λd w' hd hz hb hx=>?_;exact ht d w' (h.trans hx) (by have:=h.size;omega) hb
def MdK(w0:World)(r:MdR JV)(G:Nat->Prop)(w:World)(K:Q0):Prop:=match r with
 |.ok v=>∀cs w',Ext w w'->cO G w' v cs->K (.agg cs.toArray) w'
 |.err c a=>KV w0 c a
theorem MdK.ok{w0:World}{r:MdR JV}{K:Q0}{v:JV}(h:MdK w0 r G w K)(hr:r=.ok v):∀cs w',Ext w w'->cO G w' v cs->K (.agg cs.toArray) w':=by subst hr;exact h
theorem MdK.err{w0:World}{r:MdR JV}{K:Q0}{c a:Int}(h:MdK w0 r G w K)(hr:r=.err c a):KV w0 c a:=by subst hr;exact h
theorem vN{v:JV}{K:Q0}(h:fV w v cs)(hK:∀w',Ext w w'->w'.heap.size=w.heap.size+1->K (.bool (decide (v.k=1))) w'):aC P0 84 [.agg cs.toArray] w K:=by
 obtain⟨sv,kv,T1,T2,L,rfl,_⟩:=h.out;refine ZF ?_;unfold W84;refine fS λb w' hb hz hbb hx=>?_;refine dX (off:=0) hbb rfl ?_;rw[bL];exact hK w' hx hz
theorem Uk{v:JV}{k:Int}{p:Nat}{K:Q0}(hp:w.heap[p]?=some (.cells [i64 k].toArray 22 (0,0)))(h:fV w v cs)(hK:∀w',Ext w w'->K (.bool (!fU k v)) w'):aC P0 156 [.agg cs.toArray,.pointer (some ⟨p,0,none⟩)] w K:=by
 have hr:=h;obtain⟨sv,kv,T1,T2,L,rfl,_⟩:=h.out;refine VF ?_;unfold aCj;refine fS λb w1 hb hz hbb hx=>?_;refine dX (off:=0) hbb rfl ?_;rw[dM];refine⟨i64 k,by rw[cC,hx.at hp id];rfl,?_⟩;rw[fL,gX];refine GdW.act (!decide (v.k=1)) (λw'=>Ext w1 w') (λ_=>Chg.refl _ _) ?_ ?_
 ·intro _ J hJ;refine bX hbb rfl ?_;refine vN (hr.ext hx) λw3 hx3 _=>?_;rw[eD];exact hJ w3 hx3
 ·intro g w4 hx4;rw[aF,eU];have e:(decide (v.k≠k)&&!decide (v.k=1))=!fU k v:=by
   unfold fU;by_cases h1:v.k=k<;>by_cases h2:v.k=1<;>simp[h1,h2]
  rw[e];exact hK w4 (hx.trans hx4)
theorem Kx{k:Int}{sv:Value}{xs:List JV}{K:Q0}(h:dU w sv xs)(hK:∀w',Ext w w'->K (.bool (xs.all (fU k))) w'):aC P0 122 [i64 k,sv] w K:=by
 refine Wc ?_;unfold aCD;have bx:eL 22 (i64 k) w (λt2 w1=>aC P0 124 [sv,(.func (.func 156) #[] #[t2])] w1 λt7 w2=>unW .not t7 λt8=>K t8 w2):=by
  refine rY rfl λp w1 hp hz hbp hx=>?_;refine zG (p:=λv=> !fU k v) (h.ext hx) ?_ λw2 hx2=>?_
  ·intro x hx' cs w3 K hx3 hr hK3;refine jI (caps:=[.pointer (some ⟨p,0,none⟩)]) ?_;exact Uk (hx3.at hbp id) hr hK3
  ·rw[eD];have e:(!(xs.any λv=> !fU k v))=xs.all (fU k):=by rw[<-List.not_all_eq_any_not];simp
   rw[e];exact hK w2 (hx.trans hx2)
 exact bx
end
structure pO(G:Nat->Prop)(w:World)(B:Nat)(sv:Value)(xs:List JV):Prop where
 it:∃L,Own w B VT 5 sv xs.length L/\dB (λq=>G q/\sv.ownBlock≠some q) w xs L
theorem pO.nil(G:Nat->Prop)(w:World)(B:Nat):pO G w B (.slice none 0 0) []:=⟨[],⟨rfl,.inl ⟨rfl,rfl⟩⟩,by simp[dB]⟩
theorem pO.chg{B:Nat}{sv:Value}{xs:List JV}(h:pO G w B sv xs)(hc:Chg S w w')(hS:∀k,G k->k<w.heap.size->¬S k)(hB:∀k,B<=k->k<w.heap.size->¬S k):pO G w' B sv xs:=by
 obtain⟨L,h1,h2⟩:=h.it;exact⟨L,Aa h1 hc λk hk=>hB k (tN h1 hk).1 (tN h1 hk).2.1,dB.chg hc (λk hk hlt=>hS k hk.1 hlt) h2⟩
theorem pO.ext{B:Nat}{sv:Value}{xs:List JV}(h:pO G w B sv xs)(hx:Ext w w'):pO G w' B sv xs:=h.chg hx (λ_ _ _ e=>e) λ_ _ _ e=>e
theorem pO.one{B:Nat}{sv:Value}{xs:List JV}(h:pO G w B sv xs):gH sv=true:=by obtain⟨L,h1,_⟩:=h.it;exact Lj h1
theorem pO.inb{B k:Nat}{sv:Value}{xs:List JV}(h:pO G w B sv xs)(hk:sv.ownBlock=some k):B<=k/\k<w.heap.size:=by obtain⟨L,h1,_⟩:=h.it;exact⟨(tN h1 hk).1,(tN h1 hk).2.1⟩
theorem pO.items{B:Nat}{sv:Value}{xs:List JV}(h:pO G w B sv xs)(hG:∀k,B<=k->G k)(hl:xs.length<=9223372036854775807):jD G w sv xs:=by
 obtain⟨L,h1,h2⟩:=h.it;exact⟨⟨VT,L,h1.sl,h2.mono λk _ hk=>hk.1,λ_ k hk=>hG k (tN h1 hk).1⟩,hl⟩
theorem pO.app{B:Nat}{sv t:Value}{xs:List JV}{x:JV}{K:Q0}(h:pO G w B sv xs)(ht:SlAt w T t 1 cs)(hx:cO (λq=>G q/\sv.ownBlock≠some q) w x cs)(hB:B<=w.heap.size)(hl:xs.length<=1000000)
  (hK:∀sv' w',pO G w' B sv' (xs++[x])->Chg (λk=>sv.ownBlock=some k) w w'->K sv' w'):dY P0 (Builtin.append_ #[23,23] 23 #[sv,t]) w K:=by
 obtain⟨L,h1,h2⟩:=h.it;refine jG KB h1 ht (m:=1) (by rw[hx.rep.len]) hx.rep.one (by omega) (by omega) hB λv' w' h' hc hb=>?_;refine hK v' w' ⟨L++cs,by simpa using h',?_⟩ hc;have h3:dB (λq=>(G q/\sv.ownBlock≠some q)/\q<w.heap.size) w (xs++[x]) (L++cs):=(h2.snoc hx).mono λk hlt hk=>⟨hk,hlt⟩;refine(dB.chg hc (λk hk _ e=>hk.1.2 e) h3).mono λk _ hk=>⟨hk.1.1,λe=>?_⟩;rcases hb k e with e|e
 ·exact hk.1.2 e
 ·have:=hk.2;omega
theorem jD.mono{G':Nat->Prop}{sv:Value}{xs:List JV}(hG:∀k,k<w.heap.size->G k->G' k)(h:jD G w sv xs):jD G' w sv xs:=
 ⟨let⟨T,L,h1,h2,h3⟩:=h.it;⟨T,L,h1,h2.mono hG,λhne k hk=>hG k (Gn h1 hne k hk) (h3 hne k hk)⟩,h.few⟩
theorem jD.list{sv:Value}{xs:List JV}(h:jD G w sv xs):cO G w (lV xs) [i64 5,.bool false,str [],sv,.slice none 0 0]:=
 let⟨_,_,h1,h2,h3⟩:=h.it
 cO.mk (v:=lV xs) h1 h2 (SlAt.nil w ST) ⟨h.few,by simp[lV,JV.ks],by simp[lV,JV.t],λs hs=>by simp[lV,JV.ks]at hs⟩ h3 λe=>absurd rfl e
theorem Up:∀(v:JV) {m:Nat},oL v m=true->oL v (m+1)=true:=by
 intro v;induction v using JV.ind' with
 |h v ih=>
  intro m h;cases m with
  |zero=>rw[rW]at h;cases h
  |succ m=>
   rw[kR,mD,bN]at h⊢;exactλx hx=>ih x hx (h x hx)
theorem Dz{v x:JV}(h:dL v=true)(hx:x∈v.xs):dL x=true:=by
 have hp:=((rQ h).item hx).plain;simp only[dL,aJ,bB]at h⊢;have hd:=h.1.2;have hs:=h.1.1;rw[show(24:Nat)=23+1 from rfl,kR,mD]at hd;rw[uA]at hs;exact⟨⟨(uS (m:=23) (by omega) v.xs 1 hd (by omega) hs).2 x hx,Up x (bN.1 hd x hx)⟩,hp⟩
theorem nH{K:Q0}(hl:cs.length=5)(h1:cs.all gH=true)(hK:∀b w',b=w.heap.size->w'.heap.size=w.heap.size+1->w'.heap[b]?=some (.cells cs.toArray VT (0,0))->Ext w w'->K (.pointer (some ⟨b,0,none⟩)) w'):
  bO VT zr5 w λt w1=>stW 5 t (.agg cs.toArray) w1 λw2=>K t w2:=by
 refine bG λb w1 hb hz hbb hx=>?_;refine cG hbb hl rfl h1 λw2 hz2 hb2 hc2=>?_;exact hK b w2 hb (by omega) hb2 (hx.new hc2 (by omega))
section
variable [HX]
theorem KR{t:Str}{a:Int}{v:JV}{ec:List Value}{w0:World}{K:Q0}(he:AtC t a ec)(h:cO G w v cs)(hg:dL v=true)(h0:Ext w0 w)(hG:∀q,w.heap.size<=q->G q)(hK:MdK w0 (sB t a v) G w K):
  aC P0 91 [.agg ec.toArray,.agg cs.toArray] w K:=by
 have hgv:=rQ hg;have hlens:=hgv.lens;refine Zz ?_;unfold W91;refine KQ he λb2 w1 k va vk hec hb2 hz1 hbb2 hx1=>?_;have h1:cO G w1 v cs:=h.ext' hx1;refine Ax h1 λb3 w2 sv kv hcs hb3 hz2 hbb3 hx2=>?_;subst hcs;refine bG λb4 w3 hb4 hz3 hbb4 hx3=>?_;have hx03:=hx1.trans (hx2.trans hx3);refine bX (hx3.at hbb3 id) rfl ?_;refine vN (h.ext' hx03).rep λw4 hx4 hz4=>?_;have hx34:=hx3.trans hx4;have hx04:=hx03.trans hx4;have hb34:=hx34.at hbb3 id;have hb24:=(hx2.trans hx34).at hbb2 id;have hb44:=hx4.at hbb4 id;rw[aM];refine⟨λk1=>?_,λk1=>?_⟩
 ·have hr:sB t a v=.ok v:=by unfold sB;rw[aH k1]
  refine bX hb34 rfl ?_;exact yK hb44 rfl (by omega) hx04 ((h.off (by omega)).ext' hx04) λw' hx' h'=>hK.ok hr _ w' hx' h'
 refine bU.cut (λst w'=>w'=w4/\v.k=6) ?_ ?_
 ·refine dX (off:=0) hb34 rfl ?_;rw[fL,aM];refine⟨λk6=>?_,λk6=>⟨rfl,by omega⟩⟩;have hr:sB t a v=.err 81 a:=by unfold sB;rw[aD k1,aH k6]
  refine dX (off:=4) hb24 rfl ?_;exact kQ (h0.trans hx04) (hK.err hr)
 rintro st g w9 ⟨rfl,k6⟩;refine bX hb34 rfl ?_;refine dX (off:=1) hb24 rfl ?_;refine aBf (h.ext' hx04).rep k6 (hlens.2.2.1 k6) hgv.few (BJ hlens.2.2.2.1) λcs1 w10 hx10 h10=>?_;simp only[bJ];refine⟨_,rfl,_,rfl,?_⟩;refine nH h10.rep.len h10.rep.all_one λb11 w12 hb11 hz11 hbb11 hx11=>?_;have hx12:=hx10.trans hx11;have hx012:=hx04.trans hx12;refine bU.cut (λst w'=>w'=w12/\∃x,Eg v t=some x) ?_ ?_
 ·rw[eD,bS];cases hgt:Eg v t with
  |some x=>exact⟨λe=>by simp at e,λ_=>⟨rfl,x,rfl⟩⟩
  |none=>
   refine⟨λ_=>?_,λe=>by simp at e⟩;have hr:sB t a v=.err 82 a:=by unfold sB;rw[aD k1,aD (λe=>e k6),hgt]
   refine dX (off:=4) (hx12.at hb24 id) rfl ?_;exact kQ (h0.trans hx012) (hK.err hr)
 rintro st g2 w15 ⟨rfl,x,hx⟩;have hr:sB t a v=.ok x:=by unfold sB;rw[aD k1,aD (λe=>e k6),hx]
 rw[hx]at h10;refine bX hbb11 h10.rep.len ?_;have s4:=hx04.size;have hlt:=eW hb44;refine yK (hx12.at hb44 id) rfl (by omega) hx012 ?_ λw' hx' h'=>hK.ok hr _ w' hx' h';exact(h10.ext' hx11).mono λq _ hq=>by have hq:w9.heap.size<=q:=hq;exact⟨hG q (by omega),by omega⟩
theorem Ra{t:Str}{a:Int}{v:JV}{ec:List Value}{w0:World}{K:Q0}(he:AtC t a ec)(h:cO G w v cs)(hg:dL v=true)(h0:Ext w0 w)(hG:∀q,w.heap.size<=q->G q)(hK:MdK w0 (tM t a v) G w K):
  aC P0 92 [.agg ec.toArray,.agg cs.toArray] w K:=by
 have hgv:=rQ hg;have hlens:=hgv.lens;refine Zy ?_;unfold W92;refine KQ he λb2 w1 k va vk hec hb2 hz1 hbb2 hx1=>?_;have he':AtC t a [i64 k,str t,va,vk,i64 a]:=hec▸he;refine Ax (h.ext' hx1) λb3 w2 sv kv hcs hb3 hz2 hbb3 hx2=>?_;subst hcs;refine bG λb4 w3 hb4 hz3 hbb4 hx3=>?_;have hx03:=hx1.trans (hx2.trans hx3);refine bX (hx3.at hbb3 id) rfl ?_;refine vN (h.ext' hx03).rep λw4 hx4 hz4=>?_;have hx34:=hx3.trans hx4;have hx04:=hx03.trans hx4;have hb34:=hx34.at hbb3 id;have hb24:=(hx2.trans hx34).at hbb2 id;have hb44:=hx4.at hbb4 id;rw[aM];refine⟨λk1=>?_,λk1=>?_⟩
 ·have hr:tM t a v=.ok v:=by unfold tM;rw[aH k1]
  refine bX hb34 rfl ?_;exact yK hb44 rfl (by omega) hx04 ((h.off (by omega)).ext' hx04) λw' hx' h'=>hK.ok hr _ w' hx' h'
 refine bU.cut (λst w'=>w'=w4/\v.k=5) ?_ ?_
 ·refine dX (off:=0) hb34 rfl ?_;rw[fL,aM];refine⟨λk6=>?_,λk6=>⟨rfl,by omega⟩⟩;have hr:tM t a v=.err 81 a:=by unfold tM;rw[aD k1,aH k6]
  refine dX (off:=4) hb24 rfl ?_;exact kQ (h0.trans hx04) (hK.err hr)
 rintro st g w9 ⟨rfl,k5⟩;have hr0:tM t a v=(tR t a v.xs).bind λxs=>.ok (lV xs):=by unfold tM;rw[aD k1,aD (λe=>e k5)]
 simp only[dA,cU,aA,aL,aW];refine⟨by omega,?_⟩;refine nH (cs:=[i64 5,.bool false,str [],.slice none 0 0,.slice none 0 0]) rfl rfl λb5 w12 hb5 hz12 hbb5 hx12=>?_;have hx012:=hx04.trans hx12;refine dX (off:=3) (hx12.at hb34 id) rfl ?_;have hI:jD (λq=>G q/\q<w.heap.size) w sv v.xs:=h.its.mono λq hlt hq=>⟨hq,hlt⟩;rw[(hI.items).len];have s04:=hx04.size;have s12:=hx12.size;have hl4:=eW hb44;have hl5:=eW hbb5;refine cZ.go (λst w'=>∃(i:Nat) (rv:Value) (rs:List JV),st=[i64 (i:Nat)]/\i<=v.xs.length/\rs.length=i/\Ext w w'/\w12.heap.size<=w'.heap.size/\w'.heap[b2]?=w12.heap[b2]?/\w'.heap[b4]?=w12.heap[b4]?/\w'.heap[b5]?=some (.cells [i64 5,.bool false,str [],rv,.slice none 0 0].toArray VT (0,0))/\
   pO (λq=>G q/\q≠b4/\q≠b5) w' (b5+1) rv rs/\tR t a v.xs=(tR t a (v.xs.drop i)).bind λys=>.ok (rs++ys))
  (λst _=>match st with|[.int _ i]=>v.xs.length-i.toNat|_=>0)
  ⟨0,.slice none 0 0,[],rfl,fW _,rfl,hx012,aU _,rfl,rfl,hbb5,pO.nil _ _ _,by rw[cV];cases tR t a v.xs<;>rfl⟩ ?_
 rintro st g2 w14 ⟨i,rv,rs,rfl,hi,hrl,hx14,s14,hq2,hq4,hq5,hR,hat⟩;simp only[aF];rw[dW,aM];have hb24':w14.heap[b2]?=some (.cells [i64 k,str t,va,vk,i64 a].toArray 93 (0,0)):=by rw[hq2];exact hx12.at hb24 id
 refine⟨λhlt=>?_,λhge=>?_⟩
 ·have hlt:i<v.xs.length:=by omega
  obtain⟨x,hxi⟩:∃x,v.xs[i]?=some x:=⟨_,List.getElem?_eq_getElem hlt⟩;have hgx:dL x=true:=Dz hg (bK hxi);have hdr:v.xs.drop i=x::v.xs.drop (i+1):=by rw[cD hlt];congr 1;exact(List.getElem?_eq_some_iff.1 hxi).2
  refine(hI.ext hx14).get hxi λds hds=>?_;refine nH hds.rep.len hds.rep.all_one λb7 w16 hb7 hz16 hbb7 hx16=>?_;have hxd:Ext w16 w16.drew:=Chg.drew (Chg.refl (λ_=>False) w16);have hx16d:=hx16.trans hxd;have hx016:=hx14.trans hx16d;refine dX (off:=3) (hx16d.at hq5 id) rfl ?_;refine bX (hx16d.at hb24' id) rfl ?_;refine bX (hxd.at hbb7 id) hds.rep.len ?_;have hR16:=hR.ext hx16d;have s16:w16.drew.heap.size=w14.heap.size+1:=by show w16.heap.size=_;omega
  have hds16:=hds.ext' hx16d;refine KR (G:=λq=>(G q/\q≠b4/\q≠b5)/\rv.ownBlock≠some q) (w0:=w0) he' (hds16.mono λq hlt hq=>?_) hgx (h0.trans hx016) (λq hq=>?_) ?_
  ·exact⟨⟨hq.1,by have:=hq.2;omega,by have:=hq.2;omega⟩,λe=>by have:=(hR.inb e).1;have:=hq.2;omega⟩
  ·exact⟨⟨hG q (by omega),by omega,by omega⟩,λe=>by have:=(hR.inb e).2;omega⟩
  cases ha:sB t a x with
  |err c p=>
   have hr:tM t a v=.err c p:=by
    rw[hr0,hat,hdr];simp only[tR,ha,MdR.bind]
   exact hK.err hr
  |ok y=>
   intro es w17 hx17 h17;have hx1417:=hx16d.trans hx17;have hq517:=hx1417.at hq5 id;refine⟨dX (off:=3) hq517 rfl rfl,?_⟩;refine EO h17.rep.len λt30 w18 ht30 hx18=>?_;have hq518:=hx18.at hq517 id;refine⟨dX (off:=3) hq518 rfl rfl,?_⟩;have hx1418:=hx1417.trans hx18;have s18:=hx1418.size;refine(hR.ext hx1418).app ht30 (h17.ext' hx18) (by omega) (by omega) λrv' w19 hR19 hc19=>?_;have hne:∀q,rv.ownBlock=some q->b5+1<=q/\q<w14.heap.size:=λq e=>hR.inb e;have s19:=hc19.size;rw[bP];refine iT (off:=3) (hc19.at hq518 λe=>by have:=(hne b5 e).1;omega) hR19.one (by simp) λw20 hz20 hb20 hc20=>?_;rw[cA,up1 (by omega)];refine⟨⟨i+1,rv',rs++[y],rfl,hlt,by simp[hrl],?_,by omega,?_,?_,?_,?_,?_⟩,by simp only[aV];omega⟩
   ·exact((hx14.trans hx1418).then hc19 λq hq e=>by have:=(hne q e).1;omega).new hc20 (show w.heap.size<=b5 by omega)
   ·rw[hc20.heap b2 (by omega) (λe=>by have e:b2=b5:=e;omega),hc19.heap b2 (by omega) (λe=>by have:=(hne b2 e).1;omega),hx1418.heap b2 (by omega) id,hq2]
   ·rw[hc20.heap b4 (by omega) (λe=>by have e:b4=b5:=e;omega),hc19.heap b4 (by omega) (λe=>by have:=(hne b4 e).1;omega),hx1418.heap b4 (by omega) id,hq4]
   ·rw[hb20];simp
   ·exact hR19.chg hc20 (λq hq _ e=>hq.2.2 e) λq hq _ e=>by have e:q=b5:=e;omega
   ·rw[hat,hdr];simp only[tR,ha,MdR.bind];cases tR t a (v.xs.drop (i+1))<;>simp
 ·obtain rfl:i=v.xs.length:=by omega
  have hr:tM t a v=.ok (lV rs):=by
   rw[hr0,hat,dQ];simp[tR,MdR.bind]
  refine bX hq5 rfl ?_;have hnew:∀q,b5+1<=q->G q/\q≠b4/\q≠b5:=λq hq=>⟨hG q (by omega),by omega,by omega⟩;have hRI:jD (λq=>G q/\q≠b4) w14 rv rs:=(hR.items hnew (by omega)).mono λq _ hq=>⟨hq.1,hq.2.1⟩;refine yK (v:=lV rs) (cs:=[i64 5,.bool false,str [],rv,.slice none 0 0]) (by rw[hq4];exact hx12.at hb44 id) rfl (by omega) hx14 hRI.list λw' hx' h'=>hK.ok hr _ w' hx' h'
end
section
variable [HX]
theorem oC{w0:World}{b:Nat}{ds:List Value}{k:Int}{s:Bool}{t:Str}{K:Q0}(hb:w.heap[b]?=some (.cells ds.toArray VT (0,0)))(hd:ds.length=5)(hl:w0.heap.size<=b)(hx:Ext w0 w)(ht:t.length<=9223372036854775807)
  (hK:∀w',Ext w0 w'->cO G w' (.mk k s t [] []) (flat k s t)->K (.agg (flat k s t).toArray) w'):stW 5 (.pointer (some ⟨b,0,none⟩)) (.agg (flat k s t).toArray) w λw5=>ldW true 5 (.pointer (some ⟨b,0,none⟩)) w5 λr6=>K r6 w5:=
 yK (G:=G) (v:=.mk k s t [] []) hb hd hl hx (iJ ht) hK
theorem Zk{k:Int}{t:Str}{a:Int}{x y:JV}{va vk:Value}{ds:List Value}{w0:World}{K:Q0}(o1:gH va=true)(o2:gH vk=true)(hx:cO G w x cs)(hy:cO G w y ds)(h0:Ext w0 w)(hK:MdK w0 (FQ (decide (k=27)) a x y) G w K):
  aC P0 99 [.agg [i64 k,str t,va,vk,i64 a].toArray,.agg cs.toArray,.agg ds.toArray] w K:=by
 refine Zr ?_;unfold W99;refine fS (z:=[i64 k,str t,va,vk,i64 a]) λb3 w1 hb3 hz1 hbb3 hx1=>?_;refine Ax (hx.ext' hx1) λb4 w2 sv kv hcs hb4 hz2 hbb4 hx2=>?_;subst hcs;refine Ax (hy.ext' (hx1.trans hx2)) λb5 w3 sv' kv' hds hb5 hz3 hbb5 hx3=>?_;subst hds;refine bG λb6 w4 hb6 hz4 hbb6 hx4=>?_;have hx04:=hx1.trans (hx2.trans (hx3.trans hx4));have hb34:=(hx2.trans (hx3.trans hx4)).at hbb3 id;have hb44:=(hx3.trans hx4).at hbb4 id;have hb54:=hx4.at hbb5 id;have hx':=hx.ext' hx04;have hy':=hy.ext' hx04;clear hx hy;refine bU.cut (λst w'=>Ext w4 w'/\fU 2 x=true/\fU 2 y=true) ?_ ?_
 ·refine bX hb44 rfl ?_;refine bX hb54 rfl ?_;refine GP hx'.rep hy'.rep λtt w6 hI6 hx6 _=>?_;refine Kx hI6 λw7 hx7=>?_;have e:[x,y].all (fU 2)=(fU 2 x&&fU 2 y):=by simp
  rw[e,eD,bS];refine⟨λh=>?_,λh=>?_⟩
  ·have hr:FQ (decide (k=27)) a x y=.err 81 a:=by unfold FQ;rw[aD (λe=>by rw[e]at h;cases h)]
   refine dX (off:=4) ((hx6.trans hx7).at hb34 id) rfl ?_;exact kQ (h0.trans (hx04.trans (hx6.trans hx7))) (hK.err hr)
  ·have h:(fU 2 x&&fU 2 y)=true:=by cases hq:(fU 2 x&&fU 2 y)<;>simp[hq]at h⊢
   rw[aJ]at h;exact⟨hx6.trans hx7,h.1,h.2⟩
 rintro st g w9 ⟨hx9,f1,f2⟩;have hm:FQ (decide (k=27)) a x y=if(x.k≠1/\x.b=decide (k=27))\/(y.k≠1/\y.b=decide (k=27))then .ok (bV (decide (k=27)))else if x.k=1\/y.k=1 then .ok uV else .ok (bV (!decide (k=27))):=by
  unfold FQ;rw[aH (by rw[f1,f2];rfl)]
 rw[hm]at hK;refine dX (off:=0) (hx9.at hb34 id) rfl ?_;rw[bL];generalize hor:decide (k=27)=or at*
 refine bX (hx9.at hb44 id) rfl ?_;refine bX (hx9.at hb54 id) rfl ?_;refine GP (hx'.ext' hx9).rep (hy'.ext' hx9).rep λtt w10 hI10 hx10 _=>?_;rw[hI10.len];have hx410:=hx9.trans hx10;have hx010:=hx04.trans hx410;refine cZ.go (λst w'=>∃i:Nat,st=[i64 (i:Nat)]/\i<=2/\Ext w10 w'/\∀j z,j<i->[x,y][j]?=some z->¬(z.k≠1/\z.b=or)) (λst _=>match st with|[.int _ i]=>2-i.toNat|_=>0) ⟨0,rfl,by omega,Chg.refl _ _,λj z hj=>by omega⟩ ?_;rintro st g2 w12 ⟨i,rfl,hi,hx12,hno⟩;simp only[aF];have hx412:=hx410.trans hx12;have hx012:=hx04.trans hx412;have hl6:=eW hbb6;have ends:∀{z:JV} {k':Int} {s:Bool} {w':World},z=.mk k' s [] [] []->Ext w12 w'->(if(x.k≠1/\x.b=or)\/(y.k≠1/\y.b=or)then MdR.ok (bV or)else if x.k=1\/y.k=1 then .ok uV else .ok (bV (!or)))=.ok z->
   stW 5 (.pointer (some ⟨b6,0,none⟩)) (.agg (flat k' s []).toArray) w' λw5=>ldW true 5 (.pointer (some ⟨b6,0,none⟩)) w5 λr6=>K r6 w5:=λ{z k' s w'} hz hxx hr=>by
  subst hz;have hx0':=hx012.trans hxx;refine oC (G:=G) ((hx412.trans hxx).at hbb6 id) rfl (by omega) hx0' (by simp) λw'' hx'' h''=>hK.ok hr _ w'' hx'' h''
 rw[show([x,y].length:Nat)=2 from rfl,dW,aM];refine⟨λhlt=>?_,λhge=>?_⟩
 ·have hlt:i<2:=by omega
  obtain⟨z,hz⟩:∃z,[x,y][i]?=some z:=⟨_,List.getElem?_eq_getElem hlt⟩;refine(hI10.ext hx12).at hz λes hes=>?_;refine nH hes.len hes.all_one λb9 w14 hb9 hz14 hbb9 hx14=>?_;obtain⟨sv9,kv9,_,_,_,rfl,_⟩:=hes.out;refine bX hbb9 rfl ?_;refine vN (hes.ext hx14) λw15 hx15 _=>?_;rw[eD];have hb915:=hx15.at hbb9 id;refine GdW.look (decide (z.b=or)) (λ_ J hJ=>?_) λg3=>?_
  ·refine dX (off:=1) hb915 rfl ?_;have:∀K:Value->Prop,K (.bool (decide (z.b=or)))->eqW .bool false (.bool z.b) (.bool or) K:=λK h=>by
    cases hb:z.b<;>cases or<;>simp[hb]at h⊢<;>exact h
   exact this _ hJ
  simp only[aF,gX];rw[eU,bS];refine⟨λhyes=>?_,λhn=>?_⟩
  ·simp only[aJ,dO,decide_eq_false_iff_not,bB]at hyes;refine oK λw18 hx18=>?_;refine ends (z:=bV or) rfl (hx14.trans (hx15.trans hx18)) ?_;rw[aH]
   match i,hlt,hz with
   |0,_,hz=>cases hz;exact .inl hyes
   |1,_,hz=>cases hz;exact .inr hyes
  ·rw[cA,up1 (by omega)];refine⟨⟨i+1,rfl,hlt,hx12.trans (hx14.trans hx15),λj u hj hu=>?_⟩,by simp only[aV];omega⟩;by_cases hji:j<i
   ·exact hno j u hji hu
   ·obtain rfl:j=i:=by omega
    rw[hz]at hu;cases hu;rintro⟨h1,h2⟩;simp[h1,h2]at hn
 ·obtain rfl:i=2:=by omega
  have n1:=hno 0 x (by omega) rfl;have n2:=hno 1 y (by omega) rfl;refine bX (hx412.at hb44 id) rfl ?_;refine vN (hx'.ext' hx412).rep λw21 hx21 _=>?_;have hx421:=hx412.trans hx21;simp only[kL];refine GdW.act (decide (y.k=1)) (λw'=>Ext w21 w') (λ_=>Chg.refl _ _) (λ_ J hJ=>?_) λg3 w24 hx24=>?_
  ·refine bX (hx421.at hb54 id) rfl ?_;exact vN (hy'.ext' hx421).rep λw23 hx23 _=>hJ w23 hx23
  simp only[aF];rw[eR,bS];refine⟨λhyes=>?_,λhn=>?_⟩
  ·simp only[cM,bB]at hyes;refine qN λw25 hx25=>?_;refine ends (z:=uV) rfl (hx21.trans (hx24.trans hx25)) ?_;rw[aD (λe=>e.elim n1 n2),aH hyes]
  ·simp only[jE,decide_eq_false_iff_not]at hn;rw[eD];refine oK λw25 hx25=>?_;refine ends (z:=bV (!or)) rfl (hx21.trans (hx24.trans hx25)) ?_;rw[aD (λe=>e.elim n1 n2),aD (λe=>e.elim hn.1 hn.2)]
end
end
end Go.Proofs.YtghhmpppnmoeoaaGreatDoor
namespace Go.Num
section
open Go Go.Eng
variable{w:World}{K:Q0}{cs:List Value}{G:Nat->Prop}{T:TypeId}{i:Nat}{n:Nat}{v:Value}{w':World}{P:Program}{c:UInt8}{S:Nat->Prop}
theorem Bj:∀(n u:Nat),u<n->(Lib.decDigits u).all isDig=true/\(Lib.decDigits u)≠[]/\((Lib.decDigits u).head?=some 48->u=0):=by
 intro n;induction n with
 |zero=>intro u h;omega
 |succ n ih=>
  intro u h;rw[Lib.decDigits];have hd:∀k,k<10->isDig (UInt8.ofNat (48+k))=true:=by
   intro k hk;have:∀k:Fin 10,isDig (UInt8.ofNat (48+k.val))=true:=by decide
   exact this ⟨k,hk⟩
  split
  ·rename_i h10;refine⟨by rw[fK,hd u h10];rfl,by simp,λe=>?_⟩;have:∀k:Fin 10,([UInt8.ofNat (48+k.val)].head?=some 48)->k.val=0:=by decide
   exact this ⟨u,h10⟩ e
  ·have hi:=ih (u/10) (by omega);refine⟨by rw[Cg,hi.1,fK,hd (u%10) (by omega)];rfl,by simp,λe=>?_⟩;have e:(Lib.decDigits (u/10)).head?=some 48:=by
    cases hq:Lib.decDigits (u/10)with
    |nil=>exact absurd hq hi.2.1
    |cons x y=>rw[hq]at e;simpa using e
   have:=hi.2.2 e;omega
theorem DR:∀(n u:Nat),u<n->dec (Lib.decDigits u)=u:=by
 intro n;induction n with
 |zero=>intro u h;omega
 |succ n ih=>
  intro u h;have hv:∀k,k<10->dval (UInt8.ofNat (48+k))=k:=λk hk=>by
   have:∀k:Fin 10,dval (UInt8.ofNat (48+k.val))=k.val:=by decide
   exact this ⟨k,hk⟩
  rw[Lib.decDigits];split
  ·rename_i h10;show 0*10+dval (UInt8.ofNat (48+u))=u;rw[hv u h10];omega
  ·rw[vJ,ih (u/10) (by omega)];simp only[zJ,dec,List.foldl_cons,List.foldl_nil,hv (u%10) (by omega)];omega
theorem zF:∀(k u:Nat),u<10^k->1<=k->(Lib.decDigits u).length<=k:=by
 intro k;induction k with
 |zero=>intro u _ h;omega
 |succ k ih=>
  intro u h _;rw[Lib.decDigits];split
  ·simp
  ·have:=ih (u/10) (by rw[nI]at h;omega) (by
    rcases mG k with rfl|h0
    ·simp at h;omega
    ·exact h0)
   rw[bE,zJ];omega
theorem aBn{s:Str}(h:s.all isDig=true)(h0:s.head?=some 48->s=[48])(hne:s≠[]):Lib.decDigits (dec s)=s:=by
 obtain⟨a1,a2,a3⟩:=Bj _ (dec s) (dP _);refine LU a1 h (λe=>?_) h0 a2 hne (DR _ _ (dP _));have:=a3 e;rw[this,Lib.decDigits,dif_pos (by omega)];rfl
theorem LV:Lib.decDigits 0=[48]:=by rw[Lib.decDigits,dif_pos (by omega)];rfl
theorem FK:∀n:Nat,dec (List.replicate n (48:UInt8))=0
 |0=>rfl
 |n+1=>by rw[Cz,dec_cons,FK n];simp[dval]
def JW(x:Nat):Str:=List.replicate (9-(Lib.decDigits x).length) 48++Lib.decDigits x
theorem AQ{x:Nat}(h:x<1000000000):(JW x).length=9/\dec (JW x)=x/\(JW x).all isDig=true:=by
 have hl:=zF 9 x h (by omega);obtain⟨a1,a2,a3⟩:=Bj _ x (dP _);unfold JW;refine⟨by rw[bE,List.length_replicate];omega,?_,?_⟩
 ·rw[vJ,FK,DR _ x (dP _)];omega
 ·rw[Cg,a1,kI,bN];intro c hc;obtain rfl:=List.eq_of_mem_replicate hc;decide
def kV:List Nat->Str
 |[]=>[]
 |x::r=>if r=[]then Lib.decDigits x else kV r++JW x
theorem EA(x:Nat):kV [x]=Lib.decDigits x:=by simp[kV]
theorem CL{x:Nat}{r:List Nat}(h:r≠[]):kV (x::r)=kV r++JW x:=by rw[kV,aD h]
theorem CK:∀{l:List Nat},Lim l->Top l->l≠[]->(kV l).all isDig=true/\dec (kV l)=val l/\kV l≠[]/\(kV l).head?≠some 48
 |[],_,_,h=>absurd rfl h
 |[x],hl,ht,_=>by
  have hx:x≠0:=by have:=ht (by simp);simpa using this
  obtain⟨a1,a2,a3⟩:=Bj _ x (dP _)
  rw[EA]
  exact⟨a1,by rw[DR _ x (dP _)];simp[val],a2,λe=>hx (a3 e)⟩
 |x::y::r,hl,ht,_=>by
  obtain⟨b1,b2,b3,b4⟩:=CK (l:=y::r) (λz hz=>hl z (aS _ hz)) (λh=>by have:=ht (by simp);simpa using this) (by simp)
  obtain⟨p1,p2,p3⟩:=AQ (hl x (by simp))
  rw[CL (by simp)]
  refine⟨by rw[Cg,b1,p3];rfl,?_,by simp[b3],?_⟩
  ·rw[vJ,p1,p2,b2]
   show _=x+1000000000*val (y::r)
   omega
  ·cases hq:kV (y::r)with
   |nil=>exact absurd hq b3
   |cons c d=>rw[hq]at b4;simpa using b4
theorem ED{l:List Nat}(h:Lim l)(ht:Top l)(hne:l≠[]):kV l=Lib.decDigits (val l):=by
 obtain⟨a,b,c,d⟩:=CK h ht hne;rw[<-b,aBn a (λe=>absurd e d) c]
theorem EB:∀(l:List Nat),Lim l->(kV l).length<=9*l.length
 |[],_=>by simp[kV]
 |x::r,hl=>by
  have hx:=hl x (by simp)
  unfold kV
  split
  ·have:=zF 9 x hx (by omega);simp only[aA];omega
  ·have:=EB r λz hz=>hl z (aS _ hz)
   have:=(AQ hx).1
   rw[bE,aA];omega
theorem ok_int{z:Big}(h:z.Ok):(z.l=[]/\z.int=0)\/(z.l≠[]/\z.int≠0/\val z.l≠0/\Lib.itoa z.int=(if z.below=true then [45]else [])++kV z.l):=by
 obtain⟨h1,h2,h3⟩:=h;by_cases he:z.l=[]
 ·exact .inl ⟨he,by unfold Big.int;rw[he];simp[val]⟩
 ·have hv:val z.l≠0:=λe=>he ((CG h2).1 e);refine .inr ⟨he,?_,hv,?_⟩
  ·unfold Big.int;split<;>omega
  ·rw[ED h1 h2 he];unfold Lib.itoa Big.int;cases z.below with
   |true=>simp only[gU];rw[aH (by omega)];simp
   |false=>simp only[iX,nG];rw[aD (by omega)];simp
theorem wS(n:Int):dig (Lib.itoa n)=Lib.decDigits n.natAbs:=by
 unfold Lib.itoa;split
 ·simp[dig]
 ·rename_i h;have e:n.toNat=n.natAbs:=by omega
  rw[e];obtain⟨a1,a2,a3⟩:=Bj _ n.natAbs (dP _);cases hq:Lib.decDigits n.natAbs with
  |nil=>exact absurd hq a2
  |cons c d=>
   have hc:c≠45:=by
    rintro rfl;rw[hq]at a1;simp[isDig]at a1
   simp[dig,hc]
theorem Ic(n:Int):neg (Lib.itoa n)=decide (n<0):=by
 unfold Lib.itoa;split
 ·rename_i h;simp[neg,h]
 ·rename_i h;obtain⟨a1,a2,a3⟩:=Bj _ n.toNat (dP _);cases hq:Lib.decDigits n.toNat with
  |nil=>exact absurd hq a2
  |cons c d=>
   have hc:c≠45:=by
    rintro rfl;rw[hq]at a1;simp[isDig]at a1
   simp[neg,hc,h]
theorem AS(n:Int):num (Lib.itoa n)=n:=by
 unfold num;rw[wS,Ic,DR _ _ (dP _)];by_cases h:n<0
 ·simp[h];omega
 ·simp[h];omega
theorem zD{n:Int}(h:n.natAbs<10^100):goodN (Lib.itoa n)=true:=by
 obtain⟨a1,a2,a3⟩:=Bj _ n.natAbs (dP _);have hl:=zF 100 n.natAbs h (by omega);have hp:=dF.2 a2;unfold goodN;rw[wS,a1,bF (by omega),bF hl];simp only[iA,kI,cM,dO,bB,beq_eq_false_iff_ne,bT];by_cases h0:(Lib.decDigits n.natAbs).head?=some 48
 ·right;have:=a3 h0;have hn:n=0:=by omega
  subst hn;unfold Lib.itoa;rw[aD (by omega)];exact LV
 ·exact .inl h0
theorem AT{a:Str}(h:goodN a=true):(num a).natAbs<10^100:=by
 obtain⟨g1,g2,g3,g4⟩:=iE h;have:=Bi g4;have:=jC (n:=10) (by omega) g2;unfold num;split<;>omega
theorem MZ{a:Str}(h:goodN a=true):Lib.itoa (num a)=a:=Lo (zD (AT h)) h (AS _)
theorem QL(n:Nat):val (List.replicate n 0)=0:=by
 induction n with
 |zero=>rfl
 |succ n ih=>rw[Cz,val,ih]
theorem KX:∀(l:List Nat) (i x:Nat),i<l.length->val (l.set i x)+l.getD i 0*1000000000^i=val l+x*1000000000^i
 |[],i,x,h=>by simp at h
 |a::l,0,x,_=>by simp[val];omega
 |a::l,i+1,x,h=>by
  have ih:=KX l i x (by simpa using h)
  simp only[aZ,val,cW,nI]
  have e1:l.getD i 0*(1000000000^i*1000000000)=1000000000*(l.getD i 0*1000000000^i):=by rw[<-Nat.mul_assoc,kG 1000000000]
  have e2:x*(1000000000^i*1000000000)=1000000000*(x*1000000000^i):=by rw[<-Nat.mul_assoc,kG 1000000000]
  rw[e1,e2]
  omega
theorem TP{l:List Nat}{x:Nat}(h:Lim l)(hx:x<1000000000):Lim (l.set i x):=λz hz=>by
 rcases List.mem_or_eq_of_mem_set hz with h1|rfl
 ·exact h z h1
 ·exact hx
theorem tJ{l:List Nat}(h:i<l.length):val (l.take (i+1))=val (l.take i)+l.getD i 0*1000000000^i:=by
 rw[List.take_succ,List.getElem?_eq_getElem h,Gl,cI,nC (by omega)];simp[val,List.getD_eq_getElem?_getD,List.getElem?_eq_getElem h,kG]
def ofInt(n:Int)(z:Big):Prop:=z.Ok/\z.int=n
theorem yY{x:Big}(h:Lim x.l):ofInt x.int x.trim:=⟨xE h,tU x⟩
theorem MO{x y:Big}{a b:Int}(hx:ofInt a x)(hy:ofInt b y):ofInt (a+b) (Ed x y):=by
 obtain⟨h1,h2⟩:=Ob hx.1 hy.1;exact⟨h2,by rw[h1,hx.2,hy.2]⟩
theorem JX{x:Big}{a:Int}(hx:ofInt a x):ofInt (-a) (zQ x):=by
 obtain⟨h1,h2⟩:=Mn hx.1;exact⟨h2,by rw[h1,hx.2]⟩
theorem pA{a:Str}(h:goodN a=true):ofInt (num a) (gR a):=by
 obtain⟨h1,h2⟩:=ES h;exact⟨h2,h1⟩
theorem Un{A q r y:Nat}(h:A=q*y+r)(hr:r<y):A/y=q/\A%y=r:=by
 have hy:0<y:=by omega
 refine⟨?_,?_⟩
 ·rw[h,kG,Nat.mul_add_div hy,Nat.div_eq_of_lt hr,fA]
 ·rw[h,kG,Nat.mul_add_mod,jX hr]
theorem xO{l:List Nat}(h:Lim l)(i:Nat):l.getD i 0<1000000000:=by
 rw[List.getD_eq_getElem?_getD];cases hq:l[i]? with
 |none=>simp
 |some z=>exact h z (bK hq)
structure KU(x y:List Nat)(i k:Nat)(out:List Nat)(carry:Nat):Prop where
 lim:Lim out
 len:out.length=x.length+y.length+1
 car:carry<1000000000
 eq:val out+carry*1000000000^(i+k)=val (x.take i)*val y+x.getD i 0*val (y.take k)*1000000000^i
def AE(x y out:List Nat)(i k carry:Nat):Nat:=carry+out.getD (i+k) 0+(if k<y.length then x.getD i 0*y.getD k 0 else 0)
section
variable{x y out:List Nat}{i k carry:Nat}
theorem Xm(h:KU x y i k out carry)(hi:i<x.length)(hx:Lim x)(hy:Lim y)(hk:k<y.length\/0<carry):i+k<out.length:=by
 rw[h.len];by_cases hm:k<y.length
 ·omega
 have hc:0<carry:=by omega
 have e:=h.eq;rw[fB (l:=y) (by omega)]at e;have e2:=tJ (l:=x) (i:=i) hi;have e3:val (x.take (i+1))*val y=val (x.take i)*val y+x.getD i 0*val y*1000000000^i:=by rw[e2,lP,Nat.mul_right_comm]
 have b1:val (x.take (i+1))<1000000000^(i+1):=by
  have:=Gj (l:=x.take (i+1)) (λz hz=>hx z (List.mem_of_mem_take hz));rwa[cI,nC (by omega)]at this
 have b2:=Gj hy;have b3:val (x.take (i+1))*val y<1000000000^(i+1+y.length):=by
  rw[Nat.pow_add];exact Eo (fX _ (Nat.le_of_lt b1)) (Nat.mul_lt_mul_of_pos_left b2 (Bt (by omega)))
 have b4:1000000000^(i+k)<=carry*1000000000^(i+k):=Nat.le_mul_of_pos_left _ hc;have b5:1000000000^(i+k)<1000000000^(i+1+y.length):=by omega
 have:=(Nat.pow_lt_pow_iff_right (by omega)).1 b5;omega
theorem NW(h:KU x y i k out carry)(hx:Lim x)(hy:Lim y):AE x y out i k carry<1000000000*1000000000:=by
 have h1:=h.car;have h2:=xO h.lim (i+k);have h3:x.getD i 0*y.getD k 0<=999999999*999999999:=yB (by have:=xO hx i;omega) (by have:=xO hy k;omega);unfold AE;split<;>omega
theorem NV(h:KU x y i k out carry)(hx:Lim x)(hy:Lim y)(hp:i+k<out.length):KU x y i (k+1) (out.set (i+k) (AE x y out i k carry%1000000000)) (AE x y out i k carry/1000000000):=by
 have hlt:=NW h hx hy;refine⟨TP h.lim (Nat.mod_lt _ (by omega)),by rw[List.length_set];exact h.len,Nat.div_lt_of_lt_mul hlt,?_⟩;have vs:=KX out (i+k) (AE x y out i k carry%1000000000) hp;have e:=h.eq;have dm:=Nat.div_add_mod (AE x y out i k carry) 1000000000;have t2:AE x y out i k carry*1000000000^(i+k)=carry*1000000000^(i+k)+out.getD (i+k) 0*1000000000^(i+k)+(if k<y.length then x.getD i 0*y.getD k 0 else 0)*1000000000^(i+k):=by
  unfold AE;rw[lP,lP]
 have t3:x.getD i 0*val (y.take (k+1))*1000000000^i=x.getD i 0*val (y.take k)*1000000000^i+(if k<y.length then x.getD i 0*y.getD k 0 else 0)*1000000000^(i+k):=by
  by_cases hk:k<y.length
  ·rw[aH hk,tJ hk,sL,lP,Nat.pow_add];congr 1
   ac_rfl
  ·rw[aD hk,fB (by omega),fB (by omega)];omega
 generalize AE x y out i k carry=c at*
 have t1:c/1000000000*1000000000^(i+(k+1))+c%1000000000*1000000000^(i+k)=c*1000000000^(i+k):=by
  have q:c*1000000000^(i+k)=(1000000000*(c/1000000000)+c%1000000000)*1000000000^(i+k):=by rw[dm]
  rw[q,lP,show i+(k+1)=i+k+1 by omega,nI];congr 1
  ac_rfl
 omega
theorem QS(h:KU x y i k out 0)(hi:i<x.length)(hk:¬k<y.length):val out=val (x.take (i+1))*val y:=by
 have e:=h.eq;rw[fB (l:=y) (by omega)]at e;rw[tJ hi,lP,Nat.mul_right_comm];omega
theorem Mp(hl:Lim out)(hn:out.length=x.length+y.length+1)(h:val out=val (x.take i)*val y):KU x y i 0 out 0:=
 ⟨hl,hn,by omega,by rw[h];simp[val]⟩
end
theorem HU{x y:Big}{a b:Int}{out:List Nat}(hx:ofInt a x)(hy:ofInt b y)(hl:Lim out)(h:val out=val x.l*val y.l):ofInt (a*b) (⟨x.below^^y.below,out⟩:Big).trim:=by
 have:=yY (x:=⟨x.below^^y.below,out⟩) hl;have e:(⟨x.below^^y.below,out⟩:Big).int=a*b:=by
  obtain⟨_,rfl⟩:=hx;obtain⟨_,rfl⟩:=hy;unfold Big.int;simp only[h];cases x.below<;>cases y.below<;>simp[Int.natCast_mul,Int.neg_mul,Int.mul_neg]
 rwa[e]at this
theorem AR{z:Big}(h:ofInt n z):z.below=false/\val z.l=n:=by
 obtain⟨⟨h1,h2,h3⟩,h4⟩:=h;unfold Big.int at h4;cases hb:z.below with
 |false=>rw[hb]at h4;simp only[iX,nG]at h4;exact⟨rfl,by omega⟩
 |true=>
  rw[hb]at h4;simp only[gU]at h4;have hne:z.l≠[]:=λe=>by have:=h3 e;rw[hb]at this;cases this
  have hv:val z.l≠0:=λe=>hne ((CG h2).1 e);omega
theorem HV{l:List Nat}(h:Lim l):ofInt (val l:Nat) (⟨false,l⟩:Big).trim:=by
 have:=yY (x:=⟨false,l⟩) h;exact this
theorem Ms{a b:Str}(ha:goodN a=true)(hb:goodN b=true):(num a).tdiv (num b)=(if(neg a^^neg b)=true then-(((dec (dig a))/(dec (dig b)):Nat):Int)else(((dec (dig a))/(dec (dig b)):Nat):Int))/\
  (num a).tmod (num b)=(if neg a=true then-(((dec (dig a))%(dec (dig b)):Nat):Int)else(((dec (dig a))%(dec (dig b)):Nat):Int)):=by
 unfold num;cases neg a<;>cases neg b<;>simp[Int.neg_tdiv,Int.tdiv_neg,Int.neg_tmod,Int.tmod_neg,Int.ofNat_tdiv]<;>exact sM (Int.natCast_nonneg _)
end
end Go.Num
namespace Go.Proofs.YtghhmpppnmoeoaaGreatDoor
section
open Go Go.Eng Go.Num Go.RowKit
variable{w:World}{K:Q0}{cs:List Value}{G:Nat->Prop}{T:TypeId}{i:Nat}{n:Nat}{v:Value}{w':World}{P:Program}{c:UInt8}{S:Nat->Prop}
def BZ(l:List Nat):List Value:=l.map u64
theorem Cb{b:Nat}{c:List Value}{off:Nat}{K:Value->Prop}(hw:w.heap[b]?=some (.cells c.toArray T (0,0)))(hv:c[off]?=some v)(hk:K v):aY off (.pointer (some ⟨b,0,none⟩)) λt=>ldW false 1 t w K:=by
 rw[bP,dM];refine⟨v,?_,hk⟩;rw[bY,cC,hw,cN,aX,List.getElem?_toArray];exact hv
theorem Xt{b:Nat}(h:w.heap[b]?=some (.cells cs.toArray T (0,0)))(hn:cs.length=n):SlAt w T (.slice (some ⟨b,0,none⟩) n n) n cs:=
 ⟨some ⟨b,0,none⟩,n,rfl,aU _,λe=>(by cases e),λ_=>⟨b,0,cs.toArray,_,rfl,h,λj _=>by simp⟩⟩
section
variable [HX]
theorem YN{K:Q0}(hm:n<=1000000)(hK:∀a w',a=w.heap.size->w'.heap.size=w.heap.size+1->w'.heap[a]?=some (.cells (BZ (List.replicate n 0)).toArray U64 (0,0))->Ext w w'->K (.slice (some ⟨a,0,none⟩) n n) w'):
  dY P0 (Instr.makeSlice 196 (i64 (n:Nat)) (i64 (n:Nat))) w K:=by
 have hinf:((Tryz.prog.info? U64).bind (·.zero))=some (u64 0):=by kernel_rfl
 obtain⟨i,z,hi,hz,hsz,hbytes,hzs⟩:=PY.get;have hz0:z=u64 0:=by
  rw[hi]at hinf;simp only[Option.bind_some]at hinf;rw[hz]at hinf;exact fO hinf
 subst hz0;unfold dY;have hr:=run_makeSlice (P:=P0) (w:=w) 196 U64 i _ (by kernel_rfl) hi hz .i64 .i64 n n (by omega) (by omega) (by rw[hsz];omega) (by rw[hbytes];omega) (by omega);rw[hr,hsz];simp only[aV,Nat.mul_one];have hc:madeCells (Value.cells (u64 0)) n=(BZ (List.replicate n 0)).toArray:=by
  apply Array.ext_getElem?;intro j;simp only[madeCells,Array.getElem?_map,List.getElem?_toArray,BZ];by_cases hj:j<n
  ·rw[Array.getElem?_eq_getElem (by simpa using hj)];simp[Value.cells,hj,Nat.mod_one]
  ·rw[Array.getElem?_eq_none (by simp;omega)];simp[hj]
 rw[hc];exact hK _ _ rfl (Array.size_push ..) (gD _ _ _ rfl) (Chg.alloc (Chg.refl _ _) _)
theorem Rf{b:Nat}{l:List Nat}{K:Value->Prop}(hb:w.heap[b]?=some (.cells (BZ l).toArray U64 (0,0)))(hn:l.length=n)(hi:i<n)(hK:K (u64 (l.getD i 0))):dV none 1 (.slice (some ⟨b,0,none⟩) n n) (i64 (i:Nat)) λt=>ldW false 1 t w K:=by
 rw[qU];refine⟨by omega,by omega,?_⟩;rw[dM];refine⟨u64 (l.getD i 0),?_,hK⟩;rw[bY,cC,hb,cN,List.getElem?_toArray];simp only[aV,Nat.mul_one,aX,BZ];rw[List.getElem?_map,List.getElem?_eq_getElem (by omega),List.getD_eq_getElem?_getD,List.getElem?_eq_getElem (by omega)];rfl
theorem OV{b x:Nat}{l:List Nat}{K:World->Prop}(hb:w.heap[b]?=some (.cells (BZ l).toArray U64 (0,0)))(hn:l.length=n)(hi:i<n)(hK:∀w',w'.heap.size=w.heap.size->w'.heap[b]?=some (.cells (BZ (l.set i x)).toArray U64 (0,0))->Chg (λk=>k=b) w w'->K w'):dV none 1 (.slice (some ⟨b,0,none⟩) n n) (i64 (i:Nat)) λt=>stW 1 t (u64 x) w K:=by
 rw[qU];refine⟨by omega,by omega,?_⟩;rw[bY];simp only[aV,Nat.mul_one,aX];refine iT hb rfl (by simp[BZ];omega) λw' hz hb' hc=>hK w' hz ?_ hc;rw[hb'];congr 2;apply Array.ext_getElem?;intro j;simp only[BZ,List.setIfInBounds_toArray,List.getElem?_toArray,List.map_set]
theorem NR(h:n<18446744073709551616):IntKind.u64.wrap (n:Int)=(n:Int):=oA (by omega) (by omega)
theorem Ez{x y:Big}{a b:Int}{ds:List Value}{K:Q0}(h:iL w x cs)(h':iL w y ds)(hx:ofInt a x)(hy:ofInt b y)(hfew:x.l.length+y.l.length+1<=1000)
  (hK:∀z cs' w',Ext w w'->iL w' z cs'->ofInt (a*b) z->z.l.length<=x.l.length+y.l.length+1->K (.agg cs'.toArray) w'):aC P0 196 [.agg cs.toArray,.agg ds.toArray] w K:=by
 refine Vq ?_;unfold aB5;refine oM h λp w1 sv hB hx1 hp hz1=>?_;refine oM (h'.ext hx1) λq w2 sv' hC hx2 hq hz2=>?_;refine bG λc w3 hc hz3 hbc hx3=>?_;have hB3:=hB.ext (hx2.trans hx3);have hC3:=hC.ext hx3;have hx03:=hx1.trans (hx2.trans hx3);have hn:=hB.few;have hm:=hC.few;refine Cb (off:=1) hB3.hb rfl ?_;rw[hB3.len];refine Cb (off:=1) hC3.hb rfl ?_;rw[hC3.len,cA,cK (by omega) (by omega),cA,cK (by omega) (by omega)];rw[show((x.l.length:Int)+(y.l.length:Int)+1)=((x.l.length+y.l.length+1:Nat):Int)by omega];refine YN (by omega) λo w4 ho hz4 hbo hx4=>?_;have hB4:=hB3.ext hx4;refine Cb (off:=1) hB4.hb rfl ?_;rw[hB4.len];have hlx:Lim x.l:=hB.lim;have hly:Lim y.l:=hC.lim;have hl3:=eW hbc;have hne:∀{k:Nat} {o':Obj},w3.heap[k]?=some o'->k≠o:=λhk e=>by have:=eW hk;omega
 have s0:=hx03.size;refine cZ.go (λst w'=>∃(i:Nat) (out:List Nat),st=[i64 (i:Nat)]/\i<=x.l.length/\Chg (λk=>k=o) w4 w'/\w'.heap[o]?=some (.cells (BZ out).toArray U64 (0,0))/\Lim out/\out.length=x.l.length+y.l.length+1/\val out=val (x.l.take i)*val y.l)
  (λst _=>match st with|[.int _ i]=>x.l.length-i.toNat|_=>0)
  ⟨0,List.replicate (x.l.length+y.l.length+1) 0,rfl,fW _,Chg.refl _ _,hbo,λz hz=>by have:=List.eq_of_mem_replicate hz;omega,by simp,by rw[QL];simp[val]⟩ ?_
 rintro st g w6 ⟨i,out,rfl,hi,hc6,hb6,hL,hlen,hv⟩;simp only[aF];have hx36:Ext w3 w6:=hx4.then hc6 λk hk e=>by have e:k=o:=e;omega
 have hB6:=hB3.ext hx36;have hC6:=hC3.ext hx36;rw[dW,aM];refine⟨λhlt=>?_,λhge=>?_⟩
 ·have hlt:i<x.l.length:=by omega
  obtain⟨n,hn'⟩:∃n,x.l[i]?=some n:=⟨_,List.getElem?_eq_getElem hlt⟩;have hgn:x.l.getD i 0=n:=by rw[List.getD_eq_getElem?_getD,hn'];rfl
  refine hB6.at hn' ?_;refine cZ.go (λst w'=>∃(k carry:Nat) (out:List Nat),st=[u64 carry,i64 (k:Nat)]/\Chg (λk=>k=o) w4 w'/\w'.heap[o]?=some (.cells (BZ out).toArray U64 (0,0))/\KU x.l y.l i k out carry/\k<=2000)
   (λst _=>match st with|[_,.int _ k]=>2001-k.toNat|_=>0)
   ⟨0,0,out,rfl,hc6,hb6,Mp hL hlen hv,by omega⟩ ?_
  rintro st g2 w8 ⟨k,carry,out2,rfl,hc8,hb8,hT,hk2⟩;simp only[aF,cW];have hx38:Ext w3 w8:=hx4.then hc8 λk hk e=>by have e:k=o:=e;omega
  have hC8:=hC3.ext hx38;refine Cb (off:=1) hC8.hb rfl ?_;rw[hC8.len,dW];refine GdW.look (decide (0<carry)) (λ_ J hJ=>?_) λg3=>?_
  ·rw[kS];have e:decide ((0:Int)<(carry:Int))=decide (0<carry):=by rw[decide_eq_decide];omega
   rw[e];exact hJ
  simp only[aF,kL];rw[eR,bS];have ek:decide ((k:Int)<(y.l.length:Int))=decide (k<y.l.length):=by rw[decide_eq_decide];omega
  rw[ek];refine⟨λhgo=>?_,λhend=>?_⟩
  ·have hgo:k<y.l.length\/0<carry:=by simpa using hgo
   have hpos:=Xm hT hlt hlx hly hgo;have hcl:=NW hT hlx hly;have hstep:=NV hT hlx hly hpos;have hlen2:=hT.len;rw[cA,cK (by omega) (by omega),show((i:Int)+(k:Int))=((i+k:Nat):Int)by omega];refine Rf hb8 hlen2 (by omega) ?_;have hcar:=hT.car;have hog:=xO hT.lim (i+k);rw[cA,show((carry:Int)+((out2.getD (i+k) 0:Nat):Int))=((carry+out2.getD (i+k) 0:Nat):Int)by omega,NR (by omega)];refine bU.cut (λst w'=>st=[u64 (AE x.l y.l out2 i k carry)]/\w'=w8) ?_ ?_
   ·refine Cb (off:=1) hC8.hb rfl ?_;rw[hC8.len,dW,aM];refine⟨λhky=>?_,λhky=>?_⟩
    ·have hky:k<y.l.length:=by omega
     obtain⟨m,hm'⟩:∃m,y.l[k]?=some m:=⟨_,List.getElem?_eq_getElem hky⟩;have hgm:y.l.getD k 0=m:=by rw[List.getD_eq_getElem?_getD,hm'];rfl
     refine Cb (off:=1) hC8.hb rfl ?_;refine hC8.at hm' ?_;have hnl:=xO hlx i;have hml:=xO hly k;rw[hgn]at hnl;rw[hgm]at hml;have hnm:n*m<=999999999*999999999:=yB (by omega) (by omega);rw[Cx,show((n:Int)*(m:Int))=((n*m:Nat):Int)by rw[Int.natCast_mul],NR (by omega)];rw[cA,show(((carry+out2.getD (i+k) 0:Nat):Int)+((n*m:Nat):Int))=((carry+out2.getD (i+k) 0+n*m:Nat):Int)by omega,NR (by omega)];refine⟨?_,rfl⟩;unfold AE;rw[aH hky,hgn,hgm]
    ·refine⟨?_,rfl⟩;unfold AE;rw[aD (by omega)];rfl
   rintro st g4 w12 ⟨rfl,rfl⟩;simp only[aF];generalize AE x.l y.l out2 i k carry=cc at*
   rw[cA,cK (by omega) (by omega),show((i:Int)+(k:Int))=((i+k:Nat):Int)by omega];rw[Cw];refine⟨by omega,?_⟩;rw[show((cc:Int).tmod 1000000000)=((cc%1000000000:Nat):Int)by rw[sM (by omega)];omega];refine OV hb8 hlen2 (by omega) λw13 hz13 hb13 hc13=>?_;rw[GY];refine⟨by omega,?_⟩;rw[show((cc:Int).tdiv 1000000000)=((cc/1000000000:Nat):Int)by rw[Int.tdiv_eq_ediv_of_nonneg (by omega)];omega,NR (by omega)];rw[cA,cK (by omega) (by omega),show((k:Int)+1)=((k+1:Nat):Int)by omega];refine⟨⟨k+1,_,_,rfl,hc8.then hc13 (λ_ _ e=>e),hb13,hstep,by omega⟩,by simp only[aV];omega⟩
  ·have hend:¬k<y.l.length/\carry=0:=by simp at hend;omega
   obtain⟨hk0,rfl⟩:=hend;rw[cA,up1 (by omega)];refine⟨⟨i+1,out2,rfl,hlt,hc8,hb8,hT.lim,hT.len,QS hT hlt hk0⟩,by simp only[aV];omega⟩
 ·obtain rfl:i=x.l.length:=by omega
  rw[bM]at hv;refine Cb (off:=0) hB6.hb rfl ?_;refine Cb (off:=0) hC6.hb rfl ?_;have eqb:∀(s t:Bool) (K:Value->Prop),K (.bool (s^^t))->eqW .bool true (.bool s) (.bool t) K:=λs t K h=>by
   cases s<;>cases t<;>exact h
  refine eqb _ _ _ ?_;simp only[wI,gB,aA,aL,aW,aZ];refine⟨by omega,by omega,?_⟩;have hR:iL w6 ⟨x.below^^y.below,out⟩ [.bool (x.below^^y.below),.slice (some ⟨o,0,none⟩) (x.l.length+y.l.length+1) (x.l.length+y.l.length+1)]:=by
   refine⟨_,U64,rfl,?_,by show out.length<=1000;omega,hL⟩;have:=Xt hb6 (by simp only[BZ,lC];exact hlen);rw[<-hlen]at this⊢;exact this
  refine pI hR λcs' w15 hx15 hz=>?_;refine Lf (w0:=w) (hx15.at (hx36.at hbc id) id) rfl (by omega) (hx03.trans (hx36.trans hx15)) hz.one hz.len λw17 hx17 hc17=>?_;refine hK _ cs' w17 hx17 (hz.keep (p:=false) (q:=.slice none 0 0) (hx15.at (hx36.at hbc id) id) (λn e=>by cases e) hc17) (HU hx hy hL hv) ?_;have:∀l:List Nat,(gP l).length<=l.length:=λl=>by
   induction l using wE with
   |h0=>rw[qO];simp
   |h1 l x ih=>
    by_cases h:x=0
    ·subst h;rw[oU];simp;omega
    ·rw[tW h];simp
  have:=this out;show(gP out).length<=_;omega
end
end
section
open Go Go.Eng Go.Num Go.RowKit Go.Sort
variable{w:World}{K:Q0}{cs:List Value}{G:Nat->Prop}{T:TypeId}{i:Nat}{n:Nat}{v:Value}{w':World}{P:Program}{c:UInt8}{S:Nat->Prop}
section
variable [HX]
theorem Zc{v:Nat}{K:Q0}(hT:sD w)(hv:v<1000000000000)(hK:∀w',Ext w w'->K (str (Lib.decDigits v)) w'):aC P0 228 [u64 v,i64 10] w K:=by
 refine Ve ?_;unfold aBU;refine UT ?_;unfold aBN;rw[bL,show decide ((10:Int)=10)=true from rfl,dR,dW,aM];refine⟨λhs=>?_,λhs=>?_⟩
 ·rw[mE,cK (by omega) (by omega)];refine gF (args:=#[i64 (v:Nat)]) Tryz.call274 ((Tryz.internal_strconv_small v (by omega) w).mono ?_);rintro e w' ⟨rfl,rfl⟩;exact⟨_,rfl,hK w' (Chg.refl _ _)⟩
 have h1:1<=v:=by omega
 have h64:v<18446744073709551616:=by omega
 have hnd:Lib.nDigits v<=20:=by have:=Lib.numDigits_eq v h1 h64;split at this<;>omega
 have hz24:List.replicate 24 (Value.int .u8 0)=Lib.zeros24.toList:=rfl;rw[hz24,Qx];have e0:(Lib.zeros24.toList).toArray=Lib.zeros24:=rfl;rw[e0];have hxa:Ext w (w.alloc (.cells Lib.zeros24 262)):=Chg.alloc (Chg.refl _ _) _;refine gF (args:=#[u64 v]) Tryz.call275 ((Tryz.internal_strconv_numDigits v h1 h64 _ (Hh hxa hT.pow)).mono ?_);rintro e w2 ⟨rfl,rfl⟩;refine⟨_,rfl,?_⟩;have hH0:Holds (λ(b:UInt8)=>Value.int .u8 (b.toNat:Int)) (w.alloc (.cells Lib.zeros24 262)) w.heap.size 0 (Array.replicate (Lib.nDigits v) (0:UInt8)):=λj hj=>by
  have hj':j<Lib.nDigits v:=by simpa using hj
  refine⟨?_,World.frozen?_alloc_new _ _ _ _⟩;rw[World.cell?_alloc_new,aX,Lib.zeros24_at _ (by omega),getElem!_pos _ j hj];simp
 have hsl:∀{K:Value->Prop},K (.slice (some ⟨w.heap.size,0,none⟩) (Lib.nDigits v) 24)->Mv 24 1 (.pointer (some ⟨w.heap.size,0,none⟩)) none (some (i64 (Lib.nDigits v))) none K:=λ{K} h=>by
  unfold Mv;simp only[fT,eM];refine⟨by omega,by omega,?_⟩;have e:(⟨w.heap.size,0,none⟩:Addr).add 0=⟨w.heap.size,0,none⟩:=rfl;simpa[e]using h
 refine hsl ?_;have hfmt:=Tryz.internal_strconv_formatBase10 w.heap.size 0 24 v (Array.replicate (Lib.nDigits v) 0) _ hH0 (by rw[Bw];exact Lib.lt_pow_nDigits v) h64 (by rw[Bw];omega);rw[Bw]at hfmt;refine gF (args:=#[.slice (some ⟨w.heap.size,0,none⟩) (Lib.nDigits v) 24,u64 v]) Tryz.call276 (hfmt.mono ?_);rintro e w4 ⟨rfl,k,v',dk,rfl,hF⟩;refine⟨_,rfl,?_⟩;refine hsl ?_;have h:=run_convert_bytes_back (P:=P0) ((putRow (λ(b:UInt8)=>Value.int .u8 (b.toNat:Int)) (w.alloc (.cells Lib.zeros24 262)) w.heap.size 0 dk).drewN k) 89 9 5 ⟨w.heap.size,0,none⟩ 24 (Lib.decDigits v) (by kernel_rfl) (by kernel_rfl) (by kernel_rfl) (λj hj=>by
  rw[Lib.row_is_numeral hF j hj,Lib.add_plain,World.cell?_drewN];exact cell?_putRow (λ(b:UInt8)=>Value.int .u8 (b.toNat:Int)) _ w.heap.size 0 _ dk hH0 (by rw[hF.size,Bw]) j (by rw[hF.size];rw[Lib.decDigits_length]at hj;exact hj))
 rw[Lib.decDigits_length]at h;refine⟨_,h,?_⟩;obtain⟨os',_,eg⟩:=putRow_grow_new (λ(b:UInt8)=>Value.int .u8 (b.toNat:Int)) w #[.cells Lib.zeros24 262] w.heap.size 0 dk (aU _);rw[alloc_eq_grow,eg];exact hK _ (FH w k os')
end
end
end Go.Proofs.YtghhmpppnmoeoaaGreatDoor
