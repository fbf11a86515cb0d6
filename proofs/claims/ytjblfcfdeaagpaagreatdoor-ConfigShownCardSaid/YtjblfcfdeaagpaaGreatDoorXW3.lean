/- One plain sentence: contracts and plain laws that the claim rests on. Conditions: those that each states. -/
import Derived.Test.YtjblfcfdeaagpaaGreatDoorXW2
import Derived.Test.YtjblfcfdeaagpaaGreatDoorXW1
set_option linter.all false
set_option linter.unusedSimpArgs false
set_option linter.unusedVariables false
set_option linter.unusedSectionVars false
set_option maxRecDepth 100000
variable{w W:Go.World}{K:Go.Value->Go.World->Prop}{cs d D:List Go.Value}{G S:Nat->Prop}{T U:Go.TypeId}{i n m j p q r A:Nat}{v g:Go.Value}{P:Go.Program}{c:UInt8}{s y o B:Str}{u:List Nat}{a z:Int}{F:Go.Value->Prop}{H:Go.World->Prop}{E:Bool}{L:List Str}{α β:Type}{v0 v1 v2 v3 v4 v5:Go.Value}
namespace Go.Proofs.YtjblfcfdeaagpaaGreatDoor
section
open Go Go.Eng Go.RowKit Go.Syn Go.Lex
def pZ(rest:Str):Nat×Nat:=match Syn.insP rest with|some x=>x|none=>(rest.length,rest.length)
def Ap(s:PS)(rest:Str)(a:Int):PS:=if 0<(pZ rest).1 then{s with ex:=s.ex++[⟨5,iW (rest.take (pZ rest).1),[],[],a⟩]}else s
def LL{E:PS->R Nat}{s:PS}{av:List Nat}(c:y≠[])(e:y.length<n+1):
  mK E (n+1) s y a av L=
   (if(pZ y).1<(pZ y).2 then(within (Ap s y a) (a+(pZ y).1) false λq=>pF E q ((y.drop ((pZ y).1+2)).take ((pZ y).2-1-((pZ y).1+2))) (a+(pZ y).1+2)).bind λx d=>
     mK E n d (y.drop (pZ y).2) (a+(pZ y).2) ((if 0<(pZ y).1 then av++[s.ex.length]else av)++[x]) ((if 0<(pZ y).1 then L++[[116]]else L)++[[101]])
   else mK E n (Ap s y a) (y.drop (pZ y).2) (a+(pZ y).2) (if 0<(pZ y).1 then av++[s.ex.length]else av) (if 0<(pZ y).1 then L++[[116]]else L)):=by
 simp only[mK];rw[aE c];have b:0<y.length:=iO.2 c;unfold pZ Ap pZ;cases f:Syn.insP y with
 |none=>
  simp only;rw[aE (Nat.lt_irrefl _),aO b,aO b,aO b,iH,dP];obtain⟨m,rfl⟩:∃m,n=m+1:=⟨n-1,by omega⟩;simp only[mK,mE]
 |some x=>rfl
def Zo(g:ES y):(pZ y).1<=y.length/\(pZ y).2<=y.length/\vK (y.take (pZ y).1)=true/\ES (y.drop (pZ y).2)/\((pZ y).1<(pZ y).2->(pZ y).1+3<=(pZ y).2)/\(y≠[]->0<(pZ y).2)/\(pZ y).1<=(pZ y).2:=by
 obtain⟨j,i⟩:=JB g;unfold pZ;cases f:Syn.insP y with
 |none=>
  simp only;exact⟨aQ _,aQ _,by rw[dP];exact j f,by rw[iH];exact .inl rfl,λe=>absurd e (Nat.lt_irrefl _),λh=>iO.2 h,aQ _⟩
 |some x=>
  obtain⟨a,b,c,d⟩:=i x.1 x.2 f;simp only;exact⟨by omega,c,a,d,λ_=>b,λ_=>by omega,by omega⟩
section
variable [HX]
variable{w0 w w' w1:World}{p f b:Nat}{M M':Lay}{vt:Value}{s:PS}{top:List Nat}{N:Int}{K:Q0}
abbrev PpT:TypeId:=89
structure TL(w0 w:World)(p f:Nat)(M:Lay)(vt:Value)(B1 b2 b7 b8 b9:Nat)(ta:Int)(rest:Str)(a:Int)(va vk:Value)(av:List Nat)(ks:List Str):Prop where
 l2:Loc w0 w p f M vt b2 PpT [.pointer (some ⟨p,0,none⟩)]
 l7:Loc w0 w p f M vt b7 ExT [i64 6,str [],va,vk,i64 ta]
 l8:Loc w0 w p f M vt b8 StT [str rest]
 l9:Loc w0 w p f M vt b9 mA [i64 a]
 rA:Ro w0 w p f M vt B1 mA 1 va av.length (ints av)
 rK:Ro w0 w p f M vt B1 StT 1 vk ks.length (strs ks)
 dd:∀k,va.ownBlock=some k->vk.ownBlock≠some k
 lt:b2<B1/\b7<B1/\b8<B1/\b9<B1/\B1<=w.heap.size
 ne:b2≠b7/\b2≠b8/\b2≠b9/\b7≠b8/\b7≠b9/\b8≠b9
section
variable{B1 b2 b7 b8 b9:Nat}{ta:Int}{rest:Str}{a:Int}{va vk:Value}{av:List Nat}{ks:List Str}
def TL.eff(h:TL w0 w p f M vt B1 b2 b7 b8 b9 ta rest a va vk av ks)(b:Eff p f M M' w W):TL w0 W p f M' vt B1 b2 b7 b8 b9 ta rest a va vk av ks:=
 ⟨h.l2.eff b,h.l7.eff b,h.l8.eff b,h.l9.eff b,h.rA.eff b,h.rK.eff b,h.dd,⟨h.lt.1,h.lt.2.1,h.lt.2.2.1,h.lt.2.2.2.1,dN h.lt.2.2.2.2 b.chg.size⟩,h.ne⟩
def TL.ext(h:TL w0 w p f M vt B1 b2 b7 b8 b9 ta rest a va vk av ks)(b:Ext w W):TL w0 W p f M vt B1 b2 b7 b8 b9 ta rest a va vk av ks:=h.eff (Eff.ext b)
def TL.one(h:TL w0 w p f M vt B1 b2 b7 b8 b9 ta rest a va vk av ks)(c:Chg (One b) w W)(m:B1<=b)(l:va.ownBlock≠some b)(k:vk.ownBlock≠some b):TL w0 W p f M vt B1 b2 b7 b8 b9 ta rest a va vk av ks:=by
 obtain⟨j,i,g,e,d⟩:=h.lt;exact⟨h.l2.one c (by omega),h.l7.one c (by omega),h.l8.one c (by omega),h.l9.one c (by omega),h.rA.one c l,h.rK.one c k,h.dd,⟨j,i,g,e,dN d c.size⟩,h.ne⟩
def TL.noA(h:TL w0 w p f M vt B1 b2 b7 b8 b9 ta rest a va vk av ks){k:Nat}(b:k<B1):va.ownBlock≠some k/\vk.ownBlock≠some k:=
 ⟨λe=>by have:=h.rA.new k e;omega,λe=>by have:=h.rK.new k e;omega⟩
def TL.args{w2:World}{x:Nat}(h:TL w0 w p f M vt B1 b2 b7 b8 b9 ta rest a va vk av ks)(m:Ro w0 w2 p f M vt B1 mA 1 v (av++[x]).length (ints (av++[x])))(c:Chg (λk=>va.ownBlock=some k) w w2)(r:∀k,v.ownBlock=some k->va.ownBlock=some k\/w.heap.size<=k)
  (b:Chg (One b7) w2 W)(s:W.heap[b7]?=some (.cells [i64 6,str [],v,vk,i64 ta].toArray ExT (0,0))):TL w0 W p f M vt B1 b2 b7 b8 b9 ta rest a v vk (av++[x]) ks:=by
 obtain⟨l,d,j,i,n⟩:=h.lt;obtain⟨q,u,n3,n4,n5,n6⟩:=h.ne;have z:=b.size;have o:=((h.l7.row c (h.noA d).1).2).up z;refine⟨(h.l2.row c (h.noA l).1).one b q,⟨s,o⟩,(h.l8.row c (h.noA j).1).one b (kY n4),(h.l9.row c (h.noA i).1).one b (kY n5),m.one b λe=>by have:=m.new b7 e;omega,
  (h.rK.row c λk g e=>h.dd k e g).one b (h.noA d).2,λk g=>?_,⟨l,d,j,i,dN n (dN c.size z)⟩,h.ne⟩
 rcases r k g with e|e
 .exact h.dd k e
 .intro t;have:=(h.rK.off k t).1.2;omega
def TL.keys{w2:World}{x:Str}(h:TL w0 w p f M vt B1 b2 b7 b8 b9 ta rest a va vk av ks)(m:Ro w0 w2 p f M vt B1 StT 1 v (ks++[x]).length (strs (ks++[x])))(c:Chg (λk=>vk.ownBlock=some k) w w2)(r:∀k,v.ownBlock=some k->vk.ownBlock=some k\/w.heap.size<=k)
  (b:Chg (One b7) w2 W)(s:W.heap[b7]?=some (.cells [i64 6,str [],va,v,i64 ta].toArray ExT (0,0))):TL w0 W p f M vt B1 b2 b7 b8 b9 ta rest a va v av (ks++[x]):=by
 obtain⟨l,g,j,i,n⟩:=h.lt;obtain⟨q,u,n3,n4,n5,n6⟩:=h.ne;have z:=b.size;have o:=((h.l7.row c (h.noA g).2).2).up z;refine⟨(h.l2.row c (h.noA l).2).one b q,⟨s,o⟩,(h.l8.row c (h.noA j).2).one b (kY n4),(h.l9.row c (h.noA i).2).one b (kY n5),(h.rA.row c λk d e=>h.dd k d e).one b (h.noA g).1,
  m.one b λe=>by have:=m.new b7 e;omega,λk d t=>?_,⟨l,g,j,i,dN n (dN c.size z)⟩,h.ne⟩
 rcases r k t with e|e
 .exact h.dd k d e
 .have:=(h.rA.off k d).1.2;omega
def TL.appA{x:Nat}{KW:World->Prop}(h:TL w0 w p f M vt B1 b2 b7 b8 b9 ta rest a va vk av ks)(A:PR w0 w p f M vt s top)(z:w.heap[r]?=some (.cells [i64 (x:Nat)].toArray mA (0,0)))(B:av.length<=1000000)
  (C:∀c W,TL w0 W p f M vt B1 b2 b7 b8 b9 ta rest a c vk (av++[x]) ks->PR w0 W p f M vt s top->Chg (λk=>va.ownBlock=some k\/k=b7) w W->(∀k,c.ownBlock=some k->va.ownBlock=some k\/w.heap.size<=k)->KW W):
  fV P0 (Builtin.append_ #[26,26] T #[va,.slice (some ⟨r,0,none⟩) 1 1]) w λt62 g=>bF 2 (.pointer (some ⟨b7,0,none⟩)) λt63=>stW 1 t63 t62 g KW:=by
 obtain⟨I,v,H,G,t⟩:=h.lt;refine Ro.app EJ h.rA A z rfl (λu n=>by simp only[bO]at n;subst n;rfl) B (by decide) t λq w2 l j m i=>?_;have E:(av++[x]).length=av.length+1:=by simp
 have D:ints (av++[x])=ints av++[i64 (x:Nat)]:=by simp[ints]
 rw[<-E,<-D]at l;rw[bH,bN,aN];obtain⟨vp,F,ev,_⟩:=l.own.sl.shape;refine(h.l7.row j (h.noA v).1).st (by rw[ev];rfl) (by simp) λo d b y=>?_;exact C q o (h.args l j m b (by rw[d.1];rfl)) (i.one b ⟨⟨d.2.1.1,by have:=d.2.1.2;omega⟩,d.2.2⟩) ((j.mono λk _ e=>.inl e).trans (b.mono λk _ e=>.inr e)) m
def TL.appK{x:Str}{KW:World->Prop}(h:TL w0 w p f M vt B1 b2 b7 b8 b9 ta rest a va vk av ks)(A:PR w0 w p f M vt s top)(z:w.heap[r]?=some (.cells [str x].toArray StT (0,0)))(B:ks.length<=1000000)
  (C:∀c W,TL w0 W p f M vt B1 b2 b7 b8 b9 ta rest a va c av (ks++[x])->PR w0 W p f M vt s top->Chg (λk=>vk.ownBlock=some k\/k=b7) w W->(∀k,c.ownBlock=some k->vk.ownBlock=some k\/w.heap.size<=k)->KW W):
  fV P0 (Builtin.append_ #[33,33] T #[vk,.slice (some ⟨r,0,none⟩) 1 1]) w λt62 g=>bF 3 (.pointer (some ⟨b7,0,none⟩)) λt63=>stW 1 t63 t62 g KW:=by
 obtain⟨I,v,H,G,t⟩:=h.lt;refine Ro.app DY h.rK A z rfl (λu n=>by simp only[bO]at n;subst n;rfl) B (by decide) t λq w2 l j m i=>?_;have E:(ks++[x]).length=ks.length+1:=by simp
 have D:strs (ks++[x])=strs ks++[str x]:=by simp[strs]
 rw[<-E,<-D]at l;rw[bH,bN,aN];obtain⟨vp,F,ev,_⟩:=l.own.sl.shape;refine(h.l7.row j (h.noA v).2).st (by rw[ev];rfl) (by simp) λo d b y=>?_;exact C q o (h.keys l j m b (by rw[d.1];rfl)) (i.one b ⟨⟨d.2.1.1,by have:=d.2.1.2;omega⟩,d.2.2⟩) ((j.mono λk _ e=>.inl e).trans (b.mono λk _ e=>.inr e)) m
theorem aB9{E:PS->R Nat}{e:Nat}{M0:Lay}{wb:World}(I:Eff p f M0 M wb w)(Z:wb.heap.size<=b7)(Y:wb.heap.size<=B1)(hS:BG w0 f)(hE:EC w0 f 118 E n)(hF:vP E)(h:PR w0 w p f M vt s top)(P:Gd N s n)(Q:TL w0 w p f M vt B1 b2 b7 b8 b9 ta rest a va vk av ks)
  (l10:Loc w0 w p f M vt m mA [i64 (i:Nat)])(F:Loc w0 w p f M vt j mA [i64 (e:Nat)])(n10:va.ownBlock≠some m/\vk.ownBlock≠some m/\m≠b7)(n11:va.ownBlock≠some j/\vk.ownBlock≠some j/\j≠b7)
  (hc:i+3<=e)(hd:e<=rest.length)(h0:0<=a)(h1:a+rest.length+1<=N)(B:Syn.phi s+(e-1-(i+2))<=100000)(hn:av.length<=1000000)
  (hK:∀x s',pF E s ((rest.drop (i+2)).take (e-1-(i+2))) (a+i+2)=.ok x s'->∀M' b W,PR w0 W p f M' vt s' top->Eff p f M0 M' wb W->TL w0 W p f M' vt B1 b2 b7 b8 b9 ta rest a b vk (av++[x]) ks->
    Loc w0 W p f M' vt m mA [i64 (i:Nat)]->Loc w0 W p f M' vt j mA [i64 (e:Nat)]->(b.ownBlock≠some m/\b.ownBlock≠some j)->K (.tuple #[]) W)
  (ht:∀c S,pF E s ((rest.drop (i+2)).take (e-1-(i+2))) (a+i+2)=.err c S->Thr w0 f c S):
  aL P0 256 [.pointer (some ⟨b7,0,none⟩),.pointer (some ⟨b2,0,none⟩),.pointer (some ⟨b8,0,none⟩),.pointer (some ⟨m,0,none⟩),.pointer (some ⟨j,0,none⟩),.pointer (some ⟨b9,0,none⟩)] w K:=by
 refine aAe ?_;unfold aFT;have hN:=P.hN;have C:=Q.ext (cQ w);have J:=h.drew;have t:=l10.drew;have z:=F.drew;rw[bH,bN,aN];refine C.l7.ld rfl ?_;refine C.l2.ld rfl ?_;refine C.l8.ld rfl ?_;refine t.ld rfl ?_;rw[cP,fZ (by omega) (by omega)];refine z.ld rfl ?_;rw[gR,fZ (by omega) (by omega),fH,fF];refine⟨by omega,by omega,?_⟩;rw[fF];refine⟨by omega,by omega,?_⟩;refine C.l9.ld rfl ?_;refine t.ld rfl ?_;rw[cP,fZ (by omega) (by omega),cP,fZ (by omega) (by omega)];have et:(rest.take ((e:Int)-1).toNat).drop ((i:Int)+2).toNat=(rest.drop (i+2)).take (e-1-(i+2)):=by
  rw[show((e:Int)-1).toNat=e-1 by omega,show((i:Int)+2).toNat=i+2 by omega,List.drop_take]
 rw[et];have o:((rest.drop (i+2)).take (e-1-(i+2))).length=e-1-(i+2):=by rw[cG,aW];omega
 refine Zp hS hE hF J P (by omega) (by rw[o];omega) (by rw[o];exact B) (λx s' X M' w2 h2 l=>?_) ht;have U:=C.eff l;have y:∀{D:World},TL w0 D p f M' vt B1 b2 b7 b8 b9 ta rest a va vk av ks->ldW false 1 (.pointer (some ⟨b7,2,none⟩)) D λx=>x=va:=λT=>T.l7.ld rfl rfl;refine⟨y U,?_⟩;refine nU λr D hr V G d=>?_;have L:=U.ext d;refine⟨y L,?_⟩;refine L.appA (h2.ext d) G hn λb O T4 h4 g A=>?_;have q:=(Eff.ext (cQ w)).trans (l.x d);have z3:=q.chg.size;have v:=(t.eff l).ext d;have u:=(z.eff l).ext d;have b7o:=L.l7.2;have H:Eff p f M0 M' wb O:=(I.trans q).then g λk hk e=>by
  rcases e with e|e
  .have:=Q.rA.new k e;omega
  .omega
 exact hK x s' X M' b O h4 H T4 ⟨g.at v.1 λe=>e.elim n10.1 n10.2.2,v.2.up g.size⟩ ⟨g.at u.1 λe=>e.elim n11.1 n11.2.2,u.2.up g.size⟩ ⟨λe=>(A _ e).elim n10.1 λe=>by have:=v.lt;omega,λe=>(A _ e).elim n11.1 λe=>by have:=u.lt;omega⟩
end
end
def Tc(w:World)(b:Nat):Nat:=match w.heap[b]? with|some (.cells c _ _)=>(match(c[0]?:Option Value)with|some (Value.string t)=>t.size|_=>0)|_=>0
section
variable [HX]
variable{w0 w w' w1:World}{p f b:Nat}{M M':Lay}{vt:Value}{s:PS}{top:List Nat}{N:Int}{K:Q0}
def Loc.strat(h:Loc w0 w p f M vt b StT [str y]):Tc w b=y.length:=by
 unfold Tc;rw[h.1];simp[kD]
def zV(c:kJ v=true)(h:∀a W,a=w.heap.size->W.heap.size=w.heap.size+1->W.heap[a]?=some (.cells [v].toArray T (0,0))->Ext w W->K (.pointer (some ⟨a,0,none⟩)) W):jZ T v w K:=by
 have b:v.cells=#[v]:=by cases v<;>first|rfl|(simp[kJ]at c)
 unfold jZ;rw[b];exact h _ _ rfl (by simp) (kV _ _ _ rfl) (Chg.alloc (Chg.refl _ _) _)
def Gd.put{N:Int}{s:PS}(h:Gd N s i){e:Ex}(a:Syn.phi s+1<=100000):Gd N {s with ex:=s.ex++[e]} i:=⟨⟨h.ws.tg,h.ws.lt,h.ws.pN⟩,h.hN,h.few,h.ts,dN (pJ s e) a,h.lev⟩
def LA{M0:Lay}{wb:World}{l:Str}(h:PR w0 w p f M vt s top)(o:Eff p f M0 M wb w)(g:s.ex.length<=1000000)
  (t:∀M' W,PR w0 W p f M' vt {s with ex:=s.ex++[⟨5,l,[],[],a⟩]} top->Eff p f M0 M' wb W->(∀b T cs,Loc w0 w p f M vt b T cs->Loc w0 W p f M' vt b T cs)->(∀wb T m v n xs,Ro w0 w p f M vt wb T m v n xs->Ro w0 W p f M' vt wb T m v n xs)->w.heap.size<=W.heap.size->K (i64 (s.ex.length:Nat)) W):
  aL P0 158 [.pointer (some ⟨p,0,none⟩),.agg [i64 5,str l,.slice none 0 0,.slice none 0 0,i64 a].toArray] w K:=by
 have c:ub [i64 5,str l,.slice none 0 0,.slice none 0 0,i64 a]=[]:=rfl;refine NQ (M0:=M) (wb:=w) (e:=⟨5,l,[],[],a⟩) h (Eff.refl _ _ _ _) ⟨.slice none 0 0,.slice none 0 0,rfl,⟨by simp[ints],.inl ⟨rfl,rfl⟩⟩,⟨by simp[strs],.inl ⟨rfl,rfl⟩⟩⟩ (by rw[c];intro k j;cases j) (by rw[c];exact nY) (by rw[c];intro k j;cases j) g λM' W u d i=>?_;exact t M' W u (o.trans d) (λb T cs r=>i b T cs r (by rw[c];exact bU)) (λwb T m v n xs q=>q.eff d) d.chg.size
theorem aCc{E:PS->R Nat}{t:Tok}(hS:BG w0 f)(hE:∀d,i=d+1->EC w0 f 118 E d)(hF:vP E)(h:PR w0 w p f M vt s top)(hg:Gd N s i)(hx:ES t.t)(hl:t.t.length<=100000)
  (ha:0<=t.a/\t.a<=N)(uo:KP N t.a t.t)(ur:Syn.phi s+wt {t with k:=3}<=100000)
  (hK:∀x s',wS E s t=.ok x s'->∀M' W,PR w0 W p f M' vt s' top->Eff p f M M' w W->K (i64 (x:Nat)) W)(ht:∀c a',wS E s t=.err c a'->Thr w0 f c a'):
  aL P0 232 [.pointer (some ⟨p,0,none⟩),.agg (kB t).toArray] w K:=by
 refine aAn ?_;unfold aF2;have hN:=hg.hN;refine zV rfl λb2 w1 ba aj vd uk=>?_;have h1:=h.ext uk;have L1:=h.loc aj ba vd;refine gF (z:=kB t) λb3 w2 az ai vc zh=>?_;have h2:=h1.ext zh;have yq:=L1.ext zh;have L2:=h1.loc ai az vc;have ux:Eff p f M M w w2:=(Eff.ext uk).x zh;refine L2.ldf rfl ?_;refine Bt (by omega) ?_;rw[bX];unfold wS at hK ht;cases hi:Syn.insP t.t with
 |none=>
  have ei:Kt t.t=[i64 (-1),i64 0]:=by unfold Kt;rw[hi]
  rw[ei];refine⟨i64 (-1),rfl,?_⟩;rw[bX];refine⟨i64 0,rfl,?_⟩;rw[eC,aY];refine⟨λ_=>?_,λe=>by omega⟩;rw[hi]at hK ht;simp only[Option.isSome_none,rV,vJ]at hK ht;refine yq.drew.ld rfl ?_;refine L2.drew.ldf rfl ?_;rw[bH,bN,aN];refine L2.drew.ld rfl ?_;refine Nx ((JB hx).1 hi) (by omega) λw3 hc=>?_;have L3:=L2.drew.ext hc;have bw:=yq.drew.ext hc;refine⟨L3.ld rfl rfl,bw.ld rfl rfl,?_⟩;simp only[eG,eP,dW,aA,aD,aP,aU,Nat.reduceAdd,Nat.reduceLT,dQ,aZ];have h3:=h2.drew.ext hc;refine LA h3 ((ux.x (cQ w2)).x hc) (by have:=hg.ex;omega) λM' w4 h4 zl _ _ _=>?_;exact hK _ _ rfl M' w4 h4 zl
 |some ie=>
  have ei:Kt t.t=[i64 (ie.1:Nat),i64 (ie.2:Nat)]:=by unfold Kt;rw[hi]
  rw[ei];refine⟨i64 (ie.1:Nat),rfl,?_⟩;rw[bX];refine⟨i64 (ie.2:Nat),rfl,?_⟩;rw[eC,aY];refine⟨λe=>by omega,λ_=>?_⟩;rw[hi]at hK ht;simp only[cU,mE]at hK ht;have uo:t.a+t.t.length+2<=N:=uo.resolve_left λe=>by rw[e]at hi;cases hi
  have al:wt {t with k:=3}=t.t.length+2:=by unfold wt;rw[aE (by simp),aO ⟨rfl,by rw[hi];rfl⟩]
  rw[al]at ur;refine L2.ldf rfl ?_;simp only[eG,eP,dW,aA,aD,aP,aU,Nat.reduceAdd,Nat.reduceLT,dQ,aZ];refine cO λb7 w3 ay ah yz hc=>?_;have h3:=h2.ext hc;have L3:=h2.loc ah ay yz;refine dH (l:=[i64 6,str [],.slice none 0 0,.slice none 0 0,i64 t.a]) yz rfl rfl rfl λw4 hz4 vb yl=>?_;have L4:Loc w0 w4 p f M vt b7 ExT [i64 6,str [],.slice none 0 0,.slice none 0 0,i64 t.a]:=⟨vb,L3.2.up (by omega)⟩;have h4:=h3.one yl L3.2;have vr:=(yq.ext hc).one yl (by omega);have vq:=(L2.ext hc).one yl (by omega);have zl:Eff p f M M w w4:=(ux.x hc).one yl (by omega);refine dE.cut (λst W=>∃b8 b9 B1,st=[.pointer (some ⟨b8,0,none⟩),.pointer (some ⟨b9,0,none⟩)]/\TL w0 W p f M vt B1 b2 b7 b8 b9 t.a t.t (t.a+1) (.slice none 0 0) (.slice none 0 0) [] []/\PR w0 W p f M vt s top/\Eff p f M M w W/\w.heap.size<=B1/\w.heap.size<=b8/\w.heap.size<=b9) ?_ ?_
  .have L4d:=L4.drew;have L14d:=vr.drew;have L24d:=vq.drew;have h4d:=h4.drew;have he4d:=zl.x (cQ w4);have yb:∀{W:World},Loc w0 W p f M vt b3 TkT (kB t)->ldW false 1 (.pointer (some ⟨b3,1,none⟩)) W λx=>x=str t.t:=λL=>L.ld rfl rfl;have xd:∀{W:World},Loc w0 W p f M vt b3 TkT (kB t)->ldW false 1 (.pointer (some ⟨b3,2,none⟩)) W λx=>x=i64 t.a:=λL=>L.ld rfl rfl;rw[bH,bN,aN];refine L24d.ld rfl ?_;rw[bH,bN,aN];refine L24d.ld rfl ?_;rw[cP,fZ (by omega) (by omega)];have zd:w4.drew.heap.size=w4.heap.size:=rfl;have fin:∀{w5:World} {b8 b9:Nat},PR w0 w5 p f M vt s top->Eff p f M M w w5->Loc w0 w5 p f M vt b2 PpT [.pointer (some ⟨p,0,none⟩)]->Loc w0 w5 p f M vt b7 ExT [i64 6,str [],.slice none 0 0,.slice none 0 0,i64 t.a]->Loc w0 w5 p f M vt b8 StT [str t.t]->Loc w0 w5 p f M vt b9 mA [i64 (t.a+1)]->w4.heap.size<=b8->w4.heap.size<=b9->b8≠b9->
     ∃zv zu B1,[Value.pointer (some ⟨b8,0,none⟩),.pointer (some ⟨b9,0,none⟩)]=[.pointer (some ⟨zv,0,none⟩),.pointer (some ⟨zu,0,none⟩)]/\TL w0 w5 p f M vt B1 b2 b7 zv zu t.a t.t (t.a+1) (.slice none 0 0) (.slice none 0 0) [] []/\PR w0 w5 p f M vt s top/\Eff p f M M w w5/\w.heap.size<=B1/\w.heap.size<=zv/\w.heap.size<=zu:=λ{w5 b8 b9} hp he l2 l7 l8 l9 g8 g9 gn=>
    ⟨b8,b9,w5.heap.size,rfl,⟨l2,l7,l8,l9,Ro.nil _ _,Ro.nil _ _,λk hk=>by simp[Value.ownBlock]at hk,⟨l2.lt,l7.lt,l8.lt,l9.lt,aQ _⟩,⟨by omega,by omega,by omega,by omega,by omega,gn⟩⟩,hp,he,he.chg.size,by omega,by omega⟩
   refine⟨?_,?_⟩
   .refine cO λb8 w5 zn yd xw Q=>?_;have L8:=h4d.loc yd zn xw;have h5:=h4d.ext Q;have T5:=L24d.ext Q;refine⟨xd T5,yb T5,?_⟩;refine cO λb9 w6 zm zf xv D=>?_;have L9:=h5.loc zf zm xv;have h6:=h5.ext D;have P:=T5.ext D;refine⟨xd P,yb P,?_⟩;refine(L8.ext D).st rfl (by simp) λw7 uc F ze=>?_;have h7:=h6.one F (L8.ext D).2;have T7:=P.one F (by omega);refine⟨xd T7,?_⟩;refine(L9.one F (by omega)).st rfl (by simp) λw8 ua T zc=>?_;have h8:=h7.one T (L9.one F (by omega)).2;exact fin h8 ((((he4d.x Q).x D).one F (by omega)).one T (by omega)) ((((L14d.ext Q).ext D).one F (by omega)).one T (by omega)) ((((L4d.ext Q).ext D).one F (by omega)).one T (by omega)) (uc.one T (by omega)) ua (by omega) (by omega) (by omega)
   .refine cO λb9 w5 zm yd xw Q=>?_;have L9:=h4d.loc yd zm xw;have h5:=h4d.ext Q;have T5:=L24d.ext Q;refine⟨xd T5,yb T5,?_⟩;refine cO λb8 w6 zn zf xv D=>?_;have L8:=h5.loc zf zn xv;have h6:=h5.ext D;have P:=T5.ext D;refine⟨xd P,yb P,?_⟩;refine L8.st rfl (by simp) λw7 uc F ze=>?_;have h7:=h6.one F L8.2;have T7:=P.one F (by omega);refine⟨xd T7,?_⟩;refine((L9.ext D).one F (by omega)).st rfl (by simp) λw8 ua T zc=>?_;have h8:=h7.one T ((L9.ext D).one F (by omega)).2;exact fin h8 ((((he4d.x Q).x D).one F (by omega)).one T (by omega)) ((((L14d.ext Q).ext D).one F (by omega)).one T (by omega)) ((((L4d.ext Q).ext D).one F (by omega)).one T (by omega)) (uc.one T (by omega)) ua (by omega) (by omega) (by omega)
  rintro st g w5 ⟨b8,b9,B1,rfl,T5,h5,uw,be,hB8,hB9⟩;simp only[aG,bQ];clear L1 yq L2 L3 L4 vr vq;have yd:=uw.chg.size;generalize hR:mK E (t.t.length+1) s t.t (t.a+1) [] []=R0 at hK ht;refine eK.go (λst W=>st=[]/\∃s1 M1 rest a va vk av ks n,PR w0 W p f M1 vt s1 top/\Gd N s1 i/\Eff p f M M1 w W/\TL w0 W p f M1 vt B1 b2 b7 b8 b9 t.a rest a va vk av ks/\mK E n s1 rest a av ks=R0/\rest.length<n/\ES rest/\0<=a/\a+rest.length+1<=N/\Syn.phi s1+rest.length+1<=100000/\av.length+2*rest.length<=2*t.t.length/\ks.length=av.length)
   (λ_ W=>Tc W b8) ⟨rfl,s,M,t.t,t.a+1,_,_,[],[],t.t.length+1,h5,hg,uw,T5,hR,by omega,hx,by omega,by omega,by omega,by simp,rfl⟩ ?_
  rintro st g2 w6 ⟨rfl,s1,M1,rest,a,va,vk,av,ks,n,h6,yk,zk,P,J,hn,ak,bc,bb,hph,hav,ar⟩;have hw6:=zk.chg.size;refine P.l8.ld rfl ?_;rw[iB,aY];refine⟨λyi=>?_,λyi=>?_⟩
  .obtain⟨n,rfl⟩:∃m,n=m+1:=⟨n-1,by omega⟩;rw[LL yi hn]at J;obtain⟨i1,i2,i3,i4,i5,i6,i7⟩:=Zo ak;have i6:=i6 yi;refine P.l8.ld rfl ?_;refine Bt (by omega) ?_;have hlen:rest.length<=100000:=by omega
   have two:∃u v:Int,Kt rest=[i64 u,i64 v]/\((Syn.insP rest=none/\u=-1)\/(Syn.insP rest≠none/\u=((pZ rest).1:Nat)/\v=((pZ rest).2:Nat))):=by
    unfold pZ Kt;cases hr:Syn.insP rest with
    |none=>exact⟨-1,0,rfl,.inl ⟨rfl,rfl⟩⟩
    |some x=>exact⟨_,_,rfl,.inr ⟨by simp,rfl,rfl⟩⟩
   obtain⟨u,v,bq,um⟩:=two;rw[bq,bX];refine⟨i64 u,rfl,?_⟩;rw[bX];refine⟨i64 v,rfl,?_⟩;refine cO λhf w7 vf ze uz zg=>?_;have h7:=h6.ext zg;have T7:=P.ext zg;have l10:=h6.loc ze vf uz;refine cO λX w8 ve zc uy ye=>?_;have h8:=h7.ext ye;have T8:=T7.ext ye;have b:=h7.loc zc ve uy;have hB6:=P.lt.2.2.2.2;have ys:∀k,va.ownBlock=some k->k<w6.heap.size:=λk hk=>(P.rA.off k hk).1.2;have yr:∀k,vk.ownBlock=some k->k<w6.heap.size:=λk hk=>(P.rK.off k hk).1.2;have A:va.ownBlock≠some hf/\vk.ownBlock≠some hf:=⟨λe=>by have:=ys _ e;omega,λe=>by have:=yr _ e;omega⟩;have o:va.ownBlock≠some X/\vk.ownBlock≠some X:=⟨λe=>by have:=ys _ e;omega,λe=>by have:=yr _ e;omega⟩;refine(l10.ext ye).st rfl (by simp) λw9 l10 xu hz9=>?_;have h9:=h8.one xu l10.2;have T9:=T8.one xu (by omega) A.1 A.2;refine(b.one xu (by omega)).st rfl (by simp) λxi b ho hz10=>?_;have l10:=l10.one ho (by omega);have zt:=h9.one ho b.2;have zz:=T9.one ho (by omega) o.1 o.2;have xt:Eff p f M M1 w xi:=(((zk.x zg).x ye).one xu (by omega)).one ho (by omega);simp only[aP]at l10 b;refine dE.cut (λ_ W=>Loc w0 W p f M1 vt hf mA [i64 ((pZ rest).1:Nat)]/\Loc w0 W p f M1 vt X mA [i64 ((pZ rest).2:Nat)]/\PR w0 W p f M1 vt s1 top/\TL w0 W p f M1 vt B1 b2 b7 b8 b9 t.a rest a va vk av ks/\Eff p f M M1 w W/\xi.heap.size<=W.heap.size) ?_ ?_
   .refine l10.ld rfl ?_;rw[eC,aY];refine⟨λyj=>?_,λzj=>?_⟩
    .have zi:Syn.insP rest=none:=by
      rcases um with h|h
      .exact h.1
      .omega
     have eI:pZ rest=(rest.length,rest.length):=by unfold pZ;rw[zi]
     have zy:=zz.ext (cQ xi);refine zy.l8.ld rfl ?_;rw[eR];refine zy.l8.ld rfl ?_;rw[eR];refine l10.drew.st rfl (by simp) λw12 l10 hz hz12=>?_;have bp:=zt.drew.one hz l10.2;have vm:=zy.one hz (by omega) A.1 A.2;refine⟨vm.l8.ld rfl rfl,?_⟩;have zd:xi.drew.heap.size=xi.heap.size:=rfl;refine(b.drew.one hz (by omega)).st rfl (by simp) λw13 b hw hz13=>?_;have bo:=bp.one hw b.2;have bv:=vm.one hw (by omega) o.1 o.2;have l10:=l10.one hw (by omega);simp only[aP]at l10 b;rw[eI];exact⟨l10,b,bo,bv,((xt.x (cQ _)).one hz (by omega)).one hw (by omega),by omega⟩
    .rcases um with h|⟨_,e1,e2⟩
     .omega
     .rw[e1]at l10;rw[e2]at b;exact⟨l10,b,zt,zz,xt,aQ _⟩
   rintro _ g3 uh ⟨l10,b,vh,vl,xs,hz14⟩;clear xu ho h7 h8 h9 zt T7 T8 T9 zz xt;generalize hI:(pZ rest).1=I at*
   generalize hE':(pZ rest).2=E' at*
   have hw14:=xs.chg.size;refine dE.cut (λ_ W=>∃M2 Z hq,PR w0 W p f M2 vt (Ap s1 rest a) top/\Eff p f M M2 w W/\TL w0 W p f M2 vt B1 b2 b7 b8 b9 t.a rest a Z hq (if 0<I then av++[s1.ex.length]else av) (if 0<I then ks++[[116]]else ks)/\Loc w0 W p f M2 vt hf mA [i64 (I:Nat)]/\Loc w0 W p f M2 vt X mA [i64 (E':Nat)]/\(Z.ownBlock≠some hf/\hq.ownBlock≠some hf)/\(Z.ownBlock≠some X/\hq.ownBlock≠some X)) ?_ ?_
   .refine l10.ld rfl ?_;rw[gG,aY];unfold Ap;rw[hI];refine⟨λxn=>?_,λxn=>?_⟩
    .have xn:0<I:=by omega
     simp only[aO xn];have V:=vl.ext (cQ uh);have yo:=vh.drew;have l10:=l10.drew;have b:=b.drew;rw[bH,bN,aN];refine V.l7.ld rfl ?_;refine V.l2.ld rfl ?_;refine V.l8.ld rfl ?_;refine l10.ld rfl ?_;rw[fH,fF];refine⟨by omega,by omega,?_⟩;rw[fJ,dZ,bD];refine V.l9.ld rfl ?_;refine Nx i3 (by rw[cG];omega) λae hj=>?_;have C:=V.ext hj;have zs:=yo.ext hj;have l10:=l10.ext hj;have b:=b.ext hj;refine⟨C.l9.ld rfl rfl,C.l2.ld rfl rfl,C.l7.ld rfl rfl,?_⟩;simp only[eG,eP,dW,aA,aD,aP,aU,Nat.reduceAdd,Nat.reduceLT,dQ,aZ];have S:=(xs.x (cQ uh)).x hj;refine LA zs S (by have:=yk.ex;omega) λM2 ug zr xq Y yu uj=>?_;have xx:TL w0 ug p f M2 vt B1 b2 b7 b8 b9 t.a rest a va vk av ks:=⟨Y _ _ _ C.l2,Y _ _ _ C.l7,Y _ _ _ C.l8,Y _ _ _ C.l9,yu _ _ _ _ _ _ C.rA,yu _ _ _ _ _ _ C.rK,C.dd,⟨C.lt.1,C.lt.2.1,C.lt.2.2.1,C.lt.2.2.2.1,dN C.lt.2.2.2.2 uj⟩,C.ne⟩;have l10:=Y _ _ _ l10;have b:=Y _ _ _ b;refine⟨xx.l7.ld rfl rfl,?_⟩;refine nU λr ad hr hz18 am G=>?_;have xg:=xx.ext G;refine⟨xg.l7.ld rfl rfl,?_⟩;refine xg.appA (zr.ext G) am (by omega) λZ zb vj bm hm yt=>?_;have n7:=xg.lt.2.1;have xk:Loc w0 zb p f M2 vt hf mA [i64 (I:Nat)]:=⟨hm.at (l10.ext G).1 λe=>e.elim A.1 (by omega),(l10.ext G).2.up hm.size⟩;have xj:Loc w0 zb p f M2 vt X mA [i64 (E':Nat)]:=⟨hm.at (b.ext G).1 λe=>e.elim o.1 (by omega),(b.ext G).2.up hm.size⟩;have bt:Z.ownBlock≠some hf:=λe=>(yt _ e).elim A.1 λe=>by have:=(l10.ext G).lt;omega
     have bs:Z.ownBlock≠some X:=λe=>(yt _ e).elim o.1 λe=>by have:=(b.ext G).lt;omega
     have hw16:=S.chg.size;have yy:Eff p f M M2 w zb:=(xq.x G).then hm λk hk e=>by
      rcases e with e|e
      .have:=P.rA.new k e;omega
      .omega
     rw[bH,bN,aN];refine vj.l7.ld rfl ?_;refine yJ λr2 ac an ui xm j=>?_;have zx:=vj.ext j;refine zx.appK (bm.ext j) xm (by omega) λhq ab zw zq H xl=>?_;have hw19:=yy.chg.size;refine⟨M2,Z,hq,zq,(yy.x j).then H λk hk e=>?_,zw,⟨H.at (xk.ext j).1 λe=>e.elim A.2 (by omega),(xk.ext j).2.up H.size⟩,⟨H.at (xj.ext j).1 λe=>e.elim o.2 (by omega),(xj.ext j).2.up H.size⟩,
      ⟨bt,λe=>(xl _ e).elim A.2 λe=>by have:=(xk.ext j).lt;omega⟩,⟨bs,λe=>(xl _ e).elim o.2 λe=>by have:=(xj.ext j).lt;omega⟩⟩
     rcases e with e|e
     .have:=P.rK.new k e;omega
     .omega
    .simp only[aE (show¬0<I by omega)];exact⟨M1,va,vk,vh,xs,vl,l10,b,A,o⟩
   rintro _ g4 w15 ⟨M2,Z,hq,yo,xr,V,l10,b,A,o⟩;have hs:Gd N (Ap s1 rest a) i/\Syn.phi (Ap s1 rest a)<=Syn.phi s1+I:=by
    unfold Ap;rw[hI];split
    .have hp:=pJ s1 ⟨5,iW (rest.take I),[],[],a⟩;have hp:Syn.phi {s1 with ex:=s1.ex++[⟨5,iW (rest.take I),[],[],a⟩]}<=Syn.phi s1+1:=hp;exact⟨yk.put (by omega),by omega⟩
    .exact⟨yk,by omega⟩
   obtain⟨hs,hp2⟩:=hs;have xa:(if 0<I then av++[s1.ex.length]else av).length<=av.length+(if 0<I then 1 else 0):=by split<;>simp
   have yv:(if 0<I then ks++[[116]]else ks).length=(if 0<I then av++[s1.ex.length]else av).length:=by split<;>simp[ar]
   generalize (if 0<I then av++[s1.ex.length]else av)=av2 at*
   generalize (if 0<I then ks++[[116]]else ks)=ks2 at*
   generalize Ap s1 rest a=s2 at*
   have hw15:=xr.chg.size;refine dE.cut (λ_ W=>∃s3 M3 xc xb hu xe,PR w0 W p f M3 vt s3 top/\Gd N s3 i/\Eff p f M M3 w W/\TL w0 W p f M3 vt B1 b2 b7 b8 b9 t.a rest a xc xb hu xe/\Loc w0 W p f M3 vt X mA [i64 (E':Nat)]/\mK E n s3 (rest.drop E') (a+E') hu xe=R0/\Syn.phi s3+(rest.length-E')+1<=100000/\hu.length+2*(rest.length-E')<=2*t.t.length/\xe.length=hu.length) ?_ ?_
   .refine l10.ld rfl ?_;refine b.ld rfl ?_;rw[eC,aY];refine⟨λyj=>?_,λzj=>?_⟩
    .have yj:I<E':=by omega
     have i5:=i5 yj;rw[aO yj]at J;refine V.l2.ld rfl ?_;refine V.l9.ld rfl ?_;refine l10.ld rfl ?_;rw[cP,fZ (by omega) (by omega)];have hlev:=hs.lev;have uq:=λ(d:Nat) (hd:i=d+1)=>IR (hF.ok N) (s:={s2 with deep:=s2.deep+1,quiet:=false}) (AV hs.ws _ _) (t:=(rest.drop (I+2)).take (E'-1-(I+2))) (a:=a+I+2) (by omega) (by rw[cG,aW];omega);refine tD yo (by omega) (λhd=>ht 7 (a+I) ?_) λhd ae zs S=>?_
     .rw[<-J];unfold within;rw[aO hd];rfl
     obtain⟨d,rfl⟩:∃d,i=d+1:=⟨i-1,by omega⟩;have xo:=hs.frame false;have ul:within s2 (a+I) false (λq=>pF E q ((rest.drop (I+2)).take (E'-1-(I+2))) (a+I+2))=(pF E {s2 with deep:=s2.deep+1,quiet:=false} ((rest.drop (I+2)).take (E'-1-(I+2))) (a+I+2)).bind λx s'=>.ok x {s' with deep:=s2.deep,quiet:=s2.quiet}:=by
      unfold within;rw[aE hd]
     rw[ul]at J;refine iM (caps:=[.pointer (some ⟨b7,0,none⟩),.pointer (some ⟨b2,0,none⟩),.pointer (some ⟨b8,0,none⟩),.pointer (some ⟨hf,0,none⟩),.pointer (some ⟨X,0,none⟩),.pointer (some ⟨b9,0,none⟩)]) ?_;have n7:=V.lt.2.1;have ao:Syn.phi {s2 with deep:=s2.deep+1,quiet:=false}=Syn.phi s2:=rfl;refine aB9 (xr.trans S) (by omega) be hS (hE d rfl) hF zs xo (V.eff S) (l10.eff S) (b.eff S) ⟨A.1,A.2,by omega⟩ ⟨o.1,o.2,by omega⟩ i5 i2 bc bb (by show Syn.phi s2+_<=_;omega) (by split at xa<;>omega) (λx s' yf M3 xc ug zr xq xx k10 yc hno=>?_) λc a' yf=>ht c a' ?_
     .rw[yf]at J;simp only[R.bind]at J;have xf:=uq d rfl;have yh:=Ix hF.z {s2 with deep:=s2.deep+1,quiet:=false} ((rest.drop (I+2)).take (E'-1-(I+2))) (a+I+2);rw[yf]at xf yh;have yh:Syn.phi s'<=Syn.phi s2+((rest.drop (I+2)).take (E'-1-(I+2))).length:=yh;rw[cG,aW]at yh;have uv:Gd N s' d:=⟨xf.1.ws xo.ws,hN,by rw[xf.1.toks];exact xo.few,by rw[xf.1.toks];exact xo.ts,by omega,by rw[xf.1.deep];exact xo.lev⟩;refine⟨M3,s',zr,xf.1.deep,λad bn xp=>?_⟩;have xg:=xx.eff xp;rw[bH,bN,aN];refine xg.l7.ld rfl ?_;refine yJ λr2 ac an ui xm j=>?_;have zx:=xg.ext j;have yc:=(yc.eff xp).ext j;refine zx.appK (bn.ext j) xm (by split at xa<;>omega) λxb ab zw zq H xl=>?_;refine⟨_,M3,xc,xb,av2++[x],ks2++[[101]],zq,hs.back uv,((xq.trans xp).x j).then H λk hk e=>?_,zw,⟨H.at yc.1 λe=>e.elim o.2 (by omega),yc.2.up H.size⟩,J,?_,?_,by simp[yv]⟩
      .rcases e with e|e
       .have:=xx.rK.new k e;omega
       .omega
      .show Syn.phi s'+_+1<=_;omega
      .simp only[aB,aA,aD];split at xa<;>omega
     .rw[yf]at J;rw[<-J];rfl
    .have zj:¬I<E':=by omega
     rw[aE zj]at J;refine⟨s2,M2,Z,hq,av2,ks2,yo,hs,xr,V,b,J,by omega,?_,yv⟩;split at xa<;>omega
   rintro _ g5 za ⟨s3,M3,xc,xb,hu,xe,bk,au,yx,bu,b,us,ap,vg,uu⟩;have B:=bu.ext (cQ za);have b:=b.drew;have bj:=bk.drew;have hw22:=yx.chg.size;refine B.l8.ld rfl ?_;refine b.ld rfl ?_;rw[fH,fJ,fF];refine⟨by omega,by omega,?_⟩;rw[dP,bD];refine B.l9.ld rfl ?_;refine b.ld rfl ?_;rw[cP,fZ (by omega) (by omega)];obtain⟨q1,q2,q3,q4,q5⟩:=B.lt;obtain⟨m1,m2,m3,m4,m5,m6⟩:=B.ne;refine B.l8.st rfl (by simp) λw24 l8 O hz24=>?_;have bi:=bj.one O l8.2;have l9:=B.l9.one O (kY m6);have b:=b.one O (by omega);refine⟨b.ld rfl rfl,l9.ld rfl rfl,?_⟩;refine l9.st rfl (by simp) λaa l9 U hz25=>?_;have bh:=bi.one U l9.2;have l8:=l8.one U m6;simp only[aP]at l8 l9;have vi:TL w0 aa p f M3 vt B1 b2 b7 b8 b9 t.a (rest.drop E') (a+E') xc xb hu xe:=
    ⟨(B.l2.one O m2).one U m3,(B.l7.one O m4).one U m5,l8,l9,(B.rA.one O (B.noA q3).1).one U (B.noA q4).1,(B.rK.one O (B.noA q3).2).one U (B.noA q4).2,B.dd,⟨q1,q2,q3,q4,by omega⟩,B.ne⟩
   have zd:za.drew.heap.size=za.heap.size:=rfl;refine⟨⟨rfl,s3,M3,rest.drop E',a+E',xc,xb,hu,xe,n,bh,au,((yx.x (cQ _)).one O (by omega)).one U (by omega),vi,us,?_,i4,by omega,?_,?_,?_,uu⟩,?_⟩
   .rw[aW];omega
   .rw[aW];omega
   .rw[aW];exact ap
   .rw[aW];exact vg
   .rw[vi.l8.strat,P.l8.strat,aW];omega
  .have ut:rest=[]:=by
    by_cases h:rest=[]
    .exact h
    .exact absurd h yi
   subst ut;obtain⟨n,rfl⟩:∃m,n=m+1:=⟨n-1,by omega⟩;simp only[mK,mE]at J;rw[<-J]at hK ht;refine P.l2.ld rfl ?_;refine gL P.l7.1 rfl ?_;have un:∀k,k∈ub [i64 6,str [],va,vk,i64 t.a]↔va.ownBlock=some k\/vk.ownBlock=some k:=λk=>by
    rw[show [i64 6,str [],va,vk,i64 t.a]=[i64 6,str []]++([va]++([vk]++[i64 t.a]))from rfl];simp only[qE,bM,kM];simp[ub,Value.ownBlock]
   have aq:(ub [i64 6,str [],va,vk,i64 t.a]).Nodup:=by
    rw[show [i64 6,str [],va,vk,i64 t.a]=[i64 6,str []]++([va]++([vk]++[i64 t.a]))from rfl];simp only[qE];rw[show ub [i64 6,str []]=[]from rfl,show ub [i64 t.a]=[]from rfl,dS,dL];exact iE.2 ⟨qQ _,qQ _,λx hx y hy e=>by subst e;exact P.dd x (kM.1 hx) (kM.1 hy)⟩
   refine NQ (e:=⟨6,[],av,ks,t.a⟩) h6 zk ⟨va,vk,rfl,P.rA.own,P.rK.own⟩ (λk hk=>((un k).1 hk).elim (P.rA.off k) (P.rK.off k)) aq (λk hk=>?_) (by have:=yk.ex;omega) λM' w7 h7 ax _=>?_
   .rcases(un k).1 hk with e|e
    .have:=P.rA.new k e;omega
    .have:=P.rK.new k e;omega
   .exact hK _ _ rfl M' w7 h7 ax
end
section
variable [HX]
structure ER(w0 w:World)(p f:Nat)(M:Lay)(vt:Value)(wb:Nat)(e:Ex)(va vk:Value):Prop where
 rA:Ro w0 w p f M vt wb mA 1 va e.args.length (ints e.args)
 rK:Ro w0 w p f M vt wb StT 1 vk e.keys.length (strs e.keys)
 dd:∀k,va.ownBlock=some k->vk.ownBlock≠some k
def exc(e:Ex)(va vk:Value):List Value:=[i64 e.k,str e.t,va,vk,i64 e.a]
section
variable{w0 w w' w1:World}{p f b:Nat}{M M' M0:Lay}{vt:Value}{s:PS}{top:List Nat}{N:Int}{K:Q0}{e:Ex}{va vk:Value}{wbn:Nat}{wb:World}{dl:Nat}
def Qd(h:ER w0 w p f M vt wbn e va vk):(exc e va vk).all kJ=true:=by
 obtain⟨_,_,b,_⟩:=h.rA.own.sl.shape;obtain⟨_,_,a,_⟩:=h.rK.own.sl.shape;subst b a;rfl
def ER.eff(h:ER w0 w p f M vt wbn e va vk)(a:Eff p f M M' w W):ER w0 W p f M' vt wbn e va vk:=⟨h.rA.eff a,h.rK.eff a,h.dd⟩
def ER.one(h:ER w0 w p f M vt wbn e va vk)(a:Chg (One b) w W)(d:va.ownBlock≠some b)(c:vk.ownBlock≠some b):ER w0 W p f M vt wbn e va vk:=⟨h.rA.one a d,h.rK.one a c,h.dd⟩
def Ro.le{xs:List Value}{k:Nat}(h:Ro w0 w p f M vt wbn T m v n xs)(a:k<=wbn):Ro w0 w p f M vt k T m v n xs:=⟨h.own,h.off,λj b=>dN a (h.new j b)⟩
def ER.le{k:Nat}(h:ER w0 w p f M vt wbn e va vk)(a:k<=wbn):ER w0 w p f M vt k e va vk:=⟨h.rA.le a,h.rK.le a,h.dd⟩
def ER.noK(a:e.keys=[])(h:Ro w0 w p f M vt wbn mA 1 va e.args.length (ints e.args)):ER w0 w p f M vt wbn e va (.slice none 0 0):=⟨h,by rw[a];exact Ro.nil _ _,λk _=>by simp[Value.ownBlock]⟩
def ER.leaf(c:e.args=[])(b:e.keys=[]):ER w0 w p f M vt wbn e (.slice none 0 0) (.slice none 0 0):=⟨by rw[c];exact Ro.nil _ _,by rw[b];exact Ro.nil _ _,λk a=>by simp[Value.ownBlock]at a⟩
def SP(e:Ex)(va vk:Value):ub (exc e va vk)=ub [va]++ub [vk]:=by
 rw[show exc e va vk=[i64 e.k,str e.t]++([va]++([vk]++[i64 e.a]))from rfl];simp only[qE];rw[show ub [i64 e.k,str e.t]=[]from rfl,show ub [i64 e.a]=[]from rfl,dS,dL]
def LB(h:PR w0 w p f M vt s top)(q:Eff p f M0 M wb w)(c:ER w0 w p f M vt wb.heap.size e va vk)(o:Gd N s dl)
  (t:∀M' W,PR w0 W p f M' vt {s with ex:=s.ex++[e]} top->Eff p f M0 M' wb W->(∀b T cs,Loc w0 w p f M vt b T cs->va.ownBlock≠some b->vk.ownBlock≠some b->Loc w0 W p f M' vt b T cs)->K (i64 (s.ex.length:Nat)) W):
  aL P0 158 [.pointer (some ⟨p,0,none⟩),.agg (exc e va vk).toArray] w K:=by
 have a:∀k,k∈ub (exc e va vk)↔va.ownBlock=some k\/vk.ownBlock=some k:=λk=>by rw[SP,bM,kM,kM]
 have d:(ub (exc e va vk)).Nodup:=by
  rw[SP];exact iE.2 ⟨qQ _,qQ _,λx l y j e=>by subst e;exact c.dd x (kM.1 l) (kM.1 j)⟩
 refine NQ (e:=e) h q ⟨va,vk,rfl,c.rA.own,c.rK.own⟩ (λk g=>((a k).1 g).elim (c.rA.off k) (c.rK.off k)) d (λk g=>((a k).1 g).elim (c.rA.new k) (c.rK.new k)) (by have:=o.ex;omega) λM' W z i n=>?_;exact t M' W z i λb T cs r v u=>n b T cs r λm=>((a b).1 m).elim v u
theorem VJ{E:PS->R Nat}{x:Str}(hE:EC w0 f 118 E dl)(hF:vP E)(h:PR w0 w p f M vt s top)(hg:Gd N s dl)
  (hK:∀l s',Cx E x s=.ok l s'->∀M' v W,PR w0 W p f M' vt s' top->Gd N s' dl->Eff p f M M' w W->Ro w0 W p f M' vt w.heap.size mA 1 v l.length (ints l)->K v W)(ht:∀c U,Cx E x s=.err c U->Thr w0 f c U):
  aL P0 235 [.pointer (some ⟨p,0,none⟩),str x] w K:=by
 refine aAk ?_;unfold aFZ;unfold Cx at hK ht;generalize hR:qX E x (s.toks.length+1) s []=R0 at hK ht;have hN:=hg.hN;refine eK.go (λst W=>∃v d o out n,st=[v]/\PR w0 W p f o vt d top/\Gd N d dl/\Eff p f M o w W/\Ro w0 W p f o vt w.heap.size mA 1 v out.length (ints out)/\qX E x n d out=R0/\d.toks.length<n+d.i/\out.length<=d.i/\d.toks.length=s.toks.length) (λ_ W=>s.toks.length-CE W p)
  ⟨_,s,M,[],s.toks.length+1,rfl,h,hg,Eff.refl _ _ _ _,Ro.nil _ _,hR,by omega,by simp,rfl⟩ ?_
 rintro st g w2 ⟨v,d,o,out,n,rfl,h2,D,hv,hs,a,hn,ho,hp⟩;have xh:=D.ws.lt;obtain⟨n,rfl⟩:∃m,n=m+1:=⟨n-1,by omega⟩;simp only[aG];refine yL h2 D.ws hN D.l λw3 h3 hc=>?_;simp only[qX]at a;have z:=D.take x;have tg:=nG D.ws x;have C:=hs.eff hc;have t:=hv.trans hc;have xq:=t.chg.size;have more:∀{j:PS} {G:World},PR w0 G p f o vt j top->Gd N j dl->Eff p f M o w G->Ro w0 G p f o vt w.heap.size mA 1 v out.length (ints out)->((E j).bind λx' s'=>qX E x n s' (out++[x']))=R0->d.i<=j.i->j.toks.length=s.toks.length->
   aL P0 118 [.pointer (some ⟨p,0,none⟩)] G λt20 w8=>gP mA 1 [(.int .i64 0)] [(0,1,t20)] w8 λt21 w9=>fV P0 (Builtin.append_ #[26,26] 26 #[v,t21]) w9 λt22 H=>
    (∃v d o out n,[t22]=[v]/\PR w0 H p f o vt d top/\Gd N d dl/\Eff p f M o w H/\Ro w0 H p f o vt w.heap.size mA 1 v out.length (ints out)/\qX E x n d out=R0/\d.toks.length<n+d.i/\out.length<=d.i/\d.toks.length=s.toks.length)/\s.toks.length-CE H p<s.toks.length-CE w2 p:=λ{j G} h4 b A Q B T X=>by
  refine hE G p o vt j top N _ h4 b (λy s5 e5 M5 w5 h5 F=>?_) λc U e5=>ht c U (by rw[<-B,e5];rfl);rw[e5]at B;simp only[R.bind]at B;obtain⟨hb,xt⟩:=b.e hF e5;have xs:s5.toks.length=j.toks.length:=by
   have:=hF.ok N j b.ws;rw[e5]at this;exact congrArg List.length this.1.1.toks
  refine nU λr w6 hr xp hq P=>?_;have h6:=h5.ext P;have Z:=(Q.eff F).ext P;have J:=(A.trans F).x P;refine Ro.app EJ Z h6 hq rfl (λu hu=>by simp only[bO]at hu;subst hu;rfl) (by have:=b.few;have:=b.ws.lt;omega) (by decide) J.chg.size λv' w7 hx hw xr h7=>?_;have xg:=hb.ws.lt;refine⟨⟨v',s5,M5,out++[y],n,rfl,h7,hb,J.then hw λk hk e=>by have:=Z.new k e;omega,?_,B,by omega,by rw[aB,aA,aD];omega,by omega⟩,?_⟩
  .rw[aB,aA,aD,GZ];exact hx
  .rw[h7.at_,h2.at_];omega
 have Y:(cN d x).2.toks.length=s.toks.length:=by rw[tg.1.toks];exact hp
 rw[gK,fC];refine⟨λS=>?_,λO=>?_⟩
 .have S:(cN d x).1=false:=by simpa using S
  rw[aE (by rw[S];decide)]at a;by_cases q:out=[]
  .rw[aO q]at a;refine dE.cut (λ_ W=>W=w3) ?_ ?_
   .rw[gQ C.own.sl,gG,aY];exact⟨λe=>by rw[q]at e;simp at e,λ_=>rfl⟩
   rintro _ g2 G rfl;exact more h3 z t C a tg.1.le Y
  .rw[aE q]at a;have xf:0<out.length:=iO.2 q;refine dE.cut (λ_ W=>∃j,PR w0 W p f o vt j top/\Gd N j dl/\Eff p f M o w W/\Ro w0 W p f o vt w.heap.size mA 1 v out.length (ints out)/\((E j).bind λx' s'=>qX E x n s' (out++[x']))=R0/\d.i<=j.i/\j.toks.length=s.toks.length) ?_ ?_
   .rw[gQ C.own.sl,gG,aY];refine⟨λ_=>?_,λe=>absurd (by omega) e⟩;refine AX h3 z.ws hN z.l (λj e4 G h4 A=>?_) λc U e4=>ht c U (by rw[<-a,e4];rfl);rw[e4]at a;simp only[R.bind]at a;obtain⟨b,T,_⟩:=z.want e4;have I:=oW z.ws [44];rw[e4]at I;refine yL h4 b.ws hN b.l λw5 h5 F=>?_;have ha:=(C.eff A).eff F;have L:=(t.trans A).trans F;have V:=nG b.ws x;rw[fC];refine⟨λhy=>?_,λhy=>?_⟩
    .rw[aO hy]at a;exact hK out _ a.symm o v w5 h5 (b.take x) L ha
    .rw[aE (by rw[hy];decide)]at a;exact⟨_,h5,b.take x,L,ha,a,by have:=tg.1.le;have:=V.1.le;omega,by rw[V.1.toks,I.1.1.toks];exact Y⟩
   rintro _ g2 G ⟨j,h4,b,A,Q,B,T,X⟩;exact more h4 b A Q B T X
 .have O:(cN d x).1=true:=by simpa using O
  rw[aO O]at a;exact hK out _ a.symm o v w3 h3 z t C
end
end
section
variable [HX]
variable{w0 w w' w1:World}{p f b:Nat}{M M' M0:Lay}{vt:Value}{s:PS}{top:List Nat}{N:Int}{K:Q0}{e:Ex}{va vk:Value}{wbn:Nat}{wb:World}{dl:Nat}
def NC(j:PR w0 w p f M vt s top)(g:Loc w0 w p f M vt b ExT cs)(k:cs.length=5)(h:ER w0 w p f M vt wbn e va vk)(m:va.ownBlock≠some b)(c:vk.ownBlock≠some b)
  (l:∀W,PR w0 W p f M vt s top->Chg (One b) w W->ER w0 W p f M vt wbn e va vk->K (.agg (exc e va vk).toArray) W):
  stW 5 (.pointer (some ⟨b,0,none⟩)) (.agg (exc e va vk).toArray) w λd=>ldW true 5 (.pointer (some ⟨b,0,none⟩)) d λi=>K i d:=
 Am g.1 rfl k (Qd h) λW a=>l W (j.one a g.2) a (h.one a m c)
theorem Qo{x:Nat}{k:Int}{l:Str}{av:List Nat}{KW:World->Prop}(D:Loc w0 w p f M vt b ExT [i64 k,str l,va,vk,i64 a])(n:Ro w0 w p f M vt wbn mA 1 va av.length (ints av))(B:PR w0 w p f M vt s top)(A:w.heap[r]?=some (.cells [i64 (x:Nat)].toArray mA (0,0)))
  (C:av.length<=1000000)(H:b<wbn)(y:wbn<=w.heap.size)
  (E:∀d W,Loc w0 W p f M vt b ExT [i64 k,str l,d,vk,i64 a]->Ro w0 W p f M vt wbn mA 1 d (av++[x]).length (ints (av++[x]))->PR w0 W p f M vt s top->Chg (λk=>va.ownBlock=some k\/k=b) w W->(∀k,d.ownBlock=some k->va.ownBlock=some k\/w.heap.size<=k)->KW W):
  fV P0 (Builtin.append_ #[26,26] T #[va,.slice (some ⟨r,0,none⟩) 1 1]) w λt62 h=>bF 2 (.pointer (some ⟨b,0,none⟩)) λt63=>stW 1 t63 t62 h KW:=by
 refine Ro.app EJ n B A rfl (λu j=>by simp only[bO]at j;subst j;rfl) C (by decide) y λt w2 c m z i=>?_;have F:(av++[x]).length=av.length+1:=by simp
 rw[<-F,show ints av++[i64 (x:Nat)]=ints (av++[x])from by simp[ints]]at c;rw[bH,bN,aN];obtain⟨vp,G,ev,_⟩:=c.own.sl.shape;refine(D.row m λe=>by have:=n.new b e;omega).st (by rw[ev];rfl) (by simp) λq o g v=>?_;exact E t q o (c.one g λe=>by have:=c.new b e;omega) (i.one g o.2) ((m.mono λk _ e=>.inl e).trans (g.mono λk _ e=>.inr e)) z
theorem aDM{E:PS->R Nat}{t:Tok}(hE:EC w0 f 118 E dl)(hF:vP E)(h:PR w0 w p f M vt s top)(hg:Gd N s dl)(zj:(cur s).k≠0)(yb:bK s=s)
  (F:∀e s',xE E s t.a=.ok e s'->∀M' va vk W,PR w0 W p f M' vt s' top->Gd N s' dl->Eff p f M M' w W->ER w0 W p f M' vt w.heap.size e va vk->K (.agg (exc e va vk).toArray) W)(n:∀c I,xE E s t.a=.err c I->Thr w0 f c I):
  aL P0 238 [.pointer (some ⟨p,0,none⟩),.agg (kB t).toArray] w K:=by
 refine aAh ?_;unfold aFW;have hN:=hg.hN;have hn:Gd N (step1 s) dl:=by have:=hg.step zj;rw[yb]at this;exact this
 refine gF (z:=kB t) λb3 w1 zo yz yj xz=>?_;have h1:=h.ext xz;have i:=h.loc yz zo yj;refine cO λb4 w2 zn yy yi xe=>?_;have h2:=h1.ext xe;have b:=h1.loc yy zn yi;have i:=i.ext xe;have zh:Eff p f M M w w2:=(Eff.ext xz).x xe;refine h2.go (wsi hg.ws hg.l) λw3 h3 ha vd=>?_;have i:=i.eff ha;have b:=b.eff ha;have ha:=zh.trans ha;refine rW h3 hn.ws hN hn.l λw4 h4 U=>?_;have i:=i.eff U;have b:=b.eff U;have U:=ha.trans U;have uz:=i.lt;have yw:=b.lt;refine cO λb5 w5 zm yx yh hm=>?_;have h5:=h4.ext hm;have L5:=h4.loc yx zm yh;have i:=i.ext hm;have b:=b.ext hm;have zg:=U.x hm;have vg:=U.chg.size;refine dH (l:=kB (cur (step1 s))) L5.1 rfl rfl rfl λw6 vc zl ho=>?_;have L5:Loc w0 w6 p f M vt b5 TkT (kB (cur (step1 s))):=⟨zl,L5.2.up (by omega)⟩;have h6:=h5.one ho L5.2;have i:=i.one ho (by omega);have b:=b.one ho (by omega);have xj:=zg.one ho (by omega);have vf:=xj.chg.size;have xh:=hn.now;refine L5.ldf rfl ?_;rw[fR];simp only[jV];refine GdW.look (decide ((cur (step1 s)).t≠tX)) (λ_ J hJ=>?_) λg=>?_
 .refine L5.ldf rfl ?_;rw[iB];exact hJ
 simp only[aG];rw[mJ,fC];unfold xE at F n;simp only at F n;refine⟨λxk=>?_,λxk=>?_⟩
 .have hc:(cur (step1 s)).k≠1\/(cur (step1 s)).t≠tX:=by simpa using xk
  rw[aO hc]at F n;have i:=i.drew;rw[bH,bN,aN];refine i.ld rfl ?_;refine VJ hE hF h6.drew xh (λl s' el M' v w7 h7 zf m xf=>?_) λc I el=>n c I (by rw[el];rfl);rw[el]at F;simp only[R.bind]at F;have i:=i.eff m;refine⟨i.ld rfl rfl,?_⟩;obtain⟨q,cap,ev,_⟩:=xf.own.sl.shape;subst ev;simp only[eG,fD,dW,aA,aD,aP,aU,Nat.reduceAdd,Nat.reduceLT,dQ,aZ];have zd:w6.drew.heap.size=w6.heap.size:=rfl;have zq:ER w0 w7 p f M' vt w6.heap.size ⟨7,[],l,[],t.a⟩ (.slice q l.length cap) (.slice none 0 0):=ER.noK rfl xf;refine NC (e:=⟨7,[],l,[],t.a⟩) h7 (b.drew.eff m) rfl zq (λe=>by have:=xf.new _ e;omega) (by simp[Value.ownBlock]) λw8 h8 zi zr=>?_;exact F _ _ rfl M' _ _ w8 h8 zf (((xj.x (cQ w6)).trans m).one zi (by omega)) (zr.le (by omega))
 .have hc:¬((cur (step1 s)).k≠1\/(cur (step1 s)).t≠tX):=by simpa using xk
  rw[aE hc]at F n;have ze:(cur (step1 s)).k≠0:=λe=>hc (.inl (by rw[e];decide));have T:=hn.step ze;refine h6.go (wsi xh.ws xh.l) λw7 h7 m vb=>?_;have i:=i.eff m;have b:=b.eff m;have m:=xj.trans m;refine dE.cut (λst W=>∃b6 u s2,st=[.pointer (some ⟨b6,0,none⟩)]/\mT (step1 (bK (step1 s))) 1=.ok u s2/\PR w0 W p f M vt s2 top/\Gd N s2 dl/\Eff p f M M w W/\Loc w0 W p f M vt b6 ExT [i64 29,str u.t,.slice none 0 0,.slice none 0 0,i64 t.a]/\Loc w0 W p f M vt b4 ExT [.int .i64 0,.string (ofL []),.slice none 0 0,.slice none 0 0,.int .i64 0]/\b4<b6/\w.heap.size<=b6) ?_ ?_
  .have i:=i.drew;have b:=b.drew;have h7:=h7.drew;have m:=m.x (cQ w7);have zd:w7.drew.heap.size=w7.heap.size:=rfl;have hl:∀{W:World},Loc w0 W p f M vt b3 TkT (kB t)->ldW false 1 (.pointer (some ⟨b3,2,none⟩)) W λx=>x=i64 t.a:=λL=>L.ld rfl rfl;rw[bH,bN,aN];refine i.ld rfl ?_;refine⟨?_,?_⟩
   .refine Bs h7 T.ws hN T.l (λu s2 eu w8 h8 j=>?_) λc I eu=>n c I (by rw[eu];rfl);have i:=i.eff j;have b:=b.eff j;have j:=m.trans j;refine⟨hl i,str u.t,rfl,?_⟩;simp only[eG,eP,dW,aA,aD,aP,aU,Nat.reduceAdd,Nat.reduceLT,dQ,aZ];refine cO λb6 w9 he xd hd G=>?_;have d:=h8.loc xd he hd;refine⟨hl (i.ext G),?_⟩;refine dH (l:=[i64 29,str u.t,.slice none 0 0,.slice none 0 0,i64 t.a]) d.1 rfl rfl rfl λxb X C B=>?_;have xx:=b.lt;have za:=j.chg.size;exact⟨b6,u,s2,rfl,eu,(h8.ext G).one B d.2,(T.kind (by decide) eu).1,(j.x G).one B (by omega),⟨C,d.2.up (by omega)⟩,(b.ext G).one B (by omega),by omega,by omega⟩
   .refine cO λb6 w9 he xd hd G=>?_;have d:=h7.loc xd he hd;have i:=i.ext G;have xx:=b.lt;have za:=m.chg.size;refine⟨hl i,?_⟩;refine Bs (h7.ext G) T.ws hN T.l (λu s2 eu w8 h8 j=>?_) λc I eu=>n c I (by rw[eu];rfl);have i:=i.eff j;have b:=(b.ext G).eff j;have d:=d.eff j;have j:=(m.x G).trans j;refine⟨hl i,str u.t,rfl,?_⟩;simp only[eG,eP,dW,aA,aD,aP,aU,Nat.reduceAdd,Nat.reduceLT,dQ,aZ];refine dH (l:=[i64 29,str u.t,.slice none 0 0,.slice none 0 0,i64 t.a]) d.1 rfl rfl rfl λxb X C B=>?_;exact⟨b6,u,s2,rfl,eu,h8.one B d.2,(T.kind (by decide) eu).1,j.one B (by omega),⟨C,d.2.up (by omega)⟩,b.one B (by omega),by omega,by omega⟩
  rintro st g2 w8 ⟨b6,u,s2,rfl,eu,h8,xi,j,d,b,ul,ug⟩;simp only[aG];rw[eu]at F n;simp only[R.bind]at F n;refine dE.cut (λ_ W=>∃v s3,mT s2 1=.ok v s3/\v.t=kIn/\PR w0 W p f M vt s3 top/\Gd N s3 dl/\Eff p f M M w8 W) ?_ ?_
  .refine Bs h8 xi.ws hN xi.l (λv s3 ev w9 h9 H=>?_) λc I ev=>n c I (by rw[ev]);refine cO λb7 xb zk X C hs=>?_;have xo:=h9.ext hs;have L7:=h9.loc X zk C;refine dH (l:=kB v) L7.1 rfl rfl rfl λhi xy xl hx=>?_;have L7:Loc w0 hi p f M vt b7 TkT (kB v):=⟨xl,L7.2.up (by omega)⟩;have hp:=xo.one hx L7.2;have z9:=H.chg.size;refine L7.ldf rfl ?_;rw[iB,aY];refine⟨λxg=>?_,λxg=>⟨v,s3,ev,?_,hp,(xi.kind (by decide) ev).1,(H.x hs).one hx (by omega)⟩⟩
   .refine L7.ldf rfl ?_;exact uM hp (n _ _ (by rw[ev];simp only;exact aO xg))
   .by_cases h:v.t=[105,110]
    .exact h
    .exact absurd h xg
  rintro _ g3 w9 ⟨v,s3,ev,zb,h9,yc,H⟩;rw[ev]at F n;simp only[aE (show¬v.t≠kIn fromλh=>h zb)]at F n;have d:=(d.eff H).drew;have b:=(b.eff H).drew;have h9:=h9.drew;have H:=(j.trans H).x (cQ w9);have zd:w9.drew.heap.size=w9.heap.size:=rfl;have ve:=H.chg.size;have xw:=d.lt;rw[bH,bN,aN];refine d.ld rfl ?_;refine hE w9.drew p M vt s3 top N _ h9 yc (λx s4 ex M4 xb xo P=>?_) λc I ex=>n c I (by rw[ex]);rw[ex]at F n;simp only at F n;obtain⟨Z,_⟩:=yc.e hF ex;have d:=d.eff P;have b:=b.eff P;have P:=H.trans P;refine⟨d.ld rfl rfl,?_⟩;refine nU λr hi hr xy zc Q=>?_;have d:=d.ext Q;have b:=b.ext Q;have hp:=xo.ext Q;have hw:=P.x Q;have ui:=hw.chg.size;have xw:=d.lt;have yw:=b.lt;refine⟨d.ld rfl rfl,?_⟩;refine Qo (wbn:=hi.heap.size) (av:=[]) d (Ro.nil _ _) hp zc (by simp) xw (aQ _) λux yv d ym zy S uk=>?_;have hv:=hw.then S λk hk e=>by
   rcases e with e|e
   .simp[Value.ownBlock]at e
   .omega
  have uh:=hv.chg.size;have b:Loc w0 yv p f M4 vt b4 ExT [.int .i64 0,.string (ofL []),.slice none 0 0,.slice none 0 0,.int .i64 0]:=⟨S.at b.1 λe=>e.elim (by simp[Value.ownBlock]) (by omega),b.2.up S.size⟩;have uf:=S.size;refine AX zy Z.ws hN Z.l (λs5 e5 V xn A=>?_) λc I e5=>n c I (by rw[e5]);rw[e5]at F n;simp only at F n;obtain⟨hu,_⟩:=Z.want e5;have d:=(d.eff A).drew;have b:=(b.eff A).drew;have yl:=(ym.eff A).ext (cQ V);have xn:=xn.drew;have ua:V.drew.heap.size=V.heap.size:=rfl;have ue:=A.chg.size;have A:=(hv.trans A).x (cQ V);rw[bH,bN,aN];refine d.ld rfl ?_;refine hE V.drew p M4 vt s5 top N _ xn hu (λy s6 ey M6 uv zx o=>?_) λc I ey=>n c I (by rw[ey]);rw[ey]at F n;simp only at F n;obtain⟨Y,_⟩:=hu.e hF ey;have d:=d.eff o;have b:=b.eff o;have hf:=yl.eff o;have ud:=o.chg.size;have o:=A.trans o;refine⟨d.ld rfl rfl,?_⟩;refine nU λr2 uu vh uc ya O=>?_;have d:=d.ext O;have b:=b.ext O;have zw:=zx.ext O;have yf:=o.x O;refine⟨d.ld rfl rfl,?_⟩;refine Qo (wbn:=hi.heap.size) (av:=[x]) d (hf.ext O) zw ya (by simp) (by omega) (by omega) λuw yu d yk zv hb uj=>?_;have ye:=yf.then hb λk hk e=>by
   rcases e with e|e
   .have:=hf.new k e;omega
   .omega
  have b:Loc w0 yu p f M6 vt b4 ExT [.int .i64 0,.string (ofL []),.slice none 0 0,.slice none 0 0,.int .i64 0]:=⟨hb.at b.1 λe=>e.elim (λe=>by have:=hf.new _ e;omega) (by omega),b.2.up hb.size⟩;refine AX zv Y.ws hN Y.l (λs7 e7 ut zu D=>?_) λc I e7=>n c I (by rw[e7]);rw[e7]at F;simp only at F;obtain⟨yd,_⟩:=Y.want e7;have d:=d.eff D;have b:=b.eff D;have hy:=yk.eff D;have D:=ye.trans D;refine gL d.1 rfl ?_;refine NC (e:=⟨29,u.t,[x,y],[],t.a⟩) zu b rfl (ER.noK rfl hy) (λe=>by have:=hy.new _ e;omega) (by simp[Value.ownBlock]) λyt zt yg yn=>?_;exact F _ _ rfl M6 _ _ yt zt yd (D.one yg (by omega)) (yn.le (by omega))
end
def Gd.tx{N:Int}{s:PS}(h:Gd N s i)(c:(cur s).k=3):ES (cur s).t/\(cur s).t.length<=100000:=by
 have a:=h.now;have b:=bA (AZ a.ws);have:=a.ts _ b (show(pH (bK s)).k=3 from c);exact this
section
variable [HX]
variable{w0 w w' w1:World}{p f b:Nat}{M M' M0:Lay}{vt:Value}{s:PS}{top:List Nat}{N:Int}{K:Q0}{e:Ex}{va vk:Value}{wbn:Nat}{wb:World}{dl:Nat}
theorem Uc{E:PS->R Nat}{t:Tok}(hE:EC w0 f 118 E dl)(hF:vP E)(h:PR w0 w p f M vt s top)(hg:Gd N s dl)(uo:(cur s).k≠0)(yz:bK s=s)
  (hK:∀e s',GK E s t.a=.ok e s'->∀M' va vk W,PR w0 W p f M' vt s' top->Gd N s' dl->Eff p f M M' w W->ER w0 W p f M' vt w.heap.size e va vk->K (.agg (exc e va vk).toArray) W)(ht:∀c a',GK E s t.a=.err c a'->Thr w0 f c a'):
  aL P0 240 [.pointer (some ⟨p,0,none⟩),.agg (kB t).toArray] w K:=by
 refine aAf ?_;unfold aFU;have hN:=hg.hN;have xc:Gd N (step1 s) dl:=by have:=hg.step uo;rw[yz]at this;exact this
 refine gF (z:=kB t) λb3 w1 ut uc zi yr=>?_;have h1:=h.ext yr;have L3:=h.loc uc ut zi;refine cO λb4 w2 us ub zh xx=>?_;have h2:=h1.ext xx;have o:=h1.loc ub us zh;have L3:=L3.ext xx;have um:Eff p f M M w w2:=(Eff.ext yr).x xx;refine h2.go (wsi hg.ws hg.l) λw3 h3 he bm=>?_;have L3:=L3.eff he;have o:=o.eff he;have he:=um.trans he;refine L3.ldf rfl ?_;simp only[eG,eP,dW,aA,aD,aP,aU,Nat.reduceAdd,Nat.reduceLT,dQ,aZ];have yo:=o.lt;refine cO λb5 w4 ur ua zg xw=>?_;have j:=h3.loc ua ur zg;have h4:=h3.ext xw;have o:=o.ext xw;refine dH (l:=[i64 8,str [],.slice none 0 0,.slice none 0 0,i64 t.a]) j.1 rfl rfl rfl λw5 bl zf ya=>?_;have j:Loc w0 w5 p f M vt b5 ExT [i64 8,str [],.slice none 0 0,.slice none 0 0,i64 t.a]:=⟨zf,j.2.up (by omega)⟩;have h5:=h4.one ya j.2;have o:=o.one ya (by omega);have ul:Eff p f M M w w5:=(he.x xw).one ya (by have:=he.chg.size;omega);refine Cc h5 xc.ws hN xc.l λw6 h6 ho=>?_;have o:=o.eff ho;have j:=j.eff ho;have ho:=ul.trans ho;have V:=xc.lines;unfold GK at hK ht;generalize hR:Ar E t.a (s.toks.length+1) (hY (step1 s)) [] []=R0 at hK ht;have bn:=ho.chg.size;obtain⟨B1,bz⟩:∃B1,B1=w6.heap.size:=⟨_,rfl⟩;have zz:=j.lt;have yo:=o.lt;have bo:=he.chg.size;have yw:(hY (step1 s)).toks.length=s.toks.length:=congrArg List.length ((nS xc.ws).1.toks);refine eK.go (λst W=>st=[]/\∃s1 Q av ks va vk n,PR w0 W p f Q vt s1 top/\Gd N s1 dl/\Eff p f M Q w W/\Loc w0 W p f Q vt b5 ExT [i64 8,str [],va,vk,i64 t.a]/\Loc w0 W p f Q vt b4 ExT [.int .i64 0,.string (ofL []),.slice none 0 0,.slice none 0 0,.int .i64 0]/\
   Ro w0 W p f Q vt B1 mA 1 va av.length (ints av)/\Ro w0 W p f Q vt B1 StT 1 vk ks.length (strs ks)/\(∀k,va.ownBlock=some k->vk.ownBlock≠some k)/\B1<=W.heap.size/\Ar E t.a n s1 av ks=R0/\s1.toks.length<n+s1.i/\av.length<=s1.i/\ks.length=av.length/\s1.toks.length=s.toks.length) (λ_ W=>s.toks.length-CE W p)
  ⟨rfl,_,M,[],[],_,_,s.toks.length+1,h6,V,ho,j,o,Ro.nil _ _,Ro.nil _ _,λk hk=>by simp[Value.ownBlock]at hk,by omega,hR,by omega,by simp,rfl,yw⟩ ?_
 rintro st g w7 ⟨rfl,s1,Q,av,ks,va,vk,n,h7,U,uk,j,o,rA,rK,dd,bk,d,hn,bv,uj,bp⟩;have ak:=U.ws.lt;obtain⟨n,rfl⟩:∃m,n=m+1:=⟨n-1,by omega⟩;refine yL h7 U.ws hN U.l λw8 h8 P=>?_;have o:=o.eff P;have j:=j.eff P;have rA:=rA.eff P;have rK:=rK.eff P;have bj:=P.chg.size;have P:=uk.trans P;have hd:=U.take [125];have tg:=nG U.ws [125];have bf:=congrArg List.length tg.1.toks;simp only[Ar]at d;rw[gK,fC];refine⟨λxy=>?_,λxv=>?_⟩
 .have xy:(cN s1 [125]).1=false:=by simpa using xy
  rw[aE (by rw[xy];decide)]at d;generalize bq:(cN s1 [125]).2=s2 at*
  refine NY h8 hd.ws hN hd.l λw9 h9 B=>?_;have o:=o.eff B;have j:=j.eff B;have rA:=rA.eff B;have rK:=rK.eff B;have bi:=B.chg.size;have B:=P.trans B;have xb:=hd.next;have ng:=wH hd.ws;have bg:=congrArg List.length ng.1.toks;have bt:=hd.at0;have zz:=j.lt;have yo:=o.lt;refine cO λb6 bc uq yq yc F=>?_;have S:=h9.loc yq uq yc;have vi:=h9.ext F;have o:=o.ext F;have j:=j.ext F;have ym:va.ownBlock≠some b6:=λe=>by have:=(rA.off _ e).1.2;omega
  have yk:vk.ownBlock≠some b6:=λe=>by have:=(rK.off _ e).1.2;omega
  have rA:=rA.ext F;have rK:=rK.ext F;refine dH (l:=kB (cur s2)) S.1 rfl rfl rfl λxt ag yb I=>?_;have S:Loc w0 xt p f Q vt b6 TkT (kB (cur s2)):=⟨yb,S.2.up (by omega)⟩;have xh:=vi.one I S.2;have o:=o.one I (by omega);have j:=j.one I (by omega);have rA:=rA.one I ym;have rK:=rK.one I yk;have hv:Eff p f M Q w xt:=(B.x F).one I (by have:=B.chg.size;omega);have aj:=hv.chg.size;refine dE.cut (λ_ W=>∃k s3,(if(cur s2).k=3 then qG (kP s2) (cur s2)else if(cur s2).k=1 then .ok (cur s2).t (kP s2)else .err 50 (cur s2).a)=.ok k s3/\s3=kP s2/\PR w0 W p f Q vt (kP s2) top/\Loc w0 W p f Q vt b6 TkT [i64 (cur s2).k,str k,i64 (cur s2).a]/\Eff p f M Q w W/\Loc w0 W p f Q vt b5 ExT [i64 8,str [],va,vk,i64 t.a]/\Loc w0 W p f Q vt b4 ExT [.int .i64 0,.string (ofL []),.slice none 0 0,.slice none 0 0,.int .i64 0]/\Ro w0 W p f Q vt B1 mA 1 va av.length (ints av)/\Ro w0 W p f Q vt B1 StT 1 vk ks.length (strs ks)/\xt.heap.size<=W.heap.size) ?_ ?_
  .refine S.ldf rfl ?_;rw[bW,aY];refine⟨λhi=>?_,λhi=>?_⟩
   .have ue:=hd.tx hi;rw[aO hi]at d;refine gL S.1 rfl ?_;refine Pu xh ue.1 (by omega) (λl s3 el yh y=>?_) λc a' el=>ht c a' (by rw[<-d,el];rfl);rw[bH,bN,aN];refine(S.ext y).st rfl (by simp[kB]) λzx S H ae=>?_;have vh:=(xh.ext y).one H S.2;have e3:s3=kP s2:=by
     unfold qG at el;split at el
     .cases el
     .injection el with _ el;exact el.symm
    exact⟨l,s3,by rw[aO hi];exact el,e3,vh,S,(hv.x y).one H (by have:=B.chg.size;omega),(j.ext y).one H (by omega),(o.ext y).one H (by omega),(rA.ext y).one H ym,(rK.ext y).one H yk,by have:=y.size;omega⟩
   .rw[bW,aY];refine⟨λxz=>?_,λxz=>?_⟩
    .exact⟨_,_,by rw[aE hi,aO xz],rfl,xh,S,hv,j,o,rA,rK,aQ _⟩
    .refine S.ldf rfl ?_;refine uM xh (ht 50 (cur s2).a ?_);rw[<-d,aE hi,aE xz];rfl
  rintro _ g2 yh ⟨k,s3,ek,rfl,zm,S,ze,j,o,rA,rK,af⟩;rw[ek]at d;simp only[R.bind]at d;refine dE.cut (λ_ W=>W=yh/\ks.contains k=false) ?_ ?_
  .rw[bH,bN,aN];refine j.ld rfl ?_;refine S.ldf rfl ?_;refine BC rK.own.sl (by have:=U.few;omega) ?_;rw[aY];refine⟨λhm=>?_,λhm=>⟨rfl,by simpa using hm⟩⟩;refine S.ldf rfl ?_;refine uM zm (ht 2 (cur s2).a ?_);rw[<-d,aO (by simpa using hm)]
  rintro _ g3 zx ⟨rfl,ug⟩;rw[aE (by rw[ug];decide)]at d;refine AX zm xb.ws hN xb.l (λs4 e4 hp yd q=>?_) λc a' e4=>ht c a' (by rw[<-d,e4]);rw[e4]at d;simp only at d;obtain⟨hs,am,_⟩:=xb.want e4;have w14s:=oW xb.ws [61];rw[e4]at w14s;have w14t:=congrArg List.length w14s.1.1.toks;have o:=(o.eff q).drew;have j:=(j.eff q).drew;have S:=(S.eff q).drew;have rA:=(rA.eff q).ext (cQ hp);have rK:=(rK.eff q).ext (cQ hp);have ad:=q.chg.size;have vn:hp.drew.heap.size=hp.heap.size:=rfl;have q:=(ze.trans q).x (cQ hp);have yd:=yd.drew;rw[bH,bN,aN];refine j.ld rfl ?_;refine S.ldf rfl ?_;rw[bH,bN,aN];refine j.ld rfl ?_;refine yJ λr bb hr ac uf D=>?_;have o:=o.ext D;have j:=j.ext D;have rA:=rA.ext D;have rK:=rK.ext D;have vg:=yd.ext D;have xp:=q.x D;have ai:=xp.chg.size;refine⟨j.ld rfl rfl,j.ld rfl rfl,?_⟩;refine Ro.app DY rK vg uf rfl (λu hu=>by simp only[bO]at hu;subst hu;rfl) (by have:=U.few;omega) (by decide) (by omega) λhx zw zy ha yu vf=>?_;have j:=j.row ha λe=>by have:=rK.new b5 e;omega
  have o:=o.row ha λe=>by have:=rK.new b4 e;omega
  have zp:∀k,va.ownBlock=some k->hx.ownBlock≠some k:=λk hk e=>(yu k e).elim (dd k hk) λe=>by have:=(rA.off k hk).1.2;omega
  have rA:=rA.row ha dd;have zd:=xp.then ha λk hk e=>by have:=rK.new k e;omega
  have ab:=ha.size;refine⟨j.ld rfl rfl,?_⟩;rw[bH,bN,aN];refine hE zw p Q vt s4 top N _ vf hs (λx O ex M5 ba ve A=>?_) λc a' ex=>ht c a' (by rw[<-d,ex]);rw[ex]at d;simp only at d;obtain⟨hf,al⟩:=hs.e hF ex;have e17t:=hF.ok N s4 hs.ws;rw[ex]at e17t;have e17t:=congrArg List.length e17t.1.1.toks;have o:=o.eff A;have j:=j.eff A;have rA:=rA.eff A;have rK:=zy.eff A;have aa:=A.chg.size;have A:=zd.trans A;refine⟨j.ld rfl rfl,?_⟩;refine nU λr2 az br vz yx C=>?_;have o:=o.ext C;have j:=j.ext C;have rA:=rA.ext C;have rK:=rK.ext C;have vd:=ve.ext C;have xo:=A.x C;have ah:=xo.chg.size;refine⟨j.ld rfl rfl,?_⟩;refine Ro.app EJ rA vd yx rfl (λu hu=>by simp only[bO]at hu;subst hu;rfl) (by have:=U.few;omega) (by decide) (by omega) λxu ay yj Z yt vb=>?_;have j:=j.row Z λe=>by have:=rA.new b5 e;omega
  have o:=o.row Z λe=>by have:=rA.new b4 e;omega
  have vm:∀k,xu.ownBlock=some k->hx.ownBlock≠some k:=λk hk e=>(yt k hk).elim (λh=>zp k h e) λh=>by have:=(rK.off k e).1.2;omega
  have rK:=rK.row Z λk hk e=>zp k e hk;have zc:=xo.then Z λk hk e=>by have:=rA.new k e;omega
  have vy:=Z.size;obtain⟨vp,vc,ev,_⟩:=rK.own.sl.shape;refine j.st (by rw[ev];rfl) (by simp) λax j Y vx=>?_;have uz:=vb.one Y j.2;have o:=o.one Y (by omega);have yn:xu.ownBlock≠some b5:=λe=>by have:=yj.new b5 e;omega
  have yl:hx.ownBlock≠some b5:=λe=>by have:=rK.new b5 e;omega
  have rA:=yj.one Y yn;have rK:=rK.one Y yl;rw[bH,bN,aN];obtain⟨bd,be,vj,_⟩:=rA.own.sl.shape;refine j.st (by rw[vj];rfl) (by simp) λxs j X vw=>?_;have uy:=uz.one X j.2;have o:=o.one X (by omega);have rA:=rA.one X yn;have rK:=rK.one X yl;have ys:w.heap.size<=b5:=by omega
  have zb:=(zc.one Y ys).one X ys;simp only[aP,aU]at j;have hl:=hf.take [44];have yi:=nG hf.ws [44];have tg5t:=congrArg List.length yi.1.toks;refine dE.cut (λ_ W=>∃s6,(s6=(cN O [44]).2\/s6=bK (cN O [44]).2)/\Ar E t.a n (hY s6) (av++[x]) (ks++[k])=R0/\PR w0 W p f M5 vt s6 top/\Eff p f M5 M5 xs W) ?_ ?_
  .refine yL uy hf.ws hN hf.l λzv xg hh=>?_;rw[gK];simp only[gX];by_cases hy:(cN O [44]).1=true
   .rw[hy,dT,FB];intro g4;rw[iN];simp only[gX,FB];intro g5;rw[iN,cI];rw[aE (λh=>by rw[hy]at h;exact absurd h.1 (by decide)),aO hy]at d;exact⟨_,.inl rfl,d,xg,hh⟩
   .have hy:(cN O [44]).1=false:=by simpa using hy
    rw[hy,dG];have ud:(if(cN O [44]).1=true then(cN O [44]).2 else bK (cN O [44]).2)=bK (cN O [44]).2:=aE (by rw[hy];decide);rw[ud]at d;refine GdW.act (decide ((cur (cN O [44]).2).k≠5)) (λW=>PR w0 W p f M5 vt (bK (cN O [44]).2) top/\Eff p f M5 M5 xs W) (λe=>by cases e) (λ_ J hJ=>?_) λg4 xr zl=>?_
    .refine rW xg hl.ws hN hl.l λxr hc G=>?_;refine⟨i64 (cur (cN O [44]).2).k,rfl,?_⟩;dsimp only;rw[fR];exact hJ xr ⟨hc,hh.trans G⟩
    simp only[aG,aV,iZ];obtain⟨hc,G⟩:=zl;have xa:=hl.now;by_cases h5:(cur (cN O [44]).2).k≠5
    .rw[bS h5];simp only[gX];refine GdW.act (!isS (bK (cN O [44]).2) [125]) (λW=>PR w0 W p f M5 vt (bK (cN O [44]).2) top/\Eff p f M5 M5 xs W) (λe=>by cases e) (λ_ J hJ=>?_) λg5 zu zk=>?_
     .refine yJ λb zu hb yp zj xk=>?_;have xf:=hc.ext xk;have L:=hc.loc yp hb zj;refine aDV xf xa.ws hN xa.l ⟨Dd zj rfl,λk hk=>by simp only[Value.ownBlock,bB]at hk;subst hk;exact L.2⟩ λyg xe xn=>?_;rw[gK];rw[lI]at xe;exact hJ yg ⟨xe,(G.x xk).trans xn⟩
     obtain⟨xf,za⟩:=zk;simp only[aG,aV,iZ];rw[fC];refine⟨λT=>?_,λT=>?_⟩
     .have T:isS (bK (cN O [44]).2) [125]=false:=by simpa using T
      refine rW xf xa.ws hN xa.l λyg xe xn=>?_;refine⟨i64 (cur (bK (cN O [44]).2)).a,rfl,?_⟩;refine uM xe (ht 50 _ ?_);rw[<-d,aO ⟨hy,h5,T⟩]
     .have T:isS (bK (cN O [44]).2) [125]=true:=by simpa using T
      rw[aE (λh=>by rw[h.2.2]at T;cases T)]at d;exact⟨_,.inr rfl,d,xf,za⟩
    .rw[cX h5];simp only[gX,FB];intro g5;rw[iN,cI];rw[aE (λh=>h5 h.2.1)]at d;exact⟨_,.inr rfl,d,hc,G⟩
  rintro _ g4 zv ⟨s6,vl,yy,xg,hh⟩;have V:Gd N s6 dl/\(cN O [44]).2.i<=s6.i/\s6.toks=(cN O [44]).2.toks:=by
   rcases vl with rfl|rfl
   .exact⟨hl,aQ _,rfl⟩
   .exact⟨hl.now,LQ _,(kF hl.ws).toks⟩
  obtain⟨V,bs,zn⟩:=V;have zn:=congrArg List.length zn;refine Cc xg V.ws hN V.l λxr hc G=>?_;have lg:=nS V.ws;have bh:=congrArg List.length lg.1.toks;have v:=hh.trans G;have vv:=v.chg.size;have i1:=tg.1.le;have i2:=ng.1.le;have i3:=yi.1.le;have i4:=lg.1.le;have xm:=V.lines;have ui:=xm.ws.lt;refine⟨⟨rfl,hY s6,M5,av++[x],ks++[k],xu,hx,n,hc,xm,zb.trans v,j.eff v,o.eff v,?_,?_,vm,by omega,yy,by omega,?_,by simp[uj],by omega⟩,?_⟩
  .rw[aB,aA,aD,GZ];exact rA.eff v
  .rw[aB,aA,aD,zA];exact rK.eff v
  .rw[aB,aA,aD];omega
  .rw[hc.at_,h7.at_];omega
 .have xv:(cN s1 [125]).1=true:=by simpa using xv
  rw[aO xv]at d;refine gL j.1 rfl ?_;have ux:ER w0 w8 p f Q vt B1 ⟨8,[],av,ks,t.a⟩ va vk:=⟨rA,rK,dd⟩;refine NC (e:=⟨8,[],av,ks,t.a⟩) h8 o rfl ux (λe=>by have:=rA.new b4 e;omega) (λe=>by have:=rK.new b4 e;omega) λw9 h9 un uw=>?_;exact hK _ _ d.symm Q _ _ w9 h9 hd (P.one un (by omega)) (uw.le (by omega))
end
def AW{s:PS}{q:Bool}{f:PS->R α}(b:s.deep≠24):within s a q f=(f {s with deep:=s.deep+1,quiet:=q}).bind λx s'=>.ok x {s' with deep:=s.deep,quiet:=s.quiet}:=by
 unfold within;rw[aE b]
def xR{s:PS}{q:Bool}{f:PS->R α}(b:s.deep=24):within s a q f=.err 7 a:=by
 unfold within;rw[aO b]
def lW(s:PS)(w:Str):isS (bK s) w=isS s w:=by unfold isS;rw[pO]
section
variable [HX]
variable{w0 w w' w1:World}{p f b:Nat}{M M' M0:Lay}{vt:Value}{s:PS}{top:List Nat}{N:Int}{K:Q0}{e:Ex}{va vk:Value}{wbn:Nat}{wb:World}{dl:Nat}
def Gd.sign{x:Str}(d:Gd N s (dl+1))(g:isS s x=true)(q:Bool):
  Gd N {bK s with deep:=(bK s).deep+1,quiet:=q} dl/\bK {bK s with deep:=(bK s).deep+1,quiet:=q}={bK s with deep:=(bK s).deep+1,quiet:=q}/\(cur {bK s with deep:=(bK s).deep+1,quiet:=q}).k≠0/\Gd N (step1 {bK s with deep:=(bK s).deep+1,quiet:=q}) dl:=by
 have f:=d.now.frame q;obtain⟨a,b,c⟩:=sU d.ws g ((bK s).deep+1) q;have e:=f.step b;rw[a]at e;exact⟨f,a,b,e⟩
def DJ{x:Str}(h:PR w0 w p f M vt s top)(g:Gd N s dl)(n:∀W,PR w0 W p f M vt (bK s) top->Eff p f M M w W->K (.bool (isS s x)) W):
  gP StT 1 [(.string (ofL []))] [(0,1,str x)] w λt60 d=>aL P0 65 [.pointer (some ⟨p,0,none⟩),t60] d K:=by
 refine yJ λb w1 m e c a=>?_;have q:=h.loc e m c;refine aDV (h.ext a) g.ws g.hN g.l ⟨Dd c rfl,λk j=>by simp only[Value.ownBlock,bB]at j;subst j;exact q.2⟩ λw2 o i=>n w2 o ((Eff.ext a).trans i)
theorem aEb{E:PS->R Nat}(hS:BG w0 f)(hE:∀d,dl=d+1->EC w0 f 118 E d)(hF:vP E):EC w0 f 226 (nC E) dl:=by
 intro w p M vt s top N K h Y H z;refine aAp ?_;unfold aF4;have hN:=Y.hN;have um:=Y.at0;refine zV rfl λb1 w1 zo zf ys yk=>?_;have h1:=h.ext yk;have b:=h.loc zf zo ys;refine b.ld rfl ?_;refine rW h1 Y.ws hN Y.l λw2 h2 hx=>?_;have b:=b.eff hx;have hx:=(Eff.ext yk).trans hx;have zc:=b.lt;refine cO λb3 w3 zn ze yr xs=>?_;have h3:=h2.ext xs;have o:=h2.loc ze zn yr;have b:=b.ext xs;refine dH (l:=kB (cur s)) o.1 rfl rfl rfl λw4 uf yq xx=>?_;have o:Loc w0 w4 p f M vt b3 TkT (kB (cur s)):=⟨yq,o.2.up (by omega)⟩;have h4:=h3.one xx o.2;have b:=b.one xx (by omega);have ui:=hx.chg.size;have zj:=(hx.x xs).one xx (by omega);refine o.ldf rfl ?_;simp only[eG,eP,dW,aA,aD,aP,aU,Nat.reduceAdd,Nat.reduceLT,dQ,aZ];have ud:=o.lt;refine cO λb4 w5 zm zd yp xi=>?_;have h5:=h4.ext xi;have i:=h4.loc zd zm yp;have b:=b.ext xi;have o:=o.ext xi;refine dH (l:=[i64 0,str [],.slice none 0 0,.slice none 0 0,i64 (cur s).a]) i.1 rfl rfl rfl λw6 ue yo xk=>?_;have i:Loc w0 w6 p f M vt b4 ExT [i64 0,str [],.slice none 0 0,.slice none 0 0,i64 (cur s).a]:=⟨yo,i.2.up (by omega)⟩;have h6:=h5.one xk i.2;have b:=b.one xk (by omega);have o:=o.one xk (by omega);have hv:=(zj.x xi).one xk (by omega);have uh:=hv.chg.size;have I:=Y.now;have xt:=wsi I.ws I.l;have D:b1≠b4:=by omega
 have xa:b3≠b4:=by omega
 have A:w.heap.size<=b4:=by omega
 have zw:=I.lev;have hz:(bK s).deep<=24:=by omega
 refine dE.cut (λ_ W=>∃M1 s1 e va vk,PR w0 W p f M1 vt s1 top/\Gd N s1 dl/\Eff p f M M1 w W/\Loc w0 W p f M1 vt b1 PpT [.pointer (some ⟨p,0,none⟩)]/\Loc w0 W p f M1 vt b4 ExT (exc e va vk)/\ER w0 W p f M1 vt w.heap.size e va vk/\nC E s=qS s1 e) ?_ ?_
 .unfold nC at H z⊢;simp only at H z⊢;refine o.ldf rfl ?_;rw[bW,aY];refine⟨λhk=>?_,λhk=>?_⟩
  ·
   have hm:(cur s).k≠0:=by rw[hk];decide
   refine b.ld rfl ?_;refine h6.go xt λw7 L m yh=>?_;have b:=b.eff m;have o:=(o.eff m).drew;have i:=(i.eff m).drew;have L:=L.drew;have m:=(hv.trans m).x (cQ w7);rw[bH,bN,aN];refine o.ld rfl ?_;rw[bH,bN,aN];refine i.st rfl (by simp) λw8 i xj yg=>?_;have o:=o.one xj xa;refine⟨o.ld rfl rfl,?_⟩;rw[bH,bN,aN];refine i.st rfl (by simp) λw9 i r xg=>?_;have h9:=(L.one xj i.2).one r i.2;refine⟨M,_,⟨4,(cur s).t,[],[],(cur s).a⟩,.slice none 0 0,.slice none 0 0,h9,Y.step hm,(m.one xj A).one r A,(b.drew.one xj D).one r D,i,ER.leaf rfl rfl,by rw[aO hk]⟩
  rw[aE hk]at H z⊢;refine o.ldf rfl ?_;rw[bW,aY];refine⟨λO=>?_,λO=>?_⟩
  ·
   rw[aO O]at H z;have hm:(cur s).k≠0:=by rw[O];decide
   refine b.ld rfl ?_;refine h6.go xt λw7 L m yh=>?_;have b:=b.eff m;have o:=o.eff m;have m:=hv.trans m;refine b.ld rfl ?_;refine gL o.1 rfl ?_;have yl:=Y.tx O;have xv:=nI Y.ws;have ul:=(tL hm).1;have zg:wt {cur s with k:=3}=wt (pH (bK s)):=by
    have e3:(pH (bK s)).k=3:=O;unfold wt;simp only[e3];rfl
   refine aCc hS hE hF L (Y.step hm) yl.1 yl.2 ⟨xv.1,xv.2.1⟩ (xv.2.2.2.1 O) (by rw[zg];have:=Y.phi;omega) (λx s' ex M' w8 h8 u=>?_) λc a' ex=>z c a' ex;exact H x s' ex M' w8 h8 (m.trans u)
  rw[aE O]at H z⊢;refine o.ldf rfl ?_;rw[bW];simp only[gX];refine GdW.look (decide ((cur s).t≠tX)) (λ_ J hJ=>?_) λg=>?_
  .refine o.ldf rfl ?_;rw[iB];exact hJ
  simp only[aG];rw[gM,fC];refine⟨λxw=>?_,λxw=>?_⟩
  ·
   have hc:(cur s).k=1/\(cur s).t≠tX:=by simpa using xw
   rw[aO hc]at H z⊢;have hm:(cur s).k≠0:=by rw[hc.1];decide
   have ho:=Y.step hm;refine b.ld rfl ?_;refine h6.go xt λw7 L m yh=>?_;have b:=b.eff m;have o:=o.eff m;have i:=i.eff m;have m:=hv.trans m;refine b.ld rfl ?_;refine DJ L ho λw8 h8 u=>?_;have b:=b.eff u;have o:=o.eff u;have i:=i.eff u;have u:=m.trans u;rw[gK,fC];refine⟨λhn=>?_,λhy=>?_⟩
   .have hn:isS (step1 (bK s)) [40]=false:=by simpa using hn
    rw[aE (by rw[hn];decide)];refine o.ldf rfl ?_;refine YR ?_;rw[bH,bN,aN];refine i.st rfl (by simp) λw9 i r xg=>?_;have h9:=h8.one r i.2;have b:=b.one r D;have o:=o.one r xa;have B:=u.one r A;refine i.ldf rfl ?_;rw[bW,aY];refine⟨λh9k=>?_,λh9k=>?_⟩
    .refine o.ldf rfl ?_;rw[bH,bN,aN];refine i.st rfl (by simp) λhs i G yj=>?_;refine⟨M,_,⟨pS (cur s).t,(cur s).t,[],[],(cur s).a⟩,.slice none 0 0,.slice none 0 0,h9.one G i.2,ho.now,B.one G A,b.one G D,i,ER.leaf rfl rfl,by rw[aO h9k]⟩
    .refine⟨M,_,⟨pS (cur s).t,[],[],[],(cur s).a⟩,.slice none 0 0,.slice none 0 0,h9,ho.now,B,b,i,ER.leaf rfl rfl,by rw[aE h9k]⟩
   .have hy:isS (step1 (bK s)) [40]=true:=by simpa using hy
    rw[aO hy]at H z⊢;have b:=b.drew;have o:=o.drew;have i:=i.drew;have h8:=h8.drew;have u:=u.x (cQ w8);rw[bH,bN,aN];refine o.ld rfl ?_;rw[bH,bN,aN];refine i.st rfl (by simp) λw9 i r xg=>?_;have h9:=h8.one r i.2;have b:=b.one r D;have o:=o.one r xa;have B:=u.one r A;refine⟨o.ld rfl rfl,?_⟩;rw[bH,bN,aN];refine i.st rfl (by simp) λhs i G yj=>?_;have U:=(h9.one G i.2).drew;have b:=(b.one G D).drew;have i:=i.drew;have j:=(B.one G A).x (cQ hs);simp only[aP,aU]at i;refine b.ld rfl ?_;refine b.ld rfl ?_;have xu:=ho.now;refine rW U xu.ws hN xu.l λyd xl y=>?_;rw[lI]at xl;rw[pO];have b:=b.eff y;have i:=i.eff y;have y:=j.trans y;refine⟨b.ld rfl rfl,i64 (cur (step1 (bK s))).a,rfl,?_⟩;have uk:=xu.lev;refine tD xl (by omega) (λP=>z 7 _ (by rw[xR P];rfl)) λP xr T n=>?_;obtain⟨d,rfl⟩:∃d,dl=d+1:=⟨dl-1,by omega⟩;rw[AW P]at z⊢;obtain⟨q1,q2,q3,q4⟩:=ho.sign hy true;have b:=b.eff n;have i:=i.eff n;have n:=y.trans n;refine iM (caps:=[.pointer (some ⟨b1,0,none⟩),.pointer (some ⟨b4,0,none⟩)]) ?_;refine aAl ?_;unfold aF0;refine b.ld rfl ?_;refine T.go (wsi q1.ws q1.l) λxq S C yi=>?_;have b:=b.eff C;have i:=i.eff C;have C:=n.trans C;refine b.ld rfl ?_;have V:=i.lt;refine VJ (hE d rfl) hF S q4 (λl s' el M' v xp Q xn q hu=>?_) λc a' el=>z c a' (by rw[el];rfl);have b:=b.eff q;have i:=i.eff q;have zv:=C.chg.size;obtain⟨vp,vc,ev,_⟩:=hu.own.sl.shape;have zb:v.ownBlock≠some b4:=λe=>by have:=hu.new b4 e;omega
    rw[bH,bN,aN];refine i.st (by rw[ev];rfl) (by simp) λyc i he zt=>?_;have xy:=Q.one he i.2;have b:=b.one he D;have ym:=hu.one he zb;have ha:=(C.trans q).one he A;have hg14l:=xn.lev;refine⟨M',s',xy,by omega,λub zr Z=>?_⟩;refine⟨M',_,⟨12,(cur s).t,l,[],(cur s).a⟩,v,.slice none 0 0,zr,ho.now.back xn,ha.trans Z,b.eff Z,i.eff Z,(ER.noK rfl (ym.le (by omega))).eff Z,by rw[el];rfl⟩
  ·
   have hc:¬((cur s).k=1/\(cur s).t≠tX):=by simpa using xw
   rw[aE hc]at H z⊢;simp only[lW]at H z⊢;have xm:∀{w7 w8:World} {M':Lay} {s':PS} {e:Ex} {va vk:Value},PR w0 w7 p f M' vt s' top->Loc w0 w7 p f M' vt b1 PpT [.pointer (some ⟨p,0,none⟩)]->Loc w0 w7 p f M' vt b4 ExT [i64 0,str [],.slice none 0 0,.slice none 0 0,i64 (cur s).a]->ER w0 w7 p f M' vt w8.heap.size e va vk->b4<w8.heap.size->w.heap.size<=w8.heap.size->∀{KW:World->Prop},
     (∀w9,PR w0 w9 p f M' vt s' top->Chg (One b4) w7 w9->Loc w0 w9 p f M' vt b1 PpT [.pointer (some ⟨p,0,none⟩)]->Loc w0 w9 p f M' vt b4 ExT (exc e va vk)->ER w0 w9 p f M' vt w.heap.size e va vk->KW w9)->stW 5 (.pointer (some ⟨b4,0,none⟩)) (.agg (exc e va vk).toArray) w7 KW:=λ{w7 w8 M' s' e va vk} L b i hp hb hw {KW} zq=>by
    refine dH (l:=exc e va vk) i.1 rfl rfl (Qd hp) λw9 xg zk r=>?_;exact zq w9 (L.one r i.2) r (b.one r D) ⟨zk,i.2.up (by omega)⟩ ((hp.one r (λe=>by have:=hp.rA.new b4 e;omega) (λe=>by have:=hp.rK.new b4 e;omega)).le hw)
   refine b.ld rfl ?_;refine DJ h6 I λw7 L m=>?_;rw[lI]at L;have b:=b.eff m;have o:=o.eff m;have i:=i.eff m;have m:=hv.trans m;rw[lW,fC];refine⟨λX=>?_,λX=>?_⟩
   .rw[aO X]at H z;have zc:=b.lt;have ug:=m.chg.size;refine cO λb5 w8 zl yg yn xh=>?_;have h8:=L.ext xh;have L5:=L.loc yg zl yn;refine L5.st rfl (by simp) λw9 L5 r xg=>?_;have h9:=h8.one r L5.2;have b:=(b.ext xh).one r (by omega);have o:=(o.ext xh).one r (by have:=o.lt;omega);have B:=(m.x xh).one r (by omega);refine b.ld rfl ?_;refine o.ldf rfl ?_;refine tD h9 hz (λP=>z 7 _ (by rw[xR P])) λP hs U j=>?_;obtain⟨d,rfl⟩:∃d,dl=d+1:=⟨dl-1,by omega⟩;rw[AW P]at z H;obtain⟨q1,q2,q3,q4⟩:=Y.sign X true;have b:=b.eff j;have L5:=L5.eff j;have j:=B.trans j;refine iM (caps:=[.pointer (some ⟨b1,0,none⟩),.pointer (some ⟨b5,0,none⟩)]) ?_;refine aAj ?_;unfold aFY;refine b.ld rfl ?_;refine U.go (wsi q1.ws q1.l) λyd xl y zu=>?_;have b:=b.eff y;have L5:=L5.eff y;have y:=j.trans y;refine b.ld rfl ?_;refine hE d rfl yd p M vt _ top N _ xl q4 (λx s' ex M' xr T n=>?_) λc a' ex=>z c a' (by rw[ex];rfl);obtain⟨g12,_⟩:=q4.e hF ex;rw[ex]at H z;simp only[R.bind]at H z;have b:=b.eff n;have L5:=L5.eff n;have n:=y.trans n;refine L5.st rfl (by simp) λxq L5 F yi=>?_;have S:=T.one F L5.2;have b:=b.one F (by omega);have C:=n.one F (by omega);refine b.ld rfl ?_;refine AX S g12.ws hN g12.l (λs3 e3 xp Q q=>?_) λc a' e3=>z c a' (by rw[e3]);rw[e3]at H;simp only at H;obtain⟨g14,_⟩:=g12.want e3;have g14l:=g14.lev;refine⟨M',s3,Q,by omega,λyc xy ha=>?_⟩;refine((L5.eff q).eff ha).ld rfl ?_;exact H x _ rfl M' yc xy ((C.trans q).trans ha)
   rw[aE (by rw[X];decide)]at H z⊢;refine b.ld rfl ?_;refine DJ L I λw8 h8 u=>?_;rw[lI]at h8;have b:=b.eff u;have o:=o.eff u;have i:=i.eff u;have u:=m.trans u;rw[lW,fC];refine⟨λX=>?_,λX=>?_⟩
   .rw[aO X]at H z⊢;refine b.ld rfl ?_;refine o.ldf rfl ?_;refine tD h8 hz (λP=>z 7 _ (by rw[xR P];rfl)) λP hs U j=>?_;obtain⟨d,rfl⟩:∃d,dl=d+1:=⟨dl-1,by omega⟩;rw[AW P]at z⊢;obtain⟨q1,q2,q3,q4⟩:=Y.sign X true;have b:=b.eff j;have o:=o.eff j;have i:=i.eff j;have j:=u.trans j;refine iM (caps:=[.pointer (some ⟨b1,0,none⟩),.pointer (some ⟨b3,0,none⟩),.pointer (some ⟨b4,0,none⟩)]) ?_;refine aAi ?_;unfold aFX;refine b.ld rfl ?_;refine gL o.1 rfl ?_;have V:=i.lt;refine aDM (hE d rfl) hF U q1 q3 q2 (λe s' el M' va vk xr T g12 n xc=>?_) λc a' el=>z c a' (by rw[el];rfl);refine xm T (b.eff n) (i.eff n) xc V j.chg.size λxq S F b i xb=>?_;have g12l:=g12.lev;refine⟨M',s',S,by omega,λxp Q q=>?_⟩;exact⟨M',_,e,va,vk,Q,I.back g12,((j.trans n).one F A).trans q,b.eff q,i.eff q,xb.eff q,by rw[el];rfl⟩
   rw[aE (by rw[X];decide)]at H z⊢;refine b.ld rfl ?_;refine DJ h8 I λw9 h9 B=>?_;rw[lI]at h9;have b:=b.eff B;have o:=o.eff B;have i:=i.eff B;have B:=u.trans B;rw[lW,fC];refine⟨λX=>?_,λX=>?_⟩
   .rw[aO X]at H z⊢;refine b.ld rfl ?_;refine o.ldf rfl ?_;refine tD h9 hz (λP=>z 7 _ (by rw[xR P];rfl)) λP hs U j=>?_;obtain⟨d,rfl⟩:∃d,dl=d+1:=⟨dl-1,by omega⟩;rw[AW P]at z⊢;obtain⟨q1,q2,q3,q4⟩:=Y.sign X false;have b:=b.eff j;have o:=o.eff j;have i:=i.eff j;have j:=B.trans j;refine iM (caps:=[.pointer (some ⟨b1,0,none⟩),.pointer (some ⟨b3,0,none⟩),.pointer (some ⟨b4,0,none⟩)]) ?_;refine aAg ?_;unfold aFV;refine b.ld rfl ?_;refine gL o.1 rfl ?_;have V:=i.lt;refine Uc (hE d rfl) hF U q1 q3 q2 (λe s' el M' va vk xr T g12 n xc=>?_) λc a' el=>z c a' (by rw[el];rfl);refine xm T (b.eff n) (i.eff n) xc V j.chg.size λxq S F b i xb=>?_;have g12l:=g12.lev;refine⟨M',s',S,by omega,λxp Q q=>?_⟩;exact⟨M',_,e,va,vk,Q,I.back g12,((j.trans n).one F A).trans q,b.eff q,i.eff q,xb.eff q,by rw[el];rfl⟩
   .rw[aE (by rw[X];decide)]at z;refine o.ldf rfl ?_;exact uM h9 (z _ _ rfl)
 .rintro _ g w7 ⟨M1,s1,e,va,vk,L,zi,m,b,i,hp,ea⟩;rw[ea]at H;refine b.ld rfl ?_;refine gL i.1 rfl ?_;refine LB L m hp zi λM' w8 h8 u _=>?_;exact H _ _ rfl M' w8 h8 u
end
section
variable [HX]
variable{w0 w w' w1:World}{p f b:Nat}{M M' M0:Lay}{vt:Value}{s:PS}{top:List Nat}{N:Int}{K:Q0}{e:Ex}{va vk:Value}{wbn:Nat}{wb:World}{dl:Nat}
def PR.row_new{l:List Nat}(h:PR w0 w p f M vt s top)(e:r=w.heap.size)(d:W.heap.size=w.heap.size+1)(c:W.heap[r]?=some (.cells (ints l).toArray mA (0,0)))(b:l.length<=1000000):
  Ro w0 W p f M vt w.heap.size mA 1 (.slice (some ⟨r,0,none⟩) l.length l.length) l.length (ints l):=
 ⟨TY c (by have:=h.base;omega) (xH l) b,λk a=>by simp only[Value.ownBlock,bB]at a;subst a;exact h.off_new (by omega) (by omega),λk a=>by simp only[Value.ownBlock,bB]at a;omega⟩
theorem aCG{E:PS->R Nat}(hS:BG w0 f)(hE:∀d,dl=d+1->EC w0 f 118 E d)(hF:vP E):EC w0 f 220 (Ct E) dl:=by
 intro w p M vt s top N K h hg hK ht;refine aAq ?_;unfold aF5;have hN:=hg.hN;refine zV rfl λb1 w1 zh zx zg yx=>?_;have h1:=h.ext yx;have b:=h.loc zx zh zg;refine b.ld rfl ?_;unfold Ct at hK ht;refine aEb hS hE hF w1 p M vt s top N _ h1 hg (λx s1 ex M1 w2 h2 hu=>?_) λc a' ex=>ht c a' (by rw[ex];rfl);rw[ex]at hK ht;simp only[R.bind]at hK ht;have hA:vP (nC E):=⟨λN=>MY (hF.ok N),LI hF.z⟩;obtain⟨yi,uc⟩:=hg.e hA ex;have xn:=(hA.ok N) s hg.ws;rw[ex]at xn;have xn:=congrArg List.length xn.1.1.toks;have b:=b.eff hu;have hu:=(Eff.ext yx).trans hu;generalize hR:nN E (s.toks.length+1) s1 x=R0 at hK ht;refine eK.go (λst W=>∃s1 M1 x n,st=[i64 ((x:Nat):Int)]/\PR w0 W p f M1 vt s1 top/\Gd N s1 dl/\Eff p f M M1 w W/\Loc w0 W p f M1 vt b1 PpT [.pointer (some ⟨p,0,none⟩)]/\nN E n s1 x=R0/\s1.toks.length<n+s1.i/\s1.toks.length=s.toks.length) (λ_ W=>s.toks.length-CE W p)
  ⟨s1,M1,x,s.toks.length+1,rfl,h2,yi,hu,b,hR,by have:=yi.ws.lt;omega,xn⟩ ?_
 clear hu b h2 ex yi uc xn hR;rintro st g w2 ⟨q,M2,y,n,rfl,h2,hb,hu,b,k,hn,vw⟩;simp only[aG];have vb:=hb.ws.lt;have vy:=hb.at0;obtain⟨n,rfl⟩:∃m,n=m+1:=⟨n-1,by omega⟩;simp only[nN]at k;refine b.ld rfl ?_;refine rW h2 hb.ws hN hb.l λw3 h3 xk=>?_;have b:=b.eff xk;have xk:=hu.trans xk;have hs:=hb.now;have zu:=b.lt;have vv:=xk.chg.size;refine cO λb4 w4 uh zw zf ye=>?_;have h4:=h3.ext ye;have j:=h3.loc zw uh zf;have b:=b.ext ye;refine dH (l:=kB (cur q)) j.1 rfl rfl rfl λw5 vq ze yj=>?_;have j:Loc w0 w5 p f M2 vt b4 TkT (kB (cur q)):=⟨ze,j.2.up (by omega)⟩;have h5:=h4.one yj j.2;have b:=b.one yj (by omega);have ud:=(xk.x ye).one yj (by omega);have ux:b1=w.heap.size:=zh;have fin:∀{w6:World} {Y:Lay} {T:PS} {e:Ex} {va:Value},PR w0 w6 p f Y vt T top->Gd N T dl->Eff p f M Y w w6->Loc w0 w6 p f Y vt b1 PpT [.pointer (some ⟨p,0,none⟩)]->Ro w0 w6 p f Y vt w1.heap.size mA 1 va e.args.length (ints e.args)->e.keys=[]->q.i<T.i->Syn.phi T+1<=Syn.phi q->T.toks.length=s.toks.length->((qS T e).bind λy s3=>nN E n s3 y)=R0->
   aL P0 158 [.pointer (some ⟨p,0,none⟩),.agg (exc e va (.slice none 0 0)).toArray] w6 λt24 xc=>(∃s1 M1 x n,[t24]=[i64 ((x:Nat):Int)]/\PR w0 xc p f M1 vt s1 top/\Gd N s1 dl/\Eff p f M M1 w xc/\Loc w0 xc p f M1 vt b1 PpT [.pointer (some ⟨p,0,none⟩)]/\nN E n s1 x=R0/\s1.toks.length<n+s1.i/\s1.toks.length=s.toks.length)/\s.toks.length-CE xc p<s.toks.length-CE w2 p:=λ{w6 Y T e va} h6 Z I b hr hk hi vx yy zz=>by
  refine LB h6 I (ER.noK hk (hr.le (by omega))) Z λM' w7 h7 v ua=>?_;have uz:=Z.ws.lt;refine⟨⟨_,M',_,n,rfl,h7,?_,v,ua _ _ _ b (λe=>by have:=hr.new b1 e;omega) (by simp[Value.ownBlock]),zz,by show T.toks.length<n+T.i;omega,yy⟩,?_⟩
  .exact Z.put (by have:=hb.phi;omega)
  .rw[h7.at_,h2.at_];show s.toks.length-T.i<_;omega
 have yg:=kF hb.ws;have hn1t:=congrArg List.length yg.toks;refine b.ld rfl ?_;refine yL h5 hs.ws hN hs.l λw6 h6 I=>?_;have b:=b.eff I;have j:=j.eff I;have I:=ud.trans I;have tg:=nG hs.ws [46];have vo:=congrArg List.length tg.1.toks;have Z:=hs.take [46];have tp:=pR (bK q) [46];have np:=nV q;rw[fC];refine⟨λhy=>?_,λxa=>?_⟩
 ·
  rw[aO hy]at k;have tp:=tp.2 hy;have ti:=tg.2.1 hy;have b:=b.drew;have j:=j.drew;have h6:=h6.drew;have I:=I.x (cQ w6);have B:∀{W:World} {M':Lay},Loc w0 W p f M' vt b1 PpT [.pointer (some ⟨p,0,none⟩)]->ldW false 1 (.pointer (some ⟨b1,0,none⟩)) W λx=>x=.pointer (some ⟨p,0,none⟩):=λL=>L.ld rfl rfl;have D:∀{W:World} {M':Lay},Loc w0 W p f M' vt b4 TkT (kB (cur q))->ldW false 1 (.pointer (some ⟨b4,2,none⟩)) W λx=>x=i64 (cur q).a:=λL=>L.ld rfl rfl;refine b.ld rfl ?_;refine b.ld rfl ?_;rw[bH,bN,aN];refine j.ld rfl ?_;have vu:=I.chg.size;have xe:w1.heap.size<=w6.drew.heap.size:=by have:=I.chg.size;have:=b.lt;omega
  have kd:∀{W:World} {KK:Q0},PR w0 W p f M2 vt (cN (bK q) [46]).2 top->(∀u O,mT (cN (bK q) [46]).2 1=.ok u O->∀hm,PR w0 hm p f M2 vt O top->Eff p f M2 M2 W hm->KK (.agg (kB u).toArray) hm)->aL P0 62 [.pointer (some ⟨p,0,none⟩),.int .i64 1] W KK:=λ{W KK} h ym=>
   Bs h Z.ws hN Z.l ym λc a' X=>ht c a' (by rw[<-k,X];rfl)
  have done:∀{u:Tok} {O:PS},mT (cN (bK q) [46]).2 1=.ok u O->Gd N O dl/\q.i<O.i/\Syn.phi O+1<=Syn.phi q/\O.toks.length=s.toks.length/\((qS O ⟨10,u.t,[y],[],(cur q).a⟩).bind λy s3=>nN E n s3 y)=R0:=λ{u O} X=>by
   have hk:=Z.kind (by decide) X;have xi:=qL Z.ws 1 (by decide);have hq:=sI (cN (bK q) [46]).2 1;rw[X]at xi hq k;have ub:=congrArg List.length xi.1.1.toks;have hq:=hq.1;have h1:=yg.le;exact⟨hk.1,by have:=hk.2.1;omega,by omega,by omega,k⟩
  refine⟨?_,?_,?_,?_,?_,?_⟩
  .refine kd h6 λu O X w7 h7 v=>?_;have b:=b.eff v;have j:=j.eff v;have xj:=I.trans v;refine⟨D j,B b,str u.t,rfl,D j,B b,?_⟩;refine nU λr w8 hr ho Q C=>?_;refine⟨D (j.ext C),B (b.ext C),?_⟩;simp only[eG,eP,fD,dW,aA,aD,aP,aU,Nat.reduceAdd,Nat.reduceLT,dQ,aZ];obtain⟨d1,d2,d3,d4,d5⟩:=done X;exact fin (e:=⟨10,u.t,[y],[],(cur q).a⟩) (h7.ext C) d1 (xj.x C) (b.ext C) ((h7.row_new (l:=[y]) hr ho Q (by simp)).le (by have:=v.chg.size;omega)) rfl d2 d3 d4 d5
  .exact D j
  .exact B b
  .exact B b
  .refine kd h6 λu O X w7 h7 v=>?_;have b:=b.eff v;have j:=j.eff v;have xj:=I.trans v;refine⟨D j,B b,str u.t,rfl,?_⟩;refine nU λr w8 hr ho Q C=>?_;refine⟨D (j.ext C),B (b.ext C),?_⟩;simp only[eG,eP,fD,dW,aA,aD,aP,aU,Nat.reduceAdd,Nat.reduceLT,dQ,aZ];obtain⟨d1,d2,d3,d4,d5⟩:=done X;exact fin (e:=⟨10,u.t,[y],[],(cur q).a⟩) (h7.ext C) d1 (xj.x C) (b.ext C) ((h7.row_new (l:=[y]) hr ho Q (by simp)).le (by have:=v.chg.size;omega)) rfl d2 d3 d4 d5
  .refine nU λr w8 hr ho Q C=>?_;have b:=b.ext C;have j:=j.ext C;have zt:=h6.row_new (l:=[y]) hr ho Q (by simp);refine⟨D j,B b,B b,?_⟩;refine kd (h6.ext C) λu O X w7 h7 v=>?_;have b:=b.eff v;have j:=j.eff v;refine⟨D j,B b,str u.t,rfl,?_⟩;simp only[eG,eP,fD,dW,aA,aD,aP,aU,Nat.reduceAdd,Nat.reduceLT,dQ,aZ];obtain⟨d1,d2,d3,d4,d5⟩:=done X;exact fin (e:=⟨10,u.t,[y],[],(cur q).a⟩) h7 d1 ((I.x C).trans v) b ((zt.eff v).le (by omega)) rfl d2 d3 d4 d5
 .have xa:(cN (bK q) [46]).1=false:=by simpa using xa
  rw[aE (by rw[xa];decide)]at k;have e6:(cN (bK q) [46]).2=bK q:=by
   unfold cN at xa⊢;split
   .rename_i hi;rw[aO hi]at xa;cases xa
   .exact lI q
  rw[e6]at h6;refine b.ld rfl ?_;refine DJ h6 hs λw7 h7 v=>?_;rw[lI]at h7;have b:=b.eff v;have j:=j.eff v;have v:=I.trans v;simp only[lW]at k⊢;rw[fC];refine⟨λhi=>?_,λhi=>?_⟩
  .rw[aO hi]at k;have vs:=v.chg.size;have zu:=b.lt;have vp:=j.lt;refine cO λb5 w8 ug ho zd C=>?_;have h8:=h7.ext C;have P:=h7.loc ho ug zd;have b:=b.ext C;have j:=j.ext C;refine cO λb6 w9 uf zv zc xf=>?_;have h9:=h8.ext xf;have S:=h8.loc zv uf zc;have b:=b.ext xf;have j:=j.ext xf;have P:=P.ext xf;refine P.st rfl (by simp) λvn P hh uw=>?_;have ul:=h9.one hh P.2;have b:=b.one hh (by omega);have j:=j.one hh (by omega);have S:=S.one hh (by omega);refine S.st rfl (by simp) λvm S hf uv=>?_;have uk:=ul.one hf S.2;have b:=b.one hf (by omega);have j:=j.one hf (by omega);have P:=P.one hf (by omega);have zb:=(((v.x C).x xf).one hh (by omega)).one hf (by omega);refine b.ld rfl ?_;refine j.ldf rfl ?_;have vc:=hs.lev;refine tD uk (by omega) (λhd=>ht 7 _ (by rw[<-k,xR hd];rfl)) λhd xc uj V=>?_;obtain⟨d,rfl⟩:∃d,dl=d+1:=⟨dl-1,by omega⟩;rw[AW hd]at k;obtain⟨q1,q2,q3,q4⟩:=hb.sign hi true;have b:=b.eff V;have j:=j.eff V;have P:=P.eff V;have S:=S.eff V;have V:=zb.trans V;refine iM (caps:=[.pointer (some ⟨b1,0,none⟩),.pointer (some ⟨b6,0,none⟩),.pointer (some ⟨b5,0,none⟩)]) ?_;refine aAo ?_;unfold aF3;refine b.ld rfl ?_;refine uj.go (wsi q1.ws q1.l) λvl ui U uu=>?_;have b:=b.eff U;have j:=j.eff U;have P:=P.eff U;have S:=S.eff U;have U:=V.trans U;generalize xw:({bK q with deep:=(bK q).deep+1,quiet:=true}:PS)=q0 at*
   have uy:∀x:PS,x=(⟨(bK q).toks,(bK q).i,(bK q).off,(bK q).deep+1,true,(bK q).ex,(bK q).bl⟩:PS)->x=q0:=λx hx=>hx.trans xw;have q0p:Syn.phi q0=Syn.phi (bK q):=by rw[<-xw];rfl
   have q0i:q0.i=(bK q).i:=by rw[<-xw]
   have q0t:q0.toks=(bK q).toks:=by rw[<-xw]
   have yt:=nH q1.ws q3;rw[q2]at yt;have zr:=(tL q3).2;rw[q2]at zr;have q4l:=q4.lev;have n1le:=yg.le;have yc:=nG q4.ws [42];have ys:=pR (step1 q0) [42];have g5:=q4.take [42];have tg5t:=congrArg List.length yc.1.toks;have st0t:=congrArg List.length yt.1.toks;have q0tl:=congrArg List.length q0t;refine dE.cut (λ_ W=>∃Y o T,(((if(cN (step1 q0) [42]).1=true then .ok none (cN (step1 q0) [42]).2 else(E (cN (step1 q0) [42]).2).bind λy q1=>.ok (some y) q1):R (Option Nat))=.ok o T)/\PR w0 W p f Y vt T top/\Gd N T d/\Eff p f M Y w W/\Loc w0 W p f Y vt b1 PpT [.pointer (some ⟨p,0,none⟩)]/\Loc w0 W p f Y vt b4 TkT (kB (cur q))/\Loc w0 W p f Y vt b6 4 [.bool o.isNone]/\Loc w0 W p f Y vt b5 mA [i64 ((o.getD 0:Nat):Int)]/\T.i>=(step1 q0).i/\Syn.phi T<=Syn.phi (step1 q0)/\T.toks.length=s.toks.length) ?_ ?_
   .refine b.ld rfl ?_;refine yL ui q4.ws hN q4.l λzq yn J=>?_;have b:=b.eff J;have j:=j.eff J;have P:=P.eff J;have S:=S.eff J;have J:=U.trans J;refine S.st rfl (by simp) λyr S he ut=>?_;have xy:=yn.one he S.2;have b:=b.one he (by omega);have j:=j.one he (by omega);have P:=P.one he (by omega);have G:=J.one he (by omega);refine S.ld rfl ?_;rw[gK,fC];refine⟨λxh=>?_,λhp=>?_⟩
    .have xh:(cN (step1 q0) [42]).1=false:=by simpa using xh
     rw[xh]at S;refine b.ld rfl ?_;refine hE d rfl yr p M2 vt _ top N _ xy g5 (λz T ez Y yq xm A=>?_) λc a' ez=>ht c a' ?_
     .obtain⟨g6,i6⟩:=g5.e hF ez;have ep:=hF.z (cN (step1 q0) [42]).2;have eo:=hF.ok N _ g5.ws;rw[ez]at ep eo;have ad:=congrArg List.length eo.1.1.toks;have ep:Syn.phi T<=Syn.phi (cN (step1 q0) [42]).2:=ep;have b:=b.eff A;have j:=j.eff A;have P:=P.eff A;have S:=S.eff A;refine P.st rfl (by simp) λxv P hc yb=>?_;refine⟨Y,some z,T,?_,xm.one hc P.2,g6,(G.trans A).one hc (by omega),b.one hc (by omega),j.one hc (by omega),S.one hc (by omega),P,by have:=yc.1.le;omega,by have:=ys.1;omega,by omega⟩;rw[aE (by rw[xh];decide),ez];rfl
     .rw[<-k];rw[aE (by rw[xh];decide),ez];rfl
    .have hp:(cN (step1 q0) [42]).1=true:=by simpa using hp
     rw[hp]at S;exact⟨M2,none,_,by rw[aO hp],xy,g5,G,b,j,S,P,yc.1.le,ys.1,by omega⟩
   rintro _ g2 zq ⟨Y,o,T,eo,yn,g6,J,b,j,S,P,i6,p6,t6⟩;have yz:((oX T [93]).bind λ_ q2=>.ok o q2)=(if(cN (step1 q0) [42]).1=true then(oX (cN (step1 q0) [42]).2 [93]).bind λ_ q2=>.ok none q2 else(E (cN (step1 q0) [42]).2).bind λy q1=>(oX q1 [93]).bind λ_ q2=>.ok (some y) q2):=by
    by_cases hp:(cN (step1 q0) [42]).1=true
    .rw[aO hp]at eo⊢;injection eo with e1 e2
     subst e1 e2;rfl
    .rw[aE hp]at eo⊢;cases za:E (cN (step1 q0) [42]).2 with
     |err c a=>rw[za]at eo;cases eo
     |ok z O=>
      rw[za]at eo;simp only[R.bind]at eo;injection eo with e1 e2
      subst e1 e2;rfl
   rw[<-yz]at k;refine b.ld rfl ?_;refine AX yn g6.ws hN g6.l (λO e7 yr xy G=>?_) λc a' e7=>ht c a' (by rw[<-k,e7];rfl);rw[e7]at k;simp only[R.bind]at k;obtain⟨g7,i7,_⟩:=g6.want e7;have w7:=pQ T [93];have w7s:=oW g6.ws [93];rw[e7]at w7 w7s;have w7:Syn.phi O+1<=Syn.phi T:=w7;have w7t:=congrArg List.length w7s.1.1.toks;have g7l:=g7.lev;have b:=b.eff G;have j:=j.eff G;have P:=P.eff G;have S:=S.eff G;have G:=J.trans G;refine⟨Y,O,xy,by omega,λyq xm A=>?_⟩;have b:=b.eff A;have j:=j.eff A;have P:=P.eff A;have S:=S.eff A;have A:=G.trans A;have g8:Gd N {O with deep:=(bK q).deep,quiet:=(bK q).quiet} (d+1):=hs.back g7;have st1i:(step1 q0).i=(bK q).i+1:=by show q0.i+1=_;rw[q0i]
   refine S.ld rfl ?_;rw[gK,fC];cases o with
   |some z=>
    refine⟨λ_=>?_,λe=>by cases e⟩;simp only at k;refine b.ld rfl ?_;refine P.ld rfl ?_;have xe:w1.heap.size<=yq.heap.size:=by have:=b.lt;omega
    refine MO λr xv hr yb Q hz=>?_;refine(j.ext hz).ldf rfl ?_;simp only[eG,eP,fD,dW,aA,aD,aP,aU,Nat.reduceAdd,Nat.reduceLT,dQ,aZ];refine fin (e:=⟨11,[],[y,z],[],(cur q).a⟩) (xm.ext hz) g8 (A.x hz) (b.ext hz) ((xm.row_new (l:=[y,z]) hr yb Q (by simp)).le xe) rfl ?_ ?_ ?_ k
    .show q.i<O.i;omega
    .show Syn.phi O+1<=_;omega
    .show O.toks.length=_;omega
   |none=>
    refine⟨λe=>(by cases e),λ_=>?_⟩;simp only at k;refine b.ld rfl ?_;refine AX xm g8.ws hN g8.l (λs9 e9 xv xb xl=>?_) λc a' e9=>ht c a' (by rw[<-k,e9]);rw[e9]at k;simp only[R.bind]at k;obtain⟨g9,i9,_⟩:=g8.want e9;generalize yf:({O with deep:=(bK q).deep,quiet:=(bK q).quiet}:PS)=s8 at*
    have s8p:Syn.phi s8=Syn.phi O:=by rw[<-yf];rfl
    have s8i:s8.i=O.i:=by rw[<-yf]
    have s8t:s8.toks=O.toks:=by rw[<-yf]
    have s8t:=congrArg List.length s8t;have w9:=pQ s8 [46];have w9s:=oW g8.ws [46];rw[e9]at w9 w9s;have w9:Syn.phi s9+1<=Syn.phi s8:=w9;have w9t:=congrArg List.length w9s.1.1.toks;have b:=(b.eff xl).drew;have j:=(j.eff xl).drew;have xb:=xb.drew;have hv:=(A.trans xl).x (cQ xv);have xe:w1.heap.size<=xv.drew.heap.size:=by have:=b.lt;omega
    have B:∀{W:World} {M':Lay},Loc w0 W p f M' vt b1 PpT [.pointer (some ⟨p,0,none⟩)]->ldW false 1 (.pointer (some ⟨b1,0,none⟩)) W λx=>x=.pointer (some ⟨p,0,none⟩):=λL=>L.ld rfl rfl;have D:∀{W:World} {M':Lay},Loc w0 W p f M' vt b4 TkT (kB (cur q))->ldW false 1 (.pointer (some ⟨b4,2,none⟩)) W λx=>x=i64 (cur q).a:=λL=>L.ld rfl rfl;refine b.ld rfl ?_;refine b.ld rfl ?_;rw[bH,bN,aN];refine j.ld rfl ?_;have kd:∀{W:World} {KK:Q0},PR w0 W p f Y vt s9 top->(∀u O,mT s9 1=.ok u O->∀hm,PR w0 hm p f Y vt O top->Eff p f Y Y W hm->KK (.agg (kB u).toArray) hm)->aL P0 62 [.pointer (some ⟨p,0,none⟩),.int .i64 1] W KK:=λ{W KK} h ym=>
     Bs h g9.ws hN g9.l ym λc a' X=>ht c a' (by rw[<-k,X])
    have done:∀{u:Tok} {sa:PS},mT s9 1=.ok u sa->Gd N sa (d+1)/\q.i<sa.i/\Syn.phi sa+1<=Syn.phi q/\sa.toks.length=s.toks.length/\((qS sa ⟨30,u.t,[y],[],(cur q).a⟩).bind λy s3=>nN E n s3 y)=R0:=λ{u sa} X=>by
     have hk:=g9.kind (by decide) X;have xi:=qL g9.ws 1 (by decide);have hq:=sI s9 1;rw[X]at xi hq k;have ub:=congrArg List.length xi.1.1.toks;have hq:=hq.1;exact⟨hk.1,by have:=hk.2.1;omega,by omega,by omega,k⟩
    refine⟨?_,?_,?_,?_,?_,?_⟩
    .refine kd xb λu sa X wa ha H=>?_;have b:=b.eff H;have j:=j.eff H;refine⟨D j,B b,str u.t,rfl,D j,B b,?_⟩;refine nU λr wb hr xd Q F=>?_;refine⟨D (j.ext F),B (b.ext F),?_⟩;simp only[eG,eP,fD,dW,aA,aD,aP,aU,Nat.reduceAdd,Nat.reduceLT,dQ,aZ];obtain⟨d1,d2,d3,d4,d5⟩:=done X;exact fin (e:=⟨30,u.t,[y],[],(cur q).a⟩) (ha.ext F) d1 ((hv.trans H).x F) (b.ext F) ((ha.row_new (l:=[y]) hr xd Q (by simp)).le (by have:=H.chg.size;omega)) rfl d2 d3 d4 d5
    .exact D j
    .exact B b
    .exact B b
    .refine kd xb λu sa X wa ha H=>?_;have b:=b.eff H;have j:=j.eff H;refine⟨D j,B b,str u.t,rfl,?_⟩;refine nU λr wb hr xd Q F=>?_;refine⟨D (j.ext F),B (b.ext F),?_⟩;simp only[eG,eP,fD,dW,aA,aD,aP,aU,Nat.reduceAdd,Nat.reduceLT,dQ,aZ];obtain⟨d1,d2,d3,d4,d5⟩:=done X;exact fin (e:=⟨30,u.t,[y],[],(cur q).a⟩) (ha.ext F) d1 ((hv.trans H).x F) (b.ext F) ((ha.row_new (l:=[y]) hr xd Q (by simp)).le (by have:=H.chg.size;omega)) rfl d2 d3 d4 d5
    .refine nU λr wb hr xd Q F=>?_;have b:=b.ext F;have j:=j.ext F;have zs:=xb.row_new (l:=[y]) hr xd Q (by simp);refine⟨D j,B b,B b,?_⟩;refine kd (xb.ext F) λu sa X wa ha H=>?_;have b:=b.eff H;have j:=j.eff H;refine⟨D j,B b,str u.t,rfl,?_⟩;simp only[eG,eP,fD,dW,aA,aD,aP,aU,Nat.reduceAdd,Nat.reduceLT,dQ,aZ];obtain⟨d1,d2,d3,d4,d5⟩:=done X;exact fin (e:=⟨30,u.t,[y],[],(cur q).a⟩) ha d1 ((hv.x F).trans H) b ((zs.eff H).le (by omega)) rfl d2 d3 d4 d5
  .have hi:isS q [91]=false:=by simpa using hi
   rw[aE (by rw[hi];decide)]at k;exact hK y _ k.symm M2 w7 h7 v
end
section
variable [HX]
variable{w0 w w' w1:World}{p f b:Nat}{M M' M0:Lay}{vt:Value}{s:PS}{top:List Nat}{N:Int}{K:Q0}{e:Ex}{va vk:Value}{wbn:Nat}{wb:World}{dl:Nat}
theorem Nv{E S:PS->R Nat}(hS:BG w0 f)(hE:∀d,dl=d+1->EC w0 f 118 E d)(hG:∀d,dl=d+1->EC w0 f 203 S d)(hF:vP E)(hh:vP S):EC w0 f 203 (tE E S) dl:=by
 intro w p M vt s top N K h Y H J;refine aAz ?_;unfold aGd;have hN:=Y.hN;refine zV rfl λb1 w1 xb hv hf V=>?_;have h1:=h.ext V;have b:=h.loc hv xb hf;refine b.ld rfl ?_;refine rW h1 Y.ws hN Y.l λw2 h2 G=>?_;have b:=b.eff G;have G:=(Eff.ext V).trans G;have hq:=b.lt;have F:=Y.now;refine cO λb3 w3 xa hu he O=>?_;have h3:=h2.ext O;have j:=h2.loc hu xa he;have b:=b.ext O;refine dH (l:=kB (cur s)) j.1 rfl rfl rfl λw4 ya hc Q=>?_;have j:Loc w0 w4 p f M vt b3 TkT (kB (cur s)):=⟨hc,j.2.up (by omega)⟩;have h4:=h3.one Q j.2;have b:=b.one Q (by omega);have yc:=G.chg.size;have hx:=(G.x O).one Q (by omega);refine dE.cut (λst W=>∃(k:Int) (x:Str),st=[i64 k]/\isS s x=true/\tE E S s=((within (bK s) (cur s).a (bK s).quiet λq=>S (step1 q)).bind λx s2=>qS s2 ⟨k,[],[x],[],(cur s).a⟩)/\PR w0 W p f M vt (bK s) top/\Eff p f M M w W/\Loc w0 W p f M vt b1 PpT [.pointer (some ⟨p,0,none⟩)]/\Loc w0 W p f M vt b3 TkT (kB (cur s))) ?_ ?_
 .unfold tE at H J⊢;simp only[lW]at H J⊢;refine b.ld rfl ?_;refine DJ h4 F λw5 T o=>?_;rw[lI]at T;have b:=b.eff o;have j:=j.eff o;have o:=hx.trans o;rw[lW,fC];refine⟨λD=>⟨14,[33],rfl,D,by rw[aO D],T,o,b,j⟩,λD=>?_⟩;rw[aE (by rw[D];decide)]at H J⊢;refine b.ld rfl ?_;refine DJ T F λw6 h6 B=>?_;rw[lI]at h6;have b:=b.eff B;have j:=j.eff B;have B:=o.trans B;rw[lW,fC];refine⟨λD=>⟨13,[45],rfl,D,by rw[aO D],h6,B,b,j⟩,λD=>?_⟩;rw[aE (by rw[D];decide)]at H J;refine b.ld rfl ?_;exact aCG hS hE hF w6 p M vt _ top N _ h6 F (λx s' ex M' w7 h7 P=>H x s' ex M' w7 h7 (B.trans P)) J
 rintro st g w5 ⟨k,x,rfl,D,es,T,o,b,j⟩;rw[es]at H J;simp only[aG];have yb:=o.chg.size;have hq:=b.lt;have xx:=j.lt;refine cO λb5 w6 hz hs hb I=>?_;have h6:=T.ext I;have t:=T.loc hs hz hb;have b:=b.ext I;have j:=j.ext I;refine t.st rfl (by simp) λw7 t L xz=>?_;have h7:=(h6.one L t.2).drew;have b:=(b.one L (by omega)).drew;have j:=(j.one L (by omega)).drew;have t:=t.drew;have P:=((o.x I).one L (by omega)).x (cQ w7);refine b.ld rfl ?_;rw[bH,bN,aN];refine j.ld rfl ?_;refine b.ld rfl ?_;refine h7.ld rfl ?_;have xj:=F.lev;refine tD h7 (by omega) (λhd=>J 7 _ (by rw[xR hd];rfl)) λhd w8 h8 A=>?_;obtain⟨d,rfl⟩:∃d,dl=d+1:=⟨dl-1,by omega⟩;rw[AW hd]at H J;obtain⟨q1,q2,q3,q4⟩:=Y.sign D (bK s).quiet;have b:=b.eff A;have j:=j.eff A;have t:=t.eff A;have A:=P.trans A;refine iM (caps:=[.pointer (some ⟨b1,0,none⟩),.pointer (some ⟨b5,0,none⟩)]) ?_;refine aAr ?_;unfold aF6;refine b.ld rfl ?_;refine h8.go (wsi q1.ws q1.l) λw9 h9 v xy=>?_;have b:=b.eff v;have j:=j.eff v;have t:=t.eff v;have v:=A.trans v;refine b.ld rfl ?_;refine hG d rfl w9 p M vt _ top N _ h9 q4 (λy s' ey M' xt xe n=>?_) λc a' ey=>J c a' (by rw[ey];rfl);obtain⟨g10,_⟩:=q4.e hh ey;have pz:=hh.z (step1 {bK s with deep:=(bK s).deep+1,quiet:=(bK s).quiet});rw[ey]at H pz;have pz:Syn.phi s'<=Syn.phi (step1 (⟨(bK s).toks,(bK s).i,(bK s).off,(bK s).deep+1,(bK s).quiet,(bK s).ex,(bK s).bl⟩:PS)):=pz;have ps:=(tL q3).2;rw[q2]at ps;have pn:=nV s;have pe:Syn.phi (⟨(bK s).toks,(bK s).i,(bK s).off,(bK s).deep+1,(bK s).quiet,(bK s).ex,(bK s).bl⟩:PS)=Syn.phi (bK s):=rfl;simp only[R.bind]at H;have b:=b.eff n;have j:=j.eff n;have t:=t.eff n;have n:=v.trans n;refine t.st rfl (by simp) λxs t u xi=>?_;have xd:=xe.one u t.2;have b:=b.one u (by omega);have j:=j.one u (by omega);have ha:=n.one u (by omega);have g10l:=g10.lev;refine⟨M',s',xd,by omega,λxr hk m=>?_⟩;have b:=b.eff m;have j:=j.eff m;have t:=t.eff m;have m:=ha.trans m;refine b.ld rfl ?_;refine t.ld rfl ?_;refine nU λr xq hr U hw C=>?_;refine(j.ext C).ldf rfl ?_;simp only[eG,eP,fD,dW,aA,aD,aP,aU,Nat.reduceAdd,Nat.reduceLT,dQ,aZ];have X:=F.back (q:=(bK s).quiet) g10;refine LB (e:=⟨k,[],[y],[],(cur s).a⟩) (hk.ext C) (m.x C) (ER.noK rfl ((hk.row_new (l:=[y]) hr U hw (by simp)).le m.chg.size)) X λM2 ho xc Z _=>?_;exact H _ _ rfl M2 ho xc Z
theorem GY{E S:PS->R Nat}(hS:BG w0 f)(hE:∀d,dl=d+1->EC w0 f 118 E d)(hG:∀d,dl=d+1->EC w0 f 203 S d)(hF:vP E)(t:vP S):∀(m:Nat),m<=6->∀(w:World) (p:Nat) (M:Lay) (vt:Value) (s:PS) (top:List Nat) (N:Int) (K:Q0),PR w0 w p f M vt s top->Gd N s dl->
  (∀x s',mU E S m s=.ok x s'->∀M' W,PR w0 W p f M' vt s' top->Eff p f M M' w W->K (i64 (x:Nat)) W)->(∀c a,mU E S m s=.err c a->Thr w0 f c a)->aL P0 155 [.pointer (some ⟨p,0,none⟩),i64 ((6-m:Nat):Int)] w K
 |0,_,w,p,M,vt,s,top,N,K,h,P,O,D=>by
  refine Qq ?_
  unfold aE3
  rw[bW,aY]
  refine⟨λ_=>?_,λe=>absurd rfl e⟩
  exact Nv hS hE hG hF t w p M vt s top N _ h P O D
 |m+1,hm,w,p,M,vt,s,top,N,K,h,P,O,D=>by
  refine Qq ?_
  unfold aE3
  have hN:=P.hN
  have hJ:vP (mU E S m):=⟨λN=>zJ (hF.ok N) (t.ok N) m,zH hF.z t.z m⟩
  simp only[mU]at O D
  rw[bW,aY]
  refine⟨λe=>by omega,λ_=>?_⟩
  have up:∀{KK:Value->Prop},KK (i64 ((6-m:Nat):Int))->aS .add (i64 ((6-(m+1):Nat):Int)) (.int .i64 1) KK:=λh=>by
   rw[cP,fZ (by omega) (by omega),show((6-(m+1):Nat):Int)+1=((6-m:Nat):Int)by omega];exact h
  refine up ?_
  refine GY hS hE hG hF t m (by omega) w p M vt s top N _ h P (λx v ex M1 w2 h2 C=>?_) λc a' ex=>D c a' (by rw[ex];rfl)
  rw[ex]at O D
  simp only[R.bind]at O D
  obtain⟨L,hu⟩:=P.e hJ ex
  have u:=(hJ.ok N) s P.ws
  rw[ex]at u
  have u:=congrArg List.length u.1.1.toks
  generalize hR:tR (mU E S m) (5-m) (s.toks.length+1) v x=R0 at O D
  refine eK.go (λst W=>∃v M1 x n,st=[i64 ((x:Nat):Int)]/\PR w0 W p f M1 vt v top/\Gd N v dl/\Eff p f M M1 w W/\tR (mU E S m) (5-m) n v x=R0/\v.toks.length<n+v.i/\v.toks.length=s.toks.length) (λ_ W=>s.toks.length-CE W p)
   ⟨v,M1,x,s.toks.length+1,rfl,h2,L,C,hR,by have:=L.ws.lt;omega,u⟩ ?_
  clear C h2 ex L hu u hR
  rintro st g w2 ⟨F,M2,y,n,rfl,h2,j,C,b,hn,xq⟩
  simp only[aG]
  have xd:=j.ws.lt
  obtain⟨n,rfl⟩:∃m,n=m+1:=⟨n-1,by omega⟩
  simp only[tR]at b
  refine rW h2 j.ws hN j.l λw3 h3 B=>?_
  have B:=C.trans B
  have xp:=B.chg.size
  have U:=j.now
  refine cO λb6 w4 hw hp ha T=>?_
  have h4:=h3.ext T
  have o:=h3.loc hp hw ha
  refine dH (l:=kB (cur F)) o.1 rfl rfl rfl λw5 xo Z Y=>?_
  have o:Loc w0 w5 p f M2 vt b6 TkT (kB (cur F)):=⟨Z,o.2.up (by omega)⟩
  have h5:=h4.one Y o.2
  have hv:=(B.x T).one Y (by omega)
  refine gL o.1 rfl ?_
  refine Zg (by omega) λw6 H=>?_
  have h6:=h5.ext H
  have o:=o.ext H
  have V:=hv.x H
  have en:(6-(m+1):Nat)=5-m:=by omega
  rw[en,bW,aY]
  refine⟨λh0=>?_,λh0=>?_⟩
  .rw[aO h0]at b
   exact O y _ b.symm M2 w6 h6 V
  .rw[aE h0]at b
   have I:(cur F).k≠0:=λe=>h0 (by unfold qI;rw[e];rfl)
   have J:=j.step I
   have sg:=nH j.ws I
   have sp:=(tL I).2
   refine h6.go (wsi U.ws U.l) λw7 h7 A xn=>?_
   have o:=o.eff A
   have A:=V.trans A
   have hk:∀{KK:Value->Prop},KK (i64 ((6-m:Nat):Int))->aS .add (i64 ((5-m:Nat):Int)) (.int .i64 1) KK:=λh=>by
    rw[<-en];exact up h
   refine hk ?_
   refine GY hS hE hG hF t m (by omega) w7 p M2 vt _ top N _ h7 J (λz Q ez M3 w8 h8 q=>?_) λc a' ez=>D c a' (by rw[<-b,ez];rfl)
   obtain⟨g8,i8⟩:=J.e hJ ez
   have pz:=hJ.z (step1 (bK F))
   have oz:=hJ.ok N _ J.ws
   rw[ez]at b pz oz
   have pz:Syn.phi Q<=Syn.phi (step1 (bK F)):=pz
   have tz:=congrArg List.length oz.1.1.toks
   have xm:=congrArg List.length sg.1.toks
   simp only[R.bind]at b
   have o:=o.eff q
   have q:=A.trans q
   have hq:=q.chg.size
   refine MO λr w9 hr ho hs G=>?_
   refine(o.ext G).ldf rfl ?_
   simp only[eG,eP,fD,dW,aA,aD,aP,aU,Nat.reduceAdd,Nat.reduceLT,dQ,aZ]
   refine LB (e:=⟨qI (cur F) (5-m),[],[y,z],[],(cur F).a⟩) (h8.ext G) (q.x G) (ER.noK rfl ((h8.row_new (l:=[y,z]) hr ho hs (by simp)).le hq)) g8 λM4 xl he X _=>?_
   have xc:=g8.ws.lt
   have xs:=j.phi
   refine⟨⟨_,M4,_,n,rfl,he,g8.put (by omega),X,b,by show Q.toks.length<n+Q.i;omega,by show Q.toks.length=_;omega⟩,?_⟩
   rw[he.at_,h2.at_]
   show s.toks.length-Q.i<_
   have:=sg.2
   omega
end
def SY(s:PS)(w:Str):cN (bK s) w=cN s w:=by unfold cN;rw[lW,lI]
section
variable [HX]
variable{w0 w w' w1:World}{p f b:Nat}{M M' M0:Lay}{vt:Value}{s:PS}{top:List Nat}{N:Int}{K:Q0}{e:Ex}{va vk:Value}{wbn:Nat}{wb:World}{dl:Nat}
theorem Vg{E S:PS->R Nat}(hS:BG w0 f)(hE:∀d,dl=d+1->EC w0 f 118 E d)(hG:∀d,dl=d+1->EC w0 f 203 S d)(V:vP E)(U:vP S):EC w0 f 118 (yF E S) dl:=by
 intro w p M vt s top N K h hg D C;refine aBl ?_;unfold aGY;have hN:=hg.hN;have hJ:vP (mU E S 6):=⟨λN=>zJ (V.ok N) (U.ok N) 6,zH V.z U.z 6⟩;refine zV rfl λb1 w1 xq xh hm hb=>?_;have h1:=h.ext hb;have b:=h.loc xh xq hm;refine b.ld rfl ?_;unfold yF at D C;refine GY hS hE hG V U 6 (aQ _) w1 p M vt s top N _ h1 hg (λa O ea M1 w2 h2 L=>?_) λc Y ea=>C c Y (by rw[ea];rfl);rw[ea]at D C;simp only[R.bind]at D C;obtain⟨J,yx⟩:=hg.e hJ ea;have b:=b.eff L;have L:=(Eff.ext hb).trans L;refine b.ld rfl ?_;refine rW h2 J.ws hN J.l λw3 h3 G=>?_;have b:=b.eff G;have G:=L.trans G;have xd:=b.lt;have yu:=G.chg.size;have hc:=J.now;refine cO λb4 w4 xp xg hl P=>?_;have h4:=h3.ext P;have g:=h3.loc xg xp hl;have b:=b.ext P;refine dH (l:=kB (cur O)) g.1 rfl rfl rfl λw5 ys hj T=>?_;have g:Loc w0 w5 p f M1 vt b4 TkT (kB (cur O)):=⟨hj,g.2.up (by omega)⟩;have h5:=h4.one T g.2;have b:=b.one T (by omega);have xm:=(G.x P).one T (by omega);refine b.ld rfl ?_;refine yL h5 hc.ws hN hc.l λw6 h6 B=>?_;rw[SY]at h6⊢;have b:=b.eff B;have g:=g.eff B;have B:=xm.trans B;rw[gK,fC];refine⟨λhn=>?_,λhy=>?_⟩
 .have hn:(cN O [63]).1=false:=by simpa using hn
  rw[aE (by rw[hn];decide)]at D;exact D a _ rfl M1 w6 h6 B
 have hy:(cN O [63]).1=true:=by simpa using hy
 rw[aO hy]at D C;have Q:=J.take [63];have tp:=(pR O [63]).2 hy;generalize yv:(cN O [63]).2=s2 at*
 have xd:=b.lt;have yq:=g.lt;have yt:=B.chg.size;refine Vu λr w7 hr xf xi I=>?_;have h7:=h6.ext I;have m:=h6.loc xf hr xi;have b:=b.ext I;have g:=g.ext I;refine cO λb5 w8 xo xe hi F=>?_;have h8:=h7.ext F;have j:=h7.loc xe xo hi;have b:=b.ext F;have g:=g.ext F;have m:=m.ext F;refine j.st rfl (by simp) λw9 j H yr=>?_;have h9:=(h8.one H j.2).drew;have b:=(b.one H (by omega)).drew;have g:=(g.one H (by omega)).drew;have m:=(m.one H (by omega)).drew;have j:=j.drew;have xl:=(((B.x I).x F).one H (by omega)).x (cQ w9);refine b.ld rfl ?_;rw[bH,bN,aN];refine g.ld rfl ?_;refine b.ld rfl ?_;refine h9.ld rfl ?_;have ye:=Q.lev;refine tD h9 (by omega) (λhd=>C 7 _ (by rw[xR hd])) λhd ha X i=>?_;obtain⟨d,rfl⟩:∃d,dl=d+1:=⟨dl-1,by omega⟩;rw[AW hd]at D C;have q1:=Q.frame s2.quiet;have b:=b.eff i;have g:=g.eff i;have m:=m.eff i;have j:=j.eff i;have i:=xl.trans i;refine iM (caps:=[.pointer (some ⟨b1,0,none⟩),.pointer (some ⟨b5,0,none⟩)]) ?_;refine aAY ?_;unfold aGC;have b:=b.drew;have g:=g.drew;have m:=m.drew;have j:=j.drew;have X:=X.drew;have i:=i.x (cQ ha);refine j.ld rfl ?_;refine b.ld rfl ?_;refine hE d rfl ha.drew p M1 vt _ top N _ X q1 (λx s3 ex M3 yp xy u=>?_) λc Y ex=>C c Y (by rw[ex];rfl);obtain⟨g3,_⟩:=q1.e V ex;have px:=V.z {s2 with deep:=s2.deep+1,quiet:=s2.quiet};rw[ex]at D C px;have px:Syn.phi s3<=Syn.phi s2:=px;simp only[R.bind]at D C;have b:=b.eff u;have g:=g.eff u;have m:=m.eff u;have j:=j.eff u;have u:=i.trans u;refine⟨j.ld rfl rfl,?_⟩;rw[fI];refine⟨by omega,by omega,?_⟩;rw[bN,aN];refine m.st (off:=1) rfl (by simp) λyo m A yd=>?_;have xx:=xy.one A m.2;have b:=b.one A (by omega);have g:=g.one A (by omega);have j:=j.one A (by omega);have hh:=u.one A (by omega);refine b.ld rfl ?_;refine AX xx g3.ws hN g3.l (λs4 e4 Z W t=>?_) λc Y e4=>C c Y (by rw[e4]);have pw:=pQ s3 [58];rw[e4]at D C pw;have pw:Syn.phi s4+1<=Syn.phi s3:=pw;simp only at D C;obtain⟨g4,_⟩:=g3.want e4;have b:=(b.eff t).drew;have g:=(g.eff t).drew;have m:=(m.eff t).drew;have j:=(j.eff t).drew;have W:=W.drew;have t:=(hh.trans t).x (cQ Z);refine j.ld rfl ?_;refine b.ld rfl ?_;refine hE d rfl Z.drew p M3 vt _ top N _ W g4 (λy s5 ey M5 yn xw o=>?_) λc Y ey=>C c Y (by rw[ey]);obtain⟨g5,_⟩:=g4.e V ey;have py:=V.z s4;rw[ey]at D py;have py:Syn.phi s5<=Syn.phi s4:=py;simp only at D;have b:=b.eff o;have g:=g.eff o;have m:=m.eff o;have j:=j.eff o;have o:=t.trans o;refine⟨j.ld rfl rfl,?_⟩;rw[fI];refine⟨by omega,by omega,?_⟩;rw[bN,aN];refine m.st (off:=2) rfl (by simp) λym m v yc=>?_;have xv:=xw.one v m.2;have b:=b.one v (by omega);have g:=g.one v (by omega);have j:=j.one v (by omega);have hf:=o.one v (by omega);have g5l:=g5.lev;refine⟨M5,s5,xv,by omega,λhw xu n=>?_⟩;have b:=b.eff n;have g:=g.eff n;have m:=m.eff n;have j:=j.eff n;have n:=hf.trans n;refine b.ld rfl ?_;refine j.ld rfl ?_;refine g.ldf rfl ?_;simp only[eG,eP,fD,dW,aA,aD,aP,aU,Nat.reduceAdd,Nat.reduceLT,dQ,aZ];have g16:=Q.back (q:=s2.quiet) g5;have hR:Ro w0 hw p f M5 vt w.heap.size mA 1 (.slice (some ⟨r,0,none⟩) 3 3) 3 (ints [a,x,y]):=
  ⟨TY (cs:=ints [a,x,y]) m.1 m.2.1.1 rfl (by omega),λk hk=>by simp only[Value.ownBlock,bB]at hk;subst hk;exact m.2,λk hk=>by simp only[Value.ownBlock,bB]at hk;omega⟩
 refine LB (e:=⟨28,[],[a,x,y],[],(cur O).a⟩) xu n (ER.noK rfl hR) g16 λM6 hv xt he _=>?_;exact D _ _ rfl M6 hv xt he
def zO:vP dead:=⟨Ck,Bz⟩
def Hp(d:Nat):vP (mM d).1/\vP (mM d).2:=⟨⟨λN=>(xI N d).1,(Az d).1⟩,⟨λN=>(xI N d).2,(Az d).2⟩⟩
def Qc(b:BG w0 f):∀dl,EC w0 f 118 (mM dl).1 dl/\EC w0 f 203 (mM dl).2 dl
 |0=>⟨Vg b (λd e=>by omega) (λd e=>by omega) zO zO,Nv b (λd e=>by omega) (λd e=>by omega) zO zO⟩
 |d+1=>by
  have g:=Qc b d
  have c:=Hp d
  have i:∀a,d+1=a+1->EC w0 f 118 (mM d).1 a:=λa e=>by
   have e:a=d:=by omega
   subst e;exact g.1
  have h:∀a,d+1=a+1->EC w0 f 203 (mM d).2 a:=λa e=>by
   have e:a=d:=by omega
   subst e;exact g.2
  exact⟨Vg b i h c.1 c.2,Nv b i h c.1 c.2⟩
end
end
end Go.Proofs.YtjblfcfdeaagpaaGreatDoor
namespace Go.Syn
section
open Go Go.Eng Go.Lex
abbrev blL(bl:List Blk):List (List Nat):=bl.map (·.blocks)
abbrev vY(bl:List Blk):List Nat:=bl.flatMap λb=>b.attrs.map (·.e)
def HQ(us:List Atr):Prop:=∀a∈us,a.n≠[]
structure FI(s:PS)(pe pb:List Nat):Prop where
 ex:eX (exL s.ex) (vY s.bl++pe)
 bl:eX (blL s.bl) pb
 nm:∀b∈s.bl,HQ b.attrs
def FI.perm{s:PS}{a pb b:List Nat}(h:FI s u pb)(d:u.Perm a)(c:pb.Perm b):FI s a b:=⟨h.ex.perm (d.append_left _),h.bl.perm c,h.nm⟩
def FI.same{s s':PS}{pb:List Nat}(h:FI s u pb)(b:s'.ex=s.ex)(a:s'.bl=s.bl):FI s' u pb:=⟨by rw[b,a];exact h.ex,by rw[a];exact h.bl,by rw[a];exact h.nm⟩
def FI.expr{s s':PS}{x:Nat}{pb:List Nat}(h:FI s u pb)(a:s'.bl=s.bl)(b:∀roots,eX (exL s.ex) roots->eX (exL s'.ex) (x::roots)):FI s' (x::u) pb:=
 ⟨by rw[a];exact(b _ h.ex).perm (pI).symm,by rw[a];exact h.bl,by rw[a];exact h.nm⟩
def BOk(N:Int)(B:PS->R Nat):Prop:=∀s,WS N s->Sat (B s) (λx s'=>Later N s s'/\∀pe pb,FI s pe pb->FI s' pe (x::pb)) (InN N)
section
variable{N:Int}{E B:PS->R Nat}
def GX:∀(n:Nat) (s:PS) (ls:List Str),WS N s->Sat (pL n s ls) (λ_ s'=>Go1 N s s'/\s'.ex=s.ex/\s'.bl=s.bl) (InN N)
 |0,s,_,h=>⟨oU _,h.pN⟩
 |n+1,s,ls,h=>by
  have c:=nI h
  have a:=wH h
  simp only[pL]
  split
  .refine(Is (a.1.ws h) (t:=cur s) ⟨c.1,c.2.1⟩).bind λl i d=>?_
   subst d
   exact(GX n _ (ls++[l]) (a.1.ws h)).mono λ_ f ⟨g,e,b⟩=>⟨a.1.trans g,e.trans a.2.2.1,b.trans a.2.2.2⟩
  .exact⟨kF h,(kO s).1,(kO s).2⟩
theorem UL(w:EOk N E)(y:BOk N B){s:PS}(h:WS N s)(us:List Atr)(bs:List Nat)(n:HQ us):
  Sat (vX E B s us bs) (λx s'=>Later N s s'/\HQ x.1/\∀pe pb,FI s (us.map (·.e)++pe) (bs++pb)->FI s' (x.1.map (·.e)++pe) (x.2++pb)) (InN N):=by
 unfold vX;refine(qL h 1 (by decide)).bind λt b ⟨g1,l,p,m,u⟩=>?_;have d:=g1.1.ws h;have t1:=nG d [61];have f:=t1.1.ws d;have v:=nI h;split
 .refine(w _ f).bind λx q ⟨g2,b2,f2⟩=>?_;refine⟨⟨g1.1.trans (t1.1.trans g2.1),by have:=g1.2;have:=t1.1.le;have:=g2.2;omega⟩,λa c=>?_,λpe pb k=>?_⟩
  .rcases bM.1 c with c|c
   .exact n a c
   .rw[bO]at c;subst c;rw[m];exact v.2.2.2.2 (by rw[<-m];exact u)
  .have:=(k.same (s':=(cN b [61]).2) (t1.2.2.1.trans l) (t1.2.2.2.trans p)).expr b2 f2;refine this.perm ?_ (HY _);simp only[kT,cJ,kA,cD];exact(pI).symm
 .have r:=g1.2;have o:=t1.1.le;have j:Go1 N s {(cN b [61]).2 with i:=(cN b [61]).2.i-1}:=by
   have g:=g1.1.trans t1.1;refine⟨g.toks,g.off,g.deep,g.quiet,?_,?_,g.exs⟩
   .show s.i<=(cN b [61]).2.i-1;omega
   .show(cN b [61]).2.i-1<(cN b [61]).2.toks.length;have:=g.lt;omega
  refine(y _ (j.ws h)).bind λx q ⟨g2,f2⟩=>?_;refine⟨⟨j.trans g2.1,by have:=j.le;have:=g2.2;omega⟩,n,λpe pb k=>?_⟩;have:=f2 _ _ (k.same (s':={(cN b [61]).2 with i:=(cN b [61]).2.i-1}) (t1.2.2.1.trans l) (t1.2.2.2.trans p));refine this.perm (HY _) ?_;simp only[cD];exact(pI).symm
def IN(g:EOk N E)(i:BOk N B):∀(n:Nat) (s:PS) (us:List Atr) (bs:List Nat),WS N s->HQ us->
  Sat (pD E B n s us bs) (λx s'=>Later N s s'/\HQ x.1/\∀pe pb,FI s (us.map (·.e)++pe) (bs++pb)->FI s' (x.1.map (·.e)++pe) (x.2++pb)) (InN N)
 |0,s,_,_,h,_=>⟨oU _,h.pN⟩
 |n+1,s,us,bs,h,f=>by
  have t1:=nG h [125]
  have c:=t1.1.ws h
  simp only[pD]
  split
  .rename_i l
   exact⟨⟨t1.1,t1.2.1 l⟩,f,λpe pb d=>d.same t1.2.2.1 t1.2.2.2⟩
  refine(UL g i c us bs f).bind λx o ⟨g1,k,f1⟩=>?_
  have b:=g1.1.ws c
  have m1:=kF b
  have a:=m1.ws b
  split
  .have:=nI a
   exact⟨this.1,this.2.1⟩
  have l1:=nS a
  refine(IN g i n _ x.1 x.2 (l1.1.ws a) k).mono λy m ⟨g2,j,f2⟩=>⟨⟨t1.1.trans (g1.1.trans (m1.trans (l1.1.trans g2.1))),by have:=t1.1.le;have:=g1.2;have:=m1.le;have:=l1.1.le;have:=g2.2;omega⟩,j,λpe pb d=>f2 pe pb ?_⟩
  exact(f1 pe pb (d.same t1.2.2.1 t1.2.2.2)).same (l1.2.1.trans (kO _).1) (l1.2.2.trans (kO _).2)
theorem Jq(H:EOk N E)(I:BOk N B):BOk N (tU E B):=by
 intro s h;unfold tU;refine(qL h 1 (by decide)).bind λt F ⟨g1,D,M,Q,R⟩=>?_;have l:=g1.1.ws h;refine(GX _ F [] l).bind λls j ⟨g2,C,b2⟩=>?_;have c:=g2.ws l;have p:=kF c;have r:=p.ws c;have o:=nI c;split
 .exact⟨o.1,o.2.1⟩
 rename_i v;have v:isS j [123]=true:=by simpa using v
 have K:(bK j).ex=s.ex:=(kO _).1.trans (C.trans D);have L:(bK j).bl=s.bl:=(kO _).2.trans (b2.trans M);refine Sat.bind (qD r (a:=(cur j).a) (q:=false) ⟨o.1,o.2.1⟩ (P:=λ(x:List Atr×List Nat) s'=>Go1 N {bK j with deep:=(bK j).deep+1,quiet:=false} s'/\HQ x.1/\∀pe pb,FI s pe pb->FI s' (x.1.map (·.e)++pe) (x.2++pb)) λz=>?_) λx O ⟨q,⟨g4,m4,f4⟩,J⟩=>?_
 .have A:=sU c v ((bK j).deep+1) false;have y:=nH z A.2.1;rw[A.1]at y;have k:=y.1.ws z;have l4:=nS k;refine(IN H I _ _ [] [] (l4.1.ws k) (λa G=>by cases G)).mono λx s' ⟨g,m,f⟩=>⟨y.1.trans (l4.1.trans g.1),m,λpe pb w=>f pe pb ?_⟩;exact w.same (l4.2.1.trans K) (l4.2.2.trans L)
 .subst J;have n:=g4.back;have g:=g1.1.trans (g2.trans (p.trans n));refine⟨⟨⟨g.toks,g.off,g.deep,g.quiet,g.le,g.lt,g.exs⟩,by have:=g1.2;have:=g2.le;have:=p.le;have:=n.le;show s.i<q.i;simp only at this;omega⟩,λpe pb w=>?_⟩;have u:=f4 pe pb w;refine⟨?_,?_,?_⟩
  .show eX (exL q.ex) (vY (q.bl++[⟨t.t,ls,x.1,x.2,t.a⟩])++pe);have e:vY (q.bl++[⟨t.t,ls,x.1,x.2,t.a⟩])++pe=vY q.bl++(x.1.map (·.e)++pe):=by simp[vY]
   rw[e];exact u.ex
  .show eX (blL (q.bl++[⟨t.t,ls,x.1,x.2,t.a⟩])) (q.bl.length::pb);have:=u.bl.put;rw[cK]at this;simpa[blL]using this
  .intro b d;have d:b∈q.bl++[⟨t.t,ls,x.1,x.2,t.a⟩]:=d;rcases bM.1 d with d|d
   .exact u.nm b d
   .rw[bO]at d;subst d;exact m4
end
def Mz(N:Int):BOk N dead:=λ_ h=>⟨oU _,h.pN⟩
def EP(N:Int):∀d,BOk N (uN d)
 |0=>Jq (Ck N) (Mz N)
 |d+1=>Jq (xI N d).1 (EP N d)
def OY{N:Int}:∀(n:Nat) (s:PS) (top:List Nat),WS N s->Sat (wR n s top) (λx s'=>Go1 N s s'/\(FI s [] top->FI s' [] x)) (InN N)
 |0,s,_,h=>⟨oU _,h.pN⟩
 |n+1,s,top,h=>by
  have d:=kF h
  have c:=d.ws h
  simp only[wR]
  split
  .exact⟨d,λe=>e.same (kO _).1 (kO _).2⟩
  refine(EP N 24 _ c).bind λx f ⟨g1,f1⟩=>?_
  have b:=g1.1.ws c
  have m1:=kF b
  have a:=m1.ws b
  split
  .have:=nI a
   exact⟨this.1,this.2.1⟩
  have l1:=nS a
  refine(OY n _ (top++[x]) (l1.1.ws a)).mono λy g ⟨g2,f2⟩=>⟨d.trans (g1.1.trans (m1.trans (l1.1.trans g2))),λe=>f2 ?_⟩
  have:=(f1 [] top (e.same (kO _).1 (kO _).2)).same (s':=hY (bK f)) (l1.2.1.trans (kO _).1) (l1.2.2.trans (kO _).2)
  refine this.perm (HY _) ?_
  exact(List.perm_append_comm (l₁:=[x]) (l₂:=top))
def uW(t:Str):match lS t with
  |.bad _ a=>0<=a/\a<=(t.length:Nat)
  |.ok f=>(∀e∈f.ex,0<=e.a/\e.a<(t.length:Nat))/\eX (exL f.ex) (vY f.bl)/\eX (blL f.bl) f.top/\∀b∈f.bl,HQ b.attrs:=by
 unfold lS;cases m:mS t with
 |bad c a=>exact Gz m
 |ok l=>
  have d:=Di (N:=(t.length:Nat)) (off:=0) m (oU _) (by omega);have k:WS (t.length:Nat) ⟨l,0,0,0,false,[],[]⟩:=⟨d,iO.2 d.ne,by omega⟩;have l1:=nS k;have h:=OY (l.length+1) (hY ⟨l,0,0,0,false,[],[]⟩) [] (l1.1.ws k);cases i:wR (l.length+1) (hY ⟨l,0,0,0,false,[],[]⟩) []with
  |err c a=>
   rw[i]at h;simp only[i];exact h
  |ok top s'=>
   rw[i]at h;simp only[i];obtain⟨g,f⟩:=h;have j:=f (FI.same (s:=⟨l,0,0,0,false,[],[]⟩) ⟨eX.nil,eX.nil,λb o=>by cases o⟩ l1.2.1 l1.2.2);refine⟨λe n=>?_,by have:=j.ex;rw[dL]at this;exact this,j.bl,j.nm⟩;rcases g.exs e n with h|h
   .rw[l1.2.1]at h;cases h
   .exact h
end
end Go.Syn
namespace Go.Proofs.YtjblfcfdeaagpaaGreatDoor
section
open Go Go.Eng Go.RowKit Go.Syn Go.Lex
section
variable{w0 w w1 w2:World}{p f:Nat}{M:Lay}{vt:Value}{s:PS}{top:List Nat}
theorem PR.putB(h:PR w0 w p f M vt s top){wb:World}{M0:Lay}(m:Eff p f M0 M wb w){e:Blk}{v':Value}(r:BkR w w0.heap.size e d)(o:∀k∈ub d,Off w0 w p f M vt k)(L:(ub d).Nodup)(u:∀k∈ub d,wb.heap.size<=k)
  (F:Own w1 w0.heap.size BkT 5 v' (s.bl.length+1) (M.cB++d))(D:Chg (λk=>M.vB.ownBlock=some k) w w1)(i:∀k,v'.ownBlock=some k->M.vB.ownBlock=some k\/w.heap.size<=k)
  (q:Chg (One f) w1 w2)(J:w2.heap[f]?=some (.cells [M.vE,v',M.vT].toArray FlT (0,0))):PR w0 w2 p f {M with vB:=v',cB:=M.cB++d} vt {s with bl:=s.bl++[e]} top/\Eff p f M0 {M with vB:=v',cB:=M.cB++d} wb w2:=by
 have Q:=h.base;have K:=m.chg.size;have z:=No M f;have g:∀k,M.vB.ownBlock=some k->k∈M.uses f:=λk b=>aF _ (eZ (v:=M.vB) (by simp) b);have l:=z.nodup_iff.1 h.fr.nd;have y:=l;rw[dX,iE]at y;obtain⟨nf,_,P,A⟩:=y;have j:∀k∈ub ([M.vE,M.vT]++(M.cE++M.cB)),k∈M.uses f:=λk b=>z.mem_iff.2 (aF _ (bR _ b));have rest:∀k∈ub ([M.vE,M.vT]++(M.cE++M.cB)),M.vB.ownBlock≠some k/\k≠f/\k<w.heap.size:=λk b=>
  ⟨λe=>A k (kM.2 e) k b rfl,λe=>nf (e▸bR _ b),h.fr.lt k (j k b)⟩
 have c:Chg (λk=>M.vB.ownBlock=some k\/k=f) w w2:=(D.mono λk _ e=>.inl e).trans (q.mono λk _ e=>.inr e);have sub:∀v∈[M.vE,M.vT]++(M.cE++M.cB),∀k,v.ownBlock=some k->¬(M.vB.ownBlock=some k\/k=f):=λv i k b e=>by
  have:=rest k (eZ i b);exact e.elim this.1 this.2.1
 have E:∀k,v'.ownBlock=some k->k≠f:=λk b e=>by
  subst e;rcases i k b with e|e
  .exact nf (cH _ (kM.2 e))
  .have:=pC h.fr.hf;omega
 have H:M.vB.ownBlock≠some p:=λe=>h.np (g p e);have G:p≠f:=λe=>h.np (e▸bC);have perm:=Wh M f v' d;have N:(f::(ub [v']++(ub d++ub ([M.vE,M.vT]++(M.cE++M.cB))))).Nodup:=Kh (n:=w.heap.size) (a:=ub [M.vB]) l (λk b=>h.fr.lt k (z.mem_iff.2 b)) (qQ _) (λk b=>(i k (kM.1 b)).imp (λe=>kM.2 e) id) L λk b=>⟨(o k b).1.2,λe=>(o k b).2.2.1 (z.mem_iff.2 e)⟩;have B:=c.size;have mem:∀k∈({M with vB:=v',cB:=M.cB++d}:Lay).uses f,k=f\/v'.ownBlock=some k\/k∈ub d\/k∈ub ([M.vE,M.vT]++(M.cE++M.cB)):=λk b=>by
  have b:=perm.mem_iff.1 b;rcases aX.1 b with e|e
  .exact .inl e
  rcases bM.1 e with e|e
  .exact .inr (.inl (kM.1 e))
  rcases bM.1 e with e|e
  .exact .inr (.inr (.inl e))
  .exact .inr (.inr (.inr e))
 have O:Chg (Tn p f M) w w2:=c.mono λk _ e=>e.elim (λe=>.inr (.inr (.inr e))) λe=>.inr (.inl e);refine⟨⟨?_,⟨J,?_,?_,?_,?_,?_,perm.nodup_iff.2 N,λk b=>?_,λk b=>?_⟩,?_,?_,λe=>?_,h.lo,λk b=>?_⟩,⟨(m.trans (Eff.of O)).chg,λk b=>?_,m.hE,λk b=>(i k b).elim (m.hB k) λe=>.inr (by omega),m.hT⟩⟩
 .refine h.ch.then c λk b e=>?_;rcases e with e|e
  .exact(h.fr.lo k (g k e)).resolve_right (by omega)
  .exact e
 .exact eJ h.fr.oE c (sub _ (by simp))
 .rw[aB];exact eJ F q λk b e=>E k b e
 .exact eJ h.fr.oT c (sub _ (by simp))
 .refine h.fr.ee.imp λx d r C=>C.at_ c λk b=>?_;obtain⟨v,i,b⟩:=cA.1 b;exact sub v (by simp[r v i]) k b
 .refine lV.snoc ?_ (r.at_ c λk b e=>?_) (by obtain⟨vl,va,vk,rfl,_⟩:=r;rfl)
  .refine h.fr.bb.imp λx d r C=>C.at_ c λk b=>?_;obtain⟨v,i,b⟩:=cA.1 b;exact sub v (by simp[r v i]) k b
  .have I:=(o k b).2.2.1;rcases e with e|e
   .exact I (g k e)
   .exact I (e▸bC)
 .rcases mem k b with e|e|e|e
  .rw[e];exact pC J
  .exact dM (lK F e).1 q.size
  .exact dM (o k e).1.2 B
  .exact dM (rest k e).2.2 B
 .rcases mem k b with e|e|e|e
  .exact .inl e
  .exact .inr (lK F e).2
  .exact .inr (o k e).1.1
  .exact h.fr.lo k (j k e)
 .exact c.at h.ps λe=>e.elim H G
 .exact xU h.tk c λk b e=>by
   have:=(h.nt k b).1;rcases e with e|e
   .exact this (g k e)
   .exact this (e▸bC)
 .rcases mem p e with e|e|e|e
  .exact G e
  .exact(i p e).elim H λe=>by have:=h.lt;omega
  .exact(o p e).2.1 rfl
  .exact h.np (j p e)
 .have t:=h.nt k b;refine⟨λe=>?_,t.2.1,dM t.2.2 B⟩;rcases mem k e with e|e|e|e
  .exact t.1 (e▸bC)
  .exact(i k e).elim (λe=>t.1 (g k e)) λe=>by omega
  .exact(o k e).2.2.2 b
  .exact t.1 (j k e)
 .rcases mem k b with e|e|e|e
  .exact m.us k (e▸bC)
  .exact(i k e).elim (λe=>m.us k (g k e)) λe=>.inr (by omega)
  .exact .inr (u k e)
  .exact m.us k (j k e)
end
structure Jw(F:PS->R Nat):Prop where
 ok:∀N,BOk N F
 z:EZ F
def Gd.bk{x:Nat}{s s':PS}{N:Int}{F:PS->R Nat}(h:Gd N s i)(b:Jw F)(e:F s=.ok x s'):Gd N s' i/\s.i<s'.i/\s'.toks=s.toks:=by
 have a:=b.ok N s h.ws;have c:=b.z s;rw[e]at a c;exact⟨h.go a.1.1 c,a.1.2,a.1.1.toks⟩
section
variable [HX]
variable{w0 w w' w1:World}{p f b:Nat}{M M' M0:Lay}{vt:Value}{s:PS}{top:List Nat}{N:Int}{K:Q0}{e:Ex}{wbn:Nat}{wb:World}{dl:Nat}
structure BL(w0 w:World)(p f:Nat)(M:Lay)(vt:Value)(B1 b4:Nat)(typ:Str)(a:Int)(vl va vb:Value)(ls:List Str)(av:List Atr)(bs:List Nat):Prop where
 l4:Loc w0 w p f M vt b4 BkT [str typ,vl,va,vb,i64 a]
 rL:Ro w0 w p f M vt B1 StT 1 vl ls.length (strs ls)
 rA:Ro w0 w p f M vt B1 AtT 3 va av.length (lP av)
 rB:Ro w0 w p f M vt B1 mA 1 vb bs.length (ints bs)
 d1:∀k,vl.ownBlock=some k->va.ownBlock≠some k
 d2:∀k,vl.ownBlock=some k->vb.ownBlock≠some k
 d3:∀k,va.ownBlock=some k->vb.ownBlock≠some k
 lt:b4<B1/\B1<=w.heap.size
section
variable{B1 b4:Nat}{typ:Str}{a:Int}{vl va vb:Value}{ls:List Str}{av:List Atr}{bs:List Nat}
def BL.eff(h:BL w0 w p f M vt B1 b4 typ a vl va vb ls av bs)(b:Eff p f M M' w W):BL w0 W p f M' vt B1 b4 typ a vl va vb ls av bs:=
 ⟨h.l4.eff b,h.rL.eff b,h.rA.eff b,h.rB.eff b,h.d1,h.d2,h.d3,h.lt.1,dN h.lt.2 b.chg.size⟩
def BL.ext(h:BL w0 w p f M vt B1 b4 typ a vl va vb ls av bs)(b:Ext w W):BL w0 W p f M vt B1 b4 typ a vl va vb ls av bs:=h.eff (Eff.ext b)
def BL.one(h:BL w0 w p f M vt B1 b4 typ a vl va vb ls av bs)(c:Chg (One b) w W)(d:b≠b4)(e:vl.ownBlock≠some b)(i:va.ownBlock≠some b)(g:vb.ownBlock≠some b):BL w0 W p f M vt B1 b4 typ a vl va vb ls av bs:=
 ⟨h.l4.one c (kY d),h.rL.one c e,h.rA.one c i,h.rB.one c g,h.d1,h.d2,h.d3,h.lt.1,dN h.lt.2 c.size⟩
def BL.fresh(h:BL w0 w p f M vt B1 b4 typ a vl va vb ls av bs){k:Nat}(b:w.heap.size<=k):k≠b4/\vl.ownBlock≠some k/\va.ownBlock≠some k/\vb.ownBlock≠some k:=
 ⟨λe=>by have:=h.l4.lt;omega,λe=>by have:=(h.rL.off k e).1.2;omega,λe=>by have:=(h.rA.off k e).1.2;omega,λe=>by have:=(h.rB.off k e).1.2;omega⟩
def BL.no4(h:BL w0 w p f M vt B1 b4 typ a vl va vb ls av bs):vl.ownBlock≠some b4/\va.ownBlock≠some b4/\vb.ownBlock≠some b4:=
 ⟨λe=>by have:=h.rL.new _ e;have:=h.lt.1;omega,λe=>by have:=h.rA.new _ e;have:=h.lt.1;omega,λe=>by have:=h.rB.new _ e;have:=h.lt.1;omega⟩
theorem BL.appL{x:Str}{KW:World->Prop}(h:BL w0 w p f M vt B1 b4 typ a vl va vb ls av bs)(G:PR w0 w p f M vt s top)(F:w.heap[r]?=some (.cells [str x].toArray StT (0,0)))(H:ls.length<=1000000)
  (K:∀j W,BL w0 W p f M vt B1 b4 typ a j va vb (ls++[x]) av bs->PR w0 W p f M vt s top->Chg (λk=>vl.ownBlock=some k\/k=b4) w W->(∀b T cs,Loc w0 w p f M vt b T cs->b≠b4->vl.ownBlock≠some b->Loc w0 W p f M vt b T cs)->(∀k,j.ownBlock=some k->vl.ownBlock=some k\/w.heap.size<=k)->KW W):
  fV P0 (Builtin.append_ #[33,33] U #[vl,.slice (some ⟨r,0,none⟩) 1 1]) w λt62 l=>bF 1 (.pointer (some ⟨b4,0,none⟩)) λt63=>stW 1 t63 t62 l KW:=by
 refine Ro.app DY h.rL G F rfl (λu y=>by simp only[bO]at y;subst y;rfl) H (by decide) h.lt.2 λv w2 d i o q=>?_;have L:(ls++[x]).length=ls.length+1:=by simp
 rw[<-L,show strs ls++[str x]=strs (ls++[x])from by simp[strs]]at d;rw[bH,bN,aN];obtain⟨vp,N,ev,_⟩:=d.own.sl.shape;obtain⟨D,C,n3⟩:=h.no4;have m:v.ownBlock≠some b4:=λe=>by have:=d.new b4 e;have:=h.lt.1;omega
 refine(h.l4.row i D).st (by rw[ev];rfl) (by simp) λB A c E=>?_;have z:=i.size;refine K v B ⟨A,d.one c m,(h.rA.row i λk g e=>h.d1 k e g).one c C,(h.rB.row i λk g e=>h.d2 k e g).one c n3,λk g=>?_,λk g=>?_,h.d3,h.lt.1,by have:=h.lt.2;omega⟩ (q.one c A.2) ((i.mono λk _ e=>.inl e).trans (c.mono λk _ e=>.inr e)) (λb T cs J I n=>(J.row i n).one c I) o
 .exact(o k g).elim (h.d1 k) λe t=>by have:=(h.rA.off k t).1.2;omega
 .exact(o k g).elim (h.d2 k) λe t=>by have:=(h.rB.off k t).1.2;omega
theorem BL.appA{x:Atr}{KW:World->Prop}(h:BL w0 w p f M vt B1 b4 typ a vl va vb ls av bs)(G:PR w0 w p f M vt s top)(F:w.heap[r]?=some (.cells [str x.n,i64 (x.e:Nat),i64 x.a].toArray AtT (0,0)))(H:av.length<=1000000)
  (K:∀j W,BL w0 W p f M vt B1 b4 typ a vl j vb ls (av++[x]) bs->PR w0 W p f M vt s top->Chg (λk=>va.ownBlock=some k\/k=b4) w W->(∀b T cs,Loc w0 w p f M vt b T cs->b≠b4->va.ownBlock≠some b->Loc w0 W p f M vt b T cs)->(∀k,j.ownBlock=some k->va.ownBlock=some k\/w.heap.size<=k)->KW W):
  fV P0 (Builtin.append_ #[36,36] U #[va,.slice (some ⟨r,0,none⟩) 1 1]) w λt62 l=>fA (.pointer (some ⟨b4,0,none⟩)) λt63=>bF 2 t63 λt63=>stW 1 t63 t62 l KW:=by
 refine Ro.app Mq h.rA G F rfl (λu y=>by simp only[aX,bU,fT]at y;rcases y with rfl|rfl|rfl<;>rfl) H (by decide) h.lt.2 λv w2 d i q t=>?_;have L:(av++[x]).length=av.length+1:=by simp
 rw[<-L,show lP av++[str x.n,i64 (x.e:Nat),i64 x.a]=lP (av++[x])from by simp[lP]]at d;rw[dJ,bH,bN,aN];obtain⟨vp,O,ev,_⟩:=d.own.sl.shape;obtain⟨D,C,n3⟩:=h.no4;have m:v.ownBlock≠some b4:=λe=>by have:=d.new b4 e;have:=h.lt.1;omega
 refine(h.l4.row i C).st (by rw[ev];rfl) (by simp) λB A c E=>?_;have z:=i.size;refine K v B ⟨A,(h.rL.row i λk g e=>h.d1 k g e).one c D,d.one c m,(h.rB.row i λk g e=>h.d3 k e g).one c n3,λk g e=>?_,h.d2,λk g=>?_,h.lt.1,by have:=h.lt.2;omega⟩ (t.one c A.2) ((i.mono λk _ e=>.inl e).trans (c.mono λk _ e=>.inr e)) (λb T cs J I o=>(J.row i o).one c I) q
 .exact(q k e).elim (λe=>h.d1 k g e) λe=>by have:=(h.rL.off k g).1.2;omega
 .exact(q k g).elim (h.d3 k) λe N=>by have:=(h.rB.off k N).1.2;omega
theorem BL.appB{x:Nat}{KW:World->Prop}(h:BL w0 w p f M vt B1 b4 typ a vl va vb ls av bs)(F:PR w0 w p f M vt s top)(E:w.heap[r]?=some (.cells [i64 (x:Nat)].toArray mA (0,0)))(G:bs.length<=1000000)
  (J:∀j W,BL w0 W p f M vt B1 b4 typ a vl va j ls av (bs++[x])->PR w0 W p f M vt s top->Chg (λk=>vb.ownBlock=some k\/k=b4) w W->(∀b T cs,Loc w0 w p f M vt b T cs->b≠b4->vb.ownBlock≠some b->Loc w0 W p f M vt b T cs)->(∀k,j.ownBlock=some k->vb.ownBlock=some k\/w.heap.size<=k)->KW W):
  fV P0 (Builtin.append_ #[26,26] U #[vb,.slice (some ⟨r,0,none⟩) 1 1]) w λt62 l=>fA (.pointer (some ⟨b4,0,none⟩)) λt63=>bF 3 t63 λt63=>stW 1 t63 t62 l KW:=by
 refine Ro.app EJ h.rB F E rfl (λu v=>by simp only[bO]at v;subst v;rfl) G (by decide) h.lt.2 λt w2 g i o q=>?_;have K:(bs++[x]).length=bs.length+1:=by simp
 rw[<-K,show ints bs++[i64 (x:Nat)]=ints (bs++[x])from by simp[ints]]at g;rw[dJ,bH,bN,aN];obtain⟨vp,L,ev,_⟩:=g.own.sl.shape;obtain⟨C,B,n3⟩:=h.no4;have m:t.ownBlock≠some b4:=λe=>by have:=g.new b4 e;have:=h.lt.1;omega
 refine(h.l4.row i n3).st (by rw[ev];rfl) (by simp) λA y c D=>?_;have z:=i.size;refine J t A ⟨y,(h.rL.row i λk d e=>h.d2 k d e).one c C,(h.rA.row i λk d e=>h.d3 k d e).one c B,g.one c m,h.d1,λk d e=>?_,λk d e=>?_,h.lt.1,by have:=h.lt.2;omega⟩ (q.one c y.2) ((i.mono λk _ e=>.inl e).trans (c.mono λk _ e=>.inr e)) (λb T cs I H n=>(I.row i n).one c H) o
 .exact(o k e).elim (λe=>h.d2 k d e) λe=>by have:=(h.rL.off k d).1.2;omega
 .exact(o k e).elim (λe=>h.d3 k d e) λe=>by have:=(h.rA.off k d).1.2;omega
def Gd.etoks{x:Nat}{s':PS}{F:PS->R Nat}(h:Gd N s dl)(b:vP F)(e:F s=.ok x s'):s'.toks=s.toks:=by
 have a:=b.ok N s h.ws;rw[e]at a;exact a.1.1.toks
theorem Gd.name_back{t:Tok}{s1:PS}(h:Gd N s dl)(e:mT s 1=.ok t s1)(c:(cN s1 [61]).1=false):
  Gd N {(cN s1 [61]).2 with i:=(cN s1 [61]).2.i-1} dl/\s.i<=(cN s1 [61]).2.i-1/\1<=(cN s1 [61]).2.i/\(cN s1 [61]).2.toks=s.toks:=by
 have b:=h.kind (by decide) e;have a:=qL h.ws 1 (by decide);rw[e]at a;have j:s1=step1 (bK s):=by
  unfold mT at e;split at e
  .rename_i b;injection e with _ e
   rw[<-e];unfold kP;rw[aO (by rw[b];decide)]
  .cases e
 have t1:=nG b.1.ws [61];have l:(cN s1 [61]).2=bK s1:=by
  unfold cN at c⊢;split
  .rename_i d;rw[aO d]at c;cases c
  .rfl
 have q:=b.2.1;have p:=t1.1.le;have f:Go1 N s {(cN s1 [61]).2 with i:=(cN s1 [61]).2.i-1}:=by
  have g:=a.1.1.trans t1.1;refine⟨g.toks,g.off,g.deep,g.quiet,?_,?_,g.exs⟩
  .show s.i<=(cN s1 [61]).2.i-1;omega
  .show(cN s1 [61]).2.i-1<(cN s1 [61]).2.toks.length;have:=g.lt;omega
 refine⟨h.go f ?_,by omega,by omega,(t1.1.toks).trans a.1.1.toks⟩;have d:s.i<=(bK s1).i-1:=by rw[<-l];omega
 have o:(bK s1).ex=s.ex:=(kO s1).1.trans (by rw[j];exact(kO s).1);have n:(bK s1).bl=s.bl:=(kO s1).2.trans (by rw[j];exact(kO s).2);have m:(bK s1).toks=s.toks:=by
  have k:∀s:PS,(bK s).toks=s.toks:=λs=>by unfold bK;split<;>rfl
  rw[k,j];exact k s
 rw[l];unfold Syn.phi;simp only;rw[o,n,m];have:=Ni s.toks d;omega
theorem aDU{E B:PS->R Nat}(hE:EC w0 f 118 E dl)(hB:EC w0 f 32 B dl)(hF:vP E)(xj:Jw B)(h:PR w0 w p f M vt s top)(V:Gd N s dl)(hL:BL w0 w p f M vt B1 b4 typ a vl va vb ls av bs)(xf:av.length<=1000000)(xc:bs.length<=1000000)
  {M0:Lay}{wb:World}(S:Eff p f M0 M wb w)(yc:wb.heap.size<=b4)(xz:wb.heap.size<=B1)
  (z:∀x s',vX E B s av bs=.ok x s'->∀M' C A W,PR w0 W p f M' vt s' top->Gd N s' dl->s.i<s'.i->s'.toks=s.toks->x.1.length<=av.length+1->x.2.length<=bs.length+1->Eff p f M0 M' wb W->BL w0 W p f M' vt B1 b4 typ a vl C A ls x.1 x.2->
    (∀b T cs,Loc w0 w p f M vt b T cs->b≠b4->va.ownBlock≠some b->vb.ownBlock≠some b->Loc w0 W p f M' vt b T cs)->(∀k,C.ownBlock=some k->va.ownBlock=some k\/w.heap.size<=k)->(∀k,A.ownBlock=some k->vb.ownBlock=some k\/w.heap.size<=k)->K (.tuple #[]) W)
  (G:∀c H,vX E B s av bs=.err c H->Thr w0 f c H):
  aL P0 69 [.pointer (some ⟨p,0,none⟩),.pointer (some ⟨b4,0,none⟩)] w K:=by
 refine aEr ?_;unfold W69;have hN:=V.hN;unfold vX at z G;refine Bs h V.ws hN V.l (λt s1 X w1 h1 Q=>?_) λc H X=>G c H (by rw[X];rfl);rw[X]at z G;simp only[R.bind]at z G;have o:=V.kind (by decide) X;have ha:=qL V.ws 1 (by decide);rw[X]at ha;have he:=hL.eff Q;refine cO λb5 w2 xd hp hd L=>?_;have h2:=h1.ext L;have n:=h1.loc hp xd hd;have F:=he.fresh (k:=b5) (by omega);refine dH (l:=kB t) n.1 rfl rfl rfl λw3 xw hc U=>?_;have n:Loc w0 w3 p f M vt b5 TkT (kB t):=⟨hc,n.2.up (by omega)⟩;have h3:=h2.one U n.2;have xh:=(he.ext L).one U F.1 F.2.1 F.2.2.1 F.2.2.2;have xx:=Q.chg.size;have hz:Eff p f M M w w3:=(Q.x L).one U (by omega);refine yL h3 o.1.ws hN o.1.l λw4 h4 m=>?_;have n:=n.eff m;have y:=xh.eff m;have m:=hz.trans m;have q:=o.1.take [61];have tg:=nG o.1.ws [61];have zz:=S.chg.size;rw[fC];refine⟨λhy=>?_,λhn=>?_⟩
 ·
  rw[aO hy]at z G;have n:=n.drew;have y:=y.ext (cQ w4);have h4:=h4.drew;have m:=m.x (cQ w4);rw[dJ,bH,bN,aN];refine y.l4.ld rfl ?_;rw[bH,bN,aN];refine n.ld rfl ?_;rw[bH,bN,aN];refine n.ld rfl ?_;refine hE w4.drew p M vt _ top N _ h4 q (λx s2 ex M2 w5 h5 g=>?_) λc H ex=>G c H (by rw[ex]);rw[ex]at z;simp only at z;obtain⟨g2,i2⟩:=q.e hF ex;have t2:=q.etoks hF ex;have n:=n.eff g;have v:=y.eff g;have g:=m.trans g;refine⟨n.ld rfl rfl,n.ld rfl rfl,v.l4.ld rfl rfl,?_⟩;simp only[eG,eP,dW,aA,aD,aP,aU,Nat.reduceAdd,Nat.reduceLT,dQ,aZ];refine Ec (d:=[str t.t,i64 ((x:Nat):Int),i64 t.a]) rfl rfl λr w6 hr xu O J=>?_;have u:=v.ext J;have j:=g.x J;have yb:=j.chg.size;refine⟨u.l4.ld rfl rfl,?_⟩;refine u.appA (x:=⟨t.t,x,t.a⟩) (h5.ext J) O xf λC w7 D h7 xb hv hs=>?_;refine z _ _ rfl M2 C vb w7 h7 g2 (by have:=tg.1.le;have:=o.2.1;omega) (t2.trans (tg.1.toks.trans ha.1.1.toks)) (by simp) (by simp) (((S.trans j).then xb λk hx e=>?_)) D (λb T cs hl hb Z Y=>hv b T cs (hl.eff j) hb Z) (λk o=>(hs k o).imp id λe=>by omega) λk o=>.inl o;rcases e with e|e
  .have:=hL.rA.new k e;omega
  .omega
 ·
  have hn:(cN s1 [61]).1=false:=by simpa using hn
  rw[aE (by rw[hn];decide)]at z G;obtain⟨gb,ib,i1,tb⟩:=V.name_back X hn;refine h4.ld rfl ?_;have ye:=q.ws.lt;have yd:=q.few;rw[gR,fZ (by omega) (by omega),show(((cN s1 [61]).2.i:Nat):Int)-1=(((cN s1 [61]).2.i-1:Nat):Int)by omega];refine h4.st_i λw5 h5 g xv=>?_;have v:=(y.eff g).ext (cQ w5);have h5:=h5.drew;have g:=(m.trans g).x (cQ w5);rw[dJ,bH,bN,aN];refine v.l4.ld rfl ?_;refine hB w5.drew p M vt _ top N _ h5 gb (λx s2 ex M2 w6 h6 j=>?_) λc H ex=>G c H (by rw[ex]);rw[ex]at z;simp only at z;obtain⟨g2,i2,t2⟩:=gb.bk xj ex;have u:=v.eff j;have j:=g.trans j;refine⟨u.l4.ld rfl rfl,?_⟩;refine nU λr w7 hr xt O I=>?_;have D:=u.ext I;have P:=j.x I;have ya:=P.chg.size;refine⟨D.l4.ld rfl rfl,?_⟩;refine D.appB (h6.ext I) O xc λA w8 xg h8 xa hu hq=>?_;refine z _ _ rfl M2 va A w8 h8 g2 (by have i2:(cN s1 [61]).2.i-1<s2.i:=i2;omega) (t2.trans tb) (by simp) (by simp) ((S.trans P).then xa λk hx e=>?_) xg (λb T cs hl hb Z Y=>hu b T cs (hl.eff P) hb Y) (λk o=>.inl o) λk o=>(hq k o).imp id λe=>by omega
  rcases e with e|e
  .have:=hL.rB.new k e;omega
  .omega
end
end
section
variable [HX]
variable{w0 w w' w1:World}{p f:Nat}{M M' M0:Lay}{vt:Value}{s:PS}{top:List Nat}{N:Int}{K:Q0}{e:Ex}{wbn:Nat}{wb:World}{dl:Nat}{B1 b4:Nat}{typ:Str}{a:Int}{vl va vb:Value}{ls:List Str}{av:List Atr}{bs:List Nat}
def Rf(s:PS):kP (bK s)=kP s:=by unfold kP;rw[pO,lI]
def Gd.plain{N:Int}{s s':PS}{t:Tok}{l:Str}(e:qG s t=.ok l s'):s'=s:=by
 unfold qG at e;split at e
 .cases e
 .injection e with _ e;exact e.symm
theorem Zl{E B:PS->R Nat}(hE:EC w0 f 118 E dl)(hB:EC w0 f 32 B dl)(hF:vP E)(hw:Jw B)(h:PR w0 w p f M vt s top)(hg:Gd N s dl)(hs:(cur s).k≠0)(Q:bK s=s)
  (r:BL w0 w p f M vt B1 b4 typ a vl (.slice none 0 0) (.slice none 0 0) ls [] [])(d:Loc w0 w p f M vt i PpT [.pointer (some ⟨p,0,none⟩)])(z:i<B1/\i≠b4)
  {M0:Lay}{wb:World}(X:Eff p f M0 M wb w)(hl:wb.heap.size<=b4)(hk:wb.heap.size<=B1)
  (hK:∀x s',pD E B (s.toks.length+1) (hY (step1 s)) [] []=.ok x s'->∀M' hi hf W,PR w0 W p f M' vt s' top->Gd N s' dl->Eff p f M0 M' wb W->BL w0 W p f M' vt B1 b4 typ a vl hi hf ls x.1 x.2->Loc w0 W p f M' vt i PpT [.pointer (some ⟨p,0,none⟩)]->K (.tuple #[]) W)
  (ht:∀c a',pD E B (s.toks.length+1) (hY (step1 s)) [] []=.err c a'->Thr w0 f c a'):
  aL P0 67 [.pointer (some ⟨i,0,none⟩),.pointer (some ⟨b4,0,none⟩)] w K:=by
 refine aEt ?_;unfold W67;have Y:=hg.hN;have G:Gd N (step1 s) dl:=by have:=hg.step hs;rw[Q]at this;exact this
 have zz:=X.chg.size;refine d.ld rfl ?_;refine h.go (wsi hg.ws hg.l) λw1 h1 y xp=>?_;have d:=d.eff y;have r:=r.eff y;have y:=X.trans y;refine d.ld rfl ?_;refine Cc h1 G.ws Y G.l λw2 h2 v=>?_;have d:=d.eff v;have r:=r.eff v;have v:=y.trans v;have ho:=G.lines;have Z:=congrArg List.length (nS G.ws).1.toks;generalize hR:pD E B (s.toks.length+1) (hY (step1 s)) [] []=R0 at hK ht;refine eK.go (λst W=>st=[]/\∃A O av bs va vb n,PR w0 W p f O vt A top/\Gd N A dl/\Eff p f M0 O wb W/\Loc w0 W p f O vt i PpT [.pointer (some ⟨p,0,none⟩)]/\BL w0 W p f O vt B1 b4 typ a vl va vb ls av bs/\pD E B n A av bs=R0/\A.toks.length<n+A.i/\av.length<=A.i/\bs.length<=A.i/\A.toks.length=s.toks.length) (λ_ W=>s.toks.length-CE W p)
  ⟨rfl,_,M,[],[],_,_,s.toks.length+1,h2,ho,v,d,r,hR,by rw[Z];show s.toks.length<_;omega,by simp,by simp,by rw[Z];rfl⟩ ?_
 clear r d h1 h2 y v;rintro st g w3 ⟨rfl,A,O,av,bs,va,vb,n,h3,t,hr,d,r,b,hn,xy,xx,xu⟩;have xe:=t.ws.lt;obtain⟨n,rfl⟩:∃m,n=m+1:=⟨n-1,by omega⟩;simp only[pD]at b;refine d.ld rfl ?_;refine yL h3 t.ws Y t.l λw4 h4 u=>?_;have d:=d.eff u;have r:=r.eff u;have u:=hr.trans u;have V:=t.take [125];have tg:=nG t.ws [125];have xl:=congrArg List.length tg.1.toks;rw[gK,fC];refine⟨λL=>?_,λhy=>?_⟩
 .have L:(cN A [125]).1=false:=by simpa using L
  rw[aE (by rw[L];decide)]at b;have few:=t.few;refine d.ld rfl ?_;refine aDU hE hB hF hw h4 V r (by omega) (by omega) u hl hk (λx C ex M2 hh he w5 h5 F xv P xr xq hp hv T xs xt=>?_) λc a' ex=>ht c a' (by rw[<-b,ex];rfl);rw[ex]at b;simp only[R.bind]at b;have P:=congrArg List.length P;have d:=T _ _ _ d z.2 (λe=>by have:=r.rA.new _ e;have:=z.1;omega) (λe=>by have:=r.rB.new _ e;have:=z.1;omega);have o:=F.now;have S:=kF F.ws;have xb:=congrArg List.length S.toks;have xc:=S.le;refine dE.cut (λ_ W=>PR w0 W p f M2 vt (bK C) top/\Eff p f M2 M2 w5 W/\pD E B n (hY (bK C)) x.1 x.2=R0) ?_ ?_
  .refine d.ld rfl ?_;refine rW h5 F.ws Y F.l λw6 h6 q=>?_;refine⟨i64 (cur C).k,rfl,?_⟩;dsimp only;rw[fR];have d:=d.eff q;by_cases D:(cur C).k≠5
   .rw[bS D];simp only[gX];refine GdW.act (!isS (bK C) [125]) (λW=>PR w0 W p f M2 vt (bK C) top/\Eff p f M2 M2 w5 W) (λe=>by cases e) (λ_ J hJ=>?_) λg5 w7 hu=>?_
    .refine d.ld rfl ?_;refine DJ h6 o λw7 I j=>?_;rw[gK];rw[lI]at I;exact hJ w7 ⟨I,q.trans j⟩
    obtain⟨I,j⟩:=hu;simp only[aG,aV,iZ];rw[fC];refine⟨λH=>?_,λH=>?_⟩
    .have H:isS (bK C) [125]=false:=by simpa using H
     have d:Loc w0 w7 p f M2 vt i PpT [.pointer (some ⟨p,0,none⟩)]:=(T _ _ _ ‹Loc w0 w4 p f O vt i PpT [.pointer (some ⟨p,0,none⟩)]› z.2 (λe=>by have:=r.rA.new _ e;have:=z.1;omega) (λe=>by have:=r.rB.new _ e;have:=z.1;omega)).eff j;refine d.ld rfl ?_;refine rW I o.ws Y o.l λw8 h8 xw=>?_;refine⟨i64 (cur (bK C)).a,rfl,?_⟩;refine uM h8 (ht 50 _ ?_);rw[<-b,aO ⟨D,H⟩]
    .have H:isS (bK C) [125]=true:=by simpa using H
     rw[aE (λh=>by rw[h.2]at H;cases H)]at b;exact⟨I,j,b⟩
   .rw[cX D];simp only[gX,FB];intro g5;rw[iN,cI];rw[aE (λh=>D h.1)]at b;exact⟨h6,q,b⟩
  rintro _ g4 w6 ⟨h6,q,b⟩;have d:=d.eff q;refine d.ld rfl ?_;refine Cc h6 o.ws Y o.l λw7 I j=>?_;have lg:=nS o.ws;have xn:=congrArg List.length lg.1.toks;have xo:=lg.1.le;have xm:=tg.1.le;have U:=o.lines;have xd:=U.ws.lt;refine⟨⟨rfl,hY (bK C),M2,x.1,x.2,hh,he,n,I,U,(hp.trans q).trans j,d.eff j,(hv.eff q).eff j,b,by omega,by omega,by omega,by omega⟩,?_⟩;rw[I.at_,h3.at_];omega
 .have hy:(cN A [125]).1=true:=by simpa using hy
  rw[aO hy]at b;exact hK _ _ b.symm O va vb w4 h4 V u r d
theorem Qk{E B:PS->R Nat}(hE:∀d,dl=d+1->EC w0 f 118 E d)(hB:∀d,dl=d+1->EC w0 f 32 B d)(hF:vP E)(ua:Jw B):EC w0 f 32 (tU E B) dl:=by
 intro w p M vt s top N K h hg hK V;refine aEP ?_;unfold W32;have hN:=hg.hN;refine zV rfl λb1 w1 zz zo yw ya=>?_;have h1:=h.ext ya;have b:=h.loc zo zz yw;unfold tU at hK V;refine b.ld rfl ?_;refine Bs h1 hg.ws hN hg.l (λt s1 et w2 h2 ha=>?_) λc a' et=>V c a' (by rw[et];rfl);rw[et]at hK V;simp only[R.bind]at hK V;obtain⟨yj,aj,_⟩:=hg.kind (by decide) et;have yg:=qL hg.ws 1 (by decide);have hq:=sI s 1;rw[et]at yg hq;have hq:=hq.2 (by decide);have zs:=congrArg List.length yg.1.1.toks;have b:=b.eff ha;have ha:=(Eff.ext ya).trans ha;have zl:=b.lt;have ae:=ha.chg.size;refine cO λb3 w3 zy zn yv xg=>?_;have h3:=h2.ext xg;have L3:=h2.loc zn zy yv;have b:=b.ext xg;refine dH (l:=kB t) L3.1 rfl rfl rfl λw4 aa yu xk=>?_;have L3:Loc w0 w4 p f M vt b3 TkT (kB t):=⟨yu,L3.2.up (by omega)⟩;have h4:=h3.one xk L3.2;have b:=b.one xk (by omega);have yn:=(ha.x xg).one xk (by omega);refine L3.ldf rfl ?_;refine L3.ldf rfl ?_;simp only[eG,eP,dW,aA,aD,aP,aU,Nat.reduceAdd,Nat.reduceLT,dQ,aZ];refine cO λb4 w5 zx zm yt xf=>?_;have h5:=h4.ext xf;have L4:=h4.loc zm zx yt;have b:=b.ext xf;refine dH (l:=[str t.t,.slice none 0 0,.slice none 0 0,.slice none 0 0,i64 t.a]) L4.1 rfl rfl rfl λw6 vz ys xj=>?_;have L4:Loc w0 w6 p f M vt b4 BkT [str t.t,.slice none 0 0,.slice none 0 0,.slice none 0 0,i64 t.a]:=⟨ys,L4.2.up (by omega)⟩;have h6:=h5.one xj L4.2;have b:=b.one xj (by omega);have xi:=(yn.x xf).one xj (by omega);have ad:=xi.chg.size;obtain⟨B1,ao⟩:∃B1,B1=w6.heap.size:=⟨_,rfl⟩;have j:BL w0 w6 p f M vt B1 b4 t.t t.a (.slice none 0 0) (.slice none 0 0) (.slice none 0 0) [] [] []:=
  ⟨L4,Ro.nil _ _,Ro.nil _ _,Ro.nil _ _,λk X=>by simp[Value.ownBlock]at X,λk X=>by simp[Value.ownBlock]at X,λk X=>by simp[Value.ownBlock]at X,by omega,by omega⟩
 have hh:b1<B1/\b1≠b4:=⟨by omega,by omega⟩;have zp:w.heap.size<=B1:=by omega
 have zq:w.heap.size<=b4:=by omega
 clear L3 L4 h2 h3 h4 h5 ha yn;generalize hR:pL (s.toks.length+1) s1 []=R0 at hK V;refine eK.go (λst W=>st=[]/\∃z M1 ls vl n,PR w0 W p f M1 vt z top/\Gd N z dl/\Eff p f M M1 w W/\Loc w0 W p f M1 vt b1 PpT [.pointer (some ⟨p,0,none⟩)]/\BL w0 W p f M1 vt B1 b4 t.t t.a vl (.slice none 0 0) (.slice none 0 0) ls [] []/\pL n z ls=R0/\z.toks.length<n+z.i/\ls.length<=z.i/\z.toks.length=s.toks.length/\Syn.phi z+1<=Syn.phi s) (λ_ W=>s.toks.length-CE W p)
  ⟨rfl,s1,M,[],_,s.toks.length+1,h6,yj,xi,b,j,hR,by have:=yj.ws.lt;omega,by simp,zs,hq⟩ ?_
 clear j b h6 xi;rintro st g w7 ⟨rfl,z,M1,ls,vl,n,h7,D,zt,b,j,H,hn,ai,af,ah⟩;have ux:=D.ws.lt;obtain⟨n,rfl⟩:∃m,n=m+1:=⟨n-1,by omega⟩;simp only[pL]at H;refine b.ld rfl ?_;refine rW h7 D.ws hN D.l λw8 h8 I=>?_;have b:=b.eff I;have j:=j.eff I;have I:=zt.trans I;have O:=D.now;refine⟨i64 (cur z).k,rfl,?_⟩;dsimp only;rw[bW,aY];refine⟨λhc=>?_,λhc=>?_⟩
 .rw[aO hc]at H;have zr:=D.tx hc;have b:=b.drew;have j:=j.ext (cQ w8);have h8:=h8.drew;have I:=I.x (cQ w8);rw[bH,bN,aN];refine j.l4.ld rfl ?_;refine b.ld rfl ?_;refine b.ld rfl ?_;refine NY h8 O.ws hN O.l λw9 h9 A=>?_;rw[Rf]at h9;rw[pO];have b:=b.eff A;have j:=j.eff A;have A:=I.trans A;refine⟨b.ld rfl rfl,j.l4.ld rfl rfl,?_⟩;have yh:=D.next;refine Pu h9 zr.1 (by omega) (λl s3 el zi o=>?_) λc a' el=>V c a' (by rw[<-H,el];rfl);have e3:=Gd.plain (N:=N) el;subst e3;rw[el]at H;simp only[R.bind]at H;have b:=b.ext o;have j:=j.ext o;have xp:=h9.ext o;have yq:=A.x o;refine⟨j.l4.ld rfl rfl,?_⟩;refine yJ λr xc hr xy xh U=>?_;have b:=b.ext U;have j:=j.ext U;have Y:=yq.x U;have uu:=Y.chg.size;refine⟨j.l4.ld rfl rfl,?_⟩;have few:=D.few;refine j.appL (xp.ext U) xh (by omega) λzj xv yy J yr yf uv=>?_;have b:=yf _ _ _ b hh.2 λe=>by have:=j.rL.new _ e;have:=hh.1;omega
  have ng:=wH D.ws;have vs:=congrArg List.length ng.1.toks;have vv:=ng.2.1 (by rw[hc];decide);have vu:=yh.ws.lt;have vr:=(zF z).1;refine⟨⟨rfl,kP z,M1,ls++[l],zj,n,J,yh,Y.then yr λk X e=>?_,b,yy,H,by omega,by rw[aB,aA,aD];omega,by omega,by omega⟩,?_⟩
  .rcases e with e|e
   .have:=j.rL.new k e;omega
   .omega
  .rw[J.at_,h7.at_];omega
 .rw[aE hc]at H;rw[<-H]at hK V;simp only at hK V;simp only[lW,pO,lI]at hK V;refine b.ld rfl ?_;refine rW h8 O.ws hN O.l λw9 h9 A=>?_;rw[lI]at h9;rw[pO];have b:=b.eff A;have j:=j.eff A;have A:=I.trans A;refine cO λb5 zi zw xz xm o=>?_;have xp:=h9.ext o;have L5:=h9.loc xz zw xm;have fr:=j.fresh (k:=b5) (by omega);have zl:=b.lt;have ab:=A.chg.size;refine dH (l:=kB (cur z)) L5.1 rfl rfl rfl λxc xy xl Z=>?_;have L5:Loc w0 xc p f M1 vt b5 TkT (kB (cur z)):=⟨xl,L5.2.up (by omega)⟩;have ug:=xp.one Z L5.2;have b:=(b.ext o).one Z (by omega);have j:=(j.ext o).one Z fr.1 fr.2.1 fr.2.2.1 fr.2.2.2;have Y:=(A.x o).one Z (by omega);refine dE.cut (λ_ W=>PR w0 W p f M1 vt (bK z) top/\Eff p f M1 M1 xc W/\isS z [123]=true) ?_ ?_
  .refine b.ld rfl ?_;refine DJ ug O λxv J q=>?_;rw[lI]at J;rw[lW,gK,fC];refine⟨λhi=>?_,λhi=>⟨J,q,by simpa using hi⟩⟩;have hi:isS z [123]=false:=by simpa using hi
   refine(L5.eff q).ldf rfl ?_;exact uM J (V _ _ (by rw[aO hi]))
  rintro _ g2 xv ⟨J,q,hi⟩;rw[aE (by rw[hi];decide)]at hK V;have b:=b.eff q;have L5:=L5.eff q;have j:=j.eff q;have q:=Y.trans q;refine b.ld rfl ?_;refine L5.ldf rfl ?_;have uy:=O.lev;refine tD J (by omega) (λhd=>V 7 _ (by rw[xR hd])) λhd vj uf he=>?_;obtain⟨d,rfl⟩:∃d,dl=d+1:=⟨dl-1,by omega⟩;rw[AW hd]at hK V;obtain⟨q1,q2,q3,q4⟩:=D.sign hi false;have vq:=congrArg List.length (kF D.ws).toks;refine iM (caps:=[.pointer (some ⟨b1,0,none⟩),.pointer (some ⟨b4,0,none⟩)]) ?_;have vo:Syn.phi (bK z)<=Syn.phi z:=nV z;have hj:({bK z with deep:=(bK z).deep+1,quiet:=false}:PS).toks.length+1=s.toks.length+1:=by show(bK z).toks.length+1=_;omega
  have zf:(bK z).toks.length+1=s.toks.length+1:=by omega
  refine Zl (hE d rfl) (hB d rfl) hF ua uf q1 q3 q2 (j.eff he) (b.eff he) hh (q.trans he) zq zp (λx s3 ex M3 va vb vi ue hv yp yx b=>?_) λc a' ex=>V c a' ?_
  .rw[hj]at ex;rw[ex]at hK;simp only[R.bind]at hK;have g14l:=hv.lev;refine⟨M3,s3,ue,by omega,λxb G F=>?_⟩;have b:=(b.eff F).drew;have j:=(yx.eff F).ext (cQ xb);have G:=G.drew;have F:=(yp.trans F).x (cQ xb);have yi:Gd N {s3 with deep:=(bK z).deep,quiet:=(bK z).quiet} (d+1):=O.back hv;generalize yd:({s3 with deep:=(bK z).deep,quiet:=(bK z).quiet}:PS)=s4 at*
   have s4b:s4.bl=s3.bl:=by rw[<-yd]
   have ak:=yi.ex.2;have ut:=F.chg.size;have cF:∀{W:World},W.heap[p]?=some (.cells [vt,i64 (s4.i:Nat),i64 s4.off,.pointer (some ⟨f,0,none⟩),i64 (s4.deep:Nat),.bool s4.quiet].toArray PsT (0,0))->W.cell? ((⟨p,0,none⟩:Addr).add 3)=some (.pointer (some ⟨f,0,none⟩)):=by
    intro W h;rw[bN,cS,h,bT];rfl
   have cB:∀{W:World} {u v:Value} {r:List Value},W.heap[f]?=some (.cells (u::v::r).toArray FlT (0,0))->W.cell? ((⟨f,0,none⟩:Addr).add 1)=some v:=by
    intro W u v r h;rw[bN,cS,h,bT];rfl
   have xd:∀{W:World} {M':Lay},Loc w0 W p f M' vt b1 PpT [.pointer (some ⟨p,0,none⟩)]->ldW false 1 (.pointer (some ⟨b1,0,none⟩)) W λx=>x=.pointer (some ⟨p,0,none⟩):=λL=>L.ld rfl rfl;have xw:∀k,M3.vB.ownBlock=some k->k∈M3.uses f:=λk X=>aF _ (eZ (v:=M3.vB) (by simp) X);have nE:¬M3.vB.ownBlock=some p:=λe=>G.np (xw p e);have nF:¬M3.vB.ownBlock=some f:=λe=>by
    have hp:=(No M3 f).nodup_iff.1 G.fr.nd;rw[dX]at hp;exact hp.1 (cH _ (kM.2 e))
   have n1:¬M3.vB.ownBlock=some b1:=λe=>b.2.2.2.1 (xw b1 e);refine b.ld rfl ?_;rw[dJ,bH,fB];refine⟨_,cF G.ps,?_⟩;refine b.ld rfl ?_;rw[dJ,bH,fB];refine⟨_,cF G.ps,?_⟩;rw[dJ,bH,fB];refine⟨_,cB G.fr.hf,?_⟩;refine gL j.l4.1 rfl ?_;refine Ec rfl rfl λr zh hr us xh S=>?_;have P:=G.ext S;have Q:=b.ext S;refine⟨by rw[fB];exact⟨_,cB P.fr.hf,rfl⟩,by rw[fB];exact⟨_,cF P.ps,rfl⟩,xd Q,by rw[fB];exact⟨_,cF P.ps,rfl⟩,xd Q,?_⟩;have zv:Chg (λk=>M3.vB.ownBlock=some k) xb.drew zh:=Chg.of_ext S;obtain⟨lp,lc,uh,_⟩:=j.rL.own.sl.shape;obtain⟨ap,ac,uj,_⟩:=j.rA.own.sl.shape;obtain⟨bp,bc,ui,_⟩:=j.rB.own.sl.shape;refine iV aFL P.fr.oB (uH (n:=1) (T:=BkT) xh) rfl (λu hu=>by
    simp only[aX,bU,fT]at hu;rcases hu with rfl|rfl|rfl|rfl|rfl
    .rfl
    .rw[uh];rfl
    .rw[uj];rfl
    .rw[ui];rfl
    .rfl) (by omega) (by omega) P.base λv' xu hz C yb=>?_
   have ye:=C.at P.ps nE;have ym:=C.at P.fr.hf nF;refine⟨by rw[fB];exact⟨_,cF ye,rfl⟩,xd (M':=M3) ⟨C.at Q.1 n1,Q.2.up C.size⟩,?_⟩;rw[dJ,bH,bN,aN];obtain⟨vp,vc,ev,_⟩:=hz.sl.shape;refine lJ ym (by rw[ev];rfl) (by simp) λxt ur yl hw=>?_;have ul:Loc w0 xu p f M3 vt b1 PpT [.pointer (some ⟨p,0,none⟩)]:=⟨C.at Q.1 n1,Q.2.up C.size⟩;have zk:b1≠f:=λe=>Q.2.2.2.1 (e▸bC);have uk:=ul.one hw zk;have vy:=S.size;have yc:∀k,k∈ub [str t.t,vl,va,vb,i64 t.a]↔vl.ownBlock=some k\/va.ownBlock=some k\/vb.ownBlock=some k:=λk=>by
    rw[show [str t.t,vl,va,vb,i64 t.a]=[str t.t]++([vl]++([va]++([vb]++[i64 t.a])))from rfl];simp only[qE,bM,kM];simp[Value.ownBlock]
   have hp:(ub [str t.t,vl,va,vb,i64 t.a]).Nodup:=by
    rw[show [str t.t,vl,va,vb,i64 t.a]=[str t.t]++([vl]++([va]++([vb]++[i64 t.a])))from rfl];simp only[qE];rw[show ub [str t.t]=[]from rfl,show ub [i64 t.a]=[]from rfl,dS,dL];refine iE.2 ⟨qQ _,iE.2 ⟨qQ _,qQ _,λx hx y hy e=>by subst e;exact j.d3 x (kM.1 hx) (kM.1 hy)⟩,λx hx y hy e=>?_⟩;subst e;rcases bM.1 hy with hy|hy
    .exact j.d1 x (kM.1 hx) (kM.1 hy)
    .exact j.d2 x (kM.1 hx) (kM.1 hy)
   obtain⟨xo,yo⟩:=G.putB (w1:=xu) (w2:=xt) (v':=v') F (e:=⟨t.t,ls,x.1,x.2,t.a⟩) ⟨vl,va,vb,rfl,j.rL.own,j.rA.own,j.rB.own⟩ (λk X=>by
    rcases(yc k).1 X with e|e|e
    .exact j.rL.off k e
    .exact j.rA.off k e
    .exact j.rB.off k e) hp (λk X=>by
    rcases(yc k).1 X with e|e|e
    .have:=j.rL.new k e;omega
    .have:=j.rA.new k e;omega
    .have:=j.rB.new k e;omega) hz (zv.trans C) (λk X=>(yb k X).imp id λe=>by omega) hw (by rw[yl];simp)
   refine uk.ld rfl ?_;rw[dJ,bH,fB];refine⟨_,cF xo.ps,?_⟩;rw[dJ,bH,fB];refine⟨_,cB xo.fr.hf,?_⟩;dsimp only;rw[ev,iT,gR,fZ (by omega) (by omega)];have e1:((s4.bl.length+1:Nat):Int)-1=(s4.bl.length:Nat):=by omega
   rw[e1];subst yd;exact hK _ _ rfl _ xt xo yo
  .rw[hj]at ex;rw[ex];rfl
def Oy:Jw dead:=⟨Mz,Bz⟩
def Bv(d:Nat):Jw (uN d):=⟨λN=>EP N d,MV d⟩
def MW(b:BG w0 f):∀dl,EC w0 f 32 (uN dl) dl
 |0=>Qk (λd e=>by omega) (λd e=>by omega) zO Oy
 |d+1=>by
  have c:=MW b d
  refine Qk (λa e=>?_) (λa e=>?_) (Hp d).1 (Bv d)
  .have e:a=d:=by omega
   subst e;exact(Qc b a).1
  .have e:a=d:=by omega
   subst e;exact c
end
def Gl(v:Value)(w:World):(Instr.typeAssert (.iface DT v) 20 DT false).run P0 w=.ok v w:=by kernel_rfl
def LU(w:World)(K:Value->Prop):eqQ P0 .neq 20 false true .nilIface .nilIface w K↔K (.bool false):=by
 have h:(do eqGuard .neq 20 (EY false) (EY true) .nilIface .nilIface;binOp .neq 20 .nilIface .nilIface:Sem Value).run P0 w=.ok (.bool false) w:=by kernel_rfl
 unfold eqQ sF;rw[h];exact⟨λ⟨v,b,a⟩=>by cases b;exact a,λa=>⟨_,rfl,a⟩⟩
def GO(v:Value)(w:World)(K:Value->Prop):eqQ P0 .neq 20 false true (.iface DT v) .nilIface w K↔K (.bool true):=by
 have h:(do eqGuard .neq 20 (EY false) (EY true) (.iface DT v) .nilIface;binOp .neq 20 (.iface DT v) .nilIface:Sem Value).run P0 w=.ok (.bool true) w:=by kernel_rfl
 unfold eqQ sF;rw[h];exact⟨λ⟨v,b,a⟩=>by cases b;exact a,λa=>⟨_,rfl,a⟩⟩
def Tv{a b:Value}{K:World->Prop}(c:K w):AR P0 29 [a,b] .returning w K:=by
 letI:=noX;refine VV .idle ?_;unfold R29;rw[LU,cI];exact c
def NJ{a b d:Nat}{K:World->Prop}(r:w.heap[a]?=some (.cells cs.toArray T (0,0)))(p:cs.length=3)(q:w.heap[b]?=some (.cells [v].toArray U (0,0)))(g:a≠b)
  (s:∀W,Chg (λk=>k=a\/k=b) w W->W.heap[a]?=some (.cells [.slice none 0 0,.slice none 0 0,.slice none 0 0].toArray T (0,0))->W.heap[b]?=some (.cells [.pointer (some ⟨d,0,none⟩)].toArray U (0,0))->K W):
  AR P0 29 [.pointer (some ⟨a,0,none⟩),.pointer (some ⟨b,0,none⟩)] (.panicking [{v:=.iface DT (.pointer (some ⟨d,0,none⟩)),recovered:=false}]) w K:=by
 letI:=noX;refine VV (.thrown _) ?_;unfold R29;rw[GO,dF,dW];refine⟨_,Gl _ _,?_⟩;refine dH (l:=[.slice none 0 0,.slice none 0 0,.slice none 0 0]) (w:=w.drew) r rfl p rfl λw2 o j f=>?_;refine⟨⟨_,Gl _ _,rfl⟩,?_⟩;have i:=f.at (w:=w.drew) q (λe=>g e.symm);refine lJ i rfl (by simp) λm n h c=>?_;refine s m ?_ (c.at j g) (by rw[h];simp);exact((Chg.drew (Chg.refl _ w)).trans (f.mono λk _ e=>.inl e)).trans (c.mono λk _ e=>.inr e)
structure FO(w:World)(B:Nat)(M:Lay)(fl:Fl):Prop where
 oE:Own w B ExT 5 M.vE fl.ex.length M.cE
 oB:Own w B BkT 5 M.vB fl.bl.length M.cB
 oT:Own w B mA 1 M.vT fl.top.length (ints fl.top)
 ee:lV (ExR w B) 5 fl.ex M.cE
 bb:lV (BkR w B) 5 fl.bl M.cB
 nd:(ub ([M.vE,M.vB,M.vT]++(M.cE++M.cB))).Nodup
 lt:∀k∈ub ([M.vE,M.vB,M.vT]++(M.cE++M.cB)),k<w.heap.size
 lo:∀k∈ub ([M.vE,M.vB,M.vT]++(M.cE++M.cB)),B<=k
def FR.out{B f:Nat}{M:Lay}{ex:List Ex}{bl:List Blk}(h:FR w B f M ex bl u):FO w B M ⟨ex,bl,u⟩:=by
 have a:=h.nd;unfold Lay.uses at a;rw[dX]at a;exact⟨h.oE,h.oB,h.oT,h.ee,h.bb,a.2,λk b=>h.lt k (aF _ b),λk b=>(h.lo k (aF _ b)).resolve_left λe=>a.1 (e▸b)⟩
def FO.keep{B:Nat}{M:Lay}{fl:Fl}(h:FO w B M fl)(c:Chg S w W)(i:∀k,B<=k->k<w.heap.size->k∈ub ([M.vE,M.vB,M.vT]++(M.cE++M.cB))->¬S k):FO W B M fl:=by
 have e:∀v∈[M.vE,M.vB,M.vT]++(M.cE++M.cB),∀k,v.ownBlock=some k->¬S k:=λv b k a=>i k (h.lo k (eZ b a)) (h.lt k (eZ b a)) (eZ b a);refine⟨eJ h.oE c (e _ (by simp)),eJ h.oB c (e _ (by simp)),eJ h.oT c (e _ (by simp)),?_,?_,h.nd,λk a=>dM (h.lt k a) c.size,h.lo⟩
 .refine h.ee.imp λx d g f=>f.at_ c λk a=>?_;obtain⟨v,b,a⟩:=cA.1 a;exact e v (by simp[g v b]) k a
 .refine h.bb.imp λx d g f=>f.at_ c λk a=>?_;obtain⟨v,b,a⟩:=cA.1 a;exact e v (by simp[g v b]) k a
def ExR.low{B:Nat}{e:Ex}(h:ExR w B e d)(a:i<=B):ExR w i e d:=by
 obtain⟨va,vk,f,c,b⟩:=h;exact⟨va,vk,f,c.base a,b.base a⟩
def BkR.low{B:Nat}{e:Blk}(h:BkR w B e d)(a:i<=B):BkR w i e d:=by
 obtain⟨vl,va,vk,g,f,c,b⟩:=h;exact⟨vl,va,vk,g,f.base a,c.base a,b.base a⟩
def FO.low{B:Nat}{M:Lay}{fl:Fl}(h:FO w B M fl)(a:i<=B):FO w i M fl:=
 ⟨h.oE.base a,h.oB.base a,h.oT.base a,h.ee.imp λx d _ b=>b.low a,h.bb.imp λx d _ b=>b.low a,h.nd,h.lt,λk c=>dN a (h.lo k c)⟩
section
variable{w0 w w1 w2:World}{p f:Nat}{M:Lay}{vt:Value}{s:PS}{top:List Nat}
def Nm(M:Lay)(f:Nat):(M.uses f).Perm (f::(ub [M.vT]++ub ([M.vE,M.vB]++(M.cE++M.cB)))):=by
 rw[Aa];intro a;unfold Lay.uses;simp only[qE,lT,AM];rw[Ad M.vE,Ad M.vB,Ad M.vE [M.vB]];simp only[lT];omega
theorem PR.putT(h:PR w0 w p f M vt s top){x:Nat}{v':Value}(B:Own w1 w0.heap.size mA 1 v' (top.length+1) (ints top++[i64 (x:Nat)]))(z:Chg (λk=>M.vT.ownBlock=some k) w w1)(g:∀k,v'.ownBlock=some k->M.vT.ownBlock=some k\/w.heap.size<=k)
  (m:Chg (One f) w1 w2)(F:w2.heap[f]?=some (.cells [M.vE,M.vB,v'].toArray FlT (0,0))):PR w0 w2 p f {M with vT:=v'} vt s (top++[x]):=by
 have I:=h.base;have r:=Nm M f;have i:∀k,M.vT.ownBlock=some k->k∈M.uses f:=λk b=>aF _ (eZ (v:=M.vT) (by simp) b);have l:=r.nodup_iff.1 h.fr.nd;have q:=l;rw[dX,iE]at q;obtain⟨nf,_,H,t⟩:=q;have j:∀k∈ub ([M.vE,M.vB]++(M.cE++M.cB)),k∈M.uses f:=λk b=>r.mem_iff.2 (aF _ (bR _ b));have rest:∀k∈ub ([M.vE,M.vB]++(M.cE++M.cB)),M.vT.ownBlock≠some k/\k≠f/\k<w.heap.size:=λk b=>
  ⟨λe=>t k (kM.2 e) k b rfl,λe=>nf (e▸bR _ b),h.fr.lt k (j k b)⟩
 have c:Chg (λk=>M.vT.ownBlock=some k\/k=f) w w2:=(z.mono λk _ e=>.inl e).trans (m.mono λk _ e=>.inr e);have sub:∀v∈[M.vE,M.vB]++(M.cE++M.cB),∀k,v.ownBlock=some k->¬(M.vT.ownBlock=some k\/k=f):=λv g k b e=>by
  have:=rest k (eZ g b);exact e.elim this.1 this.2.1
 have A:∀k,v'.ownBlock=some k->k≠f:=λk b e=>by
  subst e;rcases g k b with e|e
  .exact nf (cH _ (kM.2 e))
  .have:=pC h.fr.hf;omega
 have D:M.vT.ownBlock≠some p:=λe=>h.np (i p e);have C:p≠f:=λe=>h.np (e▸bC);have perm:=Nm {M with vT:=v'} f;have G:(f::(ub [v']++([]++ub ([M.vE,M.vB]++(M.cE++M.cB))))).Nodup:=Kh (n:=w.heap.size) (a:=ub [M.vT]) l (λk b=>h.fr.lt k (r.mem_iff.2 b)) (qQ _) (λk b=>(g k (kM.1 b)).imp (λe=>kM.2 e) id) nY λk b=>by cases b
 have E:=c.size;have mem:∀k∈({M with vT:=v'}:Lay).uses f,k=f\/v'.ownBlock=some k\/k∈ub ([M.vE,M.vB]++(M.cE++M.cB)):=λk b=>by
  have b:=perm.mem_iff.1 b;rcases aX.1 b with e|e
  .exact .inl e
  rcases bM.1 e with e|e
  .exact .inr (.inl (kM.1 e))
  .exact .inr (.inr e)
 refine⟨?_,⟨F,?_,?_,?_,?_,?_,perm.nodup_iff.2 G,λk b=>?_,λk b=>?_⟩,?_,?_,λe=>?_,h.lo,λk b=>?_⟩
 .refine h.ch.then c λk b e=>?_;rcases e with e|e
  .exact(h.fr.lo k (i k e)).resolve_right (by omega)
  .exact e
 .exact eJ h.fr.oE c (sub _ (by simp))
 .exact eJ h.fr.oB c (sub _ (by simp))
 .rw[aB,aA,aD,GZ];exact eJ B m λk b e=>A k b e
 .refine h.fr.ee.imp λx d y u=>u.at_ c λk b=>?_;obtain⟨v,g,b⟩:=cA.1 b;exact sub v (by simp[y v g]) k b
 .refine h.fr.bb.imp λx d y u=>u.at_ c λk b=>?_;obtain⟨v,g,b⟩:=cA.1 b;exact sub v (by simp[y v g]) k b
 .rcases mem k b with e|e|e
  .rw[e];exact pC F
  .exact dM (lK B e).1 m.size
  .exact dM (rest k e).2.2 E
 .rcases mem k b with e|e|e
  .exact .inl e
  .exact .inr (lK B e).2
  .exact h.fr.lo k (j k e)
 .exact c.at h.ps λe=>e.elim D C
 .exact xU h.tk c λk b e=>by
   have:=(h.nt k b).1;rcases e with e|e
   .exact this (i k e)
   .exact this (e▸bC)
 .rcases mem p e with e|e|e
  .exact C e
  .exact(g p e).elim D λe=>by have:=h.lt;omega
  .exact h.np (j p e)
 .have o:=h.nt k b;refine⟨λe=>?_,o.2.1,dM o.2.2 E⟩;rcases mem k e with e|e|e
  .exact o.1 (e▸bC)
  .exact(g k e).elim (λe=>o.1 (i k e)) λe=>by omega
  .exact o.1 (j k e)
end
def TabI(w:World):Prop:=∃m,w.cell? ⟨0,0,none⟩=some (.int .i64 m)
section
variable [HX]
def VS:Prop:=∀(w:World) (K:Q0) (s:Str),TabI w->s.length<=9223372036854775807->
 (∀l,mS s=.ok l->∀v w',Ext w w'->SlAt w' TkT v l.length (toks l)->(∀k,v.ownBlock=some k->w.heap.size<=k/\k<w'.heap.size)->K (.tuple #[v,.pointer none]) w')->
 (∀c a,mS s=.bad c a->∀d w',Ext w w'->w.heap.size<=d->w'.heap[d]?=some (.cells [i64 c,str [],i64 a].toArray 48 (0,0))->K (.tuple #[.slice none 0 0,.pointer (some ⟨d,0,none⟩)]) w')->
 aL P0 28 [str s] w K
end
def TabI.chg{f:Nat}(h:TabI w)(c:Chg (Of f) w W)(b:w.heap[f]?=some (.cells cs.toArray FlT (0,0)))(d:∀m,cs[0]?≠some (.int .i64 m)):TabI W:=by
 obtain⟨m,h⟩:=h;refine⟨m,?_⟩;rw[cS]at h⊢;cases a:w.heap[0]? with
 |none=>rw[a]at h;cases h
 |some o=>
  rw[c.at a ?_]
  .rw[a]at h;exact h
  .intro e;have e:0=f:=e;subst e;rw[b,bT]at h;exact d m (by simpa using h)
theorem TX[HX](hS:∀[HX],VS){t:Str}(hT:TabI w)(hl:t.length<=9223372036854775807)
  (L:∀fl,lS t=.ok fl->∀M W,Ext w W->FO W w.heap.size M fl->(fl.ex.length<=100000/\fl.bl.length<=100000/\fl.top.length<=100000)->K (.tuple #[.agg [M.vE,M.vB,M.vT].toArray,.pointer none]) W)
  (y:∀c a,lS t=.bad c a->∀d W,Ext w W->w.heap.size<=d->W.heap[d]?=some (.cells [i64 c,str [],i64 a].toArray 48 (0,0))->K (.tuple #[.agg [.slice none 0 0,.slice none 0 0,.slice none 0 0].toArray,.pointer (some ⟨d,0,none⟩)]) W):
  aL P0 12 [str t] w K:=by
 refine aE4 ?_;unfold W12;refine cO λf w1 hf uw yi yx=>?_;refine cO λbd w2 vh uv xb xr=>?_;have U:=yx.trans xr;have xz:=xr.at yi id;have zn:TabI w2:=by
  obtain⟨m,h⟩:=hT;refine⟨m,?_⟩;rw[cS]at h⊢;cases hx:w.heap[0]? with
  |none=>rw[hx]at h;cases h
  |some o=>rw[U.at hx id];rw[hx]at h;exact h
 unfold lS at L y;refine hS w2 _ t zn hl (λl E v w3 B hv xs=>?_) (λc a E d w3 B hd xh=>?_)
 .rw[bX];refine⟨v,rfl,?_⟩;rw[bX];refine⟨.pointer none,rfl,?_⟩;have Z:=B.at xb id;have xg:=B.at xz id;refine lJ Z rfl (by simp) λC yw j H=>?_;have j:C.heap[bd]?=some (.cells [.pointer none].toArray 29 (0,0)):=by rw[j];simp
  have X:=H.at xg (by omega);refine⟨.pointer none,by rw[cS,j];rfl,?_⟩;show bE (.bool false) _ _;rw[cI];have S:Ext w C:=(U.trans B).new (H.mono λk _ e=>e) (by omega);have ua:=pC X;have zm:TabI C:=by
   obtain⟨m,h⟩:=hT;refine⟨m,?_⟩;rw[cS]at h⊢;cases hx:w.heap[0]? with
   |none=>rw[hx]at h;cases h
   |some o=>rw[S.at hx id];rw[hx]at h;exact h
  have yy:SlAt C TkT v l.length (toks l):=xU hv H λk I e=>by have:=(xs k I).1;have e:k=bd:=e;omega
  letI zv:HX:=⟨λch yo=>AR P0 29 [.pointer (some ⟨f,0,none⟩),.pointer (some ⟨bd,0,none⟩)] (.panicking ch) yo λJ=>
   ldW true 3 (.pointer (some ⟨f,0,none⟩)) J λyu=>
   ldW false 1 (.pointer (some ⟨bd,0,none⟩)) J λyt=>
   K (.tuple #[yu,yt]) J⟩
  have zo:BG C f:=λW KK s hc va h1 h2=>hS W KK s (zm.chg hc X (by simp)) (by omega) h1 h2;have xc:∀c a,(∀d W,Ext w W->w.heap.size<=d->W.heap[d]?=some (.cells [i64 c,str [],i64 a].toArray 48 (0,0))->K (.tuple #[.agg [.slice none 0 0,.slice none 0 0,.slice none 0 0].toArray,.pointer (some ⟨d,0,none⟩)]) W)->Thr C f c a:=by
   intro c a hb d W cs hc hd zi zj xh;have xo:=S.size;refine NJ zj zi (hc.at j (by show¬bd=f;omega)) (by omega) λw5 O zl zk=>?_;refine gL zl rfl ?_;refine⟨_,by rw[cS,zk];rfl,?_⟩;have vg:C.heap.size<=d:=hd;have xn:=B.size;refine hb d w5 ?_ (by omega) (O.at xh (by show¬(d=f\/d=bd);omega));refine(S.then hc λk I e=>?_).then O λk I e=>?_
   .have e:k=f:=e;omega
   .omega
  obtain⟨q,cap,ev,_⟩:=hv.shape;subst ev;simp only[fD,eG,iS,dW,aA,aD,aP,aU,Nat.reduceAdd,Nat.reduceLT,dQ,aZ];refine gF (z:=[.slice q l.length cap,i64 0,i64 0,.pointer (some ⟨f,0,none⟩),i64 0,.bool false]) λp w5 hp yv za hj=>?_;have xn:=B.size;have xf:=hj.at X id;have ud:=hj.at j id;let M0:Lay:=⟨.slice none 0 0,.slice none 0 0,.slice none 0 0,[],[]⟩;have D:M0.uses f=[f]:=rfl;have zp:PR C w5 p f M0 (.slice q l.length cap) ⟨l,0,0,0,false,[],[]⟩ []:=
   ⟨Chg.of_ext hj,⟨xf,⟨by simp[M0],.inl ⟨rfl,rfl⟩⟩,⟨by simp[M0],.inl ⟨rfl,rfl⟩⟩,⟨by simp[ints],.inl ⟨rfl,rfl⟩⟩,lV.nil _ _,lV.nil _ _,by rw[D];simp,by rw[D];intro k I;simp only[bO]at I;omega,by rw[D];intro k I;simp only[bO]at I;exact .inl I⟩,
    za,yy.ext hj,by rw[D];simp only[bO];omega,by omega,λk I=>by
     have hb:=xs k I;rw[D];simp only[bO];omega⟩
  have xu:=Di (N:=(t.length:Nat)) (off:=0) E (oU _) (by omega);have xy:=wZ E;have ux:=FM E;have V:Gd (t.length:Nat) ⟨l,0,0,0,false,[],[]⟩ 24:=⟨⟨xu,iO.2 xu.ne,by omega⟩,by omega,xy.1,Dh E,by unfold Syn.phi;simp only[aD,dZ];omega,rfl⟩;rw[E]at L y;simp only at L y;have hN:=V.hN;refine Cc zp V.ws hN V.l λw6 h6 vf=>?_;have zc:=V.lines;have yk:=congrArg List.length (nS V.ws).1.toks;generalize hR:wR (l.length+1) (hY ⟨l,0,0,0,false,[],[]⟩) []=R0 at L y;have yg:∀{W:World},Chg (Of f) C W->W.heap[bd]?=some (.cells [.pointer none].toArray 29 (0,0)):=λhc=>hc.at j (by show¬bd=f;omega);refine eK.go (λst W=>st=[]/\∃Q M1 top n,PR C W p f M1 (.slice q l.length cap) Q top/\Gd (t.length:Nat) Q 24/\wR n Q top=R0/\Q.toks.length<n+Q.i/\top.length<=Q.i/\Q.toks.length=l.length) (λ_ W=>l.length-CE W p)
   ⟨rfl,_,M0,[],l.length+1,h6,zc,hR,by rw[yk];show l.length<_;omega,by simp,by rw[yk]⟩ ?_
  rintro st g w7 ⟨rfl,Q,M1,top,n,h7,G,b,hn,uy,uz⟩;have zz:=G.ws.lt;obtain⟨n,rfl⟩:∃m,n=m+1:=⟨n-1,by omega⟩;simp only[wR]at b;have hm:=G.now;have ng:=kF G.ws;have un:=congrArg List.length ng.toks;have uo:=ng.le;refine rW h7 G.ws hN G.l λw8 h8 ve=>?_;refine⟨i64 (cur Q).k,rfl,?_⟩;dsimp only;rw[fR,aY];refine⟨λF=>?_,λF=>?_⟩
  .have F:(cur Q).k≠0:=F;rw[aE F]at b;have h8:=h8.drew;rw[bH,fB];refine⟨M1.vT,by rw[bN,cS,h8.fr.hf,bT];rfl,?_⟩;refine MW zo 24 w8.drew p M1 _ _ top _ _ h8 hm (λx s2 ex M2 w9 h9 zf=>?_) λc a' ex=>xc c a' (y c a' (by rw[<-b,ex];rfl));rw[ex]at b;simp only[R.bind]at b;obtain⟨ho,vd,xv⟩:=hm.bk (Bv 24) ex;have xv:=congrArg List.length xv;have eT:=zf.hT;have xm:∀{W:World},W.heap[f]?=some (.cells [M2.vE,M2.vB,M2.vT].toArray FlT (0,0))->ldW false 1 (.pointer (some ((⟨f,0,none⟩:Addr).add 2))) W λx=>x=M1.vT:=λh=>by
    rw[fB];exact⟨M2.vT,by rw[bN,cS,h,bT];rfl,eT⟩
   refine⟨xm h9.fr.hf,?_⟩;refine nU λr J hr xp yz hw=>?_;have P:=h9.ext hw;refine⟨xm P.fr.hf,?_⟩;have few:=G.few;have us:=hw.size;have nF:¬M2.vT.ownBlock=some f:=λe=>by
    have xw:=(Nm M2 f).nodup_iff.1 P.fr.nd;rw[dX]at xw;exact xw.1 (cH _ (kM.2 e))
   rw[<-eT];refine iV EJ P.fr.oT (uH (n:=1) (T:=mA) yz) rfl (λu hu=>by simp only[bO]at hu;subst hu;rfl) (by omega) (by omega) P.base λv' ys xd hz xt=>?_;have yb:=hz.at P.fr.hf nF;rw[bH,bN,aN];obtain⟨vp,vc,ev,_⟩:=xd.sl.shape;refine lJ yb (by rw[ev];rfl) (by simp) λyr zw ya yf=>?_;have zq:=P.putT (w1:=ys) (w2:=yr) (x:=x) xd hz xt yf (by rw[ya];simp);have A:=ho.now;have xl:=kF ho.ws;have ng9t:=congrArg List.length xl.toks;have ng9i:=xl.le;refine dE.cut (λ_ W=>PR C W p f {M2 with vT:=v'} (.slice q l.length cap) (bK s2) (top++[x])/\wR n (hY (bK s2)) (top++[x])=R0) ?_ ?_
   .refine rW zq ho.ws hN ho.l λyq hs ub=>?_;refine⟨i64 (cur s2).k,rfl,?_⟩;dsimp only;rw[fR];simp only[gX,fR,rN];intro g2;simp only[aG];rw[gM,fC];refine⟨λhb=>?_,λhb=>?_⟩
    .have hb:(cur s2).k≠5/\(cur s2).k≠0:=by simpa using hb
     rw[aO hb]at b;refine rW hs A.ws hN A.l λyp hq yd=>?_;refine⟨i64 (cur (bK s2)).a,rfl,?_⟩;exact uM hq (xc 50 _ (y 50 _ (by rw[<-b])))
    .have hb:¬((cur s2).k≠5/\(cur s2).k≠0):=by simpa using hb
     rw[aE hb]at b;exact⟨hs,b⟩
   rintro _ g2 yq ⟨hs,b⟩;refine Cc hs A.ws hN A.l λyp hq yd=>?_;have lg:=nS A.ws;have uq:=congrArg List.length lg.1.toks;have ur:=lg.1.le;have xx:=A.lines;have zy:=xx.ws.lt;refine⟨⟨rfl,hY (bK s2),_,top++[x],n,hq,xx,b,by omega,by rw[aB,aA,aD];omega,by omega⟩,?_⟩;rw[hq.at_,h7.at_];omega
  .have F:(cur Q).k=0:=by
    by_cases h:(cur Q).k=0
    .exact h
    .exact absurd h F
   rw[aO F]at b;refine gL h8.fr.hf rfl ?_;obtain⟨ep,ec,e1,_⟩:=h8.fr.oE.sl.shape;obtain⟨bp,bc,e2,_⟩:=h8.fr.oB.sl.shape;obtain⟨tp,tc,e3,_⟩:=h8.fr.oT.sl.shape;refine dH (l:=[M1.vE,M1.vB,M1.vT]) h8.fr.hf rfl rfl (by rw[e1,e2,e3];rfl) λw9 ut zd ye=>?_;have hy:Chg (Of f) C w9:=h8.ch.trans (ye.mono λk _ e=>e);refine lJ (yg hy) rfl (by simp) λJ xp xj Y=>?_;have yc:=Y.at zd (by omega);refine Tv ?_;refine gL yc rfl ?_;refine⟨.pointer none,by rw[cS,xj];rfl,?_⟩;have ha:=h8.fr.out;have ha:=ha.keep ye λk I zb hu e=>by have e:k=f:=e;omega
   have ha:=ha.keep Y λk I zb hu e=>by have e:k=bd:=e;omega
   have xo:=S.size;rw[<-b]at L;have few:=G.few;refine L _ rfl M1 J ?_ (ha.low xo) ⟨hm.ex.1,hm.ex.2,by show top.length<=_;omega⟩;refine(S.then hy λk I e=>?_).then Y λk I e=>?_
   .have e:k=f:=e;omega
   .have e:k=bd:=e;omega
 .rw[bX];refine⟨.slice none 0 0,rfl,?_⟩;rw[bX];refine⟨.pointer (some ⟨d,0,none⟩),rfl,?_⟩;have Z:=B.at xb id;have xg:=B.at xz id;refine lJ Z rfl (by simp) λC yw j H=>?_;have j:C.heap[bd]?=some (.cells [.pointer (some ⟨d,0,none⟩)].toArray 29 (0,0)):=by rw[j];simp
  have X:=H.at xg (by omega);refine⟨.pointer (some ⟨d,0,none⟩),by rw[cS,j];rfl,?_⟩;show bE (.bool true) _ _;rw[dF,dW];refine⟨.pointer (some ⟨d,0,none⟩),by rw[cS,heap_drew,j];rfl,?_⟩;refine dH (w:=C.drew) (l:=[.slice none 0 0,.slice none 0 0,.slice none 0 0]) X rfl rfl rfl λw5 yv xf O=>?_;have xa:=O.at (w:=C.drew) j (by omega);refine⟨⟨.pointer (some ⟨d,0,none⟩),by rw[cS,xa];rfl,rfl⟩,?_⟩;refine lJ xa rfl (by simp) λw6 uu yh xi=>?_;have ze:=xi.at xf (by omega);refine gL ze rfl ?_;refine⟨.pointer (some ⟨d,0,none⟩),by rw[cS,yh];rfl,?_⟩;have xq:=U.trans B;have zh:=H.at xh (by omega);have zg:=O.at (w:=C.drew) zh (by omega);refine y c a (by rw[E]) d w6 ?_ (by omega) (xi.at zg (by omega));exact(((xq.new H (by omega)).trans (cQ C)).new O (by omega)).new xi (by omega)
def YG[HX](g:∀[HX],VS){t:Str}(f:TabI w)(h:t.length<=1000000)
 (e:∀fl,lS t=.ok fl->∀M W,Ext w W->FO W w.heap.size M fl->(fl.ex.length<=100000/\fl.bl.length<=100000/\fl.top.length<=100000)->K (.tuple #[.agg [M.vE,M.vB,M.vT].toArray,.pointer none]) W)
 (b:∀c a,lS t=.bad c a->∀d W,Ext w W->w.heap.size<=d->W.heap[d]?=some (.cells [i64 c,str [],i64 a].toArray 48 (0,0))->K (.tuple #[.agg [.slice none 0 0,.slice none 0 0,.slice none 0 0].toArray,.pointer (some ⟨d,0,none⟩)]) W):
 aL P0 12 [str t] w K:=TX g f (by omega) e b
abbrev cv(c:UInt8):Value:=.int .u8 (c.toNat:Nat)
def xF(a c:UInt8):decide (((a.toNat:Nat):Int)<=((c.toNat:Nat):Int))=decide (a<=c):=by
 rw[decide_eq_decide,UInt8.le_iff_toNat_le];omega
def AB(a c:UInt8):decide (((c.toNat:Nat):Int)=((a.toNat:Nat):Int))=(c==a):=by
 rw[qP,decide_eq_true_iff,iU,<-mZ];omega
section
variable [HX]
def Bp(f:K (.bool (gV c)) w):aL P0 108 [cv c] w K:=by
 refine aBv ?_;unfold aG8;have l:decide ((97:Int)<=((c.toNat:Nat):Int))=decide (97<=c):=xF 97 c;have k:decide (((c.toNat:Nat):Int)<=122)=decide (c<=122):=xF c 122;have j:decide ((65:Int)<=((c.toNat:Nat):Int))=decide (65<=c):=xF 65 c;have i:decide (((c.toNat:Nat):Int)<=90)=decide (c<=90):=xF c 90;have h:decide (((c.toNat:Nat):Int)=95)=(c==95):=AB 95 c;simp only[gN,iC,bW,l,k,j,i,h];unfold gV at f;generalize decide (97<=c)=a at*
 generalize decide (c<=122)=b at*
 generalize decide (65<=c)=d at*
 generalize decide (c<=90)=e at*
 generalize (c==95)=g at*
 cases a<;>cases b<;>cases d<;>cases e<;>cases g<;>
  (simp only[gX,jV,Mb,FB,rN,aV,aR,iZ,iN,aG,dT,dG];intros;exact f)
def Gg(d:K (.bool (jY c)) w):aL P0 110 [cv c] w K:=by
 refine aBt ?_;unfold aG6;have f:decide ((48:Int)<=((c.toNat:Nat):Int))=decide (48<=c):=xF 48 c;have e:decide (((c.toNat:Nat):Int)<=57)=decide (c<=57):=xF c 57;simp only[gN,iC,f,e];unfold jY at d;generalize decide (48<=c)=a at*
 generalize decide (c<=57)=b at*
 cases a<;>cases b<;>
  (simp only[gX,jV,Mb,FB,rN,aV,aR,iZ,iN,aG,dT,dG];intros;exact d)
def zT{g:FuncId}{args:List Value}(h:aL P g args w K):qN P (.func (.func g) #[] #[]) args w K:=iM (caps:=[]) (by rw[dL];exact h)
def YT(a:K (.bool (gY c)) w):aL P0 109 [cv c] w K:=by
 refine aBu ?_;unfold aG7;refine Bp ?_;have d:decide (((c.toNat:Nat):Int)=45)=(c==45):=AB 45 c;unfold gY at a;simp only[jV,bW,d];refine GdW.look (jY c) (λ_ J b=>Gg b) λg=>?_;simp only[aG];rw[mJ];simp only[jV,rN,aG];intro g2;rw[mJ];exact a
def YS(a:K (.bool (gY c)) w):aL P0 150 [cv c] w K:=by
 refine aA1 ?_;unfold aGF;refine Bp ?_;have d:decide (((c.toNat:Nat):Int)=45)=(c==45):=AB 45 c;unfold gY at a;simp only[jV,bW,d];refine GdW.look (jY c) (λ_ J b=>Gg b) λg=>?_;simp only[aG];rw[mJ];simp only[jV,rN,aG];intro g2;rw[mJ];exact a
def Zf(a:K (.bool (c !=10)) w):aL P0 106 [cv c] w K:=by
 refine aBw ?_;unfold aG9;rw[fR];have e:decide (((c.toNat:Nat):Int)≠10)=(c !=10):=by
  have b:decide (((c.toNat:Nat):Int)=10)=(c==10):=AB 10 c;rw[bne,<-b,decide_not]
 rw[e];exact a
def Pn{q:UInt8->Bool}(k:s.length<=1000000)(f:∀c {w:World} {K:Q0},K (.bool (q c)) w->qN P0 v [cv c] w K)(d:K (i64 (gD q s:Nat)) w):aL P0 105 [str s,v] w K:=by
 refine aBx ?_;unfold aHa;rw[eR];refine eK.go (λst W=>∃i:Nat,st=[i64 (i:Nat)]/\i<=s.length/\W=w/\i+gD q (s.drop i)=gD q s) (λst _=>match st with|[.int _ i]=>s.length-i.toNat|_=>0) ⟨0,rfl,by omega,rfl,by simp⟩ ?_;rintro st g W ⟨i,rfl,l,rfl,a⟩;simp only[aG];rw[eC,aY];refine⟨λb=>?_,λj=>?_⟩
 .have b:i<s.length:=by omega
  rw[mG b]at a;simp only[gD]at a;refine uV b ?_;refine f _ ?_;rw[gK,fC];refine⟨λh=>?_,λe=>?_⟩
  .rw[aE (by simpa using h),bL]at a;rw[a];exact d
  .rw[aO (by simpa using e)]at a;rw[cP,upi (by omega)];refine⟨⟨i+1,rfl,by omega,rfl,by omega⟩,?_⟩;simp only[bD];omega
 .obtain rfl:i=s.length:=by omega
  rw[iH]at a;simp only[gD,bL]at a;rw[eR,a];exact d
def Hc{l:Str}(a:K (i64 (Lib.indexByte l c)) w):aL P0 104 [str l,cv c] w K:=by
 refine lO (args:=#[str l,cv c]) Tryz.call104 ((Tryz.strings_IndexByte (ofL l) (c.toNat:Nat) w).mono ?_);rintro e W ⟨rfl,rfl⟩;refine⟨_,rfl,?_⟩;rw[iX];simpa using a
def UO(b:TabI w)(d:s.length<=1000000)(c:K (i64 (Lib.index s [42,47])) w):aL P0 107 [str s,str [42,47]] w K:=by
 obtain⟨m,a⟩:=b;refine lO (args:=#[str s,str [42,47]]) Tryz.call107 ((Tryz.strings_Index (ofL s) (ofL [42,47]) m w (by rw[kD];omega) a).mono ?_);rintro e W ⟨rfl,rfl⟩;rw[iX,iX];exact⟨_,rfl,c⟩
end
def aEa(c:UInt8):decide (0<=Lib.indexByte [32,9,13] c)=(c==32||c==9||c==13):=by
 have:∀m:Fin 256,decide (0<=Lib.indexByte [32,9,13] (UInt8.ofNat m.val))=(UInt8.ofNat m.val==32||UInt8.ofNat m.val==9||UInt8.ofNat m.val==13):=by decide+kernel
 have h:=this ⟨c.toNat,rT c⟩;rwa[sS]at h
def aHl(c:UInt8):decide (Lib.indexByte [34,92,110,116,114,36] c<0)=!Lex.escOk c:=by
 have:∀m:Fin 256,decide (Lib.indexByte [34,92,110,116,114,36] (UInt8.ofNat m.val)<0)=!Lex.escOk (UInt8.ofNat m.val):=by decide+kernel
 have h:=this ⟨c.toNat,rT c⟩;rwa[sS]at h
def aCl(c:UInt8):decide (0<=Lib.indexByte [123,125,91,93,40,41,61,43,45,42,47,37,60,62,33,63,58,44,46] c)=En.contains c:=by
 have:∀m:Fin 256,decide (0<=Lib.indexByte [123,125,91,93,40,41,61,43,45,42,47,37,60,62,33,63,58,44,46] (UInt8.ofNat m.val))=En.contains (UInt8.ofNat m.val):=by decide+kernel
 have h:=this ⟨c.toNat,rT c⟩;rwa[sS]at h
def Ih(n:Nat)(c:UInt8)(r:Str):gU (n+1) (c::r)=(if(c==32||c==9||c==13)=true then((gU n r).1+1,(gU n r).2)else if(c==35||Lib.hasPrefix (c::r) [47,47])=true then((gU n ((c::r).drop (gD (λb=>b !=10) (c::r)))).1+gD (λb=>b !=10) (c::r),(gU n ((c::r).drop (gD (λb=>b !=10) (c::r)))).2)
  else if Lib.hasPrefix (c::r) [47,42]=true then(if Lib.index (r.drop 1) [42,47]<0 then(0,40)else((gU n ((c::r).drop ((Lib.index (r.drop 1) [42,47]).toNat+4))).1+((Lib.index (r.drop 1) [42,47]).toNat+4),(gU n ((c::r).drop ((Lib.index (r.drop 1) [42,47]).toNat+4))).2))else(0,0)):=by
 simp only[gU,gH,iU];rfl
def Ts{q:UInt8->Bool}{r:Str}(h:q c=true):1<=gD q (c::r):=by simp only[gD];rw[aO h];omega
def add_add(i j:Nat)(x:Nat×Int):nJ i (nJ j x)=nJ (i+j) x:=by
 unfold nJ;by_cases h:x.2=0
 .simp only[h,mE];rw[show x.1+j+i=x.1+(i+j)by omega]
 .simp only[aE h]
section
variable [HX]
theorem aCj(F:TabI w)(L:s.length<=1000000)(o:K (.tuple #[i64 ((gU (s.length+1) s).1:Nat),i64 (gU (s.length+1) s).2]) w):aL P0 60 [str s] w K:=by
 refine aEA ?_;unfold W60;generalize G:gU (s.length+1) s=R0 at o;refine eK.go (λst W=>∃i n:Nat,st=[i64 (i:Nat)]/\i<=s.length/\W=w/\((gU n (s.drop i)).1+i,(gU n (s.drop i)).2)=R0/\s.length<n+i) (λst _=>match st with|[.int _ i]=>s.length-i.toNat|_=>0) ⟨0,s.length+1,rfl,by omega,rfl,by rw[dZ,G];rfl,by omega⟩ ?_;rintro st g W ⟨i,n,rfl,M,rfl,a,J⟩;obtain⟨n,rfl⟩:∃m,n=m+1:=⟨n-1,by omega⟩;simp only[aG];rw[eR,eC,aY];refine⟨λf=>?_,λD=>?_⟩
 .have f:i<s.length:=by omega
  have v:=mG f;rw[v,Ih]at a;rw[fH,fJ,fF];refine⟨by omega,by omega,?_⟩;rw[dP,bD];refine uV f ?_;refine Hc ?_;rw[gN,aEa,fC];refine⟨λA=>?_,λA=>?_⟩
  .rw[aO A]at a;rw[cP,upi (by omega)];refine⟨⟨i+1,n,rfl,by omega,rfl,?_,by omega⟩,?_⟩
   .rw[<-a];simp only[gA,fQ];omega
   .simp only[bD];omega
  rw[aE (by rw[A];decide)]at a;have u:=v;rw[v];generalize E:s[i]=c at*
  generalize C:s.drop (i+1)=r at*
  have x:(c::r).length=s.length-i:=by rw[<-v,aW]
  simp only[aA]at x;refine dE.cut (λst w2=>st=[.bool (c==35||Lib.hasPrefix (c::r) [47,47])]/\w2=W) ?_ ?_
  .refine uV f ?_;rw[E];have I:decide (((c.toNat:Nat):Int)=35)=(c==35):=AB 35 c;rw[bW,I,fC];refine⟨λh=>⟨by rw[h];rfl,rfl⟩,λh=>?_⟩;refine CI ?_;exact⟨by rw[h,dK],rfl⟩
  rintro st g2 w2 ⟨rfl,rfl⟩;simp only[aG];rw[fC];refine⟨λe=>?_,λe=>?_⟩
  .rw[aO e]at a;refine Pn (q:=λb=>b !=10) (by simp only[aA];omega) (λc {w K} h=>zT (Zf h)) ?_;have y:=vH (λb=>b !=10) (c::r);have l:1<=gD (λb=>b !=10) (c::r):=Ts (by
    rw[gH]at e;rcases e with h|h
    .rw[iU]at h;subst h;rfl
    .simp only[Lib.hasPrefix,List.isPrefixOf,bV,iU]at h;rw[<-h.1];rfl)
   simp only[aA]at y;rw[cP,fZ (by omega) (by omega)];generalize gD (λb=>b !=10) (c::r)=k at*
   refine⟨⟨i+k,n,by simp only[gC,Value.int.injEq,dQ,fQ];omega,by omega,rfl,?_,by omega⟩,?_⟩
   .rw[<-a,<-kL,u];simp only[gA,fQ];omega
   .simp only[bD];omega
  rw[aE (by rw[e];decide)]at a;refine CI ?_;rw[fC];refine⟨λd=>?_,λd=>?_⟩
  .rw[aO d]at a;rw[fH,fJ,fF];have H:2<=(c::r).length:=JW (p:=[47,42]) (s:=c::r) d;simp only[aA]at H;refine⟨by omega,by simp only[aA];omega,?_⟩;rw[dP];show aL P0 107 [str (r.drop 1),str [42,47]] w2 _;refine UO F (by rw[aW];omega) ?_;rw[eC,aY];refine⟨λt=>?_,λl=>?_⟩
   .rw[aO t]at a;rw[<-a,aN]at o;exact o
   .rw[aE l]at a;obtain⟨j,B⟩:=AS (show 0<=Lib.index (r.drop 1) [42,47]by omega);have z:=Ku _ _ B;rw[aW]at z;rw[B]at a⊢;rw[cP,fZ (by omega) (by omega),cP,fZ (by omega) (by omega)];rw[bD]at a;refine⟨⟨i+(j+4),n,by simp only[gC,Value.int.injEq,dQ,fQ];omega,by omega,rfl,?_,by omega⟩,?_⟩
    .rw[<-a,<-kL,u];simp only[gA,fQ];omega
    .simp only[bD];omega
  .rw[aE (by rw[d];decide),aN]at a;rw[<-a]at o;exact o
 .obtain rfl:i=s.length:=by omega
  rw[iH]at a;simp only[gU,aN]at a;rw[<-a]at o;exact o
def uL(x:Nat×Int):List Value:=if x.2=0 then [i64 ((x.1+1:Nat):Int),i64 0]else [i64 0,i64 x.2]
def TxC(n:Nat):Prop:=∀(c:UInt8) (r:Str) (d:Nat) (w:World) (K:Q0),r.length<n->r.length<=1000000->d<=24->K (.tuple (uL (jC r d)).toArray) w->aL P0 112 [str (c::r),i64 (d:Nat)] w K
def InC(n:Nat):Prop:=∀(c:UInt8) (r:Str) (d:Nat) (w:World) (K:Q0),r.length<n->r.length<=1000000->d<=25->K (.tuple (uL (if 24<d then(0,7)else mP r d)).toArray) w->aL P0 149 [str (c::r),i64 (d:Nat)] w K
def sM{x:Nat×Int}:uL (nJ i x)=if x.2=0 then [i64 ((i+x.1+1:Nat):Int),i64 0]else [i64 0,i64 x.2]:=by
 unfold uL nJ;by_cases h:x.2=0
 .simp only[h,mE];rw[show x.1+i+1=i+x.1+1 by omega]
 .simp only[aE h]
theorem Wl(H:InC n):TxC (n+1):=by
 intro c r d w K P Q B f;refine aBr ?_;unfold aG4;have b:(c::r).length=r.length+1:=rfl;generalize L:uL (jC r d)=R0 at f;have cond:∀{c:UInt8} (k:Nat),k<256->(((c.toNat:Nat):Int)=(k:Int)↔c=UInt8.ofNat k):=λ{c} k F=>by
  have:=Ie c k F;rwa[decide_eq_decide]at this
 refine eK.go (λst W=>∃i:Nat,st=[i64 ((i+1:Nat):Int)]/\W=w/\i<=r.length/\uL (nJ i (jC (r.drop i) d))=R0) (λst _=>match st with|[.int _ i]=>r.length+1-i.toNat|_=>0) ⟨0,rfl,rfl,by omega,by rw[dZ,sM,<-L];unfold uL;rw[aN]⟩ ?_;rintro st g w2 ⟨i,rfl,rfl,G,a⟩;simp only[aG];rw[eR,eC,aY,b];refine⟨λp=>?_,λI=>?_⟩
 .have p:i<r.length:=by omega
  have C:=mG p;rw[C,mX]at a;simp only[iU]at a;have t:∀{D:Value->Prop},D (cv r[i])->qM (str (c::r)) (i64 ((i+1:Nat):Int)) D:=λh=>uV (s:=c::r) (i:=i+1) (by rw[b];omega) h;refine t ?_;rw[bW,aY];refine⟨λe=>?_,λe=>?_⟩
  .have e:r[i]=34:=(cond 34 (by omega)).1 e;rw[aO e,sM,aO rfl]at a;rw[cP,upi (by omega)];rw[<-a]at f;exact f
  have e:¬r[i]=34:=λh=>e ((cond 34 (by omega)).2 h);rw[aE e]at a;refine t ?_;rw[bW,aY];refine⟨λe=>?_,λe=>?_⟩
  .have e:r[i]=10:=(cond 10 (by omega)).1 e;rw[aO e,sM,aE (by simp)]at a;rw[<-a]at f;exact f
  have e:¬r[i]=10:=λh=>e ((cond 10 (by omega)).2 h);rw[aE e]at a;refine t ?_;rw[bW,aY];refine⟨λe=>?_,λe=>?_⟩
  .have e:r[i]=92:=(cond 92 (by omega)).1 e;rw[aO e]at a;rw[cP,upi (by omega),eR,gN,b];simp only[jV];by_cases q:r.length<=i+1
   .have O:r.drop (i+1)=[]:=iQ q;rw[O]at a;simp only at a;rw[sM,aE (by simp)]at a;rw[bS (by omega),dT,FB];intro g2;rw[iZ,dF];rw[<-a]at f;exact f
   .have j:i+1<r.length:=by omega
    have m:=mG j;rw[m]at a;simp only at a;rw[cX (by omega),dG];refine GdW.look (!Lex.escOk r[i+1]) (λ_ J M=>?_) λg2=>?_
    .rw[cP,upi (by omega)];refine uV (s:=c::r) (i:=i+2) (by rw[b];omega) ?_;refine Hc ?_;rw[eC];have:=aHl r[i+1];rw[show(c::r)[i+2]=r[i+1]from rfl,this];exact M
    simp only[aG,aV,iN];rw[fC];refine⟨λz=>?_,λv=>?_⟩
    .have z:¬Lex.escOk r[i+1]=true:=by simpa using z
     rw[aE z,sM,aE (by simp)]at a;rw[<-a]at f;exact f
    .have v:Lex.escOk r[i+1]=true:=by simpa using v
     rw[aO v,add_add]at a;rw[cP,fZ (by omega) (by omega)];refine⟨⟨i+2,by simp only[gC,Value.int.injEq,dQ,fQ];omega,trivial,by omega,a⟩,?_⟩;simp only[bD];omega
  have e:¬r[i]=92:=λh=>e ((cond 92 (by omega)).2 h);rw[aE e]at a;rw[fH,fJ,fF];refine⟨by omega,by rw[b];omega,?_⟩;rw[dP,bD,dI,C];refine CI ?_;rw[pre_eq,fC];refine⟨λe=>?_,λe=>?_⟩
  .rw[aO e]at a;have N:=JW e;have j:i+1<r.length:=by
    simp only[aA,aD,aW]at N;omega
   have m:=mG j;rw[cP,upi (by omega),fH,fJ,fF];refine⟨by omega,by rw[b];omega,?_⟩;rw[dP,bD,dI,m,cP,upi (by omega)];have y:(r.drop (i+1)).drop 1=r.drop (i+2):=by rw[kL]
   rw[y]at a;have E:(r.drop (i+2)).length=r.length-(i+2):=aW ..;refine H _ _ (d+1) _ _ (by show(r.drop (i+2)).length<n;omega) (by show(r.drop (i+2)).length<=_;omega) (by omega) ?_;have u:∃x:Nat×Int,x=(if 24<d+1 then((0:Nat),(7:Int))else mP (r.drop (i+2)) (d+1))/\uL (nJ i (if x.2=0 then nJ (x.1+2) (jC ((r.drop (i+2)).drop x.1) d)else(0,x.2)))=R0/\(x.2=0->x.1<=(r.drop (i+2)).length):=by
    refine⟨_,rfl,?_,?_⟩
    .by_cases h:24<d+1
     .rw[aO h]at a⊢;exact a
     .rw[aE h]at a⊢;exact a
    .by_cases h:24<d+1
     .rw[aO h];intro h;exact absurd h (by simp)
     .rw[aE h];intro l;exact((mV _ (r.drop (i+2)) (aQ _)).2 (d+1) _ (kG rfl l)).1.2
   obtain⟨x,ex,a,o⟩:=u;rw[show r.drop (i+1+1)=r.drop (i+2)from rfl,<-ex];by_cases l:x.2=0
   .have A:uL x=[i64 ((x.1+1:Nat):Int),i64 0]:=by unfold uL;rw[aO l]
    have o:=o l;rw[aO l,add_add,kL]at a;rw[A,bX];refine⟨i64 ((x.1+1:Nat):Int),rfl,?_⟩;rw[bX];refine⟨i64 0,rfl,?_⟩;rw[fR,aY];refine⟨λh=>absurd rfl h,λ_=>?_⟩;rw[cP,fZ (by omega) (by omega),cP,fZ (by omega) (by omega)];refine⟨⟨i+(x.1+2),by simp only[gC,Value.int.injEq,dQ,fQ];omega,rfl,by omega,by rw[show i+(x.1+2)=i+2+x.1 by omega]at a⊢;exact a⟩,?_⟩;simp only[bD];omega
   .have A:uL x=[i64 0,i64 x.2]:=by unfold uL;rw[aE l]
    rw[aE l,sM,aE l]at a;rw[A,bX];refine⟨i64 0,rfl,?_⟩;rw[bX];refine⟨i64 x.2,rfl,?_⟩;rw[fR,aY];refine⟨λ_=>by rw[<-a]at f;exact f,λh=>absurd l h⟩
  .rw[aE (by rw[e];decide),add_add]at a;rw[cP,upi (by omega)];refine⟨⟨i+1,rfl,rfl,by omega,a⟩,?_⟩;simp only[bD];omega
 .obtain rfl:i=r.length:=by omega
  rw[iH,uF,sM,aE (by simp)]at a;rw[<-a]at f;exact f
theorem Zr(C:InC n)(t:TxC n):InC (n+1):=by
 intro c r d w K I J y f;refine aA2 ?_;unfold aGG;rw[gG,aY];refine⟨λh=>?_,λh=>?_⟩
 .rw[aO (by omega)]at f;exact f
 have q:d<=24:=by omega
 rw[aE (by omega)]at f;have b:(c::r).length=r.length+1:=rfl;generalize E:uL (mP r d)=R0 at f;have cond:∀{c:UInt8} (k:Nat),k<256->(((c.toNat:Nat):Int)=(k:Int)↔c=UInt8.ofNat k):=λ{c} k A=>by
  have:=Ie c k A;rwa[decide_eq_decide]at this
 refine eK.go (λst W=>∃i:Nat,st=[i64 ((i+1:Nat):Int)]/\W=w/\i<=r.length/\uL (nJ i (mP (r.drop i) d))=R0) (λst _=>match st with|[.int _ i]=>r.length+1-i.toNat|_=>0) ⟨0,rfl,rfl,by omega,by rw[dZ,sM,<-E];unfold uL;rw[aN]⟩ ?_;rintro st g w2 ⟨i,rfl,rfl,B,a⟩;simp only[aG];rw[eR,eC,aY,b];refine⟨λp=>?_,λD=>?_⟩
 .have p:i<r.length:=by omega
  have u:=mG p;rw[u,sX]at a;simp only[iU]at a;have z:(r.drop (i+1)).length=r.length-(i+1):=aW ..;refine dE.cut (λst W=>W=w2/\∃(k:Nat) (e:Int),st=[i64 (if e=0 then((k+1:Nat):Int)else 0),i64 e]/\(e=0->i+(k+1)<=r.length/\uL (nJ (i+(k+1)) (mP (r.drop (i+(k+1))) d))=R0)/\(e≠0->[i64 0,i64 e]=R0)) ?_ ?_
  .refine uV (s:=c::r) (i:=i+1) (by rw[b];omega) ?_;show aS .eql (cv r[i]) _ _;rw[bW,aY];refine⟨λe=>?_,λe=>?_⟩
   .have e:r[i]=125:=(cond 125 (by omega)).1 e;rw[aO e,sM,aO rfl]at a;rw[cP,upi (by omega)];rw[<-a]at f;exact f
   have e:¬r[i]=125:=λh=>e ((cond 125 (by omega)).2 h);rw[aE e]at a;rw[bW,aY];refine⟨λe=>?_,λe=>?_⟩
   .have e:r[i]=10:=(cond 10 (by omega)).1 e;rw[aO e,sM,aE (by simp)]at a;rw[<-a]at f;exact f
   have e:¬r[i]=10:=λh=>e ((cond 10 (by omega)).2 h);rw[aE e]at a;have sub:∀(x:Nat×Int),uL (nJ i (if x.2=0 then nJ (x.1+1) (mP ((r.drop (i+1)).drop x.1) d)else(0,x.2)))=R0->(x.2=0->x.1<=(r.drop (i+1)).length)->kH 0 (.tuple (uL x).toArray) λt33=>kH 1 (.tuple (uL x).toArray) λt34=>(λ(st:List Value) (W:World)=>W=w2/\∃(k:Nat) (e:Int),st=[i64 (if e=0 then((k+1:Nat):Int)else 0),i64 e]/\(e=0->i+(k+1)<=r.length/\uL (nJ (i+(k+1)) (mP (r.drop (i+(k+1))) d))=R0)/\(e≠0->[i64 0,i64 e]=R0)) [t33,t34] w2:=λx o m=>by
    by_cases j:x.2=0
    .have v:uL x=[i64 ((x.1+1:Nat):Int),i64 0]:=by unfold uL;rw[aO j]
     have m:=m j;rw[aO j,add_add,kL]at o;rw[v,bX];refine⟨i64 ((x.1+1:Nat):Int),rfl,?_⟩;rw[bX];refine⟨i64 0,rfl,rfl,x.1,0,by rw[aO rfl],λ_=>⟨by omega,by rw[show i+(x.1+1)=i+1+x.1 by omega]at o⊢;exact o⟩,λh=>absurd rfl h⟩
    .have v:uL x=[i64 0,i64 x.2]:=by unfold uL;rw[aE j]
     rw[aE j,sM,aE j]at o;rw[v,bX];refine⟨i64 0,rfl,?_⟩;rw[bX];exact⟨i64 x.2,rfl,rfl,0,x.2,by rw[aE j],λh=>absurd h j,λ_=>o⟩
   rw[bW,aY];refine⟨λe=>?_,λe=>?_⟩
   .have e:r[i]=123:=(cond 123 (by omega)).1 e;rw[aO e]at a;rw[fH,fJ,fF];refine⟨by omega,by rw[b];omega,?_⟩;rw[dP,bD,dI,u,cP,upi (by omega)];refine C _ _ (d+1) _ _ (by omega) (by omega) (by omega) ?_;refine sub _ ?_ ?_
    .by_cases h:24<d+1
     .rw[aO h]at a⊢;exact a
     .rw[aE h]at a⊢;exact a
    .by_cases h:24<d+1
     .rw[aO h];intro h;exact absurd h (by simp)
     .rw[aE h];intro j;exact((mV _ (r.drop (i+1)) (aQ _)).2 (d+1) _ (kG rfl j)).1.2
   have e:¬r[i]=123:=λh=>e ((cond 123 (by omega)).2 h);rw[aE e]at a;rw[bW,aY];refine⟨λe=>?_,λe=>?_⟩
   .have e:r[i]=34:=(cond 34 (by omega)).1 e;rw[aO e]at a;rw[fH,fJ,fF];refine⟨by omega,by rw[b];omega,?_⟩;rw[dP,bD,dI,u];refine t _ _ d _ _ (by omega) (by omega) q ?_;refine sub _ a λj=>?_;exact((mV _ (r.drop (i+1)) (aQ _)).1 d _ (kG rfl j)).2.2
   .have e:¬r[i]=34:=λh=>e ((cond 34 (by omega)).2 h);rw[aE e,add_add]at a;exact⟨rfl,0,0,rfl,λ_=>⟨by omega,a⟩,λh=>absurd rfl h⟩
  rintro st g2 H ⟨rfl,k,e,rfl,G,F⟩;simp only[aG,bQ];rw[fR,aY];refine⟨λl=>by rw[<-F l]at f;exact f,λl=>?_⟩;have l:e=0:=by
   by_cases h:e=0
   .exact h
   .exact absurd h l
  obtain⟨g1,g2⟩:=G l;rw[aO l,cP,fZ (by omega) (by omega)];refine⟨⟨i+(k+1),by simp only[gC,Value.int.injEq,dQ,fQ];omega,trivial,g1,g2⟩,?_⟩;simp only[bD];omega
 .obtain rfl:i=r.length:=by omega
  rw[iH,Hb,sM,aE (by simp)]at a;rw[<-a]at f;exact f
def OV:∀n,TxC n/\InC n
 |0=>⟨λ_ _ _ _ _ h=>by omega,λ_ _ _ _ _ h=>by omega⟩
 |n+1=>⟨Wl (OV n).2,Zr (OV n).2 (OV n).1⟩
def Za{r:Str}{d:Nat}(a:r.length<=1000000)(b:d<=24)(e:K (.tuple (uL (jC r d)).toArray) w):aL P0 112 [str (c::r),i64 (d:Nat)] w K:=(OV (r.length+1)).1 c r d w K (by omega) a b e
end
end
end Go.Proofs.YtjblfcfdeaagpaaGreatDoor
namespace Go.Eng
section
open Go
def byte_at{r:Str}(h:s.drop i=c::r):lM s i=c.toNat:=by
 unfold lM;have:s[i]?=some c:=by
  have:=iF (xs:=s) (i:=i) (j:=0);rw[h]at this;simpa using this.symm
 rw[this]
def Ht{l r:Str}(h:s.drop i=l++r):s.drop (i+l.length)=r:=by
 rw[<-jI,h,qB]
def AD{r:Str}(h:s.drop i=c::r):i<s.length:=by
 apply Nat.lt_of_not_le;intro a;rw[EV.2 a]at h;cases h
def wM{u r:Str}(h:s.drop i=u++r)(a:j<u.length):lM s (i+j)=u[j].toNat:=by
 have:s.drop (i+j)=u[j]::(u.drop (j+1)++r):=by
  rw[<-jI,h,EW (by omega),eW a];rfl
 exact byte_at this
def Io{t:Str}{k:Nat}(l:0<m)(h:lD s i=m)(e:∀j,j<m->lM t (k+j)=lM s (i+j)):lD t k=m:=by
 have u:lM t k=lM s i:=e 0 l;unfold lD at h⊢;dsimp only at h;simp only[u];by_cases q:m=1
 .subst q;split at h
  .omega
  rename_i a;split at h
  .rename_i b;rw[aE a,aO b]
  split at h
  .omega
  split at h
  .omega
  split at h<;>omega
 by_cases p:m=2
 .subst p;have f:=e 1 (by omega);have m1:sW t (k+1)=sW s (i+1):=by unfold sW;rw[f]
  simp only[m1];split at h
  .omega
  rename_i a;split at h
  .omega
  rename_i b;split at h
  .rename_i c;rw[aE a,aE b,aO c]
  split at h
  .omega
  split at h<;>omega
 by_cases o:m=3
 .subst o;have f:=e 1 (by omega);have g:=e 2 (by omega);have m1:sW t (k+1)=sW s (i+1):=by unfold sW;rw[f]
  have m2:sW t (k+2)=sW s (i+2):=by unfold sW;rw[g]
  simp only[m1,m2,f,g];split at h
  .omega
  rename_i a;split at h
  .omega
  rename_i b;split at h
  .omega
  rename_i c;split at h
  .rename_i d;rw[aE a,aE b,aE c,aO d]
  split at h<;>omega
 by_cases n:m=4
 .subst n;have f:=e 1 (by omega);have g:=e 2 (by omega);have r:=e 3 (by omega);simp only[sW,f,g,r]at h⊢;exact h
 .exfalso;split at h
  .omega
  split at h
  .omega
  split at h
  .omega
  split at h
  .omega
  split at h<;>omega
def WB(h:lD s i≠0):i<s.length:=by
 apply Nat.lt_of_not_le;intro a;exact h (rune_end a)
def QM(h:lD s i≠0):i+lD s i<=s.length:=by
 obtain⟨c,a⟩:=wK (WB h) h;exact a.fits
def Rn(u:Str):Prop:=u≠[]/\lD u 0=u.length
def Rn.pos{u:Str}(h:Rn u):0<u.length:=iO.2 h.1
def Rn.at{u r:Str}(h:Rn u)(b:s.drop i=u++r):lD s i=u.length:=by
 refine Io (s:=u) (i:=0) h.pos h.2 λj a=>?_;rw[wM b a,wM (s:=u) (i:=0) (u:=u) (r:=[]) (by simp) a]
def Rn.of(h:lD s i≠0):Rn ((s.drop i).take (lD s i)):=by
 have c:=QM h;have a:((s.drop i).take (lD s i)).length=lD s i:=by rw[cG,aW];omega
 refine⟨λe=>by rw[e]at a;simp at a;omega,?_⟩;rw[a];refine Io (s:=s) (i:=i) (by omega) rfl λj b=>?_;rw[wM (s:=s) (i:=i) (u:=(s.drop i).take (lD s i)) (r:=(s.drop i).drop (lD s i)) (rX _ _).symm (by omega),wM (s:=(s.drop i).take (lD s i)) (i:=0) (u:=(s.drop i).take (lD s i)) (r:=[]) (by simp) (by omega)]
inductive Utf:Str->Prop where
 |nil:Utf []
 |cons {u r:Str}:Rn u->Utf r->Utf (u++r)
def Utf.app{a b:Str}(h:Utf a)(d:Utf b):Utf (a++b):=by
 induction h with
 |nil=>exact d
 |cons c _ ih=>rw[cD];exact .cons c ih
def Utf.one{u:Str}(h:Rn u):Utf u:=by have:=Utf.cons h .nil;rwa[dL]at this
def Rn.cases{u:Str}(h:Rn u):(∃c:UInt8,u=[c]/\c.toNat<128)\/(∀c∈u,128<=c.toNat):=by
 have b:=h.2;have m:=h.pos;have k:∀j,(a:j<u.length)->lM u j=u[j].toNat:=λj a=>by
  have:=wM (s:=u) (i:=0) (u:=u) (r:=[]) (by simp) a;rwa[aN]at this
 have d:∀j,(a:j<u.length)->sW u j=true->128<=u[j].toNat:=λj a d=>by
  unfold sW at d;rw[k j a,bV,decide_eq_true_iff,decide_eq_true_iff]at d;omega
 unfold lD at b;rw[k 0 m]at b;simp only[aN]at b;have f:(∀j,(a:j<u.length)->128<=u[j].toNat)->∀c∈u,128<=c.toNat:=λa c o=>by
  obtain⟨j,p,rfl⟩:=List.getElem_of_mem o;exact a j p
 split at b
 .omega
 split at b
 .rename_i n;left;obtain⟨c,rfl⟩:=List.length_eq_one_iff.1 b.symm;refine⟨c,rfl,?_⟩;have e:([c]:Str)[0].toNat=c.toNat:=rfl;omega
 right;refine f λj a=>?_;split at b
 .rename_i c;obtain⟨l,_,g⟩:=c;obtain rfl|rfl:j=0\/j=1:=by omega
  .omega
  .exact d 1 a g
 split at b
 .rename_i c;obtain⟨l,_,g,c3,_⟩:=c;obtain rfl|rfl|rfl:j=0\/j=1\/j=2:=by omega
  .omega
  .exact d 1 a g
  .exact d 2 a c3
 split at b
 .rename_i c;obtain⟨l,_,g,c3,c4,_⟩:=c;obtain rfl|rfl|rfl|rfl:j=0\/j=1\/j=2\/j=3:=by omega
  .omega
  .exact d 1 a g
  .exact d 2 a c3
  .exact d 3 a c4
 .omega
def escOk(c:UInt8):Bool:=
 match aHk c with
 |[d]=>decide (d=c)&&decide (c≠34)&&decide (c≠92)&&decide (32<=c.toNat)
 |[a,b]=>decide (a=92)&&decide (aFE [a,b] 0=some ([c],2))
 |[a,b,d,e,f,g]=>decide (a=92)&&decide (b=117)&&decide (aDY [a,b,d,e,f,g] 0=c.toNat)
 |_=>false
end
end Go.Eng
namespace Go.Proofs.YtjblfcfdeaagpaaGreatDoor
section
open Go Go.Eng Go.RowKit Go.Syn Go.Lex
def WQ(c d:UInt8)(r:Str):[d].isPrefixOf (c::r)=(d==c):=by simp[List.isPrefixOf]
def Rr(s:Str):Lib.index s [10]=if gD (λb=>b !=10) s<s.length then((gD (λb=>b !=10) s:Nat):Int)else-1:=by
 induction s with
 |nil=>rfl
 |cons c r ih=>
  simp only[Lib.index,WQ];by_cases h:c=10
  .subst h;rfl
  .have l:((10:UInt8)==c)=false:=by rw[beq_eq_false_iff_ne];exactλe=>h e.symm
   have j:(c !=10)=true:=by simp[h]
   have m:gD (λb=>b !=10) (c::r)=gD (λb=>b !=10) r+1:=by simp only[gD];rw[aO j]
   obtain⟨k,a⟩:∃k,k=gD (λb=>b !=10) r:=⟨_,rfl⟩;have d:Lib.index r [10]=if k<r.length then(k:Int)else-1:=by rw[a];exact ih
   rw[l,aE (by decide),d,m,<-a];simp only[aA];by_cases i:k<r.length
   .have g:(if k<r.length then(k:Int)else-1)=k:=aO i;have f:(if k+1<r.length+1 then((k+1:Nat):Int)else-1)=((k+1:Nat):Int):=aO (by omega);rw[g,f,aE (by simp only[iU];omega)];rfl
   .have g:(if k<r.length then(k:Int)else-1)=-1:=aE i;have f:(if k+1<r.length+1 then((k+1:Nat):Int)else-1)=-1:=aE (by omega);rw[g,f];rfl
def ZH(s:Str):(Lib.cut s [10]).1=s.take (gD (λb=>b !=10) s)/\(Lib.cut s [10]).2.2=decide (gD (λb=>b !=10) s<s.length):=by
 have a:=vH (λb=>b !=10) s;unfold Lib.cut;rw[Rr];by_cases h:gD (λb=>b !=10) s<s.length
 .rw[aO h,aO (by omega),bD];exact⟨rfl,by simp[h]⟩
 .rw[aE h,aE (by omega)];exact⟨by rw[iD (by omega)],by simp[h]⟩
def SQ(l:Str):Lib.trimLeftS l [32,9]=l.drop (gD (λb=>b==32||b==9) l):=by
 unfold Lib.trimLeftS;induction l with
 |nil=>rfl
 |cons c r ih=>
  simp only[List.dropWhile_cons,gD];have e:([32,9]:Str).contains c=(c==32||c==9):=by simp[List.contains,List.elem];cases(c==32)<;>cases(c==9)<;>rfl
  rw[e];by_cases a:(c==32||c==9)=true
  .rw[aO a,aO a];exact ih
  .rw[aE a,aE a];rfl
def Rz(a b:Str):mF (a++b)=mF a++mF b:=by
 induction a with
 |nil=>rfl
 |cons c r ih=>
  simp only[fS,mF]
  (repeat' split)<;>simp only[fS,ih]
def Ot{u:Str}(h:∀c∈u,128<=c.toNat):mF u=u:=by
 induction u with
 |nil=>rfl
 |cons c r ih=>
  have d:=h c bC;have n:∀k:UInt8,k.toNat<128->(c==k)=false:=λk b=>by
   rw[beq_eq_false_iff_ne];intro e;subst e;omega
  simp only[mF,n 92 (by decide),n 34 (by decide),n 36 (by decide),n 9 (by decide),n 13 (by decide),Bool.or_self,rV,vJ,ih λx a=>h x (aF _ a)]
def wQ{r:Str}(h:Utf (c::r))(f:c.toNat<128):Utf r:=by
 generalize a:c::r=z at h;cases h with
 |nil=>cases a
 |@cons u r' b d=>
  rcases b.cases with⟨x,rfl,_⟩|e
  .simp only[fS,dS,gC]at a;rw[a.2];exact d
  .cases u with
   |nil=>exact absurd rfl b.1
   |cons y u'=>
    simp only[fS,gC]at a;have:=e y bC;rw[<-a.1]at this;omega
def Qv{t:Str}(h:Utf t):∀{a b:Str} {c:UInt8},t=a++c::b->c.toNat<128->Utf a/\Utf (c::b):=by
 induction h with
 |nil=>intro a b c e;simp at e
 |@cons u r g k ih=>
  intro a b c e m;by_cases f:u.length<=a.length
  .have j:a=u++a.drop u.length:=by
    have:=congrArg (List.take u.length) e;rw[uA,ET f]at this;have i:=rX u.length a;rw[<-this]at i;exact i.symm
   rw[j,cD]at e;have e:=List.append_cancel_left e;obtain⟨i1,i2⟩:=ih e m;rw[j];exact⟨.cons g i1,i2⟩
  .have d:c∈u:=by
    have:(u++r)[a.length]?=some c:=by rw[e];simp
    rw[dR (by omega)]at this;exact bA this
   rcases g.cases with⟨x,rfl,_⟩|l
   .have n:a=[]:=cW (by simp only[aA,aD]at f;omega);subst n;simp only[dS]at e;rw[<-e];exact⟨.nil,.cons g k⟩
   .have:=l c d;omega
def CW{t:Str}(h:Utf t){b:Str}(a:t.drop i=c::b)(d:c.toNat<128):Utf (t.take i)/\Utf (c::b):=
 Qv h (by rw[<-a,rX]) d
def SI(h:Utf s):Utf (s.take (gD (λb=>b !=10) s))/\(gD (λb=>b !=10) s<s.length->Utf (s.drop (gD (λb=>b !=10) s+1))):=by
 have stop:∀s:Str,∀b,(s.drop (gD (λb=>b !=10) s)).head?=some b->b=10:=by
  intro s;induction s with
  |nil=>intro b a;simp[gD]at a
  |cons c r ih=>
   intro b a;simp only[gD]at a;by_cases f:(c !=10)=true
   .rw[aO f,dI]at a;exact ih b a
   .rw[aE f]at a;simp only[dZ,List.head?_cons,bB]at a;rw[<-a];simpa using f
 by_cases g:gD (λb=>b !=10) s<s.length
 .have i:=mG g;have d:=stop s s[gD (λb=>b !=10) s] (by rw[i];rfl);obtain⟨k,j⟩:=CW h i (by rw[d];decide);exact⟨k,λ_=>wQ j (by rw[d];decide)⟩
 .exact⟨by rw[iD (by omega)];exact h,λe=>absurd e g⟩
def TabI.ext(h:TabI w)(b:Ext w W):TabI W:=by
 obtain⟨m,h⟩:=h;refine⟨m,?_⟩;rw[cS]at h⊢;cases a:w.heap[0]? with
 |none=>rw[a]at h;cases h
 |some o=>rw[b.at a id];rw[a]at h;exact h
section
variable [HX]
def GQ{l:Str}(c:K (.pointer (some ⟨w.heap.size,0,none⟩)) (w.alloc (.stringIter (ofL l) 0))):fV P0 (Instr.range 9 (str l)) w K:=by
 have b:Tryz.prog.underlying 9=some .string:=by kernel_rfl
 have a:(Instr.range 9 (str l)).run P0 w=.ok (.pointer (some ⟨w.heap.size,0,none⟩)) (w.alloc (.stringIter (ofL l) 0)):=by
  simp[Instr.range,run_bind,cL b,run_pure,newObj,Sem.run]
 unfold fV;rw[a];exact c
def Uo{o:Obj}(h:r<w.heap.size):Chg (· =r) w {w with heap:=w.heap.setIfInBounds r o}:=
 ⟨rfl,rfl,rfl,by simp,λk _ a=>by
  show(w.heap.setIfInBounds r o)[k]?=_
  rw[CN (by omega)]⟩
def IH{l:Str}(c:w.heap[r]?=some (.stringIter (ofL l) i))
  (g:l.length<=i->K (.tuple #[.bool false]) w)
  (f:i<l.length->∀W,W.heap[r]?=some (.stringIter (ofL l) (i+(Utf8.decode (ofL l) i).2))->Chg (· =r) w W->W.heap.size=w.heap.size->K (.tuple #[.bool true,i64 i,.int .i32 (Utf8.decode (ofL l) i).1]) W):
  fV P0 (Instr.next (.pointer (some ⟨r,0,none⟩)) true T) w K:=by
 have e:(getObj r).run P0 w=.ok (.stringIter (ofL l) i) w:=by simp[getObj,Sem.run,c]
 have b:r<w.heap.size:=(fY.1 c).1;unfold fV;simp only[Instr.next,run_bind,e,kD];by_cases d:i<l.length
 .have a:(setObj r (.stringIter (ofL l) (i+(Utf8.decode (ofL l) i).2))).run P0 w=.ok () {w with heap:=w.heap.setIfInBounds r (.stringIter (ofL l) (i+(Utf8.decode (ofL l) i).2))}:=by simp[setObj,Sem.run,c]
  rw[aO d];simp only[run_bind,a,run_pure];exact f d _ (by simp[b]) (Uo b) (by simp)
 .rw[aE d];simp only[run_pure];exact g (by omega)
theorem Tj{r:Str}(j:r.length<=1000000)(a:K (str (tF (c::r))) w):aL P0 114 [str (c::r)] w K:=by
 refine aBp ?_;unfold aG2;unfold tF at a;refine dE.cut (λ_ W=>W=w/\wX.contains ((c::r).take 2)=false) ?_ ?_
 .rw[eR,gG,aY];refine⟨λb=>?_,λb=>⟨rfl,?_⟩⟩
  .rw[fH,fF];refine⟨by omega,by omega,?_⟩;rw[fJ,dZ];rw[show(c::r).take (Int.toNat 2)=(c::r).take 2 from rfl];generalize h:(c::r).take 2=x at a⊢;refine dE.cut (λst W=>st=[.bool (wX.contains x)]/\W=w) ?_ ?_
   .unfold wX;simp only[List.contains_cons,List.contains_nil,eY];have f:∀y:Str,decide (x=y)=(x==y):=λy=>by rw[qP];simp
    simp only[fE,f];generalize (x==[61,61])=a1;generalize (x==[33,61])=a2;generalize (x==[60,61])=a3;generalize (x==[62,61])=a4;generalize (x==[38,38])=a5;generalize (x==[124,124])=a6;cases a1<;>simp only[dF,cI,eQ,dK,and_self];cases a2<;>simp only[dF,cI,eQ,dK,and_self];cases a3<;>simp only[dF,cI,eQ,dK,and_self];cases a4<;>simp only[dF,cI,eQ,dK,and_self];cases a5<;>simp only[dF,cI,eQ,dK,and_self]
   rintro st g W ⟨rfl,rfl⟩;simp only[aG];rw[fC];refine⟨λd=>?_,λe=>⟨trivial,e⟩⟩;rw[aO d]at a;rw[fH,fF];refine⟨by omega,by omega,?_⟩;rw[fJ,dZ];show K (str ((c::r).take 2)) W;rw[h];exact a
  .have:r=[]:=cW (by simp only[aA]at b;omega);subst this;simp[wX]
 rintro _ g W ⟨rfl,e⟩;rw[aE (by rw[e];decide)]at a;refine uV (s:=c::r) (i:=0) (by simp) ?_;show aL P0 104 [_,cv c] W _;refine Hc ?_;rw[gN,aCl,fC];have a:K (str (if En.contains c=true then(c::r).take 1 else [])) W:=a;refine⟨λd=>?_,λd=>?_⟩
 .rw[aO d]at a;rw[fH,fF];refine⟨by omega,by simp only[aA];omega,?_⟩;rw[fJ,dZ];exact a
 .rw[aE (by rw[d];decide)]at a;exact a
def aD7{t:Str}(c:TabI w)(h:t.length<=1000000)(d:∀x W,Ext w W->K (.tuple #[str (t.take (gD (λb=>b !=10) t)),x,.bool (decide (gD (λb=>b !=10) t<t.length))]) W):aL P0 151 [str t,str [10]] w K:=by
 obtain⟨m,a⟩:=c;refine lO (args:=#[str t,str [10]]) Tryz.call151 ((Tryz.strings_Cut (ofL t) (ofL [10]) m w (by rw[kD];omega) a).mono ?_);rintro e W ⟨rfl,n,rfl⟩;obtain⟨g,f⟩:=ZH t;rw[iX,iX];refine⟨_,rfl,?_⟩;rw[show(⟨(Lib.cut t [10]).1.toArray⟩:ByteArray)=ofL (t.take (gD (λb=>b !=10) t))from by rw[g];rfl,f];refine d _ _ ?_;exact⟨rfl,rfl,rfl,aQ _,λ_ _ _=>rfl⟩
def Wn{t:Str}(d:t.length<=1000000)(c:∀W,Ext w W->K (str (t.drop (gD (λb=>b==32||b==9) t))) W):aL P0 152 [str t,str [32,9]] w K:=by
 refine lO (args:=#[str t,str [32,9]]) Tryz.call152 ((Tryz.strings_TrimLeft_laid (ofL t) (ofL [32,9]) w (by rw[kD];decide) (λj b a=>?_)).mono ?_)
 .rw[iX]at a;have:=bA a;simp only[aX,bU,fT]at this;rcases this with rfl|rfl<;>decide
 rintro e W ⟨rfl,a⟩;rw[iX,iX,SQ];exact⟨_,rfl,c W (Chg.of_below a)⟩
end
def zL(s:Str):(mF s).length<=2*s.length:=by
 induction s with
 |nil=>simp[mF]
 |cons c r ih=>simp only[mF];(repeat' split)<;>simp only[aA]<;>omega
def rD(c:Nat):Str×Nat:=if c=92\/c=34\/c=36 then([92],c)else if c=9 then([92],116)else if c=13 then([92],114)else([],c)
def Rw(x:UInt8)(h:wrM x.toNat=[x]):mF [x]=(rD x.toNat).1++wrM (rD x.toNat).2:=by
 have e:∀k:UInt8,(x==k)=decide (x.toNat=k.toNat):=λk=>by
  rw[qP,iU,decide_eq_true_iff,mZ]
 simp only[mF,e];unfold rD;by_cases a:x.toNat=92\/x.toNat=34\/x.toNat=36
 .rw[aO (by simp only[gH,decide_eq_true_iff];rcases a with h|h|h;exact .inl (.inl h);exact .inl (.inr h);exact .inr h),aO a];show _=[92]++wrM x.toNat;rw[h];rfl
 rw[aE (by simp only[gH,decide_eq_true_iff];rintro((h|h)|h);exact a (.inl h);exact a (.inr (.inl h));exact a (.inr (.inr h))),aE a];by_cases c:x.toNat=9
 .rw[aO (by simpa using c),aO c];rfl
 rw[aE (by simpa using c),aE c];by_cases b:x.toNat=13
 .rw[aO (by simpa using b),aO b];rfl
 rw[aE (by simpa using b),aE b];exact h.symm
def Oq{c:Nat}(h:128<=c):rD c=([],c):=by
 unfold rD;rw[aE (by omega),aE (by omega),aE (by omega)]
def UW{c:Nat}(h:c<55296\/57343<c/\c<=1114111):(rD c).2<55296\/57343<(rD c).2/\(rD c).2<=1114111:=by
 unfold rD
 (repeat' split)<;>(dsimp only;omega)
def Rx(c:Nat):(rD c).1.length<=1:=by unfold rD;(repeat' split)<;>simp
def DO(l:Str)(at_:Nat)(x:Str×Nat×Int):Str×Nat×Int:=if x.2.2=0 then(l++x.1,x.2.1+at_,0)else([],0,x.2.2)
def Ru(l m:Str)(a b:Nat)(x:Str×Nat×Int):DO l a (if x.2.2=0 then(m++x.1,x.2.1+b,0)else([],0,x.2.2))=DO (l++m) (a+b) x:=by
 unfold DO;by_cases h:x.2.2=0
 .simp only[h,mE,cD];rw[show x.2.1+b+a=x.2.1+(a+b)by omega]
 .simp only[aE h]
def IS(n:Nat)(name s:Str):pU (n+1) name s=(if(s.take (gD (λb=>b !=10) s)).drop (gD (λb=>b==32||b==9) (s.take (gD (λb=>b !=10) s)))=name then([],gD (λb=>b !=10) s,0)else if s.length<=gD (λb=>b !=10) s then([],0,40)else
 (if(pU n name (s.drop (gD (λb=>b !=10) s+1))).2.2=0 then(mF (s.take (gD (λb=>b !=10) s))++[92,110]++(pU n name (s.drop (gD (λb=>b !=10) s+1))).1,(pU n name (s.drop (gD (λb=>b !=10) s+1))).2.1+(gD (λb=>b !=10) s+1),0)else([],0,(pU n name (s.drop (gD (λb=>b !=10) s+1))).2.2))):=rfl
section
variable [HX]
theorem Rv(hT:TabI w)(hU:Utf s)(hl:s.length<=1000000)(h2:2<=s.length)
  (a:∀W,Ext w W->K (.tuple #[str (kZ s).1,i64 ((kZ s).2.1:Nat),i64 (kZ s).2.2]) W):aL P0 113 [str s] w K:=by
 refine aBq ?_;unfold aG3;unfold kZ at a;dsimp only at a;generalize hn:(if gV ((s.drop 2).headD 0)then gD gY (s.drop 2)else 0)=n at a;have za:n+2<=s.length:=by
  have:=vH gY (s.drop 2);rw[aW]at this;rw[<-hn];split<;>omega
 refine dE.cut (λst W=>st=[i64 (n:Nat)]/\W=w) ?_ ?_
 .rw[eR,gG];refine GdW.look (gV ((s.drop 2).headD 0)) (λhg J hJ=>?_) λg=>?_
  .rw[gX,decide_eq_true_iff]at hg;have d:2<s.length:=by omega
   refine uV (i:=2) d ?_;refine Bp ?_;rw[mG d]at hJ;exact hJ
  .simp only[aG,gX];rw[gM,fC];refine⟨λhy=>?_,λha=>?_⟩
   .rw[bV]at hy;rw[aO hy.2]at hn;rw[fH,fJ,fF];refine⟨by omega,by omega,?_⟩;rw[dP];show aL P0 105 [str (s.drop 2),_] w _;refine Pn (q:=gY) (by rw[aW];omega) (λc {w K} h=>zT (YS h)) ?_;rw[hn];exact⟨rfl,rfl⟩
   .have:n=0:=by
     rw[<-hn];by_cases A:gV ((s.drop 2).headD 0)=true
     .rw[A,eU,decide_eq_false_iff_not]at ha;rw[aO A,lG (by omega)];rfl
     .rw[aE A]
    rw[this];exact⟨rfl,trivial⟩
 rintro st g W ⟨rfl,rfl⟩;simp only[aG];rw[cP,fZ (by omega) (by omega)];rw[fH,fF,fF];refine⟨by omega,by omega,by omega,by omega,?_⟩;have ya:(s.take (Int.toNat (2+(n:Nat)))).drop (Int.toNat 2)=(s.drop 2).take n:=by
  rw[show Int.toNat (2+(n:Nat))=2+n by omega,show Int.toNat 2=2 from rfl,List.drop_take];rw[show 2+n-2=n by omega]
 rw[ya,cP,fZ (by omega) (by omega),show(2+(n:Nat):Int)=((2+n:Nat):Int)by omega];generalize (s.drop 2).take n=nm at*
 rw[bW];simp only[jV];refine GdW.look (decide (s.length<=2+n)) (λ_ J hJ=>?_) λg1=>?_
 .rw[eR,gN,show decide (((s.length:Nat):Int)<=((2+n:Nat):Int))=decide (s.length<=2+n)by rw[decide_eq_decide];omega];exact hJ
 simp only[aG];rw[mJ];simp only[jV];refine GdW.look (decide ((s.drop (2+n)).head?≠some 10)) (λhg J hJ=>?_) λg2=>?_
 .have d:2+n<s.length:=by
   simp only[oF,xQ,decide_eq_false_iff_not]at hg;omega
  refine uV d ?_;have e5:decide (((s[2+n].toNat:Nat):Int)=10)=(s[2+n]==10):=AB 10 _;rw[fR];rw[mG d]at hJ;have:decide (((s[2+n].toNat:Nat):Int)≠10)=decide ((s[2+n]::s.drop (2+n+1)).head?≠some 10):=by
   have e6:∀(c:UInt8) (r:Str),(c==10)=decide ((c::r).head?=some 10):=λc r=>by rw[qP];simp
   rw[decide_not,e5,decide_not,e6 _ (s.drop (2+n+1))]
  rw[this];exact hJ
 simp only[aG];rw[mJ,fC];refine⟨λS=>?_,λI=>?_⟩
 .have hb:n=0\/¬(s.drop (2+n)).head?=some 10:=by
   simp only[gH,decide_eq_true_iff]at S;rcases S with(h|h)|h
   .exact .inl (by omega)
   .right;rw[lG (by omega)];simp
   .exact .inr h
  have a:=a W (Chg.refl _ _);rcases hb with h|h
  .rw[aO h]at a;exact a
  .rw[aE h]at a;split at a<;>exact a
 simp only[xQ,decide_eq_false_iff_not,cY,Decidable.not_not]at I;obtain⟨⟨zb,d⟩,E⟩:=I;have d:2+n<s.length:=by omega
 rw[aE (by omega),aO E]at a;rw[cP,upi (by omega)];have yi:Utf (s.drop (2+n+1)):=by
  have hd:=mG d;rw[hd]at E;simp only[List.head?_cons,bB]at E;exact wQ (CW hU hd (by rw[E];decide)).2 (by rw[E];decide)
 generalize hR:pU (s.length+1) nm (s.drop (2+n+1))=X at a;have yj:DO [] (2+n+1) X=if X.2.2=0 then(X.1,X.2.1+(2+n+1),0)else([],0,X.2.2):=by unfold DO;rw[dS]
 rw[<-yj]at a;refine VA (B:=W.heap.size) (aQ _) λb w1 hb h1 xu=>?_;generalize yk:DO [] (2+n+1) X=R0 at a;refine eK.go (λst w2=>∃(i m:Nat) (l:Str),st=[i64 (i:Nat)]/\i<=s.length/\Utf (s.drop i)/\Bld w2 W.heap.size b l/\Ext W w2/\l.length<=2*i/\DO l i (pU m nm (s.drop i))=R0/\s.length<m+i) (λst _=>match st with|[.int _ i]=>s.length+1-i.toNat|_=>0) ⟨2+n+1,s.length+1,[],rfl,by omega,yi,h1,xu,by simp,by rw[hR,yk],by omega⟩ ?_;rintro st g3 w2 ⟨i,m,l,rfl,hi,hu,hB,hx,zd,H,hm⟩;obtain⟨m,rfl⟩:∃k,m=k+1:=⟨m-1,by omega⟩;rw[IS]at H;simp only[aG];rw[fH,fJ,fF];refine⟨by omega,by omega,?_⟩;rw[dP,bD];have yy:(s.drop i).length=s.length-i:=aW;refine aD7 (hT.ext hx) (by omega) λx w3 xc=>?_;rw[bX];refine⟨_,rfl,?_⟩;rw[bX];refine⟨_,rfl,?_⟩;rw[bX];refine⟨_,rfl,?_⟩;obtain⟨ul,ur⟩:=SI hu;have zg:=vH (λb=>b !=10) (s.drop i);have yx:((s.drop i).take (gD (λb=>b !=10) (s.drop i))).length=gD (λb=>b !=10) (s.drop i):=by rw[cG];omega
 generalize gD (λb=>b !=10) (s.drop i)=k at*
 generalize zc:(s.drop i).take k=ln at*
 refine Wn (by omega) λO xb=>?_;have t:Ext W O:=(hx.trans xc).trans xb;have hv:Bld O W.heap.size b l:=(hB.ext xc).ext xb;rw[fE,aY];refine⟨λhy=>?_,λha=>?_⟩
 .rw[aO hy]at H;refine zU hv t.size λF yg=>?_;rw[eR,cP,fZ (by omega) (by omega)];have ye:Ext W F:=t.then yg λk hk e=>by omega
  have a:=a F ye;rw[<-H]at a;simp only[DO,mE,dL]at a;rw[show(i:Int)+(ln.length:Nat)=((k+i:Nat):Int)by omega];exact a
 rw[aE ha]at H;rw[gK,fC];refine⟨λxg=>?_,λhj=>?_⟩
 .rw[aO (by simpa using xg)]at H;have a:=a O t;rw[<-H]at a;exact a
 have hk:k<(s.drop i).length:=by simpa using hj
 rw[aE (by omega)]at H;rw[Ru]at H;have xx:=ur hk;clear ur;have ze:(s.drop i).length=s.length-i:=aW;refine GQ ?_;have yu:=t.size;have zl:=hv.lt;refine eK.go (λst F=>∃p,p<=ln.length/\st=[]/\Utf (ln.drop p)/\F.heap[O.heap.size]?=some (.stringIter (ofL ln) p)/\Bld F W.heap.size b (l++mF (ln.take p))/\Ext W F)
  (λ_ F=>match F.heap[O.heap.size]? with|some (.stringIter _ p)=>ln.length-p|_=>0)
  ⟨0,cZ _,rfl,by rw[dZ];exact ul,kV _ _ _ rfl,by rw[rU];show Bld _ _ _ (l++[]);rw[dL];exact hv.ext (Chg.alloc (Chg.refl _ _) _),t.trans (Chg.alloc (Chg.refl _ _) _)⟩ ?_
 rintro st g4 F ⟨p,hp,rfl,V,ho,ht,U⟩;have xt:=U.size;have yc:(l++mF (ln.take p)).length<=2*i+2*k:=by
  have:=zL (ln.take p);have:(ln.take p).length<=k:=by rw[cG];omega
  rw[aB];omega
 refine IH ho (λyz=>?_) (λZ T C L yt=>?_)
 .rw[bX];refine⟨.bool false,rfl,?_⟩;rw[cI];obtain rfl:p=ln.length:=by omega
  rw[dP]at ht yc;refine AU ht xt (by simp only[aA,aD];omega) λv T h6 L=>?_;have G:Ext W T:=BCh.new U (aQ _) (by omega) L;rw[eR,cP,fZ (by omega) (by omega),cP,fZ (by omega) (by omega)];have zh:=zL ln;refine⟨⟨i+(k+1),m,l++mF ln++[92,110],by simp only[gC,Value.int.injEq,dQ,fQ];omega,by omega,?_,h6,G,?_,?_,by omega⟩,?_⟩
  .rw[<-kL];exact xx
  .simp only[aB,aA,aD];omega
  .rw[<-H,kL,cD]
  .simp only[bD];omega
 .have yb:ln.drop p≠[]:=λe=>by have:=EV.1 e;omega
  obtain⟨u,r,Y,xw,D⟩:∃u r,Rn u/\Utf r/\ln.drop p=u++r:=by
   cases hd:ln.drop p with
   |nil=>exact absurd hd yb
   |cons x y=>
    rw[hd]at V;generalize he:x::y=z at V;cases V with
    |nil=>cases he
    |cons h1 h2=>exact⟨_,_,h1,h2,rfl⟩
  have xz:lD ln p=u.length:=Y.at D;have xv:=Y.pos;obtain⟨c,M⟩:=wK Z (by omega);rw[xz]at M;have P:(ln.drop p).take u.length=u:=by rw[D,uA]
  have hf:ln.take (p+u.length)=ln.take p++u:=by rw[List.take_add,P]
  have xh:ln.drop (p+u.length)=r:=Ht D;have R:=M.dec;have zk:=M.top;have zj:=M.val;have xj:wrM c=u:=by rw[<-Sy (by omega),M.bytes,P]
  rw[R]at C;have xf:=M.fits;have N:Bld T W.heap.size b (l++mF (ln.take p)):=ht.chg L (λe=>by have:=e;omega) λk hk e=>by
   obtain⟨_,c',xl⟩:=hk;have e:k=O.heap.size:=e;rw[e,ho]at xl;cases xl
  have G:Ext W T:=U.then L λk hk e=>by omega
  have xy:mF u=(rD c).1++wrM (rD c).2:=by
   rcases Y.cases with⟨x,hx,yv⟩|hh
   .subst hx;have yf:c=x.toNat:=by
     have:=(M.low rfl).1;rw[this];have e:=rG Z;rw[Go.Eng.byte_at (show ln.drop p=x::r from D)]at e;omega
    subst yf;exact Rw x xj
   .have hq:128<=c:=by
     have yh:=wM (j:=0) D xv;have yr:=hh u[0] (gE ..);rw[bL,rG Z]at yh;by_cases h1:u.length=1
     .have:=M.low h1;omega
     .exact(M.high (by omega)).1
    rw[Oq hq,Ot hh,xj];rfl
  have I:=UW (c:=c) (by omega);have zf:=Rx c;rw[bX];refine⟨.bool true,rfl,?_⟩;rw[dF,bX];refine⟨.int .i32 (c:Int),by rw[R];rfl,?_⟩;refine dE.cut (λst o=>st=[.int .i32 ((rD c).2:Nat)]/\Bld o W.heap.size b (l++mF (ln.take p)++(rD c).1)/\o.heap[O.heap.size]?=some (.stringIter (ofL ln) (p+u.length))/\Ext W o) ?_ ?_
  .have wr:∀(x:Nat) (o:World),rD c=([92],x)->Bld o W.heap.size b (l++mF (ln.take p)++[92])->Chg (BCh T W.heap.size b) T o->[Value.int .i32 (x:Int)]=[.int .i32 ((rD c).2:Nat)]/\Bld o W.heap.size b (l++mF (ln.take p)++(rD c).1)/\o.heap[O.heap.size]?=some (.stringIter (ofL ln) (p+u.length))/\Ext W o:=by
    intro x o e h7 xk;rw[e];exact⟨rfl,h7,BCh.iter xk C (by omega),BCh.new G (aQ _) (by omega) xk⟩
   refine dE.cut (λst o=>st=[.bool (decide (c=92\/c=34\/c=36))]/\o=T) ?_ ?_
   .rw[bW,aY];refine⟨λh=>?_,λh=>?_⟩
    .rw[bS h,bS (.inl (by omega))];exact⟨rfl,rfl⟩
    rw[bW,aY];refine⟨λh'=>?_,λh'=>?_⟩
    .rw[bS h',bS (.inr (.inl (by omega)))];exact⟨rfl,rfl⟩
    rw[bW];rw[show decide (((c:Nat):Int)=36)=decide (c=92\/c=34\/c=36)by rw[decide_eq_decide];omega];exact⟨rfl,rfl⟩
   rintro st g5 o ⟨rfl,rfl⟩;simp only[aG];rw[aY];refine⟨λh=>?_,λh=>?_⟩
   .refine uP (n:=92) N (by omega) (by omega) (by omega) λw8 h8 f=>?_;exact wr c w8 (by unfold rD;rw[aO h]) h8 f
   rw[bW,aY];refine⟨λh'=>?_,λh'=>?_⟩
   .refine uP (n:=92) N (by omega) (by omega) (by omega) λw8 h8 f=>?_;exact wr 116 w8 (by unfold rD;rw[aE h,aO (by omega)]) h8 f
   rw[bW,aY];refine⟨λym=>?_,λym=>?_⟩
   .refine uP (n:=92) N (by omega) (by omega) (by omega) λw8 h8 f=>?_;exact wr 114 w8 (by unfold rD;rw[aE h,aE (by omega),aO (by omega)]) h8 f
   have e:rD c=([],c):=by unfold rD;rw[aE h,aE (by omega),aE (by omega)]
   rw[e,dL];exact⟨rfl,N,C,G⟩
  rintro st g5 o ⟨rfl,yl,xe,xa⟩;simp only[aG];have xs:=xa.size;refine OQ yl xs (by rw[aB];omega) I λv w8 h8 f=>?_;have Q:=BCh.iter f xe (by omega);refine⟨⟨p+u.length,xf,trivial,by rw[xh];exact xw,Q,?_,BCh.new xa (aQ _) (by omega) f⟩,?_⟩
  .rw[hf,Rz,xy,<-cD,<-cD];exact h8
  .rw[Q,ho];show ln.length-(p+u.length)<ln.length-p;omega
end
def Gu{r:Str}{d:Nat}(h:(jC r d).2=0):1<=(jC r d).1/\(jC r d).1<=r.length:=by
 exact((mV _ r (aQ _)).1 d _ (kG rfl h)).2
def GJ(c:UInt8)(r:Str):mY (c::r)=
 (if(c==10)=true then(⟨5,[10],0⟩,1,0)
 else if gV c=true then(⟨1,(c::r).take (gD gY (c::r)),0⟩,gD gY (c::r),if 32<gD gY (c::r)then 3 else 0)
 else if jY c=true then
  (⟨2,(c::r).take (gD jY (c::r)),0⟩,gD jY (c::r),if((gD jY (c::r)<(c::r).length&&gV (((c::r).drop (gD jY (c::r))).headD 0))||(c==48&&1<gD jY (c::r)))=true then 40 else if Num.goodN ((c::r).take (gD jY (c::r)))=true then 0 else 3)
 else if(c==34)=true then
  (if(sD ((c::r).length+1) r 0).2=0 then(⟨3,r.take ((sD ((c::r).length+1) r 0).1-1),0⟩,(sD ((c::r).length+1) r 0).1+1,0)else(⟨0,[],0⟩,0,(sD ((c::r).length+1) r 0).2))
 else if qF [60,60] (c::r)=true then(⟨3,(kZ (c::r)).1,0⟩,(kZ (c::r)).2.1,(kZ (c::r)).2.2)
 else(⟨4,tF (c::r),0⟩,(tF (c::r)).length,if(tF (c::r)).length=0 then 40 else 0)):=rfl
section
variable [HX]
theorem aFz{r:Str}(hT:TabI w)(hU:Utf (c::r))(hl:r.length<=100000)
  (hK:∀W,Ext w W->K (.tuple #[.agg (kB (mY (c::r)).1).toArray,i64 ((mY (c::r)).2.1:Nat),i64 (mY (c::r)).2.2]) W):aL P0 61 [str (c::r)] w K:=by
 refine aEz ?_;unfold W61;have m:(c::r).length=r.length+1:=rfl;refine cO λa w1 ha hm T X=>?_;refine cO λb w2 hb hj z P=>?_;have v:=X.trans P;have y:=P.at T id;have cond:∀(k:Nat),k<256->(((c.toNat:Nat):Int)=(k:Int)↔c=UInt8.ofNat k):=λk hk=>by
  have:=Ie c k hk;rwa[decide_eq_decide]at this
 generalize x:mY (c::r)=o at hK;rw[GJ]at x;refine dE.cut (λst W=>st=[i64 o.2.2,i64 (o.2.1:Nat)]/\Ext w W/\W.heap[a]?=some (.cells [i64 0,str [],i64 0].toArray TkT (0,0))/\W.heap[b]?=some (.cells (kB o.1).toArray TkT (0,0))) ?_ ?_
 ·
  have put:∀{F:World} {t:Tok} {L:List Value} {K':World->Prop},Ext w F->F.heap[a]?=some (.cells [i64 0,str [],i64 0].toArray TkT (0,0))->F.heap[b]?=some (.cells L.toArray TkT (0,0))->L.length=3->
    (∀A,Ext w A->A.heap[a]?=some (.cells [i64 0,str [],i64 0].toArray TkT (0,0))->A.heap[b]?=some (.cells (kB t).toArray TkT (0,0))->K' A)->stW 3 (.pointer (some ⟨b,0,none⟩)) (.agg (kB t).toArray) F K':=by
   intro F t L K' hx E D Y h;refine dH D rfl Y rfl λA U f H=>?_;exact h A (hx.new H (by omega)) (H.at E (by omega)) f
  refine uV (i:=0) (by rw[m];omega) ?_;simp only[List.getElem_cons_zero];rw[bW,aY];refine⟨λe=>?_,λe=>?_⟩
  .have e:c=10:=(cond 10 (by omega)).1 e;subst e;simp only[beq_self_eq_true,mE]at x;subst x;simp only[eG,eP,aA,aD,aP,aU,Nat.reduceAdd,Nat.reduceLT,dQ,aZ];refine dH (l:=[i64 5,str [10],i64 0]) y rfl rfl rfl λF V S I=>?_;refine gL S rfl ?_;exact hK F (v.new I (by omega))
  have e:¬(c==10)=true:=λh=>e ((cond 10 (by omega)).2 (by simpa using h));rw[aE e]at x;refine Bp ?_;rw[fC];refine⟨λN=>?_,λC=>?_⟩
  .rw[aO N]at x;refine Pn (q:=gY) (by rw[m];omega) (λc {w K} h=>zT (YT h)) ?_;have M:=vH gY (c::r);rw[m]at M;generalize gD gY (c::r)=n at*
   rw[fH,fF];refine⟨by omega,by rw[m];omega,?_⟩;rw[fJ,dZ,bD];simp only[eG,eP,aA,aD,aP,aU,Nat.reduceAdd,Nat.reduceLT,dQ,aZ];refine put (t:=⟨1,(c::r).take n,0⟩) v y z rfl λA j u f=>?_;rw[gG,aY];subst x;refine⟨λh=>?_,λh=>?_⟩
   .exact⟨by rw[aO (by omega)],j,u,f⟩
   .exact⟨by rw[aE (by omega)],j,u,f⟩
  rw[aE (by rw[C];decide)]at x;refine Gg ?_;rw[fC];refine⟨λN=>?_,λC=>?_⟩
  .rw[aO N]at x;refine Pn (q:=jY) (by rw[m];omega) (λc {w K} h=>zT (Gg h)) ?_;have M:=vH jY (c::r);rw[m]at M;generalize gD jY (c::r)=n at*
   rw[fH,fF];refine⟨by omega,by rw[m];omega,?_⟩;rw[fJ,dZ,bD];simp only[eG,eP,aA,aD,aP,aU,Nat.reduceAdd,Nat.reduceLT,dQ,aZ];refine put (t:=⟨2,(c::r).take n,0⟩) v y z rfl λA j u f=>?_;refine dE.cut (λst W=>st=[.bool ((n<(c::r).length&&gV (((c::r).drop n).headD 0))||(c==48&&1<n))]/\W=A) ?_ ?_
   .rw[eR,eC,show decide (((n:Nat):Int)<(((c::r).length:Nat):Int))=decide (n<(c::r).length)by rw[decide_eq_decide];omega];simp only[gX];refine GdW.look (gV (((c::r).drop n).headD 0)) (λhg J hJ=>?_) λg=>?_
    .have Q:n<(c::r).length:=by simpa using hg
     refine uV Q ?_;refine Bp ?_;rw[mG Q]at hJ;exact hJ
    simp only[aG];rw[gM,fC];refine⟨λh=>by rw[h,eQ];exact⟨rfl,trivial⟩,λh=>?_⟩;have e5:decide (((c.toNat:Nat):Int)=48)=(c==48):=AB 48 c;rw[bW,e5];simp only[gX,gG,rN,aG];intro g2;rw[gM,h,dK];refine⟨?_,trivial⟩;rw[show decide ((1:Int)<((n:Nat):Int))=decide (1<n)by rw[decide_eq_decide];omega]
   rintro st g w5 ⟨rfl,rfl⟩;simp only[aG];rw[fC];refine⟨λh=>?_,λh=>?_⟩
   .rw[aO h]at x;subst x;exact⟨rfl,j,u,f⟩
   rw[aE (by rw[h];decide)]at x;rw[bH,fB];refine⟨str ((c::r).take n),by rw[bN,cS,f];rfl,?_⟩;refine LP (by have:((c::r).take n).length<=n:=(by rw[cG];omega);omega) λw6 B=>?_;rw[gK,fC];subst x;refine⟨λh=>?_,λh=>?_⟩
   .exact⟨by rw[aE (by simpa using h)],j.trans B,B.at u id,B.at f id⟩
   .exact⟨by rw[aO (by simpa using h)],j.trans B,B.at u id,B.at f id⟩
  rw[aE (by rw[C];decide)]at x;rw[bW,aY];refine⟨λe=>?_,λe=>?_⟩
  .have e:c=34:=(cond 34 (by omega)).1 e;rw[aO (by rw[e];rfl),uQ (by omega)]at x;refine Za (d:=0) (by omega) (by omega) ?_;by_cases O:(jC r 0).2=0
   .rw[aO O]at x;have hf:=Gu O;unfold uL;rw[aO O,bX];refine⟨_,rfl,?_⟩;rw[bX];refine⟨_,rfl,?_⟩;rw[bW,aY];refine⟨λ_=>?_,λh=>absurd rfl h⟩;rw[gR,fZ (by omega) (by omega),fH,fF,fF];refine⟨by omega,by rw[m];omega,by omega,by omega,?_⟩;have et:((c::r).take (Int.toNat (((jC r 0).1+1:Nat)-1))).drop (Int.toNat 1)=r.take ((jC r 0).1-1):=by
     rw[show Int.toNat ((((jC r 0).1+1:Nat):Int)-1)=((jC r 0).1-1)+1 by omega];rfl
    rw[et];simp only[eG,eP,aA,aD,aP,aU,Nat.reduceAdd,Nat.reduceLT,dQ,aZ];refine put (t:=⟨3,r.take ((jC r 0).1-1),0⟩) v y z rfl λA j u f=>?_;subst x;exact⟨rfl,j,u,f⟩
   .rw[aE O]at x;unfold uL;rw[aE O,bX];refine⟨_,rfl,?_⟩;rw[bX];refine⟨_,rfl,?_⟩;rw[bW,aY];refine⟨λh=>absurd h O,λh=>?_⟩;subst x;exact⟨rfl,v,y,z⟩
  have e:¬(c==34)=true:=λh=>e ((cond 34 (by omega)).2 (by simpa using h));rw[aE e]at x;refine CI ?_;rw[fC];refine⟨λN=>?_,λC=>?_⟩
  .rw[aO (show qF [60,60] (c::r)=true from N)]at x;have h2:2<=(c::r).length:=JW (p:=[60,60]) (s:=c::r) N;rw[bH,bN,aN];refine lJ z rfl (by simp) λF V D I=>?_;have G:=v.new I (by omega);have E:=I.at y (by omega);refine Rv (hT.ext G) hU (by rw[m];omega) h2 λA j=>?_;rw[bX];refine⟨_,rfl,?_⟩;rw[bX];refine⟨_,rfl,?_⟩;rw[bX];refine⟨_,rfl,?_⟩;have f:=j.at D id;rw[bH,bN,aN];refine lJ f rfl (by simp) λw5 hi Z R=>?_;subst x;exact⟨rfl,(G.trans j).new R (by omega),R.at (j.at E id) (by omega),by rw[Z];simp[kB]⟩
  .rw[aE (show¬qF [60,60] (c::r)=true from by rw[show qF [60,60] (c::r)=false from C];decide)]at x;refine Tj (by omega) ?_;simp only[eG,eP,aA,aD,aP,aU,Nat.reduceAdd,Nat.reduceLT,dQ,aZ];refine put (t:=⟨4,tF (c::r),0⟩) v y z rfl λA j u f=>?_;rw[bH,fB];refine⟨str (tF (c::r)),by rw[bN,cS,f];rfl,?_⟩;rw[eR,bW,aY];subst x;refine⟨λh=>?_,λh=>?_⟩
   .exact⟨by rw[aO (by omega)],j,u,f⟩
   .exact⟨by rw[aE (by omega)],j,u,f⟩
 rintro st g F ⟨rfl,G,E,D⟩;refine gL D rfl ?_;refine dH (l:=kB o.1) E rfl rfl rfl λA U u H=>?_;refine gL u rfl ?_;exact hK A (G.new H (by omega))
end
def SJ{k:Nat}(h:Utf s)(d:∀c,(s.drop k).head?=some c->c.toNat<128):Utf (s.drop k):=by
 cases a:s.drop k with
 |nil=>exact .nil
 |cons c b=>exact(CW h a (d c (by rw[a];rfl))).2
def wP{k:Nat}(h:Utf s)(f:s[k]?=some c)(d:c.toNat<128):Utf (s.drop (k+1)):=by
 obtain⟨a,e⟩:=bJ.1 f;have b:=mG a;rw[e]at b;exact wQ (CW h b d).2 d
def Dk(q:UInt8->Bool):∀(s:Str) (b:UInt8),(s.drop (gD q s)).head?=some b->q b=false
 |[],b,h=>by simp[gD]at h
 |c::r,b,h=>by
  simp only[gD]at h
  by_cases a:q c=true
  .rw[aO a,dI]at h;exact Dk q r b h
  .rw[aE a]at h
   simp only[dZ,List.head?_cons,bB]at h
   rw[<-h];simpa using a
def Lq(q:UInt8->Bool):∀(s:Str) (k:Nat),gD q s=k+1->∃c,s[k]?=some c/\q c=true
 |[],k,h=>by simp[gD]at h
 |c::r,k,h=>by
  simp only[gD]at h
  by_cases a:q c=true
  .rw[aO a]at h
   cases k with
   |zero=>exact⟨c,rfl,a⟩
   |succ k=>
    obtain⟨x,d,b⟩:=Lq q r k (by omega)
    exact⟨x,by simpa using d,b⟩
  .rw[aE a]at h;omega
def PV:∀(s:Str) (i:Nat),Lib.index s [42,47]=(i:Int)->s[i+1]?=some 47
 |[],i,h=>by
  unfold Lib.index at h
  simp at h
 |b::l,i,h=>by
  unfold Lib.index at h
  split at h
  .rename_i a
   have d:i=0:=by omega
   subst d
   cases l with
   |nil=>simp[List.isPrefixOf]at a
   |cons c l=>
    simp only[List.isPrefixOf,bV,iU,eU]at a
    simp[a.2]
  .split at h
   .omega
   .rename_i e
    have g:Lib.index l [42,47]≠-1:=by simpa using e
    have f:=Lib.index_ge l [42,47]
    have:=PV l (i-1) (by omega)
    have d:1<=i:=by omega
    rw[show i-1+1=i by omega]at this
    simpa using this
def Qw(h:Utf s):Utf (s.drop (gD (λb=>b !=10) s)):=
 SJ h λc a=>by
  have:=Dk _ _ _ a
  have:c=10:=by simpa using this
  subst this;decide
def Be:∀(n:Nat) (s:Str),Utf s->Utf (s.drop (gU n s).1)
 |0,s,h=>by simpa[gU]using h
 |n+1,[],h=>by simpa[gU]using h
 |n+1,c::r,h=>by
  rw[Ih]
  split
  .rename_i d
   have f:c.toNat<128:=by
    simp only[gH,iU]at d;rcases d with(rfl|rfl)|rfl<;>decide
   rw[dI];exact Be n r (wQ h f)
  split
  .have:=Be n _ (Qw h);rw[kL]at this;rw[nX];exact this
  split
  .rename_i g;split
   .simpa using h
   .rename_i i;obtain⟨j,a⟩:=AS (show 0<=Lib.index (r.drop 1) [42,47]by omega);have b:=PV _ _ a;have e:Utf ((c::r).drop ((Lib.index (r.drop 1) [42,47]).toNat+4)):=by
     rw[a,bD];refine wP (k:=j+3) (c:=47) h ?_ (by decide);rw[iF]at b;rw[bI,<-b];congr 1;omega
    have:=Be n _ e;rw[kL]at this;rw[nX];exact this
  .simpa using h
def Hh:∀(n:Nat) (name s:Str) (c:UInt8),(pU n name s).2.2=0->(s.drop (pU n name s).2.1).head?=some c->c=10
 |0,_,_,_,h,_=>by simp[pU]at h
 |n+1,name,s,c,h,a=>by
  rw[IS]at h a
  split at h
  .rename_i e
   rw[aO e]at a
   have:=Dk _ _ _ a
   simpa using this
  rename_i e
  rw[aE e]at a
  split at h
  .cases h
  rename_i f
  rw[aE f]at a
  split at h
  .rename_i d
   rw[aO d]at a
   refine Hh n name _ c d ?_
   rw[kL]
   rw[show gD (λb=>b !=10) s+1+(pU n name (s.drop (gD (λb=>b !=10) s+1))).2.1=(pU n name (s.drop (gD (λb=>b !=10) s+1))).2.1+(gD (λb=>b !=10) s+1)by omega]
   exact a
  .rename_i d;exact absurd h d
def Kv(h:(kZ s).2.2=0)(a:(s.drop (kZ s).2.1).head?=some c):c=10:=by
 unfold kZ at h a;simp only at h a;generalize (if gV ((s.drop 2).headD 0)=true then gD gY (s.drop 2)else 0)=n at h a;split at h
 .cases h
 rename_i e;rw[aE e]at a;split at h
 .rename_i d;rw[aO d]at a;split at h
  .rename_i b;rw[aO b]at a;refine Hh _ _ _ c b ?_;rw[kL,nX];exact a
  .rename_i b;exact absurd h b
 .cases h
def Dz(h:gY c=true):c.toNat<128:=by
 have:∀m:Fin 256,gY (UInt8.ofNat m.val)=true->(UInt8.ofNat m.val).toNat<128:=by decide+kernel
 have a:=this ⟨c.toNat,rT c⟩;rw[sS]at a;exact a h
def Jd(h:jY c=true):c.toNat<128:=Dz (by unfold gY;rw[h];simp)
def Le(h:En.contains c=true):c.toNat<128:=by
 have:∀m:Fin 256,En.contains (UInt8.ofNat m.val)=true->(UInt8.ofNat m.val).toNat<128:=by decide+kernel
 have a:=this ⟨c.toNat,rT c⟩;rw[sS]at a;exact a h
def QI{x:Str}(h:wX.contains x=true):x.length=2/\∃c,x[1]?=some c/\c.toNat<128:=by
 have:x∈wX:=by simpa using h
 simp only[wX,aX,bU,fT]at this;rcases this with rfl|rfl|rfl|rfl|rfl|rfl<;>exact⟨rfl,_,rfl,by decide⟩
def Py{r:Str}(h:Utf (c::r))(b:(mY (c::r)).2.2=0):Utf ((c::r).drop (mY (c::r)).2.1):=by
 have run:∀q:UInt8->Bool,(∀c,q c=true->c.toNat<128)->Utf ((c::r).drop (gD q (c::r))):=λq i=>by
  cases j:gD q (c::r)with
  |zero=>exact h
  |succ k=>
   obtain⟨x,a,m⟩:=Lq q _ _ j;exact wP h a (i x m)
 rw[GJ]at b⊢;split
 .rename_i e;have e:c=10:=by simpa using e
  exact wQ h (by rw[e];decide)
 rename_i f;rw[aE f]at b;split
 .exact run _ λc=>Dz
 rename_i d;rw[aE d]at b;split
 .exact run _ λc=>Jd
 rename_i n3;rw[aE n3]at b;split
 .rename_i e;rw[aO e]at b;split
  .rename_i a;rw[uQ (by simp only[aA];omega)]at a⊢;have s:=Gu a;have l:=yY _ r 0 _ (aQ _) (kG rfl a:jC r 0=((jC r 0).1,0));refine wP (c:=34) h ?_ (by decide);rw[show(jC r 0).1=(jC r 0).1-1+1 by omega,bI];exact l
  .rename_i a;rw[aE a]at b;exact absurd b a
 rename_i n4;rw[aE n4]at b;split
 .rename_i a;rw[aO a]at b;exact SJ h λx g=>by rw[Kv b g];decide
 rename_i n5;rw[aE n5]at b;show Utf ((c::r).drop (tF (c::r)).length);unfold tF;split
 .rename_i a;obtain⟨p,x,o,n⟩:=QI a;rw[p];refine wP (k:=1) (c:=x) h ?_ n;rw[<-o,gB (by omega)]
 split
 .rename_i a;exact wQ h (Le a)
 .exact h
def HF{s:Str}:∀(n i:Nat),s.length<n+i->Ee n s i=none->Utf (s.drop i)
 |0,i,c,_=>by rw[iQ (by omega)];exact .nil
 |n+1,i,c,h=>by
  rw[Ee]at h
  split at h
  .rename_i a;rw[iQ a];exact .nil
  split at h
  .cases h
  .rename_i a d
   have b:zB s i=lD s i:=by unfold zB;omega
   rw[b]at h
   have:=Utf.cons (Rn.of d) (HF n (i+lD s i) (by omega) h)
   rwa[<-jI,rX]at this
def VH(h:lD s i=0):Lib.hasPrefix (s.drop i) [239,191,189]=false:=by
 rw[Bool.eq_false_iff];intro b;obtain⟨r,a⟩:=HW.1 b;have c:Rn [239,191,189]:=⟨by decide,by decide⟩;have:=c.at a.symm;rw[h]at this;cases this
def RD(h:VT s i n 65533):Lib.hasPrefix (s.drop i) [239,191,189]=true:=by
 have a:=h.bytes;refine HW.2 ?_;have e:Lib.encodeRune ((65533:Nat):Int)=[239,191,189]:=by decide
 rw[e]at a;rw[a];exact List.take_prefix _ _
end
section
open Go Go.Eng Go.Lex Go.Syn
def Gq(h:Utf s):∀{k:Nat},(∀c,s[k]?=some c->c.toNat<128)->Utf (s.take k):=by
 induction h with
 |nil=>intro k _;rw[List.take_nil];exact .nil
 |@cons u r b j ih=>
  intro k e;by_cases d:u.length<=k
  .rw[List.take_append,iD d];refine Utf.cons b (ih λc g=>e c ?_);rw[dB d];exact g
  .by_cases i:k=0
   .rw[i,rU];exact .nil
   .have a:k<u.length:=by omega
    have l:=e u[k] (by rw[dR a,aH a]);rcases b.cases with⟨x,rfl,_⟩|f
    .simp only[aA,aD]at a;omega
    .have:=f u[k] (gE a);omega
def Al(q:UInt8->Bool):∀s:Str,∀c∈s.take (gD q s),q c=true
 |[],c,h=>by simp at h
 |d::r,c,h=>by
  unfold gD at h
  split at h
  .rename_i a
   rw[oG]at h
   rcases aX.1 h with rfl|h
   .exact a
   .exact Al q r c h
  .simp at h
def JG(b:c.toNat<128):Rn [c]:=by
 refine⟨by simp,?_⟩;have a:∀c:Fin 256,c.val<128->lD [UInt8.ofNat c.val] 0=1:=by decide+kernel
 have:=a ⟨c.toNat,rT c⟩ b;rw[sS]at this;exact this
def mD(h:∀c∈s,c.toNat<128):Utf s:=by
 induction s with
 |nil=>exact .nil
 |cons c s ih=>exact Utf.cons (JG (h c (by simp))) (ih λd a=>h d (aF _ a))
def Ou(a b:Str):mF (a++b)=mF a++mF b:=by
 induction a with
 |nil=>rfl
 |cons c a ih=>
  rw[fS];simp only[mF];rw[ih]
  repeat' split
  all_goals rfl
def Ry(h:Utf s):Utf (mF s):=by
 induction h with
 |nil=>exact .nil
 |@cons u r g l ih=>
  rw[Ou];refine Utf.app ?_ ih;rcases g.cases with⟨x,rfl,b⟩|i
  .refine mD λc a=>?_;simp only[mF]at a
   repeat' split at a
   all_goals
    simp only[aX,bU,fT]at a
   .rcases a with rfl|rfl
    .decide
    .exact b
   .rcases a with rfl|rfl<;>decide
   .rcases a with rfl|rfl<;>decide
   .subst a;exact b
  .have e:∀v:Str,(∀c∈v,128<=c.toNat)->mF v=v:=by
    intro v;induction v with
    |nil=>intro _;rfl
    |cons c v ihv=>
     intro f;have a:=f c (by simp);have ne:∀k:UInt8,k.toNat<128->(c==k)=false:=λk m=>by
      rw[beq_eq_false_iff_ne];rintro rfl;omega
     simp only[mF,ne 92 (by decide),ne 34 (by decide),ne 36 (by decide),ne 9 (by decide),ne 13 (by decide)];rw[ihv λd j=>f d (aF _ j)];rfl
   rw[e u i];exact Utf.one g
def IT:∀(n:Nat) (name s:Str),Utf s->(pU n name s).2.2=0->Utf (pU n name s).1
 |0,_,_,_,h=>by cases h
 |n+1,name,s,e,h=>by
  simp only[pU]at h⊢
  split
  .exact .nil
  rename_i i
  rw[aE i]at h
  split
  .exact .nil
  rename_i g
  rw[aE g]at h
  split
  .rename_i l
   have f:s[gD (λb=>b !=10) s]?=some 10:=by
    have a:gD (λb=>b !=10) s<s.length:=by omega
    have:=Dk (λb=>b !=10) s s[gD (λb=>b !=10) s] (by rw[List.head?_drop,aH a]);rw[aH a];have:s[gD (λb=>b !=10) s]=10:=by simpa using this
    rw[this]
   have j:=IT n name _ (wP e f (by decide)) l;exact((Ry (Gq e (k:=gD (λb=>b !=10) s) λc d=>by rw[f]at d;injection d with d;rw[<-d];decide)).app (mD (by decide))).app j
  .exact .nil
structure xO(t:Tok):Prop where
 ut:Utf t.t/\t.t.length<=100000
 name:t.k=1->(∃c r,t.t=c::r/\gV c=true)/\∀d∈t.t,gY d=true
 num:t.k=2->∀d∈t.t,jY d=true
theorem YM{r:Str}(h:Utf (c::r))(f:(mY (c::r)).2.2=0)(w:(c::r).length<=16384)(a:(mY (c::r)).1.k=3->(mY (c::r)).1.t.length<=100000):xO (mY (c::r)).1:=by
 have j:∀n,((c::r).take n).length<=100000:=λn=>by rw[cG];omega
 rw[GJ]at f a⊢;split
 .exact⟨⟨mD (by decide),by decide⟩,λe=>absurd e (by decide),λe=>absurd e (by decide)⟩
 rename_i s;rw[aE s]at f a;split
 .rename_i e;refine⟨⟨mD λd b=>Dz (Al _ _ d b),j _⟩,λ_=>⟨⟨c,r.take (gD gY r),?_,e⟩,λd b=>Al _ _ d b⟩,λe=>absurd e (show¬(1:Int)=2 by decide)⟩;show(c::r).take (gD gY (c::r))=_;have:gY c=true:=by unfold gY;rw[e];rfl
  have g:gD gY (c::r)=gD gY r+1:=by rw[gD,aO this]
  rw[g,oG]
 rename_i q;rw[aE q]at f a;split
 .exact⟨⟨mD λd b=>Jd (Al _ _ d b),j _⟩,λe=>absurd e (show¬(2:Int)=1 by decide),λ_ d b=>Al _ _ d b⟩
 rename_i n3;rw[aE n3]at f a;split
 .rename_i e;rw[aO e]at f a;split
  .rename_i i;rw[aO i]at a;refine⟨⟨?_,a rfl⟩,λe=>absurd e (show¬(3:Int)=1 by decide),λe=>absurd e (show¬(3:Int)=2 by decide)⟩;rw[uQ (by simp only[aA];omega)]at i⊢;have v:=yY _ r 0 _ (aQ _) (kG rfl i:jC r 0=((jC r 0).1,0));have m:c=34:=by simpa using e
   have u:Utf r:=wQ h (by rw[m];decide);exact Gq u λx l=>by rw[v]at l;injection l with l;rw[<-l];decide
  .exact⟨⟨.nil,cZ _⟩,λe=>absurd e (show¬(0:Int)=1 by decide),λe=>absurd e (show¬(0:Int)=2 by decide)⟩
 rename_i n4;rw[aE n4]at f a;split
 .rename_i i;rw[aO i]at f a;refine⟨⟨?_,a rfl⟩,λe=>absurd e (show¬(3:Int)=1 by decide),λe=>absurd e (show¬(3:Int)=2 by decide)⟩;show Utf (kZ (c::r)).1;have f:(kZ (c::r)).2.2=0:=f;unfold kZ at f⊢;simp only at f⊢;generalize (if gV (((c::r).drop 2).headD 0)=true then gD gY ((c::r).drop 2)else 0)=n at f⊢;split
  .exact .nil
  rename_i m1;rw[aE m1]at f;split
  .rename_i m2;rw[aO m2]at f;split
   .rename_i m3;refine IT _ _ _ ?_ m3;rw[List.head?_drop]at m2;exact wP h m2 (by decide)
   .exact .nil
  .exact .nil
 rename_i n5;rw[aE n5]at f a;refine⟨⟨mD λd b=>?_,?_⟩,λe=>absurd e (show¬(4:Int)=1 by decide),λe=>absurd e (show¬(4:Int)=2 by decide)⟩
 .have b:d∈tF (c::r):=b;unfold tF at b;split at b
  .rename_i p;have:∀x∈wX,∀d∈x,d.toNat<128:=by decide
   exact this _ (CQ.1 p) d b
  split at b
  .rename_i o;have b:d=c:=by simpa using b
   rw[b];exact Le o
  .cases b
 .show(tF (c::r)).length<=100000;unfold tF
  repeat' split
  .exact j 2
  .exact j 1
  .exact cZ _
end
section
open Go Go.Eng Go.RowKit Go.Syn Go.Lex
def BN(n:Nat)(s:Str)(at_ cnt:Nat):nA (n+1) s at_ cnt=(if(gU (s.length+1) s).2≠0 then .bad (gU (s.length+1) s).2 ((at_+(gU (s.length+1) s).1:Nat):Int)
 else if s.drop (gU (s.length+1) s).1=[]then .ok [⟨0,[],((at_+(gU (s.length+1) s).1:Nat):Int)⟩]
 else if(mY (s.drop (gU (s.length+1) s).1)).2.2≠0 then .bad (mY (s.drop (gU (s.length+1) s).1)).2.2 ((at_+(gU (s.length+1) s).1:Nat):Int)
 else if cnt=4096 then .bad 3 ((at_+(gU (s.length+1) s).1:Nat):Int)
 else match nA n ((s.drop (gU (s.length+1) s).1).drop (mY (s.drop (gU (s.length+1) s).1)).2.1) (at_+(gU (s.length+1) s).1+(mY (s.drop (gU (s.length+1) s).1)).2.1) (cnt+1)with
  |.ok l=>.ok (⟨(mY (s.drop (gU (s.length+1) s).1)).1.k,(mY (s.drop (gU (s.length+1) s).1)).1.t,((at_+(gU (s.length+1) s).1:Nat):Int)⟩::l)
  |x=>x):=rfl
def ZW:∀{t:Str},Utf t->∀{s:Str} {n i:Nat},s.drop i=t->Ee n s i=none:=by
 intro t h;induction h with
 |nil=>
  intro s n i a;have c:=EV.1 a;cases n with
  |zero=>rfl
  |succ n=>rw[Ee,aO c]
 |@cons u r b e ih=>
  intro s n i a;have d:=b.at a;have f:=b.pos;cases n with
  |zero=>rfl
  |succ n=>
   rw[Ee];split
   .rfl
   .rw[aE (by omega)];refine ih ?_;rw[show zB s i=u.length by unfold zB;omega];exact Ht a
def SH{l:List Tok}(h:mS s=.ok l):Utf s:=by
 unfold mS at h;split at h
 .cases h
 cases a:Ee (s.length+1) s 0 with
 |some i=>rw[a]at h;cases h
 |none=>
  have:=HF (s:=s) (s.length+1) 0 (by omega) a;rwa[dZ]at this
end
section
open Go Go.Eng Go.Lex Go.Syn
def xO.at_{t:Tok}(h:xO t)(a:Int):xO ⟨t.k,t.t,a⟩:=⟨h.ut,h.name,h.num⟩
def Ij:∀(n:Nat) (s:Str) (a cnt:Nat) (l:List Tok),Utf s->s.length<=16384->nA n s a cnt=.ok l->TS l->∀t∈l,xO t
 |0,_,_,_,_,_,_,h,_=>by simp[nA]at h
 |n+1,s,a,cnt,l,u,w,h,d=>by
  simp only[nA]at h
  have f:=Be (s.length+1) s u
  generalize gU (s.length+1) s=k at*
  split at h
  .cases h
  split at h
  .injection h with h
   subst h
   intro t b
   rw[bO]at b
   subst b
   exact⟨⟨.nil,cZ _⟩,λe=>absurd e (show¬(0:Int)=1 by decide),λe=>absurd e (show¬(0:Int)=2 by decide)⟩
  rename_i v
  split at h
  .cases h
  rename_i i
  have i:(mY (s.drop k.1)).2.2=0:=by simpa using i
  split at h
  .cases h
  split at h
  .rename_i l2 o
   injection h with h
   subst h
   have g:(s.drop k.1).length<=16384:=by rw[aW];omega
   cases p:s.drop k.1 with
   |nil=>exact absurd p v
   |cons c r=>
    rw[p]at i f o g d
    have m:((c::r).drop (mY (c::r)).2.1).length<=16384:=by rw[aW];omega
    have q:=Ij n _ _ _ _ (Py f i) m o λt b=>d t (aF _ b)
    intro t b
    rcases aX.1 b with rfl|b
    .exact(YM f i g λe=>(d _ bC e).2).at_ _
    .exact q t b
  .rename_i j
   exact absurd h (j l)
def Ep{l:List Tok}(h:mS s=.ok l):∀t∈l,xO t:=by
 have a:=Dh h;have c:=(wZ h).2;have b:=SH h;unfold mS at h;rw[aE (by omega)]at h;split at h
 .cases h
 .exact Ij _ _ _ _ _ b c h a
def KH:∀(N:Nat) (r:Str) (d:Int),r.length<=N->r.length<=qY r d\/∃k,qY r d=k+1/\r[k]?=some 125
 |N,[],d,_=>.inl (cZ _)
 |0,c::r,d,h=>by simp at h
 |N+1,c::r,d,h=>by
  have j:r.length<=N:=by simp only[aA]at h;omega
  have up:∀f:Int,(c::r).length<=1+qY r f\/∃k,1+qY r f=k+1/\(c::r)[k]?=some 125:=λf=>by
   rcases KH N r f j with e|⟨k,e,b⟩
   .left;simp only[aA];omega
   .exact .inr ⟨k+1,by omega,by rw[bI];exact b⟩
  rw[mL]
  by_cases e:c=123
  .rw[aO e];exact up _
  rw[aE e]
  by_cases b:c=125
  .rw[aO b]
   by_cases a:d-1=0
   .rw[aO a];exact .inr ⟨0,rfl,by rw[b];rfl⟩
   .rw[aE a];exact up _
  rw[aE b]
  by_cases a:c=34
  .rw[aO a]
   have g:=KH N (r.drop (tB r)) d (by rw[aW];omega)
   rw[aW]at g
   rcases g with l|⟨k,l,i⟩
   .left;simp only[aA];omega
   .right
    rw[iF]at i
    exact⟨tB r+k+1,by omega,by rw[bI];exact i⟩
  .rw[aE a];exact up _
def Om:∀(N:Nat) (s:Str) (i e:Nat),s.length<=N->insP s=some (i,e)->s[i]?=some 36/\e=i+1+EO (s.drop (i+1))
 |_,[],_,_,_,h=>by simp[Syn.insP]at h
 |_,[_],_,_,_,h=>by simp[Syn.insP]at h
 |0,_::_::_,_,_,l,_=>by simp at l
 |N+1,c::d::r,i,e,l,h=>by
  simp only[aA]at l
  rw[Syn.insP]at h
  by_cases n:c=92
  .rw[aO n,nW]at h
   obtain⟨⟨b,j⟩,f,a⟩:=h
   injection a with a g
   subst a g
   obtain⟨k,m⟩:=Om N r b j (by omega) f
   refine⟨by rw[bI,bI];exact k,?_⟩
   rw[show b+2+1=(b+1)+1+1 by omega,dI,dI,m]
   omega
  rw[aE n]at h
  by_cases f:c=36/\d=123
  .rw[aO f]at h
   injection h with h
   injection h with a g
   subst a g
   exact⟨by rw[f.1];rfl,by rw[dI,dZ]⟩
  .rw[aE f,nW]at h
   obtain⟨⟨b,j⟩,f,a⟩:=h
   injection a with a g
   subst a g
   obtain⟨k,m⟩:=Om N (d::r) b j (by simp only[aA];omega) f
   refine⟨by rw[bI];exact k,?_⟩
   show j+1=b+1+1+EO ((d::r).drop (b+1))
   omega
def PQ{e:Nat}(h:Utf s)(f:insP s=some (i,e)):Utf (s.take i)/\Utf (s.drop e):=by
 obtain⟨j,g⟩:=Om s.length s i e (aQ _) f;refine⟨Gq h λc b=>by rw[j]at b;injection b with b;rw[<-b];decide,?_⟩;have a:=KH _ (s.drop (i+1)) 0 (aQ _);rw[show qY (s.drop (i+1)) 0=EO (s.drop (i+1))from rfl]at a;rcases a with a|⟨k,a,d⟩
 .rw[aW]at a;rw[lG (by omega)];exact .nil
 .rw[iF]at d;rw[g,a,show i+1+(k+1)=i+1+k+1 by omega];exact wP h d (by decide)
def JF:∀(N:Nat) (s:Str),s.length<=N->(iW s).length<=s.length
 |_,[],_=>aQ _
 |_,[c],_=>by simp only[iW];split<;>simp
 |0,_::_::_,h=>by simp at h
 |N+1,c::e::r,h=>by
  simp only[aA]at h
  simp only[iW]
  split
  .have:=JF N r (by omega)
   simp only[aA];omega
  .have:=JF N (e::r) (by simp only[aA];omega)
   simp only[aA]at this⊢;omega
def BO(r:Str):∀v:Str,(∀c∈v,c≠92)->iW (v++r)=v++iW r
 |[],_=>rfl
 |[c],h=>by
  have a:=h c (by simp)
  cases r with
  |nil=>simp[iW,a]
  |cons d r=>simp only[fS,dS,iW];rw[aE a]
 |c::d::v,h=>by
  have a:=h c (by simp)
  have b:=BO r (d::v) λx e=>h x (aF _ e)
  simp only[fS]at b⊢
  simp only[iW]
  rw[aE a]
  rw[show iW (d::(v++r))=d::(v++iW r)from b]
def tH:∀(N:Nat) (s:Str),s.length<=N->Utf s->Utf (iW s)
 |N,s,d,h=>by
  cases h with
  |nil=>exact .nil
  |@cons u r j m=>
   have p:=j.pos
   rw[aB]at d
   rcases j.cases with⟨x,rfl,q⟩|w
   .by_cases g:x=92
    .subst g
     cases m with
     |nil=>exact .nil
     |@cons u2 r2 a l=>
      rw[aB]at d
      have n:=a.pos
      cases N with
      |zero=>simp at d
      |succ N=>
       have o:=tH N r2 (by simp only[aA,aD]at d;omega) l
       rcases a.cases with⟨y,rfl,i⟩|f
       .show Utf (iW (92::y::r2))
        simp only[iW]
        rw[aO trivial]
        refine Utf.cons (u:=[_]) (JG ?_) o
        repeat' split
        .decide
        .decide
        .decide
        .exact i
       .cases u2 with
        |nil=>simp at n
        |cons y v=>
         have i:=f y (by simp)
         have ne:∀k:UInt8,k.toNat<128->y≠k:=λk z e=>by rw[e]at i;omega
         have t:∀c∈v,c≠92:=λc b e=>by have:=f c (aF _ b);rw[e]at this;exact absurd this (by decide)
         show Utf (iW (92::y::(v++r2)))
         simp only[iW]
         rw[aO trivial,aE (ne 110 (by decide)),aE (ne 116 (by decide)),aE (ne 114 (by decide)),BO r2 v t]
         exact Utf.cons a o
    .cases N with
     |zero=>simp at d
     |succ N=>
      rw[BO r [x] (λc b=>by rw[bO]at b;rw[b];exact g)]
      exact Utf.cons (JG q) (tH N r (by simp only[aA,aD]at d;omega) m)
   .cases N with
    |zero=>omega
    |succ N=>
     rw[BO r u λc b e=>by have:=w c b;rw[e]at this;exact absurd this (by decide)]
     exact Utf.cons j (tH N r (by omega) m)
end
end Go.Proofs.YtjblfcfdeaagpaaGreatDoor
namespace Go.Syn
section
open Go Go.Eng Go.Lex
structure TR(b:Bool)(o E:Nat)(d:Int)(A A2:List Tok):Prop where
 len:A.length=E+1
 len2:E+o<A2.length
 tok:∀(j:Nat) (t:Tok),j<E->A[j]?=some t->t.k≠0/\∃t2,A2[j+o]?=some t2/\t2.k=t.k/\t2.t=t.t/\t2.a=t.a+d
 eof:∀t,A[E]?=some t->t.k=0
 eof2:b=true->∀t,A[E]?=some t->∃t2,A2[E+o]?=some t2/\t2.k=t.k/\t2.t=t.t/\t2.a=t.a+d
section
variable{io:Nat}{b:Bool}{c:Int}{pe:List Ex}{pb:List Blk}{s s2:PS}
def vI(s:PS):(bK s).toks=s.toks/\(bK s).off=s.off/\(bK s).deep=s.deep/\(bK s).quiet=s.quiet/\(bK s).ex=s.ex/\(bK s).bl=s.bl:=by
 unfold bK;split<;>exact⟨rfl,rfl,rfl,rfl,rfl,rfl⟩
end
end
section
open Go Go.Eng Go.Lex
variable{α β:Type}{io:Nat}{b:Bool}{c:Int}{pe:List Ex}{pb:List Blk}
def bind_ok{r:R α}{f:α->PS->R β}{y:β}{s':PS}(h:r.bind f=.ok y s'):∃x b,r=.ok x b/\f x b=.ok y s':=by
 cases r with
 |ok x b=>exact⟨x,b,rfl,h⟩
 |err a e=>cases h
variable{s s2:PS}
end
end Go.Syn
namespace Go.Proofs.YtjblfcfdeaagpaaGreatDoor
section
open Go Go.Eng Go.Lex Go.Syn
structure XE(e:Ex):Prop where
 kd:1<=e.k/\e.k<=30
 ut:Utf e.t/\e.t.length<=100000
 uk:∀s∈e.keys,Utf s/\s.length<=100000
 nl:e.k≠5->∀c∈e.t,c≠10
 a6:e.k=6\/e.k=8->e.keys.length=e.args.length
 a1:e.k=10\/e.k=30->1<=e.args.length
 a2:e.k=11\/e.k=29\/15<=e.k/\e.k<=27->2<=e.args.length
 a3:e.k=28->3<=e.args.length
def TKs(s:PS):Prop:=(∀t∈s.toks,xO t)/\s.toks.length<=4097
structure K1(s s':PS):Prop where
 toks:s'.toks=s.toks
 bl:s'.bl=s.bl
 ex:(∀e∈s.ex,XE e)->∀e∈s'.ex,XE e
def K1.refl(s:PS):K1 s s:=⟨rfl,rfl,λh=>h⟩
def K1.trans{s s1 b:PS}(h:K1 s s1)(a:K1 s1 b):K1 s b:=⟨a.toks.trans h.toks,a.bl.trans h.bl,λc=>a.ex (h.ex c)⟩
def K1.tk{s s':PS}(h:K1 s s')(a:TKs s):TKs s':=by unfold TKs;rw[h.toks];exact a
def K1.of{s s':PS}(c:s'.toks=s.toks)(b:s'.bl=s.bl)(a:s'.ex=s.ex):K1 s s':=⟨c,b,λh=>by rw[a];exact h⟩
def qC(s:PS):K1 s (bK s):=K1.of (vI s).1 (vI s).2.2.2.2.2 (vI s).2.2.2.2.1
def oI(s:PS):K1 s (step1 s):=K1.of rfl rfl rfl
def Kq(s:PS):K1 s (kP s):=by unfold kP;split;exact(qC s).trans (oI _);exact qC s
def qT(s:PS)(w:Str):K1 s (cN s w).2:=by unfold cN;split;exact(qC s).trans (oI _);exact qC s
def tQ(s:PS):K1 s (hY s):=K1.of (vI s).1 (vI s).2.2.2.2.2 (vI s).2.2.2.2.1
def Av{s:PS}{w:Str}{x:Unit}{s':PS}(h:oX s w=.ok x s'):K1 s s':=by
 unfold oX at h;split at h
 .injection h with _ h;rw[<-h];exact(qC s).trans (oI _)
 .cases h
def Aw{s:PS}{k:Int}{t:Tok}{s':PS}(h:mT s k=.ok t s'):K1 s s'/\t=cur s/\t.k=k:=by
 unfold mT at h;split at h
 .rename_i a;injection h with c b;subst c b;exact⟨Kq s,rfl,a⟩
 .cases h
def xG{s:PS}{e:Ex}{x:Nat}{s':PS}(c:XE e)(h:qS s e=.ok x s'):K1 s s':=by
 injection h with _ h
 subst h;refine⟨rfl,rfl,λb y a=>?_⟩;rcases bM.1 a with a|a
 .exact b y a
 .rw[bO]at a;rw[a];exact c
def BB{s:PS}(h:TKs s):xO (cur s):=by
 have b:xO (pH (bK s)):=by
  unfold pH;rw[aM,(vI s).1];cases a:s.toks[(bK s).i]? with
  |none=>exact⟨⟨.nil,cZ _⟩,λe=>absurd e (show¬(0:Int)=1 by decide),λe=>absurd e (show¬(0:Int)=2 by decide)⟩
  |some t=>exact h.1 t (bA a)
 exact b.at_ _
def tP{s:PS}{q:Bool}{f:PS->R α}{x:α}{s':PS}(h:within s a q f=.ok x s')(e:∀s1 d,K1 s s1->f s1=.ok x d->K1 s1 d):K1 s s':=by
 unfold within at h;split at h
 .cases h
 obtain⟨y,s1,j,c⟩:=bind_ok h;injection c with c i
 subst c i;have g:K1 s {s with deep:=s.deep+1,quiet:=q}:=K1.of rfl rfl rfl;have b:=e _ _ g j;exact⟨b.toks,b.bl,b.ex⟩
def KE(F:PS->R Nat):Prop:=∀s x s',TKs s->F s=.ok x s'->K1 s s'
def DZ:KE dead:=λs x s' _ h=>by cases h
def XE.of{k:Int}{t:Str}(f:1<=k/\k<=30)(d:Utf t/\t.length<=100000)(e:k≠5->∀c∈t,c≠10)(b:∀s∈L,Utf s/\s.length<=100000)
  (h:(k=6\/k=8->L.length=u.length)/\(k=10\/k=30->1<=u.length)/\(k=11\/k=29\/15<=k/\k<=27->2<=u.length)/\(k=28->3<=u.length)):XE ⟨k,t,u,L,a⟩:=
 ⟨f,d,b,e,h.1,h.2.1,h.2.2.1,h.2.2.2⟩
def Dw:Utf ([]:Str)/\([]:Str).length<=100000:=⟨.nil,cZ _⟩
def Ff{k:Int}:k≠5->∀c∈([]:Str),c≠(10:UInt8):=λ_ c h=>by cases h
def vU:∀s∈([]:List Str),Utf s/\s.length<=100000:=λs h=>by cases h
def GP{t:Tok}(h:xO t)(a:t.k=1):∀c∈t.t,c≠(10:UInt8):=λc b e=>by
 have:=(h.name a).2 c b
 rw[e]at this
 exact absurd this (by decide)
def aFA{t:Tok}(h:xO t)(a:t.k=2):∀c∈t.t,c≠(10:UInt8):=λc b e=>by
 have:=h.num a c b
 rw[e]at this
 exact absurd this (by decide)
def FN{t:Str}(h:Utf t)(a:t.length<=100000):Utf (iW t)/\(iW t).length<=100000:=⟨tH _ t (aQ _) h,dN (JF _ t (aQ _)) a⟩
variable{E S:PS->R Nat}
def Zj(g:KE E){s:PS}{t:Str}{x:Nat}{s':PS}(h:pF E s t a=.ok x s'):K1 s s':=by
 unfold pF at h;cases b:mS t with
 |bad k p=>rw[b]at h;cases h
 |ok l=>
  rw[b]at h;simp only at h;obtain⟨y,q,n,m⟩:=bind_ok h;obtain⟨o,r,j,e⟩:=bind_ok m;injection e with e i
  subst i;have d:=g _ _ _ ⟨Ep b,(wZ b).1⟩ n;have c:=(Aw j).1;exact⟨rfl,c.bl.trans d.bl,λf=>c.ex (d.ex f)⟩
theorem Ko(t:KE E):∀(n:Nat) (s:PS) (rest:Str) (a:Int) (us:List Nat) (ks:List Str) (x:List Nat×List Str) (s':PS),Utf rest->rest.length<=100000->us.length=ks.length->(∀k∈ks,Utf k/\k.length<=100000)->mK E n s rest a us ks=.ok x s'->
  K1 s s'/\x.1.length=x.2.length/\∀k∈x.2,Utf k/\k.length<=100000
 |0,_,_,_,_,_,_,_,_,_,_,_,h=>by cases h
 |n+1,s,rest,a,us,ks,x,s',p,r,d,b,h=>by
  have key:∀(ks:List Str) (c:UInt8),c.toNat<128->(∀k∈ks,Utf k/\k.length<=100000)->∀k∈ks++[[c]],Utf k/\k.length<=100000:=λks c G b k g=>by
   rcases bM.1 g with g|g
   .exact b k g
   .rw[bO]at g;rw[g];exact⟨Utf.one (JG G),(show 1<=100000 by decide)⟩
  have f:∀(s:PS) (u:Str) (a:Int),Utf u->u.length<=100000->K1 s {s with ex:=s.ex++[⟨5,iW u,[],[],a⟩]}:=λs u a p r=>xG (s:=s) (e:=⟨5,iW u,[],[],a⟩) (x:=s.ex.length) (XE.of (by decide) (FN p r) (λh=>absurd rfl h) vU (by simp)) rfl
  simp only[mK]at h
  split at h
  .injection h with A o
   subst A o
   exact⟨K1.refl _,d,b⟩
  split at h
  .injection h with A o
   subst A o
   exact⟨f _ _ _ p r,by simp[d],key ks 116 (by decide) b⟩
  .rename_i i e F
   obtain⟨C,B⟩:=PQ p F
   have l1:(rest.take i).length<=100000:=by rw[cG];omega
   have l2:(rest.drop e).length<=100000:=by rw[aW];omega
   have j:K1 s (if 0<i then{s with ex:=s.ex++[⟨5,iW (rest.take i),[],[],a⟩]}else s):=by
    split
    .exact f _ _ _ C l1
    .exact K1.refl _
   have l:(if 0<i then us++[s.ex.length]else us).length=(if 0<i then ks++[[116]]else ks).length:=by split<;>simp[d]
   have m:∀k∈(if 0<i then ks++[[116]]else ks),Utf k/\k.length<=100000:=by
    split
    .exact key ks 116 (by decide) b
    .exact b
   generalize (if 0<i then us++[s.ex.length]else us)=us1 at*
   generalize (if 0<i then ks++[[116]]else ks)=ks1 at*
   generalize (if 0<i then{s with ex:=s.ex++[⟨5,iW (rest.take i),[],[],a⟩]}else s)=s1 at*
   split at h
   .obtain⟨y,D,J,I⟩:=bind_ok h;have o:=tP J λq K _ H=>Zj t H;obtain⟨z,w,v⟩:=Ko t n D _ _ _ _ x s' B l2 (by simp[l]) (key ks1 101 (by decide) m) I;exact⟨j.trans (o.trans z),w,v⟩
   .obtain⟨z,w,v⟩:=Ko t n s1 _ _ _ _ x s' B l2 l m h;exact⟨j.trans z,w,v⟩
def aDR(b:KE E){s:PS}{t:Tok}{x:Nat}{s':PS}(a:xO t)(h:wS E s t=.ok x s'):K1 s s':=by
 unfold wS at h;split at h
 .obtain⟨y,i,g,f⟩:=bind_ok h;obtain⟨e,d,c⟩:=Ko b _ _ _ _ _ _ _ _ a.ut.1 a.ut.2 rfl vU g;exact e.trans (xG (XE.of (by decide) Dw Ff c ⟨λ_=>d.symm,by simp,by simp,by simp⟩) f)
 .exact xG (XE.of (by decide) (FN a.ut.1 a.ut.2) (λh=>absurd rfl h) vU (by simp)) h
def Ks(g:KE E)(w:Str):∀(n:Nat) (s:PS) (out:List Nat) (x:List Nat) (s':PS),TKs s->qX E w n s out=.ok x s'->K1 s s'
 |0,_,_,_,_,_,h=>by cases h
 |n+1,s,out,x,s',m,h=>by
  simp only[qX]at h
  split at h
  .injection h with _ h;rw[<-h];exact qT s w
  have a:=(qT s w).tk m
  split at h
  .obtain⟨y,c,j,b⟩:=bind_ok h
   have e:=g _ _ _ a j
   exact(qT s w).trans (e.trans (Ks g w n c _ x s' (e.tk a) b))
  .obtain⟨y,c,j,b⟩:=bind_ok h
   have e:=Av j
   have i:=e.tk a
   have f:=(qT s w).trans e
   split at b
   .injection b with _ b;rw[<-b];exact f.trans (qT c w)
   .obtain⟨z,l,p,o⟩:=bind_ok b
    have d:=(qT c w).tk i
    have k:=g _ _ _ d p
    exact f.trans ((qT c w).trans (k.trans (Ks g w n l _ x s' (k.tk d) o)))
def UG(j:KE E){s:PS}{e:Ex}{s':PS}(i:TKs s)(h:xE E s a=.ok e s'):K1 s s'/\XE e:=by
 unfold xE at h;simp only at h;split at h
 .obtain⟨us,H,l,g⟩:=bind_ok h;injection g with g k
  subst g k;have f:=(oI s).trans (qC (step1 s));exact⟨f.trans (Ks j _ _ _ _ _ _ (f.tk i) l),XE.of (by decide) Dw Ff vU (by simp)⟩
 .have f:=((oI s).trans (qC (step1 s))).trans (oI _);obtain⟨t,G,l,h⟩:=bind_ok h;obtain⟨q,n,m⟩:=Aw l;have b:xO t:=by rw[n];exact BB (f.tk i)
  obtain⟨u,F,g,h⟩:=bind_ok h;obtain⟨k2,_,_⟩:=Aw g;have d:=(f.trans q).trans k2;split at h
  .cases h
  obtain⟨x,D,k,h⟩:=bind_ok h;have k3:=j _ _ _ (d.tk i) k;obtain⟨_,C,z,h⟩:=bind_ok h;have c:=(d.trans k3).trans (Av z);obtain⟨y,B,w,h⟩:=bind_ok h;have p:=j _ _ _ (c.tk i) w;obtain⟨_,A,v,h⟩:=bind_ok h;have o:=Av v;injection h with r e8
  subst r e8;exact⟨(c.trans p).trans o,XE.of (by decide) b.ut (λ_=>GP b m) vU (by simp)⟩
theorem aBP(y:KE E)(a:Int):∀(n:Nat) (s:PS) (us:List Nat) (ks:List Str) (e:Ex) (s':PS),TKs s->us.length=ks.length->(∀k∈ks,Utf k/\k.length<=100000)->Ar E a n s us ks=.ok e s'->K1 s s'/\XE e
 |0,_,_,_,_,_,_,_,_,h=>by cases h
 |n+1,s,us,ks,e,s',r,b,g,h=>by
  simp only[Ar]at h
  split at h
  .injection h with o A
   subst o A
   exact⟨qT s _,XE.of (by decide) Dw Ff g ⟨λ_=>b.symm,by simp,by simp,by simp⟩⟩
  have o:=qT s [125]
  have p:=o.tk r
  have tk:=BB p
  have u:=o.trans (Kq (cN s [125]).2)
  obtain⟨k,z,c,h⟩:=bind_ok h
  have v:K1 (kP (cN s [125]).2) z/\Utf k/\k.length<=100000:=by
   split at c
   .unfold qG at c;split at c
    .cases c
    .injection c with m l;rw[<-m,<-l];exact⟨K1.refl _,FN tk.ut.1 tk.ut.2⟩
   .split at c
    .injection c with m l;rw[<-m,<-l];exact⟨K1.refl _,tk.ut⟩
    .cases c
  have t:=u.trans v.1;split at h
  .cases h
  obtain⟨_,B,m,h⟩:=bind_ok h;have j:=t.trans (Av m);obtain⟨x,f,l,h⟩:=bind_ok h;have i:=j.trans (y _ _ _ (j.tk r) l);split at h
  .cases h
  have w:K1 s (hY (if(cN f [44]).1=true then(cN f [44]).2 else bK (cN f [44]).2)):=by
   split
   .exact i.trans ((qT f _).trans (tQ _))
   .exact i.trans ((qT f _).trans ((qC _).trans (tQ _)))
  obtain⟨g1,g2⟩:=aBP y a n _ _ _ e s' (w.tk r) (by simp[b]) (λq d=>by
   rcases bM.1 d with d|d
   .exact g q d
   .rw[bO]at d;rw[d];exact v.2) h
  exact⟨w.trans g1,g2⟩
def IE(t:Str):pS t=1\/pS t=2\/pS t=3\/pS t=9:=by
 unfold pS
 repeat' split
 all_goals simp
theorem aDT(m:KE E):KE (nC E):=by
 intro s x s' k h;have tk:=BB k;have f:=qC s;unfold nC at h;simp only at h;split at h
 .rename_i p;exact(f.trans (oI _)).trans (xG (XE.of (by decide) tk.ut (λ_=>aFA tk p) vU (by simp)) h)
 split at h
 .exact(f.trans (oI _)).trans (aDR m tk h)
 split at h
 .rename_i p;have n:=f.trans (oI (bK s));split at h
  .obtain⟨us,z,b,l⟩:=bind_ok h;have o:=tP b λq j g d=>(oI q).trans (Ks m _ _ _ _ _ _ ((oI q).tk (g.tk ((n.trans (qC _)).tk k))) d);exact((n.trans (qC _)).trans o).trans (xG (XE.of (by decide) tk.ut (λ_=>GP tk p.1) vU (by simp)) l)
  .have D:=IE (cur s).t;refine(n.trans (qC _)).trans (xG (XE.of (by omega) ?_ ?_ vU ?_) h)
   .split
    .exact tk.ut
    .exact Dw
   .intro _ c v;split at v
    .exact GP tk p.1 c v
    .cases v
   .refine⟨λ_=>rfl,λe=>by omega,λe=>by omega,λe=>by omega⟩
 split at h
 .refine f.trans (tP h λq j g b=>?_);obtain⟨y,C,l,d⟩:=bind_ok b;obtain⟨_,B,i,w⟩:=bind_ok d;injection w with _ w
  subst w;have u:=(oI q).tk (g.tk (f.tk k));exact(oI q).trans ((m _ _ _ u l).trans (Av i))
 split at h
 .obtain⟨e,z,b,l⟩:=bind_ok h;have r:XE e:=by
   unfold within at b;split at b
   .cases b
   obtain⟨y,q,d,i⟩:=bind_ok b;injection i with i _
   subst i;exact(UG m (s:={bK s with deep:=(bK s).deep+1,quiet:=true}) (f.tk k) d).2
  have o:=tP b λq j g d=>(UG m (g.tk (f.tk k)) d).1;exact(f.trans o).trans (xG r l)
 split at h
 .obtain⟨e,z,b,l⟩:=bind_ok h;have A:∀q j,TKs q->GK E q (cur s).a=.ok e j->K1 q j/\XE e:=λq j g d=>by
   unfold GK at d;have n:=(oI q).trans (tQ (step1 q));obtain⟨g1,g2⟩:=aBP m _ _ _ _ _ _ _ (n.tk g) rfl vU d;exact⟨n.trans g1,g2⟩
  have r:XE e:=by
   unfold within at b;split at b
   .cases b
   obtain⟨y,q,d,i⟩:=bind_ok b;injection i with i _
   subst i;exact(A {bK s with deep:=(bK s).deep+1,quiet:=false} _ (f.tk k) d).2
  have o:=tP b λq j g d=>(A q j (g.tk (f.tk k)) d).1;exact(f.trans o).trans (xG r l)
 .cases h
theorem Kn(i:KE E):∀(n:Nat) (s:PS) (x y:Nat) (s':PS),TKs s->nN E n s x=.ok y s'->K1 s s'
 |0,_,_,_,_,_,h=>by cases h
 |n+1,s,x,y,s',c,h=>by
  simp only[nN]at h
  have k:=qC s
  have t:=k.tk c
  split at h
  .obtain⟨u,B,w,h⟩:=bind_ok h
   obtain⟨p,m,l⟩:=Aw w
   have D:=k.trans (qT (bK s) [46])
   have tk:xO u:=by rw[m];exact BB (D.tk c)
   have j:=D.trans p
   obtain⟨z,A,g,h⟩:=bind_ok h
   have a:=j.trans (xG (XE.of (by decide) tk.ut (λ_=>GP tk l) vU (by simp)) g)
   exact a.trans (Kn i n _ _ _ _ (a.tk c) h)
  split at h
  .obtain⟨o,B,w,h⟩:=bind_ok h
   have j:K1 s B:=k.trans (tP w λq L G f=>by
    have b:=(oI q).trans (qT (step1 q) [42])
    have r:=b.tk (G.tk t)
    split at f
    .obtain⟨_,F,e,d⟩:=bind_ok f
     injection d with _ d
     subst d
     exact b.trans (Av e)
    .obtain⟨z,M,e,d⟩:=bind_ok f
     obtain⟨_,F,I,v⟩:=bind_ok d
     injection v with _ v
     subst v
     exact b.trans ((i _ _ _ r e).trans (Av I)))
   cases o with
   |some q=>
    simp only at h
    obtain⟨z,A,g,h⟩:=bind_ok h
    have a:=j.trans (xG (XE.of (by decide) Dw Ff vU (by simp)) g)
    exact a.trans (Kn i n _ _ _ _ (a.tk c) h)
   |none=>
    simp only at h
    obtain⟨_,A,g,h⟩:=bind_ok h
    have a:=j.trans (Av g)
    obtain⟨u,K,f,h⟩:=bind_ok h
    obtain⟨p,m,l⟩:=Aw f
    have tk:xO u:=by rw[m];exact BB (a.tk c)
    have H:=a.trans p
    obtain⟨z,J,e,h⟩:=bind_ok h
    have C:=H.trans (xG (XE.of (by decide) tk.ut (λ_=>GP tk l) vU (by simp)) e)
    exact C.trans (Kn i n _ _ _ _ (C.tk c) h)
  .injection h with _ h
   rw[<-h];exact k
def Oh(k:KE E)(j:KE S):KE (tE E S):=by
 intro s x s' i h;have d:=qC s;have a:=d.tk i;unfold tE at h;simp only at h;split at h
 .obtain⟨y,m,c,b⟩:=bind_ok h;have f:=d.trans (tP c λq n e g=>(oI q).trans (j _ _ _ ((oI q).tk (e.tk a)) g));exact f.trans (xG (XE.of (by decide) Dw Ff vU (by simp)) b)
 split at h
 .obtain⟨y,m,c,b⟩:=bind_ok h;have f:=d.trans (tP c λq n e g=>(oI q).trans (j _ _ _ ((oI q).tk (e.tk a)) g));exact f.trans (xG (XE.of (by decide) Dw Ff vU (by simp)) b)
 .unfold Ct at h;obtain⟨y,o,c,b⟩:=bind_ok h;have l:=d.trans (aDT k _ _ _ a c);exact l.trans (Kn k _ _ _ _ _ (l.tk i) b)
theorem PL{t:Tok}(h:qI t n≠0):15<=qI t n/\qI t n<=27:=by
 unfold qI zK at h⊢
 repeat' split at h
 all_goals first
  |exact absurd rfl h
  |(simp_all<;>decide)
def UH{J:PS->R Nat}(d:KE J)(n:Nat):∀(f:Nat) (s:PS) (a x:Nat) (s':PS),TKs s->tR J n f s a=.ok x s'->K1 s s'
 |0,_,_,_,_,_,h=>by cases h
 |f+1,s,a,x,s',c,h=>by
  simp only[tR]at h
  split at h
  .injection h with _ h;rw[<-h];exact qC s
  rename_i j
  have i:=(qC s).trans (oI _)
  obtain⟨b,p,m,h⟩:=bind_ok h
  have k:=i.trans (d _ _ _ (i.tk c) m)
  obtain⟨y,o,l,h⟩:=bind_ok h
  have q:=PL j
  have g:=k.trans (xG (XE.of (by omega) Dw Ff vU ⟨λe=>by omega,λe=>by omega,λ_=>by simp,λe=>by omega⟩) l)
  exact g.trans (UH d n f _ _ _ _ (g.tk c) h)
def Kr(c:KE E)(b:KE S):∀m,KE (mU E S m)
 |0=>Oh c b
 |m+1=>λs x s' e h=>by
  have h:(mU E S m s).bind (λa d=>tR (mU E S m) (5-m) (s.toks.length+1) d a)=.ok x s':=h
  obtain⟨a,d,i,g⟩:=bind_ok h
  have f:=Kr c b m _ _ _ e i
  exact f.trans (UH (Kr c b m) _ _ _ _ _ _ (f.tk e) g)
def UI(d:KE E)(j:KE S):KE (yF E S):=by
 intro s x s' f h;unfold yF at h;obtain⟨a,g,v,h⟩:=bind_ok h;have l:=Kr d j 6 _ _ _ f v;simp only at h;have e:=l.trans (qT g [63]);split at h
 .obtain⟨z,A,u,t⟩:=bind_ok h;have k:=e.trans (tP u λq D i r=>by
   have c:=i.tk (e.tk f);obtain⟨y,F,p,o⟩:=bind_ok r;have g1:=d _ _ _ c p;obtain⟨_,C,n,e8⟩:=bind_ok o;have g2:=g1.trans (Av n);obtain⟨w,B,m,b⟩:=bind_ok e8;injection b with _ b
   subst b;exact g2.trans (d _ _ _ (g2.tk c) m))
  exact k.trans (xG (XE.of (by decide) Dw Ff vU (by simp)) t)
 .injection h with _ h
  rw[<-h];exact e
def Cd:∀d,KE (mM d).1/\KE (mM d).2
 |0=>⟨UI DZ DZ,Oh DZ DZ⟩
 |d+1=>⟨UI (Cd d).1 (Cd d).2,Oh (Cd d).1 (Cd d).2⟩
end
section
open Go Go.Eng Go.Lex Go.Syn
def HR(t:Str):Prop:=(∃c r,t=c::r/\gV c=true)/\(∀d∈t,gY d=true)/\t.length<=100000
structure XB(b:Blk):Prop where
 ty:HR b.typ
 lb:∀s∈b.labels,Utf s/\s.length<=100000
 at_:∀a∈b.attrs,HR a.n
 few:b.labels.length<=5000
def HB:Nat->List Blk->Nat->Prop
 |0,_,_=>False
 |d+1,bl,i=>∃b,bl[i]?=some b/\∀k∈b.blocks,HB d bl k
def BU{l m:List α}(h:l<+:m){x:α}(a:l[i]?=some x):m[i]?=some x:=by
 obtain⟨t,rfl⟩:=h;rw[dR (bJ.1 a).1];exact a
def HB.mono{l m:List Blk}(h:l<+:m):∀{d i:Nat},HB d l i->HB d m i
 |0,_,c=>c
 |d+1,i,⟨b,f,e⟩=>⟨b,BU h f,λk a=>HB.mono h (e k a)⟩
structure K2(s s':PS):Prop where
 toks:s'.toks=s.toks
 pre:s.bl<+:s'.bl
 bl:(∀b∈s.bl,XB b)->∀b∈s'.bl,XB b
 ex:(∀e∈s.ex,XE e)->∀e∈s'.ex,XE e
def K1.k2{s s':PS}(h:K1 s s'):K2 s s':=⟨h.toks,by rw[h.bl];exact mI _,λa=>by rw[h.bl];exact a,h.ex⟩
def K2.trans{s s1 b:PS}(h:K2 s s1)(a:K2 s1 b):K2 s b:=⟨a.toks.trans h.toks,h.pre.trans a.pre,λd=>a.bl (h.bl d),λc=>a.ex (h.ex c)⟩
def K2.tk{s s':PS}(h:K2 s s')(a:TKs s):TKs s':=by unfold TKs;rw[h.toks];exact a
def Rl{s:PS}{q:Bool}{f:PS->R α}{x:α}{s':PS}(h:within s a q f=.ok x s'):∃b c,K1 s b/\b.bl=s.bl/\f b=.ok x c/\s'.toks=c.toks/\s'.bl=c.bl/\s'.ex=c.ex:=by
 unfold within at h;split at h
 .cases h
 obtain⟨y,b,g,d⟩:=bind_ok h;injection d with d e
 subst d e;exact⟨{s with deep:=s.deep+1,quiet:=q},b,K1.of rfl rfl rfl,rfl,g,rfl,rfl,rfl⟩
def Ui{t:Tok}(h:xO t)(a:t.k=1):HR t.t:=⟨(h.name a).1,(h.name a).2,h.ut.2⟩
def LZ:∀(n:Nat) (s:PS) (ls:List Str) (x:List Str) (s':PS),TKs s->(∀l∈ls,Utf l/\l.length<=100000)->pL n s ls=.ok x s'->K1 s s'/\(∀l∈x,Utf l/\l.length<=100000)/\x.length<=ls.length+n
 |0,_,_,_,_,_,_,h=>by cases h
 |n+1,s,ls,x,s',f,g,h=>by
  simp only[pL]at h
  split at h
  .have tk:=BB f
   obtain⟨y,d,c,m⟩:=bind_ok h
   have b:d=kP s/\y=iW (cur s).t:=by
    unfold qG at c;split at c
    .cases c
    .injection c with k j;exact⟨j.symm,k.symm⟩
   have e:K1 s d:=by rw[b.1];exact Kq s
   obtain⟨g1,g2,g3⟩:=LZ n d _ x s' (e.tk f) (λl a=>by
    rcases bM.1 a with a|a
    .exact g l a
    .rw[bO]at a;rw[a,b.2];exact FN tk.ut.1 tk.ut.2) m
   exact⟨e.trans g1,g2,by rw[aB]at g3;simp only[aA,aD]at g3;omega⟩
  .injection h with b i
   rw[<-b,<-i];exact⟨qC s,g,by omega⟩
def KB(d:Nat)(B:PS->R Nat):Prop:=∀s x s',TKs s->B s=.ok x s'->K2 s s'/\HB d s'.bl x
def ZF:KB 0 dead:=λs x s' _ h=>by cases h
variable{E B:PS->R Nat}{d:Nat}
def aDS(z:KE E)(A:KB d B){s:PS}{us:List Atr}{x:List Atr×List Nat}{s':PS}(f:TKs s)(o:∀a∈us,HR a.n)(p:∀k∈u,HB d s.bl k)(h:vX E B s us u=.ok x s'):
  K2 s s'/\(∀a∈x.1,HR a.n)/\∀k∈x.2,HB d s'.bl k:=by
 unfold vX at h;obtain⟨t,e,C,h⟩:=bind_ok h;obtain⟨w,v,r⟩:=Aw C;have tk:xO t:=by rw[v];exact BB f
 have k2:=w.trans (qT e [61]);split at h
 .obtain⟨y,q,l,h⟩:=bind_ok h;have k3:=k2.trans (z _ _ _ (k2.tk f) l);injection h with j g
  subst j g;refine⟨k3.k2,λa c=>?_,λk b=>by rw[k3.bl];exact p k b⟩;rcases bM.1 c with c|c
  .exact o a c
  .rw[bO]at c;rw[c];exact Ui tk r
 .obtain⟨y,q,l,h⟩:=bind_ok h;have k3:K1 s {(cN e [61]).2 with i:=(cN e [61]).2.i-1}:=k2.trans (K1.of rfl rfl rfl);obtain⟨g1,g2⟩:=A _ _ _ (k3.tk f) l;injection h with j g
  subst j g;have m:=k3.k2.trans g1;refine⟨m,o,λk b=>?_⟩;rcases bM.1 b with b|b
  .exact(p k b).mono m.pre
  .rw[bO]at b;rw[b];exact g2
def PO(l:KE E)(m:KB d B):∀(n:Nat) (s:PS) (us:List Atr) (bs:List Nat) (x:List Atr×List Nat) (s':PS),TKs s->(∀a∈us,HR a.n)->(∀k∈bs,HB d s.bl k)->pD E B n s us bs=.ok x s'->
  K2 s s'/\(∀a∈x.1,HR a.n)/\∀k∈x.2,HB d s'.bl k
 |0,_,_,_,_,_,_,_,_,h=>by cases h
 |n+1,s,us,bs,x,s',i,g,j,h=>by
  simp only[pD]at h
  have b:=qT s [125]
  split at h
  .injection h with t r
   subst t r
   exact⟨b.k2,g,λk c=>by rw[b.bl];exact j k c⟩
  obtain⟨y,e,u,h⟩:=bind_ok h
  obtain⟨g1,g2,g3⟩:=aDS l m (b.tk i) g (λk c=>by rw[b.bl];exact j k c) u
  split at h
  .cases h
  have k3:=(qC e).trans (tQ (bK e))
  have f:=(b.k2.trans g1).trans k3.k2
  obtain⟨q,p,o⟩:=PO l m n _ _ _ x s' (f.tk i) g2 (λk c=>by rw[k3.bl];exact g3 k c) h
  exact⟨f.trans q,p,o⟩
theorem PP(M:KE E)(N:KB d B):KB (d+1) (tU E B):=by
 intro s x s' i h;unfold tU at h;obtain⟨t,T,S,h⟩:=bind_ok h;obtain⟨u,F,D⟩:=Aw S;have tk:xO t:=by rw[F];exact BB i
 obtain⟨ls,C,R,h⟩:=bind_ok h;obtain⟨k2,n,o⟩:=LZ _ _ _ _ _ (u.tk i) (λl I=>by cases I) R;have m:=u.trans k2;split at h
 .cases h
 obtain⟨y,f,Q,h⟩:=bind_ok h;obtain⟨q,G,A,w2,z,w,j,v⟩:=Rl Q;have r:=((m.trans (qC C)).trans A).trans ((oI q).trans (tQ (step1 q)));obtain⟨g1,g2,g3⟩:=PO M N _ _ _ _ _ _ (r.tk i) (λa L=>by cases L) (λk p=>by cases p) z;have g:=r.k2.trans g1;injection h with P O
 subst P O;have H:XB ⟨t.t,ls,y.1,y.2,t.a⟩:=⟨Ui tk D,n,g2,by show ls.length<=5000;have:=i.2;simp only[aD]at o;omega⟩;refine⟨⟨w.trans g.toks,?_,λK b c=>?_,λJ=>by show∀e∈f.ex,XE e;rw[v];exact g.ex J⟩,?_⟩
 .show s.bl<+:f.bl++_;rw[j];exact g.pre.trans (lZ _ _)
 .have c:b∈f.bl++[⟨t.t,ls,y.1,y.2,t.a⟩]:=c;rcases bM.1 c with c|c
  .rw[j]at c;exact g.bl K b c
  .rw[bO]at c;rw[c];exact H
 .refine⟨⟨t.t,ls,y.1,y.2,t.a⟩,?_,λk p=>?_⟩
  .show(f.bl++[_])[f.bl.length]?=_;rw[dB (aQ _),yQ];rfl
  .refine(g3 k p).mono ?_;show G.bl<+:f.bl++_;rw[<-j];exact lZ _ _
def Ma:∀d,KB (d+1) (uN d)
 |0=>PP DZ ZF
 |d+1=>PP (Cd d).1 (Ma d)
def aBO:∀(n:Nat) (s:PS) (top x:List Nat) (s':PS),TKs s->(∀k∈top,HB 25 s.bl k)->wR n s top=.ok x s'->K2 s s'/\∀k∈x,HB 25 s'.bl k
 |0,_,_,_,_,_,_,h=>by cases h
 |n+1,s,top,x,s',e,f,h=>by
  simp only[wR]at h
  have b:=qC s
  split at h
  .injection h with l j
   subst l j
   exact⟨b.k2,λk a=>by rw[b.bl];exact f k a⟩
  obtain⟨y,d,m,h⟩:=bind_ok h
  obtain⟨g1,g2⟩:=Ma 24 _ _ _ (b.tk e) m
  split at h
  .cases h
  have k3:=(qC d).trans (tQ (bK d))
  have c:=(b.k2.trans g1).trans k3.k2
  obtain⟨i,g⟩:=aBO n _ _ x s' (c.tk e) (λk a=>by
   rcases bM.1 a with a|a
   .exact(f k a).mono c.pre
   .rw[bO]at a;rw[a,k3.bl];exact g2) h
  exact⟨c.trans i,g⟩
def Bj{t:Str}{f:Fl}(h:lS t=.ok f):(∀e∈f.ex,XE e)/\(∀b∈f.bl,XB b)/\∀k∈f.top,HB 25 f.bl k:=by
 unfold lS at h;cases d:mS t with
 |bad c a=>rw[d]at h;cases h
 |ok l=>
  rw[d]at h;simp only at h;cases i:wR (l.length+1) (hY ⟨l,0,0,0,false,[],[]⟩) []with
  |err c a=>rw[i]at h;cases h
  |ok top s'=>
   rw[i]at h;injection h with h
   subst h;have j:=tQ ⟨l,0,0,0,false,[],[]⟩;obtain⟨g1,g2⟩:=aBO _ _ _ _ _ (j.tk ⟨Ep d,(wZ d).1⟩) (λk m=>by cases m) i;have g:=j.k2.trans g1;exact⟨g.ex (λe n=>by cases n),g.bl (λb o=>by cases o),g2⟩
end
section
open Go Go.Eng Go.Lex Go.Syn
structure sZ(t:Str):Prop where
 hd:∃c r,t=c::r/\gV c=true
 al:∀d∈t,gY d=true
 le:t.length<=32
structure VX(t:Str):Prop where
 hd:∃c r,t=c::r
 al:∀d∈t,jY d=true
 z:t.headD 0=48->t.length=1
 gd:Num.goodN t=true
structure Eh(t:Tok):Prop where
 name:t.k=1->sZ t.t
 num:t.k=2->VX t.t
def Pm{q:UInt8->Bool}(h:q (s.headD 0)=true)(a:s≠[]):∃c r,s=c::r/\s.take (gD q s)=c::r.take (gD q r)/\gD q s=gD q r+1:=by
 cases s with
 |nil=>exact absurd rfl a
 |cons c r=>
  have h:q c=true:=h;have e:gD q (c::r)=gD q r+1:=by rw[gD,aO h]
  exact⟨c,r,rfl,by rw[e];rfl,e⟩
theorem aFy(h:(mY s).2.2=0):Eh (mY s).1:=by
 have nil:∀q:UInt8->Bool,q 0=false->q (s.headD 0)=true->s≠[]:=λq n f e=>by
  rw[e]at f;exact absurd (n.symm.trans f) (by decide)
 unfold mY at h⊢;simp only at h⊢;split
 .exact⟨λe=>absurd e (show¬(5:Int)=1 by decide),λe=>absurd e (show¬(5:Int)=2 by decide)⟩
 rename_i m;rw[aE m]at h;split
 .rename_i b;rw[aO b]at h;have l:gY (s.headD 0)=true:=by unfold gY;rw[b];rfl
  obtain⟨c,r,k,g,o⟩:=Pm l (nil gY (by decide) l);refine⟨λ_=>⟨⟨c,_,g,?_⟩,λd i=>Al _ _ d i,?_⟩,λe=>absurd e (show¬(1:Int)=2 by decide)⟩
  .rw[k]at b;exact b
  .show(s.take (gD gY s)).length<=32;rw[cG];by_cases j:32<gD gY s
   .simp only at h;rw[aO j]at h;cases h
   .omega
 rename_i b;rw[aE b]at h;split
 .rename_i n3;rw[aO n3]at h;obtain⟨c,r,k,g,o⟩:=Pm n3 (nil jY (by decide) n3);refine⟨λe=>absurd e (show¬(2:Int)=1 by decide),λ_=>?_⟩;simp only at h;split at h
  .cases h
  rename_i n4;split at h
  .rename_i n5;refine⟨⟨c,_,g⟩,λd i=>Al _ _ d i,λa=>?_,n5⟩;have a:(s.take (gD jY s)).headD 0=48:=a;show(s.take (gD jY s)).length=1;rw[g]at a⊢;have a:c=48:=a;subst a;have p:¬1<gD jY s:=λf=>n4 (by
    rw[k]at f⊢;simp only[FG,beq_self_eq_true,eF,gH,fK];exact .inr f)
   rw[aA,cG];omega
  .cases h
 rename_i n3;rw[aE n3]at h;split
 .split
  .exact⟨λe=>absurd e (show¬(3:Int)=1 by decide),λe=>absurd e (show¬(3:Int)=2 by decide)⟩
  .exact⟨λe=>absurd e (show¬(0:Int)=1 by decide),λe=>absurd e (show¬(0:Int)=2 by decide)⟩
 split
 .exact⟨λe=>absurd e (show¬(3:Int)=1 by decide),λe=>absurd e (show¬(3:Int)=2 by decide)⟩
 .exact⟨λe=>absurd e (show¬(4:Int)=1 by decide),λe=>absurd e (show¬(4:Int)=2 by decide)⟩
def Eh.at_{t:Tok}(h:Eh t)(a:Int):Eh ⟨t.k,t.t,a⟩:=⟨h.name,h.num⟩
def Pj:∀(n:Nat) (s:Str) (a cnt:Nat) (l:List Tok),nA n s a cnt=.ok l->∀t∈l,Eh t
 |0,_,_,_,_,h=>by cases h
 |n+1,s,a,cnt,l,h=>by
  rw[BN]at h
  split at h
  .cases h
  split at h
  .injection h with h
   subst h
   intro t b
   rw[bO.1 b]
   exact⟨λe=>absurd e (show¬(0:Int)=1 by decide),λe=>absurd e (show¬(0:Int)=2 by decide)⟩
  split at h
  .cases h
  rename_i f
  split at h
  .cases h
  split at h
  .rename_i g d
   injection h with h
   subst h
   intro t b
   rcases aX.1 b with rfl|b
   .exact(aFy (kI λe=>f e)).at_ _
   .exact Pj n _ _ _ _ d t b
  .rename_i c
   exact absurd h (c _)
def Wz{l:List Tok}(h:mS s=.ok l):∀t∈l,Eh t:=by
 unfold mS at h;split at h
 .cases h
 split at h
 .cases h
 .exact Pj _ _ _ _ _ h
inductive Tp (ex:List Ex):Bool->List Nat->List Str->Prop
 |nil (b:Bool):Tp ex b [] []
 |t {u:Nat} {a:Int} {x:Str} {us:List Nat} {ks:List Str} (h:ex[u]?=some ⟨5,x,[],[],a⟩) (hn:x≠[]) (h':Tp ex false us ks):Tp ex true (u::us) ([116]::ks)
 |e {b:Bool} {u:Nat} {us:List Nat} {ks:List Str} (h:Tp ex true us ks):Tp ex b (u::us) ([101]::ks)
inductive SE (ex:List Ex):Ex->Prop
 |lit {k:Int} (a:Int) (h:k=1\/k=2\/k=3):SE ex ⟨k,[],[],[],a⟩
 |int {t:Str} (a:Int) (h:VX t):SE ex ⟨4,t,[],[],a⟩
 |text {t:Str} (a:Int) (h:Utf t):SE ex ⟨5,t,[],[],a⟩
 |tpl {us:List Nat} {ks:List Str} (a:Int) (h:Tp ex true us ks) (he:[101]∈ks):SE ex ⟨6,[],us,ks,a⟩
 |list (us:List Nat) (a:Int):SE ex ⟨7,[],us,[],a⟩
 |obj {us:List Nat} {ks:List Str} (a:Int) (h:us.length=ks.length) (hn:ks.Nodup) (hu:∀k∈ks,Utf k):SE ex ⟨8,[],us,ks,a⟩
 |name {t:Str} (a:Int) (h:sZ t) (h9:pS t=9) (hf:t≠tX):SE ex ⟨9,t,[],[],a⟩
 |attr {t:Str} (u:Nat) (a:Int) (h:sZ t):SE ex ⟨10,t,[u],[],a⟩
 |index (u v:Nat) (a:Int):SE ex ⟨11,[],[u,v],[],a⟩
 |call {t:Str} (us:List Nat) (a:Int) (h:sZ t) (hf:t≠tX):SE ex ⟨12,t,us,[],a⟩
 |un {k:Int} (u:Nat) (a:Int) (h:k=13\/k=14):SE ex ⟨k,[],[u],[],a⟩
 |bin {k:Int} (u v:Nat) (a:Int) (h:15<=k/\k<=27):SE ex ⟨k,[],[u,v],[],a⟩
 |cond (u v x:Nat) (a:Int):SE ex ⟨28,[],[u,v,x],[],a⟩
 |loop {t:Str} (u v:Nat) (a:Int) (h:sZ t):SE ex ⟨29,t,[u,v],[],a⟩
 |splat {t:Str} (u:Nat) (a:Int) (h:sZ t):SE ex ⟨30,t,[u],[],a⟩
def Tp.mono{ex a:List Ex}(c:ex<+:a):∀{b:Bool} {us:List Nat} {ks:List Str},Tp ex b us ks->Tp a b us ks
 |_,_,_,.nil b=>.nil b
 |_,_,_,.t h d f=>.t (BU c h) d (Tp.mono c f)
 |_,_,_,.e h=>.e (Tp.mono c h)
def SE.mono{ex b:List Ex}(f:ex<+:b){e:Ex}(h:SE ex e):SE b e:=by
 cases h with
 |lit a h=>exact .lit a h
 |int a h=>exact .int a h
 |text a h=>exact .text a h
 |tpl a h i=>exact .tpl a (h.mono f) i
 |list us a=>exact .list us a
 |obj a h g d=>exact .obj a h g d
 |name a h j c=>exact .name a h j c
 |attr u a h=>exact .attr u a h
 |index u v a=>exact .index u v a
 |call us a h c=>exact .call us a h c
 |un u a h=>exact .un u a h
 |bin u v a h=>exact .bin u v a h
 |cond u v x a=>exact .cond u v x a
 |loop u v a h=>exact .loop u v a h
 |splat u a h=>exact .splat u a h
def SA(ex:List Ex):Prop:=∀e∈ex,SE ex e
structure TQ(s:PS):Prop where
 p:∀t∈s.toks,xO t
 q:∀t∈s.toks,Eh t
 ts:TS s.toks
 few:s.toks.length<=4097
def Pi{t:Str}{l:List Tok}(h:mS t=.ok l):(∀t∈l,xO t)/\(∀t∈l,Eh t)/\TS l/\l.length<=4097:=⟨Ep h,Wz h,Dh h,(wZ h).1⟩
structure K3(s s':PS):Prop where
 toks:s'.toks=s.toks
 pre:s.ex<+:s'.ex
 ex:SA s.ex->SA s'.ex
def K3.refl(s:PS):K3 s s:=⟨rfl,mI _,λh=>h⟩
def K3.trans{s s1 b:PS}(h:K3 s s1)(a:K3 s1 b):K3 s b:=⟨a.toks.trans h.toks,h.pre.trans a.pre,λc=>a.ex (h.ex c)⟩
def K3.tk{s s':PS}(h:K3 s s')(a:TQ s):TQ s':=⟨by rw[h.toks];exact a.p,by rw[h.toks];exact a.q,by rw[h.toks];exact a.ts,by rw[h.toks];exact a.few⟩
def K3.of{s s':PS}(b:s'.toks=s.toks)(a:s'.ex=s.ex):K3 s s':=⟨b,by rw[a];exact mI _,λh=>by rw[a];exact h⟩
def sH(s:PS):K3 s (bK s):=K3.of (vI s).1 (vI s).2.2.2.2.1
def oH(s:PS):K3 s (step1 s):=K3.of rfl rfl
def NO(s:PS):K3 s (kP s):=by unfold kP;split;exact(sH s).trans (oH _);exact sH s
def rZ(s:PS)(w:Str):K3 s (cN s w).2:=by unfold cN;split;exact(sH s).trans (oH _);exact sH s
def xX(s:PS):K3 s (hY s):=K3.of (vI s).1 (vI s).2.2.2.2.1
def An{s:PS}{w:Str}{x:Unit}{s':PS}(h:oX s w=.ok x s'):K3 s s':=by
 unfold oX at h;split at h
 .injection h with _ h;rw[<-h];exact(sH s).trans (oH _)
 .cases h
def CC{s:PS}{k:Int}{t:Tok}{s':PS}(h:mT s k=.ok t s'):K3 s s'/\t=cur s/\t.k=k:=by
 unfold mT at h;split at h
 .rename_i a;injection h with c b;subst c b;exact⟨NO s,rfl,a⟩
 .cases h
def NN{s:PS}{e:Ex}(c:SE s.ex e):K3 s {s with ex:=s.ex++[e]}:=by
 refine⟨rfl,lZ _ _,λb y a=>?_⟩;rcases bM.1 a with a|a
 .exact(b y a).mono (lZ _ _)
 .rw[bO.1 a];exact c.mono (lZ _ _)
def xW{s:PS}{e:Ex}{x:Nat}{s':PS}(a:SE s.ex e)(h:qS s e=.ok x s'):K3 s s':=by
 injection h with _ h
 subst h;exact NN a
def BA{s:PS}(h:TQ s):xO (cur s)/\Eh (cur s)/\((cur s).k=3->ES (cur s).t):=by
 unfold cur pH;simp only;rw[aM,(vI s).1];cases b:s.toks[(bK s).i]? with
 |none=>exact⟨⟨⟨.nil,cZ _⟩,λe=>absurd e (show¬(0:Int)=1 by decide),λe=>absurd e (show¬(0:Int)=2 by decide)⟩,⟨λe=>absurd e (show¬(0:Int)=1 by decide),λe=>absurd e (show¬(0:Int)=2 by decide)⟩,λe=>absurd e (show¬(0:Int)=3 by decide)⟩
 |some t=>
  have a:=bA b;exact⟨(h.p t a).at_ _,(h.q t a).at_ _,λe=>(h.ts t a e).1⟩
def sG{s:PS}{q:Bool}{f:PS->R α}{x:α}{s':PS}(h:within s a q f=.ok x s')(e:∀s1 d,K3 s s1->f s1=.ok x d->K3 s1 d):K3 s s':=by
 unfold within at h;split at h
 .cases h
 obtain⟨y,s1,j,c⟩:=bind_ok h;injection c with c i
 subst c i;have g:K3 s {s with deep:=s.deep+1,quiet:=q}:=K3.of rfl rfl;have b:=e _ _ g j;exact⟨b.toks,b.pre,b.ex⟩
def QE(F:PS->R Nat):Prop:=∀s x s',TQ s->F s=.ok x s'->K3 s s'
def Gh:QE dead:=λs x s' _ h=>by cases h
def Pk:∀s:Str,vK s=true->s≠[]->iW s≠[]
 |[],_,h=>absurd rfl h
 |[c],h,_=>by
  simp only[iW]
  split
  .rename_i e
   subst e
   exact absurd h (by decide)
  .simp
 |c::e::r,_,_=>by
  simp only[iW]
  split<;>simp
variable{E S:PS->R Nat}
def Pq(g:QE E){s:PS}{t:Str}{x:Nat}{s':PS}(h:pF E s t a=.ok x s'):K3 s s':=by
 unfold pF at h;cases b:mS t with
 |bad k p=>rw[b]at h;cases h
 |ok l=>
  rw[b]at h;simp only at h;obtain⟨y,q,n,m⟩:=bind_ok h;obtain⟨o,r,j,e⟩:=bind_ok m;injection e with e i
  subst i;obtain⟨t1,t2,t3,t4⟩:=Pi b;have d:=g _ _ _ ⟨t1,t2,t3,t4⟩ n;have c:=(CC j).1;exact⟨rfl,d.pre.trans c.pre,λf=>c.ex (d.ex f)⟩
theorem JM(j:QE E):∀(n:Nat) (s:PS) (rest:Str) (a:Int) (us:List Nat) (ks:List Str) (x:List Nat×List Str) (s':PS),Utf rest->ES rest->mK E n s rest a us ks=.ok x s'->
  K3 s s'/\∃c b,x=(us++c,ks++b)/\Tp s'.ex true c b/\((insP rest).isSome=true->[101]∈b)
 |0,_,_,_,_,_,_,_,_,_,h=>by cases h
 |n+1,s,rest,a,us,ks,x,s',z,G,h=>by
  have get:∀(s:PS) (e:Ex),(s.ex++[e])[s.ex.length]?=some e:=λs e=>by simp
  simp only[mK]at h
  split at h
  .rename_i k
   injection h with p o
   subst p o k
   exact⟨K3.refl _,[],[],by simp,.nil _,λe=>by cases e⟩
  rename_i k
  obtain⟨B,A⟩:=JB G
  split at h
  .rename_i g
   injection h with p o
   subst p o
   refine⟨NN (.text a (tH _ _ (aQ _) z)),[s.ex.length],[[116]],rfl,.t (get s _) (Pk _ (B g) k) (.nil _),λe=>?_⟩
   rw[g]at e;cases e
  .rename_i i e g
   obtain⟨C,w⟩:=PQ z g
   obtain⟨g1,g2,g3,g4⟩:=A i e g
   have f:i<e:=by omega
   by_cases d:0<i
   .rw[aO d,aO d,aO d,aO f]at h
    obtain⟨y,l,v,u⟩:=bind_ok h
    have F:K3 s {s with ex:=s.ex++[⟨5,iW (rest.take i),[],[],a⟩]}:=NN (.text a (tH _ _ (aQ _) C))
    have k2:=sG v λq D _ r=>Pq j r
    obtain⟨k3,c,b,f1,f2,f3⟩:=JM j n l _ _ _ _ x s' w g4 u
    have m:rest.take i≠[]:=λH=>by
     have:=congrArg List.length H
     rw[cG]at this
     simp only[aD]at this
     have:rest.length=0:=by omega
     exact k (cW this)
    refine⟨F.trans (k2.trans k3),s.ex.length::y::c,[116]::[101]::b,by rw[f1];simp,.t (BU (k2.pre.trans k3.pre) (get s _)) (Pk _ g1 m) (.e f2),λ_=>by simp⟩
   .rw[aE d,aE d,aE d,aO f]at h
    obtain⟨y,l,v,u⟩:=bind_ok h
    have k2:=sG v λq D _ r=>Pq j r
    obtain⟨k3,c,b,f1,f2,f3⟩:=JM j n l _ _ _ _ x s' w g4 u
    exact⟨k2.trans k3,y::c,[101]::b,by rw[f1];simp,.e f2,λ_=>by simp⟩
def aCx(d:QE E){s:PS}{t:Tok}{x:Nat}{s':PS}(a:xO t)(b:ES t.t)(h:wS E s t=.ok x s'):K3 s s':=by
 unfold wS at h;split at h
 .rename_i c;obtain⟨y,l,k,j⟩:=bind_ok h;obtain⟨i,us,ks,g,f,e⟩:=JM d _ _ _ _ _ _ _ _ a.ut.1 b k;subst g;exact i.trans (xW (.tpl _ f (e c)) j)
 .exact xW (.text _ (tH _ _ (aQ _) a.ut.1)) h
def JP(g:QE E)(w:Str):∀(n:Nat) (s:PS) (out:List Nat) (x:List Nat) (s':PS),TQ s->qX E w n s out=.ok x s'->K3 s s'
 |0,_,_,_,_,_,h=>by cases h
 |n+1,s,out,x,s',m,h=>by
  simp only[qX]at h
  split at h
  .injection h with _ h;rw[<-h];exact rZ s w
  have a:=(rZ s w).tk m
  split at h
  .obtain⟨y,c,j,b⟩:=bind_ok h
   have e:=g _ _ _ a j
   exact(rZ s w).trans (e.trans (JP g w n c _ x s' (e.tk a) b))
  .obtain⟨y,c,j,b⟩:=bind_ok h
   have e:=An j
   have i:=e.tk a
   have f:=(rZ s w).trans e
   split at b
   .injection b with _ b;rw[<-b];exact f.trans (rZ c w)
   .obtain⟨z,l,p,o⟩:=bind_ok b
    have d:=(rZ c w).tk i
    have k:=g _ _ _ d p
    exact f.trans ((rZ c w).trans (k.trans (JP g w n l _ x s' (k.tk d) o)))
def TA(j:QE E){s:PS}{e:Ex}{s':PS}(g:TQ s)(h:xE E s a=.ok e s'):K3 s s'/\SE s'.ex e:=by
 unfold xE at h;simp only at h;split at h
 .obtain⟨us,H,l,f⟩:=bind_ok h;injection f with f k
  subst f k;have d:=(oH s).trans (sH (step1 s));exact⟨d.trans (JP j _ _ _ _ _ _ (d.tk g) l),.list _ _⟩
 .have d:=((oH s).trans (sH (step1 s))).trans (oH _);obtain⟨t,G,l,h⟩:=bind_ok h;obtain⟨q,n,m⟩:=CC l;have i:Eh t:=by rw[n];exact(BA (d.tk g)).2.1
  obtain⟨u,F,f,h⟩:=bind_ok h;obtain⟨k2,_,_⟩:=CC f;have c:=(d.trans q).trans k2;split at h
  .cases h
  obtain⟨x,D,k,h⟩:=bind_ok h;have k3:=j _ _ _ (c.tk g) k;obtain⟨_,C,z,h⟩:=bind_ok h;have b:=(c.trans k3).trans (An z);obtain⟨y,B,w,h⟩:=bind_ok h;have p:=j _ _ _ (b.tk g) w;obtain⟨_,A,v,h⟩:=bind_ok h;have o:=An v;injection h with r e8
  subst r e8;exact⟨(b.trans p).trans o,.loop _ _ _ (i.name m)⟩
theorem aBI(C:QE E)(a:Int):∀(n:Nat) (s:PS) (us:List Nat) (ks:List Str) (e:Ex) (s':PS),TQ s->us.length=ks.length->ks.Nodup->(∀k∈ks,Utf k)->Ar E a n s us ks=.ok e s'->K3 s s'/\SE s'.ex e
 |0,_,_,_,_,_,_,_,_,_,h=>by cases h
 |n+1,s,us,ks,e,s',u,b,g,i,h=>by
  simp only[Ar]at h
  split at h
  .injection h with r H
   subst r H
   exact⟨rZ s _,.obj a b g i⟩
  have r:=rZ s [125]
  have t:=r.tk u
  have tk:=(BA t).1
  have z:=r.trans (NO (cN s [125]).2)
  obtain⟨k,D,c,h⟩:=bind_ok h
  have A:K3 (kP (cN s [125]).2) D/\Utf k:=by
   split at c
   .unfold qG at c;split at c
    .cases c
    .injection c with o m;rw[<-o,<-m];exact⟨K3.refl _,tH _ _ (aQ _) tk.ut.1⟩
   .split at c
    .injection c with o m;rw[<-o,<-m];exact⟨K3.refl _,tk.ut.1⟩
    .cases c
  have y:=z.trans A.1;split at h
  .cases h
  rename_i w;obtain⟨_,I,o,h⟩:=bind_ok h;have l:=y.trans (An o);obtain⟨x,f,m,h⟩:=bind_ok h;have j:=l.trans (C _ _ _ (l.tk u) m);split at h
  .cases h
  have B:K3 s (hY (if(cN f [44]).1=true then(cN f [44]).2 else bK (cN f [44]).2)):=by
   split
   .exact j.trans ((rZ f _).trans (xX _))
   .exact j.trans ((rZ f _).trans ((sH _).trans (xX _)))
  have v:k∉ks:=λG=>w (CQ.2 G);obtain⟨g1,g2⟩:=aBI C a n _ _ _ e s' (B.tk u) (by simp[b]) (by
   rw[iE];exact⟨g,by simp,λp F q d e=>v (by rw[bO.1 d]at e;exact e▸F)⟩) (λq d=>by
   rcases bM.1 d with d|d
   .exact i q d
   .rw[bO.1 d];exact A.2) h
  exact⟨B.trans g1,g2⟩
theorem aCz(n:QE E):QE (nC E):=by
 intro s x s' k h;obtain⟨A,tk,tx⟩:=BA k;have d:=sH s;unfold nC at h;simp only at h;split at h
 .rename_i j;exact(d.trans (oH _)).trans (xW (.int _ (tk.num j)) h)
 split at h
 .rename_i j;exact(d.trans (oH _)).trans (aCx n A (tx j) h)
 split at h
 .rename_i j;have o:=d.trans (oH (bK s));split at h
  .obtain⟨us,r,b,m⟩:=bind_ok h;have p:=sG b λq f g c=>(oH q).trans (JP n _ _ _ _ _ _ ((oH q).tk (g.tk ((o.trans (sH _)).tk k))) c);exact((o.trans (sH _)).trans p).trans (xW (.call _ _ (tk.name j.1) j.2) m)
  .have D:=IE (cur s).t;refine(o.trans (sH _)).trans (xW ?_ h);by_cases u:pS (cur s).t=9
   .rw[aO u,u];exact .name _ (tk.name j.1) u j.2
   .rw[aE u];exact .lit _ (by omega)
 split at h
 .refine d.trans (sG h λq f g b=>?_);obtain⟨y,C,m,c⟩:=bind_ok b;obtain⟨_,B,i,l⟩:=bind_ok c;injection l with _ l
  subst l;have w:=(oH q).tk (g.tk (d.tk k));exact(oH q).trans ((n _ _ _ w m).trans (An i))
 split at h
 .obtain⟨e,r,b,m⟩:=bind_ok h;have v:SE r.ex e:=by
   unfold within at b;split at b
   .cases b
   obtain⟨y,q,c,i⟩:=bind_ok b;injection i with i l
   subst i l;exact(TA n (s:={bK s with deep:=(bK s).deep+1,quiet:=true}) ((K3.of (s:=bK s) (s':={bK s with deep:=(bK s).deep+1,quiet:=true}) rfl rfl).tk (d.tk k)) c).2
  have p:=sG b λq f g c=>(TA n (g.tk (d.tk k)) c).1;exact(d.trans p).trans (xW v m)
 split at h
 .obtain⟨e,r,b,m⟩:=bind_ok h;have z:∀q f,TQ q->GK E q (cur s).a=.ok e f->K3 q f/\SE f.ex e:=λq f g c=>by
   unfold GK at c;have o:=(oH q).trans (xX (step1 q));obtain⟨g1,g2⟩:=aBI n _ _ _ _ _ _ _ (o.tk g) rfl nY (by simp) c;exact⟨o.trans g1,g2⟩
  have v:SE r.ex e:=by
   unfold within at b;split at b
   .cases b
   obtain⟨y,q,c,i⟩:=bind_ok b;injection i with i l
   subst i l;exact(z {bK s with deep:=(bK s).deep+1,quiet:=false} _ ((K3.of (s:=bK s) (s':={bK s with deep:=(bK s).deep+1,quiet:=false}) rfl rfl).tk (d.tk k)) c).2
  have p:=sG b λq f g c=>(z q f (g.tk (d.tk k)) c).1;exact(d.trans p).trans (xW v m)
 .cases h
theorem JL(i:QE E):∀(n:Nat) (s:PS) (x y:Nat) (s':PS),TQ s->nN E n s x=.ok y s'->K3 s s'
 |0,_,_,_,_,_,h=>by cases h
 |n+1,s,x,y,s',c,h=>by
  simp only[nN]at h
  have k:=sH s
  have t:=k.tk c
  split at h
  .obtain⟨u,B,w,h⟩:=bind_ok h
   obtain⟨p,m,l⟩:=CC w
   have D:=k.trans (rZ (bK s) [46])
   have tk:Eh u:=by rw[m];exact(BA (D.tk c)).2.1
   have j:=D.trans p
   obtain⟨z,A,g,h⟩:=bind_ok h
   have a:=j.trans (xW (.attr _ _ (tk.name l)) g)
   exact a.trans (JL i n _ _ _ _ (a.tk c) h)
  split at h
  .obtain⟨o,B,w,h⟩:=bind_ok h
   have j:K3 s B:=k.trans (sG w λq L G f=>by
    have b:=(oH q).trans (rZ (step1 q) [42])
    have r:=b.tk (G.tk t)
    split at f
    .obtain⟨_,F,e,d⟩:=bind_ok f
     injection d with _ d
     subst d
     exact b.trans (An e)
    .obtain⟨z,M,e,d⟩:=bind_ok f
     obtain⟨_,F,I,v⟩:=bind_ok d
     injection v with _ v
     subst v
     exact b.trans ((i _ _ _ r e).trans (An I)))
   cases o with
   |some q=>
    simp only at h
    obtain⟨z,A,g,h⟩:=bind_ok h
    have a:=j.trans (xW (.index _ _ _) g)
    exact a.trans (JL i n _ _ _ _ (a.tk c) h)
   |none=>
    simp only at h
    obtain⟨_,A,g,h⟩:=bind_ok h
    have a:=j.trans (An g)
    obtain⟨u,K,f,h⟩:=bind_ok h
    obtain⟨p,m,l⟩:=CC f
    have tk:Eh u:=by rw[m];exact(BA (a.tk c)).2.1
    have H:=a.trans p
    obtain⟨z,J,e,h⟩:=bind_ok h
    have C:=H.trans (xW (.splat _ _ (tk.name l)) e)
    exact C.trans (JL i n _ _ _ _ (C.tk c) h)
  .injection h with _ h
   rw[<-h];exact k
def NM(k:QE E)(j:QE S):QE (tE E S):=by
 intro s x s' i h;have d:=sH s;have a:=d.tk i;unfold tE at h;simp only at h;split at h
 .obtain⟨y,m,c,b⟩:=bind_ok h;have f:=d.trans (sG c λq n e g=>(oH q).trans (j _ _ _ ((oH q).tk (e.tk a)) g));exact f.trans (xW (.un _ _ (.inr rfl)) b)
 split at h
 .obtain⟨y,m,c,b⟩:=bind_ok h;have f:=d.trans (sG c λq n e g=>(oH q).trans (j _ _ _ ((oH q).tk (e.tk a)) g));exact f.trans (xW (.un _ _ (.inl rfl)) b)
 .unfold Ct at h;obtain⟨y,o,c,b⟩:=bind_ok h;have l:=d.trans (aCz k _ _ _ a c);exact l.trans (JL k _ _ _ _ _ (l.tk i) b)
def TB{J:PS->R Nat}(d:QE J)(n:Nat):∀(f:Nat) (s:PS) (a x:Nat) (s':PS),TQ s->tR J n f s a=.ok x s'->K3 s s'
 |0,_,_,_,_,_,h=>by cases h
 |f+1,s,a,x,s',c,h=>by
  simp only[tR]at h
  split at h
  .injection h with _ h;rw[<-h];exact sH s
  rename_i i
  have g:=(sH s).trans (oH _)
  obtain⟨b,o,l,h⟩:=bind_ok h
  have j:=g.trans (d _ _ _ (g.tk c) l)
  obtain⟨y,m,k,h⟩:=bind_ok h
  have e:=j.trans (xW (.bin _ _ _ (PL i)) k)
  exact e.trans (TB d n f _ _ _ _ (e.tk c) h)
def JN(c:QE E)(b:QE S):∀m,QE (mU E S m)
 |0=>NM c b
 |m+1=>λs x s' e h=>by
  have h:(mU E S m s).bind (λa d=>tR (mU E S m) (5-m) (s.toks.length+1) d a)=.ok x s':=h
  obtain⟨a,d,i,g⟩:=bind_ok h
  have f:=JN c b m _ _ _ e i
  exact f.trans (TB (JN c b m) _ _ _ _ _ _ (f.tk e) g)
def TD(d:QE E)(j:QE S):QE (yF E S):=by
 intro s x s' f h;unfold yF at h;obtain⟨a,g,v,h⟩:=bind_ok h;have l:=JN d j 6 _ _ _ f v;simp only at h;have e:=l.trans (rZ g [63]);split at h
 .obtain⟨z,A,u,t⟩:=bind_ok h;have k:=e.trans (sG u λq D i r=>by
   have c:=i.tk (e.tk f);obtain⟨y,F,p,o⟩:=bind_ok r;have g1:=d _ _ _ c p;obtain⟨_,C,n,e8⟩:=bind_ok o;have g2:=g1.trans (An n);obtain⟨w,B,m,b⟩:=bind_ok e8;injection b with _ b
   subst b;exact g2.trans (d _ _ _ (g2.tk c) m))
  exact k.trans (xW (.cond _ _ _ _) t)
 .injection h with _ h
  rw[<-h];exact e
def Dn:∀d,QE (mM d).1/\QE (mM d).2
 |0=>⟨TD Gh Gh,NM Gh Gh⟩
 |d+1=>⟨TD (Dn d).1 (Dn d).2,NM (Dn d).1 (Dn d).2⟩
end
section
open Go Go.Eng Go.Lex Go.Syn
structure SB(b:Blk):Prop where
 ty:sZ b.typ
 lb:∀s∈b.labels,Utf s
 at_:∀a∈b.attrs,sZ a.n
structure K4(s s':PS):Prop where
 k3:K3 s s'
 bl:(∀b∈s.bl,SB b)->∀b∈s'.bl,SB b
def K4.trans{s s1 a:PS}(h:K4 s s1)(b:K4 s1 a):K4 s a:=⟨h.k3.trans b.k3,λc=>b.bl (h.bl c)⟩
def K4.of{s s':PS}(h:K3 s s')(a:s'.bl=s.bl):K4 s s':=⟨h,λh=>by rw[a];exact h⟩
variable{E B:PS->R Nat}
def QB(F:PS->R Nat):Prop:=∀s x s',TQ s->F s=.ok x s'->K4 s s'
def Ly:∀(n:Nat) (s:PS) (ls:List Str) (x:List Str) (s':PS),TQ s->(∀l∈ls,Utf l)->pL n s ls=.ok x s'->K3 s s'/\s'.bl=s.bl/\∀l∈x,Utf l
 |0,_,_,_,_,_,_,h=>by cases h
 |n+1,s,ls,x,s',e,f,h=>by
  simp only[pL]at h
  split at h
  .obtain⟨l,d,c,o⟩:=bind_ok h
   have g:=NO s
   have p:(kP s).bl=s.bl:=(Kq s).bl
   have b:K3 (kP s) d/\d.bl=(kP s).bl/\Utf l:=by
    unfold qG at c;split at c
    .cases c
    .injection c with k j;rw[<-k,<-j];exact⟨K3.refl _,rfl,tH _ _ (aQ _) (BA e).1.ut.1⟩
   have k2:=g.trans b.1;obtain⟨g1,g2,g3⟩:=Ly n d _ x s' (k2.tk e) (λm a=>by
    rcases bM.1 a with a|a
    .exact f m a
    .rw[bO.1 a];exact b.2.2) o
   exact⟨k2.trans g1,g2.trans (b.2.1.trans p),g3⟩
  .injection h with b i
   rw[<-b,<-i];exact⟨sH s,(qC s).bl,f⟩
def aCy(q:QB E)(r:QB B){s:PS}{us:List Atr}{x:List Atr×List Nat}{s':PS}(d:TQ s)(j:∀a∈us,sZ a.n)(h:vX E B s us u=.ok x s'):K4 s s'/\∀a∈x.1,sZ a.n:=by
 unfold vX at h;obtain⟨t,b,k,h⟩:=bind_ok h;obtain⟨p,o,m⟩:=CC k;have v:=(Aw k).1.bl;have tk:Eh t:=by rw[o];exact(BA d).2.1
 have k2:K4 s (cN b [61]).2:=K4.of (p.trans (rZ b [61])) ((qT b [61]).bl.trans v);split at h
 .obtain⟨y,l,g,h⟩:=bind_ok h;have k3:=k2.trans (q _ _ _ (k2.k3.tk d) g);injection h with f e
  subst f e;refine⟨k3,λa c=>?_⟩;rcases bM.1 c with c|c
  .exact j a c
  .rw[bO.1 c];exact tk.name m
 .obtain⟨y,l,g,h⟩:=bind_ok h;have k3:K4 s {(cN b [61]).2 with i:=(cN b [61]).2.i-1}:=k2.trans (K4.of (K3.of rfl rfl) rfl);have g1:=r _ _ _ (k3.k3.tk d) g;injection h with f e
  subst f e;exact⟨k3.trans g1,j⟩
def JO(g:QB E)(i:QB B):∀(n:Nat) (s:PS) (us:List Atr) (bs:List Nat) (x:List Atr×List Nat) (s':PS),TQ s->(∀a∈us,sZ a.n)->pD E B n s us bs=.ok x s'->K4 s s'/\∀a∈x.1,sZ a.n
 |0,_,_,_,_,_,_,_,h=>by cases h
 |n+1,s,us,bs,x,s',f,e,h=>by
  simp only[pD]at h
  have c:K4 s (cN s [125]).2:=K4.of (rZ s [125]) (qT s [125]).bl
  split at h
  .injection h with m l
   subst m l
   exact⟨c,e⟩
  obtain⟨y,b,o,h⟩:=bind_ok h
  obtain⟨g1,g2⟩:=aCy g i (c.k3.tk f) e o
  split at h
  .cases h
  have k3:K4 b (hY (bK b)):=K4.of ((sH b).trans (xX (bK b))) ((qC b).trans (tQ (bK b))).bl
  have d:=(c.trans g1).trans k3
  obtain⟨k,j⟩:=JO g i n _ _ _ x s' (d.k3.tk f) g2 h
  exact⟨d.trans k,j⟩
def QU{s:PS}{q:Bool}{f:PS->R α}{x:α}{s':PS}(h:within s a q f=.ok x s')(e:∀s1 d,K4 s s1->f s1=.ok x d->K4 s1 d):K4 s s':=by
 unfold within at h;split at h
 .cases h
 obtain⟨y,s1,i,c⟩:=bind_ok h;injection c with c g
 subst c g;have b:=e {s with deep:=s.deep+1,quiet:=q} _ (K4.of (K3.of rfl rfl) rfl) i;exact⟨⟨b.k3.toks,b.k3.pre,b.k3.ex⟩,b.bl⟩
def Pr(u:QB E)(v:QB B):QB (tU E B):=by
 intro s x s' g h;unfold tU at h;obtain⟨t,M,w,h⟩:=bind_ok h;obtain⟨r,D,C⟩:=CC w;have tk:Eh t:=by rw[D];exact(BA g).2.1
 obtain⟨ls,e,L,h⟩:=bind_ok h;obtain⟨k2,j,i⟩:=Ly _ _ _ _ _ (r.tk g) (λl H=>by cases H) L;have c:K4 s (bK e):=K4.of ((r.trans k2).trans (sH e)) ((qC e).bl.trans (j.trans (Aw w).1.bl));split at h
 .cases h
 obtain⟨y,A,f,h⟩:=bind_ok h;have F:∀a∈y.1,sZ a.n:=by
  unfold within at f;split at f
  .cases f
  obtain⟨z,q,o,m⟩:=bind_ok f;injection m with m _
  subst m;exact(JO u v _ _ _ _ _ _ (((K3.of (s:=bK e) (s':={bK e with deep:=(bK e).deep+1,quiet:=false}) rfl rfl).trans ((oH _).trans (xX _))).tk (c.k3.tk g)) (λa k=>by cases k) o).2
 have k3:=c.trans (QU f λq N G o=>by
  have p:K4 q (hY (step1 q)):=K4.of ((oH q).trans (xX _)) ((oI q).trans (tQ _)).bl;exact p.trans (JO u v _ _ _ _ _ _ (p.k3.tk (G.k3.tk (c.k3.tk g))) (λa k=>by cases k) o).1)
 injection h with K J
 subst K J;refine⟨⟨k3.k3.toks,k3.k3.pre,k3.k3.ex⟩,λI b d=>?_⟩;have d:b∈A.bl++[⟨t.t,ls,y.1,y.2,t.a⟩]:=d;rcases bM.1 d with d|d
 .exact k3.bl I b d
 .rw[bO.1 d];exact⟨tk.name C,i,F⟩
def Qh:QB dead:=λs x s' _ h=>by cases h
def WN(d:Nat):QB (mM d).1:=λs x s' a h=>K4.of ((Dn d).1 s x s' a h) ((Cd d).1 s x s' ⟨a.p,a.few⟩ h).bl
def Lz:∀d,QB (uN d)
 |0=>Pr Qh Qh
 |d+1=>Pr (WN d) (Lz d)
def aBH:∀(n:Nat) (s:PS) (top x:List Nat) (s':PS),TQ s->wR n s top=.ok x s'->K4 s s'
 |0,_,_,_,_,_,h=>by cases h
 |n+1,s,top,x,s',d,h=>by
  simp only[wR]at h
  have b:K4 s (bK s):=K4.of (sH s) (qC s).bl
  split at h
  .injection h with f e
   subst f e
   exact b
  obtain⟨y,a,g,h⟩:=bind_ok h
  have g1:=Lz 24 _ _ _ (b.k3.tk d) g
  split at h
  .cases h
  have c:=(b.trans g1).trans (K4.of (s':=hY (bK a)) ((sH a).trans (xX (bK a))) ((qC a).trans (tQ (bK a))).bl)
  exact c.trans (aBH n _ _ x s' (c.k3.tk d) h)
def Bm{t:Str}{f:Fl}(h:lS t=.ok f):SA f.ex/\∀b∈f.bl,SB b:=by
 unfold lS at h;cases d:mS t with
 |bad c a=>rw[d]at h;cases h
 |ok l=>
  rw[d]at h;simp only at h;cases i:wR (l.length+1) (hY ⟨l,0,0,0,false,[],[]⟩) []with
  |err c a=>rw[i]at h;cases h
  |ok top s'=>
   rw[i]at h;injection h with h
   subst h;obtain⟨t1,t2,t3,t4⟩:=Pi d;have j:K4 ⟨l,0,0,0,false,[],[]⟩ (hY ⟨l,0,0,0,false,[],[]⟩):=K4.of (xX _) (tQ _).bl;have g:=j.trans (aBH _ _ _ _ _ (j.k3.tk ⟨t1,t2,t3,t4⟩) i);exact⟨g.k3.ex (λe k=>by cases k),g.bl (λb m=>by cases m)⟩
end
end Go.Proofs.YtjblfcfdeaagpaaGreatDoor
