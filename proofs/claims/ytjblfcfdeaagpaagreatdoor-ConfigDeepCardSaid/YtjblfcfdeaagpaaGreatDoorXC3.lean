/- One plain sentence: contracts and plain laws that the claim rests on. Conditions: those that each states. -/
import Derived.Test.YtjblfcfdeaagpaaGreatDoorXC2
import Derived.Test.YtjblfcfdeaagpaaGreatDoorXC1
set_option linter.all false
set_option linter.unusedSimpArgs false
set_option linter.unusedVariables false
set_option linter.unusedSectionVars false
set_option maxRecDepth 100000
namespace Go.Proofs.YtjblfcfdeaagpaaGreatDoor
section
open Go Go.Eng Go.RowKit Go.Syn Go.Lex
variable{w:World}{K:Q0}{cs:List Value}{G:Nat->Prop}{T:TypeId}{i:Nat}{n:Nat}{v:Value}{w':World}{P:Program}{c:UInt8}{S:Nat->Prop}
def mL(rest:Str):Nat×Nat:=match Syn.insP rest with|some x=>x|none=>(rest.length,rest.length)
def uS(s:PS)(rest:Str)(a:Int):PS:=if 0<(mL rest).1 then{s with ex:=s.ex++[⟨5,jB (rest.take (mL rest).1),[],[],a⟩]}else s
theorem Gz{E:PS->R Nat}{s:PS}{rest:Str}{a:Int}{av:List Nat}{ks:List Str}(o:rest≠[])(I:rest.length<n+1):
  nD E (n+1) s rest a av ks=
   (if(mL rest).1<(mL rest).2 then(within (uS s rest a) (a+(mL rest).1) false λq=>oP E q ((rest.drop ((mL rest).1+2)).take ((mL rest).2-1-((mL rest).1+2))) (a+(mL rest).1+2)).bind λx s2=>
     nD E n s2 (rest.drop (mL rest).2) (a+(mL rest).2) ((if 0<(mL rest).1 then av++[s.ex.length]else av)++[x]) ((if 0<(mL rest).1 then ks++[[116]]else ks)++[[101]])
   else nD E n (uS s rest a) (rest.drop (mL rest).2) (a+(mL rest).2) (if 0<(mL rest).1 then av++[s.ex.length]else av) (if 0<(mL rest).1 then ks++[[116]]else ks)):=by
 simp only[nD];rw[aJ o];have j:0<rest.length:=gY.2 o;unfold mL uS mL;cases hi:Syn.insP rest with
 |none=>
  simp only;rw[aJ (Nat.lt_irrefl _),aO j,aO j,aO j,fZ,eQ];obtain⟨m,rfl⟩:∃m,n=m+1:=⟨n-1,by omega⟩;simp only[nD,pH]
 |some x=>rfl
theorem QB{rest:Str}(j:Dt rest):(mL rest).1<=rest.length/\(mL rest).2<=rest.length/\rY (rest.take (mL rest).1)=true/\Dt (rest.drop (mL rest).2)/\((mL rest).1<(mL rest).2->(mL rest).1+3<=(mL rest).2)/\(rest≠[]->0<(mL rest).2)/\(mL rest).1<=(mL rest).2:=by
 obtain⟨I,o⟩:=HQ j;unfold mL;cases hi:Syn.insP rest with
 |none=>
  simp only;exact⟨aY _,aY _,by rw[eQ];exact I hi,by rw[fZ];exact .inl rfl,λe=>absurd e (Nat.lt_irrefl _),λh=>gY.2 h,aY _⟩
 |some x=>
  obtain⟨a,b,c,d⟩:=o x.1 x.2 hi;simp only;exact⟨by omega,c,a,d,λ_=>b,λ_=>by omega,by omega⟩
section
variable [HX]
variable{w0 w w' w1:World}{p f b:Nat}{M M':Lay}{vt:Value}{s:PS}{top:List Nat}{N:Int}{K:Q0}
abbrev PpT:TypeId:=89
structure TL(w0 w:World)(p f:Nat)(M:Lay)(vt:Value)(B1 b2 b7 b8 b9:Nat)(ta:Int)(rest:Str)(a:Int)(va vk:Value)(av:List Nat)(ks:List Str):Prop where
 l2:Loc w0 w p f M vt b2 PpT [.pointer (some ⟨p,0,none⟩)]
 l7:Loc w0 w p f M vt b7 ExT [i64 6,str [],va,vk,i64 ta]
 l8:Loc w0 w p f M vt b8 StT [str rest]
 l9:Loc w0 w p f M vt b9 lC [i64 a]
 rA:Ro w0 w p f M vt B1 lC 1 va av.length (ints av)
 rK:Ro w0 w p f M vt B1 StT 1 vk ks.length (strs ks)
 dd:∀k,va.ownBlock=some k->vk.ownBlock≠some k
 lt:b2<B1/\b7<B1/\b8<B1/\b9<B1/\B1<=w.heap.size
 ne:b2≠b7/\b2≠b8/\b2≠b9/\b7≠b8/\b7≠b9/\b8≠b9
section
variable{B1 b2 b7 b8 b9:Nat}{ta:Int}{rest:Str}{a:Int}{va vk:Value}{av:List Nat}{ks:List Str}
theorem TL.eff(h:TL w0 w p f M vt B1 b2 b7 b8 b9 ta rest a va vk av ks)(j:Eff p f M M' w w'):TL w0 w' p f M' vt B1 b2 b7 b8 b9 ta rest a va vk av ks:=
 ⟨h.l2.eff j,h.l7.eff j,h.l8.eff j,h.l9.eff j,h.rA.eff j,h.rK.eff j,h.dd,⟨h.lt.1,h.lt.2.1,h.lt.2.2.1,h.lt.2.2.2.1,dI h.lt.2.2.2.2 j.chg.size⟩,h.ne⟩
theorem TL.ext(h:TL w0 w p f M vt B1 b2 b7 b8 b9 ta rest a va vk av ks)(j:Ext w w'):TL w0 w' p f M vt B1 b2 b7 b8 b9 ta rest a va vk av ks:=h.eff (Eff.ext j)
theorem TL.one(h:TL w0 w p f M vt B1 b2 b7 b8 b9 ta rest a va vk av ks)(j:Chg (One b) w w')(hb:B1<=b)(I:va.ownBlock≠some b)(o:vk.ownBlock≠some b):TL w0 w' p f M vt B1 b2 b7 b8 b9 ta rest a va vk av ks:=by
 obtain⟨q1,q2,q3,q4,q5⟩:=h.lt;exact⟨h.l2.one j (by omega),h.l7.one j (by omega),h.l8.one j (by omega),h.l9.one j (by omega),h.rA.one j I,h.rK.one j o,h.dd,⟨q1,q2,q3,q4,dI q5 j.size⟩,h.ne⟩
theorem TL.noA(h:TL w0 w p f M vt B1 b2 b7 b8 b9 ta rest a va vk av ks){k:Nat}(j:k<B1):va.ownBlock≠some k/\vk.ownBlock≠some k:=
 ⟨λe=>by have:=h.rA.new k e;omega,λe=>by have:=h.rK.new k e;omega⟩
theorem TL.args{w2 w3:World}{va':Value}{x:Nat}(h:TL w0 w p f M vt B1 b2 b7 b8 b9 ta rest a va vk av ks)(J:Ro w0 w2 p f M vt B1 lC 1 va' (av++[x]).length (ints (av++[x])))(o:Chg (λk=>va.ownBlock=some k) w w2)(U:∀k,va'.ownBlock=some k->va.ownBlock=some k\/w.heap.size<=k)
  (j:Chg (One b7) w2 w3)(hb:w3.heap[b7]?=some (.cells [i64 6,str [],va',vk,i64 ta].toArray ExT (0,0))):TL w0 w3 p f M vt B1 b2 b7 b8 b9 ta rest a va' vk (av++[x]) ks:=by
 obtain⟨q1,q2,q3,q4,q5⟩:=h.lt;obtain⟨n1,n2,n3,n4,n5,n6⟩:=h.ne;have z:=j.size;have o7:=((h.l7.row o (h.noA q2).1).2).up z;refine⟨(h.l2.row o (h.noA q1).1).one j n1,⟨hb,o7⟩,(h.l8.row o (h.noA q3).1).one j (jS n4),(h.l9.row o (h.noA q4).1).one j (jS n5),J.one j λe=>by have:=J.new b7 e;omega,
  (h.rK.row o λk I e=>h.dd k e I).one j (h.noA q2).2,λk I=>?_,⟨q1,q2,q3,q4,dI q5 (dI o.size z)⟩,h.ne⟩
 rcases U k I with e|e
 ·exact h.dd k e
 ·intro e';have:=(h.rK.off k e').1.2;omega
theorem TL.keys{w2 w3:World}{vk':Value}{x:Str}(h:TL w0 w p f M vt B1 b2 b7 b8 b9 ta rest a va vk av ks)(J:Ro w0 w2 p f M vt B1 StT 1 vk' (ks++[x]).length (strs (ks++[x])))(o:Chg (λk=>vk.ownBlock=some k) w w2)(U:∀k,vk'.ownBlock=some k->vk.ownBlock=some k\/w.heap.size<=k)
  (j:Chg (One b7) w2 w3)(hb:w3.heap[b7]?=some (.cells [i64 6,str [],va,vk',i64 ta].toArray ExT (0,0))):TL w0 w3 p f M vt B1 b2 b7 b8 b9 ta rest a va vk' av (ks++[x]):=by
 obtain⟨q1,q2,q3,q4,q5⟩:=h.lt;obtain⟨n1,n2,n3,n4,n5,n6⟩:=h.ne;have z:=j.size;have o7:=((h.l7.row o (h.noA q2).2).2).up z;refine⟨(h.l2.row o (h.noA q1).2).one j n1,⟨hb,o7⟩,(h.l8.row o (h.noA q3).2).one j (jS n4),(h.l9.row o (h.noA q4).2).one j (jS n5),(h.rA.row o λk I e=>h.dd k I e).one j (h.noA q2).1,
  J.one j λe=>by have:=J.new b7 e;omega,λk I e'=>?_,⟨q1,q2,q3,q4,dI q5 (dI o.size z)⟩,h.ne⟩
 rcases U k e' with e|e
 ·exact h.dd k I e
 ·have:=(h.rA.off k I).1.2;omega
theorem TL.appA{x:Nat}{r:Nat}{ty:TypeId}{KW:World->Prop}(h:TL w0 w p f M vt B1 b2 b7 b8 b9 ta rest a va vk av ks)(hp:PR w0 w p f M vt s top)(hr:w.heap[r]?=some (.cells [i64 (x:Nat)].toArray lC (0,0)))(hn:av.length<=1000000)
  (hK:∀va' w',TL w0 w' p f M vt B1 b2 b7 b8 b9 ta rest a va' vk (av++[x]) ks->PR w0 w' p f M vt s top->Chg (λk=>va.ownBlock=some k\/k=b7) w w'->(∀k,va'.ownBlock=some k->va.ownBlock=some k\/w.heap.size<=k)->KW w'):
  fH P0 (Builtin.append_ #[26,26] ty #[va,.slice (some ⟨r,0,none⟩) 1 1]) w λt62 w36=>aZ 2 (.pointer (some ⟨b7,0,none⟩)) λt63=>stW 1 t63 t62 w36 KW:=by
 obtain⟨q1,q2,q3,q4,q5⟩:=h.lt;refine Ro.app AP h.rA hp hr rfl (λu hu=>by simp only[bR]at hu;subst hu;rfl) hn (by decide) q5 λv' w2 J I U o=>?_;have e1:(av++[x]).length=av.length+1:=by simp
 have e2:ints (av++[x])=ints av++[i64 (x:Nat)]:=by simp[ints]
 rw[<-e1,<-e2]at J;rw[bD,bG,aH];obtain⟨vp,vc,ev,_⟩:=J.own.sl.shape;refine(h.l7.row I (h.noA q2).1).st (by rw[ev];rfl) (by simp) λw3 L3 j hh=>?_;exact hK v' w3 (h.args J I U j (by rw[L3.1];rfl)) (o.one j ⟨⟨L3.2.1.1,by have:=L3.2.1.2;omega⟩,L3.2.2⟩) ((I.mono λk _ e=>.inl e).trans (j.mono λk _ e=>.inr e)) U
theorem TL.appK{x:Str}{r:Nat}{ty:TypeId}{KW:World->Prop}(h:TL w0 w p f M vt B1 b2 b7 b8 b9 ta rest a va vk av ks)(hp:PR w0 w p f M vt s top)(hr:w.heap[r]?=some (.cells [str x].toArray StT (0,0)))(hn:ks.length<=1000000)
  (hK:∀vk' w',TL w0 w' p f M vt B1 b2 b7 b8 b9 ta rest a va vk' av (ks++[x])->PR w0 w' p f M vt s top->Chg (λk=>vk.ownBlock=some k\/k=b7) w w'->(∀k,vk'.ownBlock=some k->vk.ownBlock=some k\/w.heap.size<=k)->KW w'):
  fH P0 (Builtin.append_ #[33,33] ty #[vk,.slice (some ⟨r,0,none⟩) 1 1]) w λt62 w36=>aZ 3 (.pointer (some ⟨b7,0,none⟩)) λt63=>stW 1 t63 t62 w36 KW:=by
 obtain⟨q1,q2,q3,q4,q5⟩:=h.lt;refine Ro.app CK h.rK hp hr rfl (λu hu=>by simp only[bR]at hu;subst hu;rfl) hn (by decide) q5 λv' w2 J I U o=>?_;have e1:(ks++[x]).length=ks.length+1:=by simp
 have e2:strs (ks++[x])=strs ks++[str x]:=by simp[strs]
 rw[<-e1,<-e2]at J;rw[bD,bG,aH];obtain⟨vp,vc,ev,_⟩:=J.own.sl.shape;refine(h.l7.row I (h.noA q2).2).st (by rw[ev];rfl) (by simp) λw3 L3 j hh=>?_;exact hK v' w3 (h.keys J I U j (by rw[L3.1];rfl)) (o.one j ⟨⟨L3.2.1.1,by have:=L3.2.1.2;omega⟩,L3.2.2⟩) ((I.mono λk _ e=>.inl e).trans (j.mono λk _ e=>.inr e)) U
theorem TU{E:PS->R Nat}{dl e b10 b11:Nat}{M0:Lay}{wb:World}(ho:Eff p f M0 M wb w)(xa:wb.heap.size<=b7)(hz:wb.heap.size<=B1)(hS:xI w0 f)(hE:EC w0 f 118 E dl)(hF:rQ E)(h:PR w0 w p f M vt s top)(hg:Gd N s dl)(hT:TL w0 w p f M vt B1 b2 b7 b8 b9 ta rest a va vk av ks)
  (l10:Loc w0 w p f M vt b10 lC [i64 (i:Nat)])(l11:Loc w0 w p f M vt b11 lC [i64 (e:Nat)])(n10:va.ownBlock≠some b10/\vk.ownBlock≠some b10/\b10≠b7)(n11:va.ownBlock≠some b11/\vk.ownBlock≠some b11/\b11≠b7)
  (xd:i+3<=e)(xe:e<=rest.length)(h0:0<=a)(h1:a+rest.length+1<=N)(hh:Syn.phi s+(e-1-(i+2))<=100000)(hn:av.length<=1000000)
  (hK:∀x s',oP E s ((rest.drop (i+2)).take (e-1-(i+2))) (a+i+2)=.ok x s'->∀M' va' w',PR w0 w' p f M' vt s' top->Eff p f M0 M' wb w'->TL w0 w' p f M' vt B1 b2 b7 b8 b9 ta rest a va' vk (av++[x]) ks->
    Loc w0 w' p f M' vt b10 lC [i64 (i:Nat)]->Loc w0 w' p f M' vt b11 lC [i64 (e:Nat)]->(va'.ownBlock≠some b10/\va'.ownBlock≠some b11)->K (.tuple #[]) w')
  (ht:∀c a',oP E s ((rest.drop (i+2)).take (e-1-(i+2))) (a+i+2)=.err c a'->Thr w0 f c a'):
  aI P0 256 [.pointer (some ⟨b7,0,none⟩),.pointer (some ⟨b2,0,none⟩),.pointer (some ⟨b8,0,none⟩),.pointer (some ⟨b10,0,none⟩),.pointer (some ⟨b11,0,none⟩),.pointer (some ⟨b9,0,none⟩)] w K:=by
 refine Rk ?_;unfold XW;have hN:=hg.hN;have T1:=hT.ext (cP w);have hq:=h.drew;have k10:=l10.drew;have k11:=l11.drew;rw[bD,bG,aH];refine T1.l7.ld rfl ?_;refine T1.l2.ld rfl ?_;refine T1.l8.ld rfl ?_;refine k10.ld rfl ?_;rw[cG,fE (by omega) (by omega)];refine k11.ld rfl ?_;rw[fU,fE (by omega) (by omega),eF,eD];refine⟨by omega,by omega,?_⟩;rw[eD];refine⟨by omega,by omega,?_⟩;refine T1.l9.ld rfl ?_;refine k10.ld rfl ?_;rw[cG,fE (by omega) (by omega),cG,fE (by omega) (by omega)];have et:(rest.take ((e:Int)-1).toNat).drop ((i:Int)+2).toNat=(rest.drop (i+2)).take (e-1-(i+2)):=by
  rw[show((e:Int)-1).toNat=e-1 by omega,show((i:Int)+2).toNat=i+2 by omega,List.drop_take]
 rw[et];have J:((rest.drop (i+2)).take (e-1-(i+2))).length=e-1-(i+2):=by rw[cO,aR];omega
 refine QC hS hE hF hq hg (by omega) (by rw[J];omega) (by rw[J];exact hh) (λx s' hx M' w2 h2 I=>?_) ht;have T2:=T1.eff I;have ld7:∀{w3:World},TL w0 w3 p f M' vt B1 b2 b7 b8 b9 ta rest a va vk av ks->ldW false 1 (.pointer (some ⟨b7,2,none⟩)) w3 λx=>x=va:=λT=>T.l7.ld rfl rfl;refine⟨ld7 T2,?_⟩;refine lM λr w3 hr hv hi j=>?_;have T3:=T2.ext j;refine⟨ld7 T3,?_⟩;refine T3.appA (h2.ext j) hi hn λva' w4 T4 h4 o hc=>?_;have U:=(Eff.ext (cP w)).trans (I.x j);have z3:=U.chg.size;have j10:=(k10.eff I).ext j;have j11:=(k11.eff I).ext j;have b7o:=T3.l7.2;have hj:Eff p f M0 M' wb w4:=(ho.trans U).then o λk hk e=>by
  rcases e with e|e
  ·have:=hT.rA.new k e;omega
  ·omega
 exact hK x s' hx M' va' w4 h4 hj T4 ⟨o.at j10.1 λe=>e.elim n10.1 n10.2.2,j10.2.up o.size⟩ ⟨o.at j11.1 λe=>e.elim n11.1 n11.2.2,j11.2.up o.size⟩ ⟨λe=>(hc _ e).elim n10.1 λe=>by have:=j10.lt;omega,λe=>(hc _ e).elim n11.1 λe=>by have:=j11.lt;omega⟩
end
end
def LD(w:World)(b:Nat):Nat:=match w.heap[b]? with|some (.cells c _ _)=>(match(c[0]?:Option Value)with|some (Value.string t)=>t.size|_=>0)|_=>0
section
variable [HX]
variable{w0 w w' w1:World}{p f b:Nat}{M M':Lay}{vt:Value}{s:PS}{top:List Nat}{N:Int}{K:Q0}
theorem Loc.strat{rest:Str}(h:Loc w0 w p f M vt b StT [str rest]):LD w b=rest.length:=by
 unfold LD;rw[h.1];simp[jG]
theorem uG{K:Q0}(o:jD v=true)(h:∀a w',a=w.heap.size->w'.heap.size=w.heap.size+1->w'.heap[a]?=some (.cells [v].toArray T (0,0))->Ext w w'->K (.pointer (some ⟨a,0,none⟩)) w'):jI T v w K:=by
 have j:v.cells=#[v]:=by cases v<;>first|rfl|(simp[jD]at o)
 unfold jI;rw[j];exact h _ _ rfl (by simp) (jY _ _ _ rfl) (Chg.alloc (Chg.refl _ _) _)
theorem Gd.put{N:Int}{s:PS}{dl:Nat}(h:Gd N s dl){e:Ex}(j:Syn.phi s+1<=100000):Gd N {s with ex:=s.ex++[e]} dl:=⟨⟨h.ws.tg,h.ws.lt,h.ws.pN⟩,h.hN,h.few,h.ts,dI (mB s e) j,h.lev⟩
theorem Gs{M0:Lay}{wb:World}{l:Str}{a:Int}(h:PR w0 w p f M vt s top)(he:Eff p f M0 M wb w)(I:s.ex.length<=1000000)
  (hK:∀M' w',PR w0 w' p f M' vt {s with ex:=s.ex++[⟨5,l,[],[],a⟩]} top->Eff p f M0 M' wb w'->(∀b T cs,Loc w0 w p f M vt b T cs->Loc w0 w' p f M' vt b T cs)->(∀wb T m v n xs,Ro w0 w p f M vt wb T m v n xs->Ro w0 w' p f M' vt wb T m v n xs)->w.heap.size<=w'.heap.size->K (i64 (s.ex.length:Nat)) w'):
  aI P0 158 [.pointer (some ⟨p,0,none⟩),.agg [i64 5,str l,.slice none 0 0,.slice none 0 0,i64 a].toArray] w K:=by
 have j:ub [i64 5,str l,.slice none 0 0,.slice none 0 0,i64 a]=[]:=rfl;refine Ih (M0:=M) (wb:=w) (e:=⟨5,l,[],[],a⟩) h (Eff.refl _ _ _ _) ⟨.slice none 0 0,.slice none 0 0,rfl,⟨by simp[ints],.inl ⟨rfl,rfl⟩⟩,⟨by simp[strs],.inl ⟨rfl,rfl⟩⟩⟩ (by rw[j];intro k U;cases U) (by rw[j];exact mM) (by rw[j];intro k U;cases U) I λM' w' h' o J=>?_;exact hK M' w' h' (he.trans o) (λb T cs hL=>J b T cs hL (by rw[j];exact bQ)) (λwb T m v n xs hR=>hR.eff o) o.chg.size
theorem TV{E:PS->R Nat}{dl:Nat}{t:Tok}(hS:xI w0 f)(hE:∀d,dl=d+1->EC w0 f 118 E d)(hF:rQ E)(h:PR w0 w p f M vt s top)(hg:Gd N s dl)(hx:Dt t.t)(hl:t.t.length<=100000)
  (ha:0<=t.a/\t.a<=N)(zo:FM N t.a t.t)(zq:Syn.phi s+wt {t with k:=3}<=100000)
  (hK:∀x s',yI E s t=.ok x s'->∀M' w',PR w0 w' p f M' vt s' top->Eff p f M M' w w'->K (i64 (x:Nat)) w')(ht:∀c a',yI E s t=.err c a'->Thr w0 f c a'):
  aI P0 232 [.pointer (some ⟨p,0,none⟩),.agg (iT t).toArray] w K:=by
 refine Rw ?_;unfold Yf;have hN:=hg.hN;refine uG rfl λb2 w1 vh uo ud zk=>?_;have h1:=h.ext zk;have L1:=h.loc uo vh ud;refine fX (z:=iT t) λb3 w2 vg um uc yt=>?_;have h2:=h1.ext yt;have L12:=L1.ext yt;have L2:=h1.loc um vg uc;have zx:Eff p f M M w w2:=(Eff.ext zk).x yt;refine L2.ldf rfl ?_;refine wW (by omega) ?_;rw[bP];unfold yI at hK ht;cases hi:Syn.insP t.t with
 |none=>
  have ei:Fy t.t=[i64 (-1),i64 0]:=by unfold Fy;rw[hi]
  rw[ei];refine⟨i64 (-1),rfl,?_⟩;rw[bP];refine⟨i64 0,rfl,?_⟩;rw[dT,bA];refine⟨λ_=>?_,λe=>by omega⟩;rw[hi]at hK ht;simp only[Option.isSome_none,oH,rN]at hK ht;refine L12.drew.ld rfl ?_;refine L2.drew.ldf rfl ?_;rw[bD,bG,aH];refine L2.drew.ld rfl ?_;refine HU ((HQ hx).1 hi) (by omega) λw3 xa=>?_;have L3:=L2.drew.ext xa;have L13:=L12.drew.ext xa;refine⟨L3.ld rfl rfl,L13.ld rfl rfl,?_⟩;simp only[dF,dK,dC,aB,aK,aL,aN,Nat.reduceAdd,Nat.reduceLT,cZ,aS];have h3:=h2.drew.ext xa;refine Gs h3 ((zx.x (cP w2)).x xa) (by have:=hg.ex;omega) λM' w4 h4 yx _ _ _=>?_;exact hK _ _ rfl M' w4 h4 yx
 |some ie=>
  have ei:Fy t.t=[i64 (ie.1:Nat),i64 (ie.2:Nat)]:=by unfold Fy;rw[hi]
  rw[ei];refine⟨i64 (ie.1:Nat),rfl,?_⟩;rw[bP];refine⟨i64 (ie.2:Nat),rfl,?_⟩;rw[dT,bA];refine⟨λe=>by omega,λ_=>?_⟩;rw[hi]at hK ht;simp only[bY,pH]at hK ht;have zo:t.a+t.t.length+2<=N:=zo.resolve_left λe=>by rw[e]at hi;cases hi
  have uu:wt {t with k:=3}=t.t.length+2:=by unfold wt;rw[aJ (by simp),aO ⟨rfl,by rw[hi];rfl⟩]
  rw[uu]at zq;refine L2.ldf rfl ?_;simp only[dF,dK,dC,aB,aK,aL,aN,Nat.reduceAdd,Nat.reduceLT,cZ,aS];refine cI λb7 w3 vf uk yo xa=>?_;have h3:=h2.ext xa;have L3:=h2.loc uk vf yo;refine dD (l:=[i64 6,str [],.slice none 0 0,.slice none 0 0,i64 t.a]) yo rfl rfl rfl λw4 bc ua yf=>?_;have L4:Loc w0 w4 p f M vt b7 ExT [i64 6,str [],.slice none 0 0,.slice none 0 0,i64 t.a]:=⟨ua,L3.2.up (by omega)⟩;have h4:=h3.one yf L3.2;have L14:=(L12.ext xa).one yf (by omega);have L24:=(L2.ext xa).one yf (by omega);have yx:Eff p f M M w w4:=(zx.x xa).one yf (by omega);refine cX.cut (λst w'=>∃b8 b9 B1,st=[.pointer (some ⟨b8,0,none⟩),.pointer (some ⟨b9,0,none⟩)]/\TL w0 w' p f M vt B1 b2 b7 b8 b9 t.a t.t (t.a+1) (.slice none 0 0) (.slice none 0 0) [] []/\PR w0 w' p f M vt s top/\Eff p f M M w w'/\w.heap.size<=B1/\w.heap.size<=b8/\w.heap.size<=b9) ?_ ?_
  ·have L4d:=L4.drew;have L14d:=L14.drew;have L24d:=L24.drew;have h4d:=h4.drew;have he4d:=yx.x (cP w4);have ld1:∀{w':World},Loc w0 w' p f M vt b3 TkT (iT t)->ldW false 1 (.pointer (some ⟨b3,1,none⟩)) w' λx=>x=str t.t:=λL=>L.ld rfl rfl;have ld2:∀{w':World},Loc w0 w' p f M vt b3 TkT (iT t)->ldW false 1 (.pointer (some ⟨b3,2,none⟩)) w' λx=>x=i64 t.a:=λL=>L.ld rfl rfl;rw[bD,bG,aH];refine L24d.ld rfl ?_;rw[bD,bG,aH];refine L24d.ld rfl ?_;rw[cG,fE (by omega) (by omega)];have zd:w4.drew.heap.size=w4.heap.size:=rfl;have fin:∀{w5:World} {b8 b9:Nat},PR w0 w5 p f M vt s top->Eff p f M M w w5->Loc w0 w5 p f M vt b2 PpT [.pointer (some ⟨p,0,none⟩)]->Loc w0 w5 p f M vt b7 ExT [i64 6,str [],.slice none 0 0,.slice none 0 0,i64 t.a]->Loc w0 w5 p f M vt b8 StT [str t.t]->Loc w0 w5 p f M vt b9 lC [i64 (t.a+1)]->w4.heap.size<=b8->w4.heap.size<=b9->b8≠b9->
     ∃b8' b9' B1,[Value.pointer (some ⟨b8,0,none⟩),.pointer (some ⟨b9,0,none⟩)]=[.pointer (some ⟨b8',0,none⟩),.pointer (some ⟨b9',0,none⟩)]/\TL w0 w5 p f M vt B1 b2 b7 b8' b9' t.a t.t (t.a+1) (.slice none 0 0) (.slice none 0 0) [] []/\PR w0 w5 p f M vt s top/\Eff p f M M w w5/\w.heap.size<=B1/\w.heap.size<=b8'/\w.heap.size<=b9':=λ{w5 b8 b9} hp he l2 l7 l8 l9 g8 g9 gn=>
    ⟨b8,b9,w5.heap.size,rfl,⟨l2,l7,l8,l9,Ro.nil _ _,Ro.nil _ _,λk hk=>by simp[Value.ownBlock]at hk,⟨l2.lt,l7.lt,l8.lt,l9.lt,aY _⟩,⟨by omega,by omega,by omega,by omega,by omega,gn⟩⟩,hp,he,he.chg.size,by omega,by omega⟩
   refine⟨?_,?_⟩
   ·refine cI λb8 w5 yz xx xw ho=>?_;have L8:=h4d.loc xx yz xw;have h5:=h4d.ext ho;have T5:=L24d.ext ho;refine⟨ld2 T5,ld1 T5,?_⟩;refine cI λb9 w6 yy yr xv o=>?_;have L9:=h5.loc yr yy xv;have h6:=h5.ext o;have T6:=T5.ext o;refine⟨ld2 T6,ld1 T6,?_⟩;refine(L8.ext o).st rfl (by simp) λw7 L87 J yq=>?_;have h7:=h6.one J (L8.ext o).2;have T7:=T6.one J (by omega);refine⟨ld2 T7,?_⟩;refine(L9.one J (by omega)).st rfl (by simp) λw8 L98 hs yp=>?_;have h8:=h7.one hs (L9.one J (by omega)).2;exact fin h8 ((((he4d.x ho).x o).one J (by omega)).one hs (by omega)) ((((L14d.ext ho).ext o).one J (by omega)).one hs (by omega)) ((((L4d.ext ho).ext o).one J (by omega)).one hs (by omega)) (L87.one hs (by omega)) L98 (by omega) (by omega) (by omega)
   ·refine cI λb9 w5 yy xx xw ho=>?_;have L9:=h4d.loc xx yy xw;have h5:=h4d.ext ho;have T5:=L24d.ext ho;refine⟨ld2 T5,ld1 T5,?_⟩;refine cI λb8 w6 yz yr xv o=>?_;have L8:=h5.loc yr yz xv;have h6:=h5.ext o;have T6:=T5.ext o;refine⟨ld2 T6,ld1 T6,?_⟩;refine L8.st rfl (by simp) λw7 L87 J yq=>?_;have h7:=h6.one J L8.2;have T7:=T6.one J (by omega);refine⟨ld2 T7,?_⟩;refine((L9.ext o).one J (by omega)).st rfl (by simp) λw8 L98 hs yp=>?_;have h8:=h7.one hs ((L9.ext o).one J (by omega)).2;exact fin h8 ((((he4d.x ho).x o).one J (by omega)).one hs (by omega)) ((((L14d.ext ho).ext o).one J (by omega)).one hs (by omega)) ((((L4d.ext ho).ext o).one J (by omega)).one hs (by omega)) (L87.one hs (by omega)) L98 (by omega) (by omega) (by omega)
  rintro st g w5 ⟨b8,b9,B1,rfl,T5,h5,zw,vm,bu,bs⟩;simp only[aF,bJ];clear L1 L12 L2 L3 L4 L14 L24;have xx:=zw.chg.size;generalize hR:nD E (t.t.length+1) s t.t (t.a+1) [] []=R0 at hK ht;refine eJ.go (λst w'=>st=[]/\∃s1 M1 rest a va vk av ks n,PR w0 w' p f M1 vt s1 top/\Gd N s1 dl/\Eff p f M M1 w w'/\TL w0 w' p f M1 vt B1 b2 b7 b8 b9 t.a rest a va vk av ks/\nD E n s1 rest a av ks=R0/\rest.length<n/\Dt rest/\0<=a/\a+rest.length+1<=N/\Syn.phi s1+rest.length+1<=100000/\av.length+2*rest.length<=2*t.t.length/\ks.length=av.length)
   (λ_ w'=>LD w' b8) ⟨rfl,s,M,t.t,t.a+1,_,_,[],[],t.t.length+1,h5,hg,zw,T5,hR,by omega,hx,by omega,by omega,by omega,by simp,rfl⟩ ?_
  rintro st g2 w6 ⟨rfl,s1,M1,rest,a,va,vk,av,ks,n,h6,ye,yw,T6,hh,hn,uq,vj,vi,bh,bo,vb⟩;have bf:=yw.chg.size;refine T6.l8.ld rfl ?_;rw[gC,bA];refine⟨λyc=>?_,λyc=>?_⟩
  ·obtain⟨n,rfl⟩:∃m,n=m+1:=⟨n-1,by omega⟩;rw[Gz yc hn]at hh;obtain⟨i1,i2,i3,i4,i5,i6,i7⟩:=QB uq;have i6:=i6 yc;refine T6.l8.ld rfl ?_;refine wW (by omega) ?_;have au:rest.length<=100000:=by omega
   have two:∃u v:Int,Fy rest=[i64 u,i64 v]/\((Syn.insP rest=none/\u=-1)\/(Syn.insP rest≠none/\u=((mL rest).1:Nat)/\v=((mL rest).2:Nat))):=by
    unfold mL Fy;cases hr:Syn.insP rest with
    |none=>exact⟨-1,0,rfl,.inl ⟨rfl,rfl⟩⟩
    |some x=>exact⟨_,_,rfl,.inr ⟨by simp,rfl,rfl⟩⟩
   obtain⟨u,v,euv,zm⟩:=two;rw[euv,bP];refine⟨i64 u,rfl,?_⟩;rw[bP];refine⟨i64 v,rfl,?_⟩;refine cI λb10 w7 uf yq zz ys=>?_;have h7:=h6.ext ys;have T7:=T6.ext ys;have l10:=h6.loc yq uf zz;refine cI λb11 w8 ue yp zy xy=>?_;have h8:=h7.ext xy;have T8:=T7.ext xy;have l11:=h7.loc yp ue zy;have bw:=T6.lt.2.2.2.2;have nA10:∀k,va.ownBlock=some k->k<w6.heap.size:=λk hk=>(T6.rA.off k hk).1.2;have nK10:∀k,vk.ownBlock=some k->k<w6.heap.size:=λk hk=>(T6.rK.off k hk).1.2;have no10:va.ownBlock≠some b10/\vk.ownBlock≠some b10:=⟨λe=>by have:=nA10 _ e;omega,λe=>by have:=nK10 _ e;omega⟩;have no11:va.ownBlock≠some b11/\vk.ownBlock≠some b11:=⟨λe=>by have:=nA10 _ e;omega,λe=>by have:=nK10 _ e;omega⟩;refine(l10.ext xy).st rfl (by simp) λw9 l10 xu ba=>?_;have h9:=h8.one xu l10.2;have T9:=T8.one xu (by omega) no10.1 no10.2;refine(l11.one xu (by omega)).st rfl (by simp) λw10 l11 xd ah=>?_;have l10:=l10.one xd (by omega);have zg:=h9.one xd l11.2;have T10:=T9.one xd (by omega) no11.1 no11.2;have xt:Eff p f M M1 w w10:=(((yw.x ys).x xy).one xu (by omega)).one xd (by omega);simp only[aL]at l10 l11;refine cX.cut (λ_ w'=>Loc w0 w' p f M1 vt b10 lC [i64 ((mL rest).1:Nat)]/\Loc w0 w' p f M1 vt b11 lC [i64 ((mL rest).2:Nat)]/\PR w0 w' p f M1 vt s1 top/\TL w0 w' p f M1 vt B1 b2 b7 b8 b9 t.a rest a va vk av ks/\Eff p f M M1 w w'/\w10.heap.size<=w'.heap.size) ?_ ?_
   ·refine l10.ld rfl ?_;rw[dT,bA];refine⟨λyd=>?_,λyu=>?_⟩
    ·have hnone:Syn.insP rest=none:=by
      rcases zm with h|h
      ·exact h.1
      ·omega
     have eI:mL rest=(rest.length,rest.length):=by unfold mL;rw[hnone]
     have T11:=T10.ext (cP w10);refine T11.l8.ld rfl ?_;rw[dM];refine T11.l8.ld rfl ?_;rw[dM];refine l10.drew.st rfl (by simp) λw12 l10 xg af=>?_;have vy:=zg.drew.one xg l10.2;have T12:=T11.one xg (by omega) no10.1 no10.2;refine⟨T12.l8.ld rfl rfl,?_⟩;have zd:w10.drew.heap.size=w10.heap.size:=rfl;refine(l11.drew.one xg (by omega)).st rfl (by simp) λw13 l11 xf ae=>?_;have vx:=vy.one xf l11.2;have T13:=T12.one xf (by omega) no11.1 no11.2;have l10:=l10.one xf (by omega);simp only[aL]at l10 l11;rw[eI];exact⟨l10,l11,vx,T13,((xt.x (cP _)).one xg (by omega)).one xf (by omega),by omega⟩
    ·rcases zm with h|⟨_,e1,e2⟩
     ·omega
     ·rw[e1]at l10;rw[e2]at l11;exact⟨l10,l11,zg,T10,xt,aY _⟩
   rintro _ g3 w14 ⟨l10,l11,uh,T14,xr,ad⟩;clear xu xd h7 h8 h9 zg T7 T8 T9 T10 xt;generalize hI:(mL rest).1=I at*
   generalize br:(mL rest).2=E' at*
   have ao:=xr.chg.size;refine cX.cut (λ_ w'=>∃M2 va2 vk2,PR w0 w' p f M2 vt (uS s1 rest a) top/\Eff p f M M2 w w'/\TL w0 w' p f M2 vt B1 b2 b7 b8 b9 t.a rest a va2 vk2 (if 0<I then av++[s1.ex.length]else av) (if 0<I then ks++[[116]]else ks)/\Loc w0 w' p f M2 vt b10 lC [i64 (I:Nat)]/\Loc w0 w' p f M2 vt b11 lC [i64 (E':Nat)]/\(va2.ownBlock≠some b10/\vk2.ownBlock≠some b10)/\(va2.ownBlock≠some b11/\vk2.ownBlock≠some b11)) ?_ ?_
   ·refine l10.ld rfl ?_;rw[fJ,bA];unfold uS;rw[hI];refine⟨λxm=>?_,λxm=>?_⟩
    ·have xm:0<I:=by omega
     simp only[aO xm];have T15:=T14.ext (cP w14);have yi:=uh.drew;have l10:=l10.drew;have l11:=l11.drew;rw[bD,bG,aH];refine T15.l7.ld rfl ?_;refine T15.l2.ld rfl ?_;refine T15.l8.ld rfl ?_;refine l10.ld rfl ?_;rw[eF,eD];refine⟨by omega,by omega,?_⟩;rw[eK,eU,bC];refine T15.l9.ld rfl ?_;refine HU i3 (by rw[cO];omega) λw16 xb=>?_;have T16:=T15.ext xb;have zf:=yi.ext xb;have l10:=l10.ext xb;have l11:=l11.ext xb;refine⟨T16.l9.ld rfl rfl,T16.l2.ld rfl rfl,T16.l7.ld rfl rfl,?_⟩;simp only[dF,dK,dC,aB,aK,aL,aN,Nat.reduceAdd,Nat.reduceLT,cZ,aS];have hq:=(xr.x (cP w14)).x xb;refine Gs zf hq (by have:=ye.ex;omega) λM2 w17 ze xp hz yk zj=>?_;have T17:TL w0 w17 p f M2 vt B1 b2 b7 b8 b9 t.a rest a va vk av ks:=⟨hz _ _ _ T16.l2,hz _ _ _ T16.l7,hz _ _ _ T16.l8,hz _ _ _ T16.l9,yk _ _ _ _ _ _ T16.rA,yk _ _ _ _ _ _ T16.rK,T16.dd,⟨T16.lt.1,T16.lt.2.1,T16.lt.2.2.1,T16.lt.2.2.2.1,dI T16.lt.2.2.2.2 zj⟩,T16.ne⟩;have l10:=hz _ _ _ l10;have l11:=hz _ _ _ l11;refine⟨T17.l7.ld rfl rfl,?_⟩;refine lM λr w18 hr ab uv U=>?_;have T18:=T17.ext U;refine⟨T18.l7.ld rfl rfl,?_⟩;refine T18.appA (ze.ext U) uv (by omega) λva2 w19 T19 vv xc yj=>?_;have n7:=T18.lt.2.1;have l10':Loc w0 w19 p f M2 vt b10 lC [i64 (I:Nat)]:=⟨xc.at (l10.ext U).1 λe=>e.elim no10.1 (by omega),(l10.ext U).2.up xc.size⟩;have l11':Loc w0 w19 p f M2 vt b11 lC [i64 (E':Nat)]:=⟨xc.at (l11.ext U).1 λe=>e.elim no11.1 (by omega),(l11.ext U).2.up xc.size⟩;have a10:va2.ownBlock≠some b10:=λe=>(yj _ e).elim no10.1 λe=>by have:=(l10.ext U).lt;omega
     have a11:va2.ownBlock≠some b11:=λe=>(yj _ e).elim no11.1 λe=>by have:=(l11.ext U).lt;omega
     have ak:=hq.chg.size;have yn:Eff p f M M2 w w19:=(xp.x U).then xc λk hk e=>by
      rcases e with e|e
      ·have:=T6.rA.new k e;omega
      ·omega
     rw[bD,bG,aH];refine T19.l7.ld rfl ?_;refine vG λr2 w20 uw zi xl j=>?_;have T20:=T19.ext j;refine T20.appK (vv.ext j) xl (by omega) λvk2 w21 T21 zc hc xk=>?_;have aj:=yn.chg.size;refine⟨M2,va2,vk2,zc,(yn.x j).then hc λk hk e=>?_,T21,⟨hc.at (l10'.ext j).1 λe=>e.elim no10.2 (by omega),(l10'.ext j).2.up hc.size⟩,⟨hc.at (l11'.ext j).1 λe=>e.elim no11.2 (by omega),(l11'.ext j).2.up hc.size⟩,
      ⟨a10,λe=>(xk _ e).elim no10.2 λe=>by have:=(l10'.ext j).lt;omega⟩,⟨a11,λe=>(xk _ e).elim no11.2 λe=>by have:=(l11'.ext j).lt;omega⟩⟩
     rcases e with e|e
     ·have:=T6.rK.new k e;omega
     ·omega
    ·simp only[aJ (show¬0<I by omega)];exact⟨M1,va,vk,uh,xr,T14,l10,l11,no10,no11⟩
   rintro _ g4 w15 ⟨M2,va2,vk2,yi,xq,T15,l10,l11,no10,no11⟩;have xe:Gd N (uS s1 rest a) dl/\Syn.phi (uS s1 rest a)<=Syn.phi s1+I:=by
    unfold uS;rw[hI];split
    ·have hp:=mB s1 ⟨5,jB (rest.take I),[],[],a⟩;have hp:Syn.phi {s1 with ex:=s1.ex++[⟨5,jB (rest.take I),[],[],a⟩]}<=Syn.phi s1+1:=hp;exact⟨ye.put (by omega),by omega⟩
    ·exact⟨ye,by omega⟩
   obtain⟨xe,bj⟩:=xe;have xh:(if 0<I then av++[s1.ex.length]else av).length<=av.length+(if 0<I then 1 else 0):=by split<;>simp
   have yl:(if 0<I then ks++[[116]]else ks).length=(if 0<I then av++[s1.ex.length]else av).length:=by split<;>simp[vb]
   generalize (if 0<I then av++[s1.ex.length]else av)=av2 at*
   generalize (if 0<I then ks++[[116]]else ks)=ks2 at*
   generalize uS s1 rest a=s2 at*
   have an:=xq.chg.size;refine cX.cut (λ_ w'=>∃s3 M3 va3 vk3 av3 ks3,PR w0 w' p f M3 vt s3 top/\Gd N s3 dl/\Eff p f M M3 w w'/\TL w0 w' p f M3 vt B1 b2 b7 b8 b9 t.a rest a va3 vk3 av3 ks3/\Loc w0 w' p f M3 vt b11 lC [i64 (E':Nat)]/\nD E n s3 (rest.drop E') (a+E') av3 ks3=R0/\Syn.phi s3+(rest.length-E')+1<=100000/\av3.length+2*(rest.length-E')<=2*t.t.length/\ks3.length=av3.length) ?_ ?_
   ·refine l10.ld rfl ?_;refine l11.ld rfl ?_;rw[dT,bA];refine⟨λyd=>?_,λyu=>?_⟩
    ·have yd:I<E':=by omega
     have i5:=i5 yd;rw[aO yd]at hh;refine T15.l2.ld rfl ?_;refine T15.l9.ld rfl ?_;refine l10.ld rfl ?_;rw[cG,fE (by omega) (by omega)];have ar:=xe.lev;have zp:=λ(d:Nat) (hd:dl=d+1)=>El (hF.ok N) (s:={s2 with deep:=s2.deep+1,quiet:=false}) (wD xe.ws _ _) (t:=(rest.drop (I+2)).take (E'-1-(I+2))) (a:=a+I+2) (by omega) (by rw[cO,aR];omega);refine pQ yi (by omega) (λhd=>ht 7 (a+I) ?_) λhd w16 zf hq=>?_
     ·rw[<-hh];unfold within;rw[aO hd];rfl
     obtain⟨d,rfl⟩:∃d,dl=d+1:=⟨dl-1,by omega⟩;have xn:=xe.frame false;have zl:within s2 (a+I) false (λq=>oP E q ((rest.drop (I+2)).take (E'-1-(I+2))) (a+I+2))=(oP E {s2 with deep:=s2.deep+1,quiet:=false} ((rest.drop (I+2)).take (E'-1-(I+2))) (a+I+2)).bind λx s'=>.ok x {s' with deep:=s2.deep,quiet:=s2.quiet}:=by
      unfold within;rw[aJ hd]
     rw[zl]at hh;refine gG (caps:=[.pointer (some ⟨b7,0,none⟩),.pointer (some ⟨b2,0,none⟩),.pointer (some ⟨b8,0,none⟩),.pointer (some ⟨b10,0,none⟩),.pointer (some ⟨b11,0,none⟩),.pointer (some ⟨b9,0,none⟩)]) ?_;have n7:=T15.lt.2.1;have ux:Syn.phi {s2 with deep:=s2.deep+1,quiet:=false}=Syn.phi s2:=rfl;refine TU (xq.trans hq) (by omega) vm hS (hE d rfl) hF zf xn (T15.eff hq) (l10.eff hq) (l11.eff hq) ⟨no10.1,no10.2,by omega⟩ ⟨no11.1,no11.2,by omega⟩ i5 i2 vj vi (by show Syn.phi s2+_<=_;omega) (by split at xh<;>omega) (λx s' xz M3 va3 w17 ze xp T17 k10 k11 bm=>?_) λc a' xz=>ht c a' ?_
     ·rw[xz]at hh;simp only[R.bind]at hh;have xi:=zp d rfl;have yb:=Eb hF.z {s2 with deep:=s2.deep+1,quiet:=false} ((rest.drop (I+2)).take (E'-1-(I+2))) (a+I+2);rw[xz]at xi yb;have yb:Syn.phi s'<=Syn.phi s2+((rest.drop (I+2)).take (E'-1-(I+2))).length:=yb;rw[cO,aR]at yb;have zu:Gd N s' d:=⟨xi.1.ws xn.ws,hN,by rw[xi.1.toks];exact xn.few,by rw[xi.1.toks];exact xn.ts,by omega,by rw[xi.1.deep];exact xn.lev⟩;refine⟨M3,s',ze,xi.1.deep,λw18 vw xo=>?_⟩;have T18:=T17.eff xo;rw[bD,bG,aH];refine T18.l7.ld rfl ?_;refine vG λr2 w20 uw zi xl j=>?_;have T20:=T18.ext j;have k11:=(k11.eff xo).ext j;refine T20.appK (vw.ext j) xl (by split at xh<;>omega) λvk3 w21 T21 zc hc xk=>?_;refine⟨_,M3,va3,vk3,av2++[x],ks2++[[101]],zc,xe.back zu,((xp.trans xo).x j).then hc λk hk e=>?_,T21,⟨hc.at k11.1 λe=>e.elim no11.2 (by omega),k11.2.up hc.size⟩,hh,?_,?_,by simp[yl]⟩
      ·rcases e with e|e
       ·have:=T17.rK.new k e;omega
       ·omega
      ·show Syn.phi s'+_+1<=_;omega
      ·simp only[aP,aB,aK];split at xh<;>omega
     ·rw[xz]at hh;rw[<-hh];rfl
    ·have yu:¬I<E':=by omega
     rw[aJ yu]at hh;refine⟨s2,M2,va2,vk2,av2,ks2,yi,xe,xq,T15,l11,hh,by omega,?_,yl⟩;split at xh<;>omega
   rintro _ g5 w22 ⟨s3,M3,va3,vk3,av3,ks3,vs,vc,ym,T22,l11,zr,uy,ug,zt⟩;have T23:=T22.ext (cP w22);have l11:=l11.drew;have vr:=vs.drew;have ai:=ym.chg.size;refine T23.l8.ld rfl ?_;refine l11.ld rfl ?_;rw[eF,eK,eD];refine⟨by omega,by omega,?_⟩;rw[eQ,bC];refine T23.l9.ld rfl ?_;refine l11.ld rfl ?_;rw[cG,fE (by omega) (by omega)];obtain⟨q1,q2,q3,q4,q5⟩:=T23.lt;obtain⟨m1,m2,m3,m4,m5,m6⟩:=T23.ne;refine T23.l8.st rfl (by simp) λw24 l8 hj aa=>?_;have vq:=vr.one hj l8.2;have l9:=T23.l9.one hj (jS m6);have l11:=l11.one hj (by omega);refine⟨l11.ld rfl rfl,l9.ld rfl rfl,?_⟩;refine l9.st rfl (by simp) λw25 l9 hv vz=>?_;have vp:=vq.one hv l9.2;have l8:=l8.one hv m6;simp only[aL]at l8 l9;have T25:TL w0 w25 p f M3 vt B1 b2 b7 b8 b9 t.a (rest.drop E') (a+E') va3 vk3 av3 ks3:=
    ⟨(T23.l2.one hj m2).one hv m3,(T23.l7.one hj m4).one hv m5,l8,l9,(T23.rA.one hj (T23.noA q3).1).one hv (T23.noA q4).1,(T23.rK.one hj (T23.noA q3).2).one hv (T23.noA q4).2,T23.dd,⟨q1,q2,q3,q4,by omega⟩,T23.ne⟩
   have zd:w22.drew.heap.size=w22.heap.size:=rfl;refine⟨⟨rfl,s3,M3,rest.drop E',a+E',va3,vk3,av3,ks3,n,vp,vc,((ym.x (cP _)).one hj (by omega)).one hv (by omega),T25,zr,?_,i4,by omega,?_,?_,?_,zt⟩,?_⟩
   ·rw[aR];omega
   ·rw[aR];omega
   ·rw[aR];exact uy
   ·rw[aR];exact ug
   ·rw[T25.l8.strat,T6.l8.strat,aR];omega
  ·have zs:rest=[]:=by
    by_cases h:rest=[]
    ·exact h
    ·exact absurd h yc
   subst zs;obtain⟨n,rfl⟩:∃m,n=m+1:=⟨n-1,by omega⟩;simp only[nD,pH]at hh;rw[<-hh]at hK ht;refine T6.l2.ld rfl ?_;refine fQ T6.l7.1 rfl ?_;have zn:∀k,k∈ub [i64 6,str [],va,vk,i64 t.a]↔va.ownBlock=some k\/vk.ownBlock=some k:=λk=>by
    rw[show [i64 6,str [],va,vk,i64 t.a]=[i64 6,str []]++([va]++([vk]++[i64 t.a]))from rfl];simp only[mQ,bH,jJ];simp[ub,Value.ownBlock]
   have uz:(ub [i64 6,str [],va,vk,i64 t.a]).Nodup:=by
    rw[show [i64 6,str [],va,vk,i64 t.a]=[i64 6,str []]++([va]++([vk]++[i64 t.a]))from rfl];simp only[mQ];rw[show ub [i64 6,str []]=[]from rfl,show ub [i64 t.a]=[]from rfl,gJ,eZ];exact gQ.2 ⟨nB _,nB _,λx hx y hy e=>by subst e;exact T6.dd x (jJ.1 hx) (jJ.1 hy)⟩
   refine Ih (e:=⟨6,[],av,ks,t.a⟩) h6 yw ⟨va,vk,rfl,T6.rA.own,T6.rK.own⟩ (λk hk=>((zn k).1 hk).elim (T6.rA.off k) (T6.rK.off k)) uz (λk hk=>?_) (by have:=ye.ex;omega) λM' w7 h7 ve _=>?_
   ·rcases(zn k).1 hk with e|e
    ·have:=T6.rA.new k e;omega
    ·have:=T6.rK.new k e;omega
   ·exact hK _ _ rfl M' w7 h7 ve
end
section
variable [HX]
structure ER(w0 w:World)(p f:Nat)(M:Lay)(vt:Value)(wb:Nat)(e:Ex)(va vk:Value):Prop where
 rA:Ro w0 w p f M vt wb lC 1 va e.args.length (ints e.args)
 rK:Ro w0 w p f M vt wb StT 1 vk e.keys.length (strs e.keys)
 dd:∀k,va.ownBlock=some k->vk.ownBlock≠some k
def exc(e:Ex)(va vk:Value):List Value:=[i64 e.k,str e.t,va,vk,i64 e.a]
section
variable{w0 w w' w1:World}{p f b:Nat}{M M' M0:Lay}{vt:Value}{s:PS}{top:List Nat}{N:Int}{K:Q0}{e:Ex}{va vk:Value}{wbn:Nat}{wb:World}{dl:Nat}
theorem JG(h:ER w0 w p f M vt wbn e va vk):(exc e va vk).all jD=true:=by
 obtain⟨_,_,e1,_⟩:=h.rA.own.sl.shape;obtain⟨_,_,e2,_⟩:=h.rK.own.sl.shape;subst e1 e2;rfl
theorem ER.eff(h:ER w0 w p f M vt wbn e va vk)(j:Eff p f M M' w w'):ER w0 w' p f M' vt wbn e va vk:=⟨h.rA.eff j,h.rK.eff j,h.dd⟩
theorem ER.one(h:ER w0 w p f M vt wbn e va vk)(j:Chg (One b) w w')(I:va.ownBlock≠some b)(o:vk.ownBlock≠some b):ER w0 w' p f M vt wbn e va vk:=⟨h.rA.one j I,h.rK.one j o,h.dd⟩
theorem Ro.le{m:Nat}{xs:List Value}{k:Nat}(h:Ro w0 w p f M vt wbn T m v n xs)(o:k<=wbn):Ro w0 w p f M vt k T m v n xs:=⟨h.own,h.off,λj I=>dI o (h.new j I)⟩
theorem ER.le{k:Nat}(h:ER w0 w p f M vt wbn e va vk)(j:k<=wbn):ER w0 w p f M vt k e va vk:=⟨h.rA.le j,h.rK.le j,h.dd⟩
theorem ER.noK(j:e.keys=[])(h:Ro w0 w p f M vt wbn lC 1 va e.args.length (ints e.args)):ER w0 w p f M vt wbn e va (.slice none 0 0):=⟨h,by rw[j];exact Ro.nil _ _,λk _=>by simp[Value.ownBlock]⟩
theorem ER.leaf(I:e.args=[])(o:e.keys=[]):ER w0 w p f M vt wbn e (.slice none 0 0) (.slice none 0 0):=⟨by rw[I];exact Ro.nil _ _,by rw[o];exact Ro.nil _ _,λk j=>by simp[Value.ownBlock]at j⟩
theorem Ly(e:Ex)(va vk:Value):ub (exc e va vk)=ub [va]++ub [vk]:=by
 rw[show exc e va vk=[i64 e.k,str e.t]++([va]++([vk]++[i64 e.a]))from rfl];simp only[mQ];rw[show ub [i64 e.k,str e.t]=[]from rfl,show ub [i64 e.a]=[]from rfl,gJ,eZ]
theorem Gt(h:PR w0 w p f M vt s top)(he:Eff p f M0 M wb w)(hE:ER w0 w p f M vt wb.heap.size e va vk)(hg:Gd N s dl)
  (hK:∀M' w',PR w0 w' p f M' vt {s with ex:=s.ex++[e]} top->Eff p f M0 M' wb w'->(∀b T cs,Loc w0 w p f M vt b T cs->va.ownBlock≠some b->vk.ownBlock≠some b->Loc w0 w' p f M' vt b T cs)->K (i64 (s.ex.length:Nat)) w'):
  aI P0 158 [.pointer (some ⟨p,0,none⟩),.agg (exc e va vk).toArray] w K:=by
 have j:∀k,k∈ub (exc e va vk)↔va.ownBlock=some k\/vk.ownBlock=some k:=λk=>by rw[Ly,bH,jJ,jJ]
 have o:(ub (exc e va vk)).Nodup:=by
  rw[Ly];exact gQ.2 ⟨nB _,nB _,λx hx y U e=>by subst e;exact hE.dd x (jJ.1 hx) (jJ.1 U)⟩
 refine Ih (e:=e) h he ⟨va,vk,rfl,hE.rA.own,hE.rK.own⟩ (λk I=>((j k).1 I).elim (hE.rA.off k) (hE.rK.off k)) o (λk I=>((j k).1 I).elim (hE.rA.new k) (hE.rK.new k)) (by have:=hg.ex;omega) λM' w' h' J hl=>?_;exact hK M' w' h' J λb T cs hL h1 h2=>hl b T cs hL λhm=>((j b).1 hm).elim h1 h2
theorem Nt{E:PS->R Nat}{x:Str}(hE:EC w0 f 118 E dl)(hF:rQ E)(h:PR w0 w p f M vt s top)(hg:Gd N s dl)
  (hK:∀l s',Dd E x s=.ok l s'->∀M' v w',PR w0 w' p f M' vt s' top->Gd N s' dl->Eff p f M M' w w'->Ro w0 w' p f M' vt w.heap.size lC 1 v l.length (ints l)->K v w')(ht:∀c a',Dd E x s=.err c a'->Thr w0 f c a'):
  aI P0 235 [.pointer (some ⟨p,0,none⟩),str x] w K:=by
 refine Rt ?_;unfold Yc;unfold Dd at hK ht;generalize hR:rE E x (s.toks.length+1) s []=R0 at hK ht;have hN:=hg.hN;refine eJ.go (λst w'=>∃v s1 M1 out n,st=[v]/\PR w0 w' p f M1 vt s1 top/\Gd N s1 dl/\Eff p f M M1 w w'/\Ro w0 w' p f M1 vt w.heap.size lC 1 v out.length (ints out)/\rE E x n s1 out=R0/\s1.toks.length<n+s1.i/\out.length<=s1.i/\s1.toks.length=s.toks.length) (λ_ w'=>s.toks.length-yU w' p)
  ⟨_,s,M,[],s.toks.length+1,rfl,h,hg,Eff.refl _ _ _ _,Ro.nil _ _,hR,by omega,by simp,rfl⟩ ?_
 rintro st g w2 ⟨v,s1,M1,out,n,rfl,h2,hj,xt,xr,j,hn,ho,xp⟩;have ya:=hj.ws.lt;obtain⟨n,rfl⟩:∃m,n=m+1:=⟨n-1,by omega⟩;simp only[aF];refine tJ h2 hj.ws hN hj.l λw3 h3 xj=>?_;simp only[rE]at j;have U:=hj.take x;have tg:=lH hj.ws x;have hi:=xr.eff xj;have J:=xt.trans xj;have yg:=J.chg.size;have more:∀{s4:PS} {w4:World},PR w0 w4 p f M1 vt s4 top->Gd N s4 dl->Eff p f M M1 w w4->Ro w0 w4 p f M1 vt w.heap.size lC 1 v out.length (ints out)->((E s4).bind λx' s'=>rE E x n s' (out++[x']))=R0->s1.i<=s4.i->s4.toks.length=s.toks.length->
   aI P0 118 [.pointer (some ⟨p,0,none⟩)] w4 λt20 w8=>fV lC 1 [(.int .i64 0)] [(0,1,t20)] w8 λt21 w9=>fH P0 (Builtin.append_ #[26,26] 26 #[v,t21]) w9 λt22 w10=>
    (∃v s1 M1 out n,[t22]=[v]/\PR w0 w10 p f M1 vt s1 top/\Gd N s1 dl/\Eff p f M M1 w w10/\Ro w0 w10 p f M1 vt w.heap.size lC 1 v out.length (ints out)/\rE E x n s1 out=R0/\s1.toks.length<n+s1.i/\out.length<=s1.i/\s1.toks.length=s.toks.length)/\s.toks.length-yU w10 p<s.toks.length-yU w2 p:=λ{s4 w4} h4 o hc xb hh xd xe=>by
  refine hE w4 p M1 vt s4 top N _ h4 o (λy s5 e5 M5 w5 h5 hq=>?_) λc a' e5=>ht c a' (by rw[<-hh,e5];rfl);rw[e5]at hh;simp only[R.bind]at hh;obtain⟨xi,yj⟩:=o.e hF e5;have yi:s5.toks.length=s4.toks.length:=by
   have:=hF.ok N s4 o.ws;rw[e5]at this;exact congrArg List.length this.1.1.toks
  refine lM λr w6 hr yf xq xa=>?_;have h6:=h5.ext xa;have xg:=(xb.eff hq).ext xa;have hv:=(hc.trans hq).x xa;refine Ro.app AP xg h6 xq rfl (λu hu=>by simp only[bR]at hu;subst hu;rfl) (by have:=o.few;have:=o.ws.lt;omega) (by decide) hv.chg.size λv' w7 xv xu yh h7=>?_;have xz:=xi.ws.lt;refine⟨⟨v',s5,M5,out++[y],n,rfl,h7,xi,hv.then xu λk hk e=>by have:=xg.new k e;omega,?_,hh,by omega,by rw[aP,aB,aK];omega,by omega⟩,?_⟩
  ·rw[aP,aB,aK,Cv];exact xv
  ·rw[h7.at_,h2.at_];omega
 have xf:(cD s1 x).2.toks.length=s.toks.length:=by rw[tg.1.toks];exact xp
 rw[fG,dU];refine⟨λxc=>?_,λhz=>?_⟩
 ·have xc:(cD s1 x).1=false:=by simpa using xc
  rw[aJ (by rw[xc];decide)]at j;by_cases I:out=[]
  ·rw[aO I]at j;refine cX.cut (λ_ w'=>w'=w3) ?_ ?_
   ·rw[jH hi.own.sl,fJ,bA];exact⟨λe=>by rw[I]at e;simp at e,λ_=>rfl⟩
   rintro _ g2 w4 rfl;exact more h3 U J hi j tg.1.le xf
  ·rw[aJ I]at j;have xy:0<out.length:=gY.2 I;refine cX.cut (λ_ w'=>∃s4,PR w0 w' p f M1 vt s4 top/\Gd N s4 dl/\Eff p f M M1 w w'/\Ro w0 w' p f M1 vt w.heap.size lC 1 v out.length (ints out)/\((E s4).bind λx' s'=>rE E x n s' (out++[x']))=R0/\s1.i<=s4.i/\s4.toks.length=s.toks.length) ?_ ?_
   ·rw[jH hi.own.sl,fJ,bA];refine⟨λ_=>?_,λe=>absurd (by omega) e⟩;refine wF h3 U.ws hN U.l (λs4 e4 w4 h4 hc=>?_) λc a' e4=>ht c a' (by rw[<-j,e4];rfl);rw[e4]at j;simp only[R.bind]at j;obtain⟨o,xd,_⟩:=U.want e4;have hs:=lU U.ws [44];rw[e4]at hs;refine tJ h4 o.ws hN o.l λw5 h5 hq=>?_;have xh:=(hi.eff hc).eff hq;have hx:=(J.trans hc).trans hq;have tg5:=lH o.ws x;rw[dU];refine⟨λhy=>?_,λhy=>?_⟩
    ·rw[aO hy]at j;exact hK out _ j.symm M1 v w5 h5 (o.take x) hx xh
    ·rw[aJ (by rw[hy];decide)]at j;exact⟨_,h5,o.take x,hx,xh,j,by have:=tg.1.le;have:=tg5.1.le;omega,by rw[tg5.1.toks,hs.1.1.toks];exact xf⟩
   rintro _ g2 w4 ⟨s4,h4,o,hc,xb,hh,xd,xe⟩;exact more h4 o hc xb hh xd xe
 ·have hz:(cD s1 x).1=true:=by simpa using hz
  rw[aO hz]at j;exact hK out _ j.symm M1 v w3 h3 U J hi
end
end
section
variable [HX]
variable{w0 w w' w1:World}{p f b:Nat}{M M' M0:Lay}{vt:Value}{s:PS}{top:List Nat}{N:Int}{K:Q0}{e:Ex}{va vk:Value}{wbn:Nat}{wb:World}{dl:Nat}
theorem HZ(J:PR w0 w p f M vt s top)(I:Loc w0 w p f M vt b ExT cs)(U:cs.length=5)(hE:ER w0 w p f M vt wbn e va vk)(hA:va.ownBlock≠some b)(o:vk.ownBlock≠some b)
  (hK:∀w',PR w0 w' p f M vt s top->Chg (One b) w w'->ER w0 w' p f M vt wbn e va vk->K (.agg (exc e va vk).toArray) w'):
  stW 5 (.pointer (some ⟨b,0,none⟩)) (.agg (exc e va vk).toArray) w λw5=>ldW true 5 (.pointer (some ⟨b,0,none⟩)) w5 λr6=>K r6 w5:=
 uR I.1 rfl U (JG hE) λw' j=>hK w' (J.one j I.2) j (hE.one j hA o)
theorem JO{x r:Nat}{ty:TypeId}{k a:Int}{l:Str}{av:List Nat}{KW:World->Prop}(hL:Loc w0 w p f M vt b ExT [i64 k,str l,va,vk,i64 a])(hR:Ro w0 w p f M vt wbn lC 1 va av.length (ints av))(hp:PR w0 w p f M vt s top)(hr:w.heap[r]?=some (.cells [i64 (x:Nat)].toArray lC (0,0)))
  (hn:av.length<=1000000)(hB:b<wbn)(hw:wbn<=w.heap.size)
  (hK:∀va' w',Loc w0 w' p f M vt b ExT [i64 k,str l,va',vk,i64 a]->Ro w0 w' p f M vt wbn lC 1 va' (av++[x]).length (ints (av++[x]))->PR w0 w' p f M vt s top->Chg (λk=>va.ownBlock=some k\/k=b) w w'->(∀k,va'.ownBlock=some k->va.ownBlock=some k\/w.heap.size<=k)->KW w'):
  fH P0 (Builtin.append_ #[26,26] ty #[va,.slice (some ⟨r,0,none⟩) 1 1]) w λt62 w36=>aZ 2 (.pointer (some ⟨b,0,none⟩)) λt63=>stW 1 t63 t62 w36 KW:=by
 refine Ro.app AP hR hp hr rfl (λu J=>by simp only[bR]at J;subst J;rfl) hn (by decide) hw λv' w2 j U hv I=>?_;have e1:(av++[x]).length=av.length+1:=by simp
 rw[<-e1,show ints av++[i64 (x:Nat)]=ints (av++[x])from by simp[ints]]at j;rw[bD,bG,aH];obtain⟨vp,vc,ev,_⟩:=j.own.sl.shape;refine(hL.row U λe=>by have:=hR.new b e;omega).st (by rw[ev];rfl) (by simp) λw3 L3 o hh=>?_;exact hK v' w3 L3 (j.one o λe=>by have:=j.new b e;omega) (I.one o L3.2) ((U.mono λk _ e=>.inl e).trans (o.mono λk _ e=>.inr e)) hv
theorem Vs{E:PS->R Nat}{t:Tok}(hE:EC w0 f 118 E dl)(hF:rQ E)(h:PR w0 w p f M vt s top)(hg:Gd N s dl)(zp:(cur s).k≠0)(yn:bE s=s)
  (hK:∀e s',yL E s t.a=.ok e s'->∀M' va vk w',PR w0 w' p f M' vt s' top->Gd N s' dl->Eff p f M M' w w'->ER w0 w' p f M' vt w.heap.size e va vk->K (.agg (exc e va vk).toArray) w')(I:∀c a',yL E s t.a=.err c a'->Thr w0 f c a'):
  aI P0 238 [.pointer (some ⟨p,0,none⟩),.agg (iT t).toArray] w K:=by
 refine Rp ?_;unfold XZ;have hN:=hg.hN;have xm:Gd N (step1 s) dl:=by have:=hg.step zp;rw[yn]at this;exact this
 refine fX (z:=iT t) λb3 w1 zu zg yw yl=>?_;have h1:=h.ext yl;have L3:=h.loc zg zu yw;refine cI λb4 w2 zt zf yu xy=>?_;have h2:=h1.ext xy;have L4:=h1.loc zf zt yu;have L3:=L3.ext xy;have zn:Eff p f M M w w2:=(Eff.ext yl).x xy;refine h2.go (wsi hg.ws hg.l) λw3 h3 xg vc=>?_;have L3:=L3.eff xg;have L4:=L4.eff xg;have xg:=zn.trans xg;refine oJ h3 xm.ws hN xm.l λw4 h4 xc=>?_;have L3:=L3.eff xc;have L4:=L4.eff xc;have xc:=xg.trans xc;have lt3:=L3.lt;have lt4:=L4.lt;refine cI λb5 w5 zs ze yt xl=>?_;have h5:=h4.ext xl;have L5:=h4.loc ze zs yt;have L3:=L3.ext xl;have L4:=L4.ext xl;have zm:=xc.x xl;have vf:=xc.chg.size;refine dD (l:=iT (cur (step1 s))) L5.1 rfl rfl rfl λw6 vb zr xn=>?_;have L5:Loc w0 w6 p f M vt b5 TkT (iT (cur (step1 s))):=⟨zr,L5.2.up (by omega)⟩;have h6:=h5.one xn L5.2;have L3:=L3.one xn (by omega);have L4:=L4.one xn (by omega);have yd:=zm.one xn (by omega);have ve:=yd.chg.size;have yb:=xm.now;refine L5.ldf rfl ?_;rw[eX];simp only[iW];refine GdW.look (decide ((cur (step1 s)).t≠GP)) (λ_ J hJ=>?_) λg=>?_
 ·refine L5.ldf rfl ?_;rw[gC];exact hJ
 simp only[aF];rw[kS,dU];unfold yL at hK I;simp only at hK I;refine⟨λye=>?_,λye=>?_⟩
 ·have hc:(cur (step1 s)).k≠1\/(cur (step1 s)).t≠GP:=by simpa using ye
  rw[aO hc]at hK I;have L3:=L3.drew;rw[bD,bG,aH];refine L3.ld rfl ?_;refine Nt hE hF h6.drew yb (λl s' el M' v w7 h7 zl o xz=>?_) λc a' el=>I c a' (by rw[el];rfl);rw[el]at hK;simp only[R.bind]at hK;have L3:=L3.eff o;refine⟨L3.ld rfl rfl,?_⟩;obtain⟨q,cap,ev,_⟩:=xz.own.sl.shape;subst ev;simp only[dF,dZ,dC,aB,aK,aL,aN,Nat.reduceAdd,Nat.reduceLT,cZ,aS];have zd:w6.drew.heap.size=w6.heap.size:=rfl;have zx:ER w0 w7 p f M' vt w6.heap.size ⟨7,[],l,[],t.a⟩ (.slice q l.length cap) (.slice none 0 0):=ER.noK rfl xz;refine HZ (e:=⟨7,[],l,[],t.a⟩) h7 (L4.drew.eff o) rfl zx (λe=>by have:=xz.new _ e;omega) (by simp[Value.ownBlock]) λw8 h8 zo zy=>?_;exact hK _ _ rfl M' _ _ w8 h8 zl (((yd.x (cP w6)).trans o).one zo (by omega)) (zy.le (by omega))
 ·have hc:¬((cur (step1 s)).k≠1\/(cur (step1 s)).t≠GP):=by simpa using ye
  rw[aJ hc]at hK I;have zk:(cur (step1 s)).k≠0:=λe=>hc (.inl (by rw[e];decide));have xb:=xm.step zk;refine h6.go (wsi yb.ws yb.l) λw7 h7 o uz=>?_;have L3:=L3.eff o;have L4:=L4.eff o;have o:=yd.trans o;refine cX.cut (λst w'=>∃b6 u s2,st=[.pointer (some ⟨b6,0,none⟩)]/\mH (step1 (bE (step1 s))) 1=.ok u s2/\PR w0 w' p f M vt s2 top/\Gd N s2 dl/\Eff p f M M w w'/\Loc w0 w' p f M vt b6 ExT [i64 29,str u.t,.slice none 0 0,.slice none 0 0,i64 t.a]/\Loc w0 w' p f M vt b4 ExT [.int .i64 0,.string (ofL []),.slice none 0 0,.slice none 0 0,.int .i64 0]/\b4<b6/\w.heap.size<=b6) ?_ ?_
  ·have L3:=L3.drew;have L4:=L4.drew;have h7:=h7.drew;have o:=o.x (cP w7);have zd:w7.drew.heap.size=w7.heap.size:=rfl;have ld3:∀{w':World},Loc w0 w' p f M vt b3 TkT (iT t)->ldW false 1 (.pointer (some ⟨b3,2,none⟩)) w' λx=>x=i64 t.a:=λL=>L.ld rfl rfl;rw[bD,bG,aH];refine L3.ld rfl ?_;refine⟨?_,?_⟩
   ·refine wV h7 xb.ws hN xb.l (λu s2 eu w8 h8 j=>?_) λc a' eu=>I c a' (by rw[eu];rfl);have L3:=L3.eff j;have L4:=L4.eff j;have j:=o.trans j;refine⟨ld3 L3,str u.t,rfl,?_⟩;simp only[dF,dK,dC,aB,aK,aL,aN,Nat.reduceAdd,Nat.reduceLT,cZ,aS];refine cI λb6 w9 xj xx xi hs=>?_;have L6:=h8.loc xx xj xi;refine⟨ld3 (L3.ext hs),?_⟩;refine dD (l:=[i64 29,str u.t,.slice none 0 0,.slice none 0 0,i64 t.a]) L6.1 rfl rfl rfl λw10 xd hj hi=>?_;have lt4':=L4.lt;have zh:=j.chg.size;exact⟨b6,u,s2,rfl,eu,(h8.ext hs).one hi L6.2,(xb.kind (by decide) eu).1,(j.x hs).one hi (by omega),⟨hj,L6.2.up (by omega)⟩,(L4.ext hs).one hi (by omega),by omega,by omega⟩
   ·refine cI λb6 w9 xj xx xi hs=>?_;have L6:=h7.loc xx xj xi;have L3:=L3.ext hs;have lt4':=L4.lt;have zh:=o.chg.size;refine⟨ld3 L3,?_⟩;refine wV (h7.ext hs) xb.ws hN xb.l (λu s2 eu w8 h8 j=>?_) λc a' eu=>I c a' (by rw[eu];rfl);have L3:=L3.eff j;have L4:=(L4.ext hs).eff j;have L6:=L6.eff j;have j:=(o.x hs).trans j;refine⟨ld3 L3,str u.t,rfl,?_⟩;simp only[dF,dK,dC,aB,aK,aL,aN,Nat.reduceAdd,Nat.reduceLT,cZ,aS];refine dD (l:=[i64 29,str u.t,.slice none 0 0,.slice none 0 0,i64 t.a]) L6.1 rfl rfl rfl λw10 xd hj hi=>?_;exact⟨b6,u,s2,rfl,eu,h8.one hi L6.2,(xb.kind (by decide) eu).1,j.one hi (by omega),⟨hj,L6.2.up (by omega)⟩,L4.one hi (by omega),by omega,by omega⟩
  rintro st g2 w8 ⟨b6,u,s2,rfl,eu,h8,yc,j,L6,L4,uv,uk⟩;simp only[aF];rw[eu]at hK I;simp only[R.bind]at hK I;refine cX.cut (λ_ w'=>∃v s3,mH s2 1=.ok v s3/\v.t=kIn/\PR w0 w' p f M vt s3 top/\Gd N s3 dl/\Eff p f M M w8 w') ?_ ?_
  ·refine wV h8 yc.ws hN yc.l (λv s3 ev w9 h9 hv=>?_) λc a' ev=>I c a' (by rw[ev]);refine cI λb7 w10 zq xd hj xp=>?_;have yi:=h9.ext xp;have L7:=h9.loc xd zq hj;refine dD (l:=iT v) L7.1 rfl rfl rfl λw11 yk yf xu=>?_;have L7:Loc w0 w11 p f M vt b7 TkT (iT v):=⟨yf,L7.2.up (by omega)⟩;have xo:=yi.one xu L7.2;have z9:=hv.chg.size;refine L7.ldf rfl ?_;rw[gC,bA];refine⟨λya=>?_,λya=>⟨v,s3,ev,?_,xo,(yc.kind (by decide) ev).1,(hv.x xp).one xu (by omega)⟩⟩
   ·refine L7.ldf rfl ?_;exact qN xo (I _ _ (by rw[ev];simp only;exact aO ya))
   ·by_cases h:v.t=[105,110]
    ·exact h
    ·exact absurd h ya
  rintro _ g3 w9 ⟨v,s3,ev,zi,h9,yo,hv⟩;rw[ev]at hK I;simp only[aJ (show¬v.t≠kIn fromλh=>h zi)]at hK I;have L6:=(L6.eff hv).drew;have L4:=(L4.eff hv).drew;have h9:=h9.drew;have hv:=(j.trans hv).x (cP w9);have zd:w9.drew.heap.size=w9.heap.size:=rfl;have vd:=hv.chg.size;have lt6:=L6.lt;rw[bD,bG,aH];refine L6.ld rfl ?_;refine hE w9.drew p M vt s3 top N _ h9 yo (λx s4 ex M4 w10 yi hy=>?_) λc a' ex=>I c a' (by rw[ex]);rw[ex]at hK I;simp only at hK I;obtain⟨xf,_⟩:=yo.e hF ex;have L6:=L6.eff hy;have L4:=L4.eff hy;have hy:=hv.trans hy;refine⟨L6.ld rfl rfl,?_⟩;refine lM λr w11 hr yk zj hz=>?_;have L6:=L6.ext hz;have L4:=L4.ext hz;have xo:=yi.ext hz;have xt:=hy.x hz;have uo:=xt.chg.size;have lt6:=L6.lt;have lt4:=L4.lt;refine⟨L6.ld rfl rfl,?_⟩;refine JO (wbn:=w11.heap.size) (av:=[]) L6 (Ro.nil _ _) xo zj (by simp) lt6 (aY _) λva1 w12 L6 yz uf xa uu=>?_;have xr:=xt.then xa λk hk e=>by
   rcases e with e|e
   ·simp[Value.ownBlock]at e
   ·omega
  have um:=xr.chg.size;have L4:Loc w0 w12 p f M4 vt b4 ExT [.int .i64 0,.string (ofL []),.slice none 0 0,.slice none 0 0,.int .i64 0]:=⟨xa.at L4.1 λe=>e.elim (by simp[Value.ownBlock]) (by omega),L4.2.up xa.size⟩;have uj:=xa.size;refine wF uf xf.ws hN xf.l (λs5 e5 w13 yh hh=>?_) λc a' e5=>I c a' (by rw[e5]);rw[e5]at hK I;simp only at hK I;obtain⟨xq,_⟩:=xf.want e5;have L6:=(L6.eff hh).drew;have L4:=(L4.eff hh).drew;have yy:=(yz.eff hh).ext (cP w13);have yh:=yh.drew;have zd13:w13.drew.heap.size=w13.heap.size:=rfl;have ui:=hh.chg.size;have hh:=(xr.trans hh).x (cP w13);rw[bD,bG,aH];refine L6.ld rfl ?_;refine hE w13.drew p M4 vt s5 top N _ yh xq (λy s6 ey M6 w14 ue U=>?_) λc a' ey=>I c a' (by rw[ey]);rw[ey]at hK I;simp only at hK I;obtain⟨xe,_⟩:=xq.e hF ey;have L6:=L6.eff U;have L4:=L4.eff U;have xk:=yy.eff U;have uh:=U.chg.size;have U:=hh.trans U;refine⟨L6.ld rfl rfl,?_⟩;refine lM λr2 w15 vg ug ym hx=>?_;have L6:=L6.ext hx;have L4:=L4.ext hx;have ud:=ue.ext hx;have yr:=U.x hx;refine⟨L6.ld rfl rfl,?_⟩;refine JO (wbn:=w11.heap.size) (av:=[x]) L6 (xk.ext hx) ud ym (by simp) (by omega) (by omega) λva2 w16 L6 yx uc xh uq=>?_;have yq:=yr.then xh λk hk e=>by
   rcases e with e|e
   ·have:=xk.new k e;omega
   ·omega
  have L4:Loc w0 w16 p f M6 vt b4 ExT [.int .i64 0,.string (ofL []),.slice none 0 0,.slice none 0 0,.int .i64 0]:=⟨xh.at L4.1 λe=>e.elim (λe=>by have:=xk.new _ e;omega) (by omega),L4.2.up xh.size⟩;refine wF uc xe.ws hN xe.l (λs7 e7 w17 ua ho=>?_) λc a' e7=>I c a' (by rw[e7]);rw[e7]at hK;simp only at hK;obtain⟨yp,_⟩:=xe.want e7;have L6:=L6.eff ho;have L4:=L4.eff ho;have xv:=yx.eff ho;have ho:=yq.trans ho;refine fQ L6.1 rfl ?_;refine HZ (e:=⟨29,u.t,[x,y],[],t.a⟩) ua L4 rfl (ER.noK rfl xv) (λe=>by have:=xv.new _ e;omega) (by simp[Value.ownBlock]) λw18 zz ys za=>?_;exact hK _ _ rfl M6 _ _ w18 zz yp (ho.one ys (by omega)) (za.le (by omega))
end
theorem Gd.tx{N:Int}{s:PS}{dl:Nat}(h:Gd N s dl)(I:(cur s).k=3):Dt (cur s).t/\(cur s).t.length<=100000:=by
 have j:=h.now;have o:=bI (wG j.ws);have:=j.ts _ o (show(mR (bE s)).k=3 from I);exact this
section
variable [HX]
variable{w0 w w' w1:World}{p f b:Nat}{M M' M0:Lay}{vt:Value}{s:PS}{top:List Nat}{N:Int}{K:Q0}{e:Ex}{va vk:Value}{wbn:Nat}{wb:World}{dl:Nat}
theorem Mj{E:PS->R Nat}{t:Tok}(hE:EC w0 f 118 E dl)(hF:rQ E)(h:PR w0 w p f M vt s top)(hg:Gd N s dl)(uh:(cur s).k≠0)(zb:bE s=s)
  (hK:∀e s',GD E s t.a=.ok e s'->∀M' va vk w',PR w0 w' p f M' vt s' top->Gd N s' dl->Eff p f M M' w w'->ER w0 w' p f M' vt w.heap.size e va vk->K (.agg (exc e va vk).toArray) w')(ht:∀c a',GD E s t.a=.err c a'->Thr w0 f c a'):
  aI P0 240 [.pointer (some ⟨p,0,none⟩),.agg (iT t).toArray] w K:=by
 refine Rl ?_;unfold XX;have hN:=hg.hN;have xu:Gd N (step1 s) dl:=by have:=hg.step uh;rw[zb]at this;exact this
 refine fX (z:=iT t) λb3 w1 um zt zk ys=>?_;have h1:=h.ext ys;have L3:=h.loc zt um zk;refine cI λb4 w2 uk zs zj yi=>?_;have h2:=h1.ext yi;have L4:=h1.loc zs uk zj;have L3:=L3.ext yi;have uf:Eff p f M M w w2:=(Eff.ext ys).x yi;refine h2.go (wsi hg.ws hg.l) λw3 h3 xi ar=>?_;have L3:=L3.eff xi;have L4:=L4.eff xi;have xi:=uf.trans xi;refine L3.ldf rfl ?_;simp only[dF,dK,dC,aB,aK,aL,aN,Nat.reduceAdd,Nat.reduceLT,cZ,aS];have lt4:=L4.lt;refine cI λb5 w4 uj zr zi yh=>?_;have L5:=h3.loc zr uj zi;have h4:=h3.ext yh;have L4:=L4.ext yh;refine dD (l:=[i64 8,str [],.slice none 0 0,.slice none 0 0,i64 t.a]) L5.1 rfl rfl rfl λw5 ao zh yl=>?_;have L5:Loc w0 w5 p f M vt b5 ExT [i64 8,str [],.slice none 0 0,.slice none 0 0,i64 t.a]:=⟨zh,L5.2.up (by omega)⟩;have h5:=h4.one yl L5.2;have L4:=L4.one yl (by omega);have ue:Eff p f M M w w5:=(xi.x yh).one yl (by have:=xi.chg.size;omega);refine xU h5 xu.ws hN xu.l λw6 h6 xo=>?_;have L4:=L4.eff xo;have L5:=L5.eff xo;have xo:=ue.trans xo;have xb:=xu.lines;unfold GD at hK ht;generalize hR:Bw E t.a (s.toks.length+1) (iR (step1 s)) [] []=R0 at hK ht;have au:=xo.chg.size;obtain⟨B1,bg⟩:∃B1,B1=w6.heap.size:=⟨_,rfl⟩;have lt5:=L5.lt;have lt4:=L4.lt;have aw:=xi.chg.size;have yy:(iR (step1 s)).toks.length=s.toks.length:=congrArg List.length ((mG xu.ws).1.toks);refine eJ.go (λst w'=>st=[]/\∃s1 M1 av ks va vk n,PR w0 w' p f M1 vt s1 top/\Gd N s1 dl/\Eff p f M M1 w w'/\Loc w0 w' p f M1 vt b5 ExT [i64 8,str [],va,vk,i64 t.a]/\Loc w0 w' p f M1 vt b4 ExT [.int .i64 0,.string (ofL []),.slice none 0 0,.slice none 0 0,.int .i64 0]/\
   Ro w0 w' p f M1 vt B1 lC 1 va av.length (ints av)/\Ro w0 w' p f M1 vt B1 StT 1 vk ks.length (strs ks)/\(∀k,va.ownBlock=some k->vk.ownBlock≠some k)/\B1<=w'.heap.size/\Bw E t.a n s1 av ks=R0/\s1.toks.length<n+s1.i/\av.length<=s1.i/\ks.length=av.length/\s1.toks.length=s.toks.length) (λ_ w'=>s.toks.length-yU w' p)
  ⟨rfl,_,M,[],[],_,_,s.toks.length+1,h6,xb,xo,L5,L4,Ro.nil _ _,Ro.nil _ _,λk hk=>by simp[Value.ownBlock]at hk,by omega,hR,by omega,by simp,rfl,yy⟩ ?_
 rintro st g w7 ⟨rfl,s1,M1,av,ks,va,vk,n,h7,xa,ud,L5,L4,rA,rK,dd,an,j,hn,bd,uc,ax⟩;have vz:=xa.ws.lt;obtain⟨n,rfl⟩:∃m,n=m+1:=⟨n-1,by omega⟩;refine tJ h7 xa.ws hN xa.l λw8 h8 hx=>?_;have L4:=L4.eff hx;have L5:=L5.eff hx;have rA:=rA.eff hx;have rK:=rK.eff hx;have ak:=hx.chg.size;have hx:=ud.trans hx;have xh:=xa.take [125];have tg:=lH xa.ws [125];have tgt:=congrArg List.length tg.1.toks;simp only[Bw]at j;rw[fG,dU];refine⟨λyj=>?_,λyg=>?_⟩
 ·have yj:(cD s1 [125]).1=false:=by simpa using yj
  rw[aJ (by rw[yj];decide)]at j;generalize ay:(cD s1 [125]).2=s2 at*
  refine Io h8 xh.ws hN xh.l λw9 h9 hh=>?_;have L4:=L4.eff hh;have L5:=L5.eff hh;have rA:=rA.eff hh;have rK:=rK.eff hh;have aj:=hh.chg.size;have hh:=hx.trans hh;have xt:=xh.next;have ng:=rW xh.ws;have ngt:=congrArg List.length ng.1.toks;have bc:=xh.at0;have lt5:=L5.lt;have lt4:=L4.lt;refine cI λb6 w10 ui yr yn ho=>?_;have L6:=h9.loc yr ui yn;have vg:=h9.ext ho;have L4:=L4.ext ho;have L5:=L5.ext ho;have nA6:va.ownBlock≠some b6:=λe=>by have:=(rA.off _ e).1.2;omega
  have nK6:vk.ownBlock≠some b6:=λe=>by have:=(rK.off _ e).1.2;omega
  have rA:=rA.ext ho;have rK:=rK.ext ho;refine dD (l:=iT (cur s2)) L6.1 rfl rfl rfl λw11 vv ym hv=>?_;have L6:Loc w0 w11 p f M1 vt b6 TkT (iT (cur s2)):=⟨ym,L6.2.up (by omega)⟩;have xy:=vg.one hv L6.2;have L4:=L4.one hv (by omega);have L5:=L5.one hv (by omega);have rA:=rA.one hv nA6;have rK:=rK.one hv nK6;have xq:Eff p f M M1 w w11:=(hh.x ho).one hv (by have:=hh.chg.size;omega);have vy:=xq.chg.size;refine cX.cut (λ_ w'=>∃k s3,(if(cur s2).k=3 then pF (kI s2) (cur s2)else if(cur s2).k=1 then .ok (cur s2).t (kI s2)else .err 50 (cur s2).a)=.ok k s3/\s3=kI s2/\PR w0 w' p f M1 vt (kI s2) top/\Loc w0 w' p f M1 vt b6 TkT [i64 (cur s2).k,str k,i64 (cur s2).a]/\Eff p f M M1 w w'/\Loc w0 w' p f M1 vt b5 ExT [i64 8,str [],va,vk,i64 t.a]/\Loc w0 w' p f M1 vt b4 ExT [.int .i64 0,.string (ofL []),.slice none 0 0,.slice none 0 0,.int .i64 0]/\Ro w0 w' p f M1 vt B1 lC 1 va av.length (ints av)/\Ro w0 w' p f M1 vt B1 StT 1 vk ks.length (strs ks)/\w11.heap.size<=w'.heap.size) ?_ ?_
  ·refine L6.ldf rfl ?_;rw[bX,bA];refine⟨λxl=>?_,λxl=>?_⟩
   ·have zw:=xh.tx xl;rw[aO xl]at j;refine fQ L6.1 rfl ?_;refine Jk xy zw.1 (by omega) (λl s3 el w12 U=>?_) λc a' el=>ht c a' (by rw[<-j,el];rfl);rw[bD,bG,aH];refine(L6.ext U).st rfl (by simp[iT]) λw13 L6 hs vs=>?_;have vf:=(xy.ext U).one hs L6.2;have e3:s3=kI s2:=by
     unfold pF at el;split at el
     ·cases el
     ·injection el with _ el;exact el.symm
    exact⟨l,s3,by rw[aO xl];exact el,e3,vf,L6,(xq.x U).one hs (by have:=hh.chg.size;omega),(L5.ext U).one hs (by omega),(L4.ext U).one hs (by omega),(rA.ext U).one hs nA6,(rK.ext U).one hs nK6,by have:=U.size;omega⟩
   ·rw[bX,bA];refine⟨λyk=>?_,λyk=>?_⟩
    ·exact⟨_,_,by rw[aJ xl,aO yk],rfl,xy,L6,xq,L5,L4,rA,rK,aY _⟩
    ·refine L6.ldf rfl ?_;refine qN xy (ht 50 (cur s2).a ?_);rw[<-j,aJ xl,aJ yk];rfl
  rintro _ g2 w12 ⟨k,s3,ek,rfl,zo,L6,zg,L5,L4,rA,rK,vu⟩;rw[ek]at j;simp only[R.bind]at j;refine cX.cut (λ_ w'=>w'=w12/\ks.contains k=false) ?_ ?_
  ·rw[bD,bG,aH];refine L5.ld rfl ?_;refine L6.ldf rfl ?_;refine xE rK.own.sl (by have:=xa.few;omega) ?_;rw[bA];refine⟨λhm=>?_,λhm=>⟨rfl,by simpa using hm⟩⟩;refine L6.ldf rfl ?_;refine qN zo (ht 2 (cur s2).a ?_);rw[<-j,aO (by simpa using hm)]
  rintro _ g3 w13 ⟨rfl,zy⟩;rw[aJ (by rw[zy];decide)]at j;refine wF zo xt.ws hN xt.l (λs4 e4 w14 yo o=>?_) λc a' e4=>ht c a' (by rw[<-j,e4]);rw[e4]at j;simp only at j;obtain⟨xp,ab,_⟩:=xt.want e4;have w14s:=lU xt.ws [61];rw[e4]at w14s;have w14t:=congrArg List.length w14s.1.1.toks;have L4:=(L4.eff o).drew;have L5:=(L5.eff o).drew;have L6:=(L6.eff o).drew;have rA:=(rA.eff o).ext (cP w14);have rK:=(rK.eff o).ext (cP w14);have vr:=o.chg.size;have zd14:w14.drew.heap.size=w14.heap.size:=rfl;have o:=(zg.trans o).x (cP w14);have yo:=yo.drew;rw[bD,bG,aH];refine L5.ld rfl ?_;refine L6.ldf rfl ?_;rw[bD,bG,aH];refine L5.ld rfl ?_;refine vG λr w15 hr vq zx hj=>?_;have L4:=L4.ext hj;have L5:=L5.ext hj;have rA:=rA.ext hj;have rK:=rK.ext hj;have ve:=yo.ext hj;have yf:=o.x hj;have vx:=yf.chg.size;refine⟨L5.ld rfl rfl,L5.ld rfl rfl,?_⟩;refine Ro.app CK rK ve zx rfl (λu hu=>by simp only[bR]at hu;subst hu;rfl) (by have:=xa.few;omega) (by decide) (by omega) λvk' w16 rK' xf yw vd=>?_;have L5:=L5.row xf λe=>by have:=rK.new b5 e;omega
  have L4:=L4.row xf λe=>by have:=rK.new b4 e;omega
  have dd':∀k,va.ownBlock=some k->vk'.ownBlock≠some k:=λk hk e=>(yw k e).elim (dd k hk) λe=>by have:=(rA.off k hk).1.2;omega
  have rA:=rA.row xf dd;have zf:=yf.then xf λk hk e=>by have:=rK.new k e;omega
  have vo:=xf.size;refine⟨L5.ld rfl rfl,?_⟩;rw[bD,bG,aH];refine hE w16 p M1 vt s4 top N _ vd xp (λx s5 ex M5 w17 vb hc=>?_) λc a' ex=>ht c a' (by rw[<-j,ex]);rw[ex]at j;simp only at j;obtain⟨xj,aa⟩:=xp.e hF ex;have e17t:=hF.ok N s4 xp.ws;rw[ex]at e17t;have e17t:=congrArg List.length e17t.1.1.toks;have L4:=L4.eff hc;have L5:=L5.eff hc;have rA:=rA.eff hc;have rK:=rK'.eff hc;have vn:=hc.chg.size;have hc:=zf.trans hc;refine⟨L5.ld rfl rfl,?_⟩;refine lM λr2 w18 az vm yz hi=>?_;have L4:=L4.ext hi;have L5:=L5.ext hi;have rA:=rA.ext hi;have rK:=rK.ext hi;have uz:=vb.ext hi;have ye:=hc.x hi;have vw:=ye.chg.size;refine⟨L5.ld rfl rfl,?_⟩;refine Ro.app AP rA uz yz rfl (λu hu=>by simp only[bR]at hu;subst hu;rfl) (by have:=xa.few;omega) (by decide) (by omega) λva' w19 rA' xe yu uy=>?_;have L5:=L5.row xe λe=>by have:=rA.new b5 e;omega
  have L4:=L4.row xe λe=>by have:=rA.new b4 e;omega
  have dd2:∀k,va'.ownBlock=some k->vk'.ownBlock≠some k:=λk hk e=>(yu k hk).elim (λh=>dd' k h e) λh=>by have:=(rK.off k e).1.2;omega
  have rK:=rK.row xe λk hk e=>dd' k e hk;have ze:=ye.then xe λk hk e=>by have:=rA.new k e;omega
  have vl:=xe.size;obtain⟨vp,vc,ev,_⟩:=rK.own.sl.shape;refine L5.st (by rw[ev];rfl) (by simp) λw20 L5 xd vj=>?_;have ux:=uy.one xd L5.2;have L4:=L4.one xd (by omega);have nA5:va'.ownBlock≠some b5:=λe=>by have:=rA'.new b5 e;omega
  have nK5:vk'.ownBlock≠some b5:=λe=>by have:=rK.new b5 e;omega
  have rA:=rA'.one xd nA5;have rK:=rK.one xd nK5;rw[bD,bG,aH];obtain⟨vp2,vc2,ev2,_⟩:=rA.own.sl.shape;refine L5.st (by rw[ev2];rfl) (by simp) λw21 L5 xc vi=>?_;have uw:=ux.one xc L5.2;have L4:=L4.one xc (by omega);have rA:=rA.one xc nA5;have rK:=rK.one xc nK5;have yt:w.heap.size<=b5:=by omega
  have zd:=(ze.one xd yt).one xc yt;simp only[aL,aN]at L5;have xn:=xj.take [44];have tg5:=lH xj.ws [44];have tg5t:=congrArg List.length tg5.1.toks;refine cX.cut (λ_ w'=>∃s6,(s6=(cD s5 [44]).2\/s6=bE (cD s5 [44]).2)/\Bw E t.a n (iR s6) (av++[x]) (ks++[k])=R0/\PR w0 w' p f M5 vt s6 top/\Eff p f M5 M5 w21 w') ?_ ?_
  ·refine tJ uw xj.ws hN xj.l λw22 xx xk=>?_;rw[fG];simp only[fO];by_cases hy:(cD s5 [44]).1=true
   ·rw[hy,dA,Bs];intro g4;rw[gP];simp only[fO,Bs];intro g5;rw[gP,bW];rw[aJ (λh=>by rw[hy]at h;exact absurd h.1 (by decide)),aO hy]at j;exact⟨_,.inl rfl,j,xx,xk⟩
   ·have hy:(cD s5 [44]).1=false:=by simpa using hy
    rw[hy,cW];have zu:(if(cD s5 [44]).1=true then(cD s5 [44]).2 else bE (cD s5 [44]).2)=bE (cD s5 [44]).2:=aJ (by rw[hy];decide);rw[zu]at j;refine GdW.act (decide ((cur (cD s5 [44]).2).k≠5)) (λw'=>PR w0 w' p f M5 vt (bE (cD s5 [44]).2) top/\Eff p f M5 M5 w21 w') (λe=>by cases e) (λ_ J hJ=>?_) λg4 w23 zn=>?_
    ·refine oJ xx xn.ws hN xn.l λw23 xg hq=>?_;refine⟨i64 (cur (cD s5 [44]).2).k,rfl,?_⟩;dsimp only;rw[eX];exact hJ w23 ⟨xg,xk.trans hq⟩
    simp only[aF,aQ,gS];obtain⟨xg,hq⟩:=zn;have xr:=xn.now;by_cases h5:(cur (cD s5 [44]).2).k≠5
    ·rw[bK h5];simp only[fO];refine GdW.act (!isS (bE (cD s5 [44]).2) [125]) (λw'=>PR w0 w' p f M5 vt (bE (cD s5 [44]).2) top/\Eff p f M5 M5 w21 w') (λe=>by cases e) (λ_ J hJ=>?_) λg5 w24 zm=>?_
     ·refine vG λb w24 hb yq zl ya=>?_;have xw:=xg.ext ya;have L:=xg.loc yq hb zl;refine VC xw xr.ws hN xr.l ⟨zN zl rfl,λk hk=>by simp only[Value.ownBlock,aV]at hk;subst hk;exact L.2⟩ λw25 xv yd=>?_;rw[fG];rw[jX]at xv;exact hJ w25 ⟨xv,(hq.x ya).trans yd⟩
     obtain⟨xw,zc⟩:=zm;simp only[aF,aQ,gS];rw[dU];refine⟨λhz=>?_,λhz=>?_⟩
     ·have hz:isS (bE (cD s5 [44]).2) [125]=false:=by simpa using hz
      refine oJ xw xr.ws hN xr.l λw25 xv yd=>?_;refine⟨i64 (cur (bE (cD s5 [44]).2)).a,rfl,?_⟩;refine qN xv (ht 50 _ ?_);rw[<-j,aO ⟨hy,h5,hz⟩]
     ·have hz:isS (bE (cD s5 [44]).2) [125]=true:=by simpa using hz
      rw[aJ (λh=>by rw[h.2.2]at hz;cases hz)]at j;exact⟨_,.inr rfl,j,xw,zc⟩
    ·rw[cM h5];simp only[fO,Bs];intro g5;rw[gP,bW];rw[aJ (λh=>h5 h.2.1)]at j;exact⟨_,.inr rfl,j,xg,hq⟩
  rintro _ g4 w22 ⟨s6,es6,za,xx,xk⟩;have xb:Gd N s6 dl/\(cD s5 [44]).2.i<=s6.i/\s6.toks=(cD s5 [44]).2.toks:=by
   rcases es6 with rfl|rfl
   ·exact⟨xn,aY _,rfl⟩
   ·exact⟨xn.now,GF _,(jE xn.ws).toks⟩
  obtain⟨xb,ba,et6⟩:=xb;have et6:=congrArg List.length et6;refine xU xx xb.ws hN xb.l λw23 xg hq=>?_;have lg:=mG xb.ws;have lgt:=congrArg List.length lg.1.toks;have I:=xk.trans hq;have vh:=I.chg.size;have i1:=tg.1.le;have i2:=ng.1.le;have i3:=tg5.1.le;have i4:=lg.1.le;have yc:=xb.lines;have ua:=yc.ws.lt;refine⟨⟨rfl,iR s6,M5,av++[x],ks++[k],va',vk',n,xg,yc,zd.trans I,L5.eff I,L4.eff I,?_,?_,dd2,by omega,za,by omega,?_,by simp[uc],by omega⟩,?_⟩
  ·rw[aP,aB,aK,Cv];exact rA.eff I
  ·rw[aP,aB,aK,wH];exact rK.eff I
  ·rw[aP,aB,aK];omega
  ·rw[xg.at_,h7.at_];omega
 ·have yg:(cD s1 [125]).1=true:=by simpa using yg
  rw[aO yg]at j;refine fQ L5.1 rfl ?_;have uv:ER w0 w8 p f M1 vt B1 ⟨8,[],av,ks,t.a⟩ va vk:=⟨rA,rK,dd⟩;refine HZ (e:=⟨8,[],av,ks,t.a⟩) h8 L4 rfl uv (λe=>by have:=rA.new b4 e;omega) (λe=>by have:=rK.new b4 e;omega) λw9 h9 ug uu=>?_;exact hK _ _ j.symm M1 _ _ w9 h9 xh (hx.one ug (by omega)) (uu.le (by omega))
end
theorem wE{α:Type}{s:PS}{a:Int}{q:Bool}{f:PS->R α}(hd:s.deep≠24):within s a q f=(f {s with deep:=s.deep+1,quiet:=q}).bind λx s'=>.ok x {s' with deep:=s.deep,quiet:=s.quiet}:=by
 unfold within;rw[aJ hd]
theorem sW{α:Type}{s:PS}{a:Int}{q:Bool}{f:PS->R α}(hd:s.deep=24):within s a q f=.err 7 a:=by
 unfold within;rw[aO hd]
theorem kJ(s:PS)(w:Str):isS (bE s) w=isS s w:=by unfold isS;rw[mD]
section
variable [HX]
variable{w0 w w' w1:World}{p f b:Nat}{M M' M0:Lay}{vt:Value}{s:PS}{top:List Nat}{N:Int}{K:Q0}{e:Ex}{va vk:Value}{wbn:Nat}{wb:World}{dl:Nat}
theorem Gd.sign{x:Str}(j:Gd N s (dl+1))(hi:isS s x=true)(q:Bool):
  Gd N {bE s with deep:=(bE s).deep+1,quiet:=q} dl/\bE {bE s with deep:=(bE s).deep+1,quiet:=q}={bE s with deep:=(bE s).deep+1,quiet:=q}/\(cur {bE s with deep:=(bE s).deep+1,quiet:=q}).k≠0/\Gd N (step1 {bE s with deep:=(bE s).deep+1,quiet:=q}) dl:=by
 have I:=j.now.frame q;obtain⟨a,b,c⟩:=pL j.ws hi ((bE s).deep+1) q;have o:=I.step b;rw[a]at o;exact⟨I,a,b,o⟩
theorem Ac{x:Str}{KK:Q0}(h:PR w0 w p f M vt s top)(J:Gd N s dl)(hK:∀w',PR w0 w' p f M vt (bE s) top->Eff p f M M w w'->KK (.bool (isS s x)) w'):
  fV StT 1 [(.string (ofL []))] [(0,1,str x)] w λt60 w17=>aI P0 65 [.pointer (some ⟨p,0,none⟩),t60] w17 KK:=by
 refine vG λb w1 hb I o j=>?_;have L1:=h.loc I hb o;refine VC (h.ext j) J.ws J.hN J.l ⟨zN o rfl,λk hk=>by simp only[Value.ownBlock,aV]at hk;subst hk;exact L1.2⟩ λw2 h2 U=>hK w2 h2 ((Eff.ext j).trans U)
theorem VO{E:PS->R Nat}(hS:xI w0 f)(hE:∀d,dl=d+1->EC w0 f 118 E d)(hF:rQ E):EC w0 f 226 (xH E) dl:=by
 intro w p M vt s top N K h hg hK ht;refine Ry ?_;unfold Yh;have hN:=hg.hN;have um:=hg.at0;refine uG rfl λb1 w1 zs zj zb ys=>?_;have h1:=h.ext ys;have L1:=h.loc zj zs zb;refine L1.ld rfl ?_;refine oJ h1 hg.ws hN hg.l λw2 h2 xv=>?_;have L1:=L1.eff xv;have xv:=(Eff.ext ys).trans xv;have lt1:=L1.lt;refine cI λb3 w3 zr zi za yh=>?_;have h3:=h2.ext yh;have L3:=h2.loc zi zr za;have L1:=L1.ext yh;refine dD (l:=iT (cur s)) L3.1 rfl rfl rfl λw4 ue yz ym=>?_;have L3:Loc w0 w4 p f M vt b3 TkT (iT (cur s)):=⟨yz,L3.2.up (by omega)⟩;have h4:=h3.one ym L3.2;have L1:=L1.one ym (by omega);have uh:=xv.chg.size;have zn:=(xv.x yh).one ym (by omega);refine L3.ldf rfl ?_;simp only[dF,dK,dC,aB,aK,aL,aN,Nat.reduceAdd,Nat.reduceLT,cZ,aS];have lt3:=L3.lt;refine cI λb4 w5 zq zh yy yc=>?_;have h5:=h4.ext yc;have L4:=h4.loc zh zq yy;have L1:=L1.ext yc;have L3:=L3.ext yc;refine dD (l:=[i64 0,str [],.slice none 0 0,.slice none 0 0,i64 (cur s).a]) L4.1 rfl rfl rfl λw6 ud yx ye=>?_;have L4:Loc w0 w6 p f M vt b4 ExT [i64 0,str [],.slice none 0 0,.slice none 0 0,i64 (cur s).a]:=⟨yx,L4.2.up (by omega)⟩;have h6:=h5.one ye L4.2;have L1:=L1.one ye (by omega);have L3:=L3.one ye (by omega);have xu:=(zn.x yc).one ye (by omega);have ug:=xu.chg.size;have xc:=hg.now;have yi:=wsi xc.ws xc.l;have hx:b1≠b4:=by omega
 have xx:b3≠b4:=by omega
 have hr:w.heap.size<=b4:=by omega
 have zz:=xc.lev;have xw:(bE s).deep<=24:=by omega
 refine cX.cut (λ_ w'=>∃M1 s1 e va vk,PR w0 w' p f M1 vt s1 top/\Gd N s1 dl/\Eff p f M M1 w w'/\Loc w0 w' p f M1 vt b1 PpT [.pointer (some ⟨p,0,none⟩)]/\Loc w0 w' p f M1 vt b4 ExT (exc e va vk)/\ER w0 w' p f M1 vt w.heap.size e va vk/\xH E s=qV s1 e) ?_ ?_
 ·unfold xH at hK ht⊢;simp only at hK ht⊢;refine L3.ldf rfl ?_;rw[bX,bA];refine⟨λhk=>?_,λhk=>?_⟩
  ·
   have xo:(cur s).k≠0:=by rw[hk];decide
   refine L1.ld rfl ?_;refine h6.go yi λw7 h7 o yp=>?_;have L1:=L1.eff o;have L3:=(L3.eff o).drew;have L4:=(L4.eff o).drew;have h7:=h7.drew;have o:=(xu.trans o).x (cP w7);rw[bD,bG,aH];refine L3.ld rfl ?_;rw[bD,bG,aH];refine L4.st rfl (by simp) λw8 L4 yd yo=>?_;have L3:=L3.one yd xx;refine⟨L3.ld rfl rfl,?_⟩;rw[bD,bG,aH];refine L4.st rfl (by simp) λw9 L4 hh ya=>?_;have h9:=(h7.one yd L4.2).one hh L4.2;refine⟨M,_,⟨4,(cur s).t,[],[],(cur s).a⟩,.slice none 0 0,.slice none 0 0,h9,hg.step xo,(o.one yd hr).one hh hr,(L1.drew.one yd hx).one hh hx,L4,ER.leaf rfl rfl,by rw[aO hk]⟩
  rw[aJ hk]at hK ht⊢;refine L3.ldf rfl ?_;rw[bX,bA];refine⟨λxe=>?_,λxe=>?_⟩
  ·
   rw[aO xe]at hK ht;have xo:(cur s).k≠0:=by rw[xe];decide
   refine L1.ld rfl ?_;refine h6.go yi λw7 h7 o yp=>?_;have L1:=L1.eff o;have L3:=L3.eff o;have o:=xu.trans o;refine L1.ld rfl ?_;refine fQ L3.1 rfl ?_;have yt:=hg.tx xe;have yk:=lJ hg.ws;have uk:=(pS xo).1;have zk:wt {cur s with k:=3}=wt (mR (bE s)):=by
    have e3:(mR (bE s)).k=3:=xe;unfold wt;simp only[e3];rfl
   refine TV hS hE hF h7 (hg.step xo) yt.1 yt.2 ⟨yk.1,yk.2.1⟩ (yk.2.2.2.1 xe) (by rw[zk];have:=hg.phi;omega) (λx s' ex M' w8 h8 hj=>?_) λc a' ex=>ht c a' ex;exact hK x s' ex M' w8 h8 (o.trans hj)
  rw[aJ xe]at hK ht⊢;refine L3.ldf rfl ?_;rw[bX];simp only[fO];refine GdW.look (decide ((cur s).t≠GP)) (λ_ J hJ=>?_) λg=>?_
  ·refine L3.ldf rfl ?_;rw[gC];exact hJ
  simp only[aF];rw[fB,dU];refine⟨λyl=>?_,λyl=>?_⟩
  ·
   have hc:(cur s).k=1/\(cur s).t≠GP:=by simpa using yl
   rw[aO hc]at hK ht⊢;have xo:(cur s).k≠0:=by rw[hc.1];decide
   have xp:=hg.step xo;refine L1.ld rfl ?_;refine h6.go yi λw7 h7 o yp=>?_;have L1:=L1.eff o;have L3:=L3.eff o;have L4:=L4.eff o;have o:=xu.trans o;refine L1.ld rfl ?_;refine Ac h7 xp λw8 h8 hj=>?_;have L1:=L1.eff hj;have L3:=L3.eff hj;have L4:=L4.eff hj;have hj:=o.trans hj;rw[fG,dU];refine⟨λhn=>?_,λhy=>?_⟩
   ·have hn:isS (step1 (bE s)) [40]=false:=by simpa using hn
    rw[aJ (by rw[hn];decide)];refine L3.ldf rfl ?_;refine Qi ?_;rw[bD,bG,aH];refine L4.st rfl (by simp) λw9 L4 hh ya=>?_;have h9:=h8.one hh L4.2;have L1:=L1.one hh hx;have L3:=L3.one hh xx;have hs:=hj.one hh hr;refine L4.ldf rfl ?_;rw[bX,bA];refine⟨λh9k=>?_,λh9k=>?_⟩
    ·refine L3.ldf rfl ?_;rw[bD,bG,aH];refine L4.st rfl (by simp) λw10 L4 xa yr=>?_;refine⟨M,_,⟨qL (cur s).t,(cur s).t,[],[],(cur s).a⟩,.slice none 0 0,.slice none 0 0,h9.one xa L4.2,xp.now,hs.one xa hr,L1.one xa hx,L4,ER.leaf rfl rfl,by rw[aO h9k]⟩
    ·refine⟨M,_,⟨qL (cur s).t,[],[],[],(cur s).a⟩,.slice none 0 0,.slice none 0 0,h9,xp.now,hs,L1,L4,ER.leaf rfl rfl,by rw[aJ h9k]⟩
   ·have hy:isS (step1 (bE s)) [40]=true:=by simpa using hy
    rw[aO hy]at hK ht⊢;have L1:=L1.drew;have L3:=L3.drew;have L4:=L4.drew;have h8:=h8.drew;have hj:=hj.x (cP w8);rw[bD,bG,aH];refine L3.ld rfl ?_;rw[bD,bG,aH];refine L4.st rfl (by simp) λw9 L4 hh ya=>?_;have h9:=h8.one hh L4.2;have L1:=L1.one hh hx;have L3:=L3.one hh xx;have hs:=hj.one hh hr;refine⟨L3.ld rfl rfl,?_⟩;rw[bD,bG,aH];refine L4.st rfl (by simp) λw10 L4 xa yr=>?_;have xi:=(h9.one xa L4.2).drew;have L1:=(L1.one xa hx).drew;have L4:=L4.drew;have j:=(hs.one xa hr).x (cP w10);simp only[aL,aN]at L4;refine L1.ld rfl ?_;refine L1.ld rfl ?_;have yj:=xp.now;refine oJ xi yj.ws hN yj.l λw11 yf ho=>?_;rw[jX]at yf;rw[mD];have L1:=L1.eff ho;have L4:=L4.eff ho;have ho:=j.trans ho;refine⟨L1.ld rfl rfl,i64 (cur (step1 (bE s))).a,rfl,?_⟩;have uj:=yj.lev;refine pQ yf (by omega) (λhd=>ht 7 _ (by rw[sW hd];rfl)) λhd w12 xh I=>?_;obtain⟨d,rfl⟩:∃d,dl=d+1:=⟨dl-1,by omega⟩;rw[wE hd]at ht⊢;obtain⟨q1,q2,q3,q4⟩:=xp.sign hy true;have L1:=L1.eff I;have L4:=L4.eff I;have I:=ho.trans I;refine gG (caps:=[.pointer (some ⟨b1,0,none⟩),.pointer (some ⟨b4,0,none⟩)]) ?_;refine Ru ?_;unfold Yd;refine L1.ld rfl ?_;refine xh.go (wsi q1.ws q1.l) λw13 xg hv yq=>?_;have L1:=L1.eff hv;have L4:=L4.eff hv;have hv:=I.trans hv;refine L1.ld rfl ?_;have lt4':=L4.lt;refine Nt (hE d rfl) hF xg q4 (λl s' el M' v w14 xf yg U xt=>?_) λc a' el=>ht c a' (by rw[el];rfl);have L1:=L1.eff U;have L4:=L4.eff U;have zy:=hv.chg.size;obtain⟨vp,vc,ev,_⟩:=xt.own.sl.shape;have nv4:v.ownBlock≠some b4:=λe=>by have:=xt.new b4 e;omega
    rw[bD,bG,aH];refine L4.st (by rw[ev];rfl) (by simp) λw15 L4 xm zw=>?_;have yn:=xf.one xm L4.2;have L1:=L1.one xm hx;have yu:=xt.one xm nv4;have xl:=(hv.trans U).one xm hr;have hg14l:=yg.lev;refine⟨M',s',yn,by omega,λw16 zu xk=>?_⟩;refine⟨M',_,⟨12,(cur s).t,l,[],(cur s).a⟩,v,.slice none 0 0,zu,xp.now.back yg,xl.trans xk,L1.eff xk,L4.eff xk,(ER.noK rfl (yu.le (by omega))).eff xk,by rw[el];rfl⟩
  ·
   have hc:¬((cur s).k=1/\(cur s).t≠GP):=by simpa using yl
   rw[aJ hc]at hK ht⊢;simp only[kJ]at hK ht⊢;have ret5:∀{w7 w8:World} {M':Lay} {s':PS} {e:Ex} {va vk:Value},PR w0 w7 p f M' vt s' top->Loc w0 w7 p f M' vt b1 PpT [.pointer (some ⟨p,0,none⟩)]->Loc w0 w7 p f M' vt b4 ExT [i64 0,str [],.slice none 0 0,.slice none 0 0,i64 (cur s).a]->ER w0 w7 p f M' vt w8.heap.size e va vk->b4<w8.heap.size->w.heap.size<=w8.heap.size->∀{KW:World->Prop},
     (∀w9,PR w0 w9 p f M' vt s' top->Chg (One b4) w7 w9->Loc w0 w9 p f M' vt b1 PpT [.pointer (some ⟨p,0,none⟩)]->Loc w0 w9 p f M' vt b4 ExT (exc e va vk)->ER w0 w9 p f M' vt w.heap.size e va vk->KW w9)->stW 5 (.pointer (some ⟨b4,0,none⟩)) (.agg (exc e va vk).toArray) w7 KW:=λ{w7 w8 M' s' e va vk} h7 L1 L4 xq hb hw {KW} zt=>by
    refine dD (l:=exc e va vk) L4.1 rfl rfl (JG xq) λw9 ya zo hh=>?_;exact zt w9 (h7.one hh L4.2) hh (L1.one hh hx) ⟨zo,L4.2.up (by omega)⟩ ((xq.one hh (λe=>by have:=xq.rA.new b4 e;omega) (λe=>by have:=xq.rK.new b4 e;omega)).le hw)
   refine L1.ld rfl ?_;refine Ac h6 xc λw7 h7 o=>?_;rw[jX]at h7;have L1:=L1.eff o;have L3:=L3.eff o;have L4:=L4.eff o;have o:=xu.trans o;rw[kJ,dU];refine⟨λhi=>?_,λhi=>?_⟩
   ·rw[aO hi]at hK ht;have lt1:=L1.lt;have uf:=o.chg.size;refine cI λb5 w8 zp yo yw yb=>?_;have h8:=h7.ext yb;have L5:=h7.loc yo zp yw;refine L5.st rfl (by simp) λw9 L5 hh ya=>?_;have h9:=h8.one hh L5.2;have L1:=(L1.ext yb).one hh (by omega);have L3:=(L3.ext yb).one hh (by have:=L3.lt;omega);have hs:=(o.x yb).one hh (by omega);refine L1.ld rfl ?_;refine L3.ldf rfl ?_;refine pQ h9 xw (λhd=>ht 7 _ (by rw[sW hd])) λhd w10 xi j=>?_;obtain⟨d,rfl⟩:∃d,dl=d+1:=⟨dl-1,by omega⟩;rw[wE hd]at ht hK;obtain⟨q1,q2,q3,q4⟩:=hg.sign hi true;have L1:=L1.eff j;have L5:=L5.eff j;have j:=hs.trans j;refine gG (caps:=[.pointer (some ⟨b1,0,none⟩),.pointer (some ⟨b5,0,none⟩)]) ?_;refine Rr ?_;unfold Yb;refine L1.ld rfl ?_;refine xi.go (wsi q1.ws q1.l) λw11 yf ho zx=>?_;have L1:=L1.eff ho;have L5:=L5.eff ho;have ho:=j.trans ho;refine L1.ld rfl ?_;refine hE d rfl w11 p M vt _ top N _ yf q4 (λx s' ex M' w12 xh I=>?_) λc a' ex=>ht c a' (by rw[ex];rfl);obtain⟨g12,_⟩:=q4.e hF ex;rw[ex]at hK ht;simp only[R.bind]at hK ht;have L1:=L1.eff I;have L5:=L5.eff I;have I:=ho.trans I;refine L5.st rfl (by simp) λw13 L5 hz yq=>?_;have xg:=xh.one hz L5.2;have L1:=L1.one hz (by omega);have hv:=I.one hz (by omega);refine L1.ld rfl ?_;refine wF xg g12.ws hN g12.l (λs3 e3 w14 xf U=>?_) λc a' e3=>ht c a' (by rw[e3]);rw[e3]at hK;simp only at hK;obtain⟨g14,_⟩:=g12.want e3;have g14l:=g14.lev;refine⟨M',s3,xf,by omega,λw15 yn xl=>?_⟩;refine((L5.eff U).eff xl).ld rfl ?_;exact hK x _ rfl M' w15 yn ((hv.trans U).trans xl)
   rw[aJ (by rw[hi];decide)]at hK ht⊢;refine L1.ld rfl ?_;refine Ac h7 xc λw8 h8 hj=>?_;rw[jX]at h8;have L1:=L1.eff hj;have L3:=L3.eff hj;have L4:=L4.eff hj;have hj:=o.trans hj;rw[kJ,dU];refine⟨λhi=>?_,λhi=>?_⟩
   ·rw[aO hi]at hK ht⊢;refine L1.ld rfl ?_;refine L3.ldf rfl ?_;refine pQ h8 xw (λhd=>ht 7 _ (by rw[sW hd];rfl)) λhd w10 xi j=>?_;obtain⟨d,rfl⟩:∃d,dl=d+1:=⟨dl-1,by omega⟩;rw[wE hd]at ht⊢;obtain⟨q1,q2,q3,q4⟩:=hg.sign hi true;have L1:=L1.eff j;have L3:=L3.eff j;have L4:=L4.eff j;have j:=hj.trans j;refine gG (caps:=[.pointer (some ⟨b1,0,none⟩),.pointer (some ⟨b3,0,none⟩),.pointer (some ⟨b4,0,none⟩)]) ?_;refine Rq ?_;unfold Ya;refine L1.ld rfl ?_;refine fQ L3.1 rfl ?_;have lt4':=L4.lt;refine Vs (hE d rfl) hF xi q1 q3 q2 (λe s' el M' va vk w12 xh g12 I xz=>?_) λc a' el=>ht c a' (by rw[el];rfl);refine ret5 xh (L1.eff I) (L4.eff I) xz lt4' j.chg.size λw13 xg hz L1 L4 xy=>?_;have g12l:=g12.lev;refine⟨M',s',xg,by omega,λw14 xf U=>?_⟩;exact⟨M',_,e,va,vk,xf,xc.back g12,((j.trans I).one hz hr).trans U,L1.eff U,L4.eff U,xy.eff U,by rw[el];rfl⟩
   rw[aJ (by rw[hi];decide)]at hK ht⊢;refine L1.ld rfl ?_;refine Ac h8 xc λw9 h9 hs=>?_;rw[jX]at h9;have L1:=L1.eff hs;have L3:=L3.eff hs;have L4:=L4.eff hs;have hs:=hj.trans hs;rw[kJ,dU];refine⟨λhi=>?_,λhi=>?_⟩
   ·rw[aO hi]at hK ht⊢;refine L1.ld rfl ?_;refine L3.ldf rfl ?_;refine pQ h9 xw (λhd=>ht 7 _ (by rw[sW hd];rfl)) λhd w10 xi j=>?_;obtain⟨d,rfl⟩:∃d,dl=d+1:=⟨dl-1,by omega⟩;rw[wE hd]at ht⊢;obtain⟨q1,q2,q3,q4⟩:=hg.sign hi false;have L1:=L1.eff j;have L3:=L3.eff j;have L4:=L4.eff j;have j:=hs.trans j;refine gG (caps:=[.pointer (some ⟨b1,0,none⟩),.pointer (some ⟨b3,0,none⟩),.pointer (some ⟨b4,0,none⟩)]) ?_;refine Rm ?_;unfold XY;refine L1.ld rfl ?_;refine fQ L3.1 rfl ?_;have lt4':=L4.lt;refine Mj (hE d rfl) hF xi q1 q3 q2 (λe s' el M' va vk w12 xh g12 I xz=>?_) λc a' el=>ht c a' (by rw[el];rfl);refine ret5 xh (L1.eff I) (L4.eff I) xz lt4' j.chg.size λw13 xg hz L1 L4 xy=>?_;have g12l:=g12.lev;refine⟨M',s',xg,by omega,λw14 xf U=>?_⟩;exact⟨M',_,e,va,vk,xf,xc.back g12,((j.trans I).one hz hr).trans U,L1.eff U,L4.eff U,xy.eff U,by rw[el];rfl⟩
   ·rw[aJ (by rw[hi];decide)]at ht;refine L3.ldf rfl ?_;exact qN h9 (ht _ _ rfl)
 ·rintro _ g w7 ⟨M1,s1,e,va,vk,h7,zm,o,L1,L4,xq,ea⟩;rw[ea]at hK;refine L1.ld rfl ?_;refine fQ L4.1 rfl ?_;refine Gt h7 o xq zm λM' w8 h8 hj _=>?_;exact hK _ _ rfl M' w8 h8 hj
end
section
variable [HX]
variable{w0 w w' w1:World}{p f b:Nat}{M M' M0:Lay}{vt:Value}{s:PS}{top:List Nat}{N:Int}{K:Q0}{e:Ex}{va vk:Value}{wbn:Nat}{wb:World}{dl:Nat}
theorem PR.row_new{l:List Nat}(h:PR w0 w p f M vt s top){r:Nat}(I:r=w.heap.size)(o:w'.heap.size=w.heap.size+1)(hb:w'.heap[r]?=some (.cells (ints l).toArray lC (0,0)))(hl:l.length<=1000000):
  Ro w0 w' p f M vt w.heap.size lC 1 (.slice (some ⟨r,0,none⟩) l.length l.length) l.length (ints l):=
 ⟨Me hb (by have:=h.base;omega) (sQ l) hl,λk j=>by simp only[Value.ownBlock,aV]at j;subst j;exact h.off_new (by omega) (by omega),λk j=>by simp only[Value.ownBlock,aV]at j;omega⟩
theorem Un{E:PS->R Nat}(hS:xI w0 f)(hE:∀d,dl=d+1->EC w0 f 118 E d)(hF:rQ E):EC w0 f 220 (Ba E) dl:=by
 intro w p M vt s top N K h hg hK ht;refine Rz ?_;unfold Yi;have hN:=hg.hN;refine uG rfl λb1 w1 zb zh za yq=>?_;have h1:=h.ext yq;have L1:=h.loc zh zb za;refine L1.ld rfl ?_;unfold Ba at hK ht;refine VO hS hE hF w1 p M vt s top N _ h1 hg (λx s1 ex M1 w2 h2 xl=>?_) λc a' ex=>ht c a' (by rw[ex];rfl);rw[ex]at hK ht;simp only[R.bind]at hK ht;have hA:rQ (xH E):=⟨λN=>Hz (hF.ok N),Gx hF.z⟩;obtain⟨yk,zm⟩:=hg.e hA ex;have etl:=(hA.ok N) s hg.ws;rw[ex]at etl;have etl:=congrArg List.length etl.1.1.toks;have L1:=L1.eff xl;have xl:=(Eff.ext yq).trans xl;generalize hR:qE E (s.toks.length+1) s1 x=R0 at hK ht;refine eJ.go (λst w'=>∃s1 M1 x n,st=[i64 ((x:Nat):Int)]/\PR w0 w' p f M1 vt s1 top/\Gd N s1 dl/\Eff p f M M1 w w'/\Loc w0 w' p f M1 vt b1 PpT [.pointer (some ⟨p,0,none⟩)]/\qE E n s1 x=R0/\s1.toks.length<n+s1.i/\s1.toks.length=s.toks.length) (λ_ w'=>s.toks.length-yU w' p)
  ⟨s1,M1,x,s.toks.length+1,rfl,h2,yk,xl,L1,hR,by have:=yk.ws.lt;omega,etl⟩ ?_
 clear xl L1 h2 ex yk zm etl hR;rintro st g w2 ⟨s2,M2,y,n,rfl,h2,xb,xl,L1,j,hn,uw⟩;simp only[aF];have ue:=xb.ws.lt;have uy:=xb.at0;obtain⟨n,rfl⟩:∃m,n=m+1:=⟨n-1,by omega⟩;simp only[qE]at j;refine L1.ld rfl ?_;refine oJ h2 xb.ws hN xb.l λw3 h3 xz=>?_;have L1:=L1.eff xz;have xz:=xl.trans xz;have xk:=xb.now;have lt1:=L1.lt;have uv:=xz.chg.size;refine cI λb4 w4 zq zg yz yg=>?_;have h4:=h3.ext yg;have L4:=h3.loc zg zq yz;have L1:=L1.ext yg;refine dD (l:=iT (cur s2)) L4.1 rfl rfl rfl λw5 um yy yl=>?_;have L4:Loc w0 w5 p f M2 vt b4 TkT (iT (cur s2)):=⟨yy,L4.2.up (by omega)⟩;have h5:=h4.one yl L4.2;have L1:=L1.one yl (by omega);have zn:=(xz.x yg).one yl (by omega);have ua:b1=w.heap.size:=zb;have fin:∀{w6:World} {M6:Lay} {s6:PS} {e:Ex} {va:Value},PR w0 w6 p f M6 vt s6 top->Gd N s6 dl->Eff p f M M6 w w6->Loc w0 w6 p f M6 vt b1 PpT [.pointer (some ⟨p,0,none⟩)]->Ro w0 w6 p f M6 vt w1.heap.size lC 1 va e.args.length (ints e.args)->e.keys=[]->s2.i<s6.i->Syn.phi s6+1<=Syn.phi s2->s6.toks.length=s.toks.length->((qV s6 e).bind λy s3=>qE E n s3 y)=R0->
   aI P0 158 [.pointer (some ⟨p,0,none⟩),.agg (exc e va (.slice none 0 0)).toArray] w6 λt24 w12=>(∃s1 M1 x n,[t24]=[i64 ((x:Nat):Int)]/\PR w0 w12 p f M1 vt s1 top/\Gd N s1 dl/\Eff p f M M1 w w12/\Loc w0 w12 p f M1 vt b1 PpT [.pointer (some ⟨p,0,none⟩)]/\qE E n s1 x=R0/\s1.toks.length<n+s1.i/\s1.toks.length=s.toks.length)/\s.toks.length-yU w12 p<s.toks.length-yU w2 p:=λ{w6 M6 s6 e va} h6 xa ho L1 hr hk hi ux yr zj=>by
  refine Gt h6 ho (ER.noK hk (hr.le (by omega))) xa λM' w7 h7 I zk=>?_;have ud:=xa.ws.lt;refine⟨⟨_,M',_,n,rfl,h7,?_,I,zk _ _ _ L1 (λe=>by have:=hr.new b1 e;omega) (by simp[Value.ownBlock]),zj,by show s6.toks.length<n+s6.i;omega,yr⟩,?_⟩
  ·exact xa.put (by have:=xb.phi;omega)
  ·rw[h7.at_,h2.at_];show s.toks.length-s6.i<_;omega
 have yi:=jE xb.ws;have hn1t:=congrArg List.length yi.toks;refine L1.ld rfl ?_;refine tJ h5 xk.ws hN xk.l λw6 h6 ho=>?_;have L1:=L1.eff ho;have L4:=L4.eff ho;have ho:=zn.trans ho;have tg:=lH xk.ws [46];have tgt:=congrArg List.length tg.1.toks;have xa:=xk.take [46];have tp:=mF (bE s2) [46];have np:=lN s2;rw[dU];refine⟨λhy=>?_,λxp=>?_⟩
 ·
  rw[aO hy]at j;have tp:=tp.2 hy;have ti:=tg.2.1 hy;have L1:=L1.drew;have L4:=L4.drew;have h6:=h6.drew;have ho:=ho.x (cP w6);have ld1:∀{w':World} {M':Lay},Loc w0 w' p f M' vt b1 PpT [.pointer (some ⟨p,0,none⟩)]->ldW false 1 (.pointer (some ⟨b1,0,none⟩)) w' λx=>x=.pointer (some ⟨p,0,none⟩):=λL=>L.ld rfl rfl;have ld4:∀{w':World} {M':Lay},Loc w0 w' p f M' vt b4 TkT (iT (cur s2))->ldW false 1 (.pointer (some ⟨b4,2,none⟩)) w' λx=>x=i64 (cur s2).a:=λL=>L.ld rfl rfl;refine L1.ld rfl ?_;refine L1.ld rfl ?_;rw[bD,bG,aH];refine L4.ld rfl ?_;have uu:=ho.chg.size;have xt:w1.heap.size<=w6.drew.heap.size:=by have:=ho.chg.size;have:=L1.lt;omega
  have kd:∀{w':World} {KK:Q0},PR w0 w' p f M2 vt (cD (bE s2) [46]).2 top->(∀u s7,mH (cD (bE s2) [46]).2 1=.ok u s7->∀w'',PR w0 w'' p f M2 vt s7 top->Eff p f M2 M2 w' w''->KK (.agg (iT u).toArray) w'')->aI P0 62 [.pointer (some ⟨p,0,none⟩),.int .i64 1] w' KK:=λ{w' KK} h yn=>
   wV h xa.ws hN xa.l yn λc a' eu=>ht c a' (by rw[<-j,eu];rfl)
  have done:∀{u:Tok} {s7:PS},mH (cD (bE s2) [46]).2 1=.ok u s7->Gd N s7 dl/\s2.i<s7.i/\Syn.phi s7+1<=Syn.phi s2/\s7.toks.length=s.toks.length/\((qV s7 ⟨10,u.t,[y],[],(cur s2).a⟩).bind λy s3=>qE E n s3 y)=R0:=λ{u s7} eu=>by
   have hk:=xa.kind (by decide) eu;have xx:=mW xa.ws 1 (by decide);have xj:=oW (cD (bE s2) [46]).2 1;rw[eu]at xx xj j;have zl:=congrArg List.length xx.1.1.toks;have xj:=xj.1;have h1:=yi.le;exact⟨hk.1,by have:=hk.2.1;omega,by omega,by omega,j⟩
  refine⟨?_,?_,?_,?_,?_,?_⟩
  ·refine kd h6 λu s7 eu w7 h7 I=>?_;have L1:=L1.eff I;have L4:=L4.eff I;have xy:=ho.trans I;refine⟨ld4 L4,ld1 L1,str u.t,rfl,ld4 L4,ld1 L1,?_⟩;refine lM λr w8 hr xh hs U=>?_;refine⟨ld4 (L4.ext U),ld1 (L1.ext U),?_⟩;simp only[dF,dK,dZ,dC,aB,aK,aL,aN,Nat.reduceAdd,Nat.reduceLT,cZ,aS];obtain⟨d1,d2,d3,d4,d5⟩:=done eu;exact fin (e:=⟨10,u.t,[y],[],(cur s2).a⟩) (h7.ext U) d1 (xy.x U) (L1.ext U) ((h7.row_new (l:=[y]) hr xh hs (by simp)).le (by have:=I.chg.size;omega)) rfl d2 d3 d4 d5
  ·exact ld4 L4
  ·exact ld1 L1
  ·exact ld1 L1
  ·refine kd h6 λu s7 eu w7 h7 I=>?_;have L1:=L1.eff I;have L4:=L4.eff I;have xy:=ho.trans I;refine⟨ld4 L4,ld1 L1,str u.t,rfl,?_⟩;refine lM λr w8 hr xh hs U=>?_;refine⟨ld4 (L4.ext U),ld1 (L1.ext U),?_⟩;simp only[dF,dK,dZ,dC,aB,aK,aL,aN,Nat.reduceAdd,Nat.reduceLT,cZ,aS];obtain⟨d1,d2,d3,d4,d5⟩:=done eu;exact fin (e:=⟨10,u.t,[y],[],(cur s2).a⟩) (h7.ext U) d1 (xy.x U) (L1.ext U) ((h7.row_new (l:=[y]) hr xh hs (by simp)).le (by have:=I.chg.size;omega)) rfl d2 d3 d4 d5
  ·refine lM λr w8 hr xh hs U=>?_;have L1:=L1.ext U;have L4:=L4.ext U;have rw8:=h6.row_new (l:=[y]) hr xh hs (by simp);refine⟨ld4 L4,ld1 L1,ld1 L1,?_⟩;refine kd (h6.ext U) λu s7 eu w7 h7 I=>?_;have L1:=L1.eff I;have L4:=L4.eff I;refine⟨ld4 L4,ld1 L1,str u.t,rfl,?_⟩;simp only[dF,dK,dZ,dC,aB,aK,aL,aN,Nat.reduceAdd,Nat.reduceLT,cZ,aS];obtain⟨d1,d2,d3,d4,d5⟩:=done eu;exact fin (e:=⟨10,u.t,[y],[],(cur s2).a⟩) h7 d1 ((ho.x U).trans I) L1 ((rw8.eff I).le (by omega)) rfl d2 d3 d4 d5
 ·have xp:(cD (bE s2) [46]).1=false:=by simpa using xp
  rw[aJ (by rw[xp];decide)]at j;have e6:(cD (bE s2) [46]).2=bE s2:=by
   unfold cD at xp⊢;split
   ·rename_i hi;rw[aO hi]at xp;cases xp
   ·exact jX s2
  rw[e6]at h6;refine L1.ld rfl ?_;refine Ac h6 xk λw7 h7 I=>?_;rw[jX]at h7;have L1:=L1.eff I;have L4:=L4.eff I;have I:=ho.trans I;simp only[kJ]at j⊢;rw[dU];refine⟨λhi=>?_,λhi=>?_⟩
  ·rw[aO hi]at j;have uq:=I.chg.size;have lt1:=L1.lt;have lt4:=L4.lt;refine cI λb5 w8 zp xh yx U=>?_;have h8:=h7.ext U;have L5:=h7.loc xh zp yx;have L1:=L1.ext U;have L4:=L4.ext U;refine cI λb6 w9 zo zf yw xu=>?_;have h9:=h8.ext xu;have L6:=h8.loc zf zo yw;have L1:=L1.ext xu;have L4:=L4.ext xu;have L5:=L5.ext xu;refine L5.st rfl (by simp) λw10 L5 xf zz=>?_;have zu:=h9.one xf L5.2;have L1:=L1.one xf (by omega);have L4:=L4.one xf (by omega);have L6:=L6.one xf (by omega);refine L6.st rfl (by simp) λw11 L6 xe zy=>?_;have zt:=zu.one xe L6.2;have L1:=L1.one xe (by omega);have L4:=L4.one xe (by omega);have L5:=L5.one xe (by omega);have yu:=(((I.x U).x xu).one xf (by omega)).one xe (by omega);refine L1.ld rfl ?_;refine L4.ldf rfl ?_;have uf:=xk.lev;refine pQ zt (by omega) (λhd=>ht 7 _ (by rw[<-j,sW hd];rfl)) λhd w12 zs hz=>?_;obtain⟨d,rfl⟩:∃d,dl=d+1:=⟨dl-1,by omega⟩;rw[wE hd]at j;obtain⟨q1,q2,q3,q4⟩:=xb.sign hi true;have L1:=L1.eff hz;have L4:=L4.eff hz;have L5:=L5.eff hz;have L6:=L6.eff hz;have hz:=yu.trans hz;refine gG (caps:=[.pointer (some ⟨b1,0,none⟩),.pointer (some ⟨b6,0,none⟩),.pointer (some ⟨b5,0,none⟩)]) ?_;refine Rx ?_;unfold Yg;refine L1.ld rfl ?_;refine zs.go (wsi q1.ws q1.l) λw13 zr hv zx=>?_;have L1:=L1.eff hv;have L4:=L4.eff hv;have L5:=L5.eff hv;have L6:=L6.eff hv;have hv:=hz.trans hv;generalize yd:({bE s2 with deep:=(bE s2).deep+1,quiet:=true}:PS)=q0 at*
   have uc:∀x:PS,x=(⟨(bE s2).toks,(bE s2).i,(bE s2).off,(bE s2).deep+1,true,(bE s2).ex,(bE s2).bl⟩:PS)->x=q0:=λx hx=>hx.trans yd;have q0p:Syn.phi q0=Syn.phi (bE s2):=by rw[<-yd];rfl
   have q0i:q0.i=(bE s2).i:=by rw[<-yd]
   have q0t:q0.toks=(bE s2).toks:=by rw[<-yd]
   have st0:=lI q1.ws q3;rw[q2]at st0;have sp0:=(pS q3).2;rw[q2]at sp0;have q4l:=q4.lev;have n1le:=yi.le;have tg5:=lH q4.ws [42];have tp5:=mF (step1 q0) [42];have g5:=q4.take [42];have tg5t:=congrArg List.length tg5.1.toks;have st0t:=congrArg List.length st0.1.toks;have q0tl:=congrArg List.length q0t;refine cX.cut (λ_ w'=>∃M6 o s6,(((if(cD (step1 q0) [42]).1=true then .ok none (cD (step1 q0) [42]).2 else(E (cD (step1 q0) [42]).2).bind λy q1=>.ok (some y) q1):R (Option Nat))=.ok o s6)/\PR w0 w' p f M6 vt s6 top/\Gd N s6 d/\Eff p f M M6 w w'/\Loc w0 w' p f M6 vt b1 PpT [.pointer (some ⟨p,0,none⟩)]/\Loc w0 w' p f M6 vt b4 TkT (iT (cur s2))/\Loc w0 w' p f M6 vt b6 4 [.bool o.isNone]/\Loc w0 w' p f M6 vt b5 lC [i64 ((o.getD 0:Nat):Int)]/\s6.i>=(step1 q0).i/\Syn.phi s6<=Syn.phi (step1 q0)/\s6.toks.length=s.toks.length) ?_ ?_
   ·refine L1.ld rfl ?_;refine tJ zr q4.ws hN q4.l λw14 yo hq=>?_;have L1:=L1.eff hq;have L4:=L4.eff hq;have L5:=L5.eff hq;have L6:=L6.eff hq;have hq:=hv.trans hq;refine L6.st rfl (by simp) λw15 L6 xd zw=>?_;have ye:=yo.one xd L6.2;have L1:=L1.one xd (by omega);have L4:=L4.one xd (by omega);have L5:=L5.one xd (by omega);have hh:=hq.one xd (by omega);refine L6.ld rfl ?_;rw[fG,dU];refine⟨λxw=>?_,λxi=>?_⟩
    ·have xw:(cD (step1 q0) [42]).1=false:=by simpa using xw
     rw[xw]at L6;refine L1.ld rfl ?_;refine hE d rfl w15 p M2 vt _ top N _ ye g5 (λz s6 ez M6 w16 yb J=>?_) λc a' ez=>ht c a' ?_
     ·obtain⟨g6,i6⟩:=g5.e hF ez;have ep:=hF.z (cD (step1 q0) [42]).2;have eo:=hF.ok N _ g5.ws;rw[ez]at ep eo;have eot:=congrArg List.length eo.1.1.toks;have ep:Syn.phi s6<=Syn.phi (cD (step1 q0) [42]).2:=ep;have L1:=L1.eff J;have L4:=L4.eff J;have L5:=L5.eff J;have L6:=L6.eff J;refine L5.st rfl (by simp) λw17 L5 xc yf=>?_;refine⟨M6,some z,s6,?_,yb.one xc L5.2,g6,(hh.trans J).one xc (by omega),L1.one xc (by omega),L4.one xc (by omega),L6.one xc (by omega),L5,by have:=tg5.1.le;omega,by have:=tp5.1;omega,by omega⟩;rw[aJ (by rw[xw];decide),ez];rfl
     ·rw[<-j];rw[aJ (by rw[xw];decide),ez];rfl
    ·have xi:(cD (step1 q0) [42]).1=true:=by simpa using xi
     rw[xi]at L6;exact⟨M2,none,_,by rw[aO xi],ye,g5,hh,L1,L4,L6,L5,tg5.1.le,tp5.1,by omega⟩
   rintro _ g2 w14 ⟨M6,o,s6,eo,yo,g6,hq,L1,L4,L6,L5,i6,p6,t6⟩;have ys:((oI s6 [93]).bind λ_ q2=>.ok o q2)=(if(cD (step1 q0) [42]).1=true then(oI (cD (step1 q0) [42]).2 [93]).bind λ_ q2=>.ok none q2 else(E (cD (step1 q0) [42]).2).bind λy q1=>(oI q1 [93]).bind λ_ q2=>.ok (some y) q2):=by
    by_cases xi:(cD (step1 q0) [42]).1=true
    ·rw[aO xi]at eo⊢;injection eo with e1 e2
     subst e1 e2;rfl
    ·rw[aJ xi]at eo⊢;cases yt:E (cD (step1 q0) [42]).2 with
     |err c a=>rw[yt]at eo;cases eo
     |ok z s7=>
      rw[yt]at eo;simp only[R.bind]at eo;injection eo with e1 e2
      subst e1 e2;rfl
   rw[<-ys]at j;refine L1.ld rfl ?_;refine wF yo g6.ws hN g6.l (λs7 e7 w15 ye hh=>?_) λc a' e7=>ht c a' (by rw[<-j,e7];rfl);rw[e7]at j;simp only[R.bind]at j;obtain⟨g7,i7,_⟩:=g6.want e7;have w7:=mE s6 [93];have w7s:=lU g6.ws [93];rw[e7]at w7 w7s;have w7:Syn.phi s7+1<=Syn.phi s6:=w7;have w7t:=congrArg List.length w7s.1.1.toks;have g7l:=g7.lev;have L1:=L1.eff hh;have L4:=L4.eff hh;have L5:=L5.eff hh;have L6:=L6.eff hh;have hh:=hq.trans hh;refine⟨M6,s7,ye,by omega,λw16 yb J=>?_⟩;have L1:=L1.eff J;have L4:=L4.eff J;have L5:=L5.eff J;have L6:=L6.eff J;have J:=hh.trans J;have g8:Gd N {s7 with deep:=(bE s2).deep,quiet:=(bE s2).quiet} (d+1):=xk.back g7;have st1i:(step1 q0).i=(bE s2).i+1:=by show q0.i+1=_;rw[q0i]
   refine L6.ld rfl ?_;rw[fG,dU];cases o with
   |some z=>
    refine⟨λ_=>?_,λe=>by cases e⟩;simp only at j;refine L1.ld rfl ?_;refine L5.ld rfl ?_;have xt:w1.heap.size<=w16.heap.size:=by have:=L1.lt;omega
    refine Hu λr w17 hr yf hs xo=>?_;refine(L4.ext xo).ldf rfl ?_;simp only[dF,dK,dZ,dC,aB,aK,aL,aN,Nat.reduceAdd,Nat.reduceLT,cZ,aS];refine fin (e:=⟨11,[],[y,z],[],(cur s2).a⟩) (yb.ext xo) g8 (J.x xo) (L1.ext xo) ((yb.row_new (l:=[y,z]) hr yf hs (by simp)).le xt) rfl ?_ ?_ ?_ j
    ·show s2.i<s7.i;omega
    ·show Syn.phi s7+1<=_;omega
    ·show s7.toks.length=_;omega
   |none=>
    refine⟨λe=>(by cases e),λ_=>?_⟩;simp only at j;refine L1.ld rfl ?_;refine wF yb g8.ws hN g8.l (λs9 e9 w17 xq ya=>?_) λc a' e9=>ht c a' (by rw[<-j,e9]);rw[e9]at j;simp only[R.bind]at j;obtain⟨g9,i9,_⟩:=g8.want e9;generalize yh:({s7 with deep:=(bE s2).deep,quiet:=(bE s2).quiet}:PS)=s8 at*
    have s8p:Syn.phi s8=Syn.phi s7:=by rw[<-yh];rfl
    have s8i:s8.i=s7.i:=by rw[<-yh]
    have s8t:s8.toks=s7.toks:=by rw[<-yh]
    have s8t:=congrArg List.length s8t;have w9:=mE s8 [46];have w9s:=lU g8.ws [46];rw[e9]at w9 w9s;have w9:Syn.phi s9+1<=Syn.phi s8:=w9;have w9t:=congrArg List.length w9s.1.1.toks;have L1:=(L1.eff ya).drew;have L4:=(L4.eff ya).drew;have xq:=xq.drew;have xm:=(J.trans ya).x (cP w17);have xt:w1.heap.size<=w17.drew.heap.size:=by have:=L1.lt;omega
    have ld1:∀{w':World} {M':Lay},Loc w0 w' p f M' vt b1 PpT [.pointer (some ⟨p,0,none⟩)]->ldW false 1 (.pointer (some ⟨b1,0,none⟩)) w' λx=>x=.pointer (some ⟨p,0,none⟩):=λL=>L.ld rfl rfl;have ld4:∀{w':World} {M':Lay},Loc w0 w' p f M' vt b4 TkT (iT (cur s2))->ldW false 1 (.pointer (some ⟨b4,2,none⟩)) w' λx=>x=i64 (cur s2).a:=λL=>L.ld rfl rfl;refine L1.ld rfl ?_;refine L1.ld rfl ?_;rw[bD,bG,aH];refine L4.ld rfl ?_;have kd:∀{w':World} {KK:Q0},PR w0 w' p f M6 vt s9 top->(∀u s7,mH s9 1=.ok u s7->∀w'',PR w0 w'' p f M6 vt s7 top->Eff p f M6 M6 w' w''->KK (.agg (iT u).toArray) w'')->aI P0 62 [.pointer (some ⟨p,0,none⟩),.int .i64 1] w' KK:=λ{w' KK} h yn=>
     wV h g9.ws hN g9.l yn λc a' eu=>ht c a' (by rw[<-j,eu])
    have done:∀{u:Tok} {sa:PS},mH s9 1=.ok u sa->Gd N sa (d+1)/\s2.i<sa.i/\Syn.phi sa+1<=Syn.phi s2/\sa.toks.length=s.toks.length/\((qV sa ⟨30,u.t,[y],[],(cur s2).a⟩).bind λy s3=>qE E n s3 y)=R0:=λ{u sa} eu=>by
     have hk:=g9.kind (by decide) eu;have xx:=mW g9.ws 1 (by decide);have xj:=oW s9 1;rw[eu]at xx xj j;have zl:=congrArg List.length xx.1.1.toks;have xj:=xj.1;exact⟨hk.1,by have:=hk.2.1;omega,by omega,by omega,j⟩
    refine⟨?_,?_,?_,?_,?_,?_⟩
    ·refine kd xq λu sa eu wa ha hj=>?_;have L1:=L1.eff hj;have L4:=L4.eff hj;refine⟨ld4 L4,ld1 L1,str u.t,rfl,ld4 L4,ld1 L1,?_⟩;refine lM λr wb hr xr hs hc=>?_;refine⟨ld4 (L4.ext hc),ld1 (L1.ext hc),?_⟩;simp only[dF,dK,dZ,dC,aB,aK,aL,aN,Nat.reduceAdd,Nat.reduceLT,cZ,aS];obtain⟨d1,d2,d3,d4,d5⟩:=done eu;exact fin (e:=⟨30,u.t,[y],[],(cur s2).a⟩) (ha.ext hc) d1 ((xm.trans hj).x hc) (L1.ext hc) ((ha.row_new (l:=[y]) hr xr hs (by simp)).le (by have:=hj.chg.size;omega)) rfl d2 d3 d4 d5
    ·exact ld4 L4
    ·exact ld1 L1
    ·exact ld1 L1
    ·refine kd xq λu sa eu wa ha hj=>?_;have L1:=L1.eff hj;have L4:=L4.eff hj;refine⟨ld4 L4,ld1 L1,str u.t,rfl,?_⟩;refine lM λr wb hr xr hs hc=>?_;refine⟨ld4 (L4.ext hc),ld1 (L1.ext hc),?_⟩;simp only[dF,dK,dZ,dC,aB,aK,aL,aN,Nat.reduceAdd,Nat.reduceLT,cZ,aS];obtain⟨d1,d2,d3,d4,d5⟩:=done eu;exact fin (e:=⟨30,u.t,[y],[],(cur s2).a⟩) (ha.ext hc) d1 ((xm.trans hj).x hc) (L1.ext hc) ((ha.row_new (l:=[y]) hr xr hs (by simp)).le (by have:=hj.chg.size;omega)) rfl d2 d3 d4 d5
    ·refine lM λr wb hr xr hs hc=>?_;have L1:=L1.ext hc;have L4:=L4.ext hc;have rwb:=xq.row_new (l:=[y]) hr xr hs (by simp);refine⟨ld4 L4,ld1 L1,ld1 L1,?_⟩;refine kd (xq.ext hc) λu sa eu wa ha hj=>?_;have L1:=L1.eff hj;have L4:=L4.eff hj;refine⟨ld4 L4,ld1 L1,str u.t,rfl,?_⟩;simp only[dF,dK,dZ,dC,aB,aK,aL,aN,Nat.reduceAdd,Nat.reduceLT,cZ,aS];obtain⟨d1,d2,d3,d4,d5⟩:=done eu;exact fin (e:=⟨30,u.t,[y],[],(cur s2).a⟩) ha d1 ((xm.x hc).trans hj) L1 ((rwb.eff hj).le (by omega)) rfl d2 d3 d4 d5
  ·have hi:isS s2 [91]=false:=by simpa using hi
   rw[aJ (by rw[hi];decide)]at j;exact hK y _ j.symm M2 w7 h7 I
end
section
variable [HX]
variable{w0 w w' w1:World}{p f b:Nat}{M M' M0:Lay}{vt:Value}{s:PS}{top:List Nat}{N:Int}{K:Q0}{e:Ex}{va vk:Value}{wbn:Nat}{wb:World}{dl:Nat}
theorem HT{E S:PS->R Nat}(hS:xI w0 f)(hE:∀d,dl=d+1->EC w0 f 118 E d)(hG:∀d,dl=d+1->EC w0 f 203 S d)(hF:rQ E)(xm:rQ S):EC w0 f 203 (vK E S) dl:=by
 intro w p M vt s top N K h hg hK ht;refine RJ ?_;unfold Yq;have hN:=hg.hN;refine uG rfl λb1 w1 xy xt xl xd=>?_;have h1:=h.ext xd;have L1:=h.loc xt xy xl;refine L1.ld rfl ?_;refine oJ h1 hg.ws hN hg.l λw2 h2 ho=>?_;have L1:=L1.eff ho;have ho:=(Eff.ext xd).trans ho;have lt1:=L1.lt;have hk:=hg.now;refine cI λb3 w3 xx xr xk hy=>?_;have h3:=h2.ext hy;have L3:=h2.loc xr xx xk;have L1:=L1.ext hy;refine dD (l:=iT (cur s)) L3.1 rfl rfl rfl λw4 yh xj xa=>?_;have L3:Loc w0 w4 p f M vt b3 TkT (iT (cur s)):=⟨xj,L3.2.up (by omega)⟩;have h4:=h3.one xa L3.2;have L1:=L1.one xa (by omega);have yj:=ho.chg.size;have xv:=(ho.x hy).one xa (by omega);refine cX.cut (λst w'=>∃(k:Int) (x:Str),st=[i64 k]/\isS s x=true/\vK E S s=((within (bE s) (cur s).a (bE s).quiet λq=>S (step1 q)).bind λx s2=>qV s2 ⟨k,[],[x],[],(cur s).a⟩)/\PR w0 w' p f M vt (bE s) top/\Eff p f M M w w'/\Loc w0 w' p f M vt b1 PpT [.pointer (some ⟨p,0,none⟩)]/\Loc w0 w' p f M vt b3 TkT (iT (cur s))) ?_ ?_
 ·unfold vK at hK ht⊢;simp only[kJ]at hK ht⊢;refine L1.ld rfl ?_;refine Ac h4 hk λw5 h5 I=>?_;rw[jX]at h5;have L1:=L1.eff I;have L3:=L3.eff I;have I:=xv.trans I;rw[kJ,dU];refine⟨λhi=>⟨14,[33],rfl,hi,by rw[aO hi],h5,I,L1,L3⟩,λhi=>?_⟩;rw[aJ (by rw[hi];decide)]at hK ht⊢;refine L1.ld rfl ?_;refine Ac h5 hk λw6 h6 hh=>?_;rw[jX]at h6;have L1:=L1.eff hh;have L3:=L3.eff hh;have hh:=I.trans hh;rw[kJ,dU];refine⟨λhi=>⟨13,[45],rfl,hi,by rw[aO hi],h6,hh,L1,L3⟩,λhi=>?_⟩;rw[aJ (by rw[hi];decide)]at hK ht;refine L1.ld rfl ?_;exact Un hS hE hF w6 p M vt _ top N _ h6 hk (λx s' ex M' w7 h7 hz=>hK x s' ex M' w7 h7 (hh.trans hz)) ht
 rintro st g w5 ⟨k,x,rfl,hi,es,h5,I,L1,L3⟩;rw[es]at hK ht;simp only[aF];have yi:=I.chg.size;have lt1:=L1.lt;have lt3:=L3.lt;refine cI λb5 w6 xw xq xi hs=>?_;have h6:=h5.ext hs;have L5:=h5.loc xq xw xi;have L1:=L1.ext hs;have L3:=L3.ext hs;refine L5.st rfl (by simp) λw7 L5 hx yg=>?_;have h7:=(h6.one hx L5.2).drew;have L1:=(L1.one hx (by omega)).drew;have L3:=(L3.one hx (by omega)).drew;have L5:=L5.drew;have hz:=((I.x hs).one hx (by omega)).x (cP w7);refine L1.ld rfl ?_;rw[bD,bG,aH];refine L3.ld rfl ?_;refine L1.ld rfl ?_;refine h7.ld rfl ?_;have yd:=hk.lev;refine pQ h7 (by omega) (λhd=>ht 7 _ (by rw[sW hd];rfl)) λhd w8 h8 hc=>?_;obtain⟨d,rfl⟩:∃d,dl=d+1:=⟨dl-1,by omega⟩;rw[wE hd]at hK ht;obtain⟨q1,q2,q3,q4⟩:=hg.sign hi (bE s).quiet;have L1:=L1.eff hc;have L3:=L3.eff hc;have L5:=L5.eff hc;have hc:=hz.trans hc;refine gG (caps:=[.pointer (some ⟨b1,0,none⟩),.pointer (some ⟨b5,0,none⟩)]) ?_;refine RA ?_;unfold Yj;refine L1.ld rfl ?_;refine h8.go (wsi q1.ws q1.l) λw9 h9 U yf=>?_;have L1:=L1.eff U;have L3:=L3.eff U;have L5:=L5.eff U;have U:=hc.trans U;refine L1.ld rfl ?_;refine hG d rfl w9 p M vt _ top N _ h9 q4 (λy s' ey M' w10 yb o=>?_) λc a' ey=>ht c a' (by rw[ey];rfl);obtain⟨g10,_⟩:=q4.e xm ey;have pz:=xm.z (step1 {bE s with deep:=(bE s).deep+1,quiet:=(bE s).quiet});rw[ey]at hK pz;have pz:Syn.phi s'<=Syn.phi (step1 (⟨(bE s).toks,(bE s).i,(bE s).off,(bE s).deep+1,(bE s).quiet,(bE s).ex,(bE s).bl⟩:PS)):=pz;have ps:=(pS q3).2;rw[q2]at ps;have pn:=lN s;have pe:Syn.phi (⟨(bE s).toks,(bE s).i,(bE s).off,(bE s).deep+1,(bE s).quiet,(bE s).ex,(bE s).bl⟩:PS)=Syn.phi (bE s):=rfl;simp only[R.bind]at hK;have L1:=L1.eff o;have L3:=L3.eff o;have L5:=L5.eff o;have o:=U.trans o;refine L5.st rfl (by simp) λw11 L5 J yc=>?_;have ya:=yb.one J L5.2;have L1:=L1.one J (by omega);have L3:=L3.one J (by omega);have xh:=o.one J (by omega);have g10l:=g10.lev;refine⟨M',s',ya,by omega,λw12 xo j=>?_⟩;have L1:=L1.eff j;have L3:=L3.eff j;have L5:=L5.eff j;have j:=xh.trans j;refine L1.ld rfl ?_;refine L5.ld rfl ?_;refine lM λr w13 hr xc xu hj=>?_;refine(L3.ext hj).ldf rfl ?_;simp only[dF,dK,dZ,dC,aB,aK,aL,aN,Nat.reduceAdd,Nat.reduceLT,cZ,aS];have xe:=hk.back (q:=(bE s).quiet) g10;refine Gt (e:=⟨k,[],[y],[],(cur s).a⟩) (xo.ext hj) (j.x hj) (ER.noK rfl ((xo.row_new (l:=[y]) hr xc xu (by simp)).le j.chg.size)) xe λM2 w14 xz xg _=>?_;exact hK _ _ rfl M2 w14 xz xg
theorem Ct{E S:PS->R Nat}(hS:xI w0 f)(hE:∀d,dl=d+1->EC w0 f 118 E d)(hG:∀d,dl=d+1->EC w0 f 203 S d)(hF:rQ E)(J:rQ S):∀(m:Nat),m<=6->∀(w:World) (p:Nat) (M:Lay) (vt:Value) (s:PS) (top:List Nat) (N:Int) (K:Q0),PR w0 w p f M vt s top->Gd N s dl->
  (∀x s',qX E S m s=.ok x s'->∀M' w',PR w0 w' p f M' vt s' top->Eff p f M M' w w'->K (i64 (x:Nat)) w')->(∀c a,qX E S m s=.err c a->Thr w0 f c a)->aI P0 155 [.pointer (some ⟨p,0,none⟩),i64 ((6-m:Nat):Int)] w K
 |0,_,w,p,M,vt,s,top,N,K,h,hg,hK,ht=>by
  refine JP ?_
  unfold WM
  rw[bX,bA]
  refine⟨λ_=>?_,λe=>absurd rfl e⟩
  exact HT hS hE hG hF J w p M vt s top N _ h hg hK ht
 |m+1,hm,w,p,M,vt,s,top,N,K,h,hg,hK,ht=>by
  refine JP ?_
  unfold WM
  have hN:=hg.hN
  have hJ:rQ (qX E S m):=⟨λN=>uA (hF.ok N) (J.ok N) m,tY hF.z J.z m⟩
  simp only[qX]at hK ht
  rw[bX,bA]
  refine⟨λe=>by omega,λ_=>?_⟩
  have up:∀{KK:Value->Prop},KK (i64 ((6-m:Nat):Int))->aU .add (i64 ((6-(m+1):Nat):Int)) (.int .i64 1) KK:=λh=>by
   rw[cG,fE (by omega) (by omega),show((6-(m+1):Nat):Int)+1=((6-m:Nat):Int)by omega];exact h
  refine up ?_
  refine Ct hS hE hG hF J m (by omega) w p M vt s top N _ h hg (λx s1 ex M1 w2 h2 hh=>?_) λc a' ex=>ht c a' (by rw[ex];rfl)
  rw[ex]at hK ht
  simp only[R.bind]at hK ht
  obtain⟨hs,xo⟩:=hg.e hJ ex
  have etl:=(hJ.ok N) s hg.ws
  rw[ex]at etl
  have etl:=congrArg List.length etl.1.1.toks
  generalize hR:vN (qX E S m) (5-m) (s.toks.length+1) s1 x=R0 at hK ht
  refine eJ.go (λst w'=>∃s1 M1 x n,st=[i64 ((x:Nat):Int)]/\PR w0 w' p f M1 vt s1 top/\Gd N s1 dl/\Eff p f M M1 w w'/\vN (qX E S m) (5-m) n s1 x=R0/\s1.toks.length<n+s1.i/\s1.toks.length=s.toks.length) (λ_ w'=>s.toks.length-yU w' p)
   ⟨s1,M1,x,s.toks.length+1,rfl,h2,hs,hh,hR,by have:=hs.ws.lt;omega,etl⟩ ?_
  clear hh h2 ex hs xo etl hR
  rintro st g w2 ⟨s2,M2,y,n,rfl,h2,o,hh,j,hn,yd⟩
  simp only[aF]
  have xv:=o.ws.lt
  obtain⟨n,rfl⟩:∃m,n=m+1:=⟨n-1,by omega⟩
  simp only[vN]at j
  refine oJ h2 o.ws hN o.l λw3 h3 hc=>?_
  have hc:=hh.trans hc
  have yc:=hc.chg.size
  have hz:=o.now
  refine cI λb6 w4 xq xl xe hy=>?_
  have h4:=h3.ext hy
  have L6:=h3.loc xl xq xe
  refine dD (l:=iT (cur s2)) L6.1 rfl rfl rfl λw5 yb xd xc=>?_
  have L6:Loc w0 w5 p f M2 vt b6 TkT (iT (cur s2)):=⟨xd,L6.2.up (by omega)⟩
  have h5:=h4.one xc L6.2
  have xp:=(hc.x hy).one xc (by omega)
  refine fQ L6.1 rfl ?_
  refine Qs (by omega) λw6 hk=>?_
  have h6:=h5.ext hk
  have L6:=L6.ext hk
  have xa:=xp.x hk
  have en:(6-(m+1):Nat)=5-m:=by omega
  rw[en,bX,bA]
  refine⟨λh0=>?_,λh0=>?_⟩
  ·rw[aO h0]at j
   exact hK y _ j.symm M2 w6 h6 xa
  ·rw[aJ h0]at j
   have ho:(cur s2).k≠0:=λe=>h0 (by unfold qM;rw[e];rfl)
   have hq:=o.step ho
   have sg:=lI o.ws ho
   have sp:=(pS ho).2
   refine h6.go (wsi hz.ws hz.l) λw7 h7 U ya=>?_
   have L6:=L6.eff U
   have U:=xa.trans U
   have up2:∀{KK:Value->Prop},KK (i64 ((6-m:Nat):Int))->aU .add (i64 ((5-m:Nat):Int)) (.int .i64 1) KK:=λh=>by
    rw[<-en];exact up h
   refine up2 ?_
   refine Ct hS hE hG hF J m (by omega) w7 p M2 vt _ top N _ h7 hq (λz s3 ez M3 w8 h8 I=>?_) λc a' ez=>ht c a' (by rw[<-j,ez];rfl)
   obtain⟨g8,i8⟩:=hq.e hJ ez
   have pz:=hJ.z (step1 (bE s2))
   have oz:=hJ.ok N _ hq.ws
   rw[ez]at j pz oz
   have pz:Syn.phi s3<=Syn.phi (step1 (bE s2)):=pz
   have tz:=congrArg List.length oz.1.1.toks
   have tz2:=congrArg List.length sg.1.toks
   simp only[R.bind]at j
   have L6:=L6.eff I
   have I:=U.trans I
   have xm:=I.chg.size
   refine Hu λr w9 hr xk xn hj=>?_
   refine(L6.ext hj).ldf rfl ?_
   simp only[dF,dK,dZ,dC,aB,aK,aL,aN,Nat.reduceAdd,Nat.reduceLT,cZ,aS]
   refine Gt (e:=⟨qM (cur s2) (5-m),[],[y,z],[],(cur s2).a⟩) (h8.ext hj) (I.x hj) (ER.noK rfl ((h8.row_new (l:=[y,z]) hr xk xn (by simp)).le xm)) g8 λM4 w10 xi xb _=>?_
   have xu:=g8.ws.lt
   have yf:=o.phi
   refine⟨⟨_,M4,_,n,rfl,xi,g8.put (by omega),xb,j,by show s3.toks.length<n+s3.i;omega,by show s3.toks.length=_;omega⟩,?_⟩
   rw[xi.at_,h2.at_]
   show s.toks.length-s3.i<_
   have:=sg.2
   omega
end
theorem LB(s:PS)(w:Str):cD (bE s) w=cD s w:=by unfold cD;rw[kJ,jX]
section
variable [HX]
variable{w0 w w' w1:World}{p f b:Nat}{M M' M0:Lay}{vt:Value}{s:PS}{top:List Nat}{N:Int}{K:Q0}{e:Ex}{va vk:Value}{wbn:Nat}{wb:World}{dl:Nat}
theorem Na{E S:PS->R Nat}(hS:xI w0 f)(hE:∀d,dl=d+1->EC w0 f 118 E d)(hG:∀d,dl=d+1->EC w0 f 203 S d)(hF:rQ E)(xe:rQ S):EC w0 f 118 (yP E S) dl:=by
 intro w p M vt s top N K h hg hK ht;refine SR ?_;unfold Zm;have hN:=hg.hN;have hJ:rQ (qX E S 6):=⟨λN=>uA (hF.ok N) (xe.ok N) 6,tY hF.z xe.z 6⟩;refine uG rfl λb1 w1 yg xy xq xi=>?_;have h1:=h.ext xi;have L1:=h.loc xy yg xq;refine L1.ld rfl ?_;unfold yP at hK ht;refine Ct hS hE hG hF xe 6 (aY _) w1 p M vt s top N _ h1 hg (λa s1 ea M1 w2 h2 xa=>?_) λc a' ea=>ht c a' (by rw[ea];rfl);rw[ea]at hK ht;simp only[R.bind]at hK ht;obtain⟨hz,za⟩:=hg.e hJ ea;have L1:=L1.eff xa;have xa:=(Eff.ext xi).trans xa;refine L1.ld rfl ?_;refine oJ h2 hz.ws hN hz.l λw3 h3 hs=>?_;have L1:=L1.eff hs;have hs:=xa.trans hs;have lt1:=L1.lt;have yx:=hs.chg.size;have xj:=hz.now;refine cI λb4 w4 yf xx xp xb=>?_;have h4:=h3.ext xb;have L4:=h3.loc xx yf xp;have L1:=L1.ext xb;refine dD (l:=iT (cur s1)) L4.1 rfl rfl rfl λw5 yu xo xd=>?_;have L4:Loc w0 w5 p f M1 vt b4 TkT (iT (cur s1)):=⟨xo,L4.2.up (by omega)⟩;have h5:=h4.one xd L4.2;have L1:=L1.one xd (by omega);have yd:=(hs.x xb).one xd (by omega);refine L1.ld rfl ?_;refine tJ h5 xj.ws hN xj.l λw6 h6 hi=>?_;rw[LB]at h6⊢;have L1:=L1.eff hi;have L4:=L4.eff hi;have hi:=yd.trans hi;rw[fG,dU];refine⟨λhn=>?_,λhy=>?_⟩
 ·have hn:(cD s1 [63]).1=false:=by simpa using hn
  rw[aJ (by rw[hn];decide)]at hK;exact hK a _ rfl M1 w6 h6 hi
 have hy:(cD s1 [63]).1=true:=by simpa using hy
 rw[aO hy]at hK ht;have xc:=hz.take [63];have tp:=(mF s1 [63]).2 hy;generalize yy:(cD s1 [63]).2=s2 at*
 have lt1:=L1.lt;have lt4:=L4.lt;have yw:=hi.chg.size;refine Nm λr w7 hr xw xz hx=>?_;have h7:=h6.ext hx;have Lr:=h6.loc xw hr xz;have L1:=L1.ext hx;have L4:=L4.ext hx;refine cI λb5 w8 ye xv xn hq=>?_;have h8:=h7.ext hq;have L5:=h7.loc xv ye xn;have L1:=L1.ext hq;have L4:=L4.ext hq;have Lr:=Lr.ext hq;refine L5.st rfl (by simp) λw9 L5 hv yt=>?_;have h9:=(h8.one hv L5.2).drew;have L1:=(L1.one hv (by omega)).drew;have L4:=(L4.one hv (by omega)).drew;have Lr:=(Lr.one hv (by omega)).drew;have L5:=L5.drew;have yc:=(((hi.x hx).x hq).one hv (by omega)).x (cP w9);refine L1.ld rfl ?_;rw[bD,bG,aH];refine L4.ld rfl ?_;refine L1.ld rfl ?_;refine h9.ld rfl ?_;have yp:=xc.lev;refine pQ h9 (by omega) (λhd=>ht 7 _ (by rw[sW hd])) λhd w10 xh j=>?_;obtain⟨d,rfl⟩:∃d,dl=d+1:=⟨dl-1,by omega⟩;rw[wE hd]at hK ht;have q1:=xc.frame s2.quiet;have L1:=L1.eff j;have L4:=L4.eff j;have Lr:=Lr.eff j;have L5:=L5.eff j;have j:=yc.trans j;refine gG (caps:=[.pointer (some ⟨b1,0,none⟩),.pointer (some ⟨b5,0,none⟩)]) ?_;refine Ss ?_;unfold YP;have L1:=L1.drew;have L4:=L4.drew;have Lr:=Lr.drew;have L5:=L5.drew;have xh:=xh.drew;have j:=j.x (cP w10);refine L5.ld rfl ?_;refine L1.ld rfl ?_;refine hE d rfl w10.drew p M1 vt _ top N _ xh q1 (λx s3 ex M3 w11 ym U=>?_) λc a' ex=>ht c a' (by rw[ex];rfl);obtain⟨g3,_⟩:=q1.e hF ex;have px:=hF.z {s2 with deep:=s2.deep+1,quiet:=s2.quiet};rw[ex]at hK ht px;have px:Syn.phi s3<=Syn.phi s2:=px;simp only[R.bind]at hK ht;have L1:=L1.eff U;have L4:=L4.eff U;have Lr:=Lr.eff U;have L5:=L5.eff U;have U:=j.trans U;refine⟨L5.ld rfl rfl,?_⟩;rw[eG];refine⟨by omega,by omega,?_⟩;rw[bG,aH];refine Lr.st (off:=1) rfl (by simp) λw12 Lr hh yo=>?_;have yl:=ym.one hh Lr.2;have L1:=L1.one hh (by omega);have L4:=L4.one hh (by omega);have L5:=L5.one hh (by omega);have xm:=U.one hh (by omega);refine L1.ld rfl ?_;refine wF yl g3.ws hN g3.l (λs4 e4 w13 xg J=>?_) λc a' e4=>ht c a' (by rw[e4]);have pw:=mE s3 [58];rw[e4]at hK ht pw;have pw:Syn.phi s4+1<=Syn.phi s3:=pw;simp only at hK ht;obtain⟨g4,_⟩:=g3.want e4;have L1:=(L1.eff J).drew;have L4:=(L4.eff J).drew;have Lr:=(Lr.eff J).drew;have L5:=(L5.eff J).drew;have xg:=xg.drew;have J:=(xm.trans J).x (cP w13);refine L5.ld rfl ?_;refine L1.ld rfl ?_;refine hE d rfl w13.drew p M3 vt _ top N _ xg g4 (λy s5 ey M5 w14 yk I=>?_) λc a' ey=>ht c a' (by rw[ey]);obtain⟨g5,_⟩:=g4.e hF ey;have py:=hF.z s4;rw[ey]at hK py;have py:Syn.phi s5<=Syn.phi s4:=py;simp only at hK;have L1:=L1.eff I;have L4:=L4.eff I;have Lr:=Lr.eff I;have L5:=L5.eff I;have I:=J.trans I;refine⟨L5.ld rfl rfl,?_⟩;rw[eG];refine⟨by omega,by omega,?_⟩;rw[bG,aH];refine Lr.st (off:=2) rfl (by simp) λw15 Lr hc yn=>?_;have yj:=yk.one hc Lr.2;have L1:=L1.one hc (by omega);have L4:=L4.one hc (by omega);have L5:=L5.one hc (by omega);have xl:=I.one hc (by omega);have g5l:=g5.lev;refine⟨M5,s5,yj,by omega,λw16 yi o=>?_⟩;have L1:=L1.eff o;have L4:=L4.eff o;have Lr:=Lr.eff o;have L5:=L5.eff o;have o:=xl.trans o;refine L1.ld rfl ?_;refine L5.ld rfl ?_;refine L4.ldf rfl ?_;simp only[dF,dK,dZ,dC,aB,aK,aL,aN,Nat.reduceAdd,Nat.reduceLT,cZ,aS];have g16:=xc.back (q:=s2.quiet) g5;have hR:Ro w0 w16 p f M5 vt w.heap.size lC 1 (.slice (some ⟨r,0,none⟩) 3 3) 3 (ints [a,x,y]):=
  ⟨Me (cs:=ints [a,x,y]) Lr.1 Lr.2.1.1 rfl (by omega),λk hk=>by simp only[Value.ownBlock,aV]at hk;subst hk;exact Lr.2,λk hk=>by simp only[Value.ownBlock,aV]at hk;omega⟩
 refine Gt (e:=⟨28,[],[a,x,y],[],(cur s1).a⟩) yi o (ER.noK rfl hR) g16 λM6 w17 yh xk _=>?_;exact hK _ _ rfl M6 w17 yh xk
theorem uC:rQ dead:=⟨xZ,xC⟩
theorem CJ(d:Nat):rQ (qZ d).1/\rQ (qZ d).2:=⟨⟨λN=>(sR N d).1,(uY d).1⟩,⟨λN=>(sR N d).2,(uY d).2⟩⟩
theorem JF(j:xI w0 f):∀dl,EC w0 f 118 (qZ dl).1 dl/\EC w0 f 203 (qZ dl).2 dl
 |0=>⟨Na j (λd e=>by omega) (λd e=>by omega) uC uC,HT j (λd e=>by omega) (λd e=>by omega) uC uC⟩
 |d+1=>by
  have ih:=JF j d
  have hf:=CJ d
  have hE:∀d',d+1=d'+1->EC w0 f 118 (qZ d).1 d':=λd' e=>by
   have e:d'=d:=by omega
   subst e;exact ih.1
  have o:∀d',d+1=d'+1->EC w0 f 203 (qZ d).2 d':=λd' e=>by
   have e:d'=d:=by omega
   subst e;exact ih.2
  exact⟨Na j hE o hf.1 hf.2,HT j hE o hf.1 hf.2⟩
end
end
end Go.Proofs.YtjblfcfdeaagpaaGreatDoor
namespace Go.Syn
section
open Go Go.Eng Go.Lex
variable{w:World}{K:Q0}{cs:List Value}{G:Nat->Prop}{T:TypeId}{i:Nat}{n:Nat}{v:Value}{w':World}{P:Program}{c:UInt8}{S:Nat->Prop}
abbrev blL(bl:List Blk):List (List Nat):=bl.map (·.blocks)
abbrev yQ(bl:List Blk):List Nat:=bl.flatMap λb=>b.attrs.map (·.e)
def Dn(us:List Atr):Prop:=∀a∈us,a.n≠[]
structure FI(s:PS)(pe pb:List Nat):Prop where
 ex:eB (exL s.ex) (yQ s.bl++pe)
 bl:eB (blL s.bl) pb
 nm:∀b∈s.bl,Dn b.attrs
theorem FI.perm{s:PS}{pe pe' pb pb':List Nat}(h:FI s pe pb)(o:pe.Perm pe')(j:pb.Perm pb'):FI s pe' pb':=⟨h.ex.perm (o.append_left _),h.bl.perm j,h.nm⟩
theorem FI.same{s s':PS}{pe pb:List Nat}(h:FI s pe pb)(o:s'.ex=s.ex)(j:s'.bl=s.bl):FI s' pe pb:=⟨by rw[o,j];exact h.ex,by rw[j];exact h.bl,by rw[j];exact h.nm⟩
theorem FI.expr{s s':PS}{x:Nat}{pe pb:List Nat}(h:FI s pe pb)(j:s'.bl=s.bl)(hf:∀roots,eB (exL s.ex) roots->eB (exL s'.ex) (x::roots)):FI s' (x::pe) pb:=
 ⟨by rw[j];exact(hf _ h.ex).perm (lZ).symm,by rw[j];exact h.bl,by rw[j];exact h.nm⟩
def BOk(N:Int)(B:PS->R Nat):Prop:=∀s,WS N s->Sat (B s) (λx s'=>Later N s s'/\∀pe pb,FI s pe pb->FI s' pe (x::pb)) (InN N)
section
variable{N:Int}{E B:PS->R Nat}
theorem Cs:∀(n:Nat) (s:PS) (ls:List Str),WS N s->Sat (pV n s ls) (λ_ s'=>Go1 N s s'/\s'.ex=s.ex/\s'.bl=s.bl) (InN N)
 |0,s,_,h=>⟨mN _,h.pN⟩
 |n+1,s,ls,h=>by
  have j:=lJ h
  have n1:=rW h
  simp only[pV]
  split
  ·refine(DX (n1.1.ws h) (t:=cur s) ⟨j.1,j.2.1⟩).bind λl s1 e1=>?_
   subst e1
   exact(Cs n _ (ls++[l]) (n1.1.ws h)).mono λ_ s2 ⟨g,e,b⟩=>⟨n1.1.trans g,e.trans n1.2.2.1,b.trans n1.2.2.2⟩
  ·exact⟨jE h,(jK s).1,(jK s).2⟩
theorem MI(hE:EOk N E)(hB:BOk N B){s:PS}(h:WS N s)(us:List Atr)(bs:List Nat)(hn:Dn us):
  Sat (yN E B s us bs) (λx s'=>Later N s s'/\Dn x.1/\∀pe pb,FI s (us.map (·.e)++pe) (bs++pb)->FI s' (x.1.map (·.e)++pe) (x.2++pb)) (InN N):=by
 unfold yN;refine(mW h 1 (by decide)).bind λt s1 ⟨g1,x1,b1,U,hk⟩=>?_;have o:=g1.1.ws h;have t1:=lH o [61];have I:=t1.1.ws o;have hc:=lJ h;split
 ·refine(hE _ I).bind λx s2 ⟨g2,b2,f2⟩=>?_;refine⟨⟨g1.1.trans (t1.1.trans g2.1),by have:=g1.2;have:=t1.1.le;have:=g2.2;omega⟩,λa j=>?_,λpe pb hf=>?_⟩
  ·rcases bH.1 j with j|j
   ·exact hn a j
   ·rw[bR]at j;subst j;rw[U];exact hc.2.2.2.2 (by rw[<-U];exact hk)
  ·have:=(hf.same (s':=(cD s1 [61]).2) (t1.2.2.1.trans x1) (t1.2.2.2.trans b1)).expr b2 f2;refine this.perm ?_ (Dw _);simp only[List.map_append,fC,jQ,fK];exact(lZ).symm
 ·have hj:=g1.2;have hi:=t1.1.le;have J:Go1 N s {(cD s1 [61]).2 with i:=(cD s1 [61]).2.i-1}:=by
   have g:=g1.1.trans t1.1;refine⟨g.toks,g.off,g.deep,g.quiet,?_,?_,g.exs⟩
   ·show s.i<=(cD s1 [61]).2.i-1;omega
   ·show(cD s1 [61]).2.i-1<(cD s1 [61]).2.toks.length;have:=g.lt;omega
  refine(hB _ (J.ws h)).bind λx s2 ⟨g2,f2⟩=>?_;refine⟨⟨J.trans g2.1,by have:=J.le;have:=g2.2;omega⟩,hn,λpe pb hf=>?_⟩;have:=f2 _ _ (hf.same (s':={(cD s1 [61]).2 with i:=(cD s1 [61]).2.i-1}) (t1.2.2.1.trans x1) (t1.2.2.2.trans b1));refine this.perm (Dw _) ?_;simp only[fK];exact(lZ).symm
theorem Ek(hE:EOk N E)(hB:BOk N B):∀(n:Nat) (s:PS) (us:List Atr) (bs:List Nat),WS N s->Dn us->
  Sat (pY E B n s us bs) (λx s'=>Later N s s'/\Dn x.1/\∀pe pb,FI s (us.map (·.e)++pe) (bs++pb)->FI s' (x.1.map (·.e)++pe) (x.2++pb)) (InN N)
 |0,s,_,_,h,_=>⟨mN _,h.pN⟩
 |n+1,s,us,bs,h,J=>by
  have t1:=lH h [125]
  have I:=t1.1.ws h
  simp only[pY]
  split
  ·rename_i U
   exact⟨⟨t1.1,t1.2.1 U⟩,J,λpe pb hf=>hf.same t1.2.2.1 t1.2.2.2⟩
  refine(MI hE hB I us bs J).bind λx s1 ⟨g1,n1,f1⟩=>?_
  have o:=g1.1.ws I
  have m1:=jE o
  have j:=m1.ws o
  split
  ·have:=lJ j
   exact⟨this.1,this.2.1⟩
  have l1:=mG j
  refine(Ek hE hB n _ x.1 x.2 (l1.1.ws j) n1).mono λy s2 ⟨g2,n2,f2⟩=>⟨⟨t1.1.trans (g1.1.trans (m1.trans (l1.1.trans g2.1))),by have:=t1.1.le;have:=g1.2;have:=m1.le;have:=l1.1.le;have:=g2.2;omega⟩,n2,λpe pb hf=>f2 pe pb ?_⟩
  exact(f1 pe pb (hf.same t1.2.2.1 t1.2.2.2)).same (l1.2.1.trans (jK _).1) (l1.2.2.trans (jK _).2)
theorem EF(hE:EOk N E)(hB:BOk N B):BOk N (tM E B):=by
 intro s h;unfold tM;refine(mW h 1 (by decide)).bind λt s1 ⟨g1,x1,b1,ht,hk⟩=>?_;have I:=g1.1.ws h;refine(Cs _ s1 [] I).bind λls s2 ⟨g2,x2,b2⟩=>?_;have j:=g2.ws I;have n2:=jE j;have U:=n2.ws j;have J:=lJ j;split
 ·exact⟨J.1,J.2.1⟩
 rename_i hi;have hi:isS s2 [123]=true:=by simpa using hi
 have e3:(bE s2).ex=s.ex:=(jK _).1.trans (x2.trans x1);have b3:(bE s2).bl=s.bl:=(jK _).2.trans (b2.trans b1);refine Sat.bind (mP U (a:=(cur s2).a) (q:=false) ⟨J.1,J.2.1⟩ (P:=λ(x:List Atr×List Nat) s'=>Go1 N {bE s2 with deep:=(bE s2).deep+1,quiet:=false} s'/\Dn x.1/\∀pe pb,FI s pe pb->FI s' (x.1.map (·.e)++pe) (x.2++pb)) λhw=>?_) λx s3 ⟨q,⟨g4,m4,f4⟩,e4⟩=>?_
 ·have hh:=pL j hi ((bE s2).deep+1) false;have h4:=lI hw hh.2.1;rw[hh.1]at h4;have o:=h4.1.ws hw;have l4:=mG o;refine(Ek hE hB _ _ [] [] (l4.1.ws o) (λa ha=>by cases ha)).mono λx s' ⟨g,m,f⟩=>⟨h4.1.trans (l4.1.trans g.1),m,λpe pb hf=>f pe pb ?_⟩;exact hf.same (l4.2.1.trans e3) (l4.2.2.trans b3)
 ·subst e4;have g4':=g4.back;have g:=g1.1.trans (g2.trans (n2.trans g4'));refine⟨⟨⟨g.toks,g.off,g.deep,g.quiet,g.le,g.lt,g.exs⟩,by have:=g1.2;have:=g2.le;have:=n2.le;have:=g4'.le;show s.i<q.i;simp only at this;omega⟩,λpe pb hf=>?_⟩;have hq:=f4 pe pb hf;refine⟨?_,?_,?_⟩
  ·show eB (exL q.ex) (yQ (q.bl++[⟨t.t,ls,x.1,x.2,t.a⟩])++pe);have e:yQ (q.bl++[⟨t.t,ls,x.1,x.2,t.a⟩])++pe=yQ q.bl++(x.1.map (·.e)++pe):=by simp[yQ]
   rw[e];exact hq.ex
  ·show eB (blL (q.bl++[⟨t.t,ls,x.1,x.2,t.a⟩])) (q.bl.length::pb);have:=hq.bl.put;rw[kN]at this;simpa[blL]using this
  ·intro b hb;have hb:b∈q.bl++[⟨t.t,ls,x.1,x.2,t.a⟩]:=hb;rcases bH.1 hb with hb|hb
   ·exact hq.nm b hb
   ·rw[bR]at hb;subst hb;exact m4
end
theorem Hk(N:Int):BOk N dead:=λ_ h=>⟨mN _,h.pN⟩
theorem AV(N:Int):∀d,BOk N (zF d)
 |0=>EF (xZ N) (Hk N)
 |d+1=>EF (sR N d).1 (AV N d)
theorem Jc{N:Int}:∀(n:Nat) (s:PS) (top:List Nat),WS N s->Sat (Bu n s top) (λx s'=>Go1 N s s'/\(FI s [] top->FI s' [] x)) (InN N)
 |0,s,_,h=>⟨mN _,h.pN⟩
 |n+1,s,top,h=>by
  have n1:=jE h
  have I:=n1.ws h
  simp only[Bu]
  split
  ·exact⟨n1,λhf=>hf.same (jK _).1 (jK _).2⟩
  refine(AV N 24 _ I).bind λx s1 ⟨g1,f1⟩=>?_
  have o:=g1.1.ws I
  have m1:=jE o
  have j:=m1.ws o
  split
  ·have:=lJ j
   exact⟨this.1,this.2.1⟩
  have l1:=mG j
  refine(Jc n _ (top++[x]) (l1.1.ws j)).mono λy s2 ⟨g2,f2⟩=>⟨n1.trans (g1.1.trans (m1.trans (l1.1.trans g2))),λhf=>f2 ?_⟩
  have:=(f1 [] top (hf.same (jK _).1 (jK _).2)).same (s':=iR (bE s1)) (l1.2.1.trans (jK _).1) (l1.2.2.trans (jK _).2)
  refine this.perm (Dw _) ?_
  exact(List.perm_append_comm (l₁:=[x]) (l₂:=top))
theorem Bh(t:Str):match sJ t with
  |.bad _ a=>0<=a/\a<=(t.length:Nat)
  |.ok f=>(∀e∈f.ex,0<=e.a/\e.a<(t.length:Nat))/\eB (exL f.ex) (yQ f.bl)/\eB (blL f.bl) f.top/\∀b∈f.bl,Dn b.attrs:=by
 unfold sJ;cases J:nI t with
 |bad c a=>exact BY J
 |ok l=>
  have j:=BB (N:=(t.length:Nat)) (off:=0) J (mN _) (by omega);have I:WS (t.length:Nat) ⟨l,0,0,0,false,[],[]⟩:=⟨j,gY.2 j.ne,by omega⟩;have l1:=mG I;have h:=Jc (l.length+1) (iR ⟨l,0,0,0,false,[],[]⟩) [] (l1.1.ws I);cases o:Bu (l.length+1) (iR ⟨l,0,0,0,false,[],[]⟩) []with
  |err c a=>
   rw[o]at h;simp only[o];exact h
  |ok top s'=>
   rw[o]at h;simp only[o];obtain⟨g,f⟩:=h;have hf:=f (FI.same (s:=⟨l,0,0,0,false,[],[]⟩) ⟨eB.nil,eB.nil,λb hb=>by cases hb⟩ l1.2.1 l1.2.2);refine⟨λe U=>?_,by have:=hf.ex;rw[eZ]at this;exact this,hf.bl,hf.nm⟩;rcases g.exs e U with h|h
   ·rw[l1.2.1]at h;cases h
   ·exact h
end
end Go.Syn
namespace Go.Proofs.YtjblfcfdeaagpaaGreatDoor
section
open Go Go.Eng Go.RowKit Go.Syn Go.Lex
variable{w:World}{K:Q0}{cs:List Value}{G:Nat->Prop}{T:TypeId}{i:Nat}{n:Nat}{v:Value}{w':World}{P:Program}{c:UInt8}{S:Nat->Prop}
section
variable{w0 w w1 w2:World}{p f:Nat}{M:Lay}{vt:Value}{s:PS}{top:List Nat}
theorem PR.putB(h:PR w0 w p f M vt s top){wb:World}{M0:Lay}(J:Eff p f M0 M wb w){e:Blk}{d:List Value}{v':Value}(hd:BkR w w0.heap.size e d)(U:∀k∈ub d,Off w0 w p f M vt k)(hn:(ub d).Nodup)(hh:∀k∈ub d,wb.heap.size<=k)
  (hO:Own w1 w0.heap.size BkT 5 v' (s.bl.length+1) (M.cB++d))(hr:Chg (λk=>M.vB.ownBlock=some k) w w1)(o:∀k,v'.ownBlock=some k->M.vB.ownBlock=some k\/w.heap.size<=k)
  (hc:Chg (One f) w1 w2)(hf:w2.heap[f]?=some (.cells [M.vE,v',M.vT].toArray FlT (0,0))):PR w0 w2 p f {M with vB:=v',cB:=M.cB++d} vt {s with bl:=s.bl++[e]} top/\Eff p f M0 {M with vB:=v',cB:=M.cB++d} wb w2:=by
 have hb:=h.base;have xb:=J.chg.size;have pB:=HP M f;have use:∀k,M.vB.ownBlock=some k->k∈M.uses f:=λk j=>aE _ (dS (v:=M.vB) (by simp) j);have I:=pB.nodup_iff.1 h.fr.nd;have hi:=I;rw[dB,gQ]at hi;obtain⟨nf,_,nb,nab⟩:=hi;have inU:∀k∈ub ([M.vE,M.vT]++(M.cE++M.cB)),k∈M.uses f:=λk j=>pB.mem_iff.2 (aE _ (bF _ j));have rest:∀k∈ub ([M.vE,M.vT]++(M.cE++M.cB)),M.vB.ownBlock≠some k/\k≠f/\k<w.heap.size:=λk j=>
  ⟨λe=>nab k (jJ.2 e) k j rfl,λe=>nf (e▸bF _ j),h.fr.lt k (inU k j)⟩
 have c12:Chg (λk=>M.vB.ownBlock=some k\/k=f) w w2:=(hr.mono λk _ e=>.inl e).trans (hc.mono λk _ e=>.inr e);have sub:∀v∈[M.vE,M.vT]++(M.cE++M.cB),∀k,v.ownBlock=some k->¬(M.vB.ownBlock=some k\/k=f):=λv o k j e=>by
  have:=rest k (dS o j);exact e.elim this.1 this.2.1
 have hs:∀k,v'.ownBlock=some k->k≠f:=λk j e=>by
  subst e;rcases o k j with e|e
  ·exact nf (bS _ (jJ.2 e))
  ·have:=mJ h.fr.hf;omega
 have nE:M.vB.ownBlock≠some p:=λe=>h.np (use p e);have pf:p≠f:=λe=>h.np (e▸aW);have perm:=NM M f v' d;have hN:(f::(ub [v']++(ub d++ub ([M.vE,M.vT]++(M.cE++M.cB))))).Nodup:=Fj (n:=w.heap.size) (a:=ub [M.vB]) I (λk j=>h.fr.lt k (pB.mem_iff.2 j)) (nB _) (λk j=>(o k (jJ.1 j)).imp (λe=>jJ.2 e) id) hn λk j=>⟨(U k j).1.2,λe=>(U k j).2.2.1 (pB.mem_iff.2 e)⟩;have hz:=c12.size;have mem:∀k∈({M with vB:=v',cB:=M.cB++d}:Lay).uses f,k=f\/v'.ownBlock=some k\/k∈ub d\/k∈ub ([M.vE,M.vT]++(M.cE++M.cB)):=λk j=>by
  have j:=perm.mem_iff.1 j;rcases aX.1 j with e|e
  ·exact .inl e
  rcases bH.1 e with e|e
  ·exact .inr (.inl (jJ.1 e))
  rcases bH.1 e with e|e
  ·exact .inr (.inr (.inl e))
  ·exact .inr (.inr (.inr e))
 have cT:Chg (Tn p f M) w w2:=c12.mono λk _ e=>e.elim (λe=>.inr (.inr (.inr e))) λe=>.inr (.inl e);refine⟨⟨?_,⟨hf,?_,?_,?_,?_,?_,perm.nodup_iff.2 hN,λk j=>?_,λk j=>?_⟩,?_,?_,λe=>?_,h.lo,λk j=>?_⟩,⟨(J.trans (Eff.of cT)).chg,λk j=>?_,J.hE,λk j=>(o k j).elim (J.hB k) λe=>.inr (by omega),J.hT⟩⟩
 ·refine h.ch.then c12 λk j e=>?_;rcases e with e|e
  ·exact(h.fr.lo k (use k e)).resolve_right (by omega)
  ·exact e
 ·exact dP h.fr.oE c12 (sub _ (by simp))
 ·rw[aP];exact dP hO hc λk j e=>hs k j e
 ·exact dP h.fr.oT c12 (sub _ (by simp))
 ·refine h.fr.ee.imp λx d hd hx=>hx.at_ c12 λk j=>?_;obtain⟨v,o,j⟩:=bO.1 j;exact sub v (by simp[hd v o]) k j
 ·refine kM.snoc ?_ (hd.at_ c12 λk j e=>?_) (by obtain⟨vl,va,vk,rfl,_⟩:=hd;rfl)
  ·refine h.fr.bb.imp λx d hd hx=>hx.at_ c12 λk j=>?_;obtain⟨v,o,j⟩:=bO.1 j;exact sub v (by simp[hd v o]) k j
  ·have ho:=(U k j).2.2.1;rcases e with e|e
   ·exact ho (use k e)
   ·exact ho (e▸aW)
 ·rcases mem k j with e|e|e|e
  ·rw[e];exact mJ hf
  ·exact cV (kA hO e).1 hc.size
  ·exact cV (U k e).1.2 hz
  ·exact cV (rest k e).2.2 hz
 ·rcases mem k j with e|e|e|e
  ·exact .inl e
  ·exact .inr (kA hO e).2
  ·exact .inr (U k e).1.1
  ·exact h.fr.lo k (inU k e)
 ·exact c12.at h.ps λe=>e.elim nE pf
 ·exact qQ h.tk c12 λk j e=>by
   have:=(h.nt k j).1;rcases e with e|e
   ·exact this (use k e)
   ·exact this (e▸aW)
 ·rcases mem p e with e|e|e|e
  ·exact pf e
  ·exact(o p e).elim nE λe=>by have:=h.lt;omega
  ·exact(U p e).2.1 rfl
  ·exact h.np (inU p e)
 ·have ht:=h.nt k j;refine⟨λe=>?_,ht.2.1,cV ht.2.2 hz⟩;rcases mem k e with e|e|e|e
  ·exact ht.1 (e▸aW)
  ·exact(o k e).elim (λe=>ht.1 (use k e)) λe=>by omega
  ·exact(U k e).2.2.2 j
  ·exact ht.1 (inU k e)
 ·rcases mem k j with e|e|e|e
  ·exact J.us k (e▸aW)
  ·exact(o k e).elim (λe=>J.us k (use k e)) λe=>.inr (by omega)
  ·exact .inr (hh k e)
  ·exact J.us k (inU k e)
end
structure EJ(F:PS->R Nat):Prop where
 ok:∀N,BOk N F
 z:EZ F
theorem Gd.bk{x:Nat}{s s':PS}{N:Int}{dl:Nat}{F:PS->R Nat}(h:Gd N s dl)(o:EJ F)(e:F s=.ok x s'):Gd N s' dl/\s.i<s'.i/\s'.toks=s.toks:=by
 have j:=o.ok N s h.ws;have I:=o.z s;rw[e]at j I;exact⟨h.go j.1.1 I,j.1.2,j.1.1.toks⟩
section
variable [HX]
variable{w0 w w' w1:World}{p f b:Nat}{M M' M0:Lay}{vt:Value}{s:PS}{top:List Nat}{N:Int}{K:Q0}{e:Ex}{wbn:Nat}{wb:World}{dl:Nat}
structure BL(w0 w:World)(p f:Nat)(M:Lay)(vt:Value)(B1 b4:Nat)(typ:Str)(a:Int)(vl va vb:Value)(ls:List Str)(av:List Atr)(bs:List Nat):Prop where
 l4:Loc w0 w p f M vt b4 BkT [str typ,vl,va,vb,i64 a]
 rL:Ro w0 w p f M vt B1 StT 1 vl ls.length (strs ls)
 rA:Ro w0 w p f M vt B1 AtT 3 va av.length (kK av)
 rB:Ro w0 w p f M vt B1 lC 1 vb bs.length (ints bs)
 d1:∀k,vl.ownBlock=some k->va.ownBlock≠some k
 d2:∀k,vl.ownBlock=some k->vb.ownBlock≠some k
 d3:∀k,va.ownBlock=some k->vb.ownBlock≠some k
 lt:b4<B1/\B1<=w.heap.size
section
variable{B1 b4:Nat}{typ:Str}{a:Int}{vl va vb:Value}{ls:List Str}{av:List Atr}{bs:List Nat}
theorem BL.eff(h:BL w0 w p f M vt B1 b4 typ a vl va vb ls av bs)(j:Eff p f M M' w w'):BL w0 w' p f M' vt B1 b4 typ a vl va vb ls av bs:=
 ⟨h.l4.eff j,h.rL.eff j,h.rA.eff j,h.rB.eff j,h.d1,h.d2,h.d3,h.lt.1,dI h.lt.2 j.chg.size⟩
theorem BL.ext(h:BL w0 w p f M vt B1 b4 typ a vl va vb ls av bs)(j:Ext w w'):BL w0 w' p f M vt B1 b4 typ a vl va vb ls av bs:=h.eff (Eff.ext j)
theorem BL.one(h:BL w0 w p f M vt B1 b4 typ a vl va vb ls av bs)(j:Chg (One b) w w')(hb:b≠b4)(o:vl.ownBlock≠some b)(I:va.ownBlock≠some b)(hB:vb.ownBlock≠some b):BL w0 w' p f M vt B1 b4 typ a vl va vb ls av bs:=
 ⟨h.l4.one j (jS hb),h.rL.one j o,h.rA.one j I,h.rB.one j hB,h.d1,h.d2,h.d3,h.lt.1,dI h.lt.2 j.size⟩
theorem BL.fresh(h:BL w0 w p f M vt B1 b4 typ a vl va vb ls av bs){k:Nat}(j:w.heap.size<=k):k≠b4/\vl.ownBlock≠some k/\va.ownBlock≠some k/\vb.ownBlock≠some k:=
 ⟨λe=>by have:=h.l4.lt;omega,λe=>by have:=(h.rL.off k e).1.2;omega,λe=>by have:=(h.rA.off k e).1.2;omega,λe=>by have:=(h.rB.off k e).1.2;omega⟩
theorem BL.no4(h:BL w0 w p f M vt B1 b4 typ a vl va vb ls av bs):vl.ownBlock≠some b4/\va.ownBlock≠some b4/\vb.ownBlock≠some b4:=
 ⟨λe=>by have:=h.rL.new _ e;have:=h.lt.1;omega,λe=>by have:=h.rA.new _ e;have:=h.lt.1;omega,λe=>by have:=h.rB.new _ e;have:=h.lt.1;omega⟩
theorem BL.appL{x:Str}{r:Nat}{ty:TypeId}{KW:World->Prop}(h:BL w0 w p f M vt B1 b4 typ a vl va vb ls av bs)(hp:PR w0 w p f M vt s top)(hr:w.heap[r]?=some (.cells [str x].toArray StT (0,0)))(hn:ls.length<=1000000)
  (hK:∀vl' w',BL w0 w' p f M vt B1 b4 typ a vl' va vb (ls++[x]) av bs->PR w0 w' p f M vt s top->Chg (λk=>vl.ownBlock=some k\/k=b4) w w'->(∀b T cs,Loc w0 w p f M vt b T cs->b≠b4->vl.ownBlock≠some b->Loc w0 w' p f M vt b T cs)->(∀k,vl'.ownBlock=some k->vl.ownBlock=some k\/w.heap.size<=k)->KW w'):
  fH P0 (Builtin.append_ #[33,33] ty #[vl,.slice (some ⟨r,0,none⟩) 1 1]) w λt62 w36=>aZ 1 (.pointer (some ⟨b4,0,none⟩)) λt63=>stW 1 t63 t62 w36 KW:=by
 refine Ro.app CK h.rL hp hr rfl (λu hu=>by simp only[bR]at hu;subst hu;rfl) hn (by decide) h.lt.2 λv' w2 o J hv hh=>?_;have e1:(ls++[x]).length=ls.length+1:=by simp
 rw[<-e1,show strs ls++[str x]=strs (ls++[x])from by simp[strs]]at o;rw[bD,bG,aH];obtain⟨vp,vc,ev,_⟩:=o.own.sl.shape;obtain⟨n1,n2,n3⟩:=h.no4;have n1':v'.ownBlock≠some b4:=λe=>by have:=o.new b4 e;have:=h.lt.1;omega
 refine(h.l4.row J n1).st (by rw[ev];rfl) (by simp) λw3 L3 j hj=>?_;have z:=J.size;refine hK v' w3 ⟨L3,o.one j n1',(h.rA.row J λk I e=>h.d1 k e I).one j n2,(h.rB.row J λk I e=>h.d2 k e I).one j n3,λk I=>?_,λk I=>?_,h.d3,h.lt.1,by have:=h.lt.2;omega⟩ (hh.one j L3.2) ((J.mono λk _ e=>.inl e).trans (j.mono λk _ e=>.inr e)) (λb T cs hL hb U=>(hL.row J U).one j hb) hv
 ·exact(hv k I).elim (h.d1 k) λe e'=>by have:=(h.rA.off k e').1.2;omega
 ·exact(hv k I).elim (h.d2 k) λe e'=>by have:=(h.rB.off k e').1.2;omega
theorem BL.appA{x:Atr}{r:Nat}{ty:TypeId}{KW:World->Prop}(h:BL w0 w p f M vt B1 b4 typ a vl va vb ls av bs)(hp:PR w0 w p f M vt s top)(hr:w.heap[r]?=some (.cells [str x.n,i64 (x.e:Nat),i64 x.a].toArray AtT (0,0)))(hn:av.length<=1000000)
  (hK:∀va' w',BL w0 w' p f M vt B1 b4 typ a vl va' vb ls (av++[x]) bs->PR w0 w' p f M vt s top->Chg (λk=>va.ownBlock=some k\/k=b4) w w'->(∀b T cs,Loc w0 w p f M vt b T cs->b≠b4->va.ownBlock≠some b->Loc w0 w' p f M vt b T cs)->(∀k,va'.ownBlock=some k->va.ownBlock=some k\/w.heap.size<=k)->KW w'):
  fH P0 (Builtin.append_ #[36,36] ty #[va,.slice (some ⟨r,0,none⟩) 1 1]) w λt62 w36=>dV (.pointer (some ⟨b4,0,none⟩)) λt63=>aZ 2 t63 λt63=>stW 1 t63 t62 w36 KW:=by
 refine Ro.app Hf h.rA hp hr rfl (λu hu=>by simp only[aX,bQ,fF]at hu;rcases hu with rfl|rfl|rfl<;>rfl) hn (by decide) h.lt.2 λv' w2 o J hv hh=>?_;have e1:(av++[x]).length=av.length+1:=by simp
 rw[<-e1,show kK av++[str x.n,i64 (x.e:Nat),i64 x.a]=kK (av++[x])from by simp[kK]]at o;rw[cQ,bD,bG,aH];obtain⟨vp,vc,ev,_⟩:=o.own.sl.shape;obtain⟨n1,n2,n3⟩:=h.no4;have n2':v'.ownBlock≠some b4:=λe=>by have:=o.new b4 e;have:=h.lt.1;omega
 refine(h.l4.row J n2).st (by rw[ev];rfl) (by simp) λw3 L3 j hj=>?_;have z:=J.size;refine hK v' w3 ⟨L3,(h.rL.row J λk I e=>h.d1 k I e).one j n1,o.one j n2',(h.rB.row J λk I e=>h.d3 k e I).one j n3,λk I e=>?_,h.d2,λk I=>?_,h.lt.1,by have:=h.lt.2;omega⟩ (hh.one j L3.2) ((J.mono λk _ e=>.inl e).trans (j.mono λk _ e=>.inr e)) (λb T cs hL hb U=>(hL.row J U).one j hb) hv
 ·exact(hv k e).elim (λe=>h.d1 k I e) λe=>by have:=(h.rL.off k I).1.2;omega
 ·exact(hv k I).elim (h.d3 k) λe e'=>by have:=(h.rB.off k e').1.2;omega
theorem BL.appB{x:Nat}{r:Nat}{ty:TypeId}{KW:World->Prop}(h:BL w0 w p f M vt B1 b4 typ a vl va vb ls av bs)(hp:PR w0 w p f M vt s top)(hr:w.heap[r]?=some (.cells [i64 (x:Nat)].toArray lC (0,0)))(hn:bs.length<=1000000)
  (hK:∀vb' w',BL w0 w' p f M vt B1 b4 typ a vl va vb' ls av (bs++[x])->PR w0 w' p f M vt s top->Chg (λk=>vb.ownBlock=some k\/k=b4) w w'->(∀b T cs,Loc w0 w p f M vt b T cs->b≠b4->vb.ownBlock≠some b->Loc w0 w' p f M vt b T cs)->(∀k,vb'.ownBlock=some k->vb.ownBlock=some k\/w.heap.size<=k)->KW w'):
  fH P0 (Builtin.append_ #[26,26] ty #[vb,.slice (some ⟨r,0,none⟩) 1 1]) w λt62 w36=>dV (.pointer (some ⟨b4,0,none⟩)) λt63=>aZ 3 t63 λt63=>stW 1 t63 t62 w36 KW:=by
 refine Ro.app AP h.rB hp hr rfl (λu hu=>by simp only[bR]at hu;subst hu;rfl) hn (by decide) h.lt.2 λv' w2 I J hv hh=>?_;have e1:(bs++[x]).length=bs.length+1:=by simp
 rw[<-e1,show ints bs++[i64 (x:Nat)]=ints (bs++[x])from by simp[ints]]at I;rw[cQ,bD,bG,aH];obtain⟨vp,vc,ev,_⟩:=I.own.sl.shape;obtain⟨n1,n2,n3⟩:=h.no4;have n3':v'.ownBlock≠some b4:=λe=>by have:=I.new b4 e;have:=h.lt.1;omega
 refine(h.l4.row J n3).st (by rw[ev];rfl) (by simp) λw3 L3 j hj=>?_;have z:=J.size;refine hK v' w3 ⟨L3,(h.rL.row J λk o e=>h.d2 k o e).one j n1,(h.rA.row J λk o e=>h.d3 k o e).one j n2,I.one j n3',h.d1,λk o e=>?_,λk o e=>?_,h.lt.1,by have:=h.lt.2;omega⟩ (hh.one j L3.2) ((J.mono λk _ e=>.inl e).trans (j.mono λk _ e=>.inr e)) (λb T cs hL hb U=>(hL.row J U).one j hb) hv
 ·exact(hv k e).elim (λe=>h.d2 k o e) λe=>by have:=(h.rL.off k o).1.2;omega
 ·exact(hv k e).elim (λe=>h.d3 k o e) λe=>by have:=(h.rA.off k o).1.2;omega
theorem Gd.etoks{x:Nat}{s':PS}{F:PS->R Nat}(h:Gd N s dl)(o:rQ F)(e:F s=.ok x s'):s'.toks=s.toks:=by
 have j:=o.ok N s h.ws;rw[e]at j;exact j.1.1.toks
theorem Gd.name_back{t:Tok}{s1:PS}(U:Gd N s dl)(e:mH s 1=.ok t s1)(I:(cD s1 [61]).1=false):
  Gd N {(cD s1 [61]).2 with i:=(cD s1 [61]).2.i-1} dl/\s.i<=(cD s1 [61]).2.i-1/\1<=(cD s1 [61]).2.i/\(cD s1 [61]).2.toks=s.toks:=by
 have o:=U.kind (by decide) e;have j:=mW U.ws 1 (by decide);rw[e]at j;have e1:s1=step1 (bE s):=by
  unfold mH at e;split at e
  ·rename_i o;injection e with _ e
   rw[<-e];unfold kI;rw[aO (by rw[o];decide)]
  ·cases e
 have t1:=lH o.1.ws [61];have e2:(cD s1 [61]).2=bE s1:=by
  unfold cD at I⊢;split
  ·rename_i hi;rw[aO hi]at I;cases I
  ·rfl
 have hj:=o.2.1;have hh:=t1.1.le;have J:Go1 N s {(cD s1 [61]).2 with i:=(cD s1 [61]).2.i-1}:=by
  have g:=j.1.1.trans t1.1;refine⟨g.toks,g.off,g.deep,g.quiet,?_,?_,g.exs⟩
  ·show s.i<=(cD s1 [61]).2.i-1;omega
  ·show(cD s1 [61]).2.i-1<(cD s1 [61]).2.toks.length;have:=g.lt;omega
 refine⟨U.go J ?_,by omega,by omega,(t1.1.toks).trans j.1.1.toks⟩;have hi:s.i<=(bE s1).i-1:=by rw[<-e2];omega
 have x1:(bE s1).ex=s.ex:=(jK s1).1.trans (by rw[e1];exact(jK s).1);have x2:(bE s1).bl=s.bl:=(jK s1).2.trans (by rw[e1];exact(jK s).2);have x3:(bE s1).toks=s.toks:=by
  have h1:∀s:PS,(bE s).toks=s.toks:=λs=>by unfold bE;split<;>rfl
  rw[h1,e1];exact h1 s
 rw[e2];unfold Syn.phi;simp only;rw[x1,x2,x3];have:=HK s.toks hi;omega
theorem VB{E B:PS->R Nat}(hE:EC w0 f 118 E dl)(hB:EC w0 f 32 B dl)(hF:rQ E)(ye:EJ B)(h:PR w0 w p f M vt s top)(hg:Gd N s dl)(hL:BL w0 w p f M vt B1 b4 typ a vl va vb ls av bs)(ya:av.length<=1000000)(xy:bs.length<=1000000)
  {M0:Lay}{wb:World}(xc:Eff p f M0 M wb w)(yq:wb.heap.size<=b4)(yn:wb.heap.size<=B1)
  (hK:∀x s',yN E B s av bs=.ok x s'->∀M' va' vb' w',PR w0 w' p f M' vt s' top->Gd N s' dl->s.i<s'.i->s'.toks=s.toks->x.1.length<=av.length+1->x.2.length<=bs.length+1->Eff p f M0 M' wb w'->BL w0 w' p f M' vt B1 b4 typ a vl va' vb' ls x.1 x.2->
    (∀b T cs,Loc w0 w p f M vt b T cs->b≠b4->va.ownBlock≠some b->vb.ownBlock≠some b->Loc w0 w' p f M' vt b T cs)->(∀k,va'.ownBlock=some k->va.ownBlock=some k\/w.heap.size<=k)->(∀k,vb'.ownBlock=some k->vb.ownBlock=some k\/w.heap.size<=k)->K (.tuple #[]) w')
  (ht:∀c a',yN E B s av bs=.err c a'->Thr w0 f c a'):
  aI P0 69 [.pointer (some ⟨p,0,none⟩),.pointer (some ⟨b4,0,none⟩)] w K:=by
 refine Wc ?_;unfold W69;have hN:=hg.hN;unfold yN at hK ht;refine wV h hg.ws hN hg.l (λt s1 et w1 h1 xb=>?_) λc a' et=>ht c a' (by rw[et];rfl);rw[et]at hK ht;simp only[R.bind]at hK ht;have J:=hg.kind (by decide) et;have xh:=mW hg.ws 1 (by decide);rw[et]at xh;have xk:=hL.eff xb;refine cI λb5 w2 xz xo xj hx=>?_;have h2:=h1.ext hx;have L5:=h1.loc xo xz xj;have fr5:=xk.fresh (k:=b5) (by omega);refine dD (l:=iT t) L5.1 rfl rfl rfl λw3 yk xi xd=>?_;have L5:Loc w0 w3 p f M vt b5 TkT (iT t):=⟨xi,L5.2.up (by omega)⟩;have h3:=h2.one xd L5.2;have yc:=(xk.ext hx).one xd fr5.1 fr5.2.1 fr5.2.2.1 fr5.2.2.2;have yl:=xb.chg.size;have xv:Eff p f M M w w3:=(xb.x hx).one xd (by omega);refine tJ h3 J.1.ws hN J.1.l λw4 h4 I=>?_;have L5:=L5.eff I;have hi:=yc.eff I;have I:=xv.trans I;have U:=J.1.take [61];have tg:=lH J.1.ws [61];have zz:=xc.chg.size;rw[dU];refine⟨λhy=>?_,λhn=>?_⟩
 ·
  rw[aO hy]at hK ht;have L5:=L5.drew;have hi:=hi.ext (cP w4);have h4:=h4.drew;have I:=I.x (cP w4);rw[cQ,bD,bG,aH];refine hi.l4.ld rfl ?_;rw[bD,bG,aH];refine L5.ld rfl ?_;rw[bD,bG,aH];refine L5.ld rfl ?_;refine hE w4.drew p M vt _ top N _ h4 U (λx s2 ex M2 w5 h5 j=>?_) λc a' ex=>ht c a' (by rw[ex]);rw[ex]at hK;simp only at hK;obtain⟨g2,i2⟩:=U.e hF ex;have t2:=U.etoks hF ex;have L5:=L5.eff j;have hh:=hi.eff j;have j:=I.trans j;refine⟨L5.ld rfl rfl,L5.ld rfl rfl,hh.l4.ld rfl rfl,?_⟩;simp only[dF,dK,dC,aB,aK,aL,aN,Nat.reduceAdd,Nat.reduceLT,cZ,aS];refine Aq (d:=[str t.t,i64 ((x:Nat):Int),i64 t.a]) rfl rfl λr w6 hr yi hz hv=>?_;have hc:=hh.ext hv;have o:=j.x hv;have yp:=o.chg.size;refine⟨hc.l4.ld rfl rfl,?_⟩;refine hc.appA (x:=⟨t.t,x,t.a⟩) (h5.ext hv) hz ya λva' w7 ho h7 xx xt xq=>?_;refine hK _ _ rfl M2 va' vb w7 h7 g2 (by have:=tg.1.le;have:=J.2.1;omega) (t2.trans (tg.1.toks.trans xh.1.1.toks)) (by simp) (by simp) (((xc.trans o).then xx λk xu e=>?_)) ho (λb T cs hl hb xg xf=>xt b T cs (hl.eff o) hb xg) (λk J=>(xq k J).imp id λe=>by omega) λk J=>.inl J;rcases e with e|e
  ·have:=hL.rA.new k e;omega
  ·omega
 ·
  have hn:(cD s1 [61]).1=false:=by simpa using hn
  rw[aJ (by rw[hn];decide)]at hK ht;obtain⟨gb,ib,i1,tb⟩:=hg.name_back et hn;refine h4.ld rfl ?_;have ys:=U.ws.lt;have yr:=U.few;rw[fU,fE (by omega) (by omega),show(((cD s1 [61]).2.i:Nat):Int)-1=(((cD s1 [61]).2.i-1:Nat):Int)by omega];refine h4.st_i λw5 h5 j yj=>?_;have hh:=(hi.eff j).ext (cP w5);have h5:=h5.drew;have j:=(I.trans j).x (cP w5);rw[cQ,bD,bG,aH];refine hh.l4.ld rfl ?_;refine hB w5.drew p M vt _ top N _ h5 gb (λx s2 ex M2 w6 h6 o=>?_) λc a' ex=>ht c a' (by rw[ex]);rw[ex]at hK;simp only at hK;obtain⟨g2,i2,t2⟩:=gb.bk ye ex;have hc:=hh.eff o;have o:=j.trans o;refine⟨hc.l4.ld rfl rfl,?_⟩;refine lM λr w7 hr yh hz hs=>?_;have ho:=hc.ext hs;have xa:=o.x hs;have yo:=xa.chg.size;refine⟨ho.l4.ld rfl rfl,?_⟩;refine ho.appB (h6.ext hs) hz xy λvb' w8 yb h8 xw xr xp=>?_;refine hK _ _ rfl M2 va vb' w8 h8 g2 (by have i2:(cD s1 [61]).2.i-1<s2.i:=i2;omega) (t2.trans tb) (by simp) (by simp) ((xc.trans xa).then xw λk xu e=>?_) yb (λb T cs hl hb xg xf=>xr b T cs (hl.eff xa) hb xf) (λk J=>.inl J) λk J=>(xp k J).imp id λe=>by omega
  rcases e with e|e
  ·have:=hL.rB.new k e;omega
  ·omega
end
end
section
variable [HX]
variable{w0 w w' w1:World}{p f:Nat}{M M' M0:Lay}{vt:Value}{s:PS}{top:List Nat}{N:Int}{K:Q0}{e:Ex}{wbn:Nat}{wb:World}{dl:Nat}{B1 b4:Nat}{typ:Str}{a:Int}{vl va vb:Value}{ls:List Str}{av:List Atr}{bs:List Nat}
theorem Kq(s:PS):kI (bE s)=kI s:=by unfold kI;rw[mD,jX]
theorem Gd.plain{N:Int}{s s':PS}{t:Tok}{l:Str}(e:pF s t=.ok l s'):s'=s:=by
 unfold pF at e;split at e
 ·cases e
 ·injection e with _ e;exact e.symm
theorem Qy{E B:PS->R Nat}{b1:Nat}(hE:EC w0 f 118 E dl)(hB:EC w0 f 32 B dl)(hF:rQ E)(xv:EJ B)(h:PR w0 w p f M vt s top)(hg:Gd N s dl)(xr:(cur s).k≠0)(xc:bE s=s)
  (hL:BL w0 w p f M vt B1 b4 typ a vl (.slice none 0 0) (.slice none 0 0) ls [] [])(L1:Loc w0 w p f M vt b1 PpT [.pointer (some ⟨p,0,none⟩)])(ho:b1<B1/\b1≠b4)
  {M0:Lay}{wb:World}(xh:Eff p f M0 M wb w)(xm:wb.heap.size<=b4)(xl:wb.heap.size<=B1)
  (hK:∀x s',pY E B (s.toks.length+1) (iR (step1 s)) [] []=.ok x s'->∀M' va' vb' w',PR w0 w' p f M' vt s' top->Gd N s' dl->Eff p f M0 M' wb w'->BL w0 w' p f M' vt B1 b4 typ a vl va' vb' ls x.1 x.2->Loc w0 w' p f M' vt b1 PpT [.pointer (some ⟨p,0,none⟩)]->K (.tuple #[]) w')
  (ht:∀c a',pY E B (s.toks.length+1) (iR (step1 s)) [] []=.err c a'->Thr w0 f c a'):
  aI P0 67 [.pointer (some ⟨b1,0,none⟩),.pointer (some ⟨b4,0,none⟩)] w K:=by
 refine We ?_;unfold W67;have hN:=hg.hN;have hv:Gd N (step1 s) dl:=by have:=hg.step xr;rw[xc]at this;exact this
 have zz:=xh.chg.size;refine L1.ld rfl ?_;refine h.go (wsi hg.ws hg.l) λw1 h1 hk yf=>?_;have L1:=L1.eff hk;have hL:=hL.eff hk;have hk:=xh.trans hk;refine L1.ld rfl ?_;refine xU h1 hv.ws hN hv.l λw2 h2 hj=>?_;have L1:=L1.eff hj;have hL:=hL.eff hj;have hj:=hk.trans hj;have xo:=hv.lines;have et2:=congrArg List.length (mG hv.ws).1.toks;generalize hR:pY E B (s.toks.length+1) (iR (step1 s)) [] []=R0 at hK ht;refine eJ.go (λst w'=>st=[]/\∃s1 M1 av bs va vb n,PR w0 w' p f M1 vt s1 top/\Gd N s1 dl/\Eff p f M0 M1 wb w'/\Loc w0 w' p f M1 vt b1 PpT [.pointer (some ⟨p,0,none⟩)]/\BL w0 w' p f M1 vt B1 b4 typ a vl va vb ls av bs/\pY E B n s1 av bs=R0/\s1.toks.length<n+s1.i/\av.length<=s1.i/\bs.length<=s1.i/\s1.toks.length=s.toks.length) (λ_ w'=>s.toks.length-yU w' p)
  ⟨rfl,_,M,[],[],_,_,s.toks.length+1,h2,xo,hj,L1,hL,hR,by rw[et2];show s.toks.length<_;omega,by simp,by simp,by rw[et2];rfl⟩ ?_
 clear hL L1 h1 h2 hk hj;rintro st g w3 ⟨rfl,s1,M1,av,bs,va,vb,n,h3,hh,xq,L1,hL,j,hn,yo,yn,yk⟩;have xz:=hh.ws.lt;obtain⟨n,rfl⟩:∃m,n=m+1:=⟨n-1,by omega⟩;simp only[pY]at j;refine L1.ld rfl ?_;refine tJ h3 hh.ws hN hh.l λw4 h4 hi=>?_;have L1:=L1.eff hi;have hL:=hL.eff hi;have hi:=xq.trans hi;have xg:=hh.take [125];have tg:=lH hh.ws [125];have tgt:=congrArg List.length tg.1.toks;rw[fG,dU];refine⟨λxa=>?_,λhy=>?_⟩
 ·have xa:(cD s1 [125]).1=false:=by simpa using xa
  rw[aJ (by rw[xa];decide)]at j;have few:=hh.few;refine L1.ld rfl ?_;refine VB hE hB hF xv h4 xg hL (by omega) (by omega) hi xm xl (λx s2 ex M2 va2 vb2 w5 h5 hs yl xb yh yg xp xu xe yi yj=>?_) λc a' ex=>ht c a' (by rw[<-j,ex];rfl);rw[ex]at j;simp only[R.bind]at j;have xb:=congrArg List.length xb;have L1:=xe _ _ _ L1 ho.2 (λe=>by have:=hL.rA.new _ e;have:=ho.1;omega) (λe=>by have:=hL.rB.new _ e;have:=ho.1;omega);have I:=hs.now;have xd:=jE hs.ws;have xw:=congrArg List.length xd.toks;have xx:=xd.le;refine cX.cut (λ_ w'=>PR w0 w' p f M2 vt (bE s2) top/\Eff p f M2 M2 w5 w'/\pY E B n (iR (bE s2)) x.1 x.2=R0) ?_ ?_
  ·refine L1.ld rfl ?_;refine oJ h5 hs.ws hN hs.l λw6 h6 U=>?_;refine⟨i64 (cur s2).k,rfl,?_⟩;dsimp only;rw[eX];have L1:=L1.eff U;by_cases hr:(cur s2).k≠5
   ·rw[bK hr];simp only[fO];refine GdW.act (!isS (bE s2) [125]) (λw'=>PR w0 w' p f M2 vt (bE s2) top/\Eff p f M2 M2 w5 w') (λe=>by cases e) (λ_ J hJ=>?_) λg5 w7 xt=>?_
    ·refine L1.ld rfl ?_;refine Ac h6 I λw7 h7 o=>?_;rw[fG];rw[jX]at h7;exact hJ w7 ⟨h7,U.trans o⟩
    obtain⟨h7,o⟩:=xt;simp only[aF,aQ,gS];rw[dU];refine⟨λhq=>?_,λhq=>?_⟩
    ·have hq:isS (bE s2) [125]=false:=by simpa using hq
     have L1:Loc w0 w7 p f M2 vt b1 PpT [.pointer (some ⟨p,0,none⟩)]:=(xe _ _ _ ‹Loc w0 w4 p f M1 vt b1 PpT [.pointer (some ⟨p,0,none⟩)]› ho.2 (λe=>by have:=hL.rA.new _ e;have:=ho.1;omega) (λe=>by have:=hL.rB.new _ e;have:=ho.1;omega)).eff o;refine L1.ld rfl ?_;refine oJ h7 I.ws hN I.l λw8 h8 ym=>?_;refine⟨i64 (cur (bE s2)).a,rfl,?_⟩;refine qN h8 (ht 50 _ ?_);rw[<-j,aO ⟨hr,hq⟩]
    ·have hq:isS (bE s2) [125]=true:=by simpa using hq
     rw[aJ (λh=>by rw[h.2]at hq;cases hq)]at j;exact⟨h7,o,j⟩
   ·rw[cM hr];simp only[fO,Bs];intro g5;rw[gP,bW];rw[aJ (λh=>hr h.1)]at j;exact⟨h6,U,j⟩
  rintro _ g4 w6 ⟨h6,U,j⟩;have L1:=L1.eff U;refine L1.ld rfl ?_;refine xU h6 I.ws hN I.l λw7 h7 o=>?_;have lg:=mG I.ws;have lgt:=congrArg List.length lg.1.toks;have lgi:=lg.1.le;have tgi:=tg.1.le;have xf:=I.lines;have xy:=xf.ws.lt;refine⟨⟨rfl,iR (bE s2),M2,x.1,x.2,va2,vb2,n,h7,xf,(xp.trans U).trans o,L1.eff o,(xu.eff U).eff o,j,by omega,by omega,by omega,by omega⟩,?_⟩;rw[h7.at_,h3.at_];omega
 ·have hy:(cD s1 [125]).1=true:=by simpa using hy
  rw[aO hy]at j;exact hK _ _ j.symm M1 va vb w4 h4 xg hi hL L1
theorem JK{E B:PS->R Nat}(hE:∀d,dl=d+1->EC w0 f 118 E d)(hB:∀d,dl=d+1->EC w0 f 32 B d)(hF:rQ E)(zu:EJ B):EC w0 f 32 (tM E B) dl:=by
 intro w p M vt s top N K h hg hK ht;refine Wz ?_;unfold W32;have hN:=hg.hN;refine uG rfl λb1 w1 zt zj zc yf=>?_;have h1:=h.ext yf;have L1:=h.loc zj zt zc;unfold tM at hK ht;refine L1.ld rfl ?_;refine wV h1 hg.ws hN hg.l (λt s1 et w2 h2 xg=>?_) λc a' et=>ht c a' (by rw[et];rfl);rw[et]at hK ht;simp only[R.bind]at hK ht;obtain⟨yo,vh,_⟩:=hg.kind (by decide) et;have yl:=mW hg.ws 1 (by decide);have xm:=oW s 1;rw[et]at yl xm;have xm:=xm.2 (by decide);have zn:=congrArg List.length yl.1.1.toks;have L1:=L1.eff xg;have xg:=(Eff.ext yf).trans xg;have lt1:=L1.lt;have uz:=xg.chg.size;refine cI λb3 w3 zs zi zb xt=>?_;have h3:=h2.ext xt;have L3:=h2.loc zi zs zb;have L1:=L1.ext xt;refine dD (l:=iT t) L3.1 rfl rfl rfl λw4 uw za xx=>?_;have L3:Loc w0 w4 p f M vt b3 TkT (iT t):=⟨za,L3.2.up (by omega)⟩;have h4:=h3.one xx L3.2;have L1:=L1.one xx (by omega);have ys:=(xg.x xt).one xx (by omega);refine L3.ldf rfl ?_;refine L3.ldf rfl ?_;simp only[dF,dK,dC,aB,aK,aL,aN,Nat.reduceAdd,Nat.reduceLT,cZ,aS];refine cI λb4 w5 zr zh yz xr=>?_;have h5:=h4.ext xr;have L4:=h4.loc zh zr yz;have L1:=L1.ext xr;refine dD (l:=[str t.t,.slice none 0 0,.slice none 0 0,.slice none 0 0,i64 t.a]) L4.1 rfl rfl rfl λw6 uv yy xw=>?_;have L4:Loc w0 w6 p f M vt b4 BkT [str t.t,.slice none 0 0,.slice none 0 0,.slice none 0 0,i64 t.a]:=⟨yy,L4.2.up (by omega)⟩;have h6:=h5.one xw L4.2;have L1:=L1.one xw (by omega);have xv:=(ys.x xr).one xw (by omega);have uy:=xv.chg.size;obtain⟨B1,vm⟩:∃B1,B1=w6.heap.size:=⟨_,rfl⟩;have j:BL w0 w6 p f M vt B1 b4 t.t t.a (.slice none 0 0) (.slice none 0 0) (.slice none 0 0) [] [] []:=
  ⟨L4,Ro.nil _ _,Ro.nil _ _,Ro.nil _ _,λk hk=>by simp[Value.ownBlock]at hk,λk hk=>by simp[Value.ownBlock]at hk,λk hk=>by simp[Value.ownBlock]at hk,by omega,by omega⟩
 have xk:b1<B1/\b1≠b4:=⟨by omega,by omega⟩;have zk:w.heap.size<=B1:=by omega
 have zl:w.heap.size<=b4:=by omega
 clear L3 L4 h2 h3 h4 h5 xg ys;generalize hR:pV (s.toks.length+1) s1 []=R0 at hK ht;refine eJ.go (λst w'=>st=[]/\∃s2 M1 ls vl n,PR w0 w' p f M1 vt s2 top/\Gd N s2 dl/\Eff p f M M1 w w'/\Loc w0 w' p f M1 vt b1 PpT [.pointer (some ⟨p,0,none⟩)]/\BL w0 w' p f M1 vt B1 b4 t.t t.a vl (.slice none 0 0) (.slice none 0 0) ls [] []/\pV n s2 ls=R0/\s2.toks.length<n+s2.i/\ls.length<=s2.i/\s2.toks.length=s.toks.length/\Syn.phi s2+1<=Syn.phi s) (λ_ w'=>s.toks.length-yU w' p)
  ⟨rfl,s1,M,[],_,s.toks.length+1,h6,yo,xv,L1,j,hR,by have:=yo.ws.lt;omega,by simp,zn,xm⟩ ?_
 clear j L1 h6 xv;rintro st g w7 ⟨rfl,s2,M1,ls,vl,n,h7,hc,zo,L1,j,ho,hn,vg,vd,vf⟩;have ui:=hc.ws.lt;obtain⟨n,rfl⟩:∃m,n=m+1:=⟨n-1,by omega⟩;simp only[pV]at ho;refine L1.ld rfl ?_;refine oJ h7 hc.ws hN hc.l λw8 h8 hq=>?_;have L1:=L1.eff hq;have j:=j.eff hq;have hq:=zo.trans hq;have hv:=hc.now;refine⟨i64 (cur s2).k,rfl,?_⟩;dsimp only;rw[bX,bA];refine⟨λxi=>?_,λxi=>?_⟩
 ·rw[aO xi]at ho;have zm:=hc.tx xi;have L1:=L1.drew;have j:=j.ext (cP w8);have h8:=h8.drew;have hq:=hq.x (cP w8);rw[bD,bG,aH];refine j.l4.ld rfl ?_;refine L1.ld rfl ?_;refine L1.ld rfl ?_;refine Io h8 hv.ws hN hv.l λw9 h9 J=>?_;rw[Kq]at h9;rw[mD];have L1:=L1.eff J;have j:=j.eff J;have J:=hq.trans J;refine⟨L1.ld rfl rfl,j.l4.ld rfl rfl,?_⟩;have ym:=hc.next;refine Jk h9 zm.1 (by omega) (λl s3 el w10 o=>?_) λc a' el=>ht c a' (by rw[<-ho,el];rfl);have e3:=Gd.plain (N:=N) el;subst e3;rw[el]at ho;simp only[R.bind]at ho;have L1:=L1.ext o;have j:=j.ext o;have yc:=h9.ext o;have yw:=J.x o;refine⟨j.l4.ld rfl rfl,?_⟩;refine vG λr w11 hr yd xu xb=>?_;have L1:=L1.ext xb;have j:=j.ext xb;have xe:=yw.x xb;have uf:=xe.chg.size;refine⟨j.l4.ld rfl rfl,?_⟩;have few:=hc.few;refine j.appL (yc.ext xb) xu (by omega) λvl' w12 ze hs yx yk ug=>?_;have L1:=yk _ _ _ L1 xk.2 λe=>by have:=j.rL.new _ e;have:=xk.1;omega
  have ng:=rW hc.ws;have ngt:=congrArg List.length ng.1.toks;have ngi:=ng.2.1 (by rw[xi];decide);have ngl:=ym.ws.lt;have nph:=(tW s2).1;refine⟨⟨rfl,kI s2,M1,ls++[l],vl',n,hs,ym,xe.then yx λk hk e=>?_,L1,ze,ho,by omega,by rw[aP,aB,aK];omega,by omega,by omega⟩,?_⟩
  ·rcases e with e|e
   ·have:=j.rL.new k e;omega
   ·omega
  ·rw[hs.at_,h7.at_];omega
 ·rw[aJ xi]at ho;rw[<-ho]at hK ht;simp only at hK ht;simp only[kJ,mD,jX]at hK ht;refine L1.ld rfl ?_;refine oJ h8 hv.ws hN hv.l λw9 h9 J=>?_;rw[jX]at h9;rw[mD];have L1:=L1.eff J;have j:=j.eff J;have J:=hq.trans J;refine cI λb5 w10 zq ye xz o=>?_;have yc:=h9.ext o;have L5:=h9.loc ye zq xz;have fr:=j.fresh (k:=b5) (by omega);have lt1:=L1.lt;have ux:=J.chg.size;refine dD (l:=iT (cur s2)) L5.1 rfl rfl rfl λw11 yd xy xf=>?_;have L5:Loc w0 w11 p f M1 vt b5 TkT (iT (cur s2)):=⟨xy,L5.2.up (by omega)⟩;have ua:=yc.one xf L5.2;have L1:=(L1.ext o).one xf (by omega);have j:=(j.ext o).one xf fr.1 fr.2.1 fr.2.2.1 fr.2.2.2;have xe:=(J.x o).one xf (by omega);refine cX.cut (λ_ w'=>PR w0 w' p f M1 vt (bE s2) top/\Eff p f M1 M1 w11 w'/\isS s2 [123]=true) ?_ ?_
  ·refine L1.ld rfl ?_;refine Ac ua hv λw12 hs I=>?_;rw[jX]at hs;rw[kJ,fG,dU];refine⟨λhi=>?_,λhi=>⟨hs,I,by simpa using hi⟩⟩;have hi:isS s2 [123]=false:=by simpa using hi
   refine(L5.eff I).ldf rfl ?_;exact qN hs (ht _ _ (by rw[aO hi]))
  rintro _ g2 w12 ⟨hs,I,hi⟩;rw[aJ (by rw[hi];decide)]at hK ht;have L1:=L1.eff I;have L5:=L5.eff I;have j:=j.eff I;have I:=xe.trans I;refine L1.ld rfl ?_;refine L5.ldf rfl ?_;have uj:=hv.lev;refine pQ hs (by omega) (λhd=>ht 7 _ (by rw[sW hd])) λhd w13 zz xj=>?_;obtain⟨d,rfl⟩:∃d,dl=d+1:=⟨dl-1,by omega⟩;rw[wE hd]at hK ht;obtain⟨q1,q2,q3,q4⟩:=hc.sign hi false;have ntl:=congrArg List.length (jE hc.ws).toks;refine gG (caps:=[.pointer (some ⟨b1,0,none⟩),.pointer (some ⟨b4,0,none⟩)]) ?_;have ph2:Syn.phi (bE s2)<=Syn.phi s2:=lN s2;have efuel:({bE s2 with deep:=(bE s2).deep+1,quiet:=false}:PS).toks.length+1=s.toks.length+1:=by show(bE s2).toks.length+1=_;omega
  have efuel2:(bE s2).toks.length+1=s.toks.length+1:=by omega
  refine Qy (hE d rfl) (hB d rfl) hF zu zz q1 q3 q2 (j.eff xj) (L1.eff xj) xk (I.trans xj) zl zk (λx s3 ex M3 va vb w14 zy xn yu zd L1=>?_) λc a' ex=>ht c a' ?_
  ·rw[efuel]at ex;rw[ex]at hK;simp only[R.bind]at hK;have g14l:=xn.lev;refine⟨M3,s3,zy,by omega,λw15 hj hh=>?_⟩;have L1:=(L1.eff hh).drew;have j:=(zd.eff hh).ext (cP w15);have hj:=hj.drew;have hh:=(yu.trans hh).x (cP w15);have yn:Gd N {s3 with deep:=(bE s2).deep,quiet:=(bE s2).quiet} (d+1):=hv.back xn;generalize yi:({s3 with deep:=(bE s2).deep,quiet:=(bE s2).quiet}:PS)=s4 at*
   have s4b:s4.bl=s3.bl:=by rw[<-yi]
   have vi:=yn.ex.2;have ue:=hh.chg.size;have cF:∀{w':World},w'.heap[p]?=some (.cells [vt,i64 (s4.i:Nat),i64 s4.off,.pointer (some ⟨f,0,none⟩),i64 (s4.deep:Nat),.bool s4.quiet].toArray PsT (0,0))->w'.cell? ((⟨p,0,none⟩:Addr).add 3)=some (.pointer (some ⟨f,0,none⟩)):=by
    intro w' h;rw[bG,cA,h,bM];rfl
   have cB:∀{w':World} {u v:Value} {r:List Value},w'.heap[f]?=some (.cells (u::v::r).toArray FlT (0,0))->w'.cell? ((⟨f,0,none⟩:Addr).add 1)=some v:=by
    intro w' u v r h;rw[bG,cA,h,bM];rfl
   have ld1:∀{w':World} {M':Lay},Loc w0 w' p f M' vt b1 PpT [.pointer (some ⟨p,0,none⟩)]->ldW false 1 (.pointer (some ⟨b1,0,none⟩)) w' λx=>x=.pointer (some ⟨p,0,none⟩):=λL=>L.ld rfl rfl;have use:∀k,M3.vB.ownBlock=some k->k∈M3.uses f:=λk hk=>aE _ (dS (v:=M3.vB) (by simp) hk);have nE:¬M3.vB.ownBlock=some p:=λe=>hj.np (use p e);have nF:¬M3.vB.ownBlock=some f:=λe=>by
    have xl:=(HP M3 f).nodup_iff.1 hj.fr.nd;rw[dB]at xl;exact xl.1 (bS _ (jJ.2 e))
   have n1:¬M3.vB.ownBlock=some b1:=λe=>L1.2.2.2.1 (use b1 e);refine L1.ld rfl ?_;rw[cQ,bD,dX];refine⟨_,cF hj.ps,?_⟩;refine L1.ld rfl ?_;rw[cQ,bD,dX];refine⟨_,cF hj.ps,?_⟩;rw[cQ,bD,dX];refine⟨_,cB hj.fr.hf,?_⟩;refine fQ j.l4.1 rfl ?_;refine Aq rfl rfl λr w16 hr ud xu xa=>?_;have hz:=hj.ext xa;have L16:=L1.ext xa;refine⟨by rw[dX];exact⟨_,cB hz.fr.hf,rfl⟩,by rw[dX];exact⟨_,cF hz.ps,rfl⟩,ld1 L16,by rw[dX];exact⟨_,cF hz.ps,rfl⟩,ld1 L16,?_⟩;have zp:Chg (λk=>M3.vB.ownBlock=some k) w15.drew w16:=Chg.of_ext xa;obtain⟨lp,lc,el1,_⟩:=j.rL.own.sl.shape;obtain⟨ap,ac,ea1,_⟩:=j.rA.own.sl.shape;obtain⟨bp,bc,eb1,_⟩:=j.rB.own.sl.shape;refine iL XL hz.fr.oB (sB (n:=1) (T:=BkT) xu) rfl (λu hu=>by
    simp only[aX,bQ,fF]at hu;rcases hu with rfl|rfl|rfl|rfl|rfl
    ·rfl
    ·rw[el1];rfl
    ·rw[ea1];rfl
    ·rw[eb1];rfl
    ·rfl) (by omega) (by omega) hz.base λv' w17 xp U yg=>?_
   have yj:=U.at hz.ps nE;have yr:=U.at hz.fr.hf nF;refine⟨by rw[dX];exact⟨_,cF yj,rfl⟩,ld1 (M':=M3) ⟨U.at L16.1 n1,L16.2.up U.size⟩,?_⟩;rw[cQ,bD,bG,aH];obtain⟨vp,vc,ev,_⟩:=xp.sl.shape;refine jZ yr (by rw[ev];rfl) (by simp) λw18 uc yq xo=>?_;have L18:Loc w0 w17 p f M3 vt b1 PpT [.pointer (some ⟨p,0,none⟩)]:=⟨U.at L16.1 n1,L16.2.up U.size⟩;have nf1:b1≠f:=λe=>L16.2.2.2.1 (e▸aW);have L19:=L18.one xo nf1;have uu:=xa.size;have yh:∀k,k∈ub [str t.t,vl,va,vb,i64 t.a]↔vl.ownBlock=some k\/va.ownBlock=some k\/vb.ownBlock=some k:=λk=>by
    rw[show [str t.t,vl,va,vb,i64 t.a]=[str t.t]++([vl]++([va]++([vb]++[i64 t.a])))from rfl];simp only[mQ,bH,jJ];simp[Value.ownBlock]
   have xl:(ub [str t.t,vl,va,vb,i64 t.a]).Nodup:=by
    rw[show [str t.t,vl,va,vb,i64 t.a]=[str t.t]++([vl]++([va]++([vb]++[i64 t.a])))from rfl];simp only[mQ];rw[show ub [str t.t]=[]from rfl,show ub [i64 t.a]=[]from rfl,gJ,eZ];refine gQ.2 ⟨nB _,gQ.2 ⟨nB _,nB _,λx hx y hy e=>by subst e;exact j.d3 x (jJ.1 hx) (jJ.1 hy)⟩,λx hx y hy e=>?_⟩;subst e;rcases bH.1 hy with hy|hy
    ·exact j.d1 x (jJ.1 hx) (jJ.1 hy)
    ·exact j.d2 x (jJ.1 hx) (jJ.1 hy)
   obtain⟨yb,yt⟩:=hj.putB (w1:=w17) (w2:=w18) (v':=v') hh (e:=⟨t.t,ls,x.1,x.2,t.a⟩) ⟨vl,va,vb,rfl,j.rL.own,j.rA.own,j.rB.own⟩ (λk hk=>by
    rcases(yh k).1 hk with e|e|e
    ·exact j.rL.off k e
    ·exact j.rA.off k e
    ·exact j.rB.off k e) xl (λk hk=>by
    rcases(yh k).1 hk with e|e|e
    ·have:=j.rL.new k e;omega
    ·have:=j.rA.new k e;omega
    ·have:=j.rB.new k e;omega) xp (zp.trans U) (λk hk=>(yg k hk).imp id λe=>by omega) xo (by rw[yq];simp)
   refine L19.ld rfl ?_;rw[cQ,bD,dX];refine⟨_,cF yb.ps,?_⟩;rw[cQ,bD,dX];refine⟨_,cB yb.fr.hf,?_⟩;dsimp only;rw[ev,gN,fU,fE (by omega) (by omega)];have e1:((s4.bl.length+1:Nat):Int)-1=(s4.bl.length:Nat):=by omega
   rw[e1];subst yi;exact hK _ _ rfl _ w18 yb yt
  ·rw[efuel]at ex;rw[ex];rfl
theorem IG:EJ dead:=⟨Hk,xC⟩
theorem Bi(d:Nat):EJ (zF d):=⟨λN=>AV N d,Hw d⟩
theorem Hy(j:xI w0 f):∀dl,EC w0 f 32 (zF dl) dl
 |0=>JK (λd e=>by omega) (λd e=>by omega) uC IG
 |d+1=>by
  have ih:=Hy j d
  refine JK (λd' e=>?_) (λd' e=>?_) (CJ d).1 (Bi d)
  ·have e:d'=d:=by omega
   subst e;exact(JF j d').1
  ·have e:d'=d:=by omega
   subst e;exact ih
end
theorem BO(v:Value)(w:World):(Instr.typeAssert (.iface DT v) 20 DT false).run P0 w=.ok v w:=by kernel_rfl
theorem GH(w:World)(K:Value->Prop):eqQ P0 .neq 20 false true .nilIface .nilIface w K↔K (.bool false):=by
 have h:(do eqGuard .neq 20 (AY false) (AY true) .nilIface .nilIface;binOp .neq 20 .nilIface .nilIface:Sem Value).run P0 w=.ok (.bool false) w:=by kernel_rfl
 unfold eqQ oU;rw[h];exact⟨λ⟨v,o,j⟩=>by cases o;exact j,λj=>⟨_,rfl,j⟩⟩
theorem Cj(v:Value)(w:World)(K:Value->Prop):eqQ P0 .neq 20 false true (.iface DT v) .nilIface w K↔K (.bool true):=by
 have h:(do eqGuard .neq 20 (AY false) (AY true) (.iface DT v) .nilIface;binOp .neq 20 (.iface DT v) .nilIface:Sem Value).run P0 w=.ok (.bool true) w:=by kernel_rfl
 unfold eqQ oU;rw[h];exact⟨λ⟨v,o,j⟩=>by cases o;exact j,λj=>⟨_,rfl,j⟩⟩
theorem LP{a b:Value}{K:World->Prop}(j:K w):vY P0 29 [a,b] .returning w K:=by
 letI:=noX;refine NB .idle ?_;unfold ZJ;rw[GH,bW];exact j
theorem If{a b d:Nat}{Ta Tb:TypeId}{K:World->Prop}(ha:w.heap[a]?=some (.cells cs.toArray Ta (0,0)))(hl:cs.length=3)(hb:w.heap[b]?=some (.cells [v].toArray Tb (0,0)))(I:a≠b)
  (hK:∀w',Chg (λk=>k=a\/k=b) w w'->w'.heap[a]?=some (.cells [.slice none 0 0,.slice none 0 0,.slice none 0 0].toArray Ta (0,0))->w'.heap[b]?=some (.cells [.pointer (some ⟨d,0,none⟩)].toArray Tb (0,0))->K w'):
  vY P0 29 [.pointer (some ⟨a,0,none⟩),.pointer (some ⟨b,0,none⟩)] (.panicking [{v:=.iface DT (.pointer (some ⟨d,0,none⟩)),recovered:=false}]) w K:=by
 letI:=noX;refine NB (.thrown _) ?_;unfold ZJ;rw[Cj,cU,dC];refine⟨_,BO _ _,?_⟩;refine dD (l:=[.slice none 0 0,.slice none 0 0,.slice none 0 0]) (w:=w.drew) ha rfl hl rfl λw2 hh hc o=>?_;refine⟨⟨_,BO _ _,rfl⟩,?_⟩;have U:=o.at (w:=w.drew) hb (λe=>I e.symm);refine jZ U rfl (by simp) λw3 hg J j=>?_;refine hK w3 ?_ (j.at hc I) (by rw[J];simp);exact((Chg.drew (Chg.refl _ w)).trans (o.mono λk _ e=>.inl e)).trans (j.mono λk _ e=>.inr e)
structure FO(w:World)(B:Nat)(M:Lay)(fl:Fl):Prop where
 oE:Own w B ExT 5 M.vE fl.ex.length M.cE
 oB:Own w B BkT 5 M.vB fl.bl.length M.cB
 oT:Own w B lC 1 M.vT fl.top.length (ints fl.top)
 ee:kM (ExR w B) 5 fl.ex M.cE
 bb:kM (BkR w B) 5 fl.bl M.cB
 nd:(ub ([M.vE,M.vB,M.vT]++(M.cE++M.cB))).Nodup
 lt:∀k∈ub ([M.vE,M.vB,M.vT]++(M.cE++M.cB)),k<w.heap.size
 lo:∀k∈ub ([M.vE,M.vB,M.vT]++(M.cE++M.cB)),B<=k
theorem FR.out{B f:Nat}{M:Lay}{ex:List Ex}{bl:List Blk}{top:List Nat}(h:FR w B f M ex bl top):FO w B M ⟨ex,bl,top⟩:=by
 have j:=h.nd;unfold Lay.uses at j;rw[dB]at j;exact⟨h.oE,h.oB,h.oT,h.ee,h.bb,j.2,λk o=>h.lt k (aE _ o),λk o=>(h.lo k (aE _ o)).resolve_left λe=>j.1 (e▸o)⟩
theorem FO.keep{B:Nat}{M:Lay}{fl:Fl}(h:FO w B M fl)(I:Chg S w w')(hS:∀k,B<=k->k<w.heap.size->k∈ub ([M.vE,M.vB,M.vT]++(M.cE++M.cB))->¬S k):FO w' B M fl:=by
 have J:∀v∈[M.vE,M.vB,M.vT]++(M.cE++M.cB),∀k,v.ownBlock=some k->¬S k:=λv o k j=>hS k (h.lo k (dS o j)) (h.lt k (dS o j)) (dS o j);refine⟨dP h.oE I (J _ (by simp)),dP h.oB I (J _ (by simp)),dP h.oT I (J _ (by simp)),?_,?_,h.nd,λk j=>cV (h.lt k j) I.size,h.lo⟩
 ·refine h.ee.imp λx d hd U=>U.at_ I λk j=>?_;obtain⟨v,o,j⟩:=bO.1 j;exact J v (by simp[hd v o]) k j
 ·refine h.bb.imp λx d hd U=>U.at_ I λk j=>?_;obtain⟨v,o,j⟩:=bO.1 j;exact J v (by simp[hd v o]) k j
theorem ExR.low{B B':Nat}{e:Ex}{d:List Value}(h:ExR w B e d)(hb:B'<=B):ExR w B' e d:=by
 obtain⟨va,vk,e1,o,j⟩:=h;exact⟨va,vk,e1,o.base hb,j.base hb⟩
theorem BkR.low{B B':Nat}{e:Blk}{d:List Value}(h:BkR w B e d)(hb:B'<=B):BkR w B' e d:=by
 obtain⟨vl,va,vk,e1,I,o,j⟩:=h;exact⟨vl,va,vk,e1,I.base hb,o.base hb,j.base hb⟩
theorem FO.low{B B':Nat}{M:Lay}{fl:Fl}(h:FO w B M fl)(hb:B'<=B):FO w B' M fl:=
 ⟨h.oE.base hb,h.oB.base hb,h.oT.base hb,h.ee.imp λx d _ j=>j.low hb,h.bb.imp λx d _ j=>j.low hb,h.nd,h.lt,λk o=>dI hb (h.lo k o)⟩
section
variable{w0 w w1 w2:World}{p f:Nat}{M:Lay}{vt:Value}{s:PS}{top:List Nat}
theorem HN(M:Lay)(f:Nat):(M.uses f).Perm (f::(ub [M.vT]++ub ([M.vE,M.vB]++(M.cE++M.cB)))):=by
 rw[BP];intro a;unfold Lay.uses;simp only[mQ,kV,vQ];rw[uL M.vE,uL M.vB,uL M.vE [M.vB]];simp only[kV];omega
theorem PR.putT(h:PR w0 w p f M vt s top){x:Nat}{v':Value}(hO:Own w1 w0.heap.size lC 1 v' (top.length+1) (ints top++[i64 (x:Nat)]))(hh:Chg (λk=>M.vT.ownBlock=some k) w w1)(o:∀k,v'.ownBlock=some k->M.vT.ownBlock=some k\/w.heap.size<=k)
  (J:Chg (One f) w1 w2)(hf:w2.heap[f]?=some (.cells [M.vE,M.vB,v'].toArray FlT (0,0))):PR w0 w2 p f {M with vT:=v'} vt s (top++[x]):=by
 have hb:=h.base;have pT:=HN M f;have use:∀k,M.vT.ownBlock=some k->k∈M.uses f:=λk j=>aE _ (dS (v:=M.vT) (by simp) j);have I:=pT.nodup_iff.1 h.fr.nd;have hc:=I;rw[dB,gQ]at hc;obtain⟨nf,_,nb,nab⟩:=hc;have inU:∀k∈ub ([M.vE,M.vB]++(M.cE++M.cB)),k∈M.uses f:=λk j=>pT.mem_iff.2 (aE _ (bF _ j));have rest:∀k∈ub ([M.vE,M.vB]++(M.cE++M.cB)),M.vT.ownBlock≠some k/\k≠f/\k<w.heap.size:=λk j=>
  ⟨λe=>nab k (jJ.2 e) k j rfl,λe=>nf (e▸bF _ j),h.fr.lt k (inU k j)⟩
 have c12:Chg (λk=>M.vT.ownBlock=some k\/k=f) w w2:=(hh.mono λk _ e=>.inl e).trans (J.mono λk _ e=>.inr e);have sub:∀v∈[M.vE,M.vB]++(M.cE++M.cB),∀k,v.ownBlock=some k->¬(M.vT.ownBlock=some k\/k=f):=λv o k j e=>by
  have:=rest k (dS o j);exact e.elim this.1 this.2.1
 have hi:∀k,v'.ownBlock=some k->k≠f:=λk j e=>by
  subst e;rcases o k j with e|e
  ·exact nf (bS _ (jJ.2 e))
  ·have:=mJ h.fr.hf;omega
 have nE:M.vT.ownBlock≠some p:=λe=>h.np (use p e);have pf:p≠f:=λe=>h.np (e▸aW);have perm:=HN {M with vT:=v'} f;have hN:(f::(ub [v']++([]++ub ([M.vE,M.vB]++(M.cE++M.cB))))).Nodup:=Fj (n:=w.heap.size) (a:=ub [M.vT]) I (λk j=>h.fr.lt k (pT.mem_iff.2 j)) (nB _) (λk j=>(o k (jJ.1 j)).imp (λe=>jJ.2 e) id) mM λk j=>by cases j
 have hz:=c12.size;have mem:∀k∈({M with vT:=v'}:Lay).uses f,k=f\/v'.ownBlock=some k\/k∈ub ([M.vE,M.vB]++(M.cE++M.cB)):=λk j=>by
  have j:=perm.mem_iff.1 j;rcases aX.1 j with e|e
  ·exact .inl e
  rcases bH.1 e with e|e
  ·exact .inr (.inl (jJ.1 e))
  ·exact .inr (.inr e)
 refine⟨?_,⟨hf,?_,?_,?_,?_,?_,perm.nodup_iff.2 hN,λk j=>?_,λk j=>?_⟩,?_,?_,λe=>?_,h.lo,λk j=>?_⟩
 ·refine h.ch.then c12 λk j e=>?_;rcases e with e|e
  ·exact(h.fr.lo k (use k e)).resolve_right (by omega)
  ·exact e
 ·exact dP h.fr.oE c12 (sub _ (by simp))
 ·exact dP h.fr.oB c12 (sub _ (by simp))
 ·rw[aP,aB,aK,Cv];exact dP hO J λk j e=>hi k j e
 ·refine h.fr.ee.imp λx d hd hx=>hx.at_ c12 λk j=>?_;obtain⟨v,o,j⟩:=bO.1 j;exact sub v (by simp[hd v o]) k j
 ·refine h.fr.bb.imp λx d hd hx=>hx.at_ c12 λk j=>?_;obtain⟨v,o,j⟩:=bO.1 j;exact sub v (by simp[hd v o]) k j
 ·rcases mem k j with e|e|e
  ·rw[e];exact mJ hf
  ·exact cV (kA hO e).1 J.size
  ·exact cV (rest k e).2.2 hz
 ·rcases mem k j with e|e|e
  ·exact .inl e
  ·exact .inr (kA hO e).2
  ·exact h.fr.lo k (inU k e)
 ·exact c12.at h.ps λe=>e.elim nE pf
 ·exact qQ h.tk c12 λk j e=>by
   have:=(h.nt k j).1;rcases e with e|e
   ·exact this (use k e)
   ·exact this (e▸aW)
 ·rcases mem p e with e|e|e
  ·exact pf e
  ·exact(o p e).elim nE λe=>by have:=h.lt;omega
  ·exact h.np (inU p e)
 ·have U:=h.nt k j;refine⟨λe=>?_,U.2.1,cV U.2.2 hz⟩;rcases mem k e with e|e|e
  ·exact U.1 (e▸aW)
  ·exact(o k e).elim (λe=>U.1 (use k e)) λe=>by omega
  ·exact U.1 (inU k e)
end
def TabI(w:World):Prop:=∃m,w.cell? ⟨0,0,none⟩=some (.int .i64 m)
section
variable [HX]
def TK:Prop:=∀(w:World) (K:Q0) (s:Str),TabI w->s.length<=1000000->
 (∀l,nI s=.ok l->∀v w',Ext w w'->gD w' TkT v l.length (toks l)->(∀k,v.ownBlock=some k->w.heap.size<=k/\k<w'.heap.size)->K (.tuple #[v,.pointer none]) w')->
 (∀c a,nI s=.bad c a->∀d w',Ext w w'->w.heap.size<=d->w'.heap[d]?=some (.cells [i64 c,str [],i64 a].toArray 48 (0,0))->K (.tuple #[.slice none 0 0,.pointer (some ⟨d,0,none⟩)]) w')->
 aI P0 28 [str s] w K
end
theorem TabI.chg{f:Nat}(h:TabI w)(I:Chg (Of f) w w')(hf:w.heap[f]?=some (.cells cs.toArray FlT (0,0)))(J:∀m,cs[0]?≠some (.int .i64 m)):TabI w':=by
 obtain⟨m,h⟩:=h;refine⟨m,?_⟩;rw[cA]at h⊢;cases j:w.heap[0]? with
 |none=>rw[j]at h;cases h
 |some o=>
  rw[I.at j ?_]
  ·rw[j]at h;exact h
  ·intro e;have e:0=f:=e;subst e;rw[hf,bM]at h;exact J m (by simpa using h)
theorem Qa[HX](hS:∀[HX],TK){t:Str}{K:Q0}(hT:TabI w)(hl:t.length<=1000000)
  (ht:∀fl,sJ t=.ok fl->∀M w',Ext w w'->FO w' w.heap.size M fl->(fl.ex.length<=100000/\fl.bl.length<=100000/\fl.top.length<=100000)->K (.tuple #[.agg [M.vE,M.vB,M.vT].toArray,.pointer none]) w')
  (J:∀c a,sJ t=.bad c a->∀d w',Ext w w'->w.heap.size<=d->w'.heap[d]?=some (.cells [i64 c,str [],i64 a].toArray 48 (0,0))->K (.tuple #[.agg [.slice none 0 0,.slice none 0 0,.slice none 0 0].toArray,.pointer (some ⟨d,0,none⟩)]) w'):
  aI P0 12 [str t] w K:=by
 refine WN ?_;unfold W12;refine cI λf w1 hf uq yy zc=>?_;refine cI λbd w2 vb uo xr yg=>?_;have xb:=zc.trans yg;have yo:=yg.at yy id;have zt:TabI w2:=by
  obtain⟨m,h⟩:=hT;refine⟨m,?_⟩;rw[cA]at h⊢;cases hx:w.heap[0]? with
  |none=>rw[hx]at h;cases h
  |some o=>rw[xb.at hx id];rw[hx]at h;exact h
 unfold sJ at ht J;refine hS w2 _ t zt hl (λl hi v w3 hg hv yh=>?_) (λc a hi d w3 hg hd xy=>?_)
 ·rw[bP];refine⟨v,rfl,?_⟩;rw[bP];refine⟨.pointer none,rfl,?_⟩;have xf:=hg.at xr id;have xx:=hg.at yo id;refine jZ xf rfl (by simp) λw4 zb I hq=>?_;have I:w4.heap[bd]?=some (.cells [.pointer none].toArray 29 (0,0)):=by rw[I];simp
  have xd:=hq.at xx (by omega);refine⟨.pointer none,by rw[cA,I];rfl,?_⟩;show bB (.bool false) _ _;rw[bW];have xa:Ext w w4:=(xb.trans hg).new (hq.mono λk _ e=>e) (by omega);have ud:=mJ xd;have zs:TabI w4:=by
   obtain⟨m,h⟩:=hT;refine⟨m,?_⟩;rw[cA]at h⊢;cases hx:w.heap[0]? with
   |none=>rw[hx]at h;cases h
   |some o=>rw[xa.at hx id];rw[hx]at h;exact h
  have zd:gD w4 TkT v l.length (toks l):=qQ hv hq λk hk e=>by have:=(yh k hk).1;have e:k=bd:=e;omega
  letI inst:HX:=⟨λch x10=>vY P0 29 [.pointer (some ⟨f,0,none⟩),.pointer (some ⟨bd,0,none⟩)] (.panicking ch) x10 λw10=>
   ldW true 3 (.pointer (some ⟨f,0,none⟩)) w10 λr11=>
   ldW false 1 (.pointer (some ⟨bd,0,none⟩)) w10 λr12=>
   K (.tuple #[r11,r12]) w10⟩
  have zu:xI w4 f:=λw' KK s hc ze h1 h2=>hS w' KK s (zs.chg hc xd (by simp)) ze h1 h2;have xt:∀c a,(∀d w',Ext w w'->w.heap.size<=d->w'.heap[d]?=some (.cells [i64 c,str [],i64 a].toArray 48 (0,0))->K (.tuple #[.agg [.slice none 0 0,.slice none 0 0,.slice none 0 0].toArray,.pointer (some ⟨d,0,none⟩)]) w')->Thr w4 f c a:=by
   intro c a hb d w' cs hc hd zo zp xy;have yd:=xa.size;refine If zp zo (hc.at I (by show¬bd=f;omega)) (by omega) λw5 hy zr zq=>?_;refine fQ zr rfl ?_;refine⟨_,by rw[cA,zq];rfl,?_⟩;have va:w4.heap.size<=d:=hd;have yc:=hg.size;refine hb d w5 ?_ (by omega) (hy.at xy (by show¬(d=f\/d=bd);omega));refine(xa.then hc λk hk e=>?_).then hy λk hk e=>?_
   ·have e:k=f:=e;omega
   ·omega
  obtain⟨q,cap,ev,_⟩:=hv.shape;subst ev;simp only[dZ,dF,gM,dC,aB,aK,aL,aN,Nat.reduceAdd,Nat.reduceLT,cZ,aS];refine fX (z:=[.slice q l.length cap,i64 0,i64 0,.pointer (some ⟨f,0,none⟩),i64 0,.bool false]) λp w5 hp za zg xi=>?_;have yc:=hg.size;have xw:=xi.at xd id;have uf:=xi.at I id;let M0:Lay:=⟨.slice none 0 0,.slice none 0 0,.slice none 0 0,[],[]⟩;have hh:M0.uses f=[f]:=rfl;have zw:PR w4 w5 p f M0 (.slice q l.length cap) ⟨l,0,0,0,false,[],[]⟩ []:=
   ⟨Chg.of_ext xi,⟨xw,⟨by simp[M0],.inl ⟨rfl,rfl⟩⟩,⟨by simp[M0],.inl ⟨rfl,rfl⟩⟩,⟨by simp[ints],.inl ⟨rfl,rfl⟩⟩,kM.nil _ _,kM.nil _ _,by rw[hh];simp,by rw[hh];intro k hk;simp only[bR]at hk;omega,by rw[hh];intro k hk;simp only[bR]at hk;exact .inl hk⟩,
    zg,zd.ext xi,by rw[hh];simp only[bR];omega,by omega,λk hk=>by
     have hb:=yh k hk;rw[hh];simp only[bR];omega⟩
  have yj:=BB (N:=(t.length:Nat)) (off:=0) hi (mN _) (by omega);have yn:=wO hi;have uu:=ES hi;have xc:Gd (t.length:Nat) ⟨l,0,0,0,false,[],[]⟩ 24:=⟨⟨yj,gY.2 yj.ne,by omega⟩,by omega,yn.1,ET hi,by unfold Syn.phi;simp only[aK,eU];omega,rfl⟩;rw[hi]at ht J;simp only at ht J;have hN:=xc.hN;refine xU zw xc.ws hN xc.l λw6 h6 uz=>?_;have zi:=xc.lines;have et1:=congrArg List.length (mG xc.ws).1.toks;generalize hR:Bu (l.length+1) (iR ⟨l,0,0,0,false,[],[]⟩) []=R0 at ht J;have yw:∀{w':World},Chg (Of f) w4 w'->w'.heap[bd]?=some (.cells [.pointer none].toArray 29 (0,0)):=λhc=>hc.at I (by show¬bd=f;omega);refine eJ.go (λst w'=>st=[]/\∃s1 M1 top n,PR w4 w' p f M1 (.slice q l.length cap) s1 top/\Gd (t.length:Nat) s1 24/\Bu n s1 top=R0/\s1.toks.length<n+s1.i/\top.length<=s1.i/\s1.toks.length=l.length) (λ_ w'=>l.length-yU w' p)
   ⟨rfl,_,M0,[],l.length+1,h6,zi,hR,by rw[et1];show l.length<_;omega,by simp,by rw[et1]⟩ ?_
  rintro st g w7 ⟨rfl,s1,M1,top,n,h7,ho,j,hn,uv,uw⟩;have uc:=ho.ws.lt;obtain⟨n,rfl⟩:∃m,n=m+1:=⟨n-1,by omega⟩;simp only[Bu]at j;have xj:=ho.now;have ng:=jE ho.ws;have ngt:=congrArg List.length ng.toks;have ngi:=ng.le;refine oJ h7 ho.ws hN ho.l λw8 h8 uy=>?_;refine⟨i64 (cur s1).k,rfl,?_⟩;dsimp only;rw[eX,bA];refine⟨λhj=>?_,λhj=>?_⟩
  ·have hj:(cur s1).k≠0:=hj;rw[aJ hj]at j;have h8:=h8.drew;rw[bD,dX];refine⟨M1.vT,by rw[bG,cA,h8.fr.hf,bM];rfl,?_⟩;refine Hy zu 24 w8.drew p M1 _ _ top _ _ h8 xj (λx s2 ex M2 w9 h9 zl=>?_) λc a' ex=>xt c a' (J c a' (by rw[<-j,ex];rfl));rw[ex]at j;simp only[R.bind]at j;obtain⟨xk,ux,yk⟩:=xj.bk (Bi 24) ex;have yk:=congrArg List.length yk;have eT:=zl.hT;have ldT:∀{w':World},w'.heap[f]?=some (.cells [M2.vE,M2.vB,M2.vT].toArray FlT (0,0))->ldW false 1 (.pointer (some ((⟨f,0,none⟩:Addr).add 2))) w' λx=>x=M1.vT:=λh=>by
    rw[dX];exact⟨M2.vT,by rw[bG,cA,h,bM];rfl,eT⟩
   refine⟨ldT h9.fr.hf,?_⟩;refine lM λr w10 hr ye zf xn=>?_;have hz:=h9.ext xn;refine⟨ldT hz.fr.hf,?_⟩;have few:=ho.few;have uj:=xn.size;have nF:¬M2.vT.ownBlock=some f:=λe=>by
    have yl:=(HN M2 f).nodup_iff.1 hz.fr.nd;rw[dB]at yl;exact yl.1 (bS _ (jJ.2 e))
   rw[<-eT];refine iL AP hz.fr.oT (sB (n:=1) (T:=lC) zf) rfl (λu hu=>by simp only[bR]at hu;subst hu;rfl) (by omega) (by omega) hz.base λv' w11 xu xp yi=>?_;have yq:=xp.at hz.fr.hf nF;rw[bD,bG,aH];obtain⟨vp,vc,ev,_⟩:=xu.sl.shape;refine jZ yq (by rw[ev];rfl) (by simp) λw12 zy yp yu=>?_;have zx:=hz.putT (w1:=w11) (w2:=w12) (x:=x) xu xp yi yu (by rw[yp];simp);have U:=xk.now;have ng9:=jE xk.ws;have ng9t:=congrArg List.length ng9.toks;have ng9i:=ng9.le;refine cX.cut (λ_ w'=>PR w4 w' p f {M2 with vT:=v'} (.slice q l.length cap) (bE s2) (top++[x])/\Bu n (iR (bE s2)) (top++[x])=R0) ?_ ?_
   ·refine oJ zx xk.ws hN xk.l λw13 xm ue=>?_;refine⟨i64 (cur s2).k,rfl,?_⟩;dsimp only;rw[eX];simp only[fO,eX,nU];intro g2;simp only[aF];rw[fB,dU];refine⟨λhb=>?_,λhb=>?_⟩
    ·have hb:(cur s2).k≠5/\(cur s2).k≠0:=by simpa using hb
     rw[aO hb]at j;refine oJ xm U.ws hN U.l λw14 xl ys=>?_;refine⟨i64 (cur (bE s2)).a,rfl,?_⟩;exact qN xl (xt 50 _ (J 50 _ (by rw[<-j])))
    ·have hb:¬((cur s2).k≠5/\(cur s2).k≠0):=by simpa using hb
     rw[aJ hb]at j;exact⟨xm,j⟩
   rintro _ g2 w13 ⟨xm,j⟩;refine xU xm U.ws hN U.l λw14 xl ys=>?_;have lg:=mG U.ws;have lgt:=congrArg List.length lg.1.toks;have lgi:=lg.1.le;have ym:=U.lines;have ua:=ym.ws.lt;refine⟨⟨rfl,iR (bE s2),_,top++[x],n,xl,ym,j,by omega,by rw[aP,aB,aK];omega,by omega⟩,?_⟩;rw[xl.at_,h7.at_];omega
  ·have hj:(cur s1).k=0:=by
    by_cases h:(cur s1).k=0
    ·exact h
    ·exact absurd h hj
   rw[aO hj]at j;refine fQ h8.fr.hf rfl ?_;obtain⟨ep,ec,e1,_⟩:=h8.fr.oE.sl.shape;obtain⟨bp,bc,e2,_⟩:=h8.fr.oB.sl.shape;obtain⟨tp,tc,e3,_⟩:=h8.fr.oT.sl.shape;refine dD (l:=[M1.vE,M1.vB,M1.vT]) h8.fr.hf rfl rfl (by rw[e1,e2,e3];rfl) λw9 uk zj yt=>?_;have xo:Chg (Of f) w4 w9:=h8.ch.trans (yt.mono λk _ e=>e);refine jZ (yw xo) rfl (by simp) λw10 ye ya xe=>?_;have yr:=xe.at zj (by omega);refine LP ?_;refine fQ yr rfl ?_;refine⟨.pointer none,by rw[cA,ya];rfl,?_⟩;have xg:=h8.fr.out;have xg:=xg.keep yt λk hk zh hu e=>by have e:k=f:=e;omega
   have xg:=xg.keep xe λk hk zh hu e=>by have e:k=bd:=e;omega
   have yd:=xa.size;rw[<-j]at ht;have few:=ho.few;refine ht _ rfl M1 w10 ?_ (xg.low yd) ⟨xj.ex.1,xj.ex.2,by show top.length<=_;omega⟩;refine(xa.then xo λk hk e=>?_).then xe λk hk e=>?_
   ·have e:k=f:=e;omega
   ·have e:k=bd:=e;omega
 ·rw[bP];refine⟨.slice none 0 0,rfl,?_⟩;rw[bP];refine⟨.pointer (some ⟨d,0,none⟩),rfl,?_⟩;have xf:=hg.at xr id;have xx:=hg.at yo id;refine jZ xf rfl (by simp) λw4 zb I hq=>?_;have I:w4.heap[bd]?=some (.cells [.pointer (some ⟨d,0,none⟩)].toArray 29 (0,0)):=by rw[I];simp
  have xd:=hq.at xx (by omega);refine⟨.pointer (some ⟨d,0,none⟩),by rw[cA,I];rfl,?_⟩;show bB (.bool true) _ _;rw[cU,dC];refine⟨.pointer (some ⟨d,0,none⟩),by rw[cA,heap_drew,I];rfl,?_⟩;refine dD (w:=w4.drew) (l:=[.slice none 0 0,.slice none 0 0,.slice none 0 0]) xd rfl rfl rfl λw5 za xw hy=>?_;have xq:=hy.at (w:=w4.drew) I (by omega);refine⟨⟨.pointer (some ⟨d,0,none⟩),by rw[cA,xq];rfl,rfl⟩,?_⟩;refine jZ xq rfl (by simp) λw6 um yx xz=>?_;have zk:=xz.at xw (by omega);refine fQ zk rfl ?_;refine⟨.pointer (some ⟨d,0,none⟩),by rw[cA,yx];rfl,?_⟩;have yf:=xb.trans hg;have zn:=hq.at xy (by omega);have zm:=hy.at (w:=w4.drew) zn (by omega);refine J c a (by rw[hi]) d w6 ?_ (by omega) (xz.at zm (by omega));exact(((yf.new hq (by omega)).trans (cP w4)).new hy (by omega)).new xz (by omega)
abbrev cv(c:UInt8):Value:=.int .u8 (c.toNat:Nat)
theorem sO(a c:UInt8):decide (((a.toNat:Nat):Int)<=((c.toNat:Nat):Int))=decide (a<=c):=by
 rw[decide_eq_decide,UInt8.le_iff_toNat_le];omega
theorem vA(a c:UInt8):decide (((c.toNat:Nat):Int)=((a.toNat:Nat):Int))=(c==a):=by
 rw[nA,decide_eq_true_iff,gR,<-lT];omega
section
variable [HX]
theorem wU{K:Q0}(j:K (.bool (gV c)) w):aI P0 108 [cv c] w K:=by
 refine Tf ?_;unfold Zw;have e1:decide ((97:Int)<=((c.toNat:Nat):Int))=decide (97<=c):=sO 97 c;have e2:decide (((c.toNat:Nat):Int)<=122)=decide (c<=122):=sO c 122;have e3:decide ((65:Int)<=((c.toNat:Nat):Int))=decide (65<=c):=sO 65 c;have e4:decide (((c.toNat:Nat):Int)<=90)=decide (c<=90):=sO c 90;have e5:decide (((c.toNat:Nat):Int)=95)=(c==95):=vA 95 c;simp only[fP,fL,bX,e1,e2,e3,e4,e5];unfold gV at j;generalize decide (97<=c)=a at*
 generalize decide (c<=122)=b at*
 generalize decide (65<=c)=d at*
 generalize decide (c<=90)=e at*
 generalize (c==95)=g at*
 cases a<;>cases b<;>cases d<;>cases e<;>cases g<;>
  (simp only[fO,iW,GQ,Bs,nU,aQ,aM,gS,gP,aF,dA,cW];intros;exact j)
theorem BJ{K:Q0}(j:K (.bool (kU c)) w):aI P0 110 [cv c] w K:=by
 refine Td ?_;unfold Zu;have e1:decide ((48:Int)<=((c.toNat:Nat):Int))=decide (48<=c):=sO 48 c;have e2:decide (((c.toNat:Nat):Int)<=57)=decide (c<=57):=sO c 57;simp only[fP,fL,e1,e2];unfold kU at j;generalize decide (48<=c)=a at*
 generalize decide (c<=57)=b at*
 cases a<;>cases b<;>
  (simp only[fO,iW,GQ,Bs,nU,aQ,aM,gS,gP,aF,dA,cW];intros;exact j)
theorem uF{g:FuncId}{args:List Value}{K:Q0}(h:aI P g args w K):mY P (.func (.func g) #[] #[]) args w K:=gG (caps:=[]) (by rw[eZ];exact h)
theorem Qk{K:Q0}(j:K (.bool (iS c)) w):aI P0 109 [cv c] w K:=by
 refine Te ?_;unfold Zv;refine wU ?_;have e5:decide (((c.toNat:Nat):Int)=45)=(c==45):=vA 45 c;unfold iS at j;simp only[iW,bX,e5];refine GdW.look (kU c) (λ_ J o=>BJ o) λg=>?_;simp only[aF];rw[kS];simp only[iW,nU,aF];intro g2;rw[kS];exact j
theorem Qj{K:Q0}(j:K (.bool (iS c)) w):aI P0 150 [cv c] w K:=by
 refine Sw ?_;unfold YS;refine wU ?_;have e5:decide (((c.toNat:Nat):Int)=45)=(c==45):=vA 45 c;unfold iS at j;simp only[iW,bX,e5];refine GdW.look (kU c) (λ_ J o=>BJ o) λg=>?_;simp only[aF];rw[kS];simp only[iW,nU,aF];intro g2;rw[kS];exact j
theorem Qr{K:Q0}(j:K (.bool (c !=10)) w):aI P0 106 [cv c] w K:=by
 refine Tg ?_;unfold Zx;rw[eX];have e:decide (((c.toNat:Nat):Int)≠10)=(c !=10):=by
  have e5:decide (((c.toNat:Nat):Int)=10)=(c==10):=vA 10 c;rw[bne,<-e5,decide_not]
 rw[e];exact j
theorem Ji{q:UInt8->Bool}{fv:Value}{s:Str}{K:Q0}(hl:s.length<=1000000)(U:∀c {w:World} {K:Q0},K (.bool (q c)) w->mY P0 fv [cv c] w K)(I:K (i64 (fT q s:Nat)) w):aI P0 105 [str s,fv] w K:=by
 refine Ti ?_;unfold Zy;rw[dM];refine eJ.go (λst w'=>∃i:Nat,st=[i64 (i:Nat)]/\i<=s.length/\w'=w/\i+fT q (s.drop i)=fT q s) (λst _=>match st with|[.int _ i]=>s.length-i.toNat|_=>0) ⟨0,rfl,by omega,rfl,by simp⟩ ?_;rintro st g w' ⟨i,rfl,hi,rfl,j⟩;simp only[aF];rw[dT,bA];refine⟨λo=>?_,λhg=>?_⟩
 ·have o:i<s.length:=by omega
  rw[kQ o]at j;simp only[fT]at j;refine qY o ?_;refine U _ ?_;rw[fG,dU];refine⟨λhn=>?_,λJ=>?_⟩
  ·rw[aJ (by simpa using hn),cN]at j;rw[j];exact I
  ·rw[aO (by simpa using J)]at j;rw[cG,upi (by omega)];refine⟨⟨i+1,rfl,by omega,rfl,by omega⟩,?_⟩;simp only[bC];omega
 ·obtain rfl:i=s.length:=by omega
  rw[fZ]at j;simp only[fT,cN]at j;rw[dM,j];exact I
theorem Cy{l:Str}{K:Q0}(j:K (i64 (Lib.indexByte l c)) w):aI P0 104 [str l,cv c] w K:=by
 refine kX (args:=#[str l,cv c]) Tryz.call104 ((Tryz.strings_IndexByte (ofL l) (c.toNat:Nat) w).mono ?_);rintro e w' ⟨rfl,rfl⟩;refine⟨_,rfl,?_⟩;rw[iP];simpa using j
theorem MM{s:Str}{K:Q0}(hT:TabI w)(hl:s.length<=1000000)(o:K (i64 (Lib.index s [42,47])) w):aI P0 107 [str s,str [42,47]] w K:=by
 obtain⟨m,j⟩:=hT;refine kX (args:=#[str s,str [42,47]]) Tryz.call107 ((Tryz.strings_Index (ofL s) (ofL [42,47]) m w (by rw[jG];omega) j).mono ?_);rintro e w' ⟨rfl,rfl⟩;rw[iP,iP];exact⟨_,rfl,o⟩
end
theorem VN(c:UInt8):decide (0<=Lib.indexByte [32,9,13] c)=(c==32||c==9||c==13):=by
 have:∀m:Fin 256,decide (0<=Lib.indexByte [32,9,13] (UInt8.ofNat m.val))=(UInt8.ofNat m.val==32||UInt8.ofNat m.val==9||UInt8.ofNat m.val==13):=by decide+kernel
 have h:=this ⟨c.toNat,oG c⟩;rwa[pI]at h
theorem ZY(c:UInt8):decide (Lib.indexByte [34,92,110,116,114,36] c<0)=!Lex.escOk c:=by
 have:∀m:Fin 256,decide (Lib.indexByte [34,92,110,116,114,36] (UInt8.ofNat m.val)<0)=!Lex.escOk (UInt8.ofNat m.val):=by decide+kernel
 have h:=this ⟨c.toNat,oG c⟩;rwa[pI]at h
theorem Ud(c:UInt8):decide (0<=Lib.indexByte [123,125,91,93,40,41,61,43,45,42,47,37,60,62,33,63,58,44,46] c)=AD.contains c:=by
 have:∀m:Fin 256,decide (0<=Lib.indexByte [123,125,91,93,40,41,61,43,45,42,47,37,60,62,33,63,58,44,46] (UInt8.ofNat m.val))=AD.contains (UInt8.ofNat m.val):=by decide+kernel
 have h:=this ⟨c.toNat,oG c⟩;rwa[pI]at h
theorem DF(n:Nat)(c:UInt8)(r:Str):iZ (n+1) (c::r)=(if(c==32||c==9||c==13)=true then((iZ n r).1+1,(iZ n r).2)else if(c==35||Lib.hasPrefix (c::r) [47,47])=true then((iZ n ((c::r).drop (fT (λb=>b !=10) (c::r)))).1+fT (λb=>b !=10) (c::r),(iZ n ((c::r).drop (fT (λb=>b !=10) (c::r)))).2)
  else if Lib.hasPrefix (c::r) [47,42]=true then(if Lib.index (r.drop 1) [42,47]<0 then(0,40)else((iZ n ((c::r).drop ((Lib.index (r.drop 1) [42,47]).toNat+4))).1+((Lib.index (r.drop 1) [42,47]).toNat+4),(iZ n ((c::r).drop ((Lib.index (r.drop 1) [42,47]).toNat+4))).2))else(0,0)):=by
 simp only[iZ,fS,gR];rfl
theorem LN{q:UInt8->Bool}{r:Str}(h:q c=true):1<=fT q (c::r):=by simp only[fT];rw[aO h];omega
theorem add_add(i j:Nat)(x:Nat×Int):nR i (nR j x)=nR (i+j) x:=by
 unfold nR;by_cases h:x.2=0
 ·simp only[h,pH];rw[show x.1+j+i=x.1+(i+j)by omega]
 ·simp only[aJ h]
section
variable [HX]
theorem Uc{s:Str}{K:Q0}(hT:TabI w)(hl:s.length<=1000000)(hK:K (.tuple #[i64 ((iZ (s.length+1) s).1:Nat),i64 (iZ (s.length+1) s).2]) w):aI P0 60 [str s] w K:=by
 refine Wm ?_;unfold W60;generalize hR:iZ (s.length+1) s=R0 at hK;refine eJ.go (λst w'=>∃i n:Nat,st=[i64 (i:Nat)]/\i<=s.length/\w'=w/\((iZ n (s.drop i)).1+i,(iZ n (s.drop i)).2)=R0/\s.length<n+i) (λst _=>match st with|[.int _ i]=>s.length-i.toNat|_=>0) ⟨0,s.length+1,rfl,by omega,rfl,by rw[eU,hR];rfl,by omega⟩ ?_;rintro st g w' ⟨i,n,rfl,hi,rfl,o,hn⟩;obtain⟨n,rfl⟩:∃m,n=m+1:=⟨n-1,by omega⟩;simp only[aF];rw[dM,dT,bA];refine⟨λU=>?_,λhy=>?_⟩
 ·have U:i<s.length:=by omega
  have hd:=kQ U;rw[hd,DF]at o;rw[eF,eK,eD];refine⟨by omega,by omega,?_⟩;rw[eQ,bC];refine qY U ?_;refine Cy ?_;rw[fP,VN,dU];refine⟨λhb=>?_,λhb=>?_⟩
  ·rw[aO hb]at o;rw[cG,upi (by omega)];refine⟨⟨i+1,n,rfl,by omega,rfl,?_,by omega⟩,?_⟩
   ·rw[<-o];simp only[gK,eY];omega
   ·simp only[bC];omega
  rw[aJ (by rw[hb];decide)]at o;have ho:=hd;rw[hd];generalize hc:s[i]=c at*
  generalize hx:s.drop (i+1)=r at*
  have hq:(c::r).length=s.length-i:=by rw[<-hd,aR]
  simp only[aB]at hq;refine cX.cut (λst w2=>st=[.bool (c==35||Lib.hasPrefix (c::r) [47,47])]/\w2=w') ?_ ?_
  ·refine qY U ?_;rw[hc];have e5:decide (((c.toNat:Nat):Int)=35)=(c==35):=vA 35 c;rw[bX,e5,dU];refine⟨λh=>⟨by rw[h];rfl,rfl⟩,λh=>?_⟩;refine zB ?_;exact⟨by rw[h,cS],rfl⟩
  rintro st g2 w2 ⟨rfl,rfl⟩;simp only[aF];rw[dU];refine⟨λJ=>?_,λJ=>?_⟩
  ·rw[aO J]at o;refine Ji (q:=λb=>b !=10) (by simp only[aB];omega) (λc {w K} h=>uF (Qr h)) ?_;have hs:=rJ (λb=>b !=10) (c::r);have hg:1<=fT (λb=>b !=10) (c::r):=LN (by
    rw[fS]at J;rcases J with h|h
    ·rw[gR]at h;subst h;rfl
    ·simp only[Lib.hasPrefix,List.isPrefixOf,bL,gR]at h;rw[<-h.1];rfl)
   simp only[aB]at hs;rw[cG,fE (by omega) (by omega)];generalize fT (λb=>b !=10) (c::r)=k at*
   refine⟨⟨i+k,n,by simp only[fR,Value.int.injEq,cZ,eY];omega,by omega,rfl,?_,by omega⟩,?_⟩
   ·rw[<-o,<-jF,ho];simp only[gK,eY];omega
   ·simp only[bC];omega
  rw[aJ (by rw[J];decide)]at o;refine zB ?_;rw[dU];refine⟨λI=>?_,λI=>?_⟩
  ·rw[aO I]at o;rw[eF,eK,eD];have h2:2<=(c::r).length:=Fb (p:=[47,42]) (s:=c::r) I;simp only[aB]at h2;refine⟨by omega,by simp only[aB];omega,?_⟩;rw[eQ];show aI P0 107 [str (r.drop 1),str [42,47]] w2 _;refine MM hT (by rw[aR];omega) ?_;rw[dT,bA];refine⟨λhk=>?_,λhg=>?_⟩
   ·rw[aO hk]at o;rw[<-o,aH]at hK;exact hK
   ·rw[aJ hg]at o;obtain⟨j,hj⟩:=vZ (show 0<=Lib.index (r.drop 1) [42,47]by omega);have ht:=Fz _ _ hj;rw[aR]at ht;rw[hj]at o⊢;rw[cG,fE (by omega) (by omega),cG,fE (by omega) (by omega)];rw[bC]at o;refine⟨⟨i+(j+4),n,by simp only[fR,Value.int.injEq,cZ,eY];omega,by omega,rfl,?_,by omega⟩,?_⟩
    ·rw[<-o,<-jF,ho];simp only[gK,eY];omega
    ·simp only[bC];omega
  ·rw[aJ (by rw[I];decide),aH]at o;rw[<-o]at hK;exact hK
 ·obtain rfl:i=s.length:=by omega
  rw[fZ]at o;simp only[iZ,aH]at o;rw[<-o]at hK;exact hK
def qK(x:Nat×Int):List Value:=if x.2=0 then [i64 ((x.1+1:Nat):Int),i64 0]else [i64 0,i64 x.2]
def TxC(n:Nat):Prop:=∀(c:UInt8) (r:Str) (d:Nat) (w:World) (K:Q0),r.length<n->r.length<=1000000->d<=24->K (.tuple (qK (jL r d)).toArray) w->aI P0 112 [str (c::r),i64 (d:Nat)] w K
def InC(n:Nat):Prop:=∀(c:UInt8) (r:Str) (d:Nat) (w:World) (K:Q0),r.length<n->r.length<=1000000->d<=25->K (.tuple (qK (if 24<d then(0,7)else lO r d)).toArray) w->aI P0 149 [str (c::r),i64 (d:Nat)] w K
theorem pD{x:Nat×Int}:qK (nR i x)=if x.2=0 then [i64 ((i+x.1+1:Nat):Int),i64 0]else [i64 0,i64 x.2]:=by
 unfold qK nR;by_cases h:x.2=0
 ·simp only[h,pH];rw[show x.1+i+1=i+x.1+1 by omega]
 ·simp only[aJ h]
theorem NP(hi:InC n):TxC (n+1):=by
 intro c r d w K hn hl hx I;refine SZ ?_;unfold Zs;have o:(c::r).length=r.length+1:=rfl;generalize hR:qK (jL r d)=R0 at I;have cond:∀{c:UInt8} (k:Nat),k<256->(((c.toNat:Nat):Int)=(k:Int)↔c=UInt8.ofNat k):=λ{c} k hk=>by
  have:=DD c k hk;rwa[decide_eq_decide]at this
 refine eJ.go (λst w'=>∃i:Nat,st=[i64 ((i+1:Nat):Int)]/\w'=w/\i<=r.length/\qK (nR i (jL (r.drop i) d))=R0) (λst _=>match st with|[.int _ i]=>r.length+1-i.toNat|_=>0) ⟨0,rfl,rfl,by omega,by rw[eU,pD,<-hR];unfold qK;rw[aH]⟩ ?_;rintro st g w2 ⟨i,rfl,rfl,xa,j⟩;simp only[aF];rw[dM,dT,bA,o];refine⟨λho=>?_,λxb=>?_⟩
 ·have ho:i<r.length:=by omega
  have hd:=kQ ho;rw[hd,qH]at j;simp only[gR]at j;have ix:∀{KK:Value->Prop},KK (cv r[i])->mX (str (c::r)) (i64 ((i+1:Nat):Int)) KK:=λh=>qY (s:=c::r) (i:=i+1) (by rw[o];omega) h;refine ix ?_;rw[bX,bA];refine⟨λe=>?_,λe=>?_⟩
  ·have e:r[i]=34:=(cond 34 (by omega)).1 e;rw[aO e,pD,aO rfl]at j;rw[cG,upi (by omega)];rw[<-j]at I;exact I
  have e:¬r[i]=34:=λh=>e ((cond 34 (by omega)).2 h);rw[aJ e]at j;refine ix ?_;rw[bX,bA];refine⟨λe=>?_,λe=>?_⟩
  ·have e:r[i]=10:=(cond 10 (by omega)).1 e;rw[aO e,pD,aJ (by simp)]at j;rw[<-j]at I;exact I
  have e:¬r[i]=10:=λh=>e ((cond 10 (by omega)).2 h);rw[aJ e]at j;refine ix ?_;rw[bX,bA];refine⟨λe=>?_,λe=>?_⟩
  ·have e:r[i]=92:=(cond 92 (by omega)).1 e;rw[aO e]at j;rw[cG,upi (by omega),dM,fP,o];simp only[iW];by_cases hq:r.length<=i+1
   ·have e0:r.drop (i+1)=[]:=gL hq;rw[e0]at j;simp only at j;rw[pD,aJ (by simp)]at j;rw[bK (by omega),dA,Bs];intro g2;rw[gS,cU];rw[<-j]at I;exact I
   ·have U:i+1<r.length:=by omega
    have hh:=kQ U;rw[hh]at j;simp only at j;rw[cM (by omega),cW];refine GdW.look (!Lex.escOk r[i+1]) (λ_ J hJ=>?_) λg2=>?_
    ·rw[cG,upi (by omega)];refine qY (s:=c::r) (i:=i+2) (by rw[o];omega) ?_;refine Cy ?_;rw[dT];have:=ZY r[i+1];rw[show(c::r)[i+2]=r[i+1]from rfl,this];exact hJ
    simp only[aF,aQ,gP];rw[dU];refine⟨λhb=>?_,λhg=>?_⟩
    ·have hb:¬Lex.escOk r[i+1]=true:=by simpa using hb
     rw[aJ hb,pD,aJ (by simp)]at j;rw[<-j]at I;exact I
    ·have hg:Lex.escOk r[i+1]=true:=by simpa using hg
     rw[aO hg,add_add]at j;rw[cG,fE (by omega) (by omega)];refine⟨⟨i+2,by simp only[fR,Value.int.injEq,cZ,eY];omega,trivial,by omega,j⟩,?_⟩;simp only[bC];omega
  have e:¬r[i]=92:=λh=>e ((cond 92 (by omega)).2 h);rw[aJ e]at j;rw[eF,eK,eD];refine⟨by omega,by rw[o];omega,?_⟩;rw[eQ,bC,dW,hd];refine zB ?_;rw[pre_eq,dU];refine⟨λe=>?_,λe=>?_⟩
  ·rw[aO e]at j;have h2:=Fb e;have U:i+1<r.length:=by
    simp only[aB,aK,aR]at h2;omega
   have hh:=kQ U;rw[cG,upi (by omega),eF,eK,eD];refine⟨by omega,by rw[o];omega,?_⟩;rw[eQ,bC,dW,hh,cG,upi (by omega)];have hv:(r.drop (i+1)).drop 1=r.drop (i+2):=by rw[jF]
   rw[hv]at j;have hy:(r.drop (i+2)).length=r.length-(i+2):=aR ..;refine hi _ _ (d+1) _ _ (by show(r.drop (i+2)).length<n;omega) (by show(r.drop (i+2)).length<=_;omega) (by omega) ?_;have hs:∃x:Nat×Int,x=(if 24<d+1 then((0:Nat),(7:Int))else lO (r.drop (i+2)) (d+1))/\qK (nR i (if x.2=0 then nR (x.1+2) (jL ((r.drop (i+2)).drop x.1) d)else(0,x.2)))=R0/\(x.2=0->x.1<=(r.drop (i+2)).length):=by
    refine⟨_,rfl,?_,?_⟩
    ·by_cases h:24<d+1
     ·rw[aO h]at j⊢;exact j
     ·rw[aJ h]at j⊢;exact j
    ·by_cases h:24<d+1
     ·rw[aO h];intro h;exact absurd h (by simp)
     ·rw[aJ h];intro h0;exact((lF _ (r.drop (i+2)) (aY _)).2 (d+1) _ (iY rfl h0)).1.2
   obtain⟨x,ex,j,hj⟩:=hs;rw[show r.drop (i+1+1)=r.drop (i+2)from rfl,<-ex];by_cases h0:x.2=0
   ·have eo:qK x=[i64 ((x.1+1:Nat):Int),i64 0]:=by unfold qK;rw[aO h0]
    have hj:=hj h0;rw[aO h0,add_add,jF]at j;rw[eo,bP];refine⟨i64 ((x.1+1:Nat):Int),rfl,?_⟩;rw[bP];refine⟨i64 0,rfl,?_⟩;rw[eX,bA];refine⟨λh=>absurd rfl h,λ_=>?_⟩;rw[cG,fE (by omega) (by omega),cG,fE (by omega) (by omega)];refine⟨⟨i+(x.1+2),by simp only[fR,Value.int.injEq,cZ,eY];omega,rfl,by omega,by rw[show i+(x.1+2)=i+2+x.1 by omega]at j⊢;exact j⟩,?_⟩;simp only[bC];omega
   ·have eo:qK x=[i64 0,i64 x.2]:=by unfold qK;rw[aJ h0]
    rw[aJ h0,pD,aJ h0]at j;rw[eo,bP];refine⟨i64 0,rfl,?_⟩;rw[bP];refine⟨i64 x.2,rfl,?_⟩;rw[eX,bA];refine⟨λ_=>by rw[<-j]at I;exact I,λh=>absurd h0 h⟩
  ·rw[aJ (by rw[e];decide),add_add]at j;rw[cG,upi (by omega)];refine⟨⟨i+1,rfl,rfl,by omega,j⟩,?_⟩;simp only[bC];omega
 ·obtain rfl:i=r.length:=by omega
  rw[fZ,qG,pD,aJ (by simp)]at j;rw[<-j]at I;exact I
theorem QD(hi:InC n)(ho:TxC n):InC (n+1):=by
 intro c r d w K hn hl hq I;refine Sx ?_;unfold YT;rw[fJ,bA];refine⟨λh=>?_,λh=>?_⟩
 ·rw[aO (by omega)]at I;exact I
 have hj:d<=24:=by omega
 rw[aJ (by omega)]at I;have o:(c::r).length=r.length+1:=rfl;generalize hR:qK (lO r d)=R0 at I;have cond:∀{c:UInt8} (k:Nat),k<256->(((c.toNat:Nat):Int)=(k:Int)↔c=UInt8.ofNat k):=λ{c} k hk=>by
  have:=DD c k hk;rwa[decide_eq_decide]at this
 refine eJ.go (λst w'=>∃i:Nat,st=[i64 ((i+1:Nat):Int)]/\w'=w/\i<=r.length/\qK (nR i (lO (r.drop i) d))=R0) (λst _=>match st with|[.int _ i]=>r.length+1-i.toNat|_=>0) ⟨0,rfl,rfl,by omega,by rw[eU,pD,<-hR];unfold qK;rw[aH]⟩ ?_;rintro st g w2 ⟨i,rfl,rfl,hv,j⟩;simp only[aF];rw[dM,dT,bA,o];refine⟨λhh=>?_,λhy=>?_⟩
 ·have hh:i<r.length:=by omega
  have hd:=kQ hh;rw[hd,AL]at j;simp only[gR]at j;have hs:(r.drop (i+1)).length=r.length-(i+1):=aR ..;refine cX.cut (λst w'=>w'=w2/\∃(k:Nat) (e:Int),st=[i64 (if e=0 then((k+1:Nat):Int)else 0),i64 e]/\(e=0->i+(k+1)<=r.length/\qK (nR (i+(k+1)) (lO (r.drop (i+(k+1))) d))=R0)/\(e≠0->[i64 0,i64 e]=R0)) ?_ ?_
  ·refine qY (s:=c::r) (i:=i+1) (by rw[o];omega) ?_;show aU .eql (cv r[i]) _ _;rw[bX,bA];refine⟨λe=>?_,λe=>?_⟩
   ·have e:r[i]=125:=(cond 125 (by omega)).1 e;rw[aO e,pD,aO rfl]at j;rw[cG,upi (by omega)];rw[<-j]at I;exact I
   have e:¬r[i]=125:=λh=>e ((cond 125 (by omega)).2 h);rw[aJ e]at j;rw[bX,bA];refine⟨λe=>?_,λe=>?_⟩
   ·have e:r[i]=10:=(cond 10 (by omega)).1 e;rw[aO e,pD,aJ (by simp)]at j;rw[<-j]at I;exact I
   have e:¬r[i]=10:=λh=>e ((cond 10 (by omega)).2 h);rw[aJ e]at j;have sub:∀(x:Nat×Int),qK (nR i (if x.2=0 then nR (x.1+1) (lO ((r.drop (i+1)).drop x.1) d)else(0,x.2)))=R0->(x.2=0->x.1<=(r.drop (i+1)).length)->jC 0 (.tuple (qK x).toArray) λt33=>jC 1 (.tuple (qK x).toArray) λt34=>(λ(st:List Value) (w':World)=>w'=w2/\∃(k:Nat) (e:Int),st=[i64 (if e=0 then((k+1:Nat):Int)else 0),i64 e]/\(e=0->i+(k+1)<=r.length/\qK (nR (i+(k+1)) (lO (r.drop (i+(k+1))) d))=R0)/\(e≠0->[i64 0,i64 e]=R0)) [t33,t34] w2:=λx hx hc=>by
    by_cases J:x.2=0
    ·have eo:qK x=[i64 ((x.1+1:Nat):Int),i64 0]:=by unfold qK;rw[aO J]
     have hc:=hc J;rw[aO J,add_add,jF]at hx;rw[eo,bP];refine⟨i64 ((x.1+1:Nat):Int),rfl,?_⟩;rw[bP];refine⟨i64 0,rfl,rfl,x.1,0,by rw[aO rfl],λ_=>⟨by omega,by rw[show i+(x.1+1)=i+1+x.1 by omega]at hx⊢;exact hx⟩,λh=>absurd rfl h⟩
    ·have eo:qK x=[i64 0,i64 x.2]:=by unfold qK;rw[aJ J]
     rw[aJ J,pD,aJ J]at hx;rw[eo,bP];refine⟨i64 0,rfl,?_⟩;rw[bP];exact⟨i64 x.2,rfl,rfl,0,x.2,by rw[aJ J],λh=>absurd h J,λ_=>hx⟩
   rw[bX,bA];refine⟨λe=>?_,λe=>?_⟩
   ·have e:r[i]=123:=(cond 123 (by omega)).1 e;rw[aO e]at j;rw[eF,eK,eD];refine⟨by omega,by rw[o];omega,?_⟩;rw[eQ,bC,dW,hd,cG,upi (by omega)];refine hi _ _ (d+1) _ _ (by omega) (by omega) (by omega) ?_;refine sub _ ?_ ?_
    ·by_cases h:24<d+1
     ·rw[aO h]at j⊢;exact j
     ·rw[aJ h]at j⊢;exact j
    ·by_cases h:24<d+1
     ·rw[aO h];intro h;exact absurd h (by simp)
     ·rw[aJ h];intro J;exact((lF _ (r.drop (i+1)) (aY _)).2 (d+1) _ (iY rfl J)).1.2
   have e:¬r[i]=123:=λh=>e ((cond 123 (by omega)).2 h);rw[aJ e]at j;rw[bX,bA];refine⟨λe=>?_,λe=>?_⟩
   ·have e:r[i]=34:=(cond 34 (by omega)).1 e;rw[aO e]at j;rw[eF,eK,eD];refine⟨by omega,by rw[o];omega,?_⟩;rw[eQ,bC,dW,hd];refine ho _ _ d _ _ (by omega) (by omega) hj ?_;refine sub _ j λJ=>?_;exact((lF _ (r.drop (i+1)) (aY _)).1 d _ (iY rfl J)).2.2
   ·have e:¬r[i]=34:=λh=>e ((cond 34 (by omega)).2 h);rw[aJ e,add_add]at j;exact⟨rfl,0,0,rfl,λ_=>⟨by omega,j⟩,λh=>absurd rfl h⟩
  rintro st g2 w3 ⟨rfl,k,e,rfl,h1,h2⟩;simp only[aF,bJ];rw[eX,bA];refine⟨λU=>by rw[<-h2 U]at I;exact I,λU=>?_⟩;have U:e=0:=by
   by_cases h:e=0
   ·exact h
   ·exact absurd h U
  obtain⟨g1,g2⟩:=h1 U;rw[aO U,cG,fE (by omega) (by omega)];refine⟨⟨i+(k+1),by simp only[fR,Value.int.injEq,cZ,eY];omega,trivial,g1,g2⟩,?_⟩;simp only[bC];omega
 ·obtain rfl:i=r.length:=by omega
  rw[fZ,Cx,pD,aJ (by simp)]at j;rw[<-j]at I;exact I
theorem Jb:∀n,TxC n/\InC n
 |0=>⟨λ_ _ _ _ _ h=>by omega,λ_ _ _ _ _ h=>by omega⟩
 |n+1=>⟨NP (Jb n).2,QD (Jb n).2 (Jb n).1⟩
theorem Qo{r:Str}{d:Nat}{K:Q0}(hl:r.length<=1000000)(hd:d<=24)(j:K (.tuple (qK (jL r d)).toArray) w):aI P0 112 [str (c::r),i64 (d:Nat)] w K:=(Jb (r.length+1)).1 c r d w K (by omega) hl hd j
end
end
end Go.Proofs.YtjblfcfdeaagpaaGreatDoor
namespace Go.Eng
section
open Go
variable{w:World}{K:Q0}{cs:List Value}{G:Nat->Prop}{T:TypeId}{i:Nat}{n:Nat}{v:Value}{w':World}{P:Program}{c:UInt8}{S:Nat->Prop}
theorem byte_at{s r:Str}(h:s.drop i=c::r):kL s i=c.toNat:=by
 unfold kL;have:s[i]?=some c:=by
  have:=List.getElem?_drop (xs:=s) (i:=i) (j:=0);rw[h]at this;simpa using this.symm
 rw[this]
theorem Nc{s l r:Str}(h:s.drop i=l++r):s.drop (i+l.length)=r:=by
 rw[<-kB,h,List.drop_left]
theorem vF{s r:Str}(h:s.drop i=c::r):i<s.length:=by
 apply Nat.lt_of_not_le;intro j;rw[List.drop_eq_nil_iff.2 j]at h;cases h
theorem sC{s u r:Str}{j:Nat}(h:s.drop i=u++r)(o:j<u.length):kL s (i+j)=u[j].toNat:=by
 have:s.drop (i+j)=u[j]::(u.drop (j+1)++r):=by
  rw[<-kB,h,AX (by omega),dQ o];rfl
 exact byte_at this
theorem DO{s t:Str}{k m:Nat}(o:0<m)(h:kH s i=m)(hb:∀j,j<m->kL t (k+j)=kL s (i+j)):kH t k=m:=by
 have e0:kL t k=kL s i:=hb 0 o;unfold kH at h⊢;dsimp only at h;simp only[e0];by_cases h1:m=1
 ·subst h1;split at h
  ·omega
  rename_i a;split at h
  ·rename_i b;rw[aJ a,aO b]
  split at h
  ·omega
  split at h
  ·omega
  split at h<;>omega
 by_cases U:m=2
 ·subst U;have e1:=hb 1 (by omega);have m1:pM t (k+1)=pM s (i+1):=by unfold pM;rw[e1]
  simp only[m1];split at h
  ·omega
  rename_i a;split at h
  ·omega
  rename_i b;split at h
  ·rename_i c;rw[aJ a,aJ b,aO c]
  split at h
  ·omega
  split at h<;>omega
 by_cases J:m=3
 ·subst J;have e1:=hb 1 (by omega);have e2:=hb 2 (by omega);have m1:pM t (k+1)=pM s (i+1):=by unfold pM;rw[e1]
  have m2:pM t (k+2)=pM s (i+2):=by unfold pM;rw[e2]
  simp only[m1,m2,e1,e2];split at h
  ·omega
  rename_i a;split at h
  ·omega
  rename_i b;split at h
  ·omega
  rename_i c;split at h
  ·rename_i d;rw[aJ a,aJ b,aJ c,aO d]
  split at h<;>omega
 by_cases I:m=4
 ·subst I;have e1:=hb 1 (by omega);have e2:=hb 2 (by omega);have e3:=hb 3 (by omega);simp only[pM,e1,e2,e3]at h⊢;exact h
 ·exfalso;split at h
  ·omega
  split at h
  ·omega
  split at h
  ·omega
  split at h
  ·omega
  split at h<;>omega
theorem NW{s:Str}(h:kH s i≠0):i<s.length:=by
 apply Nat.lt_of_not_le;intro j;exact h (rune_end j)
theorem Kd{s:Str}(h:kH s i≠0):i+kH s i<=s.length:=by
 obtain⟨c,j⟩:=tS (NW h) h;exact j.fits
def Rn(u:Str):Prop:=u≠[]/\kH u 0=u.length
theorem Rn.pos{u:Str}(h:Rn u):0<u.length:=gY.2 h.1
theorem Rn.at{u s r:Str}(h:Rn u)(I:s.drop i=u++r):kH s i=u.length:=by
 refine DO (s:=u) (i:=0) h.pos h.2 λj o=>?_;rw[sC I o,sC (s:=u) (i:=0) (u:=u) (r:=[]) (by simp) o]
theorem Rn.of{s:Str}(h:kH s i≠0):Rn ((s.drop i).take (kH s i)):=by
 have hf:=Kd h;have hl:((s.drop i).take (kH s i)).length=kH s i:=by rw[cO,aR];omega
 refine⟨λe=>by rw[e]at hl;simp at hl;omega,?_⟩;rw[hl];refine DO (s:=s) (i:=i) (by omega) rfl λj o=>?_;rw[sC (s:=s) (i:=i) (u:=(s.drop i).take (kH s i)) (r:=(s.drop i).drop (kH s i)) (rZ _ _).symm (by omega),sC (s:=(s.drop i).take (kH s i)) (i:=0) (u:=(s.drop i).take (kH s i)) (r:=[]) (by simp) (by omega)]
inductive Utf:Str->Prop where
 |nil:Utf []
 |cons {u r:Str}:Rn u->Utf r->Utf (u++r)
theorem Utf.app{a b:Str}(h:Utf a)(o:Utf b):Utf (a++b):=by
 induction h with
 |nil=>exact o
 |cons j _ ih=>rw[fK];exact .cons j ih
theorem Utf.one{u:Str}(h:Rn u):Utf u:=by have:=Utf.cons h .nil;rwa[eZ]at this
theorem Rn.cases{u:Str}(h:Rn u):(∃c:UInt8,u=[c]/\c.toNat<128)\/(∀c∈u,128<=c.toNat):=by
 have I:=h.2;have hp:=h.pos;have hb:∀j,(o:j<u.length)->kL u j=u[j].toNat:=λj o=>by
  have:=sC (s:=u) (i:=0) (u:=u) (r:=[]) (by simp) o;rwa[aH]at this
 have J:∀j,(o:j<u.length)->pM u j=true->128<=u[j].toNat:=λj o J=>by
  unfold pM at J;rw[hb j o,bL,decide_eq_true_iff,decide_eq_true_iff]at J;omega
 unfold kH at I;rw[hb 0 hp]at I;simp only[aH]at I;have U:(∀j,(o:j<u.length)->128<=u[j].toNat)->∀c∈u,128<=c.toNat:=λo c hc=>by
  obtain⟨j,h1,rfl⟩:=List.getElem_of_mem hc;exact o j h1
 split at I
 ·omega
 split at I
 ·rename_i hh;left;obtain⟨c,rfl⟩:=List.length_eq_one_iff.1 I.symm;refine⟨c,rfl,?_⟩;have e:([c]:Str)[0].toNat=c.toNat:=rfl;omega
 right;refine U λj o=>?_;split at I
 ·rename_i c;obtain⟨c1,_,c2⟩:=c;obtain rfl|rfl:j=0\/j=1:=by omega
  ·omega
  ·exact J 1 o c2
 split at I
 ·rename_i c;obtain⟨c1,_,c2,c3,_⟩:=c;obtain rfl|rfl|rfl:j=0\/j=1\/j=2:=by omega
  ·omega
  ·exact J 1 o c2
  ·exact J 2 o c3
 split at I
 ·rename_i c;obtain⟨c1,_,c2,c3,c4,_⟩:=c;obtain rfl|rfl|rfl|rfl:j=0\/j=1\/j=2\/j=3:=by omega
  ·omega
  ·exact J 1 o c2
  ·exact J 2 o c3
  ·exact J 3 o c4
 ·omega
def escOk(c:UInt8):Bool:=
 match ZX c with
 |[d]=>decide (d=c)&&decide (c≠34)&&decide (c≠92)&&decide (32<=c.toNat)
 |[a,b]=>decide (a=92)&&decide (ZW [a,b] 0=some ([c],2))
 |[a,b,d,e,f,g]=>decide (a=92)&&decide (b=117)&&decide (VE [a,b,d,e,f,g] 0=c.toNat)
 |_=>false
end
end Go.Eng
namespace Go.Proofs.YtjblfcfdeaagpaaGreatDoor
section
open Go Go.Eng Go.RowKit Go.Syn Go.Lex
variable{w:World}{K:Q0}{cs:List Value}{G:Nat->Prop}{T:TypeId}{i:Nat}{n:Nat}{v:Value}{w':World}{P:Program}{c:UInt8}{S:Nat->Prop}
theorem Oe(c d:UInt8)(r:Str):[d].isPrefixOf (c::r)=(d==c):=by simp[List.isPrefixOf]
theorem Kw(s:Str):Lib.index s [10]=if fT (λb=>b !=10) s<s.length then((fT (λb=>b !=10) s:Nat):Int)else-1:=by
 induction s with
 |nil=>rfl
 |cons c r ih=>
  simp only[Lib.index,Oe];by_cases h:c=10
  ·subst h;rfl
  ·have J:((10:UInt8)==c)=false:=by rw[beq_eq_false_iff_ne];exactλe=>h e.symm
   have I:(c !=10)=true:=by simp[h]
   have e2:fT (λb=>b !=10) (c::r)=fT (λb=>b !=10) r+1:=by simp only[fT];rw[aO I]
   obtain⟨k,j⟩:∃k,k=fT (λb=>b !=10) r:=⟨_,rfl⟩;have ih':Lib.index r [10]=if k<r.length then(k:Int)else-1:=by rw[j];exact ih
   rw[J,aJ (by decide),ih',e2,<-j];simp only[aB];by_cases o:k<r.length
   ·have e3:(if k<r.length then(k:Int)else-1)=k:=aO o;have e4:(if k+1<r.length+1 then((k+1:Nat):Int)else-1)=((k+1:Nat):Int):=aO (by omega);rw[e3,e4,aJ (by simp only[gR];omega)];rfl
   ·have e3:(if k<r.length then(k:Int)else-1)=-1:=aJ o;have e4:(if k+1<r.length+1 then((k+1:Nat):Int)else-1)=-1:=aJ (by omega);rw[e3,e4];rfl
theorem QS(s:Str):(Lib.cut s [10]).1=s.take (fT (λb=>b !=10) s)/\(Lib.cut s [10]).2.2=decide (fT (λb=>b !=10) s<s.length):=by
 have j:=rJ (λb=>b !=10) s;unfold Lib.cut;rw[Kw];by_cases h:fT (λb=>b !=10) s<s.length
 ·rw[aO h,aO (by omega),bC];exact⟨rfl,by simp[h]⟩
 ·rw[aJ h,aJ (by omega)];exact⟨by rw[iJ (by omega)],by simp[h]⟩
theorem Lz(l:Str):Lib.trimLeftS l [32,9]=l.drop (fT (λb=>b==32||b==9) l):=by
 unfold Lib.trimLeftS;induction l with
 |nil=>rfl
 |cons c r ih=>
  simp only[List.dropWhile_cons,fT];have e:([32,9]:Str).contains c=(c==32||c==9):=by simp[List.contains,List.elem];cases(c==32)<;>cases(c==9)<;>rfl
  rw[e];by_cases hb:(c==32||c==9)=true
  ·rw[aO hb,aO hb];exact ih
  ·rw[aJ hb,aJ hb];rfl
theorem KG(a b:Str):kP (a++b)=kP a++kP b:=by
 induction a with
 |nil=>rfl
 |cons c r ih=>
  simp only[gH,kP]
  (repeat' split)<;>simp only[gH,ih]
theorem IC{u:Str}(h:∀c∈u,128<=c.toNat):kP u=u:=by
 induction u with
 |nil=>rfl
 |cons c r ih=>
  have I:=h c aW;have n:∀k:UInt8,k.toNat<128->(c==k)=false:=λk o=>by
   rw[beq_eq_false_iff_ne];intro e;subst e;omega
  simp only[kP,n 92 (by decide),n 34 (by decide),n 36 (by decide),n 9 (by decide),n 13 (by decide),Bool.or_self,oH,rN,ih λx j=>h x (aE _ j)]
theorem sF{r:Str}(h:Utf (c::r))(U:c.toNat<128):Utf r:=by
 generalize j:c::r=z at h;cases h with
 |nil=>cases j
 |@cons u r' o I=>
  rcases o.cases with⟨x,rfl,_⟩|J
  ·simp only[gH,gJ,fR]at j;rw[j.2];exact I
  ·cases u with
   |nil=>exact absurd rfl o.1
   |cons y u'=>
    simp only[gH,fR]at j;have:=J y aW;rw[<-j.1]at this;omega
theorem JR{t:Str}(h:Utf t):∀{a b:Str} {c:UInt8},t=a++c::b->c.toNat<128->Utf a/\Utf (c::b):=by
 induction h with
 |nil=>intro a b c e;simp at e
 |@cons u r I hr ih=>
  intro a b c e hc;by_cases o:u.length<=a.length
  ·have U:a=u++a.drop u.length:=by
    have:=congrArg (List.take u.length) e;rw[List.take_left,AW o]at this;have J:=rZ u.length a;rw[<-this]at J;exact J.symm
   rw[U,fK]at e;have e:=List.append_cancel_left e;obtain⟨i1,i2⟩:=ih e hc;rw[U];exact⟨.cons I i1,i2⟩
  ·have j:c∈u:=by
    have:(u++r)[a.length]?=some c:=by rw[e];simp
    rw[List.getElem?_append_left (by omega)]at this;exact bI this
   rcases I.cases with⟨x,rfl,_⟩|hh
   ·have ha:a=[]:=cK (by simp only[aB,aK]at o;omega);subst ha;simp only[gJ]at e;rw[<-e];exact⟨.nil,.cons I hr⟩
   ·have:=hh c j;omega
theorem zJ{t:Str}(h:Utf t){b:Str}(hd:t.drop i=c::b)(j:c.toNat<128):Utf (t.take i)/\Utf (c::b):=
 JR h (by rw[<-hd,rZ]) j
theorem Lu{s:Str}(h:Utf s):Utf (s.take (fT (λb=>b !=10) s))/\(fT (λb=>b !=10) s<s.length->Utf (s.drop (fT (λb=>b !=10) s+1))):=by
 have stop:∀s:Str,∀b,(s.drop (fT (λb=>b !=10) s)).head?=some b->b=10:=by
  intro s;induction s with
  |nil=>intro b hb;simp[fT]at hb
  |cons c r ih=>
   intro b hb;simp only[fT]at hb;by_cases o:(c !=10)=true
   ·rw[aO o,dW]at hb;exact ih b hb
   ·rw[aJ o]at hb;simp only[eU,List.head?_cons,aV]at hb;rw[<-hb];simpa using o
 by_cases I:fT (λb=>b !=10) s<s.length
 ·have hd:=kQ I;have j:=stop s s[fT (λb=>b !=10) s] (by rw[hd];rfl);obtain⟨U,J⟩:=zJ h hd (by rw[j];decide);exact⟨U,λ_=>sF J (by rw[j];decide)⟩
 ·exact⟨by rw[iJ (by omega)];exact h,λe=>absurd e I⟩
theorem TabI.ext(h:TabI w)(I:Ext w w'):TabI w':=by
 obtain⟨m,h⟩:=h;refine⟨m,?_⟩;rw[cA]at h⊢;cases j:w.heap[0]? with
 |none=>rw[j]at h;cases h
 |some o=>rw[I.at j id];rw[j]at h;exact h
section
variable [HX]
theorem Cn{l:Str}{K:Q0}(o:K (.pointer (some ⟨w.heap.size,0,none⟩)) (w.alloc (.stringIter (ofL l) 0))):fH P0 (Instr.range 9 (str l)) w K:=by
 have hT:Tryz.prog.underlying 9=some .string:=by kernel_rfl
 have j:(Instr.range 9 (str l)).run P0 w=.ok (.pointer (some ⟨w.heap.size,0,none⟩)) (w.alloc (.stringIter (ofL l) 0)):=by
  simp[Instr.range,run_bind,bU hT,run_pure,newObj,Sem.run]
 unfold fH;rw[j];exact o
theorem Mq{r:Nat}{o:Obj}(h:r<w.heap.size):Chg (· =r) w {w with heap:=w.heap.setIfInBounds r o}:=
 ⟨rfl,rfl,rfl,by simp,λk _ j=>by
  show(w.heap.setIfInBounds r o)[k]?=_
  rw[Array.getElem?_setIfInBounds_ne (by omega)]⟩
theorem Eh{r pos:Nat}{l:Str}{K:Q0}(I:w.heap[r]?=some (.stringIter (ofL l) pos))
  (h0:l.length<=pos->K (.tuple #[.bool false]) w)
  (h1:pos<l.length->∀w',w'.heap[r]?=some (.stringIter (ofL l) (pos+(Utf8.decode (ofL l) pos).2))->Chg (· =r) w w'->w'.heap.size=w.heap.size->K (.tuple #[.bool true,i64 pos,.int .i32 (Utf8.decode (ofL l) pos).1]) w'):
  fH P0 (Instr.next (.pointer (some ⟨r,0,none⟩)) true T) w K:=by
 have U:(getObj r).run P0 w=.ok (.stringIter (ofL l) pos) w:=by simp[getObj,Sem.run,I]
 have o:r<w.heap.size:=(Array.getElem?_eq_some_iff.1 I).1;unfold fH;simp only[Instr.next,run_bind,U,jG];by_cases J:pos<l.length
 ·have j:(setObj r (.stringIter (ofL l) (pos+(Utf8.decode (ofL l) pos).2))).run P0 w=.ok () {w with heap:=w.heap.setIfInBounds r (.stringIter (ofL l) (pos+(Utf8.decode (ofL l) pos).2))}:=by simp[setObj,Sem.run,I]
  rw[aO J];simp only[run_bind,j,run_pure];exact h1 J _ (by simp[o]) (Mq o) (by simp)
 ·rw[aJ J];simp only[run_pure];exact h0 (by omega)
theorem LK{r:Str}{K:Q0}(hl:r.length<=1000000)(j:K (str (qU (c::r))) w):aI P0 114 [str (c::r)] w K:=by
 refine SX ?_;unfold Zq;unfold qU at j;refine cX.cut (λ_ w'=>w'=w/\uO.contains ((c::r).take 2)=false) ?_ ?_
 ·rw[dM,fJ,bA];refine⟨λo=>?_,λo=>⟨rfl,?_⟩⟩
  ·rw[eF,eD];refine⟨by omega,by omega,?_⟩;rw[eK,eU];rw[show(c::r).take (Int.toNat 2)=(c::r).take 2 from rfl];generalize U:(c::r).take 2=x at j⊢;refine cX.cut (λst w'=>st=[.bool (uO.contains x)]/\w'=w) ?_ ?_
   ·unfold uO;simp only[List.contains_cons,List.contains_nil,dR];have eqd:∀y:Str,decide (x=y)=(x==y):=λy=>by rw[nA];simp
    simp only[eC,eqd];generalize (x==[61,61])=a1;generalize (x==[33,61])=a2;generalize (x==[60,61])=a3;generalize (x==[62,61])=a4;generalize (x==[38,38])=a5;generalize (x==[124,124])=a6;cases a1<;>simp only[cU,bW,dL,cS,and_self];cases a2<;>simp only[cU,bW,dL,cS,and_self];cases a3<;>simp only[cU,bW,dL,cS,and_self];cases a4<;>simp only[cU,bW,dL,cS,and_self];cases a5<;>simp only[cU,bW,dL,cS,and_self]
   rintro st g w' ⟨rfl,rfl⟩;simp only[aF];rw[dU];refine⟨λI=>?_,λJ=>⟨trivial,J⟩⟩;rw[aO I]at j;rw[eF,eD];refine⟨by omega,by omega,?_⟩;rw[eK,eU];show K (str ((c::r).take 2)) w';rw[U];exact j
  ·have:r=[]:=cK (by simp only[aB]at o;omega);subst this;simp[uO]
 rintro _ g w' ⟨rfl,J⟩;rw[aJ (by rw[J];decide)]at j;refine qY (s:=c::r) (i:=0) (by simp) ?_;show aI P0 104 [_,cv c] w' _;refine Cy ?_;rw[fP,Ud,dU];have j:K (str (if AD.contains c=true then(c::r).take 1 else [])) w':=j;refine⟨λI=>?_,λI=>?_⟩
 ·rw[aO I]at j;rw[eF,eD];refine⟨by omega,by simp only[aB];omega,?_⟩;rw[eK,eU];exact j
 ·rw[aJ (by rw[I];decide)]at j;exact j
theorem VK{t:Str}{K:Q0}(hT:TabI w)(hl:t.length<=1000000)(o:∀x w',Ext w w'->K (.tuple #[str (t.take (fT (λb=>b !=10) t)),x,.bool (decide (fT (λb=>b !=10) t<t.length))]) w'):aI P0 151 [str t,str [10]] w K:=by
 obtain⟨m,j⟩:=hT;refine kX (args:=#[str t,str [10]]) Tryz.call151 ((Tryz.strings_Cut (ofL t) (ofL [10]) m w (by rw[jG];omega) j).mono ?_);rintro e w' ⟨rfl,n,rfl⟩;obtain⟨J,I⟩:=QS t;rw[iP,iP];refine⟨_,rfl,?_⟩;rw[show(⟨(Lib.cut t [10]).1.toArray⟩:ByteArray)=ofL (t.take (fT (λb=>b !=10) t))from by rw[J];rfl,I];refine o _ _ ?_;exact⟨rfl,rfl,rfl,aY _,λ_ _ _=>rfl⟩
theorem NQ{t:Str}{K:Q0}(hl:t.length<=1000000)(o:∀w',Ext w w'->K (str (t.drop (fT (λb=>b==32||b==9) t))) w'):aI P0 152 [str t,str [32,9]] w K:=by
 refine kX (args:=#[str t,str [32,9]]) Tryz.call152 ((Tryz.strings_TrimLeft_laid (ofL t) (ofL [32,9]) w (by rw[jG];decide) (λj b hb=>?_)).mono ?_)
 ·rw[iP]at hb;have:=bI hb;simp only[aX,bQ,fF]at this;rcases this with rfl|rfl<;>decide
 rintro e w' ⟨rfl,hb⟩;rw[iP,iP,Lz];exact⟨_,rfl,o w' (Chg.of_below hb)⟩
end
theorem uB(s:Str):(kP s).length<=2*s.length:=by
 induction s with
 |nil=>simp[kP]
 |cons c r ih=>simp only[kP];(repeat' split)<;>simp only[aB]<;>omega
def nO(c:Nat):Str×Nat:=if c=92\/c=34\/c=36 then([92],c)else if c=9 then([92],116)else if c=13 then([92],114)else([],c)
theorem KC(x:UInt8)(h:wrM x.toNat=[x]):kP [x]=(nO x.toNat).1++wrM (nO x.toNat).2:=by
 have e:∀k:UInt8,(x==k)=decide (x.toNat=k.toNat):=λk=>by
  rw[nA,gR,decide_eq_true_iff,lT]
 simp only[kP,e];unfold nO;by_cases j:x.toNat=92\/x.toNat=34\/x.toNat=36
 ·rw[aO (by simp only[fS,decide_eq_true_iff];rcases j with h|h|h;exact .inl (.inl h);exact .inl (.inr h);exact .inr h),aO j];show _=[92]++wrM x.toNat;rw[h];rfl
 rw[aJ (by simp only[fS,decide_eq_true_iff];rintro((h|h)|h);exact j (.inl h);exact j (.inr (.inl h));exact j (.inr (.inr h))),aJ j];by_cases I:x.toNat=9
 ·rw[aO (by simpa using I),aO I];rfl
 rw[aJ (by simpa using I),aJ I];by_cases o:x.toNat=13
 ·rw[aO (by simpa using o),aO o];rfl
 rw[aJ (by simpa using o),aJ o];exact h.symm
theorem IB{c:Nat}(h:128<=c):nO c=([],c):=by
 unfold nO;rw[aJ (by omega),aJ (by omega),aJ (by omega)]
theorem MP{c:Nat}(h:c<55296\/57343<c/\c<=1114111):(nO c).2<55296\/57343<(nO c).2/\(nO c).2<=1114111:=by
 unfold nO
 (repeat' split)<;>(dsimp only;omega)
theorem KD(c:Nat):(nO c).1.length<=1:=by unfold nO;(repeat' split)<;>simp
def Af(l:Str)(at_:Nat)(x:Str×Nat×Int):Str×Nat×Int:=if x.2.2=0 then(l++x.1,x.2.1+at_,0)else([],0,x.2.2)
theorem Ky(l m:Str)(a b:Nat)(x:Str×Nat×Int):Af l a (if x.2.2=0 then(m++x.1,x.2.1+b,0)else([],0,x.2.2))=Af (l++m) (a+b) x:=by
 unfold Af;by_cases h:x.2.2=0
 ·simp only[h,pH,fK];rw[show x.2.1+b+a=x.2.1+(a+b)by omega]
 ·simp only[aJ h]
theorem Em(n:Nat)(name s:Str):mI (n+1) name s=(if(s.take (fT (λb=>b !=10) s)).drop (fT (λb=>b==32||b==9) (s.take (fT (λb=>b !=10) s)))=name then([],fT (λb=>b !=10) s,0)else if s.length<=fT (λb=>b !=10) s then([],0,40)else
 (if(mI n name (s.drop (fT (λb=>b !=10) s+1))).2.2=0 then(kP (s.take (fT (λb=>b !=10) s))++[92,110]++(mI n name (s.drop (fT (λb=>b !=10) s+1))).1,(mI n name (s.drop (fT (λb=>b !=10) s+1))).2.1+(fT (λb=>b !=10) s+1),0)else([],0,(mI n name (s.drop (fT (λb=>b !=10) s+1))).2.2))):=rfl
section
variable [HX]
theorem Kz{s:Str}{K:Q0}(hT:TabI w)(hU:Utf s)(hl:s.length<=1000000)(h2:2<=s.length)
  (o:∀w',Ext w w'->K (.tuple #[str (jT s).1,i64 ((jT s).2.1:Nat),i64 (jT s).2.2]) w'):aI P0 113 [str s] w K:=by
 refine SY ?_;unfold Zr;unfold jT at o;dsimp only at o;generalize hn:(if gV ((s.drop 2).headD 0)then fT iS (s.drop 2)else 0)=n at o;have zq:n+2<=s.length:=by
  have:=rJ iS (s.drop 2);rw[aR]at this;rw[<-hn];split<;>omega
 refine cX.cut (λst w'=>st=[i64 (n:Nat)]/\w'=w) ?_ ?_
 ·rw[dM,fJ];refine GdW.look (gV ((s.drop 2).headD 0)) (λhg J hJ=>?_) λg=>?_
  ·rw[fO,decide_eq_true_iff]at hg;have I:2<s.length:=by omega
   refine qY (i:=2) I ?_;refine wU ?_;rw[kQ I]at hJ;exact hJ
  ·simp only[aF,fO];rw[fB,dU];refine⟨λhy=>?_,λxm=>?_⟩
   ·rw[bL]at hy;rw[aO hy.2]at hn;rw[eF,eK,eD];refine⟨by omega,by omega,?_⟩;rw[eQ];show aI P0 105 [str (s.drop 2),_] w _;refine Ji (q:=iS) (by rw[aR];omega) (λc {w K} h=>uF (Qj h)) ?_;rw[hn];exact⟨rfl,rfl⟩
   ·have:n=0:=by
     rw[<-hn];by_cases ho:gV ((s.drop 2).headD 0)=true
     ·rw[ho,dN,decide_eq_false_iff_not]at xm;rw[aO ho,rH (by omega)];rfl
     ·rw[aJ ho]
    rw[this];exact⟨rfl,trivial⟩
 rintro st g w' ⟨rfl,rfl⟩;simp only[aF];rw[cG,fE (by omega) (by omega)];rw[eF,eD,eD];refine⟨by omega,by omega,by omega,by omega,?_⟩;have ys:(s.take (Int.toNat (2+(n:Nat)))).drop (Int.toNat 2)=(s.drop 2).take n:=by
  rw[show Int.toNat (2+(n:Nat))=2+n by omega,show Int.toNat 2=2 from rfl,List.drop_take];rw[show 2+n-2=n by omega]
 rw[ys,cG,fE (by omega) (by omega),show(2+(n:Nat):Int)=((2+n:Nat):Int)by omega];generalize (s.drop 2).take n=nm at*
 rw[bX];simp only[iW];refine GdW.look (decide (s.length<=2+n)) (λ_ J hJ=>?_) λg1=>?_
 ·rw[dM,fP,show decide (((s.length:Nat):Int)<=((2+n:Nat):Int))=decide (s.length<=2+n)by rw[decide_eq_decide];omega];exact hJ
 simp only[aF];rw[kS];simp only[iW];refine GdW.look (decide ((s.drop (2+n)).head?≠some 10)) (λhg J hJ=>?_) λg2=>?_
 ·have I:2+n<s.length:=by
   simp only[lR,Bool.or_eq_false_iff,decide_eq_false_iff_not]at hg;omega
  refine qY I ?_;have e5:decide (((s[2+n].toNat:Nat):Int)=10)=(s[2+n]==10):=vA 10 _;rw[eX];rw[kQ I]at hJ;have:decide (((s[2+n].toNat:Nat):Int)≠10)=decide ((s[2+n]::s.drop (2+n+1)).head?≠some 10):=by
   have e6:∀(c:UInt8) (r:Str),(c==10)=decide ((c::r).head?=some 10):=λc r=>by rw[nA];simp
   rw[decide_not,e5,decide_not,e6 _ (s.drop (2+n+1))]
  rw[this];exact hJ
 simp only[aF];rw[kS,dU];refine⟨λxh=>?_,λxa=>?_⟩
 ·have hb:n=0\/¬(s.drop (2+n)).head?=some 10:=by
   simp only[fS,decide_eq_true_iff]at xh;rcases xh with(h|h)|h
   ·exact .inl (by omega)
   ·right;rw[rH (by omega)];simp
   ·exact .inr h
  have o:=o w' (Chg.refl _ _);rcases hb with h|h
  ·rw[aO h]at o;exact o
  ·rw[aJ h]at o;split at o<;>exact o
 simp only[Bool.or_eq_false_iff,decide_eq_false_iff_not,cJ,Decidable.not_not]at xa;obtain⟨⟨zr,I⟩,ht⟩:=xa;have I:2+n<s.length:=by omega
 rw[aJ (by omega),aO ht]at o;rw[cG,upi (by omega)];have zb:Utf (s.drop (2+n+1)):=by
  have hd:=kQ I;rw[hd]at ht;simp only[List.head?_cons,aV]at ht;exact sF (zJ hU hd (by rw[ht];decide)).2 (by rw[ht];decide)
 generalize hR:mI (s.length+1) nm (s.drop (2+n+1))=X at o;have zc:Af [] (2+n+1) X=if X.2.2=0 then(X.1,X.2.1+(2+n+1),0)else([],0,X.2.2):=by unfold Af;rw[gJ]
 rw[<-zc]at o;refine XQ (B:=w'.heap.size) (aY _) λb w1 hb h1 ym=>?_;generalize zd:Af [] (2+n+1) X=R0 at o;refine eJ.go (λst w2=>∃(i m:Nat) (l:Str),st=[i64 (i:Nat)]/\i<=s.length/\Utf (s.drop i)/\Bld w2 w'.heap.size b l/\Ext w' w2/\l.length<=2*i/\Af l i (mI m nm (s.drop i))=R0/\s.length<m+i) (λst _=>match st with|[.int _ i]=>s.length+1-i.toNat|_=>0) ⟨2+n+1,s.length+1,[],rfl,by omega,zb,h1,ym,by simp,by rw[hR,zd],by omega⟩ ?_;rintro st g3 w2 ⟨i,m,l,rfl,hi,hu,hB,hx,zt,hr,hm⟩;obtain⟨m,rfl⟩:∃k,m=k+1:=⟨m-1,by omega⟩;rw[Em]at hr;simp only[aF];rw[eF,eK,eD];refine⟨by omega,by omega,?_⟩;rw[eQ,bC];have zo:(s.drop i).length=s.length-i:=aR;refine VK (hT.ext hx) (by omega) λx w3 xw=>?_;rw[bP];refine⟨_,rfl,?_⟩;rw[bP];refine⟨_,rfl,?_⟩;rw[bP];refine⟨_,rfl,?_⟩;obtain⟨ul,ur⟩:=Lu hu;have zx:=rJ (λb=>b !=10) (s.drop i);have zn:((s.drop i).take (fT (λb=>b !=10) (s.drop i))).length=fT (λb=>b !=10) (s.drop i):=by rw[cO];omega
 generalize fT (λb=>b !=10) (s.drop i)=k at*
 generalize zs:(s.drop i).take k=ln at*
 refine NQ (by omega) λw4 xv=>?_;have hj:Ext w' w4:=(hx.trans xw).trans xv;have xr:Bld w4 w'.heap.size b l:=(hB.ext xw).ext xv;rw[eC,bA];refine⟨λhy=>?_,λxm=>?_⟩
 ·rw[aO hy]at hr;refine EE xr hj.size λw5 yz=>?_;rw[dM,cG,fE (by omega) (by omega)];have yx:Ext w' w5:=hj.then yz λk hk e=>by omega
  have o:=o w5 yx;rw[<-hr]at o;simp only[Af,pH,eZ]at o;rw[show(i:Int)+(ln.length:Nat)=((k+i:Nat):Int)by omega];exact o
 rw[aJ xm]at hr;rw[fG,dU];refine⟨λya=>?_,λhmore=>?_⟩
 ·rw[aO (by simpa using ya)]at hr;have o:=o w4 hj;rw[<-hr]at o;exact o
 have hk:k<(s.drop i).length:=by simpa using hmore
 rw[aJ (by omega)]at hr;rw[Ky]at hr;have yp:=ur hk;clear ur;have zu:(s.drop i).length=s.length-i:=aR;refine Cn ?_;have zk:=hj.size;have ud:=xr.lt;refine eJ.go (λst w5=>∃p,p<=ln.length/\st=[]/\Utf (ln.drop p)/\w5.heap[w4.heap.size]?=some (.stringIter (ofL ln) p)/\Bld w5 w'.heap.size b (l++kP (ln.take p))/\Ext w' w5)
  (λ_ w5=>match w5.heap[w4.heap.size]? with|some (.stringIter _ p)=>ln.length-p|_=>0)
  ⟨0,fW _,rfl,by rw[eU];exact ul,jY _ _ _ rfl,by rw[List.take_zero];show Bld _ _ _ (l++[]);rw[eZ];exact xr.ext (Chg.alloc (Chg.refl _ _) _),hj.trans (Chg.alloc (Chg.refl _ _) _)⟩ ?_
 rintro st g4 w5 ⟨p,hp,rfl,xj,xn,xq,xi⟩;have yl:=xi.size;have yu:(l++kP (ln.take p)).length<=2*i+2*k:=by
  have:=uB (ln.take p);have:(ln.take p).length<=k:=by rw[cO];omega
  rw[aP];omega
 refine Eh xn (λzp=>?_) (λxl w6 hq xb zj=>?_)
 ·rw[bP];refine⟨.bool false,rfl,?_⟩;rw[bW];obtain rfl:p=ln.length:=by omega
  rw[eQ]at xq yu;refine TM xq yl (by simp only[aB,aK];omega) λv w6 h6 xb=>?_;have hv:Ext w' w6:=BCh.new xi (aY _) (by omega) xb;rw[dM,cG,fE (by omega) (by omega),cG,fE (by omega) (by omega)];have zy:=uB ln;refine⟨⟨i+(k+1),m,l++kP ln++[92,110],by simp only[fR,Value.int.injEq,cZ,eY];omega,by omega,?_,h6,hv,?_,?_,by omega⟩,?_⟩
  ·rw[<-jF];exact yp
  ·simp only[aP,aB,aK];omega
  ·rw[<-hr,jF,fK]
  ·simp only[bC];omega
 ·have yt:ln.drop p≠[]:=λe=>by have:=List.drop_eq_nil_iff.1 e;omega
  obtain⟨u,r,xk,yo,hs⟩:∃u r,Rn u/\Utf r/\ln.drop p=u++r:=by
   cases hd:ln.drop p with
   |nil=>exact absurd hd yt
   |cons x y=>
    rw[hd]at xj;generalize he:x::y=z at xj;cases xj with
    |nil=>cases he
    |cons h1 h2=>exact⟨_,_,h1,h2,rfl⟩
  have yr:kH ln p=u.length:=xk.at hs;have yn:=xk.pos;obtain⟨c,hc⟩:=tS xl (by omega);rw[yr]at hc;have xe:(ln.drop p).take u.length=u:=by rw[hs,List.take_left]
  have hnext:ln.take (p+u.length)=ln.take p++u:=by rw[List.take_add,xe]
  have yb:ln.drop (p+u.length)=r:=Nc hs;have xg:=hc.dec;have uc:=hc.top;have ua:=hc.val;have yc:wrM c=u:=by rw[<-TN (by omega),hc.bytes,xe]
  rw[xg]at hq;have xz:=hc.fits;have xd:Bld w6 w'.heap.size b (l++kP (ln.take p)):=xq.chg xb (λe=>by have:=e;omega) λk hk e=>by
   obtain⟨_,c',ye⟩:=hk;have e:k=w4.heap.size:=e;rw[e,xn]at ye;cases ye
  have hv:Ext w' w6:=xi.then xb λk hk e=>by omega
  have yq:kP u=(nO c).1++wrM (nO c).2:=by
   rcases xk.cases with⟨x,hx,zl⟩|hh
   ·subst hx;have yy:c=x.toNat:=by
     have:=(hc.low rfl).1;rw[this];have e:=oY xl;rw[Go.Eng.byte_at (show ln.drop p=x::r from hs)]at e;omega
    subst yy;exact KC x yc
   ·have xo:128<=c:=by
     have za:=sC (j:=0) hs yn;have zi:=hh u[0] (Aw ..);rw[cN,oY xl]at za;by_cases h1:u.length=1
     ·have:=hc.low h1;omega
     ·exact(hc.high (by omega)).1
    rw[IB xo,IC hh,yc];rfl
  have xa:=MP (c:=c) (by omega);have zw:=KD c;rw[bP];refine⟨.bool true,rfl,?_⟩;rw[cU,bP];refine⟨.int .i32 (c:Int),by rw[xg];rfl,?_⟩;refine cX.cut (λst w7=>st=[.int .i32 ((nO c).2:Nat)]/\Bld w7 w'.heap.size b (l++kP (ln.take p)++(nO c).1)/\w7.heap[w4.heap.size]?=some (.stringIter (ofL ln) (p+u.length))/\Ext w' w7) ?_ ?_
  ·have wr:∀(x:Nat) (w7:World),nO c=([92],x)->Bld w7 w'.heap.size b (l++kP (ln.take p)++[92])->Chg (BCh w6 w'.heap.size b) w6 w7->[Value.int .i32 (x:Int)]=[.int .i32 ((nO c).2:Nat)]/\Bld w7 w'.heap.size b (l++kP (ln.take p)++(nO c).1)/\w7.heap[w4.heap.size]?=some (.stringIter (ofL ln) (p+u.length))/\Ext w' w7:=by
    intro x w7 e h7 yd;rw[e];exact⟨rfl,h7,BCh.iter yd hq (by omega),BCh.new hv (aY _) (by omega) yd⟩
   refine cX.cut (λst w7=>st=[.bool (decide (c=92\/c=34\/c=36))]/\w7=w6) ?_ ?_
   ·rw[bX,bA];refine⟨λh=>?_,λh=>?_⟩
    ·rw[bK h,bK (.inl (by omega))];exact⟨rfl,rfl⟩
    rw[bX,bA];refine⟨λh'=>?_,λh'=>?_⟩
    ·rw[bK h',bK (.inr (.inl (by omega)))];exact⟨rfl,rfl⟩
    rw[bX];rw[show decide (((c:Nat):Int)=36)=decide (c=92\/c=34\/c=36)by rw[decide_eq_decide];omega];exact⟨rfl,rfl⟩
   rintro st g5 w7 ⟨rfl,rfl⟩;simp only[aF];rw[bA];refine⟨λh=>?_,λh=>?_⟩
   ·refine By (n:=92) xd (by omega) (by omega) (by omega) λw8 h8 U=>?_;exact wr c w8 (by unfold nO;rw[aO h]) h8 U
   rw[bX,bA];refine⟨λh'=>?_,λh'=>?_⟩
   ·refine By (n:=92) xd (by omega) (by omega) (by omega) λw8 h8 U=>?_;exact wr 116 w8 (by unfold nO;rw[aJ h,aO (by omega)]) h8 U
   rw[bX,bA];refine⟨λzf=>?_,λzf=>?_⟩
   ·refine By (n:=92) xd (by omega) (by omega) (by omega) λw8 h8 U=>?_;exact wr 114 w8 (by unfold nO;rw[aJ h,aJ (by omega),aO (by omega)]) h8 U
   have e:nO c=([],c):=by unfold nO;rw[aJ h,aJ (by omega),aJ (by omega)]
   rw[e,eZ];exact⟨rfl,xd,hq,hv⟩
  rintro st g5 w7 ⟨rfl,ze,xy,xu⟩;simp only[aF];have yk:=xu.size;refine NJ ze yk (by rw[aP];omega) xa λv w8 h8 U=>?_;have xf:=BCh.iter U xy (by omega);refine⟨⟨p+u.length,xz,trivial,by rw[yb];exact yo,xf,?_,BCh.new xu (aY _) (by omega) U⟩,?_⟩
  ·rw[hnext,KG,yq,<-fK,<-fK];exact h8
  ·rw[xf,xn];show ln.length-(p+u.length)<ln.length-p;omega
end
theorem BV{r:Str}{d:Nat}(h:(jL r d).2=0):1<=(jL r d).1/\(jL r d).1<=r.length:=by
 exact((lF _ r (aY _)).1 d _ (iY rfl h)).2
theorem Cg(c:UInt8)(r:Str):nM (c::r)=
 (if(c==10)=true then(⟨5,[10],0⟩,1,0)
 else if gV c=true then(⟨1,(c::r).take (fT iS (c::r)),0⟩,fT iS (c::r),if 32<fT iS (c::r)then 3 else 0)
 else if kU c=true then
  (⟨2,(c::r).take (fT kU (c::r)),0⟩,fT kU (c::r),if((fT kU (c::r)<(c::r).length&&gV (((c::r).drop (fT kU (c::r))).headD 0))||(c==48&&1<fT kU (c::r)))=true then 40 else if Num.goodN ((c::r).take (fT kU (c::r)))=true then 0 else 3)
 else if(c==34)=true then
  (if(pK ((c::r).length+1) r 0).2=0 then(⟨3,r.take ((pK ((c::r).length+1) r 0).1-1),0⟩,(pK ((c::r).length+1) r 0).1+1,0)else(⟨0,[],0⟩,0,(pK ((c::r).length+1) r 0).2))
 else if qC [60,60] (c::r)=true then(⟨3,(jT (c::r)).1,0⟩,(jT (c::r)).2.1,(jT (c::r)).2.2)
 else(⟨4,qU (c::r),0⟩,(qU (c::r)).length,if(qU (c::r)).length=0 then 40 else 0)):=rfl
section
variable [HX]
theorem XC{r:Str}{K:Q0}(hT:TabI w)(hU:Utf (c::r))(hl:r.length<=100000)
  (hK:∀w',Ext w w'->K (.tuple #[.agg (iT (nM (c::r)).1).toArray,i64 ((nM (c::r)).2.1:Nat),i64 (nM (c::r)).2.2]) w'):aI P0 61 [str (c::r)] w K:=by
 refine Wl ?_;unfold W61;have U:(c::r).length=r.length+1:=rfl;refine cI λa w1 ha xu xj xm=>?_;refine cI λb w2 hb xt hq xf=>?_;have hh:=xm.trans xf;have hj:=xf.at xj id;have cond:∀(k:Nat),k<256->(((c.toNat:Nat):Int)=(k:Int)↔c=UInt8.ofNat k):=λk hk=>by
  have:=DD c k hk;rwa[decide_eq_decide]at this
 generalize ho:nM (c::r)=o at hK;rw[Cg]at ho;refine cX.cut (λst w'=>st=[i64 o.2.2,i64 (o.2.1:Nat)]/\Ext w w'/\w'.heap[a]?=some (.cells [i64 0,str [],i64 0].toArray TkT (0,0))/\w'.heap[b]?=some (.cells (iT o.1).toArray TkT (0,0))) ?_ ?_
 ·
  have put:∀{w3:World} {t:Tok} {old:List Value} {K':World->Prop},Ext w w3->w3.heap[a]?=some (.cells [i64 0,str [],i64 0].toArray TkT (0,0))->w3.heap[b]?=some (.cells old.toArray TkT (0,0))->old.length=3->
    (∀w4,Ext w w4->w4.heap[a]?=some (.cells [i64 0,str [],i64 0].toArray TkT (0,0))->w4.heap[b]?=some (.cells (iT t).toArray TkT (0,0))->K' w4)->stW 3 (.pointer (some ⟨b,0,none⟩)) (.agg (iT t).toArray) w3 K':=by
   intro w3 t old K' hx hv ht xn h;refine dD ht rfl xn rfl λw4 xk j xa=>?_;exact h w4 (hx.new xa (by omega)) (xa.at hv (by omega)) j
  refine qY (i:=0) (by rw[U];omega) ?_;simp only[List.getElem_cons_zero];rw[bX,bA];refine⟨λe=>?_,λe=>?_⟩
  ·have e:c=10:=(cond 10 (by omega)).1 e;subst e;simp only[beq_self_eq_true,pH]at ho;subst ho;simp only[dF,dK,aB,aK,aL,aN,Nat.reduceAdd,Nat.reduceLT,cZ,aS];refine dD (l:=[i64 5,str [10],i64 0]) hj rfl rfl rfl λw3 xl xi xb=>?_;refine fQ xi rfl ?_;exact hK w3 (hh.new xb (by omega))
  have e:¬(c==10)=true:=λh=>e ((cond 10 (by omega)).2 (by simpa using h));rw[aJ e]at ho;refine wU ?_;rw[dU];refine⟨λhy=>?_,λhs=>?_⟩
  ·rw[aO hy]at ho;refine Ji (q:=iS) (by rw[U];omega) (λc {w K} h=>uF (Qk h)) ?_;have xc:=rJ iS (c::r);rw[U]at xc;generalize fT iS (c::r)=n at*
   rw[eF,eD];refine⟨by omega,by rw[U];omega,?_⟩;rw[eK,eU,bC];simp only[dF,dK,aB,aK,aL,aN,Nat.reduceAdd,Nat.reduceLT,cZ,aS];refine put (t:=⟨1,(c::r).take n,0⟩) hh hj hq rfl λw4 I hc j=>?_;rw[fJ,bA];subst ho;refine⟨λh=>?_,λh=>?_⟩
   ·exact⟨by rw[aO (by omega)],I,hc,j⟩
   ·exact⟨by rw[aJ (by omega)],I,hc,j⟩
  rw[aJ (by rw[hs];decide)]at ho;refine BJ ?_;rw[dU];refine⟨λhy=>?_,λhs=>?_⟩
  ·rw[aO hy]at ho;refine Ji (q:=kU) (by rw[U];omega) (λc {w K} h=>uF (BJ h)) ?_;have xc:=rJ kU (c::r);rw[U]at xc;generalize fT kU (c::r)=n at*
   rw[eF,eD];refine⟨by omega,by rw[U];omega,?_⟩;rw[eK,eU,bC];simp only[dF,dK,aB,aK,aL,aN,Nat.reduceAdd,Nat.reduceLT,cZ,aS];refine put (t:=⟨2,(c::r).take n,0⟩) hh hj hq rfl λw4 I hc j=>?_;refine cX.cut (λst w'=>st=[.bool ((n<(c::r).length&&gV (((c::r).drop n).headD 0))||(c==48&&1<n))]/\w'=w4) ?_ ?_
   ·rw[dM,dT,show decide (((n:Nat):Int)<(((c::r).length:Nat):Int))=decide (n<(c::r).length)by rw[decide_eq_decide];omega];simp only[fO];refine GdW.look (gV (((c::r).drop n).headD 0)) (λhg J hJ=>?_) λg=>?_
    ·have xg:n<(c::r).length:=by simpa using hg
     refine qY xg ?_;refine wU ?_;rw[kQ xg]at hJ;exact hJ
    simp only[aF];rw[fB,dU];refine⟨λh=>by rw[h,dL];exact⟨rfl,trivial⟩,λh=>?_⟩;have e5:decide (((c.toNat:Nat):Int)=48)=(c==48):=vA 48 c;rw[bX,e5];simp only[fO,fJ,nU,aF];intro g2;rw[fB,h,cS];refine⟨?_,trivial⟩;rw[show decide ((1:Int)<((n:Nat):Int))=decide (1<n)by rw[decide_eq_decide];omega]
   rintro st g w5 ⟨rfl,rfl⟩;simp only[aF];rw[dU];refine⟨λh=>?_,λh=>?_⟩
   ·rw[aO h]at ho;subst ho;exact⟨rfl,I,hc,j⟩
   rw[aJ (by rw[h];decide)]at ho;rw[bD,dX];refine⟨str ((c::r).take n),by rw[bG,cA,j];rfl,?_⟩;refine GE (by have:((c::r).take n).length<=n:=(by rw[cO];omega);omega) λw6 hr=>?_;rw[fG,dU];subst ho;refine⟨λh=>?_,λh=>?_⟩
   ·exact⟨by rw[aJ (by simpa using h)],I.trans hr,hr.at hc id,hr.at j id⟩
   ·exact⟨by rw[aO (by simpa using h)],I.trans hr,hr.at hc id,hr.at j id⟩
  rw[aJ (by rw[hs];decide)]at ho;rw[bX,bA];refine⟨λe=>?_,λe=>?_⟩
  ·have e:c=34:=(cond 34 (by omega)).1 e;rw[aO (by rw[e];rfl),rT (by omega)]at ho;refine Qo (d:=0) (by omega) (by omega) ?_;by_cases h0:(jL r 0).2=0
   ·rw[aO h0]at ho;have hf:=BV h0;unfold qK;rw[aO h0,bP];refine⟨_,rfl,?_⟩;rw[bP];refine⟨_,rfl,?_⟩;rw[bX,bA];refine⟨λ_=>?_,λh=>absurd rfl h⟩;rw[fU,fE (by omega) (by omega),eF,eD,eD];refine⟨by omega,by rw[U];omega,by omega,by omega,?_⟩;have et:((c::r).take (Int.toNat (((jL r 0).1+1:Nat)-1))).drop (Int.toNat 1)=r.take ((jL r 0).1-1):=by
     rw[show Int.toNat ((((jL r 0).1+1:Nat):Int)-1)=((jL r 0).1-1)+1 by omega];rfl
    rw[et];simp only[dF,dK,aB,aK,aL,aN,Nat.reduceAdd,Nat.reduceLT,cZ,aS];refine put (t:=⟨3,r.take ((jL r 0).1-1),0⟩) hh hj hq rfl λw4 I hc j=>?_;subst ho;exact⟨rfl,I,hc,j⟩
   ·rw[aJ h0]at ho;unfold qK;rw[aJ h0,bP];refine⟨_,rfl,?_⟩;rw[bP];refine⟨_,rfl,?_⟩;rw[bX,bA];refine⟨λh=>absurd h h0,λh=>?_⟩;subst ho;exact⟨rfl,hh,hj,hq⟩
  have e:¬(c==34)=true:=λh=>e ((cond 34 (by omega)).2 (by simpa using h));rw[aJ e]at ho;refine zB ?_;rw[dU];refine⟨λhy=>?_,λhs=>?_⟩
  ·rw[aO (show qC [60,60] (c::r)=true from hy)]at ho;have h2:2<=(c::r).length:=Fb (p:=[60,60]) (s:=c::r) hy;rw[bD,bG,aH];refine jZ hq rfl (by simp) λw3 xl ht xb=>?_;have hz:=hh.new xb (by omega);have hv:=xb.at hj (by omega);refine Kz (hT.ext hz) hU (by rw[U];omega) h2 λw4 I=>?_;rw[bP];refine⟨_,rfl,?_⟩;rw[bP];refine⟨_,rfl,?_⟩;rw[bP];refine⟨_,rfl,?_⟩;have j:=I.at ht id;rw[bD,bG,aH];refine jZ j rfl (by simp) λw5 xr xo xh=>?_;subst ho;exact⟨rfl,(hz.trans I).new xh (by omega),xh.at (I.at hv id) (by omega),by rw[xo];simp[iT]⟩
  ·rw[aJ (show¬qC [60,60] (c::r)=true from by rw[show qC [60,60] (c::r)=false from hs];decide)]at ho;refine LK (by omega) ?_;simp only[dF,dK,aB,aK,aL,aN,Nat.reduceAdd,Nat.reduceLT,cZ,aS];refine put (t:=⟨4,qU (c::r),0⟩) hh hj hq rfl λw4 I hc j=>?_;rw[bD,dX];refine⟨str (qU (c::r)),by rw[bG,cA,j];rfl,?_⟩;rw[dM,bX,bA];subst ho;refine⟨λh=>?_,λh=>?_⟩
   ·exact⟨by rw[aO (by omega)],I,hc,j⟩
   ·exact⟨by rw[aJ (by omega)],I,hc,j⟩
 rintro st g w3 ⟨rfl,hz,hv,ht⟩;refine fQ ht rfl ?_;refine dD (l:=iT o.1) hv rfl rfl rfl λw4 xk hc xa=>?_;refine fQ hc rfl ?_;exact hK w4 (hz.new xa (by omega))
end
theorem Lv{s:Str}{k:Nat}(h:Utf s)(j:∀c,(s.drop k).head?=some c->c.toNat<128):Utf (s.drop k):=by
 cases hd:s.drop k with
 |nil=>exact .nil
 |cons c b=>exact(zJ h hd (j c (by rw[hd];rfl))).2
theorem sE{s:Str}{k:Nat}(h:Utf s)(I:s[k]?=some c)(o:c.toNat<128):Utf (s.drop (k+1)):=by
 obtain⟨j,e⟩:=List.getElem?_eq_some_iff.1 I;have hd:=kQ j;rw[e]at hd;exact sF (zJ h hd o).2 o
theorem zQ(q:UInt8->Bool):∀(s:Str) (b:UInt8),(s.drop (fT q s)).head?=some b->q b=false
 |[],b,h=>by simp[fT]at h
 |c::r,b,h=>by
  simp only[fT]at h
  by_cases j:q c=true
  ·rw[aO j,dW]at h;exact zQ q r b h
  ·rw[aJ j]at h
   simp only[eU,List.head?_cons,aV]at h
   rw[<-h];simpa using j
theorem Gl(q:UInt8->Bool):∀(s:Str) (k:Nat),fT q s=k+1->∃c,s[k]?=some c/\q c=true
 |[],k,h=>by simp[fT]at h
 |c::r,k,h=>by
  simp only[fT]at h
  by_cases j:q c=true
  ·rw[aO j]at h
   cases k with
   |zero=>exact⟨c,rfl,j⟩
   |succ k=>
    obtain⟨x,I,o⟩:=Gl q r k (by omega)
    exact⟨x,by simpa using I,o⟩
  ·rw[aJ j]at h;omega
theorem Jz:∀(s:Str) (i:Nat),Lib.index s [42,47]=(i:Int)->s[i+1]?=some 47
 |[],i,h=>by
  unfold Lib.index at h
  simp at h
 |b::l,i,h=>by
  unfold Lib.index at h
  split at h
  ·rename_i j
   have hi:i=0:=by omega
   subst hi
   cases l with
   |nil=>simp[List.isPrefixOf]at j
   |cons c l=>
    simp only[List.isPrefixOf,bL,gR,dN]at j
    simp[j.2]
  ·split at h
   ·omega
   ·rename_i o
    have J:Lib.index l [42,47]≠-1:=by simpa using o
    have I:=Lib.index_ge l [42,47]
    have:=Jz l (i-1) (by omega)
    have hi:1<=i:=by omega
    rw[show i-1+1=i by omega]at this
    simpa using this
theorem JS{s:Str}(h:Utf s):Utf (s.drop (fT (λb=>b !=10) s)):=
 Lv h λc j=>by
  have:=zQ _ _ _ j
  have:c=10:=by simpa using this
  subst this;decide
theorem wL:∀(n:Nat) (s:Str),Utf s->Utf (s.drop (iZ n s).1)
 |0,s,h=>by simpa[iZ]using h
 |n+1,[],h=>by simpa[iZ]using h
 |n+1,c::r,h=>by
  rw[DF]
  split
  ·rename_i hb
   have U:c.toNat<128:=by
    simp only[fS,gR]at hb;rcases hb with(rfl|rfl)|rfl<;>decide
   rw[dW];exact wL n r (sF h U)
  split
  ·have:=wL n _ (JS h);rw[jF]at this;rw[Dm];exact this
  split
  ·rename_i hp;split
   ·simpa using h
   ·rename_i hn;obtain⟨j,o⟩:=vZ (show 0<=Lib.index (r.drop 1) [42,47]by omega);have I:=Jz _ _ o;have J:Utf ((c::r).drop ((Lib.index (r.drop 1) [42,47]).toNat+4)):=by
     rw[o,bC];refine sE (k:=j+3) (c:=47) h ?_ (by decide);rw[List.getElem?_drop]at I;rw[List.getElem?_cons_succ,<-I];congr 1;omega
    have:=wL n _ J;rw[jF]at this;rw[Dm];exact this
  ·simpa using h
theorem CE:∀(n:Nat) (name s:Str) (c:UInt8),(mI n name s).2.2=0->(s.drop (mI n name s).2.1).head?=some c->c=10
 |0,_,_,_,h,_=>by simp[mI]at h
 |n+1,name,s,c,h,j=>by
  rw[Em]at h j
  split at h
  ·rename_i I
   rw[aO I]at j
   have:=zQ _ _ _ j
   simpa using this
  rename_i I
  rw[aJ I]at j
  split at h
  ·cases h
  rename_i J
  rw[aJ J]at j
  split at h
  ·rename_i o
   rw[aO o]at j
   refine CE n name _ c o ?_
   rw[jF]
   rw[show fT (λb=>b !=10) s+1+(mI n name (s.drop (fT (λb=>b !=10) s+1))).2.1=(mI n name (s.drop (fT (λb=>b !=10) s+1))).2.1+(fT (λb=>b !=10) s+1)by omega]
   exact j
  ·rename_i o;exact absurd h o
theorem FA{s:Str}(h:(jT s).2.2=0)(j:(s.drop (jT s).2.1).head?=some c):c=10:=by
 unfold jT at h j;simp only at h j;generalize (if gV ((s.drop 2).headD 0)=true then fT iS (s.drop 2)else 0)=n at h j;split at h
 ·cases h
 rename_i J;rw[aJ J]at j;split at h
 ·rename_i I;rw[aO I]at j;split at h
  ·rename_i o;rw[aO o]at j;refine CE _ _ _ c o ?_;rw[jF,Dm];exact j
  ·rename_i o;exact absurd h o
 ·cases h
theorem Cm(h:iS c=true):c.toNat<128:=by
 have:∀m:Fin 256,iS (UInt8.ofNat m.val)=true->(UInt8.ofNat m.val).toNat<128:=by decide+kernel
 have j:=this ⟨c.toNat,oG c⟩;rw[pI]at j;exact j h
theorem Ew(h:kU c=true):c.toNat<128:=Cm (by unfold iS;rw[h];simp)
theorem Gb(h:AD.contains c=true):c.toNat<128:=by
 have:∀m:Fin 256,AD.contains (UInt8.ofNat m.val)=true->(UInt8.ofNat m.val).toNat<128:=by decide+kernel
 have j:=this ⟨c.toNat,oG c⟩;rw[pI]at j;exact j h
theorem Ka{x:Str}(h:uO.contains x=true):x.length=2/\∃c,x[1]?=some c/\c.toNat<128:=by
 have:x∈uO:=by simpa using h
 simp only[uO,aX,bQ,fF]at this;rcases this with rfl|rfl|rfl|rfl|rfl|rfl<;>exact⟨rfl,_,rfl,by decide⟩
theorem Jn{r:Str}(h:Utf (c::r))(o:(nM (c::r)).2.2=0):Utf ((c::r).drop (nM (c::r)).2.1):=by
 have run:∀q:UInt8->Bool,(∀c,q c=true->c.toNat<128)->Utf ((c::r).drop (fT q (c::r))):=λq J=>by
  cases U:fT q (c::r)with
  |zero=>exact h
  |succ k=>
   obtain⟨x,j,h2⟩:=Gl q _ _ U;exact sE h j (J x h2)
 rw[Cg]at o⊢;split
 ·rename_i e;have e:c=10:=by simpa using e
  exact sF h (by rw[e];decide)
 rename_i n1;rw[aJ n1]at o;split
 ·exact run _ λc=>Cm
 rename_i n2;rw[aJ n2]at o;split
 ·exact run _ λc=>Ew
 rename_i n3;rw[aJ n3]at o;split
 ·rename_i e;rw[aO e]at o;split
  ·rename_i j;rw[rT (by simp only[aB];omega)]at j⊢;have hf:=BV j;have he:=tO _ r 0 _ (aY _) (iY rfl j:jL r 0=((jL r 0).1,0));refine sE (c:=34) h ?_ (by decide);rw[show(jL r 0).1=(jL r 0).1-1+1 by omega,List.getElem?_cons_succ];exact he
  ·rename_i j;rw[aJ j]at o;exact absurd o j
 rename_i n4;rw[aJ n4]at o;split
 ·rename_i j;rw[aO j]at o;exact Lv h λx I=>by rw[FA o I];decide
 rename_i n5;rw[aJ n5]at o;show Utf ((c::r).drop (qU (c::r)).length);unfold qU;split
 ·rename_i j;obtain⟨e1,x,e2,e3⟩:=Ka j;rw[e1];refine sE (k:=1) (c:=x) h ?_ e3;rw[<-e2,List.getElem?_take_of_lt (by omega)]
 split
 ·rename_i j;exact sF h (Gb j)
 ·exact h
theorem Da{s:Str}:∀(n i:Nat),s.length<n+i->Db n s i=none->Utf (s.drop i)
 |0,i,hl,_=>by rw[gL (by omega)];exact .nil
 |n+1,i,hl,h=>by
  rw[Db]at h
  split at h
  ·rename_i hi;rw[gL hi];exact .nil
  split at h
  ·cases h
  ·rename_i hi o
   have j:wJ s i=kH s i:=by unfold wJ;omega
   rw[j]at h
   have:=Utf.cons (Rn.of o) (Da n (i+kH s i) (by omega) h)
   rwa[<-kB,rZ]at this
theorem Ns{s:Str}(h:kH s i=0):Lib.hasPrefix (s.drop i) [239,191,189]=false:=by
 rw[Bool.eq_false_iff];intro o;obtain⟨r,j⟩:=Dv.1 o;have I:Rn [239,191,189]:=⟨by decide,by decide⟩;have:=I.at j.symm;rw[h]at this;cases this
theorem KI{s:Str}(h:Nz s i n 65533):Lib.hasPrefix (s.drop i) [239,191,189]=true:=by
 have hb:=h.bytes;refine Dv.2 ?_;have e:Lib.encodeRune ((65533:Nat):Int)=[239,191,189]:=by decide
 rw[e]at hb;rw[hb];exact List.take_prefix _ _
def Kc(acc:List Tok):RS->RS
 |.ok l=>.ok (acc++l)
 |.bad c a=>.bad c a
theorem Kb(acc:List Tok)(t:Tok)(x:RS):Kc acc (match x with|.ok l=>.ok (t::l)|x=>x)=Kc (acc++[t]) x:=by
 cases x<;>simp[Kc]
theorem FY(a:List Tok)(t:Tok):toks (a++[t])=toks a++iT t:=by simp[toks,iT]
section
variable [HX]
theorem Ug:TK:=by
 intro w K s hT hl hs j;refine WC ?_;unfold W28;rw[dM,fJ,bA];unfold nI at hs j;have bad:∀{w1:World} (c:Int) (i:Nat) {K':Q0},(∀d w',Ext w w'->w.heap.size<=d->w'.heap[d]?=some (.cells [i64 c,str [],i64 (i:Nat)].toArray 48 (0,0))->K (.tuple #[.slice none 0 0,.pointer (some ⟨d,0,none⟩)]) w')->Ext w w1->
   jI 48 (.agg [i64 c,str [],i64 (i:Nat)].toArray) w1 λt16 w2=>K (.tuple #[.slice none 0 0,t16]) w2:=by
  intro w1 c i _ h hx;refine fX (z:=[i64 c,str [],i64 (i:Nat)]) λd w2 hd hz yn yf=>?_;have:=hx.size;exact h d w2 (hx.trans yf) (by omega) yn
 refine⟨λh=>?_,λh=>?_⟩
 ·rw[aO (by omega)]at j;simp only[dF,dK,aB,aK,aL,aN,Nat.reduceAdd,Nat.reduceLT,cZ,aS];exact bad (K':=K) 3 0 (λd w'=>j 3 0 rfl d w') (Chg.refl _ _)
 have zl:s.length<=16384:=by omega
 rw[aJ (by omega)]at hs j;generalize hB:Db (s.length+1) s 0=Bd at hs j;refine Cn ?_;refine eJ.go (λst w5=>∃p m,p<=s.length/\st=[]/\w5.heap[w.heap.size]?=some (.stringIter (ofL s) p)/\Ext w w5/\Db m s p=Bd/\s.length<m+p)
  (λ_ w5=>match w5.heap[w.heap.size]? with|some (.stringIter _ p)=>s.length-p|_=>0)
  ⟨0,s.length+1,fW _,rfl,jY _ _ _ rfl,Chg.alloc (Chg.refl _ _) _,hB,by omega⟩ ?_
 rintro st g w5 ⟨p,m,hp,rfl,xx,xq,hj,hm⟩;obtain⟨m,rfl⟩:∃k,m=k+1:=⟨m-1,by omega⟩;rw[Db]at hj;have zf:=xq.size;refine Eh xx (λyh=>?_) (λxg w6 xb yp ze=>?_)
 ·
  rw[bP];refine⟨.bool false,rfl,?_⟩;rw[bW];rw[aO yh]at hj;subst hj;simp only at hs j;have hU:Utf s:=by
   have:=Da (s:=s) (s.length+1) 0 (by omega) hB;rwa[eU]at this
  generalize hR:mU (s.length+1) s 0 0=R0 at hs j;refine eJ.go (λst w7=>∃(i m:Nat) (acc:List Tok) (v:Value),st=[v,i64 (i:Nat)]/\i<=s.length/\Utf (s.drop i)/\Ext w w7/\Own w7 w.heap.size TkT 3 v acc.length (toks acc)/\Kc acc (mU m (s.drop i) i acc.length)=R0/\s.length<m+i/\acc.length<=4096)
   (λst _=>match st with|[_,.int _ i]=>s.length-i.toNat|_=>0)
   ⟨0,s.length+1,[],_,rfl,fW _,by rw[eU];exact hU,xq,⟨by simp[toks],.inl ⟨rfl,rfl⟩⟩,by rw[eU,aK,hR];cases R0<;>rfl,by omega,by simp⟩ ?_
  rintro st g2 w7 ⟨i,m2,acc,v,rfl,hi,hu,xe,hO,hr,zk,yy⟩;obtain⟨m2,rfl⟩:∃k,m2=k+1:=⟨m2-1,by omega⟩;simp only[mU]at hr;simp only[aF,bJ];have zd:=xe.size;have zh:(s.drop i).length=s.length-i:=aR;rw[eF,eK,eD];refine⟨by omega,by omega,?_⟩;rw[eQ,bC];refine Uc (hT.ext xe) (by omega) ?_;have xa:=wL ((s.drop i).length+1) _ hu;have yk:=uN ((s.drop i).length+1) (s.drop i);rw[jF]at xa hr;generalize iZ ((s.drop i).length+1) (s.drop i)=k at*
  obtain⟨k,kc⟩:=k;simp only at xa yk hr⊢;rw[bP];refine⟨_,rfl,?_⟩;rw[bP];refine⟨_,rfl,?_⟩;rw[cG,fE (by omega) (by omega),show(i:Int)+(k:Nat)=((i+k:Nat):Int)by omega,bX];simp only[fO];refine GdW.look (decide (i+k=s.length)) (λ_ J hJ=>?_) λg3=>?_
  ·rw[dM,bX,show decide (((i+k:Nat):Int)=((s.length:Nat):Int))=decide (i+k=s.length)by rw[decide_eq_decide];omega];exact hJ
  simp only[aF];rw[fB,dU];refine⟨λxj=>?_,λxh=>?_⟩
  ·simp only[bL,decide_eq_true_iff]at xj;rw[aJ (by rw[xj.1];simp),aO (rH (by omega))]at hr;simp only[dF,dK,aB,aK,aL,aN,Nat.reduceAdd,Nat.reduceLT,cZ,aS];rw[dC];refine Aq (d:=iT ⟨0,[],((i+k:Nat):Int)⟩) rfl rfl λb w8 hb ye xt hk=>?_;refine iL Ty (hO.ext hk) (sB (n:=1) xt) rfl (λu hu=>by simp only[iT,aX,bQ,fF]at hu;rcases hu with rfl|rfl|rfl<;>rfl) (by omega) (by omega) (by have:=hk.size;omega) λv' w9 U yo zg=>?_;have e:toks acc++iT ⟨0,[],((i+k:Nat):Int)⟩=toks (acc++[⟨0,[],((i+k:Nat):Int)⟩]):=(FY _ _).symm;rw[e]at U;have I:Ext w w9:=(xe.trans hk).then yo λq hq e=>by have:=(kA hO e).2;omega
   refine hs (acc++[⟨0,[],((i+k:Nat):Int)⟩]) (by rw[<-hr];rfl) v' w9 I (by rw[aP];exact U.sl) λq hq=>⟨(kA U hq).2,(kA U hq).1⟩
  ·have xh:¬(kc=0/\i+k=s.length):=by
    rintro⟨h1,h2⟩;rw[h1,h2]at xh;simp at xh
   refine cI λa w8 ha ye xm hk=>?_;have ht:=xe.trans hk;refine cX.cut (λst w9=>Ext w w9/\Own w9 w.heap.size TkT 3 v acc.length (toks acc)/\w8.heap.size<=w9.heap.size/\v.ownBlock≠some a/\∃(t:Tok) (n:Nat) (e:Int),st=[i64 e,i64 (n:Nat)]/\w9.heap[a]?=some (.cells (iT t).toArray TkT (0,0))/\
    ((e≠0/\R0=.bad e ((i+k:Nat):Int))\/(e=0/\1<=n/\i+k+n<=s.length/\Utf (s.drop (i+k+n))/\Kc acc (if acc.length=4096 then .bad 3 ((i+k:Nat):Int)else match mU m2 (s.drop (i+k+n)) (i+k+n) (acc.length+1)with|.ok l=>.ok (⟨t.k,t.t,((i+k:Nat):Int)⟩::l)|x=>x)=R0))) ?_ ?_
   ·have hy:v.ownBlock≠some a:=λe=>by have:=(kA hO e).1;omega
    rw[bX,bA];refine⟨λh0=>?_,λh0=>?_⟩
    ·rw[aJ (by rw[h0];simp)]at hr;have yj:i+k<s.length:=by
      rcases nL (i+k) s.length with h|h
      ·exact h
      ·exact absurd ⟨h0,by omega⟩ xh
     have hd:=kQ yj;rw[aJ (λe=>by rw[hd]at e;cases e)]at hr;rw[eF,eK,eD];refine⟨by omega,by omega,?_⟩;rw[eQ,bC];have zj:(s.drop (i+k+1)).length=s.length-(i+k+1):=aR;rw[hd]at hr xa⊢;generalize s[i+k]=c at*
     generalize zi:s.drop (i+k+1)=r at*
     refine XC (hT.ext ht) xa (by omega) λw9 I=>?_;rw[bP];refine⟨_,rfl,?_⟩;rw[bP];refine⟨_,rfl,?_⟩;rw[bP];refine⟨_,rfl,?_⟩;have xv:=Jn xa;have xw:=@Ff (c::r);generalize nM (c::r)=o at*
     obtain⟨t,n,e⟩:=o;simp only at xv hr⊢;refine dD (l:=iT t) (I.at xm id) rfl rfl rfl λw10 yt xn xl=>?_;have U:=(hO.ext hk).ext I;refine⟨(ht.trans I).new xl (by omega),dP U xl λq hq e=>hy (e▸hq),by have:=I.size;omega,hy,?_⟩;by_cases he:e=0
     ·subst he;rw[aJ (by simp)]at hr;obtain⟨n1,n2,_⟩:=xw (t:=t) (k:=n) (by simp) rfl;simp only[aB]at n2;refine⟨t,n,0,rfl,xn,.inr ⟨rfl,n1,by omega,?_,?_⟩⟩
      ·rw[<-jF,hd];exact xv rfl
      ·rw[<-jF,hd];exact hr
     ·rw[aO he]at hr;exact⟨t,n,e,rfl,xn,.inl ⟨he,hr.symm⟩⟩
    ·rw[aO h0]at hr;exact⟨ht,hO.ext hk,aY _,hy,⟨0,[],0⟩,0,kc,rfl,xm,.inl ⟨h0,hr.symm⟩⟩
   rintro st g4 w9 ⟨I,U,zc,hy,t,n,e,rfl,yq,hcase⟩;simp only[aF,bJ];refine cX.cut (λst w'=>w'=w9/\∃e':Int,st=[i64 e']/\((e'≠0/\R0=.bad e' ((i+k:Nat):Int))\/(e'=0/\1<=n/\i+k+n<=s.length/\Utf (s.drop (i+k+n))/\acc.length<4096/\Kc acc (match mU m2 (s.drop (i+k+n)) (i+k+n) (acc.length+1)with|.ok l=>.ok (⟨t.k,t.t,((i+k:Nat):Int)⟩::l)|x=>x)=R0))) ?_ ?_
   ·rw[bX];simp only[fO];refine GdW.look (decide (acc.length=4096)) (λ_ J hJ=>?_) λg5=>?_
    ·obtain⟨q,cap,ev,_⟩:=U.sl.shape;rw[ev,gN,bX,show decide (((acc.length:Nat):Int)=4096)=decide (acc.length=4096)by rw[decide_eq_decide];omega];exact hJ
    simp only[aF];rw[fB,dU];refine⟨λhb=>?_,λhb=>?_⟩
    ·simp only[bL,decide_eq_true_iff]at hb;refine⟨trivial,3,rfl,.inl ⟨by decide,?_⟩⟩;rcases hcase with⟨h1,h2⟩|⟨h1,h2,h3,h4,h5⟩
     ·exact absurd hb.1 h1
     ·rw[aO hb.2]at h5;exact h5.symm
    ·refine⟨trivial,e,rfl,?_⟩;rcases hcase with h|⟨h1,h2,h3,h4,h5⟩
     ·exact .inl h
     ·have:acc.length≠4096:=λh=>by rw[h1,h]at hb;simp at hb
      rw[aJ this]at h5;exact .inr ⟨h1,h2,h3,h4,by omega,h5⟩
   rintro st g5 w10 ⟨rfl,e',rfl,hcase⟩;simp only[aF];rw[eX,bA];refine⟨λyi=>?_,λheq=>?_⟩
   ·rcases hcase with⟨h1,h2⟩|⟨h1,_⟩
    ·simp only[dF,dK,aB,aK,aL,aN,Nat.reduceAdd,Nat.reduceLT,cZ,aS];exact bad (K':=K) e' (i+k) (λd w'=>j e' _ h2 d w') I
    ·exact absurd h1 yi
   ·rcases hcase with⟨h1,_⟩|⟨h1,n1,n2,yg,zm,hr⟩
    ·exact absurd (by simpa using heq) h1
    rw[bD,bG,aH];refine jZ yq rfl (by simp[iT]) λw11 ys xc xk=>?_;have xc:w11.heap[a]?=some (.cells (iT ⟨t.k,t.t,((i+k:Nat):Int)⟩).toArray TkT (0,0)):=by rw[xc];simp[iT]
    have xp:=dP U xk λq hq e=>hy (e▸hq);have xi:=I.new xk (by omega);refine fQ xc rfl ?_;refine Aq (d:=iT ⟨t.k,t.t,((i+k:Nat):Int)⟩) rfl rfl λb w12 hb yr xt hv=>?_;refine iL Ty (xp.ext hv) (sB (n:=1) xt) rfl (λu hu=>by simp only[iT,aX,bQ,fF]at hu;rcases hu with rfl|rfl|rfl<;>rfl) (by omega) (by omega) (by have:=xi.size;have:=hv.size;omega) λv' w13 xo ya yw=>?_;rw[<-FY]at xo;rw[cG,fE (by omega) (by omega)];refine⟨⟨i+k+n,m2,acc++[⟨t.k,t.t,((i+k:Nat):Int)⟩],v',by simp only[fR,Value.int.injEq,cZ,eY];omega,by omega,yg,(xi.trans hv).then ya λq hq e=>?_,by rw[aP];exact xo,?_,by omega,by rw[aP,aB,aK];omega⟩,?_⟩
    ·have:=(kA xp e).2;omega
    ·rw[aP,<-Kb];exact hr
    ·simp only[bC];omega
 ·
  have yl:¬s.length<=p:=by omega
  rw[aJ yl]at hj;have xu:Ext w w6:=xq.then yp λq hq e=>by have e:q=w.heap.size:=e;omega
  rw[bP];refine⟨.bool true,rfl,?_⟩;rw[cU,bP];refine⟨i64 (p:Nat),rfl,?_⟩;rw[bP];refine⟨_,rfl,?_⟩;have xz:(Utf8.decode (ofL s) p).1=65533/\Lib.hasPrefix (s.drop p) [239,191,189]=false↔kH s p=0:=by
   constructor
   ·rintro⟨h1,h2⟩;by_cases h0:kH s p=0
    ·exact h0
    ·obtain⟨c,hc⟩:=tS xg h0;have hd:=hc.dec;rw[hd]at h1;have h1:c=65533:=h1;subst h1;rw[KI hc]at h2;cases h2
   ·intro h0;rw[Gj xg h0];exact⟨rfl,Ns h0⟩
  rw[Nf xg]at xb;generalize (Utf8.decode (ofL s) p).1=c at*
  rw[bX,show decide (((c:Nat):Int)=65533)=decide (c=65533)by rw[decide_eq_decide];omega];simp only[fO];refine GdW.look (!Lib.hasPrefix (s.drop p) [239,191,189]) (λ_ J hJ=>?_) λg3=>?_
  ·rw[eF,eK,eD];refine⟨by omega,by omega,?_⟩;rw[eQ,bC];refine zB ?_;rw[fG];exact hJ
  simp only[aF];rw[fB,dU];refine⟨λhb=>?_,λhb=>?_⟩
  ·have h0:kH s p=0:=xz.1 (by simpa using hb);rw[aO h0]at hj;subst hj;simp only[dF,dK,aB,aK,aL,aN,Nat.reduceAdd,Nat.reduceLT,cZ,aS];exact bad (K':=K) 31 p (λd w'=>j 31 _ rfl d w') xu
  ·have h0:kH s p≠0:=λh=>by
    have:=xz.2 h;rw[bK this.1,this.2]at hb;cases hb
   rw[aJ h0]at hj;have xy:=JW xg;have yx:=LG s p;refine⟨⟨p+wJ s p,m,xy,trivial,xb,xu,hj,by omega⟩,?_⟩;rw[xb,xx];show s.length-(p+wJ s p)<s.length-p;omega
end
theorem MX(w:World)(B:Nat):FO w B ⟨.slice none 0 0,.slice none 0 0,.slice none 0 0,[],[]⟩ ⟨[],[],[]⟩:=
 ⟨⟨by simp,.inl ⟨rfl,rfl⟩⟩,⟨by simp,.inl ⟨rfl,rfl⟩⟩,⟨by simp[ints],.inl ⟨rfl,rfl⟩⟩,kM.nil _ _,kM.nil _ _,mM,λk j=>by simp[ub,Value.ownBlock]at j,λk j=>by simp[ub,Value.ownBlock]at j⟩
section
variable [HX]
end
def ex1:Str:=[114,32,34,116,34,32,34,110,34,32,123,32,120,32,61,32,49,32,43,32,121,46,122,32,125]
section
variable [HX]
end
end
section
open Go Go.Eng Go.RowKit Go.Syn Go.Lex
def cnt(n:Nat)(l:List Nat):List Nat:=(List.range n).map λj=>l.count j
section
variable [HX]
end
variable{w0 w w':World}{B a ea eb:Nat}{M:Lay}{fl:Fl}{lE lB:List Nat}
end
section
open Go Go.Eng Go.RowKit Go.Syn Go.Lex
variable{w:World}{K:Q0}{cs:List Value}{G:Nat->Prop}{T:TypeId}{i:Nat}{n:Nat}{v:Value}{w':World}{P:Program}{c:UInt8}{S:Nat->Prop}
theorem EB{w:World}{b o:Nat}{c:Array Value}{T:TypeId}{fr:Nat×Nat}{d:List Value}(hb:w.heap[b]?=some (.cells c T fr))(hd:∀j,j<d.length->c[o+j]?=d[j]?):∀(n i:Nat),i+n=d.length->bN w ⟨b,o,none⟩ i n=some (d.drop i)
 |0,i,h=>by simp only[bN];rw[gL (by omega)]
 |n+1,i,h=>by
  have hi:i<d.length:=by omega
  simp only[bN,bG,cA,hb,bM,hd i hi,List.getElem?_eq_getElem hi]
  rw[EB hb hd n (i+1) (by omega)]
  simp
theorem Qx{size:Nat}{d:List Value}{k:IntKind}{K:Value->Prop}(h:gD w T v n cs)(hl:cs.length=n*size)(I:0<size)(hi:i<n)(hd:(cs.drop (i*size)).take size=d)(hK:K (.agg d.toArray)):
  iN none size v (.int k i) λt=>ldW true size t w K:=by
 have J:i*size+size<=n*size:=by rw[<-Nat.succ_mul];exact eP _ hi
 have U:d.length=size:=by rw[<-hd,cO,aR];omega
 refine Cu h hl I hi λb o c fr hb hc=>?_;rw[yZ];refine⟨d,?_,hK⟩;have:=EB (d:=d) hb (λj hj=>by rw[hc j (by omega),<-hd,List.getElem?_take_of_lt (by omega),List.getElem?_drop]) size 0 (by omega);simpa using this
variable [HX]
end
section
open Go Go.Eng Go.RowKit Go.Syn Go.Lex
variable{w:World}{K:Q0}{cs:List Value}{G:Nat->Prop}{T:TypeId}{i:Nat}{n:Nat}{v:Value}{w':World}{P:Program}{c:UInt8}{S:Nat->Prop}
theorem vP{A:(Value->Prop)->Prop}{B:Value->Prop}(o:A (λx=>x=v))(j:B v):GqW true A B:=(ND A B).2 ⟨v,o,j⟩
theorem IS{A:(Q0)->Prop}{B:Q0}(h:A B):GeW true w A B:=⟨λ_=>h,(λe=>by cases e)⟩
section
variable [HX]
end
theorem BD{B m:Nat}{xs:List Value}(h:Own w B T m v n xs):n<=9223372036854775807:=by
 obtain⟨_,⟨_,rfl⟩|⟨g,cap,cur,_,_,_,o,j,_⟩⟩:=h
 ·omega
 ·unfold maxLen at j;omega
section
variable [HX]
end
end
end Go.Proofs.YtjblfcfdeaagpaaGreatDoor
namespace Go.Cfg
section
open Go Go.Eng Go.Lex Go.Syn
structure Vr where
 n:Str
 d:Int
 a:Int
deriving DecidableEq
structure Rs where
 ty:Str
 n:Str
 attrs:List Atr
 count:Int
 each:Int
 swap:Bool
 prev:Bool
 deps:List Str
 a:Int
deriving DecidableEq
structure Cl where
 n:Str
 mod:Nat
 args:List Atr
 a:Int
deriving DecidableEq
structure Md where
 dir:Str
 fl:Fl
 vars:List Vr
 locs:List Atr
 outs:List Atr
 res:List Rs
 calls:List Cl
deriving DecidableEq
def Im:Md:=⟨[],⟨[],[],[]⟩,[],[],[],[],[]⟩
structure MS where
 m:Md
 src:List Str
deriving DecidableEq
inductive RC (α:Type) where
 |ok (x:α)
 |bad (c a:Int)
def RC.bind{α β:Type}(r:RC α)(f:α->RC β):RC β:=match r with
 |.ok x=>f x
 |.bad c a=>.bad c a
def mO:Str:=[109,97,105,110,46,104,99,108]
def uP:Str:=[108,111,99,97,108,115]
def lS:Str:=[118,97,114,105,97,98,108,101]
def nY:Str:=[111,117,116,112,117,116]
def pR:Str:=[109,111,100,117,108,101]
def kD:Str:=[114,101,115,111,117,114,99,101]
def Gi:Str:=[100,101,102,97,117,108,116]
def LM:Str:=[118,97,108,117,101]
def Tr:Str:=[105,100]
def wQ:Str:=[99,111,117,110,116]
def tR:Str:=[102,111,114,95,101,97,99,104]
def wP:Str:=[100,101,112,101,110,100,115,95,111,110]
def AZ:Str:=[108,105,102,101,99,121,99,108,101]
def DN:Str:=[99,114,101,97,116,101,95,98,101,102,111,114,101,95,100,101,115,116,114,111,121]
def Gh:Str:=[112,114,101,118,101,110,116,95,100,101,115,116,114,111,121]
def zP:Str:=[115,111,117,114,99,101]
def ZQ:Str:=[118,97,114]
def Uh:Str:=[108,111,99,97,108]
def Xt:Str:=[101,97,99,104]
def lL:Str->Bool
 |[]=>false
 |c::r=>gV c&&r.all iS&&decide (r.length<=31)
def tE(t:Str):Int:=if t=uP then 0 else if t=lS\/t=nY\/t=pR then 1 else if t=kD then 2 else-1
def oA:List Str:=[ZQ,Uh,pR,nY,Xt,wQ]
def kT(f:Fl)(i:Nat):Ex:=f.ex.getD i ⟨0,[],[],[],0⟩
def kC(f:Fl)(i:Nat):Blk:=f.bl.getD i ⟨[],[],[],[],0⟩
def pZ(f:Fl):Nat->Nat->Str->Option Str
 |0,_,_=>none
 |n+1,i,s=>
  if(kT f i).k=10 then pZ f n ((kT f i).args.getD 0 0) (46::((kT f i).t++s))
  else if(kT f i).k=9 then some ((kT f i).t++s)else none
def AU(f:Fl)(i:Nat):Option Str:=pZ f (i+1) i []
def kZ{σ:Type}(f:Fl)(take:σ->Atr->Ex->RC σ):List Atr->List Atr->σ->RC σ
 |_,[],s=>.ok s
 |seen,a::l,s=>if seen.any (λx=>decide (x.n=a.n))=true then .bad 2 a.a else(take s a (kT f a.e)).bind (kZ f take (seen++[a]) l)
def sV(f:Fl)(b:Blk):RC Unit:=match b.blocks with
 |[]=>.ok ()
 |k::_=>.bad 110 (kC f k).a
def JQ(_:Int)(a:Atr)(_:Ex):RC Int:=if a.n=Gi then .ok a.e else .bad 110 a.a
def nW(s:MS)(b:Blk):RC MS:=
 (kZ s.m.fl JQ [] b.attrs (-1)).bind λd=>(sV s.m.fl b).bind λ_=>
   if s.m.vars.any (λx=>decide (x.n=b.labels.getD 0 []))=true then .bad 2 b.a
   else .ok {s with m:={s.m with vars:=s.m.vars++[⟨b.labels.getD 0 [],d,b.a⟩]}}
def GK(l:List Atr)(a:Atr)(_:Ex):RC (List Atr):=if l.any (λx=>decide (x.n=a.n))=true then .bad 2 a.a else .ok (l++[a])
def rX(s:MS)(b:Blk):RC MS:=
 (kZ s.m.fl GK [] b.attrs s.m.locs).bind λl=>(sV s.m.fl b).bind λ_=>.ok {s with m:={s.m with locs:=l}}
def outT(_:Int)(a:Atr)(_:Ex):RC Int:=if a.n=LM then .ok a.e else .bad 110 a.a
def rV(s:MS)(b:Blk):RC MS:=
 (kZ s.m.fl outT [] b.attrs (-1)).bind λd=>(sV s.m.fl b).bind λ_=>
   if d<0 then .bad 110 b.a
   else if s.m.outs.any (λx=>decide (x.n=b.labels.getD 0 []))=true then .bad 2 b.a
   else .ok {s with m:={s.m with outs:=s.m.outs++[⟨b.labels.getD 0 [],d.toNat,b.a⟩]}}
def Ai(f:Fl):List Nat->List Str->Option (List Str)
 |[],ds=>some ds
 |x::l,ds=>match AU f x with
  |none=>none
  |some t=>Ai f l (ds++[t])
def oneOf(r:Rs)(a:Atr):RC Rs:=if r.count<0\/r.each<0 then .ok r else .bad 110 a.a
def tU(f:Fl)(r:Rs)(a:Atr)(e:Ex):RC Rs:=
 if a.n=Tr then .bad 110 a.a
 else if a.n=wQ then oneOf {r with count:=a.e} a
 else if a.n=tR then oneOf {r with each:=a.e} a
 else if a.n=wP then(match Ai f e.args r.deps with
  |none=>.bad 110 a.a
  |some ds=>if e.k=7 then .ok {r with deps:=ds}else .bad 110 a.a)
 else oneOf {r with attrs:=r.attrs++[a]} a
def tZ(r:Rs)(a:Atr)(e:Ex):RC Rs:=
 if a.n=DN then(if e.k=2\/e.k=3 then .ok {r with swap:=decide (e.k=2)}else .bad 110 a.a)
 else if a.n=Gh then(if e.k=2\/e.k=3 then .ok {r with prev:=decide (e.k=2)}else .bad 110 a.a)
 else .bad 110 a.a
def yM(f:Fl):Nat->List Nat->Rs->RC Rs
 |_,[],r=>.ok r
 |i,k::l,r=>
  if 0<i/\(kC f k).typ=AZ then .bad 2 (kC f k).a
  else if(kC f k).typ≠AZ\/(kC f k).labels≠[]then .bad 110 (kC f k).a
  else(kZ f tZ [] (kC f k).attrs r).bind λr=>(sV f (kC f k)).bind λ_=>yM f (i+1) l r
def nZ(s:MS)(b:Blk):RC MS:=
 (kZ s.m.fl (tU s.m.fl) [] b.attrs ⟨b.labels.getD 0 [],b.labels.getD 1 [],[],-1,-1,false,false,[],b.a⟩).bind λr=>(yM s.m.fl 0 b.blocks r).bind λr=>
   if s.m.res.any (λx=>decide (x.ty=r.ty)&&decide (x.n=r.n))=true then .bad 2 b.a
   else .ok {s with m:={s.m with res:=s.m.res++[r]}}
def xG(s:List Atr×Str)(a:Atr)(e:Ex):RC (List Atr×Str):=
 if a.n=zP then(if e.k=5/\lL e.t=true then .ok (s.1,e.t)else .bad 110 a.a)else .ok (s.1++[a],s.2)
def Am(s:MS)(b:Blk):RC MS:=
 (kZ s.m.fl xG [] b.attrs ([],[])).bind λr=>(sV s.m.fl b).bind λ_=>
   if r.2=[]then .bad 110 b.a
   else if s.m.calls.any (λx=>decide (x.n=b.labels.getD 0 []))=true then .bad 2 b.a
   else .ok ⟨{s.m with calls:=s.m.calls++[⟨b.labels.getD 0 [],0,r.1,b.a⟩]},s.src++[r.2]⟩
def sU(s:MS)(b:Blk):RC MS:=
 if tE b.typ≠b.labels.length\/b.labels.any (λl=> !lL l)=true\/(b.typ=kD/\b.labels.getD 0 []∈oA)then .bad 110 b.a
 else if b.typ=lS then nW s b
 else if b.typ=uP then rX s b
 else if b.typ=nY then rV s b
 else if b.typ=kD then nZ s b
 else if b.typ=pR then Am s b
 else .ok s
def nK:List Nat->MS->RC MS
 |[],s=>.ok s
 |k::l,s=>(sU s (kC s.m.fl k)).bind (nK l)
inductive RL (α:Type) where
 |ok (x:α)
 |bad (c:Int) (file:Str) (a:Int)
def Bq(vars:List Vr):List Atr->Option Int
 |[]=>none
 |a::l=>if vars.any (λv=>decide (v.n=a.n))=true then Bq vars l else some a.a
def Bg(args:List Atr)(vars:List Vr):Bool:=vars.any λv=>decide (v.d<0)&&!args.any (λa=>decide (a.n=v.n))
def rP(sub:Option (Str->List Md->RL (List Md)))(path dir:Str):List (Cl×Str)->List Cl->List Md->RL (List Cl×List Md)
 |[],done,mods=>.ok (done,mods)
 |(c,src)::l,done,mods=>match sub with
  |none=>.bad 111 path c.a
  |some ld=>if mods.length=16 then .bad 111 path c.a else match ld (dir++src++[47]) mods with
   |.bad k p a=>.bad k p a
   |.ok mods'=>match Bq (mods'.getD mods.length Im).vars c.args with
    |some a=>.bad 80 path a
    |none=>if Bg c.args (mods'.getD mods.length Im).vars=true then .bad 110 path c.a
     else rP sub path dir l (done++[{c with mod:=mods.length}]) mods'
def Cp(rd:Str->Option Str)(sub:Option (Str->List Md->RL (List Md)))(dir:Str)(mods:List Md):RL (List Md):=
 match rd (dir++mO)with
 |none=>.bad 111 (dir++mO) 0
 |some data=>match sJ data with
  |.bad c a=>.bad c (dir++mO) a
  |.ok fl=>match nK fl.top ⟨⟨dir,fl,[],[],[],[],[]⟩,[]⟩with
   |.bad c a=>.bad c (dir++mO) a
   |.ok s=>match rP sub (dir++mO) dir (s.m.calls.zip s.src) [] (mods++[Im])with
    |.bad c p a=>.bad c p a
    |.ok (cs,mods')=>.ok (mods'.set mods.length {s.m with calls:=cs})
def qF(rd:Str->Option Str):Nat->Str->List Md->RL (List Md)
 |0=>Cp rd none
 |n+1=>Cp rd (some (qF rd n))
end
end Go.Cfg
namespace Go.Proofs.YtjblfcfdeaagpaaGreatDoor
section
open Go Go.Eng Go.RowKit Go.Syn Go.Lex Go.Cfg
variable{w:World}{K:Q0}{cs:List Value}{G:Nat->Prop}{T:TypeId}{i:Nat}{n:Nat}{v:Value}{w':World}{P:Program}{c:UInt8}{S:Nat->Prop}
abbrev IR:TypeId:=69
abbrev Tk:TypeId:=71
abbrev Tq:TypeId:=73
abbrev ZK:TypeId:=67
abbrev Le:TypeId:=177
theorem XG:qB P0 63 IR 3 32:=⟨by kernel_rfl,by kernel_rfl,by decide⟩
theorem XH:qB P0 64 Tk 9 112:=⟨by kernel_rfl,by kernel_rfl,by decide⟩
theorem XK:qB P0 65 Tq 4 56:=⟨by kernel_rfl,by kernel_rfl,by decide⟩
theorem XI:qB P0 58 ZK 9 208:=⟨by kernel_rfl,by kernel_rfl,by decide⟩
theorem gE(h:gD w T v n cs):jD v=true:=by
 obtain⟨q,cap,rfl,_⟩:=h.shape;rfl
def Dr(l:List Vr):List Value:=l.flatMap λv=>[str v.n,i64 v.d,i64 v.a]
theorem IZ(l:List Vr):(Dr l).length=l.length*3:=xW _ (λ_=>rfl) l
theorem NK(a b:List Vr):Dr (a++b)=Dr a++Dr b:=by simp[Dr]
def HI(w:World)(B:Nat)(r:Rs)(c:List Value):Prop:=
 ∃va vd,c=[str r.ty,str r.n,va,i64 r.count,i64 r.each,.bool r.swap,.bool r.prev,vd,i64 r.a]/\Own w B AtT 3 va r.attrs.length (kK r.attrs)/\Own w B StT 1 vd r.deps.length (strs r.deps)
def HH(w:World)(B:Nat)(r:Cl)(c:List Value):Prop:=
 ∃va,c=[str r.n,i64 (r.mod:Nat),va,i64 r.a]/\Own w B AtT 3 va r.args.length (kK r.args)
theorem HI.at_{B:Nat}{e:Rs}{c:List Value}(h:HI w B e c)(o:Chg S w w')(I:∀k∈ub c,¬S k):HI w' B e c:=by
 obtain⟨va,vk,rfl,U,J⟩:=h;exact⟨va,vk,rfl,dP U o λk j=>I k (dS (v:=va) (by simp) j),dP J o λk j=>I k (dS (v:=vk) (by simp) j)⟩
theorem HH.at_{B:Nat}{e:Cl}{c:List Value}(h:HH w B e c)(o:Chg S w w')(I:∀k∈ub c,¬S k):HH w' B e c:=by
 obtain⟨va,rfl,J⟩:=h;exact⟨va,rfl,dP J o λk j=>I k (dS (v:=va) (by simp) j)⟩
theorem HI.low{B B':Nat}{e:Rs}{c:List Value}(h:HI w B e c)(hb:B'<=B):HI w B' e c:=by
 obtain⟨va,vk,rfl,o,j⟩:=h;exact⟨va,vk,rfl,o.base hb,j.base hb⟩
theorem HH.low{B B':Nat}{e:Cl}{c:List Value}(h:HH w B e c)(hb:B'<=B):HH w B' e c:=by
 obtain⟨va,rfl,j⟩:=h;exact⟨va,rfl,j.base hb⟩
structure ML where
 M:Lay
 vV:Value
 vL:Value
 vO:Value
 vR:Value
 vC:Value
 cR:List Value
 cC:List Value
def ML.vals(L:ML):List Value:=[L.M.vE,L.M.vB,L.M.vT]++(L.M.cE++L.M.cB)++([L.vV,L.vL,L.vO,L.vR,L.vC]++(L.cR++L.cC))
def ML.cells(L:ML)(dir:Str):List Value:=[str dir,L.M.vE,L.M.vB,L.M.vT,L.vV,L.vL,L.vO,L.vR,L.vC]
structure MdR(w:World)(B:Nat)(L:ML)(m:Md):Prop where
 fo:FO w B L.M m.fl
 oV:Own w B IR 3 L.vV m.vars.length (Dr m.vars)
 oL:Own w B AtT 3 L.vL m.locs.length (kK m.locs)
 oO:Own w B AtT 3 L.vO m.outs.length (kK m.outs)
 oR:Own w B Tk 9 L.vR m.res.length L.cR
 oC:Own w B Tq 4 L.vC m.calls.length L.cC
 rr:kM (HI w B) 9 m.res L.cR
 cc:kM (HH w B) 4 m.calls L.cC
 lt:∀k∈ub L.vals,k<w.heap.size/\B<=k
theorem ML.file(L:ML):∀v∈[L.M.vE,L.M.vB,L.M.vT]++(L.M.cE++L.M.cB),v∈L.vals:=λv j=>bS _ j
theorem MdR.keep{B:Nat}{L:ML}{m:Md}(h:MdR w B L m)(o:Chg S w w')(U:∀k∈ub L.vals,¬S k):MdR w' B L m:=by
 have J:∀v∈L.vals,∀k,v.ownBlock=some k->¬S k:=λv I k j=>U k (dS I j);refine⟨h.fo.keep o λk _ _ j=>U k (BS L.file k j),dP h.oV o (J _ (by simp[ML.vals])),dP h.oL o (J _ (by simp[ML.vals])),dP h.oO o (J _ (by simp[ML.vals])),dP h.oR o (J _ (by simp[ML.vals])),dP h.oC o (J _ (by simp[ML.vals])),?_,?_,λk j=>⟨cV (h.lt k j).1 o.size,(h.lt k j).2⟩⟩
 ·exact h.rr.imp λx d hd hx=>hx.at_ o λk j=>U k (BS (λv I=>by simp[ML.vals,hd v I]) k j)
 ·exact h.cc.imp λx d hd hx=>hx.at_ o λk j=>U k (BS (λv I=>by simp[ML.vals,hd v I]) k j)
theorem MdR.low{B B':Nat}{L:ML}{m:Md}(h:MdR w B L m)(hb:B'<=B):MdR w B' L m:=
 ⟨h.fo.low hb,h.oV.base hb,h.oL.base hb,h.oO.base hb,h.oR.base hb,h.oC.base hb,h.rr.imp λ_ _ _ j=>j.low hb,h.cc.imp λ_ _ _ j=>j.low hb,λk o=>⟨(h.lt k o).1,dI hb (h.lt k o).2⟩⟩
class FK where
 F:Nat->Obj->Prop
def AB(p:Nat)(L:ML)(vS:Value):List Nat:=p::(ub [vS]++ub L.vals)
structure MR[FK](w0 w:World)(p:Nat)(L:ML)(vS:Value)(path:Str)(s:MS):Prop where
 ch:Ext w0 w
 pm:w.heap[p]?=some (.cells (L.cells s.m.dir++[str path,vS]).toArray Le (0,0))
 md:MdR w w0.heap.size L s.m
 oS:Own w w0.heap.size StT 1 vS s.src.length (strs s.src)
 nd:(AB p L vS).Nodup
 lp:w0.heap.size<=p
 fk:∀k o,FK.F k o->w.heap[k]?=some o/\k∉AB p L vS
section
variable [FK]{w0 w w' w1 w2:World}{p:Nat}{L:ML}{vS:Value}{path:Str}{s:MS}
theorem MR.plt(h:MR w0 w p L vS path s):p<w.heap.size:=mJ h.pm
theorem MR.in_(h:MR w0 w p L vS path s):∀k∈AB p L vS,k<w.heap.size/\w0.heap.size<=k:=by
 intro k j;unfold AB at j;rcases aX.1 j with rfl|j
 ·exact⟨h.plt,h.lp⟩
 rcases bH.1 j with j|j
 ·obtain⟨g1,g2⟩:=kA h.oS (jJ.1 j);exact⟨g1,g2⟩
 ·exact h.md.lt k j
theorem MR.keep(h:MR w0 w p L vS path s)(I:Chg S w w')(J:∀k∈AB p L vS,¬S k)(hb:∀k,k<w0.heap.size->¬S k)(hf:∀k o,FK.F k o->¬S k):MR w0 w' p L vS path s:=
 ⟨h.ch.then I λk j e=>(hb k j e).elim,I.at h.pm (J p (by simp[AB])),h.md.keep I λk j=>J k (by simp[AB,j]),dP h.oS I λk j=>J k (by simp[AB,dS (v:=vS) (c:=[vS]) (by simp) j]),h.nd,h.lp,λk o j=>⟨I.at (h.fk k o j).1 (hf k o j),(h.fk k o j).2⟩⟩
theorem MR.ext(h:MR w0 w p L vS path s)(j:Ext w w'):MR w0 w' p L vS path s:=h.keep j (λ_ _ e=>e) (λ_ _ e=>e) λ_ _ _ e=>e
theorem MR.drew(h:MR w0 w p L vS path s):MR w0 w.drew p L vS path s:=h.ext (cP w)
def tN(w0 w:World)(p:Nat)(L:ML)(vS:Value)(k:Nat):Prop:=w0.heap.size<=k/\k<w.heap.size/\k∉AB p L vS/\∀o,¬FK.F k o
theorem MR.off_new(h:MR w0 w p L vS path s){k:Nat}(I:w.heap.size<=k)(j:k<w'.heap.size):tN w0 w' p L vS k:=
 ⟨by have:=h.ch.size;omega,j,λe=>by have:=(h.in_ k e).1;omega,λo e=>by have:=mJ (h.fk k o e).1;omega⟩
theorem tN.up{k:Nat}(h:tN w0 w p L vS k)(j:w.heap.size<=w'.heap.size):tN w0 w' p L vS k:=⟨h.1,cV h.2.1 j,h.2.2⟩
theorem MR.one{b:Nat}{w3:World}(h:MR w0 w p L vS path s)(J:Chg (One b) w w')(I:tN w0 w3 p L vS b):MR w0 w' p L vS path s:=
 h.keep J (λk j e=>I.2.2.1 (by have e:k=b:=e;exact e▸j)) (λk j e=>by have e:k=b:=e;have:=I.1;omega) λk o j e=>I.2.2.2 o (by have e:k=b:=e;exact e▸j)
structure Mf(w0 w:World)(p:Nat)(M:Lay)(path:Str)(fl:Fl):Prop where
 ch:Ext w0 w
 pE:∃cs:List Value,w.heap[p]?=some (.cells cs.toArray Le (0,0))/\cs[1]?=some M.vE/\cs[2]?=some M.vB/\cs[3]?=some M.vT/\cs[9]?=some (str path)
 fo:FO w w0.heap.size M fl
theorem MR.mf(h:MR w0 w p L vS path s):Mf w0 w p L.M path s.m.fl:=⟨h.ch,⟨_,h.pm,rfl,rfl,rfl,rfl⟩,h.md.fo⟩
theorem MR.ld{off:Nat}{K:Value->Prop}(h:MR w0 w p L vS path s)(j:(L.cells s.m.dir++[str path,vS])[off]?=some v)(o:K v):ldW false 1 (.pointer (some ⟨p,off,none⟩)) w K:=by
 rw[dX];refine⟨v,?_,o⟩;rw[cA,h.pm,bM];simpa using j
theorem zK{A B:List Value}{p z:Nat}{v':Value}(o:(p::(ub (A++v::B))).Nodup)(hb:∀k,v'.ownBlock=some k->v.ownBlock=some k\/z<=k)(J:∀k∈p::ub (A++v::B),k<z):(p::ub (A++v'::B)).Nodup:=by
 have e:∀u:Value,ub (A++u::B)=ub A++(u.ownBlock.toList++ub B):=λu=>by
  rw[mQ];congr 1;unfold ub;rw[List.filterMap_cons];cases u.ownBlock<;>rfl
 rw[e]at o J⊢;cases U:v'.ownBlock with
 |none=>
  refine o.sublist ?_;simp only[Option.toList_none,gJ];exact(List.Sublist.append_left (List.sublist_append_right _ _) _).cons_cons _
 |some k=>
  rcases hb k U with h|h
  ·rw[h]at o;exact o
  ·have hk:∀x∈p::(ub A++ub B),x≠k:=λx j e=>by
    have j:x∈p::(ub A++(v.ownBlock.toList++ub B)):=by
     rcases aX.1 j with rfl|j
     ·exact aW
     ·rcases bH.1 j with j|j
      ·simp[j]
      ·simp[j]
    have:=J x j;omega
   have I:(p::(ub A++ub B)).Nodup:=o.sublist ((List.Sublist.append_left (List.sublist_append_right _ _) _).cons_cons _);have:(p::(ub A++([k]++ub B))).Perm (k::p::(ub A++ub B)):=by
    refine(List.Perm.cons p ?_).trans (List.Perm.swap _ _ _);exact lZ
   exact(this.nodup_iff).2 (dB.2 ⟨λhm=>hk k hm rfl,I⟩)
theorem qW{A B:List Value}{p:Nat}(J:(p::ub (A++v::B)).Nodup):∀u∈A++B,∀k,u.ownBlock=some k->¬(v.ownBlock=some k\/k=p):=by
 intro u j k o e;have I:∀x∈ub (A++v::B),x≠p:=λx hx e=>(dB.1 J).1 (e▸hx);rcases e with e|e
 ·have U:=(dB.1 J).2;rw[mQ,gQ]at U;obtain⟨_,hB,hd⟩:=U;have hv:k∈ub (v::B):=dS (v:=v) (by simp) e;rcases bH.1 j with j|j
  ·exact hd k (dS j o) k hv rfl
  ·have e2:ub (v::B)=k::ub B:=by unfold ub;rw[List.filterMap_cons,e]
   rw[e2]at hB;exact(dB.1 hB).1 (dS j o)
 ·subst e;rcases bH.1 j with j|j
  ·exact I k (dS (bS _ j) o) rfl
  ·exact I k (dS (bF _ (aE _ j)) o) rfl
theorem Lx{A B D:List Value}{p:Nat}(o:(p::ub (A++B)).Nodup)(hd:(ub D).Nodup)(j:∀k∈ub D,k∉p::ub (A++B)):(p::ub (A++(D++B))).Nodup:=by
 have e:(p::ub (A++(D++B))).Perm (ub D++(p::ub (A++B))):=by
  rw[mQ,mQ,mQ];refine(List.Perm.cons p ?_).trans List.perm_middle.symm;rw[<-fK,<-fK];exact List.Perm.append_right _ List.perm_append_comm
 rw[e.nodup_iff,gQ];exact⟨hd,o,λa I b hb e=>j a I (e▸hb)⟩
theorem jO(p:Nat)(L:ML)(vS:Value):AB p L vS=p::ub ([vS]++L.vals):=by unfold AB;rw[mQ]
theorem BA(o:Chg (λk=>v.ownBlock=some k) w w1)(j:Chg (One p) w1 w2):Chg (λk=>v.ownBlock=some k\/k=p) w w2:=(o.mono λ_ _ e=>.inl e).trans (j.mono λ_ _ e=>.inr e)
theorem new_ne{v':Value}(hb:∀k,v'.ownBlock=some k->v.ownBlock=some k\/w.heap.size<=k)(j:∀k,v.ownBlock=some k->k≠p)(I:p<w.heap.size):∀k,v'.ownBlock=some k->¬One p k:=λk o e=>by
 have e:k=p:=e
 subst e
 rcases hb k o with h|h
 ·exact j k h rfl
 ·omega
theorem MR.put_V{v':Value}{x:Vr}(h:MR w0 w p L vS path s)(ho:Own w1 w0.heap.size IR 3 v' (s.m.vars.length+1) (Dr s.m.vars++Dr [x]))(hc:Chg (λk=>L.vV.ownBlock=some k) w w1)(hn:∀k,v'.ownBlock=some k->L.vV.ownBlock=some k\/w.heap.size<=k)
  (hp:w2.heap[p]?=some (.cells (({L with vV:=v'}:ML).cells s.m.dir++[str path,vS]).toArray Le (0,0)))(hj:Chg (One p) w1 w2):MR w0 w2 p {L with vV:=v'} vS path {s with m:={s.m with vars:=s.m.vars++[x]}}:=by
 have eA:[vS]++L.vals=([vS]++(([L.M.vE,L.M.vB,L.M.vT]++(L.M.cE++L.M.cB))++[]))++L.vV::([L.vL,L.vO,L.vR,L.vC]++(L.cR++L.cC)):=by simp[ML.vals]
 have hi:=h.nd;have hh:=h.in_;rw[jO,eA]at hi hh;have I:=qW hi;have J:=BA hc hj;have hz:=J.size;have ht:∀k,L.vV.ownBlock=some k->k≠p:=λk U e=>(dB.1 hi).1 (by rw[<-e];exact dS (v:=L.vV) (by simp) U);have xb:FO w2 w0.heap.size L.M s.m.fl:=h.md.fo.keep J λk _ _ U=>by
  obtain⟨v,j,U⟩:=bO.1 U;exact I v (bS _ (bF _ (bS _ j))) k U
 have xa:kM (HI w2 w0.heap.size) 9 s.m.res L.cR:=h.md.rr.imp λy e he hy=>hy.at_ J λk U=>by
  obtain⟨v,j,U⟩:=bO.1 U;exact I v (bF _ (by simp[he v j])) k U
 have xd:kM (HH w2 w0.heap.size) 4 s.m.calls L.cC:=h.md.cc.imp λy e he hy=>hy.at_ J λk U=>by
  obtain⟨v,j,U⟩:=bO.1 U;exact I v (bF _ (by simp[he v j])) k U
 refine⟨h.ch.then J λk U e=>?_,hp,⟨xb,by rw[NK,aP];exact dP ho hj (new_ne hn ht h.plt),dP h.md.oL J (I _ (by simp)),dP h.md.oO J (I _ (by simp)),dP h.md.oR J (I _ (by simp)),dP h.md.oC J (I _ (by simp)),xa,xd,λk U=>?_⟩,dP h.oS J (I _ (by simp)),?_,h.lp,?_⟩
 ·rcases e with e|e
  ·have:=(hh k (aE _ (dS (v:=L.vV) (by simp) e))).2;omega
  ·have:=h.lp;omega
 ·obtain⟨v,j,hg⟩:=bO.1 U;have j:v=v'\/v∈([vS]++(([L.M.vE,L.M.vB,L.M.vT]++(L.M.cE++L.M.cB))++[]))++([L.vL,L.vO,L.vR,L.vC]++(L.cR++L.cC)):=by
   simp only[ML.vals,bH,aX,bQ,fF]at j⊢
   try simp only[or_assoc]at j⊢
   grind
  rcases j with rfl|j
  ·rcases hn k hg with e|e
   ·have:=hh k (aE _ (dS (v:=L.vV) (by simp) e));omega
   ·have h1:=kA ho hg;have h2:=hj.size;have h3:=h.ch.size;omega
  ·have:v∈([vS]++(([L.M.vE,L.M.vB,L.M.vT]++(L.M.cE++L.M.cB))++[]))++L.vV::([L.vL,L.vO,L.vR,L.vC]++(L.cR++L.cC)):=by
    rcases bH.1 j with j|j
    ·exact bS _ j
    ·exact bF _ (aE _ j)
   have:=hh k (aE _ (dS this hg));omega
 ·have hx:=zK (v':=v') (z:=w.heap.size) hi hn λk U=>(hh k U).1;rw[jO];have e2:[vS]++({L with vV:=v'}:ML).vals=([vS]++(([L.M.vE,L.M.vB,L.M.vT]++(L.M.cE++L.M.cB))++[]))++v'::([L.vL,L.vO,L.vR,L.vC]++(L.cR++L.cC)):=by simp[ML.vals]
  rw[e2];exact hx
 ·intro k o U;obtain⟨g1,g2⟩:=h.fk k o U;have g3:=mJ g1;rw[jO,eA]at g2;refine⟨J.at g1 λe=>?_,λhm=>?_⟩
  ·rcases e with e|e
   ·exact g2 (aE _ (dS (v:=L.vV) (by simp) e))
   ·exact g2 (by rw[e];exact aW)
  ·rw[jO]at hm;rcases aX.1 hm with e|hm
   ·exact g2 (by rw[e];exact aW)
   obtain⟨v,j,hg⟩:=bO.1 hm;have j:v=v'\/v∈([vS]++(([L.M.vE,L.M.vB,L.M.vT]++(L.M.cE++L.M.cB))++[]))++([L.vL,L.vO,L.vR,L.vC]++(L.cR++L.cC)):=by
    simp only[ML.vals,bH,aX,bQ,fF]at j⊢
    try simp only[or_assoc]at j⊢
    grind
   rcases j with rfl|j
   ·rcases hn k hg with e|e
    ·exact g2 (aE _ (dS (v:=L.vV) (by simp) e))
    ·omega
   ·refine g2 (aE _ (dS ?_ hg));rcases bH.1 j with j|j
    ·exact bS _ j
    ·exact bF _ (aE _ j)
theorem MR.put_L{v':Value}{x:Atr}(h:MR w0 w p L vS path s)(ho:Own w1 w0.heap.size AtT 3 v' (s.m.locs.length+1) (kK s.m.locs++kK [x]))(hc:Chg (λk=>L.vL.ownBlock=some k) w w1)(hn:∀k,v'.ownBlock=some k->L.vL.ownBlock=some k\/w.heap.size<=k)
  (hp:w2.heap[p]?=some (.cells (({L with vL:=v'}:ML).cells s.m.dir++[str path,vS]).toArray Le (0,0)))(hj:Chg (One p) w1 w2):MR w0 w2 p {L with vL:=v'} vS path {s with m:={s.m with locs:=s.m.locs++[x]}}:=by
 have eA:[vS]++L.vals=([vS]++(([L.M.vE,L.M.vB,L.M.vT]++(L.M.cE++L.M.cB))++[L.vV]))++L.vL::([L.vO,L.vR,L.vC]++(L.cR++L.cC)):=by simp[ML.vals]
 have hi:=h.nd;have hh:=h.in_;rw[jO,eA]at hi hh;have I:=qW hi;have J:=BA hc hj;have hz:=J.size;have ht:∀k,L.vL.ownBlock=some k->k≠p:=λk U e=>(dB.1 hi).1 (by rw[<-e];exact dS (v:=L.vL) (by simp) U);have xb:FO w2 w0.heap.size L.M s.m.fl:=h.md.fo.keep J λk _ _ U=>by
  obtain⟨v,j,U⟩:=bO.1 U;exact I v (bS _ (bF _ (bS _ j))) k U
 have xa:kM (HI w2 w0.heap.size) 9 s.m.res L.cR:=h.md.rr.imp λy e he hy=>hy.at_ J λk U=>by
  obtain⟨v,j,U⟩:=bO.1 U;exact I v (bF _ (by simp[he v j])) k U
 have xd:kM (HH w2 w0.heap.size) 4 s.m.calls L.cC:=h.md.cc.imp λy e he hy=>hy.at_ J λk U=>by
  obtain⟨v,j,U⟩:=bO.1 U;exact I v (bF _ (by simp[he v j])) k U
 refine⟨h.ch.then J λk U e=>?_,hp,⟨xb,dP h.md.oV J (I _ (by simp)),by rw[Au,aP];exact dP ho hj (new_ne hn ht h.plt),dP h.md.oO J (I _ (by simp)),dP h.md.oR J (I _ (by simp)),dP h.md.oC J (I _ (by simp)),xa,xd,λk U=>?_⟩,dP h.oS J (I _ (by simp)),?_,h.lp,?_⟩
 ·rcases e with e|e
  ·have:=(hh k (aE _ (dS (v:=L.vL) (by simp) e))).2;omega
  ·have:=h.lp;omega
 ·obtain⟨v,j,hg⟩:=bO.1 U;have j:v=v'\/v∈([vS]++(([L.M.vE,L.M.vB,L.M.vT]++(L.M.cE++L.M.cB))++[L.vV]))++([L.vO,L.vR,L.vC]++(L.cR++L.cC)):=by
   simp only[ML.vals,bH,aX,bQ,fF]at j⊢
   try simp only[or_assoc]at j⊢
   grind
  rcases j with rfl|j
  ·rcases hn k hg with e|e
   ·have:=hh k (aE _ (dS (v:=L.vL) (by simp) e));omega
   ·have h1:=kA ho hg;have h2:=hj.size;have h3:=h.ch.size;omega
  ·have:v∈([vS]++(([L.M.vE,L.M.vB,L.M.vT]++(L.M.cE++L.M.cB))++[L.vV]))++L.vL::([L.vO,L.vR,L.vC]++(L.cR++L.cC)):=by
    rcases bH.1 j with j|j
    ·exact bS _ j
    ·exact bF _ (aE _ j)
   have:=hh k (aE _ (dS this hg));omega
 ·have hx:=zK (v':=v') (z:=w.heap.size) hi hn λk U=>(hh k U).1;rw[jO];have e2:[vS]++({L with vL:=v'}:ML).vals=([vS]++(([L.M.vE,L.M.vB,L.M.vT]++(L.M.cE++L.M.cB))++[L.vV]))++v'::([L.vO,L.vR,L.vC]++(L.cR++L.cC)):=by simp[ML.vals]
  rw[e2];exact hx
 ·intro k o U;obtain⟨g1,g2⟩:=h.fk k o U;have g3:=mJ g1;rw[jO,eA]at g2;refine⟨J.at g1 λe=>?_,λhm=>?_⟩
  ·rcases e with e|e
   ·exact g2 (aE _ (dS (v:=L.vL) (by simp) e))
   ·exact g2 (by rw[e];exact aW)
  ·rw[jO]at hm;rcases aX.1 hm with e|hm
   ·exact g2 (by rw[e];exact aW)
   obtain⟨v,j,hg⟩:=bO.1 hm;have j:v=v'\/v∈([vS]++(([L.M.vE,L.M.vB,L.M.vT]++(L.M.cE++L.M.cB))++[L.vV]))++([L.vO,L.vR,L.vC]++(L.cR++L.cC)):=by
    simp only[ML.vals,bH,aX,bQ,fF]at j⊢
    try simp only[or_assoc]at j⊢
    grind
   rcases j with rfl|j
   ·rcases hn k hg with e|e
    ·exact g2 (aE _ (dS (v:=L.vL) (by simp) e))
    ·omega
   ·refine g2 (aE _ (dS ?_ hg));rcases bH.1 j with j|j
    ·exact bS _ j
    ·exact bF _ (aE _ j)
theorem MR.put_O{v':Value}{x:Atr}(h:MR w0 w p L vS path s)(ho:Own w1 w0.heap.size AtT 3 v' (s.m.outs.length+1) (kK s.m.outs++kK [x]))(hc:Chg (λk=>L.vO.ownBlock=some k) w w1)(hn:∀k,v'.ownBlock=some k->L.vO.ownBlock=some k\/w.heap.size<=k)
  (hp:w2.heap[p]?=some (.cells (({L with vO:=v'}:ML).cells s.m.dir++[str path,vS]).toArray Le (0,0)))(hj:Chg (One p) w1 w2):MR w0 w2 p {L with vO:=v'} vS path {s with m:={s.m with outs:=s.m.outs++[x]}}:=by
 have eA:[vS]++L.vals=([vS]++(([L.M.vE,L.M.vB,L.M.vT]++(L.M.cE++L.M.cB))++[L.vV,L.vL]))++L.vO::([L.vR,L.vC]++(L.cR++L.cC)):=by simp[ML.vals]
 have hi:=h.nd;have hh:=h.in_;rw[jO,eA]at hi hh;have I:=qW hi;have J:=BA hc hj;have hz:=J.size;have ht:∀k,L.vO.ownBlock=some k->k≠p:=λk U e=>(dB.1 hi).1 (by rw[<-e];exact dS (v:=L.vO) (by simp) U);have xb:FO w2 w0.heap.size L.M s.m.fl:=h.md.fo.keep J λk _ _ U=>by
  obtain⟨v,j,U⟩:=bO.1 U;exact I v (bS _ (bF _ (bS _ j))) k U
 have xa:kM (HI w2 w0.heap.size) 9 s.m.res L.cR:=h.md.rr.imp λy e he hy=>hy.at_ J λk U=>by
  obtain⟨v,j,U⟩:=bO.1 U;exact I v (bF _ (by simp[he v j])) k U
 have xd:kM (HH w2 w0.heap.size) 4 s.m.calls L.cC:=h.md.cc.imp λy e he hy=>hy.at_ J λk U=>by
  obtain⟨v,j,U⟩:=bO.1 U;exact I v (bF _ (by simp[he v j])) k U
 refine⟨h.ch.then J λk U e=>?_,hp,⟨xb,dP h.md.oV J (I _ (by simp)),dP h.md.oL J (I _ (by simp)),by rw[Au,aP];exact dP ho hj (new_ne hn ht h.plt),dP h.md.oR J (I _ (by simp)),dP h.md.oC J (I _ (by simp)),xa,xd,λk U=>?_⟩,dP h.oS J (I _ (by simp)),?_,h.lp,?_⟩
 ·rcases e with e|e
  ·have:=(hh k (aE _ (dS (v:=L.vO) (by simp) e))).2;omega
  ·have:=h.lp;omega
 ·obtain⟨v,j,hg⟩:=bO.1 U;have j:v=v'\/v∈([vS]++(([L.M.vE,L.M.vB,L.M.vT]++(L.M.cE++L.M.cB))++[L.vV,L.vL]))++([L.vR,L.vC]++(L.cR++L.cC)):=by
   simp only[ML.vals,bH,aX,bQ,fF]at j⊢
   try simp only[or_assoc]at j⊢
   grind
  rcases j with rfl|j
  ·rcases hn k hg with e|e
   ·have:=hh k (aE _ (dS (v:=L.vO) (by simp) e));omega
   ·have h1:=kA ho hg;have h2:=hj.size;have h3:=h.ch.size;omega
  ·have:v∈([vS]++(([L.M.vE,L.M.vB,L.M.vT]++(L.M.cE++L.M.cB))++[L.vV,L.vL]))++L.vO::([L.vR,L.vC]++(L.cR++L.cC)):=by
    rcases bH.1 j with j|j
    ·exact bS _ j
    ·exact bF _ (aE _ j)
   have:=hh k (aE _ (dS this hg));omega
 ·have hx:=zK (v':=v') (z:=w.heap.size) hi hn λk U=>(hh k U).1;rw[jO];have e2:[vS]++({L with vO:=v'}:ML).vals=([vS]++(([L.M.vE,L.M.vB,L.M.vT]++(L.M.cE++L.M.cB))++[L.vV,L.vL]))++v'::([L.vR,L.vC]++(L.cR++L.cC)):=by simp[ML.vals]
  rw[e2];exact hx
 ·intro k o U;obtain⟨g1,g2⟩:=h.fk k o U;have g3:=mJ g1;rw[jO,eA]at g2;refine⟨J.at g1 λe=>?_,λhm=>?_⟩
  ·rcases e with e|e
   ·exact g2 (aE _ (dS (v:=L.vO) (by simp) e))
   ·exact g2 (by rw[e];exact aW)
  ·rw[jO]at hm;rcases aX.1 hm with e|hm
   ·exact g2 (by rw[e];exact aW)
   obtain⟨v,j,hg⟩:=bO.1 hm;have j:v=v'\/v∈([vS]++(([L.M.vE,L.M.vB,L.M.vT]++(L.M.cE++L.M.cB))++[L.vV,L.vL]))++([L.vR,L.vC]++(L.cR++L.cC)):=by
    simp only[ML.vals,bH,aX,bQ,fF]at j⊢
    try simp only[or_assoc]at j⊢
    grind
   rcases j with rfl|j
   ·rcases hn k hg with e|e
    ·exact g2 (aE _ (dS (v:=L.vO) (by simp) e))
    ·omega
   ·refine g2 (aE _ (dS ?_ hg));rcases bH.1 j with j|j
    ·exact bS _ j
    ·exact bF _ (aE _ j)
theorem MR.put_R{v':Value}{x:Rs}{d:List Value}(h:MR w0 w p L vS path s)(ho:Own w1 w0.heap.size Tk 9 v' (s.m.res.length+1) (L.cR++d))(hc:Chg (λk=>L.vR.ownBlock=some k) w w1)(hn:∀k,v'.ownBlock=some k->L.vR.ownBlock=some k\/w.heap.size<=k)(hx:HI w w0.heap.size x d)(hl:d.length=9)(hd:(ub d).Nodup)(hf:∀k∈ub d,tN w0 w p L vS k)
  (hp:w2.heap[p]?=some (.cells (({L with vR:=v',cR:=L.cR++d}:ML).cells s.m.dir++[str path,vS]).toArray Le (0,0)))(hr:Chg (One p) w1 w2):MR w0 w2 p {L with vR:=v',cR:=L.cR++d} vS path {s with m:={s.m with res:=s.m.res++[x]}}:=by
 have eA:[vS]++L.vals=([vS]++(([L.M.vE,L.M.vB,L.M.vT]++(L.M.cE++L.M.cB))++[L.vV,L.vL,L.vO]))++L.vR::([L.vC]++(L.cR++L.cC)):=by simp[ML.vals]
 have hj:=h.nd;have hh:=h.in_;rw[jO,eA]at hj hh;have I:=qW hj;have hg:=BA hc hr;have hz:=hg.size;have xd:∀k,L.vR.ownBlock=some k->k≠p:=λk U e=>(dB.1 hj).1 (by rw[<-e];exact dS (v:=L.vR) (by simp) U);have xf:FO w2 w0.heap.size L.M s.m.fl:=h.md.fo.keep hg λk _ _ U=>by
  obtain⟨v,j,U⟩:=bO.1 U;exact I v (bS _ (bF _ (bS _ j))) k U
 have xe:kM (HI w2 w0.heap.size) 9 s.m.res L.cR:=h.md.rr.imp λy e he hy=>hy.at_ hg λk U=>by
  obtain⟨v,j,U⟩:=bO.1 U;exact I v (bF _ (by simp[he v j])) k U
 have xh:kM (HH w2 w0.heap.size) 4 s.m.calls L.cC:=h.md.cc.imp λy e he hy=>hy.at_ hg λk U=>by
  obtain⟨v,j,U⟩:=bO.1 U;exact I v (bF _ (by simp[he v j])) k U
 have xc:=hx.at_ hg (λk U e=>by
  have h0:=hf k U;have h1:=h0.2.2.1;rw[jO,eA]at h1;rcases e with e|e
  ·exact h1 (aE _ (dS (v:=L.vR) (by simp) e))
  ·exact h1 (by rw[e];exact aW))
 refine⟨h.ch.then hg λk U e=>?_,hp,⟨xf,dP h.md.oV hg (I _ (by simp)),dP h.md.oL hg (I _ (by simp)),dP h.md.oO hg (I _ (by simp)),by rw[aP];exact dP ho hr (new_ne hn xd h.plt),dP h.md.oC hg (I _ (by simp)),xe.snoc xc hl,xh,λk U=>?_⟩,dP h.oS hg (I _ (by simp)),?_,h.lp,?_⟩
 ·rcases e with e|e
  ·have:=(hh k (aE _ (dS (v:=L.vR) (by simp) e))).2;omega
  ·have:=h.lp;omega
 ·obtain⟨v,j,J⟩:=bO.1 U;have j:v=v'\/v∈([vS]++(([L.M.vE,L.M.vB,L.M.vT]++(L.M.cE++L.M.cB))++[L.vV,L.vL,L.vO]))++([L.vC]++(L.cR++L.cC))\/v∈d:=by
   simp only[ML.vals,bH,aX,bQ,fF]at j⊢
   try simp only[or_assoc]at j⊢
   grind
  rcases j with rfl|j|j
  ·rcases hn k J with e|e
   ·have:=hh k (aE _ (dS (v:=L.vR) (by simp) e));omega
   ·have h1:=kA ho J;have h2:=hr.size;have h3:=h.ch.size;omega
  ·have:v∈([vS]++(([L.M.vE,L.M.vB,L.M.vT]++(L.M.cE++L.M.cB))++[L.vV,L.vL,L.vO]))++L.vR::([L.vC]++(L.cR++L.cC)):=by
    rcases bH.1 j with j|j
    ·exact bS _ j
    ·exact bF _ (aE _ j)
   have:=hh k (aE _ (dS this J));omega
  ·have h0:=hf k (dS j J);exact⟨cV h0.2.1 hz,h0.1⟩
 ·have ht:=zK (v':=v') (z:=w.heap.size) hj hn λk U=>(hh k U).1;rw[jO];have e1:([vS]++(([L.M.vE,L.M.vB,L.M.vT]++(L.M.cE++L.M.cB))++[L.vV,L.vL,L.vO]))++v'::([L.vC]++(L.cR++L.cC))=(([vS]++(([L.M.vE,L.M.vB,L.M.vT]++(L.M.cE++L.M.cB))++[L.vV,L.vL,L.vO]))++v'::([L.vC]++L.cR))++(L.cC):=by simp
  have e2:[vS]++({L with vR:=v',cR:=L.cR++d}:ML).vals=(([vS]++(([L.M.vE,L.M.vB,L.M.vT]++(L.M.cE++L.M.cB))++[L.vV,L.vL,L.vO]))++v'::([L.vC]++L.cR))++(d++(L.cC)):=by simp[ML.vals]
  rw[e1]at ht;rw[e2];refine Lx ht hd λk U hm=>?_;have h0:=hf k U;have h1:=h0.2.2.1;rw[jO,eA]at h1;rw[<-e1]at hm;rcases aX.1 hm with rfl|hm
  ·exact h1 aW
  ·obtain⟨v,j,J⟩:=bO.1 hm;rcases bH.1 j with j|j
   ·exact h1 (aE _ (dS (bS _ j) J))
   ·rcases aX.1 j with rfl|j
    ·rcases hn k J with e|e
     ·exact h1 (aE _ (dS (v:=L.vR) (by simp) e))
     ·have:=h0.2.1;omega
    ·exact h1 (aE _ (dS (bF _ (aE _ j)) J))
 ·intro k o U;obtain⟨g1,g2⟩:=h.fk k o U;have g3:=mJ g1;rw[jO,eA]at g2;refine⟨hg.at g1 λe=>?_,λhm=>?_⟩
  ·rcases e with e|e
   ·exact g2 (aE _ (dS (v:=L.vR) (by simp) e))
   ·exact g2 (by rw[e];exact aW)
  ·rw[jO]at hm;rcases aX.1 hm with e|hm
   ·exact g2 (by rw[e];exact aW)
   obtain⟨v,j,J⟩:=bO.1 hm;have j:v=v'\/v∈([vS]++(([L.M.vE,L.M.vB,L.M.vT]++(L.M.cE++L.M.cB))++[L.vV,L.vL,L.vO]))++([L.vC]++(L.cR++L.cC))\/v∈d:=by
    simp only[ML.vals,bH,aX,bQ,fF]at j⊢
    try simp only[or_assoc]at j⊢
    grind
   rcases j with rfl|j|j
   ·rcases hn k J with e|e
    ·exact g2 (aE _ (dS (v:=L.vR) (by simp) e))
    ·omega
   ·refine g2 (aE _ (dS ?_ J));rcases bH.1 j with j|j
    ·exact bS _ j
    ·exact bF _ (aE _ j)
   ·exact(hf k (dS j J)).2.2.2 o U
theorem MR.base(h:MR w0 w p L vS path s):w0.heap.size<=w.heap.size:=h.ch.size
theorem MR.val_ne(h:MR w0 w p L vS path s)(o:v∈[vS]++L.vals):∀k,v.ownBlock=some k->k≠p:=λk I e=>by
 have j:=h.nd
 rw[jO]at j
 exact(dB.1 j).1 (by rw[<-e];exact dS o I)
theorem MR.app_V{x:Vr}{t:Value}{KV:Q0}(h:MR w0 w p L vS path s)(I:gD w IR t 1 (Dr [x]))(o:s.m.vars.length<=100000000000)
  (J:∀v' w1,Own w1 w0.heap.size IR 3 v' (s.m.vars.length+1) (Dr s.m.vars++Dr [x])->Chg (λk=>L.vV.ownBlock=some k) w w1->(∀k,v'.ownBlock=some k->L.vV.ownBlock=some k\/w.heap.size<=k)->KV v' w1):fH P0 (Builtin.append_ #[63,63] 63 #[L.vV,t]) w KV:=by
 refine iL XG h.md.oV I (by rfl) (λu j=>by simp only[Dr,kK,strs,fC,jQ,fY,Ax,eZ,aX,bQ,fF]at j;rcases j with rfl|rfl|rfl<;>rfl) (by omega) (by omega) h.base J
theorem MR.st_V{v':Value}{x:Vr}{KW:World->Prop}(h:MR w0 w p L vS path s)(U:Own w1 w0.heap.size IR 3 v' (s.m.vars.length+1) (Dr s.m.vars++Dr [x]))(hc:Chg (λk=>L.vV.ownBlock=some k) w w1)(hn:∀k,v'.ownBlock=some k->L.vV.ownBlock=some k\/w.heap.size<=k)
  (hK:∀w2,MR w0 w2 p {L with vV:=v'} vS path {s with m:={s.m with vars:=s.m.vars++[x]}}->Chg (One p) w1 w2->w2.heap.size=w1.heap.size->KW w2):stW 1 (.pointer (some ⟨p,4,none⟩)) v' w1 KW:=by
 have I:=hc.at h.pm (λe=>h.val_ne (v:=L.vV) (by simp[ML.vals]) p e rfl);refine jZ I (gE U.sl) (by simp[ML.cells]) λw2 o J j=>hK w2 (h.put_V U hc hn (by rw[J];simp[ML.cells]) j) j o
theorem MR.app_L{x:Atr}{t:Value}{KV:Q0}(h:MR w0 w p L vS path s)(I:gD w AtT t 1 (kK [x]))(o:s.m.locs.length<=100000000000)
  (J:∀v' w1,Own w1 w0.heap.size AtT 3 v' (s.m.locs.length+1) (kK s.m.locs++kK [x])->Chg (λk=>L.vL.ownBlock=some k) w w1->(∀k,v'.ownBlock=some k->L.vL.ownBlock=some k\/w.heap.size<=k)->KV v' w1):fH P0 (Builtin.append_ #[36,36] 36 #[L.vL,t]) w KV:=by
 refine iL Hf h.md.oL I (by rfl) (λu j=>by simp only[Dr,kK,strs,fC,jQ,fY,Ax,eZ,aX,bQ,fF]at j;rcases j with rfl|rfl|rfl<;>rfl) (by omega) (by omega) h.base J
theorem MR.st_L{v':Value}{x:Atr}{KW:World->Prop}(h:MR w0 w p L vS path s)(U:Own w1 w0.heap.size AtT 3 v' (s.m.locs.length+1) (kK s.m.locs++kK [x]))(hc:Chg (λk=>L.vL.ownBlock=some k) w w1)(hn:∀k,v'.ownBlock=some k->L.vL.ownBlock=some k\/w.heap.size<=k)
  (hK:∀w2,MR w0 w2 p {L with vL:=v'} vS path {s with m:={s.m with locs:=s.m.locs++[x]}}->Chg (One p) w1 w2->w2.heap.size=w1.heap.size->KW w2):stW 1 (.pointer (some ⟨p,5,none⟩)) v' w1 KW:=by
 have I:=hc.at h.pm (λe=>h.val_ne (v:=L.vL) (by simp[ML.vals]) p e rfl);refine jZ I (gE U.sl) (by simp[ML.cells]) λw2 o J j=>hK w2 (h.put_L U hc hn (by rw[J];simp[ML.cells]) j) j o
theorem MR.app_O{x:Atr}{t:Value}{KV:Q0}(h:MR w0 w p L vS path s)(I:gD w AtT t 1 (kK [x]))(o:s.m.outs.length<=100000000000)
  (J:∀v' w1,Own w1 w0.heap.size AtT 3 v' (s.m.outs.length+1) (kK s.m.outs++kK [x])->Chg (λk=>L.vO.ownBlock=some k) w w1->(∀k,v'.ownBlock=some k->L.vO.ownBlock=some k\/w.heap.size<=k)->KV v' w1):fH P0 (Builtin.append_ #[36,36] 36 #[L.vO,t]) w KV:=by
 refine iL Hf h.md.oO I (by rfl) (λu j=>by simp only[Dr,kK,strs,fC,jQ,fY,Ax,eZ,aX,bQ,fF]at j;rcases j with rfl|rfl|rfl<;>rfl) (by omega) (by omega) h.base J
theorem MR.st_O{v':Value}{x:Atr}{KW:World->Prop}(h:MR w0 w p L vS path s)(U:Own w1 w0.heap.size AtT 3 v' (s.m.outs.length+1) (kK s.m.outs++kK [x]))(hc:Chg (λk=>L.vO.ownBlock=some k) w w1)(hn:∀k,v'.ownBlock=some k->L.vO.ownBlock=some k\/w.heap.size<=k)
  (hK:∀w2,MR w0 w2 p {L with vO:=v'} vS path {s with m:={s.m with outs:=s.m.outs++[x]}}->Chg (One p) w1 w2->w2.heap.size=w1.heap.size->KW w2):stW 1 (.pointer (some ⟨p,6,none⟩)) v' w1 KW:=by
 have I:=hc.at h.pm (λe=>h.val_ne (v:=L.vO) (by simp[ML.vals]) p e rfl);refine jZ I (gE U.sl) (by simp[ML.cells]) λw2 o J j=>hK w2 (h.put_O U hc hn (by rw[J];simp[ML.cells]) j) j o
theorem MR.app_R{x:Rs}{d:List Value}{t:Value}{KV:Q0}(h:MR w0 w p L vS path s)(o:gD w Tk t 1 (d))(hl:d.length=9)(J:∀u∈d,jD u=true)(j:s.m.res.length<=100000000000)
  (I:∀v' w1,Own w1 w0.heap.size Tk 9 v' (s.m.res.length+1) (L.cR++d)->Chg (λk=>L.vR.ownBlock=some k) w w1->(∀k,v'.ownBlock=some k->L.vR.ownBlock=some k\/w.heap.size<=k)->KV v' w1):fH P0 (Builtin.append_ #[64,64] 64 #[L.vR,t]) w KV:=by
 refine iL XH h.md.oR o (by rw[hl]) J (by omega) (by omega) h.base I
theorem MR.st_R{v':Value}{x:Rs}{d:List Value}{KW:World->Prop}(h:MR w0 w p L vS path s)(U:Own w1 w0.heap.size Tk 9 v' (s.m.res.length+1) (L.cR++d))(hc:Chg (λk=>L.vR.ownBlock=some k) w w1)(hn:∀k,v'.ownBlock=some k->L.vR.ownBlock=some k\/w.heap.size<=k)(hx:HI w w0.heap.size x d)(hl:d.length=9)(hd:(ub d).Nodup)(hf:∀k∈ub d,tN w0 w p L vS k)
  (hK:∀w2,MR w0 w2 p {L with vR:=v',cR:=L.cR++d} vS path {s with m:={s.m with res:=s.m.res++[x]}}->Chg (One p) w1 w2->w2.heap.size=w1.heap.size->KW w2):stW 1 (.pointer (some ⟨p,7,none⟩)) v' w1 KW:=by
 have I:=hc.at h.pm (λe=>h.val_ne (v:=L.vR) (by simp[ML.vals]) p e rfl);refine jZ I (gE U.sl) (by simp[ML.cells]) λw2 o J j=>hK w2 (h.put_R U hc hn hx hl hd hf (by rw[J];simp[ML.cells]) j) j o
theorem MR.app_C{x:Cl}{d:List Value}{t:Value}{KV:Q0}(h:MR w0 w p L vS path s)(o:gD w Tq t 1 (d))(hl:d.length=4)(J:∀u∈d,jD u=true)(j:s.m.calls.length<=100000000000)
  (I:∀v' w1,Own w1 w0.heap.size Tq 4 v' (s.m.calls.length+1) (L.cC++d)->Chg (λk=>L.vC.ownBlock=some k) w w1->(∀k,v'.ownBlock=some k->L.vC.ownBlock=some k\/w.heap.size<=k)->KV v' w1):fH P0 (Builtin.append_ #[65,65] 65 #[L.vC,t]) w KV:=by
 refine iL XK h.md.oC o (by rw[hl]) J (by omega) (by omega) h.base I
end
end
section
open Go Go.Eng Go.Num
variable{w:World}{K:Q0}{cs:List Value}{G:Nat->Prop}{T:TypeId}{i:Nat}{n:Nat}{v:Value}{w':World}{P:Program}{c:UInt8}{S:Nat->Prop}
section
variable [HX]
def Hb{α:Type}(p:α->Bool)(xs:List α):Int:=match xs.findIdx? p with|some i=>i|none=>-1
theorem Ah{α:Type}(p:α->Bool)(xs:List α):decide ((0:Int)<=Hb p xs)=xs.any p:=by
 unfold Hb;cases h:xs.findIdx? p with
 |none=>
  have:=List.findIdx?_eq_none_iff.1 h;have:xs.any p=false:=yG.2 λx j=>by simp[this x j]
  rw[this];decide
 |some i=>
  obtain⟨hi,o,_⟩:=List.findIdx?_eq_some_iff_getElem.1 h;rw[mA.2 ⟨_,Aw hi,o⟩];exact bK (by simp)
theorem Ha{α:Type}{p:α->Bool}{xs:List α}{x:α}(h:(xs.take i).any p=false)(hi:xs[i]?=some x)(o:p x=true):xs.findIdx? p=some i:=by
 obtain⟨hl,e⟩:=List.getElem?_eq_some_iff.1 hi;rw[List.findIdx?_eq_some_iff_getElem];refine⟨hl,by rw[e];exact o,λj I=>?_⟩;have:=yG.1 h xs[j] (bI (i:=j) (by rw[List.getElem?_take,aO I];exact List.getElem?_eq_getElem _));simpa using this
end
end
end Go.Proofs.YtjblfcfdeaagpaaGreatDoor
