/- One plain sentence: weakest preconditions, contracts and plain laws that the claim rests on, text behind text. Conditions: those that each states. -/
import Derived.Test.YtghhmpppnmoeoaaGreatDoorXLazy3
import Derived.Test.YtghhmpppnmoeoaaGreatDoorXLazy1
import Derived.Test.YtghhmpppnmoeoaaGreatDoorXLazy2
set_option linter.all false
set_option linter.unusedSimpArgs false
set_option linter.unusedVariables false
set_option linter.unusedSectionVars false
set_option maxRecDepth 100000
namespace Go.Proofs.YtghhmpppnmoeoaaGreatDoor
section
open Go Go.Eng Go.RowKit Go.Syn Go.Lex
variable{w:World}{K:Q0}{cs:List Value}{G:Nat->Prop}{T:TypeId}{i:Nat}{n:Nat}{v:Value}{w':World}{P:Program}{c:UInt8}{S:Nat->Prop}
abbrev DT:TypeId:=33
def dB(t:Tok):List Value:=[i64 t.k,str t.t,i64 t.a]
def vY(w:World)(p:Nat):Nat:=match w.heap[p]? with|some (.cells c _ _)=>(match(c[1]?:Option Value)with|some (Value.int _ i)=>i.toNat|_=>0)|_=>0
theorem PR.at_{w0:World}{p f:Nat}{M:Lay}{vt:Value}{s:PS}{top:List Nat}(h:PR w0 w p f M vt s top):vY w p=s.i:=by
 unfold vY;rw[h.ps];simp
theorem JI{N:Int}{s:PS}(h:WS N s)(hN:s.toks.length<=100000):s.i<=1000000:=by have:=h.lt;omega
section
variable [HX]
def Ie(w0:World)(f:Nat)(code at_:Int):Prop:=
 ∀(d:Nat) (w':World) (cs:List Value),aS (Of f) w0 w'->w0.heap.size<=d->cs.length=3->w'.heap[f]?=some (.cells cs.toArray VP (0,0))->w'.heap[d]?=some (.cells [i64 code,str [],i64 at_].toArray 53 (0,0))->HX.X [{v:=.iface DT (.pointer (some ⟨d,0,none⟩)),recovered:=false}] w'
section
variable{w0 w:World}{p f:Nat}{M:Lay}{vt:Value}{s:PS}{top:List Nat}{N:Int}{K:Q0}
theorem lY{e a:Int}(h:PR w0 w p f M vt s top)(ht:Ie w0 f e a):aA P0 31 [i64 e,i64 a] w K:=by
 refine aAv ?_;unfold W31;simp only[bN,cG,bI,List.length_cons,List.length_nil,List.set_cons_zero,List.set_cons_succ];refine⟨by omega,by omega,?_⟩;refine dF (z:=[i64 e,str [],i64 a]) λd w' hd hz hb hx=>?_;have h':=h.ext hx;exact ht d w' _ h'.ch (by have:=h.base;omega) (by rfl) h'.fr.hf hb
theorem pO:∀{l:List Tok} {i:Nat} {t:Tok},l[i]?=some t->eC (l.drop i)=if t.k=5 then eC (l.drop (i+1))+1 else 0:=by
 intro l i t h;have hlt:=(List.getElem?_eq_some_iff.1 h).1;rw[List.drop_eq_getElem_cons hlt,(List.getElem?_eq_some_iff.1 h).2];rfl
theorem jM(h:PR w0 w p f M vt s top)(hs:WS N s)(hN:N<=1000000)(hl:s.toks.length<=100000)(hK:∀w',PR w0 w' p f M vt (aG s) top->Eff p f M M w w'->K (.agg (dB (bO s)).toArray) w'):
  aA P0 29 [.pointer (some ⟨p,0,none⟩)] w K:=by
 refine aAx ?_;unfold W29;refine aI λb w1 hb hz1 hbb hx1=>?_;have hp:=h.lt;have h1:=h.ext hx1;have L1:=h.loc hz1 hb hbb;refine bL.go (λst w'=>st=[]/\∃j,PR w0 w' p f M vt {s with i:=j} top/\s.i<=j/\aG {s with i:=j}=aG s/\j<=(aG s).i/\Eff p f M M w w'/\Loc w0 w' p f M vt b qG [i64 0,str [],i64 0]) (λ_ w'=>s.toks.length-vY w' p)
  ⟨rfl,s.i,h1,Nat.le_refl _,rfl,GF s,Eff.ext hx1,L1⟩ ?_
 rintro st g w2 ⟨rfl,j,h2,hj,hnow,hjn,he2,L2⟩;have hg:=dN hs;have hjl:j<s.toks.length:=by have:=(hg.ws hs).lt;rw[hg.toks]at this;omega
 have hws:WS N {s with i:=j}:=⟨hs.tg,hjl,hs.pN⟩;obtain⟨t,ht⟩:∃t,s.toks[j]?=some t:=⟨_,List.getElem?_eq_getElem hjl⟩;have h3:=h2.drew;have sl:SlAt w2.drew qG vt s.toks.length (toks s.toks):=h3.tk;have stop:aG {s with i:=j}={s with i:=j}->bW (.pointer (some ⟨p,0,none⟩)) (λt30=>aF 0 t30 λt31=>aE false 1 t31 w2.drew.drew λt32=>bW (.pointer (some ⟨p,0,none⟩)) λt34=>aF 1 t34 λt35=>aE false 1 t35 w2.drew.drew λt36=>bU none 3 t32 t36 λt37=>aE true 3 t37 w2.drew.drew λt38=>aN qG [(.int .i64 0),(.string (aL [])),(.int .i64 0)] w2.drew.drew λt3 w17=>(aE true 3 t37 w17 λx=>x=t38)/\(aE false 1 t35 w17 λx=>x=t36)/\(aE false 1 t31 w17 λx=>x=t32)/\bF 3 t3 t38 w17 λw18=>aF 2 t3 λt39=>aE false 1 t39 w18.drew λt40=>bW (.pointer (some ⟨p,0,none⟩)) λt42=>aF 2 t42 λt43=>aE false 1 t43 w18.drew λt44=>aC .add t40 t44 λt45=>aF 2 t3 λt46=>bF 1 t46 t45 w18.drew λw19=>aE true 3 t3 w19 λt47=>bF 3 (.pointer (some ⟨b,0,none⟩)) t47 w19 λw20=>aE true 3 (.pointer (some ⟨b,0,none⟩)) w20 λr21=>K r21 w20):=λhn=>by
  have h4:=h3.drew;have ecur:bO s={t with a:=t.a+s.off}:=by
   unfold bO;rw[<-hnow,hn];have:iH {s with i:=j}=t:=by unfold iH;rw[List.getD_eq_getElem?_getD,ht];rfl
   rw[this]
  have hpos:=hws.tg.pos j t ht;simp only at hpos;have ldT:∀{w':World},PR w0 w' p f M vt {s with i:=j} top->aE false 1 (.pointer (some ((⟨p,0,none⟩:Addr).add 0))) w' λx=>x=vt:=λh=>by
   rw[bY];exact⟨vt,by rw[aV,aX,h.ps,aZ];rfl,rfl⟩
  have ldI:∀{w':World},PR w0 w' p f M vt {s with i:=j} top->aE false 1 (.pointer (some ((⟨p,0,none⟩:Addr).add 1))) w' λx=>x=i64 (j:Nat):=λh=>by
   rw[bY];exact⟨_,by rw[aV,aX,h.ps,aZ];rfl,rfl⟩
  refine h4.ld rfl ?_;refine h4.ld rfl ?_;refine mR (size:=3) h4.tk (AH _) (by omega) hjl λtb o c fr htb hc=>?_;have hcell:∀i,i<3->c[o+i]?=(dB t)[i]?:=λi hi=>by rw[hc i hi];exact FP ht hi
  have three:∀{w':World},w'.heap[tb]?=some (.cells c qG fr)->fU w' ⟨tb,o,none⟩ 0 3=some (dB t):=λh=>by
   have h0:=hcell 0 (by omega);have h1:=hcell 1 (by omega);have h2:=hcell 2 (by omega);simp only[dB,Nat.add_zero,List.getElem?_cons_zero,List.getElem?_cons_succ]at h0 h1 h2;simp only[fU,aV,aX,h,aZ,Nat.add_zero,h0,h1,h2,Option.map_some,Nat.reduceAdd];rfl
  rw[Bp];refine⟨dB t,three htb,?_⟩;refine aI λb2 w5 hb2 hz5 hbb5 hx5=>?_;have h5:=h4.ext hx5;have L5:=h4.loc hz5 hb2 hbb5;have htb5:=hx5.at htb id;refine⟨by rw[Bp];exact⟨_,three htb5,rfl⟩,ldI h5,ldT h5,?_⟩;refine aY (l:=dB t) L5.1 rfl rfl rfl λw6 hz6 hb6 hc6=>?_;have L6:Loc w0 w6 p f M vt b2 qG (dB t):=⟨hb6,L5.2.up (by omega)⟩;have h6:=h5.one hc6 L5.2;refine L6.drew.ldf rfl ?_;refine h6.drew.ld (v:=i64 s.off) rfl ?_;rw[aW,bD (by omega) (by omega),aO,aV,Nat.zero_add];refine L6.drew.st rfl (by simp[dB]) λw7 L7 hc7 hz7=>?_;have h7:=h6.drew.one hc7 L6.drew.2;refine aU (l:=dB (bO s)) (by rw[L7.1,ecur];rfl) rfl ?_;have hbb2:b2≠b:=by have:=L2.lt;have:w2.drew.drew.heap.size=w2.heap.size:=rfl;omega
  have L2':=(((L2.drew.drew.ext hx5).one hc6 (Ne.symm hbb2)).drew.one hc7 (Ne.symm hbb2));refine eS (l:=dB (bO s)) L2'.1 rfl rfl rfl λw8 hc8=>?_;have h8:=h7.one hc8 L2'.2;refine hK w8 (by rw[<-hnow,hn];exact h8) ?_;have hz2:=he2.chg.size;have z1:w2.drew.drew.heap.size=w2.heap.size:=rfl;exact((((((he2.x (bM _)).x (bM _)).x hx5).one hc6 (by omega)).x (bM _)).one hc7 (by omega)).one hc8 (by omega)
 by_cases hq:s.quiet=true
 ·refine h3.ld (v:=.bool true) (by simp[hq]) ?_;simp only[eH,PK];refine⟨_,rfl,_,rfl,_,rfl,vt,by rw[bY];exact⟨vt,by rw[aV,aX,h3.ps,aZ];rfl,rfl⟩,_,rfl,_,rfl,_,rfl,i64 (j:Nat),by rw[bY];exact⟨_,by rw[aV,aX,h3.ps,aZ];rfl,rfl⟩,?_⟩;obtain⟨q,cap,hv,g1,g2,g3⟩:=sl;have hne:toks s.toks≠[]:=λe=>by have:=congrArg List.length e;rw[AH,List.length_nil]at this;omega
  obtain⟨tb,o,c,fr,rfl,htb,hcs⟩:=g3 hne;have hlen:(toks s.toks).length=s.toks.length*3:=AH _;refine⟨.pointer (some ((⟨tb,o,none⟩:Addr).add (j*3))),?_,.pointer (some (((⟨tb,o,none⟩:Addr).add (j*3)).add 0)),rfl,i64 t.k,?_,.bool (decide (t.k=5)),by rw[aM],?_⟩
  ·rw[hv,lU];exact⟨by omega,by omega,by rw[Int.toNat_natCast]⟩
  ·rw[bY];refine⟨_,?_,rfl⟩;rw[aV,aV,aX,htb,aZ,Nat.add_zero,hcs _ (by omega)];have:=FP (j:=0) ht (by omega);rw[Nat.add_zero]at this;exact this
  rw[iS,aB];refine⟨λhk=>?_,λhk=>stop ?_⟩
  ·have hrun:aG {s with i:=j+1}=aG s:=by
    rw[<-hnow];unfold aG;simp only[hq,if_true];have e:=pO ht;rw[if_pos hk]at e;rw[e];congr 1;omega
   refine h3.go (JI hws hl) λw4 h4 he4 hz4=>?_;refine⟨⟨trivial,j+1,h4,by omega,hrun,?_,(he2.x (bM _)).trans he4,L2.drew.eff he4⟩,?_⟩
   ·rw[<-hrun];exact GF {s with i:=j+1}
   ·rw[h4.at_,h2.at_];simp only[step1];omega
  ·have e:=pO ht;rw[if_neg hk]at e;unfold aG;simp only[hq,if_true,e,Nat.add_zero]
 ·have hq:s.quiet=false:=by simpa using hq
  refine h3.ld (v:=.bool false) (by simp[hq]) ?_;simp only[eH,Wy];rw[oD,bJ];exact stop (by unfold aG;simp only[hq];rfl)
end
end
theorem uI{xs:List Value}(h:SlAt w T v n xs)(hc:aS S w w')(hS:∀k,v.ownBlock=some k->¬S k):SlAt w' T v n xs:=by
 obtain⟨q,cap,hv,h1,h2,h3⟩:=h;refine⟨q,cap,hv,h1,h2,λhne=>?_⟩;obtain⟨b,off,c,fr,hq,hb,hcs⟩:=h3 hne;exact⟨b,off,c,fr,hq,hc.at hb (hS b (by rw[hv,hq];rfl)),hcs⟩
def aDR(w0 w:World)(p f:Nat)(M:Lay)(vt:Value)(v:Value)(T:TypeId)(n:Nat)(cs:List Value):Prop:=SlAt w T v n cs/\∀k,v.ownBlock=some k->Off w0 w p f M vt k
theorem Ai(h:i<=4611686018427387904):IntKind.i64.wrap ((i:Int)+1)=((i+1:Nat):Int):=by rw[bD (by omega) (by omega)];rfl
def mY:List aH->aH->Nat->Int
 |[],_,_=>-1
 |a::r,x,i=>if x=a then(i:Nat)else mY r x (i+1)
theorem FY(x:aH):∀(l:List aH) (i:Nat),(0<=mY l x i↔x∈l)
 |[],i=>by simp[mY]
 |a::r,i=>by
  simp only[mY]
  split
  ·rename_i h
   simp[h]
  ·rename_i h
   rw[FY x r (i+1)]
   simp[h]
theorem sI{x:aH}{K:Q0}(hK:∀b w',b=w.heap.size->w'.heap.size=w.heap.size+1->w'.heap[b]?=some (.cells [str x].toArray Ah (0,0))->bA w w'->K (.slice (some ⟨b,0,none⟩) 1 1) w'):bR Ah 1 [(.string (aL []))] [(0,1,str x)] w K:=by
 rw[bR];simp only[cG,bI,List.length_cons,List.length_nil,List.set_cons_zero];refine⟨by omega,?_⟩;exact row_new λa w' ha hz hb hx _=>hK a w' ha hz hb hx
theorem fR{x:Int}{K:Q0}(hK:∀b w',b=w.heap.size->w'.heap.size=w.heap.size+1->w'.heap[b]?=some (.cells [i64 x].toArray eX (0,0))->bA w w'->K (.slice (some ⟨b,0,none⟩) 1 1) w'):bR eX 1 [(.int .i64 0)] [(0,1,i64 x)] w K:=by
 rw[bR];simp only[bN,bI,List.length_cons,List.length_nil,List.set_cons_zero];refine⟨by omega,?_⟩;exact row_new λa w' ha hz hb hx _=>hK a w' ha hz hb hx
theorem HI{x y:Int}{K:Q0}(hK:∀b w',b=w.heap.size->w'.heap.size=w.heap.size+1->w'.heap[b]?=some (.cells [i64 x,i64 y].toArray eX (0,0))->bA w w'->K (.slice (some ⟨b,0,none⟩) 2 2) w'):bR eX 2 [(.int .i64 0),(.int .i64 0)] [(0,1,i64 x),(1,1,i64 y)] w K:=by
 rw[bR];simp only[bN,bI,List.length_cons,List.length_nil,List.set_cons_zero,List.set_cons_succ];refine⟨by omega,by omega,?_⟩;exact row_new λa w' ha hz hb hx _=>hK a w' ha hz hb hx
theorem Pp{x y z:Int}{K:Q0}(hK:∀b w',b=w.heap.size->w'.heap.size=w.heap.size+1->w'.heap[b]?=some (.cells [i64 x,i64 y,i64 z].toArray eX (0,0))->bA w w'->K (.slice (some ⟨b,0,none⟩) 3 3) w'):bR eX 3 [(.int .i64 0),(.int .i64 0),(.int .i64 0)] [(0,1,i64 x),(1,1,i64 y),(2,1,i64 z)] w K:=by
 rw[bR];simp only[bN,bI,List.length_cons,List.length_nil,List.set_cons_zero,List.set_cons_succ];refine⟨by omega,by omega,by omega,?_⟩;exact row_new λa w' ha hz hb hx _=>hK a w' ha hz hb hx
theorem xQ{z d:List Value}{K:Q0}(hd:d.length=n)(hz0:z.length=n)(hK:∀b w',b=w.heap.size->w'.heap.size=w.heap.size+1->w'.heap[b]?=some (.cells d.toArray T (0,0))->bA w w'->K (.slice (some ⟨b,0,none⟩) 1 1) w'):bR T 1 z [(0,n,.agg d.toArray)] w K:=by
 rw[bR];simp only[bQ,Value.cells];refine⟨by simpa using hd,by omega,?_⟩;have e:(z.take 0++(d++z.drop (0+n)))=d:=by rw[List.take_zero,List.nil_append,Nat.zero_add,<-hz0,List.drop_length,List.append_nil]
 rw[e];exact row_new λa w' ha hz hb hx _=>hK a w' ha hz hb hx
theorem wW{b:Nat}(h:w.heap[b]?=some (.cells cs.toArray T (0,0)))(hn:cs.length=n):SlAt w T (.slice (some ⟨b,0,none⟩) n n) n cs:=
 ⟨_,_,rfl,Nat.le_refl _,λe=>(by cases e),λ_=>⟨b,0,cs.toArray,_,rfl,h,λi _=>by simp⟩⟩
theorem NG{B b m:Nat}(h:w.heap[b]?=some (.cells cs.toArray T (0,0)))(hB:B<=b)(hn:cs.length=n*m)(hm:n<=1000000):Own w B T m (.slice (some ⟨b,0,none⟩) n n) n cs:=
 ⟨hn,.inr ⟨b,n,cs.toArray,rfl,hB,h,Nat.le_refl _,by unfold maxLen;omega,by simpa using hn,by simp[<-hn]⟩⟩
theorem EF{f:Nat}{a a' b d:List Nat}(h:(f::(a++b)).Nodup)(hlt:∀k∈f::(a++b),k<n)(ha':a'.Nodup)(hn:∀k∈a',k∈a\/n<=k)(hd:d.Nodup)(hdd:∀k∈d,k<n/\k∉f::(a++b)):(f::(a'++(d++b))).Nodup:=by
 rw[List.nodup_cons,List.nodup_append]at h;obtain⟨hf,_,hb,hab⟩:=h;have new:∀k∈a',k∉b/\k≠f/\k∉d:=λk hk=>by
  rcases hn k hk with hk|hk
  ·exact⟨λe=>hab k hk k e rfl,λe=>hf (e▸List.mem_append_left _ hk),λe=>(hdd k e).2 (List.mem_cons_of_mem _ (List.mem_append_left _ hk))⟩
  ·exact⟨λe=>by have:=hlt k (List.mem_cons_of_mem _ (List.mem_append_right _ e));omega,λe=>by have:=hlt k (by rw[e];exact List.mem_cons_self);omega,λe=>by have:=(hdd k e).1;omega⟩
 rw[List.nodup_cons];refine⟨λe=>?_,?_⟩
 ·rcases List.mem_append.1 e with e|e
  ·exact(new f e).2.1 rfl
  rcases List.mem_append.1 e with e|e
  ·exact(hdd f e).2 List.mem_cons_self
  ·exact hf (List.mem_append_right _ e)
 ·refine List.nodup_append.2 ⟨ha',List.nodup_append.2 ⟨hd,hb,λx hx y hy e=>?_⟩,λx hx y hy e=>?_⟩
  ·subst e;exact(hdd x hx).2 (List.mem_cons_of_mem _ (List.mem_append_right _ hy))
  ·subst e;rcases List.mem_append.1 hy with hy|hy
   ·exact(new x hx).2.2 hy
   ·exact(new x hx).1 hy
theorem rR(v:Value)(c:List Value):ub (v::c)=ub [v]++ub c:=by
 rw[<-pX];rfl
theorem iE(v:Value):(ub [v]).Nodup:=by
 unfold ub;cases h:v.ownBlock with
 |none=>simp[h]
 |some k=>simp[h]
theorem Ik(M:Lay)(f:Nat):M.uses f=f::(ub [M.vE]++ub ([M.vB,M.vT]++(M.cE++M.cB))):=by
 unfold Lay.uses;rw[List.cons_append,rR]
theorem Qa(M:Lay)(f:Nat)(v:Value)(d:List Value):(({M with vE:=v,cE:=M.cE++d}:Lay).uses f).Perm (f::(ub [v]++(ub d++ub ([M.vB,M.vT]++(M.cE++M.cB))))):=by
 rw[List.perm_iff_count];intro a;rw[Ik];simp only[pX,List.count_append,List.count_cons];omega
theorem Il(M:Lay)(f:Nat):(M.uses f).Perm (f::(ub [M.vB]++ub ([M.vE,M.vT]++(M.cE++M.cB)))):=by
 rw[List.perm_iff_count];intro a;unfold Lay.uses;simp only[pX,List.count_append,List.count_cons];rw[rR M.vE,rR M.vB,rR M.vE [M.vT]];simp only[List.count_append];omega
theorem Qb(M:Lay)(f:Nat)(v:Value)(d:List Value):(({M with vB:=v,cB:=M.cB++d}:Lay).uses f).Perm (f::(ub [v]++(ub d++ub ([M.vE,M.vT]++(M.cE++M.cB))))):=by
 rw[List.perm_iff_count];intro a;rw[(Il _ f).count_eq];simp only[pX,List.count_append,List.count_cons];omega
section
variable{w0 w w1 w2:World}{p f:Nat}{M:Lay}{vt:Value}{s:PS}{top:List Nat}
theorem PR.putE(h:PR w0 w p f M vt s top){wb:World}{M0:Lay}(he:Eff p f M0 M wb w){e:Ex}{d:List Value}{v':Value}(hd:PO w w0.heap.size e d)(hu:∀k∈ub d,Off w0 w p f M vt k)(hn:(ub d).Nodup)(hnew:∀k∈ub d,wb.heap.size<=k)
  (hO:Own w1 w0.heap.size zJ 5 v' (s.ex.length+1) (M.cE++d))(hc1:aS (λk=>M.vE.ownBlock=some k) w w1)(hv:∀k,v'.ownBlock=some k->M.vE.ownBlock=some k\/w.heap.size<=k)
  (hc2:aS (HZ f) w1 w2)(hf:w2.heap[f]?=some (.cells [v',M.vB,M.vT].toArray VP (0,0))):PR w0 w2 p f {M with vE:=v',cE:=M.cE++d} vt {s with ex:=s.ex++[e]} top/\Eff p f M0 {M with vE:=v',cE:=M.cE++d} wb w2/\∀b T cs,Loc w0 w p f M vt b T cs->b∉ub d->Loc w0 w2 p f {M with vE:=v',cE:=M.cE++d} vt b T cs:=by
 have hb:=h.base;have hzb:=he.chg.size;have eE:=Ik M f;have use:∀k,M.vE.ownBlock=some k->k∈M.uses f:=λk hk=>List.mem_cons_of_mem _ (gI (v:=M.vE) (by simp) hk);have hnd:=h.fr.nd;rw[eE,List.nodup_cons,List.nodup_append]at hnd;obtain⟨nf,_,nb,nab⟩:=hnd;have rest:∀k∈ub ([M.vB,M.vT]++(M.cE++M.cB)),M.vE.ownBlock≠some k/\k≠f/\k<w.heap.size:=λk hk=>
  ⟨λe=>nab k (dX.2 e) k hk rfl,λe=>nf (e▸List.mem_append_right _ hk),h.fr.lt k (by rw[eE];exact List.mem_cons_of_mem _ (List.mem_append_right _ hk))⟩
 have c12:aS (λk=>M.vE.ownBlock=some k\/k=f) w w2:=(hc1.mono λk _ e=>.inl e).trans (hc2.mono λk _ e=>.inr e);have sub:∀v∈[M.vB,M.vT]++(M.cE++M.cB),∀k,v.ownBlock=some k->¬(M.vE.ownBlock=some k\/k=f):=λv hv k hk e=>by
  have:=rest k (gI hv hk);exact e.elim this.1 this.2.1
 have hOf:∀k,v'.ownBlock=some k->k≠f:=λk hk e=>by
  subst e;rcases hv k hk with e|e
  ·exact nf (List.mem_append_left _ (dX.2 e))
  ·have:=dA h.fr.hf;omega
 have nE:M.vE.ownBlock≠some p:=λe=>h.np (use p e);have pf:p≠f:=λe=>h.np (e▸List.mem_cons_self);have perm:=Qa M f v' d;have hN:(f::(ub [v']++(ub d++ub ([M.vB,M.vT]++(M.cE++M.cB))))).Nodup:=EF (n:=w.heap.size) (a:=ub [M.vE]) (by rw[<-eE];exact h.fr.nd) (λk hk=>h.fr.lt k (by rw[eE];exact hk)) (iE _) (λk hk=>(hv k (dX.1 hk)).imp (λe=>dX.2 e) id) hn λk hk=>⟨(hu k hk).1.2,by rw[<-eE];exact(hu k hk).2.2.1⟩;have hz:=c12.size;have mem:∀k∈({M with vE:=v',cE:=M.cE++d}:Lay).uses f,k=f\/v'.ownBlock=some k\/k∈ub d\/k∈ub ([M.vB,M.vT]++(M.cE++M.cB)):=λk hk=>by
  have hk:=perm.mem_iff.1 hk;rcases List.mem_cons.1 hk with e|e
  ·exact .inl e
  rcases List.mem_append.1 e with e|e
  ·exact .inr (.inl (dX.1 e))
  rcases List.mem_append.1 e with e|e
  ·exact .inr (.inr (.inl e))
  ·exact .inr (.inr (.inr e))
 have cT:aS (Tn p f M) w w2:=c12.mono λk _ e=>e.elim (λe=>.inr (.inr (.inl e))) λe=>.inr (.inl e);refine⟨⟨?_,⟨hf,?_,?_,?_,?_,?_,perm.nodup_iff.2 hN,λk hk=>?_,λk hk=>?_⟩,?_,?_,λe=>?_,h.lo,λk hk=>?_⟩,⟨(he.trans (Eff.of cT)).chg,λk hk=>?_,λk hk=>(hv k hk).elim (he.hE k) λe=>.inr (by omega),he.hB,he.hT⟩,λb T cs hL hbd=>⟨cT.at hL.1 hL.2.no,⟨hL.2.1.1,Nat.lt_of_lt_of_le hL.2.1.2 hz⟩,hL.2.2.1,λhk=>?_,hL.2.2.2.2⟩⟩
 ·refine h.ch.then c12 λk hk e=>?_;rcases e with e|e
  ·exact(h.fr.lo k (use k e)).resolve_right (by omega)
  ·exact e
 ·rw[List.length_append];exact fG hO hc2 λk hk e=>hOf k hk e
 ·exact fG h.fr.oB c12 (sub _ (by simp))
 ·exact fG h.fr.oT c12 (sub _ (by simp))
 ·refine kR.snoc ?_ (hd.at_ c12 λk hk e=>?_) (by obtain⟨va,vk,rfl,_⟩:=hd;rfl)
  ·refine h.fr.ee.imp λx d hd hx=>hx.at_ c12 λk hk=>?_;obtain⟨v,hv,hk⟩:=List.mem_filterMap.1 hk;exact sub v (by simp[hd v hv]) k hk
  ·have ho:=(hu k hk).2.2.1;rcases e with e|e
   ·exact ho (use k e)
   ·exact ho (e▸List.mem_cons_self)
 ·refine h.fr.bb.imp λx d hd hx=>hx.at_ c12 λk hk=>?_;obtain⟨v,hv,hk⟩:=List.mem_filterMap.1 hk;exact sub v (by simp[hd v hv]) k hk
 ·rcases mem k hk with e|e|e|e
  ·rw[e];exact dA hf
  ·exact Nat.lt_of_lt_of_le (mQ hO e).1 hc2.size
  ·exact Nat.lt_of_lt_of_le (hu k e).1.2 hz
  ·exact Nat.lt_of_lt_of_le (rest k e).2.2 hz
 ·rcases mem k hk with e|e|e|e
  ·exact .inl e
  ·exact .inr (mQ hO e).2
  ·exact .inr (hu k e).1.1
  ·exact h.fr.lo k (by rw[eE];exact List.mem_cons_of_mem _ (List.mem_append_right _ e))
 ·exact c12.at h.ps λe=>e.elim nE pf
 ·exact uI h.tk c12 λk hk e=>by
   have:=(h.nt k hk).1;rcases e with e|e
   ·exact this (use k e)
   ·exact this (e▸List.mem_cons_self)
 ·rcases mem p e with e|e|e|e
  ·exact pf e
  ·exact(hv p e).elim nE λe=>by have:=h.lt;omega
  ·exact(hu p e).2.1 rfl
  ·exact h.np (by rw[eE];exact List.mem_cons_of_mem _ (List.mem_append_right _ e))
 ·have ht:=h.nt k hk;refine⟨λe=>?_,ht.2.1,Nat.lt_of_lt_of_le ht.2.2 hz⟩;rcases mem k e with e|e|e|e
  ·exact ht.1 (e▸List.mem_cons_self)
  ·exact(hv k e).elim (λe=>ht.1 (use k e)) λe=>by omega
  ·exact(hu k e).2.2.2 hk
  ·exact ht.1 (by rw[eE];exact List.mem_cons_of_mem _ (List.mem_append_right _ e))
 ·rcases mem k hk with e|e|e|e
  ·exact he.us k (e▸List.mem_cons_self)
  ·exact(hv k e).elim (λe=>he.us k (use k e)) λe=>.inr (by omega)
  ·exact .inr (hnew k e)
  ·exact he.us k (by rw[eE];exact List.mem_cons_of_mem _ (List.mem_append_right _ e))
 ·have ho:=hL.2;rcases mem b hk with e|e|e|e
  ·exact ho.2.2.1 (e▸List.mem_cons_self)
  ·exact(hv b e).elim (λe=>ho.2.2.1 (use b e)) λe=>by have:=ho.1.2;omega
  ·exact hbd e
  ·exact ho.2.2.1 (by rw[eE];exact List.mem_cons_of_mem _ (List.mem_append_right _ e))
end
section
variable [HX]
variable{w0 w:World}{p f:Nat}{M:Lay}{vt:Value}{s:PS}{top:List Nat}{N:Int}{K:Q0}
theorem Kj{l:List aH}{x:aH}{K:Q0}(h:SlAt w T v l.length (strs l))(hl:l.length<=1000000)(hK:K (i64 (mY l x 0)) w):aA P0 113 [v,str x] w K:=by
 refine Vz ?_;unfold aC1;rw[dJ h];refine bL.go (λst w'=>∃j:Nat,st=[i64 j]/\j<=l.length/\w'=w/\mY (l.drop j) x j=mY l x 0) (λst _=>match st with|[.int _ j]=>l.length-j.toNat|_=>0) ⟨0,rfl,by omega,rfl,rfl⟩ ?_;rintro st g w' ⟨j,rfl,hj,rfl,hs⟩;simp only[List.getD_cons_zero];rw[cA,aB];refine⟨λhlt=>?_,λhge=>?_⟩
 ·have hlt:j<l.length:=by omega
  refine lW (x:=str l[j]) h (by simp[strs]) (by simp[strs,hlt]) ?_;rw[List.drop_eq_getElem_cons hlt]at hs;simp only[mY]at hs;rw[nK,aB];refine⟨λe=>?_,λe=>?_⟩
  ·rw[if_pos e]at hs;rw[hs];exact hK
  ·rw[if_neg e]at hs;rw[aW,Ai (by omega)];exact⟨⟨j+1,rfl,by omega,trivial,hs⟩,by simp only[Int.toNat_natCast];omega⟩
 ·rw[List.drop_of_length_le (by omega)]at hs;simp only[mY]at hs;rw[hs];exact hK
theorem Ae{l:List aH}{x:aH}{K:Q0}(h:SlAt w T v l.length (strs l))(hl:l.length<=1000000)(hK:K (.bool (decide (x∈l))) w):aA P0 81 [v,str x] w K:=by
 refine ZN ?_;unfold W81;refine Kj h hl ?_;rw[gR];simp only[FY];exact hK
theorem IO(h:PR w0 w p f M vt s top)(hs:WS N s)(hN:N<=1000000)(hl:s.toks.length<=100000)(hK:∀w',PR w0 w' p f M vt (eZ s) top->Eff p f M M w w'->K (.agg (dB (bO s)).toArray) w'):
  aA P0 48 [.pointer (some ⟨p,0,none⟩)] w K:=by
 refine aAm ?_;unfold W48;refine aI λb w1 hb hz1 hbb hx1=>?_;have h1:=h.ext hx1;have L1:=h.loc hz1 hb hbb;refine jM h1 hs hN hl λw2 h2 he2=>?_;have L2:=L1.eff he2;refine aI λb2 w3 hb2 hz3 hbb3 hx3=>?_;have h3:=h2.ext hx3;have L3:=h2.loc hz3 hb2 hbb3;have hne:b≠b2:=by have:=L2.lt;omega
 have L23:=L2.ext hx3;refine aY (l:=dB (bO s)) L3.1 rfl rfl rfl λw4 hz4 hb4 hc4=>?_;have L4:Loc w0 w4 p f M vt b2 qG (dB (bO s)):=⟨hb4,L3.2.up (by omega)⟩;have h4:=h3.one hc4 L3.2;have L24:=L23.one hc4 hne;have he4:Eff p f M M w w4:=(((Eff.ext hx1).trans he2).x hx3).one hc4 (by have:=he2.chg.size;omega);refine aP.cut (λ_ w'=>PR w0 w' p f M vt (eZ s) top/\Eff p f M M w4 w') ?_ ?_
 ·refine L4.ldf rfl ?_;rw[dG,aB];unfold eZ;refine⟨λhk=>?_,λhk=>?_⟩
  ·rw[if_pos hk];exact h4.go (JI ((dN hs).ws hs) (by rw[(dN hs).toks];exact hl)) λw5 h5 he5 _=>⟨h5,he5⟩
  ·rw[if_neg hk];exact⟨h4,Eff.refl _ _ _ _⟩
 rintro st g w5 ⟨h5,he5⟩;have L5:=L4.eff he5;have L25:=L24.eff he5;refine aU L5.1 rfl ?_;refine eS (l:=dB (bO s)) L25.1 rfl rfl rfl λw6 hc6=>?_;exact hK w6 (h5.one hc6 L25.2) ((he4.trans he5).one hc6 (by omega))
theorem YZ{x:aH}(h:PR w0 w p f M vt s top)(hs:WS N s)(hN:N<=1000000)(hl:s.toks.length<=100000)(hv:aDR w0 w p f M vt v Ah 1 [str x])(hK:∀w',PR w0 w' p f M vt (aG s) top->Eff p f M M w w'->K (.bool (kS s x)) w'):
  aA P0 49 [.pointer (some ⟨p,0,none⟩),v] w K:=by
 refine aAl ?_;unfold W49;refine jM h hs hN hl λw1 h1 he1=>?_;refine aI λb w2 hb hz2 hbb hx2=>?_;have h2:=h1.ext hx2;have L2:=h1.loc hz2 hb hbb;refine aY (l:=dB (bO s)) L2.1 rfl rfl rfl λw3 hz3 hb3 hc3=>?_;have L3:Loc w0 w3 p f M vt b qG (dB (bO s)):=⟨hb3,L2.2.up (by omega)⟩;have h3:=h2.one hc3 L2.2;have he3:Eff p f M M w w3:=(he1.x hx2).one hc3 (by have:=he1.chg.size;omega);have sl3:SlAt w3 Ah v 1 [str x]:=uI hv.1 he3.chg λk hk=>(hv.2 k hk).no;refine L3.ldf rfl ?_;rw[aM];refine cX.look (decide ((bO s).t=x)) (λ_ J hJ=>?_) λg=>?_
 ·refine L3.ldf rfl ?_;refine Ae (l:=[x]) sl3 (by simp) ?_;simpa using hJ
 ·simp only[List.getD_cons_zero,eH];rw[cW];exact hK w3 h3 he3
theorem pZ{x:aH}(h:PR w0 w p f M vt s top)(hs:WS N s)(hN:N<=1000000)(hl:s.toks.length<=100000)(hK:∀w',PR w0 w' p f M vt (aR s x).2 top->Eff p f M M w w'->K (.bool (aR s x).1) w'):
  aA P0 52 [.pointer (some ⟨p,0,none⟩),str x] w K:=by
 refine aAi ?_;unfold W52;refine sI λb w1 hb hz1 hbb hx1=>?_;have h1:=h.ext hx1;have L1:=h.loc hz1 hb hbb;refine YZ h1 hs hN hl ⟨wW hbb rfl,λk hk=>by simp only[Value.ownBlock,Option.some.injEq]at hk;subst hk;exact L1.2⟩ λw2 h2 he2=>?_;have he:=(Eff.ext hx1).trans he2;unfold aR at hK;rw[cJ,aQ];refine⟨λe=>?_,λe=>?_⟩
 ·have e:kS s x=false:=by simpa using e
  rw[if_neg (by rw[e];decide)]at hK;exact hK w2 h2 he
 ·have e:kS s x=true:=by simpa using e
  rw[if_pos e]at hK;exact h2.go (JI ((dN hs).ws hs) (by rw[(dN hs).toks];exact hl)) λw3 h3 he3 _=>hK w3 h3 (he.trans he3)
theorem sZ{x:aH}(h:PR w0 w p f M vt s top)(hs:WS N s)(hN:N<=1000000)(hl:s.toks.length<=100000)(hK:∀s',kJ s x=.ok () s'->∀w',PR w0 w' p f M vt s' top->Eff p f M M w w'->K (.tuple #[]) w')(ht:∀c a,kJ s x=.err c a->Ie w0 f c a):
  aA P0 116 [.pointer (some ⟨p,0,none⟩),str x] w K:=by
 refine Vx ?_;unfold aCZ;refine pZ h hs hN hl λw1 h1 he1=>?_;unfold aR at h1 he1⊢;unfold kJ at hK ht;rw[cJ,aQ];by_cases e:kS s x=true
 ·simp only[if_pos e]at h1 he1 hK ht⊢;exact⟨λe=>(by cases e),λ_=>hK _ rfl w1 h1 he1⟩
 ·simp only[if_neg e]at h1 he1 hK ht⊢;refine⟨λ_=>?_,λe=>(by cases e)⟩;refine jM h1 ((dN hs).ws hs) hN (by rw[(dN hs).toks];exact hl) λw2 h2 he2=>?_;rw[gH];refine⟨i64 (bO s).a,rfl,?_⟩;exact lY h2 (ht _ _ rfl)
theorem tM{k:Int}(h:PR w0 w p f M vt s top)(hs:WS N s)(hN:N<=1000000)(hl:s.toks.length<=100000)(hK:∀t s',iA s k=.ok t s'->∀w',PR w0 w' p f M vt s' top->Eff p f M M w w'->K (.agg (dB t).toArray) w')(ht:∀c a,iA s k=.err c a->Ie w0 f c a):
  aA P0 46 [.pointer (some ⟨p,0,none⟩),i64 k] w K:=by
 refine aAo ?_;unfold W46;refine aI λb w1 hb hz1 hbb hx1=>?_;have h1:=h.ext hx1;have L1:=h.loc hz1 hb hbb;have hsn:=(dN hs).ws hs;have hln:(aG s).toks.length<=100000:=by rw[(dN hs).toks];exact hl
 unfold iA at hK ht;refine aP.cut (λ_ w'=>PR w0 w' p f M vt (aG s) top/\Eff p f M M w1 w'/\(bO s).k=k) ?_ ?_
 ·refine jM h1 hs hN hl λw2 h2 he2=>?_;refine⟨i64 (bO s).k,rfl,?_⟩;dsimp only;rw[dG,aB];refine⟨λe=>?_,λe=>⟨h2,he2,by omega⟩⟩;refine jM h2 hsn hN hln λw3 h3 he3=>?_;rw[gH];refine⟨i64 (bO s).a,rfl,?_⟩;exact lY h3 (ht _ _ (by rw[if_neg e]))
 rintro st g w2 ⟨h2,he2,hk⟩;rw[if_pos hk]at hK;refine IO h2 hsn hN hln λw3 h3 he3=>?_;rw[gH];have L3:=(L1.eff he2).eff he3;refine eS (l:=dB (bO s)) L3.1 rfl rfl rfl λw4 hc4=>?_;have e:eZ (aG s)=eZ s:=by unfold eZ;rw[gH,dV]
 rw[e]at h3;exact hK _ _ rfl w4 (h3.one hc4 L3.2) ((((Eff.ext hx1).trans he2).trans he3).one hc4 (by omega))
end
end
end Go.Proofs.YtghhmpppnmoeoaaGreatDoor
namespace Go.Syn
section
open Go Go.Eng Go.Lex
variable{w:World}{K:Q0}{cs:List Value}{G:Nat->Prop}{T:TypeId}{i:Nat}{n:Nat}{v:Value}{w':World}{P:Program}{c:UInt8}{S:Nat->Prop}
def nJ:aH->Bool
 |[]=>true
 |[c]=>c !=92
 |c::e::r=>if c=92 then nJ r else nJ (e::r)
theorem Mb{r:aH}(hc:c≠92)(h:nJ r=true):nJ (c::r)=true:=by
 cases r with
 |nil=>simp[nJ,hc]
 |cons e r=>simp only[nJ];rw[if_neg hc];exact h
theorem Bc:∀(n:Nat) (t:aH),t.length<=n->Bf t=true->nJ t=true
 |_,[],_,_=>rfl
 |_,[c],_,h=>by simp only[Bf,Bool.and_eq_true]at h;exact h.1
 |0,c::e::r,h,_=>by simp at h
 |n+1,c::e::r,h,hd=>by
  simp only[Bf]at hd
  simp only[List.length_cons]at h
  simp only[nJ]
  split at hd
  ·rename_i hc
   rw[if_pos hc]
   exact Bc n r (by omega) hd
  ·rename_i hc
   rw[if_neg hc]
   simp only[Bool.and_eq_true]at hd
   exact Bc n (e::r) (by simp only[List.length_cons];omega) hd.2
theorem nC{c':UInt8}{r r':aH}{k:Nat}(h:(c'::r').take (k+1)=(c::r).take (k+1)):c'=c/\r'.take k=r.take k:=by
 simp only[List.take_succ_cons,List.cons.injEq]at h;exact h
theorem jF{r r':aH}{k j m:Nat}(h:r'.take k=r.take k)(hk:j+m<=k):(r'.drop j).take m=(r.drop j).take m:=by
 have e:∀s:aH,(s.drop j).take m=((s.take k).drop j).take m:=λs=>by
  rw[List.drop_take,List.take_take,Nat.min_eq_left (by omega)]
 rw[e r',e r,h]
theorem Gv{x x':UInt8}{r r':aH}(h:x=x'):lI [36,123] (c::x::r)=lI [36,123] (c::x'::r'):=by
 subst h;simp[lI,List.isPrefixOf]
theorem Is:∀(N:Nat) (r r':aH),r.length<=N->
  (∀d k,dO r d=(k,0)->r'.take k=r.take k->k<=r'.length->dO r' d=(k,0))/\
  (∀d k,fV r d=(k,0)->r'.take k=r.take k->k<=r'.length->fV r' d=(k,0)):=by
 intro N;induction N with
 |zero=>
  intro r r' hr;have:r=[]:=List.eq_nil_of_length_eq_zero (by omega);subst this;exact⟨λd k h=>(by rw[lM]at h;cases h),λd k h=>(by rw[Bv]at h;cases h)⟩
 |succ N ih=>
  intro r r' hr;cases r with
  |nil=>exact ih [] r' (by simp)
  |cons c r=>
   simp only[List.length_cons]at hr;have hr:r.length<=N:=by omega
   have sh:∀{k:Nat},1<=k->r'.take k=(c::r).take k->k<=r'.length->∃r2,r'=c::r2/\r2.take (k-1)=r.take (k-1)/\k-1<=r2.length:=λ{k} hk ht hl=>by
    cases r' with
    |nil=>simp at hl;omega
    |cons c' r2=>
     obtain⟨j,rfl⟩:∃j,k=j+1:=⟨k-1,by omega⟩;obtain⟨rfl,h2⟩:=nC ht;exact⟨r2,rfl,h2,by simpa using hl⟩
   refine⟨λd k h ht hl=>?_,λd k h ht hl=>?_⟩
   ·have hk:=((fE _ (c::r) (Nat.le_refl _)).1 d k h).2.1;obtain⟨r2,rfl,h2,hl2⟩:=sh hk ht hl;rw[lN]at h⊢;simp only[beq_iff_eq]at h⊢;split at h
    ·rename_i e;rw[if_pos e];exact h
    rename_i e;rw[if_neg e];split at h
    ·cases h
    rename_i e1;rw[if_neg e1];split at h
    ·rename_i e2;rw[if_pos e2];cases r with
     |nil=>cases h
     |cons x rr=>
      simp only at h;split at h
      ·rename_i e3;obtain⟨g1,g2⟩:=iJ h;have gk:=((fE _ rr (Nat.le_refl _)).1 d _ g1).2.1;cases r2 with
       |nil=>simp at hl2;omega
       |cons x' rr'=>
        obtain⟨j,rfl⟩:∃j,k=j+2:=⟨k-2,by omega⟩;rw[show j+2-1=j+1 by omega]at h2 hl2;obtain⟨rfl,h3⟩:=nC h2;simp only[if_pos e3];have:=(ih rr rr' (by simp at hr;omega)).1 d j (by simpa using g1) h3 (by simpa using hl2);rw[this];unfold jC;simp
      ·cases h
    rename_i e2;rw[if_neg e2];split at h
    ·rename_i e3;split at h
     ·cases h
     rename_i e24;split at h
     ·rename_i e4;obtain⟨g1,g2⟩:=iJ h;have gk:=((fE _ _ (Nat.le_refl _)).1 d _ g1).2;have gi:=((fE _ (r.drop 1) (Nat.le_refl _)).2 (d+1) _ (Prod.ext rfl e4)).1;cases r with
      |nil=>simp[lI]at e3
      |cons x rr=>
       cases r2 with
       |nil=>simp at hl2;omega
       |cons x' rr'=>
        obtain⟨j,rfl⟩:∃j,k=j+2:=⟨k-2,by omega⟩;rw[show j+2-1=j+1 by omega]at h2 hl2;obtain⟨rfl,h3⟩:=nC h2;simp only[List.drop_succ_cons,List.drop_zero]at g1 gk gi e4⊢;have hl3:j<=rr'.length:=by simpa using hl2
        have hp:lI [36,123] (c::x'::rr')=true:=by rw[Gv (r':=rr) rfl];exact e3
        have hrr:rr.length<=N:=by simp at hr;omega
        have hi:=(ih rr rr' hrr).2 (d+1) (fV rr (d+1)).1 (Prod.ext rfl e4) (by have:=jF (j:=0) (m:=(fV rr (d+1)).1) h3 (by omega);simpa using this) (by omega);rw[if_pos hp,if_neg e24,hi];simp only;have ht:=(ih (rr.drop (fV rr (d+1)).1) (rr'.drop (fV rr (d+1)).1) (gG _ hrr)).1 d _ g1 (jF h3 (by omega)) (by rw[List.length_drop];omega);rw[ht];unfold jC;simp;omega
     ·rename_i e4;injection h with _ h2
      exact absurd h2 e4
    ·rename_i e3;obtain⟨g1,g2⟩:=iJ h;have gk:=((fE _ _ (Nat.le_refl _)).1 d _ g1).2;have hp:¬lI [36,123] (c::r2)=true:=by
      cases r with
      |nil=>rw[lM]at g1;exact absurd (congrArg Prod.snd g1) (by simp)
      |cons x rr=>
       cases r2 with
       |nil=>simp at hl2;omega
       |cons x' rr'=>
        obtain⟨j,hj⟩:∃j,k-1=j+1:=⟨k-2,by omega⟩;rw[hj]at h2;obtain⟨rfl,_⟩:=nC h2;rw[Gv (r':=rr) rfl];exact e3
     rw[if_neg hp];have:=(ih r r2 hr).1 d (k-1) g1 h2 hl2;rw[this];unfold jC;simp;omega
   ·have hk:=((fE _ (c::r) (Nat.le_refl _)).2 d k h).1.1;obtain⟨r2,rfl,h2,hl2⟩:=sh hk ht hl;rw[yR]at h⊢;simp only[beq_iff_eq]at h⊢;split at h
    ·rename_i e;rw[if_pos e];exact h
    rename_i e;rw[if_neg e];split at h
    ·cases h
    rename_i e1;rw[if_neg e1];split at h
    ·rename_i e2;rw[if_pos e2];split at h
     ·cases h
     rename_i e24;rw[if_neg e24];split at h
     ·rename_i e4;obtain⟨g1,g2⟩:=iJ h;have gk:=((fE _ _ (Nat.le_refl _)).2 d _ g1).1;have hi:=(ih r r2 hr).2 (d+1) (fV r (d+1)).1 (Prod.ext rfl e4) (by have:=jF (j:=0) (m:=(fV r (d+1)).1) h2 (by omega);simpa using this) (by omega);rw[hi];simp only[if_true];have ht:=(ih (r.drop (fV r (d+1)).1) (r2.drop (fV r (d+1)).1) (gG _ hr)).2 d _ g1 (jF h2 (by omega)) (by rw[List.length_drop];omega);rw[ht];unfold jC;simp;omega
     ·rename_i e4;injection h with _ h2
      exact absurd h2 e4
    rename_i e2;rw[if_neg e2];split at h
    ·rename_i e3;rw[if_pos e3];split at h
     ·rename_i e4;obtain⟨g1,g2⟩:=iJ h;have gk:=((fE _ _ (Nat.le_refl _)).2 d _ g1).1;have hi:=(ih r r2 hr).1 d (dO r d).1 (Prod.ext rfl e4) (by have:=jF (j:=0) (m:=(dO r d).1) h2 (by omega);simpa using this) (by omega);rw[hi];simp only[if_true];have ht:=(ih (r.drop (dO r d).1) (r2.drop (dO r d).1) (gG _ hr)).2 d _ g1 (jF h2 (by omega)) (by rw[List.length_drop];omega);rw[ht];unfold jC;simp;omega
     ·rename_i e4;injection h with _ h2
      exact absurd h2 e4
    ·rename_i e3;rw[if_neg e3];obtain⟨g1,g2⟩:=iJ h;have:=(ih r r2 hr).2 d (k-1) g1 h2 hl2;rw[this];unfold jC;simp;omega
def Scd(t:aH):Prop:=∃d,dO (t++[34]) d=(t.length+1,0)
theorem Ng{r:aH}{d k:Nat}(h:dO r d=(k,0))(hl:∀b,r[k-1]?=some b->b=34):Scd (r.take (k-1)):=by
 obtain⟨_,h1,h2⟩:=(fE _ r (Nat.le_refl _)).1 d k h;obtain⟨j,rfl⟩:∃j,k=j+1:=⟨k-1,by omega⟩;rw[Nat.add_sub_cancel]at hl⊢;have e1:(r.take j).length=j:=by rw[List.length_take];omega
 have hlt:j<r.length:=by omega
 have e2:r.take j++[34]=r.take (j+1):=by
  have:=hl _ (List.getElem?_eq_getElem hlt);rw[List.take_add_one,List.getElem?_eq_getElem hlt,this];rfl
 refine⟨d,?_⟩;rw[e2,e1];exact(Is _ r (r.take (j+1)) (Nat.le_refl _)).1 d (j+1) h (by rw[List.take_take,Nat.min_self]) (by rw[List.length_take];omega)
theorem tB:∀(N:Nat) (r:aH) (d k:Nat),r.length<=N->dO r d=(k,0)->r[k-1]?=some 34
 |0,r,d,k,hr,h=>by
  have:r=[]:=List.eq_nil_of_length_eq_zero (by omega)
  subst this
  rw[lM]at h;cases h
 |N+1,[],d,k,_,h=>by rw[lM]at h;cases h
 |N+1,c::r,d,k,hr,h=>by
  simp only[List.length_cons]at hr
  have hr:r.length<=N:=by omega
  rw[lN]at h
  simp only[beq_iff_eq]at h
  split at h
  ·rename_i e
   injection h with h1 _
   subst h1 e
   rfl
  split at h
  ·cases h
  split at h
  ·cases r with
   |nil=>cases h
   |cons x rr=>
    simp only at h
    split at h
    ·obtain⟨g1,g2⟩:=iJ h
     have gk:=((fE _ rr (Nat.le_refl _)).1 d _ g1).2.1
     have:=tB N rr d _ (by simp at hr;omega) g1
     rw[show k-1=(k-2-1)+2 by omega]
     exact this
    ·cases h
  split at h
  ·rename_i e3
   split at h
   ·cases h
   split at h
   ·obtain⟨g1,g2⟩:=iJ h
    have gk:=((fE _ _ (Nat.le_refl _)).1 d _ g1).2.1
    have:=tB N _ d _ (gG _ (gG 1 hr)) g1
    rw[List.getElem?_drop,List.getElem?_drop]at this
    rw[show k-1=1+((fV (r.drop 1) (d+1)).1+(k-((fV (r.drop 1) (d+1)).1+2)-1))+1 by omega]
    exact this
   ·rename_i e4
    injection h with _ h2
    exact absurd h2 e4
  ·obtain⟨g1,g2⟩:=iJ h
   have gk:=((fE _ r (Nat.le_refl _)).1 d _ g1).2.1
   have:=tB N r d _ hr g1
   rw[show k-1=(k-1-1)+1 by omega]
   exact this
theorem Ek:∀(N:Nat) (t:aH),t.length<=N->Scd t->(insP t=none->nJ t=true)/\∀i e,insP t=some (i,e)->nJ (t.take i)=true/\i+3<=e/\e<=t.length/\Scd (t.drop e)
 |_,[],_,_=>⟨λ_=>rfl,λi e h=>by simp[insP]at h⟩
 |0,_::_,h,_=>by simp at h
 |N+1,[c],_,⟨d,h⟩=>by
  refine⟨λ_=>?_,λi e h=>by simp[insP]at h⟩
  simp only[nJ,bne_iff_ne,ne_eq]
  intro e
  subst e
  simp only[List.cons_append,List.nil_append]at h
  rw[lN]at h
  simp[Lex.escOk,jC,lM]at h
 |N+1,c::x::r,hN,⟨d,h⟩=>by
  simp only[List.length_cons]at hN
  simp only[List.cons_append]at h
  rw[lN]at h
  simp only[beq_iff_eq]at h
  split at h
  ·injection h with h1 _
   simp at h1
  split at h
  ·cases h
  simp only[insP,nJ]
  split at h
  ·rename_i e92
   rw[if_pos e92,if_pos e92]
   split at h
   ·obtain⟨g1,g2⟩:=iJ h
    have sr:Scd r:=⟨d,by rw[g1];simp⟩
    obtain⟨i1,i2⟩:=Ek N r (by omega) sr
    refine⟨λhn=>i1 (by cases hr:insP r with|none=>rfl|some y=>rw[hr]at hn;cases hn),λi e hi=>?_⟩
    cases hr:insP r with
    |none=>rw[hr]at hi;cases hi
    |some y=>
     rw[hr]at hi
     simp only[Option.map_some,Option.some.injEq,Prod.mk.injEq]at hi
     obtain⟨rfl,rfl⟩:=hi
     obtain⟨j1,j2,j3,j4⟩:=i2 _ _ hr
     refine⟨?_,by omega,by simp only[List.length_cons];omega,by rw[show y.2+2=y.2+1+1 by omega,List.drop_succ_cons,List.drop_succ_cons];exact j4⟩
     rw[show y.1+2=y.1+1+1 by omega,List.take_succ_cons,List.take_succ_cons]
     simp only[nJ]
     rw[if_pos e92]
     exact j1
   ·cases h
  rename_i e92
  rw[if_neg e92,if_neg e92]
  split at h
  ·rename_i e3
   have hc:c=36/\x=123:=by
    simp[lI,List.isPrefixOf]at e3;exact⟨e3.1.symm,e3.2.symm⟩
   rw[if_pos hc];refine⟨λhn=>(by cases hn),λi e hi=>?_⟩;simp only[Option.some.injEq,Prod.mk.injEq]at hi;obtain⟨rfl,rfl⟩:=hi;split at h
   ·cases h
   split at h
   ·rename_i e4;simp only[List.drop_succ_cons,List.drop_zero]at h e4;obtain⟨k1,e5⟩:∃k1,fV (r++[34]) (d+1)=(k1,0):=⟨_,Prod.ext rfl e4⟩;simp only[e5]at h;obtain⟨g1,g2⟩:=iJ h;have gk:=((fE _ _ (Nat.le_refl _)).1 d _ g1).2;have gi:=((fE _ (r++[34]) (Nat.le_refl _)).2 (d+1) _ e5).1;simp only[List.length_cons]at g1 gk g2;have hle:k1<=r.length:=by omega
    have hs:=(Is _ (r++[34]) r (Nat.le_refl _)).2 (d+1) _ e5 (by rw[List.take_append_of_le_length hle]) hle;have hb:=((fE _ r (Nat.le_refl _)).2 (d+1) _ hs).2 1 (by omega);rw[if_pos rfl]at hb;have eb:HK (x::r)=1+k1:=by
     show lZ (x::r) 0=_;rw[kQ,if_pos hc.2,show(0:Int)+1=1 from rfl,hb]
    rw[eb];refine⟨rfl,by omega,by simp only[List.length_cons];omega,?_⟩;rw[show 1+(1+k1)=k1+1+1 by omega,List.drop_succ_cons,List.drop_succ_cons];refine⟨d,?_⟩;rw[<-List.drop_append_of_le_length hle,g1,List.length_drop];simp only[Prod.mk.injEq,and_true];omega
   ·rename_i e4;injection h with _ h2
    exact absurd h2 e4
  ·rename_i e3;have hc:¬(c=36/\x=123):=λe=>e3 (by simp[lI,List.isPrefixOf,e.1,e.2]);rw[if_neg hc];obtain⟨g1,g2⟩:=iJ h;have sr:Scd (x::r):=⟨d,by simp only[List.cons_append];rw[g1];simp⟩;obtain⟨i1,i2⟩:=Ek N (x::r) (by simp only[List.length_cons];omega) sr;refine⟨λhn=>i1 (by cases hr:insP (x::r)with|none=>rfl|some y=>rw[hr]at hn;cases hn),λi e hi=>?_⟩;cases hr:insP (x::r)with
   |none=>rw[hr]at hi;cases hi
   |some y=>
    rw[hr]at hi;simp only[Option.map_some,Option.some.injEq,Prod.mk.injEq]at hi;obtain⟨rfl,rfl⟩:=hi;obtain⟨j1,j2,j3,j4⟩:=i2 _ _ hr;refine⟨?_,by omega,by simp only[List.length_cons]at j3⊢;omega,by rw[List.drop_succ_cons];exact j4⟩;rw[List.take_succ_cons];exact Mb e92 j1
def Co(t:aH):Prop:=Bf t=true\/Scd t
theorem Im{t:aH}(h:Co t):(insP t=none->nJ t=true)/\∀i e,insP t=some (i,e)->nJ (t.take i)=true/\i+3<=e/\e<=t.length/\Co (t.drop e):=by
 rcases h with h|h
 ·exact⟨λ_=>Bc _ t (Nat.le_refl _) h,λi e hi=>by rw[Av _ t (Nat.le_refl _) h]at hi;cases hi⟩
 ·obtain⟨h1,h2⟩:=Ek _ t (Nat.le_refl _) h;exact⟨h1,λi e hi=>by obtain⟨a,b,c,d⟩:=h2 i e hi;exact⟨a,b,c,.inr d⟩⟩
def TS(l:List Tok):Prop:=∀t∈l,t.k=3->Co t.t/\t.t.length<=100000
theorem rI:∀s:aH,(gA s).length<=2*s.length
 |[]=>Nat.le_refl _
 |c::r=>by
  have:=rI r
  simp only[gA]
  split
  ·simp only[List.length_cons];omega
  split
  ·simp only[List.length_cons];omega
  split
  ·simp only[List.length_cons];omega
  ·simp only[List.length_cons];omega
theorem Dj:∀(n:Nat) (name s:aH),(iL n name s).1.length<=2*s.length
 |0,_,_=>by simp[iL]
 |n+1,name,s=>by
  have hr:=mO (λb=>b !=10) s
  simp only[iL]
  split
  ·simp
  split
  ·simp
  rename_i hlen
  split
  ·have h1:=Dj n name (s.drop (cH (λb=>b !=10) s+1))
   have h2:=rI (s.take (cH (λb=>b !=10) s))
   rw[List.length_drop]at h1
   rw[List.length_take]at h2
   simp only[List.length_append,List.length_cons,List.length_nil]
   omega
  ·simp
theorem Hb(s:aH):(eO s).1.length<=2*s.length:=by
 unfold eO;simp only;generalize (if fH ((s.drop 2).headD 0)=true then cH fL (s.drop 2)else 0)=n;split
 ·simp
 split
 ·have h1:=Dj (s.length+1) ((s.drop 2).take n) (s.drop (2+n+1));rw[List.length_drop]at h1;split
  ·show(iL (s.length+1) ((s.drop 2).take n) (s.drop (2+n+1))).1.length<=_;omega
  ·simp
 ·simp
theorem YO{s:aH}{t:Tok}{k:Nat}(h:kY s=(t,k,0))(hk:t.k=3):Co t.t/\t.t.length<=2*s.length:=by
 unfold kY at h;simp only at h;split at h
 ·injection h with h1 _;subst h1;cases hk
 split at h
 ·injection h with h1 _;subst h1;cases hk
 split at h
 ·injection h with h1 _;subst h1;cases hk
 split at h
 ·split at h
  ·rename_i hq he;injection h with h1 _
   subst h1;have hx:kK (s.length+1) (s.drop 1) 0=dO (s.drop 1) 0:=oZ (by rw[List.length_drop];omega);rw[hx]at he⊢;refine⟨.inr (Ng (d:=0) (Prod.ext rfl he) λb hb=>?_),by simp only[List.length_take,List.length_drop];omega⟩;rw[tB _ (s.drop 1) 0 _ (Nat.le_refl _) (Prod.ext rfl he)]at hb;injection hb with hb
   exact hb.symm
  ·rename_i he;injection h with h1 h2
   injection h2 with _ h2
   exact absurd h2 he
 split at h
 ·injection h with h1 h2
  injection h2 with h2 h3
  obtain⟨i1,i2,i3⟩:=Bz (s:=s) (t:=(eO s).1) (k:=(eO s).2.1) (Prod.ext rfl (Prod.ext rfl h3));subst h1;exact⟨.inl i3,Hb s⟩
 ·injection h with h1 _;subst h1;cases hk
theorem Ge:∀(n:Nat) (s:aH) (a cnt:Nat) (l:List Tok),s.length<=16384->jL n s a cnt=.ok l->TS l
 |0,_,_,_,_,_,h=>by simp[jL]at h
 |n+1,s,a,cnt,l,hl,h=>by
  simp only[jL]at h
  split at h
  ·cases h
  split at h
  ·injection h with h
   subst h
   intro t ht hk
   simp only[List.mem_singleton]at ht
   subst ht
   cases hk
  split at h
  ·cases h
  rename_i ho
  split at h
  ·cases h
  split at h
  ·rename_i l' hl'
   injection h with h
   subst h
   intro t ht hk
   rcases List.mem_cons.1 ht with rfl|ht
   ·have h1:=YO (t:=(kY (s.drop (dE (s.length+1) s).1)).1) (k:=(kY (s.drop (dE (s.length+1) s).1)).2.1) (Prod.ext rfl (Prod.ext rfl (Classical.not_not.1 ho))) hk
    rw[List.length_drop]at h1
    exact⟨h1.1,by simp only;omega⟩
   ·exact Ge n _ _ _ _ (by rw[List.length_drop,List.length_drop];omega) hl' t ht hk
  ·rename_i hne
   exact absurd h (hne l)
theorem JP{s:aH}{l:List Tok}(h:mE s=.ok l):TS l:=by
 unfold mE at h;split at h
 ·cases h
 rename_i hl;split at h
 ·cases h
 exact Ge _ _ _ _ _ (by omega) h
theorem CC:∀(n:Nat) (s:aH) (a cnt:Nat) (l:List Tok),cnt<=4096->jL n s a cnt=.ok l->cnt+l.length<=4097
 |0,_,_,_,_,_,h=>by simp[jL]at h
 |n+1,s,a,cnt,l,hc,h=>by
  simp only[jL]at h
  split at h
  ·cases h
  split at h
  ·injection h with h
   subst h
   simp only[List.length_cons,List.length_nil];omega
  split at h
  ·cases h
  split at h
  ·cases h
  rename_i hne
  split at h
  ·rename_i l' hl'
   injection h with h
   subst h
   have:=CC n _ _ _ _ (by omega) hl'
   simp only[List.length_cons];omega
  ·rename_i hne
   exact absurd h (hne l)
theorem Ga{s:aH}{l:List Tok}(h:mE s=.ok l):l.length<=4097/\s.length<=16384:=by
 unfold mE at h;split at h
 ·cases h
 rename_i hl;split at h
 ·cases h
 have:=CC _ _ _ _ _ (Nat.zero_le _) h;omega
end
end Go.Syn
namespace Go.Proofs.YtghhmpppnmoeoaaGreatDoor
section
open Go Go.Eng Go.RowKit Go.Syn Go.Lex
variable{w:World}{K:Q0}{cs:List Value}{G:Nat->Prop}{T:TypeId}{i:Nat}{n:Nat}{v:Value}{w':World}{P:Program}{c:UInt8}{S:Nat->Prop}
theorem TN{B b:Nat}{l:aH}(h:qI w B b l):Lib.IsBuilderF Mv U8 B b (Lib.byteCells l) w:=by
 obtain⟨p,v,h1,h2,h3,h4⟩:=h;have hO:w.ownsRow B U8 1 v (pY l).length (pY l):=by rw[iQ];exact h3
 have:Lib.BuilderAt Mv U8 B b p (pY l) w:=⟨h4,v,h1,hO,λe=>HN h1 (h3.block b e)⟩;rcases h2 with rfl|rfl
 ·exact .inl (Lib.BuilderAtF.of this)
 ·exact .inr (Lib.BuilderAtF.of this)
theorem fQ[HX]{g:FuncId}{args caps:List Value}{K:Q0}(h:aA P g (args++caps) w K):kP P (.func (.func g) #[] caps.toArray) args w K:=by
 unfold kP Nf;unfold aA at h;have:(do let d<-(Deferred.ofValue (.func (.func g) #[] caps.toArray) args.toArray);invoke d.target d.args:Sem Next)=callFunc g (args++caps).toArray:=by
  show callFunc g (#[]++args.toArray++caps.toArray)=_;simp
 rw[this];exact h
theorem eV{s:aH}(h:i<s.length):s.drop i=s[i]::s.drop (i+1):=List.drop_eq_getElem_cons h
theorem pre_eq(s:aH):Lib.hasPrefix s [36,123]=lI [36,123] s:=rfl
section
variable [HX]
theorem zH{B b:Nat}{l:aH}{K:Q0}(h:qI w B b l)(hB:B<=w.heap.size)(hK:∀w',aS (λk=>B<=k) w w'->K (str l) w'):aA P0 64 [.pointer (some ⟨b,0,none⟩)] w K:=by
 refine eA (args:=#[.pointer (some ⟨b,0,none⟩)]) Tryz.call64 ((Tryz.Builder_String_any_k B b l w (TN h) hB).mono ?_);rintro e w' ⟨rfl,_,hb,_⟩;exact⟨_,rfl,hK w' ⟨hb.os,hb.tape,hb.output,hb.size,λk _ hn=>hb.block k (by omega)⟩⟩
theorem wF{s q:aH}{K:Q0}(hK:K (.bool (Lib.hasPrefix s q)) w):aA P0 43 [str s,str q] w K:=by
 refine eA (args:=#[str s,str q]) Tryz.call43 ((Tryz.strings_HasPrefix (aL s) (aL q) w).mono ?_);rintro e w' ⟨rfl,rfl⟩;rw[cK,cK];exact⟨_,rfl,hK⟩
theorem nA{s:aH}{K:Value->Prop}(h:i<s.length)(hK:K (.int .u8 (s[i].toNat:Nat))):lJ (str s) (i64 (i:Nat)) K:=by
 rw[EI];exact⟨by omega,s[i],by simpa using List.getElem?_eq_getElem h,hK⟩
theorem Cr(c:UInt8)(k:Nat)(hk:k<256):decide (((c.toNat:Nat):Int)=(k:Int))=decide (c=UInt8.ofNat k):=by
 rw[decide_eq_decide];constructor
 ·intro h;have h:c.toNat=k:=by omega
  rw[<-h];simp
 ·intro h;subst h;rw[UInt8.toNat_ofNat'];omega
theorem Iy{s:aH}{K:Q0}(he:nJ s=true)(hl:s.length<=1000000)(hK:∀w',bA w w'->K (str (fY s)) w'):aA P0 80 [str s] w K:=by
 refine ZO ?_;unfold W80;refine Zq (B:=w.heap.size) (Nat.le_refl _) λb w1 hb hB1 hx1=>?_;have hz1:=hx1.size;refine bL.go (λst w'=>∃i out,st=[i64 (i:Nat)]/\i<=s.length/\qI w' w.heap.size b out/\bA w w'/\out++fY (s.drop i)=fY s/\out.length<=i/\nJ (s.drop i)=true) (λst _=>match st with|[.int _ i]=>s.length-i.toNat|_=>0)
  ⟨0,[],rfl,by omega,hB1,hx1,rfl,Nat.le_refl _,he⟩ ?_
 rintro st g w2 ⟨i,out,rfl,hi,hB2,hx2,hs,ho,hes⟩;have hz2:=hx2.size;simp only[List.getD_cons_zero];rw[dI,cA,aB];have fin:∀{w3:World} {l:aH} {j:Nat} (c:UInt8),aS (sV w2 w.heap.size b) w2 w3->qI w3 w.heap.size b (out++[c])->i<=j->j<s.length->(out++[c])++fY (s.drop (j+1))=fY s->nJ (s.drop (j+1))=true->
   (∃i' out',[i64 ((j+1:Nat))]=[i64 (i':Nat)]/\i'<=s.length/\qI w3 w.heap.size b out'/\bA w w3/\out'++fY (s.drop i')=fY s/\out'.length<=i'/\nJ (s.drop i')=true)/\s.length-((j+1:Nat):Int).toNat<s.length-((i:Nat):Int).toNat:=λ{w3 l j} c hc hB3 hij hj he1 he2=>by
  refine⟨⟨j+1,out++[c],rfl,by omega,hB3,sV.new hx2 (Nat.le_refl _) (by omega) hc,he1,by simp;omega,he2⟩,?_⟩;simp only[Int.toNat_natCast];omega
 refine⟨λhlt=>?_,λhge=>?_⟩
 ·have hlt:i<s.length:=by omega
  refine nA hlt ?_;have hd:=eV hlt;have he0:=hes;rw[hd]at hes hs;refine aP.cut (λst w'=>w'=w2/\∃(j:Nat) (c:UInt8),st=[i64 (j:Nat),.int .u8 (c.toNat:Nat)]/\i<=j/\j<s.length/\(out++[c])++fY (s.drop (j+1))=fY s/\nJ (s.drop (j+1))=true) ?_ ?_
  ·rw[aM,aB];refine⟨λe=>?_,λe=>?_⟩
   ·have ec:s[i]=92:=UInt8.toNat_inj.1 (by have e:(s[i].toNat:Int)=92:=e;show s[i].toNat=92;omega);have hlt2:i+1<s.length:=by
     by_cases h2:i+1<s.length
     ·exact h2
     ·rw[List.drop_of_length_le (by omega),ec]at hes;simp[nJ]at hes
    have hd2:=eV hlt2;rw[hd2,ec]at hes hs;simp only[nJ,if_true]at hes;simp only[fY,if_true]at hs;rw[aW,Ai (by omega)];refine nA hlt2 ?_;rw[aM,aB];refine⟨λe1=>?_,λe1=>?_⟩
    ·have e1:s[i+1]=110:=UInt8.toNat_inj.1 (by have e:(s[i+1].toNat:Int)=110:=e1;show s[i+1].toNat=110;omega);rw[if_pos e1]at hs;exact⟨rfl,i+1,10,rfl,by omega,hlt2,by rw[<-hs];simp,hes⟩
    have e1':s[i+1]≠110:=λh=>e1 (by rw[h];rfl);rw[aM,aB];rw[if_neg e1']at hs;refine⟨λe2=>?_,λe2=>?_⟩
    ·have e2:s[i+1]=116:=UInt8.toNat_inj.1 (by have e:(s[i+1].toNat:Int)=116:=e2;show s[i+1].toNat=116;omega);rw[if_pos e2]at hs;exact⟨rfl,i+1,9,rfl,by omega,hlt2,by rw[<-hs];simp,hes⟩
    have e2':s[i+1]≠116:=λh=>e2 (by rw[h];rfl);rw[aM,aB];rw[if_neg e2']at hs;refine⟨λe3=>?_,λe3=>?_⟩
    ·have e3:s[i+1]=114:=UInt8.toNat_inj.1 (by have e:(s[i+1].toNat:Int)=114:=e3;show s[i+1].toNat=114;omega);rw[if_pos e3]at hs;exact⟨rfl,i+1,13,rfl,by omega,hlt2,by rw[<-hs];simp,hes⟩
    have e3':s[i+1]≠114:=λh=>e3 (by rw[h];rfl);rw[if_neg e3']at hs;exact⟨rfl,i+1,s[i+1],rfl,by omega,hlt2,by rw[<-hs];simp,hes⟩
   ·have ec:s[i]≠92:=λh=>e (by rw[h];rfl);refine⟨rfl,i,s[i],rfl,Nat.le_refl _,hlt,?_,?_⟩
    ·rw[<-hs];cases hr:s.drop (i+1)with
     |nil=>simp only[fY];rw[if_neg ec];simp
     |cons x r=>simp only[fY];rw[if_neg ec];simp
    ·cases hr:s.drop (i+1)with
     |nil=>rfl
     |cons x r=>rw[hr]at hes;simp only[nJ]at hes;rw[if_neg ec]at hes;exact hes
  rintro st g2 w3 ⟨rfl,j,c,rfl,hij,hj,he1,he2⟩;simp only[List.getD_cons_zero,List.getD_cons_succ];refine Ar (n:=c.toNat) hB2 hz2 (by omega) (UInt8.toNat_lt c) λw4 hB4 hc4=>?_;rw[aW,Ai (by omega)];rw[UInt8.ofNat_toNat]at hB4;exact fin (l:=[]) c hc4 hB4 hij hj he1 he2
 ·obtain rfl:i=s.length:=by omega
  rw[List.drop_length]at hs;simp only[fY,List.append_nil]at hs;subst hs;refine zH hB2 hz2 λw3 hc3=>?_;exact hK w3 (hx2.then hc3 λk hk e=>by omega)
end
theorem dH(s:aH)(i j:Nat):(s.drop i).drop j=s.drop (i+j):=List.drop_drop
section
variable [HX]
def aAS(n:Nat):Prop:=∀(s:aH) (w:World) (K:Q0),s.length<=n->s.length<=1000000->K (i64 (lZ s 0:Nat)) w->aA P0 112 [str s] w K
def VL(n:Nat):Prop:=∀(c:UInt8) (r:aH) (w:World) (K:Q0),r.length<n->r.length<=1000000->K (i64 ((1+oA r:Nat):Int)) w->aA P0 150 [str (c::r)] w K
theorem HJ(hq:VL n):aAS n:=by
 intro s w K hn hl hK;refine VA ?_;unfold aC2;refine bL.go (λst w'=>∃(d:Int) (i:Nat),st=[i64 d,i64 (i:Nat)]/\i<=s.length/\w'=w/\i+lZ (s.drop i) d=lZ s 0/\-(i:Int)<=d/\d<=i) (λst _=>match st with|[_,.int _ i]=>s.length-i.toNat|_=>0) ⟨0,0,rfl,by omega,rfl,by simp,by omega,by omega⟩ ?_;rintro st g w2 ⟨d,i,rfl,hi,rfl,hb,hd1,hd2⟩;simp only[List.getD_cons_zero,List.getD_cons_succ];rw[dI,cA,aB];refine⟨λhlt=>?_,λhge=>?_⟩
 ·have hlt:i<s.length:=by omega
  have hd:=eV hlt;rw[hd,kQ]at hb;have cond:∀(k:Nat),k<256->(((s[i].toNat:Nat):Int)=(k:Int)↔s[i]=UInt8.ofNat k):=λk hk=>by
   have:=Cr s[i] k hk;rwa[decide_eq_decide]at this
  refine aP.cut (λst w'=>w'=w2/\∃(d':Int) (j:Nat),st=[i64 d',i64 (j:Nat)]/\i<=j/\j<s.length/\j+1+lZ (s.drop (j+1)) d'=lZ s 0/\-((j+1:Nat):Int)<=d'/\d'<=((j+1:Nat):Int)) ?_ ?_
  ·refine nA hlt ?_;rw[aM,aB];refine⟨λe=>?_,λe=>?_⟩
   ·have e:s[i]=123:=(cond 123 (by omega)).1 e;rw[if_pos e]at hb;rw[aW,bD (by omega) (by omega)];exact⟨rfl,d+1,i,rfl,Nat.le_refl _,hlt,by omega,by omega,by omega⟩
   have e:¬s[i]=123:=λh=>e ((cond 123 (by omega)).2 h);rw[if_neg e]at hb;rw[aM,aB];refine⟨λe=>?_,λe=>?_⟩
   ·have e:s[i]=125:=(cond 125 (by omega)).1 e;rw[if_pos e]at hb;rw[iM,bD (by omega) (by omega),aM,aB];refine⟨λh0=>?_,λh0=>?_⟩
    ·rw[if_pos h0]at hb;rw[aW,Ai (by omega),hb];exact hK
    ·rw[if_neg h0]at hb;exact⟨rfl,d-1,i,rfl,Nat.le_refl _,hlt,by omega,by omega,by omega⟩
   have e:¬s[i]=125:=λh=>e ((cond 125 (by omega)).2 h);rw[if_neg e]at hb;rw[aM,aB];refine⟨λe=>?_,λe=>?_⟩
   ·have e:s[i]=34:=(cond 34 (by omega)).1 e;rw[if_pos e]at hb;rw[dP,cZ,cO];refine⟨by omega,by omega,?_⟩;rw[List.take_length,Int.toNat_natCast,hd];refine hq _ _ _ _ (by rw[List.length_drop];omega) (by rw[List.length_drop];omega) ?_;have hle:=(Wv _ (s.drop (i+1)) (Nat.le_refl _)).2;rw[List.length_drop]at hle;rw[iM,bD (by omega) (by omega),aW,bD (by omega) (by omega)];rw[dH]at hb;refine⟨rfl,d,i+oA (s.drop (i+1)),?_,by omega,?_,?_,by omega,by omega⟩
    ·simp only[List.cons.injEq,Value.int.injEq,true_and,and_true];omega
    ·omega
    ·rw[show i+oA (s.drop (i+1))+1=i+1+oA (s.drop (i+1))by omega];omega
   have e:¬s[i]=34:=λh=>e ((cond 34 (by omega)).2 h);rw[if_neg e]at hb;exact⟨rfl,d,i,rfl,Nat.le_refl _,hlt,by omega,by omega,by omega⟩
  rintro st g2 w3 ⟨rfl,d',j,rfl,hij,hj,hb',h1,h2⟩;simp only[List.getD_cons_zero,List.getD_cons_succ];rw[aW,Ai (by omega)];refine⟨⟨d',j+1,rfl,by omega,trivial,by omega,by omega,by omega⟩,?_⟩;simp only[Int.toNat_natCast];omega
 ·obtain rfl:i=s.length:=by omega
  rw[List.drop_length,Pr]at hb;rw[<-hb]at hK;exact hK
theorem Ns(hbr:aAS n):VL (n+1):=by
 intro c r w K hn hl hK;refine UY ?_;unfold aCD;have hlen:(c::r).length=r.length+1:=rfl;refine bL.go (λst w'=>∃(i:Nat),st=[i64 ((i+1:Nat):Int)]/\w'=w/\((i<=r.length/\i+oA (r.drop i)=oA r)\/(i=r.length+1/\oA r=r.length))) (λst _=>match st with|[.int _ i]=>r.length+2-i.toNat|_=>0) ⟨0,rfl,rfl,.inl ⟨by omega,by simp⟩⟩ ?_;rintro st g w2 ⟨i,rfl,rfl,hbi⟩;simp only[List.getD_cons_zero,List.getD_cons_succ];rw[dI,cA,aB,hlen];refine⟨λhlt=>?_,λhge=>?_⟩
 ·have hlt:i<r.length:=by omega
  obtain⟨hi,hb⟩:=hbi.resolve_right (by omega);have hd:=eV hlt;rw[hd,yG]at hb;have cond:∀(k:Nat),k<256->(((r[i].toNat:Nat):Int)=(k:Int)↔r[i]=UInt8.ofNat k):=λk hk=>by
   have:=Cr r[i] k hk;rwa[decide_eq_decide]at this
  have ix:∀{KK:Value->Prop},KK (.int .u8 (r[i].toNat:Nat))->lJ (str (c::r)) (i64 ((i+1:Nat):Int)) KK:=λh=>nA (s:=c::r) (i:=i+1) (by rw[hlen];omega) h;refine aP.cut (λst w'=>w'=w2/\∃(j:Nat),st=[i64 ((j+1:Nat):Int)]/\i<=j/\((j+1<=r.length/\j+1+oA (r.drop (j+1))=oA r)\/(j+1=r.length+1/\oA r=r.length))) ?_ ?_
  ·refine ix ?_;rw[aM,aB];refine⟨λe=>?_,λe=>?_⟩
   ·have e:r[i]=34:=(cond 34 (by omega)).1 e;rw[if_pos e]at hb;rw[aW,Ai (by omega)];rw[<-hb,show 1+(i+1)=i+1+1 by omega]at hK;exact hK
   have e:¬r[i]=34:=λh=>e ((cond 34 (by omega)).2 h);rw[if_neg e]at hb;refine ix ?_;rw[aM,aB];refine⟨λe=>?_,λe=>?_⟩
   ·have e:r[i]=92:=(cond 92 (by omega)).1 e;rw[if_pos e]at hb;rw[aW,Ai (by omega)];refine⟨rfl,i+1,rfl,by omega,?_⟩;cases hr:r.drop (i+1)with
    |nil=>
     rw[hr]at hb;have hle:r.length<=i+1:=by
      have:=congrArg List.length hr;rw[List.length_drop,List.length_nil]at this;omega
     simp only at hb;exact .inr ⟨by omega,by omega⟩
    |cons x rr=>
     rw[hr]at hb;simp only at hb;have e2:r.drop (i+1+1)=rr:=by rw[<-dH,hr];rfl
     have e3:=congrArg List.length hr;rw[List.length_drop,List.length_cons]at e3;exact .inl ⟨by omega,by rw[e2];omega⟩
   have e:¬r[i]=92:=λh=>e ((cond 92 (by omega)).2 h);rw[if_neg e]at hb;rw[dP,cZ,cO];refine⟨by omega,by rw[hlen];omega,?_⟩;rw[List.take_length,Int.toNat_natCast,List.drop_succ_cons,hd];refine wF ?_;rw[pre_eq,aQ];refine⟨λe=>?_,λe=>?_⟩
   ·rw[if_pos e]at hb;rw[aW,Ai (by omega),dP,cZ,cO];refine⟨by omega,by rw[hlen];omega,?_⟩;rw[List.take_length,Int.toNat_natCast,List.drop_succ_cons];refine hbr _ _ _ (by rw[List.length_drop];omega) (by rw[List.length_drop];omega) ?_;have hle:=Fv (r.drop (i+1)) 0;rw[List.length_drop]at hle;rw[aW,bD (by omega) (by omega)];rw[dH]at hb;refine⟨rfl,i+lZ (r.drop (i+1)) 0,?_,by omega,.inl ⟨by omega,?_⟩⟩
    ·simp only[List.cons.injEq,Value.int.injEq,true_and,and_true];omega
    ·rw[show i+lZ (r.drop (i+1)) 0+1=i+1+lZ (r.drop (i+1)) 0 by omega];omega
   ·rw[if_neg (by rw[e];decide)]at hb;exact⟨rfl,i,rfl,Nat.le_refl _,.inl ⟨by omega,by omega⟩⟩
  rintro st g2 w3 ⟨rfl,j,rfl,hij,hb'⟩;simp only[List.getD_cons_zero,List.getD_cons_succ];rw[aW,Ai (by omega)];refine⟨⟨j+1,rfl,trivial,hb'⟩,?_⟩;simp only[Int.toNat_natCast];omega
 ·have hq:oA r=r.length:=by
   rcases hbi with⟨hi,hb⟩|h
   ·rw[List.drop_of_length_le (by omega),Nt]at hb;omega
   ·exact h.2
  rw[hq,show 1+r.length=r.length+1 by omega]at hK;exact hK
theorem KJ:∀n,aAS n/\VL n
 |0=>have hq:VL 0:=λ_ _ _ _ h=>by omega
  ⟨HJ hq,hq⟩
 |n+1=>have hq:=Ns (KJ n).1
  ⟨HJ hq,hq⟩
theorem Pq{s:aH}{K:Q0}(hl:s.length<=1000000)(hK:K (i64 (HK s:Nat)) w):aA P0 112 [str s] w K:=(KJ s.length).1 s w K (Nat.le_refl _) hl hK
def yS(s:aH):List Value:=match Syn.insP s with|some (i,e)=>[i64 (i:Nat),i64 (e:Nat)]|none=>[i64 (-1),i64 0]
theorem LO(c:UInt8)(r:aH):Syn.insP (c::r)=if c=92 then(Syn.insP (r.drop 1)).map (λx=>(x.1+2,x.2+2))else if lI [36,123] (c::r)=true then some (0,1+HK r)else(Syn.insP r).map λx=>(x.1+1,x.2+1):=by
 cases r with
 |nil=>
  simp only[Syn.insP,List.drop_nil,Option.map_none];split
  ·rfl
  ·simp[lI,List.isPrefixOf]
 |cons e r=>
  simp only[Syn.insP,List.drop_succ_cons,List.drop_zero];split
  ·rfl
  ·have:(c=36/\e=123)↔lI [36,123] (c::e::r)=true:=by
    simp[lI,List.isPrefixOf];exact⟨λh=>⟨h.1.symm,h.2.symm⟩,λh=>⟨h.1.symm,h.2.symm⟩⟩
   by_cases h:c=36/\e=123
   ·rw[if_pos h,if_pos (this.1 h)]
   ·rw[if_neg h,if_neg (λx=>h (this.2 x))]
theorem tN{s:aH}{K:Q0}(hl:s.length<=1000000)(hK:K (.tuple (yS s).toArray) w):aA P0 79 [str s] w K:=by
 refine ZP ?_;unfold W79;refine bL.go (λst w'=>∃(i:Nat),st=[i64 (i:Nat)]/\w'=w/\Syn.insP s=(Syn.insP (s.drop i)).map λx=>(x.1+i,x.2+i)) (λst _=>match st with|[.int _ i]=>s.length+1-i.toNat|_=>0) ⟨0,rfl,rfl,by rw[List.drop_zero];cases Syn.insP s<;>rfl⟩ ?_;rintro st g w2 ⟨i,rfl,rfl,hb⟩;simp only[List.getD_cons_zero];rw[dI,cA,aB];unfold yS at hK;refine⟨λhlt=>?_,λhge=>?_⟩
 ·have hlt:i<s.length:=by omega
  have hd:=eV hlt;rw[hd,LO]at hb;have cond:∀(k:Nat),k<256->(((s[i].toNat:Nat):Int)=(k:Int)↔s[i]=UInt8.ofNat k):=λk hk=>by
   have:=Cr s[i] k hk;rwa[decide_eq_decide]at this
  refine aP.cut (λst w'=>w'=w2/\∃(j:Nat),st=[i64 (j:Nat)]/\i<=j/\j<=i+1/\Syn.insP s=(Syn.insP (s.drop (j+1))).map λx=>(x.1+(j+1),x.2+(j+1))) ?_ ?_
  ·refine nA hlt ?_;rw[aM,aB];refine⟨λe=>?_,λe=>?_⟩
   ·have e:s[i]=92:=(cond 92 (by omega)).1 e;rw[if_pos e,dH]at hb;rw[aW,Ai (by omega)];refine⟨rfl,i+1,rfl,by omega,by omega,?_⟩;rw[hb,Option.map_map];congr 1;funext x;simp only[Function.comp,Prod.mk.injEq];omega
   have e:¬s[i]=92:=λh=>e ((cond 92 (by omega)).2 h);rw[if_neg e]at hb;rw[dP,cZ,cO];refine⟨by omega,by omega,?_⟩;rw[List.take_length,Int.toNat_natCast,hd];refine wF ?_;rw[pre_eq,aQ];refine⟨λe=>?_,λe=>?_⟩
   ·rw[if_pos e]at hb;rw[aW,Ai (by omega),aW,Ai (by omega),dP,cZ,cO];refine⟨by omega,by omega,?_⟩;rw[List.take_length,Int.toNat_natCast];refine Pq (by rw[List.length_drop];omega) ?_;have hle:=Fv (s.drop (i+1)) 0;have eb:HK (s.drop (i+1))=lZ (s.drop (i+1)) 0:=rfl;rw[List.length_drop]at hle;rw[aW,bD (by omega) (by omega)];rw[hb]at hK;simp only[Option.map_some]at hK;have e1:((0+i:Nat):Int)=(i:Int):=by omega
    have e2:((1+HK (s.drop (i+1))+i:Nat):Int)=((i+1:Nat):Int)+(HK (s.drop (i+1)):Nat):=by omega
    rw[e1,e2]at hK;exact hK
   ·rw[if_neg (by rw[e];decide)]at hb;refine⟨rfl,i,rfl,by omega,by omega,?_⟩;rw[hb,Option.map_map];congr 1;funext x;simp only[Function.comp,Prod.mk.injEq];omega
  rintro st g2 w3 ⟨rfl,j,rfl,hij,hj,hb'⟩;simp only[List.getD_cons_zero];rw[aW,Ai (by omega)];refine⟨⟨j+1,rfl,trivial,hb'⟩,?_⟩;simp only[Int.toNat_natCast];omega
 ·rw[List.drop_of_length_le (by omega)]at hb;rw[hb]at hK;exact hK
end
def tG:List aH:=[[124,124],[38,38],[61,61],[33,61],[60],[62],[60,61],[62,61],[43],[45],[42],[47],[37]]
def Ay(x:Int):Int:=if x=0 then 27 else if x=101 then 26 else if x=202 then 20 else if x=203 then 21 else if x=304 then 22 else if x=305 then 23 else if x=306 then 24 else if x=307 then 25 else if x=408 then 15 else if x=409 then 16 else if x=510 then 17 else if x=511 then 18 else if x=512 then 19 else 0
theorem Ov:∀k:Fin 13,∀n:Fin 6,Ay ((n.val:Int)*100+(k.val:Int))=GW n.val (tG[k.val]'k.isLt):=by decide+kernel
theorem yC(x:aH):∀(l:List aH) (i:Nat),(∃k,l[k]?=some x/\mY l x i=((i+k:Nat):Int))\/(x∉l/\mY l x i=-1)
 |[],i=>.inr ⟨by simp,rfl⟩
 |a::r,i=>by
  simp only[mY]
  split
  ·rename_i h
   exact .inl ⟨0,by simp[h],rfl⟩
  ·rename_i h
   rcases yC x r (i+1)with⟨k,h1,h2⟩|⟨h1,h2⟩
   ·exact .inl ⟨k+1,by simpa using h1,by rw[h2];omega⟩
   ·exact .inr ⟨by simp[h,h1],h2⟩
theorem Oy{x:aH}(h:x∉tG):GW n x=0:=by
 simp only[tG,List.mem_cons,List.not_mem_nil,or_false,not_or]at h;obtain⟨h1,h2,h3,h4,h5,h6,h7,h8,h9,h10,h11,h12,h13⟩:=h;unfold GW;simp only[if_neg h1,if_neg h2,if_neg h3,if_neg h4,if_neg h5,if_neg h6,if_neg h7,if_neg h8,if_neg h9,if_neg h10,if_neg h11,if_neg h12,if_neg h13,ite_self]
theorem IT(hn:n<=5)(x:aH):Ay ((n:Int)*100+mY tG x 0)=GW n x:=by
 rcases yC x tG 0 with⟨k,h1,h2⟩|⟨h1,h2⟩
 ·have hk:k<13:=(List.getElem?_eq_some_iff.1 h1).1;have:=Ov ⟨k,hk⟩ ⟨n,by omega⟩;rw[h2,Nat.zero_add,this];congr 1;exact(List.getElem?_eq_some_iff.1 h1).2
 ·rw[h2,Oy h1];have:∀m:Fin 6,Ay ((m.val:Int)*100+-1)=0:=by decide+kernel
  exact this ⟨n,by omega⟩
section
variable [HX]
theorem SE{x:aH}{K:Q0}(hK:K (i64 (tK x)) w):aA P0 259 [str x] w K:=by
 refine Uh ?_;unfold aB4;unfold tK at hK;rw[nK,aB];refine⟨λh=>by rw[if_pos h]at hK;exact hK,λh=>?_⟩;rw[if_neg h]at hK;rw[nK,aB];refine⟨λh=>by rw[if_pos h]at hK;exact hK,λh=>?_⟩;rw[if_neg h]at hK;rw[nK,aB];refine⟨λh=>by rw[if_pos h]at hK;exact hK,λh=>?_⟩;rw[if_neg h]at hK;exact hK
theorem Qr{K:Q0}(h:∀v w',SlAt w' T v n cs->bA w w'->K v w')(hn:cs.length=n):K (.slice (some ⟨w.heap.size,0,none⟩) n n) (w.alloc (.cells cs.toArray T)):=
 row_new λa w' ha hz hb hx _=>h _ w' (wW hb hn) hx
theorem Ll{K:Q0}(hK:∀v w',SlAt w' Ah v 13 (strs tG)->bA w w'->K v w'):
  bR Ah 13 (List.replicate 13 (.string (aL []))) [(0,1,(.string (aL [124,124]))),(1,1,(.string (aL [38,38]))),(2,1,(.string (aL [61,61]))),(3,1,(.string (aL [33,61]))),(4,1,(.string (aL [60]))),(5,1,(.string (aL [62]))),(6,1,(.string (aL [60,61]))),(7,1,(.string (aL [62,61]))),(8,1,(.string (aL [43]))),(9,1,(.string (aL [45]))),(10,1,(.string (aL [42]))),(11,1,(.string (aL [47]))),(12,1,(.string (aL [37])))] w K:=by
 rw[bR];simp only[List.replicate,cG,bI,List.length_cons,List.length_nil,List.set_cons_zero,List.set_cons_succ,Nat.reduceAdd,Nat.reduceLT,true_and,Nat.zero_lt_succ];exact Qr hK rfl
theorem SQ{t:Tok}{K:Q0}(hn:n<=5)(hK:∀w',bA w w'->K (i64 (sA t n)) w'):aA P0 152 [.agg (dB t).toArray,i64 (n:Nat)] w K:=by
 refine UW ?_;unfold aCB;refine dF (z:=dB t) λb w1 hb hz1 hbb hx1=>?_;unfold sA at hK;have ldc:∀{w':World} {off:Nat} {v:Value} {KK:Value->Prop},w'.heap[b]?=some (.cells (dB t).toArray qG (0,0))->(dB t)[off]?=some v->KK v->aF off (.pointer (some ⟨b,0,none⟩)) λx=>aE false 1 x w' KK:=λh hv hk=>by
  rw[aO,aV,Nat.zero_add,bY];exact⟨_,by rw[aX,h,aZ];simpa using hv,hk⟩
 refine ldc hbb rfl ?_;rw[dG,aB];refine⟨λh=>?_,λh=>?_⟩
 ·rw[if_neg h]at hK;exact hK w1 hx1
 have h:t.k=4:=by omega
 rw[if_pos h,<-IT hn]at hK;rw[Fy,bD (by omega) (by omega)];refine Ll λv w2 hv hx2=>?_;refine ldc (hx2.at hbb id) rfl ?_;refine Kj (l:=tG) hv (by decide) ?_;have hr:-1<=mY tG t.t 0/\mY tG t.t 0<=12:=by
  rcases yC t.t tG 0 with⟨k,h1,h2⟩|⟨h1,h2⟩
  ·have hk:k<13:=(List.getElem?_eq_some_iff.1 h1).1;rw[h2];omega
  ·rw[h2];omega
 rw[aW,bD (by omega) (by omega)];generalize (n:Int)*100+mY tG t.t 0=x at*
 have hx:=hK w2 (hx1.trans hx2);unfold Ay at hx;have step:∀{k r e:Int} {A B:Prop},((if x=k then r else e)=r->A)->(¬x=k->B)->aD (.bool (decide (x=k))) A B:=λh1 h2=>by
  rw[aB];exact⟨λe=>h1 (if_pos e),h2⟩
 iterate 13
  rw[aM,aB];refine⟨λe=>by rw[if_pos e]at hx;exact hx,λe=>?_⟩;rw[if_neg e]at hx
 exact hx
theorem nQ{b:Nat}(h:w.heap[b]?=some (.cells cs.toArray T (0,0)))(hn:0<n:=by omega):SlAt w T (.slice (some ⟨b,0,none⟩) n n) n cs:=
 ⟨_,_,rfl,Nat.le_refl _,λe=>(by cases e),λ_=>⟨b,0,cs.toArray,_,rfl,h,λi _=>by simp⟩⟩
section
variable{w0 w:World}{p f:Nat}{M:Lay}{vt:Value}{s:PS}{top:List Nat}{N:Int}{K:Q0}
theorem JX{t:Tok}(h:PR w0 w p f M vt s top)(hx:Co t.t)(hl:t.t.length<=1000000)(hK:∀l s',lP s t=.ok l s'->∀w',bA w w'->K (str l) w')(ht:∀c a,lP s t=.err c a->Ie w0 f c a):
  aA P0 47 [.pointer (some ⟨p,0,none⟩),.agg (dB t).toArray] w K:=by
 refine aAn ?_;unfold W47;refine dF (z:=dB t) λb w1 hb hz1 hbb hx1=>?_;have h1:=h.ext hx1;have L1:=h.loc hz1 hb hbb;unfold lP at hK ht;refine aP.cut (λ_ w'=>w'=w1/\(Syn.insP t.t).isSome=false) ?_ ?_
 ·refine L1.ldf rfl ?_;refine tN hl ?_;rw[aK];unfold yS;cases hi:Syn.insP t.t with
  |none=>
   refine⟨i64 (-1),rfl,?_⟩;rw[aK];refine⟨i64 0,rfl,?_⟩;rw[gR,aB];exact⟨λe=>by omega,λ_=>⟨rfl,rfl⟩⟩
  |some x=>
   refine⟨i64 (x.1:Nat),rfl,?_⟩;rw[aK];refine⟨i64 (x.2:Nat),rfl,?_⟩;rw[gR,aB];refine⟨λ_=>?_,λe=>by omega⟩;refine L1.ldf rfl ?_;exact lY h1 (ht _ _ (by rw[hi];rfl))
 rintro st g w2 ⟨rfl,hi⟩;rw[if_neg (by rw[hi];decide)]at hK;refine L1.ldf rfl ?_;refine Iy ((Im hx).1 (by cases hr:Syn.insP t.t with|none=>rfl|some x=>rw[hr]at hi;cases hi)) hl λw3 hx3=>?_;exact hK _ _ rfl w3 (hx1.trans hx3)
theorem IS{s:PS}(h:(bO s).k=5):dQ (step1 (aG s))=dQ s:=by
 have ht:(aG s).toks=s.toks:=by unfold aG;split<;>rfl
 have hk:(iH (aG s)).k=5:=h;have hlt:(aG s).i<(aG s).toks.length:=by
  by_cases hl:(aG s).i<(aG s).toks.length
  ·exact hl
  ·unfold iH at hk;rw[List.getD_eq_getElem?_getD,List.getElem?_eq_none (by omega)]at hk;cases hk
 have hg:(aG s).toks[(aG s).i]?=some (iH (aG s)):=by unfold iH;rw[List.getD_eq_getElem?_getD,List.getElem?_eq_getElem hlt];rfl
 have e:=pO hg;rw[if_pos hk]at e;have hq:s.quiet=false:=by
  by_cases hq:s.quiet=true
  ·exfalso;have e2:aG (aG s)=aG s:=dV s;have hq2:(aG s).quiet=true:=by unfold aG;split<;>exact hq
   have e3:(aG (aG s)).i=(aG s).i+eC ((aG s).toks.drop (aG s).i):=by
    rw[aG,if_pos hq2]
   rw[e2]at e3;omega
  ·simpa using hq
 have n1:∀s:PS,s.quiet=false->aG s=s:=λs h=>by unfold aG;rw[h];rfl
 have h1:=n1 s hq;rw[h1]at e⊢;have h2:=n1 (step1 s) hq;unfold dQ;rw[h1,h2];show({s with i:=s.i+1+eC (s.toks.drop (s.i+1))}:PS)={s with i:=s.i+eC (s.toks.drop s.i)};rw[e];congr 1;omega
theorem IR{N:Int}{s:PS}(hs:WS N s)(h:(bO s).k≠5):dQ s=aG s:=by
 have hn:=(dN hs).ws hs;have e:=pO (tA hn);have hk:(iH (aG s)).k≠5:=h;rw[if_neg hk,(dN hs).toks]at e;unfold dQ;rw[e];rfl
theorem uR(h:PR w0 w p f M vt s top)(hs:WS N s)(hN:N<=1000000)(hl:s.toks.length<=100000)(hK:∀w',PR w0 w' p f M vt (dQ s) top->Eff p f M M w w'->K (.tuple #[]) w'):
  aA P0 28 [.pointer (some ⟨p,0,none⟩)] w K:=by
 refine aAy ?_;unfold W28;refine bL.go (λst w'=>st=[]/\∃s1,PR w0 w' p f M vt s1 top/\WS N s1/\s1.toks=s.toks/\dQ s1=dQ s/\Eff p f M M w w') (λ_ w'=>s.toks.length-vY w' p) ⟨rfl,s,h,hs,rfl,rfl,Eff.refl _ _ _ _⟩ ?_;rintro st g w2 ⟨rfl,s1,h2,hs1,et,el,he2⟩;refine jM h2 hs1 hN (by rw[et];exact hl) λw3 h3 he3=>?_;refine⟨i64 (bO s1).k,rfl,?_⟩;dsimp only;rw[aM,aB];have hg:=dN hs1;have hsn:=hg.ws hs1;refine⟨λhk=>?_,λhk=>?_⟩
 ·have hk0:(bO s1).k≠0:=by rw[hk];decide
  have hst:=fJ hs1 hk0;refine h3.go (JI hsn (by rw[hg.toks,et];exact hl)) λw4 h4 he4 hz4=>?_;refine⟨⟨rfl,_,h4,hst.1.ws hs1,hst.1.toks.trans et,(IS hk).trans el,(he2.trans he3).trans he4⟩,?_⟩;rw[h4.at_,h2.at_];have:=hst.2;have h5:=hst.1.lt;rw[hst.1.toks,et]at h5;omega
 ·rw[IR hs1 hk]at el;rw[el]at h3;exact hK w3 h3 (he2.trans he3)
theorem kU{a:Int}{q:Bool}{fv:Value}(h:PR w0 w p f M vt s top)(hd:s.deep<=24)(hbad:s.deep=24->Ie w0 f 7 a)
  (hf:s.deep≠24->∀w1,PR w0 w1 p f M vt {s with deep:=s.deep+1,quiet:=q} top->Eff p f M M w w1->kP P0 fv [] w1 λ_ w2=>∃M2 s2,PR w0 w2 p f M2 vt s2 top/\s2.deep=s.deep+1/\
    ∀w3,PR w0 w3 p f M2 vt {s2 with deep:=s.deep,quiet:=s.quiet} top->Eff p f M2 M2 w2 w3->K (.tuple #[]) w3):
  aA P0 50 [.pointer (some ⟨p,0,none⟩),i64 a,.bool q,fv] w K:=by
 refine aAk ?_;unfold W50;refine aP.cut (λ_ w'=>w'=w/\s.deep≠24) ?_ ?_
 ·refine h.ld rfl ?_;rw[aM,aB];refine⟨λe=>?_,λe=>⟨rfl,λh=>e (by rw[h];rfl)⟩⟩;exact lY h (hbad (by omega))
 rintro st g w1 ⟨rfl,hne⟩;refine h.ld rfl ?_;refine h.ld rfl ?_;rw[aW,Ai (by omega)];refine h.st_deep λw2 h2 he2 hz2=>?_;refine h2.st_quiet (q:=q) λw3 h3 he3 hz3=>?_;have hc:=hf hne w3 h3 (he2.trans he3);refine HY.mono ?_ hc;rintro v w4 ⟨M2,s2,h4,e4,hk⟩;refine h4.ld rfl ?_;rw[iM,bD (by omega) (by omega)];have e:((s2.deep:Nat):Int)-1=((s.deep:Nat):Int):=by omega
 rw[e];refine h4.st_deep λw5 h5 he5 hz5=>?_;refine h5.st_quiet (q:=s.quiet) λw6 h6 he6 hz6=>?_;exact hk w6 h6 (he5.trans he6)
theorem IG{M0:Lay}{wb:World}{e:Ex}{d:List Value}(h:PR w0 w p f M vt s top)(he:Eff p f M0 M wb w)(hd:PO w w0.heap.size e d)(hu:∀k∈ub d,Off w0 w p f M vt k)(hn:(ub d).Nodup)(hnew:∀k∈ub d,wb.heap.size<=k)(hlen:s.ex.length<=1000000)
  (hK:∀M' w',PR w0 w' p f M' vt {s with ex:=s.ex++[e]} top->Eff p f M0 M' wb w'->(∀b T cs,Loc w0 w p f M vt b T cs->b∉ub d->Loc w0 w' p f M' vt b T cs)->K (i64 (s.ex.length:Nat)) w'):
  aA P0 117 [.pointer (some ⟨p,0,none⟩),.agg d.toArray] w K:=by
 refine Vw ?_;unfold aCY;have hdl:d.length=5:=by obtain⟨va,vk,rfl,_⟩:=hd;rfl
 have hd1:∀u∈d,cY u=true:=by
  obtain⟨va,vk,rfl,h1,h2⟩:=hd;obtain⟨_,_,rfl,_⟩:=h1.sl.shape;obtain⟨_,_,rfl,_⟩:=h2.sl.shape;intro u hu;simp only[List.mem_cons,List.not_mem_nil,or_false]at hu;rcases hu with rfl|rfl|rfl|rfl|rfl<;>rfl
 refine dF (z:=d) λb w1 hb hz1 hbb hx1=>?_;have h1:=(h.ext hx1).drew;have hx1':bA w w1.drew:=hx1.trans (bM _);have L1:=(h.loc hz1 hb hbb).drew;have ldF:∀{w':World},w'.heap[p]?=some (.cells [vt,i64 (s.i:Nat),i64 s.off,.pointer (some ⟨f,0,none⟩),i64 (s.deep:Nat),.bool s.quiet].toArray PsT (0,0))->aE false 1 (.pointer (some ((⟨p,0,none⟩:Addr).add 3))) w' λx=>x=.pointer (some ⟨f,0,none⟩):=by
  intro w' h;rw[bY];exact⟨_,by rw[aV,aX,h,aZ];rfl,rfl⟩
 have ldE:∀{w':World} {v:Value} {r:List Value},w'.heap[f]?=some (.cells (v::r).toArray VP (0,0))->w'.cell? ((⟨f,0,none⟩:Addr).add 0)=some v:=by
  intro w' v r h;rw[aV,aX,h,aZ];rfl
 have use:∀k,M.vE.ownBlock=some k->k∈M.uses f:=λk hk=>List.mem_cons_of_mem _ (gI (v:=M.vE) (by simp) hk);have nE:¬M.vE.ownBlock=some p:=λe=>h.np (use p e);have nF:¬M.vE.ownBlock=some f:=λe=>by
  have hnd:=h.fr.nd;rw[Ik,List.nodup_cons]at hnd;exact hnd.1 (List.mem_append_left _ (dX.2 e))
 have pf:p≠f:=λe=>h.np (e▸List.mem_cons_self);have cF:∀{w':World},w'.heap[p]?=some (.cells [vt,i64 (s.i:Nat),i64 s.off,.pointer (some ⟨f,0,none⟩),i64 (s.deep:Nat),.bool s.quiet].toArray PsT (0,0))->w'.cell? ((⟨p,0,none⟩:Addr).add 3)=some (.pointer (some ⟨f,0,none⟩)):=by
  intro w' h;rw[aV,aX,h,aZ];rfl
 rw[bX,aO,bY];refine⟨_,cF h1.ps,?_⟩;rw[bX,aO,bY];refine⟨_,cF h1.ps,?_⟩;rw[bX,aO,bY];refine⟨_,ldE h1.fr.hf,?_⟩;refine aU L1.1 hdl ?_;refine xQ hdl rfl λr w2 hr hz2 hrb hx2=>?_;have h2:=h1.ext hx2;refine⟨by rw[bY];exact⟨_,ldE h2.fr.hf,rfl⟩,ldF h2.ps,ldF h2.ps,?_⟩;have hx02:bA w w2:=hx1'.trans hx2;have hc0:aS (λk=>M.vE.ownBlock=some k) w w2:=aS.of_ext hx02;refine fN aBE h2.fr.oE (nQ (n:=1) (T:=zJ) (cs:=d) hrb) (by rw[hdl]) hd1 (by omega) (by omega) h2.base λv' w3 hO3 hc3 hv3=>?_;have hp3:=hc3.at h2.ps nE;have hf3:=hc3.at h2.fr.hf nF;refine⟨ldF hp3,?_⟩;rw[bX,aO,aV,Nat.zero_add];obtain⟨vp,vc,ev,_⟩:=hO3.sl.shape;refine eY hf3 (by rw[ev];rfl) (by simp) λw4 hz4 hf4 hc4=>?_;have hz02:=hx02.size;obtain⟨h4,he4,hk4⟩:=h.putE (w1:=w3) (w2:=w4) (v':=v') he hd hu hn hnew hO3 (hc0.trans hc3) (λk hk=>(hv3 k hk).imp id λe=>by omega) hc4 (by rw[hf4];simp);rw[bX,aO,bY];refine⟨_,cF h4.ps,?_⟩;rw[bX,aO,bY];refine⟨_,ldE h4.fr.hf,?_⟩;dsimp only;rw[ev,uU,iM,bD (by omega) (by omega)];have e1:((s.ex.length+1:Nat):Int)-1=(s.ex.length:Nat):=by omega
 rw[e1];exact hK _ w4 h4 he4 hk4
end
end
structure Gd(N:Int)(s:PS)(dl:Nat):Prop where
 ws:WS N s
 hN:N<=1000000
 few:s.toks.length<=4097
 ts:TS s.toks
 phi:phi s<=100000
 lev:s.deep+dl=24
theorem Gd.l{N:Int}{s:PS}{dl:Nat}(h:Gd N s dl):s.toks.length<=100000:=by have:=h.few;omega
theorem Gd.go{N:Int}{s s':PS}{dl:Nat}(h:Gd N s dl)(hg:qH N s s')(hp:Syn.phi s'<=Syn.phi s):Gd N s' dl:=
 ⟨hg.ws h.ws,h.hN,by rw[hg.toks];exact h.few,by rw[hg.toks];exact h.ts,Nat.le_trans hp h.phi,by rw[hg.deep];exact h.lev⟩
theorem Gd.frame{N:Int}{s:PS}{dl:Nat}(h:Gd N s (dl+1))(q:Bool):Gd N {s with deep:=s.deep+1,quiet:=q} dl:=⟨sX h.ws _ _,h.hN,h.few,h.ts,h.phi,by have:=h.lev;show s.deep+1+dl=24;omega⟩
theorem Gd.back{N:Int}{s s':PS}{dl:Nat}{q:Bool}(h:Gd N s (dl+1))(h':Gd N s' dl):Gd N {s' with deep:=s.deep,quiet:=q} (dl+1):=⟨sX h'.ws _ _,h.hN,h'.few,h'.ts,h'.phi,h.lev⟩
theorem Gd.now{N:Int}{s:PS}{dl:Nat}(h:Gd N s dl):Gd N (aG s) dl:=h.go (dN h.ws) (fS s)
theorem Gd.take{N:Int}{s:PS}{dl:Nat}(h:Gd N s dl)(w:aH):Gd N (aR s w).2 dl:=h.go (fI h.ws w).1 (gK s w).1
theorem Gd.lines{N:Int}{s:PS}{dl:Nat}(h:Gd N s dl):Gd N (dQ s) dl:=h.go (iU h.ws).1 (qZ s)
theorem Gd.next{N:Int}{s:PS}{dl:Nat}(h:Gd N s dl):Gd N (eZ s) dl:=h.go (nD h.ws).1 (qY s).1
theorem Gd.step{N:Int}{s:PS}{dl:Nat}(h:Gd N s dl)(hk:(bO s).k≠0):Gd N (step1 (aG s)) dl:=h.go (fJ h.ws hk).1 (by have:=(kX hk).2;omega)
theorem Gd.want{N:Int}{s s':PS}{dl:Nat}(h:Gd N s dl){w:aH}(e:kJ s w=.ok () s'):Gd N s' dl/\s.i<s'.i/\s'.ex=s.ex/\s'.bl=s.bl:=by
 have h1:=fW h.ws w;have h2:=gJ s w;rw[e]at h1 h2;obtain⟨g,x,b⟩:=h1;exact⟨h.go g.1 (by have h2:Syn.phi s'+1<=Syn.phi s:=h2;omega),g.2,x,b⟩
theorem Gd.kind{N:Int}{s s':PS}{dl:Nat}{t:Tok}{k:Int}(h:Gd N s dl)(hk:k≠0)(e:iA s k=.ok t s'):Gd N s' dl/\s.i<s'.i/\s'.ex=s.ex/\s'.bl=s.bl/\t=bO s/\t.k=k:=by
 have h1:=gZ h.ws k hk;have h2:=jX s k;rw[e]at h1 h2;obtain⟨g,x,b,ht,hk⟩:=h1;exact⟨h.go g.1 h2.1,g.2,x,b,ht,hk⟩
theorem Gd.ex{N:Int}{s:PS}{dl:Nat}(h:Gd N s dl):s.ex.length<=100000/\s.bl.length<=100000:=by have:=YM s;have:=h.phi;omega
structure mV(F:PS->R Nat):Prop where
 ok:∀N,xW N F
 z:EZ F
theorem Gd.e{N:Int}{s s':PS}{dl x:Nat}{F:PS->R Nat}(h:Gd N s dl)(hF:mV F)(e:F s=.ok x s'):Gd N s' dl/\s.i<s'.i:=by
 have h1:=hF.ok N s h.ws;have h2:=hF.z s;rw[e]at h1 h2;exact⟨h.go h1.1.1 h2,h1.1.2⟩
theorem Gd.at0{N:Int}{s:PS}{dl:Nat}(h:Gd N s dl):0<=(bO s).a/\(bO s).a<=1000000:=by have:=fT h.ws;have:=h.hN;omega
section
variable [HX]
def uD(w0:World)(f:Nat):Prop:=∀(w:World) (K:Q0) (s:aH),aS (Of f) w0 w->s.length<=1000000->
 (∀l,mE s=.ok l->∀v w',bA w w'->SlAt w' qG v l.length (toks l)->(∀k,v.ownBlock=some k->w.heap.size<=k/\k<w'.heap.size)->K (.tuple #[v,.pointer none]) w')->
 (∀c a,mE s=.bad c a->∀d w',bA w w'->w.heap.size<=d->w'.heap[d]?=some (.cells [i64 c,str [],i64 a].toArray 53 (0,0))->K (.tuple #[.slice none 0 0,.pointer (some ⟨d,0,none⟩)]) w')->
 aA P0 26 [str s] w K
def EC(w0:World)(f:Nat)(g:FuncId)(F:PS->R Nat)(dl:Nat):Prop:=∀(w:World) (p:Nat) (M:Lay) (vt:Value) (s:PS) (top:List Nat) (N:Int) (K:Q0),PR w0 w p f M vt s top->Gd N s dl->
 (∀x s',F s=.ok x s'->∀M' w',PR w0 w' p f M' vt s' top->Eff p f M M' w w'->K (i64 (x:Nat)) w')->(∀c a,F s=.err c a->Ie w0 f c a)->aA P0 g [.pointer (some ⟨p,0,none⟩)] w K
structure Ro(w0 w:World)(p f:Nat)(M:Lay)(vt:Value)(wb:Nat)(T:TypeId)(m:Nat)(v:Value)(n:Nat)(xs:List Value):Prop where
 own:Own w w0.heap.size T m v n xs
 off:∀k,v.ownBlock=some k->Off w0 w p f M vt k
 new:∀k,v.ownBlock=some k->wb<=k
section
variable{w0 w w' w1:World}{p f b:Nat}{M M':Lay}{vt:Value}{s:PS}{top:List Nat}{N:Int}{K:Q0}{wb:Nat}{T:TypeId}{m:Nat}{v:Value}{n:Nat}{xs:List Value}
theorem Ro.nil(T:TypeId)(m:Nat):Ro w0 w p f M vt wb T m (.slice none 0 0) 0 []:=⟨⟨by simp,.inl ⟨rfl,rfl⟩⟩,λk hk=>by simp[Value.ownBlock]at hk,λk hk=>by simp[Value.ownBlock]at hk⟩
theorem Ro.eff(h:Ro w0 w p f M vt wb T m v n xs)(he:Eff p f M M' w w'):Ro w0 w' p f M' vt wb T m v n xs:=⟨he.own h.own h.off,λk hk=>(h.off k hk).eff he,h.new⟩
theorem Ro.ext(h:Ro w0 w p f M vt wb T m v n xs)(hx:bA w w'):Ro w0 w' p f M vt wb T m v n xs:=h.eff (Eff.ext hx)
theorem Ro.one(h:Ro w0 w p f M vt wb T m v n xs)(hc:aS (HZ b) w w')(hb:v.ownBlock≠some b):Ro w0 w' p f M vt wb T m v n xs:=
 ⟨fG h.own hc λk hk e=>hb (by have e:k=b:=e;rw[hk,e]),λk hk=>(h.off k hk).up hc.size,h.new⟩
theorem Ro.row{u:Value}(h:Ro w0 w p f M vt wb T m v n xs)(hc:aS (λk=>u.ownBlock=some k) w w')(hb:∀k,v.ownBlock=some k->u.ownBlock≠some k):Ro w0 w' p f M vt wb T m v n xs:=
 ⟨fG h.own hc λk hk e=>hb k hk e,λk hk=>(h.off k hk).up hc.size,h.new⟩
theorem Loc.row{u:Value}(h:Loc w0 w p f M vt b T cs)(hc:aS (λk=>u.ownBlock=some k) w w')(hb:u.ownBlock≠some b):Loc w0 w' p f M vt b T cs:=⟨hc.at h.1 hb,h.2.up hc.size⟩
theorem PR.row{u:Value}(h:PR w0 w p f M vt s top)(hc:aS (λk=>u.ownBlock=some k) w w')(hb:∀k,u.ownBlock=some k->Off w0 w p f M vt k):PR w0 w' p f M vt s top:=
 h.keep hc (λk hk e=>by have:=(hb k e).1.1;omega) (λk hk e=>(hb k e).2.2.1 hk) (λe=>(hb p e).2.1 rfl) λk hk e=>(hb k e).2.2.2 hk
theorem Ro.app{t:TypeId}{bytes:Nat}{r:Nat}{news:List Value}{ty:TypeId}(hT:mM P0 t T m bytes)(hR:Ro w0 w p f M vt wb T m v n xs)(hp:PR w0 w p f M vt s top)(hr:w.heap[r]?=some (.cells news.toArray T (0,0)))(hl:news.length=m)(h1:∀u∈news,cY u=true)(hn:n<=1000000)(hby:bytes<=1000)(hwb:wb<=w.heap.size)
  (hK:∀v' w',Ro w0 w' p f M vt wb T m v' (n+1) (xs++news)->aS (λk=>v.ownBlock=some k) w w'->(∀k,v'.ownBlock=some k->v.ownBlock=some k\/w.heap.size<=k)->PR w0 w' p f M vt s top->K v' w'):
  bP P0 (Builtin.append_ #[t,t] ty #[v,.slice (some ⟨r,0,none⟩) 1 1]) w K:=by
 have hb:=hp.base;have hbt:(n+1)*bytes<=140737488355328:=Nat.le_trans (Nat.mul_le_mul (show n+1<=1000001 by omega) hby) (by decide);refine fN hT hR.own (nQ (n:=1) hr) (by rw[hl];omega) h1 (by omega) hbt hb λv' w' hO hc hv=>?_;refine hK v' w' ⟨hO,λk hk=>?_,λk hk=>?_⟩ hc hv (hp.row hc hR.off)
 ·rcases hv k hk with e|e
  ·exact(hR.off k e).up hc.size
  ·exact hp.off_new e (mQ hO hk).1
 ·rcases hv k hk with e|e
  ·exact hR.new k e
  ·omega
theorem PR.inner{q:Nat}{q':PS}(h:PR w0 w p f M vt s top)(hx:bA w w1)(hq:PR w0 w' q f M' v q' top)(he:Eff q f M M' w1 w')(hqn:w.heap.size<=q):
  PR w0 w' p f M' vt {s with ex:=q'.ex,bl:=q'.bl} top/\Eff p f M M' w w':=by
 have he':Eff p f M M' w w':=Eff.anew hx he hqn;have hz:=hx.size;have h1:=h.ext hx;refine⟨⟨hq.ch,hq.fr,?_,?_,λe=>?_,h.lo,λk hk=>⟨λe=>?_,(h.nt k hk).2.1,Nat.lt_of_lt_of_le (h.nt k hk).2.2 he'.chg.size⟩⟩,he'⟩
 ·exact he.chg.at h1.ps λe=>by
   rcases Ip e with e|e
   ·have:=h.lt;omega
   ·exact h.np e
 ·exact uI h1.tk he.chg λk hk e=>by
   rcases Ip e with e|e
   ·have:=(h.nt k hk).2.2;omega
   ·exact(h.nt k hk).1 e
 ·exact(he'.us p e).elim h.np λe=>by have:=h.lt;omega
 ·exact(he'.us k e).elim (h.nt k hk).1 λe=>by have:=(h.nt k hk).2.2;omega
theorem Td{E:PS->R Nat}{dl:Nat}{t:aH}{a:Int}(hS:uD w0 f)(hE:EC w0 f 82 E dl)(hF:mV E)(h:PR w0 w p f M vt s top)(hg:Gd N s dl)(h0:0<=a)(h1:a+t.length<=N)(hphi:Syn.phi s+t.length<=100000)
  (hK:∀x s',lC E s t a=.ok x s'->∀M' w',PR w0 w' p f M' vt s' top->Eff p f M M' w w'->K (i64 (x:Nat)) w')(ht:∀c a',lC E s t a=.err c a'->Ie w0 f c a'):
  aA P0 279 [.pointer (some ⟨p,0,none⟩),str t,i64 a] w K:=by
 refine TY ?_;unfold aBV;have hN:=hg.hN;refine hS w _ t h.ch (by omega) (λl hl v w1 hx1 hv hvn=>?_) (λc b hb d w1 hx1 hd hdb=>?_)
 ·rw[aK];refine⟨v,rfl,?_⟩;rw[aK];refine⟨.pointer none,rfl,?_⟩;refine aP.cut (λ_ w'=>w'=w1) ?_ ?_
  ·show aD (.bool false) _ _;rw[bJ]
  rintro st g w2 rfl;have h2:=(h.ext hx1).drew;have hx2:=hx1.trans (bM w2);refine h2.ld rfl ?_;refine h2.ld rfl ?_;obtain⟨q,cap,ev,_⟩:=hv.shape;subst ev;simp only[dU,bN,Et,bI,List.length_cons,List.length_nil,List.set_cons_zero,List.set_cons_succ,Nat.reduceAdd,Nat.reduceLT,true_and,Nat.zero_lt_succ];refine dF (z:=[.slice q l.length cap,i64 0,i64 a,.pointer (some ⟨f,0,none⟩),i64 (s.deep:Nat),.bool false]) λqb w3 hq hz3 hqb hx3=>?_;have hx03:=hx2.trans hx3;have h3:=h2.ext hx3;have z2:w2.drew.heap.size=w2.heap.size:=rfl;have hz1:=hx1.size;have hq3:PR w0 w3 qb f M (.slice q l.length cap) ⟨l,0,a,s.deep,false,s.ex,s.bl⟩ top:=
   ⟨h3.ch,h3.fr,hqb,hv.ext ((bM w2).trans hx3),λe=>by have:=h.fr.lt _ e;omega,by have:=h.base;omega,λk hk=>by
    have hb:=hvn k hk;exact⟨λe=>by have:=h.fr.lt _ e;omega,by omega,by omega⟩⟩
  have htg:=Em hl h0 h1;have hw:=El hl;have hgq:Gd N ⟨l,0,a,s.deep,false,s.ex,s.bl⟩ dl:=⟨⟨htg,List.length_pos_iff.2 htg.ne,hg.ws.pN⟩,hN,(Ga hl).1,JP hl,by
   unfold Syn.phi at hphi⊢;simp only[List.drop_zero];omega,hg.lev⟩
  unfold lC at hK ht;simp only[hl]at hK ht;refine hE w3 qb M _ _ top N _ hq3 hgq (λx q1 e1 M' w4 h4 he4=>?_) λc a' e1=>ht c a' (by rw[e1];rfl);rw[e1]at hK ht;simp only[R.bind]at hK ht;obtain⟨hg1,_⟩:=hgq.e hF e1;refine tM h4 hg1.ws hN hg1.l (λt' q2 e2 w5 h5 he5=>?_) λc a' e2=>ht c a' (by rw[e2]);rw[e2]at hK;obtain⟨h6,he6⟩:=h.inner hx03 h5 (he4.trans he5) (by omega);exact hK x _ rfl M' w5 h6 he6
 ·rw[aK];refine⟨.slice none 0 0,rfl,?_⟩;rw[aK];refine⟨.pointer (some ⟨d,0,none⟩),rfl,?_⟩;refine aP.cut (λ_ _=>False) ?_ (λ_ _ _ h=>h.elim);show aD (.bool true) _ _;rw[bZ,bX,aO,bY];refine⟨i64 c,by rw[aV,aX,heap_drew,hdb,aZ];rfl,?_⟩;rw[bX,aO,bY];refine⟨i64 b,by rw[aV,aX,heap_drew,hdb,aZ];rfl,?_⟩;have hsb:=Gb hb;rw[aW,bD (by omega) (by omega)];refine lY (h.ext hx1).drew (ht _ _ ?_);unfold lC;rw[hb]
end
end
def gM(rest:aH):Nat×Nat:=match Syn.insP rest with|some x=>x|none=>(rest.length,rest.length)
def rX(s:PS)(rest:aH)(a:Int):PS:=if 0<(gM rest).1 then{s with ex:=s.ex++[⟨5,fY (rest.take (gM rest).1),[],[],a⟩]}else s
theorem GA{E:PS->R Nat}{s:PS}{rest:aH}{a:Int}{av:List Nat}{ks:List aH}(hr:rest≠[])(hn:rest.length<n+1):
  jQ E (n+1) s rest a av ks=
   (if(gM rest).1<(gM rest).2 then(within (rX s rest a) (a+(gM rest).1) false λq=>lC E q ((rest.drop ((gM rest).1+2)).take ((gM rest).2-1-((gM rest).1+2))) (a+(gM rest).1+2)).bind λx s2=>
     jQ E n s2 (rest.drop (gM rest).2) (a+(gM rest).2) ((if 0<(gM rest).1 then av++[s.ex.length]else av)++[x]) ((if 0<(gM rest).1 then ks++[[116]]else ks)++[[101]])
   else jQ E n (rX s rest a) (rest.drop (gM rest).2) (a+(gM rest).2) (if 0<(gM rest).1 then av++[s.ex.length]else av) (if 0<(gM rest).1 then ks++[[116]]else ks)):=by
 simp only[jQ];rw[if_neg hr];have hpos:0<rest.length:=List.length_pos_iff.2 hr;unfold gM rX gM;cases hi:Syn.insP rest with
 |none=>
  simp only;rw[if_neg (Nat.lt_irrefl _),if_pos hpos,if_pos hpos,if_pos hpos,List.drop_length,List.take_length];obtain⟨m,rfl⟩:∃m,n=m+1:=⟨n-1,by omega⟩;simp only[jQ,if_true]
 |some x=>rfl
theorem Tc{rest:aH}(hx:Co rest):(gM rest).1<=rest.length/\(gM rest).2<=rest.length/\nJ (rest.take (gM rest).1)=true/\Co (rest.drop (gM rest).2)/\((gM rest).1<(gM rest).2->(gM rest).1+3<=(gM rest).2)/\(rest≠[]->0<(gM rest).2)/\(gM rest).1<=(gM rest).2:=by
 obtain⟨h1,h2⟩:=Im hx;unfold gM;cases hi:Syn.insP rest with
 |none=>
  simp only;exact⟨Nat.le_refl _,Nat.le_refl _,by rw[List.take_length];exact h1 hi,by rw[List.drop_length];exact .inl rfl,λe=>absurd e (Nat.lt_irrefl _),λh=>List.length_pos_iff.2 h,Nat.le_refl _⟩
 |some x=>
  obtain⟨a,b,c,d⟩:=h2 x.1 x.2 hi;simp only;exact⟨by omega,c,a,d,λ_=>b,λ_=>by omega,by omega⟩
section
variable [HX]
variable{w0 w w' w1:World}{p f b:Nat}{M M':Lay}{vt:Value}{s:PS}{top:List Nat}{N:Int}{K:Q0}
abbrev DV:TypeId:=67
structure TL(w0 w:World)(p f:Nat)(M:Lay)(vt:Value)(B1 b2 b7 b8 b9:Nat)(ta:Int)(rest:aH)(a:Int)(va vk:Value)(av:List Nat)(ks:List aH):Prop where
 l2:Loc w0 w p f M vt b2 DV [.pointer (some ⟨p,0,none⟩)]
 l7:Loc w0 w p f M vt b7 zJ [i64 6,str [],va,vk,i64 ta]
 l8:Loc w0 w p f M vt b8 Ah [str rest]
 l9:Loc w0 w p f M vt b9 eX [i64 a]
 rA:Ro w0 w p f M vt B1 eX 1 va av.length (ints av)
 rK:Ro w0 w p f M vt B1 Ah 1 vk ks.length (strs ks)
 dd:∀k,va.ownBlock=some k->vk.ownBlock≠some k
 lt:b2<B1/\b7<B1/\b8<B1/\b9<B1/\B1<=w.heap.size
 ne:b2≠b7/\b2≠b8/\b2≠b9/\b7≠b8/\b7≠b9/\b8≠b9
section
variable{B1 b2 b7 b8 b9:Nat}{ta:Int}{rest:aH}{a:Int}{va vk:Value}{av:List Nat}{ks:List aH}
theorem TL.eff(h:TL w0 w p f M vt B1 b2 b7 b8 b9 ta rest a va vk av ks)(he:Eff p f M M' w w'):TL w0 w' p f M' vt B1 b2 b7 b8 b9 ta rest a va vk av ks:=
 ⟨h.l2.eff he,h.l7.eff he,h.l8.eff he,h.l9.eff he,h.rA.eff he,h.rK.eff he,h.dd,⟨h.lt.1,h.lt.2.1,h.lt.2.2.1,h.lt.2.2.2.1,Nat.le_trans h.lt.2.2.2.2 he.chg.size⟩,h.ne⟩
theorem TL.ext(h:TL w0 w p f M vt B1 b2 b7 b8 b9 ta rest a va vk av ks)(hx:bA w w'):TL w0 w' p f M vt B1 b2 b7 b8 b9 ta rest a va vk av ks:=h.eff (Eff.ext hx)
theorem TL.one(h:TL w0 w p f M vt B1 b2 b7 b8 b9 ta rest a va vk av ks)(hc:aS (HZ b) w w')(hb:B1<=b)(hA:va.ownBlock≠some b)(hK:vk.ownBlock≠some b):TL w0 w' p f M vt B1 b2 b7 b8 b9 ta rest a va vk av ks:=by
 obtain⟨q1,q2,q3,q4,q5⟩:=h.lt;exact⟨h.l2.one hc (by omega),h.l7.one hc (by omega),h.l8.one hc (by omega),h.l9.one hc (by omega),h.rA.one hc hA,h.rK.one hc hK,h.dd,⟨q1,q2,q3,q4,Nat.le_trans q5 hc.size⟩,h.ne⟩
theorem TL.noA(h:TL w0 w p f M vt B1 b2 b7 b8 b9 ta rest a va vk av ks){k:Nat}(hk:k<B1):va.ownBlock≠some k/\vk.ownBlock≠some k:=
 ⟨λe=>by have:=h.rA.new k e;omega,λe=>by have:=h.rK.new k e;omega⟩
theorem TL.args{w2 w3:World}{va':Value}{x:Nat}(h:TL w0 w p f M vt B1 b2 b7 b8 b9 ta rest a va vk av ks)(hR:Ro w0 w2 p f M vt B1 eX 1 va' (av++[x]).length (ints (av++[x])))(hc:aS (λk=>va.ownBlock=some k) w w2)(hv:∀k,va'.ownBlock=some k->va.ownBlock=some k\/w.heap.size<=k)
  (hc3:aS (HZ b7) w2 w3)(hb:w3.heap[b7]?=some (.cells [i64 6,str [],va',vk,i64 ta].toArray zJ (0,0))):TL w0 w3 p f M vt B1 b2 b7 b8 b9 ta rest a va' vk (av++[x]) ks:=by
 obtain⟨q1,q2,q3,q4,q5⟩:=h.lt;obtain⟨n1,n2,n3,n4,n5,n6⟩:=h.ne;have z:=hc3.size;have o7:=((h.l7.row hc (h.noA q2).1).2).up z;refine⟨(h.l2.row hc (h.noA q1).1).one hc3 n1,⟨hb,o7⟩,(h.l8.row hc (h.noA q3).1).one hc3 (Ne.symm n4),(h.l9.row hc (h.noA q4).1).one hc3 (Ne.symm n5),hR.one hc3 λe=>by have:=hR.new b7 e;omega,
  (h.rK.row hc λk hk e=>h.dd k e hk).one hc3 (h.noA q2).2,λk hk=>?_,⟨q1,q2,q3,q4,Nat.le_trans q5 (Nat.le_trans hc.size z)⟩,h.ne⟩
 rcases hv k hk with e|e
 ·exact h.dd k e
 ·intro e';have:=(h.rK.off k e').1.2;omega
theorem TL.keys{w2 w3:World}{vk':Value}{x:aH}(h:TL w0 w p f M vt B1 b2 b7 b8 b9 ta rest a va vk av ks)(hR:Ro w0 w2 p f M vt B1 Ah 1 vk' (ks++[x]).length (strs (ks++[x])))(hc:aS (λk=>vk.ownBlock=some k) w w2)(hv:∀k,vk'.ownBlock=some k->vk.ownBlock=some k\/w.heap.size<=k)
  (hc3:aS (HZ b7) w2 w3)(hb:w3.heap[b7]?=some (.cells [i64 6,str [],va,vk',i64 ta].toArray zJ (0,0))):TL w0 w3 p f M vt B1 b2 b7 b8 b9 ta rest a va vk' av (ks++[x]):=by
 obtain⟨q1,q2,q3,q4,q5⟩:=h.lt;obtain⟨n1,n2,n3,n4,n5,n6⟩:=h.ne;have z:=hc3.size;have o7:=((h.l7.row hc (h.noA q2).2).2).up z;refine⟨(h.l2.row hc (h.noA q1).2).one hc3 n1,⟨hb,o7⟩,(h.l8.row hc (h.noA q3).2).one hc3 (Ne.symm n4),(h.l9.row hc (h.noA q4).2).one hc3 (Ne.symm n5),(h.rA.row hc λk hk e=>h.dd k hk e).one hc3 (h.noA q2).1,
  hR.one hc3 λe=>by have:=hR.new b7 e;omega,λk hk e'=>?_,⟨q1,q2,q3,q4,Nat.le_trans q5 (Nat.le_trans hc.size z)⟩,h.ne⟩
 rcases hv k e' with e|e
 ·exact h.dd k hk e
 ·have:=(h.rA.off k hk).1.2;omega
theorem TL.appA{x:Nat}{r:Nat}{ty:TypeId}{KW:World->Prop}(h:TL w0 w p f M vt B1 b2 b7 b8 b9 ta rest a va vk av ks)(hp:PR w0 w p f M vt s top)(hr:w.heap[r]?=some (.cells [i64 (x:Nat)].toArray eX (0,0)))(hn:av.length<=1000000)
  (hK:∀va' w',TL w0 w' p f M vt B1 b2 b7 b8 b9 ta rest a va' vk (av++[x]) ks->PR w0 w' p f M vt s top->aS (λk=>va.ownBlock=some k\/k=b7) w w'->(∀k,va'.ownBlock=some k->va.ownBlock=some k\/w.heap.size<=k)->KW w'):
  bP P0 (Builtin.append_ #[30,30] ty #[va,.slice (some ⟨r,0,none⟩) 1 1]) w λt62 w36=>aF 2 (.pointer (some ⟨b7,0,none⟩)) λt63=>bF 1 t63 t62 w36 KW:=by
 obtain⟨q1,q2,q3,q4,q5⟩:=h.lt;refine Ro.app yY h.rA hp hr rfl (λu hu=>by simp only[List.mem_singleton]at hu;subst hu;rfl) hn (by decide) q5 λv' w2 hR hc hv hp2=>?_;have e1:(av++[x]).length=av.length+1:=by simp
 have e2:ints (av++[x])=ints av++[i64 (x:Nat)]:=by simp[ints]
 rw[<-e1,<-e2]at hR;rw[aO,aV,Nat.zero_add];obtain⟨vp,vc,ev,_⟩:=hR.own.sl.shape;refine(h.l7.row hc (h.noA q2).1).st (by rw[ev];rfl) (by simp) λw3 L3 hc3 hz3=>?_;exact hK v' w3 (h.args hR hc hv hc3 (by rw[L3.1];rfl)) (hp2.one hc3 ⟨⟨L3.2.1.1,by have:=L3.2.1.2;omega⟩,L3.2.2⟩) ((hc.mono λk _ e=>.inl e).trans (hc3.mono λk _ e=>.inr e)) hv
theorem TL.appK{x:aH}{r:Nat}{ty:TypeId}{KW:World->Prop}(h:TL w0 w p f M vt B1 b2 b7 b8 b9 ta rest a va vk av ks)(hp:PR w0 w p f M vt s top)(hr:w.heap[r]?=some (.cells [str x].toArray Ah (0,0)))(hn:ks.length<=1000000)
  (hK:∀vk' w',TL w0 w' p f M vt B1 b2 b7 b8 b9 ta rest a va vk' av (ks++[x])->PR w0 w' p f M vt s top->aS (λk=>vk.ownBlock=some k\/k=b7) w w'->(∀k,vk'.ownBlock=some k->vk.ownBlock=some k\/w.heap.size<=k)->KW w'):
  bP P0 (Builtin.append_ #[24,24] ty #[vk,.slice (some ⟨r,0,none⟩) 1 1]) w λt62 w36=>aF 3 (.pointer (some ⟨b7,0,none⟩)) λt63=>bF 1 t63 t62 w36 KW:=by
 obtain⟨q1,q2,q3,q4,q5⟩:=h.lt;refine Ro.app Pb h.rK hp hr rfl (λu hu=>by simp only[List.mem_singleton]at hu;subst hu;rfl) hn (by decide) q5 λv' w2 hR hc hv hp2=>?_;have e1:(ks++[x]).length=ks.length+1:=by simp
 have e2:strs (ks++[x])=strs ks++[str x]:=by simp[strs]
 rw[<-e1,<-e2]at hR;rw[aO,aV,Nat.zero_add];obtain⟨vp,vc,ev,_⟩:=hR.own.sl.shape;refine(h.l7.row hc (h.noA q2).2).st (by rw[ev];rfl) (by simp) λw3 L3 hc3 hz3=>?_;exact hK v' w3 (h.keys hR hc hv hc3 (by rw[L3.1];rfl)) (hp2.one hc3 ⟨⟨L3.2.1.1,by have:=L3.2.1.2;omega⟩,L3.2.2⟩) ((hc.mono λk _ e=>.inl e).trans (hc3.mono λk _ e=>.inr e)) hv
theorem WC{E:PS->R Nat}{dl e b10 b11:Nat}{M0:Lay}{wb:World}(he0:Eff p f M0 M wb w)(hw7:wb.heap.size<=b7)(hwB:wb.heap.size<=B1)(hS:uD w0 f)(hE:EC w0 f 82 E dl)(hF:mV E)(h:PR w0 w p f M vt s top)(hg:Gd N s dl)(hT:TL w0 w p f M vt B1 b2 b7 b8 b9 ta rest a va vk av ks)
  (l10:Loc w0 w p f M vt b10 eX [i64 (i:Nat)])(l11:Loc w0 w p f M vt b11 eX [i64 (e:Nat)])(n10:va.ownBlock≠some b10/\vk.ownBlock≠some b10/\b10≠b7)(n11:va.ownBlock≠some b11/\vk.ownBlock≠some b11/\b11≠b7)
  (hie:i+3<=e)(hel:e<=rest.length)(h0:0<=a)(h1:a+rest.length+1<=N)(hphi:Syn.phi s+(e-1-(i+2))<=100000)(hn:av.length<=1000000)
  (hK:∀x s',lC E s ((rest.drop (i+2)).take (e-1-(i+2))) (a+i+2)=.ok x s'->∀M' va' w',PR w0 w' p f M' vt s' top->Eff p f M0 M' wb w'->TL w0 w' p f M' vt B1 b2 b7 b8 b9 ta rest a va' vk (av++[x]) ks->
    Loc w0 w' p f M' vt b10 eX [i64 (i:Nat)]->Loc w0 w' p f M' vt b11 eX [i64 (e:Nat)]->(va'.ownBlock≠some b10/\va'.ownBlock≠some b11)->K (.tuple #[]) w')
  (ht:∀c a',lC E s ((rest.drop (i+2)).take (e-1-(i+2))) (a+i+2)=.err c a'->Ie w0 f c a'):
  aA P0 278 [.pointer (some ⟨b7,0,none⟩),.pointer (some ⟨b2,0,none⟩),.pointer (some ⟨b8,0,none⟩),.pointer (some ⟨b10,0,none⟩),.pointer (some ⟨b11,0,none⟩),.pointer (some ⟨b9,0,none⟩)] w K:=by
 refine TZ ?_;unfold aBW;have hN:=hg.hN;have T1:=hT.ext (bM w);have h1':=h.drew;have k10:=l10.drew;have k11:=l11.drew;rw[aO,aV,Nat.zero_add];refine T1.l7.ld rfl ?_;refine T1.l2.ld rfl ?_;refine T1.l8.ld rfl ?_;refine k10.ld rfl ?_;rw[aW,bD (by omega) (by omega)];refine k11.ld rfl ?_;rw[iM,bD (by omega) (by omega),dP,cO];refine⟨by omega,by omega,?_⟩;rw[cO];refine⟨by omega,by omega,?_⟩;refine T1.l9.ld rfl ?_;refine k10.ld rfl ?_;rw[aW,bD (by omega) (by omega),aW,bD (by omega) (by omega)];have et:(rest.take ((e:Int)-1).toNat).drop ((i:Int)+2).toNat=(rest.drop (i+2)).take (e-1-(i+2)):=by
  rw[show((e:Int)-1).toNat=e-1 by omega,show((i:Int)+2).toNat=i+2 by omega,List.drop_take]
 rw[et];have hlen:((rest.drop (i+2)).take (e-1-(i+2))).length=e-1-(i+2):=by rw[List.length_take,List.length_drop];omega
 refine Td hS hE hF h1' hg (by omega) (by rw[hlen];omega) (by rw[hlen];exact hphi) (λx s' hx M' w2 h2 he2=>?_) ht;have T2:=T1.eff he2;have ld7:∀{w3:World},TL w0 w3 p f M' vt B1 b2 b7 b8 b9 ta rest a va vk av ks->aE false 1 (.pointer (some ⟨b7,2,none⟩)) w3 λx=>x=va:=λT=>T.l7.ld rfl rfl;refine⟨ld7 T2,?_⟩;refine fR λr w3 hr hz3 hrb hx3=>?_;have T3:=T2.ext hx3;refine⟨ld7 T3,?_⟩;refine T3.appA (h2.ext hx3) hrb hn λva' w4 T4 h4 hc4 hv4=>?_;have he23:=(Eff.ext (bM w)).trans (he2.x hx3);have z3:=he23.chg.size;have j10:=(k10.eff he2).ext hx3;have j11:=(k11.eff he2).ext hx3;have b7o:=T3.l7.2;have heb:Eff p f M0 M' wb w4:=(he0.trans he23).then hc4 λk hk e=>by
  rcases e with e|e
  ·have:=hT.rA.new k e;omega
  ·omega
 exact hK x s' hx M' va' w4 h4 heb T4 ⟨hc4.at j10.1 λe=>e.elim n10.1 n10.2.2,j10.2.up hc4.size⟩ ⟨hc4.at j11.1 λe=>e.elim n11.1 n11.2.2,j11.2.up hc4.size⟩ ⟨λe=>(hv4 _ e).elim n10.1 λe=>by have:=j10.lt;omega,λe=>(hv4 _ e).elim n11.1 λe=>by have:=j11.lt;omega⟩
end
end
def MS(w:World)(b:Nat):Nat:=match w.heap[b]? with|some (.cells c _ _)=>(match(c[0]?:Option Value)with|some (Value.string t)=>t.size|_=>0)|_=>0
section
variable [HX]
variable{w0 w w' w1:World}{p f b:Nat}{M M':Lay}{vt:Value}{s:PS}{top:List Nat}{N:Int}{K:Q0}
theorem Loc.strat{rest:aH}(h:Loc w0 w p f M vt b Ah [str rest]):MS w b=rest.length:=by
 unfold MS;rw[h.1];simp[dC]
theorem oP{K:Q0}(h1:cY v=true)(h:∀a w',a=w.heap.size->w'.heap.size=w.heap.size+1->w'.heap[a]?=some (.cells [v].toArray T (0,0))->bA w w'->K (.pointer (some ⟨a,0,none⟩)) w'):cI T v w K:=by
 have hc:v.cells=#[v]:=by cases v<;>first|rfl|(simp[cY]at h1)
 unfold cI;rw[hc];exact h _ _ rfl (by simp) (dW _ _ _ rfl) (aS.alloc (aS.refl _ _) _)
theorem Gd.put{N:Int}{s:PS}{dl:Nat}(h:Gd N s dl){e:Ex}(hp:Syn.phi s+1<=100000):Gd N {s with ex:=s.ex++[e]} dl:=⟨⟨h.ws.tg,h.ws.lt,h.ws.pN⟩,h.hN,h.few,h.ts,Nat.le_trans (gD s e) hp,h.lev⟩
theorem Gt{M0:Lay}{wb:World}{l:aH}{a:Int}(h:PR w0 w p f M vt s top)(he:Eff p f M0 M wb w)(hlen:s.ex.length<=1000000)
  (hK:∀M' w',PR w0 w' p f M' vt {s with ex:=s.ex++[⟨5,l,[],[],a⟩]} top->Eff p f M0 M' wb w'->(∀b T cs,Loc w0 w p f M vt b T cs->Loc w0 w' p f M' vt b T cs)->(∀wb T m v n xs,Ro w0 w p f M vt wb T m v n xs->Ro w0 w' p f M' vt wb T m v n xs)->w.heap.size<=w'.heap.size->K (i64 (s.ex.length:Nat)) w'):
  aA P0 117 [.pointer (some ⟨p,0,none⟩),.agg [i64 5,str l,.slice none 0 0,.slice none 0 0,i64 a].toArray] w K:=by
 have hub:ub [i64 5,str l,.slice none 0 0,.slice none 0 0,i64 a]=[]:=rfl;refine IG (M0:=M) (wb:=w) (e:=⟨5,l,[],[],a⟩) h (Eff.refl _ _ _ _) ⟨.slice none 0 0,.slice none 0 0,rfl,⟨by simp[ints],.inl ⟨rfl,rfl⟩⟩,⟨by simp[strs],.inl ⟨rfl,rfl⟩⟩⟩ (by rw[hub];intro k hk;cases hk) (by rw[hub];exact List.nodup_nil) (by rw[hub];intro k hk;cases hk) hlen λM' w' h' he' hl'=>?_;exact hK M' w' h' (he.trans he') (λb T cs hL=>hl' b T cs hL (by rw[hub];exact List.not_mem_nil)) (λwb T m v n xs hR=>hR.eff he') he'.chg.size
theorem WX{E:PS->R Nat}{dl:Nat}{t:Tok}(hS:uD w0 f)(hE:∀d,dl=d+1->EC w0 f 82 E d)(hF:mV E)(h:PR w0 w p f M vt s top)(hg:Gd N s dl)(hx:Co t.t)(hl:t.t.length<=100000)
  (ha:0<=t.a/\t.a<=N)(hte:FE N t.a t.t)(hphi:Syn.phi s+wt {t with k:=3}<=100000)
  (hK:∀x s',zN E s t=.ok x s'->∀M' w',PR w0 w' p f M' vt s' top->Eff p f M M' w w'->K (i64 (x:Nat)) w')(ht:∀c a',zN E s t=.err c a'->Ie w0 f c a'):
  aA P0 258 [.pointer (some ⟨p,0,none⟩),.agg (dB t).toArray] w K:=by
 refine Ui ?_;unfold aB5;have hN:=hg.hN;refine oP rfl λb2 w1 hb2 hz1 hbb1 hx1=>?_;have h1:=h.ext hx1;have L1:=h.loc hz1 hb2 hbb1;refine dF (z:=dB t) λb3 w2 hb3 hz2 hbb2 hx2=>?_;have h2:=h1.ext hx2;have L12:=L1.ext hx2;have L2:=h1.loc hz2 hb3 hbb2;have he2:Eff p f M M w w2:=(Eff.ext hx1).x hx2;refine L2.ldf rfl ?_;refine tN (by omega) ?_;rw[aK];unfold zN at hK ht;cases hi:Syn.insP t.t with
 |none=>
  have ei:yS t.t=[i64 (-1),i64 0]:=by unfold yS;rw[hi]
  rw[ei];refine⟨i64 (-1),rfl,?_⟩;rw[aK];refine⟨i64 0,rfl,?_⟩;rw[cA,aB];refine⟨λ_=>?_,λe=>by omega⟩;rw[hi]at hK ht;simp only[Option.isSome_none,Bool.false_eq_true,if_false]at hK ht;refine L12.drew.ld rfl ?_;refine L2.drew.ldf rfl ?_;rw[aO,aV,Nat.zero_add];refine L2.drew.ld rfl ?_;refine Iy ((Im hx).1 hi) (by omega) λw3 hx3=>?_;have L3:=L2.drew.ext hx3;have L13:=L12.drew.ext hx3;refine⟨L3.ld rfl rfl,L13.ld rfl rfl,?_⟩;simp only[bN,cG,bI,List.length_cons,List.length_nil,List.set_cons_zero,List.set_cons_succ,Nat.reduceAdd,Nat.reduceLT,true_and,Nat.zero_lt_succ];have h3:=h2.drew.ext hx3;refine Gt h3 ((he2.x (bM w2)).x hx3) (by have:=hg.ex;omega) λM' w4 h4 he4 _ _ _=>?_;exact hK _ _ rfl M' w4 h4 he4
 |some ie=>
  have ei:yS t.t=[i64 (ie.1:Nat),i64 (ie.2:Nat)]:=by unfold yS;rw[hi]
  rw[ei];refine⟨i64 (ie.1:Nat),rfl,?_⟩;rw[aK];refine⟨i64 (ie.2:Nat),rfl,?_⟩;rw[cA,aB];refine⟨λe=>by omega,λ_=>?_⟩;rw[hi]at hK ht;simp only[Option.isSome_some,if_true]at hK ht;have hte:t.a+t.t.length+2<=N:=hte.resolve_left λe=>by rw[e]at hi;cases hi
  have hwt:wt {t with k:=3}=t.t.length+2:=by unfold wt;rw[if_neg (by simp),if_pos ⟨rfl,by rw[hi];rfl⟩]
  rw[hwt]at hphi;refine L2.ldf rfl ?_;simp only[bN,cG,bI,List.length_cons,List.length_nil,List.set_cons_zero,List.set_cons_succ,Nat.reduceAdd,Nat.reduceLT,true_and,Nat.zero_lt_succ];refine aI λb7 w3 hb7 hz3 hbb3 hx3=>?_;have h3:=h2.ext hx3;have L3:=h2.loc hz3 hb7 hbb3;refine aY (l:=[i64 6,str [],.slice none 0 0,.slice none 0 0,i64 t.a]) hbb3 rfl rfl rfl λw4 hz4 hbb4 hc4=>?_;have L4:Loc w0 w4 p f M vt b7 zJ [i64 6,str [],.slice none 0 0,.slice none 0 0,i64 t.a]:=⟨hbb4,L3.2.up (by omega)⟩;have h4:=h3.one hc4 L3.2;have L14:=(L12.ext hx3).one hc4 (by omega);have L24:=(L2.ext hx3).one hc4 (by omega);have he4:Eff p f M M w w4:=(he2.x hx3).one hc4 (by omega);refine aP.cut (λst w'=>∃b8 b9 B1,st=[.pointer (some ⟨b8,0,none⟩),.pointer (some ⟨b9,0,none⟩)]/\TL w0 w' p f M vt B1 b2 b7 b8 b9 t.a t.t (t.a+1) (.slice none 0 0) (.slice none 0 0) [] []/\PR w0 w' p f M vt s top/\Eff p f M M w w'/\w.heap.size<=B1/\w.heap.size<=b8/\w.heap.size<=b9) ?_ ?_
  ·have L4d:=L4.drew;have L14d:=L14.drew;have L24d:=L24.drew;have h4d:=h4.drew;have he4d:=he4.x (bM w4);have ld1:∀{w':World},Loc w0 w' p f M vt b3 qG (dB t)->aE false 1 (.pointer (some ⟨b3,1,none⟩)) w' λx=>x=str t.t:=λL=>L.ld rfl rfl;have ld2:∀{w':World},Loc w0 w' p f M vt b3 qG (dB t)->aE false 1 (.pointer (some ⟨b3,2,none⟩)) w' λx=>x=i64 t.a:=λL=>L.ld rfl rfl;rw[aO,aV,Nat.zero_add];refine L24d.ld rfl ?_;rw[aO,aV,Nat.zero_add];refine L24d.ld rfl ?_;rw[aW,bD (by omega) (by omega)];have zd:w4.drew.heap.size=w4.heap.size:=rfl;have fin:∀{w5:World} {b8 b9:Nat},PR w0 w5 p f M vt s top->Eff p f M M w w5->Loc w0 w5 p f M vt b2 DV [.pointer (some ⟨p,0,none⟩)]->Loc w0 w5 p f M vt b7 zJ [i64 6,str [],.slice none 0 0,.slice none 0 0,i64 t.a]->Loc w0 w5 p f M vt b8 Ah [str t.t]->Loc w0 w5 p f M vt b9 eX [i64 (t.a+1)]->w4.heap.size<=b8->w4.heap.size<=b9->b8≠b9->
     ∃b8' b9' B1,[Value.pointer (some ⟨b8,0,none⟩),.pointer (some ⟨b9,0,none⟩)]=[.pointer (some ⟨b8',0,none⟩),.pointer (some ⟨b9',0,none⟩)]/\TL w0 w5 p f M vt B1 b2 b7 b8' b9' t.a t.t (t.a+1) (.slice none 0 0) (.slice none 0 0) [] []/\PR w0 w5 p f M vt s top/\Eff p f M M w w5/\w.heap.size<=B1/\w.heap.size<=b8'/\w.heap.size<=b9':=λ{w5 b8 b9} hp he l2 l7 l8 l9 g8 g9 gn=>
    ⟨b8,b9,w5.heap.size,rfl,⟨l2,l7,l8,l9,Ro.nil _ _,Ro.nil _ _,λk hk=>by simp[Value.ownBlock]at hk,⟨l2.lt,l7.lt,l8.lt,l9.lt,Nat.le_refl _⟩,⟨by omega,by omega,by omega,by omega,by omega,gn⟩⟩,hp,he,he.chg.size,by omega,by omega⟩
   refine⟨?_,?_⟩
   ·refine aI λb8 w5 hb8 hz5 hbb5 hx5=>?_;have L8:=h4d.loc hz5 hb8 hbb5;have h5:=h4d.ext hx5;have T5:=L24d.ext hx5;refine⟨ld2 T5,ld1 T5,?_⟩;refine aI λb9 w6 hb9 hz6 hbb6 hx6=>?_;have L9:=h5.loc hz6 hb9 hbb6;have h6:=h5.ext hx6;have T6:=T5.ext hx6;refine⟨ld2 T6,ld1 T6,?_⟩;refine(L8.ext hx6).st rfl (by simp) λw7 L87 hc7 hz7=>?_;have h7:=h6.one hc7 (L8.ext hx6).2;have T7:=T6.one hc7 (by omega);refine⟨ld2 T7,?_⟩;refine(L9.one hc7 (by omega)).st rfl (by simp) λw8 L98 hc8 hz8=>?_;have h8:=h7.one hc8 (L9.one hc7 (by omega)).2;exact fin h8 ((((he4d.x hx5).x hx6).one hc7 (by omega)).one hc8 (by omega)) ((((L14d.ext hx5).ext hx6).one hc7 (by omega)).one hc8 (by omega)) ((((L4d.ext hx5).ext hx6).one hc7 (by omega)).one hc8 (by omega)) (L87.one hc8 (by omega)) L98 (by omega) (by omega) (by omega)
   ·refine aI λb9 w5 hb9 hz5 hbb5 hx5=>?_;have L9:=h4d.loc hz5 hb9 hbb5;have h5:=h4d.ext hx5;have T5:=L24d.ext hx5;refine⟨ld2 T5,ld1 T5,?_⟩;refine aI λb8 w6 hb8 hz6 hbb6 hx6=>?_;have L8:=h5.loc hz6 hb8 hbb6;have h6:=h5.ext hx6;have T6:=T5.ext hx6;refine⟨ld2 T6,ld1 T6,?_⟩;refine L8.st rfl (by simp) λw7 L87 hc7 hz7=>?_;have h7:=h6.one hc7 L8.2;have T7:=T6.one hc7 (by omega);refine⟨ld2 T7,?_⟩;refine((L9.ext hx6).one hc7 (by omega)).st rfl (by simp) λw8 L98 hc8 hz8=>?_;have h8:=h7.one hc8 ((L9.ext hx6).one hc7 (by omega)).2;exact fin h8 ((((he4d.x hx5).x hx6).one hc7 (by omega)).one hc8 (by omega)) ((((L14d.ext hx5).ext hx6).one hc7 (by omega)).one hc8 (by omega)) ((((L4d.ext hx5).ext hx6).one hc7 (by omega)).one hc8 (by omega)) (L87.one hc8 (by omega)) L98 (by omega) (by omega) (by omega)
  rintro st g w5 ⟨b8,b9,B1,rfl,T5,h5,he5,hB1,hB8,hB9⟩;simp only[List.getD_cons_zero,List.getD_cons_succ];clear L1 L12 L2 L3 L4 L14 L24;have hz5:=he5.chg.size;generalize hR:jQ E (t.t.length+1) s t.t (t.a+1) [] []=R0 at hK ht;refine bL.go (λst w'=>st=[]/\∃s1 M1 rest a va vk av ks n,PR w0 w' p f M1 vt s1 top/\Gd N s1 dl/\Eff p f M M1 w w'/\TL w0 w' p f M1 vt B1 b2 b7 b8 b9 t.a rest a va vk av ks/\jQ E n s1 rest a av ks=R0/\rest.length<n/\Co rest/\0<=a/\a+rest.length+1<=N/\Syn.phi s1+rest.length+1<=100000/\av.length+2*rest.length<=2*t.t.length/\ks.length=av.length)
   (λ_ w'=>MS w' b8) ⟨rfl,s,M,t.t,t.a+1,_,_,[],[],t.t.length+1,h5,hg,he5,T5,hR,by omega,hx,by omega,by omega,by omega,by simp,rfl⟩ ?_
  rintro st g2 w6 ⟨rfl,s1,M1,rest,a,va,vk,av,ks,n,h6,hg1,he6,T6,hpf,hn,hxr,ha0,haN,hph,hav,hks⟩;have hw6:=he6.chg.size;refine T6.l8.ld rfl ?_;rw[sJ,aB];refine⟨λhne=>?_,λhne=>?_⟩
  ·obtain⟨n,rfl⟩:∃m,n=m+1:=⟨n-1,by omega⟩;rw[GA hne hn]at hpf;obtain⟨i1,i2,i3,i4,i5,i6,i7⟩:=Tc hxr;have i6:=i6 hne;refine T6.l8.ld rfl ?_;refine tN (by omega) ?_;have hlen:rest.length<=100000:=by omega
   have two:∃u v:Int,yS rest=[i64 u,i64 v]/\((Syn.insP rest=none/\u=-1)\/(Syn.insP rest≠none/\u=((gM rest).1:Nat)/\v=((gM rest).2:Nat))):=by
    unfold gM yS;cases hr:Syn.insP rest with
    |none=>exact⟨-1,0,rfl,.inl ⟨rfl,rfl⟩⟩
    |some x=>exact⟨_,_,rfl,.inr ⟨by simp,rfl,rfl⟩⟩
   obtain⟨u,v,euv,huv⟩:=two;rw[euv,aK];refine⟨i64 u,rfl,?_⟩;rw[aK];refine⟨i64 v,rfl,?_⟩;refine aI λb10 w7 hb10 hz7 hbb7 hx7=>?_;have h7:=h6.ext hx7;have T7:=T6.ext hx7;have l10:=h6.loc hz7 hb10 hbb7;refine aI λb11 w8 hb11 hz8 hbb8 hx8=>?_;have h8:=h7.ext hx8;have T8:=T7.ext hx8;have l11:=h7.loc hz8 hb11 hbb8;have hB6:=T6.lt.2.2.2.2;have nA10:∀k,va.ownBlock=some k->k<w6.heap.size:=λk hk=>(T6.rA.off k hk).1.2;have nK10:∀k,vk.ownBlock=some k->k<w6.heap.size:=λk hk=>(T6.rK.off k hk).1.2;have no10:va.ownBlock≠some b10/\vk.ownBlock≠some b10:=⟨λe=>by have:=nA10 _ e;omega,λe=>by have:=nK10 _ e;omega⟩;have no11:va.ownBlock≠some b11/\vk.ownBlock≠some b11:=⟨λe=>by have:=nA10 _ e;omega,λe=>by have:=nK10 _ e;omega⟩;refine(l10.ext hx8).st rfl (by simp) λw9 l10 hc9 hz9=>?_;have h9:=h8.one hc9 l10.2;have T9:=T8.one hc9 (by omega) no10.1 no10.2;refine(l11.one hc9 (by omega)).st rfl (by simp) λw10 l11 hc10 hz10=>?_;have l10:=l10.one hc10 (by omega);have h10:=h9.one hc10 l11.2;have T10:=T9.one hc10 (by omega) no11.1 no11.2;have he10:Eff p f M M1 w w10:=(((he6.x hx7).x hx8).one hc9 (by omega)).one hc10 (by omega);simp only[List.set_cons_zero]at l10 l11;refine aP.cut (λ_ w'=>Loc w0 w' p f M1 vt b10 eX [i64 ((gM rest).1:Nat)]/\Loc w0 w' p f M1 vt b11 eX [i64 ((gM rest).2:Nat)]/\PR w0 w' p f M1 vt s1 top/\TL w0 w' p f M1 vt B1 b2 b7 b8 b9 t.a rest a va vk av ks/\Eff p f M M1 w w'/\w10.heap.size<=w'.heap.size) ?_ ?_
   ·refine l10.ld rfl ?_;rw[cA,aB];refine⟨λhlt=>?_,λhge=>?_⟩
    ·have hnone:Syn.insP rest=none:=by
      rcases huv with h|h
      ·exact h.1
      ·omega
     have eI:gM rest=(rest.length,rest.length):=by unfold gM;rw[hnone]
     have T11:=T10.ext (bM w10);refine T11.l8.ld rfl ?_;rw[dI];refine T11.l8.ld rfl ?_;rw[dI];refine l10.drew.st rfl (by simp) λw12 l10 hc12 hz12=>?_;have h12:=h10.drew.one hc12 l10.2;have T12:=T11.one hc12 (by omega) no10.1 no10.2;refine⟨T12.l8.ld rfl rfl,?_⟩;have zd:w10.drew.heap.size=w10.heap.size:=rfl;refine(l11.drew.one hc12 (by omega)).st rfl (by simp) λw13 l11 hc13 hz13=>?_;have h13:=h12.one hc13 l11.2;have T13:=T12.one hc13 (by omega) no11.1 no11.2;have l10:=l10.one hc13 (by omega);simp only[List.set_cons_zero]at l10 l11;rw[eI];exact⟨l10,l11,h13,T13,((he10.x (bM _)).one hc12 (by omega)).one hc13 (by omega),by omega⟩
    ·rcases huv with h|⟨_,e1,e2⟩
     ·omega
     ·rw[e1]at l10;rw[e2]at l11;exact⟨l10,l11,h10,T10,he10,Nat.le_refl _⟩
   rintro _ g3 w14 ⟨l10,l11,h14,T14,he14,hz14⟩;clear hc9 hc10 h7 h8 h9 h10 T7 T8 T9 T10 he10;generalize hI:(gM rest).1=I at*
   generalize hE':(gM rest).2=E' at*
   have hw14:=he14.chg.size;refine aP.cut (λ_ w'=>∃M2 va2 vk2,PR w0 w' p f M2 vt (rX s1 rest a) top/\Eff p f M M2 w w'/\TL w0 w' p f M2 vt B1 b2 b7 b8 b9 t.a rest a va2 vk2 (if 0<I then av++[s1.ex.length]else av) (if 0<I then ks++[[116]]else ks)/\Loc w0 w' p f M2 vt b10 eX [i64 (I:Nat)]/\Loc w0 w' p f M2 vt b11 eX [i64 (E':Nat)]/\(va2.ownBlock≠some b10/\vk2.ownBlock≠some b10)/\(va2.ownBlock≠some b11/\vk2.ownBlock≠some b11)) ?_ ?_
   ·refine l10.ld rfl ?_;rw[iN,aB];unfold rX;rw[hI];refine⟨λhpos=>?_,λhpos=>?_⟩
    ·have hpos:0<I:=by omega
     simp only[if_pos hpos];have T15:=T14.ext (bM w14);have h15:=h14.drew;have l10:=l10.drew;have l11:=l11.drew;rw[aO,aV,Nat.zero_add];refine T15.l7.ld rfl ?_;refine T15.l2.ld rfl ?_;refine T15.l8.ld rfl ?_;refine l10.ld rfl ?_;rw[dP,cO];refine⟨by omega,by omega,?_⟩;rw[cZ,List.drop_zero,Int.toNat_natCast];refine T15.l9.ld rfl ?_;refine Iy i3 (by rw[List.length_take];omega) λw16 hx16=>?_;have T16:=T15.ext hx16;have h16:=h15.ext hx16;have l10:=l10.ext hx16;have l11:=l11.ext hx16;refine⟨T16.l9.ld rfl rfl,T16.l2.ld rfl rfl,T16.l7.ld rfl rfl,?_⟩;simp only[bN,cG,bI,List.length_cons,List.length_nil,List.set_cons_zero,List.set_cons_succ,Nat.reduceAdd,Nat.reduceLT,true_and,Nat.zero_lt_succ];have he16:=(he14.x (bM w14)).x hx16;refine Gt h16 he16 (by have:=hg1.ex;omega) λM2 w17 h17 he17 hl17 hr17 hz17=>?_;have T17:TL w0 w17 p f M2 vt B1 b2 b7 b8 b9 t.a rest a va vk av ks:=⟨hl17 _ _ _ T16.l2,hl17 _ _ _ T16.l7,hl17 _ _ _ T16.l8,hl17 _ _ _ T16.l9,hr17 _ _ _ _ _ _ T16.rA,hr17 _ _ _ _ _ _ T16.rK,T16.dd,⟨T16.lt.1,T16.lt.2.1,T16.lt.2.2.1,T16.lt.2.2.2.1,Nat.le_trans T16.lt.2.2.2.2 hz17⟩,T16.ne⟩;have l10:=hl17 _ _ _ l10;have l11:=hl17 _ _ _ l11;refine⟨T17.l7.ld rfl rfl,?_⟩;refine fR λr w18 hr hz18 hrb hx18=>?_;have T18:=T17.ext hx18;refine⟨T18.l7.ld rfl rfl,?_⟩;refine T18.appA (h17.ext hx18) hrb (by omega) λva2 w19 T19 h19 hc19 hv19=>?_;have n7:=T18.lt.2.1;have l10':Loc w0 w19 p f M2 vt b10 eX [i64 (I:Nat)]:=⟨hc19.at (l10.ext hx18).1 λe=>e.elim no10.1 (by omega),(l10.ext hx18).2.up hc19.size⟩;have l11':Loc w0 w19 p f M2 vt b11 eX [i64 (E':Nat)]:=⟨hc19.at (l11.ext hx18).1 λe=>e.elim no11.1 (by omega),(l11.ext hx18).2.up hc19.size⟩;have a10:va2.ownBlock≠some b10:=λe=>(hv19 _ e).elim no10.1 λe=>by have:=(l10.ext hx18).lt;omega
     have a11:va2.ownBlock≠some b11:=λe=>(hv19 _ e).elim no11.1 λe=>by have:=(l11.ext hx18).lt;omega
     have hw16:=he16.chg.size;have he19:Eff p f M M2 w w19:=(he17.x hx18).then hc19 λk hk e=>by
      rcases e with e|e
      ·have:=T6.rA.new k e;omega
      ·omega
     rw[aO,aV,Nat.zero_add];refine T19.l7.ld rfl ?_;refine sI λr2 w20 hr2 hz20 hrb2 hx20=>?_;have T20:=T19.ext hx20;refine T20.appK (h19.ext hx20) hrb2 (by omega) λvk2 w21 T21 h21 hc21 hv21=>?_;have hw19:=he19.chg.size;refine⟨M2,va2,vk2,h21,(he19.x hx20).then hc21 λk hk e=>?_,T21,⟨hc21.at (l10'.ext hx20).1 λe=>e.elim no10.2 (by omega),(l10'.ext hx20).2.up hc21.size⟩,⟨hc21.at (l11'.ext hx20).1 λe=>e.elim no11.2 (by omega),(l11'.ext hx20).2.up hc21.size⟩,
      ⟨a10,λe=>(hv21 _ e).elim no10.2 λe=>by have:=(l10'.ext hx20).lt;omega⟩,⟨a11,λe=>(hv21 _ e).elim no11.2 λe=>by have:=(l11'.ext hx20).lt;omega⟩⟩
     rcases e with e|e
     ·have:=T6.rK.new k e;omega
     ·omega
    ·simp only[if_neg (show¬0<I by omega)];exact⟨M1,va,vk,h14,he14,T14,l10,l11,no10,no11⟩
   rintro _ g4 w15 ⟨M2,va2,vk2,h15,he15,T15,l10,l11,no10,no11⟩;have hg2:Gd N (rX s1 rest a) dl/\Syn.phi (rX s1 rest a)<=Syn.phi s1+I:=by
    unfold rX;rw[hI];split
    ·have hp:=gD s1 ⟨5,fY (rest.take I),[],[],a⟩;have hp:Syn.phi {s1 with ex:=s1.ex++[⟨5,fY (rest.take I),[],[],a⟩]}<=Syn.phi s1+1:=hp;exact⟨hg1.put (by omega),by omega⟩
    ·exact⟨hg1,by omega⟩
   obtain⟨hg2,hp2⟩:=hg2;have hav2:(if 0<I then av++[s1.ex.length]else av).length<=av.length+(if 0<I then 1 else 0):=by split<;>simp
   have hks2:(if 0<I then ks++[[116]]else ks).length=(if 0<I then av++[s1.ex.length]else av).length:=by split<;>simp[hks]
   generalize (if 0<I then av++[s1.ex.length]else av)=av2 at*
   generalize (if 0<I then ks++[[116]]else ks)=ks2 at*
   generalize rX s1 rest a=s2 at*
   have hw15:=he15.chg.size;refine aP.cut (λ_ w'=>∃s3 M3 va3 vk3 av3 ks3,PR w0 w' p f M3 vt s3 top/\Gd N s3 dl/\Eff p f M M3 w w'/\TL w0 w' p f M3 vt B1 b2 b7 b8 b9 t.a rest a va3 vk3 av3 ks3/\Loc w0 w' p f M3 vt b11 eX [i64 (E':Nat)]/\jQ E n s3 (rest.drop E') (a+E') av3 ks3=R0/\Syn.phi s3+(rest.length-E')+1<=100000/\av3.length+2*(rest.length-E')<=2*t.t.length/\ks3.length=av3.length) ?_ ?_
   ·refine l10.ld rfl ?_;refine l11.ld rfl ?_;rw[cA,aB];refine⟨λhlt=>?_,λhge=>?_⟩
    ·have hlt:I<E':=by omega
     have i5:=i5 hlt;rw[if_pos hlt]at hpf;refine T15.l2.ld rfl ?_;refine T15.l9.ld rfl ?_;refine l10.ld rfl ?_;rw[aW,bD (by omega) (by omega)];have hlev:=hg2.lev;have hsat:=λ(d:Nat) (hd:dl=d+1)=>Df (hF.ok N) (s:={s2 with deep:=s2.deep+1,quiet:=false}) (sX hg2.ws _ _) (t:=(rest.drop (I+2)).take (E'-1-(I+2))) (a:=a+I+2) (by omega) (by rw[List.length_take,List.length_drop];omega);refine kU h15 (by omega) (λhd=>ht 7 (a+I) ?_) λhd w16 h16 he16=>?_
     ·rw[<-hpf];unfold within;rw[if_pos hd];rfl
     obtain⟨d,rfl⟩:∃d,dl=d+1:=⟨dl-1,by omega⟩;have hgi:=hg2.frame false;have hwin:within s2 (a+I) false (λq=>lC E q ((rest.drop (I+2)).take (E'-1-(I+2))) (a+I+2))=(lC E {s2 with deep:=s2.deep+1,quiet:=false} ((rest.drop (I+2)).take (E'-1-(I+2))) (a+I+2)).bind λx s'=>.ok x {s' with deep:=s2.deep,quiet:=s2.quiet}:=by
      unfold within;rw[if_neg hd]
     rw[hwin]at hpf;refine fQ (caps:=[.pointer (some ⟨b7,0,none⟩),.pointer (some ⟨b2,0,none⟩),.pointer (some ⟨b8,0,none⟩),.pointer (some ⟨b10,0,none⟩),.pointer (some ⟨b11,0,none⟩),.pointer (some ⟨b9,0,none⟩)]) ?_;have n7:=T15.lt.2.1;have hphi':Syn.phi {s2 with deep:=s2.deep+1,quiet:=false}=Syn.phi s2:=rfl;refine WC (he15.trans he16) (by omega) hB1 hS (hE d rfl) hF h16 hgi (T15.eff he16) (l10.eff he16) (l11.eff he16) ⟨no10.1,no10.2,by omega⟩ ⟨no11.1,no11.2,by omega⟩ i5 i2 ha0 haN (by show Syn.phi s2+_<=_;omega) (by split at hav2<;>omega) (λx s' hx' M3 va3 w17 h17 he17 T17 k10 k11 hno=>?_) λc a' hx'=>ht c a' ?_
     ·rw[hx']at hpf;simp only[R.bind]at hpf;have hs1:=hsat d rfl;have hs2:=CQ hF.z {s2 with deep:=s2.deep+1,quiet:=false} ((rest.drop (I+2)).take (E'-1-(I+2))) (a+I+2);rw[hx']at hs1 hs2;have hs2:Syn.phi s'<=Syn.phi s2+((rest.drop (I+2)).take (E'-1-(I+2))).length:=hs2;rw[List.length_take,List.length_drop]at hs2;have hgs':Gd N s' d:=⟨hs1.1.ws hgi.ws,hN,by rw[hs1.1.toks];exact hgi.few,by rw[hs1.1.toks];exact hgi.ts,by omega,by rw[hs1.1.deep];exact hgi.lev⟩;refine⟨M3,s',h17,hs1.1.deep,λw18 h18 he18=>?_⟩;have T18:=T17.eff he18;rw[aO,aV,Nat.zero_add];refine T18.l7.ld rfl ?_;refine sI λr2 w20 hr2 hz20 hrb2 hx20=>?_;have T20:=T18.ext hx20;have k11:=(k11.eff he18).ext hx20;refine T20.appK (h18.ext hx20) hrb2 (by split at hav2<;>omega) λvk3 w21 T21 h21 hc21 hv21=>?_;refine⟨_,M3,va3,vk3,av2++[x],ks2++[[101]],h21,hg2.back hgs',((he17.trans he18).x hx20).then hc21 λk hk e=>?_,T21,⟨hc21.at k11.1 λe=>e.elim no11.2 (by omega),k11.2.up hc21.size⟩,hpf,?_,?_,by simp[hks2]⟩
      ·rcases e with e|e
       ·have:=T17.rK.new k e;omega
       ·omega
      ·show Syn.phi s'+_+1<=_;omega
      ·simp only[List.length_append,List.length_cons,List.length_nil];split at hav2<;>omega
     ·rw[hx']at hpf;rw[<-hpf];rfl
    ·have hge:¬I<E':=by omega
     rw[if_neg hge]at hpf;refine⟨s2,M2,va2,vk2,av2,ks2,h15,hg2,he15,T15,l11,hpf,by omega,?_,hks2⟩;split at hav2<;>omega
   rintro _ g5 w22 ⟨s3,M3,va3,vk3,av3,ks3,h22,hg3,he22,T22,l11,hpf3,hp3,hav3,hks3⟩;have T23:=T22.ext (bM w22);have l11:=l11.drew;have h23:=h22.drew;have hw22:=he22.chg.size;refine T23.l8.ld rfl ?_;refine l11.ld rfl ?_;rw[dP,cZ,cO];refine⟨by omega,by omega,?_⟩;rw[List.take_length,Int.toNat_natCast];refine T23.l9.ld rfl ?_;refine l11.ld rfl ?_;rw[aW,bD (by omega) (by omega)];obtain⟨q1,q2,q3,q4,q5⟩:=T23.lt;obtain⟨m1,m2,m3,m4,m5,m6⟩:=T23.ne;refine T23.l8.st rfl (by simp) λw24 l8 hc24 hz24=>?_;have h24:=h23.one hc24 l8.2;have l9:=T23.l9.one hc24 (Ne.symm m6);have l11:=l11.one hc24 (by omega);refine⟨l11.ld rfl rfl,l9.ld rfl rfl,?_⟩;refine l9.st rfl (by simp) λw25 l9 hc25 hz25=>?_;have h25:=h24.one hc25 l9.2;have l8:=l8.one hc25 m6;simp only[List.set_cons_zero]at l8 l9;have T25:TL w0 w25 p f M3 vt B1 b2 b7 b8 b9 t.a (rest.drop E') (a+E') va3 vk3 av3 ks3:=
    ⟨(T23.l2.one hc24 m2).one hc25 m3,(T23.l7.one hc24 m4).one hc25 m5,l8,l9,(T23.rA.one hc24 (T23.noA q3).1).one hc25 (T23.noA q4).1,(T23.rK.one hc24 (T23.noA q3).2).one hc25 (T23.noA q4).2,T23.dd,⟨q1,q2,q3,q4,by omega⟩,T23.ne⟩
   have zd:w22.drew.heap.size=w22.heap.size:=rfl;refine⟨⟨rfl,s3,M3,rest.drop E',a+E',va3,vk3,av3,ks3,n,h25,hg3,((he22.x (bM _)).one hc24 (by omega)).one hc25 (by omega),T25,hpf3,?_,i4,by omega,?_,?_,?_,hks3⟩,?_⟩
   ·rw[List.length_drop];omega
   ·rw[List.length_drop];omega
   ·rw[List.length_drop];exact hp3
   ·rw[List.length_drop];exact hav3
   ·rw[T25.l8.strat,T6.l8.strat,List.length_drop];omega
  ·have hnil:rest=[]:=by
    by_cases h:rest=[]
    ·exact h
    ·exact absurd h hne
   subst hnil;obtain⟨n,rfl⟩:∃m,n=m+1:=⟨n-1,by omega⟩;simp only[jQ,if_true]at hpf;rw[<-hpf]at hK ht;refine T6.l2.ld rfl ?_;refine aU T6.l7.1 rfl ?_;have hub:∀k,k∈ub [i64 6,str [],va,vk,i64 t.a]↔va.ownBlock=some k\/vk.ownBlock=some k:=λk=>by
    rw[show [i64 6,str [],va,vk,i64 t.a]=[i64 6,str []]++([va]++([vk]++[i64 t.a]))from rfl];simp only[pX,List.mem_append,dX];simp[ub,Value.ownBlock]
   have hnd:(ub [i64 6,str [],va,vk,i64 t.a]).Nodup:=by
    rw[show [i64 6,str [],va,vk,i64 t.a]=[i64 6,str []]++([va]++([vk]++[i64 t.a]))from rfl];simp only[pX];rw[show ub [i64 6,str []]=[]from rfl,show ub [i64 t.a]=[]from rfl,List.nil_append,List.append_nil];exact List.nodup_append.2 ⟨iE _,iE _,λx hx y hy e=>by subst e;exact T6.dd x (dX.1 hx) (dX.1 hy)⟩
   refine IG (e:=⟨6,[],av,ks,t.a⟩) h6 he6 ⟨va,vk,rfl,T6.rA.own,T6.rK.own⟩ (λk hk=>((hub k).1 hk).elim (T6.rA.off k) (T6.rK.off k)) hnd (λk hk=>?_) (by have:=hg1.ex;omega) λM' w7 h7 he7 _=>?_
   ·rcases(hub k).1 hk with e|e
    ·have:=T6.rA.new k e;omega
    ·have:=T6.rK.new k e;omega
   ·exact hK _ _ rfl M' w7 h7 he7
end
section
variable [HX]
structure ER(w0 w:World)(p f:Nat)(M:Lay)(vt:Value)(wb:Nat)(e:Ex)(va vk:Value):Prop where
 rA:Ro w0 w p f M vt wb eX 1 va e.args.length (ints e.args)
 rK:Ro w0 w p f M vt wb Ah 1 vk e.keys.length (strs e.keys)
 dd:∀k,va.ownBlock=some k->vk.ownBlock≠some k
def Jo(e:Ex)(va vk:Value):List Value:=[i64 e.k,str e.t,va,vk,i64 e.a]
section
variable{w0 w w' w1:World}{p f b:Nat}{M M' M0:Lay}{vt:Value}{s:PS}{top:List Nat}{N:Int}{K:Q0}{e:Ex}{va vk:Value}{wbn:Nat}{wb:World}{dl:Nat}
theorem Kz(h:ER w0 w p f M vt wbn e va vk):(Jo e va vk).all cY=true:=by
 obtain⟨_,_,e1,_⟩:=h.rA.own.sl.shape;obtain⟨_,_,e2,_⟩:=h.rK.own.sl.shape;subst e1 e2;rfl
theorem ER.eff(h:ER w0 w p f M vt wbn e va vk)(he:Eff p f M M' w w'):ER w0 w' p f M' vt wbn e va vk:=⟨h.rA.eff he,h.rK.eff he,h.dd⟩
theorem ER.one(h:ER w0 w p f M vt wbn e va vk)(hc:aS (HZ b) w w')(hA:va.ownBlock≠some b)(hK:vk.ownBlock≠some b):ER w0 w' p f M vt wbn e va vk:=⟨h.rA.one hc hA,h.rK.one hc hK,h.dd⟩
theorem Ro.le{m:Nat}{xs:List Value}{k:Nat}(h:Ro w0 w p f M vt wbn T m v n xs)(hk:k<=wbn):Ro w0 w p f M vt k T m v n xs:=⟨h.own,h.off,λj hj=>Nat.le_trans hk (h.new j hj)⟩
theorem ER.le{k:Nat}(h:ER w0 w p f M vt wbn e va vk)(hk:k<=wbn):ER w0 w p f M vt k e va vk:=⟨h.rA.le hk,h.rK.le hk,h.dd⟩
theorem ER.noK(hk:e.keys=[])(h:Ro w0 w p f M vt wbn eX 1 va e.args.length (ints e.args)):ER w0 w p f M vt wbn e va (.slice none 0 0):=⟨h,by rw[hk];exact Ro.nil _ _,λk _=>by simp[Value.ownBlock]⟩
theorem ER.leaf(h1:e.args=[])(h2:e.keys=[]):ER w0 w p f M vt wbn e (.slice none 0 0) (.slice none 0 0):=⟨by rw[h1];exact Ro.nil _ _,by rw[h2];exact Ro.nil _ _,λk hk=>by simp[Value.ownBlock]at hk⟩
theorem MF(e:Ex)(va vk:Value):ub (Jo e va vk)=ub [va]++ub [vk]:=by
 rw[show Jo e va vk=[i64 e.k,str e.t]++([va]++([vk]++[i64 e.a]))from rfl];simp only[pX];rw[show ub [i64 e.k,str e.t]=[]from rfl,show ub [i64 e.a]=[]from rfl,List.nil_append,List.append_nil]
theorem Gu(h:PR w0 w p f M vt s top)(he:Eff p f M0 M wb w)(hE:ER w0 w p f M vt wb.heap.size e va vk)(hg:Gd N s dl)
  (hK:∀M' w',PR w0 w' p f M' vt {s with ex:=s.ex++[e]} top->Eff p f M0 M' wb w'->(∀b T cs,Loc w0 w p f M vt b T cs->va.ownBlock≠some b->vk.ownBlock≠some b->Loc w0 w' p f M' vt b T cs)->K (i64 (s.ex.length:Nat)) w'):
  aA P0 117 [.pointer (some ⟨p,0,none⟩),.agg (Jo e va vk).toArray] w K:=by
 have hub:∀k,k∈ub (Jo e va vk)↔va.ownBlock=some k\/vk.ownBlock=some k:=λk=>by rw[MF,List.mem_append,dX,dX]
 have hnd:(ub (Jo e va vk)).Nodup:=by
  rw[MF];exact List.nodup_append.2 ⟨iE _,iE _,λx hx y hy e=>by subst e;exact hE.dd x (dX.1 hx) (dX.1 hy)⟩
 refine IG (e:=e) h he ⟨va,vk,rfl,hE.rA.own,hE.rK.own⟩ (λk hk=>((hub k).1 hk).elim (hE.rA.off k) (hE.rK.off k)) hnd (λk hk=>((hub k).1 hk).elim (hE.rA.new k) (hE.rK.new k)) (by have:=hg.ex;omega) λM' w' h' he' hl=>?_;exact hK M' w' h' he' λb T cs hL h1 h2=>hl b T cs hL λhm=>((hub b).1 hm).elim h1 h2
theorem Pw{E:PS->R Nat}{x:aH}(hE:EC w0 f 82 E dl)(hF:mV E)(h:PR w0 w p f M vt s top)(hg:Gd N s dl)
  (hK:∀l s',BY E x s=.ok l s'->∀M' v w',PR w0 w' p f M' vt s' top->Gd N s' dl->Eff p f M M' w w'->Ro w0 w' p f M' vt w.heap.size eX 1 v l.length (ints l)->K v w')(ht:∀c a',BY E x s=.err c a'->Ie w0 f c a'):
  aA P0 261 [.pointer (some ⟨p,0,none⟩),str x] w K:=by
 refine Uf ?_;unfold aB2;unfold BY at hK ht;generalize hR:oR E x (s.toks.length+1) s []=R0 at hK ht;have hN:=hg.hN;refine bL.go (λst w'=>∃v s1 M1 out n,st=[v]/\PR w0 w' p f M1 vt s1 top/\Gd N s1 dl/\Eff p f M M1 w w'/\Ro w0 w' p f M1 vt w.heap.size eX 1 v out.length (ints out)/\oR E x n s1 out=R0/\s1.toks.length<n+s1.i/\out.length<=s1.i/\s1.toks.length=s.toks.length) (λ_ w'=>s.toks.length-vY w' p)
  ⟨_,s,M,[],s.toks.length+1,rfl,h,hg,Eff.refl _ _ _ _,Ro.nil _ _,hR,by omega,by simp,rfl⟩ ?_
 rintro st g w2 ⟨v,s1,M1,out,n,rfl,h2,hg2,he2,hr2,hF2,hn,ho,htl⟩;have hlt2:=hg2.ws.lt;obtain⟨n,rfl⟩:∃m,n=m+1:=⟨n-1,by omega⟩;simp only[List.getD_cons_zero];refine pZ h2 hg2.ws hN hg2.l λw3 h3 he3=>?_;simp only[oR]at hF2;have hg3:=hg2.take x;have tg:=fI hg2.ws x;have hr3:=hr2.eff he3;have he23:=he2.trans he3;have hw3:=he23.chg.size;have more:∀{s4:PS} {w4:World},PR w0 w4 p f M1 vt s4 top->Gd N s4 dl->Eff p f M M1 w w4->Ro w0 w4 p f M1 vt w.heap.size eX 1 v out.length (ints out)->((E s4).bind λx' s'=>oR E x n s' (out++[x']))=R0->s1.i<=s4.i->s4.toks.length=s.toks.length->
   aA P0 82 [.pointer (some ⟨p,0,none⟩)] w4 λt20 w8=>bR eX 1 [(.int .i64 0)] [(0,1,t20)] w8 λt21 w9=>bP P0 (Builtin.append_ #[30,30] 30 #[v,t21]) w9 λt22 w10=>
    (∃v s1 M1 out n,[t22]=[v]/\PR w0 w10 p f M1 vt s1 top/\Gd N s1 dl/\Eff p f M M1 w w10/\Ro w0 w10 p f M1 vt w.heap.size eX 1 v out.length (ints out)/\oR E x n s1 out=R0/\s1.toks.length<n+s1.i/\out.length<=s1.i/\s1.toks.length=s.toks.length)/\s.toks.length-vY w10 p<s.toks.length-vY w2 p:=λ{s4 w4} h4 hg4 he4 hr4 hF4 hi4 ht4=>by
  refine hE w4 p M1 vt s4 top N _ h4 hg4 (λy s5 e5 M5 w5 h5 he5=>?_) λc a' e5=>ht c a' (by rw[<-hF4,e5];rfl);rw[e5]at hF4;simp only[R.bind]at hF4;obtain⟨hg5,hi5⟩:=hg4.e hF e5;have htk:s5.toks.length=s4.toks.length:=by
   have:=hF.ok N s4 hg4.ws;rw[e5]at this;exact congrArg List.length this.1.1.toks
  refine fR λr w6 hr hz6 hrb hx6=>?_;have h6:=h5.ext hx6;have hr6:=(hr4.eff he5).ext hx6;have he46:=(he4.trans he5).x hx6;refine Ro.app yY hr6 h6 hrb rfl (λu hu=>by simp only[List.mem_singleton]at hu;subst hu;rfl) (by have:=hg4.few;have:=hg4.ws.lt;omega) (by decide) he46.chg.size λv' w7 hR7 hc7 hv7 h7=>?_;have hlt5:=hg5.ws.lt;refine⟨⟨v',s5,M5,out++[y],n,rfl,h7,hg5,he46.then hc7 λk hk e=>by have:=hr6.new k e;omega,?_,hF4,by omega,by rw[List.length_append,List.length_cons,List.length_nil];omega,by omega⟩,?_⟩
  ·rw[List.length_append,List.length_cons,List.length_nil,Bt];exact hR7
  ·rw[h7.at_,h2.at_];omega
 have ht3:(aR s1 x).2.toks.length=s.toks.length:=by rw[tg.1.toks];exact htl
 rw[cJ,aQ];refine⟨λhnt=>?_,λhyt=>?_⟩
 ·have hnt:(aR s1 x).1=false:=by simpa using hnt
  rw[if_neg (by rw[hnt];decide)]at hF2;by_cases hout:out=[]
  ·rw[if_pos hout]at hF2;refine aP.cut (λ_ w'=>w'=w3) ?_ ?_
   ·rw[dJ hr3.own.sl,iN,aB];exact⟨λe=>by rw[hout]at e;simp at e,λ_=>rfl⟩
   rintro _ g2 w4 rfl;exact more h3 hg3 he23 hr3 hF2 tg.1.le ht3
  ·rw[if_neg hout]at hF2;have hpos:0<out.length:=List.length_pos_iff.2 hout;refine aP.cut (λ_ w'=>∃s4,PR w0 w' p f M1 vt s4 top/\Gd N s4 dl/\Eff p f M M1 w w'/\Ro w0 w' p f M1 vt w.heap.size eX 1 v out.length (ints out)/\((E s4).bind λx' s'=>oR E x n s' (out++[x']))=R0/\s1.i<=s4.i/\s4.toks.length=s.toks.length) ?_ ?_
   ·rw[dJ hr3.own.sl,iN,aB];refine⟨λ_=>?_,λe=>absurd (by omega) e⟩;refine sZ h3 hg3.ws hN hg3.l (λs4 e4 w4 h4 he4=>?_) λc a' e4=>ht c a' (by rw[<-hF2,e4];rfl);rw[e4]at hF2;simp only[R.bind]at hF2;obtain⟨hg4,hi4,_⟩:=hg3.want e4;have hto4:=fW hg3.ws [44];rw[e4]at hto4;refine pZ h4 hg4.ws hN hg4.l λw5 h5 he5=>?_;have hr5:=(hr3.eff he4).eff he5;have he25:=(he23.trans he4).trans he5;have tg5:=fI hg4.ws x;rw[aQ];refine⟨λhy=>?_,λhy=>?_⟩
    ·rw[if_pos hy]at hF2;exact hK out _ hF2.symm M1 v w5 h5 (hg4.take x) he25 hr5
    ·rw[if_neg (by rw[hy];decide)]at hF2;exact⟨_,h5,hg4.take x,he25,hr5,hF2,by have:=tg.1.le;have:=tg5.1.le;omega,by rw[tg5.1.toks,hto4.1.1.toks];exact ht3⟩
   rintro _ g2 w4 ⟨s4,h4,hg4,he4,hr4,hF4,hi4,ht4⟩;exact more h4 hg4 he4 hr4 hF4 hi4 ht4
 ·have hyt:(aR s1 x).1=true:=by simpa using hyt
  rw[if_pos hyt]at hF2;exact hK out _ hF2.symm M1 v w3 h3 hg3 he23 hr3
end
end
section
variable [HX]
variable{w0 w w' w1:World}{p f b:Nat}{M M' M0:Lay}{vt:Value}{s:PS}{top:List Nat}{N:Int}{K:Q0}{e:Ex}{va vk:Value}{wbn:Nat}{wb:World}{dl:Nat}
theorem IC(hp:PR w0 w p f M vt s top)(hL:Loc w0 w p f M vt b zJ cs)(hc:cs.length=5)(hE:ER w0 w p f M vt wbn e va vk)(hA:va.ownBlock≠some b)(hK':vk.ownBlock≠some b)
  (hK:∀w',PR w0 w' p f M vt s top->aS (HZ b) w w'->ER w0 w' p f M vt wbn e va vk->K (.agg (Jo e va vk).toArray) w'):
  bF 5 (.pointer (some ⟨b,0,none⟩)) (.agg (Jo e va vk).toArray) w λw5=>aE true 5 (.pointer (some ⟨b,0,none⟩)) w5 λr6=>K r6 w5:=
 eS hL.1 rfl hc (Kz hE) λw' hcw=>hK w' (hp.one hcw hL.2) hcw (hE.one hcw hA hK')
theorem KS{x r:Nat}{ty:TypeId}{k a:Int}{l:aH}{av:List Nat}{KW:World->Prop}(hL:Loc w0 w p f M vt b zJ [i64 k,str l,va,vk,i64 a])(hR:Ro w0 w p f M vt wbn eX 1 va av.length (ints av))(hp:PR w0 w p f M vt s top)(hr:w.heap[r]?=some (.cells [i64 (x:Nat)].toArray eX (0,0)))
  (hn:av.length<=1000000)(hB:b<wbn)(hw:wbn<=w.heap.size)
  (hK:∀va' w',Loc w0 w' p f M vt b zJ [i64 k,str l,va',vk,i64 a]->Ro w0 w' p f M vt wbn eX 1 va' (av++[x]).length (ints (av++[x]))->PR w0 w' p f M vt s top->aS (λk=>va.ownBlock=some k\/k=b) w w'->(∀k,va'.ownBlock=some k->va.ownBlock=some k\/w.heap.size<=k)->KW w'):
  bP P0 (Builtin.append_ #[30,30] ty #[va,.slice (some ⟨r,0,none⟩) 1 1]) w λt62 w36=>aF 2 (.pointer (some ⟨b,0,none⟩)) λt63=>bF 1 t63 t62 w36 KW:=by
 refine Ro.app yY hR hp hr rfl (λu hu=>by simp only[List.mem_singleton]at hu;subst hu;rfl) hn (by decide) hw λv' w2 hR2 hc hv hp2=>?_;have e1:(av++[x]).length=av.length+1:=by simp
 rw[<-e1,show ints av++[i64 (x:Nat)]=ints (av++[x])from by simp[ints]]at hR2;rw[aO,aV,Nat.zero_add];obtain⟨vp,vc,ev,_⟩:=hR2.own.sl.shape;refine(hL.row hc λe=>by have:=hR.new b e;omega).st (by rw[ev];rfl) (by simp) λw3 L3 hc3 hz3=>?_;exact hK v' w3 L3 (hR2.one hc3 λe=>by have:=hR2.new b e;omega) (hp2.one hc3 L3.2) ((hc.mono λk _ e=>.inl e).trans (hc3.mono λk _ e=>.inr e)) hv
theorem YV{E:PS->R Nat}{t:Tok}(hE:EC w0 f 82 E dl)(hF:mV E)(h:PR w0 w p f M vt s top)(hg:Gd N s dl)(hc0:(bO s).k≠0)(hnow:aG s=s)
  (hK:∀e s',zT E s t.a=.ok e s'->∀M' va vk w',PR w0 w' p f M' vt s' top->Gd N s' dl->Eff p f M M' w w'->ER w0 w' p f M' vt w.heap.size e va vk->K (.agg (Jo e va vk).toArray) w')(ht:∀c a',zT E s t.a=.err c a'->Ie w0 f c a'):
  aA P0 264 [.pointer (some ⟨p,0,none⟩),.agg (dB t).toArray] w K:=by
 refine Uc ?_;unfold aBZ;have hN:=hg.hN;have hg1:Gd N (step1 s) dl:=by have:=hg.step hc0;rw[hnow]at this;exact this
 refine dF (z:=dB t) λb3 w1 hb3 hz1 hbb1 hx1=>?_;have h1:=h.ext hx1;have L3:=h.loc hz1 hb3 hbb1;refine aI λb4 w2 hb4 hz2 hbb2 hx2=>?_;have h2:=h1.ext hx2;have L4:=h1.loc hz2 hb4 hbb2;have L3:=L3.ext hx2;have he2:Eff p f M M w w2:=(Eff.ext hx1).x hx2;refine h2.go (JI hg.ws hg.l) λw3 h3 he3 hz3=>?_;have L3:=L3.eff he3;have L4:=L4.eff he3;have he3:=he2.trans he3;refine jM h3 hg1.ws hN hg1.l λw4 h4 he4=>?_;have L3:=L3.eff he4;have L4:=L4.eff he4;have he4:=he3.trans he4;have lt3:=L3.lt;have lt4:=L4.lt;refine aI λb5 w5 hb5 hz5 hbb5 hx5=>?_;have h5:=h4.ext hx5;have L5:=h4.loc hz5 hb5 hbb5;have L3:=L3.ext hx5;have L4:=L4.ext hx5;have he5:=he4.x hx5;have hw4:=he4.chg.size;refine aY (l:=dB (bO (step1 s))) L5.1 rfl rfl rfl λw6 hz6 hb6 hc6=>?_;have L5:Loc w0 w6 p f M vt b5 qG (dB (bO (step1 s))):=⟨hb6,L5.2.up (by omega)⟩;have h6:=h5.one hc6 L5.2;have L3:=L3.one hc6 (by omega);have L4:=L4.one hc6 (by omega);have he6:=he5.one hc6 (by omega);have hw6:=he6.chg.size;have hgn:=hg1.now;refine L5.ldf rfl ?_;rw[dG];simp only[iB];refine cX.look (decide ((bO (step1 s)).t≠GV)) (λ_ J hJ=>?_) λg=>?_
 ·refine L5.ldf rfl ?_;rw[sJ];exact hJ
 simp only[List.getD_cons_zero];rw[dD,aQ];unfold zT at hK ht;simp only at hK ht;refine⟨λhcc=>?_,λhcc=>?_⟩
 ·have hc:(bO (step1 s)).k≠1\/(bO (step1 s)).t≠GV:=by simpa using hcc
  rw[if_pos hc]at hK ht;have L3:=L3.drew;rw[aO,aV,Nat.zero_add];refine L3.ld rfl ?_;refine Pw hE hF h6.drew hgn (λl s' el M' v w7 h7 hg7 he7 hr7=>?_) λc a' el=>ht c a' (by rw[el];rfl);rw[el]at hK;simp only[R.bind]at hK;have L3:=L3.eff he7;refine⟨L3.ld rfl rfl,?_⟩;obtain⟨q,cap,ev,_⟩:=hr7.own.sl.shape;subst ev;simp only[bN,dU,bI,List.length_cons,List.length_nil,List.set_cons_zero,List.set_cons_succ,Nat.reduceAdd,Nat.reduceLT,true_and,Nat.zero_lt_succ];have zd:w6.drew.heap.size=w6.heap.size:=rfl;have hER:ER w0 w7 p f M' vt w6.heap.size ⟨7,[],l,[],t.a⟩ (.slice q l.length cap) (.slice none 0 0):=ER.noK rfl hr7;refine IC (e:=⟨7,[],l,[],t.a⟩) h7 (L4.drew.eff he7) rfl hER (λe=>by have:=hr7.new _ e;omega) (by simp[Value.ownBlock]) λw8 h8 hc8 hE8=>?_;exact hK _ _ rfl M' _ _ w8 h8 hg7 (((he6.x (bM w6)).trans he7).one hc8 (by omega)) (hE8.le (by omega))
 ·have hc:¬((bO (step1 s)).k≠1\/(bO (step1 s)).t≠GV):=by simpa using hcc
  rw[if_neg hc]at hK ht;have hk1:(bO (step1 s)).k≠0:=λe=>hc (.inl (by rw[e];decide));have hgs:=hg1.step hk1;refine h6.go (JI hgn.ws hgn.l) λw7 h7 he7 hz7=>?_;have L3:=L3.eff he7;have L4:=L4.eff he7;have he7:=he6.trans he7;refine aP.cut (λst w'=>∃b6 u s2,st=[.pointer (some ⟨b6,0,none⟩)]/\iA (step1 (aG (step1 s))) 1=.ok u s2/\PR w0 w' p f M vt s2 top/\Gd N s2 dl/\Eff p f M M w w'/\Loc w0 w' p f M vt b6 zJ [i64 29,str u.t,.slice none 0 0,.slice none 0 0,i64 t.a]/\Loc w0 w' p f M vt b4 zJ [.int .i64 0,.string (aL []),.slice none 0 0,.slice none 0 0,.int .i64 0]/\b4<b6/\w.heap.size<=b6) ?_ ?_
  ·have L3:=L3.drew;have L4:=L4.drew;have h7:=h7.drew;have he7:=he7.x (bM w7);have zd:w7.drew.heap.size=w7.heap.size:=rfl;have ld3:∀{w':World},Loc w0 w' p f M vt b3 qG (dB t)->aE false 1 (.pointer (some ⟨b3,2,none⟩)) w' λx=>x=i64 t.a:=λL=>L.ld rfl rfl;rw[aO,aV,Nat.zero_add];refine L3.ld rfl ?_;refine⟨?_,?_⟩
   ·refine tM h7 hgs.ws hN hgs.l (λu s2 eu w8 h8 he8=>?_) λc a' eu=>ht c a' (by rw[eu];rfl);have L3:=L3.eff he8;have L4:=L4.eff he8;have he8:=he7.trans he8;refine⟨ld3 L3,str u.t,rfl,?_⟩;simp only[bN,cG,bI,List.length_cons,List.length_nil,List.set_cons_zero,List.set_cons_succ,Nat.reduceAdd,Nat.reduceLT,true_and,Nat.zero_lt_succ];refine aI λb6 w9 hb6' hz9 hbb9 hx9=>?_;have L6:=h8.loc hz9 hb6' hbb9;refine⟨ld3 (L3.ext hx9),?_⟩;refine aY (l:=[i64 29,str u.t,.slice none 0 0,.slice none 0 0,i64 t.a]) L6.1 rfl rfl rfl λw10 hz10 hbb10 hc10=>?_;have lt4':=L4.lt;have hw8:=he8.chg.size;exact⟨b6,u,s2,rfl,eu,(h8.ext hx9).one hc10 L6.2,(hgs.kind (by decide) eu).1,(he8.x hx9).one hc10 (by omega),⟨hbb10,L6.2.up (by omega)⟩,(L4.ext hx9).one hc10 (by omega),by omega,by omega⟩
   ·refine aI λb6 w9 hb6' hz9 hbb9 hx9=>?_;have L6:=h7.loc hz9 hb6' hbb9;have L3:=L3.ext hx9;have lt4':=L4.lt;have hw8:=he7.chg.size;refine⟨ld3 L3,?_⟩;refine tM (h7.ext hx9) hgs.ws hN hgs.l (λu s2 eu w8 h8 he8=>?_) λc a' eu=>ht c a' (by rw[eu];rfl);have L3:=L3.eff he8;have L4:=(L4.ext hx9).eff he8;have L6:=L6.eff he8;have he8:=(he7.x hx9).trans he8;refine⟨ld3 L3,str u.t,rfl,?_⟩;simp only[bN,cG,bI,List.length_cons,List.length_nil,List.set_cons_zero,List.set_cons_succ,Nat.reduceAdd,Nat.reduceLT,true_and,Nat.zero_lt_succ];refine aY (l:=[i64 29,str u.t,.slice none 0 0,.slice none 0 0,i64 t.a]) L6.1 rfl rfl rfl λw10 hz10 hbb10 hc10=>?_;exact⟨b6,u,s2,rfl,eu,h8.one hc10 L6.2,(hgs.kind (by decide) eu).1,he8.one hc10 (by omega),⟨hbb10,L6.2.up (by omega)⟩,L4.one hc10 (by omega),by omega,by omega⟩
  rintro st g2 w8 ⟨b6,u,s2,rfl,eu,h8,hg8,he8,L6,L4,hb46,hwb6⟩;simp only[List.getD_cons_zero];rw[eu]at hK ht;simp only[R.bind]at hK ht;refine aP.cut (λ_ w'=>∃v s3,iA s2 1=.ok v s3/\v.t=kIn/\PR w0 w' p f M vt s3 top/\Gd N s3 dl/\Eff p f M M w8 w') ?_ ?_
  ·refine tM h8 hg8.ws hN hg8.l (λv s3 ev w9 h9 he9=>?_) λc a' ev=>ht c a' (by rw[ev]);refine aI λb7 w10 hb7 hz10 hbb10 hx10=>?_;have h10:=h9.ext hx10;have L7:=h9.loc hz10 hb7 hbb10;refine aY (l:=dB v) L7.1 rfl rfl rfl λw11 hz11 hbb11 hc11=>?_;have L7:Loc w0 w11 p f M vt b7 qG (dB v):=⟨hbb11,L7.2.up (by omega)⟩;have h11:=h10.one hc11 L7.2;have z9:=he9.chg.size;refine L7.ldf rfl ?_;rw[sJ,aB];refine⟨λhne=>?_,λhne=>⟨v,s3,ev,?_,h11,(hg8.kind (by decide) ev).1,(he9.x hx10).one hc11 (by omega)⟩⟩
   ·refine L7.ldf rfl ?_;exact lY h11 (ht _ _ (by rw[ev];simp only;exact if_pos hne))
   ·by_cases h:v.t=[105,110]
    ·exact h
    ·exact absurd h hne
  rintro _ g3 w9 ⟨v,s3,ev,hvt,h9,hg9,he9⟩;rw[ev]at hK ht;simp only[if_neg (show¬v.t≠kIn fromλh=>h hvt)]at hK ht;have L6:=(L6.eff he9).drew;have L4:=(L4.eff he9).drew;have h9:=h9.drew;have he9:=(he8.trans he9).x (bM w9);have zd:w9.drew.heap.size=w9.heap.size:=rfl;have hw9:=he9.chg.size;have lt6:=L6.lt;rw[aO,aV,Nat.zero_add];refine L6.ld rfl ?_;refine hE w9.drew p M vt s3 top N _ h9 hg9 (λx s4 ex M4 w10 h10 he10=>?_) λc a' ex=>ht c a' (by rw[ex]);rw[ex]at hK ht;simp only at hK ht;obtain⟨hg10,_⟩:=hg9.e hF ex;have L6:=L6.eff he10;have L4:=L4.eff he10;have he10:=he9.trans he10;refine⟨L6.ld rfl rfl,?_⟩;refine fR λr w11 hr hz11 hrb hx11=>?_;have L6:=L6.ext hx11;have L4:=L4.ext hx11;have h11:=h10.ext hx11;have he11:=he10.x hx11;have hw11:=he11.chg.size;have lt6:=L6.lt;have lt4:=L4.lt;refine⟨L6.ld rfl rfl,?_⟩;refine KS (wbn:=w11.heap.size) (av:=[]) L6 (Ro.nil _ _) h11 hrb (by simp) lt6 (Nat.le_refl _) λva1 w12 L6 hR12 h12 hc12 hv12=>?_;have he12:=he11.then hc12 λk hk e=>by
   rcases e with e|e
   ·simp[Value.ownBlock]at e
   ·omega
  have hw12:=he12.chg.size;have L4:Loc w0 w12 p f M4 vt b4 zJ [.int .i64 0,.string (aL []),.slice none 0 0,.slice none 0 0,.int .i64 0]:=⟨hc12.at L4.1 λe=>e.elim (by simp[Value.ownBlock]) (by omega),L4.2.up hc12.size⟩;have hz12:=hc12.size;refine sZ h12 hg10.ws hN hg10.l (λs5 e5 w13 h13 he13=>?_) λc a' e5=>ht c a' (by rw[e5]);rw[e5]at hK ht;simp only at hK ht;obtain⟨hg13,_⟩:=hg10.want e5;have L6:=(L6.eff he13).drew;have L4:=(L4.eff he13).drew;have hR13:=(hR12.eff he13).ext (bM w13);have h13:=h13.drew;have zd13:w13.drew.heap.size=w13.heap.size:=rfl;have hz13:=he13.chg.size;have he13:=(he12.trans he13).x (bM w13);rw[aO,aV,Nat.zero_add];refine L6.ld rfl ?_;refine hE w13.drew p M4 vt s5 top N _ h13 hg13 (λy s6 ey M6 w14 h14 he14=>?_) λc a' ey=>ht c a' (by rw[ey]);rw[ey]at hK ht;simp only at hK ht;obtain⟨hg14,_⟩:=hg13.e hF ey;have L6:=L6.eff he14;have L4:=L4.eff he14;have hR14:=hR13.eff he14;have hz14:=he14.chg.size;have he14:=he13.trans he14;refine⟨L6.ld rfl rfl,?_⟩;refine fR λr2 w15 hr2 hz15 hrb2 hx15=>?_;have L6:=L6.ext hx15;have L4:=L4.ext hx15;have h15:=h14.ext hx15;have he15:=he14.x hx15;refine⟨L6.ld rfl rfl,?_⟩;refine KS (wbn:=w11.heap.size) (av:=[x]) L6 (hR14.ext hx15) h15 hrb2 (by simp) (by omega) (by omega) λva2 w16 L6 hR16 h16 hc16 hv16=>?_;have he16:=he15.then hc16 λk hk e=>by
   rcases e with e|e
   ·have:=hR14.new k e;omega
   ·omega
  have L4:Loc w0 w16 p f M6 vt b4 zJ [.int .i64 0,.string (aL []),.slice none 0 0,.slice none 0 0,.int .i64 0]:=⟨hc16.at L4.1 λe=>e.elim (λe=>by have:=hR14.new _ e;omega) (by omega),L4.2.up hc16.size⟩;refine sZ h16 hg14.ws hN hg14.l (λs7 e7 w17 h17 he17=>?_) λc a' e7=>ht c a' (by rw[e7]);rw[e7]at hK;simp only at hK;obtain⟨hg17,_⟩:=hg14.want e7;have L6:=L6.eff he17;have L4:=L4.eff he17;have hR17:=hR16.eff he17;have he17:=he16.trans he17;refine aU L6.1 rfl ?_;refine IC (e:=⟨29,u.t,[x,y],[],t.a⟩) h17 L4 rfl (ER.noK rfl hR17) (λe=>by have:=hR17.new _ e;omega) (by simp[Value.ownBlock]) λw18 h18 hc18 hE18=>?_;exact hK _ _ rfl M6 _ _ w18 h18 hg17 (he17.one hc18 (by omega)) (hE18.le (by omega))
end
theorem Gd.tx{N:Int}{s:PS}{dl:Nat}(h:Gd N s dl)(hk:(bO s).k=3):Co (bO s).t/\(bO s).t.length<=100000:=by
 have hn:=h.now;have hm:=List.mem_of_getElem? (tA hn.ws);have:=hn.ts _ hm (show(iH (aG s)).k=3 from hk);exact this
section
variable [HX]
variable{w0 w w' w1:World}{p f b:Nat}{M M' M0:Lay}{vt:Value}{s:PS}{top:List Nat}{N:Int}{K:Q0}{e:Ex}{va vk:Value}{wbn:Nat}{wb:World}{dl:Nat}
theorem NL{E:PS->R Nat}{t:Tok}(hE:EC w0 f 82 E dl)(hF:mV E)(h:PR w0 w p f M vt s top)(hg:Gd N s dl)(hc0:(bO s).k≠0)(hnow:aG s=s)
  (hK:∀e s',LC E s t.a=.ok e s'->∀M' va vk w',PR w0 w' p f M' vt s' top->Gd N s' dl->Eff p f M M' w w'->ER w0 w' p f M' vt w.heap.size e va vk->K (.agg (Jo e va vk).toArray) w')(ht:∀c a',LC E s t.a=.err c a'->Ie w0 f c a'):
  aA P0 266 [.pointer (some ⟨p,0,none⟩),.agg (dB t).toArray] w K:=by
 refine Ua ?_;unfold aBX;have hN:=hg.hN;have hg1:Gd N (step1 s) dl:=by have:=hg.step hc0;rw[hnow]at this;exact this
 refine dF (z:=dB t) λb3 w1 hb3 hz1 hbb1 hx1=>?_;have h1:=h.ext hx1;have L3:=h.loc hz1 hb3 hbb1;refine aI λb4 w2 hb4 hz2 hbb2 hx2=>?_;have h2:=h1.ext hx2;have L4:=h1.loc hz2 hb4 hbb2;have L3:=L3.ext hx2;have he2:Eff p f M M w w2:=(Eff.ext hx1).x hx2;refine h2.go (JI hg.ws hg.l) λw3 h3 he3 hz3=>?_;have L3:=L3.eff he3;have L4:=L4.eff he3;have he3:=he2.trans he3;refine L3.ldf rfl ?_;simp only[bN,cG,bI,List.length_cons,List.length_nil,List.set_cons_zero,List.set_cons_succ,Nat.reduceAdd,Nat.reduceLT,true_and,Nat.zero_lt_succ];have lt4:=L4.lt;refine aI λb5 w4 hb5 hz4 hbb4 hx4=>?_;have L5:=h3.loc hz4 hb5 hbb4;have h4:=h3.ext hx4;have L4:=L4.ext hx4;refine aY (l:=[i64 8,str [],.slice none 0 0,.slice none 0 0,i64 t.a]) L5.1 rfl rfl rfl λw5 hz5 hbb5 hc5=>?_;have L5:Loc w0 w5 p f M vt b5 zJ [i64 8,str [],.slice none 0 0,.slice none 0 0,i64 t.a]:=⟨hbb5,L5.2.up (by omega)⟩;have h5:=h4.one hc5 L5.2;have L4:=L4.one hc5 (by omega);have he5:Eff p f M M w w5:=(he3.x hx4).one hc5 (by have:=he3.chg.size;omega);refine uR h5 hg1.ws hN hg1.l λw6 h6 he6=>?_;have L4:=L4.eff he6;have L5:=L5.eff he6;have he6:=he5.trans he6;have hg6:=hg1.lines;unfold LC at hK ht;generalize hR:Cg E t.a (s.toks.length+1) (dQ (step1 s)) [] []=R0 at hK ht;have hw6:=he6.chg.size;obtain⟨B1,hB1⟩:∃B1,B1=w6.heap.size:=⟨_,rfl⟩;have lt5:=L5.lt;have lt4:=L4.lt;have hw3:=he3.chg.size;have htl0:(dQ (step1 s)).toks.length=s.toks.length:=congrArg List.length ((iU hg1.ws).1.toks);refine bL.go (λst w'=>st=[]/\∃s1 M1 av ks va vk n,PR w0 w' p f M1 vt s1 top/\Gd N s1 dl/\Eff p f M M1 w w'/\Loc w0 w' p f M1 vt b5 zJ [i64 8,str [],va,vk,i64 t.a]/\Loc w0 w' p f M1 vt b4 zJ [.int .i64 0,.string (aL []),.slice none 0 0,.slice none 0 0,.int .i64 0]/\
   Ro w0 w' p f M1 vt B1 eX 1 va av.length (ints av)/\Ro w0 w' p f M1 vt B1 Ah 1 vk ks.length (strs ks)/\(∀k,va.ownBlock=some k->vk.ownBlock≠some k)/\B1<=w'.heap.size/\Cg E t.a n s1 av ks=R0/\s1.toks.length<n+s1.i/\av.length<=s1.i/\ks.length=av.length/\s1.toks.length=s.toks.length) (λ_ w'=>s.toks.length-vY w' p)
  ⟨rfl,_,M,[],[],_,_,s.toks.length+1,h6,hg6,he6,L5,L4,Ro.nil _ _,Ro.nil _ _,λk hk=>by simp[Value.ownBlock]at hk,by omega,hR,by omega,by simp,rfl,htl0⟩ ?_
 rintro st g w7 ⟨rfl,s1,M1,av,ks,va,vk,n,h7,hg7,he7,L5,L4,rA,rK,dd,hz7,hob,hn,hav,hks,htl⟩;have hlt7:=hg7.ws.lt;obtain⟨n,rfl⟩:∃m,n=m+1:=⟨n-1,by omega⟩;refine pZ h7 hg7.ws hN hg7.l λw8 h8 he8=>?_;have L4:=L4.eff he8;have L5:=L5.eff he8;have rA:=rA.eff he8;have rK:=rK.eff he8;have hz8:=he8.chg.size;have he8:=he7.trans he8;have hg8:=hg7.take [125];have tg:=fI hg7.ws [125];have tgt:=congrArg List.length tg.1.toks;simp only[Cg]at hob;rw[cJ,aQ];refine⟨λhnt=>?_,λhyt=>?_⟩
 ·have hnt:(aR s1 [125]).1=false:=by simpa using hnt
  rw[if_neg (by rw[hnt];decide)]at hob;generalize hs2:(aR s1 [125]).2=s2 at*
  refine IO h8 hg8.ws hN hg8.l λw9 h9 he9=>?_;have L4:=L4.eff he9;have L5:=L5.eff he9;have rA:=rA.eff he9;have rK:=rK.eff he9;have hz9:=he9.chg.size;have he9:=he8.trans he9;have hg9:=hg8.next;have ng:=nD hg8.ws;have ngt:=congrArg List.length ng.1.toks;have hc2:=hg8.at0;have lt5:=L5.lt;have lt4:=L4.lt;refine aI λb6 w10 hb6 hz10 hbb10 hx10=>?_;have L6:=h9.loc hz10 hb6 hbb10;have h10:=h9.ext hx10;have L4:=L4.ext hx10;have L5:=L5.ext hx10;have nA6:va.ownBlock≠some b6:=λe=>by have:=(rA.off _ e).1.2;omega
  have nK6:vk.ownBlock≠some b6:=λe=>by have:=(rK.off _ e).1.2;omega
  have rA:=rA.ext hx10;have rK:=rK.ext hx10;refine aY (l:=dB (bO s2)) L6.1 rfl rfl rfl λw11 hz11 hbb11 hc11=>?_;have L6:Loc w0 w11 p f M1 vt b6 qG (dB (bO s2)):=⟨hbb11,L6.2.up (by omega)⟩;have h11:=h10.one hc11 L6.2;have L4:=L4.one hc11 (by omega);have L5:=L5.one hc11 (by omega);have rA:=rA.one hc11 nA6;have rK:=rK.one hc11 nK6;have he11:Eff p f M M1 w w11:=(he9.x hx10).one hc11 (by have:=he9.chg.size;omega);have hw11:=he11.chg.size;refine aP.cut (λ_ w'=>∃k s3,(if(bO s2).k=3 then lP (eZ s2) (bO s2)else if(bO s2).k=1 then .ok (bO s2).t (eZ s2)else .err 50 (bO s2).a)=.ok k s3/\s3=eZ s2/\PR w0 w' p f M1 vt (eZ s2) top/\Loc w0 w' p f M1 vt b6 qG [i64 (bO s2).k,str k,i64 (bO s2).a]/\Eff p f M M1 w w'/\Loc w0 w' p f M1 vt b5 zJ [i64 8,str [],va,vk,i64 t.a]/\Loc w0 w' p f M1 vt b4 zJ [.int .i64 0,.string (aL []),.slice none 0 0,.slice none 0 0,.int .i64 0]/\Ro w0 w' p f M1 vt B1 eX 1 va av.length (ints av)/\Ro w0 w' p f M1 vt B1 Ah 1 vk ks.length (strs ks)/\w11.heap.size<=w'.heap.size) ?_ ?_
  ·refine L6.ldf rfl ?_;rw[aM,aB];refine⟨λhk3=>?_,λhk3=>?_⟩
   ·have htx:=hg8.tx hk3;rw[if_pos hk3]at hob;refine aU L6.1 rfl ?_;refine JX h11 htx.1 (by omega) (λl s3 el w12 hx12=>?_) λc a' el=>ht c a' (by rw[<-hob,el];rfl);rw[aO,aV,Nat.zero_add];refine(L6.ext hx12).st rfl (by simp[dB]) λw13 L6 hc13 hz13=>?_;have h13:=(h11.ext hx12).one hc13 L6.2;have e3:s3=eZ s2:=by
     unfold lP at el;split at el
     ·cases el
     ·injection el with _ el;exact el.symm
    exact⟨l,s3,by rw[if_pos hk3];exact el,e3,h13,L6,(he11.x hx12).one hc13 (by have:=he9.chg.size;omega),(L5.ext hx12).one hc13 (by omega),(L4.ext hx12).one hc13 (by omega),(rA.ext hx12).one hc13 nA6,(rK.ext hx12).one hc13 nK6,by have:=hx12.size;omega⟩
   ·rw[aM,aB];refine⟨λhk1=>?_,λhk1=>?_⟩
    ·exact⟨_,_,by rw[if_neg hk3,if_pos hk1],rfl,h11,L6,he11,L5,L4,rA,rK,Nat.le_refl _⟩
    ·refine L6.ldf rfl ?_;refine lY h11 (ht 50 (bO s2).a ?_);rw[<-hob,if_neg hk3,if_neg hk1];rfl
  rintro _ g2 w12 ⟨k,s3,ek,rfl,h12,L6,he12,L5,L4,rA,rK,hz12⟩;rw[ek]at hob;simp only[R.bind]at hob;refine aP.cut (λ_ w'=>w'=w12/\ks.contains k=false) ?_ ?_
  ·rw[aO,aV,Nat.zero_add];refine L5.ld rfl ?_;refine L6.ldf rfl ?_;refine Ae rK.own.sl (by have:=hg7.few;omega) ?_;rw[aB];refine⟨λhm=>?_,λhm=>⟨rfl,by simpa using hm⟩⟩;refine L6.ldf rfl ?_;refine lY h12 (ht 2 (bO s2).a ?_);rw[<-hob,if_pos (by simpa using hm)]
  rintro _ g3 w13 ⟨rfl,hnk⟩;rw[if_neg (by rw[hnk];decide)]at hob;refine sZ h12 hg9.ws hN hg9.l (λs4 e4 w14 h14 he14=>?_) λc a' e4=>ht c a' (by rw[<-hob,e4]);rw[e4]at hob;simp only at hob;obtain⟨hg14,hi14,_⟩:=hg9.want e4;have w14s:=fW hg9.ws [61];rw[e4]at w14s;have w14t:=congrArg List.length w14s.1.1.toks;have L4:=(L4.eff he14).drew;have L5:=(L5.eff he14).drew;have L6:=(L6.eff he14).drew;have rA:=(rA.eff he14).ext (bM w14);have rK:=(rK.eff he14).ext (bM w14);have hz14:=he14.chg.size;have zd14:w14.drew.heap.size=w14.heap.size:=rfl;have he14:=(he12.trans he14).x (bM w14);have h14:=h14.drew;rw[aO,aV,Nat.zero_add];refine L5.ld rfl ?_;refine L6.ldf rfl ?_;rw[aO,aV,Nat.zero_add];refine L5.ld rfl ?_;refine sI λr w15 hr hz15 hrb hx15=>?_;have L4:=L4.ext hx15;have L5:=L5.ext hx15;have rA:=rA.ext hx15;have rK:=rK.ext hx15;have h15:=h14.ext hx15;have he15:=he14.x hx15;have hw15:=he15.chg.size;refine⟨L5.ld rfl rfl,L5.ld rfl rfl,?_⟩;refine Ro.app Pb rK h15 hrb rfl (λu hu=>by simp only[List.mem_singleton]at hu;subst hu;rfl) (by have:=hg7.few;omega) (by decide) (by omega) λvk' w16 rK' hc16 hv16 h16=>?_;have L5:=L5.row hc16 λe=>by have:=rK.new b5 e;omega
  have L4:=L4.row hc16 λe=>by have:=rK.new b4 e;omega
  have dd':∀k,va.ownBlock=some k->vk'.ownBlock≠some k:=λk hk e=>(hv16 k e).elim (dd k hk) λe=>by have:=(rA.off k hk).1.2;omega
  have rA:=rA.row hc16 dd;have he16:=he15.then hc16 λk hk e=>by have:=rK.new k e;omega
  have hz16:=hc16.size;refine⟨L5.ld rfl rfl,?_⟩;rw[aO,aV,Nat.zero_add];refine hE w16 p M1 vt s4 top N _ h16 hg14 (λx s5 ex M5 w17 h17 he17=>?_) λc a' ex=>ht c a' (by rw[<-hob,ex]);rw[ex]at hob;simp only at hob;obtain⟨hg17,hi17⟩:=hg14.e hF ex;have e17t:=hF.ok N s4 hg14.ws;rw[ex]at e17t;have e17t:=congrArg List.length e17t.1.1.toks;have L4:=L4.eff he17;have L5:=L5.eff he17;have rA:=rA.eff he17;have rK:=rK'.eff he17;have hz17:=he17.chg.size;have he17:=he16.trans he17;refine⟨L5.ld rfl rfl,?_⟩;refine fR λr2 w18 hr2 hz18 hrb2 hx18=>?_;have L4:=L4.ext hx18;have L5:=L5.ext hx18;have rA:=rA.ext hx18;have rK:=rK.ext hx18;have h18:=h17.ext hx18;have he18:=he17.x hx18;have hw18:=he18.chg.size;refine⟨L5.ld rfl rfl,?_⟩;refine Ro.app yY rA h18 hrb2 rfl (λu hu=>by simp only[List.mem_singleton]at hu;subst hu;rfl) (by have:=hg7.few;omega) (by decide) (by omega) λva' w19 rA' hc19 hv19 h19=>?_;have L5:=L5.row hc19 λe=>by have:=rA.new b5 e;omega
  have L4:=L4.row hc19 λe=>by have:=rA.new b4 e;omega
  have dd2:∀k,va'.ownBlock=some k->vk'.ownBlock≠some k:=λk hk e=>(hv19 k hk).elim (λh=>dd' k h e) λh=>by have:=(rK.off k e).1.2;omega
  have rK:=rK.row hc19 λk hk e=>dd' k e hk;have he19:=he18.then hc19 λk hk e=>by have:=rA.new k e;omega
  have hz19:=hc19.size;obtain⟨vp,vc,ev,_⟩:=rK.own.sl.shape;refine L5.st (by rw[ev];rfl) (by simp) λw20 L5 hc20 hz20=>?_;have h20:=h19.one hc20 L5.2;have L4:=L4.one hc20 (by omega);have nA5:va'.ownBlock≠some b5:=λe=>by have:=rA'.new b5 e;omega
  have nK5:vk'.ownBlock≠some b5:=λe=>by have:=rK.new b5 e;omega
  have rA:=rA'.one hc20 nA5;have rK:=rK.one hc20 nK5;rw[aO,aV,Nat.zero_add];obtain⟨vp2,vc2,ev2,_⟩:=rA.own.sl.shape;refine L5.st (by rw[ev2];rfl) (by simp) λw21 L5 hc21 hz21=>?_;have h21:=h20.one hc21 L5.2;have L4:=L4.one hc21 (by omega);have rA:=rA.one hc21 nA5;have rK:=rK.one hc21 nK5;have hw5:w.heap.size<=b5:=by omega
  have he21:=(he19.one hc20 hw5).one hc21 hw5;simp only[List.set_cons_zero,List.set_cons_succ]at L5;have hg5:=hg17.take [44];have tg5:=fI hg17.ws [44];have tg5t:=congrArg List.length tg5.1.toks;refine aP.cut (λ_ w'=>∃s6,(s6=(aR s5 [44]).2\/s6=aG (aR s5 [44]).2)/\Cg E t.a n (dQ s6) (av++[x]) (ks++[k])=R0/\PR w0 w' p f M5 vt s6 top/\Eff p f M5 M5 w21 w') ?_ ?_
  ·refine pZ h21 hg17.ws hN hg17.l λw22 h22 he22=>?_;rw[cJ];simp only[eH];by_cases hy:(aR s5 [44]).1=true
   ·rw[hy,Bool.not_true,vU];intro g4;rw[oD];simp only[eH,vU];intro g5;rw[oD,bJ];rw[if_neg (λh=>by rw[hy]at h;exact absurd h.1 (by decide)),if_pos hy]at hob;exact⟨_,.inl rfl,hob,h22,he22⟩
   ·have hy:(aR s5 [44]).1=false:=by simpa using hy
    rw[hy,Bool.not_false];have hyn:(if(aR s5 [44]).1=true then(aR s5 [44]).2 else aG (aR s5 [44]).2)=aG (aR s5 [44]).2:=if_neg (by rw[hy];decide);rw[hyn]at hob;refine cX.act (decide ((bO (aR s5 [44]).2).k≠5)) (λw'=>PR w0 w' p f M5 vt (aG (aR s5 [44]).2) top/\Eff p f M5 M5 w21 w') (λe=>by cases e) (λ_ J hJ=>?_) λg4 w23 hR23=>?_
    ·refine jM h22 hg5.ws hN hg5.l λw23 h23 he23=>?_;refine⟨i64 (bO (aR s5 [44]).2).k,rfl,?_⟩;dsimp only;rw[dG];exact hJ w23 ⟨h23,he22.trans he23⟩
    simp only[List.getD_cons_zero,cond_true,iS];obtain⟨h23,he23⟩:=hR23;have hgn:=hg5.now;by_cases h5:(bO (aR s5 [44]).2).k≠5
    ·rw[decide_eq_true h5];simp only[eH];refine cX.act (!kS (aG (aR s5 [44]).2) [125]) (λw'=>PR w0 w' p f M5 vt (aG (aR s5 [44]).2) top/\Eff p f M5 M5 w21 w') (λe=>by cases e) (λ_ J hJ=>?_) λg5 w24 hR24=>?_
     ·refine sI λb w24 hb hz24 hbb hx24=>?_;have h24:=h23.ext hx24;have L:=h23.loc hz24 hb hbb;refine YZ h24 hgn.ws hN hgn.l ⟨wW hbb rfl,λk hk=>by simp only[Value.ownBlock,Option.some.injEq]at hk;subst hk;exact L.2⟩ λw25 h25 he25=>?_;rw[cJ];rw[dV]at h25;exact hJ w25 ⟨h25,(he23.x hx24).trans he25⟩
     obtain⟨h24,he24⟩:=hR24;simp only[List.getD_cons_zero,cond_true,iS];rw[aQ];refine⟨λhn'=>?_,λhn'=>?_⟩
     ·have hn':kS (aG (aR s5 [44]).2) [125]=false:=by simpa using hn'
      refine jM h24 hgn.ws hN hgn.l λw25 h25 he25=>?_;refine⟨i64 (bO (aG (aR s5 [44]).2)).a,rfl,?_⟩;refine lY h25 (ht 50 _ ?_);rw[<-hob,if_pos ⟨hy,h5,hn'⟩]
     ·have hn':kS (aG (aR s5 [44]).2) [125]=true:=by simpa using hn'
      rw[if_neg (λh=>by rw[h.2.2]at hn';cases hn')]at hob;exact⟨_,.inr rfl,hob,h24,he24⟩
    ·rw[decide_eq_false h5];simp only[eH,vU];intro g5;rw[oD,bJ];rw[if_neg (λh=>h5 h.2.1)]at hob;exact⟨_,.inr rfl,hob,h23,he23⟩
  rintro _ g4 w22 ⟨s6,es6,hob6,h22,he22⟩;have hg6:Gd N s6 dl/\(aR s5 [44]).2.i<=s6.i/\s6.toks=(aR s5 [44]).2.toks:=by
   rcases es6 with rfl|rfl
   ·exact⟨hg5,Nat.le_refl _,rfl⟩
   ·exact⟨hg5.now,GF _,(dN hg5.ws).toks⟩
  obtain⟨hg6,hi6,et6⟩:=hg6;have et6:=congrArg List.length et6;refine uR h22 hg6.ws hN hg6.l λw23 h23 he23=>?_;have lg:=iU hg6.ws;have lgt:=congrArg List.length lg.1.toks;have he223:=he22.trans he23;have hz22:=he223.chg.size;have i1:=tg.1.le;have i2:=ng.1.le;have i3:=tg5.1.le;have i4:=lg.1.le;have hg23:=hg6.lines;have hlt23:=hg23.ws.lt;refine⟨⟨rfl,dQ s6,M5,av++[x],ks++[k],va',vk',n,h23,hg23,he21.trans he223,L5.eff he223,L4.eff he223,?_,?_,dd2,by omega,hob6,by omega,?_,by simp[hks],by omega⟩,?_⟩
  ·rw[List.length_append,List.length_cons,List.length_nil,Bt];exact rA.eff he223
  ·rw[List.length_append,List.length_cons,List.length_nil,MR];exact rK.eff he223
  ·rw[List.length_append,List.length_cons,List.length_nil];omega
  ·rw[h23.at_,h7.at_];omega
 ·have hyt:(aR s1 [125]).1=true:=by simpa using hyt
  rw[if_pos hyt]at hob;refine aU L5.1 rfl ?_;have hE8:ER w0 w8 p f M1 vt B1 ⟨8,[],av,ks,t.a⟩ va vk:=⟨rA,rK,dd⟩;refine IC (e:=⟨8,[],av,ks,t.a⟩) h8 L4 rfl hE8 (λe=>by have:=rA.new b4 e;omega) (λe=>by have:=rK.new b4 e;omega) λw9 h9 hc9 hE9=>?_;exact hK _ _ hob.symm M1 _ _ w9 h9 hg8 (he8.one hc9 (by omega)) (hE9.le (by omega))
end
theorem sY{α:Type}{s:PS}{a:Int}{q:Bool}{f:PS->R α}(hd:s.deep≠24):within s a q f=(f {s with deep:=s.deep+1,quiet:=q}).bind λx s'=>.ok x {s' with deep:=s.deep,quiet:=s.quiet}:=by
 unfold within;rw[if_neg hd]
theorem oW{α:Type}{s:PS}{a:Int}{q:Bool}{f:PS->R α}(hd:s.deep=24):within s a q f=.err 7 a:=by
 unfold within;rw[if_pos hd]
theorem eM(s:PS)(w:aH):kS (aG s) w=kS s w:=by unfold kS;rw[gH]
section
variable [HX]
variable{w0 w w' w1:World}{p f b:Nat}{M M' M0:Lay}{vt:Value}{s:PS}{top:List Nat}{N:Int}{K:Q0}{e:Ex}{va vk:Value}{wbn:Nat}{wb:World}{dl:Nat}
theorem Gd.sign{x:aH}(hg:Gd N s (dl+1))(hi:kS s x=true)(q:Bool):
  Gd N {aG s with deep:=(aG s).deep+1,quiet:=q} dl/\aG {aG s with deep:=(aG s).deep+1,quiet:=q}={aG s with deep:=(aG s).deep+1,quiet:=q}/\(bO {aG s with deep:=(aG s).deep+1,quiet:=q}).k≠0/\Gd N (step1 {aG s with deep:=(aG s).deep+1,quiet:=q}) dl:=by
 have h1:=hg.now.frame q;obtain⟨a,b,c⟩:=kL hg.ws hi ((aG s).deep+1) q;have h2:=h1.step b;rw[a]at h2;exact⟨h1,a,b,h2⟩
theorem xH{x:aH}{KK:Q0}(h:PR w0 w p f M vt s top)(hg:Gd N s dl)(hK:∀w',PR w0 w' p f M vt (aG s) top->Eff p f M M w w'->KK (.bool (kS s x)) w'):
  bR Ah 1 [(.string (aL []))] [(0,1,str x)] w λt60 w17=>aA P0 49 [.pointer (some ⟨p,0,none⟩),t60] w17 KK:=by
 refine sI λb w1 hb hz1 hbb hx1=>?_;have L1:=h.loc hz1 hb hbb;refine YZ (h.ext hx1) hg.ws hg.hN hg.l ⟨wW hbb rfl,λk hk=>by simp only[Value.ownBlock,Option.some.injEq]at hk;subst hk;exact L1.2⟩ λw2 h2 he2=>hK w2 h2 ((Eff.ext hx1).trans he2)
theorem Zt{E:PS->R Nat}(hS:uD w0 f)(hE:∀d,dl=d+1->EC w0 f 82 E d)(hF:mV E):EC w0 f 236 (xU E) dl:=by
 intro w p M vt s top N K h hg hK ht;refine Uo ?_;unfold aB9;have hN:=hg.hN;have hat:=hg.at0;refine oP rfl λb1 w1 hb1 hz1 hbb1 hx1=>?_;have h1:=h.ext hx1;have L1:=h.loc hz1 hb1 hbb1;refine L1.ld rfl ?_;refine jM h1 hg.ws hN hg.l λw2 h2 he2=>?_;have L1:=L1.eff he2;have he2:=(Eff.ext hx1).trans he2;have lt1:=L1.lt;refine aI λb3 w3 hb3 hz3 hbb3 hx3=>?_;have h3:=h2.ext hx3;have L3:=h2.loc hz3 hb3 hbb3;have L1:=L1.ext hx3;refine aY (l:=dB (bO s)) L3.1 rfl rfl rfl λw4 hz4 hbb4 hc4=>?_;have L3:Loc w0 w4 p f M vt b3 qG (dB (bO s)):=⟨hbb4,L3.2.up (by omega)⟩;have h4:=h3.one hc4 L3.2;have L1:=L1.one hc4 (by omega);have hw2:=he2.chg.size;have he4:=(he2.x hx3).one hc4 (by omega);refine L3.ldf rfl ?_;simp only[bN,cG,bI,List.length_cons,List.length_nil,List.set_cons_zero,List.set_cons_succ,Nat.reduceAdd,Nat.reduceLT,true_and,Nat.zero_lt_succ];have lt3:=L3.lt;refine aI λb4 w5 hb4 hz5 hbb5 hx5=>?_;have h5:=h4.ext hx5;have L4:=h4.loc hz5 hb4 hbb5;have L1:=L1.ext hx5;have L3:=L3.ext hx5;refine aY (l:=[i64 0,str [],.slice none 0 0,.slice none 0 0,i64 (bO s).a]) L4.1 rfl rfl rfl λw6 hz6 hbb6 hc6=>?_;have L4:Loc w0 w6 p f M vt b4 zJ [i64 0,str [],.slice none 0 0,.slice none 0 0,i64 (bO s).a]:=⟨hbb6,L4.2.up (by omega)⟩;have h6:=h5.one hc6 L4.2;have L1:=L1.one hc6 (by omega);have L3:=L3.one hc6 (by omega);have he6:=(he4.x hx5).one hc6 (by omega);have hw6:=he6.chg.size;have hgn:=hg.now;have hi1:=JI hgn.ws hgn.l;have hb14:b1≠b4:=by omega
 have hb34:b3≠b4:=by omega
 have hwb4:w.heap.size<=b4:=by omega
 have hlev:=hgn.lev;have hd24:(aG s).deep<=24:=by omega
 refine aP.cut (λ_ w'=>∃M1 s1 e va vk,PR w0 w' p f M1 vt s1 top/\Gd N s1 dl/\Eff p f M M1 w w'/\Loc w0 w' p f M1 vt b1 DV [.pointer (some ⟨p,0,none⟩)]/\Loc w0 w' p f M1 vt b4 zJ (Jo e va vk)/\ER w0 w' p f M1 vt w.heap.size e va vk/\xU E s=mP s1 e) ?_ ?_
 ·unfold xU at hK ht⊢;simp only at hK ht⊢;refine L3.ldf rfl ?_;rw[aM,aB];refine⟨λhk=>?_,λhk=>?_⟩
  ·
   have hk0:(bO s).k≠0:=by rw[hk];decide
   refine L1.ld rfl ?_;refine h6.go hi1 λw7 h7 he7 hz7=>?_;have L1:=L1.eff he7;have L3:=(L3.eff he7).drew;have L4:=(L4.eff he7).drew;have h7:=h7.drew;have he7:=(he6.trans he7).x (bM w7);rw[aO,aV,Nat.zero_add];refine L3.ld rfl ?_;rw[aO,aV,Nat.zero_add];refine L4.st rfl (by simp) λw8 L4 hc8 hz8=>?_;have L3:=L3.one hc8 hb34;refine⟨L3.ld rfl rfl,?_⟩;rw[aO,aV,Nat.zero_add];refine L4.st rfl (by simp) λw9 L4 hc9 hz9=>?_;have h9:=(h7.one hc8 L4.2).one hc9 L4.2;refine⟨M,_,⟨4,(bO s).t,[],[],(bO s).a⟩,.slice none 0 0,.slice none 0 0,h9,hg.step hk0,(he7.one hc8 hwb4).one hc9 hwb4,(L1.drew.one hc8 hb14).one hc9 hb14,L4,ER.leaf rfl rfl,by rw[if_pos hk]⟩
  rw[if_neg hk]at hK ht⊢;refine L3.ldf rfl ?_;rw[aM,aB];refine⟨λhk3=>?_,λhk3=>?_⟩
  ·
   rw[if_pos hk3]at hK ht;have hk0:(bO s).k≠0:=by rw[hk3];decide
   refine L1.ld rfl ?_;refine h6.go hi1 λw7 h7 he7 hz7=>?_;have L1:=L1.eff he7;have L3:=L3.eff he7;have he7:=he6.trans he7;refine L1.ld rfl ?_;refine aU L3.1 rfl ?_;have htx:=hg.tx hk3;have hcp:=fT hg.ws;have hph:=(kX hk0).1;have hwt:wt {bO s with k:=3}=wt (iH (aG s)):=by
    have e3:(iH (aG s)).k=3:=hk3;unfold wt;simp only[e3];rfl
   refine WX hS hE hF h7 (hg.step hk0) htx.1 htx.2 ⟨hcp.1,hcp.2.1⟩ (hcp.2.2.2.1 hk3) (by rw[hwt];have:=hg.phi;omega) (λx s' ex M' w8 h8 he8=>?_) λc a' ex=>ht c a' ex;exact hK x s' ex M' w8 h8 (he7.trans he8)
  rw[if_neg hk3]at hK ht⊢;refine L3.ldf rfl ?_;rw[aM];simp only[eH];refine cX.look (decide ((bO s).t≠GV)) (λ_ J hJ=>?_) λg=>?_
  ·refine L3.ldf rfl ?_;rw[sJ];exact hJ
  simp only[List.getD_cons_zero];rw[cW,aQ];refine⟨λhcc=>?_,λhcc=>?_⟩
  ·
   have hc:(bO s).k=1/\(bO s).t≠GV:=by simpa using hcc
   rw[if_pos hc]at hK ht⊢;have hk0:(bO s).k≠0:=by rw[hc.1];decide
   have hgs:=hg.step hk0;refine L1.ld rfl ?_;refine h6.go hi1 λw7 h7 he7 hz7=>?_;have L1:=L1.eff he7;have L3:=L3.eff he7;have L4:=L4.eff he7;have he7:=he6.trans he7;refine L1.ld rfl ?_;refine xH h7 hgs λw8 h8 he8=>?_;have L1:=L1.eff he8;have L3:=L3.eff he8;have L4:=L4.eff he8;have he8:=he7.trans he8;rw[cJ,aQ];refine⟨λhn=>?_,λhy=>?_⟩
   ·have hn:kS (step1 (aG s)) [40]=false:=by simpa using hn
    rw[if_neg (by rw[hn];decide)];refine L3.ldf rfl ?_;refine SE ?_;rw[aO,aV,Nat.zero_add];refine L4.st rfl (by simp) λw9 L4 hc9 hz9=>?_;have h9:=h8.one hc9 L4.2;have L1:=L1.one hc9 hb14;have L3:=L3.one hc9 hb34;have he9:=he8.one hc9 hwb4;refine L4.ldf rfl ?_;rw[aM,aB];refine⟨λh9k=>?_,λh9k=>?_⟩
    ·refine L3.ldf rfl ?_;rw[aO,aV,Nat.zero_add];refine L4.st rfl (by simp) λw10 L4 hc10 hz10=>?_;refine⟨M,_,⟨tK (bO s).t,(bO s).t,[],[],(bO s).a⟩,.slice none 0 0,.slice none 0 0,h9.one hc10 L4.2,hgs.now,he9.one hc10 hwb4,L1.one hc10 hb14,L4,ER.leaf rfl rfl,by rw[if_pos h9k]⟩
    ·refine⟨M,_,⟨tK (bO s).t,[],[],[],(bO s).a⟩,.slice none 0 0,.slice none 0 0,h9,hgs.now,he9,L1,L4,ER.leaf rfl rfl,by rw[if_neg h9k]⟩
   ·have hy:kS (step1 (aG s)) [40]=true:=by simpa using hy
    rw[if_pos hy]at hK ht⊢;have L1:=L1.drew;have L3:=L3.drew;have L4:=L4.drew;have h8:=h8.drew;have he8:=he8.x (bM w8);rw[aO,aV,Nat.zero_add];refine L3.ld rfl ?_;rw[aO,aV,Nat.zero_add];refine L4.st rfl (by simp) λw9 L4 hc9 hz9=>?_;have h9:=h8.one hc9 L4.2;have L1:=L1.one hc9 hb14;have L3:=L3.one hc9 hb34;have he9:=he8.one hc9 hwb4;refine⟨L3.ld rfl rfl,?_⟩;rw[aO,aV,Nat.zero_add];refine L4.st rfl (by simp) λw10 L4 hc10 hz10=>?_;have h10:=(h9.one hc10 L4.2).drew;have L1:=(L1.one hc10 hb14).drew;have L4:=L4.drew;have he10:=(he9.one hc10 hwb4).x (bM w10);simp only[List.set_cons_zero,List.set_cons_succ]at L4;refine L1.ld rfl ?_;refine L1.ld rfl ?_;have hgq:=hgs.now;refine jM h10 hgq.ws hN hgq.l λw11 h11 he11=>?_;rw[dV]at h11;rw[gH];have L1:=L1.eff he11;have L4:=L4.eff he11;have he11:=he10.trans he11;refine⟨L1.ld rfl rfl,i64 (bO (step1 (aG s))).a,rfl,?_⟩;have hql:=hgq.lev;refine kU h11 (by omega) (λhd=>ht 7 _ (by rw[oW hd];rfl)) λhd w12 h12 he12=>?_;obtain⟨d,rfl⟩:∃d,dl=d+1:=⟨dl-1,by omega⟩;rw[sY hd]at ht⊢;obtain⟨q1,q2,q3,q4⟩:=hgs.sign hy true;have L1:=L1.eff he12;have L4:=L4.eff he12;have he12:=he11.trans he12;refine fQ (caps:=[.pointer (some ⟨b1,0,none⟩),.pointer (some ⟨b4,0,none⟩)]) ?_;refine Ug ?_;unfold aB3;refine L1.ld rfl ?_;refine h12.go (JI q1.ws q1.l) λw13 h13 he13 hz13=>?_;have L1:=L1.eff he13;have L4:=L4.eff he13;have he13:=he12.trans he13;refine L1.ld rfl ?_;have lt4':=L4.lt;refine Pw (hE d rfl) hF h13 q4 (λl s' el M' v w14 h14 hg14 he14 hr14=>?_) λc a' el=>ht c a' (by rw[el];rfl);have L1:=L1.eff he14;have L4:=L4.eff he14;have hw13:=he13.chg.size;obtain⟨vp,vc,ev,_⟩:=hr14.own.sl.shape;have nv4:v.ownBlock≠some b4:=λe=>by have:=hr14.new b4 e;omega
    rw[aO,aV,Nat.zero_add];refine L4.st (by rw[ev];rfl) (by simp) λw15 L4 hc15 hz15=>?_;have h15:=h14.one hc15 L4.2;have L1:=L1.one hc15 hb14;have hr15:=hr14.one hc15 nv4;have he15:=(he13.trans he14).one hc15 hwb4;have hg14l:=hg14.lev;refine⟨M',s',h15,by omega,λw16 h16 he16=>?_⟩;refine⟨M',_,⟨12,(bO s).t,l,[],(bO s).a⟩,v,.slice none 0 0,h16,hgs.now.back hg14,he15.trans he16,L1.eff he16,L4.eff he16,(ER.noK rfl (hr15.le (by omega))).eff he16,by rw[el];rfl⟩
  ·
   have hc:¬((bO s).k=1/\(bO s).t≠GV):=by simpa using hcc
   rw[if_neg hc]at hK ht⊢;simp only[eM]at hK ht⊢;have ret5:∀{w7 w8:World} {M':Lay} {s':PS} {e:Ex} {va vk:Value},PR w0 w7 p f M' vt s' top->Loc w0 w7 p f M' vt b1 DV [.pointer (some ⟨p,0,none⟩)]->Loc w0 w7 p f M' vt b4 zJ [i64 0,str [],.slice none 0 0,.slice none 0 0,i64 (bO s).a]->ER w0 w7 p f M' vt w8.heap.size e va vk->b4<w8.heap.size->w.heap.size<=w8.heap.size->∀{KW:World->Prop},
     (∀w9,PR w0 w9 p f M' vt s' top->aS (HZ b4) w7 w9->Loc w0 w9 p f M' vt b1 DV [.pointer (some ⟨p,0,none⟩)]->Loc w0 w9 p f M' vt b4 zJ (Jo e va vk)->ER w0 w9 p f M' vt w.heap.size e va vk->KW w9)->bF 5 (.pointer (some ⟨b4,0,none⟩)) (.agg (Jo e va vk).toArray) w7 KW:=λ{w7 w8 M' s' e va vk} h7 L1 L4 hE7 hb hw {KW} hKW=>by
    refine aY (l:=Jo e va vk) L4.1 rfl rfl (Kz hE7) λw9 hz9 hb9 hc9=>?_;exact hKW w9 (h7.one hc9 L4.2) hc9 (L1.one hc9 hb14) ⟨hb9,L4.2.up (by omega)⟩ ((hE7.one hc9 (λe=>by have:=hE7.rA.new b4 e;omega) (λe=>by have:=hE7.rK.new b4 e;omega)).le hw)
   refine L1.ld rfl ?_;refine xH h6 hgn λw7 h7 he7=>?_;rw[dV]at h7;have L1:=L1.eff he7;have L3:=L3.eff he7;have L4:=L4.eff he7;have he7:=he6.trans he7;rw[eM,aQ];refine⟨λhi=>?_,λhi=>?_⟩
   ·rw[if_pos hi]at hK ht;have lt1:=L1.lt;have hw7:=he7.chg.size;refine aI λb5 w8 hb5 hz8 hbb8 hx8=>?_;have h8:=h7.ext hx8;have L5:=h7.loc hz8 hb5 hbb8;refine L5.st rfl (by simp) λw9 L5 hc9 hz9=>?_;have h9:=h8.one hc9 L5.2;have L1:=(L1.ext hx8).one hc9 (by omega);have L3:=(L3.ext hx8).one hc9 (by have:=L3.lt;omega);have he9:=(he7.x hx8).one hc9 (by omega);refine L1.ld rfl ?_;refine L3.ldf rfl ?_;refine kU h9 hd24 (λhd=>ht 7 _ (by rw[oW hd])) λhd w10 h10 he10=>?_;obtain⟨d,rfl⟩:∃d,dl=d+1:=⟨dl-1,by omega⟩;rw[sY hd]at ht hK;obtain⟨q1,q2,q3,q4⟩:=hg.sign hi true;have L1:=L1.eff he10;have L5:=L5.eff he10;have he10:=he9.trans he10;refine fQ (caps:=[.pointer (some ⟨b1,0,none⟩),.pointer (some ⟨b5,0,none⟩)]) ?_;refine Ue ?_;unfold aB1;refine L1.ld rfl ?_;refine h10.go (JI q1.ws q1.l) λw11 h11 he11 hz11=>?_;have L1:=L1.eff he11;have L5:=L5.eff he11;have he11:=he10.trans he11;refine L1.ld rfl ?_;refine hE d rfl w11 p M vt _ top N _ h11 q4 (λx s' ex M' w12 h12 he12=>?_) λc a' ex=>ht c a' (by rw[ex];rfl);obtain⟨g12,_⟩:=q4.e hF ex;rw[ex]at hK ht;simp only[R.bind]at hK ht;have L1:=L1.eff he12;have L5:=L5.eff he12;have he12:=he11.trans he12;refine L5.st rfl (by simp) λw13 L5 hc13 hz13=>?_;have h13:=h12.one hc13 L5.2;have L1:=L1.one hc13 (by omega);have he13:=he12.one hc13 (by omega);refine L1.ld rfl ?_;refine sZ h13 g12.ws hN g12.l (λs3 e3 w14 h14 he14=>?_) λc a' e3=>ht c a' (by rw[e3]);rw[e3]at hK;simp only at hK;obtain⟨g14,_⟩:=g12.want e3;have g14l:=g14.lev;refine⟨M',s3,h14,by omega,λw15 h15 he15=>?_⟩;refine((L5.eff he14).eff he15).ld rfl ?_;exact hK x _ rfl M' w15 h15 ((he13.trans he14).trans he15)
   rw[if_neg (by rw[hi];decide)]at hK ht⊢;refine L1.ld rfl ?_;refine xH h7 hgn λw8 h8 he8=>?_;rw[dV]at h8;have L1:=L1.eff he8;have L3:=L3.eff he8;have L4:=L4.eff he8;have he8:=he7.trans he8;rw[eM,aQ];refine⟨λhi=>?_,λhi=>?_⟩
   ·rw[if_pos hi]at hK ht⊢;refine L1.ld rfl ?_;refine L3.ldf rfl ?_;refine kU h8 hd24 (λhd=>ht 7 _ (by rw[oW hd];rfl)) λhd w10 h10 he10=>?_;obtain⟨d,rfl⟩:∃d,dl=d+1:=⟨dl-1,by omega⟩;rw[sY hd]at ht⊢;obtain⟨q1,q2,q3,q4⟩:=hg.sign hi true;have L1:=L1.eff he10;have L3:=L3.eff he10;have L4:=L4.eff he10;have he10:=he8.trans he10;refine fQ (caps:=[.pointer (some ⟨b1,0,none⟩),.pointer (some ⟨b3,0,none⟩),.pointer (some ⟨b4,0,none⟩)]) ?_;refine Ud ?_;unfold aB0;refine L1.ld rfl ?_;refine aU L3.1 rfl ?_;have lt4':=L4.lt;refine YV (hE d rfl) hF h10 q1 q3 q2 (λe s' el M' va vk w12 h12 g12 he12 hE12=>?_) λc a' el=>ht c a' (by rw[el];rfl);refine ret5 h12 (L1.eff he12) (L4.eff he12) hE12 lt4' he10.chg.size λw13 h13 hc13 L1 L4 hE13=>?_;have g12l:=g12.lev;refine⟨M',s',h13,by omega,λw14 h14 he14=>?_⟩;exact⟨M',_,e,va,vk,h14,hgn.back g12,((he10.trans he12).one hc13 hwb4).trans he14,L1.eff he14,L4.eff he14,hE13.eff he14,by rw[el];rfl⟩
   rw[if_neg (by rw[hi];decide)]at hK ht⊢;refine L1.ld rfl ?_;refine xH h8 hgn λw9 h9 he9=>?_;rw[dV]at h9;have L1:=L1.eff he9;have L3:=L3.eff he9;have L4:=L4.eff he9;have he9:=he8.trans he9;rw[eM,aQ];refine⟨λhi=>?_,λhi=>?_⟩
   ·rw[if_pos hi]at hK ht⊢;refine L1.ld rfl ?_;refine L3.ldf rfl ?_;refine kU h9 hd24 (λhd=>ht 7 _ (by rw[oW hd];rfl)) λhd w10 h10 he10=>?_;obtain⟨d,rfl⟩:∃d,dl=d+1:=⟨dl-1,by omega⟩;rw[sY hd]at ht⊢;obtain⟨q1,q2,q3,q4⟩:=hg.sign hi false;have L1:=L1.eff he10;have L3:=L3.eff he10;have L4:=L4.eff he10;have he10:=he9.trans he10;refine fQ (caps:=[.pointer (some ⟨b1,0,none⟩),.pointer (some ⟨b3,0,none⟩),.pointer (some ⟨b4,0,none⟩)]) ?_;refine Ub ?_;unfold aBY;refine L1.ld rfl ?_;refine aU L3.1 rfl ?_;have lt4':=L4.lt;refine NL (hE d rfl) hF h10 q1 q3 q2 (λe s' el M' va vk w12 h12 g12 he12 hE12=>?_) λc a' el=>ht c a' (by rw[el];rfl);refine ret5 h12 (L1.eff he12) (L4.eff he12) hE12 lt4' he10.chg.size λw13 h13 hc13 L1 L4 hE13=>?_;have g12l:=g12.lev;refine⟨M',s',h13,by omega,λw14 h14 he14=>?_⟩;exact⟨M',_,e,va,vk,h14,hgn.back g12,((he10.trans he12).one hc13 hwb4).trans he14,L1.eff he14,L4.eff he14,hE13.eff he14,by rw[el];rfl⟩
   ·rw[if_neg (by rw[hi];decide)]at ht;refine L3.ldf rfl ?_;exact lY h9 (ht _ _ rfl)
 ·rintro _ g w7 ⟨M1,s1,e,va,vk,h7,hg7,he7,L1,L4,hE7,ea⟩;rw[ea]at hK;refine L1.ld rfl ?_;refine aU L4.1 rfl ?_;refine Gu h7 he7 hE7 hg7 λM' w8 h8 he8 _=>?_;exact hK _ _ rfl M' w8 h8 he8
end
section
variable [HX]
variable{w0 w w' w1:World}{p f b:Nat}{M M' M0:Lay}{vt:Value}{s:PS}{top:List Nat}{N:Int}{K:Q0}{e:Ex}{va vk:Value}{wbn:Nat}{wb:World}{dl:Nat}
theorem PR.row_new{l:List Nat}(h:PR w0 w p f M vt s top){r:Nat}(hr:r=w.heap.size)(hz:w'.heap.size=w.heap.size+1)(hb:w'.heap[r]?=some (.cells (ints l).toArray eX (0,0)))(hl:l.length<=1000000):
  Ro w0 w' p f M vt w.heap.size eX 1 (.slice (some ⟨r,0,none⟩) l.length l.length) l.length (ints l):=
 ⟨NG hb (by have:=h.base;omega) (OG l) hl,λk hk=>by simp only[Value.ownBlock,Option.some.injEq]at hk;subst hk;exact h.off_new (by omega) (by omega),λk hk=>by simp only[Value.ownBlock,Option.some.injEq]at hk;omega⟩
theorem Xy{E:PS->R Nat}(hS:uD w0 f)(hE:∀d,dl=d+1->EC w0 f 82 E d)(hF:mV E):EC w0 f 205 (AW E) dl:=by
 intro w p M vt s top N K h hg hK ht;refine Uy ?_;unfold aCg;have hN:=hg.hN;refine oP rfl λb1 w1 hb1 hz1 hbb1 hx1=>?_;have h1:=h.ext hx1;have L1:=h.loc hz1 hb1 hbb1;refine L1.ld rfl ?_;unfold AW at hK ht;refine Zt hS hE hF w1 p M vt s top N _ h1 hg (λx s1 ex M1 w2 h2 he2=>?_) λc a' ex=>ht c a' (by rw[ex];rfl);rw[ex]at hK ht;simp only[R.bind]at hK ht;have hA:mV (xU E):=⟨λN=>HP (hF.ok N),Gy hF.z⟩;obtain⟨hg1,hi1⟩:=hg.e hA ex;have etl:=(hA.ok N) s hg.ws;rw[ex]at etl;have etl:=congrArg List.length etl.1.1.toks;have L1:=L1.eff he2;have he2:=(Eff.ext hx1).trans he2;generalize hR:mZ E (s.toks.length+1) s1 x=R0 at hK ht;refine bL.go (λst w'=>∃s1 M1 x n,st=[i64 ((x:Nat):Int)]/\PR w0 w' p f M1 vt s1 top/\Gd N s1 dl/\Eff p f M M1 w w'/\Loc w0 w' p f M1 vt b1 DV [.pointer (some ⟨p,0,none⟩)]/\mZ E n s1 x=R0/\s1.toks.length<n+s1.i/\s1.toks.length=s.toks.length) (λ_ w'=>s.toks.length-vY w' p)
  ⟨s1,M1,x,s.toks.length+1,rfl,h2,hg1,he2,L1,hR,by have:=hg1.ws.lt;omega,etl⟩ ?_
 clear he2 L1 h2 ex hg1 hi1 etl hR;rintro st g w2 ⟨s2,M2,y,n,rfl,h2,hg2,he2,L1,hpf,hn,htl⟩;simp only[List.getD_cons_zero];have hlt2:=hg2.ws.lt;have hat:=hg2.at0;obtain⟨n,rfl⟩:∃m,n=m+1:=⟨n-1,by omega⟩;simp only[mZ]at hpf;refine L1.ld rfl ?_;refine jM h2 hg2.ws hN hg2.l λw3 h3 he3=>?_;have L1:=L1.eff he3;have he3:=he2.trans he3;have hgn:=hg2.now;have lt1:=L1.lt;have hw3:=he3.chg.size;refine aI λb4 w4 hb4 hz4 hbb4 hx4=>?_;have h4:=h3.ext hx4;have L4:=h3.loc hz4 hb4 hbb4;have L1:=L1.ext hx4;refine aY (l:=dB (bO s2)) L4.1 rfl rfl rfl λw5 hz5 hbb5 hc5=>?_;have L4:Loc w0 w5 p f M2 vt b4 qG (dB (bO s2)):=⟨hbb5,L4.2.up (by omega)⟩;have h5:=h4.one hc5 L4.2;have L1:=L1.one hc5 (by omega);have he5:=(he3.x hx4).one hc5 (by omega);have hwb1:b1=w.heap.size:=hb1;have fin:∀{w6:World} {M6:Lay} {s6:PS} {e:Ex} {va:Value},PR w0 w6 p f M6 vt s6 top->Gd N s6 dl->Eff p f M M6 w w6->Loc w0 w6 p f M6 vt b1 DV [.pointer (some ⟨p,0,none⟩)]->Ro w0 w6 p f M6 vt w1.heap.size eX 1 va e.args.length (ints e.args)->e.keys=[]->s2.i<s6.i->Syn.phi s6+1<=Syn.phi s2->s6.toks.length=s.toks.length->((mP s6 e).bind λy s3=>mZ E n s3 y)=R0->
   aA P0 117 [.pointer (some ⟨p,0,none⟩),.agg (Jo e va (.slice none 0 0)).toArray] w6 λt24 w12=>(∃s1 M1 x n,[t24]=[i64 ((x:Nat):Int)]/\PR w0 w12 p f M1 vt s1 top/\Gd N s1 dl/\Eff p f M M1 w w12/\Loc w0 w12 p f M1 vt b1 DV [.pointer (some ⟨p,0,none⟩)]/\mZ E n s1 x=R0/\s1.toks.length<n+s1.i/\s1.toks.length=s.toks.length)/\s.toks.length-vY w12 p<s.toks.length-vY w2 p:=λ{w6 M6 s6 e va} h6 hg6 he6 L1 hr hk hi hph htl6 hp6=>by
  refine Gu h6 he6 (ER.noK hk (hr.le (by omega))) hg6 λM' w7 h7 he7 hl7=>?_;have hlt6:=hg6.ws.lt;refine⟨⟨_,M',_,n,rfl,h7,?_,he7,hl7 _ _ _ L1 (λe=>by have:=hr.new b1 e;omega) (by simp[Value.ownBlock]),hp6,by show s6.toks.length<n+s6.i;omega,htl6⟩,?_⟩
  ·exact hg6.put (by have:=hg2.phi;omega)
  ·rw[h7.at_,h2.at_];show s.toks.length-s6.i<_;omega
 have hn1:=dN hg2.ws;have hn1t:=congrArg List.length hn1.toks;refine L1.ld rfl ?_;refine pZ h5 hgn.ws hN hgn.l λw6 h6 he6=>?_;have L1:=L1.eff he6;have L4:=L4.eff he6;have he6:=he5.trans he6;have tg:=fI hgn.ws [46];have tgt:=congrArg List.length tg.1.toks;have hg6:=hgn.take [46];have tp:=gK (aG s2) [46];have np:=fS s2;rw[aQ];refine⟨λhy=>?_,λhn'=>?_⟩
 ·
  rw[if_pos hy]at hpf;have tp:=tp.2 hy;have ti:=tg.2.1 hy;have L1:=L1.drew;have L4:=L4.drew;have h6:=h6.drew;have he6:=he6.x (bM w6);have ld1:∀{w':World} {M':Lay},Loc w0 w' p f M' vt b1 DV [.pointer (some ⟨p,0,none⟩)]->aE false 1 (.pointer (some ⟨b1,0,none⟩)) w' λx=>x=.pointer (some ⟨p,0,none⟩):=λL=>L.ld rfl rfl;have ld4:∀{w':World} {M':Lay},Loc w0 w' p f M' vt b4 qG (dB (bO s2))->aE false 1 (.pointer (some ⟨b4,2,none⟩)) w' λx=>x=i64 (bO s2).a:=λL=>L.ld rfl rfl;refine L1.ld rfl ?_;refine L1.ld rfl ?_;rw[aO,aV,Nat.zero_add];refine L4.ld rfl ?_;have hw6:=he6.chg.size;have hz1':w1.heap.size<=w6.drew.heap.size:=by have:=he6.chg.size;have:=L1.lt;omega
  have kd:∀{w':World} {KK:Q0},PR w0 w' p f M2 vt (aR (aG s2) [46]).2 top->(∀u s7,iA (aR (aG s2) [46]).2 1=.ok u s7->∀w'',PR w0 w'' p f M2 vt s7 top->Eff p f M2 M2 w' w''->KK (.agg (dB u).toArray) w'')->aA P0 46 [.pointer (some ⟨p,0,none⟩),.int .i64 1] w' KK:=λ{w' KK} h hKK=>
   tM h hg6.ws hN hg6.l hKK λc a' eu=>ht c a' (by rw[<-hpf,eu];rfl)
  have done:∀{u:Tok} {s7:PS},iA (aR (aG s2) [46]).2 1=.ok u s7->Gd N s7 dl/\s2.i<s7.i/\Syn.phi s7+1<=Syn.phi s2/\s7.toks.length=s.toks.length/\((mP s7 ⟨10,u.t,[y],[],(bO s2).a⟩).bind λy s3=>mZ E n s3 y)=R0:=λ{u s7} eu=>by
   have hk:=hg6.kind (by decide) eu;have hks:=gZ hg6.ws 1 (by decide);have hkp:=jX (aR (aG s2) [46]).2 1;rw[eu]at hks hkp hpf;have hkt:=congrArg List.length hks.1.1.toks;have hkp:=hkp.1;have h1:=hn1.le;exact⟨hk.1,by have:=hk.2.1;omega,by omega,by omega,hpf⟩
  refine⟨?_,?_,?_,?_,?_,?_⟩
  ·refine kd h6 λu s7 eu w7 h7 he7=>?_;have L1:=L1.eff he7;have L4:=L4.eff he7;have he7':=he6.trans he7;refine⟨ld4 L4,ld1 L1,str u.t,rfl,ld4 L4,ld1 L1,?_⟩;refine fR λr w8 hr hz8 hrb hx8=>?_;refine⟨ld4 (L4.ext hx8),ld1 (L1.ext hx8),?_⟩;simp only[bN,cG,dU,bI,List.length_cons,List.length_nil,List.set_cons_zero,List.set_cons_succ,Nat.reduceAdd,Nat.reduceLT,true_and,Nat.zero_lt_succ];obtain⟨d1,d2,d3,d4,d5⟩:=done eu;exact fin (e:=⟨10,u.t,[y],[],(bO s2).a⟩) (h7.ext hx8) d1 (he7'.x hx8) (L1.ext hx8) ((h7.row_new (l:=[y]) hr hz8 hrb (by simp)).le (by have:=he7.chg.size;omega)) rfl d2 d3 d4 d5
  ·exact ld4 L4
  ·exact ld1 L1
  ·exact ld1 L1
  ·refine kd h6 λu s7 eu w7 h7 he7=>?_;have L1:=L1.eff he7;have L4:=L4.eff he7;have he7':=he6.trans he7;refine⟨ld4 L4,ld1 L1,str u.t,rfl,?_⟩;refine fR λr w8 hr hz8 hrb hx8=>?_;refine⟨ld4 (L4.ext hx8),ld1 (L1.ext hx8),?_⟩;simp only[bN,cG,dU,bI,List.length_cons,List.length_nil,List.set_cons_zero,List.set_cons_succ,Nat.reduceAdd,Nat.reduceLT,true_and,Nat.zero_lt_succ];obtain⟨d1,d2,d3,d4,d5⟩:=done eu;exact fin (e:=⟨10,u.t,[y],[],(bO s2).a⟩) (h7.ext hx8) d1 (he7'.x hx8) (L1.ext hx8) ((h7.row_new (l:=[y]) hr hz8 hrb (by simp)).le (by have:=he7.chg.size;omega)) rfl d2 d3 d4 d5
  ·refine fR λr w8 hr hz8 hrb hx8=>?_;have L1:=L1.ext hx8;have L4:=L4.ext hx8;have rw8:=h6.row_new (l:=[y]) hr hz8 hrb (by simp);refine⟨ld4 L4,ld1 L1,ld1 L1,?_⟩;refine kd (h6.ext hx8) λu s7 eu w7 h7 he7=>?_;have L1:=L1.eff he7;have L4:=L4.eff he7;refine⟨ld4 L4,ld1 L1,str u.t,rfl,?_⟩;simp only[bN,cG,dU,bI,List.length_cons,List.length_nil,List.set_cons_zero,List.set_cons_succ,Nat.reduceAdd,Nat.reduceLT,true_and,Nat.zero_lt_succ];obtain⟨d1,d2,d3,d4,d5⟩:=done eu;exact fin (e:=⟨10,u.t,[y],[],(bO s2).a⟩) h7 d1 ((he6.x hx8).trans he7) L1 ((rw8.eff he7).le (by omega)) rfl d2 d3 d4 d5
 ·have hn':(aR (aG s2) [46]).1=false:=by simpa using hn'
  rw[if_neg (by rw[hn'];decide)]at hpf;have e6:(aR (aG s2) [46]).2=aG s2:=by
   unfold aR at hn'⊢;split
   ·rename_i hi;rw[if_pos hi]at hn';cases hn'
   ·exact dV s2
  rw[e6]at h6;refine L1.ld rfl ?_;refine xH h6 hgn λw7 h7 he7=>?_;rw[dV]at h7;have L1:=L1.eff he7;have L4:=L4.eff he7;have he7:=he6.trans he7;simp only[eM]at hpf⊢;rw[aQ];refine⟨λhi=>?_,λhi=>?_⟩
  ·rw[if_pos hi]at hpf;have hw7:=he7.chg.size;have lt1:=L1.lt;have lt4:=L4.lt;refine aI λb5 w8 hb5 hz8 hbb8 hx8=>?_;have h8:=h7.ext hx8;have L5:=h7.loc hz8 hb5 hbb8;have L1:=L1.ext hx8;have L4:=L4.ext hx8;refine aI λb6 w9 hb6 hz9 hbb9 hx9=>?_;have h9:=h8.ext hx9;have L6:=h8.loc hz9 hb6 hbb9;have L1:=L1.ext hx9;have L4:=L4.ext hx9;have L5:=L5.ext hx9;refine L5.st rfl (by simp) λw10 L5 hc10 hz10=>?_;have h10:=h9.one hc10 L5.2;have L1:=L1.one hc10 (by omega);have L4:=L4.one hc10 (by omega);have L6:=L6.one hc10 (by omega);refine L6.st rfl (by simp) λw11 L6 hc11 hz11=>?_;have h11:=h10.one hc11 L6.2;have L1:=L1.one hc11 (by omega);have L4:=L4.one hc11 (by omega);have L5:=L5.one hc11 (by omega);have he11:=(((he7.x hx8).x hx9).one hc10 (by omega)).one hc11 (by omega);refine L1.ld rfl ?_;refine L4.ldf rfl ?_;have hlev:=hgn.lev;refine kU h11 (by omega) (λhd=>ht 7 _ (by rw[<-hpf,oW hd];rfl)) λhd w12 h12 he12=>?_;obtain⟨d,rfl⟩:∃d,dl=d+1:=⟨dl-1,by omega⟩;rw[sY hd]at hpf;obtain⟨q1,q2,q3,q4⟩:=hg2.sign hi true;have L1:=L1.eff he12;have L4:=L4.eff he12;have L5:=L5.eff he12;have L6:=L6.eff he12;have he12:=he11.trans he12;refine fQ (caps:=[.pointer (some ⟨b1,0,none⟩),.pointer (some ⟨b6,0,none⟩),.pointer (some ⟨b5,0,none⟩)]) ?_;refine Un ?_;unfold aB8;refine L1.ld rfl ?_;refine h12.go (JI q1.ws q1.l) λw13 h13 he13 hz13=>?_;have L1:=L1.eff he13;have L4:=L4.eff he13;have L5:=L5.eff he13;have L6:=L6.eff he13;have he13:=he12.trans he13;generalize hq0:({aG s2 with deep:=(aG s2).deep+1,quiet:=true}:PS)=q0 at*
   have hq0':∀x:PS,x=(⟨(aG s2).toks,(aG s2).i,(aG s2).off,(aG s2).deep+1,true,(aG s2).ex,(aG s2).bl⟩:PS)->x=q0:=λx hx=>hx.trans hq0;have q0p:Syn.phi q0=Syn.phi (aG s2):=by rw[<-hq0];rfl
   have q0i:q0.i=(aG s2).i:=by rw[<-hq0]
   have q0t:q0.toks=(aG s2).toks:=by rw[<-hq0]
   have st0:=fJ q1.ws q3;rw[q2]at st0;have sp0:=(kX q3).2;rw[q2]at sp0;have q4l:=q4.lev;have n1le:=hn1.le;have tg5:=fI q4.ws [42];have tp5:=gK (step1 q0) [42];have g5:=q4.take [42];have tg5t:=congrArg List.length tg5.1.toks;have st0t:=congrArg List.length st0.1.toks;have q0tl:=congrArg List.length q0t;refine aP.cut (λ_ w'=>∃M6 o s6,(((if(aR (step1 q0) [42]).1=true then .ok none (aR (step1 q0) [42]).2 else(E (aR (step1 q0) [42]).2).bind λy q1=>.ok (some y) q1):R (Option Nat))=.ok o s6)/\PR w0 w' p f M6 vt s6 top/\Gd N s6 d/\Eff p f M M6 w w'/\Loc w0 w' p f M6 vt b1 DV [.pointer (some ⟨p,0,none⟩)]/\Loc w0 w' p f M6 vt b4 qG (dB (bO s2))/\Loc w0 w' p f M6 vt b6 4 [.bool o.isNone]/\Loc w0 w' p f M6 vt b5 eX [i64 ((o.getD 0:Nat):Int)]/\s6.i>=(step1 q0).i/\Syn.phi s6<=Syn.phi (step1 q0)/\s6.toks.length=s.toks.length) ?_ ?_
   ·refine L1.ld rfl ?_;refine pZ h13 q4.ws hN q4.l λw14 h14 he14=>?_;have L1:=L1.eff he14;have L4:=L4.eff he14;have L5:=L5.eff he14;have L6:=L6.eff he14;have he14:=he13.trans he14;refine L6.st rfl (by simp) λw15 L6 hc15 hz15=>?_;have h15:=h14.one hc15 L6.2;have L1:=L1.one hc15 (by omega);have L4:=L4.one hc15 (by omega);have L5:=L5.one hc15 (by omega);have he15:=he14.one hc15 (by omega);refine L6.ld rfl ?_;rw[cJ,aQ];refine⟨λhns=>?_,λhsp=>?_⟩
    ·have hns:(aR (step1 q0) [42]).1=false:=by simpa using hns
     rw[hns]at L6;refine L1.ld rfl ?_;refine hE d rfl w15 p M2 vt _ top N _ h15 g5 (λz s6 ez M6 w16 h16 he16=>?_) λc a' ez=>ht c a' ?_
     ·obtain⟨g6,i6⟩:=g5.e hF ez;have ep:=hF.z (aR (step1 q0) [42]).2;have eo:=hF.ok N _ g5.ws;rw[ez]at ep eo;have eot:=congrArg List.length eo.1.1.toks;have ep:Syn.phi s6<=Syn.phi (aR (step1 q0) [42]).2:=ep;have L1:=L1.eff he16;have L4:=L4.eff he16;have L5:=L5.eff he16;have L6:=L6.eff he16;refine L5.st rfl (by simp) λw17 L5 hc17 hz17=>?_;refine⟨M6,some z,s6,?_,h16.one hc17 L5.2,g6,(he15.trans he16).one hc17 (by omega),L1.one hc17 (by omega),L4.one hc17 (by omega),L6.one hc17 (by omega),L5,by have:=tg5.1.le;omega,by have:=tp5.1;omega,by omega⟩;rw[if_neg (by rw[hns];decide),ez];rfl
     ·rw[<-hpf];rw[if_neg (by rw[hns];decide),ez];rfl
    ·have hsp:(aR (step1 q0) [42]).1=true:=by simpa using hsp
     rw[hsp]at L6;exact⟨M2,none,_,by rw[if_pos hsp],h15,g5,he15,L1,L4,L6,L5,tg5.1.le,tp5.1,by omega⟩
   rintro _ g2 w14 ⟨M6,o,s6,eo,h14,g6,he14,L1,L4,L6,L5,i6,p6,t6⟩;have hpf2:((kJ s6 [93]).bind λ_ q2=>.ok o q2)=(if(aR (step1 q0) [42]).1=true then(kJ (aR (step1 q0) [42]).2 [93]).bind λ_ q2=>.ok none q2 else(E (aR (step1 q0) [42]).2).bind λy q1=>(kJ q1 [93]).bind λ_ q2=>.ok (some y) q2):=by
    by_cases hsp:(aR (step1 q0) [42]).1=true
    ·rw[if_pos hsp]at eo⊢;injection eo with e1 e2
     subst e1 e2;rfl
    ·rw[if_neg hsp]at eo⊢;cases hez:E (aR (step1 q0) [42]).2 with
     |err c a=>rw[hez]at eo;cases eo
     |ok z s7=>
      rw[hez]at eo;simp only[R.bind]at eo;injection eo with e1 e2
      subst e1 e2;rfl
   rw[<-hpf2]at hpf;refine L1.ld rfl ?_;refine sZ h14 g6.ws hN g6.l (λs7 e7 w15 h15 he15=>?_) λc a' e7=>ht c a' (by rw[<-hpf,e7];rfl);rw[e7]at hpf;simp only[R.bind]at hpf;obtain⟨g7,i7,_⟩:=g6.want e7;have w7:=gJ s6 [93];have w7s:=fW g6.ws [93];rw[e7]at w7 w7s;have w7:Syn.phi s7+1<=Syn.phi s6:=w7;have w7t:=congrArg List.length w7s.1.1.toks;have g7l:=g7.lev;have L1:=L1.eff he15;have L4:=L4.eff he15;have L5:=L5.eff he15;have L6:=L6.eff he15;have he15:=he14.trans he15;refine⟨M6,s7,h15,by omega,λw16 h16 he16=>?_⟩;have L1:=L1.eff he16;have L4:=L4.eff he16;have L5:=L5.eff he16;have L6:=L6.eff he16;have he16:=he15.trans he16;have g8:Gd N {s7 with deep:=(aG s2).deep,quiet:=(aG s2).quiet} (d+1):=hgn.back g7;have st1i:(step1 q0).i=(aG s2).i+1:=by show q0.i+1=_;rw[q0i]
   refine L6.ld rfl ?_;rw[cJ,aQ];cases o with
   |some z=>
    refine⟨λ_=>?_,λe=>by cases e⟩;simp only at hpf;refine L1.ld rfl ?_;refine L5.ld rfl ?_;have hz1':w1.heap.size<=w16.heap.size:=by have:=L1.lt;omega
    refine HI λr w17 hr hz17 hrb hx17=>?_;refine(L4.ext hx17).ldf rfl ?_;simp only[bN,cG,dU,bI,List.length_cons,List.length_nil,List.set_cons_zero,List.set_cons_succ,Nat.reduceAdd,Nat.reduceLT,true_and,Nat.zero_lt_succ];refine fin (e:=⟨11,[],[y,z],[],(bO s2).a⟩) (h16.ext hx17) g8 (he16.x hx17) (L1.ext hx17) ((h16.row_new (l:=[y,z]) hr hz17 hrb (by simp)).le hz1') rfl ?_ ?_ ?_ hpf
    ·show s2.i<s7.i;omega
    ·show Syn.phi s7+1<=_;omega
    ·show s7.toks.length=_;omega
   |none=>
    refine⟨λe=>(by cases e),λ_=>?_⟩;simp only at hpf;refine L1.ld rfl ?_;refine sZ h16 g8.ws hN g8.l (λs9 e9 w17 h17 he17=>?_) λc a' e9=>ht c a' (by rw[<-hpf,e9]);rw[e9]at hpf;simp only[R.bind]at hpf;obtain⟨g9,i9,_⟩:=g8.want e9;generalize hs8:({s7 with deep:=(aG s2).deep,quiet:=(aG s2).quiet}:PS)=s8 at*
    have s8p:Syn.phi s8=Syn.phi s7:=by rw[<-hs8];rfl
    have s8i:s8.i=s7.i:=by rw[<-hs8]
    have s8t:s8.toks=s7.toks:=by rw[<-hs8]
    have s8t:=congrArg List.length s8t;have w9:=gJ s8 [46];have w9s:=fW g8.ws [46];rw[e9]at w9 w9s;have w9:Syn.phi s9+1<=Syn.phi s8:=w9;have w9t:=congrArg List.length w9s.1.1.toks;have L1:=(L1.eff he17).drew;have L4:=(L4.eff he17).drew;have h17:=h17.drew;have he17':=(he16.trans he17).x (bM w17);have hz1':w1.heap.size<=w17.drew.heap.size:=by have:=L1.lt;omega
    have ld1:∀{w':World} {M':Lay},Loc w0 w' p f M' vt b1 DV [.pointer (some ⟨p,0,none⟩)]->aE false 1 (.pointer (some ⟨b1,0,none⟩)) w' λx=>x=.pointer (some ⟨p,0,none⟩):=λL=>L.ld rfl rfl;have ld4:∀{w':World} {M':Lay},Loc w0 w' p f M' vt b4 qG (dB (bO s2))->aE false 1 (.pointer (some ⟨b4,2,none⟩)) w' λx=>x=i64 (bO s2).a:=λL=>L.ld rfl rfl;refine L1.ld rfl ?_;refine L1.ld rfl ?_;rw[aO,aV,Nat.zero_add];refine L4.ld rfl ?_;have kd:∀{w':World} {KK:Q0},PR w0 w' p f M6 vt s9 top->(∀u s7,iA s9 1=.ok u s7->∀w'',PR w0 w'' p f M6 vt s7 top->Eff p f M6 M6 w' w''->KK (.agg (dB u).toArray) w'')->aA P0 46 [.pointer (some ⟨p,0,none⟩),.int .i64 1] w' KK:=λ{w' KK} h hKK=>
     tM h g9.ws hN g9.l hKK λc a' eu=>ht c a' (by rw[<-hpf,eu])
    have done:∀{u:Tok} {sa:PS},iA s9 1=.ok u sa->Gd N sa (d+1)/\s2.i<sa.i/\Syn.phi sa+1<=Syn.phi s2/\sa.toks.length=s.toks.length/\((mP sa ⟨30,u.t,[y],[],(bO s2).a⟩).bind λy s3=>mZ E n s3 y)=R0:=λ{u sa} eu=>by
     have hk:=g9.kind (by decide) eu;have hks:=gZ g9.ws 1 (by decide);have hkp:=jX s9 1;rw[eu]at hks hkp hpf;have hkt:=congrArg List.length hks.1.1.toks;have hkp:=hkp.1;exact⟨hk.1,by have:=hk.2.1;omega,by omega,by omega,hpf⟩
    refine⟨?_,?_,?_,?_,?_,?_⟩
    ·refine kd h17 λu sa eu wa ha hea=>?_;have L1:=L1.eff hea;have L4:=L4.eff hea;refine⟨ld4 L4,ld1 L1,str u.t,rfl,ld4 L4,ld1 L1,?_⟩;refine fR λr wb hr hzb hrb hxb=>?_;refine⟨ld4 (L4.ext hxb),ld1 (L1.ext hxb),?_⟩;simp only[bN,cG,dU,bI,List.length_cons,List.length_nil,List.set_cons_zero,List.set_cons_succ,Nat.reduceAdd,Nat.reduceLT,true_and,Nat.zero_lt_succ];obtain⟨d1,d2,d3,d4,d5⟩:=done eu;exact fin (e:=⟨30,u.t,[y],[],(bO s2).a⟩) (ha.ext hxb) d1 ((he17'.trans hea).x hxb) (L1.ext hxb) ((ha.row_new (l:=[y]) hr hzb hrb (by simp)).le (by have:=hea.chg.size;omega)) rfl d2 d3 d4 d5
    ·exact ld4 L4
    ·exact ld1 L1
    ·exact ld1 L1
    ·refine kd h17 λu sa eu wa ha hea=>?_;have L1:=L1.eff hea;have L4:=L4.eff hea;refine⟨ld4 L4,ld1 L1,str u.t,rfl,?_⟩;refine fR λr wb hr hzb hrb hxb=>?_;refine⟨ld4 (L4.ext hxb),ld1 (L1.ext hxb),?_⟩;simp only[bN,cG,dU,bI,List.length_cons,List.length_nil,List.set_cons_zero,List.set_cons_succ,Nat.reduceAdd,Nat.reduceLT,true_and,Nat.zero_lt_succ];obtain⟨d1,d2,d3,d4,d5⟩:=done eu;exact fin (e:=⟨30,u.t,[y],[],(bO s2).a⟩) (ha.ext hxb) d1 ((he17'.trans hea).x hxb) (L1.ext hxb) ((ha.row_new (l:=[y]) hr hzb hrb (by simp)).le (by have:=hea.chg.size;omega)) rfl d2 d3 d4 d5
    ·refine fR λr wb hr hzb hrb hxb=>?_;have L1:=L1.ext hxb;have L4:=L4.ext hxb;have rwb:=h17.row_new (l:=[y]) hr hzb hrb (by simp);refine⟨ld4 L4,ld1 L1,ld1 L1,?_⟩;refine kd (h17.ext hxb) λu sa eu wa ha hea=>?_;have L1:=L1.eff hea;have L4:=L4.eff hea;refine⟨ld4 L4,ld1 L1,str u.t,rfl,?_⟩;simp only[bN,cG,dU,bI,List.length_cons,List.length_nil,List.set_cons_zero,List.set_cons_succ,Nat.reduceAdd,Nat.reduceLT,true_and,Nat.zero_lt_succ];obtain⟨d1,d2,d3,d4,d5⟩:=done eu;exact fin (e:=⟨30,u.t,[y],[],(bO s2).a⟩) ha d1 ((he17'.x hxb).trans hea) L1 ((rwb.eff hea).le (by omega)) rfl d2 d3 d4 d5
  ·have hi:kS s2 [91]=false:=by simpa using hi
   rw[if_neg (by rw[hi];decide)]at hpf;exact hK y _ hpf.symm M2 w7 h7 he7
end
section
variable [HX]
variable{w0 w w' w1:World}{p f b:Nat}{M M' M0:Lay}{vt:Value}{s:PS}{top:List Nat}{N:Int}{K:Q0}{e:Ex}{va vk:Value}{wbn:Nat}{wb:World}{dl:Nat}
theorem Iw{E S:PS->R Nat}(hS:uD w0 f)(hE:∀d,dl=d+1->EC w0 f 82 E d)(hG:∀d,dl=d+1->EC w0 f 151 S d)(hF:mV E)(hFS:mV S):EC w0 f 151 (vL E S) dl:=by
 intro w p M vt s top N K h hg hK ht;refine UX ?_;unfold aCC;have hN:=hg.hN;refine oP rfl λb1 w1 hb1 hz1 hbb1 hx1=>?_;have h1:=h.ext hx1;have L1:=h.loc hz1 hb1 hbb1;refine L1.ld rfl ?_;refine jM h1 hg.ws hN hg.l λw2 h2 he2=>?_;have L1:=L1.eff he2;have he2:=(Eff.ext hx1).trans he2;have lt1:=L1.lt;have hgn:=hg.now;refine aI λb3 w3 hb3 hz3 hbb3 hx3=>?_;have h3:=h2.ext hx3;have L3:=h2.loc hz3 hb3 hbb3;have L1:=L1.ext hx3;refine aY (l:=dB (bO s)) L3.1 rfl rfl rfl λw4 hz4 hbb4 hc4=>?_;have L3:Loc w0 w4 p f M vt b3 qG (dB (bO s)):=⟨hbb4,L3.2.up (by omega)⟩;have h4:=h3.one hc4 L3.2;have L1:=L1.one hc4 (by omega);have hw2:=he2.chg.size;have he4:=(he2.x hx3).one hc4 (by omega);refine aP.cut (λst w'=>∃(k:Int) (x:aH),st=[i64 k]/\kS s x=true/\vL E S s=((within (aG s) (bO s).a (aG s).quiet λq=>S (step1 q)).bind λx s2=>mP s2 ⟨k,[],[x],[],(bO s).a⟩)/\PR w0 w' p f M vt (aG s) top/\Eff p f M M w w'/\Loc w0 w' p f M vt b1 DV [.pointer (some ⟨p,0,none⟩)]/\Loc w0 w' p f M vt b3 qG (dB (bO s))) ?_ ?_
 ·unfold vL at hK ht⊢;simp only[eM]at hK ht⊢;refine L1.ld rfl ?_;refine xH h4 hgn λw5 h5 he5=>?_;rw[dV]at h5;have L1:=L1.eff he5;have L3:=L3.eff he5;have he5:=he4.trans he5;rw[eM,aQ];refine⟨λhi=>⟨14,[33],rfl,hi,by rw[if_pos hi],h5,he5,L1,L3⟩,λhi=>?_⟩;rw[if_neg (by rw[hi];decide)]at hK ht⊢;refine L1.ld rfl ?_;refine xH h5 hgn λw6 h6 he6=>?_;rw[dV]at h6;have L1:=L1.eff he6;have L3:=L3.eff he6;have he6:=he5.trans he6;rw[eM,aQ];refine⟨λhi=>⟨13,[45],rfl,hi,by rw[if_pos hi],h6,he6,L1,L3⟩,λhi=>?_⟩;rw[if_neg (by rw[hi];decide)]at hK ht;refine L1.ld rfl ?_;exact Xy hS hE hF w6 p M vt _ top N _ h6 hgn (λx s' ex M' w7 h7 he7=>hK x s' ex M' w7 h7 (he6.trans he7)) ht
 rintro st g w5 ⟨k,x,rfl,hi,es,h5,he5,L1,L3⟩;rw[es]at hK ht;simp only[List.getD_cons_zero];have hw5:=he5.chg.size;have lt1:=L1.lt;have lt3:=L3.lt;refine aI λb5 w6 hb5 hz6 hbb6 hx6=>?_;have h6:=h5.ext hx6;have L5:=h5.loc hz6 hb5 hbb6;have L1:=L1.ext hx6;have L3:=L3.ext hx6;refine L5.st rfl (by simp) λw7 L5 hc7 hz7=>?_;have h7:=(h6.one hc7 L5.2).drew;have L1:=(L1.one hc7 (by omega)).drew;have L3:=(L3.one hc7 (by omega)).drew;have L5:=L5.drew;have he7:=((he5.x hx6).one hc7 (by omega)).x (bM w7);refine L1.ld rfl ?_;rw[aO,aV,Nat.zero_add];refine L3.ld rfl ?_;refine L1.ld rfl ?_;refine h7.ld rfl ?_;have hlev:=hgn.lev;refine kU h7 (by omega) (λhd=>ht 7 _ (by rw[oW hd];rfl)) λhd w8 h8 he8=>?_;obtain⟨d,rfl⟩:∃d,dl=d+1:=⟨dl-1,by omega⟩;rw[sY hd]at hK ht;obtain⟨q1,q2,q3,q4⟩:=hg.sign hi (aG s).quiet;have L1:=L1.eff he8;have L3:=L3.eff he8;have L5:=L5.eff he8;have he8:=he7.trans he8;refine fQ (caps:=[.pointer (some ⟨b1,0,none⟩),.pointer (some ⟨b5,0,none⟩)]) ?_;refine Uz ?_;unfold aCh;refine L1.ld rfl ?_;refine h8.go (JI q1.ws q1.l) λw9 h9 he9 hz9=>?_;have L1:=L1.eff he9;have L3:=L3.eff he9;have L5:=L5.eff he9;have he9:=he8.trans he9;refine L1.ld rfl ?_;refine hG d rfl w9 p M vt _ top N _ h9 q4 (λy s' ey M' w10 h10 he10=>?_) λc a' ey=>ht c a' (by rw[ey];rfl);obtain⟨g10,_⟩:=q4.e hFS ey;have pz:=hFS.z (step1 {aG s with deep:=(aG s).deep+1,quiet:=(aG s).quiet});rw[ey]at hK pz;have pz:Syn.phi s'<=Syn.phi (step1 (⟨(aG s).toks,(aG s).i,(aG s).off,(aG s).deep+1,(aG s).quiet,(aG s).ex,(aG s).bl⟩:PS)):=pz;have ps:=(kX q3).2;rw[q2]at ps;have pn:=fS s;have pe:Syn.phi (⟨(aG s).toks,(aG s).i,(aG s).off,(aG s).deep+1,(aG s).quiet,(aG s).ex,(aG s).bl⟩:PS)=Syn.phi (aG s):=rfl;simp only[R.bind]at hK;have L1:=L1.eff he10;have L3:=L3.eff he10;have L5:=L5.eff he10;have he10:=he9.trans he10;refine L5.st rfl (by simp) λw11 L5 hc11 hz11=>?_;have h11:=h10.one hc11 L5.2;have L1:=L1.one hc11 (by omega);have L3:=L3.one hc11 (by omega);have he11:=he10.one hc11 (by omega);have g10l:=g10.lev;refine⟨M',s',h11,by omega,λw12 h12 he12=>?_⟩;have L1:=L1.eff he12;have L3:=L3.eff he12;have L5:=L5.eff he12;have he12:=he11.trans he12;refine L1.ld rfl ?_;refine L5.ld rfl ?_;refine fR λr w13 hr hz13 hrb hx13=>?_;refine(L3.ext hx13).ldf rfl ?_;simp only[bN,cG,dU,bI,List.length_cons,List.length_nil,List.set_cons_zero,List.set_cons_succ,Nat.reduceAdd,Nat.reduceLT,true_and,Nat.zero_lt_succ];have hg12:=hgn.back (q:=(aG s).quiet) g10;refine Gu (e:=⟨k,[],[y],[],(bO s).a⟩) (h12.ext hx13) (he12.x hx13) (ER.noK rfl ((h12.row_new (l:=[y]) hr hz13 hrb (by simp)).le he12.chg.size)) hg12 λM2 w14 h14 he14 _=>?_;exact hK _ _ rfl M2 w14 h14 he14
theorem Br{E S:PS->R Nat}(hS:uD w0 f)(hE:∀d,dl=d+1->EC w0 f 82 E d)(hG:∀d,dl=d+1->EC w0 f 151 S d)(hF:mV E)(hFS:mV S):∀(m:Nat),m<=6->∀(w:World) (p:Nat) (M:Lay) (vt:Value) (s:PS) (top:List Nat) (N:Int) (K:Q0),PR w0 w p f M vt s top->Gd N s dl->
  (∀x s',pP E S m s=.ok x s'->∀M' w',PR w0 w' p f M' vt s' top->Eff p f M M' w w'->K (i64 (x:Nat)) w')->(∀c a,pP E S m s=.err c a->Ie w0 f c a)->aA P0 114 [.pointer (some ⟨p,0,none⟩),i64 ((6-m:Nat):Int)] w K
 |0,_,w,p,M,vt,s,top,N,K,h,hg,hK,ht=>by
  refine KV ?_
  unfold aAL
  rw[aM,aB]
  refine⟨λ_=>?_,λe=>absurd rfl e⟩
  exact Iw hS hE hG hF hFS w p M vt s top N _ h hg hK ht
 |m+1,hm,w,p,M,vt,s,top,N,K,h,hg,hK,ht=>by
  refine KV ?_
  unfold aAL
  have hN:=hg.hN
  have hJ:mV (pP E S m):=⟨λN=>rF (hF.ok N) (hFS.ok N) m,rC hF.z hFS.z m⟩
  simp only[pP]at hK ht
  rw[aM,aB]
  refine⟨λe=>by omega,λ_=>?_⟩
  have up:∀{KK:Value->Prop},KK (i64 ((6-m:Nat):Int))->aC .add (i64 ((6-(m+1):Nat):Int)) (.int .i64 1) KK:=λh=>by
   rw[aW,bD (by omega) (by omega),show((6-(m+1):Nat):Int)+1=((6-m:Nat):Int)by omega];exact h
  refine up ?_
  refine Br hS hE hG hF hFS m (by omega) w p M vt s top N _ h hg (λx s1 ex M1 w2 h2 he2=>?_) λc a' ex=>ht c a' (by rw[ex];rfl)
  rw[ex]at hK ht
  simp only[R.bind]at hK ht
  obtain⟨hg1,hi1⟩:=hg.e hJ ex
  have etl:=(hJ.ok N) s hg.ws
  rw[ex]at etl
  have etl:=congrArg List.length etl.1.1.toks
  generalize hR:xG (pP E S m) (5-m) (s.toks.length+1) s1 x=R0 at hK ht
  refine bL.go (λst w'=>∃s1 M1 x n,st=[i64 ((x:Nat):Int)]/\PR w0 w' p f M1 vt s1 top/\Gd N s1 dl/\Eff p f M M1 w w'/\xG (pP E S m) (5-m) n s1 x=R0/\s1.toks.length<n+s1.i/\s1.toks.length=s.toks.length) (λ_ w'=>s.toks.length-vY w' p)
   ⟨s1,M1,x,s.toks.length+1,rfl,h2,hg1,he2,hR,by have:=hg1.ws.lt;omega,etl⟩ ?_
  clear he2 h2 ex hg1 hi1 etl hR
  rintro st g w2 ⟨s2,M2,y,n,rfl,h2,hg2,he2,hpf,hn,htl⟩
  simp only[List.getD_cons_zero]
  have hlt2:=hg2.ws.lt
  obtain⟨n,rfl⟩:∃m,n=m+1:=⟨n-1,by omega⟩
  simp only[xG]at hpf
  refine jM h2 hg2.ws hN hg2.l λw3 h3 he3=>?_
  have he3:=he2.trans he3
  have hw3:=he3.chg.size
  have hgn:=hg2.now
  refine aI λb6 w4 hb6 hz4 hbb4 hx4=>?_
  have h4:=h3.ext hx4
  have L6:=h3.loc hz4 hb6 hbb4
  refine aY (l:=dB (bO s2)) L6.1 rfl rfl rfl λw5 hz5 hbb5 hc5=>?_
  have L6:Loc w0 w5 p f M2 vt b6 qG (dB (bO s2)):=⟨hbb5,L6.2.up (by omega)⟩
  have h5:=h4.one hc5 L6.2
  have he5:=(he3.x hx4).one hc5 (by omega)
  refine aU L6.1 rfl ?_
  refine SQ (by omega) λw6 hx6=>?_
  have h6:=h5.ext hx6
  have L6:=L6.ext hx6
  have he6:=he5.x hx6
  have en:(6-(m+1):Nat)=5-m:=by omega
  rw[en,aM,aB]
  refine⟨λh0=>?_,λh0=>?_⟩
  ·rw[if_pos h0]at hpf
   exact hK y _ hpf.symm M2 w6 h6 he6
  ·rw[if_neg h0]at hpf
   have hk0:(bO s2).k≠0:=λe=>h0 (by unfold sA;rw[e];rfl)
   have hgs:=hg2.step hk0
   have sg:=fJ hg2.ws hk0
   have sp:=(kX hk0).2
   refine h6.go (JI hgn.ws hgn.l) λw7 h7 he7 hz7=>?_
   have L6:=L6.eff he7
   have he7:=he6.trans he7
   have up2:∀{KK:Value->Prop},KK (i64 ((6-m:Nat):Int))->aC .add (i64 ((5-m:Nat):Int)) (.int .i64 1) KK:=λh=>by
    rw[<-en];exact up h
   refine up2 ?_
   refine Br hS hE hG hF hFS m (by omega) w7 p M2 vt _ top N _ h7 hgs (λz s3 ez M3 w8 h8 he8=>?_) λc a' ez=>ht c a' (by rw[<-hpf,ez];rfl)
   obtain⟨g8,i8⟩:=hgs.e hJ ez
   have pz:=hJ.z (step1 (aG s2))
   have oz:=hJ.ok N _ hgs.ws
   rw[ez]at hpf pz oz
   have pz:Syn.phi s3<=Syn.phi (step1 (aG s2)):=pz
   have tz:=congrArg List.length oz.1.1.toks
   have tz2:=congrArg List.length sg.1.toks
   simp only[R.bind]at hpf
   have L6:=L6.eff he8
   have he8:=he7.trans he8
   have hw8:=he8.chg.size
   refine HI λr w9 hr hz9 hrb hx9=>?_
   refine(L6.ext hx9).ldf rfl ?_
   simp only[bN,cG,dU,bI,List.length_cons,List.length_nil,List.set_cons_zero,List.set_cons_succ,Nat.reduceAdd,Nat.reduceLT,true_and,Nat.zero_lt_succ]
   refine Gu (e:=⟨sA (bO s2) (5-m),[],[y,z],[],(bO s2).a⟩) (h8.ext hx9) (he8.x hx9) (ER.noK rfl ((h8.row_new (l:=[y,z]) hr hz9 hrb (by simp)).le hw8)) g8 λM4 w10 h10 he10 _=>?_
   have hlt8:=g8.ws.lt
   have hph:=hg2.phi
   refine⟨⟨_,M4,_,n,rfl,h10,g8.put (by omega),he10,hpf,by show s3.toks.length<n+s3.i;omega,by show s3.toks.length=_;omega⟩,?_⟩
   rw[h10.at_,h2.at_]
   show s.toks.length-s3.i<_
   have:=sg.2
   omega
end
theorem MN(s:PS)(w:aH):aR (aG s) w=aR s w:=by unfold aR;rw[eM,dV]
section
variable [HX]
variable{w0 w w' w1:World}{p f b:Nat}{M M' M0:Lay}{vt:Value}{s:PS}{top:List Nat}{N:Int}{K:Q0}{e:Ex}{va vk:Value}{wbn:Nat}{wb:World}{dl:Nat}
theorem OX{E S:PS->R Nat}(hS:uD w0 f)(hE:∀d,dl=d+1->EC w0 f 82 E d)(hG:∀d,dl=d+1->EC w0 f 151 S d)(hF:mV E)(hFS:mV S):EC w0 f 82 (Ac E S) dl:=by
 intro w p M vt s top N K h hg hK ht;refine ZM ?_;unfold W82;have hN:=hg.hN;have hJ:mV (pP E S 6):=⟨λN=>rF (hF.ok N) (hFS.ok N) 6,rC hF.z hFS.z 6⟩;refine oP rfl λb1 w1 hb1 hz1 hbb1 hx1=>?_;have h1:=h.ext hx1;have L1:=h.loc hz1 hb1 hbb1;refine L1.ld rfl ?_;unfold Ac at hK ht;refine Br hS hE hG hF hFS 6 (Nat.le_refl _) w1 p M vt s top N _ h1 hg (λa s1 ea M1 w2 h2 he2=>?_) λc a' ea=>ht c a' (by rw[ea];rfl);rw[ea]at hK ht;simp only[R.bind]at hK ht;obtain⟨hg1,hi1⟩:=hg.e hJ ea;have L1:=L1.eff he2;have he2:=(Eff.ext hx1).trans he2;refine L1.ld rfl ?_;refine jM h2 hg1.ws hN hg1.l λw3 h3 he3=>?_;have L1:=L1.eff he3;have he3:=he2.trans he3;have lt1:=L1.lt;have hw3:=he3.chg.size;have hgn:=hg1.now;refine aI λb4 w4 hb4 hz4 hbb4 hx4=>?_;have h4:=h3.ext hx4;have L4:=h3.loc hz4 hb4 hbb4;have L1:=L1.ext hx4;refine aY (l:=dB (bO s1)) L4.1 rfl rfl rfl λw5 hz5 hbb5 hc5=>?_;have L4:Loc w0 w5 p f M1 vt b4 qG (dB (bO s1)):=⟨hbb5,L4.2.up (by omega)⟩;have h5:=h4.one hc5 L4.2;have L1:=L1.one hc5 (by omega);have he5:=(he3.x hx4).one hc5 (by omega);refine L1.ld rfl ?_;refine pZ h5 hgn.ws hN hgn.l λw6 h6 he6=>?_;rw[MN]at h6⊢;have L1:=L1.eff he6;have L4:=L4.eff he6;have he6:=he5.trans he6;rw[cJ,aQ];refine⟨λhn=>?_,λhy=>?_⟩
 ·have hn:(aR s1 [63]).1=false:=by simpa using hn
  rw[if_neg (by rw[hn];decide)]at hK;exact hK a _ rfl M1 w6 h6 he6
 have hy:(aR s1 [63]).1=true:=by simpa using hy
 rw[if_pos hy]at hK ht;have hgt:=hg1.take [63];have tp:=(gK s1 [63]).2 hy;generalize hs2:(aR s1 [63]).2=s2 at*
 have lt1:=L1.lt;have lt4:=L4.lt;have hw6:=he6.chg.size;refine Pp λr w7 hr hz7 hrb hx7=>?_;have h7:=h6.ext hx7;have Lr:=h6.loc hz7 hr hrb;have L1:=L1.ext hx7;have L4:=L4.ext hx7;refine aI λb5 w8 hb5 hz8 hbb8 hx8=>?_;have h8:=h7.ext hx8;have L5:=h7.loc hz8 hb5 hbb8;have L1:=L1.ext hx8;have L4:=L4.ext hx8;have Lr:=Lr.ext hx8;refine L5.st rfl (by simp) λw9 L5 hc9 hz9=>?_;have h9:=(h8.one hc9 L5.2).drew;have L1:=(L1.one hc9 (by omega)).drew;have L4:=(L4.one hc9 (by omega)).drew;have Lr:=(Lr.one hc9 (by omega)).drew;have L5:=L5.drew;have he9:=(((he6.x hx7).x hx8).one hc9 (by omega)).x (bM w9);refine L1.ld rfl ?_;rw[aO,aV,Nat.zero_add];refine L4.ld rfl ?_;refine L1.ld rfl ?_;refine h9.ld rfl ?_;have hlev:=hgt.lev;refine kU h9 (by omega) (λhd=>ht 7 _ (by rw[oW hd])) λhd w10 h10 he10=>?_;obtain⟨d,rfl⟩:∃d,dl=d+1:=⟨dl-1,by omega⟩;rw[sY hd]at hK ht;have q1:=hgt.frame s2.quiet;have L1:=L1.eff he10;have L4:=L4.eff he10;have Lr:=Lr.eff he10;have L5:=L5.eff he10;have he10:=he9.trans he10;refine fQ (caps:=[.pointer (some ⟨b1,0,none⟩),.pointer (some ⟨b5,0,none⟩)]) ?_;refine Vy ?_;unfold aC0;have L1:=L1.drew;have L4:=L4.drew;have Lr:=Lr.drew;have L5:=L5.drew;have h10:=h10.drew;have he10:=he10.x (bM w10);refine L5.ld rfl ?_;refine L1.ld rfl ?_;refine hE d rfl w10.drew p M1 vt _ top N _ h10 q1 (λx s3 ex M3 w11 h11 he11=>?_) λc a' ex=>ht c a' (by rw[ex];rfl);obtain⟨g3,_⟩:=q1.e hF ex;have px:=hF.z {s2 with deep:=s2.deep+1,quiet:=s2.quiet};rw[ex]at hK ht px;have px:Syn.phi s3<=Syn.phi s2:=px;simp only[R.bind]at hK ht;have L1:=L1.eff he11;have L4:=L4.eff he11;have Lr:=Lr.eff he11;have L5:=L5.eff he11;have he11:=he10.trans he11;refine⟨L5.ld rfl rfl,?_⟩;rw[lU];refine⟨by omega,by omega,?_⟩;rw[aV,Nat.zero_add];refine Lr.st (off:=1) rfl (by simp) λw12 Lr hc12 hz12=>?_;have h12:=h11.one hc12 Lr.2;have L1:=L1.one hc12 (by omega);have L4:=L4.one hc12 (by omega);have L5:=L5.one hc12 (by omega);have he12:=he11.one hc12 (by omega);refine L1.ld rfl ?_;refine sZ h12 g3.ws hN g3.l (λs4 e4 w13 h13 he13=>?_) λc a' e4=>ht c a' (by rw[e4]);have pw:=gJ s3 [58];rw[e4]at hK ht pw;have pw:Syn.phi s4+1<=Syn.phi s3:=pw;simp only at hK ht;obtain⟨g4,_⟩:=g3.want e4;have L1:=(L1.eff he13).drew;have L4:=(L4.eff he13).drew;have Lr:=(Lr.eff he13).drew;have L5:=(L5.eff he13).drew;have h13:=h13.drew;have he13:=(he12.trans he13).x (bM w13);refine L5.ld rfl ?_;refine L1.ld rfl ?_;refine hE d rfl w13.drew p M3 vt _ top N _ h13 g4 (λy s5 ey M5 w14 h14 he14=>?_) λc a' ey=>ht c a' (by rw[ey]);obtain⟨g5,_⟩:=g4.e hF ey;have py:=hF.z s4;rw[ey]at hK py;have py:Syn.phi s5<=Syn.phi s4:=py;simp only at hK;have L1:=L1.eff he14;have L4:=L4.eff he14;have Lr:=Lr.eff he14;have L5:=L5.eff he14;have he14:=he13.trans he14;refine⟨L5.ld rfl rfl,?_⟩;rw[lU];refine⟨by omega,by omega,?_⟩;rw[aV,Nat.zero_add];refine Lr.st (off:=2) rfl (by simp) λw15 Lr hc15 hz15=>?_;have h15:=h14.one hc15 Lr.2;have L1:=L1.one hc15 (by omega);have L4:=L4.one hc15 (by omega);have L5:=L5.one hc15 (by omega);have he15:=he14.one hc15 (by omega);have g5l:=g5.lev;refine⟨M5,s5,h15,by omega,λw16 h16 he16=>?_⟩;have L1:=L1.eff he16;have L4:=L4.eff he16;have Lr:=Lr.eff he16;have L5:=L5.eff he16;have he16:=he15.trans he16;refine L1.ld rfl ?_;refine L5.ld rfl ?_;refine L4.ldf rfl ?_;simp only[bN,cG,dU,bI,List.length_cons,List.length_nil,List.set_cons_zero,List.set_cons_succ,Nat.reduceAdd,Nat.reduceLT,true_and,Nat.zero_lt_succ];have g16:=hgt.back (q:=s2.quiet) g5;have hR:Ro w0 w16 p f M5 vt w.heap.size eX 1 (.slice (some ⟨r,0,none⟩) 3 3) 3 (ints [a,x,y]):=
  ⟨NG (cs:=ints [a,x,y]) Lr.1 Lr.2.1.1 rfl (by omega),λk hk=>by simp only[Value.ownBlock,Option.some.injEq]at hk;subst hk;exact Lr.2,λk hk=>by simp only[Value.ownBlock,Option.some.injEq]at hk;omega⟩
 refine Gu (e:=⟨28,[],[a,x,y],[],(bO s1).a⟩) h16 he16 (ER.noK rfl hR) g16 λM6 w17 h17 he17 _=>?_;exact hK _ _ rfl M6 w17 h17 he17
theorem rJ:mV dead:=⟨vC,tU⟩
theorem BK(d:Nat):mV (oM d).1/\mV (oM d).2:=⟨⟨λN=>(oL N d).1,(sD d).1⟩,⟨λN=>(oL N d).2,(sD d).2⟩⟩
theorem Ky(hS:uD w0 f):∀dl,EC w0 f 82 (oM dl).1 dl/\EC w0 f 151 (oM dl).2 dl
 |0=>⟨OX hS (λd e=>by omega) (λd e=>by omega) rJ rJ,Iw hS (λd e=>by omega) (λd e=>by omega) rJ rJ⟩
 |d+1=>by
  have ih:=Ky hS d
  have hf:=BK d
  have hE:∀d',d+1=d'+1->EC w0 f 82 (oM d).1 d':=λd' e=>by
   have e:d'=d:=by omega
   subst e;exact ih.1
  have hG:∀d',d+1=d'+1->EC w0 f 151 (oM d).2 d':=λd' e=>by
   have e:d'=d:=by omega
   subst e;exact ih.2
  exact⟨OX hS hE hG hf.1 hf.2,Iw hS hE hG hf.1 hf.2⟩
end
end
end Go.Proofs.YtghhmpppnmoeoaaGreatDoor
namespace Go.Syn
section
open Go Go.Eng Go.Lex
variable{w:World}{K:Q0}{cs:List Value}{G:Nat->Prop}{T:TypeId}{i:Nat}{n:Nat}{v:Value}{w':World}{P:Program}{c:UInt8}{S:Nat->Prop}
abbrev blL(bl:List Mu):List (List Nat):=bl.map (·.blocks)
abbrev Hq(bl:List Mu):List Nat:=bl.flatMap λb=>b.attrs.map (·.e)
def DW(us:List If):Prop:=∀a∈us,a.n≠[]
structure FI(s:PS)(pe pb:List Nat):Prop where
 ex:bH (jO s.ex) (Hq s.bl++pe)
 bl:bH (blL s.bl) pb
 nm:∀b∈s.bl,DW b.attrs
theorem FI.perm{s:PS}{pe pe' pb pb':List Nat}(h:FI s pe pb)(h1:pe.Perm pe')(h2:pb.Perm pb'):FI s pe' pb':=⟨h.ex.perm (h1.append_left _),h.bl.perm h2,h.nm⟩
theorem FI.same{s s':PS}{pe pb:List Nat}(h:FI s pe pb)(h1:s'.ex=s.ex)(h2:s'.bl=s.bl):FI s' pe pb:=⟨by rw[h1,h2];exact h.ex,by rw[h2];exact h.bl,by rw[h2];exact h.nm⟩
theorem FI.expr{s s':PS}{x:Nat}{pe pb:List Nat}(h:FI s pe pb)(h2:s'.bl=s.bl)(hf:∀roots,bH (jO s.ex) roots->bH (jO s'.ex) (x::roots)):FI s' (x::pe) pb:=
 ⟨by rw[h2];exact(hf _ h.ex).perm (List.perm_middle).symm,by rw[h2];exact h.bl,by rw[h2];exact h.nm⟩
def BOk(N:Int)(B:PS->R Nat):Prop:=∀s,WS N s->iC (B s) (λx s'=>Later N s s'/\∀pe pb,FI s pe pb->FI s' pe (x::pb)) (wM N)
section
variable{N:Int}{E B:PS->R Nat}
theorem Bq:∀(n:Nat) (s:PS) (ls:List aH),WS N s->iC (nH n s ls) (λ_ s'=>qH N s s'/\s'.ex=s.ex/\s'.bl=s.bl) (wM N)
 |0,s,_,h=>⟨Int.le_refl _,h.pN⟩
 |n+1,s,ls,h=>by
  have hc:=fT h
  have n1:=nD h
  simp only[nH]
  split
  ·refine(CM (n1.1.ws h) (t:=bO s) ⟨hc.1,hc.2.1⟩).bind λl s1 e1=>?_
   subst e1
   exact(Bq n _ (ls++[l]) (n1.1.ws h)).mono λ_ s2 ⟨g,e,b⟩=>⟨n1.1.trans g,e.trans n1.2.2.1,b.trans n1.2.2.2⟩
  ·exact⟨dN h,(eF s).1,(eF s).2⟩
theorem OA(hE:xW N E)(hB:BOk N B){s:PS}(h:WS N s)(us:List If)(bs:List Nat)(hn:DW us):
  iC (zV E B s us bs) (λx s'=>Later N s s'/\DW x.1/\∀pe pb,FI s (us.map (·.e)++pe) (bs++pb)->FI s' (x.1.map (·.e)++pe) (x.2++pb)) (wM N):=by
 unfold zV;refine(gZ h 1 (by decide)).bind λt s1 ⟨g1,x1,b1,ht,hk⟩=>?_;have hw1:=g1.1.ws h;have t1:=fI hw1 [61];have hw2:=t1.1.ws hw1;have hc:=fT h;split
 ·refine(hE _ hw2).bind λx s2 ⟨g2,b2,f2⟩=>?_;refine⟨⟨g1.1.trans (t1.1.trans g2.1),by have:=g1.2;have:=t1.1.le;have:=g2.2;omega⟩,λa ha=>?_,λpe pb hf=>?_⟩
  ·rcases List.mem_append.1 ha with ha|ha
   ·exact hn a ha
   ·rw[List.mem_singleton]at ha;subst ha;rw[ht];exact hc.2.2.2.2 (by rw[<-ht];exact hk)
  ·have:=(hf.same (s':=(aR s1 [61]).2) (t1.2.2.1.trans x1) (t1.2.2.2.trans b1)).expr b2 f2;refine this.perm ?_ (List.Perm.refl _);simp only[List.map_append,List.map_cons,List.map_nil,List.append_assoc];exact(List.perm_middle).symm
 ·have hle:=g1.2;have hle2:=t1.1.le;have hg:qH N s {(aR s1 [61]).2 with i:=(aR s1 [61]).2.i-1}:=by
   have g:=g1.1.trans t1.1;refine⟨g.toks,g.off,g.deep,g.quiet,?_,?_,g.exs⟩
   ·show s.i<=(aR s1 [61]).2.i-1;omega
   ·show(aR s1 [61]).2.i-1<(aR s1 [61]).2.toks.length;have:=g.lt;omega
  refine(hB _ (hg.ws h)).bind λx s2 ⟨g2,f2⟩=>?_;refine⟨⟨hg.trans g2.1,by have:=hg.le;have:=g2.2;omega⟩,hn,λpe pb hf=>?_⟩;have:=f2 _ _ (hf.same (s':={(aR s1 [61]).2 with i:=(aR s1 [61]).2.i-1}) (t1.2.2.1.trans x1) (t1.2.2.2.trans b1));refine this.perm (List.Perm.refl _) ?_;simp only[List.append_assoc];exact(List.perm_middle).symm
theorem Dd(hE:xW N E)(hB:BOk N B):∀(n:Nat) (s:PS) (us:List If) (bs:List Nat),WS N s->DW us->
  iC (mS E B n s us bs) (λx s'=>Later N s s'/\DW x.1/\∀pe pb,FI s (us.map (·.e)++pe) (bs++pb)->FI s' (x.1.map (·.e)++pe) (x.2++pb)) (wM N)
 |0,s,_,_,h,_=>⟨Int.le_refl _,h.pN⟩
 |n+1,s,us,bs,h,hn=>by
  have t1:=fI h [125]
  have hw1:=t1.1.ws h
  simp only[mS]
  split
  ·rename_i ht
   exact⟨⟨t1.1,t1.2.1 ht⟩,hn,λpe pb hf=>hf.same t1.2.2.1 t1.2.2.2⟩
  refine(OA hE hB hw1 us bs hn).bind λx s1 ⟨g1,n1,f1⟩=>?_
  have hw2:=g1.1.ws hw1
  have m1:=dN hw2
  have hw3:=m1.ws hw2
  split
  ·have:=fT hw3
   exact⟨this.1,this.2.1⟩
  have l1:=iU hw3
  refine(Dd hE hB n _ x.1 x.2 (l1.1.ws hw3) n1).mono λy s2 ⟨g2,n2,f2⟩=>⟨⟨t1.1.trans (g1.1.trans (m1.trans (l1.1.trans g2.1))),by have:=t1.1.le;have:=g1.2;have:=m1.le;have:=l1.1.le;have:=g2.2;omega⟩,n2,λpe pb hf=>f2 pe pb ?_⟩
  exact(f1 pe pb (hf.same t1.2.2.1 t1.2.2.2)).same (l1.2.1.trans (eF _).1) (l1.2.2.trans (eF _).2)
theorem DJ(hE:xW N E)(hB:BOk N B):BOk N (uB E B):=by
 intro s h;unfold uB;refine(gZ h 1 (by decide)).bind λt s1 ⟨g1,x1,b1,ht,hk⟩=>?_;have hw1:=g1.1.ws h;refine(Bq _ s1 [] hw1).bind λls s2 ⟨g2,x2,b2⟩=>?_;have hw2:=g2.ws hw1;have n2:=dN hw2;have hw3:=n2.ws hw2;have hc:=fT hw2;split
 ·exact⟨hc.1,hc.2.1⟩
 rename_i hi;have hi:kS s2 [123]=true:=by simpa using hi
 have e3:(aG s2).ex=s.ex:=(eF _).1.trans (x2.trans x1);have b3:(aG s2).bl=s.bl:=(eF _).2.trans (b2.trans b1);refine iC.bind (gO hw3 (a:=(bO s2).a) (q:=false) ⟨hc.1,hc.2.1⟩ (P:=λ(x:List If×List Nat) s'=>qH N {aG s2 with deep:=(aG s2).deep+1,quiet:=false} s'/\DW x.1/\∀pe pb,FI s pe pb->FI s' (x.1.map (·.e)++pe) (x.2++pb)) λhw=>?_) λx s3 ⟨q,⟨g4,m4,f4⟩,e4⟩=>?_
 ·have hh:=kL hw2 hi ((aG s2).deep+1) false;have h4:=fJ hw hh.2.1;rw[hh.1]at h4;have hw4:=h4.1.ws hw;have l4:=iU hw4;refine(Dd hE hB _ _ [] [] (l4.1.ws hw4) (λa ha=>by cases ha)).mono λx s' ⟨g,m,f⟩=>⟨h4.1.trans (l4.1.trans g.1),m,λpe pb hf=>f pe pb ?_⟩;exact hf.same (l4.2.1.trans e3) (l4.2.2.trans b3)
 ·subst e4;have g4':=g4.back;have g:=g1.1.trans (g2.trans (n2.trans g4'));refine⟨⟨⟨g.toks,g.off,g.deep,g.quiet,g.le,g.lt,g.exs⟩,by have:=g1.2;have:=g2.le;have:=n2.le;have:=g4'.le;show s.i<q.i;simp only at this;omega⟩,λpe pb hf=>?_⟩;have hq:=f4 pe pb hf;refine⟨?_,?_,?_⟩
  ·show bH (jO q.ex) (Hq (q.bl++[⟨t.t,ls,x.1,x.2,t.a⟩])++pe);have e:Hq (q.bl++[⟨t.t,ls,x.1,x.2,t.a⟩])++pe=Hq q.bl++(x.1.map (·.e)++pe):=by simp[Hq]
   rw[e];exact hq.ex
  ·show bH (blL (q.bl++[⟨t.t,ls,x.1,x.2,t.a⟩])) (q.bl.length::pb);have:=hq.bl.put;rw[List.length_map]at this;simpa[blL]using this
  ·intro b hb;have hb:b∈q.bl++[⟨t.t,ls,x.1,x.2,t.a⟩]:=hb;rcases List.mem_append.1 hb with hb|hb
   ·exact hq.nm b hb
   ·rw[List.mem_singleton]at hb;subst hb;exact m4
end
theorem HC(N:Int):BOk N dead:=λ_ h=>⟨Int.le_refl _,h.pN⟩
theorem DK(N:Int):∀d,BOk N (zI d)
 |0=>DJ (vC N) (HC N)
 |d+1=>DJ (oL N d).1 (DK N d)
end
end Go.Syn
namespace Go.Proofs.YtghhmpppnmoeoaaGreatDoor
section
open Go Go.Eng Go.RowKit Go.Syn Go.Lex
variable{w:World}{K:Q0}{cs:List Value}{G:Nat->Prop}{T:TypeId}{i:Nat}{n:Nat}{v:Value}{w':World}{P:Program}{c:UInt8}{S:Nat->Prop}
section
variable{w0 w w1 w2:World}{p f:Nat}{M:Lay}{vt:Value}{s:PS}{top:List Nat}
theorem PR.putB(h:PR w0 w p f M vt s top){wb:World}{M0:Lay}(he:Eff p f M0 M wb w){e:Mu}{d:List Value}{v':Value}(hd:VS w w0.heap.size e d)(hu:∀k∈ub d,Off w0 w p f M vt k)(hn:(ub d).Nodup)(hnew:∀k∈ub d,wb.heap.size<=k)
  (hO:Own w1 w0.heap.size WA 5 v' (s.bl.length+1) (M.cB++d))(hc1:aS (λk=>M.vB.ownBlock=some k) w w1)(hv:∀k,v'.ownBlock=some k->M.vB.ownBlock=some k\/w.heap.size<=k)
  (hc2:aS (HZ f) w1 w2)(hf:w2.heap[f]?=some (.cells [M.vE,v',M.vT].toArray VP (0,0))):PR w0 w2 p f {M with vB:=v',cB:=M.cB++d} vt {s with bl:=s.bl++[e]} top/\Eff p f M0 {M with vB:=v',cB:=M.cB++d} wb w2:=by
 have hb:=h.base;have hzb:=he.chg.size;have pB:=Il M f;have use:∀k,M.vB.ownBlock=some k->k∈M.uses f:=λk hk=>List.mem_cons_of_mem _ (gI (v:=M.vB) (by simp) hk);have hnd0:=pB.nodup_iff.1 h.fr.nd;have hnd:=hnd0;rw[List.nodup_cons,List.nodup_append]at hnd;obtain⟨nf,_,nb,nab⟩:=hnd;have inU:∀k∈ub ([M.vE,M.vT]++(M.cE++M.cB)),k∈M.uses f:=λk hk=>pB.mem_iff.2 (List.mem_cons_of_mem _ (List.mem_append_right _ hk));have rest:∀k∈ub ([M.vE,M.vT]++(M.cE++M.cB)),M.vB.ownBlock≠some k/\k≠f/\k<w.heap.size:=λk hk=>
  ⟨λe=>nab k (dX.2 e) k hk rfl,λe=>nf (e▸List.mem_append_right _ hk),h.fr.lt k (inU k hk)⟩
 have c12:aS (λk=>M.vB.ownBlock=some k\/k=f) w w2:=(hc1.mono λk _ e=>.inl e).trans (hc2.mono λk _ e=>.inr e);have sub:∀v∈[M.vE,M.vT]++(M.cE++M.cB),∀k,v.ownBlock=some k->¬(M.vB.ownBlock=some k\/k=f):=λv hv k hk e=>by
  have:=rest k (gI hv hk);exact e.elim this.1 this.2.1
 have hOf:∀k,v'.ownBlock=some k->k≠f:=λk hk e=>by
  subst e;rcases hv k hk with e|e
  ·exact nf (List.mem_append_left _ (dX.2 e))
  ·have:=dA h.fr.hf;omega
 have nE:M.vB.ownBlock≠some p:=λe=>h.np (use p e);have pf:p≠f:=λe=>h.np (e▸List.mem_cons_self);have perm:=Qb M f v' d;have hN:(f::(ub [v']++(ub d++ub ([M.vE,M.vT]++(M.cE++M.cB))))).Nodup:=EF (n:=w.heap.size) (a:=ub [M.vB]) hnd0 (λk hk=>h.fr.lt k (pB.mem_iff.2 hk)) (iE _) (λk hk=>(hv k (dX.1 hk)).imp (λe=>dX.2 e) id) hn λk hk=>⟨(hu k hk).1.2,λe=>(hu k hk).2.2.1 (pB.mem_iff.2 e)⟩;have hz:=c12.size;have mem:∀k∈({M with vB:=v',cB:=M.cB++d}:Lay).uses f,k=f\/v'.ownBlock=some k\/k∈ub d\/k∈ub ([M.vE,M.vT]++(M.cE++M.cB)):=λk hk=>by
  have hk:=perm.mem_iff.1 hk;rcases List.mem_cons.1 hk with e|e
  ·exact .inl e
  rcases List.mem_append.1 e with e|e
  ·exact .inr (.inl (dX.1 e))
  rcases List.mem_append.1 e with e|e
  ·exact .inr (.inr (.inl e))
  ·exact .inr (.inr (.inr e))
 have cT:aS (Tn p f M) w w2:=c12.mono λk _ e=>e.elim (λe=>.inr (.inr (.inr e))) λe=>.inr (.inl e);refine⟨⟨?_,⟨hf,?_,?_,?_,?_,?_,perm.nodup_iff.2 hN,λk hk=>?_,λk hk=>?_⟩,?_,?_,λe=>?_,h.lo,λk hk=>?_⟩,⟨(he.trans (Eff.of cT)).chg,λk hk=>?_,he.hE,λk hk=>(hv k hk).elim (he.hB k) λe=>.inr (by omega),he.hT⟩⟩
 ·refine h.ch.then c12 λk hk e=>?_;rcases e with e|e
  ·exact(h.fr.lo k (use k e)).resolve_right (by omega)
  ·exact e
 ·exact fG h.fr.oE c12 (sub _ (by simp))
 ·rw[List.length_append];exact fG hO hc2 λk hk e=>hOf k hk e
 ·exact fG h.fr.oT c12 (sub _ (by simp))
 ·refine h.fr.ee.imp λx d hd hx=>hx.at_ c12 λk hk=>?_;obtain⟨v,hv,hk⟩:=List.mem_filterMap.1 hk;exact sub v (by simp[hd v hv]) k hk
 ·refine kR.snoc ?_ (hd.at_ c12 λk hk e=>?_) (by obtain⟨vl,va,vk,rfl,_⟩:=hd;rfl)
  ·refine h.fr.bb.imp λx d hd hx=>hx.at_ c12 λk hk=>?_;obtain⟨v,hv,hk⟩:=List.mem_filterMap.1 hk;exact sub v (by simp[hd v hv]) k hk
  ·have ho:=(hu k hk).2.2.1;rcases e with e|e
   ·exact ho (use k e)
   ·exact ho (e▸List.mem_cons_self)
 ·rcases mem k hk with e|e|e|e
  ·rw[e];exact dA hf
  ·exact Nat.lt_of_lt_of_le (mQ hO e).1 hc2.size
  ·exact Nat.lt_of_lt_of_le (hu k e).1.2 hz
  ·exact Nat.lt_of_lt_of_le (rest k e).2.2 hz
 ·rcases mem k hk with e|e|e|e
  ·exact .inl e
  ·exact .inr (mQ hO e).2
  ·exact .inr (hu k e).1.1
  ·exact h.fr.lo k (inU k e)
 ·exact c12.at h.ps λe=>e.elim nE pf
 ·exact uI h.tk c12 λk hk e=>by
   have:=(h.nt k hk).1;rcases e with e|e
   ·exact this (use k e)
   ·exact this (e▸List.mem_cons_self)
 ·rcases mem p e with e|e|e|e
  ·exact pf e
  ·exact(hv p e).elim nE λe=>by have:=h.lt;omega
  ·exact(hu p e).2.1 rfl
  ·exact h.np (inU p e)
 ·have ht:=h.nt k hk;refine⟨λe=>?_,ht.2.1,Nat.lt_of_lt_of_le ht.2.2 hz⟩;rcases mem k e with e|e|e|e
  ·exact ht.1 (e▸List.mem_cons_self)
  ·exact(hv k e).elim (λe=>ht.1 (use k e)) λe=>by omega
  ·exact(hu k e).2.2.2 hk
  ·exact ht.1 (inU k e)
 ·rcases mem k hk with e|e|e|e
  ·exact he.us k (e▸List.mem_cons_self)
  ·exact(hv k e).elim (λe=>he.us k (use k e)) λe=>.inr (by omega)
  ·exact .inr (hnew k e)
  ·exact he.us k (inU k e)
end
structure DZ(F:PS->R Nat):Prop where
 ok:∀N,BOk N F
 z:EZ F
theorem Gd.bk{x:Nat}{s s':PS}{N:Int}{dl:Nat}{F:PS->R Nat}(h:Gd N s dl)(hF:DZ F)(e:F s=.ok x s'):Gd N s' dl/\s.i<s'.i/\s'.toks=s.toks:=by
 have h1:=hF.ok N s h.ws;have h2:=hF.z s;rw[e]at h1 h2;exact⟨h.go h1.1.1 h2,h1.1.2,h1.1.1.toks⟩
section
variable [HX]
variable{w0 w w' w1:World}{p f b:Nat}{M M' M0:Lay}{vt:Value}{s:PS}{top:List Nat}{N:Int}{K:Q0}{e:Ex}{wbn:Nat}{wb:World}{dl:Nat}
structure BL(w0 w:World)(p f:Nat)(M:Lay)(vt:Value)(B1 b4:Nat)(typ:aH)(a:Int)(vl va vb:Value)(ls:List aH)(av:List If)(bs:List Nat):Prop where
 l4:Loc w0 w p f M vt b4 WA [str typ,vl,va,vb,i64 a]
 rL:Ro w0 w p f M vt B1 Ah 1 vl ls.length (strs ls)
 rA:Ro w0 w p f M vt B1 AtT 3 va av.length (Mp av)
 rB:Ro w0 w p f M vt B1 eX 1 vb bs.length (ints bs)
 d1:∀k,vl.ownBlock=some k->va.ownBlock≠some k
 d2:∀k,vl.ownBlock=some k->vb.ownBlock≠some k
 d3:∀k,va.ownBlock=some k->vb.ownBlock≠some k
 lt:b4<B1/\B1<=w.heap.size
section
variable{B1 b4:Nat}{typ:aH}{a:Int}{vl va vb:Value}{ls:List aH}{av:List If}{bs:List Nat}
theorem BL.eff(h:BL w0 w p f M vt B1 b4 typ a vl va vb ls av bs)(he:Eff p f M M' w w'):BL w0 w' p f M' vt B1 b4 typ a vl va vb ls av bs:=
 ⟨h.l4.eff he,h.rL.eff he,h.rA.eff he,h.rB.eff he,h.d1,h.d2,h.d3,h.lt.1,Nat.le_trans h.lt.2 he.chg.size⟩
theorem BL.ext(h:BL w0 w p f M vt B1 b4 typ a vl va vb ls av bs)(hx:bA w w'):BL w0 w' p f M vt B1 b4 typ a vl va vb ls av bs:=h.eff (Eff.ext hx)
theorem BL.one(h:BL w0 w p f M vt B1 b4 typ a vl va vb ls av bs)(hc:aS (HZ b) w w')(hb:b≠b4)(hL:vl.ownBlock≠some b)(hA:va.ownBlock≠some b)(hB:vb.ownBlock≠some b):BL w0 w' p f M vt B1 b4 typ a vl va vb ls av bs:=
 ⟨h.l4.one hc (Ne.symm hb),h.rL.one hc hL,h.rA.one hc hA,h.rB.one hc hB,h.d1,h.d2,h.d3,h.lt.1,Nat.le_trans h.lt.2 hc.size⟩
theorem BL.fresh(h:BL w0 w p f M vt B1 b4 typ a vl va vb ls av bs){k:Nat}(hk:w.heap.size<=k):k≠b4/\vl.ownBlock≠some k/\va.ownBlock≠some k/\vb.ownBlock≠some k:=
 ⟨λe=>by have:=h.l4.lt;omega,λe=>by have:=(h.rL.off k e).1.2;omega,λe=>by have:=(h.rA.off k e).1.2;omega,λe=>by have:=(h.rB.off k e).1.2;omega⟩
theorem BL.no4(h:BL w0 w p f M vt B1 b4 typ a vl va vb ls av bs):vl.ownBlock≠some b4/\va.ownBlock≠some b4/\vb.ownBlock≠some b4:=
 ⟨λe=>by have:=h.rL.new _ e;have:=h.lt.1;omega,λe=>by have:=h.rA.new _ e;have:=h.lt.1;omega,λe=>by have:=h.rB.new _ e;have:=h.lt.1;omega⟩
theorem BL.appL{x:aH}{r:Nat}{ty:TypeId}{KW:World->Prop}(h:BL w0 w p f M vt B1 b4 typ a vl va vb ls av bs)(hp:PR w0 w p f M vt s top)(hr:w.heap[r]?=some (.cells [str x].toArray Ah (0,0)))(hn:ls.length<=1000000)
  (hK:∀vl' w',BL w0 w' p f M vt B1 b4 typ a vl' va vb (ls++[x]) av bs->PR w0 w' p f M vt s top->aS (λk=>vl.ownBlock=some k\/k=b4) w w'->(∀b T cs,Loc w0 w p f M vt b T cs->b≠b4->vl.ownBlock≠some b->Loc w0 w' p f M vt b T cs)->(∀k,vl'.ownBlock=some k->vl.ownBlock=some k\/w.heap.size<=k)->KW w'):
  bP P0 (Builtin.append_ #[24,24] ty #[vl,.slice (some ⟨r,0,none⟩) 1 1]) w λt62 w36=>aF 1 (.pointer (some ⟨b4,0,none⟩)) λt63=>bF 1 t63 t62 w36 KW:=by
 refine Ro.app Pb h.rL hp hr rfl (λu hu=>by simp only[List.mem_singleton]at hu;subst hu;rfl) hn (by decide) h.lt.2 λv' w2 hR2 hc hv hp2=>?_;have e1:(ls++[x]).length=ls.length+1:=by simp
 rw[<-e1,show strs ls++[str x]=strs (ls++[x])from by simp[strs]]at hR2;rw[aO,aV,Nat.zero_add];obtain⟨vp,vc,ev,_⟩:=hR2.own.sl.shape;obtain⟨n1,n2,n3⟩:=h.no4;have n1':v'.ownBlock≠some b4:=λe=>by have:=hR2.new b4 e;have:=h.lt.1;omega
 refine(h.l4.row hc n1).st (by rw[ev];rfl) (by simp) λw3 L3 hc3 hz3=>?_;have z:=hc.size;refine hK v' w3 ⟨L3,hR2.one hc3 n1',(h.rA.row hc λk hk e=>h.d1 k e hk).one hc3 n2,(h.rB.row hc λk hk e=>h.d2 k e hk).one hc3 n3,λk hk=>?_,λk hk=>?_,h.d3,h.lt.1,by have:=h.lt.2;omega⟩ (hp2.one hc3 L3.2) ((hc.mono λk _ e=>.inl e).trans (hc3.mono λk _ e=>.inr e)) (λb T cs hL hb hvb=>(hL.row hc hvb).one hc3 hb) hv
 ·exact(hv k hk).elim (h.d1 k) λe e'=>by have:=(h.rA.off k e').1.2;omega
 ·exact(hv k hk).elim (h.d2 k) λe e'=>by have:=(h.rB.off k e').1.2;omega
theorem BL.appA{x:If}{r:Nat}{ty:TypeId}{KW:World->Prop}(h:BL w0 w p f M vt B1 b4 typ a vl va vb ls av bs)(hp:PR w0 w p f M vt s top)(hr:w.heap[r]?=some (.cells [str x.n,i64 (x.e:Nat),i64 x.a].toArray AtT (0,0)))(hn:av.length<=1000000)
  (hK:∀va' w',BL w0 w' p f M vt B1 b4 typ a vl va' vb ls (av++[x]) bs->PR w0 w' p f M vt s top->aS (λk=>va.ownBlock=some k\/k=b4) w w'->(∀b T cs,Loc w0 w p f M vt b T cs->b≠b4->va.ownBlock≠some b->Loc w0 w' p f M vt b T cs)->(∀k,va'.ownBlock=some k->va.ownBlock=some k\/w.heap.size<=k)->KW w'):
  bP P0 (Builtin.append_ #[84,84] ty #[va,.slice (some ⟨r,0,none⟩) 1 1]) w λt62 w36=>bW (.pointer (some ⟨b4,0,none⟩)) λt63=>aF 2 t63 λt63=>bF 1 t63 t62 w36 KW:=by
 refine Ro.app aBG h.rA hp hr rfl (λu hu=>by simp only[List.mem_cons,List.not_mem_nil,or_false]at hu;rcases hu with rfl|rfl|rfl<;>rfl) hn (by decide) h.lt.2 λv' w2 hR2 hc hv hp2=>?_;have e1:(av++[x]).length=av.length+1:=by simp
 rw[<-e1,show Mp av++[str x.n,i64 (x.e:Nat),i64 x.a]=Mp (av++[x])from by simp[Mp]]at hR2;rw[bX,aO,aV,Nat.zero_add];obtain⟨vp,vc,ev,_⟩:=hR2.own.sl.shape;obtain⟨n1,n2,n3⟩:=h.no4;have n2':v'.ownBlock≠some b4:=λe=>by have:=hR2.new b4 e;have:=h.lt.1;omega
 refine(h.l4.row hc n2).st (by rw[ev];rfl) (by simp) λw3 L3 hc3 hz3=>?_;have z:=hc.size;refine hK v' w3 ⟨L3,(h.rL.row hc λk hk e=>h.d1 k hk e).one hc3 n1,hR2.one hc3 n2',(h.rB.row hc λk hk e=>h.d3 k e hk).one hc3 n3,λk hk e=>?_,h.d2,λk hk=>?_,h.lt.1,by have:=h.lt.2;omega⟩ (hp2.one hc3 L3.2) ((hc.mono λk _ e=>.inl e).trans (hc3.mono λk _ e=>.inr e)) (λb T cs hL hb hvb=>(hL.row hc hvb).one hc3 hb) hv
 ·exact(hv k e).elim (λe=>h.d1 k hk e) λe=>by have:=(h.rL.off k hk).1.2;omega
 ·exact(hv k hk).elim (h.d3 k) λe e'=>by have:=(h.rB.off k e').1.2;omega
theorem BL.appB{x:Nat}{r:Nat}{ty:TypeId}{KW:World->Prop}(h:BL w0 w p f M vt B1 b4 typ a vl va vb ls av bs)(hp:PR w0 w p f M vt s top)(hr:w.heap[r]?=some (.cells [i64 (x:Nat)].toArray eX (0,0)))(hn:bs.length<=1000000)
  (hK:∀vb' w',BL w0 w' p f M vt B1 b4 typ a vl va vb' ls av (bs++[x])->PR w0 w' p f M vt s top->aS (λk=>vb.ownBlock=some k\/k=b4) w w'->(∀b T cs,Loc w0 w p f M vt b T cs->b≠b4->vb.ownBlock≠some b->Loc w0 w' p f M vt b T cs)->(∀k,vb'.ownBlock=some k->vb.ownBlock=some k\/w.heap.size<=k)->KW w'):
  bP P0 (Builtin.append_ #[30,30] ty #[vb,.slice (some ⟨r,0,none⟩) 1 1]) w λt62 w36=>bW (.pointer (some ⟨b4,0,none⟩)) λt63=>aF 3 t63 λt63=>bF 1 t63 t62 w36 KW:=by
 refine Ro.app yY h.rB hp hr rfl (λu hu=>by simp only[List.mem_singleton]at hu;subst hu;rfl) hn (by decide) h.lt.2 λv' w2 hR2 hc hv hp2=>?_;have e1:(bs++[x]).length=bs.length+1:=by simp
 rw[<-e1,show ints bs++[i64 (x:Nat)]=ints (bs++[x])from by simp[ints]]at hR2;rw[bX,aO,aV,Nat.zero_add];obtain⟨vp,vc,ev,_⟩:=hR2.own.sl.shape;obtain⟨n1,n2,n3⟩:=h.no4;have n3':v'.ownBlock≠some b4:=λe=>by have:=hR2.new b4 e;have:=h.lt.1;omega
 refine(h.l4.row hc n3).st (by rw[ev];rfl) (by simp) λw3 L3 hc3 hz3=>?_;have z:=hc.size;refine hK v' w3 ⟨L3,(h.rL.row hc λk hk e=>h.d2 k hk e).one hc3 n1,(h.rA.row hc λk hk e=>h.d3 k hk e).one hc3 n2,hR2.one hc3 n3',h.d1,λk hk e=>?_,λk hk e=>?_,h.lt.1,by have:=h.lt.2;omega⟩ (hp2.one hc3 L3.2) ((hc.mono λk _ e=>.inl e).trans (hc3.mono λk _ e=>.inr e)) (λb T cs hL hb hvb=>(hL.row hc hvb).one hc3 hb) hv
 ·exact(hv k e).elim (λe=>h.d2 k hk e) λe=>by have:=(h.rL.off k hk).1.2;omega
 ·exact(hv k e).elim (λe=>h.d3 k hk e) λe=>by have:=(h.rA.off k hk).1.2;omega
theorem Gd.etoks{x:Nat}{s':PS}{F:PS->R Nat}(h:Gd N s dl)(hF:mV F)(e:F s=.ok x s'):s'.toks=s.toks:=by
 have h1:=hF.ok N s h.ws;rw[e]at h1;exact h1.1.1.toks
theorem Gd.name_back{t:Tok}{s1:PS}(hg:Gd N s dl)(e:iA s 1=.ok t s1)(hn:(aR s1 [61]).1=false):
  Gd N {(aR s1 [61]).2 with i:=(aR s1 [61]).2.i-1} dl/\s.i<=(aR s1 [61]).2.i-1/\1<=(aR s1 [61]).2.i/\(aR s1 [61]).2.toks=s.toks:=by
 have hk:=hg.kind (by decide) e;have hks:=gZ hg.ws 1 (by decide);rw[e]at hks;have e1:s1=step1 (aG s):=by
  unfold iA at e;split at e
  ·rename_i hk;injection e with _ e
   rw[<-e];unfold eZ;rw[if_pos (by rw[hk];decide)]
  ·cases e
 have t1:=fI hk.1.ws [61];have e2:(aR s1 [61]).2=aG s1:=by
  unfold aR at hn⊢;split
  ·rename_i hi;rw[if_pos hi]at hn;cases hn
  ·rfl
 have hi1:=hk.2.1;have hi2:=t1.1.le;have hgo:qH N s {(aR s1 [61]).2 with i:=(aR s1 [61]).2.i-1}:=by
  have g:=hks.1.1.trans t1.1;refine⟨g.toks,g.off,g.deep,g.quiet,?_,?_,g.exs⟩
  ·show s.i<=(aR s1 [61]).2.i-1;omega
  ·show(aR s1 [61]).2.i-1<(aR s1 [61]).2.toks.length;have:=g.lt;omega
 refine⟨hg.go hgo ?_,by omega,by omega,(t1.1.toks).trans hks.1.1.toks⟩;have hi:s.i<=(aG s1).i-1:=by rw[<-e2];omega
 have x1:(aG s1).ex=s.ex:=(eF s1).1.trans (by rw[e1];exact(eF s).1);have x2:(aG s1).bl=s.bl:=(eF s1).2.trans (by rw[e1];exact(eF s).2);have x3:(aG s1).toks=s.toks:=by
  have h1:∀s:PS,(aG s).toks=s.toks:=λs=>by unfold aG;split<;>rfl
  rw[h1,e1];exact h1 s
 rw[e2];unfold Syn.phi;simp only;rw[x1,x2,x3];have:=Ig s.toks hi;omega
theorem YX{E B:PS->R Nat}(hE:EC w0 f 82 E dl)(hB:EC w0 f 30 B dl)(hF:mV E)(hFB:DZ B)(h:PR w0 w p f M vt s top)(hg:Gd N s dl)(hL:BL w0 w p f M vt B1 b4 typ a vl va vb ls av bs)(hal:av.length<=1000000)(hbl:bs.length<=1000000)
  {M0:Lay}{wb:World}(he0:Eff p f M0 M wb w)(hw4:wb.heap.size<=b4)(hwB:wb.heap.size<=B1)
  (hK:∀x s',zV E B s av bs=.ok x s'->∀M' va' vb' w',PR w0 w' p f M' vt s' top->Gd N s' dl->s.i<s'.i->s'.toks=s.toks->x.1.length<=av.length+1->x.2.length<=bs.length+1->Eff p f M0 M' wb w'->BL w0 w' p f M' vt B1 b4 typ a vl va' vb' ls x.1 x.2->
    (∀b T cs,Loc w0 w p f M vt b T cs->b≠b4->va.ownBlock≠some b->vb.ownBlock≠some b->Loc w0 w' p f M' vt b T cs)->(∀k,va'.ownBlock=some k->va.ownBlock=some k\/w.heap.size<=k)->(∀k,vb'.ownBlock=some k->vb.ownBlock=some k\/w.heap.size<=k)->K (.tuple #[]) w')
  (ht:∀c a',zV E B s av bs=.err c a'->Ie w0 f c a'):
  aA P0 53 [.pointer (some ⟨p,0,none⟩),.pointer (some ⟨b4,0,none⟩)] w K:=by
 refine aAh ?_;unfold W53;have hN:=hg.hN;unfold zV at hK ht;refine tM h hg.ws hN hg.l (λt s1 et w1 h1 he1=>?_) λc a' et=>ht c a' (by rw[et];rfl);rw[et]at hK ht;simp only[R.bind]at hK ht;have hk:=hg.kind (by decide) et;have hks:=gZ hg.ws 1 (by decide);rw[et]at hks;have hL1:=hL.eff he1;refine aI λb5 w2 hb5 hz2 hbb2 hx2=>?_;have h2:=h1.ext hx2;have L5:=h1.loc hz2 hb5 hbb2;have fr5:=hL1.fresh (k:=b5) (by omega);refine aY (l:=dB t) L5.1 rfl rfl rfl λw3 hz3 hbb3 hc3=>?_;have L5:Loc w0 w3 p f M vt b5 qG (dB t):=⟨hbb3,L5.2.up (by omega)⟩;have h3:=h2.one hc3 L5.2;have hL3:=(hL1.ext hx2).one hc3 fr5.1 fr5.2.1 fr5.2.2.1 fr5.2.2.2;have hz1:=he1.chg.size;have he3:Eff p f M M w w3:=(he1.x hx2).one hc3 (by omega);refine pZ h3 hk.1.ws hN hk.1.l λw4 h4 he4=>?_;have L5:=L5.eff he4;have hL4:=hL3.eff he4;have he4:=he3.trans he4;have hgt:=hk.1.take [61];have tg:=fI hk.1.ws [61];have zz:=he0.chg.size;rw[aQ];refine⟨λhy=>?_,λhn=>?_⟩
 ·
  rw[if_pos hy]at hK ht;have L5:=L5.drew;have hL4:=hL4.ext (bM w4);have h4:=h4.drew;have he4:=he4.x (bM w4);rw[bX,aO,aV,Nat.zero_add];refine hL4.l4.ld rfl ?_;rw[aO,aV,Nat.zero_add];refine L5.ld rfl ?_;rw[aO,aV,Nat.zero_add];refine L5.ld rfl ?_;refine hE w4.drew p M vt _ top N _ h4 hgt (λx s2 ex M2 w5 h5 he5=>?_) λc a' ex=>ht c a' (by rw[ex]);rw[ex]at hK;simp only at hK;obtain⟨g2,i2⟩:=hgt.e hF ex;have t2:=hgt.etoks hF ex;have L5:=L5.eff he5;have hL5:=hL4.eff he5;have he5:=he4.trans he5;refine⟨L5.ld rfl rfl,L5.ld rfl rfl,hL5.l4.ld rfl rfl,?_⟩;simp only[bN,cG,bI,List.length_cons,List.length_nil,List.set_cons_zero,List.set_cons_succ,Nat.reduceAdd,Nat.reduceLT,true_and,Nat.zero_lt_succ];refine xQ (d:=[str t.t,i64 ((x:Nat):Int),i64 t.a]) rfl rfl λr w6 hr hz6 hrb hx6=>?_;have hL6:=hL5.ext hx6;have he6:=he5.x hx6;have hw6:=he6.chg.size;refine⟨hL6.l4.ld rfl rfl,?_⟩;refine hL6.appA (x:=⟨t.t,x,t.a⟩) (h5.ext hx6) hrb hal λva' w7 hL7 h7 hc7 hl7 hv7=>?_;refine hK _ _ rfl M2 va' vb w7 h7 g2 (by have:=tg.1.le;have:=hk.2.1;omega) (t2.trans (tg.1.toks.trans hks.1.1.toks)) (by simp) (by simp) (((he0.trans he6).then hc7 λk hk' e=>?_)) hL7 (λb T cs hl hb hva hvb=>hl7 b T cs (hl.eff he6) hb hva) (λk hk=>(hv7 k hk).imp id λe=>by omega) λk hk=>.inl hk;rcases e with e|e
  ·have:=hL.rA.new k e;omega
  ·omega
 ·
  have hn:(aR s1 [61]).1=false:=by simpa using hn
  rw[if_neg (by rw[hn];decide)]at hK ht;obtain⟨gb,ib,i1,tb⟩:=hg.name_back et hn;refine h4.ld rfl ?_;have hti:=hgt.ws.lt;have htl:=hgt.few;rw[iM,bD (by omega) (by omega),show(((aR s1 [61]).2.i:Nat):Int)-1=(((aR s1 [61]).2.i-1:Nat):Int)by omega];refine h4.st_i λw5 h5 he5 hz5=>?_;have hL5:=(hL4.eff he5).ext (bM w5);have h5:=h5.drew;have he5:=(he4.trans he5).x (bM w5);rw[bX,aO,aV,Nat.zero_add];refine hL5.l4.ld rfl ?_;refine hB w5.drew p M vt _ top N _ h5 gb (λx s2 ex M2 w6 h6 he6=>?_) λc a' ex=>ht c a' (by rw[ex]);rw[ex]at hK;simp only at hK;obtain⟨g2,i2,t2⟩:=gb.bk hFB ex;have hL6:=hL5.eff he6;have he6:=he5.trans he6;refine⟨hL6.l4.ld rfl rfl,?_⟩;refine fR λr w7 hr hz7 hrb hx7=>?_;have hL7:=hL6.ext hx7;have he7:=he6.x hx7;have hw7:=he7.chg.size;refine⟨hL7.l4.ld rfl rfl,?_⟩;refine hL7.appB (h6.ext hx7) hrb hbl λvb' w8 hL8 h8 hc8 hl8 hv8=>?_;refine hK _ _ rfl M2 va vb' w8 h8 g2 (by have i2:(aR s1 [61]).2.i-1<s2.i:=i2;omega) (t2.trans tb) (by simp) (by simp) ((he0.trans he7).then hc8 λk hk' e=>?_) hL8 (λb T cs hl hb hva hvb=>hl8 b T cs (hl.eff he7) hb hvb) (λk hk=>.inl hk) λk hk=>(hv8 k hk).imp id λe=>by omega
  rcases e with e|e
  ·have:=hL.rB.new k e;omega
  ·omega
end
end
section
variable [HX]
variable{w0 w w' w1:World}{p f:Nat}{M M' M0:Lay}{vt:Value}{s:PS}{top:List Nat}{N:Int}{K:Q0}{e:Ex}{wbn:Nat}{wb:World}{dl:Nat}{B1 b4:Nat}{typ:aH}{a:Int}{vl va vb:Value}{ls:List aH}{av:List If}{bs:List Nat}
theorem LF(s:PS):eZ (aG s)=eZ s:=by unfold eZ;rw[gH,dV]
theorem Gd.plain{N:Int}{s s':PS}{t:Tok}{l:aH}(e:lP s t=.ok l s'):s'=s:=by
 unfold lP at e;split at e
 ·cases e
 ·injection e with _ e;exact e.symm
theorem SX{E B:PS->R Nat}{b1:Nat}(hE:EC w0 f 82 E dl)(hB:EC w0 f 30 B dl)(hF:mV E)(hFB:DZ B)(h:PR w0 w p f M vt s top)(hg:Gd N s dl)(hc0:(bO s).k≠0)(hnow:aG s=s)
  (hL:BL w0 w p f M vt B1 b4 typ a vl (.slice none 0 0) (.slice none 0 0) ls [] [])(L1:Loc w0 w p f M vt b1 DV [.pointer (some ⟨p,0,none⟩)])(hb1:b1<B1/\b1≠b4)
  {M0:Lay}{wb:World}(he0:Eff p f M0 M wb w)(hw4:wb.heap.size<=b4)(hwB:wb.heap.size<=B1)
  (hK:∀x s',mS E B (s.toks.length+1) (dQ (step1 s)) [] []=.ok x s'->∀M' va' vb' w',PR w0 w' p f M' vt s' top->Gd N s' dl->Eff p f M0 M' wb w'->BL w0 w' p f M' vt B1 b4 typ a vl va' vb' ls x.1 x.2->Loc w0 w' p f M' vt b1 DV [.pointer (some ⟨p,0,none⟩)]->K (.tuple #[]) w')
  (ht:∀c a',mS E B (s.toks.length+1) (dQ (step1 s)) [] []=.err c a'->Ie w0 f c a'):
  aA P0 51 [.pointer (some ⟨b1,0,none⟩),.pointer (some ⟨b4,0,none⟩)] w K:=by
 refine aAj ?_;unfold W51;have hN:=hg.hN;have hg1:Gd N (step1 s) dl:=by have:=hg.step hc0;rw[hnow]at this;exact this
 have zz:=he0.chg.size;refine L1.ld rfl ?_;refine h.go (JI hg.ws hg.l) λw1 h1 he1 hz1=>?_;have L1:=L1.eff he1;have hL:=hL.eff he1;have he1:=he0.trans he1;refine L1.ld rfl ?_;refine uR h1 hg1.ws hN hg1.l λw2 h2 he2=>?_;have L1:=L1.eff he2;have hL:=hL.eff he2;have he2:=he1.trans he2;have hg2:=hg1.lines;have et2:=congrArg List.length (iU hg1.ws).1.toks;generalize hR:mS E B (s.toks.length+1) (dQ (step1 s)) [] []=R0 at hK ht;refine bL.go (λst w'=>st=[]/\∃s1 M1 av bs va vb n,PR w0 w' p f M1 vt s1 top/\Gd N s1 dl/\Eff p f M0 M1 wb w'/\Loc w0 w' p f M1 vt b1 DV [.pointer (some ⟨p,0,none⟩)]/\BL w0 w' p f M1 vt B1 b4 typ a vl va vb ls av bs/\mS E B n s1 av bs=R0/\s1.toks.length<n+s1.i/\av.length<=s1.i/\bs.length<=s1.i/\s1.toks.length=s.toks.length) (λ_ w'=>s.toks.length-vY w' p)
  ⟨rfl,_,M,[],[],_,_,s.toks.length+1,h2,hg2,he2,L1,hL,hR,by rw[et2];show s.toks.length<_;omega,by simp,by simp,by rw[et2];rfl⟩ ?_
 clear hL L1 h1 h2 he1 he2;rintro st g w3 ⟨rfl,s1,M1,av,bs,va,vb,n,h3,hg3,he3,L1,hL,hit,hn,hal,hbl,htl⟩;have hlt3:=hg3.ws.lt;obtain⟨n,rfl⟩:∃m,n=m+1:=⟨n-1,by omega⟩;simp only[mS]at hit;refine L1.ld rfl ?_;refine pZ h3 hg3.ws hN hg3.l λw4 h4 he4=>?_;have L1:=L1.eff he4;have hL:=hL.eff he4;have he4:=he3.trans he4;have hg4:=hg3.take [125];have tg:=fI hg3.ws [125];have tgt:=congrArg List.length tg.1.toks;rw[cJ,aQ];refine⟨λhn'=>?_,λhy=>?_⟩
 ·have hn':(aR s1 [125]).1=false:=by simpa using hn'
  rw[if_neg (by rw[hn'];decide)]at hit;have few:=hg3.few;refine L1.ld rfl ?_;refine YX hE hB hF hFB h4 hg4 hL (by omega) (by omega) he4 hw4 hwB (λx s2 ex M2 va2 vb2 w5 h5 hg5 hi5 ht5 hxa hxb he5 hL5 hl5 hv5 hu5=>?_) λc a' ex=>ht c a' (by rw[<-hit,ex];rfl);rw[ex]at hit;simp only[R.bind]at hit;have ht5:=congrArg List.length ht5;have L1:=hl5 _ _ _ L1 hb1.2 (λe=>by have:=hL.rA.new _ e;have:=hb1.1;omega) (λe=>by have:=hL.rB.new _ e;have:=hb1.1;omega);have hgn:=hg5.now;have hng:=dN hg5.ws;have hngt:=congrArg List.length hng.toks;have hngi:=hng.le;refine aP.cut (λ_ w'=>PR w0 w' p f M2 vt (aG s2) top/\Eff p f M2 M2 w5 w'/\mS E B n (dQ (aG s2)) x.1 x.2=R0) ?_ ?_
  ·refine L1.ld rfl ?_;refine jM h5 hg5.ws hN hg5.l λw6 h6 he6=>?_;refine⟨i64 (bO s2).k,rfl,?_⟩;dsimp only;rw[dG];have L1:=L1.eff he6;by_cases hk5:(bO s2).k≠5
   ·rw[decide_eq_true hk5];simp only[eH];refine cX.act (!kS (aG s2) [125]) (λw'=>PR w0 w' p f M2 vt (aG s2) top/\Eff p f M2 M2 w5 w') (λe=>by cases e) (λ_ J hJ=>?_) λg5 w7 hR7=>?_
    ·refine L1.ld rfl ?_;refine xH h6 hgn λw7 h7 he7=>?_;rw[cJ];rw[dV]at h7;exact hJ w7 ⟨h7,he6.trans he7⟩
    obtain⟨h7,he7⟩:=hR7;simp only[List.getD_cons_zero,cond_true,iS];rw[aQ];refine⟨λhq=>?_,λhq=>?_⟩
    ·have hq:kS (aG s2) [125]=false:=by simpa using hq
     have L1:Loc w0 w7 p f M2 vt b1 DV [.pointer (some ⟨p,0,none⟩)]:=(hl5 _ _ _ ‹Loc w0 w4 p f M1 vt b1 DV [.pointer (some ⟨p,0,none⟩)]› hb1.2 (λe=>by have:=hL.rA.new _ e;have:=hb1.1;omega) (λe=>by have:=hL.rB.new _ e;have:=hb1.1;omega)).eff he7;refine L1.ld rfl ?_;refine jM h7 hgn.ws hN hgn.l λw8 h8 he8=>?_;refine⟨i64 (bO (aG s2)).a,rfl,?_⟩;refine lY h8 (ht 50 _ ?_);rw[<-hit,if_pos ⟨hk5,hq⟩]
    ·have hq:kS (aG s2) [125]=true:=by simpa using hq
     rw[if_neg (λh=>by rw[h.2]at hq;cases hq)]at hit;exact⟨h7,he7,hit⟩
   ·rw[decide_eq_false hk5];simp only[eH,vU];intro g5;rw[oD,bJ];rw[if_neg (λh=>hk5 h.1)]at hit;exact⟨h6,he6,hit⟩
  rintro _ g4 w6 ⟨h6,he6,hit⟩;have L1:=L1.eff he6;refine L1.ld rfl ?_;refine uR h6 hgn.ws hN hgn.l λw7 h7 he7=>?_;have lg:=iU hgn.ws;have lgt:=congrArg List.length lg.1.toks;have lgi:=lg.1.le;have tgi:=tg.1.le;have hgl:=hgn.lines;have hltl:=hgl.ws.lt;refine⟨⟨rfl,dQ (aG s2),M2,x.1,x.2,va2,vb2,n,h7,hgl,(he5.trans he6).trans he7,L1.eff he7,(hL5.eff he6).eff he7,hit,by omega,by omega,by omega,by omega⟩,?_⟩;rw[h7.at_,h3.at_];omega
 ·have hy:(aR s1 [125]).1=true:=by simpa using hy
  rw[if_pos hy]at hit;exact hK _ _ hit.symm M1 va vb w4 h4 hg4 he4 hL L1
theorem KM{E B:PS->R Nat}(hE:∀d,dl=d+1->EC w0 f 82 E d)(hB:∀d,dl=d+1->EC w0 f 30 B d)(hF:mV E)(hFB:DZ B):EC w0 f 30 (uB E B) dl:=by
 intro w p M vt s top N K h hg hK ht;refine aAw ?_;unfold W30;have hN:=hg.hN;refine oP rfl λb1 w1 hb1 hz1 hbb1 hx1=>?_;have h1:=h.ext hx1;have L1:=h.loc hz1 hb1 hbb1;unfold uB at hK ht;refine L1.ld rfl ?_;refine tM h1 hg.ws hN hg.l (λt s1 et w2 h2 he2=>?_) λc a' et=>ht c a' (by rw[et];rfl);rw[et]at hK ht;simp only[R.bind]at hK ht;obtain⟨hg1,hi1,_⟩:=hg.kind (by decide) et;have hks:=gZ hg.ws 1 (by decide);have hkp:=jX s 1;rw[et]at hks hkp;have hkp:=hkp.2 (by decide);have hkt:=congrArg List.length hks.1.1.toks;have L1:=L1.eff he2;have he2:=(Eff.ext hx1).trans he2;have lt1:=L1.lt;have hw2:=he2.chg.size;refine aI λb3 w3 hb3 hz3 hbb3 hx3=>?_;have h3:=h2.ext hx3;have L3:=h2.loc hz3 hb3 hbb3;have L1:=L1.ext hx3;refine aY (l:=dB t) L3.1 rfl rfl rfl λw4 hz4 hbb4 hc4=>?_;have L3:Loc w0 w4 p f M vt b3 qG (dB t):=⟨hbb4,L3.2.up (by omega)⟩;have h4:=h3.one hc4 L3.2;have L1:=L1.one hc4 (by omega);have he4:=(he2.x hx3).one hc4 (by omega);refine L3.ldf rfl ?_;refine L3.ldf rfl ?_;simp only[bN,cG,bI,List.length_cons,List.length_nil,List.set_cons_zero,List.set_cons_succ,Nat.reduceAdd,Nat.reduceLT,true_and,Nat.zero_lt_succ];refine aI λb4 w5 hb4 hz5 hbb5 hx5=>?_;have h5:=h4.ext hx5;have L4:=h4.loc hz5 hb4 hbb5;have L1:=L1.ext hx5;refine aY (l:=[str t.t,.slice none 0 0,.slice none 0 0,.slice none 0 0,i64 t.a]) L4.1 rfl rfl rfl λw6 hz6 hbb6 hc6=>?_;have L4:Loc w0 w6 p f M vt b4 WA [str t.t,.slice none 0 0,.slice none 0 0,.slice none 0 0,i64 t.a]:=⟨hbb6,L4.2.up (by omega)⟩;have h6:=h5.one hc6 L4.2;have L1:=L1.one hc6 (by omega);have he6:=(he4.x hx5).one hc6 (by omega);have hw6:=he6.chg.size;obtain⟨B1,hB1⟩:∃B1,B1=w6.heap.size:=⟨_,rfl⟩;have hL:BL w0 w6 p f M vt B1 b4 t.t t.a (.slice none 0 0) (.slice none 0 0) (.slice none 0 0) [] [] []:=
  ⟨L4,Ro.nil _ _,Ro.nil _ _,Ro.nil _ _,λk hk=>by simp[Value.ownBlock]at hk,λk hk=>by simp[Value.ownBlock]at hk,λk hk=>by simp[Value.ownBlock]at hk,by omega,by omega⟩
 have hb14:b1<B1/\b1≠b4:=⟨by omega,by omega⟩;have hwB:w.heap.size<=B1:=by omega
 have hw4:w.heap.size<=b4:=by omega
 clear L3 L4 h2 h3 h4 h5 he2 he4;generalize hR:nH (s.toks.length+1) s1 []=R0 at hK ht;refine bL.go (λst w'=>st=[]/\∃s2 M1 ls vl n,PR w0 w' p f M1 vt s2 top/\Gd N s2 dl/\Eff p f M M1 w w'/\Loc w0 w' p f M1 vt b1 DV [.pointer (some ⟨p,0,none⟩)]/\BL w0 w' p f M1 vt B1 b4 t.t t.a vl (.slice none 0 0) (.slice none 0 0) ls [] []/\nH n s2 ls=R0/\s2.toks.length<n+s2.i/\ls.length<=s2.i/\s2.toks.length=s.toks.length/\Syn.phi s2+1<=Syn.phi s) (λ_ w'=>s.toks.length-vY w' p)
  ⟨rfl,s1,M,[],_,s.toks.length+1,h6,hg1,he6,L1,hL,hR,by have:=hg1.ws.lt;omega,by simp,hkt,hkp⟩ ?_
 clear hL L1 h6 he6;rintro st g w7 ⟨rfl,s2,M1,ls,vl,n,h7,hg7,he7,L1,hL,hla,hn,hll,htl,hph⟩;have hlt7:=hg7.ws.lt;obtain⟨n,rfl⟩:∃m,n=m+1:=⟨n-1,by omega⟩;simp only[nH]at hla;refine L1.ld rfl ?_;refine jM h7 hg7.ws hN hg7.l λw8 h8 he8=>?_;have L1:=L1.eff he8;have hL:=hL.eff he8;have he8:=he7.trans he8;have hgn:=hg7.now;refine⟨i64 (bO s2).k,rfl,?_⟩;dsimp only;rw[aM,aB];refine⟨λhk3=>?_,λhk3=>?_⟩
 ·rw[if_pos hk3]at hla;have htx:=hg7.tx hk3;have L1:=L1.drew;have hL:=hL.ext (bM w8);have h8:=h8.drew;have he8:=he8.x (bM w8);rw[aO,aV,Nat.zero_add];refine hL.l4.ld rfl ?_;refine L1.ld rfl ?_;refine L1.ld rfl ?_;refine IO h8 hgn.ws hN hgn.l λw9 h9 he9=>?_;rw[LF]at h9;rw[gH];have L1:=L1.eff he9;have hL:=hL.eff he9;have he9:=he8.trans he9;refine⟨L1.ld rfl rfl,hL.l4.ld rfl rfl,?_⟩;have hgx:=hg7.next;refine JX h9 htx.1 (by omega) (λl s3 el w10 hx10=>?_) λc a' el=>ht c a' (by rw[<-hla,el];rfl);have e3:=Gd.plain (N:=N) el;subst e3;rw[el]at hla;simp only[R.bind]at hla;have L1:=L1.ext hx10;have hL:=hL.ext hx10;have h10:=h9.ext hx10;have he10:=he9.x hx10;refine⟨hL.l4.ld rfl rfl,?_⟩;refine sI λr w11 hr hz11 hrb hx11=>?_;have L1:=L1.ext hx11;have hL:=hL.ext hx11;have he11:=he10.x hx11;have hw11:=he11.chg.size;refine⟨hL.l4.ld rfl rfl,?_⟩;have few:=hg7.few;refine hL.appL (h10.ext hx11) hrb (by omega) λvl' w12 hL12 h12 hc12 hl12 hv12=>?_;have L1:=hl12 _ _ _ L1 hb14.2 λe=>by have:=hL.rL.new _ e;have:=hb14.1;omega
  have ng:=nD hg7.ws;have ngt:=congrArg List.length ng.1.toks;have ngi:=ng.2.1 (by rw[hk3];decide);have ngl:=hgx.ws.lt;have nph:=(qY s2).1;refine⟨⟨rfl,eZ s2,M1,ls++[l],vl',n,h12,hgx,he11.then hc12 λk hk e=>?_,L1,hL12,hla,by omega,by rw[List.length_append,List.length_cons,List.length_nil];omega,by omega,by omega⟩,?_⟩
  ·rcases e with e|e
   ·have:=hL.rL.new k e;omega
   ·omega
  ·rw[h12.at_,h7.at_];omega
 ·rw[if_neg hk3]at hla;rw[<-hla]at hK ht;simp only at hK ht;simp only[eM,gH,dV]at hK ht;refine L1.ld rfl ?_;refine jM h8 hgn.ws hN hgn.l λw9 h9 he9=>?_;rw[dV]at h9;rw[gH];have L1:=L1.eff he9;have hL:=hL.eff he9;have he9:=he8.trans he9;refine aI λb5 w10 hb5 hz10 hbb10 hx10=>?_;have h10:=h9.ext hx10;have L5:=h9.loc hz10 hb5 hbb10;have fr:=hL.fresh (k:=b5) (by omega);have lt1:=L1.lt;have hw9:=he9.chg.size;refine aY (l:=dB (bO s2)) L5.1 rfl rfl rfl λw11 hz11 hbb11 hc11=>?_;have L5:Loc w0 w11 p f M1 vt b5 qG (dB (bO s2)):=⟨hbb11,L5.2.up (by omega)⟩;have h11:=h10.one hc11 L5.2;have L1:=(L1.ext hx10).one hc11 (by omega);have hL:=(hL.ext hx10).one hc11 fr.1 fr.2.1 fr.2.2.1 fr.2.2.2;have he11:=(he9.x hx10).one hc11 (by omega);refine aP.cut (λ_ w'=>PR w0 w' p f M1 vt (aG s2) top/\Eff p f M1 M1 w11 w'/\kS s2 [123]=true) ?_ ?_
  ·refine L1.ld rfl ?_;refine xH h11 hgn λw12 h12 he12=>?_;rw[dV]at h12;rw[eM,cJ,aQ];refine⟨λhi=>?_,λhi=>⟨h12,he12,by simpa using hi⟩⟩;have hi:kS s2 [123]=false:=by simpa using hi
   refine(L5.eff he12).ldf rfl ?_;exact lY h12 (ht _ _ (by rw[if_pos hi]))
  rintro _ g2 w12 ⟨h12,he12,hi⟩;rw[if_neg (by rw[hi];decide)]at hK ht;have L1:=L1.eff he12;have L5:=L5.eff he12;have hL:=hL.eff he12;have he12:=he11.trans he12;refine L1.ld rfl ?_;refine L5.ldf rfl ?_;have hlev:=hgn.lev;refine kU h12 (by omega) (λhd=>ht 7 _ (by rw[oW hd])) λhd w13 h13 he13=>?_;obtain⟨d,rfl⟩:∃d,dl=d+1:=⟨dl-1,by omega⟩;rw[sY hd]at hK ht;obtain⟨q1,q2,q3,q4⟩:=hg7.sign hi false;have ntl:=congrArg List.length (dN hg7.ws).toks;refine fQ (caps:=[.pointer (some ⟨b1,0,none⟩),.pointer (some ⟨b4,0,none⟩)]) ?_;have ph2:Syn.phi (aG s2)<=Syn.phi s2:=fS s2;have efuel:({aG s2 with deep:=(aG s2).deep+1,quiet:=false}:PS).toks.length+1=s.toks.length+1:=by show(aG s2).toks.length+1=_;omega
  have efuel2:(aG s2).toks.length+1=s.toks.length+1:=by omega
  refine SX (hE d rfl) (hB d rfl) hF hFB h13 q1 q3 q2 (hL.eff he13) (L1.eff he13) hb14 (he12.trans he13) hw4 hwB (λx s3 ex M3 va vb w14 h14 hg14 he14 hL14 L1=>?_) λc a' ex=>ht c a' ?_
  ·rw[efuel]at ex;rw[ex]at hK;simp only[R.bind]at hK;have g14l:=hg14.lev;refine⟨M3,s3,h14,by omega,λw15 h15 he15=>?_⟩;have L1:=(L1.eff he15).drew;have hL:=(hL14.eff he15).ext (bM w15);have h15:=h15.drew;have he15:=(he14.trans he15).x (bM w15);have hg15:Gd N {s3 with deep:=(aG s2).deep,quiet:=(aG s2).quiet} (d+1):=hgn.back hg14;generalize hs4:({s3 with deep:=(aG s2).deep,quiet:=(aG s2).quiet}:PS)=s4 at*
   have s4b:s4.bl=s3.bl:=by rw[<-hs4]
   have hbl:=hg15.ex.2;have hw15:=he15.chg.size;have cF:∀{w':World},w'.heap[p]?=some (.cells [vt,i64 (s4.i:Nat),i64 s4.off,.pointer (some ⟨f,0,none⟩),i64 (s4.deep:Nat),.bool s4.quiet].toArray PsT (0,0))->w'.cell? ((⟨p,0,none⟩:Addr).add 3)=some (.pointer (some ⟨f,0,none⟩)):=by
    intro w' h;rw[aV,aX,h,aZ];rfl
   have cB:∀{w':World} {u v:Value} {r:List Value},w'.heap[f]?=some (.cells (u::v::r).toArray VP (0,0))->w'.cell? ((⟨f,0,none⟩:Addr).add 1)=some v:=by
    intro w' u v r h;rw[aV,aX,h,aZ];rfl
   have ld1:∀{w':World} {M':Lay},Loc w0 w' p f M' vt b1 DV [.pointer (some ⟨p,0,none⟩)]->aE false 1 (.pointer (some ⟨b1,0,none⟩)) w' λx=>x=.pointer (some ⟨p,0,none⟩):=λL=>L.ld rfl rfl;have use:∀k,M3.vB.ownBlock=some k->k∈M3.uses f:=λk hk=>List.mem_cons_of_mem _ (gI (v:=M3.vB) (by simp) hk);have nE:¬M3.vB.ownBlock=some p:=λe=>h15.np (use p e);have nF:¬M3.vB.ownBlock=some f:=λe=>by
    have hnd:=(Il M3 f).nodup_iff.1 h15.fr.nd;rw[List.nodup_cons]at hnd;exact hnd.1 (List.mem_append_left _ (dX.2 e))
   have n1:¬M3.vB.ownBlock=some b1:=λe=>L1.2.2.2.1 (use b1 e);refine L1.ld rfl ?_;rw[bX,aO,bY];refine⟨_,cF h15.ps,?_⟩;refine L1.ld rfl ?_;rw[bX,aO,bY];refine⟨_,cF h15.ps,?_⟩;rw[bX,aO,bY];refine⟨_,cB h15.fr.hf,?_⟩;refine aU hL.l4.1 rfl ?_;refine xQ rfl rfl λr w16 hr hz16 hrb hx16=>?_;have h16:=h15.ext hx16;have L16:=L1.ext hx16;refine⟨by rw[bY];exact⟨_,cB h16.fr.hf,rfl⟩,by rw[bY];exact⟨_,cF h16.ps,rfl⟩,ld1 L16,by rw[bY];exact⟨_,cF h16.ps,rfl⟩,ld1 L16,?_⟩;have hc0:aS (λk=>M3.vB.ownBlock=some k) w15.drew w16:=aS.of_ext hx16;obtain⟨lp,lc,el1,_⟩:=hL.rL.own.sl.shape;obtain⟨ap,ac,ea1,_⟩:=hL.rA.own.sl.shape;obtain⟨bp,bc,eb1,_⟩:=hL.rB.own.sl.shape;refine fN aBF h16.fr.oB (nQ (n:=1) (T:=WA) hrb) rfl (λu hu=>by
    simp only[List.mem_cons,List.not_mem_nil,or_false]at hu;rcases hu with rfl|rfl|rfl|rfl|rfl
    ·rfl
    ·rw[el1];rfl
    ·rw[ea1];rfl
    ·rw[eb1];rfl
    ·rfl) (by omega) (by omega) h16.base λv' w17 hO17 hc17 hv17=>?_
   have hp17:=hc17.at h16.ps nE;have hf17:=hc17.at h16.fr.hf nF;refine⟨by rw[bY];exact⟨_,cF hp17,rfl⟩,ld1 (M':=M3) ⟨hc17.at L16.1 n1,L16.2.up hc17.size⟩,?_⟩;rw[bX,aO,aV,Nat.zero_add];obtain⟨vp,vc,ev,_⟩:=hO17.sl.shape;refine eY hf17 (by rw[ev];rfl) (by simp) λw18 hz18 hf18 hc18=>?_;have L18:Loc w0 w17 p f M3 vt b1 DV [.pointer (some ⟨p,0,none⟩)]:=⟨hc17.at L16.1 n1,L16.2.up hc17.size⟩;have nf1:b1≠f:=λe=>L16.2.2.2.1 (e▸List.mem_cons_self);have L19:=L18.one hc18 nf1;have hzx:=hx16.size;have hub:∀k,k∈ub [str t.t,vl,va,vb,i64 t.a]↔vl.ownBlock=some k\/va.ownBlock=some k\/vb.ownBlock=some k:=λk=>by
    rw[show [str t.t,vl,va,vb,i64 t.a]=[str t.t]++([vl]++([va]++([vb]++[i64 t.a])))from rfl];simp only[pX,List.mem_append,dX];simp[Value.ownBlock]
   have hnd:(ub [str t.t,vl,va,vb,i64 t.a]).Nodup:=by
    rw[show [str t.t,vl,va,vb,i64 t.a]=[str t.t]++([vl]++([va]++([vb]++[i64 t.a])))from rfl];simp only[pX];rw[show ub [str t.t]=[]from rfl,show ub [i64 t.a]=[]from rfl,List.nil_append,List.append_nil];refine List.nodup_append.2 ⟨iE _,List.nodup_append.2 ⟨iE _,iE _,λx hx y hy e=>by subst e;exact hL.d3 x (dX.1 hx) (dX.1 hy)⟩,λx hx y hy e=>?_⟩;subst e;rcases List.mem_append.1 hy with hy|hy
    ·exact hL.d1 x (dX.1 hx) (dX.1 hy)
    ·exact hL.d2 x (dX.1 hx) (dX.1 hy)
   obtain⟨h20,he20⟩:=h15.putB (w1:=w17) (w2:=w18) (v':=v') he15 (e:=⟨t.t,ls,x.1,x.2,t.a⟩) ⟨vl,va,vb,rfl,hL.rL.own,hL.rA.own,hL.rB.own⟩ (λk hk=>by
    rcases(hub k).1 hk with e|e|e
    ·exact hL.rL.off k e
    ·exact hL.rA.off k e
    ·exact hL.rB.off k e) hnd (λk hk=>by
    rcases(hub k).1 hk with e|e|e
    ·have:=hL.rL.new k e;omega
    ·have:=hL.rA.new k e;omega
    ·have:=hL.rB.new k e;omega) hO17 (hc0.trans hc17) (λk hk=>(hv17 k hk).imp id λe=>by omega) hc18 (by rw[hf18];simp)
   refine L19.ld rfl ?_;rw[bX,aO,bY];refine⟨_,cF h20.ps,?_⟩;rw[bX,aO,bY];refine⟨_,cB h20.fr.hf,?_⟩;dsimp only;rw[ev,uU,iM,bD (by omega) (by omega)];have e1:((s4.bl.length+1:Nat):Int)-1=(s4.bl.length:Nat):=by omega
   rw[e1];subst hs4;exact hK _ _ rfl _ w18 h20 he20
  ·rw[efuel]at ex;rw[ex];rfl
theorem Jm:DZ dead:=⟨HC,tU⟩
theorem zY(d:Nat):DZ (zI d):=⟨λN=>DK N d,HL d⟩
theorem HM(hS:uD w0 f):∀dl,EC w0 f 30 (zI dl) dl
 |0=>KM (λd e=>by omega) (λd e=>by omega) rJ Jm
 |d+1=>by
  have ih:=HM hS d
  refine KM (λd' e=>?_) (λd' e=>?_) (BK d).1 (zY d)
  ·have e:d'=d:=by omega
   subst e;exact(Ky hS d').1
  ·have e:d'=d:=by omega
   subst e;exact ih
end
theorem KQ(v:Value)(w:World):(Instr.typeAssert (.iface DT v) 20 DT false).run P0 w=.ok v w:=by kernel_rfl
theorem NP(w:World)(K:Value->Prop):FK P0 .neq 20 false true .nilIface .nilIface w K↔K (.bool false):=by
 have h:(do eqGuard .neq 20 (mX false) (mX true) .nilIface .nilIface;binOp .neq 20 .nilIface .nilIface:Sem Value).run P0 w=.ok (.bool false) w:=by kernel_rfl
 unfold FK jP;rw[h];exact⟨λ⟨v,h1,h2⟩=>by cases h1;exact h2,λh2=>⟨_,rfl,h2⟩⟩
theorem IN(v:Value)(w:World)(K:Value->Prop):FK P0 .neq 20 false true (.iface DT v) .nilIface w K↔K (.bool true):=by
 have h:(do eqGuard .neq 20 (mX false) (mX true) (.iface DT v) .nilIface;binOp .neq 20 (.iface DT v) .nilIface:Sem Value).run P0 w=.ok (.bool true) w:=by kernel_rfl
 unfold FK jP;rw[h];exact⟨λ⟨v,h1,h2⟩=>by cases h1;exact h2,λh2=>⟨_,rfl,h2⟩⟩
theorem Nr{a b:Value}{K:World->Prop}(hK:K w):sU P0 27 [a,b] .returning w K:=by
 letI:=noX;refine PG .idle ?_;unfold R27;rw[NP,bJ];exact hK
theorem IE{a b d:Nat}{Ta Tb:TypeId}{K:World->Prop}(ha:w.heap[a]?=some (.cells cs.toArray Ta (0,0)))(hl:cs.length=3)(hb:w.heap[b]?=some (.cells [v].toArray Tb (0,0)))(hab:a≠b)
  (hK:∀w',aS (λk=>k=a\/k=b) w w'->w'.heap[a]?=some (.cells [.slice none 0 0,.slice none 0 0,.slice none 0 0].toArray Ta (0,0))->w'.heap[b]?=some (.cells [.pointer (some ⟨d,0,none⟩)].toArray Tb (0,0))->K w'):
  sU P0 27 [.pointer (some ⟨a,0,none⟩),.pointer (some ⟨b,0,none⟩)] (.panicking [{v:=.iface DT (.pointer (some ⟨d,0,none⟩)),recovered:=false}]) w K:=by
 letI:=noX;refine PG (.thrown _) ?_;unfold R27;rw[IN,bZ,bI];refine⟨_,KQ _ _,?_⟩;refine aY (l:=[.slice none 0 0,.slice none 0 0,.slice none 0 0]) (w:=w.drew) ha rfl hl rfl λw2 hz2 ha2 hc2=>?_;refine⟨⟨_,KQ _ _,rfl⟩,?_⟩;have hb2:=hc2.at (w:=w.drew) hb (λe=>hab e.symm);refine eY hb2 rfl (by simp) λw3 hz3 hb3 hc3=>?_;refine hK w3 ?_ (hc3.at ha2 hab) (by rw[hb3];simp);exact((aS.drew (aS.refl _ w)).trans (hc2.mono λk _ e=>.inl e)).trans (hc3.mono λk _ e=>.inr e)
structure FO(w:World)(B:Nat)(M:Lay)(fl:Fl):Prop where
 oE:Own w B zJ 5 M.vE fl.ex.length M.cE
 oB:Own w B WA 5 M.vB fl.bl.length M.cB
 oT:Own w B eX 1 M.vT fl.top.length (ints fl.top)
 ee:kR (PO w B) 5 fl.ex M.cE
 bb:kR (VS w B) 5 fl.bl M.cB
 nd:(ub ([M.vE,M.vB,M.vT]++(M.cE++M.cB))).Nodup
 lt:∀k∈ub ([M.vE,M.vB,M.vT]++(M.cE++M.cB)),k<w.heap.size
 lo:∀k∈ub ([M.vE,M.vB,M.vT]++(M.cE++M.cB)),B<=k
theorem FR.out{B f:Nat}{M:Lay}{ex:List Ex}{bl:List Mu}{top:List Nat}(h:FR w B f M ex bl top):FO w B M ⟨ex,bl,top⟩:=by
 have hn:=h.nd;unfold Lay.uses at hn;rw[List.nodup_cons]at hn;exact⟨h.oE,h.oB,h.oT,h.ee,h.bb,hn.2,λk hk=>h.lt k (List.mem_cons_of_mem _ hk),λk hk=>(h.lo k (List.mem_cons_of_mem _ hk)).resolve_left λe=>hn.1 (e▸hk)⟩
theorem FO.keep{B:Nat}{M:Lay}{fl:Fl}(h:FO w B M fl)(hc:aS S w w')(hS:∀k,B<=k->k<w.heap.size->k∈ub ([M.vE,M.vB,M.vT]++(M.cE++M.cB))->¬S k):FO w' B M fl:=by
 have hu:∀v∈[M.vE,M.vB,M.vT]++(M.cE++M.cB),∀k,v.ownBlock=some k->¬S k:=λv hv k hk=>hS k (h.lo k (gI hv hk)) (h.lt k (gI hv hk)) (gI hv hk);refine⟨fG h.oE hc (hu _ (by simp)),fG h.oB hc (hu _ (by simp)),fG h.oT hc (hu _ (by simp)),?_,?_,h.nd,λk hk=>Nat.lt_of_lt_of_le (h.lt k hk) hc.size,h.lo⟩
 ·refine h.ee.imp λx d hd hx=>hx.at_ hc λk hk=>?_;obtain⟨v,hv,hk⟩:=List.mem_filterMap.1 hk;exact hu v (by simp[hd v hv]) k hk
 ·refine h.bb.imp λx d hd hx=>hx.at_ hc λk hk=>?_;obtain⟨v,hv,hk⟩:=List.mem_filterMap.1 hk;exact hu v (by simp[hd v hv]) k hk
theorem PO.low{B B':Nat}{e:Ex}{d:List Value}(h:PO w B e d)(hb:B'<=B):PO w B' e d:=by
 obtain⟨va,vk,e1,h1,h2⟩:=h;exact⟨va,vk,e1,h1.base hb,h2.base hb⟩
theorem VS.low{B B':Nat}{e:Mu}{d:List Value}(h:VS w B e d)(hb:B'<=B):VS w B' e d:=by
 obtain⟨vl,va,vk,e1,h1,h2,h3⟩:=h;exact⟨vl,va,vk,e1,h1.base hb,h2.base hb,h3.base hb⟩
theorem FO.low{B B':Nat}{M:Lay}{fl:Fl}(h:FO w B M fl)(hb:B'<=B):FO w B' M fl:=
 ⟨h.oE.base hb,h.oB.base hb,h.oT.base hb,h.ee.imp λx d _ hx=>hx.low hb,h.bb.imp λx d _ hx=>hx.low hb,h.nd,h.lt,λk hk=>Nat.le_trans hb (h.lo k hk)⟩
section
variable{w0 w w1 w2:World}{p f:Nat}{M:Lay}{vt:Value}{s:PS}{top:List Nat}
theorem Ij(M:Lay)(f:Nat):(M.uses f).Perm (f::(ub [M.vT]++ub ([M.vE,M.vB]++(M.cE++M.cB)))):=by
 rw[List.perm_iff_count];intro a;unfold Lay.uses;simp only[pX,List.count_append,List.count_cons];rw[rR M.vE,rR M.vB,rR M.vE [M.vB]];simp only[List.count_append];omega
theorem PR.putT(h:PR w0 w p f M vt s top){x:Nat}{v':Value}(hO:Own w1 w0.heap.size eX 1 v' (top.length+1) (ints top++[i64 (x:Nat)]))(hc1:aS (λk=>M.vT.ownBlock=some k) w w1)(hv:∀k,v'.ownBlock=some k->M.vT.ownBlock=some k\/w.heap.size<=k)
  (hc2:aS (HZ f) w1 w2)(hf:w2.heap[f]?=some (.cells [M.vE,M.vB,v'].toArray VP (0,0))):PR w0 w2 p f {M with vT:=v'} vt s (top++[x]):=by
 have hb:=h.base;have pT:=Ij M f;have use:∀k,M.vT.ownBlock=some k->k∈M.uses f:=λk hk=>List.mem_cons_of_mem _ (gI (v:=M.vT) (by simp) hk);have hnd0:=pT.nodup_iff.1 h.fr.nd;have hnd:=hnd0;rw[List.nodup_cons,List.nodup_append]at hnd;obtain⟨nf,_,nb,nab⟩:=hnd;have inU:∀k∈ub ([M.vE,M.vB]++(M.cE++M.cB)),k∈M.uses f:=λk hk=>pT.mem_iff.2 (List.mem_cons_of_mem _ (List.mem_append_right _ hk));have rest:∀k∈ub ([M.vE,M.vB]++(M.cE++M.cB)),M.vT.ownBlock≠some k/\k≠f/\k<w.heap.size:=λk hk=>
  ⟨λe=>nab k (dX.2 e) k hk rfl,λe=>nf (e▸List.mem_append_right _ hk),h.fr.lt k (inU k hk)⟩
 have c12:aS (λk=>M.vT.ownBlock=some k\/k=f) w w2:=(hc1.mono λk _ e=>.inl e).trans (hc2.mono λk _ e=>.inr e);have sub:∀v∈[M.vE,M.vB]++(M.cE++M.cB),∀k,v.ownBlock=some k->¬(M.vT.ownBlock=some k\/k=f):=λv hv k hk e=>by
  have:=rest k (gI hv hk);exact e.elim this.1 this.2.1
 have hOf:∀k,v'.ownBlock=some k->k≠f:=λk hk e=>by
  subst e;rcases hv k hk with e|e
  ·exact nf (List.mem_append_left _ (dX.2 e))
  ·have:=dA h.fr.hf;omega
 have nE:M.vT.ownBlock≠some p:=λe=>h.np (use p e);have pf:p≠f:=λe=>h.np (e▸List.mem_cons_self);have perm:=Ij {M with vT:=v'} f;have hN:(f::(ub [v']++([]++ub ([M.vE,M.vB]++(M.cE++M.cB))))).Nodup:=EF (n:=w.heap.size) (a:=ub [M.vT]) hnd0 (λk hk=>h.fr.lt k (pT.mem_iff.2 hk)) (iE _) (λk hk=>(hv k (dX.1 hk)).imp (λe=>dX.2 e) id) List.nodup_nil λk hk=>by cases hk
 have hz:=c12.size;have mem:∀k∈({M with vT:=v'}:Lay).uses f,k=f\/v'.ownBlock=some k\/k∈ub ([M.vE,M.vB]++(M.cE++M.cB)):=λk hk=>by
  have hk:=perm.mem_iff.1 hk;rcases List.mem_cons.1 hk with e|e
  ·exact .inl e
  rcases List.mem_append.1 e with e|e
  ·exact .inr (.inl (dX.1 e))
  ·exact .inr (.inr e)
 refine⟨?_,⟨hf,?_,?_,?_,?_,?_,perm.nodup_iff.2 hN,λk hk=>?_,λk hk=>?_⟩,?_,?_,λe=>?_,h.lo,λk hk=>?_⟩
 ·refine h.ch.then c12 λk hk e=>?_;rcases e with e|e
  ·exact(h.fr.lo k (use k e)).resolve_right (by omega)
  ·exact e
 ·exact fG h.fr.oE c12 (sub _ (by simp))
 ·exact fG h.fr.oB c12 (sub _ (by simp))
 ·rw[List.length_append,List.length_cons,List.length_nil,Bt];exact fG hO hc2 λk hk e=>hOf k hk e
 ·refine h.fr.ee.imp λx d hd hx=>hx.at_ c12 λk hk=>?_;obtain⟨v,hv,hk⟩:=List.mem_filterMap.1 hk;exact sub v (by simp[hd v hv]) k hk
 ·refine h.fr.bb.imp λx d hd hx=>hx.at_ c12 λk hk=>?_;obtain⟨v,hv,hk⟩:=List.mem_filterMap.1 hk;exact sub v (by simp[hd v hv]) k hk
 ·rcases mem k hk with e|e|e
  ·rw[e];exact dA hf
  ·exact Nat.lt_of_lt_of_le (mQ hO e).1 hc2.size
  ·exact Nat.lt_of_lt_of_le (rest k e).2.2 hz
 ·rcases mem k hk with e|e|e
  ·exact .inl e
  ·exact .inr (mQ hO e).2
  ·exact h.fr.lo k (inU k e)
 ·exact c12.at h.ps λe=>e.elim nE pf
 ·exact uI h.tk c12 λk hk e=>by
   have:=(h.nt k hk).1;rcases e with e|e
   ·exact this (use k e)
   ·exact this (e▸List.mem_cons_self)
 ·rcases mem p e with e|e|e
  ·exact pf e
  ·exact(hv p e).elim nE λe=>by have:=h.lt;omega
  ·exact h.np (inU p e)
 ·have ht:=h.nt k hk;refine⟨λe=>?_,ht.2.1,Nat.lt_of_lt_of_le ht.2.2 hz⟩;rcases mem k e with e|e|e
  ·exact ht.1 (e▸List.mem_cons_self)
  ·exact(hv k e).elim (λe=>ht.1 (use k e)) λe=>by omega
  ·exact ht.1 (inU k e)
end
def uC(w:World):Prop:=∃m,w.cell? ⟨0,0,none⟩=some (.int .i64 m)
section
variable [HX]
def Wx:Prop:=∀(w:World) (K:Q0) (s:aH),uC w->s.length<=1000000->
 (∀l,mE s=.ok l->∀v w',bA w w'->SlAt w' qG v l.length (toks l)->(∀k,v.ownBlock=some k->w.heap.size<=k/\k<w'.heap.size)->K (.tuple #[v,.pointer none]) w')->
 (∀c a,mE s=.bad c a->∀d w',bA w w'->w.heap.size<=d->w'.heap[d]?=some (.cells [i64 c,str [],i64 a].toArray 53 (0,0))->K (.tuple #[.slice none 0 0,.pointer (some ⟨d,0,none⟩)]) w')->
 aA P0 26 [str s] w K
end
theorem uC.chg{f:Nat}(h:uC w)(hc:aS (Of f) w w')(hf:w.heap[f]?=some (.cells cs.toArray VP (0,0)))(h0:∀m,cs[0]?≠some (.int .i64 m)):uC w':=by
 obtain⟨m,h⟩:=h;refine⟨m,?_⟩;rw[aX]at h⊢;cases hx:w.heap[0]? with
 |none=>rw[hx]at h;cases h
 |some o=>
  rw[hc.at hx ?_]
  ·rw[hx]at h;exact h
  ·intro e;have e:0=f:=e;subst e;rw[hf,aZ]at h;exact h0 m (by simpa using h)
theorem Su[HX](hS:∀[HX],Wx){t:aH}{K:Q0}(hT:uC w)(hl:t.length<=1000000)
  (hok:∀fl,parseM t=.ok fl->∀M w',bA w w'->FO w' w.heap.size M fl->(fl.ex.length<=100000/\fl.bl.length<=100000/\fl.top.length<=100000)->K (.tuple #[.agg [M.vE,M.vB,M.vT].toArray,.pointer none]) w')
  (hbad:∀c a,parseM t=.bad c a->∀d w',bA w w'->w.heap.size<=d->w'.heap[d]?=some (.cells [i64 c,str [],i64 a].toArray 53 (0,0))->K (.tuple #[.agg [.slice none 0 0,.slice none 0 0,.slice none 0 0].toArray,.pointer (some ⟨d,0,none⟩)]) w'):
  aA P0 10 [str t] w K:=by
 refine aAM ?_;unfold W10;refine aI λf w1 hf hz1 hbb1 hx1=>?_;refine aI λbd w2 hbd hz2 hbb2 hx2=>?_;have hx02:=hx1.trans hx2;have hf2:=hx2.at hbb1 id;have hT2:uC w2:=by
  obtain⟨m,h⟩:=hT;refine⟨m,?_⟩;rw[aX]at h⊢;cases hx:w.heap[0]? with
  |none=>rw[hx]at h;cases h
  |some o=>rw[hx02.at hx id];rw[hx]at h;exact h
 unfold parseM at hok hbad;refine hS w2 _ t hT2 hl (λl hsc v w3 hx3 hv hvn=>?_) (λc a hsc d w3 hx3 hd hdb=>?_)
 ·rw[aK];refine⟨v,rfl,?_⟩;rw[aK];refine⟨.pointer none,rfl,?_⟩;have hbd3:=hx3.at hbb2 id;have hf3:=hx3.at hf2 id;refine eY hbd3 rfl (by simp) λw4 hz4 hbb4 hc4=>?_;have hbb4:w4.heap[bd]?=some (.cells [.pointer none].toArray 33 (0,0)):=by rw[hbb4];simp
  have hf4:=hc4.at hf3 (by omega);refine⟨.pointer none,by rw[aX,hbb4];rfl,?_⟩;show aD (.bool false) _ _;rw[bJ];have hx4:bA w w4:=(hx02.trans hx3).new (hc4.mono λk _ e=>e) (by omega);have hlt4:=dA hf4;have hT4:uC w4:=by
   obtain⟨m,h⟩:=hT;refine⟨m,?_⟩;rw[aX]at h⊢;cases hx:w.heap[0]? with
   |none=>rw[hx]at h;cases h
   |some o=>rw[hx4.at hx id];rw[hx]at h;exact h
  have hv4:SlAt w4 qG v l.length (toks l):=uI hv hc4 λk hk e=>by have:=(hvn k hk).1;have e:k=bd:=e;omega
  letI inst:HX:=⟨λch x10=>sU P0 27 [.pointer (some ⟨f,0,none⟩),.pointer (some ⟨bd,0,none⟩)] (.panicking ch) x10 λw10=>
   aE true 3 (.pointer (some ⟨f,0,none⟩)) w10 λr11=>
   aE false 1 (.pointer (some ⟨bd,0,none⟩)) w10 λr12=>
   K (.tuple #[r11,r12]) w10⟩
  have hSC:uD w4 f:=λw' KK s hc hsl h1 h2=>hS w' KK s (hT4.chg hc hf4 (by simp)) hsl h1 h2;have hThr:∀c a,(∀d w',bA w w'->w.heap.size<=d->w'.heap[d]?=some (.cells [i64 c,str [],i64 a].toArray 53 (0,0))->K (.tuple #[.agg [.slice none 0 0,.slice none 0 0,.slice none 0 0].toArray,.pointer (some ⟨d,0,none⟩)]) w')->Ie w4 f c a:=by
   intro c a hb d w' cs hc hd hcs hcf hdb;have hzc:=hx4.size;refine IE hcf hcs (hc.at hbb4 (by show¬bd=f;omega)) (by omega) λw5 hc5 ha5 hb5=>?_;refine aU ha5 rfl ?_;refine⟨_,by rw[aX,hb5];rfl,?_⟩;have hd':w4.heap.size<=d:=hd;have hzx3:=hx3.size;refine hb d w5 ?_ (by omega) (hc5.at hdb (by show¬(d=f\/d=bd);omega));refine(hx4.then hc λk hk e=>?_).then hc5 λk hk e=>?_
   ·have e:k=f:=e;omega
   ·omega
  obtain⟨q,cap,ev,_⟩:=hv.shape;subst ev;simp only[dU,bN,Et,bI,List.length_cons,List.length_nil,List.set_cons_zero,List.set_cons_succ,Nat.reduceAdd,Nat.reduceLT,true_and,Nat.zero_lt_succ];refine dF (z:=[.slice q l.length cap,i64 0,i64 0,.pointer (some ⟨f,0,none⟩),i64 0,.bool false]) λp w5 hp hz5 hpb hx5=>?_;have hzx3:=hx3.size;have hf5:=hx5.at hf4 id;have hbd5:=hx5.at hbb4 id;let M0:Lay:=⟨.slice none 0 0,.slice none 0 0,.slice none 0 0,[],[]⟩;have huse:M0.uses f=[f]:=rfl;have hPR:PR w4 w5 p f M0 (.slice q l.length cap) ⟨l,0,0,0,false,[],[]⟩ []:=
   ⟨aS.of_ext hx5,⟨hf5,⟨by simp[M0],.inl ⟨rfl,rfl⟩⟩,⟨by simp[M0],.inl ⟨rfl,rfl⟩⟩,⟨by simp[ints],.inl ⟨rfl,rfl⟩⟩,kR.nil _ _,kR.nil _ _,by rw[huse];simp,by rw[huse];intro k hk;simp only[List.mem_singleton]at hk;omega,by rw[huse];intro k hk;simp only[List.mem_singleton]at hk;exact .inl hk⟩,
    hpb,hv4.ext hx5,by rw[huse];simp only[List.mem_singleton];omega,by omega,λk hk=>by
     have hb:=hvn k hk;rw[huse];simp only[List.mem_singleton];omega⟩
  have htg:=Em (N:=(t.length:Nat)) (off:=0) hsc (Int.le_refl _) (by omega);have hfew:=Ga hsc;have hwt:=El hsc;have hg0:Gd (t.length:Nat) ⟨l,0,0,0,false,[],[]⟩ 24:=⟨⟨htg,List.length_pos_iff.2 htg.ne,by omega⟩,by omega,hfew.1,JP hsc,by unfold Syn.phi;simp only[List.length_nil,List.drop_zero];omega,rfl⟩;rw[hsc]at hok hbad;simp only at hok hbad;have hN:=hg0.hN;refine uR hPR hg0.ws hN hg0.l λw6 h6 he6=>?_;have hg1:=hg0.lines;have et1:=congrArg List.length (iU hg0.ws).1.toks;generalize hR:Lc (l.length+1) (dQ ⟨l,0,0,0,false,[],[]⟩) []=R0 at hok hbad;have hbdk:∀{w':World},aS (Of f) w4 w'->w'.heap[bd]?=some (.cells [.pointer none].toArray 33 (0,0)):=λhc=>hc.at hbb4 (by show¬bd=f;omega);refine bL.go (λst w'=>st=[]/\∃s1 M1 top n,PR w4 w' p f M1 (.slice q l.length cap) s1 top/\Gd (t.length:Nat) s1 24/\Lc n s1 top=R0/\s1.toks.length<n+s1.i/\top.length<=s1.i/\s1.toks.length=l.length) (λ_ w'=>l.length-vY w' p)
   ⟨rfl,_,M0,[],l.length+1,h6,hg1,hR,by rw[et1];show l.length<_;omega,by simp,by rw[et1]⟩ ?_
  rintro st g w7 ⟨rfl,s1,M1,top,n,h7,hg7,htop,hn,htl,htk⟩;have hlt7:=hg7.ws.lt;obtain⟨n,rfl⟩:∃m,n=m+1:=⟨n-1,by omega⟩;simp only[Lc]at htop;have hgn:=hg7.now;have ng:=dN hg7.ws;have ngt:=congrArg List.length ng.toks;have ngi:=ng.le;refine jM h7 hg7.ws hN hg7.l λw8 h8 he8=>?_;refine⟨i64 (bO s1).k,rfl,?_⟩;dsimp only;rw[dG,aB];refine⟨λhk0=>?_,λhk0=>?_⟩
  ·have hk0:(bO s1).k≠0:=hk0;rw[if_neg hk0]at htop;have h8:=h8.drew;rw[aO,bY];refine⟨M1.vT,by rw[aV,aX,h8.fr.hf,aZ];rfl,?_⟩;refine HM hSC 24 w8.drew p M1 _ _ top _ _ h8 hgn (λx s2 ex M2 w9 h9 he9=>?_) λc a' ex=>hThr c a' (hbad c a' (by rw[<-htop,ex];rfl));rw[ex]at htop;simp only[R.bind]at htop;obtain⟨hg9,hi9,ht9⟩:=hgn.bk (zY 24) ex;have ht9:=congrArg List.length ht9;have eT:=he9.hT;have ldT:∀{w':World},w'.heap[f]?=some (.cells [M2.vE,M2.vB,M2.vT].toArray VP (0,0))->aE false 1 (.pointer (some ((⟨f,0,none⟩:Addr).add 2))) w' λx=>x=M1.vT:=λh=>by
    rw[bY];exact⟨M2.vT,by rw[aV,aX,h,aZ];rfl,eT⟩
   refine⟨ldT h9.fr.hf,?_⟩;refine fR λr w10 hr hz10 hrb hx10=>?_;have h10:=h9.ext hx10;refine⟨ldT h10.fr.hf,?_⟩;have few:=hg7.few;have hzx:=hx10.size;have nF:¬M2.vT.ownBlock=some f:=λe=>by
    have hnd:=(Ij M2 f).nodup_iff.1 h10.fr.nd;rw[List.nodup_cons]at hnd;exact hnd.1 (List.mem_append_left _ (dX.2 e))
   rw[<-eT];refine fN yY h10.fr.oT (nQ (n:=1) (T:=eX) hrb) rfl (λu hu=>by simp only[List.mem_singleton]at hu;subst hu;rfl) (by omega) (by omega) h10.base λv' w11 hO11 hc11 hv11=>?_;have hf11:=hc11.at h10.fr.hf nF;rw[aO,aV,Nat.zero_add];obtain⟨vp,vc,ev,_⟩:=hO11.sl.shape;refine eY hf11 (by rw[ev];rfl) (by simp) λw12 hz12 hf12 hc12=>?_;have h12:=h10.putT (w1:=w11) (w2:=w12) (x:=x) hO11 hc11 hv11 hc12 (by rw[hf12];simp);have hg10:=hg9.now;have ng9:=dN hg9.ws;have ng9t:=congrArg List.length ng9.toks;have ng9i:=ng9.le;refine aP.cut (λ_ w'=>PR w4 w' p f {M2 with vT:=v'} (.slice q l.length cap) (aG s2) (top++[x])/\Lc n (dQ (aG s2)) (top++[x])=R0) ?_ ?_
   ·refine jM h12 hg9.ws hN hg9.l λw13 h13 he13=>?_;refine⟨i64 (bO s2).k,rfl,?_⟩;dsimp only;rw[dG];simp only[eH,dG,kE];intro g2;simp only[List.getD_cons_zero];rw[cW,aQ];refine⟨λhb=>?_,λhb=>?_⟩
    ·have hb:(bO s2).k≠5/\(bO s2).k≠0:=by simpa using hb
     rw[if_pos hb]at htop;refine jM h13 hg10.ws hN hg10.l λw14 h14 he14=>?_;refine⟨i64 (bO (aG s2)).a,rfl,?_⟩;exact lY h14 (hThr 50 _ (hbad 50 _ (by rw[<-htop])))
    ·have hb:¬((bO s2).k≠5/\(bO s2).k≠0):=by simpa using hb
     rw[if_neg hb]at htop;exact⟨h13,htop⟩
   rintro _ g2 w13 ⟨h13,htop⟩;refine uR h13 hg10.ws hN hg10.l λw14 h14 he14=>?_;have lg:=iU hg10.ws;have lgt:=congrArg List.length lg.1.toks;have lgi:=lg.1.le;have hgl:=hg10.lines;have hltl:=hgl.ws.lt;refine⟨⟨rfl,dQ (aG s2),_,top++[x],n,h14,hgl,htop,by omega,by rw[List.length_append,List.length_cons,List.length_nil];omega,by omega⟩,?_⟩;rw[h14.at_,h7.at_];omega
  ·have hk0:(bO s1).k=0:=by
    by_cases h:(bO s1).k=0
    ·exact h
    ·exact absurd h hk0
   rw[if_pos hk0]at htop;refine aU h8.fr.hf rfl ?_;obtain⟨ep,ec,e1,_⟩:=h8.fr.oE.sl.shape;obtain⟨bp,bc,e2,_⟩:=h8.fr.oB.sl.shape;obtain⟨tp,tc,e3,_⟩:=h8.fr.oT.sl.shape;refine aY (l:=[M1.vE,M1.vB,M1.vT]) h8.fr.hf rfl rfl (by rw[e1,e2,e3];rfl) λw9 hz9 hf9 hc9=>?_;have hc49:aS (Of f) w4 w9:=h8.ch.trans (hc9.mono λk _ e=>e);refine eY (hbdk hc49) rfl (by simp) λw10 hz10 hbd10 hc10=>?_;have hf10:=hc10.at hf9 (by omega);refine Nr ?_;refine aU hf10 rfl ?_;refine⟨.pointer none,by rw[aX,hbd10];rfl,?_⟩;have hFO:=h8.fr.out;have hFO:=hFO.keep hc9 λk hk hlt hu e=>by have e:k=f:=e;omega
   have hFO:=hFO.keep hc10 λk hk hlt hu e=>by have e:k=bd:=e;omega
   have hzc:=hx4.size;rw[<-htop]at hok;have few:=hg7.few;refine hok _ rfl M1 w10 ?_ (hFO.low hzc) ⟨hgn.ex.1,hgn.ex.2,by show top.length<=_;omega⟩;refine(hx4.then hc49 λk hk e=>?_).then hc10 λk hk e=>?_
   ·have e:k=f:=e;omega
   ·have e:k=bd:=e;omega
 ·rw[aK];refine⟨.slice none 0 0,rfl,?_⟩;rw[aK];refine⟨.pointer (some ⟨d,0,none⟩),rfl,?_⟩;have hbd3:=hx3.at hbb2 id;have hf3:=hx3.at hf2 id;refine eY hbd3 rfl (by simp) λw4 hz4 hbb4 hc4=>?_;have hbb4:w4.heap[bd]?=some (.cells [.pointer (some ⟨d,0,none⟩)].toArray 33 (0,0)):=by rw[hbb4];simp
  have hf4:=hc4.at hf3 (by omega);refine⟨.pointer (some ⟨d,0,none⟩),by rw[aX,hbb4];rfl,?_⟩;show aD (.bool true) _ _;rw[bZ,bI];refine⟨.pointer (some ⟨d,0,none⟩),by rw[aX,heap_drew,hbb4];rfl,?_⟩;refine aY (w:=w4.drew) (l:=[.slice none 0 0,.slice none 0 0,.slice none 0 0]) hf4 rfl rfl rfl λw5 hz5 hf5 hc5=>?_;have hbb5:=hc5.at (w:=w4.drew) hbb4 (by omega);refine⟨⟨.pointer (some ⟨d,0,none⟩),by rw[aX,hbb5];rfl,rfl⟩,?_⟩;refine eY hbb5 rfl (by simp) λw6 hz6 hbb6 hc6=>?_;have hf6:=hc6.at hf5 (by omega);refine aU hf6 rfl ?_;refine⟨.pointer (some ⟨d,0,none⟩),by rw[aX,hbb6];rfl,?_⟩;have hx3':=hx02.trans hx3;have hd4:=hc4.at hdb (by omega);have hd5:=hc5.at (w:=w4.drew) hd4 (by omega);refine hbad c a (by rw[hsc]) d w6 ?_ (by omega) (hc6.at hd5 (by omega));exact(((hx3'.new hc4 (by omega)).trans (bM w4)).new hc5 (by omega)).new hc6 (by omega)
abbrev cv(c:UInt8):Value:=.int .u8 (c.toNat:Nat)
theorem yQ(a c:UInt8):decide (((a.toNat:Nat):Int)<=((c.toNat:Nat):Int))=decide (a<=c):=by
 rw[decide_eq_decide,UInt8.le_iff_toNat_le];omega
theorem wG(a c:UInt8):decide (((c.toNat:Nat):Int)=((a.toNat:Nat):Int))=(c==a):=by
 rw[Bool.eq_iff_iff,decide_eq_true_iff,beq_iff_eq,<-UInt8.toNat_inj];omega
section
variable [HX]
theorem tL{K:Q0}(hK:K (.bool (fH c)) w):aA P0 72 [cv c] w K:=by
 refine ZW ?_;unfold W72;have e1:decide ((97:Int)<=((c.toNat:Nat):Int))=decide (97<=c):=yQ 97 c;have e2:decide (((c.toNat:Nat):Int)<=122)=decide (c<=122):=yQ c 122;have e3:decide ((65:Int)<=((c.toNat:Nat):Int))=decide (65<=c):=yQ 65 c;have e4:decide (((c.toNat:Nat):Int)<=90)=decide (c<=90):=yQ c 90;have e5:decide (((c.toNat:Nat):Int)=95)=(c==95):=wG 95 c;simp only[gR,pU,aM,e1,e2,e3,e4,e5];unfold fH at hK;generalize decide (97<=c)=a at*
 generalize decide (c<=122)=b at*
 generalize decide (65<=c)=d at*
 generalize decide (c<=90)=e at*
 generalize (c==95)=g at*
 cases a<;>cases b<;>cases d<;>cases e<;>cases g<;>
  (simp only[eH,iB,OD,vU,kE,cond_true,cond_false,iS,oD,List.getD_cons_zero,Bool.not_true,Bool.not_false];intros;exact hK)
theorem AA{K:Q0}(hK:K (.bool (fD c)) w):aA P0 74 [cv c] w K:=by
 refine ZU ?_;unfold W74;have e1:decide ((48:Int)<=((c.toNat:Nat):Int))=decide (48<=c):=yQ 48 c;have e2:decide (((c.toNat:Nat):Int)<=57)=decide (c<=57):=yQ c 57;simp only[gR,pU,e1,e2];unfold fD at hK;generalize decide (48<=c)=a at*
 generalize decide (c<=57)=b at*
 cases a<;>cases b<;>
  (simp only[eH,iB,OD,vU,kE,cond_true,cond_false,iS,oD,List.getD_cons_zero,Bool.not_true,Bool.not_false];intros;exact hK)
theorem vF{g:FuncId}{args:List Value}{K:Q0}(h:aA P g args w K):kP P (.func (.func g) #[] #[]) args w K:=fQ (caps:=[]) (by rw[List.append_nil];exact h)
theorem SG{K:Q0}(hK:K (.bool (fL c)) w):aA P0 73 [cv c] w K:=by
 refine ZV ?_;unfold W73;refine tL ?_;have e5:decide (((c.toNat:Nat):Int)=45)=(c==45):=wG 45 c;unfold fL at hK;simp only[iB,aM,e5];refine cX.look (fD c) (λ_ J hJ=>AA hJ) λg=>?_;simp only[List.getD_cons_zero];rw[dD];simp only[iB,kE,List.getD_cons_zero];intro g2;rw[dD];exact hK
theorem SF{K:Q0}(hK:K (.bool (fL c)) w):aA P0 109 [cv c] w K:=by
 refine VC ?_;unfold aC3;refine tL ?_;have e5:decide (((c.toNat:Nat):Int)=45)=(c==45):=wG 45 c;unfold fL at hK;simp only[iB,aM,e5];refine cX.look (fD c) (λ_ J hJ=>AA hJ) λg=>?_;simp only[List.getD_cons_zero];rw[dD];simp only[iB,kE,List.getD_cons_zero];intro g2;rw[dD];exact hK
theorem SO{K:Q0}(hK:K (.bool (c !=10)) w):aA P0 70 [cv c] w K:=by
 refine ZX ?_;unfold W70;rw[dG];have e:decide (((c.toNat:Nat):Int)≠10)=(c !=10):=by
  have e5:decide (((c.toNat:Nat):Int)=10)=(c==10):=wG 10 c;rw[bne,<-e5,decide_not]
 rw[e];exact hK
theorem JQ{q:UInt8->Bool}{fv:Value}{s:aH}{K:Q0}(hl:s.length<=1000000)(hq:∀c {w:World} {K:Q0},K (.bool (q c)) w->kP P0 fv [cv c] w K)(hK:K (i64 (cH q s:Nat)) w):aA P0 69 [str s,fv] w K:=by
 refine ZY ?_;unfold W69;rw[dI];refine bL.go (λst w'=>∃i:Nat,st=[i64 (i:Nat)]/\i<=s.length/\w'=w/\i+cH q (s.drop i)=cH q s) (λst _=>match st with|[.int _ i]=>s.length-i.toNat|_=>0) ⟨0,rfl,by omega,rfl,by simp⟩ ?_;rintro st g w' ⟨i,rfl,hi,rfl,hr⟩;simp only[List.getD_cons_zero];rw[cA,aB];refine⟨λhlt=>?_,λhge=>?_⟩
 ·have hlt:i<s.length:=by omega
  rw[eV hlt]at hr;simp only[cH]at hr;refine nA hlt ?_;refine hq _ ?_;rw[cJ,aQ];refine⟨λhn=>?_,λhy=>?_⟩
  ·rw[if_neg (by simpa using hn),Nat.add_zero]at hr;rw[hr];exact hK
  ·rw[if_pos (by simpa using hy)]at hr;rw[aW,Ai (by omega)];refine⟨⟨i+1,rfl,by omega,rfl,by omega⟩,?_⟩;simp only[Int.toNat_natCast];omega
 ·obtain rfl:i=s.length:=by omega
  rw[List.drop_length]at hr;simp only[cH,Nat.add_zero]at hr;rw[dI,hr];exact hK
theorem Bw{l:aH}{K:Q0}(hK:K (i64 (Lib.indexByte l c)) w):aA P0 68 [str l,cv c] w K:=by
 refine eA (args:=#[str l,cv c]) Tryz.call68 ((Tryz.strings_IndexByte (aL l) (c.toNat:Nat) w).mono ?_);rintro e w' ⟨rfl,rfl⟩;refine⟨_,rfl,?_⟩;rw[cK];simpa using hK
theorem OK{s:aH}{K:Q0}(hT:uC w)(hl:s.length<=1000000)(hK:K (i64 (Lib.index s [42,47])) w):aA P0 71 [str s,str [42,47]] w K:=by
 obtain⟨m,hm⟩:=hT;refine eA (args:=#[str s,str [42,47]]) Tryz.call71 ((Tryz.strings_Index (aL s) (aL [42,47]) m w (by rw[dC];omega) hm).mono ?_);rintro e w' ⟨rfl,rfl⟩;rw[cK,cK];exact⟨_,rfl,hK⟩
end
theorem Zr(c:UInt8):decide (0<=Lib.indexByte [32,9,13] c)=(c==32||c==9||c==13):=by
 have:∀m:Fin 256,decide (0<=Lib.indexByte [32,9,13] (UInt8.ofNat m.val))=(UInt8.ofNat m.val==32||UInt8.ofNat m.val==9||UInt8.ofNat m.val==13):=by decide+kernel
 have h:=this ⟨c.toNat,UInt8.toNat_lt c⟩;rwa[UInt8.ofNat_toNat]at h
theorem aDF(c:UInt8):decide (Lib.indexByte [34,92,110,116,114,36] c<0)=!Lex.escOk c:=by
 have:∀m:Fin 256,decide (Lib.indexByte [34,92,110,116,114,36] (UInt8.ofNat m.val)<0)=!Lex.escOk (UInt8.ofNat m.val):=by decide+kernel
 have h:=this ⟨c.toNat,UInt8.toNat_lt c⟩;rwa[UInt8.ofNat_toNat]at h
theorem Xe(c:UInt8):decide (0<=Lib.indexByte [123,125,91,93,40,41,61,43,45,42,47,37,60,62,33,63,58,44,46] c)=yB.contains c:=by
 have:∀m:Fin 256,decide (0<=Lib.indexByte [123,125,91,93,40,41,61,43,45,42,47,37,60,62,33,63,58,44,46] (UInt8.ofNat m.val))=yB.contains (UInt8.ofNat m.val):=by decide+kernel
 have h:=this ⟨c.toNat,UInt8.toNat_lt c⟩;rwa[UInt8.ofNat_toNat]at h
theorem Cw(n:Nat)(c:UInt8)(r:aH):dE (n+1) (c::r)=(if(c==32||c==9||c==13)=true then((dE n r).1+1,(dE n r).2)else if(c==35||Lib.hasPrefix (c::r) [47,47])=true then((dE n ((c::r).drop (cH (λb=>b !=10) (c::r)))).1+cH (λb=>b !=10) (c::r),(dE n ((c::r).drop (cH (λb=>b !=10) (c::r)))).2)
  else if Lib.hasPrefix (c::r) [47,42]=true then(if Lib.index (r.drop 1) [42,47]<0 then(0,40)else((dE n ((c::r).drop ((Lib.index (r.drop 1) [42,47]).toNat+4))).1+((Lib.index (r.drop 1) [42,47]).toNat+4),(dE n ((c::r).drop ((Lib.index (r.drop 1) [42,47]).toNat+4))).2))else(0,0)):=by
 simp only[dE,Bool.or_eq_true,beq_iff_eq];rfl
theorem Nl{q:UInt8->Bool}{r:aH}(h:q c=true):1<=cH q (c::r):=by simp only[cH];rw[if_pos h];omega
theorem add_add(i j:Nat)(x:Nat×Int):jC i (jC j x)=jC (i+j) x:=by
 unfold jC;by_cases h:x.2=0
 ·simp only[h,if_true];rw[show x.1+j+i=x.1+(i+j)by omega]
 ·simp only[if_neg h]
section
variable [HX]
theorem Xd{s:aH}{K:Q0}(hT:uC w)(hl:s.length<=1000000)(hK:K (.tuple #[i64 ((dE (s.length+1) s).1:Nat),i64 (dE (s.length+1) s).2]) w):aA P0 44 [str s] w K:=by
 refine aAq ?_;unfold W44;generalize hR:dE (s.length+1) s=R0 at hK;refine bL.go (λst w'=>∃i n:Nat,st=[i64 (i:Nat)]/\i<=s.length/\w'=w/\((dE n (s.drop i)).1+i,(dE n (s.drop i)).2)=R0/\s.length<n+i) (λst _=>match st with|[.int _ i]=>s.length-i.toNat|_=>0) ⟨0,s.length+1,rfl,by omega,rfl,by rw[List.drop_zero,hR];rfl,by omega⟩ ?_;rintro st g w' ⟨i,n,rfl,hi,rfl,hr,hn⟩;obtain⟨n,rfl⟩:∃m,n=m+1:=⟨n-1,by omega⟩;simp only[List.getD_cons_zero];rw[dI,cA,aB];refine⟨λhlt=>?_,λhge=>?_⟩
 ·have hlt:i<s.length:=by omega
  have hd:=eV hlt;rw[hd,Cw]at hr;rw[dP,cZ,cO];refine⟨by omega,by omega,?_⟩;rw[List.take_length,Int.toNat_natCast];refine nA hlt ?_;refine Bw ?_;rw[gR,Zr,aQ];refine⟨λhb=>?_,λhb=>?_⟩
  ·rw[if_pos hb]at hr;rw[aW,Ai (by omega)];refine⟨⟨i+1,n,rfl,by omega,rfl,?_,by omega⟩,?_⟩
   ·rw[<-hr];simp only[Prod.mk.injEq,and_true];omega
   ·simp only[Int.toNat_natCast];omega
  rw[if_neg (by rw[hb];decide)]at hr;have hd':=hd;rw[hd];generalize hc:s[i]=c at*
  generalize hrr:s.drop (i+1)=r at*
  have hrl:(c::r).length=s.length-i:=by rw[<-hd,List.length_drop]
  simp only[List.length_cons]at hrl;refine aP.cut (λst w2=>st=[.bool (c==35||Lib.hasPrefix (c::r) [47,47])]/\w2=w') ?_ ?_
  ·refine nA hlt ?_;rw[hc];have e5:decide (((c.toNat:Nat):Int)=35)=(c==35):=wG 35 c;rw[aM,e5,aQ];refine⟨λh=>⟨by rw[h];rfl,rfl⟩,λh=>?_⟩;refine wF ?_;exact⟨by rw[h,Bool.false_or],rfl⟩
  rintro st g2 w2 ⟨rfl,rfl⟩;simp only[List.getD_cons_zero];rw[aQ];refine⟨λhcm=>?_,λhcm=>?_⟩
  ·rw[if_pos hcm]at hr;refine JQ (q:=λb=>b !=10) (by simp only[List.length_cons];omega) (λc {w K} h=>vF (SO h)) ?_;have hle:=mO (λb=>b !=10) (c::r);have hpos:1<=cH (λb=>b !=10) (c::r):=Nl (by
    rw[Bool.or_eq_true]at hcm;rcases hcm with h|h
    ·rw[beq_iff_eq]at h;subst h;rfl
    ·simp only[Lib.hasPrefix,List.isPrefixOf,Bool.and_eq_true,beq_iff_eq]at h;rw[<-h.1];rfl)
   simp only[List.length_cons]at hle;rw[aW,bD (by omega) (by omega)];generalize cH (λb=>b !=10) (c::r)=k at*
   refine⟨⟨i+k,n,by simp only[List.cons.injEq,Value.int.injEq,true_and,and_true];omega,by omega,rfl,?_,by omega⟩,?_⟩
   ·rw[<-hr,<-dH,hd'];simp only[Prod.mk.injEq,and_true];omega
   ·simp only[Int.toNat_natCast];omega
  rw[if_neg (by rw[hcm];decide)]at hr;refine wF ?_;rw[aQ];refine⟨λhcm2=>?_,λhcm2=>?_⟩
  ·rw[if_pos hcm2]at hr;rw[dP,cZ,cO];have h2:2<=(c::r).length:=Ew (p:=[47,42]) (s:=c::r) hcm2;simp only[List.length_cons]at h2;refine⟨by omega,by simp only[List.length_cons];omega,?_⟩;rw[List.take_length];show aA P0 71 [str (r.drop 1),str [42,47]] w2 _;refine OK hT (by rw[List.length_drop];omega) ?_;rw[cA,aB];refine⟨λhneg=>?_,λhpos=>?_⟩
   ·rw[if_pos hneg]at hr;rw[<-hr,Nat.zero_add]at hK;exact hK
   ·rw[if_neg hpos]at hr;obtain⟨j,hj⟩:=Int.eq_ofNat_of_zero_le (show 0<=Lib.index (r.drop 1) [42,47]by omega);have hjl:=EL _ _ hj;rw[List.length_drop]at hjl;rw[hj]at hr⊢;rw[aW,bD (by omega) (by omega),aW,bD (by omega) (by omega)];rw[Int.toNat_natCast]at hr;refine⟨⟨i+(j+4),n,by simp only[List.cons.injEq,Value.int.injEq,true_and,and_true];omega,by omega,rfl,?_,by omega⟩,?_⟩
    ·rw[<-hr,<-dH,hd'];simp only[Prod.mk.injEq,and_true];omega
    ·simp only[Int.toNat_natCast];omega
  ·rw[if_neg (by rw[hcm2];decide),Nat.zero_add]at hr;rw[<-hr]at hK;exact hK
 ·obtain rfl:i=s.length:=by omega
  rw[List.drop_length]at hr;simp only[dE,Nat.zero_add]at hr;rw[<-hr]at hK;exact hK
def lR(x:Nat×Int):List Value:=if x.2=0 then [i64 ((x.1+1:Nat):Int),i64 0]else [i64 0,i64 x.2]
def TxC(n:Nat):Prop:=∀(c:UInt8) (r:aH) (d:Nat) (w:World) (K:Q0),r.length<n->r.length<=1000000->d<=24->K (.tuple (lR (dO r d)).toArray) w->aA P0 76 [str (c::r),i64 (d:Nat)] w K
def InC(n:Nat):Prop:=∀(c:UInt8) (r:aH) (d:Nat) (w:World) (K:Q0),r.length<n->r.length<=1000000->d<=25->K (.tuple (lR (if 24<d then(0,7)else fV r d)).toArray) w->aA P0 108 [str (c::r),i64 (d:Nat)] w K
theorem kF{x:Nat×Int}:lR (jC i x)=if x.2=0 then [i64 ((i+x.1+1:Nat):Int),i64 0]else [i64 0,i64 x.2]:=by
 unfold lR jC;by_cases h:x.2=0
 ·simp only[h,if_true];rw[show x.1+i+1=i+x.1+1 by omega]
 ·simp only[if_neg h]
theorem Qe(hi:InC n):TxC (n+1):=by
 intro c r d w K hn hl hd24 hK;refine ZS ?_;unfold W76;have hlen:(c::r).length=r.length+1:=rfl;generalize hR:lR (dO r d)=R0 at hK;have cond:∀{c:UInt8} (k:Nat),k<256->(((c.toNat:Nat):Int)=(k:Int)↔c=UInt8.ofNat k):=λ{c} k hk=>by
  have:=Cr c k hk;rwa[decide_eq_decide]at this
 refine bL.go (λst w'=>∃i:Nat,st=[i64 ((i+1:Nat):Int)]/\w'=w/\i<=r.length/\lR (jC i (dO (r.drop i) d))=R0) (λst _=>match st with|[.int _ i]=>r.length+1-i.toNat|_=>0) ⟨0,rfl,rfl,by omega,by rw[List.drop_zero,kF,<-hR];unfold lR;rw[Nat.zero_add]⟩ ?_;rintro st g w2 ⟨i,rfl,rfl,hi',hr⟩;simp only[List.getD_cons_zero];rw[dI,cA,aB,hlen];refine⟨λhlt=>?_,λhge=>?_⟩
 ·have hlt:i<r.length:=by omega
  have hd:=eV hlt;rw[hd,lN]at hr;simp only[beq_iff_eq]at hr;have ix:∀{KK:Value->Prop},KK (cv r[i])->lJ (str (c::r)) (i64 ((i+1:Nat):Int)) KK:=λh=>nA (s:=c::r) (i:=i+1) (by rw[hlen];omega) h;refine ix ?_;rw[aM,aB];refine⟨λe=>?_,λe=>?_⟩
  ·have e:r[i]=34:=(cond 34 (by omega)).1 e;rw[if_pos e,kF,if_pos rfl]at hr;rw[aW,Ai (by omega)];rw[<-hr]at hK;exact hK
  have e:¬r[i]=34:=λh=>e ((cond 34 (by omega)).2 h);rw[if_neg e]at hr;refine ix ?_;rw[aM,aB];refine⟨λe=>?_,λe=>?_⟩
  ·have e:r[i]=10:=(cond 10 (by omega)).1 e;rw[if_pos e,kF,if_neg (by simp)]at hr;rw[<-hr]at hK;exact hK
  have e:¬r[i]=10:=λh=>e ((cond 10 (by omega)).2 h);rw[if_neg e]at hr;refine ix ?_;rw[aM,aB];refine⟨λe=>?_,λe=>?_⟩
  ·have e:r[i]=92:=(cond 92 (by omega)).1 e;rw[if_pos e]at hr;rw[aW,Ai (by omega),dI,gR,hlen];simp only[iB];by_cases hend:r.length<=i+1
   ·have e0:r.drop (i+1)=[]:=List.drop_of_length_le hend;rw[e0]at hr;simp only at hr;rw[kF,if_neg (by simp)]at hr;rw[decide_eq_true (by omega),Bool.not_true,vU];intro g2;rw[iS,bZ];rw[<-hr]at hK;exact hK
   ·have hlt2:i+1<r.length:=by omega
    have hd2:=eV hlt2;rw[hd2]at hr;simp only at hr;rw[decide_eq_false (by omega),Bool.not_false];refine cX.look (!Lex.escOk r[i+1]) (λ_ J hJ=>?_) λg2=>?_
    ·rw[aW,Ai (by omega)];refine nA (s:=c::r) (i:=i+2) (by rw[hlen];omega) ?_;refine Bw ?_;rw[cA];have:=aDF r[i+1];rw[show(c::r)[i+2]=r[i+1]from rfl,this];exact hJ
    simp only[List.getD_cons_zero,cond_true,oD];rw[aQ];refine⟨λhb=>?_,λhg=>?_⟩
    ·have hb:¬Lex.escOk r[i+1]=true:=by simpa using hb
     rw[if_neg hb,kF,if_neg (by simp)]at hr;rw[<-hr]at hK;exact hK
    ·have hg:Lex.escOk r[i+1]=true:=by simpa using hg
     rw[if_pos hg,add_add]at hr;rw[aW,bD (by omega) (by omega)];refine⟨⟨i+2,by simp only[List.cons.injEq,Value.int.injEq,true_and,and_true];omega,trivial,by omega,hr⟩,?_⟩;simp only[Int.toNat_natCast];omega
  have e:¬r[i]=92:=λh=>e ((cond 92 (by omega)).2 h);rw[if_neg e]at hr;rw[dP,cZ,cO];refine⟨by omega,by rw[hlen];omega,?_⟩;rw[List.take_length,Int.toNat_natCast,List.drop_succ_cons,hd];refine wF ?_;rw[pre_eq,aQ];refine⟨λe=>?_,λe=>?_⟩
  ·rw[if_pos e]at hr;have h2:=Ew e;have hlt2:i+1<r.length:=by
    simp only[List.length_cons,List.length_nil,List.length_drop]at h2;omega
   have hd2:=eV hlt2;rw[aW,Ai (by omega),dP,cZ,cO];refine⟨by omega,by rw[hlen];omega,?_⟩;rw[List.take_length,Int.toNat_natCast,List.drop_succ_cons,hd2,aW,Ai (by omega)];have hdd:(r.drop (i+1)).drop 1=r.drop (i+2):=by rw[dH]
   rw[hdd]at hr;have hll:(r.drop (i+2)).length=r.length-(i+2):=List.length_drop ..;refine hi _ _ (d+1) _ _ (by show(r.drop (i+2)).length<n;omega) (by show(r.drop (i+2)).length<=_;omega) (by omega) ?_;have hx':∃x:Nat×Int,x=(if 24<d+1 then((0:Nat),(7:Int))else fV (r.drop (i+2)) (d+1))/\lR (jC i (if x.2=0 then jC (x.1+2) (dO ((r.drop (i+2)).drop x.1) d)else(0,x.2)))=R0/\(x.2=0->x.1<=(r.drop (i+2)).length):=by
    refine⟨_,rfl,?_,?_⟩
    ·by_cases h:24<d+1
     ·rw[if_pos h]at hr⊢;exact hr
     ·rw[if_neg h]at hr⊢;exact hr
    ·by_cases h:24<d+1
     ·rw[if_pos h];intro h;exact absurd h (by simp)
     ·rw[if_neg h];intro h0;exact((fE _ (r.drop (i+2)) (Nat.le_refl _)).2 (d+1) _ (Prod.ext rfl h0)).1.2
   obtain⟨x,ex,hr,hxl⟩:=hx';rw[show r.drop (i+1+1)=r.drop (i+2)from rfl,<-ex];by_cases h0:x.2=0
   ·have eo:lR x=[i64 ((x.1+1:Nat):Int),i64 0]:=by unfold lR;rw[if_pos h0]
    have hxl:=hxl h0;rw[if_pos h0,add_add,dH]at hr;rw[eo,aK];refine⟨i64 ((x.1+1:Nat):Int),rfl,?_⟩;rw[aK];refine⟨i64 0,rfl,?_⟩;rw[dG,aB];refine⟨λh=>absurd rfl h,λ_=>?_⟩;rw[aW,bD (by omega) (by omega),aW,bD (by omega) (by omega)];refine⟨⟨i+(x.1+2),by simp only[List.cons.injEq,Value.int.injEq,true_and,and_true];omega,rfl,by omega,by rw[show i+(x.1+2)=i+2+x.1 by omega]at hr⊢;exact hr⟩,?_⟩;simp only[Int.toNat_natCast];omega
   ·have eo:lR x=[i64 0,i64 x.2]:=by unfold lR;rw[if_neg h0]
    rw[if_neg h0,kF,if_neg h0]at hr;rw[eo,aK];refine⟨i64 0,rfl,?_⟩;rw[aK];refine⟨i64 x.2,rfl,?_⟩;rw[dG,aB];refine⟨λ_=>by rw[<-hr]at hK;exact hK,λh=>absurd h0 h⟩
  ·rw[if_neg (by rw[e];decide),add_add]at hr;rw[aW,Ai (by omega)];refine⟨⟨i+1,rfl,rfl,by omega,hr⟩,?_⟩;simp only[Int.toNat_natCast];omega
 ·obtain rfl:i=r.length:=by omega
  rw[List.drop_length,lM,kF,if_neg (by simp)]at hr;rw[<-hr]at hK;exact hK
theorem Tj(hi:InC n)(htx:TxC n):InC (n+1):=by
 intro c r d w K hn hl hd25 hK;refine VD ?_;unfold aC4;rw[iN,aB];refine⟨λh=>?_,λh=>?_⟩
 ·rw[if_pos (by omega)]at hK;exact hK
 have hd24:d<=24:=by omega
 rw[if_neg (by omega)]at hK;have hlen:(c::r).length=r.length+1:=rfl;generalize hR:lR (fV r d)=R0 at hK;have cond:∀{c:UInt8} (k:Nat),k<256->(((c.toNat:Nat):Int)=(k:Int)↔c=UInt8.ofNat k):=λ{c} k hk=>by
  have:=Cr c k hk;rwa[decide_eq_decide]at this
 refine bL.go (λst w'=>∃i:Nat,st=[i64 ((i+1:Nat):Int)]/\w'=w/\i<=r.length/\lR (jC i (fV (r.drop i) d))=R0) (λst _=>match st with|[.int _ i]=>r.length+1-i.toNat|_=>0) ⟨0,rfl,rfl,by omega,by rw[List.drop_zero,kF,<-hR];unfold lR;rw[Nat.zero_add]⟩ ?_;rintro st g w2 ⟨i,rfl,rfl,hi',hr⟩;simp only[List.getD_cons_zero];rw[dI,cA,aB,hlen];refine⟨λhlt=>?_,λhge=>?_⟩
 ·have hlt:i<r.length:=by omega
  have hd:=eV hlt;rw[hd,yR]at hr;simp only[beq_iff_eq]at hr;have hll:(r.drop (i+1)).length=r.length-(i+1):=List.length_drop ..;refine aP.cut (λst w'=>w'=w2/\∃(k:Nat) (e:Int),st=[i64 (if e=0 then((k+1:Nat):Int)else 0),i64 e]/\(e=0->i+(k+1)<=r.length/\lR (jC (i+(k+1)) (fV (r.drop (i+(k+1))) d))=R0)/\(e≠0->[i64 0,i64 e]=R0)) ?_ ?_
  ·refine nA (s:=c::r) (i:=i+1) (by rw[hlen];omega) ?_;show aC .eql (cv r[i]) _ _;rw[aM,aB];refine⟨λe=>?_,λe=>?_⟩
   ·have e:r[i]=125:=(cond 125 (by omega)).1 e;rw[if_pos e,kF,if_pos rfl]at hr;rw[aW,Ai (by omega)];rw[<-hr]at hK;exact hK
   have e:¬r[i]=125:=λh=>e ((cond 125 (by omega)).2 h);rw[if_neg e]at hr;rw[aM,aB];refine⟨λe=>?_,λe=>?_⟩
   ·have e:r[i]=10:=(cond 10 (by omega)).1 e;rw[if_pos e,kF,if_neg (by simp)]at hr;rw[<-hr]at hK;exact hK
   have e:¬r[i]=10:=λh=>e ((cond 10 (by omega)).2 h);rw[if_neg e]at hr;have sub:∀(x:Nat×Int),lR (jC i (if x.2=0 then jC (x.1+1) (fV ((r.drop (i+1)).drop x.1) d)else(0,x.2)))=R0->(x.2=0->x.1<=(r.drop (i+1)).length)->bS 0 (.tuple (lR x).toArray) λt33=>bS 1 (.tuple (lR x).toArray) λt34=>(λ(st:List Value) (w':World)=>w'=w2/\∃(k:Nat) (e:Int),st=[i64 (if e=0 then((k+1:Nat):Int)else 0),i64 e]/\(e=0->i+(k+1)<=r.length/\lR (jC (i+(k+1)) (fV (r.drop (i+(k+1))) d))=R0)/\(e≠0->[i64 0,i64 e]=R0)) [t33,t34] w2:=λx hx hxl=>by
    by_cases h0:x.2=0
    ·have eo:lR x=[i64 ((x.1+1:Nat):Int),i64 0]:=by unfold lR;rw[if_pos h0]
     have hxl:=hxl h0;rw[if_pos h0,add_add,dH]at hx;rw[eo,aK];refine⟨i64 ((x.1+1:Nat):Int),rfl,?_⟩;rw[aK];refine⟨i64 0,rfl,rfl,x.1,0,by rw[if_pos rfl],λ_=>⟨by omega,by rw[show i+(x.1+1)=i+1+x.1 by omega]at hx⊢;exact hx⟩,λh=>absurd rfl h⟩
    ·have eo:lR x=[i64 0,i64 x.2]:=by unfold lR;rw[if_neg h0]
     rw[if_neg h0,kF,if_neg h0]at hx;rw[eo,aK];refine⟨i64 0,rfl,?_⟩;rw[aK];exact⟨i64 x.2,rfl,rfl,0,x.2,by rw[if_neg h0],λh=>absurd h h0,λ_=>hx⟩
   rw[aM,aB];refine⟨λe=>?_,λe=>?_⟩
   ·have e:r[i]=123:=(cond 123 (by omega)).1 e;rw[if_pos e]at hr;rw[dP,cZ,cO];refine⟨by omega,by rw[hlen];omega,?_⟩;rw[List.take_length,Int.toNat_natCast,List.drop_succ_cons,hd,aW,Ai (by omega)];refine hi _ _ (d+1) _ _ (by omega) (by omega) (by omega) ?_;refine sub _ ?_ ?_
    ·by_cases h:24<d+1
     ·rw[if_pos h]at hr⊢;exact hr
     ·rw[if_neg h]at hr⊢;exact hr
    ·by_cases h:24<d+1
     ·rw[if_pos h];intro h;exact absurd h (by simp)
     ·rw[if_neg h];intro h0;exact((fE _ (r.drop (i+1)) (Nat.le_refl _)).2 (d+1) _ (Prod.ext rfl h0)).1.2
   have e:¬r[i]=123:=λh=>e ((cond 123 (by omega)).2 h);rw[if_neg e]at hr;rw[aM,aB];refine⟨λe=>?_,λe=>?_⟩
   ·have e:r[i]=34:=(cond 34 (by omega)).1 e;rw[if_pos e]at hr;rw[dP,cZ,cO];refine⟨by omega,by rw[hlen];omega,?_⟩;rw[List.take_length,Int.toNat_natCast,List.drop_succ_cons,hd];refine htx _ _ d _ _ (by omega) (by omega) hd24 ?_;refine sub _ hr λh0=>?_;exact((fE _ (r.drop (i+1)) (Nat.le_refl _)).1 d _ (Prod.ext rfl h0)).2.2
   ·have e:¬r[i]=34:=λh=>e ((cond 34 (by omega)).2 h);rw[if_neg e,add_add]at hr;exact⟨rfl,0,0,rfl,λ_=>⟨by omega,hr⟩,λh=>absurd rfl h⟩
  rintro st g2 w3 ⟨rfl,k,e,rfl,h1,h2⟩;simp only[List.getD_cons_zero,List.getD_cons_succ];rw[dG,aB];refine⟨λhe=>by rw[<-h2 he]at hK;exact hK,λhe=>?_⟩;have he:e=0:=by
   by_cases h:e=0
   ·exact h
   ·exact absurd h he
  obtain⟨g1,g2⟩:=h1 he;rw[if_pos he,aW,bD (by omega) (by omega)];refine⟨⟨i+(k+1),by simp only[List.cons.injEq,Value.int.injEq,true_and,and_true];omega,trivial,g1,g2⟩,?_⟩;simp only[Int.toNat_natCast];omega
 ·obtain rfl:i=r.length:=by omega
  rw[List.drop_length,Bv,kF,if_neg (by simp)]at hr;rw[<-hr]at hK;exact hK
theorem JK:∀n,TxC n/\InC n
 |0=>⟨λ_ _ _ _ _ h=>by omega,λ_ _ _ _ _ h=>by omega⟩
 |n+1=>⟨Qe (JK n).2,Tj (JK n).2 (JK n).1⟩
theorem SN{r:aH}{d:Nat}{K:Q0}(hl:r.length<=1000000)(hd:d<=24)(hK:K (.tuple (lR (dO r d)).toArray) w):aA P0 76 [str (c::r),i64 (d:Nat)] w K:=(JK (r.length+1)).1 c r d w K (by omega) hl hd hK
end
theorem Qw(c d:UInt8)(r:aH):[d].isPrefixOf (c::r)=(d==c):=by simp[List.isPrefixOf]
theorem LP(s:aH):Lib.index s [10]=if cH (λb=>b !=10) s<s.length then((cH (λb=>b !=10) s:Nat):Int)else-1:=by
 induction s with
 |nil=>rfl
 |cons c r ih=>
  simp only[Lib.index,Qw];by_cases h:c=10
  ·subst h;rfl
  ·have h1:((10:UInt8)==c)=false:=by rw[beq_eq_false_iff_ne];exactλe=>h e.symm
   have h2:(c !=10)=true:=by simp[h]
   have e2:cH (λb=>b !=10) (c::r)=cH (λb=>b !=10) r+1:=by simp only[cH];rw[if_pos h2]
   obtain⟨k,hk0⟩:∃k,k=cH (λb=>b !=10) r:=⟨_,rfl⟩;have ih':Lib.index r [10]=if k<r.length then(k:Int)else-1:=by rw[hk0];exact ih
   rw[h1,if_neg (by decide),ih',e2,<-hk0];simp only[List.length_cons];by_cases hk:k<r.length
   ·have e3:(if k<r.length then(k:Int)else-1)=k:=if_pos hk;have e4:(if k+1<r.length+1 then((k+1:Nat):Int)else-1)=((k+1:Nat):Int):=if_pos (by omega);rw[e3,e4,if_neg (by simp only[beq_iff_eq];omega)];rfl
   ·have e3:(if k<r.length then(k:Int)else-1)=-1:=if_neg hk;have e4:(if k+1<r.length+1 then((k+1:Nat):Int)else-1)=-1:=if_neg (by omega);rw[e3,e4];rfl
theorem TC(s:aH):(Lib.cut s [10]).1=s.take (cH (λb=>b !=10) s)/\(Lib.cut s [10]).2.2=decide (cH (λb=>b !=10) s<s.length):=by
 have hle:=mO (λb=>b !=10) s;unfold Lib.cut;rw[LP];by_cases h:cH (λb=>b !=10) s<s.length
 ·rw[if_pos h,if_pos (by omega),Int.toNat_natCast];exact⟨rfl,by simp[h]⟩
 ·rw[if_neg h,if_neg (by omega)];exact⟨by rw[List.take_of_length_le (by omega)],by simp[h]⟩
theorem MI(l:aH):Lib.trimLeftS l [32,9]=l.drop (cH (λb=>b==32||b==9) l):=by
 unfold Lib.trimLeftS;induction l with
 |nil=>rfl
 |cons c r ih=>
  simp only[List.dropWhile_cons,cH];have e:([32,9]:aH).contains c=(c==32||c==9):=by simp[List.contains,List.elem];cases(c==32)<;>cases(c==9)<;>rfl
  rw[e];by_cases hb:(c==32||c==9)=true
  ·rw[if_pos hb,if_pos hb];exact ih
  ·rw[if_neg hb,if_neg hb];rfl
theorem LV(a b:aH):gA (a++b)=gA a++gA b:=by
 induction a with
 |nil=>rfl
 |cons c r ih=>
  simp only[List.cons_append,gA]
  (repeat' split)<;>simp only[List.cons_append,ih]
theorem Jc{u:aH}(h:∀c∈u,128<=c.toNat):gA u=u:=by
 induction u with
 |nil=>rfl
 |cons c r ih=>
  have hc:=h c List.mem_cons_self;have n:∀k:UInt8,k.toNat<128->(c==k)=false:=λk hk=>by
   rw[beq_eq_false_iff_ne];intro e;subst e;omega
  simp only[gA,n 92 (by decide),n 34 (by decide),n 36 (by decide),n 9 (by decide),n 13 (by decide),Bool.or_self,Bool.false_eq_true,if_false,ih λx hx=>h x (List.mem_cons_of_mem _ hx)]
theorem qK{r:aH}(h:Utf (c::r))(hc:c.toNat<128):Utf r:=by
 generalize he:c::r=z at h;cases h with
 |nil=>cases he
 |@cons u r' hu hr=>
  rcases hu.cases with⟨x,rfl,_⟩|hh
  ·simp only[List.cons_append,List.nil_append,List.cons.injEq]at he;rw[he.2];exact hr
  ·cases u with
   |nil=>exact absurd rfl hu.1
   |cons y u'=>
    simp only[List.cons_append,List.cons.injEq]at he;have:=hh y List.mem_cons_self;rw[<-he.1]at this;omega
theorem KZ{t:aH}(h:Utf t):∀{a b:aH} {c:UInt8},t=a++c::b->c.toNat<128->Utf a/\Utf (c::b):=by
 induction h with
 |nil=>intro a b c e;simp at e
 |@cons u r hu hr ih=>
  intro a b c e hc;by_cases hle:u.length<=a.length
  ·have h1:a=u++a.drop u.length:=by
    have:=congrArg (List.take u.length) e;rw[List.take_left,List.take_append_of_le_length hle]at this;have h2:=List.take_append_drop u.length a;rw[<-this]at h2;exact h2.symm
   rw[h1,List.append_assoc]at e;have e:=List.append_cancel_left e;obtain⟨i1,i2⟩:=ih e hc;rw[h1];exact⟨.cons hu i1,i2⟩
  ·have hmem:c∈u:=by
    have:(u++r)[a.length]?=some c:=by rw[e];simp
    rw[List.getElem?_append_left (by omega)]at this;exact List.mem_of_getElem? this
   rcases hu.cases with⟨x,rfl,_⟩|hh
   ·have ha:a=[]:=List.eq_nil_of_length_eq_zero (by simp only[List.length_cons,List.length_nil]at hle;omega);subst ha;simp only[List.nil_append]at e;rw[<-e];exact⟨.nil,.cons hu hr⟩
   ·have:=hh c hmem;omega
theorem wQ{t:aH}(h:Utf t){b:aH}(hd:t.drop i=c::b)(hc:c.toNat<128):Utf (t.take i)/\Utf (c::b):=
 KZ h (by rw[<-hd,List.take_append_drop]) hc
theorem MB{s:aH}(h:Utf s):Utf (s.take (cH (λb=>b !=10) s))/\(cH (λb=>b !=10) s<s.length->Utf (s.drop (cH (λb=>b !=10) s+1))):=by
 have stop:∀s:aH,∀b,(s.drop (cH (λb=>b !=10) s)).head?=some b->b=10:=by
  intro s;induction s with
  |nil=>intro b hb;simp[cH]at hb
  |cons c r ih=>
   intro b hb;simp only[cH]at hb;by_cases hc:(c !=10)=true
   ·rw[if_pos hc,List.drop_succ_cons]at hb;exact ih b hb
   ·rw[if_neg hc]at hb;simp only[List.drop_zero,List.head?_cons,Option.some.injEq]at hb;rw[<-hb];simpa using hc
 by_cases hk:cH (λb=>b !=10) s<s.length
 ·have hd:=eV hk;have h10:=stop s s[cH (λb=>b !=10) s] (by rw[hd];rfl);obtain⟨h1,h2⟩:=wQ h hd (by rw[h10];decide);exact⟨h1,λ_=>qK h2 (by rw[h10];decide)⟩
 ·exact⟨by rw[List.take_of_length_le (by omega)];exact h,λe=>absurd e hk⟩
theorem uC.ext(h:uC w)(hx:bA w w'):uC w':=by
 obtain⟨m,h⟩:=h;refine⟨m,?_⟩;rw[aX]at h⊢;cases hh:w.heap[0]? with
 |none=>rw[hh]at h;cases h
 |some o=>rw[hx.at hh id];rw[hh]at h;exact h
section
variable [HX]
theorem Bh{l:aH}{K:Q0}(hK:K (.pointer (some ⟨w.heap.size,0,none⟩)) (w.alloc (.stringIter (aL l) 0))):bP P0 (Instr.range 9 (str l)) w K:=by
 have hT:Tryz.prog.underlying 9=some .string:=by kernel_rfl
 have hr:(Instr.range 9 (str l)).run P0 w=.ok (.pointer (some ⟨w.heap.size,0,none⟩)) (w.alloc (.stringIter (aL l) 0)):=by
  simp[Instr.range,run_bind,aJ hT,run_pure,newObj,Sem.run]
 unfold bP;rw[hr];exact hK
theorem Og{r:Nat}{o:Obj}(h:r<w.heap.size):aS (· =r) w {w with heap:=w.heap.setIfInBounds r o}:=
 ⟨rfl,rfl,rfl,by simp,λk _ hk=>by
  show(w.heap.setIfInBounds r o)[k]?=_
  rw[Array.getElem?_setIfInBounds_ne (by omega)]⟩
theorem Db{r pos:Nat}{l:aH}{K:Q0}(hw:w.heap[r]?=some (.stringIter (aL l) pos))
  (h0:l.length<=pos->K (.tuple #[.bool false]) w)
  (h1:pos<l.length->∀w',w'.heap[r]?=some (.stringIter (aL l) (pos+(Utf8.decode (aL l) pos).2))->aS (· =r) w w'->w'.heap.size=w.heap.size->K (.tuple #[.bool true,i64 pos,.int .i32 (Utf8.decode (aL l) pos).1]) w'):
  bP P0 (Instr.next (.pointer (some ⟨r,0,none⟩)) true T) w K:=by
 have hg:(getObj r).run P0 w=.ok (.stringIter (aL l) pos) w:=by simp[getObj,Sem.run,hw]
 have hlt:r<w.heap.size:=(Array.getElem?_eq_some_iff.1 hw).1;unfold bP;simp only[Instr.next,run_bind,hg,dC];by_cases hp:pos<l.length
 ·have hset:(setObj r (.stringIter (aL l) (pos+(Utf8.decode (aL l) pos).2))).run P0 w=.ok () {w with heap:=w.heap.setIfInBounds r (.stringIter (aL l) (pos+(Utf8.decode (aL l) pos).2))}:=by simp[setObj,Sem.run,hw]
  rw[if_pos hp];simp only[run_bind,hset,run_pure];exact h1 hp _ (by simp[hlt]) (Og hlt) (by simp)
 ·rw[if_neg hp];simp only[run_pure];exact h0 (by omega)
theorem MZ{r:aH}{K:Q0}(hl:r.length<=1000000)(hK:K (str (qT (c::r))) w):aA P0 78 [str (c::r)] w K:=by
 refine ZQ ?_;unfold W78;unfold qT at hK;refine aP.cut (λ_ w'=>w'=w/\tF.contains ((c::r).take 2)=false) ?_ ?_
 ·rw[dI,iN,aB];refine⟨λhlen=>?_,λhlen=>⟨rfl,?_⟩⟩
  ·rw[dP,cO];refine⟨by omega,by omega,?_⟩;rw[cZ,List.drop_zero];rw[show(c::r).take (Int.toNat 2)=(c::r).take 2 from rfl];generalize hx:(c::r).take 2=x at hK⊢;refine aP.cut (λst w'=>st=[.bool (tF.contains x)]/\w'=w) ?_ ?_
   ·unfold tF;simp only[List.contains_cons,List.contains_nil,Bool.or_false];have eqd:∀y:aH,decide (x=y)=(x==y):=λy=>by rw[Bool.eq_iff_iff];simp
    simp only[nK,eqd];generalize (x==[61,61])=a1;generalize (x==[33,61])=a2;generalize (x==[60,61])=a3;generalize (x==[62,61])=a4;generalize (x==[38,38])=a5;generalize (x==[124,124])=a6;cases a1<;>simp only[bZ,bJ,Bool.true_or,Bool.false_or,and_self];cases a2<;>simp only[bZ,bJ,Bool.true_or,Bool.false_or,and_self];cases a3<;>simp only[bZ,bJ,Bool.true_or,Bool.false_or,and_self];cases a4<;>simp only[bZ,bJ,Bool.true_or,Bool.false_or,and_self];cases a5<;>simp only[bZ,bJ,Bool.true_or,Bool.false_or,and_self]
   rintro st g w' ⟨rfl,rfl⟩;simp only[List.getD_cons_zero];rw[aQ];refine⟨λhy=>?_,λhn=>⟨trivial,hn⟩⟩;rw[if_pos hy]at hK;rw[dP,cO];refine⟨by omega,by omega,?_⟩;rw[cZ,List.drop_zero];show K (str ((c::r).take 2)) w';rw[hx];exact hK
  ·have:r=[]:=List.eq_nil_of_length_eq_zero (by simp only[List.length_cons]at hlen;omega);subst this;simp[tF]
 rintro _ g w' ⟨rfl,hn⟩;rw[if_neg (by rw[hn];decide)]at hK;refine nA (s:=c::r) (i:=0) (by simp) ?_;show aA P0 68 [_,cv c] w' _;refine Bw ?_;rw[gR,Xe,aQ];have hK:K (str (if yB.contains c=true then(c::r).take 1 else [])) w':=hK;refine⟨λhy=>?_,λhy=>?_⟩
 ·rw[if_pos hy]at hK;rw[dP,cO];refine⟨by omega,by simp only[List.length_cons];omega,?_⟩;rw[cZ,List.drop_zero];exact hK
 ·rw[if_neg (by rw[hy];decide)]at hK;exact hK
theorem Zm{t:aH}{K:Q0}(hT:uC w)(hl:t.length<=1000000)(hK:∀x w',bA w w'->K (.tuple #[str (t.take (cH (λb=>b !=10) t)),x,.bool (decide (cH (λb=>b !=10) t<t.length))]) w'):aA P0 110 [str t,str [10]] w K:=by
 obtain⟨m,hm⟩:=hT;refine eA (args:=#[str t,str [10]]) Tryz.call110 ((Tryz.strings_Cut (aL t) (aL [10]) m w (by rw[dC];omega) hm).mono ?_);rintro e w' ⟨rfl,n,rfl⟩;obtain⟨h1,h2⟩:=TC t;rw[cK,cK];refine⟨_,rfl,?_⟩;rw[show(⟨(Lib.cut t [10]).1.toArray⟩:ByteArray)=aL (t.take (cH (λb=>b !=10) t))from by rw[h1];rfl,h2];refine hK _ _ ?_;exact⟨rfl,rfl,rfl,Nat.le_refl _,λ_ _ _=>rfl⟩
theorem Qf{t:aH}{K:Q0}(hl:t.length<=1000000)(hK:∀w',bA w w'->K (str (t.drop (cH (λb=>b==32||b==9) t))) w'):aA P0 111 [str t,str [32,9]] w K:=by
 refine eA (args:=#[str t,str [32,9]]) Tryz.call111 ((Tryz.strings_TrimLeft_laid (aL t) (aL [32,9]) w (by rw[dC];decide) (λj b hb=>?_)).mono ?_)
 ·rw[cK]at hb;have:=List.mem_of_getElem? hb;simp only[List.mem_cons,List.not_mem_nil,or_false]at this;rcases this with rfl|rfl<;>decide
 rintro e w' ⟨rfl,hb⟩;rw[cK,cK,MI];exact⟨_,rfl,hK w' (aS.of_below hb)⟩
end
end
end Go.Proofs.YtghhmpppnmoeoaaGreatDoor
